/- Merged texts: EngA, EngB, EngC, EngD, EngE, EngF, EngG, EngH, EngI, EngJ, EngK, EngM, EngN, EngO. -/
import Derived.WalkKit
import Derived.KernelRfl
import Derived.Deep.MidRow
import Derived.Great.BuildSlice
import Derived.Lib.Hide
import Derived.Laws.Externs
import Derived.Laws.Tables
import Derived.Orders
set_option linter.defProp false
open Array renaming all_eq_true->fH,getD->ed,getD_eq_getD_getElem?->aY,getElem?_eq_getElem->cO,getElem?_eq_none->iV,getElem?_setIfInBounds->cZ,length_toList->gy,range->jr,replicate->dg
open BitVec renaming ofInt->bW
open Bool renaming and_eq_false_iff->aX,and_eq_true->az,false->ae,false_or->iR,not_eq_true->bv,not_eq_true'->bh,not_false->iM,not_true->kp,or_eq_true->bw,true->af,true_and->cm
open Go.Builtin renaming len_->fj,max2->jU,min2->jV
open Go.ByteArray renaming toList_eq->fR
open Go.Instr renaming buildSlice->ie,fill->kJ,index->jc,indexAt->iN,sureAddr->eL
open Go.Op renaming bytesLess->dX,equalIn->iy,intArith->kS,intBits->kY,operands->ba,stringOp->kT
open Go.Region renaming binds->kh,ready->iS,wanted->cX
open Go.Result renaming andThen_ok->aH
open Go.Sem renaming run->gJ,run_bind->aL,run_pure->aR
open Iff renaming rfl->fS
open List renaming append_assoc->db,filter_cons->ig,flatMap_cons->ic,getD_eq_getElem?_getD->aI,getElem?_append_left->cf,getElem?_append_right->ct,getElem?_drop->cL,getElem?_eq_getElem->aq,getElem?_eq_some_iff->ar,getElem?_map->cw,getElem?_take->bU,getElem?_toArray->cG,getElem_of_mem->da,length_append->aO,length_cons->aT,map_cons->ei,mem_append->dJ,mem_cons->bE,mem_cons_of_mem->cx,mem_filter->di,mem_map->gh,mem_of_getElem?->cp,mem_range->dq,range->cy,rec->kX,replicate->aS,singleton_append->gg
open Nat renaming add_assoc->dE,add_mul->cK,add_zero->dP,beq->bf,beq_eq->eV,ble->cn,ble_eq->bx,blt->aZ,eq_of_beq_eq_true->aG,le_of_ble_eq_true->gA,le_of_eq->jd,le_refl->aE,le_trans->bY,lt_of_lt_of_le->cC,lt_succ_self->fx,lt_trichotomy->fG,mod_lt->iW,mul_le_mul_right->bH,one_mul->iz,succ->hJ,testBit_or->kq,zero_add->bX
open Option renaming bind_some->gT,getD_some->dH,map_eq_some_iff->ck,map_some->cH,ne_none_iff_exists'->bt,none->aD,some->ah
open Option.some renaming inj->aU,injEq->cF
open UInt8 renaming lt_iff_toNat_lt->dO,ofNat->kA,toNat->ff,toNat_inj->im
namespace Go.Proofs.YtahcfmdfjjjmjaaGreatDoor
def fk:=@decide_eq_false_iff_not
def fw:=@decide_eq_true_eq
def fV:=@beq_eq_false_iff_ne
def fX:=@bne_eq_false_iff_eq
def gF:=@beq_iff_eq
def gM:=@bne_iff_ne
def ib:=@beq_self_eq_true
def il:=@not_true_eq_false
def iF:=@not_false_eq_true
def iK:=@of_decide_eq_true
def iT:=@of_decide_eq_false
def iZ:=@decide_eq_true
def jb:=@if_neg
def jh:=@if_pos
def jn:=@true_implies
def js:=@trivial
def jv:=@absurd
def jy:=@congrArg
def jC:=@imp_self
def jH:=@gt_iff_lt
def jI:=@ge_iff_le
def jP:=@if_true
def jQ:=@if_false
set_option linter.unusedVariables false
set_option linter.unusedSimpArgs false
set_option linter.unnecessarySimpa false
set_option maxRecDepth 100000
section
structure Thy where
 Th:Type
 dom:Th->Type
 eq:DecidableEq Th
def toL(b:ByteArray):List Nat:=b.data.toList.map ff
def mkS(l:List Nat):ByteArray:=⟨(l.map kA).toArray⟩
inductive ExtK where
 |add64
 |indexByteS
 |same
inductive SV(Y:Thy) where
 |unk
 |val (v:Value)
 |int (l:Bool) (k:IntKind) (n:Int)
 |bool (l:Bool) (b:Bool)
 |str (l:Bool) (s:List Nat)
 |ptr (b off:Nat)
 |eptr (b i w off:Nat)
 |pptr (th:Y.Th) (x:Y.dom th) (off:Nat)
 |sl (b off len w:Nat) (cap:Option Nat)
 |psl (th:Y.Th) (l:List (Y.dom th)) (full:Bool)
 |agg (cs:List (SV Y))
 |tup (vs:List (SV Y))
 |fn (f:Fn) (first cap:List (SV Y))
 |map (b:Nat)
 |pmap (es:List (Value×SV Y))
 |iface (t:TypeId) (v:SV Y)
 |pan (u:Value)
inductive Blk(Y:Thy) where
 |raw (cs:List (SV Y)) (fz:Nat) (tg:Option Y.Th)
 |rows (th:Y.Th) (l:List (Y.dom th)) (fz:Nat)
 |map (es:List (Value×SV Y))
structure TyI where
 d:TypeDesc
 size:Nat
 bytes:Nat
 zero:Value
structure Eng(Y:Thy) where
 P:Program
 ty:TypeId->Option TyI
 enc:(th:Y.Th)->Y.dom th->List (SV Y)
 w:Y.Th->Nat
 el:Y.Th->TypeId
 thOf:TypeId->Option Y.Th
 dec:(th:Y.Th)->List (SV Y)->Option (Y.dom th)
 glob:Nat->Option (SV Y)
 lit:Bool
 eqs:List TypeId
 arrOf:TypeId->Option Y.Th
 ext:Nat->Option ExtK:=λ_=>aD
 smap:TypeId->Option Y.Th:=λ_=>aD
 rowS:TypeId->Bool:=λ_=>ae
 nap:TypeId->Bool:=λ_=>ae
structure Res(Y:Thy) where
 v:SV Y
 n:Nat
 mods:List Nat
 h:Nat->Option (Blk Y)
 rd:Option (List Nat)
abbrev Hp(Y:Thy):=Nat->Option (Blk Y)
abbrev Fr(Y:Thy):=Nat->SV Y
section
variable {Y:Thy}
def Zfu:Value->SV Y
 | .int k n=> .int af k n
 | .bool b=> .bool af b
 | .string s=> .str af (toL s)
 |v=> .val v
def Yw:Value->SV Y
 | .agg cs=> .agg (cs.toList.map Zfu)
 |v=>Zfu v
def ev(T:Fr Y):Operand->SV Y
 | .tmp t=>T t
 | .const v=>Yw v
 | .global g=> .val (.pointer (ah ⟨g,0,aD⟩))
 | .func f=> .fn (.func f) [] []
def upd{α:Type} (T:Nat->α) (d:Nat) (v:α):Nat->α:=λj=>match bf j d with|true=>v|false=>T j
def updO(T:Fr Y) (d:Option Nat) (v:SV Y):Fr Y:=match d with|some d=>upd T d v|none=>T
def quiet(rd:List Nat) (v:SV Y):Res Y:=⟨v,0,[],λ_=>aD,ah rd⟩
def fresh(i:Nat) (v:SV Y) (b:Blk Y) (rd:List Nat):Res Y:=⟨v,1,[],λj=>match bf j i with|true=>ah b|false=>aD,ah rd⟩
def change(b:Nat) (blk:Option (Blk Y)) (v:SV Y) (rd:List Nat):Res Y:=⟨v,0,[b],λj=>match bf j b with|true=>blk|false=>aD,ah rd⟩
def memB(b:Nat):List Nat->Bool
 | []=>ae
 |x::r=>match bf b x with|true=>af|false=>memB b r
def patch(h:Hp Y) (i:Nat) (r:Res Y):Hp Y:=λb=>match memB b r.mods||(cn i b&&aZ b (i+r.n)) with|true=>r.h b|false=>h b
def Zfv(b:Bool) (k:Bool->Prop):Prop:=match b with|true=>k af|false=>k ae
def Zra(c:Option Nat) (k:Option Nat->Prop):Prop:=match c with|none=>k aD|some n=>k (ah n)
def Xy(n:Nat) (k:Nat->Prop):Prop:=match n with|0=>k 0|hJ m=>k (hJ m)
def Zhg(n:Int) (k:Int->Prop):Prop:=match n with| .ofNat m=>Xy m λm=>k (.ofNat m)| .negSucc m=>Xy m λm=>k (.negSucc m)
def Ue:List Nat->(List Nat->Prop)->Prop
 | [],k=>k []
 |x::r,k=>Xy x λx=>Ue r λr=>k (x::r)
def Zrb(l:Bool) (s:List Nat) (k:SV Y->Prop):Prop:=match l with|true=>Ue s λs=>k (.str af s)|false=>k (.str ae s)
def Zlw(v:SV Y) (k:SV Y->Prop):Prop:=
 match v with
 | .unk=>k .unk
 | .val v=>k (.val v)
 | .int l kd n=>(match l with|true=>Zhg n λn=>k (.int af kd n)|false=>k (.int ae kd n))
 | .bool l b=>Zfv l λl=>k (.bool l b)
 | .str l s=>Zrb l s k
 | .ptr b o=>Xy b λb=>Xy o λo=>k (.ptr b o)
 | .eptr b i w o=>k (.eptr b i w o)
 | .pptr th x o=>k (.pptr th x o)
 | .sl b o n w c=>Xy b λb=>Zra c λc=>k (.sl b o n w c)
 | .psl th l f=>Zfv f λf=>k (.psl th l f)
 | .agg cs=>k (.agg cs)
 | .tup vs=>k (.tup vs)
 | .fn f a b=>k (.fn f a b)
 | .map b=>k (.map b)
 | .pmap j=>k (.pmap j)
 | .iface t v=>k (.iface t v)
 | .pan u=>k (.pan u)
noncomputable def Vi(l:List (SV Y)):(List (SV Y)->Prop)->Prop:=
 kX (motive:=λ_=>(List (SV Y)->Prop)->Prop) (λk=>k []) (λx _ ih k=>Zlw x λx=>ih λr=>k (x::r)) l
noncomputable def Zlx(v:SV Y) (k:SV Y->Prop):Prop:=
 match v with
 | .unk=>k .unk
 | .val v=>k (.val v)
 | .int l kd n=>(match l with|true=>Zhg n λn=>k (.int af kd n)|false=>k (.int ae kd n))
 | .bool l b=>Zfv l λl=>k (.bool l b)
 | .str l s=>Zrb l s k
 | .ptr b o=>Xy b λb=>Xy o λo=>k (.ptr b o)
 | .eptr b i w o=>k (.eptr b i w o)
 | .pptr th x o=>k (.pptr th x o)
 | .sl b o n w c=>Xy b λb=>Zra c λc=>k (.sl b o n w c)
 | .psl th l f=>Zfv f λf=>k (.psl th l f)
 | .agg cs=>Vi cs λcs=>k (.agg cs)
 | .tup vs=>Vi vs λvs=>k (.tup vs)
 | .fn f a b=>Vi a λa=>Vi b λb=>k (.fn f a b)
 | .map b=>k (.map b)
 | .pmap j=>k (.pmap j)
 | .iface t v=>Zlw v λv=>k (.iface t v)
 | .pan u=>k (.pan u)
noncomputable def Zck(l:List (SV Y)):(List (SV Y)->Prop)->Prop:=
 kX (motive:=λ_=>(List (SV Y)->Prop)->Prop) (λk=>k []) (λx _ ih k=>Zlx x λx=>ih λr=>k (x::r)) l
noncomputable def force(v:SV Y) (k:SV Y->Prop):Prop:=
 match v with
 | .unk=>k .unk
 | .val v=>k (.val v)
 | .int l kd n=>(match l with|true=>Zhg n λn=>k (.int af kd n)|false=>k (.int ae kd n))
 | .bool l b=>Zfv l λl=>k (.bool l b)
 | .str l s=>Zrb l s k
 | .ptr b o=>Xy b λb=>Xy o λo=>k (.ptr b o)
 | .eptr b i w o=>k (.eptr b i w o)
 | .pptr th x o=>k (.pptr th x o)
 | .sl b o n w c=>Xy b λb=>Zra c λc=>k (.sl b o n w c)
 | .psl th l f=>Zfv f λf=>k (.psl th l f)
 | .agg cs=>Vi cs λcs=>k (.agg cs)
 | .tup vs=>Zck vs λvs=>k (.tup vs)
 | .fn f a b=>Vi a λa=>Vi b λb=>k (.fn f a b)
 | .map b=>k (.map b)
 | .pmap j=>k (.pmap j)
 | .iface t v=>Zlx v λv=>k (.iface t v)
 | .pan u=>k (.pan u)
noncomputable def Zje:Option (Blk Y)->(Option (Blk Y)->Prop)->Prop
 |none,k=>k aD
 |some (.raw cs j I),k=>Vi cs λcs=>k (ah (.raw cs j I))
 |some (.rows th l j),k=>k (ah (.rows th l j))
 |some (.map t),k=>k (ah (.map t))
def wr(kd:IntKind) (n:Int):Int:=kd.wrap n
mutual
def idsV:SV Y->List Nat
 | .ptr b _=> [b]
 | .eptr b _ _ _=> [b]
 | .sl b _ _ _ _=> [b]
 | .map b=> [b]
 | .agg cs=>idsL cs
 | .tup cs=>idsL cs
 | .fn _ a b=>idsL a++idsL b
 | .iface _ v=>idsV v
 | .pmap j=>idsE j
 |_=> []
def idsL:List (SV Y)->List Nat
 | []=> []
 |x::r=>idsV x++idsL r
def idsE:List (Value×SV Y)->List Nat
 | []=> []
 |(_,x)::r=>idsV x++idsE r
end
def idsB:Option (Blk Y)->List Nat
 |some (.raw cs _ _)=>idsL cs
 |some (.map j)=>idsE j
 |_=> []
def idsM(h:Hp Y):List Nat->List Nat
 | []=> []
 |b::r=>idsB (h b)++idsM h r
def Ztw(h:Hp Y) (i:Nat):Nat->List Nat->List Nat->List Nat
 |0,_,seen=>seen
 |_+1,[],seen=>seen
 |f+1,b::w,seen=>match cn i b&& !(memB b seen) with|true=>Ztw h i f (idsB (h b)++w) (b::seen)|false=>Ztw h i f w seen
mutual
def nid(i:Nat):SV Y->Bool
 | .ptr b _=>aZ b i
 | .eptr b _ _ _=>aZ b i
 | .sl b _ _ _ _=>aZ b i
 | .map b=>aZ b i
 | .agg cs=>nidL i cs
 | .tup cs=>nidL i cs
 | .fn _ a b=>nidL i a&&nidL i b
 | .pmap j=>nidE i j
 | .iface _ v=>nid i v
 | .pan _=>ae
 |_=>af
def nidL(i:Nat):List (SV Y)->Bool
 | []=>af
 |x::r=>nid i x&&nidL i r
def nidE(i:Nat):List (Value×SV Y)->Bool
 | []=>af
 |(_,x)::r=>nid i x&&nidE i r
end
def nidB(i:Nat):Option (Blk Y)->Bool
 |none=>af
 |some (.raw cs _ _)=>nidL i cs
 |some (.rows _ _ _)=>af
 |some (.map j)=>nidE i j
def need(l:Bool) (p:Prop) [Decidable p] (K:Prop):Prop:=
 match l with
 |true=>(match decide p with|true=>K|false=>False)
 |false=>p/\K
def getK{α:Type} (lit:Bool) (l:List α) (j:Nat) (k:α->Prop):Prop:=
 match lit with
 |true=>(match l[j]? with|some x=>k x|none=>False)
 |false=>j<l.length/\∀x,l[j]? =ah x->k x
def ixK{α:Type} (lit:Bool) (l:List α) (n:Int) (k:α->Prop):Prop:=
 match lit with
 |true=>(match decide (0<=n),l[n.toNat]? with|true,ah x=>k x|_,_=>False)
 |false=>0<=n/\n<l.length/\∀x,l[n.toNat]? =ah x->k x
def Vj(a b:Nat) (K:Prop):Prop:=match bf a b with|true=>K|false=>False
def split(l b:Bool) (K:Bool->Prop):Prop:=
 match l with
 |true=>K b
 |false=>(b=af->K af)/\(b=ae->K ae)
def Zfw(j l b:Bool) (K:Bool->Prop):Prop:=
 match j&& !l with
 |true=>∀v:Bool,v=b->(v=af->K af)/\(v=ae->K ae)
 |false=>split l b K
def Z8z{α:Type} (b:Bool) (l:List α) (k:List α->Prop):Prop:=
 match b with
 |true=>∀j,j=l->k j
 |false=>k l
theorem Zrc{α:Type} {b:Bool} {l:List α} {k:List α->Prop} (h:Z8z b l k):k l:=by
 cases b
 ·exact h
 ·exact h l rfl
def Zu:TypeDesc->Bool
 | .struct _=>af
 | .array _ _=>af
 |_=>ae
def SV.cells:SV Y->List (SV Y)
 | .agg cs=>cs
 |v=> [v]
def Vt(isRow:Bool) (n off:Nat) (cs:List (SV Y)):Option (SV Y):=
 match isRow with
 |true=>(match decide (off+n<=cs.length) with|true=>ah (.agg ((cs.drop off).take n))|false=>aD)
 |false=>cs[off]?
def Xw(cs:List (SV Y)) (off:Nat) (vs:List (SV Y)):List (SV Y):=cs.take off++vs++cs.drop (off+vs.length)
def Ybg:Value->Bool
 | .agg _=>ae
 | .tuple _=>ae
 |_=>af
def leaf:SV Y->Bool
 | .unk=>ae
 | .agg _=>ae
 | .tup _=>ae
 | .val v=>Ybg v
 |_=>af
def leaves:List (SV Y)->Bool
 | []=>af
 |x::r=>match leaf x with|true=>leaves r|false=>ae
def Zo0(E:Eng Y) (t:TypeId) (x:SV Y) (h:Hp Y) (k:Res Y->Prop):Prop:=
 match E.ty t with
 |none=>False
 |some i=>
  match x with
  | .ptr b off=>
   match h b with
   |some (.raw cs _ _)=>(match Vt (Zu i.d) i.size off cs with|some v=>k (quiet [b] v)|none=>False)
   |_=>False
  | .eptr b j w off=>
   match h b with
   |some (.rows th l _)=>Vj w (E.w th) (getK E.lit l j λx=>match Vt (Zu i.d) i.size off (E.enc th x) with|some v=>k (quiet [b] v)|none=>False)
   |_=>False
  | .pptr th x off=>(match Vt (Zu i.d) i.size off (E.enc th x) with|some v=>k (quiet [] v)|none=>False)
  | .val (.pointer (ah ⟨g,o,aD⟩))=>(match E.glob g,Zu i.d with|some v,ae=>(match v.cells[o]? with|some s=>k (quiet [] s)|none=>False)|_,_=>False)
  |_=>False
def Zrd(E:Eng Y) (t:TypeId) (x v:SV Y) (h:Hp Y) (k:Res Y->Prop):Prop:=
 match E.ty t with
 |none=>False
 |some i=>
  match decide (v.cells.length=i.size)&&leaves v.cells with
  |false=>False
  |true=>
   match x with
   | .ptr b off=>
    match h b with
    |some (.raw cs I J)=>
     (match cn I off&&cn (off+i.size) cs.length with|true=>k (change b (ah (.raw (Xw cs off v.cells) I J)) .unk [b])|false=>False)
    |_=>False
   | .eptr b j w off=>
    match h b with
    |some (.rows th l I)=>Vj w (E.w th) (need E.lit (I<=j) (getK E.lit l j λx=>
     match cn (off+i.size) (E.enc th x).length,E.dec th (Xw (E.enc th x) off v.cells) with|true,ah R=>Z8z (E.nap (E.el th)) (l.set j R) λL=>k (change b (ah (.rows th L I)) .unk [b])|_,_=>False))
    |_=>False
   |_=>False
def Wv(E:Eng Y) (s:TypeId) (x:SV Y) (f:Nat) (k:Res Y->Prop):Prop:=
 match E.ty s with
 |some ⟨.struct t,_,_,_⟩=>
  match t[f]? with
  |some fd=>
   match E.ty fd.type with
   |some I=>(match I.size with
    |0=>False
    |_=>(match x with
     | .ptr b off=>k (quiet [] (.ptr b (off+fd.offset)))
     | .eptr b j w off=>k (quiet [] (.eptr b j w (off+fd.offset)))
     | .pptr th y off=>k (quiet [] (.pptr th y (off+fd.offset)))
     |_=>False))
   |none=>False
  |none=>False
 |_=>False
def Zhh(E:Eng Y) (s:TypeId) (x:SV Y) (f:Nat) (k:Res Y->Prop):Prop:=
 match E.ty s,x with
 |some ⟨.struct t,_,_,_⟩,.agg cs=>
  match t[f]? with
  |some fd=>
   match E.ty fd.type with
   |some j=>(match Vt (Zu j.d) j.size fd.offset cs with|some v=>k (quiet [] v)|none=>False)
   |none=>False
  |none=>False
 |_,_=>False
def Wq(E:Eng Y) (th:Y.Th) (l:List (Y.dom th)) (t:Y.dom th):Nat->Nat->List (SV Y)
 |0,_=> []
 |n+1,j=>match j with
  |0=>E.enc th (l.getD 0 t)++Wq E th l t n 1
  |hJ m=>E.enc th (l.getD (hJ m) t)++Wq E th l t n (hJ (hJ m))
def W4(w:Nat):Nat->List (SV Y)->List (List (SV Y))
 |0,_=> []
 |n+1,cs=>cs.take w::W4 w n (cs.drop w)
def W5(E:Eng Y) (th:Y.Th):List (List (SV Y))->Option (List (Y.dom th))
 | []=>ah []
 |r::rs=>(match E.dec th r,W5 E th rs with|some x,ah l=>ah (x::l)|_,_=>aD)
def Zy9(E:Eng Y) (t:TypeId) (b:Nat) (th:Y.Th) (l:List (Y.dom th)) (k:Res Y->Prop):Prop:=
 match E.ty t with
 |some ⟨.array n el,sz,_,_⟩=>
  match E.ty el with
  |some I=>
   match E.dec th (Yw I.zero:SV Y).cells,bf sz (n*E.w th) with
   |some j,af=>need E.lit (l.length=n) (k (quiet [b] (.agg (Wq E th l j n 0))))
   |_,_=>False
  |none=>False
 |_=>False
def Zhi(E:Eng Y) (t:TypeId) (x:SV Y) (h:Hp Y) (k:Res Y->Prop):Prop:=
 match x with
 | .ptr b 0=>(match h b with|some (.rows th l _)=>Zy9 E t b th l k|_=>Zo0 E t x h k)
 |x=>Zo0 E t x h k
def Ybh{α:Type} (l:Bool) (x:α) (k:α->Prop):Prop:=match l with|true=>k x|false=>∀y,y=x->k y
def Zza(E:Eng Y) (t:TypeId) (b:Nat) (th:Y.Th) (l:List (Y.dom th)) (v:SV Y) (k:Res Y->Prop):Prop:=
 match E.ty t with
 |some ⟨.array n _,sz,_,_⟩=>
  match W5 E th (W4 (E.w th) n v.cells),(bf sz (n*E.w th)&&bf v.cells.length sz)&&leaves v.cells with
  |some j,af=>need E.lit (l.length=n) (Ybh E.lit j λj=>k (change b (ah (.rows th j 0)) .unk [b]))
  |_,_=>False
 |_=>False
def Zo1(E:Eng Y) (t:TypeId) (x v:SV Y) (h:Hp Y) (k:Res Y->Prop):Prop:=
 match x with
 | .ptr b 0=>(match h b with|some (.rows th l 0)=>Zza E t b th l v k|_=>Zrd E t x v h k)
 |x=>Zrd E t x v h k
def Zjf(E:Eng Y) (t:TypeId) (th:Y.Th) (i:Nat) (k:Res Y->Prop):Prop:=
 match E.ty t with
 |some ⟨.array n _,sz,_,z⟩=>
  match W5 E th (W4 (E.w th) n (Yw z:SV Y).cells),bf (Yw z:SV Y).cells.length (n*E.w th) with
  |some l,af=>k (fresh i (.ptr i 0) (.rows th l 0) [])
  |_,_=>False
 |_=>False
def Zly(kd:IntKind):List (SV Y)->Option (List Int)
 | []=>ah []
 | .int _ k n::r=>(match decide (k=kd),Zly kd r with|true,ah l=>ah (n::l)|_,_=>aD)
 |_::_=>aD
def Zjg(n:Int) (k:Nat->Prop):Nat->Nat->Prop
 |0,_=>True
 |c+1,j=>((n==(j:Int))=af->k j)/\((n==(j:Int))=ae->Zjg n k c (j+1))
def Ztx(l:Bool) (n:Int) (len:Nat) (k:Nat->Prop):Prop:=
 match l with
 |true=>need af (0<=n/\n<len) (k n.toNat)
 |false=>0<=n/\n<len/\Zjg n k len 0
def Xg(E:Eng Y) (t:TypeId) (x R:SV Y) (h:Hp Y) (k:Res Y->Prop):Prop:=
 match E.ty t,R with
 |some ⟨.array len el,_,_,_⟩,.int l _ n=>
  match E.ty el,x,l with
  |some I,.ptr b off,af=>(match decide (0<=n)&&aZ n.toNat len with|true=>k (quiet [] (.ptr b (off+n.toNat*I.size)))|false=>False)
  |some I,.pptr th y off,af=>(match decide (0<=n)&&aZ n.toNat len with|true=>k (quiet [] (.pptr th y (off+n.toNat*I.size)))|false=>False)
  |some I,.val (.pointer (ah ⟨g,o,aD⟩)),af=>(match decide (0<=n)&&aZ n.toNat len with|true=>k (quiet [] (.val (.pointer (ah ⟨g,o+n.toNat*I.size,aD⟩))))|false=>False)
  |some I,.val (.pointer (ah ⟨g,o,aD⟩)),ae=>0<=n/\n<len/\Zjg n (λj=>k (quiet [] (.val (.pointer (ah ⟨g,o+j*I.size,aD⟩))))) len 0
  |some I,.ptr b off,ae=>0<=n/\n<len/\Zjg n (λj=>k (quiet [] (.ptr b (off+j*I.size)))) len 0
  |some I,.pptr th y off,ae=>0<=n/\n<len/\Zjg n (λj=>k (quiet [] (.pptr th y (off+j*I.size)))) len 0
  |some I,.eptr b q w off,af=>(match decide (0<=n)&&aZ n.toNat len with|true=>k (quiet [] (.eptr b q w (off+n.toNat*I.size)))|false=>False)
  |some I,.eptr b q w off,ae=>0<=n/\n<len/\Zjg n (λj=>k (quiet [] (.eptr b q w (off+j*I.size)))) len 0
  |_,_,_=>False
 |some ⟨.slice el,_,_,_⟩,.int l _ n=>
  match E.ty el with
  |some I=>
   match x with
   | .psl th J _=>Vj I.size (E.w th) (ixK (l&&E.lit) J n λy=>k (quiet [] (.pptr th y 0)))
   | .sl b off len w _=>
    match h b with
    |some (.raw cs _ _)=>Ztx l n len λj=>Vj I.size w (k (quiet [] (.ptr b ((off+j)*w))))
    |some (.rows th J _)=>need (l&&E.lit) (0<=n/\n<len) (Vj I.size w (Vj w (E.w th) (k (quiet [] (.eptr b (off+n.toNat) w 0)))))
    |_=>False
   |_=>False
  |none=>False
 |_,_=>False
def Zbf(E:Eng Y) (t:TypeId) (b:Nat) (th:Y.Th) (I:SV Y) (k:Res Y->Prop):Prop:=
 match E.ty t,I with
 |some ⟨.array len el,_,_,_⟩,.int f _ n=>
  (match E.ty el with|some j=>need (f&&E.lit) (0<=n/\n<len) (Vj j.size (E.w th) (k (quiet [] (.eptr b n.toNat j.size 0))))|none=>False)
 |_,_=>False
def Zbg(E:Eng Y) (g len:Nat) (el:TypeId) (n:Int) (k:Res Y->Prop) (z:Prop):Prop:=
 match E.glob g,E.thOf el with
 |some v,ah th=>
  (match W5 E th (W4 (E.w th) len v.cells) with
  |some l=>(match E.ty el with|some j=>Vj j.size (E.w th) (ixK ae l n λy=>k (quiet [] (.pptr th y 0)))|none=>False)
  |none=>z)
 |_,_=>z
def X6(E:Eng Y) (t:TypeId) (x j:SV Y) (h:Hp Y) (k:Res Y->Prop):Prop:=
 match x with
 | .ptr b 0=>(match h b with|some (.rows th _ _)=>Zbf E t b th j k|_=>Xg E t x j h k)
 | .val (.pointer (ah ⟨g,0,aD⟩))=>(match E.ty t,j with|some ⟨.array len el,_,_,_⟩,.int ae _ n=>Zbg E g len el n k (Xg E t x j h k)|_,_=>Xg E t x j h k)
 |x=>Xg E t x j h k
def Zfx(E:Eng Y) (t:TypeId) (x I:SV Y) (k:Res Y->Prop):Prop:=
 match E.ty t,x,I with
 |some ⟨.array len el,_,_,_⟩,.agg cs,.int l _ n=>
  match E.ty el,l with
  |some j,af=>(match decide (0<=n)&&aZ n.toNat len,Vt (Zu j.d) j.size (n.toNat*j.size) cs with|true,ah v=>k (quiet [] v)|_,_=>False)
  |some ⟨.int kd,sz,_,_⟩,ae=>(match Zly kd cs,bf cs.length len&&bf sz 1 with|some J,af=>0<=n/\n<len/\∀y,J[n.toNat]? =ah y->k (quiet [] (.int ae kd y))|_,_=>False)
  |_,_=>False
 |some ⟨.string,_,_,_⟩,.str l s,.int m _ n=>ixK (l&&m) s n λy=>k (quiet [] (.int (l&&m) .u8 (y:Nat)))
 |_,_,_=>False
def Zo2(E:Eng Y) (len:Nat) (el:TypeId) (t:TyI) (cs:List (SV Y)) (n:Int) (k:Res Y->Prop):Prop:=
 match E.thOf el with
 |some th=>
  (match W5 E th (W4 (E.w th) len cs),bf cs.length (len*E.w th)&&bf t.size (E.w th) with
  |some j,af=>ixK ae j n λy=>k (quiet [] (.agg (E.enc th y)))
  |_,_=>False)
 |none=>False
def Zc7(E:Eng Y) (t:TypeId) (x j:SV Y) (k:Res Y->Prop):Prop:=
 match E.ty t,x,j with
 |some ⟨.array len el,_,_,_⟩,.agg cs,.int ae _ n=>
  (match E.ty el with
  |some I=>(match Zu I.d with|true=>Zo2 E len el I cs n k|false=>Zfx E t x j k)
  |none=>False)
 |_,_,_=>Zfx E t x j k
def Zo(op:BinOp) (kd:IntKind) (a b:Int):Int:=
 match op with
 | .and=>kd.wrap (bW kd.bits a&&&bW kd.bits b).toNat
 | .or=>kd.wrap (bW kd.bits a|||bW kd.bits b).toNat
 | .xor=>kd.wrap (bW kd.bits a^^^bW kd.bits b).toNat
 |_=>kd.wrap (bW kd.bits a&&& ~~~bW kd.bits b).toNat
def intR(f:Bool) (kd:IntKind) (n:Int) (k:Res Y->Prop):Prop:=k (quiet [] (.int f kd n))
def Zay(f v:Bool) (k:Res Y->Prop):Prop:=split f v λv=>k (quiet [] (.bool af v))
def Zzb(op:BinOp) (f m:Bool) (kd:IntKind) (a b:Int) (k:Res Y->Prop):Prop:=
 match op with
 | .add=>intR f kd (wr kd (a+b)) k
 | .sub=>intR f kd (wr kd (a-b)) k
 | .mul=>intR f kd (wr kd (a*b)) k
 | .quo=>need m (b≠0) (intR f kd (wr kd (a.tdiv b)) k)
 | .rem=>need m (b≠0) (intR f kd (a.tmod b) k)
 | .eql=>Zay f (a==b) k
 | .neq=>Zay f (a !=b) k
 | .lss=>Zay f (decide (a<b)) k
 | .leq=>Zay f (decide (a<=b)) k
 | .gtr=>Zay f (decide (a>b)) k
 | .geq=>Zay f (decide (a>=b)) k
 |op=>intR f kd (Zo op kd a b) k
def Zzc(op:BinOp) (l m:Bool) (kd j:IntKind) (a b:Int) (k:Res Y->Prop):Prop:=
 match op with
 | .shl=>need m (0<=b) (intR (l&&m) kd (wr kd (a*2^min b.toNat kd.bits)) k)
 | .shr=>need m (0<=b) (intR (l&&m) kd (a.fdiv (2^min b.toNat kd.bits)) k)
 |op=>match decide (kd=j) with|false=>False|true=>Zzb op (l&&m) m kd a b k
def Zzd(E:Eng Y) (op:BinOp) (t:TypeId) (l m a b:Bool) (k:Res Y->Prop):Prop:=
 match E.ty t with
 |some ⟨.bool,_,_,_⟩=>(match op with| .eql=>Zay (l&&m) (a==b) k| .neq=>Zay (l&&m) (!(a==b)) k|_=>False)
 |_=>False
def Zlz:List Nat->List Nat->Bool
 |_,[]=>ae
 | [],_::_=>af
 |a::x,b::y=>match aZ a b with|true=>af|false=>(match bf a b with|true=>Zlz x y|false=>ae)
def Zze(op:BinOp) (l m:Bool) (a b:List Nat) (k:Res Y->Prop):Prop:=
 match op with
 | .add=>need (l&&m) (a.length+b.length<=9223372036854775807) (k (quiet [] (.str (l&&m) (a++b))))
 | .eql=>Zay (l&&m) (a==b) k
 | .neq=>Zay (l&&m) (!(a==b)) k
 | .lss=>Zay (l&&m) (Zlz a b) k
 | .geq=>Zay (l&&m) (!(Zlz a b)) k
 | .gtr=>Zay (l&&m) (Zlz b a) k
 | .leq=>Zay (l&&m) (!(Zlz b a)) k
 |_=>False
def nilV:SV Y->Option Bool
 | .val (.pointer aD)=>ah af
 | .val .nilIface=>ah af
 | .val (.slice aD 0 0)=>ah af
 | .val (.map aD)=>ah af
 | .val .nilFunc=>ah af
 | .ptr _ _=>ah ae
 | .eptr _ _ _ _=>ah ae
 | .pptr _ _ _=>ah ae
 | .sl _ _ _ _ _=>ah ae
 | .fn _ _ _=>ah ae
 | .map _=>ah ae
 | .pmap _=>ah ae
 | .iface _ _=>ah ae
 |_=>aD
def nilT(d:TypeDesc):SV Y->Bool
 | .val (.pointer aD)=>(match d with| .pointer _=>af|_=>ae)
 | .val .nilIface=>(match d with| .interface _=>af|_=>ae)
 | .val (.slice aD 0 0)=>(match d with| .slice _=>af|_=>ae)
 | .val (.map aD)=>(match d with| .map _ _=>af|_=>ae)
 | .val .nilFunc=>(match d with| .func _ _ _=>af|_=>ae)
 | .ptr _ _=>(match d with| .pointer _=>af|_=>ae)
 | .eptr _ _ _ _=>(match d with| .pointer _=>af|_=>ae)
 | .pptr _ _ _=>(match d with| .pointer _=>af|_=>ae)
 | .sl _ _ _ _ _=>(match d with| .slice _=>af|_=>ae)
 | .fn _ _ _=>(match d with| .func _ _ _=>af|_=>ae)
 | .map _=>(match d with| .map _ _=>af|_=>ae)
 | .pmap _=>(match d with| .map _ _=>af|_=>ae)
 | .iface _ _=>(match d with| .interface _=>af|_=>ae)
 |_=>ae
def Zbh:Operand->Bool
 | .const _=>af
 |_=>ae
def Z3k(E:Eng Y) (op:BinOp) (t:TypeId) (x y:SV Y) (p q:Bool) (k:Res Y->Prop):Prop:=
 match E.ty t with
 |some i=>
  (match nilT i.d x&&nilT i.d y&&(p||q) with
  |true=>(match op with| .eql=>k (quiet [] (.bool af (p&&q)))| .neq=>k (quiet [] (.bool af (!(p&&q))))|_=>False)
  |false=>False)
 |none=>False
def sbin(E:Eng Y) (op:BinOp) (t:TypeId) (x y:SV Y) (k:Res Y->Prop):Prop:=
 match x,y with
 | .int l kd a,.int m j b=>Zzc op l m kd j a b k
 | .bool l a,.bool m b=>Zzd E op t l m a b k
 | .str l a,.str m b=>Zze op l m a b k
 |_,_=>False
def sun(op:UnOp) (x:SV Y) (k:Res Y->Prop):Prop:=
 match op,x with
 | .neg,.int l kd n=>k (quiet [] (.int l kd (wr kd (0-n))))
 | .xor,.int l kd n=>k (quiet [] (.int l kd (Zo .xor kd (if kd.signed then-1 else kd.max) n)))
 | .not,.bool l b=>k (quiet [] (.bool l (!b)))
 |_,_=>False
def Zao(E:Eng Y) (j:TypeId) (x:SV Y) (k:Res Y->Prop):Prop:=
 match E.ty j,x with
 |some ⟨.int kd,_,_,_⟩,.int l _ n=>k (quiet [] (.int l kd (wr kd n)))
 |some ⟨.string,_,_,_⟩,.str l s=>k (quiet [] (.str l s))
 |_,_=>False
def Zcl(place:Nat->Option (Nat×Nat)) (cells:List (SV Y)):List (Nat×SV Y)->Option (List (SV Y))
 | []=>ah cells
 |(i,v)::rest=>
  match place i with
  |none=>aD
  |some (off,size)=>
   match(decide (v.cells.length=size)&&leaves v.cells)&&cn (off+size) cells.length with
   |true=>Zcl place (Xw cells off v.cells) rest
   |false=>aD
def Zfy(E:Eng Y):List Field->Option (List (Nat×Nat))
 | []=>ah []
 |f::r=>(match E.ty f.type,Zfy E r with|some j,ah l=>ah ((f.offset,j.size)::l)|_,_=>aD)
def Zzf(E:Eng Y) (t:TypeId) (parts:List (Nat×SV Y)) (k:Res Y->Prop):Prop:=
 match E.ty t with
 |some ⟨.struct I,_,_,z⟩=>
  (match Zfy E I.toList with
  |some pl=>(match Zcl (λi=>pl[i]?) (Yw z:SV Y).cells parts with|some cs=>k (quiet [] (.agg cs))|none=>False)
  |none=>False)
 |some ⟨.array _ el,_,_,z⟩=>(match E.ty el with|some j=>(match Zcl (λi=>ah (i*j.size,j.size)) (Yw z:SV Y).cells parts with|some cs=>k (quiet [] (.agg cs))|none=>False)|none=>False)
 |_=>False
def Ul(E:Eng Y) (el:TypeId):Option Y.Th:=match E.thOf el with|some th=>(match bf (E.el th) el with|true=>ah th|false=>aD)|none=>aD
def Zbi(E:Eng Y) (t:TypeId) (len:Nat) (parts:List (Nat×SV Y)) (i:Nat) (k:Res Y->Prop):Prop:=
 match E.ty t with
 |some ⟨.slice el,_,_,_⟩=>
  match E.ty el with
  |some j=>
   match(cn (len*j.size) 16777216&&cn len 16777216)&&(aZ 0 j.size&&bf (Yw j.zero:SV Y).cells.length j.size),Zcl (λi=>ah (i*j.size,j.size)) ((aS len (Yw j.zero:SV Y).cells).flatten) parts with
   |true,ah cs=>k (fresh i (.sl i 0 len j.size (ah len)) (.raw cs 0 (Ul E el)) [])
   |_,_=>False
  |none=>False
 |_=>False
def U0(E:Eng Y) (t:TypeId) (len:Nat) (parts:List (Nat×SV Y)) (i:Nat) (k:Res Y->Prop):Prop:=
 match E.ty t with
 |some ⟨.slice el,_,_,_⟩=>
  match E.ty el,Ul E el with
  |some j,ah th=>
   match(cn (len*j.size) 16777216&&cn len 16777216)&&(aZ 0 j.size&&bf (Yw j.zero:SV Y).cells.length j.size),Zcl (λi=>ah (i*j.size,j.size)) ((aS len (Yw j.zero:SV Y).cells).flatten) parts with
   |true,ah cs=>(match W5 E th (W4 (E.w th) len cs),bf j.size (E.w th) with
    |some l,af=>k (fresh i (.sl i 0 len j.size (ah len)) (.rows th l 0) [])
    |_,_=>False)
   |_,_=>False
  |_,_=>False
 |_=>False
def Zbj{j th:Y.Th} (l:List (Y.dom j)) (k:List (Y.dom th)->Prop):Prop:=
 match Y.eq j th with
 |isTrue e=>Eq.rec (motive:=λt _=>(List (Y.dom t)->Prop)->Prop) (λk=>k l) e k
 |isFalse _=>False
def Zo3(E:Eng Y) (h:Hp Y) (th:Y.Th) (x:SV Y) (k:Bool->List (Y.dom th)->List Nat->Prop):Prop:=
 match x with
 | .val (.slice aD 0 0)=>k af [] []
 | .psl j l _=>Zbj l λl=>k E.lit l []
 | .sl b off len w _=>
  match h b with
  |some (.rows j l _)=>
   (match bf w (E.w j) with
   |true=>Zbj l λl=>need E.lit (off+len<=l.length) (match off with|0=>k E.lit (l.take len) [b]|off=>k E.lit ((l.drop off).take len) [b])
   |false=>False)
  |some (.raw cs _ _)=>(match bf w (E.w th),W5 E th (W4 w len (cs.drop (off*w))) with|true,ah l=>k af l [b]|_,_=>False)
  |_=>False
 |_=>False
def at1(i:Nat) (x:Option (Blk Y)):Hp Y:=λj=>match bf j i with|true=>x|false=>aD
def Z40{α:Type} (lit:Bool) (l:List α) (A B:Prop):Prop:=
 match lit with
 |true=>(match l with| []=>A|_::_=>B)
 |false=>(l= []->A)/\(l≠ []->B)
def U1:SV Y->Bool
 | .val (.slice aD 0 0)=>af
 | .psl _ _ _=>af
 | .sl _ _ _ _ _=>af
 |_=>ae
def Zo4(E:Eng Y) (t:TypeId) (U x2:SV Y) (h:Hp Y) (i:Nat) (k:Res Y->Prop):Prop:=
 match E.ty t with
 |some ⟨.slice el,_,_,_⟩=>
  match E.ty el,Ul E el with
  |some J,ah th=>
   match(aZ 0 J.bytes&&U1 U)&&bf (Yw J.zero:SV Y).cells.length (E.w th) with
   |false=>False
   |true=>Zo3 E h th x2 λlit j R=>Z40 lit j (k (quiet R U))
    (match U with
    | .val (.slice aD 0 0)=>need lit (j.length*J.bytes<=140737488355328) (k (fresh i (.sl i 0 j.length (E.w th) aD) (.rows th j 0) R))
    | .psl a3 I af=>Zbj I λI=>need (E.lit&&lit) ((I.length+j.length)*J.bytes<=140737488355328) (k (fresh i (.sl i 0 (I.length+j.length) (E.w th) aD) (.rows th (I++j) 0) R))
    | .sl b off len w (ah c)=>Zo3 E h th (.sl b off len w (ah c)) λa1 I a2=>
     need (a1&&lit) (c<I.length+j.length/\(I.length+j.length)*J.bytes<=140737488355328) (k (fresh i (.sl i 0 (I.length+j.length) (E.w th) aD) (.rows th (I++j) 0) (a2++R)))
    | .sl b 0 len w aD=>
     (match h b with
     |some (.rows a3 l a0)=>
      (match bf w (E.w th) with
      |true=>Zbj l λl=>need (E.lit&&lit) (len<=l.length/\a0<=len/\(len+j.length)*J.bytes<=140737488355328)
       (Z8z (E.nap (E.el th)) (l.take len++j) λL=>k ⟨.sl i 0 (len+j.length) (E.w th) aD,1,[b],at1 i (ah (.rows th L a0)),ah (b::R)⟩)
      |false=>False)
     |_=>False)
    |_=>False)
  |_,_=>False
 |_=>False
def rawB(h:Hp Y) (b:Nat):Bool:=match h b with|some (.raw _ _ _)=>af|_=>ae
def Zjh(c:Option Nat) (a:Nat):Option Nat:=match c with|some c=>ah (c-a)|none=>aD
def Z3l(d:Int):Option (SV Y)->Option (Bool×Int)
 |none=>ah (af,d)
 |some (.int f _ x)=>ah (f,x)
 |_=>aD
def Zzg(E:Eng Y) (t:TypeId) (x:SV Y) (lo hi mx:Option (SV Y)) (h:Hp Y) (k:Res Y->Prop):Prop:=
 match E.ty t,x with
 |some ⟨.slice el,_,_,_⟩,.psl th l full=>
  match E.ty el with
  |some j=>
   (match bf j.size (E.w th),lo,hi,mx with
   |true,aD,aD,aD=>k (quiet [] (.psl th l full))
   |true,aD,ah (.int f _ b),aD=>need (f&&E.lit) (0<=b/\b<=l.length) (k (quiet [] (.psl th (l.take b.toNat) ae)))
   |true,ah (.int f _ a),aD,aD=>need (f&&E.lit) (0<=a/\a<=l.length) (k (quiet [] (.psl th (l.drop a.toNat) full)))
   |true,ah (.int f _ a),ah (.int I _ b),aD=>need (f&&I&&E.lit) (0<=a/\a<=b/\b<=l.length) (k (quiet [] (.psl th ((l.take b.toNat).drop a.toNat) ae)))
   |true,aD,ah (.int f _ b),ah (.int I _ c)=>need (f&&I&&E.lit) (0<=b/\b=c/\b<=l.length) (k (quiet [] (.psl th (l.take b.toNat) af)))
   |_,_,_,_=>False)
  |none=>False
 |some ⟨.slice el,_,_,_⟩,.val (.slice aD 0 0)=>
  match E.ty el with
  |some _=>
   (match lo,hi,mx with
   |none,aD,aD=>k (quiet [] (.val (.slice aD 0 0)))
   |some (.int l _ a),aD,aD=>need l (a=0) (k (quiet [] (.val (.slice aD 0 0))))
   |none,ah (.int l _ a),aD=>need l (a=0) (k (quiet [] (.val (.slice aD 0 0))))
   |none,ah (.int l _ a),ah (.int J _ c)=>need (l&&J) (a=0/\c=0) (k (quiet [] (.val (.slice aD 0 0))))
   |_,_,_=>False)
  |none=>False
 |some ⟨.slice el,_,_,_⟩,.sl b off len w cap=>
  match E.ty el with
  |some j=>
   (match bf j.size w,lo,hi,mx with
   |true,aD,aD,aD=>k (quiet [] (.sl b off len w cap))
   |true,aD,ah (.int l _ c),aD=>need (l&&(E.lit||rawB h b)) (0<=c/\c<=len) (k (quiet [] (.sl b off c.toNat w cap)))
   |true,aD,ah (.int l _ c),ah (.int J _ m)=>need (l&&J&&(E.lit||rawB h b)) (0<=c/\c<=m/\m<=len) (k (quiet [] (.sl b off c.toNat w (ah m.toNat))))
   |true,ah (.int l _ a),aD,aD=>need (l&&(E.lit||rawB h b)) (0<=a/\a<=len) (split (l&&(E.lit||rawB h b)) (decide (a<len)) λv=>
    (match v,Ul E el with|true,_=>k (quiet [] (.sl b (off+a.toNat) (len-a.toNat) w (Zjh cap a.toNat)))|false,ah th=>k (quiet [] (.psl th [] ae))|_,_=>False))
   |true,ah (.int l _ a),ah (.int J _ c),aD=>need (l&&J&&(E.lit||rawB h b)) (0<=a/\a<=c/\c<=len) (split (l&&J&&(E.lit||rawB h b)) (decide (a<c)) λv=>
    (match v,Ul E el with|true,_=>k (quiet [] (.sl b (off+a.toNat) (c.toNat-a.toNat) w (Zjh cap a.toNat)))|false,ah th=>k (quiet [] (.psl th [] ae))|_,_=>False))
   |_,_,_,_=>False)
  |none=>False
 |some ⟨.string,_,_,_⟩,.str l s=>
  (match lo,hi,mx with
  |none,aD,aD=>k (quiet [] (.str l s))
  |none,ah (.int m _ b),aD=>need (l&&m) (0<=b/\b<=s.length) (k (quiet [] (.str (l&&m) (s.take b.toNat))))
  |some (.int m _ a),aD,aD=>need (l&&m) (0<=a/\a<=s.length) (k (quiet [] (.str (l&&m) (s.drop a.toNat))))
  |some (.int m _ a),ah (.int R _ b),aD=>need (l&&m&&R) (0<=a/\a<=b/\b<=s.length) (k (quiet [] (.str (l&&m&&R) ((s.take b.toNat).drop a.toNat))))
  |_,_,_=>False)
 |some ⟨.array n el,_,_,_⟩,.ptr b 0=>
  (match mx,Z3l 0 lo,Z3l n hi,E.ty el with
  |none,ah (f,a),ah (I,c),ah j=>
   (match h b with
   |some (.raw cs _ _)=>
    (match bf cs.length (n*j.size)&&cn n 9007199254740992,f&&I with
    |true,af=>need af (0<=a/\a<=c/\c<=n/\(a<n\/a=0)) (k (quiet [b] (.sl b a.toNat (c.toNat-a.toNat) j.size (ah (n-a.toNat)))))
    |_,_=>False)
   |some (.rows th l _)=>
    (match bf j.size (E.w th)&&cn n 9007199254740992 with
    |true=>need (E.lit&&f&&I) (l.length=n/\0<=a/\a<=c/\c<=n/\(a<n\/a=0)) (k (quiet [b] (.sl b a.toNat (c.toNat-a.toNat) j.size (ah (n-a.toNat)))))
    |false=>False)
   |_=>False)
  |_,_,_,_=>False)
 |some ⟨.array n el,_,_,_⟩,.val (.pointer (ah ⟨g,0,aD⟩))=>
  (match lo,hi,mx with
  |none,aD,aD=>
   (match E.ty el,E.glob g,Ul E el with
   |some j,ah sv,ah th=>
    (match bf j.size (E.w th)&&(cn n 9007199254740992&&aZ 0 n),W5 E th (W4 (E.w th) n sv.cells) with
    |true,ah l=>k (quiet [] (.psl th l af))
    |_,_=>False)
   |_,_,_=>False)
  |_,_,_=>False)
 |_,_=>False
def Vu(j:Bool) (key:SV Y):List (Value×SV Y)->(SV Y->Prop)->Prop->Prop
 | [],_,z=>z
 |(I,v)::r,f,z=>
  match j,I,key with
  |true,.int kd b,.int l t a=>(match decide (t=kd) with|true=>split l (a==b) (λq=>match q with|true=>f v|false=>Vu j key r f z)|false=>False)
  |false,.string b,.str l a=>split l (a==toL b) λq=>(match q with|true=>f v|false=>Vu j key r f z)
  |_,_,_=>False
def Zhj(j:Bool):SV Y->Option Value
 | .int _ kd n=>(match j with|true=>ah (.int kd n)|false=>aD)
 | .str _ s=>(match j with|false=>ah (.string (mkS s))|true=>aD)
 |_=>aD
def Zd2(t:Bool) (key:Value) (v:SV Y):List (Value×SV Y)->Option (List (Value×SV Y))
 | []=>ah [(key,v)]
 |(j,u)::r=>
  match t,j,key with
  |true,.int kd b,.int I a=>(match decide (I=kd) with|true=>(match(a==b) with|true=>ah ((j,v)::r)|false=>(match Zd2 t key v r with|some l=>ah ((j,u)::l)|none=>aD))|false=>aD)
  |false,.string b,.string a=>(match(toL a==toL b) with|true=>ah ((j,v)::r)|false=>(match Zd2 t key v r with|some l=>ah ((j,u)::l)|none=>aD))
  |_,_,_=>aD
def keyKind(E:Eng Y) (j:TypeId):Option Bool:=
 match E.ty j with
 |some ⟨.int _,_,_,_⟩=>ah af
 |some ⟨.string,_,_,_⟩=>ah ae
 |_=>aD
def Zty(h:Hp Y):SV Y->Option (List (Value×SV Y)×List Nat)
 | .map b=>(match h b with|some (.map j)=>ah (j,[b])|_=>aD)
 | .pmap j=>ah (j,[])
 |_=>aD
def Ybi(t:Bool) (zero:SV Y) (rd:List Nat) (ok:Bool) (key:SV Y) (j:List (Value×SV Y)) (k:Res Y->Prop):Prop:=
 Vu t key j (λv=>k (quiet rd (match ok with|true=> .tup [v,.bool af af]|false=>v))) (k (quiet rd (match ok with|true=> .tup [zero,.bool af ae]|false=>zero)))
def Zo5(E:Eng Y) (t:TypeId) (x key:SV Y) (ok:Bool) (h:Hp Y) (k:Res Y->Prop):Prop:=
 match E.ty t with
 |some ⟨.map R I,_,_,_⟩=>
  match keyKind E R,E.ty I,Zty h x with
  |some J,ah U,ah (j,rd)=>Ybi J (Yw U.zero) rd ok key j k
  |_,_,_=>False
 |_=>False
def sput(E:Eng Y) (t:TypeId) (x key v:SV Y) (h:Hp Y) (k:Res Y->Prop):Prop:=
 match E.ty t,x with
 |some ⟨.map J _,_,_,_⟩,.map b=>
  match keyKind E J,h b with
  |some j,ah (.map I)=>(match Zhj j key with|some R=>(match Zd2 j R v I with|some es'=>k (change b (ah (.map es')) .unk [b])|none=>False)|none=>False)
  |_,_=>False
 |_,_=>False
open Classical in
noncomputable def Zbk{α j:Type}:List (α×j)->α->Option j
 | [],_=>aD
 |p::r,a=>if p.1=a then ah p.2 else Zbk r a
open Classical in
noncomputable def putS{α j:Type}:List (α×j)->α->j->List (α×j)
 | [],a,v=> [(a,v)]
 |p::r,a,v=>if p.1=a then(p.1,v)::r else p::putS r a v
def Zbl(E:Eng Y) (th:Y.Th) (isRow:Bool) (x:Y.dom th):SV Y:=match isRow with|true=> .agg (E.enc th x)|false=>(match E.enc th x with| [v]=>v|_=> .unk)
def Zl0{j:Type} (kd:IntKind) (vv:j->SV Y) (l:List (Int×j)):List (Value×SV Y):=l.map λp=>(.int kd p.1,vv p.2)
def Zl1{j:Type} (vv:j->SV Y) (l:List (List Nat×j)):List (Value×SV Y):=l.map λp=>(.string (mkS p.1),vv p.2)
def Byt(s:List Nat):Prop:=toL (mkS s)=s
def Zzh(isRow:Bool):SV Y->Bool
 | .agg _=>isRow
 | .tup _=>ae
 | .unk=>ae
 |_=> !isRow
def Z3m{j:Type} (vv:j->SV Y) (z:j) (zero:SV Y) (rd:List Nat) (ok:Bool) (o:Option j) (k:Res Y->Prop):Prop:=
 match ok with
 |false=>∀y,y=o.getD z->k (quiet rd (vv y))
 |true=>(∀y,o=ah y->k (quiet rd (.tup [vv y,.bool af af])))/\(o=aD->k (quiet rd (.tup [zero,.bool af ae])))
def Ybj(E:Eng Y) (th:Y.Th) (j:TyI) (I:Bool) (key:SV Y) (t:List (Value×SV Y)) (rd:List Nat) (ok:Bool) (k:Res Y->Prop):Prop:=
 match E.dec th (Yw j.zero:SV Y).cells,(bf (Yw j.zero:SV Y).cells.length (E.w th)&&(Zu j.d||bf (E.w th) 1))&&Zzh (Zu j.d) (Yw j.zero:SV Y) with
 |some z,af=>
  (match I,key with
  |true,.int _ kd a=>∃l,t=Zl0 kd (Zbl E th (Zu j.d)) l/\Z3m (Zbl E th (Zu j.d)) z (Yw j.zero) rd ok (Zbk l a) k
  |false,.str _ a=>∃l,t=Zl1 (Zbl E th (Zu j.d)) l/\(∀p∈l,Byt p.1)/\Z3m (Zbl E th (Zu j.d)) z (Yw j.zero) rd ok (Zbk l a) k
  |_,_=>False)
 |_,_=>False
def Zji(E:Eng Y) (t:TypeId) (x key:SV Y) (ok:Bool) (h:Hp Y) (k:Res Y->Prop):Prop:=
 match E.smap t,x with
 |some th,.map b=>
  (match E.ty t,h b with
  |some ⟨.map R I,_,_,_⟩,ah (.map j)=>(match keyKind E R,E.ty I with|some J,ah U=>Ybj E th U J key j [b] ok k|_,_=>False)
  |_,_=>False)
 |_,_=>Zo5 E t x key ok h k
def putT(E:Eng Y) (th:Y.Th) (j:TyI) (I:Bool) (key v:SV Y) (t:List (Value×SV Y)) (b:Nat) (k:Res Y->Prop):Prop:=
 match E.dec th v.cells,(bf v.cells.length (E.w th)&&(Zu j.d||bf (E.w th) 1))&&Zzh (Zu j.d) v with
 |some z,af=>
  (match I,key with
  |true,.int _ kd a=>∃l,t=Zl0 kd (Zbl E th (Zu j.d)) l/\k (change b (ah (.map (Zl0 kd (Zbl E th (Zu j.d)) (putS l a z)))) .unk [b])
  |false,.str _ a=>∃l,t=Zl1 (Zbl E th (Zu j.d)) l/\(∀p∈l,Byt p.1)/\Byt a/\k (change b (ah (.map (Zl1 (Zbl E th (Zu j.d)) (putS l a z)))) .unk [b])
  |_,_=>False)
 |_,_=>False
def Z80(E:Eng Y) (t:TypeId) (x key v:SV Y) (h:Hp Y) (k:Res Y->Prop):Prop:=
 match E.smap t,x with
 |some th,.map b=>
  (match E.ty t,h b with
  |some ⟨.map R I,_,_,_⟩,ah (.map j)=>(match keyKind E R,E.ty I with|some J,ah U=>putT E th U J key v j b k|_,_=>False)
  |_,_=>False)
 |_,_=>sput E t x key v h k
def slen(E:Eng Y) (t:TypeId) (x:SV Y) (h:Hp Y) (k:Res Y->Prop):Prop:=
 match E.ty t,x with
 |some ⟨.slice _,_,_,_⟩,.psl _ l _=>k (quiet [] (.int E.lit .i64 l.length))
 |some ⟨.slice _,_,_,_⟩,.sl b _ n _ _=>k (quiet [] (.int (E.lit||rawB h b) .i64 n))
 |some ⟨.slice _,_,_,_⟩,.val (.slice aD n _)=>k (quiet [] (.int af .i64 n))
 |some ⟨.string,_,_,_⟩,.str l s=>k (quiet [] (.int l .i64 s.length))
 |some ⟨.array n _,_,_,_⟩,_=>k (quiet [] (.int af .i64 n))
 |_,_=>False
def mm2(mx:Bool) (a b:Int):Int:=match mx with|true=>if b>a then b else a|false=>if b<a then b else a
def smm(mx:Bool):SV Y->List (SV Y)->Option (SV Y)
 |x,[]=>ah x
 | .int l kd a,.int m j b::r=>(match decide (kd=j) with|true=>smm mx (.int (l&&m) kd (mm2 mx a b)) r|false=>aD)
 |_,_=>aD
def Zc8(mx:Bool) (x:SV Y) (r:List (SV Y)) (k:Res Y->Prop):Prop:=match smm mx x r with|some v=>k (quiet [] v)|none=>False
def mk0(E:Eng Y) (el:TypeId) (bytes:Nat) (l:Bool) (n:Int):Option Y.Th:=match l&&aZ 0 bytes,n with|true,.ofNat 0=>Ul E el|_,_=>aD
def Z81(E:Eng Y) (t:TypeId) (I J:SV Y) (i:Nat) (k:Res Y->Prop):Prop:=
 match E.ty t,I,J with
 |some ⟨.slice el,_,_,_⟩,.int l _ n,.int m _ c=>
  match E.ty el with
  |some j=>
   match mk0 E el j.bytes l n with
   |some th=>need (m&&E.lit) (0<=c/\j.bytes*c<=281474976710656) (k (fresh i (.sl i 0 0 j.size aD) (.rows th [] 0) []))
   |none=>
   match(aZ 0 j.bytes&&aZ 0 j.size)&&bf (Yw j.zero:SV Y).cells.length j.size,l&&m with
   |true,af=>need af (0<=n/\n<=c/\j.bytes*c<=281474976710656) (k (fresh i (.sl i 0 n.toNat j.size (ah c.toNat)) (.raw (aS c.toNat (Yw j.zero:SV Y).cells).flatten 0 (Ul E el)) []))
   |true,ae=>
    (match Ul E el with
    |some th=>(match E.dec th (Yw j.zero:SV Y).cells with
     |some z=>0<=n/\n<=c/\j.bytes*c<=281474976710656/\k (fresh i (.sl i 0 n.toNat j.size (ah c.toNat)) (.rows th (aS c.toNat z) 0) [])
     |none=>False)
    |none=>False)
   |_,_=>False
  |none=>False
 |_,_,_=>False
def Z82(h:Hp Y) (w:Nat):SV Y->Option (List (SV Y)×List Nat)
 | .val (.slice aD 0 0)=>ah ([],[])
 | .sl b off len j _=>
  match bf w j,h b with
  |true,ah (.raw cs _ _)=>(match cn ((off+len)*w) cs.length with|true=>ah ((cs.drop (off*w)).take (len*w),[b])|false=>aD)
  |_,_=>aD
 |_=>aD
def Z83(E:Eng Y) (t:TypeId) (x1 a0:SV Y) (h:Hp Y) (k:Res Y->Prop):Prop:=
 match E.ty t,x1 with
 |some ⟨.slice el,_,_,_⟩,.sl b off len w _=>
  match E.ty el,h b with
  |some U,ah (.rows th l j)=>
   (match bf w (E.w th)&&bf U.size w with
   |true=>Zo3 E h th a0 λlit J R=>need E.lit (j<=off/\off+len<=l.length)
    (k (change b (ah (.rows th (l.take off++J.take len++l.drop (off+min J.length len)) j)) (.int (E.lit&&lit) .i64 (min J.length len:Nat)) (b::R)))
   |false=>False)
  |some U,ah (.raw cs j tg)=>
   (match bf U.size w&&aZ 0 w,Z82 h w a0 with
   |true,ah (I,R)=>
    (match(cn j (off*w)&&cn ((off+len)*w) cs.length)&&leaves I with
    |true=>k (change b (ah (.raw (Xw cs (off*w) (I.take (len*w))) j tg)) (.int af .i64 (min (I.length/w) len:Nat)) (b::R))
    |false=>False)
   |_,_=>False)
  |_,_=>False
 |_,_=>False
def eqFs(E:Eng Y) (q:TypeId->SV Y->SV Y->Option (Bool×Bool)) (xs t:List (SV Y)):List Field->Option (Bool×Bool)
 | []=>ah (af,af)
 |f::I=>
  match decide (f.name= "_"),E.ty f.type with
  |false,ah j=>
   (match Vt (Zu j.d) j.size f.offset xs,Vt (Zu j.d) j.size f.offset t with
   |some a,ah b=>(match q f.type a b,eqFs E q xs t I with|some (l,p),ah (m,r)=>ah (l&&m,p&&r)|_,_=>aD)
   |_,_=>aD)
  |_,_=>aD
def eqIs(q:SV Y->SV Y->Option (Bool×Bool)) (isRow:Bool) (sz:Nat) (xs t:List (SV Y)):Nat->Nat->Option (Bool×Bool)
 |0,_=>ah (af,af)
 |n+1,j=>
  match Vt isRow sz (j*sz) xs,Vt isRow sz (j*sz) t with
  |some a,ah b=>(match q a b,eqIs q isRow sz xs t n (j+1) with|some (l,p),ah (m,r)=>ah (l&&m,p&&r)|_,_=>aD)
  |_,_=>aD
def eqT(E:Eng Y):Nat->TypeId->SV Y->SV Y->Option (Bool×Bool)
 |0,_,_,_=>aD
 |d+1,t,x,y=>
  match E.ty t,x,y with
  |some ⟨.int _,_,_,_⟩,.int l k a,.int m R b=>(match decide (k=R) with|true=>ah (l&&m,a==b)|false=>aD)
  |some ⟨.bool,_,_,_⟩,.bool l a,.bool m b=>ah (l&&m,a==b)
  |some ⟨.string,_,_,_⟩,.str l a,.str m b=>ah (l&&m,a==b)
  |some ⟨.struct J,_,_,_⟩,.agg xs,.agg j=>(match memB t E.eqs with|true=>eqFs E (eqT E d) xs j J.toList|false=>aD)
  |some ⟨.array n el,_,_,_⟩,.agg xs,.agg j=>(match E.ty el with|some I=>eqIs (eqT E d el) (Zu I.d) I.size xs j n 0|none=>aD)
  |_,_,_=>aD
def Ztz(E:Eng Y) (op:BinOp) (t:TypeId) (x y:SV Y) (k:Res Y->Prop):Prop:=
 match x,y with
 | .agg xs,.agg j=>
  match memB t E.eqs,eqT E 100 t (.agg xs) (.agg j) with
  |true,ah (l,q)=>(match op with| .eql=>Zfw (cn 9 xs.length) l q λv=>k (quiet [] (.bool af v))| .neq=>Zfw (cn 9 xs.length) l (!q) λv=>k (quiet [] (.bool af v))|_=>False)
  |_,_=>False
 |x,y=>sbin E op t x y k
def Z84(E:Eng Y) (op:BinOp) (t:TypeId) (x y:Operand) (T:Fr Y) (k:Res Y->Prop):Prop:=
 match Zbh x||Zbh y,nilV (ev T x),nilV (ev T y) with
 |true,ah p,ah q=>Z3k E op t (ev T x) (ev T y) p q k
 |_,_,_=>Ztz E op t (ev T x) (ev T y) k
def Zcm(T:Fr Y) (c a b:Operand) (k:Res Y->Prop):Prop:=match ev T c with| .bool l x=>split l x (λv=>match v with|true=>k (quiet [] (ev T a))|false=>k (quiet [] (ev T b)))|_=>False
def Vk(E:Eng Y) (t:TypeId) (i:Nat) (k:Res Y->Prop):Prop:=match E.ty t with|some j=>k (fresh i (.ptr i 0) (.raw (Yw j.zero:SV Y).cells 0 aD) [])|none=>False
def Zfz(x:SV Y) (i:Nat) (k:Res Y->Prop):Prop:=match leaves x.cells with|true=>k (fresh i (.ptr i 0) (.raw x.cells 0 aD) [])|false=>False
def Zre(E:Eng Y) (t:TypeId) (th:Y.Th) (x:SV Y) (i:Nat) (k:Res Y->Prop):Prop:=
 match E.ty t with
 |some ⟨.array n _,_,_,_⟩=>
  match W5 E th (W4 (E.w th) n x.cells),bf x.cells.length (n*E.w th)&&leaves x.cells with
  |some l,af=>k (fresh i (.ptr i 0) (.rows th l 0) [])
  |_,_=>False
 |_=>False
def Zl2(x:SV Y) (k:Res Y->Prop):Prop:=match x with| .ptr b o=>k (quiet [] (.ptr b o))| .fn (.func f) a b=>k (quiet [] (.fn (.func f) a b))|_=>False
def Zrf(E:Eng Y) (el:TypeId) (s:List Nat) (k:Res Y->Prop):Prop:=
 match E.ty el,Ul E el with
 |some ⟨.int .u8,_,_,_⟩,ah th=>
  Ue s λj=>
  (match W5 E th (W4 (E.w th) j.length (j.map λn:Nat=> .int ae .u8 (n:Int))),bf (E.w th) 1&&cn j.length 1000000000 with
  |some l,af=>k (quiet [] (.psl th l ae))
  |_,_=>False)
 |_,_=>False
def Zee(fl:Bool):List (SV Y)->Option (Bool×List Nat)
 | []=>ah (fl,[])
 | .int f .u8 n::r=>(match Zee fl r with|some (g,l)=>ah (f&&g,n.toNat%256::l)|none=>aD)
 |_=>aD
def Zbm(x:SV Y) (h:Hp Y) (k:Res Y->Prop):Prop:=
 match x with
 | .val (.slice aD 0 0)=>k (quiet [] (.str af []))
 | .sl b off len w _=>
  match h b with
  |some (.raw cs _ _)=>(match bf w 1&&cn (off+len) cs.length,Zee af ((cs.drop off).take len) with|true,ah (f,l)=>k (quiet [b] (.str f l))|_,_=>False)
  |_=>False
 |_=>False
def Zl3(E:Eng Y) (t:TypeId):Bool:=match E.ty t with|some ⟨.slice el,_,_,_⟩=>(match E.ty el with|some ⟨.int .u8,_,_,_⟩=>af|_=>ae)|_=>ae
def Zcn(E:Eng Y) (j t:TypeId) (x:SV Y) (h:Hp Y) (k:Res Y->Prop):Prop:=
 match E.ty j with
 |some _=>(match E.ty t,x with
  |some ⟨.slice el,_,_,_⟩,.str af s=>Zrf E el s k
  |some ⟨.string,_,_,_⟩,.val v=>(match Zl3 E j with|true=>Zbm (.val v) h k|false=>False)
  |some ⟨.string,_,_,_⟩,.sl b off len w c=>(match Zl3 E j with|true=>Zbm (.sl b off len w c) h k|false=>False)
  |_,_=>Zao E t x k)
 |none=>False
def Zo6(E:Eng Y) (t:TypeId) (x:SV Y) (k:Res Y->Prop):Prop:=
 match E.ty t with
 |some i=>(match i.d with| .interface _=>False|_=>k (quiet [] (.iface t x)))
 |none=>False
def Zjj(E:Eng Y) (x:SV Y) (t:TypeId) (ok:Bool) (k:Res Y->Prop):Prop:=
 match E.ty t with
 |some i=>
  (match i.d with
  | .interface _=>False
  |_=>
   (match x,ok with
   | .val .nilIface,af=>k (quiet [] (.tup [Yw i.zero,.bool af ae]))
   | .iface j v,ok=>(match bf j t,ok with
    |true,af=>k (quiet [] (.tup [v,.bool af af]))
    |true,ae=>k (quiet [] v)
    |false,af=>k (quiet [] (.tup [Yw i.zero,.bool af ae]))
    |false,ae=>False)
   |_,_=>False))
 |none=>False
def Zl4(E:Eng Y) (t:TypeId) (i:Nat) (k:Res Y->Prop):Prop:=match E.ty t with|some _=>k (fresh i (.map i) (.map []) [])|none=>False
def Zjk(x:SV Y) (n:Nat) (k:Res Y->Prop):Prop:=match x with| .tup vs=>(match vs[n]? with|some v=>k (quiet [] v)|none=>False)|_=>False
def Zjl(E:Eng Y) (c:Call) (T:Fr Y) (h:Hp Y) (k:Res Y->Prop):Prop:=match c.argTypes[0]?,c.args[0]? with|some t,ah x=>slen E t (ev T x) h k|_,_=>False
def stMm(mx:Bool) (c:Call) (T:Fr Y) (k:Res Y->Prop):Prop:=match c.args.toList with|x::r=>Zc8 mx (ev T x) (r.map (ev T)) k| []=>False
def Zl5(E:Eng Y) (c:Call) (T:Fr Y) (h:Hp Y) (i:Nat) (k:Res Y->Prop):Prop:=match c.args.toList,c.argTypes.toList with| [x,y],[t,j]=>(match bf t j with|true=>Zo4 E t (ev T x) (ev T y) h i k|false=>False)|_,_=>False
def Zdo(E:Eng Y) (c:Call) (T:Fr Y) (h:Hp Y) (k:Res Y->Prop):Prop:=match c.args.toList,c.argTypes.toList with| [x,y],t::_=>Z83 E t (ev T x) (ev T y) h k|_,_=>False
def ex0:SV Y->Option Value
 | .int _ k n=>ah (.int k n)
 | .bool _ b=>ah (.bool b)
 | .str _ s=>ah (.string (mkS s))
 |_=>aD
def exL:List (SV Y)->Option (List Value)
 | []=>ah []
 |x::r=>match ex0 x with|some u=>(match exL r with|some l=>ah (u::l)|none=>aD)|none=>aD
def ex1:SV Y->Option Value
 | .agg cs=>(match exL cs with|some l=>ah (.agg l.toArray)|none=>aD)
 |v=>ex0 v
def Z3n(x:SV Y) (k:Res Y->Prop):Prop:=
 match x with
 | .iface t v=>(match ex1 v with|some u=>k (quiet [] (.pan (.iface t u)))|none=>False)
 |_=>False
def sv0(l:Bool):Value->SV Y
 | .int k n=> .int l k n
 | .bool b=> .bool l b
 | .string s=> .str l (toL s)
 |v=> .val v
def sv1(l:Bool):Value->SV Y
 | .agg cs=> .agg (cs.toList.map (sv0 l))
 |v=>sv0 l v
def svP(l:Bool):Value->SV Y
 | .iface t u=> .iface t (sv1 l u)
 |v=> .val v
def idxL(c:Nat):Nat->List Nat->Int
 |_,[]=> -1
 |j,x::r=>match bf x c with|true=>(j:Int)|false=>idxL c (j+1) r
def sext(x:ExtK) (args:List (SV Y)) (k:Res Y->Prop):Prop:=
 match x,args with
 | .add64,[.int l .u64 a,.int m .u64 b,.int n .u64 c]=>need (l&&m&&n) (0<=a/\0<=b/\0<=c/\c<=1)
  (k (quiet [] (.tup [.int (l&&m&&n) .u64 ((a+b+c)%18446744073709551616),.int (l&&m&&n) .u64 ((a+b+c)/18446744073709551616)])))
 | .indexByteS,[.str l s,.int m .u8 c]=>k (quiet [] (.int (l&&m) .i64 (idxL (c.toNat%256) 0 s)))
 | .same,[v]=>k (quiet [] v)
 |_,_=>False
def Zjm(E:Eng Y) (call:Nat->List (SV Y)->Hp Y->Nat->(Res Y->Prop)->Prop) (f:Operand) (c:Call) (T:Fr Y) (h:Hp Y) (i:Nat) (k:Res Y->Prop):Prop:=match ev T f with| .fn (.func f) a b=>(match E.ext f with|some x=>Zck (a++c.args.toList.map (ev T)++b) λl=>sext x l k|none=>call f (a++c.args.toList.map (ev T)++b) h i k)|_=>False
def U2(E:Eng Y) (call:Nat->List (SV Y)->Hp Y->Nat->(Res Y->Prop)->Prop) (c:Call) (T:Fr Y) (h:Hp Y) (i:Nat) (k:Res Y->Prop):Prop:=
 match c.callee with
 | .builtin .len=>Zjl E c T h k
 | .builtin .min=>stMm ae c T k
 | .builtin .max=>stMm af c T k
 | .builtin .append=>Zl5 E c T h i k
 | .builtin .copy=>Zdo E c T h k
 | .builtin .panic=>(match c.args.toList with| [x]=>Z3n (ev T x) k|_=>False)
 | .value f=>Zjm E call f c T h i k
 |_=>False
def U3(E:Eng Y) (t:TypeId) (parts:Array (Nat×Operand)) (T:Fr Y) (k:Res Y->Prop):Prop:=Zzf E t (parts.toList.map λp=>(p.1,ev T p.2)) k
def Wd(E:Eng Y) (t:TypeId) (len:Nat) (parts:Array (Nat×Operand)) (T:Fr Y) (i:Nat) (k:Res Y->Prop):Prop:=match E.rowS t&&cn 8 len with|true=>U0 E t len (parts.toList.map λp=>(p.1,ev T p.2)) i k|false=>Zbi E t len (parts.toList.map λp=>(p.1,ev T p.2)) i k
def Zdp(fn:Fn) (a b:Array Operand) (T:Fr Y) (k:Res Y->Prop):Prop:=k (quiet [] (.fn fn (a.toList.map (ev T)) (b.toList.map (ev T))))
def U4(E:Eng Y) (t:TypeId) (x:Operand) (lo hi mx:Option Operand) (T:Fr Y) (h:Hp Y) (k:Res Y->Prop):Prop:=Zzg E t (ev T x) (lo.map (ev T)) (hi.map (ev T)) (mx.map (ev T)) h k
def step(E:Eng Y) (call:Nat->List (SV Y)->Hp Y->Nat->(Res Y->Prop)->Prop) (op:Op) (T:Fr Y) (h:Hp Y) (i:Nat) (k:Res Y->Prop):Prop:=
 match op with
 | .move x=>k (quiet [] (ev T x))
 | .assign x=>k (quiet [] (ev T x))
 | .pick c a b=>Zcm T c a b k
 | .alloc t=>(match E.arrOf t with|some th=>Zjf E t th i k|none=>Vk E t i k)
 | .box t x=>(match E.arrOf t with|some th=>Zre E t th (ev T x) i k|none=>Zfz (ev T x) i k)
 | .build t parts=>U3 E t parts T k
 | .buildSlice t len parts=>Wd E t len parts T i k
 | .load t x=>Zhi E t (ev T x) h k
 | .store t x v=>Zo1 E t (ev T x) (ev T v) h k
 | .nilCheck x=>Zl2 (ev T x) k
 | .binOp op t x y _=>Z84 E op t x y T k
 | .unOp op _ x=>sun op (ev T x) k
 | .makeInterface t x=>Zo6 E t (ev T x) k
 | .typeAssert x _ t ok=>Zjj E (ev T x) t ok k
 | .convert J I x=>Zcn E J I (ev T x) h k
 | .makeFunc fn a b=>Zdp fn a b T k
 | .fieldAddr s x f=>Wv E s (ev T x) f k
 | .field s x f=>Zhh E s (ev T x) f k
 | .indexAddr t x j=>X6 E t (ev T x) (ev T j) h k
 | .index t x j=>Zc7 E t (ev T x) (ev T j) k
 | .slice t x lo hi mx=>U4 E t x lo hi mx T h k
 | .makeSlice t x y=>Z81 E t (ev T x) (ev T y) i k
 | .makeMap t aD=>Zl4 E t i k
 | .insert t m x v=>sput E t (ev T m) (ev T x) (ev T v) h k
 | .mapUpdate t m x v=>Z80 E t (ev T m) (ev T x) (ev T v) h k
 | .lookup t m x ok=>Zji E t (ev T m) (ev T x) ok h k
 | .extract x n=>Zjk (ev T x) n k
 | .call c=>U2 E call c T h i k
 | .panic x=>Z3n (ev T x) k
 |_=>False
noncomputable def Zf0(j:Hp Y):List Nat->Hp Y->(Hp Y->Prop)->Prop
 | [],h,k=>k h
 |b::r,h,k=>Xy b λb=>Zje (j b) λblk=>Zf0 j r (upd h b blk) k
def Zdq(j:Hp Y) (m:List Nat) (i:Nat):Nat->List Nat
 |0=>m
 |n+1=>match j i with|some _=>i::Zdq j m (i+1) n|none=>Zdq j m (i+1) n
noncomputable def Zjn(r:Res Y) (h:Hp Y) (i:Nat) (ms:List Nat) (k:Hp Y->Nat->List Nat->Prop):Prop:=
 match r.n with
 |0=>(match r.mods with| []=>k h i ms|m=>Zf0 r.h m h λh=>k h i (m++ms))
 |n=>Xy (i+n) λj=>Zf0 r.h (Zdq r.h r.mods i n) h λh=>k h j (r.mods++ms)
def Zc9:SV Y->Option Value
 | .pan u=>ah u
 |_=>aD
noncomputable def Zl6(N:Nat) (d:Option Nat) (r:Res Y) (T:Fr Y) (h:Hp Y) (i:Nat) (ms:List Nat) (k:Fr Y->Hp Y->Nat->List Nat->Prop):Prop:=
 match d with
 |none=>Zjn r h i ms λh i ms=>k T h i ms
 |some d=>
  match aZ d N with
  |true=>force r.v λv=>Zjn r h i ms λh i ms=>k (upd T d v) h i ms
  |false=>False
noncomputable def keep(N:Nat) (d:Option Nat) (r:Res Y) (T:Fr Y) (h:Hp Y) (i:Nat) (ms:List Nat) (k:Fr Y->Hp Y->Nat->List Nat->Prop):Prop:=
 match Zc9 r.v with
 |some _=>False
 |none=>Zl6 N d r T h i ms k
noncomputable def Zjo(N:Nat) (d:Option Nat) (r:Res Y) (T:Fr Y) (h:Hp Y) (i:Nat) (ms:List Nat) (K:Exit->Fr Y->Hp Y->Nat->List Nat->Prop) (k:Fr Y->Hp Y->Nat->List Nat->Prop):Prop:=
 match Zc9 r.v with
 |some u=>Zjn r h i ms λh i ms=>K (.panic [{v:=u,recovered:=false}]) T h i ms
 |none=>Zl6 N d r T h i ms k
def Zf1(all:List Oper) (j:Nat):Option Nat:=match all[j]? with|some o=>o.dst|none=>aD
def Zzi:Value->Bool
 | .bool _=>af
 |_=>ae
noncomputable def rgn(E:Eng Y) (N:Nat) (call:Nat->List (SV Y)->Hp Y->Nat->(Res Y->Prop)->Prop) (all:List Oper):List Oper->Fr Y->Hp Y->Nat->List Nat->(Exit->Fr Y->Hp Y->Nat->List Nat->Prop)->Prop
 | [],T,h,i,ms,k=>k .normal T h i ms
 |o::r,T,h,i,ms,k=>
  match o.guard with
  |none=>step E call o.op T h i λt=>Zjo N o.dst t T h i ms k λT h i ms=>rgn E N call all r T h i ms k
  |some (j,b)=>
   match Zf1 all j with
   |some d=>
    match T d with
    | .bool l x=>split l x λv=>
     (match v,b with
     |true,af=>step E call o.op (upd T d (.bool af af)) h i λt=>Zjo N o.dst t (upd T d (.bool af af)) h i ms k λT h i ms=>rgn E N call all r T h i ms k
     |false,ae=>step E call o.op (upd T d (.bool af ae)) h i λt=>Zjo N o.dst t (upd T d (.bool af ae)) h i ms k λT h i ms=>rgn E N call all r T h i ms k
     |v,_=>(match o.dst with|none=>rgn E N call all r (upd T d (.bool af v)) h i ms k|some I=>rgn E N call all r (upd (upd T d (.bool af v)) I (.val undef)) h i ms k))
    | .val u=>(match Zzi u with|true=>False|false=>(match o.dst with|none=>rgn E N call all r T h i ms k|some I=>rgn E N call all r (upd T I (.val undef)) h i ms k))
    |_=>False
   |none=>False
def waitsOf(o:Oper):List Nat:=(o.after.toList.filter (kh .any)).map (·.on)
def bitB(m j:Nat):Bool:=bf (Nat.land (Nat.shiftRight m j) 1) 1
def nthN:List Nat->Nat->Nat
 | [],_=>0
 |x::_,0=>x
 |_::r,n+1=>nthN r n
def Za0:List Nat->List Nat->Nat
 | [],_=>0
 |j::r,t=>Nat.lor (Nat.lor (Nat.shiftLeft 1 j) (nthN t j)) (Za0 r t)
def Y4:List Oper->List Nat->List Nat
 | [],j=>j
 |o::r,j=>Y4 r (j++ [Za0 (waitsOf o) j])
def Zdr:List Operand->List Nat
 | []=> []
 | .tmp t::r=>t::Zdr r
 |_::r=>Zdr r
def Wm(all:List Oper) (o:Oper):List Nat:=
 match o.guard with
 |none=>Zdr o.op.operands.toList
 |some (g,_)=>(match Zf1 all g with|some d=>d::Zdr o.op.operands.toList|none=>Zdr o.op.operands.toList)
def memO(d:Option Nat) (l:List Nat):Bool:=match d with|some d=>memB d l|none=>ae
def Ybk(a b:Option Nat):Bool:=match a,b with|some a,ah b=>bf a b|_,_=>ae
def Zhk(all:List Oper) (a b:Oper):Bool:= !(memO a.dst (Wm all b))&& !(memO b.dst (Wm all a))&& !(Ybk a.dst b.dst)
def Zap(all:List Oper) (b:Oper) (m:Nat):List Oper->Nat->Bool
 | [],_=>af
 |a::r,i=>(bitB m i||Zhk all a b)&&Zap all b m r (i+1)
def Zt0(j:Nat):List Nat->Bool
 | []=>af
 |x::r=>aZ x j&&Zt0 j r
def Zco(all:List Oper) (ms:List Nat):List Oper->Nat->Bool
 | [],_=>af
 |b::r,j=>Zt0 j (waitsOf b)&&Zap all b (nthN ms j) (all.take j) 0&&Zco all ms r (j+1)
structure DR(Y:Thy) where
 i:Nat
 r:Res Y
def DR.new(d:DR Y) (b:Nat):Bool:=cn d.i b&&aZ b (d.i+d.r.n)
def Za1(d:DR Y):List Nat->Bool
 | []=>af
 |x::r=> !(d.new x)&&Za1 d r
def disj:List Nat->List Nat->Bool
 | [],_=>af
 |x::r,l=> !(memB x l)&&disj r l
def Zt1:List Nat->Bool
 | []=>af
 |_=>ae
def Zf2(a b:DR Y):Bool:=
 (disj a.r.mods b.r.mods&&Za1 a b.r.mods)&&
 (match b.r.rd with|none=>Zt1 a.r.mods|some l=>disj a.r.mods l&&Za1 a l)&&
 (match a.r.rd with|none=>Zt1 b.r.mods|some l=>disj b.r.mods l&&Za1 b l)
def W6(b:DR Y):List (DR Y)->Bool
 | []=>af
 |a::r=>Zf2 a b&&W6 b r
def Xq(m:Nat):List (Nat×DR Y)->List (DR Y)
 | []=> []
 |(j,d)::r=>match bitB m j with|true=>Xq m r|false=>d::Xq m r
def U5:List (DR Y)->List (DR Y)
 | []=> []
 |d::r=>match d.r.n with|0=>U5 r|_=>d::U5 r
def Zl7(b:Nat):List (DR Y)->Bool
 | []=>ae
 |d::r=>d.new b||Zl7 b r
def W7(h:Hp Y) (un:List (DR Y)):Hp Y:=
 match U5 un with
 | []=>h
 |l=>λb=>match Zl7 b l with|true=>aD|false=>h b
def Yf:List Oper->List Nat
 | []=> []
 |o::r=>match o.dst with|some d=>d::Yf r|none=>Yf r
def Wn:List Nat->Fr Y->Fr Y
 | [],T=>T
 |d::r,T=>upd (Wn r T) d .unk
def noG:List Oper->Bool
 | []=>af
 |o::r=>o.guard.isNone&&noG r
def Zgh:List (Nat×DR Y)->Bool
 | []=>af
 |p::r=>(match p.2.r.n with|0=>Zt1 p.2.r.mods|_=>ae)&&Zgh r
def Z85(N:Nat):Option Nat->Bool
 |none=>af
 |some d=>aZ d N
noncomputable def rgnX(E:Eng Y) (N:Nat) (call:Nat->List (SV Y)->Hp Y->Nat->(Res Y->Prop)->Prop) (J:List Nat) (I:Nat):List Oper->Nat->Fr Y->Hp Y->Nat->Prop->Prop
 | [],_,_,_,_,K=>K
 |o::r,j,T,h,i,K=>
  match bitB (nthN J j) I with
  |true=>rgnX E N call J I r (j+1) (updO T o.dst .unk) h i K
  |false=>step E call o.op T h i λt=>
   (match t.n,Zt1 t.mods&&Z85 N o.dst,Zc9 t.v with
   |0,af,aD=>force t.v λv=>rgnX E N call J I r (j+1) (updO T o.dst v) h i K
   |_,_,_=>False)
def X7(N:Nat) (d:Option Nat):SV Y:=match Z85 N d with|true=> .val undef|false=> .unk
noncomputable def rgnD(E:Eng Y) (N:Nat) (call:Nat->List (SV Y)->Hp Y->Nat->(Res Y->Prop)->Prop) (all:List Oper) (t:List Nat):List Oper->Nat->Fr Y->Hp Y->Nat->List Nat->List (Nat×DR Y)->(Exit->Fr Y->Hp Y->Nat->List Nat->Prop)->Prop
 | [],_,T,h,i,ms,_,k=>k .normal T h i ms
 |o::r,j,T,h,i,ms,prev,k=>
  match o.guard with
  |none=>step E call o.op T (W7 h (Xq (nthN t j) prev)) i λI=>
   (match Zc9 I.v with
   |some u=>(match noG all&&Zgh prev with
    |true=>rgnX E N call t j r (j+1) (updO T o.dst .unk) h i (Zjn I h i ms λh i ms=>k (.panic [{v:=u,recovered:=false}]) (Wn (Yf all) T) h i ms)
    |false=>False)
   |none=>(match W6 ⟨i,I⟩ (Xq (nthN t j) prev) with
    |true=>keep N o.dst I T h i ms λT h J ms=>rgnD E N call all t r (j+1) T h J ms ((j,⟨i,I⟩)::prev) k
    |false=>False))
  |some (g,b)=>
   match Zf1 all g with
   |some d=>
    match T d with
    | .bool l x=>split l x λv=>
     (match v==b with
     |true=>step E call o.op (upd T d (.bool af v)) (W7 h (Xq (nthN t j) prev)) i λI=>
      (match W6 ⟨i,I⟩ (Xq (nthN t j) prev) with
      |true=>keep N o.dst I (upd T d (.bool af v)) h i ms λT h J ms=>rgnD E N call all t r (j+1) T h J ms ((j,⟨i,I⟩)::prev) k
      |false=>False)
     |false=>rgnD E N call all t r (j+1) (updO (upd T d (.bool af v)) o.dst (X7 N o.dst)) h i ms ((j,⟨i,quiet [] (X7 N o.dst)⟩)::prev) k)
    | .val u=>(match Zzi u with|true=>False|false=>rgnD E N call all t r (j+1) (updO T o.dst (X7 N o.dst)) h i ms ((j,⟨i,quiet [] (X7 N o.dst)⟩)::prev) k)
    |_=>False
   |none=>False
abbrev Sum(Y:Thy):=List (SV Y)->Hp Y->Nat->(Res Y->Prop)->Prop
abbrev Kont(Y:Thy):=Exit->Fr Y->Hp Y->Nat->List Nat->Prop
structure Fns(Y:Thy) where
 sums:Nat->Option (Sum Y)
 fns:Nat->Option Func
 loops:Nat->Nat->Option ((Fr Y->Hp Y->Nat->List Nat->Kont Y->Prop)->Fr Y->Hp Y->Nat->List Nat->Kont Y->Prop)
 defs:Nat->Bool:=λ_=>ae
 dfl:Nat:=1000
def nthD:List (SV Y)->Nat->SV Y
 | [],_=> .unk
 |x::_,0=>x
 |_::r,n+1=>nthD r n
def Zzj(E:Eng Y) (I:TyI) (off:Nat) (th:Y.Th) (l:List (Y.dom th)):Option (SV Y):=
 match I,off with
 |⟨.array n el,sz,_,_⟩,0=>
  match E.ty el with
  |some t=>
   match E.dec th (Yw t.zero:SV Y).cells,bf sz (n*E.w th) with
   |some j,af=>ah (.agg (Wq E th l j n 0))
   |_,_=>aD
  |none=>aD
 |_,_=>aD
def Zjp(E:Eng Y) (T:Fr Y) (h:Hp Y):ResultVar->Option (SV Y)
 | .tmp t=>ah (T t)
 | .cell a t=>
  match E.ty t,T a with
  |some j,.ptr b off=>(match h b with|some (.raw cs _ _)=>Vt (Zu j.d) j.size off cs|some (.rows th l _)=>Zzj E j off th l|_=>aD)
  |_,_=>aD
def resN(E:Eng Y) (T:Fr Y) (h:Hp Y):List ResultVar->Prop->Prop
 | [],p=>p
 | .tmp _::rs,p=>resN E T h rs p
 | .cell a t::rs,p=>
  match E.ty t,T a with
  |some ⟨.array n _,_,_,_⟩,.ptr b _=>(match h b with|some (.rows _ l _)=>l.length=n/\resN E T h rs p|_=>resN E T h rs p)
  |_,_=>resN E T h rs p
def W8(E:Eng Y) (T:Fr Y) (h:Hp Y):List ResultVar->Option (List (SV Y))
 | []=>ah []
 |r::rs=>(match Zjp E T h r,W8 E T h rs with|some v,ah vs=>ah (v::vs)|_,_=>aD)
def Zaq:List (SV Y)->SV Y
 | [v]=>v
 |vs=> .tup vs
def Zef:Code->Option Nat
 | .region id _ _=>ah id
 | .seq a _=>Zef a
 | .block _ b=>Zef b
 | .loop b=>Zef b
 |_=>aD
abbrev Zhl(Y:Thy):=Fr Y->Hp Y->Nat->List Nat->Kont Y->Prop
def lpOf(F:Fns Y) (f:Nat) (b:Code):Option (Zhl Y->Zhl Y):=match Zef b with|some j=>F.loops f j|none=>aD
def Ya(i:Nat):List Nat->List Nat
 | []=> []
 |b::r=>match aZ b i&& !(memB b (Ya i r)) with|true=>b::Ya i r|false=>Ya i r
def Zt2(h:Hp Y) (m:List Nat):Hp Y:=λb=>match memB b m with|true=>h b|false=>aD
noncomputable def finF(E:Eng Y) (fn:Func) (i:Nat) (k:Res Y->Prop) (t:Fr Y) (j:Hp Y) (I:Nat) (ms:List Nat):Prop:=
 resN E t j fn.results.toList (match W8 E t j fn.results.toList with|some vs=>Zck vs λvs=>Ue (Ya i ms) λms=>Ue (Ztw j i 100000 (idsL vs++idsM j ms) ms) λl=>Xy (I-i) λn=>k ⟨Zaq vs,n,ms,Zt2 j l,aD⟩|none=>False)
noncomputable def finP(i:Nat) (k:Res Y->Prop) (u:Value) (j:Hp Y) (t:Nat) (ms:List Nat):Prop:=
 Ue (Ya i ms) λms=>Ue (Ztw j i 100000 (idsM j ms) ms) λl=>Xy (t-i) λn=>k ⟨.pan u,n,ms,Zt2 j l,aD⟩
def Zt3:List PanicEntry->Option Value
 | [⟨u,ae,ae⟩]=>ah u
 |_=>aD
noncomputable def U6(E:Eng Y) (F:Fns Y) (J:Nat->Nat->Code->Fr Y->Hp Y->Nat->List Nat->Kont Y->Prop):Nat->List (SV Y)->Hp Y->Nat->(Res Y->Prop)->Prop:=λf args h i k=>
 match F.sums f with
 |some S=>Zck args λargs=>S args h i k
 |none=>
  match F.fns f with
  |some fn=>
   match fn.body with
   |some c=>match cn args.length fn.ntmps with|false=>False|true=>Zck args λargs=>J f fn.ntmps c (nthD args) h i [] λe T j t ms=>
    (match e with
    | .normal| .ret=>finF E fn i k T j t ms
    | .panic I=>(match Zt3 I with|some u=>finP i k u j t ms|none=>False)
    |_=>False)
   |none=>False
  |none=>False
def Zf3:List Oper->Option (List Oper×Oper)
 | []=>aD
 |o::r=>
  match r with
  | []=>(match o.op,o.guard,o.dst with| .defer _,aD,aD=>ah ([],o)|_,_,_=>aD)
  |_::_=>(match Zf3 r with|some (l,d)=>ah (o::l,d)|none=>aD)
def Zcp:Code->Bool
 | .region _ ops ae=>(Zf3 ops.toList).isSome
 | .seq a b=>Zcp a||Zcp b
 | .block _ b=>Zcp b
 | .loop b=>Zcp b
 |_=>ae
def Zrg(o:Oper) (T:Fr Y):Option (Nat×List (SV Y)):=
 match o.op with
 | .defer c=>(match c.callee with| .value f=>(match ev T f with| .fn (.func g) a b=>ah (g,a++c.args.toList.map (ev T)++b)|_=>aD)|_=>aD)
 |_=>aD
abbrev Dfr(Y:Thy):=Nat×List (SV Y)
abbrev Yce(Y:Thy):=Exit->List (Dfr Y)->Fr Y->Hp Y->Nat->List Nat->Prop
abbrev RecD(Y:Thy):=Code->List (Dfr Y)->Fr Y->Hp Y->Nat->List Nat->Yce Y->Prop
noncomputable def vcDB(E:Eng Y) (call:Nat->List (SV Y)->Hp Y->Nat->(Res Y->Prop)->Prop) (I:Nat->Nat->Code->Fr Y->Hp Y->Nat->List Nat->Kont Y->Prop) (f N:Nat) (ih:RecD Y):RecD Y:=λc t T h i ms K=>
 match Zcp c with
 |false=>I f N c T h i ms λe T h i ms=>K e t T h i ms
 |true=>
  (match c with
  | .region _ ops ae=>
   (match Zf3 ops.toList with
   |some (l,o)=>rgn E N call ops.toList l T h i ms λe T h i ms=>(match e with| .normal=>(match Zrg o T with|some p=>Zck p.2 λq=>K .normal ((p.1,q)::t) T h i ms|none=>False)|_=>False)
   |none=>False)
  | .seq a b=>ih a t T h i ms λe t T h i ms=>(match e with| .normal=>ih b t T h i ms K|e=>K e t T h i ms)
  | .block id b=>ih b t T h i ms λe t T h i ms=>(match e with| .exit j=>(match bf j id with|true=>K .normal t T h i ms|false=>K (.exit j) t T h i ms)|e=>K e t T h i ms)
  | .loop b=>ih b t T h i ms λe t T h i ms=>(match e with| .normal=>ih (.loop b) t T h i ms K|e=>K e t T h i ms)
  |_=>False)
noncomputable def vcD(E:Eng Y) (call:Nat->List (SV Y)->Hp Y->Nat->(Res Y->Prop)->Prop) (j:Nat->Nat->Code->Fr Y->Hp Y->Nat->List Nat->Kont Y->Prop) (f N:Nat) (n:Nat):RecD Y:=
 Nat.rec (λ_ _ _ _ _ _ _=>False) (λ_ ih=>vcDB E call j f N ih) n
def Z3o(o:Oper):Bool:=match o.op,o.guard with| .call ⟨.builtin .recover,⟨[]⟩,_⟩,aD=>af|_,_=>ae
def Z41:Code->Bool
 | .region _ ops ae=>(match ops.toList with|o::_=>Z3o o| []=>ae)
 | .seq a _=>Z41 a
 |_=>ae
noncomputable def vcS(E:Eng Y) (t:SV Y) (call:Nat->List (SV Y)->Hp Y->Nat->(Res Y->Prop)->Prop) (j:Nat->Nat->Code->Fr Y->Hp Y->Nat->List Nat->Kont Y->Prop) (f N:Nat):Code->Fr Y->Hp Y->Nat->List Nat->Kont Y->Prop
 | .region _ ops ae,T,h,i,ms,K=>
  (match ops.toList with
  |o::l=>(match Z3o o,o.dst with
   |true,ah d=>(match aZ d N with|true=>rgn E N call ops.toList l (upd T d t) h i ms (λe T h i ms=>match e with| .normal=>K .normal T h i ms|_=>False)|false=>False)
   |_,_=>False)
  | []=>False)
 | .seq a b,T,h,i,ms,K=>vcS E t call j f N a T h i ms λe T h i ms=>(match e with| .normal=>j f N b T h i ms K|e=>K e T h i ms)
 |_,_,_,_,_,_=>False
def rvOf(E:Eng Y):Option Value->SV Y
 |none=> .val .nilIface
 |some u=>svP E.lit u
noncomputable def Zt4(E:Eng Y) (F:Fns Y) (pm:Option Value) (call:Nat->List (SV Y)->Hp Y->Nat->(Res Y->Prop)->Prop) (I:Nat->Nat->Code->Fr Y->Hp Y->Nat->List Nat->Kont Y->Prop) (f:Nat) (args:List (SV Y)) (h:Hp Y) (i:Nat) (k:Res Y->Prop):Prop:=
 match F.fns f with
 |some fn=>
  match fn.body with
  |some c=>
   match cn args.length fn.ntmps with
   |false=>False
   |true=>
    match Z41 c with
    |true=>vcS E (rvOf E pm) call I f fn.ntmps c (nthD args) h i [] λe T j t ms=>(match e with| .normal| .ret=>finF E fn i k T j t ms|_=>False)
    |false=>(match pm with|none=>I f fn.ntmps c (nthD args) h i [] λe T j t ms=>(match e with| .normal| .ret=>finF E fn i k T j t ms|_=>False)|some _=>False)
  |none=>False
 |none=>False
noncomputable def Zrh(E:Eng Y) (F:Fns Y) (call:Nat->List (SV Y)->Hp Y->Nat->(Res Y->Prop)->Prop) (j:Nat->Nat->Code->Fr Y->Hp Y->Nat->List Nat->Kont Y->Prop):List (Dfr Y)->Hp Y->Nat->List Nat->(Hp Y->Nat->List Nat->Prop)->Prop
 | [],h,i,ms,K=>K h i ms
 |p::t,h,i,ms,K=>Zt4 E F aD call j p.1 p.2 h i λr=>Zjn r h i ms λh i ms=>Zrh E F call j t h i ms K
noncomputable def Zk(E:Eng Y) (F:Fns Y) (I:Nat->Nat->Code->Fr Y->Hp Y->Nat->List Nat->Kont Y->Prop):Nat->List (SV Y)->Hp Y->Nat->(Res Y->Prop)->Prop:=λf args h i k=>
 match F.defs f with
 |false=>U6 E F I f args h i k
 |true=>
  match F.fns f with
  |some fn=>
   match fn.body with
   |some c=>match cn args.length fn.ntmps with|false=>False|true=>Zck args λargs=>vcD E (U6 E F I) I f fn.ntmps F.dfl c [] (nthD args) h i [] λe dl T j t ms=>
    (match e with
    | .normal| .ret=>Zrh E F (U6 E F I) I dl j t ms λj t ms=>finF E fn i k T j t ms
    | .panic J=>(match Zt3 J with
     |some u=>(match dl with
      | []=>finP i k u j t ms
      | [p]=>Zt4 E F (ah u) (U6 E F I) I p.1 p.2 j t λr=>Zjn r j t ms λj t ms=>finF E fn i k T j t ms
      |_=>False)
     |none=>False)
    |_=>False)
   |none=>False
  |none=>False
abbrev Rec(Y:Thy):=Nat->Nat->Code->Fr Y->Hp Y->Nat->List Nat->Kont Y->Prop
def Z42:Callee->Bool
 | .builtin .len=>af
 | .builtin .min=>af
 | .builtin .max=>af
 |_=>ae
def Zf4:Op->Bool
 | .move _=>af
 | .pick _ _ _=>af
 | .load _ _=>af
 | .binOp _ _ _ _ _=>af
 | .unOp _ _ _=>af
 | .convert _ _ _=>af
 | .fieldAddr _ _ _=>af
 | .field _ _ _=>af
 | .indexAddr _ _ _=>af
 | .index _ _ _=>af
 | .extract _ _=>af
 | .call c=>Z42 c.callee
 |_=>ae
def Ybl(x:Operand) (d:Nat):Bool:=match x with| .tmp t=>bf t d|_=>ae
def Z3p(d:Nat):List Oper->Option (List Nat)
 | []=>ah []
 |o::r=>
  match o.guard,o.op,o.dst,Z3p d r with
  |none,.assign x,ah j,ah l=>(match Ybl x d with|true=>ah (j::l)|false=>aD)
  |none,.move x,ah j,ah l=>(match Ybl x d with|true=>ah (j::l)|false=>aD)
  |_,_,_,_=>aD
def Zjq(o:Oper) (r:List Oper):Option (Nat×List Nat):=
 match o.op,o.guard,o.dst with
 | .pick _ _ _,aD,ah d=>(match Z3p d r with|some l=>ah (d,l)|none=>aD)
 |_,_,_=>aD
def Zzk:List Oper->Bool->Option (Nat×List Nat)
 | [],_=>aD
 |o::r,g=>
  match Zf4 o.op with
  |true=>(match g,Zjq o r with|true,ah p=>ah p|_,_=>Zzk r (g||o.guard.isSome))
  |false=>aD
def Zl8(b:Bool):List Nat->Fr Y->Fr Y
 | [],T=>T
 |d::r,T=>upd (Zl8 b r T) d (.bool af b)
def Zzl(T:Fr Y) (b:Bool):List Nat->Prop
 | []=>True
 |d::r=>(match T d with| .bool _ j=>j=b|_=>False)/\Zzl T b r
def Zzm(d:Nat) (l:List Nat) (Q:Bool->Prop) (T:Fr Y):Prop:=match l with| []=>(match T d with| .bool _ b=>Q b|_=>False)|l=>(match T d with| .bool _ b=>Zzl T b l/\Q b|_=>False)
inductive MK(Y:Thy) where
 |mk
 |val (rd:List Nat) (v:SV Y)
 |ins (key:Value) (v:SV Y)
 |out
def esOf:List (MK Y)->List (Value×SV Y)
 | []=> []
 | .ins key v::r=>(key,v)::esOf r
 |_::r=>esOf r
def getO{α:Type}:List α->Nat->Option α
 | [],_=>aD
 |x::_,0=>ah x
 |_::r,n+1=>getO r n
def Zgi(all:List Oper) (cs:List (MK Y)) (d:Nat):List Nat->Option (MK Y)
 | []=>aD
 |k::r=>match getO all k,getO cs k with
  |some o,ah c=>(match o.dst with|some j=>(match bf j d with|true=>ah c|false=>Zgi all cs d r)|none=>Zgi all cs d r)
  |_,_=>Zgi all cs d r
def Z86:Option (MK Y)->Bool
 |some .mk=>af
 |_=>ae
def Zri:Option (MK Y)->Bool
 |some .mk=>af
 |some .out=>af
 |_=>ae
noncomputable def Zhm(E:Eng Y) (call:Nat->List (SV Y)->Hp Y->Nat->(Res Y->Prop)->Prop) (t:Fr Y) (h:Hp Y) (i:Nat) (o:Oper) (k:MK Y->Prop):Prop:=
 match o.dst with
 |some _=>step E call o.op t h i λj=>
  (match j.n,j.mods,j.rd with
  |0,[],ah rd=>(match memB i rd with|false=>(match Zc9 j.v with|none=>force j.v λv=>k (.val rd v)|some _=>False)|true=>False)
  |_,_,_=>False)
 |none=>False
noncomputable def Zd3(E:Eng Y) (call:Nat->List (SV Y)->Hp Y->Nat->(Res Y->Prop)->Prop) (all:List Oper) (t:TypeId) (j:Fr Y) (h:Hp Y) (i:Nat):List Oper->List (MK Y)->(List (MK Y)->Prop)->Prop
 | [],cs,k=>k cs
 |o::r,cs,k=>
  match o.op,o.dst with
  | .insert I (.tmp m) (.const key) (.tmp d),aD=>
   (match bf I t&&Z86 (Zgi all cs m (waitsOf o)),Zgi all cs d (waitsOf o) with
   |true,ah (.val _ v)=>Zd3 E call all t j h i r (cs++ [.ins key v]) k
   |_,_=>False)
  | .move (.tmp x),ah _=>(match Zri (Zgi all cs x (waitsOf o)) with|true=>Zd3 E call all t j h i r (cs++ [.out]) k|false=>Zhm E call j h i o λc=>Zd3 E call all t j h i r (cs++ [c]) k)
  | .assign (.tmp x),ah _=>(match Zri (Zgi all cs x (waitsOf o)) with|true=>Zd3 E call all t j h i r (cs++ [.out]) k|false=>Zhm E call j h i o λc=>Zd3 E call all t j h i r (cs++ [c]) k)
  |_,_=>Zhm E call j h i o λc=>Zd3 E call all t j h i r (cs++ [c]) k
def Z3q:List Oper->Nat->Bool
 | [],_=>af
 |o::r,k=>Zt0 k (waitsOf o)&&o.guard.isNone&&Z3q r (k+1)
def Zl9(N:Nat):List Oper->List Nat->Bool
 | [],_=>af
 |o::r,seen=>match o.dst with|some d=>aZ d N&& !(memB d seen)&&Zl9 N r (d::seen)|none=>Zl9 N r seen
def memI(n:Int):List Int->Bool
 | []=>ae
 |x::r=>match decide (n=x) with|true=>af|false=>memI n r
def Zbn(kd:IntKind) (i:Nat):List (MK Y)->List Int->Bool
 | [],_=>af
 | .ins (.int j n) v::r,seen=>decide (j=kd)&& !(memI n seen)&&nid i v&&Zbn kd i r (n::seen)
 | .ins _ _::_,_=>ae
 |_::r,seen=>Zbn kd i r seen
def Zjr(E:Eng Y):List Oper->Option (TypeId×IntKind)
 |o::_=>(match o.op,o.dst with
  | .makeMap t aD,ah _=>(match E.ty t with
   |some ⟨.map j _,_,_,_⟩=>(match E.ty j with|some ⟨.int kd,_,_,_⟩=>ah (t,kd)|_=>aD)
   |_=>aD)
  |_,_=>aD)
 | []=>aD
def Z3r{α:Type}:List α->Option α
 | []=>aD
 | [x]=>ah x
 |_::r=>Z3r r
noncomputable def Z87(E:Eng Y) (call:Nat->List (SV Y)->Hp Y->Nat->(Res Y->Prop)->Prop) (N:Nat) (ops:List Oper) (t:TypeId) (kd:IntKind) (T:Fr Y) (h:Hp Y) (i:Nat) (ms:List Nat) (K:Fr Y->Hp Y->Nat->List Nat->Prop):Prop:=
 match Z3q ops 0&&Zl9 N ops [],Z3r ops with
 |true,ah ol=>Zd3 E call ops t (Wn (Yf ops) T) h i ops.tail [.mk] λcs=>
  (match Zbn kd i cs [],Z3r cs,ol.dst with
  |true,ah .out,ah dl=>Xy (i+1) λj=>K (upd (Wn (Yf ops) T) dl (.pmap (esOf cs))) h j ms
  |_,_,_=>False)
 |_,_=>False
noncomputable def Zo7(E:Eng Y) (F:Fns Y) (j:Rec Y) (N:Nat) (ops:List Oper) (J:Bool) (T:Fr Y) (h:Hp Y) (i:Nat) (ms:List Nat) (K:Kont Y):Prop:=
 match J with
 |false=>
  (match E.lit,Zzk ops ae with
  |false,ah (d,[])=>∃Q:Bool->Prop,rgn E N (Zk E F j) ops ops T h i ms (λe I _ _ _=>match e with| .normal=>Zzm d [] Q I|_=>False)/\
   (Q af->K .normal (Zl8 af [d] (Wn (Yf ops) T)) h i ms)/\(Q ae->K .normal (Zl8 ae [d] (Wn (Yf ops) T)) h i ms)
  |_,_=>rgn E N (Zk E F j) ops ops T h i ms K)
 |true=>(match Zjr E ops with
  |some (t,kd)=>Z87 E (Zk E F j) N ops t kd T h i ms (K .normal)
  |none=>(match Zco ops (Y4 ops []) ops 0 with|true=>rgnD E N (Zk E F j) ops (Y4 ops []) ops 0 T h i ms [] K|false=>False))
def Zo8(j:Rec Y) (f N:Nat) (a b:Code) (T:Fr Y) (h:Hp Y) (i:Nat) (ms:List Nat) (K:Kont Y):Prop:=
 j f N a T h i ms λe T h i ms=>(match e with| .normal=>j f N b T h i ms K|e=>K e T h i ms)
def Zf5(j:Rec Y) (f N:Nat) (x:Operand) (a b:Code) (T:Fr Y) (h:Hp Y) (i:Nat) (ms:List Nat) (K:Kont Y):Prop:=
 match ev T x with| .bool l v=>split l v (λv=>match v with|true=>j f N a T h i ms K|false=>j f N b T h i ms K)|_=>False
def Zbo(t:Rec Y) (f N id:Nat) (b:Code) (T:Fr Y) (h:Hp Y) (i:Nat) (ms:List Nat) (K:Kont Y):Prop:=
 t f N b T h i ms λe T h i ms=>(match e with| .exit j=>(match bf j id with|true=>K .normal T h i ms|false=>K (.exit j) T h i ms)|e=>K e T h i ms)
def Zzn(j:Rec Y) (f N:Nat) (b:Code) (T:Fr Y) (h:Hp Y) (i:Nat) (ms:List Nat) (K:Kont Y):Prop:=
 j f N b T h i ms λe T h i ms=>(match e with| .goto _=>False|e=>K e T h i ms)
def Zf6(F:Fns Y) (j:Rec Y) (f N:Nat) (b:Code) (T:Fr Y) (h:Hp Y) (i:Nat) (ms:List Nat) (K:Kont Y):Prop:=
 match lpOf F f b with
 |some L=>L (j f N b) T h i ms K
 |none=>j f N b T h i ms λe T h i ms=>(match e with| .normal=>j f N (.loop b) T h i ms K|e=>K e T h i ms)
noncomputable def vcB(E:Eng Y) (F:Fns Y) (j:Rec Y):Rec Y:=λf N c T h i ms K=>
 match c with
 | .skip=>K .normal T h i ms
 | .region _ ops t=>Zo7 E F j N ops.toList t T h i ms K
 | .seq a b=>Zo8 j f N a b T h i ms K
 | .cond x a b=>Zf5 j f N x a b T h i ms K
 | .block id b=>Zbo j f N id b T h i ms K
 | .loop b=>Zf6 F j f N b T h i ms K
 | .exit id=>K (.exit id) T h i ms
 | .ret=>K .ret T h i ms
 | .label _=>K .normal T h i ms
 | .scope b=>Zzn j f N b T h i ms K
 |_=>False
noncomputable def vc(E:Eng Y) (F:Fns Y) (n:Nat):Nat->Nat->Code->Fr Y->Hp Y->Nat->List Nat->Kont Y->Prop:=
 Nat.rec (λ_ _ _ _ _ _ _ _=>False) (λ_ ih=>vcB E F ih) n
end
end
section
open Go.RowKit
structure GH where
 cell:Nat->Nat->Option Value
 obj:Nat->Option (Array MapEntry)
structure GH.le(g g':GH):Prop where
 c:∀r o v,g.cell r o=ah v->g'.cell r o=ah v
 m:∀r es,g.obj r=ah es->g'.obj r=ah es
theorem GH.le.refl(g:GH):g.le g:=⟨λ_ _ _ h=>h,λ_ _ h=>h⟩
theorem GH.le.trans{a b c:GH} (h:a.le b) (k:b.le c):a.le c:=⟨λr o v x=>k.c r o v (h.c r o v x),λr j x=>k.m r j (h.m r j x)⟩
abbrev Pl:=Nat->Option (Nat×Nat)
def Pl.le(σ σ':Pl):Prop:=∀b p,σ b=ah p->σ' b=ah p
theorem Pl.le.refl(σ:Pl):Pl.le σ σ:=λ_ _ h=>h
theorem Pl.le.trans{a b c:Pl} (h:Pl.le a b) (k:Pl.le b c):Pl.le a c:=λx p e=>k x p (h x p e)
section
variable {Y:Thy}
theorem Zda(b:ByteArray):(toL b).length=b.size:=by
 show(b.data.toList.map ff).length=b.data.size;rw[List.length_map,gy]
theorem Zo9{a b:ByteArray} (h:toL a=toL b):a=b:=by
 apply ByteArray.ext;have key:∀l l':List UInt8,l.map ff=l'.map ff->l=l':=by
  intro l
  induction l with
  |nil=>intro l' h;cases l' with|nil=>rfl|cons y r=>simp at h
  |cons x r ih=>
   intro l' h;cases l' with
   |nil=>simp at h
   |cons y j=>
    simp only[ei,List.cons.injEq] at h;rw[ih j h.2,im.1 h.1]
 have:=key _ _ h;cases a;cases b
 simpa using this
theorem Zzo(b:ByteArray):mkS (toL b)=b:=by
 cases b with
 |mk d=>
  simp only[mkS,toL,List.map_map];have:(kA ∘ ff)=id:=by funext x;simp
  rw[this,List.map_id]
theorem Zt5(a b:ByteArray):toL (a++b)=toL a++toL b:=by
 simp only[toL,ByteArray.data_append,Array.toList_append,List.map_append]
theorem Zpa(s:ByteArray) (a b:Nat):toL (s.extract a b)=((toL s).take b).drop a:=by
 simp only[toL,ByteArray.data_extract,Array.toList_extract,List.extract_eq_take_drop,List.map_take,List.map_drop];rw[List.drop_take]
theorem Z88(s:ByteArray) (n:Nat) (y:Nat) (h:(toL s)[n]? =ah y):∃x,s[n]? =ah x/\x.toNat=y:=by
 simp only[toL,cw] at h;obtain⟨x,j,I⟩:=ck.1 h;refine⟨x,?_,I⟩;have t:n<s.data.toList.length:=(ar.1 j).1;have J:n<s.size:=by rw[gy] at t;exact t
 rw[getElem?_pos s n J];rw[aq t] at j;rw[<-aU j];rfl
theorem Zjs(a b:ByteArray):(toL a==toL b)=(a==b):=by
 have t:(a==b)=(a.data==b.data):=rfl;rw[t];by_cases h:a=b
 ·subst h;simp
 ·have j:toL a≠toL b:=λe=>h (Zo9 e)
  have I:a.data≠b.data:=λe=>h (ByteArray.ext e);rw[fV.2 j,fV.2 I]
theorem Z3s(a b:ByteArray):Zlz (toL a) (toL b)=dX a.toList b.toList:=by
 have key:∀l l':List UInt8,Zlz (l.map ff) (l'.map ff)=dX l l':=by
  intro l
  induction l with
  |nil=>intro l';cases l'<;>rfl
  |cons x r ih=>
   intro l';cases l' with
   |nil=>rfl
   |cons y I=>
    simp only[ei,Zlz,dX];rw[ih I];have j:aZ x.toNat y.toNat=decide (x<y):=by
     simp only[dO];rw[aZ];by_cases h:x.toNat<y.toNat
     ·rw[iZ h,bx];exact h
     ·rw[decide_eq_false h,<-bv,bx];exact h
    have t:bf x.toNat y.toNat=(x==y):=by
     by_cases h:x=y
     ·subst h;simp
     ·rw[fV.2 h,<-bv,eV]
      exactλe=>h (im.1 e)
    rw[j,t];cases decide (x<y)<;>cases(x==y)<;>rfl
 have ht:∀a:ByteArray,a.toList=a.data.toList:=fR;rw[ht,ht,toL,toL,key]
def KeyIs(q:Option IntKind) (k:Value):Prop:=match q with|some kd=>∃b,k= .int kd b|none=>∃s,k= .string s
inductive Den(E:Eng Y) (σ:Pl) (g:GH):SV Y->Value->Prop
 |unk (v):Den E σ g .unk v
 |val (v):Den E σ g (.val v) v
 |int (l k n):Den E σ g (.int l k n) (.int k n)
 |bool (l b):Den E σ g (.bool l b) (.bool b)
 |str (l:Bool) {s:List Nat} {b:ByteArray} (h:toL b=s):Den E σ g (.str l s) (.string b)
 |ptr {b off r z:Nat} (h:σ b=ah (r,z)):Den E σ g (.ptr b off) (.pointer (ah ⟨r,off,aD⟩))
 |eptr {b i w off r z:Nat} (h:σ b=ah (r,z)):Den E σ g (.eptr b i w off) (.pointer (ah ⟨r,i*w+off,aD⟩))
 |pptr {th:Y.Th} {x:Y.dom th} {off r o:Nat} (c:Nat->Value) (hc:∀j,j<(E.enc th x).length->g.cell r (o+j)=ah (c j))
  (hd:∀j sv,(E.enc th x)[j]? =ah sv->Den E σ g sv (c j)):Den E σ g (.pptr th x off) (.pointer (ah ⟨r,o+off,aD⟩))
 |sl {b off len w c r z:Nat} {cap:Option Nat} (h:σ b=ah (r,z)) (hz:(off+c)*w<=z) (hl:len<=c) (hm:c<=maxLen) (hc:∀m,cap=ah m->c=m):
  Den E σ g (.sl b off len w cap) (.slice (ah ⟨r,off*w,aD⟩) len c)
 |psl {th:Y.Th} {l:List (Y.dom th)} {full:Bool} {base:Option Addr} {c:Nat} (cv:Nat->Nat->Value) (hl:l.length<=c) (hm:c<=maxLen) (hf:full=af->c=l.length) (hn:base=aD->c=0)
  (hb:0<l.length->∃r o,base=ah ⟨r,o,aD⟩/\∀i x,l[i]? =ah x->∀j,j<(E.enc th x).length->g.cell r (o+i*E.w th+j)=ah (cv i j))
  (hd:∀i x,l[i]? =ah x->∀j sv,(E.enc th x)[j]? =ah sv->Den E σ g sv (cv i j)):Den E σ g (.psl th l full) (.slice base l.length c)
 |agg {cs:List (SV Y)} {arr:Array Value} (c:Nat->Value) (hs:arr.size=cs.length) (hc:∀j,j<cs.length->arr[j]? =ah (c j)) (hd:∀j sv,cs[j]? =ah sv->Den E σ g sv (c j)):Den E σ g (.agg cs) (.agg arr)
 |tup {cs:List (SV Y)} {arr:Array Value} (c:Nat->Value) (hs:arr.size=cs.length) (hc:∀j,j<cs.length->arr[j]? =ah (c j)) (hd:∀j sv,cs[j]? =ah sv->Den E σ g sv (c j)):Den E σ g (.tup cs) (.tuple arr)
 |fn {f:Fn} {a b:List (SV Y)} {va vb:Array Value} (ca cb:Nat->Value) (hsa:va.size=a.length) (hca:∀j,j<a.length->va[j]? =ah (ca j)) (hda:∀j sv,a[j]? =ah sv->Den E σ g sv (ca j))
  (hsb:vb.size=b.length) (hcb:∀j,j<b.length->vb[j]? =ah (cb j)) (hdb:∀j sv,b[j]? =ah sv->Den E σ g sv (cb j)):Den E σ g (.fn f a b) (.func f va vb)
 |map {b r z:Nat} (h:σ b=ah (r,z)):Den E σ g (.map b) (.map (ah r))
 |pmap {es:List (Value×SV Y)} {r:Nat} {ents:Array MapEntry} (c:Nat->Value) (q:Option IntKind) (hg:g.obj r=ah ents) (hq:∀(j:Nat) (k:Value) (sv:SV Y),es[j]? =ah (k,sv)->KeyIs q k)
  (hn:∀(j j':Nat) (k:Value) (sv sv':SV Y),es[j]? =ah (k,sv)->es[j']? =ah (k,sv')->j=j') (h1:∀e∈ents.toList,∃(j:Nat) (sv:SV Y),es[j]? =ah (e.key,sv)/\e.val=c j) (h2:∀(j:Nat) (k:Value) (sv:SV Y),es[j]? =ah (k,sv)->∃e∈ents.toList,e.key=k)
  (hd:∀(j:Nat) (k:Value) (sv:SV Y),es[j]? =ah (k,sv)->Den E σ g sv (c j)):Den E σ g (.pmap es) (.map (ah r))
 |iface {t:TypeId} {sv:SV Y} {v:Value} (h:Den E σ g sv v):Den E σ g (.iface t sv) (.iface t v)
theorem Den.mono{E:Eng Y} {σ σ':Pl} {g g':GH} (I:Pl.le σ σ') (J:g.le g') {sv:SV Y} {v:Value} (h:Den E σ g sv v):Den E σ' g' sv v:=by
 induction h with
 |unk v=>exact .unk v
 |val v=>exact .val v
 |int l k n=>exact .int l k n
 |bool l b=>exact .bool l b
 |str l h=>exact .str l h
 |ptr h=>exact .ptr (I _ _ h)
 |eptr h=>exact .eptr (I _ _ h)
 |pptr c t _ ih=>exact .pptr c (λj R=>J.c _ _ _ (t j R)) ih
 |sl h hz U a0 t=>exact .sl (I _ _ h) hz U a0 t
 |psl cv U a0 hf hn hb _ ih=>exact .psl cv U a0 hf hn (λhp=>let⟨r,o,e,h⟩:=hb hp;⟨r,o,e,λi x hx j R=>J.c _ _ _ (h i x hx j R)⟩) ih
 |agg c hs t _ ih=>exact .agg c hs t ih
 |tup c hs t _ ih=>exact .tup c hs t ih
 |fn ca cb a3 a1 _ a4 a2 _ a5 a6=>exact .fn ca cb a3 a1 a5 a4 a2 a6
 |map h=>exact .map (I _ _ h)
 |pmap c q ho hq hn h1 h2 _ ih=>exact .pmap c q (J.m _ _ ho) hq hn h1 h2 ih
 |iface _ ih=>exact .iface ih
def Blk.cells(E:Eng Y):Blk Y->List (SV Y)
 | .raw cs _ _=>cs
 | .rows th l _=>l.flatMap (E.enc th)
 | .map _=> []
def Blk.fzc(E:Eng Y):Blk Y->Nat
 | .raw _ j _=>j
 | .rows th _ j=>j*E.w th
 | .map _=>0
def DenL(E:Eng Y) (σ:Pl) (g:GH) (cs:List (SV Y)) (vs:List Value):Prop:=cs.length=vs.length/\∀(j:Nat) sv v,cs[j]? =ah sv->vs[j]? =ah v->Den E σ g sv v
def ElOk(E:Eng Y) (e:TypeId):Blk Y->Prop
 | .raw _ _ (ah th)=>e=E.el th
 | .rows th _ _=>e=E.el th
 |_=>True
def BlkOk(E:Eng Y) (σ:Pl) (g:GH) (w:World) (r z:Nat):Blk Y->Prop
 | .map t=>∃ents c,w.heap[r]? =ah (.map ents c)/\ents.size=t.length/\∀(j:Nat) k sv,t[j]? =ah (k,sv)->∃v I,ents[j]? =ah (MapEntry.mk k v I)/\Den E σ g sv v
 |b=>∃arr e,w.heap[r]? =ah (.cells arr e (0,0))/\arr.size=z/\(b.cells E).length<=z/\(∀(j:Nat) sv,(b.cells E)[j]? =ah sv->∃v,arr[j]? =ah v/\Den E σ g sv v)/\ElOk E e b
structure Inv(E:Eng Y) (B:Nat) (σ:Pl) (h:Hp Y) (g:GH) (w:World):Prop where
 gc:∀r o v,g.cell r o=ah v->w.cell? ⟨r,o,aD⟩=ah v
 gm:∀r es,g.obj r=ah es->∃c,w.heap[r]? =ah (.map es c)
 blk:∀b x,h b=ah x->∃r z,σ b=ah (r,z)/\BlkOk E σ g w r z x
 inj:∀b b' r z z',h b≠aD->h b'≠aD->σ b=ah (r,z)->σ b'=ah (r,z')->b=b'
 base:∀b r z,σ b=ah (r,z)->B<=r/\r<w.heap.size
 fz:∀b x r z o v,h b=ah x->σ b=ah (r,z)->g.cell r o=ah v->o<x.fzc E
 fm:∀b x r z,h b=ah x->σ b=ah (r,z)->g.obj r=aD
 glob:∀n sv,E.glob n=ah sv->∀(j:Nat) s,sv.cells[j]? =ah s->∃v,g.cell n j=ah v/\Den E (λ_=>aD) g s v
structure Stp(i n:Nat) (mods:List Nat) (σ:Pl) (g:GH) (w:World) (σ':Pl) (g':GH) (w':World):Prop where
 sig:Pl.le σ σ'
 snew:∀b p,σ' b=ah p->σ b=ah p\/(i<=b/\b<i+n)
 gle:g.le g'
 gcnew:∀r o v,g'.cell r o=ah v->g.cell r o=ah v\/w.heap.size<=r\/∃b∈mods,∃z,σ b=ah (r,z)
 gmnew:∀r es,g'.obj r=ah es->g.obj r=ah es\/w.heap.size<=r
 heap:∀r,r<w.heap.size->(∀b∈mods,∀z,σ b≠ah (r,z))->w'.heap[r]? =w.heap[r]?
 size:w.heap.size<=w'.heap.size
 os:w'.os=w.os
 tape:w'.tape=w.tape
 output:w'.output=w.output
 blk:∀b r z,σ b=aD->σ' b=ah (r,z)->w.heap.size<=r\/∃b'∈mods,∃z',σ b'=ah (r,z')
theorem Stp.refl(i:Nat) (σ:Pl) (g:GH) (w:World):Stp i 0 [] σ g w σ g w:=
 ⟨.refl _,λ_ _ h=> .inl h,.refl _,λ_ _ _ h=> .inl h,λ_ _ h=> .inl h,λ_ _ _=>rfl,aE _,rfl,rfl,rfl,λ_ _ _ h k=>by rw[h] at k;cases k⟩
noncomputable def Zzp:ExtK->Array Value->Sem Value
 | .add64=>add64Entry
 | .indexByteS=>Extern.BytealgIndexByte.indexByte
 | .same=>Extern.AbiNoEscape.same
def ExtGood(P:Program) (f:FuncId) (x:ExtK):Prop:=∃fn,P.funcs[f]? =ah fn/\(fn.name== "runtime.NumGoroutine")=ae/\fn.body.isNone=af/\Extern.findNext fn=aD/\Extern.find fn=ah (Zzp x)
structure EngOk(E:Eng Y):Prop where
 ty:∀t i,E.ty t=ah i->E.P.underlying t=ah i.d/\∃info,E.P.info? t=ah info/\info.size=i.size/\info.bytes=i.bytes/\info.zero=ah i.zero
 enc:∀th x,(E.enc th x).length=E.w th
 pos:∀th,0<E.w th
 dec:∀th cs x,E.dec th cs=ah x->cs.length=E.w th/\∀σ g (j:Nat) sv sv' v,cs[j]? =ah sv->(E.enc th x)[j]? =ah sv'->Den E σ g sv v->Den E σ g sv' v
 leaf:∀th x,leaves (E.enc th x)=af
 thOf:∀el th i,E.thOf el=ah th->E.ty el=ah i->i.size=E.w th
 encI:∀i th x,nidL i (E.enc th x)=af
 mix:E.P.follows .mixedOrders=af
 arr:∀t th,E.arrOf t=ah th->E.el th=t
 eqs:∀t,memB t E.eqs=af->E.P.stoodInHeld t=ae/\E.P.eqGuardType E.P.depth t=ae
 ext:∀f x,E.ext f=ah x->ExtGood E.P f x:=by intro f x h;cases h
theorem Uf{E:Eng Y} {σ:Pl} {g:GH} {sv:SV Y} {v:Value} (j:leaf sv=af) (h:Den E σ g sv v):v.oneCell'=true:=by
 cases h<;>first|rfl|(simp[leaf] at j;done)|(cases v<;>first|rfl|(simp[leaf,Ybg] at j;done))
theorem Zar(E:Eng Y) (σ:Pl) (g:GH) (v:Value):Den E σ g (Zfu v) v:=by
 cases v<;>first|exact .int _ _ _|exact .bool _ _|exact .str _ rfl|exact .val _
theorem Xm(E:Eng Y) (σ:Pl) (g:GH) (v:Value):Den E σ g (Yw v) v:=by
 cases v with
 |agg cs=>
  refine .agg (λj=>cs.toList.getD j undef) (by simp) (λj t=> ?_) (λj sv h=> ?_)
  ·have I:j<cs.size:=by simpa using t
   simp[aI,I]
  ·rw[cw] at h
   obtain⟨u,J,rfl⟩:=ck.1 h;rw[aI,J];exact Zar E σ g u
 |_=>simp only[Yw];exact Zar E σ g _
end
end
section
open Go.RowKit
def OpPost(P:Program) (o:Oper) (ρ:Operand->Value) (w:World) (F:Value->World->Prop):Prop:=
 match(execOp ρ o).run P w with
 | .ok (.value v) j=>F v j
 | .ok .skip j=>F undef j
 | .ok (.enter f args) j=>Calls P f args j λen t=>∃v,en= .returned v/\F v t
 |_=>False
theorem OpPost.mono{P:Program} {o:Oper} {ρ:Operand->Value} {w:World} {F F':Value->World->Prop} (h:OpPost P o ρ w F) (k:∀u j,F u j->F' u j):OpPost P o ρ w F':=by
 unfold OpPost at h⊢;split at h
 ·exact k _ _ h
 ·exact k _ _ h
 ·exact h.mono λen J ⟨v,I,t⟩=>⟨v,I,k _ _ t⟩
 ·exact h.elim
theorem OpPost.wp{P:Program} {o:Oper} {a:Act} {w:World} {F:Value->World->Prop} {K:Act->World->Prop} {Q:Exit->Act->World->Prop} (h:OpPost P o a.eval w F) (k:∀u t,F u t->K (a.put o.dst u) t):o.wp P a w K Q:=by
 unfold OpPost at h;unfold Oper.wp;split at h
 ·rename_i v t j;rw[j];exact k _ _ h
 ·rename_i t j;rw[j];exact k _ _ h
 ·rename_i f args t j
  rw[j];rw[Oper.upon_enter];refine h.mono ?_;rintro en J ⟨v,rfl,I⟩;exact k _ _ I
 ·exact h.elim
theorem Y5{P:Program} {o:Oper} {ρ:Operand->Value} {w j:World} {u:Value} {F:Value->World->Prop} (h:(execOp ρ o).run P w= .ok (.value u) j) (t:F u j):OpPost P o ρ w F:=by
 unfold OpPost;rw[h];exact t
theorem Un{P:Program} {o:Oper} {ρ:Operand->Value} {w j:World} {F:Value->World->Prop} (h:(execOp ρ o).run P w= .ok .skip j) (t:F undef j):OpPost P o ρ w F:=by
 unfold OpPost;rw[h];exact t
theorem Zrq{P:Program} {o:Oper} {ρ:Operand->Value} {w j:World} {f:FuncId} {args:Array Value} {F:Value->World->Prop} (h:(execOp ρ o).run P w= .ok (.enter f args) j) (t:Calls P f args j λen I=>∃v,en= .returned v/\F v I):OpPost P o ρ w F:=by
 unfold OpPost;rw[h];exact t
section
variable {Y:Thy} {E:Eng Y}
def Rd(r:Res Y) (b:Nat):Prop:=match r.rd with|none=>True|some l=>b∈l
def ROk(h:Hp Y) (r:Res Y):Prop:=∀b∈r.mods,h b≠aD
def OpTri(E:Eng Y) (o:Oper) (T:Fr Y) (h:Hp Y) (i:Nat) (r:Res Y):Prop:=
 ROk h r/\∀(B:Nat) (σ:Pl) (g:GH) (w:World) (ρ:Operand->Value) (t:Hp Y),(∀b,Rd r b->t b=h b)->Inv E B σ t g w->B<=w.heap.size->(∀b,i<=b->b<i+r.n->σ b=aD)->
  (∀x∈o.op.operands.toList,Den E σ g (ev T x) (ρ x))->OpPost E.P o ρ w λu I=>∃σ' j,Stp i r.n r.mods σ g w σ' j I/\Inv E B σ' (patch t i r) j I/\Den E σ' j r.v u
def PanPost(P:Program) (o:Oper) (p:Value) (ρ:Operand->Value) (w:World) (F:World->Prop):Prop:=
 match(execOp ρ o).run P w with
 | .ok (.enter f args) j=>Calls P f args j λen t=>en= .panicked [{v:=p,recovered:=false}]/\F t
 | .halt (.panic v) j=>v=p/\F j
 |_=>False
theorem PanPost.wp{P:Program} {o:Oper} {p:Value} {a:Act} {w:World} {F:World->Prop} {K:Act->World->Prop} {Q:Exit->Act->World->Prop} (h:PanPost P o p a.eval w F) (k:∀j,F j->Q (.panic [{v:=p,recovered:=false}]) a j):o.wp P a w K Q:=by
 unfold PanPost at h;unfold Oper.wp;split at h
 ·rename_i f args j I
  rw[I,Oper.upon_enter];refine h.mono ?_;rintro en J ⟨rfl,t⟩;exact k _ t
 ·rename_i v j I
  obtain⟨rfl,t⟩:=h;rw[I];exact k _ t
 ·exact h.elim
def Z9l(E:Eng Y) (o:Oper) (T:Fr Y) (h:Hp Y) (i:Nat) (r:Res Y):Prop:=
 ROk h r/\∃p,r.v= .pan p/\∀(B:Nat) (σ:Pl) (g:GH) (w:World) (ρ:Operand->Value),Inv E B σ h g w->B<=w.heap.size->(∀b,i<=b->b<i+r.n->σ b=aD)->
  (∀x∈o.op.operands.toList,Den E σ g (ev T x) (ρ x))->PanPost E.P o p ρ w λt=>∃σ' j,Stp i r.n r.mods σ g w σ' j t/\Inv E B σ' (patch h i r) j t
def OpTri2(E:Eng Y) (o:Oper) (T:Fr Y) (h:Hp Y) (i:Nat) (r:Res Y):Prop:=OpTri E o T h i r\/Z9l E o T h i r
theorem OpTri2.tri{o:Oper} {T:Fr Y} {h:Hp Y} {i:Nat} {r:Res Y} (ht:OpTri2 E o T h i r) (j:Zc9 r.v=aD):OpTri E o T h i r:=by
 rcases ht with ht|⟨_,p,t,_⟩
 ·exact ht
 ·rw[t] at j;cases j
theorem Z0k{v:SV Y} {p:Value} (h:Zc9 v=ah p):v= .pan p:=by
 unfold Zc9 at h;split at h
 ·cases h;rfl
 ·cases h
theorem OpTri2.pan{o:Oper} {T:Fr Y} {h:Hp Y} {i:Nat} {r:Res Y} {p:Value} (ht:OpTri2 E o T h i r) (hp:Zc9 r.v=ah p):
 ROk h r/\∀(B:Nat) (σ:Pl) (g:GH) (w:World) (a:Act) (K:Act->World->Prop) (Q:Exit->Act->World->Prop),Inv E B σ h g w->B<=w.heap.size->(∀b,i<=b->b<i+r.n->σ b=aD)->
 (∀x∈o.op.operands.toList,Den E σ g (ev T x) (a.eval x))->(∀j,(∃σ' t,Stp i r.n r.mods σ g w σ' t j/\Inv E B σ' (patch h i r) t j)->Q (.panic [{v:=p,recovered:=false}]) a j)->o.wp E.P a w K Q:=by
 have hv:=Z0k hp
 rcases ht with⟨I,J⟩|⟨I,p',a1,J⟩
 ·refine⟨I,λB σ g w a K Q U R a0 hx _=> ?_⟩
  refine(J B σ g w a.eval h (λ_ _=>rfl) U R a0 hx).wp ?_
  rintro u j ⟨σ',t,_,_,hd⟩
  rw[hv] at hd
  cases hd
 ·rw[hv] at a1
  cases a1
  exact⟨I,λB σ g w a K Q U R a0 hx hQ=>(J B σ g w a.eval U R a0 hx).wp hQ⟩
theorem Yp(h:Hp Y) (i:Nat) (rd:List Nat) (v:SV Y):patch h i (quiet rd v)=h:=by
 funext b;simp only[patch,quiet,memB,iR,dP];have:(cn i b&&aZ b i)=false:=by
  rw[aX];by_cases j:i<=b
  ·right;simp only[aZ];rw[<-bv,bx];omega
  ·left;rw[<-bv,bx];exact j
 rw[this]
theorem Zr{o:Oper} {T:Fr Y} {h:Hp Y} {i:Nat} {rd:List Nat} {v:SV Y}
 (H:∀(B:Nat) (σ:Pl) (g:GH) (w:World) (ρ:Operand->Value) (j:Hp Y),(∀b∈rd,j b=h b)->Inv E B σ j g w->(∀x∈o.op.operands.toList,Den E σ g (ev T x) (ρ x))->
  ∃u,(execOp ρ o).run E.P w= .ok (.value u) w/\Den E σ g v u):OpTri E o T h i (quiet rd v):=by
 refine⟨λb I=>by simp[quiet] at I,?_⟩
 intro B σ g w ρ j R t _ _ hx
 obtain⟨u,U,J⟩:=H B σ g w ρ j R t hx
 refine Y5 U ⟨σ,g,.refl _ _ _ _,?_,J⟩
 rw[Yp];exact t
theorem Zv{l:Bool} {p:Prop} [Decidable p] {K:Prop} (h:need l p K):p/\K:=by
 cases l with
 |true=>simp only[need] at h;split at h<;>first|exact⟨iK ‹_›,h⟩|exact h.elim
 |false=>exact h
theorem Yk{l b:Bool} {K:Bool->Prop} (h:split l b K):K b:=by
 cases l with
 |true=>exact h
 |false=>cases b with
  |true=>exact h.1 rfl
  |false=>exact h.2 rfl
theorem Zjz{j l b:Bool} {K:Bool->Prop} (h:Zfw j l b K):split l b K:=by
 unfold Zfw at h;split at h
 ·rename_i e
  simp only[az,bh] at e;rw[e.2];exact h b rfl
 ·exact h
theorem Zek{t l b:Bool} {K K':Bool->Prop} (j:∀v,K v->K' v) (h:Zfw t l b K):Zfw t l b K':=by
 unfold Zfw at*;split at h
 ·exactλv e=>⟨λq=>j _ ((h v e).1 q),λq=>j _ ((h v e).2 q)⟩
 ·unfold split at*
  split at h
  ·exact j _ h
  ·exact⟨λq=>j _ (h.1 q),λq=>j _ (h.2 q)⟩
theorem Zel{b:Bool} {k:Bool->Prop}:Zfv b k↔k b:=by cases b<;>exact fS
theorem Zem{c:Option Nat} {k:Option Nat->Prop}:Zra c k↔k c:=by cases c<;>exact fS
theorem Xl{n:Nat} {k:Nat->Prop}:Xy n k↔k n:=by cases n<;>exact fS
theorem Zuv{n:Int} {k:Int->Prop}:Zhg n k↔k n:=by cases n<;>simp[Zhg,Xl]
theorem Xe:∀{l:List Nat} {k:List Nat->Prop},Ue l k↔k l
 | [],k=>fS
 |x::r,k=>by simp only[Ue,Xl,Xe (l:=r)]
theorem Za7{l:Bool} {kd:IntKind} {n:Int} {k:SV Y->Prop}:(match l with|true=>Zhg n λn=>k (.int af kd n)|false=>k (.int ae kd n))↔k (.int l kd n):=by cases l<;>simp[Zuv]
theorem Zuw{α:Type} {lit:Bool} {l:List α} {j:Nat} {k:α->Prop} (h:getK lit l j k):j<l.length/\∃x,l[j]? =ah x/\k x:=by
 unfold getK at h;split at h
 ·split at h
  ·rename_i x I;exact⟨(ar.1 I).1,x,I,h⟩
  ·exact h.elim
 ·obtain⟨t,J⟩:=h
  exact⟨t,_,aq t,J _ (aq t)⟩
theorem Zpi{α:Type} {lit:Bool} {l:List α} {n:Int} {k:α->Prop} (h:ixK lit l n k):0<=n/\n<l.length/\∃x,l[n.toNat]? =ah x/\k x:=by
 unfold ixK at h;split at h
 ·split at h
  ·rename_i x t I
   have j:=iK t;have:=(ar.1 I).1;exact⟨j,by omega,x,I,h⟩
  ·exact h.elim
 ·obtain⟨j,t,J⟩:=h
  have:n.toNat<l.length:=by omega
  exact⟨j,t,_,aq this,J _ (aq this)⟩
theorem U8{n:Int} {k:Nat->Prop}:∀{c j:Nat},Zjg n k c j->(j:Int)<=n->n<j+c->k n.toNat
 |0,j,_,t,I=>by omega
 |c+1,j,h,t,I=>by
  obtain⟨J,R⟩:=h
  by_cases e:n=j
  ·have:=J (by simpa using e)
   rw[e];simpa using this
  ·exact U8 (R (by simpa using e)) (by omega) (by omega)
theorem Xn{a b:Nat} {K:Prop} (h:Vj a b K):a=b/\K:=by
 unfold Vj at h;split at h
 ·exact⟨aG ‹_›,h⟩
 ·exact h.elim
theorem Zen{l:Bool} {s:List Nat} {k:SV Y->Prop}:Zrb l s k↔k (.str l s):=by
 cases l with
 |true=>exact Xe
 |false=>exact fS
theorem Zj0{v:SV Y} {k:SV Y->Prop}:Zlw v k↔k v:=by
 cases v
 case int l kd n=>exact Za7
 all_goals simp only[Zlw,Zen,Zel,Xl,Zem]
theorem Zcu{l:List (SV Y)} {k:List (SV Y)->Prop}:Vi l k↔k l:=by
 induction l generalizing k with
 |nil=>exact fS
 |cons x r ih=>
  show Zlw x (λx=>Vi r λr=>k (x::r))↔_;rw[Zj0,ih]
theorem Zj1{v:SV Y} {k:SV Y->Prop}:Zlx v k↔k v:=by
 cases v
 case int l kd n=>exact Za7
 all_goals simp only[Zlx,Zen,Zj0,Zcu,Zel,Xl,Zem]
theorem Wx{l:List (SV Y)} {k:List (SV Y)->Prop}:Zck l k↔k l:=by
 induction l generalizing k with
 |nil=>exact fS
 |cons x r ih=>
  show Zlx x (λx=>Zck r λr=>k (x::r))↔_;rw[Zj1,ih]
theorem Zbw{v:SV Y} {k:SV Y->Prop}:force v k↔k v:=by
 cases v
 case int l kd n=>exact Za7
 all_goals simp only[force,Zen,Zj1,Wx,Zcu,Zel,Xl,Zem]
theorem Zmm{b:Option (Blk Y)} {k:Option (Blk Y)->Prop}:Zje b k↔k b:=by
 rcases b with _|⟨cs,j,I⟩|⟨th,l,j⟩|t<;>simp[Zje,Zcu]
variable {o:Oper} {T:Fr Y} {h:Hp Y} {i:Nat} {k:Res Y->Prop} {call:Nat->List (SV Y)->Hp Y->Nat->(Res Y->Prop)->Prop}
theorem Zgo{x:Operand} (j:o.op= .move x\/o.op= .assign x) (t:k (quiet [] (ev T x))):∃r,k r/\OpTri E o T h i r:=by
 refine⟨_,t,Zr λB σ g w ρ R _ J I=>⟨ρ x,?_,I x (by rcases j with j|j<;>simp[j,ba])⟩⟩
 unfold execOp;rcases j with j|j<;>simp[j,go_sem]
theorem Zrr{c a b:Operand} (I:o.op= .pick c a b) (j:step E call o.op T h i k):∃r,k r/\OpTri E o T h i r:=by
 rw[I] at j;simp only[step,Zcm,Vk,Zfz,Zl2,Zcn,Zl4,Zjk,Zjl,stMm,Zl5,Zdo,Zjm,U2,U3,Wd,Zdp,U4] at j;split at j
 ·rename_i l x U
  have j:=Yk j;cases x with
  |true=>
   refine⟨_,j,Zr λB σ g w ρ hh _ hI J=>⟨ρ a,?_,J a (by simp[I,ba])⟩⟩;have t:=J c (by simp[I,ba]);rw[U] at t;generalize R:ρ c=v at t;cases t;unfold execOp;simp[I,R,asBool,go_sem]
  |false=>
   refine⟨_,j,Zr λB σ g w ρ hh _ hI J=>⟨ρ b,?_,J b (by simp[I,ba])⟩⟩;have t:=J c (by simp[I,ba]);rw[U] at t;generalize R:ρ c=v at t;cases t;unfold execOp;simp[I,R,asBool,go_sem]
 ·exact j.elim
end
end
section
open Go.RowKit
section
variable {Y:Thy} {E:Eng Y} {o:Oper} {T:Fr Y} {h:Hp Y} {i:Nat} {k:Res Y->Prop}
theorem Z8{x y:Operand} {v:SV Y} (I:x∈o.op.operands.toList) (J:y∈o.op.operands.toList)
 (H:∀(σ:Pl) (g:GH) (w:World) (ρ:Operand->Value),Den E σ g (ev T x) (ρ x)->Den E σ g (ev T y) (ρ y)->∃u,(execOp ρ o).run E.P w= .ok (.value u) w/\Den E σ g v u) (t:k (quiet [] v)):∃r,k r/\OpTri E o T h i r:=
 ⟨_,t,Zr λB σ g w ρ U _ R j=>H σ g w ρ (j x I) (j y J)⟩
theorem X0{x:Operand} {v:SV Y} (I:x∈o.op.operands.toList)
 (H:∀(σ:Pl) (g:GH) (w:World) (ρ:Operand->Value),Den E σ g (ev T x) (ρ x)->∃u,(execOp ρ o).run E.P w= .ok (.value u) w/\Den E σ g v u) (t:k (quiet [] v)):∃r,k r/\OpTri E o T h i r:=
 ⟨_,t,Zr λB σ g w ρ R _ J j=>H σ g w ρ (j x I)⟩
theorem Zgd{P:Program} {t:TypeId} (j:P.underlying t=ah .bool) (a b:Bool) (w:World):(Op.equal t (.bool a) (.bool b)).run P w= .ok (a==b) w:=by
 show(iy (9999+1) t (.bool a) (.bool b)).run P w=_;rw[iy];rw[aL,run_underlying j];rfl
set_option maxHeartbeats 1000000 in
theorem Z5g(hE:EngOk E) {op:BinOp} {t t':TypeId} {x y:Operand} (ho:o.op= .binOp op t x y t') (hk:sbin E op t (ev T x) (ev T y) k):∃r,k r/\OpTri E o T h i r:=by
 have mx:x∈o.op.operands.toList:=by simp[ho,ba]
 have my:y∈o.op.operands.toList:=by simp[ho,ba]
 unfold sbin at hk;split at hk
 ·rename_i l kd a m kd' b hX hY
  unfold Zzc at hk;split at hk
  ·obtain⟨hp,hk⟩:=Zv hk
   refine Z8 mx my (λσ g w ρ h1 h2=> ?_) hk;rw[hX] at h1;rw[hY] at h2;generalize hv1:ρ x=v1 at h1;generalize hv2:ρ y=v2 at h2;cases h1;cases h2;have hp':¬b<0:=by omega
   exact⟨.int kd (wr kd (a*2^min b.toNat kd.bits)),by unfold execOp;simp[ho,hv1,hv2,eqGuard,binOp,Op.shift,hp',wr,go_sem],.int _ _ _⟩
  ·obtain⟨hp,hk⟩:=Zv hk
   refine Z8 mx my (λσ g w ρ h1 h2=> ?_) hk;rw[hX] at h1;rw[hY] at h2;generalize hv1:ρ x=v1 at h1;generalize hv2:ρ y=v2 at h2;cases h1;cases h2;have hp':¬b<0:=by omega
   exact⟨.int kd (a.fdiv (2^min b.toNat kd.bits)),by unfold execOp;simp[ho,hv1,hv2,eqGuard,binOp,Op.shift,hp',wr,go_sem],.int _ _ _⟩
  ·split at hk
   ·exact hk.elim
   ·rename_i hkd
    obtain rfl:kd=kd':=by simpa using hkd
    unfold Zzb at hk;split at hk
    case h_4|h_5=>
     obtain⟨hp,hk⟩:=Zv hk;refine Z8 mx my (λσ g w ρ h1 h2=> ?_) hk;rw[hX] at h1;rw[hY] at h2;generalize hv1:ρ x=v1 at h1;generalize hv2:ρ y=v2 at h2;cases h1;cases h2;refine⟨_,?_,.int _ _ _⟩;unfold execOp;simp[ho,hv1,hv2,eqGuard,binOp,Op.intDiv,hp,wr,go_sem]
    case h_1|h_2|h_3=>
     refine Z8 mx my (λσ g w ρ h1 h2=> ?_) hk;rw[hX] at h1;rw[hY] at h2;generalize hv1:ρ x=v1 at h1;generalize hv2:ρ y=v2 at h2;cases h1;cases h2;refine⟨_,?_,.int _ _ _⟩;unfold execOp;simp[ho,hv1,hv2,eqGuard,binOp,kS,wr,go_sem]
    case h_12=>
     refine Z8 mx my (λσ g w ρ h1 h2=> ?_) hk;rw[hX] at h1;rw[hY] at h2;generalize hv1:ρ x=v1 at h1;generalize hv2:ρ y=v2 at h2;cases h1;cases h2;refine⟨_,?_,.int _ _ _⟩
     cases op<;>first|(rename_i hn1 hn2 hn3 hn4 hn5 hn6 hn7 hn8 hn9 j I J R;first|exact(hn1 rfl).elim|exact(hn2 rfl).elim|exact(hn3 rfl).elim|exact(hn4 rfl).elim|exact(hn5 rfl).elim|exact(hn6 rfl).elim|exact(hn7 rfl).elim|exact(hn8 rfl).elim|exact(hn9 rfl).elim|exact(j rfl).elim|exact(I rfl).elim|exact(J rfl).elim|exact(R rfl).elim)|(unfold execOp;simp only[ho,hv1,hv2];simp only[eqGuard,binOp,kY,Zo,wr,ne_eq,il,jQ,ite_false];rfl)
    all_goals
     have hk:=Yk hk;refine Z8 mx my (λσ g w ρ h1 h2=> ?_) hk;rw[hX] at h1;rw[hY] at h2;generalize hv1:ρ x=v1 at h1;generalize hv2:ρ y=v2 at h2;cases h1;cases h2;refine⟨_,?_,.bool _ _⟩;unfold execOp;simp[ho,hv1,hv2,eqGuard,binOp,Op.intCmp,wr,go_sem]
 ·rename_i l a m b hX hY
  unfold Zzd at hk;split at hk
  ·rename_i sz by_ z ht
   have hu:=(hE.ty _ _ ht).1;split at hk
   case h_3=>exact hk.elim
   all_goals
    have hk:=Yk hk;refine Z8 mx my (λσ g w ρ h1 h2=> ?_) hk;rw[hX] at h1;rw[hY] at h2;generalize hv1:ρ x=v1 at h1;generalize hv2:ρ y=v2 at h2;cases h1;cases h2;refine⟨_,?_,.bool _ _⟩;unfold execOp;simp only[ho,hv1,hv2];rw[aL,aL];rw[show(eqGuard _ t x y (.bool a) (.bool b)).run E.P w= .ok () w by simp[eqGuard,go_sem]];simp only[aH,binOp,aL,Zgd hu,aR]
  ·exact hk.elim
 ·rename_i l a m b hX hY
  unfold Zze at hk;split at hk
  ·obtain⟨hp,hk⟩:=Zv hk
   refine Z8 mx my (λσ g w ρ h1 h2=> ?_) hk;rw[hX] at h1;rw[hY] at h2;generalize hv1:ρ x=v1 at h1;generalize hv2:ρ y=v2 at h2;cases h1;cases h2;rename_i a' ha' b' hb';subst ha' hb';refine⟨.string (a'++b'),?_,.str _ (Zt5 _ _)⟩;have hp':¬((a'.size+b'.size:Nat):Int)>IntKind.i64.max:=by
    have:IntKind.i64.max=9223372036854775807:=by decide
    rw[Zda,Zda] at hp;rw[this];omega
   unfold execOp;simp only[ho,hv1,hv2,eqGuard,binOp,kT];rw[jb hp'];simp[go_sem]
  case h_8=>exact hk.elim
  all_goals
   have hk:=Yk hk;refine Z8 mx my (λσ g w ρ h1 h2=> ?_) hk;rw[hX] at h1;rw[hY] at h2;generalize hv1:ρ x=v1 at h1;generalize hv2:ρ y=v2 at h2;cases h1;cases h2;rename_i a' ha' b' hb';subst ha' hb';refine⟨_,?_,.bool _ _⟩;have eqq:(a'.toList==b'.toList)=(toL a'==toL b'):=by
    rw[fR,fR];by_cases e:a'=b'
    ·subst e;rw[ib,ib]
    ·have h1:toL a'≠toL b':=λq=>e (Zo9 q)
     have h3:a'.data.toList≠b'.data.toList:=λq=>e (ByteArray.ext (Array.toList_inj.1 q));rw[fV.2 h1,fV.2 h3]
   have tot:∀u v:List UInt8,(dX u v||u==v)= !(dX v u):=by
    intro u
    induction u with
    |nil=>intro v;cases v<;>rfl
    |cons p r ih=>
     intro v;cases v with
     |nil=>rfl
     |cons q r'=>
      simp only[dX,List.cons_beq_cons];rcases fG p.toNat q.toNat with hl|he|hl
      ·have h1:p<q:=dO.2 hl
       have h2:¬q<p:=λc=>by have:=dO.1 c;omega
       have h3:(q==p)=false:=by rw[fV];rintro rfl;omega
       simp[h1,h2,h3]
      ·obtain rfl:=im.1 he
       have h1:¬p<p:=λc=>by have:=dO.1 c;omega
       have:=ih r';simp only[h1,decide_false,BEq.rfl,cm,iR];exact this
      ·have h1:q<p:=dO.2 hl
       have h2:¬p<q:=λc=>by have:=dO.1 c;omega
       have h3:(p==q)=false:=by rw[fV];rintro rfl;omega
       simp[h1,h2,h3]
   have t2:(dX a'.toList b'.toList||toL a'==toL b')= !(dX b'.toList a'.toList):=by rw[<-eqq];exact tot _ _
   have t3:(!(dX a'.toList b'.toList)&& !(toL a'==toL b'))=dX b'.toList a'.toList:=by rw[<-Bool.not_or,t2,Bool.not_not]
   unfold execOp;simp[ho,hv1,hv2,eqGuard,binOp,kT,go_sem,Z3s,eqq,t2,t3]
 ·exact hk.elim
theorem Z9k{op:UnOp} {t:TypeId} {x:Operand} (J:o.op= .unOp op t x) (j:sun op (ev T x) k):∃r,k r/\OpTri E o T h i r:=by
 have mx:x∈o.op.operands.toList:=by simp[J,ba]
 unfold sun at j;split at j
 case h_4=>exact j.elim
 all_goals
  rename_i R;refine X0 mx (λσ g w ρ I=> ?_) j;rw[R] at I;generalize U:ρ x=v1 at I;cases I;refine⟨_,?_,by first|exact .int _ _ _|exact .bool _ _⟩;unfold execOp;simp[J,U,Op.unary,kS,kY,Zo,wr,go_sem]
theorem Zml(U:EngOk E) {R I:TypeId} {x:Operand} (hs:(E.P.underlying R).isSome=af) (J:o.op= .convert R I x) (j:Zao E I (ev T x) k):∃r,k r/\OpTri E o T h i r:=by
 have mx:x∈o.op.operands.toList:=by simp[J,ba]
 obtain⟨d,hd⟩:=Option.isSome_iff_exists.1 hs;unfold Zao at j;split at j
 case h_3=>exact j.elim
 all_goals
  rename_i ht hX;have hu:=(U.ty _ _ ht).1;refine X0 mx (λσ g w ρ t=> ?_) j;rw[hX] at t;generalize a0:ρ x=v1 at t;cases t;refine⟨_,?_,by first|exact .int _ _ _|exact .str _ ‹_›⟩;unfold execOp;simp[J,a0,convert,run_underlying hu,run_underlying hd,Conv.intToInt,wr,go_sem]
end
end
section
open Go.RowKit
section
variable {Y:Thy} {E:Eng Y} {o:Oper} {T:Fr Y} {h:Hp Y} {i:Nat} {k:Res Y->Prop}
theorem Zyd(J:EngOk E) {t:TypeId} {i:TyI} (ht:E.ty t=ah i):(E.P.info? t).map (·.size)=ah i.size:=by
 obtain⟨_,info,j,I,_⟩:=J.ty _ _ ht;simp[j,I]
theorem Z0(J:EngOk E) {t:TypeId} {i:TyI} (ht:E.ty t=ah i) (w:World):(sizeOf t).run E.P w= .ok i.size w:=by
 obtain⟨_,info,j,I,_⟩:=J.ty _ _ ht;simp[sizeOf,typeInfo,j,I,go_sem]
theorem Zy(j:EngOk E) {t:TypeId} {i:TyI} (ht:E.ty t=ah i) (w:World):(underlying t).run E.P w= .ok i.d w:=run_underlying (j.ty _ _ ht).1 w
theorem Uw(j:EngOk E) {t:TypeId} {i:TyI} (ht:E.ty t=ah i) (w:World):(isAgg t).run E.P w= .ok (Zu i.d) w:=by
 unfold isAgg;rw[aL,Zy j ht];cases I:i.d<;>simp[Zu,go_sem]
theorem Yy(b o n:Nat):(⟨b,o,aD⟩:Addr).add n=⟨b,o+n,aD⟩:=by unfold Addr.add;split<;>simp_all
theorem Ziu(I:EngOk E) {s:TypeId} {x:Operand} {f:Nat} (J:o.op= .fieldAddr s x f) (j:Wv E s (ev T x) f k):∃r,k r/\OpTri E o T h i r:=by
 have mx:x∈o.op.operands.toList:=by simp[J,ba]
 unfold Wv at j;split at j
 ·rename_i fs sz a4 z hs
  split at j
  ·rename_i fd U
   split at j
   ·rename_i ti a2
    split at j
    ·exact j.elim
    ·rename_i a0
     have a1:¬ti.size=0:=λe=>a0 e;have run:∀(w:World) (ρ:Operand->Value) (r n:Nat),ρ x= .pointer (ah ⟨r,n,aD⟩)->(execOp ρ o).run E.P w= .ok (.value (.pointer (ah ⟨r,n+fd.offset,aD⟩))) w:=by
      intro w ρ r n hv;unfold execOp;simp only[J,hv,Instr.fieldAt,aL,Zy I hs,aH,U,eL,aR,fieldPlace,Z0 I a2,a1,jQ,Yy]
     split at j
     case h_4=>exact j.elim
     all_goals
      rename_i R;refine X0 mx (λσ g w ρ t=> ?_) j;rw[R] at t;generalize a3:ρ x=v1 at t;cases t;refine⟨_,run w ρ _ _ a3,?_⟩
     ·exact .ptr (by assumption)
     ·rw[dE];exact .eptr (by assumption)
     ·rw[dE];exact .pptr _ (by assumption) (by assumption)
   ·exact j.elim
  ·exact j.elim
 ·exact j.elim
theorem Wh{σ:Pl} {g:GH} {isRow:Bool} {n off:Nat} {cs:List (SV Y)} {v:SV Y} (I:Vt isRow n off cs=ah v) (u:Nat->Value) (R:∀j sv,cs[j]? =ah sv->Den E σ g sv (u j)):
 match isRow with|true=>off+n<=cs.length/\Den E σ g v (.agg ((cy n).map λj=>u (off+j)).toArray)|false=>off<cs.length/\Den E σ g v (u off):=by
 cases isRow with
 |true=>
  simp only[Vt] at I
  split at I
  ·rename_i J
   have J:=iK J
   obtain rfl:=aU I
   refine⟨J,.agg (λj=>u (off+j)) ?_ ?_ ?_⟩
   ·simp;omega
   ·intro j t
    have U:j<n:=by simp at t;omega
    simp[U]
   ·intro j sv t
    rw[bU] at t
    split at t
    ·rw[cL] at t;exact R _ _ t
    ·cases t
  ·cases I
 |false=>
  simp only[Vt] at I
  exact⟨(ar.1 I).1,R _ _ I⟩
theorem Ux(I:EngOk E) {t:TypeId} {j:TyI} (ht:E.ty t=ah j) (R:Zu j.d=ae) (w:World) (r n:Nat) (v:Value) (J:w.cell? ⟨r,n,aD⟩=ah v):(loadVar t ⟨r,n,aD⟩).run E.P w= .ok v w:=by
 unfold loadVar;rw[aL,Uw I ht,R];simp[go_sem,load,gJ,J]
theorem Y8(U:EngOk E) {t:TypeId} {I:TyI} (ht:E.ty t=ah I) (w:World) (r n:Nat) (u:Nat->Value) (R:∀j,j<(match Zu I.d with|true=>I.size|false=>1)->w.cell? ⟨r,n+j,aD⟩=ah (u (n+j))):
 (loadVar t ⟨r,n,aD⟩).run E.P w= .ok (match Zu I.d with|true=> .agg ((cy I.size).map λj=>u (n+j)).toArray|false=>u n) w:=by
 cases J:Zu I.d with
 |true=>
  rw[J] at R
  refine run_loadVar_mid w r n t _ I.d (λj v hj=> ?_) (U.ty _ _ ht).1 (by cases hq:I.d<;>rw[hq] at J<;>first|rfl|cases J) (by simpa using Zyd U ht)
  rw[cw] at hj
  obtain⟨j',a2,rfl⟩:=ck.1 hj
  obtain⟨a3,rfl⟩:j<I.size/\j=j':=by
   have:=ar.1 a2
   obtain⟨a0,a1⟩:=this
   simp at a0 a1
   exact⟨a0,a1⟩
  exact R j a3
 |false=>
  rw[J] at R
  exact Ux U ht J w r n _ (by simpa using R 0 (by simp))
theorem Wb{σ:Pl} {g:GH} {w:World} {r z:Nat} {b:Blk Y} (hm:∀t,b≠ .map t) (I:BlkOk E σ g w r z b):∃u:Nat->Value,(∀j,j<(b.cells E).length->w.cell? ⟨r,j,aD⟩=ah (u j))/\∀j sv,(b.cells E)[j]? =ah sv->Den E σ g sv (u j):=by
 have a1:∃arr e,w.heap[r]? =ah (.cells arr e (0,0))/\arr.size=z/\(b.cells E).length<=z/\(∀(j:Nat) sv,(b.cells E)[j]? =ah sv->∃v,arr[j]? =ah v/\Den E σ g sv v)/\ElOk E e b:=by
  cases b with
  |map t=>exact jv rfl (hm t)
  |raw cs R tg=>exact I
  |rows th l R=>exact I
 obtain⟨arr,e,U,h2,h3,a0,_⟩:=a1;refine⟨λj=>arr.getD j undef,λj J=> ?_,λj sv J=> ?_⟩
 ·have:j<arr.size:=by omega
  simp[World.cell?,U,ed,this]
 ·obtain⟨v,hv,hd⟩:=a0 j sv J
  have:arr.getD j undef=v:=by rw[aY,hv];rfl
  show Den E σ g sv (arr.getD j undef);rw[this];exact hd
theorem Y3(t:EngOk E) (th:Y.Th) (l:List (Y.dom th)) (i:Nat) (x:Y.dom th) (I:l[i]? =ah x) (j:Nat) (J:j<E.w th):(l.flatMap (E.enc th))[i*E.w th+j]? =(E.enc th x)[j]? :=by
 induction l generalizing i with
 |nil=>simp at I
 |cons y l ih=>
  rw[ic];cases i with
  |zero=>
   obtain rfl:y=x:=by simpa using I
   rw[Nat.zero_mul,bX,cf (by rw[t.enc];exact J)]
  |succ i=>
   rw[ct (by rw[t.enc,cK];omega),t.enc,<-ih i (by simpa using I)]
   congr 1
   rw[cK];omega
theorem Z3(j:EngOk E) (th:Y.Th) (l:List (Y.dom th)):(l.flatMap (E.enc th)).length=l.length*E.w th:=by
 induction l with
 |nil=>simp
 |cons y l ih=>rw[ic,aO,ih,j.enc,aT,cK];omega
theorem Zqy(a1:EngOk E) {t:TypeId} {x:Operand} (ho:o.op= .load t x) (I:Zo0 E t (ev T x) h k):∃r,k r/\OpTri E o T h i r:=by
 have mx:x∈o.op.operands.toList:=by simp[ho,ba]
 have run:∀(w:World) (ρ:Operand->Value) (a:Addr) (v:Value),ρ x= .pointer (ah a)->(loadVar t a).run E.P w= .ok v w->(execOp ρ o).run E.P w= .ok (.value v) w:=by
  intro w ρ a v hv hl;unfold execOp;simp only[ho,hv,Instr.loadAt,aL,eL,aR,aH,hl]
 unfold Zo0 at I;split at I
 ·exact I.elim
 ·rename_i ti ht
  split at I
  ·rename_i b off hX
   split at I
   ·rename_i cs fz tg hb
    split at I
    ·rename_i v hr
     refine⟨_,I,Zr λB σ g w ρ hh a3 hI hx=> ?_⟩;have R:=hx x mx;rw[hX] at R;generalize a2:ρ x=v1 at R;cases R;rename_i r z a8;obtain⟨r',z',a4,a7⟩:=hI.blk b _ ((a3 b (by simp)).trans hb);rw[a8] at a4;cases a4;obtain⟨u,a5,a6⟩:=Wb (by intro es e;cases e) a7;have:=Wh hr u a6;refine⟨_,run w ρ _ _ a2 (Y8 a1 ht w r off u ?_),?_⟩
     ·intro j U
      refine a5 _ ?_;cases J:Zu ti.d with
      |true=>rw[J] at this U;have:=this.1;show _<cs.length;simp at U;omega
      |false=>rw[J] at this U;have:=this.1;show _<cs.length;simp at U;omega
     ·cases J:Zu ti.d with
      |true=>rw[J] at this;exact this.2
      |false=>rw[J] at this;exact this.2
    ·exact I.elim
   ·exact I.elim
  ·rename_i b j w' off hX
   split at I
   ·rename_i th l fz hb
    obtain⟨b4,b3⟩:=Xn I;clear I;subst b4;obtain⟨U,y,hy,I⟩:=Zuw b3;split at I
    ·rename_i v hr
     refine⟨_,I,Zr λB σ g w ρ hh a3 hI hx=> ?_⟩;have R:=hx x mx;rw[hX] at R;generalize a2:ρ x=v1 at R;cases R;rename_i r z a8;obtain⟨r',z',a4,a7⟩:=hI.blk b _ ((a3 b (by simp)).trans hb);rw[a8] at a4;cases a4;obtain⟨u,a5,a6⟩:=Wb (by intro es e;cases e) a7;simp only[Blk.cells] at a5 a6;have:=Wh hr (λm=>u (j*E.w th+m)) (λm sv hm=>a6 _ _ (by rw[Y3 a1 th l j y hy m (by rw[<-a1.enc th y];exact(ar.1 hm).1)];exact hm));have b5:j*E.w th+E.w th<=l.length*E.w th:=by
      have:=bH (E.w th) (show j+1<=l.length from U)
      rwa[cK,iz] at this
     have he:=a1.enc th y;refine⟨_,run w ρ _ _ a2 (Y8 a1 ht w r (j*E.w th+off) u ?_),?_⟩
     ·intro m hm
      refine a5 _ ?_;rw[Z3 a1];cases J:Zu ti.d with
      |true=>rw[J] at this hm;have:=this.1;simp at hm;omega
      |false=>rw[J] at this hm;have:=this.1;simp at hm;omega
     ·cases J:Zu ti.d with
      |true=>rw[J] at this;simpa only[dE] using this.2
      |false=>rw[J] at this;exact this.2
    ·exact I.elim
   ·exact I.elim
  ·rename_i th y off hX
   split at I
   ·rename_i v hr
    refine⟨_,I,Zr λB σ g w ρ hh a3 hI hx=> ?_⟩;have R:=hx x mx;rw[hX] at R;generalize a2:ρ x=v1 at R;cases R;rename_i r a0 c hc a9;have:=Wh hr c a9;have:=Wh hr (λm=>c m) a9;refine⟨_,run w ρ _ _ a2 (Y8 a1 ht w r (a0+off) (λm=>c (m-a0)) ?_),?_⟩
    ·intro j U
     rw[show a0+off+j-a0=off+j by omega,show a0+off+j=a0+(off+j) by omega];refine hI.gc _ _ _ (hc _ ?_);cases J:Zu ti.d with
     |true=>rw[J] at this U;have:=this.1;simp at U;omega
     |false=>rw[J] at this U;have:=this.1;simp at U;omega
    ·cases J:Zu ti.d with
     |true=>rw[J] at this;simp only[show∀j,a0+off+j-a0=off+j fromλj=>by omega];exact this.2
     |false=>rw[J] at this;simp only[show a0+off-a0=off by omega];exact this.2
   ·exact I.elim
  ·rename_i gl off hX
   split at I
   ·rename_i v hg J
    split at I
    ·rename_i s hs
     refine⟨_,I,Zr λB σ g w ρ hh a3 hI hx=> ?_⟩;have R:=hx x mx;rw[hX] at R;generalize a2:ρ x=v1 at R;cases R;obtain⟨u,hu,b0⟩:=hI.glob _ _ hg _ _ hs;exact⟨u,run w ρ _ _ a2 (Ux a1 ht J w gl off u (hI.gc _ _ _ hu)),b0.mono (λ_ _ e=>by cases e) (.refl _)⟩
    ·exact I.elim
   ·exact I.elim
  ·exact I.elim
end
end
section
open Go.RowKit
section
variable {Y:Thy} {E:Eng Y} {o:Oper} {T:Fr Y} {h:Hp Y} {i:Nat} {k:Res Y->Prop}
theorem Yo{σ:Pl} {g:GH} {cs:List (SV Y)} {v:Value} (h:Den E σ g (.agg cs) v):∃(arr:Array Value) (c:Nat->Value),v= .agg arr/\arr.size=cs.length/\(∀j,j<cs.length->arr[j]? =ah (c j))/\∀j sv,cs[j]? =ah sv->Den E σ g sv (c j):=by
 cases h with
 |agg c J t I=>exact⟨_,c,rfl,J,t,I⟩
theorem Zmj{σ:Pl} {g:GH} {cs:List (SV Y)} {v:Value} (h:Den E σ g (.tup cs) v):∃(arr:Array Value) (c:Nat->Value),v= .tuple arr/\arr.size=cs.length/\(∀j,j<cs.length->arr[j]? =ah (c j))/\∀j sv,cs[j]? =ah sv->Den E σ g sv (c j):=by
 cases h with
 |tup c J t I=>exact⟨_,c,rfl,J,t,I⟩
theorem Yi{a b:Nat} (h:aZ a b=af):a<b:=gA h
theorem Vy(R:EngOk E) {t:TypeId} {I:TyI} (ht:E.ty t=ah I) {σ:Pl} {g:GH} {cs:List (SV Y)} {arr:Array Value} (J:Den E σ g (.agg cs) (.agg arr)) {off:Nat} {v:SV Y} (hr:Vt (Zu I.d) I.size off cs=ah v) (w:World):
 ∃u,(part t arr off).run E.P w= .ok u w/\Den E σ g v u:=by
 obtain⟨arr',c,e,hs,U,J⟩:=Yo J
 cases e
 have:=Wh hr c J
 unfold part
 rw[aL,Uw R ht]
 cases a1:Zu I.d with
 |true=>
  rw[a1] at this
  refine⟨_,by simp only[aH,jP,aL,Z0 R ht,aR];rfl,?_⟩
  have he:arr.extract off (off+I.size)=((cy I.size).map λj=>c (off+j)).toArray:=by
   apply Array.ext_getElem?
   intro j
   rw[Array.getElem?_extract]
   by_cases a0:j<I.size
   ·rw[jh (by omega),U _ (by omega)];simp[a0]
   ·rw[jb (by omega)];simp[a0]
  rw[he];exact this.2
 |false=>
  rw[a1] at this
  refine⟨c off,?_,this.2⟩
  simp[U off this.1,go_sem]
theorem Zuk(I:EngOk E) {s:TypeId} {x:Operand} {f:Nat} (J:o.op= .field s x f) (j:Zhh E s (ev T x) f k):∃r,k r/\OpTri E o T h i r:=by
 have mx:x∈o.op.operands.toList:=by simp[J,ba]
 unfold Zhh at j;split at j
 ·rename_i fs sz a3 z cs hs R
  split at j
  ·rename_i fd a0
   split at j
   ·rename_i ti a1
    split at j
    ·rename_i v hr
     refine X0 mx (λσ g w ρ t=> ?_) j;rw[R] at t;generalize a2:ρ x=v1 at t;obtain⟨arr,_,rfl,_⟩:=Yo t;obtain⟨u,hu,U⟩:=Vy I a1 t hr w;refine⟨u,?_,U⟩;unfold execOp;simp only[J,a2,Instr.field,aL,Zy I hs,aH,a0,asAgg,aR,hu]
    ·exact j.elim
   ·exact j.elim
  ·exact j.elim
 ·exact j.elim
theorem Zrm{kd : IntKind} : ∀ {cs : List (SV Y)} {t : List Int}, Zly kd cs = ah t → t.length = cs.length ∧ ∀ (j : Nat) y, t[j]? = ah y → ∃ l, cs[j]? = ah (.int l kd y) := by
  intro cs
  induction cs with
  | nil => intro t h; simp[Zly] at h; subst h; simp
  | cons x r ih =>
    intro t h;cases x <;> simp only[Zly] at h <;> try(cases h; done)
    rename_i l k n;split at h
    ·rename_i l' U a0
     obtain rfl := iK U;obtain rfl := aU h;obtain⟨J, R⟩ := ih a0;refine⟨by simp[J], λj y I => ?_⟩;cases j with
     | zero => obtain rfl : n = y := by simpa using I
               exact⟨l, rfl⟩
     | succ j => exact R j y (by simpa using I)
    ·cases h
theorem Zjy(R:EngOk E) {t:TypeId} {x a0:Operand} (ho:o.op= .index t x a0) (j:Zfx E t (ev T x) (ev T a0) k):∃r,k r/\OpTri E o T h i r:=by
 have mx:x∈o.op.operands.toList:=by simp[ho,ba]
 have my:a0∈o.op.operands.toList:=by simp[ho,ba]
 unfold Zfx at j;split at j
 ·rename_i len el sz a8 z cs l kd n ht hX a3
  split at j
  ·rename_i ti U
   split at j
   ·rename_i v hb hr
    simp only[az,fw] at hb;have a7:n.toNat<len:=Yi hb.2;refine Z8 mx my (λσ g w ρ I J=> ?_) j;rw[hX] at I;rw[a3] at J;generalize a1:ρ x=v1 at I;generalize a2:ρ a0=v2 at J;obtain⟨arr,_,rfl,_⟩:=Yo I;cases J;obtain⟨u,hu,hd⟩:=Vy R U I hr w;refine⟨u,?_,hd⟩;unfold execOp;have h0:0<=n/\n<(len:Int):=by omega
    simp only[ho,a1,a2,jc,aL,asIntOf,aR,aH,Zy R ht];rw[jh h0];simp only[aL,Z0 R U,aH,hu,aR]
   ·exact j.elim
  ·rename_i b6 b7 by' z' U
   split at j
   ·rename_i ls b4 a4
    simp only[az] at a4;obtain rfl:b7=1:=aG a4.2;have a4:cs.length=len:=aG a4.1;obtain⟨h0,a7,j⟩:=j;obtain⟨c1,b3⟩:=Zrm b4;obtain⟨y,hy⟩:∃y,ls[n.toNat]? =ah y:=⟨_,aq (by omega)⟩;obtain⟨l',b0⟩:=b3 _ _ hy;refine Z8 mx my (λσ g w ρ I J=> ?_) (j y hy);rw[hX] at I;rw[a3] at J;generalize a1:ρ x=v1 at I;generalize a2:ρ a0=v2 at J;cases J;obtain⟨arr,c,rfl,hs,hc,hd⟩:=Yo I;have a6:=hd _ _ b0;have a5:=hc n.toNat (by omega);generalize c n.toNat=cv at a6 a5;cases a6;refine⟨.int b6 y,?_,.int _ _ _⟩
    have a9:0<=n/\n<(len:Int):=⟨h0,a7⟩;obtain⟨hu,info,b9,c0,_⟩:=R.ty _ _ U;unfold execOp;simp only[ho,a1,a2,jc,aL,asIntOf,aR,aH,Zy R ht];rw[jh a9];simp only[aL,Z0 R U,aH,part,Uw R U,Zu,Nat.mul_one,a5];rfl
   ·exact j.elim
  ·exact j.elim
 ·rename_i sz a8 z l s m kd n ht hX a3
  obtain⟨h0,b8,y,hy,j⟩:=Zpi j;refine Z8 mx my (λσ g w ρ I J=> ?_) j;rw[hX] at I;rw[a3] at J;generalize a1:ρ x=v1 at I;generalize a2:ρ a0=v2 at J;cases I;cases J;rename_i b hb;subst hb;obtain⟨q,hq,b5⟩:=Z88 _ _ _ hy;subst b5;refine⟨.int .u8 q.toNat,?_,.int _ _ _⟩;unfold execOp;simp only[ho,a1,a2,jc,aL,asIntOf,aR,aH,Zy R ht,jh h0,hq]
 ·exact j.elim
end
end
section
open Go.RowKit
section
variable {Y:Thy} {E:Eng Y} {o:Oper} {T:Fr Y} {h:Hp Y} {i:Nat} {k:Res Y->Prop} {call:Nat->List (SV Y)->Hp Y->Nat->(Res Y->Prop)->Prop}
theorem Zrl{x:Operand} {n:Nat} (I:o.op= .extract x n) (j:step E call o.op T h i k):∃r,k r/\OpTri E o T h i r:=by
 have mx:x∈o.op.operands.toList:=by simp[I,ba]
 have a1:=mx;rw[I] at j;simp only[step,Zcm,Vk,Zfz,Zl2,Zcn,Zl4,Zjk,Zjl,stMm,Zl5,Zdo,Zjm,U2,U3,Wd,Zdp,U4] at j;split at j
 ·rename_i vs R
  split at j
  ·rename_i v J
   refine X0 mx (λσ g w ρ t=> ?_) j;rw[R] at t;generalize a0:ρ x=v1 at t;obtain⟨arr,c,rfl,hs,U,hd⟩:=Zmj t;refine⟨c n,?_,hd _ _ J⟩;have:=U n (ar.1 J).1;unfold execOp;simp[I,a0,Instr.extract,this,go_sem]
  ·exact j.elim
 ·exact j.elim
theorem Zmh{x:Operand} (I:o.op= .nilCheck x) (t:step E call o.op T h i k):∃r,k r/\OpTri E o T h i r:=by
 have mx:x∈o.op.operands.toList:=by simp[I,ba]
 rw[I] at t;simp only[step,Zcm,Vk,Zfz,Zl2,Zcn,Zl4,Zjk,Zjl,stMm,Zl5,Zdo,Zjm,U2,U3,Wd,Zdp,U4] at t;split at t
 ·rename_i b n J
  refine X0 mx (λσ g w ρ j=> ?_) t;rw[J] at j;refine⟨ρ x,?_,j⟩;generalize R:ρ x=v1 at j;cases j;unfold execOp;simp[I,R,go_sem]
 ·rename_i f a b J
  refine X0 mx (λσ g w ρ j=> ?_) t;rw[J] at j;refine⟨ρ x,?_,j⟩;generalize R:ρ x=v1 at j;cases j;unfold execOp;simp[I,R,go_sem]
 ·exact t.elim
theorem Zeh{σ:Pl} {g:GH} {T:Fr Y} {ρ:Operand->Value} {xs:Array Operand} (U:∀x∈xs.toList,Den E σ g (ev T x) (ρ x)):
 (xs.map ρ).size=(xs.toList.map (ev T)).length/\(∀j,j<(xs.toList.map (ev T)).length->(xs.map ρ)[j]? =ah (ρ (xs.getD j default)))/\∀(j:Nat) sv,(xs.toList.map (ev T))[j]? =ah sv->Den E σ g sv (ρ (xs.getD j default)):=by
 refine⟨by simp,λj t=> ?_,λj sv t=> ?_⟩
 ·have I:j<xs.size:=by simpa using t
  simp[I,ed]
 ·rw[cw] at t
  obtain⟨x,J,rfl⟩:=ck.1 t
  have I:j<xs.size:=by have:=(ar.1 J).1;simpa using this
  have:xs.getD j default=x:=by
   have R:=(ar.1 J).2
   simp[ed,I];simpa using R
  rw[this]
  exact U x (cp J)
theorem Zmi{fn:Fn} {a b:Array Operand} (t:o.op= .makeFunc fn a b) (I:step E call o.op T h i k):∃r,k r/\OpTri E o T h i r:=by
 rw[t] at I;simp only[step,Zcm,Vk,Zfz,Zl2,Zcn,Zl4,Zjk,Zjl,stMm,Zl5,Zdo,Zjm,U2,U3,Wd,Zdp,U4] at I;refine⟨_,I,Zr λB σ g w ρ hh _ hI J=>⟨.func fn (a.map ρ) (b.map ρ),?_,?_⟩⟩
 ·unfold execOp;simp[t,Instr.makeFunc,go_sem]
 ·obtain⟨R,U,h3⟩:=Zeh (E:=E) (σ:=σ) (g:=g) (T:=T) (ρ:=ρ) (xs:=a) (λx j=>J x (by simp[t,ba] at j⊢;exact .inl j))
  obtain⟨k1,k2,k3⟩:=Zeh (E:=E) (σ:=σ) (g:=g) (T:=T) (ρ:=ρ) (xs:=b) (λx j=>J x (by simp[t,ba] at j⊢;exact .inr j));exact .fn _ _ R U h3 k1 k2 k3
theorem Z48(U:EngOk E) {c:Call} (hc:c.callee= .builtin .len) (ho:o.op= .call c) {t:TypeId} {x:Operand} (ht:c.argTypes[0]? =ah t) (a2:c.args[0]? =ah x) (hk:slen E t (ev T x) h k):∃r,k r/\OpTri E o T h i r:=by
 have mx:x∈o.op.operands.toList:=by
  have:x∈c.args:=Array.mem_of_getElem? a2;simp[ho,ba,Call.operands,this]
 have run:∀(w:World) (ρ:Operand->Value) (u:Value),(fj c.argTypes o.type (c.args.map ρ)).run E.P w= .ok u w->(execOp ρ o).run E.P w= .ok (.value u) w:=by
  intro w ρ u hl;unfold execOp;simp only[ho,resolve,hc,aL,aR,aH,invoke,builtin,hl]
 have a0:∀ρ:Operand->Value,(c.args.map ρ)[0]? =ah (ρ x):=λρ=>by simp[a2]
 unfold slen at hk;split at hk
 case h_6=>exact hk.elim
 all_goals
  refine X0 mx (λσ g w ρ j=> ?_) hk
 ·rename_i el sz a1 z th l f I J
  rw[J] at j;generalize R:ρ x=v1 at j;cases j;refine⟨_,run w ρ _ ?_,.int _ _ _⟩;simp[fj,ht,a0,R,Zy U I,goInt,go_sem]
 ·rename_i el sz a1 z b off n wd cap I J
  rw[J] at j;generalize R:ρ x=v1 at j;cases j;refine⟨_,run w ρ _ ?_,.int _ _ _⟩;simp[fj,ht,a0,R,Zy U I,goInt,go_sem]
 ·rename_i el sz a1 z n cap I J
  rw[J] at j;generalize R:ρ x=v1 at j;cases j;refine⟨_,run w ρ _ ?_,.int _ _ _⟩;simp[fj,ht,a0,R,Zy U I,goInt,go_sem]
 ·rename_i sz a1 z l s I J
  rw[J] at j;generalize R:ρ x=v1 at j;cases j;rename_i b hb;subst hb;rw[Zda];refine⟨_,run w ρ _ ?_,.int _ _ _⟩;simp[fj,ht,a0,R,Zy U I,goInt,go_sem]
 ·rename_i n el sz a1 z I
  refine⟨_,run w ρ _ ?_,.int _ _ _⟩;simp[fj,ht,a0,Zy U I,goInt,go_sem]
theorem Z49(mx:Bool) {σ:Pl} {g:GH} (w:World):∀(J:List (SV Y)) (x:SV Y) (v:Value) (vs:List Value) (sv:SV Y),Den E σ g x v->DenL E σ g J vs->smm mx x J=ah sv->
 ∃u,(match mx with|true=>vs.foldlM jU v|false=>vs.foldlM jV v:Sem Value).run E.P w= .ok u w/\Den E σ g sv u:=by
 intro J
 induction J with
 |nil=>
  intro x v vs sv U I t
  have:vs= []:=by have:=I.1;cases vs<;>first|rfl|simp at this
  subst this
  obtain rfl:x=sv:=by cases x<;>simpa[smm] using t
  refine⟨v,?_,U⟩
  cases mx<;>simp[go_sem]
 |cons y J ih=>
  intro x v vs sv U I t
  cases vs with
  |nil=>have:=I.1;simp at this
  |cons u vs=>
   have hy:Den E σ g y u:=I.2 0 y u rfl rfl
   have a2:DenL E σ g J vs:=⟨by have:=I.1;simpa using this,λj sv v a0 R=>I.2 (j+1) sv v (by simpa using a0) (by simpa using R)⟩
   cases x<;>cases y<;>simp only[smm] at t<;>try(cases t;done)
   rename_i l kd a m a3 b
   split at t
   ·rename_i a1
    obtain rfl:=iK a1
    cases U;cases hy
    obtain⟨u,R,h3⟩:=ih _ (.int kd (mm2 mx a b)) vs sv (.int _ _ _) a2 t
    refine⟨u,?_,h3⟩
    cases mx<;>simpa[jU,jV,mm2,go_sem] using R
   ·cases t
theorem Zgm(mx:Bool) {c:Call} (hc:c.callee= .builtin (if mx then .max else .min)) (U:o.op= .call c) {x:Operand} {r:List Operand} (a1:c.args.toList=x::r) (J:Zc8 mx (ev T x) (r.map (ev T)) k):∃r,k r/\OpTri E o T h i r:=by
 unfold Zc8 at J;split at J
 ·rename_i sv hs
  refine⟨_,J,Zr λB σ g w ρ hh _ hI hx=> ?_⟩
  have hm:∀y∈x::r,Den E σ g (ev T y) (ρ y):=λy R=>hx y (by
   have:y∈c.args.toList:=a1▸R
   simp[U,ba,Call.operands];exact .inr (by simpa using this))
  obtain⟨u,t,I⟩:=Z49 (E:=E) mx w (r.map (ev T)) (ev T x) (ρ x) (r.map ρ) sv (hm x (by simp)) ⟨by simp,λj sv v t I=>by
   rw[cw] at t I;obtain⟨y,R,rfl⟩:=ck.1 t;rw[R] at I;obtain rfl:ρ y=v:=by simpa using I
   exact hm y (by simp[cp R])⟩ hs
  refine⟨u,?_,I⟩;have a0:(c.args.map ρ).toList=ρ x::r.map ρ:=by simp[a1]
  unfold execOp;cases mx with
  |true=>simp only[U,resolve,hc,jP,aL,aR,aH,invoke,builtin,Builtin.max_,a0];rw[t];rfl
  |false=>simp only[U,resolve,hc,jQ,Bool.false_eq_true,aL,aR,aH,invoke,builtin,Builtin.min_,a0];rw[t];rfl
 ·exact J.elim
theorem Vx{σ:Pl} {g:GH} {th:Y.Th} {l:List (Y.dom th)} {full:Bool} {v:Value} (h:Den E σ g (.psl th l full) v):∃(base:Option Addr) (c:Nat) (t:Nat->Nat->Value),v= .slice base l.length c/\l.length<=c/\c<=maxLen/\(full=af->c=l.length)/\(base=aD->c=0)/\
 (0<l.length->∃r o,base=ah ⟨r,o,aD⟩/\∀i x,l[i]? =ah x->∀j,j<(E.enc th x).length->g.cell r (o+i*E.w th+j)=ah (t i j))/\∀i x,l[i]? =ah x->∀j sv,(E.enc th x)[j]? =ah sv->Den E σ g sv (t i j):=by
 cases h with
 |psl t U a0 R hn I J=>exact⟨_,_,t,rfl,U,a0,R,hn,I,J⟩
theorem Z0b{l:Bool} {n:Int} {len:Nat} {k:Nat->Prop} (h:Ztx l n len k):(0<=n/\n<len)/\k n.toNat:=by
 unfold Ztx at h;split at h
 ·exact Zv h
 ·exact⟨⟨h.1,h.2.1⟩,U8 h.2.2 (by omega) (by omega)⟩
theorem Xs(hE:EngOk E) {t:TypeId} {x ix:Operand} (ho:o.op= .indexAddr t x ix) (I:Xg E t (ev T x) (ev T ix) h k):∃r,k r/\OpTri E o T h i r:=by
 have mx:x∈o.op.operands.toList:=by simp[ho,ba]
 have my:ix∈o.op.operands.toList:=by simp[ho,ba]
 unfold Xg at I;split at I
 ·rename_i len el sz a7 z l kd n ht a3
  have run:∀(w:World) (ρ:Operand->Value) (a1:TyI) (a:Addr),E.ty el=ah a1->0<=n/\n<(len:Int)->ρ x= .pointer (ah a)->ρ ix= .int kd n->(execOp ρ o).run E.P w= .ok (.value (.pointer (ah (a.add (n.toNat*a1.size))))) w:=by
   intro w ρ a1 a a2 h0 U a0;unfold execOp;simp only[ho,U,a0,iN,aL,asIntOf,aR,aH,Zy hE ht,eL,jh h0,Z0 hE a2]
  split at I
  ·rename_i a1 b off a2 hX
   split at I
   ·rename_i hb
    simp only[az,fw] at hb;have a6:n.toNat<len:=Yi hb.2;have h0:0<=n/\n<(len:Int):=by omega
    refine Z8 mx my (λσ g w ρ J R=> ?_) I;rw[hX] at J;rw[a3] at R;generalize U:ρ x=v1 at J;generalize a0:ρ ix=v2 at R;cases R;cases J;refine⟨_,run w ρ a1 _ a2 h0 U a0,?_⟩;rw[Yy];exact .ptr (by assumption)
   ·exact I.elim
  ·rename_i a1 th y off a2 hX
   split at I
   ·rename_i hb
    simp only[az,fw] at hb;have a6:n.toNat<len:=Yi hb.2;have h0:0<=n/\n<(len:Int):=by omega
    refine Z8 mx my (λσ g w ρ J R=> ?_) I;rw[hX] at J;rw[a3] at R;generalize U:ρ x=v1 at J;generalize a0:ρ ix=v2 at R;cases R;cases J;refine⟨_,run w ρ a1 _ a2 h0 U a0,?_⟩;rw[Yy,dE];exact .pptr _ (by assumption) (by assumption)
   ·exact I.elim
  ·rename_i a1 gl off a2 hX
   split at I
   ·rename_i hb
    simp only[az,fw] at hb;have a6:n.toNat<len:=Yi hb.2;have h0:0<=n/\n<(len:Int):=by omega
    refine Z8 mx my (λσ g w ρ J R=> ?_) I;rw[hX] at J;rw[a3] at R;generalize U:ρ x=v1 at J;generalize a0:ρ ix=v2 at R;cases R;cases J;refine⟨_,run w ρ a1 _ a2 h0 U a0,?_⟩;rw[Yy];exact .val _
   ·exact I.elim
  ·rename_i a1 gl off a2 hX
   obtain⟨a5,a4,I⟩:=I;have I:=U8 I (by omega) (by omega);refine Z8 mx my (λσ g w ρ J R=> ?_) I;rw[hX] at J;rw[a3] at R;generalize U:ρ x=v1 at J;generalize a0:ρ ix=v2 at R;cases R;cases J;refine⟨_,run w ρ a1 _ a2 ⟨a5,a4⟩ U a0,?_⟩;rw[Yy];exact .val _
  ·rename_i a1 b off a2 hX
   obtain⟨a5,a4,I⟩:=I;have I:=U8 I (by omega) (by omega);refine Z8 mx my (λσ g w ρ J R=> ?_) I;rw[hX] at J;rw[a3] at R;generalize U:ρ x=v1 at J;generalize a0:ρ ix=v2 at R;cases R;cases J;refine⟨_,run w ρ a1 _ a2 ⟨a5,a4⟩ U a0,?_⟩;rw[Yy];exact .ptr (by assumption)
  ·rename_i a1 th y off a2 hX
   obtain⟨a5,a4,I⟩:=I;have I:=U8 I (by omega) (by omega);refine Z8 mx my (λσ g w ρ J R=> ?_) I;rw[hX] at J;rw[a3] at R;generalize U:ρ x=v1 at J;generalize a0:ρ ix=v2 at R;cases R;cases J;refine⟨_,run w ρ a1 _ a2 ⟨a5,a4⟩ U a0,?_⟩;rw[Yy,dE];exact .pptr _ (by assumption) (by assumption)
  ·rename_i a1 b q w' off a2 hX
   split at I
   ·rename_i hb
    simp only[az,fw] at hb;have a6:n.toNat<len:=Yi hb.2;have h0:0<=n/\n<(len:Int):=by omega
    refine Z8 mx my (λσ g w ρ J R=> ?_) I;rw[hX] at J;rw[a3] at R;generalize U:ρ x=v1 at J;generalize a0:ρ ix=v2 at R;cases R;cases J;refine⟨_,run w ρ a1 _ a2 h0 U a0,?_⟩;rw[Yy,dE];exact .eptr (by assumption)
   ·exact I.elim
  ·rename_i a1 b q w' off a2 hX
   obtain⟨a5,a4,I⟩:=I;have I:=U8 I (by omega) (by omega);refine Z8 mx my (λσ g w ρ J R=> ?_) I;rw[hX] at J;rw[a3] at R;generalize U:ρ x=v1 at J;generalize a0:ρ ix=v2 at R;cases R;cases J;refine⟨_,run w ρ a1 _ a2 ⟨a5,a4⟩ U a0,?_⟩;rw[Yy,dE];exact .eptr (by assumption)
  ·exact I.elim
 ·rename_i el sz a7 z l kd n ht a3
  split at I
  ·rename_i a1 a2
   split at I
   ·rename_i th ls full hX
    obtain⟨hw,I⟩:=Xn I;obtain⟨h0,a6,y,hy,I⟩:=Zpi I;refine Z8 mx my (λσ g w ρ J R=> ?_) I;rw[hX] at J;rw[a3] at R;generalize U:ρ x=v1 at J;generalize a0:ρ ix=v2 at R;cases R;obtain⟨base,c,cv,rfl,hl,hm,hf,hn,hb,hd⟩:=Vx J;obtain⟨r,o',rfl,a9⟩:=hb (by omega);refine⟨.pointer (ah ⟨r,o'+n.toNat*E.w th+0,aD⟩),?_,.pptr (λj=>cv n.toNat j) (λj hj=>a9 _ _ hy j hj) (λj sv hj=>hd _ _ hy j sv hj)⟩;have a8:0<=n/\n<(ls.length:Int):=⟨h0,a6⟩;unfold execOp;simp only[ho,U,a0,iN,aL,asIntOf,aR,aH,Zy hE ht,jh a8,Z0 hE a2,hw,Yy,dP]
   ·rename_i b off len w' cap hX
    have run:∀(w:World) (ρ:Operand->Value) (r c:Nat),(0<=n/\n<(len:Int))->a1.size=w'->ρ x= .slice (ah ⟨r,off*w',aD⟩) len c->ρ ix= .int kd n->(execOp ρ o).run E.P w= .ok (.value (.pointer (ah ⟨r,(off+n.toNat)*w',aD⟩))) w:=by
     intro w ρ r c h0 hw U a0;unfold execOp;simp only[ho,U,a0,iN,aL,asIntOf,aR,aH,Zy hE ht,jh h0,Z0 hE a2,hw,Yy,cK]
    split at I
    ·obtain⟨hp,I⟩:=Z0b I
     obtain⟨hw,I⟩:=Xn I;refine Z8 mx my (λσ g w ρ J R=> ?_) I;rw[hX] at J;rw[a3] at R;generalize U:ρ x=v1 at J;generalize a0:ρ ix=v2 at R;cases R;cases J;exact⟨_,run w ρ _ _ hp hw U a0,.ptr (by assumption)⟩
    ·obtain⟨hp,I⟩:=Zv I
     obtain⟨hw,I⟩:=Xn I;obtain⟨_,I⟩:=Xn I;refine Z8 mx my (λσ g w ρ J R=> ?_) I;rw[hX] at J;rw[a3] at R;generalize U:ρ x=v1 at J;generalize a0:ρ ix=v2 at R;cases R;cases J;exact⟨_,run w ρ _ _ hp hw U a0,by simpa using Den.eptr (off:=0) (i:=off+n.toNat) (w:=w') (by assumption)⟩
    ·exact I.elim
   ·exact I.elim
  ·exact I.elim
 ·exact I.elim
end
end
section
open Go.RowKit
section
variable {Y:Thy} {E:Eng Y} {o:Oper} {T:Fr Y} {h:Hp Y} {i:Nat} {k:Res Y->Prop} {call:Nat->List (SV Y)->Hp Y->Nat->(Res Y->Prop)->Prop}
theorem BlkOk.cells_iff{σ:Pl} {g:GH} {w:World} {r z:Nat} {b:Blk Y} (J:∀t,b≠ .map t):BlkOk E σ g w r z b↔
 ∃arr e,w.heap[r]? =ah (.cells arr e (0,0))/\arr.size=z/\(b.cells E).length<=z/\(∀(j:Nat) sv,(b.cells E)[j]? =ah sv->∃v,arr[j]? =ah v/\Den E σ g sv v)/\ElOk E e b:=by
 cases b with
 |map t=>exact jv rfl (J t)
 |raw cs I R=>exact fS
 |rows th l I=>exact fS
theorem BlkOk.mono{σ σ':Pl} {g g':GH} {w w':World} {r z:Nat} {b:Blk Y} (a1:Pl.le σ σ') (hg:g.le g') (hw:w'.heap[r]? =w.heap[r]?) (hb:BlkOk E σ g w r z b):BlkOk E σ' g' w' r z b:=by
 cases b with
 |map es=>
  obtain⟨ents,c,t,I,J⟩:=hb;exact⟨ents,c,hw.trans t,I,λj k sv a0=>let⟨v,bo,R,U⟩:=J j k sv a0;⟨v,bo,R,U.mono a1 hg⟩⟩
 |raw cs fz tg=>
  obtain⟨arr,e,t,I,J,R,h0⟩:=hb;exact⟨arr,e,hw.trans t,I,J,λj sv a0=>let⟨v,U,h6⟩:=R j sv a0;⟨v,U,h6.mono a1 hg⟩,h0⟩
 |rows th l fz=>
  obtain⟨arr,e,t,I,J,R,h0⟩:=hb;exact⟨arr,e,hw.trans t,I,J,λj sv a0=>let⟨v,U,h6⟩:=R j sv a0;⟨v,U,h6.mono a1 hg⟩,h0⟩
def updσ(σ:Pl) (i:Nat) (p:Nat×Nat):Pl:=λj=>if j=i then ah p else σ j
theorem Zig{σ:Pl} {i:Nat} {p:Nat×Nat} (h:σ i=aD):Pl.le σ (updσ σ i p):=by
 intro b q j;unfold updσ;by_cases e:b=i
 ·rw[e,h] at j;cases j
 ·rw[jb e];exact j
theorem V4(h:Hp Y) (i:Nat) (v:SV Y) (b:Blk Y) (rd:List Nat):patch h i (fresh i v b rd)=upd h i (ah b):=by
 funext j;simp only[patch,fresh,memB,iR,upd];by_cases J:j=i
 ·subst J
  have t:cn j j=true:=by rw[bx];omega
  have I:aZ j (j+1)=true:=by rw[aZ,bx];omega
  simp[t,I]
 ·have t:bf j i=false:=by rw[<-bv,eV];exact J
  have I:(cn i j&&aZ j (i+1))=false:=by
   rw[aX,<-bv,bx,<-bv,aZ,bx];omega
  rw[t,I]
theorem Y0(h:Hp Y) (i b:Nat) (x:Option (Blk Y)) (v:SV Y) (rd:List Nat):patch h i (change b x v rd)=upd h b x:=by
 funext j;simp only[patch,change,memB,upd,dP];have t:(cn i j&&aZ j i)=false:=by
  rw[aX,<-bv,bx,<-bv,aZ,bx];omega
 rw[t];cases bf j b<;>rfl
theorem Zf{α:Type} (h:Nat->α) (i:Nat) (x:α) (j:Nat):upd h i x j=if j=i then x else h j:=by
 unfold upd;by_cases e:j=i
 ·subst e;simp
 ·have:bf j i=false:=by rw[<-bv,eV];exact e
  rw[this,jb e]
theorem Ze9{B:Nat} {σ:Pl} {g:GH} {w:World} {hh:Hp Y} (R:Inv E B σ hh g w) (hB:B<=w.heap.size) (hi:σ i=aD) {arr:Array Value} {e:TypeId} {blk:Blk Y} (hm:∀es,blk≠ .map es)
 (a6:ElOk E e blk) (hl:(blk.cells E).length<=arr.size) (hd:∀(j:Nat) sv,(blk.cells E)[j]? =ah sv->∃v,arr[j]? =ah v/\Den E σ g sv v):
 Inv E B (updσ σ i (w.heap.size,arr.size)) (upd hh i (ah blk)) g (w.alloc (.cells arr e))/\Stp i 1 [] σ g w (updσ σ i (w.heap.size,arr.size)) g (w.alloc (.cells arr e)):=by
 have a1:Pl.le σ (updσ σ i (w.heap.size,arr.size)):=Zig hi
 have a2:∀r,r<w.heap.size->(w.alloc (.cells arr e)).heap[r]? =w.heap[r]? :=λr hr=>by first|exact heap_alloc_old w _ hr|exact heap_alloc_old w _ r hr
 have a7:(w.alloc (.cells arr e)).heap.size=w.heap.size+1:=by show(w.heap.push _).size=_;simp
 have a4:∀r n v,g.cell r n=ah v->r<w.heap.size:=λr n v a0=>block_lt_of_cell (R.gc r n v a0)
 have a5:∀r es,g.obj r=ah es->r<w.heap.size:=λr es a0=>by obtain⟨c,h⟩:=R.gm r es a0;exact(Array.getElem?_eq_some_iff.1 h).1
 refine⟨⟨?_,?_,?_,?_,?_,?_,?_,R.glob⟩,⟨a1,?_,.refl _,λ_ _ _ h=> .inl h,λ_ _ h=> .inl h,λr hr _=>a2 r hr,by omega,rfl,rfl,rfl,?_⟩⟩
 ·intro r n v a0
  rw[World.cell?_of_block (w:=w) (a2 r (a4 _ _ _ a0))];exact R.gc _ _ _ a0
 ·intro r es a0
  obtain⟨c,h⟩:=R.gm r es a0
  exact⟨c,(a2 r (a5 _ _ a0)).trans h⟩
 ·intro b x U
  rw[Zf] at U
  by_cases hb:b=i
  ·rw[jh hb] at U
   obtain rfl:=aU U
   refine⟨w.heap.size,arr.size,by simp[updσ,hb],(BlkOk.cells_iff hm).2 ⟨arr,e,heap_alloc_new w _,rfl,hl,λj sv hj=> ?_,a6⟩⟩
   obtain⟨v,t,J⟩:=hd j sv hj
   exact⟨v,t,J.mono a1 (.refl _)⟩
  ·rw[jb hb] at U
   obtain⟨r,z,t,J⟩:=R.blk b x U
   exact⟨r,z,a1 _ _ t,J.mono a1 (.refl _) (a2 r (R.base _ _ _ t).2)⟩
 ·intro b b' r z z' hb a3 t J
  rw[Zf] at hb a3
  unfold updσ at t J
  by_cases I:b=i<;>by_cases e2:b'=i
  ·rw[I,e2]
  ·rw[jh I] at t;rw[jb e2] at J;cases t
   have:=(R.base _ _ _ J).2;omega
  ·rw[jb I] at t;rw[jh e2] at J;cases J
   have:=(R.base _ _ _ t).2;omega
  ·rw[jb I] at t hb;rw[jb e2] at J a3
   exact R.inj _ _ _ _ _ hb a3 t J
 ·intro b r z t
  unfold updσ at t
  by_cases I:b=i
  ·rw[jh I] at t;cases t;exact⟨hB,by omega⟩
  ·rw[jb I] at t;have:=R.base _ _ _ t;exact⟨this.1,by omega⟩
 ·intro b x r z n v U t a0
  rw[Zf] at U
  unfold updσ at t
  by_cases I:b=i
  ·rw[jh I] at t;cases t;have:=a4 _ _ _ a0;omega
  ·rw[jb I] at t U;exact R.fz _ _ _ _ _ _ U t a0
 ·intro b x r z U t
  rw[Zf] at U
  unfold updσ at t
  by_cases I:b=i
  ·rw[jh I] at t;cases t
   cases hg:g.obj w.heap.size with
   |none=>rfl
   |some es=>have:=a5 _ _ hg;omega
  ·rw[jb I] at t U;exact R.fm _ _ _ _ U t
 ·intro b p hb
  unfold updσ at hb
  by_cases I:b=i
  ·right;omega
  ·rw[jb I] at hb;exact .inl hb
 ·intro b r z t J
  unfold updσ at J
  by_cases I:b=i
  ·rw[jh I] at J;cases J;exact .inl (aE _)
  ·rw[jb I,t] at J;cases J
theorem Vp{σ : Pl} {g : GH} {sv : SV Y} {v : Value} (t : Den E σ g sv v) (J : leaves sv.cells = af) : sv.cells.length = v.cells.size ∧ (∀ (j : Nat) s, sv.cells[j]? = ah s → ∃ u, v.cells[j]? = ah u ∧ Den E σ g s u) := by
  by_cases U : ∃ cs, sv = .agg cs
  ·obtain⟨cs, rfl⟩ := U
   obtain⟨arr, c, rfl, hs, R, t⟩ := Yo t;exact⟨hs.symm, λj s I => ⟨c j, R j (ar.1 I).1, t j s I⟩⟩
  ·have R : sv.cells = [sv] := by cases sv <;> first | rfl | exact jv ⟨_, rfl⟩ U
   rw[R] at J ⊢;have a0 : leaf sv = true := by simp only[leaves] at J; split at J <;> first | assumption | cases J
   have hv : v.cells = #[v] := by have := Uf a0 t; cases v <;> first | rfl | cases this
   rw[hv];refine⟨rfl, λj s I => ?_⟩;cases j with
   | zero => obtain rfl : sv = s := by simpa using I
             exact⟨v, rfl, t⟩
   | succ j => simp at I
theorem Vq{cs : List (SV Y)} (h : leaves cs = af) {j : Nat} {s : SV Y} (t : cs[j]? = ah s) : leaf s = true := by
  induction cs generalizing j with
  | nil => simp at t
  | cons x r ih =>
    simp only[leaves] at h;split at h
    ·cases j with
     | zero => obtain rfl : x = s := by simpa using t
               assumption
     | succ j => exact ih h (by simpa using t)
    ·cases h
theorem V5{rd:List Nat} {v:SV Y} {blk:Blk Y} (hm:∀t,blk≠ .map t)
 (H:∀(σ:Pl) (g:GH) (w:World) (ρ:Operand->Value),(∀x∈o.op.operands.toList,Den E σ g (ev T x) (ρ x))->
  ∃arr e u,(execOp ρ o).run E.P w= .ok (.value u) (w.alloc (.cells arr e))/\ElOk E e blk/\(blk.cells E).length<=arr.size/\(∀(j:Nat) sv,(blk.cells E)[j]? =ah sv->∃v,arr[j]? =ah v/\Den E σ g sv v)/\
   ∀σ',σ' i=ah (w.heap.size,arr.size)->Den E σ' g v u) (hk:k (fresh i v blk rd)):∃r,k r/\OpTri E o T h i r:=by
 refine⟨_,hk,λb a0=>by simp[fresh] at a0,?_⟩
 intro B σ g w ρ hh a4 U R a2 hx
 obtain⟨arr,e,u,a3,a1,hl,hd,hv⟩:=H σ g w ρ hx
 obtain⟨I,J⟩:=Ze9 (i:=i) U R (a2 i (aE _) (fx _)) (arr:=arr) (e:=e) hm a1 hl hd
 refine Y5 a3 ⟨_,_,J,?_,hv _ (by simp[updσ])⟩
 rw[V4];exact I
theorem V6(R:EngOk E) {t:TypeId} {j:TyI} (ht:E.ty t=ah j) (w:World):(zeroValue t).run E.P w= .ok j.zero w:=by
 obtain⟨_,info,I,_,_,J⟩:=R.ty _ _ ht;simp[zeroValue,typeInfo,I,J,go_sem]
theorem Y2(v : Value) : (Yw v : SV Y).cells.length = v.cells.size ∧ ∀ (σ : Pl) (g : GH) (j : Nat) s, (Yw v : SV Y).cells[j]? = ah s → ∃ u, v.cells[j]? = ah u ∧ Den E σ g s u := by
  by_cases I : ∃ cs, v = .agg cs
  ·obtain⟨cs, rfl⟩ := I
   refine⟨by simp[Yw, SV.cells, Value.cells], λσ g j s t => ?_⟩;simp only[Yw, SV.cells, cw] at t;obtain⟨u, a0, rfl⟩ := ck.1 t;exact⟨u, by simpa[Value.cells] using a0, Zar E σ g u⟩
  ·have J : (Yw v : SV Y) = Zfu v := by cases v <;> first | rfl | exact jv ⟨_, rfl⟩ I
   have R : (Zfu v : SV Y).cells = [Zfu v] := by cases v <;> rfl
   have U : v.cells = #[v] := by cases v <;> first | rfl | exact jv ⟨_, rfl⟩ I
   rw[J, R, U];refine⟨rfl, λσ g j s t => ?_⟩;cases j with
   | zero => obtain rfl : Zfu v = s := by simpa using t
             exact⟨v, rfl, Zar E σ g v⟩
   | succ j => simp at t
theorem Z11(a0:EngOk E) {t:TypeId} (ho:o.op= .alloc t) (I:Vk E t i k):∃r,k r/\OpTri E o T h i r:=by
 unfold Vk at I;split at I
 ·rename_i J ht
  refine V5 (by intro es e;cases e) (λσ g w ρ hx=> ?_) I;obtain⟨R,U⟩:=Y2 (E:=E) J.zero;refine⟨J.zero.cells,t,.pointer (ah ⟨w.heap.size,0,aD⟩),?_,js,jd R,λj sv a1=>U σ g j sv a1,λσ' a2=> .ptr a2⟩;unfold execOp;simp only[ho,Instr.alloc,aL,V6 a0 ht,aH,newVar,newRow,newObj,gJ,aR];rfl
 ·exact I.elim
theorem Yab{t:TypeId} {x:Operand} (J:o.op= .box t x) (I:Zfz (ev T x) i k):∃r,k r/\OpTri E o T h i r:=by
 unfold Zfz at I;split at I
 ·rename_i a1
  refine V5 (by intro es e;cases e) (λσ g w ρ hx=> ?_) I;obtain⟨R,U⟩:=Vp (hx x (by simp[J,ba])) a1;refine⟨(ρ x).cells,t,.pointer (ah ⟨w.heap.size,0,aD⟩),?_,js,jd R,λj sv a0=>U j sv a0,λσ' a2=> .ptr a2⟩;unfold execOp;simp only[J,Instr.box,aL,aH,newVar,newRow,newObj,gJ,aR];rfl
 ·exact I.elim
end
end
section
open Go.RowKit
section
variable {Y:Thy} {E:Eng Y} {o:Oper} {T:Fr Y} {h:Hp Y} {i:Nat} {k:Res Y->Prop} {call:Nat->List (SV Y)->Hp Y->Nat->(Res Y->Prop)->Prop}
theorem Xo(j:EngOk E) (th:Y.Th) (l:List (Y.dom th)) {m:Nat} {s:SV Y} (h:(l.flatMap (E.enc th))[m]? =ah s):∃q p x,m=q*E.w th+p/\p<E.w th/\l[q]? =ah x/\(E.enc th x)[p]? =ah s:=by
 have U:m<l.length*E.w th:=by rw[<-Z3 j];exact(ar.1 h).1
 have J:=j.pos th;have t:m=m/E.w th*E.w th+m%E.w th:=by rw[Nat.mul_comm];exact(Nat.div_add_mod _ _).symm
 have hq:m/E.w th<l.length:=(Nat.div_lt_iff_lt_mul J).2 U;have I:m%E.w th<E.w th:=iW _ J;have R:=aq hq;refine⟨_,_,_,t,I,R,?_⟩;rw[<-Y3 j th l _ _ R _ I,<-t];exact h
theorem Zc1{B : Nat} {σ : Pl} {g : GH} {w : World} {hh : Hp Y} (R : Inv E B σ hh g w) {b r z : Nat} {blk blk' : Blk Y} (hb : hh b = ah blk) (a1 : σ b = ah (r, z)) {arr arr' : Array Value} {e : TypeId} (ha : w.heap[r]? = ah (.cells arr e (0, 0))) (hs : arr'.size = arr.size)
    (hz : arr.size = z) (a4 : ElOk E e blk') (hm : ∀ es, blk' ≠ .map es) (hf : blk'.fzc E = blk.fzc E) (a5 : ∀ n, n < blk.fzc E → arr'[n]? = arr[n]?) (hl : (blk'.cells E).length ≤ z) (hd : ∀ (j : Nat) sv, (blk'.cells E)[j]? = ah sv → ∃ v, arr'[j]? = ah v ∧ Den E σ g sv v) :
    Inv E B σ (upd hh b (ah blk')) g (w.setRow r arr') ∧ Stp i 0 [b] σ g w σ g (w.setRow r arr') := by
  have a2 : ∀ q, q ≠ r → (w.setRow r arr').heap[q]? = w.heap[q]? := λq hq => setRow_other w r q arr' hq
  have a6 : ∀ J r' z', hh J ≠ aD → σ J = ah (r', z') → J ≠ b → r' ≠ r := by
    intro J r' z' t a0 h3 e
    subst e
    exact h3 (R.inj _ _ _ _ _ t (by rw[hb]; simp) a0 a1)
  refine⟨⟨?_, ?_, ?_, ?_, ?_, ?_, ?_, R.glob⟩, ⟨.refl _, λb p h => .inl h, .refl _, λ_ _ _ h => .inl h, λ_ _ h => .inl h, λq hq a7 => a2 q λe => a7 b (by simp) z (e ▸ a1), by simp, rfl, rfl, rfl, λJ r' z' t a0 => by rw[t] at a0; cases a0⟩⟩
  ·intro q n v hc
   have a3 := R.gc _ _ _ hc
   by_cases e : q = r
   ·subst e
    rw[cell_setRow_same w q n arr arr' _ _ ha, a5 n (R.fz _ _ _ _ _ _ hb a1 hc)]
    simpa[World.cell?, ha] using a3
   ·rw[cell_setRow_other w r arr' _ (by simpa using e)]; exact a3
  ·intro q es hc
   obtain⟨c, h⟩ := R.gm _ _ hc
   have : q ≠ r := by rintro rfl; rw[ha] at h; cases h
   exact⟨c, (a2 q this).trans h⟩
  ·intro J x I
   rw[Zf] at I
   by_cases U : J = b
   ·rw[jh U] at I
    obtain rfl := aU I
    subst U
    exact⟨r, z, a1, (BlkOk.cells_iff hm).2 ⟨arr', e, setRow_heap w r arr arr' _ _ ha, by omega, hl, hd, a4⟩⟩
   ·rw[jb U] at I
    obtain⟨r', z', t, a0⟩ := R.blk _ _ I
    exact⟨r', z', t, a0.mono (.refl _) (.refl _) (a2 _ (a6 _ _ _ (by rw[I]; simp) t U))⟩
  ·intro b1 b2 r' z1 z2 t a0 k1 k2
   rw[Zf] at t a0
   have q1 : hh b1 ≠ none := by by_cases e : b1 = b; · rw[e, hb]; simp
                                ·rw[jb e] at t; exact t
   have q2 : hh b2 ≠ none := by by_cases e : b2 = b; · rw[e, hb]; simp
                                ·rw[jb e] at a0; exact a0
   exact R.inj _ _ _ _ _ q1 q2 k1 k2
  ·intro J r' z' t
   have := R.base _ _ _ t
   exact⟨this.1, by simpa using this.2⟩
  ·intro J x r' z' n v I t hc
   rw[Zf] at I
   by_cases U : J = b
   ·rw[jh U] at I
    obtain rfl := aU I
    subst U
    rw[hf]; exact R.fz _ _ _ _ _ _ hb t hc
   ·rw[jb U] at I; exact R.fz _ _ _ _ _ _ I t hc
  ·intro J x r' z' I t
   rw[Zf] at I
   by_cases U : J = b
   ·subst U; exact R.fm _ _ _ _ hb t
   ·rw[jb U] at I; exact R.fm _ _ _ _ I t
theorem Y7{α:Type} (cs t:List α) (off:Nat) (U:off+t.length<=cs.length) (j:Nat):(cs.take off++t++cs.drop (off+t.length))[j]? =if j<off then cs[j]? else if j<off+t.length then t[j-off]? else cs[j]? :=by
 by_cases I:j<off
 ·rw[jh I,db,cf (by simp;omega),bU,jh I]
 ·rw[jb I,db,ct (by simp;omega)]
  have R:(List.take off cs).length=off:=by simp;omega
  rw[R];by_cases J:j<off+t.length
  ·rw[jh J,cf (by omega)]
  ·rw[jb J,ct (by omega),cL]
   congr 1;omega
theorem Ur(J:EngOk E) {t:TypeId} {j:TyI} (ht:E.ty t=ah j) {x v:Operand} (a0:o.op= .store t x v) (w:World) (ρ:Operand->Value) (r off:Nat) (arr:Array Value) (e:TypeId) (hx:ρ x= .pointer (ah ⟨r,off,aD⟩)) (R:w.heap[r]? =ah (.cells arr e (0,0)))
 (hs:(ρ v).cells.size=j.size) (U:off+(ρ v).cells.size<=arr.size) (I:∀u∈(ρ v).cells.toList,u.oneCell'=af):
 (execOp ρ o).run E.P w= .ok .skip (w.setRow r (arr.toList.take off++(ρ v).cells.toList++arr.toList.drop (off+(ρ v).cells.toList.length)).toArray):=by
 have:=run_storeCells_at (P:=E.P) r off e (ρ v).cells.toList 0 arr w R (by simpa using U) I
 unfold execOp
 simp only[a0,Instr.storeAt,hx,aL,eL,aR,aH,storeVar,Z0 J ht,hs]
 simp only[ne_eq,il,jQ]
 simp only[aL,aR,aH,this,dP]
theorem Zks(hE:EngOk E) {t:TypeId} {x v:Operand} (ho:o.op= .store t x v) (J:Zrd E t (ev T x) (ev T v) h k):∃r,k r/\OpTri E o T h i r:=by
 have mx:x∈o.op.operands.toList:=by simp[ho,ba]
 have mv:v∈o.op.operands.toList:=by simp[ho,ba]
 unfold Zrd at J;split at J
 ·exact J.elim
 ·rename_i ti ht
  split at J
  ·exact J.elim
  ·rename_i a4
   simp only[az,fw] at a4;obtain⟨c8,a4⟩:=a4;split at J
   ·rename_i b off hX
    split at J
    ·rename_i cs fz tg hb
     split at J
     ·rename_i c2
      simp only[az,bx] at c2;refine⟨_,J,λb' a0=>by(simp[change] at a0;subst a0;rw[hb];simp),?_⟩;intro B σ g w ρ hh c4 hI hB d2 hx;have a0:hh b=ah (.raw cs fz tg):=(c4 b (by simp[Rd,change])).trans hb;have h1:=hx x mx;rw[hX] at h1;generalize c7:ρ x=v1 at h1;cases h1;rename_i r z b4;obtain⟨r',z',b5,b7⟩:=hI.blk b _ a0;rw[b4] at b5;cases b5;obtain⟨arr,e,ha,hz,a7,a5,a8⟩:=(BlkOk.cells_iff (by intro es e;cases e)).1 b7;obtain⟨a2,a6⟩:=Vp (hx v mv) a4;have d7:cs.length<=arr.size:=by rw[hz];exact a7
      have c3:∀u∈(ρ v).cells.toList,u.oneCell'=true:=by
       intro u I;obtain⟨j,R,rfl⟩:=da I;have a9:j<(ev T v).cells.length:=by rw[a2];simpa using R
       obtain⟨u',a3,b8⟩:=a6 j _ (aq a9);have:(ρ v).cells.toList[j]=u':=by
        have b9:j<(ρ v).cells.size:=by simpa using R
        rw[cO b9] at a3
        simpa using aU a3
       rw[this];exact Uf (Vq a4 (aq a9)) b8
      have c5:=Ur hE ht ho w ρ r off arr e c7 ha (by rw[<-a2,c8]) (by rw[<-a2];omega) c3;have c6:=Y7 cs (ev T v).cells off (by omega);have b3:(ρ v).cells.toList.length=(ev T v).cells.length:=by rw[a2];simp
      have b0:=Y7 arr.toList (ρ v).cells.toList off (by rw[b3];simp;omega);obtain⟨b6,hS⟩:=Zc1 (i:=i) hI (blk':= .raw (Xw cs off (ev T v).cells) fz tg) a0 b4 (arr':=(arr.toList.take off++(ρ v).cells.toList++arr.toList.drop (off+(ρ v).cells.toList.length)).toArray) ha (by simp;omega) hz (by first|exact a8|(cases tg<;>exact a8)) (by intro es e;cases e) rfl
       (λn hn=>by rw[cG,b0,jh (by simp only[Blk.fzc] at hn;omega)];simp) (by simp only[Blk.cells,Xw,aO,List.length_take,List.length_drop];omega)
       (λj sv R=>by
        simp only[Blk.cells,Xw] at R;rw[c6] at R;rw[cG,b0,b3];by_cases q1:j<off
        ·rw[jh q1] at R⊢
         obtain⟨u,I,U⟩:=a5 j sv R;exact⟨u,by simpa using I,U⟩
        ·rw[jb q1] at R⊢
         by_cases q2:j<off+(ev T v).cells.length
         ·rw[jh q2] at R⊢
          obtain⟨u,I,U⟩:=a6 _ _ R;exact⟨u,by simpa using I,U⟩
         ·rw[jb q2] at R⊢
          obtain⟨u,I,U⟩:=a5 j sv R
          exact⟨u,by simpa using I,U⟩)
      refine Un c5 ⟨σ,g,hS,?_,.unk _⟩;rw[Y0];exact b6
     ·exact J.elim
    ·exact J.elim
   ·rename_i b j w' off hX
    split at J
    ·rename_i th l fz hb
     obtain⟨d6,c0⟩:=Xn J;clear J;subst d6;obtain⟨d3,c0⟩:=Zv c0;obtain⟨R,y,hy,J⟩:=Zuw c0;split at J
     ·rename_i y' c2 d1
      rw[bx,hE.enc] at c2;refine⟨_,Zrc J,λb' a0=>by(simp[change] at a0;subst a0;rw[hb];simp),?_⟩;intro B σ g w ρ hh c4 hI hB d2 hx;have a0:hh b=ah (.rows th l fz):=(c4 b (by simp[Rd,change])).trans hb;have h1:=hx x mx;rw[hX] at h1;generalize c7:ρ x=v1 at h1;cases h1;rename_i r z b4;obtain⟨r',z',b5,b7⟩:=hI.blk b _ a0;rw[b4] at b5;cases b5;obtain⟨arr,e,ha,hz,a7,a5,a8⟩:=(BlkOk.cells_iff (by intro es e;cases e)).1 b7;simp only[Blk.cells] at a7 a5;rw[Z3 hE] at a7;obtain⟨a2,a6⟩:=Vp (hx v mv) a4;obtain⟨d8,d0⟩:=hE.dec _ _ _ d1
      have d9:j*E.w th+E.w th<=l.length*E.w th:=by
       have:=bH (E.w th) (show j+1<=l.length from R)
       rwa[cK,iz] at this
      have c3:∀u∈(ρ v).cells.toList,u.oneCell'=true:=by
       intro u I;obtain⟨j,R,rfl⟩:=da I;have a9:j<(ev T v).cells.length:=by rw[a2];simpa using R
       obtain⟨u',a3,b8⟩:=a6 j _ (aq a9);have:(ρ v).cells.toList[j]=u':=by
        have b9:j<(ρ v).cells.size:=by simpa using R
        rw[cO b9] at a3
        simpa using aU a3
       rw[this];exact Uf (Vq a4 (aq a9)) b8
      have b3:(ρ v).cells.toList.length=(ev T v).cells.length:=by rw[a2];simp
      have c5:=Ur hE ht ho w ρ r (j*E.w th+off) arr e c7 ha (by rw[<-a2,c8]) (by rw[<-a2];omega) c3;have c6:=Y7 (E.enc th y) (ev T v).cells off (by rw[hE.enc];omega);have b0:=Y7 arr.toList (ρ v).cells.toList (j*E.w th+off) (by rw[b3];simp;omega);obtain⟨b6,hS⟩:=Zc1 (i:=i) hI (blk':= .rows th (l.set j y') fz) a0 b4 (arr':=(arr.toList.take (j*E.w th+off)++(ρ v).cells.toList++arr.toList.drop (j*E.w th+off+(ρ v).cells.toList.length)).toArray) ha (by simp;omega) hz (by first|exact a8|(cases tg<;>exact a8)) (by intro es e;cases e) rfl
       (λn hn=>by
        simp only[Blk.fzc] at hn;have:=bH (E.w th) d3
        rw[cG,b0,jh (by omega)];simp) (by simp only[Blk.cells];rw[Z3 hE,List.length_set];exact a7)
       (λm sv hm=>by
        simp only[Blk.cells] at hm;obtain⟨q,p,x,rfl,hp,hq,hs⟩:=Xo hE th _ hm;rw[cG,b0,b3];by_cases e1:q=j
        ·subst e1
         rw[List.getElem?_set_self (by omega)] at hq;obtain rfl:=aU hq;have a1:(Xw (E.enc th y) off (ev T v).cells)[p]? =ah (Xw (E.enc th y) off (ev T v).cells)[p]:=aq (by omega);generalize (Xw (E.enc th y) off (ev T v).cells)[p]=s0 at a1;have c1:∀u,Den E σ g s0 u->Den E σ g sv u:=λu I=>d0 σ g p s0 sv u a1 hs I;simp only[Xw] at a1;rw[c6] at a1;have c9:∀s,(E.enc th y)[p]? =ah s->∃u,arr.toList[q*E.w th+p]? =ah u/\Den E σ g s u:=by
          intro s hs;obtain⟨u,I,U⟩:=a5 (q*E.w th+p) s (by rw[Y3 hE th l q y hy p hp];exact hs);exact⟨u,by simpa using I,U⟩
         by_cases q1:p<off
         ·rw[jh q1] at a1;rw[jh (by omega)]
          obtain⟨u,I,U⟩:=c9 _ a1;exact⟨u,I,c1 u U⟩
         ·rw[jb q1] at a1;rw[jb (by omega)]
          by_cases q2:p<off+(ev T v).cells.length
          ·rw[jh q2] at a1;rw[jh (by omega)]
           obtain⟨u,I,U⟩:=a6 _ _ a1;refine⟨u,?_,c1 u U⟩;rw[show q*E.w th+p-(q*E.w th+off)=p-off by omega]
           simpa using I
          ·rw[jb q2] at a1;rw[jb (by omega)]
           obtain⟨u,I,U⟩:=c9 _ a1;exact⟨u,I,c1 u U⟩
        ·rw[List.getElem?_set_ne (λe=>e1 e.symm)] at hq
         obtain⟨u,I,U⟩:=a5 (q*E.w th+p) sv (by rw[Y3 hE th l q x hq p hp];exact hs);refine⟨u,?_,U⟩;have a3:arr.toList[q*E.w th+p]? =ah u:=by simpa using I
         rcases Nat.lt_or_gt_of_ne e1 with d5|d4
         ·have:=bH (E.w th) (show q+1<=j from d5)
          rw[cK,iz] at this;rw[jh (by omega)];exact a3
         ·have:=bH (E.w th) (show j+1<=q from d4)
          rw[cK,iz] at this
          rw[jb (by omega),jb (by omega)];exact a3)
      refine Un c5 ⟨σ,g,hS,?_,.unk _⟩;rw[Y0];exact b6
     ·exact J.elim
    ·exact J.elim
   ·exact J.elim
end
end
section
open Go.RowKit
section
variable {Y:Thy} {E:Eng Y} {o:Oper} {T:Fr Y} {h:Hp Y} {i:Nat} {k:Res Y->Prop} {call:Nat->List (SV Y)->Hp Y->Nat->(Res Y->Prop)->Prop}
def DenA(E:Eng Y) (σ:Pl) (g:GH) (cs:List (SV Y)) (arr:Array Value):Prop:=cs.length=arr.size/\∀(j:Nat) s,cs[j]? =ah s->∃u,arr[j]? =ah u/\Den E σ g s u
theorem Zvr(off:Nat):∀(l:List Value) (n:Nat) (cells:Array Value),off+n+l.length<=cells.size->
 ((l.zipIdx n).foldl (λcs p=>cs.setIfInBounds (off+p.2) p.1) cells).size=cells.size/\
 ∀j,((l.zipIdx n).foldl (λcs p=>cs.setIfInBounds (off+p.2) p.1) cells)[j]? =if off+n<=j/\j<off+n+l.length then l[j-(off+n)]? else cells[j]? :=by
 intro l
 induction l with
 |nil=>intro n cells _;refine⟨rfl,λj=> ?_⟩;rw[jb (by rintro⟨I,t⟩;simp at t;omega)];rfl
 |cons x l ih=>
  intro n cells J
  simp only[aT] at J
  obtain⟨I,t⟩:=ih (n+1) (cells.setIfInBounds (off+n) x) (by simp;omega)
  simp only[List.zipIdx_cons,List.foldl_cons]
  refine⟨by rw[I];simp,λj=> ?_⟩
  rw[t j]
  simp only[aT]
  by_cases e:j=off+n
  ·subst e
   rw[jb (by omega),jh (by omega),cZ,jh rfl,jh (by omega)]
   simp
  ·by_cases c:off+(n+1)<=j/\j<off+(n+1)+l.length
   ·rw[jh c,jh (by omega),show j-(off+n)=(j-(off+(n+1)))+1 by omega,List.getElem?_cons_succ]
   ·rw[jb c,jb (by omega),cZ,jb (λh=>e h.symm)]
theorem Zb2{σ:Pl} {g:GH} {place:Nat->Option (Nat×Nat)}:∀(parts:List (Nat×SV Y)) (t:List (Nat×Value)) (cells cs:List (SV Y)) (arr:Array Value),DenA E σ g cells arr->
 parts.length=t.length->(∀(j:Nat) p q,parts[j]? =ah p->t[j]? =ah q->p.1=q.1/\Den E σ g p.2 q.2)->Zcl place cells parts=ah cs->
 ∃arr',kJ place arr t=ah arr'/\DenA E σ g cs arr':=by
 intro parts
 induction parts with
 |nil=>
  intro t cells cs arr R U _ J
  have:t= []:=by cases t<;>first|rfl|simp at U
  subst this
  obtain rfl:cells=cs:=by simpa[Zcl] using J
  exact⟨arr,rfl,R⟩
 |cons p parts ih=>
  intro t cells cs arr R U hP J
  cases t with
  |nil=>simp at U
  |cons q t=>
   obtain⟨n,sv⟩:=p
   obtain⟨n',v⟩:=q
   obtain⟨rfl,hd⟩:=hP 0 _ _ rfl rfl
   simp only[Zcl] at J
   split at J
   ·cases J
   ·rename_i off size a6
    split at J
    ·rename_i hc
     simp only[az,fw,bx] at hc
     obtain⟨⟨hs,a5⟩,a9⟩:=hc
     obtain⟨a1,a3⟩:=Vp hd a5
     have a1:sv.cells.length=v.cells.size:=a1
     have a8:=R.1
     have hb:off+0+v.cells.toList.length<=arr.size:=by simp;omega
     obtain⟨f1,f2⟩:=Zvr off v.cells.toList 0 arr hb
     have a4:(v.cells.zipIdx.foldl (λcs (x:Value×Nat)=>cs.setIfInBounds (off+x.2) x.1) arr)=((v.cells.toList.zipIdx 0).foldl (λcs p=>cs.setIfInBounds (off+p.2) p.1) arr):=by
      rw[<-Array.foldl_toList];simp
     have a7:=Y7 cells sv.cells off (by omega)
     have a2:DenA E σ g (Xw cells off sv.cells) ((v.cells.toList.zipIdx 0).foldl (λcs p=>cs.setIfInBounds (off+p.2) p.1) arr):=by
      refine⟨by rw[f1];simp[Xw];omega,λj s I=> ?_⟩
      simp only[Xw] at I
      rw[a7] at I
      rw[f2]
      by_cases q1:j<off
      ·rw[jh q1] at I;rw[jb (by omega)];exact R.2 j s I
      ·rw[jb q1] at I
       by_cases q2:j<off+sv.cells.length
       ·rw[jh q2] at I
        obtain⟨u,hu,hd⟩:=a3 _ _ I
        rw[jh (by simp;omega)]
        exact⟨u,by simpa using hu,hd⟩
       ·rw[jb q2] at I
        rw[jb (by simp;omega)]
        exact R.2 j s I
     obtain⟨arr',a0,h2⟩:=ih t _ cs _ a2 (by simpa using U) (λj p q a0 h2=>hP (j+1) p q (by simpa using a0) (by simpa using h2)) J
     refine⟨arr',?_,h2⟩
     simp only[kJ,a6]
     rw[jb (by simp;omega),a4]
     exact a0
    ·cases J
theorem Zr8(t:EngOk E):∀(j:List Field) (pl:List (Nat×Nat)),Zfy E j=ah pl->j.mapM (λf=>(E.P.info? f.type).map λi=>(f.offset,i.size))=ah pl:=by
 intro j
 induction j with
 |nil=>intro pl h;simp[Zfy] at h;subst h;rfl
 |cons f r ih=>
  intro pl h;simp only[Zfy] at h;split at h
  ·rename_i R l ht I
   obtain rfl:=aU h;have:=Zyd t ht;obtain⟨info,hi,J⟩:=ck.1 this;simp only[List.mapM_cons,hi,ih _ I,cH,J];rfl
  ·cases h
theorem Zb3{σ:Pl} {g:GH} {ρ:Operand->Value} {parts:Array (Nat×Operand)} (R:∀x∈(parts.toList.map (·.2)),Den E σ g (ev T x) (ρ x)):
 (parts.toList.map λp=>(p.1,ev T p.2)).length=(parts.map λ(n,x)=>(n,ρ x)).toList.length/\∀(j:Nat) p q,(parts.toList.map λp=>(p.1,ev T p.2))[j]? =ah p->(parts.map λ(n,x)=>(n,ρ x)).toList[j]? =ah q->p.1=q.1/\Den E σ g p.2 q.2:=by
 refine⟨by simp,λj p q t I=> ?_⟩
 rw[cw] at t
 obtain⟨y,J,rfl⟩:=ck.1 t
 simp only[Array.toList_map,cw,J,cH,cF] at I
 subst I
 exact⟨rfl,R _ (List.mem_map_of_mem (cp J))⟩
theorem Zgu{σ:Pl} {g:GH} (v:Value):DenA E σ g (Yw v).cells v.cells:=by
 obtain⟨t,I⟩:=Y2 (E:=E) v;exact⟨t,λj s J=>I σ g j s J⟩
theorem Zpt{σ:Pl} {g:GH} {cs:List (SV Y)} {arr:Array Value} (h:DenA E σ g cs arr):Den E σ g (.agg cs) (.agg arr):=by
 refine .agg (λj=>arr.getD j undef) h.1.symm (λj t=> ?_) (λj s t=> ?_)
 ·have:j<arr.size:=by rw[<-h.1];exact t
  simp[ed,this]
 ·obtain⟨u,J,I⟩:=h.2 j s t
  rw[aY,J];exact I
theorem Zvs(J:EngOk E) {t:TypeId} {parts:Array (Nat×Operand)} (ho:o.op= .build t parts) (j:Zzf E t (parts.toList.map λp=>(p.1,ev T p.2)) k):∃r,k r/\OpTri E o T h i r:=by
 have mx:∀x,x∈parts.toList.map (·.2)->x∈o.op.operands.toList:=by intro x I;simpa[ho,ba] using I
 unfold Zzf at j;split at j
 ·rename_i fs sz a1 z ht
  split at j
  ·rename_i pl a4
   split at j
   ·rename_i cs hf
    refine⟨_,j,Zr λB σ g w ρ hh _ hI I=> ?_⟩;obtain⟨p1,p2⟩:=Zb3 (E:=E) (σ:=σ) (g:=g) (T:=T) (ρ:=ρ) (parts:=parts) (λx hm=>I x (mx x hm));obtain⟨arr',R,U⟩:=Zb2 _ _ _ _ _ (Zgu z) p1 p2 hf;refine⟨.agg arr',?_,Zpt U⟩;obtain⟨hu,info,hi,_,_,hz⟩:=J.ty _ _ ht;have a0:E.P.built t (parts.map λ(n,x)=>(n,ρ x)).toList=ah arr':=by
     unfold Program.built;rw[hi,hu];simp only[hz,Zr8 J _ _ a4,cG];exact R
    unfold execOp;simp only[ho,aL,run_build w t _ arr' a0,aH,aR]
   ·exact j.elim
  ·exact j.elim
 ·rename_i n el sz a1 z ht
  split at j
  ·rename_i ti a2
   split at j
   ·rename_i cs hf
    refine⟨_,j,Zr λB σ g w ρ hh _ hI I=> ?_⟩;obtain⟨p1,p2⟩:=Zb3 (E:=E) (σ:=σ) (g:=g) (T:=T) (ρ:=ρ) (parts:=parts) (λx hm=>I x (mx x hm));obtain⟨arr',R,U⟩:=Zb2 _ _ _ _ _ (Zgu z) p1 p2 hf;refine⟨.agg arr',?_,Zpt U⟩;obtain⟨hu,info,hi,_,_,hz⟩:=J.ty _ _ ht;obtain⟨_,a6,a3,a5,_⟩:=J.ty _ _ a2;have a0:E.P.built t (parts.map λ(n,x)=>(n,ρ x)).toList=ah arr':=by
     unfold Program.built;rw[hi,hu];simp only[hz,a3,a5];exact R
    unfold execOp;simp only[ho,aL,run_build w t _ arr' a0,aH,aR]
   ·exact j.elim
  ·exact j.elim
 ·exact j.elim
theorem Zvt{α:Type} {z:List α} {s:Nat} (I:z.length=s) (J:0<s):∀(n j:Nat),((aS n z).flatten)[j]? =if j<n*s then z[j%s]? else none:=by
 intro n
 induction n with
 |zero=>intro j;simp
 |succ n ih=>
  intro j;rw[List.replicate_succ,List.flatten_cons];by_cases t:j<s
  ·rw[cf (by omega),Nat.mod_eq_of_lt t,jh (by rw[cK];omega)]
  ·rw[ct (by omega),ih,I,show j%s=(j-s)%s by rw[Nat.mod_eq_sub_mod (by omega)]]
   by_cases c:j-s<n*s
   ·rw[jh c,jh (by rw[cK];omega)]
   ·rw[jb c,jb (by rw[cK];omega)]
theorem Zpu{el:TypeId} {cs:List (SV Y)} {j:Nat}:ElOk E el (.raw cs j (Ul E el)):=by
 unfold Ul;split
 ·split
  ·rename_i h;exact(aG h).symm
  ·trivial
 ·trivial
theorem Zgf(hE:EngOk E) {t:TypeId} {len:Nat} {parts:Array (Nat×Operand)} (ho:o.op= .buildSlice t len parts) (J:Zbi E t len (parts.toList.map λp=>(p.1,ev T p.2)) i k):∃r,k r/\OpTri E o T h i r:=by
 have mx:∀x,x∈parts.toList.map (·.2)->x∈o.op.operands.toList:=by intro x hx;simpa[ho,ba] using hx
 unfold Zbi at J;split at J
 ·rename_i el sz b6 z ht
  split at J
  ·rename_i I a8
   split at J
   ·rename_i cs hc hf
    simp only[az,bx] at hc;obtain⟨⟨b9,b7⟩,a0,U⟩:=hc;have a0:0<I.size:=Yi a0;have U:(Yw I.zero:SV Y).cells.length=I.size:=aG U;have a5:I.zero.cells.size=I.size:=by rw[<-(Y2 (E:=E) I.zero).1];exact U
    refine V5 (by intro es e;cases e) (λσ g w ρ hx=> ?_) J;obtain⟨p1,p2⟩:=Zb3 (E:=E) (σ:=σ) (g:=g) (T:=T) (ρ:=ρ) (parts:=parts) (λx hm=>hx x (mx x hm));have hA:DenA E σ g ((aS len (Yw I.zero:SV Y).cells).flatten) ((jr (len*I.size)).map (I.zero.cells[· %I.zero.cells.size]!)):=by
     have hr:=Zvt U a0 len;refine⟨?_,λj s R=> ?_⟩
     ·rw[Array.size_map,Array.size_range]
      simp[U]
     ·rw[hr] at R
      by_cases c:j<len*I.size
      ·rw[jh c] at R
       obtain⟨u,hu,hd⟩:=(Y2 (E:=E) I.zero).2 σ g _ s R;refine⟨u,?_,hd⟩;have b8:j%I.size<I.zero.cells.size:=by rw[a5];exact iW _ a0
       rw[Array.getElem?_map,Array.getElem?_range,jh c,cH,a5];have he:I.zero.cells[j%I.size]! =u:=by simp[getElem!_def,hu]
       rw[he]
      ·rw[jb c] at R;cases R
    obtain⟨arr',h1,h2⟩:=Zb2 _ _ _ _ _ hA p1 p2 hf;obtain⟨hu,_⟩:=hE.ty _ _ ht;obtain⟨_,a6,a4,a1,_,b4⟩:=hE.ty _ _ a8;have a3:=h2.1;have b0:arr'.size=len*I.size:=by
     have:∀(ps:List (Nat×SV Y)) (cells cs:List (SV Y)) (pl:Nat->Option (Nat×Nat)),Zcl pl cells ps=ah cs->cs.length=cells.length:=by
      intro ps
      induction ps with
      |nil=>intro cells cs pl h;simp[Zcl] at h;rw[h]
      |cons p ps ih=>
       intro cells cs pl h;simp only[Zcl] at h;split at h
       ·cases h
       ·split at h
        ·rename_i a7
         simp only[az,bx,fw] at a7;rw[ih _ _ _ h];simp[Xw];omega
        ·cases h
     rw[<-a3,this _ _ _ _ hf,hA.1];simp
    refine⟨arr',el,.slice (ah ⟨w.heap.size,0,aD⟩) len len,?_,Zpu,jd a3,λj s R=>h2.2 j s R,λσ' b5=> ?_⟩
    ·unfold execOp
     simp only[ho,aL];by_cases a2:len*a6.size=0
     ·have a9:len=0:=by
       rw[a1] at a2;rcases Nat.mul_eq_zero.1 a2 with h|h<;>omega
      have b3:(ie t len (parts.map λ(n,x)=>(n,ρ x))).run E.P w= .ok (.slice (ah ⟨w.heap.size,0,aD⟩) len len) (w.alloc (.cells arr' el)):=by
       subst a9;have e0:∀f:Nat->Value,Array.map f (jr 0)= #[]:=λf=>by apply Array.ext';simp
       simp[e0] at h1;simp[e0,ie,run_underlying hu,sizeOf,typeInfo,a4,h1,a1,newRow]
      rw[b3];rfl
     ·rw[run_buildSlice w t el len _ arr' a6 I.zero hu a4 b4 (by rw[a1];omega) a2 (by rw[a1];exact h1)];rfl
    ·have:=Den.sl (E:=E) (g:=g) (b:=i) (off:=0) (len:=len) (w:=I.size) (c:=len) (cap:=some len) b5 (by rw[b0];simp) (aE _) (by unfold maxLen;omega) (by intro m e;cases e;rfl)
     simpa using this
   ·exact J.elim
  ·exact J.elim
 ·exact J.elim
end
end
section
open Go.RowKit
section
variable {Y:Thy} {E:Eng Y} {F:Fns Y}
def DomLt(h:Hp Y) (i:Nat):Prop:=∀b,h b≠aD->b<i
def Dom(h:Hp Y) (i:Nat) (j:Hp Y) (t:Nat):Prop:=DomLt j t/\∀b,j b≠aD->h b≠aD\/i<=b
def Yr(h:Hp Y) (i j:Nat) (m:List Nat):Prop:=∀b∈m,h b≠aD\/(i<=b/\b<j)
theorem memB_iff{b:Nat}:∀{l:List Nat},memB b l=af↔b∈l
 | []=>by simp[memB]
 |x::l=>by
  simp only[memB]
  by_cases e:b=x
  ·subst e;simp
  ·have:bf b x=false:=by rw[<-bv,eV];exact e
   rw[this];simp only[memB_iff (l:=l)];simp[e]
theorem inNew_iff{b i n:Nat}:(cn i b&&aZ b (i+n))=af↔i<=b/\b<i+n:=by
 rw[az,bx,aZ,bx];omega
theorem Z6(h:Hp Y) (i:Nat) (r:Res Y) (b:Nat):patch h i r b=if b∈r.mods\/(i<=b/\b<i+r.n) then r.h b else h b:=by
 unfold patch;by_cases c:b∈r.mods\/(i<=b/\b<i+r.n)
 ·rw[jh c]
  have:(memB b r.mods||(cn i b&&aZ b (i+r.n)))=true:=by
   rw[bw,memB_iff,inNew_iff];exact c
  rw[this]
 ·rw[jb c]
  have:(memB b r.mods||(cn i b&&aZ b (i+r.n)))=false:=by
   rw[<-bv,bw,memB_iff,inNew_iff];exact c
  rw[this]
theorem DomLt.patch{h:Hp Y} {i:Nat} {r:Res Y} (t:DomLt h i) (I:ROk h r):DomLt (patch h i r) (i+r.n):=by
 intro b j;rw[Z6] at j;split at j
 ·rename_i c
  rcases c with c|c
  ·have:=t b (I b c);omega
  ·exact c.2
 ·have:=t b j;omega
def Ziy(E:Eng Y) (f:FuncId) (args:List (SV Y)) (h:Hp Y) (i:Nat) (r:Res Y):Prop:=
 ∀(B:Nat) (σ:Pl) (g:GH) (w:World) (vals:Array Value) (t:Hp Y),(∀b,Rd r b->t b=h b)->Inv E B σ t g w->B<=w.heap.size->(∀b,i<=b->b<i+r.n->σ b=aD)->DenL E σ g args vals.toList->
  Calls E.P f vals w λen I=>∃u,en= .returned u/\∃σ' j,Stp i r.n r.mods σ g w σ' j I/\Inv E B σ' (patch t i r) j I/\Den E σ' j r.v u
def Z8f(E:Eng Y) (f:FuncId) (args:List (SV Y)) (h:Hp Y) (i:Nat) (r:Res Y):Prop:=
 ∃p,r.v= .pan p/\∀(B:Nat) (σ:Pl) (g:GH) (w:World) (vals:Array Value),Inv E B σ h g w->B<=w.heap.size->(∀b,i<=b->b<i+r.n->σ b=aD)->DenL E σ g args vals.toList->
  Calls E.P f vals w λen t=>en= .panicked [{v:=p,recovered:=false}]/\∃σ' j,Stp i r.n r.mods σ g w σ' j t/\Inv E B σ' (patch h i r) j t
def CallTri2(E:Eng Y) (f:FuncId) (args:List (SV Y)) (h:Hp Y) (i:Nat) (r:Res Y):Prop:=Ziy E f args h i r\/Z8f E f args h i r
def Zcf(E:Eng Y) (call:Nat->List (SV Y)->Hp Y->Nat->(Res Y->Prop)->Prop):Prop:=∀f args h i k,DomLt h i->call f args h i k->∃r,k r/\ROk h r/\CallTri2 E f args h i r
def FrOk(E:Eng Y) (σ:Pl) (g:GH) (T:Fr Y) (a:Act):Prop:=∀t,Den E σ g (T t) (a.eval (.tmp t))
theorem Stp.trans{i n1 n2:Nat} {m1 m2:List Nat} {σ a1 a2:Pl} {g g1 g2:GH} {w w1 w2:World} (h:Stp i n1 m1 σ g w a1 g1 w1) (k:Stp (i+n1) n2 m2 a1 g1 w1 a2 g2 w2):Stp i (n1+n2) (m2++m1) σ g w a2 g2 w2:=by
 have back:∀b∈m2,∀r z,a1 b=ah (r,z)->w.heap.size<=r\/∃I∈m2++m1,∃R,σ I=ah (r,R):=by
  intro b U r z a0;cases hs:σ b with
  |none=>
   rcases h.blk b r z hs a0 with j|⟨I,j,R,t⟩
   ·exact .inl j
   ·exact .inr ⟨I,by simp[j],R,t⟩
  |some p=>
   have:=h.sig _ _ hs;rw[a0] at this;obtain rfl:=aU this;exact .inr ⟨b,by simp[U],z,hs⟩
 refine⟨h.sig.trans k.sig,?_,h.gle.trans k.gle,?_,?_,?_,bY h.size k.size,k.os.trans h.os,k.tape.trans h.tape,k.output.trans h.output,?_⟩
 ·intro b p U
  rcases k.snew b p U with j|j
  ·rcases h.snew b p j with t|t
   ·exact .inl t
   ·right;omega
  ·right;omega
 ·intro r o v hv
  rcases k.gcnew r o v hv with j|j|⟨b,j,z,t⟩
  ·rcases h.gcnew r o v j with t|t|⟨b,t,z,J⟩
   ·exact .inl t
   ·exact .inr (.inl t)
   ·exact .inr (.inr ⟨b,by simp[t],z,J⟩)
  ·exact .inr (.inl (bY h.size j))
  ·exact .inr (back b j r z t)
 ·intro r es hv
  rcases k.gmnew r es hv with j|j
  ·exact h.gmnew r es j
  ·exact .inr (bY h.size j)
 ·intro r hr hm
  rw[k.heap r (cC hr h.size) (λb U z a0=> ?_),h.heap r hr λb U z=>hm b (by simp[U]) z];rcases back b U r z a0 with j|⟨I,j,R,t⟩
  ·omega
  ·exact hm I j R t
 ·intro b r z j t
  cases hs:a1 b with
  |none=>
   rcases k.blk b r z hs t with J|⟨I,J,R,h4⟩
   ·exact .inl (bY h.size J)
   ·exact back I J r R h4
  |some p=>
   have:=k.sig _ _ hs;rw[t] at this;obtain rfl:=aU this;rcases h.blk b r z j hs with J|⟨I,J,R,h4⟩
   ·exact .inl J
   ·exact .inr ⟨I,by simp[J],R,h4⟩
theorem Stp.weaken{i n:Nat} {m U:List Nat} {σ a0:Pl} {g R:GH} {w w1:World} (h:Stp i n m σ g w a0 R w1) (I:∀b∈m,b∈U):Stp i n U σ g w a0 R w1:=
 ⟨h.sig,h.snew,h.gle,λr o v hv=>(h.gcnew r o v hv).imp id (Or.imp id λ⟨b,j,z,t⟩=>⟨b,I b j,z,t⟩),h.gmnew,λr hr hx=>h.heap r hr λb hb=>hx b (I b hb),h.size,h.os,h.tape,h.output,λb r z j t=>(h.blk b r z j t).imp id λ⟨J,j,z',t⟩=>⟨J,I J j,z',t⟩⟩
theorem FrOk.mono{σ σ':Pl} {g j:GH} {T:Fr Y} {a:Act} (h:FrOk E σ g T a) (J:Pl.le σ σ') (I:g.le j):FrOk E σ' j T a:=λt=>(h t).mono J I
theorem FrOk.ev{σ:Pl} {g:GH} {T:Fr Y} {a:Act} (h:FrOk E σ g T a) (x:Operand):Den E σ g (ev T x) (a.eval x):=by
 cases x with
 |tmp t=>exact h t
 |const v=>exact Xm E σ g v
 |global n=>exact .val _
 |func f=>exact .fn (λ_=>undef) (λ_=>undef) rfl (λj I=>by simp at I) (λj sv I=>by simp at I) rfl (λj I=>by simp at I) (λj sv I=>by simp at I)
theorem Zaj(a:Act) (d:Option Nat) (u:Value) (t:Nat):(a.put d u).eval (.tmp t)=if d=ah t/\t<a.tmps.size then u else a.eval (.tmp t):=by
 cases d with
 |none=>simp[Act.put]
 |some d=>
  show(a.tmps.setIfInBounds d u).getD t undef=_;rw[aY,cZ];by_cases h:d=t
  ·subst h
   by_cases j:d<a.tmps.size
   ·simp[j]
   ·simp only[jP,j,jQ,Option.getD_none,and_false]
    show undef=a.tmps.getD d undef;rw[aY,iV (by omega)];rfl
  ·rw[jb h,jb (by simp[h])]
   show _=a.tmps.getD t undef;rw[aY]
theorem FrOk.put{σ:Pl} {g:GH} {T:Fr Y} {a:Act} (h:FrOk E σ g T a) {d:Nat} {sv:SV Y} {u:Value} (I:d<a.tmps.size) (J:Den E σ g sv u):FrOk E σ g (upd T d sv) (a.put (ah d) u):=by
 intro t;rw[Zaj,Zf];by_cases e:t=d
 ·subst e;rw[jh rfl,jh ⟨rfl,I⟩];exact J
 ·rw[jb e,jb (by rintro⟨j,_⟩;exact e (aU j).symm)];exact h t
theorem FrOk.skip{σ:Pl} {g:GH} {T:Fr Y} {a:Act} (h:FrOk E σ g T a) (d:Nat) (u:Value):FrOk E σ g (upd T d .unk) (a.put (ah d) u):=by
 intro t;rw[Zaj,Zf];by_cases e:t=d
 ·subst e;rw[jh rfl];exact .unk _
 ·rw[jb e,jb (by rintro⟨j,_⟩;exact e (aU j).symm)];exact h t
theorem FrOk.skipU{σ:Pl} {g:GH} {T:Fr Y} {a:Act} (h:FrOk E σ g T a) (d:Nat):FrOk E σ g (upd T d (.val undef)) (a.put (ah d) undef):=by
 intro t;rw[Zf,Zaj];by_cases e:t=d
 ·subst e
  rw[jh rfl];split
  ·exact .val _
  ·rename_i J
   have:a.eval (.tmp t)=undef:=by
    have:¬t<a.tmps.size:=λI=>J ⟨rfl,I⟩;show a.tmps.getD t undef=undef;rw[aY,iV (by omega)];rfl
   rw[this];exact .val _
 ·rw[jb e,jb (by rintro⟨j,_⟩;exact e (aU j).symm)]
  exact h t
theorem Wc{a:Act} {d:Option Nat} {u:Value}:(a.put d u).tmps.size=a.tmps.size:=by cases d<;>simp[Act.put]
theorem Xf{a:Act} {d:Option Nat} {u:Value}:(a.put d u).defers=a.defers:=by cases d<;>rfl
structure Aft(E:Eng Y) (B N i i':Nat) (ms:List Nat) (σ:Pl) (g:GH) (w:World) (df:List Deferred) (T':Fr Y) (h':Hp Y) (a':Act) (w':World):Prop where
 df:a'.defers=df
 sz:a'.tmps.size=N
 ex:∃σ' g',Stp i (i'-i) ms σ g w σ' g' w'/\Inv E B σ' h' g' w'/\FrOk E σ' g' T' a'
theorem Zcg{t:Hp Y}:∀{m:List Nat} {h:Hp Y} {k:Hp Y->Prop},Zf0 t m h k↔k (λb=>if b∈m then t b else h b)
 | [],h,k=>by simp[Zf0]
 |b::m,h,k=>by
  simp only[Zf0,Xl,Zmm]
  rw[Zcg (m:=m)]
  have:(λj=>if j∈m then t j else upd h b (t b) j)=λj=>if j∈b::m then t j else h j:=by
   funext j
   rw[Zf]
   by_cases c:j∈m
   ·rw[jh c,jh (by simp[c])]
   ·rw[jb c]
    by_cases e:j=b
    ·rw[jh e,jh (by simp[e]),e]
    ·rw[jb e,jb (by simp[c,e])]
  rw[this]
theorem Zak{t:Hp Y} {m:List Nat} {b:Nat}:∀{n i:Nat},b∈Zdq t m i n↔b∈m\/(i<=b/\b<i+n/\t b≠aD)
  |0,i=>by simp[Zdq];omega
  |n+1,i=>by
    simp only[Zdq]
    split
    ·rename_i x j
     rw[bE,Zak (n:=n)]
     constructor
     ·rintro(rfl|h|h)
      ·exact .inr ⟨aE _,by omega,by rw[j];simp⟩
      ·exact .inl h
      ·exact .inr ⟨by omega,by omega,h.2.2⟩
     ·rintro(h|h)
      ·exact .inr (.inl h)
      ·by_cases e:b=i
       ·exact .inl e
       ·exact .inr (.inr ⟨by omega,by omega,h.2.2⟩)
    ·rename_i j
     rw[Zak (n:=n)]
     constructor
     ·rintro(h|h)
      ·exact .inl h
      ·exact .inr ⟨by omega,by omega,h.2.2⟩
     ·rintro(h|h)
      ·exact .inl h
      ·refine .inr ⟨?_,by omega,h.2.2⟩
       rcases Nat.lt_or_ge i b with e|e
       ·exact e
       ·have:b=i:=by omega
        subst this
        exact jv j h.2.2
theorem Vc{r:Res Y} {h:Hp Y} {i:Nat} {ms:List Nat} {k:Hp Y->Nat->List Nat->Prop} (hD:DomLt h i) (I:Zjn r h i ms k):k (patch h i r) (i+r.n) (r.mods++ms):=by
  obtain⟨v,n,J,t,rd⟩:=r;unfold Zjn at I;simp only at I;split at I
  ·have e:patch h i ⟨v,0,J,t,rd⟩=λb=>if b∈J then t b else h b:=by
     funext j;rw[Z6];by_cases c:j∈J
     ·rw[jh (.inl c),jh c]
     ·rw[jb (by rintro(e|e); · exact c e
                ·simp at e;omega),jb c]
   split at I
   ·have a0:patch h i ⟨v,0,[],t,rd⟩=h:=by rw[e];funext j;simp
    rw[a0];exact I
   ·rw[Zcg] at I
    rw[e];exact I
  ·rw[Xl,Zcg] at I
   have:patch h i ⟨v,n,J,t,rd⟩=λb=>if b∈Zdq t J i n then t b else h b:=by
     funext j;rw[Z6];by_cases c:j∈Zdq t J i n
     ·rw[jh c]
      rw[Zak] at c
      rw[jh (by rcases c with c|c; · exact .inl c
                ·exact .inr ⟨c.1,c.2.1⟩)]
     ·rw[jb c]
      rw[Zak] at c;by_cases e:j∈J\/(i<=j/\j<i+n)
      ·rw[jh e]
       have U:i<=j/\j<i+n:=by
         rcases e with e|e
         ·exact jv (.inl e) c
         ·exact e
       have h2:t j=none:=by
         cases R:t j with
         |none=>rfl
         |some x=>exact jv (.inr ⟨U.1,U.2,by rw[R];simp⟩) c
       have h3:h j=none:=by
         cases R:h j with
         |none=>rfl
         |some x=>have:=hD j (by rw[R];simp);omega
       show t j=h j;rw[h2,h3]
      ·rw[jb e]
   rw[this];exact I
theorem Z27{N:Nat} {d:Option Nat} {r:Res Y} {T:Fr Y} {h:Hp Y} {i:Nat} {ms:List Nat} {k:Fr Y->Hp Y->Nat->List Nat->Prop} (J:DomLt h i) (j:Zl6 N d r T h i ms k):∃I,k I (patch h i r) (i+r.n) (r.mods++ms)/\
 ∀σ g a u,FrOk E σ g T a->a.tmps.size=N->Den E σ g r.v u->FrOk E σ g I (a.put d u):=by
 unfold Zl6 at j
 split at j
 ·exact⟨T,Vc J j,λσ g a u t _ _=>t⟩
 ·rename_i d
  split at j
  ·rename_i hd
   rw[Zbw] at j
   exact⟨_,Vc J j,λσ g a u t U R=>t.put (by rw[U];exact Yi hd) R⟩
  ·exact j.elim
def Z4y(E:Eng Y) (N:Nat) (all:Array Oper) (ops:List Oper) (T:Fr Y) (h:Hp Y) (i:Nat) (e:Exit) (J:Fr Y) (R:Hp Y) (t:Nat) (U:List Nat):Prop:=
 ∀(B:Nat) (σ:Pl) (g:GH) (w:World) (a:Act) (Q:Exit->Act->World->Prop),Inv E B σ h g w->B<=w.heap.size->(∀b,i<=b->b<t->σ b=aD)->FrOk E σ g T a->a.tmps.size=N->
  (∀j I,Aft E B N i t U σ g w a.defers J R j I->Q e j I)->wpList E.P all Q ops a w
theorem Zdk(hE:EngOk E) {N:Nat} {call:Nat->List (SV Y)->Hp Y->Nat->(Res Y->Prop)->Prop} (c1:∀(o:Oper) T h i k,DomLt h i->step E call o.op T h i k->∃r,k r/\OpTri2 E o T h i r) (all:List Oper):
 ∀(ops:List Oper) (T:Fr Y) (h:Hp Y) (i:Nat) (ms:List Nat) (k:Kont Y),DomLt h i->rgn E N call all ops T h i ms k->
  ∃e a1 a0 J ms',k e a1 a0 J ms'/\i<=J/\Dom h i a0 J/\(∃m,ms'=m++ms/\Yr h i J m)/\Z4y E N all.toArray ops T h i e a1 a0 J ms':=by
 intro ops
 induction ops with
 |nil=>
  intro T h i ms k hD R
  refine⟨.normal,T,h,i,ms,R,aE _,⟨hD,λb hb=> .inl hb⟩,⟨[],rfl,λb hb=>by simp at hb⟩,λB σ g w a Q hI hB _ U hN hQ=> ?_⟩
  exact hQ a w ⟨rfl,hN,σ,g,by rw[Nat.sub_self];exact(Stp.refl i σ g w).weaken (by simp),hI,U⟩
 |cons o ops ih=>
  intro T h i ms k hD R
  have run:∀(T:Fr Y),step E call o.op T h i (λa9=>Zjo N o.dst a9 T h i ms k λT h i ms=>rgn E N call all ops T h i ms k)->
   ∃e a1 a0 J ms',k e a1 a0 J ms'/\i<=J/\Dom h i a0 J/\(∃m,ms'=m++ms/\Yr h i J m)/\∀(B:Nat) (σ:Pl) (g:GH) (w:World) (a:Act) (Q:Exit->Act->World->Prop),Inv E B σ h g w->B<=w.heap.size->(∀b,i<=b->b<J->σ b=aD)->FrOk E σ g T a->a.tmps.size=N->
    (∀a' w',Aft E B N i J ms' σ g w a.defers a1 a0 a' w'->Q e a' w')->o.wp E.P a w (wpList E.P all.toArray Q ops) Q:=by
   intro T R
   obtain⟨r,R,a6⟩:=c1 o T h i _ hD R
   unfold Zjo at R
   split at R
   ·rename_i p hp
    obtain⟨hR,a6⟩:=a6.pan hp
    have R:=Vc hD R
    refine⟨_,T,_,_,_,R,by omega,⟨hD.patch hR,λb I=> ?_⟩,⟨r.mods,rfl,λb hb=> .inl (hR b hb)⟩,?_⟩
    ·rw[Z6] at I
     split at I
     ·rename_i c
      rcases c with c|c
      ·exact .inl (hR b c)
      ·exact .inr c.1
     ·exact .inl I
    intro B σ g w a Q hI hB a2 U hN hQ
    refine a6 B σ g w a _ Q hI hB a2 (λx _=>U.ev x) ?_
    rintro w' ⟨σ',g',h3,h4⟩
    exact hQ a w' ⟨rfl,hN,σ',g',by rw[show i+r.n-i=r.n by omega];exact h3.weaken (by intro b;simp;intro hb;exact .inl hb),h4,U.mono h3.sig h3.gle⟩
   rename_i c0
   obtain⟨hR,a6⟩:=a6.tri c0
   obtain⟨T1,R,b6⟩:=Z27 (E:=E) hD R
   obtain⟨e,a1,a0,J,ms',b7,c4,b3,⟨m,rfl,hM⟩,hw⟩:=ih T1 _ _ _ k (hD.patch hR) R
   have c2:∀b,patch h i r b≠aD->h b≠aD\/i<=b:=by
    intro b I
    rw[Z6] at I
    split at I
    ·rename_i c
     rcases c with c|c
     ·exact .inl (hR b c)
     ·exact .inr c.1
    ·exact .inl I
   refine⟨e,a1,a0,J,_,b7,by omega,⟨b3.1,λb hb=> ?_⟩,⟨m++r.mods,by simp,?_⟩,?_⟩
   ·rcases b3.2 b hb with c|c
    ·exact c2 b c
    ·right;omega
   ·intro b hb
    rcases dJ.1 hb with hb|hb
    ·rcases hM b hb with I|I
     ·rw[Z6] at I
      split at I
      ·rename_i c
       rcases c with c|c
       ·exact .inl (hR b c)
       ·right;omega
      ·exact .inl I
     ·right;omega
    ·exact .inl (hR b hb)
   intro B σ g w a Q hI hB a2 U hN hQ
   refine OpPost.wp (a6 B σ g w a.eval h (λ_ _=>rfl) hI hB (λb I h2=>a2 b I (by omega)) (λx _=>U.ev x)) ?_
   rintro u w1 ⟨b0,g1,hS,b5,hv⟩
   refine hw B b0 g1 w1 _ Q b5 (bY hB hS.size) ?_ (b6 b0 g1 a u (U.mono hS.sig hS.gle) hN hv) (by rw[Wc];exact hN) ?_
   ·intro b I h2
    cases hs:b0 b with
    |none=>rfl
    |some p=>
     rcases hS.snew b p hs with h3|h3
     ·rw[a2 b (by omega) h2] at h3;cases h3
     ·omega
   ·rintro a' w' ⟨I,h2,σ',g',h3,h4,h5⟩
    refine hQ a' w' ⟨by rw[I,Xf],h2,σ',g',?_,h4,h5⟩
    have:=(hS.trans (by rw[show J-(i+r.n)=J-i-r.n by omega] at h3;exact h3))
    rw[show r.n+(J-i-r.n)=J-i by omega] at this
    exact this.weaken (by intro b;simp only[dJ];rintro((h|h|h)|h)<;>simp[h])
  unfold rgn at R
  split at R
  ·rename_i hg
   obtain⟨e,a1,a0,J,ms',I,h2,a3,h3,h4⟩:=run T R
   refine⟨e,a1,a0,J,ms',I,h2,a3,h3,λB σ g w a Q hI hB a2 U hN hQ=> ?_⟩
   unfold wpList
   rw[jh (by unfold cX;rw[hg])]
   exact .inl (h4 B σ g w a Q hI hB a2 U hN hQ)
  ·rename_i j b hg
   split at R
   ·rename_i d hd
    split at R
    ·rename_i l x hT
     have R:=Yk R
     have yield:∀σ g a,FrOk E σ g T a->yielded all.toArray a.tmps j=ah x:=by
      intro σ g a U
      have I:=U d
      rw[hT] at I
      generalize hv:a.eval (.tmp d)=v at I
      cases I
      have a4:a.tmps.getD d undef= .bool x:=hv
      unfold Zf1 at hd
      split at hd
      ·rename_i oj a8
       unfold yielded
       rw[aY] at a4
       simp only[cG,a8,gT,hd]
       cases hq:a.tmps[d]? with
       |none=>rw[hq] at a4;cases a4
       |some u=>rw[hq] at a4;simp at a4;rw[a4]
      ·cases hd
     have a7:∀σ g a,FrOk E σ g T a->FrOk E σ g (upd T d (.bool af x)) a:=by
      intro σ g a U t
      rw[Zf]
      by_cases e:t=d
      ·subst e
       rw[jh rfl]
       have I:=U t
       rw[hT] at I
       generalize a.eval (.tmp t)=v at I
       cases I;exact .bool _ _
      ·rw[jb e];exact U t
     have go:x=b->step E call o.op (upd T d (.bool af x)) h i (λa9=>Zjo N o.dst a9 (upd T d (.bool af x)) h i ms k λT h i ms=>rgn E N call all ops T h i ms k)->
      ∃e a1 a0 J ms',k e a1 a0 J ms'/\i<=J/\Dom h i a0 J/\(∃m,ms'=m++ms/\Yr h i J m)/\Z4y E N all.toArray (o::ops) T h i e a1 a0 J ms':=λc3 R=>by
      obtain⟨e,a1,a0,J,ms',I,h2,a3,h3,h4⟩:=run _ R
      refine⟨e,a1,a0,J,ms',I,h2,a3,h3,λB σ g w a Q hI hB a2 U hN hQ=> ?_⟩
      unfold wpList
      rw[jh (by unfold cX;rw[hg];simp[yield σ g a U,c3])]
      exact .inl (h4 B σ g w a Q hI hB a2 (a7 σ g a U) hN hQ)
     split at R
     ·exact go rfl R
     ·exact go rfl R
     ·rename_i b8 b9
      have b4:x≠b:=by
       rintro rfl
       cases x
       ·exact b9 rfl rfl
       ·exact b8 rfl rfl
      split at R
      ·rename_i a5
       obtain⟨e,a1,a0,J,ms',I,h2,a3,h3,h4⟩:=ih _ _ _ _ k hD R
       refine⟨e,a1,a0,J,ms',I,h2,a3,h3,λB σ g w a Q hI hB a2 U hN hQ=> ?_⟩
       unfold wpList
       rw[jb (by unfold cX;rw[hg];simp[yield σ g a U,b4])]
       rw[a5]
       exact h4 B σ g w a Q hI hB a2 (a7 σ g a U) hN hQ
      ·rename_i d' a5
       obtain⟨e,a1,a0,J,ms',I,h2,a3,h3,h4⟩:=ih _ _ _ _ k hD R
       refine⟨e,a1,a0,J,ms',I,h2,a3,h3,λB σ g w a Q hI hB a2 U hN hQ=> ?_⟩
       unfold wpList
       rw[jb (by unfold cX;rw[hg];simp[yield σ g a U,b4])]
       rw[a5]
       exact h4 B σ g w _ Q hI hB a2 ((a7 σ g a U).skipU d') (by rw[Wc];exact hN) (λa' w' hA=>hQ a' w' ⟨by rw[hA.df];exact Xf,hA.sz,hA.ex⟩)
    ·rename_i u hT
     split at R
     ·exact R.elim
     rename_i hu
     have yield:∀σ g a,FrOk E σ g T a->yielded all.toArray a.tmps j=none:=by
      intro σ g a U
      have I:=U d
      rw[hT] at I
      generalize hv:a.eval (.tmp d)=v at I
      cases I
      have a4:a.tmps.getD d undef=u:=hv
      unfold Zf1 at hd
      split at hd
      ·rename_i oj a8
       unfold yielded
       rw[aY] at a4
       simp only[cG,a8,gT,hd]
       cases hq:a.tmps[d]? with
       |none=>rfl
       |some y=>
        rw[hq] at a4
        simp at a4
        subst a4
        cases y<;>first|rfl|(simp[Zzi] at hu)
      ·cases hd
     split at R
     ·rename_i a5
      obtain⟨e,a1,a0,J,ms',I,h2,a3,h3,h4⟩:=ih _ _ _ _ k hD R
      refine⟨e,a1,a0,J,ms',I,h2,a3,h3,λB σ g w a Q hI hB a2 U hN hQ=> ?_⟩
      unfold wpList
      rw[jb (by unfold cX;rw[hg];simp[yield σ g a U])]
      rw[a5]
      exact h4 B σ g w a Q hI hB a2 U hN hQ
     ·rename_i d' a5
      obtain⟨e,a1,a0,J,ms',I,h2,a3,h3,h4⟩:=ih _ _ _ _ k hD R
      refine⟨e,a1,a0,J,ms',I,h2,a3,h3,λB σ g w a Q hI hB a2 U hN hQ=> ?_⟩
      unfold wpList
      rw[jb (by unfold cX;rw[hg];simp[yield σ g a U])]
      rw[a5]
      exact h4 B σ g w _ Q hI hB a2 (U.skipU d') (by rw[Wc];exact hN) (λa' w' hA=>hQ a' w' ⟨by rw[hA.df];exact Xf,hA.sz,hA.ex⟩)
    ·exact R.elim
   ·exact R.elim
theorem Zfk{B i n:Nat} {m:List Nat} {σ σ':Pl} {g g':GH} {w w':World} {h h':Hp Y} (hI:Inv E B σ h g w) (U:Inv E B σ' h' g' w') (hS:Stp i n m σ g w σ' g' w') (hm:∀b∈m,h b≠aD) (a4:∀b,i<=b->b<i+n->σ b=aD)
 {r:Res Y} (h1:r.n=n) (h2:r.mods=m) (h3:r.h=h'):Inv E B σ' (patch h i r) g' w':=by
 subst h1;subst h2;subst h3
 have a0:∀b x,h b=ah x->b∉r.mods->∃p z,σ b=ah (p,z)/\σ' b=ah (p,z)/\BlkOk E σ g w p z x/\p<w.heap.size/\∀I∈r.mods,∀z',σ I≠ah (p,z'):=by
  intro b x j hb
  obtain⟨p,z,t,a3⟩:=hI.blk b x j
  refine⟨p,z,t,hS.sig _ _ t,a3,(hI.base _ _ _ t).2,λI a1 z' a7=> ?_⟩
  exact hb (hI.inj _ _ _ _ _ (by rw[j];simp) (hm I a1) t a7▸a1)
 refine⟨U.gc,U.gm,?_,?_,U.base,?_,?_,U.glob⟩
 ·intro b x j
  rw[Z6] at j
  split at j
  ·exact U.blk b x j
  ·rename_i c
   obtain⟨p,z,k1,J,k3,k4,k5⟩:=a0 b x j (λe=>c (.inl e))
   exact⟨p,z,J,k3.mono hS.sig hS.gle (hS.heap p k4 λI a1 z'=>k5 I a1 z')⟩
 ·intro b1 b2 p z1 z2 q1 q2 s1 s2
  rw[Z6] at q1 q2
  have a2:∀b1 b2 z1 z2,(b1∈r.mods\/(i<=b1/\b1<i+r.n))->¬(b2∈r.mods\/(i<=b2/\b2<i+r.n))->h b2≠aD->σ' b1=ah (p,z1)->σ' b2=ah (p,z2)->False:=by
   intro b1 b2 z1 z2 R c2 q2 s1 s2
   obtain⟨x,j⟩:=bt.1 q2
   obtain⟨p',z',k1,J,k3,k4,k5⟩:=a0 b2 x j (λe=>c2 (.inl e))
   rw[J] at s2;cases s2
   cases hq:σ b1 with
   |some pq=>
    have:=hS.sig _ _ hq
    rw[s1] at this
    obtain rfl:=aU this
    rcases R with R|R
    ·exact k5 b1 R _ hq
    ·rw[a4 b1 R.1 R.2] at hq;cases hq
   |none=>
    rcases hS.blk b1 p z1 hq s1 with e|⟨I,e1,a8,e2⟩
    ·omega
    ·exact k5 I e1 _ e2
  split at q1<;>split at q2
  ·exact U.inj _ _ _ _ _ q1 q2 s1 s2
  ·exact(a2 b1 b2 z1 z2 ‹_› ‹_› q2 s1 s2).elim
  ·exact(a2 b2 b1 z2 z1 ‹_› ‹_› q1 s2 s1).elim
  ·rename_i R c2
   obtain⟨x1,a5⟩:=bt.1 q1
   obtain⟨x2,a6⟩:=bt.1 q2
   obtain⟨p1,y1,k1,J,_⟩:=a0 b1 x1 a5 (λe=>R (.inl e))
   obtain⟨p2,y2,l1,l2,_⟩:=a0 b2 x2 a6 (λe=>c2 (.inl e))
   rw[J] at s1;cases s1
   rw[l2] at s2;cases s2
   exact hI.inj _ _ _ _ _ q1 q2 k1 l1
 ·intro b x p z o v j t hv
  rw[Z6] at j
  split at j
  ·exact U.fz b x p z o v j t hv
  ·rename_i c
   obtain⟨p',z',k1,J,k3,k4,k5⟩:=a0 b x j (λe=>c (.inl e))
   rw[J] at t;cases t
   rcases hS.gcnew _ _ _ hv with e|e|⟨I,e1,a8,e2⟩
   ·exact hI.fz b x p z o v j k1 e
   ·omega
   ·exact(k5 I e1 _ e2).elim
 ·intro b x p z j t
  rw[Z6] at j
  split at j
  ·exact U.fm b x p z j t
  ·rename_i c
   obtain⟨p',z',k1,J,k3,k4,k5⟩:=a0 b x j (λe=>c (.inl e))
   rw[J] at t;cases t
   cases hq:g'.obj p with
   |none=>rfl
   |some es=>
    rcases hS.gmnew _ _ hq with e|e
    ·rw[hI.fm b x p z j k1] at e;cases e
    ·omega
end
end
section
open Go.RowKit
section
variable {Y:Thy} {E:Eng Y}
def Wr(d:DR Y) (b:Nat):Prop:=b∈d.r.mods\/(d.i<=b/\b<d.i+d.r.n)
def memD:List (DR Y)->(Nat->Bool)->Hp Y->Hp Y
 | [],_,h=>h
 |d::j,D,h=>memD j (λm=>D (m+1)) (bif D 0 then patch h d.i d.r else h)
def tD:List Oper->List (DR Y)->(Nat->Bool)->Fr Y->Fr Y
 |o::os,d::j,D,T=>tD os j (λm=>D (m+1)) (bif D 0 then updO T o.dst d.r.v else T)
 |_,_,_,T=>T
theorem Zby{h:Hp Y} {d:DR Y} {b:Nat} (j:¬Wr d b):patch h d.i d.r b=h b:=by rw[Z6];exact jb j
theorem Zd6{h:Hp Y} {d:DR Y} {b:Nat} (j:Wr d b):patch h d.i d.r b=d.r.h b:=by rw[Z6];exact jh j
theorem U9:∀(I:List (DR Y)) (D t:Nat->Bool) (h j:Hp Y) (b:Nat),(∀m d,I[m]? =ah d->Wr d b->D m=t m)->h b=j b->memD I D h b=memD I t j b:=by
 intro I
 induction I with
 |nil=>intro D t h j b _ R;exact R
 |cons d I ih=>
  intro D t h j b U R;refine ih _ _ _ _ b (λm d' hm=>U (m+1) d' (by simpa using hm)) ?_;by_cases J:Wr d b
  ·have:=U 0 d rfl J
   rw[<-this];cases D 0
   ·exact R
   ·simp only[cond_true];rw[Zd6 J,Zd6 J]
  ·have e1:(bif D 0 then patch h d.i d.r else h) b=h b:=by cases D 0<;>simp[Zby J]
   have e2:(bif t 0 then patch j d.i d.r else j) b=j b:=by cases t 0<;>simp[Zby J]
   rw[e1,e2,R]
theorem Zcw(j:List (DR Y)) (h:Hp Y):memD j (λ_=>ae) h=h:=by
 induction j generalizing h with
 |nil=>rfl
 |cons d j ih=>simp only[memD];exact ih h
theorem Z0v(b:Nat):∀(j:List (DR Y)) (D:Nat->Bool) (h:Hp Y) (m:Nat) (d:DR Y),j[m]? =ah d->D m=ae->(Wr d b->∀I J,m<I->j[I]? =ah J->Wr J b->D I=ae)->
 memD j (λx=>if x=m then af else D x) h b=patch (memD j D h) d.i d.r b:=by
 intro j
 induction j with
 |nil=>intro D h m d U;simp at U
 |cons R j ih=>
  intro D h m d U a2 a3
  cases m with
  |zero=>
   obtain rfl:R=d:=by simpa using U
   simp only[memD]
   have e:(λm=>if m+1=0 then af else D (m+1))=λm=>D (m+1):=by funext m;simp
   rw[e,a2]
   simp only[jP,cond_true,cond_false]
   by_cases t:Wr R b
   ·rw[Zd6 t]
    have hl:=a3 t
    rw[U9 j _ (λ_=>ae) _ (patch h R.i R.r) b (λI J a0 a1=>hl (I+1) J (by omega) (by simpa using a0) a1) rfl,Zcw,Zd6 t]
   ·rw[Zby t]
    exact U9 j _ _ _ _ b (λ_ _ _ _=>rfl) (Zby t)
  |succ m=>
   simp only[memD]
   have e:(λx=>if x+1=m+1 then af else D (x+1))=λx=>if x=m then af else(λy=>D (y+1)) x:=by funext x;simp
   rw[e,show(if(0:Nat)=m+1 then af else D 0)=D 0 from jb (by omega)]
   exact ih (λy=>D (y+1)) _ m d (by simpa using U) a2 λt I J a4 a0 a1=>a3 t (I+1) J (by omega) (by simpa using a0) a1
theorem Y6(T:Fr Y) (d:Option Nat) (v:SV Y) (t:Nat):updO T d v t=if d=ah t then v else T t:=by
 cases d with
 |none=>simp[updO]
 |some d=>
  simp only[updO,Zf,cF];by_cases e:t=d
  ·subst e;simp
  ·rw[jb e,jb (λh=>e h.symm)]
theorem Zbz:∀(os:List Oper) (I:List (DR Y)) (D J:Nat->Bool) (T j:Fr Y) (t:Nat),(∀m o,os[m]? =ah o->o.dst=ah t->D m=J m)->T t=j t->tD os I D T t=tD os I J j t:=by
 intro os
 induction os with
 |nil=>intro I D J T j t _ ht;simpa[tD] using ht
 |cons o os ih=>
  intro I D J T j t U ht;cases I with
  |nil=>simpa[tD] using ht
  |cons d I=>
   refine ih I _ _ _ _ t (λm o' hm=>U (m+1) o' (by simpa using hm)) ?_;by_cases R:o.dst=ah t
   ·have:=U 0 o rfl R
    rw[<-this];cases D 0
    ·exact ht
    ·simp only[cond_true];rw[Y6,Y6,jh R,jh R]
   ·have e1:(bif D 0 then updO T o.dst d.r.v else T) t=T t:=by cases D 0<;>simp[Y6,R]
    have e2:(bif J 0 then updO j o.dst d.r.v else j) t=j t:=by cases J 0<;>simp[Y6,R]
    rw[e1,e2,ht]
theorem Zb0(os:List Oper) (j:List (DR Y)) (T:Fr Y):tD os j (λ_=>ae) T=T:=by
 induction os generalizing j with
 |nil=>simp[tD]
 |cons o os ih=>cases j with
  |nil=>simp[tD]
  |cons d j=>simp only[tD];exact ih j
theorem Z4a(t:Nat):∀(os:List Oper) (j:List (DR Y)) (D:Nat->Bool) (T:Fr Y) (m:Nat) (o:Oper) (d:DR Y),os[m]? =ah o->j[m]? =ah d->D m=ae->(o.dst=ah t->∀J R,m<J->os[J]? =ah R->R.dst=ah t->D J=ae)->
 tD os j (λx=>if x=m then af else D x) T t=updO (tD os j D T) o.dst d.r.v t:=by
 intro os
 induction os with
 |nil=>intro j D T m o d U;simp at U
 |cons o0 os ih=>
  intro j D T m o d U a1 a3 a4
  cases j with
  |nil=>simp at a1
  |cons d0 j=>
   cases m with
   |zero=>
    obtain rfl:o0=o:=by simpa using U
    obtain rfl:d0=d:=by simpa using a1
    simp only[tD]
    have e:(λm=>if m+1=0 then af else D (m+1))=λm=>D (m+1):=by funext m;simp
    rw[e,a3]
    simp only[jP,cond_true,cond_false]
    by_cases I:o0.dst=ah t
    ·rw[Y6,jh I]
     have hl:=a4 I
     rw[Zbz os j _ (λ_=>ae) _ (updO T o0.dst d0.r.v) t (λJ R a0 a2=>hl (J+1) R (by omega) (by simpa using a0) a2) rfl,Zb0,Y6,jh I]
    ·rw[Y6,jb I]
     exact Zbz os j _ _ _ _ t (λ_ _ _ _=>rfl) (by rw[Y6,jb I])
   |succ m=>
    simp only[tD]
    have e:(λx=>if x+1=m+1 then af else D (x+1))=λx=>if x=m then af else(λy=>D (y+1)) x:=by funext x;simp
    rw[e,show(if(0:Nat)=m+1 then af else D 0)=D 0 from jb (by omega)]
    exact ih j (λy=>D (y+1)) _ m o d (by simpa using U) (by simpa using a1) a3 λI J R a5 a0 a2=>a4 I (J+1) R (by omega) (by simpa using a0) a2
def Zht(E:Eng Y) (all:List Oper) (o:Oper) (T:Fr Y) (view:Hp Y) (d:DR Y):Prop:=
 match o.guard with
 |none=>OpTri E o T view d.i d.r
 |some (g,b)=>∃s,Zf1 all g=ah s/\((∃l x,T s= .bool l x/\x=b/\OpTri E o T view d.i d.r)\/(((∃l x,T s= .bool l x/\x≠b)\/∃u,T s= .val u/\Zzi u=ae)/\(d.r=quiet [] .unk\/d.r=quiet [] (.val undef))))
def POk(E:Eng Y) (all:List Oper) (t:List Nat):List Oper->Nat->Fr Y->Hp Y->Nat->List (Nat×DR Y)->List (DR Y)->Prop
 | [],_,_,_,_,_,[]=>True
 |o::os,j,T,h,i,prev,d::I=>(d.i=i/\DomLt h i/\ROk h d.r/\W6 d (Xq (nthN t j) prev)=af/\Zht E all o T (W7 h (Xq (nthN t j) prev)) d)/\
  POk E all t os (j+1) (updO T o.dst d.r.v) (patch h i d.r) (i+d.r.n) ((j,d)::prev) I
 |_,_,_,_,_,_,_=>False
theorem Zer{h:Hp Y} {un:List (DR Y)} {b:Nat} {x:Blk Y} (t:W7 h un b=ah x):h b=ah x/\∀d∈un,¬(d.i<=b/\b<d.i+d.r.n):=by
 have any:∀l:List (DR Y),Zl7 b l=ae->∀d∈l,¬(d.i<=b/\b<d.i+d.r.n):=by
  intro l
  induction l with
  |nil=>intro _ d j;simp at j
  |cons U l ih=>
   intro I d j;simp only[Zl7,Bool.or_eq_false_iff] at I;rcases bE.1 j with rfl|j
   ·intro c
    have:d.new b=true:=inNew_iff.2 c;rw[this] at I;cases I.1
   ·exact ih I.2 d j
 have mem:∀l:List (DR Y),∀d∈l,d∈U5 l\/d.r.n=0:=by
  intro l
  induction l with
  |nil=>intro d j;simp at j
  |cons U l ih=>
   intro d j;simp only[U5];split
   ·rename_i h0
    rcases bE.1 j with rfl|j
    ·exact .inr h0
    ·exact ih d j
   ·rcases bE.1 j with rfl|j
    ·exact .inl (by simp)
    ·exact(ih d j).imp (λh=>by simp[h]) id
 unfold W7 at t;cases R:U5 un with
 |nil=>
  rw[R] at t;refine⟨t,λd j c=> ?_⟩;rcases mem un d j with J|J
  ·rw[R] at J;simp at J
  ·omega
 |cons q qs=>
  rw[R] at t;simp only at t;cases I:Zl7 b (q::qs) with
  |true=>rw[I] at t;cases t
  |false=>
   rw[I] at t;refine⟨t,λd j c=> ?_⟩;rcases mem un d j with J|J
   ·rw[R] at J;exact any _ I d J c
   ·omega
theorem Zb1(i:Nat) (un:List (DR Y)) {v:SV Y}:W6 (⟨i,quiet [] v⟩:DR Y) un=true:=by
 induction un with
 |nil=>rfl
 |cons d un ih=>
  simp only[W6,ih,Bool.and_true];have t:∀l,disj l ([]:List Nat)=true:=by
   intro l
   induction l with
   |nil=>rfl
   |cons x l ih=>simp[disj,memB,ih]
  have I:∀l,Za1 (⟨i,quiet [] v⟩:DR Y) l=true:=by
   intro l
   induction l with
   |nil=>rfl
   |cons x l ih=>
    have:(⟨i,quiet [] v⟩:DR Y).new x=false:=by
     simp only[DR.new,quiet,dP];rw[aX,<-bv,bx,<-bv,aZ,bx];omega
    simp[Za1,ih,this]
  cases j:d.r.rd with
  |none=>simp[Zf2,quiet,t,Za1,j,Zt1]
  |some l=>
   have:=I l;simp only[quiet] at this;simp[Zf2,quiet,t,Za1,j,disj,this]
def msD:List (DR Y)->List Nat->List Nat
 | [],ms=>ms
 |d::j,ms=>msD j (d.r.mods++ms)
def iD:List (DR Y)->Nat->Nat
 | [],i=>i
 |d::j,i=>iD j (i+d.r.n)
theorem Z5o{N:Nat} {d:Option Nat} {r:Res Y} {T:Fr Y} {h:Hp Y} {i:Nat} {ms:List Nat} {k:Fr Y->Hp Y->Nat->List Nat->Prop} (I:DomLt h i) (j:keep N d r T h i ms k):k (updO T d r.v) (patch h i r) (i+r.n) (r.mods++ms)/\(∀x,d=ah x->x<N)/\Zc9 r.v=none:=by
 unfold keep at j;split at j
 ·exact j.elim
 rename_i J;unfold Zl6 at j;split at j
 ·exact⟨Vc I j,(λx t=>by cases t),J⟩
 ·split at j
  ·rename_i R
   rw[Zbw] at j;exact⟨Vc I j,(λx t=>by cases t;exact Yi R),J⟩
  ·exact j.elim
def FrB(j T:Fr Y):Prop:=∀s,j s=T s\/∃l x,T s= .bool l x/\j s= .bool af x
theorem FrB.refl(T:Fr Y):FrB T T:=λs=> .inl rfl
theorem FrB.updO{j T:Fr Y} (h:FrB j T) (d:Option Nat) (v:SV Y):FrB (updO j d v) (updO T d v):=by
 intro s;cases d with
 |none=>exact h s
 |some d=>
  show upd j d v s=upd T d v s\/∃l x,upd T d v s= .bool l x/\upd j d v s= .bool af x;rw[Zf,Zf];by_cases e:s=d
  ·rw[jh e,jh e];exact .inl rfl
  ·rw[jb e,jb e];exact h s
theorem FrB.bool{t T:Fr Y} (h:FrB t T) {d:Nat} {l x:Bool} (J:t d= .bool l x):∃j,T d= .bool j x:=by
 rcases h d with e|⟨j,U,R,I⟩
 ·exact⟨l,e▸J⟩
 ·rw[J] at I;cases I;exact⟨j,R⟩
theorem FrB.fix{j T:Fr Y} (h:FrB j T) {d:Nat} {l x:Bool} (I:j d= .bool l x):FrB (upd j d (.bool af x)) T:=by
 intro s;rw[Zf];by_cases e:s=d
 ·rw[jh e]
  obtain⟨J,t⟩:=h.bool I;exact .inr ⟨J,x,by rw[e];exact t,rfl⟩
 ·rw[jb e];exact h s
theorem FrB.den{t T:Fr Y} (h:FrB t T) {σ:Pl} {g:GH} {s:Nat} {u:Value} (j:Den E σ g (T s) u):Den E σ g (t s) u:=by
 rcases h s with e|⟨l,x,I,J⟩
 ·rw[e];exact j
 ·rw[I] at j;rw[J];cases j;exact .bool _ _
theorem FrB.tri{j T:Fr Y} (h:FrB j T) {o:Oper} {t:Hp Y} {i:Nat} {r:Res Y} (ht:OpTri E o j t i r):OpTri E o T t i r:=by
 refine⟨ht.1,λB σ g w ρ hp I J R U h5=>ht.2 B σ g w ρ hp I J R U λx hx=> ?_⟩;have:=h5 x hx;cases x with
 |tmp s=>exact h.den this
 |_=>exact this
theorem Aft.frB{B N i U:Nat} {ms:List Nat} {σ:Pl} {g:GH} {w:World} {J:List Deferred} {T j:Fr Y} {R:Hp Y} {I:Act} {w':World} (hA:Aft E B N i U ms σ g w J T R I w') (h:FrB j T):Aft E B N i U ms σ g w J j R I w':=by
 obtain⟨h1,h2,σ',a0,h3,h4,h5⟩:=hA;exact⟨h1,h2,σ',a0,h3,h4,λt=>h.den (h5 t)⟩
def PanF(E:Eng Y) (o:Oper) (T:Fr Y) (h:Hp Y) (i:Nat) (r:Res Y) (p:Value):Prop:=
 ∀(B:Nat) (σ:Pl) (g:GH) (w:World) (a:Act) (K:Act->World->Prop) (Q:Exit->Act->World->Prop),Inv E B σ h g w->B<=w.heap.size->(∀b,i<=b->b<i+r.n->σ b=aD)->
  (∀x∈o.op.operands.toList,Den E σ g (ev T x) (a.eval x))->(∀j,(∃σ' t,Stp i r.n r.mods σ g w σ' t j/\Inv E B σ' (patch h i r) t j)->Q (.panic [{v:=p,recovered:=false}]) a j)->o.wp E.P a w K Q
def QOk(E:Eng Y) (N:Nat) (h:Hp Y) (i:Nat) (I:List Nat) (t:Nat) (J:Res Y) (p:Value):List Oper->Nat->Fr Y->List (DR Y)->Prop
 | [],_,_,[]=>True
 |o::os,j,T,d::R=>((j=t->PanF E o T h i J p)/\(j≠t->bitB (nthN I j) t=ae->d.r.n=0/\d.r.mods= []/\OpTri E o T h i d.r/\∀x,o.dst=ah x->x<N))/\QOk E N h i I t J p os (j+1) (updO T o.dst d.r.v) R
 |_,_,_,_=>False
theorem Z0w{N:Nat} {d:Option Nat} (h:Z85 N d=af):∀x,d=ah x->x<N:=by
 rintro x rfl;exact Yi h
theorem Zpn{l:List Nat} (h:Zt1 l=af):l= []:=by cases l<;>first|rfl|cases h
theorem Z5p{N:Nat} {call:Nat->List (SV Y)->Hp Y->Nat->(Res Y->Prop)->Prop} (a2:∀(o:Oper) T h i k,DomLt h i->step E call o.op T h i k->∃r,k r/\OpTri2 E o T h i r) {h:Hp Y} {i:Nat} (hD:DomLt h i) {a1:List Nat} {U:Nat} {rp:Res Y} {p:Value} {K:Prop}:
 ∀(os:List Oper) (j:Nat) (T:Fr Y),U<j->rgnX E N call a1 U os j T h i K->∃ds,K/\QOk E N h i a1 U rp p os j T ds:=by
 intro os
 induction os with
 |nil=>intro j T _ t;exact⟨[],t,js⟩
 |cons o os ih=>
  intro j T hj t
  unfold rgnX at t
  split at t
  ·rename_i hb
   obtain⟨ds,I,R⟩:=ih (j+1) _ (by omega) t
   refine⟨⟨i,quiet [] .unk⟩::ds,I,⟨⟨λe=>by omega,λ_ a0=> ?_⟩,R⟩⟩
   rw[hb] at a0;cases a0
  ·obtain⟨r,t,a3⟩:=a2 o T h i _ hD t
   split at t
   ·rename_i hn J hp
    rw[Zbw] at t
    rw[az] at J
    obtain⟨ds,I,R⟩:=ih (j+1) _ (by omega) t
    exact⟨⟨i,r⟩::ds,I,⟨⟨λe=>by omega,λ_ _=>⟨hn,Zpn J.1,a3.tri hp,Z0w J.2⟩⟩,R⟩⟩
   ·exact t.elim
theorem Za9{m:Nat}:∀{prev:List (Nat×DR Y)},Zgh prev=af->U5 (Xq m prev)= []
 | [],_=>rfl
 |(j,d)::prev,h=>by
  simp only[Zgh,az] at h
  have ih:=Za9 (m:=m) h.2
  unfold Xq
  split
  ·exact ih
  ·unfold U5
   have t:=h.1
   split at t
   ·rename_i e
    first|exact ih|(rw[e];exact ih)
   ·cases t
theorem Zrv{j:Nat} {d:DR Y} {prev:List (Nat×DR Y)} (h:Zgh ((j,d)::prev)=af):d.r.n=0/\d.r.mods= []/\Zgh prev=true:=by
 simp only[Zgh,az] at h;have t:=h.1;split at t
 ·rename_i e
  exact⟨e,Zpn t,h.2⟩
 ·cases t
theorem FrB.pan{j T:Fr Y} (h:FrB j T) {o:Oper} {t:Hp Y} {i:Nat} {r:Res Y} {p:Value} (ht:PanF E o j t i r p):PanF E o T t i r p:=by
 refineλB σ g w a K Q I J R U=>ht B σ g w a K Q I J R λx hx=> ?_;have:=U x hx;cases x with
 |tmp s=>exact h.den this
 |_=>exact this
theorem Z4b{t:Nat} {D:List Nat} (ht:t∉D):∀{os:List Oper} {j:List (DR Y)} {L:Nat->Bool} {T:Fr Y},(∀o∈os,∀d,o.dst=ah d->d∈D)->tD os j L T t=T t
 | [],j,L,T,_=>by simp[tD]
 |o::os,[],L,T,_=>by simp[tD]
 |o::os,d::j,L,T,I=>by
  simp only[tD]
  rw[Z4b ht λR J=>I R (cx _ J)]
  cases L 0
  ·rfl
  ·simp only[cond_true]
   rw[Y6,jb]
   intro e
   exact ht (I o (by simp) t e)
def OffEq(D:List Nat) (T j:Fr Y):Prop:=∀t,t∉D->j t=T t
theorem OffEq.updO{D:List Nat} {T j:Fr Y} (h:OffEq D T j) {d:Option Nat} {v:SV Y} (I:∀x,d=ah x->x∈D):OffEq D T (updO j d v):=by
 intro t ht;rw[Y6,jb (λe=>ht (I t e))];exact h t ht
theorem OffEq.upd{D:List Nat} {T j:Fr Y} (h:OffEq D T j) {d:Nat} {v:SV Y} (I:d∈D):OffEq D T (upd j d v):=by
 intro t ht;have J:t≠d:=λe=>ht (by rw[e];exact I);rw[Zf,jb J];exact h t ht
theorem Zd7:∀{ops:List Oper} {o:Oper} {d:Nat},o∈ops->o.dst=ah d->d∈Yf ops
 | [],o,d,h,_=>by cases h
 |x::r,o,d,h,e=>by
  unfold Yf
  rcases bE.1 h with rfl|h
  ·rw[e];simp
  ·have:=Zd7 h e
   split
   ·exact cx _ this
   ·exact this
theorem Zaa{T:Fr Y} {j:Nat}:∀{D:List Nat},Wn D T j=if j∈D then .unk else T j
 | []=>by simp[Wn]
 |d::r=>by
  unfold Wn
  rw[Zf,Zaa]
  by_cases h:j=d
  ·simp[h]
  ·simp[h]
theorem Z0x{D:List Nat} {T j:Fr Y} (h:OffEq D T j):Wn D j=Wn D T:=by
 funext t;rw[Zaa,Zaa];split
 ·rfl
 ·exact h t (by assumption)
theorem Zu5{N:Nat} {h:Hp Y} {i:Nat} {a0:List Nat} {U:Nat} {rp:Res Y} {p:Value}:∀{os:List Oper} {j:Nat} {t T:Fr Y} {I:List (DR Y)},FrB t T->QOk E N h i a0 U rp p os j t I->QOk E N h i a0 U rp p os j T I
 | [],_,_,_,[],_,_=>js
 | [],_,_,_,_::_,_,R=>R.elim
 |_::_,_,_,_,[],_,R=>R.elim
 |o::os,j,t,T,d::I,J,⟨⟨h1,h2⟩,h3⟩=>
  ⟨⟨λe=>J.pan (h1 e),λe hb=>let⟨a,b,c,d⟩:=h2 e hb;⟨a,b,J.tri c,d⟩⟩,Zu5 (J.updO _ _) h3⟩
theorem Zrw{all:List Oper} {j d:Nat} (h:Zf1 all j=ah d):d∈Yf all:=by
 unfold Zf1 at h;split at h
 ·rename_i o t
  exact Zd7 (cp t) h
 ·cases h
theorem Zmr{o:Oper} (t:o.guard≠aD):∀{all:List Oper},o∈all->¬noG all=af
 | [],h=>by cases h
 |x::r,h=>by
  intro j
  simp only[noG,az] at j
  rcases bE.1 h with rfl|h
  ·cases I:o.guard with
   |none=>exact t I
   |some _=>rw[I] at j;cases j.1
  ·exact Zmr t h j.2
theorem Zpo(N:Nat) (d:Option Nat):(X7 N d:SV Y)= .unk\/(X7 N d:SV Y)= .val undef:=by
 unfold X7;split
 ·exact .inr rfl
 ·exact .inl rfl
theorem Zpp{N:Nat} {d:Option Nat} (h:(X7 N d:SV Y)≠ .unk) {x:Nat} (j:d=ah x):x<N:=by
 unfold X7 at h;split at h
 ·rename_i q
  subst j;exact gA q
 ·exact jv rfl h
theorem FrB.val{j T:Fr Y} (h:FrB j T) {d:Nat} {u:Value} (I:j d= .val u):T d= .val u:=by
 rcases h d with e|⟨R,U,J,t⟩
 ·exact e▸I
 ·rw[I] at t;cases t
theorem Zj4{N : Nat} {call : Nat → List (SV Y) → Hp Y → Nat → (Res Y → Prop) → Prop} (b3 : ∀ (o : Oper) T h i k, DomLt h i → step E call o.op T h i k → ∃ r, k r ∧ OpTri2 E o T h i r) (all : List Oper) (R : List Nat) :
    ∀ (os : List Oper) (j : Nat) (J T : Fr Y) (h : Hp Y) (i : Nat) (ms : List Nat) (prev : List (Nat × DR Y)) (k : Kont Y) (T0 : Fr Y), (∀ o ∈ os, o ∈ all) → OffEq (Yf all) T0 J → FrB J T → DomLt h i → rgnD E N call all R os j J h i ms prev k →
      (∃ t a0, FrB a0 (tD os t (λ_ => af) T) ∧ POk E all R os j T h i prev t ∧ k .normal a0 (memD t (λ_ => af) h) (iD t i) (msD t ms) ∧ (∀ (m : Nat) (o : Oper) (d : DR Y), os[m]? = ah o → t[m]? = ah d → d.r.v ≠ .unk → ∀ x, o.dst = ah x → x < N)) ∨
      (∃ j0 t rp p, j ≤ j0 ∧ j0 < j + os.length ∧ noG all = af ∧ Zgh prev = af ∧ ROk h rp ∧ QOk E N h i R j0 rp p os j T t ∧ k (.panic [{ v := p, recovered := false }]) (Wn (Yf all) T0) (patch h i rp) (i + rp.n) (rp.mods ++ ms)) := by
  intro os
  induction os with
  | nil => intro j J T h i ms prev k T0 _ _ U hD I; exact .inl ⟨[], J, U, js, I, λm o d h => by simp at h⟩
  | cons o os ih =>
    intro j J T h i ms prev k T0 a7 a2 U hD I
    have a8 : ∀ o' ∈ os, o' ∈ all := λo' c1 => a7 o' (cx _ c1)
    have a9 : ∀ x, o.dst = ah x → x ∈ Yf all := λx hx => Zd7 (a7 o (by simp)) hx
    have b4 : DomLt (W7 h (Xq (nthN R j) prev)) i := by
      intro b hb
      obtain⟨x, hx⟩ := bt.1 hb
      exact hD b (by rw[(Zer hx).1]; simp)
    have tail : ∀ (J : Fr Y) (a3 : Res Y), OffEq (Yf all) T0 J → FrB J T → OpTri2 E o J (W7 h (Xq (nthN R j) prev)) i a3 → (∀ d, OpTri E o T (W7 h (Xq (nthN R j) prev)) d.i d.r → Zht E all o T (W7 h (Xq (nthN R j) prev)) d) →
        (match W6 ⟨i, a3⟩ (Xq (nthN R j) prev) with
            | true => keep N o.dst a3 J h i ms λT h i' ms => rgnD E N call all R os (j + 1) T h i' ms ((j, ⟨i, a3⟩) :: prev) k
            | false => False) →
        (∃ t a0, FrB a0 (tD (o :: os) t (λ_ => af) T) ∧ POk E all R (o :: os) j T h i prev t ∧ k .normal a0 (memD t (λ_ => af) h) (iD t i) (msD t ms) ∧ (∀ (m : Nat) (o' : Oper) (d : DR Y), (o :: os)[m]? = ah o' → t[m]? = ah d → d.r.v ≠ .unk → ∀ x, o'.dst = ah x → x < N)) ∨
        (∃ j0 t rp p, j ≤ j0 ∧ j0 < j + (o :: os).length ∧ noG all = af ∧ Zgh prev = af ∧ ROk h rp ∧ QOk E N h i R j0 rp p (o :: os) j T t ∧ k (.panic [{ v := p, recovered := false }]) (Wn (Yf all) T0) (patch h i rp) (i + rp.n) (rp.mods ++ ms)) := by
      intro J r a2 U a1 a4 I
      split at I
      ·rename_i b9
       obtain⟨I, b7, c0⟩ := Z5o hD I
       have a1 := U.tri (a1.tri c0)
       have hR : ROk h r := λb hb => by
         obtain⟨x, hx⟩ := bt.1 (a1.1 b hb)
         rw[(Zer hx).1]; simp
       rcases ih (j + 1) _ (updO T o.dst r.v) _ _ _ _ k T0 a8 (a2.updO a9) (U.updO _ _) (hD.patch hR) I with⟨t, a0, h0, h1, h2, h3⟩ | ⟨j0, t, rp, p, g1, b5, g2, g3, g4, g5, g6⟩
       ·refine .inl ⟨⟨i, r⟩ :: t, a0, h0, ⟨⟨rfl, hD, hR, b9, a4 ⟨i, r⟩ a1⟩, h1⟩, h2, λm o' d hm hd hv x hx => ?_⟩
        cases m with
        | zero => obtain rfl : o = o' := by simpa using hm
                  exact b7 x hx
        | succ m => exact h3 m o' d (by simpa using hm) (by simpa using hd) hv x hx
       ·obtain⟨q1, q2, q3⟩ := Zrv g3
        have q1 : r.n = 0 := q1
        have q2 : r.mods = [] := q2
        have b0 : patch h i r = h := by
          funext b
          rw[Z6, jb]
          rw[q1, q2]
          rintro(e | e)
          ·simp at e
          ·omega
        rw[b0] at g4
        rw[b0, q1, dP] at g5
        rw[b0, q1, q2, dP] at g6
        have hv : W7 h (Xq (nthN R j) prev) = h := by unfold W7; rw[Za9 q3]
        rw[hv] at a1
        exact .inr ⟨j0, ⟨i, r⟩ :: t, rp, p, by omega, by simp only[aT]; omega, g2, q3, g4, ⟨⟨λe => by omega, λ_ _ => ⟨q1, q2, a1, b7⟩⟩, g5⟩, g6⟩
      ·exact I.elim
    have run : ∀ (J : Fr Y), OffEq (Yf all) T0 J → FrB J T → (∀ d, OpTri E o T (W7 h (Xq (nthN R j) prev)) d.i d.r → Zht E all o T (W7 h (Xq (nthN R j) prev)) d) →
        step E call o.op J (W7 h (Xq (nthN R j) prev)) i (λa3 => (match W6 ⟨i, a3⟩ (Xq (nthN R j) prev) with
            | true => keep N o.dst a3 J h i ms λT h i' ms => rgnD E N call all R os (j + 1) T h i' ms ((j, ⟨i, a3⟩) :: prev) k
            | false => False)) →
        (∃ t a0, FrB a0 (tD (o :: os) t (λ_ => af) T) ∧ POk E all R (o :: os) j T h i prev t ∧ k .normal a0 (memD t (λ_ => af) h) (iD t i) (msD t ms) ∧ (∀ (m : Nat) (o' : Oper) (d : DR Y), (o :: os)[m]? = ah o' → t[m]? = ah d → d.r.v ≠ .unk → ∀ x, o'.dst = ah x → x < N)) ∨
        (∃ j0 t rp p, j ≤ j0 ∧ j0 < j + (o :: os).length ∧ noG all = af ∧ Zgh prev = af ∧ ROk h rp ∧ QOk E N h i R j0 rp p (o :: os) j T t ∧ k (.panic [{ v := p, recovered := false }]) (Wn (Yf all) T0) (patch h i rp) (i + rp.n) (rp.mods ++ ms)) := λJ a2 U a4 I => by
      obtain⟨r, I, a1⟩ := b3 o J _ i _ b4 I
      exact tail J r a2 U a1 a4 I
    unfold rgnD at I
    split at I
    ·rename_i hg
     obtain⟨r, I, a1⟩ := b3 o J _ i _ b4 I
     split at I
     ·rename_i p hp
      split at I
      ·rename_i hq
       rw[az] at hq
       have hv : W7 h (Xq (nthN R j) prev) = h := by unfold W7; rw[Za9 hq.2]
       rw[hv] at a1
       obtain⟨hR, c2⟩ := a1.pan hp
       obtain⟨t, hK, c3⟩ := Z5p (rp := r) (p := p) b3 hD os (j + 1) (updO J o.dst .unk) (fx j) I
       have hK := Vc hD hK
       rw[Z0x a2] at hK
       exact .inr ⟨j, ⟨i, quiet [] .unk⟩ :: t, r, p, aE _, by simp only[aT]; omega, hq.1, hq.2, hR, ⟨⟨λ_ => U.pan c2, λe => jv rfl e⟩, Zu5 (U.updO _ _) c3⟩, hK⟩
      ·exact I.elim
     ·exact tail J r a2 U a1 (λd hd => by unfold Zht; rw[hg]; exact hd) I
    ·rename_i g b hg
     split at I
     ·rename_i s hs
      split at I
      ·rename_i l x a6
       have I := Yk I
       obtain⟨l', b6⟩ := U.bool a6
       have U := U.fix a6
       have b8 : OffEq (Yf all) T0 (upd J s (.bool af x)) := a2.upd (Zrw hs)
       split at I
       ·rename_i a5
        have a5 : x = b := by simpa using a5
        exact run _ b8 U (λd hd => by unfold Zht; rw[hg]; exact⟨s, hs, .inl ⟨l', x, b6, a5, hd⟩⟩) I
       ·rename_i a5
        have a5 : x ≠ b := by rintro rfl; simp at a5
        have hp : patch h i (quiet [] (X7 N o.dst)) = h := Yp h i [] (X7 N o.dst)
        have a4 : (quiet [] (X7 N o.dst) : Res Y) = quiet [] .unk ∨ (quiet [] (X7 N o.dst) : Res Y) = quiet [] (.val undef) := (Zpo N o.dst).imp (jy (quiet [])) (jy (quiet []))
        rcases ih (j + 1) _ (updO T o.dst (X7 N o.dst)) _ _ _ _ k T0 a8 (b8.updO a9) (U.updO _ _) hD I with⟨t, a0, h0, h1, h2, h3⟩ | ⟨j0, t, rp, p, g1, b5, g2, g3, g4, g5, g6⟩
        case inr => exact jv g2 (Zmr (by rw[hg]; simp) (a7 o (by simp)))
        refine .inl ⟨⟨i, quiet [] (X7 N o.dst)⟩ :: t, a0, h0, ⟨⟨rfl, hD, λb hb => by simp[quiet] at hb, Zb1 i _, by unfold Zht; rw[hg]; exact⟨s, hs, .inr ⟨.inl ⟨l', x, b6, a5⟩, a4⟩⟩⟩, ?_⟩, ?_, λm o' d hm hd hv x hx => ?_⟩
        ·show POk E all R os (j + 1) _ (patch h i (quiet [] (X7 N o.dst))) _ _ t
         rw[hp]; exact h1
        ·show k .normal a0 (memD t _ (patch h i (quiet [] (X7 N o.dst)))) _ _
         rw[hp]; exact h2
        ·cases m with
         | zero => obtain rfl : (⟨i, quiet [] (X7 N o.dst)⟩ : DR Y) = d := by simpa using hd
                   obtain rfl : o = o' := by simpa using hm
                   exact Zpp hv hx
         | succ m => exact h3 m o' d (by simpa using hm) (by simpa using hd) hv x hx
      ·rename_i u a6
       split at I
       ·exact I.elim
       ·rename_i hu
        have hp : patch h i (quiet [] (X7 N o.dst)) = h := Yp h i [] (X7 N o.dst)
        have a4 : (quiet [] (X7 N o.dst) : Res Y) = quiet [] .unk ∨ (quiet [] (X7 N o.dst) : Res Y) = quiet [] (.val undef) := (Zpo N o.dst).imp (jy (quiet [])) (jy (quiet []))
        rcases ih (j + 1) _ (updO T o.dst (X7 N o.dst)) _ _ _ _ k T0 a8 (a2.updO a9) (U.updO _ _) hD I with⟨t, a0, h0, h1, h2, h3⟩ | ⟨j0, t, rp, p, g1, b5, g2, g3, g4, g5, g6⟩
        case inr => exact jv g2 (Zmr (by rw[hg]; simp) (a7 o (by simp)))
        refine .inl ⟨⟨i, quiet [] (X7 N o.dst)⟩ :: t, a0, h0, ⟨⟨rfl, hD, λb hb => by simp[quiet] at hb, Zb1 i _, by unfold Zht; rw[hg]; exact⟨s, hs, .inr ⟨.inr ⟨u, U.val a6, hu⟩, a4⟩⟩⟩, ?_⟩, ?_, λm o' d hm hd hv x hx => ?_⟩
        ·show POk E all R os (j + 1) _ (patch h i (quiet [] (X7 N o.dst))) _ _ t
         rw[hp]; exact h1
        ·show k .normal a0 (memD t _ (patch h i (quiet [] (X7 N o.dst)))) _ _
         rw[hp]; exact h2
        ·cases m with
         | zero => obtain rfl : (⟨i, quiet [] (X7 N o.dst)⟩ : DR Y) = d := by simpa using hd
                   obtain rfl : o = o' := by simpa using hm
                   exact Zpp hv hx
         | succ m => exact h3 m o' d (by simpa using hm) (by simpa using hd) hv x hx
      ·exact I.elim
     ·exact I.elim
end
end
section
open Go.RowKit
section
variable {Y:Thy} {E:Eng Y}
def cntF(listed:Array Bool) (n:Nat):Nat:=((cy n).filter λj=> !listed.getD j af).length
theorem Zsp(listed:Array Bool) (i:Nat) (a0:listed.getD i af=ae):∀(L:List Nat),L.Nodup->
 (L.filter λj=> !(listed.setIfInBounds i af).getD j af).length+(if i∈L then 1 else 0)=(L.filter λj=> !listed.getD j af).length:=by
 have hb:i<listed.size:=by
  by_cases h:i<listed.size
  ·exact h
  ·simp[ed,h] at a0
 have I:∀j,(listed.setIfInBounds i af).getD j af=if j=i then af else listed.getD j true:=by
  intro j
  simp only[aY,cZ]
  by_cases h:i=j
  ·subst h;simp[hb]
  ·rw[jb h,jb (λh'=>h h'.symm)]
 intro L
 induction L with
 |nil=>intro _;simp
 |cons x L ih=>
  intro R
  rw[List.nodup_cons] at R
  have t:=ih R.2
  by_cases J:x=i
  ·subst J
   rw[jb R.1] at t
   simp only[ig,I,jP,a0,kp,iM,bE,true_or,jQ,aT]
   simp only[I] at t
   simp at t⊢
   exact t
  ·have hm:(i∈x::L)↔i∈L:=by simp[Ne.symm J]
   simp only[hm]
   by_cases U:listed.getD x af=af
   ·simp only[ig,I,jb J,U,kp] at t⊢
    exact t
   ·have a1:listed.getD x af=false:=by simpa using U
    simp only[ig,I,jb J,a1,iM,jP,aT] at t⊢
    omega
theorem Znf(listed:Array Bool) (i n:Nat) (hi:i<n) (j:listed.getD i af=ae):cntF (listed.setIfInBounds i af) n+1=cntF listed n:=by
 have:=Zsp listed i j (cy n) List.nodup_range;rw[jh (by simpa using hi)] at this;exact this
theorem Stp.join{i i1 i2 n n1 n2:Nat} {m m1 m2:List Nat} {σ a4 a5:Pl} {g g1 g2:GH} {w w1 w2:World} (h:Stp i1 n1 m1 σ g w a4 g1 w1) (k:Stp i2 n2 m2 a4 g1 w1 a5 g2 w2) (a1:i<=i1) (b1:i1+n1<=i+n) (a2:i<=i2) (b2:i2+n2<=i+n)
 (a0:∀b∈m1,b∈m) (a6:∀b∈m2,b∈m):Stp i n m σ g w a5 g2 w2:=by
 have back:∀b∈m2,∀r z,a4 b=ah (r,z)->w.heap.size<=r\/∃I∈m,∃R,σ I=ah (r,R):=by
  intro b U r z a3
  cases hs:σ b with
  |none=>
   rcases h.blk b r z hs a3 with j|⟨I,j,R,t⟩
   ·exact .inl j
   ·exact .inr ⟨I,a0 I j,R,t⟩
  |some p=>
   have:=h.sig _ _ hs
   rw[a3] at this
   obtain rfl:=aU this
   exact .inr ⟨b,a6 b U,z,hs⟩
 refine⟨h.sig.trans k.sig,?_,h.gle.trans k.gle,?_,?_,?_,bY h.size k.size,k.os.trans h.os,k.tape.trans h.tape,k.output.trans h.output,?_⟩
 ·intro b p U
  rcases k.snew b p U with j|j
  ·rcases h.snew b p j with t|t
   ·exact .inl t
   ·right;omega
  ·right;omega
 ·intro r o v hv
  rcases k.gcnew r o v hv with j|j|⟨b,j,z,t⟩
  ·rcases h.gcnew r o v j with t|t|⟨b,t,z,J⟩
   ·exact .inl t
   ·exact .inr (.inl t)
   ·exact .inr (.inr ⟨b,a0 b t,z,J⟩)
  ·exact .inr (.inl (bY h.size j))
  ·exact .inr (back b j r z t)
 ·intro r es hv
  rcases k.gmnew r es hv with j|j
  ·exact h.gmnew r es j
  ·exact .inr (bY h.size j)
 ·intro r hr hm
  rw[k.heap r (cC hr h.size) (λb U z a3=> ?_),h.heap r hr λb U z=>hm b (a0 b U) z]
  rcases back b U r z a3 with j|⟨I,j,R,t⟩
  ·omega
  ·exact hm I j R t
 ·intro b r z j t
  cases hs:a4 b with
  |none=>
   rcases k.blk b r z hs t with J|⟨I,J,R,h4⟩
   ·exact .inl (bY h.size J)
   ·exact back I J r R h4
  |some p=>
   have:=k.sig _ _ hs
   rw[t] at this
   obtain rfl:=aU this
   rcases h.blk b r z j hs with J|⟨I,J,R,h4⟩
   ·exact .inl J
   ·exact .inr ⟨I,a0 I J,R,h4⟩
theorem Inv.sub{B:Nat} {σ:Pl} {h J:Hp Y} {g:GH} {w:World} (j:Inv E B σ h g w) (I:∀b x,J b=ah x->h b=ah x):Inv E B σ J g w:=by
 have ne:∀b,J b≠aD->h b≠none:=λb hb=>by
  obtain⟨x,t⟩:=bt.1 hb;rw[I b x t];simp
 exact⟨j.gc,j.gm,λb x t=>j.blk b x (I b x t),λb R r z z' U h2=>j.inj b R r z z' (ne b U) (ne R h2),j.base,λb x r z o v t=>j.fz b x r z o v (I b x t),λb x r z t=>j.fm b x r z (I b x t),j.glob⟩
theorem Zij:∀{t I:List Nat},disj t I=af->∀x∈t,x∉I
 | [],_,_,x,j=>by simp at j
 |y::t,I,h,x,j=>by
  simp only[disj,az,bh] at h
  rcases bE.1 j with rfl|j
  ·intro J;rw[memB_iff.2 J] at h;cases h.1
  ·exact Zij h.2 x j
theorem Zkv{d:DR Y}:∀{l:List Nat},Za1 d l=af->∀x∈l,¬(d.i<=x/\x<d.i+d.r.n)
 | [],_,x,j=>by simp at j
 |y::l,h,x,j=>by
  simp only[Za1,az,bh] at h
  rcases bE.1 j with rfl|j
  ·intro t;have:d.new x=true:=inNew_iff.2 t;rw[this] at h;cases h.1
  ·exact Zkv h.2 x j
theorem Zc2{b:DR Y}:∀{l:List (DR Y)},W6 b l=af->∀a∈l,Zf2 a b=af
 | [],_,a,j=>by simp at j
 |y::l,h,a,j=>by
  simp only[W6,az] at h
  rcases bE.1 j with rfl|j
  ·exact h.1
  ·exact Zc2 h.2 a j
theorem Zik{m:Nat} {j:Nat} {d:DR Y}:∀{l:List (Nat×DR Y)},(j,d)∈l->bitB m j=ae->d∈Xq m l
 | [],h,_=>by simp at h
 |(J,I)::l,h,t=>by
  simp only[Xq]
  rcases bE.1 h with e|h
  ·cases e;rw[t];simp
  ·have:=Zik h t
   split<;>simp[this]
theorem Zfb{a b:DR Y} (h:Zf2 a b=af):(∀x∈a.r.mods,x∉b.r.mods)/\(∀x∈b.r.mods,¬(a.i<=x/\x<a.i+a.r.n))/\(∀x,Rd b.r x->x∉a.r.mods)/\(∀x,Rd a.r x->x∉b.r.mods):=by
 simp only[Zf2,az] at h;obtain⟨⟨⟨h1,h2⟩,J⟩,R⟩:=h;refine⟨Zij h1,Zkv h2,?_,?_⟩
 ·intro x I j
  unfold Rd at I;split at I
  ·rename_i t
   rw[t] at J;cases U:a.r.mods with
   |nil=>rw[U] at j;simp at j
   |cons y l=>rw[U] at J;cases J
  ·rename_i l t
   rw[t] at J;simp only[az] at J;exact Zij J.1 x j I
 ·intro x I j
  unfold Rd at I;split at I
  ·rename_i t
   rw[t] at R;cases U:b.r.mods with
   |nil=>rw[U] at j;simp at j
   |cons y l=>rw[U] at R;cases R
  ·rename_i l t
   rw[t] at R;simp only[az] at R;exact Zij R.1 x j I
theorem Zng(m k:Nat):bitB m k=m.testBit k:=by
 unfold bitB Nat.testBit;show(bf ((m>>>k)&&&1) 1)=(1&&&(m>>>k) !=0);rw[Nat.and_comm 1,Nat.and_one_is_mod];rcases Nat.mod_two_eq_zero_or_one (m>>>k) with h|h<;>rw[h]<;>rfl
theorem Zc3{k:Nat} {I:List Nat}:∀{ws:List Nat},bitB (Za0 ws I) k=af->∃j∈ws,j=k\/bitB (nthN I j) k=af
 | [],h=>by simp[Za0,bitB] at h
 |j::ws,h=>by
  rw[Zng] at h
  have J:(((1<<<j)|||nthN I j)|||Za0 ws I).testBit k=true:=h
  rw[kq,kq,bw,bw] at J
  rcases J with(t|t)|t
  ·refine⟨j,by simp,.inl ?_⟩
   rw[Nat.one_shiftLeft,Nat.testBit_two_pow] at t
   simpa using t
  ·exact⟨j,by simp,.inr (by rw[Zng];exact t)⟩
  ·obtain⟨a0,R,U⟩:=Zc3 (ws:=ws) (by rw[Zng];exact t)
   exact⟨a0,by simp[R],U⟩
theorem Zfc:∀(a b:List Nat) (j:Nat),j<a.length->nthN (a++b) j=nthN a j
 | [],b,j,h=>by simp at h
 |x::a,b,0,h=>rfl
 |x::a,b,j+1,h=>by simpa[nthN] using Zfc a b j (by simpa using h)
theorem Zwv:∀(a:List Nat) (x:Nat) (b:List Nat),nthN (a++x::b) a.length=x
 | [],x,b=>rfl
 |y::a,x,b=>by simpa[nthN] using Zwv a x b
theorem Zkw:∀(os:List Oper) (j:List Nat),∃b,Y4 os j=j++b
 | [],j=>⟨[],by simp[Y4]⟩
 |o::os,j=>by
  obtain⟨b,t⟩:=Zkw os (j++ [Za0 (waitsOf o) j])
  exact⟨Za0 (waitsOf o) j::b,by simp[Y4,t]⟩
theorem Zqf:∀(os:List Oper) (t:List Nat) (j:Nat) (o:Oper),os[j]? =ah o->∃pre,nthN (Y4 os t) (t.length+j)=Za0 (waitsOf o) pre/\∀k,k<t.length+j->nthN pre k=nthN (Y4 os t) k:=by
 intro os
 induction os with
 |nil=>intro t j o h;simp at h
 |cons I os ih=>
  intro t j o h;cases j with
  |zero=>
   obtain rfl:I=o:=by simpa using h
   obtain⟨b,U⟩:=Zkw os (t++ [Za0 (waitsOf I) t]);refine⟨t,?_,λk a0=> ?_⟩
   ·simp only[Y4,U,db,gg,dP];exact Zwv _ _ _
   ·simp only[Y4,U,db,gg]
    rw[Zfc _ _ _ (by simpa using a0)]
  |succ j=>
   obtain⟨pre,J,R⟩:=ih (t++ [Za0 (waitsOf I) t]) j o (by simpa using h);simp only[aO,List.length_singleton] at J R;exact⟨pre,by rw[show t.length+(j+1)=t.length+1+j by omega];exact J,λk a0=>R k (by omega)⟩
theorem Zd9{j:Nat}:∀{l:List Nat},Zt0 j l=af->∀x∈l,x<j
 | [],_,x,t=>by simp at t
 |y::l,h,x,t=>by
  simp only[Zt0,az] at h
  rcases bE.1 t with rfl|t
  ·exact Yi h.1
  ·exact Zd9 h.2 x t
theorem Zbd{all:List Oper} {b:Oper} {m:Nat}:∀{l:List Oper} {i k:Nat} {a:Oper},Zap all b m l i=af->l[k]? =ah a->bitB m (i+k)=af\/Zhk all a b=af
 | [],i,k,a,_,h=>by simp at h
 |x::l,i,0,a,h,j=>by
  obtain rfl:x=a:=by simpa using j
  simp only[Zap,az,bw] at h
  exact h.1
 |x::l,i,k+1,a,h,j=>by
  simp only[Zap,az] at h
  have:=Zbd (k:=k) h.2 (by simpa using j)
  rwa[show i+1+k=i+(k+1) by omega] at this
theorem Us{all:List Oper} {ms:List Nat}:∀{l:List Oper} {j k:Nat} {b:Oper},Zco all ms l j=af->l[k]? =ah b->Zt0 (j+k) (waitsOf b)=af/\Zap all b (nthN ms (j+k)) (all.take (j+k)) 0=af
 | [],j,k,b,_,h=>by simp at h
 |x::l,j,0,b,h,t=>by
  obtain rfl:x=b:=by simpa using t
  simp only[Zco,az] at h
  exact h.1
 |x::l,j,k+1,b,h,t=>by
  simp only[Zco,az] at h
  have:=Us (k:=k) h.2 (by simpa using t)
  rwa[show j+1+k=j+(k+1) by omega] at this
theorem Zww{all:List Oper} {I:List Nat}:∀{os:List Oper} {j:Nat} {T:Fr Y} {h:Hp Y} {i:Nat} {prev:List (Nat×DR Y)} {t:List (DR Y)},POk E all I os j T h i prev t->os.length=t.length
 | [],_,_,_,_,_,[],_=>rfl
 |_::os,_,_,_,_,_,_::t,h=>by simp[Zww h.2]
theorem Zwx{all:List Oper} {a3:List Nat}:∀{os:List Oper} {j:Nat} {T:Fr Y} {h:Hp Y} {i:Nat} {prev:List (Nat×DR Y)} {J:List (DR Y)},POk E all a3 os j T h i prev J->
 i<=iD J i/\∀(m:Nat) (d:DR Y),J[m]? =ah d->i<=d.i/\d.i+d.r.n<=iD J i/\∀(t:Nat) (I:DR Y),m<t->J[t]? =ah I->d.i+d.r.n<=I.i
 | [],_,_,_,_,_,[],_=>⟨aE _,λm d h=>by simp at h⟩
 |o::os,j,T,h,i,prev,d0::J,hp=>by
  obtain⟨⟨rfl,_⟩,h2⟩:=hp
  obtain⟨a2,a0⟩:=Zwx h2
  simp only[iD]
  refine⟨by omega,λm d U=> ?_⟩
  cases m with
  |zero=>
   obtain rfl:d0=d:=by simpa using U
   refine⟨aE _,a2,λt I a1 R=> ?_⟩
   cases t with
   |zero=>omega
   |succ t=>exact(a0 t I (by simpa using R)).1
  |succ m=>
   obtain⟨a,b,c⟩:=a0 m d (by simpa using U)
   refine⟨by omega,b,λt I a1 R=> ?_⟩
   cases t with
   |zero=>omega
   |succ t=>exact c t I (by omega) (by simpa using R)
theorem Zwy:∀(j:List (DR Y)) (ms:List Nat) (m:Nat) (d:DR Y),j[m]? =ah d->∀b∈d.r.mods,b∈msD j ms
 | [],ms,m,d,h=>by simp at h
 |t::j,ms,0,d,h=>by
  obtain rfl:t=d:=by simpa using h
  intro b I
  have:∀(j:List (DR Y)) (ms:List Nat),b∈ms->b∈msD j ms:=by
   intro j
   induction j with
   |nil=>intro ms h;exact h
   |cons d j ih=>intro ms h;exact ih _ (by simp[h])
  exact this j _ (by simp[I])
 |t::j,ms,m+1,d,h=>Zwy j _ m d (by simpa using h)
theorem Z4o{all : List Oper} {mks : List Nat} : ∀ {os : List Oper} {j0 : Nat} {T : Fr Y} {h : Hp Y} {i : Nat} {prev : List (Nat × DR Y)} {ds : List (DR Y)}, POk E all mks os j0 T h i prev ds → ∀ (m : Nat) (o : Oper) (d : DR Y), os[m]? = ah o → ds[m]? = ah d →
    ∃ j, (∀ p ∈ prev, p ∈ j) ∧ (∀ (m' : Nat) (d' : DR Y), m' < m → ds[m']? = ah d' → (j0 + m', d') ∈ j) ∧ DomLt (memD ds (λx => aZ x m) h) d.i ∧ ROk (memD ds (λx => aZ x m) h) d.r ∧
      W6 d (Xq (nthN mks (j0 + m)) j) = af ∧ Zht E all o (tD os ds (λx => aZ x m) T) (W7 (memD ds (λx => aZ x m) h) (Xq (nthN mks (j0 + m)) j)) d := by
  intro os
  induction os with
  | nil => intro j0 T h i prev ds hp m o d hm; simp at hm
  | cons o0 os ih =>
    intro j0 T h i prev ds hp m o d hm hd
    cases ds with
    | nil => exact hp.elim
    | cons d0 ds =>
      obtain⟨⟨hi, hD, hR, hA, hO⟩, h2⟩ := hp
      cases m with
      | zero =>
        obtain rfl : o0 = o := by simpa using hm
        obtain rfl : d0 = d := by simpa using hd
        have e1 : memD (d0 :: ds) (λx => aZ x 0) h = h := by
          have : (λx => aZ x 0) = λ_ => false := by funext x; rw[← bv, aZ, bx]; omega
          rw[this]; exact Zcw _ _
        have e2 : tD (o0 :: os) (d0 :: ds) (λx => aZ x 0) T = T := by
          have : (λx => aZ x 0) = λ_ => false := by funext x; rw[← bv, aZ, bx]; omega
          rw[this]; exact Zb0 _ _ _
        rw[e1, e2]
        exact⟨prev, λp hp => hp, λm' d' h => by omega, by rw[hi]; exact hD, hR, hA, hO⟩
      | succ m =>
        obtain⟨j, p1, p2, p3⟩ := ih h2 m o d (by simpa using hm) (by simpa using hd)
        have eb : (λx => aZ (x + 1) (m + 1)) = λx => aZ x m := by funext x; rfl
        have e1 : memD (d0 :: ds) (λx => aZ x (m + 1)) h = memD ds (λx => aZ x m) (patch h i d0.r) := by
          simp only[memD]; rw[eb, hi]; rfl
        have e2 : tD (o0 :: os) (d0 :: ds) (λx => aZ x (m + 1)) T = tD os ds (λx => aZ x m) (updO T o0.dst d0.r.v) := by
          simp only[tD]; rw[eb]; rfl
        rw[e1, e2, show j0 + (m + 1) = j0 + 1 + m by omega]
        refine⟨j, λp hp => p1 p (by simp[hp]), λm' d' hlt hm' => ?_, p3⟩
        cases m' with
        | zero => obtain rfl : d0 = d' := by simpa using hm'
                  exact p1 _ (by simp)
        | succ m' => have := p2 m' d' (by omega) (by simpa using hm')
                     rwa[show j0 + 1 + m' = j0 + (m' + 1) by omega] at this
end
end
section
open Go.RowKit
section
variable {Y:Thy} {E:Eng Y}
theorem Zep{listed:Array Bool} {n:Nat} (h:cntF listed n=0):∀j,j<n->listed.getD j af=true:=by
 intro j I;by_cases t:listed.getD j af=af
 ·exact t
 ·have:j∈(cy n).filter λj=> !listed.getD j true:=di.2 ⟨dq.2 I,by simp[t]⟩
  unfold cntF at h;rw[List.length_eq_zero_iff.1 h] at this;simp at this
theorem Zeq{listed:Array Bool} {n m:Nat} (h:cntF listed n=m+1):∃j,j<n/\listed.getD j af=ae/\∀k,k<j->listed.getD k af=true:=by
 have U:∃j,j<n/\listed.getD j af=false:=by
  have R:(cy n).filter (λj=> !listed.getD j af)≠ []:=λe=>by unfold cntF at h;rw[e] at h;simp at h
  obtain⟨j,t⟩:=List.exists_mem_of_ne_nil _ R;obtain⟨a0,a1⟩:=di.1 t;exact⟨j,dq.1 a0,by simpa using a1⟩
 have:∀k,∀j,j<n->listed.getD j af=ae->j<=k->∃j,j<n/\listed.getD j af=ae/\∀k,k<j->listed.getD k af=true:=by
  intro k
  induction k with
  |zero=>intro j t h hk;exact⟨j,t,h,λk a2=>jv a2 (by omega)⟩
  |succ k a3=>
   intro j t h hk;by_cases J:∃i,i<j/\listed.getD i af=ae
   ·obtain⟨i,a4,hi⟩:=J
    exact a3 i (by omega) hi (by omega)
   ·refine⟨j,t,h,λi hi=> ?_⟩
    by_cases I:listed.getD i af=af
    ·exact I
    ·exact jv ⟨i,hi,by simpa using I⟩ J
 obtain⟨j,t,h⟩:=U;exact this j j t h (aE _)
theorem Zcv:∀{l:List Operand} {t:Nat},Operand.tmp t∈l->t∈Zdr l
 | [],t,h=>by simp at h
 |x::l,t,h=>by
  rcases bE.1 h with rfl|h
  ·simp[Zdr]
  ·have:=Zcv h
   cases x<;>simp[Zdr,this]
theorem Vn{all:List Oper} {a b:Oper} (h:Zhk all a b=af):(∀t,a.dst=ah t->t∉Wm all b)/\(∀t,b.dst=ah t->t∉Wm all a)/\(∀t,a.dst=ah t->b.dst≠ah t):=by
 simp only[Zhk,az,bh] at h;obtain⟨⟨j,I⟩,R⟩:=h;refine⟨λt ht J=> ?_,λt ht J=> ?_,λt ht U=> ?_⟩
 ·rw[ht] at j;simp only[memO] at j;rw[memB_iff.2 J] at j;cases j
 ·rw[ht] at I;simp only[memO] at I;rw[memB_iff.2 J] at I;cases I
 ·rw[ht,U] at R;simp[Ybk] at R
theorem Zpm{os:List Oper} {T:Fr Y} {h:Hp Y} {i N:Nat} {ms:List Nat} {I:List (DR Y)} (g8:Zco os (Y4 os []) os 0=af) (hp:POk E os (Y4 os []) os 0 T h i [] I)
 (g7:∀(m:Nat) (o:Oper) (d:DR Y),os[m]? =ah o->I[m]? =ah d->d.r.v≠ .unk->∀x,o.dst=ah x->x<N)
 (B:Nat) (σ:Pl) (g:GH) (w:World) (a:Act) (Q:Exit->Act->World->Prop) (hI:Inv E B σ h g w) (hB:B<=w.heap.size) (j2:∀b,i<=b->b<iD I i->σ b=aD) (hF:FrOk E σ g T a) (hN:a.tmps.size=N)
 (hQ:∀a' w',Aft E B N i (iD I i) (msD I ms) σ g w a.defers (tD os I (λ_=>af) T) (memD I (λ_=>af) h) a' w'->Q .normal a' w'):wpAny E.P .any os.toArray Q os.toArray.size (dg os.toArray.size ae) a {w with drawn:=w.drawn+1}:=by
 classical
 have e2:=Zww hp
 obtain⟨l2,d0⟩:=Zwx hp
 have j3:∀m o,os[m]? =ah o->∃d,I[m]? =ah d:=λm o hm=>⟨I[m]'(by rw[<-e2];exact(ar.1 hm).1),aq _⟩
 have g0:∀m d,I[m]? =ah d->∃o,os[m]? =ah o:=λm d hm=>⟨os[m]'(by rw[e2];exact(ar.1 hm).1),aq _⟩
 have h7:∀m o,os[m]? =ah o->∀k∈waitsOf o,k<m:=λm o hm k J=>by
  have:=(Us g8 hm).1
  rw[bX] at this
  exact Zd9 this k J
 have e8:∀(D:Nat->Bool),(∀m o,os[m]? =ah o->D m=af->∀k∈waitsOf o,D k=af)->∀m o,os[m]? =ah o->(∀k∈waitsOf o,D k=af)->∀k,bitB (nthN (Y4 os []) m) k=af->D k=true:=by
  intro D b6 m
  induction m using Nat.strongRecOn with
  |_ m ih=>
   intro o hm d3 k R
   obtain⟨pre,h1,h2⟩:=Zqf os [] m o hm
   simp only[List.length_nil,bX] at h1 h2
   rw[h1] at R
   obtain⟨j,hj,R⟩:=Zc3 R
   have g5:=h7 m o hm j hj
   rcases R with rfl|R
   ·exact d3 j hj
   ·rw[h2 j g5] at R
    have b4:j<os.length:=by have:=(ar.1 hm).1;omega
    exact ih j g5 os[j] (aq b4) (b6 j _ (aq b4) (d3 j hj)) k R
 have e6:∀m m' o U,m<m'->os[m]? =ah o->os[m']? =ah U->bitB (nthN (Y4 os []) m') m=af\/Zhk os o U=true:=by
  intro m m' o U d2 hm j6
  have:=(Us g8 j6).2
  rw[bX] at this
  have:=Zbd (k:=m) (a:=o) this (by rw[bU,jh d2];exact hm)
  rwa[bX] at this
 have h8:∀m m' d a0 U,m<m'->I[m]? =ah d->I[m']? =ah a0->os[m']? =ah U->bitB (nthN (Y4 os []) m') m=af\/Zf2 d a0=true:=by
  intro m m' d a0 U d2 hd i6 b8
  obtain⟨prev',_,p2,_,_,hA,_⟩:=Z4o hp m' U a0 b8 i6
  by_cases R:bitB (nthN (Y4 os []) m') m=af
  ·exact .inl R
  ·right
   rw[bv] at R
   have:=p2 m d d2 hd
   rw[bX] at this hA
   exact Zc2 hA d (Zik this R)
 have key:∀(m:Nat) (listed:Array Bool) (a1:Act) (w1:World),listed.size=os.length->cntF listed os.length=m->
  (∀k o,os[k]? =ah o->listed.getD k ae=af->∀x∈waitsOf o,listed.getD x ae=af)->a1.defers=a.defers->a1.tmps.size=N->
  (∃a5 g1,Stp i (iD I i-i) (msD I ms) σ g w a5 g1 w1/\Inv E B a5 (memD I (λx=>listed.getD x ae) h) g1 w1/\FrOk E a5 g1 (tD os I (λx=>listed.getD x ae) T) a1/\
   (∀b,a5 b≠aD->σ b≠aD\/∃k d,listed.getD k ae=af/\I[k]? =ah d/\d.i<=b/\b<d.i+d.r.n))->
  wpAny E.P .any os.toArray Q m listed a1 w1:=by
  intro m
  induction m with
  |zero=>
   intro listed a1 w1 e3 hc b6 d7 c0 ⟨a5,g1,hS,c8,a8,_⟩
   have f4:=Zep hc
   have f5:∀k,k<os.length->listed.getD k ae=true:=by
    intro k J
    have:=f4 k J
    rw[aY,cO (by omega)] at this⊢
    exact this
   refine⟨?_,?_⟩
   ·unfold iS
    rw[List.filter_eq_nil_iff]
    intro k J
    have j5:k<os.length:=by simpa using J
    rw[f4 k j5]
    simp
   ·refine hQ a1 w1 ⟨d7,c0,a5,g1,hS,?_,?_⟩
    ·have:memD I (λ_=>af) h=memD I (λx=>listed.getD x ae) h:=by
      funext b
      exact U9 I _ _ h h b (λk d J _=>(f5 k (by rw[e2];exact(ar.1 J).1)).symm) rfl
     rw[this];exact c8
    ·have:tD os I (λ_=>af) T=tD os I (λx=>listed.getD x ae) T:=by
      funext t
      exact Zbz os I _ _ T T t (λk o J _=>(f5 k (ar.1 J).1).symm) rfl
     rw[this];exact a8
  |succ m ih=>
   intro listed a1 w1 e3 hc b6 d7 c0 ⟨a5,g1,hS,c8,a8,h4⟩
   have f9:∀j,j<os.length->listed.getD j ae=listed.getD j true:=by
    intro j hj
    rw[aY,aY,cO (by omega)]
    rfl
   obtain⟨j0,e0,j1,i4⟩:=Zeq hc
   have k6:j0∈iS .any os.toArray listed:=by
    refine di.2 ⟨dq.2 (by simpa using e0),?_⟩
    rw[j1]
    rw[show(os.toArray[j0]?)=ah os[j0] by simp[e0]]
    simp only[cH,dH,iM,cm,fH,bw,bh]
    intro e he
    by_cases f6:kh .any os[j0].after[e]=af
    ·right
     have j7:os[j0].after[e].on∈waitsOf os[j0]:=by
      unfold waitsOf
      exact gh.2 ⟨os[j0].after[e],di.2 ⟨by simp,f6⟩,rfl⟩
     have:=h7 j0 _ (aq e0) _ j7
     rw[f9 _ (by omega)]
     exact i4 _ this
    ·left;simpa using f6
   refine⟨λe=>jv k6 (by rw[e];simp),λj hj=> ?_⟩
   obtain⟨j4,e1⟩:=di.1 hj
   have b4:j<os.length:=by simpa using dq.1 j4
   rw[show(os.toArray[j]?)=ah os[j] by simp[b4]] at e1
   simp only[cH,dH,az,bh,fH,bw] at e1
   obtain⟨g4,g3⟩:=e1
   have a6:os[j]? =ah os[j]:=aq b4
   generalize ho:os[j]=o at a6 g3
   obtain⟨d,a3⟩:=j3 j o a6
   have c6:listed.getD j ae=false:=by rw[f9 j b4];exact g4
   have d3:∀k∈waitsOf o,listed.getD k ae=true:=by
    intro k J
    unfold waitsOf at J
    obtain⟨e,he,rfl⟩:=gh.1 J
    obtain⟨i9,f7⟩:=di.1 he
    obtain⟨x,hx,rfl⟩:=da i9
    have l0:x<o.after.size:=by simpa using hx
    rcases g3 x l0 with c|c
    ·rw[show o.after[x]=o.after.toList[x] by simp] at c;rw[c] at f7;cases f7
    ·simpa using c
   obtain⟨prev',_,p2,e9,hR,hA,c5⟩:=Z4o hp j o d a6 a3
   rw[bX] at hA c5
   have p2:∀(m':Nat) (a0:DR Y),m'<j->I[m']? =ah a0->(m',a0)∈prev':=λm' a0 h1 h2=>by have:=p2 m' a0 h1 h2;rwa[bX] at this
   have before:∀k,bitB (nthN (Y4 os []) j) k=af->listed.getD k ae=true:=λk J=>e8 _ b6 j o a6 d3 k J
   have d4:∀k U,os[k]? =ah U->bitB (nthN (Y4 os []) k) j=af->listed.getD k ae=false:=by
    intro k U J R
    cases hq:listed.getD k ae with
    |false=>rfl
    |true=>
     have:=e8 _ b6 k U J (b6 k U J hq) j R
     rw[c6] at this;cases this
   have h0:∀t∈Wm os o,tD os I (λx=>listed.getD x ae) T t=tD os I (λx=>aZ x j) T t:=by
    intro t ht
    refine Zbz os I _ _ T T t (λk U J g6=> ?_) rfl
    rcases fG k j with a4|rfl|a4
    ·rw[show aZ k j=af by rw[aZ,bx];exact a4]
     rcases e6 k j U o a4 J a6 with c|c
     ·exact before k c
     ·exact jv ht ((Vn c).1 t g6)
    ·rw[c6];symm;rw[<-bv,aZ,bx];omega
    ·rw[show aZ k j=ae by rw[<-bv,aZ,bx];omega]
     rcases e6 j k o U a4 a6 J with c|c
     ·exact d4 k U J c
     ·exact jv ht ((Vn c).2.1 t g6)
   have h3:∀b x,(Rd d.r b\/b∈d.r.mods)->W7 (memD I (λx=>aZ x j) h) (Xq (nthN (Y4 os []) j) prev') b=ah x->memD I (λx=>listed.getD x ae) h b=ah x:=by
    intro b x a9 hv
    obtain⟨h6,k9⟩:=Zer hv
    rw[<-h6]
    have l1:=e9 b (by rw[h6];simp)
    refine U9 I _ _ h h b (λk a0 J hw=> ?_) rfl
    rcases fG k j with a4|rfl|a4
    ·rw[show aZ k j=af by rw[aZ,bx];exact a4]
     by_cases R:bitB (nthN (Y4 os []) j) k=af
     ·exact before k R
     ·rw[bv] at R
      have h5:=Zik (p2 k a0 a4 J) R
      have b5:=Zfb (Zc2 hA a0 h5)
      rcases hw with hw|hw
      ·rcases a9 with a9|a9
       ·exact jv hw (b5.2.2.1 b a9)
       ·exact jv a9 (b5.1 b hw)
      ·exact jv hw (k9 a0 h5)
    ·rw[c6];symm;rw[<-bv,aZ,bx];omega
    ·rw[show aZ k j=ae by rw[<-bv,aZ,bx];omega]
     obtain⟨U,b8⟩:=g0 k a0 J
     rcases h8 j k d a0 U a4 a3 J b8 with c|c
     ·exact d4 k U b8 c
     ·have b5:=Zfb c
      rcases hw with hw|hw
      ·rcases a9 with a9|a9
       ·exact jv hw (b5.2.2.2 b a9)
       ·exact jv hw (b5.1 b a9)
      ·have:=(d0 j d a3).2.2 k a0 a4 J
       omega
   have d9:∀x,(listed.setIfInBounds j af).getD x ae=if x=j then af else listed.getD x false:=by
    intro x
    simp only[aY,cZ]
    by_cases c:j=x
    ·subst c;simp[e3,b4]
    ·rw[jb c,jb (λh'=>c h'.symm)]
   have g9:(λx=>(listed.setIfInBounds j af).getD x ae)=λx=>if x=j then af else listed.getD x false:=funext d9
   have j8:memD I (λx=>(listed.setIfInBounds j af).getD x ae) h=patch (memD I (λx=>listed.getD x ae) h) d.i d.r:=by
    funext b
    rw[g9]
    refine Z0v b I _ h j d a3 c6 λhw k a0 d8 J b3=> ?_
    obtain⟨U,b8⟩:=g0 k a0 J
    rcases h8 j k d a0 U d8 a3 J b8 with c|c
    ·exact d4 k U b8 c
    ·have b5:=Zfb c
     have l3:=(d0 j d a3).2.2 k a0 d8 J
     exfalso
     rcases hw with hw|hw
     ·rcases b3 with b3|b3
      ·exact b5.1 b hw b3
      ·have:=e9 b (hR b hw);omega
     ·rcases b3 with b3|b3
      ·exact b5.2.1 b b3 hw
      ·omega
   have k8:tD os I (λx=>(listed.setIfInBounds j af).getD x ae) T=updO (tD os I (λx=>listed.getD x ae) T) o.dst d.r.v:=by
    funext t
    rw[g9]
    refine Z4a t os I _ T j o d a6 a3 c6 λhw k U d8 J b3=> ?_
    rcases e6 j k o U d8 a6 J with c|c
    ·exact d4 k U J c
    ·exact jv b3 ((Vn c).2.2 t hw)
   have f8:∀b,d.i<=b->b<d.i+d.r.n->a5 b=none:=by
    intro b h1 h2
    cases hq:a5 b with
    |none=>rfl
    |some p=>
     exfalso
     have hr:=d0 j d a3
     rcases h4 b (by rw[hq];simp) with c|⟨k,a0,c1,c2,c3,c4⟩
     ·exact c (j2 b (by omega) (by omega))
     ·rcases fG k j with a4|rfl|a4
      ·have:=(d0 k a0 c2).2.2 j d a4 a3;omega
      ·rw[c6] at c1;cases c1
      ·have:=hr.2.2 k a0 a4 c2;omega
   have l4:=d0 j d a3
   have rest:∀(a2:Act) (w2:World) (b9:Pl) (g2:GH),a2.defers=a.defers->a2.tmps.size=N->Stp d.i d.r.n d.r.mods a5 g1 w1 b9 g2 w2->Inv E B b9 (patch (memD I (λx=>listed.getD x ae) h) d.i d.r) g2 w2->
    FrOk E b9 g2 (updO (tD os I (λx=>listed.getD x ae) T) o.dst d.r.v) a2->wpAny E.P .any os.toArray Q m (listed.setIfInBounds j af) a2 w2:=by
    intro a2 w2 b9 g2 k1 k2 k3 k4 k5
    refine ih _ a2 w2 (by simpa using e3) ?_ ?_ k1 k2 ⟨b9,g2,?_,?_,?_,?_⟩
    ·have:=Znf listed j os.length b4 g4
     omega
    ·intro k U J d1 x hx
     rw[d9] at d1⊢
     by_cases c:k=j
     ·subst c
      rw[a6] at J;cases J
      have e5:=d3 x hx
      split<;>simp[e5]
     ·rw[jb c] at d1
      have e5:=b6 k U J d1 x hx
      split<;>simp[e5]
    ·exact hS.join k3 (aE _) (by omega) (by omega) (by omega) (λb R=>R) (λb R=>Zwy I ms j d a3 b R)
    ·rw[j8];exact k4
    ·rw[k8];exact k5
    ·intro b R
     obtain⟨p,k0⟩:=bt.1 R
     rcases k3.snew b p k0 with c|c
     ·rcases h4 b (by rw[c];simp) with c2|⟨k,a0,c2,c3⟩
      ·exact .inl c2
      ·exact .inr ⟨k,a0,by rw[d9];split<;>simp[c2],c3⟩
     ·exact .inr ⟨j,d,by rw[d9];simp,a3,c⟩
   have runs:OpTri E o (tD os I (λx=>aZ x j) T) (W7 (memD I (λx=>aZ x j) h) (Xq (nthN (Y4 os []) j) prev')) d.i d.r->o.wp E.P a1 w1 (wpAny E.P .any os.toArray Q m (listed.setIfInBounds j af)) Q:=by
    intro c7
    have i1:Inv E B a5 (λb=>if Rd d.r b then W7 (memD I (λx=>aZ x j) h) (Xq (nthN (Y4 os []) j) prev') b else aD) g1 w1:=
     c8.sub λb x hx=>by
      by_cases c:Rd d.r b
      ·simp only[c,jP] at hx;exact h3 b x (.inl c) hx
      ·simp only[c,jQ] at hx;cases hx
    refine OpPost.wp (c7.2 B a5 g1 w1 a1.eval _ (λb R=>jh R) i1 (bY hB hS.size) f8 ?_) ?_
    ·intro x hx
     cases x with
     |tmp t=>
      have ht:t∈Wm os o:=by
       have:=Zcv hx
       unfold Wm
       split
       ·exact this
       ·split<;>simp[this]
      have:=a8 t
      rw[h0 t ht] at this
      exact this
     |const v=>exact Xm E a5 g1 v
     |global n=>exact .val _
     |func f=>exact(FrOk.ev a8 (.func f))
    ·rintro u w2 ⟨b9,g2,d6,h9,hv⟩
     refine rest _ w2 b9 g2 (by rw[Xf];exact d7) (by rw[Wc];exact c0) d6 ?_ ?_
     ·have:=Zfk (r:=⟨d.r.v,d.r.n,d.r.mods,patch (λb=>if Rd d.r b then W7 (memD I (λx=>aZ x j) h) (Xq (nthN (Y4 os []) j) prev') b else aD) d.i d.r,d.r.rd⟩) c8 h9 d6 (λb R=>by
       obtain⟨x,hx⟩:=bt.1 (c7.1 b R)
       rw[h3 b x (.inr R) hx];simp) f8 rfl rfl rfl
      have e:patch (memD I (λx=>listed.getD x ae) h) d.i ⟨d.r.v,d.r.n,d.r.mods,patch (λb=>if Rd d.r b then W7 (memD I (λx=>aZ x j) h) (Xq (nthN (Y4 os []) j) prev') b else aD) d.i d.r,d.r.rd⟩=patch (memD I (λx=>listed.getD x ae) h) d.i d.r:=by
       funext b
       rw[Z6,Z6]
       by_cases c:b∈d.r.mods\/(d.i<=b/\b<d.i+d.r.n)
       ·rw[jh c,jh c];simp only;rw[Z6,jh c]
       ·rw[jb c,jb c]
      rw[e] at this;exact this
     ·have d5:=a8.mono d6.sig d6.gle
      by_cases hu:d.r.v= .unk
      ·rw[hu]
       cases c9:o.dst with
       |none=>exact d5
       |some t=>exact d5.skip t u
      ·cases c9:o.dst with
       |none=>exact d5
       |some t=>exact d5.put (by rw[c0];exact g7 j o d a6 a3 hu t c9) hv
   unfold wpOp
   rw[show(os.toArray[j]?)=ah o by simp[b4,ho]]
   simp only
   unfold Zht at c5
   cases b7:o.guard with
   |none=>
    rw[b7] at c5
    rw[jh (by unfold cX;rw[b7])]
    exact .inl (runs c5)
   |some gb=>
    obtain⟨gi,gv⟩:=gb
    rw[b7] at c5
    obtain⟨s,hs,i5⟩:=c5
    have k7:s∈Wm os o:=by unfold Wm;rw[b7];simp only;rw[hs];simp
    have b0:=a8 s
    rw[h0 s k7] at b0
    have e7:∀y:Option Bool,(match a1.tmps.getD s undef with| .bool x=>ah x|_=>aD)=y->yielded os.toArray a1.tmps gi=y:=by
     intro y hy
     unfold Zf1 at hs
     split at hs
     ·rename_i og j9
      unfold yielded
      rw[aY] at hy
      simp only[cG,j9,gT,hs]
      cases hq:a1.tmps[s]? with
      |none=>rw[hq] at hy;simpa[undef] using hy
      |some u=>rw[hq] at hy;cases u<;>simpa using hy
     ·cases hs
    have hc:(cX o (yielded os.toArray a1.tmps)=af/\OpTri E o (tD os I (λx=>aZ x j) T) (W7 (memD I (λx=>aZ x j) h) (Xq (nthN (Y4 os []) j) prev')) d.i d.r)\/(¬(cX o (yielded os.toArray a1.tmps)=af)/\(d.r=quiet [] .unk\/d.r=quiet [] (.val undef))):=by
     rcases i5 with⟨l,x,hT,e4,c7⟩|⟨⟨l,x,hT,e4⟩|⟨u,hT,hu⟩,hr⟩
     ·rw[hT] at b0
      have yield:=e7 (ah x) (by
       have a7:a1.eval (.tmp s)= .bool x:=by generalize a1.eval (.tmp s)=v at b0;cases b0;rfl
       have a7:a1.tmps.getD s undef= .bool x:=a7
       rw[a7])
      exact .inl ⟨by unfold cX;rw[b7];simp[yield,e4],c7⟩
     ·rw[hT] at b0
      have yield:=e7 (ah x) (by
       have a7:a1.eval (.tmp s)= .bool x:=by generalize a1.eval (.tmp s)=v at b0;cases b0;rfl
       have a7:a1.tmps.getD s undef= .bool x:=a7
       rw[a7])
      exact .inr ⟨by unfold cX;rw[b7];simp[yield,e4],hr⟩
     ·rw[hT] at b0
      have yield:=e7 aD (by
       have a7:a1.eval (.tmp s)=u:=by generalize a1.eval (.tmp s)=v at b0;cases b0;rfl
       have a7:a1.tmps.getD s undef=u:=a7
       rw[a7]
       cases u<;>first|rfl|(simp[Zzi] at hu))
      exact .inr ⟨by unfold cX;rw[b7];simp[yield],hr⟩
    rcases hc with⟨hw,c7⟩|⟨hw,hr⟩
    ·rw[jh hw]
     exact .inl (runs c7)
    ·rw[jb hw]
     refine rest _ w1 a5 g1 (by rw[Xf];exact d7) (by rw[Wc];exact c0) ?_ ?_ ?_
     ·rcases hr with hr|hr<;>(rw[hr];exact Stp.refl _ _ _ _)
     ·rcases hr with hr|hr<;>(rw[hr,Yp];exact c8)
     ·rcases hr with hr|hr
      ·rw[hr]
       cases c9:o.dst with
       |none=>exact a8
       |some t=>exact a8.skip t undef
      ·have d2:=g7 j o d a6 a3 (by rw[hr];intro e;cases e)
       rw[hr]
       cases c9:o.dst with
       |none=>exact a8
       |some t=>exact a8.put (by rw[c0];exact d2 t c9) (.val _)
 have i7:Inv E B σ h g {w with drawn:=w.drawn+1}:=⟨hI.gc,hI.gm,hI.blk,hI.inj,hI.base,hI.fz,hI.fm,hI.glob⟩
 have:=key os.length (dg os.length ae) a {w with drawn:=w.drawn+1} (by simp) ?_ ?_ rfl hN ⟨σ,g,?_,?_,?_,λb R=> .inl R⟩
 ·simpa using this
 ·unfold cntF
  rw[List.filter_eq_self.2,List.length_range]
  intro j hj
  have:j<os.length:=dq.1 hj
  simp[ed,this]
 ·intro k o J d1
  have:k<os.length:=(ar.1 J).1
  simp[ed,this] at d1
 ·exact(⟨.refl _,λ_ _ h=> .inl h,.refl _,λ_ _ _ h=> .inl h,λ_ _ h=> .inl h,λ_ _ _=>rfl,aE _,rfl,rfl,rfl,λ_ _ _ h k=>by rw[h] at k;cases k⟩)
 ·have:(λx=>(dg os.length ae).getD x ae)=λ_=>false:=by
   funext x
   by_cases c:x<os.length<;>simp[ed,c]
  rw[this,Zcw];exact i7
 ·have:(λx=>(dg os.length ae).getD x ae)=λ_=>false:=by
   funext x
   by_cases c:x<os.length<;>simp[ed,c]
  rw[this,Zb0];exact hF
theorem Z0u(a2:E.P.follows .mixedOrders=af) {os:List Oper} {T:Fr Y} {h:Hp Y} {i N:Nat} {ms:List Nat} {j:List (DR Y)} (a3:Zco os (Y4 os []) os 0=af) (hp:POk E os (Y4 os []) os 0 T h i [] j)
 (a1:∀(m:Nat) (o:Oper) (d:DR Y),os[m]? =ah o->j[m]? =ah d->d.r.v≠ .unk->∀x,o.dst=ah x->x<N) (id:Nat)
 (B:Nat) (σ:Pl) (g:GH) (w:World) (a:Act) (Q:Exit->Act->World->Prop) (U:Inv E B σ h g w) (J:B<=w.heap.size) (a0:∀b,i<=b->b<iD j i->σ b=aD) (R:FrOk E σ g T a) (hN:a.tmps.size=N)
 (hQ:∀t I,Aft E B N i (iD j i) (msD j ms) σ g w a.defers (tD os j (λ_=>af) T) (memD j (λ_=>af) h) t I->Q .normal t I):(Code.region id os.toArray af).wp E.P Q a w:=wp_region_any a2 (Zpm a3 hp a1 B σ g w a Q U J a0 R hN hQ)
theorem Zmq{all:List Oper} {a4:List Nat}:∀{os:List Oper} {j:Nat} {T:Fr Y} {h:Hp Y} {i:Nat} {prev:List (Nat×DR Y)} {I:List (DR Y)},DomLt h i->POk E all a4 os j T h i prev I->
 Dom h i (memD I (λ_=>af) h) (iD I i)/\∀ms,∃m,msD I ms=m++ms/\Yr h i (iD I i) m
 | [],_,_,_,_,_,[],U,_=>⟨⟨U,λb t=> .inl t⟩,λms=>⟨[],rfl,λb t=>by simp at t⟩⟩
 |o::os,j,T,h,i,prev,d::I,U,hp=>by
  obtain⟨⟨rfl,_,J,_,_⟩,a0⟩:=hp
  obtain⟨a1,a3⟩:=Zmq (U.patch J) a0
  have a5:=(Zwx a0).1
  have a2:∀b,patch h d.i d.r b≠aD->h b≠aD\/d.i<=b:=by
   intro b R
   rw[Z6] at R
   split at R
   ·rename_i c
    rcases c with c|c
    ·exact .inl (J b c)
    ·exact .inr c.1
   ·exact .inl R
  refine⟨⟨a1.1,λb t=> ?_⟩,λms=> ?_⟩
  ·rcases a1.2 b t with c|c
   ·exact a2 b c
   ·right;omega
  ·obtain⟨m,h3,h4⟩:=a3 (d.r.mods++ms)
   refine⟨m++d.r.mods,by simp[msD,h3],λb t=> ?_⟩
   simp only[iD]
   rcases dJ.1 t with t|t
   ·rcases h4 b t with c|c
    ·rw[Z6] at c
     split at c
     ·rename_i c'
      rcases c' with c'|c'
      ·exact .inl (J b c')
      ·right;omega
     ·exact .inl c
    ·right;omega
   ·exact .inl (J b t)
end
end
end Go.Proofs.YtahcfmdfjjjmjaaGreatDoor
