/- Merged texts: EngA, EngB, EngC, EngD, EngE, EngF, EngG, EngH, EngI, EngJ, EngK, EngM, EngN, EngO. -/
import Derived.WalkKit
import Derived.KernelRfl
import Derived.Deep.MidRow
import Derived.Great.BuildSlice
import Derived.Lib.Hide
import Derived.Laws.Externs
import Derived.Laws.Tables
import Derived.Orders
noncomputable section
namespace Go.Proofs.YtbaeahmhdfdndaaGreatDoor
set_option linter.unusedVariables false
set_option linter.unusedSimpArgs false
set_option linter.unnecessarySimpa false
set_option maxRecDepth 100000
theorem gA9{α:Type _}{l:List α}{i:Nat}{a:α}:l[i]? =some a↔∃h:i<l.length,l[i]=a:=List.getElem?_eq_some_iff
theorem gB9{α:Type _}{l:List α}{i:Nat}(h:i<l.length):l[i]? =some l[i]:=List.getElem?_eq_getElem h
theorem gC9{n m:Nat}(h:Nat.beq n m=true):n=m:=Nat.eq_of_beq_eq_true h
theorem gD9{α β:Type _}{b:β}{o:Option α}{f:α→Option β}:o.bind f=some b↔∃a,o=some a∧f a=some b:=Option.bind_eq_some_iff
section
structure Thy where
 Th:Type
 dom:Th->Type
 eq:DecidableEq Th
def toL (b:ByteArray):List Nat:=b.data.toList.map UInt8.toNat
def mkS (l:List Nat):ByteArray:=⟨(l.map UInt8.ofNat).toArray⟩
inductive ExtK where
 |add64
 |indexByteS
 |same
inductive SV (Y:Thy) where
 |unk
 |val (v:Value)
 |int (l:Bool) (k:IntKind) (n:Int)
 |bool (l:Bool) (b:Bool)
 |str (l:Bool) (s:List Nat)
 |ptr (b off:Nat)
 |eptr (b i w off:Nat)
 |pptr (th:Y.Th) (x:Y.dom th) (off:Nat)
 |sl (b off len w:Nat) (cap:Option Nat)
 |psl (th:Y.Th) (l:List (Y.dom th)) (full:Bool)
 |agg (cs:List (SV Y))
 |tup (vs:List (SV Y))
 |fn (f:Fn) (first cap:List (SV Y))
 |map (b:Nat)
 |pmap (es:List (Value×SV Y))
 |iface (t:TypeId) (v:SV Y)
 |pan (u:Value)
inductive Blk (Y:Thy) where
 |raw (cs:List (SV Y)) (fz:Nat) (tg:Option Y.Th)
 |rows (th:Y.Th) (l:List (Y.dom th)) (fz:Nat)
 |map (es:List (Value×SV Y))
structure TyI where
 d:TypeDesc
 size:Nat
 bytes:Nat
 zero:Value
structure Eng (Y:Thy) where
 P:Program
 ty:TypeId->Option TyI
 enc:(th:Y.Th)->Y.dom th->List (SV Y)
 w:Y.Th->Nat
 el:Y.Th->TypeId
 thOf:TypeId->Option Y.Th
 dec:(th:Y.Th)->List (SV Y)->Option (Y.dom th)
 glob:Nat->Option (SV Y)
 lit:Bool
 eqs:List TypeId
 arrOf:TypeId->Option Y.Th
 ext:Nat->Option ExtK:=fun _=>none
 smap:TypeId->Option Y.Th:=fun _=>none
 rowS:TypeId->Bool:=fun _=>false
 nap:TypeId->Bool:=fun _=>false
structure Res (Y:Thy) where
 v:SV Y
 n:Nat
 mods:List Nat
 h:Nat->Option (Blk Y)
 rd:Option (List Nat)
abbrev Hp (Y:Thy):=Nat->Option (Blk Y)
abbrev Fr (Y:Thy):=Nat->SV Y
section
variable {Y:Thy}
def Zdx:Value->SV Y
 | .int k n=> .int true k n
 | .bool b=> .bool true b
 | .string s=> .str true (toL s)
 |v=> .val v
def Yo:Value->SV Y
 | .agg cs=> .agg (cs.toList.map Zdx)
 |v=>Zdx v
def ev (T:Fr Y):Operand->SV Y
 | .tmp t=>T t
 | .const v=>Yo v
 | .global g=> .val (.pointer (some ⟨g,0,none⟩))
 | .func f=> .fn (.func f) [] []
def upd {α:Type} (T:Nat->α) (d:Nat) (v:α):Nat->α:=fun j=>match Nat.beq j d with|true=>v|false=>T j
def updO (T:Fr Y) (d:Option Nat) (v:SV Y):Fr Y:=match d with|some d=>upd T d v|none=>T
def Zd (rd:List Nat) (v:SV Y):Res Y:=⟨v,0,[],fun _=>none,some rd⟩
def fresh (i:Nat) (v:SV Y) (b:Blk Y) (rd:List Nat):Res Y:=⟨v,1,[],fun j=>match Nat.beq j i with|true=>some b|false=>none,some rd⟩
def change (b:Nat) (blk:Option (Blk Y)) (v:SV Y) (rd:List Nat):Res Y:=⟨v,0,[b],fun j=>match Nat.beq j b with|true=>blk|false=>none,some rd⟩
def memB (b:Nat):List Nat->Bool
 | []=>false
 |x::r=>match Nat.beq b x with|true=>true|false=>memB b r
def patch (h:Hp Y) (i:Nat) (r:Res Y):Hp Y:=fun b=>match memB b r.mods||(Nat.ble i b&&Nat.blt b (i+r.n)) with|true=>r.h b|false=>h b
def Zdy (b:Bool) (k:Bool->Prop):Prop:=match b with|true=>k true|false=>k false
def Znf (c:Option Nat) (k:Option Nat->Prop):Prop:=match c with|none=>k none|some n=>k (some n)
def X7 (n:Nat) (k:Nat->Prop):Prop:=match n with|0=>k 0|Nat.succ m=>k (Nat.succ m)
def Zfi (n:Int) (k:Int->Prop):Prop:=match n with| .ofNat m=>X7 m fun m=>k (.ofNat m)| .negSucc m=>X7 m fun m=>k (.negSucc m)
def Vk:List Nat->(List Nat->Prop)->Prop
 | [],k=>k []
 |x::r,k=>X7 x fun x=>Vk r fun r=>k (x::r)
def Zng (l:Bool) (s:List Nat) (k:SV Y->Prop):Prop:=match l with|true=>Vk s fun s=>k (.str true s)|false=>k (.str false s)
def Ziw (v:SV Y) (k:SV Y->Prop):Prop:=
 match v with
 | .unk=>k .unk
 | .val v=>k (.val v)
 | .int l kd n=>(match l with|true=>Zfi n fun n=>k (.int true kd n)|false=>k (.int false kd n))
 | .bool l b=>Zdy l fun l=>k (.bool l b)
 | .str l s=>Zng l s k
 | .ptr b o=>X7 b fun b=>X7 o fun o=>k (.ptr b o)
 | .eptr b i w o=>k (.eptr b i w o)
 | .pptr th x o=>k (.pptr th x o)
 | .sl b o n w c=>X7 b fun b=>Znf c fun c=>k (.sl b o n w c)
 | .psl th l f=>Zdy f fun f=>k (.psl th l f)
 | .agg cs=>k (.agg cs)
 | .tup vs=>k (.tup vs)
 | .fn f a b=>k (.fn f a b)
 | .map b=>k (.map b)
 | .pmap es=>k (.pmap es)
 | .iface t v=>k (.iface t v)
 | .pan u=>k (.pan u)
def W0 (l:List (SV Y)):(List (SV Y)->Prop)->Prop:=
 List.rec (motive:=fun _=>(List (SV Y)->Prop)->Prop) (fun k=>k []) (fun x _ ih k=>Ziw x fun x=>ih fun r=>k (x::r)) l
def Zix (v:SV Y) (k:SV Y->Prop):Prop:=
 match v with
 | .unk=>k .unk
 | .val v=>k (.val v)
 | .int l kd n=>(match l with|true=>Zfi n fun n=>k (.int true kd n)|false=>k (.int false kd n))
 | .bool l b=>Zdy l fun l=>k (.bool l b)
 | .str l s=>Zng l s k
 | .ptr b o=>X7 b fun b=>X7 o fun o=>k (.ptr b o)
 | .eptr b i w o=>k (.eptr b i w o)
 | .pptr th x o=>k (.pptr th x o)
 | .sl b o n w c=>X7 b fun b=>Znf c fun c=>k (.sl b o n w c)
 | .psl th l f=>Zdy f fun f=>k (.psl th l f)
 | .agg cs=>W0 cs fun cs=>k (.agg cs)
 | .tup vs=>W0 vs fun vs=>k (.tup vs)
 | .fn f a b=>W0 a fun a=>W0 b fun b=>k (.fn f a b)
 | .map b=>k (.map b)
 | .pmap es=>k (.pmap es)
 | .iface t v=>Ziw v fun v=>k (.iface t v)
 | .pan u=>k (.pan u)
def Za5 (l:List (SV Y)):(List (SV Y)->Prop)->Prop:=
 List.rec (motive:=fun _=>(List (SV Y)->Prop)->Prop) (fun k=>k []) (fun x _ ih k=>Zix x fun x=>ih fun r=>k (x::r)) l
def force (v:SV Y) (k:SV Y->Prop):Prop:=
 match v with
 | .unk=>k .unk
 | .val v=>k (.val v)
 | .int l kd n=>(match l with|true=>Zfi n fun n=>k (.int true kd n)|false=>k (.int false kd n))
 | .bool l b=>Zdy l fun l=>k (.bool l b)
 | .str l s=>Zng l s k
 | .ptr b o=>X7 b fun b=>X7 o fun o=>k (.ptr b o)
 | .eptr b i w o=>k (.eptr b i w o)
 | .pptr th x o=>k (.pptr th x o)
 | .sl b o n w c=>X7 b fun b=>Znf c fun c=>k (.sl b o n w c)
 | .psl th l f=>Zdy f fun f=>k (.psl th l f)
 | .agg cs=>W0 cs fun cs=>k (.agg cs)
 | .tup vs=>Za5 vs fun vs=>k (.tup vs)
 | .fn f a b=>W0 a fun a=>W0 b fun b=>k (.fn f a b)
 | .map b=>k (.map b)
 | .pmap es=>k (.pmap es)
 | .iface t v=>Zix v fun v=>k (.iface t v)
 | .pan u=>k (.pan u)
def Zgw:Option (Blk Y)->(Option (Blk Y)->Prop)->Prop
 |none,k=>k none
 |some (.raw cs fz tg),k=>W0 cs fun cs=>k (some (.raw cs fz tg))
 |some (.rows th l fz),k=>k (some (.rows th l fz))
 |some (.map es),k=>k (some (.map es))
def wr (kd:IntKind) (n:Int):Int:=kd.wrap n
mutual
def idsV:SV Y->List Nat
 | .ptr b _=> [b]
 | .eptr b _ _ _=> [b]
 | .sl b _ _ _ _=> [b]
 | .map b=> [b]
 | .agg cs=>idsL cs
 | .tup cs=>idsL cs
 | .fn _ a b=>idsL a++idsL b
 | .iface _ v=>idsV v
 | .pmap es=>idsE es
 |_=> []
def idsL:List (SV Y)->List Nat
 | []=> []
 |x::r=>idsV x++idsL r
def idsE:List (Value×SV Y)->List Nat
 | []=> []
 |(_,x)::r=>idsV x++idsE r
end
def idsB:Option (Blk Y)->List Nat
 |some (.raw cs _ _)=>idsL cs
 |some (.map es)=>idsE es
 |_=> []
def idsM (h:Hp Y):List Nat->List Nat
 | []=> []
 |b::r=>idsB (h b)++idsM h r
def Zpb (h:Hp Y) (i:Nat):Nat->List Nat->List Nat->List Nat
 |0,_,seen=>seen
 |_+1,[],seen=>seen
 |f+1,b::w,seen=>match Nat.ble i b&& !(memB b seen) with|true=>Zpb h i f (idsB (h b)++w) (b::seen)|false=>Zpb h i f w seen
mutual
def nid (i:Nat):SV Y->Bool
 | .ptr b _=>Nat.blt b i
 | .eptr b _ _ _=>Nat.blt b i
 | .sl b _ _ _ _=>Nat.blt b i
 | .map b=>Nat.blt b i
 | .agg cs=>nidL i cs
 | .tup cs=>nidL i cs
 | .fn _ a b=>nidL i a&&nidL i b
 | .pmap es=>nidE i es
 | .iface _ v=>nid i v
 | .pan _=>false
 |_=>true
def nidL (i:Nat):List (SV Y)->Bool
 | []=>true
 |x::r=>nid i x&&nidL i r
def nidE (i:Nat):List (Value×SV Y)->Bool
 | []=>true
 |(_,x)::r=>nid i x&&nidE i r
end
def nidB (i:Nat):Option (Blk Y)->Bool
 |none=>true
 |some (.raw cs _ _)=>nidL i cs
 |some (.rows _ _ _)=>true
 |some (.map es)=>nidE i es
def need (l:Bool) (p:Prop) [Decidable p] (K:Prop):Prop:=
 match l with
 |true=>(match decide p with|true=>K|false=>False)
 |false=>p/\K
def getK {α:Type} (lit:Bool) (l:List α) (j:Nat) (k:α->Prop):Prop:=
 match lit with
 |true=>(match l[j]? with|some x=>k x|none=>False)
 |false=>j<l.length/\∀x,l[j]? =some x->k x
def ixK {α:Type} (lit:Bool) (l:List α) (n:Int) (k:α->Prop):Prop:=
 match lit with
 |true=>(match decide (0<=n),l[n.toNat]? with|true,some x=>k x|_,_=>False)
 |false=>0<=n/\n<l.length/\∀x,l[n.toNat]? =some x->k x
def Uy (a b:Nat) (K:Prop):Prop:=match Nat.beq a b with|true=>K|false=>False
def split (l b:Bool) (K:Bool->Prop):Prop:=
 match l with
 |true=>K b
 |false=>(b=true->K true)/\(b=false->K false)
def Zdz (big l b:Bool) (K:Bool->Prop):Prop:=
 match big&& !l with
 |true=>∀v:Bool,v=b->(v=true->K true)/\(v=false->K false)
 |false=>split l b K
def Zz6 {α:Type} (b:Bool) (l:List α) (k:List α->Prop):Prop:=
 match b with
 |true=>∀l',l'=l->k l'
 |false=>k l
theorem Znh {α:Type} {b:Bool} {l:List α} {k:List α->Prop} (h:Zz6 b l k):k l:=by
 cases b
 · exact h
 · exact h l rfl
def Zs:TypeDesc->Bool
 | .struct _=>true
 | .array _ _=>true
 |_=>false
def SV.cells:SV Y->List (SV Y)
 | .agg cs=>cs
 |v=> [v]
def W8 (isRow:Bool) (n off:Nat) (cs:List (SV Y)):Option (SV Y):=
 match isRow with
 |true=>(match decide (off+n<=cs.length) with|true=>some (.agg ((cs.drop off).take n))|false=>none)
 |false=>cs[off]?
def Xq (cs:List (SV Y)) (off:Nat) (vs:List (SV Y)):List (SV Y):=cs.take off++vs++cs.drop (off+vs.length)
def Z2s:Value->Bool
 | .agg _=>false
 | .tuple _=>false
 |_=>true
def leaf:SV Y->Bool
 | .unk=>false
 | .agg _=>false
 | .tup _=>false
 | .val v=>Z2s v
 |_=>true
def leaves:List (SV Y)->Bool
 | []=>true
 |x::r=>match leaf x with|true=>leaves r|false=>false
def Zlh (E:Eng Y) (t:TypeId) (x:SV Y) (h:Hp Y) (k:Res Y->Prop):Prop:=
 match E.ty t with
 |none=>False
 |some i=>
  match x with
  | .ptr b off=>
   match h b with
   |some (.raw cs _ _)=>(match W8 (Zs i.d) i.size off cs with|some v=>k (Zd [b] v)|none=>False)
   |_=>False
  | .eptr b j w off=>
   match h b with
   |some (.rows th l _)=>Uy w (E.w th) (getK E.lit l j fun x=>match W8 (Zs i.d) i.size off (E.enc th x) with|some v=>k (Zd [b] v)|none=>False)
   |_=>False
  | .pptr th x off=>(match W8 (Zs i.d) i.size off (E.enc th x) with|some v=>k (Zd [] v)|none=>False)
  | .val (.pointer (some ⟨g,o,none⟩))=>(match E.glob g,Zs i.d with|some v,false=>(match v.cells[o]? with|some s=>k (Zd [] s)|none=>False)|_,_=>False)
  |_=>False
def Zni (E:Eng Y) (t:TypeId) (x v:SV Y) (h:Hp Y) (k:Res Y->Prop):Prop:=
 match E.ty t with
 |none=>False
 |some i=>
  match decide (v.cells.length=i.size)&&leaves v.cells with
  |false=>False
  |true=>
   match x with
   | .ptr b off=>
    match h b with
    |some (.raw cs fz tg)=>
     (match Nat.ble fz off&&Nat.ble (off+i.size) cs.length with|true=>k (change b (some (.raw (Xq cs off v.cells) fz tg)) .unk [b])|false=>False)
    |_=>False
   | .eptr b j w off=>
    match h b with
    |some (.rows th l fz)=>Uy w (E.w th) (need E.lit (fz<=j) (getK E.lit l j fun x=>
     match Nat.ble (off+i.size) (E.enc th x).length,E.dec th (Xq (E.enc th x) off v.cells) with|true,some x'=>Zz6 (E.nap (E.el th)) (l.set j x') fun L=>k (change b (some (.rows th L fz)) .unk [b])|_,_=>False))
    |_=>False
   |_=>False
def Wk (E:Eng Y) (s:TypeId) (x:SV Y) (f:Nat) (k:Res Y->Prop):Prop:=
 match E.ty s with
 |some ⟨.struct fs,_,_,_⟩=>
  match fs[f]? with
  |some fd=>
   match E.ty fd.type with
   |some ti=>(match ti.size with
    |0=>False
    |_=>(match x with
     | .ptr b off=>k (Zd [] (.ptr b (off+fd.offset)))
     | .eptr b j w off=>k (Zd [] (.eptr b j w (off+fd.offset)))
     | .pptr th y off=>k (Zd [] (.pptr th y (off+fd.offset)))
     |_=>False))
   |none=>False
  |none=>False
 |_=>False
def Zfj (E:Eng Y) (s:TypeId) (x:SV Y) (f:Nat) (k:Res Y->Prop):Prop:=
 match E.ty s,x with
 |some ⟨.struct fs,_,_,_⟩,.agg cs=>
  match fs[f]? with
  |some fd=>
   match E.ty fd.type with
   |some ti=>(match W8 (Zs ti.d) ti.size fd.offset cs with|some v=>k (Zd [] v)|none=>False)
   |none=>False
  |none=>False
 |_,_=>False
def Wg (E:Eng Y) (th:Y.Th) (l:List (Y.dom th)) (d0:Y.dom th):Nat->Nat->List (SV Y)
 |0,_=> []
 |n+1,j=>match j with
  |0=>E.enc th (l.getD 0 d0)++Wg E th l d0 n 1
  |Nat.succ m=>E.enc th (l.getD (Nat.succ m) d0)++Wg E th l d0 n (Nat.succ (Nat.succ m))
def Wq (w:Nat):Nat->List (SV Y)->List (List (SV Y))
 |0,_=> []
 |n+1,cs=>cs.take w::Wq w n (cs.drop w)
def Ws (E:Eng Y) (th:Y.Th):List (List (SV Y))->Option (List (Y.dom th))
 | []=>some []
 |r::rs=>(match E.dec th r,Ws E th rs with|some x,some l=>some (x::l)|_,_=>none)
def Zs7 (E:Eng Y) (t:TypeId) (b:Nat) (th:Y.Th) (l:List (Y.dom th)) (k:Res Y->Prop):Prop:=
 match E.ty t with
 |some ⟨.array n el,sz,_,_⟩=>
  match E.ty el with
  |some te=>
   match E.dec th (Yo te.zero:SV Y).cells,Nat.beq sz (n*E.w th) with
   |some d0,true=>need E.lit (l.length=n) (k (Zd [b] (.agg (Wg E th l d0 n 0))))
   |_,_=>False
  |none=>False
 |_=>False
def Zfk (E:Eng Y) (t:TypeId) (x:SV Y) (h:Hp Y) (k:Res Y->Prop):Prop:=
 match x with
 | .ptr b 0=>(match h b with|some (.rows th l _)=>Zs7 E t b th l k|_=>Zlh E t x h k)
 |x=>Zlh E t x h k
def Z2t {α:Type} (l:Bool) (x:α) (k:α->Prop):Prop:=match l with|true=>k x|false=>∀y,y=x->k y
def Zs8 (E:Eng Y) (t:TypeId) (b:Nat) (th:Y.Th) (l:List (Y.dom th)) (v:SV Y) (k:Res Y->Prop):Prop:=
 match E.ty t with
 |some ⟨.array n _,sz,_,_⟩=>
  match Ws E th (Wq (E.w th) n v.cells),(Nat.beq sz (n*E.w th)&&Nat.beq v.cells.length sz)&&leaves v.cells with
  |some l',true=>need E.lit (l.length=n) (Z2t E.lit l' fun l'=>k (change b (some (.rows th l' 0)) .unk [b]))
  |_,_=>False
 |_=>False
def Zli (E:Eng Y) (t:TypeId) (x v:SV Y) (h:Hp Y) (k:Res Y->Prop):Prop:=
 match x with
 | .ptr b 0=>(match h b with|some (.rows th l 0)=>Zs8 E t b th l v k|_=>Zni E t x v h k)
 |x=>Zni E t x v h k
def Zgx (E:Eng Y) (t:TypeId) (th:Y.Th) (i:Nat) (k:Res Y->Prop):Prop:=
 match E.ty t with
 |some ⟨.array n _,sz,_,z⟩=>
  match Ws E th (Wq (E.w th) n (Yo z:SV Y).cells),Nat.beq (Yo z:SV Y).cells.length (n*E.w th) with
  |some l,true=>k (fresh i (.ptr i 0) (.rows th l 0) [])
  |_,_=>False
 |_=>False
def Ziy (kd:IntKind):List (SV Y)->Option (List Int)
 | []=>some []
 | .int _ k n::r=>(match decide (k=kd),Ziy kd r with|true,some l=>some (n::l)|_,_=>none)
 |_::_=>none
def Zgy (n:Int) (k:Nat->Prop):Nat->Nat->Prop
 |0,_=>True
 |c+1,j=>((n==(j:Int))=true->k j)/\((n==(j:Int))=false->Zgy n k c (j+1))
def Zpc (l:Bool) (n:Int) (len:Nat) (k:Nat->Prop):Prop:=
 match l with
 |true=>need true (0<=n/\n<len) (k n.toNat)
 |false=>0<=n/\n<len/\Zgy n k len 0
def Xd (E:Eng Y) (t:TypeId) (x ix:SV Y) (h:Hp Y) (k:Res Y->Prop):Prop:=
 match E.ty t,ix with
 |some ⟨.array len el,_,_,_⟩,.int l _ n=>
  match E.ty el,x,l with
  |some ti,.ptr b off,true=>(match decide (0<=n)&&Nat.blt n.toNat len with|true=>k (Zd [] (.ptr b (off+n.toNat*ti.size)))|false=>False)
  |some ti,.pptr th y off,true=>(match decide (0<=n)&&Nat.blt n.toNat len with|true=>k (Zd [] (.pptr th y (off+n.toNat*ti.size)))|false=>False)
  |some ti,.val (.pointer (some ⟨g,o,none⟩)),true=>(match decide (0<=n)&&Nat.blt n.toNat len with|true=>k (Zd [] (.val (.pointer (some ⟨g,o+n.toNat*ti.size,none⟩))))|false=>False)
  |some ti,.val (.pointer (some ⟨g,o,none⟩)),false=>0<=n/\n<len/\Zgy n (fun j=>k (Zd [] (.val (.pointer (some ⟨g,o+j*ti.size,none⟩))))) len 0
  |some ti,.ptr b off,false=>0<=n/\n<len/\Zgy n (fun j=>k (Zd [] (.ptr b (off+j*ti.size)))) len 0
  |some ti,.pptr th y off,false=>0<=n/\n<len/\Zgy n (fun j=>k (Zd [] (.pptr th y (off+j*ti.size)))) len 0
  |some ti,.eptr b q w off,true=>(match decide (0<=n)&&Nat.blt n.toNat len with|true=>k (Zd [] (.eptr b q w (off+n.toNat*ti.size)))|false=>False)
  |some ti,.eptr b q w off,false=>0<=n/\n<len/\Zgy n (fun j=>k (Zd [] (.eptr b q w (off+j*ti.size)))) len 0
  |_,_,_=>False
 |some ⟨.slice el,_,_,_⟩,.int l _ n=>
  match E.ty el with
  |some ti=>
   match x with
   | .psl th ls _=>Uy ti.size (E.w th) (ixK (l&&E.lit) ls n fun y=>k (Zd [] (.pptr th y 0)))
   | .sl b off len w _=>
    match h b with
    |some (.raw cs _ _)=>Zpc l n len fun j=>Uy ti.size w (k (Zd [] (.ptr b ((off+j)*w))))
    |some (.rows th ls _)=>need (l&&E.lit) (0<=n/\n<len) (Uy ti.size w (Uy w (E.w th) (k (Zd [] (.eptr b (off+n.toNat) w 0)))))
    |_=>False
   |_=>False
  |none=>False
 |_,_=>False
def Zae (E:Eng Y) (t:TypeId) (b:Nat) (th:Y.Th) (ix:SV Y) (k:Res Y->Prop):Prop:=
 match E.ty t,ix with
 |some ⟨.array len el,_,_,_⟩,.int f _ n=>
  (match E.ty el with|some te=>need (f&&E.lit) (0<=n/\n<len) (Uy te.size (E.w th) (k (Zd [] (.eptr b n.toNat te.size 0))))|none=>False)
 |_,_=>False
def Zaf (E:Eng Y) (g len:Nat) (el:TypeId) (n:Int) (k:Res Y->Prop) (z:Prop):Prop:=
 match E.glob g,E.thOf el with
 |some v,some th=>
  (match Ws E th (Wq (E.w th) len v.cells) with
  |some l=>(match E.ty el with|some te=>Uy te.size (E.w th) (ixK false l n fun y=>k (Zd [] (.pptr th y 0)))|none=>False)
  |none=>z)
 |_,_=>z
def X0 (E:Eng Y) (t:TypeId) (x ix:SV Y) (h:Hp Y) (k:Res Y->Prop):Prop:=
 match x with
 | .ptr b 0=>(match h b with|some (.rows th _ _)=>Zae E t b th ix k|_=>Xd E t x ix h k)
 | .val (.pointer (some ⟨g,0,none⟩))=>(match E.ty t,ix with|some ⟨.array len el,_,_,_⟩,.int false _ n=>Zaf E g len el n k (Xd E t x ix h k)|_,_=>Xd E t x ix h k)
 |x=>Xd E t x ix h k
def Zd0 (E:Eng Y) (t:TypeId) (x ix:SV Y) (k:Res Y->Prop):Prop:=
 match E.ty t,x,ix with
 |some ⟨.array len el,_,_,_⟩,.agg cs,.int l _ n=>
  match E.ty el,l with
  |some ti,true=>(match decide (0<=n)&&Nat.blt n.toNat len,W8 (Zs ti.d) ti.size (n.toNat*ti.size) cs with|true,some v=>k (Zd [] v)|_,_=>False)
  |some ⟨.int kd,sz,_,_⟩,false=>(match Ziy kd cs,Nat.beq cs.length len&&Nat.beq sz 1 with|some ls,true=>0<=n/\n<len/\∀y,ls[n.toNat]? =some y->k (Zd [] (.int false kd y))|_,_=>False)
  |_,_=>False
 |some ⟨.string,_,_,_⟩,.str l s,.int m _ n=>ixK (l&&m) s n fun y=>k (Zd [] (.int (l&&m) .u8 (y:Nat)))
 |_,_,_=>False
def Zlj (E:Eng Y) (len:Nat) (el:TypeId) (ti:TyI) (cs:List (SV Y)) (n:Int) (k:Res Y->Prop):Prop:=
 match E.thOf el with
 |some th=>
  (match Ws E th (Wq (E.w th) len cs),Nat.beq cs.length (len*E.w th)&&Nat.beq ti.size (E.w th) with
  |some ls,true=>ixK false ls n fun y=>k (Zd [] (.agg (E.enc th y)))
  |_,_=>False)
 |none=>False
def Zbv (E:Eng Y) (t:TypeId) (x ix:SV Y) (k:Res Y->Prop):Prop:=
 match E.ty t,x,ix with
 |some ⟨.array len el,_,_,_⟩,.agg cs,.int false _ n=>
  (match E.ty el with
  |some ti=>(match Zs ti.d with|true=>Zlj E len el ti cs n k|false=>Zd0 E t x ix k)
  |none=>False)
 |_,_,_=>Zd0 E t x ix k
def Zn (op:BinOp) (kd:IntKind) (a b:Int):Int:=
 match op with
 | .and=>kd.wrap (BitVec.ofInt kd.bits a&&&BitVec.ofInt kd.bits b).toNat
 | .or=>kd.wrap (BitVec.ofInt kd.bits a|||BitVec.ofInt kd.bits b).toNat
 | .xor=>kd.wrap (BitVec.ofInt kd.bits a^^^BitVec.ofInt kd.bits b).toNat
 |_=>kd.wrap (BitVec.ofInt kd.bits a&&& ~~~BitVec.ofInt kd.bits b).toNat
def intR (f:Bool) (kd:IntKind) (n:Int) (k:Res Y->Prop):Prop:=k (Zd [] (.int f kd n))
def Uz (f v:Bool) (k:Res Y->Prop):Prop:=split f v fun v=>k (Zd [] (.bool true v))
def Zs9 (op:BinOp) (f m:Bool) (kd:IntKind) (a b:Int) (k:Res Y->Prop):Prop:=
 match op with
 | .add=>intR f kd (wr kd (a+b)) k
 | .sub=>intR f kd (wr kd (a-b)) k
 | .mul=>intR f kd (wr kd (a*b)) k
 | .quo=>need m (b≠0) (intR f kd (wr kd (a.tdiv b)) k)
 | .rem=>need m (b≠0) (intR f kd (a.tmod b) k)
 | .eql=>Uz f (a==b) k
 | .neq=>Uz f (a !=b) k
 | .lss=>Uz f (decide (a<b)) k
 | .leq=>Uz f (decide (a<=b)) k
 | .gtr=>Uz f (decide (a>b)) k
 | .geq=>Uz f (decide (a>=b)) k
 |op=>intR f kd (Zn op kd a b) k
def Zta (op:BinOp) (l m:Bool) (kd kd':IntKind) (a b:Int) (k:Res Y->Prop):Prop:=
 match op with
 | .shl=>need m (0<=b) (intR (l&&m) kd (wr kd (a*2^min b.toNat kd.bits)) k)
 | .shr=>need m (0<=b) (intR (l&&m) kd (a.fdiv (2^min b.toNat kd.bits)) k)
 |op=>match decide (kd=kd') with|false=>False|true=>Zs9 op (l&&m) m kd a b k
def Ztb (E:Eng Y) (op:BinOp) (t:TypeId) (l m a b:Bool) (k:Res Y->Prop):Prop:=
 match E.ty t with
 |some ⟨.bool,_,_,_⟩=>(match op with| .eql=>Uz (l&&m) (a==b) k| .neq=>Uz (l&&m) (!(a==b)) k|_=>False)
 |_=>False
def Ziz:List Nat->List Nat->Bool
 |_,[]=>false
 | [],_::_=>true
 |a::x,b::y=>match Nat.blt a b with|true=>true|false=>(match Nat.beq a b with|true=>Ziz x y|false=>false)
def Ztc (op:BinOp) (l m:Bool) (a b:List Nat) (k:Res Y->Prop):Prop:=
 match op with
 | .add=>need (l&&m) (a.length+b.length<=9223372036854775807) (k (Zd [] (.str (l&&m) (a++b))))
 | .eql=>Uz (l&&m) (a==b) k
 | .neq=>Uz (l&&m) (!(a==b)) k
 | .lss=>Uz (l&&m) (Ziz a b) k
 | .geq=>Uz (l&&m) (!(Ziz a b)) k
 | .gtr=>Uz (l&&m) (Ziz b a) k
 | .leq=>Uz (l&&m) (!(Ziz b a)) k
 |_=>False
def nilV:SV Y->Option Bool
 | .val (.pointer none)=>some true
 | .val .nilIface=>some true
 | .val (.slice none 0 0)=>some true
 | .val (.map none)=>some true
 | .val .nilFunc=>some true
 | .ptr _ _=>some false
 | .eptr _ _ _ _=>some false
 | .pptr _ _ _=>some false
 | .sl _ _ _ _ _=>some false
 | .fn _ _ _=>some false
 | .map _=>some false
 | .pmap _=>some false
 | .iface _ _=>some false
 |_=>none
def nilT (d:TypeDesc):SV Y->Bool
 | .val (.pointer none)=>(match d with| .pointer _=>true|_=>false)
 | .val .nilIface=>(match d with| .interface _=>true|_=>false)
 | .val (.slice none 0 0)=>(match d with| .slice _=>true|_=>false)
 | .val (.map none)=>(match d with| .map _ _=>true|_=>false)
 | .val .nilFunc=>(match d with| .func _ _ _=>true|_=>false)
 | .ptr _ _=>(match d with| .pointer _=>true|_=>false)
 | .eptr _ _ _ _=>(match d with| .pointer _=>true|_=>false)
 | .pptr _ _ _=>(match d with| .pointer _=>true|_=>false)
 | .sl _ _ _ _ _=>(match d with| .slice _=>true|_=>false)
 | .fn _ _ _=>(match d with| .func _ _ _=>true|_=>false)
 | .map _=>(match d with| .map _ _=>true|_=>false)
 | .pmap _=>(match d with| .map _ _=>true|_=>false)
 | .iface _ _=>(match d with| .interface _=>true|_=>false)
 |_=>false
def Zag:Operand->Bool
 | .const _=>true
 |_=>false
def Zwr (E:Eng Y) (op:BinOp) (t:TypeId) (x y:SV Y) (p q:Bool) (k:Res Y->Prop):Prop:=
 match E.ty t with
 |some i=>
  (match nilT i.d x&&nilT i.d y&&(p||q) with
  |true=>(match op with| .eql=>k (Zd [] (.bool true (p&&q)))| .neq=>k (Zd [] (.bool true (!(p&&q))))|_=>False)
  |false=>False)
 |none=>False
def sbin (E:Eng Y) (op:BinOp) (t:TypeId) (x y:SV Y) (k:Res Y->Prop):Prop:=
 match x,y with
 | .int l kd a,.int m kd' b=>Zta op l m kd kd' a b k
 | .bool l a,.bool m b=>Ztb E op t l m a b k
 | .str l a,.str m b=>Ztc op l m a b k
 |_,_=>False
def sun (op:UnOp) (x:SV Y) (k:Res Y->Prop):Prop:=
 match op,x with
 | .neg,.int l kd n=>k (Zd [] (.int l kd (wr kd (0-n))))
 | .xor,.int l kd n=>k (Zd [] (.int l kd (Zn .xor kd (if kd.signed then-1 else kd.max) n)))
 | .not,.bool l b=>k (Zd [] (.bool l (!b)))
 |_,_=>False
def Us (E:Eng Y) (dst:TypeId) (x:SV Y) (k:Res Y->Prop):Prop:=
 match E.ty dst,x with
 |some ⟨.int kd,_,_,_⟩,.int l _ n=>k (Zd [] (.int l kd (wr kd n)))
 |some ⟨.string,_,_,_⟩,.str l s=>k (Zd [] (.str l s))
 |_,_=>False
def Za6 (place:Nat->Option (Nat×Nat)) (cells:List (SV Y)):List (Nat×SV Y)->Option (List (SV Y))
 | []=>some cells
 |(i,v)::rest=>
  match place i with
  |none=>none
  |some (off,size)=>
   match (decide (v.cells.length=size)&&leaves v.cells)&&Nat.ble (off+size) cells.length with
   |true=>Za6 place (Xq cells off v.cells) rest
   |false=>none
def Zd1 (E:Eng Y):List Field->Option (List (Nat×Nat))
 | []=>some []
 |f::r=>(match E.ty f.type,Zd1 E r with|some ti,some l=>some ((f.offset,ti.size)::l)|_,_=>none)
def Ztd (E:Eng Y) (t:TypeId) (parts:List (Nat×SV Y)) (k:Res Y->Prop):Prop:=
 match E.ty t with
 |some ⟨.struct fs,_,_,z⟩=>
  (match Zd1 E fs.toList with
  |some pl=>(match Za6 (fun i=>pl[i]?) (Yo z:SV Y).cells parts with|some cs=>k (Zd [] (.agg cs))|none=>False)
  |none=>False)
 |some ⟨.array _ el,_,_,z⟩=>(match E.ty el with|some ti=>(match Za6 (fun i=>some (i*ti.size,ti.size)) (Yo z:SV Y).cells parts with|some cs=>k (Zd [] (.agg cs))|none=>False)|none=>False)
 |_=>False
def U0 (E:Eng Y) (el:TypeId):Option Y.Th:=match E.thOf el with|some th=>(match Nat.beq (E.el th) el with|true=>some th|false=>none)|none=>none
def Zah (E:Eng Y) (t:TypeId) (len:Nat) (parts:List (Nat×SV Y)) (i:Nat) (k:Res Y->Prop):Prop:=
 match E.ty t with
 |some ⟨.slice el,_,_,_⟩=>
  match E.ty el with
  |some ti=>
   match (Nat.ble (len*ti.size) 16777216&&Nat.ble len 16777216)&&(Nat.blt 0 ti.size&&Nat.beq (Yo ti.zero:SV Y).cells.length ti.size),Za6 (fun i=>some (i*ti.size,ti.size)) ((List.replicate len (Yo ti.zero:SV Y).cells).flatten) parts with
   |true,some cs=>k (fresh i (.sl i 0 len ti.size (some len)) (.raw cs 0 (U0 E el)) [])
   |_,_=>False
  |none=>False
 |_=>False
def V1 (E:Eng Y) (t:TypeId) (len:Nat) (parts:List (Nat×SV Y)) (i:Nat) (k:Res Y->Prop):Prop:=
 match E.ty t with
 |some ⟨.slice el,_,_,_⟩=>
  match E.ty el,U0 E el with
  |some ti,some th=>
   match (Nat.ble (len*ti.size) 16777216&&Nat.ble len 16777216)&&(Nat.blt 0 ti.size&&Nat.beq (Yo ti.zero:SV Y).cells.length ti.size),Za6 (fun i=>some (i*ti.size,ti.size)) ((List.replicate len (Yo ti.zero:SV Y).cells).flatten) parts with
   |true,some cs=>(match Ws E th (Wq (E.w th) len cs),Nat.beq ti.size (E.w th) with
    |some l,true=>k (fresh i (.sl i 0 len ti.size (some len)) (.rows th l 0) [])
    |_,_=>False)
   |_,_=>False
  |_,_=>False
 |_=>False
def Zai {th' th:Y.Th} (l:List (Y.dom th')) (k:List (Y.dom th)->Prop):Prop:=
 match Y.eq th' th with
 |isTrue e=>Eq.rec (motive:=fun t _=>(List (Y.dom t)->Prop)->Prop) (fun k=>k l) e k
 |isFalse _=>False
def Zlk (E:Eng Y) (h:Hp Y) (th:Y.Th) (x:SV Y) (k:Bool->List (Y.dom th)->List Nat->Prop):Prop:=
 match x with
 | .val (.slice none 0 0)=>k true [] []
 | .psl th' l _=>Zai l fun l=>k E.lit l []
 | .sl b off len w _=>
  match h b with
  |some (.rows th' l _)=>
   (match Nat.beq w (E.w th') with
   |true=>Zai l fun l=>need E.lit (off+len<=l.length) (match off with|0=>k E.lit (l.take len) [b]|off=>k E.lit ((l.drop off).take len) [b])
   |false=>False)
  |some (.raw cs _ _)=>(match Nat.beq w (E.w th),Ws E th (Wq w len (cs.drop (off*w))) with|true,some l=>k true l [b]|_,_=>False)
  |_=>False
 |_=>False
def at1 (i:Nat) (x:Option (Blk Y)):Hp Y:=fun j=>match Nat.beq j i with|true=>x|false=>none
def Zya {α:Type} (lit:Bool) (l:List α) (A B:Prop):Prop:=
 match lit with
 |true=>(match l with| []=>A|_::_=>B)
 |false=>(l= []->A)/\(l≠ []->B)
def V2:SV Y->Bool
 | .val (.slice none 0 0)=>true
 | .psl _ _ _=>true
 | .sl _ _ _ _ _=>true
 |_=>false
def Zll (E:Eng Y) (t:TypeId) (x1 x2:SV Y) (h:Hp Y) (i:Nat) (k:Res Y->Prop):Prop:=
 match E.ty t with
 |some ⟨.slice el,_,_,_⟩=>
  match E.ty el,U0 E el with
  |some ti,some th=>
   match (Nat.blt 0 ti.bytes&&V2 x1)&&Nat.beq (Yo ti.zero:SV Y).cells.length (E.w th) with
   |false=>False
   |true=>Zlk E h th x2 fun lit l2 rd2=>Zya lit l2 (k (Zd rd2 x1))
    (match x1 with
    | .val (.slice none 0 0)=>need lit (l2.length*ti.bytes<=140737488355328) (k (fresh i (.sl i 0 l2.length (E.w th) none) (.rows th l2 0) rd2))
    | .psl th' l1 true=>Zai l1 fun l1=>need (E.lit&&lit) ((l1.length+l2.length)*ti.bytes<=140737488355328) (k (fresh i (.sl i 0 (l1.length+l2.length) (E.w th) none) (.rows th (l1++l2) 0) rd2))
    | .sl b off len w (some c)=>Zlk E h th (.sl b off len w (some c)) fun lit1 l1 rd1=>
     need (lit1&&lit) (c<l1.length+l2.length/\(l1.length+l2.length)*ti.bytes<=140737488355328) (k (fresh i (.sl i 0 (l1.length+l2.length) (E.w th) none) (.rows th (l1++l2) 0) (rd1++rd2)))
    | .sl b 0 len w none=>
     (match h b with
     |some (.rows th' l fz)=>
      (match Nat.beq w (E.w th) with
      |true=>Zai l fun l=>need (E.lit&&lit) (len<=l.length/\fz<=len/\(len+l2.length)*ti.bytes<=140737488355328)
       (Zz6 (E.nap (E.el th)) (l.take len++l2) fun L=>k ⟨.sl i 0 (len+l2.length) (E.w th) none,1,[b],at1 i (some (.rows th L fz)),some (b::rd2)⟩)
      |false=>False)
     |_=>False)
    |_=>False)
  |_,_=>False
 |_=>False
def rawB (h:Hp Y) (b:Nat):Bool:=match h b with|some (.raw _ _ _)=>true|_=>false
def Zgz (c:Option Nat) (a:Nat):Option Nat:=match c with|some c=>some (c-a)|none=>none
def Zws (d:Int):Option (SV Y)->Option (Bool×Int)
 |none=>some (true,d)
 |some (.int f _ x)=>some (f,x)
 |_=>none
def Zte (E:Eng Y) (t:TypeId) (x:SV Y) (lo hi mx:Option (SV Y)) (h:Hp Y) (k:Res Y->Prop):Prop:=
 match E.ty t,x with
 |some ⟨.slice el,_,_,_⟩,.psl th l full=>
  match E.ty el with
  |some ti=>
   (match Nat.beq ti.size (E.w th),lo,hi,mx with
   |true,none,none,none=>k (Zd [] (.psl th l full))
   |true,none,some (.int f _ b),none=>need (f&&E.lit) (0<=b/\b<=l.length) (k (Zd [] (.psl th (l.take b.toNat) false)))
   |true,some (.int f _ a),none,none=>need (f&&E.lit) (0<=a/\a<=l.length) (k (Zd [] (.psl th (l.drop a.toNat) full)))
   |true,some (.int f _ a),some (.int f' _ b),none=>need (f&&f'&&E.lit) (0<=a/\a<=b/\b<=l.length) (k (Zd [] (.psl th ((l.take b.toNat).drop a.toNat) false)))
   |true,none,some (.int f _ b),some (.int f' _ c)=>need (f&&f'&&E.lit) (0<=b/\b=c/\b<=l.length) (k (Zd [] (.psl th (l.take b.toNat) true)))
   |_,_,_,_=>False)
  |none=>False
 |some ⟨.slice el,_,_,_⟩,.val (.slice none 0 0)=>
  match E.ty el with
  |some _=>
   (match lo,hi,mx with
   |none,none,none=>k (Zd [] (.val (.slice none 0 0)))
   |some (.int l _ a),none,none=>need l (a=0) (k (Zd [] (.val (.slice none 0 0))))
   |none,some (.int l _ a),none=>need l (a=0) (k (Zd [] (.val (.slice none 0 0))))
   |none,some (.int l _ a),some (.int l' _ c)=>need (l&&l') (a=0/\c=0) (k (Zd [] (.val (.slice none 0 0))))
   |_,_,_=>False)
  |none=>False
 |some ⟨.slice el,_,_,_⟩,.sl b off len w cap=>
  match E.ty el with
  |some ti=>
   (match Nat.beq ti.size w,lo,hi,mx with
   |true,none,none,none=>k (Zd [] (.sl b off len w cap))
   |true,none,some (.int l _ c),none=>need (l&&(E.lit||rawB h b)) (0<=c/\c<=len) (k (Zd [] (.sl b off c.toNat w cap)))
   |true,none,some (.int l _ c),some (.int l' _ m)=>need (l&&l'&&(E.lit||rawB h b)) (0<=c/\c<=m/\m<=len) (k (Zd [] (.sl b off c.toNat w (some m.toNat))))
   |true,some (.int l _ a),none,none=>need (l&&(E.lit||rawB h b)) (0<=a/\a<=len) (split (l&&(E.lit||rawB h b)) (decide (a<len)) fun v=>
    (match v,U0 E el with|true,_=>k (Zd [] (.sl b (off+a.toNat) (len-a.toNat) w (Zgz cap a.toNat)))|false,some th=>k (Zd [] (.psl th [] false))|_,_=>False))
   |true,some (.int l _ a),some (.int l' _ c),none=>need (l&&l'&&(E.lit||rawB h b)) (0<=a/\a<=c/\c<=len) (split (l&&l'&&(E.lit||rawB h b)) (decide (a<c)) fun v=>
    (match v,U0 E el with|true,_=>k (Zd [] (.sl b (off+a.toNat) (c.toNat-a.toNat) w (Zgz cap a.toNat)))|false,some th=>k (Zd [] (.psl th [] false))|_,_=>False))
   |_,_,_,_=>False)
  |none=>False
 |some ⟨.string,_,_,_⟩,.str l s=>
  (match lo,hi,mx with
  |none,none,none=>k (Zd [] (.str l s))
  |none,some (.int m _ b),none=>need (l&&m) (0<=b/\b<=s.length) (k (Zd [] (.str (l&&m) (s.take b.toNat))))
  |some (.int m _ a),none,none=>need (l&&m) (0<=a/\a<=s.length) (k (Zd [] (.str (l&&m) (s.drop a.toNat))))
  |some (.int m _ a),some (.int m' _ b),none=>need (l&&m&&m') (0<=a/\a<=b/\b<=s.length) (k (Zd [] (.str (l&&m&&m') ((s.take b.toNat).drop a.toNat))))
  |_,_,_=>False)
 |some ⟨.array n el,_,_,_⟩,.ptr b 0=>
  (match mx,Zws 0 lo,Zws n hi,E.ty el with
  |none,some (f,a),some (f',c),some ti=>
   (match h b with
   |some (.raw cs _ _)=>
    (match Nat.beq cs.length (n*ti.size)&&Nat.ble n 9007199254740992,f&&f' with
    |true,true=>need true (0<=a/\a<=c/\c<=n/\(a<n\/a=0)) (k (Zd [b] (.sl b a.toNat (c.toNat-a.toNat) ti.size (some (n-a.toNat)))))
    |_,_=>False)
   |some (.rows th l _)=>
    (match Nat.beq ti.size (E.w th)&&Nat.ble n 9007199254740992 with
    |true=>need (E.lit&&f&&f') (l.length=n/\0<=a/\a<=c/\c<=n/\(a<n\/a=0)) (k (Zd [b] (.sl b a.toNat (c.toNat-a.toNat) ti.size (some (n-a.toNat)))))
    |false=>False)
   |_=>False)
  |_,_,_,_=>False)
 |some ⟨.array n el,_,_,_⟩,.val (.pointer (some ⟨g,0,none⟩))=>
  (match lo,hi,mx with
  |none,none,none=>
   (match E.ty el,E.glob g,U0 E el with
   |some ti,some sv,some th=>
    (match Nat.beq ti.size (E.w th)&&(Nat.ble n 9007199254740992&&Nat.blt 0 n),Ws E th (Wq (E.w th) n sv.cells) with
    |true,some l=>k (Zd [] (.psl th l true))
    |_,_=>False)
   |_,_,_=>False)
  |_,_,_=>False)
 |_,_=>False
def W9 (ki:Bool) (key:SV Y):List (Value×SV Y)->(SV Y->Prop)->Prop->Prop
 | [],_,z=>z
 |(kv,v)::r,f,z=>
  match ki,kv,key with
  |true,.int kd b,.int l kd' a=>(match decide (kd'=kd) with|true=>split l (a==b) (fun q=>match q with|true=>f v|false=>W9 ki key r f z)|false=>False)
  |false,.string b,.str l a=>split l (a==toL b) fun q=>(match q with|true=>f v|false=>W9 ki key r f z)
  |_,_,_=>False
def Zi0 (ki:Bool):SV Y->Option Value
 | .int _ kd n=>(match ki with|true=>some (.int kd n)|false=>none)
 | .str _ s=>(match ki with|false=>some (.string (mkS s))|true=>none)
 |_=>none
def Ze0 (ki:Bool) (key:Value) (v:SV Y):List (Value×SV Y)->Option (List (Value×SV Y))
 | []=>some [(key,v)]
 |(kv,u)::r=>
  match ki,kv,key with
  |true,.int kd b,.int kd' a=>(match decide (kd'=kd) with|true=>(match (a==b) with|true=>some ((kv,v)::r)|false=>(match Ze0 ki key v r with|some l=>some ((kv,u)::l)|none=>none))|false=>none)
  |false,.string b,.string a=>(match (toL a==toL b) with|true=>some ((kv,v)::r)|false=>(match Ze0 ki key v r with|some l=>some ((kv,u)::l)|none=>none))
  |_,_,_=>none
def Zaj (E:Eng Y) (kt:TypeId):Option Bool:=
 match E.ty kt with
 |some ⟨.int _,_,_,_⟩=>some true
 |some ⟨.string,_,_,_⟩=>some false
 |_=>none
def Zpd (h:Hp Y):SV Y->Option (List (Value×SV Y)×List Nat)
 | .map b=>(match h b with|some (.map es)=>some (es,[b])|_=>none)
 | .pmap es=>some (es,[])
 |_=>none
def Z2u (ki:Bool) (zero:SV Y) (rd:List Nat) (ok:Bool) (key:SV Y) (es:List (Value×SV Y)) (k:Res Y->Prop):Prop:=
 W9 ki key es (fun v=>k (Zd rd (match ok with|true=> .tup [v,.bool true true]|false=>v))) (k (Zd rd (match ok with|true=> .tup [zero,.bool true false]|false=>zero)))
def Zlm (E:Eng Y) (t:TypeId) (x key:SV Y) (ok:Bool) (h:Hp Y) (k:Res Y->Prop):Prop:=
 match E.ty t with
 |some ⟨.map kt et,_,_,_⟩=>
  match Zaj E kt,E.ty et,Zpd h x with
  |some ki,some ti,some (es,rd)=>Z2u ki (Yo ti.zero) rd ok key es k
  |_,_,_=>False
 |_=>False
def sput (E:Eng Y) (t:TypeId) (x key v:SV Y) (h:Hp Y) (k:Res Y->Prop):Prop:=
 match E.ty t,x with
 |some ⟨.map kt _,_,_,_⟩,.map b=>
  match Zaj E kt,h b with
  |some ki,some (.map es)=>(match Zi0 ki key with|some kv=>(match Ze0 ki kv v es with|some es'=>k (change b (some (.map es')) .unk [b])|none=>False)|none=>False)
  |_,_=>False
 |_,_=>False
open Classical in
def Zak {α β:Type}:List (α×β)->α->Option β
 | [],_=>none
 |p::r,a=>if p.1=a then some p.2 else Zak r a
open Classical in
def putS {α β:Type}:List (α×β)->α->β->List (α×β)
 | [],a,v=> [(a,v)]
 |p::r,a,v=>if p.1=a then (p.1,v)::r else p::putS r a v
def Zal (E:Eng Y) (th:Y.Th) (isRow:Bool) (x:Y.dom th):SV Y:=match isRow with|true=> .agg (E.enc th x)|false=>(match E.enc th x with| [v]=>v|_=> .unk)
def Zi1 {β:Type} (kd:IntKind) (vv:β->SV Y) (l:List (Int×β)):List (Value×SV Y):=l.map fun p=>(.int kd p.1,vv p.2)
def Zi2 {β:Type} (vv:β->SV Y) (l:List (List Nat×β)):List (Value×SV Y):=l.map fun p=>(.string (mkS p.1),vv p.2)
def Byt (s:List Nat):Prop:=toL (mkS s)=s
def Ztf (isRow:Bool):SV Y->Bool
 | .agg _=>isRow
 | .tup _=>false
 | .unk=>false
 |_=> !isRow
def Zwt {β:Type} (vv:β->SV Y) (z:β) (zero:SV Y) (rd:List Nat) (ok:Bool) (o:Option β) (k:Res Y->Prop):Prop:=
 match ok with
 |false=>∀y,y=o.getD z->k (Zd rd (vv y))
 |true=>(∀y,o=some y->k (Zd rd (.tup [vv y,.bool true true])))/\(o=none->k (Zd rd (.tup [zero,.bool true false])))
def Z2v (E:Eng Y) (th:Y.Th) (ti:TyI) (ki:Bool) (key:SV Y) (es:List (Value×SV Y)) (rd:List Nat) (ok:Bool) (k:Res Y->Prop):Prop:=
 match E.dec th (Yo ti.zero:SV Y).cells,(Nat.beq (Yo ti.zero:SV Y).cells.length (E.w th)&&(Zs ti.d||Nat.beq (E.w th) 1))&&Ztf (Zs ti.d) (Yo ti.zero:SV Y) with
 |some z,true=>
  (match ki,key with
  |true,.int _ kd a=>∃l,es=Zi1 kd (Zal E th (Zs ti.d)) l/\Zwt (Zal E th (Zs ti.d)) z (Yo ti.zero) rd ok (Zak l a) k
  |false,.str _ a=>∃l,es=Zi2 (Zal E th (Zs ti.d)) l/\(∀p∈l,Byt p.1)/\Zwt (Zal E th (Zs ti.d)) z (Yo ti.zero) rd ok (Zak l a) k
  |_,_=>False)
 |_,_=>False
def Zg0 (E:Eng Y) (t:TypeId) (x key:SV Y) (ok:Bool) (h:Hp Y) (k:Res Y->Prop):Prop:=
 match E.smap t,x with
 |some th,.map b=>
  (match E.ty t,h b with
  |some ⟨.map kt et,_,_,_⟩,some (.map es)=>(match Zaj E kt,E.ty et with|some ki,some ti=>Z2v E th ti ki key es [b] ok k|_,_=>False)
  |_,_=>False)
 |_,_=>Zlm E t x key ok h k
def putT (E:Eng Y) (th:Y.Th) (ti:TyI) (ki:Bool) (key v:SV Y) (es:List (Value×SV Y)) (b:Nat) (k:Res Y->Prop):Prop:=
 match E.dec th v.cells,(Nat.beq v.cells.length (E.w th)&&(Zs ti.d||Nat.beq (E.w th) 1))&&Ztf (Zs ti.d) v with
 |some z,true=>
  (match ki,key with
  |true,.int _ kd a=>∃l,es=Zi1 kd (Zal E th (Zs ti.d)) l/\k (change b (some (.map (Zi1 kd (Zal E th (Zs ti.d)) (putS l a z)))) .unk [b])
  |false,.str _ a=>∃l,es=Zi2 (Zal E th (Zs ti.d)) l/\(∀p∈l,Byt p.1)/\Byt a/\k (change b (some (.map (Zi2 (Zal E th (Zs ti.d)) (putS l a z)))) .unk [b])
  |_,_=>False)
 |_,_=>False
def Zz7 (E:Eng Y) (t:TypeId) (x key v:SV Y) (h:Hp Y) (k:Res Y->Prop):Prop:=
 match E.smap t,x with
 |some th,.map b=>
  (match E.ty t,h b with
  |some ⟨.map kt et,_,_,_⟩,some (.map es)=>(match Zaj E kt,E.ty et with|some ki,some ti=>putT E th ti ki key v es b k|_,_=>False)
  |_,_=>False)
 |_,_=>sput E t x key v h k
def slen (E:Eng Y) (t:TypeId) (x:SV Y) (h:Hp Y) (k:Res Y->Prop):Prop:=
 match E.ty t,x with
 |some ⟨.slice _,_,_,_⟩,.psl _ l _=>k (Zd [] (.int E.lit .i64 l.length))
 |some ⟨.slice _,_,_,_⟩,.sl b _ n _ _=>k (Zd [] (.int (E.lit||rawB h b) .i64 n))
 |some ⟨.slice _,_,_,_⟩,.val (.slice none n _)=>k (Zd [] (.int true .i64 n))
 |some ⟨.string,_,_,_⟩,.str l s=>k (Zd [] (.int l .i64 s.length))
 |some ⟨.array n _,_,_,_⟩,_=>k (Zd [] (.int true .i64 n))
 |_,_=>False
def mm2 (mx:Bool) (a b:Int):Int:=match mx with|true=>if b>a then b else a|false=>if b<a then b else a
def smm (mx:Bool):SV Y->List (SV Y)->Option (SV Y)
 |x,[]=>some x
 | .int l kd a,.int m kd' b::r=>(match decide (kd=kd') with|true=>smm mx (.int (l&&m) kd (mm2 mx a b)) r|false=>none)
 |_,_=>none
def Zbw (mx:Bool) (x:SV Y) (r:List (SV Y)) (k:Res Y->Prop):Prop:=match smm mx x r with|some v=>k (Zd [] v)|none=>False
def Zz8 (E:Eng Y) (t:TypeId) (x1 x2:SV Y) (i:Nat) (k:Res Y->Prop):Prop:=
 match E.ty t,x1,x2 with
 |some ⟨.slice el,_,_,_⟩,.int l _ n,.int m _ c=>
  match E.ty el with
  |some ti=>
   match (Nat.blt 0 ti.bytes&&Nat.blt 0 ti.size)&&Nat.beq (Yo ti.zero:SV Y).cells.length ti.size,l&&m with
   |true,true=>need true (0<=n/\n<=c/\ti.bytes*c<=281474976710656) (k (fresh i (.sl i 0 n.toNat ti.size (some c.toNat)) (.raw (List.replicate c.toNat (Yo ti.zero:SV Y).cells).flatten 0 (U0 E el)) []))
   |true,false=>
    (match U0 E el with
    |some th=>(match E.dec th (Yo ti.zero:SV Y).cells with
     |some z=>0<=n/\n<=c/\ti.bytes*c<=281474976710656/\k (fresh i (.sl i 0 n.toNat ti.size (some c.toNat)) (.rows th (List.replicate c.toNat z) 0) [])
     |none=>False)
    |none=>False)
   |_,_=>False
  |none=>False
 |_,_,_=>False
def Zz9 (h:Hp Y) (w:Nat):SV Y->Option (List (SV Y)×List Nat)
 | .val (.slice none 0 0)=>some ([],[])
 | .sl b off len w' _=>
  match Nat.beq w w',h b with
  |true,some (.raw cs _ _)=>(match Nat.ble ((off+len)*w) cs.length with|true=>some ((cs.drop (off*w)).take (len*w),[b])|false=>none)
  |_,_=>none
 |_=>none
def Z0a (E:Eng Y) (t:TypeId) (x1 x2:SV Y) (h:Hp Y) (k:Res Y->Prop):Prop:=
 match E.ty t,x1 with
 |some ⟨.slice el,_,_,_⟩,.sl b off len w _=>
  match E.ty el,h b with
  |some ti,some (.rows th l fz)=>
   (match Nat.beq w (E.w th)&&Nat.beq ti.size w with
   |true=>Zlk E h th x2 fun lit l2 rd2=>need E.lit (fz<=off/\off+len<=l.length)
    (k (change b (some (.rows th (l.take off++l2.take len++l.drop (off+min l2.length len)) fz)) (.int (E.lit&&lit) .i64 (min l2.length len:Nat)) (b::rd2)))
   |false=>False)
  |some ti,some (.raw cs fz tg)=>
   (match Nat.beq ti.size w&&Nat.blt 0 w,Zz9 h w x2 with
   |true,some (c2,rd2)=>
    (match (Nat.ble fz (off*w)&&Nat.ble ((off+len)*w) cs.length)&&leaves c2 with
    |true=>k (change b (some (.raw (Xq cs (off*w) (c2.take (len*w))) fz tg)) (.int true .i64 (min (c2.length/w) len:Nat)) (b::rd2))
    |false=>False)
   |_,_=>False)
  |_,_=>False
 |_,_=>False
def eqFs (E:Eng Y) (q:TypeId->SV Y->SV Y->Option (Bool×Bool)) (xs ys:List (SV Y)):List Field->Option (Bool×Bool)
 | []=>some (true,true)
 |f::fs=>
  match decide (f.name= "_"),E.ty f.type with
  |false,some ti=>
   (match W8 (Zs ti.d) ti.size f.offset xs,W8 (Zs ti.d) ti.size f.offset ys with
   |some a,some b=>(match q f.type a b,eqFs E q xs ys fs with|some (l,p),some (m,r)=>some (l&&m,p&&r)|_,_=>none)
   |_,_=>none)
  |_,_=>none
def eqIs (q:SV Y->SV Y->Option (Bool×Bool)) (isRow:Bool) (sz:Nat) (xs ys:List (SV Y)):Nat->Nat->Option (Bool×Bool)
 |0,_=>some (true,true)
 |n+1,j=>
  match W8 isRow sz (j*sz) xs,W8 isRow sz (j*sz) ys with
  |some a,some b=>(match q a b,eqIs q isRow sz xs ys n (j+1) with|some (l,p),some (m,r)=>some (l&&m,p&&r)|_,_=>none)
  |_,_=>none
def eqT (E:Eng Y):Nat->TypeId->SV Y->SV Y->Option (Bool×Bool)
 |0,_,_,_=>none
 |d+1,t,x,y=>
  match E.ty t,x,y with
  |some ⟨.int _,_,_,_⟩,.int l k a,.int m k' b=>(match decide (k=k') with|true=>some (l&&m,a==b)|false=>none)
  |some ⟨.bool,_,_,_⟩,.bool l a,.bool m b=>some (l&&m,a==b)
  |some ⟨.string,_,_,_⟩,.str l a,.str m b=>some (l&&m,a==b)
  |some ⟨.struct fs,_,_,_⟩,.agg xs,.agg ys=>(match memB t E.eqs with|true=>eqFs E (eqT E d) xs ys fs.toList|false=>none)
  |some ⟨.array n el,_,_,_⟩,.agg xs,.agg ys=>(match E.ty el with|some ti=>eqIs (eqT E d el) (Zs ti.d) ti.size xs ys n 0|none=>none)
  |_,_,_=>none
def Zpe (E:Eng Y) (op:BinOp) (t:TypeId) (x y:SV Y) (k:Res Y->Prop):Prop:=
 match x,y with
 | .agg xs,.agg ys=>
  match memB t E.eqs,eqT E 100 t (.agg xs) (.agg ys) with
  |true,some (l,q)=>(match op with| .eql=>Zdz (Nat.ble 9 xs.length) l q fun v=>k (Zd [] (.bool true v))| .neq=>Zdz (Nat.ble 9 xs.length) l (!q) fun v=>k (Zd [] (.bool true v))|_=>False)
  |_,_=>False
 |x,y=>sbin E op t x y k
def Z0b (E:Eng Y) (op:BinOp) (t:TypeId) (x y:Operand) (T:Fr Y) (k:Res Y->Prop):Prop:=
 match Zag x||Zag y,nilV (ev T x),nilV (ev T y) with
 |true,some p,some q=>Zwr E op t (ev T x) (ev T y) p q k
 |_,_,_=>Zpe E op t (ev T x) (ev T y) k
def Za7 (T:Fr Y) (c a b:Operand) (k:Res Y->Prop):Prop:=match ev T c with| .bool l x=>split l x (fun v=>match v with|true=>k (Zd [] (ev T a))|false=>k (Zd [] (ev T b)))|_=>False
def W1 (E:Eng Y) (t:TypeId) (i:Nat) (k:Res Y->Prop):Prop:=match E.ty t with|some ti=>k (fresh i (.ptr i 0) (.raw (Yo ti.zero:SV Y).cells 0 none) [])|none=>False
def Zd2 (x:SV Y) (i:Nat) (k:Res Y->Prop):Prop:=match leaves x.cells with|true=>k (fresh i (.ptr i 0) (.raw x.cells 0 none) [])|false=>False
def Znj (E:Eng Y) (t:TypeId) (th:Y.Th) (x:SV Y) (i:Nat) (k:Res Y->Prop):Prop:=
 match E.ty t with
 |some ⟨.array n _,_,_,_⟩=>
  match Ws E th (Wq (E.w th) n x.cells),Nat.beq x.cells.length (n*E.w th)&&leaves x.cells with
  |some l,true=>k (fresh i (.ptr i 0) (.rows th l 0) [])
  |_,_=>False
 |_=>False
def Zi3 (x:SV Y) (k:Res Y->Prop):Prop:=match x with| .ptr b o=>k (Zd [] (.ptr b o))| .fn (.func f) a b=>k (Zd [] (.fn (.func f) a b))|_=>False
def Znk (E:Eng Y) (el:TypeId) (s:List Nat) (k:Res Y->Prop):Prop:=
 match E.ty el,U0 E el with
 |some ⟨.int .u8,_,_,_⟩,some th=>
  Vk s fun ns=>
  (match Ws E th (Wq (E.w th) ns.length (ns.map fun n:Nat=> .int false .u8 (n:Int))),Nat.beq (E.w th) 1&&Nat.ble ns.length 1000000000 with
  |some l,true=>k (Zd [] (.psl th l false))
  |_,_=>False)
 |_,_=>False
def Zcu (fl:Bool):List (SV Y)->Option (Bool×List Nat)
 | []=>some (fl,[])
 | .int f .u8 n::r=>(match Zcu fl r with|some (g,l)=>some (f&&g,n.toNat%256::l)|none=>none)
 |_=>none
def Zam (x:SV Y) (h:Hp Y) (k:Res Y->Prop):Prop:=
 match x with
 | .val (.slice none 0 0)=>k (Zd [] (.str true []))
 | .sl b off len w _=>
  match h b with
  |some (.raw cs _ _)=>(match Nat.beq w 1&&Nat.ble (off+len) cs.length,Zcu true ((cs.drop off).take len) with|true,some (f,l)=>k (Zd [b] (.str f l))|_,_=>False)
  |_=>False
 |_=>False
def Zi4 (E:Eng Y) (t:TypeId):Bool:=match E.ty t with|some ⟨.slice el,_,_,_⟩=>(match E.ty el with|some ⟨.int .u8,_,_,_⟩=>true|_=>false)|_=>false
def Za8 (E:Eng Y) (src dst:TypeId) (x:SV Y) (h:Hp Y) (k:Res Y->Prop):Prop:=
 match E.ty src with
 |some _=>(match E.ty dst,x with
  |some ⟨.slice el,_,_,_⟩,.str true s=>Znk E el s k
  |some ⟨.string,_,_,_⟩,.val v=>(match Zi4 E src with|true=>Zam (.val v) h k|false=>False)
  |some ⟨.string,_,_,_⟩,.sl b off len w c=>(match Zi4 E src with|true=>Zam (.sl b off len w c) h k|false=>False)
  |_,_=>Us E dst x k)
 |none=>False
def Zln (E:Eng Y) (t:TypeId) (x:SV Y) (k:Res Y->Prop):Prop:=
 match E.ty t with
 |some i=>(match i.d with| .interface _=>False|_=>k (Zd [] (.iface t x)))
 |none=>False
def Zg1 (E:Eng Y) (x:SV Y) (t:TypeId) (ok:Bool) (k:Res Y->Prop):Prop:=
 match E.ty t with
 |some i=>
  (match i.d with
  | .interface _=>False
  |_=>
   (match x,ok with
   | .val .nilIface,true=>k (Zd [] (.tup [Yo i.zero,.bool true false]))
   | .iface t' v,ok=>(match Nat.beq t' t,ok with
    |true,true=>k (Zd [] (.tup [v,.bool true true]))
    |true,false=>k (Zd [] v)
    |false,true=>k (Zd [] (.tup [Yo i.zero,.bool true false]))
    |false,false=>False)
   |_,_=>False))
 |none=>False
def Zi5 (E:Eng Y) (t:TypeId) (i:Nat) (k:Res Y->Prop):Prop:=match E.ty t with|some _=>k (fresh i (.map i) (.map []) [])|none=>False
def Zg2 (x:SV Y) (n:Nat) (k:Res Y->Prop):Prop:=match x with| .tup vs=>(match vs[n]? with|some v=>k (Zd [] v)|none=>False)|_=>False
def Zg3 (E:Eng Y) (c:Call) (T:Fr Y) (h:Hp Y) (k:Res Y->Prop):Prop:=match c.argTypes[0]?,c.args[0]? with|some t,some x=>slen E t (ev T x) h k|_,_=>False
def stMm (mx:Bool) (c:Call) (T:Fr Y) (k:Res Y->Prop):Prop:=match c.args.toList with|x::r=>Zbw mx (ev T x) (r.map (ev T)) k| []=>False
def Zi6 (E:Eng Y) (c:Call) (T:Fr Y) (h:Hp Y) (i:Nat) (k:Res Y->Prop):Prop:=match c.args.toList,c.argTypes.toList with| [x,y],[t,t']=>(match Nat.beq t t' with|true=>Zll E t (ev T x) (ev T y) h i k|false=>False)|_,_=>False
def Zb8 (E:Eng Y) (c:Call) (T:Fr Y) (h:Hp Y) (k:Res Y->Prop):Prop:=match c.args.toList,c.argTypes.toList with| [x,y],t::_=>Z0a E t (ev T x) (ev T y) h k|_,_=>False
def ex0:SV Y->Option Value
 | .int _ k n=>some (.int k n)
 | .bool _ b=>some (.bool b)
 | .str _ s=>some (.string (mkS s))
 |_=>none
def exL:List (SV Y)->Option (List Value)
 | []=>some []
 |x::r=>match ex0 x with|some u=>(match exL r with|some l=>some (u::l)|none=>none)|none=>none
def ex1:SV Y->Option Value
 | .agg cs=>(match exL cs with|some l=>some (.agg l.toArray)|none=>none)
 |v=>ex0 v
def Zwu (x:SV Y) (k:Res Y->Prop):Prop:=
 match x with
 | .iface t v=>(match ex1 v with|some u=>k (Zd [] (.pan (.iface t u)))|none=>False)
 |_=>False
def sv0 (l:Bool):Value->SV Y
 | .int k n=> .int l k n
 | .bool b=> .bool l b
 | .string s=> .str l (toL s)
 |v=> .val v
def sv1 (l:Bool):Value->SV Y
 | .agg cs=> .agg (cs.toList.map (sv0 l))
 |v=>sv0 l v
def svP (l:Bool):Value->SV Y
 | .iface t u=> .iface t (sv1 l u)
 |v=> .val v
def idxL (c:Nat):Nat->List Nat->Int
 |_,[]=> -1
 |j,x::r=>match Nat.beq x c with|true=>(j:Int)|false=>idxL c (j+1) r
def sext (x:ExtK) (args:List (SV Y)) (k:Res Y->Prop):Prop:=
 match x,args with
 | .add64,[.int l .u64 a,.int m .u64 b,.int n .u64 c]=>need (l&&m&&n) (0<=a/\0<=b/\0<=c/\c<=1)
  (k (Zd [] (.tup [.int (l&&m&&n) .u64 ((a+b+c)%18446744073709551616),.int (l&&m&&n) .u64 ((a+b+c)/18446744073709551616)])))
 | .indexByteS,[.str l s,.int m .u8 c]=>k (Zd [] (.int (l&&m) .i64 (idxL (c.toNat%256) 0 s)))
 | .same,[v]=>k (Zd [] v)
 |_,_=>False
def Zg4 (E:Eng Y) (call:Nat->List (SV Y)->Hp Y->Nat->(Res Y->Prop)->Prop) (f:Operand) (c:Call) (T:Fr Y) (h:Hp Y) (i:Nat) (k:Res Y->Prop):Prop:=match ev T f with| .fn (.func f) a b=>(match E.ext f with|some x=>Za5 (a++c.args.toList.map (ev T)++b) fun l=>sext x l k|none=>call f (a++c.args.toList.map (ev T)++b) h i k)|_=>False
def V3 (E:Eng Y) (call:Nat->List (SV Y)->Hp Y->Nat->(Res Y->Prop)->Prop) (c:Call) (T:Fr Y) (h:Hp Y) (i:Nat) (k:Res Y->Prop):Prop:=
 match c.callee with
 | .builtin .len=>Zg3 E c T h k
 | .builtin .min=>stMm false c T k
 | .builtin .max=>stMm true c T k
 | .builtin .append=>Zi6 E c T h i k
 | .builtin .copy=>Zb8 E c T h k
 | .builtin .panic=>(match c.args.toList with| [x]=>Zwu (ev T x) k|_=>False)
 | .value f=>Zg4 E call f c T h i k
 |_=>False
def V4 (E:Eng Y) (t:TypeId) (parts:Array (Nat×Operand)) (T:Fr Y) (k:Res Y->Prop):Prop:=Ztd E t (parts.toList.map fun p=>(p.1,ev T p.2)) k
def X5 (E:Eng Y) (t:TypeId) (len:Nat) (parts:Array (Nat×Operand)) (T:Fr Y) (i:Nat) (k:Res Y->Prop):Prop:=match E.rowS t&&Nat.ble 8 len with|true=>V1 E t len (parts.toList.map fun p=>(p.1,ev T p.2)) i k|false=>Zah E t len (parts.toList.map fun p=>(p.1,ev T p.2)) i k
def Zb9 (fn:Fn) (a b:Array Operand) (T:Fr Y) (k:Res Y->Prop):Prop:=k (Zd [] (.fn fn (a.toList.map (ev T)) (b.toList.map (ev T))))
def V5 (E:Eng Y) (t:TypeId) (x:Operand) (lo hi mx:Option Operand) (T:Fr Y) (h:Hp Y) (k:Res Y->Prop):Prop:=Zte E t (ev T x) (lo.map (ev T)) (hi.map (ev T)) (mx.map (ev T)) h k
def step (E:Eng Y) (call:Nat->List (SV Y)->Hp Y->Nat->(Res Y->Prop)->Prop) (op:Op) (T:Fr Y) (h:Hp Y) (i:Nat) (k:Res Y->Prop):Prop:=
 match op with
 | .move x=>k (Zd [] (ev T x))
 | .assign x=>k (Zd [] (ev T x))
 | .pick c a b=>Za7 T c a b k
 | .alloc t=>(match E.arrOf t with|some th=>Zgx E t th i k|none=>W1 E t i k)
 | .box t x=>(match E.arrOf t with|some th=>Znj E t th (ev T x) i k|none=>Zd2 (ev T x) i k)
 | .build t parts=>V4 E t parts T k
 | .buildSlice t len parts=>X5 E t len parts T i k
 | .load t x=>Zfk E t (ev T x) h k
 | .store t x v=>Zli E t (ev T x) (ev T v) h k
 | .nilCheck x=>Zi3 (ev T x) k
 | .binOp op t x y _=>Z0b E op t x y T k
 | .unOp op _ x=>sun op (ev T x) k
 | .makeInterface t x=>Zln E t (ev T x) k
 | .typeAssert x _ t ok=>Zg1 E (ev T x) t ok k
 | .convert src dst x=>Za8 E src dst (ev T x) h k
 | .makeFunc fn a b=>Zb9 fn a b T k
 | .fieldAddr s x f=>Wk E s (ev T x) f k
 | .field s x f=>Zfj E s (ev T x) f k
 | .indexAddr t x ix=>X0 E t (ev T x) (ev T ix) h k
 | .index t x ix=>Zbv E t (ev T x) (ev T ix) k
 | .slice t x lo hi mx=>V5 E t x lo hi mx T h k
 | .makeSlice t x y=>Zz8 E t (ev T x) (ev T y) i k
 | .makeMap t none=>Zi5 E t i k
 | .insert t m x v=>sput E t (ev T m) (ev T x) (ev T v) h k
 | .mapUpdate t m x v=>Zz7 E t (ev T m) (ev T x) (ev T v) h k
 | .lookup t m x ok=>Zg0 E t (ev T m) (ev T x) ok h k
 | .extract x n=>Zg2 (ev T x) n k
 | .call c=>V3 E call c T h i k
 | .panic x=>Zwu (ev T x) k
 |_=>False
def Zd3 (h':Hp Y):List Nat->Hp Y->(Hp Y->Prop)->Prop
 | [],h,k=>k h
 |b::r,h,k=>X7 b fun b=>Zgw (h' b) fun blk=>Zd3 h' r (upd h b blk) k
def Zca (rh:Hp Y) (m:List Nat) (i:Nat):Nat->List Nat
 |0=>m
 |n+1=>match rh i with|some _=>i::Zca rh m (i+1) n|none=>Zca rh m (i+1) n
def Zg5 (r:Res Y) (h:Hp Y) (i:Nat) (ms:List Nat) (k:Hp Y->Nat->List Nat->Prop):Prop:=
 match r.n with
 |0=>(match r.mods with| []=>k h i ms|m=>Zd3 r.h m h fun h=>k h i (m++ms))
 |n=>X7 (i+n) fun i'=>Zd3 r.h (Zca r.h r.mods i n) h fun h=>k h i' (r.mods++ms)
def Zck:SV Y->Option Value
 | .pan u=>some u
 |_=>none
def Zi7 (N:Nat) (d:Option Nat) (r:Res Y) (T:Fr Y) (h:Hp Y) (i:Nat) (ms:List Nat) (k:Fr Y->Hp Y->Nat->List Nat->Prop):Prop:=
 match d with
 |none=>Zg5 r h i ms fun h i ms=>k T h i ms
 |some d=>
  match Nat.blt d N with
  |true=>force r.v fun v=>Zg5 r h i ms fun h i ms=>k (upd T d v) h i ms
  |false=>False
def keep (N:Nat) (d:Option Nat) (r:Res Y) (T:Fr Y) (h:Hp Y) (i:Nat) (ms:List Nat) (k:Fr Y->Hp Y->Nat->List Nat->Prop):Prop:=
 match Zck r.v with
 |some _=>False
 |none=>Zi7 N d r T h i ms k
def Zg6 (N:Nat) (d:Option Nat) (r:Res Y) (T:Fr Y) (h:Hp Y) (i:Nat) (ms:List Nat) (K:Exit->Fr Y->Hp Y->Nat->List Nat->Prop) (k:Fr Y->Hp Y->Nat->List Nat->Prop):Prop:=
 match Zck r.v with
 |some u=>Zg5 r h i ms fun h i ms=>K (.panic [{v:=u,recovered:=false}]) T h i ms
 |none=>Zi7 N d r T h i ms k
def Zd4 (all:List Oper) (j:Nat):Option Nat:=match all[j]? with|some o=>o.dst|none=>none
def Ztg:Value->Bool
 | .bool _=>true
 |_=>false
def rgn (E:Eng Y) (N:Nat) (call:Nat->List (SV Y)->Hp Y->Nat->(Res Y->Prop)->Prop) (all:List Oper):List Oper->Fr Y->Hp Y->Nat->List Nat->(Exit->Fr Y->Hp Y->Nat->List Nat->Prop)->Prop
 | [],T,h,i,ms,k=>k .normal T h i ms
 |o::r,T,h,i,ms,k=>
  match o.guard with
  |none=>step E call o.op T h i fun res=>Zg6 N o.dst res T h i ms k fun T h i ms=>rgn E N call all r T h i ms k
  |some (j,b)=>
   match Zd4 all j with
   |some d=>
    match T d with
    | .bool l x=>split l x fun v=>
     (match v,b with
     |true,true=>step E call o.op (upd T d (.bool true true)) h i fun res=>Zg6 N o.dst res (upd T d (.bool true true)) h i ms k fun T h i ms=>rgn E N call all r T h i ms k
     |false,false=>step E call o.op (upd T d (.bool true false)) h i fun res=>Zg6 N o.dst res (upd T d (.bool true false)) h i ms k fun T h i ms=>rgn E N call all r T h i ms k
     |v,_=>(match o.dst with|none=>rgn E N call all r (upd T d (.bool true v)) h i ms k|some d'=>rgn E N call all r (upd (upd T d (.bool true v)) d' (.val undef)) h i ms k))
    | .val u=>(match Ztg u with|true=>False|false=>(match o.dst with|none=>rgn E N call all r T h i ms k|some d'=>rgn E N call all r (upd T d' (.val undef)) h i ms k))
    |_=>False
   |none=>False
def Yg (o:Oper):List Nat:=(o.after.toList.filter (Region.binds .any)).map (·.on)
def bitB (m j:Nat):Bool:=Nat.beq (Nat.land (Nat.shiftRight m j) 1) 1
def nthN:List Nat->Nat->Nat
 | [],_=>0
 |x::_,0=>x
 |_::r,n+1=>nthN r n
def U4:List Nat->List Nat->Nat
 | [],_=>0
 |j::r,acc=>Nat.lor (Nat.lor (Nat.shiftLeft 1 j) (nthN acc j)) (U4 r acc)
def Y5:List Oper->List Nat->List Nat
 | [],acc=>acc
 |o::r,acc=>Y5 r (acc++ [U4 (Yg o) acc])
def Zcb:List Operand->List Nat
 | []=> []
 | .tmp t::r=>t::Zcb r
 |_::r=>Zcb r
def Wd (all:List Oper) (o:Oper):List Nat:=
 match o.guard with
 |none=>Zcb o.op.operands.toList
 |some (g,_)=>(match Zd4 all g with|some d=>d::Zcb o.op.operands.toList|none=>Zcb o.op.operands.toList)
def memO (d:Option Nat) (l:List Nat):Bool:=match d with|some d=>memB d l|none=>false
def Z2w (a b:Option Nat):Bool:=match a,b with|some a,some b=>Nat.beq a b|_,_=>false
def Zfl (all:List Oper) (a b:Oper):Bool:= !(memO a.dst (Wd all b))&& !(memO b.dst (Wd all a))&& !(Z2w a.dst b.dst)
def Ut (all:List Oper) (b:Oper) (m:Nat):List Oper->Nat->Bool
 | [],_=>true
 |a::r,i=>(bitB m i||Zfl all a b)&&Ut all b m r (i+1)
def Zth (j:Nat):List Nat->Bool
 | []=>true
 |x::r=>Nat.blt x j&&Zth j r
def Zcc (all:List Oper) (ms:List Nat):List Oper->Nat->Bool
 | [],_=>true
 |b::r,j=>Zth j (Yg b)&&Ut all b (nthN ms j) (all.take j) 0&&Zcc all ms r (j+1)
structure DR (Y:Thy) where
 i:Nat
 r:Res Y
def DR.new (d:DR Y) (b:Nat):Bool:=Nat.ble d.i b&&Nat.blt b (d.i+d.r.n)
def U5 (d:DR Y):List Nat->Bool
 | []=>true
 |x::r=> !(d.new x)&&U5 d r
def disj:List Nat->List Nat->Bool
 | [],_=>true
 |x::r,l=> !(memB x l)&&disj r l
def Zpf:List Nat->Bool
 | []=>true
 |_=>false
def Zd5 (a b:DR Y):Bool:=
 (disj a.r.mods b.r.mods&&U5 a b.r.mods)&&
 (match b.r.rd with|none=>Zpf a.r.mods|some l=>disj a.r.mods l&&U5 a l)&&
 (match a.r.rd with|none=>Zpf b.r.mods|some l=>disj b.r.mods l&&U5 b l)
def Wt (b:DR Y):List (DR Y)->Bool
 | []=>true
 |a::r=>Zd5 a b&&Wt b r
def Xm (m:Nat):List (Nat×DR Y)->List (DR Y)
 | []=> []
 |(j,d)::r=>match bitB m j with|true=>Xm m r|false=>d::Xm m r
def V6:List (DR Y)->List (DR Y)
 | []=> []
 |d::r=>match d.r.n with|0=>V6 r|_=>d::V6 r
def Zi8 (b:Nat):List (DR Y)->Bool
 | []=>false
 |d::r=>d.new b||Zi8 b r
def Wu (h:Hp Y) (un:List (DR Y)):Hp Y:=
 match V6 un with
 | []=>h
 |l=>fun b=>match Zi8 b l with|true=>none|false=>h b
def Ys:List Oper->List Nat
 | []=> []
 |o::r=>match o.dst with|some d=>d::Ys r|none=>Ys r
def Vo:List Nat->Fr Y->Fr Y
 | [],T=>T
 |d::r,T=>upd (Vo r T) d .unk
def noG:List Oper->Bool
 | []=>true
 |o::r=>o.guard.isNone&&noG r
def Ze1:List (Nat×DR Y)->Bool
 | []=>true
 |p::r=>(match p.2.r.n with|0=>Zpf p.2.r.mods|_=>false)&&Ze1 r
def Z0c (N:Nat):Option Nat->Bool
 |none=>true
 |some d=>Nat.blt d N
def rgnX (E:Eng Y) (N:Nat) (call:Nat->List (SV Y)->Hp Y->Nat->(Res Y->Prop)->Prop) (mks:List Nat) (j0:Nat):List Oper->Nat->Fr Y->Hp Y->Nat->Prop->Prop
 | [],_,_,_,_,K=>K
 |o::r,j,T,h,i,K=>
  match bitB (nthN mks j) j0 with
  |true=>rgnX E N call mks j0 r (j+1) (updO T o.dst .unk) h i K
  |false=>step E call o.op T h i fun res=>
   (match res.n,Zpf res.mods&&Z0c N o.dst,Zck res.v with
   |0,true,none=>force res.v fun v=>rgnX E N call mks j0 r (j+1) (updO T o.dst v) h i K
   |_,_,_=>False)
def X1 (N:Nat) (d:Option Nat):SV Y:=match Z0c N d with|true=> .val undef|false=> .unk
def rgnD (E:Eng Y) (N:Nat) (call:Nat->List (SV Y)->Hp Y->Nat->(Res Y->Prop)->Prop) (all:List Oper) (mks:List Nat):List Oper->Nat->Fr Y->Hp Y->Nat->List Nat->List (Nat×DR Y)->(Exit->Fr Y->Hp Y->Nat->List Nat->Prop)->Prop
 | [],_,T,h,i,ms,_,k=>k .normal T h i ms
 |o::r,j,T,h,i,ms,prev,k=>
  match o.guard with
  |none=>step E call o.op T (Wu h (Xm (nthN mks j) prev)) i fun res=>
   (match Zck res.v with
   |some u=>(match noG all&&Ze1 prev with
    |true=>rgnX E N call mks j r (j+1) (updO T o.dst .unk) h i (Zg5 res h i ms fun h i ms=>k (.panic [{v:=u,recovered:=false}]) (Vo (Ys all) T) h i ms)
    |false=>False)
   |none=>(match Wt ⟨i,res⟩ (Xm (nthN mks j) prev) with
    |true=>keep N o.dst res T h i ms fun T h i' ms=>rgnD E N call all mks r (j+1) T h i' ms ((j,⟨i,res⟩)::prev) k
    |false=>False))
  |some (g,b)=>
   match Zd4 all g with
   |some d=>
    match T d with
    | .bool l x=>split l x fun v=>
     (match v==b with
     |true=>step E call o.op (upd T d (.bool true v)) (Wu h (Xm (nthN mks j) prev)) i fun res=>
      (match Wt ⟨i,res⟩ (Xm (nthN mks j) prev) with
      |true=>keep N o.dst res (upd T d (.bool true v)) h i ms fun T h i' ms=>rgnD E N call all mks r (j+1) T h i' ms ((j,⟨i,res⟩)::prev) k
      |false=>False)
     |false=>rgnD E N call all mks r (j+1) (updO (upd T d (.bool true v)) o.dst (X1 N o.dst)) h i ms ((j,⟨i,Zd [] (X1 N o.dst)⟩)::prev) k)
    | .val u=>(match Ztg u with|true=>False|false=>rgnD E N call all mks r (j+1) (updO T o.dst (X1 N o.dst)) h i ms ((j,⟨i,Zd [] (X1 N o.dst)⟩)::prev) k)
    |_=>False
   |none=>False
abbrev Sum (Y:Thy):=List (SV Y)->Hp Y->Nat->(Res Y->Prop)->Prop
abbrev Kont (Y:Thy):=Exit->Fr Y->Hp Y->Nat->List Nat->Prop
structure Fns (Y:Thy) where
 sums:Nat->Option (Sum Y)
 fns:Nat->Option Func
 loops:Nat->Nat->Option ((Fr Y->Hp Y->Nat->List Nat->Kont Y->Prop)->Fr Y->Hp Y->Nat->List Nat->Kont Y->Prop)
 defs:Nat->Bool:=fun _=>false
 dfl:Nat:=1000
def nthD:List (SV Y)->Nat->SV Y
 | [],_=> .unk
 |x::_,0=>x
 |_::r,n+1=>nthD r n
def Zti (E:Eng Y) (ti:TyI) (off:Nat) (th:Y.Th) (l:List (Y.dom th)):Option (SV Y):=
 match ti,off with
 |⟨.array n el,sz,_,_⟩,0=>
  match E.ty el with
  |some te=>
   match E.dec th (Yo te.zero:SV Y).cells,Nat.beq sz (n*E.w th) with
   |some d0,true=>some (.agg (Wg E th l d0 n 0))
   |_,_=>none
  |none=>none
 |_,_=>none
def Zg7 (E:Eng Y) (T:Fr Y) (h:Hp Y):ResultVar->Option (SV Y)
 | .tmp t=>some (T t)
 | .cell a t=>
  match E.ty t,T a with
  |some ti,.ptr b off=>(match h b with|some (.raw cs _ _)=>W8 (Zs ti.d) ti.size off cs|some (.rows th l _)=>Zti E ti off th l|_=>none)
  |_,_=>none
def resN (E:Eng Y) (T:Fr Y) (h:Hp Y):List ResultVar->Prop->Prop
 | [],p=>p
 | .tmp _::rs,p=>resN E T h rs p
 | .cell a t::rs,p=>
  match E.ty t,T a with
  |some ⟨.array n _,_,_,_⟩,.ptr b _=>(match h b with|some (.rows _ l _)=>l.length=n/\resN E T h rs p|_=>resN E T h rs p)
  |_,_=>resN E T h rs p
def Va (E:Eng Y) (T:Fr Y) (h:Hp Y):List ResultVar->Option (List (SV Y))
 | []=>some []
 |r::rs=>(match Zg7 E T h r,Va E T h rs with|some v,some vs=>some (v::vs)|_,_=>none)
def Za9:List (SV Y)->SV Y
 | [v]=>v
 |vs=> .tup vs
def Zcv:Code->Option Nat
 | .region id _ _=>some id
 | .seq a _=>Zcv a
 | .block _ b=>Zcv b
 | .loop b=>Zcv b
 |_=>none
abbrev Zfm (Y:Thy):=Fr Y->Hp Y->Nat->List Nat->Kont Y->Prop
def lpOf (F:Fns Y) (f:Nat) (b:Code):Option (Zfm Y->Zfm Y):=match Zcv b with|some j=>F.loops f j|none=>none
def Yb (i:Nat):List Nat->List Nat
 | []=> []
 |b::r=>match Nat.blt b i&& !(memB b (Yb i r)) with|true=>b::Yb i r|false=>Yb i r
def Zpg (h:Hp Y) (m:List Nat):Hp Y:=fun b=>match memB b m with|true=>h b|false=>none
def finF (E:Eng Y) (fn:Func) (i:Nat) (k:Res Y->Prop) (T':Fr Y) (h':Hp Y) (i':Nat) (ms:List Nat):Prop:=
 resN E T' h' fn.results.toList (match Va E T' h' fn.results.toList with|some vs=>Za5 vs fun vs=>Vk (Yb i ms) fun ms=>Vk (Zpb h' i 100000 (idsL vs++idsM h' ms) ms) fun l=>X7 (i'-i) fun n=>k ⟨Za9 vs,n,ms,Zpg h' l,none⟩|none=>False)
def finP (i:Nat) (k:Res Y->Prop) (u:Value) (h':Hp Y) (i':Nat) (ms:List Nat):Prop:=
 Vk (Yb i ms) fun ms=>Vk (Zpb h' i 100000 (idsM h' ms) ms) fun l=>X7 (i'-i) fun n=>k ⟨.pan u,n,ms,Zpg h' l,none⟩
def Zph:List PanicEntry->Option Value
 | [⟨u,false,false⟩]=>some u
 |_=>none
def V7 (E:Eng Y) (F:Fns Y) (rec:Nat->Nat->Code->Fr Y->Hp Y->Nat->List Nat->Kont Y->Prop):Nat->List (SV Y)->Hp Y->Nat->(Res Y->Prop)->Prop:=fun f args h i k=>
 match F.sums f with
 |some S=>Za5 args fun args=>S args h i k
 |none=>
  match F.fns f with
  |some fn=>
   match fn.body with
   |some c=>match Nat.ble args.length fn.ntmps with|false=>False|true=>Za5 args fun args=>rec f fn.ntmps c (nthD args) h i [] fun e T h' i' ms=>
    (match e with
    | .normal| .ret=>finF E fn i k T h' i' ms
    | .panic ch=>(match Zph ch with|some u=>finP i k u h' i' ms|none=>False)
    |_=>False)
   |none=>False
  |none=>False
def Zd6:List Oper->Option (List Oper×Oper)
 | []=>none
 |o::r=>
  match r with
  | []=>(match o.op,o.guard,o.dst with| .defer _,none,none=>some ([],o)|_,_,_=>none)
  |_::_=>(match Zd6 r with|some (l,d)=>some (o::l,d)|none=>none)
def Zba:Code->Bool
 | .region _ ops false=>(Zd6 ops.toList).isSome
 | .seq a b=>Zba a||Zba b
 | .block _ b=>Zba b
 | .loop b=>Zba b
 |_=>false
def Znl (o:Oper) (T:Fr Y):Option (Nat×List (SV Y)):=
 match o.op with
 | .defer c=>(match c.callee with| .value f=>(match ev T f with| .fn (.func g) a b=>some (g,a++c.args.toList.map (ev T)++b)|_=>none)|_=>none)
 |_=>none
abbrev Dfr (Y:Thy):=Nat×List (SV Y)
abbrev Z3s (Y:Thy):=Exit->List (Dfr Y)->Fr Y->Hp Y->Nat->List Nat->Prop
abbrev RecD (Y:Thy):=Code->List (Dfr Y)->Fr Y->Hp Y->Nat->List Nat->Z3s Y->Prop
def vcDB (E:Eng Y) (call:Nat->List (SV Y)->Hp Y->Nat->(Res Y->Prop)->Prop) (rec:Nat->Nat->Code->Fr Y->Hp Y->Nat->List Nat->Kont Y->Prop) (f N:Nat) (ih:RecD Y):RecD Y:=fun c ds T h i ms K=>
 match Zba c with
 |false=>rec f N c T h i ms fun e T h i ms=>K e ds T h i ms
 |true=>
  (match c with
  | .region _ ops false=>
   (match Zd6 ops.toList with
   |some (l,o)=>rgn E N call ops.toList l T h i ms fun e T h i ms=>(match e with| .normal=>(match Znl o T with|some p=>Za5 p.2 fun q=>K .normal ((p.1,q)::ds) T h i ms|none=>False)|_=>False)
   |none=>False)
  | .seq a b=>ih a ds T h i ms fun e ds T h i ms=>(match e with| .normal=>ih b ds T h i ms K|e=>K e ds T h i ms)
  | .block id b=>ih b ds T h i ms fun e ds T h i ms=>(match e with| .exit j=>(match Nat.beq j id with|true=>K .normal ds T h i ms|false=>K (.exit j) ds T h i ms)|e=>K e ds T h i ms)
  | .loop b=>ih b ds T h i ms fun e ds T h i ms=>(match e with| .normal=>ih (.loop b) ds T h i ms K|e=>K e ds T h i ms)
  |_=>False)
def vcD (E:Eng Y) (call:Nat->List (SV Y)->Hp Y->Nat->(Res Y->Prop)->Prop) (rec:Nat->Nat->Code->Fr Y->Hp Y->Nat->List Nat->Kont Y->Prop) (f N:Nat) (n:Nat):RecD Y:=
 Nat.rec (fun _ _ _ _ _ _ _=>False) (fun _ ih=>vcDB E call rec f N ih) n
def Zwv (o:Oper):Bool:=match o.op,o.guard with| .call ⟨.builtin .recover,⟨[]⟩,_⟩,none=>true|_,_=>false
def Zyb:Code->Bool
 | .region _ ops false=>(match ops.toList with|o::_=>Zwv o| []=>false)
 | .seq a _=>Zyb a
 |_=>false
def vcS (E:Eng Y) (rv:SV Y) (call:Nat->List (SV Y)->Hp Y->Nat->(Res Y->Prop)->Prop) (rec:Nat->Nat->Code->Fr Y->Hp Y->Nat->List Nat->Kont Y->Prop) (f N:Nat):Code->Fr Y->Hp Y->Nat->List Nat->Kont Y->Prop
 | .region _ ops false,T,h,i,ms,K=>
  (match ops.toList with
  |o::l=>(match Zwv o,o.dst with
   |true,some d=>(match Nat.blt d N with|true=>rgn E N call ops.toList l (upd T d rv) h i ms (fun e T h i ms=>match e with| .normal=>K .normal T h i ms|_=>False)|false=>False)
   |_,_=>False)
  | []=>False)
 | .seq a b,T,h,i,ms,K=>vcS E rv call rec f N a T h i ms fun e T h i ms=>(match e with| .normal=>rec f N b T h i ms K|e=>K e T h i ms)
 |_,_,_,_,_,_=>False
def rvOf (E:Eng Y):Option Value->SV Y
 |none=> .val .nilIface
 |some u=>svP E.lit u
def Zpi (E:Eng Y) (F:Fns Y) (pm:Option Value) (call:Nat->List (SV Y)->Hp Y->Nat->(Res Y->Prop)->Prop) (rec:Nat->Nat->Code->Fr Y->Hp Y->Nat->List Nat->Kont Y->Prop) (f:Nat) (args:List (SV Y)) (h:Hp Y) (i:Nat) (k:Res Y->Prop):Prop:=
 match F.fns f with
 |some fn=>
  match fn.body with
  |some c=>
   match Nat.ble args.length fn.ntmps with
   |false=>False
   |true=>
    match Zyb c with
    |true=>vcS E (rvOf E pm) call rec f fn.ntmps c (nthD args) h i [] fun e T h' i' ms=>(match e with| .normal| .ret=>finF E fn i k T h' i' ms|_=>False)
    |false=>(match pm with|none=>rec f fn.ntmps c (nthD args) h i [] fun e T h' i' ms=>(match e with| .normal| .ret=>finF E fn i k T h' i' ms|_=>False)|some _=>False)
  |none=>False
 |none=>False
def Znm (E:Eng Y) (F:Fns Y) (call:Nat->List (SV Y)->Hp Y->Nat->(Res Y->Prop)->Prop) (rec:Nat->Nat->Code->Fr Y->Hp Y->Nat->List Nat->Kont Y->Prop):List (Dfr Y)->Hp Y->Nat->List Nat->(Hp Y->Nat->List Nat->Prop)->Prop
 | [],h,i,ms,K=>K h i ms
 |p::ds,h,i,ms,K=>Zpi E F none call rec p.1 p.2 h i fun r=>Zg5 r h i ms fun h i ms=>Znm E F call rec ds h i ms K
def Zm (E:Eng Y) (F:Fns Y) (rec:Nat->Nat->Code->Fr Y->Hp Y->Nat->List Nat->Kont Y->Prop):Nat->List (SV Y)->Hp Y->Nat->(Res Y->Prop)->Prop:=fun f args h i k=>
 match F.defs f with
 |false=>V7 E F rec f args h i k
 |true=>
  match F.fns f with
  |some fn=>
   match fn.body with
   |some c=>match Nat.ble args.length fn.ntmps with|false=>False|true=>Za5 args fun args=>vcD E (V7 E F rec) rec f fn.ntmps F.dfl c [] (nthD args) h i [] fun e dl T h' i' ms=>
    (match e with
    | .normal| .ret=>Znm E F (V7 E F rec) rec dl h' i' ms fun h' i' ms=>finF E fn i k T h' i' ms
    | .panic ch=>(match Zph ch with
     |some u=>(match dl with
      | []=>finP i k u h' i' ms
      | [p]=>Zpi E F (some u) (V7 E F rec) rec p.1 p.2 h' i' fun r=>Zg5 r h' i' ms fun h' i' ms=>finF E fn i k T h' i' ms
      |_=>False)
     |none=>False)
    |_=>False)
   |none=>False
  |none=>False
abbrev Rec (Y:Thy):=Nat->Nat->Code->Fr Y->Hp Y->Nat->List Nat->Kont Y->Prop
def Zyc:Callee->Bool
 | .builtin .len=>true
 | .builtin .min=>true
 | .builtin .max=>true
 |_=>false
def Zd7:Op->Bool
 | .move _=>true
 | .pick _ _ _=>true
 | .load _ _=>true
 | .binOp _ _ _ _ _=>true
 | .unOp _ _ _=>true
 | .convert _ _ _=>true
 | .fieldAddr _ _ _=>true
 | .field _ _ _=>true
 | .indexAddr _ _ _=>true
 | .index _ _ _=>true
 | .extract _ _=>true
 | .call c=>Zyc c.callee
 |_=>false
def Z2x (x:Operand) (d:Nat):Bool:=match x with| .tmp t=>Nat.beq t d|_=>false
def Zww (d:Nat):List Oper->Option (List Nat)
 | []=>some []
 |o::r=>
  match o.guard,o.op,o.dst,Zww d r with
  |none,.assign x,some d',some l=>(match Z2x x d with|true=>some (d'::l)|false=>none)
  |none,.move x,some d',some l=>(match Z2x x d with|true=>some (d'::l)|false=>none)
  |_,_,_,_=>none
def Zg8 (o:Oper) (r:List Oper):Option (Nat×List Nat):=
 match o.op,o.guard,o.dst with
 | .pick _ _ _,none,some d=>(match Zww d r with|some l=>some (d,l)|none=>none)
 |_,_,_=>none
def Ztj:List Oper->Bool->Option (Nat×List Nat)
 | [],_=>none
 |o::r,g=>
  match Zd7 o.op with
  |true=>(match g,Zg8 o r with|true,some p=>some p|_,_=>Ztj r (g||o.guard.isSome))
  |false=>none
def Zi9 (b:Bool):List Nat->Fr Y->Fr Y
 | [],T=>T
 |d::r,T=>upd (Zi9 b r T) d (.bool true b)
def Ztk (T:Fr Y) (b:Bool):List Nat->Prop
 | []=>True
 |d::r=>(match T d with| .bool _ b'=>b'=b|_=>False)/\Ztk T b r
def Ztl (d:Nat) (l:List Nat) (Q:Bool->Prop) (T:Fr Y):Prop:=match l with| []=>(match T d with| .bool _ b=>Q b|_=>False)|l=>(match T d with| .bool _ b=>Ztk T b l/\Q b|_=>False)
def Ztm (E:Eng Y):List Oper->Option (TypeId×IntKind)
 |o::_=>(match o.op,o.dst with
  | .makeMap t none,some _=>(match E.ty t with
   |some ⟨.map kt _,_,_,_⟩=>(match E.ty kt with|some ⟨.int kd,_,_,_⟩=>some (t,kd)|_=>none)
   |_=>none)
  |_,_=>none)
 | []=>none
def Z0d (E:Eng Y) (call:Nat->List (SV Y)->Hp Y->Nat->(Res Y->Prop)->Prop) (N:Nat) (ops:List Oper) (t:TypeId) (kd:IntKind) (T:Fr Y) (h:Hp Y) (i:Nat) (ms:List Nat) (K:Fr Y->Hp Y->Nat->List Nat->Prop):Prop:=False
def Zlo (E:Eng Y) (F:Fns Y) (rec:Rec Y) (N:Nat) (ops:List Oper) (draw:Bool) (T:Fr Y) (h:Hp Y) (i:Nat) (ms:List Nat) (K:Kont Y):Prop:=
 match draw with
 |false=>
  (match E.lit,Ztj ops false with
  |false,some (d,[])=>∃Q:Bool->Prop,rgn E N (Zm E F rec) ops ops T h i ms (fun e T' _ _ _=>match e with| .normal=>Ztl d [] Q T'|_=>False)/\
   (Q true->K .normal (Zi9 true [d] (Vo (Ys ops) T)) h i ms)/\(Q false->K .normal (Zi9 false [d] (Vo (Ys ops) T)) h i ms)
  |_,_=>rgn E N (Zm E F rec) ops ops T h i ms K)
 |true=>(match Ztm E ops with
  |some (t,kd)=>Z0d E (Zm E F rec) N ops t kd T h i ms (K .normal)
  |none=>(match Zcc ops (Y5 ops []) ops 0 with|true=>rgnD E N (Zm E F rec) ops (Y5 ops []) ops 0 T h i ms [] K|false=>False))
def Zlp (rec:Rec Y) (f N:Nat) (a b:Code) (T:Fr Y) (h:Hp Y) (i:Nat) (ms:List Nat) (K:Kont Y):Prop:=
 rec f N a T h i ms fun e T h i ms=>(match e with| .normal=>rec f N b T h i ms K|e=>K e T h i ms)
def Zd8 (rec:Rec Y) (f N:Nat) (x:Operand) (a b:Code) (T:Fr Y) (h:Hp Y) (i:Nat) (ms:List Nat) (K:Kont Y):Prop:=
 match ev T x with| .bool l v=>split l v (fun v=>match v with|true=>rec f N a T h i ms K|false=>rec f N b T h i ms K)|_=>False
def Zan (rec:Rec Y) (f N id:Nat) (b:Code) (T:Fr Y) (h:Hp Y) (i:Nat) (ms:List Nat) (K:Kont Y):Prop:=
 rec f N b T h i ms fun e T h i ms=>(match e with| .exit j=>(match Nat.beq j id with|true=>K .normal T h i ms|false=>K (.exit j) T h i ms)|e=>K e T h i ms)
def Ztn (rec:Rec Y) (f N:Nat) (b:Code) (T:Fr Y) (h:Hp Y) (i:Nat) (ms:List Nat) (K:Kont Y):Prop:=
 rec f N b T h i ms fun e T h i ms=>(match e with| .goto _=>False|e=>K e T h i ms)
def Zd9 (F:Fns Y) (rec:Rec Y) (f N:Nat) (b:Code) (T:Fr Y) (h:Hp Y) (i:Nat) (ms:List Nat) (K:Kont Y):Prop:=
 match lpOf F f b with
 |some L=>L (rec f N b) T h i ms K
 |none=>rec f N b T h i ms fun e T h i ms=>(match e with| .normal=>rec f N (.loop b) T h i ms K|e=>K e T h i ms)
def vcB (E:Eng Y) (F:Fns Y) (rec:Rec Y):Rec Y:=fun f N c T h i ms K=>
 match c with
 | .skip=>K .normal T h i ms
 | .region _ ops draw=>Zlo E F rec N ops.toList draw T h i ms K
 | .seq a b=>Zlp rec f N a b T h i ms K
 | .cond x a b=>Zd8 rec f N x a b T h i ms K
 | .block id b=>Zan rec f N id b T h i ms K
 | .loop b=>Zd9 F rec f N b T h i ms K
 | .exit id=>K (.exit id) T h i ms
 | .ret=>K .ret T h i ms
 | .label _=>K .normal T h i ms
 | .scope b=>Ztn rec f N b T h i ms K
 |_=>False
def vc (E:Eng Y) (F:Fns Y) (n:Nat):Nat->Nat->Code->Fr Y->Hp Y->Nat->List Nat->Kont Y->Prop:=
 Nat.rec (fun _ _ _ _ _ _ _ _=>False) (fun _ ih=>vcB E F ih) n
end
end
section
open Go.RowKit
structure GH where
 cell:Nat->Nat->Option Value
 obj:Nat->Option (Array MapEntry)
structure GH.le (g g':GH):Prop where
 c:∀r o v,g.cell r o=some v->g'.cell r o=some v
 m:∀r es,g.obj r=some es->g'.obj r=some es
theorem GH.le.refl (g:GH):g.le g:=⟨fun _ _ _ h=>h,fun _ _ h=>h⟩
theorem GH.le.trans {a b c:GH} (h:a.le b) (k:b.le c):a.le c:=⟨fun r o v x=>k.c r o v (h.c r o v x),fun r es x=>k.m r es (h.m r es x)⟩
abbrev Pl:=Nat->Option (Nat×Nat)
def Pl.le (σ σ':Pl):Prop:=∀b p,σ b=some p->σ' b=some p
theorem Pl.le.refl (σ:Pl):Pl.le σ σ:=fun _ _ h=>h
theorem Pl.le.trans {a b c:Pl} (h:Pl.le a b) (k:Pl.le b c):Pl.le a c:=fun x p e=>k x p (h x p e)
section
variable {Y:Thy}
theorem Zbn (b:ByteArray):(toL b).length=b.size:=by
 show (b.data.toList.map UInt8.toNat).length=b.data.size
 rw [List.length_map,Array.length_toList]
theorem Zj4 {a b:ByteArray} (h:toL a=toL b):a=b:=by
 apply ByteArray.ext
 have key:∀l l':List UInt8,l.map UInt8.toNat=l'.map UInt8.toNat->l=l':=by
  intro l
  induction l with
  |nil=>intro l' h;cases l' with|nil=>rfl|cons y r=>simp at h
  |cons x r ih=>
   intro l' h
   cases l' with
   |nil=>simp at h
   |cons y r'=>
    simp only [List.map_cons,List.cons.injEq] at h
    rw [ih r' h.2,UInt8.toNat_inj.1 h.1]
 have:=key _ _ h
 cases a;cases b
 simpa using this
theorem Zq1 (b:ByteArray):mkS (toL b)=b:=by
 cases b with
 |mk d=>
  simp only [mkS,toL,List.map_map]
  have:(UInt8.ofNat ∘ UInt8.toNat)=id:=by funext x;simp
  rw [this,List.map_id]
theorem Zn8 (a b:ByteArray):toL (a++b)=toL a++toL b:=by
 simp only [toL,ByteArray.data_append,Array.toList_append,List.map_append]
theorem Zj5 (s:ByteArray) (a b:Nat):toL (s.extract a b)=((toL s).take b).drop a:=by
 simp only [toL,ByteArray.data_extract,Array.toList_extract,List.extract_eq_take_drop,List.map_take,List.map_drop]
 rw [List.drop_take]
theorem Zys (s:ByteArray) (n:Nat) (y:Nat) (h:(toL s)[n]? =some y):∃x,s[n]? =some x/\x.toNat=y:=by
 simp only [toL,List.getElem?_map] at h
 obtain ⟨x,h1,h2⟩:=Option.map_eq_some_iff.1 h
 refine ⟨x,?_,h2⟩
 have hlt:n<s.data.toList.length:=(gA9.1 h1).1
 have hlt':n<s.size:=by rw [Array.length_toList] at hlt;exact hlt
 rw [getElem?_pos s n hlt']
 rw [gB9 hlt] at h1
 rw [<-Option.some.inj h1]
 rfl
theorem Zf1 (a b:ByteArray):(toL a==toL b)=(a==b):=by
 have h2:(a==b)=(a.data==b.data):=rfl
 rw [h2]
 by_cases h:a=b
 · subst h;simp
 · have h1:toL a≠toL b:=fun e=>h (Zj4 e)
   have h3:a.data≠b.data:=fun e=>h (ByteArray.ext e)
   rw [beq_eq_false_iff_ne.2 h1,beq_eq_false_iff_ne.2 h3]
theorem Zvf (a b:ByteArray):Ziz (toL a) (toL b)=Op.bytesLess a.toList b.toList:=by
 have key:∀l l':List UInt8,Ziz (l.map UInt8.toNat) (l'.map UInt8.toNat)=Op.bytesLess l l':=by
  intro l
  induction l with
  |nil=>intro l';cases l'<;>rfl
  |cons x r ih=>
   intro l'
   cases l' with
   |nil=>rfl
   |cons y r'=>
    simp only [List.map_cons,Ziz,Op.bytesLess]
    rw [ih r']
    have h1:Nat.blt x.toNat y.toNat=decide (x<y):=by
     simp only [UInt8.lt_iff_toNat_lt]
     rw [Nat.blt]
     by_cases h:x.toNat<y.toNat
     · rw [decide_eq_true h,Nat.ble_eq];exact h
     · rw [decide_eq_false h,<-Bool.not_eq_true,Nat.ble_eq];exact h
    have h2:Nat.beq x.toNat y.toNat=(x==y):=by
     by_cases h:x=y
     · subst h;simp
     · rw [beq_eq_false_iff_ne.2 h,<-Bool.not_eq_true,Nat.beq_eq]
       exact fun e=>h (UInt8.toNat_inj.1 e)
    rw [h1,h2]
    cases decide (x<y)<;>cases (x==y)<;>rfl
 have ht:∀a:ByteArray,a.toList=a.data.toList:=ByteArray.toList_eq
 rw [ht,ht,toL,toL,key]
def KeyIs (q:Option IntKind) (k:Value):Prop:=match q with|some kd=>∃b,k= .int kd b|none=>∃s,k= .string s
inductive Den (E:Eng Y) (σ:Pl) (g:GH):SV Y->Value->Prop
 |unk (v):Den E σ g .unk v
 |val (v):Den E σ g (.val v) v
 |int (l k n):Den E σ g (.int l k n) (.int k n)
 |bool (l b):Den E σ g (.bool l b) (.bool b)
 |str (l:Bool) {s:List Nat} {b:ByteArray} (h:toL b=s):Den E σ g (.str l s) (.string b)
 |ptr {b off r z:Nat} (h:σ b=some (r,z)):Den E σ g (.ptr b off) (.pointer (some ⟨r,off,none⟩))
 |eptr {b i w off r z:Nat} (h:σ b=some (r,z)):Den E σ g (.eptr b i w off) (.pointer (some ⟨r,i*w+off,none⟩))
 |pptr {th:Y.Th} {x:Y.dom th} {off r o:Nat} (c:Nat->Value) (hc:∀j,j<(E.enc th x).length->g.cell r (o+j)=some (c j))
  (hd:∀j sv,(E.enc th x)[j]? =some sv->Den E σ g sv (c j)):Den E σ g (.pptr th x off) (.pointer (some ⟨r,o+off,none⟩))
 |sl {b off len w c r z:Nat} {cap:Option Nat} (h:σ b=some (r,z)) (hz:(off+c)*w<=z) (hl:len<=c) (hm:c<=maxLen) (hc:∀m,cap=some m->c=m):
  Den E σ g (.sl b off len w cap) (.slice (some ⟨r,off*w,none⟩) len c)
 |psl {th:Y.Th} {l:List (Y.dom th)} {full:Bool} {base:Option Addr} {c:Nat} (cv:Nat->Nat->Value) (hl:l.length<=c) (hm:c<=maxLen) (hf:full=true->c=l.length) (hn:base=none->c=0)
  (hb:0<l.length->∃r o,base=some ⟨r,o,none⟩/\∀i x,l[i]? =some x->∀j,j<(E.enc th x).length->g.cell r (o+i*E.w th+j)=some (cv i j))
  (hd:∀i x,l[i]? =some x->∀j sv,(E.enc th x)[j]? =some sv->Den E σ g sv (cv i j)):Den E σ g (.psl th l full) (.slice base l.length c)
 |agg {cs:List (SV Y)} {arr:Array Value} (c:Nat->Value) (hs:arr.size=cs.length) (hc:∀j,j<cs.length->arr[j]? =some (c j)) (hd:∀j sv,cs[j]? =some sv->Den E σ g sv (c j)):Den E σ g (.agg cs) (.agg arr)
 |tup {cs:List (SV Y)} {arr:Array Value} (c:Nat->Value) (hs:arr.size=cs.length) (hc:∀j,j<cs.length->arr[j]? =some (c j)) (hd:∀j sv,cs[j]? =some sv->Den E σ g sv (c j)):Den E σ g (.tup cs) (.tuple arr)
 |fn {f:Fn} {a b:List (SV Y)} {va vb:Array Value} (ca cb:Nat->Value) (hsa:va.size=a.length) (hca:∀j,j<a.length->va[j]? =some (ca j)) (hda:∀j sv,a[j]? =some sv->Den E σ g sv (ca j))
  (hsb:vb.size=b.length) (hcb:∀j,j<b.length->vb[j]? =some (cb j)) (hdb:∀j sv,b[j]? =some sv->Den E σ g sv (cb j)):Den E σ g (.fn f a b) (.func f va vb)
 |map {b r z:Nat} (h:σ b=some (r,z)):Den E σ g (.map b) (.map (some r))
 |pmap {es:List (Value×SV Y)} {r:Nat} {ents:Array MapEntry} (c:Nat->Value) (q:Option IntKind) (hg:g.obj r=some ents) (hq:∀(j:Nat) (k:Value) (sv:SV Y),es[j]? =some (k,sv)->KeyIs q k)
  (hn:∀(j j':Nat) (k:Value) (sv sv':SV Y),es[j]? =some (k,sv)->es[j']? =some (k,sv')->j=j') (h1:∀e∈ents.toList,∃(j:Nat) (sv:SV Y),es[j]? =some (e.key,sv)/\e.val=c j) (h2:∀(j:Nat) (k:Value) (sv:SV Y),es[j]? =some (k,sv)->∃e∈ents.toList,e.key=k)
  (hd:∀(j:Nat) (k:Value) (sv:SV Y),es[j]? =some (k,sv)->Den E σ g sv (c j)):Den E σ g (.pmap es) (.map (some r))
 |iface {t:TypeId} {sv:SV Y} {v:Value} (h:Den E σ g sv v):Den E σ g (.iface t sv) (.iface t v)
theorem Den.mono {E:Eng Y} {σ σ':Pl} {g g':GH} (hσ:Pl.le σ σ') (hg:g.le g') {sv:SV Y} {v:Value} (h:Den E σ g sv v):Den E σ' g' sv v:=by
 induction h with
 |unk v=>exact .unk v
 |val v=>exact .val v
 |int l k n=>exact .int l k n
 |bool l b=>exact .bool l b
 |str l h=>exact .str l h
 |ptr h=>exact .ptr (hσ _ _ h)
 |eptr h=>exact .eptr (hσ _ _ h)
 |pptr c hc _ ih=>exact .pptr c (fun j hj=>hg.c _ _ _ (hc j hj)) ih
 |sl h hz hl hm hc=>exact .sl (hσ _ _ h) hz hl hm hc
 |psl cv hl hm hf hn hb _ ih=>exact .psl cv hl hm hf hn (fun hp=>let ⟨r,o,e,h⟩:=hb hp;⟨r,o,e,fun i x hx j hj=>hg.c _ _ _ (h i x hx j hj)⟩) ih
 |agg c hs hc _ ih=>exact .agg c hs hc ih
 |tup c hs hc _ ih=>exact .tup c hs hc ih
 |fn ca cb hsa hca _ hsb hcb _ iha ihb=>exact .fn ca cb hsa hca iha hsb hcb ihb
 |map h=>exact .map (hσ _ _ h)
 |pmap c q ho hq hn h1 h2 _ ih=>exact .pmap c q (hg.m _ _ ho) hq hn h1 h2 ih
 |iface _ ih=>exact .iface ih
def Blk.cells (E:Eng Y):Blk Y->List (SV Y)
 | .raw cs _ _=>cs
 | .rows th l _=>l.flatMap (E.enc th)
 | .map _=> []
def Blk.fzc (E:Eng Y):Blk Y->Nat
 | .raw _ fz _=>fz
 | .rows th _ fz=>fz*E.w th
 | .map _=>0
def DenL (E:Eng Y) (σ:Pl) (g:GH) (cs:List (SV Y)) (vs:List Value):Prop:=cs.length=vs.length/\∀(j:Nat) sv v,cs[j]? =some sv->vs[j]? =some v->Den E σ g sv v
def ElOk (E:Eng Y) (e:TypeId):Blk Y->Prop
 | .raw _ _ (some th)=>e=E.el th
 | .rows th _ _=>e=E.el th
 |_=>True
def BlkOk (E:Eng Y) (σ:Pl) (g:GH) (w:World) (r z:Nat):Blk Y->Prop
 | .map es=>∃ents c,w.heap[r]? =some (.map ents c)/\ents.size=es.length/\∀(j:Nat) k sv,es[j]? =some (k,sv)->∃v bo,ents[j]? =some (MapEntry.mk k v bo)/\Den E σ g sv v
 |b=>∃arr e,w.heap[r]? =some (.cells arr e (0,0))/\arr.size=z/\(b.cells E).length<=z/\(∀(j:Nat) sv,(b.cells E)[j]? =some sv->∃v,arr[j]? =some v/\Den E σ g sv v)/\ElOk E e b
structure Inv (E:Eng Y) (B:Nat) (σ:Pl) (h:Hp Y) (g:GH) (w:World):Prop where
 gc:∀r o v,g.cell r o=some v->w.cell? ⟨r,o,none⟩=some v
 gm:∀r es,g.obj r=some es->∃c,w.heap[r]? =some (.map es c)
 blk:∀b x,h b=some x->∃r z,σ b=some (r,z)/\BlkOk E σ g w r z x
 inj:∀b b' r z z',h b≠none->h b'≠none->σ b=some (r,z)->σ b'=some (r,z')->b=b'
 base:∀b r z,σ b=some (r,z)->B<=r/\r<w.heap.size
 fz:∀b x r z o v,h b=some x->σ b=some (r,z)->g.cell r o=some v->o<x.fzc E
 fm:∀b x r z,h b=some x->σ b=some (r,z)->g.obj r=none
 glob:∀n sv,E.glob n=some sv->∀(j:Nat) s,sv.cells[j]? =some s->∃v,g.cell n j=some v/\Den E (fun _=>none) g s v
structure Stp (i n:Nat) (mods:List Nat) (σ:Pl) (g:GH) (w:World) (σ':Pl) (g':GH) (w':World):Prop where
 sig:Pl.le σ σ'
 snew:∀b p,σ' b=some p->σ b=some p\/(i<=b/\b<i+n)
 gle:g.le g'
 gcnew:∀r o v,g'.cell r o=some v->g.cell r o=some v\/w.heap.size<=r\/∃b∈mods,∃z,σ b=some (r,z)
 gmnew:∀r es,g'.obj r=some es->g.obj r=some es\/w.heap.size<=r
 heap:∀r,r<w.heap.size->(∀b∈mods,∀z,σ b≠some (r,z))->w'.heap[r]? =w.heap[r]?
 size:w.heap.size<=w'.heap.size
 os:w'.os=w.os
 tape:w'.tape=w.tape
 output:w'.output=w.output
 blk:∀b r z,σ b=none->σ' b=some (r,z)->w.heap.size<=r\/∃b'∈mods,∃z',σ b'=some (r,z')
theorem Stp.refl (i:Nat) (σ:Pl) (g:GH) (w:World):Stp i 0 [] σ g w σ g w:=
 ⟨.refl _,fun _ _ h=> .inl h,.refl _,fun _ _ _ h=> .inl h,fun _ _ h=> .inl h,fun _ _ _=>rfl,Nat.le_refl _,rfl,rfl,rfl,fun _ _ _ h k=>by rw [h] at k;cases k⟩
def Zq2:ExtK->Array Value->Sem Value
 | .add64=>add64Entry
 | .indexByteS=>Extern.BytealgIndexByte.indexByte
 | .same=>Extern.AbiNoEscape.same
def ExtGood (P:Program) (f:FuncId) (x:ExtK):Prop:=∃fn,P.funcs[f]? =some fn/\(fn.name== "runtime.NumGoroutine")=false/\fn.body.isNone=true/\Extern.findNext fn=none/\Extern.find fn=some (Zq2 x)
structure EngOk (E:Eng Y):Prop where
 ty:∀t i,E.ty t=some i->E.P.underlying t=some i.d/\∃info,E.P.info? t=some info/\info.size=i.size/\info.bytes=i.bytes/\info.zero=some i.zero
 enc:∀th x,(E.enc th x).length=E.w th
 pos:∀th,0<E.w th
 dec:∀th cs x,E.dec th cs=some x->cs.length=E.w th/\∀σ g (j:Nat) sv sv' v,cs[j]? =some sv->(E.enc th x)[j]? =some sv'->Den E σ g sv v->Den E σ g sv' v
 leaf:∀th x,leaves (E.enc th x)=true
 thOf:∀el th i,E.thOf el=some th->E.ty el=some i->i.size=E.w th
 encI:∀i th x,nidL i (E.enc th x)=true
 mix:E.P.follows .mixedOrders=true
 arr:∀t th,E.arrOf t=some th->E.el th=t
 eqs:∀t,memB t E.eqs=true->E.P.stoodInHeld t=false/\E.P.eqGuardType E.P.depth t=false
 ext:∀f x,E.ext f=some x->ExtGood E.P f x:=by intro f x h;cases h
theorem Vf {E:Eng Y} {σ:Pl} {g:GH} {sv:SV Y} {v:Value} (hl:leaf sv=true) (h:Den E σ g sv v):v.oneCell'=true:=by
 cases h<;>first|rfl|(simp [leaf] at hl;done)|(cases v<;>first|rfl|(simp [leaf,Z2s] at hl;done))
theorem Ug (E:Eng Y) (σ:Pl) (g:GH) (v:Value):Den E σ g (Zdx v) v:=by
 cases v<;>first|exact .int _ _ _|exact .bool _ _|exact .str _ rfl|exact .val _
theorem Xn (E:Eng Y) (σ:Pl) (g:GH) (v:Value):Den E σ g (Yo v) v:=by
 cases v with
 |agg cs=>
  refine .agg (fun j=>cs.toList.getD j undef) (by simp) (fun j hj=> ?_) (fun j sv h=> ?_)
  · have hj':j<cs.size:=by simpa using hj
    simp [List.getD_eq_getElem?_getD,hj']
  · rw [List.getElem?_map] at h
    obtain ⟨u,hu,rfl⟩:=Option.map_eq_some_iff.1 h
    rw [List.getD_eq_getElem?_getD,hu]
    exact Ug E σ g u
 |_=>simp only [Yo];exact Ug E σ g _
end
end
section
open Go.RowKit
def OpPost (P:Program) (o:Oper) (ρ:Operand->Value) (w:World) (F:Value->World->Prop):Prop:=
 match (execOp ρ o).run P w with
 | .ok (.value v) w'=>F v w'
 | .ok .skip w'=>F undef w'
 | .ok (.enter f args) w'=>Calls P f args w' fun en w''=>∃v,en= .returned v/\F v w''
 |_=>False
theorem OpPost.wp {P:Program} {o:Oper} {a:Act} {w:World} {F:Value->World->Prop} {K:Act->World->Prop} {Q:Exit->Act->World->Prop} (h:OpPost P o a.eval w F) (k:∀u w',F u w'->K (a.put o.dst u) w'):o.wp P a w K Q:=by
 unfold OpPost at h
 unfold Oper.wp
 split at h
 · rename_i v w' he;rw [he];exact k _ _ h
 · rename_i w' he;rw [he];exact k _ _ h
 · rename_i f args w' he
   rw [he]
   rw [Oper.upon_enter]
   refine h.mono ?_
   rintro en w'' ⟨v,rfl,hF⟩
   exact k _ _ hF
 · exact h.elim
theorem Y2 {P:Program} {o:Oper} {ρ:Operand->Value} {w w':World} {u:Value} {F:Value->World->Prop} (h:(execOp ρ o).run P w= .ok (.value u) w') (hF:F u w'):OpPost P o ρ w F:=by
 unfold OpPost;rw [h];exact hF
theorem Ud {P:Program} {o:Oper} {ρ:Operand->Value} {w w':World} {F:Value->World->Prop} (h:(execOp ρ o).run P w= .ok .skip w') (hF:F undef w'):OpPost P o ρ w F:=by
 unfold OpPost;rw [h];exact hF
theorem Zqq {P:Program} {o:Oper} {ρ:Operand->Value} {w w':World} {f:FuncId} {args:Array Value} {F:Value->World->Prop} (h:(execOp ρ o).run P w= .ok (.enter f args) w') (hc:Calls P f args w' fun en w''=>∃v,en= .returned v/\F v w''):OpPost P o ρ w F:=by
 unfold OpPost;rw [h];exact hc
section
variable {Y:Thy} {E:Eng Y}
def Rd (r:Res Y) (b:Nat):Prop:=match r.rd with|none=>True|some l=>b∈l
def ROk (h:Hp Y) (r:Res Y):Prop:=∀b∈r.mods,h b≠none
def Z0 (E:Eng Y) (o:Oper) (T:Fr Y) (h:Hp Y) (i:Nat) (r:Res Y):Prop:=
 ROk h r/\∀(B:Nat) (σ:Pl) (g:GH) (w:World) (ρ:Operand->Value) (hh:Hp Y),(∀b,Rd r b->hh b=h b)->Inv E B σ hh g w->B<=w.heap.size->(∀b,i<=b->b<i+r.n->σ b=none)->
  (∀x∈o.op.operands.toList,Den E σ g (ev T x) (ρ x))->OpPost E.P o ρ w fun u w'=>∃σ' g',Stp i r.n r.mods σ g w σ' g' w'/\Inv E B σ' (patch hh i r) g' w'/\Den E σ' g' r.v u
def PanPost (P:Program) (o:Oper) (p:Value) (ρ:Operand->Value) (w:World) (F:World->Prop):Prop:=
 match (execOp ρ o).run P w with
 | .ok (.enter f args) w'=>Calls P f args w' fun en w''=>en= .panicked [{v:=p,recovered:=false}]/\F w''
 | .halt (.panic v) w'=>v=p/\F w'
 |_=>False
theorem PanPost.wp {P:Program} {o:Oper} {p:Value} {a:Act} {w:World} {F:World->Prop} {K:Act->World->Prop} {Q:Exit->Act->World->Prop} (h:PanPost P o p a.eval w F) (k:∀w',F w'->Q (.panic [{v:=p,recovered:=false}]) a w'):o.wp P a w K Q:=by
 unfold PanPost at h
 unfold Oper.wp
 split at h
 · rename_i f args w' he
   rw [he,Oper.upon_enter]
   refine h.mono ?_
   rintro en w'' ⟨rfl,hF⟩
   exact k _ hF
 · rename_i v w' he
   obtain ⟨rfl,hF⟩:=h
   rw [he];exact k _ hF
 · exact h.elim
def Z28 (E:Eng Y) (o:Oper) (T:Fr Y) (h:Hp Y) (i:Nat) (r:Res Y):Prop:=
 ROk h r/\∃p,r.v= .pan p/\∀(B:Nat) (σ:Pl) (g:GH) (w:World) (ρ:Operand->Value),Inv E B σ h g w->B<=w.heap.size->(∀b,i<=b->b<i+r.n->σ b=none)->
  (∀x∈o.op.operands.toList,Den E σ g (ev T x) (ρ x))->PanPost E.P o p ρ w fun w'=>∃σ' g',Stp i r.n r.mods σ g w σ' g' w'/\Inv E B σ' (patch h i r) g' w'
def OpTri2 (E:Eng Y) (o:Oper) (T:Fr Y) (h:Hp Y) (i:Nat) (r:Res Y):Prop:=Z0 E o T h i r\/Z28 E o T h i r
theorem OpTri2.tri {o:Oper} {T:Fr Y} {h:Hp Y} {i:Nat} {r:Res Y} (ht:OpTri2 E o T h i r) (hn:Zck r.v=none):Z0 E o T h i r:=by
 rcases ht with ht|⟨_,p,hp,_⟩
 · exact ht
 · rw [hp] at hn;cases hn
theorem Zxr {v:SV Y} {p:Value} (h:Zck v=some p):v= .pan p:=by
 unfold Zck at h
 split at h
 · cases h;rfl
 · cases h
theorem OpTri2.pan {o:Oper} {T:Fr Y} {h:Hp Y} {i:Nat} {r:Res Y} {p:Value} (ht:OpTri2 E o T h i r) (hp:Zck r.v=some p):
 ROk h r/\∀(B:Nat) (σ:Pl) (g:GH) (w:World) (a:Act) (K:Act->World->Prop) (Q:Exit->Act->World->Prop),Inv E B σ h g w->B<=w.heap.size->(∀b,i<=b->b<i+r.n->σ b=none)->
 (∀x∈o.op.operands.toList,Den E σ g (ev T x) (a.eval x))->(∀w',(∃σ' g',Stp i r.n r.mods σ g w σ' g' w'/\Inv E B σ' (patch h i r) g' w')->Q (.panic [{v:=p,recovered:=false}]) a w')->o.wp E.P a w K Q:=by
 have hv:=Zxr hp
 rcases ht with ⟨h1,h2⟩|⟨h1,p',hp',h2⟩
 · refine ⟨h1,fun B σ g w a K Q hI hB hfree hx _=> ?_⟩
   refine (h2 B σ g w a.eval h (fun _ _=>rfl) hI hB hfree hx).wp ?_
   rintro u w' ⟨σ',g',_,_,hd⟩
   rw [hv] at hd
   cases hd
 · rw [hv] at hp'
   cases hp'
   exact ⟨h1,fun B σ g w a K Q hI hB hfree hx hQ=>(h2 B σ g w a.eval hI hB hfree hx).wp hQ⟩
theorem Xb (h:Hp Y) (i:Nat) (rd:List Nat) (v:SV Y):patch h i (Zd rd v)=h:=by
 funext b
 simp only [patch,Zd,memB,Bool.false_or,Nat.add_zero]
 have:(Nat.ble i b&&Nat.blt b i)=false:=by
  rw [Bool.and_eq_false_iff]
  by_cases hb:i<=b
  · right;simp only [Nat.blt];rw [<-Bool.not_eq_true,Nat.ble_eq];omega
  · left;rw [<-Bool.not_eq_true,Nat.ble_eq];exact hb
 rw [this]
theorem Zq {o:Oper} {T:Fr Y} {h:Hp Y} {i:Nat} {rd:List Nat} {v:SV Y}
 (H:∀(B:Nat) (σ:Pl) (g:GH) (w:World) (ρ:Operand->Value) (hh:Hp Y),(∀b∈rd,hh b=h b)->Inv E B σ hh g w->(∀x∈o.op.operands.toList,Den E σ g (ev T x) (ρ x))->
  ∃u,(execOp ρ o).run E.P w= .ok (.value u) w/\Den E σ g v u):Z0 E o T h i (Zd rd v):=by
 refine ⟨fun b hb=>by simp [Zd] at hb,?_⟩
 intro B σ g w ρ hh hrd hI _ _ hx
 obtain ⟨u,hu,hd⟩:=H B σ g w ρ hh hrd hI hx
 refine Y2 hu ⟨σ,g,.refl _ _ _ _,?_,hd⟩
 rw [Xb];exact hI
theorem Zw {l:Bool} {p:Prop} [Decidable p] {K:Prop} (h:need l p K):p/\K:=by
 cases l with
 |true=>simp only [need] at h;split at h<;>first|exact ⟨of_decide_eq_true ‹_›,h⟩|exact h.elim
 |false=>exact h
theorem Yv {l b:Bool} {K:Bool->Prop} (h:split l b K):K b:=by
 cases l with
 |true=>exact h
 |false=>cases b with
  |true=>exact h.1 rfl
  |false=>exact h.2 rfl
theorem Zjw {big l b:Bool} {K:Bool->Prop} (h:Zdz big l b K):split l b K:=by
 unfold Zdz at h
 split at h
 · rename_i e
   simp only [Bool.and_eq_true,Bool.not_eq_true'] at e
   rw [e.2]
   exact h b rfl
 · exact h
theorem Zeq {big l b:Bool} {K K':Bool->Prop} (hk:∀v,K v->K' v) (h:Zdz big l b K):Zdz big l b K':=by
 unfold Zdz at*
 split at h
 · exact fun v e=>⟨fun q=>hk _ ((h v e).1 q),fun q=>hk _ ((h v e).2 q)⟩
 · unfold split at*
   split at h
   · exact hk _ h
   · exact ⟨fun q=>hk _ (h.1 q),fun q=>hk _ (h.2 q)⟩
theorem Zer {b:Bool} {k:Bool->Prop}:Zdy b k↔k b:=by cases b<;>exact Iff.rfl
theorem Zes {c:Option Nat} {k:Option Nat->Prop}:Znf c k↔k c:=by cases c<;>exact Iff.rfl
theorem Xr {n:Nat} {k:Nat->Prop}:X7 n k↔k n:=by cases n<;>exact Iff.rfl
theorem Zu2 {n:Int} {k:Int->Prop}:Zfi n k↔k n:=by cases n<;>simp [Zfi,Xr]
theorem Xf:∀{l:List Nat} {k:List Nat->Prop},Vk l k↔k l
 | [],k=>Iff.rfl
 |x::r,k=>by simp only [Vk,Xr,Xf (l:=r)]
theorem Zar {l:Bool} {kd:IntKind} {n:Int} {k:SV Y->Prop}:(match l with|true=>Zfi n fun n=>k (.int true kd n)|false=>k (.int false kd n))↔k (.int l kd n):=by cases l<;>simp [Zu2]
theorem Zu3 {α:Type} {lit:Bool} {l:List α} {j:Nat} {k:α->Prop} (h:getK lit l j k):j<l.length/\∃x,l[j]? =some x/\k x:=by
 unfold getK at h
 split at h
 · split at h
   · rename_i x hx;exact ⟨(gA9.1 hx).1,x,hx,h⟩
   · exact h.elim
 · obtain ⟨h1,h2⟩:=h
   exact ⟨h1,_,gB9 h1,h2 _ (gB9 h1)⟩
theorem Zn5 {α:Type} {lit:Bool} {l:List α} {n:Int} {k:α->Prop} (h:ixK lit l n k):0<=n/\n<l.length/\∃x,l[n.toNat]? =some x/\k x:=by
 unfold ixK at h
 split at h
 · split at h
   · rename_i x h1 hx
     have h0:=of_decide_eq_true h1
     have:=(gA9.1 hx).1
     exact ⟨h0,by omega,x,hx,h⟩
   · exact h.elim
 · obtain ⟨h0,h1,h2⟩:=h
   have:n.toNat<l.length:=by omega
   exact ⟨h0,h1,_,gB9 this,h2 _ (gB9 this)⟩
theorem Uw {n:Int} {k:Nat->Prop}:∀{c j:Nat},Zgy n k c j->(j:Int)<=n->n<j+c->k n.toNat
 |0,j,_,h1,h2=>by omega
 |c+1,j,h,h1,h2=>by
  obtain ⟨ha,hb⟩:=h
  by_cases e:n=j
  · have:=ha (by simpa using e)
    rw [e];simpa using this
  · exact Uw (hb (by simpa using e)) (by omega) (by omega)
theorem Xs {a b:Nat} {K:Prop} (h:Uy a b K):a=b/\K:=by
 unfold Uy at h
 split at h
 · exact ⟨gC9 ‹_›,h⟩
 · exact h.elim
theorem Zet {l:Bool} {s:List Nat} {k:SV Y->Prop}:Zng l s k↔k (.str l s):=by
 cases l with
 |true=>exact Xf
 |false=>exact Iff.rfl
theorem Zjx {v:SV Y} {k:SV Y->Prop}:Ziw v k↔k v:=by
 cases v
 case int l kd n=>exact Zar
 all_goals simp only [Ziw,Zet,Zer,Xr,Zes]
theorem Zb0 {l:List (SV Y)} {k:List (SV Y)->Prop}:W0 l k↔k l:=by
 induction l generalizing k with
 |nil=>exact Iff.rfl
 |cons x r ih=>
  show Ziw x (fun x=>W0 r fun r=>k (x::r))↔_
  rw [Zjx,ih]
theorem Zjy {v:SV Y} {k:SV Y->Prop}:Zix v k↔k v:=by
 cases v
 case int l kd n=>exact Zar
 all_goals simp only [Zix,Zet,Zjx,Zb0,Zer,Xr,Zes]
theorem Wv {l:List (SV Y)} {k:List (SV Y)->Prop}:Za5 l k↔k l:=by
 induction l generalizing k with
 |nil=>exact Iff.rfl
 |cons x r ih=>
  show Zix x (fun x=>Za5 r fun r=>k (x::r))↔_
  rw [Zjy,ih]
theorem Zc0 {v:SV Y} {k:SV Y->Prop}:force v k↔k v:=by
 cases v
 case int l kd n=>exact Zar
 all_goals simp only [force,Zet,Zjy,Wv,Zb0,Zer,Xr,Zes]
theorem Zmd {b:Option (Blk Y)} {k:Option (Blk Y)->Prop}:Zgw b k↔k b:=by
 rcases b with _|⟨cs,fz,tg⟩|⟨th,l,fz⟩|es<;>simp [Zgw,Zb0]
variable {o:Oper} {T:Fr Y} {h:Hp Y} {i:Nat} {k:Res Y->Prop} {call:Nat->List (SV Y)->Hp Y->Nat->(Res Y->Prop)->Prop}
theorem Zfs {x:Operand} (ho:o.op= .move x\/o.op= .assign x) (hk:k (Zd [] (ev T x))):∃r,k r/\Z0 E o T h i r:=by
 refine ⟨_,hk,Zq fun B σ g w ρ hh _ hI hx=>⟨ρ x,?_,hx x (by rcases ho with ho|ho<;>simp [ho,Op.operands])⟩⟩
 unfold execOp
 rcases ho with ho|ho<;>simp [ho,go_sem]
theorem Zqr {c a b:Operand} (ho:o.op= .pick c a b) (hk:step E call o.op T h i k):∃r,k r/\Z0 E o T h i r:=by
 rw [ho] at hk
 simp only [step,Za7,W1,Zd2,Zi3,Za8,Zi5,Zg2,Zg3,stMm,Zi6,Zb8,Zg4,V3,V4,X5,Zb9,V5] at hk
 split at hk
 · rename_i l x hc
   have hk:=Yv hk
   cases x with
   |true=>
    refine ⟨_,hk,Zq fun B σ g w ρ hh _ hI hx=>⟨ρ a,?_,hx a (by simp [ho,Op.operands])⟩⟩
    have h1:=hx c (by simp [ho,Op.operands])
    rw [hc] at h1
    generalize hv:ρ c=v at h1
    cases h1
    unfold execOp;simp [ho,hv,asBool,go_sem]
   |false=>
    refine ⟨_,hk,Zq fun B σ g w ρ hh _ hI hx=>⟨ρ b,?_,hx b (by simp [ho,Op.operands])⟩⟩
    have h1:=hx c (by simp [ho,Op.operands])
    rw [hc] at h1
    generalize hv:ρ c=v at h1
    cases h1
    unfold execOp;simp [ho,hv,asBool,go_sem]
 · exact hk.elim
end
end
section
open Go.RowKit
section
variable {Y:Thy} {E:Eng Y} {o:Oper} {T:Fr Y} {h:Hp Y} {i:Nat} {k:Res Y->Prop}
theorem Ya {x y:Operand} {v:SV Y} (hx:x∈o.op.operands.toList) (hy:y∈o.op.operands.toList)
 (H:∀(σ:Pl) (g:GH) (w:World) (ρ:Operand->Value),Den E σ g (ev T x) (ρ x)->Den E σ g (ev T y) (ρ y)->∃u,(execOp ρ o).run E.P w= .ok (.value u) w/\Den E σ g v u) (hk:k (Zd [] v)):∃r,k r/\Z0 E o T h i r:=
 ⟨_,hk,Zq fun B σ g w ρ hh _ hI hd=>H σ g w ρ (hd x hx) (hd y hy)⟩
theorem Xy {x:Operand} {v:SV Y} (hx:x∈o.op.operands.toList)
 (H:∀(σ:Pl) (g:GH) (w:World) (ρ:Operand->Value),Den E σ g (ev T x) (ρ x)->∃u,(execOp ρ o).run E.P w= .ok (.value u) w/\Den E σ g v u) (hk:k (Zd [] v)):∃r,k r/\Z0 E o T h i r:=
 ⟨_,hk,Zq fun B σ g w ρ hh _ hI hd=>H σ g w ρ (hd x hx)⟩
theorem Zew {P:Program} {t:TypeId} (hu:P.underlying t=some .bool) (a b:Bool) (w:World):(Op.equal t (.bool a) (.bool b)).run P w= .ok (a==b) w:=by
 show (Op.equalIn (9999+1) t (.bool a) (.bool b)).run P w=_
 rw [Op.equalIn]
 rw [Sem.run_bind,run_underlying hu]
 rfl
set_option maxHeartbeats 1000000 in
theorem Zzj (hE:EngOk E) {op:BinOp} {t t':TypeId} {x y:Operand} (ho:o.op= .binOp op t x y t') (hk:sbin E op t (ev T x) (ev T y) k):∃r,k r/\Z0 E o T h i r:=by
 have mx:x∈o.op.operands.toList:=by simp [ho,Op.operands]
 have my:y∈o.op.operands.toList:=by simp [ho,Op.operands]
 unfold sbin at hk
 split at hk
 · rename_i l kd a m kd' b hX hY
   unfold Zta at hk
   split at hk
   · obtain ⟨hp,hk⟩:=Zw hk
     refine Ya mx my (fun σ g w ρ h1 h2=> ?_) hk
     rw [hX] at h1;rw [hY] at h2
     generalize hv1:ρ x=v1 at h1;generalize hv2:ρ y=v2 at h2
     cases h1;cases h2
     have hp':¬b<0:=by omega
     exact ⟨.int kd (wr kd (a*2^min b.toNat kd.bits)),by unfold execOp;simp [ho,hv1,hv2,eqGuard,binOp,Op.shift,hp',wr,go_sem],.int _ _ _⟩
   · obtain ⟨hp,hk⟩:=Zw hk
     refine Ya mx my (fun σ g w ρ h1 h2=> ?_) hk
     rw [hX] at h1;rw [hY] at h2
     generalize hv1:ρ x=v1 at h1;generalize hv2:ρ y=v2 at h2
     cases h1;cases h2
     have hp':¬b<0:=by omega
     exact ⟨.int kd (a.fdiv (2^min b.toNat kd.bits)),by unfold execOp;simp [ho,hv1,hv2,eqGuard,binOp,Op.shift,hp',wr,go_sem],.int _ _ _⟩
   · split at hk
     · exact hk.elim
     · rename_i hkd
       obtain rfl:kd=kd':=by simpa using hkd
       unfold Zs9 at hk
       split at hk
       case h_4|h_5=>
        obtain ⟨hp,hk⟩:=Zw hk
        refine Ya mx my (fun σ g w ρ h1 h2=> ?_) hk
        rw [hX] at h1;rw [hY] at h2
        generalize hv1:ρ x=v1 at h1;generalize hv2:ρ y=v2 at h2
        cases h1;cases h2
        refine ⟨_,?_,.int _ _ _⟩
        unfold execOp;simp [ho,hv1,hv2,eqGuard,binOp,Op.intDiv,hp,wr,go_sem]
       case h_1|h_2|h_3=>
        refine Ya mx my (fun σ g w ρ h1 h2=> ?_) hk
        rw [hX] at h1;rw [hY] at h2
        generalize hv1:ρ x=v1 at h1;generalize hv2:ρ y=v2 at h2
        cases h1;cases h2
        refine ⟨_,?_,.int _ _ _⟩
        unfold execOp;simp [ho,hv1,hv2,eqGuard,binOp,Op.intArith,wr,go_sem]
       case h_12=>
        refine Ya mx my (fun σ g w ρ h1 h2=> ?_) hk
        rw [hX] at h1;rw [hY] at h2
        generalize hv1:ρ x=v1 at h1;generalize hv2:ρ y=v2 at h2
        cases h1;cases h2
        refine ⟨_,?_,.int _ _ _⟩
        cases op<;>first|(rename_i hn1 hn2 hn3 hn4 hn5 hn6 hn7 hn8 hn9 hn10 hn11 hn12 hn13;first|exact (hn1 rfl).elim|exact (hn2 rfl).elim|exact (hn3 rfl).elim|exact (hn4 rfl).elim|exact (hn5 rfl).elim|exact (hn6 rfl).elim|exact (hn7 rfl).elim|exact (hn8 rfl).elim|exact (hn9 rfl).elim|exact (hn10 rfl).elim|exact (hn11 rfl).elim|exact (hn12 rfl).elim|exact (hn13 rfl).elim)|(unfold execOp;simp only [ho,hv1,hv2];simp only [eqGuard,binOp,Op.intBits,Zn,wr,ne_eq,not_true_eq_false,if_false,ite_false];rfl)
       all_goals
        have hk:=Yv hk
        refine Ya mx my (fun σ g w ρ h1 h2=> ?_) hk
        rw [hX] at h1;rw [hY] at h2
        generalize hv1:ρ x=v1 at h1;generalize hv2:ρ y=v2 at h2
        cases h1;cases h2
        refine ⟨_,?_,.bool _ _⟩
        unfold execOp;simp [ho,hv1,hv2,eqGuard,binOp,Op.intCmp,wr,go_sem]
 · rename_i l a m b hX hY
   unfold Ztb at hk
   split at hk
   · rename_i sz by_ z ht
     have hu:=(hE.ty _ _ ht).1
     split at hk
     case h_3=>exact hk.elim
     all_goals
      have hk:=Yv hk
      refine Ya mx my (fun σ g w ρ h1 h2=> ?_) hk
      rw [hX] at h1;rw [hY] at h2
      generalize hv1:ρ x=v1 at h1;generalize hv2:ρ y=v2 at h2
      cases h1;cases h2
      refine ⟨_,?_,.bool _ _⟩
      unfold execOp;simp only [ho,hv1,hv2]
      rw [Sem.run_bind,Sem.run_bind]
      rw [show (eqGuard _ t x y (.bool a) (.bool b)).run E.P w= .ok () w by simp [eqGuard,go_sem]]
      simp only [Result.andThen_ok,binOp,Sem.run_bind,Zew hu,Sem.run_pure]
   · exact hk.elim
 · rename_i l a m b hX hY
   unfold Ztc at hk
   split at hk
   · obtain ⟨hp,hk⟩:=Zw hk
     refine Ya mx my (fun σ g w ρ h1 h2=> ?_) hk
     rw [hX] at h1;rw [hY] at h2
     generalize hv1:ρ x=v1 at h1;generalize hv2:ρ y=v2 at h2
     cases h1;cases h2
     rename_i a' ha' b' hb'
     subst ha' hb'
     refine ⟨.string (a'++b'),?_,.str _ (Zn8 _ _)⟩
     have hp':¬((a'.size+b'.size:Nat):Int)>IntKind.i64.max:=by
      have:IntKind.i64.max=9223372036854775807:=by decide
      rw [Zbn,Zbn] at hp
      rw [this];omega
     unfold execOp;simp only [ho,hv1,hv2,eqGuard,binOp,Op.stringOp];rw [if_neg hp'];simp [go_sem]
   case h_8=>exact hk.elim
   all_goals
    have hk:=Yv hk
    refine Ya mx my (fun σ g w ρ h1 h2=> ?_) hk
    rw [hX] at h1;rw [hY] at h2
    generalize hv1:ρ x=v1 at h1;generalize hv2:ρ y=v2 at h2
    cases h1;cases h2
    rename_i a' ha' b' hb'
    subst ha' hb'
    refine ⟨_,?_,.bool _ _⟩
    have eqq:(a'.toList==b'.toList)=(toL a'==toL b'):=by
     rw [ByteArray.toList_eq,ByteArray.toList_eq]
     by_cases e:a'=b'
     · subst e;rw [beq_self_eq_true,beq_self_eq_true]
     · have h1:toL a'≠toL b':=fun q=>e (Zj4 q)
       have h3:a'.data.toList≠b'.data.toList:=fun q=>e (ByteArray.ext (Array.toList_inj.1 q))
       rw [beq_eq_false_iff_ne.2 h1,beq_eq_false_iff_ne.2 h3]
    have tot:∀u v:List UInt8,(Op.bytesLess u v||u==v)= !(Op.bytesLess v u):=by
     intro u
     induction u with
     |nil=>intro v;cases v<;>rfl
     |cons p r ih=>
      intro v
      cases v with
      |nil=>rfl
      |cons q r'=>
       simp only [Op.bytesLess,List.cons_beq_cons]
       rcases Nat.lt_trichotomy p.toNat q.toNat with hl|he|hl
       · have h1:p<q:=UInt8.lt_iff_toNat_lt.2 hl
         have h2:¬q<p:=fun c=>by have:=UInt8.lt_iff_toNat_lt.1 c;omega
         have h3:(q==p)=false:=by rw [beq_eq_false_iff_ne];rintro rfl;omega
         simp [h1,h2,h3]
       · obtain rfl:=UInt8.toNat_inj.1 he
         have h1:¬p<p:=fun c=>by have:=UInt8.lt_iff_toNat_lt.1 c;omega
         have:=ih r'
         simp only [h1,decide_false,BEq.rfl,Bool.true_and,Bool.false_or]
         exact this
       · have h1:q<p:=UInt8.lt_iff_toNat_lt.2 hl
         have h2:¬p<q:=fun c=>by have:=UInt8.lt_iff_toNat_lt.1 c;omega
         have h3:(p==q)=false:=by rw [beq_eq_false_iff_ne];rintro rfl;omega
         simp [h1,h2,h3]
    have t2:(Op.bytesLess a'.toList b'.toList||toL a'==toL b')= !(Op.bytesLess b'.toList a'.toList):=by rw [<-eqq];exact tot _ _
    have t3:(!(Op.bytesLess a'.toList b'.toList)&& !(toL a'==toL b'))=Op.bytesLess b'.toList a'.toList:=by rw [<-Bool.not_or,t2,Bool.not_not]
    unfold execOp;simp [ho,hv1,hv2,eqGuard,binOp,Op.stringOp,go_sem,Zvf,eqq,t2,t3]
 · exact hk.elim
theorem Z2l {op:UnOp} {t:TypeId} {x:Operand} (ho:o.op= .unOp op t x) (hk:sun op (ev T x) k):∃r,k r/\Z0 E o T h i r:=by
 have mx:x∈o.op.operands.toList:=by simp [ho,Op.operands]
 unfold sun at hk
 split at hk
 case h_4=>exact hk.elim
 all_goals
  rename_i hX
  refine Xy mx (fun σ g w ρ h1=> ?_) hk
  rw [hX] at h1
  generalize hv1:ρ x=v1 at h1
  cases h1
  refine ⟨_,?_,by first|exact .int _ _ _|exact .bool _ _⟩
  unfold execOp;simp [ho,hv1,Op.unary,Op.intArith,Op.intBits,Zn,wr,go_sem]
theorem Zkh (hE:EngOk E) {src dst:TypeId} {x:Operand} (hs:(E.P.underlying src).isSome=true) (ho:o.op= .convert src dst x) (hk:Us E dst (ev T x) k):∃r,k r/\Z0 E o T h i r:=by
 have mx:x∈o.op.operands.toList:=by simp [ho,Op.operands]
 obtain ⟨d,hd⟩:=Option.isSome_iff_exists.1 hs
 unfold Us at hk
 split at hk
 case h_3=>exact hk.elim
 all_goals
  rename_i ht hX
  have hu:=(hE.ty _ _ ht).1
  refine Xy mx (fun σ g w ρ h1=> ?_) hk
  rw [hX] at h1
  generalize hv1:ρ x=v1 at h1
  cases h1
  refine ⟨_,?_,by first|exact .int _ _ _|exact .str _ ‹_›⟩
  unfold execOp;simp [ho,hv1,convert,run_underlying hu,run_underlying hd,Conv.intToInt,wr,go_sem]
end
end
section
open Go.RowKit
section
variable {Y:Thy} {E:Eng Y} {o:Oper} {T:Fr Y} {h:Hp Y} {i:Nat} {k:Res Y->Prop}
theorem Zsx (hE:EngOk E) {t:TypeId} {i:TyI} (ht:E.ty t=some i):(E.P.info? t).map (·.size)=some i.size:=by
 obtain ⟨_,info,h1,h2,_⟩:=hE.ty _ _ ht
 simp [h1,h2]
theorem Zy (hE:EngOk E) {t:TypeId} {i:TyI} (ht:E.ty t=some i) (w:World):(sizeOf t).run E.P w= .ok i.size w:=by
 obtain ⟨_,info,h1,h2,_⟩:=hE.ty _ _ ht
 simp [sizeOf,typeInfo,h1,h2,go_sem]
theorem Zx (hE:EngOk E) {t:TypeId} {i:TyI} (ht:E.ty t=some i) (w:World):(underlying t).run E.P w= .ok i.d w:=run_underlying (hE.ty _ _ ht).1 w
theorem Vz (hE:EngOk E) {t:TypeId} {i:TyI} (ht:E.ty t=some i) (w:World):(isAgg t).run E.P w= .ok (Zs i.d) w:=by
 unfold isAgg
 rw [Sem.run_bind,Zx hE ht]
 cases hd:i.d<;>simp [Zs,go_sem]
theorem Yq (b o n:Nat):(⟨b,o,none⟩:Addr).add n=⟨b,o+n,none⟩:=by unfold Addr.add;split<;>simp_all
theorem Zgu (hE:EngOk E) {s:TypeId} {x:Operand} {f:Nat} (ho:o.op= .fieldAddr s x f) (hk:Wk E s (ev T x) f k):∃r,k r/\Z0 E o T h i r:=by
 have mx:x∈o.op.operands.toList:=by simp [ho,Op.operands]
 unfold Wk at hk
 split at hk
 · rename_i fs sz by_ z hs
   split at hk
   · rename_i fd hfd
     split at hk
     · rename_i ti hti
       split at hk
       · exact hk.elim
       · rename_i hpos
         have hpos':¬ti.size=0:=fun e=>hpos e
         have run:∀(w:World) (ρ:Operand->Value) (r n:Nat),ρ x= .pointer (some ⟨r,n,none⟩)->(execOp ρ o).run E.P w= .ok (.value (.pointer (some ⟨r,n+fd.offset,none⟩))) w:=by
          intro w ρ r n hv
          unfold execOp
          simp only [ho,hv,Instr.fieldAt,Sem.run_bind,Zx hE hs,Result.andThen_ok,hfd,Instr.sureAddr,Sem.run_pure,fieldPlace,Zy hE hti,hpos',if_false,Yq]
         split at hk
         case h_4=>exact hk.elim
         all_goals
          rename_i hX
          refine Xy mx (fun σ g w ρ h1=> ?_) hk
          rw [hX] at h1
          generalize hv1:ρ x=v1 at h1
          cases h1
          refine ⟨_,run w ρ _ _ hv1,?_⟩
         · exact .ptr (by assumption)
         · rw [Nat.add_assoc];exact .eptr (by assumption)
         · rw [Nat.add_assoc];exact .pptr _ (by assumption) (by assumption)
     · exact hk.elim
   · exact hk.elim
 · exact hk.elim
theorem X6 {σ:Pl} {g:GH} {isRow:Bool} {n off:Nat} {cs:List (SV Y)} {v:SV Y} (hr:W8 isRow n off cs=some v) (u:Nat->Value) (hu:∀j sv,cs[j]? =some sv->Den E σ g sv (u j)):
 match isRow with|true=>off+n<=cs.length/\Den E σ g v (.agg ((List.range n).map fun j=>u (off+j)).toArray)|false=>off<cs.length/\Den E σ g v (u off):=by
 cases isRow with
 |true=>
  simp only [W8] at hr
  split at hr
  · rename_i hle
    have hle:=of_decide_eq_true hle
    obtain rfl:=Option.some.inj hr
    refine ⟨hle,.agg (fun j=>u (off+j)) ?_ ?_ ?_⟩
    · simp;omega
    · intro j hj
      have hj':j<n:=by simp at hj;omega
      simp [hj']
    · intro j sv hj
      rw [List.getElem?_take] at hj
      split at hj
      · rw [List.getElem?_drop] at hj;exact hu _ _ hj
      · cases hj
  · cases hr
 |false=>
  simp only [W8] at hr
  exact ⟨(gA9.1 hr).1,hu _ _ hr⟩
theorem V0 (hE:EngOk E) {t:TypeId} {ti:TyI} (ht:E.ty t=some ti) (hd:Zs ti.d=false) (w:World) (r n:Nat) (v:Value) (hc:w.cell? ⟨r,n,none⟩=some v):(loadVar t ⟨r,n,none⟩).run E.P w= .ok v w:=by
 unfold loadVar
 rw [Sem.run_bind,Vz hE ht,hd]
 simp [go_sem,load,Sem.run,hc]
theorem Y0 (hE:EngOk E) {t:TypeId} {ti:TyI} (ht:E.ty t=some ti) (w:World) (r n:Nat) (u:Nat->Value) (hc:∀j,j<(match Zs ti.d with|true=>ti.size|false=>1)->w.cell? ⟨r,n+j,none⟩=some (u (n+j))):
 (loadVar t ⟨r,n,none⟩).run E.P w= .ok (match Zs ti.d with|true=> .agg ((List.range ti.size).map fun j=>u (n+j)).toArray|false=>u n) w:=by
 cases hd:Zs ti.d with
 |true=>
  rw [hd] at hc
  refine run_loadVar_mid w r n t _ ti.d (fun j v hj=> ?_) (hE.ty _ _ ht).1 (by cases hq:ti.d<;>rw [hq] at hd<;>first|rfl|cases hd) (by simpa using Zsx hE ht)
  rw [List.getElem?_map] at hj
  obtain ⟨j',hj',rfl⟩:=Option.map_eq_some_iff.1 hj
  obtain ⟨hlt,rfl⟩:j<ti.size/\j=j':=by
   have:=gA9.1 hj'
   obtain ⟨h1,h2⟩:=this
   simp at h1 h2
   exact ⟨h1,h2⟩
  exact hc j hlt
 |false=>
  rw [hd] at hc
  exact V0 hE ht hd w r n _ (by simpa using hc 0 (by simp))
theorem X4 {σ:Pl} {g:GH} {w:World} {r z:Nat} {b:Blk Y} (hm:∀es,b≠ .map es) (hb:BlkOk E σ g w r z b):∃u:Nat->Value,(∀j,j<(b.cells E).length->w.cell? ⟨r,j,none⟩=some (u j))/\∀j sv,(b.cells E)[j]? =some sv->Den E σ g sv (u j):=by
 have hb':∃arr e,w.heap[r]? =some (.cells arr e (0,0))/\arr.size=z/\(b.cells E).length<=z/\(∀(j:Nat) sv,(b.cells E)[j]? =some sv->∃v,arr[j]? =some v/\Den E σ g sv v)/\ElOk E e b:=by
  cases b with
  |map es=>exact absurd rfl (hm es)
  |raw cs fz tg=>exact hb
  |rows th l fz=>exact hb
 obtain ⟨arr,e,h1,h2,h3,h4,_⟩:=hb'
 refine ⟨fun j=>arr.getD j undef,fun j hj=> ?_,fun j sv hj=> ?_⟩
 · have:j<arr.size:=by omega
   simp [World.cell?,h1,Array.getD,this]
 · obtain ⟨v,hv,hd⟩:=h4 j sv hj
   have:arr.getD j undef=v:=by rw [Array.getD_eq_getD_getElem?,hv];rfl
   show Den E σ g sv (arr.getD j undef)
   rw [this];exact hd
theorem Yu (hE:EngOk E) (th:Y.Th) (l:List (Y.dom th)) (i:Nat) (x:Y.dom th) (hx:l[i]? =some x) (j:Nat) (hj:j<E.w th):(l.flatMap (E.enc th))[i*E.w th+j]? =(E.enc th x)[j]? :=by
 induction l generalizing i with
 |nil=>simp at hx
 |cons y l ih=>
  rw [List.flatMap_cons]
  cases i with
  |zero=>
   obtain rfl:y=x:=by simpa using hx
   rw [Nat.zero_mul,Nat.zero_add,List.getElem?_append_left (by rw [hE.enc];exact hj)]
  |succ i=>
   rw [List.getElem?_append_right (by rw [hE.enc,Nat.add_mul];omega),hE.enc,<-ih i (by simpa using hx)]
   congr 1
   rw [Nat.add_mul];omega
theorem Zz (hE:EngOk E) (th:Y.Th) (l:List (Y.dom th)):(l.flatMap (E.enc th)).length=l.length*E.w th:=by
 induction l with
 |nil=>simp
 |cons y l ih=>rw [List.flatMap_cons,List.length_append,ih,hE.enc,List.length_cons,Nat.add_mul];omega
theorem Znd (hE:EngOk E) {t:TypeId} {x:Operand} (ho:o.op= .load t x) (hk:Zlh E t (ev T x) h k):∃r,k r/\Z0 E o T h i r:=by
 have mx:x∈o.op.operands.toList:=by simp [ho,Op.operands]
 have run:∀(w:World) (ρ:Operand->Value) (a:Addr) (v:Value),ρ x= .pointer (some a)->(loadVar t a).run E.P w= .ok v w->(execOp ρ o).run E.P w= .ok (.value v) w:=by
  intro w ρ a v hv hl
  unfold execOp
  simp only [ho,hv,Instr.loadAt,Sem.run_bind,Instr.sureAddr,Sem.run_pure,Result.andThen_ok,hl]
 unfold Zlh at hk
 split at hk
 · exact hk.elim
 · rename_i ti ht
   split at hk
   · rename_i b off hX
     split at hk
     · rename_i cs fz tg hb
       split at hk
       · rename_i v hr
         refine ⟨_,hk,Zq fun B σ g w ρ hh hrd hI hx=> ?_⟩
         have h1:=hx x mx
         rw [hX] at h1
         generalize hv1:ρ x=v1 at h1
         cases h1
         rename_i r z hσ
         obtain ⟨r',z',hσ',hbo⟩:=hI.blk b _ ((hrd b (by simp)).trans hb)
         rw [hσ] at hσ';cases hσ'
         obtain ⟨u,hu1,hu2⟩:=X4 (by intro es e;cases e) hbo
         have:=X6 hr u hu2
         refine ⟨_,run w ρ _ _ hv1 (Y0 hE ht w r off u ?_),?_⟩
         · intro j hj
           refine hu1 _ ?_
           cases hd:Zs ti.d with
           |true=>rw [hd] at this hj;have:=this.1;show _<cs.length;simp at hj;omega
           |false=>rw [hd] at this hj;have:=this.1;show _<cs.length;simp at hj;omega
         · cases hd:Zs ti.d with
           |true=>rw [hd] at this;exact this.2
           |false=>rw [hd] at this;exact this.2
       · exact hk.elim
     · exact hk.elim
   · rename_i b j w' off hX
     split at hk
     · rename_i th l fz hb
       obtain ⟨hww,hk2⟩:=Xs hk
       clear hk
       subst hww
       obtain ⟨hj,y,hy,hk⟩:=Zu3 hk2
       split at hk
       · rename_i v hr
         refine ⟨_,hk,Zq fun B σ g w ρ hh hrd hI hx=> ?_⟩
         have h1:=hx x mx
         rw [hX] at h1
         generalize hv1:ρ x=v1 at h1
         cases h1
         rename_i r z hσ
         obtain ⟨r',z',hσ',hbo⟩:=hI.blk b _ ((hrd b (by simp)).trans hb)
         rw [hσ] at hσ';cases hσ'
         obtain ⟨u,hu1,hu2⟩:=X4 (by intro es e;cases e) hbo
         simp only [Blk.cells] at hu1 hu2
         have:=X6 hr (fun m=>u (j*E.w th+m)) (fun m sv hm=>hu2 _ _ (by rw [Yu hE th l j y hy m (by rw [<-hE.enc th y];exact (gA9.1 hm).1)];exact hm))
         have hlen:j*E.w th+E.w th<=l.length*E.w th:=by
          have:=Nat.mul_le_mul_right (E.w th) (show j+1<=l.length from hj)
          rwa [Nat.add_mul,Nat.one_mul] at this
         have he:=hE.enc th y
         refine ⟨_,run w ρ _ _ hv1 (Y0 hE ht w r (j*E.w th+off) u ?_),?_⟩
         · intro m hm
           refine hu1 _ ?_
           rw [Zz hE]
           cases hd:Zs ti.d with
           |true=>rw [hd] at this hm;have:=this.1;simp at hm;omega
           |false=>rw [hd] at this hm;have:=this.1;simp at hm;omega
         · cases hd:Zs ti.d with
           |true=>rw [hd] at this;simpa only [Nat.add_assoc] using this.2
           |false=>rw [hd] at this;exact this.2
       · exact hk.elim
     · exact hk.elim
   · rename_i th y off hX
     split at hk
     · rename_i v hr
       refine ⟨_,hk,Zq fun B σ g w ρ hh hrd hI hx=> ?_⟩
       have h1:=hx x mx
       rw [hX] at h1
       generalize hv1:ρ x=v1 at h1
       cases h1
       rename_i r o' c hc hd'
       have:=X6 hr c hd'
       have:=X6 hr (fun m=>c m) hd'
       refine ⟨_,run w ρ _ _ hv1 (Y0 hE ht w r (o'+off) (fun m=>c (m-o')) ?_),?_⟩
       · intro j hj
         rw [show o'+off+j-o'=off+j by omega,show o'+off+j=o'+(off+j) by omega]
         refine hI.gc _ _ _ (hc _ ?_)
         cases hd:Zs ti.d with
         |true=>rw [hd] at this hj;have:=this.1;simp at hj;omega
         |false=>rw [hd] at this hj;have:=this.1;simp at hj;omega
       · cases hd:Zs ti.d with
         |true=>rw [hd] at this;simp only [show ∀j,o'+off+j-o'=off+j from fun j=>by omega];exact this.2
         |false=>rw [hd] at this;simp only [show o'+off-o'=off by omega];exact this.2
     · exact hk.elim
   · rename_i gl off hX
     split at hk
     · rename_i v hg hd
       split at hk
       · rename_i s hs
         refine ⟨_,hk,Zq fun B σ g w ρ hh hrd hI hx=> ?_⟩
         have h1:=hx x mx
         rw [hX] at h1
         generalize hv1:ρ x=v1 at h1
         cases h1
         obtain ⟨u,hu,hdn⟩:=hI.glob _ _ hg _ _ hs
         exact ⟨u,run w ρ _ _ hv1 (V0 hE ht hd w gl off u (hI.gc _ _ _ hu)),hdn.mono (fun _ _ e=>by cases e) (.refl _)⟩
       · exact hk.elim
     · exact hk.elim
   · exact hk.elim
end
end
section
open Go.RowKit
section
variable {Y:Thy} {E:Eng Y} {o:Oper} {T:Fr Y} {h:Hp Y} {i:Nat} {k:Res Y->Prop}
theorem Yl {σ:Pl} {g:GH} {cs:List (SV Y)} {v:Value} (h:Den E σ g (.agg cs) v):∃(arr:Array Value) (c:Nat->Value),v= .agg arr/\arr.size=cs.length/\(∀j,j<cs.length->arr[j]? =some (c j))/\∀j sv,cs[j]? =some sv->Den E σ g sv (c j):=by
 cases h with
 |agg c hs hc hd=>exact ⟨_,c,rfl,hs,hc,hd⟩
theorem Zlq {σ:Pl} {g:GH} {cs:List (SV Y)} {v:Value} (h:Den E σ g (.tup cs) v):∃(arr:Array Value) (c:Nat->Value),v= .tuple arr/\arr.size=cs.length/\(∀j,j<cs.length->arr[j]? =some (c j))/\∀j sv,cs[j]? =some sv->Den E σ g sv (c j):=by
 cases h with
 |tup c hs hc hd=>exact ⟨_,c,rfl,hs,hc,hd⟩
theorem Yn {a b:Nat} (h:Nat.blt a b=true):a<b:=Nat.le_of_ble_eq_true h
theorem Vl (hE:EngOk E) {t:TypeId} {ti:TyI} (ht:E.ty t=some ti) {σ:Pl} {g:GH} {cs:List (SV Y)} {arr:Array Value} (hd:Den E σ g (.agg cs) (.agg arr)) {off:Nat} {v:SV Y} (hr:W8 (Zs ti.d) ti.size off cs=some v) (w:World):
 ∃u,(part t arr off).run E.P w= .ok u w/\Den E σ g v u:=by
 obtain ⟨arr',c,e,hs,hc,hd⟩:=Yl hd
 cases e
 have:=X6 hr c hd
 unfold part
 rw [Sem.run_bind,Vz hE ht]
 cases hq:Zs ti.d with
 |true=>
  rw [hq] at this
  refine ⟨_,by simp only [Result.andThen_ok,if_true,Sem.run_bind,Zy hE ht,Sem.run_pure];rfl,?_⟩
  have he:arr.extract off (off+ti.size)=((List.range ti.size).map fun j=>c (off+j)).toArray:=by
   apply Array.ext_getElem?
   intro j
   rw [Array.getElem?_extract]
   by_cases hj:j<ti.size
   · rw [if_pos (by omega),hc _ (by omega)];simp [hj]
   · rw [if_neg (by omega)];simp [hj]
  rw [he];exact this.2
 |false=>
  rw [hq] at this
  refine ⟨c off,?_,this.2⟩
  simp [hc off this.1,go_sem]
theorem Zto (hE:EngOk E) {s:TypeId} {x:Operand} {f:Nat} (ho:o.op= .field s x f) (hk:Zfj E s (ev T x) f k):∃r,k r/\Z0 E o T h i r:=by
 have mx:x∈o.op.operands.toList:=by simp [ho,Op.operands]
 unfold Zfj at hk
 split at hk
 · rename_i fs sz by_ z cs hs hX
   split at hk
   · rename_i fd hfd
     split at hk
     · rename_i ti hti
       split at hk
       · rename_i v hr
         refine Xy mx (fun σ g w ρ h1=> ?_) hk
         rw [hX] at h1
         generalize hv1:ρ x=v1 at h1
         obtain ⟨arr,_,rfl,_⟩:=Yl h1
         obtain ⟨u,hu,hd⟩:=Vl hE hti h1 hr w
         refine ⟨u,?_,hd⟩
         unfold execOp
         simp only [ho,hv1,Instr.field,Sem.run_bind,Zx hE hs,Result.andThen_ok,hfd,asAgg,Sem.run_pure,hu]
       · exact hk.elim
     · exact hk.elim
   · exact hk.elim
 · exact hk.elim
theorem Zpj {kd : IntKind} : ∀ {cs : List (SV Y)} {ls : List Int}, Ziy kd cs = some ls → ls.length = cs.length ∧ ∀ (j : Nat) y, ls[j]? = some y → ∃ l, cs[j]? = some (.int l kd y) := by
  intro cs
  induction cs with
  | nil => intro ls h; simp [Ziy] at h; subst h; simp
  | cons x r ih =>
    intro ls h
    cases x <;> simp only [Ziy] at h <;> try (cases h; done)
    rename_i l k n
    split at h
    · rename_i l' hk hl'
      obtain rfl := of_decide_eq_true hk
      obtain rfl := Option.some.inj h
      obtain ⟨h1, h2⟩ := ih hl'
      refine ⟨by simp [h1], fun j y hj => ?_⟩
      cases j with
      | zero => obtain rfl : n = y := by simpa using hj
                exact ⟨l, rfl⟩
      | succ j => exact h2 j y (by simpa using hj)
    · cases h
theorem Zja (hE:EngOk E) {t:TypeId} {x ix:Operand} (ho:o.op= .index t x ix) (hk:Zd0 E t (ev T x) (ev T ix) k):∃r,k r/\Z0 E o T h i r:=by
 have mx:x∈o.op.operands.toList:=by simp [ho,Op.operands]
 have my:ix∈o.op.operands.toList:=by simp [ho,Op.operands]
 unfold Zd0 at hk
 split at hk
 · rename_i len el sz by_ z cs l kd n ht hX hIx
   split at hk
   · rename_i ti hel
     split at hk
     · rename_i v hb hr
       simp only [Bool.and_eq_true,decide_eq_true_eq] at hb
       have hlt:n.toNat<len:=Yn hb.2
       refine Ya mx my (fun σ g w ρ h1 h2=> ?_) hk
       rw [hX] at h1;rw [hIx] at h2
       generalize hv1:ρ x=v1 at h1;generalize hv2:ρ ix=v2 at h2
       obtain ⟨arr,_,rfl,_⟩:=Yl h1
       cases h2
       obtain ⟨u,hu,hd⟩:=Vl hE hel h1 hr w
       refine ⟨u,?_,hd⟩
       unfold execOp
       have h0:0<=n/\n<(len:Int):=by omega
       simp only [ho,hv1,hv2,Instr.index,Sem.run_bind,asIntOf,Sem.run_pure,Result.andThen_ok,Zx hE ht]
       rw [if_pos h0]
       simp only [Sem.run_bind,Zy hE hel,Result.andThen_ok,hu,Sem.run_pure]
     · exact hk.elim
   · rename_i kd' sz' by' z' hel
     split at hk
     · rename_i ls hls hlen
       simp only [Bool.and_eq_true] at hlen
       obtain rfl:sz'=1:=gC9 hlen.2
       have hlen:cs.length=len:=gC9 hlen.1
       obtain ⟨h0,hlt,hk⟩:=hk
       obtain ⟨hll,hget⟩:=Zpj hls
       obtain ⟨y,hy⟩:∃y,ls[n.toNat]? =some y:=⟨_,gB9 (by omega)⟩
       obtain ⟨l',hcs⟩:=hget _ _ hy
       refine Ya mx my (fun σ g w ρ h1 h2=> ?_) (hk y hy)
       rw [hX] at h1;rw [hIx] at h2
       generalize hv1:ρ x=v1 at h1;generalize hv2:ρ ix=v2 at h2
       cases h2
       obtain ⟨arr,c,rfl,hs,hc,hd⟩:=Yl h1
       have hd':=hd _ _ hcs
       have hcc:=hc n.toNat (by omega)
       generalize c n.toNat=cv at hd' hcc
       cases hd'
       refine ⟨.int kd' y,?_,.int _ _ _⟩
       have h0':0<=n/\n<(len:Int):=⟨h0,hlt⟩
       obtain ⟨hu,info,hi1,hi2,_⟩:=hE.ty _ _ hel
       unfold execOp
       simp only [ho,hv1,hv2,Instr.index,Sem.run_bind,asIntOf,Sem.run_pure,Result.andThen_ok,Zx hE ht]
       rw [if_pos h0']
       simp only [Sem.run_bind,Zy hE hel,Result.andThen_ok,part,Vz hE hel,Zs,Nat.mul_one,hcc]
       rfl
     · exact hk.elim
   · exact hk.elim
 · rename_i sz by_ z l s m kd n ht hX hIx
   obtain ⟨h0,h1',y,hy,hk⟩:=Zn5 hk
   refine Ya mx my (fun σ g w ρ h1 h2=> ?_) hk
   rw [hX] at h1;rw [hIx] at h2
   generalize hv1:ρ x=v1 at h1;generalize hv2:ρ ix=v2 at h2
   cases h1;cases h2
   rename_i b hb
   subst hb
   obtain ⟨q,hq,hqy⟩:=Zys _ _ _ hy
   subst hqy
   refine ⟨.int .u8 q.toNat,?_,.int _ _ _⟩
   unfold execOp
   simp only [ho,hv1,hv2,Instr.index,Sem.run_bind,asIntOf,Sem.run_pure,Result.andThen_ok,Zx hE ht,if_pos h0,hq]
 · exact hk.elim
end
end
section
open Go.RowKit
section
variable {Y:Thy} {E:Eng Y} {o:Oper} {T:Fr Y} {h:Hp Y} {i:Nat} {k:Res Y->Prop} {call:Nat->List (SV Y)->Hp Y->Nat->(Res Y->Prop)->Prop}
theorem Zo9 {x:Operand} {n:Nat} (ho:o.op= .extract x n) (hk:step E call o.op T h i k):∃r,k r/\Z0 E o T h i r:=by
 have mx:x∈o.op.operands.toList:=by simp [ho,Op.operands]
 have mx':=mx
 rw [ho] at hk
 simp only [step,Za7,W1,Zd2,Zi3,Za8,Zi5,Zg2,Zg3,stMm,Zi6,Zb8,Zg4,V3,V4,X5,Zb9,V5] at hk
 split at hk
 · rename_i vs hX
   split at hk
   · rename_i v hv
     refine Xy mx (fun σ g w ρ h1=> ?_) hk
     rw [hX] at h1
     generalize hv1:ρ x=v1 at h1
     obtain ⟨arr,c,rfl,hs,hc,hd⟩:=Zlq h1
     refine ⟨c n,?_,hd _ _ hv⟩
     have:=hc n (gA9.1 hv).1
     unfold execOp
     simp [ho,hv1,Instr.extract,this,go_sem]
   · exact hk.elim
 · exact hk.elim
theorem Zlc {x:Operand} (ho:o.op= .nilCheck x) (hk:step E call o.op T h i k):∃r,k r/\Z0 E o T h i r:=by
 have mx:x∈o.op.operands.toList:=by simp [ho,Op.operands]
 rw [ho] at hk
 simp only [step,Za7,W1,Zd2,Zi3,Za8,Zi5,Zg2,Zg3,stMm,Zi6,Zb8,Zg4,V3,V4,X5,Zb9,V5] at hk
 split at hk
 · rename_i b n hX
   refine Xy mx (fun σ g w ρ h1=> ?_) hk
   rw [hX] at h1
   refine ⟨ρ x,?_,h1⟩
   generalize hv1:ρ x=v1 at h1
   cases h1
   unfold execOp
   simp [ho,hv1,go_sem]
 · rename_i f a b hX
   refine Xy mx (fun σ g w ρ h1=> ?_) hk
   rw [hX] at h1
   refine ⟨ρ x,?_,h1⟩
   generalize hv1:ρ x=v1 at h1
   cases h1
   unfold execOp
   simp [ho,hv1,go_sem]
 · exact hk.elim
theorem Zdv {σ:Pl} {g:GH} {T:Fr Y} {ρ:Operand->Value} {xs:Array Operand} (hx:∀x∈xs.toList,Den E σ g (ev T x) (ρ x)):
 (xs.map ρ).size=(xs.toList.map (ev T)).length/\(∀j,j<(xs.toList.map (ev T)).length->(xs.map ρ)[j]? =some (ρ (xs.getD j default)))/\∀(j:Nat) sv,(xs.toList.map (ev T))[j]? =some sv->Den E σ g sv (ρ (xs.getD j default)):=by
 refine ⟨by simp,fun j hj=> ?_,fun j sv hj=> ?_⟩
 · have hj':j<xs.size:=by simpa using hj
   simp [hj',Array.getD]
 · rw [List.getElem?_map] at hj
   obtain ⟨x,hx',rfl⟩:=Option.map_eq_some_iff.1 hj
   have hj':j<xs.size:=by have:=(gA9.1 hx').1;simpa using this
   have:xs.getD j default=x:=by
    have h2:=(gA9.1 hx').2
    simp [Array.getD,hj'];simpa using h2
   rw [this]
   exact hx x (List.mem_of_getElem? hx')
theorem Zld {fn:Fn} {a b:Array Operand} (ho:o.op= .makeFunc fn a b) (hk:step E call o.op T h i k):∃r,k r/\Z0 E o T h i r:=by
 rw [ho] at hk
 simp only [step,Za7,W1,Zd2,Zi3,Za8,Zi5,Zg2,Zg3,stMm,Zi6,Zb8,Zg4,V3,V4,X5,Zb9,V5] at hk
 refine ⟨_,hk,Zq fun B σ g w ρ hh _ hI hx=>⟨.func fn (a.map ρ) (b.map ρ),?_,?_⟩⟩
 · unfold execOp;simp [ho,Instr.makeFunc,go_sem]
 · obtain ⟨h1,h2,h3⟩:=Zdv (E:=E) (σ:=σ) (g:=g) (T:=T) (ρ:=ρ) (xs:=a) (fun x hm=>hx x (by simp [ho,Op.operands] at hm⊢;exact .inl hm))
   obtain ⟨k1,k2,k3⟩:=Zdv (E:=E) (σ:=σ) (g:=g) (T:=T) (ρ:=ρ) (xs:=b) (fun x hm=>hx x (by simp [ho,Op.operands] at hm⊢;exact .inr hm))
   exact .fn _ _ h1 h2 h3 k1 k2 k3
theorem Zz1 (hE:EngOk E) {c:Call} (hc:c.callee= .builtin .len) (ho:o.op= .call c) {t:TypeId} {x:Operand} (ht:c.argTypes[0]? =some t) (hx0:c.args[0]? =some x) (hk:slen E t (ev T x) h k):∃r,k r/\Z0 E o T h i r:=by
 have mx:x∈o.op.operands.toList:=by
  have:x∈c.args:=Array.mem_of_getElem? hx0
  simp [ho,Op.operands,Call.operands,this]
 have run:∀(w:World) (ρ:Operand->Value) (u:Value),(Builtin.len_ c.argTypes o.type (c.args.map ρ)).run E.P w= .ok u w->(execOp ρ o).run E.P w= .ok (.value u) w:=by
  intro w ρ u hl
  unfold execOp
  simp only [ho,resolve,hc,Sem.run_bind,Sem.run_pure,Result.andThen_ok,invoke,builtin,hl]
 have ha:∀ρ:Operand->Value,(c.args.map ρ)[0]? =some (ρ x):=fun ρ=>by simp [hx0]
 unfold slen at hk
 split at hk
 case h_6=>exact hk.elim
 all_goals
  refine Xy mx (fun σ g w ρ h1=> ?_) hk
 · rename_i el sz by_ z th l f hty hX
   rw [hX] at h1
   generalize hv1:ρ x=v1 at h1
   cases h1
   refine ⟨_,run w ρ _ ?_,.int _ _ _⟩
   simp [Builtin.len_,ht,ha,hv1,Zx hE hty,goInt,go_sem]
 · rename_i el sz by_ z b off n wd cap hty hX
   rw [hX] at h1
   generalize hv1:ρ x=v1 at h1
   cases h1
   refine ⟨_,run w ρ _ ?_,.int _ _ _⟩
   simp [Builtin.len_,ht,ha,hv1,Zx hE hty,goInt,go_sem]
 · rename_i el sz by_ z n cap hty hX
   rw [hX] at h1
   generalize hv1:ρ x=v1 at h1
   cases h1
   refine ⟨_,run w ρ _ ?_,.int _ _ _⟩
   simp [Builtin.len_,ht,ha,hv1,Zx hE hty,goInt,go_sem]
 · rename_i sz by_ z l s hty hX
   rw [hX] at h1
   generalize hv1:ρ x=v1 at h1
   cases h1
   rename_i b hb
   subst hb
   rw [Zbn]
   refine ⟨_,run w ρ _ ?_,.int _ _ _⟩
   simp [Builtin.len_,ht,ha,hv1,Zx hE hty,goInt,go_sem]
 · rename_i n el sz by_ z hty
   refine ⟨_,run w ρ _ ?_,.int _ _ _⟩
   simp [Builtin.len_,ht,ha,Zx hE hty,goInt,go_sem]
theorem Zz2 (mx:Bool) {σ:Pl} {g:GH} (w:World):∀(ys:List (SV Y)) (x:SV Y) (v:Value) (vs:List Value) (sv:SV Y),Den E σ g x v->DenL E σ g ys vs->smm mx x ys=some sv->
 ∃u,(match mx with|true=>vs.foldlM Builtin.max2 v|false=>vs.foldlM Builtin.min2 v:Sem Value).run E.P w= .ok u w/\Den E σ g sv u:=by
 intro ys
 induction ys with
 |nil=>
  intro x v vs sv hx hl hk
  have:vs= []:=by have:=hl.1;cases vs<;>first|rfl|simp at this
  subst this
  obtain rfl:x=sv:=by cases x<;>simpa [smm] using hk
  refine ⟨v,?_,hx⟩
  cases mx<;>simp [go_sem]
 |cons y ys ih=>
  intro x v vs sv hx hl hk
  cases vs with
  |nil=>have:=hl.1;simp at this
  |cons u vs=>
   have hy:Den E σ g y u:=hl.2 0 y u rfl rfl
   have hl':DenL E σ g ys vs:=⟨by have:=hl.1;simpa using this,fun j sv v h1 h2=>hl.2 (j+1) sv v (by simpa using h1) (by simpa using h2)⟩
   cases x<;>cases y<;>simp only [smm] at hk<;>try (cases hk;done)
   rename_i l kd a m kd' b
   split at hk
   · rename_i hkd
     obtain rfl:=of_decide_eq_true hkd
     cases hx;cases hy
     obtain ⟨u,h2,h3⟩:=ih _ (.int kd (mm2 mx a b)) vs sv (.int _ _ _) hl' hk
     refine ⟨u,?_,h3⟩
     cases mx<;>simpa [Builtin.max2,Builtin.min2,mm2,go_sem] using h2
   · cases hk
theorem Zfh (mx:Bool) {c:Call} (hc:c.callee= .builtin (if mx then .max else .min)) (ho:o.op= .call c) {x:Operand} {r:List Operand} (hx0:c.args.toList=x::r) (hk:Zbw mx (ev T x) (r.map (ev T)) k):∃r,k r/\Z0 E o T h i r:=by
 unfold Zbw at hk
 split at hk
 · rename_i sv hs
   refine ⟨_,hk,Zq fun B σ g w ρ hh _ hI hx=> ?_⟩
   have hm:∀y∈x::r,Den E σ g (ev T y) (ρ y):=fun y hy=>hx y (by
    have:y∈c.args.toList:=hx0▸hy
    simp [ho,Op.operands,Call.operands];exact .inr (by simpa using this))
   obtain ⟨u,h1,h2⟩:=Zz2 (E:=E) mx w (r.map (ev T)) (ev T x) (ρ x) (r.map ρ) sv (hm x (by simp)) ⟨by simp,fun j sv v h1 h2=>by
    rw [List.getElem?_map] at h1 h2
    obtain ⟨y,hy,rfl⟩:=Option.map_eq_some_iff.1 h1
    rw [hy] at h2
    obtain rfl:ρ y=v:=by simpa using h2
    exact hm y (by simp [List.mem_of_getElem? hy])⟩ hs
   refine ⟨u,?_,h2⟩
   have ha:(c.args.map ρ).toList=ρ x::r.map ρ:=by simp [hx0]
   unfold execOp
   cases mx with
   |true=>simp only [ho,resolve,hc,if_true,Sem.run_bind,Sem.run_pure,Result.andThen_ok,invoke,builtin,Builtin.max_,ha];rw [h1];rfl
   |false=>simp only [ho,resolve,hc,if_false,Bool.false_eq_true,Sem.run_bind,Sem.run_pure,Result.andThen_ok,invoke,builtin,Builtin.min_,ha];rw [h1];rfl
 · exact hk.elim
theorem Vj {σ:Pl} {g:GH} {th:Y.Th} {l:List (Y.dom th)} {full:Bool} {v:Value} (h:Den E σ g (.psl th l full) v):∃(base:Option Addr) (c:Nat) (cv:Nat->Nat->Value),v= .slice base l.length c/\l.length<=c/\c<=maxLen/\(full=true->c=l.length)/\(base=none->c=0)/\
 (0<l.length->∃r o,base=some ⟨r,o,none⟩/\∀i x,l[i]? =some x->∀j,j<(E.enc th x).length->g.cell r (o+i*E.w th+j)=some (cv i j))/\∀i x,l[i]? =some x->∀j sv,(E.enc th x)[j]? =some sv->Den E σ g sv (cv i j):=by
 cases h with
 |psl cv hl hm hf hn hb hd=>exact ⟨_,_,cv,rfl,hl,hm,hf,hn,hb,hd⟩
theorem Zwp {l:Bool} {n:Int} {len:Nat} {k:Nat->Prop} (h:Zpc l n len k):(0<=n/\n<len)/\k n.toNat:=by
 unfold Zpc at h
 split at h
 · exact Zw h
 · exact ⟨⟨h.1,h.2.1⟩,Uw h.2.2 (by omega) (by omega)⟩
theorem Xp (hE:EngOk E) {t:TypeId} {x ix:Operand} (ho:o.op= .indexAddr t x ix) (hk:Xd E t (ev T x) (ev T ix) h k):∃r,k r/\Z0 E o T h i r:=by
 have mx:x∈o.op.operands.toList:=by simp [ho,Op.operands]
 have my:ix∈o.op.operands.toList:=by simp [ho,Op.operands]
 unfold Xd at hk
 split at hk
 · rename_i len el sz by_ z l kd n ht hIx
   have run:∀(w:World) (ρ:Operand->Value) (ti:TyI) (a:Addr),E.ty el=some ti->0<=n/\n<(len:Int)->ρ x= .pointer (some a)->ρ ix= .int kd n->(execOp ρ o).run E.P w= .ok (.value (.pointer (some (a.add (n.toNat*ti.size))))) w:=by
    intro w ρ ti a hel h0 hv1 hv2
    unfold execOp
    simp only [ho,hv1,hv2,Instr.indexAt,Sem.run_bind,asIntOf,Sem.run_pure,Result.andThen_ok,Zx hE ht,Instr.sureAddr,if_pos h0,Zy hE hel]
   split at hk
   · rename_i ti b off hel hX
     split at hk
     · rename_i hb
       simp only [Bool.and_eq_true,decide_eq_true_eq] at hb
       have hlt:n.toNat<len:=Yn hb.2
       have h0:0<=n/\n<(len:Int):=by omega
       refine Ya mx my (fun σ g w ρ h1 h2=> ?_) hk
       rw [hX] at h1;rw [hIx] at h2
       generalize hv1:ρ x=v1 at h1;generalize hv2:ρ ix=v2 at h2
       cases h2;cases h1
       refine ⟨_,run w ρ ti _ hel h0 hv1 hv2,?_⟩
       rw [Yq]
       exact .ptr (by assumption)
     · exact hk.elim
   · rename_i ti th y off hel hX
     split at hk
     · rename_i hb
       simp only [Bool.and_eq_true,decide_eq_true_eq] at hb
       have hlt:n.toNat<len:=Yn hb.2
       have h0:0<=n/\n<(len:Int):=by omega
       refine Ya mx my (fun σ g w ρ h1 h2=> ?_) hk
       rw [hX] at h1;rw [hIx] at h2
       generalize hv1:ρ x=v1 at h1;generalize hv2:ρ ix=v2 at h2
       cases h2;cases h1
       refine ⟨_,run w ρ ti _ hel h0 hv1 hv2,?_⟩
       rw [Yq,Nat.add_assoc]
       exact .pptr _ (by assumption) (by assumption)
     · exact hk.elim
   · rename_i ti gl off hel hX
     split at hk
     · rename_i hb
       simp only [Bool.and_eq_true,decide_eq_true_eq] at hb
       have hlt:n.toNat<len:=Yn hb.2
       have h0:0<=n/\n<(len:Int):=by omega
       refine Ya mx my (fun σ g w ρ h1 h2=> ?_) hk
       rw [hX] at h1;rw [hIx] at h2
       generalize hv1:ρ x=v1 at h1;generalize hv2:ρ ix=v2 at h2
       cases h2;cases h1
       refine ⟨_,run w ρ ti _ hel h0 hv1 hv2,?_⟩
       rw [Yq]
       exact .val _
     · exact hk.elim
   · rename_i ti gl off hel hX
     obtain ⟨hlo,hhi,hk⟩:=hk
     have hk:=Uw hk (by omega) (by omega)
     refine Ya mx my (fun σ g w ρ h1 h2=> ?_) hk
     rw [hX] at h1;rw [hIx] at h2
     generalize hv1:ρ x=v1 at h1;generalize hv2:ρ ix=v2 at h2
     cases h2;cases h1
     refine ⟨_,run w ρ ti _ hel ⟨hlo,hhi⟩ hv1 hv2,?_⟩
     rw [Yq]
     exact .val _
   · rename_i ti b off hel hX
     obtain ⟨hlo,hhi,hk⟩:=hk
     have hk:=Uw hk (by omega) (by omega)
     refine Ya mx my (fun σ g w ρ h1 h2=> ?_) hk
     rw [hX] at h1;rw [hIx] at h2
     generalize hv1:ρ x=v1 at h1;generalize hv2:ρ ix=v2 at h2
     cases h2;cases h1
     refine ⟨_,run w ρ ti _ hel ⟨hlo,hhi⟩ hv1 hv2,?_⟩
     rw [Yq]
     exact .ptr (by assumption)
   · rename_i ti th y off hel hX
     obtain ⟨hlo,hhi,hk⟩:=hk
     have hk:=Uw hk (by omega) (by omega)
     refine Ya mx my (fun σ g w ρ h1 h2=> ?_) hk
     rw [hX] at h1;rw [hIx] at h2
     generalize hv1:ρ x=v1 at h1;generalize hv2:ρ ix=v2 at h2
     cases h2;cases h1
     refine ⟨_,run w ρ ti _ hel ⟨hlo,hhi⟩ hv1 hv2,?_⟩
     rw [Yq,Nat.add_assoc]
     exact .pptr _ (by assumption) (by assumption)
   · rename_i ti b q w' off hel hX
     split at hk
     · rename_i hb
       simp only [Bool.and_eq_true,decide_eq_true_eq] at hb
       have hlt:n.toNat<len:=Yn hb.2
       have h0:0<=n/\n<(len:Int):=by omega
       refine Ya mx my (fun σ g w ρ h1 h2=> ?_) hk
       rw [hX] at h1;rw [hIx] at h2
       generalize hv1:ρ x=v1 at h1;generalize hv2:ρ ix=v2 at h2
       cases h2;cases h1
       refine ⟨_,run w ρ ti _ hel h0 hv1 hv2,?_⟩
       rw [Yq,Nat.add_assoc]
       exact .eptr (by assumption)
     · exact hk.elim
   · rename_i ti b q w' off hel hX
     obtain ⟨hlo,hhi,hk⟩:=hk
     have hk:=Uw hk (by omega) (by omega)
     refine Ya mx my (fun σ g w ρ h1 h2=> ?_) hk
     rw [hX] at h1;rw [hIx] at h2
     generalize hv1:ρ x=v1 at h1;generalize hv2:ρ ix=v2 at h2
     cases h2;cases h1
     refine ⟨_,run w ρ ti _ hel ⟨hlo,hhi⟩ hv1 hv2,?_⟩
     rw [Yq,Nat.add_assoc]
     exact .eptr (by assumption)
   · exact hk.elim
 · rename_i el sz by_ z l kd n ht hIx
   split at hk
   · rename_i ti hel
     split at hk
     · rename_i th ls full hX
       obtain ⟨hw,hk⟩:=Xs hk
       obtain ⟨h0,hlt,y,hy,hk⟩:=Zn5 hk
       refine Ya mx my (fun σ g w ρ h1 h2=> ?_) hk
       rw [hX] at h1;rw [hIx] at h2
       generalize hv1:ρ x=v1 at h1;generalize hv2:ρ ix=v2 at h2
       cases h2
       obtain ⟨base,c,cv,rfl,hl,hm,hf,hn,hb,hd⟩:=Vj h1
       obtain ⟨r,o',rfl,hcell⟩:=hb (by omega)
       refine ⟨.pointer (some ⟨r,o'+n.toNat*E.w th+0,none⟩),?_,.pptr (fun j=>cv n.toNat j) (fun j hj=>hcell _ _ hy j hj) (fun j sv hj=>hd _ _ hy j sv hj)⟩
       have h0':0<=n/\n<(ls.length:Int):=⟨h0,hlt⟩
       unfold execOp
       simp only [ho,hv1,hv2,Instr.indexAt,Sem.run_bind,asIntOf,Sem.run_pure,Result.andThen_ok,Zx hE ht,if_pos h0',Zy hE hel,hw,Yq,Nat.add_zero]
     · rename_i b off len w' cap hX
       have run:∀(w:World) (ρ:Operand->Value) (r c:Nat),(0<=n/\n<(len:Int))->ti.size=w'->ρ x= .slice (some ⟨r,off*w',none⟩) len c->ρ ix= .int kd n->(execOp ρ o).run E.P w= .ok (.value (.pointer (some ⟨r,(off+n.toNat)*w',none⟩))) w:=by
        intro w ρ r c h0 hw hv1 hv2
        unfold execOp
        simp only [ho,hv1,hv2,Instr.indexAt,Sem.run_bind,asIntOf,Sem.run_pure,Result.andThen_ok,Zx hE ht,if_pos h0,Zy hE hel,hw,Yq,Nat.add_mul]
       split at hk
       · obtain ⟨hp,hk⟩:=Zwp hk
         obtain ⟨hw,hk⟩:=Xs hk
         refine Ya mx my (fun σ g w ρ h1 h2=> ?_) hk
         rw [hX] at h1;rw [hIx] at h2
         generalize hv1:ρ x=v1 at h1;generalize hv2:ρ ix=v2 at h2
         cases h2;cases h1
         exact ⟨_,run w ρ _ _ hp hw hv1 hv2,.ptr (by assumption)⟩
       · obtain ⟨hp,hk⟩:=Zw hk
         obtain ⟨hw,hk⟩:=Xs hk
         obtain ⟨_,hk⟩:=Xs hk
         refine Ya mx my (fun σ g w ρ h1 h2=> ?_) hk
         rw [hX] at h1;rw [hIx] at h2
         generalize hv1:ρ x=v1 at h1;generalize hv2:ρ ix=v2 at h2
         cases h2;cases h1
         exact ⟨_,run w ρ _ _ hp hw hv1 hv2,by simpa using Den.eptr (off:=0) (i:=off+n.toNat) (w:=w') (by assumption)⟩
       · exact hk.elim
     · exact hk.elim
   · exact hk.elim
 · exact hk.elim
end
end
section
open Go.RowKit
section
variable {Y:Thy} {E:Eng Y} {o:Oper} {T:Fr Y} {h:Hp Y} {i:Nat} {k:Res Y->Prop} {call:Nat->List (SV Y)->Hp Y->Nat->(Res Y->Prop)->Prop}
theorem BlkOk.cells_iff {σ:Pl} {g:GH} {w:World} {r z:Nat} {b:Blk Y} (hm:∀es,b≠ .map es):BlkOk E σ g w r z b↔
 ∃arr e,w.heap[r]? =some (.cells arr e (0,0))/\arr.size=z/\(b.cells E).length<=z/\(∀(j:Nat) sv,(b.cells E)[j]? =some sv->∃v,arr[j]? =some v/\Den E σ g sv v)/\ElOk E e b:=by
 cases b with
 |map es=>exact absurd rfl (hm es)
 |raw cs fz tg=>exact Iff.rfl
 |rows th l fz=>exact Iff.rfl
theorem BlkOk.mono {σ σ':Pl} {g g':GH} {w w':World} {r z:Nat} {b:Blk Y} (hσ:Pl.le σ σ') (hg:g.le g') (hw:w'.heap[r]? =w.heap[r]?) (hb:BlkOk E σ g w r z b):BlkOk E σ' g' w' r z b:=by
 cases b with
 |map es=>
  obtain ⟨ents,c,h1,h2,h3⟩:=hb
  exact ⟨ents,c,hw.trans h1,h2,fun j k sv hj=>let ⟨v,bo,h4,h5⟩:=h3 j k sv hj;⟨v,bo,h4,h5.mono hσ hg⟩⟩
 |raw cs fz tg=>
  obtain ⟨arr,e,h1,h2,h3,h4,h0⟩:=hb
  exact ⟨arr,e,hw.trans h1,h2,h3,fun j sv hj=>let ⟨v,h5,h6⟩:=h4 j sv hj;⟨v,h5,h6.mono hσ hg⟩,h0⟩
 |rows th l fz=>
  obtain ⟨arr,e,h1,h2,h3,h4,h0⟩:=hb
  exact ⟨arr,e,hw.trans h1,h2,h3,fun j sv hj=>let ⟨v,h5,h6⟩:=h4 j sv hj;⟨v,h5,h6.mono hσ hg⟩,h0⟩
def updσ (σ:Pl) (i:Nat) (p:Nat×Nat):Pl:=fun j=>if j=i then some p else σ j
theorem Zfz {σ:Pl} {i:Nat} {p:Nat×Nat} (h:σ i=none):Pl.le σ (updσ σ i p):=by
 intro b q hb
 unfold updσ
 by_cases e:b=i
 · rw [e,h] at hb;cases hb
 · rw [if_neg e];exact hb
theorem U8 (h:Hp Y) (i:Nat) (v:SV Y) (b:Blk Y) (rd:List Nat):patch h i (fresh i v b rd)=upd h i (some b):=by
 funext j
 simp only [patch,fresh,memB,Bool.false_or,upd]
 by_cases hj:j=i
 · subst hj
   have h1:Nat.ble j j=true:=by rw [Nat.ble_eq];omega
   have h2:Nat.blt j (j+1)=true:=by rw [Nat.blt,Nat.ble_eq];omega
   simp [h1,h2]
 · have h1:Nat.beq j i=false:=by rw [<-Bool.not_eq_true,Nat.beq_eq];exact hj
   have h2:(Nat.ble i j&&Nat.blt j (i+1))=false:=by
    rw [Bool.and_eq_false_iff,<-Bool.not_eq_true,Nat.ble_eq,<-Bool.not_eq_true,Nat.blt,Nat.ble_eq];omega
   rw [h1,h2]
theorem Y9 (h:Hp Y) (i b:Nat) (x:Option (Blk Y)) (v:SV Y) (rd:List Nat):patch h i (change b x v rd)=upd h b x:=by
 funext j
 simp only [patch,change,memB,upd,Nat.add_zero]
 have h2:(Nat.ble i j&&Nat.blt j i)=false:=by
  rw [Bool.and_eq_false_iff,<-Bool.not_eq_true,Nat.ble_eq,<-Bool.not_eq_true,Nat.blt,Nat.ble_eq];omega
 rw [h2]
 cases Nat.beq j b<;>rfl
theorem Zh {α:Type} (h:Nat->α) (i:Nat) (x:α) (j:Nat):upd h i x j=if j=i then x else h j:=by
 unfold upd
 by_cases e:j=i
 · subst e;simp
 · have:Nat.beq j i=false:=by rw [<-Bool.not_eq_true,Nat.beq_eq];exact e
   rw [this,if_neg e]
theorem Zc3 {B:Nat} {σ:Pl} {g:GH} {w:World} {hh:Hp Y} (hI:Inv E B σ hh g w) (hB:B<=w.heap.size) (hi:σ i=none) {arr:Array Value} {e:TypeId} {blk:Blk Y} (hm:∀es,blk≠ .map es)
 (hel:ElOk E e blk) (hl:(blk.cells E).length<=arr.size) (hd:∀(j:Nat) sv,(blk.cells E)[j]? =some sv->∃v,arr[j]? =some v/\Den E σ g sv v):
 Inv E B (updσ σ i (w.heap.size,arr.size)) (upd hh i (some blk)) g (w.alloc (.cells arr e))/\Stp i 1 [] σ g w (updσ σ i (w.heap.size,arr.size)) g (w.alloc (.cells arr e)):=by
 have hle:Pl.le σ (updσ σ i (w.heap.size,arr.size)):=Zfz hi
 have hold:∀r,r<w.heap.size->(w.alloc (.cells arr e)).heap[r]? =w.heap[r]? :=fun r hr=>by first|exact heap_alloc_old w _ hr|exact heap_alloc_old w _ r hr
 have hsz:(w.alloc (.cells arr e)).heap.size=w.heap.size+1:=by show (w.heap.push _).size=_;simp
 have glt:∀r n v,g.cell r n=some v->r<w.heap.size:=fun r n v hc=>block_lt_of_cell (hI.gc r n v hc)
 have gmlt:∀r es,g.obj r=some es->r<w.heap.size:=fun r es hc=>by obtain ⟨c,h⟩:=hI.gm r es hc;exact (Array.getElem?_eq_some_iff.1 h).1
 refine ⟨⟨?_,?_,?_,?_,?_,?_,?_,hI.glob⟩,⟨hle,?_,.refl _,fun _ _ _ h=> .inl h,fun _ _ h=> .inl h,fun r hr _=>hold r hr,by omega,rfl,rfl,rfl,?_⟩⟩
 · intro r n v hc
   rw [World.cell?_of_block (w:=w) (hold r (glt _ _ _ hc))];exact hI.gc _ _ _ hc
 · intro r es hc
   obtain ⟨c,h⟩:=hI.gm r es hc
   exact ⟨c,(hold r (gmlt _ _ hc)).trans h⟩
 · intro b x hx
   rw [Zh] at hx
   by_cases hb:b=i
   · rw [if_pos hb] at hx
     obtain rfl:=Option.some.inj hx
     refine ⟨w.heap.size,arr.size,by simp [updσ,hb],(BlkOk.cells_iff hm).2 ⟨arr,e,heap_alloc_new w _,rfl,hl,fun j sv hj=> ?_,hel⟩⟩
     obtain ⟨v,h1,h2⟩:=hd j sv hj
     exact ⟨v,h1,h2.mono hle (.refl _)⟩
   · rw [if_neg hb] at hx
     obtain ⟨r,z,h1,h2⟩:=hI.blk b x hx
     exact ⟨r,z,hle _ _ h1,h2.mono hle (.refl _) (hold r (hI.base _ _ _ h1).2)⟩
 · intro b b' r z z' hb hb' h1 h2
   rw [Zh] at hb hb'
   unfold updσ at h1 h2
   by_cases e1:b=i<;>by_cases e2:b'=i
   · rw [e1,e2]
   · rw [if_pos e1] at h1;rw [if_neg e2] at h2;cases h1
     have:=(hI.base _ _ _ h2).2;omega
   · rw [if_neg e1] at h1;rw [if_pos e2] at h2;cases h2
     have:=(hI.base _ _ _ h1).2;omega
   · rw [if_neg e1] at h1 hb;rw [if_neg e2] at h2 hb'
     exact hI.inj _ _ _ _ _ hb hb' h1 h2
 · intro b r z h1
   unfold updσ at h1
   by_cases e1:b=i
   · rw [if_pos e1] at h1;cases h1;exact ⟨hB,by omega⟩
   · rw [if_neg e1] at h1;have:=hI.base _ _ _ h1;exact ⟨this.1,by omega⟩
 · intro b x r z n v hx h1 hc
   rw [Zh] at hx
   unfold updσ at h1
   by_cases e1:b=i
   · rw [if_pos e1] at h1;cases h1;have:=glt _ _ _ hc;omega
   · rw [if_neg e1] at h1 hx;exact hI.fz _ _ _ _ _ _ hx h1 hc
 · intro b x r z hx h1
   rw [Zh] at hx
   unfold updσ at h1
   by_cases e1:b=i
   · rw [if_pos e1] at h1;cases h1
     cases hg:g.obj w.heap.size with
     |none=>rfl
     |some es=>have:=gmlt _ _ hg;omega
   · rw [if_neg e1] at h1 hx;exact hI.fm _ _ _ _ hx h1
 · intro b p hb
   unfold updσ at hb
   by_cases e1:b=i
   · right;omega
   · rw [if_neg e1] at hb;exact .inl hb
 · intro b r z h1 h2
   unfold updσ at h2
   by_cases e1:b=i
   · rw [if_pos e1] at h2;cases h2;exact .inl (Nat.le_refl _)
   · rw [if_neg e1,h1] at h2;cases h2
theorem W4 {σ : Pl} {g : GH} {sv : SV Y} {v : Value} (hd : Den E σ g sv v) (hl : leaves sv.cells = true) : sv.cells.length = v.cells.size ∧ (∀ (j : Nat) s, sv.cells[j]? = some s → ∃ u, v.cells[j]? = some u ∧ Den E σ g s u) := by
  by_cases ha : ∃ cs, sv = .agg cs
  · obtain ⟨cs, rfl⟩ := ha
    obtain ⟨arr, c, rfl, hs, hc, hd⟩ := Yl hd
    exact ⟨hs.symm, fun j s hj => ⟨c j, hc j (gA9.1 hj).1, hd j s hj⟩⟩
  · have hc : sv.cells = [sv] := by cases sv <;> first | rfl | exact absurd ⟨_, rfl⟩ ha
    rw [hc] at hl ⊢
    have hlf : leaf sv = true := by simp only [leaves] at hl; split at hl <;> first | assumption | cases hl
    have hv : v.cells = #[v] := by have := Vf hlf hd; cases v <;> first | rfl | cases this
    rw [hv]
    refine ⟨rfl, fun j s hj => ?_⟩
    cases j with
    | zero => obtain rfl : sv = s := by simpa using hj
              exact ⟨v, rfl, hd⟩
    | succ j => simp at hj
theorem W5 {cs : List (SV Y)} (h : leaves cs = true) {j : Nat} {s : SV Y} (hj : cs[j]? = some s) : leaf s = true := by
  induction cs generalizing j with
  | nil => simp at hj
  | cons x r ih =>
    simp only [leaves] at h
    split at h
    · cases j with
      | zero => obtain rfl : x = s := by simpa using hj
                assumption
      | succ j => exact ih h (by simpa using hj)
    · cases h
theorem Vr {rd:List Nat} {v:SV Y} {blk:Blk Y} (hm:∀es,blk≠ .map es)
 (H:∀(σ:Pl) (g:GH) (w:World) (ρ:Operand->Value),(∀x∈o.op.operands.toList,Den E σ g (ev T x) (ρ x))->
  ∃arr e u,(execOp ρ o).run E.P w= .ok (.value u) (w.alloc (.cells arr e))/\ElOk E e blk/\(blk.cells E).length<=arr.size/\(∀(j:Nat) sv,(blk.cells E)[j]? =some sv->∃v,arr[j]? =some v/\Den E σ g sv v)/\
   ∀σ',σ' i=some (w.heap.size,arr.size)->Den E σ' g v u) (hk:k (fresh i v blk rd)):∃r,k r/\Z0 E o T h i r:=by
 refine ⟨_,hk,fun b hb=>by simp [fresh] at hb,?_⟩
 intro B σ g w ρ hh hrd hI hB hfree hx
 obtain ⟨arr,e,u,hrun,hel,hl,hd,hv⟩:=H σ g w ρ hx
 obtain ⟨h1,h2⟩:=Zc3 (i:=i) hI hB (hfree i (Nat.le_refl _) (Nat.lt_succ_self _)) (arr:=arr) (e:=e) hm hel hl hd
 refine Y2 hrun ⟨_,_,h2,?_,hv _ (by simp [updσ])⟩
 rw [U8];exact h1
theorem Ve (hE:EngOk E) {t:TypeId} {ti:TyI} (ht:E.ty t=some ti) (w:World):(zeroValue t).run E.P w= .ok ti.zero w:=by
 obtain ⟨_,info,h1,_,_,h4⟩:=hE.ty _ _ ht
 simp [zeroValue,typeInfo,h1,h4,go_sem]
theorem Yt (v : Value) : (Yo v : SV Y).cells.length = v.cells.size ∧ ∀ (σ : Pl) (g : GH) (j : Nat) s, (Yo v : SV Y).cells[j]? = some s → ∃ u, v.cells[j]? = some u ∧ Den E σ g s u := by
  by_cases ha : ∃ cs, v = .agg cs
  · obtain ⟨cs, rfl⟩ := ha
    refine ⟨by simp [Yo, SV.cells, Value.cells], fun σ g j s hj => ?_⟩
    simp only [Yo, SV.cells, List.getElem?_map] at hj
    obtain ⟨u, hu, rfl⟩ := Option.map_eq_some_iff.1 hj
    exact ⟨u, by simpa [Value.cells] using hu, Ug E σ g u⟩
  · have h1 : (Yo v : SV Y) = Zdx v := by cases v <;> first | rfl | exact absurd ⟨_, rfl⟩ ha
    have h2 : (Zdx v : SV Y).cells = [Zdx v] := by cases v <;> rfl
    have h3 : v.cells = #[v] := by cases v <;> first | rfl | exact absurd ⟨_, rfl⟩ ha
    rw [h1, h2, h3]
    refine ⟨rfl, fun σ g j s hj => ?_⟩
    cases j with
    | zero => obtain rfl : Zdx v = s := by simpa using hj
              exact ⟨v, rfl, Ug E σ g v⟩
    | succ j => simp at hj
theorem Zve (hE:EngOk E) {t:TypeId} (ho:o.op= .alloc t) (hk:W1 E t i k):∃r,k r/\Z0 E o T h i r:=by
 unfold W1 at hk
 split at hk
 · rename_i ti ht
   refine Vr (by intro es e;cases e) (fun σ g w ρ hx=> ?_) hk
   obtain ⟨h1,h2⟩:=Yt (E:=E) ti.zero
   refine ⟨ti.zero.cells,t,.pointer (some ⟨w.heap.size,0,none⟩),?_,trivial,Nat.le_of_eq h1,fun j sv hj=>h2 σ g j sv hj,fun σ' hσ=> .ptr hσ⟩
   unfold execOp
   simp only [ho,Instr.alloc,Sem.run_bind,Ve hE ht,Result.andThen_ok,newVar,newRow,newObj,Sem.run,Sem.run_pure]
   rfl
 · exact hk.elim
theorem Z1y {t:TypeId} {x:Operand} (ho:o.op= .box t x) (hk:Zd2 (ev T x) i k):∃r,k r/\Z0 E o T h i r:=by
 unfold Zd2 at hk
 split at hk
 · rename_i hl
   refine Vr (by intro es e;cases e) (fun σ g w ρ hx=> ?_) hk
   obtain ⟨h1,h2⟩:=W4 (hx x (by simp [ho,Op.operands])) hl
   refine ⟨(ρ x).cells,t,.pointer (some ⟨w.heap.size,0,none⟩),?_,trivial,Nat.le_of_eq h1,fun j sv hj=>h2 j sv hj,fun σ' hσ=> .ptr hσ⟩
   unfold execOp
   simp only [ho,Instr.box,Sem.run_bind,Result.andThen_ok,newVar,newRow,newObj,Sem.run,Sem.run_pure]
   rfl
 · exact hk.elim
end
end
section
open Go.RowKit
section
variable {Y:Thy} {E:Eng Y} {o:Oper} {T:Fr Y} {h:Hp Y} {i:Nat} {k:Res Y->Prop} {call:Nat->List (SV Y)->Hp Y->Nat->(Res Y->Prop)->Prop}
theorem Xk (hE:EngOk E) (th:Y.Th) (l:List (Y.dom th)) {m:Nat} {s:SV Y} (h:(l.flatMap (E.enc th))[m]? =some s):∃q p x,m=q*E.w th+p/\p<E.w th/\l[q]? =some x/\(E.enc th x)[p]? =some s:=by
 have hlt:m<l.length*E.w th:=by rw [<-Zz hE];exact (gA9.1 h).1
 have hpos:=hE.pos th
 have hm:m=m/E.w th*E.w th+m%E.w th:=by rw [Nat.mul_comm];exact (Nat.div_add_mod _ _).symm
 have hq:m/E.w th<l.length:=(Nat.div_lt_iff_lt_mul hpos).2 hlt
 have hp:m%E.w th<E.w th:=Nat.mod_lt _ hpos
 have hx:=gB9 hq
 refine ⟨_,_,_,hm,hp,hx,?_⟩
 rw [<-Yu hE th l _ _ hx _ hp,<-hm];exact h
theorem Zbr {B : Nat} {σ : Pl} {g : GH} {w : World} {hh : Hp Y} (hI : Inv E B σ hh g w) {b r z : Nat} {blk blk' : Blk Y} (hb : hh b = some blk) (hσ : σ b = some (r, z)) {arr arr' : Array Value} {e : TypeId} (ha : w.heap[r]? = some (.cells arr e (0, 0))) (hs : arr'.size = arr.size)
    (hz : arr.size = z) (hel : ElOk E e blk') (hm : ∀ es, blk' ≠ .map es) (hf : blk'.fzc E = blk.fzc E) (hkeep : ∀ n, n < blk.fzc E → arr'[n]? = arr[n]?) (hl : (blk'.cells E).length ≤ z) (hd : ∀ (j : Nat) sv, (blk'.cells E)[j]? = some sv → ∃ v, arr'[j]? = some v ∧ Den E σ g sv v) :
    Inv E B σ (upd hh b (some blk')) g (w.setRow r arr') ∧ Stp i 0 [b] σ g w σ g (w.setRow r arr') := by
  have hother : ∀ q, q ≠ r → (w.setRow r arr').heap[q]? = w.heap[q]? := fun q hq => setRow_other w r q arr' hq
  have hne : ∀ b' r' z', hh b' ≠ none → σ b' = some (r', z') → b' ≠ b → r' ≠ r := by
    intro b' r' z' h1 h2 h3 e
    subst e
    exact h3 (hI.inj _ _ _ _ _ h1 (by rw [hb]; simp) h2 hσ)
  refine ⟨⟨?_, ?_, ?_, ?_, ?_, ?_, ?_, hI.glob⟩, ⟨.refl _, fun b p h => .inl h, .refl _, fun _ _ _ h => .inl h, fun _ _ h => .inl h, fun q hq hq2 => hother q fun e => hq2 b (by simp) z (e ▸ hσ), by simp, rfl, rfl, rfl, fun b' r' z' h1 h2 => by rw [h1] at h2; cases h2⟩⟩
  · intro q n v hc
    have hc' := hI.gc _ _ _ hc
    by_cases e : q = r
    · subst e
      rw [cell_setRow_same w q n arr arr' _ _ ha, hkeep n (hI.fz _ _ _ _ _ _ hb hσ hc)]
      simpa [World.cell?, ha] using hc'
    · rw [cell_setRow_other w r arr' _ (by simpa using e)]; exact hc'
  · intro q es hc
    obtain ⟨c, h⟩ := hI.gm _ _ hc
    have : q ≠ r := by rintro rfl; rw [ha] at h; cases h
    exact ⟨c, (hother q this).trans h⟩
  · intro b' x hx
    rw [Zh] at hx
    by_cases e1 : b' = b
    · rw [if_pos e1] at hx
      obtain rfl := Option.some.inj hx
      subst e1
      exact ⟨r, z, hσ, (BlkOk.cells_iff hm).2 ⟨arr', e, setRow_heap w r arr arr' _ _ ha, by omega, hl, hd, hel⟩⟩
    · rw [if_neg e1] at hx
      obtain ⟨r', z', h1, h2⟩ := hI.blk _ _ hx
      exact ⟨r', z', h1, h2.mono (.refl _) (.refl _) (hother _ (hne _ _ _ (by rw [hx]; simp) h1 e1))⟩
  · intro b1 b2 r' z1 z2 h1 h2 k1 k2
    rw [Zh] at h1 h2
    have q1 : hh b1 ≠ none := by by_cases e : b1 = b; · rw [e, hb]; simp
                                 · rw [if_neg e] at h1; exact h1
    have q2 : hh b2 ≠ none := by by_cases e : b2 = b; · rw [e, hb]; simp
                                 · rw [if_neg e] at h2; exact h2
    exact hI.inj _ _ _ _ _ q1 q2 k1 k2
  · intro b' r' z' h1
    have := hI.base _ _ _ h1
    exact ⟨this.1, by simpa using this.2⟩
  · intro b' x r' z' n v hx h1 hc
    rw [Zh] at hx
    by_cases e1 : b' = b
    · rw [if_pos e1] at hx
      obtain rfl := Option.some.inj hx
      subst e1
      rw [hf]; exact hI.fz _ _ _ _ _ _ hb h1 hc
    · rw [if_neg e1] at hx; exact hI.fz _ _ _ _ _ _ hx h1 hc
  · intro b' x r' z' hx h1
    rw [Zh] at hx
    by_cases e1 : b' = b
    · subst e1; exact hI.fm _ _ _ _ hb h1
    · rw [if_neg e1] at hx; exact hI.fm _ _ _ _ hx h1
theorem Yz {α:Type} (cs ss:List α) (off:Nat) (hle:off+ss.length<=cs.length) (j:Nat):(cs.take off++ss++cs.drop (off+ss.length))[j]? =if j<off then cs[j]? else if j<off+ss.length then ss[j-off]? else cs[j]? :=by
 by_cases h1:j<off
 · rw [if_pos h1,List.append_assoc,List.getElem?_append_left (by simp;omega),List.getElem?_take,if_pos h1]
 · rw [if_neg h1,List.append_assoc,List.getElem?_append_right (by simp;omega)]
   have hlt:(List.take off cs).length=off:=by simp;omega
   rw [hlt]
   by_cases h2:j<off+ss.length
   · rw [if_pos h2,List.getElem?_append_left (by omega)]
   · rw [if_neg h2,List.getElem?_append_right (by omega),List.getElem?_drop]
     congr 1;omega
theorem Vu (hE:EngOk E) {t:TypeId} {ti:TyI} (ht:E.ty t=some ti) {x v:Operand} (ho:o.op= .store t x v) (w:World) (ρ:Operand->Value) (r off:Nat) (arr:Array Value) (e:TypeId) (hx:ρ x= .pointer (some ⟨r,off,none⟩)) (ha:w.heap[r]? =some (.cells arr e (0,0)))
 (hs:(ρ v).cells.size=ti.size) (hf:off+(ρ v).cells.size<=arr.size) (h1:∀u∈(ρ v).cells.toList,u.oneCell'=true):
 (execOp ρ o).run E.P w= .ok .skip (w.setRow r (arr.toList.take off++(ρ v).cells.toList++arr.toList.drop (off+(ρ v).cells.toList.length)).toArray):=by
 have:=run_storeCells_at (P:=E.P) r off e (ρ v).cells.toList 0 arr w ha (by simpa using hf) h1
 unfold execOp
 simp only [ho,Instr.storeAt,hx,Sem.run_bind,Instr.sureAddr,Sem.run_pure,Result.andThen_ok,storeVar,Zy hE ht,hs]
 simp only [ne_eq,not_true_eq_false,if_false]
 simp only [Sem.run_bind,Sem.run_pure,Result.andThen_ok,this,Nat.add_zero]
theorem Zie (hE:EngOk E) {t:TypeId} {x v:Operand} (ho:o.op= .store t x v) (hk:Zni E t (ev T x) (ev T v) h k):∃r,k r/\Z0 E o T h i r:=by
 have mx:x∈o.op.operands.toList:=by simp [ho,Op.operands]
 have mv:v∈o.op.operands.toList:=by simp [ho,Op.operands]
 unfold Zni at hk
 split at hk
 · exact hk.elim
 · rename_i ti ht
   split at hk
   · exact hk.elim
   · rename_i hlv
     simp only [Bool.and_eq_true,decide_eq_true_eq] at hlv
     obtain ⟨hlen,hlv⟩:=hlv
     split at hk
     · rename_i b off hX
       split at hk
       · rename_i cs fz tg hb
         split at hk
         · rename_i hle
           simp only [Bool.and_eq_true,Nat.ble_eq] at hle
           refine ⟨_,hk,fun b' hb'=>by (simp [change] at hb';subst hb';rw [hb];simp),?_⟩
           intro B σ g w ρ hh hrd hI hB hfree hx
           have hb':hh b=some (.raw cs fz tg):=(hrd b (by simp [Rd,change])).trans hb
           have h1:=hx x mx
           rw [hX] at h1
           generalize hv1:ρ x=v1 at h1
           cases h1
           rename_i r z hσ
           obtain ⟨r',z',hσ',hbo⟩:=hI.blk b _ hb'
           rw [hσ] at hσ';cases hσ'
           obtain ⟨arr,e,ha,hz,hcl,hcd,hel⟩:=(BlkOk.cells_iff (by intro es e;cases e)).1 hbo
           obtain ⟨hc1,hc2⟩:=W4 (hx v mv) hlv
           have hcl':cs.length<=arr.size:=by rw [hz];exact hcl
           have hone:∀u∈(ρ v).cells.toList,u.oneCell'=true:=by
            intro u hu
            obtain ⟨j,hj,rfl⟩:=List.getElem_of_mem hu
            have hj':j<(ev T v).cells.length:=by rw [hc1];simpa using hj
            obtain ⟨u',hu',hd'⟩:=hc2 j _ (gB9 hj')
            have:(ρ v).cells.toList[j]=u':=by
             have hj2:j<(ρ v).cells.size:=by simpa using hj
             rw [Array.getElem?_eq_getElem hj2] at hu'
             simpa using Option.some.inj hu'
            rw [this]
            exact Vf (W5 hlv (gB9 hj')) hd'
           have hrun:=Vu hE ht ho w ρ r off arr e hv1 ha (by rw [<-hc1,hlen]) (by rw [<-hc1];omega) hone
           have hsp:=Yz cs (ev T v).cells off (by omega)
           have hsz:(ρ v).cells.toList.length=(ev T v).cells.length:=by rw [hc1];simp
           have hspa:=Yz arr.toList (ρ v).cells.toList off (by rw [hsz];simp;omega)
           obtain ⟨hI',hS⟩:=Zbr (i:=i) hI (blk':= .raw (Xq cs off (ev T v).cells) fz tg) hb' hσ (arr':=(arr.toList.take off++(ρ v).cells.toList++arr.toList.drop (off+(ρ v).cells.toList.length)).toArray) ha (by simp;omega) hz (by first|exact hel|(cases tg<;>exact hel)) (by intro es e;cases e) rfl
            (fun n hn=>by rw [List.getElem?_toArray,hspa,if_pos (by simp only [Blk.fzc] at hn;omega)];simp) (by simp only [Blk.cells,Xq,List.length_append,List.length_take,List.length_drop];omega)
            (fun j sv hj=>by
             simp only [Blk.cells,Xq] at hj
             rw [hsp] at hj
             rw [List.getElem?_toArray,hspa,hsz]
             by_cases q1:j<off
             · rw [if_pos q1] at hj⊢
               obtain ⟨u,hu,hd⟩:=hcd j sv hj
               exact ⟨u,by simpa using hu,hd⟩
             · rw [if_neg q1] at hj⊢
               by_cases q2:j<off+(ev T v).cells.length
               · rw [if_pos q2] at hj⊢
                 obtain ⟨u,hu,hd⟩:=hc2 _ _ hj
                 exact ⟨u,by simpa using hu,hd⟩
               · rw [if_neg q2] at hj⊢
                 obtain ⟨u,hu,hd⟩:=hcd j sv hj
                 exact ⟨u,by simpa using hu,hd⟩)
           refine Ud hrun ⟨σ,g,hS,?_,.unk _⟩
           rw [Y9];exact hI'
         · exact hk.elim
       · exact hk.elim
     · rename_i b j w' off hX
       split at hk
       · rename_i th l fz hb
         obtain ⟨hww,hk2⟩:=Xs hk
         clear hk
         subst hww
         obtain ⟨hfz,hk2⟩:=Zw hk2
         obtain ⟨hj,y,hy,hk⟩:=Zu3 hk2
         split at hk
         · rename_i y' hle hdec
           rw [Nat.ble_eq,hE.enc] at hle
           refine ⟨_,Znh hk,fun b' hb'=>by (simp [change] at hb';subst hb';rw [hb];simp),?_⟩
           intro B σ g w ρ hh hrd hI hB hfree hx
           have hb':hh b=some (.rows th l fz):=(hrd b (by simp [Rd,change])).trans hb
           have h1:=hx x mx
           rw [hX] at h1
           generalize hv1:ρ x=v1 at h1
           cases h1
           rename_i r z hσ
           obtain ⟨r',z',hσ',hbo⟩:=hI.blk b _ hb'
           rw [hσ] at hσ';cases hσ'
           obtain ⟨arr,e,ha,hz,hcl,hcd,hel⟩:=(BlkOk.cells_iff (by intro es e;cases e)).1 hbo
           simp only [Blk.cells] at hcl hcd
           rw [Zz hE] at hcl
           obtain ⟨hc1,hc2⟩:=W4 (hx v mv) hlv
           obtain ⟨hdl,hdd⟩:=hE.dec _ _ _ hdec
           have hjw:j*E.w th+E.w th<=l.length*E.w th:=by
            have:=Nat.mul_le_mul_right (E.w th) (show j+1<=l.length from hj)
            rwa [Nat.add_mul,Nat.one_mul] at this
           have hone:∀u∈(ρ v).cells.toList,u.oneCell'=true:=by
            intro u hu
            obtain ⟨j,hj,rfl⟩:=List.getElem_of_mem hu
            have hj':j<(ev T v).cells.length:=by rw [hc1];simpa using hj
            obtain ⟨u',hu',hd'⟩:=hc2 j _ (gB9 hj')
            have:(ρ v).cells.toList[j]=u':=by
             have hj2:j<(ρ v).cells.size:=by simpa using hj
             rw [Array.getElem?_eq_getElem hj2] at hu'
             simpa using Option.some.inj hu'
            rw [this]
            exact Vf (W5 hlv (gB9 hj')) hd'
           have hsz:(ρ v).cells.toList.length=(ev T v).cells.length:=by rw [hc1];simp
           have hrun:=Vu hE ht ho w ρ r (j*E.w th+off) arr e hv1 ha (by rw [<-hc1,hlen]) (by rw [<-hc1];omega) hone
           have hsp:=Yz (E.enc th y) (ev T v).cells off (by rw [hE.enc];omega)
           have hspa:=Yz arr.toList (ρ v).cells.toList (j*E.w th+off) (by rw [hsz];simp;omega)
           obtain ⟨hI',hS⟩:=Zbr (i:=i) hI (blk':= .rows th (l.set j y') fz) hb' hσ (arr':=(arr.toList.take (j*E.w th+off)++(ρ v).cells.toList++arr.toList.drop (j*E.w th+off+(ρ v).cells.toList.length)).toArray) ha (by simp;omega) hz (by first|exact hel|(cases tg<;>exact hel)) (by intro es e;cases e) rfl
            (fun n hn=>by
             simp only [Blk.fzc] at hn
             have:=Nat.mul_le_mul_right (E.w th) hfz
             rw [List.getElem?_toArray,hspa,if_pos (by omega)];simp) (by simp only [Blk.cells];rw [Zz hE,List.length_set];exact hcl)
            (fun m sv hm=>by
             simp only [Blk.cells] at hm
             obtain ⟨q,p,x,rfl,hp,hq,hs⟩:=Xk hE th _ hm
             rw [List.getElem?_toArray,hspa,hsz]
             by_cases e1:q=j
             · subst e1
               rw [List.getElem?_set_self (by omega)] at hq
               obtain rfl:=Option.some.inj hq
               have hin:(Xq (E.enc th y) off (ev T v).cells)[p]? =some (Xq (E.enc th y) off (ev T v).cells)[p]:=gB9 (by omega)
               generalize (Xq (E.enc th y) off (ev T v).cells)[p]=s0 at hin
               have hkey:∀u,Den E σ g s0 u->Den E σ g sv u:=fun u hu=>hdd σ g p s0 sv u hin hs hu
               simp only [Xq] at hin
               rw [hsp] at hin
               have hold:∀s,(E.enc th y)[p]? =some s->∃u,arr.toList[q*E.w th+p]? =some u/\Den E σ g s u:=by
                intro s hs
                obtain ⟨u,hu,hd⟩:=hcd (q*E.w th+p) s (by rw [Yu hE th l q y hy p hp];exact hs)
                exact ⟨u,by simpa using hu,hd⟩
               by_cases q1:p<off
               · rw [if_pos q1] at hin;rw [if_pos (by omega)]
                 obtain ⟨u,hu,hd⟩:=hold _ hin
                 exact ⟨u,hu,hkey u hd⟩
               · rw [if_neg q1] at hin;rw [if_neg (by omega)]
                 by_cases q2:p<off+(ev T v).cells.length
                 · rw [if_pos q2] at hin;rw [if_pos (by omega)]
                   obtain ⟨u,hu,hd⟩:=hc2 _ _ hin
                   refine ⟨u,?_,hkey u hd⟩
                   rw [show q*E.w th+p-(q*E.w th+off)=p-off by omega]
                   simpa using hu
                 · rw [if_neg q2] at hin;rw [if_neg (by omega)]
                   obtain ⟨u,hu,hd⟩:=hold _ hin
                   exact ⟨u,hu,hkey u hd⟩
             · rw [List.getElem?_set_ne (fun e=>e1 e.symm)] at hq
               obtain ⟨u,hu,hd⟩:=hcd (q*E.w th+p) sv (by rw [Yu hE th l q x hq p hp];exact hs)
               refine ⟨u,?_,hd⟩
               have hu':arr.toList[q*E.w th+p]? =some u:=by simpa using hu
               rcases Nat.lt_or_gt_of_ne e1 with hlt|hgt
               · have:=Nat.mul_le_mul_right (E.w th) (show q+1<=j from hlt)
                 rw [Nat.add_mul,Nat.one_mul] at this
                 rw [if_pos (by omega)];exact hu'
               · have:=Nat.mul_le_mul_right (E.w th) (show j+1<=q from hgt)
                 rw [Nat.add_mul,Nat.one_mul] at this
                 rw [if_neg (by omega),if_neg (by omega)];exact hu')
           refine Ud hrun ⟨σ,g,hS,?_,.unk _⟩
           rw [Y9];exact hI'
         · exact hk.elim
       · exact hk.elim
     · exact hk.elim
end
end
section
open Go.RowKit
section
variable {Y:Thy} {E:Eng Y} {o:Oper} {T:Fr Y} {h:Hp Y} {i:Nat} {k:Res Y->Prop} {call:Nat->List (SV Y)->Hp Y->Nat->(Res Y->Prop)->Prop}
def DenA (E:Eng Y) (σ:Pl) (g:GH) (cs:List (SV Y)) (arr:Array Value):Prop:=cs.length=arr.size/\∀(j:Nat) s,cs[j]? =some s->∃u,arr[j]? =some u/\Den E σ g s u
theorem Zt5 (off:Nat):∀(l:List Value) (n:Nat) (cells:Array Value),off+n+l.length<=cells.size->
 ((l.zipIdx n).foldl (fun cs p=>cs.setIfInBounds (off+p.2) p.1) cells).size=cells.size/\
 ∀j,((l.zipIdx n).foldl (fun cs p=>cs.setIfInBounds (off+p.2) p.1) cells)[j]? =if off+n<=j/\j<off+n+l.length then l[j-(off+n)]? else cells[j]? :=by
 intro l
 induction l with
 |nil=>intro n cells _;refine ⟨rfl,fun j=> ?_⟩;rw [if_neg (by rintro ⟨h1,h2⟩;simp at h2;omega)];rfl
 |cons x l ih=>
  intro n cells hle
  simp only [List.length_cons] at hle
  obtain ⟨h1,h2⟩:=ih (n+1) (cells.setIfInBounds (off+n) x) (by simp;omega)
  simp only [List.zipIdx_cons,List.foldl_cons]
  refine ⟨by rw [h1];simp,fun j=> ?_⟩
  rw [h2 j]
  simp only [List.length_cons]
  by_cases e:j=off+n
  · subst e
    rw [if_neg (by omega),if_pos (by omega),Array.getElem?_setIfInBounds,if_pos rfl,if_pos (by omega)]
    simp
  · by_cases c:off+(n+1)<=j/\j<off+(n+1)+l.length
    · rw [if_pos c,if_pos (by omega),show j-(off+n)=(j-(off+(n+1)))+1 by omega,List.getElem?_cons_succ]
    · rw [if_neg c,if_neg (by omega),Array.getElem?_setIfInBounds,if_neg (fun h=>e h.symm)]
theorem Zbi {σ:Pl} {g:GH} {place:Nat->Option (Nat×Nat)}:∀(parts:List (Nat×SV Y)) (vparts:List (Nat×Value)) (cells cs:List (SV Y)) (arr:Array Value),DenA E σ g cells arr->
 parts.length=vparts.length->(∀(j:Nat) p q,parts[j]? =some p->vparts[j]? =some q->p.1=q.1/\Den E σ g p.2 q.2)->Za6 place cells parts=some cs->
 ∃arr',Instr.fill place arr vparts=some arr'/\DenA E σ g cs arr':=by
 intro parts
 induction parts with
 |nil=>
  intro vparts cells cs arr hA hl _ hf
  have:vparts= []:=by cases vparts<;>first|rfl|simp at hl
  subst this
  obtain rfl:cells=cs:=by simpa [Za6] using hf
  exact ⟨arr,rfl,hA⟩
 |cons p parts ih=>
  intro vparts cells cs arr hA hl hP hf
  cases vparts with
  |nil=>simp at hl
  |cons q vparts=>
   obtain ⟨n,sv⟩:=p
   obtain ⟨n',v⟩:=q
   obtain ⟨rfl,hd⟩:=hP 0 _ _ rfl rfl
   simp only [Za6] at hf
   split at hf
   · cases hf
   · rename_i off size hpl
     split at hf
     · rename_i hc
       simp only [Bool.and_eq_true,decide_eq_true_eq,Nat.ble_eq] at hc
       obtain ⟨⟨hs,hlv⟩,hle⟩:=hc
       obtain ⟨hc1,hc2⟩:=W4 hd hlv
       have hc1:sv.cells.length=v.cells.size:=hc1
       have hA1:=hA.1
       have hb:off+0+v.cells.toList.length<=arr.size:=by simp;omega
       obtain ⟨f1,f2⟩:=Zt5 off v.cells.toList 0 arr hb
       have hfe:(v.cells.zipIdx.foldl (fun cs (x:Value×Nat)=>cs.setIfInBounds (off+x.2) x.1) arr)=((v.cells.toList.zipIdx 0).foldl (fun cs p=>cs.setIfInBounds (off+p.2) p.1) arr):=by
        rw [<-Array.foldl_toList];simp
       have hsp:=Yz cells sv.cells off (by omega)
       have hA':DenA E σ g (Xq cells off sv.cells) ((v.cells.toList.zipIdx 0).foldl (fun cs p=>cs.setIfInBounds (off+p.2) p.1) arr):=by
        refine ⟨by rw [f1];simp [Xq];omega,fun j s hj=> ?_⟩
        simp only [Xq] at hj
        rw [hsp] at hj
        rw [f2]
        by_cases q1:j<off
        · rw [if_pos q1] at hj;rw [if_neg (by omega)];exact hA.2 j s hj
        · rw [if_neg q1] at hj
          by_cases q2:j<off+sv.cells.length
          · rw [if_pos q2] at hj
            obtain ⟨u,hu,hd⟩:=hc2 _ _ hj
            rw [if_pos (by simp;omega)]
            exact ⟨u,by simpa using hu,hd⟩
          · rw [if_neg q2] at hj
            rw [if_neg (by simp;omega)]
            exact hA.2 j s hj
       obtain ⟨arr',h1,h2⟩:=ih vparts _ cs _ hA' (by simpa using hl) (fun j p q h1 h2=>hP (j+1) p q (by simpa using h1) (by simpa using h2)) hf
       refine ⟨arr',?_,h2⟩
       simp only [Instr.fill,hpl]
       rw [if_neg (by simp;omega),hfe]
       exact h1
     · cases hf
theorem Zp1 (hE:EngOk E):∀(fs:List Field) (pl:List (Nat×Nat)),Zd1 E fs=some pl->fs.mapM (fun f=>(E.P.info? f.type).map fun i=>(f.offset,i.size))=some pl:=by
 intro fs
 induction fs with
 |nil=>intro pl h;simp [Zd1] at h;subst h;rfl
 |cons f r ih=>
  intro pl h
  simp only [Zd1] at h
  split at h
  · rename_i ti l ht hl
    obtain rfl:=Option.some.inj h
    have:=Zsx hE ht
    obtain ⟨info,hi,hsz⟩:=Option.map_eq_some_iff.1 this
    simp only [List.mapM_cons,hi,ih _ hl,Option.map_some,hsz]
    rfl
  · cases h
theorem Zbj {σ:Pl} {g:GH} {ρ:Operand->Value} {parts:Array (Nat×Operand)} (hx:∀x∈(parts.toList.map (·.2)),Den E σ g (ev T x) (ρ x)):
 (parts.toList.map fun p=>(p.1,ev T p.2)).length=(parts.map fun (n,x)=>(n,ρ x)).toList.length/\∀(j:Nat) p q,(parts.toList.map fun p=>(p.1,ev T p.2))[j]? =some p->(parts.map fun (n,x)=>(n,ρ x)).toList[j]? =some q->p.1=q.1/\Den E σ g p.2 q.2:=by
 refine ⟨by simp,fun j p q h1 h2=> ?_⟩
 rw [List.getElem?_map] at h1
 obtain ⟨y,hy,rfl⟩:=Option.map_eq_some_iff.1 h1
 simp only [Array.toList_map,List.getElem?_map,hy,Option.map_some,Option.some.injEq] at h2
 subst h2
 exact ⟨rfl,hx _ (List.mem_map_of_mem (List.mem_of_getElem? hy))⟩
theorem Zfp {σ:Pl} {g:GH} (v:Value):DenA E σ g (Yo v).cells v.cells:=by
 obtain ⟨h1,h2⟩:=Yt (E:=E) v
 exact ⟨h1,fun j s hj=>h2 σ g j s hj⟩
theorem Znr {σ:Pl} {g:GH} {cs:List (SV Y)} {arr:Array Value} (h:DenA E σ g cs arr):Den E σ g (.agg cs) (.agg arr):=by
 refine .agg (fun j=>arr.getD j undef) h.1.symm (fun j hj=> ?_) (fun j s hj=> ?_)
 · have:j<arr.size:=by rw [<-h.1];exact hj
   simp [Array.getD,this]
 · obtain ⟨u,hu,hd⟩:=h.2 j s hj
   rw [Array.getD_eq_getD_getElem?,hu];exact hd
theorem Zt6 (hE:EngOk E) {t:TypeId} {parts:Array (Nat×Operand)} (ho:o.op= .build t parts) (hk:Ztd E t (parts.toList.map fun p=>(p.1,ev T p.2)) k):∃r,k r/\Z0 E o T h i r:=by
 have mx:∀x,x∈parts.toList.map (·.2)->x∈o.op.operands.toList:=by intro x hx;simpa [ho,Op.operands] using hx
 unfold Ztd at hk
 split at hk
 · rename_i fs sz by_ z ht
   split at hk
   · rename_i pl hpl
     split at hk
     · rename_i cs hf
       refine ⟨_,hk,Zq fun B σ g w ρ hh _ hI hx=> ?_⟩
       obtain ⟨p1,p2⟩:=Zbj (E:=E) (σ:=σ) (g:=g) (T:=T) (ρ:=ρ) (parts:=parts) (fun x hm=>hx x (mx x hm))
       obtain ⟨arr',h1,h2⟩:=Zbi _ _ _ _ _ (Zfp z) p1 p2 hf
       refine ⟨.agg arr',?_,Znr h2⟩
       obtain ⟨hu,info,hi,_,_,hz⟩:=hE.ty _ _ ht
       have hb:E.P.built t (parts.map fun (n,x)=>(n,ρ x)).toList=some arr':=by
        unfold Program.built
        rw [hi,hu]
        simp only [hz,Zp1 hE _ _ hpl,List.getElem?_toArray]
        exact h1
       unfold execOp
       simp only [ho,Sem.run_bind,run_build w t _ arr' hb,Result.andThen_ok,Sem.run_pure]
     · exact hk.elim
   · exact hk.elim
 · rename_i n el sz by_ z ht
   split at hk
   · rename_i ti hel
     split at hk
     · rename_i cs hf
       refine ⟨_,hk,Zq fun B σ g w ρ hh _ hI hx=> ?_⟩
       obtain ⟨p1,p2⟩:=Zbj (E:=E) (σ:=σ) (g:=g) (T:=T) (ρ:=ρ) (parts:=parts) (fun x hm=>hx x (mx x hm))
       obtain ⟨arr',h1,h2⟩:=Zbi _ _ _ _ _ (Zfp z) p1 p2 hf
       refine ⟨.agg arr',?_,Znr h2⟩
       obtain ⟨hu,info,hi,_,_,hz⟩:=hE.ty _ _ ht
       obtain ⟨_,info',hi',hs',_⟩:=hE.ty _ _ hel
       have hb:E.P.built t (parts.map fun (n,x)=>(n,ρ x)).toList=some arr':=by
        unfold Program.built
        rw [hi,hu]
        simp only [hz,hi',hs']
        exact h1
       unfold execOp
       simp only [ho,Sem.run_bind,run_build w t _ arr' hb,Result.andThen_ok,Sem.run_pure]
     · exact hk.elim
   · exact hk.elim
 · exact hk.elim
theorem Zt7 {α:Type} {z:List α} {s:Nat} (hs:z.length=s) (h0:0<s):∀(n j:Nat),((List.replicate n z).flatten)[j]? =if j<n*s then z[j%s]? else none:=by
 intro n
 induction n with
 |zero=>intro j;simp
 |succ n ih=>
  intro j
  rw [List.replicate_succ,List.flatten_cons]
  by_cases hj:j<s
  · rw [List.getElem?_append_left (by omega),Nat.mod_eq_of_lt hj,if_pos (by rw [Nat.add_mul];omega)]
  · rw [List.getElem?_append_right (by omega),ih,hs,show j%s=(j-s)%s by rw [Nat.mod_eq_sub_mod (by omega)]]
    by_cases c:j-s<n*s
    · rw [if_pos c,if_pos (by rw [Nat.add_mul];omega)]
    · rw [if_neg c,if_neg (by rw [Nat.add_mul];omega)]
theorem Zns {el:TypeId} {cs:List (SV Y)} {fz:Nat}:ElOk E el (.raw cs fz (U0 E el)):=by
 unfold U0
 split
 · split
   · rename_i h;exact (gC9 h).symm
   · trivial
 · trivial
theorem Ze3 (hE:EngOk E) {t:TypeId} {len:Nat} {parts:Array (Nat×Operand)} (ho:o.op= .buildSlice t len parts) (hk:Zah E t len (parts.toList.map fun p=>(p.1,ev T p.2)) i k):∃r,k r/\Z0 E o T h i r:=by
 have mx:∀x,x∈parts.toList.map (·.2)->x∈o.op.operands.toList:=by intro x hx;simpa [ho,Op.operands] using hx
 unfold Zah at hk
 split at hk
 · rename_i el sz by_ z ht
   split at hk
   · rename_i ti hel
     split at hk
     · rename_i cs hc hf
       simp only [Bool.and_eq_true,Nat.ble_eq] at hc
       obtain ⟨⟨hsm,hlm⟩,h0,hzl⟩:=hc
       have h0:0<ti.size:=Yn h0
       have hzl:(Yo ti.zero:SV Y).cells.length=ti.size:=gC9 hzl
       have hzs:ti.zero.cells.size=ti.size:=by rw [<-(Yt (E:=E) ti.zero).1];exact hzl
       refine Vr (by intro es e;cases e) (fun σ g w ρ hx=> ?_) hk
       obtain ⟨p1,p2⟩:=Zbj (E:=E) (σ:=σ) (g:=g) (T:=T) (ρ:=ρ) (parts:=parts) (fun x hm=>hx x (mx x hm))
       have hA:DenA E σ g ((List.replicate len (Yo ti.zero:SV Y).cells).flatten) ((Array.range (len*ti.size)).map (ti.zero.cells[· %ti.zero.cells.size]!)):=by
        have hr:=Zt7 hzl h0 len
        refine ⟨?_,fun j s hj=> ?_⟩
        · rw [Array.size_map,Array.size_range]
          simp [hzl]
        · rw [hr] at hj
          by_cases c:j<len*ti.size
          · rw [if_pos c] at hj
            obtain ⟨u,hu,hd⟩:=(Yt (E:=E) ti.zero).2 σ g _ s hj
            refine ⟨u,?_,hd⟩
            have hlt:j%ti.size<ti.zero.cells.size:=by rw [hzs];exact Nat.mod_lt _ h0
            rw [Array.getElem?_map,Array.getElem?_range,if_pos c,Option.map_some,hzs]
            have he:ti.zero.cells[j%ti.size]! =u:=by simp [getElem!_def,hu]
            rw [he]
          · rw [if_neg c] at hj;cases hj
       obtain ⟨arr',h1,h2⟩:=Zbi _ _ _ _ _ hA p1 p2 hf
       obtain ⟨hu,_⟩:=hE.ty _ _ ht
       obtain ⟨_,info',hi',hs',_,hz'⟩:=hE.ty _ _ hel
       have hA2:=h2.1
       have hlen:arr'.size=len*ti.size:=by
        have:∀(ps:List (Nat×SV Y)) (cells cs:List (SV Y)) (pl:Nat->Option (Nat×Nat)),Za6 pl cells ps=some cs->cs.length=cells.length:=by
         intro ps
         induction ps with
         |nil=>intro cells cs pl h;simp [Za6] at h;rw [h]
         |cons p ps ih=>
          intro cells cs pl h
          simp only [Za6] at h
          split at h
          · cases h
          · split at h
            · rename_i hcc
              simp only [Bool.and_eq_true,Nat.ble_eq,decide_eq_true_eq] at hcc
              rw [ih _ _ _ h];simp [Xq];omega
            · cases h
        rw [<-hA2,this _ _ _ _ hf,hA.1];simp
       refine ⟨arr',el,.slice (some ⟨w.heap.size,0,none⟩) len len,?_,Zns,Nat.le_of_eq hA2,fun j s hj=>h2.2 j s hj,fun σ' hσ=> ?_⟩
       · unfold execOp
         simp only [ho,Sem.run_bind]
         by_cases hpos:len*info'.size=0
         · have hl0:len=0:=by
            rw [hs'] at hpos
            rcases Nat.mul_eq_zero.1 hpos with h|h<;>omega
           have hrun:(Instr.buildSlice t len (parts.map fun (n,x)=>(n,ρ x))).run E.P w= .ok (.slice (some ⟨w.heap.size,0,none⟩) len len) (w.alloc (.cells arr' el)):=by
            subst hl0
            have e0:∀f:Nat->Value,Array.map f (Array.range 0)= #[]:=fun f=>by apply Array.ext';simp
            simp [e0] at h1
            simp [e0,Instr.buildSlice,run_underlying hu,sizeOf,typeInfo,hi',h1,hs',newRow]
           rw [hrun];rfl
         · rw [run_buildSlice w t el len _ arr' info' ti.zero hu hi' hz' (by rw [hs'];omega) hpos (by rw [hs'];exact h1)];rfl
       · have:=Den.sl (E:=E) (g:=g) (b:=i) (off:=0) (len:=len) (w:=ti.size) (c:=len) (cap:=some len) hσ (by rw [hlen];simp) (Nat.le_refl _) (by unfold maxLen;omega) (by intro m e;cases e;rfl)
         simpa using this
     · exact hk.elim
   · exact hk.elim
 · exact hk.elim
end
end
section
open Go.RowKit
section
variable {Y:Thy} {E:Eng Y} {F:Fns Y}
def DomLt (h:Hp Y) (i:Nat):Prop:=∀b,h b≠none->b<i
def Dom (h:Hp Y) (i:Nat) (h':Hp Y) (i':Nat):Prop:=DomLt h' i'/\∀b,h' b≠none->h b≠none\/i<=b
def Y4 (h:Hp Y) (i i':Nat) (m:List Nat):Prop:=∀b∈m,h b≠none\/(i<=b/\b<i')
theorem memB_iff {b:Nat}:∀{l:List Nat},memB b l=true↔b∈l
 | []=>by simp [memB]
 |x::l=>by
  simp only [memB]
  by_cases e:b=x
  · subst e;simp
  · have:Nat.beq b x=false:=by rw [<-Bool.not_eq_true,Nat.beq_eq];exact e
    rw [this];simp only [memB_iff (l:=l)];simp [e]
theorem inNew_iff {b i n:Nat}:(Nat.ble i b&&Nat.blt b (i+n))=true↔i<=b/\b<i+n:=by
 rw [Bool.and_eq_true,Nat.ble_eq,Nat.blt,Nat.ble_eq];omega
theorem Z6 (h:Hp Y) (i:Nat) (r:Res Y) (b:Nat):patch h i r b=if b∈r.mods\/(i<=b/\b<i+r.n) then r.h b else h b:=by
 unfold patch
 by_cases c:b∈r.mods\/(i<=b/\b<i+r.n)
 · rw [if_pos c]
   have:(memB b r.mods||(Nat.ble i b&&Nat.blt b (i+r.n)))=true:=by
    rw [Bool.or_eq_true,memB_iff,inNew_iff];exact c
   rw [this]
 · rw [if_neg c]
   have:(memB b r.mods||(Nat.ble i b&&Nat.blt b (i+r.n)))=false:=by
    rw [<-Bool.not_eq_true,Bool.or_eq_true,memB_iff,inNew_iff];exact c
   rw [this]
theorem DomLt.patch {h:Hp Y} {i:Nat} {r:Res Y} (hd:DomLt h i) (hr:ROk h r):DomLt (patch h i r) (i+r.n):=by
 intro b hb
 rw [Z6] at hb
 split at hb
 · rename_i c
   rcases c with c|c
   · have:=hd b (hr b c);omega
   · exact c.2
 · have:=hd b hb;omega
def Zgd (E:Eng Y) (f:FuncId) (args:List (SV Y)) (h:Hp Y) (i:Nat) (r:Res Y):Prop:=
 ∀(B:Nat) (σ:Pl) (g:GH) (w:World) (vals:Array Value) (hh:Hp Y),(∀b,Rd r b->hh b=h b)->Inv E B σ hh g w->B<=w.heap.size->(∀b,i<=b->b<i+r.n->σ b=none)->DenL E σ g args vals.toList->
  Calls E.P f vals w fun en w'=>∃u,en= .returned u/\∃σ' g',Stp i r.n r.mods σ g w σ' g' w'/\Inv E B σ' (patch hh i r) g' w'/\Den E σ' g' r.v u
def Zzi (E:Eng Y) (f:FuncId) (args:List (SV Y)) (h:Hp Y) (i:Nat) (r:Res Y):Prop:=
 ∃p,r.v= .pan p/\∀(B:Nat) (σ:Pl) (g:GH) (w:World) (vals:Array Value),Inv E B σ h g w->B<=w.heap.size->(∀b,i<=b->b<i+r.n->σ b=none)->DenL E σ g args vals.toList->
  Calls E.P f vals w fun en w'=>en= .panicked [{v:=p,recovered:=false}]/\∃σ' g',Stp i r.n r.mods σ g w σ' g' w'/\Inv E B σ' (patch h i r) g' w'
def CallTri2 (E:Eng Y) (f:FuncId) (args:List (SV Y)) (h:Hp Y) (i:Nat) (r:Res Y):Prop:=Zgd E f args h i r\/Zzi E f args h i r
def Za1 (E:Eng Y) (call:Nat->List (SV Y)->Hp Y->Nat->(Res Y->Prop)->Prop):Prop:=∀f args h i k,DomLt h i->call f args h i k->∃r,k r/\ROk h r/\CallTri2 E f args h i r
def FrOk (E:Eng Y) (σ:Pl) (g:GH) (T:Fr Y) (a:Act):Prop:=∀t,Den E σ g (T t) (a.eval (.tmp t))
theorem Stp.trans {i n1 n2:Nat} {m1 m2:List Nat} {σ σ1 σ2:Pl} {g g1 g2:GH} {w w1 w2:World} (h:Stp i n1 m1 σ g w σ1 g1 w1) (k:Stp (i+n1) n2 m2 σ1 g1 w1 σ2 g2 w2):Stp i (n1+n2) (m2++m1) σ g w σ2 g2 w2:=by
 have back:∀b∈m2,∀r z,σ1 b=some (r,z)->w.heap.size<=r\/∃b'∈m2++m1,∃z',σ b'=some (r,z'):=by
  intro b hb r z hσ
  cases hs:σ b with
  |none=>
   rcases h.blk b r z hs hσ with h1|⟨b',h1,z',h2⟩
   · exact .inl h1
   · exact .inr ⟨b',by simp [h1],z',h2⟩
  |some p=>
   have:=h.sig _ _ hs
   rw [hσ] at this
   obtain rfl:=Option.some.inj this
   exact .inr ⟨b,by simp [hb],z,hs⟩
 refine ⟨h.sig.trans k.sig,?_,h.gle.trans k.gle,?_,?_,?_,Nat.le_trans h.size k.size,k.os.trans h.os,k.tape.trans h.tape,k.output.trans h.output,?_⟩
 · intro b p hb
   rcases k.snew b p hb with h1|h1
   · rcases h.snew b p h1 with h2|h2
     · exact .inl h2
     · right;omega
   · right;omega
 · intro r o v hv
   rcases k.gcnew r o v hv with h1|h1|⟨b,h1,z,h2⟩
   · rcases h.gcnew r o v h1 with h2|h2|⟨b,h2,z,h3⟩
     · exact .inl h2
     · exact .inr (.inl h2)
     · exact .inr (.inr ⟨b,by simp [h2],z,h3⟩)
   · exact .inr (.inl (Nat.le_trans h.size h1))
   · exact .inr (back b h1 r z h2)
 · intro r es hv
   rcases k.gmnew r es hv with h1|h1
   · exact h.gmnew r es h1
   · exact .inr (Nat.le_trans h.size h1)
 · intro r hr hm
   rw [k.heap r (Nat.lt_of_lt_of_le hr h.size) (fun b hb z hσ=> ?_),h.heap r hr fun b hb z=>hm b (by simp [hb]) z]
   rcases back b hb r z hσ with h1|⟨b',h1,z',h2⟩
   · omega
   · exact hm b' h1 z' h2
 · intro b r z h1 h2
   cases hs:σ1 b with
   |none=>
    rcases k.blk b r z hs h2 with h3|⟨b',h3,z',h4⟩
    · exact .inl (Nat.le_trans h.size h3)
    · exact back b' h3 r z' h4
   |some p=>
    have:=k.sig _ _ hs
    rw [h2] at this
    obtain rfl:=Option.some.inj this
    rcases h.blk b r z h1 hs with h3|⟨b',h3,z',h4⟩
    · exact .inl h3
    · exact .inr ⟨b',by simp [h3],z',h4⟩
theorem Stp.weaken {i n:Nat} {m m':List Nat} {σ σ1:Pl} {g g1:GH} {w w1:World} (h:Stp i n m σ g w σ1 g1 w1) (hm:∀b∈m,b∈m'):Stp i n m' σ g w σ1 g1 w1:=
 ⟨h.sig,h.snew,h.gle,fun r o v hv=>(h.gcnew r o v hv).imp id (Or.imp id fun ⟨b,h1,z,h2⟩=>⟨b,hm b h1,z,h2⟩),h.gmnew,fun r hr hx=>h.heap r hr fun b hb=>hx b (hm b hb),h.size,h.os,h.tape,h.output,fun b r z h1 h2=>(h.blk b r z h1 h2).imp id fun ⟨b',h1,z',h2⟩=>⟨b',hm b' h1,z',h2⟩⟩
theorem FrOk.mono {σ σ':Pl} {g g':GH} {T:Fr Y} {a:Act} (h:FrOk E σ g T a) (hσ:Pl.le σ σ') (hg:g.le g'):FrOk E σ' g' T a:=fun t=>(h t).mono hσ hg
theorem FrOk.ev {σ:Pl} {g:GH} {T:Fr Y} {a:Act} (h:FrOk E σ g T a) (x:Operand):Den E σ g (ev T x) (a.eval x):=by
 cases x with
 |tmp t=>exact h t
 |const v=>exact Xn E σ g v
 |global n=>exact .val _
 |func f=>exact .fn (fun _=>undef) (fun _=>undef) rfl (fun j hj=>by simp at hj) (fun j sv hj=>by simp at hj) rfl (fun j hj=>by simp at hj) (fun j sv hj=>by simp at hj)
theorem Zge (a:Act) (d:Option Nat) (u:Value) (t:Nat):(a.put d u).eval (.tmp t)=if d=some t/\t<a.tmps.size then u else a.eval (.tmp t):=by
 cases d with
 |none=>simp [Act.put]
 |some d=>
  show (a.tmps.setIfInBounds d u).getD t undef=_
  rw [Array.getD_eq_getD_getElem?,Array.getElem?_setIfInBounds]
  by_cases h:d=t
  · subst h
    by_cases h2:d<a.tmps.size
    · simp [h2]
    · simp only [if_true,h2,if_false,Option.getD_none,and_false]
      show undef=a.tmps.getD d undef
      rw [Array.getD_eq_getD_getElem?,Array.getElem?_eq_none (by omega)];rfl
  · rw [if_neg h,if_neg (by simp [h])]
    show _=a.tmps.getD t undef
    rw [Array.getD_eq_getD_getElem?]
theorem FrOk.put {σ:Pl} {g:GH} {T:Fr Y} {a:Act} (h:FrOk E σ g T a) {d:Nat} {sv:SV Y} {u:Value} (hd:d<a.tmps.size) (hu:Den E σ g sv u):FrOk E σ g (upd T d sv) (a.put (some d) u):=by
 intro t
 rw [Zge,Zh]
 by_cases e:t=d
 · subst e;rw [if_pos rfl,if_pos ⟨rfl,hd⟩];exact hu
 · rw [if_neg e,if_neg (by rintro ⟨h1,_⟩;exact e (Option.some.inj h1).symm)];exact h t
theorem FrOk.skip {σ:Pl} {g:GH} {T:Fr Y} {a:Act} (h:FrOk E σ g T a) (d:Nat) (u:Value):FrOk E σ g (upd T d .unk) (a.put (some d) u):=by
 intro t
 rw [Zge,Zh]
 by_cases e:t=d
 · subst e;rw [if_pos rfl];exact .unk _
 · rw [if_neg e,if_neg (by rintro ⟨h1,_⟩;exact e (Option.some.inj h1).symm)];exact h t
theorem FrOk.skipU {σ:Pl} {g:GH} {T:Fr Y} {a:Act} (h:FrOk E σ g T a) (d:Nat):FrOk E σ g (upd T d (.val undef)) (a.put (some d) undef):=by
 intro t
 rw [Zh,Zge]
 by_cases e:t=d
 · subst e
   rw [if_pos rfl]
   split
   · exact .val _
   · rename_i hn
     have:a.eval (.tmp t)=undef:=by
      have:¬t<a.tmps.size:=fun hh=>hn ⟨rfl,hh⟩
      show a.tmps.getD t undef=undef
      rw [Array.getD_eq_getD_getElem?,Array.getElem?_eq_none (by omega)]
      rfl
     rw [this];exact .val _
 · rw [if_neg e,if_neg (by rintro ⟨h1,_⟩;exact e (Option.some.inj h1).symm)]
   exact h t
theorem Vi {a:Act} {d:Option Nat} {u:Value}:(a.put d u).tmps.size=a.tmps.size:=by cases d<;>simp [Act.put]
theorem Wi {a:Act} {d:Option Nat} {u:Value}:(a.put d u).defers=a.defers:=by cases d<;>rfl
structure Aft (E:Eng Y) (B N i i':Nat) (ms:List Nat) (σ:Pl) (g:GH) (w:World) (df:List Deferred) (T':Fr Y) (h':Hp Y) (a':Act) (w':World):Prop where
 df:a'.defers=df
 sz:a'.tmps.size=N
 ex:∃σ' g',Stp i (i'-i) ms σ g w σ' g' w'/\Inv E B σ' h' g' w'/\FrOk E σ' g' T' a'
theorem Za2 {h':Hp Y}:∀{m:List Nat} {h:Hp Y} {k:Hp Y->Prop},Zd3 h' m h k↔k (fun b=>if b∈m then h' b else h b)
 | [],h,k=>by simp [Zd3]
 |b::m,h,k=>by
  simp only [Zd3,Xr,Zmd]
  rw [Za2 (m:=m)]
  have:(fun j=>if j∈m then h' j else upd h b (h' b) j)=fun j=>if j∈b::m then h' j else h j:=by
   funext j
   rw [Zh]
   by_cases c:j∈m
   · rw [if_pos c,if_pos (by simp [c])]
   · rw [if_neg c]
     by_cases e:j=b
     · rw [if_pos e,if_pos (by simp [e]),e]
     · rw [if_neg e,if_neg (by simp [c,e])]
  rw [this]
theorem Uk {rh:Hp Y} {m:List Nat} {b:Nat}:∀{n i:Nat},b∈Zca rh m i n↔b∈m\/(i<=b/\b<i+n/\rh b≠none)
  |0,i=>by simp [Zca];omega
  |n+1,i=>by
    simp only [Zca]
    split
    · rename_i x hx
      rw [List.mem_cons,Uk (n:=n)]
      constructor
      · rintro (rfl|h|h)
        · exact .inr ⟨Nat.le_refl _,by omega,by rw [hx];simp⟩
        · exact .inl h
        · exact .inr ⟨by omega,by omega,h.2.2⟩
      · rintro (h|h)
        · exact .inr (.inl h)
        · by_cases e:b=i
          · exact .inl e
          · exact .inr (.inr ⟨by omega,by omega,h.2.2⟩)
    · rename_i hx
      rw [Uk (n:=n)]
      constructor
      · rintro (h|h)
        · exact .inl h
        · exact .inr ⟨by omega,by omega,h.2.2⟩
      · rintro (h|h)
        · exact .inl h
        · refine .inr ⟨?_,by omega,h.2.2⟩
          rcases Nat.lt_or_ge i b with e|e
          · exact e
          · have:b=i:=by omega
            subst this
            exact absurd hx h.2.2
theorem Ww {r:Res Y} {h:Hp Y} {i:Nat} {ms:List Nat} {k:Hp Y->Nat->List Nat->Prop} (hD:DomLt h i) (hk:Zg5 r h i ms k):k (patch h i r) (i+r.n) (r.mods++ms):=by
  obtain ⟨v,n,mods,rh,rd⟩:=r
  unfold Zg5 at hk
  simp only at hk
  split at hk
  · have e:patch h i ⟨v,0,mods,rh,rd⟩=fun b=>if b∈mods then rh b else h b:=by
      funext j
      rw [Z6]
      by_cases c:j∈mods
      · rw [if_pos (.inl c),if_pos c]
      · rw [if_neg (by rintro (e|e); · exact c e
                       · simp at e;omega),if_neg c]
    split at hk
    · have e2:patch h i ⟨v,0,[],rh,rd⟩=h:=by rw [e];funext j;simp
      rw [e2];exact hk
    · rw [Za2] at hk
      rw [e];exact hk
  · rw [Xr,Za2] at hk
    have:patch h i ⟨v,n,mods,rh,rd⟩=fun b=>if b∈Zca rh mods i n then rh b else h b:=by
      funext j
      rw [Z6]
      by_cases c:j∈Zca rh mods i n
      · rw [if_pos c]
        rw [Uk] at c
        rw [if_pos (by rcases c with c|c; · exact .inl c
                       · exact .inr ⟨c.1,c.2.1⟩)]
      · rw [if_neg c]
        rw [Uk] at c
        by_cases e:j∈mods\/(i<=j/\j<i+n)
        · rw [if_pos e]
          have h1:i<=j/\j<i+n:=by
            rcases e with e|e
            · exact absurd (.inl e) c
            · exact e
          have h2:rh j=none:=by
            cases hq:rh j with
            |none=>rfl
            |some x=>exact absurd (.inr ⟨h1.1,h1.2,by rw [hq];simp⟩) c
          have h3:h j=none:=by
            cases hq:h j with
            |none=>rfl
            |some x=>have:=hD j (by rw [hq];simp);omega
          show rh j=h j
          rw [h2,h3]
        · rw [if_neg e]
    rw [this];exact hk
theorem Zv9 {N:Nat} {d:Option Nat} {r:Res Y} {T:Fr Y} {h:Hp Y} {i:Nat} {ms:List Nat} {k:Fr Y->Hp Y->Nat->List Nat->Prop} (hD:DomLt h i) (hk:Zi7 N d r T h i ms k):∃T',k T' (patch h i r) (i+r.n) (r.mods++ms)/\
 ∀σ g a u,FrOk E σ g T a->a.tmps.size=N->Den E σ g r.v u->FrOk E σ g T' (a.put d u):=by
 unfold Zi7 at hk
 split at hk
 · exact ⟨T,Ww hD hk,fun σ g a u h1 _ _=>h1⟩
 · rename_i d
   split at hk
   · rename_i hd
     rw [Zc0] at hk
     exact ⟨_,Ww hD hk,fun σ g a u h1 hN h2=>h1.put (by rw [hN];exact Yn hd) h2⟩
   · exact hk.elim
def Zx1 (E:Eng Y) (N:Nat) (all:Array Oper) (ops:List Oper) (T:Fr Y) (h:Hp Y) (i:Nat) (e:Exit) (T':Fr Y) (h':Hp Y) (i':Nat) (ms':List Nat):Prop:=
 ∀(B:Nat) (σ:Pl) (g:GH) (w:World) (a:Act) (Q:Exit->Act->World->Prop),Inv E B σ h g w->B<=w.heap.size->(∀b,i<=b->b<i'->σ b=none)->FrOk E σ g T a->a.tmps.size=N->
  (∀a' w',Aft E B N i i' ms' σ g w a.defers T' h' a' w'->Q e a' w')->wpList E.P all Q ops a w
theorem Zmz (hE:EngOk E) {N:Nat} {call:Nat->List (SV Y)->Hp Y->Nat->(Res Y->Prop)->Prop} (hstep:∀(o:Oper) T h i k,DomLt h i->step E call o.op T h i k->∃r,k r/\OpTri2 E o T h i r) (all:List Oper):
 ∀(ops:List Oper) (T:Fr Y) (h:Hp Y) (i:Nat) (ms:List Nat) (k:Kont Y),DomLt h i->rgn E N call all ops T h i ms k->
  ∃e T' h' i' ms',k e T' h' i' ms'/\i<=i'/\Dom h i h' i'/\(∃m,ms'=m++ms/\Y4 h i i' m)/\Zx1 E N all.toArray ops T h i e T' h' i' ms':=by
 intro ops
 induction ops with
 |nil=>
  intro T h i ms k hD hk
  refine ⟨.normal,T,h,i,ms,hk,Nat.le_refl _,⟨hD,fun b hb=> .inl hb⟩,⟨[],rfl,fun b hb=>by simp at hb⟩,fun B σ g w a Q hI hB _ hF hN hQ=> ?_⟩
  exact hQ a w ⟨rfl,hN,σ,g,by rw [Nat.sub_self];exact (Stp.refl i σ g w).weaken (by simp),hI,hF⟩
 |cons o ops ih=>
  intro T h i ms k hD hk
  have run:∀(T:Fr Y),step E call o.op T h i (fun res=>Zg6 N o.dst res T h i ms k fun T h i ms=>rgn E N call all ops T h i ms k)->
   ∃e T' h' i' ms',k e T' h' i' ms'/\i<=i'/\Dom h i h' i'/\(∃m,ms'=m++ms/\Y4 h i i' m)/\∀(B:Nat) (σ:Pl) (g:GH) (w:World) (a:Act) (Q:Exit->Act->World->Prop),Inv E B σ h g w->B<=w.heap.size->(∀b,i<=b->b<i'->σ b=none)->FrOk E σ g T a->a.tmps.size=N->
    (∀a' w',Aft E B N i i' ms' σ g w a.defers T' h' a' w'->Q e a' w')->o.wp E.P a w (wpList E.P all.toArray Q ops) Q:=by
   intro T hk
   obtain ⟨r,hk,htri⟩:=hstep o T h i _ hD hk
   unfold Zg6 at hk
   split at hk
   · rename_i p hp
     obtain ⟨hR,htri⟩:=htri.pan hp
     have hk:=Ww hD hk
     refine ⟨_,T,_,_,_,hk,by omega,⟨hD.patch hR,fun b h1=> ?_⟩,⟨r.mods,rfl,fun b hb=> .inl (hR b hb)⟩,?_⟩
     · rw [Z6] at h1
       split at h1
       · rename_i c
         rcases c with c|c
         · exact .inl (hR b c)
         · exact .inr c.1
       · exact .inl h1
     intro B σ g w a Q hI hB hfree hF hN hQ
     refine htri B σ g w a _ Q hI hB hfree (fun x _=>hF.ev x) ?_
     rintro w' ⟨σ',g',h3,h4⟩
     exact hQ a w' ⟨rfl,hN,σ',g',by rw [show i+r.n-i=r.n by omega];exact h3.weaken (by intro b;simp;intro hb;exact .inl hb),h4,hF.mono h3.sig h3.gle⟩
   rename_i hnp
   obtain ⟨hR,htri⟩:=htri.tri hnp
   obtain ⟨T1,hk,hfr⟩:=Zv9 (E:=E) hD hk
   obtain ⟨e,T',h',i',ms',hk',hle,hD',⟨m,rfl,hM⟩,hw⟩:=ih T1 _ _ _ k (hD.patch hR) hk
   have hup:∀b,patch h i r b≠none->h b≠none\/i<=b:=by
    intro b h1
    rw [Z6] at h1
    split at h1
    · rename_i c
      rcases c with c|c
      · exact .inl (hR b c)
      · exact .inr c.1
    · exact .inl h1
   refine ⟨e,T',h',i',_,hk',by omega,⟨hD'.1,fun b hb=> ?_⟩,⟨m++r.mods,by simp,?_⟩,?_⟩
   · rcases hD'.2 b hb with c|c
     · exact hup b c
     · right;omega
   · intro b hb
     rcases List.mem_append.1 hb with hb|hb
     · rcases hM b hb with h1|h1
       · rw [Z6] at h1
         split at h1
         · rename_i c
           rcases c with c|c
           · exact .inl (hR b c)
           · right;omega
         · exact .inl h1
       · right;omega
     · exact .inl (hR b hb)
   intro B σ g w a Q hI hB hfree hF hN hQ
   refine OpPost.wp (htri B σ g w a.eval h (fun _ _=>rfl) hI hB (fun b h1 h2=>hfree b h1 (by omega)) (fun x _=>hF.ev x)) ?_
   rintro u w1 ⟨σ1,g1,hS,hI1,hv⟩
   refine hw B σ1 g1 w1 _ Q hI1 (Nat.le_trans hB hS.size) ?_ (hfr σ1 g1 a u (hF.mono hS.sig hS.gle) hN hv) (by rw [Vi];exact hN) ?_
   · intro b h1 h2
     cases hs:σ1 b with
     |none=>rfl
     |some p=>
      rcases hS.snew b p hs with h3|h3
      · rw [hfree b (by omega) h2] at h3;cases h3
      · omega
   · rintro a' w' ⟨h1,h2,σ',g',h3,h4,h5⟩
     refine hQ a' w' ⟨by rw [h1,Wi],h2,σ',g',?_,h4,h5⟩
     have:=(hS.trans (by rw [show i'-(i+r.n)=i'-i-r.n by omega] at h3;exact h3))
     rw [show r.n+(i'-i-r.n)=i'-i by omega] at this
     exact this.weaken (by intro b;simp only [List.mem_append];rintro ((h|h|h)|h)<;>simp [h])
  unfold rgn at hk
  split at hk
  · rename_i hg
    obtain ⟨e,T',h',i',ms',h1,h2,hDD,h3,h4⟩:=run T hk
    refine ⟨e,T',h',i',ms',h1,h2,hDD,h3,fun B σ g w a Q hI hB hfree hF hN hQ=> ?_⟩
    unfold wpList
    rw [if_pos (by unfold Region.wanted;rw [hg])]
    exact .inl (h4 B σ g w a Q hI hB hfree hF hN hQ)
  · rename_i j b hg
    split at hk
    · rename_i d hd
      split at hk
      · rename_i l x hT
        have hk:=Yv hk
        have yield:∀σ g a,FrOk E σ g T a->yielded all.toArray a.tmps j=some x:=by
         intro σ g a hF
         have h1:=hF d
         rw [hT] at h1
         generalize hv:a.eval (.tmp d)=v at h1
         cases h1
         have hv':a.tmps.getD d undef= .bool x:=hv
         unfold Zd4 at hd
         split at hd
         · rename_i oj hoj
           unfold yielded
           rw [Array.getD_eq_getD_getElem?] at hv'
           simp only [List.getElem?_toArray,hoj,Option.bind_some,hd]
           cases hq:a.tmps[d]? with
           |none=>rw [hq] at hv';cases hv'
           |some u=>rw [hq] at hv';simp at hv';rw [hv']
         · cases hd
        have hF1:∀σ g a,FrOk E σ g T a->FrOk E σ g (upd T d (.bool true x)) a:=by
         intro σ g a hF t
         rw [Zh]
         by_cases e:t=d
         · subst e
           rw [if_pos rfl]
           have h1:=hF t
           rw [hT] at h1
           generalize a.eval (.tmp t)=v at h1
           cases h1;exact .bool _ _
         · rw [if_neg e];exact hF t
        have go:x=b->step E call o.op (upd T d (.bool true x)) h i (fun res=>Zg6 N o.dst res (upd T d (.bool true x)) h i ms k fun T h i ms=>rgn E N call all ops T h i ms k)->
         ∃e T' h' i' ms',k e T' h' i' ms'/\i<=i'/\Dom h i h' i'/\(∃m,ms'=m++ms/\Y4 h i i' m)/\Zx1 E N all.toArray (o::ops) T h i e T' h' i' ms':=fun hxb hk=>by
         obtain ⟨e,T',h',i',ms',h1,h2,hDD,h3,h4⟩:=run _ hk
         refine ⟨e,T',h',i',ms',h1,h2,hDD,h3,fun B σ g w a Q hI hB hfree hF hN hQ=> ?_⟩
         unfold wpList
         rw [if_pos (by unfold Region.wanted;rw [hg];simp [yield σ g a hF,hxb])]
         exact .inl (h4 B σ g w a Q hI hB hfree (hF1 σ g a hF) hN hQ)
        split at hk
        · exact go rfl hk
        · exact go rfl hk
        · rename_i hn1 hn2
          have hne:x≠b:=by
           rintro rfl
           cases x
           · exact hn2 rfl rfl
           · exact hn1 rfl rfl
          split at hk
          · rename_i hdst
            obtain ⟨e,T',h',i',ms',h1,h2,hDD,h3,h4⟩:=ih _ _ _ _ k hD hk
            refine ⟨e,T',h',i',ms',h1,h2,hDD,h3,fun B σ g w a Q hI hB hfree hF hN hQ=> ?_⟩
            unfold wpList
            rw [if_neg (by unfold Region.wanted;rw [hg];simp [yield σ g a hF,hne])]
            rw [hdst]
            exact h4 B σ g w a Q hI hB hfree (hF1 σ g a hF) hN hQ
          · rename_i d' hdst
            obtain ⟨e,T',h',i',ms',h1,h2,hDD,h3,h4⟩:=ih _ _ _ _ k hD hk
            refine ⟨e,T',h',i',ms',h1,h2,hDD,h3,fun B σ g w a Q hI hB hfree hF hN hQ=> ?_⟩
            unfold wpList
            rw [if_neg (by unfold Region.wanted;rw [hg];simp [yield σ g a hF,hne])]
            rw [hdst]
            exact h4 B σ g w _ Q hI hB hfree ((hF1 σ g a hF).skipU d') (by rw [Vi];exact hN) (fun a' w' hA=>hQ a' w' ⟨by rw [hA.df];exact Wi,hA.sz,hA.ex⟩)
      · rename_i u hT
        split at hk
        · exact hk.elim
        rename_i hu
        have yield:∀σ g a,FrOk E σ g T a->yielded all.toArray a.tmps j=none:=by
         intro σ g a hF
         have h1:=hF d
         rw [hT] at h1
         generalize hv:a.eval (.tmp d)=v at h1
         cases h1
         have hv':a.tmps.getD d undef=u:=hv
         unfold Zd4 at hd
         split at hd
         · rename_i oj hoj
           unfold yielded
           rw [Array.getD_eq_getD_getElem?] at hv'
           simp only [List.getElem?_toArray,hoj,Option.bind_some,hd]
           cases hq:a.tmps[d]? with
           |none=>rfl
           |some y=>
            rw [hq] at hv'
            simp at hv'
            subst hv'
            cases y<;>first|rfl|(simp [Ztg] at hu)
         · cases hd
        split at hk
        · rename_i hdst
          obtain ⟨e,T',h',i',ms',h1,h2,hDD,h3,h4⟩:=ih _ _ _ _ k hD hk
          refine ⟨e,T',h',i',ms',h1,h2,hDD,h3,fun B σ g w a Q hI hB hfree hF hN hQ=> ?_⟩
          unfold wpList
          rw [if_neg (by unfold Region.wanted;rw [hg];simp [yield σ g a hF])]
          rw [hdst]
          exact h4 B σ g w a Q hI hB hfree hF hN hQ
        · rename_i d' hdst
          obtain ⟨e,T',h',i',ms',h1,h2,hDD,h3,h4⟩:=ih _ _ _ _ k hD hk
          refine ⟨e,T',h',i',ms',h1,h2,hDD,h3,fun B σ g w a Q hI hB hfree hF hN hQ=> ?_⟩
          unfold wpList
          rw [if_neg (by unfold Region.wanted;rw [hg];simp [yield σ g a hF])]
          rw [hdst]
          exact h4 B σ g w _ Q hI hB hfree (hF.skipU d') (by rw [Vi];exact hN) (fun a' w' hA=>hQ a' w' ⟨by rw [hA.df];exact Wi,hA.sz,hA.ex⟩)
      · exact hk.elim
    · exact hk.elim
theorem Zdj {B i n:Nat} {m:List Nat} {σ σ':Pl} {g g':GH} {w w':World} {h h':Hp Y} (hI:Inv E B σ h g w) (hI':Inv E B σ' h' g' w') (hS:Stp i n m σ g w σ' g' w') (hm:∀b∈m,h b≠none) (hfree:∀b,i<=b->b<i+n->σ b=none)
 {r:Res Y} (h1:r.n=n) (h2:r.mods=m) (h3:r.h=h'):Inv E B σ' (patch h i r) g' w':=by
 subst h1;subst h2;subst h3
 have old:∀b x,h b=some x->b∉r.mods->∃p z,σ b=some (p,z)/\σ' b=some (p,z)/\BlkOk E σ g w p z x/\p<w.heap.size/\∀b'∈r.mods,∀z',σ b'≠some (p,z'):=by
  intro b x hx hb
  obtain ⟨p,z,hσ,hbo⟩:=hI.blk b x hx
  refine ⟨p,z,hσ,hS.sig _ _ hσ,hbo,(hI.base _ _ _ hσ).2,fun b' hb' z' hσ'=> ?_⟩
  exact hb (hI.inj _ _ _ _ _ (by rw [hx];simp) (hm b' hb') hσ hσ'▸hb')
 refine ⟨hI'.gc,hI'.gm,?_,?_,hI'.base,?_,?_,hI'.glob⟩
 · intro b x hx
   rw [Z6] at hx
   split at hx
   · exact hI'.blk b x hx
   · rename_i c
     obtain ⟨p,z,k1,k2,k3,k4,k5⟩:=old b x hx (fun e=>c (.inl e))
     exact ⟨p,z,k2,k3.mono hS.sig hS.gle (hS.heap p k4 fun b' hb' z'=>k5 b' hb' z')⟩
 · intro b1 b2 p z1 z2 q1 q2 s1 s2
   rw [Z6] at q1 q2
   have mix:∀b1 b2 z1 z2,(b1∈r.mods\/(i<=b1/\b1<i+r.n))->¬(b2∈r.mods\/(i<=b2/\b2<i+r.n))->h b2≠none->σ' b1=some (p,z1)->σ' b2=some (p,z2)->False:=by
    intro b1 b2 z1 z2 c1 c2 q2 s1 s2
    obtain ⟨x,hx⟩:=Option.ne_none_iff_exists'.1 q2
    obtain ⟨p',z',k1,k2,k3,k4,k5⟩:=old b2 x hx (fun e=>c2 (.inl e))
    rw [k2] at s2;cases s2
    cases hq:σ b1 with
    |some pq=>
     have:=hS.sig _ _ hq
     rw [s1] at this
     obtain rfl:=Option.some.inj this
     rcases c1 with c1|c1
     · exact k5 b1 c1 _ hq
     · rw [hfree b1 c1.1 c1.2] at hq;cases hq
    |none=>
     rcases hS.blk b1 p z1 hq s1 with e|⟨b',e1,z'',e2⟩
     · omega
     · exact k5 b' e1 _ e2
   split at q1<;>split at q2
   · exact hI'.inj _ _ _ _ _ q1 q2 s1 s2
   · exact (mix b1 b2 z1 z2 ‹_› ‹_› q2 s1 s2).elim
   · exact (mix b2 b1 z2 z1 ‹_› ‹_› q1 s2 s1).elim
   · rename_i c1 c2
     obtain ⟨x1,hx1⟩:=Option.ne_none_iff_exists'.1 q1
     obtain ⟨x2,hx2⟩:=Option.ne_none_iff_exists'.1 q2
     obtain ⟨p1,y1,k1,k2,_⟩:=old b1 x1 hx1 (fun e=>c1 (.inl e))
     obtain ⟨p2,y2,l1,l2,_⟩:=old b2 x2 hx2 (fun e=>c2 (.inl e))
     rw [k2] at s1;cases s1
     rw [l2] at s2;cases s2
     exact hI.inj _ _ _ _ _ q1 q2 k1 l1
 · intro b x p z o v hx hσ hv
   rw [Z6] at hx
   split at hx
   · exact hI'.fz b x p z o v hx hσ hv
   · rename_i c
     obtain ⟨p',z',k1,k2,k3,k4,k5⟩:=old b x hx (fun e=>c (.inl e))
     rw [k2] at hσ;cases hσ
     rcases hS.gcnew _ _ _ hv with e|e|⟨b',e1,z'',e2⟩
     · exact hI.fz b x p z o v hx k1 e
     · omega
     · exact (k5 b' e1 _ e2).elim
 · intro b x p z hx hσ
   rw [Z6] at hx
   split at hx
   · exact hI'.fm b x p z hx hσ
   · rename_i c
     obtain ⟨p',z',k1,k2,k3,k4,k5⟩:=old b x hx (fun e=>c (.inl e))
     rw [k2] at hσ;cases hσ
     cases hq:g'.obj p with
     |none=>rfl
     |some es=>
      rcases hS.gmnew _ _ hq with e|e
      · rw [hI.fm b x p z hx k1] at e;cases e
      · omega
end
end
section
open Go.RowKit
section
variable {Y:Thy} {E:Eng Y}
def Wr (d:DR Y) (b:Nat):Prop:=b∈d.r.mods\/(d.i<=b/\b<d.i+d.r.n)
def memD:List (DR Y)->(Nat->Bool)->Hp Y->Hp Y
 | [],_,h=>h
 |d::ds,D,h=>memD ds (fun m=>D (m+1)) (bif D 0 then patch h d.i d.r else h)
def tD:List Oper->List (DR Y)->(Nat->Bool)->Fr Y->Fr Y
 |o::os,d::ds,D,T=>tD os ds (fun m=>D (m+1)) (bif D 0 then updO T o.dst d.r.v else T)
 |_,_,_,T=>T
theorem Zbb {h:Hp Y} {d:DR Y} {b:Nat} (hb:¬Wr d b):patch h d.i d.r b=h b:=by rw [Z6];exact if_neg hb
theorem Zcw {h:Hp Y} {d:DR Y} {b:Nat} (hb:Wr d b):patch h d.i d.r b=d.r.h b:=by rw [Z6];exact if_pos hb
theorem Uu:∀(ds:List (DR Y)) (D D':Nat->Bool) (h h':Hp Y) (b:Nat),(∀m d,ds[m]? =some d->Wr d b->D m=D' m)->h b=h' b->memD ds D h b=memD ds D' h' b:=by
 intro ds
 induction ds with
 |nil=>intro D D' h h' b _ hb;exact hb
 |cons d ds ih=>
  intro D D' h h' b hw hb
  refine ih _ _ _ _ b (fun m d' hm=>hw (m+1) d' (by simpa using hm)) ?_
  by_cases hd:Wr d b
  · have:=hw 0 d rfl hd
    rw [<-this]
    cases D 0
    · exact hb
    · simp only [cond_true];rw [Zcw hd,Zcw hd]
  · have e1:(bif D 0 then patch h d.i d.r else h) b=h b:=by cases D 0<;>simp [Zbb hd]
    have e2:(bif D' 0 then patch h' d.i d.r else h') b=h' b:=by cases D' 0<;>simp [Zbb hd]
    rw [e1,e2,hb]
theorem Zbx (ds:List (DR Y)) (h:Hp Y):memD ds (fun _=>false) h=h:=by
 induction ds generalizing h with
 |nil=>rfl
 |cons d ds ih=>simp only [memD];exact ih h
theorem Zw0 (b:Nat):∀(ds:List (DR Y)) (D:Nat->Bool) (h:Hp Y) (m:Nat) (d:DR Y),ds[m]? =some d->D m=false->(Wr d b->∀m' d',m<m'->ds[m']? =some d'->Wr d' b->D m'=false)->
 memD ds (fun x=>if x=m then true else D x) h b=patch (memD ds D h) d.i d.r b:=by
 intro ds
 induction ds with
 |nil=>intro D h m d hm;simp at hm
 |cons d0 ds ih=>
  intro D h m d hm hD0 hlater
  cases m with
  |zero=>
   obtain rfl:d0=d:=by simpa using hm
   simp only [memD]
   have e:(fun m=>if m+1=0 then true else D (m+1))=fun m=>D (m+1):=by funext m;simp
   rw [e,hD0]
   simp only [if_true,cond_true,cond_false]
   by_cases hw:Wr d0 b
   · rw [Zcw hw]
     have hl:=hlater hw
     rw [Uu ds _ (fun _=>false) _ (patch h d0.i d0.r) b (fun m' d' hm' hw'=>hl (m'+1) d' (by omega) (by simpa using hm') hw') rfl,Zbx,Zcw hw]
   · rw [Zbb hw]
     exact Uu ds _ _ _ _ b (fun _ _ _ _=>rfl) (Zbb hw)
  |succ m=>
   simp only [memD]
   have e:(fun x=>if x+1=m+1 then true else D (x+1))=fun x=>if x=m then true else (fun y=>D (y+1)) x:=by funext x;simp
   rw [e,show (if (0:Nat)=m+1 then true else D 0)=D 0 from if_neg (by omega)]
   exact ih (fun y=>D (y+1)) _ m d (by simpa using hm) hD0 fun hw m' d' hlt hm' hw'=>hlater hw (m'+1) d' (by omega) (by simpa using hm') hw'
theorem Y1 (T:Fr Y) (d:Option Nat) (v:SV Y) (t:Nat):updO T d v t=if d=some t then v else T t:=by
 cases d with
 |none=>simp [updO]
 |some d=>
  simp only [updO,Zh,Option.some.injEq]
  by_cases e:t=d
  · subst e;simp
  · rw [if_neg e,if_neg (fun h=>e h.symm)]
theorem Zbc:∀(os:List Oper) (ds:List (DR Y)) (D D':Nat->Bool) (T T':Fr Y) (t:Nat),(∀m o,os[m]? =some o->o.dst=some t->D m=D' m)->T t=T' t->tD os ds D T t=tD os ds D' T' t:=by
 intro os
 induction os with
 |nil=>intro ds D D' T T' t _ ht;simpa [tD] using ht
 |cons o os ih=>
  intro ds D D' T T' t hw ht
  cases ds with
  |nil=>simpa [tD] using ht
  |cons d ds=>
   refine ih ds _ _ _ _ t (fun m o' hm=>hw (m+1) o' (by simpa using hm)) ?_
   by_cases hd:o.dst=some t
   · have:=hw 0 o rfl hd
     rw [<-this]
     cases D 0
     · exact ht
     · simp only [cond_true];rw [Y1,Y1,if_pos hd,if_pos hd]
   · have e1:(bif D 0 then updO T o.dst d.r.v else T) t=T t:=by cases D 0<;>simp [Y1,hd]
     have e2:(bif D' 0 then updO T' o.dst d.r.v else T') t=T' t:=by cases D' 0<;>simp [Y1,hd]
     rw [e1,e2,ht]
theorem Zbd (os:List Oper) (ds:List (DR Y)) (T:Fr Y):tD os ds (fun _=>false) T=T:=by
 induction os generalizing ds with
 |nil=>simp [tD]
 |cons o os ih=>cases ds with
  |nil=>simp [tD]
  |cons d ds=>simp only [tD];exact ih ds
theorem Zyd (t:Nat):∀(os:List Oper) (ds:List (DR Y)) (D:Nat->Bool) (T:Fr Y) (m:Nat) (o:Oper) (d:DR Y),os[m]? =some o->ds[m]? =some d->D m=false->(o.dst=some t->∀m' o',m<m'->os[m']? =some o'->o'.dst=some t->D m'=false)->
 tD os ds (fun x=>if x=m then true else D x) T t=updO (tD os ds D T) o.dst d.r.v t:=by
 intro os
 induction os with
 |nil=>intro ds D T m o d hm;simp at hm
 |cons o0 os ih=>
  intro ds D T m o d hm hmd hD0 hlater
  cases ds with
  |nil=>simp at hmd
  |cons d0 ds=>
   cases m with
   |zero=>
    obtain rfl:o0=o:=by simpa using hm
    obtain rfl:d0=d:=by simpa using hmd
    simp only [tD]
    have e:(fun m=>if m+1=0 then true else D (m+1))=fun m=>D (m+1):=by funext m;simp
    rw [e,hD0]
    simp only [if_true,cond_true,cond_false]
    by_cases hw:o0.dst=some t
    · rw [Y1,if_pos hw]
      have hl:=hlater hw
      rw [Zbc os ds _ (fun _=>false) _ (updO T o0.dst d0.r.v) t (fun m' o' hm' hw'=>hl (m'+1) o' (by omega) (by simpa using hm') hw') rfl,Zbd,Y1,if_pos hw]
    · rw [Y1,if_neg hw]
      exact Zbc os ds _ _ _ _ t (fun _ _ _ _=>rfl) (by rw [Y1,if_neg hw])
   |succ m=>
    simp only [tD]
    have e:(fun x=>if x+1=m+1 then true else D (x+1))=fun x=>if x=m then true else (fun y=>D (y+1)) x:=by funext x;simp
    rw [e,show (if (0:Nat)=m+1 then true else D 0)=D 0 from if_neg (by omega)]
    exact ih ds (fun y=>D (y+1)) _ m o d (by simpa using hm) (by simpa using hmd) hD0 fun hw m' o' hlt hm' hw'=>hlater hw (m'+1) o' (by omega) (by simpa using hm') hw'
def Zha (E:Eng Y) (all:List Oper) (o:Oper) (T:Fr Y) (view:Hp Y) (d:DR Y):Prop:=
 match o.guard with
 |none=>Z0 E o T view d.i d.r
 |some (g,b)=>∃s,Zd4 all g=some s/\((∃l x,T s= .bool l x/\x=b/\Z0 E o T view d.i d.r)\/(((∃l x,T s= .bool l x/\x≠b)\/∃u,T s= .val u/\Ztg u=false)/\(d.r=Zd [] .unk\/d.r=Zd [] (.val undef))))
def POk (E:Eng Y) (all:List Oper) (mks:List Nat):List Oper->Nat->Fr Y->Hp Y->Nat->List (Nat×DR Y)->List (DR Y)->Prop
 | [],_,_,_,_,_,[]=>True
 |o::os,j,T,h,i,prev,d::ds=>(d.i=i/\DomLt h i/\ROk h d.r/\Wt d (Xm (nthN mks j) prev)=true/\Zha E all o T (Wu h (Xm (nthN mks j) prev)) d)/\
  POk E all mks os (j+1) (updO T o.dst d.r.v) (patch h i d.r) (i+d.r.n) ((j,d)::prev) ds
 |_,_,_,_,_,_,_=>False
theorem Zea {h:Hp Y} {un:List (DR Y)} {b:Nat} {x:Blk Y} (hv:Wu h un b=some x):h b=some x/\∀d∈un,¬(d.i<=b/\b<d.i+d.r.n):=by
 have any:∀l:List (DR Y),Zi8 b l=false->∀d∈l,¬(d.i<=b/\b<d.i+d.r.n):=by
  intro l
  induction l with
  |nil=>intro _ d hd;simp at hd
  |cons d0 l ih=>
   intro ha d hd
   simp only [Zi8,Bool.or_eq_false_iff] at ha
   rcases List.mem_cons.1 hd with rfl|hd
   · intro c
     have:d.new b=true:=inNew_iff.2 c
     rw [this] at ha;cases ha.1
   · exact ih ha.2 d hd
 have mem:∀l:List (DR Y),∀d∈l,d∈V6 l\/d.r.n=0:=by
  intro l
  induction l with
  |nil=>intro d hd;simp at hd
  |cons d0 l ih=>
   intro d hd
   simp only [V6]
   split
   · rename_i h0
     rcases List.mem_cons.1 hd with rfl|hd
     · exact .inr h0
     · exact ih d hd
   · rcases List.mem_cons.1 hd with rfl|hd
     · exact .inl (by simp)
     · exact (ih d hd).imp (fun h=>by simp [h]) id
 unfold Wu at hv
 cases hw:V6 un with
 |nil=>
  rw [hw] at hv
  refine ⟨hv,fun d hd c=> ?_⟩
  rcases mem un d hd with h1|h1
  · rw [hw] at h1;simp at h1
  · omega
 |cons q qs=>
  rw [hw] at hv
  simp only at hv
  cases ha:Zi8 b (q::qs) with
  |true=>rw [ha] at hv;cases hv
  |false=>
   rw [ha] at hv
   refine ⟨hv,fun d hd c=> ?_⟩
   rcases mem un d hd with h1|h1
   · rw [hw] at h1;exact any _ ha d h1 c
   · omega
theorem Zbe (i:Nat) (un:List (DR Y)) {v:SV Y}:Wt (⟨i,Zd [] v⟩:DR Y) un=true:=by
 induction un with
 |nil=>rfl
 |cons d un ih=>
  simp only [Wt,ih,Bool.and_true]
  have n1:∀l,disj l ([]:List Nat)=true:=by
   intro l
   induction l with
   |nil=>rfl
   |cons x l ih=>simp [disj,memB,ih]
  have n2:∀l,U5 (⟨i,Zd [] v⟩:DR Y) l=true:=by
   intro l
   induction l with
   |nil=>rfl
   |cons x l ih=>
    have:(⟨i,Zd [] v⟩:DR Y).new x=false:=by
     simp only [DR.new,Zd,Nat.add_zero]
     rw [Bool.and_eq_false_iff,<-Bool.not_eq_true,Nat.ble_eq,<-Bool.not_eq_true,Nat.blt,Nat.ble_eq];omega
    simp [U5,ih,this]
  cases hr:d.r.rd with
  |none=>simp [Zd5,Zd,n1,U5,hr,Zpf]
  |some l=>
   have:=n2 l
   simp only [Zd] at this
   simp [Zd5,Zd,n1,U5,hr,disj,this]
def msD:List (DR Y)->List Nat->List Nat
 | [],ms=>ms
 |d::ds,ms=>msD ds (d.r.mods++ms)
def iD:List (DR Y)->Nat->Nat
 | [],i=>i
 |d::ds,i=>iD ds (i+d.r.n)
theorem Z0i {N:Nat} {d:Option Nat} {r:Res Y} {T:Fr Y} {h:Hp Y} {i:Nat} {ms:List Nat} {k:Fr Y->Hp Y->Nat->List Nat->Prop} (hD:DomLt h i) (hk:keep N d r T h i ms k):k (updO T d r.v) (patch h i r) (i+r.n) (r.mods++ms)/\(∀x,d=some x->x<N)/\Zck r.v=none:=by
 unfold keep at hk
 split at hk
 · exact hk.elim
 rename_i hnp
 unfold Zi7 at hk
 split at hk
 · exact ⟨Ww hD hk,(fun x hx=>by cases hx),hnp⟩
 · split at hk
   · rename_i hd
     rw [Zc0] at hk
     exact ⟨Ww hD hk,(fun x hx=>by cases hx;exact Yn hd),hnp⟩
   · exact hk.elim
def FrB (T' T:Fr Y):Prop:=∀s,T' s=T s\/∃l x,T s= .bool l x/\T' s= .bool true x
theorem FrB.refl (T:Fr Y):FrB T T:=fun s=> .inl rfl
theorem FrB.updO {T' T:Fr Y} (h:FrB T' T) (d:Option Nat) (v:SV Y):FrB (updO T' d v) (updO T d v):=by
 intro s
 cases d with
 |none=>exact h s
 |some d=>
  show upd T' d v s=upd T d v s\/∃l x,upd T d v s= .bool l x/\upd T' d v s= .bool true x
  rw [Zh,Zh]
  by_cases e:s=d
  · rw [if_pos e,if_pos e];exact .inl rfl
  · rw [if_neg e,if_neg e];exact h s
theorem FrB.bool {T' T:Fr Y} (h:FrB T' T) {d:Nat} {l x:Bool} (hd:T' d= .bool l x):∃l',T d= .bool l' x:=by
 rcases h d with e|⟨l',x',e1,e2⟩
 · exact ⟨l,e▸hd⟩
 · rw [hd] at e2;cases e2;exact ⟨l',e1⟩
theorem FrB.fix {T' T:Fr Y} (h:FrB T' T) {d:Nat} {l x:Bool} (hd:T' d= .bool l x):FrB (upd T' d (.bool true x)) T:=by
 intro s
 rw [Zh]
 by_cases e:s=d
 · rw [if_pos e]
   obtain ⟨l',h1⟩:=h.bool hd
   exact .inr ⟨l',x,by rw [e];exact h1,rfl⟩
 · rw [if_neg e];exact h s
theorem FrB.den {T' T:Fr Y} (h:FrB T' T) {σ:Pl} {g:GH} {s:Nat} {u:Value} (hd:Den E σ g (T s) u):Den E σ g (T' s) u:=by
 rcases h s with e|⟨l,x,e1,e2⟩
 · rw [e];exact hd
 · rw [e1] at hd;rw [e2];cases hd;exact .bool _ _
theorem FrB.tri {T' T:Fr Y} (h:FrB T' T) {o:Oper} {hh:Hp Y} {i:Nat} {r:Res Y} (ht:Z0 E o T' hh i r):Z0 E o T hh i r:=by
 refine ⟨ht.1,fun B σ g w ρ hp h1 h2 h3 h4 h5=>ht.2 B σ g w ρ hp h1 h2 h3 h4 fun x hx=> ?_⟩
 have:=h5 x hx
 cases x with
 |tmp s=>exact h.den this
 |_=>exact this
theorem Aft.frB {B N i i':Nat} {ms:List Nat} {σ:Pl} {g:GH} {w:World} {df:List Deferred} {T T':Fr Y} {h':Hp Y} {a':Act} {w':World} (hA:Aft E B N i i' ms σ g w df T h' a' w') (h:FrB T' T):Aft E B N i i' ms σ g w df T' h' a' w':=by
 obtain ⟨h1,h2,σ',g',h3,h4,h5⟩:=hA
 exact ⟨h1,h2,σ',g',h3,h4,fun t=>h.den (h5 t)⟩
def PanF (E:Eng Y) (o:Oper) (T:Fr Y) (h:Hp Y) (i:Nat) (r:Res Y) (p:Value):Prop:=
 ∀(B:Nat) (σ:Pl) (g:GH) (w:World) (a:Act) (K:Act->World->Prop) (Q:Exit->Act->World->Prop),Inv E B σ h g w->B<=w.heap.size->(∀b,i<=b->b<i+r.n->σ b=none)->
  (∀x∈o.op.operands.toList,Den E σ g (ev T x) (a.eval x))->(∀w',(∃σ' g',Stp i r.n r.mods σ g w σ' g' w'/\Inv E B σ' (patch h i r) g' w')->Q (.panic [{v:=p,recovered:=false}]) a w')->o.wp E.P a w K Q
def QOk (E:Eng Y) (N:Nat) (h:Hp Y) (i:Nat) (mks:List Nat) (j0:Nat) (rp:Res Y) (p:Value):List Oper->Nat->Fr Y->List (DR Y)->Prop
 | [],_,_,[]=>True
 |o::os,j,T,d::ds=>((j=j0->PanF E o T h i rp p)/\(j≠j0->bitB (nthN mks j) j0=false->d.r.n=0/\d.r.mods= []/\Z0 E o T h i d.r/\∀x,o.dst=some x->x<N))/\QOk E N h i mks j0 rp p os (j+1) (updO T o.dst d.r.v) ds
 |_,_,_,_=>False
theorem Zw1 {N:Nat} {d:Option Nat} (h:Z0c N d=true):∀x,d=some x->x<N:=by
 rintro x rfl
 exact Yn h
theorem Znn {l:List Nat} (h:Zpf l=true):l= []:=by cases l<;>first|rfl|cases h
theorem Z0j {N:Nat} {call:Nat->List (SV Y)->Hp Y->Nat->(Res Y->Prop)->Prop} (hstep:∀(o:Oper) T h i k,DomLt h i->step E call o.op T h i k->∃r,k r/\OpTri2 E o T h i r) {h:Hp Y} {i:Nat} (hD:DomLt h i) {mks:List Nat} {j0:Nat} {rp:Res Y} {p:Value} {K:Prop}:
 ∀(os:List Oper) (j:Nat) (T:Fr Y),j0<j->rgnX E N call mks j0 os j T h i K->∃ds,K/\QOk E N h i mks j0 rp p os j T ds:=by
 intro os
 induction os with
 |nil=>intro j T _ hk;exact ⟨[],hk,trivial⟩
 |cons o os ih=>
  intro j T hj hk
  unfold rgnX at hk
  split at hk
  · rename_i hb
    obtain ⟨ds,hK,hq⟩:=ih (j+1) _ (by omega) hk
    refine ⟨⟨i,Zd [] .unk⟩::ds,hK,⟨⟨fun e=>by omega,fun _ hb'=> ?_⟩,hq⟩⟩
    rw [hb] at hb';cases hb'
  · obtain ⟨r,hk,htri⟩:=hstep o T h i _ hD hk
    split at hk
    · rename_i hn hm hp
      rw [Zc0] at hk
      rw [Bool.and_eq_true] at hm
      obtain ⟨ds,hK,hq⟩:=ih (j+1) _ (by omega) hk
      exact ⟨⟨i,r⟩::ds,hK,⟨⟨fun e=>by omega,fun _ _=>⟨hn,Znn hm.1,htri.tri hp,Zw1 hm.2⟩⟩,hq⟩⟩
    · exact hk.elim
theorem Zap {m:Nat}:∀{prev:List (Nat×DR Y)},Ze1 prev=true->V6 (Xm m prev)= []
 | [],_=>rfl
 |(j,d)::prev,h=>by
  simp only [Ze1,Bool.and_eq_true] at h
  have ih:=Zap (m:=m) h.2
  unfold Xm
  split
  · exact ih
  · unfold V6
    have h1:=h.1
    split at h1
    · rename_i e
      first|exact ih|(rw [e];exact ih)
    · cases h1
theorem Zpq {j:Nat} {d:DR Y} {prev:List (Nat×DR Y)} (h:Ze1 ((j,d)::prev)=true):d.r.n=0/\d.r.mods= []/\Ze1 prev=true:=by
 simp only [Ze1,Bool.and_eq_true] at h
 have h1:=h.1
 split at h1
 · rename_i e
   exact ⟨e,Znn h1,h.2⟩
 · cases h1
theorem FrB.pan {T' T:Fr Y} (h:FrB T' T) {o:Oper} {hh:Hp Y} {i:Nat} {r:Res Y} {p:Value} (ht:PanF E o T' hh i r p):PanF E o T hh i r p:=by
 refine fun B σ g w a K Q h1 h2 h3 h4=>ht B σ g w a K Q h1 h2 h3 fun x hx=> ?_
 have:=h4 x hx
 cases x with
 |tmp s=>exact h.den this
 |_=>exact this
theorem Zye {t:Nat} {D:List Nat} (ht:t∉D):∀{os:List Oper} {ds:List (DR Y)} {L:Nat->Bool} {T:Fr Y},(∀o∈os,∀d,o.dst=some d->d∈D)->tD os ds L T t=T t
 | [],ds,L,T,_=>by simp [tD]
 |o::os,[],L,T,_=>by simp [tD]
 |o::os,d::ds,L,T,ho=>by
  simp only [tD]
  rw [Zye ht fun o' h'=>ho o' (List.mem_cons_of_mem _ h')]
  cases L 0
  · rfl
  · simp only [cond_true]
    rw [Y1,if_neg]
    intro e
    exact ht (ho o (by simp) t e)
def OffEq (D:List Nat) (T T':Fr Y):Prop:=∀t,t∉D->T' t=T t
theorem OffEq.updO {D:List Nat} {T T':Fr Y} (h:OffEq D T T') {d:Option Nat} {v:SV Y} (hd:∀x,d=some x->x∈D):OffEq D T (updO T' d v):=by
 intro t ht
 rw [Y1,if_neg (fun e=>ht (hd t e))]
 exact h t ht
theorem OffEq.upd {D:List Nat} {T T':Fr Y} (h:OffEq D T T') {d:Nat} {v:SV Y} (hd:d∈D):OffEq D T (upd T' d v):=by
 intro t ht
 have hne:t≠d:=fun e=>ht (by rw [e];exact hd)
 rw [Zh,if_neg hne]
 exact h t ht
theorem Zcx:∀{ops:List Oper} {o:Oper} {d:Nat},o∈ops->o.dst=some d->d∈Ys ops
 | [],o,d,h,_=>by cases h
 |x::r,o,d,h,e=>by
  unfold Ys
  rcases List.mem_cons.1 h with rfl|h
  · rw [e];simp
  · have:=Zcx h e
    split
    · exact List.mem_cons_of_mem _ this
    · exact this
theorem Uv {T:Fr Y} {j:Nat}:∀{D:List Nat},Vo D T j=if j∈D then .unk else T j
 | []=>by simp [Vo]
 |d::r=>by
  unfold Vo
  rw [Zh,Uv]
  by_cases h:j=d
  · simp [h]
  · simp [h]
theorem Zw2 {D:List Nat} {T T':Fr Y} (h:OffEq D T T'):Vo D T'=Vo D T:=by
 funext t
 rw [Uv,Uv]
 split
 · rfl
 · exact h t (by assumption)
theorem Ztt {N:Nat} {h:Hp Y} {i:Nat} {mks:List Nat} {j0:Nat} {rp:Res Y} {p:Value}:∀{os:List Oper} {j:Nat} {T' T:Fr Y} {ds:List (DR Y)},FrB T' T->QOk E N h i mks j0 rp p os j T' ds->QOk E N h i mks j0 rp p os j T ds
 | [],_,_,_,[],_,_=>trivial
 | [],_,_,_,_::_,_,hq=>hq.elim
 |_::_,_,_,_,[],_,hq=>hq.elim
 |o::os,j,T',T,d::ds,hT,⟨⟨h1,h2⟩,h3⟩=>
  ⟨⟨fun e=>hT.pan (h1 e),fun e hb=>let ⟨a,b,c,d⟩:=h2 e hb;⟨a,b,hT.tri c,d⟩⟩,Ztt (hT.updO _ _) h3⟩
theorem Zpr {all:List Oper} {j d:Nat} (h:Zd4 all j=some d):d∈Ys all:=by
 unfold Zd4 at h
 split at h
 · rename_i o ho
   exact Zcx (List.mem_of_getElem? ho) h
 · cases h
theorem Zls {o:Oper} (hg:o.guard≠none):∀{all:List Oper},o∈all->¬noG all=true
 | [],h=>by cases h
 |x::r,h=>by
  intro hn
  simp only [noG,Bool.and_eq_true] at hn
  rcases List.mem_cons.1 h with rfl|h
  · cases hq:o.guard with
    |none=>exact hg hq
    |some _=>rw [hq] at hn;cases hn.1
  · exact Zls hg h hn.2
theorem Zno (N:Nat) (d:Option Nat):(X1 N d:SV Y)= .unk\/(X1 N d:SV Y)= .val undef:=by
 unfold X1
 split
 · exact .inr rfl
 · exact .inl rfl
theorem Znp {N:Nat} {d:Option Nat} (h:(X1 N d:SV Y)≠ .unk) {x:Nat} (hx:d=some x):x<N:=by
 unfold X1 at h
 split at h
 · rename_i q
   subst hx
   exact Nat.le_of_ble_eq_true q
 · exact absurd rfl h
theorem FrB.val {T' T:Fr Y} (h:FrB T' T) {d:Nat} {u:Value} (hd:T' d= .val u):T d= .val u:=by
 rcases h d with e|⟨l',x',e1,e2⟩
 · exact e▸hd
 · rw [hd] at e2;cases e2
theorem Ztu {N : Nat} {call : Nat → List (SV Y) → Hp Y → Nat → (Res Y → Prop) → Prop} (hstep : ∀ (o : Oper) T h i k, DomLt h i → step E call o.op T h i k → ∃ r, k r ∧ OpTri2 E o T h i r) (all : List Oper) (mks : List Nat) :
    ∀ (os : List Oper) (j : Nat) (T' T : Fr Y) (h : Hp Y) (i : Nat) (ms : List Nat) (prev : List (Nat × DR Y)) (k : Kont Y) (T0 : Fr Y), (∀ o ∈ os, o ∈ all) → OffEq (Ys all) T0 T' → FrB T' T → DomLt h i → rgnD E N call all mks os j T' h i ms prev k →
      (∃ ds T2, FrB T2 (tD os ds (fun _ => true) T) ∧ POk E all mks os j T h i prev ds ∧ k .normal T2 (memD ds (fun _ => true) h) (iD ds i) (msD ds ms) ∧ (∀ (m : Nat) (o : Oper) (d : DR Y), os[m]? = some o → ds[m]? = some d → d.r.v ≠ .unk → ∀ x, o.dst = some x → x < N)) ∨
      (∃ j0 ds rp p, j ≤ j0 ∧ j0 < j + os.length ∧ noG all = true ∧ Ze1 prev = true ∧ ROk h rp ∧ QOk E N h i mks j0 rp p os j T ds ∧ k (.panic [{ v := p, recovered := false }]) (Vo (Ys all) T0) (patch h i rp) (i + rp.n) (rp.mods ++ ms)) := by
  intro os
  induction os with
  | nil => intro j T' T h i ms prev k T0 _ _ hT hD hk; exact .inl ⟨[], T', hT, trivial, hk, fun m o d h => by simp at h⟩
  | cons o os ih =>
    intro j T' T h i ms prev k T0 hall hoff hT hD hk
    have hall' : ∀ o' ∈ os, o' ∈ all := fun o' ho' => hall o' (List.mem_cons_of_mem _ ho')
    have hdo : ∀ x, o.dst = some x → x ∈ Ys all := fun x hx => Zcx (hall o (by simp)) hx
    have domv : DomLt (Wu h (Xm (nthN mks j) prev)) i := by
      intro b hb
      obtain ⟨x, hx⟩ := Option.ne_none_iff_exists'.1 hb
      exact hD b (by rw [(Zea hx).1]; simp)
    have tail : ∀ (T' : Fr Y) (res : Res Y), OffEq (Ys all) T0 T' → FrB T' T → OpTri2 E o T' (Wu h (Xm (nthN mks j) prev)) i res → (∀ d, Z0 E o T (Wu h (Xm (nthN mks j) prev)) d.i d.r → Zha E all o T (Wu h (Xm (nthN mks j) prev)) d) →
        (match Wt ⟨i, res⟩ (Xm (nthN mks j) prev) with
            | true => keep N o.dst res T' h i ms fun T h i' ms => rgnD E N call all mks os (j + 1) T h i' ms ((j, ⟨i, res⟩) :: prev) k
            | false => False) →
        (∃ ds T2, FrB T2 (tD (o :: os) ds (fun _ => true) T) ∧ POk E all mks (o :: os) j T h i prev ds ∧ k .normal T2 (memD ds (fun _ => true) h) (iD ds i) (msD ds ms) ∧ (∀ (m : Nat) (o' : Oper) (d : DR Y), (o :: os)[m]? = some o' → ds[m]? = some d → d.r.v ≠ .unk → ∀ x, o'.dst = some x → x < N)) ∨
        (∃ j0 ds rp p, j ≤ j0 ∧ j0 < j + (o :: os).length ∧ noG all = true ∧ Ze1 prev = true ∧ ROk h rp ∧ QOk E N h i mks j0 rp p (o :: os) j T ds ∧ k (.panic [{ v := p, recovered := false }]) (Vo (Ys all) T0) (patch h i rp) (i + rp.n) (rp.mods ++ ms)) := by
      intro T' r hoff hT htri hone hk
      split at hk
      · rename_i hap
        obtain ⟨hk, hlt, hnp⟩ := Z0i hD hk
        have htri := hT.tri (htri.tri hnp)
        have hR : ROk h r := fun b hb => by
          obtain ⟨x, hx⟩ := Option.ne_none_iff_exists'.1 (htri.1 b hb)
          rw [(Zea hx).1]; simp
        rcases ih (j + 1) _ (updO T o.dst r.v) _ _ _ _ k T0 hall' (hoff.updO hdo) (hT.updO _ _) (hD.patch hR) hk with ⟨ds, T2, h0, h1, h2, h3⟩ | ⟨j0, ds, rp, p, g1, g1', g2, g3, g4, g5, g6⟩
        · refine .inl ⟨⟨i, r⟩ :: ds, T2, h0, ⟨⟨rfl, hD, hR, hap, hone ⟨i, r⟩ htri⟩, h1⟩, h2, fun m o' d hm hd hv x hx => ?_⟩
          cases m with
          | zero => obtain rfl : o = o' := by simpa using hm
                    exact hlt x hx
          | succ m => exact h3 m o' d (by simpa using hm) (by simpa using hd) hv x hx
        · obtain ⟨q1, q2, q3⟩ := Zpq g3
          have q1 : r.n = 0 := q1
          have q2 : r.mods = [] := q2
          have hpatch : patch h i r = h := by
            funext b
            rw [Z6, if_neg]
            rw [q1, q2]
            rintro (e | e)
            · simp at e
            · omega
          rw [hpatch] at g4
          rw [hpatch, q1, Nat.add_zero] at g5
          rw [hpatch, q1, q2, Nat.add_zero] at g6
          have hv : Wu h (Xm (nthN mks j) prev) = h := by unfold Wu; rw [Zap q3]
          rw [hv] at htri
          exact .inr ⟨j0, ⟨i, r⟩ :: ds, rp, p, by omega, by simp only [List.length_cons]; omega, g2, q3, g4, ⟨⟨fun e => by omega, fun _ _ => ⟨q1, q2, htri, hlt⟩⟩, g5⟩, g6⟩
      · exact hk.elim
    have run : ∀ (T' : Fr Y), OffEq (Ys all) T0 T' → FrB T' T → (∀ d, Z0 E o T (Wu h (Xm (nthN mks j) prev)) d.i d.r → Zha E all o T (Wu h (Xm (nthN mks j) prev)) d) →
        step E call o.op T' (Wu h (Xm (nthN mks j) prev)) i (fun res => (match Wt ⟨i, res⟩ (Xm (nthN mks j) prev) with
            | true => keep N o.dst res T' h i ms fun T h i' ms => rgnD E N call all mks os (j + 1) T h i' ms ((j, ⟨i, res⟩) :: prev) k
            | false => False)) →
        (∃ ds T2, FrB T2 (tD (o :: os) ds (fun _ => true) T) ∧ POk E all mks (o :: os) j T h i prev ds ∧ k .normal T2 (memD ds (fun _ => true) h) (iD ds i) (msD ds ms) ∧ (∀ (m : Nat) (o' : Oper) (d : DR Y), (o :: os)[m]? = some o' → ds[m]? = some d → d.r.v ≠ .unk → ∀ x, o'.dst = some x → x < N)) ∨
        (∃ j0 ds rp p, j ≤ j0 ∧ j0 < j + (o :: os).length ∧ noG all = true ∧ Ze1 prev = true ∧ ROk h rp ∧ QOk E N h i mks j0 rp p (o :: os) j T ds ∧ k (.panic [{ v := p, recovered := false }]) (Vo (Ys all) T0) (patch h i rp) (i + rp.n) (rp.mods ++ ms)) := fun T' hoff hT hone hk => by
      obtain ⟨r, hk, htri⟩ := hstep o T' _ i _ domv hk
      exact tail T' r hoff hT htri hone hk
    unfold rgnD at hk
    split at hk
    · rename_i hg
      obtain ⟨r, hk, htri⟩ := hstep o T' _ i _ domv hk
      split at hk
      · rename_i p hp
        split at hk
        · rename_i hq
          rw [Bool.and_eq_true] at hq
          have hv : Wu h (Xm (nthN mks j) prev) = h := by unfold Wu; rw [Zap hq.2]
          rw [hv] at htri
          obtain ⟨hR, hpan⟩ := htri.pan hp
          obtain ⟨ds, hK, hqs⟩ := Z0j (rp := r) (p := p) hstep hD os (j + 1) (updO T' o.dst .unk) (Nat.lt_succ_self j) hk
          have hK := Ww hD hK
          rw [Zw2 hoff] at hK
          exact .inr ⟨j, ⟨i, Zd [] .unk⟩ :: ds, r, p, Nat.le_refl _, by simp only [List.length_cons]; omega, hq.1, hq.2, hR, ⟨⟨fun _ => hT.pan hpan, fun e => absurd rfl e⟩, Ztt (hT.updO _ _) hqs⟩, hK⟩
        · exact hk.elim
      · exact tail T' r hoff hT htri (fun d hd => by unfold Zha; rw [hg]; exact hd) hk
    · rename_i g b hg
      split at hk
      · rename_i s hs
        split at hk
        · rename_i l x hT0
          have hk := Yv hk
          obtain ⟨l', hTs⟩ := hT.bool hT0
          have hT := hT.fix hT0
          have hoff1 : OffEq (Ys all) T0 (upd T' s (.bool true x)) := hoff.upd (Zpr hs)
          split at hk
          · rename_i hxb
            have hxb : x = b := by simpa using hxb
            exact run _ hoff1 hT (fun d hd => by unfold Zha; rw [hg]; exact ⟨s, hs, .inl ⟨l', x, hTs, hxb, hd⟩⟩) hk
          · rename_i hxb
            have hxb : x ≠ b := by rintro rfl; simp at hxb
            have hp : patch h i (Zd [] (X1 N o.dst)) = h := Xb h i [] (X1 N o.dst)
            have hone : (Zd [] (X1 N o.dst) : Res Y) = Zd [] .unk ∨ (Zd [] (X1 N o.dst) : Res Y) = Zd [] (.val undef) := (Zno N o.dst).imp (congrArg (Zd [])) (congrArg (Zd []))
            rcases ih (j + 1) _ (updO T o.dst (X1 N o.dst)) _ _ _ _ k T0 hall' (hoff1.updO hdo) (hT.updO _ _) hD hk with ⟨ds, T2, h0, h1, h2, h3⟩ | ⟨j0, ds, rp, p, g1, g1', g2, g3, g4, g5, g6⟩
            case inr => exact absurd g2 (Zls (by rw [hg]; simp) (hall o (by simp)))
            refine .inl ⟨⟨i, Zd [] (X1 N o.dst)⟩ :: ds, T2, h0, ⟨⟨rfl, hD, fun b hb => by simp [Zd] at hb, Zbe i _, by unfold Zha; rw [hg]; exact ⟨s, hs, .inr ⟨.inl ⟨l', x, hTs, hxb⟩, hone⟩⟩⟩, ?_⟩, ?_, fun m o' d hm hd hv x hx => ?_⟩
            · show POk E all mks os (j + 1) _ (patch h i (Zd [] (X1 N o.dst))) _ _ ds
              rw [hp]; exact h1
            · show k .normal T2 (memD ds _ (patch h i (Zd [] (X1 N o.dst)))) _ _
              rw [hp]; exact h2
            · cases m with
              | zero => obtain rfl : (⟨i, Zd [] (X1 N o.dst)⟩ : DR Y) = d := by simpa using hd
                        obtain rfl : o = o' := by simpa using hm
                        exact Znp hv hx
              | succ m => exact h3 m o' d (by simpa using hm) (by simpa using hd) hv x hx
        · rename_i u hT0
          split at hk
          · exact hk.elim
          · rename_i hu
            have hp : patch h i (Zd [] (X1 N o.dst)) = h := Xb h i [] (X1 N o.dst)
            have hone : (Zd [] (X1 N o.dst) : Res Y) = Zd [] .unk ∨ (Zd [] (X1 N o.dst) : Res Y) = Zd [] (.val undef) := (Zno N o.dst).imp (congrArg (Zd [])) (congrArg (Zd []))
            rcases ih (j + 1) _ (updO T o.dst (X1 N o.dst)) _ _ _ _ k T0 hall' (hoff.updO hdo) (hT.updO _ _) hD hk with ⟨ds, T2, h0, h1, h2, h3⟩ | ⟨j0, ds, rp, p, g1, g1', g2, g3, g4, g5, g6⟩
            case inr => exact absurd g2 (Zls (by rw [hg]; simp) (hall o (by simp)))
            refine .inl ⟨⟨i, Zd [] (X1 N o.dst)⟩ :: ds, T2, h0, ⟨⟨rfl, hD, fun b hb => by simp [Zd] at hb, Zbe i _, by unfold Zha; rw [hg]; exact ⟨s, hs, .inr ⟨.inr ⟨u, hT.val hT0, hu⟩, hone⟩⟩⟩, ?_⟩, ?_, fun m o' d hm hd hv x hx => ?_⟩
            · show POk E all mks os (j + 1) _ (patch h i (Zd [] (X1 N o.dst))) _ _ ds
              rw [hp]; exact h1
            · show k .normal T2 (memD ds _ (patch h i (Zd [] (X1 N o.dst)))) _ _
              rw [hp]; exact h2
            · cases m with
              | zero => obtain rfl : (⟨i, Zd [] (X1 N o.dst)⟩ : DR Y) = d := by simpa using hd
                        obtain rfl : o = o' := by simpa using hm
                        exact Znp hv hx
              | succ m => exact h3 m o' d (by simpa using hm) (by simpa using hd) hv x hx
        · exact hk.elim
      · exact hk.elim
end
end
section
open Go.RowKit
section
variable {Y:Thy} {E:Eng Y}
def cntF (listed:Array Bool) (n:Nat):Nat:=((List.range n).filter fun j=> !listed.getD j true).length
theorem Zov (listed:Array Bool) (i:Nat) (hs:listed.getD i true=false):∀(L:List Nat),L.Nodup->
 (L.filter fun j=> !(listed.setIfInBounds i true).getD j true).length+(if i∈L then 1 else 0)=(L.filter fun j=> !listed.getD j true).length:=by
 have hb:i<listed.size:=by
  by_cases h:i<listed.size
  · exact h
  · simp [Array.getD,h] at hs
 have hg:∀j,(listed.setIfInBounds i true).getD j true=if j=i then true else listed.getD j true:=by
  intro j
  simp only [Array.getD_eq_getD_getElem?,Array.getElem?_setIfInBounds]
  by_cases h:i=j
  · subst h;simp [hb]
  · rw [if_neg h,if_neg (fun h'=>h h'.symm)]
 intro L
 induction L with
 |nil=>intro _;simp
 |cons x L ih=>
  intro hn
  rw [List.nodup_cons] at hn
  have ih':=ih hn.2
  by_cases hx:x=i
  · subst hx
    rw [if_neg hn.1] at ih'
    simp only [List.filter_cons,hg,if_true,hs,Bool.not_true,Bool.not_false,List.mem_cons,true_or,if_false,List.length_cons]
    simp only [hg] at ih'
    simp at ih'⊢
    exact ih'
  · have hm:(i∈x::L)↔i∈L:=by simp [Ne.symm hx]
    simp only [hm]
    by_cases hl:listed.getD x true=true
    · simp only [List.filter_cons,hg,if_neg hx,hl,Bool.not_true] at ih'⊢
      exact ih'
    · have hl':listed.getD x true=false:=by simpa using hl
      simp only [List.filter_cons,hg,if_neg hx,hl',Bool.not_false,if_true,List.length_cons] at ih'⊢
      omega
theorem Zse (listed:Array Bool) (i n:Nat) (hi:i<n) (hs:listed.getD i true=false):cntF (listed.setIfInBounds i true) n+1=cntF listed n:=by
 have:=Zov listed i hs (List.range n) List.nodup_range
 rw [if_pos (by simpa using hi)] at this
 exact this
theorem Stp.join {i i1 i2 n n1 n2:Nat} {m m1 m2:List Nat} {σ σ1 σ2:Pl} {g g1 g2:GH} {w w1 w2:World} (h:Stp i1 n1 m1 σ g w σ1 g1 w1) (k:Stp i2 n2 m2 σ1 g1 w1 σ2 g2 w2) (a1:i<=i1) (b1:i1+n1<=i+n) (a2:i<=i2) (b2:i2+n2<=i+n)
 (hm1:∀b∈m1,b∈m) (hm2:∀b∈m2,b∈m):Stp i n m σ g w σ2 g2 w2:=by
 have back:∀b∈m2,∀r z,σ1 b=some (r,z)->w.heap.size<=r\/∃b'∈m,∃z',σ b'=some (r,z'):=by
  intro b hb r z hσ
  cases hs:σ b with
  |none=>
   rcases h.blk b r z hs hσ with h1|⟨b',h1,z',h2⟩
   · exact .inl h1
   · exact .inr ⟨b',hm1 b' h1,z',h2⟩
  |some p=>
   have:=h.sig _ _ hs
   rw [hσ] at this
   obtain rfl:=Option.some.inj this
   exact .inr ⟨b,hm2 b hb,z,hs⟩
 refine ⟨h.sig.trans k.sig,?_,h.gle.trans k.gle,?_,?_,?_,Nat.le_trans h.size k.size,k.os.trans h.os,k.tape.trans h.tape,k.output.trans h.output,?_⟩
 · intro b p hb
   rcases k.snew b p hb with h1|h1
   · rcases h.snew b p h1 with h2|h2
     · exact .inl h2
     · right;omega
   · right;omega
 · intro r o v hv
   rcases k.gcnew r o v hv with h1|h1|⟨b,h1,z,h2⟩
   · rcases h.gcnew r o v h1 with h2|h2|⟨b,h2,z,h3⟩
     · exact .inl h2
     · exact .inr (.inl h2)
     · exact .inr (.inr ⟨b,hm1 b h2,z,h3⟩)
   · exact .inr (.inl (Nat.le_trans h.size h1))
   · exact .inr (back b h1 r z h2)
 · intro r es hv
   rcases k.gmnew r es hv with h1|h1
   · exact h.gmnew r es h1
   · exact .inr (Nat.le_trans h.size h1)
 · intro r hr hm
   rw [k.heap r (Nat.lt_of_lt_of_le hr h.size) (fun b hb z hσ=> ?_),h.heap r hr fun b hb z=>hm b (hm1 b hb) z]
   rcases back b hb r z hσ with h1|⟨b',h1,z',h2⟩
   · omega
   · exact hm b' h1 z' h2
 · intro b r z h1 h2
   cases hs:σ1 b with
   |none=>
    rcases k.blk b r z hs h2 with h3|⟨b',h3,z',h4⟩
    · exact .inl (Nat.le_trans h.size h3)
    · exact back b' h3 r z' h4
   |some p=>
    have:=k.sig _ _ hs
    rw [h2] at this
    obtain rfl:=Option.some.inj this
    rcases h.blk b r z h1 hs with h3|⟨b',h3,z',h4⟩
    · exact .inl h3
    · exact .inr ⟨b',hm1 b' h3,z',h4⟩
theorem Inv.sub {B:Nat} {σ:Pl} {h h':Hp Y} {g:GH} {w:World} (hI:Inv E B σ h g w) (hs:∀b x,h' b=some x->h b=some x):Inv E B σ h' g w:=by
 have ne:∀b,h' b≠none->h b≠none:=fun b hb=>by
  obtain ⟨x,hx⟩:=Option.ne_none_iff_exists'.1 hb
  rw [hs b x hx];simp
 exact ⟨hI.gc,hI.gm,fun b x hx=>hI.blk b x (hs b x hx),fun b b' r z z' h1 h2=>hI.inj b b' r z z' (ne b h1) (ne b' h2),hI.base,fun b x r z o v hx=>hI.fz b x r z o v (hs b x hx),fun b x r z hx=>hI.fm b x r z (hs b x hx),hI.glob⟩
theorem Zgo:∀{l1 l2:List Nat},disj l1 l2=true->∀x∈l1,x∉l2
 | [],_,_,x,hx=>by simp at hx
 |y::l1,l2,h,x,hx=>by
  simp only [disj,Bool.and_eq_true,Bool.not_eq_true'] at h
  rcases List.mem_cons.1 hx with rfl|hx
  · intro hm;rw [memB_iff.2 hm] at h;cases h.1
  · exact Zgo h.2 x hx
theorem Zis {d:DR Y}:∀{l:List Nat},U5 d l=true->∀x∈l,¬(d.i<=x/\x<d.i+d.r.n)
 | [],_,x,hx=>by simp at hx
 |y::l,h,x,hx=>by
  simp only [U5,Bool.and_eq_true,Bool.not_eq_true'] at h
  rcases List.mem_cons.1 hx with rfl|hx
  · intro hm;have:d.new x=true:=inNew_iff.2 hm;rw [this] at h;cases h.1
  · exact Zis h.2 x hx
theorem Zbt {b:DR Y}:∀{l:List (DR Y)},Wt b l=true->∀a∈l,Zd5 a b=true
 | [],_,a,ha=>by simp at ha
 |y::l,h,a,ha=>by
  simp only [Wt,Bool.and_eq_true] at h
  rcases List.mem_cons.1 ha with rfl|ha
  · exact h.1
  · exact Zbt h.2 a ha
theorem Zgp {m:Nat} {j:Nat} {d:DR Y}:∀{l:List (Nat×DR Y)},(j,d)∈l->bitB m j=false->d∈Xm m l
 | [],h,_=>by simp at h
 |(j',d')::l,h,hb=>by
  simp only [Xm]
  rcases List.mem_cons.1 h with e|h
  · cases e;rw [hb];simp
  · have:=Zgp h hb
    split<;>simp [this]
theorem Zdm {a b:DR Y} (h:Zd5 a b=true):(∀x∈a.r.mods,x∉b.r.mods)/\(∀x∈b.r.mods,¬(a.i<=x/\x<a.i+a.r.n))/\(∀x,Rd b.r x->x∉a.r.mods)/\(∀x,Rd a.r x->x∉b.r.mods):=by
 simp only [Zd5,Bool.and_eq_true] at h
 obtain ⟨⟨⟨h1,h2⟩,h3⟩,h4⟩:=h
 refine ⟨Zgo h1,Zis h2,?_,?_⟩
 · intro x hx hm
   unfold Rd at hx
   split at hx
   · rename_i hr
     rw [hr] at h3
     cases hq:a.r.mods with
     |nil=>rw [hq] at hm;simp at hm
     |cons y l=>rw [hq] at h3;cases h3
   · rename_i l hr
     rw [hr] at h3
     simp only [Bool.and_eq_true] at h3
     exact Zgo h3.1 x hm hx
 · intro x hx hm
   unfold Rd at hx
   split at hx
   · rename_i hr
     rw [hr] at h4
     cases hq:b.r.mods with
     |nil=>rw [hq] at hm;simp at hm
     |cons y l=>rw [hq] at h4;cases h4
   · rename_i l hr
     rw [hr] at h4
     simp only [Bool.and_eq_true] at h4
     exact Zgo h4.1 x hm hx
theorem Zk1 (m k:Nat):bitB m k=m.testBit k:=by
 unfold bitB Nat.testBit
 show (Nat.beq ((m>>>k)&&&1) 1)=(1&&&(m>>>k) !=0)
 rw [Nat.and_comm 1,Nat.and_one_is_mod]
 rcases Nat.mod_two_eq_zero_or_one (m>>>k) with h|h<;>rw [h]<;>rfl
theorem Zbu {k:Nat} {acc:List Nat}:∀{ws:List Nat},bitB (U4 ws acc) k=true->∃j∈ws,j=k\/bitB (nthN acc j) k=true
 | [],h=>by simp [U4,bitB] at h
 |j::ws,h=>by
  rw [Zk1] at h
  have h':(((1<<<j)|||nthN acc j)|||U4 ws acc).testBit k=true:=h
  rw [Nat.testBit_or,Nat.testBit_or,Bool.or_eq_true,Bool.or_eq_true] at h'
  rcases h' with (h1|h1)|h1
  · refine ⟨j,by simp,.inl ?_⟩
    rw [Nat.one_shiftLeft,Nat.testBit_two_pow] at h1
    simpa using h1
  · exact ⟨j,by simp,.inr (by rw [Zk1];exact h1)⟩
  · obtain ⟨j',h2,h3⟩:=Zbu (ws:=ws) (by rw [Zk1];exact h1)
    exact ⟨j',by simp [h2],h3⟩
theorem Zdn:∀(a b:List Nat) (j:Nat),j<a.length->nthN (a++b) j=nthN a j
 | [],b,j,h=>by simp at h
 |x::a,b,0,h=>rfl
 |x::a,b,j+1,h=>by simpa [nthN] using Zdn a b j (by simpa using h)
theorem Zsf:∀(a:List Nat) (x:Nat) (b:List Nat),nthN (a++x::b) a.length=x
 | [],x,b=>rfl
 |y::a,x,b=>by simpa [nthN] using Zsf a x b
theorem Zit:∀(os:List Oper) (acc:List Nat),∃b,Y5 os acc=acc++b
 | [],acc=>⟨[],by simp [Y5]⟩
 |o::os,acc=>by
  obtain ⟨b,hb⟩:=Zit os (acc++ [U4 (Yg o) acc])
  exact ⟨U4 (Yg o) acc::b,by simp [Y5,hb]⟩
theorem Zna:∀(os:List Oper) (acc:List Nat) (j:Nat) (o:Oper),os[j]? =some o->∃pre,nthN (Y5 os acc) (acc.length+j)=U4 (Yg o) pre/\∀k,k<acc.length+j->nthN pre k=nthN (Y5 os acc) k:=by
 intro os
 induction os with
 |nil=>intro acc j o h;simp at h
 |cons o0 os ih=>
  intro acc j o h
  cases j with
  |zero=>
   obtain rfl:o0=o:=by simpa using h
   obtain ⟨b,hb⟩:=Zit os (acc++ [U4 (Yg o0) acc])
   refine ⟨acc,?_,fun k hk=> ?_⟩
   · simp only [Y5,hb,List.append_assoc,List.singleton_append,Nat.add_zero];exact Zsf _ _ _
   · simp only [Y5,hb,List.append_assoc,List.singleton_append]
     rw [Zdn _ _ _ (by simpa using hk)]
  |succ j=>
   obtain ⟨pre,h1,h2⟩:=ih (acc++ [U4 (Yg o0) acc]) j o (by simpa using h)
   simp only [List.length_append,List.length_singleton] at h1 h2
   exact ⟨pre,by rw [show acc.length+(j+1)=acc.length+1+j by omega];exact h1,fun k hk=>h2 k (by omega)⟩
theorem Zgq {j:Nat}:∀{l:List Nat},Zth j l=true->∀x∈l,x<j
 | [],_,x,hx=>by simp at hx
 |y::l,h,x,hx=>by
  simp only [Zth,Bool.and_eq_true] at h
  rcases List.mem_cons.1 hx with rfl|hx
  · exact Yn h.1
  · exact Zgq h.2 x hx
theorem Zac {all:List Oper} {b:Oper} {m:Nat}:∀{l:List Oper} {i k:Nat} {a:Oper},Ut all b m l i=true->l[k]? =some a->bitB m (i+k)=true\/Zfl all a b=true
 | [],i,k,a,_,h=>by simp at h
 |x::l,i,0,a,h,hk=>by
  obtain rfl:x=a:=by simpa using hk
  simp only [Ut,Bool.and_eq_true,Bool.or_eq_true] at h
  exact h.1
 |x::l,i,k+1,a,h,hk=>by
  simp only [Ut,Bool.and_eq_true] at h
  have:=Zac (k:=k) h.2 (by simpa using hk)
  rwa [show i+1+k=i+(k+1) by omega] at this
theorem Vv {all:List Oper} {ms:List Nat}:∀{l:List Oper} {j k:Nat} {b:Oper},Zcc all ms l j=true->l[k]? =some b->Zth (j+k) (Yg b)=true/\Ut all b (nthN ms (j+k)) (all.take (j+k)) 0=true
 | [],j,k,b,_,h=>by simp at h
 |x::l,j,0,b,h,hk=>by
  obtain rfl:x=b:=by simpa using hk
  simp only [Zcc,Bool.and_eq_true] at h
  exact h.1
 |x::l,j,k+1,b,h,hk=>by
  simp only [Zcc,Bool.and_eq_true] at h
  have:=Vv (k:=k) h.2 (by simpa using hk)
  rwa [show j+1+k=j+(k+1) by omega] at this
theorem Zsg {all:List Oper} {mks:List Nat}:∀{os:List Oper} {j:Nat} {T:Fr Y} {h:Hp Y} {i:Nat} {prev:List (Nat×DR Y)} {ds:List (DR Y)},POk E all mks os j T h i prev ds->os.length=ds.length
 | [],_,_,_,_,_,[],_=>rfl
 |_::os,_,_,_,_,_,_::ds,h=>by simp [Zsg h.2]
theorem Zwi {all:List Oper} {mks:List Nat}:∀{os:List Oper} {j:Nat} {T:Fr Y} {h:Hp Y} {i:Nat} {prev:List (Nat×DR Y)} {ds:List (DR Y)},POk E all mks os j T h i prev ds->
 i<=iD ds i/\∀(m:Nat) (d:DR Y),ds[m]? =some d->i<=d.i/\d.i+d.r.n<=iD ds i/\∀(m':Nat) (d':DR Y),m<m'->ds[m']? =some d'->d.i+d.r.n<=d'.i
 | [],_,_,_,_,_,[],_=>⟨Nat.le_refl _,fun m d h=>by simp at h⟩
 |o::os,j,T,h,i,prev,d0::ds,hp=>by
  obtain ⟨⟨rfl,_⟩,h2⟩:=hp
  obtain ⟨ih1,ih2⟩:=Zwi h2
  simp only [iD]
  refine ⟨by omega,fun m d hm=> ?_⟩
  cases m with
  |zero=>
   obtain rfl:d0=d:=by simpa using hm
   refine ⟨Nat.le_refl _,ih1,fun m' d' hlt hm'=> ?_⟩
   cases m' with
   |zero=>omega
   |succ m'=>exact (ih2 m' d' (by simpa using hm')).1
  |succ m=>
   obtain ⟨a,b,c⟩:=ih2 m d (by simpa using hm)
   refine ⟨by omega,b,fun m' d' hlt hm'=> ?_⟩
   cases m' with
   |zero=>omega
   |succ m'=>exact c m' d' (by omega) (by simpa using hm')
theorem Zsh:∀(ds:List (DR Y)) (ms:List Nat) (m:Nat) (d:DR Y),ds[m]? =some d->∀b∈d.r.mods,b∈msD ds ms
 | [],ms,m,d,h=>by simp at h
 |d0::ds,ms,0,d,h=>by
  obtain rfl:d0=d:=by simpa using h
  intro b hb
  have:∀(ds:List (DR Y)) (ms:List Nat),b∈ms->b∈msD ds ms:=by
   intro ds
   induction ds with
   |nil=>intro ms h;exact h
   |cons d ds ih=>intro ms h;exact ih _ (by simp [h])
  exact this ds _ (by simp [hb])
 |d0::ds,ms,m+1,d,h=>Zsh ds _ m d (by simpa using h)
theorem Zx6 {all : List Oper} {mks : List Nat} : ∀ {os : List Oper} {j0 : Nat} {T : Fr Y} {h : Hp Y} {i : Nat} {prev : List (Nat × DR Y)} {ds : List (DR Y)}, POk E all mks os j0 T h i prev ds → ∀ (m : Nat) (o : Oper) (d : DR Y), os[m]? = some o → ds[m]? = some d →
    ∃ prev', (∀ p ∈ prev, p ∈ prev') ∧ (∀ (m' : Nat) (d' : DR Y), m' < m → ds[m']? = some d' → (j0 + m', d') ∈ prev') ∧ DomLt (memD ds (fun x => Nat.blt x m) h) d.i ∧ ROk (memD ds (fun x => Nat.blt x m) h) d.r ∧
      Wt d (Xm (nthN mks (j0 + m)) prev') = true ∧ Zha E all o (tD os ds (fun x => Nat.blt x m) T) (Wu (memD ds (fun x => Nat.blt x m) h) (Xm (nthN mks (j0 + m)) prev')) d := by
  intro os
  induction os with
  | nil => intro j0 T h i prev ds hp m o d hm; simp at hm
  | cons o0 os ih =>
    intro j0 T h i prev ds hp m o d hm hd
    cases ds with
    | nil => exact hp.elim
    | cons d0 ds =>
      obtain ⟨⟨hi, hD, hR, hA, hO⟩, h2⟩ := hp
      cases m with
      | zero =>
        obtain rfl : o0 = o := by simpa using hm
        obtain rfl : d0 = d := by simpa using hd
        have e1 : memD (d0 :: ds) (fun x => Nat.blt x 0) h = h := by
          have : (fun x => Nat.blt x 0) = fun _ => false := by funext x; rw [← Bool.not_eq_true, Nat.blt, Nat.ble_eq]; omega
          rw [this]; exact Zbx _ _
        have e2 : tD (o0 :: os) (d0 :: ds) (fun x => Nat.blt x 0) T = T := by
          have : (fun x => Nat.blt x 0) = fun _ => false := by funext x; rw [← Bool.not_eq_true, Nat.blt, Nat.ble_eq]; omega
          rw [this]; exact Zbd _ _ _
        rw [e1, e2]
        exact ⟨prev, fun p hp => hp, fun m' d' h => by omega, by rw [hi]; exact hD, hR, hA, hO⟩
      | succ m =>
        obtain ⟨prev', p1, p2, p3⟩ := ih h2 m o d (by simpa using hm) (by simpa using hd)
        have eb : (fun x => Nat.blt (x + 1) (m + 1)) = fun x => Nat.blt x m := by funext x; rfl
        have e1 : memD (d0 :: ds) (fun x => Nat.blt x (m + 1)) h = memD ds (fun x => Nat.blt x m) (patch h i d0.r) := by
          simp only [memD]; rw [eb, hi]; rfl
        have e2 : tD (o0 :: os) (d0 :: ds) (fun x => Nat.blt x (m + 1)) T = tD os ds (fun x => Nat.blt x m) (updO T o0.dst d0.r.v) := by
          simp only [tD]; rw [eb]; rfl
        rw [e1, e2, show j0 + (m + 1) = j0 + 1 + m by omega]
        refine ⟨prev', fun p hp => p1 p (by simp [hp]), fun m' d' hlt hm' => ?_, p3⟩
        cases m' with
        | zero => obtain rfl : d0 = d' := by simpa using hm'
                  exact p1 _ (by simp)
        | succ m' => have := p2 m' d' (by omega) (by simpa using hm')
                     rwa [show j0 + 1 + m' = j0 + (m' + 1) by omega] at this
end
end
section
open Go.RowKit
section
variable {Y:Thy} {E:Eng Y}
theorem Zjd {listed:Array Bool} {n:Nat} (h:cntF listed n=0):∀j,j<n->listed.getD j true=true:=by
 intro j hj
 by_cases hq:listed.getD j true=true
 · exact hq
 · have:j∈(List.range n).filter fun j=> !listed.getD j true:=List.mem_filter.2 ⟨List.mem_range.2 hj,by simp [hq]⟩
   unfold cntF at h
   rw [List.length_eq_zero_iff.1 h] at this
   simp at this
theorem Zje {listed:Array Bool} {n m:Nat} (h:cntF listed n=m+1):∃j,j<n/\listed.getD j true=false/\∀k,k<j->listed.getD k true=true:=by
 have hex:∃j,j<n/\listed.getD j true=false:=by
  have h1:(List.range n).filter (fun j=> !listed.getD j true)≠ []:=fun e=>by unfold cntF at h;rw [e] at h;simp at h
  obtain ⟨j,hj⟩:=List.exists_mem_of_ne_nil _ h1
  obtain ⟨hj1,hj2⟩:=List.mem_filter.1 hj
  exact ⟨j,List.mem_range.1 hj1,by simpa using hj2⟩
 have:∀k,∀j,j<n->listed.getD j true=false->j<=k->∃j,j<n/\listed.getD j true=false/\∀k,k<j->listed.getD k true=true:=by
  intro k
  induction k with
  |zero=>intro j hj h hk;exact ⟨j,hj,h,fun k hk'=>absurd hk' (by omega)⟩
  |succ k ihk=>
   intro j hj h hk
   by_cases hex2:∃i,i<j/\listed.getD i true=false
   · obtain ⟨i,hij,hi⟩:=hex2
     exact ihk i (by omega) hi (by omega)
   · refine ⟨j,hj,h,fun i hi=> ?_⟩
     by_cases h3:listed.getD i true=true
     · exact h3
     · exact absurd ⟨i,hi,by simpa using h3⟩ hex2
 obtain ⟨j,hj,h⟩:=hex
 exact this j j hj h (Nat.le_refl _)
theorem Zby:∀{l:List Operand} {t:Nat},Operand.tmp t∈l->t∈Zcb l
 | [],t,h=>by simp at h
 |x::l,t,h=>by
  rcases List.mem_cons.1 h with rfl|h
  · simp [Zcb]
  · have:=Zby h
    cases x<;>simp [Zcb,this]
theorem Vb {all:List Oper} {a b:Oper} (h:Zfl all a b=true):(∀t,a.dst=some t->t∉Wd all b)/\(∀t,b.dst=some t->t∉Wd all a)/\(∀t,a.dst=some t->b.dst≠some t):=by
 simp only [Zfl,Bool.and_eq_true,Bool.not_eq_true'] at h
 obtain ⟨⟨h1,h2⟩,h3⟩:=h
 refine ⟨fun t ht hm=> ?_,fun t ht hm=> ?_,fun t ht hb=> ?_⟩
 · rw [ht] at h1;simp only [memO] at h1;rw [memB_iff.2 hm] at h1;cases h1
 · rw [ht] at h2;simp only [memO] at h2;rw [memB_iff.2 hm] at h2;cases h2
 · rw [ht,hb] at h3;simp [Z2w] at h3
theorem Zw3 {os:List Oper} {T:Fr Y} {h:Hp Y} {i N:Nat} {ms:List Nat} {ds:List (DR Y)} (hok:Zcc os (Y5 os []) os 0=true) (hp:POk E os (Y5 os []) os 0 T h i [] ds)
 (hlt:∀(m:Nat) (o:Oper) (d:DR Y),os[m]? =some o->ds[m]? =some d->d.r.v≠ .unk->∀x,o.dst=some x->x<N)
 (B:Nat) (σ:Pl) (g:GH) (w:World) (a:Act) (Q:Exit->Act->World->Prop) (hI:Inv E B σ h g w) (hB:B<=w.heap.size) (hfree:∀b,i<=b->b<iD ds i->σ b=none) (hF:FrOk E σ g T a) (hN:a.tmps.size=N)
 (hQ:∀a' w',Aft E B N i (iD ds i) (msD ds ms) σ g w a.defers (tD os ds (fun _=>true) T) (memD ds (fun _=>true) h) a' w'->Q .normal a' w'):wpAny E.P .any os.toArray Q os.toArray.size (Array.replicate os.toArray.size false) a {w with drawn:=w.drawn+1}:=by
 classical
 have hlen:=Zsg hp
 obtain ⟨hii,hids⟩:=Zwi hp
 have hget:∀m o,os[m]? =some o->∃d,ds[m]? =some d:=fun m o hm=>⟨ds[m]'(by rw [<-hlen];exact (gA9.1 hm).1),gB9 _⟩
 have hgetd:∀m d,ds[m]? =some d->∃o,os[m]? =some o:=fun m d hm=>⟨os[m]'(by rw [hlen];exact (gA9.1 hm).1),gB9 _⟩
 have hw_lt:∀m o,os[m]? =some o->∀k∈Yg o,k<m:=fun m o hm k hk=>by
  have:=(Vv hok hm).1
  rw [Nat.zero_add] at this
  exact Zgq this k hk
 have anc:∀(D:Nat->Bool),(∀m o,os[m]? =some o->D m=true->∀k∈Yg o,D k=true)->∀m o,os[m]? =some o->(∀k∈Yg o,D k=true)->∀k,bitB (nthN (Y5 os []) m) k=true->D k=true:=by
  intro D hcl m
  induction m using Nat.strongRecOn with
  |_ m ih=>
   intro o hm hwt k hb
   obtain ⟨pre,h1,h2⟩:=Zna os [] m o hm
   simp only [List.length_nil,Nat.zero_add] at h1 h2
   rw [h1] at hb
   obtain ⟨j,hj,hb⟩:=Zbu hb
   have hjm:=hw_lt m o hm j hj
   rcases hb with rfl|hb
   · exact hwt j hj
   · rw [h2 j hjm] at hb
     have hjl:j<os.length:=by have:=(gA9.1 hm).1;omega
     exact ih j hjm os[j] (gB9 hjl) (hcl j _ (gB9 hjl) (hwt j hj)) k hb
 have pairS:∀m m' o o',m<m'->os[m]? =some o->os[m']? =some o'->bitB (nthN (Y5 os []) m') m=true\/Zfl os o o'=true:=by
  intro m m' o o' hlt' hm hm'
  have:=(Vv hok hm').2
  rw [Nat.zero_add] at this
  have:=Zac (k:=m) (a:=o) this (by rw [List.getElem?_take,if_pos hlt'];exact hm)
  rwa [Nat.zero_add] at this
 have pairD:∀m m' d d' o',m<m'->ds[m]? =some d->ds[m']? =some d'->os[m']? =some o'->bitB (nthN (Y5 os []) m') m=true\/Zd5 d d'=true:=by
  intro m m' d d' o' hlt' hd hd' ho'
  obtain ⟨prev',_,p2,_,_,hA,_⟩:=Zx6 hp m' o' d' ho' hd'
  by_cases hb:bitB (nthN (Y5 os []) m') m=true
  · exact .inl hb
  · right
    rw [Bool.not_eq_true] at hb
    have:=p2 m d hlt' hd
    rw [Nat.zero_add] at this hA
    exact Zbt hA d (Zgp this hb)
 have key:∀(m:Nat) (listed:Array Bool) (a1:Act) (w1:World),listed.size=os.length->cntF listed os.length=m->
  (∀k o,os[k]? =some o->listed.getD k false=true->∀x∈Yg o,listed.getD x false=true)->a1.defers=a.defers->a1.tmps.size=N->
  (∃σ1 g1,Stp i (iD ds i-i) (msD ds ms) σ g w σ1 g1 w1/\Inv E B σ1 (memD ds (fun x=>listed.getD x false) h) g1 w1/\FrOk E σ1 g1 (tD os ds (fun x=>listed.getD x false) T) a1/\
   (∀b,σ1 b≠none->σ b≠none\/∃k d,listed.getD k false=true/\ds[k]? =some d/\d.i<=b/\b<d.i+d.r.n))->
  wpAny E.P .any os.toArray Q m listed a1 w1:=by
  intro m
  induction m with
  |zero=>
   intro listed a1 w1 hsz hc hcl hdf hN1 ⟨σ1,g1,hS,hI1,hF1,_⟩
   have hall:=Zjd hc
   have hall':∀k,k<os.length->listed.getD k false=true:=by
    intro k hk
    have:=hall k hk
    rw [Array.getD_eq_getD_getElem?,Array.getElem?_eq_getElem (by omega)] at this⊢
    exact this
   refine ⟨?_,?_⟩
   · unfold Region.ready
     rw [List.filter_eq_nil_iff]
     intro k hk
     have hk':k<os.length:=by simpa using hk
     rw [hall k hk']
     simp
   · refine hQ a1 w1 ⟨hdf,hN1,σ1,g1,hS,?_,?_⟩
     · have:memD ds (fun _=>true) h=memD ds (fun x=>listed.getD x false) h:=by
        funext b
        exact Uu ds _ _ h h b (fun k d hk _=>(hall' k (by rw [hlen];exact (gA9.1 hk).1)).symm) rfl
       rw [this];exact hI1
     · have:tD os ds (fun _=>true) T=tD os ds (fun x=>listed.getD x false) T:=by
        funext t
        exact Zbc os ds _ _ T T t (fun k o hk _=>(hall' k (gA9.1 hk).1).symm) rfl
       rw [this];exact hF1
  |succ m ih=>
   intro listed a1 w1 hsz hc hcl hdf hN1 ⟨σ1,g1,hS,hI1,hF1,htrack⟩
   have hge:∀j,j<os.length->listed.getD j false=listed.getD j true:=by
    intro j hj
    rw [Array.getD_eq_getD_getElem?,Array.getD_eq_getD_getElem?,Array.getElem?_eq_getElem (by omega)]
    rfl
   obtain ⟨j0,hj0,hf0,hbef⟩:=Zje hc
   have hr0:j0∈Region.ready .any os.toArray listed:=by
    refine List.mem_filter.2 ⟨List.mem_range.2 (by simpa using hj0),?_⟩
    rw [hf0]
    rw [show (os.toArray[j0]?)=some os[j0] by simp [hj0]]
    simp only [Option.map_some,Option.getD_some,Bool.not_false,Bool.true_and,Array.all_eq_true,Bool.or_eq_true,Bool.not_eq_true']
    intro e he
    by_cases hbd:Region.binds .any os[j0].after[e]=true
    · right
      have hmem:os[j0].after[e].on∈Yg os[j0]:=by
       unfold Yg
       exact List.mem_map.2 ⟨os[j0].after[e],List.mem_filter.2 ⟨by simp,hbd⟩,rfl⟩
      have:=hw_lt j0 _ (gB9 hj0) _ hmem
      rw [hge _ (by omega)]
      exact hbef _ this
    · left;simpa using hbd
   refine ⟨fun e=>absurd hr0 (by rw [e];simp),fun j hj=> ?_⟩
   obtain ⟨hj1,hj2⟩:=List.mem_filter.1 hj
   have hjl:j<os.length:=by simpa using List.mem_range.1 hj1
   rw [show (os.toArray[j]?)=some os[j] by simp [hjl]] at hj2
   simp only [Option.map_some,Option.getD_some,Bool.and_eq_true,Bool.not_eq_true',Array.all_eq_true,Bool.or_eq_true] at hj2
   obtain ⟨hjf,hje⟩:=hj2
   have hoj:os[j]? =some os[j]:=gB9 hjl
   generalize ho:os[j]=o at hoj hje
   obtain ⟨d,hdj⟩:=hget j o hoj
   have hjD:listed.getD j false=false:=by rw [hge j hjl];exact hjf
   have hwt:∀k∈Yg o,listed.getD k false=true:=by
    intro k hk
    unfold Yg at hk
    obtain ⟨e,he,rfl⟩:=List.mem_map.1 hk
    obtain ⟨he1,he2⟩:=List.mem_filter.1 he
    obtain ⟨x,hx,rfl⟩:=List.getElem_of_mem he1
    have hx':x<o.after.size:=by simpa using hx
    rcases hje x hx' with c|c
    · rw [show o.after[x]=o.after.toList[x] by simp] at c;rw [c] at he2;cases he2
    · simpa using c
   obtain ⟨prev',_,p2,hDom,hR,hA,hOne⟩:=Zx6 hp j o d hoj hdj
   rw [Nat.zero_add] at hA hOne
   have p2:∀(m':Nat) (d':DR Y),m'<j->ds[m']? =some d'->(m',d')∈prev':=fun m' d' h1 h2=>by have:=p2 m' d' h1 h2;rwa [Nat.zero_add] at this
   have before:∀k,bitB (nthN (Y5 os []) j) k=true->listed.getD k false=true:=fun k hk=>anc _ hcl j o hoj hwt k hk
   have behind:∀k o',os[k]? =some o'->bitB (nthN (Y5 os []) k) j=true->listed.getD k false=false:=by
    intro k o' hk hb
    cases hq:listed.getD k false with
    |false=>rfl
    |true=>
     have:=anc _ hcl k o' hk (hcl k o' hk hq) j hb
     rw [hjD] at this;cases this
   have hslot:∀t∈Wd os o,tD os ds (fun x=>listed.getD x false) T t=tD os ds (fun x=>Nat.blt x j) T t:=by
    intro t ht
    refine Zbc os ds _ _ T T t (fun k o' hk hkt=> ?_) rfl
    rcases Nat.lt_trichotomy k j with hkj|rfl|hkj
    · rw [show Nat.blt k j=true by rw [Nat.blt,Nat.ble_eq];exact hkj]
      rcases pairS k j o' o hkj hk hoj with c|c
      · exact before k c
      · exact absurd ht ((Vb c).1 t hkt)
    · rw [hjD];symm;rw [<-Bool.not_eq_true,Nat.blt,Nat.ble_eq];omega
    · rw [show Nat.blt k j=false by rw [<-Bool.not_eq_true,Nat.blt,Nat.ble_eq];omega]
      rcases pairS j k o o' hkj hoj hk with c|c
      · exact behind k o' hk c
      · exact absurd ht ((Vb c).2.1 t hkt)
   have hsub:∀b x,(Rd d.r b\/b∈d.r.mods)->Wu (memD ds (fun x=>Nat.blt x j) h) (Xm (nthN (Y5 os []) j) prev') b=some x->memD ds (fun x=>listed.getD x false) h b=some x:=by
    intro b x hrd hv
    obtain ⟨hv1,hv2⟩:=Zea hv
    rw [<-hv1]
    have hblt:=hDom b (by rw [hv1];simp)
    refine Uu ds _ _ h h b (fun k d' hk hw=> ?_) rfl
    rcases Nat.lt_trichotomy k j with hkj|rfl|hkj
    · rw [show Nat.blt k j=true by rw [Nat.blt,Nat.ble_eq];exact hkj]
      by_cases hb:bitB (nthN (Y5 os []) j) k=true
      · exact before k hb
      · rw [Bool.not_eq_true] at hb
        have hun:=Zgp (p2 k d' hkj hk) hb
        have hap:=Zdm (Zbt hA d' hun)
        rcases hw with hw|hw
        · rcases hrd with hrd|hrd
          · exact absurd hw (hap.2.2.1 b hrd)
          · exact absurd hrd (hap.1 b hw)
        · exact absurd hw (hv2 d' hun)
    · rw [hjD];symm;rw [<-Bool.not_eq_true,Nat.blt,Nat.ble_eq];omega
    · rw [show Nat.blt k j=false by rw [<-Bool.not_eq_true,Nat.blt,Nat.ble_eq];omega]
      obtain ⟨o',ho'⟩:=hgetd k d' hk
      rcases pairD j k d d' o' hkj hdj hk ho' with c|c
      · exact behind k o' ho' c
      · have hap:=Zdm c
        rcases hw with hw|hw
        · rcases hrd with hrd|hrd
          · exact absurd hw (hap.2.2.2 b hrd)
          · exact absurd hw (hap.1 b hrd)
        · have:=(hids j d hdj).2.2 k d' hkj hk
          omega
   have hset:∀x,(listed.setIfInBounds j true).getD x false=if x=j then true else listed.getD x false:=by
    intro x
    simp only [Array.getD_eq_getD_getElem?,Array.getElem?_setIfInBounds]
    by_cases c:j=x
    · subst c;simp [hsz,hjl]
    · rw [if_neg c,if_neg (fun h'=>c h'.symm)]
   have hsetf:(fun x=>(listed.setIfInBounds j true).getD x false)=fun x=>if x=j then true else listed.getD x false:=funext hset
   have hmemD:memD ds (fun x=>(listed.setIfInBounds j true).getD x false) h=patch (memD ds (fun x=>listed.getD x false) h) d.i d.r:=by
    funext b
    rw [hsetf]
    refine Zw0 b ds _ h j d hdj hjD fun hw k d' hjk hk hw'=> ?_
    obtain ⟨o',ho'⟩:=hgetd k d' hk
    rcases pairD j k d d' o' hjk hdj hk ho' with c|c
    · exact behind k o' ho' c
    · have hap:=Zdm c
      have hii2:=(hids j d hdj).2.2 k d' hjk hk
      exfalso
      rcases hw with hw|hw
      · rcases hw' with hw'|hw'
        · exact hap.1 b hw hw'
        · have:=hDom b (hR b hw);omega
      · rcases hw' with hw'|hw'
        · exact hap.2.1 b hw' hw
        · omega
   have htD:tD os ds (fun x=>(listed.setIfInBounds j true).getD x false) T=updO (tD os ds (fun x=>listed.getD x false) T) o.dst d.r.v:=by
    funext t
    rw [hsetf]
    refine Zyd t os ds _ T j o d hoj hdj hjD fun hw k o' hjk hk hw'=> ?_
    rcases pairS j k o o' hjk hoj hk with c|c
    · exact behind k o' hk c
    · exact absurd hw' ((Vb c).2.2 t hw)
   have hfreej:∀b,d.i<=b->b<d.i+d.r.n->σ1 b=none:=by
    intro b h1 h2
    cases hq:σ1 b with
    |none=>rfl
    |some p=>
     exfalso
     have hr:=hids j d hdj
     rcases htrack b (by rw [hq];simp) with c|⟨k,d',c1,c2,c3,c4⟩
     · exact c (hfree b (by omega) (by omega))
     · rcases Nat.lt_trichotomy k j with hkj|rfl|hkj
       · have:=(hids k d' c2).2.2 j d hkj hdj;omega
       · rw [hjD] at c1;cases c1
       · have:=hr.2.2 k d' hkj c2;omega
   have hrange:=hids j d hdj
   have rest:∀(a2:Act) (w2:World) (σ2:Pl) (g2:GH),a2.defers=a.defers->a2.tmps.size=N->Stp d.i d.r.n d.r.mods σ1 g1 w1 σ2 g2 w2->Inv E B σ2 (patch (memD ds (fun x=>listed.getD x false) h) d.i d.r) g2 w2->
    FrOk E σ2 g2 (updO (tD os ds (fun x=>listed.getD x false) T) o.dst d.r.v) a2->wpAny E.P .any os.toArray Q m (listed.setIfInBounds j true) a2 w2:=by
    intro a2 w2 σ2 g2 k1 k2 k3 k4 k5
    refine ih _ a2 w2 (by simpa using hsz) ?_ ?_ k1 k2 ⟨σ2,g2,?_,?_,?_,?_⟩
    · have:=Zse listed j os.length hjl hjf
      omega
    · intro k o' hk hkD x hx
      rw [hset] at hkD⊢
      by_cases c:k=j
      · subst c
        rw [hoj] at hk;cases hk
        have hxt:=hwt x hx
        split<;>simp [hxt]
      · rw [if_neg c] at hkD
        have hxt:=hcl k o' hk hkD x hx
        split<;>simp [hxt]
    · exact hS.join k3 (Nat.le_refl _) (by omega) (by omega) (by omega) (fun b hb=>hb) (fun b hb=>Zsh ds ms j d hdj b hb)
    · rw [hmemD];exact k4
    · rw [htD];exact k5
    · intro b hb
      obtain ⟨p,hp'⟩:=Option.ne_none_iff_exists'.1 hb
      rcases k3.snew b p hp' with c|c
      · rcases htrack b (by rw [c];simp) with c2|⟨k,d',c2,c3⟩
        · exact .inl c2
        · exact .inr ⟨k,d',by rw [hset];split<;>simp [c2],c3⟩
      · exact .inr ⟨j,d,by rw [hset];simp,hdj,c⟩
   have runs:Z0 E o (tD os ds (fun x=>Nat.blt x j) T) (Wu (memD ds (fun x=>Nat.blt x j) h) (Xm (nthN (Y5 os []) j) prev')) d.i d.r->o.wp E.P a1 w1 (wpAny E.P .any os.toArray Q m (listed.setIfInBounds j true)) Q:=by
    intro htri
    have hIh:Inv E B σ1 (fun b=>if Rd d.r b then Wu (memD ds (fun x=>Nat.blt x j) h) (Xm (nthN (Y5 os []) j) prev') b else none) g1 w1:=
     hI1.sub fun b x hx=>by
      by_cases c:Rd d.r b
      · simp only [c,if_true] at hx;exact hsub b x (.inl c) hx
      · simp only [c,if_false] at hx;cases hx
    refine OpPost.wp (htri.2 B σ1 g1 w1 a1.eval _ (fun b hb=>if_pos hb) hIh (Nat.le_trans hB hS.size) hfreej ?_) ?_
    · intro x hx
      cases x with
      |tmp t=>
       have ht:t∈Wd os o:=by
        have:=Zby hx
        unfold Wd
        split
        · exact this
        · split<;>simp [this]
       have:=hF1 t
       rw [hslot t ht] at this
       exact this
      |const v=>exact Xn E σ1 g1 v
      |global n=>exact .val _
      |func f=>exact (FrOk.ev hF1 (.func f))
    · rintro u w2 ⟨σ2,g2,hS2,hI2,hv⟩
      refine rest _ w2 σ2 g2 (by rw [Wi];exact hdf) (by rw [Vi];exact hN1) hS2 ?_ ?_
      · have:=Zdj (r:=⟨d.r.v,d.r.n,d.r.mods,patch (fun b=>if Rd d.r b then Wu (memD ds (fun x=>Nat.blt x j) h) (Xm (nthN (Y5 os []) j) prev') b else none) d.i d.r,d.r.rd⟩) hI1 hI2 hS2 (fun b hb=>by
         obtain ⟨x,hx⟩:=Option.ne_none_iff_exists'.1 (htri.1 b hb)
         rw [hsub b x (.inr hb) hx];simp) hfreej rfl rfl rfl
        have e:patch (memD ds (fun x=>listed.getD x false) h) d.i ⟨d.r.v,d.r.n,d.r.mods,patch (fun b=>if Rd d.r b then Wu (memD ds (fun x=>Nat.blt x j) h) (Xm (nthN (Y5 os []) j) prev') b else none) d.i d.r,d.r.rd⟩=patch (memD ds (fun x=>listed.getD x false) h) d.i d.r:=by
         funext b
         rw [Z6,Z6]
         by_cases c:b∈d.r.mods\/(d.i<=b/\b<d.i+d.r.n)
         · rw [if_pos c,if_pos c];simp only;rw [Z6,if_pos c]
         · rw [if_neg c,if_neg c]
        rw [e] at this;exact this
      · have hF2:=hF1.mono hS2.sig hS2.gle
        by_cases hu:d.r.v= .unk
        · rw [hu]
          cases hdst:o.dst with
          |none=>exact hF2
          |some t=>exact hF2.skip t u
        · cases hdst:o.dst with
          |none=>exact hF2
          |some t=>exact hF2.put (by rw [hN1];exact hlt j o d hoj hdj hu t hdst) hv
   unfold wpOp
   rw [show (os.toArray[j]?)=some o by simp [hjl,ho]]
   simp only
   unfold Zha at hOne
   cases hgd:o.guard with
   |none=>
    rw [hgd] at hOne
    rw [if_pos (by unfold Region.wanted;rw [hgd])]
    exact .inl (runs hOne)
   |some gb=>
    obtain ⟨gi,gv⟩:=gb
    rw [hgd] at hOne
    obtain ⟨s,hs,hcase⟩:=hOne
    have hsr:s∈Wd os o:=by unfold Wd;rw [hgd];simp only;rw [hs];simp
    have hslotv:=hF1 s
    rw [hslot s hsr] at hslotv
    have yieldV:∀y:Option Bool,(match a1.tmps.getD s undef with| .bool x=>some x|_=>none)=y->yielded os.toArray a1.tmps gi=y:=by
     intro y hy
     unfold Zd4 at hs
     split at hs
     · rename_i og hog
       unfold yielded
       rw [Array.getD_eq_getD_getElem?] at hy
       simp only [List.getElem?_toArray,hog,Option.bind_some,hs]
       cases hq:a1.tmps[s]? with
       |none=>rw [hq] at hy;simpa [undef] using hy
       |some u=>rw [hq] at hy;cases u<;>simpa using hy
     · cases hs
    have hc:(Region.wanted o (yielded os.toArray a1.tmps)=true/\Z0 E o (tD os ds (fun x=>Nat.blt x j) T) (Wu (memD ds (fun x=>Nat.blt x j) h) (Xm (nthN (Y5 os []) j) prev')) d.i d.r)\/(¬(Region.wanted o (yielded os.toArray a1.tmps)=true)/\(d.r=Zd [] .unk\/d.r=Zd [] (.val undef))):=by
     rcases hcase with ⟨l,x,hT,hxb,htri⟩|⟨⟨l,x,hT,hxb⟩|⟨u,hT,hu⟩,hr⟩
     · rw [hT] at hslotv
       have yield:=yieldV (some x) (by
        have hv':a1.eval (.tmp s)= .bool x:=by generalize a1.eval (.tmp s)=v at hslotv;cases hslotv;rfl
        have hv':a1.tmps.getD s undef= .bool x:=hv'
        rw [hv'])
       exact .inl ⟨by unfold Region.wanted;rw [hgd];simp [yield,hxb],htri⟩
     · rw [hT] at hslotv
       have yield:=yieldV (some x) (by
        have hv':a1.eval (.tmp s)= .bool x:=by generalize a1.eval (.tmp s)=v at hslotv;cases hslotv;rfl
        have hv':a1.tmps.getD s undef= .bool x:=hv'
        rw [hv'])
       exact .inr ⟨by unfold Region.wanted;rw [hgd];simp [yield,hxb],hr⟩
     · rw [hT] at hslotv
       have yield:=yieldV none (by
        have hv':a1.eval (.tmp s)=u:=by generalize a1.eval (.tmp s)=v at hslotv;cases hslotv;rfl
        have hv':a1.tmps.getD s undef=u:=hv'
        rw [hv']
        cases u<;>first|rfl|(simp [Ztg] at hu))
       exact .inr ⟨by unfold Region.wanted;rw [hgd];simp [yield],hr⟩
    rcases hc with ⟨hw,htri⟩|⟨hw,hr⟩
    · rw [if_pos hw]
      exact .inl (runs htri)
    · rw [if_neg hw]
      refine rest _ w1 σ1 g1 (by rw [Wi];exact hdf) (by rw [Vi];exact hN1) ?_ ?_ ?_
      · rcases hr with hr|hr<;>(rw [hr];exact Stp.refl _ _ _ _)
      · rcases hr with hr|hr<;>(rw [hr,Xb];exact hI1)
      · rcases hr with hr|hr
        · rw [hr]
          cases hdst:o.dst with
          |none=>exact hF1
          |some t=>exact hF1.skip t undef
        · have hlt':=hlt j o d hoj hdj (by rw [hr];intro e;cases e)
          rw [hr]
          cases hdst:o.dst with
          |none=>exact hF1
          |some t=>exact hF1.put (by rw [hN1];exact hlt' t hdst) (.val _)
 have hdr:Inv E B σ h g {w with drawn:=w.drawn+1}:=⟨hI.gc,hI.gm,hI.blk,hI.inj,hI.base,hI.fz,hI.fm,hI.glob⟩
 have:=key os.length (Array.replicate os.length false) a {w with drawn:=w.drawn+1} (by simp) ?_ ?_ rfl hN ⟨σ,g,?_,?_,?_,fun b hb=> .inl hb⟩
 · simpa using this
 · unfold cntF
   rw [List.filter_eq_self.2,List.length_range]
   intro j hj
   have:j<os.length:=List.mem_range.1 hj
   simp [Array.getD,this]
 · intro k o hk hkD
   have:k<os.length:=(gA9.1 hk).1
   simp [Array.getD,this] at hkD
 · exact (⟨.refl _,fun _ _ h=> .inl h,.refl _,fun _ _ _ h=> .inl h,fun _ _ h=> .inl h,fun _ _ _=>rfl,Nat.le_refl _,rfl,rfl,rfl,fun _ _ _ h k=>by rw [h] at k;cases k⟩)
 · have:(fun x=>(Array.replicate os.length false).getD x false)=fun _=>false:=by
    funext x
    by_cases c:x<os.length<;>simp [Array.getD,c]
   rw [this,Zbx];exact hdr
 · have:(fun x=>(Array.replicate os.length false).getD x false)=fun _=>false:=by
    funext x
    by_cases c:x<os.length<;>simp [Array.getD,c]
   rw [this,Zbd];exact hF
theorem Zw4 (hmix:E.P.follows .mixedOrders=true) {os:List Oper} {T:Fr Y} {h:Hp Y} {i N:Nat} {ms:List Nat} {ds:List (DR Y)} (hok:Zcc os (Y5 os []) os 0=true) (hp:POk E os (Y5 os []) os 0 T h i [] ds)
 (hlt:∀(m:Nat) (o:Oper) (d:DR Y),os[m]? =some o->ds[m]? =some d->d.r.v≠ .unk->∀x,o.dst=some x->x<N) (id:Nat)
 (B:Nat) (σ:Pl) (g:GH) (w:World) (a:Act) (Q:Exit->Act->World->Prop) (hI:Inv E B σ h g w) (hB:B<=w.heap.size) (hfree:∀b,i<=b->b<iD ds i->σ b=none) (hF:FrOk E σ g T a) (hN:a.tmps.size=N)
 (hQ:∀a' w',Aft E B N i (iD ds i) (msD ds ms) σ g w a.defers (tD os ds (fun _=>true) T) (memD ds (fun _=>true) h) a' w'->Q .normal a' w'):(Code.region id os.toArray true).wp E.P Q a w:=wp_region_any hmix (Zw3 hok hp hlt B σ g w a Q hI hB hfree hF hN hQ)
theorem Ztv {all:List Oper} {mks:List Nat}:∀{os:List Oper} {j:Nat} {T:Fr Y} {h:Hp Y} {i:Nat} {prev:List (Nat×DR Y)} {ds:List (DR Y)},DomLt h i->POk E all mks os j T h i prev ds->
 Dom h i (memD ds (fun _=>true) h) (iD ds i)/\∀ms,∃m,msD ds ms=m++ms/\Y4 h i (iD ds i) m
 | [],_,_,_,_,_,[],hD,_=>⟨⟨hD,fun b hb=> .inl hb⟩,fun ms=>⟨[],rfl,fun b hb=>by simp at hb⟩⟩
 |o::os,j,T,h,i,prev,d::ds,hD,hp=>by
  obtain ⟨⟨rfl,_,hR,_,_⟩,h2⟩:=hp
  obtain ⟨ih1,ih2⟩:=Ztv (hD.patch hR) h2
  have hii:=(Zwi h2).1
  have hup:∀b,patch h d.i d.r b≠none->h b≠none\/d.i<=b:=by
   intro b h1
   rw [Z6] at h1
   split at h1
   · rename_i c
     rcases c with c|c
     · exact .inl (hR b c)
     · exact .inr c.1
   · exact .inl h1
  refine ⟨⟨ih1.1,fun b hb=> ?_⟩,fun ms=> ?_⟩
  · rcases ih1.2 b hb with c|c
    · exact hup b c
    · right;omega
  · obtain ⟨m,h3,h4⟩:=ih2 (d.r.mods++ms)
    refine ⟨m++d.r.mods,by simp [msD,h3],fun b hb=> ?_⟩
    simp only [iD]
    rcases List.mem_append.1 hb with hb|hb
    · rcases h4 b hb with c|c
      · rw [Z6] at c
        split at c
        · rename_i c'
          rcases c' with c'|c'
          · exact .inl (hR b c')
          · right;omega
        · exact .inl c
      · right;omega
    · exact .inl (hR b hb)
end
end
end Go.Proofs.YtbaeahmhdfdndaaGreatDoor
end
