/- Merged texts: TtS, TtD, TvX, TtE, TvLay, TtG, TtF, TtH, TtI, TtJ, TtK, TtM, TtN, TtR, TtB, EngZI, TtC, TtL, TtP, TtU, EngZJ, TpA, TpB, TpC, TpD. -/
import Derived.Shelf.Strings.SlTrimAscii
import Derived.Shelf.Strings.OnBuilder
import Derived.Shelf.Strconv.Itoa0
import Derived.Shelf.Strconv.Itoa1
import Derived.Test.YtddgkebdlgglaaaGreatDoorProg
import Derived.Test.YtddgkebdlgglaaaGreatDoorMc
namespace Go.Proofs.YtddgkebdlgglaaaGreatDoor
set_option linter.unusedVariables false
set_option linter.unusedSimpArgs false
set_option linter.unnecessarySimpa false
set_option maxRecDepth 100000
section
open Go
theorem Ex.eta (x:Ex):Ex.mk x.op x.n x.d0 x.d1 x.d2 x.d3 x.l=x:=by cases x;rfl
theorem Tst.eta (x:Tst):Tst.mk x.attr x.low x.high=x:=rfl
theorem Cls.eta (x:Cls):Cls.mk x.name x.when_ x.pay=x:=rfl
def Ex.u (x:Ex):List Int:= [x.d0,x.d1,x.d2,x.d3]
mutual
def Ex.sz:Ex->Nat
 | .mk _ _ _ _ _ _ l=>Ex.szL l+1
def Ex.szL:List Ex->Nat
 | []=>0
 |x::r=>x.sz+Ex.szL r
end
theorem Ex.sz_eq (x:Ex):x.sz=Ex.szL x.l+1:=by cases x;simp only [Ex.sz,Ex.l]
theorem Ex.sz_pos (x:Ex):0<x.sz:=by rw [Ex.sz_eq];omega
theorem Ex.szL_mem:∀{l:List Ex} {x:Ex},x∈l->x.sz<=Ex.szL l
 |y::r,x,h=>by
  rw [Ex.szL]
  rcases List.mem_cons.1 h with rfl|h
  · omega
  · have:=Ex.szL_mem h;omega
theorem Ex.sz_mem {x y:Ex} (h:y∈x.l):y.sz<x.sz:=by
 have:=Ex.szL_mem h
 rw [Ex.sz_eq x];omega
theorem Ex.szL_len:∀(l:List Ex),l.length<=Ex.szL l
 | []=>Nat.le_refl _
 |x::r=>by
  have:=Ex.szL_len r
  have:=x.sz_pos
  rw [Ex.szL,List.length_cons];omega
mutual
def Zy:Ex->Nat
 | .mk _ _ _ _ _ _ l=>Zdp l+1
def Zdp:List Ex->Nat
 | []=>0
 |x::r=>max (Zy x) (Zdp r)
end
theorem Z3b (x:Ex):Zy x=Zdp x.l+1:=by cases x;simp only [Zy,Ex.l]
mutual
theorem Zrn:∀(x:Ex),Zy x<=x.sz
 | .mk _ _ _ _ _ _ l=>by have:=Zro l;simp only [Zy,Ex.sz];omega
theorem Zro:∀(l:List Ex),Zdp l<=Ex.szL l
 | []=>Nat.le_refl _
 |x::r=>by have:=Zrn x;have:=Zro r;simp only [Zdp,Ex.szL];omega
end
def cnt (u:List Int) (n:Int):Nat:=(u.filter fun d=>d==n).length
def Zaj (u:List Int):Bool:=decide (cnt u 0+cnt u 1+cnt u (-1)=4)&&decide (cnt u 1<=1)&&decide (cnt u (-1)<=1)
def Zjk (op:Int):Nat:=if op=1\/op=2 then 0 else if op=11 then 4 else 2
def Z3c (op:Int):Int:=if op=1 then 1099511627776 else if op=2 then 15 else 0
def Zf0 (op n:Int) (u:List Int) (k:Nat):Bool:=
 decide (1<=op)&&decide (op<=11)&&decide (0<=n)&&decide (n<=Z3c op)&&decide (k=Zjk op)&&Zaj u&&(decide (op=1)||decide (u= [0,0,0,0]))
mutual
def Zz:Ex->Bool
 | .mk op n d0 d1 d2 d3 l=>Zf0 op n [d0,d1,d2,d3] l.length&&Vf l
def Vf:List Ex->Bool
 | []=>true
 |x::r=>Zz x&&Vf r
end
theorem Zd6 (x:Ex):Zz x=(Zf0 x.op x.n x.u x.l.length&&Vf x.l):=by cases x;simp only [Zz,Ex.op,Ex.n,Ex.u,Ex.d0,Ex.d1,Ex.d2,Ex.d3,Ex.l]
theorem formL_iff:∀{l:List Ex},Vf l=true↔∀x∈l,Zz x=true
 | []=>by simp [Vf]
 |x::r=>by simp [Vf,formL_iff (l:=r)]
theorem Zt0 {l:List Ex} {k:Nat} {y:Ex} (h:l[k]? =some y):Vf (l.drop k)=(Zz y&&Vf (l.drop (k+1))):=by
 have hk:=(List.getElem?_eq_some_iff.1 h).1
 have:l.drop k=y::l.drop (k+1):=by rw [List.drop_eq_getElem_cons hk];congr 1;exact (List.getElem?_eq_some_iff.1 h).2
 rw [this,Vf]
def Zo8 (n:Int):List Int:=if n=5 then [0,0,0,1] else if n=6 then [0,0,1,0] else if n=7\/n=8 then [0,1,0,0] else if n=10\/n=11 then [1,0,0,0] else [0,0,0,0]
def cmb1 (s a b:Int):Int:=IntKind.i64.wrap (a+IntKind.i64.wrap (s*b))
def in3 (a:Int):Bool:= !(decide (a< -3)||decide (a>3))
def cmb (s:Int) (a b:List Int):Option (List Int):=
 if in3 (cmb1 s (a.getD 0 0) (b.getD 0 0))&&in3 (cmb1 s (a.getD 1 0) (b.getD 1 0))&&in3 (cmb1 s (a.getD 2 0) (b.getD 2 0))&&in3 (cmb1 s (a.getD 3 0) (b.getD 3 0)) then
  some [cmb1 s (a.getD 0 0) (b.getD 0 0),cmb1 s (a.getD 1 0) (b.getD 1 0),cmb1 s (a.getD 2 0) (b.getD 2 0),cmb1 s (a.getD 3 0) (b.getD 3 0)] else none
def Ws (op:Int) (ds:List (List Int)):Option (List Int):=
 if op=5 then cmb 1 (ds.getD 0 []) (ds.getD 1 [])
 else if op=8\/op=9\/op=10 then cmb (-1) (ds.getD 0 []) (ds.getD 1 [])
 else if op=11 then (if ds.getD 0 []=ds.getD 1 []/\ds.getD 2 []=ds.getD 3 [] then some (ds.getD 2 []) else none)
 else if ds.getD 0 []=ds.getD 1 [] then some (ds.getD 0 []) else none
mutual
def V9:Ex->Option (List Int)
 | .mk op n d0 d1 d2 d3 l=>if op=1 then some [d0,d1,d2,d3] else if op=2 then some (Zo8 n) else (X8 l).bind (Ws op)
def X8:List Ex->Option (List (List Int))
 | []=>some []
 |x::r=>(V9 x).bind fun d=>(X8 r).bind fun ds=>some (d::ds)
end
theorem Z3d (x:Ex):V9 x=if x.op=1 then some x.u else if x.op=2 then some (Zo8 x.n) else (X8 x.l).bind (Ws x.op):=by
 cases x
 rw [V9]
 rfl
def Is4 (d:List Int):Prop:=∃a b c e,d= [a,b,c,e]
theorem Z8o (n:Int):Is4 (Zo8 n):=by
 unfold Zo8
 split
 · exact ⟨_,_,_,_,rfl⟩
 split
 · exact ⟨_,_,_,_,rfl⟩
 split
 · exact ⟨_,_,_,_,rfl⟩
 split<;>exact ⟨_,_,_,_,rfl⟩
theorem Ybt {s:Int} {a b d:List Int} (h:cmb s a b=some d):Is4 d:=by
 unfold cmb at h
 split at h
 · cases h;exact ⟨_,_,_,_,rfl⟩
 · cases h
theorem unitL_cons {x:Ex} {r:List Ex} {ds:List (List Int)}:X8 (x::r)=some ds↔∃d ds',V9 x=some d/\X8 r=some ds'/\ds=d::ds':=by
 rw [X8]
 simp only [Option.bind_eq_some_iff,Option.some.injEq]
 constructor
 · rintro ⟨d,h1,ds',h2,rfl⟩;exact ⟨d,ds',h1,h2,rfl⟩
 · rintro ⟨d,ds',h1,h2,rfl⟩;exact ⟨d,h1,ds',h2,rfl⟩
theorem Zf1:∀{l:List Ex} {ds:List (List Int)},X8 l=some ds->ds.length=l.length
 | [],ds,h=>by simp only [X8] at h;cases h;rfl
 |x::r,ds,h=>by
  obtain ⟨d,ds',_,h2,rfl⟩:=unitL_cons.1 h
  simp [Zf1 h2]
theorem Z8p {op:Int} {ds:List (List Int)} {d:List Int} (h:Ws op ds=some d) (h4:∀i,i<(if op=11 then 4 else 2)->Is4 (ds.getD i [])):Is4 d:=by
 unfold Ws at h
 split at h
 · exact Ybt h
 · split at h
   · exact Ybt h
   · split at h
     · rename_i h11
       split at h
       · cases h
         exact h4 2 (by rw [if_pos h11];omega)
       · cases h
     · rename_i h11
       split at h
       · cases h
         exact h4 0 (by rw [if_neg h11];omega)
       · cases h
mutual
theorem Zo9:∀(x:Ex) {d:List Int},Zz x=true->V9 x=some d->Is4 d
 | .mk op n d0 d1 d2 d3 l,d,hf,h=>by
  rw [V9] at h
  split at h
  · cases h;exact ⟨_,_,_,_,rfl⟩
  · split at h
    · cases h;exact Z8o n
    · rename_i h1 h2
      obtain ⟨ds,hds,h⟩:=Option.bind_eq_some_iff.1 h
      refine Z8p h fun i hi=> ?_
      simp only [Zz,Bool.and_eq_true] at hf
      have hl:=Zzn l hf.2 hds
      have hlen:=Zf1 hds
      have ha:l.length=Zjk op:=by
       have:=hf.1
       simp only [Zf0,Bool.and_eq_true,decide_eq_true_eq] at this
       exact this.1.1.2
      unfold Zjk at ha
      rw [if_neg (by omega)] at ha
      have:i<ds.length:=by rw [hlen,ha];exact hi
      rw [List.getD_eq_getElem?_getD,List.getElem?_eq_getElem this]
      exact hl _ (List.getElem_mem this)
theorem Zzn:∀(l:List Ex) {ds:List (List Int)},Vf l=true->X8 l=some ds->∀d∈ds,Is4 d
 | [],ds,_,h=>by simp only [X8] at h;cases h;simp
 |x::r,ds,hf,h=>by
  simp only [Vf,Bool.and_eq_true] at hf
  obtain ⟨d,ds',h1,h2,rfl⟩:=unitL_cons.1 h
  intro e he
  rcases List.mem_cons.1 he with rfl|he
  · exact Zo9 x hf.1 h1
  · exact Zzn r hf.2 h2 e he
end
end
section
open Go
def exA (x:Ex):SV thy:= .agg (encF false .exprs x)
noncomputable def dExp:DcL E (Ex×Unit):= .cons (dR .exprs) .nil
noncomputable def Z6m:DcL E (Ex×Int×Unit):= .cons (dR .exprs) (.cons (dInt (E:=E) .i64) .nil)
noncomputable def Ycm (m:Nat):Sum thy:=sumP Z6m (fun x=>x.1.sz<m/\1<=x.2.1/\x.2.1<=1000) fun x=> .int false .i64 (min (x.1.sz:Int) x.2.1)
def Ycn:Fr thy->Hp thy->Nat->Ann thy:=fun T h i=>{X:=DX,fr:=fun x=> [(1,T 1),(2,T 2),(5,.int false .i64 x.j),(6,.int false .i64 x.k)],bl:=fun x=>blkP h (T 2),src:=fun _=> [],md:= [],ih:=i,M:=i+30,meas:=fun x=>x.r}
noncomputable def Yae (m:Nat):Fns thy:=addL (addS F0 47 (Ycm m)) 47 3 Ycn E
abbrev qBA1 (a0:Ex):=(Ex.op a0=Ex.op a0/\Ex.n a0=Ex.n a0/\Ex.d0 a0=Ex.d0 a0/\Ex.d1 a0=Ex.d1 a0/\Ex.d2 a0=Ex.d2 a0/\Ex.d3 a0=Ex.d3 a0/\(Ex.l a0=Ex.l a0/\(false=true->false=true))/\True)
abbrev qBA2 (a0:Ex):=(Ex.mk (Ex.op a0) (Ex.n a0) (Ex.d0 a0) (Ex.d1 a0) (Ex.d2 a0) (Ex.d3 a0) (Ex.l a0))
abbrev qBA3 (a0:DX):=(↑(DX.k a0):Int)
theorem Zwn (m:Nat) (x:Ex) (lim:Int) (v:Int):Zg E F0 (vc E (Yae m) 400) 47 [exA x,.int false .i64 lim] hp0 0 (fun r=>ret E (patch hp0 0 r) r.v (.int false .i64 v))=(
 ∃(R:DX->Prop),(∃(x_1:DX),R x_1/\true=true/\(lim=lim/\(0:Nat)=(0:Nat)/\(1:Int)=DX.j x_1/\(0:Int)=(qBA3 x_1)/\True)/\(qBA1 x)/\True)/\∀(x_1:DX),R x_1->∃(Q:Bool->Prop),((decide ((qBA3 x_1)<(↑(List.length (Ex.l x)):Int))=true->(decide (DX.j x_1<lim)=true->Q true)/\(decide (DX.j x_1<lim)=false->Q false))/\(decide ((qBA3 x_1)<(↑(List.length (Ex.l x)):Int))=false->Q false))/\(Q true->(0:Int)<=(qBA3 x_1)/\(qBA3 x_1)+(1:Int)<=(↑(List.length (Ex.l x)):Int)/\∀(x_2:Ex),(Ex.l x)[Int.toNat (qBA3 x_1)]? =some x_2->(Ex.sz (qBA2 x_2)+(1:Nat)<=m/\(1:Int)<=wr IntKind.i64 (lim-DX.j x_1)/\wr IntKind.i64 (lim-DX.j x_1)<=(1000:Int))/\∃(x':DX),R x'/\x'.2+(1:Nat)<=x_1.2/\true=true/\(lim=lim/\(0:Nat)=(0:Nat)/\wr IntKind.i64 (DX.j x_1+min (↑(Ex.sz (qBA2 x_2)):Int) (wr IntKind.i64 (lim-DX.j x_1)))=DX.j x'/\wr IntKind.i64 ((qBA3 x_1)+(1:Int))=(qBA3 x')/\True)/\(qBA1 x)/\True)/\(Q false->DX.j x_1=v)):=by kernel_rfl
theorem Wb {α:Type} {l:List α} {k:Nat} {y:α} (h:l[k]? =some y):l.drop k=y::l.drop (k+1):=by
 have hk:=(List.getElem?_eq_some_iff.1 h).1
 rw [List.drop_eq_getElem_cons hk];congr 1;exact (List.getElem?_eq_some_iff.1 h).2
theorem Wz {α:Type} {l:List α} {k:Nat} (h:l.length<=k):l.drop k= []:=List.drop_eq_nil_of_le h
theorem Z1d:∀(m:Nat) (x:Ex) (lim:Int),x.sz<=m->1<=lim->lim<=1000->PureC E 47 [exA x,.int false .i64 lim] (.int false .i64 (min (x.sz:Int) lim)):=by
 intro m
 induction m with
 |zero=>intro x lim h;have:=x.sz_pos;omega
 |succ m ih=>
  intro x lim hm h1 h2
  have hF:FnsOk E (Yae (m+1)):=Yc E_ok (Zb F0_ok (Yg E_ok (Zd (f:=47) rfl) fun x h=>ih x.1 x.2.1 (by have:=h.1;omega) h.2.1 h.2.2)) _ _ _
  refine Za E_ok (Yv E_ok F0_ok fun f N c=>(Zdm E_ok hF 400 f N c).1) ?_
  rw [Zwn];delta qBA1 qBA2 qBA3
  simp only [Yn,Z2,W2,W3,W4,beq_iff_eq,bne_iff_ne,beq_eq_false_iff_ne,bne_eq_false_iff_eq,decide_eq_true_eq,decide_eq_false_iff_not,Bool.or_eq_true,Bool.or_eq_false_iff,Bool.not_eq_true',Bool.not_eq_false',Bool.and_eq_true,Bool.and_true,Bool.true_and,Bool.and_eq_false_iff,beq_self_eq_true,Xh,Y2,ne_eq,and_true,true_and,Bool.true_eq_false,Bool.false_eq_true,false_or,or_false,true_implies,imp_self,Int.ofNat_eq_natCast,not_true_eq_false,not_false_eq_true,Decidable.not_not,Ex.eta]
  have hsz:=x.sz_eq
  have hlen:=Ex.szL_len x.l
  refine ⟨fun y=>y.k<=x.l.length/\(y.k:Int)+1<=y.j/\y.j<=lim/\min (y.j+(Ex.szL (x.l.drop y.k):Int)) lim=min (x.sz:Int) lim/\y.r=x.l.length-y.k,⟨⟨0,x.l.length,[],[],0,0,0,1⟩,⟨(by dsimp only;omega),(by dsimp only;omega),h1,by dsimp only;rw [List.drop_zero];omega,rfl⟩,rfl,rfl⟩,?_⟩
  rintro y ⟨hk,hj1,hj2,hv,hr⟩
  refine ⟨fun b=>b=true↔(y.k<x.l.length/\y.j<lim),⟨fun h3=>⟨fun h4=>by simp;omega,fun h4=>by simp;omega⟩,fun h3=>by simp;omega⟩,fun hq=> ?_,fun hq=> ?_⟩
  · have hq:=hq.1 rfl
    refine ⟨by omega,by omega,fun z hz=> ?_⟩
    have hz:x.l[y.k]? =some z:=hz
    have hzs:=Ex.sz_mem (List.mem_of_getElem? hz)
    rw [Wb hz,Ex.szL] at hv
    have hzp:=z.sz_pos
    rw [wr64 (n:=lim-y.j) (by omega) (by omega),wr64 (n:=(y.k:Int)+1) (by omega) (by omega),wr64 (n:=y.j+min (z.sz:Int) (lim-y.j)) (by omega) (by omega)]
    exact ⟨⟨by omega,by omega,by omega⟩,⟨y.k+1,x.l.length-(y.k+1),[],[],0,0,0,y.j+min (z.sz:Int) (lim-y.j)⟩,⟨(by dsimp only;omega),(by dsimp only;omega),(by dsimp only;omega),(by dsimp only;omega),rfl⟩,by show x.l.length-(y.k+1)+1<=y.r;omega,rfl,rfl⟩
  · have hq:¬(y.k<x.l.length/\y.j<lim):=fun h=>by have:=hq.2 h;simp at this
    by_cases h3:y.j<lim
    · rw [Wz (by omega)] at hv
      simp only [Ex.szL] at hv
      omega
    · have:=Int.le_antisymm hj2 (by omega)
      omega
noncomputable def Yco (m:Nat):Sum thy:=sumP dExp (fun x=>x.1.sz<m) fun x=> .int false .i64 (Zy x.1:Int)
def Ycp:Fr thy->Hp thy->Nat->Ann thy:=fun T h i=>{X:=DX,fr:=fun x=> [(3,.int false .i64 x.j),(7,T 7),(8,T 8),(9,.int false .i64 x.k)],bl:=fun x=> [],src:=fun _=> [],md:= [],ih:=i,M:=i+30,meas:=fun x=>x.r}
noncomputable def Yaf (m:Nat):Fns thy:=addL (addS F0 51 (Yco m)) 51 3 Ycp E
theorem Zwo (m:Nat) (x:Ex) (v:Int):Zg E F0 (vc E (Yaf m) 400) 51 [exA x] hp0 0 (fun r=>ret E (patch hp0 0 r) r.v (.int false .i64 v))=(
∃(R:DX->Prop),(∃(x_1:DX),R x_1/\true=true/\((0:Int)=DX.j x_1/\(Ex.l x=Ex.l x/\(false=true->false=true))/\(↑(List.length (Ex.l x)):Int)=(↑(List.length (Ex.l x)):Int)/\(0:Int)=(↑(DX.k x_1):Int)/\True)/\True)/\∀(x_1:DX),R x_1->(decide ((↑(DX.k x_1):Int)<(↑(List.length (Ex.l x)):Int))=true->(0:Int)<=(↑(DX.k x_1):Int)/\(↑(DX.k x_1):Int)+(1:Int)<=(↑(List.length (Ex.l x)):Int)/\∀(x_2:Ex),(Ex.l x)[Int.toNat (↑(DX.k x_1):Int)]? =some x_2->Ex.sz (Ex.mk (Ex.op x_2) (Ex.n x_2) (Ex.d0 x_2) (Ex.d1 x_2) (Ex.d2 x_2) (Ex.d3 x_2) (Ex.l x_2))+(1:Nat)<=m/\∃(x':DX),R x'/\x'.2+(1:Nat)<=x_1.2/\true=true/\(mm2 true (DX.j x_1) (↑(Zy (Ex.mk (Ex.op x_2) (Ex.n x_2) (Ex.d0 x_2) (Ex.d1 x_2) (Ex.d2 x_2) (Ex.d3 x_2) (Ex.l x_2))):Int)=DX.j x'/\(Ex.l x=Ex.l x/\(false=true->false=true))/\(↑(List.length (Ex.l x)):Int)=(↑(List.length (Ex.l x)):Int)/\wr IntKind.i64 ((↑(DX.k x_1):Int)+(1:Int))=(↑(DX.k x'):Int)/\True)/\True)/\(decide ((↑(DX.k x_1):Int)<(↑(List.length (Ex.l x)):Int))=false->wr IntKind.i64 (DX.j x_1+(1:Int))=v)):=by kernel_rfl
theorem Zsi {l:List Ex} {k:Nat} {y:Ex} (h:l[k]? =some y):Zdp (l.drop k)=max (Zy y) (Zdp (l.drop (k+1))):=by rw [Wb h,Zdp]
theorem Z1e:∀(m:Nat) (x:Ex),x.sz<=m->m<=1000000000000->PureC E 51 [exA x] (.int false .i64 (Zy x:Int)):=by
 intro m
 induction m with
 |zero=>intro x h;have:=x.sz_pos;omega
 |succ m ih=>
  intro x hm hb
  have hF:FnsOk E (Yaf (m+1)):=Yc E_ok (Zb F0_ok (Yg E_ok (Zd (f:=51) rfl) fun x h=>ih x.1 (by omega) (by omega))) _ _ _
  refine Za E_ok (Yv E_ok F0_ok fun f N c=>(Zdm E_ok hF 400 f N c).1) ?_
  rw [Zwo]
  simp only [Yn,Z2,W2,W3,W4,beq_iff_eq,bne_iff_ne,beq_eq_false_iff_ne,bne_eq_false_iff_eq,decide_eq_true_eq,decide_eq_false_iff_not,Bool.or_eq_true,Bool.or_eq_false_iff,Bool.not_eq_true',Bool.not_eq_false',Bool.and_eq_true,Bool.and_true,Bool.true_and,Bool.and_eq_false_iff,beq_self_eq_true,Xh,Y2,ne_eq,and_true,true_and,Bool.true_eq_false,Bool.false_eq_true,false_or,or_false,true_implies,imp_self,Int.ofNat_eq_natCast,not_true_eq_false,not_false_eq_true,Decidable.not_not,Ex.eta]
  have hsz:=x.sz_eq
  have hlen:=Ex.szL_len x.l
  have hnx:=Z3b x
  have hns:=Zrn x
  refine ⟨fun y=>y.k<=x.l.length/\0<=y.j/\max y.j (Zdp (x.l.drop y.k):Int)=(Zdp x.l:Int)/\y.r=x.l.length-y.k,⟨⟨0,x.l.length,[],[],0,0,0,0⟩,⟨(by dsimp only;omega),(by dsimp only;omega),by dsimp only;rw [List.drop_zero];omega,rfl⟩,rfl,rfl⟩,?_⟩
  rintro y ⟨hk,hj1,hv,hr⟩
  refine And.intro (fun hq=> ?_) (fun hq=> ?_)
  · refine ⟨by omega,by omega,fun z hz=> ?_⟩
    have hz:x.l[y.k]? =some z:=hz
    have hzs:=Ex.sz_mem (List.mem_of_getElem? hz)
    rw [Zsi hz] at hv
    rw [wr64 (n:=(y.k:Int)+1) (by omega) (by omega)]
    exact ⟨by omega,⟨y.k+1,x.l.length-(y.k+1),[],[],0,0,0,max y.j (Zy z:Int)⟩,⟨(by dsimp only;omega),(by dsimp only;omega),(by dsimp only;omega),rfl⟩,by show x.l.length-(y.k+1)+1<=y.r;omega,rfl,rfl⟩
  · rw [Wz (by omega)] at hv
    simp only [Zdp] at hv
    rw [wr64 (by omega) (by omega)]
    omega
def dimA (a b c d:Int):SV thy:= .agg [.int false .i64 a,.int false .i64 b,.int false .i64 c,.int false .i64 d]
structure WX where
 k:Nat
 r:Nat
 m:List (Int×Int)
noncomputable def Ycq:Fr thy->Hp thy->Nat->Ann thy:=fun T h i=>{X:=WX,fr:=fun x=> [(3,T 3),(7,T 7),(8,.int false .i64 x.k)],bl:=fun x=> [(bOf (T 3),.map (Xd .i64 (X4 E Th.ints false) x.m))],src:=fun _=> [],md:= [bOf (T 3)],ih:=i,M:=i+30,meas:=fun x=>x.r}
noncomputable def Z6n:Fns thy:=addL F0 78 3 Ycq E
noncomputable abbrev qBA4:=(X4 E Th.ints (Zh (TypeDesc.int IntKind.i64)))
noncomputable abbrev qBA7:=(0:Int)
noncomputable abbrev qBA5 (a0:Int) (b0:Int) (c0:Int) (d0:Int):=(List.getD [a0,b0,c0,d0] (0:Nat) qBA7=List.getD [a0,b0,c0,d0] (0:Nat) qBA7/\List.getD [a0,b0,c0,d0] (1:Nat) qBA7=List.getD [a0,b0,c0,d0] (1:Nat) qBA7/\List.getD [a0,b0,c0,d0] (2:Nat) qBA7=List.getD [a0,b0,c0,d0] (2:Nat) qBA7/\List.getD [a0,b0,c0,d0] (3:Nat) qBA7=List.getD [a0,b0,c0,d0] (3:Nat) qBA7/\True)
noncomputable abbrev qBA6:=(X4 E Th.ints false)
noncomputable abbrev qBA8 (a0:WX):=(↑(WX.k a0):Int)
noncomputable abbrev qBA9:=(1:Int)
theorem Zwp (a b c d:Int) (v:Bool):Zg E Z6n (vc E Z6n 400) 78 [dimA a b c d] hp0 0 (fun r=>ret E (patch hp0 0 r) r.v (.bool false v))=(
 (4:Nat)=(4:Nat)/\∃(R:WX->Prop),(∃(x:WX),R x/\true=true/\(True/\(qBA5 a b c d)/\qBA7=(qBA8 x)/\True)/\([]=Xd IntKind.i64 qBA6 (WX.m x)/\true=true)/\True)/\∀(x:WX),R x->(decide ((qBA8 x)<(4:Int))=true->qBA7<=(qBA8 x)/\(qBA8 x)+qBA9<=(↑(4:Nat):Int)/\∀(y:Int),[List.getD [a,b,c,d] (0:Nat) qBA7,List.getD [a,b,c,d] (1:Nat) qBA7,List.getD [a,b,c,d] (2:Nat) qBA7,List.getD [a,b,c,d] (3:Nat) qBA7][Int.toNat (qBA8 x)]? =some y->∃(l:List (Int×Int)),Xd IntKind.i64 qBA6 (WX.m x)=Xd IntKind.i64 qBA4 l/\∀(y_1:Int),y_1=Option.getD (Yu l y) qBA7->∃(l:List (Int×Int)),Xd IntKind.i64 qBA6 (WX.m x)=Xd IntKind.i64 qBA4 l/\∃(x':WX),R x'/\x'.2+(1:Nat)<=x.2/\true=true/\(True/\(qBA5 a b c d)/\wr IntKind.i64 ((qBA8 x)+qBA9)=(qBA8 x')/\True)/\(Xd IntKind.i64 qBA4 (putS l y (wr IntKind.i64 (y_1+qBA9)))=Xd IntKind.i64 qBA6 (WX.m x')/\nidE (0:Nat) (Xd IntKind.i64 qBA4 (putS l y (wr IntKind.i64 (y_1+qBA9))))=true)/\True)/\(decide ((qBA8 x)<(4:Int))=false->∃(l:List (Int×Int)),Xd IntKind.i64 qBA6 (WX.m x)=Xd IntKind.i64 qBA4 l/\∀(y:Int),y=Option.getD (Yu l qBA7) qBA7->∃(l:List (Int×Int)),Xd IntKind.i64 qBA6 (WX.m x)=Xd IntKind.i64 qBA4 l/\∀(y_1:Int),y_1=Option.getD (Yu l qBA9) qBA7->∃(l:List (Int×Int)),Xd IntKind.i64 qBA6 (WX.m x)=Xd IntKind.i64 qBA4 l/\∀(y_2:Int),y_2=Option.getD (Yu l (-1:Int)) qBA7->((wr IntKind.i64 (wr IntKind.i64 (y+y_1)+y_2)==(4:Int))=true->∃(l:List (Int×Int)),Xd IntKind.i64 qBA6 (WX.m x)=Xd IntKind.i64 qBA4 l/\∀(y:Int),y=Option.getD (Yu l qBA9) qBA7->(decide (y<=qBA9)=true->∃(l:List (Int×Int)),Xd IntKind.i64 qBA6 (WX.m x)=Xd IntKind.i64 qBA4 l/\∀(y:Int),y=Option.getD (Yu l (-1:Int)) qBA7->(decide (y<=qBA9)=true->true=v)/\(decide (y<=qBA9)=false->false=v))/\(decide (y<=qBA9)=false->false=v))/\((wr IntKind.i64 (wr IntKind.i64 (y+y_1)+y_2)==(4:Int))=false->false=v))):=by kernel_rfl
theorem Z1f {u:List Int} {k:Nat} {y n:Int} (h:u[k]? =some y):cnt (u.take (k+1)) n=cnt (u.take k) n+(if y=n then 1 else 0):=by
 have hk:=(List.getElem?_eq_some_iff.1 h).1
 have:u.take (k+1)=u.take k++ [y]:=by rw [List.take_succ_eq_append_getElem hk];congr 2;exact (List.getElem?_eq_some_iff.1 h).2
 unfold cnt
 rw [this,List.filter_append,List.length_append]
 by_cases e:y=n<;>simp [e]
theorem Zqh (u:List Int) (n:Int):cnt u n<=u.length:=List.length_filter_le _ _
theorem Z1g:FnsOk E Z6n:=Yc E_ok F0_ok _ _ _
theorem Zwq (a b c d:Int):PureC E 78 [dimA a b c d] (.bool false (Zaj [a,b,c,d])):=by
 refine Za E_ok (Zi E_ok Z1g 400) ?_
 rw [Zwp];delta qBA4 qBA7 qBA5 qBA6 qBA8 qBA9
 simp only [Yn,Z2,W2,W3,W4,beq_iff_eq,bne_iff_ne,beq_eq_false_iff_ne,bne_eq_false_iff_eq,decide_eq_true_eq,decide_eq_false_iff_not,Bool.or_eq_true,Bool.or_eq_false_iff,Bool.not_eq_true',Bool.not_eq_false',Bool.and_eq_true,Bool.and_true,Bool.true_and,Bool.and_eq_false_iff,beq_self_eq_true,Xh,Y2,ne_eq,and_true,true_and,Bool.true_eq_false,Bool.false_eq_true,false_or,or_false,true_implies,imp_self,Int.ofNat_eq_natCast,not_true_eq_false,not_false_eq_true,Decidable.not_not]
 have hc:∀k n,k<=4->cnt ([a,b,c,d].take k) n<=4:=fun k n hk=>Nat.le_trans (Zqh _ _) (by simp;omega)
 refine ⟨fun x=>x.k<=4/\(∀n,(Yu x.m n).getD 0=(cnt ([a,b,c,d].take x.k) n:Int))/\x.r=4-x.k,⟨⟨0,4,[]⟩,⟨(by dsimp only;omega),fun n=>rfl,rfl⟩,rfl,rfl⟩,?_⟩
 rintro x ⟨hk,hm,hr⟩
 refine And.intro (fun hq=>⟨by omega,by omega,fun y hy=>⟨x.m,rfl,fun y1 h1=>⟨x.m,rfl,?_⟩⟩⟩) (fun hq=> ?_)
 · have hy: [a,b,c,d][x.k]? =some y:=hy
   have:=hc x.k y (by omega)
   rw [hm y] at h1
   rw [wr64 (n:=(x.k:Int)+1) (by omega) (by omega),wr64 (n:=y1+1) (by omega) (by omega)]
   refine ⟨⟨x.k+1,3-x.k,putS x.m y (y1+1)⟩,⟨by show x.k+1<=4;omega,fun n=> ?_,by show 3-x.k=4-(x.k+1);omega⟩,by show 3-x.k+1<=x.r;omega,rfl,rfl,Zg0 E_ok _⟩
   show (Yu (putS x.m y (y1+1)) n).getD 0=(cnt ([a,b,c,d].take (x.k+1)) n:Int)
   rw [Ze7,Z1f hy]
   by_cases e:y=n
   · subst e;rw [if_pos rfl,if_pos rfl,h1];simp
   · rw [if_neg e,if_neg e,hm n];simp
 · have hk4:x.k=4:=by omega
   have hm:∀n,(Yu x.m n).getD 0=(cnt [a,b,c,d] n:Int):=fun n=>by rw [hm n,hk4];rfl
   have h0:=Zqh [a,b,c,d] 0
   have h1:=Zqh [a,b,c,d] 1
   have h2:=Zqh [a,b,c,d] (-1)
   simp only [List.length_cons,List.length_nil] at h0 h1 h2
   refine ⟨x.m,rfl,fun y hy=>⟨x.m,rfl,fun y1 hy1=>⟨x.m,rfl,fun y2 hy2=> ?_⟩⟩⟩
   rw [hm] at hy hy1 hy2
   rw [wr64 (n:=y+y1) (by omega) (by omega),wr64 (n:=y+y1+y2) (by omega) (by omega)]
   unfold Zaj
   refine And.intro (fun h3=>⟨x.m,rfl,fun z hz=> ?_⟩) (fun h3=> ?_)
   · rw [hm] at hz
     refine And.intro (fun h4=>⟨x.m,rfl,fun z2 hz2=> ?_⟩) (fun h4=> ?_)
     · rw [hm] at hz2
       refine And.intro (fun h5=> ?_) (fun h5=> ?_)
       · simp;omega
       · symm;simp only [Bool.and_eq_false_iff,decide_eq_false_iff_not];omega
     · symm;simp only [Bool.and_eq_false_iff,decide_eq_false_iff_not];omega
   · symm;simp only [Bool.and_eq_false_iff,decide_eq_false_iff_not];omega
end
section
open Go
noncomputable def dA1 {α:Type} (d:Dc E α):DcL E (α×Unit):= .cons d .nil
noncomputable def dA2 {α β:Type} (d:Dc E α) (e:Dc E β):DcL E (α×β×Unit):= .cons d (dA1 e)
noncomputable def dN:Dc E Int:=dInt .i64
noncomputable def dB:Dc E Bool:=Ycy
noncomputable def dS:Dc E (List Nat):=dStr
noncomputable def dFun (f:Nat):Dc E Unit where
 dec v:=match v with| .fn (.func g) [] []=>(match Nat.beq g f with|true=>some ()|false=>none)|_=>none
 enc _:= .fn (.func f) [] []
 ok v a h:=by
  split at h
  · split at h
    · rename_i e
      obtain rfl:=Nat.eq_of_beq_eq_true e
      exact ⟨rfl,rfl,fun _ _ _ h=>h⟩
    · cases h
  · cases h
theorem tn0:(0:Int).toNat=0:=rfl
theorem tn1:(1:Int).toNat=1:=rfl
theorem tn2:(2:Int).toNat=2:=rfl
theorem tn3:(3:Int).toNat=3:=rfl
theorem cn4:((4:Nat):Int)=4:=rfl
theorem cn16:((16:Nat):Int)=16:=rfl
def eqL:List Nat->List Nat->Bool
 | [],[]=>true
 |x::r,y::l=>Nat.beq x y&&eqL r l
 |_,_=>false
theorem Zam:∀{a b:List Nat},eqL a b=true->a=b
 | [],[],_=>rfl
 |x::r,y::l,h=>by
  simp only [eqL,Bool.and_eq_true] at h
  rw [Nat.eq_of_beq_eq_true h.1,Zam h.2]
 | [],_::_,h=>by cases h
 |_::_,[],h=>by cases h
def dKs (c:List Nat):Dc E Unit where
 dec v:=match v with| .str true s=>(match eqL s c with|true=>some ()|false=>none)|_=>none
 enc _:= .str true c
 ok v a h:=by
  split at h
  · split at h
    · rename_i e
      rw [Zam e]
      exact ⟨rfl,rfl,fun _ _ _ h=>h⟩
    · cases h
  · cases h
theorem Zm5 {σ:Pl} {g:GH} {l:Bool} {s:List Nat} {u:Value} (h:Den E σ g (.str l s) u):Byt s:=by
 cases h
 rename_i b hb
 subst hb
 exact Zne b
theorem Z1h {f:FuncId} {args:List (SV thy)} {v:SV thy} {j:Nat} {l:Bool} {s:List Nat} (hj:args[j]? =some (.str l s)) (h:Byt s->PureC E f args v):PureC E f args v:=by
 intro g w vals hI hd
 have hlt:j<vals.toList.length:=by rw [<-hd.1];exact (List.getElem?_eq_some_iff.1 hj).1
 exact h (Zm5 (hd.2 j _ _ hj (List.getElem?_eq_getElem hlt))) g w vals hI hd
theorem Z6o {P:Prop} {f:FuncId} {args:List (SV thy)} {v:SV thy} {j:Nat} {a:SV thy} (hj:args[j]? =some a) (hP:∀g u,Den E σ0 g a u->P) (h:P->PureC E f args v):PureC E f args v:=by
 intro g w vals hI hd
 have hlt:j<vals.toList.length:=by rw [<-hd.1];exact (List.getElem?_eq_some_iff.1 hj).1
 exact h (hP g _ (hd.2 j _ _ hj (List.getElem?_eq_getElem hlt))) g w vals hI hd
theorem Z1i {g:GH} {th:Th} {l:List (domT th)} {f:Bool} {u:Value} (h:Den E σ0 g (.psl th l f) u):∀x∈l,∀(j:Nat) sv,(encF false th x)[j]? =some sv->∃v,Den E σ0 g sv v:=by
 cases h
 rename_i hd _
 intro x hx j sv hj
 obtain ⟨i,hi⟩:=List.getElem?_of_mem hx
 exact ⟨_,hd i x hi j sv hj⟩
theorem Zgy {v1:SV thy} {s:List Nat} {f:SV thy->Prop} {z:Prop}:∀{ks:List (List Nat)},(∀k∈ks,Byt k)->(s∈ks->f v1)->(s∉ks->z)->X9 false (.str false s) (ks.map fun k=>(Value.string (mkS k),v1)) f z
 | [],_,_,h2=>h2 (by simp)
 |k::ks,hb,h1,h2=>by
  rw [List.map_cons]
  unfold X9
  have hk:toL (mkS k)=k:=hb k (List.mem_cons_self ..)
  simp only [hk]
  refine ⟨fun e=> ?_,fun e=> ?_⟩
  · exact h1 (by rw [eq_of_beq e];exact List.mem_cons_self ..)
  · have e:=ne_of_beq_false e
    exact Zgy (fun k hk=>hb k (List.mem_cons_of_mem _ hk)) (fun h=>h1 (List.mem_cons_of_mem _ h)) (fun h=>h2 fun h'=>by
     rcases List.mem_cons.1 h' with h'|h'
     · exact e h'
     · exact h h')
theorem Z6p {g:GH} {a:SV thy} {vals:Array Value} (h:DenL E σ0 g [a] vals.toList):∃u,vals= #[u]/\Den E σ0 g a u:=by
 obtain ⟨l⟩:=vals
 obtain ⟨h1,h2⟩:=h
 match l,h1,h2 with
 | [u],_,h2=>exact ⟨u,rfl,h2 0 a u rfl rfl⟩
theorem Yag {g:GH} {a b:SV thy} {vals:Array Value} (h:DenL E σ0 g [a,b] vals.toList):∃u v,vals= #[u,v]/\Den E σ0 g a u/\Den E σ0 g b v:=by
 obtain ⟨l⟩:=vals
 obtain ⟨h1,h2⟩:=h
 match l,h1,h2 with
 | [u,v],_,h2=>exact ⟨u,v,rfl,h2 0 a u rfl rfl,h2 1 b v rfl rfl⟩
theorem Z1j {g:GH} {l:List UInt8}:Den E σ0 g (.str false (l.map UInt8.toNat)) (.string ⟨l.toArray⟩):= .str _ (by simp [toL])
end
section
open Go
noncomputable def dDim:DcL E (List Int×Unit):=dA1 (dR .dims)
noncomputable def Z99:Sum thy:=sumP dDim (fun _=>True) fun x=> .bool false (Zaj [x.1.getD 0 0,x.1.getD 1 0,x.1.getD 2 0,x.1.getD 3 0])
theorem Z06:SumOk E 78 Z99:=Yg E_ok (Zd (f:=78) rfl) fun x _=>Zwq _ _ _ _
noncomputable def Yci (m:Nat):Sum thy:=sumP dExp (fun x=>x.1.sz<m) fun x=> .bool false (Zz x.1)
noncomputable def Ycj:Dc E (List Ex):=(Zog (E:=E) Th.exprs:Dc E (List (thy.dom Th.exprs)))
noncomputable def Yck (m:Nat):Sum thy:=sumP (dA2 Ycj (dFun 80)) (fun x=>Ex.szL x.1<m) fun x=> .bool false (!Vf x.1)
def Aidx:Fr thy->Hp thy->Nat->Ann thy:=fun T h i=>{X:=DX,fr:=fun x=> [(0,T 0),(1,T 1),(7,T 7),(8,.int false .i64 x.k)],bl:=fun x=> [],src:=fun _=> [],md:= [],ih:=i,M:=i+30,meas:=fun x=>x.r}
noncomputable def Z6i (m:Nat):Fns thy:=addL (addS F0 50 (Yci m)) 125 2 Aidx E
theorem Zwc (m:Nat) (l:List Ex) (v:Bool):Zg E (Z6i m) (vc E (Z6i m) 400) 79 [.psl Th.exprs l false,.fn (.func 80) [] []] hp0 0 (fun r=>ret E (patch hp0 0 r) r.v (.bool false v))=(
∃(R:DX->Prop),(∃(x:DX),R x/\true=true/\((l=l/\(false=true->false=true))/\(Fn.func (80:FuncId)=Fn.func (80:FuncId)/\True/\True)/\(↑(List.length l):Int)=(↑(List.length l):Int)/\(0:Int)=(↑(DX.k x):Int)/\True)/\True)/\∀(x:DX),R x->(decide ((↑(DX.k x):Int)<(↑(List.length l):Int))=true->(0:Int)<=(↑(DX.k x):Int)/\(↑(DX.k x):Int)+(1:Int)<=(↑(List.length l):Int)/\∀(x_1:Ex),l[Int.toNat (↑(DX.k x):Int)]? =some x_1->Ex.sz (Ex.mk (Ex.op x_1) (Ex.n x_1) (Ex.d0 x_1) (Ex.d1 x_1) (Ex.d2 x_1) (Ex.d3 x_1) (Ex.l x_1))+(1:Nat)<=m/\((!Zz (Ex.mk (Ex.op x_1) (Ex.n x_1) (Ex.d0 x_1) (Ex.d1 x_1) (Ex.d2 x_1) (Ex.d3 x_1) (Ex.l x_1)))=true->(decide ((↑(DX.k x):Int)>=(0:Int))=true->true=v)/\(decide ((↑(DX.k x):Int)>=(0:Int))=false->false=v))/\((!Zz (Ex.mk (Ex.op x_1) (Ex.n x_1) (Ex.d0 x_1) (Ex.d1 x_1) (Ex.d2 x_1) (Ex.d3 x_1) (Ex.l x_1)))=false->∃(x':DX),R x'/\x'.2+(1:Nat)<=x.2/\true=true/\((l=l/\(false=true->false=true))/\(Fn.func (80:FuncId)=Fn.func (80:FuncId)/\True/\True)/\(↑(List.length l):Int)=(↑(List.length l):Int)/\wr IntKind.i64 ((↑(DX.k x):Int)+(1:Int))=(↑(DX.k x'):Int)/\True)/\True))/\(decide ((↑(DX.k x):Int)<(↑(List.length l):Int))=false->false=v)):=by kernel_rfl
theorem Zwd (m:Nat) (hm:m<=1000000000000) (ih:∀x:Ex,x.sz<m->PureC E 50 [exA x] (.bool false (Zz x))) (l:List Ex) (hl:Ex.szL l<m):PureC E 79 [.psl Th.exprs l false,.fn (.func 80) [] []] (.bool false (!Vf l)):=by
 have hF:FnsOk E (Z6i m):=Yc E_ok (Zb F0_ok (Yg E_ok (Zd (f:=50) rfl) fun x h=>ih x.1 h)) _ _ _
 refine Za E_ok (Zi E_ok hF 400) ?_
 rw [Zwc]
 simp only [Yn,Z2,W2,W3,W4,beq_iff_eq,bne_iff_ne,beq_eq_false_iff_ne,bne_eq_false_iff_eq,decide_eq_true_eq,decide_eq_false_iff_not,Bool.or_eq_true,Bool.or_eq_false_iff,Bool.not_eq_true',Bool.not_eq_false',Bool.and_eq_true,Bool.and_true,Bool.true_and,Bool.and_eq_false_iff,beq_self_eq_true,Xh,Y2,ne_eq,and_true,true_and,Bool.true_eq_false,Bool.false_eq_true,false_or,or_false,true_implies,imp_self,Int.ofNat_eq_natCast,not_true_eq_false,not_false_eq_true,Decidable.not_not,Ex.eta]
 have hlen:=Ex.szL_len l
 refine ⟨fun x=>x.k<=l.length/\Vf (l.drop x.k)=Vf l/\x.r=l.length-x.k,⟨⟨0,l.length,[],[],0,0,0,0⟩,⟨(by dsimp only;omega),rfl,rfl⟩,rfl⟩,?_⟩
 rintro x ⟨hk,hv,hr⟩
 refine And.intro (fun hq=>⟨by omega,by omega,fun y hy=> ?_⟩) (fun hq=> ?_)
 · have hy:l[x.k]? =some y:=hy
   rw [Zt0 hy] at hv
   have hys:=Ex.szL_mem (List.mem_of_getElem? hy)
   refine ⟨by omega,fun h1=> ?_,fun h1=> ?_⟩
   · rw [h1] at hv
     rw [<-hv]
     exact And.intro (fun _=>rfl) (fun h=>by omega)
   · rw [h1,Bool.true_and] at hv
     exact ⟨⟨x.k+1,l.length-(x.k+1),[],[],0,0,0,0⟩,⟨(by dsimp only;omega),hv,rfl⟩,by show l.length-(x.k+1)+1<=x.r;omega,wr64 (by omega) (by omega)⟩
 · rw [Wz (by omega)] at hv
   rw [<-hv];rfl
noncomputable def Z6j (m:Nat):Fns thy:=addS (addS F0 79 (Yck m)) 78 Z99
abbrev qBC4:=(0:Int)
abbrev qBC2 (a0:Ex):=(!Zaj [List.getD [Ex.d0 a0,Ex.d1 a0,Ex.d2 a0,Ex.d3 a0] (0:Nat) qBC4,List.getD [Ex.d0 a0,Ex.d1 a0,Ex.d2 a0,Ex.d3 a0] (1:Nat) qBC4,List.getD [Ex.d0 a0,Ex.d1 a0,Ex.d2 a0,Ex.d3 a0] (2:Nat) qBC4,List.getD [Ex.d0 a0,Ex.d1 a0,Ex.d2 a0,Ex.d3 a0] (3:Nat) qBC4])
abbrev qBC7 (a0:Ex):=(!(Ex.d0 a0==qBC4&&(Ex.d1 a0==qBC4&&(Ex.d2 a0==qBC4&&(Ex.d3 a0==qBC4&&true)))))
abbrev qBC1 (a0:Ex) (b0:Bool) (c0:Nat):=((qBC2 a0)=false->((Ex.op a0 !=(1:Int))=true->((qBC7 a0)=true->false=b0)/\((qBC7 a0)=false->Ex.szL (Ex.l a0)+(1:Nat)<=c0/\(!!Vf (Ex.l a0))=b0))/\((Ex.op a0 !=(1:Int))=false->Ex.szL (Ex.l a0)+(1:Nat)<=c0/\(!!Vf (Ex.l a0))=b0))
abbrev qBC3 (a0:Ex):=(↑(List.length (Ex.l a0)):Int)
abbrev qBC5 (a0:Ex) (b0:Bool->Prop):=((decide (Ex.op a0<(1:Int))=true->b0 true)/\(decide (Ex.op a0<(1:Int))=false->(decide (Ex.op a0>(11:Int))=true->b0 true)/\(decide (Ex.op a0>(11:Int))=false->b0 false)))
abbrev qBC6 (a0:Ex) (b0:Bool):=(decide (Ex.n a0<qBC4)=true->false=b0)
theorem Zwe (m:Nat) (x:Ex) (v:Bool):Zg E (Z6j m) (vc E (Z6j m) 400) 50 [exA x] hp0 0 (fun r=>ret E (patch hp0 0 r) r.v (.bool false v))=(
 ((Ex.op x==(1:Int))=true->(qBC6 x v)/\(decide (Ex.n x<qBC4)=false->(decide (Ex.n x>(1099511627776:Int))=true->false=v)/\(decide (Ex.n x>(1099511627776:Int))=false->(((qBC3 x) !=qBC4)=true->false=v)/\(((qBC3 x) !=qBC4)=false->True/\((qBC2 x)=true->false=v)/\(qBC1 x v m)))))/\((Ex.op x==(1:Int))=false->((Ex.op x==(2:Int))=true->(qBC6 x v)/\(decide (Ex.n x<qBC4)=false->(decide (Ex.n x>(15:Int))=true->false=v)/\(decide (Ex.n x>(15:Int))=false->(((qBC3 x) !=qBC4)=true->false=v)/\(((qBC3 x) !=qBC4)=false->True/\((qBC2 x)=true->false=v)/\(qBC1 x v m)))))/\((Ex.op x==(2:Int))=false->((Ex.op x==(11:Int))=true->∃(Q:Bool->Prop),(qBC5 x Q)/\(Q true->false=v)/\(Q false->(qBC6 x v)/\(decide (Ex.n x<qBC4)=false->(decide (Ex.n x>qBC4)=true->false=v)/\(decide (Ex.n x>qBC4)=false->(((qBC3 x) !=(4:Int))=true->false=v)/\(((qBC3 x) !=(4:Int))=false->True/\((qBC2 x)=true->false=v)/\(qBC1 x v m))))))/\((Ex.op x==(11:Int))=false->∃(Q:Bool->Prop),(qBC5 x Q)/\(Q true->false=v)/\(Q false->(qBC6 x v)/\(decide (Ex.n x<qBC4)=false->(decide (Ex.n x>qBC4)=true->false=v)/\(decide (Ex.n x>qBC4)=false->(((qBC3 x) !=(2:Int))=true->false=v)/\(((qBC3 x) !=(2:Int))=false->True/\((qBC2 x)=true->false=v)/\(qBC1 x v m))))))))):=by kernel_rfl
theorem Zbu (x:Ex):Zz x=true↔(1<=x.op/\x.op<=11/\0<=x.n/\(x.op=1->x.n<=1099511627776)/\(x.op=2->x.n<=15)/\(x.op≠1->x.op≠2->x.n<=0)/\(x.op=1\/x.op=2->x.l.length=0)/\(x.op=11->x.l.length=4)/\(x.op≠1->x.op≠2->x.op≠11->x.l.length=2)/\
 (x.op=1\/(x.d0=0/\x.d1=0/\x.d2=0/\x.d3=0)))/\Zaj [x.d0,x.d1,x.d2,x.d3]=true/\Vf x.l=true:=by
 rw [Zd6]
 simp only [Zf0,Bool.and_eq_true,Bool.or_eq_true,decide_eq_true_eq,Ex.u,List.cons.injEq,and_true]
 unfold Z3c Zjk
 constructor
 · rintro ⟨⟨⟨⟨⟨⟨⟨h1,h2⟩,h3⟩,h4⟩,h5⟩,h6⟩,h7⟩,h8⟩
   refine ⟨⟨h1,h2,h3,fun h=> ?_,fun h=> ?_,fun h h'=> ?_,fun h=> ?_,fun h=> ?_,fun h h' h''=> ?_,h7⟩,h6,h8⟩
   · rw [if_pos h] at h4;exact h4
   · rw [if_neg (by omega),if_pos h] at h4;exact h4
   · rw [if_neg h,if_neg h'] at h4;exact h4
   · rw [if_pos h] at h5;exact h5
   · rw [if_neg (by omega),if_pos h] at h5;exact h5
   · rw [if_neg (by omega),if_neg h''] at h5;exact h5
 · rintro ⟨⟨h1,h2,h3,h4,h5,h6,h7,h8,h9,h10⟩,h11,h12⟩
   refine ⟨⟨⟨⟨⟨⟨⟨h1,h2⟩,h3⟩,?_⟩,?_⟩,h11⟩,h10⟩,h12⟩
   · split
     · exact h4 ‹_›
     · split
       · exact h5 ‹_›
       · exact h6 ‹_› ‹_›
   · split
     · exact h7 ‹_›
     · split
       · exact h8 ‹_›
       · exact h9 (by omega) (by omega) ‹_›
theorem Z07 {x:Ex} (h:((1<=x.op/\x.op<=11/\0<=x.n/\(x.op=1->x.n<=1099511627776)/\(x.op=2->x.n<=15)/\(x.op≠1->x.op≠2->x.n<=0)/\(x.op=1\/x.op=2->x.l.length=0)/\(x.op=11->x.l.length=4)/\(x.op≠1->x.op≠2->x.op≠11->x.l.length=2)/\
 (x.op=1\/(x.d0=0/\x.d1=0/\x.d2=0/\x.d3=0)))->Zaj [x.d0,x.d1,x.d2,x.d3]=true->False)):false=Zz x:=by
 symm;rw [Bool.eq_false_iff];intro h'
 have:=(Zbu x).1 h'
 exact h this.1 this.2.1
theorem Zwf {x:Ex} {b:Bool} (hb:b=Vf x.l) (h:(1<=x.op/\x.op<=11/\0<=x.n/\(x.op=1->x.n<=1099511627776)/\(x.op=2->x.n<=15)/\(x.op≠1->x.op≠2->x.n<=0)/\(x.op=1\/x.op=2->x.l.length=0)/\(x.op=11->x.l.length=4)/\(x.op≠1->x.op≠2->x.op≠11->x.l.length=2)/\
 (x.op=1\/(x.d0=0/\x.d1=0/\x.d2=0/\x.d3=0)))) (hw:Zaj [x.d0,x.d1,x.d2,x.d3]=true):b=Zz x:=by
 rw [Bool.eq_iff_iff,Zbu,hb]
 exact ⟨fun h'=>⟨h,hw,h'⟩,fun h'=>h'.2.2⟩
theorem Z08:∀(m:Nat),m<=1000000000000->∀(x:Ex),x.sz<m->PureC E 50 [exA x] (.bool false (Zz x)):=by
 intro m
 induction m with
 |zero=>intro _ x h;omega
 |succ m ih=>
  intro hb x hm
  have hF:FnsOk E (Z6j m):=Zb (Zb F0_ok (Yg E_ok (Zd (f:=79) rfl) fun x h=>Zwd m (by omega) (ih (by omega)) x.1 h)) Z06
  refine Za E_ok (Zi E_ok hF 400) ?_
  rw [Zwe];delta qBC4 qBC2 qBC7 qBC1 qBC3 qBC5 qBC6
  have hsz:=x.sz_eq
  repeat' (first|exact Z7s _|apply Ya3|apply JR_some|apply JR_and|apply Ya4|(refine And.intro ?_ ?_)|(intro h))
  all_goals (simp only [Yn,Z2,W2,W3,W4,beq_iff_eq,bne_iff_ne,beq_eq_false_iff_ne,bne_eq_false_iff_eq,decide_eq_true_eq,decide_eq_false_iff_not,Bool.or_eq_true,Bool.or_eq_false_iff,Bool.not_eq_true',Bool.not_eq_false',Bool.and_eq_true,Bool.and_true,Bool.true_and,Bool.and_eq_false_iff,beq_self_eq_true,Xh,Y2,ne_eq,and_true,true_and,Bool.true_eq_false,Bool.false_eq_true,false_or,or_false,true_implies,imp_self,Int.ofNat_eq_natCast,not_true_eq_false,not_false_eq_true,Decidable.not_not,List.getD_cons_zero,List.getD_cons_succ] at*)
  all_goals first|trivial|omega|(exact Z07 (fun h hw=>by first|omega|(simp_all;done)))|(exact Zwf (by simp) (by omega) (by simp_all))
def in1 (d:Int):Bool:=decide (-1<=d)&&decide (d<=1)
theorem Zih (x:Int) (r:List Int) (n:Int):cnt (x::r) n=(if x=n then 1 else 0)+cnt r n:=by
 unfold cnt
 by_cases h:x=n<;>simp [h,Nat.add_comm]
theorem Zwg:∀u:List Int,cnt u 0+cnt u 1+cnt u (-1)<=u.length/\(cnt u 0+cnt u 1+cnt u (-1)=u.length↔u.all in1=true)
 | []=>by simp [cnt]
 |x::r=>by
  obtain ⟨h1,h2⟩:=Zwg r
  rw [Zih,Zih,Zih,List.all_cons,List.length_cons,Bool.and_eq_true,<-h2]
  unfold in1
  rw [Bool.and_eq_true,decide_eq_true_eq,decide_eq_true_eq]
  by_cases e0:x=0
  · subst e0;simp;omega
  · by_cases e1:x=1
    · subst e1;simp;omega
    · by_cases e2:x= -1
      · subst e2;simp;omega
      · rw [if_neg e0,if_neg e1,if_neg e2]
        omega
theorem Zkm (a b c d:Int):Zaj [a,b,c,d]=([a,b,c,d].all in1&&(decide (cnt [a,b,c,d] 1<=1)&&decide (cnt [a,b,c,d] (-1)<=1))):=by
 have h:=(Zwg [a,b,c,d]).2
 have: [a,b,c,d].length=4:=rfl
 rw [this] at h
 unfold Zaj
 rw [Bool.eq_iff_iff,Bool.and_eq_true,Bool.and_eq_true,Bool.and_eq_true,Bool.and_eq_true,decide_eq_true_eq,h,and_assoc]
end
end Go.Proofs.YtddgkebdlgglaaaGreatDoor
/-
  DERIVED: THE SHELF's CONTRACTS AT THIS DUMP, IN PLAIN WORDS (tools/lay-plain.mjs out of 'YtddgkebdlgglaaaGreatDoorTvLay0.lean', which tools/lay-shelf.mjs wrote): THE SAME DECLARATIONS UNDER THE SAME NAMES: 'import', 'namespace', 'open', 'def', 'theorem' AND NOTHING ELSE: no command of the shelf's: FOR A HAND-IN. Each laying: the table of numbers ('.._ren') and one theorem, a field a fact of the dump's own or the kernel's comparison; each contract: ONE APPLICATION.
-/
namespace Go.Proofs
open Go.Shelf
def Tryz.lays160_ren:Go.Shelf.Ren:=⟨fun|160=>77|232=>119|231=>118|227=>120|234=>122|233=>121|236=>124|235=>123|228=>146|271=>149|151=>148|197=>147|120=>159|152=>158|260=>157|137=>62|119=>160|224=>161|225=>162|217=>89|266=>131|n=>n,fun|9=>9|4=>4|3=>3|5=>5|117=>171|116=>170|0=>0|124=>174|21=>21|105=>206|46=>204|119=>103|139=>223|138=>222|n=>n,fun|3=>8|4=>9|n=>n⟩
theorem Tryz.lays160:Go.Proofs.Lays.n160 Tryz.prog Tryz.lays160_ren:={
  mixed:=by kernel_rfl
  f119:=Tryz.func160.trans (congrArg some (by kernel_rfl))
  f120:=Tryz.func159.trans (congrArg some (by kernel_rfl))
  f137:=Tryz.func62.trans (congrArg some (by kernel_rfl))
  f151:=Tryz.func148.trans (congrArg some (by kernel_rfl))
  f152:=Tryz.func158.trans (congrArg some (by kernel_rfl))
  f160:=Tryz.func77.trans (congrArg some (by kernel_rfl))
  f197:=Tryz.func147.trans (congrArg some (by kernel_rfl))
  f217:=Tryz.func89.trans (congrArg some (by kernel_rfl))
  f224:=Tryz.func161.trans (congrArg some (by kernel_rfl))
  f225:=Tryz.func162.trans (congrArg some (by kernel_rfl))
  f227:=Tryz.func120.trans (congrArg some (by kernel_rfl))
  f228:=Tryz.func146.trans (congrArg some (by kernel_rfl))
  f231:=Tryz.func118.trans (congrArg some (by kernel_rfl))
  f232:=Tryz.func119.trans (congrArg some (by kernel_rfl))
  f233:=Tryz.func121.trans (congrArg some (by kernel_rfl))
  f234:=Tryz.func122.trans (congrArg some (by kernel_rfl))
  f235:=Tryz.func123.trans (congrArg some (by kernel_rfl))
  f236:=Tryz.func124.trans (congrArg some (by kernel_rfl))
  f260:=Tryz.func157.trans (congrArg some (by kernel_rfl))
  f266:=Tryz.func131.trans (congrArg some (by kernel_rfl))
  f271:=Tryz.func149.trans (congrArg some (by kernel_rfl))
  t0:=Tryz.underlying0
  a0:=Tryz.isAgg0
  z0:=Tryz.sizeOf0
  v0:=Tryz.zeroValue0
  t3:=Tryz.underlying3
  a3:=Tryz.isAgg3
  z3:=Tryz.sizeOf3
  v3:=Tryz.zeroValue3
  t4:=Tryz.underlying4
  a4:=Tryz.isAgg4
  z4:=Tryz.sizeOf4
  v4:=Tryz.zeroValue4
  t5:=Tryz.underlying5
  a5:=Tryz.isAgg5
  z5:=Tryz.sizeOf5
  v5:=Tryz.zeroValue5
  t9:=Tryz.underlying9
  a9:=Tryz.isAgg9
  z9:=Tryz.sizeOf9
  v9:=Tryz.zeroValue9
  t21:=Tryz.underlying21
  a21:=Tryz.isAgg21
  z21:=Tryz.sizeOf21
  v21:=Tryz.zeroValue21
  t46:=Tryz.underlying204
  a46:=Tryz.isAgg204
  z46:=Tryz.sizeOf204
  v46:=Tryz.zeroValue204
  t105:=Tryz.underlying206
  a105:=Tryz.isAgg206
  z105:=Tryz.sizeOf206
  v105:=Tryz.zeroValue206
  t116:=Tryz.underlying170
  a116:=Tryz.isAgg170
  z116:=Tryz.sizeOf170
  t117:=Tryz.underlying171
  a117:=Tryz.isAgg171
  z117:=Tryz.sizeOf171
  v117:=Tryz.zeroValue171
  t119:=Tryz.underlying103
  a119:=Tryz.isAgg103
  z119:=Tryz.sizeOf103
  t124:=Tryz.underlying174
  a124:=Tryz.isAgg174
  z124:=Tryz.sizeOf174
  v124:=Tryz.zeroValue174
  t138:=Tryz.underlying222
  a138:=Tryz.isAgg222
  z138:=Tryz.sizeOf222
  v138:=Tryz.zeroValue222
  t139:=Tryz.underlying223
  a139:=Tryz.isAgg223
  z139:=Tryz.sizeOf223
  v139:=Tryz.zeroValue223
  g3:=by kernel_rfl
  g4:=by kernel_rfl}
def Tryz.lays156_ren:Go.Shelf.Ren:=⟨fun|156=>26|165=>59|166=>60|169=>61|240=>87|241=>88|276=>129|277=>130|n=>n,fun|31=>63|9=>9|3=>3|4=>4|0=>0|20=>20|72=>111|76=>114|70=>108|37=>109|75=>113|127=>148|164=>190|5=>5|80=>80|n=>n,fun|n=>n⟩
theorem Tryz.lays156:Go.Proofs.Lays.n156 Tryz.prog Tryz.lays156_ren:={
  mixed:=by kernel_rfl
  f156:=Tryz.func26.trans (congrArg some (by kernel_rfl))
  f165:=Tryz.func59.trans (congrArg some (by kernel_rfl))
  f166:=Tryz.func60.trans (congrArg some (by kernel_rfl))
  f169:=Tryz.func61.trans (congrArg some (by kernel_rfl))
  f240:=Tryz.func87.trans (congrArg some (by kernel_rfl))
  f241:=Tryz.func88.trans (congrArg some (by kernel_rfl))
  f276:=Tryz.func129.trans (congrArg some (by kernel_rfl))
  f277:=Tryz.func130.trans (congrArg some (by kernel_rfl))
  t0:=Tryz.underlying0
  a0:=Tryz.isAgg0
  z0:=Tryz.sizeOf0
  v0:=Tryz.zeroValue0
  t3:=Tryz.underlying3
  a3:=Tryz.isAgg3
  z3:=Tryz.sizeOf3
  v3:=Tryz.zeroValue3
  t4:=Tryz.underlying4
  a4:=Tryz.isAgg4
  z4:=Tryz.sizeOf4
  v4:=Tryz.zeroValue4
  t9:=Tryz.underlying9
  a9:=Tryz.isAgg9
  z9:=Tryz.sizeOf9
  v9:=Tryz.zeroValue9
  t20:=Tryz.underlying20
  a20:=Tryz.isAgg20
  z20:=Tryz.sizeOf20
  v20:=Tryz.zeroValue20
  t31:=Tryz.underlying63
  a31:=Tryz.isAgg63
  z31:=Tryz.sizeOf63
  v31:=Tryz.zeroValue63
  t37:=Tryz.underlying109
  a37:=Tryz.isAgg109
  z37:=Tryz.sizeOf109
  v37:=Tryz.zeroValue109
  t70:=Tryz.underlying108
  a70:=Tryz.isAgg108
  z70:=Tryz.sizeOf108
  v70:=Tryz.zeroValue108
  t72:=Tryz.underlying111
  a72:=Tryz.isAgg111
  z72:=Tryz.sizeOf111
  v72:=Tryz.zeroValue111
  t75:=Tryz.underlying113
  a75:=Tryz.isAgg113
  z75:=Tryz.sizeOf113
  v75:=Tryz.zeroValue113
  t76:=Tryz.underlying114
  a76:=Tryz.isAgg114
  z76:=Tryz.sizeOf114
  v76:=Tryz.zeroValue114
  t127:=Tryz.underlying148
  a127:=Tryz.isAgg148
  z127:=Tryz.sizeOf148
  v127:=Tryz.zeroValue148
  t164:=Tryz.underlying190
  a164:=Tryz.isAgg190
  z164:=Tryz.sizeOf190
  v164:=Tryz.zeroValue190}
def Tryz.lays129_ren:Go.Shelf.Ren:=⟨fun|129=>142|n=>n,fun|53=>40|3=>3|4=>4|46=>204|5=>5|9=>9|n=>n,fun|n=>n⟩
theorem Tryz.lays129:Go.Proofs.Lays.n129 Tryz.prog Tryz.lays129_ren:={
  mixed:=by kernel_rfl
  f129:=Tryz.func142.trans (congrArg some (by kernel_rfl))
  t3:=Tryz.underlying3
  a3:=Tryz.isAgg3
  z3:=Tryz.sizeOf3
  v3:=Tryz.zeroValue3
  t4:=Tryz.underlying4
  a4:=Tryz.isAgg4
  z4:=Tryz.sizeOf4
  v4:=Tryz.zeroValue4
  t5:=Tryz.underlying5
  a5:=Tryz.isAgg5
  z5:=Tryz.sizeOf5
  v5:=Tryz.zeroValue5
  t9:=Tryz.underlying9
  a9:=Tryz.isAgg9
  z9:=Tryz.sizeOf9
  v9:=Tryz.zeroValue9
  t46:=Tryz.underlying204
  a46:=Tryz.isAgg204
  z46:=Tryz.sizeOf204
  v46:=Tryz.zeroValue204
  t53:=Tryz.underlying40
  a53:=Tryz.isAgg40
  z53:=Tryz.sizeOf40
  v53:=Tryz.zeroValue40}
def Tryz.lays317_ren:Go.Shelf.Ren:=⟨fun|317=>141|n=>n,fun|3=>3|46=>204|n=>n,fun|n=>n⟩
theorem Tryz.lays317:Go.Proofs.Lays.n317 Tryz.prog Tryz.lays317_ren:={
  mixed:=by kernel_rfl
  f317:=Tryz.func141.trans (congrArg some (by kernel_rfl))
  t3:=Tryz.underlying3
  a3:=Tryz.isAgg3
  z3:=Tryz.sizeOf3
  v3:=Tryz.zeroValue3
  t46:=Tryz.underlying204
  a46:=Tryz.isAgg204
  z46:=Tryz.sizeOf204
  v46:=Tryz.zeroValue204}
def Tryz.lays283_ren:Go.Shelf.Ren:=⟨fun|283=>114|n=>n,fun|3=>3|9=>9|4=>4|n=>n,fun|n=>n⟩
theorem Tryz.lays283:Go.Proofs.Lays.n283 Tryz.prog Tryz.lays283_ren:={
  mixed:=by kernel_rfl
  f283:=Tryz.func114.trans (congrArg some (by kernel_rfl))
  t3:=Tryz.underlying3
  a3:=Tryz.isAgg3
  z3:=Tryz.sizeOf3
  v3:=Tryz.zeroValue3
  t4:=Tryz.underlying4
  a4:=Tryz.isAgg4
  z4:=Tryz.sizeOf4
  v4:=Tryz.zeroValue4
  t9:=Tryz.underlying9
  a9:=Tryz.isAgg9
  z9:=Tryz.sizeOf9
  v9:=Tryz.zeroValue9}
end Go.Proofs

namespace Go.Proofs.YtddgkebdlgglaaaGreatDoor
set_option linter.unusedVariables false
set_option linter.unusedSimpArgs false
set_option linter.unnecessarySimpa false
set_option maxRecDepth 100000
section
open Go
def wb (c:Nat):Bool:=(Nat.ble 97 c&&Nat.ble c 122)||(Nat.ble 48 c&&Nat.ble c 57)
def Ztf:List Nat:= [97,98,99,100,101,102,103,104,105,106,107,108,109,110,111,112,113,114,115,116,117,118,119,120,121,122,48,49,50,51,52,53,54,55,56,57]
def Zot (s:List Nat):List Nat:=(Lib.trimS (mkS s).data.toList (mkS Ztf).data.toList).map UInt8.toNat
theorem Zyp (s:List Nat) (hs:s.length<=9223372036854775807):PureC E 77 [.str false s,.str true Ztf] (.str false (Zot s)):=by
 refine Vx fun g w vals hd=> ?_
 obtain ⟨u,v,rfl,hu,hv⟩:=Yag hd
 cases hu;cases hv
 rename_i b hb c hc
 subst hb
 have hc':c=mkS Ztf:=by rw [<-hc,Za4]
 subst hc'
 have hs':b.size<=9223372036854775807:=by rw [<-Za3];exact hs
 refine (Any.strings_Trim_laid Tryz.lays160 (by kernel_rfl) b (mkS Ztf) w hs' (by decide) (ascii_of_all (by decide))).mono ?_
 rintro e w' ⟨rfl,hw⟩
 refine ⟨_,rfl,?_,hw⟩
 unfold Zot
 rw [Za4]
 exact Z1j
theorem dw_nil {α:Type} {p:α->Bool}:∀{l:List α},l.dropWhile p= []↔∀x∈l,p x=true
 | []=>by simp
 |x::l=>by
  rw [List.dropWhile_cons]
  cases hp:p x with
  |true=>simp [hp,dw_nil (l:=l)]
  |false=>simp [hp]
theorem Zyq {α:Type} {p:α->Bool}:∀{l:List α} {b:α} {r:List α},l.dropWhile p=b::r->p b=false
 | [],b,r,h=>by simp at h
 |x::l,b,r,h=>by
  rw [List.dropWhile_cons] at h
  cases hp:p x with
  |true=>rw [hp] at h;exact Zyq h
  |false=>rw [hp] at h;simp at h;rw [<-h.1];exact hp
theorem Zyr (l cs:List UInt8):Lib.trimS l cs= []↔∀b∈l,cs.contains b=true:=by
 unfold Lib.trimS Lib.trimLeftS Lib.trimRightS
 rw [dw_nil]
 constructor
 · intro h
   cases hd:l.reverse.dropWhile (cs.contains ·) with
   |nil=>
    rw [dw_nil] at hd
    exact fun b hb=>hd b (List.mem_reverse.2 hb)
   |cons b r=>
    exfalso
    have h1:=h b (by rw [hd];simp)
    have h2:=Zyq hd
    rw [h1] at h2
    cases h2
 · intro h b hb
   rw [dw_nil.2 (fun b hb=>h b (List.mem_reverse.1 hb))] at hb
   simp at hb
theorem Zll:∀n,n<256->(mkS Ztf).data.toList.contains (UInt8.ofNat n)=wb n:=by decide
theorem Zys {s:List Nat} (hs:Byt s):Zot s= []↔s.all wb=true:=by
 unfold Zot
 rw [List.map_eq_nil_iff,Zyr,List.all_eq_true]
 have e:s=(mkS s).data.toList.map UInt8.toNat:=(show toL (mkS s)=s from hs).symm
 constructor
 · intro h c hc
   rw [e] at hc
   obtain ⟨b,hb,rfl⟩:=List.mem_map.1 hc
   rw [<-Zll _ b.toNat_lt]
   have:=h b hb
   rwa [show UInt8.ofNat b.toNat=b from UInt8.ofNat_toNat]
 · intro h b hb
   have:=h b.toNat (by rw [e];exact List.mem_map_of_mem hb)
   rw [<-Zll _ b.toNat_lt] at this
   rwa [show UInt8.ofNat b.toNat=b from UInt8.ofNat_toNat] at this
noncomputable def Ybk:Sum thy:=sumP (dA2 dS (dKs Ztf)) (fun x=>x.1.length<=9223372036854775807) fun x=> .str false (Zot x.1)
theorem Z2s:SumOk E 77 Ybk:=Yg E_ok (Zd (f:=77) rfl) fun x h=>Zyp _ h
noncomputable def Z73:Fns thy:=addS F0 77 Ybk
theorem Z2t:FnsOk E Z73:=Zb F0_ok Z2s
def lowF:List Nat->Bool
 | []=>false
 |c::_=>Nat.ble 97 c&&Nat.ble c 122
def Vb (s:List Nat):Bool:=decide (s.length<=32)&&lowF s&&s.all wb
theorem Zyt (s:List Nat) (v:Bool):Zg E Z73 (vc E Z73 400) 48 [.str false s] hp0 0 (fun r=>ret E (patch hp0 0 r) r.v (.bool false v))=(
(decide ((↑(List.length s):Int)<=(32:Int))=true->((!s==toL (ByteArray.mk #[]))=true->(0:Int)<=(0:Int)/\(0:Int)+(1:Int)<=(↑(List.length s):Int)/\∀(x:Nat),s[Int.toNat (0:Int)]? =some x->(decide ((↑x:Int)>=(97:Int))=true->(0:Int)<=(0:Int)/\(0:Int)+(1:Int)<=(↑(List.length s):Int)/\∀(x:Nat),s[Int.toNat (0:Int)]? =some x->(decide ((↑x:Int)<=(122:Int))=true->List.length s<=(9223372036854775807:Nat)/\((Zot s==toL (ByteArray.mk #[]))=true->true=v)/\((Zot s==toL (ByteArray.mk #[]))=false->false=v))/\(decide ((↑x:Int)<=(122:Int))=false->false=v))/\(decide ((↑x:Int)>=(97:Int))=false->false=v))/\((!s==toL (ByteArray.mk #[]))=false->false=v))/\(decide ((↑(List.length s):Int)<=(32:Int))=false->false=v)):=by kernel_rfl
theorem Zyu (s:List Nat):PureC E 48 [.str false s] (.bool false (Vb s)):=by
 refine Z1h (j:=0) rfl fun hs=>Za E_ok (Zi E_ok Z2t 400) ?_
 rw [Zyt]
 simp only [Yn,Z2,W2,W3,W4,beq_iff_eq,bne_iff_ne,beq_eq_false_iff_ne,bne_eq_false_iff_eq,decide_eq_true_eq,decide_eq_false_iff_not,Bool.or_eq_true,Bool.or_eq_false_iff,Bool.not_eq_true',Bool.not_eq_false',Bool.and_eq_true,Bool.and_true,Bool.true_and,Bool.and_eq_false_iff,beq_self_eq_true,Xh,Y2,ne_eq,and_true,true_and,Bool.true_eq_false,Bool.false_eq_true,false_or,or_false,true_implies,imp_self,Int.ofNat_eq_natCast,not_true_eq_false,not_false_eq_true,Decidable.not_not]
 have he:toL (ByteArray.mk #[])= []:=rfl
 have hz:(0:Int).toNat=0:=rfl
 simp only [he,hz,Zys hs]
 unfold Vb
 refine And.intro (fun h1=>And.intro (fun h2=>⟨by omega,?_,fun c hc=> ?_⟩) (fun h2=> ?_)) (fun h1=> ?_)
 · cases s with
   |nil=>exact absurd rfl h2
   |cons c r=>simp only [List.length_cons];omega
 · cases s with
   |nil=>simp at hc
   |cons c' r=>
    obtain rfl:c'=c:=by simpa using hc
    rw [decide_eq_true (show (c'::r).length<=32 by omega),show lowF (c'::r)=(Nat.ble 97 c'&&Nat.ble c' 122) from rfl]
    refine And.intro (fun h3=>⟨by omega,by simp only [List.length_cons];omega,fun c2 hc2=> ?_⟩) (fun h3=> ?_)
    · obtain rfl:c'=c2:=by simpa using hc2
      refine And.intro (fun h4=>⟨by omega,fun h5=> ?_,fun h5=> ?_⟩) (fun h4=> ?_)
      · rw [h5,Nat.ble_eq_true_of_le (by omega),Nat.ble_eq_true_of_le (by omega)];rfl
      · rw [Bool.eq_false_iff.2 h5];simp
      · have:Nat.ble c' 122=false:=by rw [<-Bool.not_eq_true,Nat.ble_eq];omega
        rw [this];simp
    · have:Nat.ble 97 c'=false:=by rw [<-Bool.not_eq_true,Nat.ble_eq];omega
      rw [this];simp
 · rw [h2];simp [lowF]
 · rw [decide_eq_false (show ¬s.length<=32 by omega)];simp
def resW:List (List Nat):= [[116,97,114,105,102,102],[102,111,114],[99,108,97,117,115,101],[119,104,101,110],[97,110,100],[105,110],[105,115],[112,97,121],[109,105,110],[109,97,120],[100,111,119,110],[117,112],[104,97,108,102],[105,102],[109,111,110,101,121],[109,105,110,117,116,101],[112,101,114],[107,103],[116,121,112,101],[111,119,110,101,114],[114,97,105,108,119,97,121],[115,104,105,112,112,101,114],[99,108,97,115,115],[119,101,105,103,104,116],[107,109],[109,105,110,117,116,101,115],[119,111,114,107,105,110,103],[99,111,100,101],[119,111,114,116,104],[99,111,115,116],[109,111,110,116,104],[98,101,103,105,110],[112,97,114,116,115],[112,97,114,116],[104,105,114,101],[100,101,109,117,114,114,97,103,101],[102,114,101,105,103,104,116],[114,101,112,97,105,114],[108,111,115,115],[99,108,101,97,110,105,110,103]]
theorem Z2u (s:List Nat) (K:SV thy->Prop):Zg E F0 (vc E F0 400) 49 [.str false s] hp0 0 (fun r=>K r.v)=X9 false (.str false s) (resW.map fun k=>(Value.string (mkS k),SV.bool true true)) K (K (.bool true false)):=by kernel_rfl
theorem Zrb (s:List Nat):PureC E 49 [.str false s] (.bool false (decide (s∈resW))):=by
 refine Zi7 E_ok (Z2z 400) (K:=fun r=>r.v= .bool true (decide (s∈resW))) (fun r hr=>by rw [hr];rfl) ?_
 rw [Z2u s fun v=>v= .bool true (decide (s∈resW))]
 refine Zgy ?_ (fun h=>by rw [decide_eq_true h]) (fun h=>by rw [decide_eq_false h])
 unfold Byt;decide
end
section
open Go
end
section
open Go
def Z6 (w:Tst):Bool:=decide (0<=w.attr/\w.attr<16/\0<=w.low/\w.low<=1099511627776/\0<=w.high/\w.high<=1099511627776)
def Wa (c:Cls):Bool:=Vb c.name&&Zz c.pay&&c.when_.all Z6
def resF (s:List Nat):Bool:=decide (s∈resW)
noncomputable def goC:Bool->Bool->List (List Nat×Bool)->List Cls->Int
 |a,b,_,[]=>if a=true then 161 else if b=true then 2 else 0
 |a,b,m,c::r=>if Wa c=true then goC (a||resF c.name||(Yu m c.name).getD false) (b||decide (8<c.when_.length)||decide (24<Zy c.pay)) (putS m c.name true) r else 1
noncomputable def Z7 (t:Tar):Int:=if Vb t.name=true/\1<=t.for_/\t.for_<=6 then goC (resF t.name) (decide (64<t.clauses.length)) [] t.clauses else 1
noncomputable def Z9b:Sum thy:=sumP (dA1 dS) (fun _=>True) fun x=> .bool false (Vb x.1)
theorem Z0j:SumOk E 48 Z9b:=Yg E_ok (Zd (f:=48) rfl) fun x h=>Zyu _
noncomputable def Sres:Sum thy:=sumP (dA1 dS) (fun _=>True) fun x=> .bool false (resF x.1)
theorem Z5m:SumOk E 49 Sres:=Yg E_ok (Zd (f:=49) rfl) fun x h=>Zrb _
noncomputable def Zve:Sum thy:=sumP dExp (fun x=>x.1.sz<1000000000000) fun x=> .bool false (Zz x.1)
theorem Zr8:SumOk E 50 Zve:=Yg E_ok (Zd (f:=50) rfl) fun x h=>Z08 _ (Nat.le_refl _) _ h
noncomputable def Zhz:Sum thy:=sumP dExp (fun x=>x.1.sz<1000000000000) fun x=> .int false .i64 (Zy x.1:Int)
theorem Zep:SumOk E 51 Zhz:=Yg E_ok (Zd (f:=51) rfl) fun x h=>Z1e _ _ (Nat.le_refl _) (Nat.le_of_lt h)
structure CkX where
 k:Nat
 r:Nat
 a:Bool
 b:Bool
 m:List (List Nat×Bool)
def blkM {Y:Thy} (h:Hp Y) (v:SV Y):List (Nat×Blk Y):=match v with| .map b=>(match h b with|some x=> [(b,x)]|none=> [])|_=> []
noncomputable def Ack:Fr thy->Hp thy->Nat->Ann thy:=fun T h i=>{X:=CkX,fr:=fun x=> [(3,.bool false x.a),(4,.bool false x.b),(5,T 5),(33,T 33),(34,T 34),(35,.int false .i64 x.k)],bl:=fun x=> [(bOf (T 5),.map (Yl (X4 E Th.bools false) x.m))],src:=fun _=> [],md:= [bOf (T 5)],ih:=i,M:=i+40,meas:=fun x=>x.r}
noncomputable def Atst:Fr thy->Hp thy->Nat->Ann thy:=fun T h i=>{X:=DX,fr:=fun x=> [(3,T 3),(4,T 4),(5,T 5),(7,T 7),(33,T 33),(34,T 34),(35,T 35),(50,T 50),(51,T 51),(52,.int false .i64 x.k)],bl:=fun x=>blkP h (T 7)++blkM h (T 5),src:=fun _=> [],md:= [],ih:=i,M:=i+30,meas:=fun x=>x.r}
noncomputable def Fck:Fns thy:=addL (addL (addS (addS (addS (addS F0 48 Z9b) 49 Sres) 50 Zve) 51 Zhz) 20 6 Ack E) 20 11 Atst E
theorem Z9c:FnsOk E Fck:=Yc E_ok (Yc E_ok (Zb (Zb (Zb (Zb F0_ok Z0j) Z5m) Zr8) Zep) _ _ _) _ _ _
def tarA (t:Tar):SV thy:= .agg (encF false .tariffs t)
noncomputable abbrev qBG9:=(X4 E Th.bools (Zh TypeDesc.bool))
noncomputable abbrev qBGj:=(1:Int)
noncomputable abbrev qBGg:=(false=true->false=true)
noncomputable abbrev qBG6 (a0:Tar):=(Tar.clauses a0=Tar.clauses a0/\qBGg)
noncomputable abbrev qBGe (a0:CkX):=(↑(CkX.k a0):Int)
noncomputable abbrev qBG5 (a0:Tar):=(↑(List.length (Tar.clauses a0)):Int)
noncomputable abbrev qBGd (a0:Bool) (b0:CkX) (c0:Tar) (d0:CkX):=(a0=CkX.a b0/\true=CkX.b b0/\True/\(qBG6 c0)/\(qBG5 c0)=(qBG5 c0)/\wr IntKind.i64 ((qBGe d0)+qBGj)=(qBGe b0)/\True)
noncomputable abbrev qBGb:=(X4 E Th.bools false)
noncomputable abbrev qBG3 (a0:List (List Nat×Bool)) (b0:Cls) (c0:CkX):=(Yl qBG9 (putS a0 (Cls.name b0) true)=Yl qBGb (CkX.m c0)/\nidE (0:Nat) (Yl qBG9 (putS a0 (Cls.name b0) true))=true)
noncomputable abbrev qBGm (a0:Cls):=(mkS (Cls.name a0))
noncomputable abbrev qBGn (a0:DX):=(↑(DX.k a0):Int)
noncomputable abbrev qBGl:=(1:Nat)
noncomputable abbrev qBGa (a0:CkX) (b0:Tar) (c0:CkX):=(true=CkX.a a0/\true=CkX.b a0/\True/\(qBG6 b0)/\(qBG5 b0)=(qBG5 b0)/\wr IntKind.i64 ((qBGe c0)+qBGj)=(qBGe a0)/\True)
noncomputable abbrev qBG7 (a0:List (List Nat×Bool)):=(∀(p:List Nat×Bool),p∈a0->toL (mkS (Prod.fst p))=Prod.fst p)
noncomputable abbrev qBGf (a0:CkX) (b0:Cls) (c0:CkX->Prop) (d0:Tar):=(CkX.b a0=true->∃(l:List (List Nat×Bool)),Yl qBGb (CkX.m a0)=Yl qBG9 l/\(qBG7 l)/\toL (qBGm b0)=Cls.name b0/\∃(x_3:CkX),c0 x_3/\x_3.2+qBGl<=a0.2/\true=true/\(qBGa x_3 d0 a0)/\(qBG3 l b0 x_3)/\True)
noncomputable abbrev qBGo:=(0:Int)
noncomputable abbrev qBGp (a0:Cls):=(Cls.pay a0)
noncomputable abbrev qBG8 (a0:Cls):=(Cls.name a0=Cls.name a0/\(Cls.when_ a0=Cls.when_ a0/\qBGg)/\Ex.op (qBGp a0)=Ex.op (qBGp a0)/\Ex.n (qBGp a0)=Ex.n (qBGp a0)/\Ex.d0 (qBGp a0)=Ex.d0 (qBGp a0)/\Ex.d1 (qBGp a0)=Ex.d1 (qBGp a0)/\Ex.d2 (qBGp a0)=Ex.d2 (qBGp a0)/\Ex.d3 (qBGp a0)=Ex.d3 (qBGp a0)/\(Ex.l (qBGp a0)=Ex.l (qBGp a0)/\qBGg)/\True)
noncomputable abbrev qBG4 (a0:Cls):=(Ex.mk (Ex.op (qBGp a0)) (Ex.n (qBGp a0)) (Ex.d0 (qBGp a0)) (Ex.d1 (qBGp a0)) (Ex.d2 (qBGp a0)) (Ex.d3 (qBGp a0)) (Ex.l (qBGp a0)))
noncomputable abbrev qBGi (a0:Cls):=((↑(Zy (qBG4 a0)):Int)>(24:Int))
noncomputable abbrev qBGk (a0:CkX):=(Yl qBGb (CkX.m a0)=Yl qBGb (CkX.m a0)/\nidE (0:Nat) (Yl qBGb (CkX.m a0))=true)
noncomputable abbrev qBGc (a0:Cls):=(↑(List.length (Cls.when_ a0)):Int)
noncomputable abbrev qBG2 (a0:CkX) (b0:Cls) (c0:CkX->Prop) (d0:Tar):=(CkX.b a0=false->(decide ((qBGc b0)>(8:Int))=true->∃(l:List (List Nat×Bool)),Yl qBGb (CkX.m a0)=Yl qBG9 l/\(qBG7 l)/\toL (qBGm b0)=Cls.name b0/\∃(x_3:CkX),c0 x_3/\x_3.2+qBGl<=a0.2/\true=true/\(qBGa x_3 d0 a0)/\(qBG3 l b0 x_3)/\True)/\(decide ((qBGc b0)>(8:Int))=false->Ex.sz (qBG4 b0)+qBGl<=(1000000000000:Nat)/\(decide (qBGi b0)=true->∃(l:List (List Nat×Bool)),Yl qBGb (CkX.m a0)=Yl qBG9 l/\(qBG7 l)/\toL (qBGm b0)=Cls.name b0/\∃(x_3:CkX),c0 x_3/\x_3.2+qBGl<=a0.2/\true=true/\(qBGa x_3 d0 a0)/\(qBG3 l b0 x_3)/\True)/\(decide (qBGi b0)=false->∃(l:List (List Nat×Bool)),Yl qBGb (CkX.m a0)=Yl qBG9 l/\(qBG7 l)/\toL (qBGm b0)=Cls.name b0/\∃(x_3:CkX),c0 x_3/\x_3.2+qBGl<=a0.2/\true=true/\(true=CkX.a x_3/\false=CkX.b x_3/\True/\(qBG6 d0)/\(qBG5 d0)=(qBG5 d0)/\wr IntKind.i64 ((qBGe a0)+qBGj)=(qBGe x_3)/\True)/\(qBG3 l b0 x_3)/\True)))
noncomputable abbrev qBG1 (a0:CkX) (b0:Tar) (c0:Int) (d0:CkX->Prop):=(decide ((qBGe a0)<(qBG5 b0))=true->qBGo<=(qBGe a0)/\(qBGe a0)+qBGj<=(qBG5 b0)/\∀(x_1:Cls),(Tar.clauses b0)[Int.toNat (qBGe a0)]? =some x_1->True/\((!Vb (Cls.name x_1))=true->qBGj=c0)/\((!Vb (Cls.name x_1))=false->Ex.sz (qBG4 x_1)+qBGl<=(1000000000000:Nat)/\((!Zz (qBG4 x_1))=true->qBGj=c0)/\((!Zz (qBG4 x_1))=false->∃(R_1:DX->Prop),(∃(x_2:DX),R_1 x_2/\true=true/\(CkX.a a0=CkX.a a0/\CkX.b a0=CkX.b a0/\True/\(0:Nat)=(0:Nat)/\(qBG6 b0)/\(qBG5 b0)=(qBG5 b0)/\(qBGe a0)=(qBGe a0)/\(Cls.when_ x_1=Cls.when_ x_1/\qBGg)/\(qBGc x_1)=(qBGc x_1)/\qBGo=(qBGn x_2)/\True)/\(qBG8 x_1)/\(qBGk a0)/\True)/\∀(x_2:DX),R_1 x_2->(decide ((qBGn x_2)<(qBGc x_1))=true->qBGo<=(qBGn x_2)/\(qBGn x_2)+qBGj<=(qBGc x_1)/\∀(x_3:Tst),(Cls.when_ x_1)[Int.toNat (qBGn x_2)]? =some x_3->∃(Q:Bool->Prop),((decide (Tst.attr x_3<qBGo)=true->Q true)/\(decide (Tst.attr x_3<qBGo)=false->(decide (Tst.attr x_3>=(16:Int))=true->Q true)/\(decide (Tst.attr x_3>=(16:Int))=false->(decide (mm2 false (Tst.low x_3) (Tst.high x_3)<qBGo)=true->Q true)/\(decide (mm2 false (Tst.low x_3) (Tst.high x_3)<qBGo)=false->(decide (mm2 true (Tst.low x_3) (Tst.high x_3)>(1099511627776:Int))=true->Q true)/\(decide (mm2 true (Tst.low x_3) (Tst.high x_3)>(1099511627776:Int))=false->Q false)))))/\(Q true->qBGj=c0)/\(Q false->∃(x_4:DX),R_1 x_4/\x_4.2+qBGl<=x_2.2/\true=true/\(CkX.a a0=CkX.a a0/\CkX.b a0=CkX.b a0/\True/\(0:Nat)=(0:Nat)/\(qBG6 b0)/\(qBG5 b0)=(qBG5 b0)/\(qBGe a0)=(qBGe a0)/\(Cls.when_ x_1=Cls.when_ x_1/\qBGg)/\(qBGc x_1)=(qBGc x_1)/\wr IntKind.i64 ((qBGn x_2)+qBGj)=(qBGn x_4)/\True)/\(qBG8 x_1)/\(qBGk a0)/\True))/\(decide ((qBGn x_2)<(qBGc x_1))=false->(CkX.a a0=true->(qBGf a0 x_1 d0 b0)/\(qBG2 a0 x_1 d0 b0))/\(CkX.a a0=false->True/\(resF (Cls.name x_1)=true->(qBGf a0 x_1 d0 b0)/\(qBG2 a0 x_1 d0 b0))/\(resF (Cls.name x_1)=false->∃(l:List (List Nat×Bool)),Yl qBGb (CkX.m a0)=Yl qBG9 l/\(qBG7 l)/\∀(y:Bool),y=Option.getD (Yu l (Cls.name x_1)) false->(CkX.b a0=true->∃(l:List (List Nat×Bool)),Yl qBGb (CkX.m a0)=Yl qBG9 l/\(qBG7 l)/\toL (qBGm x_1)=Cls.name x_1/\∃(x_3:CkX),d0 x_3/\x_3.2+qBGl<=a0.2/\true=true/\(qBGd y x_3 b0 a0)/\(qBG3 l x_1 x_3)/\True)/\(CkX.b a0=false->(decide ((qBGc x_1)>(8:Int))=true->∃(l:List (List Nat×Bool)),Yl qBGb (CkX.m a0)=Yl qBG9 l/\(qBG7 l)/\toL (qBGm x_1)=Cls.name x_1/\∃(x_3:CkX),d0 x_3/\x_3.2+qBGl<=a0.2/\true=true/\(qBGd y x_3 b0 a0)/\(qBG3 l x_1 x_3)/\True)/\(decide ((qBGc x_1)>(8:Int))=false->Ex.sz (qBG4 x_1)+qBGl<=(1000000000000:Nat)/\(decide (qBGi x_1)=true->∃(l:List (List Nat×Bool)),Yl qBGb (CkX.m a0)=Yl qBG9 l/\(qBG7 l)/\toL (qBGm x_1)=Cls.name x_1/\∃(x_3:CkX),d0 x_3/\x_3.2+qBGl<=a0.2/\true=true/\(qBGd y x_3 b0 a0)/\(qBG3 l x_1 x_3)/\True)/\(decide (qBGi x_1)=false->∃(l:List (List Nat×Bool)),Yl qBGb (CkX.m a0)=Yl qBG9 l/\(qBG7 l)/\toL (qBGm x_1)=Cls.name x_1/\∃(x_3:CkX),d0 x_3/\x_3.2+qBGl<=a0.2/\true=true/\(y=CkX.a x_3/\false=CkX.b x_3/\True/\(qBG6 b0)/\(qBG5 b0)=(qBG5 b0)/\wr IntKind.i64 ((qBGe a0)+qBGj)=(qBGe x_3)/\True)/\(qBG3 l x_1 x_3)/\True)))))))))
noncomputable abbrev qBGh (a0:CkX) (b0:Tar) (c0:Int):=(decide ((qBGe a0)<(qBG5 b0))=false->(CkX.a a0=true->(161:Int)=c0)/\(CkX.a a0=false->(CkX.b a0=true->(2:Int)=c0)/\(CkX.b a0=false->qBGo=c0)))
theorem Z5n (t:Tar) (v:Int):Zg E Fck (vc E Fck 400) 20 [tarA t] hp0 0 (fun r=>ret E (patch hp0 0 r) r.v (.int false .i64 v))=(
 True/\((!Vb (Tar.name t))=true->qBGj=v)/\((!Vb (Tar.name t))=false->(decide (Tar.for_ t<qBGj)=true->qBGj=v)/\(decide (Tar.for_ t<qBGj)=false->(decide (Tar.for_ t>(6:Int))=true->qBGj=v)/\(decide (Tar.for_ t>(6:Int))=false->True/\(decide ((qBG5 t)>(64:Int))=true->∃(R:CkX->Prop),(∃(x:CkX),R x/\true=true/\(resF (Tar.name t)=CkX.a x/\true=CkX.b x/\True/\(qBG6 t)/\(qBG5 t)=(qBG5 t)/\qBGo=(qBGe x)/\True)/\([]=Yl qBGb (CkX.m x)/\true=true)/\True)/\∀(x:CkX),R x->(qBG1 x t v R)/\(qBGh x t v))/\(decide ((qBG5 t)>(64:Int))=false->∃(R:CkX->Prop),(∃(x:CkX),R x/\true=true/\(resF (Tar.name t)=CkX.a x/\false=CkX.b x/\True/\(qBG6 t)/\(qBG5 t)=(qBG5 t)/\qBGo=(qBGe x)/\True)/\([]=Yl qBGb (CkX.m x)/\true=true)/\True)/\∀(x:CkX),R x->(qBG1 x t v R)/\(qBGh x t v)))))):=by kernel_rfl
theorem Z5o {g:GH} {t:Tar} {u:Value} (h:Den E σ0 g (tarA t) u):Byt t.name/\∀c∈t.clauses,Byt c.name:=by
 obtain ⟨arr,c,rfl,hs,hc,hd⟩:=Ya h
 refine ⟨Zm5 (hd 0 _ rfl),fun x hx=> ?_⟩
 have h2:=hd 2 (.psl Th.clauses t.clauses false) rfl
 obtain ⟨v,hv⟩:=Z1i h2 x hx 0 (.str false x.name) rfl
 exact Zm5 hv
theorem Zdt (a b:Bool) (m:List (List Nat×Bool)) (c:Cls) (r:List Cls):goC a b m (c::r)=if Wa c=true then goC (a||resF c.name||(Yu m c.name).getD false) (b||decide (8<c.when_.length)||decide (24<Zy c.pay)) (putS m c.name true) r else 1:=rfl
theorem Zpv {l:List Tst} {k:Nat} {w:Tst} (h:l[k]? =some w):(l.drop k).all Z6=(Z6 w&&(l.drop (k+1)).all Z6):=by rw [Wb h,List.all_cons]
theorem Zh0 {β:Type}:∀{m:List (List Nat×β)} {a:List Nat} {v:β},(∀p∈m,Byt p.1)->Byt a->∀p∈putS m a v,Byt p.1
 | [],a,v,_,ha,p,hp=>by
  rw [putS] at hp
  obtain rfl:=List.mem_singleton.1 hp
  exact ha
 |q::m,a,v,hm,ha,p,hp=>by
  rw [putS] at hp
  split at hp
  · rcases List.mem_cons.1 hp with rfl|hp
    · exact hm q (List.mem_cons_self ..)
    · exact hm p (List.mem_cons_of_mem _ hp)
  · rcases List.mem_cons.1 hp with rfl|hp
    · exact hm _ (List.mem_cons_self ..)
    · exact Zh0 (fun q hq=>hm q (List.mem_cons_of_mem _ hq)) ha p hp
theorem Zgu (t : Tar) (hsz : ∀ c ∈ t.clauses, c.pay.sz < 1000000000000 ∧ c.when_.length < 1000000000000) (hl : t.clauses.length < 1000000000000) : PureC E 20 [tarA t] (.int false .i64 (Z7 t)) := by
  refine Z6o (j := 0) rfl (fun g u h => Z5o h) fun hby => Za E_ok (Zi E_ok Z9c 400) ?_
  rw [Z5n]; delta qBG9 qBGj qBGg qBG6 qBGe qBG5 qBGd qBGb qBG3 qBGm qBGn qBGl qBGa qBG7 qBGf qBGo qBGp qBG8 qBG4 qBGi qBGk qBGc qBG2 qBG1 qBGh
  simp only [Yn, Z2, W2, W3, W4, beq_iff_eq, bne_iff_ne, beq_eq_false_iff_ne, bne_eq_false_iff_eq, decide_eq_true_eq, decide_eq_false_iff_not, Bool.or_eq_true, Bool.or_eq_false_iff, Bool.not_eq_true', Bool.not_eq_false', Bool.and_eq_true, Bool.and_true, Bool.true_and, Bool.and_eq_false_iff, beq_self_eq_true, Xh, Y2, ne_eq, and_true, true_and, Bool.true_eq_false, Bool.false_eq_true, false_or, or_false, true_implies, imp_self, Int.ofNat_eq_natCast, not_true_eq_false, not_false_eq_true, Decidable.not_not, Ex.eta]
  unfold Z7
  refine And.intro (fun h1 => ?_) (fun h1 => And.intro (fun h2 => ?_) (fun h2 => And.intro (fun h3 => ?_) (fun h3 => ?_)))
  · rw [if_neg (by rw [h1]; simp)]
  · rw [if_neg (by omega)]
  · rw [if_neg (by omega)]
  · rw [if_pos ⟨h1, by omega, by omega⟩]
    refine And.intro (fun h4 => ?_) (fun h4 => ?_)
    · rw [decide_eq_true (show 64 < t.clauses.length by omega)]
      refine ⟨fun x => x.k ≤ t.clauses.length ∧ (∀ p ∈ x.m, Byt p.1) ∧ goC x.a x.b x.m (t.clauses.drop x.k) = goC (resF t.name) true [] t.clauses ∧ x.r = t.clauses.length - x.k, ⟨⟨0, t.clauses.length, resF t.name, true, []⟩, ⟨(by dsimp only; omega), by simp, rfl, rfl⟩, ⟨rfl, rfl, rfl⟩, rfl⟩, ?_⟩
      rintro x ⟨hk, hm, hv, hr⟩
      refine And.intro (fun hq => ⟨by omega, by omega, fun c hc => ?_⟩) (fun hq => ?_)
      · have hc : t.clauses[x.k]? = some c := hc
        rw [Wb hc, Zdt] at hv
        have hcm := List.mem_of_getElem? hc
        obtain ⟨hs1, hs2⟩ := hsz c hcm
        have hcb := hby.2 c hcm
        refine And.intro (fun h5 => ?_) (fun h5 => ⟨by omega, fun h6 => ?_, fun h6 => ?_⟩)
        · rw [← hv, if_neg (by unfold Wa; rw [h5]; simp)]
        · rw [← hv, if_neg (by unfold Wa; rw [h6]; simp)]
        refine ⟨fun y => y.k ≤ c.when_.length ∧ (c.when_.drop y.k).all Z6 = c.when_.all Z6 ∧ y.r = c.when_.length - y.k, ⟨⟨0, c.when_.length, [], [], 0, 0, 0, 0⟩, ⟨(by dsimp only; omega), rfl, rfl⟩, rfl, Xr E_ok _⟩, ?_⟩
        rintro y ⟨hk2, hv2, hr2⟩
        refine And.intro (fun hq2 => ⟨by omega, by omega, fun w hw => ?_⟩) (fun hq2 => ?_)
        · have hw : c.when_[y.k]? = some w := hw
          rw [Zpv hw] at hv2
          have hT : Z6 w = decide (0 ≤ w.attr ∧ w.attr < 16 ∧ 0 ≤ w.low ∧ w.low ≤ 1099511627776 ∧ 0 ≤ w.high ∧ w.high ≤ 1099511627776) := rfl
          refine ⟨fun b => b = true ↔ Z6 w = false, ?_, fun hQ => ?_, fun hQ => ?_⟩
          · have q1 : (¬ (0 ≤ w.attr ∧ w.attr < 16 ∧ 0 ≤ w.low ∧ w.low ≤ 1099511627776 ∧ 0 ≤ w.high ∧ w.high ≤ 1099511627776)) → ((true = true) ↔ Z6 w = false) := fun h => by rw [hT, decide_eq_false h]; simp
            have q2 : (0 ≤ w.attr ∧ w.attr < 16 ∧ 0 ≤ w.low ∧ w.low ≤ 1099511627776 ∧ 0 ≤ w.high ∧ w.high ≤ 1099511627776) → ((false = true) ↔ Z6 w = false) := fun h => by rw [hT, decide_eq_true h]; simp
            refine And.intro (fun a1 => q1 (by omega)) (fun a1 => And.intro (fun a2 => q1 (by omega)) (fun a2 => And.intro (fun a3 => q1 (by omega)) (fun a3 => And.intro (fun a4 => q1 (by omega)) (fun a4 => q2 (by omega)))))
          · have hQ := hQ.1 rfl
            rw [hQ, Bool.false_and] at hv2
            rw [← hv, if_neg (by unfold Wa; rw [← hv2]; simp)]
          · have hQ : Z6 w = true := by
              cases hh : Z6 w with
              | true => rfl
              | false => have := hQ.2 hh; simp at this
            rw [hQ, Bool.true_and] at hv2
            exact ⟨⟨y.k + 1, c.when_.length - (y.k + 1), [], [], 0, 0, 0, 0⟩, ⟨(by dsimp only; omega), hv2, rfl⟩, by show c.when_.length - (y.k + 1) + 1 ≤ y.r; omega, wr64 (by omega) (by omega), Xr E_ok _⟩
        · rw [Wz (by omega)] at hv2
          have hok : Wa c = true := by unfold Wa; rw [h5, h6, ← hv2]; rfl
          rw [if_pos hok] at hv
          clear hv2 hr2 hq2 hk2 hok
          repeat' (first | (refine And.intro ?_ ?_) | (refine ⟨x.m, rfl, hm, ?_⟩) | (rintro _ rfl) | (intro h))
          all_goals first
            | omega
            | exact hcb
            | (refine ⟨⟨x.k + 1, t.clauses.length - (x.k + 1), _, _, putS x.m c.name true⟩, ⟨(by dsimp only; omega), Zh0 hm hcb, ?_, rfl⟩, (by dsimp only; omega), ⟨rfl, rfl, wr64 (by omega) (by omega)⟩, rfl, Xr E_ok _⟩
               rw [← hv]
               dsimp only
               congr 1
               · first | (simp only [*, Bool.or_true, Bool.true_or, Bool.false_or, Bool.or_false]; done) | (simp only [*, Bool.or_true, Bool.true_or, Bool.false_or, Bool.or_false]; rfl)
               · first | (simp only [*, Bool.or_true, Bool.true_or, Bool.false_or, Bool.or_false]; done) | (simp only [*, Bool.or_true, Bool.true_or, Bool.false_or, Bool.or_false]; symm; simp only [Bool.or_eq_true, Bool.or_eq_false_iff, decide_eq_true_eq, decide_eq_false_iff_not]; omega))
      · rw [Wz (by omega)] at hv
        rw [← hv]
        unfold goC
        refine And.intro (fun a1 => by rw [if_pos a1]) (fun a1 => And.intro (fun a2 => by rw [if_neg (by rw [a1]; simp), if_pos a2]) (fun a2 => by rw [if_neg (by rw [a1]; simp), if_neg (by rw [a2]; simp)]))
    · rw [decide_eq_false (show ¬ 64 < t.clauses.length by omega)]
      refine ⟨fun x => x.k ≤ t.clauses.length ∧ (∀ p ∈ x.m, Byt p.1) ∧ goC x.a x.b x.m (t.clauses.drop x.k) = goC (resF t.name) false [] t.clauses ∧ x.r = t.clauses.length - x.k, ⟨⟨0, t.clauses.length, resF t.name, false, []⟩, ⟨(by dsimp only; omega), by simp, rfl, rfl⟩, ⟨rfl, rfl, rfl⟩, rfl⟩, ?_⟩
      rintro x ⟨hk, hm, hv, hr⟩
      refine And.intro (fun hq => ⟨by omega, by omega, fun c hc => ?_⟩) (fun hq => ?_)
      · have hc : t.clauses[x.k]? = some c := hc
        rw [Wb hc, Zdt] at hv
        have hcm := List.mem_of_getElem? hc
        obtain ⟨hs1, hs2⟩ := hsz c hcm
        have hcb := hby.2 c hcm
        refine And.intro (fun h5 => ?_) (fun h5 => ⟨by omega, fun h6 => ?_, fun h6 => ?_⟩)
        · rw [← hv, if_neg (by unfold Wa; rw [h5]; simp)]
        · rw [← hv, if_neg (by unfold Wa; rw [h6]; simp)]
        refine ⟨fun y => y.k ≤ c.when_.length ∧ (c.when_.drop y.k).all Z6 = c.when_.all Z6 ∧ y.r = c.when_.length - y.k, ⟨⟨0, c.when_.length, [], [], 0, 0, 0, 0⟩, ⟨(by dsimp only; omega), rfl, rfl⟩, rfl, Xr E_ok _⟩, ?_⟩
        rintro y ⟨hk2, hv2, hr2⟩
        refine And.intro (fun hq2 => ⟨by omega, by omega, fun w hw => ?_⟩) (fun hq2 => ?_)
        · have hw : c.when_[y.k]? = some w := hw
          rw [Zpv hw] at hv2
          have hT : Z6 w = decide (0 ≤ w.attr ∧ w.attr < 16 ∧ 0 ≤ w.low ∧ w.low ≤ 1099511627776 ∧ 0 ≤ w.high ∧ w.high ≤ 1099511627776) := rfl
          refine ⟨fun b => b = true ↔ Z6 w = false, ?_, fun hQ => ?_, fun hQ => ?_⟩
          · have q1 : (¬ (0 ≤ w.attr ∧ w.attr < 16 ∧ 0 ≤ w.low ∧ w.low ≤ 1099511627776 ∧ 0 ≤ w.high ∧ w.high ≤ 1099511627776)) → ((true = true) ↔ Z6 w = false) := fun h => by rw [hT, decide_eq_false h]; simp
            have q2 : (0 ≤ w.attr ∧ w.attr < 16 ∧ 0 ≤ w.low ∧ w.low ≤ 1099511627776 ∧ 0 ≤ w.high ∧ w.high ≤ 1099511627776) → ((false = true) ↔ Z6 w = false) := fun h => by rw [hT, decide_eq_true h]; simp
            refine And.intro (fun a1 => q1 (by omega)) (fun a1 => And.intro (fun a2 => q1 (by omega)) (fun a2 => And.intro (fun a3 => q1 (by omega)) (fun a3 => And.intro (fun a4 => q1 (by omega)) (fun a4 => q2 (by omega)))))
          · have hQ := hQ.1 rfl
            rw [hQ, Bool.false_and] at hv2
            rw [← hv, if_neg (by unfold Wa; rw [← hv2]; simp)]
          · have hQ : Z6 w = true := by
              cases hh : Z6 w with
              | true => rfl
              | false => have := hQ.2 hh; simp at this
            rw [hQ, Bool.true_and] at hv2
            exact ⟨⟨y.k + 1, c.when_.length - (y.k + 1), [], [], 0, 0, 0, 0⟩, ⟨(by dsimp only; omega), hv2, rfl⟩, by show c.when_.length - (y.k + 1) + 1 ≤ y.r; omega, wr64 (by omega) (by omega), Xr E_ok _⟩
        · rw [Wz (by omega)] at hv2
          have hok : Wa c = true := by unfold Wa; rw [h5, h6, ← hv2]; rfl
          rw [if_pos hok] at hv
          clear hv2 hr2 hq2 hk2 hok
          repeat' (first | (refine And.intro ?_ ?_) | (refine ⟨x.m, rfl, hm, ?_⟩) | (rintro _ rfl) | (intro h))
          all_goals first
            | omega
            | exact hcb
            | (refine ⟨⟨x.k + 1, t.clauses.length - (x.k + 1), _, _, putS x.m c.name true⟩, ⟨(by dsimp only; omega), Zh0 hm hcb, ?_, rfl⟩, (by dsimp only; omega), ⟨rfl, rfl, wr64 (by omega) (by omega)⟩, rfl, Xr E_ok _⟩
               rw [← hv]
               dsimp only
               congr 1
               · first | (simp only [*, Bool.or_true, Bool.true_or, Bool.false_or, Bool.or_false]; done) | (simp only [*, Bool.or_true, Bool.true_or, Bool.false_or, Bool.or_false]; rfl)
               · first | (simp only [*, Bool.or_true, Bool.true_or, Bool.false_or, Bool.or_false]; done) | (simp only [*, Bool.or_true, Bool.true_or, Bool.false_or, Bool.or_false]; symm; simp only [Bool.or_eq_true, Bool.or_eq_false_iff, decide_eq_true_eq, decide_eq_false_iff_not]; omega))
      · rw [Wz (by omega)] at hv
        rw [← hv]
        unfold goC
        refine And.intro (fun a1 => by rw [if_pos a1]) (fun a1 => And.intro (fun a2 => by rw [if_neg (by rw [a1]; simp), if_pos a2]) (fun a2 => by rw [if_neg (by rw [a1]; simp), if_neg (by rw [a2]; simp)]))
end
section
open Go
noncomputable def Zx5:Sum thy:=sumF E (fun _=>none) 10 (dA1 (dR .tariffs)) (fun x=>(∀c∈Tar.clauses x.1,c.pay.sz<1000000000000/\c.when_.length<1000000000000)/\(Tar.clauses x.1).length<1000000000000) fun x=> .int false .i64 (Z7 x.1)
theorem Zx6:SumOk E 20 Zx5:=Zwz E_ok (Zd (f:=20) rfl) fun x h=>Zgu _ h.1 h.2
--@cond form17 | 46 | (addS F0 20 Zx5)>(Fform17 m) | 400 | (m : Nat) (x : Ex) | [exA x] | (v : Bool) | .bool false v
--@end
end
section
open Go
noncomputable def Z6y:Dc E (List (List Int)):=(Zog (E:=E) Th.dims:Dc E (List (thy.dom Th.dims)))
def dPow:Dc E Int where
 dec v:=match v with| .pptr Th.ints n 0=>some n|_=>none
 enc n:= .pptr Th.ints n 0
 ok v a h:=by
  split at h
  · cases h;exact ⟨rfl,rfl,fun _ _ _ h=>h⟩
  · cases h
def dimV (d:List Int):SV thy:= .agg (encF false .dims d)
def optV (o:Option (List Int)):SV thy:= .tup [dimV (o.getD [0,0,0,0]),.bool false o.isSome]
abbrev qBIk:=(2:Int)
abbrev qBIl:=(2:Nat)
abbrev qBIf:=(0:Nat)
abbrev qBI6:=(0:Int)
abbrev qBI2 (a0:List Int) (b0:Int) (c0:List Int):=(List.set [qBI6,qBI6,qBI6,qBI6] (Int.toNat qBI6) (wr IntKind.i64 (List.getD a0 qBIf qBI6+wr IntKind.i64 (b0*List.getD c0 qBIf qBI6))))
abbrev qBIa:=(1:Nat)
abbrev qBI8:=(1:Int)
abbrev qBI5 (a0:List Int) (b0:Int) (c0:List Int) (d0:List Int) (e0:List Int):=(List.set (qBI2 a0 b0 c0) (Int.toNat qBI8) (wr IntKind.i64 (List.getD d0 qBIa qBI6+wr IntKind.i64 (b0*List.getD e0 qBIa qBI6))))
abbrev qBI1 (a0:List Int) (b0:Int) (c0:List Int) (d0:List Int) (e0:List Int) (f0:List Int) (g0:List Int):=(List.set (qBI5 a0 b0 c0 d0 e0) (Int.toNat qBIk) (wr IntKind.i64 (List.getD f0 qBIl qBI6+wr IntKind.i64 (b0*List.getD g0 qBIl qBI6))))
abbrev qBIm:=(3:Nat)
abbrev qBI3 (a0:List Int) (b0:Int) (c0:List Int):=(wr IntKind.i64 (List.getD a0 qBIm qBI6+wr IntKind.i64 (b0*List.getD c0 qBIm qBI6)))
abbrev qBI4 (a0:List Int):=(List.getD [qBI6,qBI6,qBI6,qBI6] qBIf qBI6=List.getD a0 qBIf qBI6/\List.getD [qBI6,qBI6,qBI6,qBI6] qBIa qBI6=List.getD a0 qBIa qBI6/\List.getD [qBI6,qBI6,qBI6,qBI6] qBIl qBI6=List.getD a0 qBIl qBI6/\List.getD [qBI6,qBI6,qBI6,qBI6] qBIm qBI6=List.getD a0 qBIm qBI6/\True)
abbrev qBIb:=(3:Int)
abbrev qBI7:=(Int.toNat qBIb)
abbrev qBIc:=(4:Nat)
abbrev qBI9:=(↑qBIc:Int)
abbrev qBId (a0:List (List Int)):=(↑(List.length a0):Int)
abbrev qBIe:=(qBI6<=qBIk/\qBIk+qBI8<=qBI9)
abbrev qBIg:=(qBI6<=qBI6/\qBI6+qBI8<=qBI9)
abbrev qBIh:=(qBI6<=qBI8/\qBI8+qBI8<=qBI9)
abbrev qBIi:=(qBI6<=qBIb/\qBIb+qBI8<=qBI9)
abbrev qBIj (a0:Int) (b0:Bool->Prop):=(decide (a0<(-3:Int))=true->b0 true)
theorem Z1u (ds:List (List Int)) (n:Int) (d:List Int) (b:Bool):Zg E F0 (vc E F0 2000) 81 [.psl Th.dims ds false,.pptr Th.ints n 0] hp0 0 (fun r=>ret E (patch hp0 0 r) r.v (.tup [dimV d,.bool false b]))=(
 qBI6<=qBI6/\qBI6+qBI8<=(qBId ds)/\∀(x:List Int),ds[Int.toNat qBI6]? =some x->qBI6<=qBI8/\qBI8+qBI8<=(qBId ds)/\∀(x_1:List Int),ds[Int.toNat qBI8]? =some x_1->qBIg/\qBIf<=Int.toNat qBI6/\Int.toNat qBI6+qBIa<=qBIc/\∀(x_2:Int),[qBI6,qBI6,qBI6,qBI6][Int.toNat qBI6]? =some x_2->∃(Q:Bool->Prop),(qBIg/\Int.toNat qBI6+qBIa<=List.length (qBI2 x n x_1)/\∀(x_3:Int),(qBI2 x n x_1)[Int.toNat qBI6]? =some x_3->(qBIj x_3 Q)/\(decide (x_3<(-3:Int))=false->qBIg/\Int.toNat qBI6+qBIa<=List.length (qBI2 x n x_1)/\∀(x_4:Int),(qBI2 x n x_1)[Int.toNat qBI6]? =some x_4->(decide (x_4>qBIb)=true->Q true)/\(decide (x_4>qBIb)=false->Q false)))/\(Q true->List.length (qBI2 x n x_1)=qBIc/\qBIc=qBIc/\(qBI4 d)/\false=b/\True)/\(Q false->qBI6<=qBI6/\qBI6+qBI8<=(qBId ds)/\∀(x_3:List Int),ds[Int.toNat qBI6]? =some x_3->qBI6<=qBI8/\qBI8+qBI8<=(qBId ds)/\∀(x_4:List Int),ds[Int.toNat qBI8]? =some x_4->qBIh/\qBIf<=Int.toNat qBI8/\Int.toNat qBI8+qBIa<=List.length (qBI2 x n x_1)/\∀(x_5:Int),(qBI2 x n x_1)[Int.toNat qBI8]? =some x_5->∃(Q:Bool->Prop),(qBIh/\Int.toNat qBI8+qBIa<=List.length (qBI5 x n x_1 x_3 x_4)/\∀(x_6:Int),(qBI5 x n x_1 x_3 x_4)[Int.toNat qBI8]? =some x_6->(qBIj x_6 Q)/\(decide (x_6<(-3:Int))=false->qBIh/\Int.toNat qBI8+qBIa<=List.length (qBI5 x n x_1 x_3 x_4)/\∀(x_7:Int),(qBI5 x n x_1 x_3 x_4)[Int.toNat qBI8]? =some x_7->(decide (x_7>qBIb)=true->Q true)/\(decide (x_7>qBIb)=false->Q false)))/\(Q true->List.length (qBI5 x n x_1 x_3 x_4)=qBIc/\qBIc=qBIc/\(qBI4 d)/\false=b/\True)/\(Q false->qBI6<=qBI6/\qBI6+qBI8<=(qBId ds)/\∀(x_6:List Int),ds[Int.toNat qBI6]? =some x_6->qBI6<=qBI8/\qBI8+qBI8<=(qBId ds)/\∀(x_7:List Int),ds[Int.toNat qBI8]? =some x_7->qBIe/\qBIf<=Int.toNat qBIk/\Int.toNat qBIk+qBIa<=List.length (qBI5 x n x_1 x_3 x_4)/\∀(x_8:Int),(qBI5 x n x_1 x_3 x_4)[Int.toNat qBIk]? =some x_8->∃(Q:Bool->Prop),(qBIe/\Int.toNat qBIk+qBIa<=List.length (qBI1 x n x_1 x_3 x_4 x_6 x_7)/\∀(x_9:Int),(qBI1 x n x_1 x_3 x_4 x_6 x_7)[Int.toNat qBIk]? =some x_9->(qBIj x_9 Q)/\(decide (x_9<(-3:Int))=false->qBIe/\Int.toNat qBIk+qBIa<=List.length (qBI1 x n x_1 x_3 x_4 x_6 x_7)/\∀(x_10:Int),(qBI1 x n x_1 x_3 x_4 x_6 x_7)[Int.toNat qBIk]? =some x_10->(decide (x_10>qBIb)=true->Q true)/\(decide (x_10>qBIb)=false->Q false)))/\(Q true->List.length (qBI1 x n x_1 x_3 x_4 x_6 x_7)=qBIc/\qBIc=qBIc/\(qBI4 d)/\false=b/\True)/\(Q false->qBI6<=qBI6/\qBI6+qBI8<=(qBId ds)/\∀(x_9:List Int),ds[Int.toNat qBI6]? =some x_9->qBI6<=qBI8/\qBI8+qBI8<=(qBId ds)/\∀(x_10:List Int),ds[Int.toNat qBI8]? =some x_10->qBIi/\qBIf<=Int.toNat qBIb/\Int.toNat qBIb+qBIa<=List.length (qBI1 x n x_1 x_3 x_4 x_6 x_7)/\∀(x_11:Int),(qBI1 x n x_1 x_3 x_4 x_6 x_7)[Int.toNat qBIb]? =some x_11->∃(Q:Bool->Prop),(qBIi/\Int.toNat qBIb+qBIa<=List.length (List.set (qBI1 x n x_1 x_3 x_4 x_6 x_7) qBI7 (qBI3 x_9 n x_10))/\∀(x_12:Int),(List.set (qBI1 x n x_1 x_3 x_4 x_6 x_7) qBI7 (qBI3 x_9 n x_10))[Int.toNat qBIb]? =some x_12->(qBIj x_12 Q)/\(decide (x_12<(-3:Int))=false->qBIi/\Int.toNat qBIb+qBIa<=List.length (List.set (qBI1 x n x_1 x_3 x_4 x_6 x_7) qBI7 (qBI3 x_9 n x_10))/\∀(x_13:Int),(List.set (qBI1 x n x_1 x_3 x_4 x_6 x_7) qBI7 (qBI3 x_9 n x_10))[Int.toNat qBIb]? =some x_13->(decide (x_13>qBIb)=true->Q true)/\(decide (x_13>qBIb)=false->Q false)))/\(Q true->List.length (List.set (qBI1 x n x_1 x_3 x_4 x_6 x_7) qBI7 (qBI3 x_9 n x_10))=qBIc/\qBIc=qBIc/\(qBI4 d)/\false=b/\True)/\(Q false->List.length (List.set (qBI1 x n x_1 x_3 x_4 x_6 x_7) qBI7 (qBI3 x_9 n x_10))=qBIc/\List.length (List.set (qBI1 x n x_1 x_3 x_4 x_6 x_7) qBI7 (qBI3 x_9 n x_10))=qBIc/\qBIc=qBIc/\(List.getD [List.getD (List.set (qBI1 x n x_1 x_3 x_4 x_6 x_7) qBI7 (qBI3
x_9 n x_10)) qBIf qBI6,List.getD (List.set (qBI1 x n x_1 x_3 x_4 x_6 x_7) qBI7 (qBI3 x_9 n x_10)) qBIa qBI6,List.getD (List.set (qBI1 x n x_1 x_3 x_4 x_6 x_7) qBI7 (qBI3 x_9 n x_10)) qBIl qBI6,List.getD (List.set (qBI1 x n x_1 x_3 x_4 x_6 x_7) qBI7 (qBI3 x_9 n x_10)) qBIm qBI6] qBIf qBI6=List.getD d qBIf qBI6/\List.getD [List.getD (List.set (qBI1 x n x_1 x_3 x_4 x_6 x_7) qBI7 (qBI3 x_9 n x_10)) qBIf qBI6,List.getD (List.set (qBI1 x n x_1 x_3 x_4 x_6 x_7) qBI7 (qBI3 x_9 n x_10)) qBIa qBI6,List.getD (List.set (qBI1 x n x_1 x_3 x_4 x_6 x_7) qBI7 (qBI3 x_9 n x_10)) qBIl qBI6,List.getD (List.set (qBI1 x n x_1 x_3 x_4 x_6 x_7) qBI7 (qBI3 x_9 n x_10)) qBIm qBI6] qBIa qBI6=List.getD d qBIa qBI6/\List.getD [List.getD (List.set (qBI1 x n x_1 x_3 x_4 x_6 x_7) qBI7 (qBI3 x_9 n x_10)) qBIf qBI6,List.getD (List.set (qBI1 x n x_1 x_3 x_4 x_6 x_7) qBI7 (qBI3 x_9 n x_10)) qBIa qBI6,List.getD (List.set (qBI1 x n x_1 x_3 x_4 x_6 x_7) qBI7 (qBI3 x_9 n x_10)) qBIl qBI6,List.getD (List.set (qBI1 x n x_1 x_3 x_4 x_6 x_7) qBI7 (qBI3 x_9 n x_10)) qBIm qBI6] qBIl qBI6=List.getD d qBIl qBI6/\List.getD [List.getD (List.set (qBI1 x n x_1 x_3 x_4 x_6 x_7) qBI7 (qBI3 x_9 n x_10)) qBIf qBI6,List.getD (List.set (qBI1 x n x_1 x_3 x_4 x_6 x_7) qBI7 (qBI3 x_9 n x_10)) qBIa qBI6,List.getD (List.set (qBI1 x n x_1 x_3 x_4 x_6 x_7) qBI7 (qBI3 x_9 n x_10)) qBIl qBI6,List.getD (List.set (qBI1 x n x_1 x_3 x_4 x_6 x_7) qBI7 (qBI3 x_9 n x_10)) qBIm qBI6] qBIm qBI6=List.getD d qBIm qBI6/\True)/\true=b/\True))))):=by kernel_rfl
theorem Zfd (c:Int):in3 c=true↔(-3<=c/\c<=3):=by
 unfold in3
 simp only [Bool.not_eq_true',Bool.or_eq_false_iff,decide_eq_false_iff_not]
 omega
theorem q3 (c:Int) {Kt Kf:Prop} (h1:in3 c=false->Kt) (h2:in3 c=true->Kf):∃Q:Bool->Prop,((c< -3->Q true)/\(¬c< -3->(c>3->Q true)/\(¬c>3->Q false)))/\(Q true->Kt)/\(Q false->Kf):=by
 have hi:=Zfd c
 have hf:¬(-3<=c/\c<=3)->in3 c=false:=fun h=>by rw [<-Bool.not_eq_true,hi];exact h
 refine ⟨fun q=>q=true↔in3 c=false,And.intro (fun h=>⟨fun _=>hf (by omega),fun _=>rfl⟩) (fun h=>And.intro (fun h'=>⟨fun _=>hf (by omega),fun _=>rfl⟩) (fun h'=>⟨fun h=>(by cases h),fun h=> ?_⟩)),fun h=>h1 (h.1 rfl),fun h=>h2 ?_⟩
 · rw [hi.2 (by omega)] at h;cases h
 · cases hh:in3 c with
   |true=>rfl
   |false=>exact absurd (h.2 hh) (by simp)
theorem Z1v (ds:List (List Int)) (n:Int) (h2:2<=ds.length):PureC E 81 [.psl Th.dims ds false,.pptr Th.ints n 0] (optV (cmb n (ds.getD 0 []) (ds.getD 1 []))):=by
 match ds,h2 with
 |a::b::r,h2=>
 refine Za E_ok (Z2z 2000) ?_
 unfold optV
 rw [Z1u];delta qBIk qBIl qBIf qBI6 qBI2 qBIa qBI8 qBI5 qBI1 qBIm qBI3 qBI4 qBIb qBI7 qBIc qBI9 qBId qBIe qBIg qBIh qBIi qBIj
 have e:∀x y,wr IntKind.i64 (x+wr IntKind.i64 (n*y))=cmb1 n x y:=fun _ _=>rfl
 simp only [Yn,Z2,W2,W3,W4,beq_iff_eq,bne_iff_ne,beq_eq_false_iff_ne,bne_eq_false_iff_eq,decide_eq_true_eq,decide_eq_false_iff_not,Bool.or_eq_true,Bool.or_eq_false_iff,Bool.not_eq_true',Bool.not_eq_false',Bool.and_eq_true,Bool.and_true,Bool.true_and,Bool.and_eq_false_iff,beq_self_eq_true,Xh,Y2,ne_eq,and_true,true_and,Bool.true_eq_false,Bool.false_eq_true,false_or,or_false,true_implies,imp_self,Int.ofNat_eq_natCast,not_true_eq_false,not_false_eq_true,Decidable.not_not,List.getElem?_cons_zero,List.getElem?_cons_succ,Option.some.injEq,forall_eq',forall_eq,List.set_cons_zero,List.set_cons_succ,List.length_cons,List.length_nil,List.getD_cons_zero,List.getD_cons_succ,tn0,tn1,tn2,tn3,Int.le_refl,Nat.le_refl,Nat.reduceAdd,Int.reduceAdd,Int.reduceLE,Nat.reduceLeDiff,cn4,cn16,e]
 unfold cmb
 generalize cmb1 n (a.getD 0 0) (b.getD 0 0)=c0
 generalize cmb1 n (a.getD 1 0) (b.getD 1 0)=c1
 generalize cmb1 n (a.getD 2 0) (b.getD 2 0)=c2
 generalize cmb1 n (a.getD 3 0) (b.getD 3 0)=c3
 simp only [List.length_cons] at h2
 repeat' (first|omega|(refine q3 _ (fun h=> ?_) (fun h=> ?_))|(refine And.intro ?_ ?_))
 all_goals simp [*]
abbrev qBIp:=(0:Int)
abbrev qBIn (a0:List Int) (b0:List Int):=(List.getD [List.getD a0 (0:Nat) qBIp,List.getD a0 (1:Nat) qBIp,List.getD a0 (2:Nat) qBIp,List.getD a0 (3:Nat) qBIp] (0:Nat) qBIp=List.getD b0 (0:Nat) qBIp/\List.getD [List.getD a0 (0:Nat) qBIp,List.getD a0 (1:Nat) qBIp,List.getD a0 (2:Nat) qBIp,List.getD a0 (3:Nat) qBIp] (1:Nat) qBIp=List.getD b0 (1:Nat) qBIp/\List.getD [List.getD a0 (0:Nat) qBIp,List.getD a0 (1:Nat) qBIp,List.getD a0 (2:Nat) qBIp,List.getD a0 (3:Nat) qBIp] (2:Nat) qBIp=List.getD b0 (2:Nat) qBIp/\List.getD [List.getD a0 (0:Nat) qBIp,List.getD a0 (1:Nat) qBIp,List.getD a0 (2:Nat) qBIp,List.getD a0 (3:Nat) qBIp] (3:Nat) qBIp=List.getD b0 (3:Nat) qBIp/\True)
abbrev qBIo (a0:List Int) (b0:List Int):=(List.getD a0 (0:Nat) qBIp==List.getD b0 (0:Nat) qBIp&&(List.getD a0 (1:Nat) qBIp==List.getD b0 (1:Nat) qBIp&&(List.getD a0 (2:Nat) qBIp==List.getD b0 (2:Nat) qBIp&&(List.getD a0 (3:Nat) qBIp==List.getD b0 (3:Nat) qBIp&&true))))
theorem Zsw (ds:List (List Int)) (d:List Int) (b:Bool):Zg E F0 (vc E F0 400) 52 [.psl Th.dims ds false] hp0 0 (fun r=>ret E (patch hp0 0 r) r.v (.tup [dimV d,.bool false b]))=(
 qBIp<=qBIp/\qBIp+(1:Int)<=(↑(List.length ds):Int)/\∀(x:List Int),ds[Int.toNat qBIp]? =some x->qBIp<=qBIp/\qBIp+(1:Int)<=(↑(List.length ds):Int)/\∀(x_1:List Int),ds[Int.toNat qBIp]? =some x_1->qBIp<=(1:Int)/\(1:Int)+(1:Int)<=(↑(List.length ds):Int)/\∀(x_2:List Int),ds[Int.toNat (1:Int)]? =some x_2->((qBIo x_1 x_2)=true->(4:Nat)=(4:Nat)/\(4:Nat)=(4:Nat)/\(qBIn x d)/\true=b/\True)/\((qBIo x_1 x_2)=false->(4:Nat)=(4:Nat)/\(4:Nat)=(4:Nat)/\(qBIn x d)/\false=b/\True)):=by kernel_rfl
def eq4 (a b:List Int):Bool:=a.getD 0 0==b.getD 0 0&&(a.getD 1 0==b.getD 1 0&&(a.getD 2 0==b.getD 2 0&&a.getD 3 0==b.getD 3 0))
theorem Z6z {a b:List Int} (h:a.getD 0 0=b.getD 0 0/\a.getD 1 0=b.getD 1 0/\a.getD 2 0=b.getD 2 0/\a.getD 3 0=b.getD 3 0):eq4 a b=true:=by
 unfold eq4
 simp only [Bool.and_eq_true,beq_iff_eq];exact h
theorem Z60 {a b:List Int} (h:¬a.getD 0 0=b.getD 0 0\/¬a.getD 1 0=b.getD 1 0\/¬a.getD 2 0=b.getD 2 0\/¬a.getD 3 0=b.getD 3 0):eq4 a b=false:=by
 rw [Bool.eq_false_iff]
 intro h'
 unfold eq4 at h'
 simp only [Bool.and_eq_true,beq_iff_eq] at h'
 omega
theorem Znh {a b:List Int} (ha:Is4 a) (hb:Is4 b):eq4 a b=decide (a=b):=by
 obtain ⟨a0,a1,a2,a3,rfl⟩:=ha
 obtain ⟨b0,b1,b2,b3,rfl⟩:=hb
 rw [Bool.eq_iff_iff,decide_eq_true_eq]
 unfold eq4
 simp
theorem Zsx (ds:List (List Int)) (h2:2<=ds.length):PureC E 52 [.psl Th.dims ds false] (.tup [dimV (ds.getD 0 []),.bool false (eq4 (ds.getD 0 []) (ds.getD 1 []))]):=by
 match ds,h2 with
 |a::b::r,h2=>
 refine Za E_ok (Z2z 400) ?_
 rw [Zsw];delta qBIp qBIn qBIo
 simp only [Yn,Z2,W2,W3,W4,beq_iff_eq,bne_iff_ne,beq_eq_false_iff_ne,bne_eq_false_iff_eq,decide_eq_true_eq,decide_eq_false_iff_not,Bool.or_eq_true,Bool.or_eq_false_iff,Bool.not_eq_true',Bool.not_eq_false',Bool.and_eq_true,Bool.and_true,Bool.true_and,Bool.and_eq_false_iff,beq_self_eq_true,Xh,Y2,ne_eq,and_true,true_and,Bool.true_eq_false,Bool.false_eq_true,false_or,or_false,true_implies,imp_self,Int.ofNat_eq_natCast,not_true_eq_false,not_false_eq_true,Decidable.not_not,List.getElem?_cons_zero,List.getElem?_cons_succ,Option.some.injEq,forall_eq',forall_eq,List.set_cons_zero,List.set_cons_succ,List.length_cons,List.length_nil,List.getD_cons_zero,List.getD_cons_succ,tn0,tn1,tn2,tn3,Int.le_refl,Nat.le_refl,Nat.reduceAdd,Int.reduceAdd,Int.reduceLE,Nat.reduceLeDiff,cn4,cn16]
 simp only [List.length_cons] at h2
 refine ⟨by omega,by omega,by omega,fun h=> ?_,fun h=> ?_⟩
 · exact (Z6z h).symm
 · exact (Z60 h).symm
abbrev qBIs:=(0:Int)
abbrev qBIq (a0:List Int) (b0:List Int):=(List.getD [List.getD a0 (0:Nat) qBIs,List.getD a0 (1:Nat) qBIs,List.getD a0 (2:Nat) qBIs,List.getD a0 (3:Nat) qBIs] (0:Nat) qBIs=List.getD b0 (0:Nat) qBIs/\List.getD [List.getD a0 (0:Nat) qBIs,List.getD a0 (1:Nat) qBIs,List.getD a0 (2:Nat) qBIs,List.getD a0 (3:Nat) qBIs] (1:Nat) qBIs=List.getD b0 (1:Nat) qBIs/\List.getD [List.getD a0 (0:Nat) qBIs,List.getD a0 (1:Nat) qBIs,List.getD a0 (2:Nat) qBIs,List.getD a0 (3:Nat) qBIs] (2:Nat) qBIs=List.getD b0 (2:Nat) qBIs/\List.getD [List.getD a0 (0:Nat) qBIs,List.getD a0 (1:Nat) qBIs,List.getD a0 (2:Nat) qBIs,List.getD a0 (3:Nat) qBIs] (3:Nat) qBIs=List.getD b0 (3:Nat) qBIs/\True)
abbrev qBIr (a0:List Int) (b0:List Int):=(List.getD a0 (0:Nat) qBIs==List.getD b0 (0:Nat) qBIs&&(List.getD a0 (1:Nat) qBIs==List.getD b0 (1:Nat) qBIs&&(List.getD a0 (2:Nat) qBIs==List.getD b0 (2:Nat) qBIs&&(List.getD a0 (3:Nat) qBIs==List.getD b0 (3:Nat) qBIs&&true))))
abbrev qBIt:=(4:Nat)
theorem Zsy (ds:List (List Int)) (d:List Int) (b:Bool):Zg E F0 (vc E F0 400) 53 [.psl Th.dims ds false] hp0 0 (fun r=>ret E (patch hp0 0 r) r.v (.tup [dimV d,.bool false b]))=(
 qBIs<=(2:Int)/\(2:Int)+(1:Int)<=(↑(List.length ds):Int)/\∀(x:List Int),ds[Int.toNat (2:Int)]? =some x->qBIs<=qBIs/\qBIs+(1:Int)<=(↑(List.length ds):Int)/\∀(x_1:List Int),ds[Int.toNat qBIs]? =some x_1->qBIs<=(1:Int)/\(1:Int)+(1:Int)<=(↑(List.length ds):Int)/\∀(x_2:List Int),ds[Int.toNat (1:Int)]? =some x_2->((qBIr x_1 x_2)=true->qBIs<=(2:Int)/\(2:Int)+(1:Int)<=(↑(List.length ds):Int)/\∀(x_3:List Int),ds[Int.toNat (2:Int)]? =some x_3->qBIs<=(3:Int)/\(3:Int)+(1:Int)<=(↑(List.length ds):Int)/\∀(x_4:List Int),ds[Int.toNat (3:Int)]? =some x_4->((qBIr x_3 x_4)=true->qBIt=qBIt/\qBIt=qBIt/\(qBIq x d)/\true=b/\True)/\((qBIr x_3 x_4)=false->qBIt=qBIt/\qBIt=qBIt/\(qBIq x d)/\false=b/\True))/\((qBIr x_1 x_2)=false->qBIt=qBIt/\qBIt=qBIt/\(qBIq x d)/\false=b/\True)):=by kernel_rfl
theorem Zsz (ds:List (List Int)) (h2:4<=ds.length):PureC E 53 [.psl Th.dims ds false] (.tup [dimV (ds.getD 2 []),.bool false (eq4 (ds.getD 0 []) (ds.getD 1 [])&&eq4 (ds.getD 2 []) (ds.getD 3 []))]):=by
 match ds,h2 with
 |a::b::c::d::r,h2=>
 refine Za E_ok (Z2z 400) ?_
 rw [Zsy];delta qBIs qBIq qBIr qBIt
 simp only [Yn,Z2,W2,W3,W4,beq_iff_eq,bne_iff_ne,beq_eq_false_iff_ne,bne_eq_false_iff_eq,decide_eq_true_eq,decide_eq_false_iff_not,Bool.or_eq_true,Bool.or_eq_false_iff,Bool.not_eq_true',Bool.not_eq_false',Bool.and_eq_true,Bool.and_true,Bool.true_and,Bool.and_eq_false_iff,beq_self_eq_true,Xh,Y2,ne_eq,and_true,true_and,Bool.true_eq_false,Bool.false_eq_true,false_or,or_false,true_implies,imp_self,Int.ofNat_eq_natCast,not_true_eq_false,not_false_eq_true,Decidable.not_not,List.getElem?_cons_zero,List.getElem?_cons_succ,Option.some.injEq,forall_eq',forall_eq,List.set_cons_zero,List.set_cons_succ,List.length_cons,List.length_nil,List.getD_cons_zero,List.getD_cons_succ,tn0,tn1,tn2,tn3,Int.le_refl,Nat.le_refl,Nat.reduceAdd,Int.reduceAdd,Int.reduceLE,Nat.reduceLeDiff,cn4,cn16]
 simp only [List.length_cons] at h2
 refine ⟨by omega,by omega,by omega,fun h=>⟨by omega,by omega,fun h'=> ?_,fun h'=> ?_⟩,fun h=> ?_⟩
 · rw [Z6z h,Z6z h'];rfl
 · rw [Z60 h',Bool.and_false]
 · rw [Z60 h,Bool.false_and]
end
section
open Go
open Classical in
noncomputable def dRul:Dc E Unit where
  dec v:=if v=Xg then some () else none
  enc _:=Xg
  ok v a h:=by
    split at h
    · rename_i e;subst e;exact ⟨rfl,rfl,fun _ _ _ h=>h⟩
    · cases h
noncomputable def Zj2 (m:Nat):Sum thy:=fun args h i k=>match args with
  | [r,xv]=>r=Xg/\(match (dR .exprs).dec xv with|some x=>((x:Ex).sz<m/\Zz x=true)/\∀o,o=V9 x->k (quiet [] (optV o))|none=>False)
  |_=>False
theorem Zj3 {m:Nat} (hp:∀x:Ex,x.sz<m->Zz x=true->PureC E 22 [Xg,exA x] (optV (V9 x))):SumOk E 22 (Zj2 m):=by
  refine ⟨Zd (f:=22) rfl,fun args h i k hD hk=> ?_⟩
  unfold Zj2 at hk
  split at hk
  · rename_i r xv
    obtain ⟨rfl,hk⟩:=hk
    split at hk
    · rename_i x hx
      obtain ⟨⟨h1,h2⟩,hk⟩:=hk
      have hd:(DcL.cons dRul (dA1 (dR .exprs))).dec [Xg,xv]=some ((),x,()):=by
        have h0:(dRul).dec Xg=some ():=by unfold dRul;simp
        simp only [DcL.cons,dA1,DcL.nil,h0,hx]
      have hpure:PureC E 22 [Xg,xv] (optV (V9 x)):=PureC.of_dec hd (hp x h1 h2)
      have hn:=(DcL.cons dRul (dA1 (dR .exprs))).ok _ _ hd
      exact ⟨_,hk _ rfl,(hpure.tri E_ok hn.1 h i).1,.inl (hpure.tri E_ok hn.1 h i).2⟩
    · exact hk.elim
  · exact hk.elim
noncomputable def Spow:Sum thy:=Zsn E (fun _=>none) 10 (dA2 Z6y dPow) (fun x=>2<=x.1.length) (fun x=>cmb x.2.1 (x.1.getD 0 []) (x.1.getD 1 [])) optV
theorem Z5k:SumOk E 81 Spow:=Zdv E_ok (Zd (f:=81) rfl) fun x h=>Z1v _ _ h
def prV (p:List Int×Bool):SV thy:= .tup [dimV p.1,.bool false p.2]
noncomputable def Z88:Sum thy:=Zsn E (fun _=>none) 10 (dA1 Z6y) (fun x=>2<=x.1.length) (fun x=>(x.1.getD 0 [],eq4 (x.1.getD 0 []) (x.1.getD 1 []))) prV
theorem Z0e:SumOk E 52 Z88:=Zdv E_ok (Zd (f:=52) rfl) fun x h=>Zsx _ h
noncomputable def Z89:Sum thy:=Zsn E (fun _=>none) 10 (dA1 Z6y) (fun x=>4<=x.1.length) (fun x=>(x.1.getD 2 [],eq4 (x.1.getD 0 []) (x.1.getD 1 [])&&eq4 (x.1.getD 2 []) (x.1.getD 3 []))) prV
theorem Z0f:SumOk E 53 Z89:=Zdv E_ok (Zd (f:=53) rfl) fun x h=>Zsz _ h
structure UnX where
  k:Nat
  r:Nat
  D:List (List Int)
noncomputable def Yb1:Fr thy->Hp thy->Nat->Ann2 thy:=fun T h i=>{X:=UnX,fr:=fun s x=> [(0,T 0),(3,T 3),(4,T 4),(6,match s with|false=> .val (.slice none 0 0)|true=> .sl i 0 x.D.length 4 none),(24,T 24),(25,T 25),(26,.int false .i64 x.k)],bl:=fun s x=>match s with|false=>blkP h (T 3)++blkP h (T 4)|true=>(i,.rows Th.dims x.D 0)::(blkP h (T 3)++blkP h (T 4)),src:=fun s=>match s with|false=> []|true=> [(i,6)],md:= [bOf (T 4)],ih:=i+1,M:=i+40,meas:=fun s x=>x.r}
noncomputable def Zpu:Fns thy:=addS (addS (addS F0 81 Spow) 52 Z88) 53 Z89
theorem Zj4:FnsOk E Zpu:=Zb (Zb (Zb F0_ok Z5k) Z0e) Z0f
noncomputable def Z5l (m:Nat):Fns thy:=Z9w (addS Zpu 22 (Zj2 m)) 22 8 Yb1 E
--@cond unitK | 22 | Zpu>(Z5l m) | 800 | (m : Nat) (x : Ex) | [Xg, exA x] | (o : Option (List Int)) | optV o
theorem Zr7 (m:Nat) (x:Ex) (o:Option (List Int)):Zg E Zpu (vc E (Z5l m) 800) 22 [Xg,exA x] hp0 0 (fun r=>ret E (patch hp0 0 r) r.v (optV o))=(
  ((Ex.op x==(1:Int))=true->(4:Nat)=(4:Nat)/\(4:Nat)=(4:Nat)/\(Ex.d0 x=List.getD (Option.getD o [(0:Int),(0:Int),(0:Int),(0:Int)]) (0:Nat) (0:
  Int)/\Ex.d1 x=List.getD (Option.getD o [(0:Int),(0:Int),(0:Int),(0:Int)]) (1:Nat) (0:Int)/\Ex.d2 x=List.getD (Option.getD o [(0:Int),(0:Int),(0:Int),
  (0:Int)]) (2:Nat) (0:Int)/\Ex.d3 x=List.getD (Option.getD o [(0:Int),(0:Int),(0:Int),(0:Int)]) (3:Nat) (0:Int)/\True)/\true=Option.isSome o/\True)/\
  ((Ex.op x==(1:Int))=false->((Ex.op x==(2:Int))=true->(0:Int)<=Ex.n x/\Ex.n x+(1:Int)<=(↑(16:Nat):Int)/\∀(x_1:List Int),[[(0:Int),(0:Int),(0:
  Int),(0:Int)],[(0:Int),(0:Int),(0:Int),(0:Int)],[(0:Int),(0:Int),(0:Int),(0:Int)],[(0:Int),(0:Int),(0:Int),(0:Int)],[(0:Int),(0:Int),
  (0:Int),(0:Int)],[(0:Int),(0:Int),(0:Int),(1:Int)],[(0:Int),(0:Int),(1:Int),(0:Int)],[(0:Int),(1:Int),(0:Int),(0:Int)],[(0:Int),(1:
  Int),(0:Int),(0:Int)],[(0:Int),(0:Int),(0:Int),(0:Int)],[(1:Int),(0:Int),(0:Int),(0:Int)],[(1:Int),(0:Int),(0:Int),(0:Int)],[(0:Int),
  (0:Int),(0:Int),(0:Int)],[(0:Int),(0:Int),(0:Int),(0:Int)],[(0:Int),(0:Int),(0:Int),(0:Int)],[(0:Int),(0:Int),(0:Int),(0:
  Int)]][Int.toNat (Ex.n x)]? =some x_1->(4:Nat)=(4:Nat)/\(4:Nat)=(4:Nat)/\(List.getD x_1 (0:Nat) (0:Int)=List.getD (Option.getD o [(0:Int),(0:Int),(0:
  Int),(0:Int)]) (0:Nat) (0:Int)/\List.getD x_1 (1:Nat) (0:Int)=List.getD (Option.getD o [(0:Int),(0:Int),(0:Int),(0:Int)]) (1:Nat) (0:Int)/\List.getD
  x_1 (2:Nat) (0:Int)=List.getD (Option.getD o [(0:Int),(0:Int),(0:Int),(0:Int)]) (2:Nat) (0:Int)/\List.getD x_1 (3:Nat) (0:Int)=List.getD (Option.getD o
  [(0:Int),(0:Int),(0:Int),(0:Int)]) (3:Nat) (0:Int)/\True)/\true=Option.isSome o/\True)/\((Ex.op x==(2:Int))=false->∃(R:Bool->UnX->Prop),((∃(x:
  UnX),R true x/\true=true/\False)\/∃(x_1:UnX),R false x_1/\true=true/\((Ym=Ym/\true=true)/\(0:Nat)=(0:Nat)/\(0:Nat)=(0:Nat)/\Value.slice
  none (0:Nat) (0:Nat)=Value.slice none (0:Nat) (0:Nat)/\(Ex.l x=Ex.l x/\(false=true->false=true))/\(↑(List.length (Ex.l x)):Int)=(↑(List.length (Ex.l x)):
  Int)/\(0:Int)=(↑(UnX.k x_1):Int)/\True)/\(Ex.op x=Ex.op x/\Ex.n x=Ex.n x/\Ex.d0 x=Ex.d0 x/\Ex.d1 x=Ex.d1 x/\Ex.d2 x=Ex.d2 x/\Ex.d3 x=Ex.d3 x/\(Ex.l x=
  Ex.l x/\(false=true->false=true))/\True)/\([(0:Int),(0:Int),(0:Int),(0:Int)]= [(0:Int),(0:Int),(0:Int),(0:Int)]/\(0:Nat)=(0:Nat))/\True)/\(∀
  (x_1:UnX),R true x_1->(decide ((↑(UnX.k x_1):Int)<(↑(List.length (Ex.l x)):Int))=true->(0:Int)<=(↑(UnX.k x_1):Int)/\(↑(UnX.k x_1):Int)+(1:Int)<=
  (↑(List.length (Ex.l x)):Int)/\∀(x_2:Ex),(Ex.l x)[Int.toNat (↑(UnX.k x_1):Int)]? =some x_2->SV.pmap Ym=Xg/\(Ex.sz (Ex.mk (Ex.op x_2) (Ex.n x_2) (Ex.d0 x_2)
  (Ex.d1 x_2) (Ex.d2 x_2) (Ex.d3 x_2) (Ex.l x_2))+(1:Nat)<=m/\Zz (Ex.mk (Ex.op x_2) (Ex.n x_2) (Ex.d0 x_2) (Ex.d1 x_2) (Ex.d2 x_2) (Ex.d3 x_2) (Ex.l x_2))=true)/\∀(o_1:
  Option (List Int)),o_1=V9 (Ex.mk (Ex.op x_2) (Ex.n x_2) (Ex.d0 x_2) (Ex.d1 x_2) (Ex.d2 x_2) (Ex.d3 x_2) (Ex.l x_2))->(4:Nat)=(4:Nat)/\((!Option.isSome o_1)=true->
  (4:Nat)=(4:Nat)/\(4:Nat)=(4:Nat)/\((0:Int)=List.getD (Option.getD o [(0:Int),(0:Int),(0:Int),(0:Int)]) (0:Nat) (0:Int)/\(0:Int)=List.getD
  (Option.getD o [(0:Int),(0:Int),(0:Int),(0:Int)]) (1:Nat) (0:Int)/\(0:Int)=List.getD (Option.getD o [(0:Int),(0:Int),(0:Int),(0:Int)]) (2:Nat) (0:
  Int)/\(0:Int)=List.getD (Option.getD o [(0:Int),(0:Int),(0:Int),(0:Int)]) (3:Nat) (0:Int)/\True)/\false=Option.isSome o/\True)/\((!Option.isSome o_1)=
  false->(4:Nat)=(4:Nat)/\(List.length (UnX.D x_1)<=List.length (UnX.D x_1)/\(0:Nat)<=List.length (UnX.D x_1)/\(List.length (UnX.D x_1)+(1:Nat))*(32:Nat)<=
  (140737488355328:Nat))/\((∃(x':UnX),R true x'/\x'.2+(1:Nat)<=x_1.2/\true=true/\((Ym=Ym/\true=true)/\(0:Nat)=(0:Nat)/\(0:Nat)=(0:Nat)/\
  ((0:Nat)=(0:Nat)/\List.length (UnX.D x_1)+(1:Nat)=List.length (UnX.D x')/\True)/\(Ex.l x=Ex.l x/\(false=true->false=true))/\(↑(List.length (Ex.l x)):Int)
  =(↑(List.length (Ex.l x)):Int)/\wr IntKind.i64 ((↑(UnX.k x_1):Int)+(1:Int))=(↑(UnX.k x'):Int)/\True)/\(List.take (List.length (UnX.D x_1)) (UnX.D x_1)++
  [[List.getD (Option.getD o_1 [(0:Int),(0:Int),(0:Int),(0:Int)]) (0:Nat) (0:Int),List.getD (Option.getD o_1 [(0:Int),(0:Int),(0:Int),(0:Int)]) (1:Nat)
  (0:Int),List.getD (Option.getD o_1 [(0:Int),(0:Int),(0:Int),(0:Int)]) (2:Nat) (0:Int),List.getD (Option.getD o_1 [(0:Int),(0:Int),(0:Int),(0:Int)]) (3
  :Nat) (0:Int)]]=UnX.D x'/\(0:Nat)=(0:Nat))/\(Ex.op x=Ex.op x/\Ex.n x=Ex.n x/\Ex.d0 x=Ex.d0 x/\Ex.d1 x=Ex.d1 x/\Ex.d2 x=Ex.d2 x/\Ex.d3 x=Ex.d3 x/\
  (Ex.l x=Ex.l x/\(false=true->false=true))/\True)/\([(0:Int),(0:Int),(0:Int),(0:Int)]= [(0:Int),(0:Int),(0:Int),(0:Int)]/\(0:Nat)=(0:Nat))/\
  True)\/∃(x':UnX),R false x'/\x'.2+(1:Nat)<=x_1.2/\true=true/\((Ym=Ym/\true=true)/\(0:Nat)=(0:Nat)/\(0:Nat)=(0:Nat)/\False/\(Ex.l x=
  Ex.l x/\(false=true->false=true))/\(↑(List.length (Ex.l x)):Int)=(↑(List.length (Ex.l x)):Int)/\wr IntKind.i64 ((↑(UnX.k x_1):Int)+(1:Int))=(↑(UnX.k x'):
  Int)/\True)/\(Ex.op x=Ex.op x/\Ex.n x=Ex.n x/\Ex.d0 x=Ex.d0 x/\Ex.d1 x=Ex.d1 x/\Ex.d2 x=Ex.d2 x/\Ex.d3 x=Ex.d3 x/\(Ex.l x=Ex.l x/\(false=true->false=
  true))/\True)/\([(0:Int),(0:Int),(0:Int),(0:Int)]= [(0:Int),(0:Int),(0:Int),(0:Int)]/\(0:Nat)=(0:Nat))/\True)))/\(decide ((↑(UnX.k x_1):Int)<
  (↑(List.length (Ex.l x)):Int))=false->((Ex.op x==(3:Int))=true->(0:Nat)+List.length (UnX.D x_1)<=List.length (UnX.D x_1)/\(2:Nat)<=List.length (List.take
  (List.length (UnX.D x_1)) (List.drop (0:Nat) (UnX.D x_1)))/\∀(y:List Int×Bool),y=(List.getD (List.take (List.length (UnX.D x_1)) (List.drop (0:Nat) (UnX.D x_1))) (0:
  Nat) [],eq4 (List.getD (List.take (List.length (UnX.D x_1)) (List.drop (0:Nat) (UnX.D x_1))) (0:Nat) []) (List.getD (List.take (List.length (UnX.D x_1)) (List.drop (0:Nat)
  (UnX.D x_1))) (1:Nat) []))->(4:Nat)=(4:Nat)/\((!Prod.snd y)=true->(4:Nat)=(4:Nat)/\(4:Nat)=(4:Nat)/\((0:Int)=List.getD (Option.getD o [(0:Int),(0
  :Int),(0:Int),(0:Int)]) (0:Nat) (0:Int)/\(0:Int)=List.getD (Option.getD o [(0:Int),(0:Int),(0:Int),(0:Int)]) (1:Nat) (0:Int)/\(0:Int)=List.getD
  (Option.getD o [(0:Int),(0:Int),(0:Int),(0:Int)]) (2:Nat) (0:Int)/\(0:Int)=List.getD (Option.getD o [(0:Int),(0:Int),(0:Int),(0:Int)]) (3:Nat) (0:
  Int)/\True)/\false=Option.isSome o/\True)/\((!Prod.snd y)=false->(4:Nat)=(4:Nat)/\(4:Nat)=(4:Nat)/\(4:Nat)=(4:Nat)/\(List.getD (Prod.fst y) (0:Nat)
  (0:Int)=List.getD (Option.getD o [(0:Int),(0:Int),(0:Int),(0:Int)]) (0:Nat) (0:Int)/\List.getD (Prod.fst y) (1:Nat) (0:Int)=List.getD (Option.getD o [(0:
  Int),(0:Int),(0:Int),(0:Int)]) (1:Nat) (0:Int)/\List.getD (Prod.fst y) (2:Nat) (0:Int)=List.getD (Option.getD o [(0:Int),(0:Int),(0:Int),(0:Int)]) (2
  :Nat) (0:Int)/\List.getD (Prod.fst y) (3:Nat) (0:Int)=List.getD (Option.getD o [(0:Int),(0:Int),(0:Int),(0:Int)]) (3:Nat) (0:Int)/\True)/\true=
  Option.isSome o/\True))/\((Ex.op x==(3:Int))=false->((Ex.op x==(4:Int))=true->(0:Nat)+List.length (UnX.D x_1)<=List.length (UnX.D x_1)/\(2:Nat)<=
  List.length (List.take (List.length (UnX.D x_1)) (List.drop (0:Nat) (UnX.D x_1)))/\∀(y:List Int×Bool),y=(List.getD (List.take (List.length (UnX.D x_1)) (List.drop (0:
  Nat) (UnX.D x_1))) (0:Nat) [],eq4 (List.getD (List.take (List.length (UnX.D x_1)) (List.drop (0:Nat) (UnX.D x_1))) (0:Nat) []) (List.getD (List.take (List.length (UnX.D
  x_1)) (List.drop (0:Nat) (UnX.D x_1))) (1:Nat) []))->(4:Nat)=(4:Nat)/\((!Prod.snd y)=true->(4:Nat)=(4:Nat)/\(4:Nat)=(4:Nat)/\((0:Int)=List.getD
  (Option.getD o [(0:Int),(0:Int),(0:Int),(0:Int)]) (0:Nat) (0:Int)/\(0:Int)=List.getD (Option.getD o [(0:Int),(0:Int),(0:Int),(0:Int)]) (1:Nat) (0:
  Int)/\(0:Int)=List.getD (Option.getD o [(0:Int),(0:Int),(0:Int),(0:Int)]) (2:Nat) (0:Int)/\(0:Int)=List.getD (Option.getD o [(0:Int),(0:Int),(0:
  Int),(0:Int)]) (3:Nat) (0:Int)/\True)/\false=Option.isSome o/\True)/\((!Prod.snd y)=false->(4:Nat)=(4:Nat)/\(4:Nat)=(4:Nat)/\(4:Nat)=(4:Nat)/\
  (List.getD (Prod.fst y) (0:Nat) (0:Int)=List.getD (Option.getD o [(0:Int),(0:Int),(0:Int),(0:Int)]) (0:Nat) (0:Int)/\List.getD (Prod.fst y) (1:Nat) (0:
  Int)=List.getD (Option.getD o [(0:Int),(0:Int),(0:Int),(0:Int)]) (1:Nat) (0:Int)/\List.getD (Prod.fst y) (2:Nat) (0:Int)=List.getD (Option.getD o [(0:
  Int),(0:Int),(0:Int),(0:Int)]) (2:Nat) (0:Int)/\List.getD (Prod.fst y) (3:Nat) (0:Int)=List.getD (Option.getD o [(0:Int),(0:Int),(0:Int),(0:Int)]) (3
  :Nat) (0:Int)/\True)/\true=Option.isSome o/\True))/\((Ex.op x==(4:Int))=false->((Ex.op x==(6:Int))=true->(0:Nat)+List.length (UnX.D x_1)<=List.length
  (UnX.D x_1)/\(2:Nat)<=List.length (List.take (List.length (UnX.D x_1)) (List.drop (0:Nat) (UnX.D x_1)))/\∀(y:List Int×Bool),y=(List.getD (List.take (List.length
  (UnX.D x_1)) (List.drop (0:Nat) (UnX.D x_1))) (0:Nat) [],eq4 (List.getD (List.take (List.length (UnX.D x_1)) (List.drop (0:Nat) (UnX.D x_1))) (0:Nat) []) (List.getD
  (List.take (List.length (UnX.D x_1)) (List.drop (0:Nat) (UnX.D x_1))) (1:Nat) []))->(4:Nat)=(4:Nat)/\((!Prod.snd y)=true->(4:Nat)=(4:Nat)/\(4:Nat)=(4:
  Nat)/\((0:Int)=List.getD (Option.getD o [(0:Int),(0:Int),(0:Int),(0:Int)]) (0:Nat) (0:Int)/\(0:Int)=List.getD (Option.getD o [(0:Int),(0:Int),(0:
  Int),(0:Int)]) (1:Nat) (0:Int)/\(0:Int)=List.getD (Option.getD o [(0:Int),(0:Int),(0:Int),(0:Int)]) (2:Nat) (0:Int)/\(0:Int)=List.getD (Option.getD
  o [(0:Int),(0:Int),(0:Int),(0:Int)]) (3:Nat) (0:Int)/\True)/\false=Option.isSome o/\True)/\((!Prod.snd y)=false->(4:Nat)=(4:Nat)/\(4:Nat)=(4:
  Nat)/\(4:Nat)=(4:Nat)/\(List.getD (Prod.fst y) (0:Nat) (0:Int)=List.getD (Option.getD o [(0:Int),(0:Int),(0:Int),(0:Int)]) (0:Nat) (0:Int)/\List.getD
  (Prod.fst y) (1:Nat) (0:Int)=List.getD (Option.getD o [(0:Int),(0:Int),(0:Int),(0:Int)]) (1:Nat) (0:Int)/\List.getD (Prod.fst y) (2:Nat) (0:Int)=
  List.getD (Option.getD o [(0:Int),(0:Int),(0:Int),(0:Int)]) (2:Nat) (0:Int)/\List.getD (Prod.fst y) (3:Nat) (0:Int)=List.getD (Option.getD o [(0:Int),(0:
  Int),(0:Int),(0:Int)]) (3:Nat) (0:Int)/\True)/\true=Option.isSome o/\True))/\((Ex.op x==(6:Int))=false->((Ex.op x==(7:Int))=true->(0:Nat)+
  List.length (UnX.D x_1)<=List.length (UnX.D x_1)/\(2:Nat)<=List.length (List.take (List.length (UnX.D x_1)) (List.drop (0:Nat) (UnX.D x_1)))/\∀(y:List Int×Bool),y=
  (List.getD (List.take (List.length (UnX.D x_1)) (List.drop (0:Nat) (UnX.D x_1))) (0:Nat) [],eq4 (List.getD (List.take (List.length (UnX.D x_1)) (List.drop (0:Nat) (UnX.D
  x_1))) (0:Nat) []) (List.getD (List.take (List.length (UnX.D x_1)) (List.drop (0:Nat) (UnX.D x_1))) (1:Nat) []))->(4:Nat)=(4:Nat)/\((!Prod.snd y)=true->(4:Nat)=
  (4:Nat)/\(4:Nat)=(4:Nat)/\((0:Int)=List.getD (Option.getD o [(0:Int),(0:Int),(0:Int),(0:Int)]) (0:Nat) (0:Int)/\(0:Int)=List.getD (Option.getD o
  [(0:Int),(0:Int),(0:Int),(0:Int)]) (1:Nat) (0:Int)/\(0:Int)=List.getD (Option.getD o [(0:Int),(0:Int),(0:Int),(0:Int)]) (2:Nat) (0:Int)/\(0:
  Int)=List.getD (Option.getD o [(0:Int),(0:Int),(0:Int),(0:Int)]) (3:Nat) (0:Int)/\True)/\false=Option.isSome o/\True)/\((!Prod.snd y)=false->(4:Nat)=
  (4:Nat)/\(4:Nat)=(4:Nat)/\(4:Nat)=(4:Nat)/\(List.getD (Prod.fst y) (0:Nat) (0:Int)=List.getD (Option.getD o [(0:Int),(0:Int),(0:Int),(0:Int)]) (0
  :Nat) (0:Int)/\List.getD (Prod.fst y) (1:Nat) (0:Int)=List.getD (Option.getD o [(0:Int),(0:Int),(0:Int),(0:Int)]) (1:Nat) (0:Int)/\List.getD (Prod.fst y)
  (2:Nat) (0:Int)=List.getD (Option.getD o [(0:Int),(0:Int),(0:Int),(0:Int)]) (2:Nat) (0:Int)/\List.getD (Prod.fst y) (3:Nat) (0:Int)=List.getD
  (Option.getD o [(0:Int),(0:Int),(0:Int),(0:Int)]) (3:Nat) (0:Int)/\True)/\true=Option.isSome o/\True))/\((Ex.op x==(7:Int))=false->((Ex.op x==(5:
  Int))=true->(0:Nat)+List.length (UnX.D x_1)<=List.length (UnX.D x_1)/\(2:Nat)<=List.length (List.take (List.length (UnX.D x_1)) (List.drop (0:Nat) (UnX.D x_1)))/\∀
  (y:Option (List Int)),y=cmb (1:Int) (List.getD (List.take (List.length (UnX.D x_1)) (List.drop (0:Nat) (UnX.D x_1))) (0:Nat) []) (List.getD (List.take (List.length
  (UnX.D x_1)) (List.drop (0:Nat) (UnX.D x_1))) (1:Nat) [])->(4:Nat)=(4:Nat)/\((!Option.isSome y)=true->(4:Nat)=(4:Nat)/\(4:Nat)=(4:Nat)/\((0:Int)=
  List.getD (Option.getD o [(0:Int),(0:Int),(0:Int),(0:Int)]) (0:Nat) (0:Int)/\(0:Int)=List.getD (Option.getD o [(0:Int),(0:Int),(0:Int),(0:Int)]) (1:
  Nat) (0:Int)/\(0:Int)=List.getD (Option.getD o [(0:Int),(0:Int),(0:Int),(0:Int)]) (2:Nat) (0:Int)/\(0:Int)=List.getD (Option.getD o [(0:Int),(0:
  Int),(0:Int),(0:Int)]) (3:Nat) (0:Int)/\True)/\false=Option.isSome o/\True)/\((!Option.isSome y)=false->(4:Nat)=(4:Nat)/\(4:Nat)=(4:Nat)/\(4:Nat)
  =(4:Nat)/\(List.getD (Option.getD y [(0:Int),(0:Int),(0:Int),(0:Int)]) (0:Nat) (0:Int)=List.getD (Option.getD o [(0:Int),(0:Int),(0:Int),(0:Int)])
  (0:Nat) (0:Int)/\List.getD (Option.getD y [(0:Int),(0:Int),(0:Int),(0:Int)]) (1:Nat) (0:Int)=List.getD (Option.getD o [(0:Int),(0:Int),(0:Int),(0:
  Int)]) (1:Nat) (0:Int)/\List.getD (Option.getD y [(0:Int),(0:Int),(0:Int),(0:Int)]) (2:Nat) (0:Int)=List.getD (Option.getD o [(0:Int),(0:Int),(0:Int),
  (0:Int)]) (2:Nat) (0:Int)/\List.getD (Option.getD y [(0:Int),(0:Int),(0:Int),(0:Int)]) (3:Nat) (0:Int)=List.getD (Option.getD o [(0:Int),(0:Int),(0:
  Int),(0:Int)]) (3:Nat) (0:Int)/\True)/\true=Option.isSome o/\True))/\((Ex.op x==(5:Int))=false->((Ex.op x==(8:Int))=true->(0:Nat)+List.length (UnX.D
  x_1)<=List.length (UnX.D x_1)/\(2:Nat)<=List.length (List.take (List.length (UnX.D x_1)) (List.drop (0:Nat) (UnX.D x_1)))/\∀(y:Option (List Int)),y=cmb (-1:Int)
  (List.getD (List.take (List.length (UnX.D x_1)) (List.drop (0:Nat) (UnX.D x_1))) (0:Nat) []) (List.getD (List.take (List.length (UnX.D x_1)) (List.drop (0:Nat) (UnX.D x_1)))
  (1:Nat) [])->(4:Nat)=(4:Nat)/\((!Option.isSome y)=true->(4:Nat)=(4:Nat)/\(4:Nat)=(4:Nat)/\((0:Int)=List.getD (Option.getD o [(0:Int),(0:Int),(0
  :Int),(0:Int)]) (0:Nat) (0:Int)/\(0:Int)=List.getD (Option.getD o [(0:Int),(0:Int),(0:Int),(0:Int)]) (1:Nat) (0:Int)/\(0:Int)=List.getD
  (Option.getD o [(0:Int),(0:Int),(0:Int),(0:Int)]) (2:Nat) (0:Int)/\(0:Int)=List.getD (Option.getD o [(0:Int),(0:Int),(0:Int),(0:Int)]) (3:Nat) (0:
  Int)/\True)/\false=Option.isSome o/\True)/\((!Option.isSome y)=false->(4:Nat)=(4:Nat)/\(4:Nat)=(4:Nat)/\(4:Nat)=(4:Nat)/\(List.getD (Option.getD y [(0
  :Int),(0:Int),(0:Int),(0:Int)]) (0:Nat) (0:Int)=List.getD (Option.getD o [(0:Int),(0:Int),(0:Int),(0:Int)]) (0:Nat) (0:Int)/\List.getD (Option.getD
  y [(0:Int),(0:Int),(0:Int),(0:Int)]) (1:Nat) (0:Int)=List.getD (Option.getD o [(0:Int),(0:Int),(0:Int),(0:Int)]) (1:Nat) (0:Int)/\List.getD
  (Option.getD y [(0:Int),(0:Int),(0:Int),(0:Int)]) (2:Nat) (0:Int)=List.getD (Option.getD o [(0:Int),(0:Int),(0:Int),(0:Int)]) (2:Nat) (0:Int)/\
  List.getD (Option.getD y [(0:Int),(0:Int),(0:Int),(0:Int)]) (3:Nat) (0:Int)=List.getD (Option.getD o [(0:Int),(0:Int),(0:Int),(0:Int)]) (3:Nat) (0:
  Int)/\True)/\true=Option.isSome o/\True))/\((Ex.op x==(8:Int))=false->((Ex.op x==(9:Int))=true->(0:Nat)+List.length (UnX.D x_1)<=List.length (UnX.D x_1)/\
  (2:Nat)<=List.length (List.take (List.length (UnX.D x_1)) (List.drop (0:Nat) (UnX.D x_1)))/\∀(y:Option (List Int)),y=cmb (-1:Int) (List.getD (List.take (List.length
  (UnX.D x_1)) (List.drop (0:Nat) (UnX.D x_1))) (0:Nat) []) (List.getD (List.take (List.length (UnX.D x_1)) (List.drop (0:Nat) (UnX.D x_1))) (1:Nat) [])->(4:Nat)=(4:
  Nat)/\((!Option.isSome y)=true->(4:Nat)=(4:Nat)/\(4:Nat)=(4:Nat)/\((0:Int)=List.getD (Option.getD o [(0:Int),(0:Int),(0:Int),(0:Int)]) (0:Nat) (0
  :Int)/\(0:Int)=List.getD (Option.getD o [(0:Int),(0:Int),(0:Int),(0:Int)]) (1:Nat) (0:Int)/\(0:Int)=List.getD (Option.getD o [(0:Int),(0:Int),(0:
  Int),(0:Int)]) (2:Nat) (0:Int)/\(0:Int)=List.getD (Option.getD o [(0:Int),(0:Int),(0:Int),(0:Int)]) (3:Nat) (0:Int)/\True)/\false=Option.isSome o/\
  True)/\((!Option.isSome y)=false->(4:Nat)=(4:Nat)/\(4:Nat)=(4:Nat)/\(4:Nat)=(4:Nat)/\(List.getD (Option.getD y [(0:Int),(0:Int),(0:Int),(0:
  Int)]) (0:Nat) (0:Int)=List.getD (Option.getD o [(0:Int),(0:Int),(0:Int),(0:Int)]) (0:Nat) (0:Int)/\List.getD (Option.getD y [(0:Int),(0:Int),(0:Int),
  (0:Int)]) (1:Nat) (0:Int)=List.getD (Option.getD o [(0:Int),(0:Int),(0:Int),(0:Int)]) (1:Nat) (0:Int)/\List.getD (Option.getD y [(0:Int),(0:Int),(0:
  Int),(0:Int)]) (2:Nat) (0:Int)=List.getD (Option.getD o [(0:Int),(0:Int),(0:Int),(0:Int)]) (2:Nat) (0:Int)/\List.getD (Option.getD y [(0:Int),(0:Int),
  (0:Int),(0:Int)]) (3:Nat) (0:Int)=List.getD (Option.getD o [(0:Int),(0:Int),(0:Int),(0:Int)]) (3:Nat) (0:Int)/\True)/\true=Option.isSome o/\True))/\
  ((Ex.op x==(9:Int))=false->((Ex.op x==(10:Int))=true->(0:Nat)+List.length (UnX.D x_1)<=List.length (UnX.D x_1)/\(2:Nat)<=List.length (List.take (List.length
  (UnX.D x_1)) (List.drop (0:Nat) (UnX.D x_1)))/\∀(y:Option (List Int)),y=cmb (-1:Int) (List.getD (List.take (List.length (UnX.D x_1)) (List.drop (0:Nat) (UnX.D x_1)))
  (0:Nat) []) (List.getD (List.take (List.length (UnX.D x_1)) (List.drop (0:Nat) (UnX.D x_1))) (1:Nat) [])->(4:Nat)=(4:Nat)/\((!Option.isSome y)=true->(4:Nat)=(4
  :Nat)/\(4:Nat)=(4:Nat)/\((0:Int)=List.getD (Option.getD o [(0:Int),(0:Int),(0:Int),(0:Int)]) (0:Nat) (0:Int)/\(0:Int)=List.getD (Option.getD o [(0
  :Int),(0:Int),(0:Int),(0:Int)]) (1:Nat) (0:Int)/\(0:Int)=List.getD (Option.getD o [(0:Int),(0:Int),(0:Int),(0:Int)]) (2:Nat) (0:Int)/\(0:Int)=
  List.getD (Option.getD o [(0:Int),(0:Int),(0:Int),(0:Int)]) (3:Nat) (0:Int)/\True)/\false=Option.isSome o/\True)/\((!Option.isSome y)=false->(4:Nat)=(4
  :Nat)/\(4:Nat)=(4:Nat)/\(4:Nat)=(4:Nat)/\(List.getD (Option.getD y [(0:Int),(0:Int),(0:Int),(0:Int)]) (0:Nat) (0:Int)=List.getD (Option.getD o [(0
  :Int),(0:Int),(0:Int),(0:Int)]) (0:Nat) (0:Int)/\List.getD (Option.getD y [(0:Int),(0:Int),(0:Int),(0:Int)]) (1:Nat) (0:Int)=List.getD (Option.getD
  o [(0:Int),(0:Int),(0:Int),(0:Int)]) (1:Nat) (0:Int)/\List.getD (Option.getD y [(0:Int),(0:Int),(0:Int),(0:Int)]) (2:Nat) (0:Int)=List.getD
  (Option.getD o [(0:Int),(0:Int),(0:Int),(0:Int)]) (2:Nat) (0:Int)/\List.getD (Option.getD y [(0:Int),(0:Int),(0:Int),(0:Int)]) (3:Nat) (0:Int)=
  List.getD (Option.getD o [(0:Int),(0:Int),(0:Int),(0:Int)]) (3:Nat) (0:Int)/\True)/\true=Option.isSome o/\True))/\((Ex.op x==(10:Int))=false->((Ex.op x
  ==(11:Int))=true->(0:Nat)+List.length (UnX.D x_1)<=List.length (UnX.D x_1)/\(4:Nat)<=List.length (List.take (List.length (UnX.D x_1)) (List.drop (0:Nat) (UnX.D
  x_1)))/\∀(y:List Int×Bool),y=(List.getD (List.take (List.length (UnX.D x_1)) (List.drop (0:Nat) (UnX.D x_1))) (2:Nat) [],eq4 (List.getD (List.take (List.length (UnX.D
  x_1)) (List.drop (0:Nat) (UnX.D x_1))) (0:Nat) []) (List.getD (List.take (List.length (UnX.D x_1)) (List.drop (0:Nat) (UnX.D x_1))) (1:Nat) [])&&eq4 (List.getD (List.take
  (List.length (UnX.D x_1)) (List.drop (0:Nat) (UnX.D x_1))) (2:Nat) []) (List.getD (List.take (List.length (UnX.D x_1)) (List.drop (0:Nat) (UnX.D x_1))) (3:Nat) []))->(4:
  Nat)=(4:Nat)/\((!Prod.snd y)=true->(4:Nat)=(4:Nat)/\(4:Nat)=(4:Nat)/\((0:Int)=List.getD (Option.getD o [(0:Int),(0:Int),(0:Int),(0:Int)]) (0:
  Nat) (0:Int)/\(0:Int)=List.getD (Option.getD o [(0:Int),(0:Int),(0:Int),(0:Int)]) (1:Nat) (0:Int)/\(0:Int)=List.getD (Option.getD o [(0:Int),(0:
  Int),(0:Int),(0:Int)]) (2:Nat) (0:Int)/\(0:Int)=List.getD (Option.getD o [(0:Int),(0:Int),(0:Int),(0:Int)]) (3:Nat) (0:Int)/\True)/\false=
  Option.isSome o/\True)/\((!Prod.snd y)=false->(4:Nat)=(4:Nat)/\(4:Nat)=(4:Nat)/\(4:Nat)=(4:Nat)/\(List.getD (Prod.fst y) (0:Nat) (0:Int)=List.getD
  (Option.getD o [(0:Int),(0:Int),(0:Int),(0:Int)]) (0:Nat) (0:Int)/\List.getD (Prod.fst y) (1:Nat) (0:Int)=List.getD (Option.getD o [(0:Int),(0:Int),(0:
  Int),(0:Int)]) (1:Nat) (0:Int)/\List.getD (Prod.fst y) (2:Nat) (0:Int)=List.getD (Option.getD o [(0:Int),(0:Int),(0:Int),(0:Int)]) (2:Nat) (0:Int)/\
  List.getD (Prod.fst y) (3:Nat) (0:Int)=List.getD (Option.getD o [(0:Int),(0:Int),(0:Int),(0:Int)]) (3:Nat) (0:Int)/\True)/\true=Option.isSome o/\True))/\
  ((Ex.op x==(11:Int))=false->False)))))))))))/\∀(x_1:UnX),R false x_1->(decide ((↑(UnX.k x_1):Int)<(↑(List.length (Ex.l x)):Int))=true->(0:Int)<=(↑(UnX.k
  x_1):Int)/\(↑(UnX.k x_1):Int)+(1:Int)<=(↑(List.length (Ex.l x)):Int)/\∀(x_2:Ex),(Ex.l x)[Int.toNat (↑(UnX.k x_1):Int)]? =some x_2->SV.pmap Ym=Xg/\
  (Ex.sz (Ex.mk (Ex.op x_2) (Ex.n x_2) (Ex.d0 x_2) (Ex.d1 x_2) (Ex.d2 x_2) (Ex.d3 x_2) (Ex.l x_2))+(1:Nat)<=m/\Zz (Ex.mk (Ex.op x_2) (Ex.n x_2) (Ex.d0 x_2) (Ex.d1 x_2)
  (Ex.d2 x_2) (Ex.d3 x_2) (Ex.l x_2))=true)/\∀(o_1:Option (List Int)),o_1=V9 (Ex.mk (Ex.op x_2) (Ex.n x_2) (Ex.d0 x_2) (Ex.d1 x_2) (Ex.d2 x_2) (Ex.d3 x_2) (Ex.l x_2))->
  (4:Nat)=(4:Nat)/\((!Option.isSome o_1)=true->(4:Nat)=(4:Nat)/\(4:Nat)=(4:Nat)/\((0:Int)=List.getD (Option.getD o [(0:Int),(0:Int),(0:Int),(0:
  Int)]) (0:Nat) (0:Int)/\(0:Int)=List.getD (Option.getD o [(0:Int),(0:Int),(0:Int),(0:Int)]) (1:Nat) (0:Int)/\(0:Int)=List.getD (Option.getD o [(0:
  Int),(0:Int),(0:Int),(0:Int)]) (2:Nat) (0:Int)/\(0:Int)=List.getD (Option.getD o [(0:Int),(0:Int),(0:Int),(0:Int)]) (3:Nat) (0:Int)/\True)/\false
  =Option.isSome o/\True)/\((!Option.isSome o_1)=false->(4:Nat)=(4:Nat)/\((∃(x':UnX),R true x'/\x'.2+(1:Nat)<=x_1.2/\true=true/\((Ym=Ym/\true
  =true)/\(0:Nat)=(0:Nat)/\(0:Nat)=(0:Nat)/\((0:Nat)=(0:Nat)/\(1:Nat)=List.length (UnX.D x')/\True)/\(Ex.l x=Ex.l x/\(false=true->false=true))/\
  (↑(List.length (Ex.l x)):Int)=(↑(List.length (Ex.l x)):Int)/\wr IntKind.i64 ((↑(UnX.k x_1):Int)+(1:Int))=(↑(UnX.k x'):Int)/\True)/\([[List.getD (Option.getD o_1
  [(0:Int),(0:Int),(0:Int),(0:Int)]) (0:Nat) (0:Int),List.getD (Option.getD o_1 [(0:Int),(0:Int),(0:Int),(0:Int)]) (1:Nat) (0:Int),List.getD
  (Option.getD o_1 [(0:Int),(0:Int),(0:Int),(0:Int)]) (2:Nat) (0:Int),List.getD (Option.getD o_1 [(0:Int),(0:Int),(0:Int),(0:Int)]) (3:Nat) (0:Int)]]=
  UnX.D x'/\(0:Nat)=(0:Nat))/\(Ex.op x=Ex.op x/\Ex.n x=Ex.n x/\Ex.d0 x=Ex.d0 x/\Ex.d1 x=Ex.d1 x/\Ex.d2 x=Ex.d2 x/\Ex.d3 x=Ex.d3 x/\(Ex.l x=Ex.l x/\(false
  =true->false=true))/\True)/\([(0:Int),(0:Int),(0:Int),(0:Int)]= [(0:Int),(0:Int),(0:Int),(0:Int)]/\(0:Nat)=(0:Nat))/\True)\/∃(x':UnX),R
  false x'/\x'.2+(1:Nat)<=x_1.2/\true=true/\((Ym=Ym/\true=true)/\(0:Nat)=(0:Nat)/\(0:Nat)=(0:Nat)/\False/\(Ex.l x=Ex.l x/\(false=true->
  false=true))/\(↑(List.length (Ex.l x)):Int)=(↑(List.length (Ex.l x)):Int)/\wr IntKind.i64 ((↑(UnX.k x_1):Int)+(1:Int))=(↑(UnX.k x'):Int)/\True)/\(Ex.op x=
  Ex.op x/\Ex.n x=Ex.n x/\Ex.d0 x=Ex.d0 x/\Ex.d1 x=Ex.d1 x/\Ex.d2 x=Ex.d2 x/\Ex.d3 x=Ex.d3 x/\(Ex.l x=Ex.l x/\(false=true->false=true))/\True)/\([(0:Int),
  (0:Int),(0:Int),(0:Int)]= [(0:Int),(0:Int),(0:Int),(0:Int)]/\(0:Nat)=(0:Nat))/\True)))/\(decide ((↑(UnX.k x_1):Int)<(↑(List.length (Ex.l x)):
  Int))=false->((Ex.op x==(3:Int))=true->(2:Nat)<=(0:Nat)/\∀(y:List Int×Bool),y=(List.getD [] (0:Nat) [],eq4 (List.getD [] (0:Nat) []) (List.getD [] (1:
  Nat) []))->(4:Nat)=(4:Nat)/\((!Prod.snd y)=true->(4:Nat)=(4:Nat)/\(4:Nat)=(4:Nat)/\((0:Int)=List.getD (Option.getD o [(0:Int),(0:Int),(0:Int),
  (0:Int)]) (0:Nat) (0:Int)/\(0:Int)=List.getD (Option.getD o [(0:Int),(0:Int),(0:Int),(0:Int)]) (1:Nat) (0:Int)/\(0:Int)=List.getD (Option.getD o [(0
  :Int),(0:Int),(0:Int),(0:Int)]) (2:Nat) (0:Int)/\(0:Int)=List.getD (Option.getD o [(0:Int),(0:Int),(0:Int),(0:Int)]) (3:Nat) (0:Int)/\True)/\
  false=Option.isSome o/\True)/\((!Prod.snd y)=false->(4:Nat)=(4:Nat)/\(4:Nat)=(4:Nat)/\(4:Nat)=(4:Nat)/\(List.getD (Prod.fst y) (0:Nat) (0:Int)=
  List.getD (Option.getD o [(0:Int),(0:Int),(0:Int),(0:Int)]) (0:Nat) (0:Int)/\List.getD (Prod.fst y) (1:Nat) (0:Int)=List.getD (Option.getD o [(0:Int),(0:
  Int),(0:Int),(0:Int)]) (1:Nat) (0:Int)/\List.getD (Prod.fst y) (2:Nat) (0:Int)=List.getD (Option.getD o [(0:Int),(0:Int),(0:Int),(0:Int)]) (2:Nat) (0
  :Int)/\List.getD (Prod.fst y) (3:Nat) (0:Int)=List.getD (Option.getD o [(0:Int),(0:Int),(0:Int),(0:Int)]) (3:Nat) (0:Int)/\True)/\true=Option.isSome o/\
  True))/\((Ex.op x==(3:Int))=false->((Ex.op x==(4:Int))=true->(2:Nat)<=(0:Nat)/\∀(y:List Int×Bool),y=(List.getD [] (0:Nat) [],eq4 (List.getD [] (0:
  Nat) []) (List.getD [] (1:Nat) []))->(4:Nat)=(4:Nat)/\((!Prod.snd y)=true->(4:Nat)=(4:Nat)/\(4:Nat)=(4:Nat)/\((0:Int)=List.getD (Option.getD o [(0:
  Int),(0:Int),(0:Int),(0:Int)]) (0:Nat) (0:Int)/\(0:Int)=List.getD (Option.getD o [(0:Int),(0:Int),(0:Int),(0:Int)]) (1:Nat) (0:Int)/\(0:Int)=
  List.getD (Option.getD o [(0:Int),(0:Int),(0:Int),(0:Int)]) (2:Nat) (0:Int)/\(0:Int)=List.getD (Option.getD o [(0:Int),(0:Int),(0:Int),(0:Int)]) (3:
  Nat) (0:Int)/\True)/\false=Option.isSome o/\True)/\((!Prod.snd y)=false->(4:Nat)=(4:Nat)/\(4:Nat)=(4:Nat)/\(4:Nat)=(4:Nat)/\(List.getD (Prod.fst y)
  (0:Nat) (0:Int)=List.getD (Option.getD o [(0:Int),(0:Int),(0:Int),(0:Int)]) (0:Nat) (0:Int)/\List.getD (Prod.fst y) (1:Nat) (0:Int)=List.getD
  (Option.getD o [(0:Int),(0:Int),(0:Int),(0:Int)]) (1:Nat) (0:Int)/\List.getD (Prod.fst y) (2:Nat) (0:Int)=List.getD (Option.getD o [(0:Int),(0:Int),(0:
  Int),(0:Int)]) (2:Nat) (0:Int)/\List.getD (Prod.fst y) (3:Nat) (0:Int)=List.getD (Option.getD o [(0:Int),(0:Int),(0:Int),(0:Int)]) (3:Nat) (0:Int)/\
  True)/\true=Option.isSome o/\True))/\((Ex.op x==(4:Int))=false->((Ex.op x==(6:Int))=true->(2:Nat)<=(0:Nat)/\∀(y:List Int×Bool),y=(List.getD [] (0:
  Nat) [],eq4 (List.getD [] (0:Nat) []) (List.getD [] (1:Nat) []))->(4:Nat)=(4:Nat)/\((!Prod.snd y)=true->(4:Nat)=(4:Nat)/\(4:Nat)=(4:Nat)/\((0:Int)=
  List.getD (Option.getD o [(0:Int),(0:Int),(0:Int),(0:Int)]) (0:Nat) (0:Int)/\(0:Int)=List.getD (Option.getD o [(0:Int),(0:Int),(0:Int),(0:Int)]) (1:
  Nat) (0:Int)/\(0:Int)=List.getD (Option.getD o [(0:Int),(0:Int),(0:Int),(0:Int)]) (2:Nat) (0:Int)/\(0:Int)=List.getD (Option.getD o [(0:Int),(0:
  Int),(0:Int),(0:Int)]) (3:Nat) (0:Int)/\True)/\false=Option.isSome o/\True)/\((!Prod.snd y)=false->(4:Nat)=(4:Nat)/\(4:Nat)=(4:Nat)/\(4:Nat)=(4
  :Nat)/\(List.getD (Prod.fst y) (0:Nat) (0:Int)=List.getD (Option.getD o [(0:Int),(0:Int),(0:Int),(0:Int)]) (0:Nat) (0:Int)/\List.getD (Prod.fst y) (1:Nat)
  (0:Int)=List.getD (Option.getD o [(0:Int),(0:Int),(0:Int),(0:Int)]) (1:Nat) (0:Int)/\List.getD (Prod.fst y) (2:Nat) (0:Int)=List.getD (Option.getD o [(0:
  Int),(0:Int),(0:Int),(0:Int)]) (2:Nat) (0:Int)/\List.getD (Prod.fst y) (3:Nat) (0:Int)=List.getD (Option.getD o [(0:Int),(0:Int),(0:Int),(0:Int)]) (3
  :Nat) (0:Int)/\True)/\true=Option.isSome o/\True))/\((Ex.op x==(6:Int))=false->((Ex.op x==(7:Int))=true->(2:Nat)<=(0:Nat)/\∀(y:List Int×Bool),y=
  (List.getD [] (0:Nat) [],eq4 (List.getD [] (0:Nat) []) (List.getD [] (1:Nat) []))->(4:Nat)=(4:Nat)/\((!Prod.snd y)=true->(4:Nat)=(4:Nat)/\(4:Nat)=(4:
  Nat)/\((0:Int)=List.getD (Option.getD o [(0:Int),(0:Int),(0:Int),(0:Int)]) (0:Nat) (0:Int)/\(0:Int)=List.getD (Option.getD o [(0:Int),(0:Int),(0:
  Int),(0:Int)]) (1:Nat) (0:Int)/\(0:Int)=List.getD (Option.getD o [(0:Int),(0:Int),(0:Int),(0:Int)]) (2:Nat) (0:Int)/\(0:Int)=List.getD (Option.getD
  o [(0:Int),(0:Int),(0:Int),(0:Int)]) (3:Nat) (0:Int)/\True)/\false=Option.isSome o/\True)/\((!Prod.snd y)=false->(4:Nat)=(4:Nat)/\(4:Nat)=(4:
  Nat)/\(4:Nat)=(4:Nat)/\(List.getD (Prod.fst y) (0:Nat) (0:Int)=List.getD (Option.getD o [(0:Int),(0:Int),(0:Int),(0:Int)]) (0:Nat) (0:Int)/\List.getD
  (Prod.fst y) (1:Nat) (0:Int)=List.getD (Option.getD o [(0:Int),(0:Int),(0:Int),(0:Int)]) (1:Nat) (0:Int)/\List.getD (Prod.fst y) (2:Nat) (0:Int)=
  List.getD (Option.getD o [(0:Int),(0:Int),(0:Int),(0:Int)]) (2:Nat) (0:Int)/\List.getD (Prod.fst y) (3:Nat) (0:Int)=List.getD (Option.getD o [(0:Int),(0:
  Int),(0:Int),(0:Int)]) (3:Nat) (0:Int)/\True)/\true=Option.isSome o/\True))/\((Ex.op x==(7:Int))=false->((Ex.op x==(5:Int))=true->(2:Nat)<=(0:
  Nat)/\∀(y:Option (List Int)),y=cmb (1:Int) (List.getD [] (0:Nat) []) (List.getD [] (1:Nat) [])->(4:Nat)=(4:Nat)/\((!Option.isSome y)=true->(4:Nat)=(4:
  Nat)/\(4:Nat)=(4:Nat)/\((0:Int)=List.getD (Option.getD o [(0:Int),(0:Int),(0:Int),(0:Int)]) (0:Nat) (0:Int)/\(0:Int)=List.getD (Option.getD o [(0:
  Int),(0:Int),(0:Int),(0:Int)]) (1:Nat) (0:Int)/\(0:Int)=List.getD (Option.getD o [(0:Int),(0:Int),(0:Int),(0:Int)]) (2:Nat) (0:Int)/\(0:Int)=
  List.getD (Option.getD o [(0:Int),(0:Int),(0:Int),(0:Int)]) (3:Nat) (0:Int)/\True)/\false=Option.isSome o/\True)/\((!Option.isSome y)=false->(4:Nat)=(4
  :Nat)/\(4:Nat)=(4:Nat)/\(4:Nat)=(4:Nat)/\(List.getD (Option.getD y [(0:Int),(0:Int),(0:Int),(0:Int)]) (0:Nat) (0:Int)=List.getD (Option.getD o [(0
  :Int),(0:Int),(0:Int),(0:Int)]) (0:Nat) (0:Int)/\List.getD (Option.getD y [(0:Int),(0:Int),(0:Int),(0:Int)]) (1:Nat) (0:Int)=List.getD (Option.getD
  o [(0:Int),(0:Int),(0:Int),(0:Int)]) (1:Nat) (0:Int)/\List.getD (Option.getD y [(0:Int),(0:Int),(0:Int),(0:Int)]) (2:Nat) (0:Int)=List.getD
  (Option.getD o [(0:Int),(0:Int),(0:Int),(0:Int)]) (2:Nat) (0:Int)/\List.getD (Option.getD y [(0:Int),(0:Int),(0:Int),(0:Int)]) (3:Nat) (0:Int)=
  List.getD (Option.getD o [(0:Int),(0:Int),(0:Int),(0:Int)]) (3:Nat) (0:Int)/\True)/\true=Option.isSome o/\True))/\((Ex.op x==(5:Int))=false->((Ex.op x
  ==(8:Int))=true->(2:Nat)<=(0:Nat)/\∀(y:Option (List Int)),y=cmb (-1:Int) (List.getD [] (0:Nat) []) (List.getD [] (1:Nat) [])->(4:Nat)=(4:Nat)/\
  ((!Option.isSome y)=true->(4:Nat)=(4:Nat)/\(4:Nat)=(4:Nat)/\((0:Int)=List.getD (Option.getD o [(0:Int),(0:Int),(0:Int),(0:Int)]) (0:Nat) (0:Int)
  /\(0:Int)=List.getD (Option.getD o [(0:Int),(0:Int),(0:Int),(0:Int)]) (1:Nat) (0:Int)/\(0:Int)=List.getD (Option.getD o [(0:Int),(0:Int),(0:Int),(0
  :Int)]) (2:Nat) (0:Int)/\(0:Int)=List.getD (Option.getD o [(0:Int),(0:Int),(0:Int),(0:Int)]) (3:Nat) (0:Int)/\True)/\false=Option.isSome o/\True)/\
  ((!Option.isSome y)=false->(4:Nat)=(4:Nat)/\(4:Nat)=(4:Nat)/\(4:Nat)=(4:Nat)/\(List.getD (Option.getD y [(0:Int),(0:Int),(0:Int),(0:Int)]) (0:
  Nat) (0:Int)=List.getD (Option.getD o [(0:Int),(0:Int),(0:Int),(0:Int)]) (0:Nat) (0:Int)/\List.getD (Option.getD y [(0:Int),(0:Int),(0:Int),(0:Int)])
  (1:Nat) (0:Int)=List.getD (Option.getD o [(0:Int),(0:Int),(0:Int),(0:Int)]) (1:Nat) (0:Int)/\List.getD (Option.getD y [(0:Int),(0:Int),(0:Int),(0:
  Int)]) (2:Nat) (0:Int)=List.getD (Option.getD o [(0:Int),(0:Int),(0:Int),(0:Int)]) (2:Nat) (0:Int)/\List.getD (Option.getD y [(0:Int),(0:Int),(0:Int),
  (0:Int)]) (3:Nat) (0:Int)=List.getD (Option.getD o [(0:Int),(0:Int),(0:Int),(0:Int)]) (3:Nat) (0:Int)/\True)/\true=Option.isSome o/\True))/\((Ex.op x
  ==(8:Int))=false->((Ex.op x==(9:Int))=true->(2:Nat)<=(0:Nat)/\∀(y:Option (List Int)),y=cmb (-1:Int) (List.getD [] (0:Nat) []) (List.getD [] (1:Nat)
  [])->(4:Nat)=(4:Nat)/\((!Option.isSome y)=true->(4:Nat)=(4:Nat)/\(4:Nat)=(4:Nat)/\((0:Int)=List.getD (Option.getD o [(0:Int),(0:Int),(0:Int),
  (0:Int)]) (0:Nat) (0:Int)/\(0:Int)=List.getD (Option.getD o [(0:Int),(0:Int),(0:Int),(0:Int)]) (1:Nat) (0:Int)/\(0:Int)=List.getD (Option.getD o [(0
  :Int),(0:Int),(0:Int),(0:Int)]) (2:Nat) (0:Int)/\(0:Int)=List.getD (Option.getD o [(0:Int),(0:Int),(0:Int),(0:Int)]) (3:Nat) (0:Int)/\True)/\
  false=Option.isSome o/\True)/\((!Option.isSome y)=false->(4:Nat)=(4:Nat)/\(4:Nat)=(4:Nat)/\(4:Nat)=(4:Nat)/\(List.getD (Option.getD y [(0:Int),(0:
  Int),(0:Int),(0:Int)]) (0:Nat) (0:Int)=List.getD (Option.getD o [(0:Int),(0:Int),(0:Int),(0:Int)]) (0:Nat) (0:Int)/\List.getD (Option.getD y [(0:Int),
  (0:Int),(0:Int),(0:Int)]) (1:Nat) (0:Int)=List.getD (Option.getD o [(0:Int),(0:Int),(0:Int),(0:Int)]) (1:Nat) (0:Int)/\List.getD (Option.getD y [(0:
  Int),(0:Int),(0:Int),(0:Int)]) (2:Nat) (0:Int)=List.getD (Option.getD o [(0:Int),(0:Int),(0:Int),(0:Int)]) (2:Nat) (0:Int)/\List.getD (Option.getD y
  [(0:Int),(0:Int),(0:Int),(0:Int)]) (3:Nat) (0:Int)=List.getD (Option.getD o [(0:Int),(0:Int),(0:Int),(0:Int)]) (3:Nat) (0:Int)/\True)/\true=
  Option.isSome o/\True))/\((Ex.op x==(9:Int))=false->((Ex.op x==(10:Int))=true->(2:Nat)<=(0:Nat)/\∀(y:Option (List Int)),y=cmb (-1:Int) (List.getD []
  (0:Nat) []) (List.getD [] (1:Nat) [])->(4:Nat)=(4:Nat)/\((!Option.isSome y)=true->(4:Nat)=(4:Nat)/\(4:Nat)=(4:Nat)/\((0:Int)=List.getD (Option.getD
  o [(0:Int),(0:Int),(0:Int),(0:Int)]) (0:Nat) (0:Int)/\(0:Int)=List.getD (Option.getD o [(0:Int),(0:Int),(0:Int),(0:Int)]) (1:Nat) (0:Int)/\(0:
  Int)=List.getD (Option.getD o [(0:Int),(0:Int),(0:Int),(0:Int)]) (2:Nat) (0:Int)/\(0:Int)=List.getD (Option.getD o [(0:Int),(0:Int),(0:Int),(0:
  Int)]) (3:Nat) (0:Int)/\True)/\false=Option.isSome o/\True)/\((!Option.isSome y)=false->(4:Nat)=(4:Nat)/\(4:Nat)=(4:Nat)/\(4:Nat)=(4:Nat)/\
  (List.getD (Option.getD y [(0:Int),(0:Int),(0:Int),(0:Int)]) (0:Nat) (0:Int)=List.getD (Option.getD o [(0:Int),(0:Int),(0:Int),(0:Int)]) (0:Nat) (0:
  Int)/\List.getD (Option.getD y [(0:Int),(0:Int),(0:Int),(0:Int)]) (1:Nat) (0:Int)=List.getD (Option.getD o [(0:Int),(0:Int),(0:Int),(0:Int)]) (1:Nat)
  (0:Int)/\List.getD (Option.getD y [(0:Int),(0:Int),(0:Int),(0:Int)]) (2:Nat) (0:Int)=List.getD (Option.getD o [(0:Int),(0:Int),(0:Int),(0:Int)]) (2:
  Nat) (0:Int)/\List.getD (Option.getD y [(0:Int),(0:Int),(0:Int),(0:Int)]) (3:Nat) (0:Int)=List.getD (Option.getD o [(0:Int),(0:Int),(0:Int),(0:Int)])
  (3:Nat) (0:Int)/\True)/\true=Option.isSome o/\True))/\((Ex.op x==(10:Int))=false->((Ex.op x==(11:Int))=true->(4:Nat)<=(0:Nat)/\∀(y:List Int×
  Bool),y=(List.getD [] (2:Nat) [],eq4 (List.getD [] (0:Nat) []) (List.getD [] (1:Nat) [])&&eq4 (List.getD [] (2:Nat) []) (List.getD [] (3:Nat) []))->(4:Nat)=(4
  :Nat)/\((!Prod.snd y)=true->(4:Nat)=(4:Nat)/\(4:Nat)=(4:Nat)/\((0:Int)=List.getD (Option.getD o [(0:Int),(0:Int),(0:Int),(0:Int)]) (0:Nat) (0:
  Int)/\(0:Int)=List.getD (Option.getD o [(0:Int),(0:Int),(0:Int),(0:Int)]) (1:Nat) (0:Int)/\(0:Int)=List.getD (Option.getD o [(0:Int),(0:Int),(0:
  Int),(0:Int)]) (2:Nat) (0:Int)/\(0:Int)=List.getD (Option.getD o [(0:Int),(0:Int),(0:Int),(0:Int)]) (3:Nat) (0:Int)/\True)/\false=Option.isSome o/\
  True)/\((!Prod.snd y)=false->(4:Nat)=(4:Nat)/\(4:Nat)=(4:Nat)/\(4:Nat)=(4:Nat)/\(List.getD (Prod.fst y) (0:Nat) (0:Int)=List.getD (Option.getD o [(0
  :Int),(0:Int),(0:Int),(0:Int)]) (0:Nat) (0:Int)/\List.getD (Prod.fst y) (1:Nat) (0:Int)=List.getD (Option.getD o [(0:Int),(0:Int),(0:Int),(0:Int)])
  (1:Nat) (0:Int)/\List.getD (Prod.fst y) (2:Nat) (0:Int)=List.getD (Option.getD o [(0:Int),(0:Int),(0:Int),(0:Int)]) (2:Nat) (0:Int)/\List.getD (Prod.fst
  y) (3:Nat) (0:Int)=List.getD (Option.getD o [(0:Int),(0:Int),(0:Int),(0:Int)]) (3:Nat) (0:Int)/\True)/\true=Option.isSome o/\True))/\((Ex.op x==(11:
  Int))=false->False))))))))))))
  ):=by kernel_rfl
--@end
theorem Z0g:∀k:Nat,k<16-> [[(0:Int),0,0,0],[0,0,0,0],[0,0,0,0],[0,0,0,0],[0,0,0,0],[0,0,0,1],[0,0,1,0],[0,1,0,0],[0,1,0,0],[0,0,0,0],[1,0,0,0],[1,0,0,0],[0,0,0,0],[0,0,0,0],[0,0,0,0],[0,0,0,0]][k]? =some (Zo8 (k:Int)):=by decide
theorem Zvc {d:List Int} (h:Is4 d): [d.getD 0 0,d.getD 1 0,d.getD 2 0,d.getD 3 0]=d:=by
  obtain ⟨a,b,c,e,rfl⟩:=h
  rfl
theorem Zj5 {l:List Ex} {k:Nat} {y:Ex} (h:l[k]? =some y):X8 (l.drop k)=(V9 y).bind fun d=>(X8 (l.drop (k+1))).bind fun ds=>some (d::ds):=by rw [Wb h,X8]
def EqB (o:Option (List Int)) (b:Bool) (d:List Int):Prop:=(b=false->(0=(o.getD [0,0,0,0]).getD 0 0/\0=(o.getD [0,0,0,0]).getD 1 0/\0=(o.getD [0,0,0,0]).getD 2 0/\0=(o.getD [0,0,0,0]).getD 3 0)/\false=o.isSome)/\
  (b=true->(d.getD 0 0=(o.getD [0,0,0,0]).getD 0 0/\d.getD 1 0=(o.getD [0,0,0,0]).getD 1 0/\d.getD 2 0=(o.getD [0,0,0,0]).getD 2 0/\d.getD 3 0=(o.getD [0,0,0,0]).getD 3 0)/\true=o.isSome)
theorem Z0h {o:Option (List Int)} (h:o=none):(0=(o.getD [0,0,0,0]).getD 0 0/\0=(o.getD [0,0,0,0]).getD 1 0/\0=(o.getD [0,0,0,0]).getD 2 0/\0=(o.getD [0,0,0,0]).getD 3 0)/\false=o.isSome:=by subst h;exact ⟨⟨rfl,rfl,rfl,rfl⟩,rfl⟩
theorem Zvd {o:Option (List Int)} {b:Bool} {d:List Int} (h1:b=false->o=none) (h2:b=true->o=some d):EqB o b d:=by
  refine ⟨fun h=>Z0h (h1 h),fun h=> ?_⟩
  rw [h2 h];exact ⟨⟨rfl,rfl,rfl,rfl⟩,rfl⟩
theorem Z9a {P:Prop} [Decidable P] {d:List Int}:EqB (if P then some d else none) (decide P) d:=
  Zvd (fun h=>by rw [if_neg (by simpa using h)]) (fun h=>by rw [if_pos (by simpa using h)])
theorem powB (o:Option (List Int)):EqB o o.isSome (o.getD [0,0,0,0]):=by
  cases o with
  |none=>exact Zvd (fun _=>rfl) (fun h=>by simp at h)
  |some d=>exact Zvd (fun h=>by simp at h) (fun _=>rfl)
theorem Z0i:∀(m:Nat),m<=1000000000->∀(x:Ex),x.sz<m->Zz x=true->PureC E 22 [Xg,exA x] (optV (V9 x)):=by
  intro m
  induction m with
  |zero=>intro _ x h;omega
  |succ m ih=>
    intro hb x hm hf
    have hF:FnsOk E (Z5l m):=Z0z E_ok (Zb Zj4 (Zj3 fun x h=>ih (by omega) x h)) _ _ _
    refine Za E_ok (Yv E_ok Zj4 fun f N c=>(Zdm E_ok hF 800 f N c).1) ?_
    rw [Zr7]
    have hsz:=x.sz_eq
    have hlen:=Ex.szL_len x.l
    obtain ⟨⟨f1,f2,f3,f4,f5,f6,f7,f8,f9,f10⟩,f11,f12⟩:=(Zbu x).1 hf
    simp only [Yn,Z2,W2,W3,W4,beq_iff_eq,bne_iff_ne,beq_eq_false_iff_ne,bne_eq_false_iff_eq,decide_eq_true_eq,decide_eq_false_iff_not,Bool.or_eq_true,Bool.or_eq_false_iff,Bool.not_eq_true',Bool.not_eq_false',Bool.and_eq_true,Bool.and_true,Bool.true_and,Bool.and_eq_false_iff,beq_self_eq_true,Xh,Y2,ne_eq,and_true,true_and,Bool.true_eq_false,Bool.false_eq_true,false_or,or_false,true_implies,imp_self,Int.ofNat_eq_natCast,not_true_eq_false,not_false_eq_true,Decidable.not_not,List.getElem?_cons_zero,List.getElem?_cons_succ,Option.some.injEq,forall_eq',forall_eq,List.set_cons_zero,List.set_cons_succ,List.length_cons,List.length_nil,List.getD_cons_zero,List.getD_cons_succ,tn0,tn1,tn2,tn3,Int.le_refl,Nat.le_refl,Nat.reduceAdd,Int.reduceAdd,Int.reduceLE,Nat.reduceLeDiff,cn4,cn16,Ex.eta,List.drop_zero,List.take_length]
    rw [Z3d]
    refine And.intro (fun h1=> ?_) (fun h1=>And.intro (fun h2=>⟨by omega,by omega,fun y hy=> ?_⟩) (fun h2=> ?_))
    · rw [if_pos h1]
      simp only [Option.getD_some,Option.isSome_some,Ex.u,List.getD_cons_zero,List.getD_cons_succ,and_self]
    · rw [if_neg h1,if_pos h2]
      obtain ⟨k,hk⟩:∃k:Nat,x.n=k:=⟨x.n.toNat,by omega⟩
      rw [hk] at hy⊢
      rw [Int.toNat_natCast,Z0g k (by omega)] at hy
      cases hy
      simp only [Option.getD_some,Option.isSome_some,and_self]
    · rw [if_neg h1,if_neg h2]
      refine ⟨fun s y=>(s=true↔0<y.k)/\y.k<=x.l.length/\y.D.length=y.k/\X8 x.l=(X8 (x.l.drop y.k)).bind (fun ds=>some (y.D++ds))/\(∀d∈y.D,Is4 d)/\y.r=x.l.length-y.k,.inr ⟨⟨0,x.l.length,[]⟩,⟨by simp,(by dsimp only;omega),rfl,by simp,by simp,rfl⟩,rfl⟩,?_,?_⟩
      · rintro y ⟨hs,hk,hD,hv,h4,hr⟩
        have hk0:=hs.1 rfl
        refine And.intro (fun hq=>⟨by omega,by omega,fun z hz=> ?_⟩) (fun hq=> ?_)
        · have hz:x.l[y.k]? =some z:=hz
          rw [Zj5 hz] at hv
          have hzs:=Ex.sz_mem (List.mem_of_getElem? hz)
          have hzf:=formL_iff.1 f12 z (List.mem_of_getElem? hz)
          refine ⟨rfl,⟨by omega,hzf⟩,fun ho=> ?_,fun ho=> ?_⟩
          · have:X8 x.l=none:=by rw [hv,Option.isSome_eq_false_iff.1 ho|>Option.isNone_iff_eq_none.1];rfl
            rw [this]
            exact Z0h rfl
          · obtain ⟨d,hd⟩:=Option.isSome_iff_exists.1 ho
            have hd4:=Zo9 z hzf hd
            rw [hd] at hv⊢
            simp only [Option.getD_some,Zvc hd4]
            refine ⟨⟨by omega,by omega⟩,.inl ⟨⟨y.k+1,x.l.length-(y.k+1),y.D++ [d]⟩,⟨by simp,(by dsimp only;omega),by simp [hD],?_,?_,rfl⟩,(by dsimp only;omega),⟨by simp,wr64 (by omega) (by omega)⟩,rfl⟩⟩
            · rw [hv]
              simp only [Option.bind_some]
              cases X8 (x.l.drop (y.k+1)) with
              |none=>rfl
              |some ds=>simp
            · intro e he
              rcases List.mem_append.1 he with he|he
              · exact h4 e he
              · rw [List.mem_singleton.1 he];exact hd4
        · rw [Wz (by omega)] at hv
          have hv:X8 x.l=some y.D:=by rw [hv,X8];simp
          rw [hv,Option.bind_some]
          have hg:∀i,i<y.D.length->Is4 (y.D.getD i []):=fun i hi=>by
            rw [List.getD_eq_getElem?_getD,List.getElem?_eq_getElem hi]
            exact h4 _ (List.getElem_mem hi)
          have hDl:y.D.length=x.l.length:=by omega
          have eqB:Ws x.op y.D=(if y.D.getD 0 []=y.D.getD 1 [] then some (y.D.getD 0 []) else none)->2<=y.D.length->EqB (Ws x.op y.D) (eq4 (y.D.getD 0 []) (y.D.getD 1 [])) (y.D.getD 0 []):=by
            intro h1 h2
            rw [h1,Znh (hg 0 (by omega)) (hg 1 (by omega))]
            exact Z9a
          refine And.intro (fun a=>⟨by omega,by omega,eqB ?_ (by omega)⟩) (fun a3=>And.intro (fun a=>⟨by omega,by omega,eqB ?_ (by omega)⟩) (fun a4=>And.intro (fun a=>⟨by omega,by omega,eqB ?_ (by omega)⟩) (fun a6=>And.intro (fun a=>⟨by omega,by omega,eqB ?_ (by omega)⟩) (fun a7=>And.intro (fun a=>⟨by omega,by omega,?_⟩) (fun a5=>And.intro (fun a=>⟨by omega,by omega,?_⟩) (fun a8=>And.intro (fun a=>⟨by omega,by omega,?_⟩) (fun a9=>And.intro (fun a=>⟨by omega,by omega,?_⟩) (fun a10=>And.intro (fun a=>⟨by omega,by omega,?_⟩) (fun a11=> ?_)))))))))
          · unfold Ws;rw [if_neg (by omega),if_neg (by omega),if_neg (by omega)]
          · unfold Ws;rw [if_neg (by omega),if_neg (by omega),if_neg (by omega)]
          · unfold Ws;rw [if_neg (by omega),if_neg (by omega),if_neg (by omega)]
          · unfold Ws;rw [if_neg (by omega),if_neg (by omega),if_neg (by omega)]
          · have:Ws x.op y.D=cmb 1 (y.D.getD 0 []) (y.D.getD 1 []):=by unfold Ws;rw [if_pos a]
            rw [this];exact powB _
          · have:Ws x.op y.D=cmb (-1) (y.D.getD 0 []) (y.D.getD 1 []):=by unfold Ws;rw [if_neg (by omega),if_pos (by omega)]
            rw [this];exact powB _
          · have:Ws x.op y.D=cmb (-1) (y.D.getD 0 []) (y.D.getD 1 []):=by unfold Ws;rw [if_neg (by omega),if_pos (by omega)]
            rw [this];exact powB _
          · have:Ws x.op y.D=cmb (-1) (y.D.getD 0 []) (y.D.getD 1 []):=by unfold Ws;rw [if_neg (by omega),if_pos (by omega)]
            rw [this];exact powB _
          · have:Ws x.op y.D=(if y.D.getD 0 []=y.D.getD 1 []/\y.D.getD 2 []=y.D.getD 3 [] then some (y.D.getD 2 []) else none):=by unfold Ws;rw [if_neg (by omega),if_neg (by omega),if_pos a]
            rw [this]
            rw [Znh (hg 0 (by omega)) (hg 1 (by omega)),Znh (hg 2 (by omega)) (hg 3 (by omega))]
            refine And.intro (fun h=> ?_) (fun h=> ?_)
            · rw [if_neg (by
                rintro ⟨p,q⟩
                rcases h with h|h
                · exact of_decide_eq_false h p
                · exact of_decide_eq_false h q)]
              exact Z0h rfl
            · rw [if_pos ⟨of_decide_eq_true h.1,of_decide_eq_true h.2⟩]
              exact ⟨⟨rfl,rfl,rfl,rfl⟩,rfl⟩
          · omega
      · rintro y ⟨hs,hk,hD,hv,h4,hr⟩
        have hk0:y.k=0:=by
          rcases Nat.eq_zero_or_pos y.k with h|h
          · exact h
          · have:=hs.2 h;simp at this
        have hD0:y.D= []:=List.eq_nil_of_length_eq_zero (by omega)
        refine And.intro (fun hq=>⟨by omega,by omega,fun z hz=> ?_⟩) (fun hq=> ?_)
        · have hz:x.l[y.k]? =some z:=hz
          rw [Zj5 hz] at hv
          have hzs:=Ex.sz_mem (List.mem_of_getElem? hz)
          have hzf:=formL_iff.1 f12 z (List.mem_of_getElem? hz)
          refine ⟨rfl,⟨by omega,hzf⟩,fun ho=> ?_,fun ho=> ?_⟩
          · have:X8 x.l=none:=by rw [hv,Option.isSome_eq_false_iff.1 ho|>Option.isNone_iff_eq_none.1];rfl
            rw [this]
            exact Z0h rfl
          · obtain ⟨d,hd⟩:=Option.isSome_iff_exists.1 ho
            have hd4:=Zo9 z hzf hd
            rw [hd] at hv⊢
            simp only [Option.getD_some,Zvc hd4]
            rw [hk0,hD0] at hv
            refine .inl ⟨⟨1,x.l.length-1,[d]⟩,⟨by simp,(by dsimp only;omega),rfl,?_,?_,rfl⟩,(by dsimp only;omega),⟨rfl,by rw [hk0];rfl⟩,rfl⟩
            · rw [hv]
              simp only [Option.bind_some]
              show ((X8 (x.l.drop (0+1))).bind fun ds=>some (d::ds)).bind (fun ds=>some ([]++ds))=(X8 (x.l.drop 1)).bind fun ds=>some ([d]++ds)
              cases X8 (x.l.drop (0+1)) with
              |none=>rfl
              |some ds=>rfl
            · intro e he
              rw [List.mem_singleton.1 he];exact hd4
        · omega
end
section
open Go
theorem Zza:SumOk E 21 (sumO Zby):=Zc4 E_ok (Zd (f:=21) rfl) fun args v h=>by
 unfold Zby at h
 split at h
 · cases h;exact Zsm
 · cases h
theorem Zzb:SumOk E 22 (Zj2 1000000000):=Zj3 fun x h=>Z0i _ (Nat.le_refl _) x h
end
section
open Go
theorem q2 {a b:Option (List Int)} {Kt Kf:Prop} (h1:(a=none\/b=none)->Kt) (h2:∀c d,a=some c->b=some d->Kf):∃Q:Bool->Prop,((a.isSome=false->Q true)/\(a.isSome=true->Q (!b.isSome)))/\(Q true->Kt)/\(Q false->Kf):=by
 cases a with
 |none=>exact ⟨fun q=>q=true,⟨fun _=>rfl,fun h=>by simp at h⟩,fun _=>h1 (.inl rfl),fun h=>(by cases h)⟩
 |some c=>
  cases b with
  |none=>exact ⟨fun q=>q=true,⟨fun h=>by simp at h,fun _=>rfl⟩,fun _=>h1 (.inr rfl),fun h=>(by cases h)⟩
  |some d=>exact ⟨fun q=>q=false,⟨fun h=>by simp at h,fun _=>rfl⟩,fun h=>(by cases h),fun _=>h2 c d rfl rfl⟩
end
section
open Go
def R3 (d:List Int):Prop:=∃a b c e:Int,d= [a,b,c,e]/\(-3<=a/\a<=3)/\(-3<=b/\b<=3)/\(-3<=c/\c<=3)/\(-3<=e/\e<=3)
theorem Yac {s:Int} {a b d:List Int} (h:cmb s a b=some d):R3 d:=by
 unfold cmb at h
 split at h
 · rename_i hc
   cases h
   simp only [Bool.and_eq_true] at hc
   exact ⟨_,_,_,_,rfl,(Zfd _).1 hc.1.1.1,(Zfd _).1 hc.1.1.2,(Zfd _).1 hc.1.2,(Zfd _).1 hc.2⟩
 · cases h
theorem Z6k (n:Int):R3 (Zo8 n):=by
 unfold Zo8
 split
 · exact ⟨_,_,_,_,rfl,by decide,by decide,by decide,by decide⟩
 split
 · exact ⟨_,_,_,_,rfl,by decide,by decide,by decide,by decide⟩
 split
 · exact ⟨_,_,_,_,rfl,by decide,by decide,by decide,by decide⟩
 split<;>exact ⟨_,_,_,_,rfl,by decide,by decide,by decide,by decide⟩
theorem Yad {a b c d:Int} (h:Zaj [a,b,c,d]=true):R3 [a,b,c,d]:=by
 rw [Zkm] at h
 simp only [Bool.and_eq_true,List.all_cons,in1,decide_eq_true_eq] at h
 exact ⟨a,b,c,d,rfl,by omega,by omega,by omega,by omega⟩
theorem Z6l {op:Int} {ds:List (List Int)} {d:List Int} (h:Ws op ds=some d) (h4:∀i,i<(if op=11 then 4 else 2)->R3 (ds.getD i [])):R3 d:=by
 unfold Ws at h
 split at h
 · exact Yac h
 · split at h
   · exact Yac h
   · split at h
     · rename_i h11
       split at h
       · cases h
         exact h4 2 (by rw [if_pos h11];omega)
       · cases h
     · rename_i h11
       split at h
       · cases h
         exact h4 0 (by rw [if_neg h11];omega)
       · cases h
mutual
theorem Zwl:∀(x:Ex) {d:List Int},Zz x=true->V9 x=some d->R3 d
 | .mk op n d0 d1 d2 d3 l,d,hf,h=>by
  have hff:=(Zbu _).1 hf
  rw [V9] at h
  split at h
  · cases h;exact Yad hff.2.1
  · split at h
    · cases h;exact Z6k n
    · rename_i h1 h2
      obtain ⟨ds,hds,h⟩:=Option.bind_eq_some_iff.1 h
      refine Z6l h fun i hi=> ?_
      simp only [Zz,Bool.and_eq_true] at hf
      have hl:=Zwm l hf.2 hds
      have hlen:=Zf1 hds
      have ha:l.length=Zjk op:=by
       have:=hf.1
       simp only [Zf0,Bool.and_eq_true,decide_eq_true_eq] at this
       exact this.1.1.2
      unfold Zjk at ha
      rw [if_neg (by omega)] at ha
      have:i<ds.length:=by rw [hlen,ha];exact hi
      rw [List.getD_eq_getElem?_getD,List.getElem?_eq_getElem this]
      exact hl _ (List.getElem_mem this)
theorem Zwm:∀(l:List Ex) {ds:List (List Int)},Vf l=true->X8 l=some ds->∀d∈ds,R3 d
 | [],ds,_,h=>by simp only [X8] at h;cases h;simp
 |x::r,ds,hf,h=>by
  simp only [Vf,Bool.and_eq_true] at hf
  obtain ⟨d,ds',h1,h2,rfl⟩:=unitL_cons.1 h
  intro e he
  rcases List.mem_cons.1 he with rfl|he
  · exact Zwl x hf.1 h1
  · exact Zwm r hf.2 h2 e he
end
end
section
open Go
theorem Znj:Zg EL F2 (vc EL F2 2000) 48 [.str true [97]] hp0 0 (fun r=>ret EL (patch hp0 0 r) r.v (.bool true true))=(true=true):=by kernel_rfl
theorem Yax:PureC EL 48 [.str true [97]] (.bool true true):=Za Xc (Ze6 2000) (by rw [Znj])
theorem Znk:Zg EL F2 (vc EL F2 2000) 48 [.str true [98]] hp0 0 (fun r=>ret EL (patch hp0 0 r) r.v (.bool true true))=(true=true):=by kernel_rfl
theorem Yay:PureC EL 48 [.str true [98]] (.bool true true):=Za Xc (Ze6 2000) (by rw [Znk])
theorem Znl:Zg EL F2 (vc EL F2 2000) 48 [.str true [99]] hp0 0 (fun r=>ret EL (patch hp0 0 r) r.v (.bool true true))=(true=true):=by kernel_rfl
theorem Yaz:PureC EL 48 [.str true [99]] (.bool true true):=Za Xc (Ze6 2000) (by rw [Znl])
def Zff:List (List Nat):= [[116,121,112,101],[111,119,110,101,114],[114,97,105,108,119,97,121],[115,104,105,112,112,101,114],[99,108,97,115,115],[119,101,105,103,104,116],[107,109],[109,105,110,117,116,101,115],[119,111,114,107,105,110,103],[99,111,100,101],[119,111,114,116,104],[99,111,115,116],[109,111,110,116,104],[98,101,103,105,110],[112,97,114,116,115],[112,97,114,116]]
theorem Ziz:Zg EL F2 (vc EL F2 2000) 24 [.str true [116,121,112,101,32,111,119,110,101,114,32,114,97,105,108,119,97,121,32,115,104,105,112,112,101,114,32,99,108,97,115,115,32,119,101,105,103,104,116,32,107,109,32,109,105,110,117,116,101,115,32,119,111,114,107,105,110,103,32,99,111,100,101,32,119,111,114,116,104,32,99,111,115,116,32,109,111,110,116,104,32,98,101,103,105,110,32,112,97,114,116,115,32,112,97,114,116]] hp0 0 (fun r=>ret EL (patch hp0 0 r) r.v (.psl .strs Zff false))=(Zff=Zff):=by kernel_rfl
theorem Z1z:PureC EL 24 [.str true [116,121,112,101,32,111,119,110,101,114,32,114,97,105,108,119,97,121,32,115,104,105,112,112,101,114,32,99,108,97,115,115,32,119,101,105,103,104,116,32,107,109,32,109,105,110,117,116,101,115,32,119,111,114,107,105,110,103,32,99,111,100,101,32,119,111,114,116,104,32,99,111,115,116,32,109,111,110,116,104,32,98,101,103,105,110,32,112,97,114,116,115,32,112,97,114,116]] (.psl .strs Zff false):=Za Xc (Ze6 2000) (by rw [Ziz])
def Zfg:List (List Nat):= [[104,105,114,101],[100,101,109,117,114,114,97,103,101],[102,114,101,105,103,104,116],[114,101,112,97,105,114],[108,111,115,115],[99,108,101,97,110,105,110,103]]
theorem Zi0:Zg EL F2 (vc EL F2 2000) 24 [.str true [104,105,114,101,32,100,101,109,117,114,114,97,103,101,32,102,114,101,105,103,104,116,32,114,101,112,97,105,114,32,108,111,115,115,32,99,108,101,97,110,105,110,103]] hp0 0 (fun r=>ret EL (patch hp0 0 r) r.v (.psl .strs Zfg false))=(Zfg=Zfg):=by kernel_rfl
theorem Z10:PureC EL 24 [.str true [104,105,114,101,32,100,101,109,117,114,114,97,103,101,32,102,114,101,105,103,104,116,32,114,101,112,97,105,114,32,108,111,115,115,32,99,108,101,97,110,105,110,103]] (.psl .strs Zfg false):=Za Xc (Ze6 2000) (by rw [Zi0])
def Zfh:List (List Nat):= [[109,111,110,101,121],[109,105,110,117,116,101],[107,109],[107,103]]
theorem Zi1:Zg EL F2 (vc EL F2 2000) 24 [.str true [109,111,110,101,121,32,109,105,110,117,116,101,32,107,109,32,107,103]] hp0 0 (fun r=>ret EL (patch hp0 0 r) r.v (.psl .strs Zfh false))=(Zfh=Zfh):=by kernel_rfl
theorem Z11:PureC EL 24 [.str true [109,111,110,101,121,32,109,105,110,117,116,101,32,107,109,32,107,103]] (.psl .strs Zfh false):=Za Xc (Ze6 2000) (by rw [Zi1])
def Zfi:List (List Nat):= [[109,105,110],[109,97,120],[100,111,119,110],[117,112],[104,97,108,102]]
theorem Zi2:Zg EL F2 (vc EL F2 2000) 24 [.str true [109,105,110,32,109,97,120,32,100,111,119,110,32,117,112,32,104,97,108,102]] hp0 0 (fun r=>ret EL (patch hp0 0 r) r.v (.psl .strs Zfi false))=(Zfi=Zfi):=by kernel_rfl
theorem Z12:PureC EL 24 [.str true [109,105,110,32,109,97,120,32,100,111,119,110,32,117,112,32,104,97,108,102]] (.psl .strs Zfi false):=Za Xc (Ze6 2000) (by rw [Zi2])
def Zxl:List (SV thy)->Option (SV thy)
 | [.str true s]=>(match eqL s [97]||(eqL s [98]||eqL s [99]) with|true=>some (.bool true true)|false=>none)
 |_=>none
def Zg6:List (SV thy)->Option (SV thy)
 | [.str true s]=>(match eqL s [116,121,112,101,32,111,119,110,101,114,32,114,97,105,108,119,97,121,32,115,104,105,112,112,101,114,32,99,108,97,115,115,32,119,101,105,103,104,116,32,107,109,32,109,105,110,117,116,101,115,32,119,111,114,107,105,110,103,32,99,111,100,101,32,119,111,114,116,104,32,99,111,115,116,32,109,111,110,116,104,32,98,101,103,105,110,32,112,97,114,116,115,32,112,97,114,116] with|true=>some (.psl .strs Zff false)|false=>(match eqL s [104,105,114,101,32,100,101,109,117,114,114,97,103,101,32,102,114,101,105,103,104,116,32,114,101,112,97,105,114,32,108,111,115,115,32,99,108,101,97,110,105,110,103] with|true=>some (.psl .strs Zfg false)|false=>(match eqL s [109,111,110,101,121,32,109,105,110,117,116,101,32,107,109,32,107,103] with|true=>some (.psl .strs Zfh false)|false=>(match eqL s [109,105,110,32,109,97,120,32,100,111,119,110,32,117,112,32,104,97,108,102] with|true=>some (.psl .strs Zfi false)|false=>none))))
 |_=>none
noncomputable def F3:Fns thy:=addS (addS F2 48 (sumO Zxl)) 24 (sumO Zg6)
theorem Zk7:FnsOk EL F3:=by
 refine Zb (Zb Zw5 (Zc4 Xc (Zd rfl) fun args v h=> ?_)) (Zc4 Xc (Zd rfl) fun args v h=> ?_)
 · unfold Zxl at h
   split at h
   · split at h
     · rename_i e
       cases h
       rw [Bool.or_eq_true] at e
       rw [Bool.or_eq_true] at e
       rcases e with e|e|e
       · rw [Zam e];exact Yax
       · rw [Zam e];exact Yay
       · rw [Zam e];exact Yaz
     · cases h
   · cases h
 · unfold Zg6 at h
   split at h
   · split at h
     · rename_i e;cases h;rw [Zam e];exact Z1z
     · split at h
       · rename_i e;cases h;rw [Zam e];exact Z10
       · split at h
         · rename_i e;cases h;rw [Zam e];exact Z11
         · split at h
           · rename_i e;cases h;rw [Zam e];exact Z12
           · cases h
   · cases h
theorem Ya0 (n:Nat):Y7 EL (Zg EL F3 (vc EL F3 n)):=Yv Xc Zk7 fun f N c=>(Zdm Xc Zk7 n f N c).1
end
section
open Go.RowKit
section
variable {Y : Thy} {E : Eng Y}
theorem Z7u (hE:EngOk E) {H:Hp Y} {v v':SV Y} {bs:List Nat} (o:FrzOk E H v v' bs) {B:Nat} {σ:Pl} {g:GH} {w:World} {u:Value} (hI:Inv E B σ H g w) (hd:Den E σ g v u):
 g.le (frzG E H σ bs g w)/\Inv E B σ (fun b=>match memB b bs with|true=>frzB (H b)|false=>H b) (frzG E H σ bs g w) w/\Den E σ (frzG E H σ bs g w) v' u:=by
 have hle:=Va (bs:=bs) hI
 have src:∀b y,(match memB b bs with|true=>frzB (H b)|false=>H b)=some y->∃y0,H b=some y0/\(∀σ g w r z,BlkOk E σ g w r z y0->BlkOk E σ g w r z y)/\y0.fzc E<=y.fzc E/\(b∈bs->(y0.cells E).length<=y.fzc E):=by
  intro b y hy
  cases hm:memB b bs with
  |true=>
   rw [hm] at hy
   have hbm:=memB_iff.1 hm
   obtain ⟨y0,h1,h2⟩:=o.blk b hbm
   have hy:frzB (H b)=some y:=hy
   rw [h1] at hy
   obtain ⟨y',k1,k2,k3,k4,k5⟩:=Zb3 hE h2
   rw [k1] at hy;cases hy
   exact ⟨y0,h1,k5,k3,fun _=>k4⟩
  |false=>
   rw [hm] at hy
   exact ⟨y,hy,fun _ _ _ _ _ h=>h,Nat.le_refl _,fun hb=>by rw [memB_iff.2 hb] at hm;cases hm⟩
 have ne:∀b,(match memB b bs with|true=>frzB (H b)|false=>H b)≠none->H b≠none:=by
  intro b hb
  obtain ⟨y,hy⟩:=Option.ne_none_iff_exists'.1 hb
  obtain ⟨y0,h1,_⟩:=src b y hy
  rw [h1];simp
 have hI0:=Ziy (bs:=bs) (B':=0) hI
 refine ⟨hle,⟨hI0.gc,hI0.gm,fun b y hy=> ?_,fun b b' r z z' h1 h2=>hI.inj b b' r z z' (ne b h1) (ne b' h2),hI.base,fun b y r z q v hy hs hv=> ?_,fun b y r z hy hs=> ?_,hI0.glob⟩,(o.den H σ g w B u _ (fun _ _=>rfl) hI hle Un hd).mono (fun b p h=>by cases h) (.refl _)⟩
 · obtain ⟨y0,h1,h2,_⟩:=src b y hy
   obtain ⟨r,z,h3,h4⟩:=hI.blk b y0 h1
   exact ⟨r,z,h3,h2 _ _ _ _ _ (h4.mono (.refl _) hle rfl)⟩
 · obtain ⟨y0,h1,_,h3,h4⟩:=src b y hy
   rcases Wk hv with ⟨_,b',hb',z',x',k1,k2,k3⟩|k
   · obtain rfl:=hI.inj b b' r z z' (by rw [h1];simp) (by rw [k2];simp) hs k1
     rw [h1] at k2;cases k2
     exact Nat.lt_of_lt_of_le k3 (h4 hb')
   · exact Nat.lt_of_lt_of_le (hI.fz b y0 r z q v h1 hs k) h3
 · obtain ⟨y0,h1,_⟩:=src b y hy
   exact hI.fm b y0 r z h1 hs
noncomputable def frzC (E:Eng Y) (gth:List (SV Y)->Option Y.Th) (n:Nat) (call:Nat->List (SV Y)->Hp Y->Nat->(Res Y->Prop)->Prop) (f:Nat):Sum Y:=fun args h i k=>
 call f args h i fun r=>
  (match V3 r.v,r.rd with
  |some _,_=>k r
  |none,none=>frzK E gth (patch h i r) n r.v fun v' bs=>We (Zq i bs++r.mods) fun m=>k ⟨v',r.n,m,fun b=>(match memB b bs with|true=>frzB (patch h i r b)|false=>patch h i r b),none⟩
  |none,some _=>False)
theorem Zxv (hE:EngOk E) {gth:List (SV Y)->Option Y.Th} {n:Nat} {call:Nat->List (SV Y)->Hp Y->Nat->(Res Y->Prop)->Prop} (hcall:Y7 E call) {f:Nat} (hg:FnGood E.P f):SumOk E f (frzC E gth n call f):=by
 refine ⟨hg,fun args h i k hD hk=> ?_⟩
 obtain ⟨r,hk,hR,htri⟩:=hcall f args h i _ hD hk
 split at hk
 case h_1=>exact ⟨r,hk,hR,htri⟩
 case h_3=>exact hk.elim
 rename_i hnp hrd
 have htri:W8 E f args h i r:=by
  rcases htri with htri|⟨p,hp,_⟩
  · exact htri
  · rw [hp] at hnp;cases hnp
 obtain ⟨v',bs,hk,o⟩:=Vv hE n r.v _ hk
 rw [Yx] at hk
 have hDp:=hD.patch hR
 have hin:∀b∈bs,patch h i r b≠none:=fun b hb=>by
  obtain ⟨x,hx,_⟩:=o.blk b hb
  rw [hx];simp
 have old:∀b∈bs,b<i->h b≠none:=by
  intro b hb hbi
  have h1:=hin b hb
  rw [Zf] at h1
  split at h1
  · rename_i c
    rcases c with c|c
    · exact hR b c
    · omega
  · exact h1
 refine ⟨_,hk,fun b hb=> ?_,?_⟩
 · rcases List.mem_append.1 hb with hb|hb
   · obtain ⟨h1,h2⟩:=Yp hb
     exact old b h1 h2
   · exact hR b hb
 refine .inl ?_
 intro B σ g w vals hh hhrd hI hB hfree hd
 obtain rfl:hh=h:=funext fun b=>hhrd b trivial
 refine (htri B σ g w vals hh (fun _ _=>rfl) hI hB hfree hd).mono ?_
 rintro en w' ⟨u,he,σ',g',hS,hI',hv⟩
 obtain ⟨k1,k2,k3⟩:=Z7u hE o hI' hv
 refine ⟨u,he,σ',_,⟨hS.sig,hS.snew,hS.gle.trans k1,fun q p v hq=> ?_,fun q es hq=>hS.gmnew q es hq,fun q hq hx=>hS.heap q hq fun b hb=>hx b (List.mem_append_right _ hb),hS.size,hS.os,hS.tape,hS.output,fun b q z h1 h2=>(hS.blk b q z h1 h2).imp (fun x=>x) fun ⟨b',h3,h4⟩=>⟨b',List.mem_append_right _ h3,h4⟩⟩,?_,k3⟩
 · rcases Wk hq with ⟨_,b,hb,z,x,h1,_⟩|h1
   · cases hσ:σ b with
     |some p'=>
      have:=hS.sig b p' hσ
      rw [h1] at this;cases this
      by_cases hbi:b<i
      · exact .inr (.inr ⟨b,List.mem_append_left _ (Wv hb hbi),z,hσ⟩)
      · have:=hDp b (hin b hb)
        rw [hfree b (by omega) this] at hσ;cases hσ
     |none=>
      rcases hS.blk b q z hσ h1 with h2|⟨b',h2,h3⟩
      · exact .inr (.inl h2)
      · exact .inr (.inr ⟨b',List.mem_append_right _ h2,h3⟩)
   · rcases hS.gcnew q p v h1 with h2|h2|⟨b,h2,h3⟩
     · exact .inl h2
     · exact .inr (.inl h2)
     · exact .inr (.inr ⟨b,List.mem_append_right _ h2,h3⟩)
 · refine Zjf k2 fun b x hx=> ?_
   rw [Zf] at hx
   split at hx
   · exact hx
   · rename_i hno
     have hnb:b∉bs:=by
      intro hb
      by_cases hbi:b<i
      · exact hno (.inl (List.mem_append_left _ (Wv hb hbi)))
      · exact hno (.inr ⟨by omega,hDp b (hin b hb)⟩)
     have hm:memB b bs=false:=by rw [<-Bool.not_eq_true,memB_iff];exact hnb
     show (match memB b bs with|true=>frzB (patch hh i r b)|false=>patch hh i r b)=some x
     rw [hm]
     show patch hh i r b=some x
     rw [Zf,if_neg]
     · exact hx
     · rintro (c|c)
       · exact hno (.inl (List.mem_append_right _ c))
       · exact hno (.inr c)
end
end
section
open Go
noncomputable def F4:Fns thy:=addS F3 69 (frzC EL (fun _=>some Th.exprs) 20 (Zg EL F3 (vc EL F3 2000)) 69)
theorem Ya6:FnsOk EL F4:=Zb Zk7 (Zxv Xc (Ya0 2000) (Zd rfl))
noncomputable def F5:Fns thy:=addS F3 69 (frzC EL (fun _=>some Th.exprs) 20 (Zg EL F3 (vc EL F4 2000)) 69)
theorem Z7t (n:Nat):Y7 EL (Zg EL F3 (vc EL F4 n)):=Yv Xc Zk7 fun f N c=>(Zdm Xc Ya6 n f N c).1
theorem Z4o:FnsOk EL F5:=Zb Zk7 (Zxv Xc (Z7t 2000) (Zd rfl))
theorem Ya7 (n:Nat):Y7 EL (Zg EL F5 (vc EL F5 n)):=Yv Xc Z4o fun f N c=>(Zdm Xc Z4o n f N c).1
end
section
open Go
theorem Zyn:Zg EL F5 (vc EL F5 4000) 6 [] hp0 0 (fun r=>ret EL (patch hp0 0 r) r.v (.bool false true))=(true=true):=by kernel_rfl
theorem Zyo:PureC E 6 [] (.bool false true):=by
 refine PureC.like Z8c Z8b (fun _ _ h=>h) (Za Xc (Ya7 4000) ?_)
 rw [Zyn]
end
section
open Go
noncomputable def Yai:Sum thy:=sumP (DcL.nil:DcL E Unit) (fun _=>True) fun _=> .bool false true
theorem Z1l:SumOk E 6 Yai:=Yg E_ok (Zd (f:=6) rfl) fun _ _=>Zyo
noncomputable def Z4j:Sum thy:=sumP Z6m (fun x=>1<=x.2.1/\x.2.1<=1000) fun x=> .int false .i64 (min (x.1.sz:Int) x.2.1)
theorem Zww:SumOk E 47 Z4j:=Yg E_ok (Zd (f:=47) rfl) fun x h=>Z1d _ _ _ (Nat.le_refl _) h.1 h.2
noncomputable def Zwx:Fns thy:=addS F0 47 Z4j
theorem Zwy:FnsOk E Zwx:=Zb F0_ok Zww
theorem Zsk (x:Ex) (b:Bool):Zg E Zwx (vc E Zwx 400) 19 [exA x] hp0 0 (fun r=>ret E (patch hp0 0 r) r.v (.bool false b))=(
((1:Int)<=(61:Int)/\(61:Int)<=(1000:Int))/\(decide (min (↑(Ex.sz (Ex.mk (Ex.op x) (Ex.n x) (Ex.d0 x) (Ex.d1 x) (Ex.d2 x) (Ex.d3 x) (Ex.l x))):Int) (61:Int)<=(60:Int))=true->true=b)/\(decide (min (↑(Ex.sz (Ex.mk (Ex.op x) (Ex.n x) (Ex.d0 x) (Ex.d1 x) (Ex.d2 x) (Ex.d3 x) (Ex.l x))):Int) (61:Int)<=(60:Int))=false->false=b)):=by kernel_rfl
theorem Zku (x:Ex):PureC E 19 [exA x] (.bool false (decide (x.sz<=60))):=by
 refine Za E_ok (Zi E_ok Zwy 400) ?_
 rw [Zsk]
 simp only [Yn,Z2,W2,W3,W4,beq_iff_eq,bne_iff_ne,beq_eq_false_iff_ne,bne_eq_false_iff_eq,decide_eq_true_eq,decide_eq_false_iff_not,Bool.or_eq_true,Bool.or_eq_false_iff,Bool.not_eq_true',Bool.not_eq_false',Bool.and_eq_true,Bool.and_true,Bool.true_and,Bool.and_eq_false_iff,beq_self_eq_true,Xh,Y2,ne_eq,and_true,true_and,Bool.true_eq_false,Bool.false_eq_true,false_or,or_false,true_implies,imp_self,Int.ofNat_eq_natCast,not_true_eq_false,not_false_eq_true,Decidable.not_not,List.getElem?_cons_zero,List.getElem?_cons_succ,Option.some.injEq,forall_eq',forall_eq,List.set_cons_zero,List.set_cons_succ,List.length_cons,List.length_nil,List.getD_cons_zero,List.getD_cons_succ,tn0,tn1,tn2,tn3,Int.le_refl,Nat.le_refl,Nat.reduceAdd,Int.reduceAdd,Int.reduceLE,Nat.reduceLeDiff,cn4,cn16,Ex.eta]
 refine ⟨fun h=> ?_,fun h=> ?_⟩
 · rw [decide_eq_true (by omega)]
 · rw [decide_eq_false (by omega)]
noncomputable def Zqm:Sum thy:=sumP dExp (fun _=>True) fun x=> .bool false (decide (x.1.sz<=60))
theorem Zm7:SumOk E 19 Zqm:=Yg E_ok (Zd (f:=19) rfl) fun x _=>Zku _
end
section
open Go
noncomputable def dTar:DcL E (Tar×Unit):= .cons (dR .tariffs) .nil
def cOk (c:Cls):Bool:=decide (c.name.length<=100)&&decide (c.when_.length<=12)&&decide (c.pay.sz<=60)
def fewF (t:Tar):Bool:=decide (t.clauses.length<=66)&&decide (t.name.length<=100)&&t.clauses.all cOk
structure KX where
 k:Nat
 r:Nat
noncomputable def Afew:Fr thy->Hp thy->Nat->Ann thy:=fun T h i=>{X:=KX,fr:=fun x=> [(1,T 1),(3,.int false .i64 x.k)],bl:=fun x=>blkP h (T 1),src:=fun _=> [],md:= [],ih:=i,M:=i+40,meas:=fun x=>x.r}
noncomputable def Ffew:Fns thy:=addL (addS F0 19 Zqm) 7 4 Afew E
theorem Z5f:FnsOk E Ffew:=Yc E_ok (Zb F0_ok Zm7) _ _ _
abbrev qBS1 (a0:Cls):=(!decide (Ex.sz (Ex.mk (Ex.op (Cls.pay a0)) (Ex.n (Cls.pay a0)) (Ex.d0 (Cls.pay a0)) (Ex.d1 (Cls.pay a0)) (Ex.d2 (Cls.pay a0)) (Ex.d3 (Cls.pay a0)) (Ex.l (Cls.pay a0)))<=(60:Nat)))
abbrev qBS2 (a0:Tar):=(↑(List.length (Tar.clauses a0)):Int)
abbrev qBS3 (a0:Tar):=(Tar.name a0=Tar.name a0/\Tar.for_ a0=Tar.for_ a0/\(Tar.clauses a0=Tar.clauses a0/\(false=true->false=true))/\True)
abbrev qBS4 (a0:KX):=(↑(KX.k a0):Int)
theorem Zz9 (t:Tar) (b:Bool):Zg E Ffew (vc E Ffew 400) 7 [tarA t] hp0 0 (fun r=>ret E (patch hp0 0 r) r.v (.bool false b))=(
 ∃(Q:Bool->Prop),((decide ((qBS2 t)>(66:Int))=true->Q true)/\(decide ((qBS2 t)>(66:Int))=false->(decide ((↑(List.length (Tar.name t)):Int)>(100:Int))=true->Q true)/\(decide ((↑(List.length (Tar.name t)):Int)>(100:Int))=false->Q false)))/\(Q true->false=b)/\(Q false->∃(R:KX->Prop),(∃(x:KX),R x/\true=true/\((0:Nat)=(0:Nat)/\(0:Int)=(qBS4 x)/\True)/\(qBS3 t)/\True)/\∀(x:KX),R x->(decide ((qBS4 x)<(qBS2 t))=true->(0:Int)<=(qBS4 x)/\(qBS4 x)+(1:Int)<=(qBS2 t)/\∀(x_1:Cls),(Tar.clauses t)[Int.toNat (qBS4 x)]? =some x_1->(decide ((↑(List.length (Cls.name x_1)):Int)>(100:Int))=true->false=b)/\(decide ((↑(List.length (Cls.name x_1)):Int)>(100:Int))=false->(decide ((↑(List.length (Cls.when_ x_1)):Int)>(12:Int))=true->false=b)/\(decide ((↑(List.length (Cls.when_ x_1)):Int)>(12:Int))=false->True/\((qBS1 x_1)=true->false=b)/\((qBS1 x_1)=false->∃(x_2:KX),R x_2/\x_2.2+(1:Nat)<=x.2/\true=true/\((0:Nat)=(0:Nat)/\wr IntKind.i64 ((qBS4 x)+(1:Int))=(qBS4 x_2)/\True)/\(qBS3 t)/\True))))/\(decide ((qBS4 x)<(qBS2 t))=false->true=b))):=by kernel_rfl
theorem Zu9 {l:List Cls} {k:Nat} {w:Cls} (h:l[k]? =some w):(l.drop k).all cOk=(cOk w&&(l.drop (k+1)).all cOk):=by rw [Wb h,List.all_cons]
theorem Z0a (t:Tar):PureC E 7 [tarA t] (.bool false (fewF t)):=by
 refine Za E_ok (Zi E_ok Z5f 400) ?_
 rw [Zz9];delta qBS1 qBS2 qBS3 qBS4
 simp only [Yn,Z2,W2,W3,W4,beq_iff_eq,bne_iff_ne,beq_eq_false_iff_ne,bne_eq_false_iff_eq,decide_eq_true_eq,decide_eq_false_iff_not,Bool.or_eq_true,Bool.or_eq_false_iff,Bool.not_eq_true',Bool.not_eq_false',Bool.and_eq_true,Bool.and_true,Bool.true_and,Bool.and_eq_false_iff,beq_self_eq_true,Xh,Y2,ne_eq,and_true,true_and,Bool.true_eq_false,Bool.false_eq_true,false_or,or_false,true_implies,imp_self,Int.ofNat_eq_natCast,not_true_eq_false,not_false_eq_true,Decidable.not_not,List.getElem?_cons_zero,List.getElem?_cons_succ,Option.some.injEq,forall_eq',forall_eq,List.set_cons_zero,List.set_cons_succ,List.length_cons,List.length_nil,List.getD_cons_zero,List.getD_cons_succ,tn0,tn1,tn2,tn3,Int.le_refl,Nat.le_refl,Nat.reduceAdd,Int.reduceAdd,Int.reduceLE,Nat.reduceLeDiff,cn4,cn16,Ex.eta]
 refine ⟨fun b=>b=true↔¬(t.clauses.length<=66/\t.name.length<=100),And.intro (fun h=>⟨fun _=>by omega,fun _=>rfl⟩) (fun h=>And.intro (fun h'=>⟨fun _=>by omega,fun _=>rfl⟩) (fun h'=>⟨fun h=>(by cases h),fun h=>by omega⟩)),fun h=> ?_,fun h=> ?_⟩
 · have:=h.1 rfl
   cases hb:fewF t with
   |false=>rfl
   |true=>exfalso;simp only [fewF,Bool.and_eq_true,decide_eq_true_eq] at hb;exact this hb.1
 · have hh:t.clauses.length<=66/\t.name.length<=100:=Decidable.byContradiction fun hn=>by have:=h.2 hn;cases this
   have hf:fewF t=(t.clauses.drop 0).all cOk:=by simp [fewF,hh.1,hh.2]
   refine ⟨fun x=>x.k+x.r=t.clauses.length/\fewF t=(t.clauses.drop x.k).all cOk,⟨⟨0,t.clauses.length⟩,⟨Nat.zero_add _,hf⟩,rfl⟩,fun x hx=>⟨fun hk=>⟨by omega,by omega,fun c hc=> ?_⟩,fun hk=> ?_⟩⟩
   · rw [Int.toNat_natCast] at hc
     have hd:=Zu9 hc
     have bad:¬(c.name.length<=100/\c.when_.length<=12/\c.pay.sz<=60)->false=fewF t:=fun h=>by
      have:cOk c=false:=by
       cases hb:cOk c with
       |false=>rfl
       |true=>exfalso;simp only [cOk,Bool.and_eq_true,decide_eq_true_eq] at hb;exact h ⟨hb.1.1,hb.1.2,hb.2⟩
      rw [hx.2,hd,this];rfl
     refine And.intro (fun h=>bad (by omega)) (fun h1=>And.intro (fun h=>bad (by omega)) (fun h2=>And.intro (fun h=>bad (by omega)) (fun h3=>⟨⟨x.k+1,x.r-1⟩,⟨by dsimp only;omega,?_⟩,by dsimp only;omega,?_⟩)))
     · have:cOk c=true:=by simp only [cOk,Bool.and_eq_true,decide_eq_true_eq];omega
       rw [hx.2,hd,this];rfl
     · dsimp only
       exact (wr64 (by omega) (by omega)).trans (by omega)
   · rw [hx.2,List.drop_of_length_le (by omega)];rfl
def Zpt (t:Tar):Prop:=(∀c∈t.clauses,c.pay.sz<1000000000/\c.when_.length<1000000000000)/\t.clauses.length<1000000000000
noncomputable def Schk:Sum thy:=sumP dTar (fun x=>Zpt x.1) fun x=> .int false .i64 (Z7 x.1)
theorem Z5g:SumOk E 20 Schk:=Yg E_ok (Zd (f:=20) rfl) fun x h=>Zgu _ (fun c hc=>⟨by have:=(h.1 c hc).1;omega,(h.1 c hc).2⟩) h.2
def intV (p:Int×Int):SV thy:= .tup [.int false .i64 p.1,.int false .i64 p.2]
noncomputable def Atck:Fr thy->Hp thy->Nat->Ann thy:=fun T h i=>{X:=KX,fr:=fun x=> [(4,T 4),(16,T 16),(17,T 17),(18,.int false .i64 x.k)],bl:=fun x=> [],src:=fun _=> [],md:= [],ih:=i,M:=i+40,meas:=fun x=>x.r}
noncomputable def Ftck:Fns thy:=addL (addS (addS (addS F0 20 Schk) 21 (sumO Zby)) 22 (Zj2 1000000000)) 8 6 Atck E
theorem Z5h:FnsOk E Ftck:=Yc E_ok (Zb (Zb (Zb F0_ok Z5g) Zza) Zzb) _ _ _
abbrev qBS8:=(0:Int)
abbrev qBSa (a0:Option (List Int)):=(Option.getD a0 [qBS8,qBS8,qBS8,qBS8])
abbrev qBS5 (a0:Option (List Int)):=(!(List.getD (qBSa a0) (0:Nat) qBS8==(1:Int)&&(List.getD (qBSa a0) (1:Nat) qBS8==qBS8&&(List.getD (qBSa a0) (2:Nat) qBS8==qBS8&&(List.getD (qBSa a0) (3:Nat) qBS8==qBS8&&true)))))
abbrev qBS6 (a0:Cls):=(Ex.mk (Ex.op (Cls.pay a0)) (Ex.n (Cls.pay a0)) (Ex.d0 (Cls.pay a0)) (Ex.d1 (Cls.pay a0)) (Ex.d2 (Cls.pay a0)) (Ex.d3 (Cls.pay a0)) (Ex.l (Cls.pay a0)))
abbrev qBS7 (a0:Tar):=(↑(List.length (Tar.clauses a0)):Int)
abbrev qBS9 (a0:KX):=(↑(KX.k a0):Int)
theorem Z0b (t:Tar) (p:Int×Int):Zg E Ftck (vc E Ftck 400) 8 [tarA t] hp0 0 (fun r=>ret E (patch hp0 0 r) r.v (intV p))=(
 ((∀(c:Cls),c∈Tar.clauses t->Ex.sz (Cls.pay c)+(1:Nat)<=(1000000000:Nat)/\List.length (Cls.when_ c)+(1:Nat)<=(1000000000000:Nat))/\List.length (Tar.clauses t)+(1:Nat)<=(1000000000000:Nat))/\((Z7 t !=qBS8)=true->qBS8=Prod.fst p/\Z7 t=Prod.snd p/\True)/\((Z7 t !=qBS8)=false->∃(R:KX->Prop),(∃(x:KX),R x/\true=true/\((Ym=Ym/\true=true)/\(Tar.clauses t=Tar.clauses t/\(false=true->false=true))/\(qBS7 t)=(qBS7 t)/\qBS8=(qBS9 x)/\True)/\True)/\∀(x:KX),R x->(decide ((qBS9 x)<(qBS7 t))=true->qBS8<=(qBS9 x)/\(qBS9 x)+(1:Int)<=(qBS7 t)/\∀(x_1:Cls),(Tar.clauses t)[Int.toNat (qBS9 x)]? =some x_1->SV.pmap Ym=Xg/\(Ex.sz (qBS6 x_1)+(1:Nat)<=(1000000000:Nat)/\Zz (qBS6 x_1)=true)/\∀(o:Option (List Int)),o=V9 (qBS6 x_1)->(4:Nat)=(4:Nat)/\((!Option.isSome o)=true->(qBS9 x)=Prod.fst p/\(170:Int)=Prod.snd p/\True)/\((!Option.isSome o)=false->(4:Nat)=(4:Nat)/\((qBS5 o)=true->(qBS9 x)=Prod.fst p/\(170:Int)=Prod.snd p/\True)/\((qBS5 o)=false->∃(x_2:KX),R x_2/\x_2.2+(1:Nat)<=x.2/\true=true/\((Ym=Ym/\true=true)/\(Tar.clauses t=Tar.clauses t/\(false=true->false=true))/\(qBS7 t)=(qBS7 t)/\wr IntKind.i64 ((qBS9 x)+(1:Int))=(qBS9 x_2)/\True)/\True)))/\(decide ((qBS9 x)<(qBS7 t))=false->qBS8=Prod.fst p/\qBS8=Prod.snd p/\True))):=by kernel_rfl
def goU:Nat->List Cls->Int×Int
 |_,[]=>(0,0)
 |k,c::r=>if V9 c.pay=some [1,0,0,0] then goU (k+1) r else (k,170)
noncomputable def chkP (t:Tar):Int×Int:=if Z7 t=0 then goU 0 t.clauses else (0,Z7 t)
theorem Z32:∀(l:List Cls) (a b:Bool) (m:List (List Nat×Bool)),goC a b m l=0->∀c∈l,Wa c=true
 | [],_,_,_,_,c,hc=>by cases hc
 |d::r,a,b,m,h,c,hc=>by
  rw [Zdt] at h
  split at h
  · rename_i hd
    rcases List.mem_cons.1 hc with rfl|hc
    · exact hd
    · exact Z32 r _ _ _ h c hc
  · cases h
theorem Zva {t:Tar} (h:Z7 t=0):∀c∈t.clauses,Zz c.pay=true:=fun c hc=>by
 unfold Z7 at h
 split at h
 · have:=Z32 _ _ _ _ h c hc
   simp only [Wa,Bool.and_eq_true] at this
   exact this.1.2
 · cases h
theorem Z0c {l:List Cls} {k:Nat} {c:Cls} (h:l[k]? =some c):goU k (l.drop k)=if V9 c.pay=some [1,0,0,0] then goU (k+1) (l.drop (k+1)) else ((k:Int),170):=by rw [Wb h,goU]
theorem Zhy {p:Int×Int} {a b:Int} (h:p=(a,b)):a=p.1/\b=p.2:=by rw [h];exact ⟨rfl,rfl⟩
theorem Z0d (t:Tar) (hs:Zpt t):PureC E 8 [tarA t] (intV (chkP t)):=by
 refine Za E_ok (Zi E_ok Z5h 400) ?_
 rw [Z0b];delta qBS8 qBSa qBS5 qBS6 qBS7 qBS9
 simp only [Yn,Z2,W2,W3,W4,beq_iff_eq,bne_iff_ne,beq_eq_false_iff_ne,bne_eq_false_iff_eq,decide_eq_true_eq,decide_eq_false_iff_not,Bool.or_eq_true,Bool.or_eq_false_iff,Bool.not_eq_true',Bool.not_eq_false',Bool.and_eq_true,Bool.and_true,Bool.true_and,Bool.and_eq_false_iff,beq_self_eq_true,Xh,Y2,ne_eq,and_true,true_and,Bool.true_eq_false,Bool.false_eq_true,false_or,or_false,true_implies,imp_self,Int.ofNat_eq_natCast,not_true_eq_false,not_false_eq_true,Decidable.not_not,List.getElem?_cons_zero,List.getElem?_cons_succ,Option.some.injEq,forall_eq',forall_eq,List.set_cons_zero,List.set_cons_succ,List.length_cons,List.length_nil,List.getD_cons_zero,List.getD_cons_succ,tn0,tn1,tn2,tn3,Int.le_refl,Nat.le_refl,Nat.reduceAdd,Int.reduceAdd,Int.reduceLE,Nat.reduceLeDiff,cn4,cn16,Ex.eta]
 have hs':=hs
 obtain ⟨hs1,hs2⟩:=hs'
 refine ⟨⟨fun c hc=>And.intro (by have:=(hs1 c hc).1;omega) (by have:=(hs1 c hc).2;omega),by omega⟩,fun h=>Zhy (by unfold chkP;rw [if_neg h]),fun h=> ?_⟩
 have e:chkP t=goU 0 t.clauses:=by unfold chkP;rw [if_pos h]
 refine ⟨fun x=>x.k+x.r=t.clauses.length/\chkP t=goU x.k (t.clauses.drop x.k),⟨⟨0,t.clauses.length⟩,⟨Nat.zero_add _,by rw [e];rfl⟩,rfl⟩,fun x hx=>⟨fun hk=>⟨by omega,by omega,fun c hc=> ?_⟩,fun hk=> ?_⟩⟩
 · rw [Int.toNat_natCast] at hc
   have hm:=List.mem_of_getElem? hc
   have hf:=Zva h c hm
   have hd:=Z0c hc
   have hc2:=hs1 c hm
   refine ⟨rfl,⟨by omega,hf⟩,fun ho=> ?_,fun ho=> ?_⟩
   · have hn:=Option.isNone_iff_eq_none.1 (Option.isSome_eq_false_iff.1 ho)
     exact Zhy (by rw [hx.2,hd,hn,if_neg (by simp)])
   · obtain ⟨d,hdd⟩:=Option.isSome_iff_exists.1 ho
     obtain ⟨a0,a1,a2,a3,rfl,_⟩:=Zwl c.pay hf hdd
     rw [hdd] at hd⊢
     simp only [Option.getD_some,List.getD_cons_zero,List.getD_cons_succ]
     refine ⟨fun hn=>Zhy (by
      have hne:¬some [a0,a1,a2,a3]=some [(1:Int),0,0,0]:=fun he=>by
       simp only [Option.some.injEq,List.cons.injEq,and_true] at he
       omega
      rw [hx.2,hd,if_neg hne]),fun hy=>⟨⟨x.k+1,x.r-1⟩,⟨by dsimp only;omega,?_⟩,by dsimp only;omega,?_⟩⟩
     · rw [hx.2,hd,if_pos (by rw [hy.1,hy.2.1,hy.2.2.1,hy.2.2.2])]
     · dsimp only
       exact (wr64 (by omega) (by omega)).trans (by omega)
 · exact Zhy (by rw [hx.2,List.drop_of_length_le (by omega)];rfl)
theorem Zvb {t:Tar} (h:fewF t=true):Zpt t/\t.clauses.length<=66/\∀c∈t.clauses,c.pay.sz<=60:=by
 simp only [fewF,Bool.and_eq_true,decide_eq_true_eq,List.all_eq_true] at h
 have h3:∀c∈t.clauses,c.when_.length<=12/\c.pay.sz<=60:=fun c hc=>by
  have:=h.2 c hc
  simp only [cOk,Bool.and_eq_true,decide_eq_true_eq] at this
  exact ⟨this.1.2,this.2⟩
 exact ⟨⟨fun c hc=>And.intro (by have:=h3 c hc;omega) (by have:=h3 c hc;omega),by omega⟩,h.1.1,fun c hc=>(h3 c hc).2⟩
noncomputable def Sfew:Sum thy:=sumP dTar (fun _=>True) fun x=> .bool false (fewF x.1)
theorem Z5i:SumOk E 7 Sfew:=Yg E_ok (Zd (f:=7) rfl) fun x h=>Z0a _
noncomputable def Stck:Sum thy:=V8 dTar (fun x=>Zpt x.1) (fun x=>chkP x.1) intV
theorem Z5j:SumOk E 8 Stck:=Z5 E_ok (Zd (f:=8) rfl) fun x h=>Z0d _ h
end
section
open Go.RowKit
section
variable {Y : Thy} {E : Eng Y}
def one (cs:List (SV Y)):Hp Y:=fun b=>match Nat.beq b 0 with|true=>some (.raw cs 0 none)|false=>none
theorem Zu2 (cs:List (SV Y)):one cs 0=some (.raw cs 0 none):=rfl
theorem Zbn {cs:List (SV Y)} {b:Nat} (h:one cs b≠none):b=0:=by
 cases b with
 |zero=>rfl
 |succ b=>exact absurd rfl h
theorem Vp {cs:List (SV Y)} {b:Nat} {x:Blk Y} (h:one cs b=some x):b=0/\x= .raw cs 0 none:=by
 have:=Zbn (cs:=cs) (b:=b) (by rw [h];simp)
 subst this
 rw [Zu2] at h
 cases h
 exact ⟨rfl,rfl⟩
theorem Z5b (cs:List (SV Y)):DomLt (one cs) 1:=fun b hb=>by have:=Zbn hb;omega
def σ1 (p:Nat×Nat):Pl:=fun b=>match Nat.beq b 0 with|true=>some p|false=>none
theorem σ1_some {p q:Nat×Nat} {b:Nat} (h:σ1 p b=some q):b=0/\q=p:=by
 cases b with
 |zero=>cases h;exact ⟨rfl,rfl⟩
 |succ b=>cases h
def mutR (v:SV Y) (cs:List (SV Y)):Res Y:=⟨v,0,[0],at1 0 (some (.raw cs 0 none)),none⟩
def panR (p:Value):Res Y:=⟨.pan p,0,[0],fun _=>none,none⟩
theorem Zr4 (cs cs':List (SV Y)) (v:SV Y):patch (one cs) 1 (mutR v cs')=one cs':=by
 funext b
 rw [Zf]
 cases b with
 |zero=>simp [mutR,at1,one]
 |succ b=>
  rw [if_neg (by simp [mutR])]
  rfl
theorem Zr5 (cs:List (SV Y)) (p:Value):patch (one cs) 1 (panR p)=fun _=>none:=by
 funext b
 rw [Zf]
 cases b with
 |zero=>simp [panR]
 |succ b=>
  rw [if_neg (by simp [panR])]
  rfl
def MutC (E:Eng Y) (f:FuncId) (cs rest:List (SV Y)) (v:SV Y) (cs':List (SV Y)):Prop:=W8 E f (.ptr 0 0::rest) (one cs) 1 (mutR v cs')
def MutP (E:Eng Y) (f:FuncId) (cs rest:List (SV Y)) (p:Value):Prop:=Zmh E f (.ptr 0 0::rest) (one cs) 1 (panR p)
theorem Zme (hE:EngOk E) {B:Nat} {σ:Pl} {h:Hp Y} {g:GH} {w:World} {b r z:Nat} {cs cs0:List (SV Y)} {tg:Option Y.Th} (hI:Inv E B σ h g w) (hb:h b=some (.raw cs 0 tg)) (hσ:σ b=some (r,z)) (hlen:cs.length=cs0.length) (hn:nidL 0 cs0=true)
 (hden:∀σ g (j:Nat) sv',cs0[j]? =some sv'->∃sv,cs[j]? =some sv/\∀u,Den E σ g sv u->Den E σ g sv' u):Inv E B (σ1 (r,z)) (one cs0) g w:=by
 refine ⟨hI.gc,hI.gm,fun x y hx=> ?_,fun x x' r z z' h1 h2 _ _=> ?_,fun x r' z' hs=> ?_,fun x y r' z' o v hx hs hv=> ?_,fun x y r' z' hx hs=> ?_,hI.glob⟩
 · obtain ⟨rfl,rfl⟩:=Vp hx
   refine ⟨r,z,rfl,?_⟩
   obtain ⟨r',z',hσ',arr,e,k1,k2,k3,k4,k5⟩:=hI.blk b _ hb
   rw [hσ] at hσ';cases hσ'
   refine ⟨arr,e,k1,k2,?_,fun j sv' hj=> ?_,trivial⟩
   · simp only [Blk.cells] at k3⊢;omega
   · obtain ⟨sv,h1,h2⟩:=hden σ g j sv' hj
     obtain ⟨v,m1,m2⟩:=k4 j sv h1
     exact ⟨v,m1,Zt hE (h2 v m2) (fun b p hb=>by omega) (Zm hn hj)⟩
 · rw [Zbn h1,Zbn h2]
 · obtain ⟨rfl,e⟩:=σ1_some hs
   cases e
   exact hI.base b _ _ hσ
 · obtain ⟨rfl,e⟩:=σ1_some hs
   obtain ⟨_,rfl⟩:=Vp hx
   cases e
   have h2:o<0:=hI.fz b (.raw cs 0 tg) _ _ o v hb hσ hv
   omega
 · obtain ⟨rfl,e⟩:=σ1_some hs
   cases e
   exact hI.fm b _ _ _ hb hσ
def rawO:Option (List (SV Y))->Option (Blk Y)
 |some c=>some (.raw c 0 none)
 |none=>none
theorem Wu (hE:EngOk E) {B:Nat} {σ σ':Pl} {h:Hp Y} {g g':GH} {w w':World} {b i r z:Nat} {cs:List (SV Y)} {fz:Nat} {tg:Option Y.Th} {x':Option (List (SV Y))} (hI:Inv E B σ h g w) (hb:h b=some (.raw cs fz tg)) (hσ:σ b=some (r,z)) {v v0:SV Y} {h0:Hp Y}
 {σc:Pl} {m0:Nat} (hc0:σc 0=some (r,z)) (hS:Stp m0 0 [0] σc g w σ' g' w') (hI':Inv E B σ' h0 g' w') (h00:∀c,x'=some c->h0 0=some (.raw c 0 none)) (hn:∀c,x'=some c->nidL 0 c=true):
 Stp i 0 [b] σ g w σ g' w'/\Inv E B σ (patch h i ⟨v,0,[b],at1 b (rawO x'),none⟩) g' w':=by
 have hs0:σ' 0=some (r,z):=hS.sig 0 _ hc0
 have one0:∀b'∈ [0],∀q z',σc b'=some (q,z')->b'=0/\(q,z')=(r,z):=by
  intro b' hb' q z' hz'
  rw [List.mem_singleton] at hb'
  subst hb'
  rw [hc0] at hz'
  exact ⟨rfl,(Option.some.inj hz').symm⟩
 have hheap:∀q,q<w.heap.size->q≠r->w'.heap[q]? =w.heap[q]? :=by
  intro q hq hne
  refine hS.heap q hq fun b' hb' z' hz'=> ?_
  obtain ⟨_,e⟩:=one0 b' hb' q z' hz'
  cases e
  exact hne rfl
 have hpatch:∀x,patch h i ⟨v,0,[b],at1 b (rawO x'),none⟩ x=if x=b then (rawO x') else h x:=by
  intro x
  rw [Zf]
  by_cases e:x=b
  · subst e
    rw [if_pos (.inl (by show x∈ [x];simp)),if_pos rfl]
    show at1 x _ x=_
    unfold at1
    rw [Nat.beq_refl]
  · rw [if_neg e,if_neg]
    rintro (c|c)
    · exact e (by simpa using c)
    · simp at c;omega
 have src:∀x y,patch h i ⟨v,0,[b],at1 b (rawO x'),none⟩ x=some y->(x=b/\∃c,x'=some c/\y= .raw c 0 none)\/(x≠b/\h x=some y):=by
  intro x y hy
  rw [hpatch] at hy
  split at hy
  · rename_i e
    cases hx':x' with
    |none=>rw [hx'] at hy;cases hy
    |some c=>rw [hx'] at hy;cases hy;exact .inl ⟨e,c,rfl,rfl⟩
  · rename_i e
    exact .inr ⟨e,hy⟩
 have far:∀x y q z',x≠b->h x=some y->σ x=some (q,z')->q<w.heap.size/\q≠r:=by
  intro x y q z' hx hy hs
  refine ⟨(hI.base x q z' hs).2,?_⟩
  rintro rfl
  exact hx (hI.inj x b _ _ _ (by rw [hy];simp) (by rw [hb];simp) hs hσ)
 have ne:∀x,patch h i ⟨v,0,[b],at1 b (rawO x'),none⟩ x≠none->h x≠none:=by
  intro x hx
  obtain ⟨y,hy⟩:=Option.ne_none_iff_exists'.1 hx
  rcases src x y hy with ⟨rfl,_⟩|⟨_,h2⟩
  · rw [hb];simp
  · rw [h2];simp
 refine ⟨⟨.refl _,fun x p hx=> .inl hx,hS.gle,fun q o v hv=> ?_,hS.gmnew,fun q hq hx=>hheap q hq fun e=>hx b (by simp) z (by rw [hσ,e]),hS.size,hS.os,hS.tape,hS.output,fun x q z' h1 h2=>by rw [h1] at h2;cases h2⟩,
  hI'.gc,hI'.gm,fun x y hx=> ?_,fun x x' q z1 z2 h1 h2 h3 h4=>hI.inj x x' q z1 z2 (ne x h1) (ne x' h2) h3 h4,fun x q z' hs=>⟨(hI.base x q z' hs).1,Nat.lt_of_lt_of_le (hI.base x q z' hs).2 hS.size⟩,fun x y q z' o v hx hs hv=> ?_,fun x y q z' hx hs=> ?_,hI'.glob⟩
 · rcases hS.gcnew q o v hv with h1|h1|⟨b',h1,z',h2⟩
   · exact .inl h1
   · exact .inr (.inl h1)
   · obtain ⟨_,e⟩:=one0 b' h1 _ _ h2
     cases e
     exact .inr (.inr ⟨b,by simp,z,hσ⟩)
 · rcases src x y hx with ⟨rfl,c,hc,rfl⟩|⟨e1,e2⟩
   · refine ⟨r,z,hσ,?_⟩
     obtain ⟨r2,z2,m1,arr,e,k1,k2,k3,k4,k5⟩:=hI'.blk 0 _ (h00 c hc)
     rw [hs0] at m1;cases m1
     refine ⟨arr,e,k1,k2,k3,fun j sv hj=> ?_,trivial⟩
     obtain ⟨v,m1,m2⟩:=k4 j sv hj
     exact ⟨v,m1,Zt hE m2 (fun b p hb=>by omega) (Zm (hn c hc) hj)⟩
   · obtain ⟨q,z',m1,m2⟩:=hI.blk x y e2
     obtain ⟨m3,m4⟩:=far x y q z' e1 e2 m1
     exact ⟨q,z',m1,m2.mono (.refl _) hS.gle (hheap q m3 m4)⟩
 · rcases src x y hx with ⟨rfl,c,hc,rfl⟩|⟨e1,e2⟩
   · rw [hσ] at hs;cases hs
     exact hI'.fz 0 _ _ _ o v (h00 c hc) hs0 hv
   · obtain ⟨m3,m4⟩:=far x y q z' e1 e2 hs
     rcases hS.gcnew q o v hv with h1|h1|⟨b',h1,z2,h2⟩
     · exact hI.fz x y q z' o v e2 hs h1
     · omega
     · obtain ⟨_,e⟩:=one0 b' h1 _ _ h2
       cases e
       exact absurd rfl m4
 · rcases src x y hx with ⟨rfl,c,hc,rfl⟩|⟨e1,e2⟩
   · rw [hσ] at hs;cases hs
     exact hI'.fm 0 _ _ _ (h00 c hc) hs0
   · obtain ⟨m3,m4⟩:=far x y q z' e1 e2 hs
     cases hg':g'.obj q with
     |none=>rfl
     |some es=>
      rcases hS.gmnew q es hg' with k|k
      · rw [hI.fm x y q z' e2 hs] at k;cases k
      · omega
section
variable {X α β ε : Type}
structure MutI (E:Eng Y) (X α β ε:Type) where
 dS:DcL E X
 dA:DcL E α
 v:β->SV Y
 hv:∀y,nid 0 (v y)=true
 hS:∀x,nidL 0 (dS.enc x)=true
 hA:∀a,nidL 0 (dA.enc a)=true
 pv:ε->Value
def Wp (M:MutI E X α β ε) (f:FuncId) (x:X) (a:α) (out:Except ε (β×X)):Prop:=
 match out with
 | .ok (y,x')=>MutC E f (M.dS.enc x) (M.dA.enc a) (M.v y) (M.dS.enc x')
 | .error e=>MutP E f (M.dS.enc x) (M.dA.enc a) (M.pv e)
def Zgt (b:Nat) (v:SV Y) (cs:List (SV Y)):Res Y:=⟨v,0,[b],at1 b (some (.raw cs 0 none)),none⟩
def Zu3 (b:Nat) (p:Value):Res Y:=⟨.pan p,0,[b],at1 b none,none⟩
def sumM (M:MutI E X α β ε) (pre:X->α->Prop) (f:X->α->Except ε (β×X)):Sum Y:=fun args h _ k=>
 match args with
 | .ptr b 0::rest=>
  (match h b with
  |some (.raw cs 0 _)=>
   (match M.dS.dec cs,M.dA.dec rest with
   |some x,some a=>pre x a/\(∀y x',f x a= .ok (y,x')->k (Zgt b (M.v y) (M.dS.enc x')))/\(∀e,f x a= .error e->k (Zu3 b (M.pv e)))
   |_,_=>False)
  |_=>False)
 |_=>False
theorem Zpq {M:DcL E α} {rest:List (SV Y)} {a:α} (hE:EngOk E) (hr:M.dec rest=some a) (hn:nidL 0 (M.enc a)=true) {b r z:Nat} {σ:Pl} {g:GH} {vals:List Value} (hσ:σ b=some (r,z)) (hd:DenL E σ g (.ptr b 0::rest) vals):DenL E (σ1 (r,z)) g (.ptr 0 0::M.enc a) vals:=by
 obtain ⟨k1,k2,k3⟩:=M.ok _ _ hr
 refine ⟨by rw [<-hd.1];simp [k2],fun j sv u h1 h2=> ?_⟩
 cases j with
 |zero=>
  simp at h1;subst h1
  have:=hd.2 0 _ u rfl h2
  cases this
  rename_i hs
  rw [hσ] at hs;cases hs
  exact .ptr (E:=E) (b:=0) rfl
 |succ j=>
  have h1:(M.enc a)[j]? =some sv:=by simpa using h1
  obtain ⟨s0,h3,h4⟩:=k3 σ g j sv h1
  exact Zt hE (h4 u (hd.2 (j+1) s0 u (by simpa using h3) h2)) (fun b p hb=>by omega) (Zm hn h1)
theorem Xe (hE:EngOk E) {f:Nat} (hg:FnGood E.P f) {M:MutI E X α β ε} {pre:X->α->Prop} {fn:X->α->Except ε (β×X)} (hp:∀x a,pre x a->Wp M f x a (fn x a)):SumOk E f (sumM M pre fn):=by
 refine ⟨hg,fun args h i k hD hk=> ?_⟩
 unfold sumM at hk
 split at hk
 case h_2=>exact hk.elim
 rename_i b rest
 split at hk
 case h_2=>exact hk.elim
 rename_i cs tg hb
 split at hk
 case h_2=>exact hk.elim
 rename_i x a hx ha
 obtain ⟨hpp,hk1,hk2⟩:=hk
 have hm:=hp x a hpp
 obtain ⟨c1,c2,c3⟩:=M.dS.ok _ _ hx
 have hbn:h b≠none:=by rw [hb];simp
 unfold Wp at hm
 split at hm
 · rename_i y x' ho
   refine ⟨_,hk1 y x' ho,fun b' hb'=>by
    have:b'∈ [b]:=hb'
    rw [List.mem_singleton] at this
    rw [this];exact hbn,.inl ?_⟩
   intro B σ g w vals hh hrd hI hB hfree hd
   obtain rfl:hh=h:=funext fun b=>hrd b trivial
   obtain ⟨r,z,hσ,_⟩:=hI.blk b _ hb
   refine (hm B (σ1 (r,z)) g w vals _ (fun _ _=>rfl) (Zme hE hI hb hσ c2 (M.hS x) c3) hB (fun c h1 h2=>by simp [mutR] at h2;omega) (Zpq hE ha (M.hA a) hσ hd)).mono ?_
   rintro en w' ⟨u,he,σ',g',hS,hI',hv⟩
   rw [Zr4] at hI'
   obtain ⟨q1,q2⟩:=Wu hE (i:=i) (v:=M.v y) (v0:=M.v y) (x':=some (M.dS.enc x')) hI hb hσ rfl hS hI' (fun c hc=>by cases hc;rfl) (fun c hc=>by cases hc;exact M.hS x')
   exact ⟨u,he,σ,g',q1,q2,Zt hE hv (fun b p hb=>by omega) (M.hv y)⟩
 · rename_i e ho
   refine ⟨_,hk2 e ho,fun b' hb'=>by
    have:b'∈ [b]:=hb'
    rw [List.mem_singleton] at this
    rw [this];exact hbn,.inr ?_⟩
   obtain ⟨p,hp',hm⟩:=hm
   have hp':(SV.pan (M.pv e):SV Y)= .pan p:=hp'
   cases hp'
   refine ⟨_,rfl,fun B σ g w vals hI hB hfree hd=> ?_⟩
   obtain ⟨r,z,hσ,_⟩:=hI.blk b _ hb
   refine (hm B (σ1 (r,z)) g w vals (Zme hE hI hb hσ c2 (M.hS x) c3) hB (fun c h1 h2=>by simp [panR] at h2;omega) (Zpq hE ha (M.hA a) hσ hd)).mono ?_
   rintro en w' ⟨he,σ',g',hS,hI'⟩
   obtain ⟨q1,q2⟩:=Wu hE (i:=i) (v:= .pan (M.pv e)) (v0:= .unk) (x':=none) hI hb hσ rfl hS hI' (fun c hc=>by cases hc) (fun c hc=>by cases hc)
   exact ⟨he,σ,g',q1,q2⟩
theorem Z5c {B:Nat} {p:Nat×Nat} {h:Hp Y} {g g':GH} {w w':World} {σ':Pl} {n:Nat} {mods:List Nat} (hp:p.1<w.heap.size) (hS:Stp 1 n mods (σ1 p) g w σ' g' w') (hI':Inv E B σ' h g' w') (h0:h 0≠none):∀b r z,b≠0->h b≠none->σ' b=some (r,z)->w.heap.size<=r:=by
 intro b r z hb hn hs
 have hs0:σ1 p b=none:=by
  cases b with
  |zero=>exact absurd rfl hb
  |succ b=>rfl
 rcases hS.blk b r z hs0 hs with h1|⟨b',h1,z',h2⟩
 · exact h1
 · obtain ⟨rfl,e⟩:=σ1_some h2
   subst e
   have h3:=hS.sig 0 _ h2
   exact absurd (hI'.inj b 0 r z z' hn h0 hs h3) hb
noncomputable def mutK (M:MutI E X α β ε) (gth:List (SV Y)->Option Y.Th) (n:Nat) (dec:SV Y->Option β) (decP:Value->Option ε) (x:X) (out:Except ε (β×X)) (r:Res Y):Prop:=
 match V3 r.v with
 |some q=>(match decP q with|some e=>out= .error e|none=>False)
 |none=>frzK E gth (patch (one (M.dS.enc x)) 1 r) n r.v fun v' bs=>
  (match patch (one (M.dS.enc x)) 1 r 0 with
  |some (.raw c2 0 _)=>frzL (frzK E gth (patch (one (M.dS.enc x)) 1 r) n) c2 fun cs' bs'=>
   (match memB 0 (bs++bs'),dec v',M.dS.dec cs' with
   |false,some y,some x'=>out= .ok (y,x')
   |_,_,_=>False)
  |_=>False)
theorem CallTri2.panic {f:FuncId} {args:List (SV Y)} {h:Hp Y} {i:Nat} {r:Res Y} {p:Value} (ht:CallTri2 E f args h i r) (hp:V3 r.v=some p) {B:Nat} {σ:Pl} {g:GH} {w:World} {vals:Array Value} (hI:Inv E B σ h g w) (hB:B<=w.heap.size) (hfree:∀b,i<=b->b<i+r.n->σ b=none) (hd:DenL E σ g args vals.toList):
 Calls E.P f vals w fun en w'=>en= .panicked [{v:=p,recovered:=false}]/\∃σ' g',Stp i r.n r.mods σ g w σ' g' w'/\Inv E B σ' (patch h i r) g' w':=by
 have hv:=Zq0 hp
 rcases ht with ht|⟨p',hp',ht⟩
 · refine (ht B σ g w vals h (fun _ _=>rfl) hI hB hfree hd).mono ?_
   rintro en w' ⟨u,_,σ',g',_,_,hd⟩
   rw [hv] at hd
   cases hd
 · rw [hv] at hp'
   cases hp'
   exact ht B σ g w vals hI hB hfree hd
theorem CallTri2.tri {f:FuncId} {args:List (SV Y)} {h:Hp Y} {i:Nat} {r:Res Y} (ht:CallTri2 E f args h i r) (hp:V3 r.v=none):W8 E f args h i r:=by
 rcases ht with ht|⟨p,hv,_⟩
 · exact ht
 · rw [hv] at hp;cases hp
theorem Ybz (hE:EngOk E) {σ σ':Pl} {g:GH} {l:List (SV Y)} {vals:List Value} (hn:nidL 0 l=true) (h:DenL E σ g l vals):DenL E σ' g l vals:=
 ⟨h.1,fun j sv u h1 h2=>Zt hE (h.2 j sv u h1 h2) (fun b p hb=>by omega) (Zm hn h1)⟩
theorem Zz8 (hE:EngOk E) {l:List (SV Y)} (hn:nidL 0 l=true) {r z:Nat} {σ:Pl} {g:GH} {vals:List Value} (hσ:σ 0=some (r,z)) (hd:DenL E σ g (.ptr 0 0::l) vals):DenL E (σ1 (r,z)) g (.ptr 0 0::l) vals:=by
 refine ⟨hd.1,fun j sv u h1 h2=> ?_⟩
 cases j with
 |zero=>
  simp at h1;subst h1
  have:=hd.2 0 _ u rfl h2
  cases this
  rename_i hs
  rw [hσ] at hs;cases hs
  exact .ptr (E:=E) (b:=0) rfl
 |succ j=>
  have h1:l[j]? =some sv:=by simpa using h1
  exact Zt hE (hd.2 (j+1) sv u (by simpa using h1) h2) (fun b p hb=>by omega) (Zm hn h1)
theorem Zmf (hE:EngOk E) {call:Nat->List (SV Y)->Hp Y->Nat->(Res Y->Prop)->Prop} (hcall:Y7 E call) {M:MutI E X α β ε} {gth:List (SV Y)->Option Y.Th} {n:Nat} {dec:SV Y->Option β} {decP:Value->Option ε} (hdec:∀v y,dec v=some y->∀σ g u,Den E σ g v u->Den E σ g (M.v y) u) (hdecP:∀q e,decP q=some e->M.pv e=q)
 {f:Nat} {x:X} {a:α} {out:Except ε (β×X)} (hk:call f (.ptr 0 0::M.dA.enc a) (one (M.dS.enc x)) 1 (mutK M gth n dec decP x out)):Wp M f x a out:=by
 obtain ⟨r,hr,hR,htri⟩:=hcall f _ _ _ _ (Z5b _) hk
 have hmods:∀b∈r.mods,b=0:=fun b hb=>Zbn (hR b hb)
 have free1:∀(p:Nat×Nat) (b:Nat),1<=b->b<1+r.n->σ1 p b=none:=by
  intro p b hb _
  cases b with
  |zero=>omega
  |succ b=>rfl
 have stp:∀(p:Nat×Nat) (g g' g'':GH) (w w':World) (σ':Pl),Stp 1 r.n r.mods (σ1 p) g w σ' g' w'->g'.le g''->(∀q o v,g''.cell q o=some v->g'.cell q o=some v\/w.heap.size<=q)->(∀q es,g''.obj q=some es->g'.obj q=some es\/w.heap.size<=q)->Stp 1 0 [0] (σ1 p) g w (σ1 p) g'' w':=by
  intro p g g' g'' w w' σ' hS hle hc hm
  refine ⟨.refl _,fun b q h=> .inl h,hS.gle.trans hle,fun q o v hv=> ?_,fun q es hv=> ?_,fun q hq hx=>hS.heap q hq fun b hb=>hx b (by rw [hmods b hb];simp),hS.size,hS.os,hS.tape,hS.output,fun b q z h1 h2=>by rw [h1] at h2;cases h2⟩
  · rcases hc q o v hv with h1|h1
    · rcases hS.gcnew q o v h1 with h2|h2|⟨b,h2,h3⟩
      · exact .inl h2
      · exact .inr (.inl h2)
      · exact .inr (.inr ⟨b,by rw [hmods b h2];simp,h3⟩)
    · exact .inr (.inl h1)
  · rcases hm q es hv with h1|h1
    · exact hS.gmnew q es h1
    · exact .inr h1
 have start:∀(B:Nat) (σ:Pl) (g:GH) (w:World) (vals:Array Value),Inv E B σ (one (M.dS.enc x)) g w->DenL E σ g (.ptr 0 0::M.dA.enc a) vals.toList->∃rr zz,σ 0=some (rr,zz)/\Inv E B (σ1 (rr,zz)) (one (M.dS.enc x)) g w/\DenL E (σ1 (rr,zz)) g (.ptr 0 0::M.dA.enc a) vals.toList:=by
  intro B σ g w vals hI hd
  obtain ⟨rr,zz,hσ,_⟩:=hI.blk 0 _ (Zu2 _)
  exact ⟨rr,zz,hσ,Zme hE hI (Zu2 _) hσ rfl (M.hS x) (fun σ g j sv' hj=>⟨sv',hj,fun u h=>h⟩),Zz8 hE (M.hA a) hσ hd⟩
 unfold mutK at hr
 split at hr
 · rename_i q hq
   split at hr
   case h_2=>exact hr.elim
   rename_i e he
   subst hr
   show MutP E f _ _ (M.pv e)
   refine ⟨_,rfl,fun B σ g w vals hI hB hfree hd=> ?_⟩
   obtain ⟨rr,zz,hσ,hI1,hd1⟩:=start B σ g w vals hI hd
   refine (htri.panic hq hI1 hB (free1 _) hd1).mono ?_
   rintro en w' ⟨rfl,σ',g',hS,hI'⟩
   refine ⟨by rw [hdecP q e he],?_⟩
   have hS1:=stp _ g g' g' w w' σ' hS (.refl _) (fun _ _ _ h=> .inl h) (fun _ _ h=> .inl h)
   have hI2:Inv E B (σ1 (rr,zz)) (fun _=>none) g' w':=⟨hI'.gc,hI'.gm,(fun b x hx=>by cases hx),fun b b' r z z' h1=>absurd rfl h1,fun b r z hs=>⟨(hI1.base b r z hs).1,Nat.lt_of_lt_of_le (hI1.base b r z hs).2 hS.size⟩,(fun b x r z o v hx=>by cases hx),(fun b x r z hx=>by cases hx),hI'.glob⟩
   obtain ⟨q1,q2⟩:=Wu hE (i:=1) (v:= .pan (M.pv e)) (v0:= .unk) (x':=none) hI (Zu2 _) hσ rfl hS1 hI2 (fun c hc=>by cases hc) (fun c hc=>by cases hc)
   refine ⟨σ,g',q1,?_⟩
   have e2:patch (one (M.dS.enc x)) 1 ⟨.pan (M.pv e),0,[0],at1 0 (rawO none),none⟩=patch (one (M.dS.enc x)) 1 (panR (M.pv e)):=by
    rw [Zr5]
    funext b
    rw [Zf]
    cases b with
    |zero=>simp [at1,rawO]
    |succ b=>
     rw [if_neg (by simp)]
     rfl
   rw [<-e2];exact q2
 · rename_i hq
   have htri:=htri.tri hq
   obtain ⟨v',bs,hr,o1⟩:=Vv hE n r.v _ hr
   split at hr
   case h_2=>exact hr.elim
   rename_i c2 tg h0
   obtain ⟨cs',bs',hr,o2⟩:=W9 (Vv hE n) hr
   split at hr
   case h_2=>exact hr.elim
   rename_i y x' hmem hy hx'
   subst hr
   show MutC E f _ _ (M.v y) _
   intro B σ g w vals hh hrd hI hB hfree hd
   obtain rfl:hh=one (M.dS.enc x):=funext fun b=>hrd b trivial
   obtain ⟨rr,zz,hσ,hI1,hd1⟩:=start B σ g w vals hI hd
   refine (htri B _ g w vals _ (fun _ _=>rfl) hI1 hB (free1 _) hd1).mono ?_
   rintro en w' ⟨u,rfl,σ',g',hS,hI',hv⟩
   refine ⟨u,rfl,?_⟩
   have hs0:σ' 0=some (rr,zz):=hS.sig 0 _ rfl
   have hrr:rr<w.heap.size:=(hI1.base 0 rr zz rfl).2
   have hfar:=Z5c hrr hS hI' (by rw [h0];simp)
   have hle:=Zba (n:=w.heap.size) hI'
   have hkept:Kept E (patch (one (M.dS.enc x)) 1 r) σ' (bs++bs') w' (allG g' w.heap.size w'):=by
    intro b hb q z y1 hs hy1 j v hj hv
    have hb0:b≠0:=by
     rintro rfl
     have:=memB_iff.2 hb
     rw [this] at hmem;cases hmem
    show (if w.heap.size<=q then w'.cell? ⟨q,j,none⟩ else g'.cell q j)=some v
    rw [if_pos (hfar b q z hb0 (by rw [hy1];simp) hs)]
    exact hv
   have hval:=o1.den _ σ' g' w' B u _ (fun _ _=>rfl) hI' hle (hkept.sub fun b hb=>List.mem_append_left _ hb) hv
   have hcell:∀q o v,(allG g' w.heap.size w').cell q o=some v->g'.cell q o=some v\/w.heap.size<=q:=by
    intro q o v hv
    have hv:(if w.heap.size<=q then w'.cell? ⟨q,o,none⟩ else g'.cell q o)=some v:=hv
    split at hv
    · exact .inr (by assumption)
    · exact .inl hv
   have hobj:∀q es,(allG g' w.heap.size w').obj q=some es->g'.obj q=some es\/w.heap.size<=q:=by
    intro q es hv
    have hv:(if w.heap.size<=q then (match w'.heap[q]? with|some (.map es _)=>some es|_=>none) else g'.obj q)=some es:=hv
    split at hv
    · exact .inr (by assumption)
    · exact .inl hv
   have hS1:=stp _ g g' _ w w' σ' hS hle hcell hobj
   have hG:=Zd0 (n:=w.heap.size) (B':=B) hI'
   obtain ⟨c1,c2',c3⟩:=M.dS.ok _ _ hx'
   have hI2:Inv E B (σ1 (rr,zz)) (one (M.dS.enc x')) (allG g' w.heap.size w') w':=by
    refine ⟨hG.gc,hG.gm,fun b y1 hy1=> ?_,fun b b' q z z' h1 h2 _ _=>by rw [Zbn h1,Zbn h2],fun b q z hs=>⟨(hI1.base b q z hs).1,Nat.lt_of_lt_of_le (hI1.base b q z hs).2 hS.size⟩,fun b y1 q z o v hy1 hs hv=> ?_,fun b y1 q z hy1 hs=> ?_,hG.glob⟩
    · obtain ⟨rfl,rfl⟩:=Vp hy1
      refine ⟨rr,zz,rfl,?_⟩
      obtain ⟨r2,z2,m1,arr,e,k1,k2,k3,k4,k5⟩:=hI'.blk 0 _ h0
      rw [hs0] at m1;cases m1
      have hl:cs'.length=c2.length:=o2.len
      refine ⟨arr,e,k1,k2,?_,fun j sv hj=> ?_,trivial⟩
      · simp only [Blk.cells] at k3⊢;omega
      · obtain ⟨s1,h1,h2⟩:=c3 σ0 (allG g' w.heap.size w') j sv hj
        have hjl:j<c2.length:=by rw [<-hl];exact (List.getElem?_eq_some_iff.1 h1).1
        obtain ⟨v,m1,m2⟩:=k4 j _ (List.getElem?_eq_getElem hjl)
        have:=o2.den _ σ' g' w' B _ (fun _ _=>rfl) hI' hle (hkept.sub fun b hb=>List.mem_append_right _ hb) j _ s1 v (List.getElem?_eq_getElem hjl) h1 m2
        exact ⟨v,m1,(h2 v this).mono (fun b p h=>by cases h) (.refl _)⟩
    · obtain ⟨_,e⟩:=σ1_some hs
      obtain ⟨rfl,rfl⟩:=Vp hy1
      cases e
      rcases hcell _ o v hv with h1|h1
      · have h2:o<0:=hI'.fz 0 (.raw c2 0 tg) _ _ o v h0 hs0 h1
        omega
      · omega
    · obtain ⟨_,e⟩:=σ1_some hs
      cases e
      cases hg':(allG g' w.heap.size w').obj rr with
      |none=>rfl
      |some es=>
       rcases hobj _ es hg' with h1|h1
       · rw [hI'.fm 0 _ _ _ h0 hs0] at h1;cases h1
       · omega
   obtain ⟨q1,q2⟩:=Wu hE (i:=1) (v:=M.v y) (v0:= .unk) (x':=some (M.dS.enc x')) hI (Zu2 _) hσ rfl hS1 hI2 (fun c hc=>by cases hc;rfl) (fun c hc=>by cases hc;exact M.hS x')
   exact ⟨σ,_,q1,q2,(hdec v' y hy _ _ u hval).mono (fun b p h=>by cases h) (.refl _)⟩
end
end
end
section
open Go
inductive WK where
 |at_
 |ki
 |un
 |ca
def WK.src:WK->List Nat
 | .at_=> [116,121,112,101,32,111,119,110,101,114,32,114,97,105,108,119,97,121,32,115,104,105,112,112,101,114,32,99,108,97,115,115,32,119,101,105,103,104,116,32,107,109,32,109,105,110,117,116,101,115,32,119,111,114,107,105,110,103,32,99,111,100,101,32,119,111,114,116,104,32,99,111,115,116,32,109,111,110,116,104,32,98,101,103,105,110,32,112,97,114,116,115,32,112,97,114,116]
 | .ki=> [104,105,114,101,32,100,101,109,117,114,114,97,103,101,32,102,114,101,105,103,104,116,32,114,101,112,97,105,114,32,108,111,115,115,32,99,108,101,97,110,105,110,103]
 | .un=> [109,111,110,101,121,32,109,105,110,117,116,101,32,107,109,32,107,103]
 | .ca=> [109,105,110,32,109,97,120,32,100,111,119,110,32,117,112,32,104,97,108,102]
def WK.words:WK->List (List Nat)
 | .at_=> [[116,121,112,101],[111,119,110,101,114],[114,97,105,108,119,97,121],[115,104,105,112,112,101,114],[99,108,97,115,115],[119,101,105,103,104,116],[107,109],[109,105,110,117,116,101,115],[119,111,114,107,105,110,103],[99,111,100,101],[119,111,114,116,104],[99,111,115,116],[109,111,110,116,104],[98,101,103,105,110],[112,97,114,116,115],[112,97,114,116]]
 | .ki=> [[104,105,114,101],[100,101,109,117,114,114,97,103,101],[102,114,101,105,103,104,116],[114,101,112,97,105,114],[108,111,115,115],[99,108,101,97,110,105,110,103]]
 | .un=> [[109,111,110,101,121],[109,105,110,117,116,101],[107,109],[107,103]]
 | .ca=> [[109,105,110],[109,97,120],[100,111,119,110],[117,112],[104,97,108,102]]
theorem Zug:Zg EL F0 (vc EL F0 2000) 24 [.str true (WK.src .at_)] hp0 0 (fun r=>ret EL (patch hp0 0 r) r.v (.psl .strs (WK.words .at_) false))=(WK.words .at_=WK.words .at_):=by kernel_rfl
theorem Zuh:Zg EL F0 (vc EL F0 2000) 24 [.str true (WK.src .ki)] hp0 0 (fun r=>ret EL (patch hp0 0 r) r.v (.psl .strs (WK.words .ki) false))=(WK.words .ki=WK.words .ki):=by kernel_rfl
theorem Zui:Zg EL F0 (vc EL F0 2000) 24 [.str true (WK.src .un)] hp0 0 (fun r=>ret EL (patch hp0 0 r) r.v (.psl .strs (WK.words .un) false))=(WK.words .un=WK.words .un):=by kernel_rfl
theorem Zuj:Zg EL F0 (vc EL F0 2000) 24 [.str true (WK.src .ca)] hp0 0 (fun r=>ret EL (patch hp0 0 r) r.v (.psl .strs (WK.words .ca) false))=(WK.words .ca=WK.words .ca):=by kernel_rfl
def wkOf (s:List Nat):Option WK:=
 match eqL s (WK.src .at_) with
 |true=>some .at_
 |false=>(match eqL s (WK.src .ki) with
  |true=>some .ki
  |false=>(match eqL s (WK.src .un) with
   |true=>some .un
   |false=>(match eqL s (WK.src .ca) with|true=>some .ca|false=>none)))
theorem Zrt {s:List Nat} {k:WK} (h:wkOf s=some k):s=k.src:=by
 unfold wkOf at h
 repeat' split at h
 all_goals first|(cases h;rename_i e;exact Zam e)|cases h
theorem Zpf (k:WK):PureC E 24 [.str true k.src] (.psl .strs k.words false):=by
 cases k
 · exact Zd2 (n:=2000) (by rw [Zug])
 · exact Zd2 (n:=2000) (by rw [Zuh])
 · exact Zd2 (n:=2000) (by rw [Zui])
 · exact Zd2 (n:=2000) (by rw [Zuj])
def Zl3:List (SV thy)->Option (SV thy)
 | [.str true s]=>(match wkOf s with|some k=>some (.psl .strs k.words false)|none=>none)
 |_=>none
noncomputable def Zjm:Sum thy:=sumO Zl3
theorem Zc7:SumOk E 24 Zjm:=Zc4 E_ok (Zd rfl) fun args v h=>by
 unfold Zl3 at h
 split at h
 · split at h
   · rename_i k hk
     cases h
     rw [Zrt hk]
     exact Zpf k
   · cases h
 · cases h
def idxS (s:List Nat):Nat->List (List Nat)->Int
 |_,[]=> -1
 |k,x::r=>if s=x then (k:Int) else idxS s (k+1) r
theorem Zzy {s:List Nat} {l:List (List Nat)}:∀{k:Nat} {x:List Nat},l[k]? =some x->idxS s k (l.drop k)=if s=x then (k:Int) else idxS s (k+1) (l.drop (k+1)):=by
 intro k x h
 have hlt:=(List.getElem?_eq_some_iff.1 h).1
 rw [List.drop_eq_getElem_cons hlt]
 have:l[k]=x:=(List.getElem?_eq_some_iff.1 h).2
 rw [this];rfl
def Aixs:Fr thy->Hp thy->Nat->Ann thy:=fun T h i=>{X:=LX,fr:=fun x=> [(0,T 0),(1,T 1),(7,T 7),(8,.int false .i64 x.k)],bl:=fun x=> [],src:=fun _=> [],md:= [],ih:=i,M:=i+30,meas:=fun x=>x.r}
noncomputable def Fixs:Fns thy:=addL F0 96 2 Aixs E
theorem Z3w (l:List (List Nat)) (s:List Nat) (v:Int):Zg E Fixs (vc E Fixs 400) 96 [.psl Th.strs l false,.str false s] hp0 0 (fun r=>ret E (patch hp0 0 r) r.v (.int false .i64 v))=(
∃(R:LX->Prop),(∃(x:LX),R x/\true=true/\((l=l/\(false=true->false=true))/\s=s/\(↑(List.length l):Int)=(↑(List.length l):Int)/\(0:Int)=(↑(LX.k x):Int)/\True)/\True)/\∀(x:LX),R x->(decide ((↑(LX.k x):Int)<(↑(List.length l):Int))=true->(0:Int)<=(↑(LX.k x):Int)/\(↑(LX.k x):Int)+(1:Int)<=(↑(List.length l):Int)/\∀(x_1:List Nat),l[Int.toNat (↑(LX.k x):Int)]? =some x_1->((s==x_1)=true->(↑(LX.k x):Int)=v)/\((s==x_1)=false->∃(x_2:LX),R x_2/\x_2.2+(1:Nat)<=x.2/\true=true/\((l=l/\(false=true->false=true))/\s=s/\(↑(List.length l):Int)=(↑(List.length l):Int)/\wr IntKind.i64 ((↑(LX.k x):Int)+(1:Int))=(↑(LX.k x_2):Int)/\True)/\True))/\(decide ((↑(LX.k x):Int)<(↑(List.length l):Int))=false->(-1:Int)=v)):=by kernel_rfl
theorem Z3x (l:List (List Nat)) (s:List Nat) (hl:l.length<=1000000000):PureC E 96 [.psl Th.strs l false,.str false s] (.int false .i64 (idxS s 0 l)):=by
 have hF:FnsOk E Fixs:=Yc E_ok F0_ok _ _ _
 refine Za E_ok (Zi E_ok hF 400) ?_
 rw [Z3w]
 simp only [and_true,true_and,decide_eq_true_eq,decide_eq_false_iff_not,beq_iff_eq,beq_eq_false_iff_ne,imp_self]
 refine ⟨fun x=>x.k<=l.length/\idxS s x.k (l.drop x.k)=idxS s 0 l/\x.r=l.length-x.k,⟨⟨0,l.length,[],0⟩,⟨(by dsimp only;omega),rfl,rfl⟩,rfl⟩,?_⟩
 rintro x ⟨hk,hv,hr⟩
 refine And.intro (fun hq=>⟨by omega,by omega,fun y hy=> ?_⟩) (fun hq=> ?_)
 · have hy:l[x.k]? =some y:=hy
   rw [Zzy hy] at hv
   refine ⟨fun e=> ?_,fun e=> ?_⟩
   · rw [if_pos e] at hv;exact hv
   · rw [if_neg e] at hv
     exact ⟨⟨x.k+1,l.length-(x.k+1),[],0⟩,⟨(by dsimp only;omega),hv,rfl⟩,by show l.length-(x.k+1)+1<=x.r;omega,wr64 (by omega) (by omega)⟩
 · rw [List.drop_eq_nil_of_le (by omega)] at hv
   exact hv
noncomputable def Sixs:Sum thy:=V8 (dA2 (Zog (E:=E) Th.strs:Dc E (List (thy.dom Th.strs))) dS) (fun x=>x.1.length<=1000000000) (fun x=>idxS x.2.1 0 x.1) fun y=> .int false .i64 y
theorem Z8w:SumOk E 96 Sixs:=Z5 E_ok (Zd (f:=96) rfl) fun x h=>Z3x x.1 x.2.1 h
end
section
open Go
def Zwh:Dc E Unit where
 dec v:=match v with| .tup []=>some ()|_=>none
 enc _:= .tup []
 ok v a h:=by
  split at h
  · exact ⟨rfl,rfl,fun _ _ _ h=>h⟩
  · cases h
def dTup {α:Type} (r:DcL E α):Dc E α where
 dec v:=match v with| .tup cs=>r.dec cs|_=>none
 enc a:= .tup (r.enc a)
 ok v a h:=by
  split at h
  · obtain ⟨k1,k2,k3⟩:=r.ok _ _ h
    refine ⟨by simpa [nid] using k1,rfl,fun σ g u hd=> ?_⟩
    obtain ⟨arr,c,rfl,hs,hc,hd⟩:=Zi3 hd
    refine .tup c (by omega) (fun j hj=>hc j (by omega)) fun j sv' hj=> ?_
    obtain ⟨sv,h1,h2⟩:=k3 σ g j sv' hj
    exact h2 _ (hd j sv h1)
  · cases h
def dBt:Dc E Bool where
 dec v:=match v with| .bool _ b=>some b|_=>none
 enc b:= .bool true b
 ok v a h:=by
  split at h
  · cases h
    exact ⟨rfl,rfl,fun σ g u hd=>by cases hd;exact .bool _ _⟩
  · cases h
abbrev PX:=List Tok×Int×Unit
noncomputable def Ycl:Dc E (List Tok):=(Zog (E:=E) Th.toks:Dc E (List (thy.dom Th.toks)))
noncomputable def dPX:DcL E PX:=dA2 Ycl dN
def Z09 (e:Int×Int):Value:= .iface 74 (.agg #[.int .i64 e.1,.int .i64 e.2])
def Zqg:Value->Option (Int×Int)
 | .iface t (.agg a)=>(match Nat.beq t 74,a.toList with|true,[.int .i64 x,.int .i64 y]=>some (x,y)|_,_=>none)
 |_=>none
theorem Zkn (q:Value) (e:Int×Int) (h:Zqg q=some e):Z09 e=q:=by
 unfold Zqg at h
 split at h
 · rename_i t a
   split at h
   · rename_i x y ht ha
     cases h
     unfold Z09
     obtain rfl:=Nat.eq_of_beq_eq_true ht
     have:a= #[Value.int .i64 x,Value.int .i64 y]:=by rw [<-Array.toArray_toList (xs:=a),ha]
     rw [this]
   · cases h
 · cases h
noncomputable def mI {α β:Type} (dA:DcL E α) (hA:∀a,nidL 0 (dA.enc a)=true) (d:Dc E β) (hv:∀y,nid 0 (d.enc y)=true):MutI E PX α β (Int×Int) where
 dS:=dPX
 dA:=dA
 v:=d.enc
 hv:=hv
 hS _:=rfl
 hA:=hA
 pv:=Z09
abbrev PR (β:Type):=Except (Int×Int) (β×PX)
noncomputable def mK {α β:Type} (dA:DcL E α) (hA:∀a,nidL 0 (dA.enc a)=true) (d:Dc E β) (hv:∀y,nid 0 (d.enc y)=true) (l:List Tok) (e:Int) (out:PR β):Res thy->Prop:=
 mutK (mI dA hA d hv) (fun _=>none) 3 d.dec Zqg (l,e,()) out
theorem V1 {F:Fns thy} (hF:FnsOk E F) {n:Nat} {α β:Type} {dA:DcL E α} {hA:∀a,nidL 0 (dA.enc a)=true} {d:Dc E β} {hv:∀y,nid 0 (d.enc y)=true} {f:Nat} {l:List Tok} {e:Int} {a:α} {out:PR β}
 (hk:Zg E F (vc E F n) f (.ptr 0 0::dA.enc a) (one [.psl Th.toks l false,.int false .i64 e]) 1 (mK dA hA d hv l e out)):Wp (mI dA hA d hv) f (l,e,()) a out:=
 Zmf E_ok (Zi E_ok hF n) (fun v y h=>(d.ok v y h).2.2) Zkn (x:=(l,e,())) hk
theorem n1 {α:Type} {d:Dc E α} (h:∀y,nid 0 (d.enc y)=true):∀a:α×Unit,nidL 0 ((dA1 d).enc a)=true:=fun a=>by
 show (nid 0 (d.enc a.1)&&true)=true
 rw [h];rfl
theorem n0:∀a:Unit,nidL 0 ((DcL.nil (E:=E)).enc a)=true:=fun _=>rfl
def dWK:DcL E WK where
 dec vs:=match vs with| [.str true s]=>wkOf s|_=>none
 enc k:= [.str true k.src]
 ok vs k h:=by
  split at h
  · rw [Zrt h]
    exact ⟨rfl,rfl,fun σ g j sv' hj=>⟨sv',hj,fun _ h=>h⟩⟩
  · cases h
theorem Zii:∀k,nidL 0 (dWK.enc k)=true:=fun _=>rfl
theorem Zw {A B:Prop}:(∃Q:Bool->Prop,Q true/\(Q true->A)/\(Q false->B))↔A:=
 ⟨fun ⟨_,h1,h2,_⟩=>h2 h1,fun h=>⟨fun b=>b=true,rfl,fun _=>h,fun h=>by cases h⟩⟩
theorem Z8 {c:Bool} {A B:Prop}:(∃Q:Bool->Prop,((c=true->Q true)/\(c=false->Q false))/\(Q true->A)/\(Q false->B))↔((c=true->A)/\(c=false->B)):=by
 constructor
 · rintro ⟨Q,⟨h1,h2⟩,h3,h4⟩
   exact ⟨fun h=>h3 (h1 h),fun h=>h4 (h2 h)⟩
 · rintro ⟨h1,h2⟩
   exact ⟨fun b=>c=b,⟨fun h=>h,fun h=>h⟩,h1,h2⟩
theorem tz {t:Tok} {l:List Tok}:((((t::l).length:Nat):Int)==0)=false:=by
 rw [beq_eq_false_iff_ne,List.length_cons];omega
theorem tz0:(((([]:List Tok).length:Nat):Int)==0)=true:=rfl
theorem tp {t:Tok} {l:List Tok}:decide ((((t::l).length:Nat):Int)>0)=true:=by
 rw [decide_eq_true_eq,List.length_cons];omega
theorem tp0:decide (((([]:List Tok).length:Nat):Int)>0)=false:=rfl
theorem tl1 {t:Tok} {l:List Tok}:((0:Int)+1<=(((t::l).length:Nat):Int))=True:=eq_true (by rw [List.length_cons];omega)
theorem tl2 {t:Tok} {l:List Tok}:((1:Int)<=(((t::l).length:Nat):Int))=True:=eq_true (by rw [List.length_cons];omega)
theorem tg {t x:Tok} {l:List Tok}:((t::l)[Int.toNat 0]? =some x)=(t=x):=by
 rw [eq_iff_iff];simp
theorem td {t:Tok} {l:List Tok}:List.drop (Int.toNat 1) (t::l)=l:=rfl
theorem i01:((0:Int)<=1)=True:=by simp
def hdT (e:Int):List Tok->Int
 | []=>e
 |t::_=>t.at_
def isW (s:List Nat):List Tok->Bool
 | []=>false
 |t::_=> !(t.kind==2)&&t.text==s
def pAcc (s:List Nat) (l:List Tok) (e:Int):PR Bool:= .ok (isW s l,if isW s l then l.tail else l,e,())
def Ze1 (s:List Nat) (l:List Tok) (e:Int):PR Unit:=if isW s l then .ok ((),l.tail,e,()) else .error (hdT e l,160)
def pInt:List Tok->Int->PR Int
 | [],e=> .error (e,160)
 |t::r,e=>if t.kind=2 then .ok (t.n,r,e,()) else .error (t.at_,160)
def chz (ws:List (List Nat)):List Tok->Int
 | []=> -1
 |t::_=>if t.kind=1 then idxS t.text 0 ws else-1
def Zn (ws:List (List Nat)) (l:List Tok) (e:Int):PR (Int×Bool×Unit):=if 0<=chz ws l then .ok ((chz ws l,true,()),l.tail,e,()) else .ok ((0,false,()),l,e,())
def Z9 (ws:List (List Nat)) (l:List Tok) (e:Int):PR Int:=if 0<=chz ws l then .ok (chz ws l,l.tail,e,()) else .error (hdT e l,160)
def V5:List Tok->Int->PR (List Nat)
 | [],e=> .error (e,160)
 |t::r,e=>if t.kind=1 then (if t.text∈resW then .error (t.at_,161) else .ok (t.text,r,e,())) else .error (t.at_,160)
theorem V6 {i:Int}:(decide (i<0)=true)=¬0<=i:=by rw [decide_eq_true_eq];exact propext (by omega)
theorem V7 {i:Int}:(decide (i<0)=false)=(0<=i):=by rw [decide_eq_false_iff_not];exact propext (by omega)
theorem Zmy (l:List Tok) (e:Int) (s:List Nat) (out:PR Bool):Zg E F0 (vc E F0 400) 33 [.ptr 0 0,.str false s] (one [.psl Th.toks l false,.int false .i64 e]) 1 (mK (dA1 dS) (n1 fun _=>rfl) dBt (fun _=>rfl) l e out)=(
(((↑(List.length l):Int)==(0:Int))=true->out=Except.ok (false,l,e,()))/\(((↑(List.length l):Int)==(0:Int))=false->(0:Int)<=(0:Int)/\(0:Int)+(1:Int)<=(↑(List.length l):Int)/\∀(x:Tok),l[Int.toNat (0:Int)]? =some x->((Tok.kind x==(2:Int))=true->out=Except.ok (false,l,e,()))/\((Tok.kind x==(2:Int))=false->(0:Int)<=(0:Int)/\(0:Int)+(1:Int)<=(↑(List.length l):Int)/\∀(x:Tok),l[Int.toNat (0:Int)]? =some x->((!Tok.text x==s)=true->out=Except.ok (false,l,e,()))/\((!Tok.text x==s)=false->((0:Int)<=(1:Int)/\(1:Int)<=(↑(List.length l):Int))/\out=Except.ok (true,List.drop (Int.toNat (1:Int)) l,e,()))))):=by kernel_rfl
theorem Zko (l:List Tok) (e:Int) (out:PR Int):Zg E F0 (vc E F0 400) 98 [.ptr 0 0] (one [.psl Th.toks l false,.int false .i64 e]) 1 (mK .nil n0 dN (fun _=>rfl) l e out)=(
(((↑(List.length l):Int)==(0:Int))=true->(decide ((↑(List.length l):Int)>(0:Int))=true->(0:Int)<=(0:Int)/\(0:Int)+(1:Int)<=(↑(List.length l):Int)/\∀(x:Tok),l[Int.toNat (0:Int)]? =some x->out=Except.error (Tok.at_ x,(160:Int)))/\(decide ((↑(List.length l):Int)>(0:Int))=false->out=Except.error (e,(160:Int))))/\(((↑(List.length l):Int)==(0:Int))=false->(0:Int)<=(0:Int)/\(0:Int)+(1:Int)<=(↑(List.length l):Int)/\∀(x:Tok),l[Int.toNat (0:Int)]? =some x->((Tok.kind x !=(2:Int))=true->(decide ((↑(List.length l):Int)>(0:Int))=true->(0:Int)<=(0:Int)/\(0:Int)+(1:Int)<=(↑(List.length l):Int)/\∀(x:Tok),l[Int.toNat (0:Int)]? =some x->out=Except.error (Tok.at_ x,(160:Int)))/\(decide ((↑(List.length l):Int)>(0:Int))=false->out=Except.error (e,(160:Int))))/\((Tok.kind x !=(2:Int))=false->(0:Int)<=(0:Int)/\(0:Int)+(1:Int)<=(↑(List.length l):Int)/\∀(x:Tok),l[Int.toNat (0:Int)]? =some x->((0:Int)<=(1:Int)/\(1:Int)<=(↑(List.length l):Int))/\out=Except.ok (Tok.n x,List.drop (Int.toNat (1:Int)) l,e,())))):=by kernel_rfl
noncomputable def Fsm:Fns thy:=addS (addS (addS F0 24 Zjm) 96 Sixs) 49 (V8 (dA1 dS) (fun _=>True) (fun x=>decide (x.1∈resW)) fun y=> .bool false y)
theorem Zwi:FnsOk E Fsm:=Zb (Zb (Zb F0_ok Zc7) Z8w) (Z5 E_ok (Zd (f:=49) rfl) fun x _=>Zrb x.1)
noncomputable def dIB:Dc E (Int×Bool×Unit):=dTup (dA2 dN dB)
abbrev qBV2 (a0:List Tok):=(↑(List.length a0):Int)
abbrev qBV3:=(0:Int)
abbrev qBV1 (a0:List Tok) (b0:PR Unit):=(decide ((qBV2 a0)>qBV3)=true->qBV3<=qBV3/\qBV3+(1:Int)<=(qBV2 a0)/\∀(x:Tok),a0[Int.toNat qBV3]? =some x->b0=Except.error (Tok.at_ x,(160:Int)))
abbrev qBV4 (a0:List Tok) (b0:PR Unit) (c0:Int):=(decide ((qBV2 a0)>qBV3)=false->b0=Except.error (c0,(160:Int)))
theorem Zmz (l:List Tok) (e:Int) (s:List Nat) (out:PR Unit):Zg E F0 (vc E F0 400) 29 [.ptr 0 0,.str false s] (one [.psl Th.toks l false,.int false .i64 e]) 1 (mK (dA1 dS) (n1 fun _=>rfl) Zwh (fun _=>rfl) l e out)=(
 (((qBV2 l)==qBV3)=true->(qBV1 l out)/\(qBV4 l out e))/\(((qBV2 l)==qBV3)=false->qBV3<=qBV3/\qBV3+(1:Int)<=(qBV2 l)/\∀(x:Tok),l[Int.toNat qBV3]? =some x->((Tok.kind x==(2:Int))=true->(qBV1 l out)/\(qBV4 l out e))/\((Tok.kind x==(2:Int))=false->qBV3<=qBV3/\qBV3+(1:Int)<=(qBV2 l)/\∀(x:Tok),l[Int.toNat qBV3]? =some x->((!Tok.text x==s)=true->(qBV1 l out)/\(qBV4 l out e))/\((!Tok.text x==s)=false->(qBV3<=(1:Int)/\(1:Int)<=(qBV2 l))/\out=Except.ok ((),List.drop (Int.toNat (1:Int)) l,e,()))))):=by kernel_rfl
abbrev qBV6:=(0:Int)
abbrev qBV5 (a0:Bool->Prop) (b0:List Tok) (c0:PR (Int×Bool×Unit)) (d0:Int) (e0:Int):=(a0 false->(qBV6<=(1:Int)/\(1:Int)<=(↑(List.length b0):Int))/\c0=Except.ok ((d0,true,()),List.drop (Int.toNat (1:Int)) b0,e0,()))
abbrev qBV7:=(WK.words WK.un)
theorem Zsd (l:List Tok) (e:Int) (out:PR (Int×Bool×Unit)):Zg E Fsm (vc E Fsm 400) 65 [.ptr 0 0,.str true (WK.src .un)] (one [.psl Th.toks l false,.int false .i64 e]) 1 (mK dWK Zii dIB (fun _=>rfl) l e out)=(
 (((↑(List.length l):Int)==qBV6)=true->List.length qBV7<=(1000000000:Nat)/\∀(y:Int),y=idxS [] (0:Nat) qBV7->∃(Q:Bool->Prop),Q true/\(Q true->out=Except.ok ((qBV6,false,()),l,e,()))/\(qBV5 Q l out y e))/\(((↑(List.length l):Int)==qBV6)=false->qBV6<=qBV6/\qBV6+(1:Int)<=(↑(List.length l):Int)/\∀(x:Tok),l[Int.toNat qBV6]? =some x->((Tok.kind x !=(1:Int))=true->List.length qBV7<=(1000000000:Nat)/\∀(y:Int),y=idxS [] (0:Nat) qBV7->∃(Q:Bool->Prop),Q true/\(Q true->out=Except.ok ((qBV6,false,()),l,e,()))/\(qBV5 Q l out y e))/\((Tok.kind x !=(1:Int))=false->qBV6<=qBV6/\qBV6+(1:Int)<=(↑(List.length l):Int)/\∀(x:Tok),l[Int.toNat qBV6]? =some x->List.length qBV7<=(1000000000:Nat)/\∀(y:Int),y=idxS (Tok.text x) (0:Nat) qBV7->∃(Q:Bool->Prop),((decide (y<qBV6)=true->Q true)/\(decide (y<qBV6)=false->Q false))/\(Q true->out=Except.ok ((qBV6,false,()),l,e,()))/\(qBV5 Q l out y e)))):=by kernel_rfl
abbrev qBV9:=(0:Int)
abbrev qBV8 (a0:Bool->Prop) (b0:List Tok) (c0:PR (Int×Bool×Unit)) (d0:Int) (e0:Int):=(a0 false->(qBV9<=(1:Int)/\(1:Int)<=(↑(List.length b0):Int))/\c0=Except.ok ((d0,true,()),List.drop (Int.toNat (1:Int)) b0,e0,()))
abbrev qBVa:=(WK.words WK.ca)
theorem Zse (l:List Tok) (e:Int) (out:PR (Int×Bool×Unit)):Zg E Fsm (vc E Fsm 400) 65 [.ptr 0 0,.str true (WK.src .ca)] (one [.psl Th.toks l false,.int false .i64 e]) 1 (mK dWK Zii dIB (fun _=>rfl) l e out)=(
 (((↑(List.length l):Int)==qBV9)=true->List.length qBVa<=(1000000000:Nat)/\∀(y:Int),y=idxS [] (0:Nat) qBVa->∃(Q:Bool->Prop),Q true/\(Q true->out=Except.ok ((qBV9,false,()),l,e,()))/\(qBV8 Q l out y e))/\(((↑(List.length l):Int)==qBV9)=false->qBV9<=qBV9/\qBV9+(1:Int)<=(↑(List.length l):Int)/\∀(x:Tok),l[Int.toNat qBV9]? =some x->((Tok.kind x !=(1:Int))=true->List.length qBVa<=(1000000000:Nat)/\∀(y:Int),y=idxS [] (0:Nat) qBVa->∃(Q:Bool->Prop),Q true/\(Q true->out=Except.ok ((qBV9,false,()),l,e,()))/\(qBV8 Q l out y e))/\((Tok.kind x !=(1:Int))=false->qBV9<=qBV9/\qBV9+(1:Int)<=(↑(List.length l):Int)/\∀(x:Tok),l[Int.toNat qBV9]? =some x->List.length qBVa<=(1000000000:Nat)/\∀(y:Int),y=idxS (Tok.text x) (0:Nat) qBVa->∃(Q:Bool->Prop),((decide (y<qBV9)=true->Q true)/\(decide (y<qBV9)=false->Q false))/\(Q true->out=Except.ok ((qBV9,false,()),l,e,()))/\(qBV8 Q l out y e)))):=by kernel_rfl
abbrev qBVe:=(0:Int)
abbrev qBVd (a0:List Tok):=(↑(List.length a0):Int)
abbrev qBVb (a0:Bool->Prop) (b0:List Tok) (c0:PR Int) (d0:Int):=(a0 true->(decide ((qBVd b0)>qBVe)=true->qBVe<=qBVe/\qBVe+(1:Int)<=(qBVd b0)/\∀(x:Tok),b0[Int.toNat qBVe]? =some x->c0=Except.error (Tok.at_ x,(160:Int)))/\(decide ((qBVd b0)>qBVe)=false->c0=Except.error (d0,(160:Int))))
abbrev qBVc (a0:Bool->Prop) (b0:List Tok) (c0:PR Int) (d0:Int) (e0:Int):=(a0 false->(qBVe<=(1:Int)/\(1:Int)<=(qBVd b0))/\c0=Except.ok (d0,List.drop (Int.toNat (1:Int)) b0,e0,()))
abbrev qBVf:=(WK.words WK.at_)
theorem Zm0 (l:List Tok) (e:Int) (out:PR Int):Zg E Fsm (vc E Fsm 400) 31 [.ptr 0 0,.str true (WK.src .at_)] (one [.psl Th.toks l false,.int false .i64 e]) 1 (mK dWK Zii dN (fun _=>rfl) l e out)=(
 (((qBVd l)==qBVe)=true->List.length qBVf<=(1000000000:Nat)/\∀(y:Int),y=idxS [] (0:Nat) qBVf->∃(Q:Bool->Prop),Q true/\(qBVb Q l out e)/\(qBVc Q l out y e))/\(((qBVd l)==qBVe)=false->qBVe<=qBVe/\qBVe+(1:Int)<=(qBVd l)/\∀(x:Tok),l[Int.toNat qBVe]? =some x->((Tok.kind x !=(1:Int))=true->List.length qBVf<=(1000000000:Nat)/\∀(y:Int),y=idxS [] (0:Nat) qBVf->∃(Q:Bool->Prop),Q true/\(qBVb Q l out e)/\(qBVc Q l out y e))/\((Tok.kind x !=(1:Int))=false->qBVe<=qBVe/\qBVe+(1:Int)<=(qBVd l)/\∀(x:Tok),l[Int.toNat qBVe]? =some x->List.length qBVf<=(1000000000:Nat)/\∀(y:Int),y=idxS (Tok.text x) (0:Nat) qBVf->∃(Q:Bool->Prop),((decide (y<qBVe)=true->Q true)/\(decide (y<qBVe)=false->Q false))/\(qBVb Q l out e)/\(qBVc Q l out y e)))):=by kernel_rfl
abbrev qBVj:=(0:Int)
abbrev qBVi (a0:List Tok):=(↑(List.length a0):Int)
abbrev qBVg (a0:Bool->Prop) (b0:List Tok) (c0:PR Int) (d0:Int):=(a0 true->(decide ((qBVi b0)>qBVj)=true->qBVj<=qBVj/\qBVj+(1:Int)<=(qBVi b0)/\∀(x:Tok),b0[Int.toNat qBVj]? =some x->c0=Except.error (Tok.at_ x,(160:Int)))/\(decide ((qBVi b0)>qBVj)=false->c0=Except.error (d0,(160:Int))))
abbrev qBVh (a0:Bool->Prop) (b0:List Tok) (c0:PR Int) (d0:Int) (e0:Int):=(a0 false->(qBVj<=(1:Int)/\(1:Int)<=(qBVi b0))/\c0=Except.ok (d0,List.drop (Int.toNat (1:Int)) b0,e0,()))
abbrev qBVk:=(WK.words WK.ki)
theorem Zm1 (l:List Tok) (e:Int) (out:PR Int):Zg E Fsm (vc E Fsm 400) 31 [.ptr 0 0,.str true (WK.src .ki)] (one [.psl Th.toks l false,.int false .i64 e]) 1 (mK dWK Zii dN (fun _=>rfl) l e out)=(
 (((qBVi l)==qBVj)=true->List.length qBVk<=(1000000000:Nat)/\∀(y:Int),y=idxS [] (0:Nat) qBVk->∃(Q:Bool->Prop),Q true/\(qBVg Q l out e)/\(qBVh Q l out y e))/\(((qBVi l)==qBVj)=false->qBVj<=qBVj/\qBVj+(1:Int)<=(qBVi l)/\∀(x:Tok),l[Int.toNat qBVj]? =some x->((Tok.kind x !=(1:Int))=true->List.length qBVk<=(1000000000:Nat)/\∀(y:Int),y=idxS [] (0:Nat) qBVk->∃(Q:Bool->Prop),Q true/\(qBVg Q l out e)/\(qBVh Q l out y e))/\((Tok.kind x !=(1:Int))=false->qBVj<=qBVj/\qBVj+(1:Int)<=(qBVi l)/\∀(x:Tok),l[Int.toNat qBVj]? =some x->List.length qBVk<=(1000000000:Nat)/\∀(y:Int),y=idxS (Tok.text x) (0:Nat) qBVk->∃(Q:Bool->Prop),((decide (y<qBVj)=true->Q true)/\(decide (y<qBVj)=false->Q false))/\(qBVg Q l out e)/\(qBVh Q l out y e)))):=by kernel_rfl
abbrev qBVo:=(0:Int)
abbrev qBVn (a0:List Tok):=(↑(List.length a0):Int)
abbrev qBVl (a0:Bool->Prop) (b0:List Tok) (c0:PR Int) (d0:Int):=(a0 true->(decide ((qBVn b0)>qBVo)=true->qBVo<=qBVo/\qBVo+(1:Int)<=(qBVn b0)/\∀(x:Tok),b0[Int.toNat qBVo]? =some x->c0=Except.error (Tok.at_ x,(160:Int)))/\(decide ((qBVn b0)>qBVo)=false->c0=Except.error (d0,(160:Int))))
abbrev qBVm (a0:Bool->Prop) (b0:List Tok) (c0:PR Int) (d0:Int) (e0:Int):=(a0 false->(qBVo<=(1:Int)/\(1:Int)<=(qBVn b0))/\c0=Except.ok (d0,List.drop (Int.toNat (1:Int)) b0,e0,()))
abbrev qBVp:=(WK.words WK.un)
theorem Zm2 (l:List Tok) (e:Int) (out:PR Int):Zg E Fsm (vc E Fsm 400) 31 [.ptr 0 0,.str true (WK.src .un)] (one [.psl Th.toks l false,.int false .i64 e]) 1 (mK dWK Zii dN (fun _=>rfl) l e out)=(
 (((qBVn l)==qBVo)=true->List.length qBVp<=(1000000000:Nat)/\∀(y:Int),y=idxS [] (0:Nat) qBVp->∃(Q:Bool->Prop),Q true/\(qBVl Q l out e)/\(qBVm Q l out y e))/\(((qBVn l)==qBVo)=false->qBVo<=qBVo/\qBVo+(1:Int)<=(qBVn l)/\∀(x:Tok),l[Int.toNat qBVo]? =some x->((Tok.kind x !=(1:Int))=true->List.length qBVp<=(1000000000:Nat)/\∀(y:Int),y=idxS [] (0:Nat) qBVp->∃(Q:Bool->Prop),Q true/\(qBVl Q l out e)/\(qBVm Q l out y e))/\((Tok.kind x !=(1:Int))=false->qBVo<=qBVo/\qBVo+(1:Int)<=(qBVn l)/\∀(x:Tok),l[Int.toNat qBVo]? =some x->List.length qBVp<=(1000000000:Nat)/\∀(y:Int),y=idxS (Tok.text x) (0:Nat) qBVp->∃(Q:Bool->Prop),((decide (y<qBVo)=true->Q true)/\(decide (y<qBVo)=false->Q false))/\(qBVl Q l out e)/\(qBVm Q l out y e)))):=by kernel_rfl
theorem Zwj (l:List Tok) (e:Int) (out:PR (List Nat)):Zg E Fsm (vc E Fsm 400) 30 [.ptr 0 0] (one [.psl Th.toks l false,.int false .i64 e]) 1 (mK .nil n0 dS (fun _=>rfl) l e out)=(
(((↑(List.length l):Int)==(0:Int))=true->(decide ((↑(List.length l):Int)>(0:Int))=true->(0:Int)<=(0:Int)/\(0:Int)+(1:Int)<=(↑(List.length l):Int)/\∀(x:Tok),l[Int.toNat (0:Int)]? =some x->out=Except.error (Tok.at_ x,(160:Int)))/\(decide ((↑(List.length l):Int)>(0:Int))=false->out=Except.error (e,(160:Int))))/\(((↑(List.length l):Int)==(0:Int))=false->(0:Int)<=(0:Int)/\(0:Int)+(1:Int)<=(↑(List.length l):Int)/\∀(x:Tok),l[Int.toNat (0:Int)]? =some x->((Tok.kind x !=(1:Int))=true->(decide ((↑(List.length l):Int)>(0:Int))=true->(0:Int)<=(0:Int)/\(0:Int)+(1:Int)<=(↑(List.length l):Int)/\∀(x:Tok),l[Int.toNat (0:Int)]? =some x->out=Except.error (Tok.at_ x,(160:Int)))/\(decide ((↑(List.length l):Int)>(0:Int))=false->out=Except.error (e,(160:Int))))/\((Tok.kind x !=(1:Int))=false->(0:Int)<=(0:Int)/\(0:Int)+(1:Int)<=(↑(List.length l):Int)/\∀(x:Tok),l[Int.toNat (0:Int)]? =some x->True/\∀(y:Bool),y=decide (Tok.text x∈resW)->(y=true->out=Except.error (Tok.at_ x,(161:Int)))/\(y=false->((0:Int)<=(1:Int)/\(1:Int)<=(↑(List.length l):Int))/\out=Except.ok (Tok.text x,List.drop (Int.toNat (1:Int)) l,e,()))))):=by kernel_rfl
theorem Zgx (l:List Tok) (e:Int) (s:List Nat):Wp (mI (dA1 dS) (n1 fun _=>rfl) dBt (fun _=>rfl)) 33 (l,e,()) (s,()) (pAcc s l e):=by
 refine V1 F0_ok (n:=400) (a:=(s,())) ?_
 rw [show (dA1 dS).enc (s,())= [.str false s] from rfl,Zmy]
 cases l with
 |nil=>simp only [Zw,Z8,tz,tz0,tp,tp0,tl1,tl2,tg,td,i01,true_and,and_true,forall_eq',forall_eq,Bool.true_eq_false,Bool.false_eq_true,reduceCtorEq,true_implies,false_implies,Int.le_refl,imp_self,bne_iff_ne,ne_eq,bne_eq_false_iff_eq,beq_iff_eq,beq_eq_false_iff_ne,V6,V7];rfl
 |cons t l=>
  simp only [Zw,Z8,tz,tz0,tp,tp0,tl1,tl2,tg,td,i01,true_and,and_true,forall_eq',forall_eq,Bool.true_eq_false,Bool.false_eq_true,reduceCtorEq,true_implies,false_implies,Int.le_refl,imp_self,bne_iff_ne,ne_eq,bne_eq_false_iff_eq,beq_iff_eq,beq_eq_false_iff_ne,V6,V7]
  unfold pAcc isW
  refine ⟨fun h=>by simp [h],fun h=>⟨fun h2=> ?_,fun h2=> ?_⟩⟩
  · simp at h2;simp [h2]
  · simp at h2;simp [h,h2]
theorem Zsf (l:List Tok) (e:Int) (s:List Nat):Wp (mI (dA1 dS) (n1 fun _=>rfl) Zwh (fun _=>rfl)) 29 (l,e,()) (s,()) (Ze1 s l e):=by
 refine V1 F0_ok (n:=400) (a:=(s,())) ?_
 rw [show (dA1 dS).enc (s,())= [.str false s] from rfl,Zmz];delta qBV2 qBV3 qBV1 qBV4
 cases l with
 |nil=>simp only [Zw,Z8,tz,tz0,tp,tp0,tl1,tl2,tg,td,i01,true_and,and_true,forall_eq',forall_eq,Bool.true_eq_false,Bool.false_eq_true,reduceCtorEq,true_implies,false_implies,Int.le_refl,imp_self,bne_iff_ne,ne_eq,bne_eq_false_iff_eq,beq_iff_eq,beq_eq_false_iff_ne,V6,V7];rfl
 |cons t l=>
  simp only [Zw,Z8,tz,tz0,tp,tp0,tl1,tl2,tg,td,i01,true_and,and_true,forall_eq',forall_eq,Bool.true_eq_false,Bool.false_eq_true,reduceCtorEq,true_implies,false_implies,Int.le_refl,imp_self,bne_iff_ne,ne_eq,bne_eq_false_iff_eq,beq_iff_eq,beq_eq_false_iff_ne,V6,V7]
  unfold Ze1 isW hdT
  refine ⟨fun h=>by simp [h],fun h=>⟨fun h2=> ?_,fun h2=> ?_⟩⟩
  · simp at h2;simp [h2]
  · simp at h2;simp [h,h2]
theorem Zm3 (l:List Tok) (e:Int):Wp (mI .nil n0 dN (fun _=>rfl)) 98 (l,e,()) () (pInt l e):=by
 refine V1 F0_ok (n:=400) (a:=()) ?_
 rw [show (DcL.nil (E:=E)).enc ()= [] from rfl,Zko]
 cases l with
 |nil=>simp only [Zw,Z8,tz,tz0,tp,tp0,tl1,tl2,tg,td,i01,true_and,and_true,forall_eq',forall_eq,Bool.true_eq_false,Bool.false_eq_true,reduceCtorEq,true_implies,false_implies,Int.le_refl,imp_self,bne_iff_ne,ne_eq,bne_eq_false_iff_eq,beq_iff_eq,beq_eq_false_iff_ne,V6,V7];rfl
 |cons t l=>
  simp only [Zw,Z8,tz,tz0,tp,tp0,tl1,tl2,tg,td,i01,true_and,and_true,forall_eq',forall_eq,Bool.true_eq_false,Bool.false_eq_true,reduceCtorEq,true_implies,false_implies,Int.le_refl,imp_self,bne_iff_ne,ne_eq,bne_eq_false_iff_eq,beq_iff_eq,beq_eq_false_iff_ne,V6,V7]
  unfold pInt
  exact ⟨fun h=>by simp [h],fun h=>by simp [h]⟩
theorem Z1a (l:List Tok) (e:Int):Wp (mI .nil n0 dS (fun _=>rfl)) 30 (l,e,()) () (V5 l e):=by
 refine V1 Zwi (n:=400) (a:=()) ?_
 rw [show (DcL.nil (E:=E)).enc ()= [] from rfl,Zwj]
 cases l with
 |nil=>simp only [Zw,Z8,tz,tz0,tp,tp0,tl1,tl2,tg,td,i01,true_and,and_true,forall_eq',forall_eq,Bool.true_eq_false,Bool.false_eq_true,reduceCtorEq,true_implies,false_implies,Int.le_refl,imp_self,bne_iff_ne,ne_eq,bne_eq_false_iff_eq,beq_iff_eq,beq_eq_false_iff_ne,V6,V7];rfl
 |cons t l=>
  simp only [Zw,Z8,tz,tz0,tp,tp0,tl1,tl2,tg,td,i01,true_and,and_true,forall_eq',forall_eq,Bool.true_eq_false,Bool.false_eq_true,reduceCtorEq,true_implies,false_implies,Int.le_refl,imp_self,bne_iff_ne,ne_eq,bne_eq_false_iff_eq,beq_iff_eq,beq_eq_false_iff_ne,V6,V7]
  unfold V5
  refine ⟨fun h=>by simp [h],fun h=>⟨fun h2=> ?_,fun h2=> ?_⟩⟩
  · simp at h2;simp [h,h2]
  · simp at h2;simp [h,h2]
theorem Zsg (k:WK) (hk:k= .un\/k= .ca) (l:List Tok) (e:Int):Wp (mI dWK Zii dIB (fun _=>rfl)) 65 (l,e,()) k (Zn k.words l e):=by
 refine V1 Zwi (n:=400) (a:=k) ?_
 rcases hk with rfl|rfl
 · rw [show dWK.enc .un= [.str true (WK.src .un)] from rfl,Zsd];delta qBV6 qBV5 qBV7
   cases l with
   |nil=>
    simp only [Zw,Z8,tz,tz0,tp,tp0,tl1,tl2,tg,td,i01,true_and,and_true,forall_eq',forall_eq,Bool.true_eq_false,Bool.false_eq_true,reduceCtorEq,true_implies,false_implies,Int.le_refl,imp_self,bne_iff_ne,ne_eq,bne_eq_false_iff_eq,beq_iff_eq,beq_eq_false_iff_ne]
    try simp only [V6,V7]
    exact ⟨by decide,rfl⟩
   |cons t l=>
    simp only [Zw,Z8,tz,tz0,tp,tp0,tl1,tl2,tg,td,i01,true_and,and_true,forall_eq',forall_eq,Bool.true_eq_false,Bool.false_eq_true,reduceCtorEq,true_implies,false_implies,Int.le_refl,imp_self,bne_iff_ne,ne_eq,bne_eq_false_iff_eq,beq_iff_eq,beq_eq_false_iff_ne]
    try simp only [V6,V7]
    unfold Zn chz
    refine ⟨fun h=>⟨by decide,by simp [h]⟩,fun h=>⟨by decide,fun h2=> ?_,fun h2=> ?_⟩⟩
    · simp [h,h2]
    · simp [h,h2]
 · rw [show dWK.enc .ca= [.str true (WK.src .ca)] from rfl,Zse];delta qBV9 qBV8 qBVa
   cases l with
   |nil=>
    simp only [Zw,Z8,tz,tz0,tp,tp0,tl1,tl2,tg,td,i01,true_and,and_true,forall_eq',forall_eq,Bool.true_eq_false,Bool.false_eq_true,reduceCtorEq,true_implies,false_implies,Int.le_refl,imp_self,bne_iff_ne,ne_eq,bne_eq_false_iff_eq,beq_iff_eq,beq_eq_false_iff_ne]
    try simp only [V6,V7]
    exact ⟨by decide,rfl⟩
   |cons t l=>
    simp only [Zw,Z8,tz,tz0,tp,tp0,tl1,tl2,tg,td,i01,true_and,and_true,forall_eq',forall_eq,Bool.true_eq_false,Bool.false_eq_true,reduceCtorEq,true_implies,false_implies,Int.le_refl,imp_self,bne_iff_ne,ne_eq,bne_eq_false_iff_eq,beq_iff_eq,beq_eq_false_iff_ne]
    try simp only [V6,V7]
    unfold Zn chz
    refine ⟨fun h=>⟨by decide,by simp [h]⟩,fun h=>⟨by decide,fun h2=> ?_,fun h2=> ?_⟩⟩
    · simp [h,h2]
    · simp [h,h2]
theorem Z1b (k:WK) (hk:k= .at_\/k= .ki\/k= .un) (l:List Tok) (e:Int):Wp (mI dWK Zii dN (fun _=>rfl)) 31 (l,e,()) k (Z9 k.words l e):=by
 refine V1 Zwi (n:=400) (a:=k) ?_
 rcases hk with rfl|rfl|rfl
 · rw [show dWK.enc .at_= [.str true (WK.src .at_)] from rfl,Zm0];delta qBVe qBVd qBVb qBVc qBVf
   cases l with
   |nil=>
    simp only [Zw,Z8,tz,tz0,tp,tp0,tl1,tl2,tg,td,i01,true_and,and_true,forall_eq',forall_eq,Bool.true_eq_false,Bool.false_eq_true,reduceCtorEq,true_implies,false_implies,Int.le_refl,imp_self,bne_iff_ne,ne_eq,bne_eq_false_iff_eq,beq_iff_eq,beq_eq_false_iff_ne]
    try simp only [V6,V7]
    exact ⟨by decide,rfl⟩
   |cons t l=>
    simp only [Zw,Z8,tz,tz0,tp,tp0,tl1,tl2,tg,td,i01,true_and,and_true,forall_eq',forall_eq,Bool.true_eq_false,Bool.false_eq_true,reduceCtorEq,true_implies,false_implies,Int.le_refl,imp_self,bne_iff_ne,ne_eq,bne_eq_false_iff_eq,beq_iff_eq,beq_eq_false_iff_ne]
    try simp only [V6,V7]
    unfold Z9 chz hdT
    refine ⟨fun h=>⟨by decide,by simp [h]⟩,fun h=>⟨by decide,fun h2=> ?_,fun h2=> ?_⟩⟩
    · simp [h,h2]
    · simp [h,h2]
 · rw [show dWK.enc .ki= [.str true (WK.src .ki)] from rfl,Zm1];delta qBVj qBVi qBVg qBVh qBVk
   cases l with
   |nil=>
    simp only [Zw,Z8,tz,tz0,tp,tp0,tl1,tl2,tg,td,i01,true_and,and_true,forall_eq',forall_eq,Bool.true_eq_false,Bool.false_eq_true,reduceCtorEq,true_implies,false_implies,Int.le_refl,imp_self,bne_iff_ne,ne_eq,bne_eq_false_iff_eq,beq_iff_eq,beq_eq_false_iff_ne]
    try simp only [V6,V7]
    exact ⟨by decide,rfl⟩
   |cons t l=>
    simp only [Zw,Z8,tz,tz0,tp,tp0,tl1,tl2,tg,td,i01,true_and,and_true,forall_eq',forall_eq,Bool.true_eq_false,Bool.false_eq_true,reduceCtorEq,true_implies,false_implies,Int.le_refl,imp_self,bne_iff_ne,ne_eq,bne_eq_false_iff_eq,beq_iff_eq,beq_eq_false_iff_ne]
    try simp only [V6,V7]
    unfold Z9 chz hdT
    refine ⟨fun h=>⟨by decide,by simp [h]⟩,fun h=>⟨by decide,fun h2=> ?_,fun h2=> ?_⟩⟩
    · simp [h,h2]
    · simp [h,h2]
 · rw [show dWK.enc .un= [.str true (WK.src .un)] from rfl,Zm2];delta qBVo qBVn qBVl qBVm qBVp
   cases l with
   |nil=>
    simp only [Zw,Z8,tz,tz0,tp,tp0,tl1,tl2,tg,td,i01,true_and,and_true,forall_eq',forall_eq,Bool.true_eq_false,Bool.false_eq_true,reduceCtorEq,true_implies,false_implies,Int.le_refl,imp_self,bne_iff_ne,ne_eq,bne_eq_false_iff_eq,beq_iff_eq,beq_eq_false_iff_ne]
    try simp only [V6,V7]
    exact ⟨by decide,rfl⟩
   |cons t l=>
    simp only [Zw,Z8,tz,tz0,tp,tp0,tl1,tl2,tg,td,i01,true_and,and_true,forall_eq',forall_eq,Bool.true_eq_false,Bool.false_eq_true,reduceCtorEq,true_implies,false_implies,Int.le_refl,imp_self,bne_iff_ne,ne_eq,bne_eq_false_iff_eq,beq_iff_eq,beq_eq_false_iff_ne]
    try simp only [V6,V7]
    unfold Z9 chz hdT
    refine ⟨fun h=>⟨by decide,by simp [h]⟩,fun h=>⟨by decide,fun h2=> ?_,fun h2=> ?_⟩⟩
    · simp [h,h2]
    · simp [h,h2]
end
section
open Go
noncomputable def Z5w:Sum thy:=fun args h _ k=>
 match args with
 | [.ptr b 0,.str _ s]=>
  (match h b with
  |some (.raw cs 0 _)=>(match dPX.dec cs with
   |some x=>(isW s x.1=true->k (Zgt b (.bool true true) (dPX.enc (x.1.tail,x.2))))/\(isW s x.1=false->k (Zgt b (.bool true false) (dPX.enc x)))
   |none=>False)
  |_=>False)
 |_=>False
noncomputable def Sexp:Sum thy:=fun args h _ k=>
 match args with
 | [.ptr b 0,.str _ s]=>
  (match h b with
  |some (.raw cs 0 _)=>(match dPX.dec cs with
   |some x=>(isW s x.1=true->k (Zgt b (.tup []) (dPX.enc (x.1.tail,x.2))))/\(isW s x.1=false->k (Zu3 b (Z09 (hdT x.2.1 x.1,160))))
   |none=>False)
  |_=>False)
 |_=>False
theorem SaccB_ok:SumOk E 33 Z5w:=by
 refine ⟨Zd rfl,fun args h i k hD hk=> ?_⟩
 unfold Z5w at hk
 split at hk
 case h_2=>exact hk.elim
 rename_i b f s
 split at hk
 case h_2=>exact hk.elim
 rename_i cs tg hb
 split at hk
 case h_2=>exact hk.elim
 rename_i x hx
 obtain ⟨l,e,_⟩:=x
 refine (Xe E_ok (Zd rfl) (M:=mI (dA1 dS) (n1 fun _=>rfl) dBt (fun _=>rfl)) (pre:=fun _ _=>True) (fn:=fun x a=>pAcc a.1 x.1 x.2.1) fun x a _=>Zgx x.1 x.2.1 a.1).ok [.ptr b 0,.str f s] h i k hD ?_
 simp only [sumM,hb]
 rw [show (mI (dA1 dS) (n1 fun _=>rfl) dBt (fun _=>rfl)).dS.dec cs=some (l,e,()) from hx,show (mI (dA1 dS) (n1 fun _=>rfl) dBt (fun _=>rfl)).dA.dec [.str f s]=some (s,()) from rfl]
 refine ⟨trivial,fun y x' he=> ?_,fun e he=>by cases he⟩
 unfold pAcc at he
 injection he with he
 injection he with e1 e2
 subst e1;subst e2
 cases hw:isW s l with
 |true=>exact hk.1 hw
 |false=>exact hk.2 hw
theorem Z5x:SumOk E 29 Sexp:=by
 refine ⟨Zd rfl,fun args h i k hD hk=> ?_⟩
 unfold Sexp at hk
 split at hk
 case h_2=>exact hk.elim
 rename_i b f s
 split at hk
 case h_2=>exact hk.elim
 rename_i cs tg hb
 split at hk
 case h_2=>exact hk.elim
 rename_i x hx
 obtain ⟨l,e,_⟩:=x
 refine (Xe E_ok (Zd rfl) (M:=mI (dA1 dS) (n1 fun _=>rfl) Zwh (fun _=>rfl)) (pre:=fun _ _=>True) (fn:=fun x a=>Ze1 a.1 x.1 x.2.1) fun x a _=>Zsf x.1 x.2.1 a.1).ok [.ptr b 0,.str f s] h i k hD ?_
 simp only [sumM,hb]
 rw [show (mI (dA1 dS) (n1 fun _=>rfl) Zwh (fun _=>rfl)).dS.dec cs=some (l,e,()) from hx,show (mI (dA1 dS) (n1 fun _=>rfl) Zwh (fun _=>rfl)).dA.dec [.str f s]=some (s,()) from rfl]
 refine ⟨trivial,fun y x' he=> ?_,fun e he=> ?_⟩
 · unfold Ze1 at he
   split at he
   · rename_i hw
     injection he with he
     injection he with e1 e2
     subst e1;subst e2
     exact hk.1 hw
   · cases he
 · unfold Ze1 at he
   split at he
   · cases he
   · rename_i hw
     injection he with he
     subst he
     exact hk.2 (by simpa using hw)
def Zey:List Nat:= [119,104,101,110]
def sAnd:List Nat:= [97,110,100]
theorem Zvo {f:FuncId} {cs rest cs':List (SV thy)} {v v':SV thy} (h:MutC E f cs rest v cs') (hv:∀σ g u,Den E σ g v u->Den E σ g v' u):MutC E f cs rest v' cs':=fun B σ g w vals hh a b c d e=>
 (h B σ g w vals hh a b c d e).mono fun en w' ⟨u,he,σ',g',s,i,dd⟩=>⟨u,he,σ',g',s,i,hv _ _ _ dd⟩
theorem Zmp (l:List Tok) (e:Int) (s:List Nat):Wp (mI (dA1 dS) (n1 fun _=>rfl) dB (fun _=>rfl)) 33 (l,e,()) (s,()) (pAcc s l e):=
 Zvo (Zgx l e s) fun σ g u hd=>by cases hd;exact .bool _ _
noncomputable def Sacc:Sum thy:=fun args h i k=>
 match args with
 | [.ptr b 0,.str f s]=>
  (match eqL s Zey||eqL s sAnd with
  |true=>sumM (mI (dA1 dS) (n1 fun _=>rfl) dB (fun _=>rfl)) (fun _ _=>True) (fun x a=>pAcc a.1 x.1 x.2.1) [.ptr b 0,.str f s] h i k
  |false=>Z5w [.ptr b 0,.str f s] h i k)
 |_=>False
theorem Z5y:SumOk E 33 Sacc:=by
 refine ⟨Zd rfl,fun args h i k hD hk=> ?_⟩
 unfold Sacc at hk
 split at hk
 · split at hk
   · exact (Xe E_ok (Zd rfl) fun x a _=>Zmp x.1 x.2.1 a.1).ok _ h i k hD hk
   · exact SaccB_ok.ok _ h i k hD hk
 · exact hk.elim
def Z5z (l:List Tok) (e:Int):PR Int:= .ok (hdT e l,l,e,())
theorem Zvp (l:List Tok) (e:Int) (out:PR Int):Zg E F0 (vc E F0 400) 32 [.ptr 0 0] (one [.psl Th.toks l false,.int false .i64 e]) 1 (mK .nil n0 dN (fun _=>rfl) l e out)=(
(decide ((↑(List.length l):Int)>(0:Int))=true->(0:Int)<=(0:Int)/\(0:Int)+(1:Int)<=(↑(List.length l):Int)/\∀(x:Tok),l[Int.toNat (0:Int)]? =some x->out=Except.ok (Tok.at_ x,l,e,()))/\(decide ((↑(List.length l):Int)>(0:Int))=false->out=Except.ok (e,l,e,()))):=by kernel_rfl
theorem Z0q (l:List Tok) (e:Int):Wp (mI .nil n0 dN (fun _=>rfl)) 32 (l,e,()) () (Z5z l e):=by
 refine V1 F0_ok (n:=400) (a:=()) ?_
 rw [show (DcL.nil (E:=E)).enc ()= [] from rfl,Zvp]
 cases l with
 |nil=>exact ⟨fun h=>absurd h (by decide),fun _=>rfl⟩
 |cons t l=>exact ⟨fun _=>⟨Int.le_refl 0,by rw [List.length_cons];omega,fun x hx=>by rw [tg] at hx;subst hx;rfl⟩,fun h=>by rw [tp] at h;cases h⟩
noncomputable def Z0r:Sum thy:=fun args h _ k=>
 match args with
 | [.ptr b 0]=>
  (match h b with
  |some (.raw cs 0 _)=>(match dPX.dec cs with
   |some x=>∀y,y=hdT x.2.1 x.1->k (Zgt b (.int false .i64 y) (dPX.enc x))
   |none=>False)
  |_=>False)
 |_=>False
theorem Zp8:SumOk E 32 Z0r:=by
 refine ⟨Zd rfl,fun args h i k hD hk=> ?_⟩
 unfold Z0r at hk
 split at hk
 case h_2=>exact hk.elim
 rename_i b
 split at hk
 case h_2=>exact hk.elim
 rename_i cs tg hb
 split at hk
 case h_2=>exact hk.elim
 rename_i x hx
 obtain ⟨l,e,_⟩:=x
 refine (Xe E_ok (Zd rfl) (M:=mI .nil n0 dN (fun _=>rfl)) (pre:=fun _ _=>True) (fn:=fun x a=>Z5z x.1 x.2.1) fun x a _=>Z0q x.1 x.2.1).ok [.ptr b 0] h i k hD ?_
 simp only [sumM,hb]
 rw [show (mI .nil n0 dN (fun _=>rfl)).dS.dec cs=some (l,e,()) from hx,show (mI .nil n0 dN (fun _=>rfl)).dA.dec []=some () from rfl]
 refine ⟨trivial,fun y x' he=> ?_,fun e he=>by cases he⟩
 unfold Z5z at he
 injection he with he
 injection he with e1 e2
 subst e1;subst e2
 exact hk _ rfl
noncomputable def Scho:Sum thy:=sumM (mI dWK Zii dIB (fun _=>rfl)) (fun _ k=>k= .un\/k= .ca) fun x k=>Zn k.words x.1 x.2.1
theorem Z50:SumOk E 65 Scho:=Xe E_ok (Zd rfl) fun x k h=>Zsg k h x.1 x.2.1
noncomputable def Z9j:Sum thy:=sumM (mI dWK Zii dN (fun _=>rfl)) (fun _ k=>k= .at_\/k= .ki\/k= .un) fun x k=>Z9 k.words x.1 x.2.1
theorem Z0s:SumOk E 31 Z9j:=Xe E_ok (Zd rfl) fun x k h=>Z1b k h x.1 x.2.1
noncomputable def Sint:Sum thy:=sumM (mI .nil n0 dN (fun _=>rfl)) (fun _ _=>True) fun x _=>pInt x.1 x.2.1
theorem Z51:SumOk E 98 Sint:=Xe E_ok (Zd rfl) fun x _ _=>Zm3 x.1 x.2.1
noncomputable def Z9k:Sum thy:=sumM (mI .nil n0 dS (fun _=>rfl)) (fun _ _=>True) fun x _=>V5 x.1 x.2.1
theorem Z0t:SumOk E 30 Z9k:=Xe E_ok (Zd rfl) fun x _ _=>Z1a x.1 x.2.1
noncomputable def Fme:Fns thy:=addS (addS (addS (addS (addS (addS F0 33 Sacc) 29 Sexp) 65 Scho) 31 Z9j) 98 Sint) 30 Z9k
theorem Zez:FnsOk E Fme:=Zb (Zb (Zb (Zb (Zb (Zb F0_ok Z5y) Z5x) Z50) Z0s) Z51) Z0t
theorem Zvq {s:List Nat}:∀{l:List (List Nat)} {k:Nat},idxS s k l<k+l.length
 | [],k=>by unfold idxS;simp;omega
 |x::l,k=>by
  unfold idxS
  split
  · simp;omega
  · have:=Zvq (s:=s) (l:=l) (k:=k+1)
    simp at this⊢;omega
theorem Zp9 {ws:List (List Nat)} {l:List Tok} (h:0<ws.length):chz ws l<ws.length:=by
 unfold chz
 split
 · omega
 · split
   · rename_i t r _
     have:=Zvq (s:=t.text) (l:=ws) (k:=0)
     simpa using this
   · omega
theorem Y8 {ws:List (List Nat)} {l:List Tok} {e:Int} {y:Int×Bool×Unit} {x':PX} (h:Zn ws l e= .ok (y,x')):(0<=chz ws l/\y=(chz ws l,true,())/\x'=(l.tail,e,()))\/(¬0<=chz ws l/\y=(0,false,())/\x'=(l,e,())):=by
 unfold Zn at h
 split at h
 · injection h with h
   injection h with h1 h2
   exact .inl ⟨by assumption,h1.symm,h2.symm⟩
 · injection h with h
   injection h with h1 h2
   exact .inr ⟨by assumption,h1.symm,h2.symm⟩
theorem Zmq {ws:List (List Nat)} {l:List Tok} {e:Int} {er:Int×Int} (h:Zn ws l e= .error er):False:=by
 unfold Zn at h
 split at h<;>cases h
theorem U7 {ws:List (List Nat)} {l:List Tok} {e:Int} {y:Int} {x':PX} (h:Z9 ws l e= .ok (y,x')):0<=chz ws l/\y=chz ws l/\x'=(l.tail,e,()):=by
 unfold Z9 at h
 split at h
 · injection h with h
   injection h with h1 h2
   exact ⟨by assumption,h1.symm,h2.symm⟩
 · cases h
def incD (d:List Int) (i:Int):List Int:=d.set i.toNat (d.getD i.toNat 0+1)
def decD (d:List Int) (i:Int):List Int:=d.set i.toNat (d.getD i.toNat 0-1)
def sPer:List Nat:= [112,101,114]
def Xf (l:List Tok) (e:Int):PR (List Int):=
 match Zn WK.un.words l e with
 | .error er=> .error er
 | .ok (y,x)=>
  if isW sPer x.1 then
   match Z9 WK.un.words x.1.tail x.2.1 with
   | .error er=> .error er
   | .ok (j,x1)=> .ok (decD (if y.2.1 then incD [0,0,0,0] y.1 else [0,0,0,0]) j,x1)
  else .ok (if y.2.1 then incD [0,0,0,0] y.1 else [0,0,0,0],x)
def sIs:List Nat:= [105,115]
def sIn:List Nat:= [105,110]
def Zbs:List Nat:= [46,46]
def Wq (n:Int) (l:List Tok) (e:Int):PR Tst:=
 match Z9 WK.at_.words l e with
 | .error er=> .error er
 | .ok (a,x)=>
  if n=8 then .error (hdT e l,2)
  else if isW sIs x.1 then
   match pInt x.1.tail x.2.1 with
   | .error er=> .error er
   | .ok (m,x1)=> .ok (⟨a,m,m⟩,x1)
  else if isW sIn x.1 then
   match pInt x.1.tail x.2.1 with
   | .error er=> .error er
   | .ok (m,x1)=>
    if isW Zbs x1.1 then
     match pInt x1.1.tail x1.2.1 with
     | .error er=> .error er
     | .ok (k,x2)=> .ok (⟨a,m,k⟩,x2)
    else .error (hdT x1.2.1 x1.1,160)
  else .error (hdT x.2.1 x.1,160)
noncomputable def dDm:Dc E (List Int):=dR .dims
noncomputable def dTs:Dc E Tst:=dR .tests
abbrev qBW3:=(0:Int)
abbrev qBW1 (a0:Int×Bool×Unit) (b0:Int):=(List.set [qBW3,qBW3,qBW3,qBW3] (Int.toNat (Prod.fst a0)) (wr IntKind.i64 (b0+(1:Int))))
abbrev qBW2 (a0:Int) (b0:Int):=(List.set [qBW3,qBW3,qBW3,qBW3] (Int.toNat a0) (wr IntKind.i64 (b0-(1:Int))))
abbrev qBW4 (a0:Int×Bool×Unit) (b0:Int) (c0:Int) (d0:Int):=(List.set (qBW1 a0 b0) (Int.toNat c0) (wr IntKind.i64 (d0-(1:Int))))
abbrev qBW5:=(4:Nat)
abbrev qBW6 (a0:Int):=(qBW3<=a0/\a0+(1:Int)<=(↑qBW5:Int))
abbrev qBW7:=(WK.words WK.un)
abbrev qBW8:=(WK.un=WK.at_\/WK.un=WK.ki\/WK.un=WK.un)
theorem Zvr (l:List Tok) (e:Int) (out:PR (List Int)):Zg E Fme (vc E Fme 400) 133 [.ptr 0 0] (one [.psl Th.toks l false,.int false .i64 e]) 1 (mK .nil n0 dDm (fun _=>rfl) l e out)=(
 (WK.un=WK.un\/WK.un=WK.ca)/\(∀(y:Int×Bool×Unit) (x':PX),Zn qBW7 l e=Except.ok (y,x')->(Prod.fst (Prod.snd y)=true->(qBW3<=Prod.fst y/\Prod.fst y+(1:Int)<=(↑qBW5:Int))/\Int.toNat (Prod.fst y)+(1:Nat)<=qBW5/\∀(x:Int),[qBW3,qBW3,qBW3,qBW3][Int.toNat (Prod.fst y)]? =some x->(qBW3<=Prod.fst y/\Prod.fst y+(1:Int)<=(↑qBW5:Int))/\(0:Nat)<=Int.toNat (Prod.fst y)/\Int.toNat (Prod.fst y)+(1:Nat)<=qBW5/\∀(x_1:Int),[qBW3,qBW3,qBW3,qBW3][Int.toNat (Prod.fst y)]? =some x_1->(isW [(112:Nat),(101:Nat),(114:Nat)] (Prod.fst x')=true->qBW8/\(∀(y_1:Int) (x'_1:PX),Z9 qBW7 (List.tail (Prod.fst x')) (Prod.fst (Prod.snd x'))=Except.ok (y_1,x'_1)->(qBW6 y_1)/\Int.toNat y_1+(1:Nat)<=List.length (qBW1 y x)/\∀(x_2:Int),(qBW1 y x)[Int.toNat y_1]? =some x_2->(qBW6 y_1)/\(0:Nat)<=Int.toNat y_1/\Int.toNat y_1+(1:Nat)<=List.length (qBW1 y x)/\∀(x_3:Int),(qBW1 y x)[Int.toNat y_1]? =some x_3->List.length (qBW4 y x y_1 x_2)=qBW5/\List.length (qBW4 y x y_1 x_2)=qBW5/\qBW5=qBW5/\out=Except.ok ([List.getD (qBW4 y x y_1 x_2) (0:Nat) qBW3,List.getD (qBW4 y x y_1 x_2) (1:Nat) qBW3,List.getD (qBW4 y x y_1 x_2) (2:Nat) qBW3,List.getD (qBW4 y x y_1 x_2) (3:Nat) qBW3],Prod.fst x'_1,Prod.fst (Prod.snd x'_1),()))/\∀(e:Int×Int),Z9 qBW7 (List.tail (Prod.fst x')) (Prod.fst (Prod.snd x'))=Except.error e->out=Except.error e)/\(isW [(112:Nat),(101:Nat),(114:Nat)] (Prod.fst x')=false->List.length (qBW1 y x)=qBW5/\List.length (qBW1 y x)=qBW5/\qBW5=qBW5/\out=Except.ok ([List.getD (qBW1 y x) (0:Nat) qBW3,List.getD (qBW1 y x) (1:Nat) qBW3,List.getD (qBW1 y x) (2:Nat) qBW3,List.getD (qBW1 y x) (3:Nat) qBW3],Prod.fst x',Prod.fst (Prod.snd x'),())))/\(Prod.fst (Prod.snd y)=false->(isW [(112:Nat),(101:Nat),(114:Nat)] (Prod.fst x')=true->qBW8/\(∀(y:Int) (x'_1:PX),Z9 qBW7 (List.tail (Prod.fst x')) (Prod.fst (Prod.snd x'))=Except.ok (y,x'_1)->(qBW6 y)/\Int.toNat y+(1:Nat)<=qBW5/\∀(x:Int),[qBW3,qBW3,qBW3,qBW3][Int.toNat y]? =some x->(qBW6 y)/\(0:Nat)<=Int.toNat y/\Int.toNat y+(1:Nat)<=qBW5/\∀(x_1:Int),[qBW3,qBW3,qBW3,qBW3][Int.toNat y]? =some x_1->List.length (qBW2 y x)=qBW5/\List.length (qBW2 y x)=qBW5/\qBW5=qBW5/\out=Except.ok ([List.getD (qBW2 y x) (0:Nat) qBW3,List.getD (qBW2 y x) (1:Nat) qBW3,List.getD (qBW2 y x) (2:Nat) qBW3,List.getD (qBW2 y x) (3:Nat) qBW3],Prod.fst x'_1,Prod.fst (Prod.snd x'_1),()))/\∀(e:Int×Int),Z9 qBW7 (List.tail (Prod.fst x')) (Prod.fst (Prod.snd x'))=Except.error e->out=Except.error e)/\(isW [(112:Nat),(101:Nat),(114:Nat)] (Prod.fst x')=false->qBW5=qBW5/\qBW5=qBW5/\qBW5=qBW5/\out=Except.ok ([qBW3,qBW3,qBW3,qBW3],Prod.fst x',Prod.fst (Prod.snd x'),()))))/\∀(e_1:Int×Int),Zn qBW7 l e=Except.error e_1->out=Except.error e_1):=by kernel_rfl
abbrev qBWa (a0:PX):=(Prod.fst (Prod.snd a0))
abbrev qBWb (a0:PX):=(List.tail (Prod.fst a0))
abbrev qBW9 (a0:Int) (b0:PX) (c0:PR Tst) (d0:Int):=((a0==(8:Int))=false->(isW [(105:Nat),(115:Nat)] (Prod.fst b0)=true->True/\(∀(y_1:Int) (x'_1:PX),pInt (qBWb b0) (qBWa b0)=Except.ok (y_1,x'_1)->c0=Except.ok (Tst.mk d0 y_1 y_1,Prod.fst x'_1,Prod.fst (Prod.snd x'_1),()))/\∀(e:Int×Int),pInt (qBWb b0) (qBWa b0)=Except.error e->c0=Except.error e)/\(isW [(105:Nat),(115:Nat)] (Prod.fst b0)=false->(isW [(105:Nat),(110:Nat)] (Prod.fst b0)=true->True/\(∀(y_1:Int) (x'_1:PX),pInt (qBWb b0) (qBWa b0)=Except.ok (y_1,x'_1)->(isW [(46:Nat),(46:Nat)] (Prod.fst x'_1)=true->True/\(∀(y_2:Int) (b0:PX),pInt (qBWb x'_1) (qBWa x'_1)=Except.ok (y_2,b0)->c0=Except.ok (Tst.mk d0 y_1 y_2,Prod.fst b0,Prod.fst (Prod.snd b0),()))/\∀(e:Int×Int),pInt (qBWb x'_1) (qBWa x'_1)=Except.error e->c0=Except.error e)/\(isW [(46:Nat),(46:Nat)] (Prod.fst x'_1)=false->c0=Except.error (hdT (qBWa x'_1) (Prod.fst x'_1),(160:Int))))/\∀(e:Int×Int),pInt (qBWb b0) (qBWa b0)=Except.error e->c0=Except.error e)/\(isW [(105:Nat),(110:Nat)] (Prod.fst b0)=false->c0=Except.error (hdT (qBWa b0) (Prod.fst b0),(160:Int)))))
abbrev qBWc:=(WK.at_=WK.at_\/WK.at_=WK.ki\/WK.at_=WK.un)
theorem Zvs (l:List Tok) (e n:Int) (out:PR Tst):Zg E Fme (vc E Fme 400) 68 [.ptr 0 0,.int false .i64 n] (one [.psl Th.toks l false,.int false .i64 e]) 1 (mK (dA1 dN) (n1 fun _=>rfl) dTs (fun _=>rfl) l e out)=(
 (decide ((↑(List.length l):Int)>(0:Int))=true->(0:Int)<=(0:Int)/\(0:Int)+(1:Int)<=(↑(List.length l):Int)/\∀(x:Tok),l[Int.toNat (0:Int)]? =some x->qBWc/\(∀(y:Int) (x':PX),Z9 (WK.words WK.at_) l e=Except.ok (y,x')->((n==(8:Int))=true->out=Except.error (Tok.at_ x,(2:Int)))/\(qBW9 n x' out y))/\∀(e_1:Int×Int),Z9 (WK.words WK.at_) l e=Except.error e_1->out=Except.error e_1)/\(decide ((↑(List.length l):Int)>(0:Int))=false->qBWc/\(∀(y:Int) (x':PX),Z9 (WK.words WK.at_) l e=Except.ok (y,x')->((n==(8:Int))=true->out=Except.error (e,(2:Int)))/\(qBW9 n x' out y))/\∀(e_1:Int×Int),Z9 (WK.words WK.at_) l e=Except.error e_1->out=Except.error e_1)):=by kernel_rfl
theorem four {i : Int} (h0 : 0 ≤ i) (h4 : i < 4) : i = 0 ∨ i = 1 ∨ i = 2 ∨ i = 3 := by omega
theorem Z0u (l : List Tok) (e : Int) : Wp (mI .nil n0 dDm (fun _ => rfl)) 133 (l, e, ()) () (Xf l e) := by
 refine V1 Zez (n := 400) (a := ()) ?_
 rw [show (DcL.nil (E := E)).enc () = [] from rfl, Zvr]; delta qBW3 qBW1 qBW2 qBW4 qBW5 qBW6 qBW7 qBW8
 have w1 : wr .i64 1 = 1 := by decide
 have w2 : wr .i64 (-1) = -1 := by decide
 have w3 : wr .i64 0 = 0 := by decide
 refine ⟨.inl rfl, fun y x' h => ⟨fun hb => ?_, fun hb => ?_⟩, fun er h => (Zmq h).elim⟩
 · obtain ⟨i, b, _⟩ := y
   have hb : b = true := hb
   subst hb
   rcases Y8 h with ⟨q1, q2, rfl⟩ | ⟨_, q2, _⟩
   case inr => cases q2
   cases q2
   have q3 : chz WK.un.words l < 4 := Zp9 (by decide)
   generalize hq : chz WK.un.words l = q at *
   rcases four q1 q3 with rfl | rfl | rfl | rfl
   all_goals
    simp [w1]
    refine ⟨fun h1 => ⟨fun j x1 z1 z2 h2 => ?_, fun e1 e2 h2 => ?_⟩, fun h1 => ?_⟩
    · obtain ⟨r1, r2, _⟩ := U7 h2
      have r3 : chz WK.un.words l.tail.tail < 4 := Zp9 (by decide)
      rw [← r2] at r1 r3; clear r2
      rcases four r1 r3 with rfl | rfl | rfl | rfl
      all_goals simp [Xf, sPer, incD, decD, w1, w2, w3, *]
    · simp [Xf, sPer, incD, decD, *]
    · simp [Xf, sPer, incD, decD, *]
 · obtain ⟨i, b, _⟩ := y
   have hb : b = false := hb
   subst hb
   rcases Y8 h with ⟨_, q2, _⟩ | ⟨q1, q2, rfl⟩
   case inl => cases q2
   cases q2
   refine ⟨fun h1 => ⟨.inr (.inr rfl), fun j x1 h2 => ?_, fun er h2 => ?_⟩, fun h1 => ?_⟩
   · obtain ⟨r1, r2, _⟩ := U7 h2
     have r3 : chz WK.un.words l.tail < 4 := Zp9 (by decide)
     rw [← r2] at r1 r3; clear r2
     rcases four r1 r3 with rfl | rfl | rfl | rfl
     all_goals simp [Xf, sPer, incD, decD, w1, w2, w3, *]
   · simp [Xf, sPer, incD, decD, *]
   · simp [Xf, sPer, incD, decD, *]
theorem Z0v (l : List Tok) (e n : Int) : Wp (mI (dA1 dN) (n1 fun _ => rfl) dTs (fun _ => rfl)) 68 (l, e, ()) (n, ()) (Wq n l e) := by
 refine V1 Zez (n := 400) (a := (n, ())) ?_
 rw [show (dA1 dN).enc (n, ()) = [.int false .i64 n] from rfl, Zvs]; delta qBWa qBWb qBW9 qBWc
 cases l with
 | nil =>
  simp only [Zw, Z8, tz, tz0, tp, tp0, tl1, tl2, tg, td, i01, true_and, and_true, forall_eq', forall_eq, Bool.true_eq_false, Bool.false_eq_true, reduceCtorEq, true_implies, false_implies, Int.le_refl, imp_self, bne_iff_ne, ne_eq, bne_eq_false_iff_eq, beq_iff_eq, beq_eq_false_iff_ne]
  repeat' (first | apply And.intro | intro _)
  all_goals first | exact .inl rfl | exact trivial | simp [Wq, hdT, sIs, sIn, Zbs, *]
 | cons t l =>
  simp only [Zw, Z8, tz, tz0, tp, tp0, tl1, tl2, tg, td, i01, true_and, and_true, forall_eq', forall_eq, Bool.true_eq_false, Bool.false_eq_true, reduceCtorEq, true_implies, false_implies, Int.le_refl, imp_self, bne_iff_ne, ne_eq, bne_eq_false_iff_eq, beq_iff_eq, beq_eq_false_iff_ne]
  repeat' (first | apply And.intro | intro _)
  all_goals first | exact .inl rfl | exact trivial | simp [Wq, hdT, sIs, sIn, Zbs, *]
end
section
open Go
noncomputable def dEx:Dc E Ex:=(dR .exprs:Dc E (thy.dom Th.exprs))
abbrev PE:=List Tok->Int->PR Ex
def Xb:List Nat:= [40]
def Zx:List Nat:= [41]
def sIf:List Nat:= [105,102]
def Z0:List Nat:= [44]
def Zcd:List Nat:= [60]
def pOpL (pe:PE):List (List Nat)->List Ex->List Tok->Int->PR (List Ex)
 | [],acc,l,e=> .ok (acc,l,e,())
 |s::r,acc,l,e=>
  match pe l e with
  | .error er=> .error er
  | .ok (x,y)=>if isW s y.1 then pOpL pe r (acc++ [x]) y.1.tail y.2.1 else .error (hdT y.2.1 y.1,160)
def pOps (pe:PE) (op:Int) (ss:List (List Nat)) (l:List Tok) (e:Int):PR Ex:=
 if isW Xb l then
  match pOpL pe ss [] l.tail e with
  | .error er=> .error er
  | .ok (xs,y)=> .ok (.mk op 0 0 0 0 0 xs,y)
 else .error (hdT e l,160)
def Up (pe:PE) (l:List Tok) (e:Int):PR Ex:=
 if isW Xb l then
  match pe l.tail e with
  | .error er=> .error er
  | .ok (x,y)=>if isW Zx y.1 then .ok (x,y.1.tail,y.2.1,()) else .error (hdT y.2.1 y.1,160)
 else if isW sIf l then pOps pe 11 [Zcd,Z0,Z0,Zx] l.tail e
 else match Zn WK.ca.words l e with
  | .error er=> .error er
  | .ok (k,y)=>
   if k.2.1 then pOps pe (6+k.1) [Z0,Zx] y.1 y.2.1
   else match Z9 WK.at_.words y.1 y.2.1 with
    | .error er=> .error er
    | .ok (a,z)=> .ok (.mk 2 a 0 0 0 0 [],z)
def pFac (pe:PE) (l:List Tok) (e:Int):PR Ex:=
 match l with
 | []=>Up pe [] e
 |t::r=>
  if t.kind=2 then
   match Xf r e with
   | .error er=> .error er
   | .ok (d,y)=> .ok (.mk 1 t.n (d.getD 0 0) (d.getD 1 0) (d.getD 2 0) (d.getD 3 0) [],y)
  else Up pe (t::r) e
def Shr (pe:PE):Prop:=∀l e y x',pe l e= .ok (y,x')->x'.1.length<l.length
theorem Zp {s:List Nat} {l:List Tok} (h:isW s l=true):l.tail.length+1=l.length:=by
 cases l with
 |nil=>cases h
 |cons t l=>rfl
theorem Ya8 {s:List Nat} {l:List Tok} {P:Prop} (h:isW s l=true->l.tail.length+1=l.length->P):isW s l=true->P:=fun q=>h q (Zp q)
theorem Z4p {pe:PE} (H:Shr pe) {l:List Tok} {e:Int} {P:Ex->PX->Prop} (h:∀y x',pe l e= .ok (y,x')->x'.1.length<l.length->P y x'):∀y x',pe l e= .ok (y,x')->P y x':=fun y x' q=>h y x' q (H _ _ _ _ q)
theorem Za8 {ws:List (List Nat)} {l:List Tok} (h:0<=chz ws l):l.tail.length+1=l.length:=by
 cases l with
 |nil=>cases h
 |cons t l=>rfl
theorem Z4q {l:List Tok} {e:Int} {A B:Int×Bool×Unit->PX->Prop} (hA:∀y x',Zn WK.ca.words l e= .ok (y,x')->y.2.1=true->x'.1.length<l.length->wr .i64 (6+y.1)=6+y.1->A y x') (hB:∀y x',Zn WK.ca.words l e= .ok (y,x')->y.2.1=false->B y x'):
 ∀y x',Zn WK.ca.words l e= .ok (y,x')->(y.2.1=true->A y x')/\(y.2.1=false->B y x'):=by
 intro y x' q
 refine ⟨fun hy=>hA y x' q hy ?_ ?_,fun hy=>hB y x' q hy⟩
 · rcases Y8 q with ⟨h1,rfl,rfl⟩|⟨_,rfl,_⟩
   · have:=Za8 h1
     show l.tail.length<l.length
     omega
   · cases hy
 · rcases Y8 q with ⟨h1,rfl,rfl⟩|⟨_,rfl,_⟩
   · have:=Zp9 (ws:=WK.ca.words) (l:=l) (by decide)
     have h5:(WK.ca.words).length=5:=rfl
     rw [h5] at this
     exact wr64 (by show _<=6+chz _ _;omega) (by show 6+chz _ _<=_;omega)
   · rfl
theorem Z17 {pe:PE} {l:List Tok} {e:Int} (h:((l.length:Int)==0)=true):pFac pe l e=Up pe l e:=by
 cases l with
 |nil=>rfl
 |cons t l=>rw [tz] at h;cases h
theorem Z18 {pe:PE} {l:List Tok} {e:Int} {x:Tok} (hx:l[Int.toNat 0]? =some x) (h:(x.kind !=2)=true):pFac pe l e=Up pe l e:=by
 cases l with
 |nil=>cases hx
 |cons t l=>
  rw [tg] at hx
  subst hx
  simp at h
  simp [pFac,h]
theorem Z19 {l:List Tok} {e:Int} {x:Tok} (hx:l[Int.toNat 0]? =some x) (h:(x.kind !=2)=false):∃r,l=x::r/\x.kind=2/\pInt l e= .ok (x.n,r,e,()):=by
 cases l with
 |nil=>cases hx
 |cons t l=>
  rw [tg] at hx
  subst hx
  simp at h
  exact ⟨l,rfl,h,by simp [pInt,h]⟩
theorem Zi5 {l:List Tok} (h:((l.length:Int)==0)=false):(0:Int)<=0/\(0:Int)+1<=l.length:=by
 have:(l.length:Int)≠0:=by simpa using h
 omega
noncomputable def Ya9:Sum thy:=sumM (mI .nil n0 dDm (fun _=>rfl)) (fun _ _=>True) fun x _=>Xf x.1 x.2.1
theorem Z2a:SumOk E 133 Ya9:=Xe E_ok (Zd rfl) fun x _ _=>Z0u x.1 x.2.1
noncomputable def Ycz (n:Nat) (pe:PE):Sum thy:=sumM (mI .nil n0 dEx (fun _=>rfl)) (fun x _=>x.1.length<n) fun x _=>pe x.1 x.2.1
noncomputable def Ffa (n:Nat) (pe:PE):Fns thy:=addS (addS Fme 133 Ya9) 69 (Ycz n pe)
abbrev qBX7 (a0:PX):=(Prod.fst (Prod.snd a0))
abbrev qBX9:=(0:Int)
abbrev qBX5:=(1:Nat)
abbrev qBXc:=(qBX5<=qBX5/\(0:Nat)<=qBX5/\(qBX5+qBX5)*(72:Nat)<=(140737488355328:Nat))
abbrev qBXd (a0:PX):=(Prod.fst a0)
abbrev qBX6 (a0:PX):=(List.tail (qBXd a0))
abbrev qBX2 (a0:Ex) (b0:Ex):=(List.take qBX5 [Ex.mk (Ex.op a0) (Ex.n a0) (Ex.d0 a0) (Ex.d1 a0) (Ex.d2 a0) (Ex.d3 a0) (Ex.l a0)]++ [Ex.mk (Ex.op b0) (Ex.n b0) (Ex.d0 b0) (Ex.d1 b0) (Ex.d2 b0) (Ex.d3 b0) (Ex.l b0)])
abbrev qBX8 (a0:Ex) (b0:Ex) (c0:Ex):=(List.take (qBX5+qBX5) (qBX2 a0 b0)++ [Ex.mk (Ex.op c0) (Ex.n c0) (Ex.d0 c0) (Ex.d1 c0) (Ex.d2 c0) (Ex.d3 c0) (Ex.l c0)])
abbrev qBX4 (a0:PX):=(hdT (qBX7 a0) (qBXd a0),(160:Int))
abbrev qBXb (a0:PX) (b0:PR Ex):=(isW [(41:Nat)] (qBXd a0)=false->b0=Except.error (qBX4 a0))
abbrev qBXf:=(qBX5+qBX5+qBX5+qBX5)
abbrev qBXe (a0:Ex) (b0:Ex) (c0:Ex) (d0:Ex):=(List.take (qBX5+qBX5+qBX5) (qBX8 a0 b0 c0)++ [Ex.mk (Ex.op d0) (Ex.n d0) (Ex.d0 d0) (Ex.d1 d0) (Ex.d2 d0) (Ex.d3 d0) (Ex.l d0)])
abbrev qBXa (a0:PX) (b0:PR Ex):=(isW [(44:Nat)] (qBXd a0)=false->b0=Except.error (qBX4 a0))
abbrev qBX1 (a0:List Tok) (b0:Nat) (c0:PE) (d0:Int) (e0:PR Ex):=(isW [(40:Nat)] a0=false->(isW [(105:Nat),(102:Nat)] a0=true->(isW [(40:Nat)] (List.tail a0)=true->List.length (List.tail (List.tail a0))+qBX5<=b0/\(∀(y:Ex) (x':PX),c0 (List.tail (List.tail a0)) d0=Except.ok (y,x')->(isW [(60:Nat)] (qBXd x')=true->List.length (qBX6 x')+qBX5<=b0/\(∀(y_1:Ex) (x'_1:PX),c0 (qBX6 x') (qBX7 x')=Except.ok (y_1,x'_1)->qBXc/\(isW [(44:Nat)] (qBXd x'_1)=true->List.length (qBX6 x'_1)+qBX5<=b0/\(∀(y_2:Ex) (x':PX),c0 (qBX6 x'_1) (qBX7 x'_1)=Except.ok (y_2,x')->(qBX5+qBX5<=List.length (qBX2 y y_1)/\(0:Nat)<=qBX5+qBX5/\(qBX5+qBX5+qBX5)*(72:Nat)<=(140737488355328:Nat))/\(isW [(44:Nat)] (qBXd x')=true->List.length (qBX6 x')+qBX5<=b0/\(∀(y_3:Ex) (x'_2:PX),c0 (qBX6 x') (qBX7 x')=Except.ok (y_3,x'_2)->(qBX5+qBX5+qBX5<=List.length (qBX8 y y_1 y_2)/\(0:Nat)<=qBX5+qBX5+qBX5/\qBXf*(72:Nat)<=(140737488355328:Nat))/\(isW [(41:Nat)] (qBXd x'_2)=true->(0:Nat)+qBXf<=List.length (qBXe y y_1 y_2 y_3)/\e0=Except.ok (Ex.mk (11:Int) qBX9 qBX9 qBX9 qBX9 qBX9 (List.take qBXf (List.drop (0:Nat) (qBXe y y_1 y_2 y_3))),List.tail (qBXd x'_2),Prod.fst (Prod.snd x'_2),()))/\(qBXb x'_2 e0))/\∀(d0:Int×Int),c0 (qBX6 x') (qBX7 x')=Except.error d0->e0=Except.error d0)/\(qBXa x' e0))/\∀(d0:Int×Int),c0 (qBX6 x'_1) (qBX7 x'_1)=Except.error d0->e0=Except.error d0)/\(qBXa x'_1 e0))/\∀(d0:Int×Int),c0 (qBX6 x') (qBX7 x')=Except.error d0->e0=Except.error d0)/\(isW [(60:Nat)] (qBXd x')=false->e0=Except.error (qBX4 x')))/\∀(e_1:Int×Int),c0 (List.tail (List.tail a0)) d0=Except.error e_1->e0=Except.error e_1)/\(isW [(40:Nat)] (List.tail a0)=false->e0=Except.error (hdT d0 (List.tail a0),(160:Int))))/\(isW [(105:Nat),(102:Nat)] a0=false->(WK.ca=WK.un\/WK.ca=WK.ca)/\(∀(y:Int×Bool×Unit) (x':PX),Zn (WK.words WK.ca) a0 d0=Except.ok (y,x')->(Prod.fst (Prod.snd y)=true->(isW [(40:Nat)] (qBXd x')=true->List.length (qBX6 x')+qBX5<=b0/\(∀(y_1:Ex) (x'_1:PX),c0 (qBX6 x') (qBX7 x')=Except.ok (y_1,x'_1)->(isW [(44:Nat)] (qBXd x'_1)=true->List.length (qBX6 x'_1)+qBX5<=b0/\(∀(y_2:Ex) (x':PX),c0 (qBX6 x'_1) (qBX7 x'_1)=Except.ok (y_2,x')->qBXc/\(isW [(41:Nat)] (qBXd x')=true->(0:Nat)+(qBX5+qBX5)<=List.length (qBX2 y_1 y_2)/\e0=Except.ok (Ex.mk (wr IntKind.i64 ((6:Int)+Prod.fst y)) qBX9 qBX9 qBX9 qBX9 qBX9 (List.take (qBX5+qBX5) (List.drop (0:Nat) (qBX2 y_1 y_2))),List.tail (qBXd x'),Prod.fst (Prod.snd x'),()))/\(qBXb x' e0))/\∀(d0:Int×Int),c0 (qBX6 x'_1) (qBX7 x'_1)=Except.error d0->e0=Except.error d0)/\(qBXa x'_1 e0))/\∀(d0:Int×Int),c0 (qBX6 x') (qBX7 x')=Except.error d0->e0=Except.error d0)/\(isW [(40:Nat)] (qBXd x')=false->e0=Except.error (qBX4 x')))/\(Prod.fst (Prod.snd y)=false->(WK.at_=WK.at_\/WK.at_=WK.ki\/WK.at_=WK.un)/\(∀(y:Int) (x'_1:PX),Z9 (WK.words WK.at_) (qBXd x') (qBX7 x')=Except.ok (y,x'_1)->e0=Except.ok (Ex.mk (2:Int) y qBX9 qBX9 qBX9 qBX9 [],Prod.fst x'_1,Prod.fst (Prod.snd x'_1),()))/\∀(d0:Int×Int),Z9 (WK.words WK.at_) (qBXd x') (qBX7 x')=Except.error d0->e0=Except.error d0))/\∀(e_1:Int×Int),Zn (WK.words WK.ca) a0 d0=Except.error e_1->e0=Except.error e_1))
abbrev qBX3 (a0:List Tok) (b0:Nat) (c0:PE) (d0:Int) (e0:PR Ex):=(isW [(40:Nat)] a0=true->List.length (List.tail a0)+qBX5<=b0/\(∀(y:Ex) (x':PX),c0 (List.tail a0) d0=Except.ok (y,x')->(isW [(41:Nat)] (qBXd x')=true->e0=Except.ok (Ex.mk (Ex.op y) (Ex.n y) (Ex.d0 y) (Ex.d1 y) (Ex.d2 y) (Ex.d3 y) (Ex.l y),List.tail (qBXd x'),Prod.fst (Prod.snd x'),()))/\(qBXb x' e0))/\∀(e_1:Int×Int),c0 (List.tail a0) d0=Except.error e_1->e0=Except.error e_1)
theorem Zoi (n:Nat) (pe:PE) (l:List Tok) (e:Int) (out:PR Ex):Zg E (Ffa n pe) (vc E (Ffa n pe) 400) 101 [.ptr 0 0] (one [.psl Th.toks l false,.int false .i64 e]) 1 (mK .nil n0 dEx (fun _=>rfl) l e out)=(
 (((↑(List.length l):Int)==qBX9)=true->(qBX3 l n pe e out)/\(qBX1 l n pe e out))/\(((↑(List.length l):Int)==qBX9)=false->qBX9<=qBX9/\qBX9+(1:Int)<=(↑(List.length l):Int)/\∀(x:Tok),l[Int.toNat qBX9]? =some x->((Tok.kind x !=(2:Int))=true->(qBX3 l n pe e out)/\(qBX1 l n pe e out))/\((Tok.kind x !=(2:Int))=false->qBX9<=qBX9/\qBX9+(1:Int)<=(↑(List.length l):Int)/\∀(x:Tok),l[Int.toNat qBX9]? =some x->True/\(∀(y:Int) (x':PX),pInt l e=Except.ok (y,x')->True/\(∀(y_1:List Int) (x'_1:PX),Xf (qBXd x') (qBX7 x')=Except.ok (y_1,x'_1)->out=Except.ok (Ex.mk (1:Int) y (List.getD y_1 (0:Nat) qBX9) (List.getD y_1 qBX5 qBX9) (List.getD y_1 (2:Nat) qBX9) (List.getD y_1 (3:Nat) qBX9) [],Prod.fst x'_1,Prod.fst (Prod.snd x'_1),()))/\∀(e:Int×Int),Xf (qBXd x') (qBX7 x')=Except.error e->out=Except.error e)/\∀(e_1:Int×Int),pInt l e=Except.error e_1->out=Except.error e_1))):=by kernel_rfl
theorem Yba {n:Nat} {pe:PE} (hpe:∀l e,l.length<n->Wp (mI .nil n0 dEx (fun _=>rfl)) 69 (l,e,()) () (pe l e)):FnsOk E (Ffa n pe):=Zb (Zb Zez Z2a) (Xe E_ok (Zd rfl) fun x _ h=>hpe x.1 x.2.1 h)
theorem Zs5 {n : Nat} {pe : PE} (hpe : ∀ l e, l.length < n → Wp (mI .nil n0 dEx (fun _ => rfl)) 69 (l, e, ()) () (pe l e)) (H : Shr pe) (l : List Tok) (e : Int) (hl : l.length < n + 1) :
 Wp (mI .nil n0 dEx (fun _ => rfl)) 101 (l, e, ()) () (pFac pe l e) := by
 refine V1 (Yba hpe) (n := 400) (a := ()) ?_
 rw [show (DcL.nil (E := E)).enc () = [] from rfl, Zoi]; delta qBX7 qBX9 qBX5 qBXc qBXd qBX6 qBX2 qBX8 qBX4 qBXb qBXf qBXe qBXa qBX1 qBX3
 refine ⟨fun h0 => ?_, fun h0 => ⟨(Zi5 h0).1, (Zi5 h0).2, fun x hx => ⟨fun h2 => ?_, fun h2 => ?_⟩⟩⟩
 · rw [Z17 h0]; clear h0
   repeat' (first | refine Ya8 fun _ _ => ?_ | refine Z4p H fun _ _ _ _ => ?_ | refine Z4q (fun _ _ _ _ _ _ => ?_) (fun _ _ _ _ => ?_) | apply And.intro | intro _)
   all_goals first | exact .inr rfl | exact .inl rfl | exact trivial | omega | simp [Up, pOps, pOpL, Xb, Zx, sIf, Z0, Zcd, Ex.eta, *]
 · rw [Z18 hx h2]; clear h0 hx h2
   repeat' (first | refine Ya8 fun _ _ => ?_ | refine Z4p H fun _ _ _ _ => ?_ | refine Z4q (fun _ _ _ _ _ _ => ?_) (fun _ _ _ _ => ?_) | apply And.intro | intro _)
   all_goals first | exact .inr rfl | exact .inl rfl | exact trivial | omega | simp [Up, pOps, pOpL, Xb, Zx, sIf, Z0, Zcd, Ex.eta, *]
 · obtain ⟨r, rfl, hk, hi⟩ := Z19 (e := e) hx h2
   refine ⟨(Zi5 h0).1, (Zi5 h0).2, fun _ _ => ⟨trivial, fun y x' h3 => ?_, fun er h3 => by rw [hi] at h3; cases h3⟩⟩
   rw [hi] at h3
   injection h3 with h3
   injection h3 with h3 h4
   subst h3; subst h4
   refine ⟨trivial, fun d x2 h5 => ?_, fun er h5 => ?_⟩
   · simp [pFac, hk, h5]
   · simp [pFac, hk, h5]
end
end Go.Proofs.YtddgkebdlgglaaaGreatDoor
