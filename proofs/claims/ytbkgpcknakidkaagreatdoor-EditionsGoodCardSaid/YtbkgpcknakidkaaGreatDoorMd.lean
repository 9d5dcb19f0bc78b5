/- Merged texts: TvX, EngZH, EngZI, TtA, TtS, TtD, TtE, TvLay, TtG, TtF, TtH, TtI, EdB, EdC, EngZJ, TpA, TpB, TpC, TpD, EngZK, TpE, TpF, TpG. -/
import Derived.Shelf.Strings.SlTrimAscii
import Derived.Shelf.Strings.OnBuilder
import Derived.Shelf.Strconv.Itoa0
import Derived.Shelf.Strconv.Itoa1
import Derived.Test.YtbkgpcknakidkaaGreatDoorProg
import Derived.Test.YtbkgpcknakidkaaGreatDoorMc
open And renaming intro->aD
open Bool renaming and_eq_false_iff->bi,and_eq_true->aq,and_true->cH,eq_false_iff->ip,eq_iff_iff->kn,false->ab,false_and->eH,false_eq_true->aL,false_or->dE,not_eq_false'->cj,not_eq_true->bb,not_eq_true'->bn,or_eq_false_iff->bB,or_eq_true->be,or_false->eo,or_true->eJ,true->ac,true_and->cx,true_eq_false->aR,true_or->dW
open ByteArray renaming mk->ej
open Decidable renaming not_not->bv
open Except renaming error->aA,ok->aT
open Go.Fn renaming func->cE
open Go.IntKind renaming i64->af
open Go.Proofs.Lays renaming n129->kL,n156->kK,n160->kJ,n283->kN,n317->kM
open Go.Proofs.YtbkgpcknakidkaaGreatDoor.Cls renaming mk->fb,name->aP,pay->aE,when_->aY
open Go.Proofs.YtbkgpcknakidkaaGreatDoor.Ex renaming d0->bC,d1->bD,d2->bE,d3->bF,l->bx,mk->bY,n->cd,op->aJ
open Go.Proofs.YtbkgpcknakidkaaGreatDoor.Tar renaming clauses->au,for_->bG,name->bP
open Go.Proofs.YtbkgpcknakidkaaGreatDoor.Th renaming bools->bK,clauses->bu,exprs->im,ints->fX,strs->dp,toks->di
open Go.Proofs.YtbkgpcknakidkaaGreatDoor.Tok renaming at_->dj,kind->cA,text->cN
open Go.Proofs.YtbkgpcknakidkaaGreatDoor.Tst renaming attr->eg,high->fp,low->fk,mk->lh
open Go.Shelf renaming Ren->ga
open Go.TypeDesc renaming bool->bQ
open Go.Value renaming int->il,slice->aH,string->kB
open Int renaming le_refl->bZ,ofNat->iz,ofNat_eq_natCast->bV,toNat->ag,toNat_natCast->bA
open List renaming all_cons->iV,all_eq_true->fH,drop->cy,dropWhile_cons->js,drop_eq_getElem_cons->cw,drop_eq_nil_of_le->bJ,drop_of_length_le->gA,ext_getElem?->jO,getD->ah,getElem?_eq_getElem->ak,getElem?_eq_none->eC,getElem?_eq_some_iff->aj,getElem?_map->bq,getElem?_set->jN,length->aa,length_cons->aC,mem_append_left->eQ,mem_append_right->dz,mem_cons->aM,mem_cons_of_mem->aW,mem_cons_self->cF,mem_of_getElem?->aI,mem_reverse->jV,mem_singleton->cr,range->dh,replicate->aO,set->du,tail->bw,take->aw
open Nat renaming beq->aK,beq_refl->fL,ble->bN,ble_eq->bp,ble_eq_true_of_le->jl,eq_of_beq_eq_true->ax,le_add_right->kp,le_refl->av,le_trans->bT,lt_of_lt_of_le->cg,lt_or_ge->fD,lt_succ_self->dx,zero_add->bm,zero_le->aX
open Option renaming bind_eq_some_iff->ai,getD->cz,map_eq_some_iff->bk,ne_none_iff_exists'->aV,none->ar,some->ae
open Option.some renaming inj->ba,injEq->cq
open Prod renaming fst->ao,snd->ay
open UInt8 renaming ofNat->gh,ofNat_toNat->jF,toNat->cX
namespace Go.Proofs.YtbkgpcknakidkaaGreatDoor
set_option linter.unusedVariables false
set_option linter.unusedSimpArgs false
set_option linter.unnecessarySimpa false
set_option maxRecDepth 100000
section
open Go
noncomputable def dA1{α:Type} (d:Dc E α):DcL E (α×Unit):= .cons d .nil
noncomputable def dA2{α I:Type} (d:Dc E α) (e:Dc E I):DcL E (α×I×Unit):= .cons d (dA1 e)
noncomputable def dN:Dc E Int:=dInt .i64
noncomputable def dB:Dc E Bool:=Ym6
noncomputable def dS:Dc E (List Nat):=dStr
noncomputable def dFun(f:Nat):Dc E Unit where
 dec v:=match v with| .fn (.func g) [] []=>(match aK g f with|true=>ae ()|false=>ar)|_=>ar
 enc _:= .fn (.func f) [] []
 ok v a h:=by
  split at h
  ·split at h
   ·rename_i e
    obtain rfl:=ax e
    exact⟨rfl,rfl,λ_ _ _ h=>h⟩
   ·cases h
  ·cases h
theorem tn0:(0:Int).toNat=0:=rfl
theorem tn1:(1:Int).toNat=1:=rfl
theorem tn2:(2:Int).toNat=2:=rfl
theorem tn3:(3:Int).toNat=3:=rfl
theorem cn4:((4:Nat):Int)=4:=rfl
theorem cn16:((16:Nat):Int)=16:=rfl
def eqL:List Nat->List Nat->Bool
 | [],[]=>ac
 |x::r,y::l=>aK x y&&eqL r l
 |_,_=>ab
theorem Z2g:∀{a b:List Nat},eqL a b=ac->a=b
 | [],[],_=>rfl
 |x::r,y::l,h=>by
  simp only[eqL,aq] at h
  rw[ax h.1,Z2g h.2]
 | [],_::_,h=>by cases h
 |_::_,[],h=>by cases h
def dKs(c:List Nat):Dc E Unit where
 dec v:=match v with| .str ac s=>(match eqL s c with|true=>ae ()|false=>ar)|_=>ar
 enc _:= .str ac c
 ok v a h:=by
  split at h
  ·split at h
   ·rename_i e
    rw[Z2g e]
    exact⟨rfl,rfl,λ_ _ _ h=>h⟩
   ·cases h
  ·cases h
theorem Zr5{σ:Pl} {g:GH} {l:Bool} {s:List Nat} {u:Value} (h:Den E σ g (.str l s) u):Byt s:=by
 cases h;rename_i b I;subst I;exact Zt2 b
theorem Z8x{f:FuncId} {args:List (SV thy)} {v:SV thy} {j:Nat} {l:Bool} {s:List Nat} (I:args[j]? =ae (.str l s)) (h:Byt s->PureC E f args v):PureC E f args v:=by
 intro g w J R hd;have U:j<J.toList.length:=by rw[<-hd.1];exact(aj.1 I).1
 exact h (Zr5 (hd.2 j _ _ I (ak U))) g w J R hd
theorem Zh5{P:Prop} {f:FuncId} {args:List (SV thy)} {v:SV thy} {j:Nat} {a:SV thy} (I:args[j]? =ae a) (U:∀g u,Den E σ0 g a u->P) (h:P->PureC E f args v):PureC E f args v:=by
 intro g w J R hd;have a0:j<J.toList.length:=by rw[<-hd.1];exact(aj.1 I).1
 exact h (U g _ (hd.2 j _ _ I (ak a0))) g w J R hd
theorem Z8y{g:GH} {th:Th} {l:List (domT th)} {f:Bool} {u:Value} (h:Den E σ0 g (.psl th l f) u):∀x∈l,∀(j:Nat) I,(encF ab th x)[j]? =ae I->∃v,Den E σ0 g I v:=by
 cases h;rename_i hd _;intro x R j I J;obtain⟨i,hi⟩:=List.getElem?_of_mem R;exact⟨_,hd i x hi j I J⟩
theorem Zk0{v1:SV thy} {s:List Nat} {f:SV thy->Prop} {z:Prop}:∀{J:List (List Nat)},(∀k∈J,Byt k)->(s∈J->f v1)->(s∉J->z)->Vj ab (.str ab s) (J.map λk=>(kB (mkS k),v1)) f z
 | [],_,_,R=>R (by simp)
 |k::J,hb,h1,R=>by
  rw[List.map_cons]
  unfold Vj
  have U:toL (mkS k)=k:=hb k (cF ..)
  simp only[U]
  refine⟨λe=> ?_,λe=> ?_⟩
  ·exact h1 (by rw[eq_of_beq e];exact cF ..)
  ·have e:=ne_of_beq_false e
   exact Zk0 (λk U=>hb k (aW _ U)) (λh=>h1 (aW _ h)) (λh=>R λI=>by
    rcases aM.1 I with I|I
    ·exact e I
    ·exact h I)
theorem Yfb{g:GH} {a:SV thy} {J:Array Value} (h:DenL E σ0 g [a] J.toList):∃u,J= #[u]/\Den E σ0 g a u:=by
 obtain⟨l⟩:=J;obtain⟨R,I⟩:=h
 match l,R,I with
 | [u],_,I=>exact⟨u,rfl,I 0 a u rfl rfl⟩
theorem Yj2{g:GH} {a b:SV thy} {J:Array Value} (h:DenL E σ0 g [a,b] J.toList):∃u v,J= #[u,v]/\Den E σ0 g a u/\Den E σ0 g b v:=by
 obtain⟨l⟩:=J;obtain⟨R,I⟩:=h
 match l,R,I with
 | [u,v],_,I=>exact⟨u,v,rfl,I 0 a u rfl rfl,I 1 b v rfl rfl⟩
theorem Z8z{g:GH} {l:List UInt8}:Den E σ0 g (.str ab (l.map cX)) (.string ⟨l.toArray⟩):= .str _ (by simp[toL])
end
section
open Go.RowKit
section
variable {Y:Thy} {E:Eng Y}
inductive Frz(E:Eng Y) (h:Hp Y):SV Y->SV Y->Prop
 |same {v:SV Y} (hn:nid 0 v=ac):Frz E h v v
 |ptr {b:Nat} {cs:List (SV Y)} {fz:Nat} {tg:Option Y.Th} {th:Y.Th} {x:Y.dom th} (hb:h b=ae (.raw cs fz tg)) (hd:E.dec th cs=ae x):Frz E h (.ptr b 0) (.pptr th x 0)
 |fn {f:Fn} {a a' b b':List (SV Y)} (ha:a.length=a'.length) (hb:b.length=b'.length) (h1:∀(j:Nat) x x',a[j]? =ae x->a'[j]? =ae x'->Frz E h x x') (h2:∀(j:Nat) x x',b[j]? =ae x->b'[j]? =ae x'->Frz E h x x'):Frz E h (.fn f a b) (.fn f a' b')
 |agg {a a':List (SV Y)} (ha:a.length=a'.length) (h1:∀(j:Nat) x x',a[j]? =ae x->a'[j]? =ae x'->Frz E h x x'):Frz E h (.agg a) (.agg a')
theorem Zsb{α:Type} {l I:List α} (h:l.length=I.length) {j:Nat} {x':α} (J:I[j]? =ae x'):∃x,l[j]? =ae x:=by
 have:j<I.length:=(aj.1 J).1;exact⟨l[j]'(by omega),ak _⟩
theorem Yfi(R:EngOk E) {B n:Nat} {σ:Pl} {h:Hp Y} {g:GH} {w:World} (hI:Inv E B σ h g w) (hn:n<=B) {v v':SV Y} (hr:Frz E h v v'):∀{u:Value},Den E σ g v u->Den E σ0 (allG g n w) v' u:=by
 have a0:=Zdr (n:=n) hI
 induction hr with
 |same hn=>exactλhd=>(Zx R (i:=0) (σ':=σ0) hd (λb p U=>by omega) hn).mono (.refl _) a0
 | @ptr b cs fz tg th x U b1=>
  intro u hd;cases hd;rename_i r z a2;obtain⟨r2,z2,a3,a4⟩:=hI.blk b _ U;rw[a2] at a3;cases a3;obtain⟨c,a5,a6⟩:=Wm (by intro es e;cases e) a4;obtain⟨hl,b2⟩:=R.dec th cs x b1;refine .pptr (o:=0) c (λj I=> ?_) λj b5 I=> ?_
  ·rw[R.enc] at I
   show(if n<=r then _ else _)=_;rw[jQ (bT hn (hI.base b r z a2).1)];exact(by simpa using a5 j (by show j<cs.length;omega))
  ·have b6:j<E.w th:=by rw[<-R.enc th x];exact(aj.1 I).1
   obtain⟨sv,a1⟩:∃sv,cs[j]? =ae sv:=⟨cs[j]'(by omega),ak _⟩;have h3:=b2 σ g j sv b5 (c j) a1 I (a6 j sv a1);exact(Zx R (i:=0) (σ':=σ0) h3 (λb p U=>by omega) (Zs (R.encI _ _ _) I)).mono (.refl _) a0
 |fn ha U h1 h2 b3 b4=>
  intro u hd;cases hd;rename_i va vb ca cb b7 a7 a9 b8 a8 b0;refine .fn ca cb (by omega) (λj I=>a7 j (by omega)) (λj sv I=> ?_) (by omega) (λj I=>a8 j (by omega)) λj sv I=> ?_
  ·obtain⟨x,J⟩:=Zsb ha I
   exact b3 j x sv J I (a9 j x J)
  ·obtain⟨x,J⟩:=Zsb U I
   exact b4 j x sv J I (b0 j x J)
 |agg ha h1 ih=>
  intro u hd;cases hd;rename_i arr c hs hc hd;refine .agg c (by omega) (λj I=>hc j (by omega)) λj sv I=> ?_;obtain⟨x,J⟩:=Zsb ha I;exact ih j x sv J I (hd j x J)
theorem Zda(hE:EngOk E) {call:Nat->List (SV Y)->Hp Y->Nat->(Res Y->Prop)->Prop} (a3:W8 E call) {f:Nat} {args:List (SV Y)} {v:SV Y} {K:Res Y->Prop} (hK:∀r,K r->Frz E (patch hp0 0 r) r.v v) (hk:call f args hp0 0 K):PureC E f args v:=by
 obtain⟨r,hr,hR,a0⟩:=a3 f args hp0 0 _ (λb U=>kc rfl U) hk;have a0:Vg E f args hp0 0 r:=by
  rcases a0 with a0|⟨p,hp,_⟩
  ·exact a0
  ·have a2:=hK r hr
   rw[hp] at a2;cases a2;rename_i hn;cases hn
 intro g w a5 hI hd;refine(a0 w.heap.size σ0 g w a5 hp0 (λ_ _=>rfl) hI (av _) (λ_ _ _=>rfl) hd).mono ?_;rintro en w' ⟨u,he,σ',g',R,a1,I⟩;have hm:∀b,b∉r.mods:=λb U=>hR b U rfl;have a4:=Zdr (n:=w.heap.size) a1;refine⟨u,he,allG g' w.heap.size w',⟨.refl _,λb p h=> .inl h,R.gle.trans a4,λq o v I=> ?_,λq es I=> ?_,λq hq _=>R.heap q hq (λb U=>kc U (hm b)),R.size,R.os,R.tape,R.output,(λb q z J h2=>by cases h2)⟩,Zhc a1,Yfi hE a1 (av _) (hK r hr) I⟩
 ·have I:(if w.heap.size<=q then w'.cell? ⟨q,o,ar⟩ else g'.cell q o)=ae v:=I
  split at I
  ·exact .inr (.inl ‹_›)
  ·rcases R.gcnew q o v I with J|J|⟨b,J,_⟩
   ·exact .inl J
   ·exact .inr (.inl J)
   ·exact kc J (hm b)
 ·have I:(if w.heap.size<=q then(match w'.heap[q]? with|some (.map es _)=>ae es|_=>ar) else g'.obj q)=ae es:=I
  split at I
  ·exact .inr ‹_›
  ·rcases R.gmnew q es I with J|J
   ·exact .inl J
   ·exact .inr J
noncomputable def sumO(pre:List (SV Y)->Option (SV Y)):Sum Y:=λargs _ _ k=>match pre args with|some v=>(match nidL 0 args with|true=>k (quiet [] v)|false=>False)|none=>False
theorem Zsc(J:EngOk E) {f:Nat} (R:FnGood E.P f) {pre:List (SV Y)->Option (SV Y)} (hp:∀args v,pre args=ae v->PureC E f args v):SumOk E f (sumO pre):=by
 refine⟨R,λargs h i k hD I=> ?_⟩;unfold sumO at I;split at I
 ·rename_i v a0
  split at I
  ·rename_i U
   exact⟨_,I,(hp args v a0).tri2 J U h i⟩
  ·exact I.elim
 ·exact I.elim
end
end
section
open Go.RowKit
section
variable {Y:Thy} {E:Eng Y}
end
end
section
open Go
def powV(n:Int):SV thy:= .agg [.fn (.func 122) [] [.pptr .ints n 0]]
theorem Z30(K:SV thy->Option (Blk thy)->Prop):Zk EL F0 (vc EL F0 2000) 77 [.int ac .i64 1] hp0 0 (λr=>K r.v (patch hp0 0 r 0))=K (.agg [.fn (.func 122) [] [.ptr 0 0]]) (ae (.raw [.int ac .i64 1] 0 ar)):=by kernel_rfl
theorem Z31(K:SV thy->Option (Blk thy)->Prop):Zk EL F0 (vc EL F0 2000) 77 [.int ac .i64 (-1)] hp0 0 (λr=>K r.v (patch hp0 0 r 0))=K (.agg [.fn (.func 122) [] [.ptr 0 0]]) (ae (.raw [.int ac .i64 (-1)] 0 ar)):=by kernel_rfl
theorem Z32{h:Hp thy} {n:Int} (R:h 0=ae (.raw [.int ac .i64 n] 0 ar)):Frz EL h (.agg [.fn (.func 122) [] [.ptr 0 0]]) (powV n):=by
 refine .agg rfl λj x x' I J=> ?_;cases j with
 |succ j=>simp at I
 |zero=>
  cases I;cases J;refine .fn rfl rfl (λj x x' I J=>by simp at I) λj x x' I J=> ?_;cases j with
  |succ j=>simp at I
  |zero=>
   cases I;cases J;exact .ptr R rfl
theorem Zpx{n:Int} (J:n=1\/n= -1):PureC EL 77 [.int ac .i64 n] (powV n):=by
 rcases J with rfl|rfl
 ·exact Zda Zmw (Ygg 2000) (K:=λr=>r.v= .agg [.fn (.func 122) [] [.ptr 0 0]]/\patch hp0 0 r 0=ae (.raw [.int ac .i64 1] 0 ar)) (λr I=>by rw[I.1];exact Z32 I.2) (by rw[Z30 λv b=>v=_/\b=_];exact⟨rfl,rfl⟩)
 ·exact Zda Zmw (Ygg 2000) (K:=λr=>r.v= .agg [.fn (.func 122) [] [.ptr 0 0]]/\patch hp0 0 r 0=ae (.raw [.int ac .i64 (-1)] 0 ar)) (λr I=>by rw[I.1];exact Z32 I.2) (by rw[Z31 λv b=>v=_/\b=_];exact⟨rfl,rfl⟩)
def Yc6:List (SV thy)->Option (SV thy)
 | [.int ac .i64 (.ofNat 1)]=>ae (powV 1)
 | [.int ac .i64 (.negSucc 0)]=>ae (powV (-1))
 |_=>ar
noncomputable def F1:Fns thy:=addS F0 77 (sumO Yc6)
theorem Yc7:FnsOk EL F1:=Zb Z3c (Zsc Zmw (Zc rfl) λargs v h=>by
 unfold Yc6 at h;split at h
 ·cases h;exact Zpx (.inl rfl)
 ·cases h;exact Zpx (.inr rfl)
 ·cases h)
theorem Ykt(n:Nat):W8 EL (Zk EL F1 (vc EL F1 n)):=Xr Zmw Yc7 λf N c=>(Zgp Zmw Yc7 n f N c).1
def Xt:List (Value×SV thy):= [(.int .i64 3,.agg [.fn (.func 75) [] []]),(.int .i64 4,.agg [.fn (.func 75) [] []]),(.int .i64 6,.agg [.fn (.func 75) [] []]),(.int .i64 7,.agg [.fn (.func 75) [] []]),
 (.int .i64 5,powV 1),(.int .i64 8,powV (-1)),(.int .i64 9,powV (-1)),(.int .i64 10,powV (-1)),(.int .i64 11,.agg [.fn (.func 76) [] []])]
def Wc:SV thy:= .pmap Xt
theorem Zy4(K:SV thy->Prop):Zk EL F1 (vc EL F1 2000) 39 [] hp0 0 (λr=>K r.v)=K Wc:=by kernel_rfl
theorem Zs6:PureC EL 39 [] Wc:=
 Zda Zmw (Ykt 2000) (K:=λr=>r.v=Wc) (λr I=>by rw[I];exact .same rfl) (by rw[Zy4 λv=>v=Wc])
theorem Zy5:PureC E 39 [] Wc:=PureC.like Ykk Ykj (λ_ _ h=>h) Zs6
def Zm3:List (SV thy)->Option (SV thy)
 | []=>ae Wc
 |_=>ar
end
section
open Go
theorem Ex.eta(x:Ex):bY x.op x.n x.d0 x.d1 x.d2 x.d3 x.l=x:=by cases x;rfl
theorem Tst.eta(x:Tst):lh x.attr x.low x.high=x:=rfl
theorem Cls.eta(x:Cls):fb x.name x.when_ x.pay=x:=rfl
def Ex.u(x:Ex):List Int:= [x.d0,x.d1,x.d2,x.d3]
mutual
def Ex.sz:Ex->Nat
 | .mk _ _ _ _ _ _ l=>Ex.szL l+1
def Ex.szL:List Ex->Nat
 | []=>0
 |x::r=>x.sz+Ex.szL r
end
theorem Ex.sz_eq(x:Ex):x.sz=Ex.szL x.l+1:=by cases x;simp only[Ex.sz,bx]
theorem Ex.sz_pos(x:Ex):0<x.sz:=by rw[Ex.sz_eq];omega
theorem Ex.szL_mem:∀{l:List Ex} {x:Ex},x∈l->x.sz<=Ex.szL l
 |y::r,x,h=>by
  rw[Ex.szL]
  rcases aM.1 h with rfl|h
  ·omega
  ·have:=Ex.szL_mem h;omega
theorem Ex.sz_mem{x y:Ex} (h:y∈x.l):y.sz<x.sz:=by
 have:=Ex.szL_mem h;rw[Ex.sz_eq x];omega
theorem Ex.szL_len:∀(l:List Ex),l.length<=Ex.szL l
 | []=>av _
 |x::r=>by
  have:=Ex.szL_len r
  have:=x.sz_pos
  rw[Ex.szL,aC];omega
mutual
def Z7:Ex->Nat
 | .mk _ _ _ _ _ _ l=>Zgr l+1
def Zgr:List Ex->Nat
 | []=>0
 |x::r=>max (Z7 x) (Zgr r)
end
theorem Yb3(x:Ex):Z7 x=Zgr x.l+1:=by cases x;simp only[Z7,bx]
mutual
theorem Zww:∀(x:Ex),Z7 x<=x.sz
 | .mk _ _ _ _ _ _ l=>by have:=Zwx l;simp only[Z7,Ex.sz];omega
theorem Zwx:∀(l:List Ex),Zgr l<=Ex.szL l
 | []=>av _
 |x::r=>by have:=Zww x;have:=Zwx r;simp only[Zgr,Ex.szL];omega
end
def cnt(u:List Int) (n:Int):Nat:=(u.filter λd=>d==n).length
def Zct(u:List Int):Bool:=decide (cnt u 0+cnt u 1+cnt u (-1)=4)&&decide (cnt u 1<=1)&&decide (cnt u (-1)<=1)
def Zkq(op:Int):Nat:=if op=1\/op=2 then 0 else if op=11 then 4 else 2
def Zz1(op:Int):Int:=if op=1 then 1099511627776 else if op=2 then 15 else 0
def Ze2(op n:Int) (u:List Int) (k:Nat):Bool:=
 decide (1<=op)&&decide (op<=11)&&decide (0<=n)&&decide (n<=Zz1 op)&&decide (k=Zkq op)&&Zct u&&(decide (op=1)||decide (u= [0,0,0,0]))
mutual
def Zn:Ex->Bool
 | .mk op n d0 d1 d2 d3 l=>Ze2 op n [d0,d1,d2,d3] l.length&&Ur l
def Ur:List Ex->Bool
 | []=>ac
 |x::r=>Zn x&&Ur r
end
theorem Zch(x:Ex):Zn x=(Ze2 x.op x.n x.u x.l.length&&Ur x.l):=by cases x;simp only[Zn,aJ,cd,Ex.u,bC,bD,bE,bF,bx]
theorem formL_iff:∀{l:List Ex},Ur l=ac↔∀x∈l,Zn x=ac
 | []=>by simp[Ur]
 |x::r=>by simp[Ur,formL_iff (l:=r)]
theorem Zz2{l:List Ex} {k:Nat} {y:Ex} (h:l[k]? =ae y):Ur (l.drop k)=(Zn y&&Ur (l.drop (k+1))):=by
 have I:=(aj.1 h).1;have:l.drop k=y::l.drop (k+1):=by rw[cw I];congr 1;exact(aj.1 h).2
 rw[this,Ur]
def Zt4(n:Int):List Int:=if n=5 then[0,0,0,1] else if n=6 then[0,0,1,0] else if n=7\/n=8 then[0,1,0,0] else if n=10\/n=11 then[1,0,0,0] else[0,0,0,0]
def cmb1(s a b:Int):Int:=af.wrap (a+af.wrap (s*b))
def in3(a:Int):Bool:= !(decide (a< -3)||decide (a>3))
def cmb(s:Int) (a b:List Int):Option (List Int):=
 if in3 (cmb1 s (a.getD 0 0) (b.getD 0 0))&&in3 (cmb1 s (a.getD 1 0) (b.getD 1 0))&&in3 (cmb1 s (a.getD 2 0) (b.getD 2 0))&&in3 (cmb1 s (a.getD 3 0) (b.getD 3 0)) then
  ae [cmb1 s (a.getD 0 0) (b.getD 0 0),cmb1 s (a.getD 1 0) (b.getD 1 0),cmb1 s (a.getD 2 0) (b.getD 2 0),cmb1 s (a.getD 3 0) (b.getD 3 0)] else ar
def Ub(op:Int) (I:List (List Int)):Option (List Int):=
 if op=5 then cmb 1 (I.getD 0 []) (I.getD 1 [])
 else if op=8\/op=9\/op=10 then cmb (-1) (I.getD 0 []) (I.getD 1 [])
 else if op=11 then(if I.getD 0 []=I.getD 1 []/\I.getD 2 []=I.getD 3 [] then ae (I.getD 2 []) else ar)
 else if I.getD 0 []=I.getD 1 [] then ae (I.getD 0 []) else ar
mutual
def Zau:Ex->Option (List Int)
 | .mk op n d0 d1 d2 d3 l=>if op=1 then ae [d0,d1,d2,d3] else if op=2 then ae (Zt4 n) else(Vh l).bind (Ub op)
def Vh:List Ex->Option (List (List Int))
 | []=>ae []
 |x::r=>(Zau x).bind λd=>(Vh r).bind λI=>ae (d::I)
end
theorem Yb4(x:Ex):Zau x=if x.op=1 then ae x.u else if x.op=2 then ae (Zt4 x.n) else(Vh x.l).bind (Ub x.op):=by
 cases x;rw[Zau];rfl
def Is4(d:List Int):Prop:=∃a b c e,d= [a,b,c,e]
theorem Yio(n:Int):Is4 (Zt4 n):=by
 unfold Zt4;split
 ·exact⟨_,_,_,_,rfl⟩
 split
 ·exact⟨_,_,_,_,rfl⟩
 split
 ·exact⟨_,_,_,_,rfl⟩
 split<;>exact⟨_,_,_,_,rfl⟩
theorem Ymm{s:Int} {a b d:List Int} (h:cmb s a b=ae d):Is4 d:=by
 unfold cmb at h;split at h
 ·cases h;exact⟨_,_,_,_,rfl⟩
 ·cases h
theorem unitL_cons{x:Ex} {r:List Ex} {R:List (List Int)}:Vh (x::r)=ae R↔∃d ds',Zau x=ae d/\Vh r=ae ds'/\R=d::ds':=by
 rw[Vh];simp only[ai,cq];constructor
 ·rintro⟨d,I,ds',J,rfl⟩;exact⟨d,ds',I,J,rfl⟩
 ·rintro⟨d,ds',I,J,rfl⟩;exact⟨d,I,ds',J,rfl⟩
theorem Zjv:∀{l:List Ex} {I:List (List Int)},Vh l=ae I->I.length=l.length
 | [],I,h=>by simp only[Vh] at h;cases h;rfl
 |x::r,I,h=>by
  obtain⟨d,R,_,J,rfl⟩:=unitL_cons.1 h
  simp[Zjv J]
theorem Yip{op:Int} {J:List (List Int)} {d:List Int} (h:Ub op J=ae d) (R:∀i,i<(if op=11 then 4 else 2)->Is4 (J.getD i [])):Is4 d:=by
 unfold Ub at h;split at h
 ·exact Ymm h
 ·split at h
  ·exact Ymm h
  ·split at h
   ·rename_i I
    split at h
    ·cases h
     exact R 2 (by rw[jQ I];omega)
    ·cases h
   ·rename_i I
    split at h
    ·cases h
     exact R 0 (by rw[jG I];omega)
    ·cases h
mutual
theorem Zt5:∀(x:Ex) {d:List Int},Zn x=ac->Zau x=ae d->Is4 d
 | .mk op n d0 d1 d2 d3 l,d,J,h=>by
  rw[Zau] at h
  split at h
  ·cases h;exact⟨_,_,_,_,rfl⟩
  ·split at h
   ·cases h;exact Yio n
   ·rename_i h1 h2
    obtain⟨U,R,h⟩:=ai.1 h
    refine Yip h λi hi=> ?_
    simp only[Zn,aq] at J
    have hl:=Z6x l J.2 R
    have a0:=Zjv R
    have I:l.length=Zkq op:=by
     have:=J.1
     simp only[Ze2,aq,fK] at this
     exact this.1.1.2
    unfold Zkq at I
    rw[jG (by omega)] at I
    have:i<U.length:=by rw[a0,I];exact hi
    rw[List.getD_eq_getElem?_getD,ak this]
    exact hl _ (List.getElem_mem this)
theorem Z6x:∀(l:List Ex) {I:List (List Int)},Ur l=ac->Vh l=ae I->∀d∈I,Is4 d
 | [],I,_,h=>by simp only[Vh] at h;cases h;simp
 |x::r,I,R,h=>by
  simp only[Ur,aq] at R
  obtain⟨d,a0,U,h2,rfl⟩:=unitL_cons.1 h
  intro e J
  rcases aM.1 J with rfl|J
  ·exact Zt5 x R.1 U
  ·exact Z6x r R.2 h2 e J
end
end
section
open Go
def exA(x:Ex):SV thy:= .agg (encF ab .exprs x)
noncomputable def dExp:DcL E (Ex×Unit):= .cons (dR .exprs) .nil
noncomputable def Yni:DcL E (Ex×Int×Unit):= .cons (dR .exprs) (.cons (dInt (E:=E) .i64) .nil)
theorem Z2{α:Type} {l:List α} {k:Nat} {y:α} (h:l[k]? =ae y):l.drop k=y::l.drop (k+1):=by
 have I:=(aj.1 h).1;rw[cw I];congr 1;exact(aj.1 h).2
theorem Zaa{α:Type} {l:List α} {k:Nat} (h:l.length<=k):l.drop k= []:=bJ h
noncomputable def Ynj(m:Nat):Sum thy:=sumP dExp (λx=>x.1.sz<m) λx=> .int ab .i64 (Z7 x.1:Int)
def Ynk:Fr thy->Hp thy->Nat->Ann thy:=λT h i=>{X:=DX,fr:=λx=> [(3,.int ab .i64 x.j),(7,T 7),(8,T 8),(9,.int ab .i64 x.k)],bl:=λx=> [],src:=λ_=> [],md:= [],ih:=i,M:=i+30,meas:=λx=>x.r}
noncomputable def Yku(m:Nat):Fns thy:=addL (addS F0 64 (Ynj m)) 64 3 Ynk E
theorem Z33(m:Nat) (x:Ex) (v:Int):Zk E F0 (vc E (Yku m) 400) 64 [exA x] hp0 0 (λr=>ret E (patch hp0 0 r) r.v (.int ab .i64 v))=(
∃(R:DX->Prop),(∃(J:DX),R J/\ac=ac/\(0=DX.j J/\(bx x=bx x/\(ab=ac->ab=ac))/\(↑(aa (bx x)):Int)=(↑(aa (bx x)):Int)/\0=(↑(DX.k J):Int)/\True)/\True)/\∀(J:DX),R J->(decide ((↑(DX.k J):Int)<(↑(aa (bx x)):Int))=ac->0<=(↑(DX.k J):Int)/\(↑(DX.k J):Int)+1<=(↑(aa (bx x)):Int)/\∀(I:Ex),(bx x)[ag (↑(DX.k J):Int)]? =ae I->Ex.sz (bY (aJ I) (cd I) (bC I) (bD I) (bE I) (bF I) (bx I))+1<=m/\∃(x':DX),R x'/\x'.2+1<=J.2/\ac=ac/\(mm2 ac (DX.j J) (↑(Z7 (bY (aJ I) (cd I) (bC I) (bD I) (bE I) (bF I) (bx I))):Int)=DX.j x'/\(bx x=bx x/\(ab=ac->ab=ac))/\(↑(aa (bx x)):Int)=(↑(aa (bx x)):Int)/\wr af ((↑(DX.k J):Int)+1)=(↑(DX.k x'):Int)/\True)/\True)/\(decide ((↑(DX.k J):Int)<(↑(aa (bx x)):Int))=ab->wr af (DX.j J+1)=v)):=by kernel_rfl
theorem Zy6{l:List Ex} {k:Nat} {y:Ex} (h:l[k]? =ae y):Zgr (l.drop k)=max (Z7 y) (Zgr (l.drop (k+1))):=by rw[Z2 h,Zgr]
theorem Z9x:∀(m:Nat) (x:Ex),x.sz<=m->m<=1000000000000->PureC E 64 [exA x] (.int ab .i64 (Z7 x:Int)):=by
 intro m
 induction m with
 |zero=>intro x h;have:=x.sz_pos;omega
 |succ m ih=>
  intro x hm hb;have R:FnsOk E (Yku (m+1)):=Zm E_ok (Zb F0_ok (Yn E_ok (Zc (f:=64) rfl) λx h=>ih x.1 (by omega) (by omega))) _ _ _;refine Za E_ok (Xr E_ok F0_ok λf N c=>(Zgp E_ok R 400 f N c).1) ?_;rw[Z33]
  simp only[Yk,Z9,Wp,Wq,Ws,hJ,ir,fR,gg,fK,fC,be,bB,bn,cj,aq,cH,cx,bi,iO,Yz,Yt,ne_eq,and_true,true_and,aR,aL,false_or,or_false,jR,ko,bV,iW,je,bv,Ex.eta];have a4:=x.sz_eq;have a1:=Ex.szL_len x.l;have a3:=Yb3 x;have a2:=Zww x
  refine⟨λy=>y.k<=x.l.length/\0<=y.j/\max y.j (Zgr (x.l.drop y.k):Int)=(Zgr x.l:Int)/\y.r=x.l.length-y.k,⟨⟨0,x.l.length,[],[],0,0,0,0⟩,⟨(by dsimp only;omega),(by dsimp only;omega),by dsimp only;rw[List.drop_zero];omega,rfl⟩,rfl,rfl⟩,?_⟩;rintro y ⟨hk,a0,J,hr⟩;refine aD (λU=> ?_) (λU=> ?_)
  ·refine⟨by omega,by omega,λz I=> ?_⟩
   have I:x.l[y.k]? =ae z:=I;have a5:=Ex.sz_mem (aI I);rw[Zy6 I] at J;rw[wr64 (n:=(y.k:Int)+1) (by omega) (by omega)];exact⟨by omega,⟨y.k+1,x.l.length-(y.k+1),[],[],0,0,0,max y.j (Z7 z:Int)⟩,⟨(by dsimp only;omega),(by dsimp only;omega),(by dsimp only;omega),rfl⟩,by show x.l.length-(y.k+1)+1<=y.r;omega,rfl,rfl⟩
  ·rw[Zaa (by omega)] at J
   simp only[Zgr] at J;rw[wr64 (by omega) (by omega)];omega
def dimA(a b c d:Int):SV thy:= .agg [.int ab .i64 a,.int ab .i64 b,.int ab .i64 c,.int ab .i64 d]
structure WX where
 k:Nat
 r:Nat
 m:List (Int×Int)
noncomputable def Ynl:Fr thy->Hp thy->Nat->Ann thy:=λT h i=>{X:=WX,fr:=λx=> [(3,T 3),(7,T 7),(8,.int ab .i64 x.k)],bl:=λx=> [(bOf (T 3),.map (X7 .i64 (Zl E fX ab) x.m))],src:=λ_=> [],md:= [bOf (T 3)],ih:=i,M:=i+30,meas:=λx=>x.r}
noncomputable def Ygw:Fns thy:=addL F0 111 3 Ynl E
noncomputable abbrev qBL1:=(Zl E fX (Zh (TypeDesc.int af)))
noncomputable abbrev qBL4:=(0:Int)
noncomputable abbrev qBL2(I:Int) (J:Int) (R:Int) (d0:Int):=(ah [I,J,R,d0] (0:Nat) qBL4=ah [I,J,R,d0] (0:Nat) qBL4/\ah [I,J,R,d0] (1:Nat) qBL4=ah [I,J,R,d0] (1:Nat) qBL4/\ah [I,J,R,d0] (2:Nat) qBL4=ah [I,J,R,d0] (2:Nat) qBL4/\ah [I,J,R,d0] (3:Nat) qBL4=ah [I,J,R,d0] (3:Nat) qBL4/\True)
noncomputable abbrev qBL3:=(Zl E fX ab)
noncomputable abbrev qBL5(I:WX):=(↑(WX.k I):Int)
noncomputable abbrev qBL6:=(1:Int)
theorem Z34(a b c d:Int) (v:Bool):Zk E Ygw (vc E Ygw 400) 111 [dimA a b c d] hp0 0 (λr=>ret E (patch hp0 0 r) r.v (.bool ab v))=(
 4=4/\∃(R:WX->Prop),(∃(x:WX),R x/\ac=ac/\(True/\(qBL2 a b c d)/\qBL4=(qBL5 x)/\True)/\([]=X7 af qBL3 (WX.m x)/\ac=ac)/\True)/\∀(x:WX),R x->(decide ((qBL5 x)<4)=ac->qBL4<=(qBL5 x)/\(qBL5 x)+qBL6<=(↑4:Int)/\∀(y:Int),[ah [a,b,c,d] 0 qBL4,ah [a,b,c,d] 1 qBL4,ah [a,b,c,d] 2 qBL4,ah [a,b,c,d] 3 qBL4][ag (qBL5 x)]? =ae y->∃(l:List (Int×Int)),X7 af qBL3 (WX.m x)=X7 af qBL1 l/\∀(I:Int),I=cz (Z5 l y) qBL4->∃(l:List (Int×Int)),X7 af qBL3 (WX.m x)=X7 af qBL1 l/\∃(x':WX),R x'/\x'.2+1<=x.2/\ac=ac/\(True/\(qBL2 a b c d)/\wr af ((qBL5 x)+qBL6)=(qBL5 x')/\True)/\(X7 af qBL1 (putS l y (wr af (I+qBL6)))=X7 af qBL3 (WX.m x')/\nidE 0 (X7 af qBL1 (putS l y (wr af (I+qBL6))))=ac)/\True)/\(decide ((qBL5 x)<4)=ab->∃(l:List (Int×Int)),X7 af qBL3 (WX.m x)=X7 af qBL1 l/\∀(y:Int),y=cz (Z5 l qBL4) qBL4->∃(l:List (Int×Int)),X7 af qBL3 (WX.m x)=X7 af qBL1 l/\∀(I:Int),I=cz (Z5 l qBL6) qBL4->∃(l:List (Int×Int)),X7 af qBL3 (WX.m x)=X7 af qBL1 l/\∀(J:Int),J=cz (Z5 l (-1:Int)) qBL4->((wr af (wr af (y+I)+J)==4)=ac->∃(l:List (Int×Int)),X7 af qBL3 (WX.m x)=X7 af qBL1 l/\∀(y:Int),y=cz (Z5 l qBL6) qBL4->(decide (y<=qBL6)=ac->∃(l:List (Int×Int)),X7 af qBL3 (WX.m x)=X7 af qBL1 l/\∀(y:Int),y=cz (Z5 l (-1:Int)) qBL4->(decide (y<=qBL6)=ac->ac=v)/\(decide (y<=qBL6)=ab->ab=v))/\(decide (y<=qBL6)=ab->ab=v))/\((wr af (wr af (y+I)+J)==4)=ab->ab=v))):=by kernel_rfl
theorem Z9y{u:List Int} {k:Nat} {y n:Int} (h:u[k]? =ae y):cnt (u.take (k+1)) n=cnt (u.take k) n+(if y=n then 1 else 0):=by
 have I:=(aj.1 h).1;have:u.take (k+1)=u.take k++ [y]:=by rw[List.take_succ_eq_append_getElem I];congr 2;exact(aj.1 h).2
 unfold cnt;rw[this,List.filter_append,List.length_append];by_cases e:y=n<;>simp[e]
theorem Zv2(u:List Int) (n:Int):cnt u n<=u.length:=List.length_filter_le _ _
theorem Z9z:FnsOk E Ygw:=Zm E_ok F0_ok _ _ _
theorem Z35(a b c d:Int):PureC E 111 [dimA a b c d] (.bool ab (Zct [a,b,c,d])):=by
 refine Za E_ok (Zd E_ok Z9z 400) ?_;rw[Z34];delta qBL1 qBL4 qBL2 qBL3 qBL5 qBL6;simp only[Yk,Z9,Wp,Wq,Ws,hJ,ir,fR,gg,fK,fC,be,bB,bn,cj,aq,cH,cx,bi,iO,Yz,Yt,ne_eq,and_true,true_and,aR,aL,false_or,or_false,jR,ko,bV,iW,je,bv]
 have hc:∀k n,k<=4->cnt ([a,b,c,d].take k) n<=4:=λk n hk=>bT (Zv2 _ _) (by simp;omega);refine⟨λx=>x.k<=4/\(∀n,(Z5 x.m n).getD 0=(cnt ([a,b,c,d].take x.k) n:Int))/\x.r=4-x.k,⟨⟨0,4,[]⟩,⟨(by dsimp only;omega),λn=>rfl,rfl⟩,rfl,rfl⟩,?_⟩;rintro x ⟨hk,I,hr⟩;refine aD (λhq=>⟨by omega,by omega,λy R=>⟨x.m,rfl,λJ U=>⟨x.m,rfl,?_⟩⟩⟩) (λhq=> ?_)
 ·have R: [a,b,c,d][x.k]? =ae y:=R
  have:=hc x.k y (by omega);rw[I y] at U;rw[wr64 (n:=(x.k:Int)+1) (by omega) (by omega),wr64 (n:=J+1) (by omega) (by omega)];refine⟨⟨x.k+1,3-x.k,putS x.m y (J+1)⟩,⟨by show x.k+1<=4;omega,λn=> ?_,by show 3-x.k=4-(x.k+1);omega⟩,by show 3-x.k+1<=x.r;omega,rfl,rfl,Zk9 E_ok _⟩;show(Z5 (putS x.m y (J+1)) n).getD 0=(cnt ([a,b,c,d].take (x.k+1)) n:Int);rw[Zix,Z9y R];by_cases e:y=n
  ·subst e;rw[jQ rfl,jQ rfl,U];simp
  ·rw[jG e,jG e,I n];simp
 ·have a0:x.k=4:=by omega
  have I:∀n,(Z5 x.m n).getD 0=(cnt [a,b,c,d] n:Int):=λn=>by rw[I n,a0];rfl
  have h0:=Zv2 [a,b,c,d] 0;have U:=Zv2 [a,b,c,d] 1;have h2:=Zv2 [a,b,c,d] (-1);simp only[aC,List.length_nil] at h0 U h2;refine⟨x.m,rfl,λy R=>⟨x.m,rfl,λJ a1=>⟨x.m,rfl,λy2 a2=> ?_⟩⟩⟩;rw[I] at R a1 a2;rw[wr64 (n:=y+J) (by omega) (by omega),wr64 (n:=y+J+y2) (by omega) (by omega)];unfold Zct;refine aD (λh3=>⟨x.m,rfl,λz hz=> ?_⟩) (λh3=> ?_)
  ·rw[I] at hz
   refine aD (λh4=>⟨x.m,rfl,λz2 a3=> ?_⟩) (λh4=> ?_)
   ·rw[I] at a3
    refine aD (λh5=> ?_) (λh5=> ?_)
    ·simp;omega
    ·symm;simp only[bi,fC];omega
   ·symm;simp only[bi,fC];omega
  ·symm;simp only[bi,fC];omega
end
section
open Go
noncomputable def dDim:DcL E (List Int×Unit):=dA1 (dR .dims)
noncomputable def Ylr:Sum thy:=sumP dDim (λ_=>True) λx=> .bool ab (Zct [x.1.getD 0 0,x.1.getD 1 0,x.1.getD 2 0,x.1.getD 3 0])
theorem Yay:SumOk E 111 Ylr:=Yn E_ok (Zc (f:=111) rfl) λx _=>Z35 _ _ _ _
noncomputable def Ynw(m:Nat):Sum thy:=sumP dExp (λx=>x.1.sz<m) λx=> .bool ab (Zn x.1)
noncomputable def Ynx:Dc E (List Ex):=(Zfi (E:=E) im:Dc E (List (thy.dom im)))
noncomputable def Yny(m:Nat):Sum thy:=sumP (dA2 Ynx (dFun 113)) (λx=>Ex.szL x.1<m) λx=> .bool ab (!Ur x.1)
def Aidx:Fr thy->Hp thy->Nat->Ann thy:=λT h i=>{X:=DX,fr:=λx=> [(0,T 0),(1,T 1),(7,T 7),(8,.int ab .i64 x.k)],bl:=λx=> [],src:=λ_=> [],md:= [],ih:=i,M:=i+30,meas:=λx=>x.r}
noncomputable def Yht(m:Nat):Fns thy:=addL (addS F0 67 (Ynw m)) 139 2 Aidx E
theorem Z5r(m:Nat) (l:List Ex) (v:Bool):Zk E (Yht m) (vc E (Yht m) 400) 112 [.psl im l ab,.fn (.func 113) [] []] hp0 0 (λr=>ret E (patch hp0 0 r) r.v (.bool ab v))=(
∃(R:DX->Prop),(∃(x:DX),R x/\ac=ac/\((l=l/\(ab=ac->ab=ac))/\(cE (113:FuncId)=cE (113:FuncId)/\True/\True)/\(↑(aa l):Int)=(↑(aa l):Int)/\0=(↑(DX.k x):Int)/\True)/\True)/\∀(x:DX),R x->(decide ((↑(DX.k x):Int)<(↑(aa l):Int))=ac->0<=(↑(DX.k x):Int)/\(↑(DX.k x):Int)+1<=(↑(aa l):Int)/\∀(I:Ex),l[ag (↑(DX.k x):Int)]? =ae I->Ex.sz (bY (aJ I) (cd I) (bC I) (bD I) (bE I) (bF I) (bx I))+1<=m/\((!Zn (bY (aJ I) (cd I) (bC I) (bD I) (bE I) (bF I) (bx I)))=ac->(decide ((↑(DX.k x):Int)>=0)=ac->ac=v)/\(decide ((↑(DX.k x):Int)>=0)=ab->ab=v))/\((!Zn (bY (aJ I) (cd I) (bC I) (bD I) (bE I) (bF I) (bx I)))=ab->∃(x':DX),R x'/\x'.2+1<=x.2/\ac=ac/\((l=l/\(ab=ac->ab=ac))/\(cE (113:FuncId)=cE (113:FuncId)/\True/\True)/\(↑(aa l):Int)=(↑(aa l):Int)/\wr af ((↑(DX.k x):Int)+1)=(↑(DX.k x'):Int)/\True)/\True))/\(decide ((↑(DX.k x):Int)<(↑(aa l):Int))=ab->ab=v)):=by kernel_rfl
theorem Z5s(m:Nat) (hm:m<=1000000000000) (ih:∀x:Ex,x.sz<m->PureC E 67 [exA x] (.bool ab (Zn x))) (l:List Ex) (hl:Ex.szL l<m):PureC E 112 [.psl im l ab,.fn (.func 113) [] []] (.bool ab (!Ur l)):=by
 have U:FnsOk E (Yht m):=Zm E_ok (Zb F0_ok (Yn E_ok (Zc (f:=67) rfl) λx h=>ih x.1 h)) _ _ _;refine Za E_ok (Zd E_ok U 400) ?_;rw[Z5r]
 simp only[Yk,Z9,Wp,Wq,Ws,hJ,ir,fR,gg,fK,fC,be,bB,bn,cj,aq,cH,cx,bi,iO,Yz,Yt,ne_eq,and_true,true_and,aR,aL,false_or,or_false,jR,ko,bV,iW,je,bv,Ex.eta];have a0:=Ex.szL_len l
 refine⟨λx=>x.k<=l.length/\Ur (l.drop x.k)=Ur l/\x.r=l.length-x.k,⟨⟨0,l.length,[],[],0,0,0,0⟩,⟨(by dsimp only;omega),rfl,rfl⟩,rfl⟩,?_⟩;rintro x ⟨hk,I,hr⟩;refine aD (λhq=>⟨by omega,by omega,λy J=> ?_⟩) (λhq=> ?_)
 ·have J:l[x.k]? =ae y:=J
  rw[Zz2 J] at I;have a1:=Ex.szL_mem (aI J);refine⟨by omega,λR=> ?_,λR=> ?_⟩
  ·rw[R] at I
   rw[<-I];exact aD (λ_=>rfl) (λh=>by omega)
  ·rw[R,cx] at I
   exact⟨⟨x.k+1,l.length-(x.k+1),[],[],0,0,0,0⟩,⟨(by dsimp only;omega),I,rfl⟩,by show l.length-(x.k+1)+1<=x.r;omega,wr64 (by omega) (by omega)⟩
 ·rw[Zaa (by omega)] at I
  rw[<-I];rfl
noncomputable def Yhu(m:Nat):Fns thy:=addS (addS F0 112 (Yny m)) 111 Ylr
abbrev qBM4:=0
abbrev qBM7(I:Ex):=(!(bC I==qBM4&&(bD I==qBM4&&(bE I==qBM4&&(bF I==qBM4&&ac)))))
abbrev qBM2(I:Ex):=(!Zct [ah [bC I,bD I,bE I,bF I] 0 qBM4,ah [bC I,bD I,bE I,bF I] 1 qBM4,ah [bC I,bD I,bE I,bF I] 2 qBM4,ah [bC I,bD I,bE I,bF I] 3 qBM4])
abbrev qBM1(I:Ex) (J:Bool) (R:Nat):=((qBM2 I)=ab->((aJ I !=1)=ac->((qBM7 I)=ac->ab=J)/\((qBM7 I)=ab->Ex.szL (bx I)+1<=R/\(!!Ur (bx I))=J))/\((aJ I !=1)=ab->Ex.szL (bx I)+1<=R/\(!!Ur (bx I))=J))
abbrev qBM3(I:Ex):=(↑(aa (bx I)):Int)
abbrev qBM5(I:Ex) (J:Bool->Prop):=((decide (aJ I<1)=ac->J ac)/\(decide (aJ I<1)=ab->(decide (aJ I>11)=ac->J ac)/\(decide (aJ I>11)=ab->J ab)))
abbrev qBM6(I:Ex) (J:Bool):=(decide (cd I<qBM4)=ac->ab=J)
theorem Z5t(m:Nat) (x:Ex) (v:Bool):Zk E (Yhu m) (vc E (Yhu m) 400) 67 [exA x] hp0 0 (λr=>ret E (patch hp0 0 r) r.v (.bool ab v))=(
 ((aJ x==1)=ac->(qBM6 x v)/\(decide (cd x<qBM4)=ab->(decide (cd x>1099511627776)=ac->ab=v)/\(decide (cd x>1099511627776)=ab->(((qBM3 x) !=qBM4)=ac->ab=v)/\(((qBM3 x) !=qBM4)=ab->True/\((qBM2 x)=ac->ab=v)/\(qBM1 x v m)))))/\((aJ x==1)=ab->((aJ x==2)=ac->(qBM6 x v)/\(decide (cd x<qBM4)=ab->(decide (cd x>15)=ac->ab=v)/\(decide (cd x>15)=ab->(((qBM3 x) !=qBM4)=ac->ab=v)/\(((qBM3 x) !=qBM4)=ab->True/\((qBM2 x)=ac->ab=v)/\(qBM1 x v m)))))/\((aJ x==2)=ab->((aJ x==11)=ac->∃(Q:Bool->Prop),(qBM5 x Q)/\(Q ac->ab=v)/\(Q ab->(qBM6 x v)/\(decide (cd x<qBM4)=ab->(decide (cd x>qBM4)=ac->ab=v)/\(decide (cd x>qBM4)=ab->(((qBM3 x) !=4)=ac->ab=v)/\(((qBM3 x) !=4)=ab->True/\((qBM2 x)=ac->ab=v)/\(qBM1 x v m))))))/\((aJ x==11)=ab->∃(Q:Bool->Prop),(qBM5 x Q)/\(Q ac->ab=v)/\(Q ab->(qBM6 x v)/\(decide (cd x<qBM4)=ab->(decide (cd x>qBM4)=ac->ab=v)/\(decide (cd x>qBM4)=ab->(((qBM3 x) !=2)=ac->ab=v)/\(((qBM3 x) !=2)=ab->True/\((qBM2 x)=ac->ab=v)/\(qBM1 x v m))))))))):=by kernel_rfl
theorem Zev(x:Ex):Zn x=ac↔(1<=x.op/\x.op<=11/\0<=x.n/\(x.op=1->x.n<=1099511627776)/\(x.op=2->x.n<=15)/\(x.op≠1->x.op≠2->x.n<=0)/\(x.op=1\/x.op=2->x.l.length=0)/\(x.op=11->x.l.length=4)/\(x.op≠1->x.op≠2->x.op≠11->x.l.length=2)/\
 (x.op=1\/(x.d0=0/\x.d1=0/\x.d2=0/\x.d3=0)))/\Zct [x.d0,x.d1,x.d2,x.d3]=ac/\Ur x.l=true:=by
 rw[Zch]
 simp only[Ze2,aq,be,fK,Ex.u,List.cons.injEq,and_true]
 unfold Zz1 Zkq
 constructor
 ·rintro⟨⟨⟨⟨⟨⟨⟨R,U⟩,h3⟩,I⟩,J⟩,h6⟩,h7⟩,h8⟩
  refine⟨⟨R,U,h3,λh=> ?_,λh=> ?_,λh h'=> ?_,λh=> ?_,λh=> ?_,λh h' a0=> ?_,h7⟩,h6,h8⟩
  ·rw[jQ h] at I;exact I
  ·rw[jG (by omega),jQ h] at I;exact I
  ·rw[jG h,jG h'] at I;exact I
  ·rw[jQ h] at J;exact J
  ·rw[jG (by omega),jQ h] at J;exact J
  ·rw[jG (by omega),jG a0] at J;exact J
 ·rintro⟨⟨R,U,h3,I,J,h6,h7,h8,h9,a1⟩,a2,a3⟩
  refine⟨⟨⟨⟨⟨⟨⟨R,U⟩,h3⟩,?_⟩,?_⟩,a2⟩,a1⟩,a3⟩
  ·split
   ·exact I ‹_›
   ·split
    ·exact J ‹_›
    ·exact h6 ‹_› ‹_›
  ·split
   ·exact h7 ‹_›
   ·split
    ·exact h8 ‹_›
    ·exact h9 (by omega) (by omega) ‹_›
theorem Yaz{x:Ex} (h:((1<=x.op/\x.op<=11/\0<=x.n/\(x.op=1->x.n<=1099511627776)/\(x.op=2->x.n<=15)/\(x.op≠1->x.op≠2->x.n<=0)/\(x.op=1\/x.op=2->x.l.length=0)/\(x.op=11->x.l.length=4)/\(x.op≠1->x.op≠2->x.op≠11->x.l.length=2)/\
 (x.op=1\/(x.d0=0/\x.d1=0/\x.d2=0/\x.d3=0)))->Zct [x.d0,x.d1,x.d2,x.d3]=ac->False)):ab=Zn x:=by
 symm;rw[ip];intro I
 have:=(Zev x).1 I
 exact h this.1 this.2.1
theorem Z5u{x:Ex} {b:Bool} (J:b=Ur x.l) (h:(1<=x.op/\x.op<=11/\0<=x.n/\(x.op=1->x.n<=1099511627776)/\(x.op=2->x.n<=15)/\(x.op≠1->x.op≠2->x.n<=0)/\(x.op=1\/x.op=2->x.l.length=0)/\(x.op=11->x.l.length=4)/\(x.op≠1->x.op≠2->x.op≠11->x.l.length=2)/\
 (x.op=1\/(x.d0=0/\x.d1=0/\x.d2=0/\x.d3=0)))) (R:Zct [x.d0,x.d1,x.d2,x.d3]=ac):b=Zn x:=by
 rw[kn,Zev,J]
 exact⟨λI=>⟨h,R,I⟩,λI=>I.2.2⟩
theorem Ya0:∀(m:Nat),m<=1000000000000->∀(x:Ex),x.sz<m->PureC E 67 [exA x] (.bool ab (Zn x)):=by
 intro m
 induction m with
 |zero=>intro _ x h;omega
 |succ m J=>
  intro R x U;have I:FnsOk E (Yhu m):=Zb (Zb F0_ok (Yn E_ok (Zc (f:=112) rfl) λx h=>Z5s m (by omega) (J (by omega)) x.1 h)) Yay;refine Za E_ok (Zd E_ok I 400) ?_;rw[Z5t];delta qBM4 qBM7 qBM2 qBM1 qBM3 qBM5 qBM6;have a0:=x.sz_eq
  repeat' (first|exact Z1w _|apply Ycv|apply JR_some|apply JR_and|apply Ycw|(refine aD ?_ ?_)|(intro h))
  all_goals(simp only[Yk,Z9,Wp,Wq,Ws,hJ,ir,fR,gg,fK,fC,be,bB,bn,cj,aq,cH,cx,bi,iO,Yz,Yt,ne_eq,and_true,true_and,aR,aL,false_or,or_false,jR,ko,bV,iW,je,bv,List.getD_cons_zero,List.getD_cons_succ] at*)
  all_goals first|trivial|omega|(exact Yaz (λh hw=>by first|omega|(simp_all;done)))|(exact Z5u (by simp) (by omega) (by simp_all))
def in1(d:Int):Bool:=decide (-1<=d)&&decide (d<=1)
theorem Znf(x:Int) (r:List Int) (n:Int):cnt (x::r) n=(if x=n then 1 else 0)+cnt r n:=by
 unfold cnt;by_cases h:x=n<;>simp[h,Nat.add_comm]
theorem Z5v:∀u:List Int,cnt u 0+cnt u 1+cnt u (-1)<=u.length/\(cnt u 0+cnt u 1+cnt u (-1)=u.length↔u.all in1=ac)
 | []=>by simp[cnt]
 |x::r=>by
  obtain⟨h1,U⟩:=Z5v r
  rw[Znf,Znf,Znf,iV,aC,aq,<-U]
  unfold in1
  rw[aq,fK,fK]
  by_cases I:x=0
  ·subst I;simp;omega
  ·by_cases J:x=1
   ·subst J;simp;omega
   ·by_cases R:x= -1
    ·subst R;simp;omega
    ·rw[jG I,jG J,jG R]
     omega
theorem Zqg(a b c d:Int):Zct [a,b,c,d]=([a,b,c,d].all in1&&(decide (cnt [a,b,c,d] 1<=1)&&decide (cnt [a,b,c,d] (-1)<=1))):=by
 have h:=(Z5v [a,b,c,d]).2;have: [a,b,c,d].length=4:=rfl;rw[this] at h;unfold Zct;rw[kn,aq,aq,aq,aq,fK,h,and_assoc]
end
end Go.Proofs.YtbkgpcknakidkaaGreatDoor
/-
  DERIVED: THE SHELF's CONTRACTS AT THIS DUMP, IN PLAIN WORDS (tools/lay-plain.mjs out of 'YtbkgpcknakidkaaGreatDoorTvLay0.lean', which tools/lay-shelf.mjs wrote): THE SAME DECLARATIONS UNDER THE SAME NAMES: 'import', 'namespace', 'open', 'def', 'theorem' AND NOTHING ELSE: no command of the shelf's: FOR A HAND-IN. Each laying: the table of numbers ('.._ren') and one theorem, a field a fact of the dump's own or the kernel's comparison; each contract: ONE APPLICATION.
-/
namespace Go.Proofs
open Go.Shelf
def Tryz.lays160_ren:ga:=⟨λ|160=>110|232=>133|231=>132|227=>134|234=>136|233=>135|236=>138|235=>137|228=>150|271=>153|151=>152|197=>151|120=>158|152=>157|260=>156|137=>55|119=>164|224=>165|225=>166|217=>95|266=>128|n=>n,λ|9=>9|4=>4|3=>3|5=>5|117=>213|116=>212|0=>0|124=>216|21=>21|105=>241|46=>203|119=>137|139=>255|138=>254|n=>n,λ|3=>5|4=>6|n=>n⟩
theorem Tryz.lays160:kJ Tryz.prog Tryz.lays160_ren:={
  mixed:=by kernel_rfl
  f119:=Tryz.func164.trans (congrArg ae (by kernel_rfl))
  f120:=Tryz.func158.trans (congrArg ae (by kernel_rfl))
  f137:=Tryz.func55.trans (congrArg ae (by kernel_rfl))
  f151:=Tryz.func152.trans (congrArg ae (by kernel_rfl))
  f152:=Tryz.func157.trans (congrArg ae (by kernel_rfl))
  f160:=Tryz.func110.trans (congrArg ae (by kernel_rfl))
  f197:=Tryz.func151.trans (congrArg ae (by kernel_rfl))
  f217:=Tryz.func95.trans (congrArg ae (by kernel_rfl))
  f224:=Tryz.func165.trans (congrArg ae (by kernel_rfl))
  f225:=Tryz.func166.trans (congrArg ae (by kernel_rfl))
  f227:=Tryz.func134.trans (congrArg ae (by kernel_rfl))
  f228:=Tryz.func150.trans (congrArg ae (by kernel_rfl))
  f231:=Tryz.func132.trans (congrArg ae (by kernel_rfl))
  f232:=Tryz.func133.trans (congrArg ae (by kernel_rfl))
  f233:=Tryz.func135.trans (congrArg ae (by kernel_rfl))
  f234:=Tryz.func136.trans (congrArg ae (by kernel_rfl))
  f235:=Tryz.func137.trans (congrArg ae (by kernel_rfl))
  f236:=Tryz.func138.trans (congrArg ae (by kernel_rfl))
  f260:=Tryz.func156.trans (congrArg ae (by kernel_rfl))
  f266:=Tryz.func128.trans (congrArg ae (by kernel_rfl))
  f271:=Tryz.func153.trans (congrArg ae (by kernel_rfl))
  t0:=Tryz.underlying0
  a0:=Tryz.isAgg0
  z0:=Tryz.sizeOf0
  v0:=Tryz.zeroValue0
  t3:=Tryz.underlying3
  a3:=Tryz.isAgg3
  z3:=Tryz.sizeOf3
  v3:=Tryz.zeroValue3
  t4:=Tryz.underlying4
  a4:=Tryz.isAgg4
  z4:=Tryz.sizeOf4
  v4:=Tryz.zeroValue4
  t5:=Tryz.underlying5
  a5:=Tryz.isAgg5
  z5:=Tryz.sizeOf5
  v5:=Tryz.zeroValue5
  t9:=Tryz.underlying9
  a9:=Tryz.isAgg9
  z9:=Tryz.sizeOf9
  v9:=Tryz.zeroValue9
  t21:=Tryz.underlying21
  a21:=Tryz.isAgg21
  z21:=Tryz.sizeOf21
  v21:=Tryz.zeroValue21
  t46:=Tryz.underlying203
  a46:=Tryz.isAgg203
  z46:=Tryz.sizeOf203
  v46:=Tryz.zeroValue203
  t105:=Tryz.underlying241
  a105:=Tryz.isAgg241
  z105:=Tryz.sizeOf241
  v105:=Tryz.zeroValue241
  t116:=Tryz.underlying212
  a116:=Tryz.isAgg212
  z116:=Tryz.sizeOf212
  t117:=Tryz.underlying213
  a117:=Tryz.isAgg213
  z117:=Tryz.sizeOf213
  v117:=Tryz.zeroValue213
  t119:=Tryz.underlying137
  a119:=Tryz.isAgg137
  z119:=Tryz.sizeOf137
  t124:=Tryz.underlying216
  a124:=Tryz.isAgg216
  z124:=Tryz.sizeOf216
  v124:=Tryz.zeroValue216
  t138:=Tryz.underlying254
  a138:=Tryz.isAgg254
  z138:=Tryz.sizeOf254
  v138:=Tryz.zeroValue254
  t139:=Tryz.underlying255
  a139:=Tryz.isAgg255
  z139:=Tryz.sizeOf255
  v139:=Tryz.zeroValue255
  g3:=by kernel_rfl
  g4:=by kernel_rfl}
def Tryz.lays156_ren:ga:=⟨λ|156=>38|165=>72|166=>73|169=>74|240=>120|241=>121|276=>144|277=>145|n=>n,λ|31=>86|9=>9|3=>3|4=>4|0=>0|20=>20|72=>145|76=>148|70=>142|37=>143|75=>147|127=>201|164=>231|5=>5|80=>80|n=>n,λ|n=>n⟩
theorem Tryz.lays156:kK Tryz.prog Tryz.lays156_ren:={
  mixed:=by kernel_rfl
  f156:=Tryz.func38.trans (congrArg ae (by kernel_rfl))
  f165:=Tryz.func72.trans (congrArg ae (by kernel_rfl))
  f166:=Tryz.func73.trans (congrArg ae (by kernel_rfl))
  f169:=Tryz.func74.trans (congrArg ae (by kernel_rfl))
  f240:=Tryz.func120.trans (congrArg ae (by kernel_rfl))
  f241:=Tryz.func121.trans (congrArg ae (by kernel_rfl))
  f276:=Tryz.func144.trans (congrArg ae (by kernel_rfl))
  f277:=Tryz.func145.trans (congrArg ae (by kernel_rfl))
  t0:=Tryz.underlying0
  a0:=Tryz.isAgg0
  z0:=Tryz.sizeOf0
  v0:=Tryz.zeroValue0
  t3:=Tryz.underlying3
  a3:=Tryz.isAgg3
  z3:=Tryz.sizeOf3
  v3:=Tryz.zeroValue3
  t4:=Tryz.underlying4
  a4:=Tryz.isAgg4
  z4:=Tryz.sizeOf4
  v4:=Tryz.zeroValue4
  t9:=Tryz.underlying9
  a9:=Tryz.isAgg9
  z9:=Tryz.sizeOf9
  v9:=Tryz.zeroValue9
  t20:=Tryz.underlying20
  a20:=Tryz.isAgg20
  z20:=Tryz.sizeOf20
  v20:=Tryz.zeroValue20
  t31:=Tryz.underlying86
  a31:=Tryz.isAgg86
  z31:=Tryz.sizeOf86
  v31:=Tryz.zeroValue86
  t37:=Tryz.underlying143
  a37:=Tryz.isAgg143
  z37:=Tryz.sizeOf143
  v37:=Tryz.zeroValue143
  t70:=Tryz.underlying142
  a70:=Tryz.isAgg142
  z70:=Tryz.sizeOf142
  v70:=Tryz.zeroValue142
  t72:=Tryz.underlying145
  a72:=Tryz.isAgg145
  z72:=Tryz.sizeOf145
  v72:=Tryz.zeroValue145
  t75:=Tryz.underlying147
  a75:=Tryz.isAgg147
  z75:=Tryz.sizeOf147
  v75:=Tryz.zeroValue147
  t76:=Tryz.underlying148
  a76:=Tryz.isAgg148
  z76:=Tryz.sizeOf148
  v76:=Tryz.zeroValue148
  t127:=Tryz.underlying201
  a127:=Tryz.isAgg201
  z127:=Tryz.sizeOf201
  v127:=Tryz.zeroValue201
  t164:=Tryz.underlying231
  a164:=Tryz.isAgg231
  z164:=Tryz.sizeOf231
  v164:=Tryz.zeroValue231}
def Tryz.lays129_ren:ga:=⟨λ|129=>168|n=>n,λ|53=>236|3=>3|4=>4|46=>203|5=>5|9=>9|n=>n,λ|n=>n⟩
theorem Tryz.lays129:kL Tryz.prog Tryz.lays129_ren:={
  mixed:=by kernel_rfl
  f129:=Tryz.func168.trans (congrArg ae (by kernel_rfl))
  t3:=Tryz.underlying3
  a3:=Tryz.isAgg3
  z3:=Tryz.sizeOf3
  v3:=Tryz.zeroValue3
  t4:=Tryz.underlying4
  a4:=Tryz.isAgg4
  z4:=Tryz.sizeOf4
  v4:=Tryz.zeroValue4
  t5:=Tryz.underlying5
  a5:=Tryz.isAgg5
  z5:=Tryz.sizeOf5
  v5:=Tryz.zeroValue5
  t9:=Tryz.underlying9
  a9:=Tryz.isAgg9
  z9:=Tryz.sizeOf9
  v9:=Tryz.zeroValue9
  t46:=Tryz.underlying203
  a46:=Tryz.isAgg203
  z46:=Tryz.sizeOf203
  v46:=Tryz.zeroValue203
  t53:=Tryz.underlying236
  a53:=Tryz.isAgg236
  z53:=Tryz.sizeOf236
  v53:=Tryz.zeroValue236}
def Tryz.lays317_ren:ga:=⟨λ|317=>167|n=>n,λ|3=>3|46=>203|n=>n,λ|n=>n⟩
theorem Tryz.lays317:kM Tryz.prog Tryz.lays317_ren:={
  mixed:=by kernel_rfl
  f317:=Tryz.func167.trans (congrArg ae (by kernel_rfl))
  t3:=Tryz.underlying3
  a3:=Tryz.isAgg3
  z3:=Tryz.sizeOf3
  v3:=Tryz.zeroValue3
  t46:=Tryz.underlying203
  a46:=Tryz.isAgg203
  z46:=Tryz.sizeOf203
  v46:=Tryz.zeroValue203}
def Tryz.lays283_ren:ga:=⟨λ|283=>159|n=>n,λ|3=>3|9=>9|4=>4|n=>n,λ|n=>n⟩
theorem Tryz.lays283:kN Tryz.prog Tryz.lays283_ren:={
  mixed:=by kernel_rfl
  f283:=Tryz.func159.trans (congrArg ae (by kernel_rfl))
  t3:=Tryz.underlying3
  a3:=Tryz.isAgg3
  z3:=Tryz.sizeOf3
  v3:=Tryz.zeroValue3
  t4:=Tryz.underlying4
  a4:=Tryz.isAgg4
  z4:=Tryz.sizeOf4
  v4:=Tryz.zeroValue4
  t9:=Tryz.underlying9
  a9:=Tryz.isAgg9
  z9:=Tryz.sizeOf9
  v9:=Tryz.zeroValue9}
end Go.Proofs

namespace Go.Proofs.YtbkgpcknakidkaaGreatDoor
set_option linter.unusedVariables false
set_option linter.unusedSimpArgs false
set_option linter.unnecessarySimpa false
set_option maxRecDepth 100000
section
open Go
def wb(c:Nat):Bool:=(bN 97 c&&bN c 122)||(bN 48 c&&bN c 57)
def Zyv:List Nat:= [97,98,99,100,101,102,103,104,105,106,107,108,109,110,111,112,113,114,115,116,117,118,119,120,121,122,48,49,50,51,52,53,54,55,56,57]
def Zsx(s:List Nat):List Nat:=(Lib.trimS (mkS s).data.toList (mkS Zyv).data.toList).map cX
theorem Z23(s:List Nat) (U:s.length<=9223372036854775807):PureC E 110 [.str ab s,.str ac Zyv] (.str ab (Zsx s)):=by
 refine U3 λg w a1 hd=> ?_;obtain⟨u,v,rfl,hu,hv⟩:=Yj2 hd;cases hu;cases hv;rename_i b I c J;subst I;have R:c=mkS Zyv:=by rw[<-J,Zdq]
 subst R;have a0:b.size<=9223372036854775807:=by rw[<-Zdp];exact U
 refine(Any.strings_Trim_laid Tryz.lays160 (by kernel_rfl) b (mkS Zyv) w a0 (by decide) (ascii_of_all (by decide))).mono ?_;rintro e w' ⟨rfl,hw⟩;refine⟨_,rfl,?_,hw⟩;unfold Zsx;rw[Zdq];exact Z8z
theorem dw_nil{α:Type} {p:α->Bool}:∀{l:List α},l.dropWhile p= []↔∀x∈l,p x=ac
 | []=>by simp
 |x::l=>by
  rw[js]
  cases I:p x with
  |true=>simp[I,dw_nil (l:=l)]
  |false=>simp[I]
theorem Z24{α:Type} {p:α->Bool}:∀{l:List α} {b:α} {r:List α},l.dropWhile p=b::r->p b=ab
 | [],b,r,h=>by simp at h
 |x::l,b,r,h=>by
  rw[js] at h
  cases I:p x with
  |true=>rw[I] at h;exact Z24 h
  |false=>rw[I] at h;simp at h;rw[<-h.1];exact I
theorem Z25(l cs:List UInt8):Lib.trimS l cs= []↔∀b∈l,cs.contains b=true:=by
 unfold Lib.trimS Lib.trimLeftS Lib.trimRightS;rw[dw_nil];constructor
 ·intro h
  cases hd:l.reverse.dropWhile (cs.contains ·) with
  |nil=>
   rw[dw_nil] at hd;exactλb I=>hd b (jV.2 I)
  |cons b r=>
   exfalso;have R:=h b (by rw[hd];simp);have J:=Z24 hd;rw[R] at J;cases J
 ·intro h b I
  rw[dw_nil.2 (λb I=>h b (jV.1 I))] at I;simp at I
theorem Zph:∀n,n<256->(mkS Zyv).data.toList.contains (gh n)=wb n:=by decide
theorem Z26{s:List Nat} (R:Byt s):Zsx s= []↔s.all wb=true:=by
 unfold Zsx;rw[List.map_eq_nil_iff,Z25,fH];have e:s=(mkS s).data.toList.map cX:=(show toL (mkS s)=s from R).symm;constructor
 ·intro h c J
  rw[e] at J;obtain⟨b,I,rfl⟩:=List.mem_map.1 J;rw[<-Zph _ b.toNat_lt];have:=h b I
  rwa[show gh b.toNat=b from jF]
 ·intro h b I
  have:=h b.toNat (by rw[e];exact List.mem_map_of_mem I);rw[<-Zph _ b.toNat_lt] at this
  rwa[show gh b.toNat=b from jF] at this
noncomputable def Ykh:Sum thy:=sumP (dA2 dS (dKs Zyv)) (λx=>x.1.length<=9223372036854775807) λx=> .str ab (Zsx x.1)
theorem Z9c:SumOk E 110 Ykh:=Yn E_ok (Zc (f:=110) rfl) λx h=>Z23 _ h
noncomputable def Yf9:Fns thy:=addS F0 110 Ykh
theorem Z9d:FnsOk E Yf9:=Zb F0_ok Z9c
def lowF:List Nat->Bool
 | []=>ab
 |c::_=>bN 97 c&&bN c 122
def V4(s:List Nat):Bool:=decide (s.length<=32)&&lowF s&&s.all wb
theorem Z27(s:List Nat) (v:Bool):Zk E Yf9 (vc E Yf9 400) 66 [.str ab s] hp0 0 (λr=>ret E (patch hp0 0 r) r.v (.bool ab v))=(
(decide ((↑(aa s):Int)<=32)=ac->((!s==toL (ej #[]))=ac->(0:Int)<=0/\0+1<=(↑(aa s):Int)/\∀(x:Nat),s[ag 0]? =ae x->(decide ((↑x:Int)>=97)=ac->(0:Int)<=0/\0+1<=(↑(aa s):Int)/\∀(x:Nat),s[ag 0]? =ae x->(decide ((↑x:Int)<=122)=ac->aa s<=9223372036854775807/\((Zsx s==toL (ej #[]))=ac->ac=v)/\((Zsx s==toL (ej #[]))=ab->ab=v))/\(decide ((↑x:Int)<=122)=ab->ab=v))/\(decide ((↑x:Int)>=97)=ab->ab=v))/\((!s==toL (ej #[]))=ab->ab=v))/\(decide ((↑(aa s):Int)<=32)=ab->ab=v)):=by kernel_rfl
theorem Z28(s:List Nat):PureC E 66 [.str ab s] (.bool ab (V4 s)):=by
 refine Z8x (j:=0) rfl λhs=>Za E_ok (Zd E_ok Z9d 400) ?_;rw[Z27];simp only[Yk,Z9,Wp,Wq,Ws,hJ,ir,fR,gg,fK,fC,be,bB,bn,cj,aq,cH,cx,bi,iO,Yz,Yt,ne_eq,and_true,true_and,aR,aL,false_or,or_false,jR,ko,bV,iW,je,bv];have he:toL (ej #[])= []:=rfl
 have hz:(0:Int).toNat=0:=rfl;simp only[he,hz,Z26 hs];unfold V4;refine aD (λU=>aD (λI=>⟨by omega,?_,λc R=> ?_⟩) (λI=> ?_)) (λU=> ?_)
 ·cases s with
  |nil=>exact kc rfl I
  |cons c r=>simp only[aC];omega
 ·cases s with
  |nil=>simp at R
  |cons c' r=>
   obtain rfl:c'=c:=by simpa using R
   rw[jC (show(c'::r).length<=32 by omega),show lowF (c'::r)=(bN 97 c'&&bN c' 122) from rfl];refine aD (λh3=>⟨by omega,by simp only[aC];omega,λc2 a0=> ?_⟩) (λh3=> ?_)
   ·obtain rfl:c'=c2:=by simpa using a0
    refine aD (λh4=>⟨by omega,λJ=> ?_,λJ=> ?_⟩) (λh4=> ?_)
    ·rw[J,jl (by omega),jl (by omega)];rfl
    ·rw[ip.2 J];simp
    ·have:bN c' 122=false:=by rw[<-bb,bp];omega
     rw[this];simp
   ·have:bN 97 c'=false:=by rw[<-bb,bp];omega
    rw[this];simp
 ·rw[I];simp[lowF]
 ·rw[jD (show¬s.length<=32 by omega)];simp
def resW:List (List Nat):= [[116,97,114,105,102,102],[102,111,114],[99,108,97,117,115,101],[119,104,101,110],[97,110,100],[105,110],[105,115],[112,97,121],[109,105,110],[109,97,120],[100,111,119,110],[117,112],[104,97,108,102],[105,102],[109,111,110,101,121],[109,105,110,117,116,101],[112,101,114],[107,103],[116,121,112,101],[111,119,110,101,114],[114,97,105,108,119,97,121],[115,104,105,112,112,101,114],[99,108,97,115,115],[119,101,105,103,104,116],[107,109],[109,105,110,117,116,101,115],[119,111,114,107,105,110,103],[99,111,100,101],[119,111,114,116,104],[99,111,115,116],[109,111,110,116,104],[98,101,103,105,110],[112,97,114,116,115],[112,97,114,116],[104,105,114,101],[100,101,109,117,114,114,97,103,101],[102,114,101,105,103,104,116],[114,101,112,97,105,114],[108,111,115,115],[99,108,101,97,110,105,110,103]]
theorem Z9e(s:List Nat) (K:SV thy->Prop):Zk E F0 (vc E F0 400) 58 [.str ab s] hp0 0 (λr=>K r.v)=Vj ab (.str ab s) (resW.map λk=>(kB (mkS k),SV.bool ac ac)) K (K (.bool ac ab)):=by kernel_rfl
theorem Zvt(s:List Nat):PureC E 58 [.str ab s] (.bool ab (decide (s∈resW))):=by
 refine Zn7 E_ok (Z9i 400) (K:=λr=>r.v= .bool ac (decide (s∈resW))) (λr I=>by rw[I];rfl) ?_;rw[Z9e s λv=>v= .bool ac (decide (s∈resW))];refine Zk0 ?_ (λh=>by rw[jC h]) (λh=>by rw[jD h]);unfold Byt;decide
end
section
open Go
end
section
open Go
def Yl(w:Tst):Bool:=decide (0<=w.attr/\w.attr<16/\0<=w.low/\w.low<=1099511627776/\0<=w.high/\w.high<=1099511627776)
def Wv(c:Cls):Bool:=V4 c.name&&Zn c.pay&&c.when_.all Yl
def resF(s:List Nat):Bool:=decide (s∈resW)
noncomputable def goC:Bool->Bool->List (List Nat×Bool)->List Cls->Int
 |a,b,_,[]=>if a=ac then 161 else if b=ac then 2 else 0
 |a,b,m,c::r=>if Wv c=ac then goC (a||resF c.name||(Z5 m c.name).getD ab) (b||decide (8<c.when_.length)||decide (24<Z7 c.pay)) (putS m c.name ac) r else 1
noncomputable def Z8(t:Tar):Int:=if V4 t.name=ac/\1<=t.for_/\t.for_<=6 then goC (resF t.name) (decide (64<t.clauses.length)) [] t.clauses else 1
noncomputable def Yju:Sum thy:=sumP (dA1 dS) (λ_=>True) λx=> .bool ab (V4 x.1)
theorem Z8n:SumOk E 66 Yju:=Yn E_ok (Zc (f:=66) rfl) λx h=>Z28 _
noncomputable def Sres:Sum thy:=sumP (dA1 dS) (λ_=>True) λx=> .bool ab (resF x.1)
theorem Yey:SumOk E 58 Sres:=Yn E_ok (Zc (f:=58) rfl) λx h=>Zvt _
noncomputable def Z19:Sum thy:=sumP dExp (λx=>x.1.sz<1000000000000) λx=> .bool ab (Zn x.1)
theorem Zyd:SumOk E 67 Z19:=Yn E_ok (Zc (f:=67) rfl) λx h=>Ya0 _ (av _) _ h
noncomputable def Zmh:Sum thy:=sumP dExp (λx=>x.1.sz<1000000000000) λx=> .int ab .i64 (Z7 x.1:Int)
theorem Zh1:SumOk E 64 Zmh:=Yn E_ok (Zc (f:=64) rfl) λx h=>Z9x _ _ (av _) (Nat.le_of_lt h)
structure CkX where
 k:Nat
 r:Nat
 a:Bool
 b:Bool
 m:List (List Nat×Bool)
def blkM{Y:Thy} (h:Hp Y) (v:SV Y):List (Nat×Blk Y):=match v with| .map b=>(match h b with|some x=> [(b,x)]|none=> [])|_=> []
noncomputable def Ack:Fr thy->Hp thy->Nat->Ann thy:=λT h i=>{X:=CkX,fr:=λx=> [(3,.bool ab x.a),(4,.bool ab x.b),(5,T 5),(33,T 33),(34,T 34),(35,.int ab .i64 x.k)],bl:=λx=> [(bOf (T 5),.map (Zi (Zl E bK ab) x.m))],src:=λ_=> [],md:= [bOf (T 5)],ih:=i,M:=i+40,meas:=λx=>x.r}
noncomputable def Atst:Fr thy->Hp thy->Nat->Ann thy:=λT h i=>{X:=DX,fr:=λx=> [(3,T 3),(4,T 4),(5,T 5),(7,T 7),(33,T 33),(34,T 34),(35,T 35),(50,T 50),(51,T 51),(52,.int ab .i64 x.k)],bl:=λx=>blkP h (T 7)++blkM h (T 5),src:=λ_=> [],md:= [],ih:=i,M:=i+30,meas:=λx=>x.r}
noncomputable def Fck:Fns thy:=addL (addL (addS (addS (addS (addS F0 66 Yju) 58 Sres) 67 Z19) 64 Zmh) 34 6 Ack E) 34 11 Atst E
theorem Yjv:FnsOk E Fck:=Zm E_ok (Zm E_ok (Zb (Zb (Zb (Zb F0_ok Z8n) Yey) Zyd) Zh1) _ _ _) _ _ _
def tarA(t:Tar):SV thy:= .agg (encF ab .tariffs t)
abbrev Yez(x:CkX) (I:Cls) (R:CkX->Prop) (t:Tar):Prop:=
 CkX.b x=ab->(decide ((↑(aa (aY I)):Int)>8)=ac->∃(l:List (List Nat×Bool)),Zi (Zl E bK ab) (CkX.m x)=Zi (Zl E
 bK (Zh bQ)) l/\(∀(p:List Nat×Bool),p∈l->toL (mkS (ao p))=ao p)/\toL (mkS (aP I))=aP I/\∃(J:CkX),R J/\
 J.2+1<=x.2/\ac=ac/\(ac=CkX.a J/\ac=CkX.b J/\True/\(au t=au t/\(ab=ac->ab=ac))/\(↑(aa
 (au t)):Int)=(↑(aa (au t)):Int)/\wr af ((↑(CkX.k x):Int)+1)=(↑(CkX.k J):Int)/\True)/\(Zi (Zl E bK
 (Zh bQ)) (putS l (aP I) ac)=Zi (Zl E bK ab) (CkX.m J)/\nidE 0 (Zi (Zl E bK (Zh bQ)) (putS l
 (aP I) ac))=ac)/\True)/\(decide ((↑(aa (aY I)):Int)>8)=ab->Ex.sz (bY (aJ (aE I)) (cd (aE I)) (bC
 (aE I)) (bD (aE I)) (bE (aE I)) (bF (aE I)) (bx (aE I)))+1<=1000000000000/\(decide ((↑(Z7 (bY (aJ
 (aE I)) (cd (aE I)) (bC (aE I)) (bD (aE I)) (bE (aE I)) (bF (aE I)) (bx (aE I)))):Int)>24)=ac->∃
 (l:List (List Nat×Bool)),Zi (Zl E bK ab) (CkX.m x)=Zi (Zl E bK (Zh bQ)) l/\(∀(p:List Nat×Bool),p∈l->toL (mkS (ao
 p))=ao p)/\toL (mkS (aP I))=aP I/\∃(J:CkX),R J/\J.2+1<=x.2/\ac=ac/\(ac=CkX.a J/\ac=CkX.b J/\True/\
 (au t=au t/\(ab=ac->ab=ac))/\(↑(aa (au t)):Int)=(↑(aa (au t)):Int)/\wr af ((↑(CkX.k x):
 Int)+1)=(↑(CkX.k J):Int)/\True)/\(Zi (Zl E bK (Zh bQ)) (putS l (aP I) ac)=Zi (Zl E bK ab) (CkX.m J)/\
 nidE 0 (Zi (Zl E bK (Zh bQ)) (putS l (aP I) ac))=ac)/\True)/\(decide ((↑(Z7 (bY (aJ (aE I)) (cd (aE
 I)) (bC (aE I)) (bD (aE I)) (bE (aE I)) (bF (aE I)) (bx (aE I)))):Int)>24)=ab->∃(l:List (List Nat×
 Bool)),Zi (Zl E bK ab) (CkX.m x)=Zi (Zl E bK (Zh bQ)) l/\(∀(p:List Nat×Bool),p∈l->toL (mkS (ao p))=ao p)/\
 toL (mkS (aP I))=aP I/\∃(J:CkX),R J/\J.2+1<=x.2/\ac=ac/\(ac=CkX.a J/\ab=CkX.b J/\True/\(au t=
 au t/\(ab=ac->ab=ac))/\(↑(aa (au t)):Int)=(↑(aa (au t)):Int)/\wr af ((↑(CkX.k x):Int)+1)
 =(↑(CkX.k J):Int)/\True)/\(Zi (Zl E bK (Zh bQ)) (putS l (aP I) ac)=Zi (Zl E bK ab) (CkX.m J)/\nidE 0
 (Zi (Zl E bK (Zh bQ)) (putS l (aP I) ac))=ac)/\True))
abbrev Yjw(x:CkX) (I:Cls) (R:CkX->Prop) (t:Tar):Prop:=
 CkX.a x=ab->True/\(resF (aP I)=ac->(CkX.b x=ac->∃(l:List (List Nat×Bool)),Zi (Zl E bK ab) (CkX.m x)=Zi (Zl E bK
 (Zh bQ)) l/\(∀(p:List Nat×Bool),p∈l->toL (mkS (ao p))=ao p)/\toL (mkS (aP I))=aP I/\∃(J:CkX),R J/\J.2+(1:
 Nat)<=x.2/\ac=ac/\(ac=CkX.a J/\ac=CkX.b J/\True/\(au t=au t/\(ab=ac->ab=ac))/\(↑(aa (au t)):Int)
 =(↑(aa (au t)):Int)/\wr af ((↑(CkX.k x):Int)+1)=(↑(CkX.k J):Int)/\True)/\(Zi (Zl E bK (Zh bQ)) (putS
 l (aP I) ac)=Zi (Zl E bK ab) (CkX.m J)/\nidE 0 (Zi (Zl E bK (Zh bQ)) (putS l (aP I) ac))=ac)/\
 True)/\(Yez x I R t))/\(resF (aP I)=ab->∃(l:List (List Nat×Bool)),Zi (Zl E bK ab) (CkX.m x)=Zi (Zl E bK (Zh
 bQ)) l/\(∀(p:List Nat×Bool),p∈l->toL (mkS (ao p))=ao p)/\∀(y:Bool),y=cz (Z5 l (aP I)) ab->(CkX.b x=ac->∃(l
 :List (List Nat×Bool)),Zi (Zl E bK ab) (CkX.m x)=Zi (Zl E bK (Zh bQ)) l/\(∀(p:List Nat×Bool),p∈l->toL (mkS (ao p))
 =ao p)/\toL (mkS (aP I))=aP I/\∃(J:CkX),R J/\J.2+1<=x.2/\ac=ac/\(y=CkX.a J/\ac=CkX.b J/\True/\(au t
 =au t/\(ab=ac->ab=ac))/\(↑(aa (au t)):Int)=(↑(aa (au t)):Int)/\wr af ((↑(CkX.k x):Int)+(1:
 Int))=(↑(CkX.k J):Int)/\True)/\(Zi (Zl E bK (Zh bQ)) (putS l (aP I) ac)=Zi (Zl E bK ab) (CkX.m J)/\nidE 0
 (Zi (Zl E bK (Zh bQ)) (putS l (aP I) ac))=ac)/\True)/\(CkX.b x=ab->(decide ((↑(aa (aY I)):Int)>8)=
 ac->∃(l:List (List Nat×Bool)),Zi (Zl E bK ab) (CkX.m x)=Zi (Zl E bK (Zh bQ)) l/\(∀(p:List Nat×Bool),p∈l->toL (mkS
 (ao p))=ao p)/\toL (mkS (aP I))=aP I/\∃(J:CkX),R J/\J.2+1<=x.2/\ac=ac/\(y=CkX.a J/\ac=CkX.b J/\True/\
 (au t=au t/\(ab=ac->ab=ac))/\(↑(aa (au t)):Int)=(↑(aa (au t)):Int)/\wr af ((↑(CkX.k x):
 Int)+1)=(↑(CkX.k J):Int)/\True)/\(Zi (Zl E bK (Zh bQ)) (putS l (aP I) ac)=Zi (Zl E bK ab) (CkX.m J)/\
 nidE 0 (Zi (Zl E bK (Zh bQ)) (putS l (aP I) ac))=ac)/\True)/\(decide ((↑(aa (aY I)):Int)>8)=
 ab->Ex.sz (bY (aJ (aE I)) (cd (aE I)) (bC (aE I)) (bD (aE I)) (bE (aE I)) (bF (aE I)) (bx (aE I)))+(1
 :Nat)<=1000000000000/\(decide ((↑(Z7 (bY (aJ (aE I)) (cd (aE I)) (bC (aE I)) (bD (aE I)) (bE (aE I)) (bF
 (aE I)) (bx (aE I)))):Int)>24)=ac->∃(l:List (List Nat×Bool)),Zi (Zl E bK ab) (CkX.m x)=Zi (Zl E bK (Zh
 bQ)) l/\(∀(p:List Nat×Bool),p∈l->toL (mkS (ao p))=ao p)/\toL (mkS (aP I))=aP I/\∃(J:CkX),R J/\J.2+1<=
 x.2/\ac=ac/\(y=CkX.a J/\ac=CkX.b J/\True/\(au t=au t/\(ab=ac->ab=ac))/\(↑(aa (au t)):Int)=
 (↑(aa (au t)):Int)/\wr af ((↑(CkX.k x):Int)+1)=(↑(CkX.k J):Int)/\True)/\(Zi (Zl E bK (Zh bQ)) (putS l
 (aP I) ac)=Zi (Zl E bK ab) (CkX.m J)/\nidE 0 (Zi (Zl E bK (Zh bQ)) (putS l (aP I) ac))=ac)/\True)
 /\(decide ((↑(Z7 (bY (aJ (aE I)) (cd (aE I)) (bC (aE I)) (bD (aE I)) (bE (aE I)) (bF (aE I)) (bx (aE
 I)))):Int)>24)=ab->∃(l:List (List Nat×Bool)),Zi (Zl E bK ab) (CkX.m x)=Zi (Zl E bK (Zh bQ)) l/\(∀(p:List
 Nat×Bool),p∈l->toL (mkS (ao p))=ao p)/\toL (mkS (aP I))=aP I/\∃(J:CkX),R J/\J.2+1<=x.2/\ac=ac/\(y=CkX.a
 J/\ab=CkX.b J/\True/\(au t=au t/\(ab=ac->ab=ac))/\(↑(aa (au t)):Int)=(↑(aa (au t)):Int)
 /\wr af ((↑(CkX.k x):Int)+1)=(↑(CkX.k J):Int)/\True)/\(Zi (Zl E bK (Zh bQ)) (putS l (aP I) ac)=Zi (Zl E
 bK ab) (CkX.m J)/\nidE 0 (Zi (Zl E bK (Zh bQ)) (putS l (aP I) ac))=ac)/\True))))
abbrev Ye0(x:CkX) (t:Tar) (v:Int) (R:CkX->Prop):Prop:=
 decide ((↑(CkX.k x):Int)<(↑(aa (au t)):Int))=ac->0<=(↑(CkX.k x):Int)/\(↑(CkX.k x):Int)+1<=(↑(aa (au t)):
 Int)/\∀(I:Cls),(au t)[ag (↑(CkX.k x):Int)]? =ae I->True/\((!V4 (aP I))=ac->1=v)/\((!V4 (aP I))=ab->
 Ex.sz (bY (aJ (aE I)) (cd (aE I)) (bC (aE I)) (bD (aE I)) (bE (aE I)) (bF (aE I)) (bx (aE I)))+1
 <=1000000000000/\((!Zn (bY (aJ (aE I)) (cd (aE I)) (bC (aE I)) (bD (aE I)) (bE (aE I)) (bF (aE I)) (bx
 (aE I))))=ac->1=v)/\((!Zn (bY (aJ (aE I)) (cd (aE I)) (bC (aE I)) (bD (aE I)) (bE (aE I)) (bF
 (aE I)) (bx (aE I))))=ab->∃(a0:DX->Prop),(∃(U:DX),a0 U/\ac=ac/\(CkX.a x=CkX.a x/\CkX.b x=CkX.b x/\True/\0=0
 /\(au t=au t/\(ab=ac->ab=ac))/\(↑(aa (au t)):Int)=(↑(aa (au t)):Int)/\(↑(CkX.k x):Int)=
 (↑(CkX.k x):Int)/\(aY I=aY I/\(ab=ac->ab=ac))/\(↑(aa (aY I)):Int)=(↑(aa (aY I)):Int)/\0
 =(↑(DX.k U):Int)/\True)/\(aP I=aP I/\(aY I=aY I/\(ab=ac->ab=ac))/\aJ (aE I)=aJ (aE I)/\cd
 (aE I)=cd (aE I)/\bC (aE I)=bC (aE I)/\bD (aE I)=bD (aE I)/\bE (aE I)=bE (aE I)/\bF
 (aE I)=bF (aE I)/\(bx (aE I)=bx (aE I)/\(ab=ac->ab=ac))/\True)/\(Zi (Zl E bK ab) (CkX.m x)=Zi (Zl
 E bK ab) (CkX.m x)/\nidE 0 (Zi (Zl E bK ab) (CkX.m x))=ac)/\True)/\∀(U:DX),a0 U->(decide ((↑(DX.k U):Int)<(↑(aa
 (aY I)):Int))=ac->0<=(↑(DX.k U):Int)/\(↑(DX.k U):Int)+1<=(↑(aa (aY I)):Int)/\∀(J:Tst),(aY
 I)[ag (↑(DX.k U):Int)]? =ae J->∃(Q:Bool->Prop),((decide (eg J<0)=ac->Q ac)/\(decide (eg J<0)=ab->(decide
 (eg J>=16)=ac->Q ac)/\(decide (eg J>=16)=ab->(decide (mm2 ab (fk J) (fp J)<0)=ac->Q ac)/\
 (decide (mm2 ab (fk J) (fp J)<0)=ab->(decide (mm2 ac (fk J) (fp J)>1099511627776)=ac->Q ac)/\(decide (mm2
 ac (fk J) (fp J)>1099511627776)=ab->Q ab)))))/\(Q ac->1=v)/\(Q ab->∃(a1:DX),a0 a1/\a1.2+1<=U.2/\ac
 =ac/\(CkX.a x=CkX.a x/\CkX.b x=CkX.b x/\True/\0=0/\(au t=au t/\(ab=ac->ab=ac))/\(↑(aa (au t))
 :Int)=(↑(aa (au t)):Int)/\(↑(CkX.k x):Int)=(↑(CkX.k x):Int)/\(aY I=aY I/\(ab=ac->ab=ac))/\(↑(aa
 (aY I)):Int)=(↑(aa (aY I)):Int)/\wr af ((↑(DX.k U):Int)+1)=(↑(DX.k a1):Int)/\True)/\(aP I=aP I/\
 (aY I=aY I/\(ab=ac->ab=ac))/\aJ (aE I)=aJ (aE I)/\cd (aE I)=cd (aE I)/\bC (aE I)=
 bC (aE I)/\bD (aE I)=bD (aE I)/\bE (aE I)=bE (aE I)/\bF (aE I)=bF (aE I)/\(bx (aE I)=
 bx (aE I)/\(ab=ac->ab=ac))/\True)/\(Zi (Zl E bK ab) (CkX.m x)=Zi (Zl E bK ab) (CkX.m x)/\nidE 0 (Zi (Zl
 E bK ab) (CkX.m x))=ac)/\True))/\(decide ((↑(DX.k U):Int)<(↑(aa (aY I)):Int))=ab->(CkX.a x=ac->(CkX.b x=ac->∃(l:List
 (List Nat×Bool)),Zi (Zl E bK ab) (CkX.m x)=Zi (Zl E bK (Zh bQ)) l/\(∀(p:List Nat×Bool),p∈l->toL (mkS (ao p))=
 ao p)/\toL (mkS (aP I))=aP I/\∃(J:CkX),R J/\J.2+1<=x.2/\ac=ac/\(ac=CkX.a J/\ac=CkX.b J/\True/\(au
 t=au t/\(ab=ac->ab=ac))/\(↑(aa (au t)):Int)=(↑(aa (au t)):Int)/\wr af ((↑(CkX.k x):Int)+(1:
 Int))=(↑(CkX.k J):Int)/\True)/\(Zi (Zl E bK (Zh bQ)) (putS l (aP I) ac)=Zi (Zl E bK ab) (CkX.m J)/\nidE 0
 (Zi (Zl E bK (Zh bQ)) (putS l (aP I) ac))=ac)/\True)/\(Yez x I R t))/\(Yjw x I R t))))
abbrev Ye1(x:CkX) (t:Tar) (v:Int):Prop:=
 decide ((↑(CkX.k x):Int)<(↑(aa (au t)):Int))=ab->(CkX.a x=ac->161=v)/\(CkX.a x=ab->(CkX.b x=ac->2=v)/\(CkX.b x
 =ab->0=v))
theorem Ye2(t:Tar) (v:Int):Zk E Fck (vc E Fck 400) 34 [tarA t] hp0 0 (λr=>ret E (patch hp0 0 r) r.v (.int ab .i64 v))=(
True/\((!V4 (bP t))=ac->1=v)/\((!V4 (bP t))=ab->(decide (bG t<1)=ac->1=v)/\(decide (bG t<1)=ab->(decide (bG t>6)=ac->1=v)/\(decide (bG t>6)=ab->True/\(decide ((↑(aa (au t)):Int)>64)=ac->∃(R:CkX->Prop),(∃(x:CkX),R x/\ac=ac/\(resF (bP t)=CkX.a x/\ac=CkX.b x/\True/\(au t=au t/\(ab=ac->ab=ac))/\(↑(aa (au t)):Int)=(↑(aa (au t)):Int)/\0=(↑(CkX.k x):Int)/\True)/\([]=Zi (Zl E bK ab) (CkX.m x)/\ac=ac)/\True)/\∀(x:CkX),R x->(Ye0 x t v R)/\(Ye1 x t v))/\(decide ((↑(aa (au t)):Int)>64)=ab->∃(R:CkX->Prop),(∃(x:CkX),R x/\ac=ac/\(resF (bP t)=CkX.a x/\ab=CkX.b x/\True/\(au t=au t/\(ab=ac->ab=ac))/\(↑(aa (au t)):Int)=(↑(aa (au t)):Int)/\0=(↑(CkX.k x):Int)/\True)/\([]=Zi (Zl E bK ab) (CkX.m x)/\ac=ac)/\True)/\∀(x:CkX),R x->(Ye0 x t v R)/\(Ye1 x t v)))))):=by kernel_rfl
theorem Zh2{g:GH} {t:Tar} {u:Value} (h:Den E σ0 g (tarA t) u):Byt t.name/\∀c∈t.clauses,Byt c.name:=by
 obtain⟨arr,c,rfl,hs,U,hd⟩:=Yj h;refine⟨Zr5 (hd 0 _ rfl),λx R=> ?_⟩;have I:=hd 2 (.psl bu t.clauses ab) rfl;obtain⟨v,J⟩:=Z8y I x R 0 (.str ab x.name) rfl;exact Zr5 J
theorem Zd5(a b:Bool) (m:List (List Nat×Bool)) (c:Cls) (r:List Cls):goC a b m (c::r)=if Wv c=ac then goC (a||resF c.name||(Z5 m c.name).getD ab) (b||decide (8<c.when_.length)||decide (24<Z7 c.pay)) (putS m c.name ac) r else 1:=rfl
theorem Zva{l:List Tst} {k:Nat} {w:Tst} (h:l[k]? =ae w):(l.drop k).all Yl=(Yl w&&(l.drop (k+1)).all Yl):=by rw[Z2 h,iV]
theorem Zb5{U:Type}:∀{m:List (List Nat×U)} {a:List Nat} {v:U},(∀p∈m,Byt p.1)->Byt a->∀p∈putS m a v,Byt p.1
 | [],a,v,_,R,p,I=>by
  rw[putS] at I
  obtain rfl:=cr.1 I
  exact R
 |q::m,a,v,J,R,p,I=>by
  rw[putS] at I
  split at I
  ·rcases aM.1 I with rfl|I
   ·exact J q (cF ..)
   ·exact J p (aW _ I)
  ·rcases aM.1 I with rfl|I
   ·exact J _ (cF ..)
   ·exact Zb5 (λq hq=>J q (aW _ hq)) R p I
theorem Zkz(t:Tar) (b0:∀ c∈t.clauses,c.pay.sz<1000000000000/\c.when_.length<1000000000000) (hl:t.clauses.length<1000000000000):PureC E 34 [tarA t] (.int ab .i64 (Z8 t)):=by
  refine Zh5 (j:=0) rfl (λg u h=>Zh2 h) λa9=>Za E_ok (Zd E_ok Yjv 400) ?_;rw[Ye2];unfold Ye1 Ye0 Yjw Yez;simp only[Yk,Z9,Wp,Wq,Ws,hJ,ir,fR,gg,fK,fC,be,bB,bn,cj,aq,cH,cx,bi,iO,Yz,Yt,ne_eq,and_true,true_and,aR,aL,false_or,or_false,jR,ko,bV,iW,je,bv,Ex.eta];unfold Z8
  refine aD (λh1=>?_) (λh1=>aD (λh2=>?_) (λh2=>aD (λh3=>?_) (λh3=>?_)))
  ·rw[jG (by rw[h1]; simp)]
  ·rw[jG (by omega)]
  ·rw[jG (by omega)]
  ·rw[jQ ⟨h1,by omega,by omega⟩]
   refine aD (λh4=>?_) (λh4=>?_)
   ·rw[jC (show 64<t.clauses.length by omega)]
    refine⟨λx=>x.k<=t.clauses.length/\(∀ p∈x.m,Byt p.1)/\goC x.a x.b x.m (t.clauses.drop x.k)=goC (resF t.name) ac [] t.clauses/\x.r=t.clauses.length - x.k,⟨⟨0,t.clauses.length,resF t.name,ac,[]⟩,⟨(by dsimp only; omega),by simp,rfl,rfl⟩,⟨rfl,rfl,rfl⟩,rfl⟩,?_⟩;rintro x ⟨hk,hm,I,hr⟩;refine aD (λhq=>⟨by omega,by omega,λc hc=>?_⟩) (λhq=>?_)
    ·have hc:t.clauses[x.k]?=ae c:=hc
     rw[Z2 hc,Zd5] at I;have a1:=aI hc;obtain⟨b1,b2⟩:=b0 c a1;have a0:=a9.2 c a1;refine aD (λh5=>?_) (λh5=>⟨by omega,λh6=>?_,λh6=>?_⟩)
     ·rw[← I,jG (by unfold Wv; rw[h5]; simp)]
     ·rw[← I,jG (by unfold Wv; rw[h6]; simp)]
     refine⟨λy=>y.k<=c.when_.length/\(c.when_.drop y.k).all Yl=c.when_.all Yl/\y.r=c.when_.length - y.k,⟨⟨0,c.when_.length,[],[],0,0,0,0⟩,⟨(by dsimp only; omega),rfl,rfl⟩,rfl,Zo E_ok _⟩,?_⟩;rintro y ⟨a7,J,a8⟩;refine aD (λa6=>⟨by omega,by omega,λw hw=>?_⟩) (λa6=>?_)
     ·have hw:c.when_[y.k]?=ae w:=hw
      rw[Zva hw] at J;have hT:Yl w=decide (0<=w.attr/\w.attr<16/\0<=w.low/\w.low<=1099511627776/\0<=w.high/\w.high<=1099511627776):=rfl;refine⟨λb=>b=ac ↔ Yl w=ab,?_,λR=>?_,λR=>?_⟩
      ·have q1:(¬ (0<=w.attr/\w.attr<16/\0<=w.low/\w.low<=1099511627776/\0<=w.high/\w.high<=1099511627776))->((ac=ac) ↔ Yl w=ab):=λh=>by rw[hT,jD h]; simp
       have q2:(0<=w.attr/\w.attr<16/\0<=w.low/\w.low<=1099511627776/\0<=w.high/\w.high<=1099511627776)->((ab=ac) ↔ Yl w=ab):=λh=>by rw[hT,jC h]; simp
       refine aD (λU=>q1 (by omega)) (λU=>aD (λa2=>q1 (by omega)) (λa2=>aD (λa3=>q1 (by omega)) (λa3=>aD (λa4=>q1 (by omega)) (λa4=>q2 (by omega)))))
      ·have R:=R.1 rfl
       rw[R,eH] at J;rw[← I,jG (by unfold Wv; rw[← J]; simp)]
      ·have R:Yl w=true:=by
         cases hh:Yl w with
         | true=>rfl
         | false=>have:=R.2 hh; simp at this
       rw[R,cx] at J;exact⟨⟨y.k+1,c.when_.length - (y.k+1),[],[],0,0,0,0⟩,⟨(by dsimp only; omega),J,rfl⟩,by show c.when_.length - (y.k+1)+1<=y.r; omega,wr64 (by omega) (by omega),Zo E_ok _⟩
     ·rw[Zaa (by omega)] at J
      have a5:Wv c=true:=by unfold Wv; rw[h5,h6,← J]; rfl
      rw[jQ a5] at I;clear J a8 a6 a7 a5
      repeat' (first | (refine aD ?_ ?_) | (refine⟨x.m,rfl,hm,?_⟩) | (rintro _ rfl) | (intro h))
      all_goals first
        | omega
        | exact a0
        | (refine⟨⟨x.k+1,t.clauses.length - (x.k+1),_,_,putS x.m c.name ac⟩,⟨(by dsimp only; omega),Zb5 hm a0,?_,rfl⟩,(by dsimp only; omega),⟨rfl,rfl,wr64 (by omega) (by omega)⟩,rfl,Zo E_ok _⟩
           rw[← I];dsimp only
           congr 1
           ·first | (simp only[*,eJ,dW,dE,eo]; done) | (simp only[*,eJ,dW,dE,eo]; rfl)
           ·first | (simp only[*,eJ,dW,dE,eo]; done) | (simp only[*,eJ,dW,dE,eo]; symm; simp only[be,bB,fK,fC]; omega))
    ·rw[Zaa (by omega)] at I
     rw[← I];unfold goC;refine aD (λU=>by rw[jQ U]) (λU=>aD (λa2=>by rw[jG (by rw[U]; simp),jQ a2]) (λa2=>by rw[jG (by rw[U]; simp),jG (by rw[a2]; simp)]))
   ·rw[jD (show¬ 64<t.clauses.length by omega)]
    refine⟨λx=>x.k<=t.clauses.length/\(∀ p∈x.m,Byt p.1)/\goC x.a x.b x.m (t.clauses.drop x.k)=goC (resF t.name) ab [] t.clauses/\x.r=t.clauses.length - x.k,⟨⟨0,t.clauses.length,resF t.name,ab,[]⟩,⟨(by dsimp only; omega),by simp,rfl,rfl⟩,⟨rfl,rfl,rfl⟩,rfl⟩,?_⟩;rintro x ⟨hk,hm,I,hr⟩;refine aD (λhq=>⟨by omega,by omega,λc hc=>?_⟩) (λhq=>?_)
    ·have hc:t.clauses[x.k]?=ae c:=hc
     rw[Z2 hc,Zd5] at I;have a1:=aI hc;obtain⟨b1,b2⟩:=b0 c a1;have a0:=a9.2 c a1;refine aD (λh5=>?_) (λh5=>⟨by omega,λh6=>?_,λh6=>?_⟩)
     ·rw[← I,jG (by unfold Wv; rw[h5]; simp)]
     ·rw[← I,jG (by unfold Wv; rw[h6]; simp)]
     refine⟨λy=>y.k<=c.when_.length/\(c.when_.drop y.k).all Yl=c.when_.all Yl/\y.r=c.when_.length - y.k,⟨⟨0,c.when_.length,[],[],0,0,0,0⟩,⟨(by dsimp only; omega),rfl,rfl⟩,rfl,Zo E_ok _⟩,?_⟩;rintro y ⟨a7,J,a8⟩;refine aD (λa6=>⟨by omega,by omega,λw hw=>?_⟩) (λa6=>?_)
     ·have hw:c.when_[y.k]?=ae w:=hw
      rw[Zva hw] at J;have hT:Yl w=decide (0<=w.attr/\w.attr<16/\0<=w.low/\w.low<=1099511627776/\0<=w.high/\w.high<=1099511627776):=rfl;refine⟨λb=>b=ac ↔ Yl w=ab,?_,λR=>?_,λR=>?_⟩
      ·have q1:(¬ (0<=w.attr/\w.attr<16/\0<=w.low/\w.low<=1099511627776/\0<=w.high/\w.high<=1099511627776))->((ac=ac) ↔ Yl w=ab):=λh=>by rw[hT,jD h]; simp
       have q2:(0<=w.attr/\w.attr<16/\0<=w.low/\w.low<=1099511627776/\0<=w.high/\w.high<=1099511627776)->((ab=ac) ↔ Yl w=ab):=λh=>by rw[hT,jC h]; simp
       refine aD (λU=>q1 (by omega)) (λU=>aD (λa2=>q1 (by omega)) (λa2=>aD (λa3=>q1 (by omega)) (λa3=>aD (λa4=>q1 (by omega)) (λa4=>q2 (by omega)))))
      ·have R:=R.1 rfl
       rw[R,eH] at J;rw[← I,jG (by unfold Wv; rw[← J]; simp)]
      ·have R:Yl w=true:=by
         cases hh:Yl w with
         | true=>rfl
         | false=>have:=R.2 hh; simp at this
       rw[R,cx] at J;exact⟨⟨y.k+1,c.when_.length - (y.k+1),[],[],0,0,0,0⟩,⟨(by dsimp only; omega),J,rfl⟩,by show c.when_.length - (y.k+1)+1<=y.r; omega,wr64 (by omega) (by omega),Zo E_ok _⟩
     ·rw[Zaa (by omega)] at J
      have a5:Wv c=true:=by unfold Wv; rw[h5,h6,← J]; rfl
      rw[jQ a5] at I;clear J a8 a6 a7 a5
      repeat' (first | (refine aD ?_ ?_) | (refine⟨x.m,rfl,hm,?_⟩) | (rintro _ rfl) | (intro h))
      all_goals first
        | omega
        | exact a0
        | (refine⟨⟨x.k+1,t.clauses.length - (x.k+1),_,_,putS x.m c.name ac⟩,⟨(by dsimp only; omega),Zb5 hm a0,?_,rfl⟩,(by dsimp only; omega),⟨rfl,rfl,wr64 (by omega) (by omega)⟩,rfl,Zo E_ok _⟩
           rw[← I];dsimp only
           congr 1
           ·first | (simp only[*,eJ,dW,dE,eo]; done) | (simp only[*,eJ,dW,dE,eo]; rfl)
           ·first | (simp only[*,eJ,dW,dE,eo]; done) | (simp only[*,eJ,dW,dE,eo]; symm; simp only[be,bB,fK,fC]; omega))
    ·rw[Zaa (by omega)] at I
     rw[← I];unfold goC;refine aD (λU=>by rw[jQ U]) (λU=>aD (λa2=>by rw[jG (by rw[U]; simp),jQ a2]) (λa2=>by rw[jG (by rw[U]; simp),jG (by rw[a2]; simp)]))
end
section
open Go
noncomputable def Z6f:Sum thy:=sumF E (λ_=>ar) 10 (dA1 (dR .tariffs)) (λx=>(∀c∈au x.1,c.pay.sz<1000000000000/\c.when_.length<1000000000000)/\(au x.1).length<1000000000000) λx=> .int ab .i64 (Z8 x.1)
theorem Zqr:SumOk E 34 Z6f:=Z07 E_ok (Zc (f:=34) rfl) λx h=>Zkz _ h.1 h.2
end
section
open Go
def boxV(b:Box):SV thy:= .agg (encF ab .boxes b)
def eqB(x y:Box):Prop:=ah x.low 0 0=ah y.low 0 0/\ah x.low 1 0=ah y.low 1 0/\ah x.low 2 0=ah y.low 2 0/\ah x.low 3 0=ah y.low 3 0/\ah x.low 4 0=ah y.low 4 0/\ah x.low 5 0=ah y.low 5 0/\ah x.low 6 0=ah y.low 6 0/\ah x.low 7 0=ah y.low 7 0/\ah x.low 8 0=ah y.low 8 0/\ah x.low 9 0=ah y.low 9 0/\ah x.low 10 0=ah y.low 10 0/\ah x.low 11 0=ah y.low 11 0/\ah x.low 12 0=ah y.low 12 0/\ah x.low 13 0=ah y.low 13 0/\ah x.low 14 0=ah y.low 14 0/\ah x.low 15 0=ah y.low 15 0/\ah x.high 0 0=ah y.high 0 0/\ah x.high 1 0=ah y.high 1 0/\ah x.high 2 0=ah y.high 2 0/\ah x.high 3 0=ah y.high 3 0/\ah x.high 4 0=ah y.high 4 0/\ah x.high 5 0=ah y.high 5 0/\ah x.high 6 0=ah y.high 6 0/\ah x.high 7 0=ah y.high 7 0/\ah x.high 8 0=ah y.high 8 0/\ah x.high 9 0=ah y.high 9 0/\ah x.high 10 0=ah y.high 10 0/\ah x.high 11 0=ah y.high 11 0/\ah x.high 12 0=ah y.high 12 0/\ah x.high 13 0=ah y.high 13 0/\ah x.high 14 0=ah y.high 14 0/\ah x.high 15 0=ah y.high 15 0/\True
theorem Wd(x:Box):eqB x x:=⟨rfl,rfl,rfl,rfl,rfl,rfl,rfl,rfl,rfl,rfl,rfl,rfl,rfl,rfl,rfl,rfl,rfl,rfl,rfl,rfl,rfl,rfl,rfl,rfl,rfl,rfl,rfl,rfl,rfl,rfl,rfl,rfl,jU⟩
def Zne(b c:Box):Box:=⟨(dh 16).map λi=>mm2 ac (b.low.getD i 0) (c.low.getD i 0),(dh 16).map λi=>mm2 ab (b.high.getD i 0) (c.high.getD i 0)⟩
def Zeu(b c:Box):Nat->Nat->Bool
 |0,_=>ac
 |n+1,i=>if mm2 ac (b.low.getD i 0) (c.low.getD i 0)<=mm2 ab (b.high.getD i 0) (c.high.getD i 0) then Zeu b c n (i+1) else ab
def mtC(b c z:Box) (e:Bool):Nat->Nat->Prop
 |0,_=>eqB (Zne b c) z/\ac=e/\True
 |n+1,i=>(decide (mm2 ac (b.low.getD i 0) (c.low.getD i 0)<=mm2 ab (b.high.getD i 0) (c.high.getD i 0))=ac->mtC b c z e n (i+1))/\(decide (mm2 ac (b.low.getD i 0) (c.low.getD i 0)<=mm2 ab (b.high.getD i 0) (c.high.getD i 0))=ab->eqB (Zne b c) z/\ab=e/\True)
theorem Z5n(b c:Box) (z:Box) (e:Bool):Zk E F0 (vc E F0 400) 88 [boxV b,boxV c] hp0 0 (λr=>ret E (patch hp0 0 r) r.v (.tup [boxV z,.bool ab e]))=mtC b c z e 16 0:=by kernel_rfl
theorem Ydo(b c:Box):∀(n i:Nat),mtC b c (Zne b c) (Zeu b c n i) n i
 |0,_=>⟨Wd _,rfl,jU⟩
 |n+1,i=>by
  unfold mtC Zeu
  refine aD (λh=> ?_) (λh=> ?_)
  ·rw[jQ (jg h)];exact Ydo b c n (i+1)
  ·rw[jG (jj h)];exact⟨Wd _,rfl,jU⟩
theorem Z5o(b c:Box):PureC E 88 [boxV b,boxV c] (.tup [boxV (Zne b c),.bool ab (Zeu b c 16 0)]):=by
 refine Za E_ok (Zd E_ok F0_ok 400) ?_;rw[Z5n];exact Ydo b c 16 0
def allB:Box:=⟨aO 16 0,aO 16 9007199254740992⟩
theorem Z5p(z:Box):Zk E F0 (vc E F0 400) 86 [] hp0 0 (λr=>ret E (patch hp0 0 r) r.v (boxV z))=eqB allB z:=by kernel_rfl
theorem Z5q:PureC E 86 [] (boxV allB):=by
 refine Za E_ok (Zd E_ok F0_ok 400) ?_;rw[Z5p];exact Wd _
def cutF(b:Box) (t:Tst):Box:=⟨(dh 16).map λi=>if i=t.attr.toNat then mm2 ac (b.low.getD i 0) t.low else b.low.getD i 0,(dh 16).map λi=>if i=t.attr.toNat then mm2 ab (b.high.getD i 0) t.high else b.high.getD i 0⟩
theorem Yaw(b:Box) (lo hi:Int) (z:Box):∀a:Nat,a<16->Zk E F0 (vc E F0 400) 87 [boxV b,.agg [.int ac .i64 (iz a),.int ab .i64 lo,.int ab .i64 hi]] hp0 0 (λr=>ret E (patch hp0 0 r) r.v (boxV z))=eqB (cutF b ⟨iz a,lo,hi⟩) z
 |0,_=>by kernel_rfl
 |1,_=>by kernel_rfl
 |2,_=>by kernel_rfl
 |3,_=>by kernel_rfl
 |4,_=>by kernel_rfl
 |5,_=>by kernel_rfl
 |6,_=>by kernel_rfl
 |7,_=>by kernel_rfl
 |8,_=>by kernel_rfl
 |9,_=>by kernel_rfl
 |10,_=>by kernel_rfl
 |11,_=>by kernel_rfl
 |12,_=>by kernel_rfl
 |13,_=>by kernel_rfl
 |14,_=>by kernel_rfl
 |15,_=>by kernel_rfl
 |a+16,h=>by omega
theorem Yax(b:Box) (t:Tst) (h0:0<=t.attr) (J:t.attr<16):PureC E 87 [boxV b,.agg (encF ab .tests t)] (boxV (cutF b t)):=by
 obtain⟨a,ha⟩:=Int.eq_ofNat_of_zero_le h0;have hp:PureC E 87 [boxV b,.agg [.int ac .i64 (iz a),.int ab .i64 t.low,.int ab .i64 t.high]] (boxV (cutF b ⟨iz a,t.low,t.high⟩)):=by
  refine Za E_ok (Zd E_ok F0_ok 400) ?_;rw[Yaw b t.low t.high _ a (by omega)];exact Wd _
 have e:t=⟨iz a,t.low,t.high⟩:=by cases t;simp at ha⊢;exact ha
 rw[e];intro g w a0 hI R;refine hp g w a0 hI ⟨R.1,λj sv u J U=> ?_⟩
 match j,J with
 |0,J=>cases J;exact R.2 0 _ u rfl U
 |1,J=>
  cases J;obtain⟨arr,c,rfl,hs,hc,hd⟩:=Yj (R.2 1 _ u rfl U);refine .agg c hs (λj I=>hc j I) (λj sv I=> ?_)
  match j,I with
  |0,I=>
   cases I;have:=hd 0 _ rfl;generalize c 0=v at this;cases this;exact .int _ _ _
  |1,I=>cases I;exact hd 1 _ rfl
  |2,I=>cases I;exact hd 2 _ rfl
end
section
open Go
noncomputable def Yg2:Sum thy:=Wn (.cons (dR .boxes) (.cons (dR .boxes) .nil)) (λ_=>True) (λx=>(Zne x.1 x.2.1,Zeu x.1 x.2.1 16 0)) λy=> .tup [boxV y.1,.bool ab y.2]
theorem Zv5:SumOk E 88 Yg2:=Zz E_ok (Zc (f:=88) rfl) λx _=>Z5o x.1 x.2.1
noncomputable def Scut:Sum thy:=Wn (.cons (dR .boxes) (.cons (dR .tests) .nil)) (λx=>0<=x.2.1.attr/\x.2.1.attr<16) (λx=>cutF x.1 x.2.1) boxV
theorem Yg3:SumOk E 87 Scut:=Zz E_ok (Zc (f:=87) rfl) λx h=>Yax x.1 x.2.1 h.1 h.2
noncomputable def Ykw:Sum thy:=Wn (.nil (E:=E)) (λ_=>True) (λ_=>allB) boxV
theorem Z95:SumOk E 86 Ykw:=Zz E_ok (Zc (f:=86) rfl) λ_ _=>Z5q
def zB:Box:=⟨aO 16 0,aO 16 0⟩
def mkB(b:Box):Box:=⟨[ah b.low 0 0,ah b.low 1 0,ah b.low 2 0,ah b.low 3 0,ah b.low 4 0,ah b.low 5 0,ah b.low 6 0,ah b.low 7 0,ah b.low 8 0,ah b.low 9 0,ah b.low 10 0,ah b.low 11 0,ah b.low 12 0,ah b.low 13 0,ah b.low 14 0,ah b.low 15 0],[ah b.high 0 0,ah b.high 1 0,ah b.high 2 0,ah b.high 3 0,ah b.high 4 0,ah b.high 5 0,ah b.high 6 0,ah b.high 7 0,ah b.high 8 0,ah b.high 9 0,ah b.high 10 0,ah b.high 11 0,ah b.high 12 0,ah b.high 13 0,ah b.high 14 0,ah b.high 15 0]⟩
structure BxX where
 k:Nat
 r:Nat
 b:Box
def Aof:Fr thy->Hp thy->Nat->Ann thy:=λT h i=>{X:=BxX,fr:=λx=> [(2,T 2),(4,T 4),(11,T 11),(12,T 12),(13,.int ab .i64 x.k)],bl:=λx=>(bOf (T 4),.raw (encF ab .boxes x.b) 0 ar)::blkP h (T 2),src:=λ_=> [],md:= [bOf (T 4),bOf (T 2)],ih:=i,M:=i+40,meas:=λx=>x.r}
noncomputable def Fof:Fns thy:=addL (addS (addS (addS F0 88 Yg2) 87 Scut) 86 Ykw) 44 3 Aof E
theorem Ykx:FnsOk E Fof:=Zm E_ok (Zb (Zb (Zb F0_ok Zv5) Yg3) Z95) _ _ _
abbrev qBT1(I:Cls):=(↑(aa (aY I)):Int)
abbrev qBT2(I:BxX):=(↑(BxX.k I):Int)
theorem Z96(c:Cls) (z:Box) (e:Bool):Zk E Fof (vc E Fof 400) 44 [.agg (encF ab .clauses c)] hp0 0 (λr=>ret E (patch hp0 0 r) r.v (.tup [boxV z,.bool ab e]))=(
 True/\∀(y:Box),y=allB->∃(R:BxX->Prop),(∃(x:BxX),R x/\ac=ac/\(0=0/\0=0/\(aY c=aY c/\(ab=ac->ab=ac))/\(qBT1 c)=(qBT1 c)/\0=(qBT2 x)/\True)/\(eqB y (BxX.b x))/\(eqB zB zB)/\True)/\∀(x:BxX),R x->(decide ((qBT2 x)<(qBT1 c))=ac->0<=(qBT2 x)/\(qBT2 x)+1<=(qBT1 c)/\∀(I:Tst),(aY c)[ag (qBT2 x)]? =ae I->∃(Q:Bool->Prop),((decide (eg I<0)=ac->Q ac)/\(decide (eg I<0)=ab->(decide (eg I>=16)=ac->Q ac)/\(decide (eg I>=16)=ab->Q ab)))/\(Q ac->(eqB zB z)/\ab=e/\True)/\(Q ab->(0<=eg I/\eg I+(1:Int)<=16)/\∀(y:Box),y=cutF (mkB (BxX.b x)) I->∃(J:BxX),R J/\J.2+1<=x.2/\ac=ac/\(0=0/\0=0/\(aY c=aY c/\(ab=ac->ab=ac))/\(qBT1 c)=(qBT1 c)/\wr af ((qBT2 x)+1)=(qBT2 J)/\True)/\(eqB y (BxX.b J))/\(eqB zB zB)/\True))/\(decide ((qBT2 x)<(qBT1 c))=ab->True/\∀(y:Box×Bool),y=(Zne (mkB (BxX.b x)) (mkB (BxX.b x)),Zeu (mkB (BxX.b x)) (mkB (BxX.b x)) 16 0)->(ay y=ac->(eqB (ao y) z)/\ac=e/\True)/\(ay y=ab->(eqB zB z)/\ab=e/\True))):=by kernel_rfl
def ofL:List Tst->Box->Option Box
 | [],b=>ae b
 |t::r,b=>if t.attr<0\/16<=t.attr then ar else ofL r (cutF b t)
def ofE(o:Option Box):Box×Bool:=o.elim (zB,ab) λb=>if Zeu b b 16 0=ac then(Zne b b,ac) else(zB,ab)
def ofF(c:Cls):Box×Bool:=ofE (ofL c.when_ allB)
theorem Zp2{α:Type} {l:List α} {q:Nat} {y:α} (h:l[q]? =ae y):l.drop q=y::l.drop (q+1):=by
 have I:=(aj.1 h).1;rw[cw I];congr 1;rw[ak I] at h;exact ba h
theorem Yg4(c:Cls) (hl:c.when_.length<1000000000):PureC E 44 [.agg (encF ab .clauses c)] (.tup [boxV (ofF c).1,.bool ab (ofF c).2]):=by
 refine Za E_ok (Zd E_ok Ykx 400) ?_;rw[Z96];delta qBT1 qBT2;refine⟨jU,λy hy=>⟨λx=>x.k+x.r=c.when_.length/\mkB x.b=x.b/\ofL (c.when_.drop x.k) x.b=ofL c.when_ allB,⟨⟨0,c.when_.length,allB⟩,⟨bm _,rfl,rfl⟩,rfl,⟨rfl,rfl,⟨rfl,id⟩,rfl,rfl,jU⟩,by rw[hy];exact Wd _,Wd _,jU⟩,?_⟩⟩;rintro x ⟨h1,h2,I⟩;refine aD (λJ=> ?_) (λJ=> ?_)
 ·have J:=jg J
  refine⟨by omega,by omega,λt ht=> ?_⟩;rw[bA] at ht;rw[Zp2 ht,ofL] at I;refine⟨λb=>b=ac↔(t.attr<0\/16<=t.attr),⟨λh=>⟨λ_=>Or.inl (jg h),λ_=>rfl⟩,λh=>⟨λR=>⟨λ_=>Or.inr (jg R),λ_=>rfl⟩,λR=>⟨(λe=>by cases e),λe=>by have:=jj h;have:=jj R;omega⟩⟩⟩,λU=> ?_,λU=> ?_⟩
  ·rw[jQ (U.1 rfl)] at I
   have e:ofF c=(zB,ab):=by unfold ofF;rw[<-I];rfl
   rw[e];exact⟨Wd _,rfl,jU⟩
  ·have hn:¬(t.attr<0\/16<=t.attr):=λh=>by have:=U.2 h;cases this
   rw[jG hn] at I;rw[h2];exact⟨by omega,λz hz=>⟨⟨x.k+1,x.r-1,z⟩,⟨by show x.k+1+(x.r-1)=_;omega,by rw[hz];rfl,by rw[hz];exact I⟩,by show x.r-1+1<=x.r;omega,rfl,⟨rfl,rfl,⟨rfl,id⟩,rfl,wr64 (by omega) (by omega),jU⟩,Wd _,Wd _,jU⟩⟩
 ·have J:=jj J
  rw[gA (by omega),ofL] at I;have e:ofF c=if Zeu x.b x.b 16 0=ac then(Zne x.b x.b,ac) else(zB,ab):=by unfold ofF;rw[<-I];rfl
  rw[h2,e];refine⟨jU,λy hy=> ?_⟩;rw[hy];refine aD (λh=> ?_) (λh=> ?_)
  ·rw[jQ h];exact⟨Wd _,rfl,jU⟩
  ·have h:Zeu x.b x.b 16 0=false:=h
   rw[jG (by rw[h];simp)];exact⟨Wd _,rfl,jU⟩
noncomputable def SofB:Sum thy:=Wn (.cons (dR .clauses) .nil) (λx=>x.1.when_.length<1000000000) (λx=>ofF x.1) λy=> .tup [boxV y.1,.bool ab y.2]
theorem Yg5:SumOk E 44 SofB:=Zz E_ok (Zc (f:=44) rfl) λx h=>Yg4 x.1 h
structure OvX where
 k:Nat
 r:Nat
 L:List Box
 M:List Bool
def Ack1:Fr thy->Hp thy->Nat->Ann thy:=λT h i=>{X:=OvX,fr:=λx=> [(1,T 1),(12,T 12),(13,T 13),(14,.int ab .i64 x.k)],bl:=λx=>blkP h (T 1),src:=λ_=> [],md:= [],ih:=i,M:=i+40,meas:=λx=>x.r}
def Aov1:Fr thy->Hp thy->Nat->Ann thy:=λT h i=>{X:=OvX,fr:=λx=> [(4,T 4),(6,T 6),(7,T 7),(23,T 23),(24,T 24),(25,.int ab .i64 x.k)],bl:=λx=>(bOf (T 6),.rows Th.boxes x.L 0)::(bOf (T 7),.rows bK x.M 0)::blkP h (T 4),src:=λ_=> [],md:= [bOf (T 6),bOf (T 7)],ih:=i,M:=i+40,meas:=λx=>x.r}
def Aov2:Fr thy->Hp thy->Nat->Ann thy:=λT h i=>{X:=OvX,fr:=λx=> [(4,T 4),(6,T 6),(7,T 7),(43,T 43),(44,.int ab .i64 x.k)],bl:=λx=>blkS h (T 6)++(blkS h (T 7)++blkP h (T 4)),src:=λ_=> [],md:= [bOf (T 4)],ih:=i,M:=i+60,meas:=λx=>x.r}
def Aov3:Fr thy->Hp thy->Nat->Ann thy:=λT h i=>{X:=OvX,fr:=λx=> [(4,T 4),(6,T 6),(7,T 7),(10,T 10),(43,T 43),(44,T 44),(11,.int ab .i64 x.k)],bl:=λx=>blkS h (T 6)++(blkS h (T 7)++blkP h (T 4)),src:=λ_=> [],md:= [bOf (T 4)],ih:=i,M:=i+40,meas:=λx=>x.r}
noncomputable def Fckb:Fns thy:=addL (addL (addL (addL (addS (addS F0 88 Yg2) 44 SofB) 12 2 Ack1 E) 45 4 Aov1 E) 45 9 Aov2 E) 45 12 Aov3 E
theorem Yg6:FnsOk E Fckb:=Zm E_ok (Zm E_ok (Zm E_ok (Zm E_ok (Zb (Zb F0_ok Zv5) Yg5) _ _ _) _ _ _) _ _ _) _ _ _
abbrev Uz(t:Tar):Prop:=
 (0:Nat)=(0:Nat)/\ag (↑(aa (au t)):Int)=ag (↑(aa (au t)):Int)/\ag (↑(aa (au t)):Int)=
 ag (↑(aa (au t)):Int)
abbrev Zi4:Prop:=
 (0:Int)=(0:Int)/\(0:Int)=(0:Int)/\(0:Int)=(0:Int)/\(0:Int)=(0:Int)/\(0:Int)=(0:Int)/\(0:Int)=(0:Int)/\(0:Int)=(0:Int)/\(0:Int)
 =(0:Int)/\(0:Int)=(0:Int)/\(0:Int)=(0:Int)/\(0:Int)=(0:Int)/\(0:Int)=(0:Int)/\(0:Int)=(0:Int)/\(0:Int)=(0:Int)/\(0:Int)=(0:
 Int)/\(0:Int)=(0:Int)/\(0:Int)=(0:Int)/\True
abbrev Zi5(t:Tar):Prop:=
 au t=au t/\(ab=ac->ab=ac)
abbrev Z4i(I:Cls):=
 (fb (aP I) (aY I) (bY (aJ (aE I)) (cd (aE I)) (bC (aE I)) (bD (aE I)) (bE (aE I)) (bF (aE I))
 (bx (aE I))))
abbrev Zp3(x:OvX) (t:Tar):Prop:=
 (↑(OvX.k x):Int)<(↑(aa (au t)):Int)
abbrev Z4j(x:OvX) (t:Tar):Prop:=
 (0:Int)<=(↑(OvX.k x):Int)/\(↑(OvX.k x):Int)+(1:Int)<=(↑(ag (↑(aa (au t)):Int)):Int)
abbrev Z4k(I:OvX) (t:Tar):Prop:=
 (0:Int)<=(↑(OvX.k I):Int)/\(↑(OvX.k I):Int)+(1:Int)<=(↑(ag (↑(aa (au t)):Int)):Int)
abbrev Z4l(I:OvX) (t:Tar):Prop:=
 (0:Int)<=(↑(OvX.k I):Int)/\(↑(OvX.k I):Int)+(1:Int)<=(↑(ag (↑(aa (au t)):Int)):Int)
abbrev qBT3(I:Tar):=(↑(aa (au I)):Int)
abbrev qBT4(I:OvX):=(↑(OvX.k I):Int)
abbrev qBT5:=(0:Nat)
abbrev qBT6(I:Tar):=(↑(ag (qBT3 I)):Int)
abbrev qBT7:=(1:Nat)
abbrev qBT8(I:OvX):=(OvX.L I=OvX.L I/\qBT5=qBT5)
abbrev qBT9(I:OvX):=(OvX.M I=OvX.M I/\qBT5=qBT5)
theorem Z97(t:Tar) (e:Int):Zk E Fckb (vc E Fckb 400) 12 [.agg (encF ab .tariffs t)] hp0 0 (λr=>ret E (patch hp0 0 r) r.v (.int ab .i64 e))=(
 ∃(R:OvX->Prop),(∃(x:OvX),R x/\ac=ac/\(qBT5=qBT5/\(Zi5 t)/\(qBT3 t)=(qBT3 t)/\0=(qBT4 x)/\True)/\(bP t=bP t/\bG t=bG t/\(Zi5 t)/\True)/\True)/\∀(x:OvX),R x->(decide (Zp3 x t)=ac->0<=(qBT4 x)/\(qBT4 x)+1<=(qBT3 t)/\∀(I:Cls),(au t)[ag (qBT4 x)]? =ae I->aa (aY I)+qBT7<=1000000000/\∀(y:Box×Bool),y=ofF (Z4i I)->((!ay y)=ac->190=e)/\((!ay y)=ab->∃(J:OvX),R J/\J.2+qBT7<=x.2/\ac=ac/\(qBT5=qBT5/\(Zi5 t)/\(qBT3 t)=(qBT3 t)/\wr af ((qBT4 x)+1)=(qBT4 J)/\True)/\(bP t=bP t/\bG t=bG t/\(Zi5 t)/\True)/\True))/\(decide (Zp3 x t)=ab->0<=(qBT3 t)/\(qBT3 t)<=(qBT3 t)/\(↑256:Int)*(qBT3 t)<=281474976710656/\0<=(qBT3 t)/\(qBT3 t)<=(qBT3 t)/\(↑qBT7:Int)*(qBT3 t)<=281474976710656/\∃(R:OvX->Prop),(∃(x:OvX),R x/\ac=ac/\(qBT5=qBT5/\(Uz t)/\(Uz t)/\(Zi5 t)/\(qBT3 t)=(qBT3 t)/\0=(qBT4 x)/\True)/\(aO (ag (qBT3 t)) (zB)=OvX.L x/\qBT5=qBT5)/\(aO (ag (qBT3 t)) ab=OvX.M x/\qBT5=qBT5)/\(Zi4)/\True)/\∀(x:OvX),R x->(decide (Zp3 x t)=ac->0<=(qBT4 x)/\(qBT4 x)+1<=(qBT3 t)/\∀(I:Cls),(au t)[ag (qBT4 x)]? =ae I->aa (aY I)+qBT7<=1000000000/\∀(y:Box×Bool),y=ofF (Z4i I)->(Z4j x t)/\qBT5<=qBT5+ag (qBT4 x)/\qBT5+ag (qBT4 x)+qBT7<=aa (OvX.L x)/\∀(J:Box),(OvX.L x)[qBT5+ag (qBT4 x)]? =ae J->(Z4j x t)/\qBT5<=qBT5+ag (qBT4 x)/\qBT5+ag (qBT4 x)+qBT7<=aa (OvX.M x)/\∀(U:Bool),(OvX.M x)[qBT5+ag (qBT4 x)]? =ae U->∃(a0:OvX),R a0/\a0.2+qBT7<=x.2/\ac=ac/\(qBT5=qBT5/\(Uz t)/\(Uz t)/\(Zi5 t)/\(qBT3 t)=(qBT3 t)/\wr af ((qBT4 x)+1)=(qBT4 a0)/\True)/\(du (OvX.L x) (qBT5+ag (qBT4 x)) (mkB (ao y))=OvX.L a0/\qBT5=qBT5)/\(du (OvX.M x) (qBT5+ag (qBT4 x)) (ay y)=OvX.M a0/\qBT5=qBT5)/\(Zi4)/\True)/\(decide (Zp3 x t)=ab->∃(R:OvX->Prop),(∃(I:OvX),R I/\ac=ac/\(qBT5=qBT5/\(Uz t)/\(Uz t)/\(qBT6 t)=(qBT6 t)/\0=(qBT4 I)/\True)/\(qBT8 x)/\(qBT9 x)/\(Zi4)/\True)/\∀(I:OvX),R I->(decide ((qBT4 I)<(qBT6 t))=ac->∃(a2:OvX->Prop),(∃(J:OvX),a2 J/\ac=ac/\(qBT5=qBT5/\(Uz t)/\(Uz t)/\(qBT4 I)=(qBT4 I)/\(qBT6 t)=(qBT6 t)/\(qBT4 I)=(qBT4 I)/\wr af ((qBT4 I)+1)=(qBT4 J)/\True)/\(qBT8 x)/\(qBT9 x)/\(Zi4)/\True)/\∀(J:OvX),a2 J->(decide ((qBT4 J)<(qBT6 t))=ac->(Z4k I t)/\qBT5+ag (qBT4 I)+qBT7<=aa (OvX.L x)/\∀(U:Box),(OvX.L x)[qBT5+ag (qBT4 I)]? =ae U->(Z4l J t)/\qBT5+ag (qBT4 J)+qBT7<=aa (OvX.L x)/\∀(a0:Box),(OvX.L x)[qBT5+ag (qBT4 J)]? =ae a0->True/\∀(y:Box×Bool),y=(Zne (mkB U) (mkB a0),Zeu (mkB U) (mkB a0) 16 qBT5)->∃(Q:Bool->Prop),((ay y=ac->(Z4k I t)/\qBT5+ag (qBT4 I)+qBT7<=aa (OvX.M x)/\∀(a1:Bool),(OvX.M x)[qBT5+ag (qBT4 I)]? =ae a1->(a1=ac->(Z4l J t)/\qBT5+ag (qBT4 J)+qBT7<=aa (OvX.M x)/\∀(a3:Bool),(OvX.M x)[qBT5+ag (qBT4 J)]? =ae a3->Q a3)/\(a1=ab->Q ab))/\(ay y=ab->Q ab))/\(Q ac->190=e)/\(Q ab->∃(a1:OvX),a2 a1/\a1.2+qBT7<=J.2/\ac=ac/\(qBT5=qBT5/\(Uz t)/\(Uz t)/\(qBT4 I)=
(qBT4 I)/\(qBT6 t)=(qBT6 t)/\(qBT4 I)=(qBT4 I)/\wr af ((qBT4 J)+1)=(qBT4 a1)/\True)/\(qBT8 x)/\(qBT9 x)/\(Zi4)/\True))/\(decide ((qBT4 J)<(qBT6 t))=ab->∃(U:OvX),R U/\U.2+qBT7<=I.2/\ac=ac/\(qBT5=qBT5/\(Uz t)/\(Uz t)/\(qBT6 t)=(qBT6 t)/\wr af ((qBT4 I)+1)=(qBT4 U)/\True)/\(qBT8 x)/\(qBT9 x)/\(Zi4)/\True))/\(decide ((qBT4 I)<(qBT6 t))=ab->0=e)))):=by kernel_rfl
def ovJ(p:Box×Bool):List (Box×Bool)->Bool
 | []=>ab
 |q::r=>if Zeu p.1 q.1 16 0=ac/\p.2=ac/\q.2=ac then ac else ovJ p r
def ovL:List (Box×Bool)->Bool
 | []=>ab
 |p::r=>if ovJ p r=ac then ac else ovL r
def chkB(t:Tar):Int:=if(t.clauses.all λc=>(ofF c).2)=ab then 190 else if ovL (t.clauses.map ofF)=ac then 190 else 0
theorem Z4m(c:Cls):mkB (ofF c).1=(ofF c).1:=by
 unfold ofF ofE;cases ofL c.when_ allB with
 |none=>rfl
 |some b=>
  simp only[Option.elim_some];split<;>rfl
theorem Z98(t:Tar) (hw:∀c∈t.clauses,c.when_.length<1000000000) (hl:t.clauses.length<1000000000):PureC E 12 [.agg (encF ab .tariffs t)] (.int ab .i64 (chkB t)):=by
 refine Za E_ok (Zd E_ok Yg6 400) ?_;rw[Z97];delta qBT3 qBT4 qBT5 qBT6 qBT7 qBT8 qBT9;unfold Z4l Z4k Z4j Zp3 Z4i Zi5 Zi4 Uz
 simp only[Yk,Z9,Wp,Wq,Ws,hJ,ir,fR,gg,fK,fC,be,bB,bn,cj,aq,cH,cx,bi,iO,ne_eq,and_true,true_and,aR,aL,false_or,or_false,jR,ko,bV,iW,je,bv,bA,bm,Ex.eta];generalize a3:t.clauses=cs at*
 have hS:chkB t=if(cs.all λc=>(ofF c).2)=ab then 190 else if ovL (cs.map ofF)=ac then 190 else 0:=by unfold chkB;rw[a3]
 rw[hS];clear hS a3;refine⟨λx=>x.k+x.r=cs.length/\∀c∈cs.take x.k,(ofF c).2=ac,⟨⟨0,cs.length,[],[]⟩,⟨bm _,by simp⟩,rfl⟩,?_⟩;rintro x ⟨U,I⟩;refine aD (λhk=>⟨by omega,by omega,λc hc=>⟨by have:=hw c (aI hc);omega,λy R=>aD (λJ=> ?_) (λJ=> ?_)⟩⟩) (λhk=> ?_)
 ·rw[jQ]
  refine List.all_eq_false.2 ⟨c,aI hc,?_⟩;have R:y=ofF c:=R;rw[<-R,J];simp
 ·refine⟨⟨x.k+1,x.r-1,[],[]⟩,⟨by show x.k+1+(x.r-1)=_;omega,?_⟩,by show x.r-1+1<=x.r;omega,wr64 (by omega) (by omega)⟩
  intro d hd;rw[show(⟨x.k+1,x.r-1,[],[]⟩:OvX).k=x.k+1 from rfl,List.take_add_one,hc,List.mem_append] at hd;rcases hd with hd|hd
  ·exact I d hd
  ·rw[cr.1 hd]
   have R:y=ofF c:=R;rw[<-R];exact J
 ·rw[List.take_of_length_le (by omega)] at I
  have a1:¬(cs.all λc=>(ofF c).2)=false:=by
   rw[Bool.not_eq_false];exact fH.2 λc hc=>I c hc
  rw[jG a1];clear hk U I x a1;refine⟨by omega,by omega,by omega,by omega,by omega,by omega,?_⟩;refine⟨λx=>x.k+x.r=cs.length/\x.L.length=cs.length/\x.M.length=cs.length/\∀j,j<x.k->x.L[j]? =(cs[j]?).map (λc=>(ofF c).1)/\x.M[j]? =(cs[j]?).map (λc=>(ofF c).2),⟨⟨0,cs.length,aO cs.length zB,aO cs.length ab⟩,⟨bm _,by simp,by simp,λj hj=>by cases hj⟩,rfl,rfl,rfl⟩,?_⟩;rintro x ⟨U,I,J,h4⟩;refine aD (λhk=>⟨by omega,by omega,λc hc=>⟨by have:=hw c (aI hc);omega,λy R=> ?_⟩⟩) (λhk=> ?_)
  ·have R:y=ofF c:=R
   refine⟨⟨by omega,by omega⟩,aX _,by omega,λ_ _=>⟨⟨by omega,by omega⟩,aX _,by omega,λ_ _=>⟨⟨x.k+1,x.r-1,x.L.set x.k (mkB y.1),x.M.set x.k y.2⟩,⟨by show x.k+1+(x.r-1)=_;omega,by simp[I],by simp[J],?_⟩,by show x.r-1+1<=x.r;omega,wr64 (by omega) (by omega),rfl,rfl⟩⟩⟩;intro j hj;have hj:j<x.k+1:=hj;show(x.L.set x.k (mkB y.1))[j]? =_/\(x.M.set x.k y.2)[j]? =_;rw[jN,jN];by_cases e:x.k=j
   ·subst e
    rw[jQ rfl,jQ rfl,jQ (by omega),jQ (by omega),hc,R,Z4m];exact⟨rfl,rfl⟩
   ·rw[jG e,jG e]
    exact h4 j (by omega)
  ·have eL:x.L=cs.map λc=>(ofF c).1:=jO λj=>by
    rw[bq];rcases fD j cs.length with h|h
    ·exact(h4 j (by omega)).1
    ·rw[eC (by omega),eC (by omega)];rfl
   have eM:x.M=cs.map λc=>(ofF c).2:=jO λj=>by
    rw[bq];rcases fD j cs.length with h|h
    ·exact(h4 j (by omega)).2
    ·rw[eC (by omega),eC (by omega)];rfl
   rw[eL,eM];clear eL eM U I J h4 hk x;have gL:∀{j:Nat} {b:Box},(cs.map λc=>(ofF c).1)[j]? =ae b->∃c,cs[j]? =ae c/\b=(ofF c).1:=λh=>by
    rw[bq] at h;obtain⟨c,U,I⟩:=bk.1 h;exact⟨c,U,I.symm⟩
   have gM:∀{j:Nat} {b:Bool},(cs.map λc=>(ofF c).2)[j]? =ae b->∃c,cs[j]? =ae c/\b=(ofF c).2:=λh=>by
    rw[bq] at h;obtain⟨c,U,I⟩:=bk.1 h;exact⟨c,U,I.symm⟩
   have gP:∀{j:Nat} {c:Cls},cs[j]? =ae c->(cs.map ofF).drop j=ofF c::(cs.map ofF).drop (j+1):=λh=>Zp2 (by rw[bq,h];rfl);refine⟨λx=>x.k+x.r=cs.length/\ovL ((cs.map ofF).drop x.k)=ovL (cs.map ofF),⟨⟨0,cs.length,[],[]⟩,⟨bm _,rfl⟩,rfl⟩,?_⟩;rintro x ⟨U,I⟩;refine aD (λhk=> ?_) (λhk=> ?_)
   ·obtain⟨ci,a0⟩:∃c,cs[x.k]? =ae c:=⟨_,ak (by omega)⟩
    rw[gP a0,ovL] at I;refine⟨λy=>y.k+y.r=cs.length/\ovJ (ofF ci) ((cs.map ofF).drop y.k)=ovJ (ofF ci) ((cs.map ofF).drop (x.k+1)),⟨⟨x.k+1,x.r-1,[],[]⟩,⟨by show x.k+1+(x.r-1)=_;omega,rfl⟩,wr64 (by omega) (by omega)⟩,?_⟩;rintro y ⟨k1,k2⟩;refine aD (λa9=> ?_) (λa9=> ?_)
    ·refine⟨⟨by omega,by omega⟩,by simp;omega,λb1 a4=>⟨⟨by omega,by omega⟩,by simp;omega,λb2 a5=> ?_⟩⟩
     obtain⟨c1,a6,rfl⟩:=gL a4;obtain⟨c2,a2,rfl⟩:=gL a5;obtain rfl:=ba (a0.symm.trans a6);rw[gP a2,ovJ] at k2;rw[Z4m,Z4m];intro z hz;refine⟨λb=>b=ac↔(Zeu (ofF ci).1 (ofF c2).1 16 0=ac/\(ofF ci).2=ac/\(ofF c2).2=ac),⟨λJ=>⟨⟨by omega,by omega⟩,by simp;omega,λm1 b0=> ?_⟩,λJ=> ?_⟩,λhq=> ?_,λhq=> ?_⟩
     ·obtain⟨d1,a7,rfl⟩:=gM b0
      obtain rfl:=ba (a0.symm.trans a7);have J:Zeu (ofF ci).1 (ofF c2).1 16 0=true:=by rw[hz] at J;exact J
      refine aD (λh4=>⟨⟨by omega,by omega⟩,by simp;omega,λm2 b3=> ?_⟩) (λh4=> ?_)
      ·obtain⟨d2,a8,rfl⟩:=gM b3
       obtain rfl:=ba (a2.symm.trans a8);exact⟨λh=>⟨J,h4,h⟩,λh=>h.2.2⟩
      ·exact⟨(λh=>by cases h),λh=>by rw[h4] at h;cases h.2.1⟩
     ·have J:Zeu (ofF ci).1 (ofF c2).1 16 0=false:=by rw[hz] at J;exact J
      exact⟨(λh=>by cases h),λh=>by rw[J] at h;cases h.1⟩
     ·rw[jQ (hq.1 rfl)] at k2
      rw[jQ k2.symm] at I;rw[jQ I.symm]
     ·rw[jG (λh=>by have:=hq.2 h;cases this)] at k2
      exact⟨⟨y.k+1,y.r-1,[],[]⟩,⟨by show y.k+1+(y.r-1)=_;omega,k2⟩,by show y.r-1+1<=y.r;omega,wr64 (by omega) (by omega)⟩
    ·rw[gA (by simp;omega),ovJ] at k2
     rw[jG (by rw[<-k2];simp)] at I;exact⟨⟨x.k+1,x.r-1,[],[]⟩,⟨by show x.k+1+(x.r-1)=_;omega,I⟩,by show x.r-1+1<=x.r;omega,wr64 (by omega) (by omega)⟩
   ·rw[gA (by simp;omega),ovL] at I
    rw[jG (by rw[<-I];simp)]
end
section
open Go.RowKit
section
variable {Y:Thy} {E:Eng Y}
def one(cs:List (SV Y)):Hp Y:=λb=>match aK b 0 with|true=>ae (.raw cs 0 ar)|false=>ar
theorem Z2h(cs:List (SV Y)):one cs 0=ae (.raw cs 0 ar):=rfl
theorem Zd8{cs:List (SV Y)} {b:Nat} (h:one cs b≠ar):b=0:=by
 cases b with
 |zero=>rfl
 |succ b=>exact kc rfl h
theorem U5{cs:List (SV Y)} {b:Nat} {x:Blk Y} (h:one cs b=ae x):b=0/\x= .raw cs 0 none:=by
 have:=Zd8 (cs:=cs) (b:=b) (by rw[h];simp);subst this;rw[Z2h] at h;cases h;exact⟨rfl,rfl⟩
theorem Yfc(cs:List (SV Y)):DomLt (one cs) 1:=λb I=>by have:=Zd8 I;omega
def σ1(p:Nat×Nat):Pl:=λb=>match aK b 0 with|true=>ae p|false=>ar
theorem σ1_some{p q:Nat×Nat} {b:Nat} (h:σ1 p b=ae q):b=0/\q=p:=by
 cases b with
 |zero=>cases h;exact⟨rfl,rfl⟩
 |succ b=>cases h
def mutR(v:SV Y) (cs:List (SV Y)):Res Y:=⟨v,0,[0],at1 0 (ae (.raw cs 0 ar)),ar⟩
def panR(p:Value):Res Y:=⟨.pan p,0,[0],λ_=>ar,ar⟩
theorem Zyh(cs cs':List (SV Y)) (v:SV Y):patch (one cs) 1 (mutR v cs')=one cs':=by
 funext b;rw[Zp];cases b with
 |zero=>simp[mutR,at1,one]
 |succ b=>
  rw[jG (by simp[mutR])];rfl
theorem Zyi(cs:List (SV Y)) (p:Value):patch (one cs) 1 (panR p)=λ_=>none:=by
 funext b;rw[Zp];cases b with
 |zero=>simp[panR]
 |succ b=>
  rw[jG (by simp[panR])];rfl
def MutC(E:Eng Y) (f:FuncId) (cs rest:List (SV Y)) (v:SV Y) (I:List (SV Y)):Prop:=Vg E f (.ptr 0 0::rest) (one cs) 1 (mutR v I)
def MutP(E:Eng Y) (f:FuncId) (cs rest:List (SV Y)) (p:Value):Prop:=Zsg E f (.ptr 0 0::rest) (one cs) 1 (panR p)
theorem Zr7(hE:EngOk E) {B:Nat} {σ:Pl} {h:Hp Y} {g:GH} {w:World} {b r z:Nat} {cs R:List (SV Y)} {tg:Option Y.Th} (I:Inv E B σ h g w) (hb:h b=ae (.raw cs 0 tg)) (a0:σ b=ae (r,z)) (a4:cs.length=R.length) (hn:nidL 0 R=ac)
 (a3:∀σ g (j:Nat) a1,R[j]? =ae a1->∃sv,cs[j]? =ae sv/\∀u,Den E σ g sv u->Den E σ g a1 u):Inv E B (σ1 (r,z)) (one R) g w:=by
 refine⟨I.gc,I.gm,λx y hx=> ?_,λx x' r z z' h1 U _ _=> ?_,λx r' z' J=> ?_,λx y r' z' o v hx J hv=> ?_,λx y r' z' hx J=> ?_,I.glob⟩
 ·obtain⟨rfl,rfl⟩:=U5 hx
  refine⟨r,z,rfl,?_⟩
  obtain⟨r',z',a2,arr,e,k1,k2,k3,k4,k5⟩:=I.blk b _ hb
  rw[a0] at a2;cases a2
  refine⟨arr,e,k1,k2,?_,λj a1 hj=> ?_,jU⟩
  ·simp only[Blk.cells] at k3⊢;omega
  ·obtain⟨sv,h1,U⟩:=a3 σ g j a1 hj
   obtain⟨v,m1,m2⟩:=k4 j sv h1
   exact⟨v,m1,Zx hE (U v m2) (λb p hb=>by omega) (Zs hn hj)⟩
 ·rw[Zd8 h1,Zd8 U]
 ·obtain⟨rfl,e⟩:=σ1_some J
  cases e
  exact I.base b _ _ a0
 ·obtain⟨rfl,e⟩:=σ1_some J
  obtain⟨_,rfl⟩:=U5 hx
  cases e
  have U:o<0:=I.fz b (.raw cs 0 tg) _ _ o v hb a0 hv
  omega
 ·obtain⟨rfl,e⟩:=σ1_some J
  cases e
  exact I.fm b _ _ _ hb a0
def rawO:Option (List (SV Y))->Option (Blk Y)
 |some c=>ae (.raw c 0 ar)
 |none=>ar
theorem Uf(hE:EngOk E) {B:Nat} {σ σ':Pl} {h:Hp Y} {g g':GH} {w w':World} {b i r z:Nat} {cs:List (SV Y)} {fz:Nat} {tg:Option Y.Th} {x':Option (List (SV Y))} (hI:Inv E B σ h g w) (hb:h b=ae (.raw cs fz tg)) (a1:σ b=ae (r,z)) {v v0:SV Y} {h0:Hp Y}
 {a8:Pl} {m0:Nat} (a9:a8 0=ae (r,z)) (U:Stp m0 0 [0] a8 g w σ' g' w') (a0:Inv E B σ' h0 g' w') (a5:∀c,x'=ae c->h0 0=ae (.raw c 0 ar)) (hn:∀c,x'=ae c->nidL 0 c=ac):
 Stp i 0 [b] σ g w σ g' w'/\Inv E B σ (patch h i ⟨v,0,[b],at1 b (rawO x'),ar⟩) g' w':=by
 have a6:σ' 0=ae (r,z):=U.sig 0 _ a9
 have a7:∀b'∈ [0],∀q I,a8 b'=ae (q,I)->b'=0/\(q,I)=(r,z):=by
  intro b' a2 q I a3
  rw[cr] at a2
  subst a2
  rw[a9] at a3
  exact⟨rfl,(ba a3).symm⟩
 have b0:∀q,q<w.heap.size->q≠r->w'.heap[q]? =w.heap[q]? :=by
  intro q hq b3
  refine U.heap q hq λb' a2 I a3=> ?_
  obtain⟨_,e⟩:=a7 b' a2 q I a3
  cases e
  exact b3 rfl
 have b4:∀x,patch h i ⟨v,0,[b],at1 b (rawO x'),ar⟩ x=if x=b then(rawO x') else h x:=by
  intro x
  rw[Zp]
  by_cases e:x=b
  ·subst e
   rw[jQ (.inl (by show x∈ [x];simp)),jQ rfl]
   show at1 x _ x=_
   unfold at1
   rw[fL]
  ·rw[jG e,jG]
   rintro(c|c)
   ·exact e (by simpa using c)
   ·simp at c;omega
 have src:∀x y,patch h i ⟨v,0,[b],at1 b (rawO x'),ar⟩ x=ae y->(x=b/\∃c,x'=ae c/\y= .raw c 0 ar)\/(x≠b/\h x=ae y):=by
  intro x y hy
  rw[b4] at hy
  split at hy
  ·rename_i e
   cases b1:x' with
   |none=>rw[b1] at hy;cases hy
   |some c=>rw[b1] at hy;cases hy;exact .inl ⟨e,c,rfl,rfl⟩
  ·rename_i e
   exact .inr ⟨e,hy⟩
 have a4:∀x y q I,x≠b->h x=ae y->σ x=ae (q,I)->q<w.heap.size/\q≠r:=by
  intro x y q I hx hy J
  refine⟨(hI.base x q I J).2,?_⟩
  rintro rfl
  exact hx (hI.inj x b _ _ _ (by rw[hy];simp) (by rw[hb];simp) J a1)
 have ne:∀x,patch h i ⟨v,0,[b],at1 b (rawO x'),ar⟩ x≠ar->h x≠none:=by
  intro x hx
  obtain⟨y,hy⟩:=aV.1 hx
  rcases src x y hy with⟨rfl,_⟩|⟨_,h2⟩
  ·rw[hb];simp
  ·rw[h2];simp
 refine⟨⟨.refl _,λx p hx=> .inl hx,U.gle,λq o v hv=> ?_,U.gmnew,λq hq hx=>b0 q hq λe=>hx b (by simp) z (by rw[a1,e]),U.size,U.os,U.tape,U.output,λx q I R h2=>by rw[R] at h2;cases h2⟩,
  a0.gc,a0.gm,λx y hx=> ?_,λx x' q z1 z2 R h2 h3 h4=>hI.inj x x' q z1 z2 (ne x R) (ne x' h2) h3 h4,λx q I J=>⟨(hI.base x q I J).1,cg (hI.base x q I J).2 U.size⟩,λx y q I o v hx J hv=> ?_,λx y q I hx J=> ?_,a0.glob⟩
 ·rcases U.gcnew q o v hv with R|R|⟨b',R,I,h2⟩
  ·exact .inl R
  ·exact .inr (.inl R)
  ·obtain⟨_,e⟩:=a7 b' R _ _ h2
   cases e
   exact .inr (.inr ⟨b,by simp,z,a1⟩)
 ·rcases src x y hx with⟨rfl,c,hc,rfl⟩|⟨e1,e2⟩
  ·refine⟨r,z,a1,?_⟩
   obtain⟨r2,z2,m1,arr,e,k1,k2,k3,k4,k5⟩:=a0.blk 0 _ (a5 c hc)
   rw[a6] at m1;cases m1
   refine⟨arr,e,k1,k2,k3,λj sv hj=> ?_,jU⟩
   obtain⟨v,m1,m2⟩:=k4 j sv hj
   exact⟨v,m1,Zx hE m2 (λb p hb=>by omega) (Zs (hn c hc) hj)⟩
  ·obtain⟨q,I,m1,m2⟩:=hI.blk x y e2
   obtain⟨m3,m4⟩:=a4 x y q I e1 e2 m1
   exact⟨q,I,m1,m2.mono (.refl _) U.gle (b0 q m3 m4)⟩
 ·rcases src x y hx with⟨rfl,c,hc,rfl⟩|⟨e1,e2⟩
  ·rw[a1] at J;cases J
   exact a0.fz 0 _ _ _ o v (a5 c hc) a6 hv
  ·obtain⟨m3,m4⟩:=a4 x y q I e1 e2 J
   rcases U.gcnew q o v hv with R|R|⟨b',R,z2,h2⟩
   ·exact hI.fz x y q I o v e2 J R
   ·omega
   ·obtain⟨_,e⟩:=a7 b' R _ _ h2
    cases e
    exact kc rfl m4
 ·rcases src x y hx with⟨rfl,c,hc,rfl⟩|⟨e1,e2⟩
  ·rw[a1] at J;cases J
   exact a0.fm 0 _ _ _ (a5 c hc) a6
  ·obtain⟨m3,m4⟩:=a4 x y q I e1 e2 J
   cases b2:g'.obj q with
   |none=>rfl
   |some es=>
    rcases U.gmnew q es b2 with k|k
    ·rw[hI.fm x y q I e2 J] at k;cases k
    ·omega
section
variable {X α β ε:Type}
structure MutI(E:Eng Y) (X α β ε:Type) where
 dS:DcL E X
 dA:DcL E α
 v:β->SV Y
 hv:∀y,nid 0 (v y)=ac
 hS:∀x,nidL 0 (dS.enc x)=ac
 hA:∀a,nidL 0 (dA.enc a)=ac
 pv:ε->Value
def Ua(M:MutI E X α β ε) (f:FuncId) (x:X) (a:α) (out:Except ε (β×X)):Prop:=
 match out with
 | .ok (y,x')=>MutC E f (M.dS.enc x) (M.dA.enc a) (M.v y) (M.dS.enc x')
 | .error e=>MutP E f (M.dS.enc x) (M.dA.enc a) (M.pv e)
def Zk2(b:Nat) (v:SV Y) (cs:List (SV Y)):Res Y:=⟨v,0,[b],at1 b (ae (.raw cs 0 ar)),ar⟩
def Z2i(b:Nat) (p:Value):Res Y:=⟨.pan p,0,[b],at1 b ar,ar⟩
def sumM(M:MutI E X α β ε) (pre:X->α->Prop) (f:X->α->Except ε (β×X)):Sum Y:=λargs h _ k=>
 match args with
 | .ptr b 0::rest=>
  (match h b with
  |some (.raw cs 0 _)=>
   (match M.dS.dec cs,M.dA.dec rest with
   |some x,ae a=>pre x a/\(∀y x',f x a= .ok (y,x')->k (Zk2 b (M.v y) (M.dS.enc x')))/\(∀e,f x a= .error e->k (Z2i b (M.pv e)))
   |_,_=>False)
  |_=>False)
 |_=>False
theorem Zvf{M:DcL E α} {rest:List (SV Y)} {a:α} (hE:EngOk E) (hr:M.dec rest=ae a) (hn:nidL 0 (M.enc a)=ac) {b r z:Nat} {σ:Pl} {g:GH} {vals:List Value} (a0:σ b=ae (r,z)) (hd:DenL E σ g (.ptr b 0::rest) vals):DenL E (σ1 (r,z)) g (.ptr 0 0::M.enc a) vals:=by
 obtain⟨k1,k2,k3⟩:=M.ok _ _ hr;refine⟨by rw[<-hd.1];simp[k2],λj sv u I J=> ?_⟩;cases j with
 |zero=>
  simp at I;subst I;have:=hd.2 0 _ u rfl J;cases this;rename_i R;rw[a0] at R;cases R;exact .ptr (E:=E) (b:=0) rfl
 |succ j=>
  have I:(M.enc a)[j]? =ae sv:=by simpa using I
  obtain⟨s0,U,h4⟩:=k3 σ g j sv I;exact Zx hE (h4 u (hd.2 (j+1) s0 u (by simpa using U) J)) (λb p hb=>by omega) (Zs hn I)
theorem X9(R:EngOk E) {f:Nat} (hg:FnGood E.P f) {M:MutI E X α β ε} {pre:X->α->Prop} {fn:X->α->Except ε (β×X)} (hp:∀x a,pre x a->Ua M f x a (fn x a)):SumOk E f (sumM M pre fn):=by
 refine⟨hg,λargs h i k hD J=> ?_⟩;unfold sumM at J;split at J
 case h_2=>exact J.elim
 rename_i b rest;split at J
 case h_2=>exact J.elim
 rename_i cs tg I;split at J
 case h_2=>exact J.elim
 rename_i x a hx ha;obtain⟨a9,a7,a8⟩:=J;have hm:=hp x a a9;obtain⟨c1,c2,c3⟩:=M.dS.ok _ _ hx;have a5:h b≠none:=by rw[I];simp
 unfold Ua at hm;split at hm
 ·rename_i y x' ho
  refine⟨_,a7 y x' ho,λb' a2=>by
   have:b'∈ [b]:=a2;rw[cr] at this
   rw[this];exact a5,.inl ?_⟩
  intro B σ g w a4 hh b0 U hB a6 hd;obtain rfl:hh=h:=funext λb=>b0 b jU;obtain⟨r,z,a0,_⟩:=U.blk b _ I;refine(hm B (σ1 (r,z)) g w a4 _ (λ_ _=>rfl) (Zr7 R U I a0 c2 (M.hS x) c3) hB (λc h1 h2=>by simp[mutR] at h2;omega) (Zvf R ha (M.hA a) a0 hd)).mono ?_;rintro en w' ⟨u,he,σ',g',hS,a1,hv⟩;rw[Zyh] at a1;obtain⟨q1,q2⟩:=Uf R (i:=i) (v:=M.v y) (v0:=M.v y) (x':=some (M.dS.enc x')) U I a0 rfl hS a1 (λc hc=>by cases hc;rfl) (λc hc=>by cases hc;exact M.hS x');exact⟨u,he,σ,g',q1,q2,Zx R hv (λb p I=>by omega) (M.hv y)⟩
 ·rename_i e ho
  refine⟨_,a8 e ho,λb' a2=>by
   have:b'∈ [b]:=a2;rw[cr] at this
   rw[this];exact a5,.inr ?_⟩
  obtain⟨p,a3,hm⟩:=hm;have a3:(SV.pan (M.pv e):SV Y)= .pan p:=a3;cases a3;refine⟨_,rfl,λB σ g w a4 U hB a6 hd=> ?_⟩;obtain⟨r,z,a0,_⟩:=U.blk b _ I;refine(hm B (σ1 (r,z)) g w a4 (Zr7 R U I a0 c2 (M.hS x) c3) hB (λc h1 h2=>by simp[panR] at h2;omega) (Zvf R ha (M.hA a) a0 hd)).mono ?_;rintro en w' ⟨he,σ',g',hS,a1⟩;obtain⟨q1,q2⟩:=Uf R (i:=i) (v:= .pan (M.pv e)) (v0:= .unk) (x':=none) U I a0 rfl hS a1 (λc hc=>by cases hc) (λc hc=>by cases hc);exact⟨he,σ,g',q1,q2⟩
theorem Yfd{B:Nat} {p:Nat×Nat} {h:Hp Y} {g I:GH} {w w':World} {σ':Pl} {n:Nat} {a2:List Nat} (hp:p.1<w.heap.size) (U:Stp 1 n a2 (σ1 p) g w σ' I w') (a0:Inv E B σ' h I w') (h0:h 0≠ar):∀b r z,b≠0->h b≠ar->σ' b=ae (r,z)->w.heap.size<=r:=by
 intro b r z hb hn hs;have a1:σ1 p b=none:=by
  cases b with
  |zero=>exact kc rfl hb
  |succ b=>rfl
 rcases U.blk b r z a1 hs with J|⟨b',J,z',R⟩
 ·exact J
 ·obtain⟨rfl,e⟩:=σ1_some R
  subst e;have h3:=U.sig 0 _ R;exact kc (a0.inj b 0 r z z' hn h0 hs h3) hb
noncomputable def mutK(M:MutI E X α β ε) (gth:List (SV Y)->Option Y.Th) (n:Nat) (dec:SV Y->Option β) (U:Value->Option ε) (x:X) (out:Except ε (β×X)) (r:Res Y):Prop:=
 match Za4 r.v with
 |some q=>(match U q with|some e=>out= .error e|none=>False)
 |none=>frzK E gth (patch (one (M.dS.enc x)) 1 r) n r.v λv' bs=>
  (match patch (one (M.dS.enc x)) 1 r 0 with
  |some (.raw J 0 _)=>frzL (frzK E gth (patch (one (M.dS.enc x)) 1 r) n) J λR I=>
   (match memB 0 (bs++I),dec v',M.dS.dec R with
   |false,ae y,ae x'=>out= .ok (y,x')
   |_,_,_=>False)
  |_=>False)
theorem CallTri2.panic{f:FuncId} {args:List (SV Y)} {h:Hp Y} {i:Nat} {r:Res Y} {p:Value} (I:CallTri2 E f args h i r) (hp:Za4 r.v=ae p) {B:Nat} {σ:Pl} {g:GH} {w:World} {J:Array Value} (hI:Inv E B σ h g w) (hB:B<=w.heap.size) (a0:∀b,i<=b->b<i+r.n->σ b=ar) (hd:DenL E σ g args J.toList):
 Calls E.P f J w λU w'=>U= .panicked [{v:=p,recovered:=false}]/\∃σ' R,Stp i r.n r.mods σ g w σ' R w'/\Inv E B σ' (patch h i r) R w':=by
 have hv:=Zvq hp
 rcases I with I|⟨p',a1,I⟩
 ·refine(I B σ g w J h (λ_ _=>rfl) hI hB a0 hd).mono ?_
  rintro U w' ⟨u,_,σ',R,_,_,hd⟩
  rw[hv] at hd
  cases hd
 ·rw[hv] at a1
  cases a1
  exact I B σ g w J hI hB a0 hd
theorem CallTri2.tri{f:FuncId} {args:List (SV Y)} {h:Hp Y} {i:Nat} {r:Res Y} (I:CallTri2 E f args h i r) (J:Za4 r.v=ar):Vg E f args h i r:=by
 rcases I with I|⟨p,R,_⟩
 ·exact I
 ·rw[R] at J;cases J
theorem Ymz(R:EngOk E) {σ σ':Pl} {g:GH} {l:List (SV Y)} {vals:List Value} (U:nidL 0 l=ac) (h:DenL E σ g l vals):DenL E σ' g l vals:=
 ⟨h.1,λj sv u I J=>Zx R (h.2 j sv u I J) (λb p hb=>by omega) (Zs U I)⟩
theorem Z80(U:EngOk E) {l:List (SV Y)} (hn:nidL 0 l=ac) {r z:Nat} {σ:Pl} {g:GH} {vals:List Value} (a0:σ 0=ae (r,z)) (hd:DenL E σ g (.ptr 0 0::l) vals):DenL E (σ1 (r,z)) g (.ptr 0 0::l) vals:=by
 refine⟨hd.1,λj sv u I J=> ?_⟩;cases j with
 |zero=>
  simp at I;subst I;have:=hd.2 0 _ u rfl J;cases this;rename_i R;rw[a0] at R;cases R;exact .ptr (E:=E) (b:=0) rfl
 |succ j=>
  have I:l[j]? =ae sv:=by simpa using I
  exact Zx U (hd.2 (j+1) sv u (by simpa using I) J) (λb p hb=>by omega) (Zs hn I)
theorem Zr8(hE:EngOk E) {call:Nat->List (SV Y)->Hp Y->Nat->(Res Y->Prop)->Prop} (c7:W8 E call) {M:MutI E X α β ε} {gth:List (SV Y)->Option Y.Th} {n:Nat} {dec:SV Y->Option β} {b2:Value->Option ε} (c8:∀v y,dec v=ae y->∀σ g u,Den E σ g v u->Den E σ g (M.v y) u) (c9:∀q e,b2 q=ae e->M.pv e=q)
 {f:Nat} {x:X} {a:α} {out:Except ε (β×X)} (hk:call f (.ptr 0 0::M.dA.enc a) (one (M.dS.enc x)) 1 (mutK M gth n dec b2 x out)):Ua M f x a out:=by
 obtain⟨r,hr,hR,a7⟩:=c7 f _ _ _ _ (Yfc _) hk
 have b8:∀b∈r.mods,b=0:=λb hb=>Zd8 (hR b hb)
 have b3:∀(p:Nat×Nat) (b:Nat),1<=b->b<1+r.n->σ1 p b=none:=by
  intro p b hb _
  cases b with
  |zero=>omega
  |succ b=>rfl
 have c0:∀(p:Nat×Nat) (g I a5:GH) (w w':World) (σ':Pl),Stp 1 r.n r.mods (σ1 p) g w σ' I w'->I.le a5->(∀q o v,a5.cell q o=ae v->I.cell q o=ae v\/w.heap.size<=q)->(∀q es,a5.obj q=ae es->I.obj q=ae es\/w.heap.size<=q)->Stp 1 0 [0] (σ1 p) g w (σ1 p) a5 w':=by
  intro p g I a5 w w' σ' U a6 hc hm
  refine⟨.refl _,λb q h=> .inl h,U.gle.trans a6,λq o v R=> ?_,λq es R=> ?_,λq hq hx=>U.heap q hq λb hb=>hx b (by rw[b8 b hb];simp),U.size,U.os,U.tape,U.output,λb q z J h2=>by rw[J] at h2;cases h2⟩
  ·rcases hc q o v R with J|J
   ·rcases U.gcnew q o v J with h2|h2|⟨b,h2,h3⟩
    ·exact .inl h2
    ·exact .inr (.inl h2)
    ·exact .inr (.inr ⟨b,by rw[b8 b h2];simp,h3⟩)
   ·exact .inr (.inl J)
  ·rcases hm q es R with J|J
   ·exact U.gmnew q es J
   ·exact .inr J
 have start:∀(B:Nat) (σ:Pl) (g:GH) (w:World) (a2:Array Value),Inv E B σ (one (M.dS.enc x)) g w->DenL E σ g (.ptr 0 0::M.dA.enc a) a2.toList->∃rr zz,σ 0=ae (rr,zz)/\Inv E B (σ1 (rr,zz)) (one (M.dS.enc x)) g w/\DenL E (σ1 (rr,zz)) g (.ptr 0 0::M.dA.enc a) a2.toList:=by
  intro B σ g w a2 hI hd
  obtain⟨rr,zz,a3,_⟩:=hI.blk 0 _ (Z2h _)
  exact⟨rr,zz,a3,Zr7 hE hI (Z2h _) a3 rfl (M.hS x) (λσ g j e1 hj=>⟨e1,hj,λu h=>h⟩),Z80 hE (M.hA a) a3 hd⟩
 unfold mutK at hr
 split at hr
 ·rename_i q hq
  split at hr
  case h_2=>exact hr.elim
  rename_i e he
  subst hr
  show MutP E f _ _ (M.pv e)
  refine⟨_,rfl,λB σ g w a2 hI hB d5 hd=> ?_⟩
  obtain⟨rr,zz,a3,a1,b0⟩:=start B σ g w a2 hI hd
  refine(a7.panic hq a1 hB (b3 _) b0).mono ?_
  rintro en w' ⟨rfl,σ',I,U,a0⟩
  refine⟨by rw[c9 q e he],?_⟩
  have a9:=c0 _ g I I w w' σ' U (.refl _) (λ_ _ _ h=> .inl h) (λ_ _ h=> .inl h)
  have a8:Inv E B (σ1 (rr,zz)) (λ_=>ar) I w':=⟨a0.gc,a0.gm,(λb x hx=>by cases hx),λb b' r z z' J=>kc rfl J,λb r z hs=>⟨(a1.base b r z hs).1,cg (a1.base b r z hs).2 U.size⟩,(λb x r z o v hx=>by cases hx),(λb x r z hx=>by cases hx),a0.glob⟩
  obtain⟨q1,q2⟩:=Uf hE (i:=1) (v:= .pan (M.pv e)) (v0:= .unk) (x':=none) hI (Z2h _) a3 rfl a9 a8 (λc hc=>by cases hc) (λc hc=>by cases hc)
  refine⟨σ,I,q1,?_⟩
  have e2:patch (one (M.dS.enc x)) 1 ⟨.pan (M.pv e),0,[0],at1 0 (rawO ar),ar⟩=patch (one (M.dS.enc x)) 1 (panR (M.pv e)):=by
   rw[Zyi]
   funext b
   rw[Zp]
   cases b with
   |zero=>simp[at1,rawO]
   |succ b=>
    rw[jG (by simp)]
    rfl
  rw[<-e2];exact q2
 ·rename_i hq
  have a7:=a7.tri hq
  obtain⟨v',bs,hr,o1⟩:=Zbl hE n r.v _ hr
  split at hr
  case h_2=>exact hr.elim
  rename_i c2 tg h0
  obtain⟨c5,c4,hr,o2⟩:=Uq (Zbl hE n) hr
  split at hr
  case h_2=>exact hr.elim
  rename_i y x' b7 hy e0
  subst hr
  show MutC E f _ _ (M.v y) _
  intro B σ g w a2 hh d7 hI hB d5 hd
  obtain rfl:hh=one (M.dS.enc x):=funext λb=>d7 b jU
  obtain⟨rr,zz,a3,a1,b0⟩:=start B σ g w a2 hI hd
  refine(a7 B _ g w a2 _ (λ_ _=>rfl) a1 hB (b3 _) b0).mono ?_
  rintro en w' ⟨u,rfl,σ',I,U,a0,R⟩
  refine⟨u,rfl,?_⟩
  have b1:σ' 0=ae (rr,zz):=U.sig 0 _ rfl
  have d8:rr<w.heap.size:=(a1.base 0 rr zz rfl).2
  have d4:=Yfd d8 U a0 (by rw[h0];simp)
  have a6:=Zdr (n:=w.heap.size) a0
  have b6:Kept E (patch (one (M.dS.enc x)) 1 r) σ' (bs++c4) w' (allG I w.heap.size w'):=by
   intro b hb q z y1 hs a4 j v hj R
   have c6:b≠0:=by
    rintro rfl
    have:=memB_iff.2 hb
    rw[this] at b7;cases b7
   show(if w.heap.size<=q then w'.cell? ⟨q,j,ar⟩ else I.cell q j)=ae v
   rw[jQ (d4 b q z c6 (by rw[a4];simp) hs)]
   exact R
  have d9:=o1.den _ σ' I w' B u _ (λ_ _=>rfl) a0 a6 (b6.sub λb hb=>eQ _ hb) R
  have b4:∀q o v,(allG I w.heap.size w').cell q o=ae v->I.cell q o=ae v\/w.heap.size<=q:=by
   intro q o v R
   have R:(if w.heap.size<=q then w'.cell? ⟨q,o,ar⟩ else I.cell q o)=ae v:=R
   split at R
   ·exact .inr (by assumption)
   ·exact .inl R
  have b9:∀q es,(allG I w.heap.size w').obj q=ae es->I.obj q=ae es\/w.heap.size<=q:=by
   intro q es R
   have R:(if w.heap.size<=q then(match w'.heap[q]? with|some (.map es _)=>ae es|_=>ar) else I.obj q)=ae es:=R
   split at R
   ·exact .inr (by assumption)
   ·exact .inl R
  have a9:=c0 _ g I _ w w' σ' U a6 b4 b9
  have hG:=Zhc (n:=w.heap.size) (B':=B) a0
  obtain⟨c1,e3,c3⟩:=M.dS.ok _ _ e0
  have a8:Inv E B (σ1 (rr,zz)) (one (M.dS.enc x')) (allG I w.heap.size w') w':=by
   refine⟨hG.gc,hG.gm,λb y1 a4=> ?_,λb b' q z z' J h2 _ _=>by rw[Zd8 J,Zd8 h2],λb q z hs=>⟨(a1.base b q z hs).1,cg (a1.base b q z hs).2 U.size⟩,λb y1 q z o v a4 hs R=> ?_,λb y1 q z a4 hs=> ?_,hG.glob⟩
   ·obtain⟨rfl,rfl⟩:=U5 a4
    refine⟨rr,zz,rfl,?_⟩
    obtain⟨r2,z2,m1,arr,e,k1,k2,k3,k4,k5⟩:=a0.blk 0 _ h0
    rw[b1] at m1;cases m1
    have hl:c5.length=c2.length:=o2.len
    refine⟨arr,e,k1,k2,?_,λj sv hj=> ?_,jU⟩
    ·simp only[Blk.cells] at k3⊢;omega
    ·obtain⟨s1,J,h2⟩:=c3 σ0 (allG I w.heap.size w') j sv hj
     have b5:j<c2.length:=by rw[<-hl];exact(aj.1 J).1
     obtain⟨v,m1,m2⟩:=k4 j _ (ak b5)
     have:=o2.den _ σ' I w' B _ (λ_ _=>rfl) a0 a6 (b6.sub λb hb=>dz _ hb) j _ s1 v (ak b5) J m2
     exact⟨v,m1,(h2 v this).mono (λb p h=>by cases h) (.refl _)⟩
   ·obtain⟨_,e⟩:=σ1_some hs
    obtain⟨rfl,rfl⟩:=U5 a4
    cases e
    rcases b4 _ o v R with J|J
    ·have h2:o<0:=a0.fz 0 (.raw c2 0 tg) _ _ o v h0 b1 J
     omega
    ·omega
   ·obtain⟨_,e⟩:=σ1_some hs
    cases e
    cases d6:(allG I w.heap.size w').obj rr with
    |none=>rfl
    |some es=>
     rcases b9 _ es d6 with J|J
     ·rw[a0.fm 0 _ _ _ h0 b1] at J;cases J
     ·omega
  obtain⟨q1,q2⟩:=Uf hE (i:=1) (v:=M.v y) (v0:= .unk) (x':=some (M.dS.enc x')) hI (Z2h _) a3 rfl a9 a8 (λc hc=>by cases hc;rfl) (λc hc=>by cases hc;exact M.hS x')
  exact⟨σ,_,q1,q2,(c8 v' y hy _ _ u d9).mono (λb p h=>by cases h) (.refl _)⟩
end
end
end
section
open Go
inductive WK where
 |at_
 |ki
 |un
 |ca
def WK.src:WK->List Nat
 | .at_=> [116,121,112,101,32,111,119,110,101,114,32,114,97,105,108,119,97,121,32,115,104,105,112,112,101,114,32,99,108,97,115,115,32,119,101,105,103,104,116,32,107,109,32,109,105,110,117,116,101,115,32,119,111,114,107,105,110,103,32,99,111,100,101,32,119,111,114,116,104,32,99,111,115,116,32,109,111,110,116,104,32,98,101,103,105,110,32,112,97,114,116,115,32,112,97,114,116]
 | .ki=> [104,105,114,101,32,100,101,109,117,114,114,97,103,101,32,102,114,101,105,103,104,116,32,114,101,112,97,105,114,32,108,111,115,115,32,99,108,101,97,110,105,110,103]
 | .un=> [109,111,110,101,121,32,109,105,110,117,116,101,32,107,109,32,107,103]
 | .ca=> [109,105,110,32,109,97,120,32,100,111,119,110,32,117,112,32,104,97,108,102]
def WK.words:WK->List (List Nat)
 | .at_=> [[116,121,112,101],[111,119,110,101,114],[114,97,105,108,119,97,121],[115,104,105,112,112,101,114],[99,108,97,115,115],[119,101,105,103,104,116],[107,109],[109,105,110,117,116,101,115],[119,111,114,107,105,110,103],[99,111,100,101],[119,111,114,116,104],[99,111,115,116],[109,111,110,116,104],[98,101,103,105,110],[112,97,114,116,115],[112,97,114,116]]
 | .ki=> [[104,105,114,101],[100,101,109,117,114,114,97,103,101],[102,114,101,105,103,104,116],[114,101,112,97,105,114],[108,111,115,115],[99,108,101,97,110,105,110,103]]
 | .un=> [[109,111,110,101,121],[109,105,110,117,116,101],[107,109],[107,103]]
 | .ca=> [[109,105,110],[109,97,120],[100,111,119,110],[117,112],[104,97,108,102]]
theorem Zyr:Zk EL F0 (vc EL F0 2000) 36 [.str ac (WK.src .at_)] hp0 0 (λr=>ret EL (patch hp0 0 r) r.v (.psl .strs (WK.words .at_) ab))=(WK.words .at_=WK.words .at_):=by kernel_rfl
theorem Zys:Zk EL F0 (vc EL F0 2000) 36 [.str ac (WK.src .ki)] hp0 0 (λr=>ret EL (patch hp0 0 r) r.v (.psl .strs (WK.words .ki) ab))=(WK.words .ki=WK.words .ki):=by kernel_rfl
theorem Zyt:Zk EL F0 (vc EL F0 2000) 36 [.str ac (WK.src .un)] hp0 0 (λr=>ret EL (patch hp0 0 r) r.v (.psl .strs (WK.words .un) ab))=(WK.words .un=WK.words .un):=by kernel_rfl
theorem Zyu:Zk EL F0 (vc EL F0 2000) 36 [.str ac (WK.src .ca)] hp0 0 (λr=>ret EL (patch hp0 0 r) r.v (.psl .strs (WK.words .ca) ab))=(WK.words .ca=WK.words .ca):=by kernel_rfl
def wkOf(s:List Nat):Option WK:=
 match eqL s (WK.src .at_) with
 |true=>ae .at_
 |false=>(match eqL s (WK.src .ki) with
  |true=>ae .ki
  |false=>(match eqL s (WK.src .un) with
   |true=>ae .un
   |false=>(match eqL s (WK.src .ca) with|true=>ae .ca|false=>ar)))
theorem Zvs{s:List Nat} {k:WK} (h:wkOf s=ae k):s=k.src:=by
 unfold wkOf at h
 repeat' split at h
 all_goals first|(cases h;rename_i e;exact Z2g e)|cases h
theorem Zsv(k:WK):PureC E 36 [.str ac k.src] (.psl .strs k.words ab):=by
 cases k
 ·exact Zg0 (n:=2000) (by rw[Zyr])
 ·exact Zg0 (n:=2000) (by rw[Zys])
 ·exact Zg0 (n:=2000) (by rw[Zyt])
 ·exact Zg0 (n:=2000) (by rw[Zyu])
def Zpg:List (SV thy)->Option (SV thy)
 | [.str ac s]=>(match wkOf s with|some k=>ae (.psl .strs k.words ab)|none=>ar)
 |_=>ar
noncomputable def Zmu:Sum thy:=sumO Zpg
theorem Zfs:SumOk E 36 Zmu:=Zsc E_ok (Zc rfl) λargs v h=>by
 unfold Zpg at h;split at h
 ·split at h
  ·rename_i k I
   cases h;rw[Zvs I];exact Zsv k
  ·cases h
 ·cases h
def idxS(s:List Nat):Nat->List (List Nat)->Int
 |_,[]=> -1
 |k,x::r=>if s=x then(k:Int) else idxS s (k+1) r
theorem Z20{s:List Nat} {l:List (List Nat)}:∀{k:Nat} {x:List Nat},l[k]? =ae x->idxS s k (l.drop k)=if s=x then(k:Int) else idxS s (k+1) (l.drop (k+1)):=by
 intro k x h;have I:=(aj.1 h).1;rw[cw I];have:l[k]=x:=(aj.1 h).2;rw[this];rfl
def Aixs:Fr thy->Hp thy->Nat->Ann thy:=λT h i=>{X:=LX,fr:=λx=> [(0,T 0),(1,T 1),(7,T 7),(8,.int ab .i64 x.k)],bl:=λx=> [],src:=λ_=> [],md:= [],ih:=i,M:=i+30,meas:=λx=>x.r}
noncomputable def Fixs:Fns thy:=addL F0 102 2 Aixs E
theorem Z89(l:List (List Nat)) (s:List Nat) (v:Int):Zk E Fixs (vc E Fixs 400) 102 [.psl dp l ab,.str ab s] hp0 0 (λr=>ret E (patch hp0 0 r) r.v (.int ab .i64 v))=(
∃(R:LX->Prop),(∃(x:LX),R x/\ac=ac/\((l=l/\(ab=ac->ab=ac))/\s=s/\(↑(aa l):Int)=(↑(aa l):Int)/\0=(↑(LX.k x):Int)/\True)/\True)/\∀(x:LX),R x->(decide ((↑(LX.k x):Int)<(↑(aa l):Int))=ac->0<=(↑(LX.k x):Int)/\(↑(LX.k x):Int)+1<=(↑(aa l):Int)/\∀(I:List Nat),l[ag (↑(LX.k x):Int)]? =ae I->((s==I)=ac->(↑(LX.k x):Int)=v)/\((s==I)=ab->∃(J:LX),R J/\J.2+1<=x.2/\ac=ac/\((l=l/\(ab=ac->ab=ac))/\s=s/\(↑(aa l):Int)=(↑(aa l):Int)/\wr af ((↑(LX.k x):Int)+1)=(↑(LX.k J):Int)/\True)/\True))/\(decide ((↑(LX.k x):Int)<(↑(aa l):Int))=ab->(-1:Int)=v)):=by kernel_rfl
theorem Z9a(l:List (List Nat)) (s:List Nat) (hl:l.length<=1000000000):PureC E 102 [.psl dp l ab,.str ab s] (.int ab .i64 (idxS s 0 l)):=by
 have R:FnsOk E Fixs:=Zm E_ok F0_ok _ _ _;refine Za E_ok (Zd E_ok R 400) ?_;rw[Z89];simp only[and_true,true_and,fK,fC,hJ,fR,ko];refine⟨λx=>x.k<=l.length/\idxS s x.k (l.drop x.k)=idxS s 0 l/\x.r=l.length-x.k,⟨⟨0,l.length,[],0⟩,⟨(by dsimp only;omega),rfl,rfl⟩,rfl⟩,?_⟩;rintro x ⟨hk,I,hr⟩;refine aD (λU=>⟨by omega,by omega,λy J=> ?_⟩) (λU=> ?_)
 ·have J:l[x.k]? =ae y:=J
  rw[Z20 J] at I;refine⟨λe=> ?_,λe=> ?_⟩
  ·rw[jQ e] at I;exact I
  ·rw[jG e] at I
   exact⟨⟨x.k+1,l.length-(x.k+1),[],0⟩,⟨(by dsimp only;omega),I,rfl⟩,by show l.length-(x.k+1)+1<=x.r;omega,wr64 (by omega) (by omega)⟩
 ·rw[bJ (by omega)] at I
  exact I
noncomputable def Sixs:Sum thy:=Wn (dA2 (Zfi (E:=E) dp:Dc E (List (thy.dom dp))) dS) (λx=>x.1.length<=1000000000) (λx=>idxS x.2.1 0 x.1) λy=> .int ab .i64 y
theorem Yfz:SumOk E 102 Sixs:=Zz E_ok (Zc (f:=102) rfl) λx h=>Z9a x.1 x.2.1 h
end
section
open Go
def Z57:Dc E Unit where
 dec v:=match v with| .tup []=>ae ()|_=>ar
 enc _:= .tup []
 ok v a h:=by
  split at h
  ·exact⟨rfl,rfl,λ_ _ _ h=>h⟩
  ·cases h
def dTup{α:Type} (r:DcL E α):Dc E α where
 dec v:=match v with| .tup cs=>r.dec cs|_=>ar
 enc a:= .tup (r.enc a)
 ok v a h:=by
  split at h
  ·obtain⟨k1,k2,k3⟩:=r.ok _ _ h
   refine⟨by simpa[nid] using k1,rfl,λσ g u hd=> ?_⟩
   obtain⟨arr,c,rfl,hs,U,hd⟩:=Znm hd
   refine .tup c (by omega) (λj I=>U j (by omega)) λj a0 I=> ?_
   obtain⟨sv,J,R⟩:=k3 σ g j a0 I
   exact R _ (hd j sv J)
  ·cases h
def dBt:Dc E Bool where
 dec v:=match v with| .bool _ b=>ae b|_=>ar
 enc b:= .bool ac b
 ok v a h:=by
  split at h
  ·cases h
   exact⟨rfl,rfl,λσ g u hd=>by cases hd;exact .bool _ _⟩
  ·cases h
abbrev PX:=List Tok×Int×Unit
noncomputable def Yn1:Dc E (List Tok):=(Zfi (E:=E) di:Dc E (List (thy.dom di)))
noncomputable def dPX:DcL E PX:=dA2 Yn1 dN
def Ybd(e:Int×Int):Value:= .iface 74 (.agg #[.int .i64 e.1,.int .i64 e.2])
def Zwn:Value->Option (Int×Int)
 | .iface t (.agg a)=>(match aK t 74,a.toList with|true,[.int .i64 x,.int .i64 y]=>ae (x,y)|_,_=>ar)
 |_=>ar
theorem Zqm(q:Value) (e:Int×Int) (h:Zwn q=ae e):Ybd e=q:=by
 unfold Zwn at h;split at h
 ·rename_i t a
  split at h
  ·rename_i x y J I
   cases h;unfold Ybd;obtain rfl:=ax J;have:a= #[il .i64 x,il .i64 y]:=by rw[<-Array.toArray_toList (xs:=a),I]
   rw[this]
  ·cases h
 ·cases h
noncomputable def mI{α β:Type} (dA:DcL E α) (hA:∀a,nidL 0 (dA.enc a)=ac) (d:Dc E β) (hv:∀y,nid 0 (d.enc y)=ac):MutI E PX α β (Int×Int) where
 dS:=dPX
 dA:=dA
 v:=d.enc
 hv:=hv
 hS _:=rfl
 hA:=hA
 pv:=Ybd
abbrev PR(I:Type):=Except (Int×Int) (I×PX)
noncomputable def mK{α J:Type} (I:DcL E α) (R:∀a,nidL 0 (I.enc a)=ac) (d:Dc E J) (U:∀y,nid 0 (d.enc y)=ac) (l:List Tok) (e:Int) (out:PR J):Res thy->Prop:=
 mutK (mI I R d U) (λ_=>ar) 3 d.dec Zwn (l,e,()) out
theorem Zao{F:Fns thy} (hF:FnsOk E F) {n:Nat} {α U:Type} {I:DcL E α} {J:∀a,nidL 0 (I.enc a)=ac} {d:Dc E U} {R:∀y,nid 0 (d.enc y)=ac} {f:Nat} {l:List Tok} {e:Int} {a:α} {out:PR U}
 (hk:Zk E F (vc E F n) f (.ptr 0 0::I.enc a) (one [.psl di l ab,.int ab .i64 e]) 1 (mK I J d R l e out)):Ua (mI I J d R) f (l,e,()) a out:=
 Zr8 E_ok (Zd E_ok hF n) (λv y h=>(d.ok v y h).2.2) Zqm (x:=(l,e,())) hk
theorem n1{α:Type} {d:Dc E α} (h:∀y,nid 0 (d.enc y)=ac):∀a:α×Unit,nidL 0 ((dA1 d).enc a)=true:=λa=>by
 show(nid 0 (d.enc a.1)&&ac)=ac;rw[h];rfl
theorem n0:∀a:Unit,nidL 0 ((DcL.nil (E:=E)).enc a)=true:=λ_=>rfl
def dWK:DcL E WK where
 dec vs:=match vs with| [.str ac s]=>wkOf s|_=>ar
 enc k:= [.str ac k.src]
 ok vs k h:=by
  split at h
  ·rw[Zvs h]
   exact⟨rfl,rfl,λσ g j J I=>⟨J,I,λ_ h=>h⟩⟩
  ·cases h
theorem Znh:∀k,nidL 0 (dWK.enc k)=true:=λ_=>rfl
theorem Yf{A B:Prop}:(∃Q:Bool->Prop,Q ac/\(Q ac->A)/\(Q ab->B))↔A:=
 ⟨λ⟨_,I,J,_⟩=>J I,λh=>⟨λb=>b=ac,rfl,λ_=>h,λh=>by cases h⟩⟩
theorem Yv{c:Bool} {A B:Prop}:(∃Q:Bool->Prop,((c=ac->Q ac)/\(c=ab->Q ab))/\(Q ac->A)/\(Q ab->B))↔((c=ac->A)/\(c=ab->B)):=by
 constructor
 ·rintro⟨Q,⟨I,J⟩,R,U⟩
  exact⟨λh=>R (I h),λh=>U (J h)⟩
 ·rintro⟨I,J⟩
  exact⟨λb=>c=b,⟨λh=>h,λh=>h⟩,I,J⟩
theorem tz{t:Tok} {l:List Tok}:((((t::l).length:Nat):Int)==0)=false:=by
 rw[fR,aC];omega
theorem tz0:(((([]:List Tok).length:Nat):Int)==0)=true:=rfl
theorem tp{t:Tok} {l:List Tok}:decide ((((t::l).length:Nat):Int)>0)=true:=by
 rw[fK,aC];omega
theorem tp0:decide (((([]:List Tok).length:Nat):Int)>0)=false:=rfl
theorem tl1{t:Tok} {l:List Tok}:(0+1<=(((t::l).length:Nat):Int))=True:=eq_true (by rw[aC];omega)
theorem tl2{t:Tok} {l:List Tok}:(1<=(((t::l).length:Nat):Int))=True:=eq_true (by rw[aC];omega)
theorem tg{t x:Tok} {l:List Tok}:((t::l)[ag 0]? =ae x)=(t=x):=by
 rw[eq_iff_iff];simp
theorem td{t:Tok} {l:List Tok}:cy (ag 1) (t::l)=l:=rfl
theorem i01:(0<=1)=True:=by simp
def hdT(e:Int):List Tok->Int
 | []=>e
 |t::_=>t.at_
def isW(s:List Nat):List Tok->Bool
 | []=>ab
 |t::_=> !(t.kind==2)&&t.text==s
def pAcc(s:List Nat) (l:List Tok) (e:Int):PR Bool:= .ok (isW s l,if isW s l then l.tail else l,e,())
def Zjm(s:List Nat) (l:List Tok) (e:Int):PR Unit:=if isW s l then .ok ((),l.tail,e,()) else .error (hdT e l,160)
def pInt:List Tok->Int->PR Int
 | [],e=> .error (e,160)
 |t::r,e=>if t.kind=2 then .ok (t.n,r,e,()) else .error (t.at_,160)
def chz(ws:List (List Nat)):List Tok->Int
 | []=> -1
 |t::_=>if t.kind=1 then idxS t.text 0 ws else-1
def Z0(ws:List (List Nat)) (l:List Tok) (e:Int):PR (Int×Bool×Unit):=if 0<=chz ws l then .ok ((chz ws l,ac,()),l.tail,e,()) else .ok ((0,ab,()),l,e,())
def Yw(ws:List (List Nat)) (l:List Tok) (e:Int):PR Int:=if 0<=chz ws l then .ok (chz ws l,l.tail,e,()) else .error (hdT e l,160)
def Zar:List Tok->Int->PR (List Nat)
 | [],e=> .error (e,160)
 |t::r,e=>if t.kind=1 then(if t.text∈resW then .error (t.at_,161) else .ok (t.text,r,e,())) else .error (t.at_,160)
theorem Zas{i:Int}:(decide (i<0)=ac)=¬0<=i:=by rw[fK];exact propext (by omega)
theorem Zat{i:Int}:(decide (i<0)=ab)=(0<=i):=by rw[fC];exact propext (by omega)
theorem Ztn(l:List Tok) (e:Int) (s:List Nat) (out:PR Bool):Zk E F0 (vc E F0 400) 30 [.ptr 0 0,.str ab s] (one [.psl di l ab,.int ab .i64 e]) 1 (mK (dA1 dS) (n1 λ_=>rfl) dBt (λ_=>rfl) l e out)=(
(((↑(aa l):Int)==0)=ac->out=aT (ab,l,e,()))/\(((↑(aa l):Int)==0)=ab->(0:Int)<=0/\0+1<=(↑(aa l):Int)/\∀(x:Tok),l[ag 0]? =ae x->((cA x==2)=ac->out=aT (ab,l,e,()))/\((cA x==2)=ab->(0:Int)<=0/\0+1<=(↑(aa l):Int)/\∀(x:Tok),l[ag 0]? =ae x->((!cN x==s)=ac->out=aT (ab,l,e,()))/\((!cN x==s)=ab->((0:Int)<=1/\1<=(↑(aa l):Int))/\out=aT (ac,cy (ag 1) l,e,()))))):=by kernel_rfl
theorem Zqn(l:List Tok) (e:Int) (out:PR Int):Zk E F0 (vc E F0 400) 104 [.ptr 0 0] (one [.psl di l ab,.int ab .i64 e]) 1 (mK .nil n0 dN (λ_=>rfl) l e out)=(
(((↑(aa l):Int)==0)=ac->(decide ((↑(aa l):Int)>0)=ac->(0:Int)<=0/\0+1<=(↑(aa l):Int)/\∀(x:Tok),l[ag 0]? =ae x->out=aA (dj x,160))/\(decide ((↑(aa l):Int)>0)=ab->out=aA (e,160)))/\(((↑(aa l):Int)==0)=ab->(0:Int)<=0/\0+1<=(↑(aa l):Int)/\∀(x:Tok),l[ag 0]? =ae x->((cA x !=2)=ac->(decide ((↑(aa l):Int)>0)=ac->(0:Int)<=0/\0+1<=(↑(aa l):Int)/\∀(x:Tok),l[ag 0]? =ae x->out=aA (dj x,160))/\(decide ((↑(aa l):Int)>0)=ab->out=aA (e,160)))/\((cA x !=2)=ab->(0:Int)<=0/\0+1<=(↑(aa l):Int)/\∀(x:Tok),l[ag 0]? =ae x->((0:Int)<=1/\1<=(↑(aa l):Int))/\out=aT (Tok.n x,cy (ag 1) l,e,())))):=by kernel_rfl
noncomputable def Fsm:Fns thy:=addS (addS (addS F0 36 Zmu) 102 Sixs) 58 (Wn (dA1 dS) (λ_=>True) (λx=>decide (x.1∈resW)) λy=> .bool ab y)
theorem Z58:FnsOk E Fsm:=Zb (Zb (Zb F0_ok Zfs) Yfz) (Zz E_ok (Zc (f:=58) rfl) λx _=>Zvt x.1)
noncomputable def dIB:Dc E (Int×Bool×Unit):=dTup (dA2 dN dB)
abbrev qBW2(I:List Tok):=(↑(aa I):Int)
abbrev qBW3:=(0:Int)
abbrev qBW1(I:List Tok) (J:PR Unit):=(decide ((qBW2 I)>qBW3)=ac->qBW3<=qBW3/\qBW3+(1:Int)<=(qBW2 I)/\∀(x:Tok),I[ag qBW3]? =ae x->J=aA (dj x,(160:Int)))
abbrev qBW4(I:List Tok) (J:PR Unit) (R:Int):=(decide ((qBW2 I)>qBW3)=ab->J=aA (R,(160:Int)))
theorem Zto(l:List Tok) (e:Int) (s:List Nat) (out:PR Unit):Zk E F0 (vc E F0 400) 26 [.ptr 0 0,.str ab s] (one [.psl di l ab,.int ab .i64 e]) 1 (mK (dA1 dS) (n1 λ_=>rfl) Z57 (λ_=>rfl) l e out)=(
 (((qBW2 l)==qBW3)=ac->(qBW1 l out)/\(qBW4 l out e))/\(((qBW2 l)==qBW3)=ab->qBW3<=qBW3/\qBW3+1<=(qBW2 l)/\∀(x:Tok),l[ag qBW3]? =ae x->((cA x==2)=ac->(qBW1 l out)/\(qBW4 l out e))/\((cA x==2)=ab->qBW3<=qBW3/\qBW3+1<=(qBW2 l)/\∀(x:Tok),l[ag qBW3]? =ae x->((!cN x==s)=ac->(qBW1 l out)/\(qBW4 l out e))/\((!cN x==s)=ab->(qBW3<=1/\1<=(qBW2 l))/\out=aT ((),cy (ag 1) l,e,()))))):=by kernel_rfl
abbrev qBW6:=(0:Int)
abbrev qBW5(J:Bool->Prop) (I:List Tok) (R:PR (Int×Bool×Unit)) (d0:Int) (U:Int):=(J ab->(qBW6<=(1:Int)/\(1:Int)<=(↑(aa I):Int))/\R=aT ((d0,ac,()),cy (ag (1:Int)) I,U,()))
abbrev qBW7:=(WK.words WK.un)
theorem Zzl(l:List Tok) (e:Int) (out:PR (Int×Bool×Unit)):Zk E Fsm (vc E Fsm 400) 59 [.ptr 0 0,.str ac (WK.src .un)] (one [.psl di l ab,.int ab .i64 e]) 1 (mK dWK Znh dIB (λ_=>rfl) l e out)=(
 (((↑(aa l):Int)==qBW6)=ac->aa qBW7<=1000000000/\∀(y:Int),y=idxS [] 0 qBW7->∃(Q:Bool->Prop),Q ac/\(Q ac->out=aT ((qBW6,ab,()),l,e,()))/\(qBW5 Q l out y e))/\(((↑(aa l):Int)==qBW6)=ab->qBW6<=qBW6/\qBW6+1<=(↑(aa l):Int)/\∀(x:Tok),l[ag qBW6]? =ae x->((cA x !=1)=ac->aa qBW7<=1000000000/\∀(y:Int),y=idxS [] 0 qBW7->∃(Q:Bool->Prop),Q ac/\(Q ac->out=aT ((qBW6,ab,()),l,e,()))/\(qBW5 Q l out y e))/\((cA x !=1)=ab->qBW6<=qBW6/\qBW6+1<=(↑(aa l):Int)/\∀(x:Tok),l[ag qBW6]? =ae x->aa qBW7<=1000000000/\∀(y:Int),y=idxS (cN x) 0 qBW7->∃(Q:Bool->Prop),((decide (y<qBW6)=ac->Q ac)/\(decide (y<qBW6)=ab->Q ab))/\(Q ac->out=aT ((qBW6,ab,()),l,e,()))/\(qBW5 Q l out y e)))):=by kernel_rfl
abbrev qBW9:=(0:Int)
abbrev qBW8(J:Bool->Prop) (I:List Tok) (R:PR (Int×Bool×Unit)) (d0:Int) (U:Int):=(J ab->(qBW9<=(1:Int)/\(1:Int)<=(↑(aa I):Int))/\R=aT ((d0,ac,()),cy (ag (1:Int)) I,U,()))
abbrev qBWa:=(WK.words WK.ca)
theorem Zzm(l:List Tok) (e:Int) (out:PR (Int×Bool×Unit)):Zk E Fsm (vc E Fsm 400) 59 [.ptr 0 0,.str ac (WK.src .ca)] (one [.psl di l ab,.int ab .i64 e]) 1 (mK dWK Znh dIB (λ_=>rfl) l e out)=(
 (((↑(aa l):Int)==qBW9)=ac->aa qBWa<=1000000000/\∀(y:Int),y=idxS [] 0 qBWa->∃(Q:Bool->Prop),Q ac/\(Q ac->out=aT ((qBW9,ab,()),l,e,()))/\(qBW8 Q l out y e))/\(((↑(aa l):Int)==qBW9)=ab->qBW9<=qBW9/\qBW9+1<=(↑(aa l):Int)/\∀(x:Tok),l[ag qBW9]? =ae x->((cA x !=1)=ac->aa qBWa<=1000000000/\∀(y:Int),y=idxS [] 0 qBWa->∃(Q:Bool->Prop),Q ac/\(Q ac->out=aT ((qBW9,ab,()),l,e,()))/\(qBW8 Q l out y e))/\((cA x !=1)=ab->qBW9<=qBW9/\qBW9+1<=(↑(aa l):Int)/\∀(x:Tok),l[ag qBW9]? =ae x->aa qBWa<=1000000000/\∀(y:Int),y=idxS (cN x) 0 qBWa->∃(Q:Bool->Prop),((decide (y<qBW9)=ac->Q ac)/\(decide (y<qBW9)=ab->Q ab))/\(Q ac->out=aT ((qBW9,ab,()),l,e,()))/\(qBW8 Q l out y e)))):=by kernel_rfl
abbrev qBWd(I:List Tok):=(↑(aa I):Int)
abbrev qBWe:=(0:Int)
abbrev qBWb(R:Bool->Prop) (I:List Tok) (J:PR Int) (d0:Int):=(R ac->(decide ((qBWd I)>qBWe)=ac->qBWe<=qBWe/\qBWe+(1:Int)<=(qBWd I)/\∀(x:Tok),I[ag qBWe]? =ae x->J=aA (dj x,(160:Int)))/\(decide ((qBWd I)>qBWe)=ab->J=aA (d0,(160:Int))))
abbrev qBWc(J:Bool->Prop) (I:List Tok) (R:PR Int) (d0:Int) (U:Int):=(J ab->(qBWe<=(1:Int)/\(1:Int)<=(qBWd I))/\R=aT (d0,cy (ag (1:Int)) I,U,()))
abbrev qBWf:=(WK.words WK.at_)
theorem Ztp(l:List Tok) (e:Int) (out:PR Int):Zk E Fsm (vc E Fsm 400) 28 [.ptr 0 0,.str ac (WK.src .at_)] (one [.psl di l ab,.int ab .i64 e]) 1 (mK dWK Znh dN (λ_=>rfl) l e out)=(
 (((qBWd l)==qBWe)=ac->aa qBWf<=1000000000/\∀(y:Int),y=idxS [] 0 qBWf->∃(Q:Bool->Prop),Q ac/\(qBWb Q l out e)/\(qBWc Q l out y e))/\(((qBWd l)==qBWe)=ab->qBWe<=qBWe/\qBWe+1<=(qBWd l)/\∀(x:Tok),l[ag qBWe]? =ae x->((cA x !=1)=ac->aa qBWf<=1000000000/\∀(y:Int),y=idxS [] 0 qBWf->∃(Q:Bool->Prop),Q ac/\(qBWb Q l out e)/\(qBWc Q l out y e))/\((cA x !=1)=ab->qBWe<=qBWe/\qBWe+1<=(qBWd l)/\∀(x:Tok),l[ag qBWe]? =ae x->aa qBWf<=1000000000/\∀(y:Int),y=idxS (cN x) 0 qBWf->∃(Q:Bool->Prop),((decide (y<qBWe)=ac->Q ac)/\(decide (y<qBWe)=ab->Q ab))/\(qBWb Q l out e)/\(qBWc Q l out y e)))):=by kernel_rfl
abbrev qBWj:=(0:Int)
abbrev qBWi(I:List Tok):=(↑(aa I):Int)
abbrev qBWg(R:Bool->Prop) (I:List Tok) (J:PR Int) (d0:Int):=(R ac->(decide ((qBWi I)>qBWj)=ac->qBWj<=qBWj/\qBWj+(1:Int)<=(qBWi I)/\∀(x:Tok),I[ag qBWj]? =ae x->J=aA (dj x,(160:Int)))/\(decide ((qBWi I)>qBWj)=ab->J=aA (d0,(160:Int))))
abbrev qBWh(J:Bool->Prop) (I:List Tok) (R:PR Int) (d0:Int) (U:Int):=(J ab->(qBWj<=(1:Int)/\(1:Int)<=(qBWi I))/\R=aT (d0,cy (ag (1:Int)) I,U,()))
abbrev qBWk:=(WK.words WK.ki)
theorem Ztq(l:List Tok) (e:Int) (out:PR Int):Zk E Fsm (vc E Fsm 400) 28 [.ptr 0 0,.str ac (WK.src .ki)] (one [.psl di l ab,.int ab .i64 e]) 1 (mK dWK Znh dN (λ_=>rfl) l e out)=(
 (((qBWi l)==qBWj)=ac->aa qBWk<=1000000000/\∀(y:Int),y=idxS [] 0 qBWk->∃(Q:Bool->Prop),Q ac/\(qBWg Q l out e)/\(qBWh Q l out y e))/\(((qBWi l)==qBWj)=ab->qBWj<=qBWj/\qBWj+1<=(qBWi l)/\∀(x:Tok),l[ag qBWj]? =ae x->((cA x !=1)=ac->aa qBWk<=1000000000/\∀(y:Int),y=idxS [] 0 qBWk->∃(Q:Bool->Prop),Q ac/\(qBWg Q l out e)/\(qBWh Q l out y e))/\((cA x !=1)=ab->qBWj<=qBWj/\qBWj+1<=(qBWi l)/\∀(x:Tok),l[ag qBWj]? =ae x->aa qBWk<=1000000000/\∀(y:Int),y=idxS (cN x) 0 qBWk->∃(Q:Bool->Prop),((decide (y<qBWj)=ac->Q ac)/\(decide (y<qBWj)=ab->Q ab))/\(qBWg Q l out e)/\(qBWh Q l out y e)))):=by kernel_rfl
abbrev qBWo:=(0:Int)
abbrev qBWn(I:List Tok):=(↑(aa I):Int)
abbrev qBWl(R:Bool->Prop) (I:List Tok) (J:PR Int) (d0:Int):=(R ac->(decide ((qBWn I)>qBWo)=ac->qBWo<=qBWo/\qBWo+(1:Int)<=(qBWn I)/\∀(x:Tok),I[ag qBWo]? =ae x->J=aA (dj x,(160:Int)))/\(decide ((qBWn I)>qBWo)=ab->J=aA (d0,(160:Int))))
abbrev qBWm(J:Bool->Prop) (I:List Tok) (R:PR Int) (d0:Int) (U:Int):=(J ab->(qBWo<=(1:Int)/\(1:Int)<=(qBWn I))/\R=aT (d0,cy (ag (1:Int)) I,U,()))
abbrev qBWp:=(WK.words WK.un)
theorem Ztr(l:List Tok) (e:Int) (out:PR Int):Zk E Fsm (vc E Fsm 400) 28 [.ptr 0 0,.str ac (WK.src .un)] (one [.psl di l ab,.int ab .i64 e]) 1 (mK dWK Znh dN (λ_=>rfl) l e out)=(
 (((qBWn l)==qBWo)=ac->aa qBWp<=1000000000/\∀(y:Int),y=idxS [] 0 qBWp->∃(Q:Bool->Prop),Q ac/\(qBWl Q l out e)/\(qBWm Q l out y e))/\(((qBWn l)==qBWo)=ab->qBWo<=qBWo/\qBWo+1<=(qBWn l)/\∀(x:Tok),l[ag qBWo]? =ae x->((cA x !=1)=ac->aa qBWp<=1000000000/\∀(y:Int),y=idxS [] 0 qBWp->∃(Q:Bool->Prop),Q ac/\(qBWl Q l out e)/\(qBWm Q l out y e))/\((cA x !=1)=ab->qBWo<=qBWo/\qBWo+1<=(qBWn l)/\∀(x:Tok),l[ag qBWo]? =ae x->aa qBWp<=1000000000/\∀(y:Int),y=idxS (cN x) 0 qBWp->∃(Q:Bool->Prop),((decide (y<qBWo)=ac->Q ac)/\(decide (y<qBWo)=ab->Q ab))/\(qBWl Q l out e)/\(qBWm Q l out y e)))):=by kernel_rfl
theorem Z59(l:List Tok) (e:Int) (out:PR (List Nat)):Zk E Fsm (vc E Fsm 400) 27 [.ptr 0 0] (one [.psl di l ab,.int ab .i64 e]) 1 (mK .nil n0 dS (λ_=>rfl) l e out)=(
(((↑(aa l):Int)==0)=ac->(decide ((↑(aa l):Int)>0)=ac->(0:Int)<=0/\0+1<=(↑(aa l):Int)/\∀(x:Tok),l[ag 0]? =ae x->out=aA (dj x,160))/\(decide ((↑(aa l):Int)>0)=ab->out=aA (e,160)))/\(((↑(aa l):Int)==0)=ab->(0:Int)<=0/\0+1<=(↑(aa l):Int)/\∀(x:Tok),l[ag 0]? =ae x->((cA x !=1)=ac->(decide ((↑(aa l):Int)>0)=ac->(0:Int)<=0/\0+1<=(↑(aa l):Int)/\∀(x:Tok),l[ag 0]? =ae x->out=aA (dj x,160))/\(decide ((↑(aa l):Int)>0)=ab->out=aA (e,160)))/\((cA x !=1)=ab->(0:Int)<=0/\0+1<=(↑(aa l):Int)/\∀(x:Tok),l[ag 0]? =ae x->True/\∀(y:Bool),y=decide (cN x∈resW)->(y=ac->out=aA (dj x,161))/\(y=ab->((0:Int)<=1/\1<=(↑(aa l):Int))/\out=aT (cN x,cy (ag 1) l,e,()))))):=by kernel_rfl
theorem Zlj(l:List Tok) (e:Int) (s:List Nat):Ua (mI (dA1 dS) (n1 λ_=>rfl) dBt (λ_=>rfl)) 30 (l,e,()) (s,()) (pAcc s l e):=by
 refine Zao F0_ok (n:=400) (a:=(s,())) ?_;rw[show(dA1 dS).enc (s,())= [.str ab s] from rfl,Ztn];cases l with
 |nil=>simp only[Yf,Yv,tz,tz0,tp,tp0,tl1,tl2,tg,td,i01,true_and,and_true,forall_eq',kD,aR,aL,reduceCtorEq,jR,kE,bZ,ko,ir,ne_eq,gg,hJ,fR,Zas,Zat];rfl
 |cons t l=>
  simp only[Yf,Yv,tz,tz0,tp,tp0,tl1,tl2,tg,td,i01,true_and,and_true,forall_eq',kD,aR,aL,reduceCtorEq,jR,kE,bZ,ko,ir,ne_eq,gg,hJ,fR,Zas,Zat];unfold pAcc isW;refine⟨λh=>by simp[h],λh=>⟨λI=> ?_,λI=> ?_⟩⟩
  ·simp at I;simp[I]
  ·simp at I;simp[h,I]
theorem Zzn(l:List Tok) (e:Int) (s:List Nat):Ua (mI (dA1 dS) (n1 λ_=>rfl) Z57 (λ_=>rfl)) 26 (l,e,()) (s,()) (Zjm s l e):=by
 refine Zao F0_ok (n:=400) (a:=(s,())) ?_;rw[show(dA1 dS).enc (s,())= [.str ab s] from rfl,Zto];delta qBW2 qBW3 qBW1 qBW4;cases l with
 |nil=>simp only[Yf,Yv,tz,tz0,tp,tp0,tl1,tl2,tg,td,i01,true_and,and_true,forall_eq',kD,aR,aL,reduceCtorEq,jR,kE,bZ,ko,ir,ne_eq,gg,hJ,fR,Zas,Zat];rfl
 |cons t l=>
  simp only[Yf,Yv,tz,tz0,tp,tp0,tl1,tl2,tg,td,i01,true_and,and_true,forall_eq',kD,aR,aL,reduceCtorEq,jR,kE,bZ,ko,ir,ne_eq,gg,hJ,fR,Zas,Zat];unfold Zjm isW hdT;refine⟨λh=>by simp[h],λh=>⟨λI=> ?_,λI=> ?_⟩⟩
  ·simp at I;simp[I]
  ·simp at I;simp[h,I]
theorem Zts(l:List Tok) (e:Int):Ua (mI .nil n0 dN (λ_=>rfl)) 104 (l,e,()) () (pInt l e):=by
 refine Zao F0_ok (n:=400) (a:=()) ?_;rw[show(DcL.nil (E:=E)).enc ()= [] from rfl,Zqn];cases l with
 |nil=>simp only[Yf,Yv,tz,tz0,tp,tp0,tl1,tl2,tg,td,i01,true_and,and_true,forall_eq',kD,aR,aL,reduceCtorEq,jR,kE,bZ,ko,ir,ne_eq,gg,hJ,fR,Zas,Zat];rfl
 |cons t l=>
  simp only[Yf,Yv,tz,tz0,tp,tp0,tl1,tl2,tg,td,i01,true_and,and_true,forall_eq',kD,aR,aL,reduceCtorEq,jR,kE,bZ,ko,ir,ne_eq,gg,hJ,fR,Zas,Zat];unfold pInt;exact⟨λh=>by simp[h],λh=>by simp[h]⟩
theorem Ybe(l:List Tok) (e:Int):Ua (mI .nil n0 dS (λ_=>rfl)) 27 (l,e,()) () (Zar l e):=by
 refine Zao Z58 (n:=400) (a:=()) ?_;rw[show(DcL.nil (E:=E)).enc ()= [] from rfl,Z59];cases l with
 |nil=>simp only[Yf,Yv,tz,tz0,tp,tp0,tl1,tl2,tg,td,i01,true_and,and_true,forall_eq',kD,aR,aL,reduceCtorEq,jR,kE,bZ,ko,ir,ne_eq,gg,hJ,fR,Zas,Zat];rfl
 |cons t l=>
  simp only[Yf,Yv,tz,tz0,tp,tp0,tl1,tl2,tg,td,i01,true_and,and_true,forall_eq',kD,aR,aL,reduceCtorEq,jR,kE,bZ,ko,ir,ne_eq,gg,hJ,fR,Zas,Zat];unfold Zar;refine⟨λh=>by simp[h],λh=>⟨λI=> ?_,λI=> ?_⟩⟩
  ·simp at I;simp[h,I]
  ·simp at I;simp[h,I]
theorem Zzo(k:WK) (J:k= .un\/k= .ca) (l:List Tok) (e:Int):Ua (mI dWK Znh dIB (λ_=>rfl)) 59 (l,e,()) k (Z0 k.words l e):=by
 refine Zao Z58 (n:=400) (a:=k) ?_;rcases J with rfl|rfl
 ·rw[show dWK.enc .un= [.str ac (WK.src .un)] from rfl,Zzl];delta qBW6 qBW5 qBW7
  cases l with
  |nil=>
   simp only[Yf,Yv,tz,tz0,tp,tp0,tl1,tl2,tg,td,i01,true_and,and_true,forall_eq',kD,aR,aL,reduceCtorEq,jR,kE,bZ,ko,ir,ne_eq,gg,hJ,fR]
   try simp only[Zas,Zat]
   exact⟨by decide,rfl⟩
  |cons t l=>
   simp only[Yf,Yv,tz,tz0,tp,tp0,tl1,tl2,tg,td,i01,true_and,and_true,forall_eq',kD,aR,aL,reduceCtorEq,jR,kE,bZ,ko,ir,ne_eq,gg,hJ,fR]
   try simp only[Zas,Zat]
   unfold Z0 chz;refine⟨λh=>⟨by decide,by simp[h]⟩,λh=>⟨by decide,λI=> ?_,λI=> ?_⟩⟩
   ·simp[h,I]
   ·simp[h,I]
 ·rw[show dWK.enc .ca= [.str ac (WK.src .ca)] from rfl,Zzm];delta qBW9 qBW8 qBWa
  cases l with
  |nil=>
   simp only[Yf,Yv,tz,tz0,tp,tp0,tl1,tl2,tg,td,i01,true_and,and_true,forall_eq',kD,aR,aL,reduceCtorEq,jR,kE,bZ,ko,ir,ne_eq,gg,hJ,fR]
   try simp only[Zas,Zat]
   exact⟨by decide,rfl⟩
  |cons t l=>
   simp only[Yf,Yv,tz,tz0,tp,tp0,tl1,tl2,tg,td,i01,true_and,and_true,forall_eq',kD,aR,aL,reduceCtorEq,jR,kE,bZ,ko,ir,ne_eq,gg,hJ,fR]
   try simp only[Zas,Zat]
   unfold Z0 chz;refine⟨λh=>⟨by decide,by simp[h]⟩,λh=>⟨by decide,λI=> ?_,λI=> ?_⟩⟩
   ·simp[h,I]
   ·simp[h,I]
theorem Ybf(k:WK) (J:k= .at_\/k= .ki\/k= .un) (l:List Tok) (e:Int):Ua (mI dWK Znh dN (λ_=>rfl)) 28 (l,e,()) k (Yw k.words l e):=by
 refine Zao Z58 (n:=400) (a:=k) ?_;rcases J with rfl|rfl|rfl
 ·rw[show dWK.enc .at_= [.str ac (WK.src .at_)] from rfl,Ztp];delta qBWd qBWe qBWb qBWc qBWf
  cases l with
  |nil=>
   simp only[Yf,Yv,tz,tz0,tp,tp0,tl1,tl2,tg,td,i01,true_and,and_true,forall_eq',kD,aR,aL,reduceCtorEq,jR,kE,bZ,ko,ir,ne_eq,gg,hJ,fR]
   try simp only[Zas,Zat]
   exact⟨by decide,rfl⟩
  |cons t l=>
   simp only[Yf,Yv,tz,tz0,tp,tp0,tl1,tl2,tg,td,i01,true_and,and_true,forall_eq',kD,aR,aL,reduceCtorEq,jR,kE,bZ,ko,ir,ne_eq,gg,hJ,fR]
   try simp only[Zas,Zat]
   unfold Yw chz hdT;refine⟨λh=>⟨by decide,by simp[h]⟩,λh=>⟨by decide,λI=> ?_,λI=> ?_⟩⟩
   ·simp[h,I]
   ·simp[h,I]
 ·rw[show dWK.enc .ki= [.str ac (WK.src .ki)] from rfl,Ztq];delta qBWj qBWi qBWg qBWh qBWk
  cases l with
  |nil=>
   simp only[Yf,Yv,tz,tz0,tp,tp0,tl1,tl2,tg,td,i01,true_and,and_true,forall_eq',kD,aR,aL,reduceCtorEq,jR,kE,bZ,ko,ir,ne_eq,gg,hJ,fR]
   try simp only[Zas,Zat]
   exact⟨by decide,rfl⟩
  |cons t l=>
   simp only[Yf,Yv,tz,tz0,tp,tp0,tl1,tl2,tg,td,i01,true_and,and_true,forall_eq',kD,aR,aL,reduceCtorEq,jR,kE,bZ,ko,ir,ne_eq,gg,hJ,fR]
   try simp only[Zas,Zat]
   unfold Yw chz hdT;refine⟨λh=>⟨by decide,by simp[h]⟩,λh=>⟨by decide,λI=> ?_,λI=> ?_⟩⟩
   ·simp[h,I]
   ·simp[h,I]
 ·rw[show dWK.enc .un= [.str ac (WK.src .un)] from rfl,Ztr];delta qBWo qBWn qBWl qBWm qBWp
  cases l with
  |nil=>
   simp only[Yf,Yv,tz,tz0,tp,tp0,tl1,tl2,tg,td,i01,true_and,and_true,forall_eq',kD,aR,aL,reduceCtorEq,jR,kE,bZ,ko,ir,ne_eq,gg,hJ,fR]
   try simp only[Zas,Zat]
   exact⟨by decide,rfl⟩
  |cons t l=>
   simp only[Yf,Yv,tz,tz0,tp,tp0,tl1,tl2,tg,td,i01,true_and,and_true,forall_eq',kD,aR,aL,reduceCtorEq,jR,kE,bZ,ko,ir,ne_eq,gg,hJ,fR]
   try simp only[Zas,Zat]
   unfold Yw chz hdT;refine⟨λh=>⟨by decide,by simp[h]⟩,λh=>⟨by decide,λI=> ?_,λI=> ?_⟩⟩
   ·simp[h,I]
   ·simp[h,I]
end
section
open Go
noncomputable def Ye3:Sum thy:=λargs h _ k=>
 match args with
 | [.ptr b 0,.str _ s]=>
  (match h b with
  |some (.raw cs 0 _)=>(match dPX.dec cs with
   |some x=>(isW s x.1=ac->k (Zk2 b (.bool ac ac) (dPX.enc (x.1.tail,x.2))))/\(isW s x.1=ab->k (Zk2 b (.bool ac ab) (dPX.enc x)))
   |none=>False)
  |_=>False)
 |_=>False
noncomputable def Sexp:Sum thy:=λargs h _ k=>
 match args with
 | [.ptr b 0,.str _ s]=>
  (match h b with
  |some (.raw cs 0 _)=>(match dPX.dec cs with
   |some x=>(isW s x.1=ac->k (Zk2 b (.tup []) (dPX.enc (x.1.tail,x.2))))/\(isW s x.1=ab->k (Z2i b (Ybd (hdT x.2.1 x.1,160))))
   |none=>False)
  |_=>False)
 |_=>False
theorem SaccB_ok:SumOk E 30 Ye3:=by
 refine⟨Zc rfl,λargs h i k hD I=> ?_⟩;unfold Ye3 at I;split at I
 case h_2=>exact I.elim
 rename_i b f s;split at I
 case h_2=>exact I.elim
 rename_i cs tg hb;split at I
 case h_2=>exact I.elim
 rename_i x hx;obtain⟨l,e,_⟩:=x;refine(X9 E_ok (Zc rfl) (M:=mI (dA1 dS) (n1 λ_=>rfl) dBt (λ_=>rfl)) (pre:=λ_ _=>True) (fn:=λx a=>pAcc a.1 x.1 x.2.1) λx a _=>Zlj x.1 x.2.1 a.1).ok [.ptr b 0,.str f s] h i k hD ?_;simp only[sumM,hb];rw[show(mI (dA1 dS) (n1 λ_=>rfl) dBt (λ_=>rfl)).dS.dec cs=ae (l,e,()) from hx,show(mI (dA1 dS) (n1 λ_=>rfl) dBt (λ_=>rfl)).dA.dec [.str f s]=ae (s,()) from rfl];refine⟨jU,λy x' J=> ?_,λe J=>by cases J⟩;unfold pAcc at J;injection J with J
 injection J with U e2
 subst U;subst e2;cases R:isW s l with
 |true=>exact I.1 R
 |false=>exact I.2 R
theorem Ye4:SumOk E 26 Sexp:=by
 refine⟨Zc rfl,λargs h i k hD J=> ?_⟩;unfold Sexp at J;split at J
 case h_2=>exact J.elim
 rename_i b f s;split at J
 case h_2=>exact J.elim
 rename_i cs tg hb;split at J
 case h_2=>exact J.elim
 rename_i x hx;obtain⟨l,e,_⟩:=x;refine(X9 E_ok (Zc rfl) (M:=mI (dA1 dS) (n1 λ_=>rfl) Z57 (λ_=>rfl)) (pre:=λ_ _=>True) (fn:=λx a=>Zjm a.1 x.1 x.2.1) λx a _=>Zzn x.1 x.2.1 a.1).ok [.ptr b 0,.str f s] h i k hD ?_;simp only[sumM,hb];rw[show(mI (dA1 dS) (n1 λ_=>rfl) Z57 (λ_=>rfl)).dS.dec cs=ae (l,e,()) from hx,show(mI (dA1 dS) (n1 λ_=>rfl) Z57 (λ_=>rfl)).dA.dec [.str f s]=ae (s,()) from rfl];refine⟨jU,λy x' I=> ?_,λe I=> ?_⟩
 ·unfold Zjm at I
  split at I
  ·rename_i R
   injection I with I
   injection I with U e2
   subst U;subst e2;exact J.1 R
  ·cases I
 ·unfold Zjm at I
  split at I
  ·cases I
  ·rename_i R
   injection I with I
   subst I;exact J.2 (by simpa using R)
def Zh3:List Nat:= [119,104,101,110]
def sAnd:List Nat:= [97,110,100]
theorem Z2a{f:FuncId} {cs rest cs':List (SV thy)} {v I:SV thy} (h:MutC E f cs rest v cs') (hv:∀σ g u,Den E σ g v u->Den E σ g I u):MutC E f cs rest I cs':=λB σ g w a0 hh a b c d e=>
 (h B σ g w a0 hh a b c d e).mono λen w' ⟨u,U,σ',R,s,i,J⟩=>⟨u,U,σ',R,s,i,hv _ _ _ J⟩
theorem Zr1(l:List Tok) (e:Int) (s:List Nat):Ua (mI (dA1 dS) (n1 λ_=>rfl) dB (λ_=>rfl)) 30 (l,e,()) (s,()) (pAcc s l e):=
 Z2a (Zlj l e s) λσ g u hd=>by cases hd;exact .bool _ _
noncomputable def Sacc:Sum thy:=λargs h i k=>
 match args with
 | [.ptr b 0,.str f s]=>
  (match eqL s Zh3||eqL s sAnd with
  |true=>sumM (mI (dA1 dS) (n1 λ_=>rfl) dB (λ_=>rfl)) (λ_ _=>True) (λx a=>pAcc a.1 x.1 x.2.1) [.ptr b 0,.str f s] h i k
  |false=>Ye3 [.ptr b 0,.str f s] h i k)
 |_=>False
theorem Ye5:SumOk E 30 Sacc:=by
 refine⟨Zc rfl,λargs h i k J I=> ?_⟩;unfold Sacc at I;split at I
 ·split at I
  ·exact(X9 E_ok (Zc rfl) λx a _=>Zr1 x.1 x.2.1 a.1).ok _ h i k J I
  ·exact SaccB_ok.ok _ h i k J I
 ·exact I.elim
def Ye6(l:List Tok) (e:Int):PR Int:= .ok (hdT e l,l,e,())
theorem Z2b(l:List Tok) (e:Int) (out:PR Int):Zk E F0 (vc E F0 400) 29 [.ptr 0 0] (one [.psl di l ab,.int ab .i64 e]) 1 (mK .nil n0 dN (λ_=>rfl) l e out)=(
(decide ((↑(aa l):Int)>0)=ac->(0:Int)<=0/\0+1<=(↑(aa l):Int)/\∀(x:Tok),l[ag 0]? =ae x->out=aT (dj x,l,e,()))/\(decide ((↑(aa l):Int)>0)=ab->out=aT (e,l,e,()))):=by kernel_rfl
theorem Z8o(l:List Tok) (e:Int):Ua (mI .nil n0 dN (λ_=>rfl)) 29 (l,e,()) () (Ye6 l e):=by
 refine Zao F0_ok (n:=400) (a:=()) ?_;rw[show(DcL.nil (E:=E)).enc ()= [] from rfl,Z2b];cases l with
 |nil=>exact⟨λh=>kc h (by decide),λ_=>rfl⟩
 |cons t l=>exact⟨λ_=>⟨bZ 0,by rw[aC];omega,λx I=>by rw[tg] at I;subst I;rfl⟩,λh=>by rw[tp] at h;cases h⟩
noncomputable def Z8p:Sum thy:=λargs h _ k=>
 match args with
 | [.ptr b 0]=>
  (match h b with
  |some (.raw cs 0 _)=>(match dPX.dec cs with
   |some x=>∀y,y=hdT x.2.1 x.1->k (Zk2 b (.int ab .i64 y) (dPX.enc x))
   |none=>False)
  |_=>False)
 |_=>False
theorem Zvb:SumOk E 29 Z8p:=by
 refine⟨Zc rfl,λargs h i k hD I=> ?_⟩;unfold Z8p at I;split at I
 case h_2=>exact I.elim
 rename_i b;split at I
 case h_2=>exact I.elim
 rename_i cs tg hb;split at I
 case h_2=>exact I.elim
 rename_i x hx;obtain⟨l,e,_⟩:=x;refine(X9 E_ok (Zc rfl) (M:=mI .nil n0 dN (λ_=>rfl)) (pre:=λ_ _=>True) (fn:=λx a=>Ye6 x.1 x.2.1) λx a _=>Z8o x.1 x.2.1).ok [.ptr b 0] h i k hD ?_;simp only[sumM,hb];rw[show(mI .nil n0 dN (λ_=>rfl)).dS.dec cs=ae (l,e,()) from hx,show(mI .nil n0 dN (λ_=>rfl)).dA.dec []=ae () from rfl];refine⟨jU,λy x' J=> ?_,λe J=>by cases J⟩;unfold Ye6 at J;injection J with J
 injection J with R U
 subst R;subst U;exact I _ rfl
noncomputable def Scho:Sum thy:=sumM (mI dWK Znh dIB (λ_=>rfl)) (λ_ k=>k= .un\/k= .ca) λx k=>Z0 k.words x.1 x.2.1
theorem Ye7:SumOk E 59 Scho:=X9 E_ok (Zc rfl) λx k h=>Zzo k h x.1 x.2.1
noncomputable def Yjx:Sum thy:=sumM (mI dWK Znh dN (λ_=>rfl)) (λ_ k=>k= .at_\/k= .ki\/k= .un) λx k=>Yw k.words x.1 x.2.1
theorem Z8q:SumOk E 28 Yjx:=X9 E_ok (Zc rfl) λx k h=>Ybf k h x.1 x.2.1
noncomputable def Sint:Sum thy:=sumM (mI .nil n0 dN (λ_=>rfl)) (λ_ _=>True) λx _=>pInt x.1 x.2.1
theorem Ye8:SumOk E 104 Sint:=X9 E_ok (Zc rfl) λx _ _=>Zts x.1 x.2.1
noncomputable def Yjy:Sum thy:=sumM (mI .nil n0 dS (λ_=>rfl)) (λ_ _=>True) λx _=>Zar x.1 x.2.1
theorem Z8r:SumOk E 27 Yjy:=X9 E_ok (Zc rfl) λx _ _=>Ybe x.1 x.2.1
noncomputable def Fme:Fns thy:=addS (addS (addS (addS (addS (addS F0 30 Sacc) 26 Sexp) 59 Scho) 28 Yjx) 104 Sint) 27 Yjy
theorem Zh4:FnsOk E Fme:=Zb (Zb (Zb (Zb (Zb (Zb F0_ok Ye5) Ye4) Ye7) Z8q) Ye8) Z8r
theorem Z2c{s:List Nat}:∀{l:List (List Nat)} {k:Nat},idxS s k l<k+l.length
 | [],k=>by unfold idxS;simp;omega
 |x::l,k=>by
  unfold idxS
  split
  ·simp;omega
  ·have:=Z2c (s:=s) (l:=l) (k:=k+1)
   simp at this⊢;omega
theorem Zvc{ws:List (List Nat)} {l:List Tok} (h:0<ws.length):chz ws l<ws.length:=by
 unfold chz;split
 ·omega
 ·split
  ·rename_i t r _
   have:=Z2c (s:=t.text) (l:=ws) (k:=0)
   simpa using this
  ·omega
theorem X1{ws:List (List Nat)} {l:List Tok} {e:Int} {y:Int×Bool×Unit} {x':PX} (h:Z0 ws l e= .ok (y,x')):(0<=chz ws l/\y=(chz ws l,ac,())/\x'=(l.tail,e,()))\/(¬0<=chz ws l/\y=(0,ab,())/\x'=(l,e,())):=by
 unfold Z0 at h;split at h
 ·injection h with h
  injection h with I J
  exact .inl ⟨by assumption,I.symm,J.symm⟩
 ·injection h with h
  injection h with I J
  exact .inr ⟨by assumption,I.symm,J.symm⟩
theorem Zr2{ws:List (List Nat)} {l:List Tok} {e:Int} {I:Int×Int} (h:Z0 ws l e= .error I):False:=by
 unfold Z0 at h;split at h<;>cases h
theorem U4{ws:List (List Nat)} {l:List Tok} {e:Int} {y:Int} {x':PX} (h:Yw ws l e= .ok (y,x')):0<=chz ws l/\y=chz ws l/\x'=(l.tail,e,()):=by
 unfold Yw at h;split at h
 ·injection h with h
  injection h with I J
  exact⟨by assumption,I.symm,J.symm⟩
 ·cases h
def incD(d:List Int) (i:Int):List Int:=d.set i.toNat (d.getD i.toNat 0+1)
def decD(d:List Int) (i:Int):List Int:=d.set i.toNat (d.getD i.toNat 0-1)
def sPer:List Nat:= [112,101,114]
def X8(l:List Tok) (e:Int):PR (List Int):=
 match Z0 WK.un.words l e with
 | .error I=> .error I
 | .ok (y,x)=>
  if isW sPer x.1 then
   match Yw WK.un.words x.1.tail x.2.1 with
   | .error I=> .error I
   | .ok (j,J)=> .ok (decD (if y.2.1 then incD [0,0,0,0] y.1 else[0,0,0,0]) j,J)
  else .ok (if y.2.1 then incD [0,0,0,0] y.1 else[0,0,0,0],x)
def sIs:List Nat:= [105,115]
def sIn:List Nat:= [105,110]
def Zd6:List Nat:= [46,46]
def V9(n:Int) (l:List Tok) (e:Int):PR Tst:=
 match Yw WK.at_.words l e with
 | .error I=> .error I
 | .ok (a,x)=>
  if n=8 then .error (hdT e l,2)
  else if isW sIs x.1 then
   match pInt x.1.tail x.2.1 with
   | .error I=> .error I
   | .ok (m,J)=> .ok (⟨a,m,m⟩,J)
  else if isW sIn x.1 then
   match pInt x.1.tail x.2.1 with
   | .error I=> .error I
   | .ok (m,J)=>
    if isW Zd6 J.1 then
     match pInt J.1.tail J.2.1 with
     | .error I=> .error I
     | .ok (k,R)=> .ok (⟨a,m,k⟩,R)
    else .error (hdT J.2.1 J.1,160)
  else .error (hdT x.2.1 x.1,160)
noncomputable def dDm:Dc E (List Int):=dR .dims
noncomputable def dTs:Dc E Tst:=dR .tests
abbrev qBX3:=(0:Int)
abbrev qBX1(I:Int×Bool×Unit) (J:Int):=(du [qBX3,qBX3,qBX3,qBX3] (ag (ao I)) (wr af (J+(1:Int))))
abbrev qBX2(I:Int) (J:Int):=(du [qBX3,qBX3,qBX3,qBX3] (ag I) (wr af (J-(1:Int))))
abbrev qBX4(I:Int×Bool×Unit) (J:Int) (R:Int) (d0:Int):=(du (qBX1 I J) (ag R) (wr af (d0-(1:Int))))
abbrev qBX5:=(4:Nat)
abbrev qBX6(I:Int):=(qBX3<=I/\I+(1:Int)<=(↑qBX5:Int))
abbrev qBX7:=(WK.words WK.un)
abbrev qBX8:=(WK.un=WK.at_\/WK.un=WK.ki\/WK.un=WK.un)
theorem Z2d(l:List Tok) (e:Int) (out:PR (List Int)):Zk E Fme (vc E Fme 400) 130 [.ptr 0 0] (one [.psl di l ab,.int ab .i64 e]) 1 (mK .nil n0 dDm (λ_=>rfl) l e out)=(
 (WK.un=WK.un\/WK.un=WK.ca)/\(∀(y:Int×Bool×Unit) (x':PX),Z0 qBX7 l e=aT (y,x')->(ao (ay y)=ac->(qBX3<=ao y/\ao y+1<=(↑qBX5:Int))/\ag (ao y)+1<=qBX5/\∀(x:Int),[qBX3,qBX3,qBX3,qBX3][ag (ao y)]? =ae x->(qBX3<=ao y/\ao y+1<=(↑qBX5:Int))/\0<=ag (ao y)/\ag (ao y)+1<=qBX5/\∀(U:Int),[qBX3,qBX3,qBX3,qBX3][ag (ao y)]? =ae U->(isW [112,101,114] (ao x')=ac->qBX8/\(∀(I:Int) (J:PX),Yw qBX7 (bw (ao x')) (ao (ay x'))=aT (I,J)->(qBX6 I)/\ag I+1<=aa (qBX1 y x)/\∀(R:Int),(qBX1 y x)[ag I]? =ae R->(qBX6 I)/\0<=ag I/\ag I+1<=aa (qBX1 y x)/\∀(a1:Int),(qBX1 y x)[ag I]? =ae a1->aa (qBX4 y x I R)=qBX5/\aa (qBX4 y x I R)=qBX5/\qBX5=qBX5/\out=aT ([ah (qBX4 y x I R) 0 qBX3,ah (qBX4 y x I R) 1 qBX3,ah (qBX4 y x I R) 2 qBX3,ah (qBX4 y x I R) 3 qBX3],ao J,ao (ay J),()))/\∀(e:Int×Int),Yw qBX7 (bw (ao x')) (ao (ay x'))=aA e->out=aA e)/\(isW [112,101,114] (ao x')=ab->aa (qBX1 y x)=qBX5/\aa (qBX1 y x)=qBX5/\qBX5=qBX5/\out=aT ([ah (qBX1 y x) 0 qBX3,ah (qBX1 y x) 1 qBX3,ah (qBX1 y x) 2 qBX3,ah (qBX1 y x) 3 qBX3],ao x',ao (ay x'),())))/\(ao (ay y)=ab->(isW [112,101,114] (ao x')=ac->qBX8/\(∀(y:Int) (J:PX),Yw qBX7 (bw (ao x')) (ao (ay x'))=aT (y,J)->(qBX6 y)/\ag y+1<=qBX5/\∀(x:Int),[qBX3,qBX3,qBX3,qBX3][ag y]? =ae x->(qBX6 y)/\0<=ag y/\ag y+1<=qBX5/\∀(U:Int),[qBX3,qBX3,qBX3,qBX3][ag y]? =ae U->aa (qBX2 y x)=qBX5/\aa (qBX2 y x)=qBX5/\qBX5=qBX5/\out=aT ([ah (qBX2 y x) 0 qBX3,ah (qBX2 y x) 1 qBX3,ah (qBX2 y x) 2 qBX3,ah (qBX2 y x) 3 qBX3],ao J,ao (ay J),()))/\∀(e:Int×Int),Yw qBX7 (bw (ao x')) (ao (ay x'))=aA e->out=aA e)/\(isW [112,101,114] (ao x')=ab->qBX5=qBX5/\qBX5=qBX5/\qBX5=qBX5/\out=aT ([qBX3,qBX3,qBX3,qBX3],ao x',ao (ay x'),()))))/\∀(a0:Int×Int),Z0 qBX7 l e=aA a0->out=aA a0):=by kernel_rfl
abbrev qBXb(I:PX):=(bw (ao I))
abbrev qBXa(I:PX):=(ao (ay I))
abbrev qBX9(a0:Int) (I:PX) (R:PR Tst) (d0:Int):=((a0==(8:Int))=ab->(isW [(105:Nat),(115:Nat)] (ao I)=ac->True/\(∀(U:Int) (J:PX),pInt (qBXb I) (qBXa I)=aT (U,J)->R=aT (lh d0 U U,ao J,ao (ay J),()))/\∀(e:Int×Int),pInt (qBXb I) (qBXa I)=aA e->R=aA e)/\(isW [(105:Nat),(115:Nat)] (ao I)=ab->(isW [(105:Nat),(110:Nat)] (ao I)=ac->True/\(∀(U:Int) (J:PX),pInt (qBXb I) (qBXa I)=aT (U,J)->(isW [(46:Nat),(46:Nat)] (ao J)=ac->True/\(∀(a1:Int) (I:PX),pInt (qBXb J) (qBXa J)=aT (a1,I)->R=aT (lh d0 U a1,ao I,ao (ay I),()))/\∀(e:Int×Int),pInt (qBXb J) (qBXa J)=aA e->R=aA e)/\(isW [(46:Nat),(46:Nat)] (ao J)=ab->R=aA (hdT (qBXa J) (ao J),(160:Int))))/\∀(e:Int×Int),pInt (qBXb I) (qBXa I)=aA e->R=aA e)/\(isW [(105:Nat),(110:Nat)] (ao I)=ab->R=aA (hdT (qBXa I) (ao I),(160:Int)))))
abbrev qBXc:=(WK.at_=WK.at_\/WK.at_=WK.ki\/WK.at_=WK.un)
theorem Z2e(l:List Tok) (e n:Int) (out:PR Tst):Zk E Fme (vc E Fme 400) 62 [.ptr 0 0,.int ab .i64 n] (one [.psl di l ab,.int ab .i64 e]) 1 (mK (dA1 dN) (n1 λ_=>rfl) dTs (λ_=>rfl) l e out)=(
 (decide ((↑(aa l):Int)>0)=ac->(0:Int)<=0/\0+1<=(↑(aa l):Int)/\∀(x:Tok),l[ag 0]? =ae x->qBXc/\(∀(y:Int) (x':PX),Yw (WK.words WK.at_) l e=aT (y,x')->((n==8)=ac->out=aA (dj x,2))/\(qBX9 n x' out y))/\∀(I:Int×Int),Yw (WK.words WK.at_) l e=aA I->out=aA I)/\(decide ((↑(aa l):Int)>0)=ab->qBXc/\(∀(y:Int) (x':PX),Yw (WK.words WK.at_) l e=aT (y,x')->((n==8)=ac->out=aA (e,2))/\(qBX9 n x' out y))/\∀(I:Int×Int),Yw (WK.words WK.at_) l e=aA I->out=aA I)):=by kernel_rfl
theorem four{i:Int} (I:0<=i) (J:i < 4):i = 0\/i = 1\/i = 2\/i = 3:=by omega
theorem Z8s(l : List Tok) (e : Int) : Ua (mI .nil n0 dDm (λ_ => rfl)) 130 (l, e, ()) () (X8 l e) := by
 refine Zao Zh4 (n := 400) (a := ()) ?_;rw[show(DcL.nil (E := E)).enc () = [] from rfl, Z2d]; delta qBX3 qBX1 qBX2 qBX4 qBX5 qBX6 qBX7 qBX8;have w1 : wr .i64 1 = 1 := by decide
 have w2 : wr .i64 (-1) = -1 := by decide
 have w3 : wr .i64 0 = 0 := by decide
 refine⟨.inl rfl, λy x' h => ⟨λI => ?_, λI => ?_⟩, λer h => (Zr2 h).elim⟩
 ·obtain⟨i, b, _⟩ := y
  have I : b = true := I;subst I;rcases X1 h with⟨q1, q2, rfl⟩ | ⟨_, q2, _⟩
  case inr => cases q2
  cases q2;have q3 : chz WK.un.words l < 4 := Zvc (by decide);generalize hq : chz WK.un.words l = q at *;rcases four q1 q3 with rfl | rfl | rfl | rfl
  all_goals
   simp[w1];refine⟨λh1 => ⟨λj x1 z1 z2 J => ?_, λe1 e2 J => ?_⟩, λh1 => ?_⟩
   ·obtain⟨R, U, _⟩ := U4 J
    have r3 : chz WK.un.words l.tail.tail < 4 := Zvc (by decide);rw[← U] at R r3; clear U;rcases four R r3 with rfl | rfl | rfl | rfl
    all_goals simp[X8, sPer, incD, decD, w1, w2, w3, *]
   ·simp[X8, sPer, incD, decD, *]
   ·simp[X8, sPer, incD, decD, *]
 ·obtain⟨i, b, _⟩ := y
  have I : b = false := I;subst I;rcases X1 h with⟨_, q2, _⟩ | ⟨q1, q2, rfl⟩
  case inl => cases q2
  cases q2;refine⟨λh1 => ⟨.inr (.inr rfl), λj x1 J => ?_, λer J => ?_⟩, λh1 => ?_⟩
  ·obtain⟨R, U, _⟩ := U4 J
   have r3 : chz WK.un.words l.tail < 4 := Zvc (by decide);rw[← U] at R r3; clear U;rcases four R r3 with rfl | rfl | rfl | rfl
   all_goals simp[X8, sPer, incD, decD, w1, w2, w3, *]
  ·simp[X8, sPer, incD, decD, *]
  ·simp[X8, sPer, incD, decD, *]
theorem Z8t(l : List Tok) (e n : Int) : Ua (mI (dA1 dN) (n1 λ_ => rfl) dTs (λ_ => rfl)) 62 (l, e, ()) (n, ()) (V9 n l e) := by
 refine Zao Zh4 (n := 400) (a := (n, ())) ?_;rw[show(dA1 dN).enc (n, ()) = [.int ab .i64 n] from rfl, Z2e]; delta qBXb qBXa qBX9 qBXc;cases l with
 | nil =>
  simp only[Yf, Yv, tz, tz0, tp, tp0, tl1, tl2, tg, td, i01, true_and, and_true, forall_eq', kD, aR, aL, reduceCtorEq, jR, kE, bZ, ko, ir, ne_eq, gg, hJ, fR]
  repeat' (first | apply aD | intro _)
  all_goals first | exact .inl rfl | exact jU | simp[V9, hdT, sIs, sIn, Zd6, *]
 | cons t l =>
  simp only[Yf, Yv, tz, tz0, tp, tp0, tl1, tl2, tg, td, i01, true_and, and_true, forall_eq', kD, aR, aL, reduceCtorEq, jR, kE, bZ, ko, ir, ne_eq, gg, hJ, fR]
  repeat' (first | apply aD | intro _)
  all_goals first | exact .inl rfl | exact jU | simp[V9, hdT, sIs, sIn, Zd6, *]
end
section
open Go
noncomputable def dEx:Dc E Ex:=(dR .exprs:Dc E (thy.dom im))
abbrev PE:=List Tok->Int->PR Ex
def X4:List Nat:= [40]
def Ye:List Nat:= [41]
def sIf:List Nat:= [105,102]
def Yg:List Nat:= [44]
def Zew:List Nat:= [60]
def pOpL(J:PE):List (List Nat)->List Ex->List Tok->Int->PR (List Ex)
 | [],I,l,e=> .ok (I,l,e,())
 |s::r,I,l,e=>
  match J l e with
  | .error R=> .error R
  | .ok (x,y)=>if isW s y.1 then pOpL J r (I++ [x]) y.1.tail y.2.1 else .error (hdT y.2.1 y.1,160)
def pOps(J:PE) (op:Int) (R:List (List Nat)) (l:List Tok) (e:Int):PR Ex:=
 if isW X4 l then
  match pOpL J R [] l.tail e with
  | .error I=> .error I
  | .ok (xs,y)=> .ok (.mk op 0 0 0 0 0 xs,y)
 else .error (hdT e l,160)
def Zbj(J:PE) (l:List Tok) (e:Int):PR Ex:=
 if isW X4 l then
  match J l.tail e with
  | .error I=> .error I
  | .ok (x,y)=>if isW Ye y.1 then .ok (x,y.1.tail,y.2.1,()) else .error (hdT y.2.1 y.1,160)
 else if isW sIf l then pOps J 11 [Zew,Yg,Yg,Ye] l.tail e
 else match Z0 WK.ca.words l e with
  | .error I=> .error I
  | .ok (k,y)=>
   if k.2.1 then pOps J (6+k.1) [Yg,Ye] y.1 y.2.1
   else match Yw WK.at_.words y.1 y.2.1 with
    | .error I=> .error I
    | .ok (a,z)=> .ok (.mk 2 a 0 0 0 0 [],z)
def pFac(I:PE) (l:List Tok) (e:Int):PR Ex:=
 match l with
 | []=>Zbj I [] e
 |t::r=>
  if t.kind=2 then
   match X8 r e with
   | .error J=> .error J
   | .ok (d,y)=> .ok (.mk 1 t.n (d.getD 0 0) (d.getD 1 0) (d.getD 2 0) (d.getD 3 0) [],y)
  else Zbj I (t::r) e
def Shr(I:PE):Prop:=∀l e y x',I l e= .ok (y,x')->x'.1.length<l.length
theorem Zv{s:List Nat} {l:List Tok} (h:isW s l=ac):l.tail.length+1=l.length:=by
 cases l with
 |nil=>cases h
 |cons t l=>rfl
theorem Yls{s:List Nat} {l:List Tok} {P:Prop} (h:isW s l=ac->l.tail.length+1=l.length->P):isW s l=ac->P:=λq=>h q (Zv q)
theorem Ydp{I:PE} (H:Shr I) {l:List Tok} {e:Int} {P:Ex->PX->Prop} (h:∀y x',I l e= .ok (y,x')->x'.1.length<l.length->P y x'):∀y x',I l e= .ok (y,x')->P y x':=λy x' q=>h y x' q (H _ _ _ _ q)
theorem Zdn{ws:List (List Nat)} {l:List Tok} (h:0<=chz ws l):l.tail.length+1=l.length:=by
 cases l with
 |nil=>cases h
 |cons t l=>rfl
theorem Ydq{l:List Tok} {e:Int} {A B:Int×Bool×Unit->PX->Prop} (U:∀y x',Z0 WK.ca.words l e= .ok (y,x')->y.2.1=ac->x'.1.length<l.length->wr .i64 (6+y.1)=6+y.1->A y x') (hB:∀y x',Z0 WK.ca.words l e= .ok (y,x')->y.2.1=ab->B y x'):
 ∀y x',Z0 WK.ca.words l e= .ok (y,x')->(y.2.1=ac->A y x')/\(y.2.1=ab->B y x'):=by
 intro y x' q
 refine⟨λI=>U y x' q I ?_ ?_,λI=>hB y x' q I⟩
 ·rcases X1 q with⟨J,rfl,rfl⟩|⟨_,rfl,_⟩
  ·have:=Zdn J
   show l.tail.length<l.length
   omega
  ·cases I
 ·rcases X1 q with⟨J,rfl,rfl⟩|⟨_,rfl,_⟩
  ·have:=Zvc (ws:=WK.ca.words) (l:=l) (by decide)
   have R:(WK.ca.words).length=5:=rfl
   rw[R] at this
   exact wr64 (by show _<=6+chz _ _;omega) (by show 6+chz _ _<=_;omega)
  ·rfl
theorem Ya1{I:PE} {l:List Tok} {e:Int} (h:((l.length:Int)==0)=ac):pFac I l e=Zbj I l e:=by
 cases l with
 |nil=>rfl
 |cons t l=>rw[tz] at h;cases h
theorem Ya2{J:PE} {l:List Tok} {e:Int} {x:Tok} (I:l[ag 0]? =ae x) (h:(x.kind !=2)=ac):pFac J l e=Zbj J l e:=by
 cases l with
 |nil=>cases I
 |cons t l=>
  rw[tg] at I;subst I;simp at h;simp[pFac,h]
theorem Ya3{l:List Tok} {e:Int} {x:Tok} (I:l[ag 0]? =ae x) (h:(x.kind !=2)=ab):∃r,l=x::r/\x.kind=2/\pInt l e= .ok (x.n,r,e,()):=by
 cases l with
 |nil=>cases I
 |cons t l=>
  rw[tg] at I;subst I;simp at h;exact⟨l,rfl,h,by simp[pInt,h]⟩
theorem Zng{l:List Tok} (h:((l.length:Int)==0)=ab):(0:Int)<=0/\(0:Int)+1<=l.length:=by
 have:(l.length:Int)≠0:=by simpa using h
 omega
noncomputable def Ylt:Sum thy:=sumM (mI .nil n0 dDm (λ_=>rfl)) (λ_ _=>True) λx _=>X8 x.1 x.2.1
theorem Ya4:SumOk E 130 Ylt:=X9 E_ok (Zc rfl) λx _ _=>Z8s x.1 x.2.1
noncomputable def Ynz(n:Nat) (I:PE):Sum thy:=sumM (mI .nil n0 dEx (λ_=>rfl)) (λx _=>x.1.length<n) λx _=>I x.1 x.2.1
noncomputable def Ffa(n:Nat) (I:PE):Fns thy:=addS (addS Fme 130 Ylt) 63 (Ynz n I)
abbrev Zqh(l:List Tok) (n:Nat) (pe:PE) (e:Int) (out:PR Ex):Prop:=
 isW [(105:Nat),(102:Nat)] l=ac->(isW [(40:Nat)] (bw l)=ac->aa (bw (bw l))+(1:Nat)<=n/\(∀(y:Ex) (x':PX),pe (bw
 (bw l)) e=aT (y,x')->(isW [(60:Nat)] (ao x')=ac->aa (bw (ao x'))+(1:Nat)<=n/\(∀(I:Ex) (U:PX),pe (bw
 (ao x')) (ao (ay x'))=aT (I,U)->((1:Nat)<=(1:Nat)/\(0:Nat)<=(1:Nat)/\((1:Nat)+(1:Nat))*(72:Nat)<=(140737488355328:Nat))
 /\(isW [(44:Nat)] (ao U)=ac->aa (bw (ao U))+(1:Nat)<=n/\(∀(J:Ex) (x':PX),pe (bw (ao U)) (ao (ay
 U))=aT (J,x')->((1:Nat)+(1:Nat)<=aa (aw (1:Nat) [bY (aJ y) (cd y) (bC y) (bD y) (bE y) (bF y) (bx y)]++ [bY
 (aJ I) (cd I) (bC I) (bD I) (bE I) (bF I) (bx I)])/\(0:Nat)<=(1:Nat)+(1:Nat)/\((1:Nat)+(1:Nat)+(1:Nat))*(72:Nat)<=
 (140737488355328:Nat))/\(isW [(44:Nat)] (ao x')=ac->aa (bw (ao x'))+(1:Nat)<=n/\(∀(R:Ex) (a0:PX),pe (bw (ao
 x')) (ao (ay x'))=aT (R,a0)->((1:Nat)+(1:Nat)+(1:Nat)<=aa (aw ((1:Nat)+(1:Nat)) (aw (1:Nat) [bY (aJ y)
 (cd y) (bC y) (bD y) (bE y) (bF y) (bx y)]++ [bY (aJ I) (cd I) (bC I) (bD I) (bE I) (bF I) (bx I)])++ [bY (aJ J)
 (cd J) (bC J) (bD J) (bE J) (bF J) (bx J)])/\(0:Nat)<=(1:Nat)+(1:Nat)+(1:Nat)/\((1:Nat)+(1:Nat)+(1:Nat)+(1:Nat))*(72:
 Nat)<=(140737488355328:Nat))/\(isW [(41:Nat)] (ao a0)=ac->(0:Nat)+((1:Nat)+(1:Nat)+(1:Nat)+(1:Nat))<=aa (aw ((1:Nat)+(1
 :Nat)+(1:Nat)) (aw ((1:Nat)+(1:Nat)) (aw (1:Nat) [bY (aJ y) (cd y) (bC y) (bD y) (bE y) (bF y) (bx y)]++ [bY (aJ I)
 (cd I) (bC I) (bD I) (bE I) (bF I) (bx I)])++ [bY (aJ J) (cd J) (bC J) (bD J) (bE J) (bF J) (bx J)])++ [bY
 (aJ R) (cd R) (bC R) (bD R) (bE R) (bF R) (bx R)])/\out=aT (bY (11:Int) (0:Int) (0:Int) (0:Int) (0:Int) (0:Int)
 (aw ((1:Nat)+(1:Nat)+(1:Nat)+(1:Nat)) (cy (0:Nat) (aw ((1:Nat)+(1:Nat)+(1:Nat)) (aw ((1:Nat)+(1:Nat)) (aw (1:
 Nat) [bY (aJ y) (cd y) (bC y) (bD y) (bE y) (bF y) (bx y)]++ [bY (aJ I) (cd I) (bC I) (bD I) (bE I) (bF I) (bx I)])++
 [bY (aJ J) (cd J) (bC J) (bD J) (bE J) (bF J) (bx J)])++ [bY (aJ R) (cd R) (bC R) (bD R) (bE R) (bF R) (bx
 R)]))),bw (ao a0),ao (ay a0),()))/\(isW [(41:Nat)] (ao a0)=ab->out=aA (hdT (ao (ay a0)) (ao
 a0),(160:Int))))/\∀(e:Int×Int),pe (bw (ao x')) (ao (ay x'))=aA e->out=aA e)/\(isW [(44:Nat)] (ao x')=
 ab->out=aA (hdT (ao (ay x')) (ao x'),(160:Int))))/\∀(e:Int×Int),pe (bw (ao U)) (ao (ay U))=
 aA e->out=aA e)/\(isW [(44:Nat)] (ao U)=ab->out=aA (hdT (ao (ay U)) (ao U),(160:Int))))/\∀(e:
 Int×Int),pe (bw (ao x')) (ao (ay x'))=aA e->out=aA e)/\(isW [(60:Nat)] (ao x')=ab->out=aA (hdT
 (ao (ay x')) (ao x'),(160:Int))))/\∀(a1:Int×Int),pe (bw (bw l)) e=aA a1->out=aA a1)/\(isW [(40:Nat)]
 (bw l)=ab->out=aA (hdT e (bw l),(160:Int)))
abbrev Zjj(l:List Tok) (n:Nat) (U:PE) (e:Int) (out:PR Ex):Prop:=
 isW [(40:Nat)] l=ab->(Zqh l n U e out)/\(isW [(105:Nat),(102:Nat)] l=ab->(WK.ca=WK.un\/WK.ca=WK.ca)/\(∀(y:Int×Bool×Unit) (x':PX),
 Z0 (WK.words WK.ca) l e=aT (y,x')->(ao (ay y)=ac->(isW [(40:Nat)] (ao x')=ac->aa (bw (ao x'))+(1:Nat)<=n
 /\(∀(I:Ex) (R:PX),U (bw (ao x')) (ao (ay x'))=aT (I,R)->(isW [(44:Nat)] (ao R)=ac->aa (bw
 (ao R))+(1:Nat)<=n/\(∀(J:Ex) (x':PX),U (bw (ao R)) (ao (ay R))=aT (J,x')->((1:Nat)<=(1:Nat)/\(0:Nat)<=
 (1:Nat)/\((1:Nat)+(1:Nat))*(72:Nat)<=(140737488355328:Nat))/\(isW [(41:Nat)] (ao x')=ac->(0:Nat)+((1:Nat)+(1:Nat))<=aa
 (aw (1:Nat) [bY (aJ I) (cd I) (bC I) (bD I) (bE I) (bF I) (bx I)]++ [bY (aJ J) (cd J) (bC J) (bD J) (bE
 J) (bF J) (bx J)])/\out=aT (bY (wr af ((6:Int)+ao y)) (0:Int) (0:Int) (0:Int) (0:Int) (0:Int) (aw ((1:Nat)+(1:
 Nat)) (cy (0:Nat) (aw (1:Nat) [bY (aJ I) (cd I) (bC I) (bD I) (bE I) (bF I) (bx I)]++ [bY (aJ J) (cd J) (bC
 J) (bD J) (bE J) (bF J) (bx J)]))),bw (ao x'),ao (ay x'),()))/\(isW [(41:Nat)] (ao x')=ab->out=aA (hdT
 (ao (ay x')) (ao x'),(160:Int))))/\∀(e:Int×Int),U (bw (ao R)) (ao (ay R))=aA e->out=aA e)/\
 (isW [(44:Nat)] (ao R)=ab->out=aA (hdT (ao (ay R)) (ao R),(160:Int))))/\∀(e:Int×Int),U (bw (ao x'))
 (ao (ay x'))=aA e->out=aA e)/\(isW [(40:Nat)] (ao x')=ab->out=aA (hdT (ao (ay x')) (ao x'),(160
 :Int))))/\(ao (ay y)=ab->(WK.at_=WK.at_\/WK.at_=WK.ki\/WK.at_=WK.un)/\(∀(y:Int) (R:PX),Yw (WK.words WK.at_) (ao x') (ao
 (ay x'))=aT (y,R)->out=aT (bY (2:Int) y (0:Int) (0:Int) (0:Int) (0:Int) [],ao R,ao (ay R),()))/\∀(e:Int×
 Int),Yw (WK.words WK.at_) (ao x') (ao (ay x'))=aA e->out=aA e))/\∀(a0:Int×Int),Z0 (WK.words WK.ca) l e=aA
 a0->out=aA a0)
abbrev Zjk(l:List Tok) (n:Nat) (J:PE) (e:Int) (out:PR Ex):Prop:=
 isW [(40:Nat)] l=ac->aa (bw l)+(1:Nat)<=n/\(∀(y:Ex) (x':PX),J (bw l) e=aT (y,x')->(isW [(41:Nat)] (ao x')=ac->
 out=aT (bY (aJ y) (cd y) (bC y) (bD y) (bE y) (bF y) (bx y),bw (ao x'),ao (ay x'),()))/\(isW [(41:Nat)] (ao
 x')=ab->out=aA (hdT (ao (ay x')) (ao x'),(160:Int))))/\∀(I:Int×Int),J (bw l) e=aA I->out=aA I
theorem Ztj(n:Nat) (I:PE) (l:List Tok) (e:Int) (out:PR Ex):Zk E (Ffa n I) (vc E (Ffa n I) 400) 107 [.ptr 0 0] (one [.psl di l ab,.int ab .i64 e]) 1 (mK .nil n0 dEx (λ_=>rfl) l e out)=(
(((↑(aa l):Int)==(0:Int))=ac->(Zjk l n I e out)/\(Zjj l n I e out))/\(((↑(aa l):Int)==(0:Int))=ab->(0:Int)<=(0:Int)/\(0:Int)+(1:Int)<=(↑(aa l):Int)/\∀(x:Tok),l[ag (0:Int)]? =ae x->((cA x !=(2:Int))=ac->(Zjk l n I e out)/\(Zjj l n I e out))/\((cA x !=(2:Int))=ab->(0:Int)<=(0:Int)/\(0:Int)+(1:Int)<=(↑(aa l):Int)/\∀(x:Tok),l[ag (0:Int)]? =ae x->True/\(∀(y:Int) (x':PX),pInt l e=aT (y,x')->True/\(∀(J:List Int) (R:PX),X8 (ao x') (ao (ay x'))=aT (J,R)->out=aT (bY (1:Int) y (ah J (0:Nat) (0:Int)) (ah J (1:Nat) (0:Int)) (ah J (2:Nat) (0:Int)) (ah J (3:Nat) (0:Int)) [],ao R,ao (ay R),()))/\∀(e:Int×Int),X8 (ao x') (ao (ay x'))=aA e->out=aA e)/\∀(U:Int×Int),pInt l e=aA U->out=aA U))):=by kernel_rfl
theorem Ylu{n:Nat} {I:PE} (J:∀l e,l.length<n->Ua (mI .nil n0 dEx (λ_=>rfl)) 63 (l,e,()) () (I l e)):FnsOk E (Ffa n I):=Zb (Zb Zh4 Ya4) (X9 E_ok (Zc rfl) λx _ h=>J x.1 x.2.1 h)
theorem Zzj{n : Nat} {pe : PE} (a0 : ∀ l e, l.length < n → Ua (mI .nil n0 dEx (λ_ => rfl)) 63 (l, e, ()) () (pe l e)) (H : Shr pe) (l : List Tok) (e : Int) (hl : l.length < n + 1) :
 Ua (mI .nil n0 dEx (λ_ => rfl)) 107 (l, e, ()) () (pFac pe l e) := by
 refine Zao (Ylu a0) (n := 400) (a := ()) ?_
 rw[show(DcL.nil (E := E)).enc () = [] from rfl, Ztj]
 unfold Zjk Zjj Zqh
 refine⟨λJ => ?_, λJ => ⟨(Zng J).1, (Zng J).2, λx hx => ⟨λR => ?_, λR => ?_⟩⟩⟩
 ·rw[Ya1 J]; clear J
  repeat' (first | refine Yls λ_ _ => ?_ | refine Ydp H λ_ _ _ _ => ?_ | refine Ydq (λ_ _ _ _ _ _ => ?_) (λ_ _ _ _ => ?_) | apply aD | intro _)
  all_goals first | exact .inr rfl | exact .inl rfl | exact jU | omega | simp[Zbj, pOps, pOpL, X4, Ye, sIf, Yg, Zew, Ex.eta, *]
 ·rw[Ya2 hx R]; clear J hx R
  repeat' (first | refine Yls λ_ _ => ?_ | refine Ydp H λ_ _ _ _ => ?_ | refine Ydq (λ_ _ _ _ _ _ => ?_) (λ_ _ _ _ => ?_) | apply aD | intro _)
  all_goals first | exact .inr rfl | exact .inl rfl | exact jU | omega | simp[Zbj, pOps, pOpL, X4, Ye, sIf, Yg, Zew, Ex.eta, *]
 ·obtain⟨r, rfl, hk, hi⟩ := Ya3 (e := e) hx R
  refine⟨(Zng J).1, (Zng J).2, λ_ _ => ⟨jU, λy x' I => ?_, λer I => by rw[hi] at I; cases I⟩⟩
  rw[hi] at I
  injection I with I
  injection I with I h4
  subst I; subst h4
  refine⟨jU, λd x2 U => ?_, λer U => ?_⟩
  ·simp[pFac, hk, U]
  ·simp[pFac, hk, U]
end
section
open Go.RowKit
section
variable {Y:Thy} {E:Eng Y}
def two(cs:List (SV Y)):Hp Y:=λb=>match aK b 0 with|true=>ae (.raw cs 0 ar)|false=>(match aK b 1 with|true=>ae (.raw [.ptr 0 0] 0 ar)|false=>ar)
theorem Z8u(cs:List (SV Y)):two cs 0=ae (.raw cs 0 ar):=rfl
theorem Yjz(cs:List (SV Y)):two cs 1=ae (.raw [.ptr 0 0] 0 ar):=rfl
theorem Zmi{cs:List (SV Y)} {b:Nat} {x:Blk Y} (h:two cs b=ae x):(b=0/\x= .raw cs 0 ar)\/(b=1/\x= .raw [.ptr 0 0] 0 ar):=by
 match b,h with
 |0,h=>cases h;exact .inl ⟨rfl,rfl⟩
 |1,h=>cases h;exact .inr ⟨rfl,rfl⟩
 |b+2,h=>cases h
theorem Ye9(cs:List (SV Y)):DomLt (two cs) 2:=λb I=>by
 obtain⟨x,J⟩:=aV.1 I;rcases Zmi J with⟨rfl,_⟩|⟨rfl,_⟩<;>omega
def σ2(p q:Nat×Nat):Pl:=λb=>match aK b 0 with|true=>ae p|false=>(match aK b 1 with|true=>ae q|false=>ar)
theorem σ2_some{p q x:Nat×Nat} {b:Nat} (h:σ2 p q b=ae x):(b=0/\x=p)\/(b=1/\x=q):=by
 match b,h with
 |0,h=>cases h;exact .inl ⟨rfl,rfl⟩
 |1,h=>cases h;exact .inr ⟨rfl,rfl⟩
 |b+2,h=>cases h
theorem Zr3(cs cs':List (SV Y)) (v:SV Y):patch (two cs) 2 (mutR v cs')=two cs':=by
 funext b;rw[Zp]
 match b with
 |0=>simp[mutR,at1,two]
 |1=>rw[jG (by simp[mutR])];rfl
 |b+2=>rw[jG (by simp[mutR])];rfl
def Yj0(E:Eng Y) (f:FuncId) (cs rest:List (SV Y)) (v:SV Y) (I:List (SV Y)):Prop:=Vg E f (.ptr 1 0::rest) (two cs) 2 (mutR v I)
def Yj1(E:Eng Y) (f:FuncId) (cs rest:List (SV Y)) (p:Value):Prop:=Zsg E f (.ptr 1 0::rest) (two cs) 2 (panR p)
theorem Zr4(hE:EngOk E) {B:Nat} {σ:Pl} {h:Hp Y} {g:GH} {w:World} {b r z c r1 z1:Nat} {cs a3:List (SV Y)} {fc:Nat} {tg tc:Option Y.Th} (I:Inv E B σ h g w) (U:h b=ae (.raw cs 0 tg)) (hc:h c=ae (.raw [.ptr b 0] fc tc)) (R:σ b=ae (r,z)) (a1:σ c=ae (r1,z1)) (a5:b≠c) (a7:fc=0) (a8:cs.length=a3.length) (hn:nidL 0 a3=ac)
 (a6:∀σ g (j:Nat) a2,a3[j]? =ae a2->∃sv,cs[j]? =ae sv/\∀u,Den E σ g sv u->Den E σ g a2 u):Inv E B (σ2 (r,z) (r1,z1)) (two a3) g w:=by
 have a4:r≠r1:=by
  rintro rfl
  exact a5 (I.inj b c _ _ _ (by rw[U];simp) (by rw[hc];simp) R a1)
 refine⟨I.gc,I.gm,λx y hx=> ?_,λx x' q z2 z3 h1 h2 h3 h4=> ?_,λx q z' J=> ?_,λx y q z' o v hx J hv=> ?_,λx y q z' hx J=> ?_,I.glob⟩
 ·rcases Zmi hx with⟨rfl,rfl⟩|⟨rfl,rfl⟩
  ·refine⟨r,z,rfl,?_⟩
   obtain⟨r',z',a0,arr,e,k1,k2,k3,k4,k5⟩:=I.blk b _ U
   rw[R] at a0;cases a0
   refine⟨arr,e,k1,k2,?_,λj a2 hj=> ?_,jU⟩
   ·simp only[Blk.cells] at k3⊢;omega
   ·obtain⟨sv,h1,h2⟩:=a6 σ g j a2 hj
    obtain⟨v,m1,m2⟩:=k4 j sv h1
    exact⟨v,m1,Zx hE (h2 v m2) (λb p U=>by omega) (Zs hn hj)⟩
  ·refine⟨r1,z1,rfl,?_⟩
   obtain⟨r',z',a0,arr,e,k1,k2,k3,k4,k5⟩:=I.blk c _ hc
   rw[a1] at a0;cases a0
   refine⟨arr,e,k1,k2,k3,λj a2 hj=> ?_,jU⟩
   cases j with
   |zero=>
    cases hj
    obtain⟨v,m1,m2⟩:=k4 0 _ rfl
    refine⟨v,m1,?_⟩
    cases m2
    rename_i J
    rw[R] at J;cases J
    exact .ptr (E:=E) (b:=0) rfl
   |succ j=>cases hj
 ·rcases σ2_some h3 with⟨rfl,e1⟩|⟨rfl,e1⟩<;>rcases σ2_some h4 with⟨rfl,e2⟩|⟨rfl,e2⟩
  ·rfl
  ·cases e1;cases e2;exact kc rfl a4
  ·cases e1;cases e2;exact kc rfl a4
  ·rfl
 ·rcases σ2_some J with⟨rfl,e⟩|⟨rfl,e⟩
  ·cases e;exact I.base b _ _ R
  ·cases e;exact I.base c _ _ a1
 ·rcases σ2_some J with⟨rfl,e⟩|⟨rfl,e⟩
  ·cases e
   have h2:o<0:=I.fz b (.raw cs 0 tg) _ _ o v U R hv
   omega
  ·cases e
   subst a7
   have h2:o<0:=I.fz c (.raw [.ptr b 0] 0 tc) _ _ o v hc a1 hv
   omega
 ·rcases σ2_some J with⟨rfl,e⟩|⟨rfl,e⟩
  ·cases e;exact I.fm b _ _ _ U R
  ·cases e;exact I.fm c _ _ _ hc a1
section
variable {X α β ε:Type}
def Zd7(M:MutI E X α β ε) (f:FuncId) (x:X) (a:α) (out:Except ε (β×X)):Prop:=
 match out with
 | .ok (y,x')=>Yj0 E f (M.dS.enc x) (M.dA.enc a) (M.v y) (M.dS.enc x')
 | .error e=>Yj1 E f (M.dS.enc x) (M.dA.enc a) (M.pv e)
def Z2f(M:MutI E X α β ε) (pre:X->α->Prop) (f:X->α->Except ε (β×X)):Sum Y:=λargs h _ k=>
 match args with
 | .ptr c 0::rest=>
  (match h c with
  |some (.raw [.ptr b 0] 0 _)=>
   (match aK b c,h b with
   |false,ae (.raw cs 0 _)=>
    (match M.dS.dec cs,M.dA.dec rest with
    |some x,ae a=>pre x a/\(∀y x',f x a= .ok (y,x')->k (Zk2 b (M.v y) (M.dS.enc x')))/\(∀e,f x a= .error e->k (Z2i b (M.pv e)))
    |_,_=>False)
   |_,_=>False)
  |_=>False)
 |_=>False
theorem Zo1{M:DcL E α} {rest:List (SV Y)} {a:α} (hE:EngOk E) (hr:M.dec rest=ae a) (hn:nidL 0 (M.enc a)=ac) {c:Nat} {p q:Nat×Nat} {σ:Pl} {g:GH} {vals:List Value} (a0:σ c=ae q) (hd:DenL E σ g (.ptr c 0::rest) vals):DenL E (σ2 p q) g (.ptr 1 0::M.enc a) vals:=by
 obtain⟨k1,k2,k3⟩:=M.ok _ _ hr;refine⟨by rw[<-hd.1];simp[k2],λj sv u I J=> ?_⟩;cases j with
 |zero=>
  simp at I;subst I;have:=hd.2 0 _ u rfl J;cases this;rename_i R;rw[a0] at R;cases R;exact .ptr (E:=E) (b:=1) rfl
 |succ j=>
  have I:(M.enc a)[j]? =ae sv:=by simpa using I
  obtain⟨s0,U,h4⟩:=k3 σ g j sv I;exact Zx hE (h4 u (hd.2 (j+1) s0 u (by simpa using U) J)) (λb p hb=>by omega) (Zs hn I)
theorem Zmj(hE:EngOk E) {f:Nat} (hg:FnGood E.P f) {M:MutI E X α β ε} {pre:X->α->Prop} {fn:X->α->Except ε (β×X)} (hp:∀x a,pre x a->Zd7 M f x a (fn x a)):SumOk E f (Z2f M pre fn):=by
 refine⟨hg,λargs h i k hD J=> ?_⟩;unfold Z2f at J;split at J
 case h_2=>exact J.elim
 rename_i c rest;split at J
 case h_2=>exact J.elim
 rename_i b tc I;split at J
 case h_2=>exact J.elim
 rename_i cs tg a0 U;have a0:b≠c:=by intro e;subst e;rw[fL] at a0;cases a0
 split at J
 case h_2=>exact J.elim
 rename_i x a hx ha;obtain⟨b1,a9,b0⟩:=J;have hm:=hp x a b1;obtain⟨c1,c2,c3⟩:=M.dS.ok _ _ hx;have a7:h b≠none:=by rw[U];simp
 unfold Zd7 at hm;split at hm
 ·rename_i y x' ho
  refine⟨_,a9 y x' ho,λb' a4=>by
   have:b'∈ [b]:=a4;rw[cr] at this
   rw[this];exact a7,.inl ?_⟩
  intro B σ g w a6 hh b2 R hB a8 hd;obtain rfl:hh=h:=funext λb=>b2 b jU;obtain⟨r,z,a1,_⟩:=R.blk b _ U;obtain⟨r1,z1,a2,_⟩:=R.blk c _ I;refine(hm B (σ2 (r,z) (r1,z1)) g w a6 _ (λ_ _=>rfl) (Zr4 hE R U I a1 a2 a0 rfl c2 (M.hS x) c3) hB (λc h1 h2=>by simp[mutR] at h2;omega) (Zo1 hE ha (M.hA a) a2 hd)).mono ?_;rintro en w' ⟨u,he,σ',g',hS,a3,hv⟩;rw[Zr3] at a3;obtain⟨q1,q2⟩:=Uf hE (i:=i) (v:=M.v y) (v0:=M.v y) (x':=some (M.dS.enc x')) R U a1 rfl hS a3 (λc I=>by cases I;rfl) (λc I=>by cases I;exact M.hS x');exact⟨u,he,σ,g',q1,q2,Zx hE hv (λb p U=>by omega) (M.hv y)⟩
 ·rename_i e ho
  refine⟨_,b0 e ho,λb' a4=>by
   have:b'∈ [b]:=a4;rw[cr] at this
   rw[this];exact a7,.inr ?_⟩
  obtain⟨p,a5,hm⟩:=hm;have a5:(SV.pan (M.pv e):SV Y)= .pan p:=a5;cases a5;refine⟨_,rfl,λB σ g w a6 R hB a8 hd=> ?_⟩;obtain⟨r,z,a1,_⟩:=R.blk b _ U;obtain⟨r1,z1,a2,_⟩:=R.blk c _ I;refine(hm B (σ2 (r,z) (r1,z1)) g w a6 (Zr4 hE R U I a1 a2 a0 rfl c2 (M.hS x) c3) hB (λc h1 h2=>by simp[panR] at h2;omega) (Zo1 hE ha (M.hA a) a2 hd)).mono ?_;rintro en w' ⟨he,σ',g',hS,a3⟩;obtain⟨q1,q2⟩:=Uf hE (i:=i) (v:= .pan (M.pv e)) (v0:= .unk) (x':=none) R U a1 rfl hS a3 (λc I=>by cases I) (λc I=>by cases I);exact⟨he,σ,g',q1,q2⟩
theorem Z8v{B:Nat} {p q:Nat×Nat} {h:Hp Y} {g J:GH} {w w':World} {σ':Pl} {n:Nat} {a0:List Nat} (a3:∀b∈a0,b=0) (R:Stp 2 n a0 (σ2 p q) g w σ' J w') (a1:Inv E B σ' h J w') (h0:h 0≠ar):∀b r z,b≠0->b≠1->h b≠ar->σ' b=ae (r,z)->w.heap.size<=r:=by
 intro b r z U a2 hn hs;have a4:σ2 p q b=none:=by
  match b with
  |0=>exact kc rfl U
  |1=>exact kc rfl a2
  |b+2=>rfl
 rcases R.blk b r z a4 hs with I|⟨b',I,z',h2⟩
 ·exact I
 ·obtain rfl:=a3 b' I
  have h3:=R.sig 0 _ h2;exact kc (a1.inj b 0 r z z' hn h0 hs h3) U
noncomputable def Yfa(M:MutI E X α β ε) (gth:List (SV Y)->Option Y.Th) (n:Nat) (dec:SV Y->Option β) (U:Value->Option ε) (x:X) (out:Except ε (β×X)) (r:Res Y):Prop:=
 match memB 1 r.mods with
 |true=>False
 |false=>(match Za4 r.v with
  |some q=>(match U q with|some e=>out= .error e|none=>False)
  |none=>frzK E gth (patch (two (M.dS.enc x)) 2 r) n r.v λv' bs=>
   (match patch (two (M.dS.enc x)) 2 r 0 with
   |some (.raw J 0 _)=>frzL (frzK E gth (patch (two (M.dS.enc x)) 2 r) n) J λR I=>
    (match memB 0 (bs++I)||memB 1 (bs++I),dec v',M.dS.dec R with
    |false,ae y,ae x'=>out= .ok (y,x')
    |_,_,_=>False)
   |_=>False))
theorem Z8w(U:EngOk E) {l:List (SV Y)} (hn:nidL 0 l=ac) {p q:Nat×Nat} {σ:Pl} {g:GH} {vals:List Value} (a0:σ 1=ae q) (hd:DenL E σ g (.ptr 1 0::l) vals):DenL E (σ2 p q) g (.ptr 1 0::l) vals:=by
 refine⟨hd.1,λj sv u I J=> ?_⟩;cases j with
 |zero=>
  simp at I;subst I;have:=hd.2 0 _ u rfl J;cases this;rename_i R;rw[a0] at R;cases R;exact .ptr (E:=E) (b:=1) rfl
 |succ j=>
  have I:l[j]? =ae sv:=by simpa using I
  exact Zx U (hd.2 (j+1) sv u (by simpa using I) J) (λb p hb=>by omega) (Zs hn I)
theorem Zo2(hE:EngOk E) {call:Nat->List (SV Y)->Hp Y->Nat->(Res Y->Prop)->Prop} (d4:W8 E call) {M:MutI E X α β ε} {gth:List (SV Y)->Option Y.Th} {n:Nat} {dec:SV Y->Option β} {b5:Value->Option ε} (d5:∀v y,dec v=ae y->∀σ g u,Den E σ g v u->Den E σ g (M.v y) u) (d6:∀q e,b5 q=ae e->M.pv e=q)
 {f:Nat} {x:X} {a:α} {out:Except ε (β×X)} (hk:call f (.ptr 1 0::M.dA.enc a) (two (M.dS.enc x)) 2 (Yfa M gth n dec b5 x out)):Zd7 M f x a out:=by
 obtain⟨r,hr,hR,a9⟩:=d4 f _ _ _ _ (Ye9 _) hk
 unfold Yfa at hr
 split at hr
 ·exact hr.elim
 rename_i c0
 have b3:∀b∈r.mods,b=0:=λb hb=>by
  obtain⟨y,hy⟩:=aV.1 (hR b hb)
  rcases Zmi hy with⟨e,_⟩|⟨e,_⟩
  ·exact e
  ·subst e;rw[memB_iff.2 hb] at c0;cases c0
 have b6:∀(p q:Nat×Nat) (b:Nat),2<=b->b<2+r.n->σ2 p q b=none:=by
  intro p q b hb _
  match b,hb with
  |b+2,_=>rfl
 have c5:∀(p q:Nat×Nat) (g I a5:GH) (w w':World) (σ':Pl),Stp 2 r.n r.mods (σ2 p q) g w σ' I w'->I.le a5->(∀q o v,a5.cell q o=ae v->I.cell q o=ae v\/w.heap.size<=q)->(∀q es,a5.obj q=ae es->I.obj q=ae es\/w.heap.size<=q)->Stp 2 0 [0] (σ2 p q) g w (σ2 p q) a5 w':=by
  intro p q g I a5 w w' σ' U a6 hc hm
  refine⟨.refl _,λb q h=> .inl h,U.gle.trans a6,λq o v R=> ?_,λq es R=> ?_,λq hq hx=>U.heap q hq λb hb=>hx b (by rw[b3 b hb];simp),U.size,U.os,U.tape,U.output,λb q z J h2=>by rw[J] at h2;cases h2⟩
  ·rcases hc q o v R with J|J
   ·rcases U.gcnew q o v J with h2|h2|⟨b,h2,h3⟩
    ·exact .inl h2
    ·exact .inr (.inl h2)
    ·exact .inr (.inr ⟨b,by rw[b3 b h2];simp,h3⟩)
   ·exact .inr (.inl J)
  ·rcases hm q es R with J|J
   ·exact U.gmnew q es J
   ·exact .inr J
 have start:∀(B:Nat) (σ:Pl) (g:GH) (w:World) (a2:Array Value),Inv E B σ (two (M.dS.enc x)) g w->DenL E σ g (.ptr 1 0::M.dA.enc a) a2.toList->∃rr zz r1 z1,σ 0=ae (rr,zz)/\σ 1=ae (r1,z1)/\Inv E B (σ2 (rr,zz) (r1,z1)) (two (M.dS.enc x)) g w/\DenL E (σ2 (rr,zz) (r1,z1)) g (.ptr 1 0::M.dA.enc a) a2.toList:=by
  intro B σ g w a2 hI hd
  obtain⟨rr,zz,a4,_⟩:=hI.blk 0 _ (Z8u _)
  obtain⟨r1,z1,a8,_⟩:=hI.blk 1 _ (Yjz _)
  exact⟨rr,zz,r1,z1,a4,a8,Zr4 hE hI (Z8u _) (Yjz _) a4 a8 (by omega) rfl rfl (M.hS x) (λσ g j e5 hj=>⟨e5,hj,λu h=>h⟩),Z8w hE (M.hA a) a8 hd⟩
 split at hr
 ·rename_i q hq
  split at hr
  case h_2=>exact hr.elim
  rename_i e he
  subst hr
  show Yj1 E f _ _ (M.pv e)
  refine⟨_,rfl,λB σ g w a2 hI hB d8 hd=> ?_⟩
  obtain⟨rr,zz,r1,z1,a4,a8,a1,b2⟩:=start B σ g w a2 hI hd
  refine(a9.panic hq a1 hB (b6 _ _) b2).mono ?_
  rintro en w' ⟨rfl,σ',I,U,a0⟩
  refine⟨by rw[d6 q e he],?_⟩
  have b1:=c5 _ _ g I I w w' σ' U (.refl _) (λ_ _ _ h=> .inl h) (λ_ _ h=> .inl h)
  have b0:Inv E B (σ2 (rr,zz) (r1,z1)) (λ_=>ar) I w':=⟨a0.gc,a0.gm,(λb x hx=>by cases hx),λb b' r z z' J=>kc rfl J,λb r z hs=>⟨(a1.base b r z hs).1,cg (a1.base b r z hs).2 U.size⟩,(λb x r z o v hx=>by cases hx),(λb x r z hx=>by cases hx),a0.glob⟩
  obtain⟨q1,q2⟩:=Uf hE (i:=2) (v:= .pan (M.pv e)) (v0:= .unk) (x':=none) hI (Z8u _) a4 rfl b1 b0 (λc hc=>by cases hc) (λc hc=>by cases hc)
  refine⟨σ,I,q1,?_⟩
  have e2:patch (two (M.dS.enc x)) 2 ⟨.pan (M.pv e),0,[0],at1 0 (rawO ar),ar⟩=patch (two (M.dS.enc x)) 2 (panR (M.pv e)):=by
   funext b
   rw[Zp,Zp]
   by_cases c:b=0
   ·subst c
    rw[jQ (by simp),jQ (by simp[panR])]
    rfl
   ·rw[jG (by simp[c]),jG (by simp[panR,c])]
  rw[<-e2];exact q2
 ·rename_i hq
  have a9:=a9.tri hq
  obtain⟨v',bs,hr,o1⟩:=Zbl hE n r.v _ hr
  split at hr
  case h_2=>exact hr.elim
  rename_i c2 tg h0
  obtain⟨c7,c6,hr,o2⟩:=Uq (Zbl hE n) hr
  split at hr
  case h_2=>exact hr.elim
  rename_i y x' a7 hy e4
  rw[bB] at a7
  subst hr
  show Yj0 E f _ _ (M.v y) _
  intro B σ g w a2 hh e1 hI hB d8 hd
  obtain rfl:hh=two (M.dS.enc x):=funext λb=>e1 b jU
  obtain⟨rr,zz,r1,z1,a4,a8,a1,b2⟩:=start B σ g w a2 hI hd
  refine(a9 B _ g w a2 _ (λ_ _=>rfl) a1 hB (b6 _ _) b2).mono ?_
  rintro en w' ⟨u,rfl,σ',I,U,a0,R⟩
  refine⟨u,rfl,?_⟩
  have b4:σ' 0=ae (rr,zz):=U.sig 0 _ rfl
  have e7:rr<w.heap.size:=(a1.base 0 rr zz rfl).2
  have d7:=Z8v b3 U a0 (by rw[h0];simp)
  have a6:=Zdr (n:=w.heap.size) a0
  have b9:Kept E (patch (two (M.dS.enc x)) 2 r) σ' (bs++c6) w' (allG I w.heap.size w'):=by
   intro b hb q z y1 hs a3 j v hj R
   have c8:b≠0:=by
    rintro rfl
    have:=memB_iff.2 hb
    rw[this] at a7;cases a7.1
   have c9:b≠1:=by
    rintro rfl
    have:=memB_iff.2 hb
    rw[this] at a7;cases a7.2
   show(if w.heap.size<=q then w'.cell? ⟨q,j,ar⟩ else I.cell q j)=ae v
   rw[jQ (d7 b q z c8 c9 (by rw[a3];simp) hs)]
   exact R
  have e3:=o1.den _ σ' I w' B u _ (λ_ _=>rfl) a0 a6 (b9.sub λb hb=>eQ _ hb) R
  have b7:∀q o v,(allG I w.heap.size w').cell q o=ae v->I.cell q o=ae v\/w.heap.size<=q:=by
   intro q o v R
   have R:(if w.heap.size<=q then w'.cell? ⟨q,o,ar⟩ else I.cell q o)=ae v:=R
   split at R
   ·exact .inr (by assumption)
   ·exact .inl R
  have c4:∀q es,(allG I w.heap.size w').obj q=ae es->I.obj q=ae es\/w.heap.size<=q:=by
   intro q es R
   have R:(if w.heap.size<=q then(match w'.heap[q]? with|some (.map es _)=>ae es|_=>ar) else I.obj q)=ae es:=R
   split at R
   ·exact .inr (by assumption)
   ·exact .inl R
  have b1:=c5 _ _ g I _ w w' σ' U a6 b7 c4
  have hG:=Zhc (n:=w.heap.size) (B':=B) a0
  obtain⟨c1,e6,c3⟩:=M.dS.ok _ _ e4
  have b0:Inv E B (σ2 (rr,zz) (r1,z1)) (one (M.dS.enc x')) (allG I w.heap.size w') w':=by
   refine⟨hG.gc,hG.gm,λb y1 a3=> ?_,λb b' q z z' J h2 _ _=>by rw[Zd8 J,Zd8 h2],λb q z hs=>⟨(a1.base b q z hs).1,cg (a1.base b q z hs).2 U.size⟩,λb y1 q z o v a3 hs R=> ?_,λb y1 q z a3 hs=> ?_,hG.glob⟩
   ·obtain⟨rfl,rfl⟩:=U5 a3
    refine⟨rr,zz,rfl,?_⟩
    obtain⟨r2,z2,m1,arr,e,k1,k2,k3,k4,k5⟩:=a0.blk 0 _ h0
    rw[b4] at m1;cases m1
    have hl:c7.length=c2.length:=o2.len
    refine⟨arr,e,k1,k2,?_,λj sv hj=> ?_,jU⟩
    ·simp only[Blk.cells] at k3⊢;omega
    ·obtain⟨s1,J,h2⟩:=c3 σ0 (allG I w.heap.size w') j sv hj
     have b8:j<c2.length:=by rw[<-hl];exact(aj.1 J).1
     obtain⟨v,m1,m2⟩:=k4 j _ (ak b8)
     have:=o2.den _ σ' I w' B _ (λ_ _=>rfl) a0 a6 (b9.sub λb hb=>dz _ hb) j _ s1 v (ak b8) J m2
     exact⟨v,m1,(h2 v this).mono (λb p h=>by cases h) (.refl _)⟩
   ·obtain⟨rfl,rfl⟩:=U5 a3
    rcases σ2_some hs with⟨_,e⟩|⟨e0,_⟩
    case inr=>omega
    cases e
    rcases b7 _ o v R with J|J
    ·have h2:o<0:=a0.fz 0 (.raw c2 0 tg) _ _ o v h0 b4 J
     omega
    ·omega
   ·obtain⟨rfl,rfl⟩:=U5 a3
    rcases σ2_some hs with⟨_,e⟩|⟨e0,_⟩
    case inr=>omega
    cases e
    cases d9:(allG I w.heap.size w').obj rr with
    |none=>rfl
    |some es=>
     rcases c4 _ es d9 with J|J
     ·rw[a0.fm 0 _ _ _ h0 b4] at J;cases J
     ·omega
  obtain⟨q1,q2⟩:=Uf hE (i:=2) (v:=M.v y) (v0:= .unk) (x':=some (M.dS.enc x')) hI (Z8u _) a4 rfl b1 b0 (λc hc=>by cases hc;rfl) (λc hc=>by cases hc;exact M.hS x')
  exact⟨σ,_,q1,q2,(d5 v' y hy _ _ u e3).mono (λb p h=>by cases h) (.refl _)⟩
end
end
end
section
open Go
noncomputable def mK2{α J:Type} (I:DcL E α) (R:∀a,nidL 0 (I.enc a)=ac) (d:Dc E J) (U:∀y,nid 0 (d.enc y)=ac) (l:List Tok) (e:Int) (out:PR J):Res thy->Prop:=
 Yfa (mI I R d U) (λ_=>ar) 3 d.dec Zwn (l,e,()) out
theorem Zsd{F:Fns thy} (hF:FnsOk E F) {n:Nat} {α U:Type} {I:DcL E α} {J:∀a,nidL 0 (I.enc a)=ac} {d:Dc E U} {R:∀y,nid 0 (d.enc y)=ac} {f:Nat} {l:List Tok} {e:Int} {a:α} {out:PR U}
 (hk:Zk E F (vc E F n) f (.ptr 1 0::I.enc a) (two [.psl di l ab,.int ab .i64 e]) 2 (mK2 I J d R l e out)):Zd7 (mI I J d R) f (l,e,()) a out:=
 Zo2 E_ok (Zd E_ok hF n) (λv y h=>(d.ok v y h).2.2) Zqm (x:=(l,e,())) hk
def sMul:List Nat:= [42]
def Zdb:List Nat:= [43]
def Uu:List Nat:= [45]
def op1(l:List Tok):Int×List Tok:=if isW sMul l then(5,l.tail) else(0,l)
def op2(l:List Tok):Int×List Tok:=if isW Zdb l then(3,l.tail) else if isW Uu l then(4,l.tail) else(0,l)
def pOp(o:List Tok->Int×List Tok) (l:List Tok) (e:Int):PR Int:= .ok ((o l).1,(o l).2,e,())
theorem Z84(l:List Tok) (e:Int) (out:PR Int):Zk E Fme (vc E Fme 400) 108 [.ptr 1 0] (two [.psl di l ab,.int ab .i64 e]) 2 (mK2 .nil n0 dN (λ_=>rfl) l e out)=(
(isW [42] l=ac->out=aT (5,bw l,e,()))/\(isW [42] l=ab->out=aT (0,l,e,()))):=by kernel_rfl
theorem Z85(l:List Tok) (e:Int) (out:PR Int):Zk E Fme (vc E Fme 400) 109 [.ptr 1 0] (two [.psl di l ab,.int ab .i64 e]) 2 (mK2 .nil n0 dN (λ_=>rfl) l e out)=(
(isW [43] l=ac->out=aT (3,bw l,e,()))/\(isW [43] l=ab->(isW [45] l=ac->out=aT (4,bw l,e,()))/\(isW [45] l=ab->out=aT (0,l,e,())))):=by kernel_rfl
theorem Yfp(l:List Tok) (e:Int):Zd7 (mI .nil n0 dN (λ_=>rfl)) 108 (l,e,()) () (pOp op1 l e):=by
 refine Zsd Zh4 (n:=400) (a:=()) ?_;rw[show(DcL.nil (E:=E)).enc ()= [] from rfl,Z84];exact⟨λh=>by simp[pOp,op1,sMul,h],λh=>by simp[pOp,op1,sMul,h]⟩
theorem Yfq(l:List Tok) (e:Int):Zd7 (mI .nil n0 dN (λ_=>rfl)) 109 (l,e,()) () (pOp op2 l e):=by
 refine Zsd Zh4 (n:=400) (a:=()) ?_;rw[show(DcL.nil (E:=E)).enc ()= [] from rfl,Z85];exact⟨λh=>by simp[pOp,op2,Zdb,h],λh=>⟨λI=>by simp[pOp,op2,Zdb,Uu,h,I],λI=>by simp[pOp,op2,Zdb,Uu,h,I]⟩⟩
theorem Zse(l:List Tok):(op1 l).2.length<=l.length:=by
 unfold op1;split
 ·have:=Zv (by assumption);show l.tail.length<=_;omega
 ·exact av _
theorem Zsf(l:List Tok):(op2 l).2.length<=l.length:=by
 unfold op2;split
 ·have:=Zv (by assumption);show l.tail.length<=_;omega
 ·split
  ·have:=Zv (by assumption);show l.tail.length<=_;omega
  ·exact av _
def Xp(o:List Tok->Int×List Tok) (pf:PE):Nat->Ex->Int->List Tok->Int->PR Ex
 |0,x,_,l,e=> .ok (x,l,e,())
 |k+1,x,op,l,e=>
  if op=0 then .ok (x,l,e,())
  else match pf l e with
   | .error I=> .error I
   | .ok (y,z)=>Xp o pf k (.mk op 0 0 0 0 0 [x,y]) (o z.1).1 (o z.1).2 z.2.1
def pCh(o:List Tok->Int×List Tok) (pf:PE) (l:List Tok) (e:Int):PR Ex:=
 match pf l e with
 | .error I=> .error I
 | .ok (y,z)=>Xp o pf ((o z.1).2.length+1) y (o z.1).1 (o z.1).2 z.2.1
noncomputable def Sop1:Sum thy:=Z2f (mI .nil n0 dN (λ_=>rfl)) (λ_ _=>True) λx _=>pOp op1 x.1 x.2.1
noncomputable def Sop2:Sum thy:=Z2f (mI .nil n0 dN (λ_=>rfl)) (λ_ _=>True) λx _=>pOp op2 x.1 x.2.1
theorem Yfr:SumOk E 108 Sop1:=Zmj E_ok (Zc rfl) λx _ _=>Yfp x.1 x.2.1
theorem Yfs:SumOk E 109 Sop2:=Zmj E_ok (Zc rfl) λx _ _=>Yfq x.1 x.2.1
structure CX where
 e:Ex
 op:Int
 l:List Tok
 ed:Int
 k:Nat
def celP(T:Fr thy):Nat:=match T 2 with| .fn _ _ [.ptr c _]=>c|_=>0
def parP(T:Fr thy) (h:Hp thy):Nat:=match h (celP T) with|some (.raw [.ptr p _] _ _)=>p|_=>0
noncomputable def Ach:Fr thy->Hp thy->Nat->Ann thy:=λT h i=>{X:=CX,fr:=λx=> [(1,T 1),(2,T 2),(6,T 6),(7,T 7),(8,.int ab .i64 x.op)],bl:=λx=>(parP T h,.raw [.psl di x.l ab,.int ab .i64 x.ed] 0 ar)::(celP T,.raw [.ptr (parP T h) 0] 0 ar)::(bOf (T 7),.raw (E.enc im x.e) 0 ar)::blkP h (T 6),src:=λ_=> [],md:= [parP T h,bOf (T 7)],ih:=i,M:=i+60,meas:=λx=>x.k,fz:= [7]}
noncomputable def Sfac(n:Nat) (pf:PE):Sum thy:=sumM (mI .nil n0 dEx (λ_=>rfl)) (λx _=>x.1.length<n) λx _=>pf x.1 x.2.1
noncomputable def Stm(n:Nat) (pf:PE):Sum thy:=Z2f (mI .nil n0 dEx (λ_=>rfl)) (λx _=>x.1.length<n) λx _=>pf x.1 x.2.1
noncomputable def Ftm(n:Nat) (pf:PE):Fns thy:=addL (addS (addS F0 107 (Sfac n pf)) 108 Sop1) 106 3 Ach E
noncomputable def Fxp(n:Nat) (pf:PE):Fns thy:=addL (addS (addS F0 105 (Stm n pf)) 109 Sop2) 106 3 Ach E
abbrev qCA3:=(0:Int)
abbrev qCA5:=(0:Nat)
abbrev qCA1:=(qCA3=qCA3/\qCA3=qCA3/\qCA3=qCA3/\qCA3=qCA3/\qCA3=qCA3/\qCA3=qCA3/\aH ar qCA5 qCA5=aH ar qCA5 qCA5/\True)
abbrev qCA2(I:Int) (J:CX):=((cE (107:Nat)=cE (107:Nat)/\(qCA5=qCA5/\True)/\True)/\(cE (108:Nat)=cE (108:Nat)/\True/\qCA5=qCA5/\True)/\qCA5=qCA5/\qCA5=qCA5/\I=CX.op J/\True)
abbrev qCA4:=(ab=ac->ab=ac)
theorem Z2l(n:Nat) (pf:PE) (l:List Tok) (e:Int) (out:PR Ex):Zk E (Ftm n pf) (vc E (Ftm n pf) 400) 105 [.ptr 1 0] (two [.psl di l ab,.int ab .i64 e]) 2 (mK2 .nil n0 dEx (λ_=>rfl) l e out)=(
 aa l+1<=n/\(∀(y:Ex) (x':PX),pf l e=aT (y,x')->True/\(∀(a1:Int) (J:PX),pOp op1 (ao x') (ao (ay x'))=aT (a1,J)->∃(R:CX->Prop),(∃(x:CX),R x/\ac=ac/\(qCA2 a1 x)/\((ao J=CX.l x/\qCA4)/\ao (ay J)=CX.ed x/\True)/\(qCA5=qCA5/\True)/\(aJ y=aJ (CX.e x)/\cd y=cd (CX.e x)/\bC y=bC (CX.e x)/\bD y=bD (CX.e x)/\bE y=bE (CX.e x)/\bF y=bF (CX.e x)/\(bx y=bx (CX.e x)/\qCA4)/\True)/\qCA1/\True)/\∀(x:CX),R x->((CX.op x !=qCA3)=ac->aa (CX.l x)+1<=n/\(∀(y:Ex) (x':PX),pf (CX.l x) (CX.ed x)=aT (y,x')->True/\(∀(a2:Int) (U:PX),pOp op1 (ao x') (ao (ay x'))=aT (a2,U)->∃(I:CX),R I/\I.5+1<=x.5/\ac=ac/\(qCA2 a2 I)/\((ao U=CX.l I/\qCA4)/\ao (ay U)=CX.ed I/\True)/\(qCA5=qCA5/\True)/\(CX.op x=aJ (CX.e I)/\qCA3=cd (CX.e I)/\qCA3=bC (CX.e I)/\qCA3=bD (CX.e I)/\qCA3=bE (CX.e I)/\qCA3=bF (CX.e I)/\([bY (aJ (CX.e x)) (cd (CX.e x)) (bC (CX.e x)) (bD (CX.e x)) (bE (CX.e x)) (bF (CX.e x)) (bx (CX.e x)),bY (aJ y) (cd y) (bC y) (bD y) (bE y) (bF y) (bx y)]=bx (CX.e I)/\qCA4)/\True)/\qCA1/\True)/\∀(e:Int×Int),pOp op1 (ao x') (ao (ay x'))=aA e->out=aA e)/\∀(e:Int×Int),pf (CX.l x) (CX.ed x)=aA e->out=aA e)/\((CX.op x !=qCA3)=ab->out=aT (bY (aJ (CX.e x)) (cd (CX.e x)) (bC (CX.e x)) (bD (CX.e x)) (bE (CX.e x)) (bF (CX.e x)) (bx (CX.e x)),CX.l x,CX.ed x,())))/\∀(e:Int×Int),pOp op1 (ao x') (ao (ay x'))=aA e->out=aA e)/\∀(a0:Int×Int),pf l e=aA a0->out=aA a0):=by kernel_rfl
abbrev qCA8:=(0:Int)
abbrev qCAa:=(0:Nat)
abbrev qCA6:=(qCA8=qCA8/\qCA8=qCA8/\qCA8=qCA8/\qCA8=qCA8/\qCA8=qCA8/\qCA8=qCA8/\aH ar qCAa qCAa=aH ar qCAa qCAa/\True)
abbrev qCA7(I:Int) (J:CX):=((cE (105:Nat)=cE (105:Nat)/\True/\qCAa=qCAa/\True)/\(cE (109:Nat)=cE (109:Nat)/\True/\qCAa=qCAa/\True)/\qCAa=qCAa/\qCAa=qCAa/\I=CX.op J/\True)
abbrev qCA9:=(ab=ac->ab=ac)
theorem Z2m(n:Nat) (pf:PE) (l:List Tok) (e:Int) (out:PR Ex):Zk E (Fxp n pf) (vc E (Fxp n pf) 400) 63 [.ptr 0 0] (one [.psl di l ab,.int ab .i64 e]) 1 (mK .nil n0 dEx (λ_=>rfl) l e out)=(
 aa l+1<=n/\(∀(y:Ex) (x':PX),pf l e=aT (y,x')->True/\(∀(a1:Int) (J:PX),pOp op2 (ao x') (ao (ay x'))=aT (a1,J)->∃(R:CX->Prop),(∃(x:CX),R x/\ac=ac/\(qCA7 a1 x)/\((ao J=CX.l x/\qCA9)/\ao (ay J)=CX.ed x/\True)/\(qCAa=qCAa/\True)/\(aJ y=aJ (CX.e x)/\cd y=cd (CX.e x)/\bC y=bC (CX.e x)/\bD y=bD (CX.e x)/\bE y=bE (CX.e x)/\bF y=bF (CX.e x)/\(bx y=bx (CX.e x)/\qCA9)/\True)/\qCA6/\True)/\∀(x:CX),R x->((CX.op x !=qCA8)=ac->aa (CX.l x)+1<=n/\(∀(y:Ex) (x':PX),pf (CX.l x) (CX.ed x)=aT (y,x')->True/\(∀(a2:Int) (U:PX),pOp op2 (ao x') (ao (ay x'))=aT (a2,U)->∃(I:CX),R I/\I.5+1<=x.5/\ac=ac/\(qCA7 a2 I)/\((ao U=CX.l I/\qCA9)/\ao (ay U)=CX.ed I/\True)/\(qCAa=qCAa/\True)/\(CX.op x=aJ (CX.e I)/\qCA8=cd (CX.e I)/\qCA8=bC (CX.e I)/\qCA8=bD (CX.e I)/\qCA8=bE (CX.e I)/\qCA8=bF (CX.e I)/\([bY (aJ (CX.e x)) (cd (CX.e x)) (bC (CX.e x)) (bD (CX.e x)) (bE (CX.e x)) (bF (CX.e x)) (bx (CX.e x)),bY (aJ y) (cd y) (bC y) (bD y) (bE y) (bF y) (bx y)]=bx (CX.e I)/\qCA9)/\True)/\qCA6/\True)/\∀(e:Int×Int),pOp op2 (ao x') (ao (ay x'))=aA e->out=aA e)/\∀(e:Int×Int),pf (CX.l x) (CX.ed x)=aA e->out=aA e)/\((CX.op x !=qCA8)=ab->out=aT (bY (aJ (CX.e x)) (cd (CX.e x)) (bC (CX.e x)) (bD (CX.e x)) (bE (CX.e x)) (bF (CX.e x)) (bx (CX.e x)),CX.l x,CX.ed x,())))/\∀(e:Int×Int),pOp op2 (ao x') (ao (ay x'))=aA e->out=aA e)/\∀(a0:Int×Int),pf l e=aA a0->out=aA a0):=by kernel_rfl
theorem Yj5{n:Nat} {pf:PE} (I:∀l e,l.length<n->Ua (mI .nil n0 dEx (λ_=>rfl)) 107 (l,e,()) () (pf l e)):FnsOk E (Ftm n pf):=Zm E_ok (Zb (Zb F0_ok (X9 E_ok (Zc rfl) λx _ h=>I x.1 x.2.1 h)) Yfr) _ _ _
theorem Yj6{n:Nat} {pf:PE} (I:∀l e,l.length<n->Zd7 (mI .nil n0 dEx (λ_=>rfl)) 105 (l,e,()) () (pf l e)):FnsOk E (Fxp n pf):=Zm E_ok (Zb (Zb F0_ok (Zmj E_ok (Zc rfl) λx _ h=>I x.1 x.2.1 h)) Yfs) _ _ _
theorem Z86{n:Nat} {pf:PE} (a4:∀l e,l.length<n->Ua (mI .nil n0 dEx (λ_=>rfl)) 107 (l,e,()) () (pf l e)) (H:Shr pf) (l:List Tok) (e:Int) (hl:l.length<n):
 Zd7 (mI .nil n0 dEx (λ_=>rfl)) 105 (l,e,()) () (pCh op1 pf l e):=by
 refine Zsd (Yj5 a4) (n:=400) (a:=()) ?_
 rw[show(DcL.nil (E:=E)).enc ()= [] from rfl,Z2l];delta qCA3 qCA5 qCA1 qCA2 qCA4
 refine⟨by omega,λy x' h=>⟨jU,λy1 x1 ho=> ?_,λer ho=>by cases ho⟩,λer h=>by simp[pCh,h]⟩
 unfold pOp at ho
 injection ho with ho
 injection ho with a2 a3
 subst a2;subst a3
 have hs:=H _ _ _ _ h
 have a6:=Zse x'.1
 refine⟨λx=>Xp op1 pf x.k x.e x.op x.l x.ed=pCh op1 pf l e/\x.l.length<x.k/\x.l.length<n,⟨⟨y,(op1 x'.1).1,(op1 x'.1).2,x'.2.1,(op1 x'.1).2.length+1⟩,⟨by simp[pCh,h],(by show(op1 x'.1).2.length<(op1 x'.1).2.length+1;omega),(by show(op1 x'.1).2.length<n;omega)⟩,by simp⟩,?_⟩
 rintro⟨x,op,l1,ed,k⟩ ⟨hR,hk,hn⟩
 have hk:l1.length<k:=hk
 have hn:l1.length<n:=hn
 cases k with
 |zero=>omega
 |succ k=>
  have hR:Xp op1 pf (k+1) x op l1 ed=pCh op1 pf l e:=hR
  rw[<-hR]
  refine⟨λI=>⟨by omega,λy2 R J=>⟨jU,λy3 x3 U=> ?_,λer U=>by cases U⟩,λer J=> ?_⟩,λI=> ?_⟩
  ·unfold pOp at U
   injection U with U
   injection U with a0 a1
   subst a0;subst a1
   have I:op≠0:=by simpa using I
   have J:pf l1 ed= .ok (y2,R):=J
   have hq:=H _ _ _ _ J
   have a5:=Zse R.1
   refine⟨⟨.mk op 0 0 0 0 0 [x,y2],(op1 R.1).1,(op1 R.1).2,R.2.1,k⟩,⟨?_,(by show(op1 R.1).2.length<k;omega),(by show(op1 R.1).2.length<n;omega)⟩,av _,?_⟩
   ·show Xp op1 pf k _ _ _ _=_
    simp[Xp,I,J]
   ·simp only[Ex.eta]
    repeat' (first|exact rfl|exact jU|exactλh=>h|apply aD)
  ·have I:op≠0:=by simpa using I
   have J:pf l1 ed= .error er:=J
   simp[Xp,I,J]
  ·have I:op=0:=by simpa using I
   simp[Xp,I,Ex.eta]
theorem Z2n{n:Nat} {pf:PE} (a4:∀l e,l.length<n->Zd7 (mI .nil n0 dEx (λ_=>rfl)) 105 (l,e,()) () (pf l e)) (H:Shr pf) (l:List Tok) (e:Int) (hl:l.length<n):
 Ua (mI .nil n0 dEx (λ_=>rfl)) 63 (l,e,()) () (pCh op2 pf l e):=by
 refine Zao (Yj6 a4) (n:=400) (a:=()) ?_
 rw[show(DcL.nil (E:=E)).enc ()= [] from rfl,Z2m];delta qCA8 qCAa qCA6 qCA7 qCA9
 refine⟨by omega,λy x' h=>⟨jU,λy1 x1 ho=> ?_,λer ho=>by cases ho⟩,λer h=>by simp[pCh,h]⟩
 unfold pOp at ho
 injection ho with ho
 injection ho with a2 a3
 subst a2;subst a3
 have hs:=H _ _ _ _ h
 have a6:=Zsf x'.1
 refine⟨λx=>Xp op2 pf x.k x.e x.op x.l x.ed=pCh op2 pf l e/\x.l.length<x.k/\x.l.length<n,⟨⟨y,(op2 x'.1).1,(op2 x'.1).2,x'.2.1,(op2 x'.1).2.length+1⟩,⟨by simp[pCh,h],(by show(op2 x'.1).2.length<(op2 x'.1).2.length+1;omega),(by show(op2 x'.1).2.length<n;omega)⟩,by simp⟩,?_⟩
 rintro⟨x,op,l1,ed,k⟩ ⟨hR,hk,hn⟩
 have hk:l1.length<k:=hk
 have hn:l1.length<n:=hn
 cases k with
 |zero=>omega
 |succ k=>
  have hR:Xp op2 pf (k+1) x op l1 ed=pCh op2 pf l e:=hR
  rw[<-hR]
  refine⟨λI=>⟨by omega,λy2 R J=>⟨jU,λy3 x3 U=> ?_,λer U=>by cases U⟩,λer J=> ?_⟩,λI=> ?_⟩
  ·unfold pOp at U
   injection U with U
   injection U with a0 a1
   subst a0;subst a1
   have I:op≠0:=by simpa using I
   have J:pf l1 ed= .ok (y2,R):=J
   have hq:=H _ _ _ _ J
   have a5:=Zsf R.1
   refine⟨⟨.mk op 0 0 0 0 0 [x,y2],(op2 R.1).1,(op2 R.1).2,R.2.1,k⟩,⟨?_,(by show(op2 R.1).2.length<k;omega),(by show(op2 R.1).2.length<n;omega)⟩,av _,?_⟩
   ·show Xp op2 pf k _ _ _ _=_
    simp[Xp,I,J]
   ·simp only[Ex.eta]
    repeat' (first|exact rfl|exact jU|exactλh=>h|apply aD)
  ·have I:op≠0:=by simpa using I
   have J:pf l1 ed= .error er:=J
   simp[Xp,I,J]
  ·have I:op=0:=by simpa using I
   simp[Xp,I,Ex.eta]
end
section
open Go
def Bnd(I:PE):Prop:=∀l e x y,I l e= .ok (x,y)->x.sz+2*y.1.length<=2*l.length
theorem Bnd.shr{pe:PE} (h:Bnd pe):Shr pe:=λl e x y I=>by
 have:=h l e x y I;have:=Ex.sz_pos x;omega
theorem Zk4:∀(a b:List Ex),Ex.szL (a++b)=Ex.szL a+Ex.szL b
 | [],b=>by simp[Ex.szL]
 |x::a,b=>by simp[Ex.szL,Zk4 a b];omega
theorem Zvi{pe:PE} (h:Bnd pe):∀{ss:List (List Nat)} {J:List Ex} {l:List Tok} {e:Int} {xs:List Ex} {y:PX},pOpL pe ss J l e= .ok (xs,y)->Ex.szL xs+2*y.1.length<=Ex.szL J+2*l.length
 | [],J,l,e,xs,y,I=>by
  unfold pOpL at I
  injection I with I
  injection I with R U
  subst R;subst U
  exact av _
 |s::r,J,l,e,xs,y,I=>by
  unfold pOpL at I
  split at I
  ·cases I
  ·rename_i x z hx
   split at I
   ·rename_i hw
    have R:=h _ _ _ _ hx
    have U:=Zv hw
    have h3:=Zvi h I
    rw[Zk4] at h3
    have h4:Ex.szL [x]=x.sz:=by simp[Ex.szL]
    omega
   ·cases I
theorem Zvj{R:PE} (h:Bnd R) {op:Int} {ss:List (List Nat)} {l:List Tok} {e:Int} {x:Ex} {y:PX} (I:pOps R op ss l e= .ok (x,y)):x.sz+2*y.1.length<=2*l.length:=by
 unfold pOps at I;split at I
 ·rename_i hw
  split at I
  ·cases I
  ·rename_i xs z hx
   injection I with I
   injection I with U J
   subst U;subst J;have h3:=Zvi h hx;have J:=Zv hw;rw[Ex.sz_eq];show Ex.szL xs+1+_<=_;have:Ex.szL ([]:List Ex)=0:=rfl;omega
 ·cases I
theorem Z2o{l:List Tok} {e:Int} {d:List Int} {y:PX} (I:X8 l e= .ok (d,y)):y.1.length<=l.length:=by
 unfold X8 at I;split at I
 ·cases I
 ·rename_i k x hc
  have hx:x.1.length<=l.length:=by
   rcases X1 hc with⟨J,_,rfl⟩|⟨_,_,rfl⟩
   ·have:=Zdn J;show l.tail.length<=_;omega
   ·exact av _
  split at I
  ·rename_i U
   have U:=Zv U;split at I
   ·cases I
   ·rename_i j x1 hm
    obtain⟨J,_,rfl⟩:=U4 hm;have:=Zdn J;injection I with I
    injection I with _ R
    subst R;show x.1.tail.tail.length<=_;omega
  ·injection I with I
   injection I with _ R
   subst R;exact hx
theorem Zo4{pe:PE} (h:Bnd pe):Bnd (Zbj pe):=by
 intro l e x y I;unfold Zbj at I;split at I
 ·rename_i U
  have U:=Zv U;split at I
  ·cases I
  ·rename_i x1 y1 hx
   have R:=h _ _ _ _ hx;split at I
   ·rename_i a0
    have a0:=Zv a0;injection I with I
    injection I with J h3
    subst J;subst h3;show _+2*y1.1.tail.length<=_;omega
   ·cases I
 ·split at I
  ·rename_i U
   have U:=Zv U;have:=Zvj h I;omega
  ·split at I
   ·cases I
   ·rename_i k y1 hc
    split at I
    ·have R:=Zvj h I
     rcases X1 hc with⟨J,_,rfl⟩|⟨_,_,rfl⟩
     ·have:=Zdn J
      have R:x.sz+2*y.1.length<=2*l.tail.length:=R;omega
     ·exact R
    ·split at I
     ·cases I
     ·rename_i a z hm
      obtain⟨R,_,rfl⟩:=U4 hm;have hp:=Zdn R;injection I with I
      injection I with J h3
      subst J;subst h3;have hy:y1.1.length<=l.length:=by
       rcases X1 hc with⟨J,_,rfl⟩|⟨_,_,rfl⟩
       ·have:=Zdn J;show l.tail.length<=_;omega
       ·exact av _
      show 1+2*y1.1.tail.length<=_;omega
theorem Ui{J:PE} (h:Bnd J):Bnd (pFac J):=by
 intro l e x y I;unfold pFac at I;split at I
 ·exact Zo4 h _ _ _ _ I
 ·split at I
  ·split at I
   ·cases I
   ·rename_i t r _ _ d z hu
    have h1:=Z2o hu;injection I with I
    injection I with R U
    subst R;subst U;show 1+2*z.1.length<=2*(r.length+1);omega
  ·exact Zo4 h _ _ _ _ I
def Cns(o:List Tok->Int×List Tok):Prop:=∀l,2*(o l).2.length+(if(o l).1=0 then 0 else 2)<=2*l.length
theorem Zfp:Cns op1:=by
 intro l;unfold op1;split
 ·have:=Zv (by assumption);show 2*l.tail.length+2<=_;omega
 ·simp
theorem Yft:Cns op2:=by
 intro l;unfold op2;split
 ·have:=Zv (by assumption);show 2*l.tail.length+2<=_;omega
 ·split
  ·have:=Zv (by assumption);show 2*l.tail.length+2<=_;omega
  ·simp
theorem Zo5{o:List Tok->Int×List Tok} {pf:PE} (U:Cns o) (h:Bnd pf):∀{k:Nat} {x:Ex} {op:Int} {l:List Tok} {e:Int} {z:Ex} {y:PX},Xp o pf k x op l e= .ok (z,y)->z.sz+2*y.1.length<=x.sz+2*l.length+(if op=0 then 0 else 2)
 |0,x,op,l,e,z,y,I=>by
  unfold Xp at I
  injection I with I
  injection I with J R
  subst J;subst R
  exact kp _ _
 |k+1,x,op,l,e,z,y,I=>by
  unfold Xp at I
  split at I
  ·injection I with I
   injection I with J R
   subst J;subst R
   exact kp _ _
  ·rename_i a0
   split at I
   ·cases I
   ·rename_i y1 z1 hx
    have h1:=h _ _ _ _ hx
    have J:=Zo5 U h I
    have R:=U z1.1
    have h4:(bY op 0 0 0 0 0 [x,y1]).sz=x.sz+y1.sz+1:=by rw[Ex.sz_eq];simp[bx,Ex.szL]
    rw[h4] at J
    rw[jG a0]
    omega
theorem Zdc{o:List Tok->Int×List Tok} {pf:PE} (J:Cns o) (h:Bnd pf):Bnd (pCh o pf):=by
 intro l e x y I;unfold pCh at I;split at I
 ·cases I
 ·rename_i y1 U R
  have h1:=h _ _ _ _ R;have h2:=Zo5 J h I;have h3:=J U.1;omega
def pE:Nat->PE
 |0=>λl e=> .error (hdT e l,160)
 |n+1=>pCh op2 (pCh op1 (pFac (pE n)))
theorem Zam:∀n,Bnd (pE n)
 |0=>λl e x y I=>by cases I
 |n+1=>Zdc Yft (Zdc Zfp (Ui (Zam n)))
theorem Zvk:∀(n:Nat) (l:List Tok) (e:Int),l.length<n->Ua (mI .nil n0 dEx (λ_=>rfl)) 63 (l,e,()) () (pE n l e)
 |0,l,e,h=>by omega
 |n+1,l,e,h=>Z2n (n:=n+1) (λl e h=>Z86 (n:=n+1) (λl e h=>Zzj (Zvk n) (Zam n).shr l e h) (Ui (Zam n)).shr l e h) (Zdc Zfp (Ui (Zam n))).shr l e h
def pX(l:List Tok) (e:Int):PR Ex:=pE (l.length+1) l e
noncomputable def Sx:Sum thy:=sumM (mI .nil n0 dEx (λ_=>rfl)) (λ_ _=>True) λx _=>pX x.1 x.2.1
theorem Ynb:SumOk E 63 Sx:=X9 E_ok (Zc rfl) λx _ _=>Zvk _ _ _ (dx _)
theorem Zo6:Bnd pX:=λl e x y I=>Zam _ l e x y I
end
section
open Go
noncomputable def dCl:Dc E Cls:=(dR .clauses:Dc E (thy.dom bu))
noncomputable def dCls:Dc E (List Cls):=(Zfi (E:=E) bu:Dc E (List (thy.dom bu)))
noncomputable def Ykl:Sum thy:=sumM (mI (dA1 dN) (n1 λ_=>rfl) dTs (λ_=>rfl)) (λ_ _=>True) λx a=>V9 a.1 x.1 x.2.1
theorem Z9r:SumOk E 62 Ykl:=X9 E_ok (Zc rfl) λx a _=>Z8t x.1 x.2.1 a.1
def Aif:Fr thy->Hp thy->Nat->Ann thy:=λT h i=>{X:=LX,fr:=λx=> [(0,T 0),(1,T 1),(7,T 7),(8,.int ab .i64 x.k)],bl:=λx=>(match T 1 with| .fn _ _ [v]=>blkP h v|_=> []),src:=λ_=> [],md:= [],ih:=i,M:=i+30,meas:=λx=>x.r}
structure TX where
 ts:List Tst
 l:List Tok
 ed:Int
 more:Bool
 k:Nat
def cellsOf(h:Hp thy) (v:SV thy):List (SV thy):=match h (bOf v) with|some (.raw cs _ _)=>cs|_=> []
def Atl:Fr thy->Hp thy->Nat->Ann thy:=λT h i=>{X:=Bool×TX,fr:=λx=> [(0,T 0),(4,T 4),(5,T 5),(6,T 6),(7,.bool ab x.2.more)],bl:=λx=>(bOf (T 0),.raw [.psl di x.2.l ab,.int ab .i64 x.2.ed] 0 ar)::(bOf (T 6),.raw ((cellsOf h (T 6)).take 1++((match x.1 with|true=> .sl i 0 x.2.ts.length 3 ar|false=> .val (.slice ar 0 0))::(cellsOf h (T 6)).drop 2)) 0 ar)::((match x.1 with|true=> [(i,.rows Th.tests x.2.ts 0)]|false=> [])++blkP h (T 4)),src:=λx=>(match x.1 with|true=> [(i,2006)]|false=> []),md:= [bOf (T 0),bOf (T 6)],ih:=i+1,M:=i+60,meas:=λx=>x.2.k,ex:=ex2,al:=al2,exOk:=Zij,alOk:=Zik}
noncomputable def Fcl:Fns thy:=addL (addL (addS (addS (addS (addS Fme 29 Z8p) 62 Ykl) 63 Sx) 64 Zmh) 103 2 Aif E) 31 6 Atl E
theorem Ykm:FnsOk E Fcl:=Zm E_ok (Zm E_ok (Zb (Zb (Zb (Zb Zh4 Zvb) Z9r) Ynb) Zh1) _ _ _) _ _ _
def pTs:Nat->Bool->List Tst->List Tok->Int->PR (List Tst)
 |0,_,ts,l,e=> .ok (ts,l,e,())
 |k+1,more,ts,l,e=>
  if more then
   match V9 ts.length l e with
   | .error I=> .error I
   | .ok (t,x)=>pTs k (isW [97,110,100] x.1) (ts++ [t]) (if isW [97,110,100] x.1 then x.1.tail else x.1) x.2.1
  else .ok (ts,l,e,())
def pPay(nm:List Nat) (ts:List Tst) (l:List Tok) (e:Int):PR Cls:=
 if isW [112,97,121] l then
  match pX l.tail e with
  | .error I=> .error I
  | .ok (x,y)=>
   if 24<Z7 x then .error (hdT e l.tail,2)
   else if isW [59] y.1 then .ok (⟨nm,ts,x⟩,y.1.tail,y.2.1,()) else .error (hdT y.2.1 y.1,160)
 else .error (hdT e l,160)
def pAft(nm:List Nat) (r:PR (List Tst)):PR Cls:=
 match r with
 | .error I=> .error I
 | .ok (ts,y)=>pPay nm ts y.1 y.2.1
def Yi(bs:List Cls) (l:List Tok) (e:Int):PR Cls:=
 match Zar l e with
 | .error I=> .error I
 | .ok (nm,x)=>
  if bs.any (λb=>b.name==nm) then .error (hdT e l,161)
  else pAft nm (pTs 10 (isW [119,104,101,110] x.1) [] (if isW [119,104,101,110] x.1 then x.1.tail else x.1) x.2.1)
theorem Ux{l:List Tok} {e:Int} {y:List Nat} {x:PX} (h:Zar l e= .ok (y,x)):x.1.length<l.length:=by
 unfold Zar at h;split at h
 ·cases h
 ·split at h
  ·split at h
   ·cases h
   ·injection h with h
    injection h with _ h
    subst h;exact dx _
  ·cases h
theorem Zmy{l:List Tok} {e:Int} {y:Int} {x:PX} (h:pInt l e= .ok (y,x)):x.1.length<l.length:=by
 unfold pInt at h;split at h
 ·cases h
 ·split at h
  ·injection h with h
   injection h with _ h
   subst h;exact dx _
  ·cases h
theorem Zv1{s:List Nat} {l:List Tok}:(if isW s l=ac then l.tail else l).length<=l.length:=by
 split
 ·have:=Zv (by assumption);omega
 ·exact av _
theorem Zip{n:Int} {l:List Tok} {e:Int} {y:Tst} {x:PX} (h:V9 n l e= .ok (y,x)):x.1.length<l.length/\n≠8:=by
 unfold V9 at h;split at h
 ·cases h
 ·rename_i a x0 hm
  obtain⟨h1,_,rfl⟩:=U4 hm;have hp:=Zdn h1;split at h
  ·cases h
  ·rename_i hn
   refine⟨?_,hn⟩;split at h
   ·rename_i I
    have I:=Zv I;split at h
    ·cases h
    ·rename_i m J hi
     have hi:=Zmy hi;injection h with h
     injection h with _ h
     subst h;have I:l.tail.tail.length+1=l.tail.length:=I;have hi:J.1.length<l.tail.tail.length:=hi;omega
   ·split at h
    ·rename_i I
     have I:=Zv I;split at h
     ·cases h
     ·rename_i m J hi
      have hi:=Zmy hi;have I:l.tail.tail.length+1=l.tail.length:=I;have hi:J.1.length<l.tail.tail.length:=hi;split at h
      ·rename_i U
       have U:=Zv U;split at h
       ·cases h
       ·rename_i k x2 R
        have R:=Zmy R;injection h with h
        injection h with _ h
        subst h;omega
      ·cases h
    ·cases h
abbrev Zpr(R:Bool×TX->Prop) (y:Int) (a1:List Nat) (out:PR Cls):Prop:=
 ∀(J:TX),R (ab,J)->(TX.more J=ac->True/\(∀(I:Tst) (x':PX),V9 (0:Int) (TX.l J) (TX.ed J)=aT (I,x')->True/\(∀(a2:Bool) (a0
 :PX),pAcc [(97:Nat),(110:Nat),(100:Nat)] (ao x') (ao (ay x'))=aT (a2,a0)->(∃(U:TX),R (ab,U)/\U.5+(1:Nat)<=J.5/\
 ac=ac/\((0:Nat)=(0:Nat)/\(0:Nat)=(0:Nat)/\y=y/\(0:Nat)=(0:Nat)/\a2=TX.more U/\True)/\((ao a0=TX.l U/\(ab=ac->ab=
 ac))/\ao (ay a0)=TX.ed U/\True)/\(a1=a1/\False/\(0:Int)=(0:Int)/\(0:Int)=(0:Int)/\(0:Int)=(0:Int)/\(0:Int)=(0:Int)/\(0:
 Int)=(0:Int)/\(0:Int)=(0:Int)/\aH ar (0:Nat) (0:Nat)=aH ar (0:Nat) (0:Nat)/\True)/\(([]:List Nat)= []/\aH ar (0:
 Nat) (0:Nat)=aH ar (0:Nat) (0:Nat)/\(0:Int)=(0:Int)/\(0:Int)=(0:Int)/\(0:Int)=(0:Int)/\(0:Int)=(0:Int)/\(0:Int)=(0:Int)/\(0
 :Int)=(0:Int)/\aH ar (0:Nat) (0:Nat)=aH ar (0:Nat) (0:Nat)/\True)/\True)\/∃(U:TX),R (ac,U)/\U.5+(1:Nat)<=J.5/\ac
 =ac/\((0:Nat)=(0:Nat)/\(0:Nat)=(0:Nat)/\y=y/\(0:Nat)=(0:Nat)/\a2=TX.more U/\True)/\((ao a0=TX.l U/\(ab=ac->ab=ac))
 /\ao (ay a0)=TX.ed U/\True)/\(a1=a1/\((0:Nat)=(0:Nat)/\(1:Nat)=aa (TX.ts U)/\True)/\(0:Int)=(0:Int)/\(0:Int)=(0:Int)
 /\(0:Int)=(0:Int)/\(0:Int)=(0:Int)/\(0:Int)=(0:Int)/\(0:Int)=(0:Int)/\aH ar (0:Nat) (0:Nat)=aH ar (0:Nat) (0:Nat)/\
 True)/\([I]=TX.ts U/\(0:Nat)=(0:Nat))/\(([]:List Nat)= []/\aH ar (0:Nat) (0:Nat)=aH ar (0:Nat) (0:Nat)/\(0:Int)=(0:Int)
 /\(0:Int)=(0:Int)/\(0:Int)=(0:Int)/\(0:Int)=(0:Int)/\(0:Int)=(0:Int)/\(0:Int)=(0:Int)/\aH ar (0:Nat) (0:Nat)=aH ar
 (0:Nat) (0:Nat)/\True)/\True)/\∀(e:Int×Int),pAcc [(97:Nat),(110:Nat),(100:Nat)] (ao x') (ao (ay x'))=aA e->out=aA
 e)/\∀(e:Int×Int),V9 (0:Int) (TX.l J) (TX.ed J)=aA e->out=aA e)/\(TX.more J=ab->(isW [(112:Nat),(97:Nat),(121:Nat)] (TX.l
 J)=ac->∀(y:Int),y=hdT (TX.ed J) (bw (TX.l J))->True/\(∀(I:Ex) (x':PX),pX (bw (TX.l J)) (TX.ed J)=aT (I,x')->Ex.sz (bY
 (aJ I) (cd I) (bC I) (bD I) (bE I) (bF I) (bx I))+(1:Nat)<=(1000000000000:Nat)/\(decide ((↑(Z7 (bY (aJ I) (cd I) (bC
 I) (bD I) (bE I) (bF I) (bx I))):Int)>(24:Int))=ac->out=aA (y,(2:Int)))/\(decide ((↑(Z7 (bY (aJ I) (cd I) (bC
 I) (bD I) (bE I) (bF I) (bx I))):Int)>(24:Int))=ab->(isW [(59:Nat)] (ao x')=ac->out=aT (fb a1 [] (bY (aJ I)
 (cd I) (bC I) (bD I) (bE I) (bF I) (bx I)),bw (ao x'),ao (ay x'),()))/\(isW [(59:Nat)] (ao x')=ab->out=
 aA (hdT (ao (ay x')) (ao x'),(160:Int)))))/\∀(e:Int×Int),pX (bw (TX.l J)) (TX.ed J)=aA e->out=aA e)/\
 (isW [(112:Nat),(97:Nat),(121:Nat)] (TX.l J)=ab->out=aA (hdT (TX.ed J) (TX.l J),(160:Int))))
abbrev Ziq(x':PX) (y:Int) (a0:List Nat) (out:PR Cls):Prop:=
 ∀(a4:Bool) (a2:PX),pAcc [(119:Nat),(104:Nat),(101:Nat),(110:Nat)] (ao x') (ao (ay x'))=aT (a4,a2)->∃(R:Bool×TX->Prop),
 ((∃(I:TX),R (ab,I)/\ac=ac/\((0:Nat)=(0:Nat)/\(0:Nat)=(0:Nat)/\y=y/\(0:Nat)=(0:Nat)/\a4=TX.more I/\True)/\((ao a2=TX.l
 I/\(ab=ac->ab=ac))/\ao (ay a2)=TX.ed I/\True)/\(a0=a0/\aH ar (0:Nat) (0:Nat)=aH ar (0:Nat) (0:Nat)/\
 (0:Int)=(0:Int)/\(0:Int)=(0:Int)/\(0:Int)=(0:Int)/\(0:Int)=(0:Int)/\(0:Int)=(0:Int)/\(0:Int)=(0:Int)/\aH ar (0:Nat) (0:
 Nat)=aH ar (0:Nat) (0:Nat)/\True)/\(([]:List Nat)= []/\aH ar (0:Nat) (0:Nat)=aH ar (0:Nat) (0:Nat)/\(0:Int)=(0:Int)
 /\(0:Int)=(0:Int)/\(0:Int)=(0:Int)/\(0:Int)=(0:Int)/\(0:Int)=(0:Int)/\(0:Int)=(0:Int)/\aH ar (0:Nat) (0:Nat)=aH ar
 (0:Nat) (0:Nat)/\True)/\True)\/∃(y:TX),R (ac,y)/\ac=ac/\False)/\(Zpr R y a0 out)/\∀(I:TX),R (ac,I)->(TX.more I=ac->True/\(∀
 (J:Tst) (x':PX),V9 (↑(aa (TX.ts I)):Int) (TX.l I) (TX.ed I)=aT (J,x')->(aa (TX.ts I)<=aa (TX.ts I)/\(0:Nat)<=
 aa (TX.ts I)/\(aa (TX.ts I)+(1:Nat))*(24:Nat)<=(140737488355328:Nat))/\True/\(∀(a3:Bool) (a1:PX),pAcc [(97:Nat),(110:Nat),(100
 :Nat)] (ao x') (ao (ay x'))=aT (a3,a1)->(∃(U:TX),R (ab,U)/\U.5+(1:Nat)<=I.5/\ac=ac/\((0:Nat)=(0:Nat)/\(0:
 Nat)=(0:Nat)/\y=y/\(0:Nat)=(0:Nat)/\a3=TX.more U/\True)/\((ao a1=TX.l U/\(ab=ac->ab=ac))/\ao (ay a1)=TX.ed U
 /\True)/\(a0=a0/\False/\(0:Int)=(0:Int)/\(0:Int)=(0:Int)/\(0:Int)=(0:Int)/\(0:Int)=(0:Int)/\(0:Int)=(0:Int)/\(0:Int)=(0:Int)/\
 aH ar (0:Nat) (0:Nat)=aH ar (0:Nat) (0:Nat)/\True)/\(([]:List Nat)= []/\aH ar (0:Nat) (0:Nat)=aH ar (0:Nat) (0
 :Nat)/\(0:Int)=(0:Int)/\(0:Int)=(0:Int)/\(0:Int)=(0:Int)/\(0:Int)=(0:Int)/\(0:Int)=(0:Int)/\(0:Int)=(0:Int)/\aH ar (0:
 Nat) (0:Nat)=aH ar (0:Nat) (0:Nat)/\True)/\True)\/∃(U:TX),R (ac,U)/\U.5+(1:Nat)<=I.5/\ac=ac/\((0:Nat)=(0:Nat)/\(0:Nat)
 =(0:Nat)/\y=y/\(0:Nat)=(0:Nat)/\a3=TX.more U/\True)/\((ao a1=TX.l U/\(ab=ac->ab=ac))/\ao (ay a1)=TX.ed U/\
 True)/\(a0=a0/\((0:Nat)=(0:Nat)/\aa (TX.ts I)+(1:Nat)=aa (TX.ts U)/\True)/\(0:Int)=(0:Int)/\(0:Int)=(0:Int)/\(0:Int)=
 (0:Int)/\(0:Int)=(0:Int)/\(0:Int)=(0:Int)/\(0:Int)=(0:Int)/\aH ar (0:Nat) (0:Nat)=aH ar (0:Nat) (0:Nat)/\True)/\
 (aw (aa (TX.ts I)) (TX.ts I)++ [J]=TX.ts U/\(0:Nat)=(0:Nat))/\(([]:List Nat)= []/\aH ar (0:Nat) (0:Nat)=aH ar
 (0:Nat) (0:Nat)/\(0:Int)=(0:Int)/\(0:Int)=(0:Int)/\(0:Int)=(0:Int)/\(0:Int)=(0:Int)/\(0:Int)=(0:Int)/\(0:Int)=(0:Int)/\aH
 ar (0:Nat) (0:Nat)=aH ar (0:Nat) (0:Nat)/\True)/\True)/\∀(e:Int×Int),pAcc [(97:Nat),(110:Nat),(100:Nat)] (ao x') (ao (ay
 x'))=aA e->out=aA e)/\∀(e:Int×Int),V9 (↑(aa (TX.ts I)):Int) (TX.l I) (TX.ed I)=aA e->out=aA e)/\
 (TX.more I=ab->(isW [(112:Nat),(97:Nat),(121:Nat)] (TX.l I)=ac->∀(y:Int),y=hdT (TX.ed I) (bw (TX.l I))->True/\(∀(J:Ex) (x':PX),
 pX (bw (TX.l I)) (TX.ed I)=aT (J,x')->Ex.sz (bY (aJ J) (cd J) (bC J) (bD J) (bE J) (bF J) (bx J))+(1:Nat)<=
 (1000000000000:Nat)/\(decide ((↑(Z7 (bY (aJ J) (cd J) (bC J) (bD J) (bE J) (bF J) (bx J))):Int)>(24:Int))=ac->out=
 aA (y,(2:Int)))/\(decide ((↑(Z7 (bY (aJ J) (cd J) (bC J) (bD J) (bE J) (bF J) (bx J))):Int)>(24:Int))=ab->(isW
 [(59:Nat)] (ao x')=ac->(0:Nat)+aa (TX.ts I)<=aa (TX.ts I)/\out=aT (fb a0 (aw (aa (TX.ts I)) (cy (0
 :Nat) (TX.ts I))) (bY (aJ J) (cd J) (bC J) (bD J) (bE J) (bF J) (bx J)),bw (ao x'),ao (ay x'),()))/\(isW [(59
 :Nat)] (ao x')=ab->out=aA (hdT (ao (ay x')) (ao x'),(160:Int)))))/\∀(e:Int×Int),pX (bw (TX.l I)) (TX.ed I)=
 aA e->out=aA e)/\(isW [(112:Nat),(97:Nat),(121:Nat)] (TX.l I)=ab->out=aA (hdT (TX.ed I) (TX.l I),(160:Int))))
abbrev Zir(I:List Nat):Prop:=
 I=I/\aH ar (0:Nat) (0:Nat)=aH ar (0:Nat) (0:Nat)/\(0:Int)=(0:Int)/\(0:Int)=(0:Int)/\(0:Int)=(0:Int)/\(0:Int)=(0:
 Int)/\(0:Int)=(0:Int)/\(0:Int)=(0:Int)/\aH ar (0:Nat) (0:Nat)=aH ar (0:Nat) (0:Nat)/\True
abbrev Zis:Prop:=
 cE (61:Nat)=cE (61:Nat)/\True/\(0:Nat)=(0:Nat)/\True
abbrev qCC1(I:List Cls):=(↑(aa I):Int)
abbrev qCC2(I:LX):=(↑(LX.k I):Int)
theorem Zs3(l:List Tok) (e:Int) (bs:List Cls) (out:PR Cls):Zk E Fcl (vc E Fcl 400) 31 [.ptr 0 0,.psl bu bs ab] (one [.psl di l ab,.int ab .i64 e]) 1 (mK (dA1 dCls) (n1 λ_=>rfl) dCl (λ_=>rfl) l e out)=(
 ∀(y:Int),y=hdT e l->True/\(∀(I:List Nat) (x':PX),Zar l e=aT (I,x')->∃(R:LX->Prop),(∃(x:LX),R x/\ac=ac/\((bs=bs/\(ab=ac->ab=ac))/\(Zis)/\(qCC1 bs)=(qCC1 bs)/\0=(qCC2 x)/\True)/\(Zir I)/\True)/\∀(x:LX),R x->(decide ((qCC2 x)<(qCC1 bs))=ac->0<=(qCC2 x)/\(qCC2 x)+1<=(qCC1 bs)/\∀(J:Cls),bs[ag (qCC2 x)]? =ae J->((aP J==I)=ac->(decide ((qCC2 x)>=0)=ac->out=aA (y,161))/\(decide ((qCC2 x)>=0)=ab->True/\(Ziq x' y I out)/\∀(e:Int×Int),pAcc [119,104,101,110] (ao x') (ao (ay x'))=aA e->out=aA e))/\((aP J==I)=ab->∃(U:LX),R U/\U.2+1<=x.2/\ac=ac/\((bs=bs/\(ab=ac->ab=ac))/\(Zis)/\(qCC1 bs)=(qCC1 bs)/\wr af ((qCC2 x)+1)=(qCC2 U)/\True)/\(Zir I)/\True))/\(decide ((qCC2 x)<(qCC1 bs))=ab->True/\(Ziq x' y I out)/\∀(e:Int×Int),pAcc [119,104,101,110] (ao x') (ao (ay x'))=aA e->out=aA e))/\∀(a0:Int×Int),Zar l e=aA a0->out=aA a0):=by kernel_rfl
theorem Zyy(bs:List Cls) (l:List Tok) (e:Int) (hl:l.length<1000000000) (hb:bs.length<=1000000000):Ua (mI (dA1 dCls) (n1 λ_=>rfl) dCl (λ_=>rfl)) 31 (l,e,()) (bs,()) (Yi bs l e):=by
 refine Zao Ykm (n:=400) (a:=(bs,())) ?_;rw[show(dA1 dCls).enc (bs,())= [.psl bu bs ab] from rfl,Zs3];delta qCC1 qCC2;unfold Zis Zir Ziq Zpr;intro y0 b0;subst b0;refine⟨jU,λnm x h1=> ?_,λer h1=>by simp[Yi,h1]⟩;have hx:=Ux h1;refine⟨λz=>z.k<=bs.length/\(bs.drop z.k).any (λb=>b.name==nm)=bs.any (λb=>b.name==nm)/\z.r=bs.length-z.k,⟨⟨0,bs.length,[],0⟩,⟨(by dsimp only;omega),rfl,rfl⟩,by simp⟩,?_⟩;rintro z ⟨hk,hv,hr⟩;refine⟨λhq=> ?_,λhq=>⟨jU,λmore x1 h2=> ?_,λer h2=>by cases h2⟩⟩
 ·have hq:(z.k:Int)<bs.length:=by simpa using hq
  refine⟨by omega,by omega,λc hc=> ?_⟩;have hc:bs[z.k]? =ae c:=hc;have a8:=(aj.1 hc).1;have a6:bs[z.k]=c:=(aj.1 hc).2;rw[cw a8,a6,List.any_cons] at hv;refine⟨λI=>⟨λ_=> ?_,λa9=>kc a9 (by rw[fC];omega)⟩,λI=> ?_⟩
  ·rw[I,dW] at hv
   simp[Yi,h1,<-hv]
  ·rw[I,dE] at hv
   exact⟨⟨z.k+1,bs.length-(z.k+1),[],0⟩,⟨(by dsimp only;omega),hv,rfl⟩,(by show bs.length-(z.k+1)+1<=z.r;omega),rfl,⟨⟨rfl,λh=>h⟩,⟨rfl,jU,rfl,jU⟩,rfl,wr64 (by omega) (by omega),jU⟩,⟨rfl,rfl,rfl,rfl,rfl,rfl,rfl,rfl,rfl,jU⟩,jU⟩
 ·have hq:¬(z.k:Int)<bs.length:=by simpa using hq
  rw[bJ (by omega),List.any_nil] at hv;unfold pAcc at h2;injection h2 with h2
  injection h2 with e1 e2
  subst e1;subst e2;have a4:Yi bs l e=pAft nm (pTs 10 (isW [119,104,101,110] x.1) [] (if isW [119,104,101,110] x.1 then x.1.tail else x.1) x.2.1):=by simp[Yi,h1,<-hv]
  rw[a4];clear hv hk hr hq;have b1:=Zv1 (s:= [119,104,101,110]) (l:=x.1);generalize hO:pAft nm (pTs 10 (isW [119,104,101,110] x.1) [] (if isW [119,104,101,110] x.1 then x.1.tail else x.1) x.2.1)=OUT at a4⊢;refine⟨λp=>pAft nm (pTs p.2.k p.2.more p.2.ts p.2.l p.2.ed)=OUT/\p.2.ts.length+p.2.k=10/\p.2.ts.length<=8/\p.2.l.length<1000000000/\(p.1=ab->p.2.ts= []),.inl ⟨⟨[],if isW [119,104,101,110] x.1 then x.1.tail else x.1,x.2.1,isW [119,104,101,110] x.1,10⟩,⟨hO,rfl,aX _,(by dsimp only;omega),λ_=>rfl⟩,by simp⟩,?_,?_⟩
  ·rintro⟨ts,l1,ed,more,k⟩ ⟨hR,hk,h8,a0,a5⟩
   have a5:ts= []:=a5 rfl;subst a5;have hk:k=10:=by simpa using hk
   subst hk;have hR:pAft nm (pTs 10 more [] l1 ed)=OUT:=hR;have a3:l1.length<1000000000:=a0;clear a0;have a0:=a3;clear a3;rw[<-hR];clear hR a4 hO;refine⟨λJ=>⟨jU,λt R h3=>⟨jU,λm2 x3 U=> ?_,λer U=>by cases U⟩,λer h3=> ?_⟩,λJ=> ?_⟩
   ·have a1:more=true:=J
    have a2:V9 0 l1 ed= .ok (t,R):=h3;clear J h3;subst a1;unfold pAcc at U;injection U with U
    injection U with e1 e2
    subst e1;subst e2;have hq:=Zip a2;have a7:=Zv1 (s:= [97,110,100]) (l:=R.1);refine .inr ⟨⟨[t],if isW [97,110,100] R.1 then R.1.tail else R.1,R.2.1,isW [97,110,100] R.1,9⟩,⟨by simp[pTs,a2],rfl,(by show 1<=8;omega),(by dsimp only;omega),λh=>by cases h⟩,av _,by simp⟩
   ·have a1:more=true:=J
    have a2:V9 0 l1 ed= .error er:=h3;clear J h3;subst a1;simp[pTs,pAft,a2]
   ·have a1:more=false:=J
    clear J;subst a1;revert a0;dsimp only;intro a0;refine⟨λw y hy=>⟨jU,λex x4 h5=> ?_,λer h5=>by simp[pTs,pAft,pPay,w,h5]⟩,λw=>by simp[pTs,pAft,pPay,w]⟩;subst hy;have hs:=Zo6 _ _ _ _ h5;have hw:=Zv w;rw[Ex.eta];refine⟨by omega,λI=> ?_,λI=>⟨λw2=> ?_,λw2=> ?_⟩⟩
    ·have I:(24:Int)<Z7 ex:=by simpa using I
     have I:24<Z7 ex:=by omega
     simp[pTs,pAft,pPay,w,h5,I]
    ·have I:(Z7 ex:Int)<=24:=by simpa using I
     have I:¬24<Z7 ex:=by omega
     simp[pTs,pAft,pPay,w,h5,I,w2]
    ·have I:(Z7 ex:Int)<=24:=by simpa using I
     have I:¬24<Z7 ex:=by omega
     simp[pTs,pAft,pPay,w,h5,I,w2]
  ·rintro⟨ts,l1,ed,more,k⟩ ⟨hR,hk,h8,a0,_⟩
   have hk:ts.length+k=10:=hk;have h8:ts.length<=8:=h8;have hR:pAft nm (pTs k more ts l1 ed)=OUT:=hR;have a3:l1.length<1000000000:=a0;clear a0;have a0:=a3;clear a3;rw[<-hR];clear hR a4 hO;obtain⟨k,rfl⟩:∃k',k=k'+1:=⟨k-1,by omega⟩;refine⟨λJ=>⟨jU,λt R h3=>⟨⟨av _,aX _,(by dsimp only;omega)⟩,jU,λm2 x3 U=> ?_,λer U=>by cases U⟩,λer h3=> ?_⟩,λJ=> ?_⟩
   ·have a1:more=true:=J
    have a2:V9 ts.length l1 ed= .ok (t,R):=h3;clear J h3;subst a1;unfold pAcc at U;injection U with U
    injection U with e1 e2
    subst e1;subst e2;have hq:=Zip a2;have a7:=Zv1 (s:= [97,110,100]) (l:=R.1);refine .inr ⟨⟨ts++ [t],if isW [97,110,100] R.1 then R.1.tail else R.1,R.2.1,isW [97,110,100] R.1,k⟩,⟨by simp[pTs,a2],(by simp;omega),(by simp;omega),(by dsimp only;omega),λh=>by cases h⟩,av _,by simp⟩
   ·have a1:more=true:=J
    have a2:V9 ts.length l1 ed= .error er:=h3;clear J h3;subst a1;simp[pTs,pAft,a2]
   ·have a1:more=false:=J
    clear J;subst a1;revert a0;dsimp only;intro a0;refine⟨λw y hy=>⟨jU,λex x4 h5=> ?_,λer h5=>by simp[pTs,pAft,pPay,w,h5]⟩,λw=>by simp[pTs,pAft,pPay,w]⟩;subst hy;have hs:=Zo6 _ _ _ _ h5;have hw:=Zv w;rw[Ex.eta];refine⟨by omega,λI=> ?_,λI=>⟨λw2=> ?_,λw2=> ?_⟩⟩
    ·have I:(24:Int)<Z7 ex:=by simpa using I
     have I:24<Z7 ex:=by omega
     simp[pTs,pAft,pPay,w,h5,I]
    ·have I:(Z7 ex:Int)<=24:=by simpa using I
     have I:¬24<Z7 ex:=by omega
     exact⟨by omega,by simp[pTs,pAft,pPay,w,h5,I,w2]⟩
    ·have I:(Z7 ex:Int)<=24:=by simpa using I
     have I:¬24<Z7 ex:=by omega
     simp[pTs,pAft,pPay,w,h5,I,w2]
end
end Go.Proofs.YtbkgpcknakidkaaGreatDoor
