/- Merged texts: TvX, EngZH, EngZI, TtA, TtS, TtD, TtE, TvLay, TtG, TtF, TtH, TtI, EdB, EdC, EngZJ, TpA, TpB, TpC, TpD, EngZK, TpE, TpF, TpG. -/
import Derived.Shelf.Strings.SlTrimAscii
import Derived.Shelf.Strings.OnBuilder
import Derived.Shelf.Strconv.Itoa0
import Derived.Shelf.Strconv.Itoa1
import Derived.Test.YtbkgpcknakidkaaGreatDoorProg
import Derived.Test.YtbkgpcknakidkaaGreatDoorMc
open And renaming intro->aC
open Bool renaming and_eq_false_iff->bp,and_eq_true->aq,and_true->cI,eq_false_iff->iw,eq_iff_iff->kx,false->ab,false_and->eP,false_eq_true->aN,false_or->dG,not_eq_false'->bY,not_eq_true->bg,not_eq_true'->bj,or_eq_false_iff->bI,or_eq_true->bm,or_false->ew,or_true->eQ,true->ac,true_and->cz,true_eq_false->aP,true_or->ec
open ByteArray renaming mk->dZ
open Decidable renaming not_not->bB
open Except renaming error->aB,ok->aX
open Go.Fn renaming func->cF
open Go.IntKind renaming i64->ag
open Go.Proofs.Lays renaming n129->kR,n156->kQ,n160->kP,n283->kT,n317->kS
open Go.Proofs.YtbkgpcknakidkaaGreatDoor.Cls renaming mk->eF,name->aK,pay->ay,when_->aT
open Go.Proofs.YtbkgpcknakidkaaGreatDoor.Ex renaming d0->bD,d1->bE,d2->bF,d3->bG,l->bw,mk->bV,n->bX,op->aM
open Go.Proofs.YtbkgpcknakidkaaGreatDoor.Tar renaming clauses->ar,for_->aZ,name->ba
open Go.Proofs.YtbkgpcknakidkaaGreatDoor.Th renaming bools->bM,clauses->bA,exprs->iv,ints->gh,strs->du,toks->dm
open Go.Proofs.YtbkgpcknakidkaaGreatDoor.Tok renaming at_->dp,kind->cC,text->cP
open Go.Proofs.YtbkgpcknakidkaaGreatDoor.Tst renaming attr->eo,high->fB,low->fA,mk->lm
open Go.Shelf renaming Ren->gn
open Go.TypeDesc renaming bool->bT
open Go.Value renaming int->iu,slice->aG,string->kH
open Int renaming le_refl->cj,ofNat->iF,ofNat_eq_natCast->bZ,toNat->af,toNat_natCast->bk
open List renaming all_cons->jb,all_eq_true->fL,drop->cx,dropWhile_cons->jy,drop_eq_getElem_cons->cy,drop_eq_nil_of_le->bL,drop_of_length_le->gH,ext_getElem?->jT,getD->ah,getElem?_eq_getElem->ao,getElem?_eq_none->eG,getElem?_eq_some_iff->ai,getElem?_map->bv,getElem?_set->jS,length->aa,length_cons->aE,mem_append_left->eX,mem_append_right->dE,mem_cons->aH,mem_cons_of_mem->aI,mem_cons_self->bH,mem_of_getElem?->aL,mem_reverse->kb,mem_singleton->ct,range->dk,replicate->aR,set->dx,tail->bC,take->aw
open Nat renaming beq->aO,beq_refl->fP,ble->bP,ble_eq->bu,ble_eq_true_of_le->js,eq_of_beq_eq_true->ax,le_add_right->kA,le_refl->av,le_trans->bS,lt_of_lt_of_le->ck,lt_or_ge->fH,lt_succ_self->dC,zero_add->bq,zero_le->aW
open Option renaming bind_eq_some_iff->aj,getD->cB,map_eq_some_iff->br,ne_none_iff_exists'->aY,none->au,some->ae
open Option.some renaming inj->bd,injEq->cr
open Prod renaming fst->ak,snd->aD
open UInt8 renaming ofNat->gq,ofNat_toNat->jL,toNat->db
namespace Go.Proofs.YtbkgpcknakidkaaGreatDoor
set_option linter.unusedVariables false
set_option linter.unusedSimpArgs false
set_option linter.unnecessarySimpa false
set_option maxRecDepth 100000
section
open Go
noncomputable def dA1{α:Type} (d:Dc E α):DcL E (α×Unit):= .cons d .nil
noncomputable def dA2{α I:Type} (d:Dc E α) (e:Dc E I):DcL E (α×I×Unit):= .cons d (dA1 e)
noncomputable def dN:Dc E Int:=dInt .i64
noncomputable def dB:Dc E Bool:=Yoi
noncomputable def dS:Dc E (List Nat):=dStr
noncomputable def dFun(f:Nat):Dc E Unit where
 dec v:=match v with| .fn (.func g) [] []=>(match aO g f with|true=>ae ()|false=>au)|_=>au
 enc _:= .fn (.func f) [] []
 ok v a h:=by
  split at h
  ·split at h
   ·rename_i e
    obtain rfl:=ax e
    exact⟨rfl,rfl,λ_ _ _ h=>h⟩
   ·cases h
  ·cases h
theorem tn0:(0:Int).toNat=0:=rfl
theorem tn1:(1:Int).toNat=1:=rfl
theorem tn2:(2:Int).toNat=2:=rfl
theorem tn3:(3:Int).toNat=3:=rfl
theorem cn4:((4:Nat):Int)=4:=rfl
theorem cn16:((16:Nat):Int)=16:=rfl
def eqL:List Nat->List Nat->Bool
 | [],[]=>ac
 |x::r,y::l=>aO x y&&eqL r l
 |_,_=>ab
theorem Z3a:∀{a b:List Nat},eqL a b=ac->a=b
 | [],[],_=>rfl
 |x::r,y::l,h=>by
  simp only[eqL,aq] at h
  rw[ax h.1,Z3a h.2]
 | [],_::_,h=>by cases h
 |_::_,[],h=>by cases h
def dKs(c:List Nat):Dc E Unit where
 dec v:=match v with| .str ac s=>(match eqL s c with|true=>ae ()|false=>au)|_=>au
 enc _:= .str ac c
 ok v a h:=by
  split at h
  ·split at h
   ·rename_i e
    rw[Z3a e]
    exact⟨rfl,rfl,λ_ _ _ h=>h⟩
   ·cases h
  ·cases h
theorem Zsq{σ:Pl} {g:GH} {l:Bool} {s:List Nat} {u:Value} (h:Den E σ g (.str l s) u):Byt s:=by
 cases h;rename_i b I;subst I;exact Zuk b
theorem Z9v{f:FuncId} {args:List (SV thy)} {v:SV thy} {j:Nat} {l:Bool} {s:List Nat} (I:args[j]? =ae (.str l s)) (h:Byt s->PureC E f args v):PureC E f args v:=by
 intro g w J R hd;have U:j<J.toList.length:=by rw[<-hd.1];exact(ai.1 I).1
 exact h (Zsq (hd.2 j _ _ I (ao U))) g w J R hd
theorem Zih{P:Prop} {f:FuncId} {args:List (SV thy)} {v:SV thy} {j:Nat} {a:SV thy} (I:args[j]? =ae a) (U:∀g u,Den E σ0 g a u->P) (h:P->PureC E f args v):PureC E f args v:=by
 intro g w J R hd;have a0:j<J.toList.length:=by rw[<-hd.1];exact(ai.1 I).1
 exact h (U g _ (hd.2 j _ _ I (ao a0))) g w J R hd
theorem Z9w{g:GH} {th:Th} {l:List (domT th)} {f:Bool} {u:Value} (h:Den E σ0 g (.psl th l f) u):∀x∈l,∀(j:Nat) I,(encF ab th x)[j]? =ae I->∃v,Den E σ0 g I v:=by
 cases h;rename_i hd _;intro x R j I J;obtain⟨i,hi⟩:=List.getElem?_of_mem R;exact⟨_,hd i x hi j I J⟩
theorem Zla{v1:SV thy} {s:List Nat} {f:SV thy->Prop} {z:Prop}:∀{J:List (List Nat)},(∀k∈J,Byt k)->(s∈J->f v1)->(s∉J->z)->Vl ab (.str ab s) (J.map λk=>(kH (mkS k),v1)) f z
 | [],_,_,R=>R (by simp)
 |k::J,hb,h1,R=>by
  rw[List.map_cons]
  unfold Vl
  have U:toL (mkS k)=k:=hb k (bH ..)
  simp only[U]
  refine⟨λe=> ?_,λe=> ?_⟩
  ·exact h1 (by rw[eq_of_beq e];exact bH ..)
  ·have e:=ne_of_beq_false e
   exact Zla (λk U=>hb k (aI _ U)) (λh=>h1 (aI _ h)) (λh=>R λI=>by
    rcases aH.1 I with I|I
    ·exact e I
    ·exact h I)
theorem Ygc{g:GH} {a:SV thy} {J:Array Value} (h:DenL E σ0 g [a] J.toList):∃u,J= #[u]/\Den E σ0 g a u:=by
 obtain⟨l⟩:=J;obtain⟨R,I⟩:=h
 match l,R,I with
 | [u],_,I=>exact⟨u,rfl,I 0 a u rfl rfl⟩
theorem Ylc{g:GH} {a b:SV thy} {J:Array Value} (h:DenL E σ0 g [a,b] J.toList):∃u v,J= #[u,v]/\Den E σ0 g a u/\Den E σ0 g b v:=by
 obtain⟨l⟩:=J;obtain⟨R,I⟩:=h
 match l,R,I with
 | [u,v],_,I=>exact⟨u,v,rfl,I 0 a u rfl rfl,I 1 b v rfl rfl⟩
theorem Z9x{g:GH} {l:List UInt8}:Den E σ0 g (.str ab (l.map db)) (.string ⟨l.toArray⟩):= .str _ (by simp[toL])
end
section
open Go.RowKit
section
variable {Y:Thy} {E:Eng Y}
inductive Frz(E:Eng Y) (h:Hp Y):SV Y->SV Y->Prop
 |same {v:SV Y} (hn:nid 0 v=ac):Frz E h v v
 |ptr {b:Nat} {cs:List (SV Y)} {fz:Nat} {tg:Option Y.Th} {th:Y.Th} {x:Y.dom th} (hb:h b=ae (.raw cs fz tg)) (hd:E.dec th cs=ae x):Frz E h (.ptr b 0) (.pptr th x 0)
 |fn {f:Fn} {a a' b b':List (SV Y)} (ha:a.length=a'.length) (hb:b.length=b'.length) (h1:∀(j:Nat) x x',a[j]? =ae x->a'[j]? =ae x'->Frz E h x x') (h2:∀(j:Nat) x x',b[j]? =ae x->b'[j]? =ae x'->Frz E h x x'):Frz E h (.fn f a b) (.fn f a' b')
 |agg {a a':List (SV Y)} (ha:a.length=a'.length) (h1:∀(j:Nat) x x',a[j]? =ae x->a'[j]? =ae x'->Frz E h x x'):Frz E h (.agg a) (.agg a')
theorem Zsw{α:Type} {l I:List α} (h:l.length=I.length) {j:Nat} {x':α} (J:I[j]? =ae x'):∃x,l[j]? =ae x:=by
 have:j<I.length:=(ai.1 J).1;exact⟨l[j]'(by omega),ao _⟩
theorem Ygj(R:EngOk E) {B n:Nat} {σ:Pl} {h:Hp Y} {g:GH} {w:World} (hI:Inv E B σ h g w) (hn:n<=B) {v v':SV Y} (hr:Frz E h v v'):∀{u:Value},Den E σ g v u->Den E σ0 (allG g n w) v' u:=by
 have a0:=Zdy (n:=n) hI
 induction hr with
 |same hn=>exactλhd=>(Zy R (i:=0) (σ':=σ0) hd (λb p U=>by omega) hn).mono (.refl _) a0
 | @ptr b cs fz tg th x U b1=>
  intro u hd;cases hd;rename_i r z a2;obtain⟨r2,z2,a3,a4⟩:=hI.blk b _ U;rw[a2] at a3;cases a3;obtain⟨c,a5,a6⟩:=Wq (by intro es e;cases e) a4;obtain⟨hl,b2⟩:=R.dec th cs x b1;refine .pptr (o:=0) c (λj I=> ?_) λj b5 I=> ?_
  ·rw[R.enc] at I
   show(if n<=r then _ else _)=_;rw[jM (bS hn (hI.base b r z a2).1)];exact(by simpa using a5 j (by show j<cs.length;omega))
  ·have b6:j<E.w th:=by rw[<-R.enc th x];exact(ai.1 I).1
   obtain⟨sv,a1⟩:∃sv,cs[j]? =ae sv:=⟨cs[j]'(by omega),ao _⟩;have h3:=b2 σ g j sv b5 (c j) a1 I (a6 j sv a1);exact(Zy R (i:=0) (σ':=σ0) h3 (λb p U=>by omega) (Zs (R.encI _ _ _) I)).mono (.refl _) a0
 |fn ha U h1 h2 b3 b4=>
  intro u hd;cases hd;rename_i va vb ca cb b7 a7 a9 b8 a8 b0;refine .fn ca cb (by omega) (λj I=>a7 j (by omega)) (λj sv I=> ?_) (by omega) (λj I=>a8 j (by omega)) λj sv I=> ?_
  ·obtain⟨x,J⟩:=Zsw ha I
   exact b3 j x sv J I (a9 j x J)
  ·obtain⟨x,J⟩:=Zsw U I
   exact b4 j x sv J I (b0 j x J)
 |agg ha h1 ih=>
  intro u hd;cases hd;rename_i arr c hs hc hd;refine .agg c (by omega) (λj I=>hc j (by omega)) λj sv I=> ?_;obtain⟨x,J⟩:=Zsw ha I;exact ih j x sv J I (hd j x J)
theorem Zdh(hE:EngOk E) {call:Nat->List (SV Y)->Hp Y->Nat->(Res Y->Prop)->Prop} (a3:Vb E call) {f:Nat} {args:List (SV Y)} {v:SV Y} {K:Res Y->Prop} (hK:∀r,K r->Frz E (patch hp0 0 r) r.v v) (hk:call f args hp0 0 K):PureC E f args v:=by
 obtain⟨r,hr,hR,a0⟩:=a3 f args hp0 0 _ (λb U=>ka rfl U) hk;have a0:Vi E f args hp0 0 r:=by
  rcases a0 with a0|⟨p,hp,_⟩
  ·exact a0
  ·have a2:=hK r hr
   rw[hp] at a2;cases a2;rename_i hn;cases hn
 intro g w a5 hI hd;refine(a0 w.heap.size σ0 g w a5 hp0 (λ_ _=>rfl) hI (av _) (λ_ _ _=>rfl) hd).mono ?_;rintro en w' ⟨u,he,σ',g',R,a1,I⟩;have hm:∀b,b∉r.mods:=λb U=>hR b U rfl;have a4:=Zdy (n:=w.heap.size) a1;refine⟨u,he,allG g' w.heap.size w',⟨.refl _,λb p h=> .inl h,R.gle.trans a4,λq o v I=> ?_,λq es I=> ?_,λq hq _=>R.heap q hq (λb U=>ka U (hm b)),R.size,R.os,R.tape,R.output,(λb q z J h2=>by cases h2)⟩,Zho a1,Ygj hE a1 (av _) (hK r hr) I⟩
 ·have I:(if w.heap.size<=q then w'.cell? ⟨q,o,au⟩ else g'.cell q o)=ae v:=I
  split at I
  ·exact .inr (.inl ‹_›)
  ·rcases R.gcnew q o v I with J|J|⟨b,J,_⟩
   ·exact .inl J
   ·exact .inr (.inl J)
   ·exact ka J (hm b)
 ·have I:(if w.heap.size<=q then(match w'.heap[q]? with|some (.map es _)=>ae es|_=>au) else g'.obj q)=ae es:=I
  split at I
  ·exact .inr ‹_›
  ·rcases R.gmnew q es I with J|J
   ·exact .inl J
   ·exact .inr J
noncomputable def sumO(pre:List (SV Y)->Option (SV Y)):Sum Y:=λargs _ _ k=>match pre args with|some v=>(match nidL 0 args with|true=>k (quiet [] v)|false=>False)|none=>False
theorem Zsx(J:EngOk E) {f:Nat} (R:FnGood E.P f) {pre:List (SV Y)->Option (SV Y)} (hp:∀args v,pre args=ae v->PureC E f args v):SumOk E f (sumO pre):=by
 refine⟨R,λargs h i k hD I=> ?_⟩;unfold sumO at I;split at I
 ·rename_i v a0
  split at I
  ·rename_i U
   exact⟨_,I,(hp args v a0).tri2 J U h i⟩
  ·exact I.elim
 ·exact I.elim
end
end
section
open Go.RowKit
section
variable {Y:Thy} {E:Eng Y}
end
end
section
open Go
def powV(n:Int):SV thy:= .agg [.fn (.func 122) [] [.pptr .ints n 0]]
theorem Z4u(K:SV thy->Option (Blk thy)->Prop):Zk EL F0 (vc EL F0 2000) 77 [.int ac .i64 1] hp0 0 (λr=>K r.v (patch hp0 0 r 0))=K (.agg [.fn (.func 122) [] [.ptr 0 0]]) (ae (.raw [.int ac .i64 1] 0 au)):=by kernel_rfl
theorem Z4v(K:SV thy->Option (Blk thy)->Prop):Zk EL F0 (vc EL F0 2000) 77 [.int ac .i64 (-1)] hp0 0 (λr=>K r.v (patch hp0 0 r 0))=K (.agg [.fn (.func 122) [] [.ptr 0 0]]) (ae (.raw [.int ac .i64 (-1)] 0 au)):=by kernel_rfl
theorem Z4w{h:Hp thy} {n:Int} (R:h 0=ae (.raw [.int ac .i64 n] 0 au)):Frz EL h (.agg [.fn (.func 122) [] [.ptr 0 0]]) (powV n):=by
 refine .agg rfl λj x x' I J=> ?_;cases j with
 |succ j=>simp at I
 |zero=>
  cases I;cases J;refine .fn rfl rfl (λj x x' I J=>by simp at I) λj x x' I J=> ?_;cases j with
  |succ j=>simp at I
  |zero=>
   cases I;cases J;exact .ptr R rfl
theorem Zqb{n:Int} (J:n=1\/n= -1):PureC EL 77 [.int ac .i64 n] (powV n):=by
 rcases J with rfl|rfl
 ·exact Zdh Zm8 (Yhf 2000) (K:=λr=>r.v= .agg [.fn (.func 122) [] [.ptr 0 0]]/\patch hp0 0 r 0=ae (.raw [.int ac .i64 1] 0 au)) (λr I=>by rw[I.1];exact Z4w I.2) (by rw[Z4u λv b=>v=_/\b=_];exact⟨rfl,rfl⟩)
 ·exact Zdh Zm8 (Yhf 2000) (K:=λr=>r.v= .agg [.fn (.func 122) [] [.ptr 0 0]]/\patch hp0 0 r 0=ae (.raw [.int ac .i64 (-1)] 0 au)) (λr I=>by rw[I.1];exact Z4w I.2) (by rw[Z4v λv b=>v=_/\b=_];exact⟨rfl,rfl⟩)
def Yd4:List (SV thy)->Option (SV thy)
 | [.int ac .i64 (.ofNat 1)]=>ae (powV 1)
 | [.int ac .i64 (.negSucc 0)]=>ae (powV (-1))
 |_=>au
noncomputable def F1:Fns thy:=addS F0 77 (sumO Yd4)
theorem Yd5:FnsOk EL F1:=Zb Z36 (Zsx Zm8 (Zc rfl) λargs v h=>by
 unfold Yd4 at h;split at h
 ·cases h;exact Zqb (.inl rfl)
 ·cases h;exact Zqb (.inr rfl)
 ·cases h)
theorem Yl3(n:Nat):Vb EL (Zk EL F1 (vc EL F1 n)):=Xs Zm8 Yd5 λf N c=>(Zgx Zm8 Yd5 n f N c).1
def Xv:List (Value×SV thy):= [(.int .i64 3,.agg [.fn (.func 75) [] []]),(.int .i64 4,.agg [.fn (.func 75) [] []]),(.int .i64 6,.agg [.fn (.func 75) [] []]),(.int .i64 7,.agg [.fn (.func 75) [] []]),
 (.int .i64 5,powV 1),(.int .i64 8,powV (-1)),(.int .i64 9,powV (-1)),(.int .i64 10,powV (-1)),(.int .i64 11,.agg [.fn (.func 76) [] []])]
def Wg:SV thy:= .pmap Xv
theorem Zzt(K:SV thy->Prop):Zk EL F1 (vc EL F1 2000) 39 [] hp0 0 (λr=>K r.v)=K Wg:=by kernel_rfl
theorem Ztr:PureC EL 39 [] Wg:=
 Zdh Zm8 (Yl3 2000) (K:=λr=>r.v=Wg) (λr I=>by rw[I];exact .same rfl) (by rw[Zzt λv=>v=Wg])
theorem Zzu:PureC E 39 [] Wg:=PureC.like Ylu Ylt (λ_ _ h=>h) Ztr
def Znf:List (SV thy)->Option (SV thy)
 | []=>ae Wg
 |_=>au
end
section
open Go
theorem Ex.eta(x:Ex):bV x.op x.n x.d0 x.d1 x.d2 x.d3 x.l=x:=by cases x;rfl
theorem Tst.eta(x:Tst):lm x.attr x.low x.high=x:=rfl
theorem Cls.eta(x:Cls):eF x.name x.when_ x.pay=x:=rfl
def Ex.u(x:Ex):List Int:= [x.d0,x.d1,x.d2,x.d3]
mutual
def Ex.sz:Ex->Nat
 | .mk _ _ _ _ _ _ l=>Ex.szL l+1
def Ex.szL:List Ex->Nat
 | []=>0
 |x::r=>x.sz+Ex.szL r
end
theorem Ex.sz_eq(x:Ex):x.sz=Ex.szL x.l+1:=by cases x;simp only[Ex.sz,bw]
theorem Ex.sz_pos(x:Ex):0<x.sz:=by rw[Ex.sz_eq];omega
theorem Ex.szL_mem:∀{l:List Ex} {x:Ex},x∈l->x.sz<=Ex.szL l
 |y::r,x,h=>by
  rw[Ex.szL]
  rcases aH.1 h with rfl|h
  ·omega
  ·have:=Ex.szL_mem h;omega
theorem Ex.sz_mem{x y:Ex} (h:y∈x.l):y.sz<x.sz:=by
 have:=Ex.szL_mem h;rw[Ex.sz_eq x];omega
theorem Ex.szL_len:∀(l:List Ex),l.length<=Ex.szL l
 | []=>av _
 |x::r=>by
  have:=Ex.szL_len r
  have:=x.sz_pos
  rw[Ex.szL,aE];omega
mutual
def Z9:Ex->Nat
 | .mk _ _ _ _ _ _ l=>Zg0 l+1
def Zg0:List Ex->Nat
 | []=>0
 |x::r=>max (Z9 x) (Zg0 r)
end
theorem Yc0(x:Ex):Z9 x=Zg0 x.l+1:=by cases x;simp only[Z9,bw]
mutual
theorem Zxl:∀(x:Ex),Z9 x<=x.sz
 | .mk _ _ _ _ _ _ l=>by have:=Zxm l;simp only[Z9,Ex.sz];omega
theorem Zxm:∀(l:List Ex),Zg0 l<=Ex.szL l
 | []=>av _
 |x::r=>by have:=Zxl x;have:=Zxm r;simp only[Zg0,Ex.szL];omega
end
def cnt(u:List Int) (n:Int):Nat:=(u.filter λd=>d==n).length
def Zc0(u:List Int):Bool:=decide (cnt u 0+cnt u 1+cnt u (-1)=4)&&decide (cnt u 1<=1)&&decide (cnt u (-1)<=1)
def Zkz(op:Int):Nat:=if op=1\/op=2 then 0 else if op=11 then 4 else 2
def Z0r(op:Int):Int:=if op=1 then 1099511627776 else if op=2 then 15 else 0
def Ze9(op n:Int) (u:List Int) (k:Nat):Bool:=
 decide (1<=op)&&decide (op<=11)&&decide (0<=n)&&decide (n<=Z0r op)&&decide (k=Zkz op)&&Zc0 u&&(decide (op=1)||decide (u= [0,0,0,0]))
mutual
def Zn:Ex->Bool
 | .mk op n d0 d1 d2 d3 l=>Ze9 op n [d0,d1,d2,d3] l.length&&Ux l
def Ux:List Ex->Bool
 | []=>ac
 |x::r=>Zn x&&Ux r
end
theorem Zcn(x:Ex):Zn x=(Ze9 x.op x.n x.u x.l.length&&Ux x.l):=by cases x;simp only[Zn,aM,bX,Ex.u,bD,bE,bF,bG,bw]
theorem formL_iff:∀{l:List Ex},Ux l=ac↔∀x∈l,Zn x=ac
 | []=>by simp[Ux]
 |x::r=>by simp[Ux,formL_iff (l:=r)]
theorem Z0s{l:List Ex} {k:Nat} {y:Ex} (h:l[k]? =ae y):Ux (l.drop k)=(Zn y&&Ux (l.drop (k+1))):=by
 have I:=(ai.1 h).1;have:l.drop k=y::l.drop (k+1):=by rw[cy I];congr 1;exact(ai.1 h).2
 rw[this,Ux]
def Zum(n:Int):List Int:=if n=5 then[0,0,0,1] else if n=6 then[0,0,1,0] else if n=7\/n=8 then[0,1,0,0] else if n=10\/n=11 then[1,0,0,0] else[0,0,0,0]
def cmb1(s a b:Int):Int:=ag.wrap (a+ag.wrap (s*b))
def in3(a:Int):Bool:= !(decide (a< -3)||decide (a>3))
def cmb(s:Int) (a b:List Int):Option (List Int):=
 if in3 (cmb1 s (a.getD 0 0) (b.getD 0 0))&&in3 (cmb1 s (a.getD 1 0) (b.getD 1 0))&&in3 (cmb1 s (a.getD 2 0) (b.getD 2 0))&&in3 (cmb1 s (a.getD 3 0) (b.getD 3 0)) then
  ae [cmb1 s (a.getD 0 0) (b.getD 0 0),cmb1 s (a.getD 1 0) (b.getD 1 0),cmb1 s (a.getD 2 0) (b.getD 2 0),cmb1 s (a.getD 3 0) (b.getD 3 0)] else au
def Ue(op:Int) (I:List (List Int)):Option (List Int):=
 if op=5 then cmb 1 (I.getD 0 []) (I.getD 1 [])
 else if op=8\/op=9\/op=10 then cmb (-1) (I.getD 0 []) (I.getD 1 [])
 else if op=11 then(if I.getD 0 []=I.getD 1 []/\I.getD 2 []=I.getD 3 [] then ae (I.getD 2 []) else au)
 else if I.getD 0 []=I.getD 1 [] then ae (I.getD 0 []) else au
mutual
def Zaz:Ex->Option (List Int)
 | .mk op n d0 d1 d2 d3 l=>if op=1 then ae [d0,d1,d2,d3] else if op=2 then ae (Zum n) else(Vj l).bind (Ue op)
def Vj:List Ex->Option (List (List Int))
 | []=>ae []
 |x::r=>(Zaz x).bind λd=>(Vj r).bind λI=>ae (d::I)
end
theorem Yc1(x:Ex):Zaz x=if x.op=1 then ae x.u else if x.op=2 then ae (Zum x.n) else(Vj x.l).bind (Ue x.op):=by
 cases x;rw[Zaz];rfl
def Is4(d:List Int):Prop:=∃a b c e,d= [a,b,c,e]
theorem Yjy(n:Int):Is4 (Zum n):=by
 unfold Zum;split
 ·exact⟨_,_,_,_,rfl⟩
 split
 ·exact⟨_,_,_,_,rfl⟩
 split
 ·exact⟨_,_,_,_,rfl⟩
 split<;>exact⟨_,_,_,_,rfl⟩
theorem Yny{s:Int} {a b d:List Int} (h:cmb s a b=ae d):Is4 d:=by
 unfold cmb at h;split at h
 ·cases h;exact⟨_,_,_,_,rfl⟩
 ·cases h
theorem unitL_cons{x:Ex} {r:List Ex} {R:List (List Int)}:Vj (x::r)=ae R↔∃d ds',Zaz x=ae d/\Vj r=ae ds'/\R=d::ds':=by
 rw[Vj];simp only[aj,cr];constructor
 ·rintro⟨d,I,ds',J,rfl⟩;exact⟨d,ds',I,J,rfl⟩
 ·rintro⟨d,ds',I,J,rfl⟩;exact⟨d,I,ds',J,rfl⟩
theorem Zj4:∀{l:List Ex} {I:List (List Int)},Vj l=ae I->I.length=l.length
 | [],I,h=>by simp only[Vj] at h;cases h;rfl
 |x::r,I,h=>by
  obtain⟨d,R,_,J,rfl⟩:=unitL_cons.1 h
  simp[Zj4 J]
theorem Yjz{op:Int} {J:List (List Int)} {d:List Int} (h:Ue op J=ae d) (R:∀i,i<(if op=11 then 4 else 2)->Is4 (J.getD i [])):Is4 d:=by
 unfold Ue at h;split at h
 ·exact Yny h
 ·split at h
  ·exact Yny h
  ·split at h
   ·rename_i I
    split at h
    ·cases h
     exact R 2 (by rw[jM I];omega)
    ·cases h
   ·rename_i I
    split at h
    ·cases h
     exact R 0 (by rw[jJ I];omega)
    ·cases h
mutual
theorem Zun:∀(x:Ex) {d:List Int},Zn x=ac->Zaz x=ae d->Is4 d
 | .mk op n d0 d1 d2 d3 l,d,J,h=>by
  rw[Zaz] at h
  split at h
  ·cases h;exact⟨_,_,_,_,rfl⟩
  ·split at h
   ·cases h;exact Yjy n
   ·rename_i h1 h2
    obtain⟨U,R,h⟩:=aj.1 h
    refine Yjz h λi hi=> ?_
    simp only[Zn,aq] at J
    have hl:=Z7u l J.2 R
    have a0:=Zj4 R
    have I:l.length=Zkz op:=by
     have:=J.1
     simp only[Ze9,aq,fO] at this
     exact this.1.1.2
    unfold Zkz at I
    rw[jJ (by omega)] at I
    have:i<U.length:=by rw[a0,I];exact hi
    rw[List.getD_eq_getElem?_getD,ao this]
    exact hl _ (List.getElem_mem this)
theorem Z7u:∀(l:List Ex) {I:List (List Int)},Ux l=ac->Vj l=ae I->∀d∈I,Is4 d
 | [],I,_,h=>by simp only[Vj] at h;cases h;simp
 |x::r,I,R,h=>by
  simp only[Ux,aq] at R
  obtain⟨d,a0,U,h2,rfl⟩:=unitL_cons.1 h
  intro e J
  rcases aH.1 J with rfl|J
  ·exact Zun x R.1 U
  ·exact Z7u r R.2 h2 e J
end
end
section
open Go
def exA(x:Ex):SV thy:= .agg (encF ab .exprs x)
noncomputable def dExp:DcL E (Ex×Unit):= .cons (dR .exprs) .nil
noncomputable def You:DcL E (Ex×Int×Unit):= .cons (dR .exprs) (.cons (dInt (E:=E) .i64) .nil)
theorem Z4{α:Type} {l:List α} {k:Nat} {y:α} (h:l[k]? =ae y):l.drop k=y::l.drop (k+1):=by
 have I:=(ai.1 h).1;rw[cy I];congr 1;exact(ai.1 h).2
theorem Zae{α:Type} {l:List α} {k:Nat} (h:l.length<=k):l.drop k= []:=bL h
noncomputable def Yov(m:Nat):Sum thy:=sumP dExp (λx=>x.1.sz<m) λx=> .int ab .i64 (Z9 x.1:Int)
def Yow:Fr thy->Hp thy->Nat->Ann thy:=λT h i=>{X:=DX,fr:=λx=> [(3,.int ab .i64 x.j),(7,T 7),(8,T 8),(9,.int ab .i64 x.k)],bl:=λx=> [],src:=λ_=> [],md:= [],ih:=i,M:=i+30,meas:=λx=>x.r}
noncomputable def Yl4(m:Nat):Fns thy:=addL (addS F0 64 (Yov m)) 64 3 Yow E
theorem Z4x(m:Nat) (x:Ex) (v:Int):Zk E F0 (vc E (Yl4 m) 400) 64 [exA x] hp0 0 (λr=>ret E (patch hp0 0 r) r.v (.int ab .i64 v))=(
∃(R:DX->Prop),(∃(J:DX),R J/\ac=ac/\(0=DX.j J/\(bw x=bw x/\(ab=ac->ab=ac))/\(↑(aa (bw x)):Int)=(↑(aa (bw x)):Int)/\0=(↑(DX.k J):Int)/\True)/\True)/\∀(J:DX),R J->(decide ((↑(DX.k J):Int)<(↑(aa (bw x)):Int))=ac->0<=(↑(DX.k J):Int)/\(↑(DX.k J):Int)+1<=(↑(aa (bw x)):Int)/\∀(I:Ex),(bw x)[af (↑(DX.k J):Int)]? =ae I->Ex.sz (bV (aM I) (bX I) (bD I) (bE I) (bF I) (bG I) (bw I))+1<=m/\∃(x':DX),R x'/\x'.2+1<=J.2/\ac=ac/\(mm2 ac (DX.j J) (↑(Z9 (bV (aM I) (bX I) (bD I) (bE I) (bF I) (bG I) (bw I))):Int)=DX.j x'/\(bw x=bw x/\(ab=ac->ab=ac))/\(↑(aa (bw x)):Int)=(↑(aa (bw x)):Int)/\wr ag ((↑(DX.k J):Int)+1)=(↑(DX.k x'):Int)/\True)/\True)/\(decide ((↑(DX.k J):Int)<(↑(aa (bw x)):Int))=ab->wr ag (DX.j J+1)=v)):=by kernel_rfl
theorem Zzv{l:List Ex} {k:Nat} {y:Ex} (h:l[k]? =ae y):Zg0 (l.drop k)=max (Z9 y) (Zg0 (l.drop (k+1))):=by rw[Z4 h,Zg0]
theorem Yat:∀(m:Nat) (x:Ex),x.sz<=m->m<=1000000000000->PureC E 64 [exA x] (.int ab .i64 (Z9 x:Int)):=by
 intro m
 induction m with
 |zero=>intro x h;have:=x.sz_pos;omega
 |succ m ih=>
  intro x hm hb;have R:FnsOk E (Yl4 (m+1)):=Zm E_ok (Zb F0_ok (Yo E_ok (Zc (f:=64) rfl) λx h=>ih x.1 (by omega) (by omega))) _ _ _;refine Za E_ok (Xs E_ok F0_ok λf N c=>(Zgx E_ok R 400 f N c).1) ?_;rw[Z4x]
  simp only[Yl,Ya,Wu,Wv,Ww,ij,iz,fV,gp,fO,fG,bm,bI,bj,bY,aq,cI,cz,bp,iR,Y2,Yv,ne_eq,and_true,true_and,aP,aN,false_or,or_false,jW,ku,bZ,iU,jc,bB,Ex.eta];have a4:=x.sz_eq;have a1:=Ex.szL_len x.l;have a3:=Yc0 x;have a2:=Zxl x
  refine⟨λy=>y.k<=x.l.length/\0<=y.j/\max y.j (Zg0 (x.l.drop y.k):Int)=(Zg0 x.l:Int)/\y.r=x.l.length-y.k,⟨⟨0,x.l.length,[],[],0,0,0,0⟩,⟨(by dsimp only;omega),(by dsimp only;omega),by dsimp only;rw[List.drop_zero];omega,rfl⟩,rfl,rfl⟩,?_⟩;rintro y ⟨hk,a0,J,hr⟩;refine aC (λU=> ?_) (λU=> ?_)
  ·refine⟨by omega,by omega,λz I=> ?_⟩
   have I:x.l[y.k]? =ae z:=I;have a5:=Ex.sz_mem (aL I);rw[Zzv I] at J;rw[wr64 (n:=(y.k:Int)+1) (by omega) (by omega)];exact⟨by omega,⟨y.k+1,x.l.length-(y.k+1),[],[],0,0,0,max y.j (Z9 z:Int)⟩,⟨(by dsimp only;omega),(by dsimp only;omega),(by dsimp only;omega),rfl⟩,by show x.l.length-(y.k+1)+1<=y.r;omega,rfl,rfl⟩
  ·rw[Zae (by omega)] at J
   simp only[Zg0] at J;rw[wr64 (by omega) (by omega)];omega
def dimA(a b c d:Int):SV thy:= .agg [.int ab .i64 a,.int ab .i64 b,.int ab .i64 c,.int ab .i64 d]
structure WX where
 k:Nat
 r:Nat
 m:List (Int×Int)
noncomputable def Yox:Fr thy->Hp thy->Nat->Ann thy:=λT h i=>{X:=WX,fr:=λx=> [(3,T 3),(7,T 7),(8,.int ab .i64 x.k)],bl:=λx=> [(bOf (T 3),.map (Wb .i64 (Zl E gh ab) x.m))],src:=λ_=> [],md:= [bOf (T 3)],ih:=i,M:=i+30,meas:=λx=>x.r}
noncomputable def Yhv:Fns thy:=addL F0 111 3 Yox E
noncomputable abbrev qBL1:=(Zl E gh (Zh (TypeDesc.int ag)))
noncomputable abbrev qBL4:=(0:Int)
noncomputable abbrev qBL2(I:Int) (J:Int) (R:Int) (d0:Int):=(ah [I,J,R,d0] (0:Nat) qBL4=ah [I,J,R,d0] (0:Nat) qBL4/\ah [I,J,R,d0] (1:Nat) qBL4=ah [I,J,R,d0] (1:Nat) qBL4/\ah [I,J,R,d0] (2:Nat) qBL4=ah [I,J,R,d0] (2:Nat) qBL4/\ah [I,J,R,d0] (3:Nat) qBL4=ah [I,J,R,d0] (3:Nat) qBL4/\True)
noncomputable abbrev qBL3:=(Zl E gh ab)
noncomputable abbrev qBL5(I:WX):=(↑(WX.k I):Int)
noncomputable abbrev qBL6:=(1:Int)
theorem Z4y(a b c d:Int) (v:Bool):Zk E Yhv (vc E Yhv 400) 111 [dimA a b c d] hp0 0 (λr=>ret E (patch hp0 0 r) r.v (.bool ab v))=(
 4=4/\∃(R:WX->Prop),(∃(x:WX),R x/\ac=ac/\(True/\(qBL2 a b c d)/\qBL4=(qBL5 x)/\True)/\([]=Wb ag qBL3 (WX.m x)/\ac=ac)/\True)/\∀(x:WX),R x->(decide ((qBL5 x)<4)=ac->qBL4<=(qBL5 x)/\(qBL5 x)+qBL6<=(↑4:Int)/\∀(y:Int),[ah [a,b,c,d] 0 qBL4,ah [a,b,c,d] 1 qBL4,ah [a,b,c,d] 2 qBL4,ah [a,b,c,d] 3 qBL4][af (qBL5 x)]? =ae y->∃(l:List (Int×Int)),Wb ag qBL3 (WX.m x)=Wb ag qBL1 l/\∀(I:Int),I=cB (Zt l y) qBL4->∃(l:List (Int×Int)),Wb ag qBL3 (WX.m x)=Wb ag qBL1 l/\∃(x':WX),R x'/\x'.2+1<=x.2/\ac=ac/\(True/\(qBL2 a b c d)/\wr ag ((qBL5 x)+qBL6)=(qBL5 x')/\True)/\(Wb ag qBL1 (putS l y (wr ag (I+qBL6)))=Wb ag qBL3 (WX.m x')/\nidE 0 (Wb ag qBL1 (putS l y (wr ag (I+qBL6))))=ac)/\True)/\(decide ((qBL5 x)<4)=ab->∃(l:List (Int×Int)),Wb ag qBL3 (WX.m x)=Wb ag qBL1 l/\∀(y:Int),y=cB (Zt l qBL4) qBL4->∃(l:List (Int×Int)),Wb ag qBL3 (WX.m x)=Wb ag qBL1 l/\∀(I:Int),I=cB (Zt l qBL6) qBL4->∃(l:List (Int×Int)),Wb ag qBL3 (WX.m x)=Wb ag qBL1 l/\∀(J:Int),J=cB (Zt l (-1:Int)) qBL4->((wr ag (wr ag (y+I)+J)==4)=ac->∃(l:List (Int×Int)),Wb ag qBL3 (WX.m x)=Wb ag qBL1 l/\∀(y:Int),y=cB (Zt l qBL6) qBL4->(decide (y<=qBL6)=ac->∃(l:List (Int×Int)),Wb ag qBL3 (WX.m x)=Wb ag qBL1 l/\∀(y:Int),y=cB (Zt l (-1:Int)) qBL4->(decide (y<=qBL6)=ac->ac=v)/\(decide (y<=qBL6)=ab->ab=v))/\(decide (y<=qBL6)=ab->ab=v))/\((wr ag (wr ag (y+I)+J)==4)=ab->ab=v))):=by kernel_rfl
theorem Yau{u:List Int} {k:Nat} {y n:Int} (h:u[k]? =ae y):cnt (u.take (k+1)) n=cnt (u.take k) n+(if y=n then 1 else 0):=by
 have I:=(ai.1 h).1;have:u.take (k+1)=u.take k++ [y]:=by rw[List.take_succ_eq_append_getElem I];congr 2;exact(ai.1 h).2
 unfold cnt;rw[this,List.filter_append,List.length_append];by_cases e:y=n<;>simp[e]
theorem Zwo(u:List Int) (n:Int):cnt u n<=u.length:=List.length_filter_le _ _
theorem Yav:FnsOk E Yhv:=Zm E_ok F0_ok _ _ _
theorem Z4z(a b c d:Int):PureC E 111 [dimA a b c d] (.bool ab (Zc0 [a,b,c,d])):=by
 refine Za E_ok (Zd E_ok Yav 400) ?_;rw[Z4y];delta qBL1 qBL4 qBL2 qBL3 qBL5 qBL6;simp only[Yl,Ya,Wu,Wv,Ww,ij,iz,fV,gp,fO,fG,bm,bI,bj,bY,aq,cI,cz,bp,iR,Y2,Yv,ne_eq,and_true,true_and,aP,aN,false_or,or_false,jW,ku,bZ,iU,jc,bB]
 have hc:∀k n,k<=4->cnt ([a,b,c,d].take k) n<=4:=λk n hk=>bS (Zwo _ _) (by simp;omega);refine⟨λx=>x.k<=4/\(∀n,(Zt x.m n).getD 0=(cnt ([a,b,c,d].take x.k) n:Int))/\x.r=4-x.k,⟨⟨0,4,[]⟩,⟨(by dsimp only;omega),λn=>rfl,rfl⟩,rfl,rfl⟩,?_⟩;rintro x ⟨hk,I,hr⟩;refine aC (λhq=>⟨by omega,by omega,λy R=>⟨x.m,rfl,λJ U=>⟨x.m,rfl,?_⟩⟩⟩) (λhq=> ?_)
 ·have R: [a,b,c,d][x.k]? =ae y:=R
  have:=hc x.k y (by omega);rw[I y] at U;rw[wr64 (n:=(x.k:Int)+1) (by omega) (by omega),wr64 (n:=J+1) (by omega) (by omega)];refine⟨⟨x.k+1,3-x.k,putS x.m y (J+1)⟩,⟨by show x.k+1<=4;omega,λn=> ?_,by show 3-x.k=4-(x.k+1);omega⟩,by show 3-x.k+1<=x.r;omega,rfl,rfl,Zlj E_ok _⟩;show(Zt (putS x.m y (J+1)) n).getD 0=(cnt ([a,b,c,d].take (x.k+1)) n:Int);rw[Zep,Yau R];by_cases e:y=n
  ·subst e;rw[jM rfl,jM rfl,U];simp
  ·rw[jJ e,jJ e,I n];simp
 ·have a0:x.k=4:=by omega
  have I:∀n,(Zt x.m n).getD 0=(cnt [a,b,c,d] n:Int):=λn=>by rw[I n,a0];rfl
  have h0:=Zwo [a,b,c,d] 0;have U:=Zwo [a,b,c,d] 1;have h2:=Zwo [a,b,c,d] (-1);simp only[aE,List.length_nil] at h0 U h2;refine⟨x.m,rfl,λy R=>⟨x.m,rfl,λJ a1=>⟨x.m,rfl,λy2 a2=> ?_⟩⟩⟩;rw[I] at R a1 a2;rw[wr64 (n:=y+J) (by omega) (by omega),wr64 (n:=y+J+y2) (by omega) (by omega)];unfold Zc0;refine aC (λh3=>⟨x.m,rfl,λz hz=> ?_⟩) (λh3=> ?_)
  ·rw[I] at hz
   refine aC (λh4=>⟨x.m,rfl,λz2 a3=> ?_⟩) (λh4=> ?_)
   ·rw[I] at a3
    refine aC (λh5=> ?_) (λh5=> ?_)
    ·simp;omega
    ·symm;simp only[bp,fG];omega
   ·symm;simp only[bp,fG];omega
  ·symm;simp only[bp,fG];omega
end
section
open Go
noncomputable def dDim:DcL E (List Int×Unit):=dA1 (dR .dims)
noncomputable def Ym1:Sum thy:=sumP dDim (λ_=>True) λx=> .bool ab (Zc0 [x.1.getD 0 0,x.1.getD 1 0,x.1.getD 2 0,x.1.getD 3 0])
theorem Ybu:SumOk E 111 Ym1:=Yo E_ok (Zc (f:=111) rfl) λx _=>Z4z _ _ _ _
noncomputable def Yo8(m:Nat):Sum thy:=sumP dExp (λx=>x.1.sz<m) λx=> .bool ab (Zn x.1)
noncomputable def Yo9:Dc E (List Ex):=(Zfr (E:=E) iv:Dc E (List (thy.dom iv)))
noncomputable def Ypa(m:Nat):Sum thy:=sumP (dA2 Yo9 (dFun 113)) (λx=>Ex.szL x.1<m) λx=> .bool ab (!Ux x.1)
def Aidx:Fr thy->Hp thy->Nat->Ann thy:=λT h i=>{X:=DX,fr:=λx=> [(0,T 0),(1,T 1),(7,T 7),(8,.int ab .i64 x.k)],bl:=λx=> [],src:=λ_=> [],md:= [],ih:=i,M:=i+30,meas:=λx=>x.r}
noncomputable def Yis(m:Nat):Fns thy:=addL (addS F0 67 (Yo8 m)) 139 2 Aidx E
theorem Z6l(m:Nat) (l:List Ex) (v:Bool):Zk E (Yis m) (vc E (Yis m) 400) 112 [.psl iv l ab,.fn (.func 113) [] []] hp0 0 (λr=>ret E (patch hp0 0 r) r.v (.bool ab v))=(
∃(R:DX->Prop),(∃(x:DX),R x/\ac=ac/\((l=l/\(ab=ac->ab=ac))/\(cF (113:FuncId)=cF (113:FuncId)/\True/\True)/\(↑(aa l):Int)=(↑(aa l):Int)/\0=(↑(DX.k x):Int)/\True)/\True)/\∀(x:DX),R x->(decide ((↑(DX.k x):Int)<(↑(aa l):Int))=ac->0<=(↑(DX.k x):Int)/\(↑(DX.k x):Int)+1<=(↑(aa l):Int)/\∀(I:Ex),l[af (↑(DX.k x):Int)]? =ae I->Ex.sz (bV (aM I) (bX I) (bD I) (bE I) (bF I) (bG I) (bw I))+1<=m/\((!Zn (bV (aM I) (bX I) (bD I) (bE I) (bF I) (bG I) (bw I)))=ac->(decide ((↑(DX.k x):Int)>=0)=ac->ac=v)/\(decide ((↑(DX.k x):Int)>=0)=ab->ab=v))/\((!Zn (bV (aM I) (bX I) (bD I) (bE I) (bF I) (bG I) (bw I)))=ab->∃(x':DX),R x'/\x'.2+1<=x.2/\ac=ac/\((l=l/\(ab=ac->ab=ac))/\(cF (113:FuncId)=cF (113:FuncId)/\True/\True)/\(↑(aa l):Int)=(↑(aa l):Int)/\wr ag ((↑(DX.k x):Int)+1)=(↑(DX.k x'):Int)/\True)/\True))/\(decide ((↑(DX.k x):Int)<(↑(aa l):Int))=ab->ab=v)):=by kernel_rfl
theorem Z6m(m:Nat) (hm:m<=1000000000000) (ih:∀x:Ex,x.sz<m->PureC E 67 [exA x] (.bool ab (Zn x))) (l:List Ex) (hl:Ex.szL l<m):PureC E 112 [.psl iv l ab,.fn (.func 113) [] []] (.bool ab (!Ux l)):=by
 have U:FnsOk E (Yis m):=Zm E_ok (Zb F0_ok (Yo E_ok (Zc (f:=67) rfl) λx h=>ih x.1 h)) _ _ _;refine Za E_ok (Zd E_ok U 400) ?_;rw[Z6l]
 simp only[Yl,Ya,Wu,Wv,Ww,ij,iz,fV,gp,fO,fG,bm,bI,bj,bY,aq,cI,cz,bp,iR,Y2,Yv,ne_eq,and_true,true_and,aP,aN,false_or,or_false,jW,ku,bZ,iU,jc,bB,Ex.eta];have a0:=Ex.szL_len l
 refine⟨λx=>x.k<=l.length/\Ux (l.drop x.k)=Ux l/\x.r=l.length-x.k,⟨⟨0,l.length,[],[],0,0,0,0⟩,⟨(by dsimp only;omega),rfl,rfl⟩,rfl⟩,?_⟩;rintro x ⟨hk,I,hr⟩;refine aC (λhq=>⟨by omega,by omega,λy J=> ?_⟩) (λhq=> ?_)
 ·have J:l[x.k]? =ae y:=J
  rw[Z0s J] at I;have a1:=Ex.szL_mem (aL J);refine⟨by omega,λR=> ?_,λR=> ?_⟩
  ·rw[R] at I
   rw[<-I];exact aC (λ_=>rfl) (λh=>by omega)
  ·rw[R,cz] at I
   exact⟨⟨x.k+1,l.length-(x.k+1),[],[],0,0,0,0⟩,⟨(by dsimp only;omega),I,rfl⟩,by show l.length-(x.k+1)+1<=x.r;omega,wr64 (by omega) (by omega)⟩
 ·rw[Zae (by omega)] at I
  rw[<-I];rfl
noncomputable def Yit(m:Nat):Fns thy:=addS (addS F0 112 (Ypa m)) 111 Ym1
abbrev qBM4:=0
abbrev qBM7(I:Ex):=(!(bD I==qBM4&&(bE I==qBM4&&(bF I==qBM4&&(bG I==qBM4&&ac)))))
abbrev qBM2(I:Ex):=(!Zc0 [ah [bD I,bE I,bF I,bG I] 0 qBM4,ah [bD I,bE I,bF I,bG I] 1 qBM4,ah [bD I,bE I,bF I,bG I] 2 qBM4,ah [bD I,bE I,bF I,bG I] 3 qBM4])
abbrev qBM1(I:Ex) (J:Bool) (R:Nat):=((qBM2 I)=ab->((aM I !=1)=ac->((qBM7 I)=ac->ab=J)/\((qBM7 I)=ab->Ex.szL (bw I)+1<=R/\(!!Ux (bw I))=J))/\((aM I !=1)=ab->Ex.szL (bw I)+1<=R/\(!!Ux (bw I))=J))
abbrev qBM3(I:Ex):=(↑(aa (bw I)):Int)
abbrev qBM5(I:Ex) (J:Bool->Prop):=((decide (aM I<1)=ac->J ac)/\(decide (aM I<1)=ab->(decide (aM I>11)=ac->J ac)/\(decide (aM I>11)=ab->J ab)))
abbrev qBM6(I:Ex) (J:Bool):=(decide (bX I<qBM4)=ac->ab=J)
theorem Z6n(m:Nat) (x:Ex) (v:Bool):Zk E (Yit m) (vc E (Yit m) 400) 67 [exA x] hp0 0 (λr=>ret E (patch hp0 0 r) r.v (.bool ab v))=(
 ((aM x==1)=ac->(qBM6 x v)/\(decide (bX x<qBM4)=ab->(decide (bX x>1099511627776)=ac->ab=v)/\(decide (bX x>1099511627776)=ab->(((qBM3 x) !=qBM4)=ac->ab=v)/\(((qBM3 x) !=qBM4)=ab->True/\((qBM2 x)=ac->ab=v)/\(qBM1 x v m)))))/\((aM x==1)=ab->((aM x==2)=ac->(qBM6 x v)/\(decide (bX x<qBM4)=ab->(decide (bX x>15)=ac->ab=v)/\(decide (bX x>15)=ab->(((qBM3 x) !=qBM4)=ac->ab=v)/\(((qBM3 x) !=qBM4)=ab->True/\((qBM2 x)=ac->ab=v)/\(qBM1 x v m)))))/\((aM x==2)=ab->((aM x==11)=ac->∃(Q:Bool->Prop),(qBM5 x Q)/\(Q ac->ab=v)/\(Q ab->(qBM6 x v)/\(decide (bX x<qBM4)=ab->(decide (bX x>qBM4)=ac->ab=v)/\(decide (bX x>qBM4)=ab->(((qBM3 x) !=4)=ac->ab=v)/\(((qBM3 x) !=4)=ab->True/\((qBM2 x)=ac->ab=v)/\(qBM1 x v m))))))/\((aM x==11)=ab->∃(Q:Bool->Prop),(qBM5 x Q)/\(Q ac->ab=v)/\(Q ab->(qBM6 x v)/\(decide (bX x<qBM4)=ab->(decide (bX x>qBM4)=ac->ab=v)/\(decide (bX x>qBM4)=ab->(((qBM3 x) !=2)=ac->ab=v)/\(((qBM3 x) !=2)=ab->True/\((qBM2 x)=ac->ab=v)/\(qBM1 x v m))))))))):=by kernel_rfl
theorem Ze2(x:Ex):Zn x=ac↔(1<=x.op/\x.op<=11/\0<=x.n/\(x.op=1->x.n<=1099511627776)/\(x.op=2->x.n<=15)/\(x.op≠1->x.op≠2->x.n<=0)/\(x.op=1\/x.op=2->x.l.length=0)/\(x.op=11->x.l.length=4)/\(x.op≠1->x.op≠2->x.op≠11->x.l.length=2)/\
 (x.op=1\/(x.d0=0/\x.d1=0/\x.d2=0/\x.d3=0)))/\Zc0 [x.d0,x.d1,x.d2,x.d3]=ac/\Ux x.l=true:=by
 rw[Zcn]
 simp only[Ze9,aq,bm,fO,Ex.u,List.cons.injEq,and_true]
 unfold Z0r Zkz
 constructor
 ·rintro⟨⟨⟨⟨⟨⟨⟨R,U⟩,h3⟩,I⟩,J⟩,h6⟩,h7⟩,h8⟩
  refine⟨⟨R,U,h3,λh=> ?_,λh=> ?_,λh h'=> ?_,λh=> ?_,λh=> ?_,λh h' a0=> ?_,h7⟩,h6,h8⟩
  ·rw[jM h] at I;exact I
  ·rw[jJ (by omega),jM h] at I;exact I
  ·rw[jJ h,jJ h'] at I;exact I
  ·rw[jM h] at J;exact J
  ·rw[jJ (by omega),jM h] at J;exact J
  ·rw[jJ (by omega),jJ a0] at J;exact J
 ·rintro⟨⟨R,U,h3,I,J,h6,h7,h8,h9,a1⟩,a2,a3⟩
  refine⟨⟨⟨⟨⟨⟨⟨R,U⟩,h3⟩,?_⟩,?_⟩,a2⟩,a1⟩,a3⟩
  ·split
   ·exact I ‹_›
   ·split
    ·exact J ‹_›
    ·exact h6 ‹_› ‹_›
  ·split
   ·exact h7 ‹_›
   ·split
    ·exact h8 ‹_›
    ·exact h9 (by omega) (by omega) ‹_›
theorem Ybv{x:Ex} (h:((1<=x.op/\x.op<=11/\0<=x.n/\(x.op=1->x.n<=1099511627776)/\(x.op=2->x.n<=15)/\(x.op≠1->x.op≠2->x.n<=0)/\(x.op=1\/x.op=2->x.l.length=0)/\(x.op=11->x.l.length=4)/\(x.op≠1->x.op≠2->x.op≠11->x.l.length=2)/\
 (x.op=1\/(x.d0=0/\x.d1=0/\x.d2=0/\x.d3=0)))->Zc0 [x.d0,x.d1,x.d2,x.d3]=ac->False)):ab=Zn x:=by
 symm;rw[iw];intro I
 have:=(Ze2 x).1 I
 exact h this.1 this.2.1
theorem Z6o{x:Ex} {b:Bool} (J:b=Ux x.l) (h:(1<=x.op/\x.op<=11/\0<=x.n/\(x.op=1->x.n<=1099511627776)/\(x.op=2->x.n<=15)/\(x.op≠1->x.op≠2->x.n<=0)/\(x.op=1\/x.op=2->x.l.length=0)/\(x.op=11->x.l.length=4)/\(x.op≠1->x.op≠2->x.op≠11->x.l.length=2)/\
 (x.op=1\/(x.d0=0/\x.d1=0/\x.d2=0/\x.d3=0)))) (R:Zc0 [x.d0,x.d1,x.d2,x.d3]=ac):b=Zn x:=by
 rw[kx,Ze2,J]
 exact⟨λI=>⟨h,R,I⟩,λI=>I.2.2⟩
theorem Ybw:∀(m:Nat),m<=1000000000000->∀(x:Ex),x.sz<m->PureC E 67 [exA x] (.bool ab (Zn x)):=by
 intro m
 induction m with
 |zero=>intro _ x h;omega
 |succ m J=>
  intro R x U;have I:FnsOk E (Yit m):=Zb (Zb F0_ok (Yo E_ok (Zc (f:=112) rfl) λx h=>Z6m m (by omega) (J (by omega)) x.1 h)) Ybu;refine Za E_ok (Zd E_ok I 400) ?_;rw[Z6n];delta qBM4 qBM7 qBM2 qBM1 qBM3 qBM5 qBM6;have a0:=x.sz_eq
  repeat' (first|exact Z2q _|apply Ydt|apply JR_some|apply JR_and|apply Ydu|(refine aC ?_ ?_)|(intro h))
  all_goals(simp only[Yl,Ya,Wu,Wv,Ww,ij,iz,fV,gp,fO,fG,bm,bI,bj,bY,aq,cI,cz,bp,iR,Y2,Yv,ne_eq,and_true,true_and,aP,aN,false_or,or_false,jW,ku,bZ,iU,jc,bB,List.getD_cons_zero,List.getD_cons_succ] at*)
  all_goals first|trivial|omega|(exact Ybv (λh hw=>by first|omega|(simp_all;done)))|(exact Z6o (by simp) (by omega) (by simp_all))
def in1(d:Int):Bool:=decide (-1<=d)&&decide (d<=1)
theorem Znq(x:Int) (r:List Int) (n:Int):cnt (x::r) n=(if x=n then 1 else 0)+cnt r n:=by
 unfold cnt;by_cases h:x=n<;>simp[h,Nat.add_comm]
theorem Z6p:∀u:List Int,cnt u 0+cnt u 1+cnt u (-1)<=u.length/\(cnt u 0+cnt u 1+cnt u (-1)=u.length↔u.all in1=ac)
 | []=>by simp[cnt]
 |x::r=>by
  obtain⟨h1,U⟩:=Z6p r
  rw[Znq,Znq,Znq,jb,aE,aq,<-U]
  unfold in1
  rw[aq,fO,fO]
  by_cases I:x=0
  ·subst I;simp;omega
  ·by_cases J:x=1
   ·subst J;simp;omega
   ·by_cases R:x= -1
    ·subst R;simp;omega
    ·rw[jJ I,jJ J,jJ R]
     omega
theorem Zqu(a b c d:Int):Zc0 [a,b,c,d]=([a,b,c,d].all in1&&(decide (cnt [a,b,c,d] 1<=1)&&decide (cnt [a,b,c,d] (-1)<=1))):=by
 have h:=(Z6p [a,b,c,d]).2;have: [a,b,c,d].length=4:=rfl;rw[this] at h;unfold Zc0;rw[kx,aq,aq,aq,aq,fO,h,and_assoc]
end
end Go.Proofs.YtbkgpcknakidkaaGreatDoor
/-
  DERIVED: THE SHELF's CONTRACTS AT THIS DUMP, IN PLAIN WORDS (tools/lay-plain.mjs out of 'YtbkgpcknakidkaaGreatDoorTvLay0.lean', which tools/lay-shelf.mjs wrote): THE SAME DECLARATIONS UNDER THE SAME NAMES: 'import', 'namespace', 'open', 'def', 'theorem' AND NOTHING ELSE: no command of the shelf's: FOR A HAND-IN. Each laying: the table of numbers ('.._ren') and one theorem, a field a fact of the dump's own or the kernel's comparison; each contract: ONE APPLICATION.
-/
namespace Go.Proofs
open Go.Shelf
def Tryz.lays160_ren:gn:=⟨λ|160=>110|232=>133|231=>132|227=>134|234=>136|233=>135|236=>138|235=>137|228=>150|271=>153|151=>152|197=>151|120=>158|152=>157|260=>156|137=>55|119=>164|224=>165|225=>166|217=>95|266=>128|n=>n,λ|9=>9|4=>4|3=>3|5=>5|117=>213|116=>212|0=>0|124=>216|21=>21|105=>241|46=>203|119=>137|139=>255|138=>254|n=>n,λ|3=>5|4=>6|n=>n⟩
theorem Tryz.lays160:kP Tryz.prog Tryz.lays160_ren:={
  mixed:=by kernel_rfl
  f119:=Tryz.func164.trans (congrArg ae (by kernel_rfl))
  f120:=Tryz.func158.trans (congrArg ae (by kernel_rfl))
  f137:=Tryz.func55.trans (congrArg ae (by kernel_rfl))
  f151:=Tryz.func152.trans (congrArg ae (by kernel_rfl))
  f152:=Tryz.func157.trans (congrArg ae (by kernel_rfl))
  f160:=Tryz.func110.trans (congrArg ae (by kernel_rfl))
  f197:=Tryz.func151.trans (congrArg ae (by kernel_rfl))
  f217:=Tryz.func95.trans (congrArg ae (by kernel_rfl))
  f224:=Tryz.func165.trans (congrArg ae (by kernel_rfl))
  f225:=Tryz.func166.trans (congrArg ae (by kernel_rfl))
  f227:=Tryz.func134.trans (congrArg ae (by kernel_rfl))
  f228:=Tryz.func150.trans (congrArg ae (by kernel_rfl))
  f231:=Tryz.func132.trans (congrArg ae (by kernel_rfl))
  f232:=Tryz.func133.trans (congrArg ae (by kernel_rfl))
  f233:=Tryz.func135.trans (congrArg ae (by kernel_rfl))
  f234:=Tryz.func136.trans (congrArg ae (by kernel_rfl))
  f235:=Tryz.func137.trans (congrArg ae (by kernel_rfl))
  f236:=Tryz.func138.trans (congrArg ae (by kernel_rfl))
  f260:=Tryz.func156.trans (congrArg ae (by kernel_rfl))
  f266:=Tryz.func128.trans (congrArg ae (by kernel_rfl))
  f271:=Tryz.func153.trans (congrArg ae (by kernel_rfl))
  t0:=Tryz.underlying0
  a0:=Tryz.isAgg0
  z0:=Tryz.sizeOf0
  v0:=Tryz.zeroValue0
  t3:=Tryz.underlying3
  a3:=Tryz.isAgg3
  z3:=Tryz.sizeOf3
  v3:=Tryz.zeroValue3
  t4:=Tryz.underlying4
  a4:=Tryz.isAgg4
  z4:=Tryz.sizeOf4
  v4:=Tryz.zeroValue4
  t5:=Tryz.underlying5
  a5:=Tryz.isAgg5
  z5:=Tryz.sizeOf5
  v5:=Tryz.zeroValue5
  t9:=Tryz.underlying9
  a9:=Tryz.isAgg9
  z9:=Tryz.sizeOf9
  v9:=Tryz.zeroValue9
  t21:=Tryz.underlying21
  a21:=Tryz.isAgg21
  z21:=Tryz.sizeOf21
  v21:=Tryz.zeroValue21
  t46:=Tryz.underlying203
  a46:=Tryz.isAgg203
  z46:=Tryz.sizeOf203
  v46:=Tryz.zeroValue203
  t105:=Tryz.underlying241
  a105:=Tryz.isAgg241
  z105:=Tryz.sizeOf241
  v105:=Tryz.zeroValue241
  t116:=Tryz.underlying212
  a116:=Tryz.isAgg212
  z116:=Tryz.sizeOf212
  t117:=Tryz.underlying213
  a117:=Tryz.isAgg213
  z117:=Tryz.sizeOf213
  v117:=Tryz.zeroValue213
  t119:=Tryz.underlying137
  a119:=Tryz.isAgg137
  z119:=Tryz.sizeOf137
  t124:=Tryz.underlying216
  a124:=Tryz.isAgg216
  z124:=Tryz.sizeOf216
  v124:=Tryz.zeroValue216
  t138:=Tryz.underlying254
  a138:=Tryz.isAgg254
  z138:=Tryz.sizeOf254
  v138:=Tryz.zeroValue254
  t139:=Tryz.underlying255
  a139:=Tryz.isAgg255
  z139:=Tryz.sizeOf255
  v139:=Tryz.zeroValue255
  g3:=by kernel_rfl
  g4:=by kernel_rfl}
def Tryz.lays156_ren:gn:=⟨λ|156=>38|165=>72|166=>73|169=>74|240=>120|241=>121|276=>144|277=>145|n=>n,λ|31=>86|9=>9|3=>3|4=>4|0=>0|20=>20|72=>145|76=>148|70=>142|37=>143|75=>147|127=>201|164=>231|5=>5|80=>80|n=>n,λ|n=>n⟩
theorem Tryz.lays156:kQ Tryz.prog Tryz.lays156_ren:={
  mixed:=by kernel_rfl
  f156:=Tryz.func38.trans (congrArg ae (by kernel_rfl))
  f165:=Tryz.func72.trans (congrArg ae (by kernel_rfl))
  f166:=Tryz.func73.trans (congrArg ae (by kernel_rfl))
  f169:=Tryz.func74.trans (congrArg ae (by kernel_rfl))
  f240:=Tryz.func120.trans (congrArg ae (by kernel_rfl))
  f241:=Tryz.func121.trans (congrArg ae (by kernel_rfl))
  f276:=Tryz.func144.trans (congrArg ae (by kernel_rfl))
  f277:=Tryz.func145.trans (congrArg ae (by kernel_rfl))
  t0:=Tryz.underlying0
  a0:=Tryz.isAgg0
  z0:=Tryz.sizeOf0
  v0:=Tryz.zeroValue0
  t3:=Tryz.underlying3
  a3:=Tryz.isAgg3
  z3:=Tryz.sizeOf3
  v3:=Tryz.zeroValue3
  t4:=Tryz.underlying4
  a4:=Tryz.isAgg4
  z4:=Tryz.sizeOf4
  v4:=Tryz.zeroValue4
  t9:=Tryz.underlying9
  a9:=Tryz.isAgg9
  z9:=Tryz.sizeOf9
  v9:=Tryz.zeroValue9
  t20:=Tryz.underlying20
  a20:=Tryz.isAgg20
  z20:=Tryz.sizeOf20
  v20:=Tryz.zeroValue20
  t31:=Tryz.underlying86
  a31:=Tryz.isAgg86
  z31:=Tryz.sizeOf86
  v31:=Tryz.zeroValue86
  t37:=Tryz.underlying143
  a37:=Tryz.isAgg143
  z37:=Tryz.sizeOf143
  v37:=Tryz.zeroValue143
  t70:=Tryz.underlying142
  a70:=Tryz.isAgg142
  z70:=Tryz.sizeOf142
  v70:=Tryz.zeroValue142
  t72:=Tryz.underlying145
  a72:=Tryz.isAgg145
  z72:=Tryz.sizeOf145
  v72:=Tryz.zeroValue145
  t75:=Tryz.underlying147
  a75:=Tryz.isAgg147
  z75:=Tryz.sizeOf147
  v75:=Tryz.zeroValue147
  t76:=Tryz.underlying148
  a76:=Tryz.isAgg148
  z76:=Tryz.sizeOf148
  v76:=Tryz.zeroValue148
  t127:=Tryz.underlying201
  a127:=Tryz.isAgg201
  z127:=Tryz.sizeOf201
  v127:=Tryz.zeroValue201
  t164:=Tryz.underlying231
  a164:=Tryz.isAgg231
  z164:=Tryz.sizeOf231
  v164:=Tryz.zeroValue231}
def Tryz.lays129_ren:gn:=⟨λ|129=>168|n=>n,λ|53=>236|3=>3|4=>4|46=>203|5=>5|9=>9|n=>n,λ|n=>n⟩
theorem Tryz.lays129:kR Tryz.prog Tryz.lays129_ren:={
  mixed:=by kernel_rfl
  f129:=Tryz.func168.trans (congrArg ae (by kernel_rfl))
  t3:=Tryz.underlying3
  a3:=Tryz.isAgg3
  z3:=Tryz.sizeOf3
  v3:=Tryz.zeroValue3
  t4:=Tryz.underlying4
  a4:=Tryz.isAgg4
  z4:=Tryz.sizeOf4
  v4:=Tryz.zeroValue4
  t5:=Tryz.underlying5
  a5:=Tryz.isAgg5
  z5:=Tryz.sizeOf5
  v5:=Tryz.zeroValue5
  t9:=Tryz.underlying9
  a9:=Tryz.isAgg9
  z9:=Tryz.sizeOf9
  v9:=Tryz.zeroValue9
  t46:=Tryz.underlying203
  a46:=Tryz.isAgg203
  z46:=Tryz.sizeOf203
  v46:=Tryz.zeroValue203
  t53:=Tryz.underlying236
  a53:=Tryz.isAgg236
  z53:=Tryz.sizeOf236
  v53:=Tryz.zeroValue236}
def Tryz.lays317_ren:gn:=⟨λ|317=>167|n=>n,λ|3=>3|46=>203|n=>n,λ|n=>n⟩
theorem Tryz.lays317:kS Tryz.prog Tryz.lays317_ren:={
  mixed:=by kernel_rfl
  f317:=Tryz.func167.trans (congrArg ae (by kernel_rfl))
  t3:=Tryz.underlying3
  a3:=Tryz.isAgg3
  z3:=Tryz.sizeOf3
  v3:=Tryz.zeroValue3
  t46:=Tryz.underlying203
  a46:=Tryz.isAgg203
  z46:=Tryz.sizeOf203
  v46:=Tryz.zeroValue203}
def Tryz.lays283_ren:gn:=⟨λ|283=>159|n=>n,λ|3=>3|9=>9|4=>4|n=>n,λ|n=>n⟩
theorem Tryz.lays283:kT Tryz.prog Tryz.lays283_ren:={
  mixed:=by kernel_rfl
  f283:=Tryz.func159.trans (congrArg ae (by kernel_rfl))
  t3:=Tryz.underlying3
  a3:=Tryz.isAgg3
  z3:=Tryz.sizeOf3
  v3:=Tryz.zeroValue3
  t4:=Tryz.underlying4
  a4:=Tryz.isAgg4
  z4:=Tryz.sizeOf4
  v4:=Tryz.zeroValue4
  t9:=Tryz.underlying9
  a9:=Tryz.isAgg9
  z9:=Tryz.sizeOf9
  v9:=Tryz.zeroValue9}
end Go.Proofs

namespace Go.Proofs.YtbkgpcknakidkaaGreatDoor
set_option linter.unusedVariables false
set_option linter.unusedSimpArgs false
set_option linter.unnecessarySimpa false
set_option maxRecDepth 100000
section
open Go
def wb(c:Nat):Bool:=(bP 97 c&&bP c 122)||(bP 48 c&&bP c 57)
def Zzk:List Nat:= [97,98,99,100,101,102,103,104,105,106,107,108,109,110,111,112,113,114,115,116,117,118,119,120,121,122,48,49,50,51,52,53,54,55,56,57]
def Ztj(s:List Nat):List Nat:=(Lib.trimS (mkS s).data.toList (mkS Zzk).data.toList).map db
theorem Z3x(s:List Nat) (U:s.length<=9223372036854775807):PureC E 110 [.str ab s,.str ac Zzk] (.str ab (Ztj s)):=by
 refine U7 λg w a1 hd=> ?_;obtain⟨u,v,rfl,hu,hv⟩:=Ylc hd;cases hu;cases hv;rename_i b I c J;subst I;have R:c=mkS Zzk:=by rw[<-J,Zdx]
 subst R;have a0:b.size<=9223372036854775807:=by rw[<-Zdw];exact U
 refine(Any.strings_Trim_laid Tryz.lays160 (by kernel_rfl) b (mkS Zzk) w a0 (by decide) (ascii_of_all (by decide))).mono ?_;rintro e w' ⟨rfl,hw⟩;refine⟨_,rfl,?_,hw⟩;unfold Ztj;rw[Zdx];exact Z9x
theorem dw_nil{α:Type} {p:α->Bool}:∀{l:List α},l.dropWhile p= []↔∀x∈l,p x=ac
 | []=>by simp
 |x::l=>by
  rw[jy]
  cases I:p x with
  |true=>simp[I,dw_nil (l:=l)]
  |false=>simp[I]
theorem Z3y{α:Type} {p:α->Bool}:∀{l:List α} {b:α} {r:List α},l.dropWhile p=b::r->p b=ab
 | [],b,r,h=>by simp at h
 |x::l,b,r,h=>by
  rw[jy] at h
  cases I:p x with
  |true=>rw[I] at h;exact Z3y h
  |false=>rw[I] at h;simp at h;rw[<-h.1];exact I
theorem Z3z(l cs:List UInt8):Lib.trimS l cs= []↔∀b∈l,cs.contains b=true:=by
 unfold Lib.trimS Lib.trimLeftS Lib.trimRightS;rw[dw_nil];constructor
 ·intro h
  cases hd:l.reverse.dropWhile (cs.contains ·) with
  |nil=>
   rw[dw_nil] at hd;exactλb I=>hd b (kb.2 I)
  |cons b r=>
   exfalso;have R:=h b (by rw[hd];simp);have J:=Z3y hd;rw[R] at J;cases J
 ·intro h b I
  rw[dw_nil.2 (λb I=>h b (kb.1 I))] at I;simp at I
theorem Zpv:∀n,n<256->(mkS Zzk).data.toList.contains (gq n)=wb n:=by decide
theorem Z30{s:List Nat} (R:Byt s):Ztj s= []↔s.all wb=true:=by
 unfold Ztj;rw[List.map_eq_nil_iff,Z3z,fL];have e:s=(mkS s).data.toList.map db:=(show toL (mkS s)=s from R).symm;constructor
 ·intro h c J
  rw[e] at J;obtain⟨b,I,rfl⟩:=List.mem_map.1 J;rw[<-Zpv _ b.toNat_lt];have:=h b I
  rwa[show gq b.toNat=b from jL]
 ·intro h b I
  have:=h b.toNat (by rw[e];exact List.mem_map_of_mem I);rw[<-Zpv _ b.toNat_lt] at this
  rwa[show gq b.toNat=b from jL] at this
noncomputable def Ylr:Sum thy:=sumP (dA2 dS (dKs Zzk)) (λx=>x.1.length<=9223372036854775807) λx=> .str ab (Ztj x.1)
theorem Yaa:SumOk E 110 Ylr:=Yo E_ok (Zc (f:=110) rfl) λx h=>Z3x _ h
noncomputable def Yha:Fns thy:=addS F0 110 Ylr
theorem Yab:FnsOk E Yha:=Zb F0_ok Yaa
def lowF:List Nat->Bool
 | []=>ab
 |c::_=>bP 97 c&&bP c 122
def V5(s:List Nat):Bool:=decide (s.length<=32)&&lowF s&&s.all wb
theorem Z31(s:List Nat) (v:Bool):Zk E Yha (vc E Yha 400) 66 [.str ab s] hp0 0 (λr=>ret E (patch hp0 0 r) r.v (.bool ab v))=(
(decide ((↑(aa s):Int)<=32)=ac->((!s==toL (dZ #[]))=ac->(0:Int)<=0/\0+1<=(↑(aa s):Int)/\∀(x:Nat),s[af 0]? =ae x->(decide ((↑x:Int)>=97)=ac->(0:Int)<=0/\0+1<=(↑(aa s):Int)/\∀(x:Nat),s[af 0]? =ae x->(decide ((↑x:Int)<=122)=ac->aa s<=9223372036854775807/\((Ztj s==toL (dZ #[]))=ac->ac=v)/\((Ztj s==toL (dZ #[]))=ab->ab=v))/\(decide ((↑x:Int)<=122)=ab->ab=v))/\(decide ((↑x:Int)>=97)=ab->ab=v))/\((!s==toL (dZ #[]))=ab->ab=v))/\(decide ((↑(aa s):Int)<=32)=ab->ab=v)):=by kernel_rfl
theorem Z32(s:List Nat):PureC E 66 [.str ab s] (.bool ab (V5 s)):=by
 refine Z9v (j:=0) rfl λhs=>Za E_ok (Zd E_ok Yab 400) ?_;rw[Z31];simp only[Yl,Ya,Wu,Wv,Ww,ij,iz,fV,gp,fO,fG,bm,bI,bj,bY,aq,cI,cz,bp,iR,Y2,Yv,ne_eq,and_true,true_and,aP,aN,false_or,or_false,jW,ku,bZ,iU,jc,bB];have he:toL (dZ #[])= []:=rfl
 have hz:(0:Int).toNat=0:=rfl;simp only[he,hz,Z30 hs];unfold V5;refine aC (λU=>aC (λI=>⟨by omega,?_,λc R=> ?_⟩) (λI=> ?_)) (λU=> ?_)
 ·cases s with
  |nil=>exact ka rfl I
  |cons c r=>simp only[aE];omega
 ·cases s with
  |nil=>simp at R
  |cons c' r=>
   obtain rfl:c'=c:=by simpa using R
   rw[jq (show(c'::r).length<=32 by omega),show lowF (c'::r)=(bP 97 c'&&bP c' 122) from rfl];refine aC (λh3=>⟨by omega,by simp only[aE];omega,λc2 a0=> ?_⟩) (λh3=> ?_)
   ·obtain rfl:c'=c2:=by simpa using a0
    refine aC (λh4=>⟨by omega,λJ=> ?_,λJ=> ?_⟩) (λh4=> ?_)
    ·rw[J,js (by omega),js (by omega)];rfl
    ·rw[iw.2 J];simp
    ·have:bP c' 122=false:=by rw[<-bg,bu];omega
     rw[this];simp
   ·have:bP 97 c'=false:=by rw[<-bg,bu];omega
    rw[this];simp
 ·rw[I];simp[lowF]
 ·rw[jI (show¬s.length<=32 by omega)];simp
def resW:List (List Nat):= [[116,97,114,105,102,102],[102,111,114],[99,108,97,117,115,101],[119,104,101,110],[97,110,100],[105,110],[105,115],[112,97,121],[109,105,110],[109,97,120],[100,111,119,110],[117,112],[104,97,108,102],[105,102],[109,111,110,101,121],[109,105,110,117,116,101],[112,101,114],[107,103],[116,121,112,101],[111,119,110,101,114],[114,97,105,108,119,97,121],[115,104,105,112,112,101,114],[99,108,97,115,115],[119,101,105,103,104,116],[107,109],[109,105,110,117,116,101,115],[119,111,114,107,105,110,103],[99,111,100,101],[119,111,114,116,104],[99,111,115,116],[109,111,110,116,104],[98,101,103,105,110],[112,97,114,116,115],[112,97,114,116],[104,105,114,101],[100,101,109,117,114,114,97,103,101],[102,114,101,105,103,104,116],[114,101,112,97,105,114],[108,111,115,115],[99,108,101,97,110,105,110,103]]
theorem Yac(s:List Nat) (K:SV thy->Prop):Zk E F0 (vc E F0 400) 58 [.str ab s] hp0 0 (λr=>K r.v)=Vl ab (.str ab s) (resW.map λk=>(kH (mkS k),SV.bool ac ac)) K (K (.bool ac ab)):=by kernel_rfl
theorem Zwf(s:List Nat):PureC E 58 [.str ab s] (.bool ab (decide (s∈resW))):=by
 refine Zoj E_ok (Yae 400) (K:=λr=>r.v= .bool ac (decide (s∈resW))) (λr I=>by rw[I];rfl) ?_;rw[Yac s λv=>v= .bool ac (decide (s∈resW))];refine Zla ?_ (λh=>by rw[jq h]) (λh=>by rw[jI h]);unfold Byt;decide
end
section
open Go
end
section
open Go
def Ym(w:Tst):Bool:=decide (0<=w.attr/\w.attr<16/\0<=w.low/\w.low<=1099511627776/\0<=w.high/\w.high<=1099511627776)
def Wz(c:Cls):Bool:=V5 c.name&&Zn c.pay&&c.when_.all Ym
def resF(s:List Nat):Bool:=decide (s∈resW)
noncomputable def goC:Bool->Bool->List (List Nat×Bool)->List Cls->Int
 |a,b,_,[]=>if a=ac then 161 else if b=ac then 2 else 0
 |a,b,m,c::r=>if Wz c=ac then goC (a||resF c.name||(Zt m c.name).getD ab) (b||decide (8<c.when_.length)||decide (24<Z9 c.pay)) (putS m c.name ac) r else 1
noncomputable def Z8(t:Tar):Int:=if V5 t.name=ac/\1<=t.for_/\t.for_<=6 then goC (resF t.name) (decide (64<t.clauses.length)) [] t.clauses else 1
noncomputable def Yk4:Sum thy:=sumP (dA1 dS) (λ_=>True) λx=> .bool ab (V5 x.1)
theorem Z9l:SumOk E 66 Yk4:=Yo E_ok (Zc (f:=66) rfl) λx h=>Z32 _
noncomputable def Sres:Sum thy:=sumP (dA1 dS) (λ_=>True) λx=> .bool ab (resF x.1)
theorem Yfz:SumOk E 58 Sres:=Yo E_ok (Zc (f:=58) rfl) λx h=>Zwf _
noncomputable def Z23:Sum thy:=sumP dExp (λx=>x.1.sz<1000000000000) λx=> .bool ab (Zn x.1)
theorem Zy2:SumOk E 67 Z23:=Yo E_ok (Zc (f:=67) rfl) λx h=>Ybw _ (av _) _ h
noncomputable def Zmt:Sum thy:=sumP dExp (λx=>x.1.sz<1000000000000) λx=> .int ab .i64 (Z9 x.1:Int)
theorem Zid:SumOk E 64 Zmt:=Yo E_ok (Zc (f:=64) rfl) λx h=>Yat _ _ (av _) (Nat.le_of_lt h)
structure CkX where
 k:Nat
 r:Nat
 a:Bool
 b:Bool
 m:List (List Nat×Bool)
def blkM{Y:Thy} (h:Hp Y) (v:SV Y):List (Nat×Blk Y):=match v with| .map b=>(match h b with|some x=> [(b,x)]|none=> [])|_=> []
noncomputable def Ack:Fr thy->Hp thy->Nat->Ann thy:=λT h i=>{X:=CkX,fr:=λx=> [(3,.bool ab x.a),(4,.bool ab x.b),(5,T 5),(33,T 33),(34,T 34),(35,.int ab .i64 x.k)],bl:=λx=> [(bOf (T 5),.map (Zi (Zl E bM ab) x.m))],src:=λ_=> [],md:= [bOf (T 5)],ih:=i,M:=i+40,meas:=λx=>x.r}
noncomputable def Atst:Fr thy->Hp thy->Nat->Ann thy:=λT h i=>{X:=DX,fr:=λx=> [(3,T 3),(4,T 4),(5,T 5),(7,T 7),(33,T 33),(34,T 34),(35,T 35),(50,T 50),(51,T 51),(52,.int ab .i64 x.k)],bl:=λx=>blkP h (T 7)++blkM h (T 5),src:=λ_=> [],md:= [],ih:=i,M:=i+30,meas:=λx=>x.r}
noncomputable def Fck:Fns thy:=addL (addL (addS (addS (addS (addS F0 66 Yk4) 58 Sres) 67 Z23) 64 Zmt) 34 6 Ack E) 34 11 Atst E
theorem Yk5:FnsOk E Fck:=Zm E_ok (Zm E_ok (Zb (Zb (Zb (Zb F0_ok Z9l) Yfz) Zy2) Zid) _ _ _) _ _ _
def tarA(t:Tar):SV thy:= .agg (encF ab .tariffs t)
abbrev Yf0(x:CkX) (I:Cls) (R:CkX->Prop) (t:Tar):Prop:=
 CkX.b x=ab->(decide ((↑(aa (aT I)):Int)>8)=ac->∃(l:List (List Nat×Bool)),Zi (Zl E bM ab) (CkX.m x)=Zi (Zl E
 bM (Zh bT)) l/\(∀(p:List Nat×Bool),p∈l->toL (mkS (ak p))=ak p)/\toL (mkS (aK I))=aK I/\∃(J:CkX),R J/\
 J.2+1<=x.2/\ac=ac/\(ac=CkX.a J/\ac=CkX.b J/\True/\(ar t=ar t/\(ab=ac->ab=ac))/\(↑(aa
 (ar t)):Int)=(↑(aa (ar t)):Int)/\wr ag ((↑(CkX.k x):Int)+1)=(↑(CkX.k J):Int)/\True)/\(Zi (Zl E bM
 (Zh bT)) (putS l (aK I) ac)=Zi (Zl E bM ab) (CkX.m J)/\nidE 0 (Zi (Zl E bM (Zh bT)) (putS l
 (aK I) ac))=ac)/\True)/\(decide ((↑(aa (aT I)):Int)>8)=ab->Ex.sz (bV (aM (ay I)) (bX (ay I)) (bD
 (ay I)) (bE (ay I)) (bF (ay I)) (bG (ay I)) (bw (ay I)))+1<=1000000000000/\(decide ((↑(Z9 (bV (aM
 (ay I)) (bX (ay I)) (bD (ay I)) (bE (ay I)) (bF (ay I)) (bG (ay I)) (bw (ay I)))):Int)>24)=ac->∃
 (l:List (List Nat×Bool)),Zi (Zl E bM ab) (CkX.m x)=Zi (Zl E bM (Zh bT)) l/\(∀(p:List Nat×Bool),p∈l->toL (mkS (ak
 p))=ak p)/\toL (mkS (aK I))=aK I/\∃(J:CkX),R J/\J.2+1<=x.2/\ac=ac/\(ac=CkX.a J/\ac=CkX.b J/\True/\
 (ar t=ar t/\(ab=ac->ab=ac))/\(↑(aa (ar t)):Int)=(↑(aa (ar t)):Int)/\wr ag ((↑(CkX.k x):
 Int)+1)=(↑(CkX.k J):Int)/\True)/\(Zi (Zl E bM (Zh bT)) (putS l (aK I) ac)=Zi (Zl E bM ab) (CkX.m J)/\
 nidE 0 (Zi (Zl E bM (Zh bT)) (putS l (aK I) ac))=ac)/\True)/\(decide ((↑(Z9 (bV (aM (ay I)) (bX (ay
 I)) (bD (ay I)) (bE (ay I)) (bF (ay I)) (bG (ay I)) (bw (ay I)))):Int)>24)=ab->∃(l:List (List Nat×
 Bool)),Zi (Zl E bM ab) (CkX.m x)=Zi (Zl E bM (Zh bT)) l/\(∀(p:List Nat×Bool),p∈l->toL (mkS (ak p))=ak p)/\
 toL (mkS (aK I))=aK I/\∃(J:CkX),R J/\J.2+1<=x.2/\ac=ac/\(ac=CkX.a J/\ab=CkX.b J/\True/\(ar t=
 ar t/\(ab=ac->ab=ac))/\(↑(aa (ar t)):Int)=(↑(aa (ar t)):Int)/\wr ag ((↑(CkX.k x):Int)+1)
 =(↑(CkX.k J):Int)/\True)/\(Zi (Zl E bM (Zh bT)) (putS l (aK I) ac)=Zi (Zl E bM ab) (CkX.m J)/\nidE 0
 (Zi (Zl E bM (Zh bT)) (putS l (aK I) ac))=ac)/\True))
abbrev Yk6(x:CkX) (I:Cls) (R:CkX->Prop) (t:Tar):Prop:=
 CkX.a x=ab->True/\(resF (aK I)=ac->(CkX.b x=ac->∃(l:List (List Nat×Bool)),Zi (Zl E bM ab) (CkX.m x)=Zi (Zl E bM
 (Zh bT)) l/\(∀(p:List Nat×Bool),p∈l->toL (mkS (ak p))=ak p)/\toL (mkS (aK I))=aK I/\∃(J:CkX),R J/\J.2+(1:
 Nat)<=x.2/\ac=ac/\(ac=CkX.a J/\ac=CkX.b J/\True/\(ar t=ar t/\(ab=ac->ab=ac))/\(↑(aa (ar t)):Int)
 =(↑(aa (ar t)):Int)/\wr ag ((↑(CkX.k x):Int)+1)=(↑(CkX.k J):Int)/\True)/\(Zi (Zl E bM (Zh bT)) (putS
 l (aK I) ac)=Zi (Zl E bM ab) (CkX.m J)/\nidE 0 (Zi (Zl E bM (Zh bT)) (putS l (aK I) ac))=ac)/\
 True)/\(Yf0 x I R t))/\(resF (aK I)=ab->∃(l:List (List Nat×Bool)),Zi (Zl E bM ab) (CkX.m x)=Zi (Zl E bM (Zh
 bT)) l/\(∀(p:List Nat×Bool),p∈l->toL (mkS (ak p))=ak p)/\∀(y:Bool),y=cB (Zt l (aK I)) ab->(CkX.b x=ac->∃(l
 :List (List Nat×Bool)),Zi (Zl E bM ab) (CkX.m x)=Zi (Zl E bM (Zh bT)) l/\(∀(p:List Nat×Bool),p∈l->toL (mkS (ak p))
 =ak p)/\toL (mkS (aK I))=aK I/\∃(J:CkX),R J/\J.2+1<=x.2/\ac=ac/\(y=CkX.a J/\ac=CkX.b J/\True/\(ar t
 =ar t/\(ab=ac->ab=ac))/\(↑(aa (ar t)):Int)=(↑(aa (ar t)):Int)/\wr ag ((↑(CkX.k x):Int)+(1:
 Int))=(↑(CkX.k J):Int)/\True)/\(Zi (Zl E bM (Zh bT)) (putS l (aK I) ac)=Zi (Zl E bM ab) (CkX.m J)/\nidE 0
 (Zi (Zl E bM (Zh bT)) (putS l (aK I) ac))=ac)/\True)/\(CkX.b x=ab->(decide ((↑(aa (aT I)):Int)>8)=
 ac->∃(l:List (List Nat×Bool)),Zi (Zl E bM ab) (CkX.m x)=Zi (Zl E bM (Zh bT)) l/\(∀(p:List Nat×Bool),p∈l->toL (mkS
 (ak p))=ak p)/\toL (mkS (aK I))=aK I/\∃(J:CkX),R J/\J.2+1<=x.2/\ac=ac/\(y=CkX.a J/\ac=CkX.b J/\True/\
 (ar t=ar t/\(ab=ac->ab=ac))/\(↑(aa (ar t)):Int)=(↑(aa (ar t)):Int)/\wr ag ((↑(CkX.k x):
 Int)+1)=(↑(CkX.k J):Int)/\True)/\(Zi (Zl E bM (Zh bT)) (putS l (aK I) ac)=Zi (Zl E bM ab) (CkX.m J)/\
 nidE 0 (Zi (Zl E bM (Zh bT)) (putS l (aK I) ac))=ac)/\True)/\(decide ((↑(aa (aT I)):Int)>8)=
 ab->Ex.sz (bV (aM (ay I)) (bX (ay I)) (bD (ay I)) (bE (ay I)) (bF (ay I)) (bG (ay I)) (bw (ay I)))+(1
 :Nat)<=1000000000000/\(decide ((↑(Z9 (bV (aM (ay I)) (bX (ay I)) (bD (ay I)) (bE (ay I)) (bF (ay I)) (bG
 (ay I)) (bw (ay I)))):Int)>24)=ac->∃(l:List (List Nat×Bool)),Zi (Zl E bM ab) (CkX.m x)=Zi (Zl E bM (Zh
 bT)) l/\(∀(p:List Nat×Bool),p∈l->toL (mkS (ak p))=ak p)/\toL (mkS (aK I))=aK I/\∃(J:CkX),R J/\J.2+1<=
 x.2/\ac=ac/\(y=CkX.a J/\ac=CkX.b J/\True/\(ar t=ar t/\(ab=ac->ab=ac))/\(↑(aa (ar t)):Int)=
 (↑(aa (ar t)):Int)/\wr ag ((↑(CkX.k x):Int)+1)=(↑(CkX.k J):Int)/\True)/\(Zi (Zl E bM (Zh bT)) (putS l
 (aK I) ac)=Zi (Zl E bM ab) (CkX.m J)/\nidE 0 (Zi (Zl E bM (Zh bT)) (putS l (aK I) ac))=ac)/\True)
 /\(decide ((↑(Z9 (bV (aM (ay I)) (bX (ay I)) (bD (ay I)) (bE (ay I)) (bF (ay I)) (bG (ay I)) (bw (ay
 I)))):Int)>24)=ab->∃(l:List (List Nat×Bool)),Zi (Zl E bM ab) (CkX.m x)=Zi (Zl E bM (Zh bT)) l/\(∀(p:List
 Nat×Bool),p∈l->toL (mkS (ak p))=ak p)/\toL (mkS (aK I))=aK I/\∃(J:CkX),R J/\J.2+1<=x.2/\ac=ac/\(y=CkX.a
 J/\ab=CkX.b J/\True/\(ar t=ar t/\(ab=ac->ab=ac))/\(↑(aa (ar t)):Int)=(↑(aa (ar t)):Int)
 /\wr ag ((↑(CkX.k x):Int)+1)=(↑(CkX.k J):Int)/\True)/\(Zi (Zl E bM (Zh bT)) (putS l (aK I) ac)=Zi (Zl E
 bM ab) (CkX.m J)/\nidE 0 (Zi (Zl E bM (Zh bT)) (putS l (aK I) ac))=ac)/\True))))
abbrev Yf1(x:CkX) (t:Tar) (v:Int) (R:CkX->Prop):Prop:=
 decide ((↑(CkX.k x):Int)<(↑(aa (ar t)):Int))=ac->0<=(↑(CkX.k x):Int)/\(↑(CkX.k x):Int)+1<=(↑(aa (ar t)):
 Int)/\∀(I:Cls),(ar t)[af (↑(CkX.k x):Int)]? =ae I->True/\((!V5 (aK I))=ac->1=v)/\((!V5 (aK I))=ab->
 Ex.sz (bV (aM (ay I)) (bX (ay I)) (bD (ay I)) (bE (ay I)) (bF (ay I)) (bG (ay I)) (bw (ay I)))+1
 <=1000000000000/\((!Zn (bV (aM (ay I)) (bX (ay I)) (bD (ay I)) (bE (ay I)) (bF (ay I)) (bG (ay I)) (bw
 (ay I))))=ac->1=v)/\((!Zn (bV (aM (ay I)) (bX (ay I)) (bD (ay I)) (bE (ay I)) (bF (ay I)) (bG
 (ay I)) (bw (ay I))))=ab->∃(a0:DX->Prop),(∃(U:DX),a0 U/\ac=ac/\(CkX.a x=CkX.a x/\CkX.b x=CkX.b x/\True/\0=0
 /\(ar t=ar t/\(ab=ac->ab=ac))/\(↑(aa (ar t)):Int)=(↑(aa (ar t)):Int)/\(↑(CkX.k x):Int)=
 (↑(CkX.k x):Int)/\(aT I=aT I/\(ab=ac->ab=ac))/\(↑(aa (aT I)):Int)=(↑(aa (aT I)):Int)/\0
 =(↑(DX.k U):Int)/\True)/\(aK I=aK I/\(aT I=aT I/\(ab=ac->ab=ac))/\aM (ay I)=aM (ay I)/\bX
 (ay I)=bX (ay I)/\bD (ay I)=bD (ay I)/\bE (ay I)=bE (ay I)/\bF (ay I)=bF (ay I)/\bG
 (ay I)=bG (ay I)/\(bw (ay I)=bw (ay I)/\(ab=ac->ab=ac))/\True)/\(Zi (Zl E bM ab) (CkX.m x)=Zi (Zl
 E bM ab) (CkX.m x)/\nidE 0 (Zi (Zl E bM ab) (CkX.m x))=ac)/\True)/\∀(U:DX),a0 U->(decide ((↑(DX.k U):Int)<(↑(aa
 (aT I)):Int))=ac->0<=(↑(DX.k U):Int)/\(↑(DX.k U):Int)+1<=(↑(aa (aT I)):Int)/\∀(J:Tst),(aT
 I)[af (↑(DX.k U):Int)]? =ae J->∃(Q:Bool->Prop),((decide (eo J<0)=ac->Q ac)/\(decide (eo J<0)=ab->(decide
 (eo J>=16)=ac->Q ac)/\(decide (eo J>=16)=ab->(decide (mm2 ab (fA J) (fB J)<0)=ac->Q ac)/\
 (decide (mm2 ab (fA J) (fB J)<0)=ab->(decide (mm2 ac (fA J) (fB J)>1099511627776)=ac->Q ac)/\(decide (mm2
 ac (fA J) (fB J)>1099511627776)=ab->Q ab)))))/\(Q ac->1=v)/\(Q ab->∃(a1:DX),a0 a1/\a1.2+1<=U.2/\ac
 =ac/\(CkX.a x=CkX.a x/\CkX.b x=CkX.b x/\True/\0=0/\(ar t=ar t/\(ab=ac->ab=ac))/\(↑(aa (ar t))
 :Int)=(↑(aa (ar t)):Int)/\(↑(CkX.k x):Int)=(↑(CkX.k x):Int)/\(aT I=aT I/\(ab=ac->ab=ac))/\(↑(aa
 (aT I)):Int)=(↑(aa (aT I)):Int)/\wr ag ((↑(DX.k U):Int)+1)=(↑(DX.k a1):Int)/\True)/\(aK I=aK I/\
 (aT I=aT I/\(ab=ac->ab=ac))/\aM (ay I)=aM (ay I)/\bX (ay I)=bX (ay I)/\bD (ay I)=
 bD (ay I)/\bE (ay I)=bE (ay I)/\bF (ay I)=bF (ay I)/\bG (ay I)=bG (ay I)/\(bw (ay I)=
 bw (ay I)/\(ab=ac->ab=ac))/\True)/\(Zi (Zl E bM ab) (CkX.m x)=Zi (Zl E bM ab) (CkX.m x)/\nidE 0 (Zi (Zl
 E bM ab) (CkX.m x))=ac)/\True))/\(decide ((↑(DX.k U):Int)<(↑(aa (aT I)):Int))=ab->(CkX.a x=ac->(CkX.b x=ac->∃(l:List
 (List Nat×Bool)),Zi (Zl E bM ab) (CkX.m x)=Zi (Zl E bM (Zh bT)) l/\(∀(p:List Nat×Bool),p∈l->toL (mkS (ak p))=
 ak p)/\toL (mkS (aK I))=aK I/\∃(J:CkX),R J/\J.2+1<=x.2/\ac=ac/\(ac=CkX.a J/\ac=CkX.b J/\True/\(ar
 t=ar t/\(ab=ac->ab=ac))/\(↑(aa (ar t)):Int)=(↑(aa (ar t)):Int)/\wr ag ((↑(CkX.k x):Int)+(1:
 Int))=(↑(CkX.k J):Int)/\True)/\(Zi (Zl E bM (Zh bT)) (putS l (aK I) ac)=Zi (Zl E bM ab) (CkX.m J)/\nidE 0
 (Zi (Zl E bM (Zh bT)) (putS l (aK I) ac))=ac)/\True)/\(Yf0 x I R t))/\(Yk6 x I R t))))
abbrev Yf2(x:CkX) (t:Tar) (v:Int):Prop:=
 decide ((↑(CkX.k x):Int)<(↑(aa (ar t)):Int))=ab->(CkX.a x=ac->161=v)/\(CkX.a x=ab->(CkX.b x=ac->2=v)/\(CkX.b x
 =ab->0=v))
theorem Yf3(t:Tar) (v:Int):Zk E Fck (vc E Fck 400) 34 [tarA t] hp0 0 (λr=>ret E (patch hp0 0 r) r.v (.int ab .i64 v))=(
True/\((!V5 (ba t))=ac->1=v)/\((!V5 (ba t))=ab->(decide (aZ t<1)=ac->1=v)/\(decide (aZ t<1)=ab->(decide (aZ t>6)=ac->1=v)/\(decide (aZ t>6)=ab->True/\(decide ((↑(aa (ar t)):Int)>64)=ac->∃(R:CkX->Prop),(∃(x:CkX),R x/\ac=ac/\(resF (ba t)=CkX.a x/\ac=CkX.b x/\True/\(ar t=ar t/\(ab=ac->ab=ac))/\(↑(aa (ar t)):Int)=(↑(aa (ar t)):Int)/\0=(↑(CkX.k x):Int)/\True)/\([]=Zi (Zl E bM ab) (CkX.m x)/\ac=ac)/\True)/\∀(x:CkX),R x->(Yf1 x t v R)/\(Yf2 x t v))/\(decide ((↑(aa (ar t)):Int)>64)=ab->∃(R:CkX->Prop),(∃(x:CkX),R x/\ac=ac/\(resF (ba t)=CkX.a x/\ab=CkX.b x/\True/\(ar t=ar t/\(ab=ac->ab=ac))/\(↑(aa (ar t)):Int)=(↑(aa (ar t)):Int)/\0=(↑(CkX.k x):Int)/\True)/\([]=Zi (Zl E bM ab) (CkX.m x)/\ac=ac)/\True)/\∀(x:CkX),R x->(Yf1 x t v R)/\(Yf2 x t v)))))):=by kernel_rfl
theorem Zie{g:GH} {t:Tar} {u:Value} (h:Den E σ0 g (tarA t) u):Byt t.name/\∀c∈t.clauses,Byt c.name:=by
 obtain⟨arr,c,rfl,hs,U,hd⟩:=Yk h;refine⟨Zsq (hd 0 _ rfl),λx R=> ?_⟩;have I:=hd 2 (.psl bA t.clauses ab) rfl;obtain⟨v,J⟩:=Z9w I x R 0 (.str ab x.name) rfl;exact Zsq J
theorem Zee(a b:Bool) (m:List (List Nat×Bool)) (c:Cls) (r:List Cls):goC a b m (c::r)=if Wz c=ac then goC (a||resF c.name||(Zt m c.name).getD ab) (b||decide (8<c.when_.length)||decide (24<Z9 c.pay)) (putS m c.name ac) r else 1:=rfl
theorem Zvx{l:List Tst} {k:Nat} {w:Tst} (h:l[k]? =ae w):(l.drop k).all Ym=(Ym w&&(l.drop (k+1)).all Ym):=by rw[Z4 h,jb]
theorem Zb9{U:Type}:∀{m:List (List Nat×U)} {a:List Nat} {v:U},(∀p∈m,Byt p.1)->Byt a->∀p∈putS m a v,Byt p.1
 | [],a,v,_,R,p,I=>by
  rw[putS] at I
  obtain rfl:=ct.1 I
  exact R
 |q::m,a,v,J,R,p,I=>by
  rw[putS] at I
  split at I
  ·rcases aH.1 I with rfl|I
   ·exact J q (bH ..)
   ·exact J p (aI _ I)
  ·rcases aH.1 I with rfl|I
   ·exact J _ (bH ..)
   ·exact Zb9 (λq hq=>J q (aI _ hq)) R p I
theorem Zk9(t:Tar) (b0:∀ c∈t.clauses,c.pay.sz<1000000000000/\c.when_.length<1000000000000) (hl:t.clauses.length<1000000000000):PureC E 34 [tarA t] (.int ab .i64 (Z8 t)):=by
  refine Zih (j:=0) rfl (λg u h=>Zie h) λa9=>Za E_ok (Zd E_ok Yk5 400) ?_;rw[Yf3];unfold Yf2 Yf1 Yk6 Yf0;simp only[Yl,Ya,Wu,Wv,Ww,ij,iz,fV,gp,fO,fG,bm,bI,bj,bY,aq,cI,cz,bp,iR,Y2,Yv,ne_eq,and_true,true_and,aP,aN,false_or,or_false,jW,ku,bZ,iU,jc,bB,Ex.eta];unfold Z8
  refine aC (λh1=>?_) (λh1=>aC (λh2=>?_) (λh2=>aC (λh3=>?_) (λh3=>?_)))
  ·rw[jJ (by rw[h1]; simp)]
  ·rw[jJ (by omega)]
  ·rw[jJ (by omega)]
  ·rw[jM ⟨h1,by omega,by omega⟩]
   refine aC (λh4=>?_) (λh4=>?_)
   ·rw[jq (show 64<t.clauses.length by omega)]
    refine⟨λx=>x.k<=t.clauses.length/\(∀ p∈x.m,Byt p.1)/\goC x.a x.b x.m (t.clauses.drop x.k)=goC (resF t.name) ac [] t.clauses/\x.r=t.clauses.length - x.k,⟨⟨0,t.clauses.length,resF t.name,ac,[]⟩,⟨(by dsimp only; omega),by simp,rfl,rfl⟩,⟨rfl,rfl,rfl⟩,rfl⟩,?_⟩;rintro x ⟨hk,hm,I,hr⟩;refine aC (λhq=>⟨by omega,by omega,λc hc=>?_⟩) (λhq=>?_)
    ·have hc:t.clauses[x.k]?=ae c:=hc
     rw[Z4 hc,Zee] at I;have a1:=aL hc;obtain⟨b1,b2⟩:=b0 c a1;have a0:=a9.2 c a1;refine aC (λh5=>?_) (λh5=>⟨by omega,λh6=>?_,λh6=>?_⟩)
     ·rw[← I,jJ (by unfold Wz; rw[h5]; simp)]
     ·rw[← I,jJ (by unfold Wz; rw[h6]; simp)]
     refine⟨λy=>y.k<=c.when_.length/\(c.when_.drop y.k).all Ym=c.when_.all Ym/\y.r=c.when_.length - y.k,⟨⟨0,c.when_.length,[],[],0,0,0,0⟩,⟨(by dsimp only; omega),rfl,rfl⟩,rfl,Zo E_ok _⟩,?_⟩;rintro y ⟨a7,J,a8⟩;refine aC (λa6=>⟨by omega,by omega,λw hw=>?_⟩) (λa6=>?_)
     ·have hw:c.when_[y.k]?=ae w:=hw
      rw[Zvx hw] at J;have hT:Ym w=decide (0<=w.attr/\w.attr<16/\0<=w.low/\w.low<=1099511627776/\0<=w.high/\w.high<=1099511627776):=rfl;refine⟨λb=>b=ac ↔ Ym w=ab,?_,λR=>?_,λR=>?_⟩
      ·have q1:(¬ (0<=w.attr/\w.attr<16/\0<=w.low/\w.low<=1099511627776/\0<=w.high/\w.high<=1099511627776))->((ac=ac) ↔ Ym w=ab):=λh=>by rw[hT,jI h]; simp
       have q2:(0<=w.attr/\w.attr<16/\0<=w.low/\w.low<=1099511627776/\0<=w.high/\w.high<=1099511627776)->((ab=ac) ↔ Ym w=ab):=λh=>by rw[hT,jq h]; simp
       refine aC (λU=>q1 (by omega)) (λU=>aC (λa2=>q1 (by omega)) (λa2=>aC (λa3=>q1 (by omega)) (λa3=>aC (λa4=>q1 (by omega)) (λa4=>q2 (by omega)))))
      ·have R:=R.1 rfl
       rw[R,eP] at J;rw[← I,jJ (by unfold Wz; rw[← J]; simp)]
      ·have R:Ym w=true:=by
         cases hh:Ym w with
         | true=>rfl
         | false=>have:=R.2 hh; simp at this
       rw[R,cz] at J;exact⟨⟨y.k+1,c.when_.length - (y.k+1),[],[],0,0,0,0⟩,⟨(by dsimp only; omega),J,rfl⟩,by show c.when_.length - (y.k+1)+1<=y.r; omega,wr64 (by omega) (by omega),Zo E_ok _⟩
     ·rw[Zae (by omega)] at J
      have a5:Wz c=true:=by unfold Wz; rw[h5,h6,← J]; rfl
      rw[jM a5] at I;clear J a8 a6 a7 a5
      repeat' (first | (refine aC ?_ ?_) | (refine⟨x.m,rfl,hm,?_⟩) | (rintro _ rfl) | (intro h))
      all_goals first
        | omega
        | exact a0
        | (refine⟨⟨x.k+1,t.clauses.length - (x.k+1),_,_,putS x.m c.name ac⟩,⟨(by dsimp only; omega),Zb9 hm a0,?_,rfl⟩,(by dsimp only; omega),⟨rfl,rfl,wr64 (by omega) (by omega)⟩,rfl,Zo E_ok _⟩
           rw[← I];dsimp only
           congr 1
           ·first | (simp only[*,eQ,ec,dG,ew]; done) | (simp only[*,eQ,ec,dG,ew]; rfl)
           ·first | (simp only[*,eQ,ec,dG,ew]; done) | (simp only[*,eQ,ec,dG,ew]; symm; simp only[bm,bI,fO,fG]; omega))
    ·rw[Zae (by omega)] at I
     rw[← I];unfold goC;refine aC (λU=>by rw[jM U]) (λU=>aC (λa2=>by rw[jJ (by rw[U]; simp),jM a2]) (λa2=>by rw[jJ (by rw[U]; simp),jJ (by rw[a2]; simp)]))
   ·rw[jI (show¬ 64<t.clauses.length by omega)]
    refine⟨λx=>x.k<=t.clauses.length/\(∀ p∈x.m,Byt p.1)/\goC x.a x.b x.m (t.clauses.drop x.k)=goC (resF t.name) ab [] t.clauses/\x.r=t.clauses.length - x.k,⟨⟨0,t.clauses.length,resF t.name,ab,[]⟩,⟨(by dsimp only; omega),by simp,rfl,rfl⟩,⟨rfl,rfl,rfl⟩,rfl⟩,?_⟩;rintro x ⟨hk,hm,I,hr⟩;refine aC (λhq=>⟨by omega,by omega,λc hc=>?_⟩) (λhq=>?_)
    ·have hc:t.clauses[x.k]?=ae c:=hc
     rw[Z4 hc,Zee] at I;have a1:=aL hc;obtain⟨b1,b2⟩:=b0 c a1;have a0:=a9.2 c a1;refine aC (λh5=>?_) (λh5=>⟨by omega,λh6=>?_,λh6=>?_⟩)
     ·rw[← I,jJ (by unfold Wz; rw[h5]; simp)]
     ·rw[← I,jJ (by unfold Wz; rw[h6]; simp)]
     refine⟨λy=>y.k<=c.when_.length/\(c.when_.drop y.k).all Ym=c.when_.all Ym/\y.r=c.when_.length - y.k,⟨⟨0,c.when_.length,[],[],0,0,0,0⟩,⟨(by dsimp only; omega),rfl,rfl⟩,rfl,Zo E_ok _⟩,?_⟩;rintro y ⟨a7,J,a8⟩;refine aC (λa6=>⟨by omega,by omega,λw hw=>?_⟩) (λa6=>?_)
     ·have hw:c.when_[y.k]?=ae w:=hw
      rw[Zvx hw] at J;have hT:Ym w=decide (0<=w.attr/\w.attr<16/\0<=w.low/\w.low<=1099511627776/\0<=w.high/\w.high<=1099511627776):=rfl;refine⟨λb=>b=ac ↔ Ym w=ab,?_,λR=>?_,λR=>?_⟩
      ·have q1:(¬ (0<=w.attr/\w.attr<16/\0<=w.low/\w.low<=1099511627776/\0<=w.high/\w.high<=1099511627776))->((ac=ac) ↔ Ym w=ab):=λh=>by rw[hT,jI h]; simp
       have q2:(0<=w.attr/\w.attr<16/\0<=w.low/\w.low<=1099511627776/\0<=w.high/\w.high<=1099511627776)->((ab=ac) ↔ Ym w=ab):=λh=>by rw[hT,jq h]; simp
       refine aC (λU=>q1 (by omega)) (λU=>aC (λa2=>q1 (by omega)) (λa2=>aC (λa3=>q1 (by omega)) (λa3=>aC (λa4=>q1 (by omega)) (λa4=>q2 (by omega)))))
      ·have R:=R.1 rfl
       rw[R,eP] at J;rw[← I,jJ (by unfold Wz; rw[← J]; simp)]
      ·have R:Ym w=true:=by
         cases hh:Ym w with
         | true=>rfl
         | false=>have:=R.2 hh; simp at this
       rw[R,cz] at J;exact⟨⟨y.k+1,c.when_.length - (y.k+1),[],[],0,0,0,0⟩,⟨(by dsimp only; omega),J,rfl⟩,by show c.when_.length - (y.k+1)+1<=y.r; omega,wr64 (by omega) (by omega),Zo E_ok _⟩
     ·rw[Zae (by omega)] at J
      have a5:Wz c=true:=by unfold Wz; rw[h5,h6,← J]; rfl
      rw[jM a5] at I;clear J a8 a6 a7 a5
      repeat' (first | (refine aC ?_ ?_) | (refine⟨x.m,rfl,hm,?_⟩) | (rintro _ rfl) | (intro h))
      all_goals first
        | omega
        | exact a0
        | (refine⟨⟨x.k+1,t.clauses.length - (x.k+1),_,_,putS x.m c.name ac⟩,⟨(by dsimp only; omega),Zb9 hm a0,?_,rfl⟩,(by dsimp only; omega),⟨rfl,rfl,wr64 (by omega) (by omega)⟩,rfl,Zo E_ok _⟩
           rw[← I];dsimp only
           congr 1
           ·first | (simp only[*,eQ,ec,dG,ew]; done) | (simp only[*,eQ,ec,dG,ew]; rfl)
           ·first | (simp only[*,eQ,ec,dG,ew]; done) | (simp only[*,eQ,ec,dG,ew]; symm; simp only[bm,bI,fO,fG]; omega))
    ·rw[Zae (by omega)] at I
     rw[← I];unfold goC;refine aC (λU=>by rw[jM U]) (λU=>aC (λa2=>by rw[jJ (by rw[U]; simp),jM a2]) (λa2=>by rw[jJ (by rw[U]; simp),jJ (by rw[a2]; simp)]))
end
section
open Go
noncomputable def Z67:Sum thy:=sumF E (λ_=>au) 10 (dA1 (dR .tariffs)) (λx=>(∀c∈ar x.1,c.pay.sz<1000000000000/\c.when_.length<1000000000000)/\(ar x.1).length<1000000000000) λx=> .int ab .i64 (Z8 x.1)
theorem Zq5:SumOk E 34 Z67:=Z1x E_ok (Zc (f:=34) rfl) λx h=>Zk9 _ h.1 h.2
end
section
open Go
def boxV(b:Box):SV thy:= .agg (encF ab .boxes b)
def eqB(x y:Box):Prop:=ah x.low 0 0=ah y.low 0 0/\ah x.low 1 0=ah y.low 1 0/\ah x.low 2 0=ah y.low 2 0/\ah x.low 3 0=ah y.low 3 0/\ah x.low 4 0=ah y.low 4 0/\ah x.low 5 0=ah y.low 5 0/\ah x.low 6 0=ah y.low 6 0/\ah x.low 7 0=ah y.low 7 0/\ah x.low 8 0=ah y.low 8 0/\ah x.low 9 0=ah y.low 9 0/\ah x.low 10 0=ah y.low 10 0/\ah x.low 11 0=ah y.low 11 0/\ah x.low 12 0=ah y.low 12 0/\ah x.low 13 0=ah y.low 13 0/\ah x.low 14 0=ah y.low 14 0/\ah x.low 15 0=ah y.low 15 0/\ah x.high 0 0=ah y.high 0 0/\ah x.high 1 0=ah y.high 1 0/\ah x.high 2 0=ah y.high 2 0/\ah x.high 3 0=ah y.high 3 0/\ah x.high 4 0=ah y.high 4 0/\ah x.high 5 0=ah y.high 5 0/\ah x.high 6 0=ah y.high 6 0/\ah x.high 7 0=ah y.high 7 0/\ah x.high 8 0=ah y.high 8 0/\ah x.high 9 0=ah y.high 9 0/\ah x.high 10 0=ah y.high 10 0/\ah x.high 11 0=ah y.high 11 0/\ah x.high 12 0=ah y.high 12 0/\ah x.high 13 0=ah y.high 13 0/\ah x.high 14 0=ah y.high 14 0/\ah x.high 15 0=ah y.high 15 0/\True
theorem Wh(x:Box):eqB x x:=⟨rfl,rfl,rfl,rfl,rfl,rfl,rfl,rfl,rfl,rfl,rfl,rfl,rfl,rfl,rfl,rfl,rfl,rfl,rfl,rfl,rfl,rfl,rfl,rfl,rfl,rfl,rfl,rfl,rfl,rfl,rfl,rfl,jX⟩
def Znp(b c:Box):Box:=⟨(dk 16).map λi=>mm2 ac (b.low.getD i 0) (c.low.getD i 0),(dk 16).map λi=>mm2 ab (b.high.getD i 0) (c.high.getD i 0)⟩
def Ze1(b c:Box):Nat->Nat->Bool
 |0,_=>ac
 |n+1,i=>if mm2 ac (b.low.getD i 0) (c.low.getD i 0)<=mm2 ab (b.high.getD i 0) (c.high.getD i 0) then Ze1 b c n (i+1) else ab
def mtC(b c z:Box) (e:Bool):Nat->Nat->Prop
 |0,_=>eqB (Znp b c) z/\ac=e/\True
 |n+1,i=>(decide (mm2 ac (b.low.getD i 0) (c.low.getD i 0)<=mm2 ab (b.high.getD i 0) (c.high.getD i 0))=ac->mtC b c z e n (i+1))/\(decide (mm2 ac (b.low.getD i 0) (c.low.getD i 0)<=mm2 ab (b.high.getD i 0) (c.high.getD i 0))=ab->eqB (Znp b c) z/\ab=e/\True)
theorem Z6h(b c:Box) (z:Box) (e:Bool):Zk E F0 (vc E F0 400) 88 [boxV b,boxV c] hp0 0 (λr=>ret E (patch hp0 0 r) r.v (.tup [boxV z,.bool ab e]))=mtC b c z e 16 0:=by kernel_rfl
theorem Yem(b c:Box):∀(n i:Nat),mtC b c (Znp b c) (Ze1 b c n i) n i
 |0,_=>⟨Wh _,rfl,jX⟩
 |n+1,i=>by
  unfold mtC Ze1
  refine aC (λh=> ?_) (λh=> ?_)
  ·rw[jM (jk h)];exact Yem b c n (i+1)
  ·rw[jJ (jm h)];exact⟨Wh _,rfl,jX⟩
theorem Z6i(b c:Box):PureC E 88 [boxV b,boxV c] (.tup [boxV (Znp b c),.bool ab (Ze1 b c 16 0)]):=by
 refine Za E_ok (Zd E_ok F0_ok 400) ?_;rw[Z6h];exact Yem b c 16 0
def allB:Box:=⟨aR 16 0,aR 16 9007199254740992⟩
theorem Z6j(z:Box):Zk E F0 (vc E F0 400) 86 [] hp0 0 (λr=>ret E (patch hp0 0 r) r.v (boxV z))=eqB allB z:=by kernel_rfl
theorem Z6k:PureC E 86 [] (boxV allB):=by
 refine Za E_ok (Zd E_ok F0_ok 400) ?_;rw[Z6j];exact Wh _
def cutF(b:Box) (t:Tst):Box:=⟨(dk 16).map λi=>if i=t.attr.toNat then mm2 ac (b.low.getD i 0) t.low else b.low.getD i 0,(dk 16).map λi=>if i=t.attr.toNat then mm2 ab (b.high.getD i 0) t.high else b.high.getD i 0⟩
theorem Ybs(b:Box) (lo hi:Int) (z:Box):∀a:Nat,a<16->Zk E F0 (vc E F0 400) 87 [boxV b,.agg [.int ac .i64 (iF a),.int ab .i64 lo,.int ab .i64 hi]] hp0 0 (λr=>ret E (patch hp0 0 r) r.v (boxV z))=eqB (cutF b ⟨iF a,lo,hi⟩) z
 |0,_=>by kernel_rfl
 |1,_=>by kernel_rfl
 |2,_=>by kernel_rfl
 |3,_=>by kernel_rfl
 |4,_=>by kernel_rfl
 |5,_=>by kernel_rfl
 |6,_=>by kernel_rfl
 |7,_=>by kernel_rfl
 |8,_=>by kernel_rfl
 |9,_=>by kernel_rfl
 |10,_=>by kernel_rfl
 |11,_=>by kernel_rfl
 |12,_=>by kernel_rfl
 |13,_=>by kernel_rfl
 |14,_=>by kernel_rfl
 |15,_=>by kernel_rfl
 |a+16,h=>by omega
theorem Ybt(b:Box) (t:Tst) (h0:0<=t.attr) (J:t.attr<16):PureC E 87 [boxV b,.agg (encF ab .tests t)] (boxV (cutF b t)):=by
 obtain⟨a,ha⟩:=Int.eq_ofNat_of_zero_le h0;have hp:PureC E 87 [boxV b,.agg [.int ac .i64 (iF a),.int ab .i64 t.low,.int ab .i64 t.high]] (boxV (cutF b ⟨iF a,t.low,t.high⟩)):=by
  refine Za E_ok (Zd E_ok F0_ok 400) ?_;rw[Ybs b t.low t.high _ a (by omega)];exact Wh _
 have e:t=⟨iF a,t.low,t.high⟩:=by cases t;simp at ha⊢;exact ha
 rw[e];intro g w a0 hI R;refine hp g w a0 hI ⟨R.1,λj sv u J U=> ?_⟩
 match j,J with
 |0,J=>cases J;exact R.2 0 _ u rfl U
 |1,J=>
  cases J;obtain⟨arr,c,rfl,hs,hc,hd⟩:=Yk (R.2 1 _ u rfl U);refine .agg c hs (λj I=>hc j I) (λj sv I=> ?_)
  match j,I with
  |0,I=>
   cases I;have:=hd 0 _ rfl;generalize c 0=v at this;cases this;exact .int _ _ _
  |1,I=>cases I;exact hd 1 _ rfl
  |2,I=>cases I;exact hd 2 _ rfl
end
section
open Go
noncomputable def Yh1:Sum thy:=Ws (.cons (dR .boxes) (.cons (dR .boxes) .nil)) (λ_=>True) (λx=>(Znp x.1 x.2.1,Ze1 x.1 x.2.1 16 0)) λy=> .tup [boxV y.1,.bool ab y.2]
theorem Zwr:SumOk E 88 Yh1:=Z1 E_ok (Zc (f:=88) rfl) λx _=>Z6i x.1 x.2.1
noncomputable def Scut:Sum thy:=Ws (.cons (dR .boxes) (.cons (dR .tests) .nil)) (λx=>0<=x.2.1.attr/\x.2.1.attr<16) (λx=>cutF x.1 x.2.1) boxV
theorem Yh2:SumOk E 87 Scut:=Z1 E_ok (Zc (f:=87) rfl) λx h=>Ybt x.1 x.2.1 h.1 h.2
noncomputable def Yl6:Sum thy:=Ws (.nil (E:=E)) (λ_=>True) (λ_=>allB) boxV
theorem Ya1:SumOk E 86 Yl6:=Z1 E_ok (Zc (f:=86) rfl) λ_ _=>Z6k
def zB:Box:=⟨aR 16 0,aR 16 0⟩
def mkB(b:Box):Box:=⟨[ah b.low 0 0,ah b.low 1 0,ah b.low 2 0,ah b.low 3 0,ah b.low 4 0,ah b.low 5 0,ah b.low 6 0,ah b.low 7 0,ah b.low 8 0,ah b.low 9 0,ah b.low 10 0,ah b.low 11 0,ah b.low 12 0,ah b.low 13 0,ah b.low 14 0,ah b.low 15 0],[ah b.high 0 0,ah b.high 1 0,ah b.high 2 0,ah b.high 3 0,ah b.high 4 0,ah b.high 5 0,ah b.high 6 0,ah b.high 7 0,ah b.high 8 0,ah b.high 9 0,ah b.high 10 0,ah b.high 11 0,ah b.high 12 0,ah b.high 13 0,ah b.high 14 0,ah b.high 15 0]⟩
structure BxX where
 k:Nat
 r:Nat
 b:Box
def Aof:Fr thy->Hp thy->Nat->Ann thy:=λT h i=>{X:=BxX,fr:=λx=> [(2,T 2),(4,T 4),(11,T 11),(12,T 12),(13,.int ab .i64 x.k)],bl:=λx=>(bOf (T 4),.raw (encF ab .boxes x.b) 0 au)::blkP h (T 2),src:=λ_=> [],md:= [bOf (T 4),bOf (T 2)],ih:=i,M:=i+40,meas:=λx=>x.r}
noncomputable def Fof:Fns thy:=addL (addS (addS (addS F0 88 Yh1) 87 Scut) 86 Yl6) 44 3 Aof E
theorem Yl7:FnsOk E Fof:=Zm E_ok (Zb (Zb (Zb F0_ok Zwr) Yh2) Ya1) _ _ _
abbrev qBT1(I:Cls):=(↑(aa (aT I)):Int)
abbrev qBT2(I:BxX):=(↑(BxX.k I):Int)
theorem Ya2(c:Cls) (z:Box) (e:Bool):Zk E Fof (vc E Fof 400) 44 [.agg (encF ab .clauses c)] hp0 0 (λr=>ret E (patch hp0 0 r) r.v (.tup [boxV z,.bool ab e]))=(
 True/\∀(y:Box),y=allB->∃(R:BxX->Prop),(∃(x:BxX),R x/\ac=ac/\(0=0/\0=0/\(aT c=aT c/\(ab=ac->ab=ac))/\(qBT1 c)=(qBT1 c)/\0=(qBT2 x)/\True)/\(eqB y (BxX.b x))/\(eqB zB zB)/\True)/\∀(x:BxX),R x->(decide ((qBT2 x)<(qBT1 c))=ac->0<=(qBT2 x)/\(qBT2 x)+1<=(qBT1 c)/\∀(I:Tst),(aT c)[af (qBT2 x)]? =ae I->∃(Q:Bool->Prop),((decide (eo I<0)=ac->Q ac)/\(decide (eo I<0)=ab->(decide (eo I>=16)=ac->Q ac)/\(decide (eo I>=16)=ab->Q ab)))/\(Q ac->(eqB zB z)/\ab=e/\True)/\(Q ab->(0<=eo I/\eo I+(1:Int)<=16)/\∀(y:Box),y=cutF (mkB (BxX.b x)) I->∃(J:BxX),R J/\J.2+1<=x.2/\ac=ac/\(0=0/\0=0/\(aT c=aT c/\(ab=ac->ab=ac))/\(qBT1 c)=(qBT1 c)/\wr ag ((qBT2 x)+1)=(qBT2 J)/\True)/\(eqB y (BxX.b J))/\(eqB zB zB)/\True))/\(decide ((qBT2 x)<(qBT1 c))=ab->True/\∀(y:Box×Bool),y=(Znp (mkB (BxX.b x)) (mkB (BxX.b x)),Ze1 (mkB (BxX.b x)) (mkB (BxX.b x)) 16 0)->(aD y=ac->(eqB (ak y) z)/\ac=e/\True)/\(aD y=ab->(eqB zB z)/\ab=e/\True))):=by kernel_rfl
def ofL:List Tst->Box->Option Box
 | [],b=>ae b
 |t::r,b=>if t.attr<0\/16<=t.attr then au else ofL r (cutF b t)
def ofE(o:Option Box):Box×Bool:=o.elim (zB,ab) λb=>if Ze1 b b 16 0=ac then(Znp b b,ac) else(zB,ab)
def ofF(c:Cls):Box×Bool:=ofE (ofL c.when_ allB)
theorem Zqg{α:Type} {l:List α} {q:Nat} {y:α} (h:l[q]? =ae y):l.drop q=y::l.drop (q+1):=by
 have I:=(ai.1 h).1;rw[cy I];congr 1;rw[ao I] at h;exact bd h
theorem Yh3(c:Cls) (hl:c.when_.length<1000000000):PureC E 44 [.agg (encF ab .clauses c)] (.tup [boxV (ofF c).1,.bool ab (ofF c).2]):=by
 refine Za E_ok (Zd E_ok Yl7 400) ?_;rw[Ya2];delta qBT1 qBT2;refine⟨jX,λy hy=>⟨λx=>x.k+x.r=c.when_.length/\mkB x.b=x.b/\ofL (c.when_.drop x.k) x.b=ofL c.when_ allB,⟨⟨0,c.when_.length,allB⟩,⟨bq _,rfl,rfl⟩,rfl,⟨rfl,rfl,⟨rfl,id⟩,rfl,rfl,jX⟩,by rw[hy];exact Wh _,Wh _,jX⟩,?_⟩⟩;rintro x ⟨h1,h2,I⟩;refine aC (λJ=> ?_) (λJ=> ?_)
 ·have J:=jk J
  refine⟨by omega,by omega,λt ht=> ?_⟩;rw[bk] at ht;rw[Zqg ht,ofL] at I;refine⟨λb=>b=ac↔(t.attr<0\/16<=t.attr),⟨λh=>⟨λ_=>Or.inl (jk h),λ_=>rfl⟩,λh=>⟨λR=>⟨λ_=>Or.inr (jk R),λ_=>rfl⟩,λR=>⟨(λe=>by cases e),λe=>by have:=jm h;have:=jm R;omega⟩⟩⟩,λU=> ?_,λU=> ?_⟩
  ·rw[jM (U.1 rfl)] at I
   have e:ofF c=(zB,ab):=by unfold ofF;rw[<-I];rfl
   rw[e];exact⟨Wh _,rfl,jX⟩
  ·have hn:¬(t.attr<0\/16<=t.attr):=λh=>by have:=U.2 h;cases this
   rw[jJ hn] at I;rw[h2];exact⟨by omega,λz hz=>⟨⟨x.k+1,x.r-1,z⟩,⟨by show x.k+1+(x.r-1)=_;omega,by rw[hz];rfl,by rw[hz];exact I⟩,by show x.r-1+1<=x.r;omega,rfl,⟨rfl,rfl,⟨rfl,id⟩,rfl,wr64 (by omega) (by omega),jX⟩,Wh _,Wh _,jX⟩⟩
 ·have J:=jm J
  rw[gH (by omega),ofL] at I;have e:ofF c=if Ze1 x.b x.b 16 0=ac then(Znp x.b x.b,ac) else(zB,ab):=by unfold ofF;rw[<-I];rfl
  rw[h2,e];refine⟨jX,λy hy=> ?_⟩;rw[hy];refine aC (λh=> ?_) (λh=> ?_)
  ·rw[jM h];exact⟨Wh _,rfl,jX⟩
  ·have h:Ze1 x.b x.b 16 0=false:=h
   rw[jJ (by rw[h];simp)];exact⟨Wh _,rfl,jX⟩
noncomputable def SofB:Sum thy:=Ws (.cons (dR .clauses) .nil) (λx=>x.1.when_.length<1000000000) (λx=>ofF x.1) λy=> .tup [boxV y.1,.bool ab y.2]
theorem Yh4:SumOk E 44 SofB:=Z1 E_ok (Zc (f:=44) rfl) λx h=>Yh3 x.1 h
structure OvX where
 k:Nat
 r:Nat
 L:List Box
 M:List Bool
def Ack1:Fr thy->Hp thy->Nat->Ann thy:=λT h i=>{X:=OvX,fr:=λx=> [(1,T 1),(12,T 12),(13,T 13),(14,.int ab .i64 x.k)],bl:=λx=>blkP h (T 1),src:=λ_=> [],md:= [],ih:=i,M:=i+40,meas:=λx=>x.r}
def Aov1:Fr thy->Hp thy->Nat->Ann thy:=λT h i=>{X:=OvX,fr:=λx=> [(4,T 4),(6,T 6),(7,T 7),(23,T 23),(24,T 24),(25,.int ab .i64 x.k)],bl:=λx=>(bOf (T 6),.rows Th.boxes x.L 0)::(bOf (T 7),.rows bM x.M 0)::blkP h (T 4),src:=λ_=> [],md:= [bOf (T 6),bOf (T 7)],ih:=i,M:=i+40,meas:=λx=>x.r}
def Aov2:Fr thy->Hp thy->Nat->Ann thy:=λT h i=>{X:=OvX,fr:=λx=> [(4,T 4),(6,T 6),(7,T 7),(43,T 43),(44,.int ab .i64 x.k)],bl:=λx=>blkS h (T 6)++(blkS h (T 7)++blkP h (T 4)),src:=λ_=> [],md:= [bOf (T 4)],ih:=i,M:=i+60,meas:=λx=>x.r}
def Aov3:Fr thy->Hp thy->Nat->Ann thy:=λT h i=>{X:=OvX,fr:=λx=> [(4,T 4),(6,T 6),(7,T 7),(10,T 10),(43,T 43),(44,T 44),(11,.int ab .i64 x.k)],bl:=λx=>blkS h (T 6)++(blkS h (T 7)++blkP h (T 4)),src:=λ_=> [],md:= [bOf (T 4)],ih:=i,M:=i+40,meas:=λx=>x.r}
noncomputable def Fckb:Fns thy:=addL (addL (addL (addL (addS (addS F0 88 Yh1) 44 SofB) 12 2 Ack1 E) 45 4 Aov1 E) 45 9 Aov2 E) 45 12 Aov3 E
theorem Yh5:FnsOk E Fckb:=Zm E_ok (Zm E_ok (Zm E_ok (Zm E_ok (Zb (Zb F0_ok Zwr) Yh4) _ _ _) _ _ _) _ _ _) _ _ _
abbrev U5(t:Tar):Prop:=
 (0:Nat)=(0:Nat)/\af (↑(aa (ar t)):Int)=af (↑(aa (ar t)):Int)/\af (↑(aa (ar t)):Int)=
 af (↑(aa (ar t)):Int)
abbrev Zjb:Prop:=
 (0:Int)=(0:Int)/\(0:Int)=(0:Int)/\(0:Int)=(0:Int)/\(0:Int)=(0:Int)/\(0:Int)=(0:Int)/\(0:Int)=(0:Int)/\(0:Int)=(0:Int)/\(0:Int)
 =(0:Int)/\(0:Int)=(0:Int)/\(0:Int)=(0:Int)/\(0:Int)=(0:Int)/\(0:Int)=(0:Int)/\(0:Int)=(0:Int)/\(0:Int)=(0:Int)/\(0:Int)=(0:
 Int)/\(0:Int)=(0:Int)/\(0:Int)=(0:Int)/\True
abbrev Zjc(t:Tar):Prop:=
 ar t=ar t/\(ab=ac->ab=ac)
abbrev Z5c(I:Cls):=
 (eF (aK I) (aT I) (bV (aM (ay I)) (bX (ay I)) (bD (ay I)) (bE (ay I)) (bF (ay I)) (bG (ay I))
 (bw (ay I))))
abbrev Zqh(x:OvX) (t:Tar):Prop:=
 (↑(OvX.k x):Int)<(↑(aa (ar t)):Int)
abbrev Z5d(x:OvX) (t:Tar):Prop:=
 (0:Int)<=(↑(OvX.k x):Int)/\(↑(OvX.k x):Int)+(1:Int)<=(↑(af (↑(aa (ar t)):Int)):Int)
abbrev Z5e(I:OvX) (t:Tar):Prop:=
 (0:Int)<=(↑(OvX.k I):Int)/\(↑(OvX.k I):Int)+(1:Int)<=(↑(af (↑(aa (ar t)):Int)):Int)
abbrev Z5f(I:OvX) (t:Tar):Prop:=
 (0:Int)<=(↑(OvX.k I):Int)/\(↑(OvX.k I):Int)+(1:Int)<=(↑(af (↑(aa (ar t)):Int)):Int)
abbrev qBT3(I:Tar):=(↑(aa (ar I)):Int)
abbrev qBT4(I:OvX):=(↑(OvX.k I):Int)
abbrev qBT5:=(0:Nat)
abbrev qBT6(I:Tar):=(↑(af (qBT3 I)):Int)
abbrev qBT7:=(1:Nat)
abbrev qBT8(I:OvX):=(OvX.L I=OvX.L I/\qBT5=qBT5)
abbrev qBT9(I:OvX):=(OvX.M I=OvX.M I/\qBT5=qBT5)
theorem Ya3(t:Tar) (e:Int):Zk E Fckb (vc E Fckb 400) 12 [.agg (encF ab .tariffs t)] hp0 0 (λr=>ret E (patch hp0 0 r) r.v (.int ab .i64 e))=(
 ∃(R:OvX->Prop),(∃(x:OvX),R x/\ac=ac/\(qBT5=qBT5/\(Zjc t)/\(qBT3 t)=(qBT3 t)/\0=(qBT4 x)/\True)/\(ba t=ba t/\aZ t=aZ t/\(Zjc t)/\True)/\True)/\∀(x:OvX),R x->(decide (Zqh x t)=ac->0<=(qBT4 x)/\(qBT4 x)+1<=(qBT3 t)/\∀(I:Cls),(ar t)[af (qBT4 x)]? =ae I->aa (aT I)+qBT7<=1000000000/\∀(y:Box×Bool),y=ofF (Z5c I)->((!aD y)=ac->190=e)/\((!aD y)=ab->∃(J:OvX),R J/\J.2+qBT7<=x.2/\ac=ac/\(qBT5=qBT5/\(Zjc t)/\(qBT3 t)=(qBT3 t)/\wr ag ((qBT4 x)+1)=(qBT4 J)/\True)/\(ba t=ba t/\aZ t=aZ t/\(Zjc t)/\True)/\True))/\(decide (Zqh x t)=ab->0<=(qBT3 t)/\(qBT3 t)<=(qBT3 t)/\(↑256:Int)*(qBT3 t)<=281474976710656/\0<=(qBT3 t)/\(qBT3 t)<=(qBT3 t)/\(↑qBT7:Int)*(qBT3 t)<=281474976710656/\∃(R:OvX->Prop),(∃(x:OvX),R x/\ac=ac/\(qBT5=qBT5/\(U5 t)/\(U5 t)/\(Zjc t)/\(qBT3 t)=(qBT3 t)/\0=(qBT4 x)/\True)/\(aR (af (qBT3 t)) (zB)=OvX.L x/\qBT5=qBT5)/\(aR (af (qBT3 t)) ab=OvX.M x/\qBT5=qBT5)/\(Zjb)/\True)/\∀(x:OvX),R x->(decide (Zqh x t)=ac->0<=(qBT4 x)/\(qBT4 x)+1<=(qBT3 t)/\∀(I:Cls),(ar t)[af (qBT4 x)]? =ae I->aa (aT I)+qBT7<=1000000000/\∀(y:Box×Bool),y=ofF (Z5c I)->(Z5d x t)/\qBT5<=qBT5+af (qBT4 x)/\qBT5+af (qBT4 x)+qBT7<=aa (OvX.L x)/\∀(J:Box),(OvX.L x)[qBT5+af (qBT4 x)]? =ae J->(Z5d x t)/\qBT5<=qBT5+af (qBT4 x)/\qBT5+af (qBT4 x)+qBT7<=aa (OvX.M x)/\∀(U:Bool),(OvX.M x)[qBT5+af (qBT4 x)]? =ae U->∃(a0:OvX),R a0/\a0.2+qBT7<=x.2/\ac=ac/\(qBT5=qBT5/\(U5 t)/\(U5 t)/\(Zjc t)/\(qBT3 t)=(qBT3 t)/\wr ag ((qBT4 x)+1)=(qBT4 a0)/\True)/\(dx (OvX.L x) (qBT5+af (qBT4 x)) (mkB (ak y))=OvX.L a0/\qBT5=qBT5)/\(dx (OvX.M x) (qBT5+af (qBT4 x)) (aD y)=OvX.M a0/\qBT5=qBT5)/\(Zjb)/\True)/\(decide (Zqh x t)=ab->∃(R:OvX->Prop),(∃(I:OvX),R I/\ac=ac/\(qBT5=qBT5/\(U5 t)/\(U5 t)/\(qBT6 t)=(qBT6 t)/\0=(qBT4 I)/\True)/\(qBT8 x)/\(qBT9 x)/\(Zjb)/\True)/\∀(I:OvX),R I->(decide ((qBT4 I)<(qBT6 t))=ac->∃(a2:OvX->Prop),(∃(J:OvX),a2 J/\ac=ac/\(qBT5=qBT5/\(U5 t)/\(U5 t)/\(qBT4 I)=(qBT4 I)/\(qBT6 t)=(qBT6 t)/\(qBT4 I)=(qBT4 I)/\wr ag ((qBT4 I)+1)=(qBT4 J)/\True)/\(qBT8 x)/\(qBT9 x)/\(Zjb)/\True)/\∀(J:OvX),a2 J->(decide ((qBT4 J)<(qBT6 t))=ac->(Z5e I t)/\qBT5+af (qBT4 I)+qBT7<=aa (OvX.L x)/\∀(U:Box),(OvX.L x)[qBT5+af (qBT4 I)]? =ae U->(Z5f J t)/\qBT5+af (qBT4 J)+qBT7<=aa (OvX.L x)/\∀(a0:Box),(OvX.L x)[qBT5+af (qBT4 J)]? =ae a0->True/\∀(y:Box×Bool),y=(Znp (mkB U) (mkB a0),Ze1 (mkB U) (mkB a0) 16 qBT5)->∃(Q:Bool->Prop),((aD y=ac->(Z5e I t)/\qBT5+af (qBT4 I)+qBT7<=aa (OvX.M x)/\∀(a1:Bool),(OvX.M x)[qBT5+af (qBT4 I)]? =ae a1->(a1=ac->(Z5f J t)/\qBT5+af (qBT4 J)+qBT7<=aa (OvX.M x)/\∀(a3:Bool),(OvX.M x)[qBT5+af (qBT4 J)]? =ae a3->Q a3)/\(a1=ab->Q ab))/\(aD y=ab->Q ab))/\(Q ac->190=e)/\(Q ab->∃(a1:OvX),a2 a1/\a1.2+qBT7<=J.2/\ac=ac/\(qBT5=qBT5/\(U5 t)/\(U5 t)/\(qBT4 I)=
(qBT4 I)/\(qBT6 t)=(qBT6 t)/\(qBT4 I)=(qBT4 I)/\wr ag ((qBT4 J)+1)=(qBT4 a1)/\True)/\(qBT8 x)/\(qBT9 x)/\(Zjb)/\True))/\(decide ((qBT4 J)<(qBT6 t))=ab->∃(U:OvX),R U/\U.2+qBT7<=I.2/\ac=ac/\(qBT5=qBT5/\(U5 t)/\(U5 t)/\(qBT6 t)=(qBT6 t)/\wr ag ((qBT4 I)+1)=(qBT4 U)/\True)/\(qBT8 x)/\(qBT9 x)/\(Zjb)/\True))/\(decide ((qBT4 I)<(qBT6 t))=ab->0=e)))):=by kernel_rfl
def ovJ(p:Box×Bool):List (Box×Bool)->Bool
 | []=>ab
 |q::r=>if Ze1 p.1 q.1 16 0=ac/\p.2=ac/\q.2=ac then ac else ovJ p r
def ovL:List (Box×Bool)->Bool
 | []=>ab
 |p::r=>if ovJ p r=ac then ac else ovL r
def chkB(t:Tar):Int:=if(t.clauses.all λc=>(ofF c).2)=ab then 190 else if ovL (t.clauses.map ofF)=ac then 190 else 0
theorem Z5g(c:Cls):mkB (ofF c).1=(ofF c).1:=by
 unfold ofF ofE;cases ofL c.when_ allB with
 |none=>rfl
 |some b=>
  simp only[Option.elim_some];split<;>rfl
theorem Ya4(t:Tar) (hw:∀c∈t.clauses,c.when_.length<1000000000) (hl:t.clauses.length<1000000000):PureC E 12 [.agg (encF ab .tariffs t)] (.int ab .i64 (chkB t)):=by
 refine Za E_ok (Zd E_ok Yh5 400) ?_;rw[Ya3];delta qBT3 qBT4 qBT5 qBT6 qBT7 qBT8 qBT9;unfold Z5f Z5e Z5d Zqh Z5c Zjc Zjb U5
 simp only[Yl,Ya,Wu,Wv,Ww,ij,iz,fV,gp,fO,fG,bm,bI,bj,bY,aq,cI,cz,bp,iR,ne_eq,and_true,true_and,aP,aN,false_or,or_false,jW,ku,bZ,iU,jc,bB,bk,bq,Ex.eta];generalize a3:t.clauses=cs at*
 have hS:chkB t=if(cs.all λc=>(ofF c).2)=ab then 190 else if ovL (cs.map ofF)=ac then 190 else 0:=by unfold chkB;rw[a3]
 rw[hS];clear hS a3;refine⟨λx=>x.k+x.r=cs.length/\∀c∈cs.take x.k,(ofF c).2=ac,⟨⟨0,cs.length,[],[]⟩,⟨bq _,by simp⟩,rfl⟩,?_⟩;rintro x ⟨U,I⟩;refine aC (λhk=>⟨by omega,by omega,λc hc=>⟨by have:=hw c (aL hc);omega,λy R=>aC (λJ=> ?_) (λJ=> ?_)⟩⟩) (λhk=> ?_)
 ·rw[jM]
  refine List.all_eq_false.2 ⟨c,aL hc,?_⟩;have R:y=ofF c:=R;rw[<-R,J];simp
 ·refine⟨⟨x.k+1,x.r-1,[],[]⟩,⟨by show x.k+1+(x.r-1)=_;omega,?_⟩,by show x.r-1+1<=x.r;omega,wr64 (by omega) (by omega)⟩
  intro d hd;rw[show(⟨x.k+1,x.r-1,[],[]⟩:OvX).k=x.k+1 from rfl,List.take_add_one,hc,List.mem_append] at hd;rcases hd with hd|hd
  ·exact I d hd
  ·rw[ct.1 hd]
   have R:y=ofF c:=R;rw[<-R];exact J
 ·rw[List.take_of_length_le (by omega)] at I
  have a1:¬(cs.all λc=>(ofF c).2)=false:=by
   rw[Bool.not_eq_false];exact fL.2 λc hc=>I c hc
  rw[jJ a1];clear hk U I x a1;refine⟨by omega,by omega,by omega,by omega,by omega,by omega,?_⟩;refine⟨λx=>x.k+x.r=cs.length/\x.L.length=cs.length/\x.M.length=cs.length/\∀j,j<x.k->x.L[j]? =(cs[j]?).map (λc=>(ofF c).1)/\x.M[j]? =(cs[j]?).map (λc=>(ofF c).2),⟨⟨0,cs.length,aR cs.length zB,aR cs.length ab⟩,⟨bq _,by simp,by simp,λj hj=>by cases hj⟩,rfl,rfl,rfl⟩,?_⟩;rintro x ⟨U,I,J,h4⟩;refine aC (λhk=>⟨by omega,by omega,λc hc=>⟨by have:=hw c (aL hc);omega,λy R=> ?_⟩⟩) (λhk=> ?_)
  ·have R:y=ofF c:=R
   refine⟨⟨by omega,by omega⟩,aW _,by omega,λ_ _=>⟨⟨by omega,by omega⟩,aW _,by omega,λ_ _=>⟨⟨x.k+1,x.r-1,x.L.set x.k (mkB y.1),x.M.set x.k y.2⟩,⟨by show x.k+1+(x.r-1)=_;omega,by simp[I],by simp[J],?_⟩,by show x.r-1+1<=x.r;omega,wr64 (by omega) (by omega),rfl,rfl⟩⟩⟩;intro j hj;have hj:j<x.k+1:=hj;show(x.L.set x.k (mkB y.1))[j]? =_/\(x.M.set x.k y.2)[j]? =_;rw[jS,jS];by_cases e:x.k=j
   ·subst e
    rw[jM rfl,jM rfl,jM (by omega),jM (by omega),hc,R,Z5g];exact⟨rfl,rfl⟩
   ·rw[jJ e,jJ e]
    exact h4 j (by omega)
  ·have eL:x.L=cs.map λc=>(ofF c).1:=jT λj=>by
    rw[bv];rcases fH j cs.length with h|h
    ·exact(h4 j (by omega)).1
    ·rw[eG (by omega),eG (by omega)];rfl
   have eM:x.M=cs.map λc=>(ofF c).2:=jT λj=>by
    rw[bv];rcases fH j cs.length with h|h
    ·exact(h4 j (by omega)).2
    ·rw[eG (by omega),eG (by omega)];rfl
   rw[eL,eM];clear eL eM U I J h4 hk x;have gL:∀{j:Nat} {b:Box},(cs.map λc=>(ofF c).1)[j]? =ae b->∃c,cs[j]? =ae c/\b=(ofF c).1:=λh=>by
    rw[bv] at h;obtain⟨c,U,I⟩:=br.1 h;exact⟨c,U,I.symm⟩
   have gM:∀{j:Nat} {b:Bool},(cs.map λc=>(ofF c).2)[j]? =ae b->∃c,cs[j]? =ae c/\b=(ofF c).2:=λh=>by
    rw[bv] at h;obtain⟨c,U,I⟩:=br.1 h;exact⟨c,U,I.symm⟩
   have gP:∀{j:Nat} {c:Cls},cs[j]? =ae c->(cs.map ofF).drop j=ofF c::(cs.map ofF).drop (j+1):=λh=>Zqg (by rw[bv,h];rfl);refine⟨λx=>x.k+x.r=cs.length/\ovL ((cs.map ofF).drop x.k)=ovL (cs.map ofF),⟨⟨0,cs.length,[],[]⟩,⟨bq _,rfl⟩,rfl⟩,?_⟩;rintro x ⟨U,I⟩;refine aC (λhk=> ?_) (λhk=> ?_)
   ·obtain⟨ci,a0⟩:∃c,cs[x.k]? =ae c:=⟨_,ao (by omega)⟩
    rw[gP a0,ovL] at I;refine⟨λy=>y.k+y.r=cs.length/\ovJ (ofF ci) ((cs.map ofF).drop y.k)=ovJ (ofF ci) ((cs.map ofF).drop (x.k+1)),⟨⟨x.k+1,x.r-1,[],[]⟩,⟨by show x.k+1+(x.r-1)=_;omega,rfl⟩,wr64 (by omega) (by omega)⟩,?_⟩;rintro y ⟨k1,k2⟩;refine aC (λa9=> ?_) (λa9=> ?_)
    ·refine⟨⟨by omega,by omega⟩,by simp;omega,λb1 a4=>⟨⟨by omega,by omega⟩,by simp;omega,λb2 a5=> ?_⟩⟩
     obtain⟨c1,a6,rfl⟩:=gL a4;obtain⟨c2,a2,rfl⟩:=gL a5;obtain rfl:=bd (a0.symm.trans a6);rw[gP a2,ovJ] at k2;rw[Z5g,Z5g];intro z hz;refine⟨λb=>b=ac↔(Ze1 (ofF ci).1 (ofF c2).1 16 0=ac/\(ofF ci).2=ac/\(ofF c2).2=ac),⟨λJ=>⟨⟨by omega,by omega⟩,by simp;omega,λm1 b0=> ?_⟩,λJ=> ?_⟩,λhq=> ?_,λhq=> ?_⟩
     ·obtain⟨d1,a7,rfl⟩:=gM b0
      obtain rfl:=bd (a0.symm.trans a7);have J:Ze1 (ofF ci).1 (ofF c2).1 16 0=true:=by rw[hz] at J;exact J
      refine aC (λh4=>⟨⟨by omega,by omega⟩,by simp;omega,λm2 b3=> ?_⟩) (λh4=> ?_)
      ·obtain⟨d2,a8,rfl⟩:=gM b3
       obtain rfl:=bd (a2.symm.trans a8);exact⟨λh=>⟨J,h4,h⟩,λh=>h.2.2⟩
      ·exact⟨(λh=>by cases h),λh=>by rw[h4] at h;cases h.2.1⟩
     ·have J:Ze1 (ofF ci).1 (ofF c2).1 16 0=false:=by rw[hz] at J;exact J
      exact⟨(λh=>by cases h),λh=>by rw[J] at h;cases h.1⟩
     ·rw[jM (hq.1 rfl)] at k2
      rw[jM k2.symm] at I;rw[jM I.symm]
     ·rw[jJ (λh=>by have:=hq.2 h;cases this)] at k2
      exact⟨⟨y.k+1,y.r-1,[],[]⟩,⟨by show y.k+1+(y.r-1)=_;omega,k2⟩,by show y.r-1+1<=y.r;omega,wr64 (by omega) (by omega)⟩
    ·rw[gH (by simp;omega),ovJ] at k2
     rw[jJ (by rw[<-k2];simp)] at I;exact⟨⟨x.k+1,x.r-1,[],[]⟩,⟨by show x.k+1+(x.r-1)=_;omega,I⟩,by show x.r-1+1<=x.r;omega,wr64 (by omega) (by omega)⟩
   ·rw[gH (by simp;omega),ovL] at I
    rw[jJ (by rw[<-I];simp)]
end
section
open Go.RowKit
section
variable {Y:Thy} {E:Eng Y}
def one(cs:List (SV Y)):Hp Y:=λb=>match aO b 0 with|true=>ae (.raw cs 0 au)|false=>au
theorem Z3b(cs:List (SV Y)):one cs 0=ae (.raw cs 0 au):=rfl
theorem Zeh{cs:List (SV Y)} {b:Nat} (h:one cs b≠au):b=0:=by
 cases b with
 |zero=>rfl
 |succ b=>exact ka rfl h
theorem U9{cs:List (SV Y)} {b:Nat} {x:Blk Y} (h:one cs b=ae x):b=0/\x= .raw cs 0 none:=by
 have:=Zeh (cs:=cs) (b:=b) (by rw[h];simp);subst this;rw[Z3b] at h;cases h;exact⟨rfl,rfl⟩
theorem Ygd(cs:List (SV Y)):DomLt (one cs) 1:=λb I=>by have:=Zeh I;omega
def σ1(p:Nat×Nat):Pl:=λb=>match aO b 0 with|true=>ae p|false=>au
theorem σ1_some{p q:Nat×Nat} {b:Nat} (h:σ1 p b=ae q):b=0/\q=p:=by
 cases b with
 |zero=>cases h;exact⟨rfl,rfl⟩
 |succ b=>cases h
def mutR(v:SV Y) (cs:List (SV Y)):Res Y:=⟨v,0,[0],at1 0 (ae (.raw cs 0 au)),au⟩
def panR(p:Value):Res Y:=⟨.pan p,0,[0],λ_=>au,au⟩
theorem Zy6(cs cs':List (SV Y)) (v:SV Y):patch (one cs) 1 (mutR v cs')=one cs':=by
 funext b;rw[Zp];cases b with
 |zero=>simp[mutR,at1,one]
 |succ b=>
  rw[jJ (by simp[mutR])];rfl
theorem Zy7(cs:List (SV Y)) (p:Value):patch (one cs) 1 (panR p)=λ_=>none:=by
 funext b;rw[Zp];cases b with
 |zero=>simp[panR]
 |succ b=>
  rw[jJ (by simp[panR])];rfl
def MutC(E:Eng Y) (f:FuncId) (cs rest:List (SV Y)) (v:SV Y) (I:List (SV Y)):Prop:=Vi E f (.ptr 0 0::rest) (one cs) 1 (mutR v I)
def MutP(E:Eng Y) (f:FuncId) (cs rest:List (SV Y)) (p:Value):Prop:=Zs2 E f (.ptr 0 0::rest) (one cs) 1 (panR p)
theorem Zss(hE:EngOk E) {B:Nat} {σ:Pl} {h:Hp Y} {g:GH} {w:World} {b r z:Nat} {cs R:List (SV Y)} {tg:Option Y.Th} (I:Inv E B σ h g w) (hb:h b=ae (.raw cs 0 tg)) (a0:σ b=ae (r,z)) (a4:cs.length=R.length) (hn:nidL 0 R=ac)
 (a3:∀σ g (j:Nat) a1,R[j]? =ae a1->∃sv,cs[j]? =ae sv/\∀u,Den E σ g sv u->Den E σ g a1 u):Inv E B (σ1 (r,z)) (one R) g w:=by
 refine⟨I.gc,I.gm,λx y hx=> ?_,λx x' r z z' h1 U _ _=> ?_,λx r' z' J=> ?_,λx y r' z' o v hx J hv=> ?_,λx y r' z' hx J=> ?_,I.glob⟩
 ·obtain⟨rfl,rfl⟩:=U9 hx
  refine⟨r,z,rfl,?_⟩
  obtain⟨r',z',a2,arr,e,k1,k2,k3,k4,k5⟩:=I.blk b _ hb
  rw[a0] at a2;cases a2
  refine⟨arr,e,k1,k2,?_,λj a1 hj=> ?_,jX⟩
  ·simp only[Blk.cells] at k3⊢;omega
  ·obtain⟨sv,h1,U⟩:=a3 σ g j a1 hj
   obtain⟨v,m1,m2⟩:=k4 j sv h1
   exact⟨v,m1,Zy hE (U v m2) (λb p hb=>by omega) (Zs hn hj)⟩
 ·rw[Zeh h1,Zeh U]
 ·obtain⟨rfl,e⟩:=σ1_some J
  cases e
  exact I.base b _ _ a0
 ·obtain⟨rfl,e⟩:=σ1_some J
  obtain⟨_,rfl⟩:=U9 hx
  cases e
  have U:o<0:=I.fz b (.raw cs 0 tg) _ _ o v hb a0 hv
  omega
 ·obtain⟨rfl,e⟩:=σ1_some J
  cases e
  exact I.fm b _ _ _ hb a0
def rawO:Option (List (SV Y))->Option (Blk Y)
 |some c=>ae (.raw c 0 au)
 |none=>au
theorem Ui(hE:EngOk E) {B:Nat} {σ σ':Pl} {h:Hp Y} {g g':GH} {w w':World} {b i r z:Nat} {cs:List (SV Y)} {fz:Nat} {tg:Option Y.Th} {x':Option (List (SV Y))} (hI:Inv E B σ h g w) (hb:h b=ae (.raw cs fz tg)) (a1:σ b=ae (r,z)) {v v0:SV Y} {h0:Hp Y}
 {a8:Pl} {m0:Nat} (a9:a8 0=ae (r,z)) (U:Stp m0 0 [0] a8 g w σ' g' w') (a0:Inv E B σ' h0 g' w') (a5:∀c,x'=ae c->h0 0=ae (.raw c 0 au)) (hn:∀c,x'=ae c->nidL 0 c=ac):
 Stp i 0 [b] σ g w σ g' w'/\Inv E B σ (patch h i ⟨v,0,[b],at1 b (rawO x'),au⟩) g' w':=by
 have a6:σ' 0=ae (r,z):=U.sig 0 _ a9
 have a7:∀b'∈ [0],∀q I,a8 b'=ae (q,I)->b'=0/\(q,I)=(r,z):=by
  intro b' a2 q I a3
  rw[ct] at a2
  subst a2
  rw[a9] at a3
  exact⟨rfl,(bd a3).symm⟩
 have b0:∀q,q<w.heap.size->q≠r->w'.heap[q]? =w.heap[q]? :=by
  intro q hq b3
  refine U.heap q hq λb' a2 I a3=> ?_
  obtain⟨_,e⟩:=a7 b' a2 q I a3
  cases e
  exact b3 rfl
 have b4:∀x,patch h i ⟨v,0,[b],at1 b (rawO x'),au⟩ x=if x=b then(rawO x') else h x:=by
  intro x
  rw[Zp]
  by_cases e:x=b
  ·subst e
   rw[jM (.inl (by show x∈ [x];simp)),jM rfl]
   show at1 x _ x=_
   unfold at1
   rw[fP]
  ·rw[jJ e,jJ]
   rintro(c|c)
   ·exact e (by simpa using c)
   ·simp at c;omega
 have src:∀x y,patch h i ⟨v,0,[b],at1 b (rawO x'),au⟩ x=ae y->(x=b/\∃c,x'=ae c/\y= .raw c 0 au)\/(x≠b/\h x=ae y):=by
  intro x y hy
  rw[b4] at hy
  split at hy
  ·rename_i e
   cases b1:x' with
   |none=>rw[b1] at hy;cases hy
   |some c=>rw[b1] at hy;cases hy;exact .inl ⟨e,c,rfl,rfl⟩
  ·rename_i e
   exact .inr ⟨e,hy⟩
 have a4:∀x y q I,x≠b->h x=ae y->σ x=ae (q,I)->q<w.heap.size/\q≠r:=by
  intro x y q I hx hy J
  refine⟨(hI.base x q I J).2,?_⟩
  rintro rfl
  exact hx (hI.inj x b _ _ _ (by rw[hy];simp) (by rw[hb];simp) J a1)
 have ne:∀x,patch h i ⟨v,0,[b],at1 b (rawO x'),au⟩ x≠au->h x≠none:=by
  intro x hx
  obtain⟨y,hy⟩:=aY.1 hx
  rcases src x y hy with⟨rfl,_⟩|⟨_,h2⟩
  ·rw[hb];simp
  ·rw[h2];simp
 refine⟨⟨.refl _,λx p hx=> .inl hx,U.gle,λq o v hv=> ?_,U.gmnew,λq hq hx=>b0 q hq λe=>hx b (by simp) z (by rw[a1,e]),U.size,U.os,U.tape,U.output,λx q I R h2=>by rw[R] at h2;cases h2⟩,
  a0.gc,a0.gm,λx y hx=> ?_,λx x' q z1 z2 R h2 h3 h4=>hI.inj x x' q z1 z2 (ne x R) (ne x' h2) h3 h4,λx q I J=>⟨(hI.base x q I J).1,ck (hI.base x q I J).2 U.size⟩,λx y q I o v hx J hv=> ?_,λx y q I hx J=> ?_,a0.glob⟩
 ·rcases U.gcnew q o v hv with R|R|⟨b',R,I,h2⟩
  ·exact .inl R
  ·exact .inr (.inl R)
  ·obtain⟨_,e⟩:=a7 b' R _ _ h2
   cases e
   exact .inr (.inr ⟨b,by simp,z,a1⟩)
 ·rcases src x y hx with⟨rfl,c,hc,rfl⟩|⟨e1,e2⟩
  ·refine⟨r,z,a1,?_⟩
   obtain⟨r2,z2,m1,arr,e,k1,k2,k3,k4,k5⟩:=a0.blk 0 _ (a5 c hc)
   rw[a6] at m1;cases m1
   refine⟨arr,e,k1,k2,k3,λj sv hj=> ?_,jX⟩
   obtain⟨v,m1,m2⟩:=k4 j sv hj
   exact⟨v,m1,Zy hE m2 (λb p hb=>by omega) (Zs (hn c hc) hj)⟩
  ·obtain⟨q,I,m1,m2⟩:=hI.blk x y e2
   obtain⟨m3,m4⟩:=a4 x y q I e1 e2 m1
   exact⟨q,I,m1,m2.mono (.refl _) U.gle (b0 q m3 m4)⟩
 ·rcases src x y hx with⟨rfl,c,hc,rfl⟩|⟨e1,e2⟩
  ·rw[a1] at J;cases J
   exact a0.fz 0 _ _ _ o v (a5 c hc) a6 hv
  ·obtain⟨m3,m4⟩:=a4 x y q I e1 e2 J
   rcases U.gcnew q o v hv with R|R|⟨b',R,z2,h2⟩
   ·exact hI.fz x y q I o v e2 J R
   ·omega
   ·obtain⟨_,e⟩:=a7 b' R _ _ h2
    cases e
    exact ka rfl m4
 ·rcases src x y hx with⟨rfl,c,hc,rfl⟩|⟨e1,e2⟩
  ·rw[a1] at J;cases J
   exact a0.fm 0 _ _ _ (a5 c hc) a6
  ·obtain⟨m3,m4⟩:=a4 x y q I e1 e2 J
   cases b2:g'.obj q with
   |none=>rfl
   |some es=>
    rcases U.gmnew q es b2 with k|k
    ·rw[hI.fm x y q I e2 J] at k;cases k
    ·omega
section
variable {X α β ε:Type}
structure MutI(E:Eng Y) (X α β ε:Type) where
 dS:DcL E X
 dA:DcL E α
 v:β->SV Y
 hv:∀y,nid 0 (v y)=ac
 hS:∀x,nidL 0 (dS.enc x)=ac
 hA:∀a,nidL 0 (dA.enc a)=ac
 pv:ε->Value
def Ud(M:MutI E X α β ε) (f:FuncId) (x:X) (a:α) (out:Except ε (β×X)):Prop:=
 match out with
 | .ok (y,x')=>MutC E f (M.dS.enc x) (M.dA.enc a) (M.v y) (M.dS.enc x')
 | .error e=>MutP E f (M.dS.enc x) (M.dA.enc a) (M.pv e)
def Zlc(b:Nat) (v:SV Y) (cs:List (SV Y)):Res Y:=⟨v,0,[b],at1 b (ae (.raw cs 0 au)),au⟩
def Z3c(b:Nat) (p:Value):Res Y:=⟨.pan p,0,[b],at1 b au,au⟩
def sumM(M:MutI E X α β ε) (pre:X->α->Prop) (f:X->α->Except ε (β×X)):Sum Y:=λargs h _ k=>
 match args with
 | .ptr b 0::rest=>
  (match h b with
  |some (.raw cs 0 _)=>
   (match M.dS.dec cs,M.dA.dec rest with
   |some x,ae a=>pre x a/\(∀y x',f x a= .ok (y,x')->k (Zlc b (M.v y) (M.dS.enc x')))/\(∀e,f x a= .error e->k (Z3c b (M.pv e)))
   |_,_=>False)
  |_=>False)
 |_=>False
theorem Zv2{M:DcL E α} {rest:List (SV Y)} {a:α} (hE:EngOk E) (hr:M.dec rest=ae a) (hn:nidL 0 (M.enc a)=ac) {b r z:Nat} {σ:Pl} {g:GH} {vals:List Value} (a0:σ b=ae (r,z)) (hd:DenL E σ g (.ptr b 0::rest) vals):DenL E (σ1 (r,z)) g (.ptr 0 0::M.enc a) vals:=by
 obtain⟨k1,k2,k3⟩:=M.ok _ _ hr;refine⟨by rw[<-hd.1];simp[k2],λj sv u I J=> ?_⟩;cases j with
 |zero=>
  simp at I;subst I;have:=hd.2 0 _ u rfl J;cases this;rename_i R;rw[a0] at R;cases R;exact .ptr (E:=E) (b:=0) rfl
 |succ j=>
  have I:(M.enc a)[j]? =ae sv:=by simpa using I
  obtain⟨s0,U,h4⟩:=k3 σ g j sv I;exact Zy hE (h4 u (hd.2 (j+1) s0 u (by simpa using U) J)) (λb p hb=>by omega) (Zs hn I)
theorem Wd(R:EngOk E) {f:Nat} (hg:FnGood E.P f) {M:MutI E X α β ε} {pre:X->α->Prop} {fn:X->α->Except ε (β×X)} (hp:∀x a,pre x a->Ud M f x a (fn x a)):SumOk E f (sumM M pre fn):=by
 refine⟨hg,λargs h i k hD J=> ?_⟩;unfold sumM at J;split at J
 case h_2=>exact J.elim
 rename_i b rest;split at J
 case h_2=>exact J.elim
 rename_i cs tg I;split at J
 case h_2=>exact J.elim
 rename_i x a hx ha;obtain⟨a9,a7,a8⟩:=J;have hm:=hp x a a9;obtain⟨c1,c2,c3⟩:=M.dS.ok _ _ hx;have a5:h b≠none:=by rw[I];simp
 unfold Ud at hm;split at hm
 ·rename_i y x' ho
  refine⟨_,a7 y x' ho,λb' a2=>by
   have:b'∈ [b]:=a2;rw[ct] at this
   rw[this];exact a5,.inl ?_⟩
  intro B σ g w a4 hh b0 U hB a6 hd;obtain rfl:hh=h:=funext λb=>b0 b jX;obtain⟨r,z,a0,_⟩:=U.blk b _ I;refine(hm B (σ1 (r,z)) g w a4 _ (λ_ _=>rfl) (Zss R U I a0 c2 (M.hS x) c3) hB (λc h1 h2=>by simp[mutR] at h2;omega) (Zv2 R ha (M.hA a) a0 hd)).mono ?_;rintro en w' ⟨u,he,σ',g',hS,a1,hv⟩;rw[Zy6] at a1;obtain⟨q1,q2⟩:=Ui R (i:=i) (v:=M.v y) (v0:=M.v y) (x':=some (M.dS.enc x')) U I a0 rfl hS a1 (λc hc=>by cases hc;rfl) (λc hc=>by cases hc;exact M.hS x');exact⟨u,he,σ,g',q1,q2,Zy R hv (λb p I=>by omega) (M.hv y)⟩
 ·rename_i e ho
  refine⟨_,a8 e ho,λb' a2=>by
   have:b'∈ [b]:=a2;rw[ct] at this
   rw[this];exact a5,.inr ?_⟩
  obtain⟨p,a3,hm⟩:=hm;have a3:(SV.pan (M.pv e):SV Y)= .pan p:=a3;cases a3;refine⟨_,rfl,λB σ g w a4 U hB a6 hd=> ?_⟩;obtain⟨r,z,a0,_⟩:=U.blk b _ I;refine(hm B (σ1 (r,z)) g w a4 (Zss R U I a0 c2 (M.hS x) c3) hB (λc h1 h2=>by simp[panR] at h2;omega) (Zv2 R ha (M.hA a) a0 hd)).mono ?_;rintro en w' ⟨he,σ',g',hS,a1⟩;obtain⟨q1,q2⟩:=Ui R (i:=i) (v:= .pan (M.pv e)) (v0:= .unk) (x':=none) U I a0 rfl hS a1 (λc hc=>by cases hc) (λc hc=>by cases hc);exact⟨he,σ,g',q1,q2⟩
theorem Yge{B:Nat} {p:Nat×Nat} {h:Hp Y} {g I:GH} {w w':World} {σ':Pl} {n:Nat} {a2:List Nat} (hp:p.1<w.heap.size) (U:Stp 1 n a2 (σ1 p) g w σ' I w') (a0:Inv E B σ' h I w') (h0:h 0≠au):∀b r z,b≠0->h b≠au->σ' b=ae (r,z)->w.heap.size<=r:=by
 intro b r z hb hn hs;have a1:σ1 p b=none:=by
  cases b with
  |zero=>exact ka rfl hb
  |succ b=>rfl
 rcases U.blk b r z a1 hs with J|⟨b',J,z',R⟩
 ·exact J
 ·obtain⟨rfl,e⟩:=σ1_some R
  subst e;have h3:=U.sig 0 _ R;exact ka (a0.inj b 0 r z z' hn h0 hs h3) hb
noncomputable def mutK(M:MutI E X α β ε) (gth:List (SV Y)->Option Y.Th) (n:Nat) (dec:SV Y->Option β) (U:Value->Option ε) (x:X) (out:Except ε (β×X)) (r:Res Y):Prop:=
 match Za8 r.v with
 |some q=>(match U q with|some e=>out= .error e|none=>False)
 |none=>frzK E gth (patch (one (M.dS.enc x)) 1 r) n r.v λv' bs=>
  (match patch (one (M.dS.enc x)) 1 r 0 with
  |some (.raw J 0 _)=>frzL (frzK E gth (patch (one (M.dS.enc x)) 1 r) n) J λR I=>
   (match memB 0 (bs++I),dec v',M.dS.dec R with
   |false,ae y,ae x'=>out= .ok (y,x')
   |_,_,_=>False)
  |_=>False)
theorem CallTri2.panic{f:FuncId} {args:List (SV Y)} {h:Hp Y} {i:Nat} {r:Res Y} {p:Value} (I:CallTri2 E f args h i r) (hp:Za8 r.v=ae p) {B:Nat} {σ:Pl} {g:GH} {w:World} {J:Array Value} (hI:Inv E B σ h g w) (hB:B<=w.heap.size) (a0:∀b,i<=b->b<i+r.n->σ b=au) (hd:DenL E σ g args J.toList):
 Calls E.P f J w λU w'=>U= .panicked [{v:=p,recovered:=false}]/\∃σ' R,Stp i r.n r.mods σ g w σ' R w'/\Inv E B σ' (patch h i r) R w':=by
 have hv:=Zwc hp
 rcases I with I|⟨p',a1,I⟩
 ·refine(I B σ g w J h (λ_ _=>rfl) hI hB a0 hd).mono ?_
  rintro U w' ⟨u,_,σ',R,_,_,hd⟩
  rw[hv] at hd
  cases hd
 ·rw[hv] at a1
  cases a1
  exact I B σ g w J hI hB a0 hd
theorem CallTri2.tri{f:FuncId} {args:List (SV Y)} {h:Hp Y} {i:Nat} {r:Res Y} (I:CallTri2 E f args h i r) (J:Za8 r.v=au):Vi E f args h i r:=by
 rcases I with I|⟨p,R,_⟩
 ·exact I
 ·rw[R] at J;cases J
theorem Yob(R:EngOk E) {σ σ':Pl} {g:GH} {l:List (SV Y)} {vals:List Value} (U:nidL 0 l=ac) (h:DenL E σ g l vals):DenL E σ' g l vals:=
 ⟨h.1,λj sv u I J=>Zy R (h.2 j sv u I J) (λb p hb=>by omega) (Zs U I)⟩
theorem Z9y(U:EngOk E) {l:List (SV Y)} (hn:nidL 0 l=ac) {r z:Nat} {σ:Pl} {g:GH} {vals:List Value} (a0:σ 0=ae (r,z)) (hd:DenL E σ g (.ptr 0 0::l) vals):DenL E (σ1 (r,z)) g (.ptr 0 0::l) vals:=by
 refine⟨hd.1,λj sv u I J=> ?_⟩;cases j with
 |zero=>
  simp at I;subst I;have:=hd.2 0 _ u rfl J;cases this;rename_i R;rw[a0] at R;cases R;exact .ptr (E:=E) (b:=0) rfl
 |succ j=>
  have I:l[j]? =ae sv:=by simpa using I
  exact Zy U (hd.2 (j+1) sv u (by simpa using I) J) (λb p hb=>by omega) (Zs hn I)
theorem Zst(hE:EngOk E) {call:Nat->List (SV Y)->Hp Y->Nat->(Res Y->Prop)->Prop} (c7:Vb E call) {M:MutI E X α β ε} {gth:List (SV Y)->Option Y.Th} {n:Nat} {dec:SV Y->Option β} {b2:Value->Option ε} (c8:∀v y,dec v=ae y->∀σ g u,Den E σ g v u->Den E σ g (M.v y) u) (c9:∀q e,b2 q=ae e->M.pv e=q)
 {f:Nat} {x:X} {a:α} {out:Except ε (β×X)} (hk:call f (.ptr 0 0::M.dA.enc a) (one (M.dS.enc x)) 1 (mutK M gth n dec b2 x out)):Ud M f x a out:=by
 obtain⟨r,hr,hR,a7⟩:=c7 f _ _ _ _ (Ygd _) hk
 have b8:∀b∈r.mods,b=0:=λb hb=>Zeh (hR b hb)
 have b3:∀(p:Nat×Nat) (b:Nat),1<=b->b<1+r.n->σ1 p b=none:=by
  intro p b hb _
  cases b with
  |zero=>omega
  |succ b=>rfl
 have c0:∀(p:Nat×Nat) (g I a5:GH) (w w':World) (σ':Pl),Stp 1 r.n r.mods (σ1 p) g w σ' I w'->I.le a5->(∀q o v,a5.cell q o=ae v->I.cell q o=ae v\/w.heap.size<=q)->(∀q es,a5.obj q=ae es->I.obj q=ae es\/w.heap.size<=q)->Stp 1 0 [0] (σ1 p) g w (σ1 p) a5 w':=by
  intro p g I a5 w w' σ' U a6 hc hm
  refine⟨.refl _,λb q h=> .inl h,U.gle.trans a6,λq o v R=> ?_,λq es R=> ?_,λq hq hx=>U.heap q hq λb hb=>hx b (by rw[b8 b hb];simp),U.size,U.os,U.tape,U.output,λb q z J h2=>by rw[J] at h2;cases h2⟩
  ·rcases hc q o v R with J|J
   ·rcases U.gcnew q o v J with h2|h2|⟨b,h2,h3⟩
    ·exact .inl h2
    ·exact .inr (.inl h2)
    ·exact .inr (.inr ⟨b,by rw[b8 b h2];simp,h3⟩)
   ·exact .inr (.inl J)
  ·rcases hm q es R with J|J
   ·exact U.gmnew q es J
   ·exact .inr J
 have start:∀(B:Nat) (σ:Pl) (g:GH) (w:World) (a2:Array Value),Inv E B σ (one (M.dS.enc x)) g w->DenL E σ g (.ptr 0 0::M.dA.enc a) a2.toList->∃rr zz,σ 0=ae (rr,zz)/\Inv E B (σ1 (rr,zz)) (one (M.dS.enc x)) g w/\DenL E (σ1 (rr,zz)) g (.ptr 0 0::M.dA.enc a) a2.toList:=by
  intro B σ g w a2 hI hd
  obtain⟨rr,zz,a3,_⟩:=hI.blk 0 _ (Z3b _)
  exact⟨rr,zz,a3,Zss hE hI (Z3b _) a3 rfl (M.hS x) (λσ g j e1 hj=>⟨e1,hj,λu h=>h⟩),Z9y hE (M.hA a) a3 hd⟩
 unfold mutK at hr
 split at hr
 ·rename_i q hq
  split at hr
  case h_2=>exact hr.elim
  rename_i e he
  subst hr
  show MutP E f _ _ (M.pv e)
  refine⟨_,rfl,λB σ g w a2 hI hB d5 hd=> ?_⟩
  obtain⟨rr,zz,a3,a1,b0⟩:=start B σ g w a2 hI hd
  refine(a7.panic hq a1 hB (b3 _) b0).mono ?_
  rintro en w' ⟨rfl,σ',I,U,a0⟩
  refine⟨by rw[c9 q e he],?_⟩
  have a9:=c0 _ g I I w w' σ' U (.refl _) (λ_ _ _ h=> .inl h) (λ_ _ h=> .inl h)
  have a8:Inv E B (σ1 (rr,zz)) (λ_=>au) I w':=⟨a0.gc,a0.gm,(λb x hx=>by cases hx),λb b' r z z' J=>ka rfl J,λb r z hs=>⟨(a1.base b r z hs).1,ck (a1.base b r z hs).2 U.size⟩,(λb x r z o v hx=>by cases hx),(λb x r z hx=>by cases hx),a0.glob⟩
  obtain⟨q1,q2⟩:=Ui hE (i:=1) (v:= .pan (M.pv e)) (v0:= .unk) (x':=none) hI (Z3b _) a3 rfl a9 a8 (λc hc=>by cases hc) (λc hc=>by cases hc)
  refine⟨σ,I,q1,?_⟩
  have e2:patch (one (M.dS.enc x)) 1 ⟨.pan (M.pv e),0,[0],at1 0 (rawO au),au⟩=patch (one (M.dS.enc x)) 1 (panR (M.pv e)):=by
   rw[Zy7]
   funext b
   rw[Zp]
   cases b with
   |zero=>simp[at1,rawO]
   |succ b=>
    rw[jJ (by simp)]
    rfl
  rw[<-e2];exact q2
 ·rename_i hq
  have a7:=a7.tri hq
  obtain⟨v',bs,hr,o1⟩:=Zbp hE n r.v _ hr
  split at hr
  case h_2=>exact hr.elim
  rename_i c2 tg h0
  obtain⟨c5,c4,hr,o2⟩:=Uw (Zbp hE n) hr
  split at hr
  case h_2=>exact hr.elim
  rename_i y x' b7 hy e0
  subst hr
  show MutC E f _ _ (M.v y) _
  intro B σ g w a2 hh d7 hI hB d5 hd
  obtain rfl:hh=one (M.dS.enc x):=funext λb=>d7 b jX
  obtain⟨rr,zz,a3,a1,b0⟩:=start B σ g w a2 hI hd
  refine(a7 B _ g w a2 _ (λ_ _=>rfl) a1 hB (b3 _) b0).mono ?_
  rintro en w' ⟨u,rfl,σ',I,U,a0,R⟩
  refine⟨u,rfl,?_⟩
  have b1:σ' 0=ae (rr,zz):=U.sig 0 _ rfl
  have d8:rr<w.heap.size:=(a1.base 0 rr zz rfl).2
  have d4:=Yge d8 U a0 (by rw[h0];simp)
  have a6:=Zdy (n:=w.heap.size) a0
  have b6:Kept E (patch (one (M.dS.enc x)) 1 r) σ' (bs++c4) w' (allG I w.heap.size w'):=by
   intro b hb q z y1 hs a4 j v hj R
   have c6:b≠0:=by
    rintro rfl
    have:=memB_iff.2 hb
    rw[this] at b7;cases b7
   show(if w.heap.size<=q then w'.cell? ⟨q,j,au⟩ else I.cell q j)=ae v
   rw[jM (d4 b q z c6 (by rw[a4];simp) hs)]
   exact R
  have d9:=o1.den _ σ' I w' B u _ (λ_ _=>rfl) a0 a6 (b6.sub λb hb=>eX _ hb) R
  have b4:∀q o v,(allG I w.heap.size w').cell q o=ae v->I.cell q o=ae v\/w.heap.size<=q:=by
   intro q o v R
   have R:(if w.heap.size<=q then w'.cell? ⟨q,o,au⟩ else I.cell q o)=ae v:=R
   split at R
   ·exact .inr (by assumption)
   ·exact .inl R
  have b9:∀q es,(allG I w.heap.size w').obj q=ae es->I.obj q=ae es\/w.heap.size<=q:=by
   intro q es R
   have R:(if w.heap.size<=q then(match w'.heap[q]? with|some (.map es _)=>ae es|_=>au) else I.obj q)=ae es:=R
   split at R
   ·exact .inr (by assumption)
   ·exact .inl R
  have a9:=c0 _ g I _ w w' σ' U a6 b4 b9
  have hG:=Zho (n:=w.heap.size) (B':=B) a0
  obtain⟨c1,e3,c3⟩:=M.dS.ok _ _ e0
  have a8:Inv E B (σ1 (rr,zz)) (one (M.dS.enc x')) (allG I w.heap.size w') w':=by
   refine⟨hG.gc,hG.gm,λb y1 a4=> ?_,λb b' q z z' J h2 _ _=>by rw[Zeh J,Zeh h2],λb q z hs=>⟨(a1.base b q z hs).1,ck (a1.base b q z hs).2 U.size⟩,λb y1 q z o v a4 hs R=> ?_,λb y1 q z a4 hs=> ?_,hG.glob⟩
   ·obtain⟨rfl,rfl⟩:=U9 a4
    refine⟨rr,zz,rfl,?_⟩
    obtain⟨r2,z2,m1,arr,e,k1,k2,k3,k4,k5⟩:=a0.blk 0 _ h0
    rw[b1] at m1;cases m1
    have hl:c5.length=c2.length:=o2.len
    refine⟨arr,e,k1,k2,?_,λj sv hj=> ?_,jX⟩
    ·simp only[Blk.cells] at k3⊢;omega
    ·obtain⟨s1,J,h2⟩:=c3 σ0 (allG I w.heap.size w') j sv hj
     have b5:j<c2.length:=by rw[<-hl];exact(ai.1 J).1
     obtain⟨v,m1,m2⟩:=k4 j _ (ao b5)
     have:=o2.den _ σ' I w' B _ (λ_ _=>rfl) a0 a6 (b6.sub λb hb=>dE _ hb) j _ s1 v (ao b5) J m2
     exact⟨v,m1,(h2 v this).mono (λb p h=>by cases h) (.refl _)⟩
   ·obtain⟨_,e⟩:=σ1_some hs
    obtain⟨rfl,rfl⟩:=U9 a4
    cases e
    rcases b4 _ o v R with J|J
    ·have h2:o<0:=a0.fz 0 (.raw c2 0 tg) _ _ o v h0 b1 J
     omega
    ·omega
   ·obtain⟨_,e⟩:=σ1_some hs
    cases e
    cases d6:(allG I w.heap.size w').obj rr with
    |none=>rfl
    |some es=>
     rcases b9 _ es d6 with J|J
     ·rw[a0.fm 0 _ _ _ h0 b1] at J;cases J
     ·omega
  obtain⟨q1,q2⟩:=Ui hE (i:=1) (v:=M.v y) (v0:= .unk) (x':=some (M.dS.enc x')) hI (Z3b _) a3 rfl a9 a8 (λc hc=>by cases hc;rfl) (λc hc=>by cases hc;exact M.hS x')
  exact⟨σ,_,q1,q2,(c8 v' y hy _ _ u d9).mono (λb p h=>by cases h) (.refl _)⟩
end
end
end
section
open Go
inductive WK where
 |at_
 |ki
 |un
 |ca
def WK.src:WK->List Nat
 | .at_=> [116,121,112,101,32,111,119,110,101,114,32,114,97,105,108,119,97,121,32,115,104,105,112,112,101,114,32,99,108,97,115,115,32,119,101,105,103,104,116,32,107,109,32,109,105,110,117,116,101,115,32,119,111,114,107,105,110,103,32,99,111,100,101,32,119,111,114,116,104,32,99,111,115,116,32,109,111,110,116,104,32,98,101,103,105,110,32,112,97,114,116,115,32,112,97,114,116]
 | .ki=> [104,105,114,101,32,100,101,109,117,114,114,97,103,101,32,102,114,101,105,103,104,116,32,114,101,112,97,105,114,32,108,111,115,115,32,99,108,101,97,110,105,110,103]
 | .un=> [109,111,110,101,121,32,109,105,110,117,116,101,32,107,109,32,107,103]
 | .ca=> [109,105,110,32,109,97,120,32,100,111,119,110,32,117,112,32,104,97,108,102]
def WK.words:WK->List (List Nat)
 | .at_=> [[116,121,112,101],[111,119,110,101,114],[114,97,105,108,119,97,121],[115,104,105,112,112,101,114],[99,108,97,115,115],[119,101,105,103,104,116],[107,109],[109,105,110,117,116,101,115],[119,111,114,107,105,110,103],[99,111,100,101],[119,111,114,116,104],[99,111,115,116],[109,111,110,116,104],[98,101,103,105,110],[112,97,114,116,115],[112,97,114,116]]
 | .ki=> [[104,105,114,101],[100,101,109,117,114,114,97,103,101],[102,114,101,105,103,104,116],[114,101,112,97,105,114],[108,111,115,115],[99,108,101,97,110,105,110,103]]
 | .un=> [[109,111,110,101,121],[109,105,110,117,116,101],[107,109],[107,103]]
 | .ca=> [[109,105,110],[109,97,120],[100,111,119,110],[117,112],[104,97,108,102]]
theorem Zzg:Zk EL F0 (vc EL F0 2000) 36 [.str ac (WK.src .at_)] hp0 0 (λr=>ret EL (patch hp0 0 r) r.v (.psl .strs (WK.words .at_) ab))=(WK.words .at_=WK.words .at_):=by kernel_rfl
theorem Zzh:Zk EL F0 (vc EL F0 2000) 36 [.str ac (WK.src .ki)] hp0 0 (λr=>ret EL (patch hp0 0 r) r.v (.psl .strs (WK.words .ki) ab))=(WK.words .ki=WK.words .ki):=by kernel_rfl
theorem Zzi:Zk EL F0 (vc EL F0 2000) 36 [.str ac (WK.src .un)] hp0 0 (λr=>ret EL (patch hp0 0 r) r.v (.psl .strs (WK.words .un) ab))=(WK.words .un=WK.words .un):=by kernel_rfl
theorem Zzj:Zk EL F0 (vc EL F0 2000) 36 [.str ac (WK.src .ca)] hp0 0 (λr=>ret EL (patch hp0 0 r) r.v (.psl .strs (WK.words .ca) ab))=(WK.words .ca=WK.words .ca):=by kernel_rfl
def wkOf(s:List Nat):Option WK:=
 match eqL s (WK.src .at_) with
 |true=>ae .at_
 |false=>(match eqL s (WK.src .ki) with
  |true=>ae .ki
  |false=>(match eqL s (WK.src .un) with
   |true=>ae .un
   |false=>(match eqL s (WK.src .ca) with|true=>ae .ca|false=>au)))
theorem Zwe{s:List Nat} {k:WK} (h:wkOf s=ae k):s=k.src:=by
 unfold wkOf at h
 repeat' split at h
 all_goals first|(cases h;rename_i e;exact Z3a e)|cases h
theorem Zth(k:WK):PureC E 36 [.str ac k.src] (.psl .strs k.words ab):=by
 cases k
 ·exact Zha (n:=2000) (by rw[Zzg])
 ·exact Zha (n:=2000) (by rw[Zzh])
 ·exact Zha (n:=2000) (by rw[Zzi])
 ·exact Zha (n:=2000) (by rw[Zzj])
def Zpu:List (SV thy)->Option (SV thy)
 | [.str ac s]=>(match wkOf s with|some k=>ae (.psl .strs k.words ab)|none=>au)
 |_=>au
noncomputable def Zm6:Sum thy:=sumO Zpu
theorem Zfz:SumOk E 36 Zm6:=Zsx E_ok (Zc rfl) λargs v h=>by
 unfold Zpu at h;split at h
 ·split at h
  ·rename_i k I
   cases h;rw[Zwe I];exact Zth k
  ·cases h
 ·cases h
def idxS(s:List Nat):Nat->List (List Nat)->Int
 |_,[]=> -1
 |k,x::r=>if s=x then(k:Int) else idxS s (k+1) r
theorem Z3u{s:List Nat} {l:List (List Nat)}:∀{k:Nat} {x:List Nat},l[k]? =ae x->idxS s k (l.drop k)=if s=x then(k:Int) else idxS s (k+1) (l.drop (k+1)):=by
 intro k x h;have I:=(ai.1 h).1;rw[cy I];have:l[k]=x:=(ai.1 h).2;rw[this];rfl
def Aixs:Fr thy->Hp thy->Nat->Ann thy:=λT h i=>{X:=LX,fr:=λx=> [(0,T 0),(1,T 1),(7,T 7),(8,.int ab .i64 x.k)],bl:=λx=> [],src:=λ_=> [],md:= [],ih:=i,M:=i+30,meas:=λx=>x.r}
noncomputable def Fixs:Fns thy:=addL F0 102 2 Aixs E
theorem Z97(l:List (List Nat)) (s:List Nat) (v:Int):Zk E Fixs (vc E Fixs 400) 102 [.psl du l ab,.str ab s] hp0 0 (λr=>ret E (patch hp0 0 r) r.v (.int ab .i64 v))=(
∃(R:LX->Prop),(∃(x:LX),R x/\ac=ac/\((l=l/\(ab=ac->ab=ac))/\s=s/\(↑(aa l):Int)=(↑(aa l):Int)/\0=(↑(LX.k x):Int)/\True)/\True)/\∀(x:LX),R x->(decide ((↑(LX.k x):Int)<(↑(aa l):Int))=ac->0<=(↑(LX.k x):Int)/\(↑(LX.k x):Int)+1<=(↑(aa l):Int)/\∀(I:List Nat),l[af (↑(LX.k x):Int)]? =ae I->((s==I)=ac->(↑(LX.k x):Int)=v)/\((s==I)=ab->∃(J:LX),R J/\J.2+1<=x.2/\ac=ac/\((l=l/\(ab=ac->ab=ac))/\s=s/\(↑(aa l):Int)=(↑(aa l):Int)/\wr ag ((↑(LX.k x):Int)+1)=(↑(LX.k J):Int)/\True)/\True))/\(decide ((↑(LX.k x):Int)<(↑(aa l):Int))=ab->(-1:Int)=v)):=by kernel_rfl
theorem Z98(l:List (List Nat)) (s:List Nat) (hl:l.length<=1000000000):PureC E 102 [.psl du l ab,.str ab s] (.int ab .i64 (idxS s 0 l)):=by
 have R:FnsOk E Fixs:=Zm E_ok F0_ok _ _ _;refine Za E_ok (Zd E_ok R 400) ?_;rw[Z97];simp only[and_true,true_and,fO,fG,ij,fV,ku];refine⟨λx=>x.k<=l.length/\idxS s x.k (l.drop x.k)=idxS s 0 l/\x.r=l.length-x.k,⟨⟨0,l.length,[],0⟩,⟨(by dsimp only;omega),rfl,rfl⟩,rfl⟩,?_⟩;rintro x ⟨hk,I,hr⟩;refine aC (λU=>⟨by omega,by omega,λy J=> ?_⟩) (λU=> ?_)
 ·have J:l[x.k]? =ae y:=J
  rw[Z3u J] at I;refine⟨λe=> ?_,λe=> ?_⟩
  ·rw[jM e] at I;exact I
  ·rw[jJ e] at I
   exact⟨⟨x.k+1,l.length-(x.k+1),[],0⟩,⟨(by dsimp only;omega),I,rfl⟩,by show l.length-(x.k+1)+1<=x.r;omega,wr64 (by omega) (by omega)⟩
 ·rw[bL (by omega)] at I
  exact I
noncomputable def Sixs:Sum thy:=Ws (dA2 (Zfr (E:=E) du:Dc E (List (thy.dom du))) dS) (λx=>x.1.length<=1000000000) (λx=>idxS x.2.1 0 x.1) λy=> .int ab .i64 y
theorem Yg0:SumOk E 102 Sixs:=Z1 E_ok (Zc (f:=102) rfl) λx h=>Z98 x.1 x.2.1 h
end
section
open Go
def Z6z:Dc E Unit where
 dec v:=match v with| .tup []=>ae ()|_=>au
 enc _:= .tup []
 ok v a h:=by
  split at h
  ·exact⟨rfl,rfl,λ_ _ _ h=>h⟩
  ·cases h
def dTup{α:Type} (r:DcL E α):Dc E α where
 dec v:=match v with| .tup cs=>r.dec cs|_=>au
 enc a:= .tup (r.enc a)
 ok v a h:=by
  split at h
  ·obtain⟨k1,k2,k3⟩:=r.ok _ _ h
   refine⟨by simpa[nid] using k1,rfl,λσ g u hd=> ?_⟩
   obtain⟨arr,c,rfl,hs,U,hd⟩:=Znx hd
   refine .tup c (by omega) (λj I=>U j (by omega)) λj a0 I=> ?_
   obtain⟨sv,J,R⟩:=k3 σ g j a0 I
   exact R _ (hd j sv J)
  ·cases h
def dBt:Dc E Bool where
 dec v:=match v with| .bool _ b=>ae b|_=>au
 enc b:= .bool ac b
 ok v a h:=by
  split at h
  ·cases h
   exact⟨rfl,rfl,λσ g u hd=>by cases hd;exact .bool _ _⟩
  ·cases h
abbrev PX:=List Tok×Int×Unit
noncomputable def Ypd:Dc E (List Tok):=(Zfr (E:=E) dm:Dc E (List (thy.dom dm)))
noncomputable def dPX:DcL E PX:=dA2 Ypd dN
def Yb9(e:Int×Int):Value:= .iface 74 (.agg #[.int .i64 e.1,.int .i64 e.2])
def Zw9:Value->Option (Int×Int)
 | .iface t (.agg a)=>(match aO t 74,a.toList with|true,[.int .i64 x,.int .i64 y]=>ae (x,y)|_,_=>au)
 |_=>au
theorem Zq0(q:Value) (e:Int×Int) (h:Zw9 q=ae e):Yb9 e=q:=by
 unfold Zw9 at h;split at h
 ·rename_i t a
  split at h
  ·rename_i x y J I
   cases h;unfold Yb9;obtain rfl:=ax J;have:a= #[iu .i64 x,iu .i64 y]:=by rw[<-Array.toArray_toList (xs:=a),I]
   rw[this]
  ·cases h
 ·cases h
noncomputable def mI{α β:Type} (dA:DcL E α) (hA:∀a,nidL 0 (dA.enc a)=ac) (d:Dc E β) (hv:∀y,nid 0 (d.enc y)=ac):MutI E PX α β (Int×Int) where
 dS:=dPX
 dA:=dA
 v:=d.enc
 hv:=hv
 hS _:=rfl
 hA:=hA
 pv:=Yb9
abbrev PR(I:Type):=Except (Int×Int) (I×PX)
noncomputable def mK{α J:Type} (I:DcL E α) (R:∀a,nidL 0 (I.enc a)=ac) (d:Dc E J) (U:∀y,nid 0 (d.enc y)=ac) (l:List Tok) (e:Int) (out:PR J):Res thy->Prop:=
 mutK (mI I R d U) (λ_=>au) 3 d.dec Zw9 (l,e,()) out
theorem Zar{F:Fns thy} (hF:FnsOk E F) {n:Nat} {α U:Type} {I:DcL E α} {J:∀a,nidL 0 (I.enc a)=ac} {d:Dc E U} {R:∀y,nid 0 (d.enc y)=ac} {f:Nat} {l:List Tok} {e:Int} {a:α} {out:PR U}
 (hk:Zk E F (vc E F n) f (.ptr 0 0::I.enc a) (one [.psl dm l ab,.int ab .i64 e]) 1 (mK I J d R l e out)):Ud (mI I J d R) f (l,e,()) a out:=
 Zst E_ok (Zd E_ok hF n) (λv y h=>(d.ok v y h).2.2) Zq0 (x:=(l,e,())) hk
theorem n1{α:Type} {d:Dc E α} (h:∀y,nid 0 (d.enc y)=ac):∀a:α×Unit,nidL 0 ((dA1 d).enc a)=true:=λa=>by
 show(nid 0 (d.enc a.1)&&ac)=ac;rw[h];rfl
theorem n0:∀a:Unit,nidL 0 ((DcL.nil (E:=E)).enc a)=true:=λ_=>rfl
def dWK:DcL E WK where
 dec vs:=match vs with| [.str ac s]=>wkOf s|_=>au
 enc k:= [.str ac k.src]
 ok vs k h:=by
  split at h
  ·rw[Zwe h]
   exact⟨rfl,rfl,λσ g j J I=>⟨J,I,λ_ h=>h⟩⟩
  ·cases h
theorem Zns:∀k,nidL 0 (dWK.enc k)=true:=λ_=>rfl
theorem Yf{A B:Prop}:(∃Q:Bool->Prop,Q ac/\(Q ac->A)/\(Q ab->B))↔A:=
 ⟨λ⟨_,I,J,_⟩=>J I,λh=>⟨λb=>b=ac,rfl,λ_=>h,λh=>by cases h⟩⟩
theorem Yx{c:Bool} {A B:Prop}:(∃Q:Bool->Prop,((c=ac->Q ac)/\(c=ab->Q ab))/\(Q ac->A)/\(Q ab->B))↔((c=ac->A)/\(c=ab->B)):=by
 constructor
 ·rintro⟨Q,⟨I,J⟩,R,U⟩
  exact⟨λh=>R (I h),λh=>U (J h)⟩
 ·rintro⟨I,J⟩
  exact⟨λb=>c=b,⟨λh=>h,λh=>h⟩,I,J⟩
theorem tz{t:Tok} {l:List Tok}:((((t::l).length:Nat):Int)==0)=false:=by
 rw[fV,aE];omega
theorem tz0:(((([]:List Tok).length:Nat):Int)==0)=true:=rfl
theorem tp{t:Tok} {l:List Tok}:decide ((((t::l).length:Nat):Int)>0)=true:=by
 rw[fO,aE];omega
theorem tp0:decide (((([]:List Tok).length:Nat):Int)>0)=false:=rfl
theorem tl1{t:Tok} {l:List Tok}:(0+1<=(((t::l).length:Nat):Int))=True:=eq_true (by rw[aE];omega)
theorem tl2{t:Tok} {l:List Tok}:(1<=(((t::l).length:Nat):Int))=True:=eq_true (by rw[aE];omega)
theorem tg{t x:Tok} {l:List Tok}:((t::l)[af 0]? =ae x)=(t=x):=by
 rw[eq_iff_iff];simp
theorem td{t:Tok} {l:List Tok}:cx (af 1) (t::l)=l:=rfl
theorem i01:(0<=1)=True:=by simp
def hdT(e:Int):List Tok->Int
 | []=>e
 |t::_=>t.at_
def isW(s:List Nat):List Tok->Bool
 | []=>ab
 |t::_=> !(t.kind==2)&&t.text==s
def pAcc(s:List Nat) (l:List Tok) (e:Int):PR Bool:= .ok (isW s l,if isW s l then l.tail else l,e,())
def Zju(s:List Nat) (l:List Tok) (e:Int):PR Unit:=if isW s l then .ok ((),l.tail,e,()) else .error (hdT e l,160)
def pInt:List Tok->Int->PR Int
 | [],e=> .error (e,160)
 |t::r,e=>if t.kind=2 then .ok (t.n,r,e,()) else .error (t.at_,160)
def chz(ws:List (List Nat)):List Tok->Int
 | []=> -1
 |t::_=>if t.kind=1 then idxS t.text 0 ws else-1
def Z2(ws:List (List Nat)) (l:List Tok) (e:Int):PR (Int×Bool×Unit):=if 0<=chz ws l then .ok ((chz ws l,ac,()),l.tail,e,()) else .ok ((0,ab,()),l,e,())
def Yy(ws:List (List Nat)) (l:List Tok) (e:Int):PR Int:=if 0<=chz ws l then .ok (chz ws l,l.tail,e,()) else .error (hdT e l,160)
def Zav:List Tok->Int->PR (List Nat)
 | [],e=> .error (e,160)
 |t::r,e=>if t.kind=1 then(if t.text∈resW then .error (t.at_,161) else .ok (t.text,r,e,())) else .error (t.at_,160)
theorem Zaw{i:Int}:(decide (i<0)=ac)=¬0<=i:=by rw[fO];exact propext (by omega)
theorem Zax{i:Int}:(decide (i<0)=ab)=(0<=i):=by rw[fG];exact propext (by omega)
theorem Zt6(l:List Tok) (e:Int) (s:List Nat) (out:PR Bool):Zk E F0 (vc E F0 400) 30 [.ptr 0 0,.str ab s] (one [.psl dm l ab,.int ab .i64 e]) 1 (mK (dA1 dS) (n1 λ_=>rfl) dBt (λ_=>rfl) l e out)=(
(((↑(aa l):Int)==0)=ac->out=aX (ab,l,e,()))/\(((↑(aa l):Int)==0)=ab->(0:Int)<=0/\0+1<=(↑(aa l):Int)/\∀(x:Tok),l[af 0]? =ae x->((cC x==2)=ac->out=aX (ab,l,e,()))/\((cC x==2)=ab->(0:Int)<=0/\0+1<=(↑(aa l):Int)/\∀(x:Tok),l[af 0]? =ae x->((!cP x==s)=ac->out=aX (ab,l,e,()))/\((!cP x==s)=ab->((0:Int)<=1/\1<=(↑(aa l):Int))/\out=aX (ac,cx (af 1) l,e,()))))):=by kernel_rfl
theorem Zq1(l:List Tok) (e:Int) (out:PR Int):Zk E F0 (vc E F0 400) 104 [.ptr 0 0] (one [.psl dm l ab,.int ab .i64 e]) 1 (mK .nil n0 dN (λ_=>rfl) l e out)=(
(((↑(aa l):Int)==0)=ac->(decide ((↑(aa l):Int)>0)=ac->(0:Int)<=0/\0+1<=(↑(aa l):Int)/\∀(x:Tok),l[af 0]? =ae x->out=aB (dp x,160))/\(decide ((↑(aa l):Int)>0)=ab->out=aB (e,160)))/\(((↑(aa l):Int)==0)=ab->(0:Int)<=0/\0+1<=(↑(aa l):Int)/\∀(x:Tok),l[af 0]? =ae x->((cC x !=2)=ac->(decide ((↑(aa l):Int)>0)=ac->(0:Int)<=0/\0+1<=(↑(aa l):Int)/\∀(x:Tok),l[af 0]? =ae x->out=aB (dp x,160))/\(decide ((↑(aa l):Int)>0)=ab->out=aB (e,160)))/\((cC x !=2)=ab->(0:Int)<=0/\0+1<=(↑(aa l):Int)/\∀(x:Tok),l[af 0]? =ae x->((0:Int)<=1/\1<=(↑(aa l):Int))/\out=aX (Tok.n x,cx (af 1) l,e,())))):=by kernel_rfl
noncomputable def Fsm:Fns thy:=addS (addS (addS F0 36 Zm6) 102 Sixs) 58 (Ws (dA1 dS) (λ_=>True) (λx=>decide (x.1∈resW)) λy=> .bool ab y)
theorem Z60:FnsOk E Fsm:=Zb (Zb (Zb F0_ok Zfz) Yg0) (Z1 E_ok (Zc (f:=58) rfl) λx _=>Zwf x.1)
noncomputable def dIB:Dc E (Int×Bool×Unit):=dTup (dA2 dN dB)
abbrev qBW2(I:List Tok):=(↑(aa I):Int)
abbrev qBW3:=(0:Int)
abbrev qBW1(I:List Tok) (J:PR Unit):=(decide ((qBW2 I)>qBW3)=ac->qBW3<=qBW3/\qBW3+(1:Int)<=(qBW2 I)/\∀(x:Tok),I[af qBW3]? =ae x->J=aB (dp x,(160:Int)))
abbrev qBW4(I:List Tok) (J:PR Unit) (R:Int):=(decide ((qBW2 I)>qBW3)=ab->J=aB (R,(160:Int)))
theorem Zt7(l:List Tok) (e:Int) (s:List Nat) (out:PR Unit):Zk E F0 (vc E F0 400) 26 [.ptr 0 0,.str ab s] (one [.psl dm l ab,.int ab .i64 e]) 1 (mK (dA1 dS) (n1 λ_=>rfl) Z6z (λ_=>rfl) l e out)=(
 (((qBW2 l)==qBW3)=ac->(qBW1 l out)/\(qBW4 l out e))/\(((qBW2 l)==qBW3)=ab->qBW3<=qBW3/\qBW3+1<=(qBW2 l)/\∀(x:Tok),l[af qBW3]? =ae x->((cC x==2)=ac->(qBW1 l out)/\(qBW4 l out e))/\((cC x==2)=ab->qBW3<=qBW3/\qBW3+1<=(qBW2 l)/\∀(x:Tok),l[af qBW3]? =ae x->((!cP x==s)=ac->(qBW1 l out)/\(qBW4 l out e))/\((!cP x==s)=ab->(qBW3<=1/\1<=(qBW2 l))/\out=aX ((),cx (af 1) l,e,()))))):=by kernel_rfl
abbrev qBW6:=(0:Int)
abbrev qBW5(J:Bool->Prop) (I:List Tok) (R:PR (Int×Bool×Unit)) (d0:Int) (U:Int):=(J ab->(qBW6<=(1:Int)/\(1:Int)<=(↑(aa I):Int))/\R=aX ((d0,ac,()),cx (af (1:Int)) I,U,()))
abbrev qBW7:=(WK.words WK.un)
theorem Z0a(l:List Tok) (e:Int) (out:PR (Int×Bool×Unit)):Zk E Fsm (vc E Fsm 400) 59 [.ptr 0 0,.str ac (WK.src .un)] (one [.psl dm l ab,.int ab .i64 e]) 1 (mK dWK Zns dIB (λ_=>rfl) l e out)=(
 (((↑(aa l):Int)==qBW6)=ac->aa qBW7<=1000000000/\∀(y:Int),y=idxS [] 0 qBW7->∃(Q:Bool->Prop),Q ac/\(Q ac->out=aX ((qBW6,ab,()),l,e,()))/\(qBW5 Q l out y e))/\(((↑(aa l):Int)==qBW6)=ab->qBW6<=qBW6/\qBW6+1<=(↑(aa l):Int)/\∀(x:Tok),l[af qBW6]? =ae x->((cC x !=1)=ac->aa qBW7<=1000000000/\∀(y:Int),y=idxS [] 0 qBW7->∃(Q:Bool->Prop),Q ac/\(Q ac->out=aX ((qBW6,ab,()),l,e,()))/\(qBW5 Q l out y e))/\((cC x !=1)=ab->qBW6<=qBW6/\qBW6+1<=(↑(aa l):Int)/\∀(x:Tok),l[af qBW6]? =ae x->aa qBW7<=1000000000/\∀(y:Int),y=idxS (cP x) 0 qBW7->∃(Q:Bool->Prop),((decide (y<qBW6)=ac->Q ac)/\(decide (y<qBW6)=ab->Q ab))/\(Q ac->out=aX ((qBW6,ab,()),l,e,()))/\(qBW5 Q l out y e)))):=by kernel_rfl
abbrev qBW9:=(0:Int)
abbrev qBW8(J:Bool->Prop) (I:List Tok) (R:PR (Int×Bool×Unit)) (d0:Int) (U:Int):=(J ab->(qBW9<=(1:Int)/\(1:Int)<=(↑(aa I):Int))/\R=aX ((d0,ac,()),cx (af (1:Int)) I,U,()))
abbrev qBWa:=(WK.words WK.ca)
theorem Z0b(l:List Tok) (e:Int) (out:PR (Int×Bool×Unit)):Zk E Fsm (vc E Fsm 400) 59 [.ptr 0 0,.str ac (WK.src .ca)] (one [.psl dm l ab,.int ab .i64 e]) 1 (mK dWK Zns dIB (λ_=>rfl) l e out)=(
 (((↑(aa l):Int)==qBW9)=ac->aa qBWa<=1000000000/\∀(y:Int),y=idxS [] 0 qBWa->∃(Q:Bool->Prop),Q ac/\(Q ac->out=aX ((qBW9,ab,()),l,e,()))/\(qBW8 Q l out y e))/\(((↑(aa l):Int)==qBW9)=ab->qBW9<=qBW9/\qBW9+1<=(↑(aa l):Int)/\∀(x:Tok),l[af qBW9]? =ae x->((cC x !=1)=ac->aa qBWa<=1000000000/\∀(y:Int),y=idxS [] 0 qBWa->∃(Q:Bool->Prop),Q ac/\(Q ac->out=aX ((qBW9,ab,()),l,e,()))/\(qBW8 Q l out y e))/\((cC x !=1)=ab->qBW9<=qBW9/\qBW9+1<=(↑(aa l):Int)/\∀(x:Tok),l[af qBW9]? =ae x->aa qBWa<=1000000000/\∀(y:Int),y=idxS (cP x) 0 qBWa->∃(Q:Bool->Prop),((decide (y<qBW9)=ac->Q ac)/\(decide (y<qBW9)=ab->Q ab))/\(Q ac->out=aX ((qBW9,ab,()),l,e,()))/\(qBW8 Q l out y e)))):=by kernel_rfl
abbrev qBWd(I:List Tok):=(↑(aa I):Int)
abbrev qBWe:=(0:Int)
abbrev qBWb(R:Bool->Prop) (I:List Tok) (J:PR Int) (d0:Int):=(R ac->(decide ((qBWd I)>qBWe)=ac->qBWe<=qBWe/\qBWe+(1:Int)<=(qBWd I)/\∀(x:Tok),I[af qBWe]? =ae x->J=aB (dp x,(160:Int)))/\(decide ((qBWd I)>qBWe)=ab->J=aB (d0,(160:Int))))
abbrev qBWc(J:Bool->Prop) (I:List Tok) (R:PR Int) (d0:Int) (U:Int):=(J ab->(qBWe<=(1:Int)/\(1:Int)<=(qBWd I))/\R=aX (d0,cx (af (1:Int)) I,U,()))
abbrev qBWf:=(WK.words WK.at_)
theorem Zt8(l:List Tok) (e:Int) (out:PR Int):Zk E Fsm (vc E Fsm 400) 28 [.ptr 0 0,.str ac (WK.src .at_)] (one [.psl dm l ab,.int ab .i64 e]) 1 (mK dWK Zns dN (λ_=>rfl) l e out)=(
 (((qBWd l)==qBWe)=ac->aa qBWf<=1000000000/\∀(y:Int),y=idxS [] 0 qBWf->∃(Q:Bool->Prop),Q ac/\(qBWb Q l out e)/\(qBWc Q l out y e))/\(((qBWd l)==qBWe)=ab->qBWe<=qBWe/\qBWe+1<=(qBWd l)/\∀(x:Tok),l[af qBWe]? =ae x->((cC x !=1)=ac->aa qBWf<=1000000000/\∀(y:Int),y=idxS [] 0 qBWf->∃(Q:Bool->Prop),Q ac/\(qBWb Q l out e)/\(qBWc Q l out y e))/\((cC x !=1)=ab->qBWe<=qBWe/\qBWe+1<=(qBWd l)/\∀(x:Tok),l[af qBWe]? =ae x->aa qBWf<=1000000000/\∀(y:Int),y=idxS (cP x) 0 qBWf->∃(Q:Bool->Prop),((decide (y<qBWe)=ac->Q ac)/\(decide (y<qBWe)=ab->Q ab))/\(qBWb Q l out e)/\(qBWc Q l out y e)))):=by kernel_rfl
abbrev qBWj:=(0:Int)
abbrev qBWi(I:List Tok):=(↑(aa I):Int)
abbrev qBWg(R:Bool->Prop) (I:List Tok) (J:PR Int) (d0:Int):=(R ac->(decide ((qBWi I)>qBWj)=ac->qBWj<=qBWj/\qBWj+(1:Int)<=(qBWi I)/\∀(x:Tok),I[af qBWj]? =ae x->J=aB (dp x,(160:Int)))/\(decide ((qBWi I)>qBWj)=ab->J=aB (d0,(160:Int))))
abbrev qBWh(J:Bool->Prop) (I:List Tok) (R:PR Int) (d0:Int) (U:Int):=(J ab->(qBWj<=(1:Int)/\(1:Int)<=(qBWi I))/\R=aX (d0,cx (af (1:Int)) I,U,()))
abbrev qBWk:=(WK.words WK.ki)
theorem Zt9(l:List Tok) (e:Int) (out:PR Int):Zk E Fsm (vc E Fsm 400) 28 [.ptr 0 0,.str ac (WK.src .ki)] (one [.psl dm l ab,.int ab .i64 e]) 1 (mK dWK Zns dN (λ_=>rfl) l e out)=(
 (((qBWi l)==qBWj)=ac->aa qBWk<=1000000000/\∀(y:Int),y=idxS [] 0 qBWk->∃(Q:Bool->Prop),Q ac/\(qBWg Q l out e)/\(qBWh Q l out y e))/\(((qBWi l)==qBWj)=ab->qBWj<=qBWj/\qBWj+1<=(qBWi l)/\∀(x:Tok),l[af qBWj]? =ae x->((cC x !=1)=ac->aa qBWk<=1000000000/\∀(y:Int),y=idxS [] 0 qBWk->∃(Q:Bool->Prop),Q ac/\(qBWg Q l out e)/\(qBWh Q l out y e))/\((cC x !=1)=ab->qBWj<=qBWj/\qBWj+1<=(qBWi l)/\∀(x:Tok),l[af qBWj]? =ae x->aa qBWk<=1000000000/\∀(y:Int),y=idxS (cP x) 0 qBWk->∃(Q:Bool->Prop),((decide (y<qBWj)=ac->Q ac)/\(decide (y<qBWj)=ab->Q ab))/\(qBWg Q l out e)/\(qBWh Q l out y e)))):=by kernel_rfl
abbrev qBWo:=(0:Int)
abbrev qBWn(I:List Tok):=(↑(aa I):Int)
abbrev qBWl(R:Bool->Prop) (I:List Tok) (J:PR Int) (d0:Int):=(R ac->(decide ((qBWn I)>qBWo)=ac->qBWo<=qBWo/\qBWo+(1:Int)<=(qBWn I)/\∀(x:Tok),I[af qBWo]? =ae x->J=aB (dp x,(160:Int)))/\(decide ((qBWn I)>qBWo)=ab->J=aB (d0,(160:Int))))
abbrev qBWm(J:Bool->Prop) (I:List Tok) (R:PR Int) (d0:Int) (U:Int):=(J ab->(qBWo<=(1:Int)/\(1:Int)<=(qBWn I))/\R=aX (d0,cx (af (1:Int)) I,U,()))
abbrev qBWp:=(WK.words WK.un)
theorem Zua(l:List Tok) (e:Int) (out:PR Int):Zk E Fsm (vc E Fsm 400) 28 [.ptr 0 0,.str ac (WK.src .un)] (one [.psl dm l ab,.int ab .i64 e]) 1 (mK dWK Zns dN (λ_=>rfl) l e out)=(
 (((qBWn l)==qBWo)=ac->aa qBWp<=1000000000/\∀(y:Int),y=idxS [] 0 qBWp->∃(Q:Bool->Prop),Q ac/\(qBWl Q l out e)/\(qBWm Q l out y e))/\(((qBWn l)==qBWo)=ab->qBWo<=qBWo/\qBWo+1<=(qBWn l)/\∀(x:Tok),l[af qBWo]? =ae x->((cC x !=1)=ac->aa qBWp<=1000000000/\∀(y:Int),y=idxS [] 0 qBWp->∃(Q:Bool->Prop),Q ac/\(qBWl Q l out e)/\(qBWm Q l out y e))/\((cC x !=1)=ab->qBWo<=qBWo/\qBWo+1<=(qBWn l)/\∀(x:Tok),l[af qBWo]? =ae x->aa qBWp<=1000000000/\∀(y:Int),y=idxS (cP x) 0 qBWp->∃(Q:Bool->Prop),((decide (y<qBWo)=ac->Q ac)/\(decide (y<qBWo)=ab->Q ab))/\(qBWl Q l out e)/\(qBWm Q l out y e)))):=by kernel_rfl
theorem Z61(l:List Tok) (e:Int) (out:PR (List Nat)):Zk E Fsm (vc E Fsm 400) 27 [.ptr 0 0] (one [.psl dm l ab,.int ab .i64 e]) 1 (mK .nil n0 dS (λ_=>rfl) l e out)=(
(((↑(aa l):Int)==0)=ac->(decide ((↑(aa l):Int)>0)=ac->(0:Int)<=0/\0+1<=(↑(aa l):Int)/\∀(x:Tok),l[af 0]? =ae x->out=aB (dp x,160))/\(decide ((↑(aa l):Int)>0)=ab->out=aB (e,160)))/\(((↑(aa l):Int)==0)=ab->(0:Int)<=0/\0+1<=(↑(aa l):Int)/\∀(x:Tok),l[af 0]? =ae x->((cC x !=1)=ac->(decide ((↑(aa l):Int)>0)=ac->(0:Int)<=0/\0+1<=(↑(aa l):Int)/\∀(x:Tok),l[af 0]? =ae x->out=aB (dp x,160))/\(decide ((↑(aa l):Int)>0)=ab->out=aB (e,160)))/\((cC x !=1)=ab->(0:Int)<=0/\0+1<=(↑(aa l):Int)/\∀(x:Tok),l[af 0]? =ae x->True/\∀(y:Bool),y=decide (cP x∈resW)->(y=ac->out=aB (dp x,161))/\(y=ab->((0:Int)<=1/\1<=(↑(aa l):Int))/\out=aX (cP x,cx (af 1) l,e,()))))):=by kernel_rfl
theorem Zlt(l:List Tok) (e:Int) (s:List Nat):Ud (mI (dA1 dS) (n1 λ_=>rfl) dBt (λ_=>rfl)) 30 (l,e,()) (s,()) (pAcc s l e):=by
 refine Zar F0_ok (n:=400) (a:=(s,())) ?_;rw[show(dA1 dS).enc (s,())= [.str ab s] from rfl,Zt6];cases l with
 |nil=>simp only[Yf,Yx,tz,tz0,tp,tp0,tl1,tl2,tg,td,i01,true_and,and_true,forall_eq',kz,aP,aN,reduceCtorEq,jW,kJ,cj,ku,iz,ne_eq,gp,ij,fV,Zaw,Zax];rfl
 |cons t l=>
  simp only[Yf,Yx,tz,tz0,tp,tp0,tl1,tl2,tg,td,i01,true_and,and_true,forall_eq',kz,aP,aN,reduceCtorEq,jW,kJ,cj,ku,iz,ne_eq,gp,ij,fV,Zaw,Zax];unfold pAcc isW;refine⟨λh=>by simp[h],λh=>⟨λI=> ?_,λI=> ?_⟩⟩
  ·simp at I;simp[I]
  ·simp at I;simp[h,I]
theorem Z0c(l:List Tok) (e:Int) (s:List Nat):Ud (mI (dA1 dS) (n1 λ_=>rfl) Z6z (λ_=>rfl)) 26 (l,e,()) (s,()) (Zju s l e):=by
 refine Zar F0_ok (n:=400) (a:=(s,())) ?_;rw[show(dA1 dS).enc (s,())= [.str ab s] from rfl,Zt7];delta qBW2 qBW3 qBW1 qBW4;cases l with
 |nil=>simp only[Yf,Yx,tz,tz0,tp,tp0,tl1,tl2,tg,td,i01,true_and,and_true,forall_eq',kz,aP,aN,reduceCtorEq,jW,kJ,cj,ku,iz,ne_eq,gp,ij,fV,Zaw,Zax];rfl
 |cons t l=>
  simp only[Yf,Yx,tz,tz0,tp,tp0,tl1,tl2,tg,td,i01,true_and,and_true,forall_eq',kz,aP,aN,reduceCtorEq,jW,kJ,cj,ku,iz,ne_eq,gp,ij,fV,Zaw,Zax];unfold Zju isW hdT;refine⟨λh=>by simp[h],λh=>⟨λI=> ?_,λI=> ?_⟩⟩
  ·simp at I;simp[I]
  ·simp at I;simp[h,I]
theorem Zub(l:List Tok) (e:Int):Ud (mI .nil n0 dN (λ_=>rfl)) 104 (l,e,()) () (pInt l e):=by
 refine Zar F0_ok (n:=400) (a:=()) ?_;rw[show(DcL.nil (E:=E)).enc ()= [] from rfl,Zq1];cases l with
 |nil=>simp only[Yf,Yx,tz,tz0,tp,tp0,tl1,tl2,tg,td,i01,true_and,and_true,forall_eq',kz,aP,aN,reduceCtorEq,jW,kJ,cj,ku,iz,ne_eq,gp,ij,fV,Zaw,Zax];rfl
 |cons t l=>
  simp only[Yf,Yx,tz,tz0,tp,tp0,tl1,tl2,tg,td,i01,true_and,and_true,forall_eq',kz,aP,aN,reduceCtorEq,jW,kJ,cj,ku,iz,ne_eq,gp,ij,fV,Zaw,Zax];unfold pInt;exact⟨λh=>by simp[h],λh=>by simp[h]⟩
theorem Yca(l:List Tok) (e:Int):Ud (mI .nil n0 dS (λ_=>rfl)) 27 (l,e,()) () (Zav l e):=by
 refine Zar Z60 (n:=400) (a:=()) ?_;rw[show(DcL.nil (E:=E)).enc ()= [] from rfl,Z61];cases l with
 |nil=>simp only[Yf,Yx,tz,tz0,tp,tp0,tl1,tl2,tg,td,i01,true_and,and_true,forall_eq',kz,aP,aN,reduceCtorEq,jW,kJ,cj,ku,iz,ne_eq,gp,ij,fV,Zaw,Zax];rfl
 |cons t l=>
  simp only[Yf,Yx,tz,tz0,tp,tp0,tl1,tl2,tg,td,i01,true_and,and_true,forall_eq',kz,aP,aN,reduceCtorEq,jW,kJ,cj,ku,iz,ne_eq,gp,ij,fV,Zaw,Zax];unfold Zav;refine⟨λh=>by simp[h],λh=>⟨λI=> ?_,λI=> ?_⟩⟩
  ·simp at I;simp[h,I]
  ·simp at I;simp[h,I]
theorem Z0d(k:WK) (J:k= .un\/k= .ca) (l:List Tok) (e:Int):Ud (mI dWK Zns dIB (λ_=>rfl)) 59 (l,e,()) k (Z2 k.words l e):=by
 refine Zar Z60 (n:=400) (a:=k) ?_;rcases J with rfl|rfl
 ·rw[show dWK.enc .un= [.str ac (WK.src .un)] from rfl,Z0a];delta qBW6 qBW5 qBW7
  cases l with
  |nil=>
   simp only[Yf,Yx,tz,tz0,tp,tp0,tl1,tl2,tg,td,i01,true_and,and_true,forall_eq',kz,aP,aN,reduceCtorEq,jW,kJ,cj,ku,iz,ne_eq,gp,ij,fV]
   try simp only[Zaw,Zax]
   exact⟨by decide,rfl⟩
  |cons t l=>
   simp only[Yf,Yx,tz,tz0,tp,tp0,tl1,tl2,tg,td,i01,true_and,and_true,forall_eq',kz,aP,aN,reduceCtorEq,jW,kJ,cj,ku,iz,ne_eq,gp,ij,fV]
   try simp only[Zaw,Zax]
   unfold Z2 chz;refine⟨λh=>⟨by decide,by simp[h]⟩,λh=>⟨by decide,λI=> ?_,λI=> ?_⟩⟩
   ·simp[h,I]
   ·simp[h,I]
 ·rw[show dWK.enc .ca= [.str ac (WK.src .ca)] from rfl,Z0b];delta qBW9 qBW8 qBWa
  cases l with
  |nil=>
   simp only[Yf,Yx,tz,tz0,tp,tp0,tl1,tl2,tg,td,i01,true_and,and_true,forall_eq',kz,aP,aN,reduceCtorEq,jW,kJ,cj,ku,iz,ne_eq,gp,ij,fV]
   try simp only[Zaw,Zax]
   exact⟨by decide,rfl⟩
  |cons t l=>
   simp only[Yf,Yx,tz,tz0,tp,tp0,tl1,tl2,tg,td,i01,true_and,and_true,forall_eq',kz,aP,aN,reduceCtorEq,jW,kJ,cj,ku,iz,ne_eq,gp,ij,fV]
   try simp only[Zaw,Zax]
   unfold Z2 chz;refine⟨λh=>⟨by decide,by simp[h]⟩,λh=>⟨by decide,λI=> ?_,λI=> ?_⟩⟩
   ·simp[h,I]
   ·simp[h,I]
theorem Ycb(k:WK) (J:k= .at_\/k= .ki\/k= .un) (l:List Tok) (e:Int):Ud (mI dWK Zns dN (λ_=>rfl)) 28 (l,e,()) k (Yy k.words l e):=by
 refine Zar Z60 (n:=400) (a:=k) ?_;rcases J with rfl|rfl|rfl
 ·rw[show dWK.enc .at_= [.str ac (WK.src .at_)] from rfl,Zt8];delta qBWd qBWe qBWb qBWc qBWf
  cases l with
  |nil=>
   simp only[Yf,Yx,tz,tz0,tp,tp0,tl1,tl2,tg,td,i01,true_and,and_true,forall_eq',kz,aP,aN,reduceCtorEq,jW,kJ,cj,ku,iz,ne_eq,gp,ij,fV]
   try simp only[Zaw,Zax]
   exact⟨by decide,rfl⟩
  |cons t l=>
   simp only[Yf,Yx,tz,tz0,tp,tp0,tl1,tl2,tg,td,i01,true_and,and_true,forall_eq',kz,aP,aN,reduceCtorEq,jW,kJ,cj,ku,iz,ne_eq,gp,ij,fV]
   try simp only[Zaw,Zax]
   unfold Yy chz hdT;refine⟨λh=>⟨by decide,by simp[h]⟩,λh=>⟨by decide,λI=> ?_,λI=> ?_⟩⟩
   ·simp[h,I]
   ·simp[h,I]
 ·rw[show dWK.enc .ki= [.str ac (WK.src .ki)] from rfl,Zt9];delta qBWj qBWi qBWg qBWh qBWk
  cases l with
  |nil=>
   simp only[Yf,Yx,tz,tz0,tp,tp0,tl1,tl2,tg,td,i01,true_and,and_true,forall_eq',kz,aP,aN,reduceCtorEq,jW,kJ,cj,ku,iz,ne_eq,gp,ij,fV]
   try simp only[Zaw,Zax]
   exact⟨by decide,rfl⟩
  |cons t l=>
   simp only[Yf,Yx,tz,tz0,tp,tp0,tl1,tl2,tg,td,i01,true_and,and_true,forall_eq',kz,aP,aN,reduceCtorEq,jW,kJ,cj,ku,iz,ne_eq,gp,ij,fV]
   try simp only[Zaw,Zax]
   unfold Yy chz hdT;refine⟨λh=>⟨by decide,by simp[h]⟩,λh=>⟨by decide,λI=> ?_,λI=> ?_⟩⟩
   ·simp[h,I]
   ·simp[h,I]
 ·rw[show dWK.enc .un= [.str ac (WK.src .un)] from rfl,Zua];delta qBWo qBWn qBWl qBWm qBWp
  cases l with
  |nil=>
   simp only[Yf,Yx,tz,tz0,tp,tp0,tl1,tl2,tg,td,i01,true_and,and_true,forall_eq',kz,aP,aN,reduceCtorEq,jW,kJ,cj,ku,iz,ne_eq,gp,ij,fV]
   try simp only[Zaw,Zax]
   exact⟨by decide,rfl⟩
  |cons t l=>
   simp only[Yf,Yx,tz,tz0,tp,tp0,tl1,tl2,tg,td,i01,true_and,and_true,forall_eq',kz,aP,aN,reduceCtorEq,jW,kJ,cj,ku,iz,ne_eq,gp,ij,fV]
   try simp only[Zaw,Zax]
   unfold Yy chz hdT;refine⟨λh=>⟨by decide,by simp[h]⟩,λh=>⟨by decide,λI=> ?_,λI=> ?_⟩⟩
   ·simp[h,I]
   ·simp[h,I]
end
section
open Go
noncomputable def Yf4:Sum thy:=λargs h _ k=>
 match args with
 | [.ptr b 0,.str _ s]=>
  (match h b with
  |some (.raw cs 0 _)=>(match dPX.dec cs with
   |some x=>(isW s x.1=ac->k (Zlc b (.bool ac ac) (dPX.enc (x.1.tail,x.2))))/\(isW s x.1=ab->k (Zlc b (.bool ac ab) (dPX.enc x)))
   |none=>False)
  |_=>False)
 |_=>False
noncomputable def Sexp:Sum thy:=λargs h _ k=>
 match args with
 | [.ptr b 0,.str _ s]=>
  (match h b with
  |some (.raw cs 0 _)=>(match dPX.dec cs with
   |some x=>(isW s x.1=ac->k (Zlc b (.tup []) (dPX.enc (x.1.tail,x.2))))/\(isW s x.1=ab->k (Z3c b (Yb9 (hdT x.2.1 x.1,160))))
   |none=>False)
  |_=>False)
 |_=>False
theorem SaccB_ok:SumOk E 30 Yf4:=by
 refine⟨Zc rfl,λargs h i k hD I=> ?_⟩;unfold Yf4 at I;split at I
 case h_2=>exact I.elim
 rename_i b f s;split at I
 case h_2=>exact I.elim
 rename_i cs tg hb;split at I
 case h_2=>exact I.elim
 rename_i x hx;obtain⟨l,e,_⟩:=x;refine(Wd E_ok (Zc rfl) (M:=mI (dA1 dS) (n1 λ_=>rfl) dBt (λ_=>rfl)) (pre:=λ_ _=>True) (fn:=λx a=>pAcc a.1 x.1 x.2.1) λx a _=>Zlt x.1 x.2.1 a.1).ok [.ptr b 0,.str f s] h i k hD ?_;simp only[sumM,hb];rw[show(mI (dA1 dS) (n1 λ_=>rfl) dBt (λ_=>rfl)).dS.dec cs=ae (l,e,()) from hx,show(mI (dA1 dS) (n1 λ_=>rfl) dBt (λ_=>rfl)).dA.dec [.str f s]=ae (s,()) from rfl];refine⟨jX,λy x' J=> ?_,λe J=>by cases J⟩;unfold pAcc at J;injection J with J
 injection J with U e2
 subst U;subst e2;cases R:isW s l with
 |true=>exact I.1 R
 |false=>exact I.2 R
theorem Yf5:SumOk E 26 Sexp:=by
 refine⟨Zc rfl,λargs h i k hD J=> ?_⟩;unfold Sexp at J;split at J
 case h_2=>exact J.elim
 rename_i b f s;split at J
 case h_2=>exact J.elim
 rename_i cs tg hb;split at J
 case h_2=>exact J.elim
 rename_i x hx;obtain⟨l,e,_⟩:=x;refine(Wd E_ok (Zc rfl) (M:=mI (dA1 dS) (n1 λ_=>rfl) Z6z (λ_=>rfl)) (pre:=λ_ _=>True) (fn:=λx a=>Zju a.1 x.1 x.2.1) λx a _=>Z0c x.1 x.2.1 a.1).ok [.ptr b 0,.str f s] h i k hD ?_;simp only[sumM,hb];rw[show(mI (dA1 dS) (n1 λ_=>rfl) Z6z (λ_=>rfl)).dS.dec cs=ae (l,e,()) from hx,show(mI (dA1 dS) (n1 λ_=>rfl) Z6z (λ_=>rfl)).dA.dec [.str f s]=ae (s,()) from rfl];refine⟨jX,λy x' I=> ?_,λe I=> ?_⟩
 ·unfold Zju at I
  split at I
  ·rename_i R
   injection I with I
   injection I with U e2
   subst U;subst e2;exact J.1 R
  ·cases I
 ·unfold Zju at I
  split at I
  ·cases I
  ·rename_i R
   injection I with I
   subst I;exact J.2 (by simpa using R)
def Zif:List Nat:= [119,104,101,110]
def sAnd:List Nat:= [97,110,100]
theorem Z24{f:FuncId} {cs rest cs':List (SV thy)} {v I:SV thy} (h:MutC E f cs rest v cs') (hv:∀σ g u,Den E σ g v u->Den E σ g I u):MutC E f cs rest I cs':=λB σ g w a0 hh a b c d e=>
 (h B σ g w a0 hh a b c d e).mono λen w' ⟨u,U,σ',R,s,i,J⟩=>⟨u,U,σ',R,s,i,hv _ _ _ J⟩
theorem Zsm(l:List Tok) (e:Int) (s:List Nat):Ud (mI (dA1 dS) (n1 λ_=>rfl) dB (λ_=>rfl)) 30 (l,e,()) (s,()) (pAcc s l e):=
 Z24 (Zlt l e s) λσ g u hd=>by cases hd;exact .bool _ _
noncomputable def Sacc:Sum thy:=λargs h i k=>
 match args with
 | [.ptr b 0,.str f s]=>
  (match eqL s Zif||eqL s sAnd with
  |true=>sumM (mI (dA1 dS) (n1 λ_=>rfl) dB (λ_=>rfl)) (λ_ _=>True) (λx a=>pAcc a.1 x.1 x.2.1) [.ptr b 0,.str f s] h i k
  |false=>Yf4 [.ptr b 0,.str f s] h i k)
 |_=>False
theorem Yf6:SumOk E 30 Sacc:=by
 refine⟨Zc rfl,λargs h i k J I=> ?_⟩;unfold Sacc at I;split at I
 ·split at I
  ·exact(Wd E_ok (Zc rfl) λx a _=>Zsm x.1 x.2.1 a.1).ok _ h i k J I
  ·exact SaccB_ok.ok _ h i k J I
 ·exact I.elim
def Yf7(l:List Tok) (e:Int):PR Int:= .ok (hdT e l,l,e,())
theorem Z25(l:List Tok) (e:Int) (out:PR Int):Zk E F0 (vc E F0 400) 29 [.ptr 0 0] (one [.psl dm l ab,.int ab .i64 e]) 1 (mK .nil n0 dN (λ_=>rfl) l e out)=(
(decide ((↑(aa l):Int)>0)=ac->(0:Int)<=0/\0+1<=(↑(aa l):Int)/\∀(x:Tok),l[af 0]? =ae x->out=aX (dp x,l,e,()))/\(decide ((↑(aa l):Int)>0)=ab->out=aX (e,l,e,()))):=by kernel_rfl
theorem Z9m(l:List Tok) (e:Int):Ud (mI .nil n0 dN (λ_=>rfl)) 29 (l,e,()) () (Yf7 l e):=by
 refine Zar F0_ok (n:=400) (a:=()) ?_;rw[show(DcL.nil (E:=E)).enc ()= [] from rfl,Z25];cases l with
 |nil=>exact⟨λh=>ka h (by decide),λ_=>rfl⟩
 |cons t l=>exact⟨λ_=>⟨cj 0,by rw[aE];omega,λx I=>by rw[tg] at I;subst I;rfl⟩,λh=>by rw[tp] at h;cases h⟩
noncomputable def Z9n:Sum thy:=λargs h _ k=>
 match args with
 | [.ptr b 0]=>
  (match h b with
  |some (.raw cs 0 _)=>(match dPX.dec cs with
   |some x=>∀y,y=hdT x.2.1 x.1->k (Zlc b (.int ab .i64 y) (dPX.enc x))
   |none=>False)
  |_=>False)
 |_=>False
theorem Zvy:SumOk E 29 Z9n:=by
 refine⟨Zc rfl,λargs h i k hD I=> ?_⟩;unfold Z9n at I;split at I
 case h_2=>exact I.elim
 rename_i b;split at I
 case h_2=>exact I.elim
 rename_i cs tg hb;split at I
 case h_2=>exact I.elim
 rename_i x hx;obtain⟨l,e,_⟩:=x;refine(Wd E_ok (Zc rfl) (M:=mI .nil n0 dN (λ_=>rfl)) (pre:=λ_ _=>True) (fn:=λx a=>Yf7 x.1 x.2.1) λx a _=>Z9m x.1 x.2.1).ok [.ptr b 0] h i k hD ?_;simp only[sumM,hb];rw[show(mI .nil n0 dN (λ_=>rfl)).dS.dec cs=ae (l,e,()) from hx,show(mI .nil n0 dN (λ_=>rfl)).dA.dec []=ae () from rfl];refine⟨jX,λy x' J=> ?_,λe J=>by cases J⟩;unfold Yf7 at J;injection J with J
 injection J with R U
 subst R;subst U;exact I _ rfl
noncomputable def Scho:Sum thy:=sumM (mI dWK Zns dIB (λ_=>rfl)) (λ_ k=>k= .un\/k= .ca) λx k=>Z2 k.words x.1 x.2.1
theorem Yf8:SumOk E 59 Scho:=Wd E_ok (Zc rfl) λx k h=>Z0d k h x.1 x.2.1
noncomputable def Yk7:Sum thy:=sumM (mI dWK Zns dN (λ_=>rfl)) (λ_ k=>k= .at_\/k= .ki\/k= .un) λx k=>Yy k.words x.1 x.2.1
theorem Z9o:SumOk E 28 Yk7:=Wd E_ok (Zc rfl) λx k h=>Ycb k h x.1 x.2.1
noncomputable def Sint:Sum thy:=sumM (mI .nil n0 dN (λ_=>rfl)) (λ_ _=>True) λx _=>pInt x.1 x.2.1
theorem Yf9:SumOk E 104 Sint:=Wd E_ok (Zc rfl) λx _ _=>Zub x.1 x.2.1
noncomputable def Yk8:Sum thy:=sumM (mI .nil n0 dS (λ_=>rfl)) (λ_ _=>True) λx _=>Zav x.1 x.2.1
theorem Z9p:SumOk E 27 Yk8:=Wd E_ok (Zc rfl) λx _ _=>Yca x.1 x.2.1
noncomputable def Fme:Fns thy:=addS (addS (addS (addS (addS (addS F0 30 Sacc) 26 Sexp) 59 Scho) 28 Yk7) 104 Sint) 27 Yk8
theorem Zig:FnsOk E Fme:=Zb (Zb (Zb (Zb (Zb (Zb F0_ok Yf6) Yf5) Yf8) Z9o) Yf9) Z9p
theorem Z26{s:List Nat}:∀{l:List (List Nat)} {k:Nat},idxS s k l<k+l.length
 | [],k=>by unfold idxS;simp;omega
 |x::l,k=>by
  unfold idxS
  split
  ·simp;omega
  ·have:=Z26 (s:=s) (l:=l) (k:=k+1)
   simp at this⊢;omega
theorem Zvz{ws:List (List Nat)} {l:List Tok} (h:0<ws.length):chz ws l<ws.length:=by
 unfold chz;split
 ·omega
 ·split
  ·rename_i t r _
   have:=Z26 (s:=t.text) (l:=ws) (k:=0)
   simpa using this
  ·omega
theorem X3{ws:List (List Nat)} {l:List Tok} {e:Int} {y:Int×Bool×Unit} {x':PX} (h:Z2 ws l e= .ok (y,x')):(0<=chz ws l/\y=(chz ws l,ac,())/\x'=(l.tail,e,()))\/(¬0<=chz ws l/\y=(0,ab,())/\x'=(l,e,())):=by
 unfold Z2 at h;split at h
 ·injection h with h
  injection h with I J
  exact .inl ⟨by assumption,I.symm,J.symm⟩
 ·injection h with h
  injection h with I J
  exact .inr ⟨by assumption,I.symm,J.symm⟩
theorem Zsn{ws:List (List Nat)} {l:List Tok} {e:Int} {I:Int×Int} (h:Z2 ws l e= .error I):False:=by
 unfold Z2 at h;split at h<;>cases h
theorem U8{ws:List (List Nat)} {l:List Tok} {e:Int} {y:Int} {x':PX} (h:Yy ws l e= .ok (y,x')):0<=chz ws l/\y=chz ws l/\x'=(l.tail,e,()):=by
 unfold Yy at h;split at h
 ·injection h with h
  injection h with I J
  exact⟨by assumption,I.symm,J.symm⟩
 ·cases h
def incD(d:List Int) (i:Int):List Int:=d.set i.toNat (d.getD i.toNat 0+1)
def decD(d:List Int) (i:Int):List Int:=d.set i.toNat (d.getD i.toNat 0-1)
def sPer:List Nat:= [112,101,114]
def Wc(l:List Tok) (e:Int):PR (List Int):=
 match Z2 WK.un.words l e with
 | .error I=> .error I
 | .ok (y,x)=>
  if isW sPer x.1 then
   match Yy WK.un.words x.1.tail x.2.1 with
   | .error I=> .error I
   | .ok (j,J)=> .ok (decD (if y.2.1 then incD [0,0,0,0] y.1 else[0,0,0,0]) j,J)
  else .ok (if y.2.1 then incD [0,0,0,0] y.1 else[0,0,0,0],x)
def sIs:List Nat:= [105,115]
def sIn:List Nat:= [105,110]
def Zef:List Nat:= [46,46]
def Uc(n:Int) (l:List Tok) (e:Int):PR Tst:=
 match Yy WK.at_.words l e with
 | .error I=> .error I
 | .ok (a,x)=>
  if n=8 then .error (hdT e l,2)
  else if isW sIs x.1 then
   match pInt x.1.tail x.2.1 with
   | .error I=> .error I
   | .ok (m,J)=> .ok (⟨a,m,m⟩,J)
  else if isW sIn x.1 then
   match pInt x.1.tail x.2.1 with
   | .error I=> .error I
   | .ok (m,J)=>
    if isW Zef J.1 then
     match pInt J.1.tail J.2.1 with
     | .error I=> .error I
     | .ok (k,R)=> .ok (⟨a,m,k⟩,R)
    else .error (hdT J.2.1 J.1,160)
  else .error (hdT x.2.1 x.1,160)
noncomputable def dDm:Dc E (List Int):=dR .dims
noncomputable def dTs:Dc E Tst:=dR .tests
abbrev qBX3:=(0:Int)
abbrev qBX1(I:Int×Bool×Unit) (J:Int):=(dx [qBX3,qBX3,qBX3,qBX3] (af (ak I)) (wr ag (J+(1:Int))))
abbrev qBX2(I:Int) (J:Int):=(dx [qBX3,qBX3,qBX3,qBX3] (af I) (wr ag (J-(1:Int))))
abbrev qBX4(I:Int×Bool×Unit) (J:Int) (R:Int) (d0:Int):=(dx (qBX1 I J) (af R) (wr ag (d0-(1:Int))))
abbrev qBX5:=(4:Nat)
abbrev qBX6(I:Int):=(qBX3<=I/\I+(1:Int)<=(↑qBX5:Int))
abbrev qBX7:=(WK.words WK.un)
abbrev qBX8:=(WK.un=WK.at_\/WK.un=WK.ki\/WK.un=WK.un)
theorem Z27(l:List Tok) (e:Int) (out:PR (List Int)):Zk E Fme (vc E Fme 400) 130 [.ptr 0 0] (one [.psl dm l ab,.int ab .i64 e]) 1 (mK .nil n0 dDm (λ_=>rfl) l e out)=(
 (WK.un=WK.un\/WK.un=WK.ca)/\(∀(y:Int×Bool×Unit) (x':PX),Z2 qBX7 l e=aX (y,x')->(ak (aD y)=ac->(qBX3<=ak y/\ak y+1<=(↑qBX5:Int))/\af (ak y)+1<=qBX5/\∀(x:Int),[qBX3,qBX3,qBX3,qBX3][af (ak y)]? =ae x->(qBX3<=ak y/\ak y+1<=(↑qBX5:Int))/\0<=af (ak y)/\af (ak y)+1<=qBX5/\∀(U:Int),[qBX3,qBX3,qBX3,qBX3][af (ak y)]? =ae U->(isW [112,101,114] (ak x')=ac->qBX8/\(∀(I:Int) (J:PX),Yy qBX7 (bC (ak x')) (ak (aD x'))=aX (I,J)->(qBX6 I)/\af I+1<=aa (qBX1 y x)/\∀(R:Int),(qBX1 y x)[af I]? =ae R->(qBX6 I)/\0<=af I/\af I+1<=aa (qBX1 y x)/\∀(a1:Int),(qBX1 y x)[af I]? =ae a1->aa (qBX4 y x I R)=qBX5/\aa (qBX4 y x I R)=qBX5/\qBX5=qBX5/\out=aX ([ah (qBX4 y x I R) 0 qBX3,ah (qBX4 y x I R) 1 qBX3,ah (qBX4 y x I R) 2 qBX3,ah (qBX4 y x I R) 3 qBX3],ak J,ak (aD J),()))/\∀(e:Int×Int),Yy qBX7 (bC (ak x')) (ak (aD x'))=aB e->out=aB e)/\(isW [112,101,114] (ak x')=ab->aa (qBX1 y x)=qBX5/\aa (qBX1 y x)=qBX5/\qBX5=qBX5/\out=aX ([ah (qBX1 y x) 0 qBX3,ah (qBX1 y x) 1 qBX3,ah (qBX1 y x) 2 qBX3,ah (qBX1 y x) 3 qBX3],ak x',ak (aD x'),())))/\(ak (aD y)=ab->(isW [112,101,114] (ak x')=ac->qBX8/\(∀(y:Int) (J:PX),Yy qBX7 (bC (ak x')) (ak (aD x'))=aX (y,J)->(qBX6 y)/\af y+1<=qBX5/\∀(x:Int),[qBX3,qBX3,qBX3,qBX3][af y]? =ae x->(qBX6 y)/\0<=af y/\af y+1<=qBX5/\∀(U:Int),[qBX3,qBX3,qBX3,qBX3][af y]? =ae U->aa (qBX2 y x)=qBX5/\aa (qBX2 y x)=qBX5/\qBX5=qBX5/\out=aX ([ah (qBX2 y x) 0 qBX3,ah (qBX2 y x) 1 qBX3,ah (qBX2 y x) 2 qBX3,ah (qBX2 y x) 3 qBX3],ak J,ak (aD J),()))/\∀(e:Int×Int),Yy qBX7 (bC (ak x')) (ak (aD x'))=aB e->out=aB e)/\(isW [112,101,114] (ak x')=ab->qBX5=qBX5/\qBX5=qBX5/\qBX5=qBX5/\out=aX ([qBX3,qBX3,qBX3,qBX3],ak x',ak (aD x'),()))))/\∀(a0:Int×Int),Z2 qBX7 l e=aB a0->out=aB a0):=by kernel_rfl
abbrev qBXb(I:PX):=(bC (ak I))
abbrev qBXa(I:PX):=(ak (aD I))
abbrev qBX9(a0:Int) (I:PX) (R:PR Tst) (d0:Int):=((a0==(8:Int))=ab->(isW [(105:Nat),(115:Nat)] (ak I)=ac->True/\(∀(U:Int) (J:PX),pInt (qBXb I) (qBXa I)=aX (U,J)->R=aX (lm d0 U U,ak J,ak (aD J),()))/\∀(e:Int×Int),pInt (qBXb I) (qBXa I)=aB e->R=aB e)/\(isW [(105:Nat),(115:Nat)] (ak I)=ab->(isW [(105:Nat),(110:Nat)] (ak I)=ac->True/\(∀(U:Int) (J:PX),pInt (qBXb I) (qBXa I)=aX (U,J)->(isW [(46:Nat),(46:Nat)] (ak J)=ac->True/\(∀(a1:Int) (I:PX),pInt (qBXb J) (qBXa J)=aX (a1,I)->R=aX (lm d0 U a1,ak I,ak (aD I),()))/\∀(e:Int×Int),pInt (qBXb J) (qBXa J)=aB e->R=aB e)/\(isW [(46:Nat),(46:Nat)] (ak J)=ab->R=aB (hdT (qBXa J) (ak J),(160:Int))))/\∀(e:Int×Int),pInt (qBXb I) (qBXa I)=aB e->R=aB e)/\(isW [(105:Nat),(110:Nat)] (ak I)=ab->R=aB (hdT (qBXa I) (ak I),(160:Int)))))
abbrev qBXc:=(WK.at_=WK.at_\/WK.at_=WK.ki\/WK.at_=WK.un)
theorem Z28(l:List Tok) (e n:Int) (out:PR Tst):Zk E Fme (vc E Fme 400) 62 [.ptr 0 0,.int ab .i64 n] (one [.psl dm l ab,.int ab .i64 e]) 1 (mK (dA1 dN) (n1 λ_=>rfl) dTs (λ_=>rfl) l e out)=(
 (decide ((↑(aa l):Int)>0)=ac->(0:Int)<=0/\0+1<=(↑(aa l):Int)/\∀(x:Tok),l[af 0]? =ae x->qBXc/\(∀(y:Int) (x':PX),Yy (WK.words WK.at_) l e=aX (y,x')->((n==8)=ac->out=aB (dp x,2))/\(qBX9 n x' out y))/\∀(I:Int×Int),Yy (WK.words WK.at_) l e=aB I->out=aB I)/\(decide ((↑(aa l):Int)>0)=ab->qBXc/\(∀(y:Int) (x':PX),Yy (WK.words WK.at_) l e=aX (y,x')->((n==8)=ac->out=aB (e,2))/\(qBX9 n x' out y))/\∀(I:Int×Int),Yy (WK.words WK.at_) l e=aB I->out=aB I)):=by kernel_rfl
theorem four{i:Int} (I:0<=i) (J:i < 4):i = 0\/i = 1\/i = 2\/i = 3:=by omega
theorem Z9q(l : List Tok) (e : Int) : Ud (mI .nil n0 dDm (λ_ => rfl)) 130 (l, e, ()) () (Wc l e) := by
 refine Zar Zig (n := 400) (a := ()) ?_;rw[show(DcL.nil (E := E)).enc () = [] from rfl, Z27]; delta qBX3 qBX1 qBX2 qBX4 qBX5 qBX6 qBX7 qBX8;have w1 : wr .i64 1 = 1 := by decide
 have w2 : wr .i64 (-1) = -1 := by decide
 have w3 : wr .i64 0 = 0 := by decide
 refine⟨.inl rfl, λy x' h => ⟨λI => ?_, λI => ?_⟩, λer h => (Zsn h).elim⟩
 ·obtain⟨i, b, _⟩ := y
  have I : b = true := I;subst I;rcases X3 h with⟨q1, q2, rfl⟩ | ⟨_, q2, _⟩
  case inr => cases q2
  cases q2;have q3 : chz WK.un.words l < 4 := Zvz (by decide);generalize hq : chz WK.un.words l = q at *;rcases four q1 q3 with rfl | rfl | rfl | rfl
  all_goals
   simp[w1];refine⟨λh1 => ⟨λj x1 z1 z2 J => ?_, λe1 e2 J => ?_⟩, λh1 => ?_⟩
   ·obtain⟨R, U, _⟩ := U8 J
    have r3 : chz WK.un.words l.tail.tail < 4 := Zvz (by decide);rw[← U] at R r3; clear U;rcases four R r3 with rfl | rfl | rfl | rfl
    all_goals simp[Wc, sPer, incD, decD, w1, w2, w3, *]
   ·simp[Wc, sPer, incD, decD, *]
   ·simp[Wc, sPer, incD, decD, *]
 ·obtain⟨i, b, _⟩ := y
  have I : b = false := I;subst I;rcases X3 h with⟨_, q2, _⟩ | ⟨q1, q2, rfl⟩
  case inl => cases q2
  cases q2;refine⟨λh1 => ⟨.inr (.inr rfl), λj x1 J => ?_, λer J => ?_⟩, λh1 => ?_⟩
  ·obtain⟨R, U, _⟩ := U8 J
   have r3 : chz WK.un.words l.tail < 4 := Zvz (by decide);rw[← U] at R r3; clear U;rcases four R r3 with rfl | rfl | rfl | rfl
   all_goals simp[Wc, sPer, incD, decD, w1, w2, w3, *]
  ·simp[Wc, sPer, incD, decD, *]
  ·simp[Wc, sPer, incD, decD, *]
theorem Z9r(l : List Tok) (e n : Int) : Ud (mI (dA1 dN) (n1 λ_ => rfl) dTs (λ_ => rfl)) 62 (l, e, ()) (n, ()) (Uc n l e) := by
 refine Zar Zig (n := 400) (a := (n, ())) ?_;rw[show(dA1 dN).enc (n, ()) = [.int ab .i64 n] from rfl, Z28]; delta qBXb qBXa qBX9 qBXc;cases l with
 | nil =>
  simp only[Yf, Yx, tz, tz0, tp, tp0, tl1, tl2, tg, td, i01, true_and, and_true, forall_eq', kz, aP, aN, reduceCtorEq, jW, kJ, cj, ku, iz, ne_eq, gp, ij, fV]
  repeat' (first | apply aC | intro _)
  all_goals first | exact .inl rfl | exact jX | simp[Uc, hdT, sIs, sIn, Zef, *]
 | cons t l =>
  simp only[Yf, Yx, tz, tz0, tp, tp0, tl1, tl2, tg, td, i01, true_and, and_true, forall_eq', kz, aP, aN, reduceCtorEq, jW, kJ, cj, ku, iz, ne_eq, gp, ij, fV]
  repeat' (first | apply aC | intro _)
  all_goals first | exact .inl rfl | exact jX | simp[Uc, hdT, sIs, sIn, Zef, *]
end
section
open Go
noncomputable def dEx:Dc E Ex:=(dR .exprs:Dc E (thy.dom iv))
abbrev PE:=List Tok->Int->PR Ex
def X7:List Nat:= [40]
def Ye:List Nat:= [41]
def sIf:List Nat:= [105,102]
def Yh:List Nat:= [44]
def Ze3:List Nat:= [60]
def pOpL(J:PE):List (List Nat)->List Ex->List Tok->Int->PR (List Ex)
 | [],I,l,e=> .ok (I,l,e,())
 |s::r,I,l,e=>
  match J l e with
  | .error R=> .error R
  | .ok (x,y)=>if isW s y.1 then pOpL J r (I++ [x]) y.1.tail y.2.1 else .error (hdT y.2.1 y.1,160)
def pOps(J:PE) (op:Int) (R:List (List Nat)) (l:List Tok) (e:Int):PR Ex:=
 if isW X7 l then
  match pOpL J R [] l.tail e with
  | .error I=> .error I
  | .ok (xs,y)=> .ok (.mk op 0 0 0 0 0 xs,y)
 else .error (hdT e l,160)
def Zbm(J:PE) (l:List Tok) (e:Int):PR Ex:=
 if isW X7 l then
  match J l.tail e with
  | .error I=> .error I
  | .ok (x,y)=>if isW Ye y.1 then .ok (x,y.1.tail,y.2.1,()) else .error (hdT y.2.1 y.1,160)
 else if isW sIf l then pOps J 11 [Ze3,Yh,Yh,Ye] l.tail e
 else match Z2 WK.ca.words l e with
  | .error I=> .error I
  | .ok (k,y)=>
   if k.2.1 then pOps J (6+k.1) [Yh,Ye] y.1 y.2.1
   else match Yy WK.at_.words y.1 y.2.1 with
    | .error I=> .error I
    | .ok (a,z)=> .ok (.mk 2 a 0 0 0 0 [],z)
def pFac(I:PE) (l:List Tok) (e:Int):PR Ex:=
 match l with
 | []=>Zbm I [] e
 |t::r=>
  if t.kind=2 then
   match Wc r e with
   | .error J=> .error J
   | .ok (d,y)=> .ok (.mk 1 t.n (d.getD 0 0) (d.getD 1 0) (d.getD 2 0) (d.getD 3 0) [],y)
  else Zbm I (t::r) e
def Shr(I:PE):Prop:=∀l e y x',I l e= .ok (y,x')->x'.1.length<l.length
theorem Zw{s:List Nat} {l:List Tok} (h:isW s l=ac):l.tail.length+1=l.length:=by
 cases l with
 |nil=>cases h
 |cons t l=>rfl
theorem Ym2{s:List Nat} {l:List Tok} {P:Prop} (h:isW s l=ac->l.tail.length+1=l.length->P):isW s l=ac->P:=λq=>h q (Zw q)
theorem Yen{I:PE} (H:Shr I) {l:List Tok} {e:Int} {P:Ex->PX->Prop} (h:∀y x',I l e= .ok (y,x')->x'.1.length<l.length->P y x'):∀y x',I l e= .ok (y,x')->P y x':=λy x' q=>h y x' q (H _ _ _ _ q)
theorem Zdt{ws:List (List Nat)} {l:List Tok} (h:0<=chz ws l):l.tail.length+1=l.length:=by
 cases l with
 |nil=>cases h
 |cons t l=>rfl
theorem Yeo{l:List Tok} {e:Int} {A B:Int×Bool×Unit->PX->Prop} (U:∀y x',Z2 WK.ca.words l e= .ok (y,x')->y.2.1=ac->x'.1.length<l.length->wr .i64 (6+y.1)=6+y.1->A y x') (hB:∀y x',Z2 WK.ca.words l e= .ok (y,x')->y.2.1=ab->B y x'):
 ∀y x',Z2 WK.ca.words l e= .ok (y,x')->(y.2.1=ac->A y x')/\(y.2.1=ab->B y x'):=by
 intro y x' q
 refine⟨λI=>U y x' q I ?_ ?_,λI=>hB y x' q I⟩
 ·rcases X3 q with⟨J,rfl,rfl⟩|⟨_,rfl,_⟩
  ·have:=Zdt J
   show l.tail.length<l.length
   omega
  ·cases I
 ·rcases X3 q with⟨J,rfl,rfl⟩|⟨_,rfl,_⟩
  ·have:=Zvz (ws:=WK.ca.words) (l:=l) (by decide)
   have R:(WK.ca.words).length=5:=rfl
   rw[R] at this
   exact wr64 (by show _<=6+chz _ _;omega) (by show 6+chz _ _<=_;omega)
  ·rfl
theorem Ybx{I:PE} {l:List Tok} {e:Int} (h:((l.length:Int)==0)=ac):pFac I l e=Zbm I l e:=by
 cases l with
 |nil=>rfl
 |cons t l=>rw[tz] at h;cases h
theorem Yby{J:PE} {l:List Tok} {e:Int} {x:Tok} (I:l[af 0]? =ae x) (h:(x.kind !=2)=ac):pFac J l e=Zbm J l e:=by
 cases l with
 |nil=>cases I
 |cons t l=>
  rw[tg] at I;subst I;simp at h;simp[pFac,h]
theorem Ybz{l:List Tok} {e:Int} {x:Tok} (I:l[af 0]? =ae x) (h:(x.kind !=2)=ab):∃r,l=x::r/\x.kind=2/\pInt l e= .ok (x.n,r,e,()):=by
 cases l with
 |nil=>cases I
 |cons t l=>
  rw[tg] at I;subst I;simp at h;exact⟨l,rfl,h,by simp[pInt,h]⟩
theorem Znr{l:List Tok} (h:((l.length:Int)==0)=ab):(0:Int)<=0/\(0:Int)+1<=l.length:=by
 have:(l.length:Int)≠0:=by simpa using h
 omega
noncomputable def Ym3:Sum thy:=sumM (mI .nil n0 dDm (λ_=>rfl)) (λ_ _=>True) λx _=>Wc x.1 x.2.1
theorem Yb0:SumOk E 130 Ym3:=Wd E_ok (Zc rfl) λx _ _=>Z9q x.1 x.2.1
noncomputable def Ypb(n:Nat) (I:PE):Sum thy:=sumM (mI .nil n0 dEx (λ_=>rfl)) (λx _=>x.1.length<n) λx _=>I x.1 x.2.1
noncomputable def Ffa(n:Nat) (I:PE):Fns thy:=addS (addS Fme 130 Ym3) 63 (Ypb n I)
abbrev Zqv(l:List Tok) (n:Nat) (pe:PE) (e:Int) (out:PR Ex):Prop:=
 isW [(105:Nat),(102:Nat)] l=ac->(isW [(40:Nat)] (bC l)=ac->aa (bC (bC l))+(1:Nat)<=n/\(∀(y:Ex) (x':PX),pe (bC
 (bC l)) e=aX (y,x')->(isW [(60:Nat)] (ak x')=ac->aa (bC (ak x'))+(1:Nat)<=n/\(∀(I:Ex) (U:PX),pe (bC
 (ak x')) (ak (aD x'))=aX (I,U)->((1:Nat)<=(1:Nat)/\(0:Nat)<=(1:Nat)/\((1:Nat)+(1:Nat))*(72:Nat)<=(140737488355328:Nat))
 /\(isW [(44:Nat)] (ak U)=ac->aa (bC (ak U))+(1:Nat)<=n/\(∀(J:Ex) (x':PX),pe (bC (ak U)) (ak (aD
 U))=aX (J,x')->((1:Nat)+(1:Nat)<=aa (aw (1:Nat) [bV (aM y) (bX y) (bD y) (bE y) (bF y) (bG y) (bw y)]++ [bV
 (aM I) (bX I) (bD I) (bE I) (bF I) (bG I) (bw I)])/\(0:Nat)<=(1:Nat)+(1:Nat)/\((1:Nat)+(1:Nat)+(1:Nat))*(72:Nat)<=
 (140737488355328:Nat))/\(isW [(44:Nat)] (ak x')=ac->aa (bC (ak x'))+(1:Nat)<=n/\(∀(R:Ex) (a0:PX),pe (bC (ak
 x')) (ak (aD x'))=aX (R,a0)->((1:Nat)+(1:Nat)+(1:Nat)<=aa (aw ((1:Nat)+(1:Nat)) (aw (1:Nat) [bV (aM y)
 (bX y) (bD y) (bE y) (bF y) (bG y) (bw y)]++ [bV (aM I) (bX I) (bD I) (bE I) (bF I) (bG I) (bw I)])++ [bV (aM J)
 (bX J) (bD J) (bE J) (bF J) (bG J) (bw J)])/\(0:Nat)<=(1:Nat)+(1:Nat)+(1:Nat)/\((1:Nat)+(1:Nat)+(1:Nat)+(1:Nat))*(72:
 Nat)<=(140737488355328:Nat))/\(isW [(41:Nat)] (ak a0)=ac->(0:Nat)+((1:Nat)+(1:Nat)+(1:Nat)+(1:Nat))<=aa (aw ((1:Nat)+(1
 :Nat)+(1:Nat)) (aw ((1:Nat)+(1:Nat)) (aw (1:Nat) [bV (aM y) (bX y) (bD y) (bE y) (bF y) (bG y) (bw y)]++ [bV (aM I)
 (bX I) (bD I) (bE I) (bF I) (bG I) (bw I)])++ [bV (aM J) (bX J) (bD J) (bE J) (bF J) (bG J) (bw J)])++ [bV
 (aM R) (bX R) (bD R) (bE R) (bF R) (bG R) (bw R)])/\out=aX (bV (11:Int) (0:Int) (0:Int) (0:Int) (0:Int) (0:Int)
 (aw ((1:Nat)+(1:Nat)+(1:Nat)+(1:Nat)) (cx (0:Nat) (aw ((1:Nat)+(1:Nat)+(1:Nat)) (aw ((1:Nat)+(1:Nat)) (aw (1:
 Nat) [bV (aM y) (bX y) (bD y) (bE y) (bF y) (bG y) (bw y)]++ [bV (aM I) (bX I) (bD I) (bE I) (bF I) (bG I) (bw I)])++
 [bV (aM J) (bX J) (bD J) (bE J) (bF J) (bG J) (bw J)])++ [bV (aM R) (bX R) (bD R) (bE R) (bF R) (bG R) (bw
 R)]))),bC (ak a0),ak (aD a0),()))/\(isW [(41:Nat)] (ak a0)=ab->out=aB (hdT (ak (aD a0)) (ak
 a0),(160:Int))))/\∀(e:Int×Int),pe (bC (ak x')) (ak (aD x'))=aB e->out=aB e)/\(isW [(44:Nat)] (ak x')=
 ab->out=aB (hdT (ak (aD x')) (ak x'),(160:Int))))/\∀(e:Int×Int),pe (bC (ak U)) (ak (aD U))=
 aB e->out=aB e)/\(isW [(44:Nat)] (ak U)=ab->out=aB (hdT (ak (aD U)) (ak U),(160:Int))))/\∀(e:
 Int×Int),pe (bC (ak x')) (ak (aD x'))=aB e->out=aB e)/\(isW [(60:Nat)] (ak x')=ab->out=aB (hdT
 (ak (aD x')) (ak x'),(160:Int))))/\∀(a1:Int×Int),pe (bC (bC l)) e=aB a1->out=aB a1)/\(isW [(40:Nat)]
 (bC l)=ab->out=aB (hdT e (bC l),(160:Int)))
abbrev Zjq(l:List Tok) (n:Nat) (U:PE) (e:Int) (out:PR Ex):Prop:=
 isW [(40:Nat)] l=ab->(Zqv l n U e out)/\(isW [(105:Nat),(102:Nat)] l=ab->(WK.ca=WK.un\/WK.ca=WK.ca)/\(∀(y:Int×Bool×Unit) (x':PX),
 Z2 (WK.words WK.ca) l e=aX (y,x')->(ak (aD y)=ac->(isW [(40:Nat)] (ak x')=ac->aa (bC (ak x'))+(1:Nat)<=n
 /\(∀(I:Ex) (R:PX),U (bC (ak x')) (ak (aD x'))=aX (I,R)->(isW [(44:Nat)] (ak R)=ac->aa (bC
 (ak R))+(1:Nat)<=n/\(∀(J:Ex) (x':PX),U (bC (ak R)) (ak (aD R))=aX (J,x')->((1:Nat)<=(1:Nat)/\(0:Nat)<=
 (1:Nat)/\((1:Nat)+(1:Nat))*(72:Nat)<=(140737488355328:Nat))/\(isW [(41:Nat)] (ak x')=ac->(0:Nat)+((1:Nat)+(1:Nat))<=aa
 (aw (1:Nat) [bV (aM I) (bX I) (bD I) (bE I) (bF I) (bG I) (bw I)]++ [bV (aM J) (bX J) (bD J) (bE J) (bF
 J) (bG J) (bw J)])/\out=aX (bV (wr ag ((6:Int)+ak y)) (0:Int) (0:Int) (0:Int) (0:Int) (0:Int) (aw ((1:Nat)+(1:
 Nat)) (cx (0:Nat) (aw (1:Nat) [bV (aM I) (bX I) (bD I) (bE I) (bF I) (bG I) (bw I)]++ [bV (aM J) (bX J) (bD
 J) (bE J) (bF J) (bG J) (bw J)]))),bC (ak x'),ak (aD x'),()))/\(isW [(41:Nat)] (ak x')=ab->out=aB (hdT
 (ak (aD x')) (ak x'),(160:Int))))/\∀(e:Int×Int),U (bC (ak R)) (ak (aD R))=aB e->out=aB e)/\
 (isW [(44:Nat)] (ak R)=ab->out=aB (hdT (ak (aD R)) (ak R),(160:Int))))/\∀(e:Int×Int),U (bC (ak x'))
 (ak (aD x'))=aB e->out=aB e)/\(isW [(40:Nat)] (ak x')=ab->out=aB (hdT (ak (aD x')) (ak x'),(160
 :Int))))/\(ak (aD y)=ab->(WK.at_=WK.at_\/WK.at_=WK.ki\/WK.at_=WK.un)/\(∀(y:Int) (R:PX),Yy (WK.words WK.at_) (ak x') (ak
 (aD x'))=aX (y,R)->out=aX (bV (2:Int) y (0:Int) (0:Int) (0:Int) (0:Int) [],ak R,ak (aD R),()))/\∀(e:Int×
 Int),Yy (WK.words WK.at_) (ak x') (ak (aD x'))=aB e->out=aB e))/\∀(a0:Int×Int),Z2 (WK.words WK.ca) l e=aB
 a0->out=aB a0)
abbrev Zjr(l:List Tok) (n:Nat) (J:PE) (e:Int) (out:PR Ex):Prop:=
 isW [(40:Nat)] l=ac->aa (bC l)+(1:Nat)<=n/\(∀(y:Ex) (x':PX),J (bC l) e=aX (y,x')->(isW [(41:Nat)] (ak x')=ac->
 out=aX (bV (aM y) (bX y) (bD y) (bE y) (bF y) (bG y) (bw y),bC (ak x'),ak (aD x'),()))/\(isW [(41:Nat)] (ak
 x')=ab->out=aB (hdT (ak (aD x')) (ak x'),(160:Int))))/\∀(I:Int×Int),J (bC l) e=aB I->out=aB I
theorem Zt4(n:Nat) (I:PE) (l:List Tok) (e:Int) (out:PR Ex):Zk E (Ffa n I) (vc E (Ffa n I) 400) 107 [.ptr 0 0] (one [.psl dm l ab,.int ab .i64 e]) 1 (mK .nil n0 dEx (λ_=>rfl) l e out)=(
(((↑(aa l):Int)==(0:Int))=ac->(Zjr l n I e out)/\(Zjq l n I e out))/\(((↑(aa l):Int)==(0:Int))=ab->(0:Int)<=(0:Int)/\(0:Int)+(1:Int)<=(↑(aa l):Int)/\∀(x:Tok),l[af (0:Int)]? =ae x->((cC x !=(2:Int))=ac->(Zjr l n I e out)/\(Zjq l n I e out))/\((cC x !=(2:Int))=ab->(0:Int)<=(0:Int)/\(0:Int)+(1:Int)<=(↑(aa l):Int)/\∀(x:Tok),l[af (0:Int)]? =ae x->True/\(∀(y:Int) (x':PX),pInt l e=aX (y,x')->True/\(∀(J:List Int) (R:PX),Wc (ak x') (ak (aD x'))=aX (J,R)->out=aX (bV (1:Int) y (ah J (0:Nat) (0:Int)) (ah J (1:Nat) (0:Int)) (ah J (2:Nat) (0:Int)) (ah J (3:Nat) (0:Int)) [],ak R,ak (aD R),()))/\∀(e:Int×Int),Wc (ak x') (ak (aD x'))=aB e->out=aB e)/\∀(U:Int×Int),pInt l e=aB U->out=aB U))):=by kernel_rfl
theorem Ym4{n:Nat} {I:PE} (J:∀l e,l.length<n->Ud (mI .nil n0 dEx (λ_=>rfl)) 63 (l,e,()) () (I l e)):FnsOk E (Ffa n I):=Zb (Zb Zig Yb0) (Wd E_ok (Zc rfl) λx _ h=>J x.1 x.2.1 h)
theorem Zz8{n : Nat} {pe : PE} (a0 : ∀ l e, l.length < n → Ud (mI .nil n0 dEx (λ_ => rfl)) 63 (l, e, ()) () (pe l e)) (H : Shr pe) (l : List Tok) (e : Int) (hl : l.length < n + 1) :
 Ud (mI .nil n0 dEx (λ_ => rfl)) 107 (l, e, ()) () (pFac pe l e) := by
 refine Zar (Ym4 a0) (n := 400) (a := ()) ?_
 rw[show(DcL.nil (E := E)).enc () = [] from rfl, Zt4]
 unfold Zjr Zjq Zqv
 refine⟨λJ => ?_, λJ => ⟨(Znr J).1, (Znr J).2, λx hx => ⟨λR => ?_, λR => ?_⟩⟩⟩
 ·rw[Ybx J]; clear J
  repeat' (first | refine Ym2 λ_ _ => ?_ | refine Yen H λ_ _ _ _ => ?_ | refine Yeo (λ_ _ _ _ _ _ => ?_) (λ_ _ _ _ => ?_) | apply aC | intro _)
  all_goals first | exact .inr rfl | exact .inl rfl | exact jX | omega | simp[Zbm, pOps, pOpL, X7, Ye, sIf, Yh, Ze3, Ex.eta, *]
 ·rw[Yby hx R]; clear J hx R
  repeat' (first | refine Ym2 λ_ _ => ?_ | refine Yen H λ_ _ _ _ => ?_ | refine Yeo (λ_ _ _ _ _ _ => ?_) (λ_ _ _ _ => ?_) | apply aC | intro _)
  all_goals first | exact .inr rfl | exact .inl rfl | exact jX | omega | simp[Zbm, pOps, pOpL, X7, Ye, sIf, Yh, Ze3, Ex.eta, *]
 ·obtain⟨r, rfl, hk, hi⟩ := Ybz (e := e) hx R
  refine⟨(Znr J).1, (Znr J).2, λ_ _ => ⟨jX, λy x' I => ?_, λer I => by rw[hi] at I; cases I⟩⟩
  rw[hi] at I
  injection I with I
  injection I with I h4
  subst I; subst h4
  refine⟨jX, λd x2 U => ?_, λer U => ?_⟩
  ·simp[pFac, hk, U]
  ·simp[pFac, hk, U]
end
section
open Go.RowKit
section
variable {Y:Thy} {E:Eng Y}
def two(cs:List (SV Y)):Hp Y:=λb=>match aO b 0 with|true=>ae (.raw cs 0 au)|false=>(match aO b 1 with|true=>ae (.raw [.ptr 0 0] 0 au)|false=>au)
theorem Z9s(cs:List (SV Y)):two cs 0=ae (.raw cs 0 au):=rfl
theorem Yk9(cs:List (SV Y)):two cs 1=ae (.raw [.ptr 0 0] 0 au):=rfl
theorem Zmu{cs:List (SV Y)} {b:Nat} {x:Blk Y} (h:two cs b=ae x):(b=0/\x= .raw cs 0 au)\/(b=1/\x= .raw [.ptr 0 0] 0 au):=by
 match b,h with
 |0,h=>cases h;exact .inl ⟨rfl,rfl⟩
 |1,h=>cases h;exact .inr ⟨rfl,rfl⟩
 |b+2,h=>cases h
theorem Yga(cs:List (SV Y)):DomLt (two cs) 2:=λb I=>by
 obtain⟨x,J⟩:=aY.1 I;rcases Zmu J with⟨rfl,_⟩|⟨rfl,_⟩<;>omega
def σ2(p q:Nat×Nat):Pl:=λb=>match aO b 0 with|true=>ae p|false=>(match aO b 1 with|true=>ae q|false=>au)
theorem σ2_some{p q x:Nat×Nat} {b:Nat} (h:σ2 p q b=ae x):(b=0/\x=p)\/(b=1/\x=q):=by
 match b,h with
 |0,h=>cases h;exact .inl ⟨rfl,rfl⟩
 |1,h=>cases h;exact .inr ⟨rfl,rfl⟩
 |b+2,h=>cases h
theorem Zso(cs cs':List (SV Y)) (v:SV Y):patch (two cs) 2 (mutR v cs')=two cs':=by
 funext b;rw[Zp]
 match b with
 |0=>simp[mutR,at1,two]
 |1=>rw[jJ (by simp[mutR])];rfl
 |b+2=>rw[jJ (by simp[mutR])];rfl
def Yla(E:Eng Y) (f:FuncId) (cs rest:List (SV Y)) (v:SV Y) (I:List (SV Y)):Prop:=Vi E f (.ptr 1 0::rest) (two cs) 2 (mutR v I)
def Ylb(E:Eng Y) (f:FuncId) (cs rest:List (SV Y)) (p:Value):Prop:=Zs2 E f (.ptr 1 0::rest) (two cs) 2 (panR p)
theorem Zsp(hE:EngOk E) {B:Nat} {σ:Pl} {h:Hp Y} {g:GH} {w:World} {b r z c r1 z1:Nat} {cs a3:List (SV Y)} {fc:Nat} {tg tc:Option Y.Th} (I:Inv E B σ h g w) (U:h b=ae (.raw cs 0 tg)) (hc:h c=ae (.raw [.ptr b 0] fc tc)) (R:σ b=ae (r,z)) (a1:σ c=ae (r1,z1)) (a5:b≠c) (a7:fc=0) (a8:cs.length=a3.length) (hn:nidL 0 a3=ac)
 (a6:∀σ g (j:Nat) a2,a3[j]? =ae a2->∃sv,cs[j]? =ae sv/\∀u,Den E σ g sv u->Den E σ g a2 u):Inv E B (σ2 (r,z) (r1,z1)) (two a3) g w:=by
 have a4:r≠r1:=by
  rintro rfl
  exact a5 (I.inj b c _ _ _ (by rw[U];simp) (by rw[hc];simp) R a1)
 refine⟨I.gc,I.gm,λx y hx=> ?_,λx x' q z2 z3 h1 h2 h3 h4=> ?_,λx q z' J=> ?_,λx y q z' o v hx J hv=> ?_,λx y q z' hx J=> ?_,I.glob⟩
 ·rcases Zmu hx with⟨rfl,rfl⟩|⟨rfl,rfl⟩
  ·refine⟨r,z,rfl,?_⟩
   obtain⟨r',z',a0,arr,e,k1,k2,k3,k4,k5⟩:=I.blk b _ U
   rw[R] at a0;cases a0
   refine⟨arr,e,k1,k2,?_,λj a2 hj=> ?_,jX⟩
   ·simp only[Blk.cells] at k3⊢;omega
   ·obtain⟨sv,h1,h2⟩:=a6 σ g j a2 hj
    obtain⟨v,m1,m2⟩:=k4 j sv h1
    exact⟨v,m1,Zy hE (h2 v m2) (λb p U=>by omega) (Zs hn hj)⟩
  ·refine⟨r1,z1,rfl,?_⟩
   obtain⟨r',z',a0,arr,e,k1,k2,k3,k4,k5⟩:=I.blk c _ hc
   rw[a1] at a0;cases a0
   refine⟨arr,e,k1,k2,k3,λj a2 hj=> ?_,jX⟩
   cases j with
   |zero=>
    cases hj
    obtain⟨v,m1,m2⟩:=k4 0 _ rfl
    refine⟨v,m1,?_⟩
    cases m2
    rename_i J
    rw[R] at J;cases J
    exact .ptr (E:=E) (b:=0) rfl
   |succ j=>cases hj
 ·rcases σ2_some h3 with⟨rfl,e1⟩|⟨rfl,e1⟩<;>rcases σ2_some h4 with⟨rfl,e2⟩|⟨rfl,e2⟩
  ·rfl
  ·cases e1;cases e2;exact ka rfl a4
  ·cases e1;cases e2;exact ka rfl a4
  ·rfl
 ·rcases σ2_some J with⟨rfl,e⟩|⟨rfl,e⟩
  ·cases e;exact I.base b _ _ R
  ·cases e;exact I.base c _ _ a1
 ·rcases σ2_some J with⟨rfl,e⟩|⟨rfl,e⟩
  ·cases e
   have h2:o<0:=I.fz b (.raw cs 0 tg) _ _ o v U R hv
   omega
  ·cases e
   subst a7
   have h2:o<0:=I.fz c (.raw [.ptr b 0] 0 tc) _ _ o v hc a1 hv
   omega
 ·rcases σ2_some J with⟨rfl,e⟩|⟨rfl,e⟩
  ·cases e;exact I.fm b _ _ _ U R
  ·cases e;exact I.fm c _ _ _ hc a1
section
variable {X α β ε:Type}
def Zeg(M:MutI E X α β ε) (f:FuncId) (x:X) (a:α) (out:Except ε (β×X)):Prop:=
 match out with
 | .ok (y,x')=>Yla E f (M.dS.enc x) (M.dA.enc a) (M.v y) (M.dS.enc x')
 | .error e=>Ylb E f (M.dS.enc x) (M.dA.enc a) (M.pv e)
def Z29(M:MutI E X α β ε) (pre:X->α->Prop) (f:X->α->Except ε (β×X)):Sum Y:=λargs h _ k=>
 match args with
 | .ptr c 0::rest=>
  (match h c with
  |some (.raw [.ptr b 0] 0 _)=>
   (match aO b c,h b with
   |false,ae (.raw cs 0 _)=>
    (match M.dS.dec cs,M.dA.dec rest with
    |some x,ae a=>pre x a/\(∀y x',f x a= .ok (y,x')->k (Zlc b (M.v y) (M.dS.enc x')))/\(∀e,f x a= .error e->k (Z3c b (M.pv e)))
    |_,_=>False)
   |_,_=>False)
  |_=>False)
 |_=>False
theorem Zpf{M:DcL E α} {rest:List (SV Y)} {a:α} (hE:EngOk E) (hr:M.dec rest=ae a) (hn:nidL 0 (M.enc a)=ac) {c:Nat} {p q:Nat×Nat} {σ:Pl} {g:GH} {vals:List Value} (a0:σ c=ae q) (hd:DenL E σ g (.ptr c 0::rest) vals):DenL E (σ2 p q) g (.ptr 1 0::M.enc a) vals:=by
 obtain⟨k1,k2,k3⟩:=M.ok _ _ hr;refine⟨by rw[<-hd.1];simp[k2],λj sv u I J=> ?_⟩;cases j with
 |zero=>
  simp at I;subst I;have:=hd.2 0 _ u rfl J;cases this;rename_i R;rw[a0] at R;cases R;exact .ptr (E:=E) (b:=1) rfl
 |succ j=>
  have I:(M.enc a)[j]? =ae sv:=by simpa using I
  obtain⟨s0,U,h4⟩:=k3 σ g j sv I;exact Zy hE (h4 u (hd.2 (j+1) s0 u (by simpa using U) J)) (λb p hb=>by omega) (Zs hn I)
theorem Zmv(hE:EngOk E) {f:Nat} (hg:FnGood E.P f) {M:MutI E X α β ε} {pre:X->α->Prop} {fn:X->α->Except ε (β×X)} (hp:∀x a,pre x a->Zeg M f x a (fn x a)):SumOk E f (Z29 M pre fn):=by
 refine⟨hg,λargs h i k hD J=> ?_⟩;unfold Z29 at J;split at J
 case h_2=>exact J.elim
 rename_i c rest;split at J
 case h_2=>exact J.elim
 rename_i b tc I;split at J
 case h_2=>exact J.elim
 rename_i cs tg a0 U;have a0:b≠c:=by intro e;subst e;rw[fP] at a0;cases a0
 split at J
 case h_2=>exact J.elim
 rename_i x a hx ha;obtain⟨b1,a9,b0⟩:=J;have hm:=hp x a b1;obtain⟨c1,c2,c3⟩:=M.dS.ok _ _ hx;have a7:h b≠none:=by rw[U];simp
 unfold Zeg at hm;split at hm
 ·rename_i y x' ho
  refine⟨_,a9 y x' ho,λb' a4=>by
   have:b'∈ [b]:=a4;rw[ct] at this
   rw[this];exact a7,.inl ?_⟩
  intro B σ g w a6 hh b2 R hB a8 hd;obtain rfl:hh=h:=funext λb=>b2 b jX;obtain⟨r,z,a1,_⟩:=R.blk b _ U;obtain⟨r1,z1,a2,_⟩:=R.blk c _ I;refine(hm B (σ2 (r,z) (r1,z1)) g w a6 _ (λ_ _=>rfl) (Zsp hE R U I a1 a2 a0 rfl c2 (M.hS x) c3) hB (λc h1 h2=>by simp[mutR] at h2;omega) (Zpf hE ha (M.hA a) a2 hd)).mono ?_;rintro en w' ⟨u,he,σ',g',hS,a3,hv⟩;rw[Zso] at a3;obtain⟨q1,q2⟩:=Ui hE (i:=i) (v:=M.v y) (v0:=M.v y) (x':=some (M.dS.enc x')) R U a1 rfl hS a3 (λc I=>by cases I;rfl) (λc I=>by cases I;exact M.hS x');exact⟨u,he,σ,g',q1,q2,Zy hE hv (λb p U=>by omega) (M.hv y)⟩
 ·rename_i e ho
  refine⟨_,b0 e ho,λb' a4=>by
   have:b'∈ [b]:=a4;rw[ct] at this
   rw[this];exact a7,.inr ?_⟩
  obtain⟨p,a5,hm⟩:=hm;have a5:(SV.pan (M.pv e):SV Y)= .pan p:=a5;cases a5;refine⟨_,rfl,λB σ g w a6 R hB a8 hd=> ?_⟩;obtain⟨r,z,a1,_⟩:=R.blk b _ U;obtain⟨r1,z1,a2,_⟩:=R.blk c _ I;refine(hm B (σ2 (r,z) (r1,z1)) g w a6 (Zsp hE R U I a1 a2 a0 rfl c2 (M.hS x) c3) hB (λc h1 h2=>by simp[panR] at h2;omega) (Zpf hE ha (M.hA a) a2 hd)).mono ?_;rintro en w' ⟨he,σ',g',hS,a3⟩;obtain⟨q1,q2⟩:=Ui hE (i:=i) (v:= .pan (M.pv e)) (v0:= .unk) (x':=none) R U a1 rfl hS a3 (λc I=>by cases I) (λc I=>by cases I);exact⟨he,σ,g',q1,q2⟩
theorem Z9t{B:Nat} {p q:Nat×Nat} {h:Hp Y} {g J:GH} {w w':World} {σ':Pl} {n:Nat} {a0:List Nat} (a3:∀b∈a0,b=0) (R:Stp 2 n a0 (σ2 p q) g w σ' J w') (a1:Inv E B σ' h J w') (h0:h 0≠au):∀b r z,b≠0->b≠1->h b≠au->σ' b=ae (r,z)->w.heap.size<=r:=by
 intro b r z U a2 hn hs;have a4:σ2 p q b=none:=by
  match b with
  |0=>exact ka rfl U
  |1=>exact ka rfl a2
  |b+2=>rfl
 rcases R.blk b r z a4 hs with I|⟨b',I,z',h2⟩
 ·exact I
 ·obtain rfl:=a3 b' I
  have h3:=R.sig 0 _ h2;exact ka (a1.inj b 0 r z z' hn h0 hs h3) U
noncomputable def Ygb(M:MutI E X α β ε) (gth:List (SV Y)->Option Y.Th) (n:Nat) (dec:SV Y->Option β) (U:Value->Option ε) (x:X) (out:Except ε (β×X)) (r:Res Y):Prop:=
 match memB 1 r.mods with
 |true=>False
 |false=>(match Za8 r.v with
  |some q=>(match U q with|some e=>out= .error e|none=>False)
  |none=>frzK E gth (patch (two (M.dS.enc x)) 2 r) n r.v λv' bs=>
   (match patch (two (M.dS.enc x)) 2 r 0 with
   |some (.raw J 0 _)=>frzL (frzK E gth (patch (two (M.dS.enc x)) 2 r) n) J λR I=>
    (match memB 0 (bs++I)||memB 1 (bs++I),dec v',M.dS.dec R with
    |false,ae y,ae x'=>out= .ok (y,x')
    |_,_,_=>False)
   |_=>False))
theorem Z9u(U:EngOk E) {l:List (SV Y)} (hn:nidL 0 l=ac) {p q:Nat×Nat} {σ:Pl} {g:GH} {vals:List Value} (a0:σ 1=ae q) (hd:DenL E σ g (.ptr 1 0::l) vals):DenL E (σ2 p q) g (.ptr 1 0::l) vals:=by
 refine⟨hd.1,λj sv u I J=> ?_⟩;cases j with
 |zero=>
  simp at I;subst I;have:=hd.2 0 _ u rfl J;cases this;rename_i R;rw[a0] at R;cases R;exact .ptr (E:=E) (b:=1) rfl
 |succ j=>
  have I:l[j]? =ae sv:=by simpa using I
  exact Zy U (hd.2 (j+1) sv u (by simpa using I) J) (λb p hb=>by omega) (Zs hn I)
theorem Zpg(hE:EngOk E) {call:Nat->List (SV Y)->Hp Y->Nat->(Res Y->Prop)->Prop} (d4:Vb E call) {M:MutI E X α β ε} {gth:List (SV Y)->Option Y.Th} {n:Nat} {dec:SV Y->Option β} {b5:Value->Option ε} (d5:∀v y,dec v=ae y->∀σ g u,Den E σ g v u->Den E σ g (M.v y) u) (d6:∀q e,b5 q=ae e->M.pv e=q)
 {f:Nat} {x:X} {a:α} {out:Except ε (β×X)} (hk:call f (.ptr 1 0::M.dA.enc a) (two (M.dS.enc x)) 2 (Ygb M gth n dec b5 x out)):Zeg M f x a out:=by
 obtain⟨r,hr,hR,a9⟩:=d4 f _ _ _ _ (Yga _) hk
 unfold Ygb at hr
 split at hr
 ·exact hr.elim
 rename_i c0
 have b3:∀b∈r.mods,b=0:=λb hb=>by
  obtain⟨y,hy⟩:=aY.1 (hR b hb)
  rcases Zmu hy with⟨e,_⟩|⟨e,_⟩
  ·exact e
  ·subst e;rw[memB_iff.2 hb] at c0;cases c0
 have b6:∀(p q:Nat×Nat) (b:Nat),2<=b->b<2+r.n->σ2 p q b=none:=by
  intro p q b hb _
  match b,hb with
  |b+2,_=>rfl
 have c5:∀(p q:Nat×Nat) (g I a5:GH) (w w':World) (σ':Pl),Stp 2 r.n r.mods (σ2 p q) g w σ' I w'->I.le a5->(∀q o v,a5.cell q o=ae v->I.cell q o=ae v\/w.heap.size<=q)->(∀q es,a5.obj q=ae es->I.obj q=ae es\/w.heap.size<=q)->Stp 2 0 [0] (σ2 p q) g w (σ2 p q) a5 w':=by
  intro p q g I a5 w w' σ' U a6 hc hm
  refine⟨.refl _,λb q h=> .inl h,U.gle.trans a6,λq o v R=> ?_,λq es R=> ?_,λq hq hx=>U.heap q hq λb hb=>hx b (by rw[b3 b hb];simp),U.size,U.os,U.tape,U.output,λb q z J h2=>by rw[J] at h2;cases h2⟩
  ·rcases hc q o v R with J|J
   ·rcases U.gcnew q o v J with h2|h2|⟨b,h2,h3⟩
    ·exact .inl h2
    ·exact .inr (.inl h2)
    ·exact .inr (.inr ⟨b,by rw[b3 b h2];simp,h3⟩)
   ·exact .inr (.inl J)
  ·rcases hm q es R with J|J
   ·exact U.gmnew q es J
   ·exact .inr J
 have start:∀(B:Nat) (σ:Pl) (g:GH) (w:World) (a2:Array Value),Inv E B σ (two (M.dS.enc x)) g w->DenL E σ g (.ptr 1 0::M.dA.enc a) a2.toList->∃rr zz r1 z1,σ 0=ae (rr,zz)/\σ 1=ae (r1,z1)/\Inv E B (σ2 (rr,zz) (r1,z1)) (two (M.dS.enc x)) g w/\DenL E (σ2 (rr,zz) (r1,z1)) g (.ptr 1 0::M.dA.enc a) a2.toList:=by
  intro B σ g w a2 hI hd
  obtain⟨rr,zz,a4,_⟩:=hI.blk 0 _ (Z9s _)
  obtain⟨r1,z1,a8,_⟩:=hI.blk 1 _ (Yk9 _)
  exact⟨rr,zz,r1,z1,a4,a8,Zsp hE hI (Z9s _) (Yk9 _) a4 a8 (by omega) rfl rfl (M.hS x) (λσ g j e5 hj=>⟨e5,hj,λu h=>h⟩),Z9u hE (M.hA a) a8 hd⟩
 split at hr
 ·rename_i q hq
  split at hr
  case h_2=>exact hr.elim
  rename_i e he
  subst hr
  show Ylb E f _ _ (M.pv e)
  refine⟨_,rfl,λB σ g w a2 hI hB d8 hd=> ?_⟩
  obtain⟨rr,zz,r1,z1,a4,a8,a1,b2⟩:=start B σ g w a2 hI hd
  refine(a9.panic hq a1 hB (b6 _ _) b2).mono ?_
  rintro en w' ⟨rfl,σ',I,U,a0⟩
  refine⟨by rw[d6 q e he],?_⟩
  have b1:=c5 _ _ g I I w w' σ' U (.refl _) (λ_ _ _ h=> .inl h) (λ_ _ h=> .inl h)
  have b0:Inv E B (σ2 (rr,zz) (r1,z1)) (λ_=>au) I w':=⟨a0.gc,a0.gm,(λb x hx=>by cases hx),λb b' r z z' J=>ka rfl J,λb r z hs=>⟨(a1.base b r z hs).1,ck (a1.base b r z hs).2 U.size⟩,(λb x r z o v hx=>by cases hx),(λb x r z hx=>by cases hx),a0.glob⟩
  obtain⟨q1,q2⟩:=Ui hE (i:=2) (v:= .pan (M.pv e)) (v0:= .unk) (x':=none) hI (Z9s _) a4 rfl b1 b0 (λc hc=>by cases hc) (λc hc=>by cases hc)
  refine⟨σ,I,q1,?_⟩
  have e2:patch (two (M.dS.enc x)) 2 ⟨.pan (M.pv e),0,[0],at1 0 (rawO au),au⟩=patch (two (M.dS.enc x)) 2 (panR (M.pv e)):=by
   funext b
   rw[Zp,Zp]
   by_cases c:b=0
   ·subst c
    rw[jM (by simp),jM (by simp[panR])]
    rfl
   ·rw[jJ (by simp[c]),jJ (by simp[panR,c])]
  rw[<-e2];exact q2
 ·rename_i hq
  have a9:=a9.tri hq
  obtain⟨v',bs,hr,o1⟩:=Zbp hE n r.v _ hr
  split at hr
  case h_2=>exact hr.elim
  rename_i c2 tg h0
  obtain⟨c7,c6,hr,o2⟩:=Uw (Zbp hE n) hr
  split at hr
  case h_2=>exact hr.elim
  rename_i y x' a7 hy e4
  rw[bI] at a7
  subst hr
  show Yla E f _ _ (M.v y) _
  intro B σ g w a2 hh e1 hI hB d8 hd
  obtain rfl:hh=two (M.dS.enc x):=funext λb=>e1 b jX
  obtain⟨rr,zz,r1,z1,a4,a8,a1,b2⟩:=start B σ g w a2 hI hd
  refine(a9 B _ g w a2 _ (λ_ _=>rfl) a1 hB (b6 _ _) b2).mono ?_
  rintro en w' ⟨u,rfl,σ',I,U,a0,R⟩
  refine⟨u,rfl,?_⟩
  have b4:σ' 0=ae (rr,zz):=U.sig 0 _ rfl
  have e7:rr<w.heap.size:=(a1.base 0 rr zz rfl).2
  have d7:=Z9t b3 U a0 (by rw[h0];simp)
  have a6:=Zdy (n:=w.heap.size) a0
  have b9:Kept E (patch (two (M.dS.enc x)) 2 r) σ' (bs++c6) w' (allG I w.heap.size w'):=by
   intro b hb q z y1 hs a3 j v hj R
   have c8:b≠0:=by
    rintro rfl
    have:=memB_iff.2 hb
    rw[this] at a7;cases a7.1
   have c9:b≠1:=by
    rintro rfl
    have:=memB_iff.2 hb
    rw[this] at a7;cases a7.2
   show(if w.heap.size<=q then w'.cell? ⟨q,j,au⟩ else I.cell q j)=ae v
   rw[jM (d7 b q z c8 c9 (by rw[a3];simp) hs)]
   exact R
  have e3:=o1.den _ σ' I w' B u _ (λ_ _=>rfl) a0 a6 (b9.sub λb hb=>eX _ hb) R
  have b7:∀q o v,(allG I w.heap.size w').cell q o=ae v->I.cell q o=ae v\/w.heap.size<=q:=by
   intro q o v R
   have R:(if w.heap.size<=q then w'.cell? ⟨q,o,au⟩ else I.cell q o)=ae v:=R
   split at R
   ·exact .inr (by assumption)
   ·exact .inl R
  have c4:∀q es,(allG I w.heap.size w').obj q=ae es->I.obj q=ae es\/w.heap.size<=q:=by
   intro q es R
   have R:(if w.heap.size<=q then(match w'.heap[q]? with|some (.map es _)=>ae es|_=>au) else I.obj q)=ae es:=R
   split at R
   ·exact .inr (by assumption)
   ·exact .inl R
  have b1:=c5 _ _ g I _ w w' σ' U a6 b7 c4
  have hG:=Zho (n:=w.heap.size) (B':=B) a0
  obtain⟨c1,e6,c3⟩:=M.dS.ok _ _ e4
  have b0:Inv E B (σ2 (rr,zz) (r1,z1)) (one (M.dS.enc x')) (allG I w.heap.size w') w':=by
   refine⟨hG.gc,hG.gm,λb y1 a3=> ?_,λb b' q z z' J h2 _ _=>by rw[Zeh J,Zeh h2],λb q z hs=>⟨(a1.base b q z hs).1,ck (a1.base b q z hs).2 U.size⟩,λb y1 q z o v a3 hs R=> ?_,λb y1 q z a3 hs=> ?_,hG.glob⟩
   ·obtain⟨rfl,rfl⟩:=U9 a3
    refine⟨rr,zz,rfl,?_⟩
    obtain⟨r2,z2,m1,arr,e,k1,k2,k3,k4,k5⟩:=a0.blk 0 _ h0
    rw[b4] at m1;cases m1
    have hl:c7.length=c2.length:=o2.len
    refine⟨arr,e,k1,k2,?_,λj sv hj=> ?_,jX⟩
    ·simp only[Blk.cells] at k3⊢;omega
    ·obtain⟨s1,J,h2⟩:=c3 σ0 (allG I w.heap.size w') j sv hj
     have b8:j<c2.length:=by rw[<-hl];exact(ai.1 J).1
     obtain⟨v,m1,m2⟩:=k4 j _ (ao b8)
     have:=o2.den _ σ' I w' B _ (λ_ _=>rfl) a0 a6 (b9.sub λb hb=>dE _ hb) j _ s1 v (ao b8) J m2
     exact⟨v,m1,(h2 v this).mono (λb p h=>by cases h) (.refl _)⟩
   ·obtain⟨rfl,rfl⟩:=U9 a3
    rcases σ2_some hs with⟨_,e⟩|⟨e0,_⟩
    case inr=>omega
    cases e
    rcases b7 _ o v R with J|J
    ·have h2:o<0:=a0.fz 0 (.raw c2 0 tg) _ _ o v h0 b4 J
     omega
    ·omega
   ·obtain⟨rfl,rfl⟩:=U9 a3
    rcases σ2_some hs with⟨_,e⟩|⟨e0,_⟩
    case inr=>omega
    cases e
    cases d9:(allG I w.heap.size w').obj rr with
    |none=>rfl
    |some es=>
     rcases c4 _ es d9 with J|J
     ·rw[a0.fm 0 _ _ _ h0 b4] at J;cases J
     ·omega
  obtain⟨q1,q2⟩:=Ui hE (i:=2) (v:=M.v y) (v0:= .unk) (x':=some (M.dS.enc x')) hI (Z9s _) a4 rfl b1 b0 (λc hc=>by cases hc;rfl) (λc hc=>by cases hc;exact M.hS x')
  exact⟨σ,_,q1,q2,(d5 v' y hy _ _ u e3).mono (λb p h=>by cases h) (.refl _)⟩
end
end
end
section
open Go
noncomputable def mK2{α J:Type} (I:DcL E α) (R:∀a,nidL 0 (I.enc a)=ac) (d:Dc E J) (U:∀y,nid 0 (d.enc y)=ac) (l:List Tok) (e:Int) (out:PR J):Res thy->Prop:=
 Ygb (mI I R d U) (λ_=>au) 3 d.dec Zw9 (l,e,()) out
theorem Zsz{F:Fns thy} (hF:FnsOk E F) {n:Nat} {α U:Type} {I:DcL E α} {J:∀a,nidL 0 (I.enc a)=ac} {d:Dc E U} {R:∀y,nid 0 (d.enc y)=ac} {f:Nat} {l:List Tok} {e:Int} {a:α} {out:PR U}
 (hk:Zk E F (vc E F n) f (.ptr 1 0::I.enc a) (two [.psl dm l ab,.int ab .i64 e]) 2 (mK2 I J d R l e out)):Zeg (mI I J d R) f (l,e,()) a out:=
 Zpg E_ok (Zd E_ok hF n) (λv y h=>(d.ok v y h).2.2) Zq0 (x:=(l,e,())) hk
def sMul:List Nat:= [42]
def Zdi:List Nat:= [43]
def U0:List Nat:= [45]
def op1(l:List Tok):Int×List Tok:=if isW sMul l then(5,l.tail) else(0,l)
def op2(l:List Tok):Int×List Tok:=if isW Zdi l then(3,l.tail) else if isW U0 l then(4,l.tail) else(0,l)
def pOp(o:List Tok->Int×List Tok) (l:List Tok) (e:Int):PR Int:= .ok ((o l).1,(o l).2,e,())
theorem Z92(l:List Tok) (e:Int) (out:PR Int):Zk E Fme (vc E Fme 400) 108 [.ptr 1 0] (two [.psl dm l ab,.int ab .i64 e]) 2 (mK2 .nil n0 dN (λ_=>rfl) l e out)=(
(isW [42] l=ac->out=aX (5,bC l,e,()))/\(isW [42] l=ab->out=aX (0,l,e,()))):=by kernel_rfl
theorem Z93(l:List Tok) (e:Int) (out:PR Int):Zk E Fme (vc E Fme 400) 109 [.ptr 1 0] (two [.psl dm l ab,.int ab .i64 e]) 2 (mK2 .nil n0 dN (λ_=>rfl) l e out)=(
(isW [43] l=ac->out=aX (3,bC l,e,()))/\(isW [43] l=ab->(isW [45] l=ac->out=aX (4,bC l,e,()))/\(isW [45] l=ab->out=aX (0,l,e,())))):=by kernel_rfl
theorem Ygq(l:List Tok) (e:Int):Zeg (mI .nil n0 dN (λ_=>rfl)) 108 (l,e,()) () (pOp op1 l e):=by
 refine Zsz Zig (n:=400) (a:=()) ?_;rw[show(DcL.nil (E:=E)).enc ()= [] from rfl,Z92];exact⟨λh=>by simp[pOp,op1,sMul,h],λh=>by simp[pOp,op1,sMul,h]⟩
theorem Ygr(l:List Tok) (e:Int):Zeg (mI .nil n0 dN (λ_=>rfl)) 109 (l,e,()) () (pOp op2 l e):=by
 refine Zsz Zig (n:=400) (a:=()) ?_;rw[show(DcL.nil (E:=E)).enc ()= [] from rfl,Z93];exact⟨λh=>by simp[pOp,op2,Zdi,h],λh=>⟨λI=>by simp[pOp,op2,Zdi,U0,h,I],λI=>by simp[pOp,op2,Zdi,U0,h,I]⟩⟩
theorem Zs0(l:List Tok):(op1 l).2.length<=l.length:=by
 unfold op1;split
 ·have:=Zw (by assumption);show l.tail.length<=_;omega
 ·exact av _
theorem Zs1(l:List Tok):(op2 l).2.length<=l.length:=by
 unfold op2;split
 ·have:=Zw (by assumption);show l.tail.length<=_;omega
 ·split
  ·have:=Zw (by assumption);show l.tail.length<=_;omega
  ·exact av _
def Xq(o:List Tok->Int×List Tok) (pf:PE):Nat->Ex->Int->List Tok->Int->PR Ex
 |0,x,_,l,e=> .ok (x,l,e,())
 |k+1,x,op,l,e=>
  if op=0 then .ok (x,l,e,())
  else match pf l e with
   | .error I=> .error I
   | .ok (y,z)=>Xq o pf k (.mk op 0 0 0 0 0 [x,y]) (o z.1).1 (o z.1).2 z.2.1
def pCh(o:List Tok->Int×List Tok) (pf:PE) (l:List Tok) (e:Int):PR Ex:=
 match pf l e with
 | .error I=> .error I
 | .ok (y,z)=>Xq o pf ((o z.1).2.length+1) y (o z.1).1 (o z.1).2 z.2.1
noncomputable def Sop1:Sum thy:=Z29 (mI .nil n0 dN (λ_=>rfl)) (λ_ _=>True) λx _=>pOp op1 x.1 x.2.1
noncomputable def Sop2:Sum thy:=Z29 (mI .nil n0 dN (λ_=>rfl)) (λ_ _=>True) λx _=>pOp op2 x.1 x.2.1
theorem Ygs:SumOk E 108 Sop1:=Zmv E_ok (Zc rfl) λx _ _=>Ygq x.1 x.2.1
theorem Ygt:SumOk E 109 Sop2:=Zmv E_ok (Zc rfl) λx _ _=>Ygr x.1 x.2.1
structure CX where
 e:Ex
 op:Int
 l:List Tok
 ed:Int
 k:Nat
def celP(T:Fr thy):Nat:=match T 2 with| .fn _ _ [.ptr c _]=>c|_=>0
def parP(T:Fr thy) (h:Hp thy):Nat:=match h (celP T) with|some (.raw [.ptr p _] _ _)=>p|_=>0
noncomputable def Ach:Fr thy->Hp thy->Nat->Ann thy:=λT h i=>{X:=CX,fr:=λx=> [(1,T 1),(2,T 2),(6,T 6),(7,T 7),(8,.int ab .i64 x.op)],bl:=λx=>(parP T h,.raw [.psl dm x.l ab,.int ab .i64 x.ed] 0 au)::(celP T,.raw [.ptr (parP T h) 0] 0 au)::(bOf (T 7),.raw (E.enc iv x.e) 0 au)::blkP h (T 6),src:=λ_=> [],md:= [parP T h,bOf (T 7)],ih:=i,M:=i+60,meas:=λx=>x.k,fz:= [7]}
noncomputable def Sfac(n:Nat) (pf:PE):Sum thy:=sumM (mI .nil n0 dEx (λ_=>rfl)) (λx _=>x.1.length<n) λx _=>pf x.1 x.2.1
noncomputable def Stm(n:Nat) (pf:PE):Sum thy:=Z29 (mI .nil n0 dEx (λ_=>rfl)) (λx _=>x.1.length<n) λx _=>pf x.1 x.2.1
noncomputable def Ftm(n:Nat) (pf:PE):Fns thy:=addL (addS (addS F0 107 (Sfac n pf)) 108 Sop1) 106 3 Ach E
noncomputable def Fxp(n:Nat) (pf:PE):Fns thy:=addL (addS (addS F0 105 (Stm n pf)) 109 Sop2) 106 3 Ach E
abbrev qCA3:=(0:Int)
abbrev qCA5:=(0:Nat)
abbrev qCA1:=(qCA3=qCA3/\qCA3=qCA3/\qCA3=qCA3/\qCA3=qCA3/\qCA3=qCA3/\qCA3=qCA3/\aG au qCA5 qCA5=aG au qCA5 qCA5/\True)
abbrev qCA2(I:Int) (J:CX):=((cF (107:Nat)=cF (107:Nat)/\(qCA5=qCA5/\True)/\True)/\(cF (108:Nat)=cF (108:Nat)/\True/\qCA5=qCA5/\True)/\qCA5=qCA5/\qCA5=qCA5/\I=CX.op J/\True)
abbrev qCA4:=(ab=ac->ab=ac)
theorem Z3f(n:Nat) (pf:PE) (l:List Tok) (e:Int) (out:PR Ex):Zk E (Ftm n pf) (vc E (Ftm n pf) 400) 105 [.ptr 1 0] (two [.psl dm l ab,.int ab .i64 e]) 2 (mK2 .nil n0 dEx (λ_=>rfl) l e out)=(
 aa l+1<=n/\(∀(y:Ex) (x':PX),pf l e=aX (y,x')->True/\(∀(a1:Int) (J:PX),pOp op1 (ak x') (ak (aD x'))=aX (a1,J)->∃(R:CX->Prop),(∃(x:CX),R x/\ac=ac/\(qCA2 a1 x)/\((ak J=CX.l x/\qCA4)/\ak (aD J)=CX.ed x/\True)/\(qCA5=qCA5/\True)/\(aM y=aM (CX.e x)/\bX y=bX (CX.e x)/\bD y=bD (CX.e x)/\bE y=bE (CX.e x)/\bF y=bF (CX.e x)/\bG y=bG (CX.e x)/\(bw y=bw (CX.e x)/\qCA4)/\True)/\qCA1/\True)/\∀(x:CX),R x->((CX.op x !=qCA3)=ac->aa (CX.l x)+1<=n/\(∀(y:Ex) (x':PX),pf (CX.l x) (CX.ed x)=aX (y,x')->True/\(∀(a2:Int) (U:PX),pOp op1 (ak x') (ak (aD x'))=aX (a2,U)->∃(I:CX),R I/\I.5+1<=x.5/\ac=ac/\(qCA2 a2 I)/\((ak U=CX.l I/\qCA4)/\ak (aD U)=CX.ed I/\True)/\(qCA5=qCA5/\True)/\(CX.op x=aM (CX.e I)/\qCA3=bX (CX.e I)/\qCA3=bD (CX.e I)/\qCA3=bE (CX.e I)/\qCA3=bF (CX.e I)/\qCA3=bG (CX.e I)/\([bV (aM (CX.e x)) (bX (CX.e x)) (bD (CX.e x)) (bE (CX.e x)) (bF (CX.e x)) (bG (CX.e x)) (bw (CX.e x)),bV (aM y) (bX y) (bD y) (bE y) (bF y) (bG y) (bw y)]=bw (CX.e I)/\qCA4)/\True)/\qCA1/\True)/\∀(e:Int×Int),pOp op1 (ak x') (ak (aD x'))=aB e->out=aB e)/\∀(e:Int×Int),pf (CX.l x) (CX.ed x)=aB e->out=aB e)/\((CX.op x !=qCA3)=ab->out=aX (bV (aM (CX.e x)) (bX (CX.e x)) (bD (CX.e x)) (bE (CX.e x)) (bF (CX.e x)) (bG (CX.e x)) (bw (CX.e x)),CX.l x,CX.ed x,())))/\∀(e:Int×Int),pOp op1 (ak x') (ak (aD x'))=aB e->out=aB e)/\∀(a0:Int×Int),pf l e=aB a0->out=aB a0):=by kernel_rfl
abbrev qCA8:=(0:Int)
abbrev qCAa:=(0:Nat)
abbrev qCA6:=(qCA8=qCA8/\qCA8=qCA8/\qCA8=qCA8/\qCA8=qCA8/\qCA8=qCA8/\qCA8=qCA8/\aG au qCAa qCAa=aG au qCAa qCAa/\True)
abbrev qCA7(I:Int) (J:CX):=((cF (105:Nat)=cF (105:Nat)/\True/\qCAa=qCAa/\True)/\(cF (109:Nat)=cF (109:Nat)/\True/\qCAa=qCAa/\True)/\qCAa=qCAa/\qCAa=qCAa/\I=CX.op J/\True)
abbrev qCA9:=(ab=ac->ab=ac)
theorem Z3g(n:Nat) (pf:PE) (l:List Tok) (e:Int) (out:PR Ex):Zk E (Fxp n pf) (vc E (Fxp n pf) 400) 63 [.ptr 0 0] (one [.psl dm l ab,.int ab .i64 e]) 1 (mK .nil n0 dEx (λ_=>rfl) l e out)=(
 aa l+1<=n/\(∀(y:Ex) (x':PX),pf l e=aX (y,x')->True/\(∀(a1:Int) (J:PX),pOp op2 (ak x') (ak (aD x'))=aX (a1,J)->∃(R:CX->Prop),(∃(x:CX),R x/\ac=ac/\(qCA7 a1 x)/\((ak J=CX.l x/\qCA9)/\ak (aD J)=CX.ed x/\True)/\(qCAa=qCAa/\True)/\(aM y=aM (CX.e x)/\bX y=bX (CX.e x)/\bD y=bD (CX.e x)/\bE y=bE (CX.e x)/\bF y=bF (CX.e x)/\bG y=bG (CX.e x)/\(bw y=bw (CX.e x)/\qCA9)/\True)/\qCA6/\True)/\∀(x:CX),R x->((CX.op x !=qCA8)=ac->aa (CX.l x)+1<=n/\(∀(y:Ex) (x':PX),pf (CX.l x) (CX.ed x)=aX (y,x')->True/\(∀(a2:Int) (U:PX),pOp op2 (ak x') (ak (aD x'))=aX (a2,U)->∃(I:CX),R I/\I.5+1<=x.5/\ac=ac/\(qCA7 a2 I)/\((ak U=CX.l I/\qCA9)/\ak (aD U)=CX.ed I/\True)/\(qCAa=qCAa/\True)/\(CX.op x=aM (CX.e I)/\qCA8=bX (CX.e I)/\qCA8=bD (CX.e I)/\qCA8=bE (CX.e I)/\qCA8=bF (CX.e I)/\qCA8=bG (CX.e I)/\([bV (aM (CX.e x)) (bX (CX.e x)) (bD (CX.e x)) (bE (CX.e x)) (bF (CX.e x)) (bG (CX.e x)) (bw (CX.e x)),bV (aM y) (bX y) (bD y) (bE y) (bF y) (bG y) (bw y)]=bw (CX.e I)/\qCA9)/\True)/\qCA6/\True)/\∀(e:Int×Int),pOp op2 (ak x') (ak (aD x'))=aB e->out=aB e)/\∀(e:Int×Int),pf (CX.l x) (CX.ed x)=aB e->out=aB e)/\((CX.op x !=qCA8)=ab->out=aX (bV (aM (CX.e x)) (bX (CX.e x)) (bD (CX.e x)) (bE (CX.e x)) (bF (CX.e x)) (bG (CX.e x)) (bw (CX.e x)),CX.l x,CX.ed x,())))/\∀(e:Int×Int),pOp op2 (ak x') (ak (aD x'))=aB e->out=aB e)/\∀(a0:Int×Int),pf l e=aB a0->out=aB a0):=by kernel_rfl
theorem Ylf{n:Nat} {pf:PE} (I:∀l e,l.length<n->Ud (mI .nil n0 dEx (λ_=>rfl)) 107 (l,e,()) () (pf l e)):FnsOk E (Ftm n pf):=Zm E_ok (Zb (Zb F0_ok (Wd E_ok (Zc rfl) λx _ h=>I x.1 x.2.1 h)) Ygs) _ _ _
theorem Ylg{n:Nat} {pf:PE} (I:∀l e,l.length<n->Zeg (mI .nil n0 dEx (λ_=>rfl)) 105 (l,e,()) () (pf l e)):FnsOk E (Fxp n pf):=Zm E_ok (Zb (Zb F0_ok (Zmv E_ok (Zc rfl) λx _ h=>I x.1 x.2.1 h)) Ygt) _ _ _
theorem Z94{n:Nat} {pf:PE} (a4:∀l e,l.length<n->Ud (mI .nil n0 dEx (λ_=>rfl)) 107 (l,e,()) () (pf l e)) (H:Shr pf) (l:List Tok) (e:Int) (hl:l.length<n):
 Zeg (mI .nil n0 dEx (λ_=>rfl)) 105 (l,e,()) () (pCh op1 pf l e):=by
 refine Zsz (Ylf a4) (n:=400) (a:=()) ?_
 rw[show(DcL.nil (E:=E)).enc ()= [] from rfl,Z3f];delta qCA3 qCA5 qCA1 qCA2 qCA4
 refine⟨by omega,λy x' h=>⟨jX,λy1 x1 ho=> ?_,λer ho=>by cases ho⟩,λer h=>by simp[pCh,h]⟩
 unfold pOp at ho
 injection ho with ho
 injection ho with a2 a3
 subst a2;subst a3
 have hs:=H _ _ _ _ h
 have a6:=Zs0 x'.1
 refine⟨λx=>Xq op1 pf x.k x.e x.op x.l x.ed=pCh op1 pf l e/\x.l.length<x.k/\x.l.length<n,⟨⟨y,(op1 x'.1).1,(op1 x'.1).2,x'.2.1,(op1 x'.1).2.length+1⟩,⟨by simp[pCh,h],(by show(op1 x'.1).2.length<(op1 x'.1).2.length+1;omega),(by show(op1 x'.1).2.length<n;omega)⟩,by simp⟩,?_⟩
 rintro⟨x,op,l1,ed,k⟩ ⟨hR,hk,hn⟩
 have hk:l1.length<k:=hk
 have hn:l1.length<n:=hn
 cases k with
 |zero=>omega
 |succ k=>
  have hR:Xq op1 pf (k+1) x op l1 ed=pCh op1 pf l e:=hR
  rw[<-hR]
  refine⟨λI=>⟨by omega,λy2 R J=>⟨jX,λy3 x3 U=> ?_,λer U=>by cases U⟩,λer J=> ?_⟩,λI=> ?_⟩
  ·unfold pOp at U
   injection U with U
   injection U with a0 a1
   subst a0;subst a1
   have I:op≠0:=by simpa using I
   have J:pf l1 ed= .ok (y2,R):=J
   have hq:=H _ _ _ _ J
   have a5:=Zs0 R.1
   refine⟨⟨.mk op 0 0 0 0 0 [x,y2],(op1 R.1).1,(op1 R.1).2,R.2.1,k⟩,⟨?_,(by show(op1 R.1).2.length<k;omega),(by show(op1 R.1).2.length<n;omega)⟩,av _,?_⟩
   ·show Xq op1 pf k _ _ _ _=_
    simp[Xq,I,J]
   ·simp only[Ex.eta]
    repeat' (first|exact rfl|exact jX|exactλh=>h|apply aC)
  ·have I:op≠0:=by simpa using I
   have J:pf l1 ed= .error er:=J
   simp[Xq,I,J]
  ·have I:op=0:=by simpa using I
   simp[Xq,I,Ex.eta]
theorem Z3h{n:Nat} {pf:PE} (a4:∀l e,l.length<n->Zeg (mI .nil n0 dEx (λ_=>rfl)) 105 (l,e,()) () (pf l e)) (H:Shr pf) (l:List Tok) (e:Int) (hl:l.length<n):
 Ud (mI .nil n0 dEx (λ_=>rfl)) 63 (l,e,()) () (pCh op2 pf l e):=by
 refine Zar (Ylg a4) (n:=400) (a:=()) ?_
 rw[show(DcL.nil (E:=E)).enc ()= [] from rfl,Z3g];delta qCA8 qCAa qCA6 qCA7 qCA9
 refine⟨by omega,λy x' h=>⟨jX,λy1 x1 ho=> ?_,λer ho=>by cases ho⟩,λer h=>by simp[pCh,h]⟩
 unfold pOp at ho
 injection ho with ho
 injection ho with a2 a3
 subst a2;subst a3
 have hs:=H _ _ _ _ h
 have a6:=Zs1 x'.1
 refine⟨λx=>Xq op2 pf x.k x.e x.op x.l x.ed=pCh op2 pf l e/\x.l.length<x.k/\x.l.length<n,⟨⟨y,(op2 x'.1).1,(op2 x'.1).2,x'.2.1,(op2 x'.1).2.length+1⟩,⟨by simp[pCh,h],(by show(op2 x'.1).2.length<(op2 x'.1).2.length+1;omega),(by show(op2 x'.1).2.length<n;omega)⟩,by simp⟩,?_⟩
 rintro⟨x,op,l1,ed,k⟩ ⟨hR,hk,hn⟩
 have hk:l1.length<k:=hk
 have hn:l1.length<n:=hn
 cases k with
 |zero=>omega
 |succ k=>
  have hR:Xq op2 pf (k+1) x op l1 ed=pCh op2 pf l e:=hR
  rw[<-hR]
  refine⟨λI=>⟨by omega,λy2 R J=>⟨jX,λy3 x3 U=> ?_,λer U=>by cases U⟩,λer J=> ?_⟩,λI=> ?_⟩
  ·unfold pOp at U
   injection U with U
   injection U with a0 a1
   subst a0;subst a1
   have I:op≠0:=by simpa using I
   have J:pf l1 ed= .ok (y2,R):=J
   have hq:=H _ _ _ _ J
   have a5:=Zs1 R.1
   refine⟨⟨.mk op 0 0 0 0 0 [x,y2],(op2 R.1).1,(op2 R.1).2,R.2.1,k⟩,⟨?_,(by show(op2 R.1).2.length<k;omega),(by show(op2 R.1).2.length<n;omega)⟩,av _,?_⟩
   ·show Xq op2 pf k _ _ _ _=_
    simp[Xq,I,J]
   ·simp only[Ex.eta]
    repeat' (first|exact rfl|exact jX|exactλh=>h|apply aC)
  ·have I:op≠0:=by simpa using I
   have J:pf l1 ed= .error er:=J
   simp[Xq,I,J]
  ·have I:op=0:=by simpa using I
   simp[Xq,I,Ex.eta]
end
section
open Go
def Bnd(I:PE):Prop:=∀l e x y,I l e= .ok (x,y)->x.sz+2*y.1.length<=2*l.length
theorem Bnd.shr{pe:PE} (h:Bnd pe):Shr pe:=λl e x y I=>by
 have:=h l e x y I;have:=Ex.sz_pos x;omega
theorem Zle:∀(a b:List Ex),Ex.szL (a++b)=Ex.szL a+Ex.szL b
 | [],b=>by simp[Ex.szL]
 |x::a,b=>by simp[Ex.szL,Zle a b];omega
theorem Zv4{pe:PE} (h:Bnd pe):∀{ss:List (List Nat)} {J:List Ex} {l:List Tok} {e:Int} {xs:List Ex} {y:PX},pOpL pe ss J l e= .ok (xs,y)->Ex.szL xs+2*y.1.length<=Ex.szL J+2*l.length
 | [],J,l,e,xs,y,I=>by
  unfold pOpL at I
  injection I with I
  injection I with R U
  subst R;subst U
  exact av _
 |s::r,J,l,e,xs,y,I=>by
  unfold pOpL at I
  split at I
  ·cases I
  ·rename_i x z hx
   split at I
   ·rename_i hw
    have R:=h _ _ _ _ hx
    have U:=Zw hw
    have h3:=Zv4 h I
    rw[Zle] at h3
    have h4:Ex.szL [x]=x.sz:=by simp[Ex.szL]
    omega
   ·cases I
theorem Zv5{R:PE} (h:Bnd R) {op:Int} {ss:List (List Nat)} {l:List Tok} {e:Int} {x:Ex} {y:PX} (I:pOps R op ss l e= .ok (x,y)):x.sz+2*y.1.length<=2*l.length:=by
 unfold pOps at I;split at I
 ·rename_i hw
  split at I
  ·cases I
  ·rename_i xs z hx
   injection I with I
   injection I with U J
   subst U;subst J;have h3:=Zv4 h hx;have J:=Zw hw;rw[Ex.sz_eq];show Ex.szL xs+1+_<=_;have:Ex.szL ([]:List Ex)=0:=rfl;omega
 ·cases I
theorem Z3i{l:List Tok} {e:Int} {d:List Int} {y:PX} (I:Wc l e= .ok (d,y)):y.1.length<=l.length:=by
 unfold Wc at I;split at I
 ·cases I
 ·rename_i k x hc
  have hx:x.1.length<=l.length:=by
   rcases X3 hc with⟨J,_,rfl⟩|⟨_,_,rfl⟩
   ·have:=Zdt J;show l.tail.length<=_;omega
   ·exact av _
  split at I
  ·rename_i U
   have U:=Zw U;split at I
   ·cases I
   ·rename_i j x1 hm
    obtain⟨J,_,rfl⟩:=U8 hm;have:=Zdt J;injection I with I
    injection I with _ R
    subst R;show x.1.tail.tail.length<=_;omega
  ·injection I with I
   injection I with _ R
   subst R;exact hx
theorem Zpi{pe:PE} (h:Bnd pe):Bnd (Zbm pe):=by
 intro l e x y I;unfold Zbm at I;split at I
 ·rename_i U
  have U:=Zw U;split at I
  ·cases I
  ·rename_i x1 y1 hx
   have R:=h _ _ _ _ hx;split at I
   ·rename_i a0
    have a0:=Zw a0;injection I with I
    injection I with J h3
    subst J;subst h3;show _+2*y1.1.tail.length<=_;omega
   ·cases I
 ·split at I
  ·rename_i U
   have U:=Zw U;have:=Zv5 h I;omega
  ·split at I
   ·cases I
   ·rename_i k y1 hc
    split at I
    ·have R:=Zv5 h I
     rcases X3 hc with⟨J,_,rfl⟩|⟨_,_,rfl⟩
     ·have:=Zdt J
      have R:x.sz+2*y.1.length<=2*l.tail.length:=R;omega
     ·exact R
    ·split at I
     ·cases I
     ·rename_i a z hm
      obtain⟨R,_,rfl⟩:=U8 hm;have hp:=Zdt R;injection I with I
      injection I with J h3
      subst J;subst h3;have hy:y1.1.length<=l.length:=by
       rcases X3 hc with⟨J,_,rfl⟩|⟨_,_,rfl⟩
       ·have:=Zdt J;show l.tail.length<=_;omega
       ·exact av _
      show 1+2*y1.1.tail.length<=_;omega
theorem Ul{J:PE} (h:Bnd J):Bnd (pFac J):=by
 intro l e x y I;unfold pFac at I;split at I
 ·exact Zpi h _ _ _ _ I
 ·split at I
  ·split at I
   ·cases I
   ·rename_i t r _ _ d z hu
    have h1:=Z3i hu;injection I with I
    injection I with R U
    subst R;subst U;show 1+2*z.1.length<=2*(r.length+1);omega
  ·exact Zpi h _ _ _ _ I
def Cns(o:List Tok->Int×List Tok):Prop:=∀l,2*(o l).2.length+(if(o l).1=0 then 0 else 2)<=2*l.length
theorem Zfw:Cns op1:=by
 intro l;unfold op1;split
 ·have:=Zw (by assumption);show 2*l.tail.length+2<=_;omega
 ·simp
theorem Ygu:Cns op2:=by
 intro l;unfold op2;split
 ·have:=Zw (by assumption);show 2*l.tail.length+2<=_;omega
 ·split
  ·have:=Zw (by assumption);show 2*l.tail.length+2<=_;omega
  ·simp
theorem Zpj{o:List Tok->Int×List Tok} {pf:PE} (U:Cns o) (h:Bnd pf):∀{k:Nat} {x:Ex} {op:Int} {l:List Tok} {e:Int} {z:Ex} {y:PX},Xq o pf k x op l e= .ok (z,y)->z.sz+2*y.1.length<=x.sz+2*l.length+(if op=0 then 0 else 2)
 |0,x,op,l,e,z,y,I=>by
  unfold Xq at I
  injection I with I
  injection I with J R
  subst J;subst R
  exact kA _ _
 |k+1,x,op,l,e,z,y,I=>by
  unfold Xq at I
  split at I
  ·injection I with I
   injection I with J R
   subst J;subst R
   exact kA _ _
  ·rename_i a0
   split at I
   ·cases I
   ·rename_i y1 z1 hx
    have h1:=h _ _ _ _ hx
    have J:=Zpj U h I
    have R:=U z1.1
    have h4:(bV op 0 0 0 0 0 [x,y1]).sz=x.sz+y1.sz+1:=by rw[Ex.sz_eq];simp[bw,Ex.szL]
    rw[h4] at J
    rw[jJ a0]
    omega
theorem Zdj{o:List Tok->Int×List Tok} {pf:PE} (J:Cns o) (h:Bnd pf):Bnd (pCh o pf):=by
 intro l e x y I;unfold pCh at I;split at I
 ·cases I
 ·rename_i y1 U R
  have h1:=h _ _ _ _ R;have h2:=Zpj J h I;have h3:=J U.1;omega
def pE:Nat->PE
 |0=>λl e=> .error (hdT e l,160)
 |n+1=>pCh op2 (pCh op1 (pFac (pE n)))
theorem Zap:∀n,Bnd (pE n)
 |0=>λl e x y I=>by cases I
 |n+1=>Zdj Ygu (Zdj Zfw (Ul (Zap n)))
theorem Zv6:∀(n:Nat) (l:List Tok) (e:Int),l.length<n->Ud (mI .nil n0 dEx (λ_=>rfl)) 63 (l,e,()) () (pE n l e)
 |0,l,e,h=>by omega
 |n+1,l,e,h=>Z3h (n:=n+1) (λl e h=>Z94 (n:=n+1) (λl e h=>Zz8 (Zv6 n) (Zap n).shr l e h) (Ul (Zap n)).shr l e h) (Zdj Zfw (Ul (Zap n))).shr l e h
def pX(l:List Tok) (e:Int):PR Ex:=pE (l.length+1) l e
noncomputable def Sx:Sum thy:=sumM (mI .nil n0 dEx (λ_=>rfl)) (λ_ _=>True) λx _=>pX x.1 x.2.1
theorem Yon:SumOk E 63 Sx:=Wd E_ok (Zc rfl) λx _ _=>Zv6 _ _ _ (dC _)
theorem Zpk:Bnd pX:=λl e x y I=>Zap _ l e x y I
end
section
open Go
noncomputable def dCl:Dc E Cls:=(dR .clauses:Dc E (thy.dom bA))
noncomputable def dCls:Dc E (List Cls):=(Zfr (E:=E) bA:Dc E (List (thy.dom bA)))
noncomputable def Ylv:Sum thy:=sumM (mI (dA1 dN) (n1 λ_=>rfl) dTs (λ_=>rfl)) (λ_ _=>True) λx a=>Uc a.1 x.1 x.2.1
theorem Yan:SumOk E 62 Ylv:=Wd E_ok (Zc rfl) λx a _=>Z9r x.1 x.2.1 a.1
def Aif:Fr thy->Hp thy->Nat->Ann thy:=λT h i=>{X:=LX,fr:=λx=> [(0,T 0),(1,T 1),(7,T 7),(8,.int ab .i64 x.k)],bl:=λx=>(match T 1 with| .fn _ _ [v]=>blkP h v|_=> []),src:=λ_=> [],md:= [],ih:=i,M:=i+30,meas:=λx=>x.r}
structure TX where
 ts:List Tst
 l:List Tok
 ed:Int
 more:Bool
 k:Nat
def cellsOf(h:Hp thy) (v:SV thy):List (SV thy):=match h (bOf v) with|some (.raw cs _ _)=>cs|_=> []
def Atl:Fr thy->Hp thy->Nat->Ann thy:=λT h i=>{X:=Bool×TX,fr:=λx=> [(0,T 0),(4,T 4),(5,T 5),(6,T 6),(7,.bool ab x.2.more)],bl:=λx=>(bOf (T 0),.raw [.psl dm x.2.l ab,.int ab .i64 x.2.ed] 0 au)::(bOf (T 6),.raw ((cellsOf h (T 6)).take 1++((match x.1 with|true=> .sl i 0 x.2.ts.length 3 au|false=> .val (.slice au 0 0))::(cellsOf h (T 6)).drop 2)) 0 au)::((match x.1 with|true=> [(i,.rows Th.tests x.2.ts 0)]|false=> [])++blkP h (T 4)),src:=λx=>(match x.1 with|true=> [(i,2006)]|false=> []),md:= [bOf (T 0),bOf (T 6)],ih:=i+1,M:=i+60,meas:=λx=>x.2.k,ex:=ex2,al:=al2,exOk:=Zgg,alOk:=Zgh}
noncomputable def Fcl:Fns thy:=addL (addL (addS (addS (addS (addS Fme 29 Z9n) 62 Ylv) 63 Sx) 64 Zmt) 103 2 Aif E) 31 6 Atl E
theorem Ylw:FnsOk E Fcl:=Zm E_ok (Zm E_ok (Zb (Zb (Zb (Zb Zig Zvy) Yan) Yon) Zid) _ _ _) _ _ _
def pTs:Nat->Bool->List Tst->List Tok->Int->PR (List Tst)
 |0,_,ts,l,e=> .ok (ts,l,e,())
 |k+1,more,ts,l,e=>
  if more then
   match Uc ts.length l e with
   | .error I=> .error I
   | .ok (t,x)=>pTs k (isW [97,110,100] x.1) (ts++ [t]) (if isW [97,110,100] x.1 then x.1.tail else x.1) x.2.1
  else .ok (ts,l,e,())
def pPay(nm:List Nat) (ts:List Tst) (l:List Tok) (e:Int):PR Cls:=
 if isW [112,97,121] l then
  match pX l.tail e with
  | .error I=> .error I
  | .ok (x,y)=>
   if 24<Z9 x then .error (hdT e l.tail,2)
   else if isW [59] y.1 then .ok (⟨nm,ts,x⟩,y.1.tail,y.2.1,()) else .error (hdT y.2.1 y.1,160)
 else .error (hdT e l,160)
def pAft(nm:List Nat) (r:PR (List Tst)):PR Cls:=
 match r with
 | .error I=> .error I
 | .ok (ts,y)=>pPay nm ts y.1 y.2.1
def Yj(bs:List Cls) (l:List Tok) (e:Int):PR Cls:=
 match Zav l e with
 | .error I=> .error I
 | .ok (nm,x)=>
  if bs.any (λb=>b.name==nm) then .error (hdT e l,161)
  else pAft nm (pTs 10 (isW [119,104,101,110] x.1) [] (if isW [119,104,101,110] x.1 then x.1.tail else x.1) x.2.1)
theorem U3{l:List Tok} {e:Int} {y:List Nat} {x:PX} (h:Zav l e= .ok (y,x)):x.1.length<l.length:=by
 unfold Zav at h;split at h
 ·cases h
 ·split at h
  ·split at h
   ·cases h
   ·injection h with h
    injection h with _ h
    subst h;exact dC _
  ·cases h
theorem Zna{l:List Tok} {e:Int} {y:Int} {x:PX} (h:pInt l e= .ok (y,x)):x.1.length<l.length:=by
 unfold pInt at h;split at h
 ·cases h
 ·split at h
  ·injection h with h
   injection h with _ h
   subst h;exact dC _
  ·cases h
theorem Zwn{s:List Nat} {l:List Tok}:(if isW s l=ac then l.tail else l).length<=l.length:=by
 split
 ·have:=Zw (by assumption);omega
 ·exact av _
theorem Ziy{n:Int} {l:List Tok} {e:Int} {y:Tst} {x:PX} (h:Uc n l e= .ok (y,x)):x.1.length<l.length/\n≠8:=by
 unfold Uc at h;split at h
 ·cases h
 ·rename_i a x0 hm
  obtain⟨h1,_,rfl⟩:=U8 hm;have hp:=Zdt h1;split at h
  ·cases h
  ·rename_i hn
   refine⟨?_,hn⟩;split at h
   ·rename_i I
    have I:=Zw I;split at h
    ·cases h
    ·rename_i m J hi
     have hi:=Zna hi;injection h with h
     injection h with _ h
     subst h;have I:l.tail.tail.length+1=l.tail.length:=I;have hi:J.1.length<l.tail.tail.length:=hi;omega
   ·split at h
    ·rename_i I
     have I:=Zw I;split at h
     ·cases h
     ·rename_i m J hi
      have hi:=Zna hi;have I:l.tail.tail.length+1=l.tail.length:=I;have hi:J.1.length<l.tail.tail.length:=hi;split at h
      ·rename_i U
       have U:=Zw U;split at h
       ·cases h
       ·rename_i k x2 R
        have R:=Zna R;injection h with h
        injection h with _ h
        subst h;omega
      ·cases h
    ·cases h
abbrev Zp5(R:Bool×TX->Prop) (y:Int) (a1:List Nat) (out:PR Cls):Prop:=
 ∀(J:TX),R (ab,J)->(TX.more J=ac->True/\(∀(I:Tst) (x':PX),Uc (0:Int) (TX.l J) (TX.ed J)=aX (I,x')->True/\(∀(a2:Bool) (a0
 :PX),pAcc [(97:Nat),(110:Nat),(100:Nat)] (ak x') (ak (aD x'))=aX (a2,a0)->(∃(U:TX),R (ab,U)/\U.5+(1:Nat)<=J.5/\
 ac=ac/\((0:Nat)=(0:Nat)/\(0:Nat)=(0:Nat)/\y=y/\(0:Nat)=(0:Nat)/\a2=TX.more U/\True)/\((ak a0=TX.l U/\(ab=ac->ab=
 ac))/\ak (aD a0)=TX.ed U/\True)/\(a1=a1/\False/\(0:Int)=(0:Int)/\(0:Int)=(0:Int)/\(0:Int)=(0:Int)/\(0:Int)=(0:Int)/\(0:
 Int)=(0:Int)/\(0:Int)=(0:Int)/\aG au (0:Nat) (0:Nat)=aG au (0:Nat) (0:Nat)/\True)/\(([]:List Nat)= []/\aG au (0:
 Nat) (0:Nat)=aG au (0:Nat) (0:Nat)/\(0:Int)=(0:Int)/\(0:Int)=(0:Int)/\(0:Int)=(0:Int)/\(0:Int)=(0:Int)/\(0:Int)=(0:Int)/\(0
 :Int)=(0:Int)/\aG au (0:Nat) (0:Nat)=aG au (0:Nat) (0:Nat)/\True)/\True)\/∃(U:TX),R (ac,U)/\U.5+(1:Nat)<=J.5/\ac
 =ac/\((0:Nat)=(0:Nat)/\(0:Nat)=(0:Nat)/\y=y/\(0:Nat)=(0:Nat)/\a2=TX.more U/\True)/\((ak a0=TX.l U/\(ab=ac->ab=ac))
 /\ak (aD a0)=TX.ed U/\True)/\(a1=a1/\((0:Nat)=(0:Nat)/\(1:Nat)=aa (TX.ts U)/\True)/\(0:Int)=(0:Int)/\(0:Int)=(0:Int)
 /\(0:Int)=(0:Int)/\(0:Int)=(0:Int)/\(0:Int)=(0:Int)/\(0:Int)=(0:Int)/\aG au (0:Nat) (0:Nat)=aG au (0:Nat) (0:Nat)/\
 True)/\([I]=TX.ts U/\(0:Nat)=(0:Nat))/\(([]:List Nat)= []/\aG au (0:Nat) (0:Nat)=aG au (0:Nat) (0:Nat)/\(0:Int)=(0:Int)
 /\(0:Int)=(0:Int)/\(0:Int)=(0:Int)/\(0:Int)=(0:Int)/\(0:Int)=(0:Int)/\(0:Int)=(0:Int)/\aG au (0:Nat) (0:Nat)=aG au
 (0:Nat) (0:Nat)/\True)/\True)/\∀(e:Int×Int),pAcc [(97:Nat),(110:Nat),(100:Nat)] (ak x') (ak (aD x'))=aB e->out=aB
 e)/\∀(e:Int×Int),Uc (0:Int) (TX.l J) (TX.ed J)=aB e->out=aB e)/\(TX.more J=ab->(isW [(112:Nat),(97:Nat),(121:Nat)] (TX.l
 J)=ac->∀(y:Int),y=hdT (TX.ed J) (bC (TX.l J))->True/\(∀(I:Ex) (x':PX),pX (bC (TX.l J)) (TX.ed J)=aX (I,x')->Ex.sz (bV
 (aM I) (bX I) (bD I) (bE I) (bF I) (bG I) (bw I))+(1:Nat)<=(1000000000000:Nat)/\(decide ((↑(Z9 (bV (aM I) (bX I) (bD
 I) (bE I) (bF I) (bG I) (bw I))):Int)>(24:Int))=ac->out=aB (y,(2:Int)))/\(decide ((↑(Z9 (bV (aM I) (bX I) (bD
 I) (bE I) (bF I) (bG I) (bw I))):Int)>(24:Int))=ab->(isW [(59:Nat)] (ak x')=ac->out=aX (eF a1 [] (bV (aM I)
 (bX I) (bD I) (bE I) (bF I) (bG I) (bw I)),bC (ak x'),ak (aD x'),()))/\(isW [(59:Nat)] (ak x')=ab->out=
 aB (hdT (ak (aD x')) (ak x'),(160:Int)))))/\∀(e:Int×Int),pX (bC (TX.l J)) (TX.ed J)=aB e->out=aB e)/\
 (isW [(112:Nat),(97:Nat),(121:Nat)] (TX.l J)=ab->out=aB (hdT (TX.ed J) (TX.l J),(160:Int))))
abbrev Ziz(x':PX) (y:Int) (a0:List Nat) (out:PR Cls):Prop:=
 ∀(a4:Bool) (a2:PX),pAcc [(119:Nat),(104:Nat),(101:Nat),(110:Nat)] (ak x') (ak (aD x'))=aX (a4,a2)->∃(R:Bool×TX->Prop),
 ((∃(I:TX),R (ab,I)/\ac=ac/\((0:Nat)=(0:Nat)/\(0:Nat)=(0:Nat)/\y=y/\(0:Nat)=(0:Nat)/\a4=TX.more I/\True)/\((ak a2=TX.l
 I/\(ab=ac->ab=ac))/\ak (aD a2)=TX.ed I/\True)/\(a0=a0/\aG au (0:Nat) (0:Nat)=aG au (0:Nat) (0:Nat)/\
 (0:Int)=(0:Int)/\(0:Int)=(0:Int)/\(0:Int)=(0:Int)/\(0:Int)=(0:Int)/\(0:Int)=(0:Int)/\(0:Int)=(0:Int)/\aG au (0:Nat) (0:
 Nat)=aG au (0:Nat) (0:Nat)/\True)/\(([]:List Nat)= []/\aG au (0:Nat) (0:Nat)=aG au (0:Nat) (0:Nat)/\(0:Int)=(0:Int)
 /\(0:Int)=(0:Int)/\(0:Int)=(0:Int)/\(0:Int)=(0:Int)/\(0:Int)=(0:Int)/\(0:Int)=(0:Int)/\aG au (0:Nat) (0:Nat)=aG au
 (0:Nat) (0:Nat)/\True)/\True)\/∃(y:TX),R (ac,y)/\ac=ac/\False)/\(Zp5 R y a0 out)/\∀(I:TX),R (ac,I)->(TX.more I=ac->True/\(∀
 (J:Tst) (x':PX),Uc (↑(aa (TX.ts I)):Int) (TX.l I) (TX.ed I)=aX (J,x')->(aa (TX.ts I)<=aa (TX.ts I)/\(0:Nat)<=
 aa (TX.ts I)/\(aa (TX.ts I)+(1:Nat))*(24:Nat)<=(140737488355328:Nat))/\True/\(∀(a3:Bool) (a1:PX),pAcc [(97:Nat),(110:Nat),(100
 :Nat)] (ak x') (ak (aD x'))=aX (a3,a1)->(∃(U:TX),R (ab,U)/\U.5+(1:Nat)<=I.5/\ac=ac/\((0:Nat)=(0:Nat)/\(0:
 Nat)=(0:Nat)/\y=y/\(0:Nat)=(0:Nat)/\a3=TX.more U/\True)/\((ak a1=TX.l U/\(ab=ac->ab=ac))/\ak (aD a1)=TX.ed U
 /\True)/\(a0=a0/\False/\(0:Int)=(0:Int)/\(0:Int)=(0:Int)/\(0:Int)=(0:Int)/\(0:Int)=(0:Int)/\(0:Int)=(0:Int)/\(0:Int)=(0:Int)/\
 aG au (0:Nat) (0:Nat)=aG au (0:Nat) (0:Nat)/\True)/\(([]:List Nat)= []/\aG au (0:Nat) (0:Nat)=aG au (0:Nat) (0
 :Nat)/\(0:Int)=(0:Int)/\(0:Int)=(0:Int)/\(0:Int)=(0:Int)/\(0:Int)=(0:Int)/\(0:Int)=(0:Int)/\(0:Int)=(0:Int)/\aG au (0:
 Nat) (0:Nat)=aG au (0:Nat) (0:Nat)/\True)/\True)\/∃(U:TX),R (ac,U)/\U.5+(1:Nat)<=I.5/\ac=ac/\((0:Nat)=(0:Nat)/\(0:Nat)
 =(0:Nat)/\y=y/\(0:Nat)=(0:Nat)/\a3=TX.more U/\True)/\((ak a1=TX.l U/\(ab=ac->ab=ac))/\ak (aD a1)=TX.ed U/\
 True)/\(a0=a0/\((0:Nat)=(0:Nat)/\aa (TX.ts I)+(1:Nat)=aa (TX.ts U)/\True)/\(0:Int)=(0:Int)/\(0:Int)=(0:Int)/\(0:Int)=
 (0:Int)/\(0:Int)=(0:Int)/\(0:Int)=(0:Int)/\(0:Int)=(0:Int)/\aG au (0:Nat) (0:Nat)=aG au (0:Nat) (0:Nat)/\True)/\
 (aw (aa (TX.ts I)) (TX.ts I)++ [J]=TX.ts U/\(0:Nat)=(0:Nat))/\(([]:List Nat)= []/\aG au (0:Nat) (0:Nat)=aG au
 (0:Nat) (0:Nat)/\(0:Int)=(0:Int)/\(0:Int)=(0:Int)/\(0:Int)=(0:Int)/\(0:Int)=(0:Int)/\(0:Int)=(0:Int)/\(0:Int)=(0:Int)/\aG
 au (0:Nat) (0:Nat)=aG au (0:Nat) (0:Nat)/\True)/\True)/\∀(e:Int×Int),pAcc [(97:Nat),(110:Nat),(100:Nat)] (ak x') (ak (aD
 x'))=aB e->out=aB e)/\∀(e:Int×Int),Uc (↑(aa (TX.ts I)):Int) (TX.l I) (TX.ed I)=aB e->out=aB e)/\
 (TX.more I=ab->(isW [(112:Nat),(97:Nat),(121:Nat)] (TX.l I)=ac->∀(y:Int),y=hdT (TX.ed I) (bC (TX.l I))->True/\(∀(J:Ex) (x':PX),
 pX (bC (TX.l I)) (TX.ed I)=aX (J,x')->Ex.sz (bV (aM J) (bX J) (bD J) (bE J) (bF J) (bG J) (bw J))+(1:Nat)<=
 (1000000000000:Nat)/\(decide ((↑(Z9 (bV (aM J) (bX J) (bD J) (bE J) (bF J) (bG J) (bw J))):Int)>(24:Int))=ac->out=
 aB (y,(2:Int)))/\(decide ((↑(Z9 (bV (aM J) (bX J) (bD J) (bE J) (bF J) (bG J) (bw J))):Int)>(24:Int))=ab->(isW
 [(59:Nat)] (ak x')=ac->(0:Nat)+aa (TX.ts I)<=aa (TX.ts I)/\out=aX (eF a0 (aw (aa (TX.ts I)) (cx (0
 :Nat) (TX.ts I))) (bV (aM J) (bX J) (bD J) (bE J) (bF J) (bG J) (bw J)),bC (ak x'),ak (aD x'),()))/\(isW [(59
 :Nat)] (ak x')=ab->out=aB (hdT (ak (aD x')) (ak x'),(160:Int)))))/\∀(e:Int×Int),pX (bC (TX.l I)) (TX.ed I)=
 aB e->out=aB e)/\(isW [(112:Nat),(97:Nat),(121:Nat)] (TX.l I)=ab->out=aB (hdT (TX.ed I) (TX.l I),(160:Int))))
abbrev Zi0(I:List Nat):Prop:=
 I=I/\aG au (0:Nat) (0:Nat)=aG au (0:Nat) (0:Nat)/\(0:Int)=(0:Int)/\(0:Int)=(0:Int)/\(0:Int)=(0:Int)/\(0:Int)=(0:
 Int)/\(0:Int)=(0:Int)/\(0:Int)=(0:Int)/\aG au (0:Nat) (0:Nat)=aG au (0:Nat) (0:Nat)/\True
abbrev Zi1:Prop:=
 cF (61:Nat)=cF (61:Nat)/\True/\(0:Nat)=(0:Nat)/\True
abbrev qCC1(I:List Cls):=(↑(aa I):Int)
abbrev qCC2(I:LX):=(↑(LX.k I):Int)
theorem Zto(l:List Tok) (e:Int) (bs:List Cls) (out:PR Cls):Zk E Fcl (vc E Fcl 400) 31 [.ptr 0 0,.psl bA bs ab] (one [.psl dm l ab,.int ab .i64 e]) 1 (mK (dA1 dCls) (n1 λ_=>rfl) dCl (λ_=>rfl) l e out)=(
 ∀(y:Int),y=hdT e l->True/\(∀(I:List Nat) (x':PX),Zav l e=aX (I,x')->∃(R:LX->Prop),(∃(x:LX),R x/\ac=ac/\((bs=bs/\(ab=ac->ab=ac))/\(Zi1)/\(qCC1 bs)=(qCC1 bs)/\0=(qCC2 x)/\True)/\(Zi0 I)/\True)/\∀(x:LX),R x->(decide ((qCC2 x)<(qCC1 bs))=ac->0<=(qCC2 x)/\(qCC2 x)+1<=(qCC1 bs)/\∀(J:Cls),bs[af (qCC2 x)]? =ae J->((aK J==I)=ac->(decide ((qCC2 x)>=0)=ac->out=aB (y,161))/\(decide ((qCC2 x)>=0)=ab->True/\(Ziz x' y I out)/\∀(e:Int×Int),pAcc [119,104,101,110] (ak x') (ak (aD x'))=aB e->out=aB e))/\((aK J==I)=ab->∃(U:LX),R U/\U.2+1<=x.2/\ac=ac/\((bs=bs/\(ab=ac->ab=ac))/\(Zi1)/\(qCC1 bs)=(qCC1 bs)/\wr ag ((qCC2 x)+1)=(qCC2 U)/\True)/\(Zi0 I)/\True))/\(decide ((qCC2 x)<(qCC1 bs))=ab->True/\(Ziz x' y I out)/\∀(e:Int×Int),pAcc [119,104,101,110] (ak x') (ak (aD x'))=aB e->out=aB e))/\∀(a0:Int×Int),Zav l e=aB a0->out=aB a0):=by kernel_rfl
theorem Zzn(bs:List Cls) (l:List Tok) (e:Int) (hl:l.length<1000000000) (hb:bs.length<=1000000000):Ud (mI (dA1 dCls) (n1 λ_=>rfl) dCl (λ_=>rfl)) 31 (l,e,()) (bs,()) (Yj bs l e):=by
 refine Zar Ylw (n:=400) (a:=(bs,())) ?_;rw[show(dA1 dCls).enc (bs,())= [.psl bA bs ab] from rfl,Zto];delta qCC1 qCC2;unfold Zi1 Zi0 Ziz Zp5;intro y0 b0;subst b0;refine⟨jX,λnm x h1=> ?_,λer h1=>by simp[Yj,h1]⟩;have hx:=U3 h1;refine⟨λz=>z.k<=bs.length/\(bs.drop z.k).any (λb=>b.name==nm)=bs.any (λb=>b.name==nm)/\z.r=bs.length-z.k,⟨⟨0,bs.length,[],0⟩,⟨(by dsimp only;omega),rfl,rfl⟩,by simp⟩,?_⟩;rintro z ⟨hk,hv,hr⟩;refine⟨λhq=> ?_,λhq=>⟨jX,λmore x1 h2=> ?_,λer h2=>by cases h2⟩⟩
 ·have hq:(z.k:Int)<bs.length:=by simpa using hq
  refine⟨by omega,by omega,λc hc=> ?_⟩;have hc:bs[z.k]? =ae c:=hc;have a8:=(ai.1 hc).1;have a6:bs[z.k]=c:=(ai.1 hc).2;rw[cy a8,a6,List.any_cons] at hv;refine⟨λI=>⟨λ_=> ?_,λa9=>ka a9 (by rw[fG];omega)⟩,λI=> ?_⟩
  ·rw[I,ec] at hv
   simp[Yj,h1,<-hv]
  ·rw[I,dG] at hv
   exact⟨⟨z.k+1,bs.length-(z.k+1),[],0⟩,⟨(by dsimp only;omega),hv,rfl⟩,(by show bs.length-(z.k+1)+1<=z.r;omega),rfl,⟨⟨rfl,λh=>h⟩,⟨rfl,jX,rfl,jX⟩,rfl,wr64 (by omega) (by omega),jX⟩,⟨rfl,rfl,rfl,rfl,rfl,rfl,rfl,rfl,rfl,jX⟩,jX⟩
 ·have hq:¬(z.k:Int)<bs.length:=by simpa using hq
  rw[bL (by omega),List.any_nil] at hv;unfold pAcc at h2;injection h2 with h2
  injection h2 with e1 e2
  subst e1;subst e2;have a4:Yj bs l e=pAft nm (pTs 10 (isW [119,104,101,110] x.1) [] (if isW [119,104,101,110] x.1 then x.1.tail else x.1) x.2.1):=by simp[Yj,h1,<-hv]
  rw[a4];clear hv hk hr hq;have b1:=Zwn (s:= [119,104,101,110]) (l:=x.1);generalize hO:pAft nm (pTs 10 (isW [119,104,101,110] x.1) [] (if isW [119,104,101,110] x.1 then x.1.tail else x.1) x.2.1)=OUT at a4⊢;refine⟨λp=>pAft nm (pTs p.2.k p.2.more p.2.ts p.2.l p.2.ed)=OUT/\p.2.ts.length+p.2.k=10/\p.2.ts.length<=8/\p.2.l.length<1000000000/\(p.1=ab->p.2.ts= []),.inl ⟨⟨[],if isW [119,104,101,110] x.1 then x.1.tail else x.1,x.2.1,isW [119,104,101,110] x.1,10⟩,⟨hO,rfl,aW _,(by dsimp only;omega),λ_=>rfl⟩,by simp⟩,?_,?_⟩
  ·rintro⟨ts,l1,ed,more,k⟩ ⟨hR,hk,h8,a0,a5⟩
   have a5:ts= []:=a5 rfl;subst a5;have hk:k=10:=by simpa using hk
   subst hk;have hR:pAft nm (pTs 10 more [] l1 ed)=OUT:=hR;have a3:l1.length<1000000000:=a0;clear a0;have a0:=a3;clear a3;rw[<-hR];clear hR a4 hO;refine⟨λJ=>⟨jX,λt R h3=>⟨jX,λm2 x3 U=> ?_,λer U=>by cases U⟩,λer h3=> ?_⟩,λJ=> ?_⟩
   ·have a1:more=true:=J
    have a2:Uc 0 l1 ed= .ok (t,R):=h3;clear J h3;subst a1;unfold pAcc at U;injection U with U
    injection U with e1 e2
    subst e1;subst e2;have hq:=Ziy a2;have a7:=Zwn (s:= [97,110,100]) (l:=R.1);refine .inr ⟨⟨[t],if isW [97,110,100] R.1 then R.1.tail else R.1,R.2.1,isW [97,110,100] R.1,9⟩,⟨by simp[pTs,a2],rfl,(by show 1<=8;omega),(by dsimp only;omega),λh=>by cases h⟩,av _,by simp⟩
   ·have a1:more=true:=J
    have a2:Uc 0 l1 ed= .error er:=h3;clear J h3;subst a1;simp[pTs,pAft,a2]
   ·have a1:more=false:=J
    clear J;subst a1;revert a0;dsimp only;intro a0;refine⟨λw y hy=>⟨jX,λex x4 h5=> ?_,λer h5=>by simp[pTs,pAft,pPay,w,h5]⟩,λw=>by simp[pTs,pAft,pPay,w]⟩;subst hy;have hs:=Zpk _ _ _ _ h5;have hw:=Zw w;rw[Ex.eta];refine⟨by omega,λI=> ?_,λI=>⟨λw2=> ?_,λw2=> ?_⟩⟩
    ·have I:(24:Int)<Z9 ex:=by simpa using I
     have I:24<Z9 ex:=by omega
     simp[pTs,pAft,pPay,w,h5,I]
    ·have I:(Z9 ex:Int)<=24:=by simpa using I
     have I:¬24<Z9 ex:=by omega
     simp[pTs,pAft,pPay,w,h5,I,w2]
    ·have I:(Z9 ex:Int)<=24:=by simpa using I
     have I:¬24<Z9 ex:=by omega
     simp[pTs,pAft,pPay,w,h5,I,w2]
  ·rintro⟨ts,l1,ed,more,k⟩ ⟨hR,hk,h8,a0,_⟩
   have hk:ts.length+k=10:=hk;have h8:ts.length<=8:=h8;have hR:pAft nm (pTs k more ts l1 ed)=OUT:=hR;have a3:l1.length<1000000000:=a0;clear a0;have a0:=a3;clear a3;rw[<-hR];clear hR a4 hO;obtain⟨k,rfl⟩:∃k',k=k'+1:=⟨k-1,by omega⟩;refine⟨λJ=>⟨jX,λt R h3=>⟨⟨av _,aW _,(by dsimp only;omega)⟩,jX,λm2 x3 U=> ?_,λer U=>by cases U⟩,λer h3=> ?_⟩,λJ=> ?_⟩
   ·have a1:more=true:=J
    have a2:Uc ts.length l1 ed= .ok (t,R):=h3;clear J h3;subst a1;unfold pAcc at U;injection U with U
    injection U with e1 e2
    subst e1;subst e2;have hq:=Ziy a2;have a7:=Zwn (s:= [97,110,100]) (l:=R.1);refine .inr ⟨⟨ts++ [t],if isW [97,110,100] R.1 then R.1.tail else R.1,R.2.1,isW [97,110,100] R.1,k⟩,⟨by simp[pTs,a2],(by simp;omega),(by simp;omega),(by dsimp only;omega),λh=>by cases h⟩,av _,by simp⟩
   ·have a1:more=true:=J
    have a2:Uc ts.length l1 ed= .error er:=h3;clear J h3;subst a1;simp[pTs,pAft,a2]
   ·have a1:more=false:=J
    clear J;subst a1;revert a0;dsimp only;intro a0;refine⟨λw y hy=>⟨jX,λex x4 h5=> ?_,λer h5=>by simp[pTs,pAft,pPay,w,h5]⟩,λw=>by simp[pTs,pAft,pPay,w]⟩;subst hy;have hs:=Zpk _ _ _ _ h5;have hw:=Zw w;rw[Ex.eta];refine⟨by omega,λI=> ?_,λI=>⟨λw2=> ?_,λw2=> ?_⟩⟩
    ·have I:(24:Int)<Z9 ex:=by simpa using I
     have I:24<Z9 ex:=by omega
     simp[pTs,pAft,pPay,w,h5,I]
    ·have I:(Z9 ex:Int)<=24:=by simpa using I
     have I:¬24<Z9 ex:=by omega
     exact⟨by omega,by simp[pTs,pAft,pPay,w,h5,I,w2]⟩
    ·have I:(Z9 ex:Int)<=24:=by simpa using I
     have I:¬24<Z9 ex:=by omega
     simp[pTs,pAft,pPay,w,h5,I,w2]
end
end Go.Proofs.YtbkgpcknakidkaaGreatDoor
