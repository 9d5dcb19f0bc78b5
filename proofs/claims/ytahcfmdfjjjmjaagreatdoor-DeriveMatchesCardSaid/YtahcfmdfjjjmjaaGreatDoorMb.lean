/- Merged texts: EngOP, EngP, EngQ, EngR, EngS, EngU, EngT, EngV, EngVA, EngVB, EngY, EngLA, EngLB, EngLC. -/
import Derived.Laws.AppendOwn
import Derived.Laws.StructEq
import Derived.ChangeKeysEq
import Derived.Laws.MakeOwn
import Derived.Laws.CopyRow
import Derived.Lib.ConvBytes
import Derived.Laws.Externs
import Derived.Laws.BytesString
import Derived.Recover
import Derived.Scope
import Derived.LoopN
import Derived.Test.YtahcfmdfjjjmjaaGreatDoorMa
open Array renaming all_eq_true->fH,getD->ed,getD_eq_getD_getElem?->aY,getElem?_append_left->fy,getElem?_eq_getElem->cO,getElem?_eq_some_iff->cq,getElem?_map->jB,getElem?_range->jf,getElem?_setIfInBounds->cZ,getElem?_toList->fT,length_toList->gy,range->jr,replicate->dg,size_append->jF,toArray_toList->fY,toList_append->gD
open Bool renaming and_eq_true->az,false->ae,false_eq_true->bc,not_eq_true->bv,not_eq_true'->bh,or_eq_true->bw,true->af,true_and->cm
open Go.Builtin renaming append_->fL,copy_->eP,firstCells->gr,lenOf->iG,zeroCells->fa
open Go.Call renaming operands->eo
open Go.Instr renaming buildSlice->ie,checkKey->jX,findKey->kj,findNow->cJ,makeInterface->ju,mapUpdate->iq,sameBits->jY,sameNow->cE,slice->kB,sliceAt->gC,sliceBound->jM,sliceBounds->eC,sureAddr->eL,typeAssert->ee
open Go.Lib renaming bytesWorld->fC
open Go.Op renaming eqFields->jG,eqItems->jR,equalIn->iy,operands->ba
open Go.Proofs.YtahcfmdfjjjmjaaGreatDoor.Blk renaming cells->cU,fzc->gN
open Go.Result renaming andThen_ok->aH
open Go.Sem renaming run->gJ,run_bind->aL,run_pure->aR
open Go.World renaming cell?->jo,cell?_of_block->fZ
open Int renaming le_refl->eu,mul_le_mul_of_nonneg_right->it
open List renaming append_assoc->db,drop_eq_getElem_cons->cA,drop_zero->eO,eq_nil_of_length_eq_zero->fg,flatMap_cons->ic,getD_eq_getElem?_getD->aI,getElem?_append_left->cf,getElem?_append_right->ct,getElem?_drop->cL,getElem?_eq_getElem->aq,getElem?_eq_some_iff->ar,getElem?_map->cw,getElem?_take->bU,getElem?_toArray->cG,getElem_of_mem->da,length_append->aO,length_drop->fh,length_nil->bF,length_take->aW,map_cons->ei,mem_append->dJ,mem_cons->bE,mem_cons_of_mem->cx,mem_cons_self->gV,mem_filter->di,mem_map->gh,mem_of_getElem?->cp,mem_of_mem_take->jt,mem_range->dq,range->cy,range'->ir,range'_succ->fN,range_eq_range'->gj,replicate->aS,size_toArray->gU,take_length->aM,take_of_length_le->aN
open Nat renaming add_assoc->dE,add_comm->kK,add_mul->cK,add_zero->dP,beq->bf,beq_eq->eV,ble_eq->bx,blt->aZ,blt_eq->fJ,eq_of_beq_eq_true->aG,eq_zero_or_pos->jL,le_refl->aE,le_trans->bY,lt_succ_self->fx,min->jS,min_comm->jg,min_eq_left->gu,min_le_left->kk,min_le_right->jZ,mod_eq_of_lt->jW,mod_lt->iW,mul_comm->je,mul_le_mul_right->bH,mul_one->fP,zero_add->bX,zero_le->bg
open Option renaming getD_some->dH,map->cV,map_eq_some_iff->ck,map_none->eT,map_some->cH,ne_none_iff_exists'->bt,none->aD,some->ah
open Option.some renaming inj->aU,injEq->cF
namespace Go.Proofs.YtahcfmdfjjjmjaaGreatDoor
set_option linter.unusedVariables false
set_option linter.unusedSimpArgs false
set_option linter.unnecessarySimpa false
set_option maxRecDepth 100000
section
open Go.RowKit
section
variable {Y:Thy} {E:Eng Y}
theorem Zu7{N:Nat} {h:Hp Y} {i:Nat} {R:List Nat} {J:Nat} {U:Res Y} {p:Value}:∀{os:List Oper} {j:Nat} {T:Fr Y} {I:List (DR Y)},QOk E N h i R J U p os j T I->os.length=I.length
 | [],_,_,[],_=>rfl
 | [],_,_,_::_,t=>t.elim
 |_::_,_,_,[],t=>t.elim
 |o::os,j,T,d::I,t=>by simp[Zu7 t.2]
theorem Z4c{N:Nat} {h:Hp Y} {i:Nat} {a1:List Nat} {R:Nat} {rp:Res Y} {p:Value}:∀{os:List Oper} {j:Nat} {T:Fr Y} {t:List (DR Y)},QOk E N h i a1 R rp p os j T t->∀(m:Nat) (o:Oper) (d:DR Y),os[m]? =ah o->t[m]? =ah d->
 (j+m=R->PanF E o (tD os t (λx=>aZ x m) T) h i rp p)/\(j+m≠R->bitB (nthN a1 (j+m)) R=ae->d.r.n=0/\d.r.mods= []/\OpTri E o (tD os t (λx=>aZ x m) T) h i d.r/\∀x,o.dst=ah x->x<N)
 | [],_,_,[],_,m,o,d,J,_=>by simp at J
 | [],_,_,_::_,I,_,_,_,_,_=>I.elim
 |_::_,_,_,[],I,_,_,_,_,_=>I.elim
 |o0::os,j,T,U::t,I,m,o,d,J,a0=>by
  cases m with
  |zero=>
   simp at J a0
   subst J;subst a0
   have e:tD (o0::os) (U::t) (λx=>aZ x 0) T=T:=by
    have:(λx=>aZ x 0)=λ_=>false:=by
     funext x
     rw[<-bv,fJ];omega
    rw[this,Zb0]
   rw[e]
   exact I.1
  |succ m=>
   have:=Z4c I.2 m o d (by simpa using J) (by simpa using a0)
   have e:tD (o0::os) (U::t) (λx=>aZ x (m+1)) T=tD os t (λx=>aZ x m) (updO T o0.dst U.r.v):=by
    simp only[tD]
    have e0:aZ 0 (m+1)=true:=by rw[fJ];omega
    have e1:(λx=>aZ (x+1) (m+1))=λx=>aZ x m:=by
     funext x
     cases hb:aZ x m with
     |true=>rw[fJ] at hb⊢;omega
     |false=>rw[<-bv,fJ] at hb⊢;omega
    rw[e0,e1];rfl
   rw[e,show j+(m+1)=j+1+m by omega]
   exact this
theorem Z4d:∀{all:List Oper},noG all=af->∀o∈all,o.guard=aD
 | [],_,o,j=>by cases j
 |x::r,h,o,j=>by
  simp only[noG,az] at h
  rcases bE.1 j with rfl|j
  ·simpa using h.1
  ·exact Z4d h.2 o j
theorem Zu8(g5:E.P.follows .mixedOrders=af) {os:List Oper} {T:Fr Y} {h:Hp Y} {i N j0:Nat} {ms:List Nat} {a0:List (DR Y)} {rp:Res Y} {p:Value} (d8:Zco os (Y4 os []) os 0=af) (hG:noG os=af) (d3:j0<os.length)
 (hD:DomLt h i) (hp:QOk E N h i (Y4 os []) j0 rp p os 0 T a0) (id:Nat)
 (B:Nat) (σ:Pl) (g:GH) (w:World) (a:Act) (Q:Exit->Act->World->Prop) (hI:Inv E B σ h g w) (hB:B<=w.heap.size) (e8:∀b,i<=b->b<i+rp.n->σ b=aD) (hF:FrOk E σ g T a) (hN:a.tmps.size=N)
 (hQ:∀a' w',Aft E B N i (i+rp.n) (rp.mods++ms) σ g w a.defers (Wn (Yf os) T) (patch h i rp) a' w'->Q (.panic [{v:=p,recovered:=false}]) a' w'):(Code.region id os.toArray af).wp E.P Q a w:=by
 classical
 have f8:=Zu7 hp
 have f4:∀m o,os[m]? =ah o->∃d,a0[m]? =ah d:=λm o hm=>⟨a0[m]'(by rw[<-f8];exact(ar.1 hm).1),aq _⟩
 have e1:∀m o,os[m]? =ah o->∀k∈waitsOf o,k<m:=λm o hm k I=>by
  have:=(Us d8 hm).1
  rw[bX] at this
  exact Zd9 this k I
 have c4:∀(D:Nat->Bool),(∀m o,os[m]? =ah o->D m=af->∀k∈waitsOf o,D k=af)->∀m o,os[m]? =ah o->(∀k∈waitsOf o,D k=af)->∀k,bitB (nthN (Y4 os []) m) k=af->D k=true:=by
  intro D a4 m
  induction m using Nat.strongRecOn with
  |_ m ih=>
   intro o hm a8 k J
   obtain⟨pre,h1,h2⟩:=Zqf os [] m o hm
   simp only[bF,bX] at h1 h2
   rw[h1] at J
   obtain⟨j,hj,J⟩:=Zc3 J
   have d6:=e1 m o hm j hj
   rcases J with rfl|J
   ·exact a8 j hj
   ·rw[h2 j d6] at J
    have a3:j<os.length:=by have:=(ar.1 hm).1;omega
    exact ih j d6 os[j] (aq a3) (a4 j _ (aq a3) (a8 j hj)) k J
 have c3:∀m m' o R,m<m'->os[m]? =ah o->os[m']? =ah R->bitB (nthN (Y4 os []) m') m=af\/Zhk os o R=true:=by
  intro m m' o R g0 hm g3
  have:=(Us d8 g3).2
  rw[bX] at this
  have:=Zbd (k:=m) (a:=o) this (by rw[bU,jh g0];exact hm)
  rwa[bX] at this
 have key:∀(m:Nat) (listed:Array Bool) (U:Act) (w1:World),listed.size=os.length->cntF listed os.length=m->listed.getD j0 ae=ae->
  (∀k o,os[k]? =ah o->listed.getD k ae=af->∀x∈waitsOf o,listed.getD x ae=af)->U.defers=a.defers->U.tmps.size=N->
  (∃a2 g1,Stp i 0 [] σ g w a2 g1 w1/\Inv E B a2 h g1 w1/\FrOk E a2 g1 (tD os a0 (λx=>listed.getD x ae) T) U)->
  wpAny E.P .any os.toArray Q m listed U w1:=by
  intro m
  induction m with
  |zero=>
   intro listed U w1 c1 hc a5 a4 b6 b0 _
   exfalso
   have b5:=Zep hc j0 d3
   rw[aY,cO (by omega)] at b5 a5
   rw[dH] at b5 a5
   rw[b5] at a5;cases a5
  |succ m ih=>
   intro listed U w1 c1 hc a5 a4 b6 b0 ⟨a2,g1,hS,c7,a9⟩
   have d2:∀j,j<os.length->listed.getD j ae=listed.getD j true:=by
    intro j hj
    rw[aY,aY,cO (by omega)]
    rfl
   obtain⟨j1,a6,e7,e2⟩:=Zeq hc
   have g9:j1∈Region.ready .any os.toArray listed:=by
    refine di.2 ⟨dq.2 (by simpa using a6),?_⟩
    rw[e7]
    rw[show(os.toArray[j1]?)=ah os[j1] by simp[a6]]
    simp only[cH,dH,Bool.not_false,cm,fH,bw,bh]
    intro e he
    by_cases c9:Region.binds .any os[j1].after[e]=af
    ·right
     have g4:os[j1].after[e].on∈waitsOf os[j1]:=by
      unfold waitsOf
      exact gh.2 ⟨os[j1].after[e],di.2 ⟨by simp,c9⟩,rfl⟩
     have:=e1 j1 _ (aq a6) _ g4
     rw[d2 _ (by omega)]
     exact e2 _ this
    ·left;simpa using c9
   refine⟨λe=>jv g9 (by rw[e];simp),λj hj=> ?_⟩
   obtain⟨a6,b7⟩:=di.1 hj
   have a3:j<os.length:=by simpa using dq.1 a6
   rw[show(os.toArray[j]?)=ah os[j] by simp[a3]] at b7
   simp only[cH,dH,az,bh,fH,bw] at b7
   obtain⟨d5,d4⟩:=b7
   have a1:os[j]? =ah os[j]:=aq a3
   generalize ho:os[j]=o at a1 d4
   obtain⟨d,d0⟩:=f4 j o a1
   have b8:listed.getD j ae=false:=by rw[d2 j a3];exact d5
   have a8:∀k∈waitsOf o,listed.getD k ae=true:=by
    intro k I
    unfold waitsOf at I
    obtain⟨e,he,rfl⟩:=gh.1 I
    obtain⟨e6,d1⟩:=di.1 he
    obtain⟨x,hx,rfl⟩:=da e6
    have h8:x<o.after.size:=by simpa using hx
    rcases d4 x h8 with c|c
    ·rw[show o.after[x]=o.after.toList[x] by simp] at c;rw[c] at d1;cases d1
    ·simpa using c
   have before:∀k,bitB (nthN (Y4 os []) j) k=af->listed.getD k ae=true:=λk I=>c4 _ a4 j o a1 a8 k I
   have c5:∀k R,os[k]? =ah R->bitB (nthN (Y4 os []) k) j=af->listed.getD k ae=false:=by
    intro k R I J
    cases hq:listed.getD k ae with
    |false=>rfl
    |true=>
     have:=c4 _ a4 k R I (a4 k R I hq) j J
     rw[b8] at this;cases this
   have g6:bitB (nthN (Y4 os []) j) j0=false:=by
    cases J:bitB (nthN (Y4 os []) j) j0 with
    |false=>rfl
    |true=>have:=before j0 J;rw[a5] at this;cases this
   obtain⟨d9,e0⟩:=Z4c hp j o d a1 d0
   rw[bX] at d9 e0
   have h4:∀t∈Wm os o,tD os a0 (λx=>listed.getD x ae) T t=tD os a0 (λx=>aZ x j) T t:=by
    intro t ht
    refine Zbz os a0 _ _ T T t (λk R I d7=> ?_) rfl
    rcases Nat.lt_trichotomy k j with b4|rfl|b4
    ·rw[show aZ k j=af by rw[aZ,bx];exact b4]
     rcases c3 k j R o b4 I a1 with c|c
     ·exact before k c
     ·exact jv ht ((Vn c).1 t d7)
    ·rw[b8];symm;rw[<-bv,aZ,bx];omega
    ·rw[show aZ k j=ae by rw[<-bv,aZ,bx];omega]
     rcases c3 j k o R b4 a1 I with c|c
     ·exact c5 k R I c
     ·exact jv ht ((Vn c).2.1 t d7)
   have c0:∀x,(listed.setIfInBounds j af).getD x ae=if x=j then af else listed.getD x false:=by
    intro x
    simp only[aY,cZ]
    by_cases c:j=x
    ·subst c;simp[c1,a3]
    ·rw[jb c,jb (λh'=>c h'.symm)]
   have h0:(λx=>(listed.setIfInBounds j af).getD x ae)=λx=>if x=j then af else listed.getD x false:=funext c0
   have h5:tD os a0 (λx=>(listed.setIfInBounds j af).getD x ae) T=updO (tD os a0 (λx=>listed.getD x ae) T) o.dst d.r.v:=by
    funext t
    rw[h0]
    refine Z4a t os a0 _ T j o d a1 d0 b8 λhw k R f6 I h7=> ?_
    rcases c3 j k o R f6 a1 I with c|c
    ·exact c5 k R I c
    ·exact jv h7 ((Vn c).2.2 t hw)
   have hx:∀x∈o.op.operands.toList,Den E a2 g1 (ev (tD os a0 (λx=>aZ x j) T) x) (U.eval x):=by
    intro x hx
    cases x with
    |tmp t=>
     have ht:t∈Wm os o:=by
      have:=Zcv hx
      unfold Wm
      split
      ·exact this
      ·split<;>simp[this]
     have:=a9 t
     rw[h4 t ht] at this
     exact this
    |const v=>exact Xm E a2 g1 v
    |global n=>exact .val _
    |func f=>exact(FrOk.ev a9 (.func f))
   have f5:=Z4d hG o (cp a1)
   have e9:∀b,i<=b->b<i+rp.n->a2 b=none:=by
    intro b h1 h2
    cases hq:a2 b with
    |none=>rfl
    |some q=>
     rcases hS.snew b q hq with h3|h3
     ·rw[e8 b h1 h2] at h3;cases h3
     ·omega
   unfold wpOp
   rw[show(os.toArray[j]?)=ah o by simp[a3,ho]]
   simp only
   rw[jh (by unfold Region.wanted;rw[f5])]
   left
   by_cases b9:j=j0
   ·refine d9 b9 B a2 g1 w1 U _ Q c7 (bY hB hS.size) e9 hx ?_
    rintro w' ⟨σ',g',k1,k2⟩
    refine hQ U w' ⟨b6,b0,σ',g',?_,k2,λt=> ?_⟩
    ·have:=hS.join k1 (i:=i) (n:=rp.n) (m:=rp.mods++ms) (aE _) (by omega) (aE _) (by omega) (λb J=>by cases J) (λb J=>List.mem_append_left _ J)
     rw[show i+rp.n-i=rp.n by omega]
     exact this
    ·rw[Zaa]
     split
     ·exact .unk _
     ·rename_i ht
      have:=(a9 t).mono k1.sig k1.gle
      rw[Z4b ht λR g7 d' e3=>Zd7 g7 e3] at this
      exact this
   ·obtain⟨q1,q2,h6,f9⟩:=e0 b9 g6
    refine OpPost.wp (h6.2 B a2 g1 w1 U.eval h (λ_ _=>rfl) c7 (bY hB hS.size) (λb b1 b2=>by omega) hx) ?_
    rintro u w2 ⟨h9,g2,b3,c8,hv⟩
    rw[q1,q2] at b3
    have g8:patch h i d.r=h:=by
     funext b
     rw[Z6,jb]
     rw[q1,q2]
     rintro(e|e)
     ·simp at e
     ·omega
    rw[g8] at c8
    refine ih _ (U.put o.dst u) w2 (by simpa using c1) ?_ ?_ ?_ (by rw[Xf];exact b6) (by rw[Wc];exact b0) ⟨h9,g2,?_,c8,?_⟩
    ·have:=Znf listed j os.length a3 d5
     omega
    ·rw[c0,jb (λe=>b9 e.symm)];exact a5
    ·intro k R I a7 x hx
     rw[c0] at a7⊢
     by_cases c:k=j
     ·subst c
      rw[a1] at I;cases I
      have c2:=a8 x hx
      split<;>simp[c2]
     ·rw[jb c] at a7
      have c2:=a4 k R I a7 x hx
      split<;>simp[c2]
    ·exact hS.join b3 (aE _) (by omega) (aE _) (by omega) (λb J=>J) (λb J=>J)
    ·rw[h5]
     have c6:=a9.mono b3.sig b3.gle
     cases e5:o.dst with
     |none=>exact c6
     |some t=>exact c6.put (by rw[b0];exact f9 t e5) hv
 refine wp_region_any g5 ?_
 have e4:Inv E B σ h g {w with drawn:=w.drawn+1}:=⟨hI.gc,hI.gm,hI.blk,hI.inj,hI.base,hI.fz,hI.fm,hI.glob⟩
 have:=key os.length (dg os.length ae) a {w with drawn:=w.drawn+1} (by simp) ?_ ?_ ?_ rfl hN ⟨σ,g,?_,e4,?_⟩
 ·simpa using this
 ·unfold cntF
  rw[List.filter_eq_self.2,List.length_range]
  intro j hj
  have:j<os.length:=dq.1 hj
  simp[ed,this]
 ·simp[ed,d3]
 ·intro k o I a7
  exfalso
  have f7:=(ar.1 I).1
  simp[ed,f7] at a7
 ·exact⟨.refl _,λ_ _ h=> .inl h,.refl _,λ_ _ _ h=> .inl h,λ_ _ h=> .inl h,λ_ _ _=>rfl,aE _,rfl,rfl,rfl,λ_ _ _ h k=>by rw[h] at k;cases k⟩
 ·have:(λx=>(dg os.length ae).getD x ae)=λ_=>false:=by
   funext x
   rw[aY,Array.getElem?_replicate]
   split<;>rfl
  rw[this,Zb0];exact hF
end
end
section
open Go.RowKit
section
variable {Y:Thy} {E:Eng Y} {o:Oper} {T:Fr Y} {h:Hp Y} {i:Nat} {k:Res Y->Prop}
theorem Vm{σ:Pl} {g:GH} {b off len w:Nat} {cap:Option Nat} {v:Value} (h:Den E σ g (.sl b off len w cap) v):∃r z c,v= .slice (ah ⟨r,off*w,aD⟩) len c/\σ b=ah (r,z)/\(off+c)*w<=z/\len<=c/\c<=maxLen/\∀m,cap=ah m->c=m:=by
 cases h with
 |sl h J t I j=>exact⟨_,_,_,rfl,h,J,t,I,j⟩
theorem Xr{t th:Y.Th} {l:List (Y.dom t)} {k:List (Y.dom th)->Prop} (j:Zbj l k):∃(e:t=th),k (e▸l):=by
 unfold Zbj at j;split at j
 ·rename_i e _;subst e;exact⟨rfl,j⟩
 ·exact j.elim
theorem Zz7{j th:Y.Th} {l:List (Y.dom j)} {k:List (Y.dom th)->Prop} (t:Zbj l k):j=th:=(Xr t).1
theorem Zrk{th:Y.Th} {l:List (Y.dom th)} {k:List (Y.dom th)->Prop} (j:Zbj l k):k l:=by
 obtain⟨e,j⟩:=Xr j;exact j
theorem Zuf{α:Type} {lit:Bool} {l:List α} {A B:Prop} (j:Z40 lit l A B):(l= []/\A)\/(l≠ []/\B):=by
 cases lit with
 |true=>
  cases l with
  |nil=>exact .inl ⟨rfl,j⟩
  |cons x l=>exact .inr ⟨by simp,j⟩
 |false=>
  by_cases e:l= []
  ·exact .inl ⟨e,j.1 e⟩
  ·exact .inr ⟨e,j.2 e⟩
theorem Yx(I:EngOk E) {th:Y.Th}:∀{n:Nat} {cs:List (SV Y)} {l:List (Y.dom th)},W5 E th (W4 (E.w th) n cs)=ah l->
 l.length=n/\∀(j:Nat) sv,(l.flatMap (E.enc th))[j]? =ah sv->∃s0,cs[j]? =ah s0/\∀σ g v,Den E σ g s0 v->Den E σ g sv v:=by
 intro n
 induction n with
 |zero=>intro cs l h;simp[W4,W5] at h;subst h;simp
 |succ n ih=>
  intro cs l h
  simp only[W4,W5] at h
  split at h
  ·rename_i x l' hx a1
   obtain rfl:=aU h
   obtain⟨a0,h2⟩:=ih a1
   obtain⟨d1,U⟩:=I.dec _ _ _ hx
   refine⟨by simp[a0],λj sv t=> ?_⟩
   rw[ic] at t
   by_cases e:j<E.w th
   ·rw[cf (by rw[I.enc];exact e)] at t
    obtain⟨s0,J⟩:∃s0,(cs.take (E.w th))[j]? =ah s0:=⟨_,aq (by omega)⟩
    refine⟨s0,?_,λσ g v hv=>U σ g j s0 sv v J t hv⟩
    rw[bU,jh e] at J;exact J
   ·rw[ct (by rw[I.enc];omega),I.enc] at t
    obtain⟨s0,R,h4⟩:=h2 _ sv t
    refine⟨s0,?_,h4⟩
    rw[cL] at R
    rwa[show E.w th+(j-E.w th)=j by omega] at R
  ·cases h
structure Cont(E:Eng Y) (σ:Pl) (g:GH) (w:World) (th:Y.Th) (l:List (Y.dom th)) (v:Value) (base:Option Addr) (c:Nat) (us:List Value):Prop where
 v:v= .slice base l.length c
 le:l.length<=c
 mx:c<=maxLen
 nil:base=aD->c=0
 some:0<l.length->∃r o,base=ah ⟨r,o,aD⟩
 len:us.length=l.length*E.w th
 cell:∀r o,base=ah ⟨r,o,aD⟩->∀(j:Nat) u,us[j]? =ah u->w.cell? ⟨r,o+j,aD⟩=ah u
 den:∀(j:Nat) sv u,(l.flatMap (E.enc th))[j]? =ah sv->us[j]? =ah u->Den E σ g sv u
theorem Zbs(hE:EngOk E) {th:Y.Th} {x:SV Y} {k:Bool->List (Y.dom th)->List Nat->Prop} (I:Zo3 E h th x k):
 ∃lit l rd,k lit l rd/\∀(hh:Hp Y) (σ:Pl) (g:GH) (w:World) (B:Nat) (v:Value),(∀b∈rd,hh b=h b)->Inv E B σ hh g w->Den E σ g x v->∃base c us,Cont E σ g w th l v base c us:=by
 unfold Zo3 at I
 split at I
 ·refine⟨_,_,_,I,λhh σ g w B v _ hI hd=> ?_⟩
  cases hd
  exact⟨aD,0,[],{v:=rfl,le:=aE _,mx:=by{unfold maxLen;omega},nil:=λ_=>rfl,some:=λh=>jv h (by simp),len:=by simp,cell:=λr o e=>(by cases e),den:=λj sv u h _=>jv h (by simp)}⟩
 ·rename_i t l full
  obtain⟨e,I⟩:=Xr I
  subst e
  refine⟨_,_,_,I,λhh σ g w B v _ hI hd=> ?_⟩
  obtain⟨base,c,cv,rfl,hl,hm,hf,hn,hb,hd⟩:=Vx hd
  refine⟨base,c,(cy (l.length*E.w t)).map λj=>cv (j/E.w t) (j%E.w t),rfl,hl,hm,hn,λhp=>let⟨r,o,e,_⟩:=hb hp;⟨r,o,e⟩,by simp,?_,?_⟩
  ·intro r o e j u U
   rw[cw] at U
   obtain⟨j',a0,rfl⟩:=ck.1 U
   obtain⟨a1,rfl⟩:j<l.length*E.w t/\j=j':=by
    obtain⟨J,R⟩:=ar.1 a0
    simp at J R
    exact⟨J,R⟩
   have a2:=hE.pos t
   have hq:j/E.w t<l.length:=(Nat.div_lt_iff_lt_mul a2).2 a1
   obtain⟨r',o',e',a8⟩:=hb (Nat.lt_of_le_of_lt (bg _) hq)
   rw[e] at e';cases e'
   have:=a8 (j/E.w t) _ (aq hq) (j%E.w t) (by rw[hE.enc];exact iW _ a2)
   have he:o+j/E.w t*E.w t+j%E.w t=o+j:=by rw[dE,je,Nat.div_add_mod]
   rw[he] at this
   exact hI.gc _ _ _ this
  ·intro j sv u U hu
   obtain⟨q,p,x,rfl,hp,hq,hs⟩:=Xo hE t l U
   rw[cw] at hu
   obtain⟨j',a0,rfl⟩:=ck.1 hu
   obtain⟨a1,rfl⟩:q*E.w t+p<l.length*E.w t/\q*E.w t+p=j':=by
    obtain⟨J,R⟩:=ar.1 a0
    simp at J R
    exact⟨J,R⟩
   have a2:=hE.pos t
   have e1:(q*E.w t+p)/E.w t=q:=by rw[je,Nat.mul_add_div a2,Nat.div_eq_of_lt hp,dP]
   have e2:(q*E.w t+p)%E.w t=p:=by rw[je,Nat.mul_add_mod,jW hp]
   rw[e1,e2]
   exact hd q x hq p sv hs
 ·rename_i b off len w' cap
  have blk:∀(blk:Blk Y) (l:List (Y.dom th)),h b=ah blk->(∀es,blk≠ .map es)->w'=E.w th->l.length=len->(∀(j:Nat) sv,(l.flatMap (E.enc th))[j]? =ah sv->∃s0,(blk.cells E)[off*w'+j]? =ah s0/\∀σ g v,Den E σ g s0 v->Den E σ g sv v)->
   ∀(hh:Hp Y) (σ:Pl) (g:GH) (w:World) (B:Nat) (v:Value),(∀b'∈ [b],hh b'=h b')->Inv E B σ hh g w->Den E σ g (.sl b off len w' cap) v->∃base c us,Cont E σ g w th l v base c us:=by
   intro blk l hb hm hw hl hc hh σ g w B v b4 hI hd
   obtain⟨r,z,c,rfl,b7,hz,a4,b3,b8⟩:=Vm hd
   obtain⟨r',z',a6,a7⟩:=hI.blk b blk ((b4 b (by simp)).trans hb)
   rw[b7] at a6;cases a6
   obtain⟨u,b5,b6⟩:=Wb hm a7
   refine⟨_,c,(cy (l.length*E.w th)).map λj=>u (off*w'+j),by rw[hl],by omega,b3,(λe=>by cases e),λ_=>⟨_,_,rfl⟩,by simp,?_,?_⟩
   ·intro r2 o2 e j u' U
    cases e
    rw[cw] at U
    obtain⟨j',a0,rfl⟩:=ck.1 U
    obtain⟨a1,rfl⟩:j<l.length*E.w th/\j=j':=by
     obtain⟨J,R⟩:=ar.1 a0
     simp at J R
     exact⟨J,R⟩
    obtain⟨s0,J,_⟩:=hc j _ (aq (by rw[Z3 hE];exact a1))
    exact b5 _ (ar.1 J).1
   ·intro j sv u' U a5
    rw[cw] at a5
    obtain⟨j',a0,rfl⟩:=ck.1 a5
    obtain⟨a1,rfl⟩:j<l.length*E.w th/\j=j':=by
     obtain⟨J,R⟩:=ar.1 a0
     simp at J R
     exact⟨J,R⟩
    obtain⟨s0,J,R⟩:=hc j sv U
    exact R _ _ _ (b6 _ _ J)
  split at I
  ·rename_i t l fz hb
   split at I
   ·rename_i hw
    have hw:=aG hw
    obtain⟨e,I⟩:=Xr I
    subst e
    obtain⟨a4,I⟩:=Zv I
    have hc:∀(j:Nat) sv,(((l.drop off).take len).flatMap (E.enc t))[j]? =ah sv->∃s0,((Blk.rows t l fz).cells E)[off*w'+j]? =ah s0/\∀σ g v,Den E σ g s0 v->Den E σ g sv v:=by
     intro j sv U
     obtain⟨q,p,x,rfl,hp,hq,hs⟩:=Xo hE t _ U
     rw[bU] at hq
     split at hq
     ·rw[cL] at hq
      refine⟨sv,?_,λ_ _ _ h=>h⟩
      simp only[cU]
      rw[hw,<-dE,<-cK,Y3 hE t l _ x hq p hp];exact hs
     ·cases hq
    have b0:((l.drop off).take len).length=len:=by simp at a4⊢;omega
    have a9:k E.lit ((l.drop off).take len) [b]:=by
     revert I
     cases off with
     |zero=>simp only[eO];exact id
     |succ off=>exact id
    exact⟨_,_,_,a9,blk (.rows t l fz) _ hb (by intro es e;cases e) hw b0 hc⟩
   ·exact I.elim
  ·rename_i cs fz tg hb
   split at I
   ·rename_i l hw a3
    have hw:=aG hw
    rw[hw] at a3
    obtain⟨J,R⟩:=Yx hE a3
    refine⟨_,_,_,I,blk (.raw cs fz tg) l hb (by intro es e;cases e) hw J λj sv U=> ?_⟩
    obtain⟨s0,h3,h4⟩:=R j sv U
    rw[cL] at h3
    exact⟨s0,by rw[hw];exact h3,h4⟩
   ·exact I.elim
  ·exact I.elim
 ·exact I.elim
end
end
section
open Go.RowKit
section
variable {Y:Thy} {E:Eng Y} {o:Oper} {T:Fr Y} {h:Hp Y} {i:Nat} {k:Res Y->Prop}
theorem Stp.weaken'{i n:Nat} {m U:List Nat} {σ a0:Pl} {g R:GH} {w w1:World} (h:Stp i n m σ g w a0 R w1) (I:∀b∈m,b∈U):Stp i n U σ g w a0 R w1:=
 ⟨h.sig,h.snew,h.gle,λr o v hv=>(h.gcnew r o v hv).imp id (Or.imp id λ⟨b,j,z,t⟩=>⟨b,I b j,z,t⟩),h.gmnew,λr hr hx=>h.heap r hr λb hb=>hx b (I b hb),h.size,h.os,h.tape,h.output,λb r z j t=>(h.blk b r z j t).imp id λ⟨J,j,z',t⟩=>⟨J,I J j,z',t⟩⟩
theorem Zqd{B:Nat} {σ:Pl} {g:GH} {w:World} {h:Hp Y} (j:Inv E B σ h g w):Inv E B σ h g w.drew:=⟨j.gc,j.gm,j.blk,j.inj,j.base,j.fz,j.fm,j.glob⟩
theorem Zqe{i n:Nat} {m:List Nat} {σ σ':Pl} {g j:GH} {w w':World} (h:Stp i n m σ g w.drew σ' j w'):Stp i n m σ g w σ' j w':=⟨h.sig,h.snew,h.gle,h.gcnew,h.gmnew,h.heap,h.size,h.os,h.tape,h.output,h.blk⟩
theorem Zne{B:Nat} {σ:Pl} {h J:Hp Y} {g:GH} {w:World} (j:Inv E B σ h g w) (I:∀b x,J b=ah x->h b=ah x):Inv E B σ J g w:=by
 have ne:∀b,J b≠aD->h b≠none:=λb hb=>by
  obtain⟨x,t⟩:=bt.1 hb;rw[I b x t];simp
 exact⟨j.gc,j.gm,λb x t=>j.blk b x (I b x t),λb R r z z' U h2=>j.inj b R r z z' (ne b U) (ne R h2),j.base,λb x r z o v t=>j.fz b x r z o v (I b x t),λb x r z t=>j.fm b x r z (I b x t),j.glob⟩
theorem Zsm{B:Nat} {σ:Pl} {h:Hp Y} {g:GH} {w:World} (t:Inv E B σ h g w) {b i r z:Nat} {x:Blk Y} (hb:h b=ah x) (J:σ b=ah (r,z)) (hi:σ i=aD):Inv E B (updσ σ i (r,z)) (upd (upd h b aD) i (ah x)) g w:=by
 have a4:=Zig (p:=(r,z)) hi;have a7:b≠i:=by rintro rfl;rw[hi] at J;cases J
 have at_:∀c y,upd (upd h b aD) i (ah x) c=ah y->(c=i/\y=x)\/(c≠i/\c≠b/\h c=ah y):=by
  intro c y j;rw[Zf] at j;by_cases e:c=i
  ·rw[jh e] at j;exact .inl ⟨e,(aU j).symm⟩
  ·rw[jb e,Zf] at j
   by_cases e2:c=b
   ·rw[jh e2] at j;cases j
   ·rw[jb e2] at j;exact .inr ⟨e,e2,j⟩
 have a0:updσ σ i (r,z) i=ah (r,z):=by simp[updσ]
 have R:∀c,c≠i->updσ σ i (r,z) c=σ c:=λc j=>by simp[updσ,j]
 refine⟨t.gc,t.gm,?_,?_,?_,?_,?_,t.glob⟩
 ·intro c y j
  rcases at_ c y j with⟨rfl,rfl⟩|⟨U,h2,h3⟩
  ·obtain⟨r',z',q1,q2⟩:=t.blk b y hb
   rw[J] at q1;cases q1;exact⟨r,z,a0,q2.mono a4 (.refl _) rfl⟩
  ·obtain⟨r',z',q1,q2⟩:=t.blk c y h3
   exact⟨r',z',a4 _ _ q1,q2.mono a4 (.refl _) rfl⟩
 ·intro c c' q z1 z2 U h2 s1 s2
  obtain⟨y1,a5⟩:=bt.1 U;obtain⟨y2,a6⟩:=bt.1 h2;rcases at_ c y1 a5 with⟨rfl,_⟩|⟨a1,a2,a3⟩<;>rcases at_ c' y2 a6 with⟨rfl,_⟩|⟨b1,b2,b3⟩
  ·rfl
  ·rw[a0] at s1;cases s1;rw[R _ b1] at s2
   exact jv (t.inj _ _ _ _ _ (by rw[b3];simp) (by rw[hb];simp) s2 J) b2
  ·rw[a0] at s2;cases s2;rw[R _ a1] at s1
   exact jv (t.inj _ _ _ _ _ (by rw[a3];simp) (by rw[hb];simp) s1 J) a2
  ·rw[R _ a1] at s1;rw[R _ b1] at s2
   exact t.inj _ _ _ _ _ (by rw[a3];simp) (by rw[b3];simp) s1 s2
 ·intro c r' z' j
  by_cases e:c=i
  ·subst e;rw[a0] at j;cases j;exact t.base _ _ _ J
  ·rw[R _ e] at j;exact t.base _ _ _ j
 ·intro c y r' z' n v j I hg
  rcases at_ c y j with⟨rfl,rfl⟩|⟨U,h2,h3⟩
  ·rw[a0] at I;cases I;exact t.fz _ _ _ _ _ _ hb J hg
  ·rw[R _ U] at I;exact t.fz _ _ _ _ _ _ h3 I hg
 ·intro c y r' z' j I
  rcases at_ c y j with⟨rfl,rfl⟩|⟨U,h2,h3⟩
  ·rw[a0] at I;cases I;exact t.fm _ _ _ _ hb J
  ·rw[R _ U] at I;exact t.fm _ _ _ _ h3 I
theorem Zkt(t:EngOk E) (th:Y.Th) (l:List (Y.dom th)) {j:Nat} {sv:SV Y} (h:(l.flatMap (E.enc th))[j]? =ah sv):leaf sv=true:=by
 obtain⟨q,p,x,_,_,_,I⟩:=Xo t th l h;exact Vq (t.leaf th x) I
theorem Zg4{th:Y.Th} (I:EngOk E) {σ:Pl} {g:GH} {J R:List (Y.dom th)} {U a0:List Value} (h1:U.length=J.length*E.w th) (d1:∀(j:Nat) sv u,(J.flatMap (E.enc th))[j]? =ah sv->U[j]? =ah u->Den E σ g sv u)
 (h2:a0.length=R.length*E.w th) (d2:∀(j:Nat) sv u,(R.flatMap (E.enc th))[j]? =ah sv->a0[j]? =ah u->Den E σ g sv u) {j:Nat} {sv:SV Y} (t:((J++R).flatMap (E.enc th))[j]? =ah sv):∃u,(U++a0)[j]? =ah u/\Den E σ g sv u:=by
 rw[List.flatMap_append] at t
 by_cases e:j<J.length*E.w th
 ·rw[cf (by rw[Z3 I];exact e)] at t
  rw[cf (by omega)]
  exact⟨_,aq (by omega),d1 j sv _ t (aq (by omega))⟩
 ·rw[ct (by rw[Z3 I];omega),Z3 I] at t
  rw[ct (by omega),h1]
  have a1:=(ar.1 t).1
  rw[Z3 I] at a1
  exact⟨_,aq (by omega),d2 _ sv _ t (aq (by omega))⟩
theorem Zih{v:Value} (j:U1 (.val v:SV Y)=af):v= .slice aD 0 0:=by
 unfold U1 at j;split at j<;>simp_all
theorem Zsn{σ:Pl} {g:GH} {x:SV Y} {v:Value} (t:U1 x=af) (h:Den E σ g x v):∃base n c,v= .slice base n c/\n<=c:=by
 cases x with
 |val u=>have:=Zih t;subst this;cases h;exact⟨aD,0,0,rfl,aE _⟩
 |psl th l f=>obtain⟨base,c,I,e,j,_⟩:=Vx h;exact⟨_,_,_,e,j⟩
 |sl b off len w cap=>obtain⟨r,z,c,e,_,_,j,_⟩:=Vm h;exact⟨_,_,_,e,j⟩
 |_=>simp[U1] at t
theorem Zfa{P:Program} {t ty el:TypeId} {info:TypeInfo} (ht:P.underlying t=ah (.slice el)) (hi:P.info? el=ah info) {b1 b2:Option Addr} {I j J:Nat} (R:I<=j) {w:World}:(fL #[t,t] ty #[.slice b1 I j,.slice b2 0 J]).run P w= .ok (.slice b1 I j) w:=by
 cases b1<;>cases b2<;>simp[fL,run_underlying ht,sizeOf,typeInfo,hi,iG,gr,loadCells,loadCellsFrom,storeCells,R]
theorem Zii(h:Hp Y) (i b:Nat) (x:Blk Y) (v:SV Y) (rd:Option (List Nat)) (J:b≠i):patch h i ⟨v,1,[b],at1 i (ah x),rd⟩=upd (upd h b aD) i (ah x):=by
  funext j;rw[Z6,Zf,Zf];by_cases e:j=i
  ·subst e
   rw[jh (by right;simp),jh rfl];simp[at1]
  ·have:bf j i=false:=by rw[<-bv,eV];exact e
   rw[jb e];by_cases t:j=b
   ·rw[jh (by left;simp[t]),jh t];simp[at1,this]
   ·rw[jb (by rintro(I|I); · simp at I;exact t I
              ·simp at I;omega),jb t]
theorem Zso(hE:EngOk E) {c:Call} (hc:c.callee= .builtin .append) (ho:o.op= .call c) {t:TypeId} {x y:Operand} (ha:c.args.toList= [x,y]) (g7:c.argTypes.toList= [t,t]) (I:Zo4 E t (ev T x) (ev T y) h i k):∃r,k r/\OpTri E o T h i r:=by
 have mx:x∈o.op.operands.toList:=by
  have:x∈c.args.toList:=by rw[ha];simp
  simp[ho,ba,eo,hc];simpa using this
 have my:y∈o.op.operands.toList:=by
  have:y∈c.args.toList:=by rw[ha];simp
  simp[ho,ba,eo,hc];simpa using this
 have g6:c.args= #[x,y]:=by rw[<-fY (xs:=c.args),ha]
 have j2:c.argTypes= #[t,t]:=by rw[<-fY (xs:=c.argTypes),g7]
 have run:∀(w w':World) (ρ:Operand->Value) (u:Value),(fL #[t,t] o.type #[ρ x,ρ y]).run E.P w= .ok u w'->(execOp ρ o).run E.P w= .ok (.value u) w':=by
  intro w w' ρ u hl;unfold execOp;simp only[ho,resolve,hc,aL,aR,aH,invoke,builtin,g6,j2];rw[show(#[x,y].map ρ)= #[ρ x,ρ y] by simp,hl];rfl
 unfold Zo4 at I;split at I
 ·rename_i el sz j5 z ht
  split at I
  ·rename_i ti th g1 b7
   split at I
   ·exact I.elim
   ·rename_i f7
    simp only[az] at f7;obtain⟨⟨d4,j0⟩,e5⟩:=f7;have d4:0<ti.bytes:=Yi d4;have e5:(Yw ti.zero:SV Y).cells.length=E.w th:=aG e5;have c7:E.thOf el=ah th/\E.el th=el:=by
     unfold Ul at b7;split at b7
     ·rename_i k0 h1
      split at b7
      ·rename_i h2
       cases b7;exact⟨h1,aG h2⟩
      ·cases b7
     ·cases b7
    have a7:ti.size=E.w th:=hE.thOf el th ti c7.1 g1;have j6:=hE.pos th;obtain⟨hu,_⟩:=hE.ty _ _ ht;obtain⟨_,info,c4,a6,d8,d9⟩:=hE.ty _ _ g1;have e6:ti.zero.cells.size=E.w th:=by rw[<-(Y2 (E:=E) ti.zero).1];exact e5
    obtain⟨lit,J,e8,I,d5⟩:=Zbs hE I;have g3:∀n,n*ti.bytes<=140737488355328->n<=140737488355328:=λn hn=>bY (Nat.le_mul_of_pos_right n d4) hn;rcases Zuf I with⟨i4,c5⟩|⟨e4,c5⟩
    ·clear I;have I:=c5;clear c5
     subst i4;refine⟨_,I,λb hb=>by simp[quiet] at hb,?_⟩;intro B σ g w ρ hh a8 hI hB c9 hx;obtain⟨b2,c2,a2,a0⟩:=d5 hh σ g w B (ρ y) (λb hb=>a8 b hb) hI (hx y my);obtain⟨b1,n1,c1,e1,e3⟩:=Zsn j0 (hx x mx);refine Y5 (run w w ρ (ρ x) ?_) ⟨σ,g,.refl _ _ _ _,by rw[Yp];exact hI,hx x mx⟩;rw[a0.v,e1];exact Zfa hu c4 e3
    ·clear I;have I:=c5;clear c5
     have d0:0<J.length:=List.length_pos_iff.2 e4
     have e7:∀(U:List (Y.dom th)) (rd:List Nat),(∀(B:Nat) (σ:Pl) (g:GH) (w:World) (ρ:Operand->Value) (hh:Hp Y),(∀b∈rd,hh b=h b)->Inv E B σ hh g w->(∀x∈o.op.operands.toList,Den E σ g (ev T x) (ρ x))->
      ∃base c us,Cont E σ g w th U (ρ x) base c us/\c<U.length+J.length)->(U.length+J.length)*ti.bytes<=140737488355328->
      k (fresh i (.sl i 0 (U.length+J.length) (E.w th) aD) (.rows th (U++J) 0) (rd++e8))->∃r,k r/\OpTri E o T h i r:=by
      intro U rd h1 a4 I;refine⟨_,I,λb hb=>by simp[fresh] at hb,?_⟩;intro B σ g w ρ hh a8 hI hB c9 hx;have c6:∀b∈rd++e8,hh b=h b:=a8;obtain⟨b1,c1,b3,C1,b6⟩:=h1 B σ g w ρ hh (λb hb=>c6 b (by simp[hb])) hI hx;obtain⟨b2,c2,a2,a0⟩:=d5 hh σ g w B (ρ y) (λb hb=>c6 b (by simp[hb])) hI (hx y my);obtain⟨r2,o2,a5⟩:=a0.some d0;have hn:=g3 _ a4;have b5:=c9 i (aE _) (fx _)
      have i7:∃(cap:Nat) (rest:Array Value),(fL #[t,t] o.type #[ρ x,ρ y]).run E.P w= .ok (.slice (ah ⟨w.heap.size,0,aD⟩) (U.length+J.length) cap) (w.drew.alloc (.cells ((b3++a2).toArray++rest) el))/\U.length+J.length<=cap/\cap<=maxLen/\rest.size=(cap-(U.length+J.length))*E.w th:=by
       rw[C1.v,a0.v,a5];cases hq:b1 with
       |none=>
        have b4:=C1.nil hq;have e0:U.length=0:=by have:=C1.le;omega
        have b8:b3= []:=fg (by rw[C1.len,e0];simp);have:=run_append_nil (P:=E.P) w t o.type el info ti.zero hu c4 d9 ⟨r2,o2,aD⟩ J.length c2 a2 (by rw[a0.len,a6,a7]) (λj u R=>by rw[Yy];exact a0.cell r2 o2 a5 j u R) d0 (by omega) (by rw[d8];rw[e0,bX] at a4;omega);rw[b4,e0,b8,bX,List.nil_append];refine⟨_,_,this,grownCap_ge w _ _ _,grownCap_le_maxLen w _ _ _ (by unfold maxLen;omega),?_⟩;rw[size_zeroCells,e6]
       |some a1=>
        have:=run_append_grow (P:=E.P) w t o.type el info ti.zero hu c4 d9 a1 U.length c1 b3 (by rw[C1.len,a6,a7]) (λj u R=>by
         have h7:0<U.length:=by
          have h1:=(ar.1 R).1;rw[C1.len] at h1;rcases jL U.length with e|e
          ·rw[e] at h1;simp at h1
          ·exact e
         obtain⟨r1,o1,f4⟩:=C1.some h7;rw[hq] at f4;cases f4
         rw[Yy];exact C1.cell r1 o1 hq j u R) ⟨r2,o2,aD⟩ J.length c2 a2 (by rw[a0.len,a6,a7]) (λj u R=>by rw[Yy];exact a0.cell r2 o2 a5 j u R) b6 (by omega) (by rw[d8];exact growslice_fits b6 a4)
        refine⟨grownCap w (U.length+J.length) c1 el,fa ti.zero.cells (grownCap w (U.length+J.length) c1 el-(U.length+J.length)),by rw[this];simp,grownCap_ge w _ _ _,grownCap_le_maxLen w _ _ _ (by unfold maxLen;omega),?_⟩;rw[size_zeroCells,e6]
      obtain⟨cap,rest,a9,b4,g9,i9⟩:=i7;have c8:((b3++a2).toArray++rest).size=cap*E.w th:=by
       have e1:=C1.len;have e2:=a0.len;simp only[jF,gU,aO,e1,e2,i9,<-cK]
       congr 1;omega
      obtain⟨q1,q2⟩:=Ze9 (i:=i) (Zqd hI) (by simpa using hB) b5 (arr:=(b3++a2).toArray++rest) (e:=el) (blk:= .rows th (U++J) 0) (by intro es e;cases e) c7.2.symm
       (by simp only[cU];rw[Z3 hE,c8,aO];exact bH _ b4)
       (λj sv R=>by
        obtain⟨u,hu,hd⟩:=Zg4 hE C1.len C1.den a0.len a0.den R;refine⟨u,?_,hd⟩;rw[fy (by simpa using(ar.1 hu).1)]
        simpa using hu)
      refine Y5 (run w _ ρ _ a9) ⟨_,_,Zqe q2,by rw[V4];exact q1,?_⟩;have:=Den.sl (E:=E) (g:=g) (σ:=updσ σ i (w.drew.heap.size,((b3++a2).toArray++rest).size)) (b:=i) (off:=0) (len:=U.length+J.length) (w:=E.w th) (c:=cap) (cap:=none) (r:=w.heap.size) (z:=((b3++a2).toArray++rest).size) (by simp[updσ]) (by rw[c8];simp) b4 g9 (λm e=>by cases e);show Den E _ g (.sl i 0 (U.length+J.length) (E.w th) aD) _
      simpa using this
     split at I
     ·--nil
      rename_i hX;obtain⟨hp,I⟩:=Zv I;refine e7 [] [] (λB σ g w ρ hh _ hI hx=> ?_) (by simpa using hp) (by simpa using I);have:=hx x mx;rw[hX] at this;generalize ρ x=v at this;cases this;exact⟨aD,0,[],{v:=rfl,le:=aE _,mx:=by{unfold maxLen;omega},nil:=λ_=>rfl,some:=λh=>jv h (by simp),len:=by simp,cell:=λr o e=>(by cases e),den:=λj sv u h _=>jv h (by simp)},by simpa using d0⟩
     ·rename_i th' U hX
      obtain⟨e,I⟩:=Xr I;subst e;obtain⟨a4,I⟩:=Zv I;refine e7 U [] (λB σ g w ρ hh _ hI hx=> ?_) a4 (by simpa using I);have hd:=hx x mx;rw[hX] at hd
      obtain⟨j7,l',j9,hq,i6⟩:=Zbs (E:=E) hE (h:=h) (th:=th') (x:= .psl th' U af) (k:=λlit l rd=>l=U/\rd= []) (by
       unfold Zo3 Zbj;simp only;split
       ·simp
       ·rename_i hn _;exact hn rfl)
      obtain⟨rfl,rfl⟩:=hq;obtain⟨base,c,us,C⟩:=i6 hh σ g w B (ρ x) (by simp) hI hd;obtain⟨j4,c',cv,e1,_,_,hf,_⟩:=Vx hd;have e2:=C.v;rw[e1] at e2;cases e2;exact⟨_,_,us,C,by have:=hf rfl;omega⟩
     ·rename_i b off len w' c0 hX
      obtain⟨j8,U,j3,I,b4⟩:=Zbs hE I;obtain⟨⟨b6,a4⟩,I⟩:=Zv I;refine e7 U j3 (λB σ g w ρ hh a8 hI hx=> ?_) a4 I;have hd:=hx x mx;rw[hX] at hd;obtain⟨base,c,us,C⟩:=b4 hh σ g w B (ρ x) a8 hI hd;obtain⟨r,z,c',e1,_,_,_,_,f5⟩:=Vm hd;have e2:=C.v;rw[e1] at e2;cases e2;exact⟨_,_,us,C,by have:=f5 c0 rfl;omega⟩
     ·rename_i b len w' hX
      split at I
      ·rename_i th' l fz hb
       split at I
       ·rename_i hw
        obtain rfl:w'=E.w th:=aG hw;have e:=Zz7 I;subst e;obtain⟨⟨e3,h5,a4⟩,I⟩:=Zv (Zrk I);refine⟨_,Zrc I,λb' a3=>by(simp at a3;subst a3;rw[hb];simp),?_⟩;intro B σ g w ρ hh a8 hI hB c9 hx;have c6:∀b'∈b::e8,hh b'=h b':=a8;have a3:=(c6 b (by simp)).trans hb;obtain⟨b2,c2,a2,a0⟩:=d5 hh σ g w B (ρ y) (λb' a3=>c6 b' (by simp[a3])) hI (hx y my);obtain⟨r2,o2,a5⟩:=a0.some d0;have hd:=hx x mx;rw[hX] at hd;obtain⟨r,z',c1,e1,b9,hz,h6,h9,_⟩:=Vm hd;rw[bX] at hz;rw[Nat.zero_mul] at e1;obtain⟨r',k1,g4,g8⟩:=hI.blk b _ a3;rw[b9] at g4;cases g4
        obtain⟨arr,e,ha,c8,f8,f6,h3⟩:=(BlkOk.cells_iff (by intro es e;cases e)).1 g8;have h4:e=E.el th':=h3;rw[h4,c7.2] at ha;simp only[cU] at f8 f6;rw[Z3 hE] at f8;have b5:=c9 i (aE _) (fx _);have e4:b≠i:=by rintro rfl;rw[b5] at b9;cases b9
        have hn:=g3 _ a4;have e2:=a0.len;have h8:len*E.w th'<=arr.size:=by
         have:=bH (E.w th') h6;omega
        have i5:∀u∈a2,u.oneCell'=true:=by
         intro u hu;obtain⟨j,R,rfl⟩:=da hu;have g2:j<(J.flatMap (E.enc th')).length:=by rw[Z3 hE];omega
         exact Uf (Zkt hE th' J (aq g2)) (a0.den j _ _ (aq g2) (aq R))
        have b8:(arr.toList.take (len*E.w th')).length=(l.take len).length*E.w th':=by
         rw[aW,aW,gu (by simpa using h8),gu e3]
        have h0:∀(j:Nat) sv u,((l.take len).flatMap (E.enc th'))[j]? =ah sv->(arr.toList.take (len*E.w th'))[j]? =ah u->Den E σ g sv u:=by
         intro j sv u h1 h2;obtain⟨q,p,y',rfl,hp,hq,hs⟩:=Xo hE th' _ h1;rw[bU] at hq h2;split at hq
         ·split at h2
          ·obtain⟨u',b0,c3⟩:=f6 (q*E.w th'+p) sv (by rw[Y3 hE th' l q y' hq p hp];exact hs)
           rw[show arr.toList[q*E.w th'+p]? =arr[q*E.w th'+p]? by simp,b0] at h2;cases h2;exact c3
          ·cases h2
         ·cases hq
        have d1:(l.take len).length=len:=by simp;omega
        have g0:∀(j:Nat) sv,(((l.take len)++J).flatMap (E.enc th'))[j]? =ah sv->∃u,(arr.toList.take (len*E.w th')++a2)[j]? =ah u/\Den E σ g sv u:=λj sv R=>Zg4 hE b8 h0 a0.len a0.den R;rw[Zii _ _ _ _ _ _ e4];by_cases d2:len+J.length<=c1
        ·have d6:len*info.size+a2.length<=arr.size:=by
          rw[a6,a7,e2,<-cK];have:=bH (E.w th') d2;omega
         have a9:=run_append_room (P:=E.P) w t o.type el info hu c4 r len c1 arr ha ⟨r2,o2,aD⟩ J.length c2 a2 (by rw[e2,a6,a7]) (λj u R=>by rw[Yy];exact a0.cell r2 o2 a5 j u R) i5 d2 d6;rw[a6,a7] at a9 d6;have j1:=Y7 arr.toList a2 (len*E.w th') (by simpa using d6);obtain⟨q1,q2⟩:=Zc1 (i:=i) hI (blk':= .rows th' (l.take len++J) fz) a3 b9 (arr':=(arr.toList.take (len*E.w th')++a2++arr.toList.drop (len*E.w th'+a2.length)).toArray) ha (by simp;omega) c8 c7.2.symm (by intro es e;cases e) rfl
          (λn i1=>by
           simp only[gN] at i1;have:=bH (E.w th') h5
           rw[cG,j1,jh (by omega)];simp)
          (by simp only[cU];rw[Z3 hE,aO,d1];have:=bH (E.w th') d2;omega)
          (λj sv R=>by
           obtain⟨u,b0,c3⟩:=g0 j sv R;refine⟨u,?_,c3⟩
           rw[cG,cf (ar.1 b0).1];exact b0)
         have q3:=Zsm (b:=b) (i:=i) q1 (by rw[Zf,jh rfl]) b9 b5;have eh:upd (upd (upd hh b (ah (.rows th' (l.take len++J) fz))) b aD) i (ah (.rows th' (l.take len++J) fz))=upd (upd hh b aD) i (ah (.rows th' (l.take len++J) fz)):=by
          funext j;simp only[Zf];by_cases c1:j=i<;>by_cases c2:j=b<;>simp[c1,c2]
         rw[eh] at q3;refine Y5 (run w _ ρ _ (by rw[a0.v,e1,a5];exact a9)) ⟨_,g,⟨Zig b5,?_,q2.gle,q2.gcnew,q2.gmnew,q2.heap,q2.size,q2.os,q2.tape,q2.output,?_⟩,q3,?_⟩
         ·intro b' p a3
          unfold updσ at a3;by_cases c:b'=i
          ·right;simp[c]
          ·rw[jb c] at a3;exact .inl a3
         ·intro b' r' z2 h1 h2
          unfold updσ at h2;by_cases c:b'=i
          ·rw[jh c] at h2;cases h2;exact .inr ⟨b,by simp,_,b9⟩
          ·rw[jb c,h1] at h2;cases h2
         ·have:=Den.sl (E:=E) (g:=g) (σ:=updσ σ i (r,z')) (b:=i) (off:=0) (len:=len+J.length) (w:=E.w th') (c:=c1) (cap:=none) (r:=r) (z:=z') (by simp[updσ]) (by simpa using hz) d2 h9 (λm e=>by cases e)
          simpa using this
        ·have b6:c1<len+J.length:=by omega
         have a9:=run_append_grow (P:=E.P) w t o.type el info ti.zero hu c4 d9 ⟨r,0,aD⟩ len c1 (arr.toList.take (len*E.w th')) (by rw[b8,d1,a6,a7]) (λj u R=>by
          rw[Yy,bX];rw[bU] at R;split at R
          ·simp only[jo,ha];simpa using R
          ·cases R) ⟨r2,o2,aD⟩ J.length c2 a2 (by rw[e2,a6,a7]) (λj u R=>by rw[Yy];exact a0.cell r2 o2 a5 j u R) b6 (by omega) (by rw[d8];exact growslice_fits b6 a4)
         have d7:=grownCap_ge w (len+J.length) c1 el;have f9:=grownCap_le_maxLen w (len+J.length) c1 el (by unfold maxLen;omega);generalize f5:grownCap w (len+J.length) c1 el=cap at a9 d7 f9
         have g5:Inv E B σ (upd hh b aD) g w.drew:=Zqd (Zne hI λb' x' d3=>by
          rw[Zf] at d3;split at d3
          ·cases d3
          ·exact d3)
         have e9:((arr.toList.take (len*E.w th')).toArray++a2.toArray++fa ti.zero.cells (cap-(len+J.length))).size=cap*E.w th':=by
          rw[d1] at b8;simp only[jF,gU,b8,e2,size_zeroCells,e6,<-cK]
          congr 1;omega
         obtain⟨q1,q2⟩:=Ze9 (i:=i) g5 (by simpa using hB) b5 (arr:=(arr.toList.take (len*E.w th')).toArray++a2.toArray++fa ti.zero.cells (cap-(len+J.length))) (e:=el) (blk:= .rows th' (l.take len++J) fz) (by intro es e;cases e) c7.2.symm
          (by simp only[cU];rw[Z3 hE,e9,aO,d1];exact bH _ d7)
          (λj sv R=>by
           obtain⟨u,b0,c3⟩:=g0 j sv R;refine⟨u,?_,c3⟩;rw[fy (by have:=(ar.1 b0).1;simpa using this)]
           simpa using b0)
         refine Y5 (run w _ ρ _ (by rw[a0.v,e1,a5];exact a9)) ⟨_,g,Zqe (q2.weaken' (by simp)),q1,?_⟩;have:=Den.sl (E:=E) (g:=g) (σ:=updσ σ i (w.drew.heap.size,((arr.toList.take (len*E.w th')).toArray++a2.toArray++fa ti.zero.cells (cap-(len+J.length))).size)) (b:=i) (off:=0) (len:=len+J.length) (w:=E.w th') (c:=cap) (cap:=none) (r:=w.heap.size) (z:=((arr.toList.take (len*E.w th')).toArray++a2.toArray++fa ti.zero.cells (cap-(len+J.length))).size) (by simp[updσ]) (by rw[e9];simp) d7 f9 (λm e=>by cases e)
         simpa using this
       ·exact I.elim
      ·exact I.elim
     ·exact I.elim
  ·exact I.elim
 ·exact I.elim
end
end
section
open Go.RowKit
section
variable {Y:Thy} {E:Eng Y} {o:Oper} {T:Fr Y} {h:Hp Y} {i:Nat} {k:Res Y->Prop}
def mxP(m cap:Nat):Option (IntKind×Int)->Prop|none=>m=cap|some q=>0<=q.2/\q.2<=cap/\m=q.2.toNat
def hiP(h m len cap:Nat):Option (IntKind×Int)->Option (IntKind×Int)->Prop|none,aD=>h=len|some q,aD=>0<=q.2/\q.2<=cap/\h=q.2.toNat|some q,ah _=>0<=q.2/\q.2<=m/\h=q.2.toNat|none,ah _=>False
def loP(l h:Nat):Option (IntKind×Int)->Prop|none=>l=0|some q=>0<=q.2/\q.2<=h/\l=q.2.toNat
def bnd(r:Option (Bool×IntKind×Int)):Option (IntKind×Int):=r.map λq=>(q.2.1,q.2.2)
theorem Wt{P:Program} {b:Bool} {len cap:Nat} {lo hi mx:Option (IntKind×Int)} {l h m:Nat} (w:World)
 (hm:mxP m cap mx) (J:hiP h m len cap hi mx) (j:loP l h lo):
 (eC b len cap (lo.map λx=> .int x.1 x.2) (hi.map λx=> .int x.1 x.2) (mx.map λx=> .int x.1 x.2)).run P w= .ok (l,h,m) w:=by
 have bound:∀(kd:IntKind) (x:Int) (y:Nat) (c:BoundsCode),0<=x->x<=y->(jM (.int kd x) y c).run P w= .ok x.toNat w:=by
  intro kd x y c t I
  simp only[jM,asIntOf,aL,aR,aH]
  rw[jh ⟨t,I⟩];rfl
 unfold eC
 cases mx with
 |none=>
  have hm:m=cap:=hm;subst hm
  cases hi with
  |none=>
   have J:h=len:=J;subst J
   cases lo with
   |none=>have j:l=0:=j;subst j;simp only[eT,aL,aR,aH]
   |some x=>obtain⟨t,I,rfl⟩:=j;simp only[eT,cH,aL,aR,aH,bound _ _ _ _ t I]
  |some y=>
   obtain⟨R,U,rfl⟩:=J
   cases lo with
   |none=>have j:l=0:=j;subst j;simp only[eT,cH,aL,aR,aH,bound _ _ _ _ R U]
   |some x=>obtain⟨t,I,rfl⟩:=j;simp only[eT,cH,aL,aR,aH,bound _ _ _ _ R U,bound _ _ _ _ t I]
 |some z=>
  obtain⟨h5,h6,rfl⟩:=hm
  cases hi with
  |none=>exact J.elim
  |some y=>
   obtain⟨R,U,rfl⟩:=J
   cases lo with
   |none=>have j:l=0:=j;subst j;simp only[eT,cH,aL,aR,aH,bound _ _ _ _ h5 h6,bound _ _ _ _ R U]
   |some x=>obtain⟨t,I,rfl⟩:=j;simp only[cH,aL,aR,aH,bound _ _ _ _ h5 h6,bound _ _ _ _ R U,bound _ _ _ _ t I]
theorem Zut(hE:EngOk E) {σ:Pl} {g:GH} {th:Y.Th} {l:List (Y.dom th)} {full I:Bool} {base:Option Addr} {c:Nat} (hd:Den E σ g (.psl th l full) (.slice base l.length c)) {a b m:Nat} (a3:a<=b) (hb:b<=l.length) (hm:m<=c) (a4:b<=m) (hf:I=af->m=b):
 Den E σ g (.psl th ((l.take b).drop a) I) (.slice (if m=a then base else base.map (·.add (a*E.w th))) (b-a) (m-a)):=by
 obtain⟨a2,c',U,e,h1,h2,h3,a0,h5,h6⟩:=Vx hd
 cases e
 have a1:((l.take b).drop a).length=b-a:=by simp;omega
 have J:∀q x,((l.take b).drop a)[q]? =ah x->l[a+q]? =ah x:=by
  intro q x t
  rw[cL,bU] at t
  split at t
  ·exact t
  ·cases t
 rw[<-a1]
 refine .psl (λq j=>U (a+q) j) (by omega) (by omega) (λt=>by have:=hf t;omega) ?_ ?_ (λq x t j sv hs=>h6 _ x (J q x t) j sv hs)
 ·intro R
  by_cases e:m=a
  ·omega
  ·rw[jb e] at R
   cases base with
   |none=>have:=a0 rfl;omega
   |some ad=>simp at R
 ·intro hp
  have e:¬m=a:=by omega
  obtain⟨r,o,rfl,hc⟩:=h5 (by omega)
  rw[jb e]
  refine⟨r,o+a*E.w th,by simp[Yy],λq x t j hj=> ?_⟩
  have:=hc _ x (J q x t) j hj
  rw[cK] at this
  rw[show o+a*E.w th+q*E.w th+j=o+(a*E.w th+q*E.w th)+j by omega];exact this
theorem Zuu(hE:EngOk E) {t:TypeId} {x:Operand} {lo hi mx:Option Operand} (ho:o.op= .slice t x lo hi mx) (I:Zzg E t (ev T x) (lo.map (ev T)) (hi.map (ev T)) (mx.map (ev T)) h k):∃r,k r/\OpTri E o T h i r:=by
 have m0:x∈o.op.operands.toList:=by simp[ho,ba]
 have m1:∀y,lo=ah y->y∈o.op.operands.toList:=by rintro y rfl;simp[ho,ba]
 have m2:∀y,hi=ah y->y∈o.op.operands.toList:=by rintro y rfl;simp[ho,ba]
 have m3:∀y,mx=ah y->y∈o.op.operands.toList:=by rintro y rfl;simp[ho,ba]
 have rd:∀(σ:Pl) (g:GH) (ρ:Operand->Value),(∀x∈o.op.operands.toList,Den E σ g (ev T x) (ρ x))->∀(z:Option Operand) (r:Option (Bool×IntKind×Int)),(∀y,z=ah y->y∈o.op.operands.toList)->z.map (ev T)=r.map (λq=> .int q.1 q.2.1 q.2.2)->
  z.map ρ=(bnd r).map λq=> .int q.1 q.2:=by
  intro σ g ρ hx z r hz he;cases z with
  |none=>cases r with
   |none=>rfl
   |some q=>simp at he
  |some y=>cases r with
   |none=>simp at he
   |some q=>
    have:=hx y (hz y rfl);simp only[cH,cF] at he;rw[he] at this;generalize hv:ρ y=v at this;cases this;simp[hv,bnd]
 have b7:∀(w:World) (ρ:Operand->Value) (el:TypeId) (sz a7:Nat) (z:Value) (base:Option Addr) (len cap:Nat) (a b m:Nat),E.ty t=ah ⟨.slice el,sz,a7,z⟩->(∃ti,E.ty el=ah ti)->ρ x= .slice base len cap->
  (eC af len cap (lo.map ρ) (hi.map ρ) (mx.map ρ)).run E.P w= .ok (a,b,m) w->(execOp ρ o).run E.P w= .ok (.value (.slice (if m=a then base else base.map (·.add (a*((E.ty el).map (·.size)).getD 0))) (b-a) (m-a))) w:=by
  intro w ρ el sz a7 z base len cap a b m ht ⟨ti,c1⟩ hv hb;unfold execOp;simp only[ho,gC,aL,Zy hE ht,aH,kB,hv,hb,Z0 hE c1,aR,c1,cH,dH]
 have a4:∀(z:Option Operand) (l:Bool) (kd:IntKind) (n:Int),z.map (ev T)=ah (.int l kd n)->z.map (ev T)=(ah (l,kd,n):Option (Bool×IntKind×Int)).map (λq=> .int q.1 q.2.1 q.2.2):=λz l kd n h=>h;have a2:∀(z:Option Operand),z.map (ev T)=aD->z.map (ev T)=(aD:Option (Bool×IntKind×Int)).map (λq=> .int q.1 q.2.1 q.2.2):=λz h=>h;unfold Zzg at I;split at I
 ·rename_i el sz a7 z th l full ht hX
  split at I
  ·rename_i ti a8
   have a3:∀(rl rh rm:Option (Bool×IntKind×Int)) (a b:Nat) (b6:Bool),ti.size=E.w th->lo.map (ev T)=rl.map (λq=> .int q.1 q.2.1 q.2.2)->hi.map (ev T)=rh.map (λq=> .int q.1 q.2.1 q.2.2)->mx.map (ev T)=rm.map (λq=> .int q.1 q.2.1 q.2.2)->a<=b->b<=l.length->
    (∀c,l.length<=c->(full=af->c=l.length)->∃m,m<=c/\b<=m/\(b6=af->m=b)/\mxP m c (bnd rm)/\hiP b m l.length c (bnd rh) (bnd rm)/\loP a b (bnd rl))->
    OpTri E o T h i (quiet [] (.psl th ((l.take b).drop a) b6)):=by
    intro rl rh rm a b b6 a1 e1 e2 e3 c3 hb hm;refine Zr λB σ g w ρ hh _ hI hx=> ?_;have hd:=hx x m0;rw[hX] at hd;obtain⟨base,c,cv,e,hl,_,hf,_⟩:=Vx hd;obtain⟨m,q1,q2,q3,q4,q5,q6⟩:=hm c hl hf;rw[e] at hd;have a6:=Wt (P:=E.P) (b:=true) w q4 q5 q6;rw[<-rd σ g ρ hx lo rl m1 e1,<-rd σ g ρ hx hi rh m2 e2,<-rd σ g ρ hx mx rm m3 e3] at a6;refine⟨_,b7 w ρ el sz a7 z base _ c a b m ht ⟨ti,a8⟩ e a6,?_⟩;rw[a8];simp only[cH,dH,a1];exact Zut hE hd c3 hb q1 q2 q3
   split at I
   ·rename_i a1 J R U
    refine⟨_,I,?_⟩;have:=a3 aD aD aD 0 l.length full (aG a1) (a2 _ J) (a2 _ R) (a2 _ U) (by omega) (by omega) (λc hc hf=>⟨c,by omega,hc,hf,rfl,rfl,rfl⟩)
    simpa using this
   ·rename_i l' kd b a1 J R U
    obtain⟨⟨p1,p2⟩,I⟩:=Zv I;refine⟨_,I,?_⟩;have:=a3 aD (ah (l',kd,b)) aD 0 b.toNat ae (aG a1) (a2 _ J) (a4 _ _ _ _ R) (a2 _ U) (by omega) (by omega) (λc hc hf=>⟨c,by omega,by omega,by simp,rfl,(by dsimp only[bnd,cV,hiP];omega),rfl⟩)
    simpa using this
   ·rename_i l' kd a a1 J R U
    obtain⟨⟨p1,p2⟩,I⟩:=Zv I;refine⟨_,I,?_⟩;have:=a3 (ah (l',kd,a)) aD aD a.toNat l.length full (aG a1) (a4 _ _ _ _ J) (a2 _ R) (a2 _ U) (by omega) (by omega) (λc hc hf=>⟨c,by omega,by omega,hf,rfl,rfl,(by dsimp only[bnd,cV,loP];omega)⟩)
    simpa using this
   ·rename_i l1 k1 a l2 k2 b a1 J R U
    obtain⟨⟨p1,p2,p3⟩,I⟩:=Zv I;exact⟨_,I,a3 (ah (l1,k1,a)) (ah (l2,k2,b)) aD a.toNat b.toNat ae (aG a1) (a4 _ _ _ _ J) (a4 _ _ _ _ R) (a2 _ U) (by omega) (by omega) (λc hc hf=>⟨c,by omega,by omega,by simp,rfl,(by dsimp only[bnd,cV,hiP];omega),(by dsimp only[bnd,cV,loP];omega)⟩)⟩
   ·rename_i l2 k2 b l3 k3 c0 a1 J R U
    obtain⟨⟨p1,pe,p3⟩,d2⟩:=Zv I;clear I;subst pe;refine⟨_,d2,?_⟩;have:=a3 aD (ah (l2,k2,b)) (ah (l3,k3,b)) 0 b.toNat af (aG a1) (a2 _ J) (a4 _ _ _ _ R) (a4 _ _ _ _ U) (by omega) (by omega) (λc hc hf=>⟨b.toNat,by omega,by omega,λ_=>rfl,(by dsimp only[bnd,cV,mxP];omega),(by dsimp only[bnd,cV,hiP];omega),rfl⟩)
    simpa using this
   ·exact I.elim
  ·exact I.elim
 ·rename_i el sz a7 z ht hX
  split at I
  ·rename_i ti a8
   have a3:∀(rl rh rm:Option (Bool×IntKind×Int)),lo.map (ev T)=rl.map (λq=> .int q.1 q.2.1 q.2.2)->hi.map (ev T)=rh.map (λq=> .int q.1 q.2.1 q.2.2)->mx.map (ev T)=rm.map (λq=> .int q.1 q.2.1 q.2.2)->
    mxP 0 0 (bnd rm)->hiP 0 0 0 0 (bnd rh) (bnd rm)->loP 0 0 (bnd rl)->OpTri E o T h i (quiet [] (.val (.slice aD 0 0))):=by
    intro rl rh rm e1 e2 e3 z1 z2 z3;refine Zr λB σ g w ρ hh _ hI hx=> ?_;have hd:=hx x m0;rw[hX] at hd;generalize hv:ρ x=v at hd;cases hd;have a6:=Wt (P:=E.P) (b:=true) (len:=0) (cap:=0) w z1 z2 z3;rw[<-rd σ g ρ hx lo rl m1 e1,<-rd σ g ρ hx hi rh m2 e2,<-rd σ g ρ hx mx rm m3 e3] at a6;exact⟨_,b7 w ρ el sz a7 z aD 0 0 0 0 0 ht ⟨ti,a8⟩ hv a6,by simpa using Den.val _⟩
   split at I
   ·rename_i J R U
    exact⟨_,I,a3 aD aD aD (a2 _ J) (a2 _ R) (a2 _ U) rfl rfl rfl⟩
   ·rename_i l kd a J R U
    obtain⟨p,I⟩:=Zv I;exact⟨_,I,a3 (ah (l,kd,a)) aD aD (a4 _ _ _ _ J) (a2 _ R) (a2 _ U) rfl rfl (by dsimp only[bnd,cV,loP];omega)⟩
   ·rename_i l kd a J R U
    obtain⟨p,I⟩:=Zv I;exact⟨_,I,a3 aD (ah (l,kd,a)) aD (a2 _ J) (a4 _ _ _ _ R) (a2 _ U) rfl (by dsimp only[bnd,cV,hiP];omega) rfl⟩
   ·rename_i l kd a l' b0 c J R U
    obtain⟨p,I⟩:=Zv I;exact⟨_,I,a3 aD (ah (l,kd,a)) (ah (l',b0,c)) (a2 _ J) (a4 _ _ _ _ R) (a4 _ _ _ _ U) (by dsimp only[bnd,cV,mxP];omega) (by dsimp only[bnd,cV,hiP];omega) rfl⟩
   ·exact I.elim
  ·exact I.elim
 ·rename_i el sz a7 z b off len w' cap ht hX
  split at I
  ·rename_i ti a8
   have a3:∀(rl rh rm:Option (Bool×IntKind×Int)) (a n:Nat) (v:SV Y),ti.size=w'->lo.map (ev T)=rl.map (λq=> .int q.1 q.2.1 q.2.2)->hi.map (ev T)=rh.map (λq=> .int q.1 q.2.1 q.2.2)->mx.map (ev T)=rm.map (λq=> .int q.1 q.2.1 q.2.2)->a<=n->
    (∀c,len<=c->c<=maxLen->(∀q,cap=ah q->c=q)->∃m,mxP m c (bnd rm)/\hiP n m len c (bnd rh) (bnd rm)/\loP a n (bnd rl)/\n<=m/\m<=c/\
     ∀σ g r z',σ b=ah (r,z')->(off+c)*w'<=z'->Den E σ g v (.slice (ah (if m=a then⟨r,off*w',aD⟩ else⟨r,(off+a)*w',aD⟩)) (n-a) (m-a)))->OpTri E o T h i (quiet [] v):=by
    intro rl rh rm a n v a1 e1 e2 e3 hn hm;refine Zr λB σ g w ρ hh _ hI hx=> ?_;have hd:=hx x m0;rw[hX] at hd;obtain⟨r,z',c,hv,a5,hz,hl,d3,hc⟩:=Vm hd;obtain⟨m,q1,q2,q3,q4,q5,q6⟩:=hm c hl d3 hc;have a6:=Wt (P:=E.P) (b:=true) (len:=len) (cap:=c) w q1 q2 q3;rw[<-rd σ g ρ hx lo rl m1 e1,<-rd σ g ρ hx hi rh m2 e2,<-rd σ g ρ hx mx rm m3 e3] at a6;refine⟨_,b7 w ρ el sz a7 z _ len c a n m ht ⟨ti,a8⟩ hv a6,?_⟩;have c4:(⟨r,off*w',aD⟩:Addr).add (a*((E.ty el).map (·.size)).getD 0)=⟨r,(off+a)*w',aD⟩:=by rw[Yy,a8];simp[a1,cK]
    have:=q6 σ g r z' a5 hz;simp only[cH,c4];by_cases e:m=a
    ·rw[jh e] at this⊢;exact this
    ·rw[jb e] at this⊢;exact this
   have piece:∀(a n:Nat) (b4:Option Nat) (c m:Nat) (σ:Pl) (g:GH) (r z':Nat),a<=n->n<=m->m<=c->c<=maxLen->(a<m\/a=0)->(∀q,b4=ah q->m-a=q)->σ b=ah (r,z')->(off+c)*w'<=z'->
    Den E σ g (.sl b (off+a) (n-a) w' b4) (.slice (ah (if m=a then⟨r,off*w',aD⟩ else⟨r,(off+a)*w',aD⟩)) (n-a) (m-a)):=by
    intro a n b4 c m σ g r z' J R U h4 h5 h6 a5 hz;have d6:(off+a+(m-a))*w'<=z':=bY (bH _ (by omega)) hz;have:=Den.sl (E:=E) (g:=g) (b:=b) (off:=off+a) (len:=n-a) (w:=w') (c:=m-a) (cap:=b4) a5 d6 (by omega) (by omega) (λq hq=>h6 q hq);by_cases e:m=a
    ·rw[jh e]
     rcases h5 with h5|h5
     ·omega
     ·subst h5;exact this
    ·rw[jb e];exact this
   have none_:∀(th:Y.Th) (x:Addr) (d:Nat) (σ:Pl) (g:GH),d<=maxLen->Den E σ g (.psl th [] ae) (.slice (ah x) 0 d):=by
    intro th x d σ g hd;exact .psl (l:= []) (λ_ _=>undef) (bg _) hd (by simp) (by simp) (by simp) (by simp)
   split at I
   ·rename_i a1 J R U
    have a1:=aG a1;exact⟨_,I,a3 aD aD aD 0 len _ a1 (a2 _ J) (a2 _ R) (a2 _ U) (bg _) (λc hl hm hc=>⟨c,rfl,rfl,rfl,hl,aE _,λσ g r z' a5 hz=>by simpa using piece 0 len cap c c σ g r z' (by omega) hl (aE _) hm (.inr rfl) (λq hq=>by have:=hc q hq;omega) a5 hz⟩)⟩
   ·rename_i l kd c0 a1 J R U
    have a1:=aG a1;obtain⟨p,I⟩:=Zv I;exact⟨_,I,a3 aD (ah (l,kd,c0)) aD 0 c0.toNat _ a1 (a2 _ J) (a4 _ _ _ _ R) (a2 _ U) (bg _) (λc hl hm hc=>⟨c,rfl,(by dsimp only[bnd,cV,hiP];omega),rfl,by omega,aE _,λσ g r z' a5 hz=>by simpa using piece 0 c0.toNat cap c c σ g r z' (by omega) (by omega) (aE _) hm (.inr rfl) (λq hq=>by have:=hc q hq;omega) a5 hz⟩)⟩
   ·rename_i l kd c0 l' b0 b5 a1 J R U
    have a1:=aG a1;obtain⟨p,I⟩:=Zv I;exact⟨_,I,a3 aD (ah (l,kd,c0)) (ah (l',b0,b5)) 0 c0.toNat _ a1 (a2 _ J) (a4 _ _ _ _ R) (a4 _ _ _ _ U) (bg _) (λc hl hm hc=>⟨b5.toNat,(by dsimp only[bnd,cV,mxP];omega),(by dsimp only[bnd,cV,hiP];omega),rfl,by omega,by omega,λσ g r z' a5 hz=>by simpa using piece 0 c0.toNat (ah b5.toNat) c b5.toNat σ g r z' (by omega) (by omega) (by omega) hm (.inr rfl) (λq hq=>by cases hq;omega) a5 hz⟩)⟩
   ·rename_i l kd a0 a1 J R U
    have a1:=aG a1;obtain⟨p,I⟩:=Zv I;have I:=Yk I;split at I
    ·rename_i a9
     have a9:=iK a9;refine⟨_,I,a3 (ah (l,kd,a0)) aD aD a0.toNat len _ a1 (a4 _ _ _ _ J) (a2 _ R) (a2 _ U) (by omega) (λc hl hm hc=>⟨c,rfl,rfl,(by dsimp only[bnd,cV,loP];omega),hl,aE _,λσ g r z' a5 hz=>piece a0.toNat len _ c c σ g r z' (by omega) hl (aE _) hm (.inl (by omega)) (λq hq=> ?_) a5 hz⟩)⟩;cases cap with
     |none=>cases hq
     |some q0=>have:=hc q0 rfl;simp only[Zjh,cF] at hq;omega
    ·rename_i th a9 d5
     have a9:=iT a9;have e:len=a0.toNat:=by omega
     refine⟨_,I,a3 (ah (l,kd,a0)) aD aD a0.toNat len _ a1 (a4 _ _ _ _ J) (a2 _ R) (a2 _ U) (by omega) (λc hl hm hc=>⟨c,rfl,rfl,(by dsimp only[bnd,cV,loP];omega),hl,aE _,λσ g r z' a5 hz=> ?_⟩)⟩;rw[show len-a0.toNat=0 by omega];exact none_ th _ _ σ g (by omega)
    ·exact I.elim
   ·rename_i l kd a0 l' b0 c0 a1 J R U
    have a1:=aG a1;obtain⟨p,I⟩:=Zv I;have I:=Yk I;split at I
    ·rename_i a9
     have a9:=iK a9;refine⟨_,I,a3 (ah (l,kd,a0)) (ah (l',b0,c0)) aD a0.toNat c0.toNat _ a1 (a4 _ _ _ _ J) (a4 _ _ _ _ R) (a2 _ U) (by omega) (λc hl hm hc=>⟨c,rfl,(by dsimp only[bnd,cV,hiP];omega),(by dsimp only[bnd,cV,loP];omega),by omega,aE _,λσ g r z' a5 hz=>piece a0.toNat c0.toNat _ c c σ g r z' (by omega) (by omega) (aE _) hm (.inl (by omega)) (λq hq=> ?_) a5 hz⟩)⟩;cases cap with
     |none=>cases hq
     |some q0=>have:=hc q0 rfl;simp only[Zjh,cF] at hq;omega
    ·rename_i th a9 d5
     have a9:=iT a9;refine⟨_,I,a3 (ah (l,kd,a0)) (ah (l',b0,c0)) aD a0.toNat c0.toNat _ a1 (a4 _ _ _ _ J) (a4 _ _ _ _ R) (a2 _ U) (by omega) (λc hl hm hc=>⟨c,rfl,(by dsimp only[bnd,cV,hiP];omega),(by dsimp only[bnd,cV,loP];omega),by omega,aE _,λσ g r z' a5 hz=> ?_⟩)⟩;rw[show c0.toNat-a0.toNat=0 by omega];exact none_ th _ _ σ g (by omega)
    ·exact I.elim
   ·exact I.elim
  ·exact I.elim
 ·rename_i sz a7 z l s ht hX
  have a3:∀(rl rh:Option (Bool×IntKind×Int)) (a b:Nat) (l':Bool),lo.map (ev T)=rl.map (λq=> .int q.1 q.2.1 q.2.2)->hi.map (ev T)=rh.map (λq=> .int q.1 q.2.1 q.2.2)->mx.map (ev T)=aD->
   hiP b s.length s.length s.length (bnd rh) aD->loP a b (bnd rl)->OpTri E o T h i (quiet [] (.str l' ((s.take b).drop a))):=by
   intro rl rh a b l' e1 e2 e3 z1 z2;refine Zr λB σ g w ρ hh _ hI hx=> ?_;have hd:=hx x m0;rw[hX] at hd;generalize hv:ρ x=v at hd;cases hd;rename_i s hs;subst hs;rw[Zda] at z1;have a6:=Wt (P:=E.P) (b:=false) (len:=s.size) (cap:=s.size) (lo:=bnd rl) (hi:=bnd rh) (mx:=none) (l:=a) (h:=b) (m:=s.size) w rfl
    z1 z2
   rw[<-rd σ g ρ hx lo rl m1 e1,<-rd σ g ρ hx hi rh m2 e2] at a6;have e4:mx.map ρ=none:=by cases mx with|none=>rfl|some y=>simp at e3
   refine⟨.string (s.extract a b),?_,.str _ (Zpa _ _ _)⟩;unfold execOp;simp only[ho,gC,aL,Zy hE ht,aH,kB,hv,e4,Option.isSome_none,bc,jQ];have b3:(eC ae s.size s.size (lo.map ρ) (hi.map ρ) aD).run E.P w= .ok (a,b,s.size) w:=a6;simp only[aL,aR,aH,b3]
  split at I
  ·rename_i J R U
   refine⟨_,I,?_⟩;have:=a3 aD aD 0 s.length l (a2 _ J) (a2 _ R) U rfl rfl;rw[aM,eO] at this;exact this
  ·rename_i m kd b J R U
   obtain⟨p,I⟩:=Zv I;exact⟨_,I,by rw[<-eO (l:=s.take b.toNat)];exact a3 aD (ah (m,kd,b)) 0 b.toNat _ (a2 _ J) (a4 _ _ _ _ R) U (by dsimp only[bnd,cV,hiP];omega) rfl⟩
  ·rename_i m kd a J R U
   obtain⟨p,I⟩:=Zv I;exact⟨_,I,by conv=>{rhs;rw[<-aM (l:=s)]};exact a3 (ah (m,kd,a)) aD a.toNat s.length _ (a4 _ _ _ _ J) (a2 _ R) U rfl (by dsimp only[bnd,cV,loP];omega)⟩
  ·rename_i m kd a m' b0 b J R U
   obtain⟨p,I⟩:=Zv I;exact⟨_,I,a3 (ah (m,kd,a)) (ah (m',b0,b)) a.toNat b.toNat _ (a4 _ _ _ _ J) (a4 _ _ _ _ R) U (by dsimp only[bnd,cV,hiP];omega) (by dsimp only[bnd,cV,loP];omega)⟩
  ·exact I.elim
 ·rename_i n el sz a7 z b ht hX
  split at I
  ·rename_i f a f' c ti U J R a8
   have core:∀(blk:Blk Y),h b=ah blk->(∀es,blk≠ .map es)->n*ti.size<=(blk.cells E).length->n<=9007199254740992->0<=a->a<=c->c<=n->(a<n\/a=0)->
    OpTri E o T h i (quiet [b] (.sl b a.toNat (c.toNat-a.toNat) ti.size (ah (n-a.toNat)))):=by
    intro blk hb d4 c8 c5 q1 q2 q3 q4;refine Zr λB σ g w ρ hh b8 hI hx=> ?_;have hd:=hx x m0;rw[hX] at hd;generalize hv:ρ x=v at hd;cases hd;rename_i r z' a5;obtain⟨r2,z2,c2,c6⟩:=hI.blk b _ ((b8 b (by simp)).trans hb);rw[a5] at c2;cases c2;obtain⟨arr,e,ha,d7,d8,_⟩:=(BlkOk.cells_iff d4).1 c6;have e4:mx.map ρ=none:=by cases mx with|none=>rfl|some y=>simp at U
    obtain⟨rl,e5,z1⟩:∃rl:Option (Bool×IntKind×Int),lo.map (ev T)=rl.map (λq=> .int q.1 q.2.1 q.2.2)/\loP a.toNat c.toNat (bnd rl):=by
     unfold Z3l at J;split at J
     ·cases J;rename_i hl;exact⟨aD,hl,rfl⟩
     ·cases J;rename_i kd hl;exact⟨ah (f,kd,a),hl,q1,by show a<=(c.toNat:Int);omega,rfl⟩
     ·cases J
    obtain⟨rh,e6,z2⟩:∃rh:Option (Bool×IntKind×Int),hi.map (ev T)=rh.map (λq=> .int q.1 q.2.1 q.2.2)/\hiP c.toNat n n n (bnd rh) none:=by
     unfold Z3l at R;split at R
     ·cases R;rename_i hl;exact⟨aD,hl,by show(n:Int).toNat=n;simp⟩
     ·cases R;rename_i kd hl;exact⟨ah (f',kd,c),hl,by show 0<=c;omega,q3,rfl⟩
     ·cases R
    have a6:=Wt (P:=E.P) (b:=false) (len:=n) (cap:=n) (lo:=bnd rl) (hi:=bnd rh) (mx:=none) (l:=a.toNat) (h:=c.toNat) (m:=n) w rfl z2 z1;rw[<-rd σ g ρ hx lo rl m1 e5,<-rd σ g ρ hx hi rh m2 e6] at a6;refine⟨.slice (ah (if n=a.toNat then⟨r,0,aD⟩ else(⟨r,0,aD⟩:Addr).add (a.toNat*ti.size))) (c.toNat-a.toNat) (n-a.toNat),?_,?_⟩
    ·unfold execOp
     have b3:(eC ae n n (lo.map ρ) (hi.map ρ) aD).run E.P w= .ok (a.toNat,c.toNat,n) w:=a6;simp only[ho,gC,aL,Zy hE ht,aH,hv,eL,aR,e4,b3,Z0 hE a8]
    ·have:=Den.sl (E:=E) (g:=g) (b:=b) (off:=a.toNat) (len:=c.toNat-a.toNat) (w:=ti.size) (c:=n-a.toNat) (cap:=some (n-a.toNat)) a5 (by rw[show a.toNat+(n-a.toNat)=n by omega];omega) (by omega) (by unfold maxLen;omega) (by intro m e;cases e;rfl)
     have ea:(if n=a.toNat then(⟨r,0,aD⟩:Addr) else(⟨r,0,aD⟩:Addr).add (a.toNat*ti.size))=⟨r,a.toNat*ti.size,aD⟩:=by
      split
      ·have:a.toNat=0:=by omega
       rw[this];simp
      ·simp[Yy]
     rw[ea];exact this
   split at I
   ·rename_i cs fz tg hb
    split at I
    ·rename_i hc hf
     simp only[az,bx] at hc;have c8:cs.length=n*ti.size:=aG hc.1;obtain⟨⟨q1,q2,q3,q4⟩,I⟩:=Zv I;exact⟨_,I,core _ hb (by intro es e;cases e) (by show _<=cs.length;omega) hc.2 q1 q2 q3 q4⟩
    ·exact I.elim
   ·rename_i th l fz hb
    split at I
    ·rename_i hc
     simp only[az,bx] at hc;have a1:ti.size=E.w th:=aG hc.1;obtain⟨⟨q0,q1,q2,q3,q4⟩,I⟩:=Zv I;exact⟨_,I,core _ hb (by intro es e;cases e) (by show _<=(l.flatMap (E.enc th)).length;rw[Z3 hE,q0,a1];exact aE _) hc.2 q1 q2 q3 q4⟩
    ·exact I.elim
   ·exact I.elim
  ·exact I.elim
 ·rename_i n el sz a7 z g0 ht hX
  split at I
  ·rename_i J R U
   split at I
   ·rename_i ti sv th a8 d1 d9
    split at I
    ·rename_i l hc c9
     simp only[az,bx] at hc;obtain⟨a1,c5,h0⟩:=hc;have a1:ti.size=E.w th:=aG a1;have h0:0<n:=Yi h0;obtain⟨hl,c7⟩:=Yx hE c9;refine⟨_,I,Zr λB σ g w ρ hh b8 hI hx=> ?_⟩;have hd:=hx x m0;rw[hX] at hd;generalize hv:ρ x=v at hd;cases hd;have e4:mx.map ρ=none:=by cases mx with|none=>rfl|some y=>simp at U
     have e5:lo.map ρ=none:=by cases lo with|none=>rfl|some y=>simp at J
     have e6:hi.map ρ=none:=by cases hi with|none=>rfl|some y=>simp at R
     refine⟨.slice (ah ⟨g0,0,aD⟩) n n,?_,?_⟩
     ·unfold execOp
      have b3:(eC ae n n aD aD aD).run E.P w= .ok (0,n,n) w:=Wt (P:=E.P) (b:=false) (len:=n) (cap:=n) (lo:=none) (hi:=none) (mx:=none) (l:=0) (h:=n) (m:=n) w rfl rfl rfl;simp only[ho,gC,aL,Zy hE ht,aH,hv,eL,aR,e4,e5,e6,b3,Z0 hE a8];rw[jb (by omega)];simp[Yy]
     ·have d0:=hI.glob g0 sv d1
      have key:∀i x,l[i]? =ah x->∀j s,(E.enc th x)[j]? =ah s->∃u,g.cell g0 (0+i*E.w th+j)=ah u/\Den E σ g s u:=by
       intro i x hx j s hs;have hj:j<E.w th:=by rw[<-hE.enc th x];exact(ar.1 hs).1
       have b9:=Y3 hE th l i x hx j hj;rw[hs] at b9;obtain⟨s0,h4,h5⟩:=c7 _ _ b9;obtain⟨u,h6,h7⟩:=d0 _ _ h4;rw[bX];exact⟨u,h6,h5 _ _ _ (h7.mono (λb p e=>by cases e) (.refl _))⟩
      have:=Den.psl (E:=E) (σ:=σ) (g:=g) (th:=th) (l:=l) (full:=true) (base:=some ⟨g0,0,aD⟩) (c:=n) (λi j=>(g.cell g0 (0+i*E.w th+j)).getD undef) (by omega) (by unfold maxLen;omega) (λ_=>hl.symm) (λe=>by cases e)
       (λ_=>⟨g0,0,rfl,λi x hx j hj=>by
        obtain⟨u,h6,_⟩:=key i x hx j _ (aq hj)
        rw[h6];rfl⟩)
       (λi x hx j s hs=>by
        obtain⟨u,h6,h7⟩:=key i x hx j s hs
        rw[h6];exact h7)
      rw[hl] at this;exact this
    ·exact I.elim
   ·exact I.elim
  ·exact I.elim
 ·exact I.elim
end
end
section
open Go.RowKit
section
variable {Y:Thy} {E:Eng Y} {o:Oper} {T:Fr Y} {h:Hp Y} {i:Nat} {k:Res Y->Prop}
def Ztr(j:Bool) (d:TypeDesc):Prop:=match j with|true=>∃q,d= .int q|false=>d= .string
theorem Zdn(t:EngOk E) {J:TypeId} {I:Bool} (j:keyKind E J=ah I):∃d,E.P.underlying J=ah d/\Ztr I d:=by
 unfold keyKind at j;split at j
 ·rename_i q _ _ _ ht;cases j;exact⟨_,(t.ty _ _ ht).1,q,rfl⟩
 ·rename_i _ _ _ ht;cases j;exact⟨_,(t.ty _ _ ht).1,rfl⟩
 ·cases j
theorem X5{P:Program} {t:Bool} {d:TypeDesc} (j:Ztr t d) (b:Bool) (n I:Nat) (R:Value) (w:World) (J:P.underlying I=ah d):(jX b (n+1) I R).run P w= .ok () w:=by
 unfold jX;rw[aL,run_underlying J w];cases t with
 |true=>obtain⟨q,rfl⟩:=j;rfl
 |false=>obtain rfl:=j;rfl
theorem W0{P:Program} {d:TypeDesc} {t:Nat} {I:Value} {j:List MapEntry} {J:Option (Nat×Value)} (w:World) (U:P.underlying t=ah d) (R:cJ d I j 0=ah J):
 (kj t I j).run P w= .ok J w:=by
 unfold kj
 rw[aL,run_underlying U w]
 simp only[aH,R]
 rfl
theorem Ud{P:Program} (w:World) (r:Nat) (j:Array MapEntry) (c:Nat) (t:w.heap[r]? =ah (.map j c)):(getObj r).run P w= .ok (.map j c) w:=by
 simp[getObj,gJ,t]
def EntsK(t:List (Value×SV Y)) (ents:List MapEntry):Prop:=ents.length=t.length/\∀(j:Nat) I sv,t[j]? =ah (I,sv)->∃e,ents[j]? =ah e/\e.key=I
theorem EntsK.tail{t:Value} {sv:SV Y} {I:List (Value×SV Y)} {ents:List MapEntry} (h:EntsK ((t,sv)::I) ents):∃e ents',ents=e::ents'/\e.key=t/\EntsK I ents':=by
 obtain⟨J,R⟩:=h;cases ents with
 |nil=>simp at J
 |cons e ents'=>
  obtain⟨e',U,a0⟩:=R 0 t sv rfl;obtain rfl:e=e':=by simpa using U
  exact⟨e,ents',rfl,a0,by simpa using J,λj t sv hj=>R (j+1) t sv hj⟩
theorem Zy5{ki:Bool} {key:SV Y} {d:TypeDesc} (hd:Ztr ki d):∀{t:List (Value×SV Y)} {f:SV Y->Prop} {z:Prop},Vu ki key t f z->
 (∃(j:Nat) (J:Value) (sv:SV Y),t[j]? =ah (J,sv)/\f sv/\∀σ g u (ents:List MapEntry) i0,Den E σ g key u->EntsK t ents->∃e,ents[j]? =ah e/\cJ d u ents i0=ah (ah (i0+j,e.val)))\/
 (z/\∀σ g u (ents:List MapEntry) i0,Den E σ g key u->EntsK t ents->cJ d u ents i0=ah aD):=by
 intro t
 induction t with
 |nil=>
  intro f z h
  refine .inr ⟨h,λσ g u ents i0 _ U=> ?_⟩
  have:ents= []:=fg (by simpa using U.1)
  subst this;rfl
 |cons p t ih=>
  obtain⟨J,sv⟩:=p
  intro f z h
  have rest:(∀σ g u e,Den E σ g key u->e=J->cE d u e=ah ae)->Vu ki key t f z->
   (∃(j:Nat) (a2:Value) (a0:SV Y),((J,sv)::t)[j]? =ah (a2,a0)/\f a0/\∀σ g u (ents:List MapEntry) i0,Den E σ g key u->EntsK ((J,sv)::t) ents->∃e,ents[j]? =ah e/\cJ d u ents i0=ah (ah (i0+j,e.val)))\/
   (z/\∀σ g u (ents:List MapEntry) i0,Den E σ g key u->EntsK ((J,sv)::t) ents->cJ d u ents i0=ah aD):=by
   intro a4 h
   rcases ih h with⟨j,a2,a0,h1,h2,h3⟩|⟨h1,h2⟩
   ·refine .inl ⟨j+1,a2,a0,h1,h2,λσ g u ents i0 I U=> ?_⟩
    obtain⟨e,ents',rfl,h4,h5⟩:=U.tail
    obtain⟨e',h6,h7⟩:=h3 σ g u ents' (i0+1) I h5
    refine⟨e',h6,?_⟩
    unfold cJ
    rw[a4 σ g u _ I h4]
    rw[show i0+(j+1)=i0+1+j by omega];exact h7
   ·refine .inr ⟨h1,λσ g u ents i0 I U=> ?_⟩
    obtain⟨e,ents',rfl,h4,h5⟩:=U.tail
    unfold cJ
    rw[a4 σ g u _ I h4]
    exact h2 σ g u ents' (i0+1) I h5
  have a3:(∀σ g u e,Den E σ g key u->e=J->cE d u e=ah af)->f sv->
   (∃(j:Nat) (a2:Value) (a0:SV Y),((J,sv)::t)[j]? =ah (a2,a0)/\f a0/\∀σ g u (ents:List MapEntry) i0,Den E σ g key u->EntsK ((J,sv)::t) ents->∃e,ents[j]? =ah e/\cJ d u ents i0=ah (ah (i0+j,e.val))):=by
   intro heq h
   refine⟨0,J,sv,rfl,h,λσ g u ents i0 I U=> ?_⟩
   obtain⟨e,ents',rfl,h4,h5⟩:=U.tail
   refine⟨e,rfl,?_⟩
   unfold cJ
   rw[heq σ g u _ I h4];rfl
  unfold Vu at h
  split at h
  ·rename_i kd b l a5 a
   split at h
   ·rename_i a7
    obtain rfl:=iK a7
    obtain⟨q,rfl⟩:=hd
    have h:=Yk h
    have R:∀σ g u e,Den E σ g (.int l a5 a) u->e=Value.int a5 b->cE (.int q) u e=ah (a==b):=by
     rintro σ g u e I rfl
     cases I;simp[cE]
    cases a1:(a==b) with
    |true=>rw[a1] at h R;exact .inl (a3 R h)
    |false=>rw[a1] at h R;exact rest R h
   ·exact h.elim
  ·rename_i b l a
   obtain rfl:=hd
   have h:=Yk h
   have R:∀σ g u e,Den E σ g (.str l a) u->e=Value.string b->cE .string u e=ah (a==toL b):=by
    rintro σ g u e I rfl
    cases I
    rename_i b' a6
    subst a6
    simp only[cE,Zjs]
   cases a1:(a==toL b) with
   |true=>rw[a1] at h R;exact .inl (a3 R h)
   |false=>rw[a1] at h R;exact rest R h
  ·exact h.elim
def Zax(t:Bool) (key:SV Y) (I:Value) (b:Bool):Prop:=
 match t,I,key with
 |true,.int kd n,.int _ j a=>j=kd/\(a==n)=b
 |false,.string n,.str _ a=>(a==toL n)=b
 |_,_,_=>False
theorem Zhe{a0:Bool} {key:SV Y}:∀{U:List (Value×SV Y)} {f:SV Y->Prop} {z:Prop},Vu a0 key U f z->
 (∃(j:Nat) (t:Value) (sv:SV Y),U[j]? =ah (t,sv)/\f sv/\Zax a0 key t af)\/(z/\∀(j:Nat) t sv,U[j]? =ah (t,sv)->Zax a0 key t ae)
 | [],f,z,h=> .inr ⟨h,λj t sv hj=>by simp at hj⟩
 |(t,sv)::U,f,z,h=>by
  have more:Zax a0 key t ae->Vu a0 key U f z->(∃(j:Nat) (J:Value) (R:SV Y),((t,sv)::U)[j]? =ah (J,R)/\f R/\Zax a0 key J af)\/(z/\∀(j:Nat) J R,((t,sv)::U)[j]? =ah (J,R)->Zax a0 key J ae):=by
   intro h0 h
   rcases Zhe h with⟨j,J,R,h1,h2,h3⟩|⟨h1,h2⟩
   ·exact .inl ⟨j+1,J,R,h1,h2,h3⟩
   ·refine .inr ⟨h1,λj J R hj=> ?_⟩
    cases j with
    |zero=>simp at hj;obtain⟨rfl,rfl⟩:=hj;exact h0
    |succ j=>exact h2 j J R (by simpa using hj)
  unfold Vu at h
  split at h
  ·rename_i kd n l a2 a
   split at h
   ·rename_i a1
    have a1:=iK a1
    have h:=Yk h
    cases I:(a==n) with
    |true=>rw[I] at h;exact .inl ⟨0,_,_,rfl,h,a1,I⟩
    |false=>rw[I] at h;exact more ⟨a1,I⟩ h
   ·exact h.elim
  ·rename_i n l a
   have h:=Yk h
   cases I:(a==toL n) with
   |true=>rw[I] at h;exact .inl ⟨0,_,_,rfl,h,I⟩
   |false=>rw[I] at h;exact more I h
  ·exact h.elim
theorem Zan{I:Bool} {d:TypeDesc} (j:Ztr I d) {key:SV Y} {J:Value} {b:Bool} (h:Zax I key J b) {σ:Pl} {g:GH} {u:Value} (t:Den E σ g key u):cE d u J=ah b:=by
 unfold Zax at h;split at h
 ·obtain⟨rfl,h⟩:=h
  obtain⟨q,rfl⟩:=j;cases t;rw[<-h];simp[cE]
 ·obtain rfl:=j
  cases t;rename_i U R;subst R;rw[<-h,Zjs];simp only[cE]
 ·exact h.elim
theorem Zhf{J:Bool} {key:SV Y} {R U:Value} {b:Bool} (h:Zax J key R b) {q:Option IntKind} (j:KeyIs q R) (I:KeyIs q U):∃b',Zax J key U b':=by
 unfold Zax at h;split at h
 ·rename_i kd n l a1 a
  cases q with
  |none=>obtain⟨s,t⟩:=j;cases t
  |some a0=>
   obtain⟨m,hm⟩:=j;cases hm;obtain⟨m',rfl⟩:=I;exact⟨_,h.1,rfl⟩
 ·cases q with
  |some a0=>obtain⟨s,t⟩:=j;cases t
  |none=>
   obtain⟨m',rfl⟩:=I;exact⟨_,rfl⟩
 ·exact h.elim
theorem Zls{j:Bool} {key:SV Y} {q:IntKind} {n:Int} (h:Zax j key (.int q n) af):j=af/\∃l,key= .int l q n:=by
 unfold Zax at h;split at h
 ·rename_i heq
  cases heq;obtain⟨rfl,h⟩:=h;exact⟨rfl,_,by rw[eq_of_beq h]⟩
 ·rename_i heq
  cases heq
 ·exact h.elim
theorem Zlt{j:Bool} {key:SV Y} {n:ByteArray} (h:Zax j key (.string n) af):∃l,key= .str l (toL n):=by
 unfold Zax at h;split at h
 ·rename_i heq
  cases heq
 ·rename_i heq
  cases heq;exact⟨_,by rw[eq_of_beq h]⟩
 ·exact h.elim
theorem Zts{ki:Bool} {key:SV Y} {I kv':Value} {q:Option IntKind} (h:Zax ki key I af) (J:Zax ki key kv' af) (R:KeyIs q I) (U:KeyIs q kv'):I=kv':=by
 cases q with
 |some q=>
  obtain⟨n,rfl⟩:=R;obtain⟨n',rfl⟩:=U;obtain⟨_,l,t⟩:=Zls h;obtain⟨_,l',j⟩:=Zls J;rw[t] at j;cases j;rfl
 |none=>
  obtain⟨n,rfl⟩:=R;obtain⟨n',rfl⟩:=U;obtain⟨l,t⟩:=Zlt h;obtain⟨l',j⟩:=Zlt J;rw[t] at j;have:toL n=toL n':=by injection j
  rw[Zo9 this]
theorem Zlu{d:TypeDesc} {u:Value}:∀{l:List MapEntry} {i0:Nat},(∀e∈l,cE d u e.key=ah ae)->cJ d u l i0=ah aD
 | [],_,_=>rfl
 |e::l,i0,h=>by
  unfold cJ
  rw[h e (by simp)]
  exact Zlu λe j=>h e (cx _ j)
theorem Zq9{d:TypeDesc} {u:Value}:∀{l:List MapEntry} {i0:Nat},(∀e∈l,∃b,cE d u e.key=ah b)->(∃e∈l,cE d u e.key=ah af)->∃p e,e∈l/\cE d u e.key=ah af/\cJ d u l i0=ah (ah (p,e.val))
 | [],_,_,⟨e,I,_⟩=>by cases I
 |e::l,i0,h,⟨R,a0,J⟩=>by
  obtain⟨b,t⟩:=h e (by simp)
  unfold cJ
  rw[t]
  cases b with
  |true=>exact⟨i0,e,by simp,t,rfl⟩
  |false=>
   have:R∈l:=by
    rcases bE.1 a0 with rfl|j
    ·rw[t] at J;cases J
    ·exact j
   obtain⟨p,U,h1,j,h3⟩:=Zq9 (i0:=i0+1) (λe I=>h e (cx _ I)) ⟨R,this,J⟩
   exact⟨p,U,cx _ h1,j,h3⟩
theorem Zcj(hE : EngOk E) {t kt et : TypeId} {m x : Operand} {ok : Bool} (ho : o.op = .lookup t m x ok) {z1 z2 : Nat} {z3 : Value} (ht : E.ty t = ah ⟨.map kt et, z1, z2, z3⟩) {ki : Bool} (hki : keyKind E kt = ah ki) {ti : TyI} (het : E.ty et = ah ti) {es : List (Value × SV Y)} {rd : List Nat} (hmo : Zty h (ev T m) = ah (es, rd))
    {zero key : SV Y} (U : ∀ σ g, Den E σ g zero ti.zero) (R : ∀ σ g u, Den E σ g (ev T x) u → Den E σ g key u) (hk : Ybi ki zero rd ok key es k) : ∃ r, k r ∧ OpTri E o T h i r := by
  have mm : m ∈ o.op.operands.toList := by simp[ho, ba]
  have mx : x ∈ o.op.operands.toList := by simp[ho, ba]
  obtain⟨d, hkt, hd⟩ := Zdn hE hki
  have run : ∀ (w : World) (ρ : Operand → Value) (r : Nat) (ents : Array MapEntry) (c : Nat) (res : Option (Nat × Value)), ρ m = .map (ah r) → w.heap[r]? = ah (.map ents c) → cJ d (ρ x) ents.toList 0 = ah res →
      (execOp ρ o).run E.P w = .ok (.value (let p := match res with | some (_, v) => (v, af) | none => (ti.zero, ae); if ok then .tuple #[p.1, .bool p.2] else p.1)) w := by
    intro w ρ r ents c res hm hg hf
    unfold execOp Instr.lookup
    simp only[ho, hm, aL, run_underlying (hE.ty _ _ ht).1, aH, Ud w r ents c hg, aR, X5 hd _ 9999 kt _ w hkt, W0 w hkt hf]
    cases res with
    | none => simp only[aL, V6 hE het, aH, aR]
    | some p => simp only[aL, aR, aH]
  have yes : ∀ {σ : Pl} {g : GH} {sv : SV Y} {v : Value}, Den E σ g sv v → Den E σ g (match ok with | true => .tup [sv, .bool af af] | false => sv) (if ok then .tuple #[v, .bool af] else v) := by
    intro σ g sv v J
    cases ok with
    | true => exact .tup (λq => if q = 0 then v else .bool af) rfl (λq hq => by match q, hq with | 0, _ => rfl | 1, _ => rfl) (λq s hs => by
        match q, hs with
        | 0, hs => obtain rfl : sv = s := by simpa using hs
                   exact J
        | 1, hs => obtain rfl : SV.bool af af = s := by simpa using hs
                   exact .bool _ _)
    | false => exact J
  have no : ∀ {σ : Pl} {g : GH}, Den E σ g (match ok with | true => .tup [zero, .bool af ae] | false => zero) (if ok then .tuple #[ti.zero, .bool ae] else ti.zero) := by
    intro σ g
    cases ok with
    | true => exact .tup (λq => if q = 0 then ti.zero else .bool ae) rfl (λq hq => by match q, hq with | 0, _ => rfl | 1, _ => rfl) (λq s hs => by
        match q, hs with
        | 0, hs => obtain rfl : zero = s := by simpa using hs
                   exact U _ _
        | 1, hs => obtain rfl : SV.bool af ae = s := by simpa using hs
                   exact .bool _ _)
    | false => exact U _ _
  by_cases hpm : ∃ es', ev T m = .pmap es'
  ·obtain⟨es', hev⟩ := hpm
   obtain⟨rfl, rfl⟩ : es' = es ∧ [] = rd := by
     unfold Zty at hmo
     rw[hev] at hmo
     simpa using hmo
   rcases Zhe hk with⟨j, kv, sv, hj, hk, I⟩ | ⟨hk, I⟩
   ·refine⟨_, hk, Zr λB σ g w ρ hh hrd hI hx => ?_⟩
    have hu := hx m mm
    rw[hev] at hu
    generalize hρ : ρ m = um at hu
    cases hu
    rename_i r ents c q hg hq hn h1 h2 hd'
    obtain⟨clk, hw⟩ := hI.gm _ _ hg
    have hkx := R _ _ _ (hx x mx)
    obtain⟨e0, he0, hek⟩ := h2 j kv sv hj
    obtain⟨p, e, hem, a2, hf⟩ := Zq9 (d := d) (u := ρ x) (i0 := 0) (l := ents.toList) (λe he => by
      obtain⟨j', sv', hj', _⟩ := h1 e he
      obtain⟨b', hb'⟩ := Zhf I (hq j kv sv hj) (hq j' _ sv' hj')
      exact⟨b', Zan hd hb' hkx⟩) ⟨e0, he0, by rw[hek]; exact Zan hd I hkx⟩
    obtain⟨j', sv', hj', a3⟩ := h1 e hem
    obtain⟨b', hb'⟩ := Zhf I (hq j kv sv hj) (hq j' _ sv' hj')
    have : b' = true := by
      have := Zan hd hb' hkx
      rw[a2] at this
      exact(aU this).symm
    subst this
    have hkk := Zts I hb' (hq j kv sv hj) (hq j' _ sv' hj')
    rw[← hkk] at hj'
    obtain rfl := hn j j' kv sv sv' hj hj'
    refine⟨_, run w ρ r ents clk _ hρ hw hf, ?_⟩
    have := yes (hd' j kv sv hj)
    rw[a3]
    exact this
   ·refine⟨_, hk, Zr λB σ g w ρ hh hrd hI hx => ?_⟩
    have hu := hx m mm
    rw[hev] at hu
    generalize hρ : ρ m = um at hu
    cases hu
    rename_i r ents c q hg hq hn h1 h2 hd'
    obtain⟨clk, hw⟩ := hI.gm _ _ hg
    have hkx := R _ _ _ (hx x mx)
    have hf := Zlu (d := d) (u := ρ x) (i0 := 0) (l := ents.toList) (λe he => by
      obtain⟨j', sv', hj', _⟩ := h1 e he
      exact Zan hd (I j' _ sv' hj') hkx)
    exact⟨_, run w ρ r ents clk _ hρ hw hf, no⟩
  have a1 : ∀ B σ g w u (hh : Hp Y), (∀ b ∈ rd, hh b = h b) → Inv E B σ hh g w → Den E σ g (ev T m) u → ∃ r ents c, u = .map (ah r) ∧ w.heap[r]? = ah (.map ents c) ∧ EntsK es ents.toList ∧ ∀ (j : Nat) kv sv, es[j]? = ah (kv, sv) → ∃ v, (∃ bo, ents[j]? = ah (MapEntry.mk kv v bo)) ∧ Den E σ g sv v := by
    intro B σ g w u hh hrd hI hu
    unfold Zty at hmo
    split at hmo
    ·rename_i b hev
     rw[hev] at hu
     split at hmo
     ·rename_i es' hb
      cases hmo
      cases hu
      rename_i r z hσ
      obtain⟨r', z', hσ', hbo⟩ := hI.blk b _ ((hrd b (by simp)).trans hb)
      rw[hσ] at hσ'; cases hσ'
      obtain⟨ents, c, h1, h2, h3⟩ := hbo
      refine⟨r, ents, c, rfl, h1, ⟨by simpa using h2, λj kv sv hj => ?_⟩, λj kv sv hj => ?_⟩
      ·obtain⟨v, bo, h4, _⟩ := h3 j kv sv hj
       exact⟨_, by simpa using h4, rfl⟩
      ·obtain⟨v, bo, h4, h5⟩ := h3 j kv sv hj
       exact⟨v, ⟨bo, h4⟩, h5⟩
     ·cases hmo
    ·rename_i es' hev
     exact jv ⟨es', hev⟩ hpm
    ·cases hmo
  rcases Zy5 (E := E) hd hk with⟨j, kv, sv, hj, hk, a0⟩ | ⟨hk, a0⟩
  ·refine⟨_, hk, Zr λB σ g w ρ hh hrd hI hx => ?_⟩
   obtain⟨r, ents, c, hm, hg, hek, hdv⟩ := a1 B σ g w (ρ m) hh hrd hI (hx m mm)
   obtain⟨e, he, hf⟩ := a0 σ g (ρ x) ents.toList 0 (R _ _ _ (hx x mx)) hek
   obtain⟨v, ⟨bo, hv⟩, J⟩ := hdv j kv sv hj
   have : e.val = v := by
     rw[show ents.toList[j]? = ents[j]? by simp, hv] at he
     cases he; rfl
   refine⟨_, run w ρ r ents c _ hm hg hf, ?_⟩
   rw[this]
   cases ok with
   | true => exact .tup (λq => if q = 0 then v else .bool af) rfl (λq hq => by match q, hq with | 0, _ => rfl | 1, _ => rfl) (λq s hs => by
       match q, hs with
       | 0, hs => obtain rfl : sv = s := by simpa using hs
                  exact J
       | 1, hs => obtain rfl : SV.bool af af = s := by simpa using hs
                  exact .bool _ _)
   | false => exact J
  ·refine⟨_, hk, Zr λB σ g w ρ hh hrd hI hx => ?_⟩
   obtain⟨r, ents, c, hm, hg, hek, hdv⟩ := a1 B σ g w (ρ m) hh hrd hI (hx m mm)
   have hf := a0 σ g (ρ x) ents.toList 0 (R _ _ _ (hx x mx)) hek
   refine⟨_, run w ρ r ents c _ hm hg hf, ?_⟩
   cases ok with
   | true => exact .tup (λq => if q = 0 then ti.zero else .bool ae) rfl (λq hq => by match q, hq with | 0, _ => rfl | 1, _ => rfl) (λq s hs => by
       match q, hs with
       | 0, hs => obtain rfl : zero = s := by simpa using hs
                  exact U _ _
       | 1, hs => obtain rfl : SV.bool af ae = s := by simpa using hs
                  exact .bool _ _)
   | false => exact U _ _
theorem Ztt(I:EngOk E) {t:TypeId} {m x:Operand} {ok:Bool} (a0:o.op= .lookup t m x ok) (j:Zo5 E t (ev T m) (ev T x) ok h k):∃r,k r/\OpTri E o T h i r:=by
 unfold Zo5 at j;split at j
 ·rename_i kt et _ _ _ ht
  split at j
  ·rename_i ki ti es rd R J U
   exact Zcj I a0 ht R J U (λσ g=>Xm E _ _ _) (λ_ _ _ h=>h) j
  ·exact j.elim
 ·exact j.elim
theorem Z3h{ki:Bool} {key:Value} {d:TypeDesc} (hd:Ztr ki d) {v:SV Y}:∀{t es':List (Value×SV Y)},Zd2 ki key v t=ah es'->∀(ents:List MapEntry) i0,EntsK t ents->
 (cJ d key ents i0=ah aD/\es'=t++ [(key,v)])\/
 (∃(j:Nat) (e:MapEntry) (sv:SV Y),ents[j]? =ah e/\cJ d key ents i0=ah (ah (i0+j,e.val))/\t[j]? =ah (e.key,sv)/\es'=t.set j (e.key,v)/\cE d key e.key=ah af):=by
 intro t
 induction t with
 |nil=>
  intro es' h ents i0 U
  have:ents= []:=fg (by simpa using U.1)
  subst this
  cases h
  exact .inl ⟨rfl,rfl⟩
 |cons p t ih=>
  obtain⟨kv,u⟩:=p
  intro es' h ents i0 U
  obtain⟨e,ents',rfl,rfl,h5⟩:=U.tail
  have step:∀q,cE d key e.key=ah q->(match q with|true=>ah ((e.key,v)::t)|false=>(match Zd2 ki key v t with|some l=>ah ((e.key,u)::l)|none=>aD))=ah es'->
   (cJ d key (e::ents') i0=ah aD/\es'=((e.key,u)::t)++ [(key,v)])\/
   (∃(j:Nat) (I:MapEntry) (sv:SV Y),(e::ents')[j]? =ah I/\cJ d key (e::ents') i0=ah (ah (i0+j,I.val))/\((e.key,u)::t)[j]? =ah (I.key,sv)/\es'=((e.key,u)::t).set j (I.key,v)/\cE d key I.key=ah af):=by
   intro q hq h
   cases q with
   |true=>
    simp only[cF] at h
    refine .inr ⟨0,e,u,rfl,?_,rfl,by rw[<-h];rfl,hq⟩
    unfold cJ;rw[hq];rfl
   |false=>
    simp only at h
    split at h
    ·rename_i l hl
     cases h
     have a1:cJ d key (e::ents') i0=cJ d key ents' (i0+1):=by
      conv=>lhs;unfold cJ
      rw[hq]
     rcases ih hl ents' (i0+1) h5 with⟨J,R⟩|⟨j,I,sv,J,R,h3,h4,h6⟩
     ·exact .inl ⟨by rw[a1];exact J,by rw[R];rfl⟩
     ·refine .inr ⟨j+1,I,sv,J,by rw[a1,R];congr 2;simp;omega,h3,by rw[h4];rfl,h6⟩
    ·cases h
  unfold Zd2 at h
  split at h
  ·rename_i kd b a3 a a0
   split at h
   ·rename_i a2
    obtain rfl:=iK a2
    obtain⟨q,rfl⟩:=hd
    exact step (a==b) (by rw[a0];simp[cE]) h
   ·cases h
  ·rename_i b a a0
   obtain rfl:=hd
   rw[Zjs] at h
   exact step (a==b) (by rw[a0];simp[cE]) h
  ·cases h
end
end
section
open Go.RowKit
section
variable {Y:Thy} {E:Eng Y} {o:Oper} {T:Fr Y} {h:Hp Y} {i:Nat} {k:Res Y->Prop} {call:Nat->List (SV Y)->Hp Y->Nat->(Res Y->Prop)->Prop}
def setB(w:World) (r:Nat) (x:Obj):World:={w with heap:=w.heap.setIfInBounds r x}
theorem Zv4(w:World) (r:Nat) (x:Obj) (h:r<w.heap.size):(setB w r x).heap[r]? =ah x:=by simp[setB,cZ,h]
theorem Zsd(w:World) (r q:Nat) (x:Obj) (h:q≠r):(setB w r x).heap[q]? =w.heap[q]? :=by simp[setB,cZ,Ne.symm h]
theorem Zkb(w:World) (r:Nat) (x:Obj):(setB w r x).heap.size=w.heap.size:=by simp[setB]
theorem Zb6{P:Program} (w:World) (r:Nat) (j:Array MapEntry) (c:Nat) (x:Obj) (t:w.heap[r]? =ah (.map j c)):(setObj r x).run P w= .ok () (setB w r x):=by
 simp only[setObj,gJ,t];rfl
theorem Zse{B:Nat} {σ:Pl} {g:GH} {w:World} {hh:Hp Y} (J:Inv E B σ hh g w) (hB:B<=w.heap.size) (hi:σ i=aD) {x:Obj} {z:Nat} {blk:Blk Y}
 (a5:BlkOk E (updσ σ i (w.heap.size,z)) g (w.alloc x) w.heap.size z blk):
 Inv E B (updσ σ i (w.heap.size,z)) (upd hh i (ah blk)) g (w.alloc x)/\Stp i 1 [] σ g w (updσ σ i (w.heap.size,z)) g (w.alloc x):=by
 have a2:Pl.le σ (updσ σ i (w.heap.size,z)):=Zig hi
 have a0:∀r,r<w.heap.size->(w.alloc x).heap[r]? =w.heap[r]? :=λr hr=>by first|exact heap_alloc_old w _ hr|exact heap_alloc_old w _ r hr
 have a6:(w.alloc x).heap.size=w.heap.size+1:=by show(w.heap.push _).size=_;simp
 have a3:∀r n v,g.cell r n=ah v->r<w.heap.size:=λr n v U=>block_lt_of_cell (J.gc r n v U)
 have a4:∀r es,g.obj r=ah es->r<w.heap.size:=λr es U=>by obtain⟨c,h⟩:=J.gm r es U;exact(cq.1 h).1
 refine⟨⟨?_,?_,?_,?_,?_,?_,?_,J.glob⟩,⟨a2,?_,.refl _,λ_ _ _ h=> .inl h,λ_ _ h=> .inl h,λr hr _=>a0 r hr,by omega,rfl,rfl,rfl,?_⟩⟩
 ·intro r n v U
  rw[fZ (w:=w) (a0 r (a3 _ _ _ U))];exact J.gc _ _ _ U
 ·intro r es U
  obtain⟨c,h⟩:=J.gm r es U
  exact⟨c,(a0 r (a4 _ _ U)).trans h⟩
 ·intro b y R
  rw[Zf] at R
  by_cases hb:b=i
  ·rw[jh hb] at R
   obtain rfl:=aU R
   exact⟨w.heap.size,z,by simp[updσ,hb],a5⟩
  ·rw[jb hb] at R
   obtain⟨r,z',j,I⟩:=J.blk b y R
   exact⟨r,z',a2 _ _ j,I.mono a2 (.refl _) (a0 r (J.base _ _ _ j).2)⟩
 ·intro b b' r z z' hb a1 j I
  rw[Zf] at hb a1
  unfold updσ at j I
  by_cases t:b=i<;>by_cases e2:b'=i
  ·rw[t,e2]
  ·rw[jh t] at j;rw[jb e2] at I;cases j
   have:=(J.base _ _ _ I).2;omega
  ·rw[jb t] at j;rw[jh e2] at I;cases I
   have:=(J.base _ _ _ j).2;omega
  ·rw[jb t] at j hb;rw[jb e2] at I a1
   exact J.inj _ _ _ _ _ hb a1 j I
 ·intro b r z j
  unfold updσ at j
  by_cases t:b=i
  ·rw[jh t] at j;cases j;exact⟨hB,by omega⟩
  ·rw[jb t] at j;have:=J.base _ _ _ j;exact⟨this.1,by omega⟩
 ·intro b y r z n v R j U
  rw[Zf] at R
  unfold updσ at j
  by_cases t:b=i
  ·rw[jh t] at j;cases j;have:=a3 _ _ _ U;omega
  ·rw[jb t] at j R;exact J.fz _ _ _ _ _ _ R j U
 ·intro b y r z R j
  rw[Zf] at R
  unfold updσ at j
  by_cases t:b=i
  ·rw[jh t] at j;cases j
   cases hg:g.obj w.heap.size with
   |none=>rfl
   |some es=>have:=a4 _ _ hg;omega
  ·rw[jb t] at j R;exact J.fm _ _ _ _ R j
 ·intro b p hb
  unfold updσ at hb
  by_cases t:b=i
  ·right;omega
  ·rw[jb t] at hb;exact .inl hb
 ·intro b r z j I
  unfold updσ at I
  by_cases t:b=i
  ·rw[jh t] at I;cases I;exact .inl (aE _)
  ·rw[jb t,j] at I;cases I
theorem Zgy{B : Nat} {σ : Pl} {g : GH} {w : World} {hh : Hp Y} (R : Inv E B σ hh g w) {b r z : Nat} {es es' : List (Value × SV Y)} (hb : hh b = ah (.map es)) (a2 : σ b = ah (r, z)) {ents ents' : Array MapEntry} {c c' : Nat} (ha : w.heap[r]? = ah (.map ents c))
    (hs : ents'.size = es'.length) (hd : ∀ (j : Nat) kv sv, es'[j]? = ah (kv, sv) → ∃ v bo, ents'[j]? = ah (MapEntry.mk kv v bo) ∧ Den E σ g sv v) :
    Inv E B σ (upd hh b (ah (.map es'))) g (setB w r (.map ents' c')) ∧ Stp i 0 [b] σ g w σ g (setB w r (.map ents' c')) := by
  have a1 : ∀ q, q ≠ r → (setB w r (.map ents' c')).heap[q]? = w.heap[q]? := λq hq => Zsd w r q _ hq
  have a4 : r < w.heap.size := (cq.1 ha).1
  have a5 : ∀ J r' z', hh J ≠ aD → σ J = ah (r', z') → J ≠ b → r' ≠ r := by
    intro J r' z' t a0 h3 e
    subst e
    exact h3 (R.inj _ _ _ _ _ t (by rw[hb]; simp) a0 a2)
  refine⟨⟨?_, ?_, ?_, ?_, ?_, ?_, ?_, R.glob⟩, ⟨.refl _, λb p h => .inl h, .refl _, λ_ _ _ h => .inl h, λ_ _ h => .inl h, λq hq a6 => a1 q λe => a6 b (by simp) z (e ▸ a2), by rw[Zkb]; exact aE _, rfl, rfl, rfl, λJ r' z' t a0 => by rw[t] at a0; cases a0⟩⟩
  ·intro q n v hc
   have a3 := R.gc _ _ _ hc
   have : q ≠ r := by rintro rfl; simp[jo, ha] at a3
   rw[fZ (w := w) (a1 q this)]; exact a3
  ·intro q es hc
   obtain⟨c, h⟩ := R.gm _ _ hc
   have : q ≠ r := by rintro rfl; rw[R.fm _ _ _ _ hb a2] at hc; cases hc
   exact⟨c, (a1 q this).trans h⟩
  ·intro J x I
   rw[Zf] at I
   by_cases U : J = b
   ·rw[jh U] at I
    obtain rfl := aU I
    subst U
    exact⟨r, z, a2, ents', c', Zv4 w r _ a4, hs, hd⟩
   ·rw[jb U] at I
    obtain⟨r', z', t, a0⟩ := R.blk _ _ I
    exact⟨r', z', t, a0.mono (.refl _) (.refl _) (a1 _ (a5 _ _ _ (by rw[I]; simp) t U))⟩
  ·intro b1 b2 r' z1 z2 t a0 k1 k2
   rw[Zf] at t a0
   have q1 : hh b1 ≠ none := by by_cases e : b1 = b; · rw[e, hb]; simp
                                ·rw[jb e] at t; exact t
   have q2 : hh b2 ≠ none := by by_cases e : b2 = b; · rw[e, hb]; simp
                                ·rw[jb e] at a0; exact a0
   exact R.inj _ _ _ _ _ q1 q2 k1 k2
  ·intro J r' z' t
   have := R.base _ _ _ t
   exact⟨this.1, by rw[Zkb]; exact this.2⟩
  ·intro J x r' z' n v I t hc
   rw[Zf] at I
   by_cases U : J = b
   ·rw[jh U] at I
    obtain rfl := aU I
    subst U
    have : n < (Blk.map es : Blk Y).fzc E := R.fz _ _ _ _ _ _ hb t hc
    exact this
   ·rw[jb U] at I; exact R.fz _ _ _ _ _ _ I t hc
  ·intro J x r' z' I t
   rw[Zf] at I
   by_cases U : J = b
   ·subst U; exact R.fm _ _ _ _ hb t
   ·rw[jb U] at I; exact R.fm _ _ _ _ I t
theorem Zkc{I:Bool} {d:TypeDesc} (t:Ztr I d) {a b:Value} (h:cE d a b=ah af):a=b/\jY 10000 b a=true:=by
 cases I with
 |true=>
  obtain⟨q,rfl⟩:=t;cases a with
  |int kd x=>
   cases b with
   |int J y=>
    simp only[cE] at h;split at h
    ·rename_i e
     simp only[cF,gF] at h;subst h;subst e;exact⟨rfl,by simp[jY]⟩
    ·cases h
   |_=>simp[cE] at h
  |_=>simp[cE] at h
 |false=>
  obtain rfl:=t;cases a with
  |string x=>
   cases b with
   |string y=>
    simp only[cE,cF] at h;have j:(x.data==y.data)=true:=h;rw[gF] at j;refine⟨by rw[ByteArray.ext j],?_⟩;show(y.data==x.data)=af;rw[gF];exact j.symm
   |_=>simp[cE] at h
  |_=>simp[cE] at h
theorem Zsf{σ:Pl} {g:GH} {J:Bool} {sv:SV Y} {kv u:Value} (j:Zhj J sv=ah kv) (t:Den E σ g sv u):u=kv:=by
 unfold Zhj at j;split at j
 ·split at j
  ·cases j;cases t;rfl
  ·cases j
 ·split at j
  ·cases j;cases t;rename_i b I;subst I;rw[Zzo]
  ·cases j
 ·cases j
theorem Zh3(hE:EngOk E) {t:TypeId} {m x v:Operand} (I:o.op= .mapUpdate t m x v\/o.op= .insert t m x v) {sx sv0:SV Y} (c5:∀σ g u,Den E σ g (ev T x) u->Den E σ g sx u) (c4:∀σ g u,Den E σ g (ev T v) u->Den E σ g sv0 u) (R:sput E t (ev T m) sx sv0 h k):∃r,k r/\OpTri E o T h i r:=by
 have mm:m∈o.op.operands.toList:=by rcases I with I|I<;>simp[I,ba]
 have mx:x∈o.op.operands.toList:=by rcases I with I|I<;>simp[I,ba]
 have mv:v∈o.op.operands.toList:=by rcases I with I|I<;>simp[I,ba]
 unfold sput at R;split at R
 ·rename_i kt _ _ _ _ b ht hm
  split at R
  ·rename_i ki a0 b9 hb
   split at R
   ·rename_i kv c0
    split at R
    ·rename_i es' c1
     obtain⟨d,a4,hd⟩:=Zdn hE b9;refine⟨_,R,λb' a2=>by(simp[change] at a2;subst a2;rw[hb];simp),?_⟩;intro B σ g w ρ hh c2 hI hB c8 hx;have a2:hh b=ah (.map a0):=(c2 b (by simp[Rd,change])).trans hb;have U:=hx m mm;rw[hm] at U;generalize c6:ρ m=vm at U;cases U;rename_i r z a7;have c7:ρ x=kv:=Zsf c0 (c5 _ _ _ (hx x mx));have b0:=c4 _ _ _ (hx v mv);obtain⟨r2,z2,b5,b6⟩:=hI.blk _ _ a2;rw[a7] at b5;cases b5;obtain⟨ents,c,a1,a5,a6⟩:=b6
     have b7:EntsK a0 ents.toList:=⟨by simpa using a5,λj kv sv J=>by
      obtain⟨v,bo,h4,_⟩:=a6 j kv sv J
      exact⟨_,by simpa using h4,rfl⟩⟩
     have run:∀(ents':Array MapEntry) (c':Nat),(iq t (.map (ah r)) kv (ρ v)).run E.P w= .ok () (setB w r (.map ents' c'))->(execOp ρ o).run E.P w= .ok .skip (setB w r (.map ents' c')):=by
      intro ents' c' hr;unfold execOp;rcases I with I|I<;>simp only[I,c6,c7,aL,hr,aH,aR]
     rcases Z3h hd c1 ents.toList 0 b7 with⟨hf,rfl⟩|⟨j,e,sv,J,hf,b8,rfl,b4⟩
     ·obtain⟨U,h2⟩:=Zgy (i:=i) hI a2 a7 a1 (ents':=ents.push {key:=kv,val:=ρ v,born:=c}) (c':=c+1) (es':=a0++ [(kv,sv0)]) (by simp[a5]) (by
       intro j a8 a9 J;rw[Array.getElem?_push];by_cases q:j=ents.size
       ·subst q
        rw[a5,ct (aE _),Nat.sub_self] at J;simp only[List.getElem?_cons_zero,cF,Prod.mk.injEq] at J;obtain⟨rfl,rfl⟩:=J;rw[jh rfl];exact⟨_,_,rfl,b0⟩
       ·rw[jb q]
        have:j<a0.length:=by
         have:=(ar.1 J).1;simp at this;omega
        rw[cf this] at J
        exact a6 j a8 a9 J)
      refine Un (run _ (c+1) ?_) ⟨σ,g,h2,by rw[Y0];exact U,.unk _⟩;unfold iq;simp only[aL,run_underlying (hE.ty _ _ ht).1,aH,Ud w r ents c a1,X5 hd _ 9999 kt _ w a4,W0 w a4 hf,Zb6 w r ents c _ a1]
     ·have b3:ents[j]? =ah e:=by simpa using J
      obtain⟨U,h2⟩:=Zgy (i:=i) hI a2 a7 a1 (ents':=ents.modify j λe=>{e with key:=kv,val:=ρ v}) (c':=c) (es':=a0.set j (e.key,sv0)) (by simp[a5]) (by
       intro j' a8 a9 a3;rw[Array.getElem?_modify];rw[List.getElem?_set] at a3;by_cases q:j=j'
       ·subst q
        have:j<a0.length:=(ar.1 b8).1;rw[jh rfl,jh this] at a3;simp only[cF,Prod.mk.injEq] at a3;obtain⟨rfl,rfl⟩:=a3;rw[jh rfl,b3];exact⟨ρ v,e.born,by rw[(Zkc hd b4).1];rfl,b0⟩
       ·rw[jb q] at a3⊢
        exact a6 j' a8 a9 a3)
      refine Un (run _ c ?_) ⟨σ,g,h2,by rw[Y0];exact U,.unk _⟩;unfold iq;have c3:=(Zkc hd b4).2;simp only[aL,run_underlying (hE.ty _ _ ht).1,aH,Ud w r ents c a1,X5 hd _ 9999 kt _ w a4,W0 w a4 hf,bX,b3,cH,dH,Instr.keyThatStays,c3,jP,aR,Zb6 w r ents c _ a1]
    ·exact R.elim
   ·exact R.elim
  ·exact R.elim
 ·exact R.elim
theorem Zm6(j:EngOk E) {t:TypeId} {m x v:Operand} (J:o.op= .mapUpdate t m x v\/o.op= .insert t m x v) (I:sput E t (ev T m) (ev T x) (ev T v) h k):∃r,k r/\OpTri E o T h i r:=
 Zh3 j J (λ_ _ _ h=>h) (λ_ _ _ h=>h) I
theorem Uo{R:Type} {kd:IntKind} {vv:R->SV Y} {a:Int} {f:SV Y->Prop} {z:Prop}:∀{l:List (Int×R)},(∀b,Zbk l a=ah b->f (vv b))->(Zbk l a=aD->z)->Vu af (.int ae kd a) (Zl0 kd vv l) f z
 | [],_,j=>j rfl
 |(q,b)::l,I,j=>by
  unfold Zl0
  rw[ei]
  unfold Vu
  simp only[decide_true]
  refine⟨λe=> ?_,λe=> ?_⟩
  ·have e:=eq_of_beq e
   exact I b (by unfold Zbk;rw[jh e.symm])
  ·have e:=ne_of_beq_false e
   have J:Zbk ((q,b)::l) a=Zbk l a:=by
    conv=>lhs;unfold Zbk
    rw[jb (λx=>e x.symm)]
   exact Uo (λb t=>I b (J.trans t)) (λt=>j (J.trans t))
theorem Up{R:Type} {vv:R->SV Y} {a:List Nat} {f:SV Y->Prop} {z:Prop}:∀{l:List (List Nat×R)},(∀p∈l,Byt p.1)->(∀b,Zbk l a=ah b->f (vv b))->(Zbk l a=aD->z)->Vu ae (.str ae a) (Zl1 vv l) f z
 | [],_,_,t=>t rfl
 |(q,b)::l,j,I,t=>by
  unfold Zl1
  rw[ei]
  unfold Vu
  have hq:toL (mkS q)=q:=j _ (gV ..)
  simp only[hq]
  refine⟨λe=> ?_,λe=> ?_⟩
  ·have e:=eq_of_beq e
   exact I b (by unfold Zbk;rw[jh e.symm])
  ·have e:=ne_of_beq_false e
   have J:Zbk ((q,b)::l) a=Zbk l a:=by
    conv=>lhs;unfold Zbk
    rw[jb (λx=>e x.symm)]
   exact Up (λp U=>j p (cx _ U)) (λb j=>I b (J.trans j)) (λj=>t (J.trans j))
theorem Ze2{j:Type} {kd:IntKind} {vv:j->SV Y} {a:Int} {v:j}:∀{l:List (Int×j)},Zd2 af (.int kd a) (vv v) (Zl0 kd vv l)=ah (Zl0 kd vv (putS l a v))
 | []=>rfl
 |(q,b)::l=>by
  have ih:=Ze2 (kd:=kd) (vv:=vv) (a:=a) (v:=v) (l:=l)
  unfold Zl0 at*
  rw[ei]
  unfold Zd2 putS
  simp only[decide_true]
  by_cases e:q=a
  ·subst e
   rw[jh rfl]
   simp
  ·have:(a==q)=false:=by simpa usingλx=>e x.symm
   rw[jb e,this]
   simp only[ih,ei]
theorem Ze3{j:Type} {vv:j->SV Y} {a:List Nat} {v:j} (t:Byt a):∀{l:List (List Nat×j)},(∀p∈l,Byt p.1)->Zd2 ae (.string (mkS a)) (vv v) (Zl1 vv l)=ah (Zl1 vv (putS l a v))
 | [],_=>rfl
 |(q,b)::l,I=>by
  have ih:=Ze3 (vv:=vv) t (v:=v) (l:=l) (λp J=>I p (cx _ J))
  have R:toL (mkS q)=q:=I _ (gV ..)
  unfold Zl1 at*
  rw[ei]
  unfold Zd2 putS
  simp only[R,show toL (mkS a)=a from t]
  by_cases e:q=a
  ·subst e
   rw[jh rfl]
   simp
  ·have:(a==q)=false:=by simpa usingλx=>e x.symm
   rw[jb e,this]
   simp only[ih,ei]
theorem Ze4(hE:EngOk E) {th:Y.Th} {R:TyI} {v:SV Y} {x:Y.dom th} (hd:E.dec th v.cells=ah x) (J:((bf v.cells.length (E.w th)&&(Zu R.d||bf (E.w th) 1))&&Zzh (Zu R.d) v)=af) {σ:Pl} {g:GH} {u:Value} (hu:Den E σ g v u):Den E σ g (Zbl E th (Zu R.d) x) u:=by
 simp only[az,bw] at J;obtain⟨⟨h1,t⟩,I⟩:=J;obtain⟨hl,a1⟩:=hE.dec th _ _ hd;have a0:(E.enc th x).length=E.w th:=hE.enc th x;unfold Zbl;cases hr:Zu R.d with
 |true=>
  rw[hr] at I;cases v with
  |agg cs=>
   obtain⟨arr,c,rfl,hs,J,a5⟩:=Yo hu;have a4:cs.length=E.w th:=aG h1;refine .agg c (by omega) (λj U=>J j (by omega)) λj sv U=> ?_;have a2:j<cs.length:=by rw[a4,<-a0];exact(ar.1 U).1
   exact a1 σ g j (cs[j]) sv (c j) (aq a2) U (a5 j _ (aq a2))
  |_=>simp[Zzh] at I
 |false=>
  rw[hr] at t I;have a6:E.w th=1:=by
   rcases t with t|t
   ·cases t
   ·exact aG t
  have a3:v.cells= [v]:=by cases v<;>first|rfl|simp[Zzh] at I
  rw[a6] at a0
  match he:E.enc th x,a0 with
  | [y],_=>
   exact a1 σ g 0 v y u (by rw[a3];rfl) (by rw[he];rfl) hu
theorem Zh4{σ:Pl} {g:GH} {l:Bool} {kd:IntKind} {a:Int} {u:Value} (h:Den E σ g (.int l kd a) u):Den E σ g (.int ae kd a) u:=by cases h;exact .int _ _ _
theorem Zh5{σ:Pl} {g:GH} {l:Bool} {a:List Nat} {u:Value} (h:Den E σ g (.str l a) u):Den E σ g (.str ae a) u:=by cases h;exact .str _ ‹_›
theorem Zm7(U:EngOk E) {t:TypeId} {m x:Operand} {ok:Bool} (a0:o.op= .lookup t m x ok) (j:Zji E t (ev T m) (ev T x) ok h k):∃r,k r/\OpTri E o T h i r:=by
 unfold Zji at j;split at j
 ·rename_i th b _ hm
  split at j
  ·rename_i kt et _ _ _ es ht I
   split at j
   ·rename_i ki R a2 a1
    have a3:Zty h (ev T m)=ah (es,[b]):=by rw[hm];simp only[Zty,I]
    unfold Ybj at j;split at j
    ·rename_i z hz hc
     have a5:∀σ g,Den E σ g (Zbl E th (Zu R.d) z) R.zero:=λσ g=>Ze4 U hz hc (Xm E σ g R.zero);split at j
     ·rename_i l kd a hx
      obtain⟨L,rfl,j⟩:=j;unfold Z3m at j;split at j
      ·refine Zcj U a0 ht a2 a1 a3 (zero:=Zbl E th (Zu R.d) z) (key:= .int ae kd a) a5 (λσ g u J=> ?_) (Uo (λb I=> ?_) λI=> ?_)
       ·rw[hx] at J;exact Zh4 J
       ·exact j b (by rw[I];rfl)
       ·exact j z (by rw[I];rfl)
      ·refine Zcj U a0 ht a2 a1 a3 (zero:=Yw R.zero) (key:= .int ae kd a) (λσ g=>Xm E σ g _) (λσ g u J=> ?_) (Uo (λb I=> ?_) λI=> ?_)
       ·rw[hx] at J;exact Zh4 J
       ·exact j.1 b I
       ·exact j.2 I
     ·rename_i l a hx
      obtain⟨L,rfl,a4,j⟩:=j;unfold Z3m at j;split at j
      ·refine Zcj U a0 ht a2 a1 a3 (zero:=Zbl E th (Zu R.d) z) (key:= .str ae a) a5 (λσ g u J=> ?_) (Up a4 (λb I=> ?_) λI=> ?_)
       ·rw[hx] at J;exact Zh5 J
       ·exact j b (by rw[I];rfl)
       ·exact j z (by rw[I];rfl)
      ·refine Zcj U a0 ht a2 a1 a3 (zero:=Yw R.zero) (key:= .str ae a) (λσ g=>Xm E σ g _) (λσ g u J=> ?_) (Up a4 (λb I=> ?_) λI=> ?_)
       ·rw[hx] at J;exact Zh5 J
       ·exact j.1 b I
       ·exact j.2 I
     ·exact j.elim
    ·exact j.elim
   ·exact j.elim
  ·exact j.elim
 ·exact Ztt U a0 j
theorem Z1q(J:EngOk E) {t:TypeId} {m x v:Operand} (R:o.op= .mapUpdate t m x v\/o.op= .insert t m x v) (j:Z80 E t (ev T m) (ev T x) (ev T v) h k):∃r,k r/\OpTri E o T h i r:=by
 unfold Z80 at j;split at j
 ·rename_i th b _ hm
  split at j
  ·rename_i kt et _ _ _ es ht a0
   split at j
   ·rename_i ki ti a1 a3
    unfold putT at j;split at j
    ·rename_i z hz hc
     split at j
     ·rename_i l kd a U
      obtain⟨L,rfl,j⟩:=j;refine Zh3 J R (sx:= .int ae kd a) (sv0:=Zbl E th (Zu ti.d) z) (λσ g u I=> ?_) (λσ g u I=>Ze4 J hz hc I) ?_
      ·rw[U] at I;exact Zh4 I
      ·unfold sput
       rw[ht,hm];simp only[a1,a0,Zhj,Ze2];exact j
     ·rename_i l a U
      obtain⟨L,rfl,a2,ha,j⟩:=j;refine Zh3 J R (sx:= .str ae a) (sv0:=Zbl E th (Zu ti.d) z) (λσ g u I=> ?_) (λσ g u I=>Ze4 J hz hc I) ?_
      ·rw[U] at I;exact Zh5 I
      ·unfold sput
       rw[ht,hm];simp only[a1,a0,Zhj,Ze3 ha a2];exact j
     ·exact j.elim
    ·exact j.elim
   ·exact j.elim
  ·exact j.elim
 ·exact Zm6 J R j
theorem Zgz(hE:EngOk E) {t:TypeId} (ho:o.op= .makeMap t aD) (hk:k (fresh i (.map i) (.map []) [])):∃r,k r/\OpTri E o T h i r:=by
 refine⟨_,hk,λb a0=>by simp[fresh] at a0,?_⟩;intro B σ g w ρ hh a3 U R a1 hx;have hi:σ i=none:=a1 i (aE _) (fx _);obtain⟨I,J⟩:=Zse (i:=i) U R hi (x:= .map #[] 0) (z:=0) (blk:= .map []) ⟨#[],0,heap_alloc_new w _,rfl,λj kv sv hj=>by simp at hj⟩;have a2:(execOp ρ o).run E.P w= .ok (.value (.map (ah w.heap.size))) (w.alloc (.map #[] 0)):=by
  unfold execOp;simp only[ho,Instr.makeMap,eT,aL,aR,aH,newObj,gJ];rfl
 refine Y5 a2 ⟨_,_,J,?_,.map (r:=w.heap.size) (z:=0) (by simp[updσ])⟩;rw[V4];exact I
end
end
section
open Go.RowKit
section
variable {Y:Thy} {E:Eng Y} {o:Oper} {T:Fr Y} {h:Hp Y} {i:Nat} {k:Res Y->Prop}
def EqOk(E:Eng Y) (σ:Pl) (g:GH) (w:World) (D:Nat) (t:TypeId) (x y:SV Y) (q:Bool):Prop:=
 ∀u v,Den E σ g x u->Den E σ g y v->(iy D t u v).run E.P w= .ok q w
theorem Z79(J:EngOk E) {σ:Pl} {g:GH} {w:World} {D:Nat} {f:TypeId->SV Y->SV Y->Option (Bool×Bool)} (hf:∀t a b l q,f t a b=ah (l,q)->EqOk E σ g w D t a b q) {xs a0:List (SV Y)} {U vs:Array Value} (hx:Den E σ g (.agg xs) (.agg U)) (hy:Den E σ g (.agg a0) (.agg vs)):
 ∀{j:List Field} {l q:Bool},eqFs E f xs a0 j=ah (l,q)->(jG D U vs j).run E.P w= .ok q w:=by
 intro j
 induction j with
 |nil=>intro l q h;cases h;simp[jG]
 |cons fd j ih=>
  intro l q h
  simp only[eqFs] at h
  split at h
  ·rename_i ti I R
   have I:fd.name≠ "_" :=iT I
   split at h
   ·rename_i a b ha hb
    split at h
    ·rename_i l1 p l2 r h1 h2
     cases h
     obtain⟨u,a1,a2⟩:=Vy J R hx ha w
     obtain⟨v,a3,a4⟩:=Vy J R hy hb w
     have he:=hf _ _ _ _ _ h1 u v a2 a4
     unfold jG
     rw[jh I]
     simp only[aL,a1,a3,he,aH]
     cases p with
     |true=>simpa using ih h2
     |false=>simp
    ·cases h
   ·cases h
  ·cases h
theorem Z8a(I:EngOk E) {σ:Pl} {g:GH} {w:World} {D:Nat} {el:TypeId} {t:TyI} (J:E.ty el=ah t) {f:SV Y->SV Y->Option (Bool×Bool)} (hf:∀a b l q,f a b=ah (l,q)->EqOk E σ g w D el a b q) {xs U:List (SV Y)} {R vs:Array Value} (hx:Den E σ g (.agg xs) (.agg R)) (hy:Den E σ g (.agg U) (.agg vs)):
 ∀{n j:Nat} {l q:Bool},eqIs f (Zu t.d) t.size xs U n j=ah (l,q)->(jR D el t.size R vs (ir j n)).run E.P w= .ok q w:=by
 intro n
 induction n with
 |zero=>intro j l q h;cases h;simp[jR]
 |succ n ih=>
  intro j l q h
  simp only[eqIs] at h
  split at h
  ·rename_i a b ha hb
   split at h
   ·rename_i l1 p l2 r a0 h2
    cases h
    obtain⟨u,a1,a2⟩:=Vy I J hx ha w
    obtain⟨v,a3,a4⟩:=Vy I J hy hb w
    have he:=hf _ _ _ _ a0 u v a2 a4
    rw[fN]
    unfold jR
    simp only[aL,a1,a3,he,aH]
    cases p with
    |true=>simpa using ih h2
    |false=>simp
   ·cases h
  ·cases h
theorem Yav(j:EngOk E) (σ:Pl) (g:GH) (w:World):∀(d D:Nat) (t:TypeId) (x y:SV Y) (l q:Bool),d<=D->eqT E d t x y=ah (l,q)->EqOk E σ g w D t x y q:=by
 intro d
 induction d with
 |zero=>intro D t x y l q _ h;cases h
 |succ d ih=>
  intro D t x y l q a0 h;obtain⟨D,rfl⟩:∃D',D=D'+1:=⟨D-1,by omega⟩;have a0:d<=D:=by omega
  unfold eqT at h;intro u v J R;split at h
  ·rename_i kd _ _ _ l1 k1 a m k2 b I
   split at h
   ·rename_i hk
    obtain rfl:=iK hk;cases h;cases J;cases R;exact run_equalIn_int w D t _ _ a b (j.ty _ _ I).1
   ·cases h
  ·rename_i I
   cases h;cases J;cases R;exact run_equalIn_bool' w D t _ _ (j.ty _ _ I).1
  ·rename_i I
   cases h;cases J;cases R;rename_i b1 h1 b2 h2;subst h1 h2;rw[run_equalIn_string w D t _ _ (j.ty _ _ I).1,Zjs,<-beq_toListBytes]
  ·rename_i fs _ _ _ xs ys I
   split at h
   ·rename_i hm
    obtain⟨us,_,rfl,_⟩:=Yo J;obtain⟨vs,_,rfl,_⟩:=Yo R;have U:=(j.ty _ _ I).1;have a2:E.P.fieldsOf t=fs:=by unfold Program.fieldsOf;rw[U]
    rw[run_equalIn_struct w D t us vs (by rw[a2];exact U) (j.eqs _ hm).1,a2];exact Z79 j (λt a b l q hq=>ih D t a b l q a0 hq) J R h
   ·cases h
  ·rename_i n el _ _ _ xs ys I
   split at h
   ·rename_i ti a1
    obtain⟨us,_,rfl,_⟩:=Yo J;obtain⟨vs,_,rfl,_⟩:=Yo R;have U:=(j.ty _ _ I).1;obtain⟨_,info,a3,a5,_⟩:=j.ty _ _ a1;have a4:E.P.cellsOf el=ti.size:=by unfold Program.cellsOf;rw[a3];simpa using a5
    rw[run_equalIn_array w D us vs U a3,a4,gj];exact Z8a j a1 (λa b l q hq=>ih D el a b l q a0 hq) J R h
   ·cases h
  ·cases h
theorem Z2u(hE:EngOk E) {op:BinOp} {t t':TypeId} {x y:Operand} (ho:o.op= .binOp op t x y t') (I:Ztz E op t (ev T x) (ev T y) k):∃r,k r/\OpTri E o T h i r:=by
 have mx:x∈o.op.operands.toList:=by simp[ho,ba]
 have my:y∈o.op.operands.toList:=by simp[ho,ba]
 unfold Ztz at I;split at I
 ·rename_i xs ys hX hY
  split at I
  ·rename_i l q hm hq
   have run:∀(σ:Pl) (g:GH) (w:World) (ρ:Operand->Value),Den E σ g (ev T x) (ρ x)->Den E σ g (ev T y) (ρ y)->∃j vs,ρ x= .agg j/\ρ y= .agg vs/\(iy 10000 t (.agg j) (.agg vs)).run E.P w= .ok q w:=by
    intro σ g w ρ J R;rw[hX] at J;rw[hY] at R;obtain⟨j,_,U,_⟩:=Yo J;obtain⟨vs,_,a0,_⟩:=Yo R;rw[U] at J;rw[a0] at R;exact⟨j,vs,U,a0,Yav hE σ g w 100 10000 t _ _ l q (by omega) hq _ _ J R⟩
   split at I
   ·refine Z8 mx my (λσ g w ρ J R=> ?_) (Yk (Zjz I))
    obtain⟨j,vs,U,a0,he⟩:=run σ g w ρ J R;refine⟨.bool q,?_,.bool _ _⟩;unfold execOp;simp only[ho,U,a0,aL,run_eqGuard_agg w _ t x y j vs (hE.eqs _ hm).2,aH,run_eql_struct w t j vs,he,aR]
   ·refine Z8 mx my (λσ g w ρ J R=> ?_) (Yk (Zjz I))
    obtain⟨j,vs,U,a0,he⟩:=run σ g w ρ J R;refine⟨.bool (!q),?_,.bool _ _⟩;unfold execOp;simp only[ho,U,a0,aL,run_eqGuard_agg w _ t x y j vs (hE.eqs _ hm).2,aH,run_neq_struct w t j vs,he,aR]
   ·exact I.elim
  ·exact I.elim
 ·exact Z5g hE ho I
end
end
section
open Go.RowKit
section
variable {Y:Thy} {E:Eng Y} {o:Oper} {T:Fr Y} {h:Hp Y} {i:Nat} {k:Res Y->Prop}
theorem Zgq{el:TypeId} {th:Y.Th} (h:Ul E el=ah th):E.thOf el=ah th/\E.el th=el:=by
 unfold Ul at h;split at h
 ·rename_i I j
  split at h
  ·rename_i t
   cases h;exact⟨j,aG t⟩
  ·cases h
 ·cases h
theorem Zj2{α:Type} (zc:List α):∀(c j:Nat),(aS c zc).flatten[j]? =if j<c*zc.length then zc[j%zc.length]? else none:=by
 intro c
 induction c with
 |zero=>intro j;simp
 |succ c ih=>
  intro j;rw[List.replicate_succ,List.flatten_cons];by_cases h:j<zc.length
  ·rw[cf h,jh (by rw[cK];omega),jW h]
  ·rw[ct (by omega),ih]
   by_cases t:j<(c+1)*zc.length
   ·rw[jh t,jh (by rw[cK] at t;omega)]
    conv=>rhs;rw[show j=j-zc.length+zc.length by omega,Nat.add_mod_right]
   ·rw[jb t,jb (by rw[cK] at t;omega)]
theorem Zbx{α:Type} (zc:List α) (c:Nat):(aS c zc).flatten.length=c*zc.length:=by simp
theorem Z0q{el:TypeId} {bytes:Nat} {l:Bool} {n:Int} {th:Y.Th} (h:mk0 E el bytes l n=ah th):0<bytes/\n=0/\Ul E el=ah th:=by
 unfold mk0 at h;split at h
 ·rename_i j
  simp only[az] at j;exact⟨Yi j.2,rfl,h⟩
 ·cases h
theorem Z0r(hE:EngOk E) {t:TypeId} {x y:Operand} (ho:o.op= .makeSlice t x y) (J:Z81 E t (ev T x) (ev T y) i k):∃r,k r/\OpTri E o T h i r:=by
 have mx:x∈o.op.operands.toList:=by simp[ho,ba]
 have my:y∈o.op.operands.toList:=by simp[ho,ba]
 unfold Z81 at J;split at J
 ·rename_i el _ _ _ l kd n m c7 c ht hX hY
  split at J
  ·rename_i I b3
   obtain⟨c2,_⟩:=hE.ty _ _ ht;obtain⟨_,info,b4,b5,b6,b7⟩:=hE.ty _ _ b3;have run:∀(σ:Pl) (g:GH) (w:World) (ρ:Operand->Value),0<=n->n<=c->(I.bytes:Int)*c<=281474976710656->0<I.bytes->Den E σ g (ev T x) (ρ x)->Den E σ g (ev T y) (ρ y)->
    (execOp ρ o).run E.P w= .ok (.value (.slice (ah ⟨w.heap.size,0,aD⟩) n.toNat c.toNat)) (w.alloc (.cells (madeCells I.zero.cells (c.toNat*I.size)) el)):=by
    intro σ g w ρ h0 U a0 h3 d1 d2;rw[hX] at d1;rw[hY] at d2;generalize c3:ρ x=v1 at d1;generalize c4:ρ y=v2 at d2;cases d1;cases d2;have hc:c<=9223372036854775807:=by
     have:(1:Int)*c<=I.bytes*c:=it (by omega) (by omega);omega
    have:=run_make (P:=E.P) w t el info I.zero c2 b4 b7 kd c7 n c h0 U (by rw[b6];exact a0) hc;rw[b5] at this;unfold execOp;simp only[ho,c3,c4,aL,this,aH,aR]
   have bound:0<I.bytes->0<=n->n<=c->(I.bytes:Int)*c<=281474976710656->c.toNat<=maxLen:=by
    intro h3 h0 U a0;have:(1:Int)*c<=I.bytes*c:=it (by omega) (by omega);unfold maxLen;omega
   obtain⟨c5,c6⟩:=Y2 (Y:=Y) (E:=E) I.zero;have cell:∀(σ:Pl) (g:GH) (cc j:Nat) (sv:SV Y),(Yw I.zero:SV Y).cells.length=I.size->0<I.size->j<cc*I.size->(Yw I.zero:SV Y).cells[j%I.size]? =ah sv->∃v,(madeCells I.zero.cells (cc*I.size))[j]? =ah v/\Den E σ g sv v:=by
    intro σ g cc j sv hl hp R c1;obtain⟨u,hu,hd⟩:=c6 σ g _ _ c1;refine⟨u,?_,hd⟩;have hs:I.zero.cells.size=I.size:=by rw[<-c5];exact hl
    unfold madeCells;rw[jB,jf];rw[jh R];simp only[cH,hs];rw[Array.getElem!_eq_getD,aY,hu];rfl
   split at J
   ·rename_i th b9
    obtain⟨a2,c0,a6⟩:=Z0q b9;subst c0;obtain⟨⟨U,a0⟩,J⟩:=Zv J;refine V5 (by intro es e;cases e) (λσ g w ρ hx=> ?_) J;refine⟨_,el,_,run σ g w ρ (eu 0) U a0 a2 (hx x mx) (hx y my),(Zgq a6).2.symm,?_,?_,?_⟩
    ·simp only[cU,List.flatMap_nil,bF];exact bg _
    ·intro j sv R;simp[cU] at R
    ·intro σ' a3
     rw[size_madeCells] at a3;have:=Den.sl (E:=E) (g:=g) (σ:=σ') (b:=i) (off:=0) (len:=0) (w:=I.size) (c:=c.toNat) (cap:=none) a3 (by rw[bX];exact aE _) (bg _) (bound a2 (eu 0) U a0) (by intro m e;cases e)
     simpa using this
   split at J
   ·rename_i a1 hl
    simp only[az] at a1;have a2:=Yi a1.1.1;have a5:=Yi a1.1.2;have a4:=aG a1.2;obtain⟨⟨h0,U,a0⟩,J⟩:=Zv J;refine V5 (by intro es e;cases e) (λσ g w ρ hx=> ?_) J;refine⟨_,el,_,run σ g w ρ h0 U a0 a2 (hx x mx) (hx y my),?_,?_,?_,?_⟩
    ·exact Zpu
    ·simp only[cU,Zbx,size_madeCells,a4];exact aE _
    ·intro j sv R
     simp only[cU] at R;rw[Zj2,a4] at R;split at R
     ·exact cell σ g _ j sv a4 a5 ‹_› R
     ·cases R
    ·intro σ' a3
     rw[size_madeCells] at a3;have:=Den.sl (E:=E) (g:=g) (σ:=σ') (b:=i) (off:=0) (len:=n.toNat) (w:=I.size) (c:=c.toNat) (cap:=some c.toNat) a3 (by rw[bX];exact aE _) (by omega) (bound a2 h0 U a0) (by intro m e;cases e;rfl)
     simpa using this
   ·rename_i a1 hl
    split at J
    ·rename_i th a6
     split at J
     ·rename_i z b0
      simp only[az] at a1;have a2:=Yi a1.1.1;have a5:=Yi a1.1.2;have a4:=aG a1.2;obtain⟨h0,U,a0,J⟩:=J;obtain⟨c8,a9⟩:=hE.dec _ _ _ b0;have hw:E.w th=I.size:=by omega
      refine V5 (by intro es e;cases e) (λσ g w ρ hx=> ?_) J;have a7:(Blk.rows th (aS c.toNat z) 0).cells E=(aS c.toNat (E.enc th z)).flatten:=by
       simp only[cU,List.flatMap_def,List.map_replicate]
      refine⟨_,el,_,run σ g w ρ h0 U a0 a2 (hx x mx) (hx y my),(Zgq a6).2.symm,?_,?_,?_⟩
      ·rw[a7,Zbx,size_madeCells,hE.enc,hw];exact aE _
      ·intro j sv R
       rw[a7,Zj2,hE.enc,hw] at R;split at R
       ·rename_i b8
        have hm:j%I.size<I.size:=iW _ a5;obtain⟨s0,a8⟩:∃s0,(Yw I.zero:SV Y).cells[j%I.size]? =ah s0:=⟨_,aq (by omega)⟩;obtain⟨v,hv,hd⟩:=cell σ g _ j s0 a4 a5 b8 a8;exact⟨v,hv,a9 σ g _ _ _ _ a8 R hd⟩
       ·cases R
      ·intro σ' a3
       rw[size_madeCells] at a3;have:=Den.sl (E:=E) (g:=g) (σ:=σ') (b:=i) (off:=0) (len:=n.toNat) (w:=I.size) (c:=c.toNat) (cap:=some c.toNat) a3 (by rw[bX];exact aE _) (by omega) (bound a2 h0 U a0) (by intro m e;cases e;rfl)
       simpa using this
     ·exact J.elim
    ·exact J.elim
   ·exact J.elim
  ·exact J.elim
 ·exact J.elim
theorem Zde{P:Program} (w:World) (dT sT ty elem:TypeId) (info:TypeInfo) (R J U a2:Nat) (base:Option Addr) (a1 a5:Nat) (I:Array Value) (t:TypeId) (cs:List Value)
 (hu:P.underlying dT=ah (.slice elem)) (hs:P.info? elem=ah info) (hg:w.heap[R]? =ah (.cells I t (0,0))) (hn:cs.length=jS a1 U*info.size) (hb:base=aD->cs= [])
 (a4:∀a,base=ah a->∀j v,cs[j]? =ah v->w.cell? (a.add j)=ah v) (a3:J+cs.length<=I.size) (h1:∀v∈cs,v.oneCell'=af):
 (eP #[dT,sT] ty #[.slice (ah ⟨R,J,aD⟩) U a2,.slice base a1 a5]).run P w=
  .ok (goInt (jS a1 U)) (w.setRow R (I.toList.take J++cs++I.toList.drop (J+cs.length)).toArray):=by
 have a0:=run_storeCells_at P R J t cs 0 I w hg (by simpa using a3) h1
 cases base with
 |none=>
  have:=hb rfl
  subst this
  simp[eP,run_underlying hu,iG,gr,sizeOf,typeInfo,hs] at a0⊢
  simp[a0]
 |some a=>
  have hl:=run_loadCells_list (P:=P) w a cs (a4 a rfl)
  simp[eP,run_underlying hu,iG,gr,sizeOf,typeInfo,hs,<-hn,hl,a0]
theorem Z0s{x:SV Y} {w0:Nat} {cs:List (SV Y)} {rd:List Nat} (t:Z82 h w0 x=ah (cs,rd)) {hh:Hp Y} {σ:Pl} {g:GH} {w:World} {B:Nat} {v:Value} (a8:∀b∈rd,hh b=h b) (hI:Inv E B σ hh g w) (hd:Den E σ g x v):
 ∃(base:Option Addr) (n c:Nat) (a0:List Value),v= .slice base n c/\a0.length=n*w0/\cs.length=n*w0/\(base=aD->n=0)/\(∀a,base=ah a->∀(j:Nat) u,a0[j]? =ah u->w.cell? (a.add j)=ah u)/\
  ∀(j:Nat) sv u,cs[j]? =ah sv->a0[j]? =ah u->Den E σ g sv u:=by
 unfold Z82 at t
 split at t
 ·cases t;cases hd
  exact⟨aD,0,0,[],rfl,by simp,by simp,λ_=>rfl,(λa e=>by cases e),λj sv u I=>by simp at I⟩
 ·rename_i b off len w' cap
  split at t
  ·rename_i b0 fz tg hw hb
   obtain rfl:=aG hw
   split at t
   ·rename_i a7
    rw[bx] at a7
    cases t
    obtain⟨r,z,c,rfl,a9,hz,hl,hm,_⟩:=Vm hd
    obtain⟨r',z',a5,a6⟩:=hI.blk b _ ((a8 b (by simp)).trans hb)
    rw[a9] at a5;cases a5
    obtain⟨u,a2,a3⟩:=Wb (by intro es e;cases e) a6
    simp only[cU] at a2 a3
    have e:(off+len)*w0=off*w0+len*w0:=cK _ _ _
    refine⟨_,len,c,(cy (len*w0)).map λj=>u (off*w0+j),rfl,by simp,by simp;omega,(λe=>by cases e),?_,?_⟩
    ·intro a ea j uu I
     cases ea
     rw[cw] at I
     obtain⟨j',U,rfl⟩:=ck.1 I
     obtain⟨a1,rfl⟩:j<len*w0/\j=j':=by
      obtain⟨J,R⟩:=ar.1 U
      simp at J R
      exact⟨J,R⟩
     rw[Yy]
     exact a2 _ (by omega)
    ·intro j sv uu I a4
     rw[cw] at a4
     obtain⟨j',U,rfl⟩:=ck.1 a4
     obtain⟨a1,rfl⟩:j<len*w0/\j=j':=by
      obtain⟨J,R⟩:=ar.1 U
      simp at J R
      exact⟨J,R⟩
     rw[bU,jh a1,cL] at I
     exact a3 _ _ I
   ·cases t
  ·cases t
 ·cases t
theorem Z0t(hE:EngOk E) {c:Call} (hc:c.callee= .builtin .copy) (ho:o.op= .call c) {t:TypeId} {ts:List TypeId} {x y:Operand} (ha:c.args.toList= [x,y]) (e5:c.argTypes.toList=t::ts) (J:Z83 E t (ev T x) (ev T y) h k):∃r,k r/\OpTri E o T h i r:=by
 have mx:x∈o.op.operands.toList:=by
  have:x∈c.args.toList:=by rw[ha];simp
  simp[ho,ba,eo,hc];simpa using this
 have my:y∈o.op.operands.toList:=by
  have:y∈c.args.toList:=by rw[ha];simp
  simp[ho,ba,eo,hc];simpa using this
 have e4:c.args= #[x,y]:=by rw[<-fY (xs:=c.args),ha]
 have h3:c.argTypes[0]? =ah t:=by rw[<-fT,e5];rfl
 unfold Z83 at J;split at J
 ·rename_i el _ _ _ b off len w0 cap ht hX
  obtain⟨d8,_⟩:=hE.ty _ _ ht;have run:∀(w w':World) (ρ:Operand->Value) (u:Value),(eP #[t,t] o.type #[ρ x,ρ y]).run E.P w= .ok u w'->(execOp ρ o).run E.P w= .ok (.value u) w':=by
   intro w w' ρ u hl;have e:eP c.argTypes o.type #[ρ x,ρ y]=eP #[t,t] o.type #[ρ x,ρ y]:=by
    unfold eP;rw[h3];rfl
   unfold execOp;simp only[ho,resolve,hc,aL,aR,aH,invoke,builtin,e4];rw[show(#[x,y].map ρ)= #[ρ x,ρ y] by simp,e,hl];rfl
  split at J
  ·rename_i ti th l fz b9 hb
   obtain⟨_,info,c0,c3,f5,f6⟩:=hE.ty _ _ b9;split at J
   ·rename_i hw
    simp only[az] at hw;obtain rfl:=aG hw.1;have c8:=aG hw.2;obtain⟨lit,a0,c9,J,e7⟩:=Zbs hE J;obtain⟨⟨d4,h4⟩,J⟩:=Zv J;refine⟨_,J,λb' U=>by(simp[change] at U;subst U;rw[hb];simp),?_⟩;intro B σ g w ρ hh c6 hI hB f4 hx;have a8:∀b'∈b::c9,hh b'=h b':=c6;have U:=(a8 b (by simp)).trans hb;obtain⟨b4,c2,R,C⟩:=e7 hh σ g w B (ρ y) (λb' U=>a8 b' (by simp[U])) hI (hx y my);have hd:=hx x mx;rw[hX] at hd;obtain⟨r,z,c1,e1,a9,hz,f8,g6,_⟩:=Vm hd;obtain⟨r',z',b0,b7⟩:=hI.blk b _ U;rw[a9] at b0;cases b0
    obtain⟨arr,e,a4,b6,a5,a3,b3⟩:=(BlkOk.cells_iff (by intro es e;cases e)).1 b7;simp only[cU] at a5 a3;rw[Z3 hE] at a5;have c4:min a0.length len<=a0.length:=kk _ _;have d5:min a0.length len<=len:=jZ _ _;generalize hn:min a0.length len=n at*;have a7:jS a0.length len=n:=hn;have h5:n*E.w th<=a0.length*E.w th:=bH _ c4;have f9:=C.len;have a1:(R.take (n*E.w th)).length=n*E.w th:=by rw[aW];omega
    have e8:(off+n)*E.w th<=l.length*E.w th:=bH _ (by omega);rw[cK] at e8;have c5:∀u∈R.take (n*E.w th),u.oneCell'=true:=by
     intro u hu;obtain⟨j,hj,rfl⟩:=da (jt hu);have a6:j<(a0.flatMap (E.enc th)).length:=by rw[Z3 hE];omega
     exact Uf (Zkt hE th a0 (aq a6)) (C.den j _ _ (aq a6) (aq hj))
    have c7:=Zde (P:=E.P) w t t o.type el info r (off*E.w th) len c1 b4 a0.length c2 arr e (R.take (n*E.w th)) d8 c0 a4 (by rw[a1,a7,c3,c8]) (λeb=>by
     have h0:=C.nil eb;have h1:=C.le;have:n=0:=by omega
     rw[this];simp) (λa ea j v hj=>by
     rw[bU] at hj;split at hj
     ·obtain⟨r2,o2,d0⟩:=C.some (by
       rcases jL a0.length with e0|e0
       ·have a2:=(ar.1 hj).1
        rw[f9,e0] at a2;simp at a2
       ·exact e0)
      rw[ea] at d0;cases d0;rw[Yy];exact C.cell r2 o2 ea j v hj
     ·cases hj) (by rw[a1];omega) c5
    have d6:=Y7 arr.toList (R.take (n*E.w th)) (off*E.w th) (by rw[a1];simp;omega);have g0:(l.take off++a0.take len++l.drop (off+n)).length=l.length:=by
     simp only[aO,aW,fh];rw[jg] at hn;omega
    have f7:(a0.take len).length=n:=by rw[aW,jg];exact hn
    obtain⟨b5,hS⟩:=Zc1 (i:=i) hI (blk':= .rows th (l.take off++a0.take len++l.drop (off+n)) fz) U a9 (arr':=(arr.toList.take (off*E.w th)++R.take (n*E.w th)++arr.toList.drop (off*E.w th+(R.take (n*E.w th)).length)).toArray) a4 (by simp;omega) b6 b3 (by intro es e;cases e) rfl
     (λm I=>by
      simp only[gN] at I;have:=bH (E.w th) d4
      rw[cG,d6,jh (by omega)];simp) (by simp only[cU];rw[Z3 hE,g0];exact a5)
     (λm sv I=>by
      simp only[cU] at I;obtain⟨q,p,y',rfl,hp,hq,hs⟩:=Xo hE th _ I;rw[cG,d6,a1];have d9:l[q]? =ah y'->∃v,arr.toList[q*E.w th+p]? =ah v/\Den E σ g sv v:=by
       intro hq;obtain⟨v,hv,hd⟩:=a3 (q*E.w th+p) sv (by rw[Y3 hE th l q y' hq p hp];exact hs);exact⟨v,by simpa using hv,hd⟩
      have h6:q*E.w th+p<(q+1)*E.w th:=by rw[cK];omega
      by_cases q1:q<off
      ·have:(q+1)*E.w th<=off*E.w th:=bH _ q1
       rw[jh (by omega)];rw[db,cf (by rw[aW];omega),bU,jh q1] at hq;exact d9 hq
      ·have g1:off*E.w th<=q*E.w th:=bH _ (by omega)
       rw[jb (by omega)];rw[db,ct (by rw[aW];omega)] at hq;have ht:(l.take off).length=off:=by rw[aW];omega
       rw[ht] at hq;by_cases q2:q<off+n
       ·have g2:(q+1)*E.w th<=(off+n)*E.w th:=bH _ q2
        rw[cK off n] at g2;rw[jh (by omega)];rw[cf (by omega),bU] at hq;split at hq
        ·have g3:q*E.w th+p-off*E.w th=(q-off)*E.w th+p:=by rw[Nat.sub_mul];omega
         have a2:(q-off)*E.w th+p<R.length:=by
          have g4:(q-off+1)*E.w th<=a0.length*E.w th:=bH _ (ar.1 hq).1;rw[cK] at g4;omega
         refine⟨R[(q-off)*E.w th+p],?_,C.den _ _ _ (by rw[Y3 hE th a0 _ y' hq p hp];exact hs) (aq a2)⟩;rw[g3,bU,jh (by omega),aq a2]
        ·cases hq
       ·have g2:(off+n)*E.w th<=q*E.w th:=bH _ (by omega)
        rw[cK] at g2;rw[jb (by omega)];rw[ct (by omega),cL,f7] at hq;rw[show off+n+(q-off-n)=q by omega] at hq
        exact d9 hq)
    refine Y5 (run w _ ρ _ (by rw[e1,C.v];exact c7)) ⟨σ,g,hS,by rw[Y0];exact b5,?_⟩;rw[a7];exact .int _ _ _
   ·exact J.elim
  ·rename_i ti cs fz tg b9 hb
   obtain⟨_,info,c0,c3,f5,f6⟩:=hE.ty _ _ b9;split at J
   ·rename_i c2 c9 hw g9
    split at J
    ·rename_i d1
     simp only[az,bx] at hw d1;have c8:=aG hw.1;have g8:=Yi hw.2;obtain⟨⟨d4,e9⟩,g5⟩:=d1;refine⟨_,J,λb' U=>by(simp[change] at U;subst U;rw[hb];simp),?_⟩;intro B σ g w ρ hh c6 hI hB f4 hx;have a8:∀b'∈b::c9,hh b'=h b':=c6;have U:=(a8 b (by simp)).trans hb;obtain⟨b4,n2,e2,R,e3,h7,d2,g7,e6,d3⟩:=Z0s g9 (λb' U=>a8 b' (by simp[U])) hI (hx y my);have hd:=hx x mx;rw[hX] at hd;obtain⟨r,z,c1,e1,a9,hz,f8,g6,_⟩:=Vm hd;obtain⟨r',z',b0,b7⟩:=hI.blk b _ U;rw[a9] at b0;cases b0
     obtain⟨arr,e,a4,b6,a5,a3,b3⟩:=(BlkOk.cells_iff (by intro es e;cases e)).1 b7;simp only[cU] at a5 a3;have c4:min n2 len<=n2:=kk _ _;have d5:min n2 len<=len:=jZ _ _;generalize hn:min n2 len=n at*;have a7:jS n2 len=n:=hn;have g1:n*w0<=n2*w0:=bH _ c4;have g2:n*w0<=len*w0:=bH _ d5;have a1:(R.take (n*w0)).length=n*w0:=by rw[aW];omega
     have b8:(c2.take (len*w0)).length=n*w0:=by
      rw[aW,d2,<-hn,<-Nat.mul_min_mul_right,jg]
     rw[cK] at e9;have c5:∀u∈R.take (n*w0),u.oneCell'=true:=by
      intro u hu;obtain⟨j,hj,rfl⟩:=da (jt hu);have a6:j<c2.length:=by omega
      exact Uf (Vq g5 (aq a6)) (d3 j _ _ (aq a6) (aq hj))
     have c7:=Zde (P:=E.P) w t t o.type el info r (off*w0) len c1 b4 n2 e2 arr e (R.take (n*w0)) d8 c0 a4 (by rw[a1,a7,c3,c8]) (λeb=>by
      have:=g7 eb;have:n=0:=by omega
      rw[this];simp) (λa ea j v hj=>by
      rw[bU] at hj;split at hj
      ·exact e6 a ea j v hj
      ·cases hj) (by rw[a1];omega) c5
     have d7:=Y7 arr.toList (R.take (n*w0)) (off*w0) (by rw[a1];simp;omega);have h2:=Y7 cs (c2.take (len*w0)) (off*w0) (by rw[b8];omega);obtain⟨b5,hS⟩:=Zc1 (i:=i) hI (blk':= .raw (Xw cs (off*w0) (c2.take (len*w0))) fz tg) U a9 (arr':=(arr.toList.take (off*w0)++R.take (n*w0)++arr.toList.drop (off*w0+(R.take (n*w0)).length)).toArray) a4 (by simp;omega) b6 (by first|exact b3|(cases tg<;>exact b3)) (by intro es e;cases e) rfl
      (λm I=>by
       simp only[gN] at I
       rw[cG,d7,jh (by omega)];simp) (by simp only[cU,Xw,aO,fh];rw[aW,b8];omega)
      (λm sv I=>by
       simp only[cU,Xw] at I;rw[h2,b8] at I;rw[cG,d7,a1];by_cases q1:m<off*w0
       ·rw[jh q1] at I⊢
        obtain⟨v,hv,hd⟩:=a3 m sv I;exact⟨v,by simpa using hv,hd⟩
       ·rw[jb q1] at I⊢
        by_cases q2:m<off*w0+n*w0
        ·rw[jh q2] at I⊢
         rw[bU] at I;split at I
         ·have a2:m-off*w0<R.length:=by omega
          exact⟨R[m-off*w0],by rw[bU,jh (by omega),aq a2],d3 _ _ _ I (aq a2)⟩
         ·cases I
        ·rw[jb q2] at I⊢
         obtain⟨v,hv,hd⟩:=a3 m sv I
         exact⟨v,by simpa using hv,hd⟩)
     refine Y5 (run w _ ρ _ (by rw[e1,e3];exact c7)) ⟨σ,g,hS,by rw[Y0];exact b5,?_⟩;rw[a7];have:min (c2.length/w0) len=n:=by rw[d2,Nat.mul_div_cancel _ g8];exact hn
     show Den E σ g (.int af .i64 (min (c2.length/w0) len:Nat)) _;rw[this];exact .int _ _ _
    ·exact J.elim
   ·exact J.elim
  ·exact J.elim
 ·exact J.elim
theorem Zu4(hE:EngOk E) {a7 a4 el:TypeId} {x:Operand} {s0:List Nat} {d:TypeDesc} {a1 a2:Nat} {z:Value} (hs:E.P.underlying a7=ah d) (ho:o.op= .convert a7 a4 x) (ht:E.ty a4=ah ⟨.slice el,a1,a2,z⟩) (hX:ev T x= .str af s0) (hk:Zrf E el s0 k):∃r,k r/\OpTri E o T h i r:=by
 have mx:x∈o.op.operands.toList:=by simp[ho,ba]
 unfold Zrf at hk;split at hk
 ·rename_i _ _ _ th b7 c9
  rw[Xe] at hk;split at hk
  ·rename_i l b6 R
   simp only[az,eV,bx] at R;obtain⟨hw,c1⟩:=R;obtain⟨d1,d2⟩:=Yx hE b6;have hu:=(hE.ty _ _ ht).1;have c2:=(hE.ty _ _ b7).1;refine⟨_,hk,λb R=>by simp[quiet] at R,λB σ g w ρ hh c7 J hB c4 hx=> ?_⟩;have I:=hx x mx;rw[hX] at I;generalize c3:ρ x=v1 at I;cases I;rename_i s b9;subst b9;have e1:(toL s).length=s.data.size:=by simp[toL]
   have e2:((toL s).map λn:Nat=>(.int ae .u8 (n:Int):SV Y))=s.data.toList.map λb=> .int ae .u8 (b.toNat:Int):=by rw[toL,List.map_map];rfl
   rw[e1] at c1;have b0:l.length=s.data.size:=d1.trans e1;rw[e2] at d2;have b8:(execOp ρ o).run E.P w= .ok (.value (.slice (ah ⟨w.heap.size,0,aD⟩) s.size (grownCap w s.size 0 el))) (fC w el s):=by
    unfold execOp;simp only[ho,c3,aL,Lib.run_convert_string_bytes w a7 a4 el s hs hu c2,aH,aR]
   have c0:s.size=s.data.size:=rfl;obtain⟨g',a0⟩:∃g':GH,g'={cell:=λr n=>if r=w.heap.size/\n<s.size then(fC w el s).cell? ⟨r,n,aD⟩ else g.cell r n,obj:=g.obj}:=⟨_,rfl⟩;have a8:∀r n v,g.cell r n=ah v->r<w.heap.size:=λr n v t=>block_lt_of_cell (J.gc r n v t);have b3:∀r U,g.obj r=ah U->r<w.heap.size:=λr U t=>by obtain⟨c,h⟩:=J.gm r U t;exact(cq.1 h).1
   have a9:∀r n v,g.cell r n=ah v->g'.cell r n=ah v:=by
    intro r n v t;have:=a8 r n v t;rw[a0];show(if _ then _ else _)=_;rw[jb (by omega)];exact t
   have a5:∀r n v,g'.cell r n=ah v->g.cell r n=ah v\/(r=w.heap.size/\(fC w el s).cell? ⟨r,n,aD⟩=ah v):=by
    intro r n v t;rw[a0] at t;have t:(if r=w.heap.size/\n<s.size then(fC w el s).cell? ⟨r,n,aD⟩ else g.cell r n)=ah v:=t;split at t
    ·rename_i e;exact .inr ⟨e.1,t⟩
    ·exact .inl t
   have a6:g.le g':=⟨a9,λr U t=>by rw[a0];exact t⟩;have a3:∀r,r<w.heap.size->(fC w el s).heap[r]? =w.heap[r]? :=λr hr=>Lib.bytesWorld_at_old w el s r hr;have c8:=Lib.bytesWorld_size w el s;refine Y5 b8 ⟨σ,g',⟨.refl _,λb p h=> .inl h,a6,λr n v t=> ?_,λr U t=> .inl (by rw[a0] at t;exact t),λr hr _=>a3 r hr,by omega,rfl,rfl,rfl,λb r z I h2=>by rw[I] at h2;cases h2⟩,?_,?_⟩
   ·rcases a5 r n v t with I|⟨I,_⟩
    ·exact .inl I
    ·exact .inr (.inl (by omega))
   ·rw[Yp]
    refine⟨λr n v t=> ?_,λr U t=> ?_,λb x hx=> ?_,J.inj,λb r z R=>⟨(J.base b r z R).1,by have:=(J.base b r z R).2;omega⟩,λb x r z n v hx R t=> ?_,λb x r z hx R=> ?_,λn sv hn j s' hj=> ?_⟩
    ·rcases a5 r n v t with I|⟨_,I⟩
     ·rw[fZ (w:=w) (a3 r (a8 _ _ _ I))];exact J.gc _ _ _ I
     ·exact I
    ·rw[a0] at t
     obtain⟨c,h⟩:=J.gm r U t;exact⟨c,(a3 r (b3 _ _ t)).trans h⟩
    ·obtain⟨r,z,I,h2⟩:=J.blk b x hx
     exact⟨r,z,I,h2.mono (.refl _) a6 (a3 r (J.base _ _ _ I).2)⟩
    ·rcases a5 r n v t with I|⟨I,_⟩
     ·exact J.fz b x r z n v hx R I
     ·have:=(J.base _ _ _ R).2;omega
    ·rw[a0];exact J.fm b x r z hx R
    ·obtain⟨v,I,h2⟩:=J.glob n sv hn j s' hj
     exact⟨v,a9 _ _ _ I,h2.mono (.refl _) a6⟩
   ·have b5:∀q,q<s.size->g'.cell w.heap.size q=ah (.int .u8 (s.data.toList.getD q 0).toNat):=by
     intro q hq;rw[a0];show(if _ then _ else _)=_;rw[jh ⟨rfl,hq⟩];exact Lib.bytesWorld_cell w el s q hq
    have hp:=Den.psl (E:=E) (σ:=σ) (g:=g') (th:=th) (l:=l) (full:=false) (base:=some ⟨w.heap.size,0,aD⟩) (c:=grownCap w s.size 0 el) (λq _=> .int .u8 (s.data.toList.getD q 0).toNat)
     (by rw[b0,<-c0];exact grownCap_ge w _ _ _) (grownCap_le_maxLen w _ _ _ (by unfold maxLen;omega)) (by simp) (λe=>by cases e)
     (λ_=>⟨w.heap.size,0,rfl,λq y hq j hj=>by
      rw[hE.enc,hw] at hj;obtain rfl:j=0:=by omega
      have c6:q<l.length:=(ar.1 hq).1;rw[hw,bX,fP,dP]
      exact b5 q (by omega)⟩)
     (λq y hq j sv hj=>by
      have c5:j<E.w th:=by rw[<-hE.enc th y];exact(ar.1 hj).1
      obtain rfl:j=0:=by omega
      have hf:=Y3 hE th l q y hq 0 (by omega);rw[hj] at hf;obtain⟨s0,k1,k2⟩:=d2 _ _ hf;rw[hw,fP,dP,cw] at k1;obtain⟨b,b4,rfl⟩:=ck.1 k1;refine k2 _ _ _ ?_;rw[aI,b4]
      exact .int _ _ _)
    rw[b0] at hp;exact hp
  ·exact hk.elim
 ·exact hk.elim
end
end
section
open Go.RowKit
section
variable {Y:Thy} {E:Eng Y} {o:Oper} {T:Fr Y} {h:Hp Y} {i:Nat} {k:Res Y->Prop}
theorem Zvp(J:EngOk E) {t:TypeId} {th:Y.Th} (ho:o.op= .alloc t) (a3:E.arrOf t=ah th) (I:Zjf E t th i k):∃r,k r/\OpTri E o T h i r:=by
 unfold Zjf at I;split at I
 ·rename_i n el sz a5 z ht
  split at I
  ·rename_i l a2 R
   have R:=aG R;obtain⟨U,a0⟩:=Yx J a2;refine V5 (by intro es e;cases e) (λσ g w ρ hx=> ?_) I;obtain⟨a1,h2⟩:=Y2 (E:=E) z;refine⟨z.cells,t,.pointer (ah ⟨w.heap.size,0,aD⟩),?_,(J.arr _ _ a3).symm,?_,λj sv hj=> ?_,λσ' a4=> .ptr a4⟩
   ·unfold execOp
    simp only[ho,Instr.alloc,aL,V6 J ht,aH,newVar,newRow,newObj,gJ,aR];rfl
   ·show(l.flatMap (E.enc th)).length<=_
    rw[Z3 J,U,<-a1,R];exact aE _
   ·obtain⟨s0,h3,h4⟩:=a0 j sv hj
    obtain⟨u,h5,h6⟩:=h2 σ g j s0 h3;exact⟨u,h5,h4 σ g u h6⟩
  ·exact I.elim
 ·exact I.elim
theorem Z58(R:EngOk E) {t:TypeId} {th:Y.Th} {x:Operand} (U:o.op= .box t x) (a3:E.arrOf t=ah th) (I:Zre E t th (ev T x) i k):∃r,k r/\OpTri E o T h i r:=by
 unfold Zre at I;split at I
 ·rename_i n el sz a5 z ht
  split at I
  ·rename_i l a2 J
   simp only[az] at J;obtain⟨J,hl⟩:=J;have J:=aG J;obtain⟨a0,a1⟩:=Yx R a2;refine V5 (by intro es e;cases e) (λσ g w ρ hx=> ?_) I;obtain⟨h1,h2⟩:=Vp (hx x (by simp[U,ba])) hl;refine⟨(ρ x).cells,t,.pointer (ah ⟨w.heap.size,0,aD⟩),?_,(R.arr _ _ a3).symm,?_,λj sv hj=> ?_,λσ' a4=> .ptr a4⟩
   ·unfold execOp
    simp only[U,Instr.box,aL,aH,newVar,newRow,newObj,gJ,aR];rfl
   ·show(l.flatMap (E.enc th)).length<=_
    rw[Z3 R,a0,<-h1,J];exact aE _
   ·obtain⟨s0,h3,h4⟩:=a1 j sv hj
    obtain⟨u,h5,h6⟩:=h2 j s0 h3;exact⟨u,h5,h4 σ g u h6⟩
  ·exact I.elim
 ·exact I.elim
theorem Zr6(J:EngOk E) {t:TypeId} {x ix:Operand} (U:o.op= .index t x ix) (I:Zc7 E t (ev T x) (ev T ix) k):∃r,k r/\OpTri E o T h i r:=by
 have mx:x∈o.op.operands.toList:=by simp[U,ba]
 have my:ix∈o.op.operands.toList:=by simp[U,ba]
 unfold Zc7 at I;split at I
 ·rename_i len el sz c0 z cs kd n ht hX a3
  split at I
  ·rename_i R a4
   split at I
   ·rename_i b6
    unfold Zo2 at I;split at I
    ·rename_i th c2
     split at I
     ·rename_i ls a9 hc
      simp only[az] at hc;have b4:=aG hc.1;have a2:=aG hc.2;obtain⟨h0,c1,y,hy,I⟩:=Zpi I;obtain⟨d1,d2⟩:=Yx J a9;have b5:n.toNat<len:=by rw[<-d1];exact(ar.1 hy).1
      have b3:n.toNat*R.size+R.size<=cs.length:=by
       rw[b4,a2,<-Nat.succ_mul];exact bH _ b5
      have hr:Vt (Zu R.d) R.size (n.toNat*R.size) cs=ah (.agg ((cs.drop (n.toNat*R.size)).take R.size)):=by
       unfold Vt;rw[b6];simp only[b3,decide_true]
      refine Z8 mx my (λσ g w ρ a0 h2=> ?_) I;rw[hX] at a0;rw[a3] at h2;generalize b7:ρ x=v1 at a0;generalize b8:ρ ix=v2 at h2;obtain⟨arr,_,rfl,_⟩:=Yo a0;cases h2;obtain⟨u,hu,hd⟩:=Vy J a4 a0 hr w;refine⟨u,?_,?_⟩
      ·unfold execOp
       have a6:0<=n/\n<(len:Int):=by omega
       simp only[U,b7,b8,Instr.index,aL,asIntOf,aR,aH,Zy J ht];rw[jh a6];simp only[aL,Z0 J a4,aH,hu,aR]
      ·obtain⟨b9,c,rfl,hs,a7,a8⟩:=Yo hd
       have a5:((cs.drop (n.toNat*R.size)).take R.size).length=R.size:=by
        rw[aW,fh];omega
       refine .agg c (by rw[J.enc,<-a2,<-a5];exact hs) (λj a1=>a7 j (by rw[a5,a2,<-J.enc th y];exact a1)) λj sv a1=> ?_;have b0:j<E.w th:=by rw[<-J.enc th y];exact(ar.1 a1).1
       obtain⟨s0,h3,h4⟩:=d2 (n.toNat*E.w th+j) sv (by rw[Y3 J th ls _ y hy j b0];exact a1);refine h4 σ g _ (a8 j s0 ?_);rw[bU,jh (by omega),cL,a2];exact h3
     ·exact I.elim
    ·exact I.elim
   ·exact Zjy J U (by rw[hX,a3] at I;rw[hX,a3];exact I)
  ·exact I.elim
 ·exact Zjy J U I
theorem tagR{el:TypeId} {th:Y.Th} {l:List (Y.dom th)} {j:Nat} (h:Ul E el=ah th):ElOk E el (.rows th l j):=by
 unfold Ul at h;split at h
 ·split at h
  ·rename_i t
   cases h;exact(aG t).symm
  ·cases h
 ·cases h
theorem Zew(a1:EngOk E) {t:TypeId} {len:Nat} {parts:Array (Nat×Operand)} (ho:o.op= .buildSlice t len parts) (J:U0 E t len (parts.toList.map λp=>(p.1,ev T p.2)) i k):∃r,k r/\OpTri E o T h i r:=by
 have mx:∀x,x∈parts.toList.map (·.2)->x∈o.op.operands.toList:=by intro x hx;simpa[ho,ba] using hx
 unfold U0 at J;split at J
 ·rename_i el sz c0 z ht
  split at J
  ·rename_i I th b4 b7
   split at J
   ·rename_i cs hc hf
    simp only[az,bx] at hc;obtain⟨⟨c3,c1⟩,a0,U⟩:=hc;split at J
    case h_2=>exact J.elim
    rename_i l b3 a4;have a4:=aG a4;obtain⟨d1,d2⟩:=Yx a1 b3;have a0:0<I.size:=Yi a0;have U:(Yw I.zero:SV Y).cells.length=I.size:=aG U;have a7:I.zero.cells.size=I.size:=by rw[<-(Y2 (E:=E) I.zero).1];exact U
    refine V5 (by intro es e;cases e) (λσ g w ρ hx=> ?_) J;obtain⟨p1,p2⟩:=Zb3 (E:=E) (σ:=σ) (g:=g) (T:=T) (ρ:=ρ) (parts:=parts) (λx hm=>hx x (mx x hm));have hA:DenA E σ g ((aS len (Yw I.zero:SV Y).cells).flatten) ((jr (len*I.size)).map (I.zero.cells[· %I.zero.cells.size]!)):=by
     have hr:=Zvt U a0 len;refine⟨?_,λj s R=> ?_⟩
     ·rw[Array.size_map,Array.size_range]
      simp[U]
     ·rw[hr] at R
      by_cases c:j<len*I.size
      ·rw[jh c] at R
       obtain⟨u,hu,hd⟩:=(Y2 (E:=E) I.zero).2 σ g _ s R;refine⟨u,?_,hd⟩;have c2:j%I.size<I.zero.cells.size:=by rw[a7];exact iW _ a0
       rw[jB,jf,jh c,cH,a7];have he:I.zero.cells[j%I.size]! =u:=by simp[getElem!_def,hu]
       rw[he]
      ·rw[jb c] at R;cases R
    obtain⟨arr',h1,h2⟩:=Zb2 _ _ _ _ _ hA p1 p2 hf;obtain⟨hu,_⟩:=a1.ty _ _ ht;obtain⟨_,a8,a5,a2,_,b8⟩:=a1.ty _ _ b4;have a9:=h2.1;have a6:arr'.size=len*I.size:=by
     have:∀(ps:List (Nat×SV Y)) (cells cs:List (SV Y)) (pl:Nat->Option (Nat×Nat)),Zcl pl cells ps=ah cs->cs.length=cells.length:=by
      intro ps
      induction ps with
      |nil=>intro cells cs pl h;simp[Zcl] at h;rw[h]
      |cons p ps ih=>
       intro cells cs pl h;simp only[Zcl] at h;split at h
       ·cases h
       ·split at h
        ·rename_i b0
         simp only[az,bx,fw] at b0;rw[ih _ _ _ h];simp[Xw];omega
        ·cases h
     rw[<-a9,this _ _ _ _ hf,hA.1];simp
    refine⟨arr',el,.slice (ah ⟨w.heap.size,0,aD⟩) len len,?_,tagR b7,?_,λj s R=> ?_,λσ' b9=> ?_⟩
    rotate_left
    ·show(l.flatMap (E.enc th)).length<=_
     rw[Z3 a1,d1,a6,a4];exact aE _
    ·obtain⟨s0,h3,h4⟩:=d2 j s R
     obtain⟨u,h5,h6⟩:=h2.2 j s0 h3;exact⟨u,h5,h4 σ g u h6⟩
    rotate_left
    ·unfold execOp
     simp only[ho,aL];by_cases a3:len*a8.size=0
     ·have b5:len=0:=by
       rw[a2] at a3;rcases Nat.mul_eq_zero.1 a3 with h|h<;>omega
      have b6:(ie t len (parts.map λ(n,x)=>(n,ρ x))).run E.P w= .ok (.slice (ah ⟨w.heap.size,0,aD⟩) len len) (w.alloc (.cells arr' el)):=by
       subst b5;have e0:∀f:Nat->Value,Array.map f (jr 0)= #[]:=λf=>by apply Array.ext';simp
       simp[e0] at h1;simp[e0,ie,run_underlying hu,sizeOf,typeInfo,a5,h1,a2,newRow]
      rw[b6];rfl
     ·rw[run_buildSlice w t el len _ arr' a8 I.zero hu a5 b8 (by rw[a2];omega) a3 (by rw[a2];exact h1)];rfl
    ·have:=Den.sl (E:=E) (g:=g) (b:=i) (off:=0) (len:=len) (w:=I.size) (c:=len) (cap:=some len) b9 (by rw[a6];simp) (aE _) (by unfold maxLen;omega) (by intro m e;cases e;rfl)
     simpa using this
   ·exact J.elim
  ·exact J.elim
 ·exact J.elim
theorem Zbb(E:Eng Y) (th:Y.Th) (l:List (Y.dom th)) (t:Y.dom th):∀(n j:Nat),j+n=l.length->Wq E th l t n j=(l.drop j).flatMap (E.enc th)
 |0,j,h=>by
  have:j=l.length:=by simpa using h
  subst this
  simp[Wq]
 |n+1,j,h=>by
  have I:j<l.length:=by omega
  have key:Wq E th l t (n+1) j=E.enc th (l.getD j t)++Wq E th l t n (j+1):=by cases j<;>rfl
  rw[key,Zbb E th l t n (j+1) (by omega),cA I,ic,aI,aq I]
  rfl
theorem Zvq(J:EngOk E) {t:TypeId} {x:Operand} (U:o.op= .load t x) (I:Zhi E t (ev T x) h k):∃r,k r/\OpTri E o T h i r:=by
 unfold Zhi at I;split at I
 ·rename_i b hX
  split at I
  ·rename_i th l fz hb
   have mx:x∈o.op.operands.toList:=by simp[U,ba]
   unfold Zy9 at I;split at I
   ·rename_i n el sz b3 z ht
    split at I
    ·rename_i te b5
     split at I
     ·rename_i d0 b4 a0
      have a0:=aG a0;obtain⟨R,I⟩:=Zv I;rw[Zbb E th l d0 n 0 (by rw[R,bX])] at I;refine⟨_,I,Zr λB σ g w ρ hh a5 hI hx=> ?_⟩;have a1:=hx x mx;rw[hX] at a1;generalize a9:ρ x=v1 at a1;cases a1;rename_i r z b0;obtain⟨r',z',a3,a4⟩:=hI.blk b _ ((a5 b (by simp)).trans hb);rw[b0] at a3;cases a3;obtain⟨u,a7,a8⟩:=Wb (by intro es e;cases e) a4;have a2:=Z3 J th l;have hr:Vt af sz 0 (l.flatMap (E.enc th))=ah (.agg (l.flatMap (E.enc th))):=by
       have h0:0+sz<=(l.flatMap (E.enc th)).length:=by rw[a2,R,a0,bX];exact aE _
       simp only[Vt,h0,jP,eO];rw[aN (by rw[a2,R,a0];exact aE _)]
       first|rfl|simp
      have:=Wh hr u a8;have a6:=Y8 J ht w r 0 u (λj hj=>a7 _ (by simp[Zu] at hj;show 0+j<_;simp only[cU];rw[a2,R];omega));refine⟨_,?_,this.2⟩;unfold execOp;simp only[U,a9,Instr.loadAt,aL,eL,aR,aH,a6];rfl
     ·exact I.elim
    ·exact I.elim
   ·exact I.elim
  ·exact Zqy J U (hX.symm▸I)
 ·exact Zqy J U I
theorem Z1f{α:Type} {l:Bool} {x:α} {k:α->Prop} (h:Ybh l x k):k x:=by
 cases l
 ·exact h x rfl
 ·exact h
theorem Zr7(J:EngOk E) {t:TypeId} {x v:Operand} (a1:o.op= .store t x v) (I:Zo1 E t (ev T x) (ev T v) h k):∃r,k r/\OpTri E o T h i r:=by
 have mx:x∈o.op.operands.toList:=by simp[a1,ba]
 have mv:v∈o.op.operands.toList:=by simp[a1,ba]
 unfold Zo1 at I;split at I
 ·rename_i b hX
  split at I
  ·rename_i th l hb
   unfold Zza at I;split at I
   ·rename_i n el sz d0 z ht
    split at I
    ·rename_i l' c1 hc
     simp only[az] at hc;obtain⟨⟨a4,a0⟩,b4⟩:=hc;have a4:=aG a4;have a0:=aG a0;obtain⟨hl,I⟩:=Zv I;have I:=Z1f I;obtain⟨d1,d2⟩:=Yx J c1;have a3:=Z3 J th l;have a9:=Z3 J th l';refine⟨_,I,λb' U=>by(simp[change] at U;subst U;rw[hb];simp),?_⟩;intro B σ g w ρ hh c5 hI hB d4 hx;have U:hh b=ah (.rows th l 0):=(c5 b (by simp[Rd,change])).trans hb;have h1:=hx x mx;rw[hX] at h1;generalize c9:ρ x=v1 at h1;cases h1;rename_i r z b6;obtain⟨r',z',b7,b9⟩:=hI.blk b _ U;rw[b6] at b7;cases b7
     obtain⟨arr,e,ha,hz,a8,d3,c2⟩:=(BlkOk.cells_iff (by intro es e;cases e)).1 b9;obtain⟨a2,a7⟩:=Vp (hx v mv) b4;have a5:(l.flatMap (E.enc th)).length<=arr.size:=by rw[hz];exact a8
     have c4:∀u∈(ρ v).cells.toList,u.oneCell'=true:=by
      intro u hu;obtain⟨j,R,rfl⟩:=da hu;have b0:j<(ev T v).cells.length:=by rw[a2];simpa using R
      obtain⟨u',b5,c0⟩:=a7 j _ (aq b0);have:(ρ v).cells.toList[j]=u':=by
       have c3:j<(ρ v).cells.size:=by simpa using R
       rw[cO c3] at b5
       simpa using aU b5
      rw[this];exact Uf (Vq b4 (aq b0)) c0
     have c6:=Ur J ht a1 w ρ r 0 arr e c9 ha (by rw[<-a2,a0]) (by rw[<-a2,a0,a4,<-hl,bX,<-a3];exact a5) c4;have a6:(ρ v).cells.toList.length=n*E.w th:=by simp[<-a2,a0,a4]
     have c7:=Y7 arr.toList (ρ v).cells.toList 0 (by rw[a6,<-hl,<-a3];simpa using a5);have b3:l'.length=n:=d1;have c8:(arr.toList.take 0++(ρ v).cells.toList++arr.toList.drop (0+(ρ v).cells.toList.length)).toArray.size=arr.size:=by
      have h9:(ρ v).cells.toList.length<=arr.toList.length:=by rw[a6,<-hl,<-a3];simpa using a5
      simp only[gU,aO,aW,fh];simp only[gy] at h9⊢;omega
     obtain⟨b8,hS⟩:=Zc1 (i:=i) hI (blk':= .rows th l' 0) U b6 (arr':=(arr.toList.take 0++(ρ v).cells.toList++arr.toList.drop (0+(ρ v).cells.toList.length)).toArray) ha c8 hz c2 (by intro es e;cases e) rfl
      (λn hn=>by simp[gN] at hn) (by simp only[cU];rw[a9,b3,<-hl,<-a3];exact a8)
      (λj sv R=>by
       simp only[cU] at R;rw[cG,c7,jb (Nat.not_lt_zero _),a6];have d5:j<n*E.w th:=by rw[<-b3,<-a9];exact(ar.1 R).1
       rw[jh (by omega)];obtain⟨s0,h3,h4⟩:=d2 j sv R;obtain⟨u,h5,h6⟩:=a7 j s0 h3
       exact⟨u,by simpa using h5,h4 σ g u h6⟩)
     refine Un c6 ⟨σ,g,hS,?_,.unk _⟩;rw[Y0];exact b8
    ·exact I.elim
   ·exact I.elim
  ·exact Zks J a1 (hX.symm▸I)
 ·exact Zks J a1 I
theorem Zge(J:EngOk E) {t:TypeId} {x ix:Operand} (R:o.op= .indexAddr t x ix) (I:X6 E t (ev T x) (ev T ix) h k):∃r,k r/\OpTri E o T h i r:=by
 have mx:x∈o.op.operands.toList:=by simp[R,ba]
 have my:ix∈o.op.operands.toList:=by simp[R,ba]
 have run:∀{len:Nat} {el:TypeId} {sz a4:Nat} {z:Value} (ht:E.ty t=ah ⟨.array len el,sz,a4,z⟩) (w:World) (ρ:Operand->Value) (ti:TyI) (a:Addr) (kd:IntKind) (n:Int),E.ty el=ah ti->0<=n/\n<(len:Int)->ρ x= .pointer (ah a)->ρ ix= .int kd n->(execOp ρ o).run E.P w= .ok (.value (.pointer (ah (a.add (n.toNat*ti.size))))) w:=by
  intro len el sz a4 z ht w ρ ti a kd n b0 h0 a2 a3;unfold execOp;simp only[R,a2,a3,Instr.indexAt,aL,asIntOf,aR,aH,Zy J ht,eL,jh h0,Z0 J b0]
 unfold X6 at I;split at I
 ·rename_i b a1
  split at I
  ·rename_i th l fz hb
   unfold Zbf at I;split at I
   ·rename_i len el sz a4 z f kd n ht a5
    split at I
    ·rename_i te a6
     obtain⟨h0,I⟩:=Zv I;obtain⟨hw,I⟩:=Xn I;refine Z8 mx my (λσ g w ρ U a0=> ?_) I;rw[a1] at U;rw[a5] at a0;generalize a2:ρ x=v1 at U;generalize a3:ρ ix=v2 at a0;cases a0;cases U;refine⟨_,run ht w ρ te _ _ _ a6 h0 a2 a3,?_⟩;rw[Yy]
     simpa using Den.eptr (off:=0) (i:=n.toNat) (w:=te.size) (by assumption)
    ·exact I.elim
   ·exact I.elim
  ·exact Xs J R (a1.symm▸I)
 ·rename_i gl a1
  split at I
  ·rename_i len el sz a4 z kd n ht a5
   unfold Zbg at I;split at I
   ·rename_i v th b3 b7
    split at I
    ·rename_i l a8
     split at I
     ·rename_i te a6
      obtain⟨hw,I⟩:=Xn I;obtain⟨h0,b5,y,hy,I⟩:=Zpi I;obtain⟨d1,d2⟩:=Yx J a8;refine⟨_,I,Zr λB σ g w ρ hh b6 hI hx=> ?_⟩;have U:=hx x mx;have a0:=hx ix my;rw[a1] at U;rw[a5] at a0;generalize a2:ρ x=v1 at U;generalize a3:ρ ix=v2 at a0;cases a0;cases U;have a7:∀(j:Nat) sv,(E.enc th y)[j]? =ah sv->∃u,g.cell gl (n.toNat*E.w th+j)=ah u/\Den E σ g sv u:=λj sv hj=>by
       have b4:j<E.w th:=by rw[<-J.enc th y];exact(ar.1 hj).1
       obtain⟨s0,h3,h4⟩:=d2 (n.toNat*E.w th+j) sv (by rw[Y3 J th l _ y hy j b4];exact hj);obtain⟨u,hu,a9⟩:=hI.glob _ _ b3 _ _ h3;exact⟨u,hu,h4 _ _ _ (a9.mono (λ_ _ e=>by cases e) (.refl _))⟩
      refine⟨.pointer (ah ⟨gl,n.toNat*E.w th+0,aD⟩),?_,.pptr (λj=>(g.cell gl (n.toNat*E.w th+j)).getD undef) (λj hj=> ?_) (λj sv hj=> ?_)⟩
      ·have:=run ht w ρ te _ _ _ a6 ⟨h0,by omega⟩ a2 a3
       rw[this,Yy,hw,bX,dP]
      ·obtain⟨u,hu,_⟩:=a7 j _ (aq hj)
       rw[hu];rfl
      ·obtain⟨u,hu,hd⟩:=a7 j sv hj
       rw[hu];exact hd
     ·exact I.elim
    ·exact Xs J R (by first|exact I|exact(a1.symm▸I))
   ·exact Xs J R (by first|exact I|exact(a1.symm▸I))
  ·exact Xs J R (a1.symm▸I)
 ·exact Xs J R I
end
end
section
open Go.RowKit
section
variable {Y:Thy} {E:Eng Y} {o:Oper} {T:Fr Y} {h:Hp Y} {i:Nat} {k:Res Y->Prop}
inductive NilOk:TypeDesc->Value->Bool->Prop
 |p0 {e}:NilOk (.pointer e) (.pointer aD) af
 |p1 {e a}:NilOk (.pointer e) (.pointer (ah a)) ae
 |i0 {ms}:NilOk (.interface ms) .nilIface af
 |i1 {ms t v}:NilOk (.interface ms) (.iface t v) ae
 |s0 {e}:NilOk (.slice e) (.slice aD 0 0) af
 |s1 {e a l c}:NilOk (.slice e) (.slice (ah a) l c) ae
 |m0 {k e}:NilOk (.map k e) (.map aD) af
 |m1 {k e r}:NilOk (.map k e) (.map (ah r)) ae
 |f0 {a b c}:NilOk (.func a b c) .nilFunc af
 |f1 {a b c f x y}:NilOk (.func a b c) (.func f x y) ae
theorem Zed{σ:Pl} {g:GH} {d:TypeDesc} {x:SV Y} {v:Value} {p:Bool} (j:nilV x=ah p) (ht:nilT d x=af) (t:Den E σ g x v):NilOk d v p:=by
 unfold nilV at j;split at j<;>first|cases j|skip
 all_goals
  first
  |(simp only[nilT] at ht;split at ht<;>first|(cases t;constructor)|cases ht)
  |skip
theorem Zja{P:Program} {t:TypeId} {d:TypeDesc} (I:P.underlying t=ah d) {x y:Value} {p q:Bool} (J:NilOk d x p) (R:NilOk d y q) (j:(p||q)=af) (w:World):(Op.equal t x y).run P w= .ok (p&&q) w:=by
 show(iy (9999+1) t x y).run P w=_;rw[iy];rw[aL,run_underlying I];cases J<;>cases R<;>first|rfl|(simp at j)
theorem Zyt{P:Program} {op:BinOp} {t:TypeId} {x y:Operand} {d:TypeDesc} {u v:Value} {p q:Bool} (j:(Zbh x||Zbh y)=af) (I:NilOk d u p) (J:NilOk d v q) (w:World):(eqGuard op t x y u v).run P w= .ok () w:=by
 cases op<;>first|rfl|skip
 all_goals
  cases I<;>cases J<;>first|rfl|(cases x<;>first|rfl|(cases y<;>first|rfl|(simp[Zbh] at j)))
theorem Zfo{P:Program} {t:TypeId} {d:TypeDesc} (R:P.underlying t=ah d) {x y:Value} {p q:Bool} (j:NilOk d x p) (I:NilOk d y q) (J:(p||q)=af) (w:World):(binOp .eql t x y).run P w= .ok (.bool (p&&q)) w/\(binOp .neq t x y).run P w= .ok (.bool (!(p&&q))) w:=by
 have e:=Zja R j I J w;cases j<;>cases I<;>simp only[binOp,aL,e,aH,aR,and_self]
theorem Z3d(hE:EngOk E) {op:BinOp} {t t':TypeId} {x y:Operand} (R:o.op= .binOp op t x y t') {p q:Bool} (hp:nilV (ev T x)=ah p) (hq:nilV (ev T y)=ah q) (hc:(Zbh x||Zbh y)=af) (j:Z3k E op t (ev T x) (ev T y) p q k):∃r,k r/\OpTri E o T h i r:=by
 have mx:x∈o.op.operands.toList:=by simp[R,ba]
 have my:y∈o.op.operands.toList:=by simp[R,ba]
 unfold Z3k at j;split at j
 ·rename_i ti a1
  have hu:=(hE.ty _ _ a1).1;split at j
  ·rename_i hb
   simp only[az] at hb;obtain⟨⟨h1,h2⟩,h3⟩:=hb;have hg:∀(ρ:Operand->Value) (w:World) (op:BinOp),NilOk ti.d (ρ x) p->NilOk ti.d (ρ y) q->(eqGuard op t x y (ρ x) (ρ y)).run E.P w= .ok () w:=
    λρ w op I J=>Zyt hc I J w
   split at j
   ·refine Z8 mx my (λσ g w ρ U a0=> ?_) j
    have I:=Zed hp h1 U;have J:=Zed hq h2 a0;refine⟨.bool (p&&q),?_,.bool _ _⟩;unfold execOp;have e:(binOp .eql t (ρ x) (ρ y)).run E.P w= .ok (.bool (p&&q)) w:=(Zfo hu I J h3 w).1;simp only[R,aL,hg ρ w _ I J,aH,e,aR]
   ·refine Z8 mx my (λσ g w ρ U a0=> ?_) j
    have I:=Zed hp h1 U;have J:=Zed hq h2 a0;refine⟨.bool (!(p&&q)),?_,.bool _ _⟩;unfold execOp;have e:(binOp .neq t (ρ x) (ρ y)).run E.P w= .ok (.bool (!(p&&q))) w:=(Zfo hu I J h3 w).2;simp only[R,aL,hg ρ w _ I J,aH,e,aR]
   ·exact j.elim
  ·exact j.elim
 ·exact j.elim
theorem Zor(I:EngOk E) {t:TypeId} (j:Zl3 E t=af):∃el,E.P.underlying t=ah (.slice el)/\E.P.underlying el=ah (.int .u8):=by
 unfold Zl3 at j;split at j
 ·rename_i el _ _ _ ht
  split at j
  ·rename_i J
   exact⟨el,(I.ty _ _ ht).1,(I.ty _ _ J).1⟩
  ·cases j
 ·cases j
theorem Zdl{σ:Pl} {g:GH} {fl:Bool}:∀{cs:List (SV Y)} {f:Bool} {l:List Nat},Zee fl cs=ah (f,l)->∀u:Nat->Value,(∀j sv,cs[j]? =ah sv->Den E σ g sv (u j))->
 ∃I:List Int,I.length=cs.length/\(∀j,j<cs.length->(I.map (Value.int .u8))[j]? =ah (u j))/\l=I.map (λn=>n.toNat%256)
 | [],f,l,h,u,J=>by
  cases h
  exact⟨[],rfl,λj t=>by simp at t,rfl⟩
 |x::r,f,l,h,u,J=>by
  unfold Zee at h
  split at h
  ·cases‹_::_= []›
  ·rename_i f' n r' e
   cases e
   split at h
   ·rename_i g' l' hl
    cases h
    obtain⟨I,U,a0,rfl⟩:=Zdl hl (λj=>u (j+1)) λj sv t=>J (j+1) sv t
    have R:=J 0 _ rfl
    refine⟨n::I,by simp[U],λj t=> ?_,by simp⟩
    cases j with
    |zero=>
     generalize u 0=u0 at R
     cases R;rfl
    |succ j=>exact a0 j (by simpa using t)
   ·cases h
  ·cases h
theorem Z3e(r:ByteArray) (b:UInt8):toL (r.push b)=toL r++ [b.toNat]:=by
 simp[toL]
theorem Zyu(j:List Int):∀r:ByteArray,toL (j.foldl (λr n=>r.push (UInt8.ofNat n.toNat)) r)=toL r++j.map (λn=>n.toNat%256):=by
 induction j with
 |nil=>intro r;simp
 |cons n j ih=>
  intro r;rw[List.foldl_cons,ih,Z3e,db];simp[UInt8.toNat_ofNat']
theorem Zhc(hE:EngOk E) {a3 U:TypeId} {x:Operand} (ho:o.op= .convert a3 U x) (hb:Zl3 E a3=af) {a1 a2:Nat} {z:Value} (ht:E.ty U=ah ⟨.string,a1,a2,z⟩) {y:SV Y} (hX:ev T x=y) (I:Zbm y h k):∃r,k r/\OpTri E o T h i r:=by
 have mx:x∈o.op.operands.toList:=by simp[ho,ba]
 obtain⟨el,hs,he⟩:=Zor hE hb;have hd:=(hE.ty _ _ ht).1;have run:∀(w:World) (ρ:Operand->Value) a l c u,ρ x= .slice a l c->(Conv.bytesToString (.slice a l c)).run E.P w= .ok u w->(execOp ρ o).run E.P w= .ok (.value u) w:=by
  intro w ρ a l c u R hr;unfold execOp;simp only[ho,R,aL,run_convert_bytes_string w a3 U el a l c hs he hd,hr,aH,aR]
 unfold Zbm at I;split at I
 ·refine⟨_,I,Zr λB σ g w ρ hh a4 hI R=> ?_⟩
  have J:=R x mx;rw[hX] at J;generalize a0:ρ x=v at J;cases J;exact⟨.string .empty,run w ρ aD 0 0 _ a0 (by simp[Conv.bytesToString,go_sem]),.str _ rfl⟩
 ·rename_i b off len w' cap
  split at I
  ·rename_i cs fz tg a6
   split at I
   ·rename_i f l hq hl
    simp only[az,eV,bx] at hq;obtain⟨rfl,b8⟩:=hq;refine⟨_,I,Zr λB σ g w ρ hh a4 hI R=> ?_⟩;have J:=R x mx;rw[hX] at J;generalize a0:ρ x=v at J;cases J;rename_i c r z' _ _ _ _ _;have b6:σ b=ah (r,z'):=by assumption
    have hz:(off+c)*1<=z':=by assumption
    have b7:len<=c:=by assumption
    have a7:=(a4 b (by simp)).trans a6;obtain⟨r',z,a5,a8⟩:=hI.blk _ _ a7;rw[b6] at a5;cases a5;obtain⟨u,b4,b5⟩:=Wb (by intro es e;cases e) a8
    obtain⟨ns,n1,n2,rfl⟩:=Zdl (E:=E) (σ:=σ) (g:=g) hl (λj=>u (off+j)) (λj sv t=>b5 _ _ (by
     rw[bU] at t;split at t
     ·rw[cL] at t;exact t
     ·cases t))
    have b3:((cs.drop off).take len).length=len:=by simp;omega
    rw[b3] at n1 n2;have b0:(loadCells ⟨r,off*1,aD⟩ len).run E.P w= .ok (ns.map (Value.int .u8)).toArray w:=by
     have:=run_loadCells_list (P:=E.P) (w:=w) ⟨r,off*1,aD⟩ (ns.map (Value.int .u8)) λj v t=>by
      have a9:j<len:=by
       have:=(ar.1 t).1
       simpa[n1] using this
      rw[n2 j a9] at t;cases t;rw[fP,Yy];exact b4 (off+j) (by show off+j<cs.length;omega)
     rw[List.length_map,n1] at this;exact this
    refine⟨_,run w ρ _ _ _ _ a0 (run_bytesToString w _ len c ns b0),.str _ ?_⟩;rw[Zyu];rfl
   ·exact I.elim
  ·exact I.elim
 ·exact I.elim
theorem DenL.append0{σ:Pl} {g:GH} {a b:List (SV Y)} {J R:List Value} (h:DenL E σ g a J) (k:DenL E σ g b R):DenL E σ g (a++b) (J++R):=by
 refine⟨by simp[h.1,k.1],λj sv v t I=> ?_⟩;have U:=h.1;by_cases e:j<a.length
 ·rw[cf e] at t
  rw[cf (by omega)] at I;exact h.2 j sv v t I
 ·rw[ct (by omega)] at t
  rw[ct (by omega),<-U] at I;exact k.2 _ sv v t I
theorem Zyv{P:Program} {t:TypeId} {x:Value} {d:TypeDesc} (I:P.underlying t=ah d) (j:∀ms,d≠ .interface ms) (w:World):(ju t x).run P w= .ok (.iface t x) w:=by
 unfold ju;rw[aL,run_underlying I];cases d<;>first|rfl|exact jv rfl (j _)
theorem Zgg{P:Program} {t R:TypeId} {z:Value} {d:TypeDesc} (I:P.underlying t=ah d) (j:∀ms,d≠ .interface ms) (w:World) (J:(zeroValue t).run P w= .ok z w):(ee .nilIface R t af).run P w= .ok (.tuple #[z,.bool ae]) w:=by
 unfold ee;rw[aL,run_underlying I];cases d<;>first|exact jv rfl (j _)|(simp only[aH,jP,aL,J,aR])
theorem Uz{P:Program} {t J:TypeId} {u:Value} {ok:Bool} {d:TypeDesc} (I:P.underlying t=ah d) (j:∀ms,d≠ .interface ms) (w:World):(ee (.iface t u) J t ok).run P w= .ok (if ok then .tuple #[u,.bool af] else u) w:=by
 unfold ee;rw[aL,run_underlying I];cases d<;>first|exact jv rfl (j _)|(simp only[aH,jP,aR])
theorem Zd1{P:Program} {t j U:TypeId} {u z:Value} {d:TypeDesc} (J:P.underlying t=ah d) (I:∀ms,d≠ .interface ms) (ht:j≠t) (w:World) (R:(zeroValue t).run P w= .ok z w):(ee (.iface j u) U t af).run P w= .ok (.tuple #[z,.bool ae]) w:=by
 unfold ee;rw[aL,run_underlying J];cases d<;>first|exact jv rfl (I _)|(simp only[aH,jb ht,jP,aL,R,aR])
theorem Z3f(J:EngOk E) {t:TypeId} {x:Operand} (I:o.op= .makeInterface t x) (j:Zo6 E t (ev T x) k):∃r,k r/\OpTri E o T h i r:=by
 have mx:x∈o.op.operands.toList:=by simp[I,ba]
 unfold Zo6 at j;split at j
 ·rename_i ti a0
  have hu:=(J.ty _ _ a0).1;split at j
  ·exact j.elim
  ·rename_i U
   refine X0 mx (λσ g w ρ R=>⟨.iface t (ρ x),?_,.iface R⟩) j;unfold execOp;simp only[I,aL,Zyv hu (λms e=>U ms e),aH,aR]
 ·exact j.elim
theorem Zfp{σ : Pl} {g : GH} {v : SV Y} {u : Value} {b : Bool} (hd : Den E σ g v u) : Den E σ g (.tup [v, .bool af b]) (.tuple #[u, .bool b]) :=
  .tup (λq => if q = 0 then u else .bool b) rfl (λq hq => by match q, hq with | 0, _ => rfl | 1, _ => rfl) (λq s hs => by
    match q, hs with
    | 0, hs => obtain rfl : v = s := by simpa using hs
               exact hd
    | 1, hs => obtain rfl : SV.bool af b = s := by simpa using hs
               exact .bool _ _)
theorem Zyw(hE:EngOk E) {t t':TypeId} {x:Operand} {ok:Bool} (ho:o.op= .typeAssert x t' t ok) (I:Zjj E (ev T x) t ok k):∃r,k r/\OpTri E o T h i r:=by
 have mx:x∈o.op.operands.toList:=by simp[ho,ba]
 unfold Zjj at I;split at I
 ·rename_i ti a1
  have hu:=(hE.ty _ _ a1).1;have hz:∀w,(zeroValue t).run E.P w= .ok ti.zero w:=λw=>V6 hE a1 w;split at I
  ·exact I.elim
  ·rename_i R
   have R:∀ms,ti.d≠ .interface ms:=λms e=>R ms e;have run:∀(w:World) (ρ:Operand->Value) (u:Value),(ee (ρ x) t' t ok).run E.P w= .ok u w->(execOp ρ o).run E.P w= .ok (.value u) w:=by
    intro w ρ u hr;unfold execOp;simp only[ho,aL,hr,aH,aR]
   split at I
   ·rename_i hX
    refine X0 mx (λσ g w ρ j=>⟨.tuple #[ti.zero,.bool ae],?_,Zfp (Xm E _ _ _)⟩) I;rw[hX] at j;generalize hv:ρ x=v at j;cases j;exact run w ρ _ (by rw[hv];exact Zgg hu R w (hz w))
   ·rename_i a2 _ t2 v hX
    have dn:∀(σ:Pl) (g:GH) (ρ:Operand->Value),Den E σ g (ev T x) (ρ x)->∃u,ρ x= .iface t2 u/\Den E σ g v u:=by
     intro σ g ρ j;rw[hX] at j;generalize hv:ρ x=v at j;cases j;exact⟨_,rfl,‹_›⟩
    split at I
    ·rename_i J
     obtain rfl:=aG J;refine X0 mx (λσ g w ρ j=> ?_) I;obtain⟨u,U,a0⟩:=dn σ g ρ j;exact⟨_,run w ρ _ (by rw[U];exact Uz hu R w),Zfp a0⟩
    ·rename_i J
     obtain rfl:=aG J;refine X0 mx (λσ g w ρ j=> ?_) I;obtain⟨u,U,a0⟩:=dn σ g ρ j;exact⟨_,run w ρ _ (by rw[U];exact Uz hu R w),a0⟩
    ·rename_i J
     have J:t2≠t:=λe=>by rw[e] at J;simp at J
     refine X0 mx (λσ g w ρ j=> ?_) I;obtain⟨u,U,a0⟩:=dn σ g ρ j;exact⟨_,run w ρ _ (by rw[U];exact Zd1 hu R J w (hz w)),Zfp (Xm E _ _ _)⟩
    ·exact I.elim
   ·exact I.elim
 ·exact I.elim
theorem Zos(s:ByteArray) (c:Int):firstIdx s c.toNat.toUInt8=idxL (c.toNat%256) 0 (toL s):=by
 have R:c.toNat.toUInt8.toNat=c.toNat%256:=by simp
 have key:∀(n j:Nat),j+n=s.size->(match(ir j n).find? λi=>s[i]! ==c.toNat.toUInt8 with|some i=>(i:Int)|none=> -1)=idxL (c.toNat%256) j ((toL s).drop j):=by
  intro n
  induction n with
  |zero=>
   intro j a0;rw[List.drop_of_length_le (by rw[Zda];omega)];rfl
  |succ n ih=>
   intro j a0;have t:j<s.size:=by omega
   have a1:j<(toL s).length:=by rw[Zda];exact t
   rw[cA a1,idxL,fN,List.find?_cons];have U:s[j]!.toNat=(toL s)[j]:=by
    have I:s[j]! =s[j]:=getElem!_pos s j t;rw[I];simp only[toL,List.getElem_map,Array.getElem_toList];rfl
   have J:(s[j]! ==c.toNat.toUInt8)=bf (toL s)[j] (c.toNat%256):=by
    rw[<-U,<-R];by_cases e:s[j]! =c.toNat.toUInt8
    ·rw[e];simp
    ·rw[fV.2 e,eq_comm,<-bv,eV]
     exactλq=>e (UInt8.toNat_inj.1 q)
   rw[J];cases bf (toL s)[j] (c.toNat%256)
   ·exact ih (j+1) (by omega)
   ·rfl
 have:=key s.size 0 (by omega);rw[eO,<-gj] at this;exact this
theorem Z8o(hE:EngOk E) {c:Call} {f:Operand} (hc:c.callee= .value f) (ho:o.op= .call c) {a1:FuncId} {a b:List (SV Y)} (hf:ev T f= .fn (.func a1) a b) {x:ExtK} (hx:E.ext a1=ah x)
 (U:sext x (a++c.args.toList.map (ev T)++b) k):∃r,k r/\OpTri E o T h i r:=by
 obtain⟨fn,b0,b3,a4,hn,he⟩:=hE.ext a1 x hx
 have mf:f∈o.op.operands.toList:=by simp[ho,ba,eo,hc]
 have args:∀(σ:Pl) (g:GH) (ρ:Operand->Value),(∀x∈o.op.operands.toList,Den E σ g (ev T x) (ρ x))->∃l:List Value,DenL E σ g (a++c.args.toList.map (ev T)++b) l/\
  ∀(w:World) (v:Value),(Zzp x l.toArray).run E.P w= .ok v w->(execOp ρ o).run E.P w= .ok (.value v) w:=by
  intro σ g ρ a3
  have a2:=a3 f mf
  rw[hf] at a2
  generalize hv:ρ f=vf at a2
  cases a2
  rename_i va vb ca cb b4 a6 a8 b5 a7 a9
  refine⟨va.toList++(c.args.map ρ).toList++vb.toList,?_,λw v hr=> ?_⟩
  ·obtain⟨e1,e2,e3⟩:=Zeh (E:=E) (σ:=σ) (g:=g) (T:=T) (ρ:=ρ) (xs:=c.args) (λx hm=>a3 x (by simp[ho,ba,eo,hc] at hm⊢;exact .inr hm))
   have l1:DenL E σ g a va.toList:=⟨by simp[b4],λj sv v J R=>by
    have:=a6 j (ar.1 J).1
    rw[show va.toList[j]? =va[j]? by simp,this] at R
    cases R;exact a8 j sv J⟩
   have l2:DenL E σ g (c.args.toList.map (ev T)) (c.args.map ρ).toList:=⟨by simp,λj sv v J R=>by
    have:=e2 j (ar.1 J).1
    rw[show(c.args.map ρ).toList[j]? =(c.args.map ρ)[j]? by simp,this] at R
    cases R;exact e3 j sv J⟩
   have l3:DenL E σ g b vb.toList:=⟨by simp[b5],λj sv v J R=>by
    have:=a7 j (ar.1 J).1
    rw[show vb.toList[j]? =vb[j]? by simp,this] at R
    cases R;exact a9 j sv J⟩
   exact(l1.append0 l2).append0 l3
  ·unfold execOp
   have e:(va++c.args.map ρ++vb)=(va.toList++(c.args.map ρ).toList++vb.toList).toArray:=by simp
   simp only[ho,resolve,hc,aL,aR,aH,Deferred.ofValue,hv,invoke]
   rw[e,run_callFunc_extern b0 b3 a4 hn he,hr]
   rfl
 have one:∀{v:SV Y},(∀(σ:Pl) (g:GH) (w:World) (l:List Value),DenL E σ g (a++c.args.toList.map (ev T)++b) l->∃u,(Zzp x l.toArray).run E.P w= .ok u w/\Den E σ g v u)->k (quiet [] v)->∃r,k r/\OpTri E o T h i r:=by
  intro v H U
  refine⟨_,U,Zr λB σ g w ρ hh b6 hI hx=> ?_⟩
  obtain⟨l,J,R⟩:=args σ g ρ hx
  obtain⟨u,h3,h4⟩:=H σ g w l J
  exact⟨u,R w u h3,h4⟩
 unfold sext at U
 split at U
 ·rename_i l a' m b' n c' hl
  obtain⟨⟨q1,q2,q3,q4⟩,U⟩:=Zv U
  refine one (λσ g w vs a0=> ?_) U
  rw[hl] at a0
  obtain⟨d1,t⟩:=a0
  match vs,d1,t with
  | [x,y,z],_,t=>
   have e1:=t 0 _ x rfl rfl
   have e2:=t 1 _ y rfl rfl
   have e3:=t 2 _ z rfl rfl
   cases e1;cases e2;cases e3
   refine⟨_,run_add64 a' b' c' q1 q2 q3 q4 w,?_⟩
   refine .tup (λj=> #[.int .u64 ((a'+b'+c')%18446744073709551616),.int .u64 ((a'+b'+c')/18446744073709551616)].getD j undef) rfl (λj I=> ?_) (λj sv I=> ?_)
   ·match j,I with
    |0,_=>rfl
    |1,_=>rfl
   ·match j,I with
    |0,I=>simp at I;subst I;exact .int _ _ _
    |1,I=>simp at I;subst I;exact .int _ _ _
    |j+2,I=>simp at I
 ·rename_i l s m c' hl
  refine one (λσ g w vs a0=> ?_) U
  rw[hl] at a0
  obtain⟨d1,t⟩:=a0
  match vs,d1,t with
  | [x,y],_,t=>
   have e1:=t 0 _ x rfl rfl
   have e2:=t 1 _ y rfl rfl
   cases e1;cases e2
   rename_i bs a5 _
   subst a5
   rw[<-Zos]
   exact⟨_,run_indexByte_string bs c' w,.int _ _ _⟩
 ·rename_i v hl
  refine one (λσ g w vs a0=> ?_) U
  rw[hl] at a0
  obtain⟨d1,t⟩:=a0
  match vs,d1,t with
  | [x],_,t=>exact⟨x,rfl,t 0 _ x rfl rfl⟩
 ·exact U.elim
end
end
section
open Go.RowKit
section
variable {Y:Thy} {E:Eng Y} {k k':Res Y->Prop}
abbrev QM(k k':Res Y->Prop):Prop:=∀rd v,k (quiet rd v)->k' (quiet rd v)
theorem X9{a b:Nat} {K K':Prop} (h:K->K'):Vj a b K->Vj a b K':=by unfold Vj;split;exact h;exact id
theorem Zzz{α:Type} {lit:Bool} {l:List α} {j:Nat} {f f':α->Prop} (h:∀x,f x->f' x):getK lit l j f->getK lit l j f':=by
 unfold getK;split
 ·split
  ·exact h _
  ·exact id
 ·exactλ⟨t,I⟩=>⟨t,λx J=>h x (I x J)⟩
theorem Zeg{α:Type} {lit:Bool} {l:List α} {n:Int} {f f':α->Prop} (h:∀x,f x->f' x):ixK lit l n f->ixK lit l n f':=by
 unfold ixK;split
 ·split
  ·exact h _
  ·exact id
 ·exactλ⟨j,t,I⟩=>⟨j,t,λx J=>h x (I x J)⟩
theorem Ww{n:Int} {f t:Nat->Prop} (h:∀j,f j->t j):∀{c j:Nat},Zjg n f c j->Zjg n t c j
 |0,_=>id
 |c+1,j=>λ⟨I,J⟩=>⟨λe=>h _ (I e),λe=>Ww h (J e)⟩
theorem Wi{l:Bool} {p:Prop} [Decidable p] {K K':Prop} (h:K->K'):need l p K->need l p K':=by
 unfold need;split
 ·split
  ·exact h
  ·exact id
 ·exactλ⟨j,t⟩=>⟨j,h t⟩
theorem Zdb{l b:Bool} {K K':Bool->Prop} (h:∀v,K v->K' v):split l b K->split l b K':=by
 unfold split;split
 ·exact h _
 ·exactλ⟨j,t⟩=>⟨λe=>h _ (j e),λe=>h _ (t e)⟩
theorem Xh(j:QM k k') {f v:Bool}:Zay f v k->Zay f v k':=Zdb λv=>j _ _
theorem Zcs(j:QM k k') {f:Bool} {kd:IntKind} {n:Int}:intR f kd n k->intR f kd n k':=j _ _
theorem Zt7(j:QM k k') {op:BinOp} {f m:Bool} {kd:IntKind} {a b:Int}:Zzb op f m kd a b k->Zzb op f m kd a b k':=by
 cases op<;>simp only[Zzb]<;>first|exact Zcs j|exact Xh j|exact Wi (Zcs j)
theorem Zt8(j:QM k k') {op:BinOp} {l m:Bool} {kd t:IntKind} {a b:Int}:Zzc op l m kd t a b k->Zzc op l m kd t a b k':=by
 unfold Zzc;split
 ·exact Wi (Zcs j)
 ·exact Wi (Zcs j)
 ·split
  ·exact id
  ·exact Zt7 j
theorem Zt9(j:QM k k') {op:BinOp} {l m:Bool} {a b:List Nat}:Zze op l m a b k->Zze op l m a b k':=by
 unfold Zze;split
 ·exact Wi (j _ _)
 ·exact Xh j
 ·exact Xh j
 ·exact Xh j
 ·exact Xh j
 ·exact Xh j
 ·exact Xh j
 ·exact id
theorem Zua(j:QM k k') {op:BinOp} {t:TypeId} {l m a b:Bool}:Zzd E op t l m a b k->Zzd E op t l m a b k':=by
 unfold Zzd;split
 ·split
  ·exact Xh j
  ·exact Xh j
  ·exact id
 ·exact id
theorem Zz0(j:QM k k') {op:BinOp} {t:TypeId} {x y:SV Y}:sbin E op t x y k->sbin E op t x y k':=by
 unfold sbin;split
 ·exact Zt8 j
 ·exact Zua j
 ·exact Zt9 j
 ·exact id
theorem Zub(j:QM k k') {op:BinOp} {t:TypeId} {x y:SV Y}:Ztz E op t x y k->Ztz E op t x y k':=by
 unfold Ztz;split
 ·split
  ·split
   ·exact Zek λv=>j _ _
   ·exact Zek λv=>j _ _
   ·exact id
  ·exact id
 ·exact Zz0 j
theorem Zho(j:QM k k') {t:TypeId} {x:SV Y} {h:Hp Y}:Zo0 E t x h k->Zo0 E t x h k':=by
 unfold Zo0;split
 ·exact id
 ·split
  ·split
   ·split
    ·exact j _ _
    ·exact id
   ·exact id
  ·split
   ·refine X9 (Zzz λx=> ?_)
    split
    ·exact j _ _
    ·exact id
   ·exact id
  ·split
   ·exact j _ _
   ·exact id
  ·split
   ·split
    ·exact j _ _
    ·exact id
   ·exact id
  ·exact id
theorem Zf8(j:QM k k') {t:TypeId} {x:SV Y} {f:Nat}:Wv E t x f k->Wv E t x f k':=by
 unfold Wv;split
 ·split
  ·split
   ·split
    ·exact id
    ·split
     ·exact j _ _
     ·exact j _ _
     ·exact j _ _
     ·exact id
   ·exact id
  ·exact id
 ·exact id
theorem Zpc(j:QM k k') {t:TypeId} {x:SV Y} {f:Nat}:Zhh E t x f k->Zhh E t x f k':=by
 unfold Zhh;split
 ·split
  ·split
   ·split
    ·exact j _ _
    ·exact id
   ·exact id
  ·exact id
 ·exact id
theorem Zuc{l:Bool} {n:Int} {len:Nat} {f f':Nat->Prop} (h:∀j,f j->f' j):Ztx l n len f->Ztx l n len f':=by
 unfold Ztx;split
 ·exact Wi (h _)
 ·exactλ⟨t,I,J⟩=>⟨t,I,Ww h J⟩
theorem Xd(I:QM k k') {t:TypeId} {x a0:SV Y} {h:Hp Y}:Xg E t x a0 h k->Xg E t x a0 h k':=by
 unfold Xg;split
 ·split
  ·split
   ·exact I _ _
   ·exact id
  ·split
   ·exact I _ _
   ·exact id
  ·split
   ·exact I _ _
   ·exact id
  ·exactλ⟨J,R,U⟩=>⟨J,R,Ww (λj=>I _ _) U⟩
  ·exactλ⟨J,R,U⟩=>⟨J,R,Ww (λj=>I _ _) U⟩
  ·exactλ⟨J,R,U⟩=>⟨J,R,Ww (λj=>I _ _) U⟩
  ·split
   ·exact I _ _
   ·exact id
  ·exactλ⟨J,R,U⟩=>⟨J,R,Ww (λj=>I _ _) U⟩
  ·exact id
 ·split
  ·split
   ·exact X9 (Zeg λx=>I _ _)
   ·split
    ·exact Zuc λj=>X9 (I _ _)
    ·exact Wi (X9 (X9 (I _ _)))
    ·exact id
   ·exact id
  ·exact id
 ·exact id
theorem Zf9(j:QM k k') {t:TypeId} {x I:SV Y}:Zfx E t x I k->Zfx E t x I k':=by
 unfold Zfx;split
 ·split
  ·split
   ·exact j _ _
   ·exact id
  ·split
   ·exactλ⟨J,R,U⟩=>⟨J,R,λy a0=>j _ _ (U y a0)⟩
   ·exact id
  ·exact id
 ·exact Zeg λy=>j _ _
 ·exact id
theorem Zma(j:QM k k') {t:TypeId} {x I:SV Y}:Zc7 E t x I k->Zc7 E t x I k':=by
 unfold Zc7;split
 ·split
  ·split
   ·unfold Zo2
    split
    ·split
     ·exact Zeg λy=>j _ _
     ·exact id
    ·exact id
   ·exact Zf9 j
  ·exact id
 ·exact Zf9 j
theorem Zz1(j:QM k k') {t:TypeId} {x:SV Y} {h:Hp Y}:slen E t x h k->slen E t x h k':=by
 unfold slen;split<;>first|exact j _ _|exact id
theorem Zdt(j:QM k k') {mx:Bool} {x:SV Y} {r:List (SV Y)}:Zc8 mx x r k->Zc8 mx x r k':=by
 unfold Zc8;split
 ·exact j _ _
 ·exact id
theorem Z33(j:QM k k') {op:UnOp} {x:SV Y}:sun op x k->sun op x k':=by
 unfold sun;split<;>first|exact j _ _|exact id
theorem Zjt(j:QM k k') {t:TypeId} {x:SV Y}:Zao E t x k->Zao E t x k':=by
 unfold Zao;split<;>first|exact j _ _|exact id
theorem Zdu(j:QM k k') {x:SV Y} {h:Hp Y}:Zbm x h k->Zbm x h k':=by
 unfold Zbm;split
 ·exact j _ _
 ·split
  ·split
   ·exact j _ _
   ·exact id
  ·exact id
 ·exact id
theorem Zpd(j:QM k k') {t:TypeId} {x:SV Y} {h:Hp Y}:Zhi E t x h k->Zhi E t x h k':=by
 unfold Zhi;split
 ·split
  ·unfold Zy9
   split
   ·split
    ·split
     ·exact Wi (j _ _)
     ·exact id
    ·exact id
   ·exact id
  ·exact Zho j
 ·exact Zho j
theorem Zd4(j:QM k k') {t:TypeId} {x I:SV Y} {h:Hp Y}:X6 E t x I h k->X6 E t x I h k':=by
 unfold X6;split
 ·split
  ·unfold Zbf
   split
   ·split
    ·exact Wi (X9 (j _ _))
    ·exact id
   ·exact id
  ·exact Xd j
 ·split
  ·unfold Zbg
   split
   ·split
    ·split
     ·exact X9 (Zeg λx=>j _ _)
     ·exact id
    ·exact Xd j
   ·exact Xd j
  ·exact Xd j
 ·exact Xd j
theorem Zz2(j:QM k k') {call:Nat->List (SV Y)->Hp Y->Nat->(Res Y->Prop)->Prop} {op:Op} {T:Fr Y} {h:Hp Y} {i:Nat} (I:Zf4 op=af):step E call op T h i k->step E call op T h i k':=by
 cases op<;>simp only[Zf4,bc] at I<;>simp only[step]
 case move=>exact j _ _
 case pick=>
  unfold Zcm;split
  ·exact Zdb λv=>by
    cases v
    ·exact j _ _
    ·exact j _ _
  ·exact id
 case load=>exact Zpd j
 case binOp=>
  unfold Z84;split
  ·unfold Z3k
   split
   ·split
    ·split
     ·exact j _ _
     ·exact j _ _
     ·exact id
    ·exact id
   ·exact id
  ·exact Zub j
 case unOp=>exact Z33 j
 case convert=>
  unfold Zcn;split
  ·split
   ·unfold Zrf
    split
    ·rw[Xe,Xe]
     split
     ·exact j _ _
     ·exact id
    ·exact id
   ·split
    ·exact Zdu j
    ·exact id
   ·split
    ·exact Zdu j
    ·exact id
   ·exact Zjt j
  ·exact id
 case fieldAddr=>exact Zf8 j
 case field=>exact Zpc j
 case indexAddr=>exact Zd4 j
 case index=>exact Zma j
 case extract=>
  unfold Zjk;split
  ·split
   ·exact j _ _
   ·exact id
  ·exact id
 case call c=>
  unfold U2;unfold Z42 at I;split at I
  ·rename_i t
   simp only[t];unfold Zjl;split
   ·exact Zz1 j
   ·exact id
  ·rename_i t
   simp only[t];unfold stMm;split
   ·exact Zdt j
   ·exact id
  ·rename_i t
   simp only[t];unfold stMm;split
   ·exact Zdt j
   ·exact id
  ·cases I
theorem Zud{N:Nat} {d:Option Nat} {rd:List Nat} {v:SV Y} {T:Fr Y} {h:Hp Y} {i:Nat} {ms:List Nat} {k:Fr Y->Hp Y->Nat->List Nat->Prop}:
 Zl6 N d (quiet rd v) T h i ms k↔(match d with|none=>k T h i ms|some d=>aZ d N=af/\k (upd T d v) h i ms):=by
 cases d with
 |none=>exact Iff.rfl
 |some d=>
  unfold Zl6
  simp only[]
  cases j:aZ d N
  ·simp
  ·simp only[true_and]
   rw[show(quiet rd v).v=v from rfl,Zbw]
   exact Iff.rfl
theorem Wa:∀{ops:List Oper} {o:Oper} {d:Nat},o∈ops->o.dst=ah d->d∈Yf ops
 | [],o,d,h,_=>by cases h
 |x::r,o,d,h,e=>by
  unfold Yf
  rcases bE.1 h with rfl|h
  ·rw[e];simp
  ·have:=Wa h e
   split
   ·exact cx _ this
   ·exact this
theorem Zz3{all:List Oper} {j d:Nat} (h:Zf1 all j=ah d):d∈Yf all:=by
 unfold Zf1 at h;split at h
 ·rename_i o t
  exact Wa (cp t) h
 ·cases h
def AgreeOff(D:List Nat) (T t:Fr Y):Prop:=∀j,j∉D->t j=T j
theorem AgreeOff.upd{D:List Nat} {T:Fr Y} {d:Nat} {v:SV Y} (h:d∈D):AgreeOff D T (upd T d v):=by
 intro j t;rw[Zf,jb (by rintro rfl;exact t h)]
theorem AgreeOff.trans{D:List Nat} {T t T2:Fr Y} (h:AgreeOff D T t) (k:AgreeOff D t T2):AgreeOff D T T2:=λj I=>(k j I).trans (h j I)
def Za4(o:Oper):Bool:=Zf4 o.op||(match o.op with| .assign _=>af|_=>ae)
theorem Zue(I:QM k k') {call:Nat->List (SV Y)->Hp Y->Nat->(Res Y->Prop)->Prop} {o:Oper} {T:Fr Y} {h:Hp Y} {i:Nat} (t:Za4 o=af):step E call o.op T h i k->step E call o.op T h i k':=by
 unfold Za4 at t;rw[bw] at t;rcases t with j|j
 ·exact Zz2 I j
 ·split at j
  ·rename_i x e
   rw[e];exact I _ _
  ·cases j
theorem Zmb{N:Nat} {call:Nat->List (SV Y)->Hp Y->Nat->(Res Y->Prop)->Prop} {all:List Oper} {T0:Fr Y} {h:Hp Y} {i:Nat} {ms:List Nat} {k k':Kont Y} (a4:∀U,AgreeOff (Yf all) T0 U->k .normal U h i ms->k' .normal U h i ms) (a5:∀ch U,k (.panic ch) U h i ms->k' (.panic ch) U h i ms):
 ∀{ops:List Oper} {T:Fr Y},(∀o∈ops,o∈all/\Za4 o=af)->AgreeOff (Yf all) T0 T->rgn E N call all ops T h i ms k->rgn E N call all ops T h i ms k'
 | [],T,_,J,t=>a4 T J t
 |o::r,T,hq,J,t=>by
  have a0:=hq o (by simp)
  have ih:∀{I:Fr Y},AgreeOff (Yf all) T0 I->rgn E N call all r I h i ms k->rgn E N call all r I h i ms k':=λJ t=>Zmb a4 a5 (λo a0=>hq o (cx _ a0)) J t
  have one:∀{I:Fr Y},AgreeOff (Yf all) T0 I->step E call o.op I h i (λa3=>Zjo N o.dst a3 I h i ms k λT h i ms=>rgn E N call all r T h i ms k)->
   step E call o.op I h i (λa3=>Zjo N o.dst a3 I h i ms k' λT2 h2 i2 a7=>rgn E N call all r T2 h2 i2 a7 k'):=by
   intro I J t
   refine Zue ?_ a0.2 t
   intro rd v t
   unfold Zjo at t⊢
   split
   ·rename_i p hp
    rw[show Zc9 (quiet rd v).v=ah p from hp] at t
    exact a5 _ _ t
   rename_i hp
   rw[show Zc9 (quiet rd v).v=aD from hp] at t
   replace t:Zl6 N o.dst (quiet rd v) I h i ms (λT h i ms=>rgn E N call all r T h i ms k):=t
   rw[Zud] at t⊢
   cases R:o.dst with
   |none=>rw[R] at t;exact ih J t
   |some d=>rw[R] at t;exact⟨t.1,ih (J.trans (AgreeOff.upd (Wa a0.1 R))) t.2⟩
  simp only[rgn] at t⊢
  split
  ·rename_i e
   rw[e] at t
   exact one J t
  ·rename_i j b e
   rw[e] at t
   simp only[] at t
   split
   ·rename_i d R
    rw[R] at t
    simp only[] at t
    have hD:=Zz3 R
    have a2:∀v,AgreeOff (Yf all) T0 (upd T d v):=λv=>J.trans (AgreeOff.upd hD)
    split
    ·rename_i l x hx
     rw[hx] at t
     simp only[] at t
     revert t
     refine Zdb λv=> ?_
     have skip:∀v,(match o.dst with|none=>rgn E N call all r (upd T d (.bool af v)) h i ms k|some d'=>rgn E N call all r (upd (upd T d (.bool af v)) d' (.val undef)) h i ms k)->
      (match o.dst with|none=>rgn E N call all r (upd T d (.bool af v)) h i ms k'|some d'=>rgn E N call all r (upd (upd T d (.bool af v)) d' (.val undef)) h i ms k'):=by
      intro v
      cases a1:o.dst with
      |none=>exact ih (a2 _)
      |some d'=>exact ih ((a2 _).trans (AgreeOff.upd (Wa a0.1 a1)))
     cases v<;>cases b<;>first|exact one (a2 _)|exact skip _
    ·rename_i u hx
     rw[hx] at t
     simp only[] at t
     split
     ·rename_i e3
      rw[e3] at t
      exact t
     ·rename_i e3
      rw[e3] at t
      simp only[] at t
      cases a1:o.dst with
      |none=>rw[a1] at t;exact ih J t
      |some d'=>rw[a1] at t;exact ih (J.trans (AgreeOff.upd (Wa a0.1 a1))) t
    ·rename_i hx a6
     split at t
     ·rename_i l x e2
      exact jv e2 (hx l x)
     ·rename_i u e2
      exact jv e2 (a6 u)
     ·exact t
   ·rename_i R
    rw[R] at t
    exact t
theorem Zbq{d:Nat}:∀{ops:List Oper} {l:List Nat},Z3p d ops=ah l->∀o∈ops,Za4 o=af
 | [],l,_,o,j=>by cases j
 |x::r,l,h,o,j=>by
  simp only[Z3p] at h
  split at h
  ·rename_i J t R I
   rcases bE.1 j with rfl|j
   ·simp[Za4,t]
   ·exact Zbq I o j
  ·rename_i J t R I
   rcases bE.1 j with rfl|j
   ·simp[Za4,Zf4,t]
   ·exact Zbq I o j
  ·cases h
theorem Zgk{x:Oper} {r:List Oper} {p:Nat×List Nat} (h:Zjq x r=ah p):∀o∈r,Za4 o=true:=by
 unfold Zjq at h;split at h
 ·split at h
  ·rename_i e;exact Zbq e
  ·cases h
 ·cases h
theorem Zga:∀{ops:List Oper} {g:Bool} {p:Nat×List Nat},Zzk ops g=ah p->∀o∈ops,Za4 o=af
 | [],g,p,h,o,j=>by cases j
 |x::r,g,p,h,o,j=>by
  unfold Zzk at h
  split at h
  ·rename_i I
   have t:Za4 x=true:=by simp[Za4,I]
   rcases bE.1 j with rfl|j
   ·exact t
   ·split at h
    ·rename_i e
     exact Zgk e o j
    ·exact Zga h o j
  ·cases h
theorem Ug{T:Fr Y} {j:Nat}:∀{D:List Nat},Wn D T j=if j∈D then .unk else T j
 | []=>by simp[Wn]
 |d::r=>by
  unfold Wn
  rw[Zf,Ug]
  by_cases h:j=d
  ·simp[h]
  ·simp[h]
theorem Zgb{T:Fr Y} {b:Bool} {j:Nat}:∀{D:List Nat},Zl8 b D T j=if j∈D then .bool af b else T j
 | []=>by simp[Zl8]
 |d::r=>by
  unfold Zl8
  rw[Zf,Zgb]
  by_cases h:j=d
  ·simp[h]
  ·simp[h]
theorem Zhp{T:Fr Y} {b:Bool}:∀{l:List Nat},Zzl T b l->∀d∈l,∃f,T d= .bool f b
 | [],_,d,j=>by cases j
 |x::r,h,d,j=>by
  obtain⟨t,I⟩:=h
  rcases bE.1 j with rfl|j
  ·split at t
   ·rename_i f J e;exact⟨f,by rw[e,t]⟩
   ·exact t.elim
  ·exact Zhp I d j
theorem Z9e{N:Nat} {call:Nat->List (SV Y)->Hp Y->Nat->(Res Y->Prop)->Prop} {ops:List Oper} {T:Fr Y} {h:Hp Y} {i:Nat} {ms:List Nat} {d:Nat} {l:List Nat} {Q:Bool->Prop}
 (hj:Zzk ops ae=ah (d,l)) (hr:rgn E N call ops ops T h i ms (λe T' _ _ _=>match e with| .normal=>Zzm d l Q T'|_=>False)):
 rgn E N call ops ops T h i ms λe T' U i' a1=>e= .normal/\∃b,Q b/\U=h/\i'=i/\a1=ms/\(∀σ g a,FrOk E σ g T' a->FrOk E σ g (Zl8 b (d::l) (Wn (Yf ops) T)) a):=by
 refine Zmb (T0:=T) (k:=λe T' _ _ _=>match e with| .normal=>Zzm d l Q T'|_=>False) (λT' a0 j=> ?_) (λch T' j=>j.elim) (λo R=>⟨R,Zga hj o R⟩) (λ_ _=>rfl) hr
 replace j:Zzm d l Q T':=j
 have key:∃b,Q b/\∀e∈d::l,∃f,T' e= .bool f b:=by
  unfold Zzm at j
  split at j
  ·split at j
   ·rename_i f b e
    exact⟨b,j,λx I=>by rw[List.mem_singleton] at I;subst I;exact⟨f,e⟩⟩
   ·exact j.elim
  ·split at j
   ·rename_i f b e
    refine⟨b,j.2,λx I=> ?_⟩
    rcases bE.1 I with rfl|I
    ·exact⟨f,e⟩
    ·exact Zhp j.1 x I
   ·exact j.elim
 obtain⟨b,hQ,hb⟩:=key
 refine⟨rfl,b,hQ,rfl,rfl,rfl,λσ g a J t=> ?_⟩
 rw[Zgb]
 split
 ·rename_i ht
  obtain⟨f,e⟩:=hb t ht
  have:=J t
  rw[e] at this
  generalize a.eval (.tmp t)=u at this
  cases this
  exact .bool _ _
 ·rw[Ug]
  split
  ·exact .unk _
  ·rename_i hn
   rw[<-a0 t hn]
   exact J t
end
end
section
open Go.RowKit
def Znu(X:Act->World->Prop):Exit->Act->World->Prop
 | .normal,a,w=>X a w
 |_,_,_=>False
theorem Zff{X:Act->World->Prop}:¬LetsOut (Znu X):=λ⟨_,_,h⟩=>h
theorem Zk4{P:Program} {o:Oper} {a:Act} {w:World} {K I:Act->World->Prop} {X:Act->World->Prop} {Q:Exit->Act->World->Prop} (t:∀a w,K a w->I a w) (h:o.wp P a w K (Znu X)):o.wp P a w I Q:=by
 unfold Oper.wp at h⊢;generalize (execOp a.eval o).run P w=r at h;unfold Oper.upon at h⊢;split at h
 ·exact t _ _ h
 ·exact t _ _ h
 ·exact t _ _ h
 ·refine Calls.mono h λe J j=> ?_
  cases e with
  |returned v=>exact t _ _ j
  |panicked c=>exact j.elim
  |outgrown=>exact(Zff j).elim
 ·exact Rows.mono h λv J j=>t _ _ j
 ·exact h.elim
 ·exact h.elim
theorem V7{P:Program} {ops:Array Oper} {X:Act->World->Prop} {Q:Exit->Act->World->Prop} {r:List Oper}:∀{l:List Oper} {a:Act} {w:World},wpList P ops (Znu X) l a w->(∀a w,X a w->wpList P ops Q r a w)->wpList P ops Q (l++r) a w
 | [],a,w,h,j=>j a w h
 |o::l,a,w,h,j=>by
  simp only[wpList,List.cons_append] at h⊢
  split at h
  ·rename_i t
   rw[jh t]
   rcases h with h|h
   ·exact .inl (Zk4 (λa w h=>V7 h j) h)
   ·exact(Zff h.2).elim
  ·rename_i t
   rw[jb t]
   exact V7 h j
theorem Vf{P:Program} {ops:Array Oper} {X:Act->World->Prop} {Q:Exit->Act->List Frame->World->Prop} {cs:List Frame} (R:∀a w,X a w->Q .normal a cs w):∀{l:List Oper} {k:Nat} {a:Act} {w:World},(∀j,l[j]? =ops[k+j]?)->wpList P ops (Znu X) l a w->wpOpsS P ops Q (ir k l.length) a cs w
 | [],k,a,w,_,h=>R a w h
 |o::l,k,a,w,a0,h=>by
  have h0:ops[k]? =ah o:=by simpa using(a0 0).symm
  have a1:∀j,l[j]? =ops[k+1+j]? :=λj=>by have:=a0 (j+1);simpa[dE,kK 1 j] using this
  simp only[List.length_cons,fN,wpOpsS,h0]
  simp only[wpList] at h
  split at h
  ·rename_i J
   rw[jh J]
   rcases h with h|h
   ·have t:o.wp P a w (λI U=>wpOpsS P ops Q (ir (k+1) l.length) I cs U) (λe I U=>Q e I cs U):=Zk4 (λa w h=>Vf R a1 h) h
    unfold Oper.wp at t
    split
    ·rename_i hr
     rw[hr] at t
     exact t.elim
    ·exact t
   ·exact(Zff h.2).elim
  ·rename_i J
   rw[jb J]
   exact Vf R a1 h
theorem Zg6:∀{ops l:List Oper} {o:Oper},Zf3 ops=ah (l,o)->ops=l++ [o]/\(∃c,o.op= .defer c)/\o.guard=aD/\o.dst=aD
 | [],l,o,h=>by cases h
 |x::r,l,o,h=>by
  unfold Zf3 at h
  split at h
  ·split at h
   ·cases h;rename_i j t I;exact⟨rfl,⟨_,j⟩,t,I⟩
   ·cases h
  ·split at h
   ·rename_i R d J
    cases h
    obtain⟨j,t⟩:=Zg6 J
    exact⟨by rw[j];rfl,t⟩
   ·cases h
theorem Z2m{o:Oper} (h:Z3o o=af):(∃I,o.op= .call ⟨.builtin .recover,#[],I⟩)/\o.guard=none:=by
 unfold Z3o at h;split at h
 ·rename_i j t;exact⟨⟨_,j⟩,t⟩
 ·cases h
theorem Zbe{o:Oper} (h:o.guard=aD) (y:Nat->Option Bool):Region.wanted o y=true:=by
 unfold Region.wanted;rw[h]
end
section
open Go.RowKit
section
variable {Y:Thy} {E:Eng Y} {F:Fns Y}
def CodeTri(E:Eng Y) (N:Nat) (c:Code) (T:Fr Y) (h:Hp Y) (i:Nat) (e:Exit) (J:Fr Y) (R:Hp Y) (t:Nat) (U:List Nat):Prop:=
 ∀(B:Nat) (σ:Pl) (g:GH) (w:World) (a:Act) (Q:Exit->Act->World->Prop),Inv E B σ h g w->B<=w.heap.size->(∀b,i<=b->b<t->σ b=aD)->FrOk E σ g T a->a.tmps.size=N->
  (∀j I,Aft E B N i t U σ g w a.defers J R j I->Q e j I)->c.wp E.P Q a w
def VcOk(E:Eng Y) (N:Nat) (c:Code) (V:Fr Y->Hp Y->Nat->List Nat->Kont Y->Prop):Prop:=
 ∀T h i ms K,DomLt h i->V T h i ms K->∃e J t j I,K e J t j I/\i<=j/\Dom h i t j/\(∃m,I=m++ms/\Yr h i j m)/\CodeTri E N c T h i e J t j I
def LoopOk(E:Eng Y) (L:(Fr Y->Hp Y->Nat->List Nat->Kont Y->Prop)->Fr Y->Hp Y->Nat->List Nat->Kont Y->Prop):Prop:=
 ∀N b V,VcOk E N b V->VcOk E N (.loop b) (L V)
def FnGood(P:Program) (f:FuncId):Prop:=∃fn,P.funcs[f]? =ah fn/\fn.body.isSome=af/\(fn.name== "runtime.NumGoroutine")=ae
structure FnsOk(E:Eng Y) (F:Fns Y):Prop where
 sumG:∀f S,F.sums f=ah S->FnGood E.P f
 fnG:∀f fn,F.fns f=ah fn->FnGood E.P f
 sum:∀f S,F.sums f=ah S->∀args h i k,DomLt h i->S args h i k->∃r,k r/\ROk h r/\CallTri2 E f args h i r
 fn:∀f fn,F.fns f=ah fn->E.P.funcs[f]? =ah fn
 loop:∀f j L,F.loops f j=ah L->LoopOk E L
theorem Aft.trans{B N i j i2:Nat} {m1 m2:List Nat} {σ:Pl} {g:GH} {w:World} {df:List Deferred} {T1:Fr Y} {h1:Hp Y} {a1:Act} {R:World} (h:Aft E B N i j m1 σ g w df T1 h1 a1 R) (hi:i<=j) (a4:j<=i2) (hB:B<=w.heap.size) (a3:∀b,i<=b->b<i2->σ b=aD) (hm:∃m,m2=m++m1):
 ∃t I,Inv E B t h1 I R/\B<=R.heap.size/\(∀b,j<=b->b<i2->t b=aD)/\FrOk E t I T1 a1/\
  ∀U h2 a2 w2,Aft E B N j i2 m2 t I R a1.defers U h2 a2 w2->Aft E B N i i2 m2 σ g w df U h2 a2 w2:=by
 obtain⟨hd,hs,t,I,hS,hI,hF⟩:=h
 refine⟨t,I,hI,bY hB hS.size,?_,hF,?_⟩
 ·intro b b1 b2
  cases hq:t b with
  |none=>rfl
  |some p=>
   rcases hS.snew b p hq with J|J
   ·rw[a3 b (by omega) b2] at J;cases J
   ·omega
 ·rintro U h2 a2 w2 ⟨k1,k2,a0,g2,k3,k4,k5⟩
  obtain⟨m,rfl⟩:=hm
  refine⟨k1.trans hd,k2,a0,g2,?_,k4,k5⟩
  have J:Stp (i+(j-i)) (i2-j) (m++m1) t I R a0 g2 w2:=by rw[show i+(j-i)=j by omega];exact k3
  have:=hS.trans J
  rw[show j-i+(i2-j)=i2-i by omega] at this
  exact this.weaken (by intro b;simp only[dJ];rintro((h|h)|h)<;>simp[h])
def Zkg(j:Array Value):ResultVar->Sem Value
 | .tmp t=>pure (j.getD t undef)
 | .cell b t=>do loadVar t (<-asAddr (j.getD b undef))
theorem Zsi(fn:Func) (j:Array Value):results fn j=(do
 let vs<-fn.results.mapM (Zkg j)
 pure (if h:vs.size=1 then vs[0] else .tuple vs)):=by
 unfold results
 congr 1
def Zkh(E:Eng Y) (T:Fr Y) (h:Hp Y) (rs:List ResultVar):Prop:=
 ∀a t n el sz j z b off th l I,ResultVar.cell a t∈rs->E.ty t=ah ⟨.array n el,sz,j,z⟩->T a= .ptr b off->h b=ah (.rows th l I)->l.length=n
theorem Zcz{T:Fr Y} {h:Hp Y}:∀{rs:List ResultVar} {p:Prop},resN E T h rs p->Zkh E T h rs/\p
 | [],p,j=>⟨λ_ _ _ _ _ _ _ _ _ _ _ _ hm=>by simp at hm,j⟩
 | .tmp _::rs,p,j=>by
  obtain⟨I,J⟩:=Zcz (rs:=rs) j
  refine⟨λa t n el sz R z b off th l a0 hm=> ?_,J⟩
  rcases bE.1 hm with e|e
  ·cases e
  ·exact I a t n el sz R z b off th l a0 e
 | .cell a t::rs,p,j=>by
  have key:Zkh E T h rs/\p/\∀n el sz R z b off th l a0,E.ty t=ah ⟨.array n el,sz,R,z⟩->T a= .ptr b off->h b=ah (.rows th l a0)->l.length=n:=by
   unfold resN at j
   split at j
   ·rename_i n el sz R z b off ht hT
    split at j
    ·rename_i th l a0 hb
     obtain⟨I,J⟩:=Zcz (rs:=rs) j.2
     refine⟨I,J,λn' a3 a6 a2 z' b' a5 a7 l' a4 e1 U e3=> ?_⟩
     rw[ht] at e1;cases e1
     rw[hT] at U;cases U
     rw[hb] at e3;cases e3
     exact j.1
    ·rename_i a1
     obtain⟨I,J⟩:=Zcz (rs:=rs) j
     refine⟨I,J,λn' a3 a6 a2 z' b' a5 a7 l' a4 e1 U e3=> ?_⟩
     rw[hT] at U;cases U
     exact(a1 _ _ _ e3).elim
   ·rename_i a1
    obtain⟨I,J⟩:=Zcz (rs:=rs) j
    exact⟨I,J,λn' a3 a6 a2 z' b' a5 a7 l' a4 e1 U e3=>(a1 _ _ _ _ _ _ _ e1 U).elim⟩
  obtain⟨I,J,h3⟩:=key
  refine⟨λa' t' n el sz R z b off th l a0 hm=> ?_,J⟩
  rcases bE.1 hm with e|e
  ·cases e;exact h3 n el sz R z b off th l a0
  ·exact I a' t' n el sz R z b off th l a0 e
theorem Zki(hE:EngOk E) {σ:Pl} {g:GH} {B:Nat} {T:Fr Y} {h:Hp Y} {w:World} {a:Act} (hI:Inv E B σ h g w) (hF:FrOk E σ g T a) {rv:ResultVar} {v:SV Y} {rs:List ResultVar} (b4:Zkh E T h rs) (b0:rv∈rs) (I:Zjp E T h rv=ah v):
 ∃u,(Zkg a.tmps rv).run E.P w= .ok u w/\Den E σ g v u:=by
 cases rv with
 |tmp t=>
  obtain rfl:=aU I
  exact⟨a.tmps.getD t undef,by simp[Zkg,go_sem],hF t⟩
 |cell b t=>
  simp only[Zjp] at I
  split at I
  ·rename_i ti b' off ht hb
   split at I
   ·rename_i cs fz tg hh
    have J:=hF b
    rw[hb] at J
    generalize hv:a.eval (.tmp b)=v1 at J
    cases J
    rename_i r z a8
    have a7:a.tmps.getD b undef= .pointer (ah ⟨r,off,aD⟩):=hv
    obtain⟨r',z',a1,a3⟩:=hI.blk _ _ hh
    rw[a8] at a1;cases a1
    obtain⟨u,a5,a6⟩:=Wb (by intro es e;cases e) a3
    have:=Wh I u a6
    have U:=Y8 hE ht w r off u (λj R=>a5 _ (by
     cases a0:Zu ti.d with
     |true=>rw[a0] at this R;have:=this.1;show _<cs.length;simp at R;omega
     |false=>rw[a0] at this R;have:=this.1;show _<cs.length;simp at R;omega))
    have b3:(Zkg a.tmps (.cell b t)).run E.P w= .ok (match Zu ti.d with|true=> .agg ((cy ti.size).map λj=>u (off+j)).toArray|false=>u off) w:=by
     simp only[Zkg];rw[a7];simp only[asAddr,aL,aR,aH,U]
     rfl
    refine⟨_,b3,?_⟩
    cases a0:Zu ti.d with
    |true=>rw[a0] at this;exact this.2
    |false=>rw[a0] at this;exact this.2
   ·rename_i th l fz hh
    unfold Zzj at I
    split at I
    ·rename_i n el sz a9 z
     split at I
     ·rename_i te b7
      split at I
      ·rename_i d0 b6 a2
       have a2:=aG a2
       have U:=b4 b t n el sz a9 z b' 0 th l fz b0 ht hb hh
       rw[Zbb E th l d0 n 0 (by rw[U,bX])] at I
       cases I
       have J:=hF b
       rw[hb] at J
       generalize hv:a.eval (.tmp b)=v1 at J
       cases J
       rename_i r z' a8
       have a7:a.tmps.getD b undef= .pointer (ah ⟨r,0,aD⟩):=hv
       obtain⟨r',b8,a1,a3⟩:=hI.blk _ _ hh
       rw[a8] at a1;cases a1
       obtain⟨u,a5,a6⟩:=Wb (by intro es e;cases e) a3
       have a4:=Z3 hE th l
       have I:Vt af sz 0 (l.flatMap (E.enc th))=ah (.agg (l.flatMap (E.enc th))):=by
        have h0:0+sz<=(l.flatMap (E.enc th)).length:=by rw[a4,U,a2,bX];exact aE _
        simp only[Vt,h0,jP,eO]
        rw[aN (by rw[a4,U,a2];exact aE _)]
        first|rfl|simp
       have:=Wh I u a6
       have b5:=Y8 hE ht w r 0 u (λj R=>a5 _ (by simp[Zu] at R;show 0+j<_;simp only[cU];rw[a4,U];omega))
       refine⟨_,?_,this.2⟩
       simp only[Zkg];rw[a7];simp only[asAddr,aL,aR,aH,b5]
       rfl
      ·cases I
     ·cases I
    ·cases I
   ·cases I
  ·cases I
theorem Zia(hE:EngOk E) {σ:Pl} {g:GH} {B:Nat} {T:Fr Y} {h:Hp Y} {w:World} {a:Act} (hI:Inv E B σ h g w) (hF:FrOk E σ g T a) {a1:List ResultVar} (a2:Zkh E T h a1):∀{rs:List ResultVar} {vs:List (SV Y)},(∀r∈rs,r∈a1)->W8 E T h rs=ah vs->
 ∃us:List Value,(rs.mapM (Zkg a.tmps)).run E.P w= .ok us w/\DenL E σ g vs us:=by
 intro rs
 induction rs with
 |nil=>intro vs _ h;simp[W8] at h;subst h;exact⟨[],by simp[go_sem],rfl,λj sv v I=>by simp at I⟩
 |cons r rs ih=>
  intro vs a0 t
  simp only[W8] at t
  split at t
  ·rename_i v a4 I h2
   obtain rfl:=aU t
   obtain⟨u,hu,hd⟩:=Zki hE hI hF a2 (a0 r (by simp)) I
   obtain⟨us,a3,U⟩:=ih (λr' h=>a0 r' (by simp[h])) h2
   refine⟨u::us,?_,by simp[U.1],?_⟩
   ·rw[List.mapM_cons]
    simp only[aL,hu,aH,a3,aR]
   ·intro j sv v J R
    cases j with
    |zero=>simp at J R;subst J;subst R;exact hd
    |succ j=>exact U.2 j sv v (by simpa using J) (by simpa using R)
  ·cases t
theorem Ze6(a0:EngOk E) {σ:Pl} {g:GH} {B:Nat} {T:Fr Y} {h:Hp Y} {w:World} {a:Act} (hI:Inv E B σ h g w) (hF:FrOk E σ g T a) {fn:Func} {vs:List (SV Y)} (a1:Zkh E T h fn.results.toList) (hr:W8 E T h fn.results.toList=ah vs):
 ∃u,(results fn a.tmps).run E.P w= .ok u w/\Den E σ g (Zaq vs) u:=by
 obtain⟨t,a2,I⟩:=Zia a0 hI hF a1 (λ_ h=>h) hr
 have hm:(fn.results.mapM (Zkg a.tmps)).run E.P w= .ok t.toArray w:=by
  rw[Array.mapM_eq_mapM_toList,Sem.run_map,a2];rfl
 refine⟨if h:t.toArray.size=1 then t.toArray[0] else .tuple t.toArray,?_,?_⟩
 ·rw[Zsi,aL,hm];rfl
 ·by_cases J:∃v,vs= [v]
  ·obtain⟨v,rfl⟩:=J
   obtain⟨u,rfl⟩:∃u,t= [u]:=by
    have:=I.1
    match t,this with
    | [u],_=>exact⟨u,rfl⟩
   exact I.2 0 v u rfl rfl
  ·have hl:t.length≠1:=by
    intro e
    have:=I.1
    match vs,e▸this with
    | [v],_=>exact J ⟨v,rfl⟩
   have ho:Zaq vs= .tup vs:=by
    match vs,J with
    | [],_=>rfl
    | [v],J=>exact jv ⟨v,rfl⟩ J
    |_::_::_,_=>rfl
   rw[ho,dif_neg (by simpa using hl)]
   refine .tup (λj=>t.getD j undef) (by simp[I.1]) (λj R=> ?_) (λj sv R=> ?_)
   ·have:j<t.length:=by rw[<-I.1];exact R
    simp[this]
   ·have U:j<t.length:=by rw[<-I.1];exact(ar.1 R).1
    rw[aI,aq U]
    exact I.2 j sv _ R (aq U)
theorem Zp2:∀(l:List (SV Y)) (t:Nat),nthD l t=(l[t]?).getD .unk
 | [],t=>by cases t<;>rfl
 |x::r,0=>rfl
 |x::r,t+1=>by simpa[nthD] using Zp2 r t
theorem Zdi{i b:Nat}:∀{l:List Nat},b∈l->b<i->b∈Ya i l
 | [],h,_=>by simp at h
 |x::l,h,j=>by
  simp only[Ya]
  have ih:b∈l->b∈Ya i l:=λh=>Zdi h j
  split
  ·rcases bE.1 h with rfl|h
   ·simp
   ·exact cx _ (ih h)
  ·rename_i e
   rcases bE.1 h with rfl|h
   ·have t:aZ b i=true:=by rw[aZ,bx];exact j
    rw[t,cm,Bool.not_eq_false',memB_iff] at e
    exact e
   ·exact ih h
theorem Xp{i b:Nat}:∀{l:List Nat},b∈Ya i l->b∈l/\b<i
 | [],h=>by simp[Ya] at h
 |x::l,h=>by
  simp only[Ya] at h
  split at h
  ·rename_i e
   rw[az] at e
   rcases bE.1 h with rfl|h
   ·exact⟨by simp,Yi e.1⟩
   ·have:=Xp h;exact⟨by simp[this.1],this.2⟩
  ·have:=Xp h;exact⟨by simp[this.1],this.2⟩
theorem Yl{i:Nat}:∀{cs:List (SV Y)},nidL i cs=af->∀{j:Nat} {sv:SV Y},cs[j]? =ah sv->nid i sv=af
 | [],_,j,sv,h=>by simp at h
 |x::r,t,j,sv,h=>by
  simp only[nidL,az] at t
  cases j with
  |zero=>simp at h;subst h;exact t.1
  |succ j=>exact Yl t.2 (by simpa using h)
theorem Zib{i:Nat}:∀{J:List (Value×SV Y)},nidE i J=af->∀{j:Nat} {I:Value} {sv:SV Y},J[j]? =ah (I,sv)->nid i sv=af
 | [],_,j,I,sv,h=>by simp at h
 |(R,x)::r,t,j,I,sv,h=>by
  simp only[nidE,az] at t
  cases j with
  |zero=>simp at h;obtain⟨_,rfl⟩:=h;exact t.1
  |succ j=>exact Zib t.2 (by simpa using h)
theorem Xt(hE:EngOk E) {σ σ':Pl} {g:GH} {i:Nat} {sv:SV Y} {v:Value} (h:Den E σ g sv v) (R:∀b p,b<i->σ b=ah p->σ' b=ah p):nid i sv=af->Den E σ' g sv v:=by
 induction h with
 |unk v=>exactλ_=> .unk v
 |val v=>exactλ_=> .val v
 |int l k n=>exactλ_=> .int l k n
 |bool l b=>exactλ_=> .bool l b
 |str l h=>exactλ_=> .str l h
 |ptr h=>exactλt=> .ptr (R _ _ (Yi t) h)
 |eptr h=>exactλt=> .eptr (R _ _ (Yi t) h)
 |pptr c J _ ih=>exactλ_=> .pptr c J λj sv I=>ih j sv I (Yl (hE.encI _ _ _) I)
 |sl h hz U a0 J=>exactλt=> .sl (R _ _ (Yi t) h) hz U a0 J
 |psl cv U a0 hf t hb _ ih=>exactλ_=> .psl cv U a0 hf t hb λq x hq j sv I=>ih q x hq j sv I (Yl (hE.encI _ _ _) I)
 |agg c a1 J _ ih=>exactλt=> .agg c a1 J λj sv I=>ih j sv I (Yl t I)
 |tup c a1 J _ ih=>exactλt=> .tup c a1 J λj sv I=>ih j sv I (Yl t I)
 |fn ca cb a5 a2 _ a6 a3 _ a7 a8=>
  intro t;simp only[nid,az] at t;exact .fn ca cb a5 a2 (λj sv I=>a7 j sv I (Yl t.1 I)) a6 a3 λj sv I=>a8 j sv I (Yl t.2 I)
 |map h=>exactλt=> .map (R _ _ (Yi t) h)
 |pmap c q ho hq t h1 h2 _ ih=>exactλa4=> .pmap c q ho hq t h1 h2 λj k sv I=>ih j k sv I (Zib a4 I)
 |iface _ ih=>exactλt=> .iface (ih t)
theorem Z6h(hE:EngOk E) {σ σ':Pl} {g:GH} {w:World} {i r z:Nat} {b:Blk Y} (h:BlkOk E σ g w r z b) (hs:∀b p,b<i->σ b=ah p->σ' b=ah p) (hn:nidB i (ah b)=af):BlkOk E σ' g w r z b:=by
 cases b with
 |map es=>
  obtain⟨ents,c,I,J,R⟩:=h;exact⟨ents,c,I,J,λj k sv t=>let⟨v,bo,U,a0⟩:=R j k sv t;⟨v,bo,U,Xt hE a0 hs (Zib hn t)⟩⟩
 |raw cs fz tg=>
  obtain⟨arr,e,I,J,R,U,h0⟩:=h;exact⟨arr,e,I,J,R,λj sv t=>let⟨v,a0,h6⟩:=U j sv t;⟨v,a0,Xt hE h6 hs (Yl hn t)⟩,h0⟩
 |rows th l fz=>
  obtain⟨arr,e,I,J,R,U,h0⟩:=h
  exact⟨arr,e,I,J,R,λj sv t=>let⟨v,a0,h6⟩:=U j sv t;⟨v,a0,Xt hE h6 hs (by
   obtain⟨q,p,x,_,_,_,hs⟩:=Xo hE th l t
   exact Yl (hE.encI _ _ _) hs)⟩,h0⟩
theorem Zp3(h:Hp Y) (m:List Nat) (b:Nat):Zt2 h m b=if b∈m then h b else none:=by
 unfold Zt2;by_cases c:b∈m
 ·rw[jh c];have:=memB_iff.2 c;rw[this]
 ·rw[jb c]
  have:memB b m=false:=by rw[<-bv,memB_iff];exact c
  rw[this]
theorem Stp.filter{h:Hp Y} {i R:Nat} {m:List Nat} {σ a0:Pl} {g g1:GH} {w w1:World} (j:Stp i (R-i) m σ g w a0 g1 w1) (hD:DomLt h i) (hM:Yr h i R m) (a1:∀b,i<=b->b<R->σ b=aD):Stp i (R-i) (Ya i m) σ g w a0 g1 w1:=by
 have key:∀b∈m,∀p,σ b=ah p->b∈Ya i m:=by
  intro b J p hp;by_cases e:b<i
  ·exact Zdi J e
  ·rcases hM b J with t|t
   ·exact jv (hD b t) e
   ·rw[a1 b t.1 t.2] at hp;cases hp
 exact⟨j.sig,j.snew,j.gle,λr o v hv=>(j.gcnew r o v hv).imp id (Or.imp id λ⟨b,t,z,I⟩=>⟨b,key b t _ I,z,I⟩),j.gmnew,
  λr hr hx=>j.heap r hr λb J z hz=>hx b (key b J _ hz) z hz,j.size,j.os,j.tape,j.output,λb r z t I=>(j.blk b r z t I).imp id λ⟨U,t,z',I⟩=>⟨U,key U t _ I,z',I⟩⟩
theorem DenL.append{σ:Pl} {g:GH} {a b:List (SV Y)} {J R:List Value} (h:DenL E σ g a J) (k:DenL E σ g b R):DenL E σ g (a++b) (J++R):=by
 refine⟨by simp[h.1,k.1],λj sv v t I=> ?_⟩;have U:=h.1;by_cases e:j<a.length
 ·rw[cf e] at t
  rw[cf (by omega)] at I;exact h.2 j sv v t I
 ·rw[ct (by omega)] at t
  rw[ct (by omega),<-U] at I;exact k.2 _ sv v t I
end
end
section
open Go.RowKit
section
variable {Y:Thy} {E:Eng Y} {F:Fns Y}
def Ybb(E:Eng Y) (fn:Func) (h:Hp Y) (i:Nat) (J:Nat) (m:List Nat) (R:Fr Y) (U:Hp Y) (r:Res Y):Prop:=
 ∀(B:Nat) (σ:Pl) (g:GH) (w:World) (σ':Pl) (j:GH) (I:Act) (t:World),Inv E B σ h g w->(∀b,i<=b->b<J->σ b=aD)->Stp i (J-i) m σ g w σ' j t->Inv E B σ' U j t->FrOk E σ' j R I->
  ∃u,(results fn I.tmps).run E.P t= .ok u t/\Stp i r.n r.mods σ g w σ' j t/\Inv E B σ' (patch h i r) j t/\Den E σ' j r.v u
theorem Zfr(hE:EngOk E) {fn:Func} {h:Hp Y} {i I:Nat} {m:List Nat} {T':Fr Y} {j:Hp Y} {k:Res Y->Prop} (hD:DomLt h i) (hM:Yr h i I m) (t:finF E fn i k T' j I m):
 ∃r,k r/\ROk h r/\r.n=I-i/\r.rd=aD/\Ybb E fn h i I m T' j r:=by
 unfold finF at t
 obtain⟨a6,t⟩:=Zcz t
 split at t
 ·rename_i vs a7
  rw[Wx,Xe,Xe,Xl] at t
  refine⟨_,t,?_,rfl,rfl,?_⟩
  ·intro b hb
   obtain⟨a0,a3⟩:=Xp hb
   rcases hM b a0 with J|J
   ·exact J
   ·omega
  ·intro B σ g w σ' g' a' w' hI a1 h3 h4 h5
   obtain⟨u,hu,a4⟩:=Ze6 hE h4 h5 a6 a7
   have a2:Stp i (I-i) (Ya i m) σ g w σ' g' w':=h3.filter hD hM a1
   have a5:Inv E B σ' (patch h i ⟨Zaq vs,I-i,Ya i m,j,aD⟩) g' w':=
    Zfk hI h4 a2 (λb hb=>by
     obtain⟨a0,a3⟩:=Xp hb
     rcases hM b a0 with J|J
     ·exact J
     ·omega) (λb h1 h2=>a1 b h1 (by omega)) (r:=⟨Zaq vs,I-i,Ya i m,j,aD⟩) rfl rfl rfl
   refine⟨u,hu,a2,Zne a5 λb x R=> ?_,a4⟩
   rw[Z6] at R⊢
   split at R
   ·have U:Zt2 j (Ztw j i 100000 (idsL vs++idsM j (Ya i m)) (Ya i m)) b=ah x:=R
    rw[Zp3] at U
    split at U
    ·rw[jh (by assumption)];exact U
    ·cases U
   ·rw[jb (by assumption)];exact R
 ·exact t.elim
theorem Zyy(hE:EngOk E) {h:Hp Y} {i j:Nat} {m:List Nat} {u:Value} {I:Hp Y} {k:Res Y->Prop} (hD:DomLt h i) (hM:Yr h i j m) (hK:finP i k u I j m):
 ∃r,k r/\ROk h r/\r.n=j-i/\r.v= .pan u/\∀(B:Nat) (σ:Pl) (g:GH) (w:World) (σ':Pl) (t:GH) (w':World),Inv E B σ h g w->(∀b,i<=b->b<j->σ b=aD)->Stp i (j-i) m σ g w σ' t w'->Inv E B σ' I t w'->
  Stp i r.n r.mods σ g w σ' t w'/\Inv E B σ' (patch h i r) t w':=by
 unfold finP at hK
 rw[Xe,Xe,Xl] at hK
 refine⟨_,hK,?_,rfl,rfl,?_⟩
 ·intro b hb
  obtain⟨a0,a3⟩:=Xp hb
  rcases hM b a0 with J|J
  ·exact J
  ·omega
 ·intro B σ g w σ' t w' hI a1 h3 h4
  have a2:Stp i (j-i) (Ya i m) σ g w σ' t w':=h3.filter hD hM a1
  have a4:Inv E B σ' (patch h i ⟨.pan u,j-i,Ya i m,I,aD⟩) t w':=
   Zfk hI h4 a2 (λb hb=>by
    obtain⟨a0,a3⟩:=Xp hb
    rcases hM b a0 with J|J
    ·exact J
    ·omega) (λb h1 h2=>a1 b h1 (by omega)) (r:=⟨.pan u,j-i,Ya i m,I,aD⟩) rfl rfl rfl
  refine⟨a2,Zne a4 λb x R=> ?_⟩
  rw[Z6] at R⊢
  split at R
  ·have U:Zt2 I (Ztw I i 100000 (idsM I (Ya i m)) (Ya i m)) b=ah x:=R
   rw[Zp3] at U
   split at U
   ·rw[jh (by assumption)];exact U
   ·cases U
  ·rw[jb (by assumption)];exact R
theorem Zq3{j:List PanicEntry} {u:Value} (h:Zt3 j=ah u):j= [{v:=u,recovered:=false}]:=by
 unfold Zt3 at h;split at h
 ·cases h;rfl
 ·cases h
theorem Xu{σ:Pl} {g:GH} {args:List (SV Y)} {vals:Array Value} {N:Nat} {I:List Deferred} (j:DenL E σ g args vals.toList) (R:args.length<=N):FrOk E σ g (nthD args) {tmps:=vals++dg (N-vals.size) undef,defers:=I}:=by
 have J:vals.size=args.length:=by rw[j.1];simp
 intro t;rw[Zp2];show Den E σ g _ ((vals++dg (N-vals.size) undef).getD t undef);rw[aY];by_cases ht:t<args.length
 ·rw[aq ht,fy (by omega)]
  have:=j.2 t args[t] vals[t] (aq ht) (by simp[J▸ht]);rw[cO (by omega)];exact this
 ·rw[List.getElem?_eq_none (by omega)]
  exact .unk _
theorem Xv{args:List (SV Y)} {σ:Pl} {g:GH} {vals:Array Value} {N:Nat} (j:DenL E σ g args vals.toList) (t:args.length<=N):(vals++dg (N-vals.size) undef).size=N:=by
 have I:vals.size=args.length:=by rw[j.1];simp
 simp;omega
theorem Zyz(hE:EngOk E) (hF:FnsOk E F) {a6:Nat->Nat->Code->Fr Y->Hp Y->Nat->List Nat->Kont Y->Prop} (b0:∀f N c,VcOk E N c (a6 f N c)):Zcf E (U6 E F a6):=by
 intro f args h i k hD j;unfold U6 at j;split at j
 ·rename_i S hS
  rw[Wx] at j;exact hF.sum f S hS args h i k hD j
 ·split at j
  ·rename_i fn a4
   split at j
   ·rename_i c hc
    split at j
    ·exact j.elim
    ·rename_i a1
     rw[bx] at a1;rw[Wx] at j;obtain⟨e,T',h',i',b4,t,hi,b3,⟨m,rfl,hM⟩,a5⟩:=b0 f fn.ntmps c _ _ _ _ _ hD j;have a3:(e= .normal\/e= .ret)->finF E fn i k T' h' i' (m++ [])->∃r,k r/\ROk h r/\CallTri2 E f args h i r:=by
      intro he t;obtain⟨r,j,hR,hn,a9,ft⟩:=Zfr hE hD (by simpa using hM) t;refine⟨r,j,hR,.inl λB σ g w vals hh a8 R hB a2 U=> ?_⟩;obtain rfl:hh=h:=funext λb=>a8 b (by unfold Rd;rw[a9];trivial);have a0:∀b,i<=b->b<i'->σ b=none:=λb I h2=>a2 b I (by omega);refine calls_of_wp (hF.fn f fn a4) hc ?_;refine a5 B σ g w _ _ R hB a0 (Xu U a1) (Xv U a1) ?_;rintro a' w' ⟨I,h2,σ',J,h3,h4,h5⟩;obtain⟨u,hu,q1,q2,q3⟩:=ft B σ g w σ' J a' w' R a0 h3 h4 h5;rcases he with rfl|rfl
      ·exact bodyPost_end hu I ⟨u,rfl,σ',J,q1,q2,q3⟩
      ·exact bodyPost_ret hu I ⟨u,rfl,σ',J,q1,q2,q3⟩
     split at t
     ·exact a3 (.inl rfl) t
     ·exact a3 (.inr rfl) t
     ·split at t
      ·rename_i ch u a7
       obtain rfl:=Zq3 a7;obtain⟨r,j,hR,hn,hv,ft⟩:=Zyy hE hD (by simpa using hM) t;refine⟨r,j,hR,.inr ⟨u,hv,λB σ g w vals R hB a2 U=> ?_⟩⟩;have a0:∀b,i<=b->b<i'->σ b=none:=λb I h2=>a2 b I (by omega);refine calls_of_wp (hF.fn f fn a4) hc ?_;refine a5 B σ g w _ _ R hB a0 (Xu U a1) (Xv U a1) ?_;rintro a' w' ⟨I,h2,σ',J,h3,h4,h5⟩;obtain⟨q1,q2⟩:=ft B σ g w σ' J w' R a0 h3 h4;exact⟨I,rfl,σ',J,q1,q2⟩
      ·exact t.elim
     ·exact t.elim
   ·exact j.elim
  ·exact j.elim
def DlOk(E:Eng Y) (σ:Pl) (g:GH):List (Dfr Y)->List Deferred->Prop
 | [],l=>l= []
 |p::t,l=>∃cap j r,l={target:= .fn (.func p.1) cap,args:=j}::r/\DenL E σ g p.2 (j++cap).toList/\DlOk E σ g t r
theorem DlOk.mono{σ σ':Pl} {g I:GH} (U:Pl.le σ σ') (R:g.le I):∀{dl:List (Dfr Y)} {l:List Deferred},DlOk E σ g dl l->DlOk E σ' I dl l
 | [],l,h=>h
 |p::ds,l,⟨cap,a0,r,h1,J,t⟩=>⟨cap,a0,r,h1,⟨J.1,λj sv v t h4=>(J.2 j sv v t h4).mono U R⟩,t.mono U R⟩
structure AftD(E:Eng Y) (B N i i':Nat) (ms:List Nat) (σ:Pl) (g:GH) (w:World) (dl:List (Dfr Y)) (T':Fr Y) (h':Hp Y) (a':Act) (w':World):Prop where
 sz:a'.tmps.size=N
 ex:∃σ' g',Stp i (i'-i) ms σ g w σ' g' w'/\Inv E B σ' h' g' w'/\FrOk E σ' g' T' a'/\DlOk E σ' g' dl a'.defers
def DefTri(E:Eng Y) (N:Nat) (c:Code) (R:List (Dfr Y)) (T:Fr Y) (h:Hp Y) (i:Nat) (e:Exit) (dl:List (Dfr Y)) (J:Fr Y) (U:Hp Y) (t:Nat) (a0:List Nat):Prop:=
 ∀(B:Nat) (σ:Pl) (g:GH) (w:World) (a:Act) (Q:Exit->Act->World->Prop),Inv E B σ h g w->B<=w.heap.size->(∀b,i<=b->b<t->σ b=aD)->FrOk E σ g T a->a.tmps.size=N->DlOk E σ g R a.defers->
  (∀j I,AftD E B N i t a0 σ g w dl J U j I->Q e j I)->c.wp E.P Q a w
def RoundsD(E:Eng Y) (N:Nat) (c:Code) (R:List (Dfr Y)) (T:Fr Y) (h:Hp Y) (i:Nat) (e:Exit) (dl:List (Dfr Y)) (J:Fr Y) (U:Hp Y) (t:Nat) (a0:List Nat):Prop:=
 ∃n,∀(B:Nat) (σ:Pl) (g:GH) (w:World) (a:Act) (Q:Exit->Act->World->Prop),Inv E B σ h g w->B<=w.heap.size->(∀b,i<=b->b<t->σ b=aD)->FrOk E σ g T a->a.tmps.size=N->DlOk E σ g R a.defers->
  (∀j I,AftD E B N i t a0 σ g w dl J U j I->Q e j I)->Code.rounds E.P c Q n a w
theorem Zal{i j i2:Nat} {m1 J:List Nat} {σ U a0:Pl} {g t I:GH} {w R w2:World} (hi:i<=j) (a1:j<=i2) (h:Stp i (j-i) m1 σ g w U t R) (k:Stp j (i2-j) J U t R a0 I w2):Stp i (i2-i) (J++m1) σ g w a0 I w2:=by
 have k':Stp (i+(j-i)) (i2-j) J U t R a0 I w2:=by rw[show i+(j-i)=j by omega];exact k
 have:=h.trans k'
 rwa[show j-i+(i2-j)=i2-i by omega] at this
theorem X3{i n i2:Nat} {m:List Nat} {σ t:Pl} {g I:GH} {w U:World} (h:Stp i n m σ g w t I U) (J:∀b,i<=b->b<i2->σ b=aD):∀b,i+n<=b->b<i2->t b=none:=by
 intro b b1 b2;cases R:t b with
 |none=>rfl
 |some p=>
  rcases h.snew b p R with j|j
  ·rw[J b (by omega) b2] at j;cases j
  ·omega
theorem Zjb{e:Exit} {α:Prop} {k:Exit->Prop} (h:match e with| .normal=>α|e=>k e):(e= .normal/\α)\/(e≠ .normal/\k e):=by
 cases e<;>first|exact .inl ⟨rfl,h⟩|exact .inr ⟨by simp,h⟩
theorem X4{h I:Hp Y} {i t i2:Nat} {R U:List Nat} (J:Dom h i I t) (hi:i<=t) (a2:t<=i2) (a0:Yr h i t R) (a1:Yr I t i2 U):Yr h i i2 (U++R):=by
 intro b j;rcases dJ.1 j with j|j
 ·rcases a1 b j with c|c
  ·rcases J.2 b c with c'|c'
   ·exact .inl c'
   ·right;have:=J.1 b c;omega
  ·right;omega
 ·rcases a0 b j with c|c
  ·exact .inl c
  ·right;omega
theorem Zam{h t I:Hp Y} {i j i2:Nat} (hi:i<=j) (R:Dom h i t j) (J:Dom t j I i2):Dom h i I i2:=
 ⟨J.1,λb U=>by
  rcases J.2 b U with c|c
  ·exact R.2 b c
  ·right;omega⟩
theorem Zto{o:Oper} {T:Fr Y} {f:Nat} {args:List (SV Y)} (h:Zrg o T=ah (f,args)) {σ:Pl} {g:GH} {a:Act} (w:World) (hF:FrOk E σ g T a):
 ∃cap a0,(execOp a.eval o).run E.P w= .ok (.defer {target:= .fn (.func f) cap,args:=a0}) w/\DenL E σ g args (a0++cap).toList:=by
 unfold Zrg at h
 split at h
 ·rename_i c ho
  split at h
  ·rename_i x hc
   split at h
   ·rename_i gid sa sb hx
    cases h
    have U:=hF.ev x
    rw[hx] at U
    generalize hv:a.eval x=vf at U
    cases U
    rename_i J R ca cb a5 a1 a3 a6 a2 a4
    refine⟨R,J++c.args.map a.eval,?_,?_⟩
    ·unfold execOp
     simp only[ho,resolve,hc,aL,aR,aH,Deferred.ofValue,hv]
    ·obtain⟨e1,e2,e3⟩:=Zeh (E:=E) (σ:=σ) (g:=g) (T:=T) (ρ:=a.eval) (xs:=c.args) (λx hm=>hF.ev x)
     have l1:DenL E σ g sa J.toList:=⟨by simp[a5],λj sv v t I=>by
      have:=a1 j (ar.1 t).1
      rw[show J.toList[j]? =J[j]? by simp,this] at I
      cases I;exact a3 j sv t⟩
     have l2:DenL E σ g (c.args.toList.map (ev T)) (c.args.map a.eval).toList:=⟨by simp,λj sv v t I=>by
      have:=e2 j (ar.1 t).1
      rw[show(c.args.map a.eval).toList[j]? =(c.args.map a.eval)[j]? by simp,this] at I
      cases I;exact e3 j sv t⟩
     have l3:DenL E σ g sb R.toList:=⟨by simp[a6],λj sv v t I=>by
      have:=a2 j (ar.1 t).1
      rw[show R.toList[j]? =R[j]? by simp,this] at I
      cases I;exact a4 j sv t⟩
     rw[gD,gD]
     exact(l1.append l2).append l3
   ·cases h
  ·cases h
 ·cases h
theorem AftD.comp{B N i I i2:Nat} {m1 m2:List Nat} {σ:Pl} {g:GH} {w:World} {a0:List (Dfr Y)} {T1:Fr Y} {h1:Hp Y} {U:Act} {J:World} (hA:AftD E B N i I m1 σ g w a0 T1 h1 U J) (hi:i<=I) (a3:I<=i2) (hB:B<=w.heap.size) (a1:∀b,i<=b->b<i2->σ b=aD) (hm:∃m,m2=m++m1):
 ∃j t,Inv E B j h1 t J/\B<=J.heap.size/\(∀b,I<=b->b<i2->j b=aD)/\FrOk E j t T1 U/\DlOk E j t a0 U.defers/\
  ∀dl R h2 a2 w2,AftD E B N I i2 m2 j t J dl R h2 a2 w2->AftD E B N i i2 m2 σ g w dl R h2 a2 w2:=by
 obtain⟨hs,j,t,hS,hI,hF,hd⟩:=hA
 refine⟨j,t,hI,bY hB hS.size,λb b1 b2=>X3 hS a1 b (by omega) b2,hF,hd,?_⟩
 rintro dl R h2 a2 w2 ⟨k2,a4,g2,k3,k4,k5,k6⟩
 obtain⟨m,rfl⟩:=hm
 exact⟨k2,a4,g2,(Zal hi a3 hS k3).weaken (by intro b;simp only[dJ];rintro((h|h)|h)<;>simp[h]),k4,k5,k6⟩
theorem DefTri.seq{N:Nat} {c1 I:Code} {ds a0 a3:List (Dfr Y)} {T R U:Fr Y} {h j J:Hp Y} {i t i2:Nat} {m1 m2:List Nat} {e:Exit} (t1:DefTri E N c1 ds T h i .normal a0 R j t m1) (t2:DefTri E N I a0 R j t e a3 U J i2 m2) (hi:i<=t) (a6:t<=i2) (hm:∃m,m2=m++m1):DefTri E N (.seq c1 I) ds T h i e a3 U J i2 m2:=by
 intro B σ g w a Q hI hB a4 hF hN hd hQ;refine wp_seq (t1 B σ g w a _ hI hB (λb j J=>a4 b j (by omega)) hF hN hd ?_);intro a1 w1 hA;show I.wp E.P Q a1 w1;obtain⟨a7,g1,k1,k2,k3,k4,k5,k6⟩:=hA.comp hi a6 hB a4 hm;exact t2 B a7 g1 w1 a1 Q k1 k2 k3 k4 hA.sz k5 λa2 w2 a5=>hQ a2 w2 (k6 _ _ _ _ _ a5)
theorem DefTri.seq_out{N:Nat} {t c2:Code} {J I:List (Dfr Y)} {T j:Fr Y} {h R:Hp Y} {i U:Nat} {m1:List Nat} {e:Exit} (he:e≠ .normal) (t1:DefTri E N t J T h i e I j R U m1):DefTri E N (.seq t c2) J T h i e I j R U m1:=by
 intro B σ g w a Q hI hB a0 hF hN hd hQ;refine wp_seq (t1 B σ g w a _ hI hB a0 hF hN hd ?_);intro a1 w1 hA;have:=hQ a1 w1 hA;cases e<;>first|exact this|exact jv rfl he
theorem RoundsD.more{N:Nat} {c:Code} {ds a0 a3:List (Dfr Y)} {T R U:Fr Y} {h j I:Hp Y} {i t i2:Nat} {m1 m2:List Nat} {e:Exit} (t1:DefTri E N c ds T h i .normal a0 R j t m1) (J:RoundsD E N c a0 R j t e a3 U I i2 m2) (hi:i<=t) (a6:t<=i2) (hm:∃m,m2=m++m1):RoundsD E N c ds T h i e a3 U I i2 m2:=by
 obtain⟨n,J⟩:=J;refine⟨n+1,λB σ g w a Q hI hB a4 hF hN hd hQ=> ?_⟩;rw[rounds_succ];refine t1 B σ g w a _ hI hB (λb j I=>a4 b j (by omega)) hF hN hd ?_;intro a1 w1 hA;obtain⟨a7,g1,k1,k2,k3,k4,k5,k6⟩:=hA.comp hi a6 hB a4 hm;exact J B a7 g1 w1 a1 Q k1 k2 k3 k4 hA.sz k5 λa2 w2 a5=>hQ a2 w2 (k6 _ _ _ _ _ a5)
theorem RoundsD.out{N:Nat} {c:Code} {I t:List (Dfr Y)} {T j:Fr Y} {h J:Hp Y} {i R:Nat} {m1:List Nat} {e:Exit} (he:e≠ .normal) (t1:DefTri E N c I T h i e t j J R m1):RoundsD E N c I T h i e t j J R m1:=by
 refine⟨1,λB σ g w a Q hI hB a0 hF hN hd hQ=> ?_⟩;rw[rounds_succ];refine t1 B σ g w a _ hI hB a0 hF hN hd ?_;intro U w1 hA;have:=hQ U w1 hA;cases e<;>first|exact this|exact jv rfl he
theorem Ybc(hE:EngOk E) {call:Nat->List (SV Y)->Hp Y->Nat->(Res Y->Prop)->Prop} (c1:∀(o:Oper) T h i k,DomLt h i->step E call o.op T h i k->∃r,k r/\OpTri2 E o T h i r) {a4:Nat->Nat->Code->Fr Y->Hp Y->Nat->List Nat->Kont Y->Prop} (b9:∀f N c,VcOk E N c (a4 f N c)) {f N:Nat}:∀(n:Nat) (c:Code),
 (∀R T h i ms K,DomLt h i->vcD E call a4 f N n c R T h i ms K->∃e dl T' h' U ms',K e dl T' h' U ms'/\i<=U/\Dom h i h' U/\(∃m,ms'=m++ms/\Yr h i U m)/\DefTri E N c R T h i e dl T' h' U ms')/\
 ∀b,c= .loop b->Zcp b=af->∀R T h i ms K,DomLt h i->vcD E call a4 f N n c R T h i ms K->∃e dl T' h' U ms',K e dl T' h' U ms'/\i<=U/\Dom h i h' U/\(∃m,ms'=m++ms/\Yr h i U m)/\RoundsD E N b R T h i e dl T' h' U ms':=by
 intro n
 induction n with
 |zero=>exactλc=>⟨λR T h i ms K _ J=>J.elim,λb _ _ R T h i ms K _ J=>J.elim⟩
 |succ n ih=>
  intro c
  have b4:∀R T h i ms K,vcD E call a4 f N (n+1) c R T h i ms K=vcDB E call a4 f N (vcD E call a4 f N n) c R T h i ms K:=λ_ _ _ _ _ _=>rfl
  have rounds:∀b,c= .loop b->Zcp b=af->∀R T h i ms K,DomLt h i->vcD E call a4 f N (n+1) c R T h i ms K->∃e dl T' h' U ms',K e dl T' h' U ms'/\i<=U/\Dom h i h' U/\(∃m,ms'=m++ms/\Yr h i U m)/\RoundsD E N b R T h i e dl T' h' U ms':=by
   rintro b rfl hb R T h i ms K hD J
   rw[b4] at J
   unfold vcDB at J
   rw[show Zcp (.loop b)=af from hb] at J
   obtain⟨e,dl,a2,h1,i1,ms1,I,hi,a0,⟨m,rfl,hM⟩,t1⟩:=(ih b).1 R T h i ms _ hD J
   rcases Zjb I with⟨rfl,I⟩|⟨he,I⟩
   ·obtain⟨e2,a6,T2,h2,i2,c2,a9,a5,a7,⟨m',rfl,b0⟩,t2⟩:=(ih (.loop b)).2 b rfl hb dl a2 h1 i1 _ _ a0.1 I
    exact⟨e2,a6,T2,h2,i2,_,a9,by omega,Zam hi a0 a7,⟨m'++m,by simp,X4 a0 hi a5 hM b0⟩,RoundsD.more t1 t2 hi a5 ⟨m',rfl⟩⟩
   ·exact⟨e,dl,a2,h1,i1,_,I,hi,a0,⟨m,rfl,hM⟩,RoundsD.out he t1⟩
  refine⟨λR T h i ms K hD J=> ?_,rounds⟩
  have b8:=J
  rw[b4] at J
  unfold vcDB at J
  cases hh:Zcp c with
  |false=>
   rw[hh] at J
   obtain⟨e,a2,h1,i1,ms1,I,hi,a0,hm,t1⟩:=b9 f N c T h i ms _ hD J
   refine⟨e,R,a2,h1,i1,ms1,I,hi,a0,hm,λB σ g w a Q hI hB a3 hF hN hd hQ=>t1 B σ g w a Q hI hB a3 hF hN ?_⟩
   rintro a1 w1 ⟨z0,z1,c3,g1,s1,s2,s3⟩
   exact hQ a1 w1 ⟨z1,c3,g1,s1,s2,s3,by rw[z0];exact hd.mono s1.sig s1.gle⟩
  |true=>
   rw[hh] at J
   cases hc:c with
   |region id ops b6=>
    subst hc
    cases b6 with
    |true=>cases hh
    |false=>
    dsimp only at J
    split at J
    ·rename_i l o hl
     obtain⟨e1,⟨c,hc⟩,e3,e4⟩:=Zg6 hl
     obtain⟨e0,T',h',U,ms',I,hi,a0,hm,t⟩:=Zdk hE c1 ops.toList l T h i ms _ hD J
     cases e0 with
     |normal=> ?_
     |_=>exact I.elim
     dsimp only at I
     split at I
     ·rename_i p hp
      rw[Wx] at I
      refine⟨.normal,(p.1,p.2)::R,T',h',U,ms',I,hi,a0,hm,λB σ g w a Q hI hB a3 hF hN b7 hQ=>wp_region_list ?_⟩
      rw[e1]
      have c0:wpList E.P ops (Znu λa w=>wpList E.P ops Q [o] a w) l a w:=by
       have:=t B σ g w a (Znu λa w=>wpList E.P ops Q [o] a w) hI hB a3 hF hN (λa' w' ⟨k1,k2,σ',g',k3,k4,k5⟩=>by
        show wpList E.P ops Q [o] a' w'
        simp only[wpList]
        rw[jh (Zbe e3 _)]
        left
        obtain⟨cap,b5,r1,r2⟩:=Zto (show Zrg o T'=ah (p.1,p.2) from hp) w' k5
        unfold Oper.wp
        rw[r1,Oper.upon_defer,e4]
        refine hQ _ _ ⟨k2,σ',g',k3,k4,k5,cap,b5,a'.defers,rfl,r2,?_⟩
        rw[k1];exact b7.mono k3.sig k3.gle)
       simpa using this
      exact V7 c0 λa w h=>h
     ·exact I.elim
    ·exact J.elim
   |seq x y=>
    subst hc
    obtain⟨e,dl,a2,h1,i1,ms1,I,hi,a0,⟨m,rfl,hM⟩,t1⟩:=(ih x).1 R T h i ms _ hD J
    rcases Zjb I with⟨rfl,I⟩|⟨he,I⟩
    ·obtain⟨e2,a6,T2,h2,i2,c2,a9,a5,a7,⟨m',rfl,b0⟩,t2⟩:=(ih y).1 dl a2 h1 i1 _ _ a0.1 I
     exact⟨e2,a6,T2,h2,i2,_,a9,by omega,Zam hi a0 a7,⟨m'++m,by simp,X4 a0 hi a5 hM b0⟩,DefTri.seq t1 t2 hi a5 ⟨m',rfl⟩⟩
    ·exact⟨e,dl,a2,h1,i1,_,I,hi,a0,⟨m,rfl,hM⟩,DefTri.seq_out he t1⟩
   |block id b=>
    subst hc
    obtain⟨e,dl,a2,h1,i1,ms1,I,hi,a0,hm,t1⟩:=(ih b).1 R T h i ms _ hD J
    by_cases b3:e= .exit id
    ·subst b3
     have a8:K .normal dl a2 h1 i1 ms1:=by
      simp only at I
      have:bf id id=true:=by simp
      rw[this] at I;exact I
     refine⟨.normal,dl,a2,h1,i1,ms1,a8,hi,a0,hm,λB σ g w a Q hI hB a3 hF hN hd hQ=>wp_block (t1 B σ g w a _ hI hB a3 hF hN hd λa1 w1 hA=> ?_)⟩
     show(if id=id then Q .normal a1 w1 else _)
     rw[jh rfl];exact hQ a1 w1 hA
    ·have a8:K e dl a2 h1 i1 ms1:=by
      cases e with
      |exit j=>
       simp only at I
       have:bf j id=false:=by rw[<-bv,eV];rintro rfl;exact b3 rfl
       rw[this] at I;exact I
      |_=>exact I
     refine⟨e,dl,a2,h1,i1,ms1,a8,hi,a0,hm,λB σ g w a Q hI hB a3 hF hN hd hQ=>wp_block (t1 B σ g w a _ hI hB a3 hF hN hd λa1 w1 hA=> ?_)⟩
     have:=hQ a1 w1 hA
     cases e with
     |exit j=>
      show(if j=id then _ else Q (.exit j) a1 w1)
      rw[jb (by rintro rfl;exact b3 rfl)];exact this
     |_=>exact this
   |loop b=>
    obtain⟨e,dl,a2,h1,i1,ms1,I,hi,a0,hm,n',t⟩:=rounds b hc (by rw[hc] at hh;exact hh) R T h i ms K hD b8
    exact⟨e,dl,a2,h1,i1,ms1,I,hi,a0,hm,λB σ g w a Q hI hB a3 hF hN hd hQ=>wp_loop_rounds n' (t B σ g w a Q hI hB a3 hF hN hd hQ)⟩
   |_=>subst hc;exact J.elim
def Zy0:Option Value->FrameMode
 |none=> .returning
 |some u=> .panicking [{v:=u,recovered:=false}]
def Zc6:Option Value->FrameMode
 |none=> .returning
 |some u=> .panicking [{v:=u,recovered:=true}]
def rvV:Option Value->Value
 |none=> .nilIface
 |some u=>u
theorem Zy1(E:Eng Y) (σ:Pl) (g:GH) (l:Bool) (v:Value):Den E σ g (sv0 l v) v:=by
 cases v<;>first|exact .int _ _ _|exact .bool _ _|exact .str _ rfl|exact .val _
theorem Z8p(E:Eng Y) (σ:Pl) (g:GH) (l:Bool) (v:Value):Den E σ g (sv1 l v) v:=by
 cases v with
 |agg cs=>
  refine .agg (λj=>cs.toList.getD j undef) (by simp) (λj t=> ?_) (λj sv h=> ?_)
  ·have I:j<cs.size:=by simpa using t
   simp[aI,I]
  ·rw[cw] at h
   obtain⟨u,J,rfl⟩:=ck.1 h;rw[aI,J];exact Zy1 E σ g l u
 |_=>simp only[sv1];exact Zy1 E σ g l _
theorem Z8q(E:Eng Y) (σ:Pl) (g:GH) (l:Bool) (v:Value):Den E σ g (svP l v) v:=by
 cases v with
 |iface t u=>exact .iface (Z8p E σ g l u)
 |_=>exact .val _
theorem Ybd(E:Eng Y) (pm:Option Value) (σ:Pl) (g:GH):Den E σ g (rvOf E pm) (rvV pm):=by
 cases pm with
 |none=>exact .val _
 |some u=>exact Z8q E σ g _ u
theorem Zlp{j:Frame} {cs:List Frame} {pm:Option Value} (h:j.mode=Zy0 pm):(recoverD (j::cs)=aD/\rvV pm= .nilIface/\{j with mode:=Zc6 pm}=j)\/recoverD (j::cs)=ah (rvV pm,{j with mode:=Zc6 pm}::cs):=by
 cases pm with
 |none=>exact .inl ⟨by simp[recoverD,h,Zy0],rfl,by rw[<-show j.mode=Zc6 aD from h]⟩
 |some u=>exact .inr (by simp[recoverD,h,Zy0,Zc6,rvV])
def STri(E:Eng Y) (pm:Option Value) (N:Nat) (c:Code) (T:Fr Y) (h:Hp Y) (i:Nat) (e:Exit) (R:Fr Y) (U:Hp Y) (I:Nat) (a0:List Nat):Prop:=
 ∀(B:Nat) (σ:Pl) (g:GH) (w:World) (a:Act) (j:Frame) (cs:List Frame) (Q:Exit->Act->List Frame->World->Prop),j.mode=Zy0 pm->Inv E B σ h g w->B<=w.heap.size->(∀b,i<=b->b<I->σ b=aD)->FrOk E σ g T a->a.tmps.size=N->
  (∀t J,Aft E B N i I a0 σ g w a.defers R U t J->Q e t ({j with mode:=Zc6 pm}::cs) J)->c.wpS E.P Q a (j::cs) w
theorem Z4z(hE:EngOk E) {rv:SV Y} {pm:Option Value} (b5:∀σ g,Den E σ g rv (rvV pm)) {call:Nat->List (SV Y)->Hp Y->Nat->(Res Y->Prop)->Prop} (b6:∀(o:Oper) T h i k,DomLt h i->step E call o.op T h i k->∃r,k r/\OpTri2 E o T h i r) {b7:Nat->Nat->Code->Fr Y->Hp Y->Nat->List Nat->Kont Y->Prop} (b3:∀f N c,VcOk E N c (b7 f N c)) {f N:Nat}:
 ∀(c:Code) T h i ms K,DomLt h i->vcS E rv call b7 f N c T h i ms K->∃e T' h' a0 a7,K e T' h' a0 a7/\i<=a0/\Dom h i h' a0/\(∃m,a7=m++ms/\Yr h i a0 m)/\STri E pm N c T h i e T' h' a0 a7
 | .region id ops ae,T,h,i,ms,K,hD,I=>by
  simp only[vcS] at I
  split at I
  ·rename_i o l a9
   split at I
   ·rename_i d hr hd
    split at I
    ·rename_i c4
     obtain⟨e0,T',h',a0,a7,R,hi,a4,hm,t⟩:=Zdk hE b6 ops.toList l _ h i ms _ hD I
     cases e0 with
     |normal=> ?_
     |_=>exact R.elim
     refine⟨.normal,T',h',a0,a7,R,hi,a4,hm,λB σ g w a J cs Q a6 hI a3 a5 hF hN hQ=>wpS_region ?_⟩
     have c5:ops.size=l.length+1:=by rw[<-gy,a9];rfl
     have h0:ops[0]? =ah o:=by rw[<-fT,a9];rfl
     rw[gj,c5,fN]
     simp only[wpOpsS,h0]
     obtain⟨⟨ts,ho⟩,hg⟩:=Z2m hr
     rw[jh (Zbe hg _)]
     have b4:(execOp a.eval o).run E.P w= .ok .recover w:=by
      unfold execOp
      simp only[ho,resolve,aL,aR,aH,invoke,builtin]
     have c0:FrOk E σ g (upd T d rv) (a.put o.dst (rvV pm)):=by
      rw[hd]
      exact hF.put (by rw[hN];exact Yi c4) (b5 σ g)
     have:=t B σ g w (a.put o.dst (rvV pm)) (Znu λa' w'=>Q .normal a' ({J with mode:=Zc6 pm}::cs) w') hI a3 a5 c0 (by rw[Wc];exact hN) (λa' w' U=>hQ a' w' (by
      have c3:(a.put o.dst (rvV pm)).defers=a.defers:=by rw[hd];rfl
      rw[c3] at U;exact U))
     have a8:=Vf (ops:=ops) (l:=l) (Q:=Q) (cs:={J with mode:=Zc6 pm}::cs) (X:=λa' w'=>Q .normal a' ({J with mode:=Zc6 pm}::cs) w') (λa w h=>h) (k:=1) (λj=>by rw[<-fT,a9,kK 1 j];simp) (by simpa using this)
     rcases Zlp (cs:=cs) a6 with⟨r1,r2,r3⟩|r1
     ·simp only[b4,r1]
      rw[r3,r2] at a8
      exact a8
     ·simp only[b4,r1]
      exact a8
    ·exact I.elim
   ·exact I.elim
  ·exact I.elim
 | .seq x y,T,h,i,ms,K,hD,I=>by
  simp only[vcS] at I
  obtain⟨e,T1,h1,i1,c7,R,hi,a4,⟨m,rfl,hM⟩,t1⟩:=Z4z hE b5 b6 b3 x T h i ms _ hD I
  rcases Zjb R with⟨rfl,R⟩|⟨he,R⟩
  ·obtain⟨e2,T2,h2,i2,c8,c1,b0,b9,⟨m',rfl,c2⟩,t2⟩:=b3 f N y T1 h1 i1 _ _ a4.1 R
   refine⟨e2,T2,h2,i2,_,c1,by omega,Zam hi a4 b9,⟨m'++m,by simp,X4 a4 hi b0 hM c2⟩,λB σ g w a J cs Q a6 hI a3 a5 hF hN hQ=> ?_⟩
   refine wpS_seq (t1 B σ g w a J cs _ a6 hI a3 (λb h1 h2=>a5 b h1 (by omega)) hF hN ?_)
   intro a1 w1 U
   show y.wpS E.P Q a1 ({J with mode:=Zc6 pm}::cs) w1
   obtain⟨c6,g1,k1,k2,k3,k4,k5⟩:=U.trans hi b0 a3 a5 ⟨m',rfl⟩
   exact wpS_of_wp (t2 B c6 g1 w1 a1 _ k1 k2 k3 k4 U.sz λa2 w2 b8=>hQ a2 w2 (k5 _ _ _ _ b8))
  ·refine⟨e,T1,h1,i1,_,R,hi,a4,⟨m,rfl,hM⟩,λB σ g w a J cs Q a6 hI a3 a5 hF hN hQ=> ?_⟩
   refine wpS_seq (t1 B σ g w a J cs _ a6 hI a3 a5 hF hN ?_)
   intro a1 w1 U
   have:=hQ a1 w1 U
   cases e<;>first|exact this|exact jv rfl he
 | .region _ _ af,_,_,_,_,_,_,I=>I.elim
 | .skip,_,_,_,_,_,_,I=>I.elim
 | .cond _ _ _,_,_,_,_,_,_,I=>I.elim
 | .block _ _,_,_,_,_,_,_,I=>I.elim
 | .loop _,_,_,_,_,_,_,I=>I.elim
 | .exit _,_,_,_,_,_,_,I=>I.elim
 | .ret,_,_,_,_,_,_,I=>I.elim
 | .rangeFunc _ _ _ _,_,_,_,_,_,_,I=>I.elim
 | .scope _,_,_,_,_,_,_,I=>I.elim
 | .label _,_,_,_,_,_,_,I=>I.elim
 | .goto _,_,_,_,_,_,_,I=>I.elim
def Zjc(E:Eng Y) (pm:Option Value) (f:FuncId) (args:List (SV Y)) (h:Hp Y) (i:Nat) (r:Res Y):Prop:=
 ∀(B:Nat) (σ:Pl) (g:GH) (w:World) (vals:Array Value),Inv E B σ h g w->B<=w.heap.size->(∀b,i<=b->b<i+r.n->σ b=aD)->DenL E σ g args vals.toList->
  CallsD E.P f vals (Zy0 pm) w λen I t=>I=Zc6 pm/\∃u,en= .returned u/\∃σ' j,Stp i r.n r.mods σ g w σ' j t/\Inv E B σ' (patch h i r) j t/\Den E σ' j r.v u
theorem Zq4(hE:EngOk E) (hF:FnsOk E F) {call:Nat->List (SV Y)->Hp Y->Nat->(Res Y->Prop)->Prop} (b3:∀(o:Oper) T h i k,DomLt h i->step E call o.op T h i k->∃r,k r/\OpTri2 E o T h i r) {a6:Nat->Nat->Code->Fr Y->Hp Y->Nat->List Nat->Kont Y->Prop} (a5:∀f N c,VcOk E N c (a6 f N c)) {f:Nat} {pm:Option Value} {args:List (SV Y)} {h:Hp Y} {i:Nat} {k:Res Y->Prop} (hD:DomLt h i) (j:Zt4 E F pm call a6 f args h i k):
 FnGood E.P f/\∃r,k r/\ROk h r/\Zjc E pm f args h i r:=by
 unfold Zt4 at j
 split at j
 ·rename_i fn a2
  refine⟨hF.fnG f fn a2,?_⟩
  split at j
  ·rename_i c hc
   split at j
   ·exact j.elim
   ·rename_i a1
    rw[bx] at a1
    split at j
    ·obtain⟨e,T',h',i',b4,t,hi,a8,⟨m,rfl,hM⟩,a4⟩:=Z4z hE (Ybd E pm) b3 a5 c _ _ _ _ _ hD j
     have R:(e= .normal\/e= .ret)->finF E fn i k T' h' i' (m++ [])->∃r,k r/\ROk h r/\Zjc E pm f args h i r:=by
      intro he t
      obtain⟨r,j,hR,hn,b0,ft⟩:=Zfr hE hD (by simpa using hM) t
      refine⟨r,j,hR,λB σ g w vals U hB a3 hd=> ?_⟩
      have a0:∀b,i<=b->b<i'->σ b=none:=λb I h2=>a3 b I (by omega)
      refine callsD_of_wpS (hF.fn f fn a2) hc λa7 cs a9=> ?_
      refine a4 B σ g w _ a7 cs _ a9 U hB a0 (Xu hd a1) (Xv hd a1) ?_
      rintro a' w' ⟨I,h2,σ',J,h3,h4,h5⟩
      obtain⟨u,hu,q1,q2,q3⟩:=ft B σ g w σ' J a' w' U a0 h3 h4 h5
      rcases he with rfl|rfl
      ·exact⟨I,Zc6 pm,rfl,u,hu,rfl,u,rfl,σ',J,q1,q2,q3⟩
      ·exact⟨I,Zc6 pm,rfl,u,hu,rfl,u,rfl,σ',J,q1,q2,q3⟩
     split at t
     ·exact R (.inl rfl) t
     ·exact R (.inr rfl) t
     ·exact t.elim
    ·split at j
     case h_2=>exact j.elim
     obtain⟨e,T',h',i',b4,t,hi,a8,⟨m,rfl,hM⟩,a4⟩:=a5 f fn.ntmps c _ _ _ _ _ hD j
     have R:(e= .normal\/e= .ret)->finF E fn i k T' h' i' (m++ [])->∃r,k r/\ROk h r/\Zjc E aD f args h i r:=by
      intro he t
      obtain⟨r,j,hR,hn,b0,ft⟩:=Zfr hE hD (by simpa using hM) t
      refine⟨r,j,hR,λB σ g w vals U hB a3 hd=> ?_⟩
      have a0:∀b,i<=b->b<i'->σ b=none:=λb I h2=>a3 b I (by omega)
      refine callsD_of_wp (hF.fn f fn a2) hc ?_
      refine a4 B σ g w _ _ U hB a0 (Xu hd a1) (Xv hd a1) ?_
      rintro a' w' ⟨I,h2,σ',J,h3,h4,h5⟩
      obtain⟨u,hu,q1,q2,q3⟩:=ft B σ g w σ' J a' w' U a0 h3 h4 h5
      rcases he with rfl|rfl
      ·exact bodyPost_end hu I ⟨u,rfl,σ',J,q1,q2,q3⟩
      ·exact bodyPost_ret hu I ⟨u,rfl,σ',J,q1,q2,q3⟩
     split at t
     ·exact R (.inl rfl) t
     ·exact R (.inr rfl) t
     ·exact t.elim
  ·exact j.elim
 ·exact j.elim
end
end
end Go.Proofs.YtahcfmdfjjjmjaaGreatDoor
