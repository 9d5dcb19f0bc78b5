/- Merged texts: EngOP, EngP, EngQ, EngR, EngS, EngU, EngT, EngV, EngVA, EngVB, EngY, EngLA, EngLB, EngLC. -/
import Derived.Laws.AppendOwn
import Derived.Laws.StructEq
import Derived.ChangeKeysEq
import Derived.Laws.MakeOwn
import Derived.Laws.CopyRow
import Derived.Lib.ConvBytes
import Derived.Laws.Externs
import Derived.Laws.BytesString
import Derived.Recover
import Derived.Scope
import Derived.LoopN
import Derived.Test.YtbkgpcknakidkaaGreatDoorMa
open Array renaming all_eq_true->gk,ext'->kY,getD->ee,getD_eq_getD_getElem?->aS,getElem?_append_left->fT,getElem?_eq_getElem->cX,getElem?_eq_some_iff->iL,getElem?_map->jw,getElem?_range->jh,getElem?_setIfInBounds->cY,getElem?_toList->ez,length_toList->eY,map->jQ,range->iB,replicate->dj,size_append->jG,toArray_toList->fE,toList_append->hH
open Bool renaming and_eq_true->aq,false->ab,false_eq_true->aN,not_eq_true->bg,not_eq_true'->bj,or_eq_true->bm,true->ac,true_and->cz
open Go.Builtin renaming append_->gC,copy_->eV,firstCells->gV,lenOf->iK,zeroCells->cq
open Go.Call renaming operands->dz
open Go.Instr renaming buildSlice->fq,checkKey->kp,fill->jF,findKey->kD,findNow->bW,makeInterface->jo,mapUpdate->iC,sameBits->kq,sameNow->cg,slice->kN,sliceAt->gZ,sliceBound->jP,sliceBounds->ey,sureAddr->eH,typeAssert->eg
open Go.Op renaming eqFields->jH,eqItems->jY,equalIn->iG,operands->aQ
open Go.Proofs.YtbkgpcknakidkaaGreatDoor.Blk renaming cells->cE,fzc->gT
open Go.Result renaming andThen_ok->aA
open Go.Sem renaming run->hZ,run_bind->aF,run_pure->aJ
open Go.World renaming cell?->jl,cell?_of_block->jg
open Int renaming mul_le_mul_of_nonneg_right->fK
open List renaming append_assoc->be,drop_eq_getElem_cons->cy,drop_zero->dW,eq_nil_of_length_eq_zero->cH,flatMap_cons->ir,getD_eq_getElem?_getD->bN,getElem?_append_left->bJ,getElem?_append_right->bx,getElem?_drop->cO,getElem?_eq_getElem->ao,getElem?_eq_some_iff->ai,getElem?_map->bv,getElem?_take->bO,getElem?_toArray->bU,getElem_of_mem->dd,length_append->az,length_drop->cU,length_pos_iff->jv,length_take->bi,map_cons->bQ,mem_append->cf,mem_cons->aH,mem_cons_of_mem->aI,mem_cons_self->bH,mem_filter->cM,mem_map->fw,mem_of_getElem?->aL,mem_of_mem_take->jn,mem_range->dU,range->dk,range'->iE,range'_succ->gE,range_eq_range'->gU,replicate->aR,size_toArray->ik,take_length->aV,take_of_length_le->bh
open Nat renaming add_assoc->dH,add_comm->kZ,add_mul->cp,add_zero->ei,beq->aO,beq_eq->fp,ble_eq->bu,blt->aU,blt_eq->iT,eq_of_beq_eq_true->ax,eq_zero_or_pos->jO,le_refl->av,le_trans->bS,lt_succ_self->dC,min->jZ,min_comm->ji,min_eq_left->iX,min_le_left->kE,min_le_right->ks,mod_eq_of_lt->ko,mod_lt->ja,mul_comm->jf,mul_le_mul_right->bb,zero_add->bq,zero_le->aW
open Option renaming getD_some->cZ,map->cL,map_eq_some_iff->br,map_none->eZ,map_some->cm,ne_none_iff_exists'->aY,none->au,some->ae
open Option.some renaming inj->bd,injEq->cr
namespace Go.Proofs.YtbkgpcknakidkaaGreatDoor
set_option linter.unusedVariables false
set_option linter.unusedSimpArgs false
set_option linter.unnecessarySimpa false
set_option maxRecDepth 100000
section
open Go.RowKit
section
variable {Y:Thy} {E:Eng Y}
theorem Z79{N:Nat} {h:Hp Y} {i:Nat} {U:List Nat} {R:Nat} {rp:Res Y} {p:Value}:∀{os:List Oper} {j:Nat} {T:Fr Y} {J:List (DR Y)},QOk E N h i U R rp p os j T J->os.length=J.length
 | [],_,_,[],_=>rfl
 | [],_,_,_::_,I=>I.elim
 |_::_,_,_,[],I=>I.elim
 |o::os,j,T,d::J,I=>by simp[Z79 I.2]
theorem Ye0{N:Nat} {h:Hp Y} {i:Nat} {a0:List Nat} {U:Nat} {rp:Res Y} {p:Value}:∀{os:List Oper} {j:Nat} {T:Fr Y} {I:List (DR Y)},QOk E N h i a0 U rp p os j T I->∀(m:Nat) (o:Oper) (d:DR Y),os[m]? =ae o->I[m]? =ae d->
 (j+m=U->PanF E o (tD os I (λx=>aU x m) T) h i rp p)/\(j+m≠U->bitB (nthN a0 (j+m)) U=ab->d.r.n=0/\d.r.mods= []/\OpTri E o (tD os I (λx=>aU x m) T) h i d.r/\∀x,o.dst=ae x->x<N)
 | [],_,_,[],_,m,o,d,R,_=>by simp at R
 | [],_,_,_::_,J,_,_,_,_,_=>J.elim
 |_::_,_,_,[],J,_,_,_,_,_=>J.elim
 |o0::os,j,T,d0::I,J,m,o,d,R,h2=>by
  cases m with
  |zero=>
   simp at R h2
   subst R;subst h2
   have e:tD (o0::os) (d0::I) (λx=>aU x 0) T=T:=by
    have:(λx=>aU x 0)=λ_=>false:=by
     funext x
     rw[<-bg,iT];omega
    rw[this,Zd3]
   rw[e]
   exact J.1
  |succ m=>
   have:=Ye0 J.2 m o d (by simpa using R) (by simpa using h2)
   have e:tD (o0::os) (d0::I) (λx=>aU x (m+1)) T=tD os I (λx=>aU x m) (updO T o0.dst d0.r.v):=by
    simp only[tD]
    have e0:aU 0 (m+1)=true:=by rw[iT];omega
    have e1:(λx=>aU (x+1) (m+1))=λx=>aU x m:=by
     funext x
     cases hb:aU x m with
     |true=>rw[iT] at hb⊢;omega
     |false=>rw[<-bg,iT] at hb⊢;omega
    rw[e0,e1];rfl
   rw[e,show j+(m+1)=j+1+m by omega]
   exact this
theorem Ye1:∀{all:List Oper},noG all=ac->∀o∈all,o.guard=au
 | [],_,o,I=>by cases I
 |x::r,h,o,I=>by
  simp only[noG,aq] at h
  rcases aH.1 I with rfl|I
  ·simpa using h.1
  ·exact Ye1 h.2 o I
theorem Z8a(g3:E.P.follows .mixedOrders=ac) {os:List Oper} {T:Fr Y} {h:Hp Y} {i N j0:Nat} {ms:List Nat} {ds:List (DR Y)} {rp:Res Y} {p:Value} (e0:Zge os (Xj os []) os 0=ac) (hG:noG os=ac) (d5:j0<os.length)
 (hD:DomLt h i) (hp:QOk E N h i (Xj os []) j0 rp p os 0 T ds) (id:Nat)
 (B:Nat) (σ:Pl) (g:GH) (w:World) (a:Act) (Q:Exit->Act->World->Prop) (hI:Inv E B σ h g w) (hB:B<=w.heap.size) (f0:∀b,i<=b->b<i+rp.n->σ b=au) (hF:FrOk E σ g T a) (hN:a.tmps.size=N)
 (hQ:∀a' w',Aft E B N i (i+rp.n) (rp.mods++ms) σ g w a.defers (Vh (Yd os) T) (patch h i rp) a' w'->Q (.panic [{v:=p,recovered:=false}]) a' w'):(Code.region id os.toArray ac).wp E.P Q a w:=by
 classical
 have f6:=Z79 hp
 have f2:∀m o,os[m]? =ae o->∃d,ds[m]? =ae d:=λm o hm=>⟨ds[m]'(by rw[<-f6];exact(ai.1 hm).1),ao _⟩
 have e3:∀m o,os[m]? =ae o->∀k∈waitsOf o,k<m:=λm o hm k I=>by
  have:=(Zbb e0 hm).1
  rw[bq] at this
  exact Zg7 this k I
 have c2:∀(D:Nat->Bool),(∀m o,os[m]? =ae o->D m=ac->∀k∈waitsOf o,D k=ac)->∀m o,os[m]? =ae o->(∀k∈waitsOf o,D k=ac)->∀k,bitB (nthN (Xj os []) m) k=ac->D k=true:=by
  intro D a2 m
  induction m using Nat.strongRecOn with
  |_ m ih=>
   intro o hm a6 k J
   obtain⟨pre,h1,h2⟩:=Zvu os [] m o hm
   simp only[List.length_nil,bq] at h1 h2
   rw[h1] at J
   obtain⟨j,hj,J⟩:=Zft J
   have d8:=e3 m o hm j hj
   rcases J with rfl|J
   ·exact a6 j hj
   ·rw[h2 j d8] at J
    have a1:j<os.length:=by have:=(ai.1 hm).1;omega
    exact ih j d8 os[j] (ao a1) (a2 j _ (ao a1) (a6 j hj)) k J
 have c1:∀m m' o R,m<m'->os[m]? =ae o->os[m']? =ae R->bitB (nthN (Xj os []) m') m=ac\/Zk5 os o R=true:=by
  intro m m' o R f8 hm f9
  have:=(Zbb e0 f9).2
  rw[bq] at this
  have:=Zdf (k:=m) (a:=o) this (by rw[bO,jM f8];exact hm)
  rwa[bq] at this
 have key:∀(m:Nat) (listed:Array Bool) (U:Act) (w1:World),listed.size=os.length->cntF listed os.length=m->listed.getD j0 ab=ab->
  (∀k o,os[k]? =ae o->listed.getD k ab=ac->∀x∈waitsOf o,listed.getD x ab=ac)->U.defers=a.defers->U.tmps.size=N->
  (∃σ1 g1,Stp i 0 [] σ g w σ1 g1 w1/\Inv E B σ1 h g1 w1/\FrOk E σ1 g1 (tD os ds (λx=>listed.getD x ab) T) U)->
  wpAny E.P .any os.toArray Q m listed U w1:=by
  intro m
  induction m with
  |zero=>
   intro listed U w1 b9 hc a3 a2 b4 a8 _
   exfalso
   have b3:=Ziv hc j0 d5
   rw[aS,cX (by omega)] at b3 a3
   rw[cZ] at b3 a3
   rw[b3] at a3;cases a3
  |succ m ih=>
   intro listed U w1 b9 hc a3 a2 b4 a8 ⟨σ1,g1,hS,c5,a7⟩
   have d4:∀j,j<os.length->listed.getD j ab=listed.getD j true:=by
    intro j hj
    rw[aS,aS,cX (by omega)]
    rfl
   obtain⟨j1,a4,e9,e4⟩:=Ziw hc
   have g7:j1∈Region.ready .any os.toArray listed:=by
    refine cM.2 ⟨dU.2 (by simpa using a4),?_⟩
    rw[e9]
    rw[show(os.toArray[j1]?)=ae os[j1] by simp[a4]]
    simp only[cm,cZ,Bool.not_false,cz,gk,bm,bj]
    intro e he
    by_cases c7:Region.binds .any os[j1].after[e]=ac
    ·right
     have g0:os[j1].after[e].on∈waitsOf os[j1]:=by
      unfold waitsOf
      exact fw.2 ⟨os[j1].after[e],cM.2 ⟨by simp,c7⟩,rfl⟩
     have:=e3 j1 _ (ao a4) _ g0
     rw[d4 _ (by omega)]
     exact e4 _ this
    ·left;simpa using c7
   refine⟨λe=>ka g7 (by rw[e];simp),λj hj=> ?_⟩
   obtain⟨a4,b5⟩:=cM.1 hj
   have a1:j<os.length:=by simpa using dU.1 a4
   rw[show(os.toArray[j]?)=ae os[j] by simp[a1]] at b5
   simp only[cm,cZ,aq,bj,gk,bm] at b5
   obtain⟨d7,d6⟩:=b5
   have a0:os[j]? =ae os[j]:=ao a1
   generalize ho:os[j]=o at a0 d6
   obtain⟨d,c8⟩:=f2 j o a0
   have b6:listed.getD j ab=false:=by rw[d4 j a1];exact d7
   have a6:∀k∈waitsOf o,listed.getD k ab=true:=by
    intro k I
    unfold waitsOf at I
    obtain⟨e,he,rfl⟩:=fw.1 I
    obtain⟨e8,c9⟩:=cM.1 he
    obtain⟨x,hx,rfl⟩:=dd e8
    have h6:x<o.after.size:=by simpa using hx
    rcases d6 x h6 with c|c
    ·rw[show o.after[x]=o.after.toList[x] by simp] at c;rw[c] at c9;cases c9
    ·simpa using c
   have before:∀k,bitB (nthN (Xj os []) j) k=ac->listed.getD k ab=true:=λk I=>c2 _ a2 j o a0 a6 k I
   have c3:∀k R,os[k]? =ae R->bitB (nthN (Xj os []) k) j=ac->listed.getD k ab=false:=by
    intro k R I J
    cases hq:listed.getD k ab with
    |false=>rfl
    |true=>
     have:=c2 _ a2 k R I (a2 k R I hq) j J
     rw[b6] at this;cases this
   have g4:bitB (nthN (Xj os []) j) j0=false:=by
    cases J:bitB (nthN (Xj os []) j) j0 with
    |false=>rfl
    |true=>have:=before j0 J;rw[a3] at this;cases this
   obtain⟨e1,e2⟩:=Ye0 hp j o d a0 c8
   rw[bq] at e1 e2
   have g9:∀t∈Vg os o,tD os ds (λx=>listed.getD x ab) T t=tD os ds (λx=>aU x j) T t:=by
    intro t ht
    refine Zd2 os ds _ _ T T t (λk R I d9=> ?_) rfl
    rcases Nat.lt_trichotomy k j with b0|rfl|b0
    ·rw[show aU k j=ac by rw[aU,bu];exact b0]
     rcases c1 k j R o b0 I a0 with c|c
     ·exact before k c
     ·exact ka ht ((U2 c).1 t d9)
    ·rw[b6];symm;rw[<-bg,aU,bu];omega
    ·rw[show aU k j=ab by rw[<-bg,aU,bu];omega]
     rcases c1 j k o R b0 a0 I with c|c
     ·exact c3 k R I c
     ·exact ka ht ((U2 c).2.1 t d9)
   have b8:∀x,(listed.setIfInBounds j ac).getD x ab=if x=j then ac else listed.getD x false:=by
    intro x
    simp only[aS,cY]
    by_cases c:j=x
    ·subst c;simp[b9,a1]
    ·rw[jJ c,jJ (λh'=>c h'.symm)]
   have g8:(λx=>(listed.setIfInBounds j ac).getD x ab)=λx=>if x=j then ac else listed.getD x false:=funext b8
   have h0:tD os ds (λx=>(listed.setIfInBounds j ac).getD x ab) T=updO (tD os ds (λx=>listed.getD x ab) T) o.dst d.r.v:=by
    funext t
    rw[g8]
    refine Ydm t os ds _ T j o d a0 c8 b6 λhw k R f4 I h5=> ?_
    rcases c1 j k o R f4 a0 I with c|c
    ·exact c3 k R I c
    ·exact ka h5 ((U2 c).2.2 t hw)
   have hx:∀x∈o.op.operands.toList,Den E σ1 g1 (ev (tD os ds (λx=>aU x j) T) x) (U.eval x):=by
    intro x hx
    cases x with
    |tmp t=>
     have ht:t∈Vg os o:=by
      have:=Zf1 hx
      unfold Vg
      split
      ·exact this
      ·split<;>simp[this]
     have:=a7 t
     rw[g9 t ht] at this
     exact this
    |const v=>exact X0 E σ1 g1 v
    |global n=>exact .val _
    |func f=>exact(FrOk.ev a7 (.func f))
   have f3:=Ye1 hG o (aL a0)
   have f1:∀b,i<=b->b<i+rp.n->σ1 b=none:=by
    intro b h1 h2
    cases hq:σ1 b with
    |none=>rfl
    |some q=>
     rcases hS.snew b q hq with h3|h3
     ·rw[f0 b h1 h2] at h3;cases h3
     ·omega
   unfold wpOp
   rw[show(os.toArray[j]?)=ae o by simp[a1,ho]]
   simp only
   rw[jM (by unfold Region.wanted;rw[f3])]
   left
   by_cases b7:j=j0
   ·refine e1 b7 B σ1 g1 w1 U _ Q c5 (bS hB hS.size) f1 hx ?_
    rintro w' ⟨σ',g',k1,k2⟩
    refine hQ U w' ⟨b4,a8,σ',g',?_,k2,λt=> ?_⟩
    ·have:=hS.join k1 (i:=i) (n:=rp.n) (m:=rp.mods++ms) (av _) (by omega) (av _) (by omega) (λb J=>by cases J) (λb J=>List.mem_append_left _ J)
     rw[show i+rp.n-i=rp.n by omega]
     exact this
    ·rw[Zb4]
     split
     ·exact .unk _
     ·rename_i ht
      have:=(a7 t).mono k1.sig k1.gle
      rw[Ydn ht λR g5 d' e5=>Zg3 g5 e5] at this
      exact this
   ·obtain⟨q1,q2,h4,f7⟩:=e2 b7 g4
    refine OpPost.wp (h4.2 B σ1 g1 w1 U.eval h (λ_ _=>rfl) c5 (bS hB hS.size) (λb b1 b2=>by omega) hx) ?_
    rintro u w2 ⟨σ2,g2,a9,c6,hv⟩
    rw[q1,q2] at a9
    have g6:patch h i d.r=h:=by
     funext b
     rw[Zp,jJ]
     rw[q1,q2]
     rintro(e|e)
     ·simp at e
     ·omega
    rw[g6] at c6
    refine ih _ (U.put o.dst u) w2 (by simpa using b9) ?_ ?_ ?_ (by rw[W0];exact b4) (by rw[Uj];exact a8) ⟨σ2,g2,?_,c6,?_⟩
    ·have:=Zsj listed j os.length a1 d7
     omega
    ·rw[b8,jJ (λe=>b7 e.symm)];exact a3
    ·intro k R I a5 x hx
     rw[b8] at a5⊢
     by_cases c:k=j
     ·subst c
      rw[a0] at I;cases I
      have c0:=a6 x hx
      split<;>simp[c0]
     ·rw[jJ c] at a5
      have c0:=a2 k R I a5 x hx
      split<;>simp[c0]
    ·exact hS.join a9 (av _) (by omega) (av _) (by omega) (λb J=>J) (λb J=>J)
    ·rw[h0]
     have c4:=a7.mono a9.sig a9.gle
     cases e7:o.dst with
     |none=>exact c4
     |some t=>exact c4.put (by rw[a8];exact f7 t e7) hv
 refine wp_region_any g3 ?_
 have e6:Inv E B σ h g {w with drawn:=w.drawn+1}:=⟨hI.gc,hI.gm,hI.blk,hI.inj,hI.base,hI.fz,hI.fm,hI.glob⟩
 have:=key os.length (dj os.length ab) a {w with drawn:=w.drawn+1} (by simp) ?_ ?_ ?_ rfl hN ⟨σ,g,?_,e6,?_⟩
 ·simpa using this
 ·unfold cntF
  rw[List.filter_eq_self.2,List.length_range]
  intro j hj
  have:j<os.length:=dU.1 hj
  simp[ee,this]
 ·simp[ee,d5]
 ·intro k o I a5
  exfalso
  have f5:=(ai.1 I).1
  simp[ee,f5] at a5
 ·exact⟨.refl _,λ_ _ h=> .inl h,.refl _,λ_ _ _ h=> .inl h,λ_ _ h=> .inl h,λ_ _ _=>rfl,av _,rfl,rfl,rfl,λ_ _ _ h k=>by rw[h] at k;cases k⟩
 ·have:(λx=>(dj os.length ab).getD x ab)=λ_=>false:=by
   funext x
   rw[aS,Array.getElem?_replicate]
   split<;>rfl
  rw[this,Zd3];exact hF
end
end
section
open Go.RowKit
section
variable {Y:Thy} {E:Eng Y} {o:Oper} {T:Fr Y} {h:Hp Y} {i:Nat} {k:Res Y->Prop}
theorem Vc{σ:Pl} {g:GH} {b off len w:Nat} {cap:Option Nat} {v:Value} (h:Den E σ g (.sl b off len w cap) v):∃r z c,v= .slice (ae ⟨r,off*w,au⟩) len c/\σ b=ae (r,z)/\(off+c)*w<=z/\len<=c/\c<=maxLen/\∀m,cap=ae m->c=m:=by
 cases h with
 |sl h U J R I=>exact⟨_,_,_,rfl,h,U,J,R,I⟩
theorem Y6{J th:Y.Th} {l:List (Y.dom J)} {k:List (Y.dom th)->Prop} (I:U6 l k):∃(e:J=th),k (e▸l):=by
 unfold U6 at I;split at I
 ·rename_i e _;subst e;exact⟨rfl,I⟩
 ·exact I.elim
theorem Yas{I th:Y.Th} {l:List (Y.dom I)} {k:List (Y.dom th)->Prop} (J:U6 l k):I=th:=(Y6 J).1
theorem Zzs{th:Y.Th} {l:List (Y.dom th)} {k:List (Y.dom th)->Prop} (I:U6 l k):k l:=by
 obtain⟨e,I⟩:=Y6 I;exact I
theorem Z4t{α:Type} {lit:Bool} {l:List α} {A B:Prop} (I:Ydp lit l A B):(l= []/\A)\/(l≠ []/\B):=by
 cases lit with
 |true=>
  cases l with
  |nil=>exact .inl ⟨rfl,I⟩
  |cons x l=>exact .inr ⟨by simp,I⟩
 |false=>
  by_cases e:l= []
  ·exact .inl ⟨e,I.1 e⟩
  ·exact .inr ⟨e,I.2 e⟩
theorem Xc(R:EngOk E) {th:Y.Th}:∀{n:Nat} {cs:List (SV Y)} {l:List (Y.dom th)},Uh E th (Ug (E.w th) n cs)=ae l->
 l.length=n/\∀(j:Nat) J,(l.flatMap (E.enc th))[j]? =ae J->∃s0,cs[j]? =ae s0/\∀σ g v,Den E σ g s0 v->Den E σ g J v:=by
 intro n
 induction n with
 |zero=>intro cs l h;simp[Ug,Uh] at h;subst h;simp
 |succ n ih=>
  intro cs l h
  simp only[Ug,Uh] at h
  split at h
  ·rename_i x l' hx a0
   obtain rfl:=bd h
   obtain⟨h1,h2⟩:=ih a0
   obtain⟨d1,d2⟩:=R.dec _ _ _ hx
   refine⟨by simp[h1],λj J I=> ?_⟩
   rw[ir] at I
   by_cases e:j<E.w th
   ·rw[bJ (by rw[R.enc];exact e)] at I
    obtain⟨s0,U⟩:∃s0,(cs.take (E.w th))[j]? =ae s0:=⟨_,ao (by omega)⟩
    refine⟨s0,?_,λσ g v hv=>d2 σ g j s0 J v U I hv⟩
    rw[bO,jM e] at U;exact U
   ·rw[bx (by rw[R.enc];omega),R.enc] at I
    obtain⟨s0,h3,h4⟩:=h2 _ J I
    refine⟨s0,?_,h4⟩
    rw[cO] at h3
    rwa[show E.w th+(j-E.w th)=j by omega] at h3
  ·cases h
structure Cont(E:Eng Y) (σ:Pl) (g:GH) (w:World) (th:Y.Th) (l:List (Y.dom th)) (v:Value) (base:Option Addr) (c:Nat) (us:List Value):Prop where
 v:v= .slice base l.length c
 le:l.length<=c
 mx:c<=maxLen
 nil:base=au->c=0
 some:0<l.length->∃r o,base=ae ⟨r,o,au⟩
 len:us.length=l.length*E.w th
 cell:∀r o,base=ae ⟨r,o,au⟩->∀(j:Nat) u,us[j]? =ae u->w.cell? ⟨r,o+j,au⟩=ae u
 den:∀(j:Nat) sv u,(l.flatMap (E.enc th))[j]? =ae sv->us[j]? =ae u->Den E σ g sv u
theorem Zeq(hE:EngOk E) {th:Y.Th} {x:SV Y} {k:Bool->List (Y.dom th)->List Nat->Prop} (J:Zr6 E h th x k):
 ∃lit l rd,k lit l rd/\∀(hh:Hp Y) (σ:Pl) (g:GH) (w:World) (B:Nat) (v:Value),(∀b∈rd,hh b=h b)->Inv E B σ hh g w->Den E σ g x v->∃base c us,Cont E σ g w th l v base c us:=by
 unfold Zr6 at J
 split at J
 ·refine⟨_,_,_,J,λhh σ g w B v _ hI hd=> ?_⟩
  cases hd
  exact⟨au,0,[],{v:=rfl,le:=av _,mx:=by{unfold maxLen;omega},nil:=λ_=>rfl,some:=λh=>ka h (by simp),len:=by simp,cell:=λr o e=>(by cases e),den:=λj sv u h _=>ka h (by simp)}⟩
 ·obtain⟨hm,J⟩:=J
  refine⟨_,_,_,J,λhh σ g w B v _ hI hd=> ?_⟩
  cases hd
  exact⟨ae _,_,[],{v:=rfl,le:=aW _,mx:=hm,nil:=λe=>(by cases e),some:=λh=>ka h (by simp),len:=by simp,cell:=λr o e j u h=>ka h (by simp),den:=λj sv u h _=>ka h (by simp)}⟩
 ·rename_i I l full
  obtain⟨e,J⟩:=Y6 J
  subst e
  refine⟨_,_,_,J,λhh σ g w B v _ hI hd=> ?_⟩
  obtain⟨base,c,cv,rfl,hl,hm,hf,hn,hb,hd⟩:=V2 hd
  refine⟨base,c,(dk (l.length*E.w I)).map λj=>cv (j/E.w I) (j%E.w I),rfl,hl,hm,hn,λhp=>let⟨r,o,e,_⟩:=hb hp;⟨r,o,e⟩,by simp,?_,?_⟩
  ·intro r o e j u hj
   rw[bv] at hj
   obtain⟨j',a0,rfl⟩:=br.1 hj
   obtain⟨a1,rfl⟩:j<l.length*E.w I/\j=j':=by
    obtain⟨R,U⟩:=ai.1 a0
    simp at R U
    exact⟨R,U⟩
   have a2:=hE.pos I
   have hq:j/E.w I<l.length:=(Nat.div_lt_iff_lt_mul a2).2 a1
   obtain⟨r',o',e',a8⟩:=hb (Nat.lt_of_le_of_lt (aW _) hq)
   rw[e] at e';cases e'
   have:=a8 (j/E.w I) _ (ao hq) (j%E.w I) (by rw[hE.enc];exact ja _ a2)
   have he:o+j/E.w I*E.w I+j%E.w I=o+j:=by rw[dH,jf,Nat.div_add_mod]
   rw[he] at this
   exact hI.gc _ _ _ this
  ·intro j sv u hj hu
   obtain⟨q,p,x,rfl,hp,hq,hs⟩:=Y3 hE I l hj
   rw[bv] at hu
   obtain⟨j',a0,rfl⟩:=br.1 hu
   obtain⟨a1,rfl⟩:q*E.w I+p<l.length*E.w I/\q*E.w I+p=j':=by
    obtain⟨R,U⟩:=ai.1 a0
    simp at R U
    exact⟨R,U⟩
   have a2:=hE.pos I
   have e1:(q*E.w I+p)/E.w I=q:=by rw[jf,Nat.mul_add_div a2,Nat.div_eq_of_lt hp,ei]
   have e2:(q*E.w I+p)%E.w I=p:=by rw[jf,Nat.mul_add_mod,ko hp]
   rw[e1,e2]
   exact hd q x hq p sv hs
 ·rename_i b off len w' cap
  have blk:∀(blk:Blk Y) (l:List (Y.dom th)),h b=ae blk->(∀es,blk≠ .map es)->w'=E.w th->l.length=len->(∀(j:Nat) sv,(l.flatMap (E.enc th))[j]? =ae sv->∃s0,(blk.cells E)[off*w'+j]? =ae s0/\∀σ g v,Den E σ g s0 v->Den E σ g sv v)->
   ∀(hh:Hp Y) (σ:Pl) (g:GH) (w:World) (B:Nat) (v:Value),(∀b'∈ [b],hh b'=h b')->Inv E B σ hh g w->Den E σ g (.sl b off len w' cap) v->∃base c us,Cont E σ g w th l v base c us:=by
   intro blk l hb hm hw hl hc hh σ g w B v b2 hI hd
   obtain⟨r,z,c,rfl,b5,hz,a4,b1,b6⟩:=Vc hd
   obtain⟨r',z',a6,a7⟩:=hI.blk b blk ((b2 b (by simp)).trans hb)
   rw[b5] at a6;cases a6
   obtain⟨u,b3,b4⟩:=Wq hm a7
   refine⟨_,c,(dk (l.length*E.w th)).map λj=>u (off*w'+j),by rw[hl],by omega,b1,(λe=>by cases e),λ_=>⟨_,_,rfl⟩,by simp,?_,?_⟩
   ·intro r2 o2 e j u' hj
    cases e
    rw[bv] at hj
    obtain⟨j',a0,rfl⟩:=br.1 hj
    obtain⟨a1,rfl⟩:j<l.length*E.w th/\j=j':=by
     obtain⟨R,U⟩:=ai.1 a0
     simp at R U
     exact⟨R,U⟩
    obtain⟨s0,R,_⟩:=hc j _ (ao (by rw[Zv hE];exact a1))
    exact b3 _ (ai.1 R).1
   ·intro j sv u' hj a5
    rw[bv] at a5
    obtain⟨j',a0,rfl⟩:=br.1 a5
    obtain⟨a1,rfl⟩:j<l.length*E.w th/\j=j':=by
     obtain⟨R,U⟩:=ai.1 a0
     simp at R U
     exact⟨R,U⟩
    obtain⟨s0,R,U⟩:=hc j sv hj
    exact U _ _ _ (b4 _ _ R)
  split at J
  ·rename_i I l fz hb
   split at J
   ·rename_i hw
    have hw:=ax hw
    obtain⟨e,J⟩:=Y6 J
    subst e
    obtain⟨a4,J⟩:=Zu J
    have hc:∀(j:Nat) sv,(((l.drop off).take len).flatMap (E.enc I))[j]? =ae sv->∃s0,((Blk.rows I l fz).cells E)[off*w'+j]? =ae s0/\∀σ g v,Den E σ g s0 v->Den E σ g sv v:=by
     intro j sv hj
     obtain⟨q,p,x,rfl,hp,hq,hs⟩:=Y3 hE I _ hj
     rw[bO] at hq
     split at hq
     ·rw[cO] at hq
      refine⟨sv,?_,λ_ _ _ h=>h⟩
      simp only[cE]
      rw[hw,<-dH,<-cp,Y7 hE I l _ x hq p hp];exact hs
     ·cases hq
    have b0:((l.drop off).take len).length=len:=by simp at a4⊢;omega
    have a9:k E.lit ((l.drop off).take len) [b]:=by
     revert J
     cases off with
     |zero=>simp only[dW];exact id
     |succ off=>exact id
    exact⟨_,_,_,a9,blk (.rows I l fz) _ hb (by intro es e;cases e) hw b0 hc⟩
   ·exact J.elim
  ·rename_i cs fz tg hb
   split at J
   ·rename_i l hw a3
    have hw:=ax hw
    rw[hw] at a3
    obtain⟨R,U⟩:=Xc hE a3
    refine⟨_,_,_,J,blk (.raw cs fz tg) l hb (by intro es e;cases e) hw R λj sv hj=> ?_⟩
    obtain⟨s0,h3,h4⟩:=U j sv hj
    rw[cO] at h3
    exact⟨s0,by rw[hw];exact h3,h4⟩
   ·exact J.elim
  ·exact J.elim
 ·exact J.elim
end
end
section
open Go.RowKit
section
variable {Y:Thy} {E:Eng Y} {o:Oper} {T:Fr Y} {h:Hp Y} {i:Nat} {k:Res Y->Prop}
theorem Stp.weaken'{i n:Nat} {m m':List Nat} {σ σ1:Pl} {g g1:GH} {w w1:World} (h:Stp i n m σ g w σ1 g1 w1) (R:∀b∈m,b∈m'):Stp i n m' σ g w σ1 g1 w1:=
 ⟨h.sig,h.snew,h.gle,λr o v hv=>(h.gcnew r o v hv).imp id (Or.imp id λ⟨b,I,z,J⟩=>⟨b,R b I,z,J⟩),h.gmnew,λr hr hx=>h.heap r hr λb hb=>hx b (R b hb),h.size,h.os,h.tape,h.output,λb r z I J=>(h.blk b r z I J).imp id λ⟨U,I,z',J⟩=>⟨U,R U I,z',J⟩⟩
theorem Zv0{B:Nat} {σ:Pl} {g:GH} {w:World} {h:Hp Y} (I:Inv E B σ h g w):Inv E B σ h g w.drew:=⟨I.gc,I.gm,I.blk,I.inj,I.base,I.fz,I.fm,I.glob⟩
theorem Zv1{i n:Nat} {m:List Nat} {σ σ':Pl} {g I:GH} {w w':World} (h:Stp i n m σ g w.drew σ' I w'):Stp i n m σ g w σ' I w':=⟨h.sig,h.snew,h.gle,h.gcnew,h.gmnew,h.heap,h.size,h.os,h.tape,h.output,h.blk⟩
theorem Zsr{B:Nat} {σ:Pl} {h U:Hp Y} {g:GH} {w:World} (I:Inv E B σ h g w) (R:∀b x,U b=ae x->h b=ae x):Inv E B σ U g w:=by
 have ne:∀b,U b≠au->h b≠none:=λb hb=>by
  obtain⟨x,J⟩:=aY.1 hb;rw[R b x J];simp
 exact⟨I.gc,I.gm,λb x J=>I.blk b x (R b x J),λb b' r z z' h1 h2=>I.inj b b' r z z' (ne b h1) (ne b' h2),I.base,λb x r z o v J=>I.fz b x r z o v (R b x J),λb x r z J=>I.fm b x r z (R b x J),I.glob⟩
theorem Zy3{B:Nat} {σ:Pl} {h:Hp Y} {g:GH} {w:World} (J:Inv E B σ h g w) {b i r z:Nat} {x:Blk Y} (hb:h b=ae x) (U:σ b=ae (r,z)) (hi:σ i=au):Inv E B (updσ σ i (r,z)) (upd (upd h b au) i (ae x)) g w:=by
 have a5:=Zmy (p:=(r,z)) hi;have a8:b≠i:=by rintro rfl;rw[hi] at U;cases U
 have at_:∀c y,upd (upd h b au) i (ae x) c=ae y->(c=i/\y=x)\/(c≠i/\c≠b/\h c=ae y):=by
  intro c y I;rw[Ze] at I;by_cases e:c=i
  ·rw[jM e] at I;exact .inl ⟨e,(bd I).symm⟩
  ·rw[jJ e,Ze] at I
   by_cases e2:c=b
   ·rw[jM e2] at I;cases I
   ·rw[jJ e2] at I;exact .inr ⟨e,e2,I⟩
 have a4:updσ σ i (r,z) i=ae (r,z):=by simp[updσ]
 have a0:∀c,c≠i->updσ σ i (r,z) c=σ c:=λc I=>by simp[updσ,I]
 refine⟨J.gc,J.gm,?_,?_,?_,?_,?_,J.glob⟩
 ·intro c y I
  rcases at_ c y I with⟨rfl,rfl⟩|⟨h1,h2,h3⟩
  ·obtain⟨r',z',q1,q2⟩:=J.blk b y hb
   rw[U] at q1;cases q1;exact⟨r,z,a4,q2.mono a5 (.refl _) rfl⟩
  ·obtain⟨r',z',q1,q2⟩:=J.blk c y h3
   exact⟨r',z',a5 _ _ q1,q2.mono a5 (.refl _) rfl⟩
 ·intro c c' q z1 z2 h1 h2 s1 s2
  obtain⟨y1,a6⟩:=aY.1 h1;obtain⟨y2,a7⟩:=aY.1 h2;rcases at_ c y1 a6 with⟨rfl,_⟩|⟨a1,a2,a3⟩<;>rcases at_ c' y2 a7 with⟨rfl,_⟩|⟨b1,b2,b3⟩
  ·rfl
  ·rw[a4] at s1;cases s1;rw[a0 _ b1] at s2
   exact ka (J.inj _ _ _ _ _ (by rw[b3];simp) (by rw[hb];simp) s2 U) b2
  ·rw[a4] at s2;cases s2;rw[a0 _ a1] at s1
   exact ka (J.inj _ _ _ _ _ (by rw[a3];simp) (by rw[hb];simp) s1 U) a2
  ·rw[a0 _ a1] at s1;rw[a0 _ b1] at s2
   exact J.inj _ _ _ _ _ (by rw[a3];simp) (by rw[b3];simp) s1 s2
 ·intro c r' z' I
  by_cases e:c=i
  ·subst e;rw[a4] at I;cases I;exact J.base _ _ _ U
  ·rw[a0 _ e] at I;exact J.base _ _ _ I
 ·intro c y r' z' n v I R hg
  rcases at_ c y I with⟨rfl,rfl⟩|⟨h1,h2,h3⟩
  ·rw[a4] at R;cases R;exact J.fz _ _ _ _ _ _ hb U hg
  ·rw[a0 _ h1] at R;exact J.fz _ _ _ _ _ _ h3 R hg
 ·intro c y r' z' I R
  rcases at_ c y I with⟨rfl,rfl⟩|⟨h1,h2,h3⟩
  ·rw[a4] at R;cases R;exact J.fm _ _ _ _ hb U
  ·rw[a0 _ h1] at R;exact J.fm _ _ _ _ h3 R
theorem Zph(I:EngOk E) (th:Y.Th) (l:List (Y.dom th)) {j:Nat} {J:SV Y} (h:(l.flatMap (E.enc th))[j]? =ae J):leaf J=true:=by
 obtain⟨q,p,x,_,_,_,R⟩:=Y3 I th l h;exact Vx (I.leaf th x) R
theorem Zlb{th:Y.Th} (R:EngOk E) {σ:Pl} {g:GH} {U l2:List (Y.dom th)} {a0 a1:List Value} (h1:a0.length=U.length*E.w th) (d1:∀(j:Nat) I u,(U.flatMap (E.enc th))[j]? =ae I->a0[j]? =ae u->Den E σ g I u)
 (h2:a1.length=l2.length*E.w th) (d2:∀(j:Nat) I u,(l2.flatMap (E.enc th))[j]? =ae I->a1[j]? =ae u->Den E σ g I u) {j:Nat} {I:SV Y} (J:((U++l2).flatMap (E.enc th))[j]? =ae I):∃u,(a0++a1)[j]? =ae u/\Den E σ g I u:=by
 rw[List.flatMap_append] at J
 by_cases e:j<U.length*E.w th
 ·rw[bJ (by rw[Zv R];exact e)] at J
  rw[bJ (by omega)]
  exact⟨_,ao (by omega),d1 j I _ J (ao (by omega))⟩
 ·rw[bx (by rw[Zv R];omega),Zv R] at J
  rw[bx (by omega),h1]
  have a2:=(ai.1 J).1
  rw[Zv R] at a2
  exact⟨_,ao (by omega),d2 _ I _ J (ao (by omega))⟩
theorem Zmw{v:Value} (I:Za4 (.val v:SV Y)=ac):v= .slice au 0 0:=by
 unfold Za4 at I;split at I<;>simp_all
theorem Zy4{σ:Pl} {g:GH} {x:SV Y} {v:Value} (J:Za4 x=ac) (h:Den E σ g x v):∃base n c,v= .slice base n c/\n<=c:=by
 cases x with
 |val u=>have:=Zmw J;subst this;cases h;exact⟨au,0,0,rfl,av _⟩
 |psl th l f=>obtain⟨base,c,R,e,I,_⟩:=V2 h;exact⟨_,_,_,e,I⟩
 |sl b off len w cap=>obtain⟨r,z,c,e,_,_,I,_⟩:=Vc h;exact⟨_,_,_,e,I⟩
 |_=>simp[Za4] at J
theorem Zii{P:Program} {t ty el:TypeId} {info:TypeInfo} (ht:P.underlying t=ae (.slice el)) (hi:P.info? el=ae info) {I R:Option Addr} {n1 J U:Nat} (a0:n1<=J) {w:World}:(gC #[t,t] ty #[.slice I n1 J,.slice R 0 U]).run P w= .ok (.slice I n1 J) w:=by
 cases I<;>cases R<;>simp[gC,run_underlying ht,sizeOf,typeInfo,hi,iK,gV,loadCells,loadCellsFrom,storeCells,a0]
theorem Zmx(h:Hp Y) (i b:Nat) (x:Blk Y) (v:SV Y) (rd:Option (List Nat)) (R:b≠i):patch h i ⟨v,1,[b],at1 i (ae x),rd⟩=upd (upd h b au) i (ae x):=by
  funext j;rw[Zp,Ze,Ze];by_cases e:j=i
  ·subst e
   rw[jM (by right;simp),jM rfl];simp[at1]
  ·have:aO j i=false:=by rw[<-bg,fp];exact e
   rw[jJ e];by_cases I:j=b
   ·rw[jM (by left;simp[I]),jM I];simp[at1,this]
   ·rw[jJ (by rintro(J|J); · simp at J;exact I J
              ·simp at J;omega),jJ I]
theorem Zy5(hE:EngOk E) {c:Call} (hc:c.callee= .builtin .append) (ho:o.op= .call c) {t:TypeId} {x y:Operand} (ha:c.args.toList= [x,y]) (g6:c.argTypes.toList= [t,t]) (I:Zr7 E t (ev T x) (ev T y) h i k):∃r,k r/\OpTri E o T h i r:=by
 have mx:x∈o.op.operands.toList:=by
  have:x∈c.args.toList:=by rw[ha];simp
  simp[ho,aQ,dz,hc];simpa using this
 have my:y∈o.op.operands.toList:=by
  have:y∈c.args.toList:=by rw[ha];simp
  simp[ho,aQ,dz,hc];simpa using this
 have g5:c.args= #[x,y]:=by rw[<-fE (xs:=c.args),ha]
 have i9:c.argTypes= #[t,t]:=by rw[<-fE (xs:=c.argTypes),g6]
 have run:∀(w w':World) (ρ:Operand->Value) (u:Value),(gC #[t,t] o.type #[ρ x,ρ y]).run E.P w= .ok u w'->(execOp ρ o).run E.P w= .ok (.value u) w':=by
  intro w w' ρ u hl;unfold execOp;simp only[ho,resolve,hc,aF,aJ,aA,invoke,builtin,g5,i9];rw[show(#[x,y].map ρ)= #[ρ x,ρ y] by simp,hl];rfl
 unfold Zr7 at I;split at I
 ·rename_i el sz j2 z ht
  split at I
  ·rename_i ti th g0 b6
   split at I
   ·exact I.elim
   ·rename_i f6
    simp only[aq] at f6;obtain⟨⟨d7,i6⟩,e8⟩:=f6;have d7:0<ti.bytes:=Yq d7;have e8:(Yn ti.zero:SV Y).cells.length=E.w th:=ax e8;have c6:E.thOf el=ae th/\E.el th=el:=by
     unfold Zcx at b6;split at b6
     ·rename_i j7 h1
      split at b6
      ·rename_i h2
       cases b6;exact⟨h1,ax h2⟩
      ·cases b6
     ·cases b6
    have a6:ti.size=E.w th:=hE.thOf el th ti c6.1 g0;have j3:=hE.pos th;obtain⟨hu,_⟩:=hE.ty _ _ ht;obtain⟨_,info,c3,a5,e3,e4⟩:=hE.ty _ _ g0;have e9:ti.zero.cells.size=E.w th:=by rw[<-(Yi (E:=E) ti.zero).1];exact e8
    obtain⟨lit,J,f1,I,d8⟩:=Zeq hE I;have g2:∀n,n*ti.bytes<=140737488355328->n<=140737488355328:=λn hn=>bS (Nat.le_mul_of_pos_right n d7) hn;rcases Z4t I with⟨i1,c4⟩|⟨e7,c4⟩
    ·clear I;have I:=c4;clear c4
     subst i1;refine⟨_,I,λb hb=>by simp[quiet] at hb,?_⟩;intro B σ g w ρ hh a7 hI hB c8 hx;obtain⟨b2,c2,a0,C2⟩:=d8 hh σ g w B (ρ y) (λb hb=>a7 b hb) hI (hx y my);obtain⟨b1,n1,c1,e1,e6⟩:=Zy4 i6 (hx x mx);refine Yp (run w w ρ (ρ x) ?_) ⟨σ,g,.refl _ _ _ _,by rw[Y4];exact hI,hx x mx⟩;rw[C2.v,e1];exact Zii hu c3 e6
    ·clear I;have I:=c4;clear c4
     have c9:0<J.length:=jv.2 e7
     have f0:∀(U:List (Y.dom th)) (rd:List Nat),(∀(B:Nat) (σ:Pl) (g:GH) (w:World) (ρ:Operand->Value) (hh:Hp Y),(∀b∈rd,hh b=h b)->Inv E B σ hh g w->(∀x∈o.op.operands.toList,Den E σ g (ev T x) (ρ x))->
      ∃base c us,Cont E σ g w th U (ρ x) base c us/\c<U.length+J.length)->(U.length+J.length)*ti.bytes<=140737488355328->
      k (fresh i (.sl i 0 (U.length+J.length) (E.w th) au) (.rows th (U++J) 0) (rd++f1))->∃r,k r/\OpTri E o T h i r:=by
      intro U rd h1 a3 I;refine⟨_,I,λb hb=>by simp[fresh] at hb,?_⟩;intro B σ g w ρ hh a7 hI hB c8 hx;have c5:∀b∈rd++f1,hh b=h b:=a7;obtain⟨b1,c1,b0,C1,b5⟩:=h1 B σ g w ρ hh (λb hb=>c5 b (by simp[hb])) hI hx;obtain⟨b2,c2,a0,C2⟩:=d8 hh σ g w B (ρ y) (λb hb=>c5 b (by simp[hb])) hI (hx y my);obtain⟨r2,o2,a4⟩:=C2.some c9;have hn:=g2 _ a3;have b4:=c8 i (av _) (dC _)
      have i4:∃(cap:Nat) (rest:Array Value),(gC #[t,t] o.type #[ρ x,ρ y]).run E.P w= .ok (.slice (ae ⟨w.heap.size,0,au⟩) (U.length+J.length) cap) (w.drew.alloc (.cells ((b0++a0).toArray++rest) el))/\U.length+J.length<=cap/\cap<=maxLen/\rest.size=(cap-(U.length+J.length))*E.w th:=by
       rw[C1.v,C2.v,a4];cases hq:b1 with
       |none=>
        have b3:=C1.nil hq;have e5:U.length=0:=by have:=C1.le;omega
        have b7:b0= []:=cH (by rw[C1.len,e5];simp);have:=run_append_nil (P:=E.P) w t o.type el info ti.zero hu c3 e4 ⟨r2,o2,au⟩ J.length c2 a0 (by rw[C2.len,a5,a6]) (λj u R=>by rw[Y1];exact C2.cell r2 o2 a4 j u R) c9 (by omega) (by rw[e3];rw[e5,bq] at a3;omega);rw[b3,e5,b7,bq,List.nil_append];refine⟨_,_,this,grownCap_ge w _ _ _,grownCap_le_maxLen w _ _ _ (by unfold maxLen;omega),?_⟩;rw[size_zeroCells,e9]
       |some a1=>
        have:=run_append_grow (P:=E.P) w t o.type el info ti.zero hu c3 e4 a1 U.length c1 b0 (by rw[C1.len,a5,a6]) (λj u R=>by
         have h6:0<U.length:=by
          have h1:=(ai.1 R).1;rw[C1.len] at h1;rcases jO U.length with e|e
          ·rw[e] at h1;simp at h1
          ·exact e
         obtain⟨r1,o1,f3⟩:=C1.some h6;rw[hq] at f3;cases f3
         rw[Y1];exact C1.cell r1 o1 hq j u R) ⟨r2,o2,au⟩ J.length c2 a0 (by rw[C2.len,a5,a6]) (λj u R=>by rw[Y1];exact C2.cell r2 o2 a4 j u R) b5 (by omega) (by rw[e3];exact growslice_fits b5 a3)
        refine⟨grownCap w (U.length+J.length) c1 el,cq ti.zero.cells (grownCap w (U.length+J.length) c1 el-(U.length+J.length)),by rw[this];simp,grownCap_ge w _ _ _,grownCap_le_maxLen w _ _ _ (by unfold maxLen;omega),?_⟩;rw[size_zeroCells,e9]
      obtain⟨cap,rest,a8,b3,g8,i5⟩:=i4;have c7:((b0++a0).toArray++rest).size=cap*E.w th:=by
       have e1:=C1.len;have e2:=C2.len;simp only[jG,ik,az,e1,e2,i5,<-cp]
       congr 1;omega
      obtain⟨q1,q2⟩:=Zil (i:=i) (Zv0 hI) (by simpa using hB) b4 (arr:=(b0++a0).toArray++rest) (e:=el) (blk:= .rows th (U++J) 0) (by intro es e;cases e) c6.2.symm
       (by simp only[cE];rw[Zv hE,c7,az];exact bb _ b3)
       (λj sv R=>by
        obtain⟨u,hu,hd⟩:=Zlb hE C1.len C1.den C2.len C2.den R;refine⟨u,?_,hd⟩;rw[fT (by simpa using(ai.1 hu).1)]
        simpa using hu)
      refine Yp (run w _ ρ _ a8) ⟨_,_,Zv1 q2,by rw[Zaa];exact q1,?_⟩;have:=Den.sl (E:=E) (g:=g) (σ:=updσ σ i (w.drew.heap.size,((b0++a0).toArray++rest).size)) (b:=i) (off:=0) (len:=U.length+J.length) (w:=E.w th) (c:=cap) (cap:=none) (r:=w.heap.size) (z:=((b0++a0).toArray++rest).size) (by simp[updσ]) (by rw[c7];simp) b3 g8 (λm e=>by cases e);show Den E _ g (.sl i 0 (U.length+J.length) (E.w th) au) _
      simpa using this
     split at I
     ·--nil
      rename_i hX;obtain⟨hp,I⟩:=Zu I;refine f0 [] [] (λB σ g w ρ hh _ hI hx=> ?_) (by simpa using hp) (by simpa using I);have:=hx x mx;rw[hX] at this;generalize ρ x=v at this;cases this;exact⟨au,0,[],{v:=rfl,le:=av _,mx:=by{unfold maxLen;omega},nil:=λ_=>rfl,some:=λh=>ka h (by simp),len:=by simp,cell:=λr o e=>(by cases e),den:=λj sv u h _=>ka h (by simp)},by simpa using c9⟩
     ·rename_i th' U hX
      obtain⟨e,I⟩:=Y6 I;subst e;obtain⟨a3,I⟩:=Zu I;refine f0 U [] (λB σ g w ρ hh _ hI hx=> ?_) a3 (by simpa using I);have hd:=hx x mx;rw[hX] at hd
      obtain⟨j4,l',j6,hq,i3⟩:=Zeq (E:=E) hE (h:=h) (th:=th') (x:= .psl th' U ac) (k:=λlit l rd=>l=U/\rd= []) (by
       unfold Zr6 U6;simp only;split
       ·simp
       ·rename_i hn _;exact hn rfl)
      obtain⟨rfl,rfl⟩:=hq;obtain⟨base,c,us,C⟩:=i3 hh σ g w B (ρ x) (by simp) hI hd;obtain⟨j1,c',cv,e1,_,_,hf,_⟩:=V2 hd;have e2:=C.v;rw[e1] at e2;cases e2;exact⟨_,_,us,C,by have:=hf rfl;omega⟩
     ·rename_i b off len w' c0 hX
      obtain⟨j5,U,j0,I,b3⟩:=Zeq hE I;obtain⟨⟨b5,a3⟩,I⟩:=Zu I;refine f0 U j0 (λB σ g w ρ hh a7 hI hx=> ?_) a3 I;have hd:=hx x mx;rw[hX] at hd;obtain⟨base,c,us,C⟩:=b3 hh σ g w B (ρ x) a7 hI hd;obtain⟨r,z,c',e1,_,_,_,_,f4⟩:=Vc hd;have e2:=C.v;rw[e1] at e2;cases e2;exact⟨_,_,us,C,by have:=f4 c0 rfl;omega⟩
     ·rename_i b len w' hX
      split at I
      ·rename_i th' l fz hb
       split at I
       ·rename_i hw
        obtain rfl:w'=E.w th:=ax hw;have e:=Yas I;subst e;obtain⟨⟨e6,h4,a3⟩,I⟩:=Zu (Zzs I);refine⟨_,Zvf I,λb' a2=>by(simp at a2;subst a2;rw[hb];simp),?_⟩;intro B σ g w ρ hh a7 hI hB c8 hx;have c5:∀b'∈b::f1,hh b'=h b':=a7;have a2:=(c5 b (by simp)).trans hb;obtain⟨b2,c2,a0,C2⟩:=d8 hh σ g w B (ρ y) (λb' a2=>c5 b' (by simp[a2])) hI (hx y my);obtain⟨r2,o2,a4⟩:=C2.some c9;have hd:=hx x mx;rw[hX] at hd;obtain⟨r,z',c1,e1,b8,hz,h5,h8,_⟩:=Vc hd;rw[bq] at hz;rw[Nat.zero_mul] at e1;obtain⟨r',j8,g3,g7⟩:=hI.blk b _ a2;rw[b8] at g3;cases g3
        obtain⟨arr,e,ha,c7,f7,f5,h0⟩:=(BlkOk.cells_iff (by intro es e;cases e)).1 g7;have h3:e=E.el th':=h0;rw[h3,c6.2] at ha;simp only[cE] at f7 f5;rw[Zv hE] at f7;have b4:=c8 i (av _) (dC _);have e7:b≠i:=by rintro rfl;rw[b4] at b8;cases b8
        have hn:=g2 _ a3;have e2:=C2.len;have h7:len*E.w th'<=arr.size:=by
         have:=bb (E.w th') h5;omega
        have i2:∀u∈a0,u.oneCell'=true:=by
         intro u hu;obtain⟨j,R,rfl⟩:=dd hu;have g1:j<(J.flatMap (E.enc th')).length:=by rw[Zv hE];omega
         exact Uo (Zph hE th' J (ao g1)) (C2.den j _ _ (ao g1) (ao R))
        have b7:(arr.toList.take (len*E.w th')).length=(l.take len).length*E.w th':=by
         rw[bi,bi,iX (by simpa using h7),iX e6]
        have g9:∀(j:Nat) sv u,((l.take len).flatMap (E.enc th'))[j]? =ae sv->(arr.toList.take (len*E.w th'))[j]? =ae u->Den E σ g sv u:=by
         intro j sv u h1 h2;obtain⟨q,p,y',rfl,hp,hq,hs⟩:=Y3 hE th' _ h1;rw[bO] at hq h2;split at hq
         ·split at h2
          ·obtain⟨u',a9,b9⟩:=f5 (q*E.w th'+p) sv (by rw[Y7 hE th' l q y' hq p hp];exact hs)
           rw[show arr.toList[q*E.w th'+p]? =arr[q*E.w th'+p]? by simp,a9] at h2;cases h2;exact b9
          ·cases h2
         ·cases hq
        have d4:(l.take len).length=len:=by simp;omega
        have f9:∀(j:Nat) sv,(((l.take len)++J).flatMap (E.enc th'))[j]? =ae sv->∃u,(arr.toList.take (len*E.w th')++a0)[j]? =ae u/\Den E σ g sv u:=λj sv R=>Zlb hE b7 g9 C2.len C2.den R;rw[Zmx _ _ _ _ _ _ e7];by_cases d5:len+J.length<=c1
        ·have d9:len*info.size+a0.length<=arr.size:=by
          rw[a5,a6,e2,<-cp];have:=bb (E.w th') d5;omega
         have a8:=run_append_room (P:=E.P) w t o.type el info hu c3 r len c1 arr ha ⟨r2,o2,au⟩ J.length c2 a0 (by rw[e2,a5,a6]) (λj u R=>by rw[Y1];exact C2.cell r2 o2 a4 j u R) i2 d5 d9;rw[a5,a6] at a8 d9;have i7:=Yw arr.toList a0 (len*E.w th') (by simpa using d9);obtain⟨q1,q2⟩:=Zdg (i:=i) hI (blk':= .rows th' (l.take len++J) fz) a2 b8 (arr':=(arr.toList.take (len*E.w th')++a0++arr.toList.drop (len*E.w th'+a0.length)).toArray) ha (by simp;omega) c7 c6.2.symm (by intro es e;cases e) rfl
          (λn h9=>by
           simp only[gT] at h9;have:=bb (E.w th') h4
           rw[bU,i7,jM (by omega)];simp)
          (by simp only[cE];rw[Zv hE,az,d4];have:=bb (E.w th') d5;omega)
          (λj sv R=>by
           obtain⟨u,a9,b9⟩:=f9 j sv R;refine⟨u,?_,b9⟩
           rw[bU,bJ (ai.1 a9).1];exact a9)
         have q3:=Zy3 (b:=b) (i:=i) q1 (by rw[Ze,jM rfl]) b8 b4;have eh:upd (upd (upd hh b (ae (.rows th' (l.take len++J) fz))) b au) i (ae (.rows th' (l.take len++J) fz))=upd (upd hh b au) i (ae (.rows th' (l.take len++J) fz)):=by
          funext j;simp only[Ze];by_cases c1:j=i<;>by_cases c2:j=b<;>simp[c1,c2]
         rw[eh] at q3;refine Yp (run w _ ρ _ (by rw[C2.v,e1,a4];exact a8)) ⟨_,g,⟨Zmy b4,?_,q2.gle,q2.gcnew,q2.gmnew,q2.heap,q2.size,q2.os,q2.tape,q2.output,?_⟩,q3,?_⟩
         ·intro b' p a2
          unfold updσ at a2;by_cases c:b'=i
          ·right;simp[c]
          ·rw[jJ c] at a2;exact .inl a2
         ·intro b' r' z2 h1 h2
          unfold updσ at h2;by_cases c:b'=i
          ·rw[jM c] at h2;cases h2;exact .inr ⟨b,by simp,_,b8⟩
          ·rw[jJ c,h1] at h2;cases h2
         ·have:=Den.sl (E:=E) (g:=g) (σ:=updσ σ i (r,z')) (b:=i) (off:=0) (len:=len+J.length) (w:=E.w th') (c:=c1) (cap:=none) (r:=r) (z:=z') (by simp[updσ]) (by simpa using hz) d5 h8 (λm e=>by cases e)
          simpa using this
        ·have b5:c1<len+J.length:=by omega
         have a8:=run_append_grow (P:=E.P) w t o.type el info ti.zero hu c3 e4 ⟨r,0,au⟩ len c1 (arr.toList.take (len*E.w th')) (by rw[b7,d4,a5,a6]) (λj u R=>by
          rw[Y1,bq];rw[bO] at R;split at R
          ·simp only[jl,ha];simpa using R
          ·cases R) ⟨r2,o2,au⟩ J.length c2 a0 (by rw[e2,a5,a6]) (λj u R=>by rw[Y1];exact C2.cell r2 o2 a4 j u R) b5 (by omega) (by rw[e3];exact growslice_fits b5 a3)
         have e0:=grownCap_ge w (len+J.length) c1 el;have f8:=grownCap_le_maxLen w (len+J.length) c1 el (by unfold maxLen;omega);generalize f4:grownCap w (len+J.length) c1 el=cap at a8 e0 f8
         have g4:Inv E B σ (upd hh b au) g w.drew:=Zv0 (Zsr hI λb' x' d6=>by
          rw[Ze] at d6;split at d6
          ·cases d6
          ·exact d6)
         have f2:((arr.toList.take (len*E.w th')).toArray++a0.toArray++cq ti.zero.cells (cap-(len+J.length))).size=cap*E.w th':=by
          rw[d4] at b7;simp only[jG,ik,b7,e2,size_zeroCells,e9,<-cp]
          congr 1;omega
         obtain⟨q1,q2⟩:=Zil (i:=i) g4 (by simpa using hB) b4 (arr:=(arr.toList.take (len*E.w th')).toArray++a0.toArray++cq ti.zero.cells (cap-(len+J.length))) (e:=el) (blk:= .rows th' (l.take len++J) fz) (by intro es e;cases e) c6.2.symm
          (by simp only[cE];rw[Zv hE,f2,az,d4];exact bb _ e0)
          (λj sv R=>by
           obtain⟨u,a9,b9⟩:=f9 j sv R;refine⟨u,?_,b9⟩;rw[fT (by have:=(ai.1 a9).1;simpa using this)]
           simpa using a9)
         refine Yp (run w _ ρ _ (by rw[C2.v,e1,a4];exact a8)) ⟨_,g,Zv1 (q2.weaken' (by simp)),q1,?_⟩;have:=Den.sl (E:=E) (g:=g) (σ:=updσ σ i (w.drew.heap.size,((arr.toList.take (len*E.w th')).toArray++a0.toArray++cq ti.zero.cells (cap-(len+J.length))).size)) (b:=i) (off:=0) (len:=len+J.length) (w:=E.w th') (c:=cap) (cap:=none) (r:=w.heap.size) (z:=((arr.toList.take (len*E.w th')).toArray++a0.toArray++cq ti.zero.cells (cap-(len+J.length))).size) (by simp[updσ]) (by rw[f2];simp) e0 f8 (λm e=>by cases e)
         simpa using this
       ·exact I.elim
      ·exact I.elim
     ·exact I.elim
  ·exact I.elim
 ·exact I.elim
end
end
section
open Go.RowKit
section
variable {Y:Thy} {E:Eng Y} {o:Oper} {T:Fr Y} {h:Hp Y} {i:Nat} {k:Res Y->Prop}
def mxP(m cap:Nat):Option (IntKind×Int)->Prop|none=>m=cap|some q=>0<=q.2/\q.2<=cap/\m=q.2.toNat
def hiP(h m len cap:Nat):Option (IntKind×Int)->Option (IntKind×Int)->Prop|none,au=>h=len|some q,au=>0<=q.2/\q.2<=cap/\h=q.2.toNat|some q,ae _=>0<=q.2/\q.2<=m/\h=q.2.toNat|none,ae _=>False
def loP(l h:Nat):Option (IntKind×Int)->Prop|none=>l=0|some q=>0<=q.2/\q.2<=h/\l=q.2.toNat
def bnd(r:Option (Bool×IntKind×Int)):Option (IntKind×Int):=r.map λq=>(q.2.1,q.2.2)
theorem Vv{P:Program} {b:Bool} {len cap:Nat} {lo hi mx:Option (IntKind×Int)} {l h m:Nat} (w:World)
 (hm:mxP m cap mx) (U:hiP h m len cap hi mx) (I:loP l h lo):
 (ey b len cap (lo.map λx=> .int x.1 x.2) (hi.map λx=> .int x.1 x.2) (mx.map λx=> .int x.1 x.2)).run P w= .ok (l,h,m) w:=by
 have bound:∀(kd:IntKind) (x:Int) (y:Nat) (c:BoundsCode),0<=x->x<=y->(jP (.int kd x) y c).run P w= .ok x.toNat w:=by
  intro kd x y c J R
  simp only[jP,asIntOf,aF,aJ,aA]
  rw[jM ⟨J,R⟩];rfl
 unfold ey
 cases mx with
 |none=>
  have hm:m=cap:=hm;subst hm
  cases hi with
  |none=>
   have U:h=len:=U;subst U
   cases lo with
   |none=>have I:l=0:=I;subst I;simp only[eZ,aF,aJ,aA]
   |some x=>obtain⟨J,R,rfl⟩:=I;simp only[eZ,cm,aF,aJ,aA,bound _ _ _ _ J R]
  |some y=>
   obtain⟨h3,h4,rfl⟩:=U
   cases lo with
   |none=>have I:l=0:=I;subst I;simp only[eZ,cm,aF,aJ,aA,bound _ _ _ _ h3 h4]
   |some x=>obtain⟨J,R,rfl⟩:=I;simp only[eZ,cm,aF,aJ,aA,bound _ _ _ _ h3 h4,bound _ _ _ _ J R]
 |some z=>
  obtain⟨h5,h6,rfl⟩:=hm
  cases hi with
  |none=>exact U.elim
  |some y=>
   obtain⟨h3,h4,rfl⟩:=U
   cases lo with
   |none=>have I:l=0:=I;subst I;simp only[eZ,cm,aF,aJ,aA,bound _ _ _ _ h5 h6,bound _ _ _ _ h3 h4]
   |some x=>obtain⟨J,R,rfl⟩:=I;simp only[cm,aF,aJ,aA,bound _ _ _ _ h5 h6,bound _ _ _ _ h3 h4,bound _ _ _ _ J R]
theorem Z1v(hE:EngOk E) {σ:Pl} {g:GH} {th:Y.Th} {l:List (Y.dom th)} {full J:Bool} {base:Option Addr} {c:Nat} (hd:Den E σ g (.psl th l full) (.slice base l.length c)) {a b m:Nat} (a2:a<=b) (hb:b<=l.length) (hm:m<=c) (a3:b<=m) (hf:J=ac->m=b):
 Den E σ g (.psl th ((l.take b).drop a) J) (.slice (if m=a then base else base.map (·.add (a*E.w th))) (b-a) (m-a)):=by
 obtain⟨a1,c',cv,e,h1,h2,h3,h4,h5,h6⟩:=V2 hd
 cases e
 have a0:((l.take b).drop a).length=b-a:=by simp;omega
 have R:∀q x,((l.take b).drop a)[q]? =ae x->l[a+q]? =ae x:=by
  intro q x I
  rw[cO,bO] at I
  split at I
  ·exact I
  ·cases I
 rw[<-a0]
 refine .psl (λq j=>cv (a+q) j) (by omega) (by omega) (λI=>by have:=hf I;omega) ?_ ?_ (λq x I j sv hs=>h6 _ x (R q x I) j sv hs)
 ·intro U
  by_cases e:m=a
  ·omega
  ·rw[jJ e] at U
   cases base with
   |none=>have:=h4 rfl;omega
   |some ad=>simp at U
 ·intro hp
  have e:¬m=a:=by omega
  obtain⟨r,o,rfl,hc⟩:=h5 (by omega)
  rw[jJ e]
  refine⟨r,o+a*E.w th,by simp[Y1],λq x I j hj=> ?_⟩
  have:=hc _ x (R q x I) j hj
  rw[cp] at this
  rw[show o+a*E.w th+q*E.w th+j=o+(a*E.w th+q*E.w th)+j by omega];exact this
theorem Z1w(hE:EngOk E) {t:TypeId} {x:Operand} {lo hi mx:Option Operand} (ho:o.op= .slice t x lo hi mx) (I:Z2a E t (ev T x) (lo.map (ev T)) (hi.map (ev T)) (mx.map (ev T)) h k):∃r,k r/\OpTri E o T h i r:=by
 have m0:x∈o.op.operands.toList:=by simp[ho,aQ]
 have m1:∀y,lo=ae y->y∈o.op.operands.toList:=by rintro y rfl;simp[ho,aQ]
 have m2:∀y,hi=ae y->y∈o.op.operands.toList:=by rintro y rfl;simp[ho,aQ]
 have m3:∀y,mx=ae y->y∈o.op.operands.toList:=by rintro y rfl;simp[ho,aQ]
 have rd:∀(σ:Pl) (g:GH) (ρ:Operand->Value),(∀x∈o.op.operands.toList,Den E σ g (ev T x) (ρ x))->∀(z:Option Operand) (r:Option (Bool×IntKind×Int)),(∀y,z=ae y->y∈o.op.operands.toList)->z.map (ev T)=r.map (λq=> .int q.1 q.2.1 q.2.2)->
  z.map ρ=(bnd r).map λq=> .int q.1 q.2:=by
  intro σ g ρ hx z r hz he;cases z with
  |none=>cases r with
   |none=>rfl
   |some q=>simp at he
  |some y=>cases r with
   |none=>simp at he
   |some q=>
    have:=hx y (hz y rfl);simp only[cm,cr] at he;rw[he] at this;generalize hv:ρ y=v at this;cases this;simp[hv,bnd]
 have b4:∀(w:World) (ρ:Operand->Value) (el:TypeId) (sz a6:Nat) (z:Value) (base:Option Addr) (len cap:Nat) (a b m:Nat),E.ty t=ae ⟨.slice el,sz,a6,z⟩->(∃ti,E.ty el=ae ti)->ρ x= .slice base len cap->
  (ey ac len cap (lo.map ρ) (hi.map ρ) (mx.map ρ)).run E.P w= .ok (a,b,m) w->(execOp ρ o).run E.P w= .ok (.value (.slice (if m=a then base else base.map (·.add (a*((E.ty el).map (·.size)).getD 0))) (b-a) (m-a))) w:=by
  intro w ρ el sz a6 z base len cap a b m ht ⟨ti,b7⟩ hv hb;unfold execOp;simp only[ho,gZ,aF,Zx hE ht,aA,kN,hv,hb,Zz hE b7,aJ,b7,cm,cZ]
 have a3:∀(z:Option Operand) (l:Bool) (kd:IntKind) (n:Int),z.map (ev T)=ae (.int l kd n)->z.map (ev T)=(ae (l,kd,n):Option (Bool×IntKind×Int)).map (λq=> .int q.1 q.2.1 q.2.2):=λz l kd n h=>h;have a1:∀(z:Option Operand),z.map (ev T)=au->z.map (ev T)=(au:Option (Bool×IntKind×Int)).map (λq=> .int q.1 q.2.1 q.2.2):=λz h=>h;unfold Z2a at I;split at I
 ·rename_i el sz a6 z th l full ht hX
  split at I
  ·rename_i ti a7
   have a2:∀(rl rh rm:Option (Bool×IntKind×Int)) (a b:Nat) (b3:Bool),ti.size=E.w th->lo.map (ev T)=rl.map (λq=> .int q.1 q.2.1 q.2.2)->hi.map (ev T)=rh.map (λq=> .int q.1 q.2.1 q.2.2)->mx.map (ev T)=rm.map (λq=> .int q.1 q.2.1 q.2.2)->a<=b->b<=l.length->
    (∀c,l.length<=c->(full=ac->c=l.length)->∃m,m<=c/\b<=m/\(b3=ac->m=b)/\mxP m c (bnd rm)/\hiP b m l.length c (bnd rh) (bnd rm)/\loP a b (bnd rl))->
    OpTri E o T h i (quiet [] (.psl th ((l.take b).drop a) b3)):=by
    intro rl rh rm a b b3 hw e1 e2 e3 b9 hb hm;refine Zr λB σ g w ρ hh _ hI hx=> ?_;have hd:=hx x m0;rw[hX] at hd;obtain⟨base,c,cv,e,hl,_,hf,_⟩:=V2 hd;obtain⟨m,q1,q2,q3,q4,q5,q6⟩:=hm c hl hf;rw[e] at hd;have a5:=Vv (P:=E.P) (b:=true) w q4 q5 q6;rw[<-rd σ g ρ hx lo rl m1 e1,<-rd σ g ρ hx hi rh m2 e2,<-rd σ g ρ hx mx rm m3 e3] at a5;refine⟨_,b4 w ρ el sz a6 z base _ c a b m ht ⟨ti,a7⟩ e a5,?_⟩;rw[a7];simp only[cm,cZ,hw];exact Z1v hE hd b9 hb q1 q2 q3
   split at I
   ·rename_i hw J R U
    refine⟨_,I,?_⟩;have:=a2 au au au 0 l.length full (ax hw) (a1 _ J) (a1 _ R) (a1 _ U) (by omega) (by omega) (λc hc hf=>⟨c,by omega,hc,hf,rfl,rfl,rfl⟩)
    simpa using this
   ·rename_i l' kd b hw J R U
    obtain⟨⟨p1,p2⟩,I⟩:=Zu I;refine⟨_,I,?_⟩;have:=a2 au (ae (l',kd,b)) au 0 b.toNat ab (ax hw) (a1 _ J) (a3 _ _ _ _ R) (a1 _ U) (by omega) (by omega) (λc hc hf=>⟨c,by omega,by omega,by simp,rfl,(by dsimp only[bnd,cL,hiP];omega),rfl⟩)
    simpa using this
   ·rename_i l' kd a hw J R U
    obtain⟨⟨p1,p2⟩,I⟩:=Zu I;refine⟨_,I,?_⟩;have:=a2 (ae (l',kd,a)) au au a.toNat l.length full (ax hw) (a3 _ _ _ _ J) (a1 _ R) (a1 _ U) (by omega) (by omega) (λc hc hf=>⟨c,by omega,by omega,hf,rfl,rfl,(by dsimp only[bnd,cL,loP];omega)⟩)
    simpa using this
   ·rename_i l1 k1 a l2 k2 b hw J R U
    obtain⟨⟨p1,p2,p3⟩,I⟩:=Zu I;exact⟨_,I,a2 (ae (l1,k1,a)) (ae (l2,k2,b)) au a.toNat b.toNat ab (ax hw) (a3 _ _ _ _ J) (a3 _ _ _ _ R) (a1 _ U) (by omega) (by omega) (λc hc hf=>⟨c,by omega,by omega,by simp,rfl,(by dsimp only[bnd,cL,hiP];omega),(by dsimp only[bnd,cL,loP];omega)⟩)⟩
   ·rename_i l2 k2 b l3 k3 c0 hw J R U
    obtain⟨⟨p1,pe,p3⟩,c9⟩:=Zu I;clear I;subst pe;refine⟨_,c9,?_⟩;have:=a2 au (ae (l2,k2,b)) (ae (l3,k3,b)) 0 b.toNat ac (ax hw) (a1 _ J) (a3 _ _ _ _ R) (a3 _ _ _ _ U) (by omega) (by omega) (λc hc hf=>⟨b.toNat,by omega,by omega,λ_=>rfl,(by dsimp only[bnd,cL,mxP];omega),(by dsimp only[bnd,cL,hiP];omega),rfl⟩)
    simpa using this
   ·exact I.elim
  ·exact I.elim
 ·rename_i el sz a6 z ht hX
  split at I
  ·rename_i ti a7
   have a2:∀(rl rh rm:Option (Bool×IntKind×Int)),lo.map (ev T)=rl.map (λq=> .int q.1 q.2.1 q.2.2)->hi.map (ev T)=rh.map (λq=> .int q.1 q.2.1 q.2.2)->mx.map (ev T)=rm.map (λq=> .int q.1 q.2.1 q.2.2)->
    mxP 0 0 (bnd rm)->hiP 0 0 0 0 (bnd rh) (bnd rm)->loP 0 0 (bnd rl)->OpTri E o T h i (quiet [] (.val (.slice au 0 0))):=by
    intro rl rh rm e1 e2 e3 z1 z2 z3;refine Zr λB σ g w ρ hh _ hI hx=> ?_;have hd:=hx x m0;rw[hX] at hd;generalize hv:ρ x=v at hd;cases hd;have a5:=Vv (P:=E.P) (b:=true) (len:=0) (cap:=0) w z1 z2 z3;rw[<-rd σ g ρ hx lo rl m1 e1,<-rd σ g ρ hx hi rh m2 e2,<-rd σ g ρ hx mx rm m3 e3] at a5;exact⟨_,b4 w ρ el sz a6 z au 0 0 0 0 0 ht ⟨ti,a7⟩ hv a5,by simpa using Den.val _⟩
   split at I
   ·rename_i J R U
    exact⟨_,I,a2 au au au (a1 _ J) (a1 _ R) (a1 _ U) rfl rfl rfl⟩
   ·rename_i l kd a J R U
    obtain⟨p,I⟩:=Zu I;exact⟨_,I,a2 (ae (l,kd,a)) au au (a3 _ _ _ _ J) (a1 _ R) (a1 _ U) rfl rfl (by dsimp only[bnd,cL,loP];omega)⟩
   ·rename_i l kd a J R U
    obtain⟨p,I⟩:=Zu I;exact⟨_,I,a2 au (ae (l,kd,a)) au (a1 _ J) (a3 _ _ _ _ R) (a1 _ U) rfl (by dsimp only[bnd,cL,hiP];omega) rfl⟩
   ·rename_i l kd a l' a9 c J R U
    obtain⟨p,I⟩:=Zu I;exact⟨_,I,a2 au (ae (l,kd,a)) (ae (l',a9,c)) (a1 _ J) (a3 _ _ _ _ R) (a3 _ _ _ _ U) (by dsimp only[bnd,cL,mxP];omega) (by dsimp only[bnd,cL,hiP];omega) rfl⟩
   ·exact I.elim
  ·exact I.elim
 ·rename_i el sz a6 z b off len w' cap ht hX
  split at I
  ·rename_i ti a7
   have a2:∀(rl rh rm:Option (Bool×IntKind×Int)) (a n:Nat) (v:SV Y),ti.size=w'->lo.map (ev T)=rl.map (λq=> .int q.1 q.2.1 q.2.2)->hi.map (ev T)=rh.map (λq=> .int q.1 q.2.1 q.2.2)->mx.map (ev T)=rm.map (λq=> .int q.1 q.2.1 q.2.2)->a<=n->
    (∀c,len<=c->c<=maxLen->(∀q,cap=ae q->c=q)->∃m,mxP m c (bnd rm)/\hiP n m len c (bnd rh) (bnd rm)/\loP a n (bnd rl)/\n<=m/\m<=c/\
     ∀σ g r z',σ b=ae (r,z')->(off+c)*w'<=z'->Den E σ g v (.slice (ae (if m=a then⟨r,off*w',au⟩ else⟨r,(off+a)*w',au⟩)) (n-a) (m-a)))->OpTri E o T h i (quiet [] v):=by
    intro rl rh rm a n v hw e1 e2 e3 hn hm;refine Zr λB σ g w ρ hh _ hI hx=> ?_;have hd:=hx x m0;rw[hX] at hd;obtain⟨r,z',c,hv,a4,hz,hl,d4,hc⟩:=Vc hd;obtain⟨m,q1,q2,q3,q4,q5,q6⟩:=hm c hl d4 hc;have a5:=Vv (P:=E.P) (b:=true) (len:=len) (cap:=c) w q1 q2 q3;rw[<-rd σ g ρ hx lo rl m1 e1,<-rd σ g ρ hx hi rh m2 e2,<-rd σ g ρ hx mx rm m3 e3] at a5;refine⟨_,b4 w ρ el sz a6 z _ len c a n m ht ⟨ti,a7⟩ hv a5,?_⟩;have c1:(⟨r,off*w',au⟩:Addr).add (a*((E.ty el).map (·.size)).getD 0)=⟨r,(off+a)*w',au⟩:=by rw[Y1,a7];simp[hw,cp]
    have:=q6 σ g r z' a4 hz;simp only[cm,c1];by_cases e:m=a
    ·rw[jM e] at this⊢;exact this
    ·rw[jJ e] at this⊢;exact this
   have piece:∀(a n:Nat) (b1:Option Nat) (c m:Nat) (σ:Pl) (g:GH) (r z':Nat),a<=n->n<=m->m<=c->c<=maxLen->(a<m\/a=0)->(∀q,b1=ae q->m-a=q)->σ b=ae (r,z')->(off+c)*w'<=z'->
    Den E σ g (.sl b (off+a) (n-a) w' b1) (.slice (ae (if m=a then⟨r,off*w',au⟩ else⟨r,(off+a)*w',au⟩)) (n-a) (m-a)):=by
    intro a n b1 c m σ g r z' J R U h4 h5 h6 a4 hz;have d7:(off+a+(m-a))*w'<=z':=bS (bb _ (by omega)) hz;have:=Den.sl (E:=E) (g:=g) (b:=b) (off:=off+a) (len:=n-a) (w:=w') (c:=m-a) (cap:=b1) a4 d7 (by omega) (by omega) (λq hq=>h6 q hq);by_cases e:m=a
    ·rw[jM e]
     rcases h5 with h5|h5
     ·omega
     ·subst h5;exact this
    ·rw[jJ e];exact this
   have none_:∀(th:Y.Th) (x:Addr) (d:Nat) (σ:Pl) (g:GH),d<=maxLen->Den E σ g (.psl th [] ab) (.slice (ae x) 0 d):=by
    intro th x d σ g hd;exact .psl (l:= []) (λ_ _=>undef) (aW _) hd (by simp) (by simp) (by simp) (by simp)
   split at I
   ·rename_i hw J R U
    have hw:=ax hw;exact⟨_,I,a2 au au au 0 len _ hw (a1 _ J) (a1 _ R) (a1 _ U) (aW _) (λc hl hm hc=>⟨c,rfl,rfl,rfl,hl,av _,λσ g r z' a4 hz=>by simpa using piece 0 len cap c c σ g r z' (by omega) hl (av _) hm (.inr rfl) (λq hq=>by have:=hc q hq;omega) a4 hz⟩)⟩
   ·rename_i l kd c0 hw J R U
    have hw:=ax hw;obtain⟨p,I⟩:=Zu I;exact⟨_,I,a2 au (ae (l,kd,c0)) au 0 c0.toNat _ hw (a1 _ J) (a3 _ _ _ _ R) (a1 _ U) (aW _) (λc hl hm hc=>⟨c,rfl,(by dsimp only[bnd,cL,hiP];omega),rfl,by omega,av _,λσ g r z' a4 hz=>by simpa using piece 0 c0.toNat cap c c σ g r z' (by omega) (by omega) (av _) hm (.inr rfl) (λq hq=>by have:=hc q hq;omega) a4 hz⟩)⟩
   ·rename_i l kd c0 l' a9 b2 hw J R U
    have hw:=ax hw;obtain⟨p,I⟩:=Zu I;exact⟨_,I,a2 au (ae (l,kd,c0)) (ae (l',a9,b2)) 0 c0.toNat _ hw (a1 _ J) (a3 _ _ _ _ R) (a3 _ _ _ _ U) (aW _) (λc hl hm hc=>⟨b2.toNat,(by dsimp only[bnd,cL,mxP];omega),(by dsimp only[bnd,cL,hiP];omega),rfl,by omega,by omega,λσ g r z' a4 hz=>by simpa using piece 0 c0.toNat (ae b2.toNat) c b2.toNat σ g r z' (by omega) (by omega) (by omega) hm (.inr rfl) (λq hq=>by cases hq;omega) a4 hz⟩)⟩
   ·rename_i l kd a0 hw J R U
    have hw:=ax hw;obtain⟨p,I⟩:=Zu I;have I:=Y5 I;split at I
    ·rename_i a8
     have a8:=jk a8;refine⟨_,I,a2 (ae (l,kd,a0)) au au a0.toNat len _ hw (a3 _ _ _ _ J) (a1 _ R) (a1 _ U) (by omega) (λc hl hm hc=>⟨c,rfl,rfl,(by dsimp only[bnd,cL,loP];omega),hl,av _,λσ g r z' a4 hz=>piece a0.toNat len _ c c σ g r z' (by omega) hl (av _) hm (.inl (by omega)) (λq hq=> ?_) a4 hz⟩)⟩;cases cap with
     |none=>cases hq
     |some q0=>have:=hc q0 rfl;simp only[Zl8,cr] at hq;omega
    ·rename_i th a8 d6
     have a8:=jm a8;have e:len=a0.toNat:=by omega
     refine⟨_,I,a2 (ae (l,kd,a0)) au au a0.toNat len _ hw (a3 _ _ _ _ J) (a1 _ R) (a1 _ U) (by omega) (λc hl hm hc=>⟨c,rfl,rfl,(by dsimp only[bnd,cL,loP];omega),hl,av _,λσ g r z' a4 hz=> ?_⟩)⟩;rw[show len-a0.toNat=0 by omega];exact none_ th _ _ σ g (by omega)
    ·exact I.elim
   ·rename_i l kd a0 l' a9 c0 hw J R U
    have hw:=ax hw;obtain⟨p,I⟩:=Zu I;have I:=Y5 I;split at I
    ·rename_i a8
     have a8:=jk a8;refine⟨_,I,a2 (ae (l,kd,a0)) (ae (l',a9,c0)) au a0.toNat c0.toNat _ hw (a3 _ _ _ _ J) (a3 _ _ _ _ R) (a1 _ U) (by omega) (λc hl hm hc=>⟨c,rfl,(by dsimp only[bnd,cL,hiP];omega),(by dsimp only[bnd,cL,loP];omega),by omega,av _,λσ g r z' a4 hz=>piece a0.toNat c0.toNat _ c c σ g r z' (by omega) (by omega) (av _) hm (.inl (by omega)) (λq hq=> ?_) a4 hz⟩)⟩;cases cap with
     |none=>cases hq
     |some q0=>have:=hc q0 rfl;simp only[Zl8,cr] at hq;omega
    ·rename_i th a8 d6
     have a8:=jm a8;refine⟨_,I,a2 (ae (l,kd,a0)) (ae (l',a9,c0)) au a0.toNat c0.toNat _ hw (a3 _ _ _ _ J) (a3 _ _ _ _ R) (a1 _ U) (by omega) (λc hl hm hc=>⟨c,rfl,(by dsimp only[bnd,cL,hiP];omega),(by dsimp only[bnd,cL,loP];omega),by omega,av _,λσ g r z' a4 hz=> ?_⟩)⟩;rw[show c0.toNat-a0.toNat=0 by omega];exact none_ th _ _ σ g (by omega)
    ·exact I.elim
   ·exact I.elim
  ·exact I.elim
 ·rename_i sz a6 z l s ht hX
  have a2:∀(rl rh:Option (Bool×IntKind×Int)) (a b:Nat) (l':Bool),lo.map (ev T)=rl.map (λq=> .int q.1 q.2.1 q.2.2)->hi.map (ev T)=rh.map (λq=> .int q.1 q.2.1 q.2.2)->mx.map (ev T)=au->
   hiP b s.length s.length s.length (bnd rh) au->loP a b (bnd rl)->OpTri E o T h i (quiet [] (.str l' ((s.take b).drop a))):=by
   intro rl rh a b l' e1 e2 e3 z1 z2;refine Zr λB σ g w ρ hh _ hI hx=> ?_;have hd:=hx x m0;rw[hX] at hd;generalize hv:ρ x=v at hd;cases hd;rename_i s hs;subst hs;rw[Zdw] at z1;have a5:=Vv (P:=E.P) (b:=false) (len:=s.size) (cap:=s.size) (lo:=bnd rl) (hi:=bnd rh) (mx:=none) (l:=a) (h:=b) (m:=s.size) w rfl
    z1 z2
   rw[<-rd σ g ρ hx lo rl m1 e1,<-rd σ g ρ hx hi rh m2 e2] at a5;have e4:mx.map ρ=none:=by cases mx with|none=>rfl|some y=>simp at e3
   refine⟨.string (s.extract a b),?_,.str _ (Zuw _ _ _)⟩;unfold execOp;simp only[ho,gZ,aF,Zx hE ht,aA,kN,hv,e4,Option.isSome_none,aN,kM];have b0:(ey ab s.size s.size (lo.map ρ) (hi.map ρ) au).run E.P w= .ok (a,b,s.size) w:=a5;simp only[aF,aJ,aA,b0]
  split at I
  ·rename_i J R U
   refine⟨_,I,?_⟩;have:=a2 au au 0 s.length l (a1 _ J) (a1 _ R) U rfl rfl;rw[aV,dW] at this;exact this
  ·rename_i m kd b J R U
   obtain⟨p,I⟩:=Zu I;exact⟨_,I,by rw[<-dW (l:=s.take b.toNat)];exact a2 au (ae (m,kd,b)) 0 b.toNat _ (a1 _ J) (a3 _ _ _ _ R) U (by dsimp only[bnd,cL,hiP];omega) rfl⟩
  ·rename_i m kd a J R U
   obtain⟨p,I⟩:=Zu I;exact⟨_,I,by conv=>{rhs;rw[<-aV (l:=s)]};exact a2 (ae (m,kd,a)) au a.toNat s.length _ (a3 _ _ _ _ J) (a1 _ R) U rfl (by dsimp only[bnd,cL,loP];omega)⟩
  ·rename_i m kd a m' a9 b J R U
   obtain⟨p,I⟩:=Zu I;exact⟨_,I,a2 (ae (m,kd,a)) (ae (m',a9,b)) a.toNat b.toNat _ (a3 _ _ _ _ J) (a3 _ _ _ _ R) U (by dsimp only[bnd,cL,hiP];omega) (by dsimp only[bnd,cL,loP];omega)⟩
  ·exact I.elim
 ·rename_i n el sz a6 z b ht hX
  split at I
  ·rename_i f a f' c ti U J R a7
   have core:∀(blk:Blk Y),h b=ae blk->(∀es,blk≠ .map es)->n*ti.size<=(blk.cells E).length->n<=9007199254740992->0<=a->a<=c->c<=n->(a<n\/a=0)->
    OpTri E o T h i (quiet [b] (.sl b a.toNat (c.toNat-a.toNat) ti.size (ae (n-a.toNat)))):=by
    intro blk hb d5 c5 c2 q1 q2 q3 q4;refine Zr λB σ g w ρ hh b5 hI hx=> ?_;have hd:=hx x m0;rw[hX] at hd;generalize hv:ρ x=v at hd;cases hd;rename_i r z' a4;obtain⟨r2,z2,b8,c3⟩:=hI.blk b _ ((b5 b (by simp)).trans hb);rw[a4] at b8;cases b8;obtain⟨arr,e,ha,d8,d9,_⟩:=(BlkOk.cells_iff d5).1 c3;have e4:mx.map ρ=none:=by cases mx with|none=>rfl|some y=>simp at U
    obtain⟨rl,e5,z1⟩:∃rl:Option (Bool×IntKind×Int),lo.map (ev T)=rl.map (λq=> .int q.1 q.2.1 q.2.2)/\loP a.toNat c.toNat (bnd rl):=by
     unfold Z8v at J;split at J
     ·cases J;rename_i hl;exact⟨au,hl,rfl⟩
     ·cases J;rename_i kd hl;exact⟨ae (f,kd,a),hl,q1,by show a<=(c.toNat:Int);omega,rfl⟩
     ·cases J
    obtain⟨rh,e6,z2⟩:∃rh:Option (Bool×IntKind×Int),hi.map (ev T)=rh.map (λq=> .int q.1 q.2.1 q.2.2)/\hiP c.toNat n n n (bnd rh) none:=by
     unfold Z8v at R;split at R
     ·cases R;rename_i hl;exact⟨au,hl,by show(n:Int).toNat=n;simp⟩
     ·cases R;rename_i kd hl;exact⟨ae (f',kd,c),hl,by show 0<=c;omega,q3,rfl⟩
     ·cases R
    have a5:=Vv (P:=E.P) (b:=false) (len:=n) (cap:=n) (lo:=bnd rl) (hi:=bnd rh) (mx:=none) (l:=a.toNat) (h:=c.toNat) (m:=n) w rfl z2 z1;rw[<-rd σ g ρ hx lo rl m1 e5,<-rd σ g ρ hx hi rh m2 e6] at a5;refine⟨.slice (ae (if n=a.toNat then⟨r,0,au⟩ else(⟨r,0,au⟩:Addr).add (a.toNat*ti.size))) (c.toNat-a.toNat) (n-a.toNat),?_,?_⟩
    ·unfold execOp
     have b0:(ey ab n n (lo.map ρ) (hi.map ρ) au).run E.P w= .ok (a.toNat,c.toNat,n) w:=a5;simp only[ho,gZ,aF,Zx hE ht,aA,hv,eH,aJ,e4,b0,Zz hE a7]
    ·have:=Den.sl (E:=E) (g:=g) (b:=b) (off:=a.toNat) (len:=c.toNat-a.toNat) (w:=ti.size) (c:=n-a.toNat) (cap:=some (n-a.toNat)) a4 (by rw[show a.toNat+(n-a.toNat)=n by omega];omega) (by omega) (by unfold maxLen;omega) (by intro m e;cases e;rfl)
     have ea:(if n=a.toNat then(⟨r,0,au⟩:Addr) else(⟨r,0,au⟩:Addr).add (a.toNat*ti.size))=⟨r,a.toNat*ti.size,au⟩:=by
      split
      ·have:a.toNat=0:=by omega
       rw[this];simp
      ·simp[Y1]
     rw[ea];exact this
   split at I
   ·rename_i cs fz tg hb
    split at I
    ·rename_i hc hf
     simp only[aq,bu] at hc;have c5:cs.length=n*ti.size:=ax hc.1;obtain⟨⟨q1,q2,q3,q4⟩,I⟩:=Zu I;exact⟨_,I,core _ hb (by intro es e;cases e) (by show _<=cs.length;omega) hc.2 q1 q2 q3 q4⟩
    ·exact I.elim
   ·rename_i th l fz hb
    split at I
    ·rename_i hc
     simp only[aq,bu] at hc;have hw:ti.size=E.w th:=ax hc.1;obtain⟨⟨q0,q1,q2,q3,q4⟩,I⟩:=Zu I;exact⟨_,I,core _ hb (by intro es e;cases e) (by show _<=(l.flatMap (E.enc th)).length;rw[Zv hE,q0,hw];exact av _) hc.2 q1 q2 q3 q4⟩
    ·exact I.elim
   ·exact I.elim
  ·exact I.elim
 ·rename_i n el sz a6 z g0 ht hX
  split at I
  ·rename_i J R U
   split at I
   ·rename_i ti sv th a7 c8 e0
    split at I
    ·rename_i l hc c6
     simp only[aq,bu] at hc;obtain⟨hw,c2,h0⟩:=hc;have hw:ti.size=E.w th:=ax hw;have h0:0<n:=Yq h0;obtain⟨hl,c4⟩:=Xc hE c6;refine⟨_,I,Zr λB σ g w ρ hh b5 hI hx=> ?_⟩;have hd:=hx x m0;rw[hX] at hd;generalize hv:ρ x=v at hd;cases hd;have e4:mx.map ρ=none:=by cases mx with|none=>rfl|some y=>simp at U
     have e5:lo.map ρ=none:=by cases lo with|none=>rfl|some y=>simp at J
     have e6:hi.map ρ=none:=by cases hi with|none=>rfl|some y=>simp at R
     refine⟨.slice (ae ⟨g0,0,au⟩) n n,?_,?_⟩
     ·unfold execOp
      have b0:(ey ab n n au au au).run E.P w= .ok (0,n,n) w:=Vv (P:=E.P) (b:=false) (len:=n) (cap:=n) (lo:=none) (hi:=none) (mx:=none) (l:=0) (h:=n) (m:=n) w rfl rfl rfl;simp only[ho,gZ,aF,Zx hE ht,aA,hv,eH,aJ,e4,e5,e6,b0,Zz hE a7];rw[jJ (by omega)];simp[Y1]
     ·have c7:=hI.glob g0 sv c8
      have key:∀i x,l[i]? =ae x->∀j s,(E.enc th x)[j]? =ae s->∃u,g.cell g0 (0+i*E.w th+j)=ae u/\Den E σ g s u:=by
       intro i x hx j s hs;have hj:j<E.w th:=by rw[<-hE.enc th x];exact(ai.1 hs).1
       have b6:=Y7 hE th l i x hx j hj;rw[hs] at b6;obtain⟨s0,h4,h5⟩:=c4 _ _ b6;obtain⟨u,h6,h7⟩:=c7 _ _ h4;rw[bq];exact⟨u,h6,h5 _ _ _ (h7.mono (λb p e=>by cases e) (.refl _))⟩
      have:=Den.psl (E:=E) (σ:=σ) (g:=g) (th:=th) (l:=l) (full:=true) (base:=some ⟨g0,0,au⟩) (c:=n) (λi j=>(g.cell g0 (0+i*E.w th+j)).getD undef) (by omega) (by unfold maxLen;omega) (λ_=>hl.symm) (λe=>by cases e)
       (λ_=>⟨g0,0,rfl,λi x hx j hj=>by
        obtain⟨u,h6,_⟩:=key i x hx j _ (ao hj)
        rw[h6];rfl⟩)
       (λi x hx j s hs=>by
        obtain⟨u,h6,h7⟩:=key i x hx j s hs
        rw[h6];exact h7)
      rw[hl] at this;exact this
    ·exact I.elim
   ·exact I.elim
  ·exact I.elim
 ·exact I.elim
end
end
section
open Go.RowKit
section
variable {Y:Thy} {E:Eng Y} {o:Oper} {T:Fr Y} {h:Hp Y} {i:Nat} {k:Res Y->Prop}
def Z1a(ki:Bool) (d:TypeDesc):Prop:=match ki with|true=>∃q,d= .int q|false=>d= .string
theorem Zb0(R:EngOk E) {U:TypeId} {ki:Bool} (I:keyKind E U=ae ki):∃d,E.P.underlying U=ae d/\Z1a ki d:=by
 unfold keyKind at I;split at I
 ·rename_i q _ _ _ J;cases I;exact⟨_,(R.ty _ _ J).1,q,rfl⟩
 ·rename_i _ _ _ J;cases I;exact⟨_,(R.ty _ _ J).1,rfl⟩
 ·cases I
theorem Y0{P:Program} {ki:Bool} {d:TypeDesc} (hd:Z1a ki d) (b:Bool) (n I:Nat) (R:Value) (w:World) (J:P.underlying I=ae d):(kp b (n+1) I R).run P w= .ok () w:=by
 unfold kp;rw[aF,run_underlying J w];cases ki with
 |true=>obtain⟨q,rfl⟩:=hd;rfl
 |false=>obtain rfl:=hd;rfl
theorem Xn{P:Program} {d:TypeDesc} {J:Nat} {R:Value} {I:List MapEntry} {U:Option (Nat×Value)} (w:World) (a0:P.underlying J=ae d) (hf:bW d R I 0=ae U):
 (kD J R I).run P w= .ok U w:=by
 unfold kD
 rw[aF,run_underlying a0 w]
 simp only[aA,hf]
 rfl
theorem Wn{P:Program} (w:World) (r:Nat) (I:Array MapEntry) (c:Nat) (J:w.heap[r]? =ae (.map I c)):(getObj r).run P w= .ok (.map I c) w:=by
 simp[getObj,hZ,J]
def EntsK(I:List (Value×SV Y)) (ents:List MapEntry):Prop:=ents.length=I.length/\∀(j:Nat) J R,I[j]? =ae (J,R)->∃e,ents[j]? =ae e/\e.key=J
theorem EntsK.tail{I:Value} {J:SV Y} {R:List (Value×SV Y)} {ents:List MapEntry} (h:EntsK ((I,J)::R) ents):∃e ents',ents=e::ents'/\e.key=I/\EntsK R ents':=by
 obtain⟨U,h2⟩:=h;cases ents with
 |nil=>simp at U
 |cons e ents'=>
  obtain⟨e',h3,h4⟩:=h2 0 I J rfl;obtain rfl:e=e':=by simpa using h3
  exact⟨e,ents',rfl,h4,by simpa using U,λj I J hj=>h2 (j+1) I J hj⟩
theorem Z8h{ki:Bool} {key:SV Y} {d:TypeDesc} (hd:Z1a ki d):∀{I:List (Value×SV Y)} {f:SV Y->Prop} {z:Prop},Vl ki key I f z->
 (∃(j:Nat) (R:Value) (U:SV Y),I[j]? =ae (R,U)/\f U/\∀σ g u (ents:List MapEntry) i0,Den E σ g key u->EntsK I ents->∃e,ents[j]? =ae e/\bW d u ents i0=ae (ae (i0+j,e.val)))\/
 (z/\∀σ g u (ents:List MapEntry) i0,Den E σ g key u->EntsK I ents->bW d u ents i0=ae au):=by
 intro I
 induction I with
 |nil=>
  intro f z h
  refine .inr ⟨h,λσ g u ents i0 _ he=> ?_⟩
  have:ents= []:=cH (by simpa using he.1)
  subst this;rfl
 |cons p I ih=>
  obtain⟨R,U⟩:=p
  intro f z h
  have rest:(∀σ g u e,Den E σ g key u->e=R->cg d u e=ae ab)->Vl ki key I f z->
   (∃(j:Nat) (a2:Value) (a0:SV Y),((R,U)::I)[j]? =ae (a2,a0)/\f a0/\∀σ g u (ents:List MapEntry) i0,Den E σ g key u->EntsK ((R,U)::I) ents->∃e,ents[j]? =ae e/\bW d u ents i0=ae (ae (i0+j,e.val)))\/
   (z/\∀σ g u (ents:List MapEntry) i0,Den E σ g key u->EntsK ((R,U)::I) ents->bW d u ents i0=ae au):=by
   intro a4 h
   rcases ih h with⟨j,a2,a0,h1,h2,h3⟩|⟨h1,h2⟩
   ·refine .inl ⟨j+1,a2,a0,h1,h2,λσ g u ents i0 J he=> ?_⟩
    obtain⟨e,ents',rfl,h4,h5⟩:=he.tail
    obtain⟨e',h6,h7⟩:=h3 σ g u ents' (i0+1) J h5
    refine⟨e',h6,?_⟩
    unfold bW
    rw[a4 σ g u _ J h4]
    rw[show i0+(j+1)=i0+1+j by omega];exact h7
   ·refine .inr ⟨h1,λσ g u ents i0 J he=> ?_⟩
    obtain⟨e,ents',rfl,h4,h5⟩:=he.tail
    unfold bW
    rw[a4 σ g u _ J h4]
    exact h2 σ g u ents' (i0+1) J h5
  have a3:(∀σ g u e,Den E σ g key u->e=R->cg d u e=ae ac)->f U->
   (∃(j:Nat) (a2:Value) (a0:SV Y),((R,U)::I)[j]? =ae (a2,a0)/\f a0/\∀σ g u (ents:List MapEntry) i0,Den E σ g key u->EntsK ((R,U)::I) ents->∃e,ents[j]? =ae e/\bW d u ents i0=ae (ae (i0+j,e.val))):=by
   intro heq h
   refine⟨0,R,U,rfl,h,λσ g u ents i0 J he=> ?_⟩
   obtain⟨e,ents',rfl,h4,h5⟩:=he.tail
   refine⟨e,rfl,?_⟩
   unfold bW
   rw[heq σ g u _ J h4];rfl
  unfold Vl at h
  split at h
  ·rename_i kd b l a5 a
   split at h
   ·rename_i a7
    obtain rfl:=jk a7
    obtain⟨q,rfl⟩:=hd
    have h:=Y5 h
    have hs:∀σ g u e,Den E σ g (.int l a5 a) u->e=Value.int a5 b->cg (.int q) u e=ae (a==b):=by
     rintro σ g u e J rfl
     cases J;simp[cg]
    cases a1:(a==b) with
    |true=>rw[a1] at h hs;exact .inl (a3 hs h)
    |false=>rw[a1] at h hs;exact rest hs h
   ·exact h.elim
  ·rename_i b l a
   obtain rfl:=hd
   have h:=Y5 h
   have hs:∀σ g u e,Den E σ g (.str l a) u->e=Value.string b->cg .string u e=ae (a==toL b):=by
    rintro σ g u e J rfl
    cases J
    rename_i b' a6
    subst a6
    simp only[cg,Zj8]
   cases a1:(a==toL b) with
   |true=>rw[a1] at h hs;exact .inl (a3 hs h)
   |false=>rw[a1] at h hs;exact rest hs h
  ·exact h.elim
def Zc1(ki:Bool) (key:SV Y) (J:Value) (b:Bool):Prop:=
 match ki,J,key with
 |true,.int kd n,.int _ I a=>I=kd/\(a==n)=b
 |false,.string n,.str _ a=>(a==toL n)=b
 |_,_,_=>False
theorem Zl0{ki:Bool} {key:SV Y}:∀{es:List (Value×SV Y)} {f:SV Y->Prop} {z:Prop},Vl ki key es f z->
 (∃(j:Nat) (I:Value) (U:SV Y),es[j]? =ae (I,U)/\f U/\Zc1 ki key I ac)\/(z/\∀(j:Nat) I U,es[j]? =ae (I,U)->Zc1 ki key I ab)
 | [],f,z,h=> .inr ⟨h,λj I U hj=>by simp at hj⟩
 |(I,U)::es,f,z,h=>by
  have more:Zc1 ki key I ab->Vl ki key es f z->(∃(j:Nat) (R:Value) (a0:SV Y),((I,U)::es)[j]? =ae (R,a0)/\f a0/\Zc1 ki key R ac)\/(z/\∀(j:Nat) R a0,((I,U)::es)[j]? =ae (R,a0)->Zc1 ki key R ab):=by
   intro h0 h
   rcases Zl0 h with⟨j,R,a0,h1,h2,h3⟩|⟨h1,h2⟩
   ·exact .inl ⟨j+1,R,a0,h1,h2,h3⟩
   ·refine .inr ⟨h1,λj R a0 hj=> ?_⟩
    cases j with
    |zero=>simp at hj;obtain⟨rfl,rfl⟩:=hj;exact h0
    |succ j=>exact h2 j R a0 (by simpa using hj)
  unfold Vl at h
  split at h
  ·rename_i kd n l a2 a
   split at h
   ·rename_i a1
    have a1:=jk a1
    have h:=Y5 h
    cases J:(a==n) with
    |true=>rw[J] at h;exact .inl ⟨0,_,_,rfl,h,a1,J⟩
    |false=>rw[J] at h;exact more ⟨a1,J⟩ h
   ·exact h.elim
  ·rename_i n l a
   have h:=Y5 h
   cases J:(a==toL n) with
   |true=>rw[J] at h;exact .inl ⟨0,_,_,rfl,h,J⟩
   |false=>rw[J] at h;exact more J h
  ·exact h.elim
theorem Zct{ki:Bool} {d:TypeDesc} (hd:Z1a ki d) {key:SV Y} {J:Value} {b:Bool} (h:Zc1 ki key J b) {σ:Pl} {g:GH} {u:Value} (I:Den E σ g key u):cg d u J=ae b:=by
 unfold Zc1 at h;split at h
 ·obtain⟨rfl,h⟩:=h
  obtain⟨q,rfl⟩:=hd;cases I;rw[<-h];simp[cg]
 ·obtain rfl:=hd
  cases I;rename_i U R;subst R;rw[<-h,Zj8];simp only[cg]
 ·exact h.elim
theorem Zl1{ki:Bool} {key:SV Y} {U a0:Value} {b:Bool} (h:Zc1 ki key U b) {q:Option IntKind} (I:KeyIs q U) (R:KeyIs q a0):∃b',Zc1 ki key a0 b':=by
 unfold Zc1 at h;split at h
 ·rename_i kd n l a2 a
  cases q with
  |none=>obtain⟨s,J⟩:=I;cases J
  |some a1=>
   obtain⟨m,hm⟩:=I;cases hm;obtain⟨m',rfl⟩:=R;exact⟨_,h.1,rfl⟩
 ·cases q with
  |some a1=>obtain⟨s,J⟩:=I;cases J
  |none=>
   obtain⟨m',rfl⟩:=R;exact⟨_,rfl⟩
 ·exact h.elim
theorem Zro{ki:Bool} {key:SV Y} {q:IntKind} {n:Int} (h:Zc1 ki key (.int q n) ac):ki=ac/\∃l,key= .int l q n:=by
 unfold Zc1 at h;split at h
 ·rename_i heq
  cases heq;obtain⟨rfl,h⟩:=h;exact⟨rfl,_,by rw[eq_of_beq h]⟩
 ·rename_i heq
  cases heq
 ·exact h.elim
theorem Zrp{ki:Bool} {key:SV Y} {n:ByteArray} (h:Zc1 ki key (.string n) ac):∃l,key= .str l (toL n):=by
 unfold Zc1 at h;split at h
 ·rename_i heq
  cases heq
 ·rename_i heq
  cases heq;exact⟨_,by rw[eq_of_beq h]⟩
 ·exact h.elim
theorem Z1b{ki:Bool} {key:SV Y} {R kv':Value} {q:Option IntKind} (h:Zc1 ki key R ac) (U:Zc1 ki key kv' ac) (hq:KeyIs q R) (a0:KeyIs q kv'):R=kv':=by
 cases q with
 |some q=>
  obtain⟨n,rfl⟩:=hq;obtain⟨n',rfl⟩:=a0;obtain⟨_,l,J⟩:=Zro h;obtain⟨_,l',I⟩:=Zro U;rw[J] at I;cases I;rfl
 |none=>
  obtain⟨n,rfl⟩:=hq;obtain⟨n',rfl⟩:=a0;obtain⟨l,J⟩:=Zrp h;obtain⟨l',I⟩:=Zrp U;rw[J] at I;have:toL n=toL n':=by injection I
  rw[Zn6 this]
theorem Zrq{d:TypeDesc} {u:Value}:∀{l:List MapEntry} {i0:Nat},(∀e∈l,cg d u e.key=ae ab)->bW d u l i0=ae au
 | [],_,_=>rfl
 |e::l,i0,h=>by
  unfold bW
  rw[h e (by simp)]
  exact Zrq λe I=>h e (aI _ I)
theorem Zx3{d:TypeDesc} {u:Value}:∀{l:List MapEntry} {i0:Nat},(∀e∈l,∃b,cg d u e.key=ae b)->(∃e∈l,cg d u e.key=ae ac)->∃p e,e∈l/\cg d u e.key=ae ac/\bW d u l i0=ae (ae (p,e.val))
 | [],_,_,⟨e,R,_⟩=>by cases R
 |e::l,i0,h,⟨e',a0,U⟩=>by
  obtain⟨b,J⟩:=h e (by simp)
  unfold bW
  rw[J]
  cases b with
  |true=>exact⟨i0,e,by simp,J,rfl⟩
  |false=>
   have:e'∈l:=by
    rcases aH.1 a0 with rfl|I
    ·rw[J] at U;cases U
    ·exact I
   obtain⟨p,e2,h1,I,h3⟩:=Zx3 (i0:=i0+1) (λe R=>h e (aI _ R)) ⟨e',this,U⟩
   exact⟨p,e2,aI _ h1,I,h3⟩
theorem Zff(hE : EngOk E) {t kt et : TypeId} {m x : Operand} {ok : Bool} (ho : o.op = .lookup t m x ok) {z1 z2 : Nat} {z3 : Value} (ht : E.ty t = ae ⟨.map kt et, z1, z2, z3⟩) {ki : Bool} (hki : keyKind E kt = ae ki) {ti : TyI} (het : E.ty et = ae ti) {es : List (Value × SV Y)} {rd : List Nat} (hmo : Zyr h (ev T m) = ae (es, rd))
    {zero key : SV Y} (U : ∀ σ g, Den E σ g zero ti.zero) (R : ∀ σ g u, Den E σ g (ev T x) u → Den E σ g key u) (hk : Ykv ki zero rd ok key es k) : ∃ r, k r ∧ OpTri E o T h i r := by
  have mm : m ∈ o.op.operands.toList := by simp[ho, aQ]
  have mx : x ∈ o.op.operands.toList := by simp[ho, aQ]
  obtain⟨d, hkt, hd⟩ := Zb0 hE hki
  have run : ∀ (w : World) (ρ : Operand → Value) (r : Nat) (ents : Array MapEntry) (c : Nat) (res : Option (Nat × Value)), ρ m = .map (ae r) → w.heap[r]? = ae (.map ents c) → bW d (ρ x) ents.toList 0 = ae res →
      (execOp ρ o).run E.P w = .ok (.value (let p := match res with | some (_, v) => (v, ac) | none => (ti.zero, ab); if ok then .tuple #[p.1, .bool p.2] else p.1)) w := by
    intro w ρ r ents c res hm hg hf
    unfold execOp Instr.lookup
    simp only[ho, hm, aF, run_underlying (hE.ty _ _ ht).1, aA, Wn w r ents c hg, aJ, Y0 hd _ 9999 kt _ w hkt, Xn w hkt hf]
    cases res with
    | none => simp only[aF, V3 hE het, aA, aJ]
    | some p => simp only[aF, aJ, aA]
  have yes : ∀ {σ : Pl} {g : GH} {sv : SV Y} {v : Value}, Den E σ g sv v → Den E σ g (match ok with | true => .tup [sv, .bool ac ac] | false => sv) (if ok then .tuple #[v, .bool ac] else v) := by
    intro σ g sv v J
    cases ok with
    | true => exact .tup (λq => if q = 0 then v else .bool ac) rfl (λq hq => by match q, hq with | 0, _ => rfl | 1, _ => rfl) (λq s hs => by
        match q, hs with
        | 0, hs => obtain rfl : sv = s := by simpa using hs
                   exact J
        | 1, hs => obtain rfl : SV.bool ac ac = s := by simpa using hs
                   exact .bool _ _)
    | false => exact J
  have no : ∀ {σ : Pl} {g : GH}, Den E σ g (match ok with | true => .tup [zero, .bool ac ab] | false => zero) (if ok then .tuple #[ti.zero, .bool ab] else ti.zero) := by
    intro σ g
    cases ok with
    | true => exact .tup (λq => if q = 0 then ti.zero else .bool ab) rfl (λq hq => by match q, hq with | 0, _ => rfl | 1, _ => rfl) (λq s hs => by
        match q, hs with
        | 0, hs => obtain rfl : zero = s := by simpa using hs
                   exact U _ _
        | 1, hs => obtain rfl : SV.bool ac ab = s := by simpa using hs
                   exact .bool _ _)
    | false => exact U _ _
  by_cases hpm : ∃ es', ev T m = .pmap es'
  ·obtain⟨es', hev⟩ := hpm
   obtain⟨rfl, rfl⟩ : es' = es ∧ [] = rd := by
     unfold Zyr at hmo
     rw[hev] at hmo
     simpa using hmo
   rcases Zl0 hk with⟨j, kv, sv, hj, hk, I⟩ | ⟨hk, I⟩
   ·refine⟨_, hk, Zr λB σ g w ρ hh hrd hI hx => ?_⟩
    have hu := hx m mm
    rw[hev] at hu
    generalize hρ : ρ m = um at hu
    cases hu
    rename_i r ents c q hg hq hn h1 h2 hd'
    obtain⟨clk, hw⟩ := hI.gm _ _ hg
    have hkx := R _ _ _ (hx x mx)
    obtain⟨e0, he0, hek⟩ := h2 j kv sv hj
    obtain⟨p, e, hem, a2, hf⟩ := Zx3 (d := d) (u := ρ x) (i0 := 0) (l := ents.toList) (λe he => by
      obtain⟨j', sv', hj', _⟩ := h1 e he
      obtain⟨b', hb'⟩ := Zl1 I (hq j kv sv hj) (hq j' _ sv' hj')
      exact⟨b', Zct hd hb' hkx⟩) ⟨e0, he0, by rw[hek]; exact Zct hd I hkx⟩
    obtain⟨j', sv', hj', a3⟩ := h1 e hem
    obtain⟨b', hb'⟩ := Zl1 I (hq j kv sv hj) (hq j' _ sv' hj')
    have : b' = true := by
      have := Zct hd hb' hkx
      rw[a2] at this
      exact(bd this).symm
    subst this
    have hkk := Z1b I hb' (hq j kv sv hj) (hq j' _ sv' hj')
    rw[← hkk] at hj'
    obtain rfl := hn j j' kv sv sv' hj hj'
    refine⟨_, run w ρ r ents clk _ hρ hw hf, ?_⟩
    have := yes (hd' j kv sv hj)
    rw[a3]
    exact this
   ·refine⟨_, hk, Zr λB σ g w ρ hh hrd hI hx => ?_⟩
    have hu := hx m mm
    rw[hev] at hu
    generalize hρ : ρ m = um at hu
    cases hu
    rename_i r ents c q hg hq hn h1 h2 hd'
    obtain⟨clk, hw⟩ := hI.gm _ _ hg
    have hkx := R _ _ _ (hx x mx)
    have hf := Zrq (d := d) (u := ρ x) (i0 := 0) (l := ents.toList) (λe he => by
      obtain⟨j', sv', hj', _⟩ := h1 e he
      exact Zct hd (I j' _ sv' hj') hkx)
    exact⟨_, run w ρ r ents clk _ hρ hw hf, no⟩
  have a1 : ∀ B σ g w u (hh : Hp Y), (∀ b ∈ rd, hh b = h b) → Inv E B σ hh g w → Den E σ g (ev T m) u → ∃ r ents c, u = .map (ae r) ∧ w.heap[r]? = ae (.map ents c) ∧ EntsK es ents.toList ∧ ∀ (j : Nat) kv sv, es[j]? = ae (kv, sv) → ∃ v, (∃ bo, ents[j]? = ae (MapEntry.mk kv v bo)) ∧ Den E σ g sv v := by
    intro B σ g w u hh hrd hI hu
    unfold Zyr at hmo
    split at hmo
    ·rename_i b hev
     rw[hev] at hu
     split at hmo
     ·rename_i es' hb
      cases hmo
      cases hu
      rename_i r z hσ
      obtain⟨r', z', hσ', hbo⟩ := hI.blk b _ ((hrd b (by simp)).trans hb)
      rw[hσ] at hσ'; cases hσ'
      obtain⟨ents, c, h1, h2, h3⟩ := hbo
      refine⟨r, ents, c, rfl, h1, ⟨by simpa using h2, λj kv sv hj => ?_⟩, λj kv sv hj => ?_⟩
      ·obtain⟨v, bo, h4, _⟩ := h3 j kv sv hj
       exact⟨_, by simpa using h4, rfl⟩
      ·obtain⟨v, bo, h4, h5⟩ := h3 j kv sv hj
       exact⟨v, ⟨bo, h4⟩, h5⟩
     ·cases hmo
    ·rename_i es' hev
     exact ka ⟨es', hev⟩ hpm
    ·cases hmo
  rcases Z8h (E := E) hd hk with⟨j, kv, sv, hj, hk, a0⟩ | ⟨hk, a0⟩
  ·refine⟨_, hk, Zr λB σ g w ρ hh hrd hI hx => ?_⟩
   obtain⟨r, ents, c, hm, hg, hek, hdv⟩ := a1 B σ g w (ρ m) hh hrd hI (hx m mm)
   obtain⟨e, he, hf⟩ := a0 σ g (ρ x) ents.toList 0 (R _ _ _ (hx x mx)) hek
   obtain⟨v, ⟨bo, hv⟩, J⟩ := hdv j kv sv hj
   have : e.val = v := by
     rw[show ents.toList[j]? = ents[j]? by simp, hv] at he
     cases he; rfl
   refine⟨_, run w ρ r ents c _ hm hg hf, ?_⟩
   rw[this]
   cases ok with
   | true => exact .tup (λq => if q = 0 then v else .bool ac) rfl (λq hq => by match q, hq with | 0, _ => rfl | 1, _ => rfl) (λq s hs => by
       match q, hs with
       | 0, hs => obtain rfl : sv = s := by simpa using hs
                  exact J
       | 1, hs => obtain rfl : SV.bool ac ac = s := by simpa using hs
                  exact .bool _ _)
   | false => exact J
  ·refine⟨_, hk, Zr λB σ g w ρ hh hrd hI hx => ?_⟩
   obtain⟨r, ents, c, hm, hg, hek, hdv⟩ := a1 B σ g w (ρ m) hh hrd hI (hx m mm)
   have hf := a0 σ g (ρ x) ents.toList 0 (R _ _ _ (hx x mx)) hek
   refine⟨_, run w ρ r ents c _ hm hg hf, ?_⟩
   cases ok with
   | true => exact .tup (λq => if q = 0 then ti.zero else .bool ab) rfl (λq hq => by match q, hq with | 0, _ => rfl | 1, _ => rfl) (λq s hs => by
       match q, hs with
       | 0, hs => obtain rfl : zero = s := by simpa using hs
                  exact U _ _
       | 1, hs => obtain rfl : SV.bool ac ab = s := by simpa using hs
                  exact .bool _ _)
   | false => exact U _ _
theorem Z1c(J:EngOk E) {t:TypeId} {m x:Operand} {ok:Bool} (ho:o.op= .lookup t m x ok) (I:Zr8 E t (ev T m) (ev T x) ok h k):∃r,k r/\OpTri E o T h i r:=by
 unfold Zr8 at I;split at I
 ·rename_i kt et _ _ _ ht
  split at I
  ·rename_i ki ti es rd U R a0
   exact Zff J ho ht U R a0 (λσ g=>X0 E _ _ _) (λ_ _ _ h=>h) I
  ·exact I.elim
 ·exact I.elim
theorem Yde{ki:Bool} {key:Value} {d:TypeDesc} (hd:Z1a ki d) {v:SV Y}:∀{I es':List (Value×SV Y)},Zgt ki key v I=ae es'->∀(ents:List MapEntry) i0,EntsK I ents->
 (bW d key ents i0=ae au/\es'=I++ [(key,v)])\/
 (∃(j:Nat) (e:MapEntry) (R:SV Y),ents[j]? =ae e/\bW d key ents i0=ae (ae (i0+j,e.val))/\I[j]? =ae (e.key,R)/\es'=I.set j (e.key,v)/\cg d key e.key=ae ac):=by
 intro I
 induction I with
 |nil=>
  intro es' h ents i0 he
  have:ents= []:=cH (by simpa using he.1)
  subst this
  cases h
  exact .inl ⟨rfl,rfl⟩
 |cons p I ih=>
  obtain⟨kv,u⟩:=p
  intro es' h ents i0 he
  obtain⟨e,ents',rfl,rfl,h5⟩:=he.tail
  have step:∀q,cg d key e.key=ae q->(match q with|true=>ae ((e.key,v)::I)|false=>(match Zgt ki key v I with|some l=>ae ((e.key,u)::l)|none=>au))=ae es'->
   (bW d key (e::ents') i0=ae au/\es'=((e.key,u)::I)++ [(key,v)])\/
   (∃(j:Nat) (J:MapEntry) (R:SV Y),(e::ents')[j]? =ae J/\bW d key (e::ents') i0=ae (ae (i0+j,J.val))/\((e.key,u)::I)[j]? =ae (J.key,R)/\es'=((e.key,u)::I).set j (J.key,v)/\cg d key J.key=ae ac):=by
   intro q hq h
   cases q with
   |true=>
    simp only[cr] at h
    refine .inr ⟨0,e,u,rfl,?_,rfl,by rw[<-h];rfl,hq⟩
    unfold bW;rw[hq];rfl
   |false=>
    simp only at h
    split at h
    ·rename_i l hl
     cases h
     have a1:bW d key (e::ents') i0=bW d key ents' (i0+1):=by
      conv=>lhs;unfold bW
      rw[hq]
     rcases ih hl ents' (i0+1) h5 with⟨U,h2⟩|⟨j,J,R,U,h2,h3,h4,h6⟩
     ·exact .inl ⟨by rw[a1];exact U,by rw[h2];rfl⟩
     ·refine .inr ⟨j+1,J,R,U,by rw[a1,h2];congr 2;simp;omega,h3,by rw[h4];rfl,h6⟩
    ·cases h
  unfold Zgt at h
  split at h
  ·rename_i kd b a3 a a0
   split at h
   ·rename_i a2
    obtain rfl:=jk a2
    obtain⟨q,rfl⟩:=hd
    exact step (a==b) (by rw[a0];simp[cg]) h
   ·cases h
  ·rename_i b a a0
   obtain rfl:=hd
   rw[Zj8] at h
   exact step (a==b) (by rw[a0];simp[cg]) h
  ·cases h
end
end
section
open Go.RowKit
section
variable {Y:Thy} {E:Eng Y} {o:Oper} {T:Fr Y} {h:Hp Y} {i:Nat} {k:Res Y->Prop} {call:Nat->List (SV Y)->Hp Y->Nat->(Res Y->Prop)->Prop}
def setB(w:World) (r:Nat) (x:Obj):World:={w with heap:=w.heap.setIfInBounds r x}
theorem Z7t(w:World) (r:Nat) (x:Obj) (h:r<w.heap.size):(setB w r x).heap[r]? =ae x:=by simp[setB,cY,h]
theorem Z0o(w:World) (r q:Nat) (x:Obj) (h:q≠r):(setB w r x).heap[q]? =w.heap[q]? :=by simp[setB,cY,Ne.symm h]
theorem Zrf(w:World) (r:Nat) (x:Obj):(setB w r x).heap.size=w.heap.size:=by simp[setB]
theorem Vu{P:Program} (w:World) (r:Nat) (I:Array MapEntry) (c:Nat) (x:Obj) (J:w.heap[r]? =ae (.map I c)):(setObj r x).run P w= .ok () (setB w r x):=by
 simp only[setObj,hZ,J];rfl
theorem Z0p{B:Nat} {σ:Pl} {g:GH} {w:World} {hh:Hp Y} (U:Inv E B σ hh g w) (hB:B<=w.heap.size) (hi:σ i=au) {x:Obj} {z:Nat} {blk:Blk Y}
 (a5:BlkOk E (updσ σ i (w.heap.size,z)) g (w.alloc x) w.heap.size z blk):
 Inv E B (updσ σ i (w.heap.size,z)) (upd hh i (ae blk)) g (w.alloc x)/\Stp i 1 [] σ g w (updσ σ i (w.heap.size,z)) g (w.alloc x):=by
 have a2:Pl.le σ (updσ σ i (w.heap.size,z)):=Zmy hi
 have a0:∀r,r<w.heap.size->(w.alloc x).heap[r]? =w.heap[r]? :=λr hr=>by first|exact heap_alloc_old w _ hr|exact heap_alloc_old w _ r hr
 have a6:(w.alloc x).heap.size=w.heap.size+1:=by show(w.heap.push _).size=_;simp
 have a3:∀r n v,g.cell r n=ae v->r<w.heap.size:=λr n v hc=>block_lt_of_cell (U.gc r n v hc)
 have a4:∀r es,g.obj r=ae es->r<w.heap.size:=λr es hc=>by obtain⟨c,h⟩:=U.gm r es hc;exact(iL.1 h).1
 refine⟨⟨?_,?_,?_,?_,?_,?_,?_,U.glob⟩,⟨a2,?_,.refl _,λ_ _ _ h=> .inl h,λ_ _ h=> .inl h,λr hr _=>a0 r hr,by omega,rfl,rfl,rfl,?_⟩⟩
 ·intro r n v hc
  rw[jg (w:=w) (a0 r (a3 _ _ _ hc))];exact U.gc _ _ _ hc
 ·intro r es hc
  obtain⟨c,h⟩:=U.gm r es hc
  exact⟨c,(a0 r (a4 _ _ hc)).trans h⟩
 ·intro b y hx
  rw[Ze] at hx
  by_cases hb:b=i
  ·rw[jM hb] at hx
   obtain rfl:=bd hx
   exact⟨w.heap.size,z,by simp[updσ,hb],a5⟩
  ·rw[jJ hb] at hx
   obtain⟨r,z',I,R⟩:=U.blk b y hx
   exact⟨r,z',a2 _ _ I,R.mono a2 (.refl _) (a0 r (U.base _ _ _ I).2)⟩
 ·intro b b' r z z' hb a1 I R
  rw[Ze] at hb a1
  unfold updσ at I R
  by_cases J:b=i<;>by_cases e2:b'=i
  ·rw[J,e2]
  ·rw[jM J] at I;rw[jJ e2] at R;cases I
   have:=(U.base _ _ _ R).2;omega
  ·rw[jJ J] at I;rw[jM e2] at R;cases R
   have:=(U.base _ _ _ I).2;omega
  ·rw[jJ J] at I hb;rw[jJ e2] at R a1
   exact U.inj _ _ _ _ _ hb a1 I R
 ·intro b r z I
  unfold updσ at I
  by_cases J:b=i
  ·rw[jM J] at I;cases I;exact⟨hB,by omega⟩
  ·rw[jJ J] at I;have:=U.base _ _ _ I;exact⟨this.1,by omega⟩
 ·intro b y r z n v hx I hc
  rw[Ze] at hx
  unfold updσ at I
  by_cases J:b=i
  ·rw[jM J] at I;cases I;have:=a3 _ _ _ hc;omega
  ·rw[jJ J] at I hx;exact U.fz _ _ _ _ _ _ hx I hc
 ·intro b y r z hx I
  rw[Ze] at hx
  unfold updσ at I
  by_cases J:b=i
  ·rw[jM J] at I;cases I
   cases hg:g.obj w.heap.size with
   |none=>rfl
   |some es=>have:=a4 _ _ hg;omega
  ·rw[jJ J] at I hx;exact U.fm _ _ _ _ hx I
 ·intro b p hb
  unfold updσ at hb
  by_cases J:b=i
  ·right;omega
  ·rw[jJ J] at hb;exact .inl hb
 ·intro b r z I R
  unfold updσ at R
  by_cases J:b=i
  ·rw[jM J] at R;cases R;exact .inl (av _)
  ·rw[jJ J,I] at R;cases R
theorem Zcm{B : Nat} {σ : Pl} {g : GH} {w : World} {hh : Hp Y} (U : Inv E B σ hh g w) {b r z : Nat} {es es' : List (Value × SV Y)} (hb : hh b = ae (.map es)) (a1 : σ b = ae (r, z)) {ents ents' : Array MapEntry} {c c' : Nat} (ha : w.heap[r]? = ae (.map ents c))
    (hs : ents'.size = es'.length) (hd : ∀ (j : Nat) kv sv, es'[j]? = ae (kv, sv) → ∃ v bo, ents'[j]? = ae (MapEntry.mk kv v bo) ∧ Den E σ g sv v) :
    Inv E B σ (upd hh b (ae (.map es'))) g (setB w r (.map ents' c')) ∧ Stp i 0 [b] σ g w σ g (setB w r (.map ents' c')) := by
  have a0 : ∀ q, q ≠ r → (setB w r (.map ents' c')).heap[q]? = w.heap[q]? := λq hq => Z0o w r q _ hq
  have a3 : r < w.heap.size := (iL.1 ha).1
  have a4 : ∀ R r' z', hh R ≠ au → σ R = ae (r', z') → R ≠ b → r' ≠ r := by
    intro R r' z' I h2 h3 e
    subst e
    exact h3 (U.inj _ _ _ _ _ I (by rw[hb]; simp) h2 a1)
  refine⟨⟨?_, ?_, ?_, ?_, ?_, ?_, ?_, U.glob⟩, ⟨.refl _, λb p h => .inl h, .refl _, λ_ _ _ h => .inl h, λ_ _ h => .inl h, λq hq a5 => a0 q λe => a5 b (by simp) z (e ▸ a1), by rw[Zrf]; exact av _, rfl, rfl, rfl, λR r' z' I h2 => by rw[I] at h2; cases h2⟩⟩
  ·intro q n v hc
   have a2 := U.gc _ _ _ hc
   have : q ≠ r := by rintro rfl; simp[jl, ha] at a2
   rw[jg (w := w) (a0 q this)]; exact a2
  ·intro q es hc
   obtain⟨c, h⟩ := U.gm _ _ hc
   have : q ≠ r := by rintro rfl; rw[U.fm _ _ _ _ hb a1] at hc; cases hc
   exact⟨c, (a0 q this).trans h⟩
  ·intro R x J
   rw[Ze] at J
   by_cases e1 : R = b
   ·rw[jM e1] at J
    obtain rfl := bd J
    subst e1
    exact⟨r, z, a1, ents', c', Z7t w r _ a3, hs, hd⟩
   ·rw[jJ e1] at J
    obtain⟨r', z', I, h2⟩ := U.blk _ _ J
    exact⟨r', z', I, h2.mono (.refl _) (.refl _) (a0 _ (a4 _ _ _ (by rw[J]; simp) I e1))⟩
  ·intro b1 b2 r' z1 z2 I h2 k1 k2
   rw[Ze] at I h2
   have q1 : hh b1 ≠ none := by by_cases e : b1 = b; · rw[e, hb]; simp
                                ·rw[jJ e] at I; exact I
   have q2 : hh b2 ≠ none := by by_cases e : b2 = b; · rw[e, hb]; simp
                                ·rw[jJ e] at h2; exact h2
   exact U.inj _ _ _ _ _ q1 q2 k1 k2
  ·intro R r' z' I
   have := U.base _ _ _ I
   exact⟨this.1, by rw[Zrf]; exact this.2⟩
  ·intro R x r' z' n v J I hc
   rw[Ze] at J
   by_cases e1 : R = b
   ·rw[jM e1] at J
    obtain rfl := bd J
    subst e1
    have : n < (Blk.map es : Blk Y).fzc E := U.fz _ _ _ _ _ _ hb I hc
    exact this
   ·rw[jJ e1] at J; exact U.fz _ _ _ _ _ _ J I hc
  ·intro R x r' z' J I
   rw[Ze] at J
   by_cases e1 : R = b
   ·subst e1; exact U.fm _ _ _ _ hb I
   ·rw[jJ e1] at J; exact U.fm _ _ _ _ J I
theorem Zrg{ki:Bool} {d:TypeDesc} (hd:Z1a ki d) {a b:Value} (h:cg d a b=ae ac):a=b/\kq 10000 b a=true:=by
 cases ki with
 |true=>
  obtain⟨q,rfl⟩:=hd;cases a with
  |int kd x=>
   cases b with
   |int J y=>
    simp only[cg] at h;split at h
    ·rename_i e
     simp only[cr,ij] at h;subst h;subst e;exact⟨rfl,by simp[kq]⟩
    ·cases h
   |_=>simp[cg] at h
  |_=>simp[cg] at h
 |false=>
  obtain rfl:=hd;cases a with
  |string x=>
   cases b with
   |string y=>
    simp only[cg,cr] at h;have I:(x.data==y.data)=true:=h;rw[ij] at I;refine⟨by rw[ByteArray.ext I],?_⟩;show(y.data==x.data)=ac;rw[ij];exact I.symm
   |_=>simp[cg] at h
  |_=>simp[cg] at h
theorem Z0q{σ:Pl} {g:GH} {ki:Bool} {J:SV Y} {kv u:Value} (I:Zk4 ki J=ae kv) (hd:Den E σ g J u):u=kv:=by
 unfold Zk4 at I;split at I
 ·split at I
  ·cases I;cases hd;rfl
  ·cases I
 ·split at I
  ·cases I;cases hd;rename_i b R;subst R;rw[Zdx]
  ·cases I
 ·cases I
theorem Zn2(hE:EngOk E) {t:TypeId} {m x v:Operand} (I:o.op= .mapUpdate t m x v\/o.op= .insert t m x v) {sx sv0:SV Y} (c1:∀σ g u,Den E σ g (ev T x) u->Den E σ g sx u) (c0:∀σ g u,Den E σ g (ev T v) u->Den E σ g sv0 u) (R:sput E t (ev T m) sx sv0 h k):∃r,k r/\OpTri E o T h i r:=by
 have mm:m∈o.op.operands.toList:=by rcases I with I|I<;>simp[I,aQ]
 have mx:x∈o.op.operands.toList:=by rcases I with I|I<;>simp[I,aQ]
 have mv:v∈o.op.operands.toList:=by rcases I with I|I<;>simp[I,aQ]
 unfold sput at R;split at R
 ·rename_i kt _ _ _ _ b ht hm
  split at R
  ·rename_i ki es b5 hb
   split at R
   ·rename_i kv b6
    split at R
    ·rename_i es' b7
     obtain⟨d,a2,hd⟩:=Zb0 hE b5;refine⟨_,R,λb' a0=>by(simp[change] at a0;subst a0;rw[hb];simp),?_⟩;intro B σ g w ρ hh b8 hI hB c4 hx;have a0:hh b=ae (.map es):=(b8 b (by simp[Rd,change])).trans hb;have U:=hx m mm;rw[hm] at U;generalize c2:ρ m=vm at U;cases U;rename_i r z a5;have c3:ρ x=kv:=Z0q b6 (c1 _ _ _ (hx x mx));have a8:=c0 _ _ _ (hx v mv);obtain⟨r2,z2,b1,b2⟩:=hI.blk _ _ a0;rw[a5] at b1;cases b1;obtain⟨ents,c,ha,a3,a4⟩:=b2
     have b3:EntsK es ents.toList:=⟨by simpa using a3,λj kv sv J=>by
      obtain⟨v,bo,h4,_⟩:=a4 j kv sv J
      exact⟨_,by simpa using h4,rfl⟩⟩
     have run:∀(ents':Array MapEntry) (c':Nat),(iC t (.map (ae r)) kv (ρ v)).run E.P w= .ok () (setB w r (.map ents' c'))->(execOp ρ o).run E.P w= .ok .skip (setB w r (.map ents' c')):=by
      intro ents' c' hr;unfold execOp;rcases I with I|I<;>simp only[I,c2,c3,aF,hr,aA,aJ]
     rcases Yde hd b7 ents.toList 0 b3 with⟨hf,rfl⟩|⟨j,e,sv,J,hf,b4,rfl,b0⟩
     ·obtain⟨U,h2⟩:=Zcm (i:=i) hI a0 a5 ha (ents':=ents.push {key:=kv,val:=ρ v,born:=c}) (c':=c+1) (es':=es++ [(kv,sv0)]) (by simp[a3]) (by
       intro j a6 a7 J;rw[Array.getElem?_push];by_cases q:j=ents.size
       ·subst q
        rw[a3,bx (av _),Nat.sub_self] at J;simp only[List.getElem?_cons_zero,cr,Prod.mk.injEq] at J;obtain⟨rfl,rfl⟩:=J;rw[jM rfl];exact⟨_,_,rfl,a8⟩
       ·rw[jJ q]
        have:j<es.length:=by
         have:=(ai.1 J).1;simp at this;omega
        rw[bJ this] at J
        exact a4 j a6 a7 J)
      refine Zbe (run _ (c+1) ?_) ⟨σ,g,h2,by rw[Yc];exact U,.unk _⟩;unfold iC;simp only[aF,run_underlying (hE.ty _ _ ht).1,aA,Wn w r ents c ha,Y0 hd _ 9999 kt _ w a2,Xn w a2 hf,Vu w r ents c _ ha]
     ·have a9:ents[j]? =ae e:=by simpa using J
      obtain⟨U,h2⟩:=Zcm (i:=i) hI a0 a5 ha (ents':=ents.modify j λe=>{e with key:=kv,val:=ρ v}) (c':=c) (es':=es.set j (e.key,sv0)) (by simp[a3]) (by
       intro j' a6 a7 a1;rw[Array.getElem?_modify];rw[List.getElem?_set] at a1;by_cases q:j=j'
       ·subst q
        have:j<es.length:=(ai.1 b4).1;rw[jM rfl,jM this] at a1;simp only[cr,Prod.mk.injEq] at a1;obtain⟨rfl,rfl⟩:=a1;rw[jM rfl,a9];exact⟨ρ v,e.born,by rw[(Zrg hd b0).1];rfl,a8⟩
       ·rw[jJ q] at a1⊢
        exact a4 j' a6 a7 a1)
      refine Zbe (run _ c ?_) ⟨σ,g,h2,by rw[Yc];exact U,.unk _⟩;unfold iC;have b9:=(Zrg hd b0).2;simp only[aF,run_underlying (hE.ty _ _ ht).1,aA,Wn w r ents c ha,Y0 hd _ 9999 kt _ w a2,Xn w a2 hf,bq,a9,cm,cZ,Instr.keyThatStays,b9,kL,aJ,Vu w r ents c _ ha]
    ·exact R.elim
   ·exact R.elim
  ·exact R.elim
 ·exact R.elim
theorem Zuj(I:EngOk E) {t:TypeId} {m x v:Operand} (R:o.op= .mapUpdate t m x v\/o.op= .insert t m x v) (J:sput E t (ev T m) (ev T x) (ev T v) h k):∃r,k r/\OpTri E o T h i r:=
 Zn2 I R (λ_ _ _ h=>h) (λ_ _ _ h=>h) J
theorem Zuk(b:ByteArray):toL (mkS (toL b))=toL b:=by rw[Zdx]
theorem Zbr{β:Type} {kd:IntKind} {vv:β->SV Y} {a:Int} {f:SV Y->Prop} {z:Prop}:∀{l:List (Int×β)},(∀b,Zt l a=ae b->f (vv b))->(Zt l a=au->z)->Vl ac (.int ab kd a) (Wb kd vv l) f z
 | [],_,I=>I rfl
 |(q,b)::l,R,I=>by
  unfold Wb
  rw[bQ]
  unfold Vl
  simp only[decide_true]
  refine⟨λe=> ?_,λe=> ?_⟩
  ·have e:=eq_of_beq e
   exact R b (by unfold Zt;rw[jM e.symm])
  ·have e:=ne_of_beq_false e
   have U:Zt ((q,b)::l) a=Zt l a:=by
    conv=>lhs;unfold Zt
    rw[jJ (λx=>e x.symm)]
   exact Zbr (λb J=>R b (U.trans J)) (λJ=>I (U.trans J))
theorem Zbs{β:Type} {vv:β->SV Y} {a:List Nat} {f:SV Y->Prop} {z:Prop}:∀{l:List (List Nat×β)},(∀p∈l,Byt p.1)->(∀b,Zt l a=ae b->f (vv b))->(Zt l a=au->z)->Vl ab (.str ab a) (Zi vv l) f z
 | [],_,_,J=>J rfl
 |(q,b)::l,I,R,J=>by
  unfold Zi
  rw[bQ]
  unfold Vl
  have hq:toL (mkS q)=q:=I _ (bH ..)
  simp only[hq]
  refine⟨λe=> ?_,λe=> ?_⟩
  ·have e:=eq_of_beq e
   exact R b (by unfold Zt;rw[jM e.symm])
  ·have e:=ne_of_beq_false e
   have U:Zt ((q,b)::l) a=Zt l a:=by
    conv=>lhs;unfold Zt
    rw[jJ (λx=>e x.symm)]
   exact Zbs (λp hp=>I p (aI _ hp)) (λb I=>R b (U.trans I)) (λI=>J (U.trans I))
theorem Zj1{I:Type} {kd:IntKind} {vv:I->SV Y} {a:Int} {v:I}:∀{l:List (Int×I)},Zgt ac (.int kd a) (vv v) (Wb kd vv l)=ae (Wb kd vv (putS l a v))
 | []=>rfl
 |(q,b)::l=>by
  have J:=Zj1 (kd:=kd) (vv:=vv) (a:=a) (v:=v) (l:=l)
  unfold Wb at*
  rw[bQ]
  unfold Zgt putS
  simp only[decide_true]
  by_cases e:q=a
  ·subst e
   rw[jM rfl]
   simp
  ·have:(a==q)=false:=by simpa usingλx=>e x.symm
   rw[jJ e,this]
   simp only[J,bQ]
theorem Zj2{I:Type} {vv:I->SV Y} {a:List Nat} {v:I} (J:Byt a):∀{l:List (List Nat×I)},(∀p∈l,Byt p.1)->Zgt ab (.string (mkS a)) (vv v) (Zi vv l)=ae (Zi vv (putS l a v))
 | [],_=>rfl
 |(q,b)::l,R=>by
  have ih:=Zj2 (vv:=vv) J (v:=v) (l:=l) (λp U=>R p (aI _ U))
  have hq:toL (mkS q)=q:=R _ (bH ..)
  unfold Zi at*
  rw[bQ]
  unfold Zgt putS
  simp only[hq,show toL (mkS a)=a from J]
  by_cases e:q=a
  ·subst e
   rw[jM rfl]
   simp
  ·have:(a==q)=false:=by simpa usingλx=>e x.symm
   rw[jJ e,this]
   simp only[ih,bQ]
theorem Zj3(hE:EngOk E) {th:Y.Th} {U:TyI} {v:SV Y} {x:Y.dom th} (hd:E.dec th v.cells=ae x) (R:((aO v.cells.length (E.w th)&&(Zh U.d||aO (E.w th) 1))&&Z2b (Zh U.d) v)=ac) {σ:Pl} {g:GH} {u:Value} (hu:Den E σ g v u):Den E σ g (Zl E th (Zh U.d) x) u:=by
 simp only[aq,bm] at R;obtain⟨⟨h1,I⟩,J⟩:=R;obtain⟨hl,a0⟩:=hE.dec th _ _ hd;have hw:(E.enc th x).length=E.w th:=hE.enc th x;unfold Zl;cases hr:Zh U.d with
 |true=>
  rw[hr] at J;cases v with
  |agg cs=>
   obtain⟨arr,c,rfl,hs,R,a4⟩:=Yk hu;have a3:cs.length=E.w th:=ax h1;refine .agg c (by omega) (λj hj=>R j (by omega)) λj sv hj=> ?_;have a1:j<cs.length:=by rw[a3,<-hw];exact(ai.1 hj).1
   exact a0 σ g j (cs[j]) sv (c j) (ao a1) hj (a4 j _ (ao a1))
  |_=>simp[Z2b] at J
 |false=>
  rw[hr] at I J;have a5:E.w th=1:=by
   rcases I with I|I
   ·cases I
   ·exact ax I
  have a2:v.cells= [v]:=by cases v<;>first|rfl|simp[Z2b] at J
  rw[a5] at hw
  match he:E.enc th x,hw with
  | [y],_=>
   exact a0 σ g 0 v y u (by rw[a2];rfl) (by rw[he];rfl) hu
theorem Zn3{σ:Pl} {g:GH} {l:Bool} {kd:IntKind} {a:Int} {u:Value} (h:Den E σ g (.int l kd a) u):Den E σ g (.int ab kd a) u:=by cases h;exact .int _ _ _
theorem Zn4{σ:Pl} {g:GH} {l:Bool} {a:List Nat} {u:Value} (h:Den E σ g (.str l a) u):Den E σ g (.str ab a) u:=by cases h;exact .str _ ‹_›
theorem Zul(hE:EngOk E) {t:TypeId} {m x:Operand} {ok:Bool} (ho:o.op= .lookup t m x ok) (I:Zl9 E t (ev T m) (ev T x) ok h k):∃r,k r/\OpTri E o T h i r:=by
 unfold Zl9 at I;split at I
 ·rename_i th b _ hm
  split at I
  ·rename_i kt et _ _ _ es ht J
   split at I
   ·rename_i ki U a1 a0
    have a2:Zyr h (ev T m)=ae (es,[b]):=by rw[hm];simp only[Zyr,J]
    unfold Ykw at I;split at I
    ·rename_i z hz hc
     have a4:∀σ g,Den E σ g (Zl E th (Zh U.d) z) U.zero:=λσ g=>Zj3 hE hz hc (X0 E σ g U.zero);split at I
     ·rename_i l kd a hx
      obtain⟨L,rfl,I⟩:=I;unfold Z8w at I;split at I
      ·refine Zff hE ho ht a1 a0 a2 (zero:=Zl E th (Zh U.d) z) (key:= .int ab kd a) a4 (λσ g u R=> ?_) (Zbr (λb J=> ?_) λJ=> ?_)
       ·rw[hx] at R;exact Zn3 R
       ·exact I b (by rw[J];rfl)
       ·exact I z (by rw[J];rfl)
      ·refine Zff hE ho ht a1 a0 a2 (zero:=Yn U.zero) (key:= .int ab kd a) (λσ g=>X0 E σ g _) (λσ g u R=> ?_) (Zbr (λb J=> ?_) λJ=> ?_)
       ·rw[hx] at R;exact Zn3 R
       ·exact I.1 b J
       ·exact I.2 J
     ·rename_i l a hx
      obtain⟨L,rfl,a3,I⟩:=I;unfold Z8w at I;split at I
      ·refine Zff hE ho ht a1 a0 a2 (zero:=Zl E th (Zh U.d) z) (key:= .str ab a) a4 (λσ g u R=> ?_) (Zbs a3 (λb J=> ?_) λJ=> ?_)
       ·rw[hx] at R;exact Zn4 R
       ·exact I b (by rw[J];rfl)
       ·exact I z (by rw[J];rfl)
      ·refine Zff hE ho ht a1 a0 a2 (zero:=Yn U.zero) (key:= .str ab a) (λσ g=>X0 E σ g _) (λσ g u R=> ?_) (Zbs a3 (λb J=> ?_) λJ=> ?_)
       ·rw[hx] at R;exact Zn4 R
       ·exact I.1 b J
       ·exact I.2 J
     ·exact I.elim
    ·exact I.elim
   ·exact I.elim
  ·exact I.elim
 ·exact Z1c hE ho I
theorem Ycz(R:EngOk E) {t:TypeId} {m x v:Operand} (U:o.op= .mapUpdate t m x v\/o.op= .insert t m x v) (I:Yfd E t (ev T m) (ev T x) (ev T v) h k):∃r,k r/\OpTri E o T h i r:=by
 unfold Yfd at I;split at I
 ·rename_i th b _ hm
  split at I
  ·rename_i kt et _ _ _ es ht hb
   split at I
   ·rename_i ki ti a0 a2
    unfold putT at I;split at I
    ·rename_i z hz hc
     split at I
     ·rename_i l kd a hx
      obtain⟨L,rfl,I⟩:=I;refine Zn2 R U (sx:= .int ab kd a) (sv0:=Zl E th (Zh ti.d) z) (λσ g u J=> ?_) (λσ g u J=>Zj3 R hz hc J) ?_
      ·rw[hx] at J;exact Zn3 J
      ·unfold sput
       rw[ht,hm];simp only[a0,hb,Zk4,Zj1];exact I
     ·rename_i l a hx
      obtain⟨L,rfl,a1,ha,I⟩:=I;refine Zn2 R U (sx:= .str ab a) (sv0:=Zl E th (Zh ti.d) z) (λσ g u J=> ?_) (λσ g u J=>Zj3 R hz hc J) ?_
      ·rw[hx] at J;exact Zn4 J
      ·unfold sput
       rw[ht,hm];simp only[a0,hb,Zk4,Zj2 ha a1];exact I
     ·exact I.elim
    ·exact I.elim
   ·exact I.elim
  ·exact I.elim
 ·exact Zuj R U I
theorem Zlx(hE:EngOk E) {t:TypeId} (ho:o.op= .makeMap t au) (hk:k (fresh i (.map i) (.map []) [])):∃r,k r/\OpTri E o T h i r:=by
 refine⟨_,hk,λb hb=>by simp[fresh] at hb,?_⟩;intro B σ g w ρ hh a2 U R a0 hx;have hi:σ i=none:=a0 i (av _) (dC _);obtain⟨I,J⟩:=Z0p (i:=i) U R hi (x:= .map #[] 0) (z:=0) (blk:= .map []) ⟨#[],0,heap_alloc_new w _,rfl,λj kv sv hj=>by simp at hj⟩;have a1:(execOp ρ o).run E.P w= .ok (.value (.map (ae w.heap.size))) (w.alloc (.map #[] 0)):=by
  unfold execOp;simp only[ho,Instr.makeMap,eZ,aF,aJ,aA,newObj,hZ];rfl
 refine Yp a1 ⟨_,_,J,?_,.map (r:=w.heap.size) (z:=0) (by simp[updσ])⟩;rw[Zaa];exact I
end
end
section
open Go.RowKit
section
variable {Y:Thy} {E:Eng Y} {o:Oper} {T:Fr Y} {h:Hp Y} {i:Nat} {k:Res Y->Prop}
def EqOk(E:Eng Y) (σ:Pl) (g:GH) (w:World) (D:Nat) (t:TypeId) (x y:SV Y) (q:Bool):Prop:=
 ∀u v,Den E σ g x u->Den E σ g y v->(iG D t u v).run E.P w= .ok q w
theorem Yhz(R:EngOk E) {σ:Pl} {g:GH} {w:World} {D:Nat} {f:TypeId->SV Y->SV Y->Option (Bool×Bool)} (hf:∀t a b l q,f t a b=ae (l,q)->EqOk E σ g w D t a b q) {xs ys:List (SV Y)} {us vs:Array Value} (hx:Den E σ g (.agg xs) (.agg us)) (hy:Den E σ g (.agg ys) (.agg vs)):
 ∀{I:List Field} {l q:Bool},eqFs E f xs ys I=ae (l,q)->(jH D us vs I).run E.P w= .ok q w:=by
 intro I
 induction I with
 |nil=>intro l q h;cases h;simp[jH]
 |cons fd I ih=>
  intro l q h
  simp only[eqFs] at h
  split at h
  ·rename_i ti J U
   have J:fd.name≠ "_" :=jm J
   split at h
   ·rename_i a b ha hb
    split at h
    ·rename_i l1 p l2 r h1 h2
     cases h
     obtain⟨u,a0,a1⟩:=Zak R U hx ha w
     obtain⟨v,a2,a3⟩:=Zak R U hy hb w
     have he:=hf _ _ _ _ _ h1 u v a1 a3
     unfold jH
     rw[jM J]
     simp only[aF,a0,a2,he,aA]
     cases p with
     |true=>simpa using ih h2
     |false=>simp
    ·cases h
   ·cases h
  ·cases h
theorem Yh0(J:EngOk E) {σ:Pl} {g:GH} {w:World} {D:Nat} {el:TypeId} {I:TyI} (R:E.ty el=ae I) {f:SV Y->SV Y->Option (Bool×Bool)} (hf:∀a b l q,f a b=ae (l,q)->EqOk E σ g w D el a b q) {xs ys:List (SV Y)} {U vs:Array Value} (hx:Den E σ g (.agg xs) (.agg U)) (hy:Den E σ g (.agg ys) (.agg vs)):
 ∀{n j:Nat} {l q:Bool},eqIs f (Zh I.d) I.size xs ys n j=ae (l,q)->(jY D el I.size U vs (iE j n)).run E.P w= .ok q w:=by
 intro n
 induction n with
 |zero=>intro j l q h;cases h;simp[jY]
 |succ n ih=>
  intro j l q h
  simp only[eqIs] at h
  split at h
  ·rename_i a b ha hb
   split at h
   ·rename_i l1 p l2 r h1 h2
    cases h
    obtain⟨u,a0,a1⟩:=Zak J R hx ha w
    obtain⟨v,a2,a3⟩:=Zak J R hy hb w
    have he:=hf _ _ _ _ h1 u v a1 a3
    rw[gE]
    unfold jY
    simp only[aF,a0,a2,he,aA]
    cases p with
    |true=>simpa using ih h2
    |false=>simp
   ·cases h
  ·cases h
theorem Yl5(I:EngOk E) (σ:Pl) (g:GH) (w:World):∀(d D:Nat) (t:TypeId) (x y:SV Y) (l q:Bool),d<=D->eqT E d t x y=ae (l,q)->EqOk E σ g w D t x y q:=by
 intro d
 induction d with
 |zero=>intro D t x y l q _ h;cases h
 |succ d ih=>
  intro D t x y l q hD h;obtain⟨D,rfl⟩:∃D',D=D'+1:=⟨D-1,by omega⟩;have hD:d<=D:=by omega
  unfold eqT at h;intro u v R U;split at h
  ·rename_i kd _ _ _ l1 k1 a m k2 b J
   split at h
   ·rename_i hk
    obtain rfl:=jk hk;cases h;cases R;cases U;exact run_equalIn_int w D t _ _ a b (I.ty _ _ J).1
   ·cases h
  ·rename_i J
   cases h;cases R;cases U;exact run_equalIn_bool' w D t _ _ (I.ty _ _ J).1
  ·rename_i J
   cases h;cases R;cases U;rename_i b1 h1 b2 h2;subst h1 h2;rw[run_equalIn_string w D t _ _ (I.ty _ _ J).1,Zj8,<-beq_toListBytes]
  ·rename_i fs _ _ _ xs ys J
   split at h
   ·rename_i hm
    obtain⟨us,_,rfl,_⟩:=Yk R;obtain⟨vs,_,rfl,_⟩:=Yk U;have a0:=(I.ty _ _ J).1;have a2:E.P.fieldsOf t=fs:=by unfold Program.fieldsOf;rw[a0]
    rw[run_equalIn_struct w D t us vs (by rw[a2];exact a0) (I.eqs _ hm).1,a2];exact Yhz I (λt a b l q hq=>ih D t a b l q hD hq) R U h
   ·cases h
  ·rename_i n el _ _ _ xs ys J
   split at h
   ·rename_i ti a1
    obtain⟨us,_,rfl,_⟩:=Yk R;obtain⟨vs,_,rfl,_⟩:=Yk U;have a0:=(I.ty _ _ J).1;obtain⟨_,info,a3,a5,_⟩:=I.ty _ _ a1;have a4:E.P.cellsOf el=ti.size:=by unfold Program.cellsOf;rw[a3];simpa using a5
    rw[run_equalIn_array w D us vs a0 a3,a4,gU];exact Yh0 I a1 (λa b l q hq=>ih D el a b l q hD hq) R U h
   ·cases h
  ·cases h
theorem Zwq(hE:EngOk E) {op:BinOp} {t t':TypeId} {x y:Operand} (ho:o.op= .binOp op t x y t') (J:Zr9 E op t (ev T x) (ev T y) k):∃r,k r/\OpTri E o T h i r:=by
 have mx:x∈o.op.operands.toList:=by simp[ho,aQ]
 have my:y∈o.op.operands.toList:=by simp[ho,aQ]
 unfold Zr9 at J;split at J
 ·rename_i xs ys hX hY
  split at J
  ·rename_i l q hm hq
   have run:∀(σ:Pl) (g:GH) (w:World) (ρ:Operand->Value),Den E σ g (ev T x) (ρ x)->Den E σ g (ev T y) (ρ y)->∃I vs,ρ x= .agg I/\ρ y= .agg vs/\(iG 10000 t (.agg I) (.agg vs)).run E.P w= .ok q w:=by
    intro σ g w ρ R U;rw[hX] at R;rw[hY] at U;obtain⟨I,_,hu,_⟩:=Yk R;obtain⟨vs,_,hv,_⟩:=Yk U;rw[hu] at R;rw[hv] at U;exact⟨I,vs,hu,hv,Yl5 hE σ g w 100 10000 t _ _ l q (by omega) hq _ _ R U⟩
   split at J
   ·refine Z6 mx my (λσ g w ρ R U=> ?_) (Y5 (Zpr J))
    obtain⟨I,vs,hu,hv,he⟩:=run σ g w ρ R U;refine⟨.bool q,?_,.bool _ _⟩;unfold execOp;simp only[ho,hu,hv,aF,run_eqGuard_agg w _ t x y I vs (hE.eqs _ hm).2,aA,run_eql_struct w t I vs,he,aJ]
   ·refine Z6 mx my (λσ g w ρ R U=> ?_) (Y5 (Zpr J))
    obtain⟨I,vs,hu,hv,he⟩:=run σ g w ρ R U;refine⟨.bool (!q),?_,.bool _ _⟩;unfold execOp;simp only[ho,hu,hv,aF,run_eqGuard_agg w _ t x y I vs (hE.eqs _ hm).2,aA,run_neq_struct w t I vs,he,aJ]
   ·exact J.elim
  ·exact J.elim
 ·exact Yir hE ho J
end
end
section
open Go.RowKit
section
variable {Y:Thy} {E:Eng Y} {o:Oper} {T:Fr Y} {h:Hp Y} {i:Nat} {k:Res Y->Prop}
theorem Z0h{el:TypeId} {th:Y.Th} (h:Zcx E el=ae th):E.thOf el=ae th/\E.el th=el:=by
 unfold Zcx at h;split at h
 ·rename_i R I
  split at h
  ·rename_i J
   cases h;exact⟨I,ax J⟩
  ·cases h
 ·cases h
theorem Zq6{α:Type} (I:List α):∀(c j:Nat),(aR c I).flatten[j]? =if j<c*I.length then I[j%I.length]? else none:=by
 intro c
 induction c with
 |zero=>intro j;simp
 |succ c R=>
  intro j;rw[List.replicate_succ,List.flatten_cons];by_cases h:j<I.length
  ·rw[bJ h,jM (by rw[cp];omega),ko h]
  ·rw[bx (by omega),R]
   by_cases J:j<(c+1)*I.length
   ·rw[jM J,jM (by rw[cp] at J;omega)]
    conv=>rhs;rw[show j=j-I.length+I.length by omega,Nat.add_mod_right]
   ·rw[jJ J,jJ (by rw[cp] at J;omega)]
theorem Ze7{α:Type} (I:List α) (c:Nat):(aR c I).flatten.length=c*I.length:=by simp
theorem Ycg(hE:EngOk E) {t:TypeId} {x y:Operand} (ho:o.op= .makeSlice t x y) (J:Yfe E t (ev T x) (ev T y) i k):∃r,k r/\OpTri E o T h i r:=by
 have mx:x∈o.op.operands.toList:=by simp[ho,aQ]
 have my:y∈o.op.operands.toList:=by simp[ho,aQ]
 unfold Yfe at J;split at J
 ·rename_i el _ _ _ l kd n m c1 c ht hX hY
  split at J
  ·rename_i I a8
   obtain⟨b6,_⟩:=hE.ty _ _ ht;obtain⟨_,info,a9,b0,b1,b2⟩:=hE.ty _ _ a8;have run:∀(σ:Pl) (g:GH) (w:World) (ρ:Operand->Value),0<=n->n<=c->(I.bytes:Int)*c<=281474976710656->0<I.bytes->Den E σ g (ev T x) (ρ x)->Den E σ g (ev T y) (ρ y)->
    (execOp ρ o).run E.P w= .ok (.value (.slice (ae ⟨w.heap.size,0,au⟩) n.toNat c.toNat)) (w.alloc (.cells (madeCells I.zero.cells (c.toNat*I.size)) el)):=by
    intro σ g w ρ h0 h1 h2 h3 d1 d2;rw[hX] at d1;rw[hY] at d2;generalize b7:ρ x=v1 at d1;generalize b8:ρ y=v2 at d2;cases d1;cases d2;have hc:c<=9223372036854775807:=by
     have:(1:Int)*c<=I.bytes*c:=fK (by omega) (by omega);omega
    have:=run_make (P:=E.P) w t el info I.zero b6 a9 b2 kd c1 n c h0 h1 (by rw[b1];exact h2) hc;rw[b0] at this;unfold execOp;simp only[ho,b7,b8,aF,this,aA,aJ]
   have bound:0<I.bytes->0<=n->n<=c->(I.bytes:Int)*c<=281474976710656->c.toNat<=maxLen:=by
    intro h3 h0 h1 h2;have:(1:Int)*c<=I.bytes*c:=fK (by omega) (by omega);unfold maxLen;omega
   obtain⟨b9,c0⟩:=Yi (Y:=Y) (E:=E) I.zero;have cell:∀(σ:Pl) (g:GH) (cc j:Nat) (sv:SV Y),(Yn I.zero:SV Y).cells.length=I.size->0<I.size->j<cc*I.size->(Yn I.zero:SV Y).cells[j%I.size]? =ae sv->∃v,(madeCells I.zero.cells (cc*I.size))[j]? =ae v/\Den E σ g sv v:=by
    intro σ g cc j sv hl hp R b4;obtain⟨u,hu,hd⟩:=c0 σ g _ _ b4;refine⟨u,?_,hd⟩;have hs:I.zero.cells.size=I.size:=by rw[<-b9];exact hl
    unfold madeCells;rw[jw,jh];rw[jM R];simp only[cm,hs];rw[Array.getElem!_eq_getD,aS,hu];rfl
   split at J
   ·rename_i U hl
    simp only[aq] at U;have a0:=Yq U.1.1;have a3:=Yq U.1.2;have a1:=ax U.2;obtain⟨⟨h0,h1,h2⟩,J⟩:=Zu J;refine Zab (by intro es e;cases e) (λσ g w ρ hx=> ?_) J;refine⟨_,el,_,run σ g w ρ h0 h1 h2 a0 (hx x mx) (hx y my),?_,?_,?_,?_⟩
    ·exact Zwm
    ·simp only[cE,Ze7,size_madeCells,a1];exact av _
    ·intro j sv R
     simp only[cE] at R;rw[Zq6,a1] at R;split at R
     ·exact cell σ g _ j sv a1 a3 ‹_› R
     ·cases R
    ·intro σ' a2
     rw[size_madeCells] at a2;have:=Den.sl (E:=E) (g:=g) (σ:=σ') (b:=i) (off:=0) (len:=n.toNat) (w:=I.size) (c:=c.toNat) (cap:=some c.toNat) a2 (by rw[bq];exact av _) (by omega) (bound a0 h0 h1 h2) (by intro m e;cases e;rfl)
     simpa using this
   ·rename_i U hl
    split at J
    ·rename_i th b5
     split at J
     ·rename_i z a7
      simp only[aq] at U;have a0:=Yq U.1.1;have a3:=Yq U.1.2;have a1:=ax U.2;obtain⟨h0,h1,h2,J⟩:=J;obtain⟨c2,a6⟩:=hE.dec _ _ _ a7;have hw:E.w th=I.size:=by omega
      refine Zab (by intro es e;cases e) (λσ g w ρ hx=> ?_) J;have a4:(Blk.rows th (aR c.toNat z) 0).cells E=(aR c.toNat (E.enc th z)).flatten:=by
       simp only[cE,List.flatMap_def,List.map_replicate]
      refine⟨_,el,_,run σ g w ρ h0 h1 h2 a0 (hx x mx) (hx y my),(Z0h b5).2.symm,?_,?_,?_⟩
      ·rw[a4,Ze7,size_madeCells,hE.enc,hw];exact av _
      ·intro j sv R
       rw[a4,Zq6,hE.enc,hw] at R;split at R
       ·rename_i b3
        have hm:j%I.size<I.size:=ja _ a3;obtain⟨s0,a5⟩:∃s0,(Yn I.zero:SV Y).cells[j%I.size]? =ae s0:=⟨_,ao (by omega)⟩;obtain⟨v,hv,hd⟩:=cell σ g _ j s0 a1 a3 b3 a5;exact⟨v,hv,a6 σ g _ _ _ _ a5 R hd⟩
       ·cases R
      ·intro σ' a2
       rw[size_madeCells] at a2;have:=Den.sl (E:=E) (g:=g) (σ:=σ') (b:=i) (off:=0) (len:=n.toNat) (w:=I.size) (c:=c.toNat) (cap:=some c.toNat) a2 (by rw[bq];exact av _) (by omega) (bound a0 h0 h1 h2) (by intro m e;cases e;rfl)
       simpa using this
     ·exact J.elim
    ·exact J.elim
   ·exact J.elim
  ·exact J.elim
 ·exact J.elim
theorem Zgm{P:Program} (w:World) (dT sT ty elem:TypeId) (info:TypeInfo) (R J U a2:Nat) (base:Option Addr) (a1 a5:Nat) (I:Array Value) (t:TypeId) (cs:List Value)
 (hu:P.underlying dT=ae (.slice elem)) (hs:P.info? elem=ae info) (hg:w.heap[R]? =ae (.cells I t (0,0))) (hn:cs.length=jZ a1 U*info.size) (hb:base=au->cs= [])
 (a4:∀a,base=ae a->∀j v,cs[j]? =ae v->w.cell? (a.add j)=ae v) (a3:J+cs.length<=I.size) (h1:∀v∈cs,v.oneCell'=ac):
 (eV #[dT,sT] ty #[.slice (ae ⟨R,J,au⟩) U a2,.slice base a1 a5]).run P w=
  .ok (goInt (jZ a1 U)) (w.setRow R (I.toList.take J++cs++I.toList.drop (J+cs.length)).toArray):=by
 have a0:=run_storeCells_at P R J t cs 0 I w hg (by simpa using a3) h1
 cases base with
 |none=>
  have:=hb rfl
  subst this
  simp[eV,run_underlying hu,iK,gV,sizeOf,typeInfo,hs] at a0⊢
  simp[a0]
 |some a=>
  have hl:=run_loadCells_list (P:=P) w a cs (a4 a rfl)
  simp[eV,run_underlying hu,iK,gV,sizeOf,typeInfo,hs,<-hn,hl,a0]
theorem Ych{x:SV Y} {w0:Nat} {cs:List (SV Y)} {rd:List Nat} (I:Yff h w0 x=ae (cs,rd)) {hh:Hp Y} {σ:Pl} {g:GH} {w:World} {B:Nat} {v:Value} (a8:∀b∈rd,hh b=h b) (hI:Inv E B σ hh g w) (hd:Den E σ g x v):
 ∃(base:Option Addr) (n c:Nat) (us:List Value),v= .slice base n c/\us.length=n*w0/\cs.length=n*w0/\(base=au->n=0)/\(∀a,base=ae a->∀(j:Nat) u,us[j]? =ae u->w.cell? (a.add j)=ae u)/\
  ∀(j:Nat) sv u,cs[j]? =ae sv->us[j]? =ae u->Den E σ g sv u:=by
 unfold Yff at I
 split at I
 ·cases I;cases hd
  exact⟨au,0,0,[],rfl,by simp,by simp,λ_=>rfl,(λa e=>by cases e),λj sv u J=>by simp at J⟩
 ·rename_i b off len w' cap
  split at I
  ·rename_i b0 fz tg hw hb
   obtain rfl:=ax hw
   split at I
   ·rename_i a7
    rw[bu] at a7
    cases I
    obtain⟨r,z,c,rfl,a9,hz,hl,hm,_⟩:=Vc hd
    obtain⟨r',z',a5,a6⟩:=hI.blk b _ ((a8 b (by simp)).trans hb)
    rw[a9] at a5;cases a5
    obtain⟨u,a2,a3⟩:=Wq (by intro es e;cases e) a6
    simp only[cE] at a2 a3
    have e:(off+len)*w0=off*w0+len*w0:=cp _ _ _
    refine⟨_,len,c,(dk (len*w0)).map λj=>u (off*w0+j),rfl,by simp,by simp;omega,(λe=>by cases e),?_,?_⟩
    ·intro a ea j uu J
     cases ea
     rw[bv] at J
     obtain⟨j',a0,rfl⟩:=br.1 J
     obtain⟨a1,rfl⟩:j<len*w0/\j=j':=by
      obtain⟨R,U⟩:=ai.1 a0
      simp at R U
      exact⟨R,U⟩
     rw[Y1]
     exact a2 _ (by omega)
    ·intro j sv uu J a4
     rw[bv] at a4
     obtain⟨j',a0,rfl⟩:=br.1 a4
     obtain⟨a1,rfl⟩:j<len*w0/\j=j':=by
      obtain⟨R,U⟩:=ai.1 a0
      simp at R U
      exact⟨R,U⟩
     rw[bO,jM a1,cO] at J
     exact a3 _ _ J
   ·cases I
  ·cases I
 ·cases I
theorem Yci(hE:EngOk E) {c:Call} (hc:c.callee= .builtin .copy) (ho:o.op= .call c) {t:TypeId} {ts:List TypeId} {x y:Operand} (ha:c.args.toList= [x,y]) (e6:c.argTypes.toList=t::ts) (J:Yfg E t (ev T x) (ev T y) h k):∃r,k r/\OpTri E o T h i r:=by
 have mx:x∈o.op.operands.toList:=by
  have:x∈c.args.toList:=by rw[ha];simp
  simp[ho,aQ,dz,hc];simpa using this
 have my:y∈o.op.operands.toList:=by
  have:y∈c.args.toList:=by rw[ha];simp
  simp[ho,aQ,dz,hc];simpa using this
 have e5:c.args= #[x,y]:=by rw[<-fE (xs:=c.args),ha]
 have g8:c.argTypes[0]? =ae t:=by rw[<-ez,e6];rfl
 unfold Yfg at J;split at J
 ·rename_i el _ _ _ b off len w0 cap ht hX
  obtain⟨d9,_⟩:=hE.ty _ _ ht;have run:∀(w w':World) (ρ:Operand->Value) (u:Value),(eV #[t,t] o.type #[ρ x,ρ y]).run E.P w= .ok u w'->(execOp ρ o).run E.P w= .ok (.value u) w':=by
   intro w w' ρ u hl;have e:eV c.argTypes o.type #[ρ x,ρ y]=eV #[t,t] o.type #[ρ x,ρ y]:=by
    unfold eV;rw[g8];rfl
   unfold execOp;simp only[ho,resolve,hc,aF,aJ,aA,invoke,builtin,e5];rw[show(#[x,y].map ρ)= #[ρ x,ρ y] by simp,e,hl];rfl
  split at J
  ·rename_i ti th l fz b6 hb
   obtain⟨_,info,b7,b8,f2,f3⟩:=hE.ty _ _ b6;split at J
   ·rename_i hw
    simp only[aq] at hw;obtain rfl:=ax hw.1;have c5:=ax hw.2;obtain⟨lit,l2,c6,J,e8⟩:=Zeq hE J;obtain⟨⟨d5,g9⟩,J⟩:=Zu J;refine⟨_,J,λb' U=>by(simp[change] at U;subst U;rw[hb];simp),?_⟩;intro B σ g w ρ hh c3 hI hB f1 hx;have a7:∀b'∈b::c6,hh b'=h b':=c3;have U:=(a7 b (by simp)).trans hb;obtain⟨b1,c2,R,C⟩:=e8 hh σ g w B (ρ y) (λb' U=>a7 b' (by simp[U])) hI (hx y my);have hd:=hx x mx;rw[hX] at hd;obtain⟨r,z,c1,e1,a8,hz,f5,f9,_⟩:=Vc hd;obtain⟨r',z',a9,b4⟩:=hI.blk b _ U;rw[a8] at a9;cases a9
    obtain⟨arr,e,a3,b3,a4,a2,b0⟩:=(BlkOk.cells_iff (by intro es e;cases e)).1 b4;simp only[cE] at a4 a2;rw[Zv hE] at a4;have b9:min l2.length len<=l2.length:=kE _ _;have d6:min l2.length len<=len:=ks _ _;generalize hn:min l2.length len=n at*;have a6:jZ l2.length len=n:=hn;have h2:n*E.w th<=l2.length*E.w th:=bb _ b9;have f6:=C.len;have a0:(R.take (n*E.w th)).length=n*E.w th:=by rw[bi];omega
    have e9:(off+n)*E.w th<=l.length*E.w th:=bb _ (by omega);rw[cp] at e9;have c0:∀u∈R.take (n*E.w th),u.oneCell'=true:=by
     intro u hu;obtain⟨j,hj,rfl⟩:=dd (jn hu);have a5:j<(l2.flatMap (E.enc th)).length:=by rw[Zv hE];omega
     exact Uo (Zph hE th l2 (ao a5)) (C.den j _ _ (ao a5) (ao hj))
    have c4:=Zgm (P:=E.P) w t t o.type el info r (off*E.w th) len c1 b1 l2.length c2 arr e (R.take (n*E.w th)) d9 b7 a3 (by rw[a0,a6,b8,c5]) (λeb=>by
     have h0:=C.nil eb;have h1:=C.le;have:n=0:=by omega
     rw[this];simp) (λa ea j v hj=>by
     rw[bO] at hj;split at hj
     ·obtain⟨r2,o2,c7⟩:=C.some (by
       rcases jO l2.length with e0|e0
       ·have a1:=(ai.1 hj).1
        rw[f6,e0] at a1;simp at a1
       ·exact e0)
      rw[ea] at c7;cases c7;rw[Y1];exact C.cell r2 o2 ea j v hj
     ·cases hj) (by rw[a0];omega) c0
    have d7:=Yw arr.toList (R.take (n*E.w th)) (off*E.w th) (by rw[a0];simp;omega);have f7:(l.take off++l2.take len++l.drop (off+n)).length=l.length:=by
     simp only[az,bi,cU];rw[ji] at hn;omega
    have f4:(l2.take len).length=n:=by rw[bi,ji];exact hn
    obtain⟨b2,hS⟩:=Zdg (i:=i) hI (blk':= .rows th (l.take off++l2.take len++l.drop (off+n)) fz) U a8 (arr':=(arr.toList.take (off*E.w th)++R.take (n*E.w th)++arr.toList.drop (off*E.w th+(R.take (n*E.w th)).length)).toArray) a3 (by simp;omega) b3 b0 (by intro es e;cases e) rfl
     (λm I=>by
      simp only[gT] at I;have:=bb (E.w th) d5
      rw[bU,d7,jM (by omega)];simp) (by simp only[cE];rw[Zv hE,f7];exact a4)
     (λm sv I=>by
      simp only[cE] at I;obtain⟨q,p,y',rfl,hp,hq,hs⟩:=Y3 hE th _ I;rw[bU,d7,a0];have e2:l[q]? =ae y'->∃v,arr.toList[q*E.w th+p]? =ae v/\Den E σ g sv v:=by
       intro hq;obtain⟨v,hv,hd⟩:=a2 (q*E.w th+p) sv (by rw[Y7 hE th l q y' hq p hp];exact hs);exact⟨v,by simpa using hv,hd⟩
      have h3:q*E.w th+p<(q+1)*E.w th:=by rw[cp];omega
      by_cases q1:q<off
      ·have:(q+1)*E.w th<=off*E.w th:=bb _ q1
       rw[jM (by omega)];rw[be,bJ (by rw[bi];omega),bO,jM q1] at hq;exact e2 hq
      ·have g1:off*E.w th<=q*E.w th:=bb _ (by omega)
       rw[jJ (by omega)];rw[be,bx (by rw[bi];omega)] at hq;have ht:(l.take off).length=off:=by rw[bi];omega
       rw[ht] at hq;by_cases q2:q<off+n
       ·have g2:(q+1)*E.w th<=(off+n)*E.w th:=bb _ q2
        rw[cp off n] at g2;rw[jM (by omega)];rw[bJ (by omega),bO] at hq;split at hq
        ·have g3:q*E.w th+p-off*E.w th=(q-off)*E.w th+p:=by rw[Nat.sub_mul];omega
         have a1:(q-off)*E.w th+p<R.length:=by
          have g4:(q-off+1)*E.w th<=l2.length*E.w th:=bb _ (ai.1 hq).1;rw[cp] at g4;omega
         refine⟨R[(q-off)*E.w th+p],?_,C.den _ _ _ (by rw[Y7 hE th l2 _ y' hq p hp];exact hs) (ao a1)⟩;rw[g3,bO,jM (by omega),ao a1]
        ·cases hq
       ·have g2:(off+n)*E.w th<=q*E.w th:=bb _ (by omega)
        rw[cp] at g2;rw[jJ (by omega)];rw[bx (by omega),cO,f4] at hq;rw[show off+n+(q-off-n)=q by omega] at hq
        exact e2 hq)
    refine Yp (run w _ ρ _ (by rw[e1,C.v];exact c4)) ⟨σ,g,hS,by rw[Yc];exact b2,?_⟩;rw[a6];exact .int _ _ _
   ·exact J.elim
  ·rename_i ti cs fz tg b6 hb
   obtain⟨_,info,b7,b8,f2,f3⟩:=hE.ty _ _ b6;split at J
   ·rename_i c2 c6 hw g6
    split at J
    ·rename_i c8
     simp only[aq,bu] at hw c8;have c5:=ax hw.1;have g5:=Yq hw.2;obtain⟨⟨d5,f0⟩,f8⟩:=c8;refine⟨_,J,λb' U=>by(simp[change] at U;subst U;rw[hb];simp),?_⟩;intro B σ g w ρ hh c3 hI hB f1 hx;have a7:∀b'∈b::c6,hh b'=h b':=c3;have U:=(a7 b (by simp)).trans hb;obtain⟨b1,n2,e3,R,e4,h4,c9,g0,e7,d4⟩:=Ych g6 (λb' U=>a7 b' (by simp[U])) hI (hx y my);have hd:=hx x mx;rw[hX] at hd;obtain⟨r,z,c1,e1,a8,hz,f5,f9,_⟩:=Vc hd;obtain⟨r',z',a9,b4⟩:=hI.blk b _ U;rw[a8] at a9;cases a9
     obtain⟨arr,e,a3,b3,a4,a2,b0⟩:=(BlkOk.cells_iff (by intro es e;cases e)).1 b4;simp only[cE] at a4 a2;have b9:min n2 len<=n2:=kE _ _;have d6:min n2 len<=len:=ks _ _;generalize hn:min n2 len=n at*;have a6:jZ n2 len=n:=hn;have g1:n*w0<=n2*w0:=bb _ b9;have g2:n*w0<=len*w0:=bb _ d6;have a0:(R.take (n*w0)).length=n*w0:=by rw[bi];omega
     have b5:(c2.take (len*w0)).length=n*w0:=by
      rw[bi,c9,<-hn,<-Nat.mul_min_mul_right,ji]
     rw[cp] at f0;have c0:∀u∈R.take (n*w0),u.oneCell'=true:=by
      intro u hu;obtain⟨j,hj,rfl⟩:=dd (jn hu);have a5:j<c2.length:=by omega
      exact Uo (Vx f8 (ao a5)) (d4 j _ _ (ao a5) (ao hj))
     have c4:=Zgm (P:=E.P) w t t o.type el info r (off*w0) len c1 b1 n2 e3 arr e (R.take (n*w0)) d9 b7 a3 (by rw[a0,a6,b8,c5]) (λeb=>by
      have:=g0 eb;have:n=0:=by omega
      rw[this];simp) (λa ea j v hj=>by
      rw[bO] at hj;split at hj
      ·exact e7 a ea j v hj
      ·cases hj) (by rw[a0];omega) c0
     have d8:=Yw arr.toList (R.take (n*w0)) (off*w0) (by rw[a0];simp;omega);have g7:=Yw cs (c2.take (len*w0)) (off*w0) (by rw[b5];omega);obtain⟨b2,hS⟩:=Zdg (i:=i) hI (blk':= .raw (Wa cs (off*w0) (c2.take (len*w0))) fz tg) U a8 (arr':=(arr.toList.take (off*w0)++R.take (n*w0)++arr.toList.drop (off*w0+(R.take (n*w0)).length)).toArray) a3 (by simp;omega) b3 (by first|exact b0|(cases tg<;>exact b0)) (by intro es e;cases e) rfl
      (λm I=>by
       simp only[gT] at I
       rw[bU,d8,jM (by omega)];simp) (by simp only[cE,Wa,az,cU];rw[bi,b5];omega)
      (λm sv I=>by
       simp only[cE,Wa] at I;rw[g7,b5] at I;rw[bU,d8,a0];by_cases q1:m<off*w0
       ·rw[jM q1] at I⊢
        obtain⟨v,hv,hd⟩:=a2 m sv I;exact⟨v,by simpa using hv,hd⟩
       ·rw[jJ q1] at I⊢
        by_cases q2:m<off*w0+n*w0
        ·rw[jM q2] at I⊢
         rw[bO] at I;split at I
         ·have a1:m-off*w0<R.length:=by omega
          exact⟨R[m-off*w0],by rw[bO,jM (by omega),ao a1],d4 _ _ _ I (ao a1)⟩
         ·cases I
        ·rw[jJ q2] at I⊢
         obtain⟨v,hv,hd⟩:=a2 m sv I
         exact⟨v,by simpa using hv,hd⟩)
     refine Yp (run w _ ρ _ (by rw[e1,e4];exact c4)) ⟨σ,g,hS,by rw[Yc];exact b2,?_⟩;rw[a6];have:min (c2.length/w0) len=n:=by rw[c9,Nat.mul_div_cancel _ g5];exact hn
     show Den E σ g (.int ac .i64 (min (c2.length/w0) len:Nat)) _;rw[this];exact .int _ _ _
    ·exact J.elim
   ·exact J.elim
  ·exact J.elim
 ·exact J.elim
theorem Z7d(hE:EngOk E) {src I el:TypeId} {x:Operand} {R:List Nat} {d:TypeDesc} {U a2:Nat} {z:Value} (hs:E.P.underlying src=ae d) (ho:o.op= .convert src I x) (ht:E.ty I=ae ⟨.slice el,U,a2,z⟩) (hX:ev T x= .str ac R) (J:Zvi E el R k):∃r,k r/\OpTri E o T h i r:=by
 unfold Zvi at J;exact J.elim
end
end
section
open Go.RowKit
section
variable {Y:Thy} {E:Eng Y} {o:Oper} {T:Fr Y} {h:Hp Y} {i:Nat} {k:Res Y->Prop}
theorem Z2o(J:EngOk E) {t:TypeId} {th:Y.Th} (ho:o.op= .alloc t) (a1:E.arrOf t=ae th) (I:Zl6 E t th i k):∃r,k r/\OpTri E o T h i r:=by
 unfold Zl6 at I;split at I
 ·rename_i n el sz a3 z ht
  split at I
  ·rename_i l a0 R
   have R:=ax R;obtain⟨d1,d2⟩:=Xc J a0;refine Zab (by intro es e;cases e) (λσ g w ρ hx=> ?_) I;obtain⟨U,h2⟩:=Yi (E:=E) z;refine⟨z.cells,t,.pointer (ae ⟨w.heap.size,0,au⟩),?_,(J.arr _ _ a1).symm,?_,λj sv hj=> ?_,λσ' a2=> .ptr a2⟩
   ·unfold execOp
    simp only[ho,Instr.alloc,aF,V3 J ht,aA,newVar,newRow,newObj,hZ,aJ];rfl
   ·show(l.flatMap (E.enc th)).length<=_
    rw[Zv J,d1,<-U,R];exact av _
   ·obtain⟨s0,h3,h4⟩:=d2 j sv hj
    obtain⟨u,h5,h6⟩:=h2 σ g j s0 h3;exact⟨u,h5,h4 σ g u h6⟩
  ·exact I.elim
 ·exact I.elim
theorem Yfm(R:EngOk E) {t:TypeId} {th:Y.Th} {x:Operand} (U:o.op= .box t x) (a1:E.arrOf t=ae th) (I:Zvh E t th (ev T x) i k):∃r,k r/\OpTri E o T h i r:=by
 unfold Zvh at I;split at I
 ·rename_i n el sz a3 z ht
  split at I
  ·rename_i l a0 J
   simp only[aq] at J;obtain⟨J,hl⟩:=J;have J:=ax J;obtain⟨d1,d2⟩:=Xc R a0;refine Zab (by intro es e;cases e) (λσ g w ρ hx=> ?_) I;obtain⟨h1,h2⟩:=U1 (hx x (by simp[U,aQ])) hl;refine⟨(ρ x).cells,t,.pointer (ae ⟨w.heap.size,0,au⟩),?_,(R.arr _ _ a1).symm,?_,λj sv hj=> ?_,λσ' a2=> .ptr a2⟩
   ·unfold execOp
    simp only[U,Instr.box,aF,aA,newVar,newRow,newObj,hZ,aJ];rfl
   ·show(l.flatMap (E.enc th)).length<=_
    rw[Zv R,d1,<-h1,J];exact av _
   ·obtain⟨s0,h3,h4⟩:=d2 j sv hj
    obtain⟨u,h5,h6⟩:=h2 j s0 h3;exact⟨u,h5,h4 σ g u h6⟩
  ·exact I.elim
 ·exact I.elim
theorem Zyx(J:EngOk E) {t:TypeId} {x ix:Operand} (U:o.op= .index t x ix) (I:Zfp E t (ev T x) (ev T ix) k):∃r,k r/\OpTri E o T h i r:=by
 have mx:x∈o.op.operands.toList:=by simp[U,aQ]
 have my:ix∈o.op.operands.toList:=by simp[U,aQ]
 unfold Zfp at I;split at I
 ·rename_i len el sz b6 z cs kd n ht hX a1
  split at I
  ·rename_i R a2
   split at I
   ·rename_i b2
    unfold Zr5 at I;split at I
    ·rename_i th b8
     split at I
     ·rename_i ls a7 hc
      simp only[aq] at hc;have b0:=ax hc.1;have a0:=ax hc.2;obtain⟨h0,b7,y,hy,I⟩:=Zwd I;obtain⟨d1,d2⟩:=Xc J a7;have b1:n.toNat<len:=by rw[<-d1];exact(ai.1 hy).1
      have a9:n.toNat*R.size+R.size<=cs.length:=by
       rw[b0,a0,<-Nat.succ_mul];exact bb _ b1
      have hr:Uy (Zh R.d) R.size (n.toNat*R.size) cs=ae (.agg ((cs.drop (n.toNat*R.size)).take R.size)):=by
       unfold Uy;rw[b2];simp only[a9,decide_true]
      refine Z6 mx my (λσ g w ρ h1 h2=> ?_) I;rw[hX] at h1;rw[a1] at h2;generalize b3:ρ x=v1 at h1;generalize b4:ρ ix=v2 at h2;obtain⟨arr,_,rfl,_⟩:=Yk h1;cases h2;obtain⟨u,hu,hd⟩:=Zak J a2 h1 hr w;refine⟨u,?_,?_⟩
      ·unfold execOp
       have a4:0<=n/\n<(len:Int):=by omega
       simp only[U,b3,b4,Instr.index,aF,asIntOf,aJ,aA,Zx J ht];rw[jM a4];simp only[aF,Zz J a2,aA,hu,aJ]
      ·obtain⟨b5,c,rfl,hs,a5,a6⟩:=Yk hd
       have a3:((cs.drop (n.toNat*R.size)).take R.size).length=R.size:=by
        rw[bi,cU];omega
       refine .agg c (by rw[J.enc,<-a0,<-a3];exact hs) (λj hj=>a5 j (by rw[a3,a0,<-J.enc th y];exact hj)) λj sv hj=> ?_;have a8:j<E.w th:=by rw[<-J.enc th y];exact(ai.1 hj).1
       obtain⟨s0,h3,h4⟩:=d2 (n.toNat*E.w th+j) sv (by rw[Y7 J th ls _ y hy j a8];exact hj);refine h4 σ g _ (a6 j s0 ?_);rw[bO,jM (by omega),cO,a0];exact h3
     ·exact I.elim
    ·exact I.elim
   ·exact Zq9 J U (by rw[hX,a1] at I;rw[hX,a1];exact I)
  ·exact I.elim
 ·exact Zq9 J U I
theorem tagR{el:TypeId} {th:Y.Th} {l:List (Y.dom th)} {fz:Nat} (h:Zcx E el=ae th):ElOk E el (.rows th l fz):=by
 unfold Zcx at h;split at h
 ·split at h
  ·rename_i I
   cases h;exact(ax I).symm
  ·cases h
 ·cases h
theorem Zh9(hE:EngOk E) {t:TypeId} {len:Nat} {parts:Array (Nat×Operand)} (ho:o.op= .buildSlice t len parts) (J:Za3 E t len (parts.toList.map λp=>(p.1,ev T p.2)) i k):∃r,k r/\OpTri E o T h i r:=by
 have mx:∀x,x∈parts.toList.map (·.2)->x∈o.op.operands.toList:=by intro x hx;simpa[ho,aQ] using hx
 unfold Za3 at J;split at J
 ·rename_i el sz b6 z ht
  split at J
  ·rename_i I th b0 b3
   split at J
   ·rename_i cs hc hf
    simp only[aq,bu] at hc;obtain⟨⟨b9,b7⟩,h0,U⟩:=hc;split at J
    case h_2=>exact J.elim
    rename_i l a9 a2;have a2:=ax a2;obtain⟨d1,d2⟩:=Xc hE a9;have h0:0<I.size:=Yq h0;have U:(Yn I.zero:SV Y).cells.length=I.size:=ax U;have a5:I.zero.cells.size=I.size:=by rw[<-(Yi (E:=E) I.zero).1];exact U
    refine Zab (by intro es e;cases e) (λσ g w ρ hx=> ?_) J;obtain⟨p1,p2⟩:=Zeo (E:=E) (σ:=σ) (g:=g) (T:=T) (ρ:=ρ) (parts:=parts) (λx hm=>hx x (mx x hm));have hA:DenA E σ g ((aR len (Yn I.zero:SV Y).cells).flatten) ((iB (len*I.size)).map (I.zero.cells[· %I.zero.cells.size]!)):=by
     have hr:=Z4d U h0 len;refine⟨?_,λj s R=> ?_⟩
     ·rw[Array.size_map,Array.size_range]
      simp[U]
     ·rw[hr] at R
      by_cases c:j<len*I.size
      ·rw[jM c] at R
       obtain⟨u,hu,hd⟩:=(Yi (E:=E) I.zero).2 σ g _ s R;refine⟨u,?_,hd⟩;have b8:j%I.size<I.zero.cells.size:=by rw[a5];exact ja _ h0
       rw[jw,jh,jM c,cm,a5];have he:I.zero.cells[j%I.size]! =u:=by simp[getElem!_def,hu]
       rw[he]
      ·rw[jJ c] at R;cases R
    obtain⟨arr',h1,h2⟩:=Zen _ _ _ _ _ hA p1 p2 hf;obtain⟨hu,_⟩:=hE.ty _ _ ht;obtain⟨_,a6,a3,a0,_,b4⟩:=hE.ty _ _ b0;have a7:=h2.1;have a4:arr'.size=len*I.size:=by
     have:∀(ps:List (Nat×SV Y)) (cells cs:List (SV Y)) (pl:Nat->Option (Nat×Nat)),Zd7 pl cells ps=ae cs->cs.length=cells.length:=by
      intro ps
      induction ps with
      |nil=>intro cells cs pl h;simp[Zd7] at h;rw[h]
      |cons p ps ih=>
       intro cells cs pl h;simp only[Zd7] at h;split at h
       ·cases h
       ·split at h
        ·rename_i a8
         simp only[aq,bu,fO] at a8;rw[ih _ _ _ h];simp[Wa];omega
        ·cases h
     rw[<-a7,this _ _ _ _ hf,hA.1];simp
    refine⟨arr',el,.slice (ae ⟨w.heap.size,0,au⟩) len len,?_,tagR b3,?_,λj s R=> ?_,λσ' b5=> ?_⟩
    rotate_left
    ·show(l.flatMap (E.enc th)).length<=_
     rw[Zv hE,d1,a4,a2];exact av _
    ·obtain⟨s0,h3,h4⟩:=d2 j s R
     obtain⟨u,h5,h6⟩:=h2.2 j s0 h3;exact⟨u,h5,h4 σ g u h6⟩
    rotate_left
    ·unfold execOp
     simp only[ho,aF];by_cases a1:len*a6.size=0
     ·have b1:len=0:=by
       rw[a0] at a1;rcases Nat.mul_eq_zero.1 a1 with h|h<;>omega
      have b2:(fq t len (parts.map λ(n,x)=>(n,ρ x))).run E.P w= .ok (.slice (ae ⟨w.heap.size,0,au⟩) len len) (w.alloc (.cells arr' el)):=by
       subst b1;have e0:∀f:Nat->Value,jQ f (iB 0)= #[]:=λf=>by apply kY;simp
       simp[e0] at h1;simp[e0,fq,run_underlying hu,sizeOf,typeInfo,a3,h1,a0,newRow]
      rw[b2];rfl
     ·rw[run_buildSlice w t el len _ arr' a6 I.zero hu a3 b4 (by rw[a0];omega) a1 (by rw[a0];exact h1)];rfl
    ·have:=Den.sl (E:=E) (g:=g) (b:=i) (off:=0) (len:=len) (w:=I.size) (c:=len) (cap:=some len) b5 (by rw[a4];simp) (av _) (by unfold maxLen;omega) (by intro m e;cases e;rfl)
     simpa using this
   ·exact J.elim
  ·exact J.elim
 ·exact J.elim
theorem Zyy(J:EngOk E) {t:TypeId} {parts:Array (Nat×Operand)} (ho:o.op= .buildSlice t 0 parts) (hp:parts.toList.isEmpty=ac) (I:Zsb E t i k):∃r,k r/\OpTri E o T h i r:=by
 obtain rfl:parts= #[]:=by cases parts;simpa using hp
 unfold Zsb at I;split at I
 ·rename_i el sz a5 z ht
  split at I
  ·rename_i ti th U a3
   obtain⟨hu,_⟩:=J.ty _ _ ht;obtain⟨_,a7,a0,a2,_,a6⟩:=J.ty _ _ U;refine Zab (by intro es e;cases e) (λσ g w ρ hx=> ?_) I;refine⟨#[],el,.slice (ae ⟨w.heap.size,0,au⟩) 0 0,?_,tagR a3,aW _,λj s hj=> ?_,λσ' a4=> ?_⟩
   ·unfold execOp
    simp only[ho,aF];have R:∀f:Nat->Value,jQ f (iB 0)= #[]:=λf=>by apply kY;simp
    have a1:(fq t 0 (jQ (λ(n,x)=>(n,ρ x)) #[])).run E.P w= .ok (.slice (ae ⟨w.heap.size,0,au⟩) 0 0) (w.alloc (.cells #[] el)):=by
     have hf:∀f:Nat->Option (Nat×Nat),jF f #[] []=ae #[]:=λf=>by first|rfl|simp[jF]
     simp[R,fq,run_underlying hu,sizeOf,typeInfo,a0,a2,newRow,hf]
    rw[a1];rfl
   ·simp[cE] at hj
   ·have:=Den.sl (E:=E) (g:=g) (b:=i) (off:=0) (len:=0) (w:=ti.size) (c:=0) (cap:=none) a4 (by simp) (av _) (aW _) (by intro m e;cases e)
    simpa using this
  ·exact I.elim
 ·exact I.elim
theorem Zde(E:Eng Y) (th:Y.Th) (l:List (Y.dom th)) (d0:Y.dom th):∀(n j:Nat),j+n=l.length->Uf E th l d0 n j=(l.drop j).flatMap (E.enc th)
 |0,j,h=>by
  have:j=l.length:=by simpa using h
  subst this
  simp[Uf]
 |n+1,j,h=>by
  have I:j<l.length:=by omega
  have key:Uf E th l d0 (n+1) j=E.enc th (l.getD j d0)++Uf E th l d0 n (j+1):=by cases j<;>rfl
  rw[key,Zde E th l d0 n (j+1) (by omega),cy I,ir,bN,ao I]
  rfl
theorem Z2p(J:EngOk E) {t:TypeId} {x:Operand} (U:o.op= .load t x) (I:Zk3 E t (ev T x) h k):∃r,k r/\OpTri E o T h i r:=by
 unfold Zk3 at I;split at I
 ·rename_i b hX
  split at I
  ·rename_i th l fz hb
   have mx:x∈o.op.operands.toList:=by simp[U,aQ]
   unfold Z13 at I;split at I
   ·rename_i n el sz b0 z ht
    split at I
    ·rename_i te b2
     split at I
     ·rename_i d0 b1 a0
      have a0:=ax a0;obtain⟨R,I⟩:=Zu I;rw[Zde E th l d0 n 0 (by rw[R,bq])] at I;refine⟨_,I,Zr λB σ g w ρ hh a4 hI hx=> ?_⟩;have h1:=hx x mx;rw[hX] at h1;generalize a8:ρ x=v1 at h1;cases h1;rename_i r z a9;obtain⟨r',z',a2,a3⟩:=hI.blk b _ ((a4 b (by simp)).trans hb);rw[a9] at a2;cases a2;obtain⟨u,a6,a7⟩:=Wq (by intro es e;cases e) a3;have a1:=Zv J th l;have hr:Uy ac sz 0 (l.flatMap (E.enc th))=ae (.agg (l.flatMap (E.enc th))):=by
       have h0:0+sz<=(l.flatMap (E.enc th)).length:=by rw[a1,R,a0,bq];exact av _
       simp only[Uy,h0,kL,dW];rw[bh (by rw[a1,R,a0];exact av _)]
       first|rfl|simp
      have:=Vf hr u a7;have a5:=Xe J ht w r 0 u (λj hj=>a6 _ (by simp[Zh] at hj;show 0+j<_;simp only[cE];rw[a1,R];omega));refine⟨_,?_,this.2⟩;unfold execOp;simp only[U,a8,Instr.loadAt,aF,eH,aJ,aA,a5];rfl
     ·exact I.elim
    ·exact I.elim
   ·exact I.elim
  ·exact Zyc J U (hX.symm▸I)
 ·exact Zyc J U I
theorem Zyz(J:EngOk E) {t:TypeId} {x v:Operand} (ho:o.op= .store t x v) (I:Zr4 E t (ev T x) (ev T v) h k):∃r,k r/\OpTri E o T h i r:=by
 have mx:x∈o.op.operands.toList:=by simp[ho,aQ]
 have mv:v∈o.op.operands.toList:=by simp[ho,aQ]
 unfold Zr4 at I;split at I
 ·rename_i b hX
  split at I
  ·rename_i th l hb
   unfold Z14 at I;split at I
   ·rename_i n el sz c7 z ht
    split at I
    ·rename_i l' b8 hc
     simp only[aq] at hc;obtain⟨⟨a3,a0⟩,b1⟩:=hc;have a3:=ax a3;have a0:=ax a0;obtain⟨hl,I⟩:=Zu I;obtain⟨d1,d2⟩:=Xc J b8;have a2:=Zv J th l;have a8:=Zv J th l';refine⟨_,I,λb' U=>by(simp[change] at U;subst U;rw[hb];simp),?_⟩;intro B σ g w ρ hh c2 hI hB c9 hx;have U:hh b=ae (.rows th l 0):=(c2 b (by simp[Rd,change])).trans hb;have h1:=hx x mx;rw[hX] at h1;generalize c6:ρ x=v1 at h1;cases h1;rename_i r z b3;obtain⟨r',z',b4,b6⟩:=hI.blk b _ U;rw[b3] at b4;cases b4
     obtain⟨arr,e,ha,hz,a7,c8,b9⟩:=(BlkOk.cells_iff (by intro es e;cases e)).1 b6;obtain⟨a1,a6⟩:=U1 (hx v mv) b1;have a4:(l.flatMap (E.enc th)).length<=arr.size:=by rw[hz];exact a7
     have c1:∀u∈(ρ v).cells.toList,u.oneCell'=true:=by
      intro u hu;obtain⟨j,R,rfl⟩:=dd hu;have a9:j<(ev T v).cells.length:=by rw[a1];simpa using R
      obtain⟨u',b2,b7⟩:=a6 j _ (ao a9);have:(ρ v).cells.toList[j]=u':=by
       have c0:j<(ρ v).cells.size:=by simpa using R
       rw[cX c0] at b2
       simpa using bd b2
      rw[this];exact Uo (Vx b1 (ao a9)) b7
     have c3:=Zbc J ht ho w ρ r 0 arr e c6 ha (by rw[<-a1,a0]) (by rw[<-a1,a0,a3,<-hl,bq,<-a2];exact a4) c1;have a5:(ρ v).cells.toList.length=n*E.w th:=by simp[<-a1,a0,a3]
     have c4:=Yw arr.toList (ρ v).cells.toList 0 (by rw[a5,<-hl,<-a2];simpa using a4);have b0:l'.length=n:=d1;have c5:(arr.toList.take 0++(ρ v).cells.toList++arr.toList.drop (0+(ρ v).cells.toList.length)).toArray.size=arr.size:=by
      have h9:(ρ v).cells.toList.length<=arr.toList.length:=by rw[a5,<-hl,<-a2];simpa using a4
      simp only[ik,az,bi,cU];simp only[eY] at h9⊢;omega
     obtain⟨b5,hS⟩:=Zdg (i:=i) hI (blk':= .rows th l' 0) U b3 (arr':=(arr.toList.take 0++(ρ v).cells.toList++arr.toList.drop (0+(ρ v).cells.toList.length)).toArray) ha c5 hz b9 (by intro es e;cases e) rfl
      (λn hn=>by simp[gT] at hn) (by simp only[cE];rw[a8,b0,<-hl,<-a2];exact a7)
      (λj sv R=>by
       simp only[cE] at R;rw[bU,c4,jJ (Nat.not_lt_zero _),a5];have d4:j<n*E.w th:=by rw[<-b0,<-a8];exact(ai.1 R).1
       rw[jM (by omega)];obtain⟨s0,h3,h4⟩:=d2 j sv R;obtain⟨u,h5,h6⟩:=a6 j s0 h3
       exact⟨u,by simpa using h5,h4 σ g u h6⟩)
     refine Zbe c3 ⟨σ,g,hS,?_,.unk _⟩;rw[Yc];exact b5
    ·exact I.elim
   ·exact I.elim
  ·exact Zpe J ho (hX.symm▸I)
 ·exact Zpe J ho I
theorem Zkq(J:EngOk E) {t:TypeId} {x ix:Operand} (R:o.op= .indexAddr t x ix) (I:Wx E t (ev T x) (ev T ix) h k):∃r,k r/\OpTri E o T h i r:=by
 have mx:x∈o.op.operands.toList:=by simp[R,aQ]
 have my:ix∈o.op.operands.toList:=by simp[R,aQ]
 have run:∀{len:Nat} {el:TypeId} {sz a2:Nat} {z:Value} (ht:E.ty t=ae ⟨.array len el,sz,a2,z⟩) (w:World) (ρ:Operand->Value) (ti:TyI) (a:Addr) (kd:IntKind) (n:Int),E.ty el=ae ti->0<=n/\n<(len:Int)->ρ x= .pointer (ae a)->ρ ix= .int kd n->(execOp ρ o).run E.P w= .ok (.value (.pointer (ae (a.add (n.toNat*ti.size))))) w:=by
  intro len el sz a2 z ht w ρ ti a kd n a8 h0 a0 a1;unfold execOp;simp only[R,a0,a1,Instr.indexAt,aF,asIntOf,aJ,aA,Zx J ht,eH,jM h0,Zz J a8]
 unfold Wx at I;split at I
 ·rename_i b hX
  split at I
  ·rename_i th l fz hb
   unfold Zc8 at I;split at I
   ·rename_i len el sz a2 z f kd n ht a3
    split at I
    ·rename_i te a4
     obtain⟨h0,I⟩:=Zu I;obtain⟨hw,I⟩:=Wf I;refine Z6 mx my (λσ g w ρ U h2=> ?_) I;rw[hX] at U;rw[a3] at h2;generalize a0:ρ x=v1 at U;generalize a1:ρ ix=v2 at h2;cases h2;cases U;refine⟨_,run ht w ρ te _ _ _ a4 h0 a0 a1,?_⟩;rw[Y1]
     simpa using Den.eptr (off:=0) (i:=n.toNat) (w:=te.size) (by assumption)
    ·exact I.elim
   ·exact I.elim
  ·exact We J R (hX.symm▸I)
 ·rename_i gl hX
  split at I
  ·rename_i len el sz a2 z kd n ht a3
   unfold Zc9 at I;split at I
   ·rename_i v th a9 b3
    split at I
    ·rename_i l a6
     split at I
     ·rename_i te a4
      obtain⟨hw,I⟩:=Wf I;obtain⟨h0,b1,y,hy,I⟩:=Zwd I;obtain⟨d1,d2⟩:=Xc J a6;refine⟨_,I,Zr λB σ g w ρ hh b2 hI hx=> ?_⟩;have U:=hx x mx;have h2:=hx ix my;rw[hX] at U;rw[a3] at h2;generalize a0:ρ x=v1 at U;generalize a1:ρ ix=v2 at h2;cases h2;cases U;have a5:∀(j:Nat) sv,(E.enc th y)[j]? =ae sv->∃u,g.cell gl (n.toNat*E.w th+j)=ae u/\Den E σ g sv u:=λj sv hj=>by
       have b0:j<E.w th:=by rw[<-J.enc th y];exact(ai.1 hj).1
       obtain⟨s0,h3,h4⟩:=d2 (n.toNat*E.w th+j) sv (by rw[Y7 J th l _ y hy j b0];exact hj);obtain⟨u,hu,a7⟩:=hI.glob _ _ a9 _ _ h3;exact⟨u,hu,h4 _ _ _ (a7.mono (λ_ _ e=>by cases e) (.refl _))⟩
      refine⟨.pointer (ae ⟨gl,n.toNat*E.w th+0,au⟩),?_,.pptr (λj=>(g.cell gl (n.toNat*E.w th+j)).getD undef) (λj hj=> ?_) (λj sv hj=> ?_)⟩
      ·have:=run ht w ρ te _ _ _ a4 ⟨h0,by omega⟩ a0 a1
       rw[this,Y1,hw,bq,ei]
      ·obtain⟨u,hu,_⟩:=a5 j _ (ao hj)
       rw[hu];rfl
      ·obtain⟨u,hu,hd⟩:=a5 j sv hj
       rw[hu];exact hd
     ·exact I.elim
    ·exact We J R (by first|exact I|exact(hX.symm▸I))
   ·exact We J R (by first|exact I|exact(hX.symm▸I))
  ·exact We J R (hX.symm▸I)
 ·exact We J R I
end
end
section
open Go.RowKit
section
variable {Y:Thy} {E:Eng Y} {o:Oper} {T:Fr Y} {h:Hp Y} {i:Nat} {k:Res Y->Prop}
inductive NilOk:TypeDesc->Value->Bool->Prop
 |p0 {e}:NilOk (.pointer e) (.pointer au) ac
 |p1 {e a}:NilOk (.pointer e) (.pointer (ae a)) ab
 |i0 {ms}:NilOk (.interface ms) .nilIface ac
 |i1 {ms t v}:NilOk (.interface ms) (.iface t v) ab
 |s0 {e}:NilOk (.slice e) (.slice au 0 0) ac
 |s1 {e a l c}:NilOk (.slice e) (.slice (ae a) l c) ab
 |m0 {k e}:NilOk (.map k e) (.map au) ac
 |m1 {k e r}:NilOk (.map k e) (.map (ae r)) ab
 |f0 {a b c}:NilOk (.func a b c) .nilFunc ac
 |f1 {a b c f x y}:NilOk (.func a b c) (.func f x y) ab
theorem Zem{σ:Pl} {g:GH} {d:TypeDesc} {x:SV Y} {v:Value} {p:Bool} (I:nilV x=ae p) (J:nilT d x=ac) (hd:Den E σ g x v):NilOk d v p:=by
 unfold nilV at I;split at I<;>first|cases I|skip
 all_goals
  first
  |(simp only[nilT] at J;split at J<;>first|(cases hd;constructor)|cases J)
  |skip
theorem Zm9{P:Program} {t:TypeId} {d:TypeDesc} (J:P.underlying t=ae d) {x y:Value} {p q:Bool} (R:NilOk d x p) (U:NilOk d y q) (I:(p||q)=ac) (w:World):(Op.equal t x y).run P w= .ok (p&&q) w:=by
 show(iG (9999+1) t x y).run P w=_;rw[iG];rw[aF,run_underlying J];cases R<;>cases U<;>first|rfl|(simp at I)
theorem Zp1{P:Program} {op:BinOp} {t:TypeId} {x y:Operand} {d:TypeDesc} {u v:Value} {p q:Bool} (I:(Za2 x||Za2 y)=ac) (n1:NilOk d u p) (J:NilOk d v q) (w:World):(eqGuard op t x y u v).run P w= .ok () w:=by
 cases op<;>first|rfl|skip
 all_goals
  cases n1<;>cases J<;>first|rfl|(cases x<;>first|rfl|(cases y<;>first|rfl|(simp[Za2] at I)))
theorem Zdo{P:Program} {t:TypeId} {d:TypeDesc} (U:P.underlying t=ae d) {x y:Value} {p q:Bool} (I:NilOk d x p) (J:NilOk d y q) (R:(p||q)=ac) (w:World):(binOp .eql t x y).run P w= .ok (.bool (p&&q)) w/\(binOp .neq t x y).run P w= .ok (.bool (!(p&&q))) w:=by
 have e:=Zm9 U I J R w;cases I<;>cases J<;>simp only[binOp,aF,e,aA,aJ,and_self]
theorem Yag(hE:EngOk E) {op:BinOp} {t t':TypeId} {x y:Operand} (R:o.op= .binOp op t x y t') {p q:Bool} (hp:nilV (ev T x)=ae p) (hq:nilV (ev T y)=ae q) (hc:(Za2 x||Za2 y)=ac) (I:Z8u E op t (ev T x) (ev T y) p q k):∃r,k r/\OpTri E o T h i r:=by
 have mx:x∈o.op.operands.toList:=by simp[R,aQ]
 have my:y∈o.op.operands.toList:=by simp[R,aQ]
 unfold Z8u at I;split at I
 ·rename_i ti a0
  have hu:=(hE.ty _ _ a0).1;split at I
  ·rename_i hb
   simp only[aq] at hb;obtain⟨⟨U,h2⟩,h3⟩:=hb;have hg:∀(ρ:Operand->Value) (w:World) (op:BinOp),NilOk ti.d (ρ x) p->NilOk ti.d (ρ y) q->(eqGuard op t x y (ρ x) (ρ y)).run E.P w= .ok () w:=
    λρ w op n1 J=>Zp1 hc n1 J w
   split at I
   ·refine Z6 mx my (λσ g w ρ d1 d2=> ?_) I
    have n1:=Zem hp U d1;have J:=Zem hq h2 d2;refine⟨.bool (p&&q),?_,.bool _ _⟩;unfold execOp;have e:(binOp .eql t (ρ x) (ρ y)).run E.P w= .ok (.bool (p&&q)) w:=(Zdo hu n1 J h3 w).1;simp only[R,aF,hg ρ w _ n1 J,aA,e,aJ]
   ·refine Z6 mx my (λσ g w ρ d1 d2=> ?_) I
    have n1:=Zem hp U d1;have J:=Zem hq h2 d2;refine⟨.bool (!(p&&q)),?_,.bool _ _⟩;unfold execOp;have e:(binOp .neq t (ρ x) (ρ y)).run E.P w= .ok (.bool (!(p&&q))) w:=(Zdo hu n1 J h3 w).2;simp only[R,aF,hg ρ w _ n1 J,aA,e,aJ]
   ·exact I.elim
  ·exact I.elim
 ·exact I.elim
theorem Yah(hE:EngOk E) {op:BinOp} {t t':TypeId} {x y:Operand} (J:o.op= .binOp op t x y t') (R:y= .const (.slice au 0 0)) (I:Z8x E op t (ev T x) (ev T y) k):∃r,k r/\OpTri E o T h i r:=by
 have mx:x∈o.op.operands.toList:=by simp[J,aQ]
 have my:y∈o.op.operands.toList:=by simp[J,aQ]
 unfold Z8x at I;split at I
 ·rename_i th l _ el _ _ _ hX a1
  obtain⟨hl,I⟩:=I;have hu:=(hE.ty _ _ a1).1;refine Z6 mx my (λσ g w ρ d1 d2=> ?_) I;rw[hX] at d1;generalize a2:ρ x=v1 at d1;cases d1;rename_i base c cv hm hn a3 hb hd hf;have a0:base≠none:=λe=>by
   have:=hn e;have:=jv.2 hl;omega
  obtain⟨a,rfl⟩:=aY.1 a0;have n1:NilOk (.slice el) (.slice (ae a) l.length c) false:= .s1;have U:NilOk (.slice el) (ρ y) true:=Zem (x:=ev T y) (by rw[R];rfl) (by rw[R];rfl) d2;refine⟨.bool ab,?_,.bool _ _⟩;unfold execOp;have hg:=Zp1 (op:= .eql) (x:=x) (y:=y) (t:=t) (P:=E.P) (by rw[R];simp[Za2]) n1 U w;have e:=(Zdo (P:=E.P) hu n1 U rfl w).1;simp only[J,a2,aF,hg,aA,e,aJ];rfl
 ·exact I.elim
theorem Ztl(J:EngOk E) {t:TypeId} (I:Zo1 E t=ac):∃el,E.P.underlying t=ae (.slice el)/\E.P.underlying el=ae (.int .u8):=by
 unfold Zo1 at I;split at I
 ·rename_i el _ _ _ U
  split at I
  ·rename_i R
   exact⟨el,(J.ty _ _ U).1,(J.ty _ _ R).1⟩
  ·cases I
 ·cases I
theorem Zgj{σ:Pl} {g:GH} {fl:Bool}:∀{cs:List (SV Y)} {f:Bool} {l:List Nat},Zg4 fl cs=ae (f,l)->∀u:Nat->Value,(∀j R,cs[j]? =ae R->Den E σ g R (u j))->
 ∃J:List Int,J.length=cs.length/\(∀j,j<cs.length->(J.map (Value.int .u8))[j]? =ae (u j))/\l=J.map (λn=>n.toNat%256)
 | [],f,l,h,u,hd=>by
  cases h
  exact⟨[],rfl,λj I=>by simp at I,rfl⟩
 |x::r,f,l,h,u,hd=>by
  unfold Zg4 at h
  split at h
  ·cases‹_::_= []›
  ·rename_i f' n r' e
   cases e
   split at h
   ·rename_i g' l' hl
    cases h
    obtain⟨J,h1,h2,rfl⟩:=Zgj hl (λj=>u (j+1)) λj R I=>hd (j+1) R I
    have U:=hd 0 _ rfl
    refine⟨n::J,by simp[h1],λj I=> ?_,by simp⟩
    cases j with
    |zero=>
     generalize u 0=u0 at U
     cases U;rfl
    |succ j=>exact h2 j (by simpa using I)
   ·cases h
  ·cases h
theorem Yai(r:ByteArray) (b:UInt8):toL (r.push b)=toL r++ [b.toNat]:=by
 simp[toL]
theorem Z37(I:List Int):∀r:ByteArray,toL (I.foldl (λr n=>r.push (UInt8.ofNat n.toNat)) r)=toL r++I.map (λn=>n.toNat%256):=by
 induction I with
 |nil=>intro r;simp
 |cons n I J=>
  intro r;rw[List.foldl_cons,J,Yai,be];simp[UInt8.toNat_ofNat']
theorem Zlg(hE:EngOk E) {src a0:TypeId} {x:Operand} (ho:o.op= .convert src a0 x) (hb:Zo1 E src=ac) {a1 a2:Nat} {z:Value} (ht:E.ty a0=ae ⟨.string,a1,a2,z⟩) {y:SV Y} (hX:ev T x=y) (J:Zdb y h k):∃r,k r/\OpTri E o T h i r:=by
 have mx:x∈o.op.operands.toList:=by simp[ho,aQ]
 obtain⟨el,hs,he⟩:=Ztl hE hb;have hd:=(hE.ty _ _ ht).1;have run:∀(w:World) (ρ:Operand->Value) a l c u,ρ x= .slice a l c->(Conv.bytesToString (.slice a l c)).run E.P w= .ok u w->(execOp ρ o).run E.P w= .ok (.value u) w:=by
  intro w ρ a l c u U hr;unfold execOp;simp only[ho,U,aF,run_convert_bytes_string w src a0 el a l c hs he hd,hr,aA,aJ]
 unfold Zdb at J;split at J
 ·refine⟨_,J,Zr λB σ g w ρ hh a3 hI U=> ?_⟩
  have R:=U x mx;rw[hX] at R;generalize hv:ρ x=v at R;cases R;exact⟨.string .empty,run w ρ au 0 0 _ hv (by simp[Conv.bytesToString,go_sem]),.str _ rfl⟩
 ·rename_i b off len w' cap
  split at J
  ·rename_i cs fz tg a5
   split at J
   ·rename_i f l hq hl
    simp only[aq,fp,bu] at hq;obtain⟨rfl,b5⟩:=hq;refine⟨_,J,Zr λB σ g w ρ hh a3 hI U=> ?_⟩;have R:=U x mx;rw[hX] at R;generalize hv:ρ x=v at R;cases R;rename_i c r z' _ _ _ _ _;have b3:σ b=ae (r,z'):=by assumption
    have hz:(off+c)*1<=z':=by assumption
    have b4:len<=c:=by assumption
    have a6:=(a3 b (by simp)).trans a5;obtain⟨r',z,a4,a7⟩:=hI.blk _ _ a6;rw[b3] at a4;cases a4;obtain⟨u,b1,b2⟩:=Wq (by intro es e;cases e) a7
    obtain⟨ns,n1,n2,rfl⟩:=Zgj (E:=E) (σ:=σ) (g:=g) hl (λj=>u (off+j)) (λj sv I=>b2 _ _ (by
     rw[bO] at I;split at I
     ·rw[cO] at I;exact I
     ·cases I))
    have b0:((cs.drop off).take len).length=len:=by simp;omega
    rw[b0] at n1 n2;have a9:(loadCells ⟨r,off*1,au⟩ len).run E.P w= .ok (ns.map (Value.int .u8)).toArray w:=by
     have:=run_loadCells_list (P:=E.P) (w:=w) ⟨r,off*1,au⟩ (ns.map (Value.int .u8)) λj v I=>by
      have a8:j<len:=by
       have:=(ai.1 I).1
       simpa[n1] using this
      rw[n2 j a8] at I;cases I;rw[Nat.mul_one,Y1];exact b1 (off+j) (by show off+j<cs.length;omega)
     rw[List.length_map,n1] at this;exact this
    refine⟨_,run w ρ _ _ _ _ hv (run_bytesToString w _ len c ns a9),.str _ ?_⟩;rw[Z37];rfl
   ·exact J.elim
  ·exact J.elim
 ·exact J.elim
theorem DenL.append0{σ:Pl} {g:GH} {a b:List (SV Y)} {U vb:List Value} (h:DenL E σ g a U) (k:DenL E σ g b vb):DenL E σ g (a++b) (U++vb):=by
 refine⟨by simp[h.1,k.1],λj R v I J=> ?_⟩;have hl:=h.1;by_cases e:j<a.length
 ·rw[bJ e] at I
  rw[bJ (by omega)] at J;exact h.2 j R v I J
 ·rw[bx (by omega)] at I
  rw[bx (by omega),<-hl] at J;exact k.2 _ R v I J
theorem Z38{P:Program} {t:TypeId} {x:Value} {d:TypeDesc} (J:P.underlying t=ae d) (I:∀ms,d≠ .interface ms) (w:World):(jo t x).run P w= .ok (.iface t x) w:=by
 unfold jo;rw[aF,run_underlying J];cases d<;>first|rfl|exact ka rfl (I _)
theorem Zku{P:Program} {t U:TypeId} {z:Value} {d:TypeDesc} (J:P.underlying t=ae d) (I:∀ms,d≠ .interface ms) (w:World) (R:(zeroValue t).run P w= .ok z w):(eg .nilIface U t ac).run P w= .ok (.tuple #[z,.bool ab]) w:=by
 unfold eg;rw[aF,run_underlying J];cases d<;>first|exact ka rfl (I _)|(simp only[aA,kL,aF,R,aJ])
theorem Zbf{P:Program} {t R:TypeId} {u:Value} {ok:Bool} {d:TypeDesc} (J:P.underlying t=ae d) (I:∀ms,d≠ .interface ms) (w:World):(eg (.iface t u) R t ok).run P w= .ok (if ok then .tuple #[u,.bool ac] else u) w:=by
 unfold eg;rw[aF,run_underlying J];cases d<;>first|exact ka rfl (I _)|(simp only[aA,kL,aJ])
theorem Zgw{P:Program} {t I xt:TypeId} {u z:Value} {d:TypeDesc} (U:P.underlying t=ae d) (J:∀ms,d≠ .interface ms) (R:I≠t) (w:World) (hz:(zeroValue t).run P w= .ok z w):(eg (.iface I u) xt t ac).run P w= .ok (.tuple #[z,.bool ab]) w:=by
 unfold eg;rw[aF,run_underlying U];cases d<;>first|exact ka rfl (J _)|(simp only[aA,jJ R,kL,aF,hz,aJ])
theorem Yaj(R:EngOk E) {t:TypeId} {x:Operand} (J:o.op= .makeInterface t x) (I:Zsa E t (ev T x) k):∃r,k r/\OpTri E o T h i r:=by
 have mx:x∈o.op.operands.toList:=by simp[J,aQ]
 unfold Zsa at I;split at I
 ·rename_i ti a0
  have hu:=(R.ty _ _ a0).1;split at I
  ·exact I.elim
  ·rename_i U
   refine W5 mx (λσ g w ρ hd=>⟨.iface t (ρ x),?_,.iface hd⟩) I;unfold execOp;simp only[J,aF,Z38 hu (λms e=>U ms e),aA,aJ]
 ·exact I.elim
theorem Ziu{σ : Pl} {g : GH} {v : SV Y} {u : Value} {b : Bool} (hd : Den E σ g v u) : Den E σ g (.tup [v, .bool ac b]) (.tuple #[u, .bool b]) :=
  .tup (λq => if q = 0 then u else .bool b) rfl (λq hq => by match q, hq with | 0, _ => rfl | 1, _ => rfl) (λq s hs => by
    match q, hs with
    | 0, hs => obtain rfl : v = s := by simpa using hs
               exact hd
    | 1, hs => obtain rfl : SV.bool ac b = s := by simpa using hs
               exact .bool _ _)
theorem Z39(hE:EngOk E) {t t':TypeId} {x:Operand} {ok:Bool} (ho:o.op= .typeAssert x t' t ok) (I:Zma E (ev T x) t ok k):∃r,k r/\OpTri E o T h i r:=by
 have mx:x∈o.op.operands.toList:=by simp[ho,aQ]
 unfold Zma at I;split at I
 ·rename_i ti a1
  have hu:=(hE.ty _ _ a1).1;have hz:∀w,(zeroValue t).run E.P w= .ok ti.zero w:=λw=>V3 hE a1 w;split at I
  ·exact I.elim
  ·rename_i R
   have R:∀ms,ti.d≠ .interface ms:=λms e=>R ms e;have run:∀(w:World) (ρ:Operand->Value) (u:Value),(eg (ρ x) t' t ok).run E.P w= .ok u w->(execOp ρ o).run E.P w= .ok (.value u) w:=by
    intro w ρ u hr;unfold execOp;simp only[ho,aF,hr,aA,aJ]
   split at I
   ·rename_i hX
    refine W5 mx (λσ g w ρ hd=>⟨.tuple #[ti.zero,.bool ab],?_,Ziu (X0 E _ _ _)⟩) I;rw[hX] at hd;generalize hv:ρ x=v at hd;cases hd;exact run w ρ _ (by rw[hv];exact Zku hu R w (hz w))
   ·rename_i a2 _ t2 v hX
    have dn:∀(σ:Pl) (g:GH) (ρ:Operand->Value),Den E σ g (ev T x) (ρ x)->∃u,ρ x= .iface t2 u/\Den E σ g v u:=by
     intro σ g ρ hd;rw[hX] at hd;generalize hv:ρ x=v at hd;cases hd;exact⟨_,rfl,‹_›⟩
    split at I
    ·rename_i J
     obtain rfl:=ax J;refine W5 mx (λσ g w ρ hd=> ?_) I;obtain⟨u,U,a0⟩:=dn σ g ρ hd;exact⟨_,run w ρ _ (by rw[U];exact Zbf hu R w),Ziu a0⟩
    ·rename_i J
     obtain rfl:=ax J;refine W5 mx (λσ g w ρ hd=> ?_) I;obtain⟨u,U,a0⟩:=dn σ g ρ hd;exact⟨_,run w ρ _ (by rw[U];exact Zbf hu R w),a0⟩
    ·rename_i J
     have J:t2≠t:=λe=>by rw[e] at J;simp at J
     refine W5 mx (λσ g w ρ hd=> ?_) I;obtain⟨u,U,a0⟩:=dn σ g ρ hd;exact⟨_,run w ρ _ (by rw[U];exact Zgw hu R J w (hz w)),Ziu (X0 E _ _ _)⟩
    ·exact I.elim
   ·exact I.elim
 ·exact I.elim
theorem Ztm(s:ByteArray) (c:Int):firstIdx s c.toNat.toUInt8=idxL (c.toNat%256) 0 (toL s):=by
 have U:c.toNat.toUInt8.toNat=c.toNat%256:=by simp
 have key:∀(n j:Nat),j+n=s.size->(match(iE j n).find? λi=>s[i]! ==c.toNat.toUInt8 with|some i=>(i:Int)|none=> -1)=idxL (c.toNat%256) j ((toL s).drop j):=by
  intro n
  induction n with
  |zero=>
   intro j hj;rw[List.drop_of_length_le (by rw[Zdw];omega)];rfl
  |succ n ih=>
   intro j hj;have I:j<s.size:=by omega
   have a1:j<(toL s).length:=by rw[Zdw];exact I
   rw[cy a1,idxL,gE,List.find?_cons];have a0:s[j]!.toNat=(toL s)[j]:=by
    have J:s[j]! =s[j]:=getElem!_pos s j I;rw[J];simp only[toL,List.getElem_map,Array.getElem_toList];rfl
   have R:(s[j]! ==c.toNat.toUInt8)=aO (toL s)[j] (c.toNat%256):=by
    rw[<-a0,<-U];by_cases e:s[j]! =c.toNat.toUInt8
    ·rw[e];simp
    ·rw[fV.2 e,eq_comm,<-bg,fp]
     exactλq=>e (UInt8.toNat_inj.1 q)
   rw[R];cases aO (toL s)[j] (c.toNat%256)
   ·exact ih (j+1) (by omega)
   ·rfl
 have:=key s.size 0 (by omega);rw[dW,<-gU] at this;exact this
theorem Yhh(hE:EngOk E) {c:Call} {f:Operand} (hc:c.callee= .value f) (ho:o.op= .call c) {a0:FuncId} {a b:List (SV Y)} (hf:ev T f= .fn (.func a0) a b) {x:ExtK} (hx:E.ext a0=ae x)
 (U:sext x (a++c.args.toList.map (ev T)++b) k):∃r,k r/\OpTri E o T h i r:=by
 obtain⟨fn,a9,b0,a3,hn,he⟩:=hE.ext a0 x hx
 have mf:f∈o.op.operands.toList:=by simp[ho,aQ,dz,hc]
 have args:∀(σ:Pl) (g:GH) (ρ:Operand->Value),(∀x∈o.op.operands.toList,Den E σ g (ev T x) (ρ x))->∃l:List Value,DenL E σ g (a++c.args.toList.map (ev T)++b) l/\
  ∀(w:World) (v:Value),(Z77 x l.toArray).run E.P w= .ok v w->(execOp ρ o).run E.P w= .ok (.value v) w:=by
  intro σ g ρ a2
  have a1:=a2 f mf
  rw[hf] at a1
  generalize hv:ρ f=vf at a1
  cases a1
  rename_i va vb ca cb b1 a5 a7 b2 a6 a8
  refine⟨va.toList++(c.args.map ρ).toList++vb.toList,?_,λw v hr=> ?_⟩
  ·obtain⟨e1,e2,e3⟩:=Zij (E:=E) (σ:=σ) (g:=g) (T:=T) (ρ:=ρ) (xs:=c.args) (λx hm=>a2 x (by simp[ho,aQ,dz,hc] at hm⊢;exact .inr hm))
   have l1:DenL E σ g a va.toList:=⟨by simp[b1],λj sv v J R=>by
    have:=a5 j (ai.1 J).1
    rw[show va.toList[j]? =va[j]? by simp,this] at R
    cases R;exact a7 j sv J⟩
   have l2:DenL E σ g (c.args.toList.map (ev T)) (c.args.map ρ).toList:=⟨by simp,λj sv v J R=>by
    have:=e2 j (ai.1 J).1
    rw[show(c.args.map ρ).toList[j]? =(c.args.map ρ)[j]? by simp,this] at R
    cases R;exact e3 j sv J⟩
   have l3:DenL E σ g b vb.toList:=⟨by simp[b2],λj sv v J R=>by
    have:=a6 j (ai.1 J).1
    rw[show vb.toList[j]? =vb[j]? by simp,this] at R
    cases R;exact a8 j sv J⟩
   exact(l1.append0 l2).append0 l3
  ·unfold execOp
   have e:(va++c.args.map ρ++vb)=(va.toList++(c.args.map ρ).toList++vb.toList).toArray:=by simp
   simp only[ho,resolve,hc,aF,aJ,aA,Deferred.ofValue,hv,invoke]
   rw[e,run_callFunc_extern a9 b0 a3 hn he,hr]
   rfl
 have one:∀{v:SV Y},(∀(σ:Pl) (g:GH) (w:World) (l:List Value),DenL E σ g (a++c.args.toList.map (ev T)++b) l->∃u,(Z77 x l.toArray).run E.P w= .ok u w/\Den E σ g v u)->k (quiet [] v)->∃r,k r/\OpTri E o T h i r:=by
  intro v H U
  refine⟨_,U,Zr λB σ g w ρ hh b3 hI hx=> ?_⟩
  obtain⟨l,J,R⟩:=args σ g ρ hx
  obtain⟨u,h3,h4⟩:=H σ g w l J
  exact⟨u,R w u h3,h4⟩
 unfold sext at U
 split at U
 ·rename_i l a' m b' n c' hl
  obtain⟨⟨q1,q2,q3,q4⟩,U⟩:=Zu U
  refine one (λσ g w vs hd=> ?_) U
  rw[hl] at hd
  obtain⟨d1,d2⟩:=hd
  match vs,d1,d2 with
  | [x,y,z],_,d2=>
   have e1:=d2 0 _ x rfl rfl
   have e2:=d2 1 _ y rfl rfl
   have e3:=d2 2 _ z rfl rfl
   cases e1;cases e2;cases e3
   refine⟨_,run_add64 a' b' c' q1 q2 q3 q4 w,?_⟩
   refine .tup (λj=> #[.int .u64 ((a'+b'+c')%18446744073709551616),.int .u64 ((a'+b'+c')/18446744073709551616)].getD j undef) rfl (λj I=> ?_) (λj sv I=> ?_)
   ·match j,I with
    |0,_=>rfl
    |1,_=>rfl
   ·match j,I with
    |0,I=>simp at I;subst I;exact .int _ _ _
    |1,I=>simp at I;subst I;exact .int _ _ _
    |j+2,I=>simp at I
 ·rename_i l s m c' hl
  refine one (λσ g w vs hd=> ?_) U
  rw[hl] at hd
  obtain⟨d1,d2⟩:=hd
  match vs,d1,d2 with
  | [x,y],_,d2=>
   have e1:=d2 0 _ x rfl rfl
   have e2:=d2 1 _ y rfl rfl
   cases e1;cases e2
   rename_i bs a4 _
   subst a4
   rw[<-Ztm]
   exact⟨_,run_indexByte_string bs c' w,.int _ _ _⟩
 ·rename_i v hl
  refine one (λσ g w vs hd=> ?_) U
  rw[hl] at hd
  obtain⟨d1,d2⟩:=hd
  match vs,d1,d2 with
  | [x],_,d2=>exact⟨x,rfl,d2 0 _ x rfl rfl⟩
 ·exact U.elim
end
end
section
open Go.RowKit
section
variable {Y:Thy} {E:Eng Y} {k k':Res Y->Prop}
abbrev QM(k k':Res Y->Prop):Prop:=∀rd v,k (quiet rd v)->k' (quiet rd v)
theorem W3{a b:Nat} {K K':Prop} (h:K->K'):Zcv a b K->Zcv a b K':=by unfold Zcv;split;exact h;exact id
theorem Z42{α:Type} {lit:Bool} {l:List α} {j:Nat} {f f':α->Prop} (h:∀x,f x->f' x):getK lit l j f->getK lit l j f':=by
 unfold getK;split
 ·split
  ·exact h _
  ·exact id
 ·exactλ⟨I,J⟩=>⟨I,λx R=>h x (J x R)⟩
theorem Zhd{α:Type} {lit:Bool} {l:List α} {n:Int} {f f':α->Prop} (h:∀x,f x->f' x):ixK lit l n f->ixK lit l n f':=by
 unfold ixK;split
 ·split
  ·exact h _
  ·exact id
 ·exactλ⟨I,J,R⟩=>⟨I,J,λx U=>h x (R x U)⟩
theorem Vy{n:Int} {f I:Nat->Prop} (h:∀j,f j->I j):∀{c j:Nat},Zl7 n f c j->Zl7 n I c j
 |0,_=>id
 |c+1,j=>λ⟨J,R⟩=>⟨λe=>h _ (J e),λe=>Vy h (R e)⟩
theorem Vd{l:Bool} {p:Prop} [Decidable p] {K K':Prop} (h:K->K'):need l p K->need l p K':=by
 unfold need;split
 ·split
  ·exact h
  ·exact id
 ·exactλ⟨I,J⟩=>⟨I,h J⟩
theorem Zf2{l b:Bool} {K K':Bool->Prop} (h:∀v,K v->K' v):split l b K->split l b K':=by
 unfold split;split
 ·exact h _
 ·exactλ⟨I,J⟩=>⟨λe=>h _ (I e),λe=>h _ (J e)⟩
theorem Xt(I:QM k k') {f v:Bool}:Zcw f v k->Zcw f v k':=Zf2 λv=>I _ _
theorem Zes(I:QM k k') {f:Bool} {kd:IntKind} {n:Int}:intR f kd n k->intR f kd n k':=I _ _
theorem Zzw(I:QM k k') {op:BinOp} {f m:Bool} {kd:IntKind} {a b:Int}:Z15 op f m kd a b k->Z15 op f m kd a b k':=by
 cases op<;>simp only[Z15]<;>first|exact Zes I|exact Xt I|exact Vd (Zes I)
theorem Zzx(I:QM k k') {op:BinOp} {l m:Bool} {kd J:IntKind} {a b:Int}:Z16 op l m kd J a b k->Z16 op l m kd J a b k':=by
 unfold Z16;split
 ·exact Vd (Zes I)
 ·exact Vd (Zes I)
 ·split
  ·exact id
  ·exact Zzw I
theorem Zzy(I:QM k k') {op:BinOp} {l m:Bool} {a b:List Nat}:Z18 op l m a b k->Z18 op l m a b k':=by
 unfold Z18;split
 ·exact Vd (I _ _)
 ·exact Xt I
 ·exact Xt I
 ·exact Xt I
 ·exact Xt I
 ·exact Xt I
 ·exact Xt I
 ·exact id
theorem Zzz(I:QM k k') {op:BinOp} {t:TypeId} {l m a b:Bool}:Z17 E op t l m a b k->Z17 E op t l m a b k':=by
 unfold Z17;split
 ·split
  ·exact Xt I
  ·exact Xt I
  ·exact id
 ·exact id
theorem Z43(I:QM k k') {op:BinOp} {t:TypeId} {x y:SV Y}:sbin E op t x y k->sbin E op t x y k':=by
 unfold sbin;split
 ·exact Zzx I
 ·exact Zzz I
 ·exact Zzy I
 ·exact id
theorem Zll(I:QM k k') {op:BinOp} {t:TypeId} {x y:SV Y}:Zr9 E op t x y k->Zr9 E op t x y k':=by
 unfold Zr9;split
 ·split
  ·split
   ·exact Ziq λv=>I _ _
   ·exact Ziq λv=>I _ _
   ·exact id
  ·exact id
 ·exact Z43 I
theorem Zlm(I:QM k k') {t:TypeId} {x:SV Y} {h:Hp Y}:Zr3 E t x h k->Zr3 E t x h k':=by
 unfold Zr3;split
 ·exact id
 ·split
  ·split
   ·split
    ·exact I _ _
    ·exact id
   ·exact id
  ·split
   ·refine W3 (Z42 λx=> ?_)
    split
    ·exact I _ _
    ·exact id
   ·exact id
  ·split
   ·exact I _ _
   ·exact id
  ·split
   ·split
    ·exact I _ _
    ·exact id
   ·exact id
  ·exact id
theorem Zi7(I:QM k k') {t:TypeId} {x:SV Y} {f:Nat}:Vw E t x f k->Vw E t x f k':=by
 unfold Vw;split
 ·split
  ·split
   ·split
    ·exact id
    ·split
     ·exact I _ _
     ·exact I _ _
     ·exact I _ _
     ·exact id
   ·exact id
  ·exact id
 ·exact id
theorem Ztt(I:QM k k') {t:TypeId} {x:SV Y} {f:Nat}:Zk2 E t x f k->Zk2 E t x f k':=by
 unfold Zk2;split
 ·split
  ·split
   ·split
    ·exact I _ _
    ·exact id
   ·exact id
  ·exact id
 ·exact id
theorem Zz0{l:Bool} {n:Int} {len:Nat} {f f':Nat->Prop} (h:∀j,f j->f' j):Zyq l n len f->Zyq l n len f':=by
 unfold Zyq;split
 ·exact Vd (h _)
 ·exactλ⟨I,J,R⟩=>⟨I,J,Vy h R⟩
theorem Xl(I:QM k k') {t:TypeId} {x ix:SV Y} {h:Hp Y}:Xp E t x ix h k->Xp E t x ix h k':=by
 unfold Xp;split
 ·split
  ·split
   ·exact I _ _
   ·exact id
  ·split
   ·exact I _ _
   ·exact id
  ·split
   ·exact I _ _
   ·exact id
  ·exactλ⟨J,R,U⟩=>⟨J,R,Vy (λj=>I _ _) U⟩
  ·exactλ⟨J,R,U⟩=>⟨J,R,Vy (λj=>I _ _) U⟩
  ·exactλ⟨J,R,U⟩=>⟨J,R,Vy (λj=>I _ _) U⟩
  ·split
   ·exact I _ _
   ·exact id
  ·exactλ⟨J,R,U⟩=>⟨J,R,Vy (λj=>I _ _) U⟩
  ·exact id
 ·split
  ·split
   ·exact W3 (Zhd λx=>I _ _)
   ·split
    ·exact Zz0 λj=>W3 (I _ _)
    ·exact Vd (W3 (W3 (I _ _)))
    ·exact id
   ·exact id
  ·exact id
 ·exact id
theorem Zi8(I:QM k k') {t:TypeId} {x J:SV Y}:Zhz E t x J k->Zhz E t x J k':=by
 unfold Zhz;split
 ·split
  ·split
   ·exact I _ _
   ·exact id
  ·split
   ·exactλ⟨R,U,h3⟩=>⟨R,U,λy hy=>I _ _ (h3 y hy)⟩
   ·exact id
  ·exact id
 ·exact Zhd λy=>I _ _
 ·exact id
theorem Zqd(I:QM k k') {t:TypeId} {x J:SV Y}:Zfp E t x J k->Zfp E t x J k':=by
 unfold Zfp;split
 ·split
  ·split
   ·unfold Zr5
    split
    ·split
     ·exact Zhd λy=>I _ _
     ·exact id
    ·exact id
   ·exact Zi8 I
  ·exact id
 ·exact Zi8 I
theorem Z44(I:QM k k') {t:TypeId} {x:SV Y} {h:Hp Y}:slen E t x h k->slen E t x h k':=by
 unfold slen;split<;>first|exact I _ _|exact id
theorem Zgk(I:QM k k') {mx:Bool} {x:SV Y} {r:List (SV Y)}:Zfq mx x r k->Zfq mx x r k':=by
 unfold Zfq;split
 ·exact I _ _
 ·exact id
theorem Yax(I:QM k k') {op:UnOp} {x:SV Y}:sun op x k->sun op x k':=by
 unfold sun;split<;>first|exact I _ _|exact id
theorem Zng(I:QM k k') {t:TypeId} {x:SV Y}:Zb7 E t x k->Zb7 E t x k':=by
 unfold Zb7;split<;>first|exact I _ _|exact id
theorem Zgl(I:QM k k') {x:SV Y} {h:Hp Y}:Zdb x h k->Zdb x h k':=by
 unfold Zdb;split
 ·exact I _ _
 ·split
  ·split
   ·exact I _ _
   ·exact id
  ·exact id
 ·exact id
theorem Ztu(I:QM k k') {t:TypeId} {x:SV Y} {h:Hp Y}:Zk3 E t x h k->Zk3 E t x h k':=by
 unfold Zk3;split
 ·split
  ·unfold Z13
   split
   ·split
    ·split
     ·exact Vd (I _ _)
     ·exact id
    ·exact id
   ·exact id
  ·exact Zlm I
 ·exact Zlm I
theorem Zgy(I:QM k k') {t:TypeId} {x J:SV Y} {h:Hp Y}:Wx E t x J h k->Wx E t x J h k':=by
 unfold Wx;split
 ·split
  ·unfold Zc8
   split
   ·split
    ·exact Vd (W3 (I _ _))
    ·exact id
   ·exact id
  ·exact Xl I
 ·split
  ·unfold Zc9
   split
   ·split
    ·split
     ·exact W3 (Zhd λx=>I _ _)
     ·exact id
    ·exact Xl I
   ·exact Xl I
  ·exact Xl I
 ·exact Xl I
theorem Z45(I:QM k k') {call:Nat->List (SV Y)->Hp Y->Nat->(Res Y->Prop)->Prop} {op:Op} {T:Fr Y} {h:Hp Y} {i:Nat} (R:Zh6 op=ac):step E call op T h i k->step E call op T h i k':=by
 cases op<;>simp only[Zh6,aN] at R<;>simp only[step]
 case move=>exact I _ _
 case pick=>
  unfold Zd8;split
  ·exact Zf2 λv=>by
    cases v
    ·exact I _ _
    ·exact I _ _
  ·exact id
 case load=>exact Ztu I
 case binOp=>
  unfold Yfh;split
  ·unfold Z8u
   split
   ·split
    ·split
     ·exact I _ _
     ·exact I _ _
     ·exact id
    ·exact id
   ·exact id
  ·split
   ·unfold Z8x
    split
    ·exactλh=>⟨h.1,I _ _ h.2⟩
    ·exact id
   ·exact Zll I
  ·exact Zll I
 case unOp=>exact Yax I
 case convert=>
  unfold Zd9;split
  ·split
   ·unfold Zvi
    exact id
   ·split
    ·exact Zgl I
    ·exact id
   ·split
    ·exact Zgl I
    ·exact id
   ·exact Zng I
  ·exact id
 case fieldAddr=>exact Zi7 I
 case field=>exact Ztt I
 case indexAddr=>exact Zgy I
 case index=>exact Zqd I
 case extract=>
  unfold Zmb;split
  ·split
   ·exact I _ _
   ·exact id
  ·exact id
 case call c=>
  unfold Za5;unfold Ydr at R;split at R
  ·rename_i J
   simp only[J];unfold Zmc;split
   ·exact Z44 I
   ·exact id
  ·rename_i J
   simp only[J];unfold stMm;split
   ·exact Zgk I
   ·exact id
  ·rename_i J
   simp only[J];unfold stMm;split
   ·exact Zgk I
   ·exact id
  ·cases R
theorem Zz1{N:Nat} {d:Option Nat} {rd:List Nat} {v:SV Y} {T:Fr Y} {h:Hp Y} {i:Nat} {ms:List Nat} {k:Fr Y->Hp Y->Nat->List Nat->Prop}:
 Zo4 N d (quiet rd v) T h i ms k↔(match d with|none=>k T h i ms|some d=>aU d N=ac/\k (upd T d v) h i ms):=by
 cases d with
 |none=>exact Iff.rfl
 |some d=>
  unfold Zo4
  simp only[]
  cases I:aU d N
  ·simp
  ·simp only[true_and]
   rw[show(quiet rd v).v=v from rfl,Zej]
   exact Iff.rfl
theorem W4:∀{ops:List Oper} {o:Oper} {d:Nat},o∈ops->o.dst=ae d->d∈Yd ops
 | [],o,d,h,_=>by cases h
 |x::r,o,d,h,e=>by
  unfold Yd
  rcases aH.1 h with rfl|h
  ·rw[e];simp
  ·have:=W4 h e
   split
   ·exact aI _ this
   ·exact this
theorem Z46{all:List Oper} {j d:Nat} (h:Zh3 all j=ae d):d∈Yd all:=by
 unfold Zh3 at h;split at h
 ·rename_i o I
  exact W4 (aL I) h
 ·cases h
def AgreeOff(D:List Nat) (T I:Fr Y):Prop:=∀j,j∉D->I j=T j
theorem AgreeOff.upd{D:List Nat} {T:Fr Y} {d:Nat} {v:SV Y} (h:d∈D):AgreeOff D T (upd T d v):=by
 intro j I;rw[Ze,jJ (by rintro rfl;exact I h)]
theorem AgreeOff.trans{D:List Nat} {T I T2:Fr Y} (h:AgreeOff D T I) (k:AgreeOff D I T2):AgreeOff D T T2:=λj J=>(k j J).trans (h j J)
def Zc4(o:Oper):Bool:=Zh6 o.op||(match o.op with| .assign _=>ac|_=>ab)
theorem Zz2(R:QM k k') {call:Nat->List (SV Y)->Hp Y->Nat->(Res Y->Prop)->Prop} {o:Oper} {T:Fr Y} {h:Hp Y} {i:Nat} (J:Zc4 o=ac):step E call o.op T h i k->step E call o.op T h i k':=by
 unfold Zc4 at J;rw[bm] at J;rcases J with I|I
 ·exact Z45 R I
 ·split at I
  ·rename_i x e
   rw[e];exact R _ _
  ·cases I
theorem Zqe{N:Nat} {call:Nat->List (SV Y)->Hp Y->Nat->(Res Y->Prop)->Prop} {all:List Oper} {T0:Fr Y} {h:Hp Y} {i:Nat} {ms:List Nat} {k k':Kont Y} (a3:∀U,AgreeOff (Yd all) T0 U->k .normal U h i ms->k' .normal U h i ms) (a4:∀ch U,k (.panic ch) U h i ms->k' (.panic ch) U h i ms):
 ∀{ops:List Oper} {T:Fr Y},(∀o∈ops,o∈all/\Zc4 o=ac)->AgreeOff (Yd all) T0 T->rgn E N call all ops T h i ms k->rgn E N call all ops T h i ms k'
 | [],T,_,R,I=>a3 T R I
 |o::r,T,hq,R,I=>by
  have ho:=hq o (by simp)
  have ih:∀{J:Fr Y},AgreeOff (Yd all) T0 J->rgn E N call all r J h i ms k->rgn E N call all r J h i ms k':=λR I=>Zqe a3 a4 (λo ho=>hq o (aI _ ho)) R I
  have one:∀{J:Fr Y},AgreeOff (Yd all) T0 J->step E call o.op J h i (λa2=>Zmf N o.dst a2 J h i ms k λT h i ms=>rgn E N call all r T h i ms k)->
   step E call o.op J h i (λa2=>Zmf N o.dst a2 J h i ms k' λT2 h2 i2 a6=>rgn E N call all r T2 h2 i2 a6 k'):=by
   intro J R I
   refine Zz2 ?_ ho.2 I
   intro rd v I
   unfold Zmf at I⊢
   split
   ·rename_i p hp
    rw[show Za8 (quiet rd v).v=ae p from hp] at I
    exact a4 _ _ I
   rename_i hp
   rw[show Za8 (quiet rd v).v=au from hp] at I
   replace I:Zo4 N o.dst (quiet rd v) J h i ms (λT h i ms=>rgn E N call all r T h i ms k):=I
   rw[Zz1] at I⊢
   cases hd:o.dst with
   |none=>rw[hd] at I;exact ih R I
   |some d=>rw[hd] at I;exact⟨I.1,ih (R.trans (AgreeOff.upd (W4 ho.1 hd))) I.2⟩
  simp only[rgn] at I⊢
  split
  ·rename_i e
   rw[e] at I
   exact one R I
  ·rename_i j b e
   rw[e] at I
   simp only[] at I
   split
   ·rename_i d hd
    rw[hd] at I
    simp only[] at I
    have hD:=Z46 hd
    have a1:∀v,AgreeOff (Yd all) T0 (upd T d v):=λv=>R.trans (AgreeOff.upd hD)
    split
    ·rename_i l x hx
     rw[hx] at I
     simp only[] at I
     revert I
     refine Zf2 λv=> ?_
     have skip:∀v,(match o.dst with|none=>rgn E N call all r (upd T d (.bool ac v)) h i ms k|some d'=>rgn E N call all r (upd (upd T d (.bool ac v)) d' (.val undef)) h i ms k)->
      (match o.dst with|none=>rgn E N call all r (upd T d (.bool ac v)) h i ms k'|some d'=>rgn E N call all r (upd (upd T d (.bool ac v)) d' (.val undef)) h i ms k'):=by
      intro v
      cases a0:o.dst with
      |none=>exact ih (a1 _)
      |some d'=>exact ih ((a1 _).trans (AgreeOff.upd (W4 ho.1 a0)))
     cases v<;>cases b<;>first|exact one (a1 _)|exact skip _
    ·rename_i u hx
     rw[hx] at I
     simp only[] at I
     split
     ·rename_i e3
      rw[e3] at I
      exact I
     ·rename_i e3
      rw[e3] at I
      simp only[] at I
      cases a0:o.dst with
      |none=>rw[a0] at I;exact ih R I
      |some d'=>rw[a0] at I;exact ih (R.trans (AgreeOff.upd (W4 ho.1 a0))) I
    ·rename_i hx a5
     split at I
     ·rename_i l x e2
      exact ka e2 (hx l x)
     ·rename_i u e2
      exact ka e2 (a5 u)
     ·exact I
   ·rename_i hd
    rw[hd] at I
    exact I
theorem Zdr{d:Nat}:∀{ops:List Oper} {l:List Nat},Z80 d ops=ae l->∀o∈ops,Zc4 o=ac
 | [],l,_,o,I=>by cases I
 |x::r,l,h,o,I=>by
  simp only[Z80] at h
  split at h
  ·rename_i U J e3 R
   rcases aH.1 I with rfl|I
   ·simp[Zc4,J]
   ·exact Zdr R o I
  ·rename_i U J e3 R
   rcases aH.1 I with rfl|I
   ·simp[Zc4,Zh6,J]
   ·exact Zdr R o I
  ·cases h
theorem Zkw{x:Oper} {r:List Oper} {p:Nat×List Nat} (h:Zmh x r=ae p):∀o∈r,Zc4 o=true:=by
 unfold Zmh at h;split at h
 ·split at h
  ·rename_i e;exact Zdr e
  ·cases h
 ·cases h
theorem Zi9:∀{ops:List Oper} {g:Bool} {p:Nat×List Nat},Z2f ops g=ae p->∀o∈ops,Zc4 o=ac
 | [],g,p,h,o,I=>by cases I
 |x::r,g,p,h,o,I=>by
  unfold Z2f at h
  split at h
  ·rename_i R
   have J:Zc4 x=true:=by simp[Zc4,R]
   rcases aH.1 I with rfl|I
   ·exact J
   ·split at h
    ·rename_i e
     exact Zkw e o I
    ·exact Zi9 h o I
  ·cases h
theorem Zaf{T:Fr Y} {j:Nat}:∀{D:List Nat},Vh D T j=if j∈D then .unk else T j
 | []=>by simp[Vh]
 |d::r=>by
  unfold Vh
  rw[Ze,Zaf]
  by_cases h:j=d
  ·simp[h]
  ·simp[h]
theorem Zja{T:Fr Y} {b:Bool} {j:Nat}:∀{D:List Nat},Zo6 b D T j=if j∈D then .bool ac b else T j
 | []=>by simp[Zo6]
 |d::r=>by
  unfold Zo6
  rw[Ze,Zja]
  by_cases h:j=d
  ·simp[h]
  ·simp[h]
theorem Zln{T:Fr Y} {b:Bool}:∀{l:List Nat},Z2g T b l->∀d∈l,∃f,T d= .bool f b
 | [],_,d,hd=>by cases hd
 |x::r,h,d,hd=>by
  obtain⟨I,J⟩:=h
  rcases aH.1 hd with rfl|hd
  ·split at I
   ·rename_i f R e;exact⟨f,by rw[e,I]⟩
   ·exact I.elim
  ·exact Zln J d hd
theorem Yhx{N:Nat} {call:Nat->List (SV Y)->Hp Y->Nat->(Res Y->Prop)->Prop} {ops:List Oper} {T:Fr Y} {h:Hp Y} {i:Nat} {ms:List Nat} {d:Nat} {l:List Nat} {Q:Bool->Prop}
 (hj:Z2f ops ab=ae (d,l)) (hr:rgn E N call ops ops T h i ms (λe T' _ _ _=>match e with| .normal=>Z2h d l Q T'|_=>False)):
 rgn E N call ops ops T h i ms λe T' h' i' a0=>e= .normal/\∃b,Q b/\h'=h/\i'=i/\a0=ms/\(∀σ g a,FrOk E σ g T' a->FrOk E σ g (Zo6 b (d::l) (Vh (Yd ops) T)) a):=by
 refine Zqe (T0:=T) (k:=λe T' _ _ _=>match e with| .normal=>Z2h d l Q T'|_=>False) (λT' hA I=> ?_) (λch T' I=>I.elim) (λo U=>⟨U,Zi9 hj o U⟩) (λ_ _=>rfl) hr
 replace I:Z2h d l Q T':=I
 have key:∃b,Q b/\∀e∈d::l,∃f,T' e= .bool f b:=by
  unfold Z2h at I
  split at I
  ·split at I
   ·rename_i f b e
    exact⟨b,I,λx J=>by rw[List.mem_singleton] at J;subst J;exact⟨f,e⟩⟩
   ·exact I.elim
  ·split at I
   ·rename_i f b e
    refine⟨b,I.2,λx J=> ?_⟩
    rcases aH.1 J with rfl|J
    ·exact⟨f,e⟩
    ·exact Zln I.1 x J
   ·exact I.elim
 obtain⟨b,hQ,hb⟩:=key
 refine⟨rfl,b,hQ,rfl,rfl,rfl,λσ g a R t=> ?_⟩
 rw[Zja]
 split
 ·rename_i ht
  obtain⟨f,e⟩:=hb t ht
  have:=R t
  rw[e] at this
  generalize a.eval (.tmp t)=u at this
  cases this
  exact .bool _ _
 ·rw[Zaf]
  split
  ·exact .unk _
  ·rename_i hn
   rw[<-hA t hn]
   exact R t
end
end
section
open Go.RowKit
def Ztn(X:Act->World->Prop):Exit->Act->World->Prop
 | .normal,a,w=>X a w
 |_,_,_=>False
theorem Zix{X:Act->World->Prop}:¬LetsOut (Ztn X):=λ⟨_,_,h⟩=>h
theorem Zp3{P:Program} {o:Oper} {a:Act} {w:World} {K R:Act->World->Prop} {X:Act->World->Prop} {Q:Exit->Act->World->Prop} (J:∀a w,K a w->R a w) (h:o.wp P a w K (Ztn X)):o.wp P a w R Q:=by
 unfold Oper.wp at h⊢;generalize (execOp a.eval o).run P w=r at h;unfold Oper.upon at h⊢;split at h
 ·exact J _ _ h
 ·exact J _ _ h
 ·exact J _ _ h
 ·refine Calls.mono h λe U I=> ?_
  cases e with
  |returned v=>exact J _ _ I
  |panicked c=>exact I.elim
  |outgrown=>exact(Zix I).elim
 ·exact Rows.mono h λv U I=>J _ _ I
 ·exact h.elim
 ·exact h.elim
theorem Zac{P:Program} {ops:Array Oper} {X:Act->World->Prop} {Q:Exit->Act->World->Prop} {r:List Oper}:∀{l:List Oper} {a:Act} {w:World},wpList P ops (Ztn X) l a w->(∀a w,X a w->wpList P ops Q r a w)->wpList P ops Q (l++r) a w
 | [],a,w,h,I=>I a w h
 |o::l,a,w,h,I=>by
  simp only[wpList,List.cons_append] at h⊢
  split at h
  ·rename_i J
   rw[jM J]
   rcases h with h|h
   ·exact .inl (Zp3 (λa w h=>Zac h I) h)
   ·exact(Zix h.2).elim
  ·rename_i J
   rw[jJ J]
   exact Zac h I
theorem Ut{P:Program} {ops:Array Oper} {X:Act->World->Prop} {Q:Exit->Act->List Frame->World->Prop} {cs:List Frame} (U:∀a w,X a w->Q .normal a cs w):∀{l:List Oper} {k:Nat} {a:Act} {w:World},(∀j,l[j]? =ops[k+j]?)->wpList P ops (Ztn X) l a w->wpOpsS P ops Q (iE k l.length) a cs w
 | [],k,a,w,_,h=>U a w h
 |o::l,k,a,w,hj,h=>by
  have h0:ops[k]? =ae o:=by simpa using(hj 0).symm
  have a0:∀j,l[j]? =ops[k+1+j]? :=λj=>by have:=hj (j+1);simpa[dH,kZ 1 j] using this
  simp only[List.length_cons,gE,wpOpsS,h0]
  simp only[wpList] at h
  split at h
  ·rename_i R
   rw[jM R]
   rcases h with h|h
   ·have I:o.wp P a w (λJ w'=>wpOpsS P ops Q (iE (k+1) l.length) J cs w') (λe J w'=>Q e J cs w'):=Zp3 (λa w h=>Ut U a0 h) h
    unfold Oper.wp at I
    split
    ·rename_i hr
     rw[hr] at I
     exact I.elim
    ·exact I
   ·exact(Zix h.2).elim
  ·rename_i R
   rw[jJ R]
   exact Ut U a0 h
theorem Zlh:∀{ops l:List Oper} {o:Oper},Zh5 ops=ae (l,o)->ops=l++ [o]/\(∃c,o.op= .defer c)/\o.guard=au/\o.dst=au
 | [],l,o,h=>by cases h
 |x::r,l,o,h=>by
  unfold Zh5 at h
  split at h
  ·split at h
   ·cases h;rename_i I J R;exact⟨rfl,⟨_,I⟩,J,R⟩
   ·cases h
  ·split at h
   ·rename_i l' d U
    cases h
    obtain⟨I,J⟩:=Zlh U
    exact⟨by rw[I];rfl,J⟩
   ·cases h
theorem Yam{o:Oper} (h:Z8z o=ac):(∃ts,o.op= .call ⟨.builtin .recover,#[],ts⟩)/\o.guard=none:=by
 unfold Z8z at h;split at h
 ·rename_i I J;exact⟨⟨_,I⟩,J⟩
 ·cases h
theorem Zdp{o:Oper} (h:o.guard=au) (y:Nat->Option Bool):Region.wanted o y=true:=by
 unfold Region.wanted;rw[h]
end
section
open Go.RowKit
section
variable {Y:Thy} {E:Eng Y} {F:Fns Y}
def CodeTri(E:Eng Y) (N:Nat) (c:Code) (T:Fr Y) (h:Hp Y) (i:Nat) (e:Exit) (U:Fr Y) (h':Hp Y) (J:Nat) (a0:List Nat):Prop:=
 ∀(B:Nat) (σ:Pl) (g:GH) (w:World) (a:Act) (Q:Exit->Act->World->Prop),Inv E B σ h g w->B<=w.heap.size->(∀b,i<=b->b<J->σ b=au)->FrOk E σ g T a->a.tmps.size=N->
  (∀I R,Aft E B N i J a0 σ g w a.defers U h' I R->Q e I R)->c.wp E.P Q a w
def VcOk(E:Eng Y) (N:Nat) (c:Code) (V:Fr Y->Hp Y->Nat->List Nat->Kont Y->Prop):Prop:=
 ∀T h i ms K,DomLt h i->V T h i ms K->∃e U J I R,K e U J I R/\i<=I/\Dom h i J I/\(∃m,R=m++ms/\Xg h i I m)/\CodeTri E N c T h i e U J I R
def LoopOk(E:Eng Y) (L:(Fr Y->Hp Y->Nat->List Nat->Kont Y->Prop)->Fr Y->Hp Y->Nat->List Nat->Kont Y->Prop):Prop:=
 ∀N b V,VcOk E N b V->VcOk E N (.loop b) (L V)
def FnGood(P:Program) (f:FuncId):Prop:=∃fn,P.funcs[f]? =ae fn/\fn.body.isSome=ac/\(fn.name== "runtime.NumGoroutine")=ab
structure FnsOk(E:Eng Y) (F:Fns Y):Prop where
 sumG:∀f S,F.sums f=ae S->FnGood E.P f
 fnG:∀f fn,F.fns f=ae fn->FnGood E.P f
 sum:∀f S,F.sums f=ae S->∀args h i k,DomLt h i->S args h i k->∃r,k r/\ROk h r/\CallTri2 E f args h i r
 fn:∀f fn,F.fns f=ae fn->E.P.funcs[f]? =ae fn
 loop:∀f j L,F.loops f j=ae L->LoopOk E L
theorem Aft.trans{B N i I J:Nat} {m1 m2:List Nat} {σ:Pl} {g:GH} {w:World} {df:List Deferred} {T1:Fr Y} {h1:Hp Y} {a1:Act} {w1:World} (h:Aft E B N i I m1 σ g w df T1 h1 a1 w1) (hi:i<=I) (a3:I<=J) (hB:B<=w.heap.size) (a0:∀b,i<=b->b<J->σ b=au) (hm:∃m,m2=m++m1):
 ∃σ1 R,Inv E B σ1 h1 R w1/\B<=w1.heap.size/\(∀b,I<=b->b<J->σ1 b=au)/\FrOk E σ1 R T1 a1/\
  ∀T2 h2 a2 w2,Aft E B N I J m2 σ1 R w1 a1.defers T2 h2 a2 w2->Aft E B N i J m2 σ g w df T2 h2 a2 w2:=by
 obtain⟨hd,hs,σ1,R,hS,hI,hF⟩:=h
 refine⟨σ1,R,hI,bS hB hS.size,?_,hF,?_⟩
 ·intro b b1 b2
  cases hq:σ1 b with
  |none=>rfl
  |some p=>
   rcases hS.snew b p hq with U|U
   ·rw[a0 b (by omega) b2] at U;cases U
   ·omega
 ·rintro T2 h2 a2 w2 ⟨k1,k2,σ2,g2,k3,k4,k5⟩
  obtain⟨m,rfl⟩:=hm
  refine⟨k1.trans hd,k2,σ2,g2,?_,k4,k5⟩
  have U:Stp (i+(I-i)) (J-I) (m++m1) σ1 R w1 σ2 g2 w2:=by rw[show i+(I-i)=I by omega];exact k3
  have:=hS.trans U
  rw[show I-i+(J-I)=J-i by omega] at this
  exact this.weaken (by intro b;simp only[cf];rintro((h|h)|h)<;>simp[h])
def Zrr(I:Array Value):ResultVar->Sem Value
 | .tmp t=>pure (I.getD t undef)
 | .cell b t=>do loadVar t (<-asAddr (I.getD b undef))
theorem Z1d(fn:Func) (I:Array Value):results fn I=(do
 let vs<-fn.results.mapM (Zrr I)
 pure (if h:vs.size=1 then vs[0] else .tuple vs)):=by
 unfold results
 congr 1
def Zrs(E:Eng Y) (T:Fr Y) (h:Hp Y) (rs:List ResultVar):Prop:=
 ∀a t n el sz I z b off th l fz,ResultVar.cell a t∈rs->E.ty t=ae ⟨.array n el,sz,I,z⟩->T a= .ptr b off->h b=ae (.rows th l fz)->l.length=n
theorem Zkd{T:Fr Y} {h:Hp Y}:∀{rs:List ResultVar} {p:Prop},resN E T h rs p->Zrs E T h rs/\p
 | [],p,I=>⟨λ_ _ _ _ _ _ _ _ _ _ _ _ hm=>by simp at hm,I⟩
 | .tmp _::rs,p,I=>by
  obtain⟨J,R⟩:=Zkd (rs:=rs) I
  refine⟨λa t n el sz U z b off th l fz hm=> ?_,R⟩
  rcases aH.1 hm with e|e
  ·cases e
  ·exact J a t n el sz U z b off th l fz e
 | .cell a t::rs,p,I=>by
  have key:Zrs E T h rs/\p/\∀n el sz U z b off th l fz,E.ty t=ae ⟨.array n el,sz,U,z⟩->T a= .ptr b off->h b=ae (.rows th l fz)->l.length=n:=by
   unfold resN at I
   split at I
   ·rename_i n el sz U z b off ht hT
    split at I
    ·rename_i th l fz hb
     obtain⟨J,R⟩:=Zkd (rs:=rs) I.2
     refine⟨J,R,λn' a2 a5 a1 z' b' a4 a6 l' a3 e1 e2 e3=> ?_⟩
     rw[ht] at e1;cases e1
     rw[hT] at e2;cases e2
     rw[hb] at e3;cases e3
     exact I.1
    ·rename_i a0
     obtain⟨J,R⟩:=Zkd (rs:=rs) I
     refine⟨J,R,λn' a2 a5 a1 z' b' a4 a6 l' a3 e1 e2 e3=> ?_⟩
     rw[hT] at e2;cases e2
     exact(a0 _ _ _ e3).elim
   ·rename_i a0
    obtain⟨J,R⟩:=Zkd (rs:=rs) I
    exact⟨J,R,λn' a2 a5 a1 z' b' a4 a6 l' a3 e1 e2 e3=>(a0 _ _ _ _ _ _ _ e1 e2).elim⟩
  obtain⟨J,R,h3⟩:=key
  refine⟨λa' t' n el sz U z b off th l fz hm=> ?_,R⟩
  rcases aH.1 hm with e|e
  ·cases e;exact h3 n el sz U z b off th l fz
  ·exact J a' t' n el sz U z b off th l fz e
theorem Zrt(hE:EngOk E) {σ:Pl} {g:GH} {B:Nat} {T:Fr Y} {h:Hp Y} {w:World} {a:Act} (hI:Inv E B σ h g w) (hF:FrOk E σ g T a) {rv:ResultVar} {v:SV Y} {rs:List ResultVar} (b1:Zrs E T h rs) (a9:rv∈rs) (I:Zmg E T h rv=ae v):
 ∃u,(Zrr a.tmps rv).run E.P w= .ok u w/\Den E σ g v u:=by
 cases rv with
 |tmp t=>
  obtain rfl:=bd I
  exact⟨a.tmps.getD t undef,by simp[Zrr,go_sem],hF t⟩
 |cell b t=>
  simp only[Zmg] at I
  split at I
  ·rename_i ti b' off ht hb
   split at I
   ·rename_i cs fz tg hh
    have J:=hF b
    rw[hb] at J
    generalize hv:a.eval (.tmp b)=v1 at J
    cases J
    rename_i r z a7
    have a6:a.tmps.getD b undef= .pointer (ae ⟨r,off,au⟩):=hv
    obtain⟨r',z',a0,a2⟩:=hI.blk _ _ hh
    rw[a7] at a0;cases a0
    obtain⟨u,a4,a5⟩:=Wq (by intro es e;cases e) a2
    have:=Vf I u a5
    have U:=Xe hE ht w r off u (λj R=>a4 _ (by
     cases hd:Zh ti.d with
     |true=>rw[hd] at this R;have:=this.1;show _<cs.length;simp at R;omega
     |false=>rw[hd] at this R;have:=this.1;show _<cs.length;simp at R;omega))
    have b0:(Zrr a.tmps (.cell b t)).run E.P w= .ok (match Zh ti.d with|true=> .agg ((dk ti.size).map λj=>u (off+j)).toArray|false=>u off) w:=by
     simp only[Zrr];rw[a6];simp only[asAddr,aF,aJ,aA,U]
     rfl
    refine⟨_,b0,?_⟩
    cases hd:Zh ti.d with
    |true=>rw[hd] at this;exact this.2
    |false=>rw[hd] at this;exact this.2
   ·rename_i th l fz hh
    unfold Z2e at I
    split at I
    ·rename_i n el sz a8 z
     split at I
     ·rename_i te b4
      split at I
      ·rename_i d0 b3 a1
       have a1:=ax a1
       have U:=b1 b t n el sz a8 z b' 0 th l fz a9 ht hb hh
       rw[Zde E th l d0 n 0 (by rw[U,bq])] at I
       cases I
       have J:=hF b
       rw[hb] at J
       generalize hv:a.eval (.tmp b)=v1 at J
       cases J
       rename_i r z' a7
       have a6:a.tmps.getD b undef= .pointer (ae ⟨r,0,au⟩):=hv
       obtain⟨r',b5,a0,a2⟩:=hI.blk _ _ hh
       rw[a7] at a0;cases a0
       obtain⟨u,a4,a5⟩:=Wq (by intro es e;cases e) a2
       have a3:=Zv hE th l
       have I:Uy ac sz 0 (l.flatMap (E.enc th))=ae (.agg (l.flatMap (E.enc th))):=by
        have h0:0+sz<=(l.flatMap (E.enc th)).length:=by rw[a3,U,a1,bq];exact av _
        simp only[Uy,h0,kL,dW]
        rw[bh (by rw[a3,U,a1];exact av _)]
        first|rfl|simp
       have:=Vf I u a5
       have b2:=Xe hE ht w r 0 u (λj R=>a4 _ (by simp[Zh] at R;show 0+j<_;simp only[cE];rw[a3,U];omega))
       refine⟨_,?_,this.2⟩
       simp only[Zrr];rw[a6];simp only[asAddr,aF,aJ,aA,b2]
       rfl
      ·cases I
     ·cases I
    ·cases I
   ·cases I
  ·cases I
theorem Zoc(hE:EngOk E) {σ:Pl} {g:GH} {B:Nat} {T:Fr Y} {h:Hp Y} {w:World} {a:Act} (hI:Inv E B σ h g w) (hF:FrOk E σ g T a) {a2:List ResultVar} (a3:Zrs E T h a2):∀{rs:List ResultVar} {vs:List (SV Y)},(∀r∈rs,r∈a2)->Uz E T h rs=ae vs->
 ∃us:List Value,(rs.mapM (Zrr a.tmps)).run E.P w= .ok us w/\DenL E σ g vs us:=by
 intro rs
 induction rs with
 |nil=>intro vs _ h;simp[Uz] at h;subst h;exact⟨[],by simp[go_sem],rfl,λj sv v J=>by simp at J⟩
 |cons r rs ih=>
  intro vs a1 I
  simp only[Uz] at I
  split at I
  ·rename_i v a5 J h2
   obtain rfl:=bd I
   obtain⟨u,hu,hd⟩:=Zrt hE hI hF a3 (a1 r (by simp)) J
   obtain⟨us,a4,a0⟩:=ih (λr' h=>a1 r' (by simp[h])) h2
   refine⟨u::us,?_,by simp[a0.1],?_⟩
   ·rw[List.mapM_cons]
    simp only[aF,hu,aA,a4,aJ]
   ·intro j sv v R U
    cases j with
    |zero=>simp at R U;subst R;subst U;exact hd
    |succ j=>exact a0.2 j sv v (by simpa using R) (by simpa using U)
  ·cases I
theorem Zuz(hE:EngOk E) {σ:Pl} {g:GH} {B:Nat} {T:Fr Y} {h:Hp Y} {w:World} {a:Act} (hI:Inv E B σ h g w) (hF:FrOk E σ g T a) {fn:Func} {vs:List (SV Y)} (a0:Zrs E T h fn.results.toList) (hr:Uz E T h fn.results.toList=ae vs):
 ∃u,(results fn a.tmps).run E.P w= .ok u w/\Den E σ g (Zea vs) u:=by
 obtain⟨I,a1,hd⟩:=Zoc hE hI hF a0 (λ_ h=>h) hr
 have hm:(fn.results.mapM (Zrr a.tmps)).run E.P w= .ok I.toArray w:=by
  rw[Array.mapM_eq_mapM_toList,Sem.run_map,a1];rfl
 refine⟨if h:I.toArray.size=1 then I.toArray[0] else .tuple I.toArray,?_,?_⟩
 ·rw[Z1d,aF,hm];rfl
 ·by_cases J:∃v,vs= [v]
  ·obtain⟨v,rfl⟩:=J
   obtain⟨u,rfl⟩:∃u,I= [u]:=by
    have:=hd.1
    match I,this with
    | [u],_=>exact⟨u,rfl⟩
   exact hd.2 0 v u rfl rfl
  ·have hl:I.length≠1:=by
    intro e
    have:=hd.1
    match vs,e▸this with
    | [v],_=>exact J ⟨v,rfl⟩
   have ho:Zea vs= .tup vs:=by
    match vs,J with
    | [],_=>rfl
    | [v],J=>exact ka ⟨v,rfl⟩ J
    |_::_::_,_=>rfl
   rw[ho,dif_neg (by simpa using hl)]
   refine .tup (λj=>I.getD j undef) (by simp[hd.1]) (λj R=> ?_) (λj sv R=> ?_)
   ·have:j<I.length:=by rw[<-hd.1];exact R
    simp[this]
   ·have U:j<I.length:=by rw[<-hd.1];exact(ai.1 R).1
    rw[bN,ao U]
    exact hd.2 j sv _ R (ao U)
theorem Zx4:∀(l:List (SV Y)) (t:Nat),nthD l t=(l[t]?).getD .unk
 | [],t=>by cases t<;>rfl
 |x::r,0=>rfl
 |x::r,t+1=>by simpa[nthD] using Zx4 r t
theorem Zgq{i b:Nat}:∀{l:List Nat},b∈l->b<i->b∈Z7 i l
 | [],h,_=>by simp at h
 |x::l,h,I=>by
  simp only[Z7]
  have J:b∈l->b∈Z7 i l:=λh=>Zgq h I
  split
  ·rcases aH.1 h with rfl|h
   ·simp
   ·exact aI _ (J h)
  ·rename_i e
   rcases aH.1 h with rfl|h
   ·have R:aU b i=true:=by rw[aU,bu];exact I
    rw[R,cz,Bool.not_eq_false',memB_iff] at e
    exact e
   ·exact J h
theorem X2{i b:Nat}:∀{l:List Nat},b∈Z7 i l->b∈l/\b<i
 | [],h=>by simp[Z7] at h
 |x::l,h=>by
  simp only[Z7] at h
  split at h
  ·rename_i e
   rw[aq] at e
   rcases aH.1 h with rfl|h
   ·exact⟨by simp,Yq e.1⟩
   ·have:=X2 h;exact⟨by simp[this.1],this.2⟩
  ·have:=X2 h;exact⟨by simp[this.1],this.2⟩
theorem Zs{i:Nat}:∀{cs:List (SV Y)},nidL i cs=ac->∀{j:Nat} {I:SV Y},cs[j]? =ae I->nid i I=ac
 | [],_,j,I,h=>by simp at h
 |x::r,J,j,I,h=>by
  simp only[nidL,aq] at J
  cases j with
  |zero=>simp at h;subst h;exact J.1
  |succ j=>exact Zs J.2 (by simpa using h)
theorem Zod{i:Nat}:∀{U:List (Value×SV Y)},nidE i U=ac->∀{j:Nat} {R:Value} {I:SV Y},U[j]? =ae (R,I)->nid i I=ac
 | [],_,j,R,I,h=>by simp at h
 |(k0,x)::r,J,j,R,I,h=>by
  simp only[nidE,aq] at J
  cases j with
  |zero=>simp at h;obtain⟨_,rfl⟩:=h;exact J.1
  |succ j=>exact Zod J.2 (by simpa using h)
theorem Zy(hE:EngOk E) {σ σ':Pl} {g:GH} {i:Nat} {R:SV Y} {v:Value} (h:Den E σ g R v) (hs:∀b p,b<i->σ b=ae p->σ' b=ae p):nid i R=ac->Den E σ' g R v:=by
 induction h with
 |unk v=>exactλ_=> .unk v
 |val v=>exactλ_=> .val v
 |int l k n=>exactλ_=> .int l k n
 |bool l b=>exactλ_=> .bool l b
 |str l h=>exactλ_=> .str l h
 |ptr h=>exactλI=> .ptr (hs _ _ (Yq I) h)
 |eptr h=>exactλI=> .eptr (hs _ _ (Yq I) h)
 |pptr c hc _ U=>exactλ_=> .pptr c hc λj R J=>U j R J (Zs (hE.encI _ _ _) J)
 |sl h hz hl hm hc=>exactλI=> .sl (hs _ _ (Yq I) h) hz hl hm hc
 |psl cv hl hm hf I hb _ U=>exactλ_=> .psl cv hl hm hf I hb λq x hq j R J=>U q x hq j R J (Zs (hE.encI _ _ _) J)
 |agg c a0 hc _ U=>exactλI=> .agg c a0 hc λj R J=>U j R J (Zs I J)
 |tup c a0 hc _ U=>exactλI=> .tup c a0 hc λj R J=>U j R J (Zs I J)
 |fn ca cb a4 a1 _ a5 a2 _ a6 a7=>
  intro I;simp only[nid,aq] at I;exact .fn ca cb a4 a1 (λj R J=>a6 j R J (Zs I.1 J)) a5 a2 λj R J=>a7 j R J (Zs I.2 J)
 |map h=>exactλI=> .map (hs _ _ (Yq I) h)
 |pmap c q ho hq I h1 h2 _ U=>exactλa3=> .pmap c q ho hq I h1 h2 λj k R J=>U j k R J (Zod a3 J)
 |iface _ U=>exactλI=> .iface (U I)
theorem Ykg(hE:EngOk E) {σ σ':Pl} {g:GH} {w:World} {i r z:Nat} {b:Blk Y} (h:BlkOk E σ g w r z b) (hs:∀b p,b<i->σ b=ae p->σ' b=ae p) (hn:nidB i (ae b)=ac):BlkOk E σ' g w r z b:=by
 cases b with
 |map es=>
  obtain⟨ents,c,J,R,U⟩:=h;exact⟨ents,c,J,R,λj k sv I=>let⟨v,bo,h4,h5⟩:=U j k sv I;⟨v,bo,h4,Zy hE h5 hs (Zod hn I)⟩⟩
 |raw cs fz tg=>
  obtain⟨arr,e,J,R,U,h4,h0⟩:=h;exact⟨arr,e,J,R,U,λj sv I=>let⟨v,h5,h6⟩:=h4 j sv I;⟨v,h5,Zy hE h6 hs (Zs hn I)⟩,h0⟩
 |rows th l fz=>
  obtain⟨arr,e,J,R,U,h4,h0⟩:=h
  exact⟨arr,e,J,R,U,λj sv I=>let⟨v,h5,h6⟩:=h4 j sv I;⟨v,h5,Zy hE h6 hs (by
   obtain⟨q,p,x,_,_,_,hs⟩:=Y3 hE th l I
   exact Zs (hE.encI _ _ _) hs)⟩,h0⟩
theorem Zx5(h:Hp Y) (m:List Nat) (b:Nat):Zyu h m b=if b∈m then h b else none:=by
 unfold Zyu;by_cases c:b∈m
 ·rw[jM c];have:=memB_iff.2 c;rw[this]
 ·rw[jJ c]
  have:memB b m=false:=by rw[<-bg,memB_iff];exact c
  rw[this]
theorem Stp.filter{h:Hp Y} {i i':Nat} {m:List Nat} {σ σ1:Pl} {g g1:GH} {w w1:World} (I:Stp i (i'-i) m σ g w σ1 g1 w1) (hD:DomLt h i) (hM:Xg h i i' m) (a0:∀b,i<=b->b<i'->σ b=au):Stp i (i'-i) (Z7 i m) σ g w σ1 g1 w1:=by
 have key:∀b∈m,∀p,σ b=ae p->b∈Z7 i m:=by
  intro b U p hp;by_cases e:b<i
  ·exact Zgq U e
  ·rcases hM b U with J|J
   ·exact ka (hD b J) e
   ·rw[a0 b J.1 J.2] at hp;cases hp
 exact⟨I.sig,I.snew,I.gle,λr o v hv=>(I.gcnew r o v hv).imp id (Or.imp id λ⟨b,J,z,R⟩=>⟨b,key b J _ R,z,R⟩),I.gmnew,
  λr hr hx=>I.heap r hr λb U z hz=>hx b (key b U _ hz) z hz,I.size,I.os,I.tape,I.output,λb r z J R=>(I.blk b r z J R).imp id λ⟨b',J,z',R⟩=>⟨b',key b' J _ R,z',R⟩⟩
theorem DenL.append{σ:Pl} {g:GH} {a b:List (SV Y)} {U vb:List Value} (h:DenL E σ g a U) (k:DenL E σ g b vb):DenL E σ g (a++b) (U++vb):=by
 refine⟨by simp[h.1,k.1],λj R v I J=> ?_⟩;have hl:=h.1;by_cases e:j<a.length
 ·rw[bJ e] at I
  rw[bJ (by omega)] at J;exact h.2 j R v I J
 ·rw[bx (by omega)] at I
  rw[bx (by omega),<-hl] at J;exact k.2 _ R v I J
end
end
section
open Go.RowKit
section
variable {Y:Thy} {E:Eng Y} {F:Fns Y}
def Yn3(E:Eng Y) (fn:Func) (h:Hp Y) (i:Nat) (U:Nat) (m:List Nat) (T':Fr Y) (h':Hp Y) (r:Res Y):Prop:=
 ∀(B:Nat) (σ:Pl) (g:GH) (w:World) (σ':Pl) (I:GH) (R:Act) (J:World),Inv E B σ h g w->(∀b,i<=b->b<U->σ b=au)->Stp i (U-i) m σ g w σ' I J->Inv E B σ' h' I J->FrOk E σ' I T' R->
  ∃u,(results fn R.tmps).run E.P J= .ok u J/\Stp i r.n r.mods σ g w σ' I J/\Inv E B σ' (patch h i r) I J/\Den E σ' I r.v u
theorem Zkc(hE:EngOk E) {fn:Func} {h:Hp Y} {i R:Nat} {m:List Nat} {T':Fr Y} {I:Hp Y} {k:Res Y->Prop} (hD:DomLt h i) (hM:Xg h i R m) (J:finF E fn i k T' I R m):
 ∃r,k r/\ROk h r/\r.n=R-i/\r.rd=au/\Yn3 E fn h i R m T' I r:=by
 unfold finF at J
 obtain⟨a7,J⟩:=Zkd J
 split at J
 ·rename_i vs a8
  rw[V4,X5,X5,Xx] at J
  refine⟨_,J,?_,rfl,rfl,?_⟩
  ·intro b hb
   obtain⟨a1,a4⟩:=X2 hb
   rcases hM b a1 with U|U
   ·exact U
   ·omega
  ·intro B σ g w σ' g' a' w' hI a2 h3 h4 h5
   obtain⟨u,hu,a5⟩:=Zuz hE h4 h5 a7 a8
   have a3:Stp i (R-i) (Z7 i m) σ g w σ' g' w':=h3.filter hD hM a2
   have a6:Inv E B σ' (patch h i ⟨Zea vs,R-i,Z7 i m,I,au⟩) g' w':=
    Zik hI h4 a3 (λb hb=>by
     obtain⟨a1,a4⟩:=X2 hb
     rcases hM b a1 with U|U
     ·exact U
     ·omega) (λb h1 h2=>a2 b h1 (by omega)) (r:=⟨Zea vs,R-i,Z7 i m,I,au⟩) rfl rfl rfl
   refine⟨u,hu,a3,Zsr a6 λb x hx=> ?_,a5⟩
   rw[Zp] at hx⊢
   split at hx
   ·have a0:Zyu I (Zyp I i 100000 (idsL vs++idsM I (Z7 i m)) (Z7 i m)) b=ae x:=hx
    rw[Zx5] at a0
    split at a0
    ·rw[jM (by assumption)];exact a0
    ·cases a0
   ·rw[jJ (by assumption)];exact hx
 ·exact J.elim
theorem Z8d(hE:EngOk E) {h:Hp Y} {i I:Nat} {m:List Nat} {u:Value} {R:Hp Y} {k:Res Y->Prop} (hD:DomLt h i) (hM:Xg h i I m) (hK:finP i k u R I m):
 ∃r,k r/\ROk h r/\r.n=I-i/\r.v= .pan u/\∀(B:Nat) (σ:Pl) (g:GH) (w:World) (σ':Pl) (J:GH) (w':World),Inv E B σ h g w->(∀b,i<=b->b<I->σ b=au)->Stp i (I-i) m σ g w σ' J w'->Inv E B σ' R J w'->
  Stp i r.n r.mods σ g w σ' J w'/\Inv E B σ' (patch h i r) J w':=by
 unfold finP at hK
 rw[X5,X5,Xx] at hK
 refine⟨_,hK,?_,rfl,rfl,?_⟩
 ·intro b hb
  obtain⟨a1,a4⟩:=X2 hb
  rcases hM b a1 with U|U
  ·exact U
  ·omega
 ·intro B σ g w σ' J w' hI a2 h3 h4
  have a3:Stp i (I-i) (Z7 i m) σ g w σ' J w':=h3.filter hD hM a2
  have a5:Inv E B σ' (patch h i ⟨.pan u,I-i,Z7 i m,R,au⟩) J w':=
   Zik hI h4 a3 (λb hb=>by
    obtain⟨a1,a4⟩:=X2 hb
    rcases hM b a1 with U|U
    ·exact U
    ·omega) (λb h1 h2=>a2 b h1 (by omega)) (r:=⟨.pan u,I-i,Z7 i m,R,au⟩) rfl rfl rfl
  refine⟨a3,Zsr a5 λb x hx=> ?_⟩
  rw[Zp] at hx⊢
  split at hx
  ·have a0:Zyu R (Zyp R i 100000 (idsM R (Z7 i m)) (Z7 i m)) b=ae x:=hx
   rw[Zx5] at a0
   split at a0
   ·rw[jM (by assumption)];exact a0
   ·cases a0
  ·rw[jJ (by assumption)];exact hx
theorem Zx1{I:List PanicEntry} {u:Value} (h:Zyv I=ae u):I= [{v:=u,recovered:=false}]:=by
 unfold Zyv at h;split at h
 ·cases h;rfl
 ·cases h
theorem Ua{σ:Pl} {g:GH} {args:List (SV Y)} {I:Array Value} {N:Nat} {R:List Deferred} (hd:DenL E σ g args I.toList) (a0:args.length<=N):FrOk E σ g (nthD args) {tmps:=I++dj (N-I.size) undef,defers:=R}:=by
 have U:I.size=args.length:=by rw[hd.1];simp
 intro t;rw[Zx4];show Den E σ g _ ((I++dj (N-I.size) undef).getD t undef);rw[aS];by_cases J:t<args.length
 ·rw[ao J,fT (by omega)]
  have:=hd.2 t args[t] I[t] (ao J) (by simp[U▸J]);rw[cX (by omega)];exact this
 ·rw[List.getElem?_eq_none (by omega)]
  exact .unk _
theorem Ub{args:List (SV Y)} {σ:Pl} {g:GH} {I:Array Value} {N:Nat} (hd:DenL E σ g args I.toList) (J:args.length<=N):(I++dj (N-I.size) undef).size=N:=by
 have R:I.size=args.length:=by rw[hd.1];simp
 simp;omega
theorem Z8e(hE:EngOk E) (hF:FnsOk E F) {a6:Nat->Nat->Code->Fr Y->Hp Y->Nat->List Nat->Kont Y->Prop} (b0:∀f N c,VcOk E N c (a6 f N c)):Vb E (Zba E F a6):=by
 intro f args h i k hD I;unfold Zba at I;split at I
 ·rename_i S hS
  rw[V4] at I;exact hF.sum f S hS args h i k hD I
 ·split at I
  ·rename_i fn a4
   split at I
   ·rename_i c hc
    split at I
    ·exact I.elim
    ·rename_i a1
     rw[bu] at a1;rw[V4] at I;obtain⟨e,T',h',i',b3,J,hi,b2,⟨m,rfl,hM⟩,a5⟩:=b0 f fn.ntmps c _ _ _ _ _ hD I;have a3:(e= .normal\/e= .ret)->finF E fn i k T' h' i' (m++ [])->∃r,k r/\ROk h r/\CallTri2 E f args h i r:=by
      intro he J;obtain⟨r,I,hR,hn,a9,ft⟩:=Zkc hE hD (by simpa using hM) J;refine⟨r,I,hR,.inl λB σ g w b1 hh a8 hI hB a2 hd=> ?_⟩;obtain rfl:hh=h:=funext λb=>a8 b (by unfold Rd;rw[a9];trivial);have a0:∀b,i<=b->b<i'->σ b=none:=λb R h2=>a2 b R (by omega);refine calls_of_wp (hF.fn f fn a4) hc ?_;refine a5 B σ g w _ _ hI hB a0 (Ua hd a1) (Ub hd a1) ?_;rintro a' w' ⟨R,h2,σ',U,h3,h4,h5⟩;obtain⟨u,hu,q1,q2,q3⟩:=ft B σ g w σ' U a' w' hI a0 h3 h4 h5;rcases he with rfl|rfl
      ·exact bodyPost_end hu R ⟨u,rfl,σ',U,q1,q2,q3⟩
      ·exact bodyPost_ret hu R ⟨u,rfl,σ',U,q1,q2,q3⟩
     split at J
     ·exact a3 (.inl rfl) J
     ·exact a3 (.inr rfl) J
     ·split at J
      ·rename_i ch u a7
       obtain rfl:=Zx1 a7;obtain⟨r,I,hR,hn,hv,ft⟩:=Z8d hE hD (by simpa using hM) J;refine⟨r,I,hR,.inr ⟨u,hv,λB σ g w b1 hI hB a2 hd=> ?_⟩⟩;have a0:∀b,i<=b->b<i'->σ b=none:=λb R h2=>a2 b R (by omega);refine calls_of_wp (hF.fn f fn a4) hc ?_;refine a5 B σ g w _ _ hI hB a0 (Ua hd a1) (Ub hd a1) ?_;rintro a' w' ⟨R,h2,σ',U,h3,h4,h5⟩;obtain⟨q1,q2⟩:=ft B σ g w σ' U w' hI a0 h3 h4;exact⟨R,rfl,σ',U,q1,q2⟩
      ·exact J.elim
     ·exact J.elim
   ·exact I.elim
  ·exact I.elim
def DlOk(E:Eng Y) (σ:Pl) (g:GH):List (Dfr Y)->List Deferred->Prop
 | [],l=>l= []
 |p::J,l=>∃cap I r,l={target:= .fn (.func p.1) cap,args:=I}::r/\DenL E σ g p.2 (I++cap).toList/\DlOk E σ g J r
theorem DlOk.mono{σ σ':Pl} {g J:GH} (hs:Pl.le σ σ') (U:g.le J):∀{dl:List (Dfr Y)} {l:List Deferred},DlOk E σ g dl l->DlOk E σ' J dl l
 | [],l,h=>h
 |p::ds,l,⟨cap,a0,r,h1,R,I⟩=>⟨cap,a0,r,h1,⟨R.1,λj sv v I h4=>(R.2 j sv v I h4).mono hs U⟩,I.mono hs U⟩
structure AftD(E:Eng Y) (B N i i':Nat) (ms:List Nat) (σ:Pl) (g:GH) (w:World) (dl:List (Dfr Y)) (T':Fr Y) (h':Hp Y) (a':Act) (w':World):Prop where
 sz:a'.tmps.size=N
 ex:∃σ' g',Stp i (i'-i) ms σ g w σ' g' w'/\Inv E B σ' h' g' w'/\FrOk E σ' g' T' a'/\DlOk E σ' g' dl a'.defers
def DefTri(E:Eng Y) (N:Nat) (c:Code) (ds:List (Dfr Y)) (T:Fr Y) (h:Hp Y) (i:Nat) (e:Exit) (dl:List (Dfr Y)) (U:Fr Y) (h':Hp Y) (J:Nat) (a0:List Nat):Prop:=
 ∀(B:Nat) (σ:Pl) (g:GH) (w:World) (a:Act) (Q:Exit->Act->World->Prop),Inv E B σ h g w->B<=w.heap.size->(∀b,i<=b->b<J->σ b=au)->FrOk E σ g T a->a.tmps.size=N->DlOk E σ g ds a.defers->
  (∀I R,AftD E B N i J a0 σ g w dl U h' I R->Q e I R)->c.wp E.P Q a w
def RoundsD(E:Eng Y) (N:Nat) (c:Code) (ds:List (Dfr Y)) (T:Fr Y) (h:Hp Y) (i:Nat) (e:Exit) (dl:List (Dfr Y)) (U:Fr Y) (h':Hp Y) (J:Nat) (a0:List Nat):Prop:=
 ∃n,∀(B:Nat) (σ:Pl) (g:GH) (w:World) (a:Act) (Q:Exit->Act->World->Prop),Inv E B σ h g w->B<=w.heap.size->(∀b,i<=b->b<J->σ b=au)->FrOk E σ g T a->a.tmps.size=N->DlOk E σ g ds a.defers->
  (∀I R,AftD E B N i J a0 σ g w dl U h' I R->Q e I R)->Code.rounds E.P c Q n a w
theorem Zcq{i I J:Nat} {m1 m2:List Nat} {σ σ1 σ2:Pl} {g R U:GH} {w w1 w2:World} (hi:i<=I) (a0:I<=J) (h:Stp i (I-i) m1 σ g w σ1 R w1) (k:Stp I (J-I) m2 σ1 R w1 σ2 U w2):Stp i (J-i) (m2++m1) σ g w σ2 U w2:=by
 have k':Stp (i+(I-i)) (J-I) m2 σ1 R w1 σ2 U w2:=by rw[show i+(I-i)=I by omega];exact k
 have:=h.trans k'
 rwa[show I-i+(J-I)=J-i by omega] at this
theorem Zcr{i n J:Nat} {m:List Nat} {σ σ1:Pl} {g U:GH} {w w1:World} (h:Stp i n m σ g w σ1 U w1) (a0:∀b,i<=b->b<J->σ b=au):∀b,i+n<=b->b<J->σ1 b=none:=by
 intro b b1 R;cases hq:σ1 b with
 |none=>rfl
 |some p=>
  rcases h.snew b p hq with I|I
  ·rw[a0 b (by omega) R] at I;cases I
  ·omega
theorem Zoa{e:Exit} {α:Prop} {k:Exit->Prop} (h:match e with| .normal=>α|e=>k e):(e= .normal/\α)\/(e≠ .normal/\k e):=by
 cases e<;>first|exact .inl ⟨rfl,h⟩|exact .inr ⟨by simp,h⟩
theorem W6{h U:Hp Y} {i J R:Nat} {m1 m2:List Nat} (hD:Dom h i U J) (hi:i<=J) (a2:J<=R) (a0:Xg h i J m1) (a1:Xg U J R m2):Xg h i R (m2++m1):=by
 intro b I;rcases cf.1 I with I|I
 ·rcases a1 b I with c|c
  ·rcases hD.2 b c with c'|c'
   ·exact .inl c'
   ·right;have:=hD.1 b c;omega
  ·right;omega
 ·rcases a0 b I with c|c
  ·exact .inl c
  ·right;omega
theorem Zcs{h J R:Hp Y} {i I i2:Nat} (hi:i<=I) (hD:Dom h i J I) (U:Dom J I R i2):Dom h i R i2:=
 ⟨U.1,λb hb=>by
  rcases U.2 b hb with c|c
  ·exact hD.2 b c
  ·right;omega⟩
theorem Z09{o:Oper} {T:Fr Y} {f:Nat} {args:List (SV Y)} (h:Zvj o T=ae (f,args)) {σ:Pl} {g:GH} {a:Act} (w:World) (hF:FrOk E σ g T a):
 ∃cap a1,(execOp a.eval o).run E.P w= .ok (.defer {target:= .fn (.func f) cap,args:=a1}) w/\DenL E σ g args (a1++cap).toList:=by
 unfold Zvj at h
 split at h
 ·rename_i c ho
  split at h
  ·rename_i x hc
   split at h
   ·rename_i gid sa sb hx
    cases h
    have a0:=hF.ev x
    rw[hx] at a0
    generalize hv:a.eval x=vf at a0
    cases a0
    rename_i U vb ca cb a6 a2 a4 a7 a3 a5
    refine⟨vb,U++c.args.map a.eval,?_,?_⟩
    ·unfold execOp
     simp only[ho,resolve,hc,aF,aJ,aA,Deferred.ofValue,hv]
    ·obtain⟨e1,e2,e3⟩:=Zij (E:=E) (σ:=σ) (g:=g) (T:=T) (ρ:=a.eval) (xs:=c.args) (λx hm=>hF.ev x)
     have l1:DenL E σ g sa U.toList:=⟨by simp[a6],λj R v I J=>by
      have:=a2 j (ai.1 I).1
      rw[show U.toList[j]? =U[j]? by simp,this] at J
      cases J;exact a4 j R I⟩
     have l2:DenL E σ g (c.args.toList.map (ev T)) (c.args.map a.eval).toList:=⟨by simp,λj R v I J=>by
      have:=e2 j (ai.1 I).1
      rw[show(c.args.map a.eval).toList[j]? =(c.args.map a.eval)[j]? by simp,this] at J
      cases J;exact e3 j R I⟩
     have l3:DenL E σ g sb vb.toList:=⟨by simp[a7],λj R v I J=>by
      have:=a3 j (ai.1 I).1
      rw[show vb.toList[j]? =vb[j]? by simp,this] at J
      cases J;exact a5 j R I⟩
     rw[hH,hH]
     exact(l1.append l2).append l3
   ·cases h
  ·cases h
 ·cases h
theorem AftD.comp{B N i J R:Nat} {m1 m2:List Nat} {σ:Pl} {g:GH} {w:World} {a0:List (Dfr Y)} {T1:Fr Y} {h1:Hp Y} {a1:Act} {U:World} (hA:AftD E B N i J m1 σ g w a0 T1 h1 a1 U) (hi:i<=J) (a4:J<=R) (hB:B<=w.heap.size) (a3:∀b,i<=b->b<R->σ b=au) (hm:∃m,m2=m++m1):
 ∃σ1 I,Inv E B σ1 h1 I U/\B<=U.heap.size/\(∀b,J<=b->b<R->σ1 b=au)/\FrOk E σ1 I T1 a1/\DlOk E σ1 I a0 a1.defers/\
  ∀dl T2 h2 a2 w2,AftD E B N J R m2 σ1 I U dl T2 h2 a2 w2->AftD E B N i R m2 σ g w dl T2 h2 a2 w2:=by
 obtain⟨hs,σ1,I,hS,hI,hF,hd⟩:=hA
 refine⟨σ1,I,hI,bS hB hS.size,λb b1 b2=>Zcr hS a3 b (by omega) b2,hF,hd,?_⟩
 rintro dl T2 h2 a2 w2 ⟨k2,σ2,g2,k3,k4,k5,k6⟩
 obtain⟨m,rfl⟩:=hm
 exact⟨k2,σ2,g2,(Zcq hi a4 hS k3).weaken (by intro b;simp only[cf];rintro((h|h)|h)<;>simp[h]),k4,k5,k6⟩
theorem DefTri.seq{N:Nat} {c1 R:Code} {ds a0 a3:List (Dfr Y)} {T T1 T2:Fr Y} {h I U:Hp Y} {i J i2:Nat} {m1 m2:List Nat} {e:Exit} (t1:DefTri E N c1 ds T h i .normal a0 T1 I J m1) (t2:DefTri E N R a0 T1 I J e a3 T2 U i2 m2) (hi:i<=J) (a6:J<=i2) (hm:∃m,m2=m++m1):DefTri E N (.seq c1 R) ds T h i e a3 T2 U i2 m2:=by
 intro B σ g w a Q hI hB a4 hF hN hd hQ;refine wp_seq (t1 B σ g w a _ hI hB (λb I U=>a4 b I (by omega)) hF hN hd ?_);intro a1 w1 hA;show R.wp E.P Q a1 w1;obtain⟨σ1,g1,k1,k2,k3,k4,k5,k6⟩:=hA.comp hi a6 hB a4 hm;exact t2 B σ1 g1 w1 a1 Q k1 k2 k3 k4 hA.sz k5 λa2 w2 a5=>hQ a2 w2 (k6 _ _ _ _ _ a5)
theorem DefTri.seq_out{N:Nat} {J c2:Code} {U R:List (Dfr Y)} {T I:Fr Y} {h h1:Hp Y} {i i1:Nat} {m1:List Nat} {e:Exit} (he:e≠ .normal) (t1:DefTri E N J U T h i e R I h1 i1 m1):DefTri E N (.seq J c2) U T h i e R I h1 i1 m1:=by
 intro B σ g w a Q hI hB a0 hF hN hd hQ;refine wp_seq (t1 B σ g w a _ hI hB a0 hF hN hd ?_);intro a1 w1 hA;have:=hQ a1 w1 hA;cases e<;>first|exact this|exact ka rfl he
theorem RoundsD.more{N:Nat} {c:Code} {ds a0 a3:List (Dfr Y)} {T T1 T2:Fr Y} {h I R:Hp Y} {i J U:Nat} {m1 m2:List Nat} {e:Exit} (t1:DefTri E N c ds T h i .normal a0 T1 I J m1) (t2:RoundsD E N c a0 T1 I J e a3 T2 R U m2) (hi:i<=J) (a6:J<=U) (hm:∃m,m2=m++m1):RoundsD E N c ds T h i e a3 T2 R U m2:=by
 obtain⟨n,t2⟩:=t2;refine⟨n+1,λB σ g w a Q hI hB a4 hF hN hd hQ=> ?_⟩;rw[rounds_succ];refine t1 B σ g w a _ hI hB (λb I R=>a4 b I (by omega)) hF hN hd ?_;intro a1 w1 hA;obtain⟨σ1,g1,k1,k2,k3,k4,k5,k6⟩:=hA.comp hi a6 hB a4 hm;exact t2 B σ1 g1 w1 a1 Q k1 k2 k3 k4 hA.sz k5 λa2 w2 a5=>hQ a2 w2 (k6 _ _ _ _ _ a5)
theorem RoundsD.out{N:Nat} {c:Code} {R J:List (Dfr Y)} {T I:Fr Y} {h U:Hp Y} {i i1:Nat} {m1:List Nat} {e:Exit} (he:e≠ .normal) (t1:DefTri E N c R T h i e J I U i1 m1):RoundsD E N c R T h i e J I U i1 m1:=by
 refine⟨1,λB σ g w a Q hI hB a0 hF hN hd hQ=> ?_⟩;rw[rounds_succ];refine t1 B σ g w a _ hI hB a0 hF hN hd ?_;intro a1 w1 hA;have:=hQ a1 w1 hA;cases e<;>first|exact this|exact ka rfl he
theorem Yn4(hE:EngOk E) {call:Nat->List (SV Y)->Hp Y->Nat->(Res Y->Prop)->Prop} (b8:∀(o:Oper) T h i k,DomLt h i->step E call o.op T h i k->∃r,k r/\OpTri2 E o T h i r) {a3:Nat->Nat->Code->Fr Y->Hp Y->Nat->List Nat->Kont Y->Prop} (b6:∀f N c,VcOk E N c (a3 f N c)) {f N:Nat}:∀(n:Nat) (c:Code),
 (∀R T h i ms K,DomLt h i->vcD E call a3 f N n c R T h i ms K->∃e dl T' h' U ms',K e dl T' h' U ms'/\i<=U/\Dom h i h' U/\(∃m,ms'=m++ms/\Xg h i U m)/\DefTri E N c R T h i e dl T' h' U ms')/\
 ∀b,c= .loop b->Zeb b=ac->∀R T h i ms K,DomLt h i->vcD E call a3 f N n c R T h i ms K->∃e dl T' h' U ms',K e dl T' h' U ms'/\i<=U/\Dom h i h' U/\(∃m,ms'=m++ms/\Xg h i U m)/\RoundsD E N b R T h i e dl T' h' U ms':=by
 intro n
 induction n with
 |zero=>exactλc=>⟨λR T h i ms K _ J=>J.elim,λb _ _ R T h i ms K _ J=>J.elim⟩
 |succ n ih=>
  intro c
  have b1:∀R T h i ms K,vcD E call a3 f N (n+1) c R T h i ms K=vcDB E call a3 f N (vcD E call a3 f N n) c R T h i ms K:=λ_ _ _ _ _ _=>rfl
  have rounds:∀b,c= .loop b->Zeb b=ac->∀R T h i ms K,DomLt h i->vcD E call a3 f N (n+1) c R T h i ms K->∃e dl T' h' U ms',K e dl T' h' U ms'/\i<=U/\Dom h i h' U/\(∃m,ms'=m++ms/\Xg h i U m)/\RoundsD E N b R T h i e dl T' h' U ms':=by
   rintro b rfl hb R T h i ms K hD J
   rw[b1] at J
   unfold vcDB at J
   rw[show Zeb (.loop b)=ac from hb] at J
   obtain⟨e,dl,T1,h1,i1,ms1,I,hi,a0,⟨m,rfl,hM⟩,t1⟩:=(ih b).1 R T h i ms _ hD J
   rcases Zoa I with⟨rfl,I⟩|⟨he,I⟩
   ·obtain⟨e2,a5,T2,h2,i2,b9,a8,a4,a6,⟨m',rfl,a9⟩,t2⟩:=(ih (.loop b)).2 b rfl hb dl T1 h1 i1 _ _ a0.1 I
    exact⟨e2,a5,T2,h2,i2,_,a8,by omega,Zcs hi a0 a6,⟨m'++m,by simp,W6 a0 hi a4 hM a9⟩,RoundsD.more t1 t2 hi a4 ⟨m',rfl⟩⟩
   ·exact⟨e,dl,T1,h1,i1,_,I,hi,a0,⟨m,rfl,hM⟩,RoundsD.out he t1⟩
  refine⟨λR T h i ms K hD J=> ?_,rounds⟩
  have b5:=J
  rw[b1] at J
  unfold vcDB at J
  cases hh:Zeb c with
  |false=>
   rw[hh] at J
   obtain⟨e,T1,h1,i1,ms1,I,hi,a0,hm,t1⟩:=b6 f N c T h i ms _ hD J
   refine⟨e,R,T1,h1,i1,ms1,I,hi,a0,hm,λB σ g w a Q hI hB a2 hF hN hd hQ=>t1 B σ g w a Q hI hB a2 hF hN ?_⟩
   rintro a1 w1 ⟨z0,z1,σ1,g1,s1,s2,s3⟩
   exact hQ a1 w1 ⟨z1,σ1,g1,s1,s2,s3,by rw[z0];exact hd.mono s1.sig s1.gle⟩
  |true=>
   rw[hh] at J
   cases hc:c with
   |region id ops b3=>
    subst hc
    cases b3 with
    |true=>cases hh
    |false=>
    dsimp only at J
    split at J
    ·rename_i l o hl
     obtain⟨e1,⟨c,hc⟩,e3,e4⟩:=Zlh hl
     obtain⟨e0,T',h',U,ms',I,hi,a0,hm,t⟩:=Zv3 hE b8 ops.toList l T h i ms _ hD J
     cases e0 with
     |normal=> ?_
     |_=>exact I.elim
     dsimp only at I
     split at I
     ·rename_i p hp
      rw[V4] at I
      refine⟨.normal,(p.1,p.2)::R,T',h',U,ms',I,hi,a0,hm,λB σ g w a Q hI hB a2 hF hN b4 hQ=>wp_region_list ?_⟩
      rw[e1]
      have b7:wpList E.P ops (Ztn λa w=>wpList E.P ops Q [o] a w) l a w:=by
       have:=t B σ g w a (Ztn λa w=>wpList E.P ops Q [o] a w) hI hB a2 hF hN (λa' w' ⟨k1,k2,σ',g',k3,k4,k5⟩=>by
        show wpList E.P ops Q [o] a' w'
        simp only[wpList]
        rw[jM (Zdp e3 _)]
        left
        obtain⟨cap,b2,r1,r2⟩:=Z09 (show Zvj o T'=ae (p.1,p.2) from hp) w' k5
        unfold Oper.wp
        rw[r1,Oper.upon_defer,e4]
        refine hQ _ _ ⟨k2,σ',g',k3,k4,k5,cap,b2,a'.defers,rfl,r2,?_⟩
        rw[k1];exact b4.mono k3.sig k3.gle)
       simpa using this
      exact Zac b7 λa w h=>h
     ·exact I.elim
    ·exact J.elim
   |seq x y=>
    subst hc
    obtain⟨e,dl,T1,h1,i1,ms1,I,hi,a0,⟨m,rfl,hM⟩,t1⟩:=(ih x).1 R T h i ms _ hD J
    rcases Zoa I with⟨rfl,I⟩|⟨he,I⟩
    ·obtain⟨e2,a5,T2,h2,i2,b9,a8,a4,a6,⟨m',rfl,a9⟩,t2⟩:=(ih y).1 dl T1 h1 i1 _ _ a0.1 I
     exact⟨e2,a5,T2,h2,i2,_,a8,by omega,Zcs hi a0 a6,⟨m'++m,by simp,W6 a0 hi a4 hM a9⟩,DefTri.seq t1 t2 hi a4 ⟨m',rfl⟩⟩
    ·exact⟨e,dl,T1,h1,i1,_,I,hi,a0,⟨m,rfl,hM⟩,DefTri.seq_out he t1⟩
   |block id b=>
    subst hc
    obtain⟨e,dl,T1,h1,i1,ms1,I,hi,a0,hm,t1⟩:=(ih b).1 R T h i ms _ hD J
    by_cases b0:e= .exit id
    ·subst b0
     have a7:K .normal dl T1 h1 i1 ms1:=by
      simp only at I
      have:aO id id=true:=by simp
      rw[this] at I;exact I
     refine⟨.normal,dl,T1,h1,i1,ms1,a7,hi,a0,hm,λB σ g w a Q hI hB a2 hF hN hd hQ=>wp_block (t1 B σ g w a _ hI hB a2 hF hN hd λa1 w1 hA=> ?_)⟩
     show(if id=id then Q .normal a1 w1 else _)
     rw[jM rfl];exact hQ a1 w1 hA
    ·have a7:K e dl T1 h1 i1 ms1:=by
      cases e with
      |exit j=>
       simp only at I
       have:aO j id=false:=by rw[<-bg,fp];rintro rfl;exact b0 rfl
       rw[this] at I;exact I
      |_=>exact I
     refine⟨e,dl,T1,h1,i1,ms1,a7,hi,a0,hm,λB σ g w a Q hI hB a2 hF hN hd hQ=>wp_block (t1 B σ g w a _ hI hB a2 hF hN hd λa1 w1 hA=> ?_)⟩
     have:=hQ a1 w1 hA
     cases e with
     |exit j=>
      show(if j=id then _ else Q (.exit j) a1 w1)
      rw[jJ (by rintro rfl;exact b0 rfl)];exact this
     |_=>exact this
   |loop b=>
    obtain⟨e,dl,T1,h1,i1,ms1,I,hi,a0,hm,n',t⟩:=rounds b hc (by rw[hc] at hh;exact hh) R T h i ms K hD b5
    exact⟨e,dl,T1,h1,i1,ms1,I,hi,a0,hm,λB σ g w a Q hI hB a2 hF hN hd hQ=>wp_loop_rounds n' (t B σ g w a Q hI hB a2 hF hN hd hQ)⟩
   |_=>subst hc;exact J.elim
def Z8f:Option Value->FrameMode
 |none=> .returning
 |some u=> .panicking [{v:=u,recovered:=false}]
def Zf7:Option Value->FrameMode
 |none=> .returning
 |some u=> .panicking [{v:=u,recovered:=true}]
def rvV:Option Value->Value
 |none=> .nilIface
 |some u=>u
theorem Z8g(E:Eng Y) (σ:Pl) (g:GH) (l:Bool) (v:Value):Den E σ g (sv0 l v) v:=by
 cases v<;>first|exact .int _ _ _|exact .bool _ _|exact .str _ rfl|exact .val _
theorem Yke(E:Eng Y) (σ:Pl) (g:GH) (l:Bool) (v:Value):Den E σ g (sv1 l v) v:=by
 cases v with
 |agg cs=>
  refine .agg (λj=>cs.toList.getD j undef) (by simp) (λj I=> ?_) (λj U h=> ?_)
  ·have J:j<cs.size:=by simpa using I
   simp[bN,J]
  ·rw[bv] at h
   obtain⟨u,R,rfl⟩:=br.1 h;rw[bN,R];exact Z8g E σ g l u
 |_=>simp only[sv1];exact Z8g E σ g l _
theorem Ykf(E:Eng Y) (σ:Pl) (g:GH) (l:Bool) (v:Value):Den E σ g (svP l v) v:=by
 cases v with
 |iface t u=>exact .iface (Yke E σ g l u)
 |_=>exact .val _
theorem Yn5(E:Eng Y) (pm:Option Value) (σ:Pl) (g:GH):Den E σ g (rvOf E pm) (rvV pm):=by
 cases pm with
 |none=>exact .val _
 |some u=>exact Ykf E σ g _ u
theorem Zrn{I:Frame} {cs:List Frame} {pm:Option Value} (h:I.mode=Z8f pm):(recoverD (I::cs)=au/\rvV pm= .nilIface/\{I with mode:=Zf7 pm}=I)\/recoverD (I::cs)=ae (rvV pm,{I with mode:=Zf7 pm}::cs):=by
 cases pm with
 |none=>exact .inl ⟨by simp[recoverD,h,Z8f],rfl,by rw[<-show I.mode=Zf7 au from h]⟩
 |some u=>exact .inr (by simp[recoverD,h,Z8f,Zf7,rvV])
def STri(E:Eng Y) (pm:Option Value) (N:Nat) (c:Code) (T:Fr Y) (h:Hp Y) (i:Nat) (e:Exit) (T':Fr Y) (h':Hp Y) (R:Nat) (a0:List Nat):Prop:=
 ∀(B:Nat) (σ:Pl) (g:GH) (w:World) (a:Act) (I:Frame) (cs:List Frame) (Q:Exit->Act->List Frame->World->Prop),I.mode=Z8f pm->Inv E B σ h g w->B<=w.heap.size->(∀b,i<=b->b<R->σ b=au)->FrOk E σ g T a->a.tmps.size=N->
  (∀J U,Aft E B N i R a0 σ g w a.defers T' h' J U->Q e J ({I with mode:=Zf7 pm}::cs) U)->c.wpS E.P Q a (I::cs) w
theorem Ye4(hE:EngOk E) {rv:SV Y} {pm:Option Value} (b1:∀σ g,Den E σ g rv (rvV pm)) {call:Nat->List (SV Y)->Hp Y->Nat->(Res Y->Prop)->Prop} (b2:∀(o:Oper) T h i k,DomLt h i->step E call o.op T h i k->∃r,k r/\OpTri2 E o T h i r) {b3:Nat->Nat->Code->Fr Y->Hp Y->Nat->List Nat->Kont Y->Prop} (a9:∀f N c,VcOk E N c (b3 f N c)) {f N:Nat}:
 ∀(c:Code) T h i ms K,DomLt h i->vcS E rv call b3 f N c T h i ms K->∃e T' h' i' a5,K e T' h' i' a5/\i<=i'/\Dom h i h' i'/\(∃m,a5=m++ms/\Xg h i i' m)/\STri E pm N c T h i e T' h' i' a5
 | .region id ops ab,T,h,i,ms,K,hD,I=>by
  simp only[vcS] at I
  split at I
  ·rename_i o l a7
   split at I
   ·rename_i d hr hd
    split at I
    ·rename_i c0
     obtain⟨e0,T',h',i',a5,R,hi,a0,hm,t⟩:=Zv3 hE b2 ops.toList l _ h i ms _ hD I
     cases e0 with
     |normal=> ?_
     |_=>exact R.elim
     refine⟨.normal,T',h',i',a5,R,hi,a0,hm,λB σ g w a J cs Q a4 hI hB a3 hF hN hQ=>wpS_region ?_⟩
     have c1:ops.size=l.length+1:=by rw[<-eY,a7];rfl
     have h0:ops[0]? =ae o:=by rw[<-ez,a7];rfl
     rw[gU,c1,gE]
     simp only[wpOpsS,h0]
     obtain⟨⟨ts,ho⟩,hg⟩:=Yam hr
     rw[jM (Zdp hg _)]
     have b0:(execOp a.eval o).run E.P w= .ok .recover w:=by
      unfold execOp
      simp only[ho,resolve,aF,aJ,aA,invoke,builtin]
     have b6:FrOk E σ g (upd T d rv) (a.put o.dst (rvV pm)):=by
      rw[hd]
      exact hF.put (by rw[hN];exact Yq c0) (b1 σ g)
     have:=t B σ g w (a.put o.dst (rvV pm)) (Ztn λa' w'=>Q .normal a' ({J with mode:=Zf7 pm}::cs) w') hI hB a3 b6 (by rw[Uj];exact hN) (λa' w' U=>hQ a' w' (by
      have b9:(a.put o.dst (rvV pm)).defers=a.defers:=by rw[hd];rfl
      rw[b9] at U;exact U))
     have a6:=Ut (ops:=ops) (l:=l) (Q:=Q) (cs:={J with mode:=Zf7 pm}::cs) (X:=λa' w'=>Q .normal a' ({J with mode:=Zf7 pm}::cs) w') (λa w h=>h) (k:=1) (λj=>by rw[<-ez,a7,kZ 1 j];simp) (by simpa using this)
     rcases Zrn (cs:=cs) a4 with⟨r1,r2,r3⟩|r1
     ·simp only[b0,r1]
      rw[r3,r2] at a6
      exact a6
     ·simp only[b0,r1]
      exact a6
    ·exact I.elim
   ·exact I.elim
  ·exact I.elim
 | .seq x y,T,h,i,ms,K,hD,I=>by
  simp only[vcS] at I
  obtain⟨e,T1,h1,i1,c2,R,hi,a0,⟨m,rfl,hM⟩,t1⟩:=Ye4 hE b1 b2 a9 x T h i ms _ hD I
  rcases Zoa R with⟨rfl,R⟩|⟨he,R⟩
  ·obtain⟨e2,T2,h2,i2,c3,b7,a8,b5,⟨m',rfl,b8⟩,t2⟩:=a9 f N y T1 h1 i1 _ _ a0.1 R
   refine⟨e2,T2,h2,i2,_,b7,by omega,Zcs hi a0 b5,⟨m'++m,by simp,W6 a0 hi a8 hM b8⟩,λB σ g w a J cs Q a4 hI hB a3 hF hN hQ=> ?_⟩
   refine wpS_seq (t1 B σ g w a J cs _ a4 hI hB (λb h1 h2=>a3 b h1 (by omega)) hF hN ?_)
   intro a1 w1 U
   show y.wpS E.P Q a1 ({J with mode:=Zf7 pm}::cs) w1
   obtain⟨σ1,g1,k1,k2,k3,k4,k5⟩:=U.trans hi a8 hB a3 ⟨m',rfl⟩
   exact wpS_of_wp (t2 B σ1 g1 w1 a1 _ k1 k2 k3 k4 U.sz λa2 w2 b4=>hQ a2 w2 (k5 _ _ _ _ b4))
  ·refine⟨e,T1,h1,i1,_,R,hi,a0,⟨m,rfl,hM⟩,λB σ g w a J cs Q a4 hI hB a3 hF hN hQ=> ?_⟩
   refine wpS_seq (t1 B σ g w a J cs _ a4 hI hB a3 hF hN ?_)
   intro a1 w1 U
   have:=hQ a1 w1 U
   cases e<;>first|exact this|exact ka rfl he
 | .region _ _ ac,_,_,_,_,_,_,I=>I.elim
 | .skip,_,_,_,_,_,_,I=>I.elim
 | .cond _ _ _,_,_,_,_,_,_,I=>I.elim
 | .block _ _,_,_,_,_,_,_,I=>I.elim
 | .loop _,_,_,_,_,_,_,I=>I.elim
 | .exit _,_,_,_,_,_,_,I=>I.elim
 | .ret,_,_,_,_,_,_,I=>I.elim
 | .rangeFunc _ _ _ _,_,_,_,_,_,_,I=>I.elim
 | .scope _,_,_,_,_,_,_,I=>I.elim
 | .label _,_,_,_,_,_,_,I=>I.elim
 | .goto _,_,_,_,_,_,_,I=>I.elim
def Zob(E:Eng Y) (pm:Option Value) (f:FuncId) (args:List (SV Y)) (h:Hp Y) (i:Nat) (r:Res Y):Prop:=
 ∀(B:Nat) (σ:Pl) (g:GH) (w:World) (J:Array Value),Inv E B σ h g w->B<=w.heap.size->(∀b,i<=b->b<i+r.n->σ b=au)->DenL E σ g args J.toList->
  CallsD E.P f J (Z8f pm) w λU u' R=>u'=Zf7 pm/\∃u,U= .returned u/\∃σ' I,Stp i r.n r.mods σ g w σ' I R/\Inv E B σ' (patch h i r) I R/\Den E σ' I r.v u
theorem Zx2(hE:EngOk E) (hF:FnsOk E F) {call:Nat->List (SV Y)->Hp Y->Nat->(Res Y->Prop)->Prop} (b2:∀(o:Oper) T h i k,DomLt h i->step E call o.op T h i k->∃r,k r/\OpTri2 E o T h i r) {a7:Nat->Nat->Code->Fr Y->Hp Y->Nat->List Nat->Kont Y->Prop} (a6:∀f N c,VcOk E N c (a7 f N c)) {f:Nat} {pm:Option Value} {args:List (SV Y)} {h:Hp Y} {i:Nat} {k:Res Y->Prop} (hD:DomLt h i) (I:Zyw E F pm call a7 f args h i k):
 FnGood E.P f/\∃r,k r/\ROk h r/\Zob E pm f args h i r:=by
 unfold Zyw at I
 split at I
 ·rename_i fn a3
  refine⟨hF.fnG f fn a3,?_⟩
  split at I
  ·rename_i c hc
   split at I
   ·exact I.elim
   ·rename_i a2
    rw[bu] at a2
    split at I
    ·obtain⟨e,T',h',i',b3,J,hi,a9,⟨m,rfl,hM⟩,a5⟩:=Ye4 hE (Yn5 E pm) b2 a6 c _ _ _ _ _ hD I
     have a0:(e= .normal\/e= .ret)->finF E fn i k T' h' i' (m++ [])->∃r,k r/\ROk h r/\Zob E pm f args h i r:=by
      intro he J
      obtain⟨r,I,hR,hn,b1,ft⟩:=Zkc hE hD (by simpa using hM) J
      refine⟨r,I,hR,λB σ g w b4 hI hB a4 hd=> ?_⟩
      have a1:∀b,i<=b->b<i'->σ b=none:=λb R h2=>a4 b R (by omega)
      refine callsD_of_wpS (hF.fn f fn a3) hc λa8 cs b0=> ?_
      refine a5 B σ g w _ a8 cs _ b0 hI hB a1 (Ua hd a2) (Ub hd a2) ?_
      rintro a' w' ⟨R,h2,σ',U,h3,h4,h5⟩
      obtain⟨u,hu,q1,q2,q3⟩:=ft B σ g w σ' U a' w' hI a1 h3 h4 h5
      rcases he with rfl|rfl
      ·exact⟨R,Zf7 pm,rfl,u,hu,rfl,u,rfl,σ',U,q1,q2,q3⟩
      ·exact⟨R,Zf7 pm,rfl,u,hu,rfl,u,rfl,σ',U,q1,q2,q3⟩
     split at J
     ·exact a0 (.inl rfl) J
     ·exact a0 (.inr rfl) J
     ·exact J.elim
    ·split at I
     case h_2=>exact I.elim
     obtain⟨e,T',h',i',b3,J,hi,a9,⟨m,rfl,hM⟩,a5⟩:=a6 f fn.ntmps c _ _ _ _ _ hD I
     have a0:(e= .normal\/e= .ret)->finF E fn i k T' h' i' (m++ [])->∃r,k r/\ROk h r/\Zob E au f args h i r:=by
      intro he J
      obtain⟨r,I,hR,hn,b1,ft⟩:=Zkc hE hD (by simpa using hM) J
      refine⟨r,I,hR,λB σ g w b4 hI hB a4 hd=> ?_⟩
      have a1:∀b,i<=b->b<i'->σ b=none:=λb R h2=>a4 b R (by omega)
      refine callsD_of_wp (hF.fn f fn a3) hc ?_
      refine a5 B σ g w _ _ hI hB a1 (Ua hd a2) (Ub hd a2) ?_
      rintro a' w' ⟨R,h2,σ',U,h3,h4,h5⟩
      obtain⟨u,hu,q1,q2,q3⟩:=ft B σ g w σ' U a' w' hI a1 h3 h4 h5
      rcases he with rfl|rfl
      ·exact bodyPost_end hu R ⟨u,rfl,σ',U,q1,q2,q3⟩
      ·exact bodyPost_ret hu R ⟨u,rfl,σ',U,q1,q2,q3⟩
     split at J
     ·exact a0 (.inl rfl) J
     ·exact a0 (.inr rfl) J
     ·exact J.elim
  ·exact I.elim
 ·exact I.elim
end
end
end Go.Proofs.YtbkgpcknakidkaaGreatDoor
