/- Merged texts: EngOP, EngP, EngQ, EngR, EngS, EngU, EngT, EngV, EngVA, EngVB, EngY, EngLA, EngLB, EngLC, EngLD. -/
import Derived.Laws.AppendOwn
import Derived.Laws.StructEq
import Derived.ChangeKeysEq
import Derived.Laws.MakeOwn
import Derived.Laws.CopyRow
import Derived.Lib.ConvBytes
import Derived.Laws.Externs
import Derived.Laws.BytesString
import Derived.Recover
import Derived.Scope
import Derived.LoopN
import Derived.Test.YtbaeahmhdfdndaaGreatDoorMa
namespace Go.Proofs.YtbaeahmhdfdndaaGreatDoor
set_option linter.unusedVariables false
set_option linter.unusedSimpArgs false
set_option linter.unnecessarySimpa false
set_option maxRecDepth 100000
section
open Go.RowKit
section
variable {Y:Thy} {E:Eng Y}
theorem Zr5 {N:Nat} {h:Hp Y} {i:Nat} {mks:List Nat} {j0:Nat} {rp:Res Y} {p:Value}:∀{os:List Oper} {j:Nat} {T:Fr Y} {ds:List (DR Y)},QOk E N h i mks j0 rp p os j T ds->os.length=ds.length
 | [],_,_,[],_=>rfl
 | [],_,_,_::_,hq=>hq.elim
 |_::_,_,_,[],hq=>hq.elim
 |o::os,j,T,d::ds,hq=>by simp [Zr5 hq.2]
theorem Zx3 {N:Nat} {h:Hp Y} {i:Nat} {mks:List Nat} {j0:Nat} {rp:Res Y} {p:Value}:∀{os:List Oper} {j:Nat} {T:Fr Y} {ds:List (DR Y)},QOk E N h i mks j0 rp p os j T ds->∀(m:Nat) (o:Oper) (d:DR Y),os[m]? =some o->ds[m]? =some d->
 (j+m=j0->PanF E o (tD os ds (fun x=>Nat.blt x m) T) h i rp p)/\(j+m≠j0->bitB (nthN mks (j+m)) j0=false->d.r.n=0/\d.r.mods= []/\Z0 E o (tD os ds (fun x=>Nat.blt x m) T) h i d.r/\∀x,o.dst=some x->x<N)
 | [],_,_,[],_,m,o,d,h1,_=>by simp at h1
 | [],_,_,_::_,hq,_,_,_,_,_=>hq.elim
 |_::_,_,_,[],hq,_,_,_,_,_=>hq.elim
 |o0::os,j,T,d0::ds,hq,m,o,d,h1,h2=>by
  cases m with
  |zero=>
   simp at h1 h2
   subst h1;subst h2
   have e:tD (o0::os) (d0::ds) (fun x=>Nat.blt x 0) T=T:=by
    have:(fun x=>Nat.blt x 0)=fun _=>false:=by
     funext x
     rw [<-Bool.not_eq_true,Nat.blt_eq];omega
    rw [this,Zbd]
   rw [e]
   exact hq.1
  |succ m=>
   have:=Zx3 hq.2 m o d (by simpa using h1) (by simpa using h2)
   have e:tD (o0::os) (d0::ds) (fun x=>Nat.blt x (m+1)) T=tD os ds (fun x=>Nat.blt x m) (updO T o0.dst d0.r.v):=by
    simp only [tD]
    have e0:Nat.blt 0 (m+1)=true:=by rw [Nat.blt_eq];omega
    have e1:(fun x=>Nat.blt (x+1) (m+1))=fun x=>Nat.blt x m:=by
     funext x
     cases hb:Nat.blt x m with
     |true=>rw [Nat.blt_eq] at hb⊢;omega
     |false=>rw [<-Bool.not_eq_true,Nat.blt_eq] at hb⊢;omega
    rw [e0,e1];rfl
   rw [e,show j+(m+1)=j+1+m by omega]
   exact this
theorem Zx4:∀{all:List Oper},noG all=true->∀o∈all,o.guard=none
 | [],_,o,ho=>by cases ho
 |x::r,h,o,ho=>by
  simp only [noG,Bool.and_eq_true] at h
  rcases List.mem_cons.1 ho with rfl|ho
  · simpa using h.1
  · exact Zx4 h.2 o ho
theorem Zr6 (hmix:E.P.follows .mixedOrders=true) {os:List Oper} {T:Fr Y} {h:Hp Y} {i N j0:Nat} {ms:List Nat} {ds:List (DR Y)} {rp:Res Y} {p:Value} (hok:Zcc os (Y5 os []) os 0=true) (hG:noG os=true) (hj0:j0<os.length)
 (hD:DomLt h i) (hp:QOk E N h i (Y5 os []) j0 rp p os 0 T ds) (id:Nat)
 (B:Nat) (σ:Pl) (g:GH) (w:World) (a:Act) (Q:Exit->Act->World->Prop) (hI:Inv E B σ h g w) (hB:B<=w.heap.size) (hfree:∀b,i<=b->b<i+rp.n->σ b=none) (hF:FrOk E σ g T a) (hN:a.tmps.size=N)
 (hQ:∀a' w',Aft E B N i (i+rp.n) (rp.mods++ms) σ g w a.defers (Vo (Ys os) T) (patch h i rp) a' w'->Q (.panic [{v:=p,recovered:=false}]) a' w'):(Code.region id os.toArray true).wp E.P Q a w:=by
 classical
 have hlen:=Zr5 hp
 have hget:∀m o,os[m]? =some o->∃d,ds[m]? =some d:=fun m o hm=>⟨ds[m]'(by rw [<-hlen];exact (gA9.1 hm).1),gB9 _⟩
 have hw_lt:∀m o,os[m]? =some o->∀k∈Yg o,k<m:=fun m o hm k hk=>by
  have:=(Vv hok hm).1
  rw [Nat.zero_add] at this
  exact Zgq this k hk
 have anc:∀(D:Nat->Bool),(∀m o,os[m]? =some o->D m=true->∀k∈Yg o,D k=true)->∀m o,os[m]? =some o->(∀k∈Yg o,D k=true)->∀k,bitB (nthN (Y5 os []) m) k=true->D k=true:=by
  intro D hcl m
  induction m using Nat.strongRecOn with
  |_ m ih=>
   intro o hm hwt k hb
   obtain ⟨pre,h1,h2⟩:=Zna os [] m o hm
   simp only [List.length_nil,Nat.zero_add] at h1 h2
   rw [h1] at hb
   obtain ⟨j,hj,hb⟩:=Zbu hb
   have hjm:=hw_lt m o hm j hj
   rcases hb with rfl|hb
   · exact hwt j hj
   · rw [h2 j hjm] at hb
     have hjl:j<os.length:=by have:=(gA9.1 hm).1;omega
     exact ih j hjm os[j] (gB9 hjl) (hcl j _ (gB9 hjl) (hwt j hj)) k hb
 have pairS:∀m m' o o',m<m'->os[m]? =some o->os[m']? =some o'->bitB (nthN (Y5 os []) m') m=true\/Zfl os o o'=true:=by
  intro m m' o o' hlt' hm hm'
  have:=(Vv hok hm').2
  rw [Nat.zero_add] at this
  have:=Zac (k:=m) (a:=o) this (by rw [List.getElem?_take,if_pos hlt'];exact hm)
  rwa [Nat.zero_add] at this
 have key:∀(m:Nat) (listed:Array Bool) (a1:Act) (w1:World),listed.size=os.length->cntF listed os.length=m->listed.getD j0 false=false->
  (∀k o,os[k]? =some o->listed.getD k false=true->∀x∈Yg o,listed.getD x false=true)->a1.defers=a.defers->a1.tmps.size=N->
  (∃σ1 g1,Stp i 0 [] σ g w σ1 g1 w1/\Inv E B σ1 h g1 w1/\FrOk E σ1 g1 (tD os ds (fun x=>listed.getD x false) T) a1)->
  wpAny E.P .any os.toArray Q m listed a1 w1:=by
  intro m
  induction m with
  |zero=>
   intro listed a1 w1 hsz hc hl0 hcl hdf hN1 _
   exfalso
   have hall:=Zjd hc j0 hj0
   rw [Array.getD_eq_getD_getElem?,Array.getElem?_eq_getElem (by omega)] at hall hl0
   rw [Option.getD_some] at hall hl0
   rw [hall] at hl0;cases hl0
  |succ m ih=>
   intro listed a1 w1 hsz hc hl0 hcl hdf hN1 ⟨σ1,g1,hS,hI1,hF1⟩
   have hge:∀j,j<os.length->listed.getD j false=listed.getD j true:=by
    intro j hj
    rw [Array.getD_eq_getD_getElem?,Array.getD_eq_getD_getElem?,Array.getElem?_eq_getElem (by omega)]
    rfl
   obtain ⟨j1,hj1,hf1,hbef⟩:=Zje hc
   have hr0:j1∈Region.ready .any os.toArray listed:=by
    refine List.mem_filter.2 ⟨List.mem_range.2 (by simpa using hj1),?_⟩
    rw [hf1]
    rw [show (os.toArray[j1]?)=some os[j1] by simp [hj1]]
    simp only [Option.map_some,Option.getD_some,Bool.not_false,Bool.true_and,Array.all_eq_true,Bool.or_eq_true,Bool.not_eq_true']
    intro e he
    by_cases hbd:Region.binds .any os[j1].after[e]=true
    · right
      have hmem:os[j1].after[e].on∈Yg os[j1]:=by
       unfold Yg
       exact List.mem_map.2 ⟨os[j1].after[e],List.mem_filter.2 ⟨by simp,hbd⟩,rfl⟩
      have:=hw_lt j1 _ (gB9 hj1) _ hmem
      rw [hge _ (by omega)]
      exact hbef _ this
    · left;simpa using hbd
   refine ⟨fun e=>absurd hr0 (by rw [e];simp),fun j hj=> ?_⟩
   obtain ⟨hj1,hj2⟩:=List.mem_filter.1 hj
   have hjl:j<os.length:=by simpa using List.mem_range.1 hj1
   rw [show (os.toArray[j]?)=some os[j] by simp [hjl]] at hj2
   simp only [Option.map_some,Option.getD_some,Bool.and_eq_true,Bool.not_eq_true',Array.all_eq_true,Bool.or_eq_true] at hj2
   obtain ⟨hjf,hje⟩:=hj2
   have hoj:os[j]? =some os[j]:=gB9 hjl
   generalize ho:os[j]=o at hoj hje
   obtain ⟨d,hdj⟩:=hget j o hoj
   have hjD:listed.getD j false=false:=by rw [hge j hjl];exact hjf
   have hwt:∀k∈Yg o,listed.getD k false=true:=by
    intro k hk
    unfold Yg at hk
    obtain ⟨e,he,rfl⟩:=List.mem_map.1 hk
    obtain ⟨he1,he2⟩:=List.mem_filter.1 he
    obtain ⟨x,hx,rfl⟩:=List.getElem_of_mem he1
    have hx':x<o.after.size:=by simpa using hx
    rcases hje x hx' with c|c
    · rw [show o.after[x]=o.after.toList[x] by simp] at c;rw [c] at he2;cases he2
    · simpa using c
   have before:∀k,bitB (nthN (Y5 os []) j) k=true->listed.getD k false=true:=fun k hk=>anc _ hcl j o hoj hwt k hk
   have behind:∀k o',os[k]? =some o'->bitB (nthN (Y5 os []) k) j=true->listed.getD k false=false:=by
    intro k o' hk hb
    cases hq:listed.getD k false with
    |false=>rfl
    |true=>
     have:=anc _ hcl k o' hk (hcl k o' hk hq) j hb
     rw [hjD] at this;cases this
   have hnd:bitB (nthN (Y5 os []) j) j0=false:=by
    cases hb:bitB (nthN (Y5 os []) j) j0 with
    |false=>rfl
    |true=>have:=before j0 hb;rw [hl0] at this;cases this
   obtain ⟨hpan,hqu⟩:=Zx3 hp j o d hoj hdj
   rw [Nat.zero_add] at hpan hqu
   have hslot:∀t∈Wd os o,tD os ds (fun x=>listed.getD x false) T t=tD os ds (fun x=>Nat.blt x j) T t:=by
    intro t ht
    refine Zbc os ds _ _ T T t (fun k o' hk hkt=> ?_) rfl
    rcases Nat.lt_trichotomy k j with hkj|rfl|hkj
    · rw [show Nat.blt k j=true by rw [Nat.blt,Nat.ble_eq];exact hkj]
      rcases pairS k j o' o hkj hk hoj with c|c
      · exact before k c
      · exact absurd ht ((Vb c).1 t hkt)
    · rw [hjD];symm;rw [<-Bool.not_eq_true,Nat.blt,Nat.ble_eq];omega
    · rw [show Nat.blt k j=false by rw [<-Bool.not_eq_true,Nat.blt,Nat.ble_eq];omega]
      rcases pairS j k o o' hkj hoj hk with c|c
      · exact behind k o' hk c
      · exact absurd ht ((Vb c).2.1 t hkt)
   have hset:∀x,(listed.setIfInBounds j true).getD x false=if x=j then true else listed.getD x false:=by
    intro x
    simp only [Array.getD_eq_getD_getElem?,Array.getElem?_setIfInBounds]
    by_cases c:j=x
    · subst c;simp [hsz,hjl]
    · rw [if_neg c,if_neg (fun h'=>c h'.symm)]
   have hsetf:(fun x=>(listed.setIfInBounds j true).getD x false)=fun x=>if x=j then true else listed.getD x false:=funext hset
   have htD:tD os ds (fun x=>(listed.setIfInBounds j true).getD x false) T=updO (tD os ds (fun x=>listed.getD x false) T) o.dst d.r.v:=by
    funext t
    rw [hsetf]
    refine Zyd t os ds _ T j o d hoj hdj hjD fun hw k o' hjk hk hw'=> ?_
    rcases pairS j k o o' hjk hoj hk with c|c
    · exact behind k o' hk c
    · exact absurd hw' ((Vb c).2.2 t hw)
   have hx:∀x∈o.op.operands.toList,Den E σ1 g1 (ev (tD os ds (fun x=>Nat.blt x j) T) x) (a1.eval x):=by
    intro x hx
    cases x with
    |tmp t=>
     have ht:t∈Wd os o:=by
      have:=Zby hx
      unfold Wd
      split
      · exact this
      · split<;>simp [this]
     have:=hF1 t
     rw [hslot t ht] at this
     exact this
    |const v=>exact Xn E σ1 g1 v
    |global n=>exact .val _
    |func f=>exact (FrOk.ev hF1 (.func f))
   have hgn:=Zx4 hG o (List.mem_of_getElem? hoj)
   have hfree1:∀b,i<=b->b<i+rp.n->σ1 b=none:=by
    intro b h1 h2
    cases hq:σ1 b with
    |none=>rfl
    |some q=>
     rcases hS.snew b q hq with h3|h3
     · rw [hfree b h1 h2] at h3;cases h3
     · omega
   unfold wpOp
   rw [show (os.toArray[j]?)=some o by simp [hjl,ho]]
   simp only
   rw [if_pos (by unfold Region.wanted;rw [hgn])]
   left
   by_cases hjj:j=j0
   · refine hpan hjj B σ1 g1 w1 a1 _ Q hI1 (Nat.le_trans hB hS.size) hfree1 hx ?_
     rintro w' ⟨σ',g',k1,k2⟩
     refine hQ a1 w' ⟨hdf,hN1,σ',g',?_,k2,fun t=> ?_⟩
     · have:=hS.join k1 (i:=i) (n:=rp.n) (m:=rp.mods++ms) (Nat.le_refl _) (by omega) (Nat.le_refl _) (by omega) (fun b hb=>by cases hb) (fun b hb=>List.mem_append_left _ hb)
       rw [show i+rp.n-i=rp.n by omega]
       exact this
     · rw [Uv]
       split
       · exact .unk _
       · rename_i ht
         have:=(hF1 t).mono k1.sig k1.gle
         rw [Zye ht fun o' ho' d' hd'=>Zcx ho' hd'] at this
         exact this
   · obtain ⟨q1,q2,htri,hlt⟩:=hqu hjj hnd
     refine OpPost.wp (htri.2 B σ1 g1 w1 a1.eval h (fun _ _=>rfl) hI1 (Nat.le_trans hB hS.size) (fun b b1 b2=>by omega) hx) ?_
     rintro u w2 ⟨σ2,g2,hS2,hI2,hv⟩
     rw [q1,q2] at hS2
     have hpatch:patch h i d.r=h:=by
      funext b
      rw [Z6,if_neg]
      rw [q1,q2]
      rintro (e|e)
      · simp at e
      · omega
     rw [hpatch] at hI2
     refine ih _ (a1.put o.dst u) w2 (by simpa using hsz) ?_ ?_ ?_ (by rw [Wi];exact hdf) (by rw [Vi];exact hN1) ⟨σ2,g2,?_,hI2,?_⟩
     · have:=Zse listed j os.length hjl hjf
       omega
     · rw [hset,if_neg (fun e=>hjj e.symm)];exact hl0
     · intro k o' hk hkD x hx
       rw [hset] at hkD⊢
       by_cases c:k=j
       · subst c
         rw [hoj] at hk;cases hk
         have hxt:=hwt x hx
         split<;>simp [hxt]
       · rw [if_neg c] at hkD
         have hxt:=hcl k o' hk hkD x hx
         split<;>simp [hxt]
     · exact hS.join hS2 (Nat.le_refl _) (by omega) (Nat.le_refl _) (by omega) (fun b hb=>hb) (fun b hb=>hb)
     · rw [htD]
       have hF2:=hF1.mono hS2.sig hS2.gle
       cases hdst:o.dst with
       |none=>exact hF2
       |some t=>exact hF2.put (by rw [hN1];exact hlt t hdst) hv
 refine wp_region_any hmix ?_
 have hdr:Inv E B σ h g {w with drawn:=w.drawn+1}:=⟨hI.gc,hI.gm,hI.blk,hI.inj,hI.base,hI.fz,hI.fm,hI.glob⟩
 have:=key os.length (Array.replicate os.length false) a {w with drawn:=w.drawn+1} (by simp) ?_ ?_ ?_ rfl hN ⟨σ,g,?_,hdr,?_⟩
 · simpa using this
 · unfold cntF
   rw [List.filter_eq_self.2,List.length_range]
   intro j hj
   have:j<os.length:=List.mem_range.1 hj
   simp [Array.getD,this]
 · simp [Array.getD,hj0]
 · intro k o hk hkD
   exfalso
   have hk':=(gA9.1 hk).1
   simp [Array.getD,hk'] at hkD
 · exact ⟨.refl _,fun _ _ h=> .inl h,.refl _,fun _ _ _ h=> .inl h,fun _ _ h=> .inl h,fun _ _ _=>rfl,Nat.le_refl _,rfl,rfl,rfl,fun _ _ _ h k=>by rw [h] at k;cases k⟩
 · have:(fun x=>(Array.replicate os.length false).getD x false)=fun _=>false:=by
    funext x
    rw [Array.getD_eq_getD_getElem?,Array.getElem?_replicate]
    split<;>rfl
   rw [this,Zbd];exact hF
end
end
section
open Go.RowKit
section
variable {Y:Thy} {E:Eng Y} {o:Oper} {T:Fr Y} {h:Hp Y} {i:Nat} {k:Res Y->Prop}
theorem W7 {σ:Pl} {g:GH} {b off len w:Nat} {cap:Option Nat} {v:Value} (h:Den E σ g (.sl b off len w cap) v):∃r z c,v= .slice (some ⟨r,off*w,none⟩) len c/\σ b=some (r,z)/\(off+c)*w<=z/\len<=c/\c<=maxLen/\∀m,cap=some m->c=m:=by
 cases h with
 |sl h hz hl hm hc=>exact ⟨_,_,_,rfl,h,hz,hl,hm,hc⟩
theorem Xo {th' th:Y.Th} {l:List (Y.dom th')} {k:List (Y.dom th)->Prop} (hk:Zai l k):∃(e:th'=th),k (e▸l):=by
 unfold Zai at hk
 split at hk
 · rename_i e _;subst e;exact ⟨rfl,hk⟩
 · exact hk.elim
theorem Zwo {th' th:Y.Th} {l:List (Y.dom th')} {k:List (Y.dom th)->Prop} (hk:Zai l k):th'=th:=(Xo hk).1
theorem Zo7 {th:Y.Th} {l:List (Y.dom th)} {k:List (Y.dom th)->Prop} (hk:Zai l k):k l:=by
 obtain ⟨e,hk⟩:=Xo hk
 exact hk
theorem Zs1 {α:Type} {lit:Bool} {l:List α} {A B:Prop} (hk:Zya lit l A B):(l= []/\A)\/(l≠ []/\B):=by
 cases lit with
 |true=>
  cases l with
  |nil=>exact .inl ⟨rfl,hk⟩
  |cons x l=>exact .inr ⟨by simp,hk⟩
 |false=>
  by_cases e:l= []
  · exact .inl ⟨e,hk.1 e⟩
  · exact .inr ⟨e,hk.2 e⟩
theorem Yr (hE:EngOk E) {th:Y.Th}:∀{n:Nat} {cs:List (SV Y)} {l:List (Y.dom th)},Ws E th (Wq (E.w th) n cs)=some l->
 l.length=n/\∀(j:Nat) sv,(l.flatMap (E.enc th))[j]? =some sv->∃s0,cs[j]? =some s0/\∀σ g v,Den E σ g s0 v->Den E σ g sv v:=by
 intro n
 induction n with
 |zero=>intro cs l h;simp [Wq,Ws] at h;subst h;simp
 |succ n ih=>
  intro cs l h
  simp only [Wq,Ws] at h
  split at h
  · rename_i x l' hx hl'
    obtain rfl:=Option.some.inj h
    obtain ⟨h1,h2⟩:=ih hl'
    obtain ⟨d1,d2⟩:=hE.dec _ _ _ hx
    refine ⟨by simp [h1],fun j sv hj=> ?_⟩
    rw [List.flatMap_cons] at hj
    by_cases e:j<E.w th
    · rw [List.getElem?_append_left (by rw [hE.enc];exact e)] at hj
      obtain ⟨s0,hs0⟩:∃s0,(cs.take (E.w th))[j]? =some s0:=⟨_,gB9 (by omega)⟩
      refine ⟨s0,?_,fun σ g v hv=>d2 σ g j s0 sv v hs0 hj hv⟩
      rw [List.getElem?_take,if_pos e] at hs0;exact hs0
    · rw [List.getElem?_append_right (by rw [hE.enc];omega),hE.enc] at hj
      obtain ⟨s0,h3,h4⟩:=h2 _ sv hj
      refine ⟨s0,?_,h4⟩
      rw [List.getElem?_drop] at h3
      rwa [show E.w th+(j-E.w th)=j by omega] at h3
  · cases h
structure Cont (E:Eng Y) (σ:Pl) (g:GH) (w:World) (th:Y.Th) (l:List (Y.dom th)) (v:Value) (base:Option Addr) (c:Nat) (us:List Value):Prop where
 v:v= .slice base l.length c
 le:l.length<=c
 mx:c<=maxLen
 nil:base=none->c=0
 some:0<l.length->∃r o,base=Option.some ⟨r,o,none⟩
 len:us.length=l.length*E.w th
 cell:∀r o,base=Option.some ⟨r,o,none⟩->∀(j:Nat) u,us[j]? =Option.some u->w.cell? ⟨r,o+j,none⟩=Option.some u
 den:∀(j:Nat) sv u,(l.flatMap (E.enc th))[j]? =Option.some sv->us[j]? =Option.some u->Den E σ g sv u
theorem Za3 (hE:EngOk E) {th:Y.Th} {x:SV Y} {k:Bool->List (Y.dom th)->List Nat->Prop} (hk:Zlk E h th x k):
 ∃lit l rd,k lit l rd/\∀(hh:Hp Y) (σ:Pl) (g:GH) (w:World) (B:Nat) (v:Value),(∀b∈rd,hh b=h b)->Inv E B σ hh g w->Den E σ g x v->∃base c us,Cont E σ g w th l v base c us:=by
 unfold Zlk at hk
 split at hk
 · refine ⟨_,_,_,hk,fun hh σ g w B v _ hI hd=> ?_⟩
   cases hd
   exact ⟨none,0,[],{v:=rfl,le:=Nat.le_refl _,mx:=by {unfold maxLen;omega},nil:=fun _=>rfl,some:=fun h=>absurd h (by simp),len:=by simp,cell:=fun r o e=>(by cases e),den:=fun j sv u h _=>absurd h (by simp)}⟩
 · rename_i th' l full
   obtain ⟨e,hk⟩:=Xo hk
   subst e
   refine ⟨_,_,_,hk,fun hh σ g w B v _ hI hd=> ?_⟩
   obtain ⟨base,c,cv,rfl,hl,hm,hf,hn,hb,hd⟩:=Vj hd
   refine ⟨base,c,(List.range (l.length*E.w th')).map fun j=>cv (j/E.w th') (j%E.w th'),rfl,hl,hm,hn,fun hp=>let ⟨r,o,e,_⟩:=hb hp;⟨r,o,e⟩,by simp,?_,?_⟩
   · intro r o e j u hj
     rw [List.getElem?_map] at hj
     obtain ⟨j',hj',rfl⟩:=Option.map_eq_some_iff.1 hj
     obtain ⟨hlt,rfl⟩:j<l.length*E.w th'/\j=j':=by
      obtain ⟨h1,h2⟩:=gA9.1 hj'
      simp at h1 h2
      exact ⟨h1,h2⟩
     have hpos:=hE.pos th'
     have hq:j/E.w th'<l.length:=(Nat.div_lt_iff_lt_mul hpos).2 hlt
     obtain ⟨r',o',e',hcell⟩:=hb (Nat.lt_of_le_of_lt (Nat.zero_le _) hq)
     rw [e] at e';cases e'
     have:=hcell (j/E.w th') _ (gB9 hq) (j%E.w th') (by rw [hE.enc];exact Nat.mod_lt _ hpos)
     have he:o+j/E.w th'*E.w th'+j%E.w th'=o+j:=by rw [Nat.add_assoc,Nat.mul_comm,Nat.div_add_mod]
     rw [he] at this
     exact hI.gc _ _ _ this
   · intro j sv u hj hu
     obtain ⟨q,p,x,rfl,hp,hq,hs⟩:=Xk hE th' l hj
     rw [List.getElem?_map] at hu
     obtain ⟨j',hj',rfl⟩:=Option.map_eq_some_iff.1 hu
     obtain ⟨hlt,rfl⟩:q*E.w th'+p<l.length*E.w th'/\q*E.w th'+p=j':=by
      obtain ⟨h1,h2⟩:=gA9.1 hj'
      simp at h1 h2
      exact ⟨h1,h2⟩
     have hpos:=hE.pos th'
     have e1:(q*E.w th'+p)/E.w th'=q:=by rw [Nat.mul_comm,Nat.mul_add_div hpos,Nat.div_eq_of_lt hp,Nat.add_zero]
     have e2:(q*E.w th'+p)%E.w th'=p:=by rw [Nat.mul_comm,Nat.mul_add_mod,Nat.mod_eq_of_lt hp]
     rw [e1,e2]
     exact hd q x hq p sv hs
 · rename_i b off len w' cap
   have blk:∀(blk:Blk Y) (l:List (Y.dom th)),h b=some blk->(∀es,blk≠ .map es)->w'=E.w th->l.length=len->(∀(j:Nat) sv,(l.flatMap (E.enc th))[j]? =some sv->∃s0,(blk.cells E)[off*w'+j]? =some s0/\∀σ g v,Den E σ g s0 v->Den E σ g sv v)->
    ∀(hh:Hp Y) (σ:Pl) (g:GH) (w:World) (B:Nat) (v:Value),(∀b'∈ [b],hh b'=h b')->Inv E B σ hh g w->Den E σ g (.sl b off len w' cap) v->∃base c us,Cont E σ g w th l v base c us:=by
    intro blk l hb hm hw hl hc hh σ g w B v hrd hI hd
    obtain ⟨r,z,c,rfl,hσ,hz,hle,hmx,hcap⟩:=W7 hd
    obtain ⟨r',z',hσ',hbo⟩:=hI.blk b blk ((hrd b (by simp)).trans hb)
    rw [hσ] at hσ';cases hσ'
    obtain ⟨u,hu1,hu2⟩:=X4 hm hbo
    refine ⟨_,c,(List.range (l.length*E.w th)).map fun j=>u (off*w'+j),by rw [hl],by omega,hmx,(fun e=>by cases e),fun _=>⟨_,_,rfl⟩,by simp,?_,?_⟩
    · intro r2 o2 e j u' hj
      cases e
      rw [List.getElem?_map] at hj
      obtain ⟨j',hj',rfl⟩:=Option.map_eq_some_iff.1 hj
      obtain ⟨hlt,rfl⟩:j<l.length*E.w th/\j=j':=by
       obtain ⟨h1,h2⟩:=gA9.1 hj'
       simp at h1 h2
       exact ⟨h1,h2⟩
      obtain ⟨s0,h1,_⟩:=hc j _ (gB9 (by rw [Zz hE];exact hlt))
      exact hu1 _ (gA9.1 h1).1
    · intro j sv u' hj hu'
      rw [List.getElem?_map] at hu'
      obtain ⟨j',hj',rfl⟩:=Option.map_eq_some_iff.1 hu'
      obtain ⟨hlt,rfl⟩:j<l.length*E.w th/\j=j':=by
       obtain ⟨h1,h2⟩:=gA9.1 hj'
       simp at h1 h2
       exact ⟨h1,h2⟩
      obtain ⟨s0,h1,h2⟩:=hc j sv hj
      exact h2 _ _ _ (hu2 _ _ h1)
   split at hk
   · rename_i th' l fz hb
     split at hk
     · rename_i hw
       have hw:=gC9 hw
       obtain ⟨e,hk⟩:=Xo hk
       subst e
       obtain ⟨hle,hk⟩:=Zw hk
       have hc:∀(j:Nat) sv,(((l.drop off).take len).flatMap (E.enc th'))[j]? =some sv->∃s0,((Blk.rows th' l fz).cells E)[off*w'+j]? =some s0/\∀σ g v,Den E σ g s0 v->Den E σ g sv v:=by
        intro j sv hj
        obtain ⟨q,p,x,rfl,hp,hq,hs⟩:=Xk hE th' _ hj
        rw [List.getElem?_take] at hq
        split at hq
        · rw [List.getElem?_drop] at hq
          refine ⟨sv,?_,fun _ _ _ h=>h⟩
          simp only [Blk.cells]
          rw [hw,<-Nat.add_assoc,<-Nat.add_mul,Yu hE th' l _ x hq p hp];exact hs
        · cases hq
       have hlen:((l.drop off).take len).length=len:=by simp at hle⊢;omega
       have hk':k E.lit ((l.drop off).take len) [b]:=by
        revert hk
        cases off with
        |zero=>simp only [List.drop_zero];exact id
        |succ off=>exact id
       exact ⟨_,_,_,hk',blk (.rows th' l fz) _ hb (by intro es e;cases e) hw hlen hc⟩
     · exact hk.elim
   · rename_i cs fz tg hb
     split at hk
     · rename_i l hw hdec
       have hw:=gC9 hw
       rw [hw] at hdec
       obtain ⟨h1,h2⟩:=Yr hE hdec
       refine ⟨_,_,_,hk,blk (.raw cs fz tg) l hb (by intro es e;cases e) hw h1 fun j sv hj=> ?_⟩
       obtain ⟨s0,h3,h4⟩:=h2 j sv hj
       rw [List.getElem?_drop] at h3
       exact ⟨s0,by rw [hw];exact h3,h4⟩
     · exact hk.elim
   · exact hk.elim
 · exact hk.elim
end
end
section
open Go.RowKit
section
variable {Y:Thy} {E:Eng Y} {o:Oper} {T:Fr Y} {h:Hp Y} {i:Nat} {k:Res Y->Prop}
theorem Stp.weaken' {i n:Nat} {m m':List Nat} {σ σ1:Pl} {g g1:GH} {w w1:World} (h:Stp i n m σ g w σ1 g1 w1) (hm:∀b∈m,b∈m'):Stp i n m' σ g w σ1 g1 w1:=
 ⟨h.sig,h.snew,h.gle,fun r o v hv=>(h.gcnew r o v hv).imp id (Or.imp id fun ⟨b,h1,z,h2⟩=>⟨b,hm b h1,z,h2⟩),h.gmnew,fun r hr hx=>h.heap r hr fun b hb=>hx b (hm b hb),h.size,h.os,h.tape,h.output,fun b r z h1 h2=>(h.blk b r z h1 h2).imp id fun ⟨b',h1,z',h2⟩=>⟨b',hm b' h1,z',h2⟩⟩
theorem Znb {B:Nat} {σ:Pl} {g:GH} {w:World} {h:Hp Y} (hI:Inv E B σ h g w):Inv E B σ h g w.drew:=⟨hI.gc,hI.gm,hI.blk,hI.inj,hI.base,hI.fz,hI.fm,hI.glob⟩
theorem Znc {i n:Nat} {m:List Nat} {σ σ':Pl} {g g':GH} {w w':World} (h:Stp i n m σ g w.drew σ' g' w'):Stp i n m σ g w σ' g' w':=⟨h.sig,h.snew,h.gle,h.gcnew,h.gmnew,h.heap,h.size,h.os,h.tape,h.output,h.blk⟩
theorem Zk2 {B:Nat} {σ:Pl} {h h':Hp Y} {g:GH} {w:World} (hI:Inv E B σ h g w) (hs:∀b x,h' b=some x->h b=some x):Inv E B σ h' g w:=by
 have ne:∀b,h' b≠none->h b≠none:=fun b hb=>by
  obtain ⟨x,hx⟩:=Option.ne_none_iff_exists'.1 hb
  rw [hs b x hx];simp
 exact ⟨hI.gc,hI.gm,fun b x hx=>hI.blk b x (hs b x hx),fun b b' r z z' h1 h2=>hI.inj b b' r z z' (ne b h1) (ne b' h2),hI.base,fun b x r z o v hx=>hI.fz b x r z o v (hs b x hx),fun b x r z hx=>hI.fm b x r z (hs b x hx),hI.glob⟩
theorem Zow {B:Nat} {σ:Pl} {h:Hp Y} {g:GH} {w:World} (hI:Inv E B σ h g w) {b i r z:Nat} {x:Blk Y} (hb:h b=some x) (hσ:σ b=some (r,z)) (hi:σ i=none):Inv E B (updσ σ i (r,z)) (upd (upd h b none) i (some x)) g w:=by
 have hle:=Zfz (p:=(r,z)) hi
 have hne:b≠i:=by rintro rfl;rw [hi] at hσ;cases hσ
 have at_:∀c y,upd (upd h b none) i (some x) c=some y->(c=i/\y=x)\/(c≠i/\c≠b/\h c=some y):=by
  intro c y hc
  rw [Zh] at hc
  by_cases e:c=i
  · rw [if_pos e] at hc;exact .inl ⟨e,(Option.some.inj hc).symm⟩
  · rw [if_neg e,Zh] at hc
    by_cases e2:c=b
    · rw [if_pos e2] at hc;cases hc
    · rw [if_neg e2] at hc;exact .inr ⟨e,e2,hc⟩
 have σi:updσ σ i (r,z) i=some (r,z):=by simp [updσ]
 have σn:∀c,c≠i->updσ σ i (r,z) c=σ c:=fun c hc=>by simp [updσ,hc]
 refine ⟨hI.gc,hI.gm,?_,?_,?_,?_,?_,hI.glob⟩
 · intro c y hc
   rcases at_ c y hc with ⟨rfl,rfl⟩|⟨h1,h2,h3⟩
   · obtain ⟨r',z',q1,q2⟩:=hI.blk b y hb
     rw [hσ] at q1;cases q1
     exact ⟨r,z,σi,q2.mono hle (.refl _) rfl⟩
   · obtain ⟨r',z',q1,q2⟩:=hI.blk c y h3
     exact ⟨r',z',hle _ _ q1,q2.mono hle (.refl _) rfl⟩
 · intro c c' q z1 z2 h1 h2 s1 s2
   obtain ⟨y1,hy1⟩:=Option.ne_none_iff_exists'.1 h1
   obtain ⟨y2,hy2⟩:=Option.ne_none_iff_exists'.1 h2
   rcases at_ c y1 hy1 with ⟨rfl,_⟩|⟨a1,a2,a3⟩<;>rcases at_ c' y2 hy2 with ⟨rfl,_⟩|⟨b1,b2,b3⟩
   · rfl
   · rw [σi] at s1;cases s1;rw [σn _ b1] at s2
     exact absurd (hI.inj _ _ _ _ _ (by rw [b3];simp) (by rw [hb];simp) s2 hσ) b2
   · rw [σi] at s2;cases s2;rw [σn _ a1] at s1
     exact absurd (hI.inj _ _ _ _ _ (by rw [a3];simp) (by rw [hb];simp) s1 hσ) a2
   · rw [σn _ a1] at s1;rw [σn _ b1] at s2
     exact hI.inj _ _ _ _ _ (by rw [a3];simp) (by rw [b3];simp) s1 s2
 · intro c r' z' hc
   by_cases e:c=i
   · subst e;rw [σi] at hc;cases hc;exact hI.base _ _ _ hσ
   · rw [σn _ e] at hc;exact hI.base _ _ _ hc
 · intro c y r' z' n v hc hs hg
   rcases at_ c y hc with ⟨rfl,rfl⟩|⟨h1,h2,h3⟩
   · rw [σi] at hs;cases hs;exact hI.fz _ _ _ _ _ _ hb hσ hg
   · rw [σn _ h1] at hs;exact hI.fz _ _ _ _ _ _ h3 hs hg
 · intro c y r' z' hc hs
   rcases at_ c y hc with ⟨rfl,rfl⟩|⟨h1,h2,h3⟩
   · rw [σi] at hs;cases hs;exact hI.fm _ _ _ _ hb hσ
   · rw [σn _ h1] at hs;exact hI.fm _ _ _ _ h3 hs
theorem Ziu (hE:EngOk E) (th:Y.Th) (l:List (Y.dom th)) {j:Nat} {sv:SV Y} (h:(l.flatMap (E.enc th))[j]? =some sv):leaf sv=true:=by
 obtain ⟨q,p,x,_,_,_,hs⟩:=Xk hE th l h
 exact W5 (hE.leaf th x) hs
theorem Zfe {th:Y.Th} (hE:EngOk E) {σ:Pl} {g:GH} {l1 l2:List (Y.dom th)} {us1 us2:List Value} (h1:us1.length=l1.length*E.w th) (d1:∀(j:Nat) sv u,(l1.flatMap (E.enc th))[j]? =some sv->us1[j]? =some u->Den E σ g sv u)
 (h2:us2.length=l2.length*E.w th) (d2:∀(j:Nat) sv u,(l2.flatMap (E.enc th))[j]? =some sv->us2[j]? =some u->Den E σ g sv u) {j:Nat} {sv:SV Y} (hj:((l1++l2).flatMap (E.enc th))[j]? =some sv):∃u,(us1++us2)[j]? =some u/\Den E σ g sv u:=by
 rw [List.flatMap_append] at hj
 by_cases e:j<l1.length*E.w th
 · rw [List.getElem?_append_left (by rw [Zz hE];exact e)] at hj
   rw [List.getElem?_append_left (by omega)]
   exact ⟨_,gB9 (by omega),d1 j sv _ hj (gB9 (by omega))⟩
 · rw [List.getElem?_append_right (by rw [Zz hE];omega),Zz hE] at hj
   rw [List.getElem?_append_right (by omega),h1]
   have hlt:=(gA9.1 hj).1
   rw [Zz hE] at hlt
   exact ⟨_,gB9 (by omega),d2 _ sv _ hj (gB9 (by omega))⟩
theorem Zgr {v:Value} (hs:V2 (.val v:SV Y)=true):v= .slice none 0 0:=by
 unfold V2 at hs
 split at hs<;>simp_all
theorem Zox {σ:Pl} {g:GH} {x:SV Y} {v:Value} (hs:V2 x=true) (h:Den E σ g x v):∃base n c,v= .slice base n c/\n<=c:=by
 cases x with
 |val u=>have:=Zgr hs;subst this;cases h;exact ⟨none,0,0,rfl,Nat.le_refl _⟩
 |psl th l f=>obtain ⟨base,c,cv,e,hl,_⟩:=Vj h;exact ⟨_,_,_,e,hl⟩
 |sl b off len w cap=>obtain ⟨r,z,c,e,_,_,hl,_⟩:=W7 h;exact ⟨_,_,_,e,hl⟩
 |_=>simp [V2] at hs
theorem Zdo {P:Program} {t ty el:TypeId} {info:TypeInfo} (ht:P.underlying t=some (.slice el)) (hi:P.info? el=some info) {b1 b2:Option Addr} {n1 c1 c2:Nat} (hle:n1<=c1) {w:World}:(Builtin.append_ #[t,t] ty #[.slice b1 n1 c1,.slice b2 0 c2]).run P w= .ok (.slice b1 n1 c1) w:=by
 cases b1<;>cases b2<;>simp [Builtin.append_,run_underlying ht,sizeOf,typeInfo,hi,Builtin.lenOf,Builtin.firstCells,loadCells,loadCellsFrom,storeCells,hle]
theorem Zgs (h:Hp Y) (i b:Nat) (x:Blk Y) (v:SV Y) (rd:Option (List Nat)) (hne:b≠i):patch h i ⟨v,1,[b],at1 i (some x),rd⟩=upd (upd h b none) i (some x):=by
  funext j
  rw [Z6,Zh,Zh]
  by_cases e:j=i
  · subst e
    rw [if_pos (by right;simp),if_pos rfl];simp [at1]
  · have:Nat.beq j i=false:=by rw [<-Bool.not_eq_true,Nat.beq_eq];exact e
    rw [if_neg e]
    by_cases e2:j=b
    · rw [if_pos (by left;simp [e2]),if_pos e2];simp [at1,this]
    · rw [if_neg (by rintro (h1|h1); · simp at h1;exact e2 h1
                     · simp at h1;omega),if_neg e2]
theorem Zoy (hE:EngOk E) {c:Call} (hc:c.callee= .builtin .append) (ho:o.op= .call c) {t:TypeId} {x y:Operand} (ha:c.args.toList= [x,y]) (hat:c.argTypes.toList= [t,t]) (hk:Zll E t (ev T x) (ev T y) h i k):∃r,k r/\Z0 E o T h i r:=by
 have mx:x∈o.op.operands.toList:=by
  have:x∈c.args.toList:=by rw [ha];simp
  simp [ho,Op.operands,Call.operands,hc];simpa using this
 have my:y∈o.op.operands.toList:=by
  have:y∈c.args.toList:=by rw [ha];simp
  simp [ho,Op.operands,Call.operands,hc];simpa using this
 have haa:c.args= #[x,y]:=by rw [<-Array.toArray_toList (xs:=c.args),ha]
 have hta:c.argTypes= #[t,t]:=by rw [<-Array.toArray_toList (xs:=c.argTypes),hat]
 have run:∀(w w':World) (ρ:Operand->Value) (u:Value),(Builtin.append_ #[t,t] o.type #[ρ x,ρ y]).run E.P w= .ok u w'->(execOp ρ o).run E.P w= .ok (.value u) w':=by
  intro w w' ρ u hl
  unfold execOp
  simp only [ho,resolve,hc,Sem.run_bind,Sem.run_pure,Result.andThen_ok,invoke,builtin,haa,hta]
  rw [show (#[x,y].map ρ)= #[ρ x,ρ y] by simp,hl];rfl
 unfold Zll at hk
 split at hk
 · rename_i el sz by_ z ht
   split at hk
   · rename_i ti th hel htag
     split at hk
     · exact hk.elim
     · rename_i hchk
       simp only [Bool.and_eq_true] at hchk
       obtain ⟨⟨hb0,hsf⟩,hzl⟩:=hchk
       have hb0:0<ti.bytes:=Yn hb0
       have hzl:(Yo ti.zero:SV Y).cells.length=E.w th:=gC9 hzl
       have hthof:E.thOf el=some th/\E.el th=el:=by
        unfold U0 at htag
        split at htag
        · rename_i th0 h1
          split at htag
          · rename_i h2
            cases htag
            exact ⟨h1,gC9 h2⟩
          · cases htag
        · cases htag
       have hsz:ti.size=E.w th:=hE.thOf el th ti hthof.1 hel
       have hpos:=hE.pos th
       obtain ⟨hu,_⟩:=hE.ty _ _ ht
       obtain ⟨_,info,hi1,hi2,hi3,hi4⟩:=hE.ty _ _ hel
       have hzs:ti.zero.cells.size=E.w th:=by rw [<-(Yt (E:=E) ti.zero).1];exact hzl
       obtain ⟨lit,l2,rd2,hk,hcont⟩:=Za3 hE hk
       have hmx:∀n,n*ti.bytes<=140737488355328->n<=140737488355328:=fun n hn=>Nat.le_trans (Nat.le_mul_of_pos_right n hb0) hn
       rcases Zs1 hk with ⟨hnil,hk2⟩|⟨hne,hk2⟩
       · clear hk;have hk:=hk2;clear hk2
         subst hnil
         refine ⟨_,hk,fun b hb=>by simp [Zd] at hb,?_⟩
         intro B σ g w ρ hh hrd hI hB hfree hx
         obtain ⟨b2,c2,us2,C2⟩:=hcont hh σ g w B (ρ y) (fun b hb=>hrd b hb) hI (hx y my)
         obtain ⟨b1,n1,c1,e1,hle⟩:=Zox hsf (hx x mx)
         refine Y2 (run w w ρ (ρ x) ?_) ⟨σ,g,.refl _ _ _ _,by rw [Xb];exact hI,hx x mx⟩
         rw [C2.v,e1]
         exact Zdo hu hi1 hle
       · clear hk;have hk:=hk2;clear hk2
         have hl2:0<l2.length:=List.length_pos_iff.2 hne
         have newblk:∀(l1:List (Y.dom th)) (rd:List Nat),(∀(B:Nat) (σ:Pl) (g:GH) (w:World) (ρ:Operand->Value) (hh:Hp Y),(∀b∈rd,hh b=h b)->Inv E B σ hh g w->(∀x∈o.op.operands.toList,Den E σ g (ev T x) (ρ x))->
          ∃base c us,Cont E σ g w th l1 (ρ x) base c us/\c<l1.length+l2.length)->(l1.length+l2.length)*ti.bytes<=140737488355328->
          k (fresh i (.sl i 0 (l1.length+l2.length) (E.w th) none) (.rows th (l1++l2) 0) (rd++rd2))->∃r,k r/\Z0 E o T h i r:=by
          intro l1 rd h1 hbound hk
          refine ⟨_,hk,fun b hb=>by simp [fresh] at hb,?_⟩
          intro B σ g w ρ hh hrd hI hB hfree hx
          have hrd':∀b∈rd++rd2,hh b=h b:=hrd
          obtain ⟨b1,c1,us1,C1,hlt⟩:=h1 B σ g w ρ hh (fun b hb=>hrd' b (by simp [hb])) hI hx
          obtain ⟨b2,c2,us2,C2⟩:=hcont hh σ g w B (ρ y) (fun b hb=>hrd' b (by simp [hb])) hI (hx y my)
          obtain ⟨r2,o2,hb2⟩:=C2.some hl2
          have hn:=hmx _ hbound
          have hfi:=hfree i (Nat.le_refl _) (Nat.lt_succ_self _)
          have hres:∃(cap:Nat) (rest:Array Value),(Builtin.append_ #[t,t] o.type #[ρ x,ρ y]).run E.P w= .ok (.slice (some ⟨w.heap.size,0,none⟩) (l1.length+l2.length) cap) (w.drew.alloc (.cells ((us1++us2).toArray++rest) el))/\l1.length+l2.length<=cap/\cap<=maxLen/\rest.size=(cap-(l1.length+l2.length))*E.w th:=by
           rw [C1.v,C2.v,hb2]
           cases hq:b1 with
           |none=>
            have hc1:=C1.nil hq
            have hl1:l1.length=0:=by have:=C1.le;omega
            have hus1:us1= []:=List.eq_nil_of_length_eq_zero (by rw [C1.len,hl1];simp)
            have:=run_append_nil (P:=E.P) w t o.type el info ti.zero hu hi1 hi4 ⟨r2,o2,none⟩ l2.length c2 us2 (by rw [C2.len,hi2,hsz]) (fun j u hj=>by rw [Yq];exact C2.cell r2 o2 hb2 j u hj) hl2 (by omega) (by rw [hi3];rw [hl1,Nat.zero_add] at hbound;omega)
            rw [hc1,hl1,hus1,Nat.zero_add,List.nil_append]
            refine ⟨_,_,this,grownCap_ge w _ _ _,grownCap_le_maxLen w _ _ _ (by unfold maxLen;omega),?_⟩
            rw [size_zeroCells,hzs]
           |some a1=>
            have:=run_append_grow (P:=E.P) w t o.type el info ti.zero hu hi1 hi4 a1 l1.length c1 us1 (by rw [C1.len,hi2,hsz]) (fun j u hj=>by
             have hlt1:0<l1.length:=by
              have h1:=(gA9.1 hj).1
              rw [C1.len] at h1
              rcases Nat.eq_zero_or_pos l1.length with e|e
              · rw [e] at h1;simp at h1
              · exact e
             obtain ⟨r1,o1,hb1⟩:=C1.some hlt1
             rw [hq] at hb1;cases hb1
             rw [Yq];exact C1.cell r1 o1 hq j u hj) ⟨r2,o2,none⟩ l2.length c2 us2 (by rw [C2.len,hi2,hsz]) (fun j u hj=>by rw [Yq];exact C2.cell r2 o2 hb2 j u hj) hlt (by omega) (by rw [hi3];exact growslice_fits hlt hbound)
            refine ⟨grownCap w (l1.length+l2.length) c1 el,Builtin.zeroCells ti.zero.cells (grownCap w (l1.length+l2.length) c1 el-(l1.length+l2.length)),by rw [this];simp,grownCap_ge w _ _ _,grownCap_le_maxLen w _ _ _ (by unfold maxLen;omega),?_⟩
            rw [size_zeroCells,hzs]
          obtain ⟨cap,rest,hrun,hc1,hc2,hrs⟩:=hres
          have hasz:((us1++us2).toArray++rest).size=cap*E.w th:=by
           have e1:=C1.len
           have e2:=C2.len
           simp only [Array.size_append,List.size_toArray,List.length_append,e1,e2,hrs,<-Nat.add_mul]
           congr 1;omega
          obtain ⟨q1,q2⟩:=Zc3 (i:=i) (Znb hI) (by simpa using hB) hfi (arr:=(us1++us2).toArray++rest) (e:=el) (blk:= .rows th (l1++l2) 0) (by intro es e;cases e) hthof.2.symm
           (by simp only [Blk.cells];rw [Zz hE,hasz,List.length_append];exact Nat.mul_le_mul_right _ hc1)
           (fun j sv hj=>by
            obtain ⟨u,hu,hd⟩:=Zfe hE C1.len C1.den C2.len C2.den hj
            refine ⟨u,?_,hd⟩
            rw [Array.getElem?_append_left (by simpa using (gA9.1 hu).1)]
            simpa using hu)
          refine Y2 (run w _ ρ _ hrun) ⟨_,_,Znc q2,by rw [U8];exact q1,?_⟩
          have:=Den.sl (E:=E) (g:=g) (σ:=updσ σ i (w.drew.heap.size,((us1++us2).toArray++rest).size)) (b:=i) (off:=0) (len:=l1.length+l2.length) (w:=E.w th) (c:=cap) (cap:=none) (r:=w.heap.size) (z:=((us1++us2).toArray++rest).size) (by simp [updσ]) (by rw [hasz];simp) hc1 hc2 (fun m e=>by cases e)
          show Den E _ g (.sl i 0 (l1.length+l2.length) (E.w th) none) _
          simpa using this
         split at hk
         · --nil
           rename_i hX
           obtain ⟨hp,hk⟩:=Zw hk
           refine newblk [] [] (fun B σ g w ρ hh _ hI hx=> ?_) (by simpa using hp) (by simpa using hk)
           have:=hx x mx
           rw [hX] at this
           generalize ρ x=v at this
           cases this
           exact ⟨none,0,[],{v:=rfl,le:=Nat.le_refl _,mx:=by {unfold maxLen;omega},nil:=fun _=>rfl,some:=fun h=>absurd h (by simp),len:=by simp,cell:=fun r o e=>(by cases e),den:=fun j sv u h _=>absurd h (by simp)},by simpa using hl2⟩
         · rename_i th' l1 hX
           obtain ⟨e,hk⟩:=Xo hk
           subst e
           obtain ⟨hbound,hk⟩:=Zw hk
           refine newblk l1 [] (fun B σ g w ρ hh _ hI hx=> ?_) hbound (by simpa using hk)
           have hd:=hx x mx
           rw [hX] at hd
           obtain ⟨lit',l',rd',hq,hq'⟩:=Za3 (E:=E) hE (h:=h) (th:=th') (x:= .psl th' l1 true) (k:=fun lit l rd=>l=l1/\rd= []) (by
            unfold Zlk Zai
            simp only
            split
            · simp
            · rename_i hn _;exact hn rfl)
           obtain ⟨rfl,rfl⟩:=hq
           obtain ⟨base,c,us,C⟩:=hq' hh σ g w B (ρ x) (by simp) hI hd
           obtain ⟨base',c',cv,e1,_,_,hf,_⟩:=Vj hd
           have e2:=C.v
           rw [e1] at e2;cases e2
           exact ⟨_,_,us,C,by have:=hf rfl;omega⟩
         · rename_i b off len w' c0 hX
           obtain ⟨lit1,l1,rd1,hk,hc1⟩:=Za3 hE hk
           obtain ⟨⟨hlt,hbound⟩,hk⟩:=Zw hk
           refine newblk l1 rd1 (fun B σ g w ρ hh hrd hI hx=> ?_) hbound hk
           have hd:=hx x mx
           rw [hX] at hd
           obtain ⟨base,c,us,C⟩:=hc1 hh σ g w B (ρ x) hrd hI hd
           obtain ⟨r,z,c',e1,_,_,_,_,hcap⟩:=W7 hd
           have e2:=C.v
           rw [e1] at e2;cases e2
           exact ⟨_,_,us,C,by have:=hcap c0 rfl;omega⟩
         · rename_i b len w' hX
           split at hk
           · rename_i th' l fz hb
             split at hk
             · rename_i hw
               obtain rfl:w'=E.w th:=gC9 hw
               have e:=Zwo hk
               subst e
               obtain ⟨⟨hle,hfz,hbound⟩,hk⟩:=Zw (Zo7 hk)
               refine ⟨_,Znh hk,fun b' hb'=>by (simp at hb';subst hb';rw [hb];simp),?_⟩
               intro B σ g w ρ hh hrd hI hB hfree hx
               have hrd':∀b'∈b::rd2,hh b'=h b':=hrd
               have hb':=(hrd' b (by simp)).trans hb
               obtain ⟨b2,c2,us2,C2⟩:=hcont hh σ g w B (ρ y) (fun b' hb'=>hrd' b' (by simp [hb'])) hI (hx y my)
               obtain ⟨r2,o2,hb2⟩:=C2.some hl2
               have hd:=hx x mx
               rw [hX] at hd
               obtain ⟨r,z',c1,e1,hσ,hz,hlc,hmx1,_⟩:=W7 hd
               rw [Nat.zero_add] at hz
               rw [Nat.zero_mul] at e1
               obtain ⟨r',z'',hσ',hbo⟩:=hI.blk b _ hb'
               rw [hσ] at hσ';cases hσ'
               obtain ⟨arr,e,ha,hasz,hcl,hcd,hele⟩:=(BlkOk.cells_iff (by intro es e;cases e)).1 hbo
               have hele':e=E.el th':=hele
               rw [hele',hthof.2] at ha
               simp only [Blk.cells] at hcl hcd
               rw [Zz hE] at hcl
               have hfi:=hfree i (Nat.le_refl _) (Nat.lt_succ_self _)
               have hne:b≠i:=by rintro rfl;rw [hfi] at hσ;cases hσ
               have hn:=hmx _ hbound
               have e2:=C2.len
               have hlw:len*E.w th'<=arr.size:=by
                have:=Nat.mul_le_mul_right (E.w th') hlc
                omega
               have hone:∀u∈us2,u.oneCell'=true:=by
                intro u hu
                obtain ⟨j,hj,rfl⟩:=List.getElem_of_mem hu
                have hj':j<(l2.flatMap (E.enc th')).length:=by rw [Zz hE];omega
                exact Vf (Ziu hE th' l2 (gB9 hj')) (C2.den j _ _ (gB9 hj') (gB9 hj))
               have hus1:(arr.toList.take (len*E.w th')).length=(l.take len).length*E.w th':=by
                rw [List.length_take,List.length_take,Nat.min_eq_left (by simpa using hlw),Nat.min_eq_left hle]
               have hd1:∀(j:Nat) sv u,((l.take len).flatMap (E.enc th'))[j]? =some sv->(arr.toList.take (len*E.w th'))[j]? =some u->Den E σ g sv u:=by
                intro j sv u h1 h2
                obtain ⟨q,p,y',rfl,hp,hq,hs⟩:=Xk hE th' _ h1
                rw [List.getElem?_take] at hq h2
                split at hq
                · split at h2
                  · obtain ⟨u',hu',hd'⟩:=hcd (q*E.w th'+p) sv (by rw [Yu hE th' l q y' hq p hp];exact hs)
                    rw [show arr.toList[q*E.w th'+p]? =arr[q*E.w th'+p]? by simp,hu'] at h2
                    cases h2;exact hd'
                  · cases h2
                · cases hq
               have hll:(l.take len).length=len:=by simp;omega
               have hden:∀(j:Nat) sv,(((l.take len)++l2).flatMap (E.enc th'))[j]? =some sv->∃u,(arr.toList.take (len*E.w th')++us2)[j]? =some u/\Den E σ g sv u:=fun j sv hj=>Zfe hE hus1 hd1 C2.len C2.den hj
               rw [Zgs _ _ _ _ _ _ hne]
               by_cases hroom:len+l2.length<=c1
               · have hfit:len*info.size+us2.length<=arr.size:=by
                  rw [hi2,hsz,e2,<-Nat.add_mul]
                  have:=Nat.mul_le_mul_right (E.w th') hroom
                  omega
                 have hrun:=run_append_room (P:=E.P) w t o.type el info hu hi1 r len c1 arr ha ⟨r2,o2,none⟩ l2.length c2 us2 (by rw [e2,hi2,hsz]) (fun j u hj=>by rw [Yq];exact C2.cell r2 o2 hb2 j u hj) hone hroom hfit
                 rw [hi2,hsz] at hrun hfit
                 have hsp:=Yz arr.toList us2 (len*E.w th') (by simpa using hfit)
                 obtain ⟨q1,q2⟩:=Zbr (i:=i) hI (blk':= .rows th' (l.take len++l2) fz) hb' hσ (arr':=(arr.toList.take (len*E.w th')++us2++arr.toList.drop (len*E.w th'+us2.length)).toArray) ha (by simp;omega) hasz hthof.2.symm (by intro es e;cases e) rfl
                  (fun n hn'=>by
                   simp only [Blk.fzc] at hn'
                   have:=Nat.mul_le_mul_right (E.w th') hfz
                   rw [List.getElem?_toArray,hsp,if_pos (by omega)];simp)
                  (by simp only [Blk.cells];rw [Zz hE,List.length_append,hll];have:=Nat.mul_le_mul_right (E.w th') hroom;omega)
                  (fun j sv hj=>by
                   obtain ⟨u,hu',hd'⟩:=hden j sv hj
                   refine ⟨u,?_,hd'⟩
                   rw [List.getElem?_toArray,List.getElem?_append_left (gA9.1 hu').1];exact hu')
                 have q3:=Zow (b:=b) (i:=i) q1 (by rw [Zh,if_pos rfl]) hσ hfi
                 have eh:upd (upd (upd hh b (some (.rows th' (l.take len++l2) fz))) b none) i (some (.rows th' (l.take len++l2) fz))=upd (upd hh b none) i (some (.rows th' (l.take len++l2) fz)):=by
                  funext j
                  simp only [Zh]
                  by_cases c1:j=i<;>by_cases c2:j=b<;>simp [c1,c2]
                 rw [eh] at q3
                 refine Y2 (run w _ ρ _ (by rw [C2.v,e1,hb2];exact hrun)) ⟨_,g,⟨Zfz hfi,?_,q2.gle,q2.gcnew,q2.gmnew,q2.heap,q2.size,q2.os,q2.tape,q2.output,?_⟩,q3,?_⟩
                 · intro b' p hb'
                   unfold updσ at hb'
                   by_cases c:b'=i
                   · right;simp [c]
                   · rw [if_neg c] at hb';exact .inl hb'
                 · intro b' r' z2 h1 h2
                   unfold updσ at h2
                   by_cases c:b'=i
                   · rw [if_pos c] at h2;cases h2;exact .inr ⟨b,by simp,_,hσ⟩
                   · rw [if_neg c,h1] at h2;cases h2
                 · have:=Den.sl (E:=E) (g:=g) (σ:=updσ σ i (r,z')) (b:=i) (off:=0) (len:=len+l2.length) (w:=E.w th') (c:=c1) (cap:=none) (r:=r) (z:=z') (by simp [updσ]) (by simpa using hz) hroom hmx1 (fun m e=>by cases e)
                   simpa using this
               · have hlt:c1<len+l2.length:=by omega
                 have hrun:=run_append_grow (P:=E.P) w t o.type el info ti.zero hu hi1 hi4 ⟨r,0,none⟩ len c1 (arr.toList.take (len*E.w th')) (by rw [hus1,hll,hi2,hsz]) (fun j u hj=>by
                  rw [Yq,Nat.zero_add]
                  rw [List.getElem?_take] at hj
                  split at hj
                  · simp only [World.cell?,ha];simpa using hj
                  · cases hj) ⟨r2,o2,none⟩ l2.length c2 us2 (by rw [e2,hi2,hsz]) (fun j u hj=>by rw [Yq];exact C2.cell r2 o2 hb2 j u hj) hlt (by omega) (by rw [hi3];exact growslice_fits hlt hbound)
                 have hge:=grownCap_ge w (len+l2.length) c1 el
                 have hcm:=grownCap_le_maxLen w (len+l2.length) c1 el (by unfold maxLen;omega)
                 generalize hcap:grownCap w (len+l2.length) c1 el=cap at hrun hge hcm
                 have hIs:Inv E B σ (upd hh b none) g w.drew:=Znb (Zk2 hI fun b' x' hx'=>by
                  rw [Zh] at hx'
                  split at hx'
                  · cases hx'
                  · exact hx')
                 have hasz2:((arr.toList.take (len*E.w th')).toArray++us2.toArray++Builtin.zeroCells ti.zero.cells (cap-(len+l2.length))).size=cap*E.w th':=by
                  rw [hll] at hus1
                  simp only [Array.size_append,List.size_toArray,hus1,e2,size_zeroCells,hzs,<-Nat.add_mul]
                  congr 1;omega
                 obtain ⟨q1,q2⟩:=Zc3 (i:=i) hIs (by simpa using hB) hfi (arr:=(arr.toList.take (len*E.w th')).toArray++us2.toArray++Builtin.zeroCells ti.zero.cells (cap-(len+l2.length))) (e:=el) (blk:= .rows th' (l.take len++l2) fz) (by intro es e;cases e) hthof.2.symm
                  (by simp only [Blk.cells];rw [Zz hE,hasz2,List.length_append,hll];exact Nat.mul_le_mul_right _ hge)
                  (fun j sv hj=>by
                   obtain ⟨u,hu',hd'⟩:=hden j sv hj
                   refine ⟨u,?_,hd'⟩
                   rw [Array.getElem?_append_left (by have:=(gA9.1 hu').1;simpa using this)]
                   simpa using hu')
                 refine Y2 (run w _ ρ _ (by rw [C2.v,e1,hb2];exact hrun)) ⟨_,g,Znc (q2.weaken' (by simp)),q1,?_⟩
                 have:=Den.sl (E:=E) (g:=g) (σ:=updσ σ i (w.drew.heap.size,((arr.toList.take (len*E.w th')).toArray++us2.toArray++Builtin.zeroCells ti.zero.cells (cap-(len+l2.length))).size)) (b:=i) (off:=0) (len:=len+l2.length) (w:=E.w th') (c:=cap) (cap:=none) (r:=w.heap.size) (z:=((arr.toList.take (len*E.w th')).toArray++us2.toArray++Builtin.zeroCells ti.zero.cells (cap-(len+l2.length))).size) (by simp [updσ]) (by rw [hasz2];simp) hge hcm (fun m e=>by cases e)
                 simpa using this
             · exact hk.elim
           · exact hk.elim
         · exact hk.elim
   · exact hk.elim
 · exact hk.elim
end
end
section
open Go.RowKit
section
variable {Y:Thy} {E:Eng Y} {o:Oper} {T:Fr Y} {h:Hp Y} {i:Nat} {k:Res Y->Prop}
def mxP (m cap:Nat):Option (IntKind×Int)->Prop|none=>m=cap|some q=>0<=q.2/\q.2<=cap/\m=q.2.toNat
def hiP (h m len cap:Nat):Option (IntKind×Int)->Option (IntKind×Int)->Prop|none,none=>h=len|some q,none=>0<=q.2/\q.2<=cap/\h=q.2.toNat|some q,some _=>0<=q.2/\q.2<=m/\h=q.2.toNat|none,some _=>False
def loP (l h:Nat):Option (IntKind×Int)->Prop|none=>l=0|some q=>0<=q.2/\q.2<=h/\l=q.2.toNat
def bnd (r:Option (Bool×IntKind×Int)):Option (IntKind×Int):=r.map fun q=>(q.2.1,q.2.2)
theorem Wj {P:Program} {b:Bool} {len cap:Nat} {lo hi mx:Option (IntKind×Int)} {l h m:Nat} (w:World)
 (hm:mxP m cap mx) (hh:hiP h m len cap hi mx) (hl:loP l h lo):
 (Instr.sliceBounds b len cap (lo.map fun x=> .int x.1 x.2) (hi.map fun x=> .int x.1 x.2) (mx.map fun x=> .int x.1 x.2)).run P w= .ok (l,h,m) w:=by
 have bound:∀(kd:IntKind) (x:Int) (y:Nat) (c:BoundsCode),0<=x->x<=y->(Instr.sliceBound (.int kd x) y c).run P w= .ok x.toNat w:=by
  intro kd x y c h1 h2
  simp only [Instr.sliceBound,asIntOf,Sem.run_bind,Sem.run_pure,Result.andThen_ok]
  rw [if_pos ⟨h1,h2⟩];rfl
 unfold Instr.sliceBounds
 cases mx with
 |none=>
  have hm:m=cap:=hm;subst hm
  cases hi with
  |none=>
   have hh:h=len:=hh;subst hh
   cases lo with
   |none=>have hl:l=0:=hl;subst hl;simp only [Option.map_none,Sem.run_bind,Sem.run_pure,Result.andThen_ok]
   |some x=>obtain ⟨h1,h2,rfl⟩:=hl;simp only [Option.map_none,Option.map_some,Sem.run_bind,Sem.run_pure,Result.andThen_ok,bound _ _ _ _ h1 h2]
  |some y=>
   obtain ⟨h3,h4,rfl⟩:=hh
   cases lo with
   |none=>have hl:l=0:=hl;subst hl;simp only [Option.map_none,Option.map_some,Sem.run_bind,Sem.run_pure,Result.andThen_ok,bound _ _ _ _ h3 h4]
   |some x=>obtain ⟨h1,h2,rfl⟩:=hl;simp only [Option.map_none,Option.map_some,Sem.run_bind,Sem.run_pure,Result.andThen_ok,bound _ _ _ _ h3 h4,bound _ _ _ _ h1 h2]
 |some z=>
  obtain ⟨h5,h6,rfl⟩:=hm
  cases hi with
  |none=>exact hh.elim
  |some y=>
   obtain ⟨h3,h4,rfl⟩:=hh
   cases lo with
   |none=>have hl:l=0:=hl;subst hl;simp only [Option.map_none,Option.map_some,Sem.run_bind,Sem.run_pure,Result.andThen_ok,bound _ _ _ _ h5 h6,bound _ _ _ _ h3 h4]
   |some x=>obtain ⟨h1,h2,rfl⟩:=hl;simp only [Option.map_some,Sem.run_bind,Sem.run_pure,Result.andThen_ok,bound _ _ _ _ h5 h6,bound _ _ _ _ h3 h4,bound _ _ _ _ h1 h2]
theorem Zr3 (hE:EngOk E) {σ:Pl} {g:GH} {th:Y.Th} {l:List (Y.dom th)} {full full':Bool} {base:Option Addr} {c:Nat} (hd:Den E σ g (.psl th l full) (.slice base l.length c)) {a b m:Nat} (hab:a<=b) (hb:b<=l.length) (hm:m<=c) (hbm:b<=m) (hf:full'=true->m=b):
 Den E σ g (.psl th ((l.take b).drop a) full') (.slice (if m=a then base else base.map (·.add (a*E.w th))) (b-a) (m-a)):=by
 obtain ⟨base',c',cv,e,h1,h2,h3,h4,h5,h6⟩:=Vj hd
 cases e
 have hlen:((l.take b).drop a).length=b-a:=by simp;omega
 have hget:∀q x,((l.take b).drop a)[q]? =some x->l[a+q]? =some x:=by
  intro q x hq
  rw [List.getElem?_drop,List.getElem?_take] at hq
  split at hq
  · exact hq
  · cases hq
 rw [<-hlen]
 refine .psl (fun q j=>cv (a+q) j) (by omega) (by omega) (fun hq=>by have:=hf hq;omega) ?_ ?_ (fun q x hq j sv hs=>h6 _ x (hget q x hq) j sv hs)
 · intro hn
   by_cases e:m=a
   · omega
   · rw [if_neg e] at hn
     cases base with
     |none=>have:=h4 rfl;omega
     |some ad=>simp at hn
 · intro hp
   have e:¬m=a:=by omega
   obtain ⟨r,o,rfl,hc⟩:=h5 (by omega)
   rw [if_neg e]
   refine ⟨r,o+a*E.w th,by simp [Yq],fun q x hq j hj=> ?_⟩
   have:=hc _ x (hget q x hq) j hj
   rw [Nat.add_mul] at this
   rw [show o+a*E.w th+q*E.w th+j=o+(a*E.w th+q*E.w th)+j by omega];exact this
theorem Zr4 (hE:EngOk E) {t:TypeId} {x:Operand} {lo hi mx:Option Operand} (ho:o.op= .slice t x lo hi mx) (hk:Zte E t (ev T x) (lo.map (ev T)) (hi.map (ev T)) (mx.map (ev T)) h k):∃r,k r/\Z0 E o T h i r:=by
 have m0:x∈o.op.operands.toList:=by simp [ho,Op.operands]
 have m1:∀y,lo=some y->y∈o.op.operands.toList:=by rintro y rfl;simp [ho,Op.operands]
 have m2:∀y,hi=some y->y∈o.op.operands.toList:=by rintro y rfl;simp [ho,Op.operands]
 have m3:∀y,mx=some y->y∈o.op.operands.toList:=by rintro y rfl;simp [ho,Op.operands]
 have rd:∀(σ:Pl) (g:GH) (ρ:Operand->Value),(∀x∈o.op.operands.toList,Den E σ g (ev T x) (ρ x))->∀(z:Option Operand) (r:Option (Bool×IntKind×Int)),(∀y,z=some y->y∈o.op.operands.toList)->z.map (ev T)=r.map (fun q=> .int q.1 q.2.1 q.2.2)->
  z.map ρ=(bnd r).map fun q=> .int q.1 q.2:=by
  intro σ g ρ hx z r hz he
  cases z with
  |none=>cases r with
   |none=>rfl
   |some q=>simp at he
  |some y=>cases r with
   |none=>simp at he
   |some q=>
    have:=hx y (hz y rfl)
    simp only [Option.map_some,Option.some.injEq] at he
    rw [he] at this
    generalize hv:ρ y=v at this
    cases this
    simp [hv,bnd]
 have runS:∀(w:World) (ρ:Operand->Value) (el:TypeId) (sz by_:Nat) (z:Value) (base:Option Addr) (len cap:Nat) (a b m:Nat),E.ty t=some ⟨.slice el,sz,by_,z⟩->(∃ti,E.ty el=some ti)->ρ x= .slice base len cap->
  (Instr.sliceBounds true len cap (lo.map ρ) (hi.map ρ) (mx.map ρ)).run E.P w= .ok (a,b,m) w->(execOp ρ o).run E.P w= .ok (.value (.slice (if m=a then base else base.map (·.add (a*((E.ty el).map (·.size)).getD 0))) (b-a) (m-a))) w:=by
  intro w ρ el sz by_ z base len cap a b m ht ⟨ti,hti⟩ hv hb
  unfold execOp
  simp only [ho,Instr.sliceAt,Sem.run_bind,Zx hE ht,Result.andThen_ok,Instr.slice,hv,hb,Zy hE hti,Sem.run_pure,hti,Option.map_some,Option.getD_some]
 have some_of:∀(z:Option Operand) (l:Bool) (kd:IntKind) (n:Int),z.map (ev T)=some (.int l kd n)->z.map (ev T)=(some (l,kd,n):Option (Bool×IntKind×Int)).map (fun q=> .int q.1 q.2.1 q.2.2):=fun z l kd n h=>h
 have none_of:∀(z:Option Operand),z.map (ev T)=none->z.map (ev T)=(none:Option (Bool×IntKind×Int)).map (fun q=> .int q.1 q.2.1 q.2.2):=fun z h=>h
 unfold Zte at hk
 split at hk
 · rename_i el sz by_ z th l full ht hX
   split at hk
   · rename_i ti hel
     have fin:∀(rl rh rm:Option (Bool×IntKind×Int)) (a b:Nat) (full':Bool),ti.size=E.w th->lo.map (ev T)=rl.map (fun q=> .int q.1 q.2.1 q.2.2)->hi.map (ev T)=rh.map (fun q=> .int q.1 q.2.1 q.2.2)->mx.map (ev T)=rm.map (fun q=> .int q.1 q.2.1 q.2.2)->a<=b->b<=l.length->
      (∀c,l.length<=c->(full=true->c=l.length)->∃m,m<=c/\b<=m/\(full'=true->m=b)/\mxP m c (bnd rm)/\hiP b m l.length c (bnd rh) (bnd rm)/\loP a b (bnd rl))->
      Z0 E o T h i (Zd [] (.psl th ((l.take b).drop a) full')):=by
      intro rl rh rm a b full' hw e1 e2 e3 hab hb hm
      refine Zq fun B σ g w ρ hh _ hI hx=> ?_
      have hd:=hx x m0
      rw [hX] at hd
      obtain ⟨base,c,cv,e,hl,_,hf,_⟩:=Vj hd
      obtain ⟨m,q1,q2,q3,q4,q5,q6⟩:=hm c hl hf
      rw [e] at hd
      have hbd:=Wj (P:=E.P) (b:=true) w q4 q5 q6
      rw [<-rd σ g ρ hx lo rl m1 e1,<-rd σ g ρ hx hi rh m2 e2,<-rd σ g ρ hx mx rm m3 e3] at hbd
      refine ⟨_,runS w ρ el sz by_ z base _ c a b m ht ⟨ti,hel⟩ e hbd,?_⟩
      rw [hel]
      simp only [Option.map_some,Option.getD_some,hw]
      exact Zr3 hE hd hab hb q1 q2 q3
     split at hk
     · rename_i hw h1 h2 h3
       refine ⟨_,hk,?_⟩
       have:=fin none none none 0 l.length full (gC9 hw) (none_of _ h1) (none_of _ h2) (none_of _ h3) (by omega) (by omega) (fun c hc hf=>⟨c,by omega,hc,hf,rfl,rfl,rfl⟩)
       simpa using this
     · rename_i l' kd b hw h1 h2 h3
       obtain ⟨⟨p1,p2⟩,hk⟩:=Zw hk
       refine ⟨_,hk,?_⟩
       have:=fin none (some (l',kd,b)) none 0 b.toNat false (gC9 hw) (none_of _ h1) (some_of _ _ _ _ h2) (none_of _ h3) (by omega) (by omega) (fun c hc hf=>⟨c,by omega,by omega,by simp,rfl,(by dsimp only [bnd,Option.map,hiP];omega),rfl⟩)
       simpa using this
     · rename_i l' kd a hw h1 h2 h3
       obtain ⟨⟨p1,p2⟩,hk⟩:=Zw hk
       refine ⟨_,hk,?_⟩
       have:=fin (some (l',kd,a)) none none a.toNat l.length full (gC9 hw) (some_of _ _ _ _ h1) (none_of _ h2) (none_of _ h3) (by omega) (by omega) (fun c hc hf=>⟨c,by omega,by omega,hf,rfl,rfl,(by dsimp only [bnd,Option.map,loP];omega)⟩)
       simpa using this
     · rename_i l1 k1 a l2 k2 b hw h1 h2 h3
       obtain ⟨⟨p1,p2,p3⟩,hk⟩:=Zw hk
       exact ⟨_,hk,fin (some (l1,k1,a)) (some (l2,k2,b)) none a.toNat b.toNat false (gC9 hw) (some_of _ _ _ _ h1) (some_of _ _ _ _ h2) (none_of _ h3) (by omega) (by omega) (fun c hc hf=>⟨c,by omega,by omega,by simp,rfl,(by dsimp only [bnd,Option.map,hiP];omega),(by dsimp only [bnd,Option.map,loP];omega)⟩)⟩
     · rename_i l2 k2 b l3 k3 c0 hw h1 h2 h3
       obtain ⟨⟨p1,pe,p3⟩,hk2⟩:=Zw hk
       clear hk
       subst pe
       refine ⟨_,hk2,?_⟩
       have:=fin none (some (l2,k2,b)) (some (l3,k3,b)) 0 b.toNat true (gC9 hw) (none_of _ h1) (some_of _ _ _ _ h2) (some_of _ _ _ _ h3) (by omega) (by omega) (fun c hc hf=>⟨b.toNat,by omega,by omega,fun _=>rfl,(by dsimp only [bnd,Option.map,mxP];omega),(by dsimp only [bnd,Option.map,hiP];omega),rfl⟩)
       simpa using this
     · exact hk.elim
   · exact hk.elim
 · rename_i el sz by_ z ht hX
   split at hk
   · rename_i ti hel
     have fin:∀(rl rh rm:Option (Bool×IntKind×Int)),lo.map (ev T)=rl.map (fun q=> .int q.1 q.2.1 q.2.2)->hi.map (ev T)=rh.map (fun q=> .int q.1 q.2.1 q.2.2)->mx.map (ev T)=rm.map (fun q=> .int q.1 q.2.1 q.2.2)->
      mxP 0 0 (bnd rm)->hiP 0 0 0 0 (bnd rh) (bnd rm)->loP 0 0 (bnd rl)->Z0 E o T h i (Zd [] (.val (.slice none 0 0))):=by
      intro rl rh rm e1 e2 e3 z1 z2 z3
      refine Zq fun B σ g w ρ hh _ hI hx=> ?_
      have hd:=hx x m0
      rw [hX] at hd
      generalize hv:ρ x=v at hd
      cases hd
      have hbd:=Wj (P:=E.P) (b:=true) (len:=0) (cap:=0) w z1 z2 z3
      rw [<-rd σ g ρ hx lo rl m1 e1,<-rd σ g ρ hx hi rh m2 e2,<-rd σ g ρ hx mx rm m3 e3] at hbd
      exact ⟨_,runS w ρ el sz by_ z none 0 0 0 0 0 ht ⟨ti,hel⟩ hv hbd,by simpa using Den.val _⟩
     split at hk
     · rename_i h1 h2 h3
       exact ⟨_,hk,fin none none none (none_of _ h1) (none_of _ h2) (none_of _ h3) rfl rfl rfl⟩
     · rename_i l kd a h1 h2 h3
       obtain ⟨p,hk⟩:=Zw hk
       exact ⟨_,hk,fin (some (l,kd,a)) none none (some_of _ _ _ _ h1) (none_of _ h2) (none_of _ h3) rfl rfl (by dsimp only [bnd,Option.map,loP];omega)⟩
     · rename_i l kd a h1 h2 h3
       obtain ⟨p,hk⟩:=Zw hk
       exact ⟨_,hk,fin none (some (l,kd,a)) none (none_of _ h1) (some_of _ _ _ _ h2) (none_of _ h3) rfl (by dsimp only [bnd,Option.map,hiP];omega) rfl⟩
     · rename_i l kd a l' kd' c h1 h2 h3
       obtain ⟨p,hk⟩:=Zw hk
       exact ⟨_,hk,fin none (some (l,kd,a)) (some (l',kd',c)) (none_of _ h1) (some_of _ _ _ _ h2) (some_of _ _ _ _ h3) (by dsimp only [bnd,Option.map,mxP];omega) (by dsimp only [bnd,Option.map,hiP];omega) rfl⟩
     · exact hk.elim
   · exact hk.elim
 · rename_i el sz by_ z b off len w' cap ht hX
   split at hk
   · rename_i ti hel
     have fin:∀(rl rh rm:Option (Bool×IntKind×Int)) (a n:Nat) (v:SV Y),ti.size=w'->lo.map (ev T)=rl.map (fun q=> .int q.1 q.2.1 q.2.2)->hi.map (ev T)=rh.map (fun q=> .int q.1 q.2.1 q.2.2)->mx.map (ev T)=rm.map (fun q=> .int q.1 q.2.1 q.2.2)->a<=n->
      (∀c,len<=c->c<=maxLen->(∀q,cap=some q->c=q)->∃m,mxP m c (bnd rm)/\hiP n m len c (bnd rh) (bnd rm)/\loP a n (bnd rl)/\n<=m/\m<=c/\
       ∀σ g r z',σ b=some (r,z')->(off+c)*w'<=z'->Den E σ g v (.slice (some (if m=a then ⟨r,off*w',none⟩ else ⟨r,(off+a)*w',none⟩)) (n-a) (m-a)))->Z0 E o T h i (Zd [] v):=by
      intro rl rh rm a n v hw e1 e2 e3 hn hm
      refine Zq fun B σ g w ρ hh _ hI hx=> ?_
      have hd:=hx x m0
      rw [hX] at hd
      obtain ⟨r,z',c,hv,hσ,hz,hl,hmx,hc⟩:=W7 hd
      obtain ⟨m,q1,q2,q3,q4,q5,q6⟩:=hm c hl hmx hc
      have hbd:=Wj (P:=E.P) (b:=true) (len:=len) (cap:=c) w q1 q2 q3
      rw [<-rd σ g ρ hx lo rl m1 e1,<-rd σ g ρ hx hi rh m2 e2,<-rd σ g ρ hx mx rm m3 e3] at hbd
      refine ⟨_,runS w ρ el sz by_ z _ len c a n m ht ⟨ti,hel⟩ hv hbd,?_⟩
      have hadd:(⟨r,off*w',none⟩:Addr).add (a*((E.ty el).map (·.size)).getD 0)=⟨r,(off+a)*w',none⟩:=by rw [Yq,hel];simp [hw,Nat.add_mul]
      have:=q6 σ g r z' hσ hz
      simp only [Option.map_some,hadd]
      by_cases e:m=a
      · rw [if_pos e] at this⊢;exact this
      · rw [if_neg e] at this⊢;exact this
     have piece:∀(a n:Nat) (cap':Option Nat) (c m:Nat) (σ:Pl) (g:GH) (r z':Nat),a<=n->n<=m->m<=c->c<=maxLen->(a<m\/a=0)->(∀q,cap'=some q->m-a=q)->σ b=some (r,z')->(off+c)*w'<=z'->
      Den E σ g (.sl b (off+a) (n-a) w' cap') (.slice (some (if m=a then ⟨r,off*w',none⟩ else ⟨r,(off+a)*w',none⟩)) (n-a) (m-a)):=by
      intro a n cap' c m σ g r z' h1 h2 h3 h4 h5 h6 hσ hz
      have hz2:(off+a+(m-a))*w'<=z':=Nat.le_trans (Nat.mul_le_mul_right _ (by omega)) hz
      have:=Den.sl (E:=E) (g:=g) (b:=b) (off:=off+a) (len:=n-a) (w:=w') (c:=m-a) (cap:=cap') hσ hz2 (by omega) (by omega) (fun q hq=>h6 q hq)
      by_cases e:m=a
      · rw [if_pos e]
        rcases h5 with h5|h5
        · omega
        · subst h5;exact this
      · rw [if_neg e];exact this
     have none_:∀(th:Y.Th) (x:Addr) (d:Nat) (σ:Pl) (g:GH),d<=maxLen->Den E σ g (.psl th [] false) (.slice (some x) 0 d):=by
      intro th x d σ g hd
      exact .psl (l:= []) (fun _ _=>undef) (Nat.zero_le _) hd (by simp) (by simp) (by simp) (by simp)
     split at hk
     · rename_i hw h1 h2 h3
       have hw:=gC9 hw
       exact ⟨_,hk,fin none none none 0 len _ hw (none_of _ h1) (none_of _ h2) (none_of _ h3) (Nat.zero_le _) (fun c hl hm hc=>⟨c,rfl,rfl,rfl,hl,Nat.le_refl _,fun σ g r z' hσ hz=>by simpa using piece 0 len cap c c σ g r z' (by omega) hl (Nat.le_refl _) hm (.inr rfl) (fun q hq=>by have:=hc q hq;omega) hσ hz⟩)⟩
     · rename_i l kd c0 hw h1 h2 h3
       have hw:=gC9 hw
       obtain ⟨p,hk⟩:=Zw hk
       exact ⟨_,hk,fin none (some (l,kd,c0)) none 0 c0.toNat _ hw (none_of _ h1) (some_of _ _ _ _ h2) (none_of _ h3) (Nat.zero_le _) (fun c hl hm hc=>⟨c,rfl,(by dsimp only [bnd,Option.map,hiP];omega),rfl,by omega,Nat.le_refl _,fun σ g r z' hσ hz=>by simpa using piece 0 c0.toNat cap c c σ g r z' (by omega) (by omega) (Nat.le_refl _) hm (.inr rfl) (fun q hq=>by have:=hc q hq;omega) hσ hz⟩)⟩
     · rename_i l kd c0 l' kd' m0' hw h1 h2 h3
       have hw:=gC9 hw
       obtain ⟨p,hk⟩:=Zw hk
       exact ⟨_,hk,fin none (some (l,kd,c0)) (some (l',kd',m0')) 0 c0.toNat _ hw (none_of _ h1) (some_of _ _ _ _ h2) (some_of _ _ _ _ h3) (Nat.zero_le _) (fun c hl hm hc=>⟨m0'.toNat,(by dsimp only [bnd,Option.map,mxP];omega),(by dsimp only [bnd,Option.map,hiP];omega),rfl,by omega,by omega,fun σ g r z' hσ hz=>by simpa using piece 0 c0.toNat (some m0'.toNat) c m0'.toNat σ g r z' (by omega) (by omega) (by omega) hm (.inr rfl) (fun q hq=>by cases hq;omega) hσ hz⟩)⟩
     · rename_i l kd a0 hw h1 h2 h3
       have hw:=gC9 hw
       obtain ⟨p,hk⟩:=Zw hk
       have hk:=Yv hk
       split at hk
       · rename_i hlt
         have hlt:=of_decide_eq_true hlt
         refine ⟨_,hk,fin (some (l,kd,a0)) none none a0.toNat len _ hw (some_of _ _ _ _ h1) (none_of _ h2) (none_of _ h3) (by omega) (fun c hl hm hc=>⟨c,rfl,rfl,(by dsimp only [bnd,Option.map,loP];omega),hl,Nat.le_refl _,fun σ g r z' hσ hz=>piece a0.toNat len _ c c σ g r z' (by omega) hl (Nat.le_refl _) hm (.inl (by omega)) (fun q hq=> ?_) hσ hz⟩)⟩
         cases cap with
         |none=>cases hq
         |some q0=>have:=hc q0 rfl;simp only [Zgz,Option.some.injEq] at hq;omega
       · rename_i th hlt htg
         have hlt:=of_decide_eq_false hlt
         have e:len=a0.toNat:=by omega
         refine ⟨_,hk,fin (some (l,kd,a0)) none none a0.toNat len _ hw (some_of _ _ _ _ h1) (none_of _ h2) (none_of _ h3) (by omega) (fun c hl hm hc=>⟨c,rfl,rfl,(by dsimp only [bnd,Option.map,loP];omega),hl,Nat.le_refl _,fun σ g r z' hσ hz=> ?_⟩)⟩
         rw [show len-a0.toNat=0 by omega]
         exact none_ th _ _ σ g (by omega)
       · exact hk.elim
     · rename_i l kd a0 l' kd' c0 hw h1 h2 h3
       have hw:=gC9 hw
       obtain ⟨p,hk⟩:=Zw hk
       have hk:=Yv hk
       split at hk
       · rename_i hlt
         have hlt:=of_decide_eq_true hlt
         refine ⟨_,hk,fin (some (l,kd,a0)) (some (l',kd',c0)) none a0.toNat c0.toNat _ hw (some_of _ _ _ _ h1) (some_of _ _ _ _ h2) (none_of _ h3) (by omega) (fun c hl hm hc=>⟨c,rfl,(by dsimp only [bnd,Option.map,hiP];omega),(by dsimp only [bnd,Option.map,loP];omega),by omega,Nat.le_refl _,fun σ g r z' hσ hz=>piece a0.toNat c0.toNat _ c c σ g r z' (by omega) (by omega) (Nat.le_refl _) hm (.inl (by omega)) (fun q hq=> ?_) hσ hz⟩)⟩
         cases cap with
         |none=>cases hq
         |some q0=>have:=hc q0 rfl;simp only [Zgz,Option.some.injEq] at hq;omega
       · rename_i th hlt htg
         have hlt:=of_decide_eq_false hlt
         refine ⟨_,hk,fin (some (l,kd,a0)) (some (l',kd',c0)) none a0.toNat c0.toNat _ hw (some_of _ _ _ _ h1) (some_of _ _ _ _ h2) (none_of _ h3) (by omega) (fun c hl hm hc=>⟨c,rfl,(by dsimp only [bnd,Option.map,hiP];omega),(by dsimp only [bnd,Option.map,loP];omega),by omega,Nat.le_refl _,fun σ g r z' hσ hz=> ?_⟩)⟩
         rw [show c0.toNat-a0.toNat=0 by omega]
         exact none_ th _ _ σ g (by omega)
       · exact hk.elim
     · exact hk.elim
   · exact hk.elim
 · rename_i sz by_ z l s ht hX
   have fin:∀(rl rh:Option (Bool×IntKind×Int)) (a b:Nat) (l':Bool),lo.map (ev T)=rl.map (fun q=> .int q.1 q.2.1 q.2.2)->hi.map (ev T)=rh.map (fun q=> .int q.1 q.2.1 q.2.2)->mx.map (ev T)=none->
    hiP b s.length s.length s.length (bnd rh) none->loP a b (bnd rl)->Z0 E o T h i (Zd [] (.str l' ((s.take b).drop a))):=by
    intro rl rh a b l' e1 e2 e3 z1 z2
    refine Zq fun B σ g w ρ hh _ hI hx=> ?_
    have hd:=hx x m0
    rw [hX] at hd
    generalize hv:ρ x=v at hd
    cases hd
    rename_i s hs
    subst hs
    rw [Zbn] at z1
    have hbd:=Wj (P:=E.P) (b:=false) (len:=s.size) (cap:=s.size) (lo:=bnd rl) (hi:=bnd rh) (mx:=none) (l:=a) (h:=b) (m:=s.size) w rfl
     z1 z2
    rw [<-rd σ g ρ hx lo rl m1 e1,<-rd σ g ρ hx hi rh m2 e2] at hbd
    have e4:mx.map ρ=none:=by cases mx with|none=>rfl|some y=>simp at e3
    refine ⟨.string (s.extract a b),?_,.str _ (Zj5 _ _ _)⟩
    unfold execOp
    simp only [ho,Instr.sliceAt,Sem.run_bind,Zx hE ht,Result.andThen_ok,Instr.slice,hv,e4,Option.isSome_none,Bool.false_eq_true,if_false]
    have hbd':(Instr.sliceBounds false s.size s.size (lo.map ρ) (hi.map ρ) none).run E.P w= .ok (a,b,s.size) w:=hbd
    simp only [Sem.run_bind,Sem.run_pure,Result.andThen_ok,hbd']
   split at hk
   · rename_i h1 h2 h3
     refine ⟨_,hk,?_⟩
     have:=fin none none 0 s.length l (none_of _ h1) (none_of _ h2) h3 rfl rfl
     rw [List.take_length,List.drop_zero] at this;exact this
   · rename_i m kd b h1 h2 h3
     obtain ⟨p,hk⟩:=Zw hk
     exact ⟨_,hk,by rw [<-List.drop_zero (l:=s.take b.toNat)];exact fin none (some (m,kd,b)) 0 b.toNat _ (none_of _ h1) (some_of _ _ _ _ h2) h3 (by dsimp only [bnd,Option.map,hiP];omega) rfl⟩
   · rename_i m kd a h1 h2 h3
     obtain ⟨p,hk⟩:=Zw hk
     exact ⟨_,hk,by conv=>{rhs;rw [<-List.take_length (l:=s)]};exact fin (some (m,kd,a)) none a.toNat s.length _ (some_of _ _ _ _ h1) (none_of _ h2) h3 rfl (by dsimp only [bnd,Option.map,loP];omega)⟩
   · rename_i m kd a m' kd' b h1 h2 h3
     obtain ⟨p,hk⟩:=Zw hk
     exact ⟨_,hk,fin (some (m,kd,a)) (some (m',kd',b)) a.toNat b.toNat _ (some_of _ _ _ _ h1) (some_of _ _ _ _ h2) h3 (by dsimp only [bnd,Option.map,hiP];omega) (by dsimp only [bnd,Option.map,loP];omega)⟩
   · exact hk.elim
 · rename_i n el sz by_ z b ht hX
   split at hk
   · rename_i f a f' c ti h3 h1 h2 hel
     have core:∀(blk:Blk Y),h b=some blk->(∀es,blk≠ .map es)->n*ti.size<=(blk.cells E).length->n<=9007199254740992->0<=a->a<=c->c<=n->(a<n\/a=0)->
      Z0 E o T h i (Zd [b] (.sl b a.toNat (c.toNat-a.toNat) ti.size (some (n-a.toNat)))):=by
      intro blk hb hnm hcl hbig q1 q2 q3 q4
      refine Zq fun B σ g w ρ hh hrd hI hx=> ?_
      have hd:=hx x m0
      rw [hX] at hd
      generalize hv:ρ x=v at hd
      cases hd
      rename_i r z' hσ
      obtain ⟨r2,z2,hσ2,hbo⟩:=hI.blk b _ ((hrd b (by simp)).trans hb)
      rw [hσ] at hσ2;cases hσ2
      obtain ⟨arr,e,ha,hasz,hcl2,_⟩:=(BlkOk.cells_iff hnm).1 hbo
      have e4:mx.map ρ=none:=by cases mx with|none=>rfl|some y=>simp at h3
      obtain ⟨rl,e5,z1⟩:∃rl:Option (Bool×IntKind×Int),lo.map (ev T)=rl.map (fun q=> .int q.1 q.2.1 q.2.2)/\loP a.toNat c.toNat (bnd rl):=by
       unfold Zws at h1
       split at h1
       · cases h1;rename_i hl;exact ⟨none,hl,rfl⟩
       · cases h1;rename_i kd hl;exact ⟨some (f,kd,a),hl,q1,by show a<=(c.toNat:Int);omega,rfl⟩
       · cases h1
      obtain ⟨rh,e6,z2⟩:∃rh:Option (Bool×IntKind×Int),hi.map (ev T)=rh.map (fun q=> .int q.1 q.2.1 q.2.2)/\hiP c.toNat n n n (bnd rh) none:=by
       unfold Zws at h2
       split at h2
       · cases h2;rename_i hl;exact ⟨none,hl,by show (n:Int).toNat=n;simp⟩
       · cases h2;rename_i kd hl;exact ⟨some (f',kd,c),hl,by show 0<=c;omega,q3,rfl⟩
       · cases h2
      have hbd:=Wj (P:=E.P) (b:=false) (len:=n) (cap:=n) (lo:=bnd rl) (hi:=bnd rh) (mx:=none) (l:=a.toNat) (h:=c.toNat) (m:=n) w rfl z2 z1
      rw [<-rd σ g ρ hx lo rl m1 e5,<-rd σ g ρ hx hi rh m2 e6] at hbd
      refine ⟨.slice (some (if n=a.toNat then ⟨r,0,none⟩ else (⟨r,0,none⟩:Addr).add (a.toNat*ti.size))) (c.toNat-a.toNat) (n-a.toNat),?_,?_⟩
      · unfold execOp
        have hbd':(Instr.sliceBounds false n n (lo.map ρ) (hi.map ρ) none).run E.P w= .ok (a.toNat,c.toNat,n) w:=hbd
        simp only [ho,Instr.sliceAt,Sem.run_bind,Zx hE ht,Result.andThen_ok,hv,Instr.sureAddr,Sem.run_pure,e4,hbd',Zy hE hel]
      · have:=Den.sl (E:=E) (g:=g) (b:=b) (off:=a.toNat) (len:=c.toNat-a.toNat) (w:=ti.size) (c:=n-a.toNat) (cap:=some (n-a.toNat)) hσ (by rw [show a.toNat+(n-a.toNat)=n by omega];omega) (by omega) (by unfold maxLen;omega) (by intro m e;cases e;rfl)
        have ea:(if n=a.toNat then (⟨r,0,none⟩:Addr) else (⟨r,0,none⟩:Addr).add (a.toNat*ti.size))=⟨r,a.toNat*ti.size,none⟩:=by
         split
         · have:a.toNat=0:=by omega
           rw [this];simp
         · simp [Yq]
        rw [ea];exact this
     split at hk
     · rename_i cs fz tg hb
       split at hk
       · rename_i hc hf
         simp only [Bool.and_eq_true,Nat.ble_eq] at hc
         have hcl:cs.length=n*ti.size:=gC9 hc.1
         obtain ⟨⟨q1,q2,q3,q4⟩,hk⟩:=Zw hk
         exact ⟨_,hk,core _ hb (by intro es e;cases e) (by show _<=cs.length;omega) hc.2 q1 q2 q3 q4⟩
       · exact hk.elim
     · rename_i th l fz hb
       split at hk
       · rename_i hc
         simp only [Bool.and_eq_true,Nat.ble_eq] at hc
         have hw:ti.size=E.w th:=gC9 hc.1
         obtain ⟨⟨q0,q1,q2,q3,q4⟩,hk⟩:=Zw hk
         exact ⟨_,hk,core _ hb (by intro es e;cases e) (by show _<=(l.flatMap (E.enc th)).length;rw [Zz hE,q0,hw];exact Nat.le_refl _) hc.2 q1 q2 q3 q4⟩
       · exact hk.elim
     · exact hk.elim
   · exact hk.elim
 · rename_i n el sz by_ z g0 ht hX
   split at hk
   · rename_i h1 h2 h3
     split at hk
     · rename_i ti sv th hel hgl htag
       split at hk
       · rename_i l hc hdec
         simp only [Bool.and_eq_true,Nat.ble_eq] at hc
         obtain ⟨hw,hbig,h0⟩:=hc
         have hw:ti.size=E.w th:=gC9 hw
         have h0:0<n:=Yn h0
         obtain ⟨hl,hcells⟩:=Yr hE hdec
         refine ⟨_,hk,Zq fun B σ g w ρ hh hrd hI hx=> ?_⟩
         have hd:=hx x m0
         rw [hX] at hd
         generalize hv:ρ x=v at hd
         cases hd
         have e4:mx.map ρ=none:=by cases mx with|none=>rfl|some y=>simp at h3
         have e5:lo.map ρ=none:=by cases lo with|none=>rfl|some y=>simp at h1
         have e6:hi.map ρ=none:=by cases hi with|none=>rfl|some y=>simp at h2
         refine ⟨.slice (some ⟨g0,0,none⟩) n n,?_,?_⟩
         · unfold execOp
           have hbd':(Instr.sliceBounds false n n none none none).run E.P w= .ok (0,n,n) w:=Wj (P:=E.P) (b:=false) (len:=n) (cap:=n) (lo:=none) (hi:=none) (mx:=none) (l:=0) (h:=n) (m:=n) w rfl rfl rfl
           simp only [ho,Instr.sliceAt,Sem.run_bind,Zx hE ht,Result.andThen_ok,hv,Instr.sureAddr,Sem.run_pure,e4,e5,e6,hbd',Zy hE hel]
           rw [if_neg (by omega)]
           simp [Yq]
         · have hgc:=hI.glob g0 sv hgl
           have key:∀i x,l[i]? =some x->∀j s,(E.enc th x)[j]? =some s->∃u,g.cell g0 (0+i*E.w th+j)=some u/\Den E σ g s u:=by
            intro i x hx j s hs
            have hj:j<E.w th:=by rw [<-hE.enc th x];exact (gA9.1 hs).1
            have hs2:=Yu hE th l i x hx j hj
            rw [hs] at hs2
            obtain ⟨s0,h4,h5⟩:=hcells _ _ hs2
            obtain ⟨u,h6,h7⟩:=hgc _ _ h4
            rw [Nat.zero_add]
            exact ⟨u,h6,h5 _ _ _ (h7.mono (fun b p e=>by cases e) (.refl _))⟩
           have:=Den.psl (E:=E) (σ:=σ) (g:=g) (th:=th) (l:=l) (full:=true) (base:=some ⟨g0,0,none⟩) (c:=n) (fun i j=>(g.cell g0 (0+i*E.w th+j)).getD undef) (by omega) (by unfold maxLen;omega) (fun _=>hl.symm) (fun e=>by cases e)
            (fun _=>⟨g0,0,rfl,fun i x hx j hj=>by
             obtain ⟨u,h6,_⟩:=key i x hx j _ (gB9 hj)
             rw [h6];rfl⟩)
            (fun i x hx j s hs=>by
             obtain ⟨u,h6,h7⟩:=key i x hx j s hs
             rw [h6];exact h7)
           rw [hl] at this
           exact this
       · exact hk.elim
     · exact hk.elim
   · exact hk.elim
 · exact hk.elim
end
end
section
open Go.RowKit
section
variable {Y:Thy} {E:Eng Y} {o:Oper} {T:Fr Y} {h:Hp Y} {i:Nat} {k:Res Y->Prop}
def Zod (ki:Bool) (d:TypeDesc):Prop:=match ki with|true=>∃q,d= .int q|false=>d= .string
theorem Zb3 (hE:EngOk E) {kt:TypeId} {ki:Bool} (hk:Zaj E kt=some ki):∃d,E.P.underlying kt=some d/\Zod ki d:=by
 unfold Zaj at hk
 split at hk
 · rename_i q _ _ _ ht;cases hk;exact ⟨_,(hE.ty _ _ ht).1,q,rfl⟩
 · rename_i _ _ _ ht;cases hk;exact ⟨_,(hE.ty _ _ ht).1,rfl⟩
 · cases hk
theorem Xx {P:Program} {ki:Bool} {d:TypeDesc} (hd:Zod ki d) (b:Bool) (n kt:Nat) (kv:Value) (w:World) (hkt:P.underlying kt=some d):(Instr.checkKey b (n+1) kt kv).run P w= .ok () w:=by
 unfold Instr.checkKey
 rw [Sem.run_bind,run_underlying hkt w]
 cases ki with
 |true=>obtain ⟨q,rfl⟩:=hd;rfl
 |false=>obtain rfl:=hd;rfl
theorem Wn {P:Program} {d:TypeDesc} {kt:Nat} {kv:Value} {es:List MapEntry} {res:Option (Nat×Value)} (w:World) (hkt:P.underlying kt=some d) (hf:Instr.findNow d kv es 0=some res):
 (Instr.findKey kt kv es).run P w= .ok res w:=by
 unfold Instr.findKey
 rw [Sem.run_bind,run_underlying hkt w]
 simp only [Result.andThen_ok,hf]
 rfl
theorem Vg {P:Program} (w:World) (r:Nat) (es:Array MapEntry) (c:Nat) (hg:w.heap[r]? =some (.map es c)):(getObj r).run P w= .ok (.map es c) w:=by
 simp [getObj,Sem.run,hg]
def EntsK (es:List (Value×SV Y)) (ents:List MapEntry):Prop:=ents.length=es.length/\∀(j:Nat) kv sv,es[j]? =some (kv,sv)->∃e,ents[j]? =some e/\e.key=kv
theorem EntsK.tail {kv:Value} {sv:SV Y} {es:List (Value×SV Y)} {ents:List MapEntry} (h:EntsK ((kv,sv)::es) ents):∃e ents',ents=e::ents'/\e.key=kv/\EntsK es ents':=by
 obtain ⟨h1,h2⟩:=h
 cases ents with
 |nil=>simp at h1
 |cons e ents'=>
  obtain ⟨e',h3,h4⟩:=h2 0 kv sv rfl
  obtain rfl:e=e':=by simpa using h3
  exact ⟨e,ents',rfl,h4,by simpa using h1,fun j kv sv hj=>h2 (j+1) kv sv hj⟩
theorem Zrg {ki:Bool} {key:SV Y} {d:TypeDesc} (hd:Zod ki d):∀{es:List (Value×SV Y)} {f:SV Y->Prop} {z:Prop},W9 ki key es f z->
 (∃(j:Nat) (kv:Value) (sv:SV Y),es[j]? =some (kv,sv)/\f sv/\∀σ g u (ents:List MapEntry) i0,Den E σ g key u->EntsK es ents->∃e,ents[j]? =some e/\Instr.findNow d u ents i0=some (some (i0+j,e.val)))\/
 (z/\∀σ g u (ents:List MapEntry) i0,Den E σ g key u->EntsK es ents->Instr.findNow d u ents i0=some none):=by
 intro es
 induction es with
 |nil=>
  intro f z h
  refine .inr ⟨h,fun σ g u ents i0 _ he=> ?_⟩
  have:ents= []:=List.eq_nil_of_length_eq_zero (by simpa using he.1)
  subst this;rfl
 |cons p es ih=>
  obtain ⟨kv,sv⟩:=p
  intro f z h
  have rest:(∀σ g u e,Den E σ g key u->e=kv->Instr.sameNow d u e=some false)->W9 ki key es f z->
   (∃(j:Nat) (kv':Value) (sv':SV Y),((kv,sv)::es)[j]? =some (kv',sv')/\f sv'/\∀σ g u (ents:List MapEntry) i0,Den E σ g key u->EntsK ((kv,sv)::es) ents->∃e,ents[j]? =some e/\Instr.findNow d u ents i0=some (some (i0+j,e.val)))\/
   (z/\∀σ g u (ents:List MapEntry) i0,Den E σ g key u->EntsK ((kv,sv)::es) ents->Instr.findNow d u ents i0=some none):=by
   intro hne h
   rcases ih h with ⟨j,kv',sv',h1,h2,h3⟩|⟨h1,h2⟩
   · refine .inl ⟨j+1,kv',sv',h1,h2,fun σ g u ents i0 hu he=> ?_⟩
     obtain ⟨e,ents',rfl,h4,h5⟩:=he.tail
     obtain ⟨e',h6,h7⟩:=h3 σ g u ents' (i0+1) hu h5
     refine ⟨e',h6,?_⟩
     unfold Instr.findNow
     rw [hne σ g u _ hu h4]
     rw [show i0+(j+1)=i0+1+j by omega];exact h7
   · refine .inr ⟨h1,fun σ g u ents i0 hu he=> ?_⟩
     obtain ⟨e,ents',rfl,h4,h5⟩:=he.tail
     unfold Instr.findNow
     rw [hne σ g u _ hu h4]
     exact h2 σ g u ents' (i0+1) hu h5
  have here:(∀σ g u e,Den E σ g key u->e=kv->Instr.sameNow d u e=some true)->f sv->
   (∃(j:Nat) (kv':Value) (sv':SV Y),((kv,sv)::es)[j]? =some (kv',sv')/\f sv'/\∀σ g u (ents:List MapEntry) i0,Den E σ g key u->EntsK ((kv,sv)::es) ents->∃e,ents[j]? =some e/\Instr.findNow d u ents i0=some (some (i0+j,e.val))):=by
   intro heq h
   refine ⟨0,kv,sv,rfl,h,fun σ g u ents i0 hu he=> ?_⟩
   obtain ⟨e,ents',rfl,h4,h5⟩:=he.tail
   refine ⟨e,rfl,?_⟩
   unfold Instr.findNow
   rw [heq σ g u _ hu h4];rfl
  unfold W9 at h
  split at h
  · rename_i kd b l kd' a
    split at h
    · rename_i hkd
      obtain rfl:=of_decide_eq_true hkd
      obtain ⟨q,rfl⟩:=hd
      have h:=Yv h
      have hs:∀σ g u e,Den E σ g (.int l kd' a) u->e=Value.int kd' b->Instr.sameNow (.int q) u e=some (a==b):=by
       rintro σ g u e hu rfl
       cases hu;simp [Instr.sameNow]
      cases hab:(a==b) with
      |true=>rw [hab] at h hs;exact .inl (here hs h)
      |false=>rw [hab] at h hs;exact rest hs h
    · exact h.elim
  · rename_i b l a
    obtain rfl:=hd
    have h:=Yv h
    have hs:∀σ g u e,Den E σ g (.str l a) u->e=Value.string b->Instr.sameNow .string u e=some (a==toL b):=by
     rintro σ g u e hu rfl
     cases hu
     rename_i b' hb'
     subst hb'
     simp only [Instr.sameNow,Zf1]
    cases hab:(a==toL b) with
    |true=>rw [hab] at h hs;exact .inl (here hs h)
    |false=>rw [hab] at h hs;exact rest hs h
  · exact h.elim
def Ux (ki:Bool) (key:SV Y) (kv:Value) (b:Bool):Prop:=
 match ki,kv,key with
 |true,.int kd n,.int _ kd' a=>kd'=kd/\(a==n)=b
 |false,.string n,.str _ a=>(a==toL n)=b
 |_,_,_=>False
theorem Ze9 {ki:Bool} {key:SV Y}:∀{es:List (Value×SV Y)} {f:SV Y->Prop} {z:Prop},W9 ki key es f z->
 (∃(j:Nat) (kv:Value) (sv:SV Y),es[j]? =some (kv,sv)/\f sv/\Ux ki key kv true)\/(z/\∀(j:Nat) kv sv,es[j]? =some (kv,sv)->Ux ki key kv false)
 | [],f,z,h=> .inr ⟨h,fun j kv sv hj=>by simp at hj⟩
 |(kv,sv)::es,f,z,h=>by
  have more:Ux ki key kv false->W9 ki key es f z->(∃(j:Nat) (kv':Value) (sv':SV Y),((kv,sv)::es)[j]? =some (kv',sv')/\f sv'/\Ux ki key kv' true)\/(z/\∀(j:Nat) kv' sv',((kv,sv)::es)[j]? =some (kv',sv')->Ux ki key kv' false):=by
   intro h0 h
   rcases Ze9 h with ⟨j,kv',sv',h1,h2,h3⟩|⟨h1,h2⟩
   · exact .inl ⟨j+1,kv',sv',h1,h2,h3⟩
   · refine .inr ⟨h1,fun j kv' sv' hj=> ?_⟩
     cases j with
     |zero=>simp at hj;obtain ⟨rfl,rfl⟩:=hj;exact h0
     |succ j=>exact h2 j kv' sv' (by simpa using hj)
  unfold W9 at h
  split at h
  · rename_i kd n l kd' a
    split at h
    · rename_i hkd
      have hkd:=of_decide_eq_true hkd
      have h:=Yv h
      cases hab:(a==n) with
      |true=>rw [hab] at h;exact .inl ⟨0,_,_,rfl,h,hkd,hab⟩
      |false=>rw [hab] at h;exact more ⟨hkd,hab⟩ h
    · exact h.elim
  · rename_i n l a
    have h:=Yv h
    cases hab:(a==toL n) with
    |true=>rw [hab] at h;exact .inl ⟨0,_,_,rfl,h,hab⟩
    |false=>rw [hab] at h;exact more hab h
  · exact h.elim
theorem Ui {ki:Bool} {d:TypeDesc} (hd:Zod ki d) {key:SV Y} {kv:Value} {b:Bool} (h:Ux ki key kv b) {σ:Pl} {g:GH} {u:Value} (hu:Den E σ g key u):Instr.sameNow d u kv=some b:=by
 unfold Ux at h
 split at h
 · obtain ⟨rfl,h⟩:=h
   obtain ⟨q,rfl⟩:=hd
   cases hu
   rw [<-h];simp [Instr.sameNow]
 · obtain rfl:=hd
   cases hu
   rename_i b' hb'
   subst hb'
   rw [<-h,Zf1];simp only [Instr.sameNow]
 · exact h.elim
theorem Zfa {ki:Bool} {key:SV Y} {kv kv':Value} {b:Bool} (h:Ux ki key kv b) {q:Option IntKind} (h1:KeyIs q kv) (h2:KeyIs q kv'):∃b',Ux ki key kv' b':=by
 unfold Ux at h
 split at h
 · rename_i kd n l kd' a
   cases q with
   |none=>obtain ⟨s,hs⟩:=h1;cases hs
   |some kd2=>
    obtain ⟨m,hm⟩:=h1
    cases hm
    obtain ⟨m',rfl⟩:=h2
    exact ⟨_,h.1,rfl⟩
 · cases q with
   |some kd2=>obtain ⟨s,hs⟩:=h1;cases hs
   |none=>
    obtain ⟨m',rfl⟩:=h2
    exact ⟨_,rfl⟩
 · exact h.elim
theorem Zia {ki:Bool} {key:SV Y} {q:IntKind} {n:Int} (h:Ux ki key (.int q n) true):ki=true/\∃l,key= .int l q n:=by
 unfold Ux at h
 split at h
 · rename_i heq
   cases heq
   obtain ⟨rfl,h⟩:=h
   exact ⟨rfl,_,by rw [eq_of_beq h]⟩
 · rename_i heq
   cases heq
 · exact h.elim
theorem Zib {ki:Bool} {key:SV Y} {n:ByteArray} (h:Ux ki key (.string n) true):∃l,key= .str l (toL n):=by
 unfold Ux at h
 split at h
 · rename_i heq
   cases heq
 · rename_i heq
   cases heq
   exact ⟨_,by rw [eq_of_beq h]⟩
 · exact h.elim
theorem Zoe {ki:Bool} {key:SV Y} {kv kv':Value} {q:Option IntKind} (h:Ux ki key kv true) (h':Ux ki key kv' true) (hq:KeyIs q kv) (hq':KeyIs q kv'):kv=kv':=by
 cases q with
 |some q=>
  obtain ⟨n,rfl⟩:=hq
  obtain ⟨n',rfl⟩:=hq'
  obtain ⟨_,l,e1⟩:=Zia h
  obtain ⟨_,l',e2⟩:=Zia h'
  rw [e1] at e2
  cases e2;rfl
 |none=>
  obtain ⟨n,rfl⟩:=hq
  obtain ⟨n',rfl⟩:=hq'
  obtain ⟨l,e1⟩:=Zib h
  obtain ⟨l',e2⟩:=Zib h'
  rw [e1] at e2
  have:toL n=toL n':=by injection e2
  rw [Zj4 this]
theorem Zic {d:TypeDesc} {u:Value}:∀{l:List MapEntry} {i0:Nat},(∀e∈l,Instr.sameNow d u e.key=some false)->Instr.findNow d u l i0=some none
 | [],_,_=>rfl
 |e::l,i0,h=>by
  unfold Instr.findNow
  rw [h e (by simp)]
  exact Zic fun e he=>h e (List.mem_cons_of_mem _ he)
theorem Zmp {d:TypeDesc} {u:Value}:∀{l:List MapEntry} {i0:Nat},(∀e∈l,∃b,Instr.sameNow d u e.key=some b)->(∃e∈l,Instr.sameNow d u e.key=some true)->∃p e,e∈l/\Instr.sameNow d u e.key=some true/\Instr.findNow d u l i0=some (some (p,e.val))
 | [],_,_,⟨e,he,_⟩=>by cases he
 |e::l,i0,h,⟨e',he',hs⟩=>by
  obtain ⟨b,hb⟩:=h e (by simp)
  unfold Instr.findNow
  rw [hb]
  cases b with
  |true=>exact ⟨i0,e,by simp,hb,rfl⟩
  |false=>
   have:e'∈l:=by
    rcases List.mem_cons.1 he' with rfl|h2
    · rw [hb] at hs;cases hs
    · exact h2
   obtain ⟨p,e2,h1,h2,h3⟩:=Zmp (i0:=i0+1) (fun e he=>h e (List.mem_cons_of_mem _ he)) ⟨e',this,hs⟩
   exact ⟨p,e2,List.mem_cons_of_mem _ h1,h2,h3⟩
theorem Zax (hE : EngOk E) {t kt et : TypeId} {m x : Operand} {ok : Bool} (ho : o.op = .lookup t m x ok) {z1 z2 : Nat} {z3 : Value} (ht : E.ty t = some ⟨.map kt et, z1, z2, z3⟩) {ki : Bool} (hki : Zaj E kt = some ki) {ti : TyI} (het : E.ty et = some ti) {es : List (Value × SV Y)} {rd : List Nat} (hmo : Zpd h (ev T m) = some (es, rd))
    {zero key : SV Y} (hzero : ∀ σ g, Den E σ g zero ti.zero) (hkey0 : ∀ σ g u, Den E σ g (ev T x) u → Den E σ g key u) (hk : Z2u ki zero rd ok key es k) : ∃ r, k r ∧ Z0 E o T h i r := by
  have mm : m ∈ o.op.operands.toList := by simp [ho, Op.operands]
  have mx : x ∈ o.op.operands.toList := by simp [ho, Op.operands]
  obtain ⟨d, hkt, hd⟩ := Zb3 hE hki
  have run : ∀ (w : World) (ρ : Operand → Value) (r : Nat) (ents : Array MapEntry) (c : Nat) (res : Option (Nat × Value)), ρ m = .map (some r) → w.heap[r]? = some (.map ents c) → Instr.findNow d (ρ x) ents.toList 0 = some res →
      (execOp ρ o).run E.P w = .ok (.value (let p := match res with | some (_, v) => (v, true) | none => (ti.zero, false); if ok then .tuple #[p.1, .bool p.2] else p.1)) w := by
    intro w ρ r ents c res hm hg hf
    unfold execOp Instr.lookup
    simp only [ho, hm, Sem.run_bind, run_underlying (hE.ty _ _ ht).1, Result.andThen_ok, Vg w r ents c hg, Sem.run_pure, Xx hd _ 9999 kt _ w hkt, Wn w hkt hf]
    cases res with
    | none => simp only [Sem.run_bind, Ve hE het, Result.andThen_ok, Sem.run_pure]
    | some p => simp only [Sem.run_bind, Sem.run_pure, Result.andThen_ok]
  have yes : ∀ {σ : Pl} {g : GH} {sv : SV Y} {v : Value}, Den E σ g sv v → Den E σ g (match ok with | true => .tup [sv, .bool true true] | false => sv) (if ok then .tuple #[v, .bool true] else v) := by
    intro σ g sv v hden
    cases ok with
    | true => exact .tup (fun q => if q = 0 then v else .bool true) rfl (fun q hq => by match q, hq with | 0, _ => rfl | 1, _ => rfl) (fun q s hs => by
        match q, hs with
        | 0, hs => obtain rfl : sv = s := by simpa using hs
                   exact hden
        | 1, hs => obtain rfl : SV.bool true true = s := by simpa using hs
                   exact .bool _ _)
    | false => exact hden
  have no : ∀ {σ : Pl} {g : GH}, Den E σ g (match ok with | true => .tup [zero, .bool true false] | false => zero) (if ok then .tuple #[ti.zero, .bool false] else ti.zero) := by
    intro σ g
    cases ok with
    | true => exact .tup (fun q => if q = 0 then ti.zero else .bool false) rfl (fun q hq => by match q, hq with | 0, _ => rfl | 1, _ => rfl) (fun q s hs => by
        match q, hs with
        | 0, hs => obtain rfl : zero = s := by simpa using hs
                   exact hzero _ _
        | 1, hs => obtain rfl : SV.bool true false = s := by simpa using hs
                   exact .bool _ _)
    | false => exact hzero _ _
  by_cases hpm : ∃ es', ev T m = .pmap es'
  · obtain ⟨es', hev⟩ := hpm
    obtain ⟨rfl, rfl⟩ : es' = es ∧ [] = rd := by
      unfold Zpd at hmo
      rw [hev] at hmo
      simpa using hmo
    rcases Ze9 hk with ⟨j, kv, sv, hj, hk, hkey⟩ | ⟨hk, hkey⟩
    · refine ⟨_, hk, Zq fun B σ g w ρ hh hrd hI hx => ?_⟩
      have hu := hx m mm
      rw [hev] at hu
      generalize hρ : ρ m = um at hu
      cases hu
      rename_i r ents c q hg hq hn h1 h2 hd'
      obtain ⟨clk, hw⟩ := hI.gm _ _ hg
      have hkx := hkey0 _ _ _ (hx x mx)
      obtain ⟨e0, he0, hek⟩ := h2 j kv sv hj
      obtain ⟨p, e, hem, hsame, hf⟩ := Zmp (d := d) (u := ρ x) (i0 := 0) (l := ents.toList) (fun e he => by
        obtain ⟨j', sv', hj', _⟩ := h1 e he
        obtain ⟨b', hb'⟩ := Zfa hkey (hq j kv sv hj) (hq j' _ sv' hj')
        exact ⟨b', Ui hd hb' hkx⟩) ⟨e0, he0, by rw [hek]; exact Ui hd hkey hkx⟩
      obtain ⟨j', sv', hj', hval⟩ := h1 e hem
      obtain ⟨b', hb'⟩ := Zfa hkey (hq j kv sv hj) (hq j' _ sv' hj')
      have : b' = true := by
        have := Ui hd hb' hkx
        rw [hsame] at this
        exact (Option.some.inj this).symm
      subst this
      have hkk := Zoe hkey hb' (hq j kv sv hj) (hq j' _ sv' hj')
      rw [← hkk] at hj'
      obtain rfl := hn j j' kv sv sv' hj hj'
      refine ⟨_, run w ρ r ents clk _ hρ hw hf, ?_⟩
      have := yes (hd' j kv sv hj)
      rw [hval]
      exact this
    · refine ⟨_, hk, Zq fun B σ g w ρ hh hrd hI hx => ?_⟩
      have hu := hx m mm
      rw [hev] at hu
      generalize hρ : ρ m = um at hu
      cases hu
      rename_i r ents c q hg hq hn h1 h2 hd'
      obtain ⟨clk, hw⟩ := hI.gm _ _ hg
      have hkx := hkey0 _ _ _ (hx x mx)
      have hf := Zic (d := d) (u := ρ x) (i0 := 0) (l := ents.toList) (fun e he => by
        obtain ⟨j', sv', hj', _⟩ := h1 e he
        exact Ui hd (hkey j' _ sv' hj') hkx)
      exact ⟨_, run w ρ r ents clk _ hρ hw hf, no⟩
  have hent : ∀ B σ g w u (hh : Hp Y), (∀ b ∈ rd, hh b = h b) → Inv E B σ hh g w → Den E σ g (ev T m) u → ∃ r ents c, u = .map (some r) ∧ w.heap[r]? = some (.map ents c) ∧ EntsK es ents.toList ∧ ∀ (j : Nat) kv sv, es[j]? = some (kv, sv) → ∃ v, (∃ bo, ents[j]? = some (MapEntry.mk kv v bo)) ∧ Den E σ g sv v := by
    intro B σ g w u hh hrd hI hu
    unfold Zpd at hmo
    split at hmo
    · rename_i b hev
      rw [hev] at hu
      split at hmo
      · rename_i es' hb
        cases hmo
        cases hu
        rename_i r z hσ
        obtain ⟨r', z', hσ', hbo⟩ := hI.blk b _ ((hrd b (by simp)).trans hb)
        rw [hσ] at hσ'; cases hσ'
        obtain ⟨ents, c, h1, h2, h3⟩ := hbo
        refine ⟨r, ents, c, rfl, h1, ⟨by simpa using h2, fun j kv sv hj => ?_⟩, fun j kv sv hj => ?_⟩
        · obtain ⟨v, bo, h4, _⟩ := h3 j kv sv hj
          exact ⟨_, by simpa using h4, rfl⟩
        · obtain ⟨v, bo, h4, h5⟩ := h3 j kv sv hj
          exact ⟨v, ⟨bo, h4⟩, h5⟩
      · cases hmo
    · rename_i es' hev
      exact absurd ⟨es', hev⟩ hpm
    · cases hmo
  rcases Zrg (E := E) hd hk with ⟨j, kv, sv, hj, hk, hrun⟩ | ⟨hk, hrun⟩
  · refine ⟨_, hk, Zq fun B σ g w ρ hh hrd hI hx => ?_⟩
    obtain ⟨r, ents, c, hm, hg, hek, hdv⟩ := hent B σ g w (ρ m) hh hrd hI (hx m mm)
    obtain ⟨e, he, hf⟩ := hrun σ g (ρ x) ents.toList 0 (hkey0 _ _ _ (hx x mx)) hek
    obtain ⟨v, ⟨bo, hv⟩, hden⟩ := hdv j kv sv hj
    have : e.val = v := by
      rw [show ents.toList[j]? = ents[j]? by simp, hv] at he
      cases he; rfl
    refine ⟨_, run w ρ r ents c _ hm hg hf, ?_⟩
    rw [this]
    cases ok with
    | true => exact .tup (fun q => if q = 0 then v else .bool true) rfl (fun q hq => by match q, hq with | 0, _ => rfl | 1, _ => rfl) (fun q s hs => by
        match q, hs with
        | 0, hs => obtain rfl : sv = s := by simpa using hs
                   exact hden
        | 1, hs => obtain rfl : SV.bool true true = s := by simpa using hs
                   exact .bool _ _)
    | false => exact hden
  · refine ⟨_, hk, Zq fun B σ g w ρ hh hrd hI hx => ?_⟩
    obtain ⟨r, ents, c, hm, hg, hek, hdv⟩ := hent B σ g w (ρ m) hh hrd hI (hx m mm)
    have hf := hrun σ g (ρ x) ents.toList 0 (hkey0 _ _ _ (hx x mx)) hek
    refine ⟨_, run w ρ r ents c _ hm hg hf, ?_⟩
    cases ok with
    | true => exact .tup (fun q => if q = 0 then ti.zero else .bool false) rfl (fun q hq => by match q, hq with | 0, _ => rfl | 1, _ => rfl) (fun q s hs => by
        match q, hs with
        | 0, hs => obtain rfl : zero = s := by simpa using hs
                   exact hzero _ _
        | 1, hs => obtain rfl : SV.bool true false = s := by simpa using hs
                   exact .bool _ _)
    | false => exact hzero _ _
theorem Zof (hE:EngOk E) {t:TypeId} {m x:Operand} {ok:Bool} (ho:o.op= .lookup t m x ok) (hk:Zlm E t (ev T m) (ev T x) ok h k):∃r,k r/\Z0 E o T h i r:=by
 unfold Zlm at hk
 split at hk
 · rename_i kt et _ _ _ ht
   split at hk
   · rename_i ki ti es rd hki het hmo
     exact Zax hE ho ht hki het hmo (fun σ g=>Xn E _ _ _) (fun _ _ _ h=>h) hk
   · exact hk.elim
 · exact hk.elim
theorem Zvo {ki:Bool} {key:Value} {d:TypeDesc} (hd:Zod ki d) {v:SV Y}:∀{es es':List (Value×SV Y)},Ze0 ki key v es=some es'->∀(ents:List MapEntry) i0,EntsK es ents->
 (Instr.findNow d key ents i0=some none/\es'=es++ [(key,v)])\/
 (∃(j:Nat) (e:MapEntry) (sv:SV Y),ents[j]? =some e/\Instr.findNow d key ents i0=some (some (i0+j,e.val))/\es[j]? =some (e.key,sv)/\es'=es.set j (e.key,v)/\Instr.sameNow d key e.key=some true):=by
 intro es
 induction es with
 |nil=>
  intro es' h ents i0 he
  have:ents= []:=List.eq_nil_of_length_eq_zero (by simpa using he.1)
  subst this
  cases h
  exact .inl ⟨rfl,rfl⟩
 |cons p es ih=>
  obtain ⟨kv,u⟩:=p
  intro es' h ents i0 he
  obtain ⟨e,ents',rfl,rfl,h5⟩:=he.tail
  have step:∀q,Instr.sameNow d key e.key=some q->(match q with|true=>some ((e.key,v)::es)|false=>(match Ze0 ki key v es with|some l=>some ((e.key,u)::l)|none=>none))=some es'->
   (Instr.findNow d key (e::ents') i0=some none/\es'=((e.key,u)::es)++ [(key,v)])\/
   (∃(j:Nat) (e':MapEntry) (sv:SV Y),(e::ents')[j]? =some e'/\Instr.findNow d key (e::ents') i0=some (some (i0+j,e'.val))/\((e.key,u)::es)[j]? =some (e'.key,sv)/\es'=((e.key,u)::es).set j (e'.key,v)/\Instr.sameNow d key e'.key=some true):=by
   intro q hq h
   cases q with
   |true=>
    simp only [Option.some.injEq] at h
    refine .inr ⟨0,e,u,rfl,?_,rfl,by rw [<-h];rfl,hq⟩
    unfold Instr.findNow;rw [hq];rfl
   |false=>
    simp only at h
    split at h
    · rename_i l hl
      cases h
      have hfn:Instr.findNow d key (e::ents') i0=Instr.findNow d key ents' (i0+1):=by
       conv=>lhs;unfold Instr.findNow
       rw [hq]
      rcases ih hl ents' (i0+1) h5 with ⟨h1,h2⟩|⟨j,e',sv,h1,h2,h3,h4,h6⟩
      · exact .inl ⟨by rw [hfn];exact h1,by rw [h2];rfl⟩
      · refine .inr ⟨j+1,e',sv,h1,by rw [hfn,h2];congr 2;simp;omega,h3,by rw [h4];rfl,h6⟩
    · cases h
  unfold Ze0 at h
  split at h
  · rename_i kd b kd' a hek
    split at h
    · rename_i hkd
      obtain rfl:=of_decide_eq_true hkd
      obtain ⟨q,rfl⟩:=hd
      exact step (a==b) (by rw [hek];simp [Instr.sameNow]) h
    · cases h
  · rename_i b a hek
    obtain rfl:=hd
    rw [Zf1] at h
    exact step (a==b) (by rw [hek];simp [Instr.sameNow]) h
  · cases h
end
end
section
open Go.RowKit
section
variable {Y:Thy} {E:Eng Y} {o:Oper} {T:Fr Y} {h:Hp Y} {i:Nat} {k:Res Y->Prop} {call:Nat->List (SV Y)->Hp Y->Nat->(Res Y->Prop)->Prop}
def setB (w:World) (r:Nat) (x:Obj):World:={w with heap:=w.heap.setIfInBounds r x}
theorem Zuv (w:World) (r:Nat) (x:Obj) (h:r<w.heap.size):(setB w r x).heap[r]? =some x:=by simp [setB,Array.getElem?_setIfInBounds,h]
theorem Zqk (w:World) (r q:Nat) (x:Obj) (h:q≠r):(setB w r x).heap[q]? =w.heap[q]? :=by simp [setB,Array.getElem?_setIfInBounds,Ne.symm h]
theorem Zju (w:World) (r:Nat) (x:Obj):(setB w r x).heap.size=w.heap.size:=by simp [setB]
theorem Zbl {P:Program} (w:World) (r:Nat) (es:Array MapEntry) (c:Nat) (x:Obj) (hg:w.heap[r]? =some (.map es c)):(setObj r x).run P w= .ok () (setB w r x):=by
 simp only [setObj,Sem.run,hg];rfl
theorem Zql {B:Nat} {σ:Pl} {g:GH} {w:World} {hh:Hp Y} (hI:Inv E B σ hh g w) (hB:B<=w.heap.size) (hi:σ i=none) {x:Obj} {z:Nat} {blk:Blk Y}
 (hbo:BlkOk E (updσ σ i (w.heap.size,z)) g (w.alloc x) w.heap.size z blk):
 Inv E B (updσ σ i (w.heap.size,z)) (upd hh i (some blk)) g (w.alloc x)/\Stp i 1 [] σ g w (updσ σ i (w.heap.size,z)) g (w.alloc x):=by
 have hle:Pl.le σ (updσ σ i (w.heap.size,z)):=Zfz hi
 have hold:∀r,r<w.heap.size->(w.alloc x).heap[r]? =w.heap[r]? :=fun r hr=>by first|exact heap_alloc_old w _ hr|exact heap_alloc_old w _ r hr
 have hsz:(w.alloc x).heap.size=w.heap.size+1:=by show (w.heap.push _).size=_;simp
 have glt:∀r n v,g.cell r n=some v->r<w.heap.size:=fun r n v hc=>block_lt_of_cell (hI.gc r n v hc)
 have gmlt:∀r es,g.obj r=some es->r<w.heap.size:=fun r es hc=>by obtain ⟨c,h⟩:=hI.gm r es hc;exact (Array.getElem?_eq_some_iff.1 h).1
 refine ⟨⟨?_,?_,?_,?_,?_,?_,?_,hI.glob⟩,⟨hle,?_,.refl _,fun _ _ _ h=> .inl h,fun _ _ h=> .inl h,fun r hr _=>hold r hr,by omega,rfl,rfl,rfl,?_⟩⟩
 · intro r n v hc
   rw [World.cell?_of_block (w:=w) (hold r (glt _ _ _ hc))];exact hI.gc _ _ _ hc
 · intro r es hc
   obtain ⟨c,h⟩:=hI.gm r es hc
   exact ⟨c,(hold r (gmlt _ _ hc)).trans h⟩
 · intro b y hx
   rw [Zh] at hx
   by_cases hb:b=i
   · rw [if_pos hb] at hx
     obtain rfl:=Option.some.inj hx
     exact ⟨w.heap.size,z,by simp [updσ,hb],hbo⟩
   · rw [if_neg hb] at hx
     obtain ⟨r,z',h1,h2⟩:=hI.blk b y hx
     exact ⟨r,z',hle _ _ h1,h2.mono hle (.refl _) (hold r (hI.base _ _ _ h1).2)⟩
 · intro b b' r z z' hb hb' h1 h2
   rw [Zh] at hb hb'
   unfold updσ at h1 h2
   by_cases e1:b=i<;>by_cases e2:b'=i
   · rw [e1,e2]
   · rw [if_pos e1] at h1;rw [if_neg e2] at h2;cases h1
     have:=(hI.base _ _ _ h2).2;omega
   · rw [if_neg e1] at h1;rw [if_pos e2] at h2;cases h2
     have:=(hI.base _ _ _ h1).2;omega
   · rw [if_neg e1] at h1 hb;rw [if_neg e2] at h2 hb'
     exact hI.inj _ _ _ _ _ hb hb' h1 h2
 · intro b r z h1
   unfold updσ at h1
   by_cases e1:b=i
   · rw [if_pos e1] at h1;cases h1;exact ⟨hB,by omega⟩
   · rw [if_neg e1] at h1;have:=hI.base _ _ _ h1;exact ⟨this.1,by omega⟩
 · intro b y r z n v hx h1 hc
   rw [Zh] at hx
   unfold updσ at h1
   by_cases e1:b=i
   · rw [if_pos e1] at h1;cases h1;have:=glt _ _ _ hc;omega
   · rw [if_neg e1] at h1 hx;exact hI.fz _ _ _ _ _ _ hx h1 hc
 · intro b y r z hx h1
   rw [Zh] at hx
   unfold updσ at h1
   by_cases e1:b=i
   · rw [if_pos e1] at h1;cases h1
     cases hg:g.obj w.heap.size with
     |none=>rfl
     |some es=>have:=gmlt _ _ hg;omega
   · rw [if_neg e1] at h1 hx;exact hI.fm _ _ _ _ hx h1
 · intro b p hb
   unfold updσ at hb
   by_cases e1:b=i
   · right;omega
   · rw [if_neg e1] at hb;exact .inl hb
 · intro b r z h1 h2
   unfold updσ at h2
   by_cases e1:b=i
   · rw [if_pos e1] at h2;cases h2;exact .inl (Nat.le_refl _)
   · rw [if_neg e1,h1] at h2;cases h2
theorem Zfr {B : Nat} {σ : Pl} {g : GH} {w : World} {hh : Hp Y} (hI : Inv E B σ hh g w) {b r z : Nat} {es es' : List (Value × SV Y)} (hb : hh b = some (.map es)) (hσ : σ b = some (r, z)) {ents ents' : Array MapEntry} {c c' : Nat} (ha : w.heap[r]? = some (.map ents c))
    (hs : ents'.size = es'.length) (hd : ∀ (j : Nat) kv sv, es'[j]? = some (kv, sv) → ∃ v bo, ents'[j]? = some (MapEntry.mk kv v bo) ∧ Den E σ g sv v) :
    Inv E B σ (upd hh b (some (.map es'))) g (setB w r (.map ents' c')) ∧ Stp i 0 [b] σ g w σ g (setB w r (.map ents' c')) := by
  have hother : ∀ q, q ≠ r → (setB w r (.map ents' c')).heap[q]? = w.heap[q]? := fun q hq => Zqk w r q _ hq
  have hlt : r < w.heap.size := (Array.getElem?_eq_some_iff.1 ha).1
  have hne : ∀ b' r' z', hh b' ≠ none → σ b' = some (r', z') → b' ≠ b → r' ≠ r := by
    intro b' r' z' h1 h2 h3 e
    subst e
    exact h3 (hI.inj _ _ _ _ _ h1 (by rw [hb]; simp) h2 hσ)
  refine ⟨⟨?_, ?_, ?_, ?_, ?_, ?_, ?_, hI.glob⟩, ⟨.refl _, fun b p h => .inl h, .refl _, fun _ _ _ h => .inl h, fun _ _ h => .inl h, fun q hq hq2 => hother q fun e => hq2 b (by simp) z (e ▸ hσ), by rw [Zju]; exact Nat.le_refl _, rfl, rfl, rfl, fun b' r' z' h1 h2 => by rw [h1] at h2; cases h2⟩⟩
  · intro q n v hc
    have hc' := hI.gc _ _ _ hc
    have : q ≠ r := by rintro rfl; simp [World.cell?, ha] at hc'
    rw [World.cell?_of_block (w := w) (hother q this)]; exact hc'
  · intro q es hc
    obtain ⟨c, h⟩ := hI.gm _ _ hc
    have : q ≠ r := by rintro rfl; rw [hI.fm _ _ _ _ hb hσ] at hc; cases hc
    exact ⟨c, (hother q this).trans h⟩
  · intro b' x hx
    rw [Zh] at hx
    by_cases e1 : b' = b
    · rw [if_pos e1] at hx
      obtain rfl := Option.some.inj hx
      subst e1
      exact ⟨r, z, hσ, ents', c', Zuv w r _ hlt, hs, hd⟩
    · rw [if_neg e1] at hx
      obtain ⟨r', z', h1, h2⟩ := hI.blk _ _ hx
      exact ⟨r', z', h1, h2.mono (.refl _) (.refl _) (hother _ (hne _ _ _ (by rw [hx]; simp) h1 e1))⟩
  · intro b1 b2 r' z1 z2 h1 h2 k1 k2
    rw [Zh] at h1 h2
    have q1 : hh b1 ≠ none := by by_cases e : b1 = b; · rw [e, hb]; simp
                                 · rw [if_neg e] at h1; exact h1
    have q2 : hh b2 ≠ none := by by_cases e : b2 = b; · rw [e, hb]; simp
                                 · rw [if_neg e] at h2; exact h2
    exact hI.inj _ _ _ _ _ q1 q2 k1 k2
  · intro b' r' z' h1
    have := hI.base _ _ _ h1
    exact ⟨this.1, by rw [Zju]; exact this.2⟩
  · intro b' x r' z' n v hx h1 hc
    rw [Zh] at hx
    by_cases e1 : b' = b
    · rw [if_pos e1] at hx
      obtain rfl := Option.some.inj hx
      subst e1
      have : n < (Blk.map es : Blk Y).fzc E := hI.fz _ _ _ _ _ _ hb h1 hc
      exact this
    · rw [if_neg e1] at hx; exact hI.fz _ _ _ _ _ _ hx h1 hc
  · intro b' x r' z' hx h1
    rw [Zh] at hx
    by_cases e1 : b' = b
    · subst e1; exact hI.fm _ _ _ _ hb h1
    · rw [if_neg e1] at hx; exact hI.fm _ _ _ _ hx h1
theorem Zjv {ki:Bool} {d:TypeDesc} (hd:Zod ki d) {a b:Value} (h:Instr.sameNow d a b=some true):a=b/\Instr.sameBits 10000 b a=true:=by
 cases ki with
 |true=>
  obtain ⟨q,rfl⟩:=hd
  cases a with
  |int kd x=>
   cases b with
   |int kd' y=>
    simp only [Instr.sameNow] at h
    split at h
    · rename_i e
      simp only [Option.some.injEq,beq_iff_eq] at h
      subst h;subst e
      exact ⟨rfl,by simp [Instr.sameBits]⟩
    · cases h
   |_=>simp [Instr.sameNow] at h
  |_=>simp [Instr.sameNow] at h
 |false=>
  obtain rfl:=hd
  cases a with
  |string x=>
   cases b with
   |string y=>
    simp only [Instr.sameNow,Option.some.injEq] at h
    have h':(x.data==y.data)=true:=h
    rw [beq_iff_eq] at h'
    refine ⟨by rw [ByteArray.ext h'],?_⟩
    show (y.data==x.data)=true
    rw [beq_iff_eq];exact h'.symm
   |_=>simp [Instr.sameNow] at h
  |_=>simp [Instr.sameNow] at h
theorem Zqm {σ:Pl} {g:GH} {ki:Bool} {sv:SV Y} {kv u:Value} (hk:Zi0 ki sv=some kv) (hd:Den E σ g sv u):u=kv:=by
 unfold Zi0 at hk
 split at hk
 · split at hk
   · cases hk;cases hd;rfl
   · cases hk
 · split at hk
   · cases hk;cases hd;rename_i b hb;subst hb;rw [Zq1]
   · cases hk
 · cases hk
theorem Zhj (hE:EngOk E) {t:TypeId} {m x v:Operand} (ho:o.op= .mapUpdate t m x v\/o.op= .insert t m x v) {sx sv0:SV Y} (hsx:∀σ g u,Den E σ g (ev T x) u->Den E σ g sx u) (hsv:∀σ g u,Den E σ g (ev T v) u->Den E σ g sv0 u) (hk:sput E t (ev T m) sx sv0 h k):∃r,k r/\Z0 E o T h i r:=by
 have mm:m∈o.op.operands.toList:=by rcases ho with ho|ho<;>simp [ho,Op.operands]
 have mx:x∈o.op.operands.toList:=by rcases ho with ho|ho<;>simp [ho,Op.operands]
 have mv:v∈o.op.operands.toList:=by rcases ho with ho|ho<;>simp [ho,Op.operands]
 unfold sput at hk
 split at hk
 · rename_i kt _ _ _ _ b ht hm
   split at hk
   · rename_i ki es hki hb
     split at hk
     · rename_i kv hkv
       split at hk
       · rename_i es' hput
         obtain ⟨d,hkt,hd⟩:=Zb3 hE hki
         refine ⟨_,hk,fun b' hb'=>by (simp [change] at hb';subst hb';rw [hb];simp),?_⟩
         intro B σ g w ρ hh hrd hI hB hfree hx
         have hb':hh b=some (.map es):=(hrd b (by simp [Rd,change])).trans hb
         have h1:=hx m mm
         rw [hm] at h1
         generalize hvm:ρ m=vm at h1
         cases h1
         rename_i r z hσ
         have hvx:ρ x=kv:=Zqm hkv (hsx _ _ _ (hx x mx))
         have hdv:=hsv _ _ _ (hx v mv)
         obtain ⟨r2,z2,hσ2,hbo⟩:=hI.blk _ _ hb'
         rw [hσ] at hσ2;cases hσ2
         obtain ⟨ents,c,ha,hsz,hen⟩:=hbo
         have hek:EntsK es ents.toList:=⟨by simpa using hsz,fun j kv sv hj=>by
          obtain ⟨v,bo,h4,_⟩:=hen j kv sv hj
          exact ⟨_,by simpa using h4,rfl⟩⟩
         have run:∀(ents':Array MapEntry) (c':Nat),(Instr.mapUpdate t (.map (some r)) kv (ρ v)).run E.P w= .ok () (setB w r (.map ents' c'))->(execOp ρ o).run E.P w= .ok .skip (setB w r (.map ents' c')):=by
          intro ents' c' hr
          unfold execOp
          rcases ho with ho|ho<;>simp only [ho,hvm,hvx,Sem.run_bind,hr,Result.andThen_ok,Sem.run_pure]
         rcases Zvo hd hput ents.toList 0 hek with ⟨hf,rfl⟩|⟨j,e,sv,hj,hf,hes,rfl,hsame⟩
         · obtain ⟨h1,h2⟩:=Zfr (i:=i) hI hb' hσ ha (ents':=ents.push {key:=kv,val:=ρ v,born:=c}) (c':=c+1) (es':=es++ [(kv,sv0)]) (by simp [hsz]) (by
            intro j kv' sv' hj
            rw [Array.getElem?_push]
            by_cases q:j=ents.size
            · subst q
              rw [hsz,List.getElem?_append_right (Nat.le_refl _),Nat.sub_self] at hj
              simp only [List.getElem?_cons_zero,Option.some.injEq,Prod.mk.injEq] at hj
              obtain ⟨rfl,rfl⟩:=hj
              rw [if_pos rfl]
              exact ⟨_,_,rfl,hdv⟩
            · rw [if_neg q]
              have:j<es.length:=by
               have:=(gA9.1 hj).1
               simp at this;omega
              rw [List.getElem?_append_left this] at hj
              exact hen j kv' sv' hj)
           refine Ud (run _ (c+1) ?_) ⟨σ,g,h2,by rw [Y9];exact h1,.unk _⟩
           unfold Instr.mapUpdate
           simp only [Sem.run_bind,run_underlying (hE.ty _ _ ht).1,Result.andThen_ok,Vg w r ents c ha,Xx hd _ 9999 kt _ w hkt,Wn w hkt hf,Zbl w r ents c _ ha]
         · have hje:ents[j]? =some e:=by simpa using hj
           obtain ⟨h1,h2⟩:=Zfr (i:=i) hI hb' hσ ha (ents':=ents.modify j fun e=>{e with key:=kv,val:=ρ v}) (c':=c) (es':=es.set j (e.key,sv0)) (by simp [hsz]) (by
            intro j' kv' sv' hj'
            rw [Array.getElem?_modify]
            rw [List.getElem?_set] at hj'
            by_cases q:j=j'
            · subst q
              have:j<es.length:=(gA9.1 hes).1
              rw [if_pos rfl,if_pos this] at hj'
              simp only [Option.some.injEq,Prod.mk.injEq] at hj'
              obtain ⟨rfl,rfl⟩:=hj'
              rw [if_pos rfl,hje]
              exact ⟨ρ v,e.born,by rw [(Zjv hd hsame).1];rfl,hdv⟩
            · rw [if_neg q] at hj'⊢
              exact hen j' kv' sv' hj')
           refine Ud (run _ c ?_) ⟨σ,g,h2,by rw [Y9];exact h1,.unk _⟩
           unfold Instr.mapUpdate
           have hsb:=(Zjv hd hsame).2
           simp only [Sem.run_bind,run_underlying (hE.ty _ _ ht).1,Result.andThen_ok,Vg w r ents c ha,Xx hd _ 9999 kt _ w hkt,Wn w hkt hf,Nat.zero_add,hje,Option.map_some,Option.getD_some,Instr.keyThatStays,hsb,if_true,Sem.run_pure,Zbl w r ents c _ ha]
       · exact hk.elim
     · exact hk.elim
   · exact hk.elim
 · exact hk.elim
theorem Zuw (hE:EngOk E) {t:TypeId} {m x v:Operand} (ho:o.op= .mapUpdate t m x v\/o.op= .insert t m x v) (hk:sput E t (ev T m) (ev T x) (ev T v) h k):∃r,k r/\Z0 E o T h i r:=
 Zhj hE ho (fun _ _ _ h=>h) (fun _ _ _ h=>h) hk
theorem Ua {β:Type} {kd:IntKind} {vv:β->SV Y} {a:Int} {f:SV Y->Prop} {z:Prop}:∀{l:List (Int×β)},(∀b,Zak l a=some b->f (vv b))->(Zak l a=none->z)->W9 true (.int false kd a) (Zi1 kd vv l) f z
 | [],_,h2=>h2 rfl
 |(q,b)::l,h1,h2=>by
  unfold Zi1
  rw [List.map_cons]
  unfold W9
  simp only [decide_true]
  refine ⟨fun e=> ?_,fun e=> ?_⟩
  · have e:=eq_of_beq e
    exact h1 b (by unfold Zak;rw [if_pos e.symm])
  · have e:=ne_of_beq_false e
    have hl:Zak ((q,b)::l) a=Zak l a:=by
     conv=>lhs;unfold Zak
     rw [if_neg (fun x=>e x.symm)]
    exact Ua (fun b hb=>h1 b (hl.trans hb)) (fun hb=>h2 (hl.trans hb))
theorem Ub {β:Type} {vv:β->SV Y} {a:List Nat} {f:SV Y->Prop} {z:Prop}:∀{l:List (List Nat×β)},(∀p∈l,Byt p.1)->(∀b,Zak l a=some b->f (vv b))->(Zak l a=none->z)->W9 false (.str false a) (Zi2 vv l) f z
 | [],_,_,h2=>h2 rfl
 |(q,b)::l,hb,h1,h2=>by
  unfold Zi2
  rw [List.map_cons]
  unfold W9
  have hq:toL (mkS q)=q:=hb _ (List.mem_cons_self ..)
  simp only [hq]
  refine ⟨fun e=> ?_,fun e=> ?_⟩
  · have e:=eq_of_beq e
    exact h1 b (by unfold Zak;rw [if_pos e.symm])
  · have e:=ne_of_beq_false e
    have hl:Zak ((q,b)::l) a=Zak l a:=by
     conv=>lhs;unfold Zak
     rw [if_neg (fun x=>e x.symm)]
    exact Ub (fun p hp=>hb p (List.mem_cons_of_mem _ hp)) (fun b hb=>h1 b (hl.trans hb)) (fun hb=>h2 (hl.trans hb))
theorem Zel {β:Type} {kd:IntKind} {vv:β->SV Y} {a:Int} {v:β}:∀{l:List (Int×β)},Ze0 true (.int kd a) (vv v) (Zi1 kd vv l)=some (Zi1 kd vv (putS l a v))
 | []=>rfl
 |(q,b)::l=>by
  have ih:=Zel (kd:=kd) (vv:=vv) (a:=a) (v:=v) (l:=l)
  unfold Zi1 at*
  rw [List.map_cons]
  unfold Ze0 putS
  simp only [decide_true]
  by_cases e:q=a
  · subst e
    rw [if_pos rfl]
    simp
  · have:(a==q)=false:=by simpa using fun x=>e x.symm
    rw [if_neg e,this]
    simp only [ih,List.map_cons]
theorem Zem {β:Type} {vv:β->SV Y} {a:List Nat} {v:β} (ha:Byt a):∀{l:List (List Nat×β)},(∀p∈l,Byt p.1)->Ze0 false (.string (mkS a)) (vv v) (Zi2 vv l)=some (Zi2 vv (putS l a v))
 | [],_=>rfl
 |(q,b)::l,hb=>by
  have ih:=Zem (vv:=vv) ha (v:=v) (l:=l) (fun p hp=>hb p (List.mem_cons_of_mem _ hp))
  have hq:toL (mkS q)=q:=hb _ (List.mem_cons_self ..)
  unfold Zi2 at*
  rw [List.map_cons]
  unfold Ze0 putS
  simp only [hq,show toL (mkS a)=a from ha]
  by_cases e:q=a
  · subst e
    rw [if_pos rfl]
    simp
  · have:(a==q)=false:=by simpa using fun x=>e x.symm
    rw [if_neg e,this]
    simp only [ih,List.map_cons]
theorem Zen (hE:EngOk E) {th:Y.Th} {ti:TyI} {v:SV Y} {x:Y.dom th} (hd:E.dec th v.cells=some x) (hc:((Nat.beq v.cells.length (E.w th)&&(Zs ti.d||Nat.beq (E.w th) 1))&&Ztf (Zs ti.d) v)=true) {σ:Pl} {g:GH} {u:Value} (hu:Den E σ g v u):Den E σ g (Zal E th (Zs ti.d) x) u:=by
 simp only [Bool.and_eq_true,Bool.or_eq_true] at hc
 obtain ⟨⟨h1,h2⟩,h3⟩:=hc
 obtain ⟨hl,hden⟩:=hE.dec th _ _ hd
 have hw:(E.enc th x).length=E.w th:=hE.enc th x
 unfold Zal
 cases hr:Zs ti.d with
 |true=>
  rw [hr] at h3
  cases v with
  |agg cs=>
   obtain ⟨arr,c,rfl,hs,hc,hd2⟩:=Yl hu
   have hcs:cs.length=E.w th:=gC9 h1
   refine .agg c (by omega) (fun j hj=>hc j (by omega)) fun j sv hj=> ?_
   have hjl:j<cs.length:=by rw [hcs,<-hw];exact (gA9.1 hj).1
   exact hden σ g j (cs[j]) sv (c j) (gB9 hjl) hj (hd2 j _ (gB9 hjl))
  |_=>simp [Ztf] at h3
 |false=>
  rw [hr] at h2 h3
  have hw1:E.w th=1:=by
   rcases h2 with h2|h2
   · cases h2
   · exact gC9 h2
  have hcell:v.cells= [v]:=by cases v<;>first|rfl|simp [Ztf] at h3
  rw [hw1] at hw
  match he:E.enc th x,hw with
  | [y],_=>
   exact hden σ g 0 v y u (by rw [hcell];rfl) (by rw [he];rfl) hu
theorem Zhk {σ:Pl} {g:GH} {l:Bool} {kd:IntKind} {a:Int} {u:Value} (h:Den E σ g (.int l kd a) u):Den E σ g (.int false kd a) u:=by cases h;exact .int _ _ _
theorem Zhl {σ:Pl} {g:GH} {l:Bool} {a:List Nat} {u:Value} (h:Den E σ g (.str l a) u):Den E σ g (.str false a) u:=by cases h;exact .str _ ‹_›
theorem Zmb (hE:EngOk E) {t:TypeId} {m x:Operand} {ok:Bool} (ho:o.op= .lookup t m x ok) (hk:Zg0 E t (ev T m) (ev T x) ok h k):∃r,k r/\Z0 E o T h i r:=by
 unfold Zg0 at hk
 split at hk
 · rename_i th b _ hm
   split at hk
   · rename_i kt et _ _ _ es ht hb
     split at hk
     · rename_i ki ti hki het
       have hmo:Zpd h (ev T m)=some (es,[b]):=by rw [hm];simp only [Zpd,hb]
       unfold Z2v at hk
       split at hk
       · rename_i z hz hc
         have hzd:∀σ g,Den E σ g (Zal E th (Zs ti.d) z) ti.zero:=fun σ g=>Zen hE hz hc (Xn E σ g ti.zero)
         split at hk
         · rename_i l kd a hx
           obtain ⟨L,rfl,hk⟩:=hk
           unfold Zwt at hk
           split at hk
           · refine Zax hE ho ht hki het hmo (zero:=Zal E th (Zs ti.d) z) (key:= .int false kd a) hzd (fun σ g u hu=> ?_) (Ua (fun b hb=> ?_) fun hb=> ?_)
             · rw [hx] at hu;exact Zhk hu
             · exact hk b (by rw [hb];rfl)
             · exact hk z (by rw [hb];rfl)
           · refine Zax hE ho ht hki het hmo (zero:=Yo ti.zero) (key:= .int false kd a) (fun σ g=>Xn E σ g _) (fun σ g u hu=> ?_) (Ua (fun b hb=> ?_) fun hb=> ?_)
             · rw [hx] at hu;exact Zhk hu
             · exact hk.1 b hb
             · exact hk.2 hb
         · rename_i l a hx
           obtain ⟨L,rfl,hby,hk⟩:=hk
           unfold Zwt at hk
           split at hk
           · refine Zax hE ho ht hki het hmo (zero:=Zal E th (Zs ti.d) z) (key:= .str false a) hzd (fun σ g u hu=> ?_) (Ub hby (fun b hb=> ?_) fun hb=> ?_)
             · rw [hx] at hu;exact Zhl hu
             · exact hk b (by rw [hb];rfl)
             · exact hk z (by rw [hb];rfl)
           · refine Zax hE ho ht hki het hmo (zero:=Yo ti.zero) (key:= .str false a) (fun σ g=>Xn E σ g _) (fun σ g u hu=> ?_) (Ub hby (fun b hb=> ?_) fun hb=> ?_)
             · rw [hx] at hu;exact Zhl hu
             · exact hk.1 b hb
             · exact hk.2 hb
         · exact hk.elim
       · exact hk.elim
     · exact hk.elim
   · exact hk.elim
 · exact Zof hE ho hk
theorem Zxp (hE:EngOk E) {t:TypeId} {m x v:Operand} (ho:o.op= .mapUpdate t m x v\/o.op= .insert t m x v) (hk:Zz7 E t (ev T m) (ev T x) (ev T v) h k):∃r,k r/\Z0 E o T h i r:=by
 unfold Zz7 at hk
 split at hk
 · rename_i th b _ hm
   split at hk
   · rename_i kt et _ _ _ es ht hb
     split at hk
     · rename_i ki ti hki het
       unfold putT at hk
       split at hk
       · rename_i z hz hc
         split at hk
         · rename_i l kd a hx
           obtain ⟨L,rfl,hk⟩:=hk
           refine Zhj hE ho (sx:= .int false kd a) (sv0:=Zal E th (Zs ti.d) z) (fun σ g u hu=> ?_) (fun σ g u hu=>Zen hE hz hc hu) ?_
           · rw [hx] at hu;exact Zhk hu
           · unfold sput
             rw [ht,hm]
             simp only [hki,hb,Zi0,Zel]
             exact hk
         · rename_i l a hx
           obtain ⟨L,rfl,hby,ha,hk⟩:=hk
           refine Zhj hE ho (sx:= .str false a) (sv0:=Zal E th (Zs ti.d) z) (fun σ g u hu=> ?_) (fun σ g u hu=>Zen hE hz hc hu) ?_
           · rw [hx] at hu;exact Zhl hu
           · unfold sput
             rw [ht,hm]
             simp only [hki,hb,Zi0,Zem ha hby]
             exact hk
         · exact hk.elim
       · exact hk.elim
     · exact hk.elim
   · exact hk.elim
 · exact Zuw hE ho hk
theorem Zqn (hE:EngOk E) {t:TypeId} (ho:o.op= .makeMap t none) (hk:k (fresh i (.map i) (.map []) [])):∃r,k r/\Z0 E o T h i r:=by
 refine ⟨_,hk,fun b hb=>by simp [fresh] at hb,?_⟩
 intro B σ g w ρ hh hrd hI hB hfree hx
 have hi:σ i=none:=hfree i (Nat.le_refl _) (Nat.lt_succ_self _)
 obtain ⟨h1,h2⟩:=Zql (i:=i) hI hB hi (x:= .map #[] 0) (z:=0) (blk:= .map []) ⟨#[],0,heap_alloc_new w _,rfl,fun j kv sv hj=>by simp at hj⟩
 have hrun:(execOp ρ o).run E.P w= .ok (.value (.map (some w.heap.size))) (w.alloc (.map #[] 0)):=by
  unfold execOp
  simp only [ho,Instr.makeMap,Option.map_none,Sem.run_bind,Sem.run_pure,Result.andThen_ok,newObj,Sem.run]
  rfl
 refine Y2 hrun ⟨_,_,h2,?_,.map (r:=w.heap.size) (z:=0) (by simp [updσ])⟩
 rw [U8];exact h1
end
end
section
open Go.RowKit
section
variable {Y:Thy} {E:Eng Y} {o:Oper} {T:Fr Y} {h:Hp Y} {i:Nat} {k:Res Y->Prop}
def EqOk (E:Eng Y) (σ:Pl) (g:GH) (w:World) (D:Nat) (t:TypeId) (x y:SV Y) (q:Bool):Prop:=
 ∀u v,Den E σ g x u->Den E σ g y v->(Op.equalIn D t u v).run E.P w= .ok q w
theorem Zy3 (hE:EngOk E) {σ:Pl} {g:GH} {w:World} {D:Nat} {f:TypeId->SV Y->SV Y->Option (Bool×Bool)} (hf:∀t a b l q,f t a b=some (l,q)->EqOk E σ g w D t a b q) {xs ys:List (SV Y)} {us vs:Array Value} (hx:Den E σ g (.agg xs) (.agg us)) (hy:Den E σ g (.agg ys) (.agg vs)):
 ∀{fs:List Field} {l q:Bool},eqFs E f xs ys fs=some (l,q)->(Op.eqFields D us vs fs).run E.P w= .ok q w:=by
 intro fs
 induction fs with
 |nil=>intro l q h;cases h;simp [Op.eqFields]
 |cons fd fs ih=>
  intro l q h
  simp only [eqFs] at h
  split at h
  · rename_i ti hn hty
    have hn:fd.name≠ "_" :=of_decide_eq_false hn
    split at h
    · rename_i a b ha hb
      split at h
      · rename_i l1 p l2 r h1 h2
        cases h
        obtain ⟨u,hu1,hu2⟩:=Vl hE hty hx ha w
        obtain ⟨v,hv1,hv2⟩:=Vl hE hty hy hb w
        have he:=hf _ _ _ _ _ h1 u v hu2 hv2
        unfold Op.eqFields
        rw [if_pos hn]
        simp only [Sem.run_bind,hu1,hv1,he,Result.andThen_ok]
        cases p with
        |true=>simpa using ih h2
        |false=>simp
      · cases h
    · cases h
  · cases h
theorem Zy4 (hE:EngOk E) {σ:Pl} {g:GH} {w:World} {D:Nat} {el:TypeId} {ti:TyI} (hty:E.ty el=some ti) {f:SV Y->SV Y->Option (Bool×Bool)} (hf:∀a b l q,f a b=some (l,q)->EqOk E σ g w D el a b q) {xs ys:List (SV Y)} {us vs:Array Value} (hx:Den E σ g (.agg xs) (.agg us)) (hy:Den E σ g (.agg ys) (.agg vs)):
 ∀{n j:Nat} {l q:Bool},eqIs f (Zs ti.d) ti.size xs ys n j=some (l,q)->(Op.eqItems D el ti.size us vs (List.range' j n)).run E.P w= .ok q w:=by
 intro n
 induction n with
 |zero=>intro j l q h;cases h;simp [Op.eqItems]
 |succ n ih=>
  intro j l q h
  simp only [eqIs] at h
  split at h
  · rename_i a b ha hb
    split at h
    · rename_i l1 p l2 r h1 h2
      cases h
      obtain ⟨u,hu1,hu2⟩:=Vl hE hty hx ha w
      obtain ⟨v,hv1,hv2⟩:=Vl hE hty hy hb w
      have he:=hf _ _ _ _ h1 u v hu2 hv2
      rw [List.range'_succ]
      unfold Op.eqItems
      simp only [Sem.run_bind,hu1,hv1,he,Result.andThen_ok]
      cases p with
      |true=>simpa using ih h2
      |false=>simp
    · cases h
  · cases h
theorem Z16 (hE:EngOk E) (σ:Pl) (g:GH) (w:World):∀(d D:Nat) (t:TypeId) (x y:SV Y) (l q:Bool),d<=D->eqT E d t x y=some (l,q)->EqOk E σ g w D t x y q:=by
 intro d
 induction d with
 |zero=>intro D t x y l q _ h;cases h
 |succ d ih=>
  intro D t x y l q hD h
  obtain ⟨D,rfl⟩:∃D',D=D'+1:=⟨D-1,by omega⟩
  have hD:d<=D:=by omega
  unfold eqT at h
  intro u v hu hv
  split at h
  · rename_i kd _ _ _ l1 k1 a m k2 b hty
    split at h
    · rename_i hk
      obtain rfl:=of_decide_eq_true hk
      cases h;cases hu;cases hv
      exact run_equalIn_int w D t _ _ a b (hE.ty _ _ hty).1
    · cases h
  · rename_i hty
    cases h;cases hu;cases hv
    exact run_equalIn_bool' w D t _ _ (hE.ty _ _ hty).1
  · rename_i hty
    cases h;cases hu;cases hv
    rename_i b1 h1 b2 h2
    subst h1 h2
    rw [run_equalIn_string w D t _ _ (hE.ty _ _ hty).1,Zf1,<-beq_toListBytes]
  · rename_i fs _ _ _ xs ys hty
    split at h
    · rename_i hm
      obtain ⟨us,_,rfl,_⟩:=Yl hu
      obtain ⟨vs,_,rfl,_⟩:=Yl hv
      have hund:=(hE.ty _ _ hty).1
      have hfo:E.P.fieldsOf t=fs:=by unfold Program.fieldsOf;rw [hund]
      rw [run_equalIn_struct w D t us vs (by rw [hfo];exact hund) (hE.eqs _ hm).1,hfo]
      exact Zy3 hE (fun t a b l q hq=>ih D t a b l q hD hq) hu hv h
    · cases h
  · rename_i n el _ _ _ xs ys hty
    split at h
    · rename_i ti hel
      obtain ⟨us,_,rfl,_⟩:=Yl hu
      obtain ⟨vs,_,rfl,_⟩:=Yl hv
      have hund:=(hE.ty _ _ hty).1
      obtain ⟨_,info,hi1,hi2,_⟩:=hE.ty _ _ hel
      have hco:E.P.cellsOf el=ti.size:=by unfold Program.cellsOf;rw [hi1];simpa using hi2
      rw [run_equalIn_array w D us vs hund hi1,hco,List.range_eq_range']
      exact Zy4 hE hel (fun a b l q hq=>ih D el a b l q hD hq) hu hv h
    · cases h
  · cases h
theorem Zvm (hE:EngOk E) {op:BinOp} {t t':TypeId} {x y:Operand} (ho:o.op= .binOp op t x y t') (hk:Zpe E op t (ev T x) (ev T y) k):∃r,k r/\Z0 E o T h i r:=by
 have mx:x∈o.op.operands.toList:=by simp [ho,Op.operands]
 have my:y∈o.op.operands.toList:=by simp [ho,Op.operands]
 unfold Zpe at hk
 split at hk
 · rename_i xs ys hX hY
   split at hk
   · rename_i l q hm hq
     have run:∀(σ:Pl) (g:GH) (w:World) (ρ:Operand->Value),Den E σ g (ev T x) (ρ x)->Den E σ g (ev T y) (ρ y)->∃us vs,ρ x= .agg us/\ρ y= .agg vs/\(Op.equalIn 10000 t (.agg us) (.agg vs)).run E.P w= .ok q w:=by
      intro σ g w ρ h1 h2
      rw [hX] at h1;rw [hY] at h2
      obtain ⟨us,_,hu,_⟩:=Yl h1
      obtain ⟨vs,_,hv,_⟩:=Yl h2
      rw [hu] at h1;rw [hv] at h2
      exact ⟨us,vs,hu,hv,Z16 hE σ g w 100 10000 t _ _ l q (by omega) hq _ _ h1 h2⟩
     split at hk
     · refine Ya mx my (fun σ g w ρ h1 h2=> ?_) (Yv (Zjw hk))
       obtain ⟨us,vs,hu,hv,he⟩:=run σ g w ρ h1 h2
       refine ⟨.bool q,?_,.bool _ _⟩
       unfold execOp
       simp only [ho,hu,hv,Sem.run_bind,run_eqGuard_agg w _ t x y us vs (hE.eqs _ hm).2,Result.andThen_ok,run_eql_struct w t us vs,he,Sem.run_pure]
     · refine Ya mx my (fun σ g w ρ h1 h2=> ?_) (Yv (Zjw hk))
       obtain ⟨us,vs,hu,hv,he⟩:=run σ g w ρ h1 h2
       refine ⟨.bool (!q),?_,.bool _ _⟩
       unfold execOp
       simp only [ho,hu,hv,Sem.run_bind,run_eqGuard_agg w _ t x y us vs (hE.eqs _ hm).2,Result.andThen_ok,run_neq_struct w t us vs,he,Sem.run_pure]
     · exact hk.elim
   · exact hk.elim
 · exact Zzj hE ho hk
end
end
section
open Go.RowKit
section
variable {Y:Thy} {E:Eng Y} {o:Oper} {T:Fr Y} {h:Hp Y} {i:Nat} {k:Res Y->Prop}
theorem Zp0 {el:TypeId} {th:Y.Th} (h:U0 E el=some th):E.thOf el=some th/\E.el th=el:=by
 unfold U0 at h
 split at h
 · rename_i th' h1
   split at h
   · rename_i h2
     cases h
     exact ⟨h1,gC9 h2⟩
   · cases h
 · cases h
theorem Zjh {α:Type} (zc:List α):∀(c j:Nat),(List.replicate c zc).flatten[j]? =if j<c*zc.length then zc[j%zc.length]? else none:=by
 intro c
 induction c with
 |zero=>intro j;simp
 |succ c ih=>
  intro j
  rw [List.replicate_succ,List.flatten_cons]
  by_cases h:j<zc.length
  · rw [List.getElem?_append_left h,if_pos (by rw [Nat.add_mul];omega),Nat.mod_eq_of_lt h]
  · rw [List.getElem?_append_right (by omega),ih]
    by_cases h2:j<(c+1)*zc.length
    · rw [if_pos h2,if_pos (by rw [Nat.add_mul] at h2;omega)]
      conv=>rhs;rw [show j=j-zc.length+zc.length by omega,Nat.add_mod_right]
    · rw [if_neg h2,if_neg (by rw [Nat.add_mul] at h2;omega)]
theorem Zbh {α:Type} (zc:List α) (c:Nat):(List.replicate c zc).flatten.length=c*zc.length:=by simp
theorem Zw6 (hE:EngOk E) {t:TypeId} {x y:Operand} (ho:o.op= .makeSlice t x y) (hk:Zz8 E t (ev T x) (ev T y) i k):∃r,k r/\Z0 E o T h i r:=by
 have mx:x∈o.op.operands.toList:=by simp [ho,Op.operands]
 have my:y∈o.op.operands.toList:=by simp [ho,Op.operands]
 unfold Zz8 at hk
 split at hk
 · rename_i el _ _ _ l kd n m kd' c ht hX hY
   split at hk
   · rename_i ti hel
     obtain ⟨hund,_⟩:=hE.ty _ _ ht
     obtain ⟨_,info,hi1,hi2,hi3,hi4⟩:=hE.ty _ _ hel
     have run:∀(σ:Pl) (g:GH) (w:World) (ρ:Operand->Value),0<=n->n<=c->(ti.bytes:Int)*c<=281474976710656->0<ti.bytes->Den E σ g (ev T x) (ρ x)->Den E σ g (ev T y) (ρ y)->
      (execOp ρ o).run E.P w= .ok (.value (.slice (some ⟨w.heap.size,0,none⟩) n.toNat c.toNat)) (w.alloc (.cells (madeCells ti.zero.cells (c.toNat*ti.size)) el)):=by
      intro σ g w ρ h0 h1 h2 h3 d1 d2
      rw [hX] at d1;rw [hY] at d2
      generalize hv1:ρ x=v1 at d1;generalize hv2:ρ y=v2 at d2
      cases d1;cases d2
      have hc:c<=9223372036854775807:=by
       have:(1:Int)*c<=ti.bytes*c:=Int.mul_le_mul_of_nonneg_right (by omega) (by omega)
       omega
      have:=run_make (P:=E.P) w t el info ti.zero hund hi1 hi4 kd kd' n c h0 h1 (by rw [hi3];exact h2) hc
      rw [hi2] at this
      unfold execOp
      simp only [ho,hv1,hv2,Sem.run_bind,this,Result.andThen_ok,Sem.run_pure]
     have bound:0<ti.bytes->0<=n->n<=c->(ti.bytes:Int)*c<=281474976710656->c.toNat<=maxLen:=by
      intro h3 h0 h1 h2
      have:(1:Int)*c<=ti.bytes*c:=Int.mul_le_mul_of_nonneg_right (by omega) (by omega)
      unfold maxLen;omega
     obtain ⟨hz1,hz2⟩:=Yt (Y:=Y) (E:=E) ti.zero
     have cell:∀(σ:Pl) (g:GH) (cc j:Nat) (sv:SV Y),(Yo ti.zero:SV Y).cells.length=ti.size->0<ti.size->j<cc*ti.size->(Yo ti.zero:SV Y).cells[j%ti.size]? =some sv->∃v,(madeCells ti.zero.cells (cc*ti.size))[j]? =some v/\Den E σ g sv v:=by
      intro σ g cc j sv hl hp hj hsv
      obtain ⟨u,hu,hd⟩:=hz2 σ g _ _ hsv
      refine ⟨u,?_,hd⟩
      have hs:ti.zero.cells.size=ti.size:=by rw [<-hz1];exact hl
      unfold madeCells
      rw [Array.getElem?_map,Array.getElem?_range]
      rw [if_pos hj]
      simp only [Option.map_some,hs]
      rw [Array.getElem!_eq_getD,Array.getD_eq_getD_getElem?,hu];rfl
     split at hk
     · rename_i hb hl
       simp only [Bool.and_eq_true] at hb
       have hb1:=Yn hb.1.1
       have hb2:=Yn hb.1.2
       have hb3:=gC9 hb.2
       obtain ⟨⟨h0,h1,h2⟩,hk⟩:=Zw hk
       refine Vr (by intro es e;cases e) (fun σ g w ρ hx=> ?_) hk
       refine ⟨_,el,_,run σ g w ρ h0 h1 h2 hb1 (hx x mx) (hx y my),?_,?_,?_,?_⟩
       · exact Zns
       · simp only [Blk.cells,Zbh,size_madeCells,hb3];exact Nat.le_refl _
       · intro j sv hj
         simp only [Blk.cells] at hj
         rw [Zjh,hb3] at hj
         split at hj
         · exact cell σ g _ j sv hb3 hb2 ‹_› hj
         · cases hj
       · intro σ' hσ
         rw [size_madeCells] at hσ
         have:=Den.sl (E:=E) (g:=g) (σ:=σ') (b:=i) (off:=0) (len:=n.toNat) (w:=ti.size) (c:=c.toNat) (cap:=some c.toNat) hσ (by rw [Nat.zero_add];exact Nat.le_refl _) (by omega) (bound hb1 h0 h1 h2) (by intro m e;cases e;rfl)
         simpa using this
     · rename_i hb hl
       split at hk
       · rename_i th htg
         split at hk
         · rename_i z hdec
           simp only [Bool.and_eq_true] at hb
           have hb1:=Yn hb.1.1
           have hb2:=Yn hb.1.2
           have hb3:=gC9 hb.2
           obtain ⟨h0,h1,h2,hk⟩:=hk
           obtain ⟨hd1,hd2⟩:=hE.dec _ _ _ hdec
           have hw:E.w th=ti.size:=by omega
           refine Vr (by intro es e;cases e) (fun σ g w ρ hx=> ?_) hk
           have hfl:(Blk.rows th (List.replicate c.toNat z) 0).cells E=(List.replicate c.toNat (E.enc th z)).flatten:=by
            simp only [Blk.cells,List.flatMap_def,List.map_replicate]
           refine ⟨_,el,_,run σ g w ρ h0 h1 h2 hb1 (hx x mx) (hx y my),(Zp0 htg).2.symm,?_,?_,?_⟩
           · rw [hfl,Zbh,size_madeCells,hE.enc,hw];exact Nat.le_refl _
           · intro j sv hj
             rw [hfl,Zjh,hE.enc,hw] at hj
             split at hj
             · rename_i hjl
               have hm:j%ti.size<ti.size:=Nat.mod_lt _ hb2
               obtain ⟨s0,hs0⟩:∃s0,(Yo ti.zero:SV Y).cells[j%ti.size]? =some s0:=⟨_,gB9 (by omega)⟩
               obtain ⟨v,hv,hd⟩:=cell σ g _ j s0 hb3 hb2 hjl hs0
               exact ⟨v,hv,hd2 σ g _ _ _ _ hs0 hj hd⟩
             · cases hj
           · intro σ' hσ
             rw [size_madeCells] at hσ
             have:=Den.sl (E:=E) (g:=g) (σ:=σ') (b:=i) (off:=0) (len:=n.toNat) (w:=ti.size) (c:=c.toNat) (cap:=some c.toNat) hσ (by rw [Nat.zero_add];exact Nat.le_refl _) (by omega) (bound hb1 h0 h1 h2) (by intro m e;cases e;rfl)
             simpa using this
         · exact hk.elim
       · exact hk.elim
     · exact hk.elim
   · exact hk.elim
 · exact hk.elim
theorem Zcg {P:Program} (w:World) (dT sT ty elem:TypeId) (info:TypeInfo) (g' o' dLen dCap:Nat) (base:Option Addr) (sLen sCap:Nat) (cur:Array Value) (t:TypeId) (cs:List Value)
 (hu:P.underlying dT=some (.slice elem)) (hs:P.info? elem=some info) (hg:w.heap[g']? =some (.cells cur t (0,0))) (hn:cs.length=Nat.min sLen dLen*info.size) (hb:base=none->cs= [])
 (hsrc:∀a,base=some a->∀j v,cs[j]? =some v->w.cell? (a.add j)=some v) (hfit:o'+cs.length<=cur.size) (h1:∀v∈cs,v.oneCell'=true):
 (Builtin.copy_ #[dT,sT] ty #[.slice (some ⟨g',o',none⟩) dLen dCap,.slice base sLen sCap]).run P w=
  .ok (goInt (Nat.min sLen dLen)) (w.setRow g' (cur.toList.take o'++cs++cur.toList.drop (o'+cs.length)).toArray):=by
 have hst:=run_storeCells_at P g' o' t cs 0 cur w hg (by simpa using hfit) h1
 cases base with
 |none=>
  have:=hb rfl
  subst this
  simp [Builtin.copy_,run_underlying hu,Builtin.lenOf,Builtin.firstCells,sizeOf,typeInfo,hs] at hst⊢
  simp [hst]
 |some a=>
  have hl:=run_loadCells_list (P:=P) w a cs (hsrc a rfl)
  simp [Builtin.copy_,run_underlying hu,Builtin.lenOf,Builtin.firstCells,sizeOf,typeInfo,hs,<-hn,hl,hst]
theorem Zw7 {x:SV Y} {w0:Nat} {cs:List (SV Y)} {rd:List Nat} (hr:Zz9 h w0 x=some (cs,rd)) {hh:Hp Y} {σ:Pl} {g:GH} {w:World} {B:Nat} {v:Value} (hrd:∀b∈rd,hh b=h b) (hI:Inv E B σ hh g w) (hd:Den E σ g x v):
 ∃(base:Option Addr) (n c:Nat) (us:List Value),v= .slice base n c/\us.length=n*w0/\cs.length=n*w0/\(base=none->n=0)/\(∀a,base=some a->∀(j:Nat) u,us[j]? =some u->w.cell? (a.add j)=some u)/\
  ∀(j:Nat) sv u,cs[j]? =some sv->us[j]? =some u->Den E σ g sv u:=by
 unfold Zz9 at hr
 split at hr
 · cases hr;cases hd
   exact ⟨none,0,0,[],rfl,by simp,by simp,fun _=>rfl,(fun a e=>by cases e),fun j sv u hj=>by simp at hj⟩
 · rename_i b off len w' cap
   split at hr
   · rename_i cs0 fz tg hw hb
     obtain rfl:=gC9 hw
     split at hr
     · rename_i hle
       rw [Nat.ble_eq] at hle
       cases hr
       obtain ⟨r,z,c,rfl,hσ,hz,hl,hm,_⟩:=W7 hd
       obtain ⟨r',z',hσ',hbo⟩:=hI.blk b _ ((hrd b (by simp)).trans hb)
       rw [hσ] at hσ';cases hσ'
       obtain ⟨u,hu1,hu2⟩:=X4 (by intro es e;cases e) hbo
       simp only [Blk.cells] at hu1 hu2
       have e:(off+len)*w0=off*w0+len*w0:=Nat.add_mul _ _ _
       refine ⟨_,len,c,(List.range (len*w0)).map fun j=>u (off*w0+j),rfl,by simp,by simp;omega,(fun e=>by cases e),?_,?_⟩
       · intro a ea j uu hj
         cases ea
         rw [List.getElem?_map] at hj
         obtain ⟨j',hj',rfl⟩:=Option.map_eq_some_iff.1 hj
         obtain ⟨hlt,rfl⟩:j<len*w0/\j=j':=by
          obtain ⟨h1,h2⟩:=gA9.1 hj'
          simp at h1 h2
          exact ⟨h1,h2⟩
         rw [Yq]
         exact hu1 _ (by omega)
       · intro j sv uu hj huu
         rw [List.getElem?_map] at huu
         obtain ⟨j',hj',rfl⟩:=Option.map_eq_some_iff.1 huu
         obtain ⟨hlt,rfl⟩:j<len*w0/\j=j':=by
          obtain ⟨h1,h2⟩:=gA9.1 hj'
          simp at h1 h2
          exact ⟨h1,h2⟩
         rw [List.getElem?_take,if_pos hlt,List.getElem?_drop] at hj
         exact hu2 _ _ hj
     · cases hr
   · cases hr
 · cases hr
theorem Zw8 (hE:EngOk E) {c:Call} (hc:c.callee= .builtin .copy) (ho:o.op= .call c) {t:TypeId} {ts:List TypeId} {x y:Operand} (ha:c.args.toList= [x,y]) (hat:c.argTypes.toList=t::ts) (hk:Z0a E t (ev T x) (ev T y) h k):∃r,k r/\Z0 E o T h i r:=by
 have mx:x∈o.op.operands.toList:=by
  have:x∈c.args.toList:=by rw [ha];simp
  simp [ho,Op.operands,Call.operands,hc];simpa using this
 have my:y∈o.op.operands.toList:=by
  have:y∈c.args.toList:=by rw [ha];simp
  simp [ho,Op.operands,Call.operands,hc];simpa using this
 have haa:c.args= #[x,y]:=by rw [<-Array.toArray_toList (xs:=c.args),ha]
 have hta:c.argTypes[0]? =some t:=by rw [<-Array.getElem?_toList,hat];rfl
 unfold Z0a at hk
 split at hk
 · rename_i el _ _ _ b off len w0 cap ht hX
   obtain ⟨hund,_⟩:=hE.ty _ _ ht
   have run:∀(w w':World) (ρ:Operand->Value) (u:Value),(Builtin.copy_ #[t,t] o.type #[ρ x,ρ y]).run E.P w= .ok u w'->(execOp ρ o).run E.P w= .ok (.value u) w':=by
    intro w w' ρ u hl
    have e:Builtin.copy_ c.argTypes o.type #[ρ x,ρ y]=Builtin.copy_ #[t,t] o.type #[ρ x,ρ y]:=by
     unfold Builtin.copy_
     rw [hta];rfl
    unfold execOp
    simp only [ho,resolve,hc,Sem.run_bind,Sem.run_pure,Result.andThen_ok,invoke,builtin,haa]
    rw [show (#[x,y].map ρ)= #[ρ x,ρ y] by simp,e,hl];rfl
   split at hk
   · rename_i ti th l fz hel hb
     obtain ⟨_,info,hi1,hi2,hi3,hi4⟩:=hE.ty _ _ hel
     split at hk
     · rename_i hw
       simp only [Bool.and_eq_true] at hw
       obtain rfl:=gC9 hw.1
       have hsz:=gC9 hw.2
       obtain ⟨lit,l2,rd2,hk,hcont⟩:=Za3 hE hk
       obtain ⟨⟨hfz,hle⟩,hk⟩:=Zw hk
       refine ⟨_,hk,fun b' hb'=>by (simp [change] at hb';subst hb';rw [hb];simp),?_⟩
       intro B σ g w ρ hh hrd hI hB hfree hx
       have hrd':∀b'∈b::rd2,hh b'=h b':=hrd
       have hb':=(hrd' b (by simp)).trans hb
       obtain ⟨base2,c2,us,C⟩:=hcont hh σ g w B (ρ y) (fun b' hb'=>hrd' b' (by simp [hb'])) hI (hx y my)
       have hd:=hx x mx
       rw [hX] at hd
       obtain ⟨r,z,c1,e1,hσ,hz,hlc,hmx,_⟩:=W7 hd
       obtain ⟨r',z',hσ',hbo⟩:=hI.blk b _ hb'
       rw [hσ] at hσ';cases hσ'
       obtain ⟨arr,e,harr,hasz,hcl,hcd,hele⟩:=(BlkOk.cells_iff (by intro es e;cases e)).1 hbo
       simp only [Blk.cells] at hcl hcd
       rw [Zz hE] at hcl
       have hmin:min l2.length len<=l2.length:=Nat.min_le_left _ _
       have hmin2:min l2.length len<=len:=Nat.min_le_right _ _
       generalize hn:min l2.length len=n at*
       have hn':Nat.min l2.length len=n:=hn
       have hnw:n*E.w th<=l2.length*E.w th:=Nat.mul_le_mul_right _ hmin
       have hlen:=C.len
       have hcs:(us.take (n*E.w th)).length=n*E.w th:=by rw [List.length_take];omega
       have hfit:(off+n)*E.w th<=l.length*E.w th:=Nat.mul_le_mul_right _ (by omega)
       rw [Nat.add_mul] at hfit
       have hone:∀u∈us.take (n*E.w th),u.oneCell'=true:=by
        intro u hu
        obtain ⟨j,hj,rfl⟩:=List.getElem_of_mem (List.mem_of_mem_take hu)
        have hj':j<(l2.flatMap (E.enc th)).length:=by rw [Zz hE];omega
        exact Vf (Ziu hE th l2 (gB9 hj')) (C.den j _ _ (gB9 hj') (gB9 hj))
       have hrun:=Zcg (P:=E.P) w t t o.type el info r (off*E.w th) len c1 base2 l2.length c2 arr e (us.take (n*E.w th)) hund hi1 harr (by rw [hcs,hn',hi2,hsz]) (fun eb=>by
        have h0:=C.nil eb
        have h1:=C.le
        have:n=0:=by omega
        rw [this];simp) (fun a ea j v hj=>by
        rw [List.getElem?_take] at hj
        split at hj
        · obtain ⟨r2,o2,hb2⟩:=C.some (by
           rcases Nat.eq_zero_or_pos l2.length with e0|e0
           · have hlt:=(gA9.1 hj).1
             rw [hlen,e0] at hlt;simp at hlt
           · exact e0)
          rw [ea] at hb2;cases hb2
          rw [Yq];exact C.cell r2 o2 ea j v hj
        · cases hj) (by rw [hcs];omega) hone
       have hsp:=Yz arr.toList (us.take (n*E.w th)) (off*E.w th) (by rw [hcs];simp;omega)
       have hll:(l.take off++l2.take len++l.drop (off+n)).length=l.length:=by
        simp only [List.length_append,List.length_take,List.length_drop]
        rw [Nat.min_comm] at hn
        omega
       have hl2n:(l2.take len).length=n:=by rw [List.length_take,Nat.min_comm];exact hn
       obtain ⟨hI',hS⟩:=Zbr (i:=i) hI (blk':= .rows th (l.take off++l2.take len++l.drop (off+n)) fz) hb' hσ (arr':=(arr.toList.take (off*E.w th)++us.take (n*E.w th)++arr.toList.drop (off*E.w th+(us.take (n*E.w th)).length)).toArray) harr (by simp;omega) hasz hele (by intro es e;cases e) rfl
        (fun m hm=>by
         simp only [Blk.fzc] at hm
         have:=Nat.mul_le_mul_right (E.w th) hfz
         rw [List.getElem?_toArray,hsp,if_pos (by omega)];simp) (by simp only [Blk.cells];rw [Zz hE,hll];exact hcl)
        (fun m sv hm=>by
         simp only [Blk.cells] at hm
         obtain ⟨q,p,y',rfl,hp,hq,hs⟩:=Xk hE th _ hm
         rw [List.getElem?_toArray,hsp,hcs]
         have old:l[q]? =some y'->∃v,arr.toList[q*E.w th+p]? =some v/\Den E σ g sv v:=by
          intro hq
          obtain ⟨v,hv,hd⟩:=hcd (q*E.w th+p) sv (by rw [Yu hE th l q y' hq p hp];exact hs)
          exact ⟨v,by simpa using hv,hd⟩
         have hqw:q*E.w th+p<(q+1)*E.w th:=by rw [Nat.add_mul];omega
         by_cases q1:q<off
         · have:(q+1)*E.w th<=off*E.w th:=Nat.mul_le_mul_right _ q1
           rw [if_pos (by omega)]
           rw [List.append_assoc,List.getElem?_append_left (by rw [List.length_take];omega),List.getElem?_take,if_pos q1] at hq
           exact old hq
         · have g1:off*E.w th<=q*E.w th:=Nat.mul_le_mul_right _ (by omega)
           rw [if_neg (by omega)]
           rw [List.append_assoc,List.getElem?_append_right (by rw [List.length_take];omega)] at hq
           have ht:(l.take off).length=off:=by rw [List.length_take];omega
           rw [ht] at hq
           by_cases q2:q<off+n
           · have g2:(q+1)*E.w th<=(off+n)*E.w th:=Nat.mul_le_mul_right _ q2
             rw [Nat.add_mul off n] at g2
             rw [if_pos (by omega)]
             rw [List.getElem?_append_left (by omega),List.getElem?_take] at hq
             split at hq
             · have g3:q*E.w th+p-off*E.w th=(q-off)*E.w th+p:=by rw [Nat.sub_mul];omega
               have hlt:(q-off)*E.w th+p<us.length:=by
                have g4:(q-off+1)*E.w th<=l2.length*E.w th:=Nat.mul_le_mul_right _ (gA9.1 hq).1
                rw [Nat.add_mul] at g4
                omega
               refine ⟨us[(q-off)*E.w th+p],?_,C.den _ _ _ (by rw [Yu hE th l2 _ y' hq p hp];exact hs) (gB9 hlt)⟩
               rw [g3,List.getElem?_take,if_pos (by omega),gB9 hlt]
             · cases hq
           · have g2:(off+n)*E.w th<=q*E.w th:=Nat.mul_le_mul_right _ (by omega)
             rw [Nat.add_mul] at g2
             rw [if_neg (by omega)]
             rw [List.getElem?_append_right (by omega),List.getElem?_drop,hl2n] at hq
             rw [show off+n+(q-off-n)=q by omega] at hq
             exact old hq)
       refine Y2 (run w _ ρ _ (by rw [e1,C.v];exact hrun)) ⟨σ,g,hS,by rw [Y9];exact hI',?_⟩
       rw [hn']
       exact .int _ _ _
     · exact hk.elim
   · rename_i ti cs fz tg hel hb
     obtain ⟨_,info,hi1,hi2,hi3,hi4⟩:=hE.ty _ _ hel
     split at hk
     · rename_i c2 rd2 hw hraw
       split at hk
       · rename_i hchk
         simp only [Bool.and_eq_true,Nat.ble_eq] at hw hchk
         have hsz:=gC9 hw.1
         have hpos:=Yn hw.2
         obtain ⟨⟨hfz,hfits⟩,hlv⟩:=hchk
         refine ⟨_,hk,fun b' hb'=>by (simp [change] at hb';subst hb';rw [hb];simp),?_⟩
         intro B σ g w ρ hh hrd hI hB hfree hx
         have hrd':∀b'∈b::rd2,hh b'=h b':=hrd
         have hb':=(hrd' b (by simp)).trans hb
         obtain ⟨base2,n2,cc2,us,ev2,hul,hcl2,hnil,hcell,hden⟩:=Zw7 hraw (fun b' hb'=>hrd' b' (by simp [hb'])) hI (hx y my)
         have hd:=hx x mx
         rw [hX] at hd
         obtain ⟨r,z,c1,e1,hσ,hz,hlc,hmx,_⟩:=W7 hd
         obtain ⟨r',z',hσ',hbo⟩:=hI.blk b _ hb'
         rw [hσ] at hσ';cases hσ'
         obtain ⟨arr,e,harr,hasz,hcl,hcd,hele⟩:=(BlkOk.cells_iff (by intro es e;cases e)).1 hbo
         simp only [Blk.cells] at hcl hcd
         have hmin:min n2 len<=n2:=Nat.min_le_left _ _
         have hmin2:min n2 len<=len:=Nat.min_le_right _ _
         generalize hn:min n2 len=n at*
         have hn':Nat.min n2 len=n:=hn
         have g1:n*w0<=n2*w0:=Nat.mul_le_mul_right _ hmin
         have g2:n*w0<=len*w0:=Nat.mul_le_mul_right _ hmin2
         have hcs:(us.take (n*w0)).length=n*w0:=by rw [List.length_take];omega
         have hcs2:(c2.take (len*w0)).length=n*w0:=by
          rw [List.length_take,hcl2,<-hn,<-Nat.mul_min_mul_right,Nat.min_comm]
         rw [Nat.add_mul] at hfits
         have hone:∀u∈us.take (n*w0),u.oneCell'=true:=by
          intro u hu
          obtain ⟨j,hj,rfl⟩:=List.getElem_of_mem (List.mem_of_mem_take hu)
          have hj':j<c2.length:=by omega
          exact Vf (W5 hlv (gB9 hj')) (hden j _ _ (gB9 hj') (gB9 hj))
         have hrun:=Zcg (P:=E.P) w t t o.type el info r (off*w0) len c1 base2 n2 cc2 arr e (us.take (n*w0)) hund hi1 harr (by rw [hcs,hn',hi2,hsz]) (fun eb=>by
          have:=hnil eb
          have:n=0:=by omega
          rw [this];simp) (fun a ea j v hj=>by
          rw [List.getElem?_take] at hj
          split at hj
          · exact hcell a ea j v hj
          · cases hj) (by rw [hcs];omega) hone
         have hspa:=Yz arr.toList (us.take (n*w0)) (off*w0) (by rw [hcs];simp;omega)
         have hspc:=Yz cs (c2.take (len*w0)) (off*w0) (by rw [hcs2];omega)
         obtain ⟨hI',hS⟩:=Zbr (i:=i) hI (blk':= .raw (Xq cs (off*w0) (c2.take (len*w0))) fz tg) hb' hσ (arr':=(arr.toList.take (off*w0)++us.take (n*w0)++arr.toList.drop (off*w0+(us.take (n*w0)).length)).toArray) harr (by simp;omega) hasz (by first|exact hele|(cases tg<;>exact hele)) (by intro es e;cases e) rfl
          (fun m hm=>by
           simp only [Blk.fzc] at hm
           rw [List.getElem?_toArray,hspa,if_pos (by omega)];simp) (by simp only [Blk.cells,Xq,List.length_append,List.length_drop];rw [List.length_take,hcs2];omega)
          (fun m sv hm=>by
           simp only [Blk.cells,Xq] at hm
           rw [hspc,hcs2] at hm
           rw [List.getElem?_toArray,hspa,hcs]
           by_cases q1:m<off*w0
           · rw [if_pos q1] at hm⊢
             obtain ⟨v,hv,hd⟩:=hcd m sv hm
             exact ⟨v,by simpa using hv,hd⟩
           · rw [if_neg q1] at hm⊢
             by_cases q2:m<off*w0+n*w0
             · rw [if_pos q2] at hm⊢
               rw [List.getElem?_take] at hm
               split at hm
               · have hlt:m-off*w0<us.length:=by omega
                 exact ⟨us[m-off*w0],by rw [List.getElem?_take,if_pos (by omega),gB9 hlt],hden _ _ _ hm (gB9 hlt)⟩
               · cases hm
             · rw [if_neg q2] at hm⊢
               obtain ⟨v,hv,hd⟩:=hcd m sv hm
               exact ⟨v,by simpa using hv,hd⟩)
         refine Y2 (run w _ ρ _ (by rw [e1,ev2];exact hrun)) ⟨σ,g,hS,by rw [Y9];exact hI',?_⟩
         rw [hn']
         have:min (c2.length/w0) len=n:=by rw [hcl2,Nat.mul_div_cancel _ hpos];exact hn
         show Den E σ g (.int true .i64 (min (c2.length/w0) len:Nat)) _
         rw [this]
         exact .int _ _ _
       · exact hk.elim
     · exact hk.elim
   · exact hk.elim
 · exact hk.elim
theorem Zt4 (hE:EngOk E) {src dst el:TypeId} {x:Operand} {s0:List Nat} {d:TypeDesc} {a1 a2:Nat} {z:Value} (hs:E.P.underlying src=some d) (ho:o.op= .convert src dst x) (ht:E.ty dst=some ⟨.slice el,a1,a2,z⟩) (hX:ev T x= .str true s0) (hk:Znk E el s0 k):∃r,k r/\Z0 E o T h i r:=by
 have mx:x∈o.op.operands.toList:=by simp [ho,Op.operands]
 unfold Znk at hk
 split at hk
 · rename_i _ _ _ th hel htag
   rw [Xf] at hk
   split at hk
   · rename_i l hdec hb
     simp only [Bool.and_eq_true,Nat.beq_eq,Nat.ble_eq] at hb
     obtain ⟨hw,hsz⟩:=hb
     obtain ⟨d1,d2⟩:=Yr hE hdec
     have hu:=(hE.ty _ _ ht).1
     have hue:=(hE.ty _ _ hel).1
     refine ⟨_,hk,fun b hb=>by simp [Zd] at hb,fun B σ g w ρ hh hrd hI hB hfree hx=> ?_⟩
     have h1:=hx x mx
     rw [hX] at h1
     generalize hv1:ρ x=v1 at h1
     cases h1
     rename_i s hs0
     subst hs0
     have e1:(toL s).length=s.data.size:=by simp [toL]
     have e2:((toL s).map fun n:Nat=>(.int false .u8 (n:Int):SV Y))=s.data.toList.map fun b=> .int false .u8 (b.toNat:Int):=by rw [toL,List.map_map];rfl
     rw [e1] at hsz
     have hlen:l.length=s.data.size:=d1.trans e1
     rw [e2] at d2
     have hrun:(execOp ρ o).run E.P w= .ok (.value (.slice (some ⟨w.heap.size,0,none⟩) s.size (grownCap w s.size 0 el))) (Lib.bytesWorld w el s):=by
      unfold execOp
      simp only [ho,hv1,Sem.run_bind,Lib.run_convert_string_bytes w src dst el s hs hu hue,Result.andThen_ok,Sem.run_pure]
     have hss:s.size=s.data.size:=rfl
     obtain ⟨g',hg'⟩:∃g':GH,g'={cell:=fun r n=>if r=w.heap.size/\n<s.size then (Lib.bytesWorld w el s).cell? ⟨r,n,none⟩ else g.cell r n,obj:=g.obj}:=⟨_,rfl⟩
     have glt:∀r n v,g.cell r n=some v->r<w.heap.size:=fun r n v hc=>block_lt_of_cell (hI.gc r n v hc)
     have gmlt:∀r es,g.obj r=some es->r<w.heap.size:=fun r es hc=>by obtain ⟨c,h⟩:=hI.gm r es hc;exact (Array.getElem?_eq_some_iff.1 h).1
     have hgc:∀r n v,g.cell r n=some v->g'.cell r n=some v:=by
      intro r n v hc
      have:=glt r n v hc
      rw [hg']
      show (if _ then _ else _)=_
      rw [if_neg (by omega)];exact hc
     have hinv:∀r n v,g'.cell r n=some v->g.cell r n=some v\/(r=w.heap.size/\(Lib.bytesWorld w el s).cell? ⟨r,n,none⟩=some v):=by
      intro r n v hc
      rw [hg'] at hc
      have hc:(if r=w.heap.size/\n<s.size then (Lib.bytesWorld w el s).cell? ⟨r,n,none⟩ else g.cell r n)=some v:=hc
      split at hc
      · rename_i e;exact .inr ⟨e.1,hc⟩
      · exact .inl hc
     have hle:g.le g':=⟨hgc,fun r es hc=>by rw [hg'];exact hc⟩
     have hold:∀r,r<w.heap.size->(Lib.bytesWorld w el s).heap[r]? =w.heap[r]? :=fun r hr=>Lib.bytesWorld_at_old w el s r hr
     have hsize:=Lib.bytesWorld_size w el s
     refine Y2 hrun ⟨σ,g',⟨.refl _,fun b p h=> .inl h,hle,fun r n v hc=> ?_,fun r es hc=> .inl (by rw [hg'] at hc;exact hc),fun r hr _=>hold r hr,by omega,rfl,rfl,rfl,fun b r z h1 h2=>by rw [h1] at h2;cases h2⟩,?_,?_⟩
     · rcases hinv r n v hc with h1|⟨h1,_⟩
       · exact .inl h1
       · exact .inr (.inl (by omega))
     · rw [Xb]
       refine ⟨fun r n v hc=> ?_,fun r es hc=> ?_,fun b x hx=> ?_,hI.inj,fun b r z hb=>⟨(hI.base b r z hb).1,by have:=(hI.base b r z hb).2;omega⟩,fun b x r z n v hx hb hc=> ?_,fun b x r z hx hb=> ?_,fun n sv hn j s' hj=> ?_⟩
       · rcases hinv r n v hc with h1|⟨_,h1⟩
         · rw [World.cell?_of_block (w:=w) (hold r (glt _ _ _ h1))];exact hI.gc _ _ _ h1
         · exact h1
       · rw [hg'] at hc
         obtain ⟨c,h⟩:=hI.gm r es hc
         exact ⟨c,(hold r (gmlt _ _ hc)).trans h⟩
       · obtain ⟨r,z,h1,h2⟩:=hI.blk b x hx
         exact ⟨r,z,h1,h2.mono (.refl _) hle (hold r (hI.base _ _ _ h1).2)⟩
       · rcases hinv r n v hc with h1|⟨h1,_⟩
         · exact hI.fz b x r z n v hx hb h1
         · have:=(hI.base _ _ _ hb).2;omega
       · rw [hg'];exact hI.fm b x r z hx hb
       · obtain ⟨v,h1,h2⟩:=hI.glob n sv hn j s' hj
         exact ⟨v,hgc _ _ _ h1,h2.mono (.refl _) hle⟩
     · have hcell:∀q,q<s.size->g'.cell w.heap.size q=some (.int .u8 (s.data.toList.getD q 0).toNat):=by
        intro q hq
        rw [hg']
        show (if _ then _ else _)=_
        rw [if_pos ⟨rfl,hq⟩]
        exact Lib.bytesWorld_cell w el s q hq
       have hp:=Den.psl (E:=E) (σ:=σ) (g:=g') (th:=th) (l:=l) (full:=false) (base:=some ⟨w.heap.size,0,none⟩) (c:=grownCap w s.size 0 el) (fun q _=> .int .u8 (s.data.toList.getD q 0).toNat)
        (by rw [hlen,<-hss];exact grownCap_ge w _ _ _) (grownCap_le_maxLen w _ _ _ (by unfold maxLen;omega)) (by simp) (fun e=>by cases e)
        (fun _=>⟨w.heap.size,0,rfl,fun q y hq j hj=>by
         rw [hE.enc,hw] at hj
         obtain rfl:j=0:=by omega
         have hq':q<l.length:=(gA9.1 hq).1
         rw [hw,Nat.zero_add,Nat.mul_one,Nat.add_zero]
         exact hcell q (by omega)⟩)
        (fun q y hq j sv hj=>by
         have hjw:j<E.w th:=by rw [<-hE.enc th y];exact (gA9.1 hj).1
         obtain rfl:j=0:=by omega
         have hf:=Yu hE th l q y hq 0 (by omega)
         rw [hj] at hf
         obtain ⟨s0,k1,k2⟩:=d2 _ _ hf
         rw [hw,Nat.mul_one,Nat.add_zero,List.getElem?_map] at k1
         obtain ⟨b,hb1,rfl⟩:=Option.map_eq_some_iff.1 k1
         refine k2 _ _ _ ?_
         rw [List.getD_eq_getElem?_getD,hb1]
         exact .int _ _ _)
       rw [hlen] at hp
       exact hp
   · exact hk.elim
 · exact hk.elim
end
end
section
open Go.RowKit
section
variable {Y:Thy} {E:Eng Y} {o:Oper} {T:Fr Y} {h:Hp Y} {i:Nat} {k:Res Y->Prop}
theorem Zsi (hE:EngOk E) {t:TypeId} {th:Y.Th} (ho:o.op= .alloc t) (hth:E.arrOf t=some th) (hk:Zgx E t th i k):∃r,k r/\Z0 E o T h i r:=by
 unfold Zgx at hk
 split at hk
 · rename_i n el sz by_ z ht
   split at hk
   · rename_i l hdec hlen
     have hlen:=gC9 hlen
     obtain ⟨d1,d2⟩:=Yr hE hdec
     refine Vr (by intro es e;cases e) (fun σ g w ρ hx=> ?_) hk
     obtain ⟨h1,h2⟩:=Yt (E:=E) z
     refine ⟨z.cells,t,.pointer (some ⟨w.heap.size,0,none⟩),?_,(hE.arr _ _ hth).symm,?_,fun j sv hj=> ?_,fun σ' hσ=> .ptr hσ⟩
     · unfold execOp
       simp only [ho,Instr.alloc,Sem.run_bind,Ve hE ht,Result.andThen_ok,newVar,newRow,newObj,Sem.run,Sem.run_pure]
       rfl
     · show (l.flatMap (E.enc th)).length<=_
       rw [Zz hE,d1,<-h1,hlen]
       exact Nat.le_refl _
     · obtain ⟨s0,h3,h4⟩:=d2 j sv hj
       obtain ⟨u,h5,h6⟩:=h2 σ g j s0 h3
       exact ⟨u,h5,h4 σ g u h6⟩
   · exact hk.elim
 · exact hk.elim
theorem Zzr (hE:EngOk E) {t:TypeId} {th:Y.Th} {x:Operand} (ho:o.op= .box t x) (hth:E.arrOf t=some th) (hk:Znj E t th (ev T x) i k):∃r,k r/\Z0 E o T h i r:=by
 unfold Znj at hk
 split at hk
 · rename_i n el sz by_ z ht
   split at hk
   · rename_i l hdec hlen
     simp only [Bool.and_eq_true] at hlen
     obtain ⟨hlen,hl⟩:=hlen
     have hlen:=gC9 hlen
     obtain ⟨d1,d2⟩:=Yr hE hdec
     refine Vr (by intro es e;cases e) (fun σ g w ρ hx=> ?_) hk
     obtain ⟨h1,h2⟩:=W4 (hx x (by simp [ho,Op.operands])) hl
     refine ⟨(ρ x).cells,t,.pointer (some ⟨w.heap.size,0,none⟩),?_,(hE.arr _ _ hth).symm,?_,fun j sv hj=> ?_,fun σ' hσ=> .ptr hσ⟩
     · unfold execOp
       simp only [ho,Instr.box,Sem.run_bind,Result.andThen_ok,newVar,newRow,newObj,Sem.run,Sem.run_pure]
       rfl
     · show (l.flatMap (E.enc th)).length<=_
       rw [Zz hE,d1,<-h1,hlen]
       exact Nat.le_refl _
     · obtain ⟨s0,h3,h4⟩:=d2 j sv hj
       obtain ⟨u,h5,h6⟩:=h2 j s0 h3
       exact ⟨u,h5,h4 σ g u h6⟩
   · exact hk.elim
 · exact hk.elim
theorem Zoz (hE:EngOk E) {t:TypeId} {x ix:Operand} (ho:o.op= .index t x ix) (hk:Zbv E t (ev T x) (ev T ix) k):∃r,k r/\Z0 E o T h i r:=by
 have mx:x∈o.op.operands.toList:=by simp [ho,Op.operands]
 have my:ix∈o.op.operands.toList:=by simp [ho,Op.operands]
 unfold Zbv at hk
 split at hk
 · rename_i len el sz by_ z cs kd n ht hX hIx
   split at hk
   · rename_i ti hel
     split at hk
     · rename_i hrow
       unfold Zlj at hk
       split at hk
       · rename_i th hth
         split at hk
         · rename_i ls hdec hc
           simp only [Bool.and_eq_true] at hc
           have hlen:=gC9 hc.1
           have hsz:=gC9 hc.2
           obtain ⟨h0,hlt,y,hy,hk⟩:=Zn5 hk
           obtain ⟨d1,d2⟩:=Yr hE hdec
           have hnl:n.toNat<len:=by rw [<-d1];exact (gA9.1 hy).1
           have hle:n.toNat*ti.size+ti.size<=cs.length:=by
            rw [hlen,hsz,<-Nat.succ_mul]
            exact Nat.mul_le_mul_right _ hnl
           have hr:W8 (Zs ti.d) ti.size (n.toNat*ti.size) cs=some (.agg ((cs.drop (n.toNat*ti.size)).take ti.size)):=by
            unfold W8
            rw [hrow]
            simp only [hle,decide_true]
           refine Ya mx my (fun σ g w ρ h1 h2=> ?_) hk
           rw [hX] at h1;rw [hIx] at h2
           generalize hv1:ρ x=v1 at h1;generalize hv2:ρ ix=v2 at h2
           obtain ⟨arr,_,rfl,_⟩:=Yl h1
           cases h2
           obtain ⟨u,hu,hd⟩:=Vl hE hel h1 hr w
           refine ⟨u,?_,?_⟩
           · unfold execOp
             have h0':0<=n/\n<(len:Int):=by omega
             simp only [ho,hv1,hv2,Instr.index,Sem.run_bind,asIntOf,Sem.run_pure,Result.andThen_ok,Zx hE ht]
             rw [if_pos h0']
             simp only [Sem.run_bind,Zy hE hel,Result.andThen_ok,hu,Sem.run_pure]
           · obtain ⟨arr2,c,rfl,hs,hcc,hdd⟩:=Yl hd
             have hl2:((cs.drop (n.toNat*ti.size)).take ti.size).length=ti.size:=by
              rw [List.length_take,List.length_drop];omega
             refine .agg c (by rw [hE.enc,<-hsz,<-hl2];exact hs) (fun j hj=>hcc j (by rw [hl2,hsz,<-hE.enc th y];exact hj)) fun j sv hj=> ?_
             have hjw:j<E.w th:=by rw [<-hE.enc th y];exact (gA9.1 hj).1
             obtain ⟨s0,h3,h4⟩:=d2 (n.toNat*E.w th+j) sv (by rw [Yu hE th ls _ y hy j hjw];exact hj)
             refine h4 σ g _ (hdd j s0 ?_)
             rw [List.getElem?_take,if_pos (by omega),List.getElem?_drop,hsz]
             exact h3
         · exact hk.elim
       · exact hk.elim
     · exact Zja hE ho (by rw [hX,hIx] at hk;rw [hX,hIx];exact hk)
   · exact hk.elim
 · exact Zja hE ho hk
theorem tagR {el:TypeId} {th:Y.Th} {l:List (Y.dom th)} {fz:Nat} (h:U0 E el=some th):ElOk E el (.rows th l fz):=by
 unfold U0 at h
 split at h
 · split at h
   · rename_i hb
     cases h
     exact (gC9 hb).symm
   · cases h
 · cases h
theorem Zdp (hE:EngOk E) {t:TypeId} {len:Nat} {parts:Array (Nat×Operand)} (ho:o.op= .buildSlice t len parts) (hk:V1 E t len (parts.toList.map fun p=>(p.1,ev T p.2)) i k):∃r,k r/\Z0 E o T h i r:=by
 have mx:∀x,x∈parts.toList.map (·.2)->x∈o.op.operands.toList:=by intro x hx;simpa [ho,Op.operands] using hx
 unfold V1 at hk
 split at hk
 · rename_i el sz by_ z ht
   split at hk
   · rename_i ti th hel htag
     split at hk
     · rename_i cs hc hf
       simp only [Bool.and_eq_true,Nat.ble_eq] at hc
       obtain ⟨⟨hsm,hlm⟩,h0,hzl⟩:=hc
       split at hk
       case h_2=>exact hk.elim
       rename_i l hdec hsw
       have hsw:=gC9 hsw
       obtain ⟨d1,d2⟩:=Yr hE hdec
       have h0:0<ti.size:=Yn h0
       have hzl:(Yo ti.zero:SV Y).cells.length=ti.size:=gC9 hzl
       have hzs:ti.zero.cells.size=ti.size:=by rw [<-(Yt (E:=E) ti.zero).1];exact hzl
       refine Vr (by intro es e;cases e) (fun σ g w ρ hx=> ?_) hk
       obtain ⟨p1,p2⟩:=Zbj (E:=E) (σ:=σ) (g:=g) (T:=T) (ρ:=ρ) (parts:=parts) (fun x hm=>hx x (mx x hm))
       have hA:DenA E σ g ((List.replicate len (Yo ti.zero:SV Y).cells).flatten) ((Array.range (len*ti.size)).map (ti.zero.cells[· %ti.zero.cells.size]!)):=by
        have hr:=Zt7 hzl h0 len
        refine ⟨?_,fun j s hj=> ?_⟩
        · rw [Array.size_map,Array.size_range]
          simp [hzl]
        · rw [hr] at hj
          by_cases c:j<len*ti.size
          · rw [if_pos c] at hj
            obtain ⟨u,hu,hd⟩:=(Yt (E:=E) ti.zero).2 σ g _ s hj
            refine ⟨u,?_,hd⟩
            have hlt:j%ti.size<ti.zero.cells.size:=by rw [hzs];exact Nat.mod_lt _ h0
            rw [Array.getElem?_map,Array.getElem?_range,if_pos c,Option.map_some,hzs]
            have he:ti.zero.cells[j%ti.size]! =u:=by simp [getElem!_def,hu]
            rw [he]
          · rw [if_neg c] at hj;cases hj
       obtain ⟨arr',h1,h2⟩:=Zbi _ _ _ _ _ hA p1 p2 hf
       obtain ⟨hu,_⟩:=hE.ty _ _ ht
       obtain ⟨_,info',hi',hs',_,hz'⟩:=hE.ty _ _ hel
       have hA2:=h2.1
       have hlen:arr'.size=len*ti.size:=by
        have:∀(ps:List (Nat×SV Y)) (cells cs:List (SV Y)) (pl:Nat->Option (Nat×Nat)),Za6 pl cells ps=some cs->cs.length=cells.length:=by
         intro ps
         induction ps with
         |nil=>intro cells cs pl h;simp [Za6] at h;rw [h]
         |cons p ps ih=>
          intro cells cs pl h
          simp only [Za6] at h
          split at h
          · cases h
          · split at h
            · rename_i hcc
              simp only [Bool.and_eq_true,Nat.ble_eq,decide_eq_true_eq] at hcc
              rw [ih _ _ _ h];simp [Xq];omega
            · cases h
        rw [<-hA2,this _ _ _ _ hf,hA.1];simp
       refine ⟨arr',el,.slice (some ⟨w.heap.size,0,none⟩) len len,?_,tagR htag,?_,fun j s hj=> ?_,fun σ' hσ=> ?_⟩
       rotate_left
       · show (l.flatMap (E.enc th)).length<=_
         rw [Zz hE,d1,hlen,hsw]
         exact Nat.le_refl _
       · obtain ⟨s0,h3,h4⟩:=d2 j s hj
         obtain ⟨u,h5,h6⟩:=h2.2 j s0 h3
         exact ⟨u,h5,h4 σ g u h6⟩
       rotate_left
       · unfold execOp
         simp only [ho,Sem.run_bind]
         by_cases hpos:len*info'.size=0
         · have hl0:len=0:=by
            rw [hs'] at hpos
            rcases Nat.mul_eq_zero.1 hpos with h|h<;>omega
           have hrun:(Instr.buildSlice t len (parts.map fun (n,x)=>(n,ρ x))).run E.P w= .ok (.slice (some ⟨w.heap.size,0,none⟩) len len) (w.alloc (.cells arr' el)):=by
            subst hl0
            have e0:∀f:Nat->Value,Array.map f (Array.range 0)= #[]:=fun f=>by apply Array.ext';simp
            simp [e0] at h1
            simp [e0,Instr.buildSlice,run_underlying hu,sizeOf,typeInfo,hi',h1,hs',newRow]
           rw [hrun];rfl
         · rw [run_buildSlice w t el len _ arr' info' ti.zero hu hi' hz' (by rw [hs'];omega) hpos (by rw [hs'];exact h1)];rfl
       · have:=Den.sl (E:=E) (g:=g) (b:=i) (off:=0) (len:=len) (w:=ti.size) (c:=len) (cap:=some len) hσ (by rw [hlen];simp) (Nat.le_refl _) (by unfold maxLen;omega) (by intro m e;cases e;rfl)
         simpa using this
     · exact hk.elim
   · exact hk.elim
 · exact hk.elim
theorem Zad (E:Eng Y) (th:Y.Th) (l:List (Y.dom th)) (d0:Y.dom th):∀(n j:Nat),j+n=l.length->Wg E th l d0 n j=(l.drop j).flatMap (E.enc th)
 |0,j,h=>by
  have:j=l.length:=by simpa using h
  subst this
  simp [Wg]
 |n+1,j,h=>by
  have hj:j<l.length:=by omega
  have key:Wg E th l d0 (n+1) j=E.enc th (l.getD j d0)++Wg E th l d0 n (j+1):=by cases j<;>rfl
  rw [key,Zad E th l d0 n (j+1) (by omega),List.drop_eq_getElem_cons hj,List.flatMap_cons,List.getD_eq_getElem?_getD,gB9 hj]
  rfl
theorem Zsj (hE:EngOk E) {t:TypeId} {x:Operand} (ho:o.op= .load t x) (hk:Zfk E t (ev T x) h k):∃r,k r/\Z0 E o T h i r:=by
 unfold Zfk at hk
 split at hk
 · rename_i b hX
   split at hk
   · rename_i th l fz hb
     have mx:x∈o.op.operands.toList:=by simp [ho,Op.operands]
     unfold Zs7 at hk
     split at hk
     · rename_i n el sz by_ z ht
       split at hk
       · rename_i te hte
         split at hk
         · rename_i d0 hd0 hsz
           have hsz:=gC9 hsz
           obtain ⟨hl,hk⟩:=Zw hk
           rw [Zad E th l d0 n 0 (by rw [hl,Nat.zero_add])] at hk
           refine ⟨_,hk,Zq fun B σ g w ρ hh hrd hI hx=> ?_⟩
           have h1:=hx x mx
           rw [hX] at h1
           generalize hv1:ρ x=v1 at h1
           cases h1
           rename_i r z hσ
           obtain ⟨r',z',hσ',hbo⟩:=hI.blk b _ ((hrd b (by simp)).trans hb)
           rw [hσ] at hσ';cases hσ'
           obtain ⟨u,hu1,hu2⟩:=X4 (by intro es e;cases e) hbo
           have hfl:=Zz hE th l
           have hr:W8 true sz 0 (l.flatMap (E.enc th))=some (.agg (l.flatMap (E.enc th))):=by
            have h0:0+sz<=(l.flatMap (E.enc th)).length:=by rw [hfl,hl,hsz,Nat.zero_add];exact Nat.le_refl _
            simp only [W8,h0,if_true,List.drop_zero]
            rw [List.take_of_length_le (by rw [hfl,hl,hsz];exact Nat.le_refl _)]
            first|rfl|simp
           have:=X6 hr u hu2
           have hrun:=Y0 hE ht w r 0 u (fun j hj=>hu1 _ (by simp [Zs] at hj;show 0+j<_;simp only [Blk.cells];rw [hfl,hl];omega))
           refine ⟨_,?_,this.2⟩
           unfold execOp
           simp only [ho,hv1,Instr.loadAt,Sem.run_bind,Instr.sureAddr,Sem.run_pure,Result.andThen_ok,hrun]
           rfl
         · exact hk.elim
       · exact hk.elim
     · exact hk.elim
   · exact Znd hE ho (hX.symm▸hk)
 · exact Znd hE ho hk
theorem Zwk {α:Type} {l:Bool} {x:α} {k:α->Prop} (h:Z2t l x k):k x:=by
 cases l
 · exact h x rfl
 · exact h
theorem Zo0 (hE:EngOk E) {t:TypeId} {x v:Operand} (ho:o.op= .store t x v) (hk:Zli E t (ev T x) (ev T v) h k):∃r,k r/\Z0 E o T h i r:=by
 have mx:x∈o.op.operands.toList:=by simp [ho,Op.operands]
 have mv:v∈o.op.operands.toList:=by simp [ho,Op.operands]
 unfold Zli at hk
 split at hk
 · rename_i b hX
   split at hk
   · rename_i th l hb
     unfold Zs8 at hk
     split at hk
     · rename_i n el sz by_ z ht
       split at hk
       · rename_i l' hdec hc
         simp only [Bool.and_eq_true] at hc
         obtain ⟨⟨hsz,hlen⟩,hlv⟩:=hc
         have hsz:=gC9 hsz
         have hlen:=gC9 hlen
         obtain ⟨hl,hk⟩:=Zw hk
         have hk:=Zwk hk
         obtain ⟨d1,d2⟩:=Yr hE hdec
         have hfl:=Zz hE th l
         have hfl':=Zz hE th l'
         refine ⟨_,hk,fun b' hb'=>by (simp [change] at hb';subst hb';rw [hb];simp),?_⟩
         intro B σ g w ρ hh hrd hI hB hfree hx
         have hb':hh b=some (.rows th l 0):=(hrd b (by simp [Rd,change])).trans hb
         have h1:=hx x mx
         rw [hX] at h1
         generalize hv1:ρ x=v1 at h1
         cases h1
         rename_i r z hσ
         obtain ⟨r',z',hσ',hbo⟩:=hI.blk b _ hb'
         rw [hσ] at hσ';cases hσ'
         obtain ⟨arr,e,ha,hz,hcl,hcd,hel⟩:=(BlkOk.cells_iff (by intro es e;cases e)).1 hbo
         obtain ⟨hc1,hc2⟩:=W4 (hx v mv) hlv
         have hcl':(l.flatMap (E.enc th)).length<=arr.size:=by rw [hz];exact hcl
         have hone:∀u∈(ρ v).cells.toList,u.oneCell'=true:=by
          intro u hu
          obtain ⟨j,hj,rfl⟩:=List.getElem_of_mem hu
          have hj':j<(ev T v).cells.length:=by rw [hc1];simpa using hj
          obtain ⟨u',hu',hd'⟩:=hc2 j _ (gB9 hj')
          have:(ρ v).cells.toList[j]=u':=by
           have hj2:j<(ρ v).cells.size:=by simpa using hj
           rw [Array.getElem?_eq_getElem hj2] at hu'
           simpa using Option.some.inj hu'
          rw [this]
          exact Vf (W5 hlv (gB9 hj')) hd'
         have hrun:=Vu hE ht ho w ρ r 0 arr e hv1 ha (by rw [<-hc1,hlen]) (by rw [<-hc1,hlen,hsz,<-hl,Nat.zero_add,<-hfl];exact hcl') hone
         have hvl:(ρ v).cells.toList.length=n*E.w th:=by simp [<-hc1,hlen,hsz]
         have hspa:=Yz arr.toList (ρ v).cells.toList 0 (by rw [hvl,<-hl,<-hfl];simpa using hcl')
         have hll:l'.length=n:=d1
         have hsza:(arr.toList.take 0++(ρ v).cells.toList++arr.toList.drop (0+(ρ v).cells.toList.length)).toArray.size=arr.size:=by
          have h9:(ρ v).cells.toList.length<=arr.toList.length:=by rw [hvl,<-hl,<-hfl];simpa using hcl'
          simp only [List.size_toArray,List.length_append,List.length_take,List.length_drop]
          simp only [Array.length_toList] at h9⊢
          omega
         obtain ⟨hI',hS⟩:=Zbr (i:=i) hI (blk':= .rows th l' 0) hb' hσ (arr':=(arr.toList.take 0++(ρ v).cells.toList++arr.toList.drop (0+(ρ v).cells.toList.length)).toArray) ha hsza hz hel (by intro es e;cases e) rfl
          (fun n hn=>by simp [Blk.fzc] at hn) (by simp only [Blk.cells];rw [hfl',hll,<-hl,<-hfl];exact hcl)
          (fun j sv hj=>by
           simp only [Blk.cells] at hj
           rw [List.getElem?_toArray,hspa,if_neg (Nat.not_lt_zero _),hvl]
           have hj1:j<n*E.w th:=by rw [<-hll,<-hfl'];exact (gA9.1 hj).1
           rw [if_pos (by omega)]
           obtain ⟨s0,h3,h4⟩:=d2 j sv hj
           obtain ⟨u,h5,h6⟩:=hc2 j s0 h3
           exact ⟨u,by simpa using h5,h4 σ g u h6⟩)
         refine Ud hrun ⟨σ,g,hS,?_,.unk _⟩
         rw [Y9];exact hI'
       · exact hk.elim
     · exact hk.elim
   · exact Zie hE ho (hX.symm▸hk)
 · exact Zie hE ho hk
theorem Zex (hE:EngOk E) {t:TypeId} {x ix:Operand} (ho:o.op= .indexAddr t x ix) (hk:X0 E t (ev T x) (ev T ix) h k):∃r,k r/\Z0 E o T h i r:=by
 have mx:x∈o.op.operands.toList:=by simp [ho,Op.operands]
 have my:ix∈o.op.operands.toList:=by simp [ho,Op.operands]
 have run:∀{len:Nat} {el:TypeId} {sz by_:Nat} {z:Value} (ht:E.ty t=some ⟨.array len el,sz,by_,z⟩) (w:World) (ρ:Operand->Value) (ti:TyI) (a:Addr) (kd:IntKind) (n:Int),E.ty el=some ti->0<=n/\n<(len:Int)->ρ x= .pointer (some a)->ρ ix= .int kd n->(execOp ρ o).run E.P w= .ok (.value (.pointer (some (a.add (n.toNat*ti.size))))) w:=by
  intro len el sz by_ z ht w ρ ti a kd n hel h0 hv1 hv2
  unfold execOp
  simp only [ho,hv1,hv2,Instr.indexAt,Sem.run_bind,asIntOf,Sem.run_pure,Result.andThen_ok,Zx hE ht,Instr.sureAddr,if_pos h0,Zy hE hel]
 unfold X0 at hk
 split at hk
 · rename_i b hX
   split at hk
   · rename_i th l fz hb
     unfold Zae at hk
     split at hk
     · rename_i len el sz by_ z f kd n ht hIx
       split at hk
       · rename_i te hte
         obtain ⟨h0,hk⟩:=Zw hk
         obtain ⟨hw,hk⟩:=Xs hk
         refine Ya mx my (fun σ g w ρ h1 h2=> ?_) hk
         rw [hX] at h1;rw [hIx] at h2
         generalize hv1:ρ x=v1 at h1;generalize hv2:ρ ix=v2 at h2
         cases h2;cases h1
         refine ⟨_,run ht w ρ te _ _ _ hte h0 hv1 hv2,?_⟩
         rw [Yq]
         simpa using Den.eptr (off:=0) (i:=n.toNat) (w:=te.size) (by assumption)
       · exact hk.elim
     · exact hk.elim
   · exact Xp hE ho (hX.symm▸hk)
 · rename_i gl hX
   split at hk
   · rename_i len el sz by_ z kd n ht hIx
     unfold Zaf at hk
     split at hk
     · rename_i v th hgl hth
       split at hk
       · rename_i l hdec
         split at hk
         · rename_i te hte
           obtain ⟨hw,hk⟩:=Xs hk
           obtain ⟨h0,hlt,y,hy,hk⟩:=Zn5 hk
           obtain ⟨d1,d2⟩:=Yr hE hdec
           refine ⟨_,hk,Zq fun B σ g w ρ hh hrd hI hx=> ?_⟩
           have h1:=hx x mx
           have h2:=hx ix my
           rw [hX] at h1;rw [hIx] at h2
           generalize hv1:ρ x=v1 at h1;generalize hv2:ρ ix=v2 at h2
           cases h2;cases h1
           have hcell:∀(j:Nat) sv,(E.enc th y)[j]? =some sv->∃u,g.cell gl (n.toNat*E.w th+j)=some u/\Den E σ g sv u:=fun j sv hj=>by
            have hjw:j<E.w th:=by rw [<-hE.enc th y];exact (gA9.1 hj).1
            obtain ⟨s0,h3,h4⟩:=d2 (n.toNat*E.w th+j) sv (by rw [Yu hE th l _ y hy j hjw];exact hj)
            obtain ⟨u,hu,hdn⟩:=hI.glob _ _ hgl _ _ h3
            exact ⟨u,hu,h4 _ _ _ (hdn.mono (fun _ _ e=>by cases e) (.refl _))⟩
           refine ⟨.pointer (some ⟨gl,n.toNat*E.w th+0,none⟩),?_,.pptr (fun j=>(g.cell gl (n.toNat*E.w th+j)).getD undef) (fun j hj=> ?_) (fun j sv hj=> ?_)⟩
           · have:=run ht w ρ te _ _ _ hte ⟨h0,by omega⟩ hv1 hv2
             rw [this,Yq,hw,Nat.zero_add,Nat.add_zero]
           · obtain ⟨u,hu,_⟩:=hcell j _ (gB9 hj)
             rw [hu];rfl
           · obtain ⟨u,hu,hd⟩:=hcell j sv hj
             rw [hu];exact hd
         · exact hk.elim
       · exact Xp hE ho (by first|exact hk|exact (hX.symm▸hk))
     · exact Xp hE ho (by first|exact hk|exact (hX.symm▸hk))
   · exact Xp hE ho (hX.symm▸hk)
 · exact Xp hE ho hk
end
end
section
open Go.RowKit
section
variable {Y:Thy} {E:Eng Y} {o:Oper} {T:Fr Y} {h:Hp Y} {i:Nat} {k:Res Y->Prop}
inductive NilOk:TypeDesc->Value->Bool->Prop
 |p0 {e}:NilOk (.pointer e) (.pointer none) true
 |p1 {e a}:NilOk (.pointer e) (.pointer (some a)) false
 |i0 {ms}:NilOk (.interface ms) .nilIface true
 |i1 {ms t v}:NilOk (.interface ms) (.iface t v) false
 |s0 {e}:NilOk (.slice e) (.slice none 0 0) true
 |s1 {e a l c}:NilOk (.slice e) (.slice (some a) l c) false
 |m0 {k e}:NilOk (.map k e) (.map none) true
 |m1 {k e r}:NilOk (.map k e) (.map (some r)) false
 |f0 {a b c}:NilOk (.func a b c) .nilFunc true
 |f1 {a b c f x y}:NilOk (.func a b c) (.func f x y) false
theorem Zcs {σ:Pl} {g:GH} {d:TypeDesc} {x:SV Y} {v:Value} {p:Bool} (hp:nilV x=some p) (ht:nilT d x=true) (hd:Den E σ g x v):NilOk d v p:=by
 unfold nilV at hp
 split at hp<;>first|cases hp|skip
 all_goals
  first
  |(simp only [nilT] at ht;split at ht<;>first|(cases hd;constructor)|cases ht)
  |skip
theorem Zgt {P:Program} {t:TypeId} {d:TypeDesc} (hu:P.underlying t=some d) {x y:Value} {p q:Bool} (hx:NilOk d x p) (hy:NilOk d y q) (hpq:(p||q)=true) (w:World):(Op.equal t x y).run P w= .ok (p&&q) w:=by
 show (Op.equalIn (9999+1) t x y).run P w=_
 rw [Op.equalIn]
 rw [Sem.run_bind,run_underlying hu]
 cases hx<;>cases hy<;>first|rfl|(simp at hpq)
theorem Zsl {P:Program} {op:BinOp} {t:TypeId} {x y:Operand} {d:TypeDesc} {u v:Value} {p q:Bool} (hc:(Zag x||Zag y)=true) (n1:NilOk d u p) (n2:NilOk d v q) (w:World):(eqGuard op t x y u v).run P w= .ok () w:=by
 cases op<;>first|rfl|skip
 all_goals
  cases n1<;>cases n2<;>first|rfl|(cases x<;>first|rfl|(cases y<;>first|rfl|(simp [Zag] at hc)))
theorem Zdq {P:Program} {t:TypeId} {d:TypeDesc} (hu:P.underlying t=some d) {x y:Value} {p q:Bool} (hx:NilOk d x p) (hy:NilOk d y q) (hpq:(p||q)=true) (w:World):(binOp .eql t x y).run P w= .ok (.bool (p&&q)) w/\(binOp .neq t x y).run P w= .ok (.bool (!(p&&q))) w:=by
 have e:=Zgt hu hx hy hpq w
 cases hx<;>cases hy<;>simp only [binOp,Sem.run_bind,e,Result.andThen_ok,Sem.run_pure,and_self]
theorem Zwl (hE:EngOk E) {op:BinOp} {t t':TypeId} {x y:Operand} (ho:o.op= .binOp op t x y t') {p q:Bool} (hp:nilV (ev T x)=some p) (hq:nilV (ev T y)=some q) (hc:(Zag x||Zag y)=true) (hk:Zwr E op t (ev T x) (ev T y) p q k):∃r,k r/\Z0 E o T h i r:=by
 have mx:x∈o.op.operands.toList:=by simp [ho,Op.operands]
 have my:y∈o.op.operands.toList:=by simp [ho,Op.operands]
 unfold Zwr at hk
 split at hk
 · rename_i ti hti
   have hu:=(hE.ty _ _ hti).1
   split at hk
   · rename_i hb
     simp only [Bool.and_eq_true] at hb
     obtain ⟨⟨h1,h2⟩,h3⟩:=hb
     have hg:∀(ρ:Operand->Value) (w:World) (op:BinOp),NilOk ti.d (ρ x) p->NilOk ti.d (ρ y) q->(eqGuard op t x y (ρ x) (ρ y)).run E.P w= .ok () w:=
      fun ρ w op n1 n2=>Zsl hc n1 n2 w
     split at hk
     · refine Ya mx my (fun σ g w ρ d1 d2=> ?_) hk
       have n1:=Zcs hp h1 d1
       have n2:=Zcs hq h2 d2
       refine ⟨.bool (p&&q),?_,.bool _ _⟩
       unfold execOp
       have e:(binOp .eql t (ρ x) (ρ y)).run E.P w= .ok (.bool (p&&q)) w:=(Zdq hu n1 n2 h3 w).1
       simp only [ho,Sem.run_bind,hg ρ w _ n1 n2,Result.andThen_ok,e,Sem.run_pure]
     · refine Ya mx my (fun σ g w ρ d1 d2=> ?_) hk
       have n1:=Zcs hp h1 d1
       have n2:=Zcs hq h2 d2
       refine ⟨.bool (!(p&&q)),?_,.bool _ _⟩
       unfold execOp
       have e:(binOp .neq t (ρ x) (ρ y)).run E.P w= .ok (.bool (!(p&&q))) w:=(Zdq hu n1 n2 h3 w).2
       simp only [ho,Sem.run_bind,hg ρ w _ n1 n2,Result.andThen_ok,e,Sem.run_pure]
     · exact hk.elim
   · exact hk.elim
 · exact hk.elim
theorem Zk5 (hE:EngOk E) {t:TypeId} (hb:Zi4 E t=true):∃el,E.P.underlying t=some (.slice el)/\E.P.underlying el=some (.int .u8):=by
 unfold Zi4 at hb
 split at hb
 · rename_i el _ _ _ ht
   split at hb
   · rename_i hel
     exact ⟨el,(hE.ty _ _ ht).1,(hE.ty _ _ hel).1⟩
   · cases hb
 · cases hb
theorem Zb7 {σ:Pl} {g:GH} {fl:Bool}:∀{cs:List (SV Y)} {f:Bool} {l:List Nat},Zcu fl cs=some (f,l)->∀u:Nat->Value,(∀j sv,cs[j]? =some sv->Den E σ g sv (u j))->
 ∃ns:List Int,ns.length=cs.length/\(∀j,j<cs.length->(ns.map (Value.int .u8))[j]? =some (u j))/\l=ns.map (fun n=>n.toNat%256)
 | [],f,l,h,u,hd=>by
  cases h
  exact ⟨[],rfl,fun j hj=>by simp at hj,rfl⟩
 |x::r,f,l,h,u,hd=>by
  unfold Zcu at h
  split at h
  · cases ‹_::_= []›
  · rename_i f' n r' e
    cases e
    split at h
    · rename_i g' l' hl
      cases h
      obtain ⟨ns,h1,h2,rfl⟩:=Zb7 hl (fun j=>u (j+1)) fun j sv hj=>hd (j+1) sv hj
      have h0:=hd 0 _ rfl
      refine ⟨n::ns,by simp [h1],fun j hj=> ?_,by simp⟩
      cases j with
      |zero=>
       generalize u 0=u0 at h0
       cases h0;rfl
      |succ j=>exact h2 j (by simpa using hj)
    · cases h
  · cases h
theorem Zwm (r:ByteArray) (b:UInt8):toL (r.push b)=toL r++ [b.toNat]:=by
 simp [toL]
theorem Zsm (ns:List Int):∀r:ByteArray,toL (ns.foldl (fun r n=>r.push (UInt8.ofNat n.toNat)) r)=toL r++ns.map (fun n=>n.toNat%256):=by
 induction ns with
 |nil=>intro r;simp
 |cons n ns ih=>
  intro r
  rw [List.foldl_cons,ih,Zwm,List.append_assoc]
  simp [UInt8.toNat_ofNat']
theorem Zff (hE:EngOk E) {src dst:TypeId} {x:Operand} (ho:o.op= .convert src dst x) (hb:Zi4 E src=true) {a1 a2:Nat} {z:Value} (ht:E.ty dst=some ⟨.string,a1,a2,z⟩) {y:SV Y} (hX:ev T x=y) (hk:Zam y h k):∃r,k r/\Z0 E o T h i r:=by
 have mx:x∈o.op.operands.toList:=by simp [ho,Op.operands]
 obtain ⟨el,hs,he⟩:=Zk5 hE hb
 have hd:=(hE.ty _ _ ht).1
 have run:∀(w:World) (ρ:Operand->Value) a l c u,ρ x= .slice a l c->(Conv.bytesToString (.slice a l c)).run E.P w= .ok u w->(execOp ρ o).run E.P w= .ok (.value u) w:=by
  intro w ρ a l c u hx hr
  unfold execOp
  simp only [ho,hx,Sem.run_bind,run_convert_bytes_string w src dst el a l c hs he hd,hr,Result.andThen_ok,Sem.run_pure]
 unfold Zam at hk
 split at hk
 · refine ⟨_,hk,Zq fun B σ g w ρ hh hrd hI hx=> ?_⟩
   have h1:=hx x mx
   rw [hX] at h1
   generalize hv:ρ x=v at h1
   cases h1
   exact ⟨.string .empty,run w ρ none 0 0 _ hv (by simp [Conv.bytesToString,go_sem]),.str _ rfl⟩
 · rename_i b off len w' cap
   split at hk
   · rename_i cs fz tg hb'
     split at hk
     · rename_i f l hq hl
       simp only [Bool.and_eq_true,Nat.beq_eq,Nat.ble_eq] at hq
       obtain ⟨rfl,hq2⟩:=hq
       refine ⟨_,hk,Zq fun B σ g w ρ hh hrd hI hx=> ?_⟩
       have h1:=hx x mx
       rw [hX] at h1
       generalize hv:ρ x=v at h1
       cases h1
       rename_i c r z' _ _ _ _ _
       have hσ:σ b=some (r,z'):=by assumption
       have hz:(off+c)*1<=z':=by assumption
       have hlc:len<=c:=by assumption
       have hb2:=(hrd b (by simp)).trans hb'
       obtain ⟨r',z,hσ',hbo⟩:=hI.blk _ _ hb2
       rw [hσ] at hσ';cases hσ'
       obtain ⟨u,hu1,hu2⟩:=X4 (by intro es e;cases e) hbo
       obtain ⟨ns,n1,n2,rfl⟩:=Zb7 (E:=E) (σ:=σ) (g:=g) hl (fun j=>u (off+j)) (fun j sv hj=>hu2 _ _ (by
        rw [List.getElem?_take] at hj
        split at hj
        · rw [List.getElem?_drop] at hj;exact hj
        · cases hj))
       have hlen:((cs.drop off).take len).length=len:=by simp;omega
       rw [hlen] at n1 n2
       have hld:(loadCells ⟨r,off*1,none⟩ len).run E.P w= .ok (ns.map (Value.int .u8)).toArray w:=by
        have:=run_loadCells_list (P:=E.P) (w:=w) ⟨r,off*1,none⟩ (ns.map (Value.int .u8)) fun j v hj=>by
         have hj':j<len:=by
          have:=(gA9.1 hj).1
          simpa [n1] using this
         rw [n2 j hj'] at hj
         cases hj
         rw [Nat.mul_one,Yq]
         exact hu1 (off+j) (by show off+j<cs.length;omega)
        rw [List.length_map,n1] at this
        exact this
       refine ⟨_,run w ρ _ _ _ _ hv (run_bytesToString w _ len c ns hld),.str _ ?_⟩
       rw [Zsm];rfl
     · exact hk.elim
   · exact hk.elim
 · exact hk.elim
theorem DenL.append0 {σ:Pl} {g:GH} {a b:List (SV Y)} {va vb:List Value} (h:DenL E σ g a va) (k:DenL E σ g b vb):DenL E σ g (a++b) (va++vb):=by
 refine ⟨by simp [h.1,k.1],fun j sv v h1 h2=> ?_⟩
 have hl:=h.1
 by_cases e:j<a.length
 · rw [List.getElem?_append_left e] at h1
   rw [List.getElem?_append_left (by omega)] at h2
   exact h.2 j sv v h1 h2
 · rw [List.getElem?_append_right (by omega)] at h1
   rw [List.getElem?_append_right (by omega),<-hl] at h2
   exact k.2 _ sv v h1 h2
theorem Zsn {P:Program} {t:TypeId} {x:Value} {d:TypeDesc} (hu:P.underlying t=some d) (hn:∀ms,d≠ .interface ms) (w:World):(Instr.makeInterface t x).run P w= .ok (.iface t x) w:=by
 unfold Instr.makeInterface
 rw [Sem.run_bind,run_underlying hu]
 cases d<;>first|rfl|exact absurd rfl (hn _)
theorem Zey {P:Program} {t xt:TypeId} {z:Value} {d:TypeDesc} (hu:P.underlying t=some d) (hn:∀ms,d≠ .interface ms) (w:World) (hz:(zeroValue t).run P w= .ok z w):(Instr.typeAssert .nilIface xt t true).run P w= .ok (.tuple #[z,.bool false]) w:=by
 unfold Instr.typeAssert
 rw [Sem.run_bind,run_underlying hu]
 cases d<;>first|exact absurd rfl (hn _)|(simp only [Result.andThen_ok,if_true,Sem.run_bind,hz,Sem.run_pure])
theorem Vw {P:Program} {t xt:TypeId} {u:Value} {ok:Bool} {d:TypeDesc} (hu:P.underlying t=some d) (hn:∀ms,d≠ .interface ms) (w:World):(Instr.typeAssert (.iface t u) xt t ok).run P w= .ok (if ok then .tuple #[u,.bool true] else u) w:=by
 unfold Instr.typeAssert
 rw [Sem.run_bind,run_underlying hu]
 cases d<;>first|exact absurd rfl (hn _)|(simp only [Result.andThen_ok,if_true,Sem.run_pure])
theorem Zcj {P:Program} {t t2 xt:TypeId} {u z:Value} {d:TypeDesc} (hu:P.underlying t=some d) (hn:∀ms,d≠ .interface ms) (ht:t2≠t) (w:World) (hz:(zeroValue t).run P w= .ok z w):(Instr.typeAssert (.iface t2 u) xt t true).run P w= .ok (.tuple #[z,.bool false]) w:=by
 unfold Instr.typeAssert
 rw [Sem.run_bind,run_underlying hu]
 cases d<;>first|exact absurd rfl (hn _)|(simp only [Result.andThen_ok,if_neg ht,if_true,Sem.run_bind,hz,Sem.run_pure])
theorem Zwn (hE:EngOk E) {t:TypeId} {x:Operand} (ho:o.op= .makeInterface t x) (hk:Zln E t (ev T x) k):∃r,k r/\Z0 E o T h i r:=by
 have mx:x∈o.op.operands.toList:=by simp [ho,Op.operands]
 unfold Zln at hk
 split at hk
 · rename_i ti hti
   have hu:=(hE.ty _ _ hti).1
   split at hk
   · exact hk.elim
   · rename_i hn
     refine Xy mx (fun σ g w ρ hd=>⟨.iface t (ρ x),?_,.iface hd⟩) hk
     unfold execOp
     simp only [ho,Sem.run_bind,Zsn hu (fun ms e=>hn ms e),Result.andThen_ok,Sem.run_pure]
 · exact hk.elim
theorem Zdr {σ : Pl} {g : GH} {v : SV Y} {u : Value} {b : Bool} (hd : Den E σ g v u) : Den E σ g (.tup [v, .bool true b]) (.tuple #[u, .bool b]) :=
  .tup (fun q => if q = 0 then u else .bool b) rfl (fun q hq => by match q, hq with | 0, _ => rfl | 1, _ => rfl) (fun q s hs => by
    match q, hs with
    | 0, hs => obtain rfl : v = s := by simpa using hs
               exact hd
    | 1, hs => obtain rfl : SV.bool true b = s := by simpa using hs
               exact .bool _ _)
theorem Zso (hE:EngOk E) {t t':TypeId} {x:Operand} {ok:Bool} (ho:o.op= .typeAssert x t' t ok) (hk:Zg1 E (ev T x) t ok k):∃r,k r/\Z0 E o T h i r:=by
 have mx:x∈o.op.operands.toList:=by simp [ho,Op.operands]
 unfold Zg1 at hk
 split at hk
 · rename_i ti hti
   have hu:=(hE.ty _ _ hti).1
   have hz:∀w,(zeroValue t).run E.P w= .ok ti.zero w:=fun w=>Ve hE hti w
   split at hk
   · exact hk.elim
   · rename_i hn
     have hn:∀ms,ti.d≠ .interface ms:=fun ms e=>hn ms e
     have run:∀(w:World) (ρ:Operand->Value) (u:Value),(Instr.typeAssert (ρ x) t' t ok).run E.P w= .ok u w->(execOp ρ o).run E.P w= .ok (.value u) w:=by
      intro w ρ u hr
      unfold execOp
      simp only [ho,Sem.run_bind,hr,Result.andThen_ok,Sem.run_pure]
     split at hk
     · rename_i hX
       refine Xy mx (fun σ g w ρ hd=>⟨.tuple #[ti.zero,.bool false],?_,Zdr (Xn E _ _ _)⟩) hk
       rw [hX] at hd
       generalize hv:ρ x=v at hd
       cases hd
       exact run w ρ _ (by rw [hv];exact Zey hu hn w (hz w))
     · rename_i ok' _ t2 v hX
       have dn:∀(σ:Pl) (g:GH) (ρ:Operand->Value),Den E σ g (ev T x) (ρ x)->∃u,ρ x= .iface t2 u/\Den E σ g v u:=by
        intro σ g ρ hd
        rw [hX] at hd
        generalize hv:ρ x=v at hd
        cases hd
        exact ⟨_,rfl,‹_›⟩
       split at hk
       · rename_i hb
         obtain rfl:=gC9 hb
         refine Xy mx (fun σ g w ρ hd=> ?_) hk
         obtain ⟨u,hu1,hu2⟩:=dn σ g ρ hd
         exact ⟨_,run w ρ _ (by rw [hu1];exact Vw hu hn w),Zdr hu2⟩
       · rename_i hb
         obtain rfl:=gC9 hb
         refine Xy mx (fun σ g w ρ hd=> ?_) hk
         obtain ⟨u,hu1,hu2⟩:=dn σ g ρ hd
         exact ⟨_,run w ρ _ (by rw [hu1];exact Vw hu hn w),hu2⟩
       · rename_i hb
         have hb:t2≠t:=fun e=>by rw [e] at hb;simp at hb
         refine Xy mx (fun σ g w ρ hd=> ?_) hk
         obtain ⟨u,hu1,hu2⟩:=dn σ g ρ hd
         exact ⟨_,run w ρ _ (by rw [hu1];exact Zcj hu hn hb w (hz w)),Zdr (Xn E _ _ _)⟩
       · exact hk.elim
     · exact hk.elim
 · exact hk.elim
theorem Zk6 (s:ByteArray) (c:Int):firstIdx s c.toNat.toUInt8=idxL (c.toNat%256) 0 (toL s):=by
 have hc:c.toNat.toUInt8.toNat=c.toNat%256:=by simp
 have key:∀(n j:Nat),j+n=s.size->(match (List.range' j n).find? fun i=>s[i]! ==c.toNat.toUInt8 with|some i=>(i:Int)|none=> -1)=idxL (c.toNat%256) j ((toL s).drop j):=by
  intro n
  induction n with
  |zero=>
   intro j hj
   rw [List.drop_of_length_le (by rw [Zbn];omega)]
   rfl
  |succ n ih=>
   intro j hj
   have hlt:j<s.size:=by omega
   have hlt':j<(toL s).length:=by rw [Zbn];exact hlt
   rw [List.drop_eq_getElem_cons hlt',idxL,List.range'_succ,List.find?_cons]
   have hget:s[j]!.toNat=(toL s)[j]:=by
    have h1:s[j]! =s[j]:=getElem!_pos s j hlt
    rw [h1]
    simp only [toL,List.getElem_map,Array.getElem_toList]
    rfl
   have hb:(s[j]! ==c.toNat.toUInt8)=Nat.beq (toL s)[j] (c.toNat%256):=by
    rw [<-hget,<-hc]
    by_cases e:s[j]! =c.toNat.toUInt8
    · rw [e];simp
    · rw [beq_eq_false_iff_ne.2 e,eq_comm,<-Bool.not_eq_true,Nat.beq_eq]
      exact fun q=>e (UInt8.toNat_inj.1 q)
   rw [hb]
   cases Nat.beq (toL s)[j] (c.toNat%256)
   · exact ih (j+1) (by omega)
   · rfl
 have:=key s.size 0 (by omega)
 rw [List.drop_zero,<-List.range_eq_range'] at this
 exact this
theorem Zzt (hE:EngOk E) {c:Call} {f:Operand} (hc:c.callee= .value f) (ho:o.op= .call c) {fid:FuncId} {a b:List (SV Y)} (hf:ev T f= .fn (.func fid) a b) {x:ExtK} (hx:E.ext fid=some x)
 (hk:sext x (a++c.args.toList.map (ev T)++b) k):∃r,k r/\Z0 E o T h i r:=by
 obtain ⟨fn,hfn,hnm,hbn,hn,he⟩:=hE.ext fid x hx
 have mf:f∈o.op.operands.toList:=by simp [ho,Op.operands,Call.operands,hc]
 have args:∀(σ:Pl) (g:GH) (ρ:Operand->Value),(∀x∈o.op.operands.toList,Den E σ g (ev T x) (ρ x))->∃l:List Value,DenL E σ g (a++c.args.toList.map (ev T)++b) l/\
  ∀(w:World) (v:Value),(Zq2 x l.toArray).run E.P w= .ok v w->(execOp ρ o).run E.P w= .ok (.value v) w:=by
  intro σ g ρ hxs
  have hxf:=hxs f mf
  rw [hf] at hxf
  generalize hv:ρ f=vf at hxf
  cases hxf
  rename_i va vb ca cb hsa hca hda hsb hcb hdb
  refine ⟨va.toList++(c.args.map ρ).toList++vb.toList,?_,fun w v hr=> ?_⟩
  · obtain ⟨e1,e2,e3⟩:=Zdv (E:=E) (σ:=σ) (g:=g) (T:=T) (ρ:=ρ) (xs:=c.args) (fun x hm=>hxs x (by simp [ho,Op.operands,Call.operands,hc] at hm⊢;exact .inr hm))
    have l1:DenL E σ g a va.toList:=⟨by simp [hsa],fun j sv v h1 h2=>by
     have:=hca j (gA9.1 h1).1
     rw [show va.toList[j]? =va[j]? by simp,this] at h2
     cases h2;exact hda j sv h1⟩
    have l2:DenL E σ g (c.args.toList.map (ev T)) (c.args.map ρ).toList:=⟨by simp,fun j sv v h1 h2=>by
     have:=e2 j (gA9.1 h1).1
     rw [show (c.args.map ρ).toList[j]? =(c.args.map ρ)[j]? by simp,this] at h2
     cases h2;exact e3 j sv h1⟩
    have l3:DenL E σ g b vb.toList:=⟨by simp [hsb],fun j sv v h1 h2=>by
     have:=hcb j (gA9.1 h1).1
     rw [show vb.toList[j]? =vb[j]? by simp,this] at h2
     cases h2;exact hdb j sv h1⟩
    exact (l1.append0 l2).append0 l3
  · unfold execOp
    have e:(va++c.args.map ρ++vb)=(va.toList++(c.args.map ρ).toList++vb.toList).toArray:=by simp
    simp only [ho,resolve,hc,Sem.run_bind,Sem.run_pure,Result.andThen_ok,Deferred.ofValue,hv,invoke]
    rw [e,run_callFunc_extern hfn hnm hbn hn he,hr]
    rfl
 have one:∀{v:SV Y},(∀(σ:Pl) (g:GH) (w:World) (l:List Value),DenL E σ g (a++c.args.toList.map (ev T)++b) l->∃u,(Zq2 x l.toArray).run E.P w= .ok u w/\Den E σ g v u)->k (Zd [] v)->∃r,k r/\Z0 E o T h i r:=by
  intro v H hk
  refine ⟨_,hk,Zq fun B σ g w ρ hh hrd hI hx=> ?_⟩
  obtain ⟨l,h1,h2⟩:=args σ g ρ hx
  obtain ⟨u,h3,h4⟩:=H σ g w l h1
  exact ⟨u,h2 w u h3,h4⟩
 unfold sext at hk
 split at hk
 · rename_i l a' m b' n c' hl
   obtain ⟨⟨q1,q2,q3,q4⟩,hk⟩:=Zw hk
   refine one (fun σ g w vs hd=> ?_) hk
   rw [hl] at hd
   obtain ⟨d1,d2⟩:=hd
   match vs,d1,d2 with
   | [x,y,z],_,d2=>
    have e1:=d2 0 _ x rfl rfl
    have e2:=d2 1 _ y rfl rfl
    have e3:=d2 2 _ z rfl rfl
    cases e1;cases e2;cases e3
    refine ⟨_,run_add64 a' b' c' q1 q2 q3 q4 w,?_⟩
    refine .tup (fun j=> #[.int .u64 ((a'+b'+c')%18446744073709551616),.int .u64 ((a'+b'+c')/18446744073709551616)].getD j undef) rfl (fun j hj=> ?_) (fun j sv hj=> ?_)
    · match j,hj with
      |0,_=>rfl
      |1,_=>rfl
    · match j,hj with
      |0,hj=>simp at hj;subst hj;exact .int _ _ _
      |1,hj=>simp at hj;subst hj;exact .int _ _ _
      |j+2,hj=>simp at hj
 · rename_i l s m c' hl
   refine one (fun σ g w vs hd=> ?_) hk
   rw [hl] at hd
   obtain ⟨d1,d2⟩:=hd
   match vs,d1,d2 with
   | [x,y],_,d2=>
    have e1:=d2 0 _ x rfl rfl
    have e2:=d2 1 _ y rfl rfl
    cases e1;cases e2
    rename_i bs hbs _
    subst hbs
    rw [<-Zk6]
    exact ⟨_,run_indexByte_string bs c' w,.int _ _ _⟩
 · rename_i v hl
   refine one (fun σ g w vs hd=> ?_) hk
   rw [hl] at hd
   obtain ⟨d1,d2⟩:=hd
   match vs,d1,d2 with
   | [x],_,d2=>exact ⟨x,rfl,d2 0 _ x rfl rfl⟩
 · exact hk.elim
end
end
section
open Go.RowKit
section
variable {Y:Thy} {E:Eng Y} {k k':Res Y->Prop}
abbrev QM (k k':Res Y->Prop):Prop:=∀rd v,k (Zd rd v)->k' (Zd rd v)
theorem X2 {a b:Nat} {K K':Prop} (h:K->K'):Uy a b K->Uy a b K':=by unfold Uy;split;exact h;exact id
theorem Ztz {α:Type} {lit:Bool} {l:List α} {j:Nat} {f f':α->Prop} (h:∀x,f x->f' x):getK lit l j f->getK lit l j f':=by
 unfold getK
 split
 · split
   · exact h _
   · exact id
 · exact fun ⟨h1,h2⟩=>⟨h1,fun x hx=>h x (h2 x hx)⟩
theorem Zcy {α:Type} {lit:Bool} {l:List α} {n:Int} {f f':α->Prop} (h:∀x,f x->f' x):ixK lit l n f->ixK lit l n f':=by
 unfold ixK
 split
 · split
   · exact h _
   · exact id
 · exact fun ⟨h1,h2,h3⟩=>⟨h1,h2,fun x hx=>h x (h3 x hx)⟩
theorem Wl {n:Int} {f f':Nat->Prop} (h:∀j,f j->f' j):∀{c j:Nat},Zgy n f c j->Zgy n f' c j
 |0,_=>id
 |c+1,j=>fun ⟨h1,h2⟩=>⟨fun e=>h _ (h1 e),fun e=>Wl h (h2 e)⟩
theorem X9 {l:Bool} {p:Prop} [Decidable p] {K K':Prop} (h:K->K'):need l p K->need l p K':=by
 unfold need
 split
 · split
   · exact h
   · exact id
 · exact fun ⟨h1,h2⟩=>⟨h1,h h2⟩
theorem Zbz {l b:Bool} {K K':Bool->Prop} (h:∀v,K v->K' v):split l b K->split l b K':=by
 unfold split
 split
 · exact h _
 · exact fun ⟨h1,h2⟩=>⟨fun e=>h _ (h1 e),fun e=>h _ (h2 e)⟩
theorem Xe (hk:QM k k') {f v:Bool}:Uz f v k->Uz f v k':=Zbz fun v=>hk _ _
theorem Zbg (hk:QM k k') {f:Bool} {kd:IntKind} {n:Int}:intR f kd n k->intR f kd n k':=hk _ _
theorem Zps (hk:QM k k') {op:BinOp} {f m:Bool} {kd:IntKind} {a b:Int}:Zs9 op f m kd a b k->Zs9 op f m kd a b k':=by
 cases op<;>simp only [Zs9]<;>first|exact Zbg hk|exact Xe hk|exact X9 (Zbg hk)
theorem Zpt (hk:QM k k') {op:BinOp} {l m:Bool} {kd kd':IntKind} {a b:Int}:Zta op l m kd kd' a b k->Zta op l m kd kd' a b k':=by
 unfold Zta
 split
 · exact X9 (Zbg hk)
 · exact X9 (Zbg hk)
 · split
   · exact id
   · exact Zps hk
theorem Zpu (hk:QM k k') {op:BinOp} {l m:Bool} {a b:List Nat}:Ztc op l m a b k->Ztc op l m a b k':=by
 unfold Ztc
 split
 · exact X9 (hk _ _)
 · exact Xe hk
 · exact Xe hk
 · exact Xe hk
 · exact Xe hk
 · exact Xe hk
 · exact Xe hk
 · exact id
theorem Zpv (hk:QM k k') {op:BinOp} {t:TypeId} {l m a b:Bool}:Ztb E op t l m a b k->Ztb E op t l m a b k':=by
 unfold Ztb
 split
 · split
   · exact Xe hk
   · exact Xe hk
   · exact id
 · exact id
theorem Zt0 (hk:QM k k') {op:BinOp} {t:TypeId} {x y:SV Y}:sbin E op t x y k->sbin E op t x y k':=by
 unfold sbin
 split
 · exact Zpt hk
 · exact Zpv hk
 · exact Zpu hk
 · exact id
theorem Zpw (hk:QM k k') {op:BinOp} {t:TypeId} {x y:SV Y}:Zpe E op t x y k->Zpe E op t x y k':=by
 unfold Zpe
 split
 · split
   · split
     · exact Zeq fun v=>hk _ _
     · exact Zeq fun v=>hk _ _
     · exact id
   · exact id
 · exact Zt0 hk
theorem Zfn (hk:QM k k') {t:TypeId} {x:SV Y} {h:Hp Y}:Zlh E t x h k->Zlh E t x h k':=by
 unfold Zlh
 split
 · exact id
 · split
   · split
     · split
       · exact hk _ _
       · exact id
     · exact id
   · split
     · refine X2 (Ztz fun x=> ?_)
       split
       · exact hk _ _
       · exact id
     · exact id
   · split
     · exact hk _ _
     · exact id
   · split
     · split
       · exact hk _ _
       · exact id
     · exact id
   · exact id
theorem Zec (hk:QM k k') {t:TypeId} {x:SV Y} {f:Nat}:Wk E t x f k->Wk E t x f k':=by
 unfold Wk
 split
 · split
   · split
     · split
       · exact id
       · split
         · exact hk _ _
         · exact hk _ _
         · exact hk _ _
         · exact id
     · exact id
   · exact id
 · exact id
theorem Zlt (hk:QM k k') {t:TypeId} {x:SV Y} {f:Nat}:Zfj E t x f k->Zfj E t x f k':=by
 unfold Zfj
 split
 · split
   · split
     · split
       · exact hk _ _
       · exact id
     · exact id
   · exact id
 · exact id
theorem Zpx {l:Bool} {n:Int} {len:Nat} {f f':Nat->Prop} (h:∀j,f j->f' j):Zpc l n len f->Zpc l n len f':=by
 unfold Zpc
 split
 · exact X9 (h _)
 · exact fun ⟨h1,h2,h3⟩=>⟨h1,h2,Wl h h3⟩
theorem Xa (hk:QM k k') {t:TypeId} {x ix:SV Y} {h:Hp Y}:Xd E t x ix h k->Xd E t x ix h k':=by
 unfold Xd
 split
 · split
   · split
     · exact hk _ _
     · exact id
   · split
     · exact hk _ _
     · exact id
   · split
     · exact hk _ _
     · exact id
   · exact fun ⟨h1,h2,h3⟩=>⟨h1,h2,Wl (fun j=>hk _ _) h3⟩
   · exact fun ⟨h1,h2,h3⟩=>⟨h1,h2,Wl (fun j=>hk _ _) h3⟩
   · exact fun ⟨h1,h2,h3⟩=>⟨h1,h2,Wl (fun j=>hk _ _) h3⟩
   · split
     · exact hk _ _
     · exact id
   · exact fun ⟨h1,h2,h3⟩=>⟨h1,h2,Wl (fun j=>hk _ _) h3⟩
   · exact id
 · split
   · split
     · exact X2 (Zcy fun x=>hk _ _)
     · split
       · exact Zpx fun j=>X2 (hk _ _)
       · exact X9 (X2 (X2 (hk _ _)))
       · exact id
     · exact id
   · exact id
 · exact id
theorem Zed (hk:QM k k') {t:TypeId} {x ix:SV Y}:Zd0 E t x ix k->Zd0 E t x ix k':=by
 unfold Zd0
 split
 · split
   · split
     · exact hk _ _
     · exact id
   · split
     · exact fun ⟨h1,h2,h3⟩=>⟨h1,h2,fun y hy=>hk _ _ (h3 y hy)⟩
     · exact id
   · exact id
 · exact Zcy fun y=>hk _ _
 · exact id
theorem Zjf (hk:QM k k') {t:TypeId} {x ix:SV Y}:Zbv E t x ix k->Zbv E t x ix k':=by
 unfold Zbv
 split
 · split
   · split
     · unfold Zlj
       split
       · split
         · exact Zcy fun y=>hk _ _
         · exact id
       · exact id
     · exact Zed hk
   · exact id
 · exact Zed hk
theorem Zt1 (hk:QM k k') {t:TypeId} {x:SV Y} {h:Hp Y}:slen E t x h k->slen E t x h k':=by
 unfold slen
 split<;>first|exact hk _ _|exact id
theorem Zce (hk:QM k k') {mx:Bool} {x:SV Y} {r:List (SV Y)}:Zbw mx x r k->Zbw mx x r k':=by
 unfold Zbw
 split
 · exact hk _ _
 · exact id
theorem Zw5 (hk:QM k k') {op:UnOp} {x:SV Y}:sun op x k->sun op x k':=by
 unfold sun
 split<;>first|exact hk _ _|exact id
theorem Zhe (hk:QM k k') {t:TypeId} {x:SV Y}:Us E t x k->Us E t x k':=by
 unfold Us
 split<;>first|exact hk _ _|exact id
theorem Zcf (hk:QM k k') {x:SV Y} {h:Hp Y}:Zam x h k->Zam x h k':=by
 unfold Zam
 split
 · exact hk _ _
 · split
   · split
     · exact hk _ _
     · exact id
   · exact id
 · exact id
theorem Zlu (hk:QM k k') {t:TypeId} {x:SV Y} {h:Hp Y}:Zfk E t x h k->Zfk E t x h k':=by
 unfold Zfk
 split
 · split
   · unfold Zs7
     split
     · split
       · split
         · exact X9 (hk _ _)
         · exact id
       · exact id
     · exact id
   · exact Zfn hk
 · exact Zfn hk
theorem Zcm (hk:QM k k') {t:TypeId} {x ix:SV Y} {h:Hp Y}:X0 E t x ix h k->X0 E t x ix h k':=by
 unfold X0
 split
 · split
   · unfold Zae
     split
     · split
       · exact X9 (X2 (hk _ _))
       · exact id
     · exact id
   · exact Xa hk
 · split
   · unfold Zaf
     split
     · split
       · split
         · exact X2 (Zcy fun x=>hk _ _)
         · exact id
       · exact Xa hk
     · exact Xa hk
   · exact Xa hk
 · exact Xa hk
theorem Zt2 (hk:QM k k') {call:Nat->List (SV Y)->Hp Y->Nat->(Res Y->Prop)->Prop} {op:Op} {T:Fr Y} {h:Hp Y} {i:Nat} (hq:Zd7 op=true):step E call op T h i k->step E call op T h i k':=by
 cases op<;>simp only [Zd7,Bool.false_eq_true] at hq<;>simp only [step]
 case move=>exact hk _ _
 case pick=>
  unfold Za7
  split
  · exact Zbz fun v=>by
     cases v
     · exact hk _ _
     · exact hk _ _
  · exact id
 case load=>exact Zlu hk
 case binOp=>
  unfold Z0b
  split
  · unfold Zwr
    split
    · split
      · split
        · exact hk _ _
        · exact hk _ _
        · exact id
      · exact id
    · exact id
  · exact Zpw hk
 case unOp=>exact Zw5 hk
 case convert=>
  unfold Za8
  split
  · split
    · unfold Znk
      split
      · rw [Xf,Xf]
        split
        · exact hk _ _
        · exact id
      · exact id
    · split
      · exact Zcf hk
      · exact id
    · split
      · exact Zcf hk
      · exact id
    · exact Zhe hk
  · exact id
 case fieldAddr=>exact Zec hk
 case field=>exact Zlt hk
 case indexAddr=>exact Zcm hk
 case index=>exact Zjf hk
 case extract=>
  unfold Zg2
  split
  · split
    · exact hk _ _
    · exact id
  · exact id
 case call c=>
  unfold V3
  unfold Zyc at hq
  split at hq
  · rename_i hc
    simp only [hc]
    unfold Zg3
    split
    · exact Zt1 hk
    · exact id
  · rename_i hc
    simp only [hc]
    unfold stMm
    split
    · exact Zce hk
    · exact id
  · rename_i hc
    simp only [hc]
    unfold stMm
    split
    · exact Zce hk
    · exact id
  · cases hq
theorem Zpy {N:Nat} {d:Option Nat} {rd:List Nat} {v:SV Y} {T:Fr Y} {h:Hp Y} {i:Nat} {ms:List Nat} {k:Fr Y->Hp Y->Nat->List Nat->Prop}:
 Zi7 N d (Zd rd v) T h i ms k↔(match d with|none=>k T h i ms|some d=>Nat.blt d N=true/\k (upd T d v) h i ms):=by
 cases d with
 |none=>exact Iff.rfl
 |some d=>
  unfold Zi7
  simp only []
  cases hb:Nat.blt d N
  · simp
  · simp only [true_and]
    rw [show (Zd rd v).v=v from rfl,Zc0]
    exact Iff.rfl
theorem Vc:∀{ops:List Oper} {o:Oper} {d:Nat},o∈ops->o.dst=some d->d∈Ys ops
 | [],o,d,h,_=>by cases h
 |x::r,o,d,h,e=>by
  unfold Ys
  rcases List.mem_cons.1 h with rfl|h
  · rw [e];simp
  · have:=Vc h e
    split
    · exact List.mem_cons_of_mem _ this
    · exact this
theorem Zt3 {all:List Oper} {j d:Nat} (h:Zd4 all j=some d):d∈Ys all:=by
 unfold Zd4 at h
 split at h
 · rename_i o ho
   exact Vc (List.mem_of_getElem? ho) h
 · cases h
def AgreeOff (D:List Nat) (T T':Fr Y):Prop:=∀j,j∉D->T' j=T j
theorem AgreeOff.upd {D:List Nat} {T:Fr Y} {d:Nat} {v:SV Y} (h:d∈D):AgreeOff D T (upd T d v):=by
 intro j hj
 rw [Zh,if_neg (by rintro rfl;exact hj h)]
theorem AgreeOff.trans {D:List Nat} {T T1 T2:Fr Y} (h:AgreeOff D T T1) (k:AgreeOff D T1 T2):AgreeOff D T T2:=fun j hj=>(k j hj).trans (h j hj)
def U6 (o:Oper):Bool:=Zd7 o.op||(match o.op with| .assign _=>true|_=>false)
theorem Zpz (hk:QM k k') {call:Nat->List (SV Y)->Hp Y->Nat->(Res Y->Prop)->Prop} {o:Oper} {T:Fr Y} {h:Hp Y} {i:Nat} (hq:U6 o=true):step E call o.op T h i k->step E call o.op T h i k':=by
 unfold U6 at hq
 rw [Bool.or_eq_true] at hq
 rcases hq with h1|h1
 · exact Zt2 hk h1
 · split at h1
   · rename_i x e
     rw [e]
     exact hk _ _
   · cases h1
theorem Zjg {N:Nat} {call:Nat->List (SV Y)->Hp Y->Nat->(Res Y->Prop)->Prop} {all:List Oper} {T0:Fr Y} {h:Hp Y} {i:Nat} {ms:List Nat} {k k':Kont Y} (hk':∀T',AgreeOff (Ys all) T0 T'->k .normal T' h i ms->k' .normal T' h i ms) (hkp:∀ch T',k (.panic ch) T' h i ms->k' (.panic ch) T' h i ms):
 ∀{ops:List Oper} {T:Fr Y},(∀o∈ops,o∈all/\U6 o=true)->AgreeOff (Ys all) T0 T->rgn E N call all ops T h i ms k->rgn E N call all ops T h i ms k'
 | [],T,_,hA,hk=>hk' T hA hk
 |o::r,T,hq,hA,hk=>by
  have ho:=hq o (by simp)
  have ih:∀{T1:Fr Y},AgreeOff (Ys all) T0 T1->rgn E N call all r T1 h i ms k->rgn E N call all r T1 h i ms k':=fun hA hk=>Zjg hk' hkp (fun o ho=>hq o (List.mem_cons_of_mem _ ho)) hA hk
  have one:∀{T1:Fr Y},AgreeOff (Ys all) T0 T1->step E call o.op T1 h i (fun res=>Zg6 N o.dst res T1 h i ms k fun T h i ms=>rgn E N call all r T h i ms k)->
   step E call o.op T1 h i (fun res=>Zg6 N o.dst res T1 h i ms k' fun T2 h2 i2 ms2=>rgn E N call all r T2 h2 i2 ms2 k'):=by
   intro T1 hA hk
   refine Zpz ?_ ho.2 hk
   intro rd v hk
   unfold Zg6 at hk⊢
   split
   · rename_i p hp
     rw [show Zck (Zd rd v).v=some p from hp] at hk
     exact hkp _ _ hk
   rename_i hp
   rw [show Zck (Zd rd v).v=none from hp] at hk
   replace hk:Zi7 N o.dst (Zd rd v) T1 h i ms (fun T h i ms=>rgn E N call all r T h i ms k):=hk
   rw [Zpy] at hk⊢
   cases hd:o.dst with
   |none=>rw [hd] at hk;exact ih hA hk
   |some d=>rw [hd] at hk;exact ⟨hk.1,ih (hA.trans (AgreeOff.upd (Vc ho.1 hd))) hk.2⟩
  simp only [rgn] at hk⊢
  split
  · rename_i e
    rw [e] at hk
    exact one hA hk
  · rename_i j b e
    rw [e] at hk
    simp only [] at hk
    split
    · rename_i d hd
      rw [hd] at hk
      simp only [] at hk
      have hD:=Zt3 hd
      have hA1:∀v,AgreeOff (Ys all) T0 (upd T d v):=fun v=>hA.trans (AgreeOff.upd hD)
      split
      · rename_i l x hx
        rw [hx] at hk
        simp only [] at hk
        revert hk
        refine Zbz fun v=> ?_
        have skip:∀v,(match o.dst with|none=>rgn E N call all r (upd T d (.bool true v)) h i ms k|some d'=>rgn E N call all r (upd (upd T d (.bool true v)) d' (.val undef)) h i ms k)->
         (match o.dst with|none=>rgn E N call all r (upd T d (.bool true v)) h i ms k'|some d'=>rgn E N call all r (upd (upd T d (.bool true v)) d' (.val undef)) h i ms k'):=by
         intro v
         cases hdst:o.dst with
         |none=>exact ih (hA1 _)
         |some d'=>exact ih ((hA1 _).trans (AgreeOff.upd (Vc ho.1 hdst)))
        cases v<;>cases b<;>first|exact one (hA1 _)|exact skip _
      · rename_i u hx
        rw [hx] at hk
        simp only [] at hk
        split
        · rename_i e3
          rw [e3] at hk
          exact hk
        · rename_i e3
          rw [e3] at hk
          simp only [] at hk
          cases hdst:o.dst with
          |none=>rw [hdst] at hk;exact ih hA hk
          |some d'=>rw [hdst] at hk;exact ih (hA.trans (AgreeOff.upd (Vc ho.1 hdst))) hk
      · rename_i hx hx2
        split at hk
        · rename_i l x e2
          exact absurd e2 (hx l x)
        · rename_i u e2
          exact absurd e2 (hx2 u)
        · exact hk
    · rename_i hd
      rw [hd] at hk
      exact hk
theorem Zaq {d:Nat}:∀{ops:List Oper} {l:List Nat},Zww d ops=some l->∀o∈ops,U6 o=true
 | [],l,_,o,ho=>by cases ho
 |x::r,l,h,o,ho=>by
  simp only [Zww] at h
  split at h
  · rename_i e1 e2 e3 e4
    rcases List.mem_cons.1 ho with rfl|ho
    · simp [U6,e2]
    · exact Zaq e4 o ho
  · rename_i e1 e2 e3 e4
    rcases List.mem_cons.1 ho with rfl|ho
    · simp [U6,Zd7,e2]
    · exact Zaq e4 o ho
  · cases h
theorem Ze2 {x:Oper} {r:List Oper} {p:Nat×List Nat} (h:Zg8 x r=some p):∀o∈r,U6 o=true:=by
 unfold Zg8 at h
 split at h
 · split at h
   · rename_i e;exact Zaq e
   · cases h
 · cases h
theorem Zee:∀{ops:List Oper} {g:Bool} {p:Nat×List Nat},Ztj ops g=some p->∀o∈ops,U6 o=true
 | [],g,p,h,o,ho=>by cases ho
 |x::r,g,p,h,o,ho=>by
  unfold Ztj at h
  split at h
  · rename_i hx
    have h0:U6 x=true:=by simp [U6,hx]
    rcases List.mem_cons.1 ho with rfl|ho
    · exact h0
    · split at h
      · rename_i e
        exact Ze2 e o ho
      · exact Zee h o ho
  · cases h
theorem Zef {T:Fr Y} {j:Nat}:∀{D:List Nat},Vo D T j=if j∈D then .unk else T j
 | []=>by simp [Vo]
 |d::r=>by
  unfold Vo
  rw [Zh,Zef]
  by_cases h:j=d
  · simp [h]
  · simp [h]
theorem Zeg {T:Fr Y} {b:Bool} {j:Nat}:∀{D:List Nat},Zi9 b D T j=if j∈D then .bool true b else T j
 | []=>by simp [Zi9]
 |d::r=>by
  unfold Zi9
  rw [Zh,Zeg]
  by_cases h:j=d
  · simp [h]
  · simp [h]
theorem Zfo {T:Fr Y} {b:Bool}:∀{l:List Nat},Ztk T b l->∀d∈l,∃f,T d= .bool f b
 | [],_,d,hd=>by cases hd
 |x::r,h,d,hd=>by
  obtain ⟨h1,h2⟩:=h
  rcases List.mem_cons.1 hd with rfl|hd
  · split at h1
    · rename_i f b' e;exact ⟨f,by rw [e,h1]⟩
    · exact h1.elim
  · exact Zfo h2 d hd
theorem Z0m {N:Nat} {call:Nat->List (SV Y)->Hp Y->Nat->(Res Y->Prop)->Prop} {ops:List Oper} {T:Fr Y} {h:Hp Y} {i:Nat} {ms:List Nat} {d:Nat} {l:List Nat} {Q:Bool->Prop}
 (hj:Ztj ops false=some (d,l)) (hr:rgn E N call ops ops T h i ms (fun e T' _ _ _=>match e with| .normal=>Ztl d l Q T'|_=>False)):
 rgn E N call ops ops T h i ms fun e T' h' i' ms'=>e= .normal/\∃b,Q b/\h'=h/\i'=i/\ms'=ms/\(∀σ g a,FrOk E σ g T' a->FrOk E σ g (Zi9 b (d::l) (Vo (Ys ops) T)) a):=by
 refine Zjg (T0:=T) (k:=fun e T' _ _ _=>match e with| .normal=>Ztl d l Q T'|_=>False) (fun T' hA hK=> ?_) (fun ch T' hK=>hK.elim) (fun o ho=>⟨ho,Zee hj o ho⟩) (fun _ _=>rfl) hr
 replace hK:Ztl d l Q T':=hK
 have key:∃b,Q b/\∀e∈d::l,∃f,T' e= .bool f b:=by
  unfold Ztl at hK
  split at hK
  · split at hK
    · rename_i f b e
      exact ⟨b,hK,fun x hx=>by rw [List.mem_singleton] at hx;subst hx;exact ⟨f,e⟩⟩
    · exact hK.elim
  · split at hK
    · rename_i f b e
      refine ⟨b,hK.2,fun x hx=> ?_⟩
      rcases List.mem_cons.1 hx with rfl|hx
      · exact ⟨f,e⟩
      · exact Zfo hK.1 x hx
    · exact hK.elim
 obtain ⟨b,hQ,hb⟩:=key
 refine ⟨rfl,b,hQ,rfl,rfl,rfl,fun σ g a hF t=> ?_⟩
 rw [Zeg]
 split
 · rename_i ht
   obtain ⟨f,e⟩:=hb t ht
   have:=hF t
   rw [e] at this
   generalize a.eval (.tmp t)=u at this
   cases this
   exact .bool _ _
 · rw [Zef]
   split
   · exact .unk _
   · rename_i hn
     rw [<-hA t hn]
     exact hF t
end
end
section
open Go.RowKit
def Zkc (X:Act->World->Prop):Exit->Act->World->Prop
 | .normal,a,w=>X a w
 |_,_,_=>False
theorem Zdg {X:Act->World->Prop}:¬LetsOut (Zkc X):=fun ⟨_,_,h⟩=>h
theorem Zif {P:Program} {o:Oper} {a:Act} {w:World} {K K':Act->World->Prop} {X:Act->World->Prop} {Q:Exit->Act->World->Prop} (hk:∀a w,K a w->K' a w) (h:o.wp P a w K (Zkc X)):o.wp P a w K' Q:=by
 unfold Oper.wp at h⊢
 generalize (execOp a.eval o).run P w=r at h
 unfold Oper.upon at h⊢
 split at h
 · exact hk _ _ h
 · exact hk _ _ h
 · exact hk _ _ h
 · refine Calls.mono h fun e w'' he=> ?_
   cases e with
   |returned v=>exact hk _ _ he
   |panicked c=>exact he.elim
   |outgrown=>exact (Zdg he).elim
 · exact Rows.mono h fun v w'' he=>hk _ _ he
 · exact h.elim
 · exact h.elim
theorem Vh {P:Program} {ops:Array Oper} {X:Act->World->Prop} {Q:Exit->Act->World->Prop} {r:List Oper}:∀{l:List Oper} {a:Act} {w:World},wpList P ops (Zkc X) l a w->(∀a w,X a w->wpList P ops Q r a w)->wpList P ops Q (l++r) a w
 | [],a,w,h,hx=>hx a w h
 |o::l,a,w,h,hx=>by
  simp only [wpList,List.cons_append] at h⊢
  split at h
  · rename_i hw
    rw [if_pos hw]
    rcases h with h|h
    · exact .inl (Zif (fun a w h=>Vh h hx) h)
    · exact (Zdg h.2).elim
  · rename_i hw
    rw [if_neg hw]
    exact Vh h hx
theorem Wy {P:Program} {ops:Array Oper} {X:Act->World->Prop} {Q:Exit->Act->List Frame->World->Prop} {cs:List Frame} (hx:∀a w,X a w->Q .normal a cs w):∀{l:List Oper} {k:Nat} {a:Act} {w:World},(∀j,l[j]? =ops[k+j]?)->wpList P ops (Zkc X) l a w->wpOpsS P ops Q (List.range' k l.length) a cs w
 | [],k,a,w,_,h=>hx a w h
 |o::l,k,a,w,hj,h=>by
  have h0:ops[k]? =some o:=by simpa using (hj 0).symm
  have hj':∀j,l[j]? =ops[k+1+j]? :=fun j=>by have:=hj (j+1);simpa [Nat.add_assoc,Nat.add_comm 1 j] using this
  simp only [List.length_cons,List.range'_succ,wpOpsS,h0]
  simp only [wpList] at h
  split at h
  · rename_i hw
    rw [if_pos hw]
    rcases h with h|h
    · have h2:o.wp P a w (fun a' w'=>wpOpsS P ops Q (List.range' (k+1) l.length) a' cs w') (fun e a' w'=>Q e a' cs w'):=Zif (fun a w h=>Wy hx hj' h) h
      unfold Oper.wp at h2
      split
      · rename_i hr
        rw [hr] at h2
        exact h2.elim
      · exact h2
    · exact (Zdg h.2).elim
  · rename_i hw
    rw [if_neg hw]
    exact Wy hx hj' h
theorem Zfb:∀{ops l:List Oper} {o:Oper},Zd6 ops=some (l,o)->ops=l++ [o]/\(∃c,o.op= .defer c)/\o.guard=none/\o.dst=none
 | [],l,o,h=>by cases h
 |x::r,l,o,h=>by
  unfold Zd6 at h
  split at h
  · split at h
    · cases h;rename_i h1 h2 h3;exact ⟨rfl,⟨_,h1⟩,h2,h3⟩
    · cases h
  · split at h
    · rename_i l' d hl
      cases h
      obtain ⟨h1,h2⟩:=Zfb hl
      exact ⟨by rw [h1];rfl,h2⟩
    · cases h
theorem Zv0 {o:Oper} (h:Zwv o=true):(∃ts,o.op= .call ⟨.builtin .recover,#[],ts⟩)/\o.guard=none:=by
 unfold Zwv at h
 split at h
 · rename_i h1 h2;exact ⟨⟨_,h1⟩,h2⟩
 · cases h
theorem Zdh {o:Oper} (h:o.guard=none) (y:Nat->Option Bool):Region.wanted o y=true:=by
 unfold Region.wanted;rw [h]
end
section
open Go.RowKit
section
variable {Y:Thy} {E:Eng Y} {F:Fns Y}
def CodeTri (E:Eng Y) (N:Nat) (c:Code) (T:Fr Y) (h:Hp Y) (i:Nat) (e:Exit) (T':Fr Y) (h':Hp Y) (i':Nat) (ms':List Nat):Prop:=
 ∀(B:Nat) (σ:Pl) (g:GH) (w:World) (a:Act) (Q:Exit->Act->World->Prop),Inv E B σ h g w->B<=w.heap.size->(∀b,i<=b->b<i'->σ b=none)->FrOk E σ g T a->a.tmps.size=N->
  (∀a' w',Aft E B N i i' ms' σ g w a.defers T' h' a' w'->Q e a' w')->c.wp E.P Q a w
def VcOk (E:Eng Y) (N:Nat) (c:Code) (V:Fr Y->Hp Y->Nat->List Nat->Kont Y->Prop):Prop:=
 ∀T h i ms K,DomLt h i->V T h i ms K->∃e T' h' i' ms',K e T' h' i' ms'/\i<=i'/\Dom h i h' i'/\(∃m,ms'=m++ms/\Y4 h i i' m)/\CodeTri E N c T h i e T' h' i' ms'
def LoopOk (E:Eng Y) (L:(Fr Y->Hp Y->Nat->List Nat->Kont Y->Prop)->Fr Y->Hp Y->Nat->List Nat->Kont Y->Prop):Prop:=
 ∀N b V,VcOk E N b V->VcOk E N (.loop b) (L V)
def FnGood (P:Program) (f:FuncId):Prop:=∃fn,P.funcs[f]? =some fn/\fn.body.isSome=true/\(fn.name== "runtime.NumGoroutine")=false
structure FnsOk (E:Eng Y) (F:Fns Y):Prop where
 sumG:∀f S,F.sums f=some S->FnGood E.P f
 fnG:∀f fn,F.fns f=some fn->FnGood E.P f
 sum:∀f S,F.sums f=some S->∀args h i k,DomLt h i->S args h i k->∃r,k r/\ROk h r/\CallTri2 E f args h i r
 fn:∀f fn,F.fns f=some fn->E.P.funcs[f]? =some fn
 loop:∀f j L,F.loops f j=some L->LoopOk E L
theorem Aft.trans {B N i i1 i2:Nat} {m1 m2:List Nat} {σ:Pl} {g:GH} {w:World} {df:List Deferred} {T1:Fr Y} {h1:Hp Y} {a1:Act} {w1:World} (h:Aft E B N i i1 m1 σ g w df T1 h1 a1 w1) (hi:i<=i1) (hi2:i1<=i2) (hB:B<=w.heap.size) (hfree:∀b,i<=b->b<i2->σ b=none) (hm:∃m,m2=m++m1):
 ∃σ1 g1,Inv E B σ1 h1 g1 w1/\B<=w1.heap.size/\(∀b,i1<=b->b<i2->σ1 b=none)/\FrOk E σ1 g1 T1 a1/\
  ∀T2 h2 a2 w2,Aft E B N i1 i2 m2 σ1 g1 w1 a1.defers T2 h2 a2 w2->Aft E B N i i2 m2 σ g w df T2 h2 a2 w2:=by
 obtain ⟨hd,hs,σ1,g1,hS,hI,hF⟩:=h
 refine ⟨σ1,g1,hI,Nat.le_trans hB hS.size,?_,hF,?_⟩
 · intro b b1 b2
   cases hq:σ1 b with
   |none=>rfl
   |some p=>
    rcases hS.snew b p hq with h3|h3
    · rw [hfree b (by omega) b2] at h3;cases h3
    · omega
 · rintro T2 h2 a2 w2 ⟨k1,k2,σ2,g2,k3,k4,k5⟩
   obtain ⟨m,rfl⟩:=hm
   refine ⟨k1.trans hd,k2,σ2,g2,?_,k4,k5⟩
   have h3:Stp (i+(i1-i)) (i2-i1) (m++m1) σ1 g1 w1 σ2 g2 w2:=by rw [show i+(i1-i)=i1 by omega];exact k3
   have:=hS.trans h3
   rw [show i1-i+(i2-i1)=i2-i by omega] at this
   exact this.weaken (by intro b;simp only [List.mem_append];rintro ((h|h)|h)<;>simp [h])
def Zhp (tmps:Array Value):ResultVar->Sem Value
 | .tmp t=>pure (tmps.getD t undef)
 | .cell b t=>do loadVar t (<-asAddr (tmps.getD b undef))
theorem Zn6 (fn:Func) (tmps:Array Value):results fn tmps=(do
 let vs<-fn.results.mapM (Zhp tmps)
 pure (if h:vs.size=1 then vs[0] else .tuple vs)):=by
 unfold results
 congr 1
def Zhq (E:Eng Y) (T:Fr Y) (h:Hp Y) (rs:List ResultVar):Prop:=
 ∀a t n el sz by_ z b off th l fz,ResultVar.cell a t∈rs->E.ty t=some ⟨.array n el,sz,by_,z⟩->T a= .ptr b off->h b=some (.rows th l fz)->l.length=n
theorem Zc1 {T:Fr Y} {h:Hp Y}:∀{rs:List ResultVar} {p:Prop},resN E T h rs p->Zhq E T h rs/\p
 | [],p,hp=>⟨fun _ _ _ _ _ _ _ _ _ _ _ _ hm=>by simp at hm,hp⟩
 | .tmp _::rs,p,hp=>by
  obtain ⟨h1,h2⟩:=Zc1 (rs:=rs) hp
  refine ⟨fun a t n el sz by_ z b off th l fz hm=> ?_,h2⟩
  rcases List.mem_cons.1 hm with e|e
  · cases e
  · exact h1 a t n el sz by_ z b off th l fz e
 | .cell a t::rs,p,hp=>by
  have key:Zhq E T h rs/\p/\∀n el sz by_ z b off th l fz,E.ty t=some ⟨.array n el,sz,by_,z⟩->T a= .ptr b off->h b=some (.rows th l fz)->l.length=n:=by
   unfold resN at hp
   split at hp
   · rename_i n el sz by_ z b off ht hT
     split at hp
     · rename_i th l fz hb
       obtain ⟨h1,h2⟩:=Zc1 (rs:=rs) hp.2
       refine ⟨h1,h2,fun n' el' sz' by_' z' b' off' th' l' fz' e1 e2 e3=> ?_⟩
       rw [ht] at e1;cases e1
       rw [hT] at e2;cases e2
       rw [hb] at e3;cases e3
       exact hp.1
     · rename_i hno
       obtain ⟨h1,h2⟩:=Zc1 (rs:=rs) hp
       refine ⟨h1,h2,fun n' el' sz' by_' z' b' off' th' l' fz' e1 e2 e3=> ?_⟩
       rw [hT] at e2;cases e2
       exact (hno _ _ _ e3).elim
   · rename_i hno
     obtain ⟨h1,h2⟩:=Zc1 (rs:=rs) hp
     exact ⟨h1,h2,fun n' el' sz' by_' z' b' off' th' l' fz' e1 e2 e3=>(hno _ _ _ _ _ _ _ e1 e2).elim⟩
  obtain ⟨h1,h2,h3⟩:=key
  refine ⟨fun a' t' n el sz by_ z b off th l fz hm=> ?_,h2⟩
  rcases List.mem_cons.1 hm with e|e
  · cases e;exact h3 n el sz by_ z b off th l fz
  · exact h1 a' t' n el sz by_ z b off th l fz e
theorem Zhr (hE:EngOk E) {σ:Pl} {g:GH} {B:Nat} {T:Fr Y} {h:Hp Y} {w:World} {a:Act} (hI:Inv E B σ h g w) (hF:FrOk E σ g T a) {rv:ResultVar} {v:SV Y} {rs:List ResultVar} (hrs:Zhq E T h rs) (hmem:rv∈rs) (hr:Zg7 E T h rv=some v):
 ∃u,(Zhp a.tmps rv).run E.P w= .ok u w/\Den E σ g v u:=by
 cases rv with
 |tmp t=>
  obtain rfl:=Option.some.inj hr
  exact ⟨a.tmps.getD t undef,by simp [Zhp,go_sem],hF t⟩
 |cell b t=>
  simp only [Zg7] at hr
  split at hr
  · rename_i ti b' off ht hb
    split at hr
    · rename_i cs fz tg hh
      have h1:=hF b
      rw [hb] at h1
      generalize hv:a.eval (.tmp b)=v1 at h1
      cases h1
      rename_i r z hσ
      have hv':a.tmps.getD b undef= .pointer (some ⟨r,off,none⟩):=hv
      obtain ⟨r',z',hσ',hbo⟩:=hI.blk _ _ hh
      rw [hσ] at hσ';cases hσ'
      obtain ⟨u,hu1,hu2⟩:=X4 (by intro es e;cases e) hbo
      have:=X6 hr u hu2
      have hl:=Y0 hE ht w r off u (fun j hj=>hu1 _ (by
       cases hd:Zs ti.d with
       |true=>rw [hd] at this hj;have:=this.1;show _<cs.length;simp at hj;omega
       |false=>rw [hd] at this hj;have:=this.1;show _<cs.length;simp at hj;omega))
      have hr2:(Zhp a.tmps (.cell b t)).run E.P w= .ok (match Zs ti.d with|true=> .agg ((List.range ti.size).map fun j=>u (off+j)).toArray|false=>u off) w:=by
       simp only [Zhp];rw [hv'];simp only [asAddr,Sem.run_bind,Sem.run_pure,Result.andThen_ok,hl]
       rfl
      refine ⟨_,hr2,?_⟩
      cases hd:Zs ti.d with
      |true=>rw [hd] at this;exact this.2
      |false=>rw [hd] at this;exact this.2
    · rename_i th l fz hh
      unfold Zti at hr
      split at hr
      · rename_i n el sz by_ z
        split at hr
        · rename_i te hte
          split at hr
          · rename_i d0 hd0 hsz
            have hsz:=gC9 hsz
            have hl:=hrs b t n el sz by_ z b' 0 th l fz hmem ht hb hh
            rw [Zad E th l d0 n 0 (by rw [hl,Nat.zero_add])] at hr
            cases hr
            have h1:=hF b
            rw [hb] at h1
            generalize hv:a.eval (.tmp b)=v1 at h1
            cases h1
            rename_i r z' hσ
            have hv':a.tmps.getD b undef= .pointer (some ⟨r,0,none⟩):=hv
            obtain ⟨r',z'',hσ',hbo⟩:=hI.blk _ _ hh
            rw [hσ] at hσ';cases hσ'
            obtain ⟨u,hu1,hu2⟩:=X4 (by intro es e;cases e) hbo
            have hfl:=Zz hE th l
            have hr:W8 true sz 0 (l.flatMap (E.enc th))=some (.agg (l.flatMap (E.enc th))):=by
             have h0:0+sz<=(l.flatMap (E.enc th)).length:=by rw [hfl,hl,hsz,Nat.zero_add];exact Nat.le_refl _
             simp only [W8,h0,if_true,List.drop_zero]
             rw [List.take_of_length_le (by rw [hfl,hl,hsz];exact Nat.le_refl _)]
             first|rfl|simp
            have:=X6 hr u hu2
            have hrun:=Y0 hE ht w r 0 u (fun j hj=>hu1 _ (by simp [Zs] at hj;show 0+j<_;simp only [Blk.cells];rw [hfl,hl];omega))
            refine ⟨_,?_,this.2⟩
            simp only [Zhp];rw [hv'];simp only [asAddr,Sem.run_bind,Sem.run_pure,Result.andThen_ok,hrun]
            rfl
          · cases hr
        · cases hr
      · cases hr
    · cases hr
  · cases hr
theorem Zft (hE:EngOk E) {σ:Pl} {g:GH} {B:Nat} {T:Fr Y} {h:Hp Y} {w:World} {a:Act} (hI:Inv E B σ h g w) (hF:FrOk E σ g T a) {rs0:List ResultVar} (hrs:Zhq E T h rs0):∀{rs:List ResultVar} {vs:List (SV Y)},(∀r∈rs,r∈rs0)->Va E T h rs=some vs->
 ∃us:List Value,(rs.mapM (Zhp a.tmps)).run E.P w= .ok us w/\DenL E σ g vs us:=by
 intro rs
 induction rs with
 |nil=>intro vs _ h;simp [Va] at h;subst h;exact ⟨[],by simp [go_sem],rfl,fun j sv v h1=>by simp at h1⟩
 |cons r rs ih=>
  intro vs hmem hr
  simp only [Va] at hr
  split at hr
  · rename_i v vs' h1 h2
    obtain rfl:=Option.some.inj hr
    obtain ⟨u,hu,hd⟩:=Zhr hE hI hF hrs (hmem r (by simp)) h1
    obtain ⟨us,hus,hds⟩:=ih (fun r' h=>hmem r' (by simp [h])) h2
    refine ⟨u::us,?_,by simp [hds.1],?_⟩
    · rw [List.mapM_cons]
      simp only [Sem.run_bind,hu,Result.andThen_ok,hus,Sem.run_pure]
    · intro j sv v h3 h4
      cases j with
      |zero=>simp at h3 h4;subst h3;subst h4;exact hd
      |succ j=>exact hds.2 j sv v (by simpa using h3) (by simpa using h4)
  · cases hr
theorem Zjz (hE:EngOk E) {σ:Pl} {g:GH} {B:Nat} {T:Fr Y} {h:Hp Y} {w:World} {a:Act} (hI:Inv E B σ h g w) (hF:FrOk E σ g T a) {fn:Func} {vs:List (SV Y)} (hrs:Zhq E T h fn.results.toList) (hr:Va E T h fn.results.toList=some vs):
 ∃u,(results fn a.tmps).run E.P w= .ok u w/\Den E σ g (Za9 vs) u:=by
 obtain ⟨us,hus,hd⟩:=Zft hE hI hF hrs (fun _ h=>h) hr
 have hm:(fn.results.mapM (Zhp a.tmps)).run E.P w= .ok us.toArray w:=by
  rw [Array.mapM_eq_mapM_toList,Sem.run_map,hus];rfl
 refine ⟨if h:us.toArray.size=1 then us.toArray[0] else .tuple us.toArray,?_,?_⟩
 · rw [Zn6,Sem.run_bind,hm];rfl
 · by_cases h1:∃v,vs= [v]
   · obtain ⟨v,rfl⟩:=h1
     obtain ⟨u,rfl⟩:∃u,us= [u]:=by
      have:=hd.1
      match us,this with
      | [u],_=>exact ⟨u,rfl⟩
     exact hd.2 0 v u rfl rfl
   · have hl:us.length≠1:=by
      intro e
      have:=hd.1
      match vs,e▸this with
      | [v],_=>exact h1 ⟨v,rfl⟩
     have ho:Za9 vs= .tup vs:=by
      match vs,h1 with
      | [],_=>rfl
      | [v],h1=>exact absurd ⟨v,rfl⟩ h1
      |_::_::_,_=>rfl
     rw [ho,dif_neg (by simpa using hl)]
     refine .tup (fun j=>us.getD j undef) (by simp [hd.1]) (fun j hj=> ?_) (fun j sv hj=> ?_)
     · have:j<us.length:=by rw [<-hd.1];exact hj
       simp [this]
     · have hlt:j<us.length:=by rw [<-hd.1];exact (gA9.1 hj).1
       rw [List.getD_eq_getElem?_getD,gB9 hlt]
       exact hd.2 j sv _ hj (gB9 hlt)
theorem Zme:∀(l:List (SV Y)) (t:Nat),nthD l t=(l[t]?).getD .unk
 | [],t=>by cases t<;>rfl
 |x::r,0=>rfl
 |x::r,t+1=>by simpa [nthD] using Zme r t
theorem Zb1 {i b:Nat}:∀{l:List Nat},b∈l->b<i->b∈Yb i l
 | [],h,_=>by simp at h
 |x::l,h,hb=>by
  simp only [Yb]
  have ih:b∈l->b∈Yb i l:=fun h=>Zb1 h hb
  split
  · rcases List.mem_cons.1 h with rfl|h
    · simp
    · exact List.mem_cons_of_mem _ (ih h)
  · rename_i e
    rcases List.mem_cons.1 h with rfl|h
    · have h1:Nat.blt b i=true:=by rw [Nat.blt,Nat.ble_eq];exact hb
      rw [h1,Bool.true_and,Bool.not_eq_false',memB_iff] at e
      exact e
    · exact ih h
theorem Xu {i b:Nat}:∀{l:List Nat},b∈Yb i l->b∈l/\b<i
 | [],h=>by simp [Yb] at h
 |x::l,h=>by
  simp only [Yb] at h
  split at h
  · rename_i e
    rw [Bool.and_eq_true] at e
    rcases List.mem_cons.1 h with rfl|h
    · exact ⟨by simp,Yn e.1⟩
    · have:=Xu h;exact ⟨by simp [this.1],this.2⟩
  · have:=Xu h;exact ⟨by simp [this.1],this.2⟩
theorem Yi {i:Nat}:∀{cs:List (SV Y)},nidL i cs=true->∀{j:Nat} {sv:SV Y},cs[j]? =some sv->nid i sv=true
 | [],_,j,sv,h=>by simp at h
 |x::r,hn,j,sv,h=>by
  simp only [nidL,Bool.and_eq_true] at hn
  cases j with
  |zero=>simp at h;subst h;exact hn.1
  |succ j=>exact Yi hn.2 (by simpa using h)
theorem Zfu {i:Nat}:∀{es:List (Value×SV Y)},nidE i es=true->∀{j:Nat} {kv:Value} {sv:SV Y},es[j]? =some (kv,sv)->nid i sv=true
 | [],_,j,kv,sv,h=>by simp at h
 |(k0,x)::r,hn,j,kv,sv,h=>by
  simp only [nidE,Bool.and_eq_true] at hn
  cases j with
  |zero=>simp at h;obtain ⟨_,rfl⟩:=h;exact hn.1
  |succ j=>exact Zfu hn.2 (by simpa using h)
theorem Xv (hE:EngOk E) {σ σ':Pl} {g:GH} {i:Nat} {sv:SV Y} {v:Value} (h:Den E σ g sv v) (hs:∀b p,b<i->σ b=some p->σ' b=some p):nid i sv=true->Den E σ' g sv v:=by
 induction h with
 |unk v=>exact fun _=> .unk v
 |val v=>exact fun _=> .val v
 |int l k n=>exact fun _=> .int l k n
 |bool l b=>exact fun _=> .bool l b
 |str l h=>exact fun _=> .str l h
 |ptr h=>exact fun hn=> .ptr (hs _ _ (Yn hn) h)
 |eptr h=>exact fun hn=> .eptr (hs _ _ (Yn hn) h)
 |pptr c hc _ ih=>exact fun _=> .pptr c hc fun j sv hj=>ih j sv hj (Yi (hE.encI _ _ _) hj)
 |sl h hz hl hm hc=>exact fun hn=> .sl (hs _ _ (Yn hn) h) hz hl hm hc
 |psl cv hl hm hf hn hb _ ih=>exact fun _=> .psl cv hl hm hf hn hb fun q x hq j sv hj=>ih q x hq j sv hj (Yi (hE.encI _ _ _) hj)
 |agg c hs' hc _ ih=>exact fun hn=> .agg c hs' hc fun j sv hj=>ih j sv hj (Yi hn hj)
 |tup c hs' hc _ ih=>exact fun hn=> .tup c hs' hc fun j sv hj=>ih j sv hj (Yi hn hj)
 |fn ca cb hsa hca _ hsb hcb _ iha ihb=>
  intro hn
  simp only [nid,Bool.and_eq_true] at hn
  exact .fn ca cb hsa hca (fun j sv hj=>iha j sv hj (Yi hn.1 hj)) hsb hcb fun j sv hj=>ihb j sv hj (Yi hn.2 hj)
 |map h=>exact fun hn=> .map (hs _ _ (Yn hn) h)
 |pmap c q ho hq hn h1 h2 _ ih=>exact fun hn'=> .pmap c q ho hq hn h1 h2 fun j k sv hj=>ih j k sv hj (Zfu hn' hj)
 |iface _ ih=>exact fun hn=> .iface (ih hn)
theorem Zyk (hE:EngOk E) {σ σ':Pl} {g:GH} {w:World} {i r z:Nat} {b:Blk Y} (h:BlkOk E σ g w r z b) (hs:∀b p,b<i->σ b=some p->σ' b=some p) (hn:nidB i (some b)=true):BlkOk E σ' g w r z b:=by
 cases b with
 |map es=>
  obtain ⟨ents,c,h1,h2,h3⟩:=h
  exact ⟨ents,c,h1,h2,fun j k sv hj=>let ⟨v,bo,h4,h5⟩:=h3 j k sv hj;⟨v,bo,h4,Xv hE h5 hs (Zfu hn hj)⟩⟩
 |raw cs fz tg=>
  obtain ⟨arr,e,h1,h2,h3,h4,h0⟩:=h
  exact ⟨arr,e,h1,h2,h3,fun j sv hj=>let ⟨v,h5,h6⟩:=h4 j sv hj;⟨v,h5,Xv hE h6 hs (Yi hn hj)⟩,h0⟩
 |rows th l fz=>
  obtain ⟨arr,e,h1,h2,h3,h4,h0⟩:=h
  exact ⟨arr,e,h1,h2,h3,fun j sv hj=>let ⟨v,h5,h6⟩:=h4 j sv hj;⟨v,h5,Xv hE h6 hs (by
   obtain ⟨q,p,x,_,_,_,hs⟩:=Xk hE th l hj
   exact Yi (hE.encI _ _ _) hs)⟩,h0⟩
theorem Zmf (h:Hp Y) (m:List Nat) (b:Nat):Zpg h m b=if b∈m then h b else none:=by
 unfold Zpg
 by_cases c:b∈m
 · rw [if_pos c];have:=memB_iff.2 c;rw [this]
 · rw [if_neg c]
   have:memB b m=false:=by rw [<-Bool.not_eq_true,memB_iff];exact c
   rw [this]
theorem Stp.filter {h:Hp Y} {i i':Nat} {m:List Nat} {σ σ1:Pl} {g g1:GH} {w w1:World} (hS:Stp i (i'-i) m σ g w σ1 g1 w1) (hD:DomLt h i) (hM:Y4 h i i' m) (hfree:∀b,i<=b->b<i'->σ b=none):Stp i (i'-i) (Yb i m) σ g w σ1 g1 w1:=by
 have key:∀b∈m,∀p,σ b=some p->b∈Yb i m:=by
  intro b hb p hp
  by_cases e:b<i
  · exact Zb1 hb e
  · rcases hM b hb with h1|h1
    · exact absurd (hD b h1) e
    · rw [hfree b h1.1 h1.2] at hp;cases hp
 exact ⟨hS.sig,hS.snew,hS.gle,fun r o v hv=>(hS.gcnew r o v hv).imp id (Or.imp id fun ⟨b,h1,z,h2⟩=>⟨b,key b h1 _ h2,z,h2⟩),hS.gmnew,
  fun r hr hx=>hS.heap r hr fun b hb z hz=>hx b (key b hb _ hz) z hz,hS.size,hS.os,hS.tape,hS.output,fun b r z h1 h2=>(hS.blk b r z h1 h2).imp id fun ⟨b',h1,z',h2⟩=>⟨b',key b' h1 _ h2,z',h2⟩⟩
theorem DenL.append {σ:Pl} {g:GH} {a b:List (SV Y)} {va vb:List Value} (h:DenL E σ g a va) (k:DenL E σ g b vb):DenL E σ g (a++b) (va++vb):=by
 refine ⟨by simp [h.1,k.1],fun j sv v h1 h2=> ?_⟩
 have hl:=h.1
 by_cases e:j<a.length
 · rw [List.getElem?_append_left e] at h1
   rw [List.getElem?_append_left (by omega)] at h2
   exact h.2 j sv v h1 h2
 · rw [List.getElem?_append_right (by omega)] at h1
   rw [List.getElem?_append_right (by omega),<-hl] at h2
   exact k.2 _ sv v h1 h2
end
end
section
open Go.RowKit
section
variable {Y:Thy} {E:Eng Y} {F:Fns Y}
def Z2n (E:Eng Y) (fn:Func) (h:Hp Y) (i:Nat) (i':Nat) (m:List Nat) (T':Fr Y) (h':Hp Y) (r:Res Y):Prop:=
 ∀(B:Nat) (σ:Pl) (g:GH) (w:World) (σ':Pl) (g':GH) (a':Act) (w':World),Inv E B σ h g w->(∀b,i<=b->b<i'->σ b=none)->Stp i (i'-i) m σ g w σ' g' w'->Inv E B σ' h' g' w'->FrOk E σ' g' T' a'->
  ∃u,(results fn a'.tmps).run E.P w'= .ok u w'/\Stp i r.n r.mods σ g w σ' g' w'/\Inv E B σ' (patch h i r) g' w'/\Den E σ' g' r.v u
theorem Zdl (hE:EngOk E) {fn:Func} {h:Hp Y} {i i':Nat} {m:List Nat} {T':Fr Y} {h':Hp Y} {k:Res Y->Prop} (hD:DomLt h i) (hM:Y4 h i i' m) (hK:finF E fn i k T' h' i' m):
 ∃r,k r/\ROk h r/\r.n=i'-i/\r.rd=none/\Z2n E fn h i i' m T' h' r:=by
 unfold finF at hK
 obtain ⟨hrl,hK⟩:=Zc1 hK
 split at hK
 · rename_i vs hvs
   rw [Wv,Xf,Xf,Xr] at hK
   refine ⟨_,hK,?_,rfl,rfl,?_⟩
   · intro b hb
     obtain ⟨hb1,hb2⟩:=Xu hb
     rcases hM b hb1 with hb3|hb3
     · exact hb3
     · omega
   · intro B σ g w σ' g' a' w' hI hfree h3 h4 h5
     obtain ⟨u,hu,hdu⟩:=Zjz hE h4 h5 hrl hvs
     have hst:Stp i (i'-i) (Yb i m) σ g w σ' g' w':=h3.filter hD hM hfree
     have hinv:Inv E B σ' (patch h i ⟨Za9 vs,i'-i,Yb i m,h',none⟩) g' w':=
      Zdj hI h4 hst (fun b hb=>by
       obtain ⟨hb1,hb2⟩:=Xu hb
       rcases hM b hb1 with hb3|hb3
       · exact hb3
       · omega) (fun b h1 h2=>hfree b h1 (by omega)) (r:=⟨Za9 vs,i'-i,Yb i m,h',none⟩) rfl rfl rfl
     refine ⟨u,hu,hst,Zk2 hinv fun b x hx=> ?_,hdu⟩
     rw [Z6] at hx⊢
     split at hx
     · have hx2:Zpg h' (Zpb h' i 100000 (idsL vs++idsM h' (Yb i m)) (Yb i m)) b=some x:=hx
       rw [Zmf] at hx2
       split at hx2
       · rw [if_pos (by assumption)];exact hx2
       · cases hx2
     · rw [if_neg (by assumption)];exact hx
 · exact hK.elim
theorem Zr7 (hE:EngOk E) {h:Hp Y} {i i':Nat} {m:List Nat} {u:Value} {h':Hp Y} {k:Res Y->Prop} (hD:DomLt h i) (hM:Y4 h i i' m) (hK:finP i k u h' i' m):
 ∃r,k r/\ROk h r/\r.n=i'-i/\r.v= .pan u/\∀(B:Nat) (σ:Pl) (g:GH) (w:World) (σ':Pl) (g':GH) (w':World),Inv E B σ h g w->(∀b,i<=b->b<i'->σ b=none)->Stp i (i'-i) m σ g w σ' g' w'->Inv E B σ' h' g' w'->
  Stp i r.n r.mods σ g w σ' g' w'/\Inv E B σ' (patch h i r) g' w':=by
 unfold finP at hK
 rw [Xf,Xf,Xr] at hK
 refine ⟨_,hK,?_,rfl,rfl,?_⟩
 · intro b hb
   obtain ⟨hb1,hb2⟩:=Xu hb
   rcases hM b hb1 with hb3|hb3
   · exact hb3
   · omega
 · intro B σ g w σ' g' w' hI hfree h3 h4
   have hst:Stp i (i'-i) (Yb i m) σ g w σ' g' w':=h3.filter hD hM hfree
   have hinv:Inv E B σ' (patch h i ⟨.pan u,i'-i,Yb i m,h',none⟩) g' w':=
    Zdj hI h4 hst (fun b hb=>by
     obtain ⟨hb1,hb2⟩:=Xu hb
     rcases hM b hb1 with hb3|hb3
     · exact hb3
     · omega) (fun b h1 h2=>hfree b h1 (by omega)) (r:=⟨.pan u,i'-i,Yb i m,h',none⟩) rfl rfl rfl
   refine ⟨hst,Zk2 hinv fun b x hx=> ?_⟩
   rw [Z6] at hx⊢
   split at hx
   · have hx2:Zpg h' (Zpb h' i 100000 (idsM h' (Yb i m)) (Yb i m)) b=some x:=hx
     rw [Zmf] at hx2
     split at hx2
     · rw [if_pos (by assumption)];exact hx2
     · cases hx2
   · rw [if_neg (by assumption)];exact hx
theorem Zm5 {ch:List PanicEntry} {u:Value} (h:Zph ch=some u):ch= [{v:=u,recovered:=false}]:=by
 unfold Zph at h
 split at h
 · cases h;rfl
 · cases h
theorem Wo {σ:Pl} {g:GH} {args:List (SV Y)} {vals:Array Value} {N:Nat} {df:List Deferred} (hd:DenL E σ g args vals.toList) (hle:args.length<=N):FrOk E σ g (nthD args) {tmps:=vals++Array.replicate (N-vals.size) undef,defers:=df}:=by
 have hsz:vals.size=args.length:=by rw [hd.1];simp
 intro t
 rw [Zme]
 show Den E σ g _ ((vals++Array.replicate (N-vals.size) undef).getD t undef)
 rw [Array.getD_eq_getD_getElem?]
 by_cases ht:t<args.length
 · rw [gB9 ht,Array.getElem?_append_left (by omega)]
   have:=hd.2 t args[t] vals[t] (gB9 ht) (by simp [hsz▸ht])
   rw [Array.getElem?_eq_getElem (by omega)]
   exact this
 · rw [List.getElem?_eq_none (by omega)]
   exact .unk _
theorem Wp {args:List (SV Y)} {σ:Pl} {g:GH} {vals:Array Value} {N:Nat} (hd:DenL E σ g args vals.toList) (hle:args.length<=N):(vals++Array.replicate (N-vals.size) undef).size=N:=by
 have hsz:vals.size=args.length:=by rw [hd.1];simp
 simp;omega
theorem Zr8 (hE:EngOk E) (hF:FnsOk E F) {rec:Nat->Nat->Code->Fr Y->Hp Y->Nat->List Nat->Kont Y->Prop} (hrec:∀f N c,VcOk E N c (rec f N c)):Za1 E (V7 E F rec):=by
 intro f args h i k hD hk
 unfold V7 at hk
 split at hk
 · rename_i S hS
   rw [Wv] at hk
   exact hF.sum f S hS args h i k hD hk
 · split at hk
   · rename_i fn hfn
     split at hk
     · rename_i c hc
       split at hk
       · exact hk.elim
       · rename_i hle
         rw [Nat.ble_eq] at hle
         rw [Wv] at hk
         obtain ⟨e,T',h',i',ms',hK,hi,hD',⟨m,rfl,hM⟩,htri⟩:=hrec f fn.ntmps c _ _ _ _ _ hD hk
         have fin:(e= .normal\/e= .ret)->finF E fn i k T' h' i' (m++ [])->∃r,k r/\ROk h r/\CallTri2 E f args h i r:=by
          intro he hK
          obtain ⟨r,hk,hR,hn,hrd,ft⟩:=Zdl hE hD (by simpa using hM) hK
          refine ⟨r,hk,hR,.inl fun B σ g w vals hh hhrd hI hB hfree hd=> ?_⟩
          obtain rfl:hh=h:=funext fun b=>hhrd b (by unfold Rd;rw [hrd];trivial)
          have hfree':∀b,i<=b->b<i'->σ b=none:=fun b h1 h2=>hfree b h1 (by omega)
          refine calls_of_wp (hF.fn f fn hfn) hc ?_
          refine htri B σ g w _ _ hI hB hfree' (Wo hd hle) (Wp hd hle) ?_
          rintro a' w' ⟨h1,h2,σ',g',h3,h4,h5⟩
          obtain ⟨u,hu,q1,q2,q3⟩:=ft B σ g w σ' g' a' w' hI hfree' h3 h4 h5
          rcases he with rfl|rfl
          · exact bodyPost_end hu h1 ⟨u,rfl,σ',g',q1,q2,q3⟩
          · exact bodyPost_ret hu h1 ⟨u,rfl,σ',g',q1,q2,q3⟩
         split at hK
         · exact fin (.inl rfl) hK
         · exact fin (.inr rfl) hK
         · split at hK
           · rename_i ch u hch
             obtain rfl:=Zm5 hch
             obtain ⟨r,hk,hR,hn,hv,ft⟩:=Zr7 hE hD (by simpa using hM) hK
             refine ⟨r,hk,hR,.inr ⟨u,hv,fun B σ g w vals hI hB hfree hd=> ?_⟩⟩
             have hfree':∀b,i<=b->b<i'->σ b=none:=fun b h1 h2=>hfree b h1 (by omega)
             refine calls_of_wp (hF.fn f fn hfn) hc ?_
             refine htri B σ g w _ _ hI hB hfree' (Wo hd hle) (Wp hd hle) ?_
             rintro a' w' ⟨h1,h2,σ',g',h3,h4,h5⟩
             obtain ⟨q1,q2⟩:=ft B σ g w σ' g' w' hI hfree' h3 h4
             exact ⟨h1,rfl,σ',g',q1,q2⟩
           · exact hK.elim
         · exact hK.elim
     · exact hk.elim
   · exact hk.elim
def DlOk (E:Eng Y) (σ:Pl) (g:GH):List (Dfr Y)->List Deferred->Prop
 | [],l=>l= []
 |p::ds,l=>∃cap dargs r,l={target:= .fn (.func p.1) cap,args:=dargs}::r/\DenL E σ g p.2 (dargs++cap).toList/\DlOk E σ g ds r
theorem DlOk.mono {σ σ':Pl} {g g':GH} (hs:Pl.le σ σ') (hg:g.le g'):∀{dl:List (Dfr Y)} {l:List Deferred},DlOk E σ g dl l->DlOk E σ' g' dl l
 | [],l,h=>h
 |p::ds,l,⟨cap,dargs,r,h1,h2,h3⟩=>⟨cap,dargs,r,h1,⟨h2.1,fun j sv v h3 h4=>(h2.2 j sv v h3 h4).mono hs hg⟩,h3.mono hs hg⟩
structure AftD (E:Eng Y) (B N i i':Nat) (ms:List Nat) (σ:Pl) (g:GH) (w:World) (dl:List (Dfr Y)) (T':Fr Y) (h':Hp Y) (a':Act) (w':World):Prop where
 sz:a'.tmps.size=N
 ex:∃σ' g',Stp i (i'-i) ms σ g w σ' g' w'/\Inv E B σ' h' g' w'/\FrOk E σ' g' T' a'/\DlOk E σ' g' dl a'.defers
def DefTri (E:Eng Y) (N:Nat) (c:Code) (ds:List (Dfr Y)) (T:Fr Y) (h:Hp Y) (i:Nat) (e:Exit) (dl:List (Dfr Y)) (T':Fr Y) (h':Hp Y) (i':Nat) (ms':List Nat):Prop:=
 ∀(B:Nat) (σ:Pl) (g:GH) (w:World) (a:Act) (Q:Exit->Act->World->Prop),Inv E B σ h g w->B<=w.heap.size->(∀b,i<=b->b<i'->σ b=none)->FrOk E σ g T a->a.tmps.size=N->DlOk E σ g ds a.defers->
  (∀a' w',AftD E B N i i' ms' σ g w dl T' h' a' w'->Q e a' w')->c.wp E.P Q a w
def RoundsD (E:Eng Y) (N:Nat) (c:Code) (ds:List (Dfr Y)) (T:Fr Y) (h:Hp Y) (i:Nat) (e:Exit) (dl:List (Dfr Y)) (T':Fr Y) (h':Hp Y) (i':Nat) (ms':List Nat):Prop:=
 ∃n,∀(B:Nat) (σ:Pl) (g:GH) (w:World) (a:Act) (Q:Exit->Act->World->Prop),Inv E B σ h g w->B<=w.heap.size->(∀b,i<=b->b<i'->σ b=none)->FrOk E σ g T a->a.tmps.size=N->DlOk E σ g ds a.defers->
  (∀a' w',AftD E B N i i' ms' σ g w dl T' h' a' w'->Q e a' w')->Code.rounds E.P c Q n a w
theorem Ul {i i1 i2:Nat} {m1 m2:List Nat} {σ σ1 σ2:Pl} {g g1 g2:GH} {w w1 w2:World} (hi:i<=i1) (hi2:i1<=i2) (h:Stp i (i1-i) m1 σ g w σ1 g1 w1) (k:Stp i1 (i2-i1) m2 σ1 g1 w1 σ2 g2 w2):Stp i (i2-i) (m2++m1) σ g w σ2 g2 w2:=by
 have k':Stp (i+(i1-i)) (i2-i1) m2 σ1 g1 w1 σ2 g2 w2:=by rw [show i+(i1-i)=i1 by omega];exact k
 have:=h.trans k'
 rwa [show i1-i+(i2-i1)=i2-i by omega] at this
theorem Um {i n i2:Nat} {m:List Nat} {σ σ1:Pl} {g g1:GH} {w w1:World} (h:Stp i n m σ g w σ1 g1 w1) (hfree:∀b,i<=b->b<i2->σ b=none):∀b,i+n<=b->b<i2->σ1 b=none:=by
 intro b b1 b2
 cases hq:σ1 b with
 |none=>rfl
 |some p=>
  rcases h.snew b p hq with h3|h3
  · rw [hfree b (by omega) b2] at h3;cases h3
  · omega
theorem Zgl {e:Exit} {α:Prop} {k:Exit->Prop} (h:match e with| .normal=>α|e=>k e):(e= .normal/\α)\/(e≠ .normal/\k e):=by
 cases e<;>first|exact .inl ⟨rfl,h⟩|exact .inr ⟨by simp,h⟩
theorem Xz {h h1:Hp Y} {i i1 i2:Nat} {m1 m2:List Nat} (hD:Dom h i h1 i1) (hi:i<=i1) (hi2:i1<=i2) (hm1:Y4 h i i1 m1) (hm2:Y4 h1 i1 i2 m2):Y4 h i i2 (m2++m1):=by
 intro b hb
 rcases List.mem_append.1 hb with hb|hb
 · rcases hm2 b hb with c|c
   · rcases hD.2 b c with c'|c'
     · exact .inl c'
     · right;have:=hD.1 b c;omega
   · right;omega
 · rcases hm1 b hb with c|c
   · exact .inl c
   · right;omega
theorem Un {h h1 h2:Hp Y} {i i1 i2:Nat} (hi:i<=i1) (hD:Dom h i h1 i1) (hD2:Dom h1 i1 h2 i2):Dom h i h2 i2:=
 ⟨hD2.1,fun b hb=>by
  rcases hD2.2 b hb with c|c
  · exact hD.2 b c
  · right;omega⟩
theorem Zou {o:Oper} {T:Fr Y} {f:Nat} {args:List (SV Y)} (h:Znl o T=some (f,args)) {σ:Pl} {g:GH} {a:Act} (w:World) (hF:FrOk E σ g T a):
 ∃cap dargs,(execOp a.eval o).run E.P w= .ok (.defer {target:= .fn (.func f) cap,args:=dargs}) w/\DenL E σ g args (dargs++cap).toList:=by
 unfold Znl at h
 split at h
 · rename_i c ho
   split at h
   · rename_i x hc
     split at h
     · rename_i gid sa sb hx
       cases h
       have hxf:=hF.ev x
       rw [hx] at hxf
       generalize hv:a.eval x=vf at hxf
       cases hxf
       rename_i va vb ca cb hsa hca hda hsb hcb hdb
       refine ⟨vb,va++c.args.map a.eval,?_,?_⟩
       · unfold execOp
         simp only [ho,resolve,hc,Sem.run_bind,Sem.run_pure,Result.andThen_ok,Deferred.ofValue,hv]
       · obtain ⟨e1,e2,e3⟩:=Zdv (E:=E) (σ:=σ) (g:=g) (T:=T) (ρ:=a.eval) (xs:=c.args) (fun x hm=>hF.ev x)
         have l1:DenL E σ g sa va.toList:=⟨by simp [hsa],fun j sv v h1 h2=>by
          have:=hca j (gA9.1 h1).1
          rw [show va.toList[j]? =va[j]? by simp,this] at h2
          cases h2;exact hda j sv h1⟩
         have l2:DenL E σ g (c.args.toList.map (ev T)) (c.args.map a.eval).toList:=⟨by simp,fun j sv v h1 h2=>by
          have:=e2 j (gA9.1 h1).1
          rw [show (c.args.map a.eval).toList[j]? =(c.args.map a.eval)[j]? by simp,this] at h2
          cases h2;exact e3 j sv h1⟩
         have l3:DenL E σ g sb vb.toList:=⟨by simp [hsb],fun j sv v h1 h2=>by
          have:=hcb j (gA9.1 h1).1
          rw [show vb.toList[j]? =vb[j]? by simp,this] at h2
          cases h2;exact hdb j sv h1⟩
         rw [Array.toList_append,Array.toList_append]
         exact (l1.append l2).append l3
     · cases h
   · cases h
 · cases h
theorem AftD.comp {B N i i1 i2:Nat} {m1 m2:List Nat} {σ:Pl} {g:GH} {w:World} {dl1:List (Dfr Y)} {T1:Fr Y} {h1:Hp Y} {a1:Act} {w1:World} (hA:AftD E B N i i1 m1 σ g w dl1 T1 h1 a1 w1) (hi:i<=i1) (hi2:i1<=i2) (hB:B<=w.heap.size) (hfree:∀b,i<=b->b<i2->σ b=none) (hm:∃m,m2=m++m1):
 ∃σ1 g1,Inv E B σ1 h1 g1 w1/\B<=w1.heap.size/\(∀b,i1<=b->b<i2->σ1 b=none)/\FrOk E σ1 g1 T1 a1/\DlOk E σ1 g1 dl1 a1.defers/\
  ∀dl T2 h2 a2 w2,AftD E B N i1 i2 m2 σ1 g1 w1 dl T2 h2 a2 w2->AftD E B N i i2 m2 σ g w dl T2 h2 a2 w2:=by
 obtain ⟨hs,σ1,g1,hS,hI,hF,hd⟩:=hA
 refine ⟨σ1,g1,hI,Nat.le_trans hB hS.size,fun b b1 b2=>Um hS hfree b (by omega) b2,hF,hd,?_⟩
 rintro dl T2 h2 a2 w2 ⟨k2,σ2,g2,k3,k4,k5,k6⟩
 obtain ⟨m,rfl⟩:=hm
 exact ⟨k2,σ2,g2,(Ul hi hi2 hS k3).weaken (by intro b;simp only [List.mem_append];rintro ((h|h)|h)<;>simp [h]),k4,k5,k6⟩
theorem DefTri.seq {N:Nat} {c1 c2:Code} {ds dl1 dl2:List (Dfr Y)} {T T1 T2:Fr Y} {h h1 h2:Hp Y} {i i1 i2:Nat} {m1 m2:List Nat} {e:Exit} (t1:DefTri E N c1 ds T h i .normal dl1 T1 h1 i1 m1) (t2:DefTri E N c2 dl1 T1 h1 i1 e dl2 T2 h2 i2 m2) (hi:i<=i1) (hi2:i1<=i2) (hm:∃m,m2=m++m1):DefTri E N (.seq c1 c2) ds T h i e dl2 T2 h2 i2 m2:=by
 intro B σ g w a Q hI hB hfree hF hN hd hQ
 refine wp_seq (t1 B σ g w a _ hI hB (fun b h1 h2=>hfree b h1 (by omega)) hF hN hd ?_)
 intro a1 w1 hA
 show c2.wp E.P Q a1 w1
 obtain ⟨σ1,g1,k1,k2,k3,k4,k5,k6⟩:=hA.comp hi hi2 hB hfree hm
 exact t2 B σ1 g1 w1 a1 Q k1 k2 k3 k4 hA.sz k5 fun a2 w2 hA2=>hQ a2 w2 (k6 _ _ _ _ _ hA2)
theorem DefTri.seq_out {N:Nat} {c1 c2:Code} {ds dl1:List (Dfr Y)} {T T1:Fr Y} {h h1:Hp Y} {i i1:Nat} {m1:List Nat} {e:Exit} (he:e≠ .normal) (t1:DefTri E N c1 ds T h i e dl1 T1 h1 i1 m1):DefTri E N (.seq c1 c2) ds T h i e dl1 T1 h1 i1 m1:=by
 intro B σ g w a Q hI hB hfree hF hN hd hQ
 refine wp_seq (t1 B σ g w a _ hI hB hfree hF hN hd ?_)
 intro a1 w1 hA
 have:=hQ a1 w1 hA
 cases e<;>first|exact this|exact absurd rfl he
theorem RoundsD.more {N:Nat} {c:Code} {ds dl1 dl2:List (Dfr Y)} {T T1 T2:Fr Y} {h h1 h2:Hp Y} {i i1 i2:Nat} {m1 m2:List Nat} {e:Exit} (t1:DefTri E N c ds T h i .normal dl1 T1 h1 i1 m1) (t2:RoundsD E N c dl1 T1 h1 i1 e dl2 T2 h2 i2 m2) (hi:i<=i1) (hi2:i1<=i2) (hm:∃m,m2=m++m1):RoundsD E N c ds T h i e dl2 T2 h2 i2 m2:=by
 obtain ⟨n,t2⟩:=t2
 refine ⟨n+1,fun B σ g w a Q hI hB hfree hF hN hd hQ=> ?_⟩
 rw [rounds_succ]
 refine t1 B σ g w a _ hI hB (fun b h1 h2=>hfree b h1 (by omega)) hF hN hd ?_
 intro a1 w1 hA
 obtain ⟨σ1,g1,k1,k2,k3,k4,k5,k6⟩:=hA.comp hi hi2 hB hfree hm
 exact t2 B σ1 g1 w1 a1 Q k1 k2 k3 k4 hA.sz k5 fun a2 w2 hA2=>hQ a2 w2 (k6 _ _ _ _ _ hA2)
theorem RoundsD.out {N:Nat} {c:Code} {ds dl1:List (Dfr Y)} {T T1:Fr Y} {h h1:Hp Y} {i i1:Nat} {m1:List Nat} {e:Exit} (he:e≠ .normal) (t1:DefTri E N c ds T h i e dl1 T1 h1 i1 m1):RoundsD E N c ds T h i e dl1 T1 h1 i1 m1:=by
 refine ⟨1,fun B σ g w a Q hI hB hfree hF hN hd hQ=> ?_⟩
 rw [rounds_succ]
 refine t1 B σ g w a _ hI hB hfree hF hN hd ?_
 intro a1 w1 hA
 have:=hQ a1 w1 hA
 cases e<;>first|exact this|exact absurd rfl he
theorem Z2o (hE:EngOk E) {call:Nat->List (SV Y)->Hp Y->Nat->(Res Y->Prop)->Prop} (hstep:∀(o:Oper) T h i k,DomLt h i->step E call o.op T h i k->∃r,k r/\OpTri2 E o T h i r) {rec:Nat->Nat->Code->Fr Y->Hp Y->Nat->List Nat->Kont Y->Prop} (hrec:∀f N c,VcOk E N c (rec f N c)) {f N:Nat}:∀(n:Nat) (c:Code),
 (∀ds T h i ms K,DomLt h i->vcD E call rec f N n c ds T h i ms K->∃e dl T' h' i' ms',K e dl T' h' i' ms'/\i<=i'/\Dom h i h' i'/\(∃m,ms'=m++ms/\Y4 h i i' m)/\DefTri E N c ds T h i e dl T' h' i' ms')/\
 ∀b,c= .loop b->Zba b=true->∀ds T h i ms K,DomLt h i->vcD E call rec f N n c ds T h i ms K->∃e dl T' h' i' ms',K e dl T' h' i' ms'/\i<=i'/\Dom h i h' i'/\(∃m,ms'=m++ms/\Y4 h i i' m)/\RoundsD E N b ds T h i e dl T' h' i' ms':=by
 intro n
 induction n with
 |zero=>exact fun c=>⟨fun ds T h i ms K _ hk=>hk.elim,fun b _ _ ds T h i ms K _ hk=>hk.elim⟩
 |succ n ih=>
  intro c
  have unf:∀ds T h i ms K,vcD E call rec f N (n+1) c ds T h i ms K=vcDB E call rec f N (vcD E call rec f N n) c ds T h i ms K:=fun _ _ _ _ _ _=>rfl
  have rounds:∀b,c= .loop b->Zba b=true->∀ds T h i ms K,DomLt h i->vcD E call rec f N (n+1) c ds T h i ms K->∃e dl T' h' i' ms',K e dl T' h' i' ms'/\i<=i'/\Dom h i h' i'/\(∃m,ms'=m++ms/\Y4 h i i' m)/\RoundsD E N b ds T h i e dl T' h' i' ms':=by
   rintro b rfl hb ds T h i ms K hD hk
   rw [unf] at hk
   unfold vcDB at hk
   rw [show Zba (.loop b)=true from hb] at hk
   obtain ⟨e,dl,T1,h1,i1,ms1,hK,hi,hDo,⟨m,rfl,hM⟩,t1⟩:=(ih b).1 ds T h i ms _ hD hk
   rcases Zgl hK with ⟨rfl,hK⟩|⟨he,hK⟩
   · obtain ⟨e2,dl2,T2,h2,i2,ms2,hK2,hi2,hDo2,⟨m',rfl,hM'⟩,t2⟩:=(ih (.loop b)).2 b rfl hb dl T1 h1 i1 _ _ hDo.1 hK
     exact ⟨e2,dl2,T2,h2,i2,_,hK2,by omega,Un hi hDo hDo2,⟨m'++m,by simp,Xz hDo hi hi2 hM hM'⟩,RoundsD.more t1 t2 hi hi2 ⟨m',rfl⟩⟩
   · exact ⟨e,dl,T1,h1,i1,_,hK,hi,hDo,⟨m,rfl,hM⟩,RoundsD.out he t1⟩
  refine ⟨fun ds T h i ms K hD hk=> ?_,rounds⟩
  have hk0:=hk
  rw [unf] at hk
  unfold vcDB at hk
  cases hh:Zba c with
  |false=>
   rw [hh] at hk
   obtain ⟨e,T1,h1,i1,ms1,hK,hi,hDo,hm,t1⟩:=hrec f N c T h i ms _ hD hk
   refine ⟨e,ds,T1,h1,i1,ms1,hK,hi,hDo,hm,fun B σ g w a Q hI hB hfree hF hN hd hQ=>t1 B σ g w a Q hI hB hfree hF hN ?_⟩
   rintro a1 w1 ⟨z0,z1,σ1,g1,s1,s2,s3⟩
   exact hQ a1 w1 ⟨z1,σ1,g1,s1,s2,s3,by rw [z0];exact hd.mono s1.sig s1.gle⟩
  |true=>
   rw [hh] at hk
   cases hc:c with
   |region id ops draw=>
    subst hc
    cases draw with
    |true=>cases hh
    |false=>
    dsimp only at hk
    split at hk
    · rename_i l o hl
      obtain ⟨e1,⟨c,hc⟩,e3,e4⟩:=Zfb hl
      obtain ⟨e0,T',h',i',ms',hK,hi,hDo,hm,t⟩:=Zmz hE hstep ops.toList l T h i ms _ hD hk
      cases e0 with
      |normal=> ?_
      |_=>exact hK.elim
      dsimp only at hK
      split at hK
      · rename_i p hp
        rw [Wv] at hK
        refine ⟨.normal,(p.1,p.2)::ds,T',h',i',ms',hK,hi,hDo,hm,fun B σ g w a Q hI hB hfree hF hN hd0 hQ=>wp_region_list ?_⟩
        rw [e1]
        have hsel:wpList E.P ops (Zkc fun a w=>wpList E.P ops Q [o] a w) l a w:=by
         have:=t B σ g w a (Zkc fun a w=>wpList E.P ops Q [o] a w) hI hB hfree hF hN (fun a' w' ⟨k1,k2,σ',g',k3,k4,k5⟩=>by
          show wpList E.P ops Q [o] a' w'
          simp only [wpList]
          rw [if_pos (Zdh e3 _)]
          left
          obtain ⟨cap,dargs,r1,r2⟩:=Zou (show Znl o T'=some (p.1,p.2) from hp) w' k5
          unfold Oper.wp
          rw [r1,Oper.upon_defer,e4]
          refine hQ _ _ ⟨k2,σ',g',k3,k4,k5,cap,dargs,a'.defers,rfl,r2,?_⟩
          rw [k1];exact hd0.mono k3.sig k3.gle)
         simpa using this
        exact Vh hsel fun a w h=>h
      · exact hK.elim
    · exact hk.elim
   |seq x y=>
    subst hc
    obtain ⟨e,dl,T1,h1,i1,ms1,hK,hi,hDo,⟨m,rfl,hM⟩,t1⟩:=(ih x).1 ds T h i ms _ hD hk
    rcases Zgl hK with ⟨rfl,hK⟩|⟨he,hK⟩
    · obtain ⟨e2,dl2,T2,h2,i2,ms2,hK2,hi2,hDo2,⟨m',rfl,hM'⟩,t2⟩:=(ih y).1 dl T1 h1 i1 _ _ hDo.1 hK
      exact ⟨e2,dl2,T2,h2,i2,_,hK2,by omega,Un hi hDo hDo2,⟨m'++m,by simp,Xz hDo hi hi2 hM hM'⟩,DefTri.seq t1 t2 hi hi2 ⟨m',rfl⟩⟩
    · exact ⟨e,dl,T1,h1,i1,_,hK,hi,hDo,⟨m,rfl,hM⟩,DefTri.seq_out he t1⟩
   |block id b=>
    subst hc
    obtain ⟨e,dl,T1,h1,i1,ms1,hK,hi,hDo,hm,t1⟩:=(ih b).1 ds T h i ms _ hD hk
    by_cases hex:e= .exit id
    · subst hex
      have hK':K .normal dl T1 h1 i1 ms1:=by
       simp only at hK
       have:Nat.beq id id=true:=by simp
       rw [this] at hK;exact hK
      refine ⟨.normal,dl,T1,h1,i1,ms1,hK',hi,hDo,hm,fun B σ g w a Q hI hB hfree hF hN hd hQ=>wp_block (t1 B σ g w a _ hI hB hfree hF hN hd fun a1 w1 hA=> ?_)⟩
      show (if id=id then Q .normal a1 w1 else _)
      rw [if_pos rfl];exact hQ a1 w1 hA
    · have hK':K e dl T1 h1 i1 ms1:=by
       cases e with
       |exit j=>
        simp only at hK
        have:Nat.beq j id=false:=by rw [<-Bool.not_eq_true,Nat.beq_eq];rintro rfl;exact hex rfl
        rw [this] at hK;exact hK
       |_=>exact hK
      refine ⟨e,dl,T1,h1,i1,ms1,hK',hi,hDo,hm,fun B σ g w a Q hI hB hfree hF hN hd hQ=>wp_block (t1 B σ g w a _ hI hB hfree hF hN hd fun a1 w1 hA=> ?_)⟩
      have:=hQ a1 w1 hA
      cases e with
      |exit j=>
       show (if j=id then _ else Q (.exit j) a1 w1)
       rw [if_neg (by rintro rfl;exact hex rfl)];exact this
      |_=>exact this
   |loop b=>
    obtain ⟨e,dl,T1,h1,i1,ms1,hK,hi,hDo,hm,n',t⟩:=rounds b hc (by rw [hc] at hh;exact hh) ds T h i ms K hD hk0
    exact ⟨e,dl,T1,h1,i1,ms1,hK,hi,hDo,hm,fun B σ g w a Q hI hB hfree hF hN hd hQ=>wp_loop_rounds n' (t B σ g w a Q hI hB hfree hF hN hd hQ)⟩
   |_=>subst hc;exact hk.elim
def Zr9:Option Value->FrameMode
 |none=> .returning
 |some u=> .panicking [{v:=u,recovered:=false}]
def Zbs:Option Value->FrameMode
 |none=> .returning
 |some u=> .panicking [{v:=u,recovered:=true}]
def rvV:Option Value->Value
 |none=> .nilIface
 |some u=>u
theorem Zsa (E:Eng Y) (σ:Pl) (g:GH) (l:Bool) (v:Value):Den E σ g (sv0 l v) v:=by
 cases v<;>first|exact .int _ _ _|exact .bool _ _|exact .str _ rfl|exact .val _
theorem Zzo (E:Eng Y) (σ:Pl) (g:GH) (l:Bool) (v:Value):Den E σ g (sv1 l v) v:=by
 cases v with
 |agg cs=>
  refine .agg (fun j=>cs.toList.getD j undef) (by simp) (fun j hj=> ?_) (fun j sv h=> ?_)
  · have hj':j<cs.size:=by simpa using hj
    simp [List.getD_eq_getElem?_getD,hj']
  · rw [List.getElem?_map] at h
    obtain ⟨u,hu,rfl⟩:=Option.map_eq_some_iff.1 h
    rw [List.getD_eq_getElem?_getD,hu]
    exact Zsa E σ g l u
 |_=>simp only [sv1];exact Zsa E σ g l _
theorem Zzp (E:Eng Y) (σ:Pl) (g:GH) (l:Bool) (v:Value):Den E σ g (svP l v) v:=by
 cases v with
 |iface t u=>exact .iface (Zzo E σ g l u)
 |_=>exact .val _
theorem Z2p (E:Eng Y) (pm:Option Value) (σ:Pl) (g:GH):Den E σ g (rvOf E pm) (rvV pm):=by
 cases pm with
 |none=>exact .val _
 |some u=>exact Zzp E σ g _ u
theorem Zip {c₀:Frame} {cs:List Frame} {pm:Option Value} (h:c₀.mode=Zr9 pm):(recoverD (c₀::cs)=none/\rvV pm= .nilIface/\{c₀ with mode:=Zbs pm}=c₀)\/recoverD (c₀::cs)=some (rvV pm,{c₀ with mode:=Zbs pm}::cs):=by
 cases pm with
 |none=>exact .inl ⟨by simp [recoverD,h,Zr9],rfl,by rw [<-show c₀.mode=Zbs none from h]⟩
 |some u=>exact .inr (by simp [recoverD,h,Zr9,Zbs,rvV])
def STri (E:Eng Y) (pm:Option Value) (N:Nat) (c:Code) (T:Fr Y) (h:Hp Y) (i:Nat) (e:Exit) (T':Fr Y) (h':Hp Y) (i':Nat) (ms':List Nat):Prop:=
 ∀(B:Nat) (σ:Pl) (g:GH) (w:World) (a:Act) (c₀:Frame) (cs:List Frame) (Q:Exit->Act->List Frame->World->Prop),c₀.mode=Zr9 pm->Inv E B σ h g w->B<=w.heap.size->(∀b,i<=b->b<i'->σ b=none)->FrOk E σ g T a->a.tmps.size=N->
  (∀a' w',Aft E B N i i' ms' σ g w a.defers T' h' a' w'->Q e a' ({c₀ with mode:=Zbs pm}::cs) w')->c.wpS E.P Q a (c₀::cs) w
theorem Zx5 (hE:EngOk E) {rv:SV Y} {pm:Option Value} (hrv:∀σ g,Den E σ g rv (rvV pm)) {call:Nat->List (SV Y)->Hp Y->Nat->(Res Y->Prop)->Prop} (hstep:∀(o:Oper) T h i k,DomLt h i->step E call o.op T h i k->∃r,k r/\OpTri2 E o T h i r) {rec:Nat->Nat->Code->Fr Y->Hp Y->Nat->List Nat->Kont Y->Prop} (hrec:∀f N c,VcOk E N c (rec f N c)) {f N:Nat}:
 ∀(c:Code) T h i ms K,DomLt h i->vcS E rv call rec f N c T h i ms K->∃e T' h' i' ms',K e T' h' i' ms'/\i<=i'/\Dom h i h' i'/\(∃m,ms'=m++ms/\Y4 h i i' m)/\STri E pm N c T h i e T' h' i' ms'
 | .region id ops false,T,h,i,ms,K,hD,hk=>by
  simp only [vcS] at hk
  split at hk
  · rename_i o l hol
    split at hk
    · rename_i d hr hd
      split at hk
      · rename_i hlt
        obtain ⟨e0,T',h',i',ms',hK,hi,hDo,hm,t⟩:=Zmz hE hstep ops.toList l _ h i ms _ hD hk
        cases e0 with
        |normal=> ?_
        |_=>exact hK.elim
        refine ⟨.normal,T',h',i',ms',hK,hi,hDo,hm,fun B σ g w a c₀ cs Q hmode hI hB hfree hF hN hQ=>wpS_region ?_⟩
        have hsz:ops.size=l.length+1:=by rw [<-Array.length_toList,hol];rfl
        have h0:ops[0]? =some o:=by rw [<-Array.getElem?_toList,hol];rfl
        rw [List.range_eq_range',hsz,List.range'_succ]
        simp only [wpOpsS,h0]
        obtain ⟨⟨ts,ho⟩,hg⟩:=Zv0 hr
        rw [if_pos (Zdh hg _)]
        have hrun:(execOp a.eval o).run E.P w= .ok .recover w:=by
         unfold execOp
         simp only [ho,resolve,Sem.run_bind,Sem.run_pure,Result.andThen_ok,invoke,builtin]
        have hF1:FrOk E σ g (upd T d rv) (a.put o.dst (rvV pm)):=by
         rw [hd]
         exact hF.put (by rw [hN];exact Yn hlt) (hrv σ g)
        have:=t B σ g w (a.put o.dst (rvV pm)) (Zkc fun a' w'=>Q .normal a' ({c₀ with mode:=Zbs pm}::cs) w') hI hB hfree hF1 (by rw [Vi];exact hN) (fun a' w' hA=>hQ a' w' (by
         have hdf:(a.put o.dst (rvV pm)).defers=a.defers:=by rw [hd];rfl
         rw [hdf] at hA;exact hA))
        have fin:=Wy (ops:=ops) (l:=l) (Q:=Q) (cs:={c₀ with mode:=Zbs pm}::cs) (X:=fun a' w'=>Q .normal a' ({c₀ with mode:=Zbs pm}::cs) w') (fun a w h=>h) (k:=1) (fun j=>by rw [<-Array.getElem?_toList,hol,Nat.add_comm 1 j];simp) (by simpa using this)
        rcases Zip (cs:=cs) hmode with ⟨r1,r2,r3⟩|r1
        · simp only [hrun,r1]
          rw [r3,r2] at fin
          exact fin
        · simp only [hrun,r1]
          exact fin
      · exact hk.elim
    · exact hk.elim
  · exact hk.elim
 | .seq x y,T,h,i,ms,K,hD,hk=>by
  simp only [vcS] at hk
  obtain ⟨e,T1,h1,i1,ms1,hK,hi,hDo,⟨m,rfl,hM⟩,t1⟩:=Zx5 hE hrv hstep hrec x T h i ms _ hD hk
  rcases Zgl hK with ⟨rfl,hK⟩|⟨he,hK⟩
  · obtain ⟨e2,T2,h2,i2,ms2,hK2,hi2,hDo2,⟨m',rfl,hM'⟩,t2⟩:=hrec f N y T1 h1 i1 _ _ hDo.1 hK
    refine ⟨e2,T2,h2,i2,_,hK2,by omega,Un hi hDo hDo2,⟨m'++m,by simp,Xz hDo hi hi2 hM hM'⟩,fun B σ g w a c₀ cs Q hmode hI hB hfree hF hN hQ=> ?_⟩
    refine wpS_seq (t1 B σ g w a c₀ cs _ hmode hI hB (fun b h1 h2=>hfree b h1 (by omega)) hF hN ?_)
    intro a1 w1 hA
    show y.wpS E.P Q a1 ({c₀ with mode:=Zbs pm}::cs) w1
    obtain ⟨σ1,g1,k1,k2,k3,k4,k5⟩:=hA.trans hi hi2 hB hfree ⟨m',rfl⟩
    exact wpS_of_wp (t2 B σ1 g1 w1 a1 _ k1 k2 k3 k4 hA.sz fun a2 w2 hA2=>hQ a2 w2 (k5 _ _ _ _ hA2))
  · refine ⟨e,T1,h1,i1,_,hK,hi,hDo,⟨m,rfl,hM⟩,fun B σ g w a c₀ cs Q hmode hI hB hfree hF hN hQ=> ?_⟩
    refine wpS_seq (t1 B σ g w a c₀ cs _ hmode hI hB hfree hF hN ?_)
    intro a1 w1 hA
    have:=hQ a1 w1 hA
    cases e<;>first|exact this|exact absurd rfl he
 | .region _ _ true,_,_,_,_,_,_,hk=>hk.elim
 | .skip,_,_,_,_,_,_,hk=>hk.elim
 | .cond _ _ _,_,_,_,_,_,_,hk=>hk.elim
 | .block _ _,_,_,_,_,_,_,hk=>hk.elim
 | .loop _,_,_,_,_,_,_,hk=>hk.elim
 | .exit _,_,_,_,_,_,_,hk=>hk.elim
 | .ret,_,_,_,_,_,_,hk=>hk.elim
 | .rangeFunc _ _ _ _,_,_,_,_,_,_,hk=>hk.elim
 | .scope _,_,_,_,_,_,_,hk=>hk.elim
 | .label _,_,_,_,_,_,_,hk=>hk.elim
 | .goto _,_,_,_,_,_,_,hk=>hk.elim
def Zgm (E:Eng Y) (pm:Option Value) (f:FuncId) (args:List (SV Y)) (h:Hp Y) (i:Nat) (r:Res Y):Prop:=
 ∀(B:Nat) (σ:Pl) (g:GH) (w:World) (vals:Array Value),Inv E B σ h g w->B<=w.heap.size->(∀b,i<=b->b<i+r.n->σ b=none)->DenL E σ g args vals.toList->
  CallsD E.P f vals (Zr9 pm) w fun en u' w'=>u'=Zbs pm/\∃u,en= .returned u/\∃σ' g',Stp i r.n r.mods σ g w σ' g' w'/\Inv E B σ' (patch h i r) g' w'/\Den E σ' g' r.v u
theorem Zm6 (hE:EngOk E) (hF:FnsOk E F) {call:Nat->List (SV Y)->Hp Y->Nat->(Res Y->Prop)->Prop} (hstep:∀(o:Oper) T h i k,DomLt h i->step E call o.op T h i k->∃r,k r/\OpTri2 E o T h i r) {rec:Nat->Nat->Code->Fr Y->Hp Y->Nat->List Nat->Kont Y->Prop} (hrec:∀f N c,VcOk E N c (rec f N c)) {f:Nat} {pm:Option Value} {args:List (SV Y)} {h:Hp Y} {i:Nat} {k:Res Y->Prop} (hD:DomLt h i) (hk:Zpi E F pm call rec f args h i k):
 FnGood E.P f/\∃r,k r/\ROk h r/\Zgm E pm f args h i r:=by
 unfold Zpi at hk
 split at hk
 · rename_i fn hfn
   refine ⟨hF.fnG f fn hfn,?_⟩
   split at hk
   · rename_i c hc
     split at hk
     · exact hk.elim
     · rename_i hle
       rw [Nat.ble_eq] at hle
       split at hk
       · obtain ⟨e,T',h',i',ms',hK,hi,hD',⟨m,rfl,hM⟩,htri⟩:=Zx5 hE (Z2p E pm) hstep hrec c _ _ _ _ _ hD hk
         have fin:(e= .normal\/e= .ret)->finF E fn i k T' h' i' (m++ [])->∃r,k r/\ROk h r/\Zgm E pm f args h i r:=by
          intro he hK
          obtain ⟨r,hk,hR,hn,hrd,ft⟩:=Zdl hE hD (by simpa using hM) hK
          refine ⟨r,hk,hR,fun B σ g w vals hI hB hfree hd=> ?_⟩
          have hfree':∀b,i<=b->b<i'->σ b=none:=fun b h1 h2=>hfree b h1 (by omega)
          refine callsD_of_wpS (hF.fn f fn hfn) hc fun c₀ cs hmode=> ?_
          refine htri B σ g w _ c₀ cs _ hmode hI hB hfree' (Wo hd hle) (Wp hd hle) ?_
          rintro a' w' ⟨h1,h2,σ',g',h3,h4,h5⟩
          obtain ⟨u,hu,q1,q2,q3⟩:=ft B σ g w σ' g' a' w' hI hfree' h3 h4 h5
          rcases he with rfl|rfl
          · exact ⟨h1,Zbs pm,rfl,u,hu,rfl,u,rfl,σ',g',q1,q2,q3⟩
          · exact ⟨h1,Zbs pm,rfl,u,hu,rfl,u,rfl,σ',g',q1,q2,q3⟩
         split at hK
         · exact fin (.inl rfl) hK
         · exact fin (.inr rfl) hK
         · exact hK.elim
       · split at hk
         case h_2=>exact hk.elim
         obtain ⟨e,T',h',i',ms',hK,hi,hD',⟨m,rfl,hM⟩,htri⟩:=hrec f fn.ntmps c _ _ _ _ _ hD hk
         have fin:(e= .normal\/e= .ret)->finF E fn i k T' h' i' (m++ [])->∃r,k r/\ROk h r/\Zgm E none f args h i r:=by
          intro he hK
          obtain ⟨r,hk,hR,hn,hrd,ft⟩:=Zdl hE hD (by simpa using hM) hK
          refine ⟨r,hk,hR,fun B σ g w vals hI hB hfree hd=> ?_⟩
          have hfree':∀b,i<=b->b<i'->σ b=none:=fun b h1 h2=>hfree b h1 (by omega)
          refine callsD_of_wp (hF.fn f fn hfn) hc ?_
          refine htri B σ g w _ _ hI hB hfree' (Wo hd hle) (Wp hd hle) ?_
          rintro a' w' ⟨h1,h2,σ',g',h3,h4,h5⟩
          obtain ⟨u,hu,q1,q2,q3⟩:=ft B σ g w σ' g' a' w' hI hfree' h3 h4 h5
          rcases he with rfl|rfl
          · exact bodyPost_end hu h1 ⟨u,rfl,σ',g',q1,q2,q3⟩
          · exact bodyPost_ret hu h1 ⟨u,rfl,σ',g',q1,q2,q3⟩
         split at hK
         · exact fin (.inl rfl) hK
         · exact fin (.inr rfl) hK
         · exact hK.elim
   · exact hk.elim
 · exact hk.elim
end
end
section
open Go.RowKit
section
variable {Y:Thy} {E:Eng Y}
theorem Zwd (hE:EngOk E) {call:Nat->List (SV Y)->Hp Y->Nat->(Res Y->Prop)->Prop} (hstep:∀(o:Oper) T h i k,DomLt h i->step E call o.op T h i k->∃r,k r/\OpTri2 E o T h i r) {N:Nat} {ops:List Oper} {t:TypeId} {kd:IntKind} {T:Fr Y} {h:Hp Y} {i:Nat} {ms:List Nat} {K:Fr Y->Hp Y->Nat->List Nat->Prop} (hD:DomLt h i)
 (hh:Ztm E ops=some (t,kd)) (hk:Z0d E call N ops t kd T h i ms K) (id:Nat):
 ∃T' h' i' ms',K T' h' i' ms'/\i<=i'/\Dom h i h' i'/\(∃m,ms'=m++ms/\Y4 h i i' m)/\CodeTri E N (.region id ops.toArray true) T h i .normal T' h' i' ms':=by
 unfold Z0d at hk
 exact hk.elim
end
end
end Go.Proofs.YtbaeahmhdfdndaaGreatDoor
