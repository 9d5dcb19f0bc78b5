/- Merged texts: EngLD, EngUD, EngL, EngWA, EngW, EngX, EngZ, Mem, EngZA, EngZB, EngZD, EngZE, EngZF, EngZG, TtDat, Arith, TvSpec, TvDat, EdDat, TvEng, TvOk, EngZC, Close, TvSm, TtMade, TtTop, TtTop2, EdTop, TtDoor, EdP. -/
import Derived.WalkKit
import Derived.WalkSpells
import Derived.WalkLawsBesides
import Derived.Lib.Hide
import Derived.Test.YtbkgpcknakidkaaGreatDoorProg
import Derived.ProofKit
import Derived.OpenShut
import Derived.LaidMore
import Derived.Deep.Slices
import Derived.Test.YtbkgpcknakidkaaGreatDoorRows
import Derived.Stop.Joined
import Derived.SevenTiedAt
import Derived.WideKeyElems2
import Derived.Test.YtbkgpcknakidkaaGreatDoorTie
import Derived.Test.YtbkgpcknakidkaaGreatDoorCards
import Derived.Lay
import Derived.MakeChecks
import Derived.SizedLaws
import Derived.ChangeMaps5
import Derived.Test.YtbkgpcknakidkaaGreatDoorMb
open Array renaming all_eq_true->gk,getD->ee,getD_eq_getD_getElem?->aS,getElem?_eq_getElem->cX,getElem?_toList->ez,length_toList->eY,replicate->dj,toArray_toList->fE,toList_append->hH
open Bool renaming and_eq_true->aq,and_self->da,false->ab,false_eq_true->aN,not_eq_true->bg,not_eq_true'->bj,or_eq_true->bm,rec->jr,true->ac
open Go.Builtin renaming clear_->eD,delete_->ip,zeroCells->cq
open Go.Call renaming operands->dz
open Go.DataW renaming TrodAll->hJ,trod->ia
open Go.Instr renaming findNow->bW,panic->jj,sameNow->cg
open Go.MapEntry renaming mk->gD
open Go.Op renaming operands->aQ
open Go.Proofs.YtbkgpcknakidkaaGreatDoor.Blk renaming cells->cE,fzc->gT
open Go.Result renaming andThen_ok->aA
open Go.Sem renaming run->hZ,run_bind->aF,run_pure->aJ
open Go.WideElems renaming elemAt->eE,rg->gg
open Go.laidMetH renaming filter->gu
open List renaming append_nil->cG,eq_nil_of_length_eq_zero->cH,getD->ah,getD_eq_getElem?_getD->bN,getElem?_append_left->bJ,getElem?_cons_succ->dI,getElem?_cons_zero->dw,getElem?_drop->cO,getElem?_eq_getElem->ao,getElem?_eq_some_iff->ai,getElem?_inj->jR,getElem?_map->bv,getElem?_take->bO,getElem?_toArray->bU,getElem_of_mem->dd,length_take->bi,map->lr,map_cons->bQ,mem_append->cf,mem_append_left->eX,mem_append_right->dE,mem_cons->aH,mem_cons_of_mem->aI,mem_cons_self->bH,mem_filter->cM,mem_filterMap->jK,mem_map->fw,mem_map_of_mem->jx,mem_of_getElem?->aL,mem_range->dU,replicate->aR
open Nat renaming add_assoc->dH,add_mul->cp,beq->aO,beq_eq->fp,beq_refl->fP,ble->bP,ble_eq->bu,blt->aU,eq_of_beq_eq_true->ax,le_refl->av,le_trans->bS,lt_of_lt_of_le->ck,lt_or_ge->fH,mul_le_mul_right->bb,sub_self->eB
open Option renaming bind_eq_some_iff->aj,getD_some->cZ,map_eq_some_iff->br,map_some->cm,ne_none_iff_exists'->aY,none->au,some->ae
open Option.some renaming inj->bd,injEq->cr
open Prod.mk renaming injEq->fi
namespace Go.Proofs.YtbkgpcknakidkaaGreatDoor
set_option linter.unusedVariables false
set_option linter.unusedSimpArgs false
set_option linter.unnecessarySimpa false
set_option maxRecDepth 100000
section
open Go.RowKit
section
variable {Y:Thy} {E:Eng Y}
theorem mem_esOf{key:Value} {v:SV Y}:∀{cs:List (MK Y)},(key,v)∈esOf cs↔∃k:Nat,cs[k]? =ae (MK.ins key v)
 | []=>by simp[esOf]
 |c::r=>by
  have J:=mem_esOf (key:=key) (v:=v) (cs:=r)
  have shift:(∃k:Nat,(c::r)[k]? =ae (MK.ins key v))↔c=MK.ins key v\/∃k:Nat,r[k]? =ae (MK.ins key v):=by
   constructor
   ·rintro⟨k,I⟩
    cases k with
    |zero=>simp at I;exact .inl I
    |succ k=>exact .inr ⟨k,by simpa using I⟩
   ·rintro(h|⟨k,I⟩)
    ·exact⟨0,by simp[h]⟩
    ·exact⟨k+1,by simpa using I⟩
  rw[shift,<-J]
  cases c with
  |ins R U=>simp only[esOf,aH,fi,MK.ins.injEq];constructor<;>(rintro(⟨a,b⟩|h)<;>first|exact .inl ⟨a.symm,b.symm⟩|exact .inr h)
  |_=>simp[esOf]
theorem Zl3:∀{cs:List (MK Y)},(∀(k k':Nat) key v v',cs[k]? =ae (MK.ins key v)->cs[k']? =ae (MK.ins key v')->k=k')->∀(j R:Nat) (k:Value) (U a0:SV Y),(esOf cs)[j]? =ae (k,U)->(esOf cs)[R]? =ae (k,a0)->j=R
 | [],_,j,R,k,U,a0,h,_=>by simp[esOf] at h
 |c::r,h,j,R,k,U,a0,I,J=>by
  have hr:∀(k k':Nat) key v v',r[k]? =ae (MK.ins key v)->r[k']? =ae (MK.ins key v')->k=k':=λk k' key v v' a b=>by
   have:=h (k+1) (k'+1) key v v' (by simpa using a) (by simpa using b);omega
  have ih:=Zl3 hr
  cases c with
  |ins key v=>
   simp only[esOf] at I J
   have no:∀(q:Nat) sv0,(esOf r)[q]? =ae (key,sv0)->False:=λq sv0 hq=>by
    obtain⟨k0,a1⟩:=mem_esOf.1 (aL hq)
    have:=h 0 (k0+1) key v sv0 rfl (by simpa using a1)
    omega
   cases j with
   |zero=>
    cases R with
    |zero=>rfl
    |succ q=>simp at I J;obtain⟨rfl,rfl⟩:=I;exact(no q _ J).elim
   |succ p=>
    cases R with
    |zero=>simp at I J;obtain⟨rfl,rfl⟩:=J;exact(no p _ I).elim
    |succ q=>simp at I J;rw[ih p q k U a0 I J]
  |mk=>exact ih j R k U a0 I J
  |val _ _=>exact ih j R k U a0 I J
  |out=>exact ih j R k U a0 I J
structure LOk(E:Eng Y) (os:List Oper) (cs:List (MK Y)) (t:TypeId) (kd:IntKind) (Tm:Fr Y) (h:Hp Y) (i:Nat):Prop where
 len:os.length=cs.length
 wt:∀(k:Nat) o,os[k]? =ae o->∀x∈waitsOf o,x<k
 gd:∀(k:Nat) o,os[k]? =ae o->o.guard=au
 dst1:∀(k k':Nat) o o' d,os[k]? =ae o->os[k']? =ae o'->o.dst=ae d->o'.dst=ae d->k=k'
 key:∀(k:Nat) key v,cs[k]? =ae (.ins key v)->∃n,key= .int kd n
 key1:∀(k k':Nat) key v v',cs[k]? =ae (.ins key v)->cs[k']? =ae (.ins key v')->k=k'
 nidv:∀(k:Nat) key v,cs[k]? =ae (.ins key v)->nid i v=ac
 ty:∃kt et a b c,E.ty t=ae ⟨.map kt et,a,b,c⟩/\keyKind E kt=ae ac
 mkk:∀(k:Nat) o,os[k]? =ae o->cs[k]? =ae .mk->k=0/\o.op= .makeMap t au/\∃d,o.dst=ae d
 val:∀(k:Nat) o rd v,os[k]? =ae o->cs[k]? =ae (.val rd v)->i∉rd/\(∃d,o.dst=ae d)/\OpTri E o Tm h i (quiet rd v)
 ins:∀(k:Nat) o key v,os[k]? =ae o->cs[k]? =ae (.ins key v)->o.dst=au/\∃m d,o.op= .insert t (.tmp m) (.const key) (.tmp d)/\
  (∃k1∈waitsOf o,cs[k1]? =ae .mk/\∃o1,os[k1]? =ae o1/\o1.dst=ae m)/\(∃k2∈waitsOf o,∃rd,cs[k2]? =ae (.val rd v)/\∃o2,os[k2]? =ae o2/\o2.dst=ae d)
 out:∀(k:Nat) o,os[k]? =ae o->cs[k]? =ae .out->∃x d,(o.op= .move (.tmp x)\/o.op= .assign (.tmp x))/\o.dst=ae d/\
  ∃k1∈waitsOf o,(cs[k1]? =ae .mk\/cs[k1]? =ae .out)/\∃o1,os[k1]? =ae o1/\o1.dst=ae x
 mk0:cs[0]? =ae .mk
theorem Zrz{kd:IntKind} {n:Int} {v:SV Y}:∀{L:List (Value×SV Y)},(∀p∈L,∃m,p.1= .int kd m/\m≠n)->Zgt ac (.int kd n) v L=ae (L++ [(.int kd n,v)])
 | [],_=>rfl
 |(U,u)::r,h=>by
  obtain⟨m,I,J⟩:=h (U,u) (by simp)
  simp only at I
  subst I
  unfold Zgt
  simp only[decide_true,List.cons_append]
  rw[show(n==m)=ab by simpa usingλe=>J e.symm,Zrz (λp R=>h p (by simp[R]))]
def LFr(E:Eng Y) (os:List Oper) (cs:List (MK Y)) (i:Nat) (σ1:Pl) (J:GH) (D:Nat->Bool) (a I:Act):Prop:=
 (∀t,(∀(k:Nat) o,os[k]? =ae o->o.dst≠ae t)->I.eval (.tmp t)=a.eval (.tmp t))/\
 (∀(k:Nat) o rd v d,D k=ac->os[k]? =ae o->cs[k]? =ae (.val rd v)->o.dst=ae d->Den E σ1 J v (I.eval (.tmp d)))/\
 (∀(k:Nat) o d,D k=ac->os[k]? =ae o->(cs[k]? =ae .mk\/cs[k]? =ae .out)->o.dst=ae d->Den E σ1 J (.map i) (I.eval (.tmp d)))
def LHp(cs:List (MK Y)) (h:Hp Y) (i:Nat) (D:Nat->Bool) (I:Hp Y):Prop:=
 (D 0=ab->I=h)/\(D 0=ac->∃L:List (Value×SV Y),I=upd h i (ae (.map L))/\(∀key v,(key,v)∈L↔∃k,D k=ac/\cs[k]? =ae (.ins key v))/\(L.map Prod.fst).Nodup)
theorem Zon{os:List Oper} {cs:List (MK Y)} {i N:Nat} {σ1 σ2:Pl} {g1 g2:GH} {D:Nat->Bool} {a U:Act} (hF:LFr E os cs i σ1 g1 D a U) (hs:Pl.le σ1 σ2) (hg:g1.le g2) {j:Nat} {o:Oper} {u:Value} (hj:os[j]? =ae o)
 (h1:∀(k k':Nat) o I d,os[k]? =ae o->os[k']? =ae I->o.dst=ae d->I.dst=ae d->k=k') (a0:∀d,o.dst=ae d->d<U.tmps.size)
 (hv:∀rd v,cs[j]? =ae (.val rd v)->Den E σ2 g2 v u) (hm:(cs[j]? =ae .mk\/cs[j]? =ae .out)->Den E σ2 g2 (.map i) u):LFr E os cs i σ2 g2 (λk=>if k=j then ac else D k) a (U.put o.dst u):=by
 obtain⟨f1,f2,f3⟩:=hF
 have other:∀(k:Nat) I d,os[k]? =ae I->I.dst=ae d->k≠j->(U.put o.dst u).eval (.tmp d)=U.eval (.tmp d):=by
  intro k I d J hd a1
  rw[Zca,jJ]
  rintro⟨e,_⟩
  exact a1 (h1 k j I o d J hj hd e)
 have same:∀d,o.dst=ae d->(U.put o.dst u).eval (.tmp d)=u:=λd hd=>by rw[Zca,jM ⟨hd,a0 d hd⟩]
 refine⟨λt ht=> ?_,λk I rd v d J R hc hd=> ?_,λk I d J R hc hd=> ?_⟩
 ·rw[Zca,jJ (by rintro⟨e,_⟩;exact ht j o hj e)];exact f1 t ht
 ·by_cases e:k=j
  ·subst e
   rw[hj] at R;cases R
   rw[same d hd];exact hv rd v hc
  ·have J:D k=true:=by simpa[e] using J
   rw[other k I d R hd e];exact(f2 k I rd v d J R hc hd).mono hs hg
 ·by_cases e:k=j
  ·subst e
   rw[hj] at R;cases R
   rw[same d hd];exact hm hc
  ·have J:D k=true:=by simpa[e] using J
   rw[other k I d R hd e];exact(f3 k I d J R hc hd).mono hs hg
theorem Z1m(hE : EngOk E) {os : List Oper} {cs : List (MK Y)} {t : TypeId} {kd : IntKind} {T : Fr Y} {h : Hp Y} {i N : Nat} {dl : Nat} {kl : Nat} {ol : Oper} (hL : LOk E os cs t kd (Vh (Yd os) T) h i) (hD : DomLt h i)
    (hlast : os[kl]? = ae ol) (hlc : cs[kl]? = ae .out) (hld : ol.dst = ae dl) (hlt : ∀ (k : Nat) o d, os[k]? = ae o → o.dst = ae d → d < N) (id : Nat) (ms : List Nat)
    (B : Nat) (σ : Pl) (g : GH) (w : World) (a : Act) (Q : Exit → Act → World → Prop) (hI : Inv E B σ h g w) (hB : B ≤ w.heap.size) (hfree : σ i = au) (hF : FrOk E σ g T a) (hN : a.tmps.size = N)
    (hQ : ∀ a' w', Aft E B N i i ms σ g w a.defers (upd (Vh (Yd os) T) dl (.pmap (esOf cs))) h a' w' → Q .normal a' w') : (Code.region id os.toArray ac).wp E.P Q a w := by
  classical
  have key : ∀ (m : Nat) (listed : Array Bool) (a1 : Act) (w1 : World), listed.size = os.length → cntF listed os.length = m → (∀ (k : Nat) o, os[k]? = ae o → listed.getD k ab = ac → ∀ x ∈ waitsOf o, listed.getD x ab = ac) → a1.defers = a.defers → a1.tmps.size = N →
      (∃ σ1 g1 h1, Stp i 1 [] σ g w σ1 g1 w1 ∧ Inv E B σ1 h1 g1 w1 ∧ LFr E os cs i σ1 g1 (λx => listed.getD x ab) a a1 ∧ LHp cs h i (λx => listed.getD x ab) h1 ∧ (listed.getD 0 ab = ab → σ1 i = au)) →
      wpAny E.P .any os.toArray Q m listed a1 w1 := by
    intro m
    induction m with
    | zero =>
      intro listed a1 w1 hsz hc hcl hdf hN1 ⟨σ1, g1, h1, hS, hI1, hF1, hH1, _⟩
      have hall := Ziv hc
      have hall' : ∀ k, k < os.length → listed.getD k ab = true := by
        intro k hk
        have := hall k hk
        rw[aS, cX (by omega)] at this ⊢
        exact this
      refine⟨?_, ?_⟩
      ·unfold Region.ready
       rw[List.filter_eq_nil_iff]
       intro k hk
       have hk' : k < os.length := by simpa using hk
       rw[hall k hk']
       simp
      ·have lt0 : ∀ {k : Nat} {c : MK Y}, cs[k]? = ae c → k < os.length := λhk => by rw[hL.len]; exact(ai.1 hk).1
       obtain⟨L, rfl, hmem, hnd⟩ := hH1.2 (hall' 0 (lt0 hL.mk0))
       have hout := hF1.2.2 kl ol dl (hall' kl (lt0 hlc)) hlast (.inr hlc) hld
       generalize hvm : a1.eval (.tmp dl) = vm at hout
       cases hout
       rename_i r z hσr
       obtain⟨r2, z2, hσ2, ents, cl, hents, hesz, hed⟩ := hI1.blk i (.map L) (by rw[Ze, jM rfl])
       rw[hσr] at hσ2; cases hσ2
       have hrnew : w.heap.size ≤ r := by
         rcases hS.blk i r z hfree hσr with h1 | ⟨b, h1, _⟩
         ·exact h1
         ·simp at h1
       have hrlt : r < w1.heap.size := (Array.getElem?_eq_some_iff.1 hents).1
       have hobj : g1.obj r = none := hI1.fm i _ r z (by rw[Ze, jM rfl]) hσr
       let g2 : GH := { cell := g1.cell, obj := λq => if q = r then ae ents else g1.obj q }
       have hg12 : g1.le g2 := ⟨λ_ _ _ h => h, λq es hq => by
         show(if q = r then _ else _) = _
         rw[jJ (by rintro rfl; rw[hobj] at hq; cases hq)]; exact hq⟩
       have hheap : ∀ q, q < w.heap.size → w1.heap[q]? = w.heap[q]? := λq hq => hS.heap q hq (by simp)
       have hcell : ∀ q o' v, g1.cell q o' = ae v → g.cell q o' = ae v ∨ w.heap.size ≤ q := λq o' v hv => by
         rcases hS.gcnew q o' v hv with h1 | h1 | ⟨b, h1, _⟩
         ·exact .inl h1
         ·exact .inr h1
         ·simp at h1
       have hg2 : g.le g2 := hS.gle.trans hg12
       have hS2 : Stp i 0 [] σ g w σ g2 w1 := by
         refine⟨.refl _, λb p hb => .inl hb, hg2, λq o' v hv => (hcell q o' v hv).imp (λx => x) .inl, λq es hq => ?_, λq hq _ => hheap q hq, hS.size, hS.os, hS.tape, hS.output, λb q z h1 h2 => by rw[h1] at h2; cases h2⟩
         have hq' : (if q = r then ae ents else g1.obj q) = ae es := hq
         split at hq'
         ·rename_i e; right; omega
         ·exact hS.gmnew q es hq'
       have hI2 : Inv E B σ h g2 w1 := by
         refine⟨hI1.gc, ?_, ?_, hI.inj, λb q z hb => ⟨(hI.base b q z hb).1, ck (hI.base b q z hb).2 hS.size⟩, ?_, ?_, ?_⟩
         ·intro q es hq
          have hq' : (if q = r then ae ents else g1.obj q) = ae es := hq
          split at hq'
          ·rename_i e; subst e; cases hq'; exact⟨cl, hents⟩
          ·exact hI1.gm q es hq'
         ·intro b x hx
          obtain⟨q, z', h1, h2⟩ := hI.blk b x hx
          exact⟨q, z', h1, h2.mono (.refl _) hg2 (hheap q (hI.base b q z' h1).2)⟩
         ·intro b x q z' o' v hx hb hv
          rcases hcell q o' v hv with h1 | h1
          ·exact hI.fz b x q z' o' v hx hb h1
          ·have := (hI.base b q z' hb).2; omega
         ·intro b x q z' hx hb
          show(if q = r then ae ents else g1.obj q) = au
          have hq := (hI.base b q z' hb).2
          rw[jJ (by omega)]
          cases hg : g1.obj q with
          | none => rfl
          | some es =>
            rcases hS.gmnew q es hg with h1 | h1
            ·rw[hI.fm b x q z' hx hb] at h1; cases h1
            ·omega
         ·intro n sv hn j s hj
          obtain⟨v, h1, h2⟩ := hI1.glob n sv hn j s hj
          exact⟨v, h1, h2.mono (.refl _) hg12⟩
       have hlow : ∀ b p, b < i → σ1 b = ae p → σ b = ae p := λb p hb hp => by
         rcases hS.snew b p hp with h1 | h1
         ·exact h1
         ·omega
       have hLes : ∀ ky v, (ky, v) ∈ L ↔ (ky, v) ∈ esOf cs := λky v => by
         rw[hmem, mem_esOf]
         exact⟨λ⟨k, _, h⟩ => ⟨k, h⟩, λ⟨k, h⟩ => ⟨k, hall' k (lt0 h), h⟩⟩
       have hLkey : ∀ (q q' : Nat) ky sv sv', L[q]? = ae (ky, sv) → L[q']? = ae (ky, sv') → q = q' := λq q' ky sv sv' h1 h2 => by
         have l1 := (ai.1 h1).1
         have l2 := (ai.1 h2).1
         have e1 : (L.map Prod.fst)[q]? = ae ky := by rw[bv, h1]; rfl
         have e2 : (L.map Prod.fst)[q']? = ae ky := by rw[bv, h2]; rfl
         exact(jR (by simpa using l1) hnd).1 (e1.trans e2.symm)
       have hesN : ∀ (j j' : Nat) k sv sv', (esOf cs)[j]? = ae (k, sv) → (esOf cs)[j']? = ae (k, sv') → j = j' := Zl3 hL.key1
       have hch : ∀ j : Nat, ∃ v : Value, ∀ (ky : Value) (sv : SV Y), (esOf cs)[j]? = ae (ky, sv) → ∃ (bo : Nat) (q : Nat), ents[q]? = ae (gD ky v bo) ∧ L[q]? = ae (ky, sv) ∧ Den E σ g2 sv v := by
         intro j
         cases hj : (esOf cs)[j]? with
         | none => exact⟨undef, λ_ _ h => by cases h⟩
         | some p =>
           obtain⟨ky, sv⟩ := p
           have hin : (ky, sv) ∈ L := (hLes ky sv).2 (aL hj)
           obtain⟨q, hq, hqe⟩ := dd hin
           have hq' : L[q]? = ae (ky, sv) := by rw[ao hq, hqe]
           obtain⟨v, bo, h1, h2⟩ := hed q ky sv hq'
           refine⟨v, λky' sv' h => ?_⟩
           cases h
           obtain⟨k0, hk0⟩ := mem_esOf.1 (aL hj)
           exact⟨bo, q, h1, hq', (Zy hE h2 hlow (hL.nidv k0 _ _ hk0)).mono (.refl _) hg12⟩
       obtain⟨c, hc⟩ := Classical.axiomOfChoice hch
       have hpm : Den E σ g2 (.pmap (esOf cs)) (.map (ae r)) := by
         refine .pmap (ents := ents) c (ae kd) (by show(if r = r then ae ents else _) = _; rw[jM rfl]) ?_ hesN ?_ ?_ ?_
         ·intro j k sv hj
          obtain⟨k0, hk0⟩ := mem_esOf.1 (aL hj)
          exact hL.key k0 k sv hk0
         ·intro e he
          obtain⟨q, hq, rfl⟩ := dd he
          have hq2 : q < L.length := by rw[← hesz]; simpa using hq
          obtain⟨v, bo, h1, h2⟩ := hed q L[q].1 L[q].2 (by rw[ao hq2])
          have hen : ents.toList[q] = gD L[q].1 v bo := by
            have : ents.toList[q]? = ae (gD L[q].1 v bo) := by simpa using h1
            rw[ao hq] at this
            exact bd this
          rw[hen]
          obtain⟨j, hj, hje⟩ := dd ((hLes L[q].1 L[q].2).1 (List.getElem_mem hq2))
          have hj' : (esOf cs)[j]? = ae (L[q].1, L[q].2) := by rw[ao hj, hje]
          obtain⟨bo2, q2, h3, h4, h5⟩ := hc j _ _ hj'
          have : q = q2 := hLkey q q2 _ L[q].2 _ (by rw[ao hq2]) h4
          subst this
          rw[h1] at h3
          refine⟨j, L[q].2, hj', ?_⟩
          simp only[cr, MapEntry.mk.injEq, true_and] at h3
          exact h3.1
         ·intro j k sv hj
          obtain⟨bo, q, h1, _⟩ := hc j k sv hj
          exact⟨gD k (c j) bo, aL (i := q) (by rw[ez]; exact h1), rfl⟩
         ·intro j k sv hj
          obtain⟨_, _, _, _, h5⟩ := hc j k sv hj
          exact h5
       refine hQ a1 w1 ⟨hdf, hN1, σ, g2, ?_, hI2, ?_⟩
       ·rw[eB]; exact hS2.weaken (by simp)
       ·intro t'
        rw[Ze]
        split
        ·rename_i e; subst e; rw[hvm]; exact hpm
        ·rw[Zaf]
         split
         ·exact .unk _
         ·rename_i hnd'
          rw[hF1.1 t' (λk o hk e => hnd' (W4 (aL hk) e))]
          exact(hF t').mono (.refl _) hg2
    | succ m ih =>
      intro listed a1 w1 hsz hc hcl hdf hN1 ⟨σ1, g1, h1, hS, hI1, hF1, hH1, hfr1⟩
      have hge : ∀ j, j < os.length → listed.getD j ab = listed.getD j true := by
        intro j hj
        rw[aS, aS, cX (by omega)]
        rfl
      obtain⟨j0, hj0, hf0, hbef⟩ := Ziw hc
      have hr0 : j0 ∈ Region.ready .any os.toArray listed := by
        refine cM.2 ⟨dU.2 (by simpa using hj0), ?_⟩
        rw[hf0]
        rw[show(os.toArray[j0]?) = ae os[j0] by simp[hj0]]
        simp only[cm, cZ, Bool.not_false, Bool.true_and, gk, bm, bj]
        intro e he
        by_cases hbd : Region.binds .any os[j0].after[e] = ac
        ·right
         have hmem : os[j0].after[e].on ∈ waitsOf os[j0] := by
           unfold waitsOf
           exact fw.2 ⟨os[j0].after[e], cM.2 ⟨by simp, hbd⟩, rfl⟩
         have := hL.wt j0 _ (ao hj0) _ hmem
         rw[hge _ (by omega)]
         exact hbef _ this
        ·left; simpa using hbd
      refine⟨λe => ka hr0 (by rw[e]; simp), λj hj => ?_⟩
      obtain⟨hj1, hj2⟩ := cM.1 hj
      have hjl : j < os.length := by simpa using dU.1 hj1
      rw[show(os.toArray[j]?) = ae os[j] by simp[hjl]] at hj2
      simp only[cm, cZ, aq, bj, gk, bm] at hj2
      obtain⟨hjf, hje⟩ := hj2
      have hoj : os[j]? = ae os[j] := ao hjl
      generalize ho : os[j] = o at hoj hje
      have hjD : listed.getD j ab = false := by rw[hge j hjl]; exact hjf
      have hwt : ∀ k ∈ waitsOf o, listed.getD k ab = true := by
        intro k hk
        unfold waitsOf at hk
        obtain⟨e, he, rfl⟩ := fw.1 hk
        obtain⟨he1, he2⟩ := cM.1 he
        obtain⟨x, hx, rfl⟩ := dd he1
        have hx' : x < o.after.size := by simpa using hx
        rcases hje x hx' with c | c
        ·rw[show o.after[x] = o.after.toList[x] by simp] at c; rw[c] at he2; cases he2
        ·simpa using c
      have hset : (λx => (listed.setIfInBounds j ac).getD x ab) = λk => if k = j then ac else listed.getD k false := by
        funext x
        rw[aS, aS, Array.getElem?_setIfInBounds]
        by_cases e : j = x
        ·subst e; rw[jM rfl, jM rfl, jM (by omega)]; rfl
        ·rw[jJ e, jJ (λq => e q.symm)]
      have hcl2 : ∀ (k : Nat) o', os[k]? = ae o' → (listed.setIfInBounds j ac).getD k ab = ac → ∀ x ∈ waitsOf o', (listed.setIfInBounds j ac).getD x ab = true := by
        intro k o' hk hkD x hx
        have e1 : (listed.setIfInBounds j ac).getD k ab = if k = j then ac else listed.getD k false := congrFun hset k
        have e2 : (listed.setIfInBounds j ac).getD x ab = if x = j then ac else listed.getD x false := congrFun hset x
        rw[e1] at hkD
        rw[e2]
        by_cases ex : x = j
        ·rw[jM ex]
        ·rw[jJ ex]
         by_cases ek : k = j
         ·subst ek; rw[hoj] at hk; cases hk; exact hwt x hx
         ·rw[jJ ek] at hkD; exact hcl k o' hk hkD x hx
      have rest : ∀ (u : Value) (w2 : World) (σ2 : Pl) (g2 : GH) (h2 : Hp Y), Stp i 1 [] σ g w σ2 g2 w2 → Inv E B σ2 h2 g2 w2 → LFr E os cs i σ2 g2 (λk => if k = j then ac else listed.getD k ab) a (a1.put o.dst u) → LHp cs h i (λk => if k = j then ac else listed.getD k ab) h2 → ((λk => if k = j then ac else listed.getD k ab) 0 = ab → σ2 i = au) →
          wpAny E.P .any os.toArray Q m (listed.setIfInBounds j ac) (a1.put o.dst u) w2 := by
        intro u w2 σ2 g2 h2 k1 k2 k3 k4 k5
        refine ih _ _ _ (by simpa using hsz) ?_ hcl2 (by rw[W0]; exact hdf) (by rw[Uj]; exact hN1) ⟨σ2, g2, h2, k1, k2, by rw[hset]; exact k3, by rw[hset]; exact k4, λe => k5 (by rw[← hset]; exact e)⟩
        have := Zsj listed j os.length hjl (by rw[← hge j hjl]; exact hjD)
        omega
      have hlt' : ∀ d, o.dst = ae d → d < a1.tmps.size := λd hd => by rw[hN1]; exact hlt j o d hoj hd
      have hB1 : B ≤ w1.heap.size := bS hB hS.size
      obtain⟨c, hcj⟩ : ∃ c, cs[j]? = ae c := ⟨cs[j]'(by rw[← hL.len]; exact hjl), ao _⟩
      have hpKeep : (∀ key v, c ≠ .ins key v) → j ≠ 0 → LHp cs h i (λk => if k = j then ac else listed.getD k ab) h1 := by
        intro hni hj0'
        have e0 : (λk => if k = j then ac else listed.getD k ab) 0 = listed.getD 0 false := jJ (λe => hj0' e.symm)
        refine⟨λe => hH1.1 (e0.symm.trans e), λe => ?_⟩
        obtain⟨L, q1, q2, q3⟩ := hH1.2 (e0.symm.trans e)
        refine⟨L, q1, λky v => (q2 ky v).trans ⟨λ⟨k, x, y⟩ => ⟨k, by show(if k = j then ac else listed.getD k ab) = ac; split; rfl; exact x, y⟩, λ⟨k, x, y⟩ => ⟨k, ?_, y⟩⟩, q3⟩
        have x : (if k = j then ac else listed.getD k ab) = true := x
        by_cases ek : k = j
        ·subst ek; rw[hcj] at y; cases y; exact ka rfl (hni _ _)
        ·rw[jJ ek] at x; exact x
      unfold wpOp
      rw[show(os.toArray[j]?) = ae o by simp[hjl, ho]]
      simp only
      rw[jM (Zdp (hL.gd j o hoj) _)]
      left
      cases c with
      | mk =>
        obtain⟨rfl, hop, d0, hd0⟩ := hL.mkk j o hoj hcj
        obtain rfl := hH1.1 hjD
        obtain⟨r, rfl, hR, htri⟩ := Zlx (T := Vh (Yd os) T) (h := h1) (i := i) (k := λr => r = fresh i (.map i) (.map []) []) hE hop rfl
        refine OpPost.wp (htri B σ1 g1 w1 a1.eval h1 (λ_ _ => rfl) hI1 hB1 (λb b1 b2 => by have : b = i := by simp[fresh] at b2; omega
                                                                                           subst this; exact hfr1 hjD) (λx hx => by rw[hop] at hx; simp[aQ] at hx)) ?_
        rintro u w2 ⟨σ2, g2, hS2, hI2, hv⟩
        rw[Zaa] at hI2
        refine rest u w2 σ2 g2 _ (hS.join hS2 (av _) (av _) (av _) (by simp[fresh]) (by simp) (by simp[fresh])) hI2 ?_ ?_ (λe => by simp at e)
        ·exact Zon (N := N) hF1 hS2.sig hS2.gle hoj hL.dst1 hlt' (λrd v e => by rw[hcj] at e; cases e) (λ_ => hv)
        ·refine⟨λe => by simp at e, λ_ => ⟨[], rfl, λky v => ⟨λe => by simp at e, λ⟨k, x, y⟩ => ?_⟩, by simp⟩⟩
         by_cases ek : k = 0
         ·subst ek; rw[hcj] at y; cases y
         ·have x : listed.getD k ab = true := by simpa[ek] using x
          have hko : k < os.length := by rw[hL.len]; exact(ai.1 y).1
          obtain⟨_, m', d', _, ⟨k1, hw1, hc1, o1, ho1, _⟩, _⟩ := hL.ins k _ ky v (ao hko) y
          have hk1 : k1 = 0 := (hL.mkk k1 o1 ho1 hc1).1
          subst hk1
          have := hcl k _ (ao hko) x 0 hw1
          rw[hjD] at this; cases this
      | val rd v =>
        obtain⟨hird, ⟨d, hd⟩, hR, htri⟩ := hL.val j o rd v hoj hcj
        have hj0' : j ≠ 0 := by rintro rfl; rw[hL.mk0] at hcj; cases hcj
        have hag : ∀ b, Rd (quiet rd v) b → h1 b = h b := by
          intro b hb
          have hb : b ∈ rd := hb
          cases e0 : listed.getD 0 ab with
          | false => rw[hH1.1 e0]
          | true =>
            obtain⟨L, q1, _⟩ := hH1.2 e0
            rw[q1, Ze, jJ (by rintro rfl; exact hird hb)]
        refine OpPost.wp (htri B σ1 g1 w1 a1.eval h1 hag hI1 hB1 (λb b1 b2 => by simp[quiet] at b2; omega) ?_) ?_
        ·intro x _
         cases x with
         | tmp t' =>
           show Den E σ1 g1 (Vh (Yd os) T t') _
           rw[Zaf]
           split
           ·exact .unk _
           ·rename_i hnd'
            rw[hF1.1 t' (λk o hk e => hnd' (W4 (aL hk) e))]
            exact(hF t').mono hS.sig hS.gle
         | const v => exact X0 E σ1 g1 v
         | global n => exact .val _
         | func f => exact .fn (λ_ => undef) (λ_ => undef) rfl (λj hj => by simp at hj) (λj sv hj => by simp at hj) rfl (λj hj => by simp at hj) (λj sv hj => by simp at hj)
        ·rintro u w2 ⟨σ2, g2, hS2, hI2, hv⟩
         rw[Y4] at hI2
         refine rest u w2 σ2 g2 _ (hS.join hS2 (av _) (av _) (av _) (by simp[quiet]) (by simp) (by simp[quiet])) hI2 ?_ (hpKeep (λ_ _ e => by cases e) hj0') (λe => ?_)
         ·exact Zon (N := N) hF1 hS2.sig hS2.gle hoj hL.dst1 hlt' (λrd' v' e => by rw[hcj] at e; cases e; exact hv) (λe => by rw[hcj] at e; rcases e with e | e <;> cases e)
         ·have e' : listed.getD 0 ab = false := by simpa[Ne.symm hj0'] using e
          cases hq : σ2 i with
          | none => rfl
          | some p =>
            rcases hS2.snew i p hq with h3 | h3
            ·rw[hfr1 e'] at h3; cases h3
            ·simp[quiet] at h3
      | ins ky v =>
        obtain⟨hdn, m', d', hop, ⟨k1, hw1, hc1, o1, ho1, hd1⟩, ⟨k2, hw2, rd2, hc2, o2, ho2, hd2⟩⟩ := hL.ins j o ky v hoj hcj
        have hj0' : j ≠ 0 := by rintro rfl; rw[hL.mk0] at hcj; cases hcj
        have hk1 : k1 = 0 := (hL.mkk k1 o1 ho1 hc1).1
        subst hk1
        have hD0 : listed.getD 0 ab = true := hwt 0 hw1
        obtain⟨L, q1, q2, q3⟩ := hH1.2 hD0
        obtain⟨kt, et, x1, x2, x3, hty, hkk⟩ := hL.ty
        obtain⟨n, rfl⟩ := hL.key j ky v hcj
        have hmv := hF1.2.2 0 o1 m' hD0 ho1 (.inl hc1) hd1
        have hvv := hF1.2.1 k2 o2 rd2 v d' (hwt k2 hw2) ho2 hc2 hd2
        let TT : Fr Y := upd (upd (λ_ => .unk) m' (.map i)) d' v
        have hne : m' ≠ d' := by
          rintro rfl
          have := hL.dst1 0 k2 o1 o2 m' ho1 ho2 hd1 hd2
          subst this; rw[hc1] at hc2; cases hc2
        have e1 : ev TT (.tmp m') = .map i := by show TT m' = _; simp only[TT]; rw[Ze, jJ hne, Ze, jM rfl]
        have e2 : ev TT (.tmp d') = v := by show TT d' = _; simp only[TT]; rw[Ze, jM rfl]
        have e3 : ev TT (.const (.int kd n)) = (.int ac kd n : SV Y) := rfl
        have hi1 : h1 i = ae (.map L) := by rw[q1, Ze, jM rfl]
        have hnew : ∀ p ∈ L, ∃ m, p.1 = .int kd m ∧ m ≠ n := by
          rintro⟨pk, pv⟩ hp
          obtain⟨k, hDk, hck⟩ := (q2 pk pv).1 hp
          obtain⟨m, rfl⟩ := hL.key k pk pv hck
          refine⟨m, rfl, ?_⟩
          rintro rfl
          have := hL.key1 k j _ _ _ hck hcj
          subst this
          have hDk : listed.getD k ab = true := hDk
          rw[hjD] at hDk; cases hDk
        have hput := Zrz (v := v) hnew
        obtain⟨r, rfl, hR, htri⟩ := Zuj (o := o) (T := TT) (h := h1) (i := i + 1) (k := λr => r = change i (ae (.map (L ++ [(.int kd n, v)]))) .unk [i]) hE (.inr hop) (by
          unfold sput
          rw[hty, e1]
          simp only[hkk, hi1, e3, Zk4, e2, hput])
        refine OpPost.wp (htri B σ1 g1 w1 a1.eval h1 (λ_ _ => rfl) hI1 hB1 (λb b1 b2 => by simp[change] at b2; omega) ?_) ?_
        ·intro x hx
         rw[hop] at hx
         simp[aQ] at hx
         rcases hx with rfl | rfl | rfl
         ·rw[e1]; exact hmv
         ·rw[e3]; exact .int _ _ _
         ·rw[e2]; exact hvv
        ·rintro u w2 ⟨σ2, g2, hS2, hI2, hv⟩
         rw[Yc] at hI2
         have hS3 : Stp i 1 [i] σ g w σ2 g2 w2 := by
           have hS2' : Stp (i + 1) 0 [i] σ1 g1 w1 σ2 g2 w2 := hS2
           exact hS.join hS2' (av _) (av _) (by omega) (by omega) (by simp) (by simp)
         have hS4 : Stp i 1 [] σ g w σ2 g2 w2 := by
           have h5 : Stp i (i + 1 - i) [i] σ g w σ2 g2 w2 := by rw[show i + 1 - i = 1 by omega]; exact hS3
           have := h5.filter hD (λb hb => by simp at hb; subst hb; right; omega) (λb b1 b2 => by have : b = i := by omega
                                                                                                 subst this; exact hfree)
           rw[show i + 1 - i = 1 by omega] at this
           exact this.weaken (λb hb => by have := X2 hb; simp at this; omega)
         have hσ2 : Pl.le σ1 σ2 := hS2.sig
         refine rest u w2 σ2 g2 _ hS4 hI2 ?_ ⟨λe => ?_, λ_ => ⟨L ++ [(.int kd n, v)], ?_, λky' v' => ?_, ?_⟩⟩ (λe => ?_)
         ·exact Zon (N := N) hF1 hS2.sig hS2.gle hoj hL.dst1 hlt' (λrd' v' e => by rw[hcj] at e; cases e) (λe => by rw[hcj] at e; rcases e with e | e <;> cases e)
         ·have e' : listed.getD 0 ab = false := by simpa[Ne.symm hj0'] using e
          rw[hD0] at e'; cases e'
         ·rw[q1]; funext b; rw[Ze, Ze, Ze]; split <;> rfl
         ·rw[cf, q2]
          constructor
          ·rintro(⟨k, x, y⟩ | hx)
           ·exact⟨k, by show(if k = j then ac else _) = ac; split; rfl; exact x, y⟩
           ·simp at hx; obtain⟨rfl, rfl⟩ := hx
            exact⟨j, by show(if j = j then ac else _) = ac; rw[jM rfl], hcj⟩
          ·rintro⟨k, x, y⟩
           have x : (if k = j then ac else listed.getD k ab) = true := x
           by_cases ek : k = j
           ·subst ek; rw[hcj] at y; cases y; right; simp
           ·rw[jJ ek] at x; exact .inl ⟨k, x, y⟩
         ·rw[List.map_append, List.nodup_append]
          refine⟨q3, by simp, ?_⟩
          intro x hx y hy
          simp at hy
          subst hy
          obtain⟨p, hp, rfl⟩ := fw.1 hx
          obtain⟨m, hm, hmn⟩ := hnew p hp
          rw[hm]
          intro e
          cases e
          exact hmn rfl
         ·have e' : listed.getD 0 ab = false := by simpa[Ne.symm hj0'] using e
          rw[hD0] at e'; cases e'
      | out =>
        obtain⟨x, d, hop, hd, k1, hw1, hc1, o1, ho1, hd1⟩ := hL.out j o hoj hcj
        have hj0' : j ≠ 0 := by rintro rfl; rw[hL.mk0] at hcj; cases hcj
        have hmv := hF1.2.2 k1 o1 x (hwt k1 hw1) ho1 hc1 hd1
        have hrun : (execOp a1.eval o).run E.P w1 = .ok (.value (a1.eval (.tmp x))) w1 := by
          unfold execOp
          rcases hop with hop | hop <;> simp only[hop, aJ]
        unfold Oper.wp
        rw[hrun]
        show wpAny E.P .any os.toArray Q m (listed.setIfInBounds j ac) (a1.put o.dst _) w1
        refine rest _ w1 σ1 g1 h1 hS hI1 ?_ (hpKeep (λ_ _ e => by cases e) hj0') (λe => hfr1 (by simpa[Ne.symm hj0'] using e))
        exact Zon (N := N) hF1 (.refl _) (.refl _) hoj hL.dst1 hlt' (λrd' v' e => by rw[hcj] at e; cases e) (λ_ => hmv)
  refine wp_region_any hE.mix ?_
  have hdr : Inv E B σ h g { w with drawn := w.drawn + 1 } := ⟨hI.gc, hI.gm, hI.blk, hI.inj, hI.base, hI.fz, hI.fm, hI.glob⟩
  have e0 : (λx => (dj os.length ab).getD x ab) = λ_ => false := by
    funext x
    by_cases c : x < os.length <;> simp[ee, c]
  have hcl0 : ∀ (k : Nat) o, os[k]? = ae o → (dj os.length ab).getD k ab = ac → ∀ x ∈ waitsOf o, (dj os.length ab).getD x ab = true := by
    intro k o hk hkD
    have h9 : (dj os.length ab).getD k ab = false := congrFun e0 k
    rw[h9] at hkD; cases hkD
  have := key os.length (dj os.length ab) a { w with drawn := w.drawn + 1 } (by simp) ?_ hcl0 rfl hN ⟨σ, g, h, ?_, hdr, ?_, ?_, λ_ => hfree⟩
  ·simpa using this
  ·unfold cntF
   rw[List.filter_eq_self.2, List.length_range]
   intro j hj
   have : j < os.length := dU.1 hj
   simp[ee, this]
  ·exact(⟨.refl _, λ_ _ h => .inl h, .refl _, λ_ _ _ h => .inl h, λ_ _ h => .inl h, λ_ _ _ => rfl, av _, rfl, rfl, rfl, λ_ _ _ h k => by rw[h] at k; cases k⟩)
  ·rw[e0]; exact⟨λ_ _ => rfl, (λk o rd v d hk => by cases hk), λk o d hk => by cases hk⟩
  ·rw[e0]; exact⟨λ_ => rfl, λe => by cases e⟩
theorem Zu5{α:Type}:∀(l:List α) (n:Nat),getO l n=l[n]?
 | [],n=>by simp[getO]
 |x::r,0=>rfl
 |x::r,n+1=>by simpa[getO] using Zu5 r n
theorem Zam{all:List Oper} {cs:List (MK Y)} {d:Nat} {c:MK Y}:∀{ws:List Nat},Zkp all cs d ws=ae c->∃k∈ws,cs[k]? =ae c/\∃o,all[k]? =ae o/\o.dst=ae d
 | [],h=>by cases h
 |k::r,h=>by
  have more:Zkp all cs d r=ae c->∃I∈k::r,cs[I]? =ae c/\∃o,all[I]? =ae o/\o.dst=ae d:=λh=>by
   obtain⟨I,J,R⟩:=Zam h
   exact⟨I,aI _ J,R⟩
  unfold Zkp at h
  rw[Zu5,Zu5] at h
  split at h
  ·rename_i o c' ho U
   split at h
   ·rename_i d' hd
    split at h
    ·rename_i e
     cases h
     exact⟨k,by simp,U,o,ho,by rw[hd,ax e]⟩
    ·exact more h
   ·exact more h
  ·exact more h
theorem Zoo{α:Type}:∀{l:List α} {x:α},Z82 l=ae x->l[l.length-1]? =ae x
 | [],x,h=>by cases h
 | [y],x,h=>by cases h;rfl
 |y::z::r,x,h=>by
  have:=Zoo (l:=z::r) (x:=x) h
  simpa using this
def OpL(E:Eng Y) (all:List Oper) (t:TypeId) (Tm:Fr Y) (h:Hp Y) (i:Nat) (cs:List (MK Y)) (k:Nat) (o:Oper):MK Y->Prop
 | .mk=>k=0/\o.op= .makeMap t au/\∃d,o.dst=ae d
 | .val rd v=>i∉rd/\(∃d,o.dst=ae d)/\OpTri E o Tm h i (quiet rd v)
 | .ins key v=>o.dst=au/\∃m d,o.op= .insert t (.tmp m) (.const key) (.tmp d)/\
  (∃I∈waitsOf o,cs[I]? =ae .mk/\∃J,all[I]? =ae J/\J.dst=ae m)/\(∃R∈waitsOf o,∃rd,cs[R]? =ae (.val rd v)/\∃U,all[R]? =ae U/\U.dst=ae d)
 | .out=>∃x d,(o.op= .move (.tmp x)\/o.op= .assign (.tmp x))/\o.dst=ae d/\
  ∃I∈waitsOf o,(cs[I]? =ae .mk\/cs[I]? =ae .out)/\∃J,all[I]? =ae J/\J.dst=ae x
theorem OpL.app{all:List Oper} {t:TypeId} {Tm:Fr Y} {h:Hp Y} {i:Nat} {cs:List (MK Y)} {k:Nat} {o:Oper} {c c':MK Y} (I:OpL E all t Tm h i cs k o c):OpL E all t Tm h i (cs++ [c']) k o c:=by
 have up:∀{k:Nat} {x:MK Y},cs[k]? =ae x->(cs++ [c'])[k]? =ae x:=λh=>by
  rw[bJ (ai.1 h).1];exact h
 cases c with
 |mk=>exact I
 |val rd v=>exact I
 |ins key v=>
  obtain⟨h1,m,d,h2,⟨k1,J,R,U⟩,k2,b1,rd,b2,b3⟩:=I;exact⟨h1,m,d,h2,⟨k1,J,up R,U⟩,k2,b1,rd,up b2,b3⟩
 |out=>
  obtain⟨x,d,h1,h2,k1,J,R,U⟩:=I;exact⟨x,d,h1,h2,k1,J,R.imp up up,U⟩
def LP(E:Eng Y) (all:List Oper) (t:TypeId) (I:Fr Y) (h:Hp Y) (i:Nat) (cs:List (MK Y)):Prop:=∀(k:Nat) o c,all[k]? =ae o->cs[k]? =ae c->OpL E all t I h i cs k o c
theorem LP.app{all:List Oper} {t:TypeId} {J:Fr Y} {h:Hp Y} {i:Nat} {cs:List (MK Y)} {o:Oper} {c:MK Y} (hp:LP E all t J h i cs) (ho:all[cs.length]? =ae o) (hc:OpL E all t J h i cs cs.length o c):LP E all t J h i (cs++ [c]):=by
 intro k o' c' R I;by_cases e:k<cs.length
 ·rw[bJ e] at I
  exact(hp k o' c' R I).app
 ·have U:k=cs.length:=by
   have:=(ai.1 I).1;simp at this;omega
  subst U;rw[ho] at R;cases R;rw[List.getElem?_append_right (av _),eB] at I;cases I;exact hc.app
theorem Zu6{o:Oper} {T:Fr Y} {h:Hp Y} {i:Nat} {r:Res Y} {rd:List Nat} (R:r.n=0) (J:r.mods= []) (U:r.rd=ae rd) (ht:OpTri E o T h i r):OpTri E o T h i (quiet rd r.v):=by
 obtain⟨v,n,a2,rh,a3⟩:=r;simp only at R J U;subst R;subst J;subst U;refine⟨λb hb=>by simp[quiet] at hb,λB σ g w ρ hh a1 hI hB a0 hx=> ?_⟩;refine(ht.2 B σ g w ρ hh a1 hI hB a0 hx).mono ?_;rintro u w' ⟨σ',g',h1,I,h3⟩;refine⟨σ',g',h1,?_,h3⟩;rw[Y4];have:patch hh i ⟨v,0,[],rh,ae rd⟩=hh:=by
  funext b;rw[Zp,jJ];rintro(e|e)
  ·simp at e
  ·simp at e;omega
 rw[this] at I;exact I
theorem Z8n{call:Nat->List (SV Y)->Hp Y->Nat->(Res Y->Prop)->Prop} (a1:∀(o:Oper) T h i k,DomLt h i->step E call o.op T h i k->∃r,k r/\OpTri2 E o T h i r) {J:Fr Y} {h:Hp Y} {i:Nat} (U:DomLt h i) {o:Oper} {k:MK Y->Prop} (I:Zk7 E call J h i o k):
 ∃rd v,k (.val rd v)/\i∉rd/\(∃d,o.dst=ae d)/\OpTri E o J h i (quiet rd v):=by
 unfold Zk7 at I
 split at I
 ·rename_i d hd
  obtain⟨r,I,ht⟩:=a1 o J h i _ U I
  split at I
  ·rename_i rd hn hm hr
   split at I
   ·rename_i R
    split at I
    ·rename_i a0
     rw[Zej] at I
     refine⟨rd,r.v,I,λe=> ?_,⟨d,hd⟩,Zu6 hn hm hr (ht.tri a0)⟩
     rw[memB_iff.2 e] at R;cases R
    ·exact I.elim
   ·exact I.elim
  ·exact I.elim
 ·exact I.elim
theorem Ydk{x:Option (MK Y)} (h:Yfj x=ac):x=ae .mk:=by
 unfold Yfj at h;split at h
 ·rfl
 ·cases h
theorem Zr0{x:Option (MK Y)} (h:Zvl x=ac):x=ae .mk\/x=ae .out:=by
 unfold Zvl at h;split at h
 ·exact .inl rfl
 ·exact .inr rfl
 ·cases h
theorem Zyi{call:Nat->List (SV Y)->Hp Y->Nat->(Res Y->Prop)->Prop} (a4:∀(o:Oper) T h i k,DomLt h i->step E call o.op T h i k->∃r,k r/\OpTri2 E o T h i r) {all:List Oper} {t:TypeId} {J:Fr Y} {h:Hp Y} {i:Nat} (hD:DomLt h i):
 ∀{r:List Oper} {pre:List Oper} {cs:List (MK Y)} {k:List (MK Y)->Prop},all=pre++r->pre.length=cs.length->LP E all t J h i cs->Zgu E call all t J h i r cs k->∃l,k (cs++l)/\all.length=(cs++l).length/\LP E all t J h i (cs++l)
 | [],pre,cs,k,ha,hl,hp,I=>⟨[],by simpa[Zgu] using I,by simp[ha,hl],by simpa using hp⟩
 |o::r,pre,cs,k,ha,hl,hp,I=>by
  have ho:all[cs.length]? =ae o:=by rw[ha,<-hl];simp
  have next:∀{c:MK Y},OpL E all t J h i cs cs.length o c->Zgu E call all t J h i r (cs++ [c]) k->∃l,k (cs++l)/\all.length=(cs++l).length/\LP E all t J h i (cs++l):=λ{c} hc I=>by
   obtain⟨l,h1,h2,h3⟩:=Zyi a4 hD (pre:=pre++ [o]) (by simp[ha]) (by simp[hl]) (hp.app ho hc) I
   exact⟨c::l,by simpa using h1,by simpa using h2,by simpa using h3⟩
  have a2:Zk7 E call J h i o (λc=>Zgu E call all t J h i r (cs++ [c]) k)->∃l,k (cs++l)/\all.length=(cs++l).length/\LP E all t J h i (cs++l):=λI=>by
   obtain⟨rd,v,h1,h2,h3,h4⟩:=Z8n a4 hD I
   exact next (c:= .val rd v) ⟨h2,h3,h4⟩ h1
  simp only[Zgu] at I
  split at I
  ·rename_i t' m key d a1 a0
   split at I
   ·rename_i rd v hb hv
    rw[aq] at hb
    obtain rfl:=ax hb.1
    obtain⟨k1,R,U,a3⟩:=Zam (Ydk hb.2)
    obtain⟨k2,b1,b2,b3⟩:=Zam hv
    exact next (c:= .ins key v) ⟨a0,m,d,a1,⟨k1,R,U,a3⟩,k2,b1,rd,b2,b3⟩ I
   ·exact I.elim
  ·rename_i x d a1 a0
   split at I
   ·rename_i hm
    rcases Zr0 hm with e|e
    ·obtain⟨k1,R,U,a3⟩:=Zam e
     exact next (c:= .out) ⟨x,d,.inl a1,a0,k1,R,.inl U,a3⟩ I
    ·obtain⟨k1,R,U,a3⟩:=Zam e
     exact next (c:= .out) ⟨x,d,.inl a1,a0,k1,R,.inr U,a3⟩ I
   ·exact a2 I
  ·rename_i x d a1 a0
   split at I
   ·rename_i hm
    rcases Zr0 hm with e|e
    ·obtain⟨k1,R,U,a3⟩:=Zam e
     exact next (c:= .out) ⟨x,d,.inr a1,a0,k1,R,.inl U,a3⟩ I
    ·obtain⟨k1,R,U,a3⟩:=Zam e
     exact next (c:= .out) ⟨x,d,.inr a1,a0,k1,R,.inr U,a3⟩ I
   ·exact a2 I
  ·exact a2 I
theorem Zyj:∀{os:List Oper} {k:Nat},Z81 os k=ac->∀(j:Nat) o,os[j]? =ae o->(∀x∈waitsOf o,x<k+j)/\o.guard=au
 | [],k,_,j,o,h=>by simp at h
 |a::r,k,I,j,o,h=>by
  simp only[Z81,aq] at I
  cases j with
  |zero=>
   simp at h;subst h
   refine⟨λx J=> ?_,Option.isNone_iff_eq_none.1 I.1.2⟩
   exact Zg7 I.1.1 x J
  |succ j=>
   obtain⟨R,U⟩:=Zyj I.2 j o (by simpa using h)
   exact⟨λx J=>by have:=R x J;omega,U⟩
theorem Zkk{N:Nat}:∀{os:List Oper} {seen:List Nat},Zo7 N os seen=ac->(∀(j:Nat) o d,os[j]? =ae o->o.dst=ae d->d<N/\d∉seen)/\∀(k R:Nat) o o' d,os[k]? =ae o->os[R]? =ae o'->o.dst=ae d->o'.dst=ae d->k=R
 | [],seen,_=>⟨λj o d h=>by simp at h,λk R o o' d h=>by simp at h⟩
 |a::r,seen,h=>by
  unfold Zo7 at h
  split at h
  ·rename_i d hd
   simp only[aq,bj] at h
   obtain⟨a0,a1⟩:=Zkk h.2
   have a2:d∉seen:=λe=>by rw[memB_iff.2 e] at h;cases h.1.2
   refine⟨λj o d' I J=> ?_,λk R o o' d' I J U h4=> ?_⟩
   ·cases j with
    |zero=>simp at I;subst I;rw[hd] at J;cases J;exact⟨Yq h.1.1,a2⟩
    |succ j=>
     obtain⟨q1,q2⟩:=a0 j o d' (by simpa using I) J
     exact⟨q1,λe=>q2 (by simp[e])⟩
   ·cases k with
    |zero=>
     simp at I;subst I;rw[hd] at U;cases U
     cases R with
     |zero=>rfl
     |succ R=>exact ka (by simp) (a0 R o' d (by simpa using J) h4).2
    |succ k=>
     cases R with
     |zero=>simp at J;subst J;rw[hd] at h4;cases h4;exact ka (by simp) (a0 k o d (by simpa using I) U).2
     |succ R=>rw[a1 k R o o' d' (by simpa using I) (by simpa using J) U h4]
  ·rename_i hd
   obtain⟨a0,a1⟩:=Zkk h
   refine⟨λj o d' I J=> ?_,λk R o o' d' I J U h4=> ?_⟩
   ·cases j with
    |zero=>simp at I;subst I;rw[hd] at J;cases J
    |succ j=>exact a0 j o d' (by simpa using I) J
   ·cases k with
    |zero=>simp at I;subst I;rw[hd] at U;cases U
    |succ k=>
     cases R with
     |zero=>simp at J;subst J;rw[hd] at h4;cases h4
     |succ R=>rw[a1 k R o o' d' (by simpa using I) (by simpa using J) U h4]
theorem memI_iff{n:Int}:∀{l:List Int},memI n l=ac↔n∈l
 | []=>by simp[memI]
 |x::r=>by
  unfold memI
  by_cases e:n=x
  ·subst e;simp
  ·rw[jI e];simp only;rw[memI_iff];simp[e]
theorem Zf9{kd:IntKind} {i:Nat}:∀{cs:List (MK Y)} {seen:List Int},Zdc kd i cs seen=ac->(∀(k:Nat) key v,cs[k]? =ae (MK.ins key v)->∃n,key= .int kd n/\n∉seen/\nid i v=ac)/\∀(k k':Nat) key v J,cs[k]? =ae (MK.ins key v)->cs[k']? =ae (MK.ins key J)->k=k'
 | [],seen,_=>⟨λk key v h=>by simp at h,λk k' key v J h=>by simp at h⟩
 |c::r,seen,h=>by
  have skip:(∀key v,c≠ .ins key v)->Zdc kd i r seen=ac->(∀(k:Nat) key v,(c::r)[k]? =ae (MK.ins key v)->∃n,key= .int kd n/\n∉seen/\nid i v=ac)/\∀(k k':Nat) key v J,(c::r)[k]? =ae (MK.ins key v)->(c::r)[k']? =ae (MK.ins key J)->k=k':=λa0 hr=>by
   obtain⟨U,a1⟩:=Zf9 hr
   refine⟨λk key v I=> ?_,λk k' key v J I R=> ?_⟩
   ·cases k with
    |zero=>simp at I;exact ka I (a0 _ _)
    |succ k=>exact U k key v (by simpa using I)
   ·cases k with
    |zero=>simp at I;exact ka I (a0 _ _)
    |succ k=>
     cases k' with
     |zero=>simp at R;exact ka R (a0 _ _)
     |succ k'=>rw[a1 k k' key v J (by simpa using I) (by simpa using R)]
  cases c with
  |mk=>exact skip (λ_ _ e=>by cases e) h
  |val _ _=>exact skip (λ_ _ e=>by cases e) h
  |out=>exact skip (λ_ _ e=>by cases e) h
  |ins a5 v0=>
   cases a5 with
   |int a6 n0=>
    simp only[Zdc,aq,fO,bj] at h
    obtain⟨⟨⟨rfl,a2⟩,a4⟩,hr⟩:=h
    have a3:n0∉seen:=λe=>by rw[memI_iff.2 e] at a2;cases a2
    obtain⟨U,a1⟩:=Zf9 hr
    refine⟨λk key v I=> ?_,λk k' key v J I R=> ?_⟩
    ·cases k with
     |zero=>simp at I;obtain⟨rfl,rfl⟩:=I;exact⟨n0,rfl,a3,a4⟩
     |succ k=>
      obtain⟨n,q1,q2,q3⟩:=U k key v (by simpa using I)
      exact⟨n,q1,λe=>q2 (by simp[e]),q3⟩
    ·cases k with
     |zero=>
      cases k' with
      |zero=>rfl
      |succ k'=>
       simp at I;obtain⟨rfl,rfl⟩:=I
       obtain⟨n,q1,q2,q3⟩:=U k' _ J (by simpa using R)
       cases q1;exact ka (by simp) q2
     |succ k=>
      cases k' with
      |zero=>
       simp at R;obtain⟨rfl,rfl⟩:=R
       obtain⟨n,q1,q2,q3⟩:=U k _ v (by simpa using I)
       cases q1;exact ka (by simp) q2
      |succ k'=>rw[a1 k k' key v J (by simpa using I) (by simpa using R)]
   |_=>simp[Zdc] at h
theorem Z1n{ops:List Oper} {t:TypeId} {kd:IntKind} (h:Zmi E ops=ae (t,kd)):∃o r d,ops=o::r/\o.op= .makeMap t au/\o.dst=ae d/\∃I J a b c,E.ty t=ae ⟨.map I J,a,b,c⟩/\keyKind E I=ae true:=by
 unfold Zmi at h;split at h
 ·rename_i o r
  split at h
  ·rename_i t' d U hd
   split at h
   ·rename_i I J a b c a0
    split at h
    ·rename_i a1 _ _ _ R
     cases h;exact⟨o,r,d,rfl,U,hd,I,J,a,b,c,a0,by unfold keyKind;rw[R]⟩
    ·cases h
   ·cases h
  ·cases h
 ·cases h
theorem Ydl(hE:EngOk E) {call:Nat->List (SV Y)->Hp Y->Nat->(Res Y->Prop)->Prop} (b5:∀(o:Oper) T h i k,DomLt h i->step E call o.op T h i k->∃r,k r/\OpTri2 E o T h i r) {N:Nat} {ops:List Oper} {t:TypeId} {kd:IntKind} {T:Fr Y} {h:Hp Y} {i:Nat} {ms:List Nat} {K:Fr Y->Hp Y->Nat->List Nat->Prop} (hD:DomLt h i)
 (hh:Zmi E ops=ae (t,kd)) (I:Yfk E call N ops t kd T h i ms K) (id:Nat):
 ∃T' h' i' ms',K T' h' i' ms'/\i<=i'/\Dom h i h' i'/\(∃m,ms'=m++ms/\Xg h i i' m)/\CodeTri E N (.region id ops.toArray ac) T h i .normal T' h' i' ms':=by
 obtain⟨o0,r0,d0,rfl,b4,a5,b6⟩:=Z1n hh
 unfold Yfk at I
 split at I
 ·rename_i ol U b3
  rw[aq] at U
  have a3:=Zyj U.1
  obtain⟨a7,a8⟩:=Zkk U.2
  obtain⟨l,I,a2,a0⟩:=Zyi b5 hD (pre:= [o0]) (cs:= [.mk]) rfl rfl (λk o c h1 h2=>by
   cases k with
   |zero=>simp at h1 h2;subst h1;subst h2;exact⟨rfl,b4,d0,a5⟩
   |succ k=>simp at h2) I
  generalize a4:([MK.mk]:List (MK Y))++l=cs at*
  split at I
  ·rename_i dl b0 b2 a6
   rw[Xx] at I
   obtain⟨a1,b1⟩:=Zf9 b0
   have hL:LOk E (o0::r0) cs t kd (Vh (Yd (o0::r0)) T) h i:={
    len:=a2
    wt:=λk o J x hx=>by have:=(a3 k o J).1 x hx;omega
    gd:=λk o J=>(a3 k o J).2
    dst1:=a8
    key:=λk key v I=>let⟨n,e,_⟩:=a1 k key v I;⟨n,e⟩
    key1:=b1
    nidv:=λk key v I=>let⟨_,_,_,e⟩:=a1 k key v I;e
    ty:=b6
    mkk:=λk o J hc=>a0 k o _ J hc
    val:=λk o rd v J hc=>a0 k o _ J hc
    ins:=λk o key v J hc=>a0 k o _ J hc
    out:=λk o J hc=>a0 k o _ J hc
    mk0:=by rw[<-a4];rfl}
   refine⟨_,h,i+1,ms,I,Nat.le_succ i,⟨λb U=>by have:=hD b U;omega,λb U=> .inl U⟩,⟨[],rfl,λb U=>by simp at U⟩,?_⟩
   intro B σ g w a Q hI hB a9 hF hN hQ
   refine Z1m hE hL hD (Zoo b3) (by have e:=Zoo b2;rw[<-a2] at e;exact e) a6 (λk o d J hd=>(a7 k o d J hd).1) id ms B σ g w a Q hI hB (a9 i (av _) (Nat.lt_succ_self _)) hF hN ?_
   rintro a' w' ⟨h1,h2,σ',g',R,h4,h5⟩
   refine hQ a' w' ⟨h1,h2,σ',g',?_,h4,h5⟩
   exact⟨R.sig,λb p U=>(R.snew b p U).imp (λx=>x) (λx=>by omega),R.gle,R.gcnew,R.gmnew,R.heap,R.size,R.os,R.tape,R.output,R.blk⟩
  ·exact I.elim
 ·exact I.elim
end
end
section
open Go
section
variable {Y:Thy} {E:Eng Y} {o:Oper} {T:Fr Y} {h:Hp Y} {i:Nat} {k:Res Y->Prop}
theorem Zvc{β:Type} {vv:β->SV Y} {a:List Nat} {s:ByteArray} (hs:toL s=a):∀{l:List (List Nat×β)},(∀p∈l,Byt p.1)->∀(ents:List MapEntry) (i0:Nat),EntsK (Zi vv l) ents->
 (bW .string (.string s) ents i0=ae au/\delS l a=l)\/(∃(j:Nat) (e:MapEntry),ents[j]? =ae e/\bW .string (.string s) ents i0=ae (ae (i0+j,e.val))/\Zi vv (delS l a)=(Zi vv l).eraseIdx j)
 | [],_,ents,i0,I=>by
  have:ents= []:=cH (by simpa[Zi] using I.1)
  subst this
  exact .inl ⟨rfl,rfl⟩
 |(q,b)::l,hb,ents,i0,I=>by
  have I:EntsK ((.string (mkS q),vv b)::Zi vv l) ents:=I
  obtain⟨e,ents',rfl,h4,h5⟩:=I.tail
  have hq:toL (mkS q)=q:=hb _ (bH ..)
  have J:cg .string (.string s) e.key=ae (s==mkS q):=by rw[h4];simp[cg]
  have a1:(s==mkS q)=decide (q=a):=by
   rw[<-Zj8,hs,hq]
   by_cases e:q=a
   ·subst e;simp
   ·rw[jI e];simpa usingλx=>e x.symm
  rw[a1] at J
  by_cases R:q=a
  ·rw[jq R] at J
   refine .inr ⟨0,e,rfl,?_,?_⟩
   ·unfold bW;rw[J];rfl
   ·unfold delS;rw[jM R];rfl
  ·rw[jI R] at J
   have a0:bW .string (.string s) (e::ents') i0=bW .string (.string s) ents' (i0+1):=by
    conv=>lhs;unfold bW
    rw[J]
   have hd:delS ((q,b)::l) a=(q,b)::delS l a:=by
    conv=>lhs;unfold delS
    rw[jJ R]
   rcases Zvc hs (λp hp=>hb p (aI _ hp)) ents' (i0+1) h5 with⟨U,h2⟩|⟨j,e',U,h2,h3⟩
   ·exact .inl ⟨by rw[a0];exact U,by rw[hd,h2]⟩
   ·refine .inr ⟨j+1,e',U,by rw[a0,h2];congr 3;omega,?_⟩
    rw[hd]
    show _::Zi vv (delS l a)=_::(Zi vv l).eraseIdx j
    rw[h3]
theorem Yfb(hE:EngOk E) {c:Call} (hc:c.callee= .builtin .delete) (ho:o.op= .call c) {t:TypeId} {ts:List TypeId} {m x:Operand} (ha:c.args.toList= [m,x]) (b4:c.argTypes.toList=t::ts) (I:sdel E t (ev T m) (ev T x) h k):∃r,k r/\OpTri E o T h i r:=by
 have mm:m∈o.op.operands.toList:=by
  have:m∈c.args.toList:=by rw[ha];simp
  simp[ho,aQ,dz,hc];simpa using this
 have mx:x∈o.op.operands.toList:=by
  have:x∈c.args.toList:=by rw[ha];simp
  simp[ho,aQ,dz,hc];simpa using this
 have b3:c.args= #[m,x]:=by rw[<-fE (xs:=c.args),ha]
 have a9:c.argTypes[0]? =ae t:=by rw[<-ez,b4];rfl
 unfold sdel at I;split at I
 ·rename_i th b _ a _ hm hx
  split at I
  ·rename_i kt et _ _ _ es ht hb
   split at I
   ·rename_i ti b8 c2
    obtain⟨L,rfl,b6,I⟩:=I;obtain⟨d,a4,hd⟩:=Zb0 hE b8;refine⟨_,I,λb' a0=>by(simp[change] at a0;subst a0;rw[hb];simp),?_⟩;intro B σ g w ρ hh b9 hI hB c3 b1;have a0:hh b=ae (.map (Zi (Zl E th (Zh ti.d)) L)):=(b9 b (by simp[Rd,change])).trans hb;have R:=b1 m mm;rw[hm] at R;generalize c0:ρ m=vm at R;cases R;rename_i r z a6;have U:=b1 x mx;rw[hx] at U;generalize c1:ρ x=vx at U;cases U;rename_i s hs;obtain⟨r2,z2,b2,b5⟩:=hI.blk _ _ a0;rw[a6] at b2;cases b2;obtain⟨ents,J,a1,a8,a3⟩:=b5;obtain rfl:d= .string:=hd
    have b7:EntsK (Zi (Zl E th (Zh ti.d)) L) ents.toList:=⟨by simpa using a8,λj kv sv hj=>by
     obtain⟨v,bo,h4,_⟩:=a3 j kv sv hj
     exact⟨_,by simpa using h4,rfl⟩⟩
    have run:∀(ents':Array MapEntry),(ip c.argTypes o.type #[.map (ae r),.string s]).run E.P w= .ok (.tuple #[]) (setB w r (.map ents' J))->(execOp ρ o).run E.P w= .ok (.value (.tuple #[])) (setB w r (.map ents' J)):=by
     intro ents' hr;unfold execOp;simp only[ho,resolve,hc,aF,aJ,aA,invoke,builtin,b3];rw[show(#[m,x].map ρ)= #[.map (ae r),.string s] by simp[c0,c1],hr];rfl
    have b0:=(hE.ty _ _ ht).1;have a7:Den E σ g (.tup []) (.tuple #[]):= .tup (λj=>undef) rfl (λj hj=>by simp at hj) (λj sv hj=>by simp at hj);rcases Zvc hs b6 ents.toList 0 b7 with⟨hf,a2⟩|⟨j,e,hj,hf,a2⟩
    ·obtain⟨R,U⟩:=Zcm (i:=i) hI a0 a6 a1 (ents':=ents) (c':=J) (es':=Zi (Zl E th (Zh ti.d)) (delS L a)) (by rw[a2];exact a8) (by rw[a2];exact a3)
     refine Yp (run ents ?_) ⟨σ,g,U,by rw[Yc];exact R,a7⟩;unfold ip;simp only[a9,bU,dw,dI,aF,run_underlying b0,aA,Wn w r ents J a1,Y0 (ki:=false) rfl _ 9999 kt _ w a4,Xn w a4 hf,Vu w r ents J _ a1,aJ]
    ·have hj':j<ents.size:=by have:=(ai.1 hj).1;simpa using this
     have he:ents.eraseIdxIfInBounds j=ents.eraseIdx j hj':=by unfold Array.eraseIdxIfInBounds;rw[dif_pos hj']
     obtain⟨R,U⟩:=Zcm (i:=i) hI a0 a6 a1 (ents':=ents.eraseIdxIfInBounds j) (c':=J) (es':=Zi (Zl E th (Zh ti.d)) (delS L a)) (by
      rw[a2,he,Array.size_eraseIdx,List.length_eraseIdx,jM (by omega)];omega) (by
      intro q kv sv hq;rw[a2,List.getElem?_eraseIdx] at hq;rw[he,Array.getElem?_eraseIdx];split at hq
      ·rename_i a5;rw[jM a5];exact a3 q kv sv hq
      ·rename_i a5;rw[jJ a5];exact a3 (q+1) kv sv hq)
     refine Yp (run (ents.eraseIdxIfInBounds j) ?_) ⟨σ,g,U,by rw[Yc];exact R,a7⟩;unfold ip;simp only[a9,bU,dw,dI,aF,run_underlying b0,aA,Wn w r ents J a1,Y0 (ki:=false) rfl _ 9999 kt _ w a4,Xn w a4 hf,Nat.zero_add,Vu w r ents J _ a1,aJ]
   ·exact I.elim
  ·exact I.elim
 ·exact I.elim
theorem Z11{P:Program} (w:World) (t ty el e:TypeId) (r o n c:Nat) (I:Array Value) (z:Value) (R:P.underlying t=ae (.slice el)) (hz:(zeroValue el).run P w= .ok z w) (hg:w.heap[r]? =ae (.cells I e (0,0)))
 (a0:o+(cq z.cells n).toList.length<=I.size) (h1:∀v∈(cq z.cells n).toList,v.oneCell'=ac):
 (eD #[t] ty #[.slice (ae ⟨r,o,au⟩) n c]).run P w= .ok (.tuple #[]) (w.setRow r (I.toList.take o++(cq z.cells n).toList++I.toList.drop (o+(cq z.cells n).toList.length)).toArray):=by
 have J:=run_storeCells_at P r o e (cq z.cells n).toList 0 I w hg (by simpa using a0) h1
 cases n with
 |zero=>
  have U:(cq z.cells 0).toList= []:=by simp[cq]
  rw[U] at J⊢
  simp[storeCells] at J
  simp[eD,run_underlying R]
  exact J
 |succ n=>
  simp at J
  simp[eD,run_underlying R,hz,J]
theorem Z12(R:EngOk E) {c:Call} (hc:c.callee= .builtin .clear) (ho:o.op= .call c) {t:TypeId} {ts:List TypeId} {x:Operand} (ha:c.args.toList= [x]) (b5:c.argTypes.toList=t::ts) (J:Z2c E t (ev T x) h k):∃r,k r/\OpTri E o T h i r:=by
 have mx:x∈o.op.operands.toList:=by
  have:x∈c.args.toList:=by rw[ha];simp
  simp[ho,aQ,dz,hc];simpa using this
 have b3:c.args= #[x]:=by rw[<-fE (xs:=c.args),ha]
 have c6:c.argTypes[0]? =ae t:=by rw[<-ez,b5];rfl
 unfold Z2c at J;split at J
 ·rename_i el _ _ _ b off len w0 cap ht hX
  obtain⟨c7,_⟩:=R.ty _ _ ht;have run:∀(w w':World) (ρ:Operand->Value) (u:Value),(eD #[t] o.type #[ρ x]).run E.P w= .ok u w'->(execOp ρ o).run E.P w= .ok (.value u) w':=by
   intro w w' ρ u hl;have e:eD c.argTypes o.type #[ρ x]=eD #[t] o.type #[ρ x]:=by
    unfold eD;rw[c6];rfl
   unfold execOp;simp only[ho,resolve,hc,aF,aJ,aA,invoke,builtin,b3];rw[show(#[x].map ρ)= #[ρ x] by simp,e,hl];rfl
  split at J
  ·rename_i I th l fz b7 hb
   split at J
   ·rename_i hw
    simp only[aq] at hw;obtain rfl:=ax hw.1;have a8:=ax hw.2.1;have c0:=hw.2.2;obtain⟨⟨b9,a6⟩,J⟩:=Zu J;refine⟨_,J,λb' U=>by(simp[change] at U;subst U;rw[hb];simp),?_⟩;intro B σ g w ρ hh c3 hI hB c8 hx;have c4:∀b'∈ [b],hh b'=h b':=c3;have U:=(c4 b (by simp)).trans hb;have hd:=hx x mx;rw[hX] at hd;obtain⟨r,z,c1,e1,b0,hz,c9,d4,_⟩:=Vc hd;obtain⟨r',z',b1,b6⟩:=hI.blk b _ U;rw[b0] at b1;cases b1;obtain⟨arr,e,a1,b4,a3,a2,b8⟩:=(BlkOk.cells_iff (by intro es e;cases e)).1 b6;simp only[cE] at a3 a2;rw[Zv R] at a3
    have a9:I.zero.cells.size=E.w th:=by rw[<-(Yi (E:=E) I.zero).1];exact a8
    have a0:(cq I.zero.cells len).toList.length=len*E.w th:=by rw[eY,size_zeroCells,a9]
    have a4:off*E.w th+len*E.w th<=arr.size:=by
     have h1:=bb (E.w th) (show off+len<=off+c1 by omega);rw[cp] at h1;omega
    have c2:∀u∈(cq I.zero.cells len).toList,u.oneCell'=true:=by
     intro u hu;unfold cq at hu;rw[Array.toList_map,fw] at hu;obtain⟨j,hj,rfl⟩:=hu;have a5:j%I.zero.cells.size<(Yn I.zero:SV Y).cells.length:=by rw[a8,a9];exact Nat.mod_lt _ (R.pos th)
     obtain⟨u,h1,h2⟩:=(Yi (E:=E) I.zero).2 σ g _ _ (ao a5);rw[getElem!_def,h1];exact Uo (Vx c0 (ao a5)) h2
    have c5:=Z11 (P:=E.P) w t o.type el e r (off*E.w th) len c1 arr I.zero c7 (V3 R b7 w) a1 (by rw[a0];exact a4) c2;have a7:=Yw arr.toList (cq I.zero.cells len).toList (off*E.w th) (by rw[a0,eY];exact a4);have d5:=bb (E.w th) a6
    obtain⟨b2,hS⟩:=Zdg (i:=i) hI (blk':= .rows th (l.take off) fz) U b0 (arr':=(arr.toList.take (off*E.w th)++(cq I.zero.cells len).toList++arr.toList.drop (off*E.w th+(cq I.zero.cells len).toList.length)).toArray) a1 (by
     simp only[List.size_toArray,List.length_append,bi,List.length_drop,a0,eY];omega) b4 b8 (by intro es e;cases e) rfl
     (λm hm=>by
      simp only[gT] at hm;have:=bb (E.w th) b9
      rw[bU,a7,jM (by omega)];simp) (by simp only[cE];rw[Zv R,bi,Nat.min_eq_left a6];omega)
     (λm sv hm=>by
      simp only[cE] at hm;obtain⟨q,p,y',rfl,hp,hq,hs⟩:=Y3 R th _ hm;rw[bO] at hq;split at hq
      ·rename_i q1
       have:(q+1)*E.w th<=off*E.w th:=bb _ q1;rw[cp] at this;rw[bU,a7,jM (by omega)];obtain⟨v,hv,hd⟩:=a2 (q*E.w th+p) sv (by rw[Y7 R th l q y' hq p hp];exact hs);exact⟨v,by simpa using hv,hd⟩
      ·cases hq)
    refine Yp (run w _ ρ _ (by rw[e1];exact c5)) ⟨σ,g,hS,by rw[Yc];exact b2,?_⟩;exact .tup (λ_=> .nilFunc) rfl (λj hj=>ka hj (Nat.not_lt_zero j)) (λj sv hj=>by simp at hj)
   ·exact J.elim
  ·exact J.elim
 ·exact J.elim
end
end
section
open Go.RowKit
section
variable {Y:Thy} {E:Eng Y} {F:Fns Y}
theorem Yaw(R:EngOk E) {call:Nat->List (SV Y)->Hp Y->Nat->(Res Y->Prop)->Prop} (o:Oper) (T:Fr Y) (h:Hp Y) (i:Nat) (k:Res Y->Prop) (hD:DomLt h i) (I:step E call o.op T h i k) (a1:∀c,o.op= .call c->(∀f,c.callee≠ .value f)/\c.callee≠ .builtin .panic) (a2:∀x,o.op≠ .panic x):
 ∃r,k r/\OpTri E o T h i r:=by
 cases J:o.op
 case move x=>rw[J] at I;exact Zlf (.inl J) I
 case assign x=>rw[J] at I;exact Zlf (.inr J) I
 case pick c a b=>exact Zzf J I
 case alloc t=>
  rw[J] at I
  simp only[step] at I
  split at I
  ·exact Z2o R J ‹_› I
  ·exact Z96 R J I
 case box t x=>
  rw[J] at I
  have I:(match E.arrOf t with|some th=>Zvh E t th (ev T x) i k|none=>Zh1 (ev T x) i k):=I
  split at I
  ·exact Yfm R J ‹_› I
  ·exact Ylh J I
 case build t p=>rw[J] at I;exact Z4c R J I
 case buildSlice t n p=>
  rw[J] at I
  have hs:W8 E t n p T i k:=I
  clear I
  unfold W8 at hs
  split at hs
  ·exact Zh9 R J hs
  ·rename_i h2
   simp only[aq] at h2
   obtain rfl:n=0:=ax h2.1.2
   exact Zyy R J h2.2 hs
  ·exact Zkv R J hs
 case load t x=>rw[J] at I;exact Z2p R J I
 case store t x v=>rw[J] at I;exact Zyz R J I
 case nilCheck x=>exact Zsu J I
 case binOp op t x y t'=>
  rw[J] at I
  simp only[step,Yfh] at I
  split at I
  ·rename_i p q U hp hq
   exact Yag R J hp hq U I
  ·split at I
   ·exact Yah R J rfl I
   ·exact Zwq R J I
  ·exact Zwq R J I
 case unOp op t x=>rw[J] at I;exact Ym0 J I
 case makeInterface t x=>rw[J] at I;exact Yaj R J I
 case typeAssert x t' t ok=>rw[J] at I;exact Z39 R J I
 case convert s d x=>
  rw[J] at I
  simp only[step,Zd8,Us,Zh1,Zo0,Zd9,Zo2,Zmb,Zmc,stMm,Zo3,Zga,Zmd,Za5,Za6,W8,Zgb,Za7] at I
  split at I
  ·rename_i ti hs
   split at I
   ·rename_i ht hX
    exact Z7d R (R.ty _ _ hs).1 J ht hX I
   ·rename_i ht hX
    split at I
    ·exact Zlg R J ‹_› ht hX I
    ·exact I.elim
   ·rename_i ht hX
    split at I
    ·exact Zlg R J ‹_› ht hX I
    ·exact I.elim
   ·exact Zt3 R (by rw[(R.ty _ _ hs).1];rfl) J I
  ·exact I.elim
 case makeFunc f a b=>exact Zsv J I
 case fieldAddr s x f=>rw[J] at I;exact Zok R J I
 case field s x f=>rw[J] at I;exact Z7f R J I
 case indexAddr t x ix=>rw[J] at I;exact Zkq R J I
 case index t x ix=>rw[J] at I;exact Zyx R J I
 case makeSlice t x y=>rw[J] at I;exact Ycg R J I
 case makeMap t rs=>
  rw[J] at I
  cases rs with
  |none=>
   simp only[step,Zd8,Us,Zh1,Zo0,Zd9,Zo2,Zmb,Zmc,stMm,Zo3,Zga,Zmd,Za5,Za6,W8,Zgb,Za7] at I
   split at I
   ·exact Zlx R J I
   ·exact I.elim
  |some q=>exact I.elim
 case insert t m x v=>rw[J] at I;exact Zuj R (.inr J) I
 case mapUpdate t m x v=>rw[J] at I;exact Ycz R (.inl J) I
 case lookup t m x ok=>rw[J] at I;exact Zul R J I
 case slice t x lo hi mx=>rw[J] at I;exact Z1w R J I
 case extract x n=>exact Zy8 J I
 case call c=>
  rw[J] at I
  simp only[step,Zd8,Us,Zh1,Zo0,Zd9,Zo2,Zmb,Zmc,stMm,Zo3,Zga,Zmd,Za5,Za6,W8,Zgb,Za7] at I
  split at I
  ·rename_i U
   split at I
   ·rename_i t x ht hx
    exact Ygf R U J ht hx I
   ·exact I.elim
  ·rename_i U
   split at I
   ·rename_i x r hr
    exact Zld ab U J hr I
   ·exact I.elim
  ·rename_i U
   split at I
   ·rename_i x r hr
    exact Zld ac U J hr I
   ·exact I.elim
  ·rename_i U
   split at I
   ·rename_i x y t t' ha a0
    split at I
    ·rename_i hb
     exact Zy5 R U J ha (by rw[a0,ax hb]) I
    ·exact I.elim
   ·exact I.elim
  ·rename_i U
   split at I
   ·rename_i x y t ts ha a0
    exact Yci R U J ha a0 I
   ·exact I.elim
  ·rename_i U
   exact ka U (a1 c J).2
  ·rename_i U
   unfold Ykx at I
   split at I
   ·rename_i m x t ts ha a0
    exact Yfb R U J ha a0 I
   ·exact I.elim
  ·rename_i U
   unfold Yky at I
   split at I
   ·rename_i x t ts ha a0
    exact Z12 R U J ha a0 I
   ·exact I.elim
  ·rename_i f U
   exact ka U ((a1 c J).1 f)
  ·exact I.elim
 case panic x=>exact ka J (a2 x)
 all_goals(rw[J] at I;exact I.elim)
theorem Z40{σ:Pl} {g:GH} {x:SV Y} {u v:Value} (h:ex0 x=ae u) (hd:Den E σ g x v):v=u:=by
 unfold ex0 at h;split at h
 ·cases h;cases hd;rfl
 ·cases h;cases hd;rfl
 ·cases h
  cases hd;rename_i b e;rw[<-e,Zdx]
 ·cases h
theorem Z41{σ:Pl} {g:GH}:∀{xs:List (SV Y)} {I vs:List Value},exL xs=ae I->DenL E σ g xs vs->vs=I
 | [],I,vs,h,hd=>by
  cases h
  exact cH hd.1.symm
 |x::r,I,vs,h,hd=>by
  unfold exL at h
  split at h
  ·rename_i u hu
   split at h
   ·rename_i l U
    cases h
    cases vs with
    |nil=>cases hd.1
    |cons v vs=>
     rw[Z40 hu (hd.2 0 x v rfl rfl),Z41 (vs:=vs) U ⟨by have:=hd.1;simpa using this,λj sv w J R=>hd.2 (j+1) sv w (by simpa using J) (by simpa using R)⟩]
   ·cases h
  ·cases h
theorem Yhw{σ:Pl} {g:GH} {x:SV Y} {u v:Value} (h:ex1 x=ae u) (hd:Den E σ g x v):v=u:=by
 unfold ex1 at h;split at h
 ·rename_i cs
  split at h
  ·rename_i l hl
   cases h;obtain⟨arr,c,rfl,hs,U,hd⟩:=Yk hd
   have:=Z41 (vs:=arr.toList) hl ⟨by simp[hs],λj sv w I J=>by
    have hj:j<cs.length:=(ai.1 I).1;have R:=U j hj;rw[show arr.toList[j]? =arr[j]? by simp,R] at J;cases J
    exact hd j sv I⟩
   rw[<-this]
  ·cases h
 ·exact Z40 h hd
theorem Zwp{o:Oper} {T:Fr Y} {h:Hp Y} {i:Nat} {k:Res Y->Prop} {x:Operand} (hx:x∈o.op.operands.toList) (a1:∀(ρ:Operand->Value) (w:World) (v:Value),(∃t u,ρ x= .iface t u)->(execOp ρ o).run E.P w= .halt (.panic (ρ x)) w) (I:Z8y (ev T x) k):∃r,k r/\OpTri2 E o T h i r:=by
 unfold Z8y at I;split at I
 ·rename_i t v hX
  split at I
  ·rename_i u hu
   refine⟨_,I,.inr ⟨λb hb=>by simp[quiet] at hb,_,rfl,λB σ g w ρ U hB a2 hd=> ?_⟩⟩;have J:=hd x hx;rw[hX] at J;generalize R:ρ x=rx at J;cases J;rename_i v' a0;have e:=Yhw hu a0;subst e;unfold PanPost;rw[a1 ρ w undef ⟨t,v',R⟩];refine⟨R,σ,g,.refl _ _ _ _,?_⟩;rw[Y4];exact U
  ·exact I.elim
 ·exact I.elim
theorem Zi5(hE:EngOk E) {call:Nat->List (SV Y)->Hp Y->Nat->(Res Y->Prop)->Prop} (b2:Vb E call) (b1:∀f args h i k,call f args h i k->FnGood E.P f) (o:Oper) (T:Fr Y) (h:Hp Y) (i:Nat) (k:Res Y->Prop) (hD:DomLt h i) (I:step E call o.op T h i k):
 ∃r,k r/\OpTri2 E o T h i r:=by
 by_cases a7:∃x,o.op= .panic x
 ·obtain⟨x,J⟩:=a7
  rw[J] at I
  refine Zwp (x:=x) (by simp[J,aQ]) (λρ w v ⟨t,u,hx⟩=> ?_) I
  unfold execOp
  simp only[J,hx,jj,goPanic]
  simp[go_sem]
 by_cases a3:∃c,o.op= .call c/\(c.callee= .builtin .panic\/∃f,c.callee= .value f)
 ·obtain⟨c,J,hc|⟨f,hc⟩⟩:=a3
  ·rw[J] at I
   simp only[step,Za5,hc] at I
   split at I
   ·rename_i x hx
    have c2:x∈o.op.operands.toList:=by simp[J,aQ,dz,hc,<-Array.mem_toList_iff,hx]
    have a2:c.args= #[x]:=by have:=kk List.toArray hx;simpa using this
    refine Zwp (x:=x) c2 (λρ w v ⟨t,u,a9⟩=> ?_) I
    unfold execOp
    simp only[J,resolve,hc,a2,a9,invoke,builtin,jj,goPanic]
    simp[go_sem,a9,jj,goPanic]
   ·exact I.elim
  ·rw[J] at I
   simp only[step,Zmd,Za5,hc] at I
   split at I
   ·rename_i a1 a b hf
    split at I
    ·rename_i xt b6
     rw[V4] at I
     obtain⟨r,h1,h2⟩:=Yhh hE hc J hf b6 I
     exact⟨r,h1,.inl h2⟩
    obtain⟨fn,b7,hb,b8⟩:=b1 _ _ _ _ _ I
    obtain⟨r,I,hR,a0⟩:=b2 _ _ _ _ _ hD I
    have a8:∀(ρ:Operand->Value) (w:World) (R U:Array Value),ρ f= .func (.func a1) R U->(execOp ρ o).run E.P w= .ok (.enter a1 (R++c.args.map ρ++U)) w:=by
     intro ρ w R U hv
     unfold execOp
     have b0:fn.body.isNone=false:=by cases hq:fn.body<;>rw[hq] at hb<;>first|rfl|cases hb
     simp only[J,resolve,hc,aF,aJ,aA,Deferred.ofValue,hv,invoke,callFunc,program,hZ,b7,b8,b0,aN,kM]
    have a6:∀(σ:Pl) (g:GH) (ρ:Operand->Value),(∀x∈o.op.operands.toList,Den E σ g (ev T x) (ρ x))->∃R U,ρ f= .func (.func a1) R U/\DenL E σ g (a++c.args.toList.map (ev T)++b) (R++c.args.map ρ++U).toList:=by
     intro σ g ρ hx
     have a5:=hx f (by simp[J,aQ,dz,hc])
     rw[hf] at a5
     generalize hv:ρ f=vf at a5
     cases a5
     rename_i R U ca cb c0 a2 b4 c1 b3 b5
     refine⟨R,U,rfl,?_⟩
     obtain⟨e1,e2,e3⟩:=Zij (E:=E) (σ:=σ) (g:=g) (T:=T) (ρ:=ρ) (xs:=c.args) (λx hm=>hx x (by simp[J,aQ,dz,hc] at hm⊢;exact .inr hm))
     have l1:DenL E σ g a R.toList:=⟨by simp[c0],λj sv v h1 h2=>by
      have:=a2 j (ai.1 h1).1
      rw[show R.toList[j]? =R[j]? by simp,this] at h2
      cases h2;exact b4 j sv h1⟩
     have l2:DenL E σ g (c.args.toList.map (ev T)) (c.args.map ρ).toList:=⟨by simp,λj sv v h1 h2=>by
      have:=e2 j (ai.1 h1).1
      rw[show(c.args.map ρ).toList[j]? =(c.args.map ρ)[j]? by simp,this] at h2
      cases h2;exact e3 j sv h1⟩
     have l3:DenL E σ g b U.toList:=⟨by simp[c1],λj sv v h1 h2=>by
      have:=b3 j (ai.1 h1).1
      rw[show U.toList[j]? =U[j]? by simp,this] at h2
      cases h2;exact b5 j sv h1⟩
     rw[hH,hH]
     exact(l1.append l2).append l3
    rcases a0 with a0|⟨p,hp,a0⟩
    ·refine⟨r,I,.inl ⟨hR,?_⟩⟩
     intro B σ g w ρ hh b9 hI hB a4 hx
     obtain⟨R,U,hv,hd⟩:=a6 σ g ρ hx
     refine Zze (a8 ρ w R U hv) ?_
     refine(a0 B σ g w _ hh b9 hI hB a4 hd).mono ?_
     rintro en w' ⟨u,rfl,h1⟩
     exact⟨u,rfl,h1⟩
    ·refine⟨r,I,.inr ⟨hR,p,hp,?_⟩⟩
     intro B σ g w ρ hI hB a4 hx
     obtain⟨R,U,hv,hd⟩:=a6 σ g ρ hx
     unfold PanPost
     rw[a8 ρ w R U hv]
     exact a0 B σ g w _ hI hB a4 hd
   ·exact I.elim
 ·obtain⟨r,h1,h2⟩:=Yaw hE o T h i k hD I (λc J=>⟨λf hc=>a3 ⟨c,J,.inr ⟨f,hc⟩⟩,λhc=>a3 ⟨c,J,.inl hc⟩⟩) (λx J=>a7 ⟨x,J⟩)
  exact⟨r,h1,.inl h2⟩
theorem Zi6(J:FnsOk E F) {R:Nat->Nat->Code->Fr Y->Hp Y->Nat->List Nat->Kont Y->Prop} {f:Nat} {args:List (SV Y)} {h:Hp Y} {i:Nat} {k:Res Y->Prop} (I:Zba E F R f args h i k):FnGood E.P f:=by
 unfold Zba at I;split at I
 ·exact J.sumG f _ ‹_›
 ·split at I
  ·exact J.fnG f _ ‹_›
  ·exact I.elim
theorem Zcd(J:FnsOk E F) {R:Nat->Nat->Code->Fr Y->Hp Y->Nat->List Nat->Kont Y->Prop} {f:Nat} {args:List (SV Y)} {h:Hp Y} {i:Nat} {k:Res Y->Prop} (I:Zk E F R f args h i k):FnGood E.P f:=by
 unfold Zk at I;split at I
 ·exact Zi6 J I
 ·split at I
  ·exact J.fnG f _ ‹_›
  ·exact I.elim
theorem Zqc(hE:EngOk E) (hF:FnsOk E F) {call:Nat->List (SV Y)->Hp Y->Nat->(Res Y->Prop)->Prop} (a8:∀(o:Oper) T h i k,DomLt h i->step E call o.op T h i k->∃r,k r/\OpTri2 E o T h i r) {a5:Nat->Nat->Code->Fr Y->Hp Y->Nat->List Nat->Kont Y->Prop} (a7:∀f N c,VcOk E N c (a5 f N c)):
 ∀(ds:List (Dfr Y)) (h:Hp Y) (i:Nat) (ms:List Nat) (K:Hp Y->Nat->List Nat->Prop),DomLt h i->Zvk E F call a5 ds h i ms K->∃h2 J m,K h2 J (m++ms)/\i<=J/\Dom h i h2 J/\Xg h i J m/\
  ∀(B:Nat) (σ:Pl) (g:GH) (w:World) (fn:Func) (a0:Array Value) (R:Ending->World->Prop) (l:List Deferred),Inv E B σ h g w->B<=w.heap.size->(∀b,i<=b->b<J->σ b=au)->DlOk E σ g ds l->
   (∀σ2 g2 w2,Stp i (J-i) m σ g w σ2 g2 w2->Inv E B σ2 h2 g2 w2->Leaves E.P fn a0 R [] .returning w2)->Leaves E.P fn a0 R l .returning w
 | [],h,i,ms,K,hD,hk=>by
  refine⟨h,i,[],hk,av _,⟨hD,λb I=> .inl I⟩,λb I=>by simp at I,λB σ g w fn a0 R l hI hB a4 hd hQ=> ?_⟩
  obtain rfl:l= []:=hd
  exact hQ σ g w (by rw[eB];exact Stp.refl _ _ _ _) hI
 |p::ds,h,i,ms,K,hD,hk=>by
  obtain⟨hG,U,b0,a3,dt⟩:=Zx2 hE hF a8 a7 hD (show Zyw E F au call a5 p.1 p.2 h i _ from hk)
  have b3:=Uk hD b0
  have a2:Dom h i (patch h i U) (i+U.n):=⟨hD.patch a3,λb I=>by
   rw[Zp] at I
   split at I
   ·rename_i c
    rcases c with c|c
    ·exact .inl (a3 b c)
    ·exact .inr c.1
   ·exact .inl I⟩
  obtain⟨h2,J,m,hK,hi,a9,hM,tri⟩:=Zqc hE hF a8 a7 ds _ _ _ K a2.1 b3
  refine⟨h2,J,m++U.mods,by rw[List.append_assoc];exact hK,by omega,Zcs (by omega) a2 a9,W6 a2 (by omega) hi (λb I=> .inl (a3 b I)) hM,λB σ g w fn a0 R l hI hB a4 hd hQ=> ?_⟩
  obtain⟨cap,a1,l',rfl,h8,b5⟩:=hd
  obtain⟨gf,b6,a6,b7⟩:=hG
  have b8:(invoke (.fn (.func p.1) cap) a1).run E.P w= .ok (.enter p.1 (a1++cap)) w:=by
   have b4:gf.body.isNone=false:=by cases hq:gf.body<;>rw[hq] at a6<;>first|rfl|cases a6
   simp only[invoke,callFunc,program,hZ,aF,aJ,aA,b6,b7,b4,aN,kM]
  refine leaves_cons (by intro hx;cases hx) b8 ?_
  refine(dt B σ g w (a1++cap) hI hB (λb b1 b2=>a4 b b1 (by omega)) h8).mono ?_
  rintro en u' w2 ⟨rfl,u2,rfl,σ2,g2,k1,k2,k3⟩
  show Leaves E.P fn a0 _ l' (settle .returning) w2
  refine tri B σ2 g2 w2 fn a0 R l' k2 (bS hB k1.size) (λb b1 b2=>Zcr k1 a4 b (by omega) b2) (b5.mono k1.sig k1.gle) λc0 g3 w3 s1 s2=>hQ c0 g3 w3 ?_ s2
  have b9:Stp i (i+U.n-i) U.mods σ g w σ2 g2 w2:=by rw[show i+U.n-i=U.n by omega];exact k1
  exact Zcq (by omega) hi b9 s1
theorem Xs(hE:EngOk E) (hF:FnsOk E F) {a2:Nat->Nat->Code->Fr Y->Hp Y->Nat->List Nat->Kont Y->Prop} (a7:∀f N c,VcOk E N c (a2 f N c)):Vb E (Zk E F a2):=by
 have h0:Vb E (Zba E F a2):=Z8e hE hF a7;have b6:=λ(o:Oper) T h i k hD I=>Zi5 hE h0 (λ_ _ _ _ _ I=>Zi6 hF I) o T h i k hD I;intro f args h i k hD I;unfold Zk at I;split at I
 ·exact h0 f args h i k hD I
 ·split at I
  ·rename_i fn b3
   split at I
   ·rename_i c hc
    split at I
    ·exact I.elim
    ·rename_i a1
     rw[bu] at a1;rw[V4] at I;obtain⟨e,dl,T',h',R,d4,J,hi,a4,⟨m,rfl,hM⟩,a3⟩:=(Yn4 hE b6 a7 F.dfl c).1 _ _ _ _ _ _ hD I;have b7:(e= .normal\/e= .ret)->Zvk E F (Zba E F a2) a2 dl h' R (m++ []) (λh' R ms=>finF E fn i k T' h' R ms)->∃r,k r/\ROk h r/\CallTri2 E f args h i r:=by
      intro he J;obtain⟨h2,i2,m2,a9,b9,c9,b0,lt⟩:=Zqc hE hF b6 a7 dl h' R (m++ []) _ a4.1 J;obtain⟨r,I,hR,hn,b5,ft⟩:=Zkc hE hD (W6 a4 hi b9 (by simpa using hM) b0) a9;refine⟨r,I,hR,.inl λB σ g w c0 hh b4 hI hB a6 hd=> ?_⟩;obtain rfl:hh=h:=funext λb=>b4 b (by unfold Rd;rw[b5];trivial);have a0:∀b,i<=b->b<i2->σ b=none:=λb h1 h2=>a6 b h1 (by omega);refine calls_of_wp_defers (hF.fn f fn b3) hc ?_;refine a3 B σ g w _ _ hI hB (λb h1 h2=>a0 b h1 (by omega)) (Ua hd a1) (Ub hd a1) rfl ?_;rintro U w' ⟨h2,σ',g',h3,h4,h5,h6⟩
      have:Leaves E.P fn U.tmps (λen w'=>∃u,en= .returned u/\∃σ' g',Stp i r.n r.mods σ g w σ' g' w'/\Inv E B σ' (patch hh i r) g' w'/\Den E σ' g' r.v u) U.defers .returning w':=by
       refine lt B σ' g' w' fn _ _ _ h4 (bS hB h3.size) (λb b1 b2=>Zcr h3 a0 b (by omega) b2) h6 λσ2 g2 w2 k1 k2=> ?_;obtain⟨u,hu,q1,q2,q3⟩:=ft B σ g w σ2 g2 U w2 hI a0 (Zcq hi b9 h3 k1) k2 (h5.mono k1.sig k1.gle);exact⟨u,hu,u,rfl,σ2,g2,q1,q2,q3⟩
      rcases he with rfl|rfl
      ·exact this
      ·exact this
     have c1:∀ch pu,e= .panic ch->Zyv ch=ae pu->(match(generalizing:=false) dl with| []=>finP i k pu h' R (m++ [])| [p]=>Zyw E F (ae pu) (Zba E F a2) a2 p.1 p.2 h' R λr=>Zme r h' R (m++ []) λh' R ms=>finF E fn i k T' h' R ms|_=>False)->∃r,k r/\ROk h r/\CallTri2 E f args h i r:=by
      intro ch pu he a5 J;obtain rfl:=Zx1 a5;subst he
      match dl,J,a3 with
      | [],J,a3=>
       obtain⟨r,I,hR,hn,hv,ft⟩:=Z8d hE hD (by simpa using hM) J;refine⟨r,I,hR,.inr ⟨pu,hv,λB σ g w c0 hI hB a6 hd=> ?_⟩⟩;have a0:∀b,i<=b->b<R->σ b=none:=λb h1 h2=>a6 b h1 (by omega);refine calls_of_wp_defers (hF.fn f fn b3) hc ?_;refine a3 B σ g w _ _ hI hB a0 (Ua hd a1) (Ub hd a1) rfl ?_;rintro U w' ⟨h2,σ',g',h3,h4,h5,h6⟩;obtain⟨q1,q2⟩:=ft B σ g w σ' g' w' hI a0 h3 h4;have h6:U.defers= []:=h6;show Leaves E.P fn U.tmps _ U.defers (.panicking _) w';rw[h6];exact⟨rfl,σ',g',q1,q2⟩
      | [p],J,a3=>
       obtain⟨hG,r1,c2,c3,dt⟩:=Zx2 hE hF b6 a7 a4.1 J;have a9:=Uk a4.1 c2;have b0:Xg h i (R+r1.n) (r1.mods++(m++ [])):=W6 a4 hi (by omega) (by simpa using hM) (λb hb=> .inl (c3 b hb));obtain⟨r,I,hR,hn,b5,ft⟩:=Zkc hE hD b0 a9;refine⟨r,I,hR,.inl λB σ g w c0 hh b4 hI hB a6 hd=> ?_⟩;obtain rfl:hh=h:=funext λb=>b4 b (by unfold Rd;rw[b5];trivial);have a0:∀b,i<=b->b<R+r1.n->σ b=none:=λb h1 h2=>a6 b h1 (by omega);refine calls_of_wp_defers (hF.fn f fn b3) hc ?_;refine a3 B σ g w _ _ hI hB (λb h1 h2=>a0 b h1 (by omega)) (Ua hd a1) (Ub hd a1) rfl ?_
       rintro U w' ⟨h2,σ',g',h3,h4,h5,h6⟩;obtain⟨cap,a8,l',h7,h8,h9⟩:=h6;obtain rfl:l'= []:=h9;obtain⟨gf,c5,b8,c6⟩:=hG;have c7:(invoke (.fn (.func p.1) cap) a8).run E.P w'= .ok (.enter p.1 (a8++cap)) w':=by
        have c4:gf.body.isNone=false:=by cases hq:gf.body<;>rw[hq] at b8<;>first|rfl|cases b8
        simp only[invoke,callFunc,program,hZ,aF,aJ,aA,c5,c6,c4,aN,kM]
       show Leaves E.P fn U.tmps _ U.defers (.panicking _) w';rw[h7];refine leaves_cons (by intro hx;cases hx) c7 ?_;refine(dt B σ' g' w' (a8++cap) h4 (bS hB h3.size) (λb b1 b2=>Zcr h3 a0 b (by omega) b2) h8).mono ?_;rintro en u' w2 ⟨rfl,u2,rfl,σ2,g2,k1,k2,k3⟩;show Leaves E.P fn U.tmps _ [] (settle (Zf7 (ae pu))) w2;have c8:Stp R (R+r1.n-R) r1.mods σ' g' w' σ2 g2 w2:=by rw[show R+r1.n-R=r1.n by omega];exact k1
       obtain⟨u,hu,q1,q2,q3⟩:=ft B σ g w σ2 g2 U w2 hI a0 (Zcq hi (by omega) h3 c8) k2 (h5.mono k1.sig k1.gle);exact⟨u,hu,u,rfl,σ2,g2,q1,q2,q3⟩
      |_::_::_,J,_=>exact J.elim
     split at J
     ·exact b7 (.inl rfl) J
     ·exact b7 (.inr rfl) J
     ·rename_i ch
      cases a5:Zyv ch with
      |none=>rw[a5] at J;exact J.elim
      |some pu=>
       rw[a5] at J;exact c1 ch pu rfl a5 J
     ·exact J.elim
   ·exact I.elim
  ·exact I.elim
def RoundsTri(E:Eng Y) (N:Nat) (c:Code) (T:Fr Y) (h:Hp Y) (i:Nat) (e:Exit) (U:Fr Y) (h':Hp Y) (J:Nat) (a0:List Nat):Prop:=
 ∃n,∀(B:Nat) (σ:Pl) (g:GH) (w:World) (a:Act) (Q:Exit->Act->World->Prop),Inv E B σ h g w->B<=w.heap.size->(∀b,i<=b->b<J->σ b=au)->FrOk E σ g T a->a.tmps.size=N->
  (∀I R,Aft E B N i J a0 σ g w a.defers U h' I R->Q e I R)->Code.rounds E.P c Q n a w
theorem Zlk{h U:Hp Y} {i J R:Nat} {m1 m2:List Nat} (hD:Dom h i U J) (hi:i<=J) (a2:J<=R) (a0:Xg h i J m1) (a1:Xg U J R m2):Xg h i R (m2++m1):=by
 intro b I;rcases cf.1 I with I|I
 ·rcases a1 b I with c|c
  ·rcases hD.2 b c with c'|c'
   ·exact .inl c'
   ·right;have:=hD.1 b c;omega
  ·right;omega
 ·rcases a0 b I with c|c
  ·exact .inl c
  ·right;omega
theorem Dom.trans{h J R:Hp Y} {i I i2:Nat} (hi:i<=I) (hD:Dom h i J I) (U:Dom J I R i2):Dom h i R i2:=
 ⟨U.1,λb hb=>by
  rcases U.2 b hb with c|c
  ·exact hD.2 b c
  ·right;omega⟩
theorem CodeTri.seq{N:Nat} {c1 R:Code} {T T1 T2:Fr Y} {h I U:Hp Y} {i J i2:Nat} {m1 m2:List Nat} {e:Exit} (t1:CodeTri E N c1 T h i .normal T1 I J m1) (t2:CodeTri E N R T1 I J e T2 U i2 m2) (hi:i<=J) (a4:J<=i2) (hm:∃m,m2=m++m1):CodeTri E N (.seq c1 R) T h i e T2 U i2 m2:=by
 intro B σ g w a Q hI hB a0 hF hN hQ;refine wp_seq (t1 B σ g w a _ hI hB (λb I U=>a0 b I (by omega)) hF hN ?_);intro a1 w1 hA;show R.wp E.P Q a1 w1;obtain⟨σ1,g1,k1,k2,k3,k4,k5⟩:=hA.trans hi a4 hB a0 hm;exact t2 B σ1 g1 w1 a1 Q k1 k2 k3 k4 hA.sz λa2 w2 a3=>hQ a2 w2 (k5 _ _ _ _ a3)
theorem CodeTri.seq_out{N:Nat} {J c2:Code} {T I:Fr Y} {h R:Hp Y} {i U:Nat} {m1:List Nat} {e:Exit} (he:e≠ .normal) (t1:CodeTri E N J T h i e I R U m1):CodeTri E N (.seq J c2) T h i e I R U m1:=by
 intro B σ g w a Q hI hB a0 hF hN hQ;refine wp_seq (t1 B σ g w a _ hI hB a0 hF hN ?_);intro a1 w1 hA;have:=hQ a1 w1 hA;cases e<;>first|exact this|exact ka rfl he
theorem RoundsTri.more{N:Nat} {c:Code} {T T1 T2:Fr Y} {h I R:Hp Y} {i J U:Nat} {m1 m2:List Nat} {e:Exit} (t1:CodeTri E N c T h i .normal T1 I J m1) (t2:RoundsTri E N c T1 I J e T2 R U m2) (hi:i<=J) (a4:J<=U) (hm:∃m,m2=m++m1):RoundsTri E N c T h i e T2 R U m2:=by
 obtain⟨n,t2⟩:=t2;refine⟨n+1,λB σ g w a Q hI hB a0 hF hN hQ=> ?_⟩;rw[rounds_succ];refine t1 B σ g w a _ hI hB (λb I R=>a0 b I (by omega)) hF hN ?_;intro a1 w1 hA;obtain⟨σ1,g1,k1,k2,k3,k4,k5⟩:=hA.trans hi a4 hB a0 hm;exact t2 B σ1 g1 w1 a1 Q k1 k2 k3 k4 hA.sz λa2 w2 a3=>hQ a2 w2 (k5 _ _ _ _ a3)
theorem RoundsTri.out{N:Nat} {c:Code} {T I:Fr Y} {h J:Hp Y} {i R:Nat} {m1:List Nat} {e:Exit} (he:e≠ .normal) (t1:CodeTri E N c T h i e I J R m1):RoundsTri E N c T h i e I J R m1:=by
 refine⟨1,λB σ g w a Q hI hB a0 hF hN hQ=> ?_⟩;rw[rounds_succ];refine t1 B σ g w a _ hI hB a0 hF hN ?_;intro U w1 hA;have:=hQ U w1 hA;cases e<;>first|exact this|exact ka rfl he
theorem RoundsTri.loop{N:Nat} {c:Code} {T I:Fr Y} {h J:Hp Y} {i R:Nat} {m1:List Nat} {e:Exit} (t:RoundsTri E N c T h i e I J R m1):CodeTri E N (.loop c) T h i e I J R m1:=by
 obtain⟨n,t⟩:=t;exactλB σ g w a Q hI U a0 hF hN hQ=>wp_loop_rounds n (t B σ g w a Q hI U a0 hF hN hQ)
theorem Zts{e:Exit} {α:Prop} {k:Exit->Prop} (h:match e with| .normal=>α|e=>k e):(e= .normal/\α)\/(e≠ .normal/\k e):=by
 cases e<;>first|exact .inl ⟨rfl,h⟩|exact .inr ⟨by simp,h⟩
theorem Zgx(hE:EngOk E) (R:FnsOk E F):∀(n f N:Nat) (c:Code),VcOk E N c (vc E F n f N c)/\
 ∀b,c= .loop b->lpOf F f b=au->∀T h i ms K,DomLt h i->vc E F n f N c T h i ms K->∃e T' h' i' ms',K e T' h' i' ms'/\i<=i'/\Dom h i h' i'/\(∃m,ms'=m++ms/\Xg h i i' m)/\RoundsTri E N b T h i e T' h' i' ms':=by
 intro n
 induction n with
 |zero=>intro f N c;exact⟨λT h i ms K _ I=>I.elim,λb _ _ T h i ms K _ I=>I.elim⟩
 |succ n ih=>
  intro f N c
  have a4:Vb E (Zk E F (vc E F n)):=Xs hE R λf N c=>(ih f N c).1
  have b2:∀T h i ms K,vc E F (n+1) f N c T h i ms K=vcB E F (vc E F n) f N c T h i ms K:=λT h i ms K=>rfl
  have rounds:∀b,c= .loop b->lpOf F f b=au->∀T h i ms K,DomLt h i->vc E F (n+1) f N c T h i ms K->∃e T' h' i' ms',K e T' h' i' ms'/\i<=i'/\Dom h i h' i'/\(∃m,ms'=m++ms/\Xg h i i' m)/\RoundsTri E N b T h i e T' h' i' ms':=by
   rintro b rfl hl T h i ms K U I
   rw[b2] at I
   simp only[vcB,Zsc,Zsd,Zh7,Zdd,Zh8] at I
   rw[hl] at I
   obtain⟨e,T1,h1,i1,ms1,J,hi,a0,⟨m,rfl,hM⟩,t1⟩:=(ih f N b).1 T h i ms _ U I
   rcases Zts J with⟨rfl,J⟩|⟨he,J⟩
   ·obtain⟨e2,T2,h2,i2,c0,a7,a3,a5,⟨m',rfl,a8⟩,t2⟩:=(ih f N (.loop b)).2 b rfl hl T1 h1 i1 _ _ a0.1 J
    exact⟨e2,T2,h2,i2,_,a7,by omega,a0.trans hi a5,⟨m'++m,by simp,Zlk a0 hi a3 hM a8⟩,RoundsTri.more t1 t2 hi a3 ⟨m',rfl⟩⟩
   ·exact⟨e,T1,h1,i1,_,J,hi,a0,⟨m,rfl,hM⟩,RoundsTri.out he t1⟩
  refine⟨λT h i ms K U I=> ?_,rounds⟩
  have b7:=I
  rw[b2] at I
  cases hc:c with
  |skip=>
   subst hc
   refine⟨.normal,T,h,i,ms,I,av _,⟨U,λb hb=> .inl hb⟩,⟨[],rfl,λb hb=>by simp at hb⟩,λB σ g w a Q hI hB a2 R hN hQ=>wp_skip (hQ a w ⟨rfl,hN,σ,g,by rw[eB];exact(Stp.refl i σ g w).weaken (by simp),hI,R⟩)⟩
  |exit id=>
   subst hc
   refine⟨.exit id,T,h,i,ms,I,av _,⟨U,λb hb=> .inl hb⟩,⟨[],rfl,λb hb=>by simp at hb⟩,λB σ g w a Q hI hB a2 R hN hQ=>wp_exit (hQ a w ⟨rfl,hN,σ,g,by rw[eB];exact(Stp.refl i σ g w).weaken (by simp),hI,R⟩)⟩
  |ret=>
   subst hc
   refine⟨.ret,T,h,i,ms,I,av _,⟨U,λb hb=> .inl hb⟩,⟨[],rfl,λb hb=>by simp at hb⟩,λB σ g w a Q hI hB a2 R hN hQ=>wp_ret (hQ a w ⟨rfl,hN,σ,g,by rw[eB];exact(Stp.refl i σ g w).weaken (by simp),hI,R⟩)⟩
  |region id ops c1=>
   subst hc
   simp only[vcB,Zsc,Zsd,Zh7,Zdd,Zh8] at I
   split at I
   ·split at I
    ·rename_i d _ hj
     obtain⟨Q,hr,b5,b4⟩:=I
     obtain⟨e,T',h',i',ms',⟨rfl,b,hQ,rfl,rfl,rfl,b3⟩,hi,a0,hm,t⟩:=Zv3 hE (λo T h i k U I=>Zi5 hE a4 (λ_ _ _ _ _ I=>Zcd R I) o T h i k U I) ops.toList ops.toList T h i ms _ U (Yhx hj hr)
     have J:K .normal (Zo6 b [d] (Vh (Yd ops.toList) T)) h' i' ms':=by
      cases b
      ·exact b4 hQ
      ·exact b5 hQ
     refine⟨.normal,_,h',i',ms',J,hi,a0,hm,λB σ g w a Q hI hB a2 R hN hQ=>wp_region_list ?_⟩
     have:=t B σ g w a Q hI hB a2 R hN λa' w' ⟨k1,k2,σ',g',k3,k4,k5⟩=>hQ a' w' ⟨k1,k2,σ',g',k3,k4,b3 _ _ _ k5⟩
     simpa using this
    rename_i c3
    obtain⟨e,T',h',i',ms',J,hi,a0,hm,t⟩:=Zv3 hE (λo T h i k U I=>Zi5 hE a4 (λ_ _ _ _ _ I=>Zcd R I) o T h i k U I) ops.toList ops.toList T h i ms _ U I
    refine⟨e,T',h',i',ms',J,hi,a0,hm,λB σ g w a Q hI hB a2 R hN hQ=>wp_region_list ?_⟩
    have:=t B σ g w a Q hI hB a2 R hN hQ
    simpa using this
   ·split at I
    ·rename_i t kd hh
     obtain⟨T',h',i',ms',J,hi,a0,hm,t1⟩:=Ydl hE (λo T h i k U I=>Zi5 hE a4 (λ_ _ _ _ _ I=>Zcd R I) o T h i k U I) U hh I id
     exact⟨.normal,T',h',i',ms',J,hi,a0,hm,by simpa using t1⟩
    ·split at I
     ·rename_i b0
      rcases Z1p (λo T h i k U I=>Zi5 hE a4 (λ_ _ _ _ _ I=>Zcd R I) o T h i k U I) ops.toList (Xj ops.toList []) ops.toList 0 T T h i ms [] _ T (λ_ h=>h) (λ_ _=>rfl) (.refl T) U I with⟨ds,T2,b6,hp,J,b8⟩|⟨j0,ds,rp,p,_,c2,hG,_,hR,hq,J⟩
      case inr=>
       refine⟨_,_,_,_,_,J,by omega,⟨U.patch hR,λb hb=> ?_⟩,⟨rp.mods,rfl,λb hb=> .inl (hR b hb)⟩,λB σ g w a Q hI hB a2 R hN hQ=> ?_⟩
       ·rw[Zp] at hb
        split at hb
        ·rename_i c
         rcases c with c|c
         ·exact .inl (hR b c)
         ·exact .inr c.1
        ·exact .inl hb
       ·have:=Z8a (ms:=ms) hE.mix b0 hG (by omega) U hq id B σ g w a Q hI hB a2 R hN hQ
        simpa using this
      obtain⟨a0,b9⟩:=Z4a U hp
      refine⟨.normal,_,_,_,_,J,(Z9e hp).1,a0,b9 ms,λB σ g w a Q hI hB a2 R hN hQ=> ?_⟩
      have:=Yal hE.mix b0 hp b8 id B σ g w a Q hI hB a2 R hN λa' w' hA=>hQ a' w' (hA.frB b6)
      simpa using this
     ·exact I.elim
  |seq x y=>
   subst hc
   simp only[vcB,Zsc,Zsd,Zh7,Zdd,Zh8] at I
   obtain⟨e,T1,h1,i1,ms1,J,hi,a0,⟨m,rfl,hM⟩,t1⟩:=(ih f N x).1 T h i ms _ U I
   rcases Zts J with⟨rfl,J⟩|⟨he,J⟩
   ·obtain⟨e2,T2,h2,i2,c0,a7,a3,a5,⟨m',rfl,a8⟩,t2⟩:=(ih f N y).1 T1 h1 i1 _ _ a0.1 J
    exact⟨e2,T2,h2,i2,_,a7,by omega,a0.trans hi a5,⟨m'++m,by simp,Zlk a0 hi a3 hM a8⟩,CodeTri.seq t1 t2 hi a3 ⟨m',rfl⟩⟩
   ·exact⟨e,T1,h1,i1,_,J,hi,a0,⟨m,rfl,hM⟩,CodeTri.seq_out he t1⟩
  |label l=>
   subst hc
   refine⟨.normal,T,h,i,ms,I,av _,⟨U,λb hb=> .inl hb⟩,⟨[],rfl,λb hb=>by simp at hb⟩,λB σ g w a Q hI hB a2 R hN hQ=>wp_label (hQ a w ⟨rfl,hN,σ,g,by rw[eB];exact(Stp.refl i σ g w).weaken (by simp),hI,R⟩)⟩
  |scope b=>
   subst hc
   simp only[vcB,Z2i] at I
   obtain⟨e,T1,h1,i1,ms1,J,hi,a0,hm,t1⟩:=(ih f N b).1 T h i ms _ U I
   cases e with
   |goto l=>exact J.elim
   |_=>exact⟨_,T1,h1,i1,ms1,J,hi,a0,hm,λB σ g w a Q hI hB a2 R hN hQ=>wp_scope_straight (t1 B σ g w a _ hI hB a2 R hN λa1 w1 hA=>hQ a1 w1 hA)⟩
  |cond x y z=>
   subst hc
   simp only[vcB,Zsc,Zsd,Zh7,Zdd,Zh8] at I
   split at I
   ·rename_i l v hx
    have I:=Y5 I
    have b1:∀σ g a,FrOk E σ g T a->a.eval x= .bool v:=by
     intro σ g a R
     have:=R.ev x
     rw[hx] at this
     generalize a.eval x=u at this
     cases this;rfl
    cases v with
    |true=>
     obtain⟨e,T1,h1,i1,ms1,J,hi,a0,hm,t1⟩:=(ih f N y).1 T h i ms _ U I
     exact⟨e,T1,h1,i1,ms1,J,hi,a0,hm,λB σ g w a Q hI hB a2 R hN hQ=>wp_cond_true (b1 σ g a R) (t1 B σ g w a Q hI hB a2 R hN hQ)⟩
    |false=>
     obtain⟨e,T1,h1,i1,ms1,J,hi,a0,hm,t1⟩:=(ih f N z).1 T h i ms _ U I
     exact⟨e,T1,h1,i1,ms1,J,hi,a0,hm,λB σ g w a Q hI hB a2 R hN hQ=>wp_cond_false (b1 σ g a R) (t1 B σ g w a Q hI hB a2 R hN hQ)⟩
   ·exact I.elim
  |block id b=>
   subst hc
   simp only[vcB,Zsc,Zsd,Zh7,Zdd,Zh8] at I
   obtain⟨e,T1,h1,i1,ms1,J,hi,a0,hm,t1⟩:=(ih f N b).1 T h i ms _ U I
   by_cases a9:e= .exit id
   ·subst a9
    have a6:K .normal T1 h1 i1 ms1:=by
     simp only at J
     have:aO id id=true:=by simp
     rw[this] at J;exact J
    refine⟨.normal,T1,h1,i1,ms1,a6,hi,a0,hm,λB σ g w a Q hI hB a2 R hN hQ=>wp_block (t1 B σ g w a _ hI hB a2 R hN λa1 w1 hA=> ?_)⟩
    show(if id=id then Q .normal a1 w1 else _)
    rw[jM rfl];exact hQ a1 w1 hA
   ·have a6:K e T1 h1 i1 ms1:=by
     cases e with
     |exit j=>
      simp only at J
      have:aO j id=false:=by rw[<-bg,fp];rintro rfl;exact a9 rfl
      rw[this] at J;exact J
     |_=>exact J
    refine⟨e,T1,h1,i1,ms1,a6,hi,a0,hm,λB σ g w a Q hI hB a2 R hN hQ=>wp_block (t1 B σ g w a _ hI hB a2 R hN λa1 w1 hA=> ?_)⟩
    have:=hQ a1 w1 hA
    cases e with
    |exit j=>
     show(if j=id then _ else Q (.exit j) a1 w1)
     rw[jJ (by rintro rfl;exact a9 rfl)];exact this
    |_=>exact this
  |loop b=>
   cases hl:lpOf F f b with
   |none=>
    obtain⟨e,T1,h1,i1,ms1,J,hi,a0,hm,t⟩:=rounds b hc hl T h i ms K U b7
    exact⟨e,T1,h1,i1,ms1,J,hi,a0,hm,t.loop⟩
   |some L=>
    subst hc
    simp only[vcB,Zsc,Zsd,Zh7,Zdd,Zh8] at I
    rw[hl] at I
    have hL:LoopOk E L:=by
     unfold lpOf at hl
     split at hl
     ·exact R.loop _ _ _ hl
     ·cases hl
    exact hL N b _ (ih f N b).1 T h i ms K U I
  |_=>subst hc;exact I.elim
end
end
section
open Go.RowKit
section
variable {Y:Thy} {E:Eng Y}
abbrev σ0:Pl:=λ_=>au
abbrev hp0:Hp Y:=λ_=>au
noncomputable def frzL(f:SV Y->(SV Y->List Nat->Prop)->Prop) (l:List (SV Y)):(List (SV Y)->List Nat->Prop)->Prop:=
 List.rec (motive:=λ_=>(List (SV Y)->List Nat->Prop)->Prop) (λk=>k [] []) (λx _ J k=>f x λx' bs=>J λr I=>k (x'::r) (bs++I)) l
def frzN(v:SV Y) (k:SV Y->List Nat->Prop):Prop:=match nid 0 v with|true=>k v []|false=>False
noncomputable def frzS(E:Eng Y) (gth:List (SV Y)->Option Y.Th) (h:Hp Y) (J:SV Y->(SV Y->List Nat->Prop)->Prop) (v:SV Y) (k:SV Y->List Nat->Prop):Prop:=
 match v with
 | .agg cs=>frzL J cs λcs bs=>k (.agg cs) bs
 | .sl b off len w c=>
  match h b with
  |some (.rows th l _)=>(match aO w (E.w th) with|true=>need E.lit (off+len<=l.length) (k (.psl th ((l.drop off).take len) ab) [b])|false=>False)
  |some (.raw cs _ tg)=>
   (match(match tg with|some th=>ae th|none=>gth cs) with
   |some th=>(match aO w (E.w th) with
    |true=>frzL J ((cs.drop (off*w)).take (len*w)) λI bs=>(match Uh E th (Ug w len I) with|some l=>k (.psl th l ab) (b::bs)|none=>False)
    |false=>False)
   |none=>False)
  |_=>False
 | .ptr b 0=>
  match h b with
  |some (.raw cs _ tg)=>
   (match(match tg with|some th=>ae th|none=>gth cs) with
   |some th=>frzL J cs λI bs=>(match E.dec th I with|some x=>k (.pptr th x 0) (b::bs)|none=>False)
   |none=>False)
  |_=>False
 |v=>frzN v k
noncomputable def frzK(E:Eng Y) (gth:List (SV Y)->Option Y.Th) (h:Hp Y) (n:Nat):SV Y->(SV Y->List Nat->Prop)->Prop:=
 Nat.rec (motive:=λ_=>SV Y->(SV Y->List Nat->Prop)->Prop) (λv k=>frzN v k) (λ_ I v k=>frzS E gth h I v k) n
def Kept(E:Eng Y) (J:Hp Y) (σ:Pl) (bs:List Nat) (w:World) (I:GH):Prop:=
 ∀b∈bs,∀r z x,σ b=ae (r,z)->J b=ae x->∀j v,j<(x.cells E).length->w.cell? ⟨r,j,au⟩=ae v->I.cell r j=ae v
theorem Kept.sub{J:Hp Y} {σ:Pl} {bs I:List Nat} {w:World} {g2:GH} (h:Kept E J σ bs w g2) (U:∀b∈I,b∈bs):Kept E J σ I w g2:=λb R=>h b (U b R)
structure FrzOk(E:Eng Y) (h:Hp Y) (v v':SV Y) (bs:List Nat):Prop where
 blk:∀b∈bs,∃x,h b=ae x/\∀es,x≠ .map es
 nid:nid 0 v'=ac
 den:∀(hh:Hp Y) (σ:Pl) (g:GH) (w:World) (B:Nat) (u:Value) (g2:GH),(∀b∈bs,hh b=h b)->Inv E B σ hh g w->g.le g2->Kept E hh σ bs w g2->Den E σ g v u->Den E σ0 g2 v' u
structure FrzLOk(E:Eng Y) (h:Hp Y) (l l':List (SV Y)) (bs:List Nat):Prop where
 blk:∀b∈bs,∃x,h b=ae x/\∀es,x≠ .map es
 nid:nidL 0 l'=ac
 len:l'.length=l.length
 den:∀(hh:Hp Y) (σ:Pl) (g:GH) (w:World) (B:Nat) (g2:GH),(∀b∈bs,hh b=h b)->Inv E B σ hh g w->g.le g2->Kept E hh σ bs w g2->∀(j:Nat) sv sv' u,l[j]? =ae sv->l'[j]? =ae sv'->Den E σ g sv u->Den E σ0 g2 sv' u
theorem Uw{h:Hp Y} {f:SV Y->(SV Y->List Nat->Prop)->Prop} (hf:∀v k,f v k->∃v' bs,k v' bs/\FrzOk E h v v' bs):∀{l:List (SV Y)} {k:List (SV Y)->List Nat->Prop},frzL f l k->∃l' bs,k l' bs/\FrzLOk E h l l' bs
 | [],k,J=>⟨[],[],J,⟨by simp,rfl,rfl,λ_ _ _ _ _ _ _ _ _ _ j sv a3 u R=>by simp at R⟩⟩
 |x::r,k,J=>by
  have J:f x λx' bs=>frzL f r λr a0=>k (x'::r) (bs++a0):=J
  obtain⟨x',bs,J,o1⟩:=hf _ _ J
  obtain⟨r',a0,J,U⟩:=Uw hf J
  refine⟨_,_,J,⟨λb I=> ?_,by simp[nidL,o1.nid,U.nid],by simp[U.len],λhh σ g w B g2 a2 hI a1 hK j sv a3 u R h2 hd=> ?_⟩⟩
  ·rcases cf.1 I with I|I
   ·exact o1.blk b I
   ·exact U.blk b I
  ·cases j with
   |zero=>
    simp at R h2;subst R;subst h2
    exact o1.den hh σ g w B u g2 (λb I=>a2 b (eX _ I)) hI a1 (hK.sub λb I=>eX _ I) hd
   |succ j=>exact U.den hh σ g w B g2 (λb I=>a2 b (dE _ I)) hI a1 (hK.sub λb I=>dE _ I) j sv a3 u (by simpa using R) (by simpa using h2) hd
theorem Z7m(U:EngOk E) {h:Hp Y} {v:SV Y} {k:SV Y->List Nat->Prop} (I:frzN v k):∃R bs,k R bs/\FrzOk E h v R bs:=by
 unfold frzN at I;split at I
 ·rename_i J
  exact⟨v,[],I,⟨by simp,J,λhh σ g w B u g2 _ _ a0 _ hd=>(Zy U (i:=0) (σ':=σ0) hd (λb p hb=>by omega) J).mono (.refl _) a0⟩⟩
 ·exact I.elim
theorem Yes(hE:EngOk E) {th:Y.Th} {h:Hp Y} {b off len w:Nat} {cap:Option Nat} {x:Blk Y} {l:List (Y.dom th)} {bs:List Nat} (hb:h b=ae x) (hm:∀es,x≠ .map es) (hw:w=E.w th) (hl:l.length=len)
 (a7:∀b∈bs,∃x,h b=ae x/\∀es,x≠ .map es)
 (hc:∀(hh:Hp Y) (σ:Pl) (g:GH) (w':World) (B:Nat) (g2:GH),(∀b∈bs,hh b=h b)->Inv E B σ hh g w'->g.le g2->Kept E hh σ bs w' g2->∀(j:Nat) R,(l.flatMap (E.enc th))[j]? =ae R->∃I,(x.cells E)[off*w+j]? =ae I/\∀v,Den E σ g I v->Den E σ0 g2 R v):
 FrzOk E h (.sl b off len w cap) (.psl th l ab) (b::bs):=by
 refine⟨λb' U=> ?_,rfl,λhh σ g W B u g2 a3 hI b0 hK hd=> ?_⟩
 ·rcases aH.1 U with rfl|U
  ·exact⟨x,hb,hm⟩
  ·exact a7 b' U
 ·obtain⟨r,z,c,rfl,a4,hz,b5,b1,b4⟩:=Vc hd
  have a0:hh b=ae x:=(a3 b (by simp)).trans hb
  obtain⟨r',z',a5,a6⟩:=hI.blk b x a0
  rw[a4] at a5;cases a5
  obtain⟨u,b2,b3⟩:=Wq hm a6
  have a8:=hc hh σ g W B g2 (λb' U=>a3 b' (aI _ U)) hI b0 (hK.sub λb' U=>aI _ U)
  have a2:∀i y,l[i]? =ae y->∀j,j<E.w th->∃R I,(E.enc th y)[j]? =ae R/\(l.flatMap (E.enc th))[i*E.w th+j]? =ae R/\(x.cells E)[off*w+(i*E.w th+j)]? =ae I/\∀v,Den E σ g I v->Den E σ0 g2 R v:=by
   intro i y hy j J
   have e1:(E.enc th y)[j]? =ae ((E.enc th y)[j]'(by rw[hE.enc];exact J)):=ao _
   have e2:=(Y7 hE th l i y hy j J).trans e1
   obtain⟨I,h1,h2⟩:=a8 _ _ e2
   exact⟨_,I,e1,e2,h1,h2⟩
  rw[<-hl]
  refine .psl (λi j=>u (off*w+(i*E.w th+j))) (by omega) b1 (by simp) (λe=>by cases e) (λhp=>⟨r,off*w,rfl,λi y hy j J=> ?_⟩) λi y hy j R J=> ?_
  ·rw[hE.enc] at J
   obtain⟨R,I,_,_,h3,_⟩:=a2 i y hy j J
   have a1:=(ai.1 h3).1
   rw[dH]
   exact hK b (by simp) r z x a4 a0 _ _ a1 (b2 _ a1)
  ·have a9:j<E.w th:=by rw[<-hE.enc th y];exact(ai.1 J).1
   obtain⟨b6,I,h1,_,h3,h4⟩:=a2 i y hy j a9
   rw[J] at h1;cases h1
   exact h4 _ (b3 _ _ h3)
theorem Zbp(R:EngOk E) {gth:List (SV Y)->Option Y.Th} {h:Hp Y}:∀(n:Nat) (v:SV Y) (k:SV Y->List Nat->Prop),frzK E gth h n v k->∃v' bs,k v' bs/\FrzOk E h v v' bs:=by
 intro n
 induction n with
 |zero=>exactλv k I=>Z7m R I
 |succ n ih=>
  intro v k I
  replace I:frzS E gth h (frzK E gth h n) v k:=I
  unfold frzS at I;split at I
  ·rename_i cs
   obtain⟨a2,bs,I,o⟩:=Uw ih I;refine⟨_,_,I,⟨o.blk,by simpa[nid] using o.nid,λhh σ g w B u g2 a1 hI a4 hK hd=> ?_⟩⟩;obtain⟨arr,c,rfl,hs,hc,hd⟩:=Yk hd;refine .agg c (by rw[o.len];exact hs) (λj J=>hc j (by rw[<-o.len];exact J)) λj a7 J=> ?_;have U:j<cs.length:=by rw[<-o.len];exact(ai.1 J).1
   exact o.den hh σ g w B g2 a1 hI a4 hK j _ a7 _ (ao U) J (hd j _ (ao U))
  ·rename_i b off len w c
   split at I
   ·rename_i th l fz hb
    split at I
    ·rename_i hw
     have hw:=ax hw;obtain⟨a4,I⟩:=Zu I;refine⟨_,_,I,Yes R (l:=(l.drop off).take len) hb (by intro es e;cases e) hw (by simp;omega) (by simp) λhh σ g w' B g2 _ hI a5 _ j sv J=> ?_⟩;obtain⟨q,p,x,rfl,hp,hq,hs⟩:=Y3 R th _ J;rw[bO] at hq;split at hq
     ·rw[cO] at hq
      refine⟨sv,?_,λv hv=>(Zy R (i:=0) (σ':=σ0) hv (λb p hb=>by omega) (Zs (R.encI _ _ _) hs)).mono (.refl _) a5⟩;simp only[cE];rw[hw,<-dH,<-cp,Y7 R th l _ x hq p hp];exact hs
     ·cases hq
    ·exact I.elim
   ·rename_i cs fz tg hb
    split at I
    ·rename_i th _
     split at I
     ·rename_i hw
      have hw:=ax hw;obtain⟨a2,bs,I,o⟩:=Uw ih I;split at I
      ·rename_i l a3
       rw[hw] at a3;obtain⟨h1,h2⟩:=Xc R a3;refine⟨_,_,I,Yes R hb (by intro es e;cases e) hw h1 o.blk λhh σ g w' B g2 a1 hI a5 hK j sv J=> ?_⟩;obtain⟨s0,h3,h4⟩:=h2 j sv J;have U:=(ai.1 h3).1;rw[o.len] at U;have e1:=ao U;refine⟨_,?_,λv hv=>h4 σ0 g2 v (o.den hh σ g w' B g2 a1 hI a5 hK j _ s0 v e1 h3 hv)⟩;have e2:=e1;rw[bO] at e2;split at e2
       ·rw[cO] at e2
        simp only[cE];rw[e2]
       ·cases e2
      ·exact I.elim
     ·exact I.elim
    ·exact I.elim
   ·exact I.elim
  ·rename_i b
   split at I
   ·rename_i cs fz tg hb
    split at I
    ·rename_i th _
     obtain⟨a2,bs,I,o⟩:=Uw ih I;split at I
     ·rename_i x a3
      obtain⟨hl,b4⟩:=R.dec th a2 x a3;have hm:∀es,(Blk.raw cs fz tg:Blk Y)≠ .map es:=by intro es e;cases e
      refine⟨_,_,I,⟨λb' a0=> ?_,rfl,λhh σ g W B u g2 a1 hI a4 hK hd=> ?_⟩⟩
      ·rcases aH.1 a0 with rfl|a0
       ·exact⟨_,hb,hm⟩
       ·exact o.blk b' a0
      ·cases hd
       rename_i r z a9;have a8:hh b=ae (.raw cs fz tg):=(a1 b (by simp)).trans hb;obtain⟨r',z',b0,b1⟩:=hI.blk b _ a8;rw[a9] at b0;cases b0;obtain⟨c,b2,b3⟩:=Wq hm b1;have o':=o.den hh σ g W B g2 (λb' a0=>a1 b' (aI _ a0)) hI a4 (hK.sub λb' a0=>aI _ a0);refine .pptr (o:=0) c (λj J=> ?_) λj a7 J=> ?_
       ·rw[R.enc] at J
        have U:j<cs.length:=by rw[<-o.len];omega
        simpa using hK b (by simp) r z _ a9 a8 j (c j) U (b2 j U)
       ·have b5:j<E.w th:=by rw[<-R.enc th x];exact(ai.1 J).1
        have a6:j<a2.length:=by omega
        have U:j<cs.length:=by rw[<-o.len];exact a6
        have h3:=o' j _ _ (c j) (ao U) (ao a6) (b3 j _ (ao U));exact b4 σ0 g2 j _ a7 (c j) (ao a6) J h3
     ·exact I.elim
    ·exact I.elim
   ·exact I.elim
  ·exact Z7m R I
def mx2(a b:Nat):Nat:=match bP a b with|true=>b|false=>a
theorem Zlw(a b:Nat):mx2 a b=max a b:=by
 unfold mx2;split
 ·rename_i h;rw[bu] at h;omega
 ·rename_i h
  have:¬a<=b:=λI=>by rw[Nat.ble_eq_true_of_le I] at h;cases h
  omega
def frzB:Option (Blk Y)->Option (Blk Y)
 |some (.raw cs fz tg)=>ae (.raw cs (mx2 fz cs.length) tg)
 |some (.rows th l fz)=>ae (.rows th l (mx2 fz l.length))
 |x=>x
theorem Zjy(J:EngOk E) {x:Blk Y} (R:∀I,x≠ .map I):∃x',frzB (ae x)=ae x'/\x'.cells E=x.cells E/\x.fzc E<=x'.fzc E/\(x.cells E).length<=x'.fzc E/\(∀σ g w r z,BlkOk E σ g w r z x->BlkOk E σ g w r z x'):=by
 cases x with
 |map I=>exact ka rfl (R I)
 |raw cs fz tg=>exact⟨_,rfl,rfl,by simp only[gT,Zlw];omega,by simp only[gT,cE,Zlw];omega,λσ g w r z h=>by cases tg<;>exact h⟩
 |rows th l fz=>
  refine⟨_,rfl,rfl,?_,?_,λσ g w r z h=>h⟩
  ·simp only[gT,Zlw];exact bb _ (Nat.le_max_left _ _)
  ·simp only[gT,cE,Zlw];rw[Zv J];exact bb _ (Nat.le_max_right _ _)
open Classical in
noncomputable def frzG(E:Eng Y) (I:Hp Y) (σ:Pl) (bs:List Nat) (g:GH) (w:World):GH :=
  { cell:=λr o=>if∃ b∈bs,∃ z x,σ b=ae (r,z)/\I b=ae x/\o<(x.cells E).length then w.cell? ⟨r,o,au⟩ else g.cell r o
    obj:=g.obj }
open Classical in
theorem Zbq{I:Hp Y} {σ:Pl} {bs:List Nat} {g:GH} {w:World} {r o:Nat} {v:Value} (h:(frzG E I σ bs g w).cell r o=ae v):(w.cell? ⟨r,o,au⟩=ae v/\∃ b∈bs,∃ z x,σ b=ae (r,z)/\I b=ae x/\o<(x.cells E).length)\/g.cell r o=ae v:=by
 have h:(if∃ b∈bs,∃ z x,σ b=ae (r,z)/\I b=ae x/\o<(x.cells E).length then w.cell? ⟨r,o,au⟩ else g.cell r o)=ae v:=h;split at h
 ·exact .inl ⟨h,‹_›⟩
 ·exact .inr h
open Classical in
theorem Zal{I:Hp Y} {σ:Pl} {bs:List Nat} {g:GH} {w:World} {B:Nat} (R:Inv E B σ I g w):g.le (frzG E I σ bs g w):=by
  refine⟨λr o v J=>?_,λ_ _ h=>h⟩;show(if∃ b∈bs,∃ z x,σ b=ae (r,z)/\I b=ae x/\o<(x.cells E).length then w.cell? ⟨r,o,au⟩ else g.cell r o)=ae v;split
  ·exact R.gc r o v J
  ·exact J
open Classical in
theorem Ze8{I:Hp Y} {σ:Pl} {bs:List Nat} {g:GH} {w:World}:Kept E I σ bs w (frzG E I σ bs g w):=by
 intro b U r z x J R j v hj hv;show(if∃ b∈bs,∃ z x,σ b=ae (r,z)/\I b=ae x/\j<(x.cells E).length then w.cell? ⟨r,j,au⟩ else g.cell r j)=ae v;rw[jM ⟨b,U,z,x,J,R,hj⟩];exact hv
theorem Zxg{U:Hp Y} {σ:Pl} {bs:List Nat} {g:GH} {w:World} {B B':Nat} (I:Inv E B σ U g w):Inv E B' σ0 hp0 (frzG E U σ bs g w) w:=by
  refine⟨λr o v hv=>?_,I.gm,(λb x J=>by cases J),λb b' r z z' R=>ka rfl R,(λb r z hs=>by cases hs),(λb x r z o v J=>by cases J),(λb x r z J=>by cases J),λn sv hn j s hj=>?_⟩
  ·rcases Zbq hv with h | h
   ·exact h.1
   ·exact I.gc r o v h
  ·obtain⟨v,R,h2⟩:=I.glob n sv hn j s hj
   exact⟨v,(Zal I).c _ _ _ R,h2.mono (.refl _) (Zal I)⟩
theorem Zjz(hE:EngOk E) {H:Hp Y} {bs:List Nat} (a2:∀ b∈bs,∃ x,H b=ae x/\∀ es,x≠.map es) {B:Nat} {σ:Pl} {g:GH} {w:World} (U:Inv E B σ H g w) :
    Inv E B σ (λb=>match memB b bs with | true=>frzB (H b) | false=>H b) (frzG E H σ bs g w) w:=by
  have a4:=Zal (bs:=bs) U
  have src:∀ b y,(match memB b bs with | true=>frzB (H b) | false=>H b)=ae y->∃ R,H b=ae R/\(∀ σ g w r z,BlkOk E σ g w r z R->BlkOk E σ g w r z y)/\R.fzc E<=y.fzc E/\(b∈bs->(R.cells E).length<=y.fzc E):=by
    intro b y I
    cases hm:memB b bs with
    | true =>
      rw[hm] at I
      have a3:=memB_iff.1 hm
      obtain⟨R,J,h2⟩:=a2 b a3
      have I:frzB (H b)=ae y:=I
      rw[J] at I
      obtain⟨y',k1,k2,k3,k4,k5⟩:=Zjy hE h2
      rw[k1] at I; cases I
      exact⟨R,J,k5,k3,λ_=>k4⟩
    | false =>
      rw[hm] at I
      exact⟨y,I,λ_ _ _ _ _ h=>h,av _,λhb=>by rw[memB_iff.2 hb] at hm; cases hm⟩
  have ne:∀ b,(match memB b bs with | true=>frzB (H b) | false=>H b)≠au->H b≠none:=by
    intro b hb
    obtain⟨y,I⟩:=aY.1 hb
    obtain⟨R,J,_⟩:=src b y I
    rw[J]; simp
  have a0:=Zxg (bs:=bs) (B':=0) U
  refine⟨a0.gc,a0.gm,λb y I=>?_,λb b' r z z' J h2=>U.inj b b' r z z' (ne b J) (ne b' h2),U.base,λb y r z q v I hs hv=>?_,λb y r z I hs=>?_,a0.glob⟩
  ·obtain⟨R,J,h2,_⟩:=src b y I
   obtain⟨r,z,h3,h4⟩:=U.blk b R J
   exact⟨r,z,h3,h2 _ _ _ _ _ (h4.mono (.refl _) a4 rfl)⟩
  ·obtain⟨R,J,_,h3,h4⟩:=src b y I
   rcases Zbq hv with⟨_,b',a1,z',x',k1,k2,k3⟩ | k
   ·obtain rfl:=U.inj b b' r z z' (by rw[J]; simp) (by rw[k2]; simp) hs k1
    rw[J] at k2; cases k2
    exact ck k3 (h4 a1)
   ·exact ck (U.fz b R r z q v J hs k) h3
  ·obtain⟨R,J,_⟩:=src b y I
   exact U.fm b R r z J hs
theorem Yjr(hE:EngOk E) {H:Hp Y} {b fz:Nat} {cs U:List (SV Y)} {tg:Option Y.Th} {bs:List Nat} (o:FrzLOk E H cs U bs) (hb:H b=ae (.raw cs fz tg)) (a4:b∉bs) {B:Nat} {σ:Pl} {g:GH} {w:World} (hI:Inv E B σ H g w):
 Inv E B σ (λc=>if c=b then ae (.raw U fz tg) else match memB c bs with|true=>frzB (H c)|false=>H c) (frzG E H σ bs g w) w:=by
 have J:=Zjz hE o.blk hI
 have a2:=Zal (bs:=bs) hI
 have a3:memB b bs=false:=by rw[<-bg,memB_iff];exact a4
 have at_:∀c x,(if c=b then ae (.raw U fz tg) else match memB c bs with|true=>frzB (H c)|false=>H c)=ae x->(c=b/\x= .raw U fz tg)\/(c≠b/\(match memB c bs with|true=>frzB (H c)|false=>H c)=ae x):=by
  intro c x I
  by_cases e:c=b
  ·rw[jM e] at I;cases I;exact .inl ⟨e,rfl⟩
  ·rw[jJ e] at I;exact .inr ⟨e,I⟩
 have a0:(match memB b bs with|true=>frzB (H b)|false=>H b)=ae (.raw cs fz tg):=by rw[a3];exact hb
 have ne:∀c,(if c=b then ae (.raw U fz tg) else match memB c bs with|true=>frzB (H c)|false=>H c)≠au->(match memB c bs with|true=>frzB (H c)|false=>H c)≠none:=by
  intro c hc
  obtain⟨x,I⟩:=aY.1 hc
  rcases at_ c x I with⟨rfl,_⟩|⟨_,R⟩
  ·rw[a0];simp
  ·rw[R];simp
 refine⟨J.gc,J.gm,λc x I=> ?_,λc c' r z z' n1 n2=>J.inj c c' r z z' (ne c n1) (ne c' n2),J.base,λc x r z q v I hs hv=> ?_,λc x r z I hs=> ?_,J.glob⟩
 ·rcases at_ c x I with⟨rfl,rfl⟩|⟨_,R⟩
  ·obtain⟨r,z,a5,arr,e,k1,k2,k3,k4,k5⟩:=hI.blk c _ hb
   refine⟨r,z,a5,arr,e,k1,k2,?_,λj sv hj=> ?_,?_⟩
   ·have:=o.len
    simp only[cE] at k3⊢;omega
   ·have hj:U[j]? =ae sv:=hj
    have a1:j<cs.length:=by rw[<-o.len];exact(ai.1 hj).1
    obtain⟨v,m1,m2⟩:=k4 j _ (ao a1)
    exact⟨v,m1,(o.den H σ g w B _ (λ_ _=>rfl) hI a2 Ze8 j _ sv v (ao a1) hj m2).mono (λb p h=>by cases h) (.refl _)⟩
   ·cases tg<;>exact k5
  ·exact J.blk c x R
 ·rcases at_ c x I with⟨rfl,rfl⟩|⟨_,R⟩
  ·exact J.fz c (.raw cs fz tg) r z q v a0 hs hv
  ·exact J.fz c x r z q v R hs hv
 ·rcases at_ c x I with⟨rfl,rfl⟩|⟨_,R⟩
  ·exact J.fm c _ r z a0 hs
  ·exact J.fm c x r z R hs
noncomputable def Ycv(E:Eng Y) (gth:List (SV Y)->Option Y.Th) (n:Nat) (T:Fr Y):List Nat->Hp Y->(Hp Y->List Nat->Prop)->Prop
 | [],h,k=>k h []
 |s::r,h,k=>
  match T s with
  | .ptr b 0=>
   (match h b with
   |some (.raw cs fz tg)=>frzL (frzK E gth h n) cs λJ bs=>
    (match memB b bs with
    |false=>Zh2 (λc=>match aO c b with|true=>ae (.raw J fz tg)|false=>frzB (h c)) (b::bs) h λR=>Ycv E gth n T r R λU I=>k U (bs++I)
    |true=>False)
   |_=>False)
  |_=>False
theorem Zxh(hE:EngOk E) {gth:List (SV Y)->Option Y.Th} {n:Nat} {T:Fr Y}:∀ {sl:List Nat} {h:Hp Y} {k:Hp Y->List Nat->Prop},Ycv E gth n T sl h k->∃ U bs,k U bs/\(∀ b,U b≠au ↔ h b≠au)/\(∀ b∈bs,h b≠au) ∧
    ∀ (B:Nat) (σ:Pl) (g:GH) (w:World),Inv E B σ h g w->∃ J,g.le J/\Inv E B σ U J w/\(∀ r o v,J.cell r o=ae v->g.cell r o=ae v\/∃ b∈bs,∃ z,σ b=ae (r,z))/\J.obj=g.obj
  | [],h,k,I=>⟨h,[],I,λ_=>Iff.rfl,(λb hb=>by cases hb),λB σ g w hI=>⟨g,.refl _,hI,λ_ _ _ h=>.inl h,rfl⟩⟩
  | s :: r,h,k,I=>by
    unfold Ycv at I
    split at I
    case h_2=>exact I.elim
    rename_i b _
    split at I
    case h_2=>exact I.elim
    rename_i cs fz tg hb
    obtain⟨a0,bs,I,o⟩:=Uw (Zbp hE n) I
    split at I
    case h_2=>exact I.elim
    rename_i a4
    rw[Zei] at I
    have a5:b ∉ bs:=by rw[← memB_iff,a4]; simp
    have e1:(λc=>if c∈b :: bs then(match aO c b with | true=>ae (.raw a0 fz tg) | false=>frzB (h c)) else h c)=λc=>if c=b then ae (.raw a0 fz tg) else match memB c bs with | true=>frzB (h c) | false=>h c:=by
      funext c
      by_cases e:c=b
      ·subst e
       rw[jM (by simp),jM rfl,fP]
      ·rw[jJ e]
       have e2:aO c b=false:=by rw[← bg,fp]; exact e
       by_cases R:c∈bs
       ·rw[jM (by simp[R]),e2,memB_iff.2 R]
       ·rw[jJ (by simp[R,e])]
        have:memB c bs=false:=by rw[← bg,memB_iff]; exact R
        rw[this]
    rw[e1] at I
    obtain⟨U,a2,I,k1,k2,k3⟩:=Zxh hE I
    have a1:∀ c,(if c=b then ae (.raw a0 fz tg) else match memB c bs with | true=>frzB (h c) | false=>h c)≠au ↔ h c≠none:=by
      intro c
      by_cases e:c=b
      ·subst e; rw[jM rfl,hb]; simp
      ·rw[jJ e]
       cases R:memB c bs with
       | false=>exact Iff.rfl
       | true =>
         obtain⟨y,hy,a7⟩:=o.blk c (memB_iff.1 R)
         obtain⟨y',a6,_⟩:=Zjy (E:=E) hE a7
         simp only[hy,a6]
         simp
    refine⟨U,bs ++ a2,I,λc=>(k1 c).trans (a1 c),λc hc=>?_,λB σ g w hI=>?_⟩
    ·rcases cf.1 hc with hc | hc
     ·obtain⟨y,hy,_⟩:=o.blk c hc
      rw[hy]; simp
     ·exact(a1 c).1 (k2 c hc)
    ·have a3:=Yjr hE o hb a5 hI
     obtain⟨J,q1,q2,q3,q4⟩:=k3 B σ _ w a3
     refine⟨J,(Zal hI).trans q1,q2,λq p v hv=>?_,q4⟩
     rcases q3 q p v hv with h3 | ⟨c,h3,h4⟩
     ·rcases Zbq h3 with⟨_,c,c1,z,x,c2,_⟩ | h4
      ·exact .inr ⟨c,eX _ c1,z,c2⟩
      ·exact .inl h4
     ·exact .inr ⟨c,dE _ h3,h4⟩
end
end
section
open Go.RowKit
section
variable {Y:Thy}
structure Ann(Y:Thy) where
 X:Type
 fr:X->List (Nat×SV Y)
 bl:X->List (Nat×Blk Y)
 src:X->List (Nat×Nat)
 md:List Nat
 ih:Nat
 M:Nat
 meas:X->Nat
 fz:List Nat:= []
 gth:List (SV Y)->Option Y.Th:=λ_=>au
 fn:Nat:=3
 ex:(X->Prop)->Prop:=λP=>∃x,P x
 al:(X->Prop)->Prop:=λP=>∀x,P x
 exOk:∀P,ex P->∃x,P x:=by exactλ_ h=>h
 alOk:∀P,al P->∀x,P x:=by exactλ_ h=>h
def ex2{α:Type} (P:Bool×α->Prop):Prop:=(∃y,P (ab,y))\/∃y,P (ac,y)
def al2{α:Type} (P:Bool×α->Prop):Prop:=(∀y,P (ab,y))/\∀y,P (ac,y)
theorem Zgg{α:Type} (P:Bool×α->Prop) (h:ex2 P):∃x,P x:=by
 rcases h with⟨y,h⟩|⟨y,h⟩
 ·exact⟨_,h⟩
 ·exact⟨_,h⟩
theorem Zgh{α:Type} (P:Bool×α->Prop) (h:al2 P) (x:Bool×α):P x:=by
 obtain⟨b,y⟩:=x;cases b
 ·exact h.1 y
 ·exact h.2 y
def frOf:List (Nat×SV Y)->Fr Y
 | []=>λ_=> .unk
 |(s,v)::r=>upd (frOf r) s v
def blOf:List (Nat×Blk Y)->Hp Y
 | []=>λ_=>au
 |(b,x)::r=>upd (blOf r) b (ae x)
def idOf:SV Y->Option Nat
 | .ptr b _=>ae b
 | .sl b _ _ _ _=>ae b
 | .map b=>ae b
 |_=>au
def idAt(T:Fr Y) (h:Hp Y) (s:Nat):Option Nat:=
 match aU s 1000 with
 |true=>idOf (T s)
 |false=>(match T (s%1000) with
  | .ptr b 0=>(match h b with|some (.raw cs _ _)=>(match cs[s/1000-1]? with|some v=>idOf v|none=>au)|_=>au)
  | .fn _ _ (.ptr b 0::_)=>(match h b with|some (.raw cs _ _)=>(match cs[s/1000-1]? with|some v=>idOf v|none=>au)|_=>au)
  |_=>au)
def renO(i:Nat) (T:Fr Y) (h:Hp Y):List (Nat×Nat)->Nat->Option Nat
 | [],b=>match aU b i with|true=>ae b|false=>au
 |(I,s)::r,b=>match aO b I with|true=>idAt T h s|false=>renO i T h r b
def Yls:Option Nat->Option Nat->Prop
 |_,au=>True
 |some a,ae b=>a=b
 |_,_=>False
def Zpw(a:Option Nat) (b:Nat) (K:Prop):Prop:=match a with|some a=>Zcv a b K|none=>False
def le0(U:Nat->Option Nat) (v v':SV Y):Prop:=
 match v' with
 | .unk=>True
 | .int _ k' R=>(match v with| .int _ k n=>(match decide (k=k') with|true=>n=R|false=>False)|_=>False)
 | .bool _ I=>(match v with| .bool _ b=>b=I|_=>False)
 | .str _ s'=>(match v with| .str _ s=>s=s'|_=>False)
 | .val u'=>(match v with| .val u=>u=u'|_=>False)
 | .ptr I J=>(match v with| .ptr b o=>Zpw (U I) b (o=J)|_=>False)
 | .sl I J R w' c'=>(match v with| .sl b o n w c=>Zpw (U I) b (Zcv w w' (o=J/\n=R/\Yls c c'))|_=>False)
 | .map I=>(match v with| .map b=>Zpw (U I) b True|_=>False)
 | .psl a0 l' f'=>(match v with
  | .psl th l f=>U6 l (λl=>l=l')/\(f'=ac->f=ac)
  | .val (.slice au 0 0)=>l'= []
  |_=>False)
 | .pptr a0 x' J=>(match v with| .pptr th x o=>U6 [x] (λl=>l= [x'])/\o=J|_=>False)
 | .pmap es'=>(match v with| .pmap es=>es=es'/\nidE 0 es=ac|_=>False)
 |_=>False
def leL(I:Nat->Option Nat):List (SV Y)->List (SV Y)->Prop
 | [],[]=>True
 |x::r,x'::r'=>le0 I x x'/\leL I r r'
 |_,_=>False
def le1(I:Nat->Option Nat) (v R:SV Y):Prop:=
 match R,v with
 | .agg J,.agg cs=>leL I cs J
 | .tup J,.tup cs=>leL I cs J
 | .fn f' U b',.fn f a b=>f=f'/\leL I a U/\leL I b b'
 |R,v=>le0 I v R
def leB(E:Eng Y) (a0:Nat->Option Nat) (x:Option (Blk Y)) (x':Blk Y):Prop:=
 match x,x' with
 |some (.raw cs fz tg),.raw U I au=>Zcv fz I (leL a0 cs U)
 |some (.rows th l fz),.rows a1 J I=>U6 l (λl=>l=J)/\fz=I
 |some (.raw cs 0 (ae th)),.rows a1 J 0=>
  (match Uh E th (Ug (E.w th) (cs.length/E.w th) cs),aO (cs.length/E.w th*E.w th) cs.length with|some l,ac=>U6 l (λl=>l=J)|_,_=>False)
 |some (.map R),.map es'=>R=es'/\nidE 0 R=ac
 |_,_=>False
def fitF(I:Nat->Option Nat) (T:Fr Y):List (Nat×SV Y)->Prop
 | []=>True
 |(s,v)::r=>le1 I (T s) v/\fitF I T r
def fitB(E:Eng Y) (I:Nat->Option Nat) (h:Hp Y):List (Nat×Blk Y)->Prop
 | []=>True
 |(b,x)::r=>(match I b with|some c=>leB E I (h c) x|none=>False)/\fitB E I h r
def Ztk(i I M:Nat) (J:List Nat) (R:Nat->Option Nat):List (Nat×Blk Y)->List Nat->Bool
 | [],_=>ac
 |(b,_)::r,seen=>aU b I&&(match R b with|some c=> !(memB c seen)&&(aU b i||(bP i c&&aU c M)||memB c J)&&Ztk i I M J R r (c::seen)|none=>ab)
def Yad(i I M:Nat) (J:List Nat) (T:Fr Y) (h:Hp Y):List (Nat×Nat)->Bool
 | []=>ac
 |(b,s)::r=>(bP i b&&aU b I)&&(match idAt T h s with|some c=>(bP i c&&aU c M)||memB c J|none=>ab)&&Yad i I M J T h r
def fits(E:Eng Y) (A:Ann Y) (i:Nat) (T:Fr Y) (h:Hp Y) (x:A.X):Prop:=
 match Ztk i A.ih A.M A.md (renO i T h (A.src x)) (A.bl x) []&&Yad i A.ih A.M A.md T h (A.src x) with
 |true=>fitF (renO i T h (A.src x)) T (A.fr x)/\fitB E (renO i T h (A.src x)) h (A.bl x)
 |false=>False
def mdOk(i:Nat) (h:Hp Y):List Nat->Bool
 | []=>ac
 |b::r=>aU b i&&(match h b with|some _=>ac|none=>ab)&&mdOk i h r
def Zek(i:Nat) (I:List Nat):List Nat->Bool
 | []=>ac
 |b::r=>(bP i b||memB b I)&&Zek i I r
def Zgv(i:Nat) (h:Hp Y):List (Nat×Blk Y)->Bool
 | []=>ac
 |(b,_)::r=>(bP i b||(match h b with|some _=>ac|none=>ab))&&Zgv i h r
def Z33(E:Eng Y) (A:Fr Y->Hp Y->Nat->Ann Y) (V:Zk6 Y):Zk6 Y:=λT h i ms K=>
 match(bP i (A T h i).ih&&bP (A T h i).ih (A T h i).M)&&mdOk i h (A T h i).md with
 |false=>False
 |true=>∃R:(A T h i).X->Prop,(A T h i).ex (λx=>R x/\Zgv i h ((A T h i).bl x)=ac/\fits E (A T h i) i T h x)/\
  (A T h i).al λx=>R x->V (frOf ((A T h i).fr x)) (blOf ((A T h i).bl x)) (A T h i).ih [] λe I J a0 a1=>
   (match bP a0 (A T h i).M&&Zek i (A T h i).md a1 with
   |true=>(match e with
    | .normal=>Ycv E (A T h i).gth (A T h i).fn I (A T h i).fz J λU bs=>(match Zek i (A T h i).md bs with
     |true=>(A T h i).ex λx'=>R x'/\(A T h i).meas x'<(A T h i).meas x/\Zgv i h ((A T h i).bl x')=ac/\fits E (A T h i) i I U x'
     |false=>False)
    |e=>K e I J (A T h i).M ((A T h i).md++ms))
   |false=>False)
variable {E:Eng Y}
def Own(i M:Nat) (I:List Nat) (σ:Pl) (r:Nat):Prop:=∃b z,(b∈I\/(i<=b/\b<M))/\σ b=ae (r,z)
structure StpL(i M:Nat) (md:List Nat) (σ:Pl) (g:GH) (w:World) (σ':Pl) (g':GH) (w':World):Prop where
 out:∀b,b<i\/M<=b->σ' b=σ b
 gle:g.le g'
 gcnew:∀r o v,g'.cell r o=ae v->g.cell r o=ae v\/w.heap.size<=r\/Own i M md σ r
 gmnew:∀r es,g'.obj r=ae es->g.obj r=ae es\/w.heap.size<=r
 heap:∀r,r<w.heap.size->¬Own i M md σ r->w'.heap[r]? =w.heap[r]?
 size:w.heap.size<=w'.heap.size
 os:w'.os=w.os
 tape:w'.tape=w.tape
 output:w'.output=w.output
 own:∀r,Own i M md σ' r->w.heap.size<=r\/Own i M md σ r
theorem StpL.trans{i M:Nat} {J:List Nat} {σ σ1 σ2:Pl} {g g1 g2:GH} {w w1 w2:World} (h:StpL i M J σ g w σ1 g1 w1) (k:StpL i M J σ1 g1 w1 σ2 g2 w2):StpL i M J σ g w σ2 g2 w2:=by
 have back:∀r,Own i M J σ1 r->w.heap.size<=r\/Own i M J σ r:=h.own;refine⟨λb hb=>(k.out b hb).trans (h.out b hb),h.gle.trans k.gle,?_,?_,?_,bS h.size k.size,k.os.trans h.os,k.tape.trans h.tape,k.output.trans h.output,?_⟩
 ·intro r o v U
  rcases k.gcnew r o v U with I|I|I
  ·exact h.gcnew r o v I
  ·exact .inr (.inl (bS h.size I))
  ·exact .inr (back r I)
 ·intro r es U
  rcases k.gmnew r es U with I|I
  ·exact h.gmnew r es I
  ·exact .inr (bS h.size I)
 ·intro r hr hn
  rw[k.heap r (ck hr h.size) (λR=>by
   rcases back r R with I|I
   ·omega
   ·exact hn I),h.heap r hr hn]
 ·intro r R
  rcases k.own r R with I|I
  ·exact .inl (bS h.size I)
  ·exact back r I
theorem StpL.of{i ih n M:Nat} {md m:List Nat} {σ σ1:Pl} {g g1:GH} {w w1:World} (h:Stp ih n m σ g w σ1 g1 w1) (h1:i<=ih) (h2:ih+n<=M) (hm:∀b∈m,b∈md\/(i<=b/\b<M)):StpL i M md σ g w σ1 g1 w1:=by
 have own:∀r b z,b∈m->σ b=ae (r,z)->Own i M md σ r:=λr b z J U=>⟨b,z,hm b J,U⟩;refine⟨?_,h.gle,?_,h.gmnew,?_,h.size,h.os,h.tape,h.output,?_⟩
 ·intro b J
  cases R:σ b with
  |some p=>exact h.sig _ _ R
  |none=>
   cases a0:σ1 b with
   |none=>rfl
   |some p=>
    rcases h.snew b p a0 with I|I
    ·rw[R] at I;cases I
    ·omega
 ·intro r o v hv
  rcases h.gcnew r o v hv with I|I|⟨b,I,z,h4⟩
  ·exact .inl I
  ·exact .inr (.inl I)
  ·exact .inr (.inr (own r b z I h4))
 ·exactλr hr hn=>h.heap r hr λb J z U=>hn (own r b z J U)
 ·rintro r ⟨b,z,J,U⟩
  cases R:σ b with
  |some p=>
   have:=h.sig _ _ R;rw[U] at this;obtain rfl:=bd this;exact .inr ⟨b,z,J,R⟩
  |none=>
   rcases h.blk b r z R U with I|⟨b',I,z',h4⟩
   ·exact .inl I
   ·exact .inr (own r b' z' I h4)
theorem StpL.to{i M:Nat} {R ms:List Nat} {σ σ1:Pl} {g g1:GH} {w w1:World} (h:StpL i M R σ g w σ1 g1 w1) (a2:i<=M) (a1:∀b,i<=b->b<M->σ b=au):Stp i (M-i) (R++ms) σ g w σ1 g1 w1:=by
 have own:∀r,Own i M R σ r->∃b∈R++ms,∃z,σ b=ae (r,z):=by
  rintro r ⟨b,z,I|I,a0⟩
  ·exact⟨b,by simp[I],z,a0⟩
  ·rw[a1 b I.1 I.2] at a0;cases a0
 refine⟨?_,?_,h.gle,?_,h.gmnew,?_,h.size,h.os,h.tape,h.output,?_⟩
 ·intro b p I
  rw[h.out b (by
   rcases fH b i with c|c
   ·exact .inl c
   ·rcases fH b M with d|d
    ·rw[a1 b c d] at I;cases I
    ·exact .inr d)]
  exact I
 ·intro b p I
  by_cases c:i<=b/\b<M
  ·right;omega
  ·rw[h.out b (by omega)] at I;exact .inl I
 ·intro r o v hv
  rcases h.gcnew r o v hv with J|J|J
  ·exact .inl J
  ·exact .inr (.inl J)
  ·exact .inr (.inr (own r J))
 ·exactλr hr hn=>h.heap r hr λho=>by
   obtain⟨b,I,z,hz⟩:=own r ho;exact hn b I z hz
 ·intro b r z h1 U
  by_cases c:i<=b/\b<M
  ·rcases h.own r ⟨b,z,.inr c,U⟩ with J|J
   ·exact .inl J
   ·exact .inr (own r J)
  ·rw[h.out b (by omega),h1] at U;cases U
def renσ(i M:Nat) (I:Nat->Option Nat) (σ:Pl):Pl:=λb=>if b<i\/M<=b then σ b else match I b with|some c=>σ c|none=>au
theorem Zpx{i ih M:Nat} {md:List Nat} {T:Fr Y} {h:Hp Y}:∀{src:List (Nat×Nat)},Yad i ih M md T h src=ac->
 (∀b,b<i->renO i T h src b=ae b)/\∀b c,i<=b->renO i T h src b=ae c->b<ih/\((i<=c/\c<M)\/c∈md)
 | [],_=>by
  refine⟨λb J=> ?_,λb c J R=> ?_⟩
  ·have:aU b i=true:=by rw[aU,bu];exact J
   simp[renO,this]
  ·have:aU b i=false:=by rw[<-bg,aU,bu];omega
   simp[renO,this] at R
 |(b0,s)::r,hh=>by
  simp only[Yad,aq] at hh
  obtain⟨⟨⟨k1,U⟩,I⟩,k4⟩:=hh
  rw[bu] at k1
  have U:=Yq U
  obtain⟨a0,a1⟩:=Zpx k4
  refine⟨λb J=> ?_,λb c J R=> ?_⟩
  ·have:aO b b0=false:=by rw[<-bg,fp];omega
   simp only[renO,this];exact a0 b J
  ·simp only[renO] at R
   split at R
   ·rename_i e
    have e:=ax e
    subst e
    rw[R] at I
    simp only[bm,aq,bu] at I
    refine⟨U,?_⟩
    rcases I with I|I
    ·exact .inl ⟨I.1,Yq I.2⟩
    ·exact .inr (memB_iff.1 I)
   ·exact a1 b c J R
theorem Zzl{a b : Option Nat} {c : Nat} (h : Yls a b) (I : ∀ m, a = ae m → c = m) : ∀ m, b = ae m → c = m := by
  rintro m rfl;cases a with
  | none => exact h.elim
  | some a => have : a = m := h
              exact this ▸ I a rfl
theorem Zm7(hE:EngOk E) {a0:Nat->Option Nat} {σ σ':Pl} {g:GH} (a3:∀b c,a0 b=ae c->σ' b=σ c) {v v':SV Y} {u:Value} (I:le0 a0 v v') (hd:Den E σ g v u):Den E σ' g v' u:=by
 have at_:∀{b' b:Nat} {K:Prop},Zpw (a0 b') b K->σ' b'=σ b/\K:=by
  intro b' b K h;unfold Zpw at h;split at h
  ·rename_i a ha
   obtain⟨rfl,hK⟩:=Wf h;exact⟨a3 _ _ ha,hK⟩
  ·exact h.elim
 have enc:∀{th:Y.Th} {x:Y.dom th} {j:Nat} {R:SV Y} {u:Value},(E.enc th x)[j]? =ae R->Den E σ g R u->Den E σ' g R u:=λJ hd=>Zy hE (i:=0) hd (λb p hb=>by omega) (Zs (hE.encI _ _ _) J);unfold le0 at I;split at I
 ·exact .unk _
 ·split at I
  ·split at I
   ·rename_i e
    obtain rfl:=jk e;obtain rfl:=I;cases hd;exact .int _ _ _
   ·exact I.elim
  ·exact I.elim
 ·split at I
  ·obtain rfl:=I;cases hd;exact .bool _ _
  ·exact I.elim
 ·split at I
  ·obtain rfl:=I;cases hd;exact .str _ ‹_›
  ·exact I.elim
 ·split at I
  ·obtain rfl:=I;cases hd;exact .val _
  ·exact I.elim
 ·split at I
  ·obtain⟨e,rfl⟩:=at_ I
   cases hd;rename_i U;exact .ptr (e.trans U)
  ·exact I.elim
 ·split at I
  ·obtain⟨e,I⟩:=at_ I
   obtain⟨rfl,rfl,rfl,hc⟩:=Wf I;obtain⟨r,z,c,rfl,U,hz,a2,hm,a1⟩:=Vc hd;refine .sl (e.trans U) hz a2 hm λq hq=> ?_;exact Zzl hc a1 q hq
  ·exact I.elim
 ·split at I
  ·obtain⟨e,_⟩:=at_ I
   cases hd;rename_i U;exact .map (e.trans U)
  ·exact I.elim
 ·split at I
  ·obtain⟨I,hf⟩:=I
   obtain⟨e,I⟩:=Y6 I;subst e;obtain rfl:_=_:=I;obtain⟨base,c,cv,rfl,h1,h2,h3,h4,h5,h6⟩:=V2 hd;exact .psl cv h1 h2 (λe=>h3 (hf e)) h4 h5 λq x hq j R J=>enc J (h6 q x hq j R J)
  ·obtain rfl:_= []:=I
   cases hd;exact .psl (l:= []) (λ_ _=>undef) (av _) (by unfold maxLen;omega) (λ_=>rfl) (λ_=>rfl) (by simp) (by simp)
  ·exact I.elim
 ·split at I
  ·obtain⟨I,rfl⟩:=I
   obtain⟨e,I⟩:=Y6 I;subst e;have I: [_]= [_]:=I;simp only[List.cons.injEq,and_true] at I;subst I;cases hd;rename_i r o c hc hd;exact .pptr c hc λj R J=>enc J (hd j R J)
  ·exact I.elim
 ·split at I
  ·obtain⟨rfl,hn⟩:=I
   exact Zy hE (i:=0) hd (λb p hb=>by omega) (by simpa[nid] using hn)
  ·exact I.elim
 ·exact I.elim
theorem Zdn{a0:Nat->Option Nat}:∀{cs J:List (SV Y)},leL a0 cs J->cs.length=J.length/\∀(j:Nat) I,J[j]? =ae I->∃U,cs[j]? =ae U/\le0 a0 U I
 | [],[],_=>⟨rfl,λj U h=>by simp at h⟩
 |x::r,x'::r',h=>by
  obtain⟨h1,h2⟩:=h
  obtain⟨k1,k2⟩:=Zdn h2
  refine⟨by simp[k1],λj I R=> ?_⟩
  cases j with
  |zero=>simp at R;subst R;exact⟨x,rfl,h1⟩
  |succ j=>exact k2 j I (by simpa using R)
 | [],_::_,h=>h.elim
 |_::_,[],h=>h.elim
theorem Yhb(hE:EngOk E) {a1:Nat->Option Nat} {σ σ':Pl} {g:GH} (a2:∀b c,a1 b=ae c->σ' b=σ c) {v v':SV Y} {u:Value} (I:le1 a1 v v') (hd:Den E σ g v u):Den E σ' g v' u:=by
 have lists:∀{cs a0:List (SV Y)} {c:Nat->Value},leL a1 cs a0->(∀j J,cs[j]? =ae J->Den E σ g J (c j))->∀j J,a0[j]? =ae J->Den E σ' g J (c j):=by
  intro cs a0 c h hd j J R;obtain⟨sv0,U,h2⟩:=(Zdn h).2 j J R;exact Zm7 hE a2 h2 (hd j sv0 U)
 unfold le1 at I;split at I
 ·obtain⟨arr,c,rfl,hs,hc,hd⟩:=Yk hd
  have e:=(Zdn I).1;exact .agg c (by omega) (λj R=>hc j (by omega)) (lists I hd)
 ·obtain⟨arr,c,rfl,hs,hc,hd⟩:=Znx hd
  have e:=(Zdn I).1;exact .tup c (by omega) (λj R=>hc j (by omega)) (lists I hd)
 ·obtain⟨rfl,U,h2⟩:=I
  cases hd;rename_i ca cb a7 a3 a5 a8 a4 a6;have e1:=(Zdn U).1;have e2:=(Zdn h2).1;exact .fn ca cb (by omega) (λj R=>a3 j (by omega)) (lists U a5) (by omega) (λj R=>a4 j (by omega)) (lists h2 a6)
 ·exact Zm7 hE a2 I hd
theorem Zwg(I:EngOk E) {U:Nat->Option Nat} {σ σ':Pl} {g:GH} (R:∀b c,U b=ae c->σ' b=σ c) {T:Fr Y} {a:Act} (J:FrOk E σ g T a):∀{l:List (Nat×SV Y)},fitF U T l->FrOk E σ' g (frOf l) a
 | [],_=>λt=> .unk _
 |(s,v)::r,h=>by
  intro t
  show Den E σ' g (upd (frOf r) s v t) _
  rw[Ze]
  by_cases e:t=s
  ·rw[jM e,e];exact Yhb I R h.1 (J s)
  ·rw[jJ e];exact Zwg I R J h.2 t
theorem Z34(U:EngOk E) {a1:Nat->Option Nat} {σ σ':Pl} {g:GH} {w:World} (a4:∀b c,a1 b=ae c->σ' b=σ c) {x0:Option (Blk Y)} {x:Blk Y} {r z:Nat} (I:leB E a1 x0 x):∃y,x0=ae y/\x.fzc E=y.fzc E/\(BlkOk E σ g w r z y->BlkOk E σ' g w r z x):=by
 have enc:∀{th:Y.Th} {x:Y.dom th} {j:Nat} {R:SV Y} {u:Value},(E.enc th x)[j]? =ae R->Den E σ g R u->Den E σ' g R u:=λJ hd=>Zy U (i:=0) hd (λb p hb=>by omega) (Zs (U.encI _ _ _) J);unfold leB at I;split at I
 ·obtain⟨ef,a3⟩:=Wf I
  clear I;subst ef;obtain⟨e,hg⟩:=Zdn a3;refine⟨_,rfl,rfl,?_⟩;rintro⟨arr,e0,h1,h2,h3,h4,h0⟩;refine⟨arr,e0,h1,h2,?_,?_,jX⟩
  ·simp only[cE] at h3⊢;omega
  ·intro j R J
   obtain⟨sv0,k1,k2⟩:=hg j R J;obtain⟨v,k3,k4⟩:=h4 j sv0 k1;exact⟨v,k3,Zm7 U a4 k2 k4⟩
 ·rename_i th l fz a5 l' a6
  obtain⟨I,rfl⟩:=I;obtain⟨e,I⟩:=Y6 I;subst e;have I:l=l':=I;subst I;refine⟨_,rfl,rfl,?_⟩;rintro⟨arr,e0,h1,h2,h3,h4,h0⟩;refine⟨arr,e0,h1,h2,h3,?_,h0⟩;intro j R J;obtain⟨v,k3,k4⟩:=h4 j R J;obtain⟨q,p,y,_,_,_,hs⟩:=Y3 U th l J;exact⟨v,k3,enc hs k4⟩
 ·rename_i cs th a5 l'
  split at I
  ·rename_i l a2 a0
   have a0:=ax a0;obtain⟨e,I⟩:=Y6 I;subst e;have I:l=l':=I;subst I;obtain⟨d1,d2⟩:=Xc U a2;refine⟨_,rfl,by simp[gT],?_⟩;rintro⟨arr,e0,h1,h2,h3,h4,h0⟩;refine⟨arr,e0,h1,h2,?_,?_,h0⟩
   ·simp only[cE] at h3⊢
    rw[Zv U,d1];omega
   ·intro j R J
    obtain⟨s0,k1,k2⟩:=d2 j R J;obtain⟨v,k3,k4⟩:=h4 j s0 k1;obtain⟨q,p,y,_,_,_,hs⟩:=Y3 U th l J;exact⟨v,k3,enc hs (k2 _ _ _ k4)⟩
  ·exact I.elim
 ·obtain⟨rfl,hn⟩:=I
  exact⟨_,rfl,rfl,λhb=>Ykg (i:=0) U hb (λb p hb=>by omega) hn⟩
 ·exact I.elim
theorem Zg9:∀{I:List (Nat×Blk Y)} {b:Nat} {x:Blk Y},blOf I b=ae x->(b,x)∈I
 | [],b,x,h=>by cases h
 |(J,R)::r,b,x,h=>by
  have h:upd (blOf r) J (ae R) b=ae x:=h
  rw[Ze] at h
  split at h
  ·rename_i e;cases h;simp[e]
  ·exact aI _ (Zg9 h)
theorem Zwh{R:Nat->Option Nat} {h:Hp Y}:∀{U:List (Nat×Blk Y)},fitB E R h U->∀{b:Nat} {x:Blk Y},(b,x)∈U->∃c,R b=ae c/\leB E R (h c) x
 | [],_,b,x,I=>by cases I
 |(b0,x0)::r,hf,b,x,I=>by
  obtain⟨J,h2⟩:=hf
  rcases aH.1 I with e|I
  ·cases e
   split at J
   ·rename_i c hc;exact⟨c,hc,J⟩
   ·exact J.elim
  ·exact Zwh h2 I
theorem Zel{i ih M:Nat} {md:List Nat} {a0:Nat->Option Nat}:∀{R:List (Nat×Blk Y)} {seen:List Nat},Ztk i ih M md a0 R seen=ac->∀{b:Nat} {x:Blk Y},(b,x)∈R->b<ih/\∃c,a0 b=ae c/\c∉seen
 | [],_,_,b,x,I=>by cases I
 |(b0,x0)::r,seen,U,b,x,I=>by
  simp only[Ztk,aq] at U
  obtain⟨h1,J⟩:=U
  split at J
  ·rename_i c hc
   simp only[aq,bj] at J
   rcases aH.1 I with e|I
   ·cases e
    refine⟨Yq h1,c,hc,λI=> ?_⟩
    have:=memB_iff.2 I
    rw[this] at J;exact ka J.1.1 (by simp)
   ·obtain⟨k1,c',k2,k3⟩:=Zel J.2 I
    exact⟨k1,c',k2,λh=>k3 (aI _ h)⟩
  ·cases J
theorem Zpy{i ih M:Nat} {md:List Nat} {a1:Nat->Option Nat}:∀{bl:List (Nat×Blk Y)} {seen:List Nat},Ztk i ih M md a1 bl seen=ac->∀{b R c:Nat} {x x':Blk Y},(b,x)∈bl->(R,x')∈bl->a1 b=ae c->a1 R=ae c->b=R
 | [],_,_,b,R,c,x,x',J,_,_,_=>by cases J
 |(b0,x0)::r,seen,I,b,R,c,x,x',J,a0,h1,h2=>by
  simp only[Ztk,aq] at I
  obtain⟨_,I⟩:=I
  split at I
  ·rename_i c0 a2
   simp only[aq] at I
   rcases aH.1 J with e|J<;>rcases aH.1 a0 with e'|a0
   ·cases e;cases e';rfl
   ·cases e
    rw[a2] at h1;cases h1
    obtain⟨_,c',U,k3⟩:=Zel I.2 a0
    rw[h2] at U;cases U
    exact ka (bH) k3
   ·cases e'
    rw[a2] at h2;cases h2
    obtain⟨_,c',U,k3⟩:=Zel I.2 J
    rw[h1] at U;cases U
    exact ka (bH) k3
   ·exact Zpy I.2 J a0 h1 h2
  ·cases I
theorem Yhc(hE:EngOk E) {B i ih M:Nat} {md:List Nat} {σ σ':Pl} {h:Hp Y} {g:GH} {w:World} (U:Inv E B σ h g w) {a0:Nat->Option Nat} (a1:∀b c,a0 b=ae c->σ' b=σ c) (a3:∀b p,σ' b=ae p->∃c,σ c=ae p) {bl:List (Nat×Blk Y)} (hk:Ztk i ih M md a0 bl []=ac) (hf:fitB E a0 h bl):Inv E B σ' (blOf bl) g w:=by
 have at_:∀b x,blOf bl b=ae x->(b,x)∈bl/\∃c y,a0 b=ae c/\h c=ae y/\σ' b=σ c/\x.fzc E=y.fzc E/\∀r z,BlkOk E σ g w r z y->BlkOk E σ' g w r z x:=by
  intro b x R;have hm:=Zg9 R;obtain⟨c,h1,I⟩:=Zwh hf hm;obtain⟨y,J,h4,_⟩:=Z34 (σ:=σ) (σ':=σ') (g:=g) (w:=w) (r:=0) (z:=0) hE a1 I;refine⟨hm,c,y,h1,J,a1 _ _ h1,h4,λr z hb=> ?_⟩;obtain⟨y',a2,_,h5⟩:=Z34 (σ:=σ) (σ':=σ') (g:=g) (w:=w) (r:=r) (z:=z) hE a1 I;rw[J] at a2;cases a2;exact h5 hb
 refine⟨U.gc,U.gm,?_,?_,?_,?_,?_,U.glob⟩
 ·intro b x R
  obtain⟨_,c,y,h1,I,J,h4,h5⟩:=at_ b x R;obtain⟨r,z,k1,k2⟩:=U.blk c y I;exact⟨r,z,J.trans k1,h5 r z k2⟩
 ·intro b b' r z z' n1 n2 s1 s2
  obtain⟨x,R⟩:=aY.1 n1;obtain⟨x',a4⟩:=aY.1 n2;obtain⟨m1,c,y,h1,I,J,_⟩:=at_ b x R;obtain⟨m2,c',y',k1,k2,k3,_⟩:=at_ b' x' a4;have e:c=c':=U.inj c c' r z z' (by rw[I];simp) (by rw[k2];simp) (J▸s1) (k3▸s2);subst e;exact Zpy hk m1 m2 h1 k1
 ·intro b r z hs
  obtain⟨c,hc⟩:=a3 b _ hs;exact U.base c r z hc
 ·intro b x r z o v R hs hv
  obtain⟨_,c,y,h1,I,J,h4,h5⟩:=at_ b x R;rw[h4];exact U.fz c y r z o v I (J▸hs) hv
 ·intro b x r z R hs
  obtain⟨_,c,y,h1,I,J,h4,h5⟩:=at_ b x R;exact U.fm c y r z I (J▸hs)
theorem Z35(hE:EngOk E) {A:Ann Y} {i:Nat} {T:Fr Y} {h:Hp Y} {x:A.X} (hi:i<=A.ih) (hM:A.ih<=A.M) (R:fits E A i T h x) {B:Nat} {σ:Pl} {g:GH} {w:World} {a:Act} (hI:Inv E B σ h g w) (hF:FrOk E σ g T a):
 ∃σ',StpL i A.M A.md σ g w σ' g w/\Inv E B σ' (blOf (A.bl x)) g w/\FrOk E σ' g (frOf (A.fr x)) a/\(∀b,A.ih<=b->b<A.M->σ' b=au):=by
 unfold fits at R
 split at R
 ·rename_i hk
  rw[aq] at hk
  obtain⟨a5,a6⟩:=hk
  obtain⟨a3,a4⟩:=R
  obtain⟨r1,r2⟩:=Zpx a6
  have a2:∀b c,renO i T h (A.src x) b=ae c->renσ i A.M (renO i T h (A.src x)) σ b=σ c:=by
   intro b c J
   unfold renσ
   by_cases e:b<i
   ·rw[jM (.inl e)]
    rw[r1 b e] at J;cases J;rfl
   ·have:=(r2 b c (by omega) J).1
    rw[jJ (by omega),J]
  have a1:∀b,b<i\/A.M<=b->renσ i A.M (renO i T h (A.src x)) σ b=σ b:=λb U=>by unfold renσ;rw[jM U]
  have a0:∀b p,i<=b->b<A.M->renσ i A.M (renO i T h (A.src x)) σ b=ae p->∃c,b<A.ih/\((i<=c/\c<A.M)\/c∈A.md)/\σ c=ae p:=by
   intro b p h1 h2 I
   unfold renσ at I
   rw[jJ (by omega)] at I
   split at I
   ·rename_i c J
    obtain⟨k1,k2⟩:=r2 b c h1 J
    exact⟨c,k1,k2,I⟩
   ·cases I
  refine⟨renσ i A.M (renO i T h (A.src x)) σ,⟨a1,.refl _,λ_ _ _ h=> .inl h,λ_ _ h=> .inl h,λ_ _ _=>rfl,av _,rfl,rfl,rfl,?_⟩,Yhc hE hI a2 ?_ a5 a4,Zwg hE a2 hF a3,?_⟩
  ·rintro r ⟨b,z,U,hs⟩
   right
   by_cases c:i<=b/\b<A.M
   ·obtain⟨c',_,k2,k3⟩:=a0 b _ c.1 c.2 hs
    exact⟨c',z,k2.symm,k3⟩
   ·rw[a1 b (by omega)] at hs
    exact⟨b,z,U,hs⟩
  ·intro b p I
   by_cases c:i<=b/\b<A.M
   ·obtain⟨c',_,_,k3⟩:=a0 b _ c.1 c.2 I
    exact⟨c',k3⟩
   ·rw[a1 b (by omega)] at I
    exact⟨b,I⟩
  ·intro b h1 h2
   cases hq:renσ i A.M (renO i T h (A.src x)) σ b with
   |none=>rfl
   |some p=>
    obtain⟨c,k1,_⟩:=a0 b p (by omega) h2 hq
    omega
 ·exact R.elim
theorem Zwi{i:Nat} {h:Hp Y}:∀{R:List Nat},mdOk i h R=ac->∀{b:Nat},b∈R->b<i/\h b≠au
 | [],_,b,I=>by cases I
 |x::r,J,b,I=>by
  simp only[mdOk,aq] at J
  rcases aH.1 I with rfl|I
  ·refine⟨Yq J.1.1,λe=> ?_⟩
   rw[e] at J;simp at J
  ·exact Zwi J.2 I
theorem Zf0{i:Nat} {R:List Nat}:∀{ms:List Nat},Zek i R ms=ac->∀{b:Nat},b∈ms->i<=b\/b∈R
 | [],_,b,I=>by cases I
 |x::r,J,b,I=>by
  simp only[Zek,aq,bm,bu] at J
  rcases aH.1 I with rfl|I
  ·exact J.1.imp id memB_iff.1
  ·exact Zf0 J.2 I
theorem Zpz{i:Nat} {h:Hp Y}:∀{R:List (Nat×Blk Y)},Zgv i h R=ac->∀{b:Nat} {x:Blk Y},(b,x)∈R->i<=b\/h b≠au
 | [],_,b,x,I=>by cases I
 |(b0,x0)::r,J,b,x,I=>by
  simp only[Zgv,aq,bm,bu] at J
  rcases aH.1 I with e|I
  ·cases e
   refine J.1.imp id λU e=> ?_
   rw[e] at U;cases U
  ·exact Zpz J.2 I
theorem Zp0{A:Ann Y} {i:Nat} {T:Fr Y} {h:Hp Y} {x:A.X} (I:fits E A i T h x):DomLt (blOf (A.bl x)) A.ih:=by
 unfold fits at I;split at I
 ·rename_i J
  rw[aq] at J;intro b R;obtain⟨y,U⟩:=aY.1 R;exact(Zel J.1 (Zg9 U)).1
 ·exact I.elim
def Yhd(E:Eng Y) (N i M:Nat) (md:List Nat) (ih:Nat) (c:Code) (T:Fr Y) (h:Hp Y) (e:Exit) (U:Fr Y) (h':Hp Y):Prop:=
 ∃n,∀(B:Nat) (σ:Pl) (g:GH) (w:World) (a:Act) (Q:Exit->Act->World->Prop),Inv E B σ h g w->B<=w.heap.size->(∀b,ih<=b->b<M->σ b=au)->FrOk E σ g T a->a.tmps.size=N->
  (∀I R,(I.defers=a.defers/\I.tmps.size=N/\∃σ' J,StpL i M md σ g w σ' J R/\Inv E B σ' h' J R/\FrOk E σ' J U I)->Q e I R)->Code.rounds E.P c Q n a w
theorem Zwj(hE:EngOk E) (A0:Fr Y->Hp Y->Nat->Ann Y):LoopOk E (Z33 E A0):=by
 intro N c V hV T h i ms K hD hk;unfold Z33 at hk;split at hk
 ·exact hk.elim
 ·rename_i a5
  generalize A0 T h i=A at hk a5;simp only[aq,bu] at a5;obtain⟨⟨hi,hM⟩,c1⟩:=a5;obtain⟨R,c0,a6⟩:=hk;obtain⟨x0,b9,c6,b0⟩:=A.exOk _ c0;have a6:=A.alOk _ a6;have c8:∀(n:Nat) (x:A.X),A.meas x<n->R x->Zgv i h (A.bl x)=ac->DomLt (blOf (A.bl x)) A.ih->
   ∃e T' h',K e T' h' A.M (A.md++ms)/\Dom h i h' A.M/\Yhd E N i A.M A.md A.ih c (frOf (A.fr x)) (blOf (A.bl x)) e T' h':=by
   intro n
   induction n with
   |zero=>intro x hx;omega
   |succ n c7=>
    intro x hx hR c4 a8;obtain⟨e,T1,h1,i1,c9,I,d5,a3,⟨m,hm,b7⟩,t1⟩:=hV _ _ _ [] _ a8 (a6 x hR);rw[cG] at hm;subst hm;split at I
    ·rename_i a7
     rw[aq,bu] at a7;obtain⟨b3,c2⟩:=a7;have c3:∀b∈c9,b∈A.md\/(i<=b/\b<A.M):=by
      intro b J;rcases Zf0 c2 J with h2|h2
      ·refine .inr ⟨h2,?_⟩
       rcases b7 b J with h3|h3
       ·have:=a8 b h3;omega
       ·omega
      ·exact .inl h2
     have one:∀(B:Nat) (σ:Pl) (g:GH) (w:World) (a:Act) (Q:Exit->Act->World->Prop),Inv E B σ (blOf (A.bl x)) g w->B<=w.heap.size->(∀b,A.ih<=b->b<A.M->σ b=au)->FrOk E σ g (frOf (A.fr x)) a->a.tmps.size=N->
      (∀U w',(U.defers=a.defers/\U.tmps.size=N/\∃σ' a0,StpL i A.M A.md σ g w σ' a0 w'/\Inv E B σ' h1 a0 w'/\FrOk E σ' a0 T1 U)->Q e U w')->c.wp E.P Q a w:=by
      intro B σ g w a Q hI hB a2 hF hN hQ;refine t1 B σ g w a Q hI hB (λb k1 k2=>a2 b k1 (by omega)) hF hN ?_;rintro U w' ⟨k1,k2,σ',a0,k3,k4,k5⟩;exact hQ U w' ⟨k1,k2,σ',a0,StpL.of k3 hi (by omega) c3,k4,k5⟩
     rcases Zts I with⟨rfl,I⟩|⟨he,I⟩
     ·obtain⟨d4,bz,I,z1,z2,z3⟩:=Zxh hE I
      split at I
      case h_2=>exact I.elim
      rename_i a4;have a4:∀b∈bz,b∈A.md\/(i<=b/\b<A.M):=by
       intro b J;rcases Zf0 a4 J with h2|h2
       ·exact .inr ⟨h2,ck (a3.1 b (z2 b J)) b3⟩
       ·exact .inl h2
      obtain⟨x',b8,d6,c5,a9⟩:=A.exOk _ I;obtain⟨e2,T2,h2,b6,b4,n2,t2⟩:=c7 x' (by omega) b8 c5 (Zp0 a9);refine⟨e2,T2,h2,b6,b4,n2+1,λB σ g w a Q hI hB a2 hF hN hQ=> ?_⟩;rw[rounds_succ];refine one B σ g w a _ hI hB a2 hF hN ?_;rintro a1 w1 ⟨k1,k2,σ1,g1,k3,k4,k5⟩;obtain⟨gz,zl,zI,zc,zo⟩:=z3 B σ1 g1 w1 k4;have zS:StpL i A.M A.md σ1 g1 w1 σ1 gz w1:=⟨λ_ _=>rfl,zl,λr o v hv=>(zc r o v hv).imp id λ⟨b,b1,z,b2⟩=> .inr ⟨b,z,a4 b b1,b2⟩,λr es hv=>by rw[zo] at hv;exact .inl hv,λ_ _ _=>rfl,av _,rfl,rfl,rfl,λr ho=> .inr ho⟩
      obtain⟨σ2,l1,l2,l3,l4⟩:=Z35 hE hi hM a9 zI (k5.mono (.refl _) zl);refine t2 B σ2 gz w1 a1 Q l2 (bS hB k3.size) l4 l3 k2 ?_;rintro U w' ⟨q1,q2,σ',a0,q3,q4,q5⟩;exact hQ U w' ⟨q1.trans k1,q2,σ',a0,((k3.trans zS).trans l1).trans q3,q4,q5⟩
     ·refine⟨e,T1,h1,I,⟨λb J=>ck (a3.1 b J) b3,λb J=> ?_⟩,1,λB σ g w a Q hI hB a2 hF hN hQ=> ?_⟩
      ·rcases a3.2 b J with k|k
       ·obtain⟨y,hy⟩:=aY.1 k
        exact(Zpz c4 (Zg9 hy)).symm
       ·right;omega
      ·rw[rounds_succ]
       refine one B σ g w a _ hI hB a2 hF hN ?_;intro a1 w1 hA;have:=hQ a1 w1 hA;cases e<;>first|exact this|exact ka rfl he
    ·exact I.elim
  obtain⟨e,T',h',I,b5,nr,t⟩:=c8 (A.meas x0+1) x0 (by omega) b9 c6 (Zp0 b0);refine⟨e,T',h',A.M,A.md++ms,I,by omega,b5,⟨A.md,rfl,λb J=> .inl (Zwi c1 J).2⟩,?_⟩;intro B σ g w a Q hI hB a2 hF hN hQ;refine wp_loop_rounds nr ?_;obtain⟨σ2,l1,l2,l3,l4⟩:=Z35 hE hi hM b0 hI hF;refine t B σ2 g w a Q l2 hB l4 l3 hN ?_;rintro U w' ⟨q1,q2,σ',a0,q3,q4,q5⟩;exact hQ U w' ⟨q1,q2,σ',a0,(l1.trans q3).to (by omega) a2,q4,q5⟩
end
end
section
open Go.RowKit
section
variable {Y:Thy} {E:Eng Y} {F:Fns Y}
def PureC(E:Eng Y) (f:FuncId) (args:List (SV Y)) (v:SV Y):Prop:=
 ∀(g:GH) (w:World) (J:Array Value),Inv E w.heap.size σ0 hp0 g w->DenL E σ0 g args J.toList->
  Calls E.P f J w λU R=>∃u,U= .returned u/\∃I,Stp 0 0 [] σ0 g w σ0 I R/\Inv E w.heap.size σ0 hp0 I R/\Den E σ0 I v u
theorem Zx7{B B':Nat} {σ:Pl} {h:Hp Y} {g:GH} {w:World} (J:Inv E B σ h g w):Inv E B' σ0 hp0 g w:=
 ⟨J.gc,J.gm,(λb x I=>by cases I),λb b' r z z' R=>ka rfl R,(λb r z U=>by cases U),(λb x r z o v I=>by cases I),(λb x r z I=>by cases I),J.glob⟩
theorem PureC.tri(hE:EngOk E) {f:FuncId} {args:List (SV Y)} {v:SV Y} (hp:PureC E f args v) (ha:nidL 0 args=ac) (h:Hp Y) (i:Nat):ROk h (quiet [] v)/\Vi E f args h i (quiet [] v):=by
 refine⟨λb hb=>by simp[quiet] at hb,?_⟩;intro B σ g w a2 hh _ R hB _ hd;have a3:DenL E σ0 g args a2.toList:=⟨hd.1,λj sv u I h2=>Zy hE (i:=0) (hd.2 j sv u I h2) (λb p hb=>by omega) (Zs ha I)⟩;refine(hp g w a2 (Zx7 R) a3).mono ?_;rintro en w' ⟨u,he,g',J,a0,hv⟩;have a1:∀r,r<w.heap.size->w'.heap[r]? =w.heap[r]? :=λr hr=>J.heap r hr (by simp);refine⟨u,he,σ,g',⟨.refl _,λb p h=> .inl h,J.gle,λr o v hv=> ?_,J.gmnew,λr hr _=>a1 r hr,J.size,J.os,J.tape,J.output,λb r z I h2=>by rw[I] at h2;cases h2⟩,?_,hv.mono (λb p h=>by cases h) (.refl _)⟩
 ·rcases J.gcnew r o v hv with I|I|⟨b,I,_⟩
  ·exact .inl I
  ·exact .inr (.inl I)
  ·simp at I
 ·rw[Y4]
  refine⟨a0.gc,a0.gm,?_,R.inj,λb r z U=>⟨(R.base b r z U).1,ck (R.base b r z U).2 J.size⟩,?_,?_,a0.glob⟩
  ·intro b x hx
   obtain⟨r,z,I,h2⟩:=R.blk b x hx;exact⟨r,z,I,h2.mono (.refl _) J.gle (a1 r (R.base b r z I).2)⟩
  ·intro b x r z o v hx U hv
   rcases J.gcnew r o v hv with I|I|⟨b',I,_⟩
   ·exact R.fz b x r z o v hx U I
   ·have:=(R.base b r z U).2;omega
   ·simp at I
  ·intro b x r z hx U
   cases hg:g'.obj r with
   |none=>rfl
   |some es=>
    rcases J.gmnew r es hg with I|I
    ·rw[R.fm b x r z hx U] at I;cases I
    ·have:=(R.base b r z U).2;omega
theorem PureC.tri2(I:EngOk E) {f:FuncId} {args:List (SV Y)} {v:SV Y} (R:PureC E f args v) (J:nidL 0 args=ac) (h:Hp Y) (i:Nat):ROk h (quiet [] v)/\CallTri2 E f args h i (quiet [] v):=(R.tri I J h i).imp id .inl
def ret0(E:Eng Y) (h:Hp Y) (v I:SV Y):Prop:=
 match I,v with
 | .psl R J ab,.sl b off len w c=>Zr6 E h R (.sl b off len w c) λ_ l _=>l=J
 |I,v=>le0 (λ_=>au) v I
def retL(E:Eng Y) (h:Hp Y):List (SV Y)->List (SV Y)->Prop
 | [],[]=>True
 |x::r,x'::r'=>ret0 E h x x'/\retL E h r r'
 |_,_=>False
def ret1(E:Eng Y) (h:Hp Y) (v I:SV Y):Prop:=
 match I,v with
 | .agg J,.agg cs=>retL E h cs J
 |I,v=>ret0 E h v I
def Ykj(E:Eng Y) (h:Hp Y):List (SV Y)->List (SV Y)->Prop
 | [],[]=>True
 |x::r,x'::r'=>ret1 E h x x'/\Ykj E h r r'
 |_,_=>False
def ret'(E:Eng Y) (h:Hp Y) (v I:SV Y):Prop:=
 match I,v with
 | .tup J,.tup cs=>Ykj E h cs J
 |I,v=>ret1 E h v I
def ret(E:Eng Y) (h:Hp Y) (v I:SV Y):Prop:=
 match Za8 v with
 |some _=>False
 |none=>ret' E h v I
theorem CallTri2.ret{f:FuncId} {args:List (SV Y)} {h R:Hp Y} {i:Nat} {r:Res Y} {v:SV Y} (I:CallTri2 E f args h i r) (J:ret E R r.v v):Vi E f args h i r:=by
 rcases I with I|⟨p,U,_⟩
 ·exact I
 ·rw[U] at J;exact J.elim
def allG(g:GH) (n:Nat) (w:World):GH :=
  { cell:=λr o=>if n<=r then w.cell? ⟨r,o,au⟩ else g.cell r o
    obj:=λr=>if n<=r then(match w.heap[r]? with | some (.map I _)=>ae I | _=>au) else g.obj r }
theorem Zdy{n:Nat} {g:GH} {w:World} {σ:Pl} {h:Hp Y} {B:Nat} (J:Inv E B σ h g w):g.le (allG g n w):=by
  refine⟨λr o v I=>?_,λr R I=>?_⟩
  ·show(if n<=r then _ else _)=_
   split
   ·exact J.gc r o v I
   ·exact I
  ·show(if n<=r then _ else _)=_
   split
   ·obtain⟨c,U⟩:=J.gm r R I
    rw[U]
   ·exact I
theorem Zho{n:Nat} {g:GH} {w:World} {σ:Pl} {h:Hp Y} {B B':Nat} (R:Inv E B σ h g w):Inv E B' σ0 hp0 (allG g n w) w:=by
  refine⟨λr o v I=>?_,λr es I=>?_,(λb x J=>by cases J),λb b' r z z' U=>ka rfl U,(λb r z hs=>by cases hs),(λb x r z o v J=>by cases J),(λb x r z J=>by cases J),λm sv hm=>?_⟩
  ·have I:(if n<=r then w.cell? ⟨r,o,au⟩ else g.cell r o)=ae v:=I
   split at I
   ·exact I
   ·exact R.gc r o v I
  ·have I:(if n<=r then(match w.heap[r]? with | some (.map es _)=>ae es | _=>au) else g.obj r)=ae es:=I
   split at I
   ·split at I
    ·rename_i es' c hc
     cases I;exact⟨c,hc⟩
    ·cases I
   ·exact R.gm r es I
  ·intro j s hj
   obtain⟨v,U,h2⟩:=R.glob m sv hm j s hj;have a0:=Zdy (n:=n) R;exact⟨v,a0.c _ _ _ U,h2.mono (.refl _) a0⟩
theorem Zx8(I:EngOk E) {B n:Nat} {σ:Pl} {h:Hp Y} {g:GH} {w:World} (hI:Inv E B σ h g w) (hn:n<=B) {v v':SV Y} {u:Value} (hr:ret0 E h v v') (hd:Den E σ g v u):Den E σ0 (allG g n w) v' u:=by
 have a2:=Zdy (n:=n) hI;unfold ret0 at hr;split at hr
 ·rename_i th' l' b off len w' c
  obtain⟨lit,l,rd,hk,hc⟩:=Zeq I hr;have hk:l=l':=hk;subst hk;obtain⟨base,cc,us,C⟩:=hc h σ g w B u (λ_ _=>rfl) hI hd;obtain⟨r,z,c1,e1,a4,_⟩:=Vc hd;have e2:=C.v;rw[e1] at e2;injection e2 with e3 e4 e5
  rw[e1,e4,e5];have a5:=I.pos th';have a0:∀q x,l[q]? =ae x->∀j,j<E.w th'->∃y,us[q*E.w th'+j]? =ae y:=by
   intro q x R j J;have a3:q<l.length:=(ai.1 R).1;have:(q+1)*E.w th'<=l.length*E.w th':=bb _ a3;rw[cp] at this;exact⟨_,ao (by rw[C.len];omega)⟩
  refine .psl (λq j=>us.getD (q*E.w th'+j) undef) C.le C.mx (by simp) (λe=>C.nil (e3▸e)) (λhp=>⟨r,off*w',rfl,?_⟩) ?_
  ·intro q x R j J
   rw[I.enc] at J;obtain⟨y,U⟩:=a0 q x R j J;have:=C.cell r (off*w') e3.symm _ y U;show(if n<=r then _ else _)=_;rw[jM (bS hn (hI.base b r z a4).1),bN,U,dH];exact this
  ·intro q x R j sv J
   have a1:j<E.w th':=by rw[<-I.enc th' x];exact(ai.1 J).1
   obtain⟨y,U⟩:=a0 q x R j a1;rw[bN,U];have:=C.den (q*E.w th'+j) sv y (by rw[Y7 I th' l q x R j a1];exact J) U;exact(Zy I (i:=0) (σ':=σ0) this (λb p hb=>by omega) (Zs (I.encI _ _ _) J)).mono (.refl _) a2
 ·exact(Zm7 I (σ':=σ0) (λb c hc=>by cases hc) hr hd).mono (.refl _) a2
theorem Zx9{h:Hp Y}:∀{cs J:List (SV Y)},retL E h cs J->cs.length=J.length/\∀(j:Nat) I,J[j]? =ae I->∃U,cs[j]? =ae U/\ret0 E h U I
 | [],[],_=>⟨rfl,λj U h=>by simp at h⟩
 |x::r,x'::r',hr=>by
  obtain⟨h1,h2⟩:=hr
  obtain⟨k1,k2⟩:=Zx9 h2
  refine⟨by simp[k1],λj I R=> ?_⟩
  cases j with
  |zero=>simp at R;subst R;exact⟨x,rfl,h1⟩
  |succ j=>exact k2 j I (by simpa using R)
 | [],_::_,h=>h.elim
 |_::_,[],h=>h.elim
theorem Zya(J:EngOk E) {B n:Nat} {σ:Pl} {h:Hp Y} {g:GH} {w:World} (R:Inv E B σ h g w) (hn:n<=B) {v v':SV Y} {u:Value} (I:ret1 E h v v') (hd:Den E σ g v u):Den E σ0 (allG g n w) v' u:=by
 unfold ret1 at I;split at I
 ·obtain⟨arr,c,rfl,hs,hc,hd⟩:=Yk hd
  obtain⟨e,hg⟩:=Zx9 I;refine .agg c (by omega) (λj U=>hc j (by omega)) λj sv U=> ?_;obtain⟨sv0,h1,h2⟩:=hg j sv U;exact Zx8 J R hn h2 (hd j sv0 h1)
 ·exact Zx8 J R hn I hd
theorem Zrv{h:Hp Y}:∀{cs J:List (SV Y)},Ykj E h cs J->cs.length=J.length/\∀(j:Nat) I,J[j]? =ae I->∃U,cs[j]? =ae U/\ret1 E h U I
 | [],[],_=>⟨rfl,λj U h=>by simp at h⟩
 |x::r,x'::r',hr=>by
  obtain⟨h1,h2⟩:=hr
  obtain⟨k1,k2⟩:=Zrv h2
  refine⟨by simp[k1],λj I R=> ?_⟩
  cases j with
  |zero=>simp at R;subst R;exact⟨x,rfl,h1⟩
  |succ j=>exact k2 j I (by simpa using R)
 | [],_::_,h=>h.elim
 |_::_,[],h=>h.elim
theorem Ykk(J:EngOk E) {B n:Nat} {σ:Pl} {h:Hp Y} {g:GH} {w:World} (R:Inv E B σ h g w) (hn:n<=B) {v v':SV Y} {u:Value} (I:ret E h v v') (hd:Den E σ g v u):Den E σ0 (allG g n w) v' u:=by
 unfold ret at I;split at I
 ·exact I.elim
 unfold ret' at I;split at I
 ·obtain⟨arr,c,rfl,hs,hc,hd⟩:=Znx hd
  obtain⟨e,hg⟩:=Zrv I;refine .tup c (by omega) (λj U=>hc j (by omega)) λj sv U=> ?_;obtain⟨sv0,h1,h2⟩:=hg j sv U;exact Zya J R hn h2 (hd j sv0 h1)
 ·exact Zya J R hn I hd
theorem Za(hE:EngOk E) {call:Nat->List (SV Y)->Hp Y->Nat->(Res Y->Prop)->Prop} (a2:Vb E call) {f:Nat} {args:List (SV Y)} {v:SV Y} (hk:call f args hp0 0 λr=>ret E (patch hp0 0 r) r.v v):PureC E f args v:=by
  obtain⟨r,hr,hR,a1⟩:=a2 f args hp0 0 _ (λb U=>ka rfl U) hk;have a1:=a1.ret hr;intro g w a4 hI hd;refine(a1 w.heap.size σ0 g w a4 hp0 (λ_ _=>rfl) hI (av _) (λ_ _ _=>rfl) hd).mono ?_;rintro en w' ⟨u,he,σ',g',R,a0,I⟩;have hm:∀ b,b ∉ r.mods:=λb U=>hR b U rfl;have a3:=Zdy (n:=w.heap.size) a0;have a5:Inv E w.heap.size σ' (patch hp0 0 r) g' w':=a0;refine⟨u,he,allG g' w.heap.size w',⟨.refl _,λb p h=>.inl h,R.gle.trans a3,λq o v I=>?_,λq es I=>?_,λq hq _=>R.heap q hq (λb U=>ka U (hm b)),R.size,R.os,R.tape,R.output,(λb q z J h2=>by cases h2)⟩,Zho a0,?_⟩
  ·have I:(if w.heap.size<=q then w'.cell? ⟨q,o,au⟩ else g'.cell q o)=ae v:=I
   split at I
   ·exact .inr (.inl ‹_›)
   ·rcases R.gcnew q o v I with J | J | ⟨b,J,_⟩
    ·exact .inl J
    ·exact .inr (.inl J)
    ·exact ka J (hm b)
  ·have I:(if w.heap.size<=q then(match w'.heap[q]? with | some (.map es _)=>ae es | _=>au) else g'.obj q)=ae es:=I
   split at I
   ·exact .inr ‹_›
   ·rcases R.gmnew q es I with J | J
    ·exact .inl J
    ·exact .inr J
  ·exact Ykk hE a0 (av _) hr I
theorem Zoj(hE:EngOk E) {call:Nat->List (SV Y)->Hp Y->Nat->(Res Y->Prop)->Prop} (a0:Vb E call) {f:Nat} {args:List (SV Y)} {v:SV Y} {K:Res Y->Prop} (hK:∀r,K r->ret E (patch hp0 0 r) r.v v) (hk:call f args hp0 0 K):PureC E f args v:=by
 obtain⟨r,hr,hR,a2⟩:=a0 f args hp0 0 _ (λb hb=>ka rfl hb) hk;exact Za hE (call:=λR J I U k'=>∃r,k' r/\ROk I r/\CallTri2 E R J I U r) (λR J I U k' _ a1=>a1) ⟨r,hK r hr,hR,a2⟩
def Z1f:SV Y->SV Y
 | .int _ k n=> .int ab k n
 | .bool _ b=> .bool ab b
 | .str _ s=> .str ab s
 |v=>v
theorem Z8k{σ:Pl} {g:GH} {v:SV Y} {u:Value} (h:Den E σ g v u):Den E σ g (Z1f v) u:=by
 cases v
 case int l k n=>cases h;exact .int _ _ _
 case bool l b=>cases h;exact .bool _ _
 case str l s=>cases h;exact .str _ ‹_›
 all_goals exact h
end
end
section
open Go.RowKit
inductive Tr(α:Type) where
 |nil
 |leaf (n:Nat) (a:α)
 |node (k:Nat) (l r:Tr α)
noncomputable def Tr.get{α:Type} (t:Tr α) (n:Nat):Option α:=
 Tr.rec (motive:=λ_=>Option α) au (λm a=> @jr (λ_=>Option α) au (ae a) (aO n m)) (λk _ _ I J=> @jr (λ_=>Option α) I J (bP k n)) t
def Tr.All{α:Type} (p:Nat->α->Prop):Tr α->Prop
 | .nil=>True
 | .leaf n a=>p n a
 | .node _ l r=>l.All p/\r.All p
theorem Tr.get_all{α:Type} {p:Nat->α->Prop}:∀{t:Tr α} {n:Nat} {a:α},t.All p->t.get n=ae a->p n a
 | .nil,n,a,_,h=>by cases h
 | .leaf m b,n,a,J,h=>by
  have h:(@jr (λ_=>Option α) au (ae b) (aO n m))=ae a:=h
  cases I:aO n m with
  |true=>rw[I] at h;cases h;rw[ax I];exact J
  |false=>rw[I] at h;cases h
 | .node k l r,n,a,J,h=>by
  have h:(@jr (λ_=>Option α) (l.get n) (r.get n) (bP k n))=ae a:=h
  cases I:bP k n with
  |true=>rw[I] at h;exact Tr.get_all J.2 h
  |false=>rw[I] at h;exact Tr.get_all J.1 h
def TyOk(P:Program) (t:Nat) (i:TyI):Prop:=P.underlying t=ae i.d/\(P.info? t).map (λj=>(j.size,j.bytes,j.zero))=ae (i.size,i.bytes,ae i.zero)
theorem TyOk.ty{P:Program} {t:Nat} {i:TyI} (h:TyOk P t i):P.underlying t=ae i.d/\∃info,P.info? t=ae info/\info.size=i.size/\info.bytes=i.bytes/\info.zero=ae i.zero:=by
 obtain⟨J,R⟩:=h;obtain⟨info,U,I⟩:=br.1 R;simp only[fi] at I;exact⟨J,info,U,I.1,I.2.1,I.2.2⟩
def FnOk(P:Program) (f:Nat) (fn:Func):Prop:=P.funcs[f]? =ae fn/\fn.body.isSome=ac/\(fn.name== "runtime.NumGoroutine")=ab
theorem FnOk.good{P:Program} {f:Nat} {fn:Func} (h:FnOk P f fn):FnGood P f:=⟨fn,h.1,h.2.1,h.2.2⟩
section
variable {Y:Thy} {E:Eng Y}
structure SumOk(E:Eng Y) (f:Nat) (S:Sum Y):Prop where
 good:FnGood E.P f
 ok:∀args h i k,DomLt h i->S args h i k->∃r,k r/\ROk h r/\CallTri2 E f args h i r
end
end
section
open Go.RowKit
def Ext(w I:World):Prop:=Below w.heap.size w I
theorem Ext.size{w I:World} (h:Ext w I):w.heap.size<=I.heap.size:=Below.size h
theorem Ext.cell{w J:World} (h:Ext w J) {p:Addr} {v:Value} (I:w.cell? p=ae v):J.cell? p=ae v:=
 (Below.cell h (block_lt_of_cell I)).trans I
theorem Ext.block{w I:World} (h:Ext w I) {k:Nat} (J:k<w.heap.size):I.heap[k]? =w.heap[k]? :=Below.block h k J
end
section
open Go.RowKit
section
variable {Y:Thy} {E:Eng Y}
structure Dc(E:Eng Y) (α:Type) where
 dec:SV Y->Option α
 enc:α->SV Y
 ok:∀v a,dec v=ae a->nid 0 v=ac/\leaf v=leaf (enc a)/\∀σ g u,Den E σ g v u->Den E σ g (enc a) u
structure DcL(E:Eng Y) (α:Type) where
 dec:List (SV Y)->Option α
 enc:α->List (SV Y)
 ok:∀vs a,dec vs=ae a->nidL 0 vs=ac/\vs.length=(enc a).length/\∀σ g (j:Nat) sv',(enc a)[j]? =ae sv'->∃sv,vs[j]? =ae sv/\∀u,Den E σ g sv u->Den E σ g sv' u
def DcL.nil:DcL E Unit where
 dec vs:=match vs with| []=>ae ()|_=>au
 enc _:= []
 ok vs a h:=by
  split at h
  ·exact⟨rfl,rfl,λσ g j J I=>by simp at I⟩
  ·cases h
def DcL.cons{α J:Type} (d:Dc E α) (r:DcL E J):DcL E (α×J) where
 dec vs:=match vs with|x::xs=>(match d.dec x with|some a=>(match r.dec xs with|some b=>ae (a,b)|none=>au)|none=>au)| []=>au
 enc a:=d.enc a.1::r.enc a.2
 ok vs a h:=by
  split at h
  ·rename_i x xs
   split at h
   ·rename_i a1 R
    split at h
    ·rename_i b1 U
     cases h
     obtain⟨k1,k2,k3⟩:=d.ok _ _ R
     obtain⟨l1,l2,l3⟩:=r.ok _ _ U
     refine⟨by simp[nidL,k1,l1],by simp[l2],λσ g j a0 I=> ?_⟩
     cases j with
     |zero=>simp at I;subst I;exact⟨x,rfl,k3 σ g⟩
     |succ j=>exact l3 σ g j a0 (by simpa using I)
    ·cases h
   ·cases h
  ·cases h
def dInt(k:IntKind):Dc E Int where
 dec v:=match v with| .int _ I n=>(match decide (I=k) with|true=>ae n|false=>au)|_=>au
 enc n:= .int ab k n
 ok v a h:=by
  split at h
  ·split at h
   ·rename_i e
    cases h
    obtain rfl:=jk e
    exact⟨rfl,rfl,λσ g u hd=>by cases hd;exact .int _ _ _⟩
   ·cases h
  ·cases h
def Yoi:Dc E Bool where
 dec v:=match v with| .bool _ b=>ae b|_=>au
 enc b:= .bool ab b
 ok v a h:=by
  split at h
  ·cases h
   exact⟨rfl,rfl,λσ g u hd=>by cases hd;exact .bool _ _⟩
  ·cases h
def dStr:Dc E (List Nat) where
 dec v:=match v with| .str _ b=>ae b|_=>au
 enc b:= .str ab b
 ok v a h:=by
  split at h
  ·cases h
   exact⟨rfl,rfl,λσ g u hd=>by cases hd;exact .str _ ‹_›⟩
  ·cases h
def Z85{I th:Y.Th} (l:List (Y.dom I)):Option (List (Y.dom th)):=
 match Y.eq I th with
 |isTrue e=>Eq.rec (motive:=λt _=>Option (List (Y.dom t))) (ae l) e
 |isFalse _=>au
theorem Zvq{J th:Y.Th} {l:List (Y.dom J)} {I:List (Y.dom th)} (h:Z85 l=ae I):∃e:J=th,I=e▸l:=by
 unfold Z85 at h;split at h
 ·rename_i e _
  subst e;exact⟨rfl,(bd h).symm⟩
 ·cases h
def Zfr(th:Y.Th):Dc E (List (Y.dom th)) where
 dec v:=match v with| .psl a0 l _=>Z85 l| .val (.slice au 0 0)=>ae []|_=>au
 enc l:= .psl th l ab
 ok v a h:=by
  split at h
  ·obtain⟨e,rfl⟩:=Zvq h
   subst e
   refine⟨rfl,rfl,λσ g u hd=> ?_⟩
   obtain⟨base,c,I,rfl,J,R,h3,U,h5,h6⟩:=V2 hd
   exact .psl I J R (by simp) U h5 h6
  ·cases h
   refine⟨rfl,rfl,λσ g u hd=> ?_⟩
   cases hd
   exact .psl (l:= []) (λ_ _=>undef) (av _) (by unfold maxLen;omega) (by simp) (λ_=>rfl) (by simp) (by simp)
  ·cases h
def dAgg{α:Type} (r:DcL E α):Dc E α where
 dec v:=match v with| .agg cs=>r.dec cs|_=>au
 enc a:= .agg (r.enc a)
 ok v a h:=by
  split at h
  ·obtain⟨k1,k2,k3⟩:=r.ok _ _ h
   refine⟨by simpa[nid] using k1,rfl,λσ g u hd=> ?_⟩
   obtain⟨arr,c,rfl,hs,U,hd⟩:=Yk hd
   refine .agg c (by omega) (λj I=>U j (by omega)) λj a0 I=> ?_
   obtain⟨sv,J,R⟩:=k3 σ g j a0 I
   exact R _ (hd j sv J)
  ·cases h
def Dc.map{α I:Type} (r:Dc E α) (f:α->I) (e:I->α) (R:∀a,e (f a)=a):Dc E I where
 dec v:=match r.dec v with|some a=>ae (f a)|none=>au
 enc b:=r.enc (e b)
 ok v b h:=by
  split at h
  ·rename_i a J
   cases h
   rw[R]
   exact r.ok _ _ J
  ·cases h
def sumP{α:Type} (d:DcL E α) (pre:α->Prop) (f:α->SV Y):Sum Y:=λargs _ _ k=>match d.dec args with|some x=>pre x/\k (quiet [] (f x))|none=>False
theorem PureC.of_dec{α:Type} {d:DcL E α} {f:FuncId} {args:List (SV Y)} {x:α} {v:SV Y} (hd:d.dec args=ae x) (h:PureC E f (d.enc x) v):PureC E f args v:=by
 obtain⟨k1,k2,k3⟩:=d.ok _ _ hd;intro g w a1 hI I;refine h g w a1 hI ⟨k2.symm.trans I.1,λj a0 u J R=> ?_⟩;obtain⟨sv,U,h4⟩:=k3 σ0 g j a0 J;exact h4 u (I.2 j sv u U R)
theorem Yo(R:EngOk E) {α:Type} {f:Nat} (U:FnGood E.P f) {d:DcL E α} {pre:α->Prop} {v:α->SV Y} (hp:∀x,pre x->PureC E f (d.enc x) (v x)):SumOk E f (sumP d pre v):=by
 refine⟨U,λargs h i k hD I=> ?_⟩;unfold sumP at I;split at I
 ·rename_i x J
  obtain⟨a0,I⟩:=I;exact⟨_,I,(PureC.of_dec J (hp x a0)).tri2 R (d.ok _ _ J).1 h i⟩
 ·exact I.elim
def addS(F:Fns Y) (f:Nat) (S:Sum Y):Fns Y:={sums:=λg=>match aO g f with|true=>ae S|false=>F.sums g,fns:=F.fns,loops:=F.loops,defs:=F.defs}
def addL(F:Fns Y) (f j:Nat) (A:Fr Y->Hp Y->Nat->Ann Y) (E:Eng Y):Fns Y:={sums:=F.sums,fns:=F.fns,loops:=λg k=>match aO g f&&aO k j with|true=>ae (Z33 E A)|false=>F.loops g k,defs:=F.defs}
theorem Zb{F:Fns Y} (I:FnsOk E F) {f:Nat} {S:Sum Y} (J:SumOk E f S):FnsOk E (addS F f S):=by
 have key:∀g S',(addS F f S).sums g=ae S'->(g=f/\S'=S)\/F.sums g=ae S':=by
  intro g S' h;have h:(match aO g f with|true=>ae S|false=>F.sums g)=ae S':=h;split at h
  ·rename_i e
   cases h;exact .inl ⟨ax e,rfl⟩
  ·exact .inr h
 refine⟨λg S' h=> ?_,I.fnG,λg S' h=> ?_,I.fn,I.loop⟩
 ·rcases key g S' h with⟨rfl,rfl⟩|h
  ·exact J.good
  ·exact I.sumG g S' h
 ·rcases key g S' h with⟨rfl,rfl⟩|h
  ·exact J.ok
  ·exact I.sum g S' h
theorem Zm(J:EngOk E) {F:Fns Y} (I:FnsOk E F) (f j:Nat) (A:Fr Y->Hp Y->Nat->Ann Y):FnsOk E (addL F f j A E):=by
 refine⟨I.sumG,I.fnG,I.sum,I.fn,λg k L h=> ?_⟩;have h:(match aO g f&&aO k j with|true=>ae (Z33 E A)|false=>F.loops g k)=ae L:=h;split at h
 ·cases h
  exact Zwj J A
 ·exact I.loop g k L h
theorem Zd(I:EngOk E) {F:Fns Y} (J:FnsOk E F) (n:Nat):Vb E (Zk E F (vc E F n)):=Xs I J λf N c=>(Zgx I J n f N c).1
structure JR(P:(Bool->Prop)->Prop) (e:Bool):Prop where
 ok:∀Q:Bool->Prop,Q e->P Q
theorem Z2q(b:Bool):JR (λQ=>Q b) b:=⟨λQ h=>h⟩
theorem Ydt{a R U:Bool} {I J:(Bool->Prop)->Prop} (h1:a=ac->JR I R) (h2:a=ab->JR J U):JR (λQ=>(a=ac->I Q)/\(a=ab->J Q)) (bif a then R else U):=by
 refine⟨λQ h=> ?_⟩;cases a
 ·exact⟨λe=>by simp at e,λ_=>(h2 rfl).ok Q h⟩
 ·exact⟨λ_=>(h1 rfl).ok Q h,λe=>by simp at e⟩
theorem Ydu{P:(Bool->Prop)->Prop} {e:Bool} {J I:Prop} (R:JR P e) (U:e=ac->J) (h3:e=ab->I):∃Q:Bool->Prop,P Q/\(Q ac->J)/\(Q ab->I):=
 ⟨λb=>e=b,R.ok _ rfl,U,h3⟩
theorem Yl{a b:Bool}:(bif a then ac else b)=(a||b):=by cases a<;>rfl
theorem Ya{a b:Bool}:(bif a then b else ab)=(a&&b):=by cases a<;>rfl
theorem Wu{a b:Bool}:(bif a then ab else b)=(!a&&b):=by cases a<;>rfl
theorem Wv{a:Bool}:(bif a then ac else ab)=a:=by cases a<;>rfl
theorem Ww{a:Bool}:(bif a then ab else ac)= !a:=by cases a<;>rfl
theorem Y2(a b:Int):mm2 ac a b=max a b:=by unfold mm2;simp only[];split<;>omega
theorem Yv(a b:Int):mm2 ab a b=min a b:=by unfold mm2;simp only[];split<;>omega
theorem wr64{n:Int} (I: -9223372036854775808<=n) (J:n<=9223372036854775807):wr .i64 n=n:=by simp only[wr,IntKind.wrap_i64];omega
theorem U7{f:FuncId} {args:List (SV Y)} {v:SV Y} (h:∀(g:GH) (w:World) (J:Array Value),DenL E σ0 g args J.toList->Calls E.P f J w λen w'=>∃u,en= .returned u/\Den E σ0 g v u/\Ext w w'):PureC E f args v:=by
 intro g w J R hd;refine(h g w J hd).mono ?_;rintro en w' ⟨u,he,hv,I⟩;refine⟨u,he,g,⟨.refl _,λb p h=> .inl h,.refl _,λ_ _ _ h=> .inl h,λ_ _ h=> .inl h,λr hr _=>I.block hr,I.size,I.os,I.tape,I.output,λb r z h1 h2=>by cases h2⟩,?_,hv⟩;refine⟨λr o u hu=>I.cell (R.gc r o u hu),λr es hu=> ?_,(λb x I=>by cases I),λb b' r z z' h1=>ka rfl h1,(λb r z hs=>by cases hs),(λb x r z o v I=>by cases I),(λb x r z I=>by cases I),R.glob⟩;obtain⟨c,U⟩:=R.gm r es hu;have hr:r<w.heap.size:=by
  rcases fH r w.heap.size with h|h
  ·exact h
  ·rw[Array.getElem?_eq_none h] at U;cases U
 exact⟨c,by rw[I.block hr];exact U⟩
end
end
section
open Go.RowKit
section
variable {Y:Thy} {E E':Eng Y}
structure EngLike(E E':Eng Y):Prop where
 P:E.P=E'.P
 w:E.w=E'.w
 len:∀th x,(E.enc th x).length=(E'.enc th x).length
 enc:∀th x (j:Nat) sv',(E'.enc th x)[j]? =ae sv'->∃sv,(E.enc th x)[j]? =ae sv/\∀σ g v,Den E' σ g sv v->Den E' σ g sv' v
theorem Den.like(hE:EngLike E E') {σ:Pl} {g:GH} {U:SV Y} {v:Value} (h:Den E σ g U v):Den E' σ g U v:=by
 induction h with
 |unk v=>exact .unk v
 |val v=>exact .val v
 |int l k n=>exact .int l k n
 |bool l b=>exact .bool l b
 |str l h=>exact .str l h
 |ptr h=>exact .ptr h
 |eptr h=>exact .eptr h
 |pptr c J _ I=>exact .pptr c (λj R=>J j (by rw[hE.len];exact R)) λj a0 R=>let⟨U,h1,h2⟩:=hE.enc _ _ j a0 R;h2 _ _ _ (I j U h1)
 |sl h hz hl hm J=>exact .sl h hz hl hm J
 |psl cv hl hm hf hn hb _ I=>
  refine .psl cv hl hm hf hn (λhp=> ?_) λi x hx j a0 R=>let⟨U,h1,h2⟩:=hE.enc _ _ j a0 R;h2 _ _ _ (I i x hx j U h1)
  obtain⟨r,o,e,h⟩:=hb hp;exact⟨r,o,e,λi x hx j R=>by rw[<-hE.w];exact h i x hx j (by rw[hE.len];exact R)⟩
 |agg c hs J _ I=>exact .agg c hs J I
 |tup c hs J _ I=>exact .tup c hs J I
 |fn ca cb a3 a1 _ a4 a2 _ a5 a6=>exact .fn ca cb a3 a1 a5 a4 a2 a6
 |map h=>exact .map h
 |pmap c q ho hq hn h1 h2 _ I=>exact .pmap c q ho hq hn h1 h2 I
 |iface _ I=>exact .iface I
theorem Yda(hE:EngLike E E') (a0:∀n J,E'.glob n=ae J->E.glob n=ae J) {B B':Nat} {g:GH} {w:World} (h:Inv E B σ0 hp0 g w):Inv E' B' σ0 hp0 g w:=by
 refine⟨h.gc,h.gm,(λb x I=>by cases I),λb b' r z z' R=>ka rfl R,(λb r z hs=>by cases hs),(λb x r z o v I=>by cases I),(λb x r z I=>by cases I),λn J hn j s hj=> ?_⟩;obtain⟨v,R,U⟩:=h.glob n J (a0 n J hn) j s hj;exact⟨v,R,U.like hE⟩
theorem PureC.like(R:EngLike E E') (h2:EngLike E' E) (a1:∀n I,E.glob n=ae I->E'.glob n=ae I) {f:FuncId} {args:List (SV Y)} {v:SV Y} (h:PureC E f args v):PureC E' f args v:=by
 intro g w a2 hI hd;have:=h g w a2 (Yda h2 a1 hI) ⟨hd.1,λj I u k1 k2=>(hd.2 j I u k1 k2).like h2⟩;rw[R.P] at this;refine this.mono ?_;rintro en w' ⟨u,he,g',U,a0,hv⟩;refine⟨u,he,g',U,⟨a0.gc,a0.gm,(λb x J=>by cases J),λb b' r z z' R=>ka rfl R,(λb r z hs=>by cases hs),(λb x r z o v J=>by cases J),(λb x r z J=>by cases J),λn I hn j s hj=> ?_⟩,hv.like R⟩;obtain⟨v,k1,k2⟩:=hI.glob n I hn j s hj;exact⟨v,U.gle.c _ _ _ k1,k2.mono (.refl _) U.gle⟩
end
end
section
open Go.RowKit
section
variable {Y:Thy} {E:Eng Y}
noncomputable def sumF(E:Eng Y) (gth:List (SV Y)->Option Y.Th) (n:Nat) {α:Type} (d:DcL E α) (pre:α->Prop) (f:α->SV Y):Sum Y:=λargs h _ k=>
 frzL (frzK E gth h n) args λI bs=>match d.dec I with|some x=>pre x/\k ⟨f x,0,bs,λb=>frzB (h b),ae bs⟩|none=>False
theorem Z1x(hE:EngOk E) {gth:List (SV Y)->Option Y.Th} {n:Nat} {α:Type} {f:Nat} (hg:FnGood E.P f) {d:DcL E α} {pre:α->Prop} {v:α->SV Y} (hp:∀x,pre x->PureC E f (d.enc x) (v x)):SumOk E f (sumF E gth n d pre v):=by
 refine⟨hg,λargs h i k hD hk=> ?_⟩;obtain⟨a9,bs,hk,o⟩:=Uw (Zbp hE n) hk;split at hk
 case h_2=>exact hk.elim
 rename_i x hx;obtain⟨b4,hk⟩:=hk;have b5:=PureC.of_dec hx (hp x b4);refine⟨_,hk,λb hb=> ?_,.inl ?_⟩
 ·obtain⟨y,J,_⟩:=o.blk b hb
  rw[J];simp
 intro B σ g w a8 hh a0 U hB _ hd;have a0:∀b∈bs,hh b=h b:=a0;have a6:=Zal (bs:=bs) U;have b1:DenL E σ0 (frzG E hh σ bs g w) a9 a8.toList:=by
  refine⟨o.len.trans hd.1,λj b6 u I R=> ?_⟩;have a4:j<args.length:=by rw[<-o.len];exact(ai.1 I).1
  exact o.den hh σ g w B _ a0 U a6 Ze8 j _ b6 u (ao a4) I (hd.2 j _ u (ao a4) R)
 refine(b5 _ w a8 (Zxg U) b1).mono ?_;rintro en w' ⟨u,he,g',hS,a1,hv⟩;have a3:∀r,r<w.heap.size->w'.heap[r]? =w.heap[r]? :=λr hr=>hS.heap r hr (by simp);have a5:g.le g':=a6.trans hS.gle;have a7:∀r o v,r<w.heap.size->g'.cell r o=ae v->(∃b∈bs,∃z x,σ b=ae (r,z)/\hh b=ae x/\o<(x.cells E).length)\/g.cell r o=ae v:=by
  intro r o v hr hv;rcases hS.gcnew r o v hv with I|I|⟨b,I,_⟩
  ·rcases Zbq I with R|R
   ·exact .inl R.2
   ·exact .inr R
  ·omega
  ·simp at I
 refine⟨u,he,σ,g',⟨.refl _,λb p h=> .inl h,a5,λr o v hv=> ?_,hS.gmnew,λr hr _=>a3 r hr,hS.size,hS.os,hS.tape,hS.output,λb r z I R=>by rw[I] at R;cases R⟩,?_,hv.mono (λb p h=>by cases h) (.refl _)⟩
 ·rcases fH r w.heap.size with hr|hr
  ·rcases a7 r o v hr hv with⟨b,hb,z,x,I,_⟩|I
   ·exact .inr (.inr ⟨b,hb,z,I⟩)
   ·exact .inl I
  ·exact .inr (.inl hr)
 ·--memory b7
  have b3:∀b,patch hh i ⟨v x,0,bs,λb=>frzB (h b),ae bs⟩ b=match memB b bs with|true=>frzB (h b)|false=>hh b:=by
   intro b;have e:(bP i b&&aU b (i+0))=false:=by
    rw[Nat.add_zero];cases I:bP i b with
    |false=>rfl
    |true=>
     rw[bu] at I;cases R:aU b i with
     |false=>rfl
     |true=>rw[Nat.blt_eq] at R;omega
   show(match memB b bs||(bP i b&&aU b (i+0)) with|true=>frzB (h b)|false=>hh b)=_;rw[e,Bool.or_false]
  have src:∀b y,patch hh i ⟨v x,0,bs,λb=>frzB (h b),ae bs⟩ b=ae y->∃y0,hh b=ae y0/\(∀σ g w r z,BlkOk E σ g w r z y0->BlkOk E σ g w r z y)/\y0.fzc E<=y.fzc E/\(b∈bs->(y0.cells E).length<=y.fzc E):=by
   intro b y J;rw[b3] at J;cases hm:memB b bs with
   |true=>
    rw[hm] at J;have a2:=memB_iff.1 hm;obtain⟨y0,I,R⟩:=o.blk b a2;have J:frzB (h b)=ae y:=J;rw[I] at J;obtain⟨y',k1,k2,k3,k4,k5⟩:=Zjy hE R;rw[k1] at J;cases J;exact⟨y0,(a0 b a2).trans I,k5,k3,λ_=>k4⟩
   |false=>
    rw[hm] at J;exact⟨y,J,λ_ _ _ _ _ h=>h,av _,λhb=>by rw[memB_iff.2 hb] at hm;cases hm⟩
  have ne:∀b,patch hh i ⟨v x,0,bs,λb=>frzB (h b),ae bs⟩ b≠au->hh b≠none:=by
   intro b hb;obtain⟨y,J⟩:=aY.1 hb;obtain⟨y0,I,_⟩:=src b y J;rw[I];simp
  refine⟨a1.gc,a1.gm,λb y J=> ?_,λb b' r z z' I R=>U.inj b b' r z z' (ne b I) (ne b' R),λb r z hs=>⟨(U.base b r z hs).1,ck (U.base b r z hs).2 hS.size⟩,λb y r z o v J hs hv=> ?_,λb y r z J hs=> ?_,a1.glob⟩
  ·obtain⟨y0,I,R,_⟩:=src b y J
   obtain⟨r,z,h3,h4⟩:=U.blk b y0 I;exact⟨r,z,h3,R _ _ _ _ _ (h4.mono (.refl _) a5 (a3 r (U.base b r z h3).2))⟩
  ·obtain⟨y0,I,_,h3,h4⟩:=src b y J
   have hr:=(U.base b r z hs).2;rcases a7 r o v hr hv with⟨b',b0,z',x',k1,k2,k3⟩|k
   ·obtain rfl:=U.inj b b' r z z' (by rw[I];simp) (by rw[k2];simp) hs k1
    rw[I] at k2;cases k2;exact ck k3 (h4 b0)
   ·exact ck (U.fz b y0 r z o v I hs k) h3
  ·obtain⟨y0,I,_⟩:=src b y J
   have hr:=(U.base b r z hs).2;cases b2:g'.obj r with
   |none=>rfl
   |some es=>
    rcases hS.gmnew r es b2 with k|k
    ·have k:g.obj r=ae es:=k
     rw[U.fm b y0 r z I hs] at k;cases k
    ·omega
end
end
section
open Go.RowKit
section
variable {Y:Thy} {E:Eng Y}
structure Ann2(Y:Thy) where
 X:Type
 fr:Bool->X->List (Nat×SV Y)
 bl:Bool->X->List (Nat×Blk Y)
 src:Bool->List (Nat×Nat)
 md:List Nat
 ih:Nat
 M:Nat
 meas:Bool->X->Nat
def Ann2.one(A:Ann2 Y):Ann Y:={X:=Bool×A.X,fr:=λx=>A.fr x.1 x.2,bl:=λx=>A.bl x.1 x.2,src:=λx=>A.src x.1,md:=A.md,ih:=A.ih,M:=A.M,meas:=λx=>A.meas x.1 x.2}
def Zw8(E:Eng Y) (A:Fr Y->Hp Y->Nat->Ann2 Y) (V:Zk6 Y):Zk6 Y:=λT h i ms K=>
 match(bP i (A T h i).ih&&bP (A T h i).ih (A T h i).M)&&mdOk i h (A T h i).md with
 |false=>False
 |true=>∃R:Bool->(A T h i).X->Prop,((∃x,R ac x/\Zgv i h ((A T h i).bl ac x)=ac/\fits E (A T h i).one i T h (ac,x))\/(∃x,R ab x/\Zgv i h ((A T h i).bl ab x)=ac/\fits E (A T h i).one i T h (ab,x)))/\
  (∀x,R ac x->V (frOf ((A T h i).fr ac x)) (blOf ((A T h i).bl ac x)) (A T h i).ih [] λe I J U a0=>
   (match bP U (A T h i).M&&Zek i (A T h i).md a0 with
   |true=>(match e with
    | .normal=>(∃x',R ac x'/\(A T h i).meas ac x'<(A T h i).meas ac x/\Zgv i h ((A T h i).bl ac x')=ac/\fits E (A T h i).one i I J (ac,x'))\/(∃x',R ab x'/\(A T h i).meas ab x'<(A T h i).meas ac x/\Zgv i h ((A T h i).bl ab x')=ac/\fits E (A T h i).one i I J (ab,x'))
    |e=>K e I J (A T h i).M ((A T h i).md++ms))
   |false=>False))/\
  (∀x,R ab x->V (frOf ((A T h i).fr ab x)) (blOf ((A T h i).bl ab x)) (A T h i).ih [] λe I J U a0=>
   (match bP U (A T h i).M&&Zek i (A T h i).md a0 with
   |true=>(match e with
    | .normal=>(∃x',R ac x'/\(A T h i).meas ac x'<(A T h i).meas ab x/\Zgv i h ((A T h i).bl ac x')=ac/\fits E (A T h i).one i I J (ac,x'))\/(∃x',R ab x'/\(A T h i).meas ab x'<(A T h i).meas ab x/\Zgv i h ((A T h i).bl ab x')=ac/\fits E (A T h i).one i I J (ab,x'))
    |e=>K e I J (A T h i).M ((A T h i).md++ms))
   |false=>False))
theorem Z6y(hE:EngOk E) (A:Fr Y->Hp Y->Nat->Ann2 Y):LoopOk E (Zw8 E A):=by
 intro N c V hV T h i ms K hD U;refine Zwj hE (λT h i=>(A T h i).one) N c (λT h i ms K=>DomLt h i->∃e T' h' a0 a2,K e T' h' a0 a2/\i<=a0/\Dom h i h' a0/\(∃m,a2=m++ms/\Xg h i a0 m)/\CodeTri E N c T h i e T' h' a0 a2) (λT h i ms K hD U=>U hD) T h i ms K hD ?_;unfold Zw8 at U;unfold Z33;split at U
 ·exact U.elim
 ·rename_i hc
  split
  ·rename_i a4
   exact ka (hc.symm.trans a4) (by simp)
  ·obtain⟨R,h0,h1,h2⟩:=U
   refine⟨λp=>R p.1 p.2,?_,?_⟩
   ·rcases h0 with⟨x,a,b,c⟩|⟨x,a,b,c⟩
    ·exact⟨(ac,x),a,b,c⟩
    ·exact⟨(ab,x),a,b,c⟩
   ·rintro⟨s,x⟩ hR a3
    cases s
    ·obtain⟨e,T1,h3,i1,a1,I,rest⟩:=hV _ _ _ [] _ a3 (h2 x hR)
     refine⟨e,T1,h3,i1,a1,?_,rest⟩;cases J:(bP i1 (A T h i).M&&Zek i (A T h i).md a1) with
     |false=>rw[J] at I;exact I.elim
     |true=>
      rw[J] at I;simp only[Ann2.one,J];cases e
      case normal=>
       rcases I with⟨x',a,b⟩|⟨x',a,b⟩
       ·exact⟨(ac,x'),a,b⟩
       ·exact⟨(ab,x'),a,b⟩
      all_goals exact I
    ·obtain⟨e,T1,h3,i1,a1,I,rest⟩:=hV _ _ _ [] _ a3 (h1 x hR)
     refine⟨e,T1,h3,i1,a1,?_,rest⟩;cases J:(bP i1 (A T h i).M&&Zek i (A T h i).md a1) with
     |false=>rw[J] at I;exact I.elim
     |true=>
      rw[J] at I;simp only[Ann2.one,J];cases e
      case normal=>
       rcases I with⟨x',a,b⟩|⟨x',a,b⟩
       ·exact⟨(ac,x'),a,b⟩
       ·exact⟨(ab,x'),a,b⟩
      all_goals exact I
def Yna(F:Fns Y) (f j:Nat) (A:Fr Y->Hp Y->Nat->Ann2 Y) (E:Eng Y):Fns Y:={sums:=F.sums,fns:=F.fns,loops:=λg k=>match aO g f&&aO k j with|true=>ae (Zw8 E A)|false=>F.loops g k,defs:=F.defs}
theorem Yb8(J:EngOk E) {F:Fns Y} (I:FnsOk E F) (f j:Nat) (A:Fr Y->Hp Y->Nat->Ann2 Y):FnsOk E (Yna F f j A E):=by
 refine⟨I.sumG,I.fnG,I.sum,I.fn,λg k L h=> ?_⟩;have h:(match aO g f&&aO k j with|true=>ae (Zw8 E A)|false=>F.loops g k)=ae L:=h;split at h
 ·cases h
  exact Z6y J A
 ·exact I.loop g k L h
end
end
section
open Go.RowKit
section
variable {Y:Thy} {E:Eng Y}
def hp1(th:Y.Th) (l:List (Y.dom th)) (fz:Nat):Hp Y:=λb=>match aO b 0 with|true=>ae (.rows th l fz)|false=>au
theorem nb{a b:Nat} (h:aO a b=ab):a≠b:=by
 intro e;subst e;have:aO a a=true:=fP a;rw[h] at this;cases this
end
end
section
open Go.RowKit
section
variable {Y:Thy}
def gI(k:IntKind):SV Y->Option Int:=λv=>match v with| .int _ I n=>(match decide (I=k) with|true=>ae n|false=>au)|_=>au
def gB:SV Y->Option Bool:=λv=>match v with| .bool _ b=>ae b|_=>au
def gS:SV Y->Option (List Nat):=λv=>match v with| .str _ s=>ae s|_=>au
def Zne(th:Y.Th):SV Y->Option (List (Y.dom th)):=λv=>match v with| .psl I l _=>Z85 l| .val (.slice au 0 0)=>ae []|_=>au
variable {E:Eng Y} {σ:Pl} {g:GH} {c:SV Y} {v:Value}
theorem Zf{k:IntKind} {n:Int} {fl:Bool} (h:gI k c=ae n) (hd:Den E σ g c v):Den E σ g (.int fl k n) v:=by
 unfold gI at h;split at h
 ·split at h
  ·rename_i e;cases h;obtain rfl:=jk e;cases hd;exact .int _ _ _
  ·cases h
 ·cases h
theorem Yl0{b:Bool} {fl:Bool} (h:gB c=ae b) (hd:Den E σ g c v):Den E σ g (.bool fl b) v:=by
 unfold gB at h;split at h
 ·cases h;cases hd;exact .bool _ _
 ·cases h
theorem Zp6{s:List Nat} {fl:Bool} (h:gS c=ae s) (hd:Den E σ g c v):Den E σ g (.str fl s) v:=by
 unfold gS at h;split at h
 ·cases h;cases hd;exact .str _ ‹_›
 ·cases h
theorem Zi3{th:Y.Th} {l:List (Y.dom th)} (h:Zne th c=ae l) (hd:Den E σ g c v):Den E σ g (.psl th l ab) v:=by
 unfold Zne at h;split at h
 ·obtain⟨e,rfl⟩:=Zvq h
  subst e;obtain⟨base,c,I,rfl,J,R,h3,U,h5,h6⟩:=V2 hd;exact .psl I J R (by simp) U h5 h6
 ·cases h
  cases hd;exact .psl (l:= []) (λ_ _=>undef) (av _) (by unfold maxLen;omega) (by simp) (λ_=>rfl) (by simp) (by simp)
 ·cases h
theorem Zg{k:IntKind} {n:Int} (h:gI k c=ae n):nid 0 c=true:=by
 unfold gI at h;split at h
 ·rfl
 ·cases h
theorem Yl1{b:Bool} (h:gB c=ae b):nid 0 c=true:=by
 unfold gB at h;split at h
 ·rfl
 ·cases h
theorem Zp7{s:List Nat} (h:gS c=ae s):nid 0 c=true:=by
 unfold gS at h;split at h
 ·rfl
 ·cases h
theorem Zi4{th:Y.Th} {l:List (Y.dom th)} (h:Zne th c=ae l):nid 0 c=true:=by
 unfold Zne at h;split at h
 ·rfl
 ·rfl
 ·cases h
theorem Z4o(h:Den E σ g (Z1f c) v):Den E σ g c v:=by
 cases c
 case int l k n=>cases h;exact .int _ _ _
 case bool l b=>cases h;exact .bool _ _
 case str l s=>cases h;exact .str _ ‹_›
 all_goals exact h
theorem Z4p{E E':Eng Y} (hP:E.P=E'.P) (hw:E.w=E'.w) (J:∀th x,(E.enc th x).map Z1f=(E'.enc th x).map Z1f):EngLike E E':=by
 refine⟨hP,hw,λth x=> ?_,λth x j a0 hj=> ?_⟩
 ·have:=kk List.length (J th x)
  simpa using this
 ·have I:((E.enc th x).map Z1f)[j]? =ae (Z1f a0):=by rw[J,bv,hj];rfl
  rw[bv] at I;obtain⟨sv,R,U⟩:=br.1 I;exact⟨sv,R,λσ g v hd=>Z4o (U▸Z8k hd)⟩
def dRow(I:EngOk E) (th:Y.Th) (hn:∀cs x,E.dec th cs=ae x->nidL 0 cs=ac):Dc E (Y.dom th) where
 dec v:=match v with| .agg cs=>E.dec th cs|_=>au
 enc x:= .agg (E.enc th x)
 ok v x h:=by
  split at h
  ·rename_i cs
   obtain⟨k1,k2⟩:=I.dec th _ x h
   refine⟨by simpa[nid] using hn _ _ h,rfl,λσ g u hd=> ?_⟩
   obtain⟨arr,c,rfl,hs,U,hd⟩:=Yk hd
   refine .agg c (by rw[I.enc];omega) (λj J=>U j (by rw[I.enc] at J;omega)) λj a0 J=> ?_
   have R:j<cs.length:=by rw[k1,<-I.enc th x];exact(ai.1 J).1
   exact k2 σ g j _ a0 _ (ao R) J (hd j _ (ao R))
  ·cases h
end
section
variable {Y:Thy} {E:Eng Y}
theorem Zbg{f:SV Y->(SV Y->List Nat->Prop)->Prop} (R:∀v k I,(∀a b,k a b->I a b)->f v k->f v I):∀{l:List (SV Y)} {k I:List (SV Y)->List Nat->Prop},(∀a b,k a b->I a b)->frzL f l k->frzL f l I
 | [],k,I,J,h=>J _ _ h
 |x::r,k,I,J,h=>R x _ _ (λa b U=>Zbg R (λc d=>J _ _) U) h
theorem Zp8{v:SV Y} {k k':SV Y->List Nat->Prop} (I:∀a b,k a b->k' a b) (h:frzN v k):frzN v k':=by
 unfold frzN at*;split at h
 ·exact I _ _ h
 ·exact h.elim
theorem Z4q{gth : List (SV Y) → Option Y.Th} {R : Hp Y} : ∀ (n : Nat) (v : SV Y) (k k' : SV Y → List Nat → Prop), (∀ a b, k a b → k' a b) → frzK E gth R n v k → frzK E gth R n v k' := by
  intro n
  induction n with
  | zero => exactλv k k' I h => Zp8 I h
  | succ n U =>
    intro v k k' I h
    replace h : frzS E gth R (frzK E gth R n) v k := h
    show frzS E gth R (frzK E gth R n) v k';unfold frzS at *;split at h
    ·exact Zbg U (λa b => I _ _) h
    ·split at h
     ·split at h
      ·obtain⟨h1, h2⟩ := Zu h
       cases hl : E.lit with
       | true => rw[hl] at h; unfold need at *; simp only at *; split at h; · exact I _ _ h
                 ·exact h.elim
       | false => exact⟨h1, I _ _ h2⟩
      ·exact h.elim
     ·split at h
      ·split at h
       ·refine Zbg U (λa b J => ?_) h
        split at J
        ·exact I _ _ J
        ·exact J.elim
       ·exact h.elim
      ·exact h.elim
     ·exact h.elim
    ·split at h
     ·split at h
      ·refine Zbg U (λa b J => ?_) h
       split at J
       ·exact I _ _ J
       ·exact J.elim
      ·exact h.elim
     ·exact h.elim
    ·exact Zp8 I h
noncomputable def Zat(E:Eng Y) (gth:List (SV Y)->Option Y.Th) (n:Nat) {α I:Type} (d:DcL E α) (pre:α->Prop) (f:α->I) (v:I->SV Y):Sum Y:=λargs h _ k=>
 frzL (frzK E gth h n) args λJ bs=>match d.dec J with|some x=>pre x/\∀y,y=f x->k ⟨v y,0,bs,λb=>frzB (h b),ae bs⟩|none=>False
theorem Ys(hE:EngOk E) {gth:List (SV Y)->Option Y.Th} {n:Nat} {α U:Type} {f:Nat} (hg:FnGood E.P f) {d:DcL E α} {pre:α->Prop} {fn:α->U} {v:U->SV Y} (hp:∀x,pre x->PureC E f (d.enc x) (v (fn x))):SumOk E f (Zat E gth n d pre fn v):=by
 have J:=Z1x hE (gth:=gth) (n:=n) hg (d:=d) (pre:=pre) (v:=λx=>v (fn x)) hp;refine⟨J.good,λargs h i k hD R=>J.ok args h i k hD ?_⟩;unfold Zat at R;unfold sumF;refine Zbg (Z4q n) (λa b I=> ?_) R;split at I
 ·rename_i e
  simp only[e];exact⟨I.1,I.2 _ rfl⟩
 ·exact I.elim
def Ws{α I:Type} (d:DcL E α) (pre:α->Prop) (f:α->I) (v:I->SV Y):Sum Y:=λargs _ _ k=>match d.dec args with|some x=>pre x/\∀y,y=f x->k (quiet [] (v y))|none=>False
theorem Z1(hE:EngOk E) {α R:Type} {f:Nat} (hg:FnGood E.P f) {d:DcL E α} {pre:α->Prop} {fn:α->R} {v:R->SV Y} (hp:∀x,pre x->PureC E f (d.enc x) (v (fn x))):SumOk E f (Ws d pre fn v):=by
 have J:=Yo hE hg (d:=d) (pre:=pre) (v:=λx=>v (fn x)) hp;refine⟨J.good,λargs h i k U I=>J.ok args h i k U ?_⟩;unfold Ws at I;unfold sumP;split at I
 ·rename_i e
  simp only[e];exact⟨I.1,I.2 _ rfl⟩
 ·exact I.elim
end
section
variable {Y:Thy} {E:Eng Y}
theorem Zp9(I:EngOk E) {th:Y.Th} {r:Bool} (x:Y.dom th):nid 0 (Zl E th r x)=true:=by
 have h:=I.encI 0 th x;unfold Zl;cases r with
 |true=>exact h
 |false=>
  simp only;split
  ·rename_i v e
   rw[e] at h
   simpa[nidL] using h
  ·rfl
theorem Zlj(I:EngOk E) {th:Y.Th} {r:Bool} {kd:IntKind}:∀(l:List (Int×Y.dom th)),nidE 0 (Wb kd (Zl E th r) l)=ac
 | []=>rfl
 |p::l=>by
  have:=Zlj I (r:=r) (kd:=kd) l
  unfold Wb at*
  rw[bQ,nidE,Zp9 I,this];rfl
theorem Zo(I:EngOk E) {th:Y.Th} {r:Bool}:∀(l:List (List Nat×Y.dom th)),nidE 0 (Zi (Zl E th r) l)=ac
 | []=>rfl
 |p::l=>by
  have:=Zo I (r:=r) l
  unfold Zi at*
  rw[bQ,nidE,Zp9 I,this];rfl
open Classical in
theorem Zep{α J:Type}:∀(l:List (α×J)) (a b:α) (v:J),Zt (putS l a v) b=if a=b then ae v else Zt l b
 | [],a,b,v=>by
  unfold putS Zt
  by_cases h:a=b
  ·simp[h]
  ·simp only[h,kM];rfl
 |p::l,a,b,v=>by
  have R:=Zep l a b v
  unfold putS
  by_cases h:p.1=a
  ·rw[jM h]
   unfold Zt
   by_cases I:a=b
   ·rw[jM (h.trans I),jM I]
   ·rw[jJ (λe=>I (h▸e)),jJ I,jJ (λe=>I (h▸e))]
  ·rw[jJ h]
   unfold Zt
   by_cases I:p.1=b
   ·rw[jM I,jM I,jJ (λe=>h (I.trans e.symm))]
   ·rw[jJ I,jJ I,R]
end
structure LX where
 k:Nat
 r:Nat
 D:List Int
 m:Int
structure DX where
 k:Nat
 r:Nat
 D:List Int
 H:List Int
 n:Nat
 m:Nat
 fz:Nat
 j:Int
section
variable {Y:Thy}
def bOf:SV Y->Nat| .sl b _ _ _ _=>b| .ptr b _=>b| .map b=>b|_=>0
def fzOf(h:Hp Y) (v:SV Y):Nat:=match v with| .sl b _ _ _ _=>(match h b with|some (.rows _ _ fz)=>fz|_=>0)|_=>0
def blkS(h:Hp Y):SV Y->List (Nat×Blk Y)| .sl b _ _ _ _=>(match h b with|some x=> [(b,x)]|none=> [])|_=> []
def blkP(h:Hp Y):SV Y->List (Nat×Blk Y)
 | .ptr b _=>(match h b with|some x=> [(b,x)]|none=> [])
 |_=> []
end
end
section
inductive Ex where
 |mk (op n:Int) (d0 d1 d2 d3:Int) (l:List Ex)
def Ex.op:Ex->Int| .mk a _ _ _ _ _ _=>a
def Ex.n:Ex->Int| .mk _ a _ _ _ _ _=>a
def Ex.d0:Ex->Int| .mk _ _ a _ _ _ _=>a
def Ex.d1:Ex->Int| .mk _ _ _ a _ _ _=>a
def Ex.d2:Ex->Int| .mk _ _ _ _ a _ _=>a
def Ex.d3:Ex->Int| .mk _ _ _ _ _ a _=>a
def Ex.l:Ex->List Ex| .mk _ _ _ _ _ _ a=>a
structure Tst where
 attr:Int
 low:Int
 high:Int
structure Cls where
 name:List Nat
 when_:List Tst
 pay:Ex
structure Tar where
 name:List Nat
 for_:Int
 clauses:List Cls
structure Tok where
 kind:Int
 text:List Nat
 n:Int
 at_:Int
end
section
end
section
structure Ins where
 op:Int
 n:Int
 m:Int
 deriving DecidableEq
def Yb(x:Ins):Bool:=
 if x.op=1\/x.op=13\/x.op=14\/x.op=15 then decide (0<=x.n/\x.n<=9007199254740992/\x.m=0)
 else if x.op=2 then decide (0<=x.n/\x.n<=15/\x.m=0)
 else if x.op=12 then decide (0<=x.n/\x.n<=9007199254740992/\0<=x.m/\x.m<=9007199254740992)
 else decide (3<=x.op/\x.op<=16/\x.n=0/\x.m=0)
def eff(op:Int):Int×Int:=
 if op=1\/op=2 then(0,1) else if op=12 then(1,1) else if op=13\/op=15 then(1,0) else if op=14\/op=16 then(0,0) else(2,1)
def Zer(i:Int) (x:Ins):List Int:=if x.op=15\/x.op=16 then[] else if x.op=14 then[x.n] else if x.op=13 then[x.n,i+1] else[i+1]
def setF(len i after:Int):List Int->List Int->Option (List Int)
 | [],D=>ae D
 |n::r,D=>if n<=i\/len<=n\/(0<=D.getD n.toNat 0/\D.getD n.toNat 0≠after) then au else setF len i after r (D.set n.toNat after)
def rndF(len:Int) (i:Nat) (x:Ins) (D:List Int) (m:Int):Option (List Int×Int):=
 if D.getD i 0<0 then ae (D,m)
 else if D.getD i 0<(eff x.op).1\/(x.op=15/\D.getD i 0≠1)\/(x.op=16/\D.getD i 0≠0) then au
 else match setF len i (D.getD i 0-(eff x.op).1+(eff x.op).2) (Zer i x) D with
  |none=>au
  |some I=>ae (I,max (max m (D.getD i 0)) (D.getD i 0-(eff x.op).1+(eff x.op).2))
def fromF(len:Int):List Ins->Nat->List Int->Int->Option (List Int×Int)
 | [],_,D,m=>ae (D,m)
 |x::r,i,D,m=>match rndF len i x D m with|none=>au|some (I,J)=>fromF len r (i+1) I J
def endF:Option (List Int×Int)->Int×Int
 |none=>(0,200)
 |some (_,m)=>if 64<m then(0,2) else(m,0)
def deps(c:List Ins):List Int:=(aR c.length (-1)).set 0 0
def verF(c:List Ins):Int×Int:=
 if 4096<c.length then(0,2)
 else if c.length=0\/c.all Yb=ab then(0,200)
 else endF (fromF c.length c 0 (deps c) 0)
end
section
inductive Val where
 |mk (k n:Int) (b:List Int) (l:List Val)
def Val.k:Val->Int| .mk k _ _ _=>k
def Val.n:Val->Int| .mk _ n _ _=>n
def Val.l:Val->List Val| .mk _ _ _ l=>l
end
section
structure Box where
 low:List Int
 high:List Int
structure RefD where
 rw_:Int
 no:Int
structure PrtD where
 kind:Int
 serial:Int
 fitted:Bool
structure ItD where
 kind:Int
 ref:RefD
 wagon:Int
 place:Int
 other:Int
 number:Int
 from_:Int
 to_:Int
 code:Int
 dest:Int
 class_:Int
 weight:Int
 amount:Int
 text:List Nat
 parts:List PrtD
structure Rep where
 ref:RefD
 by_:RefD
 time:Int
 item:ItD
end
section
open Go
inductive Th|ints|bys|strs|dims|exprs|tests|clauses|tariffs|ins|toks|refs|prts|items|pnts|boxes|reps|bools|dimc
  deriving DecidableEq
def domT:Th->Type| .ints=>Int| .bys=>Int| .strs=>List Nat| .dims=>List Int| .exprs=>Ex| .tests=>Tst| .clauses=>Cls| .tariffs=>Tar| .ins=>Ins| .toks=>Tok| .refs=>RefD| .prts=>PrtD| .items=>ItD| .pnts=>List Int| .boxes=>Box| .reps=>Rep| .bools=>Bool| .dimc=>Int
abbrev thy:Thy:=⟨Th,domT,inferInstance⟩
def yF(a b:Array TypeId):TyI:=⟨.func a b ab,1,8,.nilFunc⟩
def yS(t:TypeId):TyI:=⟨.slice t,1,24,.slice au 0 0⟩
def yP(t:TypeId):TyI:=⟨.pointer t,1,8,.pointer au⟩
def yI(k:IntKind) (n:Nat):TyI:=⟨.int k,1,n,.int k 0⟩
def yf(n:String) (t:TypeId) (o:Nat) (p:String) (b:Nat):Field:=⟨n,t,o,ab,"",p,b⟩
def yZ1:TyI:=⟨.struct #[yf "Name" 9 0 "" 0,yf "For" 3 1 "" 16,yf "Clauses" 23 2 "" 24],3,48,.agg #[.string ⟨#[]⟩,.int .i64 0,.slice au 0 0]⟩
def yZ2:TyI:=⟨.struct #[yf "Railway" 3 0 "" 0,yf "No" 3 1 "" 8],2,16,.agg #[.int .i64 0,.int .i64 0]⟩
def yZ3:TyI:=⟨.struct #[yf "Kind" 3 0 "" 0,yf "Ref" 43 1 "" 8,yf "Wagon" 3 3 "" 24,yf "Place" 3 4 "" 32,yf "Other" 3 5 "" 40,yf "Number" 3 6 "" 48,yf "From" 3 7 "" 56,yf "To" 3 8 "" 64,yf "Code" 3 9 "" 72,yf "Dest" 3 10 "" 80,yf "Class" 3 11 "" 88,yf "Weight" 3 12 "" 96,yf "Amount" 3 13 "" 104,yf "Text" 9 14 "" 112,yf "Parts" 44 15 "" 128],16,152,.agg #[.int .i64 0,.int .i64 0,.int .i64 0,.int .i64 0,.int .i64 0,.int .i64 0,.int .i64 0,.int .i64 0,.int .i64 0,.int .i64 0,.int .i64 0,.int .i64 0,.int .i64 0,.int .i64 0,.string ⟨#[]⟩,.slice au 0 0]⟩
def yZ4:TyI:=⟨.struct #[yf "Ref" 43 0 "" 0,yf "By" 43 2 "" 16,yf "Time" 3 4 "" 32,yf "Item" 46 5 "" 40],21,192,.agg #[.int .i64 0,.int .i64 0,.int .i64 0,.int .i64 0,.int .i64 0,.int .i64 0,.int .i64 0,.int .i64 0,.int .i64 0,.int .i64 0,.int .i64 0,.int .i64 0,.int .i64 0,.int .i64 0,.int .i64 0,.int .i64 0,.int .i64 0,.int .i64 0,.int .i64 0,.string ⟨#[]⟩,.slice au 0 0]⟩
def yZ5:TyI:=⟨.struct #[yf "Op" 3 0 "" 0,yf "N" 3 1 "" 8,yf "Unit" 55 2 "" 16,yf "L" 56 6 "" 48],7,72,.agg #[.int .i64 0,.int .i64 0,.int .i64 0,.int .i64 0,.int .i64 0,.int .i64 0,.slice au 0 0]⟩
def yZ6:TyI:=⟨.struct #[yf "Name" 9 0 "" 0,yf "When" 53 1 "" 16,yf "Pay" 58 2 "" 40],9,112,.agg #[.string ⟨#[]⟩,.slice au 0 0,.int .i64 0,.int .i64 0,.int .i64 0,.int .i64 0,.int .i64 0,.int .i64 0,.slice au 0 0]⟩
def yZ7:TyI:=⟨.struct #[yf "at" 3 0 "wagonpool/tparse" 0,yf "e" 26 1 "wagonpool/tparse" 8],2,16,.agg #[.int .i64 0,.int .i64 0]⟩
def yZ8:TyI:=⟨.struct #[yf "l" 70 0 "wagonpool/tparse" 0,yf "end" 3 1 "wagonpool/tparse" 24],2,32,.agg #[.slice au 0 0,.int .i64 0]⟩
def yZ9:TyI:=⟨.struct #[yf "l" 86 0 "wagonpool/tparse" 0],1,24,.agg #[.slice au 0 0]⟩
def yZ10:TyI:=⟨.struct #[yf "code" 37 0 "wagonpool/tcode" 0],1,24,.agg #[.slice au 0 0]⟩
def yZ11:TyI:=⟨.struct #[yf "low" 103 0 "wagonpool/tbox" 0,yf "high" 103 16 "wagonpool/tbox" 128],32,256,.agg ⟨aR 32 (.int .i64 0)⟩⟩
def yZ12:TyI:=⟨.struct #[yf "Has" 3 0 "" 0,yf "V" 102 1 "" 8],17,136,.agg ⟨aR 17 (.int .i64 0)⟩⟩
def yZ13:TyI:=⟨.struct #[yf "Kind" 3 0 "" 0,yf "Text" 9 1 "" 8,yf "N" 3 2 "" 24,yf "At" 3 3 "" 32],4,40,.agg #[.int .i64 0,.string ⟨#[]⟩,.int .i64 0,.int .i64 0]⟩
def yZ14:TyI:=⟨.struct #[yf "Attr" 3 0 "" 0,yf "Low" 3 1 "" 8,yf "High" 3 2 "" 16],3,24,.agg #[.int .i64 0,.int .i64 0,.int .i64 0]⟩
def yZ15:TyI:=⟨.struct #[yf "addr" 142 0 "strings" 0,yf "buf" 143 1 "strings" 8],2,32,.agg #[.pointer au,.slice au 0 0]⟩
def yZ16:TyI:=⟨.struct #[yf "unit" 151 0 "wagonpool/ttype" 0],1,8,.agg #[.nilFunc]⟩
def yZ17:TyI:=⟨.struct #[yf "Op" 3 0 "" 0,yf "N" 3 1 "" 8,yf "M" 3 2 "" 16],3,24,.agg #[.int .i64 0,.int .i64 0,.int .i64 0]⟩
def yZ18:TyI:=⟨.struct #[yf "start" 3 0 "strings" 0,yf "end" 3 1 "strings" 8],2,16,.agg #[.int .i64 0,.int .i64 0]⟩
def yZ19:TyI:=⟨.struct #[yf "Kind" 3 0 "" 0,yf "Serial" 3 1 "" 8,yf "Fitted" 4 2 "" 16],3,24,.agg #[.int .i64 0,.int .i64 0,.bool ab]⟩
noncomputable def tyT:Tr TyI:=(.node 119 (.node 56 (.node 26 (.node 12 (.node 4 (.node 2 (.leaf 1 (yF #[] #[])) (.node 3 (.leaf 2 (yI .i64 8)) (.leaf 3 (yI .i64 8)))) (.node 5 (.leaf 4 ⟨.bool,1,1,.bool ab⟩) (.node 9 (.leaf 5 (yI .u8 1)) (.leaf 9 ⟨.string,1,16,.string ⟨#[]⟩⟩)))) (.node 21 (.node 13 (.leaf 12 (yI .u64 8)) (.node 20 (.leaf 13 ⟨.struct #[yf "msg" 9 0 "runtime" 0,yf "addr" 12 1 "runtime" 16],2,24,.agg #[.string ⟨#[]⟩,.int .u64 0]⟩) (.leaf 20 ⟨.interface #[],1,16,.nilIface⟩))) (.node 24 (.node 23 (.leaf 21 (yI .i32 4)) (.leaf 23 (yS 60))) (.node 25 (.leaf 24 yZ1) (.leaf 25 yZ1))))) (.node 46 (.node 42 (.node 36 (.leaf 26 (yI .i64 8)) (.node 37 (.leaf 36 (yS 159)) (.leaf 37 (yS 159)))) (.node 44 (.node 43 (.leaf 42 yZ2) (.leaf 43 yZ2)) (.node 45 (.leaf 44 (yS 277)) (.leaf 45 yZ3)))) (.node 50 (.node 47 (.leaf 46 yZ3) (.node 48 (.leaf 47 yZ4) (.leaf 48 yZ4))) (.node 54 (.node 53 (.leaf 50 (yS 48)) (.leaf 53 (yS 130))) (.node 55 (.leaf 54 ⟨.array 4 3,4,32,.agg #[.int .i64 0,.int .i64 0,.int .i64 0,.int .i64 0]⟩) (.leaf 55 ⟨.array 4 3,4,32,.agg #[.int .i64 0,.int .i64 0,.int .i64 0,.int .i64 0]⟩)))))) (.node 85 (.node 70 (.node 59 (.node 57 (.leaf 56 (yS 58)) (.node 58 (.leaf 57 yZ5) (.leaf 58 yZ5))) (.node 60 (.leaf 59 yZ6) (.node 68 (.leaf 60 yZ6) (.leaf 68 (yS 3))))) (.node 76 (.node 73 (.leaf 70 (yS 120)) (.node 74 (.leaf 73 yZ7) (.leaf 74 yZ7))) (.node 78 (.node 77 (.leaf 76 (yP 78)) (.leaf 77 yZ8)) (.node 82 (.leaf 78 yZ8) (.leaf 82 (yF #[] #[3])))))) (.node 102 (.node 88 (.node 86 (.leaf 85 (yP 88)) (.node 87 (.leaf 86 (yS 9)) (.leaf 87 yZ9))) (.node 97 (.node 93 (.leaf 88 yZ9) (.leaf 93 ⟨.map 3 153,1,8,.map au⟩)) (.node 98 (.leaf 97 yZ10) (.leaf 98 yZ10)))) (.node 105 (.node 103 (.leaf 102 ⟨.array 16 3,16,128,.agg ⟨aR 16 (.int .i64 0)⟩⟩) (.node 104 (.leaf 103 ⟨.array 16 3,16,128,.agg ⟨aR 16 (.int .i64 0)⟩⟩) (.leaf 104 yZ11))) (.node 109 (.node 108 (.leaf 105 yZ11) (.leaf 108 yZ12)) (.node 117 (.leaf 109 yZ12) (.leaf 117 (yF #[] #[26])))))))) (.node 174 (.node 145 (.node 135 (.node 129 (.node 120 (.leaf 119 yZ13) (.node 128 (.leaf 120 yZ13) (.leaf 128 (yF #[60] #[4])))) (.node 130 (.leaf 129 yZ14) (.node 132 (.leaf 130 yZ14) (.leaf 132 (yF #[] #[58]))))) (.node 139 (.node 136 (.leaf 135 ⟨.map 9 4,1,8,.map au⟩) (.node 137 (.leaf 136 (yF #[58] #[4])) (.leaf 137 ⟨.array 256 5,256,256,.agg ⟨aR 256 (.int .u8 0)⟩⟩))) (.node 143 (.node 142 (.leaf 139 (yF #[21] #[4])) (.leaf 142 (yP 145))) (.node 144 (.leaf 143 (yS 5)) (.leaf 144 yZ15))))) (.node 155 (.node 150 (.node 146 (.leaf 145 yZ15) (.node 147 (.leaf 146 ⟨.interface #[("Error",80)],1,16,.nilIface⟩) (.leaf 147 ⟨.interface #[("Error",80)],1,16,.nilIface⟩))) (.node 152 (.node 151 (.leaf 150 (yS 55)) (.leaf 151 (yF #[150] #[55,4]))) (.node 153 (.leaf 152 yZ16) (.leaf 153 yZ16)))) (.node 159 (.node 157 (.leaf 155 ⟨.array 16 55,64,512,.agg ⟨aR 64 (.int .i64 0)⟩⟩) (.node 158 (.leaf 157 (yP 98)) (.leaf 158 yZ17))) (.node 168 (.node 161 (.leaf 159 yZ17) (.leaf 161 (yF #[159] #[4]))) (.node 169 (.leaf 168 (yS 105)) (.leaf 169 (yS 4))))))) (.node 216 (.node 191 (.node 179 (.node 175 (.leaf 174 (yF #[48,48] #[3])) (.node 178 (.leaf 175 ⟨.map 9 60,1,8,.map au⟩) (.leaf 178 (yS 117)))) (.node 182 (.leaf 179 (yF #[5] #[4])) (.node 190 (.leaf 182 ⟨.map 5 9,1,8,.map au⟩) (.leaf 190 (yS 192))))) (.node 201 (.node 192 (.leaf 191 yZ18) (.node 193 (.leaf 192 yZ18) (.leaf 193 (yI .u32 4)))) (.node 211 (.node 203 (.leaf 201 (yP 5)) (.leaf 203 (yI .u64 8))) (.node 212 (.leaf 211 ⟨.array 256 4,256,256,.agg ⟨aR 256 (.bool ab)⟩⟩) (.leaf 212 ⟨.array 256 4,256,256,.agg ⟨aR 256 (.bool ab)⟩⟩))))) (.node 253 (.node 224 (.node 217 (.leaf 216 (yP 212)) (.node 223 (.leaf 217 ⟨.map 3 3,1,8,.map au⟩) (.leaf 223 (yI .u16 2)))) (.node 236 (.node 227 (.leaf 224 ⟨.struct #[yf "Lo" 223 0 "" 0,yf "Hi" 223 1 "" 2,yf "Stride" 223 2 "" 4],3,6,.agg #[.int .u16 0,.int .u16 0,.int .u16 0]⟩) (.leaf 227 ⟨.struct #[yf "Lo" 193 0 "" 0,yf "Hi" 193 1 "" 4,yf "Stride" 193 2 "" 8],3,12,.agg #[.int .u32 0,.int .u32 0,.int .u32 0]⟩)) (.node 248 (.leaf 236 (yI .u64 8)) (.leaf 248 ⟨.array 24 5,24,24,.agg ⟨aR 24 (.int .u8 0)⟩⟩)))) (.node 262 (.node 258 (.leaf 253 ⟨.struct #[yf "lo" 5 0 "unicode/utf8" 0,yf "hi" 5 1 "unicode/utf8" 1],2,2,.agg #[.int .u8 0,.int .u8 0]⟩) (.node 259 (.leaf 258 ⟨.array 20 236,20,160,.agg ⟨aR 20 (.int .u64 0)⟩⟩) (.leaf 259 ⟨.array 65 5,65,65,.agg ⟨aR 65 (.int .u8 0)⟩⟩))) (.node 276 (.node 263 (.leaf 262 ⟨.array 32 5,32,32,.agg ⟨aR 32 (.int .u8 0)⟩⟩) (.leaf 263 ⟨.array 64 5,64,64,.agg ⟨aR 64 (.int .u8 0)⟩⟩)) (.node 277 (.leaf 276 yZ19) (.leaf 277 yZ19))))))))
noncomputable def fnT:Tr Func:=(.node 78 (.node 40 (.node 21 (.node 12 (.node 7 (.node 5 (.node 4 (.leaf 3 Tryz.f3) (.leaf 4 Tryz.f4)) (.node 6 (.leaf 5 Tryz.f5) (.leaf 6 Tryz.f6))) (.node 9 (.node 8 (.leaf 7 Tryz.f7) (.leaf 8 Tryz.f8)) (.node 10 (.leaf 9 Tryz.f9) (.node 11 (.leaf 10 Tryz.f10) (.leaf 11 Tryz.f11))))) (.node 16 (.node 14 (.node 13 (.leaf 12 Tryz.f12) (.leaf 13 Tryz.f13)) (.node 15 (.leaf 14 Tryz.f14) (.leaf 15 Tryz.f15))) (.node 18 (.node 17 (.leaf 16 Tryz.f16) (.leaf 17 Tryz.f17)) (.node 19 (.leaf 18 Tryz.f18) (.node 20 (.leaf 19 Tryz.f19) (.leaf 20 Tryz.f20)))))) (.node 30 (.node 25 (.node 23 (.node 22 (.leaf 21 Tryz.f21) (.leaf 22 Tryz.f22)) (.node 24 (.leaf 23 Tryz.f23) (.leaf 24 Tryz.f24))) (.node 27 (.node 26 (.leaf 25 Tryz.f25) (.leaf 26 Tryz.f26)) (.node 28 (.leaf 27 Tryz.f27) (.node 29 (.leaf 28 Tryz.f28) (.leaf 29 Tryz.f29))))) (.node 35 (.node 32 (.node 31 (.leaf 30 Tryz.f30) (.leaf 31 Tryz.f31)) (.node 33 (.leaf 32 Tryz.f32) (.node 34 (.leaf 33 Tryz.f33) (.leaf 34 Tryz.f34)))) (.node 37 (.node 36 (.leaf 35 Tryz.f35) (.leaf 36 Tryz.f36)) (.node 38 (.leaf 37 Tryz.f37) (.node 39 (.leaf 38 Tryz.f38) (.leaf 39 Tryz.f39))))))) (.node 58 (.node 49 (.node 44 (.node 42 (.node 41 (.leaf 40 Tryz.f40) (.leaf 41 Tryz.f41)) (.node 43 (.leaf 42 Tryz.f42) (.leaf 43 Tryz.f43))) (.node 46 (.node 45 (.leaf 44 Tryz.f44) (.leaf 45 Tryz.f45)) (.node 47 (.leaf 46 Tryz.f46) (.node 48 (.leaf 47 Tryz.f47) (.leaf 48 Tryz.f48))))) (.node 53 (.node 51 (.node 50 (.leaf 49 Tryz.f49) (.leaf 50 Tryz.f50)) (.node 52 (.leaf 51 Tryz.f51) (.leaf 52 Tryz.f52))) (.node 55 (.node 54 (.leaf 53 Tryz.f53) (.leaf 54 Tryz.f54)) (.node 56 (.leaf 55 Tryz.f55) (.node 57 (.leaf 56 Tryz.f56) (.leaf 57 Tryz.f57)))))) (.node 67 (.node 62 (.node 60 (.node 59 (.leaf 58 Tryz.f58) (.leaf 59 Tryz.f59)) (.node 61 (.leaf 60 Tryz.f60) (.leaf 61 Tryz.f61))) (.node 64 (.node 63 (.leaf 62 Tryz.f62) (.leaf 63 Tryz.f63)) (.node 65 (.leaf 64 Tryz.f64) (.node 66 (.leaf 65 Tryz.f65) (.leaf 66 Tryz.f66))))) (.node 73 (.node 70 (.node 68 (.leaf 67 Tryz.f67) (.leaf 68 Tryz.f68)) (.node 71 (.leaf 70 Tryz.f70) (.node 72 (.leaf 71 Tryz.f71) (.leaf 72 Tryz.f72)))) (.node 75 (.node 74 (.leaf 73 Tryz.f73) (.leaf 74 Tryz.f74)) (.node 76 (.leaf 75 Tryz.f75) (.node 77 (.leaf 76 Tryz.f76) (.leaf 77 Tryz.f77)))))))) (.node 116 (.node 96 (.node 87 (.node 82 (.node 80 (.node 79 (.leaf 78 Tryz.f78) (.leaf 79 Tryz.f79)) (.node 81 (.leaf 80 Tryz.f80) (.leaf 81 Tryz.f81))) (.node 84 (.node 83 (.leaf 82 Tryz.f82) (.leaf 83 Tryz.f83)) (.node 85 (.leaf 84 Tryz.f84) (.node 86 (.leaf 85 Tryz.f85) (.leaf 86 Tryz.f86))))) (.node 91 (.node 89 (.node 88 (.leaf 87 Tryz.f87) (.leaf 88 Tryz.f88)) (.node 90 (.leaf 89 Tryz.f89) (.leaf 90 Tryz.f90))) (.node 93 (.node 92 (.leaf 91 Tryz.f91) (.leaf 92 Tryz.f92)) (.node 94 (.leaf 93 Tryz.f93) (.node 95 (.leaf 94 Tryz.f94) (.leaf 95 Tryz.f95)))))) (.node 105 (.node 100 (.node 98 (.node 97 (.leaf 96 Tryz.f96) (.leaf 97 Tryz.f97)) (.node 99 (.leaf 98 Tryz.f98) (.leaf 99 Tryz.f99))) (.node 102 (.node 101 (.leaf 100 Tryz.f100) (.leaf 101 Tryz.f101)) (.node 103 (.leaf 102 Tryz.f102) (.node 104 (.leaf 103 Tryz.f103) (.leaf 104 Tryz.f104))))) (.node 110 (.node 107 (.node 106 (.leaf 105 Tryz.f105) (.leaf 106 Tryz.f106)) (.node 108 (.leaf 107 Tryz.f107) (.node 109 (.leaf 108 Tryz.f108) (.leaf 109 Tryz.f109)))) (.node 112 (.node 111 (.leaf 110 Tryz.f110) (.leaf 111 Tryz.f111)) (.node 113 (.leaf 112 Tryz.f112) (.node 115 (.leaf 113 Tryz.f113) (.leaf 115 Tryz.f115))))))) (.node 146 (.node 125 (.node 120 (.node 118 (.node 117 (.leaf 116 Tryz.f116) (.leaf 117 Tryz.f117)) (.node 119 (.leaf 118 Tryz.f118) (.leaf 119 Tryz.f119))) (.node 122 (.node 121 (.leaf 120 Tryz.f120) (.leaf 121 Tryz.f121)) (.node 123 (.leaf 122 Tryz.f122) (.node 124 (.leaf 123 Tryz.f123) (.leaf 124 Tryz.f124))))) (.node 130 (.node 127 (.node 126 (.leaf 125 Tryz.f125) (.leaf 126 Tryz.f126)) (.node 129 (.leaf 127 Tryz.f127) (.leaf 129 Tryz.f129))) (.node 139 (.node 131 (.leaf 130 Tryz.f130) (.leaf 131 Tryz.f131)) (.node 142 (.leaf 139 Tryz.f139) (.node 143 (.leaf 142 Tryz.f142) (.leaf 143 Tryz.f143)))))) (.node 162 (.node 154 (.node 148 (.node 147 (.leaf 146 Tryz.f146) (.leaf 147 Tryz.f147)) (.node 149 (.leaf 148 Tryz.f148) (.leaf 149 Tryz.f149))) (.node 159 (.node 155 (.leaf 154 Tryz.f154) (.leaf 155 Tryz.f155)) (.node 160 (.leaf 159 Tryz.f159) (.node 161 (.leaf 160 Tryz.f160) (.leaf 161 Tryz.f161))))) (.node 169 (.node 165 (.node 163 (.leaf 162 Tryz.f162) (.leaf 163 Tryz.f163)) (.node 167 (.leaf 165 Tryz.f165) (.node 168 (.leaf 167 Tryz.f167) (.leaf 168 Tryz.f168)))) (.node 171 (.node 170 (.leaf 169 Tryz.f169) (.leaf 170 Tryz.f170)) (.node 172 (.leaf 171 Tryz.f171) (.node 173 (.leaf 172 Tryz.f172) (.leaf 173 Tryz.f173)))))))))
def encF(fl:Bool):(th:Th)->domT th->List (SV thy)
  | .ints,(x:Int)=> [.int fl .i64 (x)]
  | .bys,(x:Int)=> [.int fl .u8 (x)]
  | .strs,(x:List Nat)=> [.str fl (x)]
  | .dims,(x:List Int)=> [.int fl .i64 (ah (x) 0 0),.int fl .i64 (ah (x) 1 0),.int fl .i64 (ah (x) 2 0),.int fl .i64 (ah (x) 3 0)]
  | .exprs,(x:Ex)=> [.int fl .i64 (Ex.op (x)),.int fl .i64 (Ex.n (x)),.int fl .i64 (Ex.d0 (x)),.int fl .i64 (Ex.d1 (x)),.int fl .i64 (Ex.d2 (x)),.int fl .i64 (Ex.d3 (x)),.psl Th.exprs (Ex.l (x)) ab]
  | .tests,(x:Tst)=> [.int fl .i64 (Tst.attr (x)),.int fl .i64 (Tst.low (x)),.int fl .i64 (Tst.high (x))]
  | .clauses,(x:Cls)=> [.str fl (Cls.name (x)),.psl Th.tests (Cls.when_ (x)) ab,.int fl .i64 (Ex.op (Cls.pay (x))),.int fl .i64 (Ex.n (Cls.pay (x))),.int fl .i64 (Ex.d0 (Cls.pay (x))),.int fl .i64 (Ex.d1 (Cls.pay (x))),.int fl .i64 (Ex.d2 (Cls.pay (x))),.int fl .i64 (Ex.d3 (Cls.pay (x))),.psl Th.exprs (Ex.l (Cls.pay (x))) ab]
  | .tariffs,(x:Tar)=> [.str fl (Tar.name (x)),.int fl .i64 (Tar.for_ (x)),.psl Th.clauses (Tar.clauses (x)) ab]
  | .ins,(x:Ins)=> [.int fl .i64 (Ins.op (x)),.int fl .i64 (Ins.n (x)),.int fl .i64 (Ins.m (x))]
  | .toks,(x:Tok)=> [.int fl .i64 (Tok.kind (x)),.str fl (Tok.text (x)),.int fl .i64 (Tok.n (x)),.int fl .i64 (Tok.at_ (x))]
  | .refs,(x:RefD)=> [.int fl .i64 (RefD.rw_ (x)),.int fl .i64 (RefD.no (x))]
  | .prts,(x:PrtD)=> [.int fl .i64 (PrtD.kind (x)),.int fl .i64 (PrtD.serial (x)),.bool fl (PrtD.fitted (x))]
  | .items,(x:ItD)=> [.int fl .i64 (ItD.kind (x)),.int fl .i64 (RefD.rw_ (ItD.ref (x))),.int fl .i64 (RefD.no (ItD.ref (x))),.int fl .i64 (ItD.wagon (x)),.int fl .i64 (ItD.place (x)),.int fl .i64 (ItD.other (x)),.int fl .i64 (ItD.number (x)),.int fl .i64 (ItD.from_ (x)),.int fl .i64 (ItD.to_ (x)),.int fl .i64 (ItD.code (x)),.int fl .i64 (ItD.dest (x)),.int fl .i64 (ItD.class_ (x)),.int fl .i64 (ItD.weight (x)),.int fl .i64 (ItD.amount (x)),.str fl (ItD.text (x)),.psl Th.prts (ItD.parts (x)) ab]
  | .pnts,(x:List Int)=> [.int fl .i64 (ah (x) 0 0),.int fl .i64 (ah (x) 1 0),.int fl .i64 (ah (x) 2 0),.int fl .i64 (ah (x) 3 0),.int fl .i64 (ah (x) 4 0),.int fl .i64 (ah (x) 5 0),.int fl .i64 (ah (x) 6 0),.int fl .i64 (ah (x) 7 0),.int fl .i64 (ah (x) 8 0),.int fl .i64 (ah (x) 9 0),.int fl .i64 (ah (x) 10 0),.int fl .i64 (ah (x) 11 0),.int fl .i64 (ah (x) 12 0),.int fl .i64 (ah (x) 13 0),.int fl .i64 (ah (x) 14 0),.int fl .i64 (ah (x) 15 0)]
  | .boxes,(x:Box)=>((.int fl .i64 (ah (Box.low (x)) 0 0))::(.int fl .i64 (ah (Box.low (x)) 1 0))::(.int fl .i64 (ah (Box.low (x)) 2 0))::(.int fl .i64 (ah (Box.low (x)) 3 0))::(.int fl .i64 (ah (Box.low (x)) 4 0))::(.int fl .i64 (ah (Box.low (x)) 5 0))::(.int fl .i64 (ah (Box.low (x)) 6 0))::(.int fl .i64 (ah (Box.low (x)) 7 0))::(.int fl .i64 (ah (Box.low (x)) 8 0))::(.int fl .i64 (ah (Box.low (x)) 9 0))::(.int fl .i64 (ah (Box.low (x)) 10 0))::(.int fl .i64 (ah (Box.low (x)) 11 0))::(.int fl .i64 (ah (Box.low (x)) 12 0))::(.int fl .i64 (ah (Box.low (x)) 13 0))::(.int fl .i64 (ah (Box.low (x)) 14 0))::(.int fl .i64 (ah (Box.low (x)) 15 0))::(.int fl .i64 (ah (Box.high (x)) 0 0))::(.int fl .i64 (ah (Box.high (x)) 1 0))::(.int fl .i64 (ah (Box.high (x)) 2 0))::(.int fl .i64 (ah (Box.high (x)) 3 0))::(.int fl .i64 (ah (Box.high (x)) 4 0))::(.int fl .i64 (ah (Box.high (x)) 5 0))::(.int fl .i64 (ah (Box.high (x)) 6 0))::(.int fl .i64 (ah (Box.high (x)) 7 0))::(.int fl .i64 (ah (Box.high (x)) 8 0))::(.int fl .i64 (ah (Box.high (x)) 9 0))::(.int fl .i64 (ah (Box.high (x)) 10 0))::(.int fl .i64 (ah (Box.high (x)) 11 0))::(.int fl .i64 (ah (Box.high (x)) 12 0))::(.int fl .i64 (ah (Box.high (x)) 13 0))::(.int fl .i64 (ah (Box.high (x)) 14 0))::(.int fl .i64 (ah (Box.high (x)) 15 0)):: [])
  | .reps,(x:Rep)=>((.int fl .i64 (RefD.rw_ (Rep.ref (x))))::(.int fl .i64 (RefD.no (Rep.ref (x))))::(.int fl .i64 (RefD.rw_ (Rep.by_ (x))))::(.int fl .i64 (RefD.no (Rep.by_ (x))))::(.int fl .i64 (Rep.time (x)))::(.int fl .i64 (ItD.kind (Rep.item (x))))::(.int fl .i64 (RefD.rw_ (ItD.ref (Rep.item (x)))))::(.int fl .i64 (RefD.no (ItD.ref (Rep.item (x)))))::(.int fl .i64 (ItD.wagon (Rep.item (x))))::(.int fl .i64 (ItD.place (Rep.item (x))))::(.int fl .i64 (ItD.other (Rep.item (x))))::(.int fl .i64 (ItD.number (Rep.item (x))))::(.int fl .i64 (ItD.from_ (Rep.item (x))))::(.int fl .i64 (ItD.to_ (Rep.item (x))))::(.int fl .i64 (ItD.code (Rep.item (x))))::(.int fl .i64 (ItD.dest (Rep.item (x))))::(.int fl .i64 (ItD.class_ (Rep.item (x))))::(.int fl .i64 (ItD.weight (Rep.item (x))))::(.int fl .i64 (ItD.amount (Rep.item (x))))::(.str fl (ItD.text (Rep.item (x))))::(.psl Th.prts (ItD.parts (Rep.item (x))) ab):: [])
  | .bools,(x:Bool)=> [.bool fl (x)]
  | .dimc,(x:Int)=> [.int fl .i64 (x)]
def Zmz:List (SV thy)->Option (Int)
  | [J]=>(gI .i64 J).bind λI=>ae (I)
  |_=>au
def Zs3:List (SV thy)->Option (Int)
  | [J]=>(gI .u8 J).bind λI=>ae (I)
  |_=>au
def Zm0:List (SV thy)->Option (List Nat)
  | [J]=>(gS J).bind λI=>ae (I)
  |_=>au
def Zm1:List (SV thy)->Option (List Int)
  | [c0,c1,c2,c3]=>(gI .i64 c0).bind λI=>(gI .i64 c1).bind λJ=>(gI .i64 c2).bind λR=>(gI .i64 c3).bind λU=>ae ([I,J,R,U])
  |_=>au
def Zim:List (SV thy)->Option (Ex)
  | [c0,c1,c2,c3,c4,c5,c6]=>(gI .i64 c0).bind λI=>(gI .i64 c1).bind λJ=>(gI .i64 c2).bind λR=>(gI .i64 c3).bind λU=>(gI .i64 c4).bind λa4=>(gI .i64 c5).bind λa5=>(Zne (Y:=thy) Th.exprs c6).bind λa6=>ae (Ex.mk I J R U a4 a5 a6)
  |_=>au
def Zin:List (SV thy)->Option (Tst)
  | [U,c1,c2]=>(gI .i64 U).bind λI=>(gI .i64 c1).bind λJ=>(gI .i64 c2).bind λR=>ae (Tst.mk (I) (J) (R))
  |_=>au
def Zdk:List (SV thy)->Option (Cls)
  | [c0,c1,c2,c3,c4,c5,c6,c7,c8]=>(gS c0).bind λI=>(Zne (Y:=thy) Th.tests c1).bind λJ=>(gI .i64 c2).bind λR=>(gI .i64 c3).bind λU=>(gI .i64 c4).bind λa4=>(gI .i64 c5).bind λa5=>(gI .i64 c6).bind λa6=>(gI .i64 c7).bind λa7=>(Zne (Y:=thy) Th.exprs c8).bind λa8=>ae (Cls.mk (I) (J) (Ex.mk R U a4 a5 a6 a7 a8))
  |_=>au
def Zdl:List (SV thy)->Option (Tar)
  | [U,c1,c2]=>(gS U).bind λI=>(gI .i64 c1).bind λJ=>(Zne (Y:=thy) Th.clauses c2).bind λR=>ae (Tar.mk (I) (J) (R))
  |_=>au
def Zs4:List (SV thy)->Option (Ins)
  | [U,c1,c2]=>(gI .i64 U).bind λI=>(gI .i64 c1).bind λJ=>(gI .i64 c2).bind λR=>ae (Ins.mk (I) (J) (R))
  |_=>au
def Zm2:List (SV thy)->Option (Tok)
  | [c0,c1,c2,c3]=>(gI .i64 c0).bind λI=>(gS c1).bind λJ=>(gI .i64 c2).bind λR=>(gI .i64 c3).bind λU=>ae (Tok.mk (I) (J) (R) (U))
  |_=>au
def Zv7:List (SV thy)->Option (RefD):=λ_=>au
def Zv8:List (SV thy)->Option (PrtD):=λ_=>au
def Zpl:List (SV thy)->Option (ItD):=λ_=>au
def Zm3:List (SV thy)->Option (List Int)
  | [c0,c1,c2,c3,c4,c5,c6,c7,c8,c9,b2,b3,b4,b5,b6,b7]=>(gI .i64 c0).bind λI=>(gI .i64 c1).bind λJ=>(gI .i64 c2).bind λa2=>(gI .i64 c3).bind λa3=>(gI .i64 c4).bind λa4=>(gI .i64 c5).bind λa5=>(gI .i64 c6).bind λa6=>(gI .i64 c7).bind λa7=>(gI .i64 c8).bind λa8=>(gI .i64 c9).bind λa9=>(gI .i64 b2).bind λR=>(gI .i64 b3).bind λU=>(gI .i64 b4).bind λa0=>(gI .i64 b5).bind λa1=>(gI .i64 b6).bind λb0=>(gI .i64 b7).bind λb1=>ae ([I,J,a2,a3,a4,a5,a6,a7,a8,a9,R,U,a0,a1,b0,b1])
  |_=>au
def Zio:List (SV thy)->Option (Box)
  |(c0::c1::c2::c3::c4::c5::c6::c7::c8::c9::e2::e3::e4::e5::e6::e7::e8::e9::f0::f1::f2::f3::f4::f5::f6::f7::f8::f9::g0::g1::g2::g3:: [])=>(gI .i64 c0).bind λI=>(gI .i64 c1).bind λJ=>(gI .i64 c2).bind λa2=>(gI .i64 c3).bind λa3=>(gI .i64 c4).bind λa4=>(gI .i64 c5).bind λa5=>(gI .i64 c6).bind λa6=>(gI .i64 c7).bind λa7=>(gI .i64 c8).bind λa8=>(gI .i64 c9).bind λa9=>(gI .i64 e2).bind λR=>(gI .i64 e3).bind λU=>(gI .i64 e4).bind λa0=>(gI .i64 e5).bind λa1=>(gI .i64 e6).bind λb0=>(gI .i64 e7).bind λb1=>(gI .i64 e8).bind λb2=>(gI .i64 e9).bind λb3=>(gI .i64 f0).bind λb4=>(gI .i64 f1).bind λb5=>(gI .i64 f2).bind λb6=>(gI .i64 f3).bind λb7=>(gI .i64 f4).bind λb8=>(gI .i64 f5).bind λb9=>(gI .i64 f6).bind λd4=>(gI .i64 f7).bind λd5=>(gI .i64 f8).bind λd6=>(gI .i64 f9).bind λd7=>(gI .i64 g0).bind λd8=>(gI .i64 g1).bind λd9=>(gI .i64 g2).bind λe0=>(gI .i64 g3).bind λe1=>ae (Box.mk ([I,J,a2,a3,a4,a5,a6,a7,a8,a9,R,U,a0,a1,b0,b1]) ([b2,b3,b4,b5,b6,b7,b8,b9,d4,d5,d6,d7,d8,d9,e0,e1]))
  |_=>au
def Zm4:List (SV thy)->Option (Rep)
  |(c0::c1::c2::c3::c4::c5::c6::c7::c8::c9::b7::b8::b9::d4::d5::d6::d7::d8::d9::e0::e1:: [])=>(gI .i64 c0).bind λI=>(gI .i64 c1).bind λJ=>(gI .i64 c2).bind λa2=>(gI .i64 c3).bind λa3=>(gI .i64 c4).bind λa4=>(gI .i64 c5).bind λa5=>(gI .i64 c6).bind λa6=>(gI .i64 c7).bind λa7=>(gI .i64 c8).bind λa8=>(gI .i64 c9).bind λa9=>(gI .i64 b7).bind λR=>(gI .i64 b8).bind λU=>(gI .i64 b9).bind λa0=>(gI .i64 d4).bind λa1=>(gI .i64 d5).bind λb0=>(gI .i64 d6).bind λb1=>(gI .i64 d7).bind λb2=>(gI .i64 d8).bind λb3=>(gI .i64 d9).bind λb4=>(gS e0).bind λb5=>(Zne (Y:=thy) Th.prts e1).bind λb6=>ae (Rep.mk (RefD.mk (I) (J)) (RefD.mk (a2) (a3)) (a4) (ItD.mk (a5) (RefD.mk (a6) (a7)) (a8) (a9) (R) (U) (a0) (a1) (b0) (b1) (b2) (b3) (b4) (b5) (b6)))
  |_=>au
def Zip:List (SV thy)->Option (Bool)
  | [J]=>(gB J).bind λI=>ae (I)
  |_=>au
def Zm5:List (SV thy)->Option (Int)
  | [J]=>(gI .i64 J).bind λI=>ae (I)
  |_=>au
def decT:(th:Th)->List (SV thy)->Option (domT th)| .ints=>Zmz| .bys=>Zs3| .strs=>Zm0| .dims=>Zm1| .exprs=>Zim| .tests=>Zin| .clauses=>Zdk| .tariffs=>Zdl| .ins=>Zs4| .toks=>Zm2| .refs=>Zv7| .prts=>Zv8| .items=>Zpl| .pnts=>Zm3| .boxes=>Zio| .reps=>Zm4| .bools=>Zip| .dimc=>Zm5
def wT:Th->Nat| .ints=>1| .bys=>1| .strs=>1| .dims=>4| .exprs=>7| .tests=>3| .clauses=>9| .tariffs=>3| .ins=>3| .toks=>4| .refs=>2| .prts=>3| .items=>16| .pnts=>16| .boxes=>32| .reps=>21| .bools=>1| .dimc=>1
def elT:Th->TypeId| .ints=>3| .bys=>5| .strs=>9| .dims=>55| .exprs=>58| .tests=>130| .clauses=>60| .tariffs=>25| .ins=>159| .toks=>120| .refs=>43| .prts=>277| .items=>46| .pnts=>103| .boxes=>105| .reps=>48| .bools=>4| .dimc=>55
noncomputable def thT:Tr Th:=(.node 55 (.node 25 (.node 5 (.node 4 (.leaf 3 Th.ints) (.leaf 4 Th.bools)) (.node 9 (.leaf 5 Th.bys) (.leaf 9 Th.strs))) (.node 46 (.node 43 (.leaf 25 Th.tariffs) (.leaf 43 Th.refs)) (.node 48 (.leaf 46 Th.items) (.leaf 48 Th.reps)))) (.node 105 (.node 60 (.node 58 (.leaf 55 Th.dims) (.leaf 58 Th.exprs)) (.node 103 (.leaf 60 Th.clauses) (.leaf 103 Th.pnts))) (.node 130 (.node 120 (.leaf 105 Th.boxes) (.leaf 120 Th.toks)) (.node 159 (.leaf 130 Th.tests) (.node 277 (.leaf 159 Th.ins) (.leaf 277 Th.prts))))))
noncomputable def arrT:Tr Th:=(.leaf 55 Th.dimc)
noncomputable def smapT:Tr Th:=(.node 175 (.leaf 135 Th.bools) (.node 217 (.leaf 175 Th.clauses) (.leaf 217 Th.ints)))
def mkE(k:Nat) (s:List Nat):Value×SV thy:=(.int .u8 k,.str ac s)
def mkR(s:List Nat):Value×SV thy:=(.string (mkS s),.bool ac ac)
def spaceT:List (SV thy):=aR 9 (.int ac .u8 0)++(aR 5 (.int ac .u8 1)++(aR 18 (.int ac .u8 0)++ .int ac .u8 1::aR 223 (.int ac .u8 0)))
def Zkr(n:Nat):Option (SV thy):=match n with|0=>ae (.agg spaceT)|1=>ae (.pmap [mkE 123 [123],mkE 125 [125],mkE 40 [40],mkE 41 [41],mkE 59 [59],mkE 44 [44],mkE 43 [43],mkE 45 [45],mkE 42 [42],mkE 60 [60],mkE 46 [46,46]])|2=>ae (.pmap [mkR [116,97,114,105,102,102],mkR [102,111,114],mkR [99,108,97,117,115,101],mkR [119,104,101,110],mkR [97,110,100],mkR [105,110],mkR [105,115],mkR [112,97,121],mkR [109,105,110],mkR [109,97,120],mkR [100,111,119,110],mkR [117,112],mkR [104,97,108,102],mkR [105,102],mkR [109,111,110,101,121],mkR [109,105,110,117,116,101],mkR [112,101,114],mkR [107,103],mkR [116,121,112,101],mkR [111,119,110,101,114],mkR [114,97,105,108,119,97,121],mkR [115,104,105,112,112,101,114],mkR [99,108,97,115,115],mkR [119,101,105,103,104,116],mkR [107,109],mkR [109,105,110,117,116,101,115],mkR [119,111,114,107,105,110,103],mkR [99,111,100,101],mkR [119,111,114,116,104],mkR [99,111,115,116],mkR [109,111,110,116,104],mkR [98,101,103,105,110],mkR [112,97,114,116,115],mkR [112,97,114,116],mkR [104,105,114,101],mkR [100,101,109,117,114,114,97,103,101],mkR [102,114,101,105,103,104,116],mkR [114,101,112,97,105,114],mkR [108,111,115,115],mkR [99,108,101,97,110,105,110,103]])|7=>ae (.agg [.int ac .u64 1,.int ac .u64 10,.int ac .u64 100,.int ac .u64 1000,.int ac .u64 10000,.int ac .u64 100000,.int ac .u64 1000000,.int ac .u64 10000000,.int ac .u64 100000000,.int ac .u64 1000000000,.int ac .u64 10000000000,.int ac .u64 100000000000,.int ac .u64 1000000000000,.int ac .u64 10000000000000,.int ac .u64 100000000000000,.int ac .u64 1000000000000000,.int ac .u64 10000000000000000,.int ac .u64 100000000000000000,.int ac .u64 1000000000000000000,.int ac .u64 10000000000000000000])|_=>au
def extT(n:Nat):Option ExtK:=match n with|128=>ae .indexByteS|144=>ae .same|_=>au
theorem Z3j:∀f x,extT f=ae x->ExtGood Tryz.prog f x:=by
  intro f x h;unfold extT at h;split at h
  ·cases h;exact⟨Tryz.f128,by kernel_rfl,by kernel_rfl,by kernel_rfl,by kernel_rfl,by kernel_rfl⟩
  ·cases h;exact⟨Tryz.f144,by kernel_rfl,by kernel_rfl,by kernel_rfl,by kernel_rfl,by kernel_rfl⟩
  ·cases h
def eqsT:List TypeId:= [42,43,54,55,73,74,102,103,104,105,108,109,119,120,129,130,137,155,158,159,191,192,211,212,224,225,227,228,248,253,254,255,258,259,262,263,276,277]
noncomputable def E:Eng thy:={P:=Tryz.prog,ty:=tyT.get,enc:=encF ab,w:=wT,el:=elT,thOf:=thT.get,dec:=decT,glob:=Zkr,lit:=false,eqs:=eqsT,arrOf:=arrT.get,ext:=extT,smap:=smapT.get,rowS:=λt=>memB t [68,86,50],nap:=λt=>memB t [159]}
noncomputable def EL:Eng thy:={P:=Tryz.prog,ty:=tyT.get,enc:=encF ac,w:=wT,el:=elT,thOf:=thT.get,dec:=decT,glob:=Zkr,lit:=true,eqs:=eqsT,arrOf:=λ_=>au,ext:=extT}
noncomputable def F0:Fns thy:={sums:=λ_=>au,fns:=fnT.get,loops:=λ_ _=>au,defs:=λf=>memB f [7,41]}
theorem Zs5{fl:Bool} {E':Eng thy} {cs:List (SV thy)} {x:Int} (h:Zmz cs=ae x):cs.length=1/\nidL 0 cs=ac/\∀σ g (j:Nat) R U v,cs[j]? =ae R->(encF fl .ints x)[j]? =ae U->Den E' σ g R v->Den E' σ g U v:=by
  unfold Zmz at h;split at h
  ·rename_i c0
   obtain⟨a0,h0,h⟩:=aj.1 h;cases h;refine⟨rfl,by simp only[nidL,Zg h0,da],λσ g j R U v I J hd=> ?_⟩
   match j,I,J with
   |0,I,J=>cases I;cases J;exact Zf h0 hd
   |j+1,I,J=>cases I
  ·cases h
theorem Zza{fl:Bool} {E':Eng thy} {cs:List (SV thy)} {x:Int} (h:Zs3 cs=ae x):cs.length=1/\nidL 0 cs=ac/\∀σ g (j:Nat) R U v,cs[j]? =ae R->(encF fl .bys x)[j]? =ae U->Den E' σ g R v->Den E' σ g U v:=by
  unfold Zs3 at h;split at h
  ·rename_i c0
   obtain⟨a0,h0,h⟩:=aj.1 h;cases h;refine⟨rfl,by simp only[nidL,Zg h0,da],λσ g j R U v I J hd=> ?_⟩
   match j,I,J with
   |0,I,J=>cases I;cases J;exact Zf h0 hd
   |j+1,I,J=>cases I
  ·cases h
theorem Zs6{fl:Bool} {E':Eng thy} {cs:List (SV thy)} {x:List Nat} (h:Zm0 cs=ae x):cs.length=1/\nidL 0 cs=ac/\∀σ g (j:Nat) R U v,cs[j]? =ae R->(encF fl .strs x)[j]? =ae U->Den E' σ g R v->Den E' σ g U v:=by
  unfold Zm0 at h;split at h
  ·rename_i c0
   obtain⟨a0,h0,h⟩:=aj.1 h;cases h;refine⟨rfl,by simp only[nidL,Zp7 h0,da],λσ g j R U v I J hd=> ?_⟩
   match j,I,J with
   |0,I,J=>cases I;cases J;exact Zp6 h0 hd
   |j+1,I,J=>cases I
  ·cases h
theorem Zs7{fl:Bool} {E':Eng thy} {cs:List (SV thy)} {x:List Int} (h:Zm1 cs=ae x):cs.length=4/\nidL 0 cs=ac/\∀σ g (j:Nat) R U v,cs[j]? =ae R->(encF fl .dims x)[j]? =ae U->Den E' σ g R v->Den E' σ g U v:=by
  unfold Zm1 at h;split at h
  ·rename_i c0 c1 c2 c3
   obtain⟨a0,h0,h⟩:=aj.1 h;obtain⟨a1,h1,h⟩:=aj.1 h;obtain⟨a2,h2,h⟩:=aj.1 h;obtain⟨a3,h3,h⟩:=aj.1 h;cases h;refine⟨rfl,by simp only[nidL,Zg h0,Zg h1,Zg h2,Zg h3,da],λσ g j R U v I J hd=> ?_⟩
   match j,I,J with
   |0,I,J=>cases I;cases J;exact Zf h0 hd
   |1,I,J=>cases I;cases J;exact Zf h1 hd
   |2,I,J=>cases I;cases J;exact Zf h2 hd
   |3,I,J=>cases I;cases J;exact Zf h3 hd
   |j+4,I,J=>cases I
  ·cases h
theorem Zpm{fl:Bool} {E':Eng thy} {cs:List (SV thy)} {x:Ex} (h:Zim cs=ae x):cs.length=7/\nidL 0 cs=ac/\∀σ g (j:Nat) R U v,cs[j]? =ae R->(encF fl .exprs x)[j]? =ae U->Den E' σ g R v->Den E' σ g U v:=by
  unfold Zim at h;split at h
  ·rename_i c0 c1 c2 c3 c4 c5 c6
   obtain⟨a0,h0,h⟩:=aj.1 h;obtain⟨a1,h1,h⟩:=aj.1 h;obtain⟨a2,h2,h⟩:=aj.1 h;obtain⟨a3,h3,h⟩:=aj.1 h;obtain⟨a4,h4,h⟩:=aj.1 h;obtain⟨a5,h5,h⟩:=aj.1 h;obtain⟨a6,h6,h⟩:=aj.1 h;cases h;refine⟨rfl,by simp only[nidL,Zg h0,Zg h1,Zg h2,Zg h3,Zg h4,Zg h5,Zi4 h6,da],λσ g j R U v I J hd=> ?_⟩
   match j,I,J with
   |0,I,J=>cases I;cases J;exact Zf h0 hd
   |1,I,J=>cases I;cases J;exact Zf h1 hd
   |2,I,J=>cases I;cases J;exact Zf h2 hd
   |3,I,J=>cases I;cases J;exact Zf h3 hd
   |4,I,J=>cases I;cases J;exact Zf h4 hd
   |5,I,J=>cases I;cases J;exact Zf h5 hd
   |6,I,J=>cases I;cases J;exact Zi3 h6 hd
   |j+7,I,J=>cases I
  ·cases h
theorem Zpn{fl:Bool} {E':Eng thy} {cs:List (SV thy)} {x:Tst} (h:Zin cs=ae x):cs.length=3/\nidL 0 cs=ac/\∀σ g (j:Nat) R U v,cs[j]? =ae R->(encF fl .tests x)[j]? =ae U->Den E' σ g R v->Den E' σ g U v:=by
  unfold Zin at h;split at h
  ·rename_i c0 c1 c2
   obtain⟨a0,h0,h⟩:=aj.1 h;obtain⟨a1,h1,h⟩:=aj.1 h;obtain⟨a2,h2,h⟩:=aj.1 h;cases h;refine⟨rfl,by simp only[nidL,Zg h0,Zg h1,Zg h2,da],λσ g j R U v I J hd=> ?_⟩
   match j,I,J with
   |0,I,J=>cases I;cases J;exact Zf h0 hd
   |1,I,J=>cases I;cases J;exact Zf h1 hd
   |2,I,J=>cases I;cases J;exact Zf h2 hd
   |j+3,I,J=>cases I
  ·cases h
theorem Zks{fl:Bool} {E':Eng thy} {cs:List (SV thy)} {x:Cls} (h:Zdk cs=ae x):cs.length=9/\nidL 0 cs=ac/\∀σ g (j:Nat) R U v,cs[j]? =ae R->(encF fl .clauses x)[j]? =ae U->Den E' σ g R v->Den E' σ g U v:=by
  unfold Zdk at h;split at h
  ·rename_i c0 c1 c2 c3 c4 c5 c6 c7 c8
   obtain⟨a0,h0,h⟩:=aj.1 h;obtain⟨a1,h1,h⟩:=aj.1 h;obtain⟨a2,h2,h⟩:=aj.1 h;obtain⟨a3,h3,h⟩:=aj.1 h;obtain⟨a4,h4,h⟩:=aj.1 h;obtain⟨a5,h5,h⟩:=aj.1 h;obtain⟨a6,h6,h⟩:=aj.1 h;obtain⟨a7,h7,h⟩:=aj.1 h;obtain⟨a8,h8,h⟩:=aj.1 h;cases h;refine⟨rfl,by simp only[nidL,Zp7 h0,Zi4 h1,Zg h2,Zg h3,Zg h4,Zg h5,Zg h6,Zg h7,Zi4 h8,da],λσ g j R U v I J hd=> ?_⟩
   match j,I,J with
   |0,I,J=>cases I;cases J;exact Zp6 h0 hd
   |1,I,J=>cases I;cases J;exact Zi3 h1 hd
   |2,I,J=>cases I;cases J;exact Zf h2 hd
   |3,I,J=>cases I;cases J;exact Zf h3 hd
   |4,I,J=>cases I;cases J;exact Zf h4 hd
   |5,I,J=>cases I;cases J;exact Zf h5 hd
   |6,I,J=>cases I;cases J;exact Zf h6 hd
   |7,I,J=>cases I;cases J;exact Zf h7 hd
   |8,I,J=>cases I;cases J;exact Zi3 h8 hd
   |j+9,I,J=>cases I
  ·cases h
theorem Zkt{fl:Bool} {E':Eng thy} {cs:List (SV thy)} {x:Tar} (h:Zdl cs=ae x):cs.length=3/\nidL 0 cs=ac/\∀σ g (j:Nat) R U v,cs[j]? =ae R->(encF fl .tariffs x)[j]? =ae U->Den E' σ g R v->Den E' σ g U v:=by
  unfold Zdl at h;split at h
  ·rename_i c0 c1 c2
   obtain⟨a0,h0,h⟩:=aj.1 h;obtain⟨a1,h1,h⟩:=aj.1 h;obtain⟨a2,h2,h⟩:=aj.1 h;cases h;refine⟨rfl,by simp only[nidL,Zp7 h0,Zg h1,Zi4 h2,da],λσ g j R U v I J hd=> ?_⟩
   match j,I,J with
   |0,I,J=>cases I;cases J;exact Zp6 h0 hd
   |1,I,J=>cases I;cases J;exact Zf h1 hd
   |2,I,J=>cases I;cases J;exact Zi3 h2 hd
   |j+3,I,J=>cases I
  ·cases h
theorem Zzb{fl:Bool} {E':Eng thy} {cs:List (SV thy)} {x:Ins} (h:Zs4 cs=ae x):cs.length=3/\nidL 0 cs=ac/\∀σ g (j:Nat) R U v,cs[j]? =ae R->(encF fl .ins x)[j]? =ae U->Den E' σ g R v->Den E' σ g U v:=by
  unfold Zs4 at h;split at h
  ·rename_i c0 c1 c2
   obtain⟨a0,h0,h⟩:=aj.1 h;obtain⟨a1,h1,h⟩:=aj.1 h;obtain⟨a2,h2,h⟩:=aj.1 h;cases h;refine⟨rfl,by simp only[nidL,Zg h0,Zg h1,Zg h2,da],λσ g j R U v I J hd=> ?_⟩
   match j,I,J with
   |0,I,J=>cases I;cases J;exact Zf h0 hd
   |1,I,J=>cases I;cases J;exact Zf h1 hd
   |2,I,J=>cases I;cases J;exact Zf h2 hd
   |j+3,I,J=>cases I
  ·cases h
theorem Zs8{fl:Bool} {E':Eng thy} {cs:List (SV thy)} {x:Tok} (h:Zm2 cs=ae x):cs.length=4/\nidL 0 cs=ac/\∀σ g (j:Nat) R U v,cs[j]? =ae R->(encF fl .toks x)[j]? =ae U->Den E' σ g R v->Den E' σ g U v:=by
  unfold Zm2 at h;split at h
  ·rename_i c0 c1 c2 c3
   obtain⟨a0,h0,h⟩:=aj.1 h;obtain⟨a1,h1,h⟩:=aj.1 h;obtain⟨a2,h2,h⟩:=aj.1 h;obtain⟨a3,h3,h⟩:=aj.1 h;cases h;refine⟨rfl,by simp only[nidL,Zg h0,Zp7 h1,Zg h2,Zg h3,da],λσ g j R U v I J hd=> ?_⟩
   match j,I,J with
   |0,I,J=>cases I;cases J;exact Zf h0 hd
   |1,I,J=>cases I;cases J;exact Zp6 h1 hd
   |2,I,J=>cases I;cases J;exact Zf h2 hd
   |3,I,J=>cases I;cases J;exact Zf h3 hd
   |j+4,I,J=>cases I
  ·cases h
theorem Zs9{fl:Bool} {E':Eng thy} {cs:List (SV thy)} {x:RefD} (h:Zv7 cs=ae x):cs.length=2/\nidL 0 cs=ac/\∀σ g (j:Nat) I J v,cs[j]? =ae I->(encF fl .refs x)[j]? =ae J->Den E' σ g I v->Den E' σ g J v:=nomatch h
theorem Zta{fl:Bool} {E':Eng thy} {cs:List (SV thy)} {x:PrtD} (h:Zv8 cs=ae x):cs.length=3/\nidL 0 cs=ac/\∀σ g (j:Nat) I J v,cs[j]? =ae I->(encF fl .prts x)[j]? =ae J->Den E' σ g I v->Den E' σ g J v:=nomatch h
theorem Zpo{fl:Bool} {E':Eng thy} {cs:List (SV thy)} {x:ItD} (h:Zpl cs=ae x):cs.length=16/\nidL 0 cs=ac/\∀σ g (j:Nat) I J v,cs[j]? =ae I->(encF fl .items x)[j]? =ae J->Den E' σ g I v->Den E' σ g J v:=nomatch h
theorem Ztb{fl:Bool} {E':Eng thy} {cs:List (SV thy)} {x:List Int} (h:Zm3 cs=ae x):cs.length=16/\nidL 0 cs=ac/\∀σ g (j:Nat) R U v,cs[j]? =ae R->(encF fl .pnts x)[j]? =ae U->Den E' σ g R v->Den E' σ g U v:=by
  unfold Zm3 at h;split at h
  ·rename_i c0 c1 c2 c3 c4 c5 c6 c7 c8 c9 d6 d7 d8 d9 e0 e1
   obtain⟨a0,h0,h⟩:=aj.1 h;obtain⟨a1,h1,h⟩:=aj.1 h;obtain⟨a2,h2,h⟩:=aj.1 h;obtain⟨a3,h3,h⟩:=aj.1 h;obtain⟨a4,h4,h⟩:=aj.1 h;obtain⟨a5,h5,h⟩:=aj.1 h;obtain⟨a6,h6,h⟩:=aj.1 h;obtain⟨a7,h7,h⟩:=aj.1 h;obtain⟨a8,h8,h⟩:=aj.1 h;obtain⟨a9,h9,h⟩:=aj.1 h;obtain⟨b6,b0,h⟩:=aj.1 h;obtain⟨b7,b1,h⟩:=aj.1 h
   obtain⟨b8,b2,h⟩:=aj.1 h;obtain⟨b9,b3,h⟩:=aj.1 h;obtain⟨d4,b4,h⟩:=aj.1 h;obtain⟨d5,b5,h⟩:=aj.1 h;cases h;refine⟨rfl,by simp only[nidL,Zg h0,Zg h1,Zg h2,Zg h3,Zg h4,Zg h5,Zg h6,Zg h7,Zg h8,Zg h9,Zg b0,Zg b1,Zg b2,Zg b3,Zg b4,Zg b5,da],λσ g j R U v I J hd=> ?_⟩
   match j,I,J with
   |0,I,J=>cases I;cases J;exact Zf h0 hd
   |1,I,J=>cases I;cases J;exact Zf h1 hd
   |2,I,J=>cases I;cases J;exact Zf h2 hd
   |3,I,J=>cases I;cases J;exact Zf h3 hd
   |4,I,J=>cases I;cases J;exact Zf h4 hd
   |5,I,J=>cases I;cases J;exact Zf h5 hd
   |6,I,J=>cases I;cases J;exact Zf h6 hd
   |7,I,J=>cases I;cases J;exact Zf h7 hd
   |8,I,J=>cases I;cases J;exact Zf h8 hd
   |9,I,J=>cases I;cases J;exact Zf h9 hd
   |10,I,J=>cases I;cases J;exact Zf b0 hd
   |11,I,J=>cases I;cases J;exact Zf b1 hd
   |12,I,J=>cases I;cases J;exact Zf b2 hd
   |13,I,J=>cases I;cases J;exact Zf b3 hd
   |14,I,J=>cases I;cases J;exact Zf b4 hd
   |15,I,J=>cases I;cases J;exact Zf b5 hd
   |j+16,I,J=>cases I
  ·cases h
theorem Zpp{fl:Bool} {E':Eng thy} {cs:List (SV thy)} {x:Box} (h:Zio cs=ae x):cs.length=32/\nidL 0 cs=ac/\∀σ g (j:Nat) R U v,cs[j]? =ae R->(encF fl .boxes x)[j]? =ae U->Den E' σ g R v->Den E' σ g U v:=by
  unfold Zio at h;split at h
  ·rename_i c0 c1 c2 c3 c4 c5 c6 c7 c8 c9 g8 g9 i1 i2 i3 i4 i5 i6 i7 i9 j0 j1 j2 j3 j4 j5 j6 j7 j8 j9 k0 k1
   obtain⟨a0,h0,h⟩:=aj.1 h;obtain⟨a1,h1,h⟩:=aj.1 h;obtain⟨a2,h2,h⟩:=aj.1 h;obtain⟨a3,h3,h⟩:=aj.1 h;obtain⟨a4,h4,h⟩:=aj.1 h;obtain⟨a5,h5,h⟩:=aj.1 h;obtain⟨a6,h6,h⟩:=aj.1 h;obtain⟨a7,h7,h⟩:=aj.1 h;obtain⟨a8,h8,h⟩:=aj.1 h;obtain⟨a9,h9,h⟩:=aj.1 h;obtain⟨e6,b0,h⟩:=aj.1 h;obtain⟨e7,b1,h⟩:=aj.1 h
   obtain⟨e8,b2,h⟩:=aj.1 h;obtain⟨e9,b3,h⟩:=aj.1 h;obtain⟨f0,b4,h⟩:=aj.1 h;obtain⟨f1,b5,h⟩:=aj.1 h;obtain⟨f2,b6,h⟩:=aj.1 h;obtain⟨f3,b7,h⟩:=aj.1 h;obtain⟨f4,b8,h⟩:=aj.1 h;obtain⟨f5,b9,h⟩:=aj.1 h;obtain⟨f6,d4,h⟩:=aj.1 h;obtain⟨f7,d5,h⟩:=aj.1 h;obtain⟨f8,d6,h⟩:=aj.1 h;obtain⟨f9,d7,h⟩:=aj.1 h
   obtain⟨g0,d8,h⟩:=aj.1 h;obtain⟨g1,d9,h⟩:=aj.1 h;obtain⟨g2,e0,h⟩:=aj.1 h;obtain⟨g3,e1,h⟩:=aj.1 h;obtain⟨g4,e2,h⟩:=aj.1 h;obtain⟨g5,e3,h⟩:=aj.1 h;obtain⟨g6,e4,h⟩:=aj.1 h;obtain⟨g7,e5,h⟩:=aj.1 h;cases h
   refine⟨rfl,by simp only[nidL,Zg h0,Zg h1,Zg h2,Zg h3,Zg h4,Zg h5,Zg h6,Zg h7,Zg h8,Zg h9,Zg b0,Zg b1,Zg b2,Zg b3,Zg b4,Zg b5,Zg b6,Zg b7,Zg b8,Zg b9,Zg d4,Zg d5,Zg d6,Zg d7,Zg d8,Zg d9,Zg e0,Zg e1,Zg e2,Zg e3,Zg e4,Zg e5,da],λσ g j R U v I J hd=> ?_⟩
   match j,I,J with
   |0,I,J=>cases I;cases J;exact Zf h0 hd
   |1,I,J=>cases I;cases J;exact Zf h1 hd
   |2,I,J=>cases I;cases J;exact Zf h2 hd
   |3,I,J=>cases I;cases J;exact Zf h3 hd
   |4,I,J=>cases I;cases J;exact Zf h4 hd
   |5,I,J=>cases I;cases J;exact Zf h5 hd
   |6,I,J=>cases I;cases J;exact Zf h6 hd
   |7,I,J=>cases I;cases J;exact Zf h7 hd
   |8,I,J=>cases I;cases J;exact Zf h8 hd
   |9,I,J=>cases I;cases J;exact Zf h9 hd
   |10,I,J=>cases I;cases J;exact Zf b0 hd
   |11,I,J=>cases I;cases J;exact Zf b1 hd
   |12,I,J=>cases I;cases J;exact Zf b2 hd
   |13,I,J=>cases I;cases J;exact Zf b3 hd
   |14,I,J=>cases I;cases J;exact Zf b4 hd
   |15,I,J=>cases I;cases J;exact Zf b5 hd
   |16,I,J=>cases I;cases J;exact Zf b6 hd
   |17,I,J=>cases I;cases J;exact Zf b7 hd
   |18,I,J=>cases I;cases J;exact Zf b8 hd
   |19,I,J=>cases I;cases J;exact Zf b9 hd
   |20,I,J=>cases I;cases J;exact Zf d4 hd
   |21,I,J=>cases I;cases J;exact Zf d5 hd
   |22,I,J=>cases I;cases J;exact Zf d6 hd
   |23,I,J=>cases I;cases J;exact Zf d7 hd
   |24,I,J=>cases I;cases J;exact Zf d8 hd
   |25,I,J=>cases I;cases J;exact Zf d9 hd
   |26,I,J=>cases I;cases J;exact Zf e0 hd
   |27,I,J=>cases I;cases J;exact Zf e1 hd
   |28,I,J=>cases I;cases J;exact Zf e2 hd
   |29,I,J=>cases I;cases J;exact Zf e3 hd
   |30,I,J=>cases I;cases J;exact Zf e4 hd
   |31,I,J=>cases I;cases J;exact Zf e5 hd
   |j+32,I,J=>cases I
  ·cases h
theorem Ztc{fl:Bool} {E':Eng thy} {cs:List (SV thy)} {x:Rep} (h:Zm4 cs=ae x):cs.length=21/\nidL 0 cs=ac/\∀σ g (j:Nat) R U v,cs[j]? =ae R->(encF fl .reps x)[j]? =ae U->Den E' σ g R v->Den E' σ g U v:=by
  unfold Zm4 at h;split at h
  ·rename_i c0 c1 c2 c3 c4 c5 c6 c7 c8 c9 e6 e7 e8 e9 f0 f1 f2 f3 f4 f5 f6
   obtain⟨a0,h0,h⟩:=aj.1 h;obtain⟨a1,h1,h⟩:=aj.1 h;obtain⟨a2,h2,h⟩:=aj.1 h;obtain⟨a3,h3,h⟩:=aj.1 h;obtain⟨a4,h4,h⟩:=aj.1 h;obtain⟨a5,h5,h⟩:=aj.1 h;obtain⟨a6,h6,h⟩:=aj.1 h;obtain⟨a7,h7,h⟩:=aj.1 h;obtain⟨a8,h8,h⟩:=aj.1 h;obtain⟨a9,h9,h⟩:=aj.1 h;obtain⟨d5,b0,h⟩:=aj.1 h;obtain⟨d6,b1,h⟩:=aj.1 h
   obtain⟨d7,b2,h⟩:=aj.1 h;obtain⟨d8,b3,h⟩:=aj.1 h;obtain⟨d9,b4,h⟩:=aj.1 h;obtain⟨e0,b5,h⟩:=aj.1 h;obtain⟨e1,b6,h⟩:=aj.1 h;obtain⟨e2,b7,h⟩:=aj.1 h;obtain⟨e3,b8,h⟩:=aj.1 h;obtain⟨e4,b9,h⟩:=aj.1 h;obtain⟨e5,d4,h⟩:=aj.1 h;cases h
   refine⟨rfl,by simp only[nidL,Zg h0,Zg h1,Zg h2,Zg h3,Zg h4,Zg h5,Zg h6,Zg h7,Zg h8,Zg h9,Zg b0,Zg b1,Zg b2,Zg b3,Zg b4,Zg b5,Zg b6,Zg b7,Zg b8,Zp7 b9,Zi4 d4,da],λσ g j R U v I J hd=> ?_⟩
   match j,I,J with
   |0,I,J=>cases I;cases J;exact Zf h0 hd
   |1,I,J=>cases I;cases J;exact Zf h1 hd
   |2,I,J=>cases I;cases J;exact Zf h2 hd
   |3,I,J=>cases I;cases J;exact Zf h3 hd
   |4,I,J=>cases I;cases J;exact Zf h4 hd
   |5,I,J=>cases I;cases J;exact Zf h5 hd
   |6,I,J=>cases I;cases J;exact Zf h6 hd
   |7,I,J=>cases I;cases J;exact Zf h7 hd
   |8,I,J=>cases I;cases J;exact Zf h8 hd
   |9,I,J=>cases I;cases J;exact Zf h9 hd
   |10,I,J=>cases I;cases J;exact Zf b0 hd
   |11,I,J=>cases I;cases J;exact Zf b1 hd
   |12,I,J=>cases I;cases J;exact Zf b2 hd
   |13,I,J=>cases I;cases J;exact Zf b3 hd
   |14,I,J=>cases I;cases J;exact Zf b4 hd
   |15,I,J=>cases I;cases J;exact Zf b5 hd
   |16,I,J=>cases I;cases J;exact Zf b6 hd
   |17,I,J=>cases I;cases J;exact Zf b7 hd
   |18,I,J=>cases I;cases J;exact Zf b8 hd
   |19,I,J=>cases I;cases J;exact Zp6 b9 hd
   |20,I,J=>cases I;cases J;exact Zi3 d4 hd
   |j+21,I,J=>cases I
  ·cases h
theorem Zpq{fl:Bool} {E':Eng thy} {cs:List (SV thy)} {x:Bool} (h:Zip cs=ae x):cs.length=1/\nidL 0 cs=ac/\∀σ g (j:Nat) R U v,cs[j]? =ae R->(encF fl .bools x)[j]? =ae U->Den E' σ g R v->Den E' σ g U v:=by
  unfold Zip at h;split at h
  ·rename_i c0
   obtain⟨a0,h0,h⟩:=aj.1 h;cases h;refine⟨rfl,by simp only[nidL,Yl1 h0,da],λσ g j R U v I J hd=> ?_⟩
   match j,I,J with
   |0,I,J=>cases I;cases J;exact Yl0 h0 hd
   |j+1,I,J=>cases I
  ·cases h
theorem Ztd{fl:Bool} {E':Eng thy} {cs:List (SV thy)} {x:Int} (h:Zm5 cs=ae x):cs.length=1/\nidL 0 cs=ac/\∀σ g (j:Nat) R U v,cs[j]? =ae R->(encF fl .dimc x)[j]? =ae U->Den E' σ g R v->Den E' σ g U v:=by
  unfold Zm5 at h;split at h
  ·rename_i c0
   obtain⟨a0,h0,h⟩:=aj.1 h;cases h;refine⟨rfl,by simp only[nidL,Zg h0,da],λσ g j R U v I J hd=> ?_⟩
   match j,I,J with
   |0,I,J=>cases I;cases J;exact Zf h0 hd
   |j+1,I,J=>cases I
  ·cases h
theorem Zte{fl:Bool} {E':Eng thy}:∀(th:Th) {cs:List (SV thy)} {x:domT th},decT th cs=ae x->cs.length=wT th/\nidL 0 cs=ac/\∀σ g (j:Nat) I J v,cs[j]? =ae I->(encF fl th x)[j]? =ae J->Den E' σ g I v->Den E' σ g J v
  | .ints,_,_,h=>Zs5 h
  | .bys,_,_,h=>Zza h
  | .strs,_,_,h=>Zs6 h
  | .dims,_,_,h=>Zs7 h
  | .exprs,_,_,h=>Zpm h
  | .tests,_,_,h=>Zpn h
  | .clauses,_,_,h=>Zks h
  | .tariffs,_,_,h=>Zkt h
  | .ins,_,_,h=>Zzb h
  | .toks,_,_,h=>Zs8 h
  | .refs,_,_,h=>Zs9 h
  | .prts,_,_,h=>Zta h
  | .items,_,_,h=>Zpo h
  | .pnts,_,_,h=>Ztb h
  | .boxes,_,_,h=>Zpp h
  | .reps,_,_,h=>Ztc h
  | .bools,_,_,h=>Zpq h
  | .dimc,_,_,h=>Ztd h
theorem Ydz:tyT.All (TyOk Tryz.prog):=by repeat' (first|refine⟨?_,?_⟩|kernel_rfl)
theorem Z3k:fnT.All (FnOk Tryz.prog):=by repeat' (first|refine⟨?_,?_⟩|kernel_rfl)
theorem Yli:thT.All (λt th=>(tyT.get t).map (λi=>i.size)=ae (wT th)):=⟨⟨⟨⟨(by kernel_rfl:(tyT.get 3).map (λi=>i.size)=ae (wT Th.ints)),(by kernel_rfl:(tyT.get 4).map (λi=>i.size)=ae (wT Th.bools))⟩,⟨(by kernel_rfl:(tyT.get 5).map (λi=>i.size)=ae (wT Th.bys)),(by kernel_rfl:(tyT.get 9).map (λi=>i.size)=ae (wT Th.strs))⟩⟩,⟨⟨(by kernel_rfl:(tyT.get 25).map (λi=>i.size)=ae (wT Th.tariffs)),(by kernel_rfl:(tyT.get 43).map (λi=>i.size)=ae (wT Th.refs))⟩,⟨(by kernel_rfl:(tyT.get 46).map (λi=>i.size)=ae (wT Th.items)),(by kernel_rfl:(tyT.get 48).map (λi=>i.size)=ae (wT Th.reps))⟩⟩⟩,⟨⟨⟨(by kernel_rfl:(tyT.get 55).map (λi=>i.size)=ae (wT Th.dims)),(by kernel_rfl:(tyT.get 58).map (λi=>i.size)=ae (wT Th.exprs))⟩,⟨(by kernel_rfl:(tyT.get 60).map (λi=>i.size)=ae (wT Th.clauses)),(by kernel_rfl:(tyT.get 103).map (λi=>i.size)=ae (wT Th.pnts))⟩⟩,⟨⟨(by kernel_rfl:(tyT.get 105).map (λi=>i.size)=ae (wT Th.boxes)),(by kernel_rfl:(tyT.get 120).map (λi=>i.size)=ae (wT Th.toks))⟩,⟨(by kernel_rfl:(tyT.get 130).map (λi=>i.size)=ae (wT Th.tests)),⟨(by kernel_rfl:(tyT.get 159).map (λi=>i.size)=ae (wT Th.ins)),(by kernel_rfl:(tyT.get 277).map (λi=>i.size)=ae (wT Th.prts))⟩⟩⟩⟩⟩
theorem Ygv:arrT.All (λt th=>elT th=t):=rfl
theorem Z3l:∀t∈eqsT,Tryz.prog.stoodInHeld t=ab/\Tryz.prog.eqGuardType Tryz.prog.depth t=false:=by
  unfold eqsT;simp only[List.forall_mem_cons]
  repeat' (first|refine⟨?_,?_⟩|kernel_rfl|exactλ_ h=>nomatch h)
end
section
open Go
theorem Yhe{th:Th} {cs:List (SV thy)} {x:domT th} (h:decT th cs=ae x):nidL 0 cs=true:=(Zte (fl:=false) (E':=E) th h).2.1
theorem Yd2(el:TypeId) (th:Th) (i:TyI) (h:thT.get el=ae th) (I:tyT.get el=ae i):i.size=wT th:=by
 have:=Tr.get_all Yli h;simp only[I,cm,cr] at this;exact this
theorem E_ok:EngOk E where
 ty t i h:=((Tr.get_all Ydz h:TyOk Tryz.prog t i)).ty
 enc th x:=by cases th<;>rfl
 pos th:=by cases th<;>decide
 dec th cs x h:=let⟨a,_,b⟩:=Zte th h;⟨a,b⟩
 leaf th x:=by cases th<;>rfl
 thOf el th i h h2:=Yd2 el th i h h2
 encI i th x:=by cases th<;>rfl
 mix:=by kernel_rfl
 arr t th h:=Tr.get_all (p:=λt th=>elT th=t) Ygv h
 eqs t h:=Z3l t (memB_iff.1 h)
 ext:=Z3j
theorem Zm8:EngOk EL where
 ty t i h:=((Tr.get_all Ydz h:TyOk Tryz.prog t i)).ty
 enc th x:=by cases th<;>rfl
 pos th:=by cases th<;>decide
 dec th cs x h:=let⟨a,_,b⟩:=Zte th h;⟨a,b⟩
 leaf th x:=by cases th<;>rfl
 thOf el th i h h2:=Yd2 el th i h h2
 encI i th x:=by cases th<;>rfl
 mix:=E_ok.mix
 arr t th h:=by cases h
 eqs t h:=Z3l t (memB_iff.1 h)
 ext:=Z3j
theorem Ylt:EngLike E EL:=Z4p rfl rfl λth x=>by cases th<;>rfl
theorem Ylu:EngLike EL E:=Z4p rfl rfl λth x=>by cases th<;>rfl
theorem F0_ok:FnsOk E F0 where
 sumG f S h:=by cases h
 fnG f fn h:=(Tr.get_all Z3k h:FnOk Tryz.prog f fn).good
 sum f S h:=by cases h
 fn f fn h:=(Tr.get_all Z3k h:FnOk Tryz.prog f fn).1
 loop f j L h:=by cases h
theorem Z36:FnsOk EL F0:=⟨F0_ok.sumG,F0_ok.fnG,(λf S h=>by cases h),F0_ok.fn,(λf j L h=>by cases h)⟩
theorem Yae(n:Nat):Vb E (Zk E F0 (vc E F0 n)):=Xs E_ok F0_ok λf N c=>(Zgx E_ok F0_ok n f N c).1
theorem Yhf(n:Nat):Vb EL (Zk EL F0 (vc EL F0 n)):=Xs Zm8 Z36 λf N c=>(Zgx Zm8 Z36 n f N c).1
theorem Zha{f:FuncId} {args:List (SV thy)} {v:SV thy} {n:Nat} (h:Zk EL F0 (vc EL F0 n) f args hp0 0 (λr=>ret EL (patch hp0 0 r) r.v v)):PureC E f args v:=PureC.like Ylu Ylt (λ_ _ h=>h) (Za Zm8 (Yhf n) h)
theorem Zc{f:Nat} {fn:Func} (h:fnT.get f=ae fn):FnGood Tryz.prog f:=(Tr.get_all Z3k h:FnOk Tryz.prog f fn).good
noncomputable def dR(th:Th):Dc E (domT th):=dRow E_ok th λ_ _ h=>Yhe (th:=th) h
end
section
open Go.ChangeShapes Go.WideShapes Go.ChangeAt Go.RowKit
section
variable {Y:Thy} {E:Eng Y}
def gTop(w:World):GH :=
  { cell:=λr o=>w.cell? ⟨r,o,au⟩
    obj:=λr=>match w.heap[r]? with | some (.map I _)=>ae I | _=>au }
theorem Yjq{w:World} (hg:∀ n R,E.glob n=ae R->∀ (j:Nat) s,R.cells[j]?=ae s->∃ v,w.cell? ⟨n,j,au⟩=ae v/\Den E (λ_=>au) (gTop w) s v):Inv E w.heap.size σ0 hp0 (gTop w) w:=by
  refine⟨λr o v I=>I,λr es I=>?_,(λb x J=>by cases J),λb b' r z z' U=>ka rfl U,(λb r z hs=>by cases hs),(λb x r z o v J=>by cases J),(λb x r z J=>by cases J),hg⟩;have I:(match w.heap[r]? with | some (.map es _)=>ae es | _=>au)=ae es:=I;split at I
  ·rename_i es' c hc
   cases I;exact⟨c,hc⟩
  ·cases I
end
section
variable {H:Type} {enc:TypeId × Value->H} {P:Program} {w:World} {spare:Nat->Bool} {held:Bool} {fuel:Nat} {t:TypeId} {cs:List Value} {x:DataW H × List MemPlace}
end
end
section
open Go.ChangeShapes Go.WideShapes Go.ChangeAt Go.RowKit
theorem Tryz.own:ownKnob Tryz.prog.godebug=none:=by kernel_rfl
theorem Tryz.laidOut:laidOutB Tryz.prog=true:=by kernel_rfl
section
variable {H:Type} {enc:TypeId × Value->H} {P:Program}
theorem Zml(hl:laidOutB P=ac) {W U:World} {a0:Nat->Bool}:∀{ts:List TypeId} {vs:List Value} {J:List (DataW H)} {ps:List MemPlace},(ts.all λt=>P.readableRec t&&decide (t<P.types.size))=ac->
 hJ enc P W 0 (λ_=>ac) ac ts vs J ps->(∀x∈ps,W.sameAt U x)->(∀x∈ps,a0 x.block=ac)->hJ enc P U 0 a0 ac ts vs J ps:=by
 intro ts
 induction ts with
 |nil=>
  intro vs J ps _ h _ _
  obtain⟨rfl,rfl,rfl⟩:=trodAll_nil h
  rfl
 |cons t ts ih=>
  intro vs J ps R h hs hp
  obtain⟨v,a2,d,a1,p,q,rfl,rfl,rfl,hd,hr⟩:=trodAll_cons h
  simp only[List.all_cons,aq,fO] at R
  exact⟨p,q,WideElems.Trod_stays hl R.1.1 R.1.2 hd (λx I=>hs x (by simp[I])) (λx I=>hp x (by simp[I])),
   ih (by simpa using R.2) hr (λx I=>hs x (by simp[I])) (λx I=>hp x (by simp[I])),rfl⟩
theorem Z2n{f:Func} {s:ChangeSpec} {a9 again:Bool} {W W':World} {args:Array Value} {J U:List (DataW H)} {before:List MemPlace} {tb:TypeId} (hl:laidOutB P=ac) (hr:f.resultTypes= #[tb]) (hb:P.underlying tb=ae .bool)
 (I:(f.params.toList.all λt=>P.readableRec t&&decide (t<P.types.size))=ac) (hv:s.vars= []) (hW:DataW.Whole enc P f.params.toList s.vars ab W args.toList J U before)
 (b2:(s.fn H (J++U)).results= [.lit (.bool ac)]) (b0:(s.fn H (J++U)).args=J) (b3:(s.fn H (J++U)).vars= []) (hx:Ext W W'):
 s.post enc P f ab ac a9 again W args (.bool ac) W':=by
 have a1:Below W.heap.size W W':=hx
 have a2:∀p∈before,p.block<W.heap.size:=λp I=>hW.lt p I
 have a8:=hW
 obtain⟨pa,pv,hA,hV,a4,hz,hn⟩:=hW
 rw[hv] at hV
 obtain⟨hg,b1⟩:=trodVars_none hV
 subst b1
 rw[cG] at a4
 subst a4
 have a3:∀R:Nat->Bool,(∀p∈before,R p.block=ac)->hJ enc P W' 0 R ac f.params.toList args.toList (s.fn H (J++U)).args before:=λR h=>by
  rw[b0]
  exact Zml hl I hA (λx hx=>a1.same (a2 x hx)) h
 have a7:∀R:Nat->Bool,DataW.TrodVars enc P W' R s.vars (s.fn H (J++U)).vars []:=λR=>by rw[hv,b3];rfl
 have a6:∀(b:Nat) (R:Nat->Bool) (hd:Bool),hJ enc P W' b R hd f.resultTypes.toList ((Value.bool ac).resultList f.resultTypes.size) (s.fn H (J++U)).results []:=λb R hd=>by
  rw[hr,b2]
  exact⟨[],[],shut_bool hb ac,rfl,rfl⟩
 refine⟨J,U,before,[],before,[],a8,a6 _ _ _,a3 _ (λp I=>by simpa using a2 p I),a7 _,World.keptBut_mono (λp I=>⟨I,?_⟩) (a1.frame (· ∈before)),λ_=> ?_⟩
 ·simpa using I
 ·refine⟨?_,_,_,([]++before)++ [],⟨[]++before,[],trodAll_append (a3 _ (λ_ _=>rfl)) (a6 _ _ _),a7 _,rfl,?_,?_⟩,?_⟩
  ·intro j t r hj a0
   rw[hr] at hj a0
   match j,hj,a0 with
   |0,hj,a0=>
    obtain rfl:tb=t:=by simpa using hj
    obtain rfl:Value.bool ac=r:=by simpa[Value.resultList] using a0
    exact okWide_bool_mk hb ac
   |j+1,hj,a0=>simp at hj
  ·intro b off I
   have a5:MemPlace.cell b off∈before:=by simpa using I
   rw[a1.frozen (a2 _ a5)]
   exact hz b off a5
  ·intro ha;cases ha
  ·intro p I _
   simpa using I
end
end
section
open Go.ChangeShapes Go.WideShapes Go.ChangeAt Go.RowKit
theorem Zl2{H:Type} {p:Lit×DataW H}:∀{l:List (Lit×DataW H)},p∈l.foldr DataW.insert []↔p∈l
 | []=>Iff.rfl
 |x::l=>by
  rw[List.foldr_cons,(insert_perm x _).mem_iff,aH,aH,Zl2]
theorem Ydf{P:Program} {t:TypeId} {q:IntKind} (I:P.underlying t=ae (.int q)) {v:Value} {n:Int} (h:keyOf P t v=ae (.int q n)):v= .int q n:=by
 unfold keyOf at h;rw[I] at h;simp only[] at h;unfold mapKey at h;rw[I] at h;cases v with
 |int R m=>
  simp only[] at h;split at h
  ·rename_i J
   cases h;rw[J.1]
  ·cases h
 |_=>simp at h
end
section
open Go
end
section
open Go.ChangeShapes Go.WideShapes Go.ChangeAt Go.RowKit
theorem Ycl{H:Type} {enc:TypeId×Value->H} {P:Program} {w:World} {spare:Nat->Bool} {held:Bool} {I:Nat} {t:TypeId} {cs:List Value} {k J:IntKind} {n:Int} {p:List MemPlace} (R:P.underlying t=ae (.int k))
 (h:ia enc P w 0 spare held I t cs=ae (.lit (.int J n),p)):cs= [.int J n]:=by
 cases I with
 |zero=>simp[ia] at h
 |succ m=>
  unfold ia at h
  rw[R] at h
  split at h<;>simp_all
theorem Zra{P:Program} {W:World} {name:String} {d:DataW Unit} {nums:List Int} {kd:IntKind} {g n:Nat} {t el:TypeId} (a1:P.globalNamed name=ae g) (a3:(P.globals[g]?).map (·.type)=ae t) (a0:d= .agg (nums.map λn=> .lit (.int kd n)))
 (hu:P.underlying t=ae (.array n el)) (a4:P.underlying el=ae (.int kd)) (hc:P.cellsOf el=1) (hn:nums.length=n) (h:laidMet P [(name,d)] W) (j:Nat) (x:Int) (hj:nums[j]? =ae x):W.cell? ⟨g,j,au⟩=ae (.int kd x):=by
 obtain⟨ps,⟨g',t',cs,a7,p,q,U,ht,hv,hd,_,_⟩,_⟩:=h
 obtain rfl:=bd (a1.symm.trans U)
 obtain rfl:=bd (a3.symm.trans ht)
 rw[a0] at hd
 obtain⟨xs,m,rfl,hx,hl,a8,hf⟩:=DataW.trod_array hu hd
 simp only[fi,DataW.agg.injEq] at hx
 have a2:j<n:=by rw[<-hn];exact(ai.1 hj).1
 have I:=hf j a2
 have J:(xs.map (·.1))[j]? =ae (.lit (.int kd x)):=by rw[<-hx.1,bv,hj];rfl
 rw[bv] at J
 obtain⟨y,a5,a6⟩:=br.1 J
 rw[a5,hc,Nat.mul_one] at I
 obtain⟨d',p'⟩:=y
 obtain rfl:d'=_:=a6
 have h3:=Ycl a4 I
 rw[World.var?_cell U hv j]
 have R:((cs.toList.drop j).take 1)[0]? =ae (.int kd x):=by rw[h3];rfl
 rw[bO,jM (by decide),cO] at R
 simpa using R
abbrev Zky:List (String×DataW Unit):= [("math/bits.deBruijn32tab",Rows.laid_math_bits_deBruijn32tab),("math/bits.deBruijn64tab",Rows.laid_math_bits_deBruijn64tab),("internal/strconv.uint64pow10",Rows.laid_internal_strconv_uint64pow10),("unicode/utf8.acceptRanges",Rows.laid_unicode_utf8_acceptRanges),("unicode.White_Space",Rows.laid_unicode_White_Space),("strings.asciiSpace",Rows.laid_strings_asciiSpace),("wagonpool/tlex.signs",Rows.laid_wagonpool_tlex_signs),("wagonpool/tlex.reserved",Rows.laid_wagonpool_tlex_reserved),("unicode/utf8.first",Rows.laid_unicode_utf8_first)]
def litV:Value->Lit
 | .int q n=> .int q n
 | .string s=> .string s.data.toList
 | .bool b=> .bool b
 |_=> .bool ab
def cvl:SV thy->Value
 | .bool _ b=> .bool b
 | .str _ s=> .string (mkS s)
 |_=>undef
def okC:SV thy->Bool
 | .bool _ _=>ac
 | .str _ s=>s.all λn=>decide (n<256)
 |_=>ab
def okK(q:Option IntKind):Value->Bool
 | .int k _=>decide (q=ae k)
 | .string _=>decide (q=au)
 |_=>ab
def Z7g:Value->List Nat
 | .int _ n=> [n.toNat]
 | .string s=>toL s
 |_=> []
def rowD(p:Value×SV thy):Lit×DataW Unit:=(litV p.1,.lit (litV (cvl p.2)))
theorem Zrb{a b:ByteArray} (h:a.data.toList=b.data.toList):a=b:=Zn6 (by unfold toL;rw[h])
theorem Ycm{P:Program} {t:TypeId} (I:P.underlying t=ae .string) {v:Value} {s:ByteArray} (h:keyOf P t v=ae (.string s.data.toList)):v= .string s:=by
 unfold keyOf at h;rw[I] at h;simp only[] at h;unfold mapKey at h;rw[I] at h;cases v with
 |string J=>
  simp only[] at h;split at h
  ·injection h with h
   injection h with h
   rw[Zrb h]
  ·cases h
 |_=>simp at h
def keyT:Option IntKind->TypeDesc
 |some kd=> .int kd
 |none=> .string
theorem Ycn{P:Program} {t:TypeId} {q:Option IntKind} (I:P.underlying t=ae (keyT q)) {v c:Value} (J:okK q c=ac) (h:keyOf P t v=ae (litV c)):v=c:=by
 cases c with
 |int k n=>
  have R:q=ae k:=by simpa[okK] using J
  rw[R] at I;exact Ydf I h
 |string s=>
  have R:q=none:=by simpa[okK] using J
  rw[R] at I;exact Ycm I h
 |_=>simp[okK] at J
theorem Yco{P:Program} {e:TypeId} (I:P.underlying e=ae .bool\/P.underlying e=ae .string) {v c:Value} (J:v.formed P e=ac) (h:v.cells.toList= [c]):v=c:=by
 cases v with
 |agg cs=>rcases I with I|I<;>simp[Value.formed,I] at J
 |_=>simpa[Value.cells] using h
theorem Ycp{H:Type} {enc:TypeId×Value->H} {P:Program} {w:World} {sp:Nat->Bool} {held:Bool} {n:Nat} {e:TypeId} (I:P.underlying e=ae .bool\/P.underlying e=ae .string) {v c:Value} {U:SV thy} {y:DataW H×List MemPlace} (a0:okC U=ac) (J:c=cvl U) (h:eE enc P w 0 sp held n e v=ae y) (R:y.1= .lit (litV c)):v=c:=by
 unfold eE at h;split at h
 ·rename_i hf
  refine Yco I hf ?_;obtain⟨d,p⟩:=y;have R:d= .lit (litV c):=R;subst R;cases n with
  |zero=>simp[ia] at h
  |succ m=>
   unfold ia at h;cases U with
   |bool l b=>
    have J:c= .bool b:=J;subst J;rcases I with I|I<;>rw[I] at h<;>split at h<;>simp_all[litV]
   |str l s=>
    have J:c= .string (mkS s):=J;subst J;rcases I with I|I<;>rw[I] at h<;>split at h<;>simp_all[litV]
    exact kk Value.string (Zrb (by rw[h.2.1]))
   |_=>simp[okC] at a0
 ·cases h
theorem Yjm{σ:Nat->Option (Nat×Nat)} {g:GH} {I:SV thy} (h:okC I=ac):Den E σ g I (cvl I):=by
 cases I with
 |bool l b=>exact .bool _ _
 |str l s=>
  refine .str _ ?_;have h:∀n∈s,n<256:=by simpa[okC] using h
  unfold toL mkS;show(lr UInt8.toNat (lr UInt8.ofNat s))=s;rw[List.map_map];refine(List.map_congr_left λn J=> ?_).trans (List.map_id s);show(UInt8.ofNat n).toNat=id n;rw[UInt8.toNat_ofNat'];exact Nat.mod_eq_of_lt (h n J)
 |_=>simp[okC] at h
theorem Zxc{P:Program} {W:World} {name:String} {d:DataW Unit} {R:List (Value×SV thy)} {D:List (Lit×DataW Unit)} {π π':List Nat} {q:Option IntKind} {g:Nat} {t k e:TypeId} (a7:P.globalNamed name=ae g) (b2:(P.globals[g]?).map (·.type)=ae t) (a6:d= .map D) (hu:P.underlying t=ae (.map k e))
 (hk:P.underlying k=ae (keyT q)) (he:P.underlying e=ae .bool\/P.underlying e=ae .string) (hD:D=π.filterMap λi=>(R[i]?).map rowD) (hL:R.map rowD=π'.filterMap λi=>D[i]?)
 (a9:(R.all λp=>okK q p.1&&okC p.2)=ac) (hn:(R.map λp=>Z7g p.1).Nodup) (h:laidMet P [(name,d)] W):∃v,W.cell? ⟨g,0,au⟩=ae v/\Den E σ0 (gTop W) (.pmap R) v:=by
 obtain⟨ps,⟨g',t',cs,b5,p,q',hg,ht,hv,hd,_,_⟩,_⟩:=h
 obtain rfl:=bd (a7.symm.trans hg)
 obtain rfl:=bd (b2.symm.trans ht)
 rw[a6] at hd
 rcases WideElems.open_map hu hd with⟨_,hx⟩|⟨b,es,b4,n,rfl,a5,hb,_,F,hx⟩
 ·simp at hx
 simp only[fi,DataW.map.injEq] at hx
 have a0:∀(j:Nat) (I:Value) (sv:SV thy),R[j]? =ae (I,sv)->okK q I=ac/\okC sv=true:=λj I sv J=>by
  have:=List.all_eq_true.1 a9 _ (aL J)
  simpa using this
 have a1:∀z:Lit×DataW Unit,z∈D↔z∈es.toList.map (gg P k (eE (λ_=>()) P W 0 (λ_=>ac) ab n e)):=λz=>by rw[hx.1];exact Zl2
 have a4:W.cell? ⟨g,0,au⟩=ae (.map (ae b)):=by
  have:=World.var?_cell hg hv 0
  rw[Array.eq_one_of_toList a5] at this
  simpa using this
 refine⟨_,a4,?_⟩
 have entry:∀x∈es.toList,∀(I:Value) (sv:SV thy),okK q I=ac->okC sv=ac->gg P k (eE (λ_=>()) P W 0 (λ_=>ac) ab n e) x=rowD (I,sv)->x.key=I/\x.val=cvl sv:=by
  intro x hx I sv U h2 hr
  obtain⟨z,hz⟩:=F.reads x hx
  have b0:gg P k (eE (λ_=>()) P W 0 (λ_=>ac) ab n e) x=z:=by unfold gg;rw[hz];rfl
  rw[b0] at hr
  unfold WideElems.rd at hz
  simp only[aj,br] at hz
  obtain⟨key,e1,y,e2,rfl⟩:=hz
  simp only[rowD,fi] at hr
  rw[hr.1] at e1
  exact⟨Ycn hk U e1,Ycp he h2 rfl e2 hr.2⟩
 refine Den.pmap (ents:=es) (λj=>match R[j]? with|some p=>cvl p.2|none=>undef) q ?_ ?_ ?_ ?_ ?_ ?_
 ·show(match W.heap[b]? with|some (.map es _)=>ae es|_=>au)=ae es
  rw[hb]
 ·intro j I sv J
  have:=(a0 j I sv J).1
  cases I with
  |int kd n=>
   have hq:q=ae kd:=by simpa[okK] using this
   rw[hq];exact⟨_,rfl⟩
  |string s=>
   have hq:q=none:=by simpa[okK] using this
   rw[hq];exact⟨_,rfl⟩
  |_=>simp[okK] at this
 ·intro j j' I sv b6 J a8
  have e1:(R.map λp=>Z7g p.1)[j]? =ae (Z7g I):=by rw[bv,J];rfl
  have e2:(R.map λp=>Z7g p.1)[j']? =ae (Z7g I):=by rw[bv,a8];rfl
  obtain⟨b1,c1⟩:=ai.1 e1
  exact(jR b1 hn).1 (e1.trans e2.symm)
 ·intro x a2
  have U:=(a1 _).2 (jx (f:=gg P k (eE (λ_=>()) P W 0 (λ_=>ac) ab n e)) a2)
  rw[hD] at U
  obtain⟨i,_,hi⟩:=jK.1 U
  obtain⟨p,hp,hr⟩:=br.1 hi
  have ho:=a0 i p.1 p.2 hp
  have:=entry x a2 p.1 p.2 ho.1 ho.2 hr.symm
  refine⟨i,p.2,by rw[this.1];exact hp,?_⟩
  rw[hp]
  exact this.2
 ·intro j I sv J
  have U:rowD (I,sv)∈R.map rowD:=jx (aL J)
  rw[hL] at U
  obtain⟨i,_,hi⟩:=jK.1 U
  have h2:=(a1 _).1 (aL hi)
  obtain⟨x,a3,b3⟩:=fw.1 h2
  have ho:=a0 j I sv J
  exact⟨x,a3,(entry x a3 I sv ho.1 ho.2 b3).1⟩
 ·intro j I sv J
  rw[J]
  exact Yjm (a0 j I sv J).2
abbrev Ynk:List (Value×SV thy):= [mkE 123 [123],mkE 125 [125],mkE 40 [40],mkE 41 [41],mkE 59 [59],mkE 44 [44],mkE 43 [43],mkE 45 [45],mkE 42 [42],mkE 60 [60],mkE 46 [46,46]]
abbrev Ypj:List (Lit×DataW Unit):= [(.int .u8 40,.lit (.string [40])),(.int .u8 41,.lit (.string [41])),(.int .u8 42,.lit (.string [42])),(.int .u8 43,.lit (.string [43])),(.int .u8 44,.lit (.string [44])),(.int .u8 45,.lit (.string [45])),(.int .u8 46,.lit (.string [46,46])),(.int .u8 59,.lit (.string [59])),(.int .u8 60,.lit (.string [60])),(.int .u8 123,.lit (.string [123])),(.int .u8 125,.lit (.string [125]))]
abbrev Ypk:List Nat:= [2,3,8,6,5,7,10,4,9,0,1]
abbrev Ypl:List Nat:= [9,10,0,1,7,4,3,5,2,8,6]
abbrev resL:List (Value×SV thy):= [mkR [116,97,114,105,102,102],mkR [102,111,114],mkR [99,108,97,117,115,101],mkR [119,104,101,110],mkR [97,110,100],mkR [105,110],mkR [105,115],mkR [112,97,121],mkR [109,105,110],mkR [109,97,120],mkR [100,111,119,110],mkR [117,112],mkR [104,97,108,102],mkR [105,102],mkR [109,111,110,101,121],mkR [109,105,110,117,116,101],mkR [112,101,114],mkR [107,103],mkR [116,121,112,101],mkR [111,119,110,101,114],mkR [114,97,105,108,119,97,121],mkR [115,104,105,112,112,101,114],mkR [99,108,97,115,115],mkR [119,101,105,103,104,116],mkR [107,109],mkR [109,105,110,117,116,101,115],mkR [119,111,114,107,105,110,103],mkR [99,111,100,101],mkR [119,111,114,116,104],mkR [99,111,115,116],mkR [109,111,110,116,104],mkR [98,101,103,105,110],mkR [112,97,114,116,115],mkR [112,97,114,116],mkR [104,105,114,101],mkR [100,101,109,117,114,114,97,103,101],mkR [102,114,101,105,103,104,116],mkR [114,101,112,97,105,114],mkR [108,111,115,115],mkR [99,108,101,97,110,105,110,103]]
abbrev resD:List (Lit×DataW Unit):= [(.string [97,110,100],.lit (.bool ac)),(.string [98,101,103,105,110],.lit (.bool ac)),(.string [99,108,97,115,115],.lit (.bool ac)),(.string [99,108,97,117,115,101],.lit (.bool ac)),(.string [99,108,101,97,110,105,110,103],.lit (.bool ac)),(.string [99,111,100,101],.lit (.bool ac)),(.string [99,111,115,116],.lit (.bool ac)),(.string [100,101,109,117,114,114,97,103,101],.lit (.bool ac)),(.string [100,111,119,110],.lit (.bool ac)),(.string [102,111,114],.lit (.bool ac)),(.string [102,114,101,105,103,104,116],.lit (.bool ac)),(.string [104,97,108,102],.lit (.bool ac)),(.string [104,105,114,101],.lit (.bool ac)),(.string [105,102],.lit (.bool ac)),(.string [105,110],.lit (.bool ac)),(.string [105,115],.lit (.bool ac)),(.string [107,103],.lit (.bool ac)),(.string [107,109],.lit (.bool ac)),(.string [108,111,115,115],.lit (.bool ac)),(.string [109,97,120],.lit (.bool ac)),(.string [109,105,110],.lit (.bool ac)),(.string [109,105,110,117,116,101],.lit (.bool ac)),(.string [109,105,110,117,116,101,115],.lit (.bool ac)),(.string [109,111,110,101,121],.lit (.bool ac)),(.string [109,111,110,116,104],.lit (.bool ac)),(.string [111,119,110,101,114],.lit (.bool ac)),(.string [112,97,114,116],.lit (.bool ac)),(.string [112,97,114,116,115],.lit (.bool ac)),(.string [112,97,121],.lit (.bool ac)),(.string [112,101,114],.lit (.bool ac)),(.string [114,97,105,108,119,97,121],.lit (.bool ac)),(.string [114,101,112,97,105,114],.lit (.bool ac)),(.string [115,104,105,112,112,101,114],.lit (.bool ac)),(.string [116,97,114,105,102,102],.lit (.bool ac)),(.string [116,121,112,101],.lit (.bool ac)),(.string [117,112],.lit (.bool ac)),(.string [119,101,105,103,104,116],.lit (.bool ac)),(.string [119,104,101,110],.lit (.bool ac)),(.string [119,111,114,107,105,110,103],.lit (.bool ac)),(.string [119,111,114,116,104],.lit (.bool ac))]
abbrev resP:List Nat:= [4,31,22,2,39,27,29,35,10,1,36,12,34,13,5,6,17,24,38,9,8,15,25,14,30,19,33,32,7,16,20,37,21,0,18,11,23,3,26,28]
abbrev resQ:List Nat:= [33,9,3,37,0,14,15,28,20,19,8,35,11,13,23,21,29,16,34,25,30,32,2,36,17,22,38,5,39,6,24,1,27,26,12,7,10,31,18,4]
theorem Ycq{W:World} (h:laidMetH Tryz.prog Zky W):∃v,W.cell? ⟨1,0,au⟩=ae v/\Den E σ0 (gTop W) (.pmap Ynk) v:=by
 have h0:laidMetH Tryz.prog [("wagonpool/tlex.signs",Rows.laid_wagonpool_tlex_signs)] W:=gu (λx=>x.1== "wagonpool/tlex.signs") h;exact Zxc (q:=some .u8) (D:=Ypj) (π:=Ypk) (π':=Ypl) (by kernel_rfl) (by kernel_rfl) rfl Tryz.underlying182 Tryz.underlying5 (.inr Tryz.underlying9) (by kernel_rfl) (by kernel_rfl) (by kernel_rfl) (by decide+kernel) h0
theorem Zug{W:World} (h:laidMetH Tryz.prog Zky W):∃v,W.cell? ⟨2,0,au⟩=ae v/\Den E σ0 (gTop W) (.pmap resL) v:=by
 have h0:laidMetH Tryz.prog [("wagonpool/tlex.reserved",Rows.laid_wagonpool_tlex_reserved)] W:=gu (λx=>x.1== "wagonpool/tlex.reserved") h;exact Zxc (q:=none) (D:=resD) (π:=resP) (π':=resQ) (by kernel_rfl) (by kernel_rfl) rfl Tryz.underlying135 Tryz.underlying9 (.inl Tryz.underlying4) (by kernel_rfl) (by kernel_rfl) (by kernel_rfl) (by decide+kernel) h0
def Ypm:SV thy->Int
 | .int _ _ n=>n
 |_=>0
def spaceN:List Int:=spaceT.map Ypm
theorem Ycr:spaceT=spaceN.map λn=>(.int ac .u8 n:SV thy):=by kernel_rfl
theorem Ycs{W:World} (h:laidMetH Tryz.prog Zky W) (j:Nat) (x:Int) (J:spaceN[j]? =ae x):W.cell? ⟨0,j,au⟩=ae (.int .u8 x):=by
 have I:laidMetH Tryz.prog [("strings.asciiSpace",Rows.laid_strings_asciiSpace)] W:=gu (λx=>x.1== "strings.asciiSpace") h;exact Zra (kd:= .u8) (nums:=spaceN) (n:=256) (by kernel_rfl) (by kernel_rfl) (by kernel_rfl) Tryz.underlying137 Tryz.underlying5 (by kernel_rfl) (by kernel_rfl) I j x J
def powN:List Int:= [1,10,100,1000,10000,100000,1000000,10000000,100000000,1000000000,10000000000,100000000000,1000000000000,10000000000000,100000000000000,1000000000000000,10000000000000000,100000000000000000,1000000000000000000,10000000000000000000]
theorem Ynl{W:World} (h:laidMetH Tryz.prog Zky W) (j:Nat) (x:Int) (J:powN[j]? =ae x):W.cell? ⟨7,j,au⟩=ae (.int .u64 x):=by
 have I:laidMetH Tryz.prog [("internal/strconv.uint64pow10",Rows.laid_internal_strconv_uint64pow10)] W:=gu (λx=>x.1== "internal/strconv.uint64pow10") h;exact Zra (kd:= .u64) (nums:=powN) (n:=20) (by kernel_rfl) (by kernel_rfl) (by kernel_rfl) Tryz.underlying258 Tryz.underlying236 (by kernel_rfl) (by kernel_rfl) I j x J
theorem Yct:Zkr 7=ae (.agg (powN.map λn=>(.int ac .u64 n:SV thy))):=rfl
theorem Z0j{g I:GH} {w w':World} (h:Stp 0 0 [] σ0 g w σ0 I w'):Ext w w':=⟨h.os,h.tape,h.output,h.size,λk J=>h.heap k J (by simp)⟩
theorem Z0k:Zkr 1=ae (.pmap Ynk):=rfl
theorem Ycu:Zkr 2=ae (.pmap resL):=rfl
theorem Z0l:Zkr 0=ae (.agg spaceT):=rfl
theorem Z7h{f:FuncId} {args:List (SV thy)} (hp:PureC E f args (.bool ab ac)) {W:World} (R:laidMetH Tryz.prog Zky W) {U:Array Value} (hd:DenL E σ0 (gTop W) args U.toList):Calls Tryz.prog f U W λen W'=>en= .returned (.bool ac)/\Ext W W':=by
 have hI:Inv E W.heap.size σ0 hp0 (gTop W) W:=Yjq λn sv I j s J=>by
  match n,I with
  |1,I=>
   have I:Zkr 1=ae sv:=I;rw[Z0k] at I;cases I
   match j,J with
   |0,J=>cases J;exact Ycq R
  |2,I=>
   have I:Zkr 2=ae sv:=I;rw[Ycu] at I;cases I
   match j,J with
   |0,J=>cases J;exact Zug R
  |0,I=>
   have I:Zkr 0=ae sv:=I;rw[Z0l] at I;cases I;have J:spaceT[j]? =ae s:=J;rw[Ycr,bv] at J;obtain⟨n,I,rfl⟩:=br.1 J;exact⟨_,Ycs R j n I,.int _ _ _⟩
  |7,I=>
   have I:Zkr 7=ae sv:=I;rw[Yct] at I;cases I;have J:(powN.map λn=>(.int ac .u64 n:SV thy))[j]? =ae s:=J;rw[bv] at J;obtain⟨n,I,rfl⟩:=br.1 J;exact⟨_,Ynl R j n I,.int _ _ _⟩
 refine(hp _ W U hI hd).mono ?_;rintro en w' ⟨u,rfl,g',hS,_,hv⟩;cases hv;exact⟨rfl,Z0j hS⟩
theorem Ypn{g:GH} {R:SV thy} {v0:Value} (U:Den E σ0 g R v0):DenL E σ0 g [R] [v0]:=⟨rfl,λj sv v I J=>by
 match j,I,J with
 |0,I,J=>cases I;cases J;exact U⟩
theorem Zrc{g:GH} {R:SV thy} {v0:Value} {U:List (SV thy)} {vs:List Value} (h0:Den E σ0 g R v0) (h:DenL E σ0 g U vs):DenL E σ0 g (R::U) (v0::vs):=⟨by simp[h.1],λj sv v I J=>by
 cases j with
 |zero=>cases I;cases J;exact h0
 |succ j=>exact h.2 j sv v I J⟩
section
variable {H:Type} {enc:TypeId × Value->H} {w:World} {spare:Nat->Bool} {held:Bool}
end
end
section
open Go.ChangeShapes Go.WideShapes Go.ChangeAt Go.RowKit
section
variable {H:Type} {enc:TypeId × Value->H} {w:World} {spare:Nat->Bool} {held:Bool}
end
end
section
open Go.ChangeShapes Go.WideShapes Go.ChangeAt Go.RowKit
section
variable {H:Type} {enc:TypeId × Value->H} {w:World} {spare:Nat->Bool} {held:Bool}
end
end
section
open Go.ChangeShapes Go.WideShapes Go.ChangeAt Go.RowKit
noncomputable def Yhu(os:Os):World:=World.doorLaid Tryz.prog 3000 os
noncomputable def Zqa(os:Os):World:=(Yhu os).layVars Tryz.prog [("unicode/utf8.first",Rows.laid_unicode_utf8_first)]
theorem Z4r(os:Os):(Zqa os).os=os:=World.layVars_os _ _ _
noncomputable def Yl2(os:Os):List Nat:=(List.range (Yhu os).heap.size).filter λb=>b !=5
theorem Z4s(os:Os):laidMet Tryz.prog Zky (Zqa os):=
 laidMet_layVars (w0:=Yhu os) ["unicode/utf8.first"] (Yl2 os) (by kernel_rfl) (by kernel_rfl) (by kernel_rfl) (LaidIn.of_run (Yl2 os) 12 (by kernel_rfl) (by kernel_rfl) (by kernel_rfl) (by kernel_rfl))
theorem Yaq(os:Os) (args:Array Value):((Zqa os).forCall (λ_ _=>0) ⟨#[],args,[]⟩).Shaped Tryz.prog:=World.shaped_of_ZipB (by kernel_rfl) (by kernel_rfl)
theorem Yar(os:Os) (args:Array Value):laidMetH Tryz.prog Zky ((Zqa os).forCall (λ_ _=>0) ⟨#[],args,[]⟩).memory:=by
 rw[MakeChecks.laidMetH_plain _ _ _ (by kernel_rfl)];exact(Z4s os).of_heap (by simp[World.memory,World.forCall,Input.heap])
end
section
open Go
def cmpZ(a b:Int):Int:=if a<b then-1 else if b<a then 1 else 0
def cmpE(a b:Rep):Int:=if cmpZ a.item.from_ b.item.from_≠0 then cmpZ a.item.from_ b.item.from_ else if cmpZ a.time b.time≠0 then cmpZ a.time b.time else cmpZ a.ref.no b.ref.no
def ltE(a b:Rep):Prop:=a.item.from_<b.item.from_\/a.item.from_=b.item.from_/\(a.time<b.time\/a.time=b.time/\a.ref.no<b.ref.no)
instance (a b:Rep):Decidable (ltE a b):=by unfold ltE;infer_instance
theorem Zol{a b:Int}:cmpZ a b≠0↔a≠b:=by unfold cmpZ;split<;>(try split)<;>omega
theorem Zom{a b:Int}:cmpZ a b<0↔a<b:=by unfold cmpZ;split<;>(try split)<;>omega
theorem Zyg{a b:Rep}:cmpE a b<0↔ltE a b:=by
 unfold cmpE ltE;split
 ·rename_i h;rw[Zol] at h;rw[Zom];omega
 ·rename_i h;rw[Zol] at h
  split
  ·rename_i I;rw[Zol] at I;rw[Zom];omega
  ·rename_i I;rw[Zol] at I;rw[Zom];omega
def insR(x:Rep):List Rep->List Rep
 | []=> [x]
 |y::r=>if ltE x y then y::insR x r else x::y::r
def srtR(l:List Rep):List Rep:=l.foldl (λs x=>insR x s) []
def srtE(l:List Rep):List Rep:=(srtR l).reverse
theorem Zry(x:Rep):∀s,(insR x s).Perm (x::s)
 | []=> .refl _
 |y::r=>by
  unfold insR
  split
  ·exact((Zry x r).cons y).trans (.swap x y r)
  ·exact .refl _
theorem Zyh:∀(l s:List Rep),(l.foldl (λs x=>insR x s) s).Perm (l++s)
 | [],s=> .refl _
 |x::l,s=>(Zyh l (insR x s)).trans (((Zry x s).append_left l).trans List.perm_middle)
theorem Zfk(l:List Rep):(srtE l).Perm l:=by
 have:=Zyh l [];rw[cG] at this;exact(List.reverse_perm _).trans this
def edO(r k:Int) (x:Rep):Bool:=decide (x.ref.rw_=r)&&decide (x.item.number=k)&&(decide (x.item.kind=11)||decide (x.item.kind=12)||decide (x.item.kind=13))
def edsF(l:List Rep) (r k:Int):List Rep:=srtE (l.filter (edO r k))
section
variable (G : List Nat → Int → Tar × Int) (K : Tar → Int) (A : Tar → Tar → Tar)
def zTE:Tar:=⟨[],0,[]⟩
def stE(k:Int) (s:Tar×Bool) (x:Rep):Tar×Bool:=
 if x.item.kind=13 then(zTE,ab) else
 if(G x.item.text k).2≠0 then s else
 if x.item.kind=11 then((G x.item.text k).1,ac) else
 if s.2=ac then(if K (A s.1 (G x.item.text k).1)=0 then(A s.1 (G x.item.text k).1,s.2) else s) else s
def rnE(k t:Int):List Rep->Tar×Bool->Tar×Bool
 | [],s=>s
 |x::r,s=>if t<x.item.from_ then s else rnE k t r (stE G K A k s x)
end
end
end Go.Proofs.YtbkgpcknakidkaaGreatDoor
