/- Merged texts: EngLD, EngUD, EngL, EngWA, EngW, EngX, EngZ, Mem, EngZA, EngZB, EngZD, EngZE, EngZF, EngZG, Arith, TvSpec, TvDat. -/
import Derived.WalkKit
import Derived.WalkSpells
import Derived.WalkLawsBesides
import Derived.Lib.Hide
import Derived.Test.YtahcfmdfjjjmjaaGreatDoorMb
open Array renaming all_eq_true->fH,getD->ed,getD_eq_getD_getElem?->aY,getElem?_eq_getElem->cO,replicate->dg,toList_append->gD
open BitVec renaming ofInt->bW,ofInt_natCast->iX,toNat_and->gW,toNat_ofNat->jx
open Bool renaming and_eq_true->az,and_true->bZ,eq_iff_iff->kb,false->ae,false_eq_true->bc,not_eq_true->bv,not_eq_true'->bh,or_eq_true->bw,or_false->ks,or_true->kD,rec->jw,true->af
open Go.Ending renaming returned->ij
open Go.IntKind renaming i64->ac,u64->aA,wrap_i64->gO,wrap_u64->dj
open Go.MapEntry renaming mk->fM
open Go.Op renaming operands->ba
open Go.Proofs.YtahcfmdfjjjmjaaGreatDoor.Blk renaming cells->cU,fzc->gN
open Go.Result renaming andThen_ok->aH
open Go.Sem renaming run->gJ,run_bind->aL,run_pure->aR
open Int renaming ediv_le_self->iu,ediv_nonneg->fq,emod_add_mul_ediv->eF,emod_lt_of_pos->gP,emod_nonneg->eB,le_refl->eu,lt_or_le->fA,mul_add->fK,mul_assoc->kE,mul_comm->ia,mul_neg->gw,mul_nonneg->ku,natCast_mul->iH,neg_neg->iA,neg_tdiv->ji,neg_tmod->jj,tdiv_eq_ediv_of_nonneg->eM,tmod_add_mul_tdiv->fc,tmod_eq_emod_of_nonneg->dU
open List renaming getD_eq_getElem?_getD->aI,getElem?_append_left->cf,getElem?_drop->cL,getElem?_eq_getElem->aq,getElem?_eq_some_iff->ar,getElem?_map->cw,getElem?_set_ne->fi,getElem?_take->bU,getElem_of_mem->da,length_cons->aT,length_map->ka,mem_append->dJ,mem_append_left->gk,mem_append_right->fW,mem_cons->bE,mem_cons_of_mem->cx,mem_cons_self->gV,mem_filter->di,mem_map->gh,mem_of_getElem?->cp,mem_range->dq
open Nat renaming add_assoc->dE,add_mul->cK,and_two_pow_sub_one_eq_mod->iv,beq->bf,beq_eq->eV,beq_refl->hZ,ble->cn,ble_eq->bx,blt->aZ,blt_eq->fJ,div_add_mod->km,eq_of_beq_eq_true->aG,le_refl->aE,le_trans->bY,lt_of_lt_of_le->cC,lt_or_ge->dC,mod_two_eq_zero_or_one->iO,mul_le_mul->gx,mul_le_mul_right->bH,pow_pos->iP,sub_self->dS
open Ne renaming symm->hU
open Option renaming getD_some->dH,map_eq_some_iff->ck,map_some->cH,ne_none_iff_exists'->bt,none->aD,some->ah
open Option.some renaming inj->aU,injEq->cF
open Prod.mk renaming injEq->fb
namespace Go.Proofs.YtahcfmdfjjjmjaaGreatDoor
set_option linter.unusedVariables false
set_option linter.unusedSimpArgs false
set_option linter.unnecessarySimpa false
set_option maxRecDepth 100000
section
open Go.RowKit
section
variable {Y:Thy} {E:Eng Y}
theorem mem_esOf{key:Value} {v:SV Y}:∀{cs:List (MK Y)},(key,v)∈esOf cs↔∃k:Nat,cs[k]? =ah (MK.ins key v)
 | []=>by simp[esOf]
 |c::r=>by
  have ih:=mem_esOf (key:=key) (v:=v) (cs:=r)
  have shift:(∃k:Nat,(c::r)[k]? =ah (MK.ins key v))↔c=MK.ins key v\/∃k:Nat,r[k]? =ah (MK.ins key v):=by
   constructor
   ·rintro⟨k,j⟩
    cases k with
    |zero=>simp at j;exact .inl j
    |succ k=>exact .inr ⟨k,by simpa using j⟩
   ·rintro(h|⟨k,j⟩)
    ·exact⟨0,by simp[h]⟩
    ·exact⟨k+1,by simpa using j⟩
  rw[shift,<-ih]
  cases c with
  |ins t I=>simp only[esOf,bE,fb,MK.ins.injEq];constructor<;>(rintro(⟨a,b⟩|h)<;>first|exact .inl ⟨a.symm,b.symm⟩|exact .inr h)
  |_=>simp[esOf]
theorem Zg0:∀{cs:List (MK Y)},(∀(k k':Nat) key v U,cs[k]? =ah (MK.ins key v)->cs[k']? =ah (MK.ins key U)->k=k')->∀(j J:Nat) (k:Value) (sv R:SV Y),(esOf cs)[j]? =ah (k,sv)->(esOf cs)[J]? =ah (k,R)->j=J
 | [],_,j,J,k,sv,R,h,_=>by simp[esOf] at h
 |c::r,h,j,J,k,sv,R,t,I=>by
  have hr:∀(k k':Nat) key v U,r[k]? =ah (MK.ins key v)->r[k']? =ah (MK.ins key U)->k=k':=λk k' key v U a b=>by
   have:=h (k+1) (k'+1) key v U (by simpa using a) (by simpa using b);omega
  have ih:=Zg0 hr
  cases c with
  |ins key v=>
   simp only[esOf] at t I
   have no:∀(q:Nat) sv0,(esOf r)[q]? =ah (key,sv0)->False:=λq sv0 hq=>by
    obtain⟨k0,a0⟩:=mem_esOf.1 (cp hq)
    have:=h 0 (k0+1) key v sv0 rfl (by simpa using a0)
    omega
   cases j with
   |zero=>
    cases J with
    |zero=>rfl
    |succ q=>simp at t I;obtain⟨rfl,rfl⟩:=t;exact(no q _ I).elim
   |succ p=>
    cases J with
    |zero=>simp at t I;obtain⟨rfl,rfl⟩:=I;exact(no p _ t).elim
    |succ q=>simp at t I;rw[ih p q k sv R t I]
  |mk=>exact ih j J k sv R t I
  |val _ _=>exact ih j J k sv R t I
  |out=>exact ih j J k sv R t I
structure LOk(E:Eng Y) (os:List Oper) (cs:List (MK Y)) (t:TypeId) (kd:IntKind) (Tm:Fr Y) (h:Hp Y) (i:Nat):Prop where
 len:os.length=cs.length
 wt:∀(k:Nat) o,os[k]? =ah o->∀x∈waitsOf o,x<k
 gd:∀(k:Nat) o,os[k]? =ah o->o.guard=aD
 dst1:∀(k k':Nat) o o' d,os[k]? =ah o->os[k']? =ah o'->o.dst=ah d->o'.dst=ah d->k=k'
 key:∀(k:Nat) key v,cs[k]? =ah (.ins key v)->∃n,key= .int kd n
 key1:∀(k k':Nat) key v v',cs[k]? =ah (.ins key v)->cs[k']? =ah (.ins key v')->k=k'
 nidv:∀(k:Nat) key v,cs[k]? =ah (.ins key v)->nid i v=af
 ty:∃kt et a b c,E.ty t=ah ⟨.map kt et,a,b,c⟩/\keyKind E kt=ah af
 mkk:∀(k:Nat) o,os[k]? =ah o->cs[k]? =ah .mk->k=0/\o.op= .makeMap t aD/\∃d,o.dst=ah d
 val:∀(k:Nat) o rd v,os[k]? =ah o->cs[k]? =ah (.val rd v)->i∉rd/\(∃d,o.dst=ah d)/\OpTri E o Tm h i (quiet rd v)
 ins:∀(k:Nat) o key v,os[k]? =ah o->cs[k]? =ah (.ins key v)->o.dst=aD/\∃m d,o.op= .insert t (.tmp m) (.const key) (.tmp d)/\
  (∃k1∈waitsOf o,cs[k1]? =ah .mk/\∃o1,os[k1]? =ah o1/\o1.dst=ah m)/\(∃k2∈waitsOf o,∃rd,cs[k2]? =ah (.val rd v)/\∃o2,os[k2]? =ah o2/\o2.dst=ah d)
 out:∀(k:Nat) o,os[k]? =ah o->cs[k]? =ah .out->∃x d,(o.op= .move (.tmp x)\/o.op= .assign (.tmp x))/\o.dst=ah d/\
  ∃k1∈waitsOf o,(cs[k1]? =ah .mk\/cs[k1]? =ah .out)/\∃o1,os[k1]? =ah o1/\o1.dst=ah x
 mk0:cs[0]? =ah .mk
theorem Zke{kd:IntKind} {n:Int} {v:SV Y}:∀{L:List (Value×SV Y)},(∀p∈L,∃m,p.1= .int kd m/\m≠n)->Zd2 af (.int kd n) v L=ah (L++ [(.int kd n,v)])
 | [],_=>rfl
 |(J,u)::r,h=>by
  obtain⟨m,j,t⟩:=h (J,u) (by simp)
  simp only at j
  subst j
  unfold Zd2
  simp only[decide_true,List.cons_append]
  rw[show(n==m)=ae by simpa usingλe=>t e.symm,Zke (λp I=>h p (by simp[I]))]
def LFr(E:Eng Y) (os:List Oper) (cs:List (MK Y)) (i:Nat) (J:Pl) (I:GH) (D:Nat->Bool) (a j:Act):Prop:=
 (∀t,(∀(k:Nat) o,os[k]? =ah o->o.dst≠ah t)->j.eval (.tmp t)=a.eval (.tmp t))/\
 (∀(k:Nat) o rd v d,D k=af->os[k]? =ah o->cs[k]? =ah (.val rd v)->o.dst=ah d->Den E J I v (j.eval (.tmp d)))/\
 (∀(k:Nat) o d,D k=af->os[k]? =ah o->(cs[k]? =ah .mk\/cs[k]? =ah .out)->o.dst=ah d->Den E J I (.map i) (j.eval (.tmp d)))
def LHp(cs:List (MK Y)) (h:Hp Y) (i:Nat) (D:Nat->Bool) (j:Hp Y):Prop:=
 (D 0=ae->j=h)/\(D 0=af->∃L:List (Value×SV Y),j=upd h i (ah (.map L))/\(∀key v,(key,v)∈L↔∃k,D k=af/\cs[k]? =ah (.ins key v))/\(L.map Prod.fst).Nodup)
theorem Zh8{os:List Oper} {cs:List (MK Y)} {i N:Nat} {a3 a2:Pl} {g1 g2:GH} {D:Nat->Bool} {a a0:Act} (hF:LFr E os cs i a3 g1 D a a0) (hs:Pl.le a3 a2) (hg:g1.le g2) {j:Nat} {o:Oper} {u:Value} (hj:os[j]? =ah o)
 (h1:∀(k k':Nat) o I d,os[k]? =ah o->os[k']? =ah I->o.dst=ah d->I.dst=ah d->k=k') (a4:∀d,o.dst=ah d->d<a0.tmps.size)
 (hv:∀rd v,cs[j]? =ah (.val rd v)->Den E a2 g2 v u) (hm:(cs[j]? =ah .mk\/cs[j]? =ah .out)->Den E a2 g2 (.map i) u):LFr E os cs i a2 g2 (λk=>if k=j then af else D k) a (a0.put o.dst u):=by
 obtain⟨f1,f2,f3⟩:=hF
 have other:∀(k:Nat) I d,os[k]? =ah I->I.dst=ah d->k≠j->(a0.put o.dst u).eval (.tmp d)=a0.eval (.tmp d):=by
  intro k I d R J a5
  rw[Zaj,jb]
  rintro⟨e,_⟩
  exact a5 (h1 k j I o d R hj J e)
 have same:∀d,o.dst=ah d->(a0.put o.dst u).eval (.tmp d)=u:=λd J=>by rw[Zaj,jh ⟨J,a4 d J⟩]
 refine⟨λt ht=> ?_,λk I rd v d R U a1 J=> ?_,λk I d R U a1 J=> ?_⟩
 ·rw[Zaj,jb (by rintro⟨e,_⟩;exact ht j o hj e)];exact f1 t ht
 ·by_cases e:k=j
  ·subst e
   rw[hj] at U;cases U
   rw[same d J];exact hv rd v a1
  ·have R:D k=true:=by simpa[e] using R
   rw[other k I d U J e];exact(f2 k I rd v d R U a1 J).mono hs hg
 ·by_cases e:k=j
  ·subst e
   rw[hj] at U;cases U
   rw[same d J];exact hm a1
  ·have R:D k=true:=by simpa[e] using R
   rw[other k I d U J e];exact(f3 k I d R U a1 J).mono hs hg
theorem Zsg(hE : EngOk E) {os : List Oper} {cs : List (MK Y)} {t : TypeId} {kd : IntKind} {T : Fr Y} {h : Hp Y} {i N : Nat} {dl : Nat} {kl : Nat} {ol : Oper} (hL : LOk E os cs t kd (Wn (Yf os) T) h i) (hD : DomLt h i)
    (hlast : os[kl]? = ah ol) (hlc : cs[kl]? = ah .out) (hld : ol.dst = ah dl) (hlt : ∀ (k : Nat) o d, os[k]? = ah o → o.dst = ah d → d < N) (id : Nat) (ms : List Nat)
    (B : Nat) (σ : Pl) (g : GH) (w : World) (a : Act) (Q : Exit → Act → World → Prop) (hI : Inv E B σ h g w) (hB : B ≤ w.heap.size) (hfree : σ i = aD) (hF : FrOk E σ g T a) (hN : a.tmps.size = N)
    (hQ : ∀ a' w', Aft E B N i i ms σ g w a.defers (upd (Wn (Yf os) T) dl (.pmap (esOf cs))) h a' w' → Q .normal a' w') : (Code.region id os.toArray af).wp E.P Q a w := by
  classical
  have key : ∀ (m : Nat) (listed : Array Bool) (a1 : Act) (w1 : World), listed.size = os.length → cntF listed os.length = m → (∀ (k : Nat) o, os[k]? = ah o → listed.getD k ae = af → ∀ x ∈ waitsOf o, listed.getD x ae = af) → a1.defers = a.defers → a1.tmps.size = N →
      (∃ σ1 g1 h1, Stp i 1 [] σ g w σ1 g1 w1 ∧ Inv E B σ1 h1 g1 w1 ∧ LFr E os cs i σ1 g1 (λx => listed.getD x ae) a a1 ∧ LHp cs h i (λx => listed.getD x ae) h1 ∧ (listed.getD 0 ae = ae → σ1 i = aD)) →
      wpAny E.P .any os.toArray Q m listed a1 w1 := by
    intro m
    induction m with
    | zero =>
      intro listed a1 w1 hsz hc hcl hdf hN1 ⟨σ1, g1, h1, hS, hI1, hF1, hH1, _⟩
      have hall := Zep hc
      have hall' : ∀ k, k < os.length → listed.getD k ae = true := by
        intro k hk
        have := hall k hk
        rw[aY, cO (by omega)] at this ⊢
        exact this
      refine⟨?_, ?_⟩
      ·unfold Region.ready
       rw[List.filter_eq_nil_iff]
       intro k hk
       have hk' : k < os.length := by simpa using hk
       rw[hall k hk']
       simp
      ·have lt0 : ∀ {k : Nat} {c : MK Y}, cs[k]? = ah c → k < os.length := λhk => by rw[hL.len]; exact(ar.1 hk).1
       obtain⟨L, rfl, hmem, hnd⟩ := hH1.2 (hall' 0 (lt0 hL.mk0))
       have hout := hF1.2.2 kl ol dl (hall' kl (lt0 hlc)) hlast (.inr hlc) hld
       generalize hvm : a1.eval (.tmp dl) = vm at hout
       cases hout
       rename_i r z hσr
       obtain⟨r2, z2, hσ2, ents, cl, hents, hesz, hed⟩ := hI1.blk i (.map L) (by rw[Zf, jh rfl])
       rw[hσr] at hσ2; cases hσ2
       have hrnew : w.heap.size ≤ r := by
         rcases hS.blk i r z hfree hσr with h1 | ⟨b, h1, _⟩
         ·exact h1
         ·simp at h1
       have hrlt : r < w1.heap.size := (Array.getElem?_eq_some_iff.1 hents).1
       have hobj : g1.obj r = none := hI1.fm i _ r z (by rw[Zf, jh rfl]) hσr
       let g2 : GH := { cell := g1.cell, obj := λq => if q = r then ah ents else g1.obj q }
       have hg12 : g1.le g2 := ⟨λ_ _ _ h => h, λq es hq => by
         show(if q = r then _ else _) = _
         rw[jb (by rintro rfl; rw[hobj] at hq; cases hq)]; exact hq⟩
       have hheap : ∀ q, q < w.heap.size → w1.heap[q]? = w.heap[q]? := λq hq => hS.heap q hq (by simp)
       have hcell : ∀ q o' v, g1.cell q o' = ah v → g.cell q o' = ah v ∨ w.heap.size ≤ q := λq o' v hv => by
         rcases hS.gcnew q o' v hv with h1 | h1 | ⟨b, h1, _⟩
         ·exact .inl h1
         ·exact .inr h1
         ·simp at h1
       have hg2 : g.le g2 := hS.gle.trans hg12
       have hS2 : Stp i 0 [] σ g w σ g2 w1 := by
         refine⟨.refl _, λb p hb => .inl hb, hg2, λq o' v hv => (hcell q o' v hv).imp (λx => x) .inl, λq es hq => ?_, λq hq _ => hheap q hq, hS.size, hS.os, hS.tape, hS.output, λb q z h1 h2 => by rw[h1] at h2; cases h2⟩
         have hq' : (if q = r then ah ents else g1.obj q) = ah es := hq
         split at hq'
         ·rename_i e; right; omega
         ·exact hS.gmnew q es hq'
       have hI2 : Inv E B σ h g2 w1 := by
         refine⟨hI1.gc, ?_, ?_, hI.inj, λb q z hb => ⟨(hI.base b q z hb).1, cC (hI.base b q z hb).2 hS.size⟩, ?_, ?_, ?_⟩
         ·intro q es hq
          have hq' : (if q = r then ah ents else g1.obj q) = ah es := hq
          split at hq'
          ·rename_i e; subst e; cases hq'; exact⟨cl, hents⟩
          ·exact hI1.gm q es hq'
         ·intro b x hx
          obtain⟨q, z', h1, h2⟩ := hI.blk b x hx
          exact⟨q, z', h1, h2.mono (.refl _) hg2 (hheap q (hI.base b q z' h1).2)⟩
         ·intro b x q z' o' v hx hb hv
          rcases hcell q o' v hv with h1 | h1
          ·exact hI.fz b x q z' o' v hx hb h1
          ·have := (hI.base b q z' hb).2; omega
         ·intro b x q z' hx hb
          show(if q = r then ah ents else g1.obj q) = aD
          have hq := (hI.base b q z' hb).2
          rw[jb (by omega)]
          cases hg : g1.obj q with
          | none => rfl
          | some es =>
            rcases hS.gmnew q es hg with h1 | h1
            ·rw[hI.fm b x q z' hx hb] at h1; cases h1
            ·omega
         ·intro n sv hn j s hj
          obtain⟨v, h1, h2⟩ := hI1.glob n sv hn j s hj
          exact⟨v, h1, h2.mono (.refl _) hg12⟩
       have hlow : ∀ b p, b < i → σ1 b = ah p → σ b = ah p := λb p hb hp => by
         rcases hS.snew b p hp with h1 | h1
         ·exact h1
         ·omega
       have hLes : ∀ ky v, (ky, v) ∈ L ↔ (ky, v) ∈ esOf cs := λky v => by
         rw[hmem, mem_esOf]
         exact⟨λ⟨k, _, h⟩ => ⟨k, h⟩, λ⟨k, h⟩ => ⟨k, hall' k (lt0 h), h⟩⟩
       have hLkey : ∀ (q q' : Nat) ky sv sv', L[q]? = ah (ky, sv) → L[q']? = ah (ky, sv') → q = q' := λq q' ky sv sv' h1 h2 => by
         have l1 := (ar.1 h1).1
         have l2 := (ar.1 h2).1
         have e1 : (L.map Prod.fst)[q]? = ah ky := by rw[cw, h1]; rfl
         have e2 : (L.map Prod.fst)[q']? = ah ky := by rw[cw, h2]; rfl
         exact(List.getElem?_inj (by simpa using l1) hnd).1 (e1.trans e2.symm)
       have hesN : ∀ (j j' : Nat) k sv sv', (esOf cs)[j]? = ah (k, sv) → (esOf cs)[j']? = ah (k, sv') → j = j' := Zg0 hL.key1
       have hch : ∀ j : Nat, ∃ v : Value, ∀ (ky : Value) (sv : SV Y), (esOf cs)[j]? = ah (ky, sv) → ∃ (bo : Nat) (q : Nat), ents[q]? = ah (fM ky v bo) ∧ L[q]? = ah (ky, sv) ∧ Den E σ g2 sv v := by
         intro j
         cases hj : (esOf cs)[j]? with
         | none => exact⟨undef, λ_ _ h => by cases h⟩
         | some p =>
           obtain⟨ky, sv⟩ := p
           have hin : (ky, sv) ∈ L := (hLes ky sv).2 (cp hj)
           obtain⟨q, hq, hqe⟩ := da hin
           have hq' : L[q]? = ah (ky, sv) := by rw[aq hq, hqe]
           obtain⟨v, bo, h1, h2⟩ := hed q ky sv hq'
           refine⟨v, λky' sv' h => ?_⟩
           cases h
           obtain⟨k0, hk0⟩ := mem_esOf.1 (cp hj)
           exact⟨bo, q, h1, hq', (Xt hE h2 hlow (hL.nidv k0 _ _ hk0)).mono (.refl _) hg12⟩
       obtain⟨c, hc⟩ := Classical.axiomOfChoice hch
       have hpm : Den E σ g2 (.pmap (esOf cs)) (.map (ah r)) := by
         refine .pmap (ents := ents) c (ah kd) (by show(if r = r then ah ents else _) = _; rw[jh rfl]) ?_ hesN ?_ ?_ ?_
         ·intro j k sv hj
          obtain⟨k0, hk0⟩ := mem_esOf.1 (cp hj)
          exact hL.key k0 k sv hk0
         ·intro e he
          obtain⟨q, hq, rfl⟩ := da he
          have hq2 : q < L.length := by rw[← hesz]; simpa using hq
          obtain⟨v, bo, h1, h2⟩ := hed q L[q].1 L[q].2 (by rw[aq hq2])
          have hen : ents.toList[q] = fM L[q].1 v bo := by
            have : ents.toList[q]? = ah (fM L[q].1 v bo) := by simpa using h1
            rw[aq hq] at this
            exact aU this
          rw[hen]
          obtain⟨j, hj, hje⟩ := da ((hLes L[q].1 L[q].2).1 (List.getElem_mem hq2))
          have hj' : (esOf cs)[j]? = ah (L[q].1, L[q].2) := by rw[aq hj, hje]
          obtain⟨bo2, q2, h3, h4, h5⟩ := hc j _ _ hj'
          have : q = q2 := hLkey q q2 _ L[q].2 _ (by rw[aq hq2]) h4
          subst this
          rw[h1] at h3
          refine⟨j, L[q].2, hj', ?_⟩
          simp only[cF, MapEntry.mk.injEq, true_and] at h3
          exact h3.1
         ·intro j k sv hj
          obtain⟨bo, q, h1, _⟩ := hc j k sv hj
          exact⟨fM k (c j) bo, cp (i := q) (by rw[Array.getElem?_toList]; exact h1), rfl⟩
         ·intro j k sv hj
          obtain⟨_, _, _, _, h5⟩ := hc j k sv hj
          exact h5
       refine hQ a1 w1 ⟨hdf, hN1, σ, g2, ?_, hI2, ?_⟩
       ·rw[dS]; exact hS2.weaken (by simp)
       ·intro t'
        rw[Zf]
        split
        ·rename_i e; subst e; rw[hvm]; exact hpm
        ·rw[Ug]
         split
         ·exact .unk _
         ·rename_i hnd'
          rw[hF1.1 t' (λk o hk e => hnd' (Wa (cp hk) e))]
          exact(hF t').mono (.refl _) hg2
    | succ m ih =>
      intro listed a1 w1 hsz hc hcl hdf hN1 ⟨σ1, g1, h1, hS, hI1, hF1, hH1, hfr1⟩
      have hge : ∀ j, j < os.length → listed.getD j ae = listed.getD j true := by
        intro j hj
        rw[aY, aY, cO (by omega)]
        rfl
      obtain⟨j0, hj0, hf0, hbef⟩ := Zeq hc
      have hr0 : j0 ∈ Region.ready .any os.toArray listed := by
        refine di.2 ⟨dq.2 (by simpa using hj0), ?_⟩
        rw[hf0]
        rw[show(os.toArray[j0]?) = ah os[j0] by simp[hj0]]
        simp only[cH, dH, Bool.not_false, Bool.true_and, fH, bw, bh]
        intro e he
        by_cases hbd : Region.binds .any os[j0].after[e] = af
        ·right
         have hmem : os[j0].after[e].on ∈ waitsOf os[j0] := by
           unfold waitsOf
           exact gh.2 ⟨os[j0].after[e], di.2 ⟨by simp, hbd⟩, rfl⟩
         have := hL.wt j0 _ (aq hj0) _ hmem
         rw[hge _ (by omega)]
         exact hbef _ this
        ·left; simpa using hbd
      refine⟨λe => jv hr0 (by rw[e]; simp), λj hj => ?_⟩
      obtain⟨hj1, hj2⟩ := di.1 hj
      have hjl : j < os.length := by simpa using dq.1 hj1
      rw[show(os.toArray[j]?) = ah os[j] by simp[hjl]] at hj2
      simp only[cH, dH, az, bh, fH, bw] at hj2
      obtain⟨hjf, hje⟩ := hj2
      have hoj : os[j]? = ah os[j] := aq hjl
      generalize ho : os[j] = o at hoj hje
      have hjD : listed.getD j ae = false := by rw[hge j hjl]; exact hjf
      have hwt : ∀ k ∈ waitsOf o, listed.getD k ae = true := by
        intro k hk
        unfold waitsOf at hk
        obtain⟨e, he, rfl⟩ := gh.1 hk
        obtain⟨he1, he2⟩ := di.1 he
        obtain⟨x, hx, rfl⟩ := da he1
        have hx' : x < o.after.size := by simpa using hx
        rcases hje x hx' with c | c
        ·rw[show o.after[x] = o.after.toList[x] by simp] at c; rw[c] at he2; cases he2
        ·simpa using c
      have hset : (λx => (listed.setIfInBounds j af).getD x ae) = λk => if k = j then af else listed.getD k false := by
        funext x
        rw[aY, aY, Array.getElem?_setIfInBounds]
        by_cases e : j = x
        ·subst e; rw[jh rfl, jh rfl, jh (by omega)]; rfl
        ·rw[jb e, jb (λq => e q.symm)]
      have hcl2 : ∀ (k : Nat) o', os[k]? = ah o' → (listed.setIfInBounds j af).getD k ae = af → ∀ x ∈ waitsOf o', (listed.setIfInBounds j af).getD x ae = true := by
        intro k o' hk hkD x hx
        have e1 : (listed.setIfInBounds j af).getD k ae = if k = j then af else listed.getD k false := congrFun hset k
        have e2 : (listed.setIfInBounds j af).getD x ae = if x = j then af else listed.getD x false := congrFun hset x
        rw[e1] at hkD
        rw[e2]
        by_cases ex : x = j
        ·rw[jh ex]
        ·rw[jb ex]
         by_cases ek : k = j
         ·subst ek; rw[hoj] at hk; cases hk; exact hwt x hx
         ·rw[jb ek] at hkD; exact hcl k o' hk hkD x hx
      have rest : ∀ (u : Value) (w2 : World) (σ2 : Pl) (g2 : GH) (h2 : Hp Y), Stp i 1 [] σ g w σ2 g2 w2 → Inv E B σ2 h2 g2 w2 → LFr E os cs i σ2 g2 (λk => if k = j then af else listed.getD k ae) a (a1.put o.dst u) → LHp cs h i (λk => if k = j then af else listed.getD k ae) h2 → ((λk => if k = j then af else listed.getD k ae) 0 = ae → σ2 i = aD) →
          wpAny E.P .any os.toArray Q m (listed.setIfInBounds j af) (a1.put o.dst u) w2 := by
        intro u w2 σ2 g2 h2 k1 k2 k3 k4 k5
        refine ih _ _ _ (by simpa using hsz) ?_ hcl2 (by rw[Xf]; exact hdf) (by rw[Wc]; exact hN1) ⟨σ2, g2, h2, k1, k2, by rw[hset]; exact k3, by rw[hset]; exact k4, λe => k5 (by rw[← hset]; exact e)⟩
        have := Znf listed j os.length hjl (by rw[← hge j hjl]; exact hjD)
        omega
      have hlt' : ∀ d, o.dst = ah d → d < a1.tmps.size := λd hd => by rw[hN1]; exact hlt j o d hoj hd
      have hB1 : B ≤ w1.heap.size := bY hB hS.size
      obtain⟨c, hcj⟩ : ∃ c, cs[j]? = ah c := ⟨cs[j]'(by rw[← hL.len]; exact hjl), aq _⟩
      have hpKeep : (∀ key v, c ≠ .ins key v) → j ≠ 0 → LHp cs h i (λk => if k = j then af else listed.getD k ae) h1 := by
        intro hni hj0'
        have e0 : (λk => if k = j then af else listed.getD k ae) 0 = listed.getD 0 false := jb (λe => hj0' e.symm)
        refine⟨λe => hH1.1 (e0.symm.trans e), λe => ?_⟩
        obtain⟨L, q1, q2, q3⟩ := hH1.2 (e0.symm.trans e)
        refine⟨L, q1, λky v => (q2 ky v).trans ⟨λ⟨k, x, y⟩ => ⟨k, by show(if k = j then af else listed.getD k ae) = af; split; rfl; exact x, y⟩, λ⟨k, x, y⟩ => ⟨k, ?_, y⟩⟩, q3⟩
        have x : (if k = j then af else listed.getD k ae) = true := x
        by_cases ek : k = j
        ·subst ek; rw[hcj] at y; cases y; exact jv rfl (hni _ _)
        ·rw[jb ek] at x; exact x
      unfold wpOp
      rw[show(os.toArray[j]?) = ah o by simp[hjl, ho]]
      simp only
      rw[jh (Zbe (hL.gd j o hoj) _)]
      left
      cases c with
      | mk =>
        obtain⟨rfl, hop, d0, hd0⟩ := hL.mkk j o hoj hcj
        obtain rfl := hH1.1 hjD
        obtain⟨r, rfl, hR, htri⟩ := Zgz (T := Wn (Yf os) T) (h := h1) (i := i) (k := λr => r = fresh i (.map i) (.map []) []) hE hop rfl
        refine OpPost.wp (htri B σ1 g1 w1 a1.eval h1 (λ_ _ => rfl) hI1 hB1 (λb b1 b2 => by have : b = i := by simp[fresh] at b2; omega
                                                                                           subst this; exact hfr1 hjD) (λx hx => by rw[hop] at hx; simp[ba] at hx)) ?_
        rintro u w2 ⟨σ2, g2, hS2, hI2, hv⟩
        rw[V4] at hI2
        refine rest u w2 σ2 g2 _ (hS.join hS2 (aE _) (aE _) (aE _) (by simp[fresh]) (by simp) (by simp[fresh])) hI2 ?_ ?_ (λe => by simp at e)
        ·exact Zh8 (N := N) hF1 hS2.sig hS2.gle hoj hL.dst1 hlt' (λrd v e => by rw[hcj] at e; cases e) (λ_ => hv)
        ·refine⟨λe => by simp at e, λ_ => ⟨[], rfl, λky v => ⟨λe => by simp at e, λ⟨k, x, y⟩ => ?_⟩, by simp⟩⟩
         by_cases ek : k = 0
         ·subst ek; rw[hcj] at y; cases y
         ·have x : listed.getD k ae = true := by simpa[ek] using x
          have hko : k < os.length := by rw[hL.len]; exact(ar.1 y).1
          obtain⟨_, m', d', _, ⟨k1, hw1, hc1, o1, ho1, _⟩, _⟩ := hL.ins k _ ky v (aq hko) y
          have hk1 : k1 = 0 := (hL.mkk k1 o1 ho1 hc1).1
          subst hk1
          have := hcl k _ (aq hko) x 0 hw1
          rw[hjD] at this; cases this
      | val rd v =>
        obtain⟨hird, ⟨d, hd⟩, hR, htri⟩ := hL.val j o rd v hoj hcj
        have hj0' : j ≠ 0 := by rintro rfl; rw[hL.mk0] at hcj; cases hcj
        have hag : ∀ b, Rd (quiet rd v) b → h1 b = h b := by
          intro b hb
          have hb : b ∈ rd := hb
          cases e0 : listed.getD 0 ae with
          | false => rw[hH1.1 e0]
          | true =>
            obtain⟨L, q1, _⟩ := hH1.2 e0
            rw[q1, Zf, jb (by rintro rfl; exact hird hb)]
        refine OpPost.wp (htri B σ1 g1 w1 a1.eval h1 hag hI1 hB1 (λb b1 b2 => by simp[quiet] at b2; omega) ?_) ?_
        ·intro x _
         cases x with
         | tmp t' =>
           show Den E σ1 g1 (Wn (Yf os) T t') _
           rw[Ug]
           split
           ·exact .unk _
           ·rename_i hnd'
            rw[hF1.1 t' (λk o hk e => hnd' (Wa (cp hk) e))]
            exact(hF t').mono hS.sig hS.gle
         | const v => exact Xm E σ1 g1 v
         | global n => exact .val _
         | func f => exact .fn (λ_ => undef) (λ_ => undef) rfl (λj hj => by simp at hj) (λj sv hj => by simp at hj) rfl (λj hj => by simp at hj) (λj sv hj => by simp at hj)
        ·rintro u w2 ⟨σ2, g2, hS2, hI2, hv⟩
         rw[Yp] at hI2
         refine rest u w2 σ2 g2 _ (hS.join hS2 (aE _) (aE _) (aE _) (by simp[quiet]) (by simp) (by simp[quiet])) hI2 ?_ (hpKeep (λ_ _ e => by cases e) hj0') (λe => ?_)
         ·exact Zh8 (N := N) hF1 hS2.sig hS2.gle hoj hL.dst1 hlt' (λrd' v' e => by rw[hcj] at e; cases e; exact hv) (λe => by rw[hcj] at e; rcases e with e | e <;> cases e)
         ·have e' : listed.getD 0 ae = false := by simpa[hU hj0'] using e
          cases hq : σ2 i with
          | none => rfl
          | some p =>
            rcases hS2.snew i p hq with h3 | h3
            ·rw[hfr1 e'] at h3; cases h3
            ·simp[quiet] at h3
      | ins ky v =>
        obtain⟨hdn, m', d', hop, ⟨k1, hw1, hc1, o1, ho1, hd1⟩, ⟨k2, hw2, rd2, hc2, o2, ho2, hd2⟩⟩ := hL.ins j o ky v hoj hcj
        have hj0' : j ≠ 0 := by rintro rfl; rw[hL.mk0] at hcj; cases hcj
        have hk1 : k1 = 0 := (hL.mkk k1 o1 ho1 hc1).1
        subst hk1
        have hD0 : listed.getD 0 ae = true := hwt 0 hw1
        obtain⟨L, q1, q2, q3⟩ := hH1.2 hD0
        obtain⟨kt, et, x1, x2, x3, hty, hkk⟩ := hL.ty
        obtain⟨n, rfl⟩ := hL.key j ky v hcj
        have hmv := hF1.2.2 0 o1 m' hD0 ho1 (.inl hc1) hd1
        have hvv := hF1.2.1 k2 o2 rd2 v d' (hwt k2 hw2) ho2 hc2 hd2
        let TT : Fr Y := upd (upd (λ_ => .unk) m' (.map i)) d' v
        have hne : m' ≠ d' := by
          rintro rfl
          have := hL.dst1 0 k2 o1 o2 m' ho1 ho2 hd1 hd2
          subst this; rw[hc1] at hc2; cases hc2
        have e1 : ev TT (.tmp m') = .map i := by show TT m' = _; simp only[TT]; rw[Zf, jb hne, Zf, jh rfl]
        have e2 : ev TT (.tmp d') = v := by show TT d' = _; simp only[TT]; rw[Zf, jh rfl]
        have e3 : ev TT (.const (.int kd n)) = (.int af kd n : SV Y) := rfl
        have hi1 : h1 i = ah (.map L) := by rw[q1, Zf, jh rfl]
        have hnew : ∀ p ∈ L, ∃ m, p.1 = .int kd m ∧ m ≠ n := by
          rintro⟨pk, pv⟩ hp
          obtain⟨k, hDk, hck⟩ := (q2 pk pv).1 hp
          obtain⟨m, rfl⟩ := hL.key k pk pv hck
          refine⟨m, rfl, ?_⟩
          rintro rfl
          have := hL.key1 k j _ _ _ hck hcj
          subst this
          have hDk : listed.getD k ae = true := hDk
          rw[hjD] at hDk; cases hDk
        have hput := Zke (v := v) hnew
        obtain⟨r, rfl, hR, htri⟩ := Zm6 (o := o) (T := TT) (h := h1) (i := i + 1) (k := λr => r = change i (ah (.map (L ++ [(.int kd n, v)]))) .unk [i]) hE (.inr hop) (by
          unfold sput
          rw[hty, e1]
          simp only[hkk, hi1, e3, Zhj, e2, hput])
        refine OpPost.wp (htri B σ1 g1 w1 a1.eval h1 (λ_ _ => rfl) hI1 hB1 (λb b1 b2 => by simp[change] at b2; omega) ?_) ?_
        ·intro x hx
         rw[hop] at hx
         simp[ba] at hx
         rcases hx with rfl | rfl | rfl
         ·rw[e1]; exact hmv
         ·rw[e3]; exact .int _ _ _
         ·rw[e2]; exact hvv
        ·rintro u w2 ⟨σ2, g2, hS2, hI2, hv⟩
         rw[Y0] at hI2
         have hS3 : Stp i 1 [i] σ g w σ2 g2 w2 := by
           have hS2' : Stp (i + 1) 0 [i] σ1 g1 w1 σ2 g2 w2 := hS2
           exact hS.join hS2' (aE _) (aE _) (by omega) (by omega) (by simp) (by simp)
         have hS4 : Stp i 1 [] σ g w σ2 g2 w2 := by
           have h5 : Stp i (i + 1 - i) [i] σ g w σ2 g2 w2 := by rw[show i + 1 - i = 1 by omega]; exact hS3
           have := h5.filter hD (λb hb => by simp at hb; subst hb; right; omega) (λb b1 b2 => by have : b = i := by omega
                                                                                                 subst this; exact hfree)
           rw[show i + 1 - i = 1 by omega] at this
           exact this.weaken (λb hb => by have := Xp hb; simp at this; omega)
         have hσ2 : Pl.le σ1 σ2 := hS2.sig
         refine rest u w2 σ2 g2 _ hS4 hI2 ?_ ⟨λe => ?_, λ_ => ⟨L ++ [(.int kd n, v)], ?_, λky' v' => ?_, ?_⟩⟩ (λe => ?_)
         ·exact Zh8 (N := N) hF1 hS2.sig hS2.gle hoj hL.dst1 hlt' (λrd' v' e => by rw[hcj] at e; cases e) (λe => by rw[hcj] at e; rcases e with e | e <;> cases e)
         ·have e' : listed.getD 0 ae = false := by simpa[hU hj0'] using e
          rw[hD0] at e'; cases e'
         ·rw[q1]; funext b; rw[Zf, Zf, Zf]; split <;> rfl
         ·rw[dJ, q2]
          constructor
          ·rintro(⟨k, x, y⟩ | hx)
           ·exact⟨k, by show(if k = j then af else _) = af; split; rfl; exact x, y⟩
           ·simp at hx; obtain⟨rfl, rfl⟩ := hx
            exact⟨j, by show(if j = j then af else _) = af; rw[jh rfl], hcj⟩
          ·rintro⟨k, x, y⟩
           have x : (if k = j then af else listed.getD k ae) = true := x
           by_cases ek : k = j
           ·subst ek; rw[hcj] at y; cases y; right; simp
           ·rw[jb ek] at x; exact .inl ⟨k, x, y⟩
         ·rw[List.map_append, List.nodup_append]
          refine⟨q3, by simp, ?_⟩
          intro x hx y hy
          simp at hy
          subst hy
          obtain⟨p, hp, rfl⟩ := gh.1 hx
          obtain⟨m, hm, hmn⟩ := hnew p hp
          rw[hm]
          intro e
          cases e
          exact hmn rfl
         ·have e' : listed.getD 0 ae = false := by simpa[hU hj0'] using e
          rw[hD0] at e'; cases e'
      | out =>
        obtain⟨x, d, hop, hd, k1, hw1, hc1, o1, ho1, hd1⟩ := hL.out j o hoj hcj
        have hj0' : j ≠ 0 := by rintro rfl; rw[hL.mk0] at hcj; cases hcj
        have hmv := hF1.2.2 k1 o1 x (hwt k1 hw1) ho1 hc1 hd1
        have hrun : (execOp a1.eval o).run E.P w1 = .ok (.value (a1.eval (.tmp x))) w1 := by
          unfold execOp
          rcases hop with hop | hop <;> simp only[hop, aR]
        unfold Oper.wp
        rw[hrun]
        show wpAny E.P .any os.toArray Q m (listed.setIfInBounds j af) (a1.put o.dst _) w1
        refine rest _ w1 σ1 g1 h1 hS hI1 ?_ (hpKeep (λ_ _ e => by cases e) hj0') (λe => hfr1 (by simpa[hU hj0'] using e))
        exact Zh8 (N := N) hF1 (.refl _) (.refl _) hoj hL.dst1 hlt' (λrd' v' e => by rw[hcj] at e; cases e) (λ_ => hmv)
  refine wp_region_any hE.mix ?_
  have hdr : Inv E B σ h g { w with drawn := w.drawn + 1 } := ⟨hI.gc, hI.gm, hI.blk, hI.inj, hI.base, hI.fz, hI.fm, hI.glob⟩
  have e0 : (λx => (dg os.length ae).getD x ae) = λ_ => false := by
    funext x
    by_cases c : x < os.length <;> simp[ed, c]
  have hcl0 : ∀ (k : Nat) o, os[k]? = ah o → (dg os.length ae).getD k ae = af → ∀ x ∈ waitsOf o, (dg os.length ae).getD x ae = true := by
    intro k o hk hkD
    have h9 : (dg os.length ae).getD k ae = false := congrFun e0 k
    rw[h9] at hkD; cases hkD
  have := key os.length (dg os.length ae) a { w with drawn := w.drawn + 1 } (by simp) ?_ hcl0 rfl hN ⟨σ, g, h, ?_, hdr, ?_, ?_, λ_ => hfree⟩
  ·simpa using this
  ·unfold cntF
   rw[List.filter_eq_self.2, List.length_range]
   intro j hj
   have : j < os.length := dq.1 hj
   simp[ed, this]
  ·exact(⟨.refl _, λ_ _ h => .inl h, .refl _, λ_ _ _ h => .inl h, λ_ _ h => .inl h, λ_ _ _ => rfl, aE _, rfl, rfl, rfl, λ_ _ _ h k => by rw[h] at k; cases k⟩)
  ·rw[e0]; exact⟨λ_ _ => rfl, (λk o rd v d hk => by cases hk), λk o d hk => by cases hk⟩
  ·rw[e0]; exact⟨λ_ => rfl, λe => by cases e⟩
theorem Zna{α:Type}:∀(l:List α) (n:Nat),getO l n=l[n]?
 | [],n=>by simp[getO]
 |x::r,0=>rfl
 |x::r,n+1=>by simpa[getO] using Zna r n
theorem V3{all:List Oper} {cs:List (MK Y)} {d:Nat} {c:MK Y}:∀{ws:List Nat},Zgi all cs d ws=ah c->∃k∈ws,cs[k]? =ah c/\∃o,all[k]? =ah o/\o.dst=ah d
 | [],h=>by cases h
 |k::r,h=>by
  have more:Zgi all cs d r=ah c->∃j∈k::r,cs[j]? =ah c/\∃o,all[j]? =ah o/\o.dst=ah d:=λh=>by
   obtain⟨j,t,I⟩:=V3 h
   exact⟨j,cx _ t,I⟩
  unfold Zgi at h
  rw[Zna,Zna] at h
  split at h
  ·rename_i o c' U J
   split at h
   ·rename_i d' R
    split at h
    ·rename_i e
     cases h
     exact⟨k,by simp,J,o,U,by rw[R,aG e]⟩
    ·exact more h
   ·exact more h
  ·exact more h
theorem Zh9{α:Type}:∀{l:List α} {x:α},Z3r l=ah x->l[l.length-1]? =ah x
 | [],x,h=>by cases h
 | [y],x,h=>by cases h;rfl
 |y::z::r,x,h=>by
  have:=Zh9 (l:=z::r) (x:=x) h
  simpa using this
def OpL(E:Eng Y) (all:List Oper) (t:TypeId) (R:Fr Y) (h:Hp Y) (i:Nat) (cs:List (MK Y)) (k:Nat) (o:Oper):MK Y->Prop
 | .mk=>k=0/\o.op= .makeMap t aD/\∃d,o.dst=ah d
 | .val rd v=>i∉rd/\(∃d,o.dst=ah d)/\OpTri E o R h i (quiet rd v)
 | .ins key v=>o.dst=aD/\∃m d,o.op= .insert t (.tmp m) (.const key) (.tmp d)/\
  (∃j∈waitsOf o,cs[j]? =ah .mk/\∃I,all[j]? =ah I/\I.dst=ah m)/\(∃J∈waitsOf o,∃rd,cs[J]? =ah (.val rd v)/\∃o2,all[J]? =ah o2/\o2.dst=ah d)
 | .out=>∃x d,(o.op= .move (.tmp x)\/o.op= .assign (.tmp x))/\o.dst=ah d/\
  ∃j∈waitsOf o,(cs[j]? =ah .mk\/cs[j]? =ah .out)/\∃I,all[j]? =ah I/\I.dst=ah x
theorem OpL.app{all:List Oper} {t:TypeId} {Tm:Fr Y} {h:Hp Y} {i:Nat} {cs:List (MK Y)} {k:Nat} {o:Oper} {c c':MK Y} (j:OpL E all t Tm h i cs k o c):OpL E all t Tm h i (cs++ [c']) k o c:=by
 have up:∀{k:Nat} {x:MK Y},cs[k]? =ah x->(cs++ [c'])[k]? =ah x:=λh=>by
  rw[cf (ar.1 h).1];exact h
 cases c with
 |mk=>exact j
 |val rd v=>exact j
 |ins key v=>
  obtain⟨U,m,d,a0,⟨k1,I,J,R⟩,k2,b1,rd,b2,b3⟩:=j;exact⟨U,m,d,a0,⟨k1,I,up J,R⟩,k2,b1,rd,up b2,b3⟩
 |out=>
  obtain⟨x,d,U,a0,k1,I,J,R⟩:=j;exact⟨x,d,U,a0,k1,I,J.imp up up,R⟩
def LP(E:Eng Y) (all:List Oper) (t:TypeId) (j:Fr Y) (h:Hp Y) (i:Nat) (cs:List (MK Y)):Prop:=∀(k:Nat) o c,all[k]? =ah o->cs[k]? =ah c->OpL E all t j h i cs k o c
theorem LP.app{all:List Oper} {t:TypeId} {I:Fr Y} {h:Hp Y} {i:Nat} {cs:List (MK Y)} {o:Oper} {c:MK Y} (hp:LP E all t I h i cs) (a0:all[cs.length]? =ah o) (U:OpL E all t I h i cs cs.length o c):LP E all t I h i (cs++ [c]):=by
 intro k o' c' J j;by_cases e:k<cs.length
 ·rw[cf e] at j
  exact(hp k o' c' J j).app
 ·have R:k=cs.length:=by
   have:=(ar.1 j).1;simp at this;omega
  subst R;rw[a0] at J;cases J;rw[List.getElem?_append_right (aE _),dS] at j;cases j;exact U.app
theorem Znb{o:Oper} {T:Fr Y} {h:Hp Y} {i:Nat} {r:Res Y} {rd:List Nat} (I:r.n=0) (t:r.mods= []) (J:r.rd=ah rd) (ht:OpTri E o T h i r):OpTri E o T h i (quiet rd r.v):=by
 obtain⟨v,n,a2,rh,a3⟩:=r;simp only at I t J;subst I;subst t;subst J;refine⟨λb hb=>by simp[quiet] at hb,λB σ g w ρ hh a1 hI hB a0 hx=> ?_⟩;refine(ht.2 B σ g w ρ hh a1 hI hB a0 hx).mono ?_;rintro u w' ⟨σ',R,U,j,h3⟩;refine⟨σ',R,U,?_,h3⟩;rw[Yp];have:patch hh i ⟨v,0,[],rh,ah rd⟩=hh:=by
  funext b;rw[Z6,jb];rintro(e|e)
  ·simp at e
  ·simp at e;omega
 rw[this] at j;exact j
theorem Zwe{call:Nat->List (SV Y)->Hp Y->Nat->(Res Y->Prop)->Prop} (a1:∀(o:Oper) T h i k,DomLt h i->step E call o.op T h i k->∃r,k r/\OpTri2 E o T h i r) {t:Fr Y} {h:Hp Y} {i:Nat} (J:DomLt h i) {o:Oper} {k:MK Y->Prop} (j:Zhm E call t h i o k):
 ∃rd v,k (.val rd v)/\i∉rd/\(∃d,o.dst=ah d)/\OpTri E o t h i (quiet rd v):=by
 unfold Zhm at j
 split at j
 ·rename_i d R
  obtain⟨r,j,ht⟩:=a1 o t h i _ J j
  split at j
  ·rename_i rd hn U hr
   split at j
   ·rename_i I
    split at j
    ·rename_i a0
     rw[Zbw] at j
     refine⟨rd,r.v,j,λe=> ?_,⟨d,R⟩,Znb hn U hr (ht.tri a0)⟩
     rw[memB_iff.2 e] at I;cases I
    ·exact j.elim
   ·exact j.elim
  ·exact j.elim
 ·exact j.elim
theorem Z1v{x:Option (MK Y)} (h:Z86 x=af):x=ah .mk:=by
 unfold Z86 at h;split at h
 ·rfl
 ·cases h
theorem Zkf{x:Option (MK Y)} (h:Zri x=af):x=ah .mk\/x=ah .out:=by
 unfold Zri at h;split at h
 ·exact .inl rfl
 ·exact .inr rfl
 ·cases h
theorem Zp0{call:Nat->List (SV Y)->Hp Y->Nat->(Res Y->Prop)->Prop} (a4:∀(o:Oper) T h i k,DomLt h i->step E call o.op T h i k->∃r,k r/\OpTri2 E o T h i r) {all:List Oper} {t:TypeId} {I:Fr Y} {h:Hp Y} {i:Nat} (hD:DomLt h i):
 ∀{r:List Oper} {pre:List Oper} {cs:List (MK Y)} {k:List (MK Y)->Prop},all=pre++r->pre.length=cs.length->LP E all t I h i cs->Zd3 E call all t I h i r cs k->∃l,k (cs++l)/\all.length=(cs++l).length/\LP E all t I h i (cs++l)
 | [],pre,cs,k,ha,hl,hp,j=>⟨[],by simpa[Zd3] using j,by simp[ha,hl],by simpa using hp⟩
 |o::r,pre,cs,k,ha,hl,hp,j=>by
  have ho:all[cs.length]? =ah o:=by rw[ha,<-hl];simp
  have next:∀{c:MK Y},OpL E all t I h i cs cs.length o c->Zd3 E call all t I h i r (cs++ [c]) k->∃l,k (cs++l)/\all.length=(cs++l).length/\LP E all t I h i (cs++l):=λ{c} hc j=>by
   obtain⟨l,h1,h2,h3⟩:=Zp0 a4 hD (pre:=pre++ [o]) (by simp[ha]) (by simp[hl]) (hp.app ho hc) j
   exact⟨c::l,by simpa using h1,by simpa using h2,by simpa using h3⟩
  have a3:Zhm E call I h i o (λc=>Zd3 E call all t I h i r (cs++ [c]) k)->∃l,k (cs++l)/\all.length=(cs++l).length/\LP E all t I h i (cs++l):=λj=>by
   obtain⟨rd,v,h1,h2,h3,h4⟩:=Zwe a4 hD j
   exact next (c:= .val rd v) ⟨h2,h3,h4⟩ h1
  simp only[Zd3] at j
  split at j
  ·rename_i t' m key d a2 a1
   split at j
   ·rename_i rd v hb hv
    rw[az] at hb
    obtain rfl:=aG hb.1
    obtain⟨a0,J,R,U⟩:=V3 (Z1v hb.2)
    obtain⟨k2,b1,b2,b3⟩:=V3 hv
    exact next (c:= .ins key v) ⟨a1,m,d,a2,⟨a0,J,R,U⟩,k2,b1,rd,b2,b3⟩ j
   ·exact j.elim
  ·rename_i x d a2 a1
   split at j
   ·rename_i hm
    rcases Zkf hm with e|e
    ·obtain⟨a0,J,R,U⟩:=V3 e
     exact next (c:= .out) ⟨x,d,.inl a2,a1,a0,J,.inl R,U⟩ j
    ·obtain⟨a0,J,R,U⟩:=V3 e
     exact next (c:= .out) ⟨x,d,.inl a2,a1,a0,J,.inr R,U⟩ j
   ·exact a3 j
  ·rename_i x d a2 a1
   split at j
   ·rename_i hm
    rcases Zkf hm with e|e
    ·obtain⟨a0,J,R,U⟩:=V3 e
     exact next (c:= .out) ⟨x,d,.inr a2,a1,a0,J,.inl R,U⟩ j
    ·obtain⟨a0,J,R,U⟩:=V3 e
     exact next (c:= .out) ⟨x,d,.inr a2,a1,a0,J,.inr R,U⟩ j
   ·exact a3 j
  ·exact a3 j
theorem Zp1:∀{os:List Oper} {k:Nat},Z3q os k=af->∀(j:Nat) o,os[j]? =ah o->(∀x∈waitsOf o,x<k+j)/\o.guard=aD
 | [],k,_,j,o,h=>by simp at h
 |a::r,k,t,j,o,h=>by
  simp only[Z3q,az] at t
  cases j with
  |zero=>
   simp at h;subst h
   refine⟨λx I=> ?_,Option.isNone_iff_eq_none.1 t.1.2⟩
   exact Zd9 t.1.1 x I
  |succ j=>
   obtain⟨J,R⟩:=Zp1 t.2 j o (by simpa using h)
   exact⟨λx I=>by have:=J x I;omega,R⟩
theorem Ze5{N:Nat}:∀{os:List Oper} {seen:List Nat},Zl9 N os seen=af->(∀(j:Nat) o d,os[j]? =ah o->o.dst=ah d->d<N/\d∉seen)/\∀(k J:Nat) o a0 d,os[k]? =ah o->os[J]? =ah a0->o.dst=ah d->a0.dst=ah d->k=J
 | [],seen,_=>⟨λj o d h=>by simp at h,λk J o a0 d h=>by simp at h⟩
 |a::r,seen,h=>by
  unfold Zl9 at h
  split at h
  ·rename_i d hd
   simp only[az,bh] at h
   obtain⟨a1,a2⟩:=Ze5 h.2
   have a3:d∉seen:=λe=>by rw[memB_iff.2 e] at h;cases h.1.2
   refine⟨λj o d' t I=> ?_,λk J o a0 d' t I R U=> ?_⟩
   ·cases j with
    |zero=>simp at t;subst t;rw[hd] at I;cases I;exact⟨Yi h.1.1,a3⟩
    |succ j=>
     obtain⟨q1,q2⟩:=a1 j o d' (by simpa using t) I
     exact⟨q1,λe=>q2 (by simp[e])⟩
   ·cases k with
    |zero=>
     simp at t;subst t;rw[hd] at R;cases R
     cases J with
     |zero=>rfl
     |succ J=>exact jv (by simp) (a1 J a0 d (by simpa using I) U).2
    |succ k=>
     cases J with
     |zero=>simp at I;subst I;rw[hd] at U;cases U;exact jv (by simp) (a1 k o d (by simpa using t) R).2
     |succ J=>rw[a2 k J o a0 d' (by simpa using t) (by simpa using I) R U]
  ·rename_i hd
   obtain⟨a1,a2⟩:=Ze5 h
   refine⟨λj o d' t I=> ?_,λk J o a0 d' t I R U=> ?_⟩
   ·cases j with
    |zero=>simp at t;subst t;rw[hd] at I;cases I
    |succ j=>exact a1 j o d' (by simpa using t) I
   ·cases k with
    |zero=>simp at t;subst t;rw[hd] at R;cases R
    |succ k=>
     cases J with
     |zero=>simp at I;subst I;rw[hd] at U;cases U
     |succ J=>rw[a2 k J o a0 d' (by simpa using t) (by simpa using I) R U]
theorem memI_iff{n:Int}:∀{l:List Int},memI n l=af↔n∈l
 | []=>by simp[memI]
 |x::r=>by
  unfold memI
  by_cases e:n=x
  ·subst e;simp
  ·rw[decide_eq_false e];simp only;rw[memI_iff];simp[e]
theorem Zcy{kd:IntKind} {i:Nat}:∀{cs:List (MK Y)} {seen:List Int},Zbn kd i cs seen=af->(∀(k:Nat) key v,cs[k]? =ah (MK.ins key v)->∃n,key= .int kd n/\n∉seen/\nid i v=af)/\∀(k k':Nat) key v t,cs[k]? =ah (MK.ins key v)->cs[k']? =ah (MK.ins key t)->k=k'
 | [],seen,_=>⟨λk key v h=>by simp at h,λk k' key v t h=>by simp at h⟩
 |c::r,seen,h=>by
  have skip:(∀key v,c≠ .ins key v)->Zbn kd i r seen=af->(∀(k:Nat) key v,(c::r)[k]? =ah (MK.ins key v)->∃n,key= .int kd n/\n∉seen/\nid i v=af)/\∀(k k':Nat) key v t,(c::r)[k]? =ah (MK.ins key v)->(c::r)[k']? =ah (MK.ins key t)->k=k':=λa0 hr=>by
   obtain⟨J,a1⟩:=Zcy hr
   refine⟨λk key v j=> ?_,λk k' key v t j I=> ?_⟩
   ·cases k with
    |zero=>simp at j;exact jv j (a0 _ _)
    |succ k=>exact J k key v (by simpa using j)
   ·cases k with
    |zero=>simp at j;exact jv j (a0 _ _)
    |succ k=>
     cases k' with
     |zero=>simp at I;exact jv I (a0 _ _)
     |succ k'=>rw[a1 k k' key v t (by simpa using j) (by simpa using I)]
  cases c with
  |mk=>exact skip (λ_ _ e=>by cases e) h
  |val _ _=>exact skip (λ_ _ e=>by cases e) h
  |out=>exact skip (λ_ _ e=>by cases e) h
  |ins a5 v0=>
   cases a5 with
   |int a6 n0=>
    simp only[Zbn,az,fw,bh] at h
    obtain⟨⟨⟨rfl,a2⟩,a4⟩,hr⟩:=h
    have a3:n0∉seen:=λe=>by rw[memI_iff.2 e] at a2;cases a2
    obtain⟨J,a1⟩:=Zcy hr
    refine⟨λk key v j=> ?_,λk k' key v t j I=> ?_⟩
    ·cases k with
     |zero=>simp at j;obtain⟨rfl,rfl⟩:=j;exact⟨n0,rfl,a3,a4⟩
     |succ k=>
      obtain⟨n,R,U,q3⟩:=J k key v (by simpa using j)
      exact⟨n,R,λe=>U (by simp[e]),q3⟩
    ·cases k with
     |zero=>
      cases k' with
      |zero=>rfl
      |succ k'=>
       simp at j;obtain⟨rfl,rfl⟩:=j
       obtain⟨n,R,U,q3⟩:=J k' _ t (by simpa using I)
       cases R;exact jv (by simp) U
     |succ k=>
      cases k' with
      |zero=>
       simp at I;obtain⟨rfl,rfl⟩:=I
       obtain⟨n,R,U,q3⟩:=J k _ v (by simpa using j)
       cases R;exact jv (by simp) U
      |succ k'=>rw[a1 k k' key v t (by simpa using j) (by simpa using I)]
   |_=>simp[Zbn] at h
theorem Zsh{ops:List Oper} {t:TypeId} {kd:IntKind} (h:Zjr E ops=ah (t,kd)):∃o r d,ops=o::r/\o.op= .makeMap t aD/\o.dst=ah d/\∃j I a b c,E.ty t=ah ⟨.map j I,a,b,c⟩/\keyKind E j=ah true:=by
 unfold Zjr at h;split at h
 ·rename_i o r
  split at h
  ·rename_i t' d U J
   split at h
   ·rename_i j I a b c a0
    split at h
    ·rename_i a1 _ _ _ R
     cases h;exact⟨o,r,d,rfl,U,J,j,I,a,b,c,a0,by unfold keyKind;rw[R]⟩
    ·cases h
   ·cases h
  ·cases h
 ·cases h
theorem Z1w(hE:EngOk E) {call:Nat->List (SV Y)->Hp Y->Nat->(Res Y->Prop)->Prop} (b8:∀(o:Oper) T h i k,DomLt h i->step E call o.op T h i k->∃r,k r/\OpTri2 E o T h i r) {N:Nat} {ops:List Oper} {t:TypeId} {kd:IntKind} {T:Fr Y} {h:Hp Y} {i:Nat} {ms:List Nat} {K:Fr Y->Hp Y->Nat->List Nat->Prop} (hD:DomLt h i)
 (hh:Zjr E ops=ah (t,kd)) (j:Z87 E call N ops t kd T h i ms K) (id:Nat):
 ∃T' h' i' ms',K T' h' i' ms'/\i<=i'/\Dom h i h' i'/\(∃m,ms'=m++ms/\Yr h i i' m)/\CodeTri E N (.region id ops.toArray af) T h i .normal T' h' i' ms':=by
 obtain⟨o0,r0,d0,rfl,b7,a6,b9⟩:=Zsh hh
 unfold Z87 at j
 split at j
 ·rename_i ol R b6
  rw[az] at R
  have a4:=Zp1 R.1
  obtain⟨a8,a9⟩:=Ze5 R.2
  obtain⟨l,j,a3,a1⟩:=Zp0 b8 hD (pre:= [o0]) (cs:= [.mk]) rfl rfl (λk o c h1 a0=>by
   cases k with
   |zero=>simp at h1 a0;subst h1;subst a0;exact⟨rfl,b7,d0,a6⟩
   |succ k=>simp at a0) j
  generalize a5:([MK.mk]:List (MK Y))++l=cs at*
  split at j
  ·rename_i dl b3 b5 a7
   rw[Xl] at j
   obtain⟨a2,b4⟩:=Zcy b3
   have hL:LOk E (o0::r0) cs t kd (Wn (Yf (o0::r0)) T) h i:={
    len:=a3
    wt:=λk o I x hx=>by have:=(a4 k o I).1 x hx;omega
    gd:=λk o I=>(a4 k o I).2
    dst1:=a9
    key:=λk key v j=>let⟨n,e,_⟩:=a2 k key v j;⟨n,e⟩
    key1:=b4
    nidv:=λk key v j=>let⟨_,_,_,e⟩:=a2 k key v j;e
    ty:=b9
    mkk:=λk o I U=>a1 k o _ I U
    val:=λk o rd v I U=>a1 k o _ I U
    ins:=λk o key v I U=>a1 k o _ I U
    out:=λk o I U=>a1 k o _ I U
    mk0:=by rw[<-a5];rfl}
   refine⟨_,h,i+1,ms,j,Nat.le_succ i,⟨λb R=>by have:=hD b R;omega,λb R=> .inl R⟩,⟨[],rfl,λb R=>by simp at R⟩,?_⟩
   intro B σ g w a Q hI hB b0 hF hN hQ
   refine Zsg hE hL hD (Zh9 b6) (by have e:=Zh9 b5;rw[<-a3] at e;exact e) a7 (λk o d I hd=>(a8 k o d I hd).1) id ms B σ g w a Q hI hB (b0 i (aE _) (Nat.lt_succ_self _)) hF hN ?_
   rintro a' w' ⟨h1,a0,σ',g',J,h4,h5⟩
   refine hQ a' w' ⟨h1,a0,σ',g',?_,h4,h5⟩
   exact⟨J.sig,λb p R=>(J.snew b p R).imp (λx=>x) (λx=>by omega),J.gle,J.gcnew,J.gmnew,J.heap,J.size,J.os,J.tape,J.output,J.blk⟩
  ·exact j.elim
 ·exact j.elim
end
end
section
open Go
end
section
open Go.RowKit
section
variable {Y:Thy} {E:Eng Y} {F:Fns Y}
theorem Z34(J:EngOk E) {call:Nat->List (SV Y)->Hp Y->Nat->(Res Y->Prop)->Prop} (o:Oper) (T:Fr Y) (h:Hp Y) (i:Nat) (k:Res Y->Prop) (hD:DomLt h i) (j:step E call o.op T h i k) (a2:∀c,o.op= .call c->(∀f,c.callee≠ .value f)/\c.callee≠ .builtin .panic) (a3:∀x,o.op≠ .panic x):
 ∃r,k r/\OpTri E o T h i r:=by
 cases I:o.op
 case move x=>rw[I] at j;exact Zgo (.inl I) j
 case assign x=>rw[I] at j;exact Zgo (.inr I) j
 case pick c a b=>exact Zrr I j
 case alloc t=>
  rw[I] at j
  simp only[step] at j
  split at j
  ·exact Zvp J I ‹_› j
  ·exact Z11 J I j
 case box t x=>
  rw[I] at j
  have j:(match E.arrOf t with|some th=>Zre E t th (ev T x) i k|none=>Zfz (ev T x) i k):=j
  split at j
  ·exact Z58 J I ‹_› j
  ·exact Yab I j
 case build t p=>rw[I] at j;exact Zvs J I j
 case buildSlice t n p=>
  rw[I] at j
  have U:Wd E t n p T i k:=j
  clear j
  unfold Wd at U
  split at U
  ·exact Zew J I U
  ·exact Zgf J I U
 case load t x=>rw[I] at j;exact Zvq J I j
 case store t x v=>rw[I] at j;exact Zr7 J I j
 case nilCheck x=>exact Zmh I j
 case binOp op t x y t'=>
  rw[I] at j
  simp only[step,Z84] at j
  split at j
  ·rename_i p q R hp hq
   exact Z3d J I hp hq R j
  ·exact Z2u J I j
 case unOp op t x=>rw[I] at j;exact Z9k I j
 case makeInterface t x=>rw[I] at j;exact Z3f J I j
 case typeAssert x t' t ok=>rw[I] at j;exact Zyw J I j
 case convert s d x=>
  rw[I] at j
  simp only[step,Zcm,Vk,Zfz,Zl2,Zcn,Zl4,Zjk,Zjl,stMm,Zl5,Zdo,Zjm,U2,U3,Wd,Zdp,U4] at j
  split at j
  ·rename_i ti U
   split at j
   ·rename_i ht a0
    exact Zu4 J (J.ty _ _ U).1 I ht a0 j
   ·rename_i ht a0
    split at j
    ·exact Zhc J I ‹_› ht a0 j
    ·exact j.elim
   ·rename_i ht a0
    split at j
    ·exact Zhc J I ‹_› ht a0 j
    ·exact j.elim
   ·exact Zml J (by rw[(J.ty _ _ U).1];rfl) I j
  ·exact j.elim
 case makeFunc f a b=>exact Zmi I j
 case fieldAddr s x f=>rw[I] at j;exact Ziu J I j
 case field s x f=>rw[I] at j;exact Zuk J I j
 case indexAddr t x ix=>rw[I] at j;exact Zge J I j
 case index t x ix=>rw[I] at j;exact Zr6 J I j
 case makeSlice t x y=>rw[I] at j;exact Z0r J I j
 case makeMap t rs=>
  rw[I] at j
  cases rs with
  |none=>
   simp only[step,Zcm,Vk,Zfz,Zl2,Zcn,Zl4,Zjk,Zjl,stMm,Zl5,Zdo,Zjm,U2,U3,Wd,Zdp,U4] at j
   split at j
   ·exact Zgz J I j
   ·exact j.elim
  |some q=>exact j.elim
 case insert t m x v=>rw[I] at j;exact Zm6 J (.inr I) j
 case mapUpdate t m x v=>rw[I] at j;exact Z1q J (.inl I) j
 case lookup t m x ok=>rw[I] at j;exact Zm7 J I j
 case slice t x lo hi mx=>rw[I] at j;exact Zuu J I j
 case extract x n=>exact Zrl I j
 case call c=>
  rw[I] at j
  simp only[step,Zcm,Vk,Zfz,Zl2,Zcn,Zl4,Zjk,Zjl,stMm,Zl5,Zdo,Zjm,U2,U3,Wd,Zdp,U4] at j
  split at j
  ·rename_i R
   split at j
   ·rename_i t x ht hx
    exact Z48 J R I ht hx j
   ·exact j.elim
  ·rename_i R
   split at j
   ·rename_i x r hr
    exact Zgm ae R I hr j
   ·exact j.elim
  ·rename_i R
   split at j
   ·rename_i x r hr
    exact Zgm af R I hr j
   ·exact j.elim
  ·rename_i R
   split at j
   ·rename_i x y t t' ha a1
    split at j
    ·rename_i hb
     exact Zso J R I ha (by rw[a1,aG hb]) j
    ·exact j.elim
   ·exact j.elim
  ·rename_i R
   split at j
   ·rename_i x y t ts ha a1
    exact Z0t J R I ha a1 j
   ·exact j.elim
  ·rename_i R
   exact jv R (a2 c I).2
  ·rename_i f R
   exact jv R ((a2 c I).1 f)
  ·exact j.elim
 case panic x=>exact jv I (a3 x)
 all_goals(rw[I] at j;exact j.elim)
theorem Zz4{σ:Pl} {g:GH} {x:SV Y} {u v:Value} (h:ex0 x=ah u) (j:Den E σ g x v):v=u:=by
 unfold ex0 at h;split at h
 ·cases h;cases j;rfl
 ·cases h;cases j;rfl
 ·cases h
  cases j;rename_i b e;rw[<-e,Zzo]
 ·cases h
theorem Zz5{σ:Pl} {g:GH}:∀{xs:List (SV Y)} {I vs:List Value},exL xs=ah I->DenL E σ g xs vs->vs=I
 | [],I,vs,h,t=>by
  cases h
  exact List.eq_nil_of_length_eq_zero t.1.symm
 |x::r,I,vs,h,t=>by
  unfold exL at h
  split at h
  ·rename_i u a0
   split at h
   ·rename_i l U
    cases h
    cases vs with
    |nil=>cases t.1
    |cons v vs=>
     rw[Zz4 a0 (t.2 0 x v rfl rfl),Zz5 (vs:=vs) U ⟨by have:=t.1;simpa using this,λj sv w J R=>t.2 (j+1) sv w (by simpa using J) (by simpa using R)⟩]
   ·cases h
  ·cases h
theorem Z9f{σ:Pl} {g:GH} {x:SV Y} {u v:Value} (h:ex1 x=ah u) (t:Den E σ g x v):v=u:=by
 unfold ex1 at h;split at h
 ·rename_i cs
  split at h
  ·rename_i l hl
   cases h;obtain⟨arr,c,rfl,hs,U,t⟩:=Yo t
   have:=Zz5 (vs:=arr.toList) hl ⟨by simp[hs],λj sv w I J=>by
    have a0:j<cs.length:=(ar.1 I).1;have R:=U j a0;rw[show arr.toList[j]? =arr[j]? by simp,R] at J;cases J
    exact t j sv I⟩
   rw[<-this]
  ·cases h
 ·exact Zz4 h t
theorem Zrj{o:Oper} {T:Fr Y} {h:Hp Y} {i:Nat} {k:Res Y->Prop} {x:Operand} (hx:x∈o.op.operands.toList) (a2:∀(ρ:Operand->Value) (w:World) (v:Value),(∃t u,ρ x= .iface t u)->(execOp ρ o).run E.P w= .halt (.panic (ρ x)) w) (j:Z3n (ev T x) k):∃r,k r/\OpTri2 E o T h i r:=by
 unfold Z3n at j;split at j
 ·rename_i t v U
  split at j
  ·rename_i u hu
   refine⟨_,j,.inr ⟨λb a0=>by simp[quiet] at a0,_,rfl,λB σ g w ρ R hB a3 hd=> ?_⟩⟩;have I:=hd x hx;rw[U] at I;generalize J:ρ x=rx at I;cases I;rename_i v' a1;have e:=Z9f hu a1;subst e;unfold PanPost;rw[a2 ρ w undef ⟨t,v',J⟩];refine⟨J,σ,g,.refl _ _ _ _,?_⟩;rw[Yp];exact R
  ·exact j.elim
 ·exact j.elim
theorem Zdc(hE:EngOk E) {call:Nat->List (SV Y)->Hp Y->Nat->(Res Y->Prop)->Prop} (b6:Zcf E call) (b5:∀f args h i k,call f args h i k->FnGood E.P f) (o:Oper) (T:Fr Y) (h:Hp Y) (i:Nat) (k:Res Y->Prop) (hD:DomLt h i) (I:step E call o.op T h i k):
 ∃r,k r/\OpTri2 E o T h i r:=by
 by_cases a9:∃x,o.op= .panic x
 ·obtain⟨x,J⟩:=a9
  rw[J] at I
  refine Zrj (x:=x) (by simp[J,ba]) (λρ w v ⟨t,u,hx⟩=> ?_) I
  unfold execOp
  simp only[J,hx,Instr.panic,goPanic]
  simp[go_sem]
 by_cases a5:∃c,o.op= .call c/\(c.callee= .builtin .panic\/∃f,c.callee= .value f)
 ·obtain⟨c,J,a1|⟨f,a1⟩⟩:=a5
  ·rw[J] at I
   simp only[step,U2,a1] at I
   split at I
   ·rename_i x hx
    have c6:x∈o.op.operands.toList:=by simp[J,ba,Call.operands,a1,<-Array.mem_toList_iff,hx]
    have a4:c.args= #[x]:=by have:=jy List.toArray hx;simpa using this
    refine Zrj (x:=x) c6 (λρ w v ⟨t,u,b3⟩=> ?_) I
    unfold execOp
    simp only[J,resolve,a1,a4,b3,invoke,builtin,Instr.panic,goPanic]
    simp[go_sem,b3,Instr.panic,goPanic]
   ·exact I.elim
  ·rw[J] at I
   simp only[step,Zjm,U2,a1] at I
   split at I
   ·rename_i a3 a b hf
    split at I
    ·rename_i xt c0
     rw[Wx] at I
     obtain⟨r,a0,h2⟩:=Z8o hE a1 J hf c0 I
     exact⟨r,a0,.inl h2⟩
    obtain⟨fn,c1,hb,c2⟩:=b5 _ _ _ _ _ I
    obtain⟨r,I,hR,a2⟩:=b6 _ _ _ _ _ hD I
    have b0:∀(ρ:Operand->Value) (w:World) (R U:Array Value),ρ f= .func (.func a3) R U->(execOp ρ o).run E.P w= .ok (.enter a3 (R++c.args.map ρ++U)) w:=by
     intro ρ w R U hv
     unfold execOp
     have b4:fn.body.isNone=false:=by cases hq:fn.body<;>rw[hq] at hb<;>first|rfl|cases hb
     simp only[J,resolve,a1,aL,aR,aH,Deferred.ofValue,hv,invoke,callFunc,program,gJ,c1,c2,b4,bc,jQ]
    have a8:∀(σ:Pl) (g:GH) (ρ:Operand->Value),(∀x∈o.op.operands.toList,Den E σ g (ev T x) (ρ x))->∃R U,ρ f= .func (.func a3) R U/\DenL E σ g (a++c.args.toList.map (ev T)++b) (R++c.args.map ρ++U).toList:=by
     intro σ g ρ hx
     have a7:=hx f (by simp[J,ba,Call.operands,a1])
     rw[hf] at a7
     generalize hv:ρ f=vf at a7
     cases a7
     rename_i R U ca cb c4 a4 b8 c5 b7 b9
     refine⟨R,U,rfl,?_⟩
     obtain⟨e1,e2,e3⟩:=Zeh (E:=E) (σ:=σ) (g:=g) (T:=T) (ρ:=ρ) (xs:=c.args) (λx hm=>hx x (by simp[J,ba,Call.operands,a1] at hm⊢;exact .inr hm))
     have l1:DenL E σ g a R.toList:=⟨by simp[c4],λj sv v a0 h2=>by
      have:=a4 j (ar.1 a0).1
      rw[show R.toList[j]? =R[j]? by simp,this] at h2
      cases h2;exact b8 j sv a0⟩
     have l2:DenL E σ g (c.args.toList.map (ev T)) (c.args.map ρ).toList:=⟨by simp,λj sv v a0 h2=>by
      have:=e2 j (ar.1 a0).1
      rw[show(c.args.map ρ).toList[j]? =(c.args.map ρ)[j]? by simp,this] at h2
      cases h2;exact e3 j sv a0⟩
     have l3:DenL E σ g b U.toList:=⟨by simp[c5],λj sv v a0 h2=>by
      have:=b7 j (ar.1 a0).1
      rw[show U.toList[j]? =U[j]? by simp,this] at h2
      cases h2;exact b9 j sv a0⟩
     rw[gD,gD]
     exact(l1.append l2).append l3
    rcases a2 with a2|⟨p,hp,a2⟩
    ·refine⟨r,I,.inl ⟨hR,?_⟩⟩
     intro B σ g w ρ hh c3 hI hB a6 hx
     obtain⟨R,U,hv,hd⟩:=a8 σ g ρ hx
     refine Zrq (b0 ρ w R U hv) ?_
     refine(a2 B σ g w _ hh c3 hI hB a6 hd).mono ?_
     rintro en w' ⟨u,rfl,a0⟩
     exact⟨u,rfl,a0⟩
    ·refine⟨r,I,.inr ⟨hR,p,hp,?_⟩⟩
     intro B σ g w ρ hI hB a6 hx
     obtain⟨R,U,hv,hd⟩:=a8 σ g ρ hx
     unfold PanPost
     rw[b0 ρ w R U hv]
     exact a2 B σ g w _ hI hB a6 hd
   ·exact I.elim
 ·obtain⟨r,a0,h2⟩:=Z34 hE o T h i k hD I (λc J=>⟨λf a1=>a5 ⟨c,J,.inr ⟨f,a1⟩⟩,λa1=>a5 ⟨c,J,.inl a1⟩⟩) (λx J=>a9 ⟨x,J⟩)
  exact⟨r,a0,.inl h2⟩
theorem Zgc(t:FnsOk E F) {I:Nat->Nat->Code->Fr Y->Hp Y->Nat->List Nat->Kont Y->Prop} {f:Nat} {args:List (SV Y)} {h:Hp Y} {i:Nat} {k:Res Y->Prop} (j:U6 E F I f args h i k):FnGood E.P f:=by
 unfold U6 at j;split at j
 ·exact t.sumG f _ ‹_›
 ·split at j
  ·exact t.fnG f _ ‹_›
  ·exact j.elim
theorem Vv(t:FnsOk E F) {I:Nat->Nat->Code->Fr Y->Hp Y->Nat->List Nat->Kont Y->Prop} {f:Nat} {args:List (SV Y)} {h:Hp Y} {i:Nat} {k:Res Y->Prop} (j:Zk E F I f args h i k):FnGood E.P f:=by
 unfold Zk at j;split at j
 ·exact Zgc t j
 ·split at j
  ·exact t.fnG f _ ‹_›
  ·exact j.elim
theorem Zmc(hE:EngOk E) (hF:FnsOk E F) {call:Nat->List (SV Y)->Hp Y->Nat->(Res Y->Prop)->Prop} (a9:∀(o:Oper) T h i k,DomLt h i->step E call o.op T h i k->∃r,k r/\OpTri2 E o T h i r) {a6:Nat->Nat->Code->Fr Y->Hp Y->Nat->List Nat->Kont Y->Prop} (a8:∀f N c,VcOk E N c (a6 f N c)):
 ∀(ds:List (Dfr Y)) (h:Hp Y) (i:Nat) (ms:List Nat) (K:Hp Y->Nat->List Nat->Prop),DomLt h i->Zrh E F call a6 ds h i ms K->∃U i2 m,K U i2 (m++ms)/\i<=i2/\Dom h i U i2/\Yr h i i2 m/\
  ∀(B:Nat) (σ:Pl) (g:GH) (w:World) (fn:Func) (I:Array Value) (R:Ending->World->Prop) (l:List Deferred),Inv E B σ h g w->B<=w.heap.size->(∀b,i<=b->b<i2->σ b=aD)->DlOk E σ g ds l->
   (∀a1 J w2,Stp i (i2-i) m σ g w a1 J w2->Inv E B a1 U J w2->Leaves E.P fn I R [] .returning w2)->Leaves E.P fn I R l .returning w
 | [],h,i,ms,K,a0,hk=>by
  refine⟨h,i,[],hk,aE _,⟨a0,λb j=> .inl j⟩,λb j=>by simp at j,λB σ g w fn I R l hI hB a5 hd hQ=> ?_⟩
  obtain rfl:l= []:=hd
  exact hQ σ g w (by rw[dS];exact Stp.refl _ _ _ _) hI
 |p::ds,h,i,ms,K,a0,hk=>by
  obtain⟨hG,t,b3,a4,dt⟩:=Zq4 hE hF a9 a8 a0 (show Zt4 E F aD call a6 p.1 p.2 h i _ from hk)
  have b4:=Vc a0 b3
  have a3:Dom h i (patch h i t) (i+t.n):=⟨a0.patch a4,λb j=>by
   rw[Z6] at j
   split at j
   ·rename_i c
    rcases c with c|c
    ·exact .inl (a4 b c)
    ·exact .inr c.1
   ·exact .inl j⟩
  obtain⟨U,i2,m,hK,hi,b0,hM,tri⟩:=Zmc hE hF a9 a8 ds _ _ _ K a3.1 b4
  refine⟨U,i2,m++t.mods,by rw[List.append_assoc];exact hK,by omega,Zam (by omega) a3 b0,X4 a3 (by omega) hi (λb j=> .inl (a4 b j)) hM,λB σ g w fn I R l hI hB a5 hd hQ=> ?_⟩
  obtain⟨cap,a2,l',rfl,h8,b6⟩:=hd
  obtain⟨gf,b7,a7,b8⟩:=hG
  have b9:(invoke (.fn (.func p.1) cap) a2).run E.P w= .ok (.enter p.1 (a2++cap)) w:=by
   have b5:gf.body.isNone=false:=by cases hq:gf.body<;>rw[hq] at a7<;>first|rfl|cases a7
   simp only[invoke,callFunc,program,gJ,aL,aR,aH,b7,b8,b5,bc,jQ]
  refine leaves_cons (by intro hx;cases hx) b9 ?_
  refine(dt B σ g w (a2++cap) hI hB (λb b1 b2=>a5 b b1 (by omega)) h8).mono ?_
  rintro en u' w2 ⟨rfl,u2,rfl,a1,J,k1,k2,k3⟩
  show Leaves E.P fn I _ l' (settle .returning) w2
  refine tri B a1 J w2 fn I R l' k2 (bY hB k1.size) (λb b1 b2=>X3 k1 a5 b (by omega) b2) (b6.mono k1.sig k1.gle) λc1 g3 w3 s1 s2=>hQ c1 g3 w3 ?_ s2
  have c0:Stp i (i+t.n-i) t.mods σ g w a1 J w2:=by rw[show i+t.n-i=t.n by omega];exact k1
  exact Zal (by omega) hi c0 s1
theorem Ws(hE:EngOk E) (hF:FnsOk E F) {a1:Nat->Nat->Code->Fr Y->Hp Y->Nat->List Nat->Kont Y->Prop} (a7:∀f N c,VcOk E N c (a1 f N c)):Zcf E (Zk E F a1):=by
 have h0:Zcf E (U6 E F a1):=Zyz hE hF a7;have b6:=λ(o:Oper) T h i k hD j=>Zdc hE h0 (λ_ _ _ _ _ j=>Zgc hF j) o T h i k hD j;intro f args h i k hD j;unfold Zk at j;split at j
 ·exact h0 f args h i k hD j
 ·split at j
  ·rename_i fn b3
   split at j
   ·rename_i c hc
    split at j
    ·exact j.elim
    ·rename_i a0
     rw[bx] at a0;rw[Wx] at j;obtain⟨e,dl,T',h',I,c9,t,hi,a4,⟨m,rfl,hM⟩,a2⟩:=(Ybc hE b6 a7 F.dfl c).1 _ _ _ _ _ _ hD j;have b7:(e= .normal\/e= .ret)->Zrh E F (U6 E F a1) a1 dl h' I (m++ []) (λh' I ms=>finF E fn i k T' h' I ms)->∃r,k r/\ROk h r/\CallTri2 E f args h i r:=by
      intro he t;obtain⟨h2,i2,m2,a9,b9,c8,b0,lt⟩:=Zmc hE hF b6 a7 dl h' I (m++ []) _ a4.1 t;obtain⟨r,j,hR,hn,b5,ft⟩:=Zfr hE hD (X4 a4 hi b9 (by simpa using hM) b0) a9;refine⟨r,j,hR,.inl λB σ g w vals hh b4 hI hB a6 hd=> ?_⟩;obtain rfl:hh=h:=funext λb=>b4 b (by unfold Rd;rw[b5];trivial);have U:∀b,i<=b->b<i2->σ b=none:=λb h1 h2=>a6 b h1 (by omega);refine calls_of_wp_defers (hF.fn f fn b3) hc ?_;refine a2 B σ g w _ _ hI hB (λb h1 h2=>U b h1 (by omega)) (Xu hd a0) (Xv hd a0) rfl ?_;rintro J w' ⟨h2,σ',R,h3,h4,h5,h6⟩
      have:Leaves E.P fn J.tmps (λen w'=>∃u,en= .returned u/\∃σ' R,Stp i r.n r.mods σ g w σ' R w'/\Inv E B σ' (patch hh i r) R w'/\Den E σ' R r.v u) J.defers .returning w':=by
       refine lt B σ' R w' fn _ _ _ h4 (bY hB h3.size) (λb b1 b2=>X3 h3 U b (by omega) b2) h6 λa3 g2 w2 k1 k2=> ?_;obtain⟨u,hu,q1,q2,q3⟩:=ft B σ g w a3 g2 J w2 hI U (Zal hi b9 h3 k1) k2 (h5.mono k1.sig k1.gle);exact⟨u,hu,u,rfl,a3,g2,q1,q2,q3⟩
      rcases he with rfl|rfl
      ·exact this
      ·exact this
     have c0:∀ch pu,e= .panic ch->Zt3 ch=ah pu->(match(generalizing:=false) dl with| []=>finP i k pu h' I (m++ [])| [p]=>Zt4 E F (ah pu) (U6 E F a1) a1 p.1 p.2 h' I λr=>Zjn r h' I (m++ []) λh' I ms=>finF E fn i k T' h' I ms|_=>False)->∃r,k r/\ROk h r/\CallTri2 E f args h i r:=by
      intro ch pu he a5 t;obtain rfl:=Zq3 a5;subst he
      match dl,t,a2 with
      | [],t,a2=>
       obtain⟨r,j,hR,hn,hv,ft⟩:=Zyy hE hD (by simpa using hM) t;refine⟨r,j,hR,.inr ⟨pu,hv,λB σ g w vals hI hB a6 hd=> ?_⟩⟩;have U:∀b,i<=b->b<I->σ b=none:=λb h1 h2=>a6 b h1 (by omega);refine calls_of_wp_defers (hF.fn f fn b3) hc ?_;refine a2 B σ g w _ _ hI hB U (Xu hd a0) (Xv hd a0) rfl ?_;rintro J w' ⟨h2,σ',R,h3,h4,h5,h6⟩;obtain⟨q1,q2⟩:=ft B σ g w σ' R w' hI U h3 h4;have h6:J.defers= []:=h6;show Leaves E.P fn J.tmps _ J.defers (.panicking _) w';rw[h6];exact⟨rfl,σ',R,q1,q2⟩
      | [p],t,a2=>
       obtain⟨hG,r1,c1,c2,dt⟩:=Zq4 hE hF b6 a7 a4.1 t;have a9:=Vc a4.1 c1;have b0:Yr h i (I+r1.n) (r1.mods++(m++ [])):=X4 a4 hi (by omega) (by simpa using hM) (λb hb=> .inl (c2 b hb));obtain⟨r,j,hR,hn,b5,ft⟩:=Zfr hE hD b0 a9;refine⟨r,j,hR,.inl λB σ g w vals hh b4 hI hB a6 hd=> ?_⟩;obtain rfl:hh=h:=funext λb=>b4 b (by unfold Rd;rw[b5];trivial);have U:∀b,i<=b->b<I+r1.n->σ b=none:=λb h1 h2=>a6 b h1 (by omega);refine calls_of_wp_defers (hF.fn f fn b3) hc ?_;refine a2 B σ g w _ _ hI hB (λb h1 h2=>U b h1 (by omega)) (Xu hd a0) (Xv hd a0) rfl ?_
       rintro J w' ⟨h2,σ',R,h3,h4,h5,h6⟩;obtain⟨cap,a8,l',h7,h8,h9⟩:=h6;obtain rfl:l'= []:=h9;obtain⟨gf,c4,b8,c5⟩:=hG;have c6:(invoke (.fn (.func p.1) cap) a8).run E.P w'= .ok (.enter p.1 (a8++cap)) w':=by
        have c3:gf.body.isNone=false:=by cases hq:gf.body<;>rw[hq] at b8<;>first|rfl|cases b8
        simp only[invoke,callFunc,program,gJ,aL,aR,aH,c4,c5,c3,bc,jQ]
       show Leaves E.P fn J.tmps _ J.defers (.panicking _) w';rw[h7];refine leaves_cons (by intro hx;cases hx) c6 ?_;refine(dt B σ' R w' (a8++cap) h4 (bY hB h3.size) (λb b1 b2=>X3 h3 U b (by omega) b2) h8).mono ?_;rintro en u' w2 ⟨rfl,u2,rfl,a3,g2,k1,k2,k3⟩;show Leaves E.P fn J.tmps _ [] (settle (Zc6 (ah pu))) w2;have c7:Stp I (I+r1.n-I) r1.mods σ' R w' a3 g2 w2:=by rw[show I+r1.n-I=r1.n by omega];exact k1
       obtain⟨u,hu,q1,q2,q3⟩:=ft B σ g w a3 g2 J w2 hI U (Zal hi (by omega) h3 c7) k2 (h5.mono k1.sig k1.gle);exact⟨u,hu,u,rfl,a3,g2,q1,q2,q3⟩
      |_::_::_,t,_=>exact t.elim
     split at t
     ·exact b7 (.inl rfl) t
     ·exact b7 (.inr rfl) t
     ·rename_i ch
      cases a5:Zt3 ch with
      |none=>rw[a5] at t;exact t.elim
      |some pu=>
       rw[a5] at t;exact c0 ch pu rfl a5 t
     ·exact t.elim
   ·exact j.elim
  ·exact j.elim
def RoundsTri(E:Eng Y) (N:Nat) (c:Code) (T:Fr Y) (h:Hp Y) (i:Nat) (e:Exit) (J:Fr Y) (R:Hp Y) (t:Nat) (U:List Nat):Prop:=
 ∃n,∀(B:Nat) (σ:Pl) (g:GH) (w:World) (a:Act) (Q:Exit->Act->World->Prop),Inv E B σ h g w->B<=w.heap.size->(∀b,i<=b->b<t->σ b=aD)->FrOk E σ g T a->a.tmps.size=N->
  (∀j I,Aft E B N i t U σ g w a.defers J R j I->Q e j I)->Code.rounds E.P c Q n a w
theorem Zas{h I:Hp Y} {i t i2:Nat} {R U:List Nat} (J:Dom h i I t) (hi:i<=t) (a2:t<=i2) (a0:Yr h i t R) (a1:Yr I t i2 U):Yr h i i2 (U++R):=by
 intro b j;rcases dJ.1 j with j|j
 ·rcases a1 b j with c|c
  ·rcases J.2 b c with c'|c'
   ·exact .inl c'
   ·right;have:=J.1 b c;omega
  ·right;omega
 ·rcases a0 b j with c|c
  ·exact .inl c
  ·right;omega
theorem Dom.trans{h t I:Hp Y} {i j i2:Nat} (hi:i<=j) (R:Dom h i t j) (J:Dom t j I i2):Dom h i I i2:=
 ⟨J.1,λb U=>by
  rcases J.2 b U with c|c
  ·exact R.2 b c
  ·right;omega⟩
theorem CodeTri.seq{N:Nat} {c1 I:Code} {T R U:Fr Y} {h j J:Hp Y} {i t i2:Nat} {m1 m2:List Nat} {e:Exit} (t1:CodeTri E N c1 T h i .normal R j t m1) (t2:CodeTri E N I R j t e U J i2 m2) (hi:i<=t) (a4:t<=i2) (hm:∃m,m2=m++m1):CodeTri E N (.seq c1 I) T h i e U J i2 m2:=by
 intro B σ g w a Q hI hB a0 hF hN hQ;refine wp_seq (t1 B σ g w a _ hI hB (λb j J=>a0 b j (by omega)) hF hN ?_);intro a1 w1 hA;show I.wp E.P Q a1 w1;obtain⟨a5,g1,k1,k2,k3,k4,k5⟩:=hA.trans hi a4 hB a0 hm;exact t2 B a5 g1 w1 a1 Q k1 k2 k3 k4 hA.sz λa2 w2 a3=>hQ a2 w2 (k5 _ _ _ _ a3)
theorem CodeTri.seq_out{N:Nat} {t U:Code} {T j:Fr Y} {h I:Hp Y} {i J:Nat} {m1:List Nat} {e:Exit} (he:e≠ .normal) (t1:CodeTri E N t T h i e j I J m1):CodeTri E N (.seq t U) T h i e j I J m1:=by
 intro B σ g w a Q hI hB a0 hF hN hQ;refine wp_seq (t1 B σ g w a _ hI hB a0 hF hN ?_);intro R w1 hA;have:=hQ R w1 hA;cases e<;>first|exact this|exact jv rfl he
theorem RoundsTri.more{N:Nat} {c:Code} {T R U:Fr Y} {h j I:Hp Y} {i t i2:Nat} {m1 m2:List Nat} {e:Exit} (t1:CodeTri E N c T h i .normal R j t m1) (J:RoundsTri E N c R j t e U I i2 m2) (hi:i<=t) (a4:t<=i2) (hm:∃m,m2=m++m1):RoundsTri E N c T h i e U I i2 m2:=by
 obtain⟨n,J⟩:=J;refine⟨n+1,λB σ g w a Q hI hB a0 hF hN hQ=> ?_⟩;rw[rounds_succ];refine t1 B σ g w a _ hI hB (λb j I=>a0 b j (by omega)) hF hN ?_;intro a1 w1 hA;obtain⟨a5,g1,k1,k2,k3,k4,k5⟩:=hA.trans hi a4 hB a0 hm;exact J B a5 g1 w1 a1 Q k1 k2 k3 k4 hA.sz λa2 w2 a3=>hQ a2 w2 (k5 _ _ _ _ a3)
theorem RoundsTri.out{N:Nat} {c:Code} {T j:Fr Y} {h t:Hp Y} {i I:Nat} {m1:List Nat} {e:Exit} (he:e≠ .normal) (t1:CodeTri E N c T h i e j t I m1):RoundsTri E N c T h i e j t I m1:=by
 refine⟨1,λB σ g w a Q hI U a0 hF hN hQ=> ?_⟩;rw[rounds_succ];refine t1 B σ g w a _ hI U a0 hF hN ?_;intro J w1 R;have:=hQ J w1 R;cases e<;>first|exact this|exact jv rfl he
theorem RoundsTri.loop{N:Nat} {c:Code} {T j:Fr Y} {h I:Hp Y} {i J:Nat} {m1:List Nat} {e:Exit} (t:RoundsTri E N c T h i e j I J m1):CodeTri E N (.loop c) T h i e j I J m1:=by
 obtain⟨n,t⟩:=t;exactλB σ g w a Q a0 R a1 U hN hQ=>wp_loop_rounds n (t B σ g w a Q a0 R a1 U hN hQ)
theorem Zju{e:Exit} {α:Prop} {k:Exit->Prop} (h:match e with| .normal=>α|e=>k e):(e= .normal/\α)\/(e≠ .normal/\k e):=by
 cases e<;>first|exact .inl ⟨rfl,h⟩|exact .inr ⟨by simp,h⟩
theorem Zjv(hE:EngOk E) (R:FnsOk E F):∀(n f N:Nat) (c:Code),VcOk E N c (vc E F n f N c)/\
 ∀b,c= .loop b->lpOf F f b=aD->∀T h i ms K,DomLt h i->vc E F n f N c T h i ms K->∃e T' h' i' ms',K e T' h' i' ms'/\i<=i'/\Dom h i h' i'/\(∃m,ms'=m++ms/\Yr h i i' m)/\RoundsTri E N b T h i e T' h' i' ms':=by
 intro n
 induction n with
 |zero=>intro f N c;exact⟨λT h i ms K _ I=>I.elim,λb _ _ T h i ms K _ I=>I.elim⟩
 |succ n ih=>
  intro f N c
  have a5:Zcf E (Zk E F (vc E F n)):=Ws hE R λf N c=>(ih f N c).1
  have b5:∀T h i ms K,vc E F (n+1) f N c T h i ms K=vcB E F (vc E F n) f N c T h i ms K:=λT h i ms K=>rfl
  have rounds:∀b,c= .loop b->lpOf F f b=aD->∀T h i ms K,DomLt h i->vc E F (n+1) f N c T h i ms K->∃e T' h' i' ms',K e T' h' i' ms'/\i<=i'/\Dom h i h' i'/\(∃m,ms'=m++ms/\Yr h i i' m)/\RoundsTri E N b T h i e T' h' i' ms':=by
   rintro b rfl hl T h i ms K U I
   rw[b5] at I
   simp only[vcB,Zo7,Zo8,Zf5,Zbo,Zf6] at I
   rw[hl] at I
   obtain⟨e,T1,h1,i1,ms1,J,hi,a0,⟨m,rfl,hM⟩,t1⟩:=(ih f N b).1 T h i ms _ U I
   rcases Zju J with⟨rfl,J⟩|⟨he,J⟩
   ·obtain⟨e2,T2,h2,i2,c3,a8,a4,a6,⟨m',rfl,a9⟩,t2⟩:=(ih f N (.loop b)).2 b rfl hl T1 h1 i1 _ _ a0.1 J
    exact⟨e2,T2,h2,i2,_,a8,by omega,a0.trans hi a6,⟨m'++m,by simp,Zas a0 hi a4 hM a9⟩,RoundsTri.more t1 t2 hi a4 ⟨m',rfl⟩⟩
   ·exact⟨e,T1,h1,i1,_,J,hi,a0,⟨m,rfl,hM⟩,RoundsTri.out he t1⟩
  refine⟨λT h i ms K U I=> ?_,rounds⟩
  have c0:=I
  rw[b5] at I
  cases hc:c with
  |skip=>
   subst hc
   refine⟨.normal,T,h,i,ms,I,aE _,⟨U,λb hb=> .inl hb⟩,⟨[],rfl,λb hb=>by simp at hb⟩,λB σ g w a Q hI hB a3 R hN a2=>wp_skip (a2 a w ⟨rfl,hN,σ,g,by rw[dS];exact(Stp.refl i σ g w).weaken (by simp),hI,R⟩)⟩
  |exit id=>
   subst hc
   refine⟨.exit id,T,h,i,ms,I,aE _,⟨U,λb hb=> .inl hb⟩,⟨[],rfl,λb hb=>by simp at hb⟩,λB σ g w a Q hI hB a3 R hN a2=>wp_exit (a2 a w ⟨rfl,hN,σ,g,by rw[dS];exact(Stp.refl i σ g w).weaken (by simp),hI,R⟩)⟩
  |ret=>
   subst hc
   refine⟨.ret,T,h,i,ms,I,aE _,⟨U,λb hb=> .inl hb⟩,⟨[],rfl,λb hb=>by simp at hb⟩,λB σ g w a Q hI hB a3 R hN a2=>wp_ret (a2 a w ⟨rfl,hN,σ,g,by rw[dS];exact(Stp.refl i σ g w).weaken (by simp),hI,R⟩)⟩
  |region id ops c4=>
   subst hc
   simp only[vcB,Zo7,Zo8,Zf5,Zbo,Zf6] at I
   split at I
   ·split at I
    ·rename_i d _ hj
     obtain⟨Q,hr,b8,b7⟩:=I
     obtain⟨e,T',h',i',ms',⟨rfl,b,a2,rfl,rfl,rfl,b6⟩,hi,a0,hm,t⟩:=Zdk hE (λo T h i k U I=>Zdc hE a5 (λ_ _ _ _ _ I=>Vv R I) o T h i k U I) ops.toList ops.toList T h i ms _ U (Z9e hj hr)
     have J:K .normal (Zl8 b [d] (Wn (Yf ops.toList) T)) h' i' ms':=by
      cases b
      ·exact b7 a2
      ·exact b8 a2
     refine⟨.normal,_,h',i',ms',J,hi,a0,hm,λB σ g w a Q hI hB a3 R hN a2=>wp_region_list ?_⟩
     have:=t B σ g w a Q hI hB a3 R hN λa' w' ⟨k1,k2,σ',g',k3,k4,k5⟩=>a2 a' w' ⟨k1,k2,σ',g',k3,k4,b6 _ _ _ k5⟩
     simpa using this
    rename_i c6
    obtain⟨e,T',h',i',ms',J,hi,a0,hm,t⟩:=Zdk hE (λo T h i k U I=>Zdc hE a5 (λ_ _ _ _ _ I=>Vv R I) o T h i k U I) ops.toList ops.toList T h i ms _ U I
    refine⟨e,T',h',i',ms',J,hi,a0,hm,λB σ g w a Q hI hB a3 R hN a2=>wp_region_list ?_⟩
    have:=t B σ g w a Q hI hB a3 R hN a2
    simpa using this
   ·split at I
    ·rename_i t kd hh
     obtain⟨T',h',i',ms',J,hi,a0,hm,t1⟩:=Z1w hE (λo T h i k U I=>Zdc hE a5 (λ_ _ _ _ _ I=>Vv R I) o T h i k U I) U hh I id
     exact⟨.normal,T',h',i',ms',J,hi,a0,hm,by simpa using t1⟩
    ·split at I
     ·rename_i b3
      rcases Zj4 (λo T h i k U I=>Zdc hE a5 (λ_ _ _ _ _ I=>Vv R I) o T h i k U I) ops.toList (Y4 ops.toList []) ops.toList 0 T T h i ms [] _ T (λ_ h=>h) (λ_ _=>rfl) (.refl T) U I with⟨ds,T2,b9,hp,J,c1⟩|⟨j0,ds,rp,p,_,c5,hG,_,hR,hq,J⟩
      case inr=>
       refine⟨_,_,_,_,_,J,by omega,⟨U.patch hR,λb hb=> ?_⟩,⟨rp.mods,rfl,λb hb=> .inl (hR b hb)⟩,λB σ g w a Q hI hB a3 R hN a2=> ?_⟩
       ·rw[Z6] at hb
        split at hb
        ·rename_i c
         rcases c with c|c
         ·exact .inl (hR b c)
         ·exact .inr c.1
        ·exact .inl hb
       ·have:=Zu8 (ms:=ms) hE.mix b3 hG (by omega) U hq id B σ g w a Q hI hB a3 R hN a2
        simpa using this
      obtain⟨a0,c2⟩:=Zmq U hp
      refine⟨.normal,_,_,_,_,J,(Zwx hp).1,a0,c2 ms,λB σ g w a Q hI hB a3 R hN a2=> ?_⟩
      have:=Z0u hE.mix b3 hp c1 id B σ g w a Q hI hB a3 R hN λa' w' hA=>a2 a' w' (hA.frB b9)
      simpa using this
     ·exact I.elim
  |seq x y=>
   subst hc
   simp only[vcB,Zo7,Zo8,Zf5,Zbo,Zf6] at I
   obtain⟨e,T1,h1,i1,ms1,J,hi,a0,⟨m,rfl,hM⟩,t1⟩:=(ih f N x).1 T h i ms _ U I
   rcases Zju J with⟨rfl,J⟩|⟨he,J⟩
   ·obtain⟨e2,T2,h2,i2,c3,a8,a4,a6,⟨m',rfl,a9⟩,t2⟩:=(ih f N y).1 T1 h1 i1 _ _ a0.1 J
    exact⟨e2,T2,h2,i2,_,a8,by omega,a0.trans hi a6,⟨m'++m,by simp,Zas a0 hi a4 hM a9⟩,CodeTri.seq t1 t2 hi a4 ⟨m',rfl⟩⟩
   ·exact⟨e,T1,h1,i1,_,J,hi,a0,⟨m,rfl,hM⟩,CodeTri.seq_out he t1⟩
  |label l=>
   subst hc
   refine⟨.normal,T,h,i,ms,I,aE _,⟨U,λb hb=> .inl hb⟩,⟨[],rfl,λb hb=>by simp at hb⟩,λB σ g w a Q hI hB a3 R hN a2=>wp_label (a2 a w ⟨rfl,hN,σ,g,by rw[dS];exact(Stp.refl i σ g w).weaken (by simp),hI,R⟩)⟩
  |scope b=>
   subst hc
   simp only[vcB,Zzn] at I
   obtain⟨e,T1,h1,i1,ms1,J,hi,a0,hm,t1⟩:=(ih f N b).1 T h i ms _ U I
   cases e with
   |goto l=>exact J.elim
   |_=>exact⟨_,T1,h1,i1,ms1,J,hi,a0,hm,λB σ g w a Q hI hB a3 R hN a2=>wp_scope_straight (t1 B σ g w a _ hI hB a3 R hN λa1 w1 hA=>a2 a1 w1 hA)⟩
  |cond x y z=>
   subst hc
   simp only[vcB,Zo7,Zo8,Zf5,Zbo,Zf6] at I
   split at I
   ·rename_i l v hx
    have I:=Yk I
    have b4:∀σ g a,FrOk E σ g T a->a.eval x= .bool v:=by
     intro σ g a R
     have:=R.ev x
     rw[hx] at this
     generalize a.eval x=u at this
     cases this;rfl
    cases v with
    |true=>
     obtain⟨e,T1,h1,i1,ms1,J,hi,a0,hm,t1⟩:=(ih f N y).1 T h i ms _ U I
     exact⟨e,T1,h1,i1,ms1,J,hi,a0,hm,λB σ g w a Q hI hB a3 R hN a2=>wp_cond_true (b4 σ g a R) (t1 B σ g w a Q hI hB a3 R hN a2)⟩
    |false=>
     obtain⟨e,T1,h1,i1,ms1,J,hi,a0,hm,t1⟩:=(ih f N z).1 T h i ms _ U I
     exact⟨e,T1,h1,i1,ms1,J,hi,a0,hm,λB σ g w a Q hI hB a3 R hN a2=>wp_cond_false (b4 σ g a R) (t1 B σ g w a Q hI hB a3 R hN a2)⟩
   ·exact I.elim
  |block id b=>
   subst hc
   simp only[vcB,Zo7,Zo8,Zf5,Zbo,Zf6] at I
   obtain⟨e,T1,h1,i1,ms1,J,hi,a0,hm,t1⟩:=(ih f N b).1 T h i ms _ U I
   by_cases b0:e= .exit id
   ·subst b0
    have a7:K .normal T1 h1 i1 ms1:=by
     simp only at J
     have:bf id id=true:=by simp
     rw[this] at J;exact J
    refine⟨.normal,T1,h1,i1,ms1,a7,hi,a0,hm,λB σ g w a Q hI hB a3 R hN a2=>wp_block (t1 B σ g w a _ hI hB a3 R hN λa1 w1 hA=> ?_)⟩
    show(if id=id then Q .normal a1 w1 else _)
    rw[jh rfl];exact a2 a1 w1 hA
   ·have a7:K e T1 h1 i1 ms1:=by
     cases e with
     |exit j=>
      simp only at J
      have:bf j id=false:=by rw[<-bv,eV];rintro rfl;exact b0 rfl
      rw[this] at J;exact J
     |_=>exact J
    refine⟨e,T1,h1,i1,ms1,a7,hi,a0,hm,λB σ g w a Q hI hB a3 R hN a2=>wp_block (t1 B σ g w a _ hI hB a3 R hN λa1 w1 hA=> ?_)⟩
    have:=a2 a1 w1 hA
    cases e with
    |exit j=>
     show(if j=id then _ else Q (.exit j) a1 w1)
     rw[jb (by rintro rfl;exact b0 rfl)];exact this
    |_=>exact this
  |loop b=>
   cases hl:lpOf F f b with
   |none=>
    obtain⟨e,T1,h1,i1,ms1,J,hi,a0,hm,t⟩:=rounds b hc hl T h i ms K U c0
    exact⟨e,T1,h1,i1,ms1,J,hi,a0,hm,t.loop⟩
   |some L=>
    subst hc
    simp only[vcB,Zo7,Zo8,Zf5,Zbo,Zf6] at I
    rw[hl] at I
    have hL:LoopOk E L:=by
     unfold lpOf at hl
     split at hl
     ·exact R.loop _ _ _ hl
     ·cases hl
    exact hL N b _ (ih f N b).1 T h i ms K U I
  |_=>subst hc;exact I.elim
end
end
section
open Go.RowKit
section
variable {Y:Thy} {E:Eng Y}
abbrev σ0:Pl:=λ_=>aD
abbrev hp0:Hp Y:=λ_=>aD
noncomputable def frzL(f:SV Y->(SV Y->List Nat->Prop)->Prop) (l:List (SV Y)):(List (SV Y)->List Nat->Prop)->Prop:=
 List.rec (motive:=λ_=>(List (SV Y)->List Nat->Prop)->Prop) (λk=>k [] []) (λx _ ih k=>f x λt bs=>ih λr j=>k (t::r) (bs++j)) l
def frzN(v:SV Y) (k:SV Y->List Nat->Prop):Prop:=match nid 0 v with|true=>k v []|false=>False
noncomputable def frzS(E:Eng Y) (gth:List (SV Y)->Option Y.Th) (h:Hp Y) (ih:SV Y->(SV Y->List Nat->Prop)->Prop) (v:SV Y) (k:SV Y->List Nat->Prop):Prop:=
 match v with
 | .agg cs=>frzL ih cs λcs bs=>k (.agg cs) bs
 | .sl b off len w c=>
  match h b with
  |some (.rows th l _)=>(match bf w (E.w th) with|true=>need E.lit (off+len<=l.length) (k (.psl th ((l.drop off).take len) ae) [b])|false=>False)
  |some (.raw cs _ t)=>
   (match(match t with|some th=>ah th|none=>gth cs) with
   |some th=>(match bf w (E.w th) with
    |true=>frzL ih ((cs.drop (off*w)).take (len*w)) λj bs=>(match W5 E th (W4 w len j) with|some l=>k (.psl th l ae) (b::bs)|none=>False)
    |false=>False)
   |none=>False)
  |_=>False
 | .ptr b 0=>
  match h b with
  |some (.raw cs _ t)=>
   (match(match t with|some th=>ah th|none=>gth cs) with
   |some th=>frzL ih cs λj bs=>(match E.dec th j with|some x=>k (.pptr th x 0) (b::bs)|none=>False)
   |none=>False)
  |_=>False
 |v=>frzN v k
noncomputable def frzK(E:Eng Y) (gth:List (SV Y)->Option Y.Th) (h:Hp Y) (n:Nat):SV Y->(SV Y->List Nat->Prop)->Prop:=
 Nat.rec (motive:=λ_=>SV Y->(SV Y->List Nat->Prop)->Prop) (λv k=>frzN v k) (λ_ ih v k=>frzS E gth h ih v k) n
def Kept(E:Eng Y) (I:Hp Y) (σ:Pl) (bs:List Nat) (w:World) (t:GH):Prop:=
 ∀b∈bs,∀r z x,σ b=ah (r,z)->I b=ah x->∀j v,j<(x.cells E).length->w.cell? ⟨r,j,aD⟩=ah v->t.cell r j=ah v
theorem Kept.sub{t:Hp Y} {σ:Pl} {bs j:List Nat} {w:World} {g2:GH} (h:Kept E t σ bs w g2) (J:∀b∈j,b∈bs):Kept E t σ j w g2:=λb I=>h b (J b I)
structure FrzOk(E:Eng Y) (h:Hp Y) (v v':SV Y) (bs:List Nat):Prop where
 blk:∀b∈bs,∃x,h b=ah x/\∀es,x≠ .map es
 nid:nid 0 v'=af
 den:∀(hh:Hp Y) (σ:Pl) (g:GH) (w:World) (B:Nat) (u:Value) (g2:GH),(∀b∈bs,hh b=h b)->Inv E B σ hh g w->g.le g2->Kept E hh σ bs w g2->Den E σ g v u->Den E σ0 g2 v' u
structure FrzLOk(E:Eng Y) (h:Hp Y) (l l':List (SV Y)) (bs:List Nat):Prop where
 blk:∀b∈bs,∃x,h b=ah x/\∀es,x≠ .map es
 nid:nidL 0 l'=af
 len:l'.length=l.length
 den:∀(hh:Hp Y) (σ:Pl) (g:GH) (w:World) (B:Nat) (g2:GH),(∀b∈bs,hh b=h b)->Inv E B σ hh g w->g.le g2->Kept E hh σ bs w g2->∀(j:Nat) sv sv' u,l[j]? =ah sv->l'[j]? =ah sv'->Den E σ g sv u->Den E σ0 g2 sv' u
theorem Zc4{h:Hp Y} {f:SV Y->(SV Y->List Nat->Prop)->Prop} (hf:∀v k,f v k->∃v' bs,k v' bs/\FrzOk E h v v' bs):∀{l:List (SV Y)} {k:List (SV Y)->List Nat->Prop},frzL f l k->∃l' bs,k l' bs/\FrzLOk E h l l' bs
 | [],k,I=>⟨[],[],I,⟨by simp,rfl,rfl,λ_ _ _ _ _ _ _ _ _ _ j sv a3 u J=>by simp at J⟩⟩
 |x::r,k,I=>by
  have I:f x λx' bs=>frzL f r λr a0=>k (x'::r) (bs++a0):=I
  obtain⟨x',bs,I,U⟩:=hf _ _ I
  obtain⟨r',a0,I,o2⟩:=Zc4 hf I
  refine⟨_,_,I,⟨λb t=> ?_,by simp[nidL,U.nid,o2.nid],by simp[o2.len],λhh σ g w B g2 a2 hI a1 hK j sv a3 u J R hd=> ?_⟩⟩
  ·rcases dJ.1 t with t|t
   ·exact U.blk b t
   ·exact o2.blk b t
  ·cases j with
   |zero=>
    simp at J R;subst J;subst R
    exact U.den hh σ g w B u g2 (λb t=>a2 b (gk _ t)) hI a1 (hK.sub λb t=>gk _ t) hd
   |succ j=>exact o2.den hh σ g w B g2 (λb t=>a2 b (fW _ t)) hI a1 (hK.sub λb t=>fW _ t) j sv a3 u (by simpa using J) (by simpa using R) hd
theorem Zxu(J:EngOk E) {h:Hp Y} {v:SV Y} {k:SV Y->List Nat->Prop} (j:frzN v k):∃I bs,k I bs/\FrzOk E h v I bs:=by
 unfold frzN at j;split at j
 ·rename_i t
  exact⟨v,[],j,⟨by simp,t,λhh σ g w B u g2 _ _ U _ R=>(Xt J (i:=0) (σ':=σ0) R (λb p hb=>by omega) t).mono (.refl _) U⟩⟩
 ·exact j.elim
theorem Z4s(hE:EngOk E) {th:Y.Th} {h:Hp Y} {b off len w:Nat} {cap:Option Nat} {x:Blk Y} {l:List (Y.dom th)} {bs:List Nat} (hb:h b=ah x) (hm:∀es,x≠ .map es) (hw:w=E.w th) (hl:l.length=len)
 (a8:∀b∈bs,∃x,h b=ah x/\∀es,x≠ .map es)
 (hc:∀(U:Hp Y) (σ:Pl) (g:GH) (w':World) (B:Nat) (R:GH),(∀b∈bs,U b=h b)->Inv E B σ U g w'->g.le R->Kept E U σ bs w' R->∀(j:Nat) sv,(l.flatMap (E.enc th))[j]? =ah sv->∃t,(x.cells E)[off*w+j]? =ah t/\∀v,Den E σ g t v->Den E σ0 R sv v):
 FrzOk E h (.sl b off len w cap) (.psl th l ae) (b::bs):=by
 refine⟨λb' J=> ?_,rfl,λU σ g W B u R a4 hI b3 hK hd=> ?_⟩
 ·rcases bE.1 J with rfl|J
  ·exact⟨x,hb,hm⟩
  ·exact a8 b' J
 ·obtain⟨r,z,c,rfl,a5,hz,b8,b4,b7⟩:=Vm hd
  have a1:U b=ah x:=(a4 b (by simp)).trans hb
  obtain⟨r',z',a6,a7⟩:=hI.blk b x a1
  rw[a5] at a6;cases a6
  obtain⟨u,b5,b6⟩:=Wb hm a7
  have a9:=hc U σ g W B R (λb' J=>a4 b' (cx _ J)) hI b3 (hK.sub λb' J=>cx _ J)
  have a3:∀i y,l[i]? =ah y->∀j,j<E.w th->∃sv t,(E.enc th y)[j]? =ah sv/\(l.flatMap (E.enc th))[i*E.w th+j]? =ah sv/\(x.cells E)[off*w+(i*E.w th+j)]? =ah t/\∀v,Den E σ g t v->Den E σ0 R sv v:=by
   intro i y a0 j I
   have e1:(E.enc th y)[j]? =ah ((E.enc th y)[j]'(by rw[hE.enc];exact I)):=aq _
   have e2:=(Y3 hE th l i y a0 j I).trans e1
   obtain⟨t,h1,h2⟩:=a9 _ _ e2
   exact⟨_,t,e1,e2,h1,h2⟩
  rw[<-hl]
  refine .psl (λi j=>u (off*w+(i*E.w th+j))) (by omega) b4 (by simp) (λe=>by cases e) (λhp=>⟨r,off*w,rfl,λi y a0 j I=> ?_⟩) λi y a0 j sv I=> ?_
  ·rw[hE.enc] at I
   obtain⟨sv,t,_,_,h3,_⟩:=a3 i y a0 j I
   have a2:=(ar.1 h3).1
   rw[dE]
   exact hK b (by simp) r z x a5 a1 _ _ a2 (b5 _ a2)
  ·have b0:j<E.w th:=by rw[<-hE.enc th y];exact(ar.1 I).1
   obtain⟨b9,t,h1,_,h3,h4⟩:=a3 i y a0 j b0
   rw[I] at h1;cases h1
   exact h4 _ (b6 _ _ h3)
theorem Zxv(J:EngOk E) {gth:List (SV Y)->Option Y.Th} {h:Hp Y}:∀(n:Nat) (v:SV Y) (k:SV Y->List Nat->Prop),frzK E gth h n v k->∃v' bs,k v' bs/\FrzOk E h v v' bs:=by
 intro n
 induction n with
 |zero=>exactλv k t=>Zxu J t
 |succ n ih=>
  intro v k t
  replace t:frzS E gth h (frzK E gth h n) v k:=t
  unfold frzS at t;split at t
  ·rename_i cs
   obtain⟨a3,bs,t,o⟩:=Zc4 ih t;refine⟨_,_,t,⟨o.blk,by simpa[nid] using o.nid,λhh σ g w B u a0 a2 hI a5 hK hd=> ?_⟩⟩;obtain⟨arr,c,rfl,hs,hc,hd⟩:=Yo hd;refine .agg c (by rw[o.len];exact hs) (λj I=>hc j (by rw[<-o.len];exact I)) λj a8 I=> ?_;have R:j<cs.length:=by rw[<-o.len];exact(ar.1 I).1
   exact o.den hh σ g w B a0 a2 hI a5 hK j _ a8 _ (aq R) I (hd j _ (aq R))
  ·rename_i b off len w c
   split at t
   ·rename_i th l fz hb
    split at t
    ·rename_i U
     have U:=aG U;obtain⟨a5,t⟩:=Zv t;refine⟨_,_,t,Z4s J (l:=(l.drop off).take len) hb (by intro es e;cases e) U (by simp;omega) (by simp) λhh σ g w' B a0 _ hI a6 _ j sv I=> ?_⟩;obtain⟨q,p,x,rfl,hp,hq,hs⟩:=Xo J th _ I;rw[bU] at hq;split at hq
     ·rw[cL] at hq
      refine⟨sv,?_,λv hv=>(Xt J (i:=0) (σ':=σ0) hv (λb p hb=>by omega) (Yl (J.encI _ _ _) hs)).mono (.refl _) a6⟩;simp only[cU];rw[U,<-dE,<-cK,Y3 J th l _ x hq p hp];exact hs
     ·cases hq
    ·exact t.elim
   ·rename_i cs fz tg hb
    split at t
    ·rename_i th _
     split at t
     ·rename_i U
      have U:=aG U;obtain⟨a3,bs,t,o⟩:=Zc4 ih t;split at t
      ·rename_i l a4
       rw[U] at a4;obtain⟨h1,h2⟩:=Yx J a4;refine⟨_,_,t,Z4s J hb (by intro es e;cases e) U h1 o.blk λhh σ g w' B a0 a2 hI a6 hK j sv I=> ?_⟩;obtain⟨s0,h3,h4⟩:=h2 j sv I;have R:=(ar.1 h3).1;rw[o.len] at R;have e1:=aq R;refine⟨_,?_,λv hv=>h4 σ0 a0 v (o.den hh σ g w' B a0 a2 hI a6 hK j _ s0 v e1 h3 hv)⟩;have e2:=e1;rw[bU] at e2;split at e2
       ·rw[cL] at e2
        simp only[cU];rw[e2]
       ·cases e2
      ·exact t.elim
     ·exact t.elim
    ·exact t.elim
   ·exact t.elim
  ·rename_i b
   split at t
   ·rename_i cs fz tg hb
    split at t
    ·rename_i th _
     obtain⟨a3,bs,t,o⟩:=Zc4 ih t;split at t
     ·rename_i x a4
      obtain⟨hl,b7⟩:=J.dec th a3 x a4;have hm:∀es,(Blk.raw cs fz tg:Blk Y)≠ .map es:=by intro es e;cases e
      refine⟨_,_,t,⟨λb' a1=> ?_,rfl,λhh σ g W B u a0 a2 hI a5 hK hd=> ?_⟩⟩
      ·rcases bE.1 a1 with rfl|a1
       ·exact⟨_,hb,hm⟩
       ·exact o.blk b' a1
      ·cases hd
       rename_i r z b0;have a9:hh b=ah (.raw cs fz tg):=(a2 b (by simp)).trans hb;obtain⟨r',z',b3,b4⟩:=hI.blk b _ a9;rw[b0] at b3;cases b3;obtain⟨c,b5,b6⟩:=Wb hm b4;have o':=o.den hh σ g W B a0 (λb' a1=>a2 b' (cx _ a1)) hI a5 (hK.sub λb' a1=>cx _ a1);refine .pptr (o:=0) c (λj I=> ?_) λj a8 I=> ?_
       ·rw[J.enc] at I
        have R:j<cs.length:=by rw[<-o.len];omega
        simpa using hK b (by simp) r z _ b0 a9 j (c j) R (b5 j R)
       ·have b8:j<E.w th:=by rw[<-J.enc th x];exact(ar.1 I).1
        have a7:j<a3.length:=by omega
        have R:j<cs.length:=by rw[<-o.len];exact a7
        have h3:=o' j _ _ (c j) (aq R) (aq a7) (b6 j _ (aq R));exact b7 σ0 a0 j _ a8 (c j) (aq a7) I h3
     ·exact t.elim
    ·exact t.elim
   ·exact t.elim
  ·exact Zxu J t
def mx2(a b:Nat):Nat:=match cn a b with|true=>b|false=>a
theorem Zqp(a b:Nat):mx2 a b=max a b:=by
 unfold mx2;split
 ·rename_i h;rw[bx] at h;omega
 ·rename_i h
  have:¬a<=b:=λj=>by rw[Nat.ble_eq_true_of_le j] at h;cases h
  omega
def frzB:Option (Blk Y)->Option (Blk Y)
 |some (.raw cs j t)=>ah (.raw cs (mx2 j cs.length) t)
 |some (.rows th l j)=>ah (.rows th l (mx2 j l.length))
 |x=>x
theorem Zfe(J:EngOk E) {x:Blk Y} (R:∀t,x≠ .map t):∃j,frzB (ah x)=ah j/\j.cells E=x.cells E/\x.fzc E<=j.fzc E/\(x.cells E).length<=j.fzc E/\(∀σ g w r z,BlkOk E σ g w r z x->BlkOk E σ g w r z j):=by
 cases x with
 |map t=>exact jv rfl (R t)
 |raw cs I U=>exact⟨_,rfl,rfl,by simp only[gN,Zqp];omega,by simp only[gN,cU,Zqp];omega,λσ g w r z h=>by cases U<;>exact h⟩
 |rows th l I=>
  refine⟨_,rfl,rfl,?_,?_,λσ g w r z h=>h⟩
  ·simp only[gN,Zqp];exact bH _ (Nat.le_max_left _ _)
  ·simp only[gN,cU,Zqp];rw[Z3 J];exact bH _ (Nat.le_max_right _ _)
open Classical in
noncomputable def frzG(E:Eng Y) (j:Hp Y) (σ:Pl) (bs:List Nat) (g:GH) (w:World):GH :=
  { cell:=λr o=>if∃ b∈bs,∃ z x,σ b=ah (r,z)/\j b=ah x/\o<(x.cells E).length then w.cell? ⟨r,o,aD⟩ else g.cell r o
    obj:=g.obj }
open Classical in
theorem Zb9{j:Hp Y} {σ:Pl} {bs:List Nat} {g:GH} {w:World} {r o:Nat} {v:Value} (h:(frzG E j σ bs g w).cell r o=ah v):(w.cell? ⟨r,o,aD⟩=ah v/\∃ b∈bs,∃ z x,σ b=ah (r,z)/\j b=ah x/\o<(x.cells E).length)\/g.cell r o=ah v:=by
 have h:(if∃ b∈bs,∃ z x,σ b=ah (r,z)/\j b=ah x/\o<(x.cells E).length then w.cell? ⟨r,o,aD⟩ else g.cell r o)=ah v:=h;split at h
 ·exact .inl ⟨h,‹_›⟩
 ·exact .inr h
open Classical in
theorem Zc5{j:Hp Y} {σ:Pl} {bs:List Nat} {g:GH} {w:World} {B:Nat} (I:Inv E B σ j g w):g.le (frzG E j σ bs g w):=by
  refine⟨λr o v t=>?_,λ_ _ h=>h⟩;show(if∃ b∈bs,∃ z x,σ b=ah (r,z)/\j b=ah x/\o<(x.cells E).length then w.cell? ⟨r,o,aD⟩ else g.cell r o)=ah v;split
  ·exact I.gc r o v t
  ·exact t
open Classical in
theorem Zk3{t:Hp Y} {σ:Pl} {bs:List Nat} {g:GH} {w:World}:Kept E t σ bs w (frzG E t σ bs g w):=by
 intro b R r z x I J j v U a0;show(if∃ b∈bs,∃ z x,σ b=ah (r,z)/\t b=ah x/\j<(x.cells E).length then w.cell? ⟨r,j,aD⟩ else g.cell r j)=ah v;rw[jh ⟨b,R,z,x,I,J,U⟩];exact a0
theorem Zqq{R:Hp Y} {σ:Pl} {bs:List Nat} {g:GH} {w:World} {B B':Nat} (t:Inv E B σ R g w):Inv E B' σ0 hp0 (frzG E R σ bs g w) w:=by
  refine⟨λr o v hv=>?_,t.gm,(λb x I=>by cases I),λb b' r z z' J=>jv rfl J,(λb r z hs=>by cases hs),(λb x r z o v I=>by cases I),(λb x r z I=>by cases I),λn sv hn j s a0=>?_⟩
  ·rcases Zb9 hv with h | h
   ·exact h.1
   ·exact t.gc r o v h
  ·obtain⟨v,J,U⟩:=t.glob n sv hn j s a0
   exact⟨v,(Zc5 t).c _ _ _ J,U.mono (.refl _) (Zc5 t)⟩
theorem Z7d(hE:EngOk E) {H:Hp Y} {bs:List Nat} (a3:∀ b∈bs,∃ x,H b=ah x/\∀ es,x≠.map es) {B:Nat} {σ:Pl} {g:GH} {w:World} (J:Inv E B σ H g w) :
    Inv E B σ (λb=>match memB b bs with | true=>frzB (H b) | false=>H b) (frzG E H σ bs g w) w:=by
  have a5:=Zc5 (bs:=bs) J
  have a0:∀ b y,(match memB b bs with | true=>frzB (H b) | false=>H b)=ah y->∃ I,H b=ah I/\(∀ σ g w r z,BlkOk E σ g w r z I->BlkOk E σ g w r z y)/\I.fzc E<=y.fzc E/\(b∈bs->(I.cells E).length<=y.fzc E):=by
    intro b y j
    cases U:memB b bs with
    | true =>
      rw[U] at j
      have a4:=memB_iff.1 U
      obtain⟨I,t,R⟩:=a3 b a4
      have j:frzB (H b)=ah y:=j
      rw[t] at j
      obtain⟨y',k1,k2,k3,k4,k5⟩:=Zfe hE R
      rw[k1] at j; cases j
      exact⟨I,t,k5,k3,λ_=>k4⟩
    | false =>
      rw[U] at j
      exact⟨y,j,λ_ _ _ _ _ h=>h,aE _,λhb=>by rw[memB_iff.2 hb] at U; cases U⟩
  have ne:∀ b,(match memB b bs with | true=>frzB (H b) | false=>H b)≠aD->H b≠none:=by
    intro b hb
    obtain⟨y,j⟩:=bt.1 hb
    obtain⟨I,t,_⟩:=a0 b y j
    rw[t]; simp
  have a1:=Zqq (bs:=bs) (B':=0) J
  refine⟨a1.gc,a1.gm,λb y j=>?_,λb b' r z z' t R=>J.inj b b' r z z' (ne b t) (ne b' R),J.base,λb y r z q v j hs hv=>?_,λb y r z j hs=>?_,a1.glob⟩
  ·obtain⟨I,t,R,_⟩:=a0 b y j
   obtain⟨r,z,h3,h4⟩:=J.blk b I t
   exact⟨r,z,h3,R _ _ _ _ _ (h4.mono (.refl _) a5 rfl)⟩
  ·obtain⟨I,t,_,h3,h4⟩:=a0 b y j
   rcases Zb9 hv with⟨_,b',a2,z',x',k1,k2,k3⟩ | k
   ·obtain rfl:=J.inj b b' r z z' (by rw[t]; simp) (by rw[k2]; simp) hs k1
    rw[t] at k2; cases k2
    exact cC k3 (h4 a2)
   ·exact cC (J.fz b I r z q v t hs k) h3
  ·obtain⟨I,t,_⟩:=a0 b y j
   exact J.fm b I r z t hs
theorem Z7e(hE:EngOk E) {H:Hp Y} {b R:Nat} {cs a0:List (SV Y)} {J:Option Y.Th} {bs:List Nat} (o:FrzLOk E H cs a0 bs) (hb:H b=ah (.raw cs R J)) (a5:b∉bs) {B:Nat} {σ:Pl} {g:GH} {w:World} (hI:Inv E B σ H g w):
 Inv E B σ (λc=>if c=b then ah (.raw a0 R J) else match memB c bs with|true=>frzB (H c)|false=>H c) (frzG E H σ bs g w) w:=by
 have I:=Z7d hE o.blk hI
 have a3:=Zc5 (bs:=bs) hI
 have a4:memB b bs=false:=by rw[<-bv,memB_iff];exact a5
 have at_:∀c x,(if c=b then ah (.raw a0 R J) else match memB c bs with|true=>frzB (H c)|false=>H c)=ah x->(c=b/\x= .raw a0 R J)\/(c≠b/\(match memB c bs with|true=>frzB (H c)|false=>H c)=ah x):=by
  intro c x t
  by_cases e:c=b
  ·rw[jh e] at t;cases t;exact .inl ⟨e,rfl⟩
  ·rw[jb e] at t;exact .inr ⟨e,t⟩
 have a1:(match memB b bs with|true=>frzB (H b)|false=>H b)=ah (.raw cs R J):=by rw[a4];exact hb
 have ne:∀c,(if c=b then ah (.raw a0 R J) else match memB c bs with|true=>frzB (H c)|false=>H c)≠aD->(match memB c bs with|true=>frzB (H c)|false=>H c)≠none:=by
  intro c hc
  obtain⟨x,t⟩:=bt.1 hc
  rcases at_ c x t with⟨rfl,_⟩|⟨_,U⟩
  ·rw[a1];simp
  ·rw[U];simp
 refine⟨I.gc,I.gm,λc x t=> ?_,λc c' r z z' n1 n2=>I.inj c c' r z z' (ne c n1) (ne c' n2),I.base,λc x r z q v t hs hv=> ?_,λc x r z t hs=> ?_,I.glob⟩
 ·rcases at_ c x t with⟨rfl,rfl⟩|⟨_,U⟩
  ·obtain⟨r,z,a6,arr,e,k1,k2,k3,k4,k5⟩:=hI.blk c _ hb
   refine⟨r,z,a6,arr,e,k1,k2,?_,λj sv hj=> ?_,?_⟩
   ·have:=o.len
    simp only[cU] at k3⊢;omega
   ·have hj:a0[j]? =ah sv:=hj
    have a2:j<cs.length:=by rw[<-o.len];exact(ar.1 hj).1
    obtain⟨v,m1,m2⟩:=k4 j _ (aq a2)
    exact⟨v,m1,(o.den H σ g w B _ (λ_ _=>rfl) hI a3 Zk3 j _ sv v (aq a2) hj m2).mono (λb p h=>by cases h) (.refl _)⟩
   ·cases J<;>exact k5
  ·exact I.blk c x U
 ·rcases at_ c x t with⟨rfl,rfl⟩|⟨_,U⟩
  ·exact I.fz c (.raw cs R J) r z q v a1 hs hv
  ·exact I.fz c x r z q v U hs hv
 ·rcases at_ c x t with⟨rfl,rfl⟩|⟨_,U⟩
  ·exact I.fm c _ r z a1 hs
  ·exact I.fm c x r z U hs
noncomputable def Z2j(E:Eng Y) (gth:List (SV Y)->Option Y.Th) (n:Nat) (T:Fr Y):List Nat->Hp Y->(Hp Y->List Nat->Prop)->Prop
 | [],h,k=>k h []
 |s::r,h,k=>
  match T s with
  | .ptr b 0=>
   (match h b with
   |some (.raw cs I U)=>frzL (frzK E gth h n) cs λt bs=>
    (match memB b bs with
    |false=>Zf0 (λc=>match bf c b with|true=>ah (.raw t I U)|false=>frzB (h c)) (b::bs) h λJ=>Z2j E gth n T r J λR j=>k R (bs++j)
    |true=>False)
   |_=>False)
  |_=>False
theorem Zqr(U:EngOk E) {gth:List (SV Y)->Option Y.Th} {n:Nat} {T:Fr Y}:∀ {sl:List Nat} {h:Hp Y} {k:Hp Y->List Nat->Prop},Z2j E gth n T sl h k->∃ J bs,k J bs/\(∀ b,J b≠aD ↔ h b≠aD)/\(∀ b∈bs,h b≠aD) ∧
    ∀ (B:Nat) (σ:Pl) (g:GH) (w:World),Inv E B σ h g w->∃ t,g.le t/\Inv E B σ J t w/\(∀ r o v,t.cell r o=ah v->g.cell r o=ah v\/∃ b∈bs,∃ z,σ b=ah (r,z))/\t.obj=g.obj
  | [],h,k,j=>⟨h,[],j,λ_=>Iff.rfl,(λb hb=>by cases hb),λB σ g w hI=>⟨g,.refl _,hI,λ_ _ _ h=>.inl h,rfl⟩⟩
  | s :: r,h,k,j=>by
    unfold Z2j at j
    split at j
    case h_2=>exact j.elim
    rename_i b _
    split at j
    case h_2=>exact j.elim
    rename_i cs fz tg hb
    obtain⟨a0,bs,j,o⟩:=Zc4 (Zxv U n) j
    split at j
    case h_2=>exact j.elim
    rename_i a4
    rw[Zcg] at j
    have a5:b ∉ bs:=by rw[← memB_iff,a4]; simp
    have e1:(λc=>if c∈b :: bs then(match bf c b with | true=>ah (.raw a0 fz tg) | false=>frzB (h c)) else h c)=λc=>if c=b then ah (.raw a0 fz tg) else match memB c bs with | true=>frzB (h c) | false=>h c:=by
      funext c
      by_cases e:c=b
      ·subst e
       rw[jh (by simp),jh rfl,hZ]
      ·rw[jb e]
       have e2:bf c b=false:=by rw[← bv,eV]; exact e
       by_cases I:c∈bs
       ·rw[jh (by simp[I]),e2,memB_iff.2 I]
       ·rw[jb (by simp[I,e])]
        have:memB c bs=false:=by rw[← bv,memB_iff]; exact I
        rw[this]
    rw[e1] at j
    obtain⟨J,a2,j,k1,k2,k3⟩:=Zqr U j
    have a1:∀ c,(if c=b then ah (.raw a0 fz tg) else match memB c bs with | true=>frzB (h c) | false=>h c)≠aD ↔ h c≠none:=by
      intro c
      by_cases e:c=b
      ·subst e; rw[jh rfl,hb]; simp
      ·rw[jb e]
       cases I:memB c bs with
       | false=>exact Iff.rfl
       | true =>
         obtain⟨y,hy,a7⟩:=o.blk c (memB_iff.1 I)
         obtain⟨y',a6,_⟩:=Zfe (E:=E) U a7
         simp only[hy,a6]
         simp
    refine⟨J,bs ++ a2,j,λc=>(k1 c).trans (a1 c),λc R=>?_,λB σ g w hI=>?_⟩
    ·rcases dJ.1 R with R | R
     ·obtain⟨y,hy,_⟩:=o.blk c R
      rw[hy]; simp
     ·exact(a1 c).1 (k2 c R)
    ·have a3:=Z7e U o hb a5 hI
     obtain⟨t,q1,q2,q3,q4⟩:=k3 B σ _ w a3
     refine⟨t,(Zc5 hI).trans q1,q2,λq p v hv=>?_,q4⟩
     rcases q3 q p v hv with h3 | ⟨c,h3,h4⟩
     ·rcases Zb9 h3 with⟨_,c,c1,z,x,c2,_⟩ | h4
      ·exact .inr ⟨c,gk _ c1,z,c2⟩
      ·exact .inl h4
     ·exact .inr ⟨c,fW _ h3,h4⟩
end
end
section
open Go.RowKit
section
variable {Y:Thy}
structure Ann(Y:Thy) where
 X:Type
 fr:X->List (Nat×SV Y)
 bl:X->List (Nat×Blk Y)
 src:X->List (Nat×Nat)
 md:List Nat
 ih:Nat
 M:Nat
 meas:X->Nat
 fz:List Nat:= []
 gth:List (SV Y)->Option Y.Th:=λ_=>aD
 fn:Nat:=3
 ex:(X->Prop)->Prop:=λP=>∃x,P x
 al:(X->Prop)->Prop:=λP=>∀x,P x
 exOk:∀P,ex P->∃x,P x:=by exactλ_ h=>h
 alOk:∀P,al P->∀x,P x:=by exactλ_ h=>h
def ex2{α:Type} (P:Bool×α->Prop):Prop:=(∃y,P (ae,y))\/∃y,P (af,y)
def al2{α:Type} (P:Bool×α->Prop):Prop:=(∀y,P (ae,y))/\∀y,P (af,y)
theorem Z4i{α:Type} (P:Bool×α->Prop) (h:ex2 P):∃x,P x:=by
 rcases h with⟨y,h⟩|⟨y,h⟩
 ·exact⟨_,h⟩
 ·exact⟨_,h⟩
theorem Z4j{α:Type} (P:Bool×α->Prop) (h:al2 P) (x:Bool×α):P x:=by
 obtain⟨b,y⟩:=x;cases b
 ·exact h.1 y
 ·exact h.2 y
def frOf:List (Nat×SV Y)->Fr Y
 | []=>λ_=> .unk
 |(s,v)::r=>upd (frOf r) s v
def blOf:List (Nat×Blk Y)->Hp Y
 | []=>λ_=>aD
 |(b,x)::r=>upd (blOf r) b (ah x)
def idOf:SV Y->Option Nat
 | .ptr b _=>ah b
 | .sl b _ _ _ _=>ah b
 | .map b=>ah b
 |_=>aD
def idAt(T:Fr Y) (h:Hp Y) (s:Nat):Option Nat:=
 match aZ s 1000 with
 |true=>idOf (T s)
 |false=>(match T (s%1000) with
  | .ptr b 0=>(match h b with|some (.raw cs _ _)=>(match cs[s/1000-1]? with|some v=>idOf v|none=>aD)|_=>aD)
  | .fn _ _ (.ptr b 0::_)=>(match h b with|some (.raw cs _ _)=>(match cs[s/1000-1]? with|some v=>idOf v|none=>aD)|_=>aD)
  |_=>aD)
def renO(i:Nat) (T:Fr Y) (h:Hp Y):List (Nat×Nat)->Nat->Option Nat
 | [],b=>match aZ b i with|true=>ah b|false=>aD
 |(j,s)::r,b=>match bf b j with|true=>idAt T h s|false=>renO i T h r b
def Z98:Option Nat->Option Nat->Prop
 |_,aD=>True
 |some a,ah b=>a=b
 |_,_=>False
def Zkl(a:Option Nat) (b:Nat) (K:Prop):Prop:=match a with|some a=>Vj a b K|none=>False
def le0(J:Nat->Option Nat) (v v':SV Y):Prop:=
 match v' with
 | .unk=>True
 | .int _ k' I=>(match v with| .int _ k n=>(match decide (k=k') with|true=>n=I|false=>False)|_=>False)
 | .bool _ j=>(match v with| .bool _ b=>b=j|_=>False)
 | .str _ s'=>(match v with| .str _ s=>s=s'|_=>False)
 | .val u'=>(match v with| .val u=>u=u'|_=>False)
 | .ptr j t=>(match v with| .ptr b o=>Zkl (J j) b (o=t)|_=>False)
 | .sl j t I w' c'=>(match v with| .sl b o n w c=>Zkl (J j) b (Vj w w' (o=t/\n=I/\Z98 c c'))|_=>False)
 | .map j=>(match v with| .map b=>Zkl (J j) b True|_=>False)
 | .psl a0 U f'=>(match v with
  | .psl th l f=>Zbj l (λl=>l=U)/\(f'=af->f=af)
  | .val (.slice aD 0 0)=>U= []
  |_=>False)
 | .pptr a0 x' t=>(match v with| .pptr th x o=>Zbj [x] (λl=>l= [x'])/\o=t|_=>False)
 | .pmap es'=>(match v with| .pmap R=>R=es'/\nidE 0 R=af|_=>False)
 |_=>False
def leL(j:Nat->Option Nat):List (SV Y)->List (SV Y)->Prop
 | [],[]=>True
 |x::r,I::t=>le0 j x I/\leL j r t
 |_,_=>False
def le1(j:Nat->Option Nat) (v I:SV Y):Prop:=
 match I,v with
 | .agg t,.agg cs=>leL j cs t
 | .tup t,.tup cs=>leL j cs t
 | .fn U J R,.fn f a b=>f=U/\leL j a J/\leL j b R
 |I,v=>le0 j v I
def leB(E:Eng Y) (U:Nat->Option Nat) (x:Option (Blk Y)) (x':Blk Y):Prop:=
 match x,x' with
 |some (.raw cs j tg),.raw R t aD=>Vj j t (leL U cs R)
 |some (.rows th l j),.rows a0 I t=>Zbj l (λl=>l=I)/\j=t
 |some (.raw cs 0 (ah th)),.rows a0 I 0=>
  (match W5 E th (W4 (E.w th) (cs.length/E.w th) cs),bf (cs.length/E.w th*E.w th) cs.length with|some l,af=>Zbj l (λl=>l=I)|_,_=>False)
 |some (.map J),.map es'=>J=es'/\nidE 0 J=af
 |_,_=>False
def fitF(j:Nat->Option Nat) (T:Fr Y):List (Nat×SV Y)->Prop
 | []=>True
 |(s,v)::r=>le1 j (T s) v/\fitF j T r
def fitB(E:Eng Y) (j:Nat->Option Nat) (h:Hp Y):List (Nat×Blk Y)->Prop
 | []=>True
 |(b,x)::r=>(match j b with|some c=>leB E j (h c) x|none=>False)/\fitB E j h r
def Znc(i ih M:Nat) (md:List Nat) (j:Nat->Option Nat):List (Nat×Blk Y)->List Nat->Bool
 | [],_=>af
 |(b,_)::r,seen=>aZ b ih&&(match j b with|some c=> !(memB c seen)&&(aZ b i||(cn i c&&aZ c M)||memB c md)&&Znc i ih M md j r (c::seen)|none=>ae)
def Z1y(i ih M:Nat) (md:List Nat) (T:Fr Y) (h:Hp Y):List (Nat×Nat)->Bool
 | []=>af
 |(b,s)::r=>(cn i b&&aZ b ih)&&(match idAt T h s with|some c=>(cn i c&&aZ c M)||memB c md|none=>ae)&&Z1y i ih M md T h r
def fits(E:Eng Y) (A:Ann Y) (i:Nat) (T:Fr Y) (h:Hp Y) (x:A.X):Prop:=
 match Znc i A.ih A.M A.md (renO i T h (A.src x)) (A.bl x) []&&Z1y i A.ih A.M A.md T h (A.src x) with
 |true=>fitF (renO i T h (A.src x)) T (A.fr x)/\fitB E (renO i T h (A.src x)) h (A.bl x)
 |false=>False
def mdOk(i:Nat) (h:Hp Y):List Nat->Bool
 | []=>af
 |b::r=>aZ b i&&(match h b with|some _=>af|none=>ae)&&mdOk i h r
def Xx(i:Nat) (md:List Nat):List Nat->Bool
 | []=>af
 |b::r=>(cn i b||memB b md)&&Xx i md r
def Zdy(i:Nat) (h:Hp Y):List (Nat×Blk Y)->Bool
 | []=>af
 |(b,_)::r=>(cn i b||(match h b with|some _=>af|none=>ae))&&Zdy i h r
def Zwl(E:Eng Y) (A:Fr Y->Hp Y->Nat->Ann Y) (V:Zhl Y):Zhl Y:=λT h i ms K=>
 match(cn i (A T h i).ih&&cn (A T h i).ih (A T h i).M)&&mdOk i h (A T h i).md with
 |false=>False
 |true=>∃R:(A T h i).X->Prop,(A T h i).ex (λx=>R x/\Zdy i h ((A T h i).bl x)=af/\fits E (A T h i) i T h x)/\
  (A T h i).al λx=>R x->V (frOf ((A T h i).fr x)) (blOf ((A T h i).bl x)) (A T h i).ih [] λe t I U a0=>
   (match cn U (A T h i).M&&Xx i (A T h i).md a0 with
   |true=>(match e with
    | .normal=>Z2j E (A T h i).gth (A T h i).fn t (A T h i).fz I λJ bs=>(match Xx i (A T h i).md bs with
     |true=>(A T h i).ex λj=>R j/\(A T h i).meas j<(A T h i).meas x/\Zdy i h ((A T h i).bl j)=af/\fits E (A T h i) i t J j
     |false=>False)
    |e=>K e t I (A T h i).M ((A T h i).md++ms))
   |false=>False)
variable {E:Eng Y}
def Own(i M:Nat) (md:List Nat) (σ:Pl) (r:Nat):Prop:=∃b z,(b∈md\/(i<=b/\b<M))/\σ b=ah (r,z)
structure StpL(i M:Nat) (md:List Nat) (σ:Pl) (g:GH) (w:World) (σ':Pl) (g':GH) (w':World):Prop where
 out:∀b,b<i\/M<=b->σ' b=σ b
 gle:g.le g'
 gcnew:∀r o v,g'.cell r o=ah v->g.cell r o=ah v\/w.heap.size<=r\/Own i M md σ r
 gmnew:∀r es,g'.obj r=ah es->g.obj r=ah es\/w.heap.size<=r
 heap:∀r,r<w.heap.size->¬Own i M md σ r->w'.heap[r]? =w.heap[r]?
 size:w.heap.size<=w'.heap.size
 os:w'.os=w.os
 tape:w'.tape=w.tape
 output:w'.output=w.output
 own:∀r,Own i M md σ' r->w.heap.size<=r\/Own i M md σ r
theorem StpL.trans{i M:Nat} {md:List Nat} {σ J a0:Pl} {g U g2:GH} {w w1 w2:World} (h:StpL i M md σ g w J U w1) (k:StpL i M md J U w1 a0 g2 w2):StpL i M md σ g w a0 g2 w2:=by
 have back:∀r,Own i M md J r->w.heap.size<=r\/Own i M md σ r:=h.own;refine⟨λb hb=>(k.out b hb).trans (h.out b hb),h.gle.trans k.gle,?_,?_,?_,bY h.size k.size,k.os.trans h.os,k.tape.trans h.tape,k.output.trans h.output,?_⟩
 ·intro r o v I
  rcases k.gcnew r o v I with j|j|j
  ·exact h.gcnew r o v j
  ·exact .inr (.inl (bY h.size j))
  ·exact .inr (back r j)
 ·intro r R I
  rcases k.gmnew r R I with j|j
  ·exact h.gmnew r R j
  ·exact .inr (bY h.size j)
 ·intro r hr hn
  rw[k.heap r (cC hr h.size) (λt=>by
   rcases back r t with j|j
   ·omega
   ·exact hn j),h.heap r hr hn]
 ·intro r t
  rcases k.own r t with j|j
  ·exact .inl (bY h.size j)
  ·exact back r j
theorem StpL.of{i ih n M:Nat} {md m:List Nat} {σ U:Pl} {g g1:GH} {w w1:World} (h:Stp ih n m σ g w U g1 w1) (h1:i<=ih) (h2:ih+n<=M) (hm:∀b∈m,b∈md\/(i<=b/\b<M)):StpL i M md σ g w U g1 w1:=by
 have own:∀r b z,b∈m->σ b=ah (r,z)->Own i M md σ r:=λr b z t J=>⟨b,z,hm b t,J⟩;refine⟨?_,h.gle,?_,h.gmnew,?_,h.size,h.os,h.tape,h.output,?_⟩
 ·intro b t
  cases I:σ b with
  |some p=>exact h.sig _ _ I
  |none=>
   cases a0:U b with
   |none=>rfl
   |some p=>
    rcases h.snew b p a0 with j|j
    ·rw[I] at j;cases j
    ·omega
 ·intro r o v hv
  rcases h.gcnew r o v hv with j|j|⟨b,j,z,R⟩
  ·exact .inl j
  ·exact .inr (.inl j)
  ·exact .inr (.inr (own r b z j R))
 ·exactλr hr hn=>h.heap r hr λb t z J=>hn (own r b z t J)
 ·rintro r ⟨b,z,t,J⟩
  cases I:σ b with
  |some p=>
   have:=h.sig _ _ I;rw[J] at this;obtain rfl:=aU this;exact .inr ⟨b,z,t,I⟩
  |none=>
   rcases h.blk b r z I J with j|⟨b',j,z',R⟩
   ·exact .inl j
   ·exact .inr (own r b' z' j R)
theorem StpL.to{i M:Nat} {md ms:List Nat} {σ a0:Pl} {g R:GH} {w w1:World} (h:StpL i M md σ g w a0 R w1) (a1:i<=M) (U:∀b,i<=b->b<M->σ b=aD):Stp i (M-i) (md++ms) σ g w a0 R w1:=by
 have own:∀r,Own i M md σ r->∃b∈md++ms,∃z,σ b=ah (r,z):=by
  rintro r ⟨b,z,j|j,J⟩
  ·exact⟨b,by simp[j],z,J⟩
  ·rw[U b j.1 j.2] at J;cases J
 refine⟨?_,?_,h.gle,?_,h.gmnew,?_,h.size,h.os,h.tape,h.output,?_⟩
 ·intro b p j
  rw[h.out b (by
   rcases dC b i with c|c
   ·exact .inl c
   ·rcases dC b M with d|d
    ·rw[U b c d] at j;cases j
    ·exact .inr d)]
  exact j
 ·intro b p j
  by_cases c:i<=b/\b<M
  ·right;omega
  ·rw[h.out b (by omega)] at j;exact .inl j
 ·intro r o v hv
  rcases h.gcnew r o v hv with t|t|t
  ·exact .inl t
  ·exact .inr (.inl t)
  ·exact .inr (.inr (own r t))
 ·exactλr hr hn=>h.heap r hr λho=>by
   obtain⟨b,j,z,hz⟩:=own r ho;exact hn b j z hz
 ·intro b r z h1 I
  by_cases c:i<=b/\b<M
  ·rcases h.own r ⟨b,z,.inr c,I⟩ with t|t
   ·exact .inl t
   ·exact .inr (own r t)
  ·rw[h.out b (by omega),h1] at I;cases I
def renσ(i M:Nat) (j:Nat->Option Nat) (σ:Pl):Pl:=λb=>if b<i\/M<=b then σ b else match j b with|some c=>σ c|none=>aD
theorem Zkm{i ih M:Nat} {md:List Nat} {T:Fr Y} {h:Hp Y}:∀{R:List (Nat×Nat)},Z1y i ih M md T h R=af->
 (∀b,b<i->renO i T h R b=ah b)/\∀b c,i<=b->renO i T h R b=ah c->b<ih/\((i<=c/\c<M)\/c∈md)
 | [],_=>by
  refine⟨λb t=> ?_,λb c t I=> ?_⟩
  ·have:aZ b i=true:=by rw[aZ,bx];exact t
   simp[renO,this]
  ·have:aZ b i=false:=by rw[<-bv,aZ,bx];omega
   simp[renO,this] at I
 |(b0,s)::r,U=>by
  simp only[Z1y,az] at U
  obtain⟨⟨⟨k1,J⟩,j⟩,k4⟩:=U
  rw[bx] at k1
  have J:=Yi J
  obtain⟨a0,a1⟩:=Zkm k4
  refine⟨λb t=> ?_,λb c t I=> ?_⟩
  ·have:bf b b0=false:=by rw[<-bv,eV];omega
   simp only[renO,this];exact a0 b t
  ·simp only[renO] at I
   split at I
   ·rename_i e
    have e:=aG e
    subst e
    rw[I] at j
    simp only[bw,az,bx] at j
    refine⟨J,?_⟩
    rcases j with j|j
    ·exact .inl ⟨j.1,Yi j.2⟩
    ·exact .inr (memB_iff.1 j)
   ·exact a1 b c t I
theorem Zsj{a b : Option Nat} {c : Nat} (h : Z98 a b) (j : ∀ m, a = ah m → c = m) : ∀ m, b = ah m → c = m := by
  rintro m rfl;cases a with
  | none => exact h.elim
  | some a => have : a = m := h
              exact this ▸ j a rfl
theorem Zid(a0:EngOk E) {a1:Nat->Option Nat} {σ σ':Pl} {g:GH} (a4:∀b c,a1 b=ah c->σ' b=σ c) {v v':SV Y} {u:Value} (t:le0 a1 v v') (I:Den E σ g v u):Den E σ' g v' u:=by
 have at_:∀{U b:Nat} {K:Prop},Zkl (a1 U) b K->σ' U=σ b/\K:=by
  intro U b K h;unfold Zkl at h;split at h
  ·rename_i a ha
   obtain⟨rfl,hK⟩:=Xn h;exact⟨a4 _ _ ha,hK⟩
  ·exact h.elim
 have enc:∀{th:Y.Th} {x:Y.dom th} {j:Nat} {sv:SV Y} {u:Value},(E.enc th x)[j]? =ah sv->Den E σ g sv u->Den E σ' g sv u:=λJ I=>Xt a0 (i:=0) I (λb p hb=>by omega) (Yl (a0.encI _ _ _) J);unfold le0 at t;split at t
 ·exact .unk _
 ·split at t
  ·split at t
   ·rename_i e
    obtain rfl:=iK e;obtain rfl:=t;cases I;exact .int _ _ _
   ·exact t.elim
  ·exact t.elim
 ·split at t
  ·obtain rfl:=t;cases I;exact .bool _ _
  ·exact t.elim
 ·split at t
  ·obtain rfl:=t;cases I;exact .str _ ‹_›
  ·exact t.elim
 ·split at t
  ·obtain rfl:=t;cases I;exact .val _
  ·exact t.elim
 ·split at t
  ·obtain⟨e,rfl⟩:=at_ t
   cases I;rename_i R;exact .ptr (e.trans R)
  ·exact t.elim
 ·split at t
  ·obtain⟨e,t⟩:=at_ t
   obtain⟨rfl,rfl,rfl,hc⟩:=Xn t;obtain⟨r,z,c,rfl,R,hz,a3,hm,a2⟩:=Vm I;refine .sl (e.trans R) hz a3 hm λq hq=> ?_;exact Zsj hc a2 q hq
  ·exact t.elim
 ·split at t
  ·obtain⟨e,_⟩:=at_ t
   cases I;rename_i R;exact .map (e.trans R)
  ·exact t.elim
 ·split at t
  ·obtain⟨t,hf⟩:=t
   obtain⟨e,t⟩:=Xr t;subst e;obtain rfl:_=_:=t;obtain⟨base,c,cv,rfl,h1,h2,h3,h4,h5,h6⟩:=Vx I;exact .psl cv h1 h2 (λe=>h3 (hf e)) h4 h5 λq x hq j sv J=>enc J (h6 q x hq j sv J)
  ·obtain rfl:_= []:=t
   cases I;exact .psl (l:= []) (λ_ _=>undef) (aE _) (by unfold maxLen;omega) (λ_=>rfl) (λ_=>rfl) (by simp) (by simp)
  ·exact t.elim
 ·split at t
  ·obtain⟨t,rfl⟩:=t
   obtain⟨e,t⟩:=Xr t;subst e;have t: [_]= [_]:=t;simp only[List.cons.injEq,and_true] at t;subst t;cases I;rename_i r o c hc I;exact .pptr c hc λj sv J=>enc J (I j sv J)
  ·exact t.elim
 ·split at t
  ·obtain⟨rfl,hn⟩:=t
   exact Xt a0 (i:=0) I (λb p hb=>by omega) (by simpa[nid] using hn)
  ·exact t.elim
 ·exact t.elim
theorem Zbc{R:Nat->Option Nat}:∀{cs I:List (SV Y)},leL R cs I->cs.length=I.length/\∀(j:Nat) t,I[j]? =ah t->∃sv,cs[j]? =ah sv/\le0 R sv t
 | [],[],_=>⟨rfl,λj sv h=>by simp at h⟩
 |x::r,x'::r',h=>by
  obtain⟨U,a0⟩:=h
  obtain⟨k1,k2⟩:=Zbc a0
  refine⟨by simp[k1],λj t J=> ?_⟩
  cases j with
  |zero=>simp at J;subst J;exact⟨x,rfl,U⟩
  |succ j=>exact k2 j t (by simpa using J)
 | [],_::_,h=>h.elim
 |_::_,[],h=>h.elim
theorem Z6i(hE:EngOk E) {a1:Nat->Option Nat} {σ σ':Pl} {g:GH} (a2:∀b c,a1 b=ah c->σ' b=σ c) {v v':SV Y} {u:Value} (I:le1 a1 v v') (t:Den E σ g v u):Den E σ' g v' u:=by
 have lists:∀{cs a0:List (SV Y)} {c:Nat->Value},leL a1 cs a0->(∀j sv,cs[j]? =ah sv->Den E σ g sv (c j))->∀j sv,a0[j]? =ah sv->Den E σ' g sv (c j):=by
  intro cs a0 c h t j sv J;obtain⟨sv0,R,U⟩:=(Zbc h).2 j sv J;exact Zid hE a2 U (t j sv0 R)
 unfold le1 at I;split at I
 ·obtain⟨arr,c,rfl,hs,hc,t⟩:=Yo t
  have e:=(Zbc I).1;exact .agg c (by omega) (λj J=>hc j (by omega)) (lists I t)
 ·obtain⟨arr,c,rfl,hs,hc,t⟩:=Zmj t
  have e:=(Zbc I).1;exact .tup c (by omega) (λj J=>hc j (by omega)) (lists I t)
 ·obtain⟨rfl,R,U⟩:=I
  cases t;rename_i ca cb a7 a3 a5 a8 a4 a6;have e1:=(Zbc R).1;have e2:=(Zbc U).1;exact .fn ca cb (by omega) (λj J=>a3 j (by omega)) (lists R a5) (by omega) (λj J=>a4 j (by omega)) (lists U a6)
 ·exact Zid hE a2 I t
theorem Zad(j:EngOk E) {R:Nat->Option Nat} {σ σ':Pl} {g:GH} (J:∀b c,R b=ah c->σ' b=σ c) {T:Fr Y} {a:Act} (I:FrOk E σ g T a):∀{l:List (Nat×SV Y)},fitF R T l->FrOk E σ' g (frOf l) a
 | [],_=>λt=> .unk _
 |(s,v)::r,h=>by
  intro t
  show Den E σ' g (upd (frOf r) s v t) _
  rw[Zf]
  by_cases e:t=s
  ·rw[jh e,e];exact Z6i j J h.1 (I s)
  ·rw[jb e];exact Zad j J I h.2 t
theorem Zwm(J:EngOk E) {a2:Nat->Option Nat} {σ σ':Pl} {g:GH} {w:World} (a5:∀b c,a2 b=ah c->σ' b=σ c) {x0:Option (Blk Y)} {x:Blk Y} {r z:Nat} (t:leB E a2 x0 x):∃y,x0=ah y/\x.fzc E=y.fzc E/\(BlkOk E σ g w r z y->BlkOk E σ' g w r z x):=by
 have enc:∀{th:Y.Th} {x:Y.dom th} {j:Nat} {sv:SV Y} {u:Value},(E.enc th x)[j]? =ah sv->Den E σ g sv u->Den E σ' g sv u:=λI hd=>Xt J (i:=0) hd (λb p hb=>by omega) (Yl (J.encI _ _ _) I);unfold leB at t;split at t
 ·obtain⟨ef,a4⟩:=Xn t
  clear t;subst ef;obtain⟨e,hg⟩:=Zbc a4;refine⟨_,rfl,rfl,?_⟩;rintro⟨arr,R,U,a0,h3,h4,h0⟩;refine⟨arr,R,U,a0,?_,?_,js⟩
  ·simp only[cU] at h3⊢;omega
  ·intro j sv I
   obtain⟨sv0,k1,k2⟩:=hg j sv I;obtain⟨v,k3,k4⟩:=h4 j sv0 k1;exact⟨v,k3,Zid J a5 k2 k4⟩
 ·rename_i th l fz a6 l' a7
  obtain⟨t,rfl⟩:=t;obtain⟨e,t⟩:=Xr t;subst e;have t:l=l':=t;subst t;refine⟨_,rfl,rfl,?_⟩;rintro⟨arr,R,U,a0,h3,h4,h0⟩;refine⟨arr,R,U,a0,h3,?_,h0⟩;intro j sv I;obtain⟨v,k3,k4⟩:=h4 j sv I;obtain⟨q,p,y,_,_,_,hs⟩:=Xo J th l I;exact⟨v,k3,enc hs k4⟩
 ·rename_i cs th a6 l'
  split at t
  ·rename_i l a3 a1
   have a1:=aG a1;obtain⟨e,t⟩:=Xr t;subst e;have t:l=l':=t;subst t;obtain⟨d1,d2⟩:=Yx J a3;refine⟨_,rfl,by simp[gN],?_⟩;rintro⟨arr,R,U,a0,h3,h4,h0⟩;refine⟨arr,R,U,a0,?_,?_,h0⟩
   ·simp only[cU] at h3⊢
    rw[Z3 J,d1];omega
   ·intro j sv I
    obtain⟨s0,k1,k2⟩:=d2 j sv I;obtain⟨v,k3,k4⟩:=h4 j s0 k1;obtain⟨q,p,y,_,_,_,hs⟩:=Xo J th l I;exact⟨v,k3,enc hs (k2 _ _ _ k4)⟩
  ·exact t.elim
 ·obtain⟨rfl,hn⟩:=t
  exact⟨_,rfl,rfl,λhb=>Z6h (i:=0) J hb (λb p hb=>by omega) hn⟩
 ·exact t.elim
theorem Va:∀{j:List (Nat×Blk Y)} {b:Nat} {x:Blk Y},blOf j b=ah x->(b,x)∈j
 | [],b,x,h=>by cases h
 |(t,x0)::r,b,x,h=>by
  have h:upd (blOf r) t (ah x0) b=ah x:=h
  rw[Zf] at h
  split at h
  ·rename_i e;cases h;simp[e]
  ·exact cx _ (Va h)
theorem Zp6{I:Nat->Option Nat} {h:Hp Y}:∀{J:List (Nat×Blk Y)},fitB E I h J->∀{b:Nat} {x:Blk Y},(b,x)∈J->∃c,I b=ah c/\leB E I (h c) x
 | [],_,b,x,j=>by cases j
 |(b0,x0)::r,hf,b,x,j=>by
  obtain⟨t,R⟩:=hf
  rcases bE.1 j with e|j
  ·cases e
   split at t
   ·rename_i c U;exact⟨c,U,t⟩
   ·exact t.elim
  ·exact Zp6 R j
theorem Zb7{i ih M:Nat} {md:List Nat} {R:Nat->Option Nat}:∀{I:List (Nat×Blk Y)} {seen:List Nat},Znc i ih M md R I seen=af->∀{b:Nat} {x:Blk Y},(b,x)∈I->b<ih/\∃c,R b=ah c/\c∉seen
 | [],_,_,b,x,j=>by cases j
 |(b0,x0)::r,seen,J,b,x,j=>by
  simp only[Znc,az] at J
  obtain⟨U,t⟩:=J
  split at t
  ·rename_i c hc
   simp only[az,bh] at t
   rcases bE.1 j with e|j
   ·cases e
    refine⟨Yi U,c,hc,λj=> ?_⟩
    have:=memB_iff.2 j
    rw[this] at t;exact jv t.1.1 (by simp)
   ·obtain⟨k1,c',k2,k3⟩:=Zb7 t.2 j
    exact⟨k1,c',k2,λh=>k3 (cx _ h)⟩
  ·cases t
theorem Zkn{i ih M:Nat} {md:List Nat} {a1:Nat->Option Nat}:∀{bl:List (Nat×Blk Y)} {seen:List Nat},Znc i ih M md a1 bl seen=af->∀{b I c:Nat} {x x':Blk Y},(b,x)∈bl->(I,x')∈bl->a1 b=ah c->a1 I=ah c->b=I
 | [],_,_,b,I,c,x,x',t,_,_,_=>by cases t
 |(b0,x0)::r,seen,j,b,I,c,x,x',t,a0,R,U=>by
  simp only[Znc,az] at j
  obtain⟨_,j⟩:=j
  split at j
  ·rename_i c0 a2
   simp only[az] at j
   rcases bE.1 t with e|t<;>rcases bE.1 a0 with e'|a0
   ·cases e;cases e';rfl
   ·cases e
    rw[a2] at R;cases R
    obtain⟨_,c',J,k3⟩:=Zb7 j.2 a0
    rw[U] at J;cases J
    exact jv (gV) k3
   ·cases e'
    rw[a2] at U;cases U
    obtain⟨_,c',J,k3⟩:=Zb7 j.2 t
    rw[R] at J;cases J
    exact jv (gV) k3
   ·exact Zkn j.2 t a0 R U
  ·cases j
theorem Z6j(hE:EngOk E) {B i ih M:Nat} {md:List Nat} {σ σ':Pl} {h:Hp Y} {g:GH} {w:World} (J:Inv E B σ h g w) {a0:Nat->Option Nat} (a1:∀b c,a0 b=ah c->σ' b=σ c) (a3:∀b p,σ' b=ah p->∃c,σ c=ah p) {U:List (Nat×Blk Y)} (hk:Znc i ih M md a0 U []=af) (hf:fitB E a0 h U):Inv E B σ' (blOf U) g w:=by
 have at_:∀b x,blOf U b=ah x->(b,x)∈U/\∃c y,a0 b=ah c/\h c=ah y/\σ' b=σ c/\x.fzc E=y.fzc E/\∀r z,BlkOk E σ g w r z y->BlkOk E σ' g w r z x:=by
  intro b x I;have hm:=Va I;obtain⟨c,R,j⟩:=Zp6 hf hm;obtain⟨y,t,h4,_⟩:=Zwm (σ:=σ) (σ':=σ') (g:=g) (w:=w) (r:=0) (z:=0) hE a1 j;refine⟨hm,c,y,R,t,a1 _ _ R,h4,λr z hb=> ?_⟩;obtain⟨y',a2,_,h5⟩:=Zwm (σ:=σ) (σ':=σ') (g:=g) (w:=w) (r:=r) (z:=z) hE a1 j;rw[t] at a2;cases a2;exact h5 hb
 refine⟨J.gc,J.gm,?_,?_,?_,?_,?_,J.glob⟩
 ·intro b x I
  obtain⟨_,c,y,R,j,t,h4,h5⟩:=at_ b x I;obtain⟨r,z,k1,k2⟩:=J.blk c y j;exact⟨r,z,t.trans k1,h5 r z k2⟩
 ·intro b b' r z z' n1 n2 s1 s2
  obtain⟨x,I⟩:=bt.1 n1;obtain⟨x',a4⟩:=bt.1 n2;obtain⟨m1,c,y,R,j,t,_⟩:=at_ b x I;obtain⟨m2,c',y',k1,k2,k3,_⟩:=at_ b' x' a4;have e:c=c':=J.inj c c' r z z' (by rw[j];simp) (by rw[k2];simp) (t▸s1) (k3▸s2);subst e;exact Zkn hk m1 m2 R k1
 ·intro b r z hs
  obtain⟨c,hc⟩:=a3 b _ hs;exact J.base c r z hc
 ·intro b x r z o v I hs hv
  obtain⟨_,c,y,R,j,t,h4,h5⟩:=at_ b x I;rw[h4];exact J.fz c y r z o v j (t▸hs) hv
 ·intro b x r z I hs
  obtain⟨_,c,y,R,j,t,h4,h5⟩:=at_ b x I;exact J.fm c y r z j (t▸hs)
theorem Ze8(hE:EngOk E) {A:Ann Y} {i:Nat} {T:Fr Y} {h:Hp Y} {x:A.X} (hi:i<=A.ih) (hM:A.ih<=A.M) (I:fits E A i T h x) {B:Nat} {σ:Pl} {g:GH} {w:World} {a:Act} (hI:Inv E B σ h g w) (hF:FrOk E σ g T a):
 ∃σ',StpL i A.M A.md σ g w σ' g w/\Inv E B σ' (blOf (A.bl x)) g w/\FrOk E σ' g (frOf (A.fr x)) a/\(∀b,A.ih<=b->b<A.M->σ' b=aD):=by
 unfold fits at I
 split at I
 ·rename_i hk
  rw[az] at hk
  obtain⟨a3,a4⟩:=hk
  obtain⟨a1,a2⟩:=I
  obtain⟨r1,r2⟩:=Zkm a4
  have a0:∀b c,renO i T h (A.src x) b=ah c->renσ i A.M (renO i T h (A.src x)) σ b=σ c:=by
   intro b c t
   unfold renσ
   by_cases e:b<i
   ·rw[jh (.inl e)]
    rw[r1 b e] at t;cases t;rfl
   ·have:=(r2 b c (by omega) t).1
    rw[jb (by omega),t]
  have U:∀b,b<i\/A.M<=b->renσ i A.M (renO i T h (A.src x)) σ b=σ b:=λb J=>by unfold renσ;rw[jh J]
  have R:∀b p,i<=b->b<A.M->renσ i A.M (renO i T h (A.src x)) σ b=ah p->∃c,b<A.ih/\((i<=c/\c<A.M)\/c∈A.md)/\σ c=ah p:=by
   intro b p h1 h2 j
   unfold renσ at j
   rw[jb (by omega)] at j
   split at j
   ·rename_i c t
    obtain⟨k1,k2⟩:=r2 b c h1 t
    exact⟨c,k1,k2,j⟩
   ·cases j
  refine⟨renσ i A.M (renO i T h (A.src x)) σ,⟨U,.refl _,λ_ _ _ h=> .inl h,λ_ _ h=> .inl h,λ_ _ _=>rfl,aE _,rfl,rfl,rfl,?_⟩,Z6j hE hI a0 ?_ a3 a2,Zad hE a0 hF a1,?_⟩
  ·rintro r ⟨b,z,J,hs⟩
   right
   by_cases c:i<=b/\b<A.M
   ·obtain⟨c',_,k2,k3⟩:=R b _ c.1 c.2 hs
    exact⟨c',z,k2.symm,k3⟩
   ·rw[U b (by omega)] at hs
    exact⟨b,z,J,hs⟩
  ·intro b p j
   by_cases c:i<=b/\b<A.M
   ·obtain⟨c',_,_,k3⟩:=R b _ c.1 c.2 j
    exact⟨c',k3⟩
   ·rw[U b (by omega)] at j
    exact⟨b,j⟩
  ·intro b h1 h2
   cases hq:renσ i A.M (renO i T h (A.src x)) σ b with
   |none=>rfl
   |some p=>
    obtain⟨c,k1,_⟩:=R b p (by omega) h2 hq
    omega
 ·exact I.elim
theorem Zp7{i:Nat} {h:Hp Y}:∀{md:List Nat},mdOk i h md=af->∀{b:Nat},b∈md->b<i/\h b≠aD
 | [],_,b,j=>by cases j
 |x::r,t,b,j=>by
  simp only[mdOk,az] at t
  rcases bE.1 j with rfl|j
  ·refine⟨Yi t.1.1,λe=> ?_⟩
   rw[e] at t;simp at t
  ·exact Zp7 t.2 j
theorem Wu{i:Nat} {md:List Nat}:∀{ms:List Nat},Xx i md ms=af->∀{b:Nat},b∈ms->i<=b\/b∈md
 | [],_,b,j=>by cases j
 |x::r,t,b,j=>by
  simp only[Xx,az,bw,bx] at t
  rcases bE.1 j with rfl|j
  ·exact t.1.imp id memB_iff.1
  ·exact Wu t.2 j
theorem Zko{i:Nat} {h:Hp Y}:∀{I:List (Nat×Blk Y)},Zdy i h I=af->∀{b:Nat} {x:Blk Y},(b,x)∈I->i<=b\/h b≠aD
 | [],_,b,x,j=>by cases j
 |(R,x0)::r,t,b,x,j=>by
  simp only[Zdy,az,bw,bx] at t
  rcases bE.1 j with e|j
  ·cases e
   refine t.1.imp id λJ e=> ?_
   rw[e] at J;cases J
  ·exact Zko t.2 j
theorem Zkp{A:Ann Y} {i:Nat} {T:Fr Y} {h:Hp Y} {x:A.X} (j:fits E A i T h x):DomLt (blOf (A.bl x)) A.ih:=by
 unfold fits at j;split at j
 ·rename_i t
  rw[az] at t;intro b I;obtain⟨y,J⟩:=bt.1 I;exact(Zb7 t.1 (Va J)).1
 ·exact j.elim
def Z6k(E:Eng Y) (N i M:Nat) (md:List Nat) (ih:Nat) (c:Code) (T:Fr Y) (h:Hp Y) (e:Exit) (J:Fr Y) (R:Hp Y):Prop:=
 ∃n,∀(B:Nat) (σ:Pl) (g:GH) (w:World) (a:Act) (Q:Exit->Act->World->Prop),Inv E B σ h g w->B<=w.heap.size->(∀b,ih<=b->b<M->σ b=aD)->FrOk E σ g T a->a.tmps.size=N->
  (∀j I,(j.defers=a.defers/\j.tmps.size=N/\∃σ' t,StpL i M md σ g w σ' t I/\Inv E B σ' R t I/\FrOk E σ' t J j)->Q e j I)->Code.rounds E.P c Q n a w
theorem Zp8(hE:EngOk E) (A0:Fr Y->Hp Y->Nat->Ann Y):LoopOk E (Zwl E A0):=by
 intro N c V hV T h i ms K hD hk;unfold Zwl at hk;split at hk
 ·exact hk.elim
 ·rename_i a6
  generalize A0 T h i=A at hk a6;simp only[az,bx] at a6;obtain⟨⟨hi,hM⟩,c4⟩:=a6;obtain⟨R,c3,a7⟩:=hk;obtain⟨x0,c2,c9,b5⟩:=A.exOk _ c3;have a7:=A.alOk _ a7;have d1:∀(n:Nat) (x:A.X),A.meas x<n->R x->Zdy i h (A.bl x)=af->DomLt (blOf (A.bl x)) A.ih->
   ∃e T' h',K e T' h' A.M (A.md++ms)/\Dom h i h' A.M/\Z6k E N i A.M A.md A.ih c (frOf (A.fr x)) (blOf (A.bl x)) e T' h':=by
   intro n
   induction n with
   |zero=>intro x hx;omega
   |succ n d0=>
    intro x hx hR c7 b3;obtain⟨e,T1,h1,i1,d2,j,d4,a4,⟨m,hm,c0⟩,t1⟩:=hV _ _ _ [] _ b3 (a7 x hR);rw[List.append_nil] at hm;subst hm;split at j
    ·rename_i b0
     rw[az,bx] at b0;obtain⟨b6,c5⟩:=b0;have c6:∀b∈d2,b∈A.md\/(i<=b/\b<A.M):=by
      intro b I;rcases Wu c5 I with a0|a0
      ·refine .inr ⟨a0,?_⟩
       rcases c0 b I with h3|h3
       ·have:=b3 b h3;omega
       ·omega
      ·exact .inl a0
     have one:∀(B:Nat) (σ:Pl) (g:GH) (w:World) (a:Act) (Q:Exit->Act->World->Prop),Inv E B σ (blOf (A.bl x)) g w->B<=w.heap.size->(∀b,A.ih<=b->b<A.M->σ b=aD)->FrOk E σ g (frOf (A.fr x)) a->a.tmps.size=N->
      (∀J a2,(J.defers=a.defers/\J.tmps.size=N/\∃σ' U,StpL i A.M A.md σ g w σ' U a2/\Inv E B σ' h1 U a2/\FrOk E σ' U T1 J)->Q e J a2)->c.wp E.P Q a w:=by
      intro B σ g w a Q hI hB a3 hF hN hQ;refine t1 B σ g w a Q hI hB (λb k1 k2=>a3 b k1 (by omega)) hF hN ?_;rintro J a2 ⟨k1,k2,σ',U,k3,k4,k5⟩;exact hQ J a2 ⟨k1,k2,σ',U,StpL.of k3 hi (by omega) c6,k4,k5⟩
     rcases Zju j with⟨rfl,j⟩|⟨he,j⟩
     ·obtain⟨d3,bz,j,z1,z2,z3⟩:=Zqr hE j
      split at j
      case h_2=>exact j.elim
      rename_i a5;have a5:∀b∈bz,b∈A.md\/(i<=b/\b<A.M):=by
       intro b I;rcases Wu a5 I with a0|a0
       ·exact .inr ⟨a0,cC (a4.1 b (z2 b I)) b6⟩
       ·exact .inl a0
      obtain⟨x',c1,d5,c8,b4⟩:=A.exOk _ j;obtain⟨e2,T2,a0,b9,b7,n2,t2⟩:=d0 x' (by omega) c1 c8 (Zkp b4);refine⟨e2,T2,a0,b9,b7,n2+1,λB σ g w a Q hI hB a3 hF hN hQ=> ?_⟩;rw[rounds_succ];refine one B σ g w a _ hI hB a3 hF hN ?_;rintro a1 w1 ⟨k1,k2,a8,g1,k3,k4,k5⟩;obtain⟨gz,zl,zI,zc,zo⟩:=z3 B a8 g1 w1 k4;have zS:StpL i A.M A.md a8 g1 w1 a8 gz w1:=⟨λ_ _=>rfl,zl,λr o v hv=>(zc r o v hv).imp id λ⟨b,b1,z,b2⟩=> .inr ⟨b,z,a5 b b1,b2⟩,λr es hv=>by rw[zo] at hv;exact .inl hv,λ_ _ _=>rfl,aE _,rfl,rfl,rfl,λr ho=> .inr ho⟩
      obtain⟨a9,l1,l2,l3,l4⟩:=Ze8 hE hi hM b4 zI (k5.mono (.refl _) zl);refine t2 B a9 gz w1 a1 Q l2 (bY hB k3.size) l4 l3 k2 ?_;rintro J a2 ⟨q1,q2,σ',U,q3,q4,q5⟩;exact hQ J a2 ⟨q1.trans k1,q2,σ',U,((k3.trans zS).trans l1).trans q3,q4,q5⟩
     ·refine⟨e,T1,h1,j,⟨λb I=>cC (a4.1 b I) b6,λb I=> ?_⟩,1,λB σ g w a Q hI hB a3 hF hN hQ=> ?_⟩
      ·rcases a4.2 b I with k|k
       ·obtain⟨y,hy⟩:=bt.1 k
        exact(Zko c7 (Va hy)).symm
       ·right;omega
      ·rw[rounds_succ]
       refine one B σ g w a _ hI hB a3 hF hN ?_;intro a1 w1 hA;have:=hQ a1 w1 hA;cases e<;>first|exact this|exact jv rfl he
    ·exact j.elim
  obtain⟨e,T',h',j,b8,nr,t⟩:=d1 (A.meas x0+1) x0 (by omega) c2 c9 (Zkp b5);refine⟨e,T',h',A.M,A.md++ms,j,by omega,b8,⟨A.md,rfl,λb I=> .inl (Zp7 c4 I).2⟩,?_⟩;intro B σ g w a Q hI hB a3 hF hN hQ;refine wp_loop_rounds nr ?_;obtain⟨a9,l1,l2,l3,l4⟩:=Ze8 hE hi hM b5 hI hF;refine t B a9 g w a Q l2 hB l4 l3 hN ?_;rintro J a2 ⟨q1,q2,σ',U,q3,q4,q5⟩;exact hQ J a2 ⟨q1,q2,σ',U,(l1.trans q3).to (by omega) a3,q4,q5⟩
end
end
section
open Go.RowKit
section
variable {Y:Thy} {E:Eng Y} {F:Fns Y}
def PureC(E:Eng Y) (f:FuncId) (args:List (SV Y)) (v:SV Y):Prop:=
 ∀(g:GH) (w:World) (vals:Array Value),Inv E w.heap.size σ0 hp0 g w->DenL E σ0 g args vals.toList->
  Calls E.P f vals w λen t=>∃u,en= .returned u/\∃j,Stp 0 0 [] σ0 g w σ0 j t/\Inv E w.heap.size σ0 hp0 j t/\Den E σ0 j v u
theorem Z20{B B':Nat} {σ:Pl} {h:Hp Y} {g:GH} {w:World} (t:Inv E B σ h g w):Inv E B' σ0 hp0 g w:=
 ⟨t.gc,t.gm,(λb x j=>by cases j),λb R r z U I=>jv rfl I,(λb r z J=>by cases J),(λb x r z o v j=>by cases j),(λb x r z j=>by cases j),t.glob⟩
theorem PureC.tri(hE:EngOk E) {f:FuncId} {args:List (SV Y)} {v:SV Y} (hp:PureC E f args v) (ha:nidL 0 args=af) (h:Hp Y) (i:Nat):ROk h (quiet [] v)/\Ziy E f args h i (quiet [] v):=by
 refine⟨λb hb=>by simp[quiet] at hb,?_⟩;intro B σ g w vals hh _ J hB _ hd;have a3:DenL E σ0 g args vals.toList:=⟨hd.1,λj sv u t U=>Xt hE (i:=0) (hd.2 j sv u t U) (λb p hb=>by omega) (Yl ha t)⟩;refine(hp g w vals (Z20 J) a3).mono ?_;rintro en w' ⟨u,he,g',I,a1,a0⟩;have a2:∀r,r<w.heap.size->w'.heap[r]? =w.heap[r]? :=λr hr=>I.heap r hr (by simp);refine⟨u,he,σ,g',⟨.refl _,λb p h=> .inl h,I.gle,λr o v a0=> ?_,I.gmnew,λr hr _=>a2 r hr,I.size,I.os,I.tape,I.output,λb r z t U=>by rw[t] at U;cases U⟩,?_,a0.mono (λb p h=>by cases h) (.refl _)⟩
 ·rcases I.gcnew r o v a0 with t|t|⟨b,t,_⟩
  ·exact .inl t
  ·exact .inr (.inl t)
  ·simp at t
 ·rw[Yp]
  refine⟨a1.gc,a1.gm,?_,J.inj,λb r z R=>⟨(J.base b r z R).1,cC (J.base b r z R).2 I.size⟩,?_,?_,a1.glob⟩
  ·intro b x hx
   obtain⟨r,z,t,U⟩:=J.blk b x hx;exact⟨r,z,t,U.mono (.refl _) I.gle (a2 r (J.base b r z t).2)⟩
  ·intro b x r z o v hx R a0
   rcases I.gcnew r o v a0 with t|t|⟨b',t,_⟩
   ·exact J.fz b x r z o v hx R t
   ·have:=(J.base b r z R).2;omega
   ·simp at t
  ·intro b x r z hx R
   cases hg:g'.obj r with
   |none=>rfl
   |some es=>
    rcases I.gmnew r es hg with t|t
    ·rw[J.fm b x r z hx R] at t;cases t
    ·have:=(J.base b r z R).2;omega
theorem PureC.tri2(j:EngOk E) {f:FuncId} {args:List (SV Y)} {v:SV Y} (I:PureC E f args v) (t:nidL 0 args=af) (h:Hp Y) (i:Nat):ROk h (quiet [] v)/\CallTri2 E f args h i (quiet [] v):=(I.tri j t h i).imp id .inl
def ret0(E:Eng Y) (h:Hp Y) (v j:SV Y):Prop:=
 match j,v with
 | .psl I t ae,.sl b off len w c=>Zo3 E h I (.sl b off len w c) λ_ l _=>l=t
 |j,v=>le0 (λ_=>aD) v j
def retL(E:Eng Y) (h:Hp Y):List (SV Y)->List (SV Y)->Prop
 | [],[]=>True
 |x::r,t::j=>ret0 E h x t/\retL E h r j
 |_,_=>False
def ret1(E:Eng Y) (h:Hp Y) (v j:SV Y):Prop:=
 match j,v with
 | .agg t,.agg cs=>retL E h cs t
 |j,v=>ret0 E h v j
def Z8c(E:Eng Y) (h:Hp Y):List (SV Y)->List (SV Y)->Prop
 | [],[]=>True
 |x::r,t::j=>ret1 E h x t/\Z8c E h r j
 |_,_=>False
def ret'(E:Eng Y) (h:Hp Y) (v j:SV Y):Prop:=
 match j,v with
 | .tup t,.tup cs=>Z8c E h cs t
 |j,v=>ret1 E h v j
def ret(E:Eng Y) (h:Hp Y) (v j:SV Y):Prop:=
 match Zc9 v with
 |some _=>False
 |none=>ret' E h v j
theorem CallTri2.ret{f:FuncId} {args:List (SV Y)} {h t:Hp Y} {i:Nat} {r:Res Y} {v:SV Y} (ht:CallTri2 E f args h i r) (j:ret E t r.v v):Ziy E f args h i r:=by
 rcases ht with ht|⟨p,I,_⟩
 ·exact ht
 ·rw[I] at j;exact j.elim
def allG(g:GH) (n:Nat) (w:World):GH :=
  { cell:=λr o=>if n<=r then w.cell? ⟨r,o,aD⟩ else g.cell r o
    obj:=λr=>if n<=r then(match w.heap[r]? with | some (.map j _)=>ah j | _=>aD) else g.obj r }
theorem Zit{n:Nat} {g:GH} {w:World} {σ:Pl} {h:Hp Y} {B:Nat} (t:Inv E B σ h g w):g.le (allG g n w):=by
  refine⟨λr o v j=>?_,λr I j=>?_⟩
  ·show(if n<=r then _ else _)=_
   split
   ·exact t.gc r o v j
   ·exact j
  ·show(if n<=r then _ else _)=_
   split
   ·obtain⟨c,J⟩:=t.gm r I j
    rw[J]
   ·exact j
theorem Zqu{n:Nat} {g:GH} {w:World} {σ:Pl} {h:Hp Y} {B B':Nat} (J:Inv E B σ h g w):Inv E B' σ0 hp0 (allG g n w) w:=by
  refine⟨λr o v t=>?_,λr es t=>?_,(λb x I=>by cases I),λb b' r z z' R=>jv rfl R,(λb r z hs=>by cases hs),(λb x r z o v I=>by cases I),(λb x r z I=>by cases I),λm sv hm=>?_⟩
  ·have t:(if n<=r then w.cell? ⟨r,o,aD⟩ else g.cell r o)=ah v:=t
   split at t
   ·exact t
   ·exact J.gc r o v t
  ·have t:(if n<=r then(match w.heap[r]? with | some (.map es _)=>ah es | _=>aD) else g.obj r)=ah es:=t
   split at t
   ·split at t
    ·rename_i es' c hc
     cases t;exact⟨c,hc⟩
    ·cases t
   ·exact J.gm r es t
  ·intro j s hj
   obtain⟨v,R,a0⟩:=J.glob m sv hm j s hj;have U:=Zit (n:=n) J;exact⟨v,U.c _ _ _ R,a0.mono (.refl _) U⟩
theorem Zqv(t:EngOk E) {B n:Nat} {σ:Pl} {h:Hp Y} {g:GH} {w:World} (a0:Inv E B σ h g w) (hn:n<=B) {v v':SV Y} {u:Value} (U:ret0 E h v v') (hd:Den E σ g v u):Den E σ0 (allG g n w) v' u:=by
 have a3:=Zit (n:=n) a0;unfold ret0 at U;split at U
 ·rename_i th' l' b off len w' c
  obtain⟨lit,l,rd,hk,hc⟩:=Zbs t U;have hk:l=l':=hk;subst hk;obtain⟨base,cc,us,C⟩:=hc h σ g w B u (λ_ _=>rfl) a0 hd;obtain⟨r,z,c1,e1,a5,_⟩:=Vm hd;have e2:=C.v;rw[e1] at e2;injection e2 with e3 e4 e5
  rw[e1,e4,e5];have a6:=t.pos th';have a1:∀q x,l[q]? =ah x->∀j,j<E.w th'->∃y,us[q*E.w th'+j]? =ah y:=by
   intro q x J j I;have a4:q<l.length:=(ar.1 J).1;have:(q+1)*E.w th'<=l.length*E.w th':=bH _ a4;rw[cK] at this;exact⟨_,aq (by rw[C.len];omega)⟩
  refine .psl (λq j=>us.getD (q*E.w th'+j) undef) C.le C.mx (by simp) (λe=>C.nil (e3▸e)) (λhp=>⟨r,off*w',rfl,?_⟩) ?_
  ·intro q x J j I
   rw[t.enc] at I;obtain⟨y,R⟩:=a1 q x J j I;have:=C.cell r (off*w') e3.symm _ y R;show(if n<=r then _ else _)=_;rw[jh (bY hn (a0.base b r z a5).1),aI,R,dE];exact this
  ·intro q x J j sv I
   have a2:j<E.w th':=by rw[<-t.enc th' x];exact(ar.1 I).1
   obtain⟨y,R⟩:=a1 q x J j a2;rw[aI,R];have:=C.den (q*E.w th'+j) sv y (by rw[Y3 t th' l q x J j a2];exact I) R;exact(Xt t (i:=0) (σ':=σ0) this (λb p hb=>by omega) (Yl (t.encI _ _ _) I)).mono (.refl _) a3
 ·exact(Zid t (σ':=σ0) (λb c hc=>by cases hc) U hd).mono (.refl _) a3
theorem Zqw{h:Hp Y}:∀{cs I:List (SV Y)},retL E h cs I->cs.length=I.length/\∀(j:Nat) t,I[j]? =ah t->∃sv,cs[j]? =ah sv/\ret0 E h sv t
 | [],[],_=>⟨rfl,λj sv h=>by simp at h⟩
 |x::r,x'::r',a0=>by
  obtain⟨R,U⟩:=a0
  obtain⟨k1,k2⟩:=Zqw U
  refine⟨by simp[k1],λj t J=> ?_⟩
  cases j with
  |zero=>simp at J;subst J;exact⟨x,rfl,R⟩
  |succ j=>exact k2 j t (by simpa using J)
 | [],_::_,h=>h.elim
 |_::_,[],h=>h.elim
theorem Zqx(J:EngOk E) {B n:Nat} {σ:Pl} {h:Hp Y} {g:GH} {w:World} (R:Inv E B σ h g w) (a0:n<=B) {v v':SV Y} {u:Value} (I:ret1 E h v v') (t:Den E σ g v u):Den E σ0 (allG g n w) v' u:=by
 unfold ret1 at I;split at I
 ·obtain⟨arr,c,rfl,hs,hc,t⟩:=Yo t
  obtain⟨e,hg⟩:=Zqw I;refine .agg c (by omega) (λj U=>hc j (by omega)) λj sv U=> ?_;obtain⟨sv0,h1,h2⟩:=hg j sv U;exact Zqv J R a0 h2 (t j sv0 h1)
 ·exact Zqv J R a0 I t
theorem Zk9{h:Hp Y}:∀{cs I:List (SV Y)},Z8c E h cs I->cs.length=I.length/\∀(j:Nat) t,I[j]? =ah t->∃sv,cs[j]? =ah sv/\ret1 E h sv t
 | [],[],_=>⟨rfl,λj sv h=>by simp at h⟩
 |x::r,x'::r',a0=>by
  obtain⟨R,U⟩:=a0
  obtain⟨k1,k2⟩:=Zk9 U
  refine⟨by simp[k1],λj t J=> ?_⟩
  cases j with
  |zero=>simp at J;subst J;exact⟨x,rfl,R⟩
  |succ j=>exact k2 j t (by simpa using J)
 | [],_::_,h=>h.elim
 |_::_,[],h=>h.elim
theorem Zyc(J:EngOk E) {B n:Nat} {σ:Pl} {h:Hp Y} {g:GH} {w:World} (R:Inv E B σ h g w) (a0:n<=B) {v v':SV Y} {u:Value} (t:ret E h v v') (I:Den E σ g v u):Den E σ0 (allG g n w) v' u:=by
 unfold ret at t;split at t
 ·exact t.elim
 unfold ret' at t;split at t
 ·obtain⟨arr,c,rfl,hs,hc,I⟩:=Zmj I
  obtain⟨e,hg⟩:=Zk9 t;refine .tup c (by omega) (λj U=>hc j (by omega)) λj sv U=> ?_;obtain⟨sv0,h1,h2⟩:=hg j sv U;exact Zqx J R a0 h2 (I j sv0 h1)
 ·exact Zqx J R a0 t I
theorem Za(hE:EngOk E) {call:Nat->List (SV Y)->Hp Y->Nat->(Res Y->Prop)->Prop} (a1:Zcf E call) {f:Nat} {args:List (SV Y)} {v:SV Y} (hk:call f args hp0 0 λr=>ret E (patch hp0 0 r) r.v v):PureC E f args v:=by
  obtain⟨r,hr,hR,a0⟩:=a1 f args hp0 0 _ (λb J=>jv rfl J) hk;have a0:=a0.ret hr;intro g w vals hI hd;refine(a0 w.heap.size σ0 g w vals hp0 (λ_ _=>rfl) hI (aE _) (λ_ _ _=>rfl) hd).mono ?_;rintro en w' ⟨u,he,σ',R,I,U,j⟩;have hm:∀ b,b ∉ r.mods:=λb J=>hR b J rfl;have a2:=Zit (n:=w.heap.size) U;have a3:Inv E w.heap.size σ' (patch hp0 0 r) R w':=U;refine⟨u,he,allG R w.heap.size w',⟨.refl _,λb p h=>.inl h,I.gle.trans a2,λq o v j=>?_,λq es j=>?_,λq hq _=>I.heap q hq (λb J=>jv J (hm b)),I.size,I.os,I.tape,I.output,(λb q z t h2=>by cases h2)⟩,Zqu U,?_⟩
  ·have j:(if w.heap.size<=q then w'.cell? ⟨q,o,aD⟩ else R.cell q o)=ah v:=j
   split at j
   ·exact .inr (.inl ‹_›)
   ·rcases I.gcnew q o v j with t | t | ⟨b,t,_⟩
    ·exact .inl t
    ·exact .inr (.inl t)
    ·exact jv t (hm b)
  ·have j:(if w.heap.size<=q then(match w'.heap[q]? with | some (.map es _)=>ah es | _=>aD) else R.obj q)=ah es:=j
   split at j
   ·exact .inr ‹_›
   ·rcases I.gmnew q es j with t | t
    ·exact .inl t
    ·exact .inr t
  ·exact Zyc hE U (aE _) hr j
end
end
section
open Go.RowKit
inductive Tr(α:Type) where
 |nil
 |leaf (n:Nat) (a:α)
 |node (k:Nat) (l r:Tr α)
noncomputable def Tr.get{α:Type} (t:Tr α) (n:Nat):Option α:=
 Tr.rec (motive:=λ_=>Option α) aD (λm a=> @jw (λ_=>Option α) aD (ah a) (bf n m)) (λk _ _ j I=> @jw (λ_=>Option α) j I (cn k n)) t
def Tr.All{α:Type} (p:Nat->α->Prop):Tr α->Prop
 | .nil=>True
 | .leaf n a=>p n a
 | .node _ l r=>l.All p/\r.All p
theorem Tr.get_all{α:Type} {p:Nat->α->Prop}:∀{t:Tr α} {n:Nat} {a:α},t.All p->t.get n=ah a->p n a
 | .nil,n,a,_,h=>by cases h
 | .leaf m b,n,a,I,h=>by
  have h:(@jw (λ_=>Option α) aD (ah b) (bf n m))=ah a:=h
  cases j:bf n m with
  |true=>rw[j] at h;cases h;rw[aG j];exact I
  |false=>rw[j] at h;cases h
 | .node k l r,n,a,I,h=>by
  have h:(@jw (λ_=>Option α) (l.get n) (r.get n) (cn k n))=ah a:=h
  cases j:cn k n with
  |true=>rw[j] at h;exact Tr.get_all I.2 h
  |false=>rw[j] at h;exact Tr.get_all I.1 h
def TyOk(P:Program) (t:Nat) (i:TyI):Prop:=P.underlying t=ah i.d/\(P.info? t).map (λj=>(j.size,j.bytes,j.zero))=ah (i.size,i.bytes,ah i.zero)
theorem TyOk.ty{P:Program} {t:Nat} {i:TyI} (h:TyOk P t i):P.underlying t=ah i.d/\∃info,P.info? t=ah info/\info.size=i.size/\info.bytes=i.bytes/\info.zero=ah i.zero:=by
 obtain⟨I,J⟩:=h;obtain⟨info,R,j⟩:=ck.1 J;simp only[fb] at j;exact⟨I,info,R,j.1,j.2.1,j.2.2⟩
def FnOk(P:Program) (f:Nat) (fn:Func):Prop:=P.funcs[f]? =ah fn/\fn.body.isSome=af/\(fn.name== "runtime.NumGoroutine")=ae
theorem FnOk.good{P:Program} {f:Nat} {fn:Func} (h:FnOk P f fn):FnGood P f:=⟨fn,h.1,h.2.1,h.2.2⟩
section
variable {Y:Thy} {E:Eng Y}
structure SumOk(E:Eng Y) (f:Nat) (S:Sum Y):Prop where
 good:FnGood E.P f
 ok:∀args h i k,DomLt h i->S args h i k->∃r,k r/\ROk h r/\CallTri2 E f args h i r
end
end
section
open Go.RowKit
def Ext(w j:World):Prop:=Below w.heap.size w j
theorem Ext.refl(w:World):Ext w w:=Below.refl _ _
theorem Ext.size{w j:World} (h:Ext w j):w.heap.size<=j.heap.size:=Below.size h
theorem Ext.trans{a b c:World} (h:Ext a b) (k:Ext b c):Ext a c:=Below.trans h (Below.mono k (Below.size h))
theorem Ext.alloc{a w:World} (h:Ext a w) (o:Obj):Ext a (w.alloc o):=Below.alloc h (Below.size h) o
theorem Ext.cell{w t:World} (h:Ext w t) {p:Addr} {v:Value} (j:w.cell? p=ah v):t.cell? p=ah v:=
 (Below.cell h (block_lt_of_cell j)).trans j
theorem Ext.block{w j:World} (h:Ext w j) {k:Nat} (t:k<w.heap.size):j.heap[k]? =w.heap[k]? :=Below.block h k t
theorem Zej{k:IntKind} {a b:Int} (h:a=b):ij (.int k a)= .returned (.int k b):=by rw[h]
theorem Zd5{a b:Bool} (h:a=b):ij (.bool a)= .returned (.bool b):=by rw[h]
theorem Zq{k j:IntKind} {a b c d:Int} (h:a=b) (t:c=d):ij (.tuple #[.int k a,.int j c])= .returned (.tuple #[.int k b,.int j d]):=by rw[h,t]
end
section
open Go.RowKit
section
variable {Y:Thy} {E:Eng Y}
structure Dc(E:Eng Y) (α:Type) where
 dec:SV Y->Option α
 enc:α->SV Y
 ok:∀v a,dec v=ah a->nid 0 v=af/\leaf v=leaf (enc a)/\∀σ g u,Den E σ g v u->Den E σ g (enc a) u
structure DcL(E:Eng Y) (α:Type) where
 dec:List (SV Y)->Option α
 enc:α->List (SV Y)
 ok:∀vs a,dec vs=ah a->nidL 0 vs=af/\vs.length=(enc a).length/\∀σ g (j:Nat) sv',(enc a)[j]? =ah sv'->∃sv,vs[j]? =ah sv/\∀u,Den E σ g sv u->Den E σ g sv' u
def DcL.nil:DcL E Unit where
 dec vs:=match vs with| []=>ah ()|_=>aD
 enc _:= []
 ok vs a h:=by
  split at h
  ·exact⟨rfl,rfl,λσ g j I t=>by simp at t⟩
  ·cases h
def DcL.cons{α I:Type} (d:Dc E α) (r:DcL E I):DcL E (α×I) where
 dec vs:=match vs with|x::xs=>(match d.dec x with|some a=>(match r.dec xs with|some b=>ah (a,b)|none=>aD)|none=>aD)| []=>aD
 enc a:=d.enc a.1::r.enc a.2
 ok vs a h:=by
  split at h
  ·rename_i x xs
   split at h
   ·rename_i a1 J
    split at h
    ·rename_i b1 R
     cases h
     obtain⟨U,k2,a0⟩:=d.ok _ _ J
     obtain⟨l1,l2,l3⟩:=r.ok _ _ R
     refine⟨by simp[nidL,U,l1],by simp[l2],λσ g j a2 t=> ?_⟩
     cases j with
     |zero=>simp at t;subst t;exact⟨x,rfl,a0 σ g⟩
     |succ j=>exact l3 σ g j a2 (by simpa using t)
    ·cases h
   ·cases h
  ·cases h
def dInt(k:IntKind):Dc E Int where
 dec v:=match v with| .int _ t n=>(match decide (t=k) with|true=>ah n|false=>aD)|_=>aD
 enc n:= .int ae k n
 ok v a h:=by
  split at h
  ·split at h
   ·rename_i e
    cases h
    obtain rfl:=iK e
    exact⟨rfl,rfl,λσ g u j=>by cases j;exact .int _ _ _⟩
   ·cases h
  ·cases h
def Z3g{j th:Y.Th} (l:List (Y.dom j)):Option (List (Y.dom th)):=
 match Y.eq j th with
 |isTrue e=>Eq.rec (motive:=λt _=>Option (List (Y.dom t))) (ah l) e
 |isFalse _=>aD
theorem Zq5{t th:Y.Th} {l:List (Y.dom t)} {j:List (Y.dom th)} (h:Z3g l=ah j):∃e:t=th,j=e▸l:=by
 unfold Z3g at h;split at h
 ·rename_i e _
  subst e;exact⟨rfl,(aU h).symm⟩
 ·cases h
def Zlr(th:Y.Th):Dc E (List (Y.dom th)) where
 dec v:=match v with| .psl a0 l _=>Z3g l| .val (.slice aD 0 0)=>ah []|_=>aD
 enc l:= .psl th l ae
 ok v a h:=by
  split at h
  ·obtain⟨e,rfl⟩:=Zq5 h
   subst e
   refine⟨rfl,rfl,λσ g u j=> ?_⟩
   obtain⟨base,c,t,rfl,I,J,h3,R,U,h6⟩:=Vx j
   exact .psl t I J (by simp) R U h6
  ·cases h
   refine⟨rfl,rfl,λσ g u j=> ?_⟩
   cases j
   exact .psl (l:= []) (λ_ _=>undef) (aE _) (by unfold maxLen;omega) (by simp) (λ_=>rfl) (by simp) (by simp)
  ·cases h
def dAgg{α:Type} (r:DcL E α):Dc E α where
 dec v:=match v with| .agg cs=>r.dec cs|_=>aD
 enc a:= .agg (r.enc a)
 ok v a h:=by
  split at h
  ·obtain⟨a0,k2,k3⟩:=r.ok _ _ h
   refine⟨by simpa[nid] using a0,rfl,λσ g u t=> ?_⟩
   obtain⟨arr,c,rfl,hs,U,t⟩:=Yo t
   refine .agg c (by omega) (λj I=>U j (by omega)) λj a1 I=> ?_
   obtain⟨sv,J,R⟩:=k3 σ g j a1 I
   exact R _ (t j sv J)
  ·cases h
def Dc.map{α j:Type} (r:Dc E α) (f:α->j) (e:j->α) (I:∀a,e (f a)=a):Dc E j where
 dec v:=match r.dec v with|some a=>ah (f a)|none=>aD
 enc b:=r.enc (e b)
 ok v b h:=by
  split at h
  ·rename_i a t
   cases h
   rw[I]
   exact r.ok _ _ t
  ·cases h
def sumP{α:Type} (d:DcL E α) (pre:α->Prop) (f:α->SV Y):Sum Y:=λargs _ _ k=>match d.dec args with|some x=>pre x/\k (quiet [] (f x))|none=>False
theorem PureC.of_dec{α:Type} {d:DcL E α} {f:FuncId} {args:List (SV Y)} {x:α} {v:SV Y} (hd:d.dec args=ah x) (h:PureC E f (d.enc x) v):PureC E f args v:=by
 obtain⟨k1,k2,k3⟩:=d.ok _ _ hd;intro g w vals a0 t;refine h g w vals a0 ⟨k2.symm.trans t.1,λj a1 u I J=> ?_⟩;obtain⟨sv,R,U⟩:=k3 σ0 g j a1 I;exact U u (t.2 j sv u R J)
theorem Yc(I:EngOk E) {α:Type} {f:Nat} (J:FnGood E.P f) {d:DcL E α} {pre:α->Prop} {v:α->SV Y} (R:∀x,pre x->PureC E f (d.enc x) (v x)):SumOk E f (sumP d pre v):=by
 refine⟨J,λargs h i k hD j=> ?_⟩;unfold sumP at j;split at j
 ·rename_i x t
  obtain⟨U,j⟩:=j;exact⟨_,j,(PureC.of_dec t (R x U)).tri2 I (d.ok _ _ t).1 h i⟩
 ·exact j.elim
def addS(F:Fns Y) (f:Nat) (S:Sum Y):Fns Y:={sums:=λg=>match bf g f with|true=>ah S|false=>F.sums g,fns:=F.fns,loops:=F.loops,defs:=F.defs}
def addL(F:Fns Y) (f j:Nat) (A:Fr Y->Hp Y->Nat->Ann Y) (E:Eng Y):Fns Y:={sums:=F.sums,fns:=F.fns,loops:=λg k=>match bf g f&&bf k j with|true=>ah (Zwl E A)|false=>F.loops g k,defs:=F.defs}
theorem Zc{F:Fns Y} (j:FnsOk E F) {f:Nat} {S:Sum Y} (t:SumOk E f S):FnsOk E (addS F f S):=by
 have key:∀g S',(addS F f S).sums g=ah S'->(g=f/\S'=S)\/F.sums g=ah S':=by
  intro g S' h;have h:(match bf g f with|true=>ah S|false=>F.sums g)=ah S':=h;split at h
  ·rename_i e
   cases h;exact .inl ⟨aG e,rfl⟩
  ·exact .inr h
 refine⟨λg S' h=> ?_,j.fnG,λg S' h=> ?_,j.fn,j.loop⟩
 ·rcases key g S' h with⟨rfl,rfl⟩|h
  ·exact t.good
  ·exact j.sumG g S' h
 ·rcases key g S' h with⟨rfl,rfl⟩|h
  ·exact t.ok
  ·exact j.sum g S' h
theorem Zn(I:EngOk E) {F:Fns Y} (t:FnsOk E F) (f j:Nat) (A:Fr Y->Hp Y->Nat->Ann Y):FnsOk E (addL F f j A E):=by
 refine⟨t.sumG,t.fnG,t.sum,t.fn,λg k L h=> ?_⟩;have h:(match bf g f&&bf k j with|true=>ah (Zwl E A)|false=>F.loops g k)=ah L:=h;split at h
 ·cases h
  exact Zp8 I A
 ·exact t.loop g k L h
theorem Zb(j:EngOk E) {F:Fns Y} (t:FnsOk E F) (n:Nat):Zcf E (Zk E F (vc E F n)):=Ws j t λf N c=>(Zjv j t n f N c).1
structure JR(P:(Bool->Prop)->Prop) (e:Bool):Prop where
 ok:∀Q:Bool->Prop,Q e->P Q
theorem Zjd(b:Bool):JR (λQ=>Q b) b:=⟨λQ h=>h⟩
theorem Zq6{a I J:Bool} {j t:(Bool->Prop)->Prop} (R:a=af->JR j I) (U:a=ae->JR t J):JR (λQ=>(a=af->j Q)/\(a=ae->t Q)) (bif a then I else J):=by
 refine⟨λQ h=> ?_⟩;cases a
 ·exact⟨λe=>by simp at e,λ_=>(U rfl).ok Q h⟩
 ·exact⟨λ_=>(R rfl).ok Q h,λe=>by simp at e⟩
theorem Zq7{P:(Bool->Prop)->Prop} {e:Bool} {t j:Prop} (I:JR P e) (J:e=af->t) (R:e=ae->j):∃Q:Bool->Prop,P Q/\(Q af->t)/\(Q ae->j):=
 ⟨λb=>e=b,I.ok _ rfl,J,R⟩
theorem Zz{a b:Bool}:(bif a then af else b)=(a||b):=by cases a<;>rfl
theorem Zs{a b:Bool}:(bif a then b else ae)=(a&&b):=by cases a<;>rfl
theorem Ys{a b:Bool}:(bif a then ae else b)=(!a&&b):=by cases a<;>rfl
theorem Yt{a:Bool}:(bif a then af else ae)=a:=by cases a<;>rfl
theorem Yu{a:Bool}:(bif a then ae else af)= !a:=by cases a<;>rfl
theorem Zx(a b:Int):mm2 af a b=max a b:=by unfold mm2;simp only[];split<;>omega
theorem Z4(a b:Int):mm2 ae a b=min a b:=by unfold mm2;simp only[];split<;>omega
theorem wr64{n:Int} (j: -9223372036854775808<=n) (t:n<=9223372036854775807):wr .i64 n=n:=by simp only[wr,gO];omega
theorem Zft{f:FuncId} {args:List (SV Y)} {v:SV Y} (h:∀(g:GH) (w:World) (vals:Array Value),DenL E σ0 g args vals.toList->Calls E.P f vals w λen w'=>∃u,en= .returned u/\Den E σ0 g v u/\Ext w w'):PureC E f args v:=by
 intro g w vals t hd;refine(h g w vals hd).mono ?_;rintro en w' ⟨u,he,hv,j⟩;refine⟨u,he,g,⟨.refl _,λb p h=> .inl h,.refl _,λ_ _ _ h=> .inl h,λ_ _ h=> .inl h,λr J _=>j.block J,j.size,j.os,j.tape,j.output,λb r z U h2=>by cases h2⟩,?_,hv⟩;refine⟨λr o u R=>j.cell (t.gc r o u R),λr es R=> ?_,(λb x j=>by cases j),λb b' r z z' U=>jv rfl U,(λb r z hs=>by cases hs),(λb x r z o v j=>by cases j),(λb x r z j=>by cases j),t.glob⟩;obtain⟨c,I⟩:=t.gm r es R;have J:r<w.heap.size:=by
  rcases dC r w.heap.size with h|h
  ·exact h
  ·rw[Array.getElem?_eq_none h] at I;cases I
 exact⟨c,by rw[j.block J];exact I⟩
theorem Zy2{vals:Array Value} {l:List Value} (h:vals.toList=l):vals=l.toArray:=by rw[<-h]
theorem Zy3{σ:Pl} {g:GH} {k t:IntKind} {a b:Int} {f R:Bool} {vals:Array Value} (h:DenL E σ g [.int f k a,.int R t b] vals.toList):vals= #[.int k a,.int t b]:=by
 obtain⟨U,j⟩:=h;apply Zy2
 match hv:vals.toList,U,j with
 | [x,y],_,j=>
  have I:=j 0 _ x rfl rfl;have J:=j 1 _ y rfl rfl;cases I;cases J;rfl
theorem Zy4{σ:Pl} {g:GH} {k t I:IntKind} {a b c:Int} {f f' f2:Bool} {vals:Array Value} (h:DenL E σ g [.int f k a,.int f' t b,.int f2 I c] vals.toList):vals= #[.int k a,.int t b,.int I c]:=by
 obtain⟨h1,j⟩:=h;apply Zy2
 match hv:vals.toList,h1,j with
 | [x,y,z],_,j=>
  have J:=j 0 _ x rfl rfl;have R:=j 1 _ y rfl rfl;have U:=j 2 _ z rfl rfl;cases J;cases R;cases U;rfl
theorem Zq8{σ:Pl} {g:GH} {k I:IntKind} {a b:Int} {f J:Bool}:Den E σ g (.tup [.int f k a,.int J I b]) (.tuple #[.int k a,.int I b]):=by
 refine .tup (λj=> #[.int k a,.int I b].getD j undef) rfl (λj t=> ?_) (λj sv t=> ?_)
 ·match j,t with
  |0,_=>rfl
  |1,_=>rfl
 ·match j,t with
  |0,t=>simp at t;subst t;exact .int _ _ _
  |1,t=>simp at t;subst t;exact .int _ _ _
  |j+2,t=>simp at t
end
end
section
open Go.RowKit
section
variable {Y:Thy} {E E':Eng Y}
structure EngLike(E E':Eng Y):Prop where
 P:E.P=E'.P
 w:E.w=E'.w
 len:∀th x,(E.enc th x).length=(E'.enc th x).length
 enc:∀th x (j:Nat) sv',(E'.enc th x)[j]? =ah sv'->∃sv,(E.enc th x)[j]? =ah sv/\∀σ g v,Den E' σ g sv v->Den E' σ g sv' v
theorem Den.like(U:EngLike E E') {σ:Pl} {g:GH} {sv:SV Y} {v:Value} (h:Den E σ g sv v):Den E' σ g sv v:=by
 induction h with
 |unk v=>exact .unk v
 |val v=>exact .val v
 |int l k n=>exact .int l k n
 |bool l b=>exact .bool l b
 |str l h=>exact .str l h
 |ptr h=>exact .ptr h
 |eptr h=>exact .eptr h
 |pptr c t _ ih=>exact .pptr c (λj I=>t j (by rw[U.len];exact I)) λj a1 I=>let⟨sv,J,R⟩:=U.enc _ _ j a1 I;R _ _ _ (ih j sv J)
 |sl h hz a0 hm t=>exact .sl h hz a0 hm t
 |psl cv a0 hm hf hn hb _ ih=>
  refine .psl cv a0 hm hf hn (λhp=> ?_) λi x hx j a1 I=>let⟨sv,J,R⟩:=U.enc _ _ j a1 I;R _ _ _ (ih i x hx j sv J)
  obtain⟨r,o,e,h⟩:=hb hp;exact⟨r,o,e,λi x hx j I=>by rw[<-U.w];exact h i x hx j (by rw[U.len];exact I)⟩
 |agg c hs t _ ih=>exact .agg c hs t ih
 |tup c hs t _ ih=>exact .tup c hs t ih
 |fn ca cb a4 a2 _ a5 a3 _ a6 a7=>exact .fn ca cb a4 a2 a6 a5 a3 a7
 |map h=>exact .map h
 |pmap c q ho hq hn J R _ ih=>exact .pmap c q ho hq hn J R ih
 |iface _ ih=>exact .iface ih
theorem Z25(R:EngLike E E') (U:∀n sv,E'.glob n=ah sv->E.glob n=ah sv) {B B':Nat} {g:GH} {w:World} (h:Inv E B σ0 hp0 g w):Inv E' B' σ0 hp0 g w:=by
 refine⟨h.gc,h.gm,(λb x t=>by cases t),λb b' r z z' I=>jv rfl I,(λb r z hs=>by cases hs),(λb x r z o v t=>by cases t),(λb x r z t=>by cases t),λn sv hn j s a0=> ?_⟩;obtain⟨v,I,J⟩:=h.glob n sv (U n sv hn) j s a0;exact⟨v,I,J.like R⟩
theorem PureC.like(I:EngLike E E') (a0:EngLike E' E) (a2:∀n sv,E.glob n=ah sv->E'.glob n=ah sv) {f:FuncId} {args:List (SV Y)} {v:SV Y} (h:PureC E f args v):PureC E' f args v:=by
 intro g w vals hI hd;have:=h g w vals (Z25 a0 a2 hI) ⟨hd.1,λj sv u R U=>(hd.2 j sv u R U).like a0⟩;rw[I.P] at this;refine this.mono ?_;rintro en w' ⟨u,he,g',J,a1,hv⟩;refine⟨u,he,g',J,⟨a1.gc,a1.gm,(λb x t=>by cases t),λb b' r z z' I=>jv rfl I,(λb r z hs=>by cases hs),(λb x r z o v t=>by cases t),(λb x r z t=>by cases t),λn sv hn j s hj=> ?_⟩,hv.like I⟩;obtain⟨v,R,U⟩:=hI.glob n sv hn j s hj;exact⟨v,J.gle.c _ _ _ R,U.mono (.refl _) J.gle⟩
theorem Vs(E:Eng Y) (J:Nat->Option (SV Y)):EngLike E {E with glob:=J}/\EngLike {E with glob:=J} E:=
 ⟨⟨rfl,rfl,λ_ _=>rfl,λth x j I t=>⟨I,t,λ_ _ _ h=>h⟩⟩,⟨rfl,rfl,λ_ _=>rfl,λth x j I t=>⟨I,t,λ_ _ _ h=>h⟩⟩⟩
theorem EngOk.glob(h:EngOk E) (t:Nat->Option (SV Y)):EngOk {E with glob:=t} where
 ty:=h.ty
 enc:=h.enc
 pos:=h.pos
 dec th cs x hd:=by
  obtain⟨a,b⟩:=h.dec th cs x hd
  exact⟨a,λσ g j sv U v I J R=>(b σ g j sv U v I J (R.like (Vs E t).2)).like (Vs E t).1⟩
 leaf:=h.leaf
 thOf:=h.thOf
 encI:=h.encI
 mix:=h.mix
 ext:=h.ext
 eqs:=h.eqs
 arr:=h.arr
end
end
section
open Go.RowKit
section
variable {Y:Thy} {E:Eng Y}
noncomputable def sumF(E:Eng Y) (gth:List (SV Y)->Option Y.Th) (n:Nat) {α:Type} (d:DcL E α) (pre:α->Prop) (f:α->SV Y):Sum Y:=λargs h _ k=>
 frzL (frzK E gth h n) args λj bs=>match d.dec j with|some x=>pre x/\k ⟨f x,0,bs,λb=>frzB (h b),ah bs⟩|none=>False
theorem Zf7(hE:EngOk E) {gth:List (SV Y)->Option Y.Th} {n:Nat} {α:Type} {f:Nat} (hg:FnGood E.P f) {d:DcL E α} {pre:α->Prop} {v:α->SV Y} (hp:∀x,pre x->PureC E f (d.enc x) (v x)):SumOk E f (sumF E gth n d pre v):=by
 refine⟨hg,λargs h i k hD hk=> ?_⟩;obtain⟨b0,bs,hk,o⟩:=Zc4 (Zxv hE n) hk;split at hk
 case h_2=>exact hk.elim
 rename_i x hx;obtain⟨b7,hk⟩:=hk;have b8:=PureC.of_dec hx (hp x b7);refine⟨_,hk,λb hb=> ?_,.inl ?_⟩
 ·obtain⟨y,I,_⟩:=o.blk b hb
  rw[I];simp
 intro B σ g w vals a0 a1 R hB _ hd;have a1:∀b∈bs,a0 b=h b:=a1;have a8:=Zc5 (bs:=bs) R;have b4:DenL E σ0 (frzG E a0 σ bs g w) b0 vals.toList:=by
  refine⟨o.len.trans hd.1,λj b9 u t J=> ?_⟩;have a6:j<args.length:=by rw[<-o.len];exact(ar.1 t).1
  exact o.den a0 σ g w B _ a1 R a8 Zk3 j _ b9 u (aq a6) t (hd.2 j _ u (aq a6) J)
 refine(b8 _ w vals (Zqq R) b4).mono ?_;rintro en w' ⟨u,he,g',hS,a3,hv⟩;have a5:∀r,r<w.heap.size->w'.heap[r]? =w.heap[r]? :=λr hr=>hS.heap r hr (by simp);have a7:g.le g':=a8.trans hS.gle;have a9:∀r o v,r<w.heap.size->g'.cell r o=ah v->(∃b∈bs,∃z x,σ b=ah (r,z)/\a0 b=ah x/\o<(x.cells E).length)\/g.cell r o=ah v:=by
  intro r o v hr hv;rcases hS.gcnew r o v hv with t|t|⟨b,t,_⟩
  ·rcases Zb9 t with J|J
   ·exact .inl J.2
   ·exact .inr J
  ·omega
  ·simp at t
 refine⟨u,he,σ,g',⟨.refl _,λb p h=> .inl h,a7,λr o v hv=> ?_,hS.gmnew,λr hr _=>a5 r hr,hS.size,hS.os,hS.tape,hS.output,λb r z t J=>by rw[t] at J;cases J⟩,?_,hv.mono (λb p h=>by cases h) (.refl _)⟩
 ·rcases dC r w.heap.size with hr|hr
  ·rcases a9 r o v hr hv with⟨b,hb,z,x,t,_⟩|t
   ·exact .inr (.inr ⟨b,hb,z,t⟩)
   ·exact .inl t
  ·exact .inr (.inl hr)
 ·--memory c0
  have b6:∀b,patch a0 i ⟨v x,0,bs,λb=>frzB (h b),ah bs⟩ b=match memB b bs with|true=>frzB (h b)|false=>a0 b:=by
   intro b;have e:(cn i b&&aZ b (i+0))=false:=by
    rw[Nat.add_zero];cases t:cn i b with
    |false=>rfl
    |true=>
     rw[bx] at t;cases J:aZ b i with
     |false=>rfl
     |true=>rw[fJ] at J;omega
   show(match memB b bs||(cn i b&&aZ b (i+0)) with|true=>frzB (h b)|false=>a0 b)=_;rw[e,ks]
  have a2:∀b y,patch a0 i ⟨v x,0,bs,λb=>frzB (h b),ah bs⟩ b=ah y->∃U,a0 b=ah U/\(∀σ g w r z,BlkOk E σ g w r z U->BlkOk E σ g w r z y)/\U.fzc E<=y.fzc E/\(b∈bs->(U.cells E).length<=y.fzc E):=by
   intro b y I;rw[b6] at I;cases hm:memB b bs with
   |true=>
    rw[hm] at I;have a4:=memB_iff.1 hm;obtain⟨U,t,J⟩:=o.blk b a4;have I:frzB (h b)=ah y:=I;rw[t] at I;obtain⟨y',k1,k2,k3,k4,k5⟩:=Zfe hE J;rw[k1] at I;cases I;exact⟨U,(a1 b a4).trans t,k5,k3,λ_=>k4⟩
   |false=>
    rw[hm] at I;exact⟨y,I,λ_ _ _ _ _ h=>h,aE _,λhb=>by rw[memB_iff.2 hb] at hm;cases hm⟩
  have ne:∀b,patch a0 i ⟨v x,0,bs,λb=>frzB (h b),ah bs⟩ b≠aD->a0 b≠none:=by
   intro b hb;obtain⟨y,I⟩:=bt.1 hb;obtain⟨U,t,_⟩:=a2 b y I;rw[t];simp
  refine⟨a3.gc,a3.gm,λb y I=> ?_,λb b' r z z' t J=>R.inj b b' r z z' (ne b t) (ne b' J),λb r z hs=>⟨(R.base b r z hs).1,cC (R.base b r z hs).2 hS.size⟩,λb y r z o v I hs hv=> ?_,λb y r z I hs=> ?_,a3.glob⟩
  ·obtain⟨U,t,J,_⟩:=a2 b y I
   obtain⟨r,z,h3,h4⟩:=R.blk b U t;exact⟨r,z,h3,J _ _ _ _ _ (h4.mono (.refl _) a7 (a5 r (R.base b r z h3).2))⟩
  ·obtain⟨U,t,_,h3,h4⟩:=a2 b y I
   have hr:=(R.base b r z hs).2;rcases a9 r o v hr hv with⟨b',b3,z',x',k1,k2,k3⟩|k
   ·obtain rfl:=R.inj b b' r z z' (by rw[t];simp) (by rw[k2];simp) hs k1
    rw[t] at k2;cases k2;exact cC k3 (h4 b3)
   ·exact cC (R.fz b U r z o v t hs k) h3
  ·obtain⟨U,t,_⟩:=a2 b y I
   have hr:=(R.base b r z hs).2;cases b5:g'.obj r with
   |none=>rfl
   |some es=>
    rcases hS.gmnew r es b5 with k|k
    ·have k:g.obj r=ah es:=k
     rw[R.fm b U r z t hs] at k;cases k
    ·omega
end
end
section
open Go.RowKit
section
variable {Y:Thy} {E:Eng Y}
structure Ann2(Y:Thy) where
 X:Type
 fr:Bool->X->List (Nat×SV Y)
 bl:Bool->X->List (Nat×Blk Y)
 src:Bool->List (Nat×Nat)
 md:List Nat
 ih:Nat
 M:Nat
 meas:Bool->X->Nat
def Ann2.one(A:Ann2 Y):Ann Y:={X:=Bool×A.X,fr:=λx=>A.fr x.1 x.2,bl:=λx=>A.bl x.1 x.2,src:=λx=>A.src x.1,md:=A.md,ih:=A.ih,M:=A.M,meas:=λx=>A.meas x.1 x.2}
def Zpr(E:Eng Y) (A:Fr Y->Hp Y->Nat->Ann2 Y) (V:Zhl Y):Zhl Y:=λT h i ms K=>
 match(cn i (A T h i).ih&&cn (A T h i).ih (A T h i).M)&&mdOk i h (A T h i).md with
 |false=>False
 |true=>∃R:Bool->(A T h i).X->Prop,((∃x,R af x/\Zdy i h ((A T h i).bl af x)=af/\fits E (A T h i).one i T h (af,x))\/(∃x,R ae x/\Zdy i h ((A T h i).bl ae x)=af/\fits E (A T h i).one i T h (ae,x)))/\
  (∀x,R af x->V (frOf ((A T h i).fr af x)) (blOf ((A T h i).bl af x)) (A T h i).ih [] λe t I J U=>
   (match cn J (A T h i).M&&Xx i (A T h i).md U with
   |true=>(match e with
    | .normal=>(∃j,R af j/\(A T h i).meas af j<(A T h i).meas af x/\Zdy i h ((A T h i).bl af j)=af/\fits E (A T h i).one i t I (af,j))\/(∃j,R ae j/\(A T h i).meas ae j<(A T h i).meas af x/\Zdy i h ((A T h i).bl ae j)=af/\fits E (A T h i).one i t I (ae,j))
    |e=>K e t I (A T h i).M ((A T h i).md++ms))
   |false=>False))/\
  (∀x,R ae x->V (frOf ((A T h i).fr ae x)) (blOf ((A T h i).bl ae x)) (A T h i).ih [] λe t I J U=>
   (match cn J (A T h i).M&&Xx i (A T h i).md U with
   |true=>(match e with
    | .normal=>(∃j,R af j/\(A T h i).meas af j<(A T h i).meas ae x/\Zdy i h ((A T h i).bl af j)=af/\fits E (A T h i).one i t I (af,j))\/(∃j,R ae j/\(A T h i).meas ae j<(A T h i).meas ae x/\Zdy i h ((A T h i).bl ae j)=af/\fits E (A T h i).one i t I (ae,j))
    |e=>K e t I (A T h i).M ((A T h i).md++ms))
   |false=>False))
theorem Zvh(hE:EngOk E) (A:Fr Y->Hp Y->Nat->Ann2 Y):LoopOk E (Zpr E A):=by
 intro N c V hV T h i ms K hD J;refine Zp8 hE (λT h i=>(A T h i).one) N c (λT h i ms K=>DomLt h i->∃e T' h' U a2,K e T' h' U a2/\i<=U/\Dom h i h' U/\(∃m,a2=m++ms/\Yr h i U m)/\CodeTri E N c T h i e T' h' U a2) (λT h i ms K hD J=>J hD) T h i ms K hD ?_;unfold Zpr at J;unfold Zwl;split at J
 ·exact J.elim
 ·rename_i hc
  split
  ·rename_i a4
   exact jv (hc.symm.trans a4) (by simp)
  ·obtain⟨R,h0,h1,h2⟩:=J
   refine⟨λp=>R p.1 p.2,?_,?_⟩
   ·rcases h0 with⟨x,a,b,c⟩|⟨x,a,b,c⟩
    ·exact⟨(af,x),a,b,c⟩
    ·exact⟨(ae,x),a,b,c⟩
   ·rintro⟨s,x⟩ hR a3
    cases s
    ·obtain⟨e,T1,h3,a0,a1,j,rest⟩:=hV _ _ _ [] _ a3 (h2 x hR)
     refine⟨e,T1,h3,a0,a1,?_,rest⟩;cases t:(cn a0 (A T h i).M&&Xx i (A T h i).md a1) with
     |false=>rw[t] at j;exact j.elim
     |true=>
      rw[t] at j;simp only[Ann2.one,t];cases e
      case normal=>
       rcases j with⟨I,a,b⟩|⟨I,a,b⟩
       ·exact⟨(af,I),a,b⟩
       ·exact⟨(ae,I),a,b⟩
      all_goals exact j
    ·obtain⟨e,T1,h3,a0,a1,j,rest⟩:=hV _ _ _ [] _ a3 (h1 x hR)
     refine⟨e,T1,h3,a0,a1,?_,rest⟩;cases t:(cn a0 (A T h i).M&&Xx i (A T h i).md a1) with
     |false=>rw[t] at j;exact j.elim
     |true=>
      rw[t] at j;simp only[Ann2.one,t];cases e
      case normal=>
       rcases j with⟨I,a,b⟩|⟨I,a,b⟩
       ·exact⟨(af,I),a,b⟩
       ·exact⟨(ae,I),a,b⟩
      all_goals exact j
def Z52(F:Fns Y) (f j:Nat) (A:Fr Y->Hp Y->Nat->Ann2 Y) (E:Eng Y):Fns Y:={sums:=F.sums,fns:=F.fns,loops:=λg k=>match bf g f&&bf k j with|true=>ah (Zpr E A)|false=>F.loops g k,defs:=F.defs}
theorem Zps(I:EngOk E) {F:Fns Y} (t:FnsOk E F) (f j:Nat) (A:Fr Y->Hp Y->Nat->Ann2 Y):FnsOk E (Z52 F f j A E):=by
 refine⟨t.sumG,t.fnG,t.sum,t.fn,λg k L h=> ?_⟩;have h:(match bf g f&&bf k j with|true=>ah (Zpr E A)|false=>F.loops g k)=ah L:=h;split at h
 ·cases h
  exact Zvh I A
 ·exact t.loop g k L h
end
end
section
open Go.RowKit
section
variable {Y:Thy} {E:Eng Y}
def appR(E:Eng Y) (th:Y.Th) (b i len t:Nat) (l j:List (Y.dom th)):Res Y:=⟨.sl i 0 (len+j.length) (E.w th) aD,1,[b],at1 i (ah (.rows th (l.take len++j) t)),ah [b]⟩
def AppC(E:Eng Y) (f:Nat) (th:Y.Th) (by':Nat) (args:List (SV Y)) (t:List (Y.dom th)):Prop:=
 ∀(l:List (Y.dom th)) (len j b:Nat) (h:Hp Y) (i:Nat),h b=ah (.rows th l j)->len<=l.length->j<=len->(len+t.length)*by'<=140737488355328->Ziy E f (.sl b 0 len (E.w th) aD::args) h i (appR E th b i len j l t)
def hp1(th:Y.Th) (l:List (Y.dom th)) (j:Nat):Hp Y:=λb=>match bf b 0 with|true=>ah (.rows th l j)|false=>aD
def appK(E:Eng Y) (th:Y.Th) (l:List (Y.dom th)) (len t:Nat) (j:List (Y.dom th)) (r:Res Y):Prop:=
 match r.v with
 | .sl c 0 n w aD=>
  (match cn 1 c&&bf w (E.w th),r.h c with
  |true,ah (.rows J L I)=>Zbj L λL=>L=l.take len++j/\n=len+j.length/\I=t
  |_,_=>False)
 |_=>False
theorem nb{a b:Nat} (h:bf a b=ae):a≠b:=by
 intro e;subst e;have:bf a a=true:=hZ a;rw[h] at this;cases this
theorem Zdg(hE:EngOk E) {call:Nat->List (SV Y)->Hp Y->Nat->(Res Y->Prop)->Prop} (c7:Zcf E call) {f:Nat} {th:Y.Th} {by':Nat} {args:List (SV Y)} {l2:List (Y.dom th)} (ha:nidL 0 args=af)
 (hk:∀l len fz,len<=l.length->fz<=len->(len+l2.length)*by'<=140737488355328->call f (.sl 0 0 len (E.w th) aD::args) (hp1 th l fz) 1 (appK E th l len fz l2)):AppC E f th by' args l2:=by
 intro l len fz b h i hb d6 d4 c5
 have c9:DomLt (hp1 th l fz) 1:=by
  intro b hb
  cases b with
  |zero=>omega
  |succ b=>exact jv rfl hb
 obtain⟨r,hr,hR,htri⟩:=c7 f _ _ _ _ c9 (hk l len fz d6 d4 c5)
 have b4:∀b∈r.mods,b=0:=by
  intro b hb
  cases b with
  |zero=>rfl
  |succ b=>exact jv rfl (hR _ hb)
 obtain⟨v,n,c0,rh,rd⟩:=r
 unfold appK at hr
 split at hr
 case h_2=>exact hr.elim
 rename_i c n' w' hv
 have hv:v= .sl c 0 n' w' none:=hv
 subst hv
 replace htri:=htri.resolve_right (by rintro⟨p,hp,_⟩;cases hp)
 split at hr
 case h_2=>exact hr.elim
 rename_i a1 L a2 hc b9
 have b9:rh c=ah (.rows a1 L a2):=b9
 obtain⟨e,hr⟩:=Xr hr
 subst e
 obtain⟨rfl,rfl,rfl⟩:L=l.take len++l2/\n'=len+l2.length/\a2=fz:=hr
 rw[az,bx] at hc
 obtain⟨e5,hw⟩:=hc
 have hw:=aG hw
 subst hw
 intro B σ g W vals hh d8 hI hB d0 hd
 have b3:hh b=ah (.rows a1 l a2):=(d8 b (show b∈ [b] by simp)).trans hb
 obtain⟨r,z,a4,c6⟩:=hI.blk b _ b3
 have c3:Inv E B (λx=>match x with|0=>ah (r,z)|_=>aD) (hp1 a1 l a2) g W:=by
  refine⟨hI.gc,hI.gm,λx y I=> ?_,λx x' r z R t a0 _ _=> ?_,λx r' R J=> ?_,λx y r' R o v I J hv=> ?_,λx y r' R I J=> ?_,hI.glob⟩
  ·cases x with
   |succ x=>cases I
   |zero=>
    cases I
    refine⟨r,z,rfl,?_⟩
    obtain⟨arr,e,k1,k2,k3,k4,k5⟩:=c6
    refine⟨arr,e,k1,k2,k3,λj sv hj=> ?_,k5⟩
    obtain⟨v,m1,m2⟩:=k4 j sv hj
    have hn:nid 0 sv=true:=by
     obtain⟨q,p,x,rfl,hp,hq,J⟩:=Xo hE a1 _ hj
     exact Yl (hE.encI _ _ _) J
    exact⟨v,m1,Xt hE m2 (λb p hb=>by omega) hn⟩
  ·cases x with
   |succ x=>exact jv rfl t
   |zero=>cases x' with
    |zero=>rfl
    |succ x'=>exact jv rfl a0
  ·cases x with
   |zero=>cases J;exact hI.base b _ _ a4
   |succ x=>cases J
  ·cases x with
   |zero=>cases J;cases I;exact hI.fz b _ _ _ o v b3 a4 hv
   |succ x=>cases I
  ·cases x with
   |zero=>cases J;cases I;exact hI.fm b _ _ _ b3 a4
   |succ x=>cases I
 have c8:DenL E (λx=>match x with|0=>ah (r,z)|_=>aD) g (.sl 0 0 len (E.w a1) aD::args) vals.toList:=by
  refine⟨by rw[<-hd.1];rfl,λj sv u t a0=> ?_⟩
  cases j with
  |zero=>
   simp at t;subst t
   have:=hd.2 0 _ u rfl a0
   obtain⟨r',R,c',rfl,k1,k2,k3,k4,k5⟩:=Vm this
   rw[a4] at k1;cases k1
   exact .sl (E:=E) (b:=0) rfl k2 k3 k4 k5
  |succ j=>
   have t:args[j]? =ah sv:=by simpa using t
   exact Xt hE (hd.2 (j+1) sv u (by simpa using t) a0) (λb p hb=>by omega) (Yl ha t)
 refine(htri B _ g W vals _ (λ_ _=>rfl) c3 hB (λx t a0=>by cases x with|zero=>omega|succ x=>rfl) c8).mono ?_
 rintro en w' ⟨u,he,a3,g',U,a6,hv⟩
 have U:Stp 1 n c0 _ g W a3 g' w':=U
 obtain⟨r1,z1,c1,rfl,k1,k2,k3,k4,k5⟩:=Vm (show Den E a3 g' (.sl c 0 (len+l2.length) (E.w a1) aD) u from hv)
 have b6:1<=c/\c<1+n:=by
  rcases U.snew c _ k1 with t|t
  ·exfalso
   cases c with
   |zero=>omega
   |succ c=>cases t
  ·exact t
 have b7:patch (hp1 a1 l a2) 1 ⟨.sl c 0 (len+l2.length) (E.w a1) aD,n,c0,rh,rd⟩ c=ah (.rows a1 (l.take len++l2) a2):=by
  show(match memB c c0||(cn 1 c&&aZ c (1+n)) with|true=>rh c|false=>_)=_
  rw[show cn 1 c=af from bx.mpr b6.1,show aZ c (1+n)=af from(fJ).mpr b6.2,bZ,kD]
  exact b9
 have b8:W.heap.size<=r1\/r1=r:=by
  have hn:∀c,1<=c->(λx=>match x with|0=>ah (r,z)|_=>aD:Pl) c=none:=by
   intro c hc
   cases c with
   |zero=>omega
   |succ c=>rfl
  rcases U.blk c r1 z1 (hn c b6.1) k1 with t|⟨b',t,R,a0⟩
  ·exact .inl t
  ·obtain rfl:=b4 b' t
   cases a0
   exact .inr rfl
 have c2:∀q,q<W.heap.size->q≠r->w'.heap[q]? =W.heap[q]? :=by
  intro q hq b5
  refine U.heap q hq λb' c4 R e0=> ?_
  obtain rfl:=b4 b' c4
  cases e0
  exact b5 rfl
 have hi:σ i=none:=d0 i (aE _) (by show i<i+1;omega)
 have e4:b≠i:=by rintro rfl;rw[a4] at hi;cases hi
 refine⟨_,he,λx=>match bf x i with|true=>a3 c|false=>σ x,g',⟨λx p I=> ?_,λx p I=> ?_,U.gle,λq o v hv=> ?_,U.gmnew,λq hq b5=> ?_,U.size,U.os,U.tape,U.output,λx q R I a7=> ?_⟩,?_,?_⟩
 ·show(match bf x i with|true=>a3 c|false=>σ x)=ah p
  split
  ·rename_i e
   rw[aG e,hi] at I;cases I
  ·exact I
 ·have I:(match bf x i with|true=>a3 c|false=>σ x)=ah p:=I
  split at I
  ·rename_i e
   have:=aG e
   exact .inr (by show i<=x/\x<i+1;omega)
  ·exact .inl I
 ·rcases U.gcnew q o v hv with t|t|⟨b',t,R,a0⟩
  ·exact .inl t
  ·exact .inr (.inl t)
  ·obtain rfl:=b4 b' t
   cases a0
   exact .inr (.inr ⟨b,by show b∈ [b];simp,_,a4⟩)
 ·exact c2 q hq λe=>b5 b (by show b∈ [b];simp) z (by rw[a4,e])
 ·have a7:(match bf x i with|true=>a3 c|false=>σ x)=ah (q,R):=a7
  split at a7
  ·rw[k1] at a7;cases a7
   rcases b8 with t|rfl
   ·exact .inl t
   ·exact .inr ⟨b,by show b∈ [b];simp,z,a4⟩
  ·rw[I] at a7;cases a7
 ·have d7:∀x,patch hh i (appR E a1 b i len a2 l l2) x=match bf x i with|true=>ah (.rows a1 (l.take len++l2) a2)|false=>(match bf x b with|true=>aD|false=>hh x):=by
   intro x
   show(match memB x [b]||(cn i x&&aZ x (i+1)) with|true=>at1 i (ah (.rows a1 (l.take len++l2) a2)) x|false=>hh x)=_
   cases e:bf x i with
   |true=>
    obtain rfl:=aG e
    rw[show cn x x=af from bx.mpr (aE _),show aZ x (x+1)=af from(fJ).mpr (by omega),bZ,kD]
    unfold at1
    rw[e]
   |false=>
    have b5:x≠i:=nb e
    have e2:(cn i x&&aZ x (i+1))=false:=by
     cases t:cn i x with
     |false=>rfl
     |true=>
      rw[bx] at t
      cases a0:aZ x (i+1) with
      |false=>rfl
      |true=>rw[fJ] at a0;omega
    rw[e2,ks]
    unfold memB memB
    cases e3:bf x b with
    |true=>unfold at1;rw[e]
    |false=>rfl
  have b0:∀x y,patch hh i (appR E a1 b i len a2 l l2) x=ah y->(x=i/\y= .rows a1 (l.take len++l2) a2)\/(x≠i/\x≠b/\hh x=ah y):=by
   intro x y hy
   rw[d7] at hy
   split at hy
   ·rename_i e
    cases hy
    exact .inl ⟨aG e,rfl⟩
   ·rename_i e
    split at hy
    ·cases hy
    ·rename_i e2
     exact .inr ⟨nb e,nb e2,hy⟩
  have a8:(match bf i i with|true=>a3 c|false=>σ i)=ah (r1,z1):=by rw[hZ];exact k1
  have a5:∀x,x≠i->(match bf x i with|true=>a3 c|false=>σ x)=σ x:=by
   intro x I
   cases e:bf x i with
   |true=>exact jv (aG e) I
   |false=>rfl
  have a9:∀x y q R,x≠b->hh x=ah y->σ x=ah (q,R)->q<W.heap.size/\q≠r:=by
   intro x y q R I hy J
   refine⟨(hI.base x q R J).2,?_⟩
   rintro rfl
   exact I (hI.inj x b _ _ _ (by rw[hy];simp) (by rw[b3];simp) J a4)
  refine⟨a6.gc,a6.gm,λx y I=> ?_,λx x' q e6 e7 t a0 h3 h4=> ?_,λx q R J=> ?_,λx y q R o v I J hv=> ?_,λx y q R I J=> ?_,a6.glob⟩
  ·rcases b0 x y I with⟨rfl,rfl⟩|⟨e1,e2,e3⟩
   ·refine⟨r1,z1,a8,?_⟩
    obtain⟨r2,z2,m1,m2⟩:=a6.blk c _ b7
    rw[k1] at m1;cases m1
    obtain⟨arr,e,m1,m3,m4,m5,m6⟩:=m2
    refine⟨arr,e,m1,m3,m4,λj sv hj=> ?_,m6⟩
    obtain⟨v,n1,n2⟩:=m5 j sv hj
    have hn:nid 0 sv=true:=by
     obtain⟨q,p,x,rfl,hp,hq,J⟩:=Xo hE a1 _ hj
     exact Yl (hE.encI _ _ _) J
    exact⟨v,n1,Xt hE n2 (λb p hb=>by omega) hn⟩
   ·obtain⟨q,R,m1,m2⟩:=hI.blk x y e3
    obtain⟨m3,m4⟩:=a9 x y q R e2 e3 m1
    refine⟨q,R,(a5 x e1).trans m1,?_⟩
    refine m2.mono (λx p I=> ?_) U.gle (c2 q m3 m4)
    show(match bf x i with|true=>a3 c|false=>σ x)=ah p
    rw[a5 x (λe=>by rw[e,hi] at I;cases I)]
    exact I
  ·obtain⟨y,hy⟩:=bt.1 t
   obtain⟨y',d9⟩:=bt.1 a0
   rcases b0 x y hy with⟨rfl,rfl⟩|⟨e1,e2,e3⟩<;>rcases b0 x' y' d9 with⟨rfl,rfl⟩|⟨d1,d2,d3⟩
   ·rfl
   ·rw[a8] at h3;cases h3
    rw[a5 x' d1] at h4
    obtain⟨m3,m4⟩:=a9 x' y' _ _ d2 d3 h4
    rcases b8 with h|h
    ·omega
    ·exact jv h m4
   ·rw[a8] at h4;cases h4
    rw[a5 x e1] at h3
    obtain⟨m3,m4⟩:=a9 x y _ _ e2 e3 h3
    rcases b8 with h|h
    ·omega
    ·exact jv h m4
   ·rw[a5 x e1] at h3
    rw[a5 x' d1] at h4
    exact hI.inj x x' q _ _ (by rw[e3];simp) (by rw[d3];simp) h3 h4
  ·by_cases e:x=i
   ·subst e
    rw[a8] at J;cases J
    exact a6.base c _ _ k1
   ·rw[a5 x e] at J
    exact⟨(hI.base x q R J).1,cC (hI.base x q R J).2 U.size⟩
  ·rcases b0 x y I with⟨rfl,rfl⟩|⟨e1,e2,e3⟩
   ·rw[a8] at J;cases J
    exact a6.fz c _ _ _ o v b7 k1 hv
   ·rw[a5 x e1] at J
    obtain⟨m3,m4⟩:=a9 x y q R e2 e3 J
    rcases U.gcnew q o v hv with t|t|⟨b',t,z2,a0⟩
    ·exact hI.fz x y q R o v e3 J t
    ·omega
    ·obtain rfl:=b4 b' t
     cases a0
     exact jv rfl m4
  ·rcases b0 x y I with⟨rfl,rfl⟩|⟨e1,e2,e3⟩
   ·rw[a8] at J;cases J
    exact a6.fm c _ _ _ b7 k1
   ·rw[a5 x e1] at J
    obtain⟨m3,m4⟩:=a9 x y q R e2 e3 J
    cases d5:g'.obj q with
    |none=>rfl
    |some es=>
     rcases U.gmnew q es d5 with k|k
     ·rw[hI.fm x y q R e3 J] at k;cases k
     ·omega
 ·refine .sl (E:=E) (b:=i) (z:=z1) ?_ k2 k3 k4 k5
  show(match bf i i with|true=>a3 c|false=>σ i)=_
  rw[hZ]
  exact k1
def sumA(E:Eng Y) (th:Y.Th) (by':Nat) {α:Type} (d:DcL E α) (pre:α->Prop) (f:α->List (Y.dom th)):Sum Y:=λargs h i k=>
 match args with
 | .sl b 0 len w aD::rest=>
  (match h b,d.dec rest,bf w (E.w th) with
  |some (.rows t l j),ah x,af=>Zbj l λl=>pre x/\(len<=l.length/\j<=len/\(len+(f x).length)*by'<=140737488355328)/\k (appR E th b i len j l (f x))
  |_,_,_=>False)
 |_=>False
theorem AppC.of_dec{α:Type} {d:DcL E α} {f:Nat} {th:Y.Th} {by':Nat} {args:List (SV Y)} {x:α} {l2:List (Y.dom th)} (hd:d.dec args=ah x) (h:AppC E f th by' (d.enc x) l2):AppC E f th by' args l2:=by
 obtain⟨k1,k2,k3⟩:=d.ok _ _ hd;intro l len U b hp i a0 h2 h3 h4 B σ g w vals hh a2 hI hB a1 t;refine h l len U b hp i a0 h2 h3 h4 B σ g w vals hh a2 hI hB a1 ⟨?_,λj R u I J=> ?_⟩
 ·rw[<-t.1,aT,aT,k2]
 ·cases j with
  |zero=>exact t.2 0 R u I J
  |succ j=>
   obtain⟨sv,h7,h8⟩:=k3 σ g j R (by simpa using I);exact h8 u (t.2 (j+1) sv u (by simpa using h7) J)
theorem Zms(hE:EngOk E) {th:Y.Th} {by':Nat} {α:Type} {f:Nat} (hg:FnGood E.P f) {d:DcL E α} {pre:α->Prop} {R:α->List (Y.dom th)} (hp:∀x,pre x->AppC E f th by' (d.enc x) (R x)):SumOk E f (sumA E th by' d pre R):=by
 refine⟨hg,λargs h i k hD j=> ?_⟩;unfold sumA at j;split at j
 ·rename_i b len w rest
  split at j
  ·rename_i a1 l fz x J hx I
   have I:=aG I;obtain⟨e,j⟩:=Xr j;subst e;subst I;obtain⟨a0,⟨h1,h2,h3⟩,j⟩:=j;refine⟨_,j,λU t=> ?_,.inl (AppC.of_dec hx (hp x a0) l len fz b h i J h1 h2 h3)⟩;have t:U∈ [b]:=t;rw[List.mem_singleton] at t;rw[t,J];simp
  ·exact j.elim
 ·exact j.elim
end
end
section
open Go.RowKit
section
variable {Y:Thy}
def gI(k:IntKind):SV Y->Option Int:=λv=>match v with| .int _ j n=>(match decide (j=k) with|true=>ah n|false=>aD)|_=>aD
def Zi6(th:Y.Th):SV Y->Option (List (Y.dom th)):=λv=>match v with| .psl j l _=>Z3g l| .val (.slice aD 0 0)=>ah []|_=>aD
variable {E:Eng Y} {σ:Pl} {g:GH} {c:SV Y} {v:Value}
theorem Zg{k:IntKind} {n:Int} {fl:Bool} (h:gI k c=ah n) (j:Den E σ g c v):Den E σ g (.int fl k n) v:=by
 unfold gI at h;split at h
 ·split at h
  ·rename_i e;cases h;obtain rfl:=iK e;cases j;exact .int _ _ _
  ·cases h
 ·cases h
theorem Zfl{th:Y.Th} {l:List (Y.dom th)} (h:Zi6 th c=ah l) (j:Den E σ g c v):Den E σ g (.psl th l ae) v:=by
 unfold Zi6 at h;split at h
 ·obtain⟨e,rfl⟩:=Zq5 h
  subst e;obtain⟨base,c,t,rfl,I,J,h3,R,U,h6⟩:=Vx j;exact .psl t I J (by simp) R U h6
 ·cases h
  cases j;exact .psl (l:= []) (λ_ _=>undef) (aE _) (by unfold maxLen;omega) (by simp) (λ_=>rfl) (by simp) (by simp)
 ·cases h
theorem Zh{k:IntKind} {n:Int} (h:gI k c=ah n):nid 0 c=true:=by
 unfold gI at h;split at h
 ·rfl
 ·cases h
theorem Zfm{th:Y.Th} {l:List (Y.dom th)} (h:Zi6 th c=ah l):nid 0 c=true:=by
 unfold Zi6 at h;split at h
 ·rfl
 ·rfl
 ·cases h
def dRow(t:EngOk E) (th:Y.Th) (a0:∀cs x,E.dec th cs=ah x->nidL 0 cs=af):Dc E (Y.dom th) where
 dec v:=match v with| .agg cs=>E.dec th cs|_=>aD
 enc x:= .agg (E.enc th x)
 ok v x h:=by
  split at h
  ·rename_i cs
   obtain⟨k1,k2⟩:=t.dec th _ x h
   refine⟨by simpa[nid] using a0 _ _ h,rfl,λσ g u J=> ?_⟩
   obtain⟨arr,c,rfl,hs,U,J⟩:=Yo J
   refine .agg c (by rw[t.enc];omega) (λj I=>U j (by rw[t.enc] at I;omega)) λj a1 I=> ?_
   have R:j<cs.length:=by rw[k1,<-t.enc th x];exact(ar.1 I).1
   exact k2 σ g j _ a1 _ (aq R) I (J j _ (aq R))
  ·cases h
def Zfn(kd:IntKind):List (SV Y)->Option (List Int)
 | []=>ah []
 | .int _ k n::r=>(match decide (k=kd),Zfn kd r with|true,ah l=>ah (n::l)|_,_=>aD)
 |_::_=>aD
theorem Zg9{kd:IntKind}:∀{cs:List (SV Y)} {l:List Int},Zfn kd cs=ah l->nidL 0 cs=af
 | [],l,h=>rfl
 |c::cs,l,h=>by
  unfold Zfn at h
  split at h
  ·rename_i j;cases j
  ·rename_i f k n r j
   cases j
   split at h
   ·rename_i J I t
    cases h
    simpa[nidL,nid] using Zg9 t
   ·cases h
  ·cases h
theorem Zha{kd:IntKind}:∀{cs:List (SV Y)} {l:List Int},Zfn kd cs=ah l->cs.length=l.length/\∀(j:Nat) sv n v,cs[j]? =ah sv->l[j]? =ah n->Den E σ g sv v->Den E σ g (.int ae kd n) v
 | [],l,h=>by cases h;exact⟨rfl,λj sv n v t=>by simp at t⟩
 |c::cs,l,h=>by
  unfold Zfn at h
  split at h
  ·rename_i J;cases J
  ·rename_i f k n r J
   cases J
   split at h
   ·rename_i l' R a0
    cases h
    have R:=iK R
    subst R
    obtain⟨k2,k3⟩:=Zha a0
    refine⟨by simp[k2],λj sv m v t I U=> ?_⟩
    cases j with
    |zero=>simp at t I;subst t;subst I;cases U;exact .int _ _ _
    |succ j=>exact k3 j sv m v (by simpa using t) (by simpa using I) U
   ·cases h
  ·cases h
def rowV(kd:IntKind) (l:List Int):SV Y:= .agg (l.map (SV.int ae kd))
def Z8k(E:Eng Y) (kd:IntKind):Dc E (List Int) where
 dec v:=match v with| .agg cs=>Zfn kd cs|_=>aD
 enc l:=rowV kd l
 ok v l h:=by
  split at h
  ·rename_i cs
   refine⟨by simpa[nid] using Zg9 h,rfl,λσ g u I=> ?_⟩
   obtain⟨U,k2⟩:=Zha (E:=E) (σ:=σ) (g:=g) h
   obtain⟨arr,c,rfl,hs,a0,I⟩:=Yo I
   refine .agg c (by rw[ka,<-U];exact hs) (λj t=>a0 j (by rw[ka] at t;omega)) λj a1 t=> ?_
   rw[cw] at t
   obtain⟨n,J,rfl⟩:=ck.1 t
   have R:j<cs.length:=by rw[U];exact(ar.1 J).1
   exact k2 j _ n _ (aq R) J (I j _ (aq R))
  ·cases h
end
def sumN{Y:Thy} {E:Eng Y} {α:Type} (d:DcL E α) (pre:α->Prop) (v:α->SV Y) (S:Sum Y):Sum Y:=λargs h i k=>
 match args with
 | .val (.slice aD 0 0)::rest=>(match d.dec rest with|some x=>pre x/\k (quiet [] (v x))|none=>False)
 |args=>S args h i k
theorem Zyi{Y:Thy} {E:Eng Y} (hE:EngOk E) {α:Type} {f:Nat} {d:DcL E α} {pre:α->Prop} {v:α->SV Y} {S:Sum Y} (U:SumOk E f S) (hp:∀x,pre x->PureC E f (.val (.slice aD 0 0)::d.enc x) (v x)):SumOk E f (sumN d pre v S):=by
 refine⟨U.good,λargs h i k hD t=> ?_⟩;unfold sumN at t;split at t
 ·rename_i rest
  split at t
  ·rename_i x hx
   obtain⟨a1,t⟩:=t;obtain⟨k1,k2,k3⟩:=d.ok _ _ hx;have a2:PureC E f (.val (.slice aD 0 0)::rest) (v x):=by
    intro g w vals hI I;refine hp x a1 g w vals hI ⟨by rw[<-I.1,aT,aT,k2],λj a0 u J R=> ?_⟩;cases j with
    |zero=>exact I.2 0 a0 u J R
    |succ j=>
     obtain⟨sv,h3,h4⟩:=k3 σ0 g j a0 (by simpa using J);exact h4 u (I.2 (j+1) sv u (by simpa using h3) R)
   exact⟨_,t,a2.tri2 hE (by simpa[nidL,nid] using k1) h i⟩
  ·exact t.elim
 ·exact U.ok args h i k hD t
section
variable {Y:Thy} {E:Eng Y}
theorem Uy{f:SV Y->(SV Y->List Nat->Prop)->Prop} (I:∀v k j,(∀a b,k a b->j a b)->f v k->f v j):∀{l:List (SV Y)} {k j:List (SV Y)->List Nat->Prop},(∀a b,k a b->j a b)->frzL f l k->frzL f l j
 | [],k,j,t,h=>t _ _ h
 |x::r,k,j,t,h=>I x _ _ (λa b J=>Uy I (λc d=>t _ _) J) h
theorem Zlb{v:SV Y} {k k':SV Y->List Nat->Prop} (j:∀a b,k a b->k' a b) (h:frzN v k):frzN v k':=by
 unfold frzN at*;split at h
 ·exact j _ _ h
 ·exact h.elim
theorem Zyj{gth : List (SV Y) → Option Y.Th} {I : Hp Y} : ∀ (n : Nat) (v : SV Y) (k k' : SV Y → List Nat → Prop), (∀ a b, k a b → k' a b) → frzK E gth I n v k → frzK E gth I n v k' := by
  intro n
  induction n with
  | zero => exactλv k k' j h => Zlb j h
  | succ n ih =>
    intro v k k' j h
    replace h : frzS E gth I (frzK E gth I n) v k := h
    show frzS E gth I (frzK E gth I n) v k';unfold frzS at *;split at h
    ·exact Uy ih (λa b => j _ _) h
    ·split at h
     ·split at h
      ·obtain⟨J, R⟩ := Zv h
       cases U : E.lit with
       | true => rw[U] at h; unfold need at *; simp only at *; split at h; · exact j _ _ h
                 ·exact h.elim
       | false => exact⟨J, j _ _ R⟩
      ·exact h.elim
     ·split at h
      ·split at h
       ·refine Uy ih (λa b t => ?_) h
        split at t
        ·exact j _ _ t
        ·exact t.elim
       ·exact h.elim
      ·exact h.elim
     ·exact h.elim
    ·split at h
     ·split at h
      ·refine Uy ih (λa b t => ?_) h
       split at t
       ·exact j _ _ t
       ·exact t.elim
      ·exact h.elim
     ·exact h.elim
    ·exact Zlb j h
noncomputable def Yh(E:Eng Y) (gth:List (SV Y)->Option Y.Th) (n:Nat) {α j:Type} (d:DcL E α) (pre:α->Prop) (f:α->j) (v:j->SV Y):Sum Y:=λargs h _ k=>
 frzL (frzK E gth h n) args λt bs=>match d.dec t with|some x=>pre x/\∀y,y=f x->k ⟨v y,0,bs,λb=>frzB (h b),ah bs⟩|none=>False
theorem Zl(U:EngOk E) {gth:List (SV Y)->Option Y.Th} {n:Nat} {α J:Type} {f:Nat} (hg:FnGood E.P f) {d:DcL E α} {pre:α->Prop} {fn:α->J} {v:J->SV Y} (hp:∀x,pre x->PureC E f (d.enc x) (v (fn x))):SumOk E f (Yh E gth n d pre fn v):=by
 have t:=Zf7 U (gth:=gth) (n:=n) hg (d:=d) (pre:=pre) (v:=λx=>v (fn x)) hp;refine⟨t.good,λargs h i k R I=>t.ok args h i k R ?_⟩;unfold Yh at I;unfold sumF;refine Uy (Zyj n) (λa b j=> ?_) I;split at j
 ·rename_i e
  simp only[e];exact⟨j.1,j.2 _ rfl⟩
 ·exact j.elim
def Ub{α j:Type} (d:DcL E α) (pre:α->Prop) (f:α->j) (v:j->SV Y):Sum Y:=λargs _ _ k=>match d.dec args with|some x=>pre x/\∀y,y=f x->k (quiet [] (v y))|none=>False
theorem Yn(R:EngOk E) {α I:Type} {f:Nat} (U:FnGood E.P f) {d:DcL E α} {pre:α->Prop} {fn:α->I} {v:I->SV Y} (hp:∀x,pre x->PureC E f (d.enc x) (v (fn x))):SumOk E f (Ub d pre fn v):=by
 have t:=Yc R U (d:=d) (pre:=pre) (v:=λx=>v (fn x)) hp;refine⟨t.good,λargs h i k J j=>t.ok args h i k J ?_⟩;unfold Ub at j;unfold sumP;split at j
 ·rename_i e
  simp only[e];exact⟨j.1,j.2 _ rfl⟩
 ·exact j.elim
end
section
variable {Y:Thy} {E:Eng Y}
open Classical in
end
structure LX where
 k:Nat
 r:Nat
 D:List Int
 m:Int
structure DX where
 k:Nat
 r:Nat
 D:List Int
 H:List Int
 n:Nat
 m:Nat
 fz:Nat
 j:Int
section
variable {Y:Thy}
def bOf:SV Y->Nat| .sl b _ _ _ _=>b| .ptr b _=>b| .map b=>b|_=>0
def fzOf(h:Hp Y) (v:SV Y):Nat:=match v with| .sl b _ _ _ _=>(match h b with|some (.rows _ _ j)=>j|_=>0)|_=>0
def blkS(h:Hp Y):SV Y->List (Nat×Blk Y)| .sl b _ _ _ _=>(match h b with|some x=> [(b,x)]|none=> [])|_=> []
def blkP(h:Hp Y):SV Y->List (Nat×Blk Y)
 | .ptr b _=>(match h b with|some x=> [(b,x)]|none=> [])
 |_=> []
def blkA(h:Hp Y) (v:SV Y) (i:Nat) (th:Y.Th) (D:List (Y.dom th)):List (Nat×Blk Y):=match v with| .sl b _ _ _ _=>(match h b with|some (.rows _ _ j)=> [(i,.rows th D j)]|_=> [])|_=> []
def blkZ(h:Hp Y) (v:SV Y) (j:Nat):List (Nat×Blk Y):=match v with| .sl b _ _ _ _=>(match h b with|some (.rows th l _)=> [(b,.rows th l j)]|_=> [])|_=> []
end
end
section
theorem Zhz{a b q:Int} (t:b*q<=a) (I:a<b*q+b):a/b=q:=by
 have j:0<b:=by omega
 exact((Int.ediv_emod_unique (r:=a-b*q) j).2 ⟨by omega,by omega,by omega⟩).1
theorem Zac{a b:Int} (j:a<=0):a.tdiv b= -((-a)/b):=by
 obtain⟨c,rfl⟩:∃c,a= -c:=⟨-a,by omega⟩;rw[ji,eM (by omega),iA]
theorem Zh0{a b:Int} (j:a<=0):a.tmod b= -((-a)%b):=by
 obtain⟨c,rfl⟩:∃c,a= -c:=⟨-a,by omega⟩;rw[jj,dU (by omega),iA]
theorem Zh1{a b:Int} (I:0<b) (h:a.tmod b<0):(a-b).tdiv b=a/b:=by
 have J:a<0:=by
  rcases fA a 0 with j|j
  ·exact j
  ·rw[dU j] at h
   have:=eB a (show b≠0 by omega);omega
 rw[Zh0 (by omega)] at h;rw[Zac (by omega)];have e:=eF (-a) b;have l:=gP (-a) I;have t:(-(a-b))/b=(-a)/b+1:=Zhz (by rw[fK];omega) (by rw[fK];omega);rw[t];exact(Zhz (by rw[gw,fK];omega) (by rw[gw,fK];omega)).symm
theorem Ze0{a b:Int} (t:0<b) (h:0<=a.tmod b):a.tdiv b=a/b:=by
 rcases fA a 0 with j|j
 ·rw[Zh0 (by omega)] at h
  rw[Zac (by omega)];have e:=eF (-a) b;have l:=eB (-a) (show b≠0 by omega);exact(Zhz (by rw[gw];omega) (by rw[gw];omega)).symm
 ·exact eM j
theorem Yb2{a b:Int} (j:0<b) (h:0<a.tmod b):(a+b).tdiv b= -((-a)/b):=by
 have:=Zh1 (a:= -a) j (by rw[jj];omega);rw[<-this,show-a-b= -(a+b) by omega,ji,iA]
theorem Yb3{a b:Int} (j:0<b) (h:a.tmod b<=0):a.tdiv b= -((-a)/b):=by
 have:=Ze0 (a:= -a) j (by rw[jj];omega);rw[<-this,ji,iA]
theorem Zpx{a b:Int} (I:0<b) (h:a<a.tdiv b*b):a.tdiv b-1=a/b:=by
 have e:=fc a b;have t:a.tmod b<0:=by rw[ia] at h;omega
 have:=Zh1 I t;have J:a<=0:=by
  rcases fA 0 a with j|j
  ·rw[dU (by omega)] at t
   have:=eB a (show b≠0 by omega);omega
  ·exact j
 rw[<-this,Zac (by omega),Zac (a:=a-b) (by omega)];have e:=eF (-a) b;have l:=gP (-a) I;have R:=eB (-a) (show b≠0 by omega);rw[show(-(a-b))/b=(-a)/b+1 from Zhz (by rw[fK];omega) (by rw[fK];omega)];omega
theorem Z1o{a b:Int} (j:0<b) (h:a.tdiv b*b<=a):a.tdiv b=a/b:=by
 have e:=fc a b;exact Ze0 j (by rw[ia] at h;omega)
theorem Zh2{a b:Int} (M:Int) (J:0<b) (t: -M<=a) (I:a<=M): -M<=a.tdiv b/\a.tdiv b<=M:=by
 rcases fA a 0 with j|j
 ·rw[Zac (by omega)]
  have:=iu b (show 0<= -a by omega);have:=fq (show 0<= -a by omega) (show 0<=b by omega);omega
 ·rw[eM j]
  have:=iu b j;have:=fq j (show 0<=b by omega);omega
theorem Zdh{a b:Int} (M:Int) (U:0<b) (J: -M<=a) (R:a<=M): -M<=a.tdiv b*b/\a.tdiv b*b<=M:=by
 have e:=fc a b;rw[ia];rcases fA a 0 with j|j
 ·rw[Zh0 (by omega)] at e
  have:=eB (-a) (show b≠0 by omega);have:=Zac (a:=a) (b:=b) (by omega);have I:=eF (-a) b;have t:=ku (show 0<=b by omega) (fq (show 0<= -a by omega) (show 0<=b by omega));rw[this,gw] at*;omega
 ·rw[dU j,eM j] at*
  have:=eB a (show b≠0 by omega);have t:=ku (show 0<=b by omega) (fq j (show 0<=b by omega));omega
theorem Zd8{a b:Int} (M:Int) (j:0<b) (J: -M<=a) (R:a<=M): -M-1<=a/b/\a/b<=M:=by
 have e:=eF a b;have a0:=eB a (show b≠0 by omega);have l2:=gP a j;rcases fA a 0 with I|I
 ·have t:=Zh2 M j J R
  by_cases U:a.tmod b<0
  ·rw[<-Zpx j (by have e:=fc a b;rw[ia];omega)];omega
  ·rw[<-Ze0 j (by omega)];omega
 ·have:=iu b I
  have:=fq I (show 0<=b by omega);omega
theorem Ze1(q:Int):((bW 64 q).toNat:Int)=q%18446744073709551616:=by
 rw[BitVec.toNat_ofInt];omega
theorem Z59(q:Int):bits .and .i64 q 1=q%2:=by
 have h:=Ze1 q;show ac.wrap ((bW 64 q&&&bW 64 1).toNat:Int)=_;have j:(bW 64 1).toNat=2^1-1:=by decide
 rw[gW,j,iv,gO];omega
theorem Z6a(q:Int) (a:Nat) (a0:a<63):(bits .and .i64 q (2^a:Nat)==0)=decide ((q/(2^a:Nat))%2=0):=by
 have h:=Ze1 q;have hp:2^a<2^63:=Nat.pow_lt_pow_right (by omega) a0;have R:(bW 64 ((2^a:Nat):Int)).toNat=2^a:=by
  rw[iX,jx];exact Nat.mod_eq_of_lt (by omega)
 have I:bits .and .i64 q (2^a:Nat)=ac.wrap (((bW 64 q).toNat&&&2^a:Nat):Int):=by
  show ac.wrap ((bW 64 q&&&bW 64 ((2^a:Nat):Int)).toNat:Int)=_;rw[gW,R]
 rw[I];generalize (bW 64 q).toNat=m at*;have hm:(m&&&2^a)=2^a*((m/2^a)%2):=by
  have I:m.testBit a=decide (m/2^a%2=1):=Nat.testBit_eq_decide_div_mod_eq;refine Nat.eq_of_testBit_eq λi=> ?_;rw[Nat.testBit_and,Nat.testBit_two_pow];rcases iO (m/2^a) with j|j
  ·rw[j] at I
   by_cases hi:a=i
   ·subst hi;simp[I,j]
   ·simp[hi,j]
  ·rw[j] at I
   by_cases hi:a=i
   ·subst hi;simp[I,j]
   ·simp[hi,j]
 have hq:(q/(2^a:Nat))%2=((m/2^a%2:Nat):Int):=by
  have hk:(18446744073709551616:Int)=(2^a:Nat)*(2*(2^(63-a):Nat)):=by
   have:(2^a*(2*2^(63-a)):Nat)=18446744073709551616:=by
    rw[<-Nat.pow_succ',<-Nat.pow_add];have:a+(63-a+1)=64:=by omega
    rw[this]
   have e:=jy (λn:Nat=>(n:Int)) this;simp only[iH] at e;exact e.symm
  have hd:q=m+18446744073709551616*(q/18446744073709551616):=by omega
  have a1:q/(2^a:Nat)=(m:Int)/(2^a:Nat)+2*((2^(63-a):Nat)*(q/18446744073709551616)):=by
   have J:((2^a:Nat):Int)≠0:=by have:=iP (n:=a) (show 0<2 by omega);omega
   have e:q=m+(2^a:Nat)*(2*((2^(63-a):Nat)*(q/18446744073709551616))):=by
    have U:(18446744073709551616:Int)*(q/18446744073709551616)=(2^a:Nat)*(2*(2^(63-a):Nat))*(q/18446744073709551616):=by rw[<-hk]
    rw[kE,kE] at U;omega
   generalize ((2^(63-a):Nat):Int)*(q/18446744073709551616)=t at*;rw[e,Int.add_mul_ediv_left _ _ J]
  rw[a1,<-Int.natCast_ediv];omega
 rw[hm,hq,gO];have J:=iP (n:=a) (show 0<2 by omega);generalize 2^a=t at*;rw[kb,gF,decide_eq_true_iff];rcases iO (m/t) with j|j<;>rw[j]
 ·simp
 ·simp only[Nat.mul_one];omega
def inR(x:Int):Bool:=decide (-9007199254740992<=x)&&decide (x<=9007199254740992)
theorem inR_iff{x:Int}:inR x=af↔-9007199254740992<=x/\x<=9007199254740992:=by simp[inR]
theorem inR_not{x:Int}:inR x=ae↔x< -9007199254740992\/9007199254740992<x:=by
 rw[<-bv,inR_iff];omega
def rngF(c:Int):Int×Int:=if inR c then(c,0) else(0,3)
def addF(a b:Int):Int×Int:=if inR a&&inR b then rngF (a+b) else(0,3)
def subF(a b:Int):Int×Int:=if inR a&&inR b then rngF (a-b) else(0,3)
def mulF(a b:Int):Int×Int:=if inR a&&inR b then rngF (a*b) else(0,3)
def divF(a b m:Int):Int×Int:=
 if m<8\/10<m then(0,1) else if !(inR a&&inR b) then(0,3) else if b<=0 then(0,70)
 else if m=8 then(a/b,0) else if m=9 then(-((-a)/b),0) else((2*a+b)/(2*b),0)
theorem Zv2(x y:Nat):x*y=(x%4294967296)*(y%4294967296)+4294967296*((x/4294967296)*(y%4294967296))+4294967296*((x%4294967296)*(y/4294967296))+18446744073709551616*((x/4294967296)*(y/4294967296)):=by
 have j:=km x 4294967296;have t:=km y 4294967296;generalize x/4294967296=I at*;generalize x%4294967296=x0 at*;generalize y/4294967296=R at*;generalize y%4294967296=J at*;subst j t
 grind
theorem Zv3(a:Nat) (j:a<18446744073709551616):bits .and .u64 (a:Int) 4294967295=((a%4294967296:Nat):Int):=by
 show aA.wrap ((bW 64 (a:Int)&&&bW 64 4294967295).toNat:Int)=_;have h:(bW 64 4294967295).toNat=2^32-1:=by decide
 rw[gW,h,iX,jx,iv,dj];omega
theorem Yb4(x0 t j I:Nat) (h0:x0<4294967296) (h1:t<=2097152) (h2:j<4294967296) (h3:I<=2097152):
 aA.wrap (aA.wrap (aA.wrap ((t:Int)*I)+aA.wrap (aA.wrap ((t:Int)*j)+aA.wrap ((x0:Int)*j)/4294967296)/4294967296)+
  aA.wrap (bits .and .u64 (aA.wrap (aA.wrap ((t:Int)*j)+aA.wrap ((x0:Int)*j)/4294967296)) 4294967295+aA.wrap ((x0:Int)*I))/4294967296)=
 (((x0*j+4294967296*(t*j)+4294967296*(x0*I)+18446744073709551616*(t*I))/18446744073709551616:Nat):Int):=by
 have a0:x0*j<=4294967295*4294967295:=gx (by omega) (by omega)
 have a2:t*j<=2097152*4294967295:=gx (by omega) (by omega)
 have a1:x0*I<=4294967295*2097152:=gx (by omega) (by omega)
 have a3:t*I<=2097152*2097152:=gx (by omega) (by omega)
 simp only[<-iH]
 generalize x0*j=J at*
 generalize t*j=R at*
 generalize x0*I=a4 at*
 generalize t*I=a5 at*
 have U:aA.wrap (aA.wrap (R:Int)+aA.wrap (J:Int)/4294967296)=((R+J/4294967296:Nat):Int):=by
  simp only[dj];omega
 rw[U,Zv3 _ (by omega)]
 simp only[dj]
 omega
theorem Yb5(x y:Nat):aA.wrap ((x:Int)*y)=((x*y%18446744073709551616:Nat):Int):=by
 simp only[dj,<-iH];omega
theorem Zpy{a b:Int} (j: -9007199254740992<=a) (t:a<=9007199254740992) (I: -9007199254740992<=b) (J:b<=9007199254740992):
 inR (a*b)=decide (a.natAbs*b.natAbs<=9007199254740992):=by
 rw[kb,inR_iff,decide_eq_true_iff,<-Int.natAbs_mul]
 omega
end
section
structure Ins where
 op:Int
 n:Int
 m:Int
 deriving DecidableEq
structure Env where
 has:Int
 v0:Int
 v1:Int
 v2:Int
 v3:Int
 v4:Int
 v5:Int
 v6:Int
 v7:Int
 v8:Int
 v9:Int
 v10:Int
 v11:Int
 v12:Int
 v13:Int
 v14:Int
 v15:Int
def Env.v(e:Env):List Int:= [e.v0,e.v1,e.v2,e.v3,e.v4,e.v5,e.v6,e.v7,e.v8,e.v9,e.v10,e.v11,e.v12,e.v13,e.v14,e.v15]
structure St where
 pc:Int
 fuel:Int
 status:Int
 clause:Int
 stack:List Int
def St.zero:St:=⟨0,0,0,0,[]⟩
def St.start(f:Int):St:=⟨0,f,0,0,[]⟩
def formedF(x:Ins):Bool:=
 if x.op=1\/x.op=13\/x.op=14\/x.op=15 then decide (0<=x.n/\x.n<=9007199254740992/\x.m=0)
 else if x.op=2 then decide (0<=x.n/\x.n<=15/\x.m=0)
 else if x.op=12 then decide (0<=x.n/\x.n<=9007199254740992/\0<=x.m/\x.m<=9007199254740992)
 else decide (3<=x.op/\x.op<=16/\x.n=0/\x.m=0)
def eff(op:Int):Int×Int:=
 if op=1\/op=2 then(0,1) else if op=12 then(1,1) else if op=13\/op=15 then(1,0) else if op=14\/op=16 then(0,0) else(2,1)
def Xi(op:Int):Int:=if op=12\/op=13\/op=15 then 1 else if 3<=op/\op<=11 then 2 else 0
def nextF(i:Int) (x:Ins):List Int:=if x.op=15\/x.op=16 then[] else if x.op=14 then[x.n] else if x.op=13 then[x.n,i+1] else[i+1]
def setF(len i after:Int):List Int->List Int->Option (List Int)
 | [],D=>ah D
 |n::r,D=>if n<=i\/len<=n\/(0<=D.getD n.toNat 0/\D.getD n.toNat 0≠after) then aD else setF len i after r (D.set n.toNat after)
def rndF(len:Int) (i:Nat) (x:Ins) (D:List Int) (m:Int):Option (List Int×Int):=
 if D.getD i 0<0 then ah (D,m)
 else if D.getD i 0<(eff x.op).1\/(x.op=15/\D.getD i 0≠1)\/(x.op=16/\D.getD i 0≠0) then aD
 else match setF len i (D.getD i 0-(eff x.op).1+(eff x.op).2) (nextF i x) D with
  |none=>aD
  |some j=>ah (j,max (max m (D.getD i 0)) (D.getD i 0-(eff x.op).1+(eff x.op).2))
def fromF(len:Int):List Ins->Nat->List Int->Int->Option (List Int×Int)
 | [],_,D,m=>ah (D,m)
 |x::r,i,D,m=>match rndF len i x D m with|none=>aD|some (j,t)=>fromF len r (i+1) j t
def endF:Option (List Int×Int)->Int×Int
 |none=>(0,200)
 |some (_,m)=>if 64<m then(0,2) else(m,0)
def deps(c:List Ins):List Int:=(List.replicate c.length (-1)).set 0 0
def verF(c:List Ins):Int×Int:=
 if 4096<c.length then(0,2)
 else if c.length=0\/c.all formedF=ae then(0,200)
 else endF (fromF c.length c 0 (deps c) 0)
def binF(op a b:Int):Int×Int:=
 if op=3 then addF a b else if op=4 then subF a b else if op=5 then mulF a b else if op=6 then(min a b,0) else if op=7 then(max a b,0)
 else if op=8 then divF a b 8 else if op=9 then divF a b 9 else if op=10 then divF a b 10 else(if a<b then 1 else 0,0)
def topF(l:List Int) (i:Nat):Int:=l.getD (l.length-1-i) 0
def St.pops(s:St) (n:Nat) (l:List Int):St:={s with stack:=s.stack.take (s.stack.length-n)++l,pc:=s.pc+1}
def Zi(x:Ins) (v:Env) (s:St) (below:Int):St×Int:=
 if(s.stack.length:Int)<Xi x.op then(s,200)
 else if x.op=1 then(if 64<=below+s.stack.length then(s,200) else(s.pops 0 [x.n],0))
 else if x.op=2 then
  (if 64<=below+s.stack.length then(s,200) else if(v.has/2^x.n.toNat)%2=0 then(s,181)
   else if v.v.getD x.n.toNat 0< -9007199254740992\/9007199254740992<v.v.getD x.n.toNat 0 then(s,3) else(s.pops 0 [v.v.getD x.n.toNat 0],0))
 else if x.op=12 then(s.pops 1 [if x.n<=topF s.stack 0/\topF s.stack 0<=x.m then 1 else 0],0)
 else if x.op=13 then({s.pops 1 [] with pc:=if topF s.stack 0=0 then x.n else s.pc+1},0)
 else if x.op=14 then({s with pc:=x.n},0)
 else if x.op=15 then({s with status:=1,clause:=x.n},0)
 else if x.op=16 then(s,180)
 else if(binF x.op (topF s.stack 1) (topF s.stack 0)).2≠0 then(s,(binF x.op (topF s.stack 1) (topF s.stack 0)).2)
 else(s.pops 2 [(binF x.op (topF s.stack 1) (topF s.stack 0)).1],0)
def advF(c:List Ins) (v:Env) (s:St) (below:Int):St:=
 if s.fuel=0 then{s with status:=220}
 else match c[s.pc.toNat]? with
  |none=>s
  |some x=>
   if(Zi x v {s with fuel:=s.fuel-1} below).2=0 then(Zi x v {s with fuel:=s.fuel-1} below).1
   else{s with fuel:=s.fuel-1,status:=10+(Zi x v {s with fuel:=s.fuel-1} below).2}
def Wy(c:List Ins) (s:St) (below:Int):Int:=
 if s.status≠0 then 211 else if(verF c).2≠0 then(verF c).2
 else if s.pc<0\/c.length<=s.pc\/s.fuel<0\/32768<s.fuel\/s.clause≠0\/below<0\/64<below\/64-below<s.stack.length then 1 else 0
def Uq(c:List Ins) (v:Env) (s:St):St×Int:=if Wy c s 0≠0 then(.zero,Wy c s 0) else(advF c v s 0,0)
def Zb8(fuel:Int):St×Int:=if fuel<0\/32768<fuel then(.zero,1) else((St.start (fuel)),0)
def itF(c:List Ins) (v:Env):Nat->St->St
 |0,s=>s
 |n+1,s=>if s.status=0 then itF c v n (advF c v s 0) else s
def Zw(s:St):Int×Int×Int:=
 if s.status=1/\0<s.stack.length then(s.stack.getD (s.stack.length-1) 0,s.clause,0) else if 10<s.status then(0,0,ac.wrap (s.status-10)) else(0,0,1)
def Zkq(a b:St):Bool:=decide (a.pc=b.pc/\a.fuel=b.fuel/\a.status=b.status/\a.clause=b.clause/\a.stack=b.stack)
structure Safe(c:List Ins) (D:List Int):Prop where
 len:D.length=c.length
 zero:D[0]? =ah 0
 short:c.length<=4096
 ne:0<c.length
 formed:∀(i:Nat) x,c[i]? =ah x->formedF x=af
 ok:∀(i:Nat) x d,c[i]? =ah x->D[i]? =ah d->0<=d->(eff x.op).1<=d/\(x.op=15->d=1)/\(x.op=16->d=0)/\d<=64/\d-(eff x.op).1+(eff x.op).2<=64/\
  ∀n∈nextF i x,(i:Int)<n/\n<c.length/\D[n.toNat]? =ah (d-(eff x.op).1+(eff x.op).2)
theorem Zkr{len i after:Int} (hi:0<=i) (a0:0<=after):∀{ns D t:List Int},(D.length:Int)=len->setF len i after ns D=ah t->
 t.length=D.length/\(∀n∈ns,i<n/\n<len/\t[n.toNat]? =ah after)/\(∀(j:Nat) d,D[j]? =ah d->0<=d->t[j]? =ah d)/\(∀(j:Nat),(j:Int)<=i->t[j]? =D[j]?)
 | [],D,t,_,h=>by
  simp only[setF,cF] at h
  subst h
  exact⟨rfl,by simp,λj d h _=>h,λj _=>rfl⟩
 |n::r,D,t,hD,h=>by
  simp only[setF] at h
  split at h
  ·cases h
  ·rename_i hc
   have h1:i<n:=by omega
   have h2:n<len:=by omega
   have U:¬(0<=D.getD n.toNat 0/\D.getD n.toNat 0≠after):=λJ=>hc (.inr (.inr J))
   have a1:n.toNat<D.length:=by omega
   obtain⟨k1,k2,k3,k4⟩:=Zkr hi a0 (by rw[List.length_set];exact hD) h
   have keep:(D.set n.toNat after)[n.toNat]? =ah after:=by simp[a1]
   refine⟨by simpa using k1,?_,?_,?_⟩
   ·intro q R
    rcases bE.1 R with rfl|R
    ·exact⟨h1,h2,k3 _ _ keep a0⟩
    ·exact k2 q R
   ·intro j d I hd
    refine k3 j d ?_ hd
    by_cases e:j=n.toNat
    ·subst e
     rw[keep]
     have hg:D.getD n.toNat 0=d:=by simp[aI,I]
     rw[hg] at U
     have:d=after:=Decidable.byContradiction λJ=>U ⟨hd,J⟩
     rw[this]
    ·rw[fi (hU e)];exact I
   ·intro j I
    rw[k4 j I,fi (by omega)]
theorem Zwp{len i after a b:Int} {D:List Int} (U:0<=after) (hi:0<=i) (R:(D.length:Int)=len):setF len i after [a,b] D=setF len i after [b,a] D:=by
 by_cases e:a.toNat=b.toNat
 ·simp only[setF]
  by_cases I:a<=i
  ·simp only[I,true_or,jP];split<;>rfl
  ·by_cases J:b<=i
   ·simp only[J,true_or,jP];split<;>rfl
   ·have:a=b:=by omega
    subst this;rfl
 ·have j:(D.set a.toNat after).getD b.toNat 0=D.getD b.toNat 0:=by simp[aI,fi e]
  have t:(D.set b.toNat after).getD a.toNat 0=D.getD a.toNat 0:=by simp[aI,fi (hU e)]
  simp only[setF,j,t];by_cases p:a<=i\/len<=a\/(0<=D.getD a.toNat 0/\D.getD a.toNat 0≠after)<;>by_cases q:b<=i\/len<=b\/(0<=D.getD b.toNat 0/\D.getD b.toNat 0≠after)
  ·rw[jh p,jh q]
  ·rw[jh p,jb q,jh p]
  ·rw[jb p,jh q,jh q]
  ·rw[jb p,jb q,jb q,jb p,List.set_comm _ _ e]
theorem Zwq(op:Int):0<=(eff op).1/\0<=(eff op).2:=by
 unfold eff
 repeat' split
 all_goals simp
structure SafeTo(c:List Ins) (D:List Int) (m:Int) (k:Nat):Prop where
 ok:∀(i:Nat) x d,i<k->c[i]? =ah x->D[i]? =ah d->0<=d->(eff x.op).1<=d/\(x.op=15->d=1)/\(x.op=16->d=0)/\d<=m/\d-(eff x.op).1+(eff x.op).2<=m/\
  ∀n∈nextF i x,(i:Int)<n/\n<c.length/\D[n.toNat]? =ah (d-(eff x.op).1+(eff x.op).2)
theorem Zg1{c:List Ins}:∀{r:List Ins} {k:Nat} {D I:List Int} {m R:Int},c.drop k=r->D.length=c.length->SafeTo c D m k->fromF c.length r k D m=ah (I,R)->
 I.length=c.length/\SafeTo c I R c.length/\m<=R/\(D[0]? =ah 0->I[0]? =ah 0)
 | [],k,D,I,m,R,U,hD,hs,h=>by
  simp only[fromF,cF,fb] at h
  obtain⟨rfl,rfl⟩:=h
  have hk:c.length<=k:=by simpa using U
  exact⟨hD,⟨λi x d hi=>hs.ok i x d (by omega)⟩,eu _,id⟩
 |x::r,k,D,I,m,R,U,hD,hs,h=>by
  have hx:c[k]? =ah x:=by
   have:=jy (·[0]?) U
   simpa using this
  have hk:k<c.length:=(ar.1 hx).1
  have a0:c.drop (k+1)=r:=by
   rw[<-List.tail_drop,U];rfl
  simp only[fromF] at h
  split at h
  ·cases h
  ·rename_i D1 m1 j
   have key:D1.length=c.length/\SafeTo c D1 m1 (k+1)/\m<=m1/\(D[0]? =ah 0->D1[0]? =ah 0):=by
    unfold rndF at j
    split at j
    ·rename_i hd
     simp only[cF,fb] at j
     obtain⟨rfl,rfl⟩:=j
     refine⟨hD,⟨λi y d hi J t h0=> ?_⟩,eu _,id⟩
     by_cases e:i=k
     ·subst e
      have:D.getD i 0=d:=by simp[aI,t]
      omega
     ·exact hs.ok i y d (by omega) J t h0
    ·split at j
     ·cases j
     ·rename_i hd a7
      split at j
      ·cases j
      ·rename_i D2 h2
       simp only[cF,fb] at j
       obtain⟨rfl,rfl⟩:=j
       have hp:=Zwq x.op
       have ha:0<=D.getD k 0-(eff x.op).1+(eff x.op).2:=by omega
       obtain⟨k1,k2,k3,k4⟩:=Zkr (by omega) ha (by omega) h2
       refine⟨by omega,⟨λi y d hi J t h0=> ?_⟩,by omega,λhz=>by rw[k4 0 (by omega)];exact hz⟩
       by_cases e:i=k
       ·subst e
        rw[hx] at J;cases J
        rw[k4 i (by omega)] at t
        have hg:D.getD i 0=d:=by simp[aI,t]
        subst hg
        refine⟨by omega,by omega,by omega,by omega,by omega,λn hn=>k2 n hn⟩
       ·rw[k4 i (by omega)] at t
        obtain⟨a1,a2,a3,a4,a5,a6⟩:=hs.ok i y d (by omega) J t h0
        have a8:=Zwq y.op
        refine⟨a1,a2,a3,by omega,by omega,λn hn=> ?_⟩
        obtain⟨b1,b2,b3⟩:=a6 n hn
        exact⟨b1,b2,k3 _ _ b3 (by omega)⟩
   obtain⟨q1,q2,q3,q4⟩:=key
   obtain⟨p1,p2,p3,p4⟩:=Zg1 a0 q1 q2 h
   exact⟨p1,p2,by omega,λhz=>p4 (q4 hz)⟩
theorem Wf{c:List Ins} (h:(verF c).2=0):∃D,Safe c D:=by
 unfold verF at h;split at h
 ·simp at h
 ·split at h
  ·simp at h
  ·rename_i h1 h2
   have t:0<c.length:=by omega
   have a0:c.all formedF=true:=by
    cases hh:c.all formedF
    ·exact jv (.inr hh) h2
    ·rfl
   unfold endF at h;split at h
   ·simp at h
   ·rename_i D m hf
    have hm:m<=64:=by
     split at h
     ·simp at h
     ·omega
    obtain⟨p1,p2,p3,p4⟩:=Zg1 (c:=c) (by simp) (by simp[deps]) ⟨λi x d hi=>by omega⟩ hf;refine⟨D,p1,p4 (by simp[deps,t]),by omega,t,?_,?_⟩
    ·intro i x j
     exact List.all_eq_true.1 a0 x (cp j)
    ·intro i x d j hd h0
     obtain⟨I,J,R,a4,a5,U⟩:=p2.ok i x d (ar.1 j).1 j hd h0;exact⟨I,J,R,by omega,by omega,U⟩
structure Good(c:List Ins) (D:List Int) (s:St):Prop where
 pc:0<=s.pc
 lt:s.pc<c.length
 dep:D[s.pc.toNat]? =ah (s.stack.length:Int)
 fuel:0<=s.fuel
 clause:s.clause=0
 status:s.status=0
theorem Good.small{c:List Ins} {D:List Int} {s:St} (j:Safe c D) (h:Good c D s):s.stack.length<=64:=by
 have t:s.pc.toNat<c.length:=by have:=h.lt;have:=h.pc;omega
 obtain⟨I,J,R,U,a5,a6⟩:=j.ok s.pc.toNat c[s.pc.toNat] _ (by simp[t]) h.dep (by omega);omega
theorem Zie(a:Int):(rngF a).2=0\/(rngF a).2=3:=by unfold rngF;split<;>simp
theorem Zp9(a b:Int):(addF a b).2=0\/(addF a b).2=3:=by unfold addF;split;exact Zie _;simp
theorem Zqa(a b:Int):(subF a b).2=0\/(subF a b).2=3:=by unfold subF;split;exact Zie _;simp
theorem Zqb(a b:Int):(mulF a b).2=0\/(mulF a b).2=3:=by unfold mulF;split;exact Zie _;simp
theorem Zae(a b m:Int):(divF a b m).2=0\/(divF a b m).2=1\/(divF a b m).2=3\/(divF a b m).2=70:=by
 unfold divF
 repeat' split
 all_goals simp
theorem Zqc(op a b:Int):(binF op a b).2=0\/(binF op a b).2=1\/(binF op a b).2=3\/(binF op a b).2=70:=by
 unfold binF;have j:=Zp9 a b;have t:=Zqa a b;have I:=Zqb a b;have J:=Zae a b 8;have R:=Zae a b 9;have U:=Zae a b 10
 repeat' split
 all_goals first|omega|simp
theorem Zg2(x:Ins) (v:Env) (s:St) (b f:Int):Zi x v {s with fuel:=f} b=({(Zi x v s b).1 with fuel:=f},(Zi x v s b).2):=by
 unfold Zi;dsimp only[St.pops]
 repeat' split
 all_goals simp_all
theorem Znd(x:Ins) (v:Env) (s:St) (b:Int):(Zi x v s b).1.fuel=s.fuel:=by
 have:=Zg2 x v s b s.fuel;have j:=jy (·.1.fuel) this;exact j
theorem Zwr{x:Ins} (h:formedF x=af):Xi x.op=(eff x.op).1:=by
 unfold formedF at h;unfold Xi eff
 repeat' split at h
 all_goals simp only[fw] at h
 all_goals repeat' split
 all_goals first|rfl|(simp only[];omega)|omega
theorem Zws{x:Ins} {v:Env} {s:St} (J:formedF x=af) (j:(eff x.op).1<=s.stack.length) (t:s.stack.length-(eff x.op).1+(eff x.op).2<=64) (I:s.status=0):
 ((Zi x v s 0).2=0->((Zi x v s 0).1.status=0/\(Zi x v s 0).1.pc∈nextF s.pc x/\((Zi x v s 0).1.stack.length:Int)=s.stack.length-(eff x.op).1+(eff x.op).2/\(Zi x v s 0).1.clause=s.clause)\/
  ((Zi x v s 0).1.status=1/\(Zi x v s 0).1.pc=s.pc))/\
 ((Zi x v s 0).2≠0->(Zi x v s 0).2=1\/(Zi x v s 0).2=3\/(Zi x v s 0).2=70\/(Zi x v s 0).2=180\/(Zi x v s 0).2=181):=by
 have hn:=Zwr J
 have hb:=Zqc x.op (topF s.stack 1) (topF s.stack 0)
 have a5:1<=x.op/\x.op<=16:=by
  unfold formedF at J
  repeat' split at J
  all_goals simp only[fw] at J
  all_goals omega
 unfold Zi
 rw[hn,jb (by omega)]
 unfold eff at j t⊢
 unfold nextF
 by_cases R:x.op=1
 ·simp only[R,true_or,jP,ite_true] at j t⊢
  rw[jb (by omega)]
  simp[St.pops,I];try omega
 by_cases e2:x.op=2
 ·simp only[e2,or_true,jP] at j t⊢
  simp only[show¬((2:Int)=1) by omega,jQ]
  rw[jb (by omega)]
  split
  ·simp
  ·split
   ·simp
   ·simp[St.pops,I];try omega
 by_cases U:x.op=12
 ·simp only[U] at j t⊢
  simp[St.pops,I] at j t⊢;try omega
 by_cases a0:x.op=13
 ·simp only[a0] at j t⊢
  by_cases hz:topF s.stack 0=0<;>simp[St.pops,I,hz] at j t⊢<;>omega
 by_cases a1:x.op=14
 ·simp only[a1] at j t⊢
  simp[I]
 by_cases a2:x.op=15
 ·simp only[a2] at j t⊢
  simp
 by_cases a3:x.op=16
 ·simp only[a3] at j t⊢
  simp
 simp only[R,e2,U,a0,a1,a2,a3,or_self,jQ] at j t⊢
 split
 ·rename_i a4
  refine⟨λh=>jv h a4,λ_=> ?_⟩
  simp only[] at a4⊢
  omega
 ·simp[St.pops,I];try omega
theorem Zif{c:List Ins} {D:List Int} {v:Env} {s:St} (hc:Safe c D) (h:Good c D s) (hf:0<s.fuel):
 ((advF c v s 0).status=0->Good c D (advF c v s 0)/\s.pc<(advF c v s 0).pc)/\(advF c v s 0).fuel=s.fuel-1/\
 ((advF c v s 0).status≠0->(advF c v s 0).pc=s.pc/\(advF c v s 0).status≠220)/\
 ∀d:Int,0<s.fuel+d->advF c v {s with fuel:=s.fuel+d} 0={advF c v s 0 with fuel:=s.fuel-1+d}:=by
 have hk:s.pc.toNat<c.length:=by have:=h.lt;have:=h.pc;omega
 obtain⟨x,U⟩:∃x,c[s.pc.toNat]? =ah x:=⟨c[s.pc.toNat],by simp[hk]⟩
 obtain⟨a1,a2,a3,a4,a5,a6⟩:=hc.ok s.pc.toNat _ _ U h.dep (by omega)
 have a0:=hc.formed _ _ U
 obtain⟨p1,p2⟩:=Zws (v:=v) a0 a1 a5 h.status
 have hF:=Znd x v s 0
 have J:∀d:Int,0<s.fuel+d->advF c v {s with fuel:=s.fuel+d} 0=
  if(Zi x v s 0).2=0 then{(Zi x v s 0).1 with fuel:=s.fuel-1+d} else{s with fuel:=s.fuel-1+d,status:=10+(Zi x v s 0).2}:=by
  intro d I
  have e:=Zg2 x v s 0 (s.fuel+d-1)
  unfold advF
  dsimp only
  rw[jb (by omega),U]
  dsimp only
  rw[e]
  dsimp only
  rw[show s.fuel+d-1=s.fuel-1+d by omega]
 have R:=J 0 (by omega)
 simp only[Int.add_zero] at R
 have R:advF c v s 0=if(Zi x v s 0).2=0 then{(Zi x v s 0).1 with fuel:=s.fuel-1} else{s with fuel:=s.fuel-1,status:=10+(Zi x v s 0).2}:=R
 rw[R]
 by_cases j:(Zi x v s 0).2=0
 ·rw[jh j]
  rcases p1 j with⟨q1,q2,q3,q4⟩|⟨q1,q2⟩
  ·rw[show((s.pc.toNat:Nat):Int)=s.pc by have:=h.pc;omega] at a6
   obtain⟨b1,b2,b3⟩:=a6 _ q2
   have hp:=h.pc
   refine⟨λ_=>⟨⟨?_,b2,?_,?_,?_,q1⟩,?_⟩,rfl,λt=>jv q1 t,λd I=> ?_⟩
   ·show 0<=(Zi x v s 0).1.pc;omega
   ·show D[_]? =_
    rw[b3];show _=ah ((Zi x v s 0).1.stack.length:Int);rw[q3]
   ·show 0<=s.fuel-1;omega
   ·show _=_;rw[q4];exact h.clause
   ·show s.pc<(Zi x v s 0).1.pc;omega
   ·rw[J d I,jh j]
  ·refine⟨λt=> ?_,rfl,λ_=>⟨q2,?_⟩,λd I=> ?_⟩
   ·have t:(Zi x v s 0).1.status=0:=t
    omega
   ·show(Zi x v s 0).1.status≠220
    omega
   ·rw[J d I,jh j]
 ·rw[jb j]
  refine⟨λt=> ?_,rfl,λ_=>⟨rfl,?_⟩,λd I=> ?_⟩
  ·have t:10+(Zi x v s 0).2=0:=t
   have:=p2 j;omega
  ·show 10+(Zi x v s 0).2≠220
   have:=p2 j;omega
  ·rw[J d I,jb j]
theorem Zg3{c:List Ins} {D:List Int} (j:Safe c D) {f:Int} (t:0<=f):Good c D (St.start (f)):=
 ⟨eu _,by have:=j.ne;show 0<_;omega,j.zero,t,rfl,rfl⟩
theorem Z10{c:List Ins} {v:Env} {s:St} (j:s.fuel=0):advF c v s 0={s with status:=220}:=by unfold advF;rw[jh j]
theorem Zc0{c:List Ins} {D:List Int} {s:St} (j:Safe c D) (hv:(verF c).2=0) (h:Good c D s) (hf:s.fuel<=32768):Wy c s 0=0:=by
 have t:=h.pc;have I:=h.lt;have J:=h.fuel;have R:=h.clause;have U:=h.small j;unfold Wy;rw[jb (by rw[h.status];omega),jb (by omega),jb (by omega)]
end
section
inductive Val where
 |mk (k n:Int) (b:List Int) (l:List Val)
def Val.k:Val->Int| .mk k _ _ _=>k
def Val.n:Val->Int| .mk _ n _ _=>n
def Val.b:Val->List Int| .mk _ _ b _=>b
def Val.l:Val->List Val| .mk _ _ _ l=>l
structure Opn where
 pc:Int
 fuel:Int
 status:Int
 clause:Int
 top:List Int
 depth:Int
 rest:List Int
end
end Go.Proofs.YtahcfmdfjjjmjaaGreatDoor
