/- Merged texts: EngZM, TpQ, TpPb, TpPc, TpR, TpPd, TpPe, TpPf, TpPg, TpS, TpT, TpW, TpX. -/
import Derived.Test.YtbepgmadijomjaaGreatDoorMd
namespace Go.Proofs.YtbepgmadijomjaaGreatDoor
set_option linter.unusedVariables false
set_option linter.unusedSimpArgs false
set_option linter.unnecessarySimpa false
set_option maxRecDepth 100000
section
open Go.RowKit
section
variable {Y : Thy} {E : Eng Y}
def celS (E:Eng Y) (th:Y.Th) (st:Option (List (Y.dom th)×Nat)) (c:Nat):SV Y:=
 match st with
 |some p=> .sl c 0 p.1.length (E.w th) none
 |none=> .val (.slice none 0 0)
def hpP (E:Eng Y) (th:Y.Th) (st:Option (List (Y.dom th)×Nat)):Hp Y:=fun b=>
 match Nat.beq b 0 with
 |true=>some (.raw [celS E th st 1] 0 none)
 |false=>(match Nat.beq b 1 with
  |true=>(match st with|some p=>some (.rows th p.1 p.2)|none=>none)
  |false=>none)
def fzO {α:Type} (st:Option (α×Nat)):Nat:=match st with|some p=>p.2|none=>0
def mdO {α:Type} (st:Option (α×Nat)) (b c:Nat):List Nat:=match st with|some _=> [b,c]|none=> [b]
def prnR (E:Eng Y) (th:Y.Th) (st:Option (List (Y.dom th)×Nat)) (b c i:Nat) (l':List (Y.dom th)):Res Y:=
 ⟨.tup [],1,mdO st b c,fun x=>match Nat.beq x b with|true=>some (.raw [.sl i 0 l'.length (E.w th) none] 0 none)|false=>at1 i (some (.rows th l' (fzO st))) x,none⟩
def PrnC (E:Eng Y) (f:Nat) (th:Y.Th) (args:List (SV Y)) (st:Option (List (Y.dom th)×Nat)) (l':List (Y.dom th)):Prop:=
 ∀(b c:Nat) (h:Hp Y) (i:Nat) (tg:Option Y.Th),h b=some (.raw [celS E th st c] 0 tg)->(∀p,st=some p->h c=some (.rows th p.1 p.2)/\b≠c)->Ul E f (.ptr b 0::args) h i (prnR E th st b c i l')
def prnK (E:Eng Y) (th:Y.Th) (st:Option (List (Y.dom th)×Nat)) (l':List (Y.dom th)) (r:Res Y):Prop:=
 match r.v,patch (hpP E th st) 2 r 0 with
 | .tup [],some (.raw [.sl c 0 n w none] 0 _)=>
  (match Nat.ble 1 c&&Nat.beq w (E.w th),patch (hpP E th st) 2 r c with
  |true,some (.rows th' L fz')=>Zau L fun L=>L=l'/\n=l'.length/\fz'=fzO st
  |_,_=>False)
 |_,_=>False
theorem Ybg (th:Y.Th) (st:Option (List (Y.dom th)×Nat)):hpP E th st 0=some (.raw [celS E th st 1] 0 none):=rfl
theorem Ur {th:Y.Th} {st:Option (List (Y.dom th)×Nat)} {x:Nat} {y:Blk Y} (h:hpP E th st x=some y):(x=0/\y= .raw [celS E th st 1] 0 none)\/(x=1/\∃p,st=some p/\y= .rows th p.1 p.2):=by
 match x,h with
 |0,h=>rw [Ybg] at h;cases h;exact .inl ⟨rfl,rfl⟩
 |1,h=>
  cases st with
  |none=>cases h
  |some p=>
   have h:some (Blk.rows th p.1 p.2:Blk Y)=some y:=h
   cases h
   exact .inr ⟨rfl,p,rfl,rfl⟩
 |x+2,h=>cases h
theorem Z5j (th:Y.Th) (st:Option (List (Y.dom th)×Nat)):DomLt (hpP E th st) 2:=fun b hb=>by
 obtain ⟨y,hy⟩:=Option.ne_none_iff_exists'.1 hb
 rcases Ur hy with ⟨rfl,_⟩|⟨rfl,_⟩<;>omega
def σP {α:Type} (st:Option α) (σ:Pl) (b c:Nat):Pl:=fun x=>
 match Nat.beq x 0 with
 |true=>σ b
 |false=>(match Nat.beq x 1 with
  |true=>(match st with|some _=>σ c|none=>none)
  |false=>none)
theorem σP_cases {α:Type} {st:Option α} {σ:Pl} {b c x:Nat} {q:Nat×Nat} (h:σP st σ b c x=some q):(x=0/\σ b=some q)\/(x=1/\(∃p,st=some p)/\σ c=some q):=by
 match x,h with
 |0,h=>exact .inl ⟨rfl,h⟩
 |1,h=>
  cases st with
  |none=>cases h
  |some p=>exact .inr ⟨rfl,⟨p,rfl⟩,h⟩
 |x+2,h=>cases h
theorem mdO_mem {α:Type} {st:Option (α×Nat)} {b c x:Nat}:x∈mdO st b c↔x=b\/(x=c/\∃p,st=some p):=by
 cases st with
 |none=>simp [mdO]
 |some p=>simp [mdO]
open Classical in
theorem Zc6 (hE:EngOk E) {call:Nat->List (SV Y)->Hp Y->Nat->(Res Y->Prop)->Prop} (hcall:Ve E call) {f:Nat} {th:Y.Th} {args:List (SV Y)} {st:Option (List (Y.dom th)×Nat)} {l':List (Y.dom th)} (ha:nidL 0 args=true)
 (hk:call f (.ptr 0 0::args) (hpP E th st) 2 (prnK E th st l')):PrnC E f th args st l':=by
 intro b c h i tg hb hc
 obtain ⟨r,hr,hR,htri⟩:=hcall f _ _ _ _ (Z5j th st) hk
 have hmods:∀x∈r.mods,x=0\/(x=1/\∃p,st=some p):=by
  intro x hx
  obtain ⟨y,hy⟩:=Option.ne_none_iff_exists'.1 (hR x hx)
  rcases Ur hy with ⟨h1,_⟩|⟨h1,p,h2,_⟩
  · exact .inl h1
  · exact .inr ⟨h1,p,h2⟩
 unfold prnK at hr
 split at hr
 case h_2=>exact hr.elim
 rename_i c' n' w' tg' hv hp0
 split at hr
 case h_2=>exact hr.elim
 rename_i th' L fz' hc1 hpc
 obtain ⟨e,hr⟩:=Xe hr
 subst e
 obtain ⟨rfl,rfl,rfl⟩:l'=L/\n'=l'.length/\fz'=fzO st:=⟨hr.1.symm,hr.2⟩
 rw [Bool.and_eq_true,Nat.ble_eq] at hc1
 obtain ⟨hc1,hw⟩:=hc1
 have hw:=Nat.eq_of_beq_eq_true hw
 subst hw
 replace htri:Ul E f (.ptr 0 0::args) (hpP E th' st) 2 r:=htri.resolve_right (by rintro ⟨p,hp,_⟩;rw [hv] at hp;cases hp)
 intro B σ g W vals hh hrd hI hB hfree hd
 obtain rfl:hh=h:=funext fun b=>hrd b trivial
 obtain ⟨rb,zb,hσb,hbo⟩:=hI.blk b _ hb
 have hbn:hh b≠none:=by rw [hb];simp
 have F0:σP st σ b c 0=σ b:=rfl
 have F1:∀p,st=some p->σP st σ b c 1=σ c:=by rintro p rfl;rfl
 have bc:∀p,st=some p->b≠c:=fun p hp=>(hc p hp).2
 have cn:∀p,st=some p->hh c≠none:=fun p hp=>by rw [(hc p hp).1];simp
 have reg:∀p q z z',st=some p->σ b=some (q,z)->σ c=some (q,z')->False:=fun p q z z' hp h1 h2=>bc p hp (hI.inj b c q z z' hbn (cn p hp) h1 h2)
 have hI1:Inv E B (σP st σ b c) (hpP E th' st) g W:=by
  refine ⟨hI.gc,hI.gm,fun x y hx=> ?_,fun x x' r z z' h1 h2 h3 h4=> ?_,fun x r' z' hs=> ?_,fun x y r' z' o v hx hs hv=> ?_,fun x y r' z' hx hs=> ?_,hI.glob⟩
  · rcases Ur hx with ⟨rfl,rfl⟩|⟨rfl,p,hp,rfl⟩
    · refine ⟨rb,zb,hσb,?_⟩
      obtain ⟨arr,e,k1,k2,k3,k4,k5⟩:=hbo
      refine ⟨arr,e,k1,k2,k3,fun j sv hj=> ?_,trivial⟩
      cases j with
      |succ j=>cases hj
      |zero=>
       have hj:some (celS E th' st 1)=some sv:=hj
       cases hj
       obtain ⟨v,m1,m2⟩:=k4 0 _ (show ([celS E th' st c]:List (SV Y))[0]? =some _ from rfl)
       refine ⟨v,m1,?_⟩
       cases st with
       |none=>exact Z2 hE m2 (fun b p hb=>by omega) (show nid 0 (celS E th' none 1)=true from rfl)
       |some p=>
        obtain ⟨r1,z1,c1,rfl,k1,k2,k3,k4,k5⟩:=Zal (show Den E σ g (.sl c 0 p.1.length (E.w th') none) v from m2)
        exact .sl (E:=E) (b:=1) k1 k2 k3 k4 k5
    · obtain ⟨r1,z1,k1,arr,e,k2,k3,k4,k5,k6⟩:=hI.blk c _ (hc p hp).1
      refine ⟨r1,z1,(F1 p hp).trans k1,arr,e,k2,k3,k4,fun j sv hj=> ?_,k6⟩
      obtain ⟨v,m1,m2⟩:=k5 j sv hj
      have hn:nid 0 sv=true:=by
       obtain ⟨q,p,x,rfl,hp,hq,hs⟩:=Xh hE th' _ hj
       exact Zr (hE.encI _ _ _) hs
      exact ⟨v,m1,Z2 hE m2 (fun b p hb=>by omega) hn⟩
  · rcases σP_cases h3 with ⟨rfl,h3⟩|⟨rfl,⟨p,hp⟩,h3⟩<;>rcases σP_cases h4 with ⟨rfl,h4⟩|⟨rfl,⟨p',hp'⟩,h4⟩
    · rfl
    · exact (reg p' _ _ _ hp' h3 h4).elim
    · exact (reg p _ _ _ hp h4 h3).elim
    · rfl
  · rcases σP_cases hs with ⟨rfl,hs⟩|⟨rfl,_,hs⟩
    · exact hI.base b _ _ hs
    · exact hI.base c _ _ hs
  · rcases Ur hx with ⟨rfl,rfl⟩|⟨rfl,p,hp,rfl⟩
    · have h2:o<0:=hI.fz b _ _ _ o v hb hs hv
      omega
    · rw [F1 p hp] at hs
      exact hI.fz c _ _ _ o v (hc p hp).1 hs hv
  · rcases Ur hx with ⟨rfl,rfl⟩|⟨rfl,p,hp,rfl⟩
    · exact hI.fm b _ _ _ hb hs
    · rw [F1 p hp] at hs
      exact hI.fm c _ _ _ (hc p hp).1 hs
 have hd1:DenL E (σP st σ b c) g (.ptr 0 0::args) vals.toList:=by
  refine ⟨by rw [<-hd.1];rfl,fun j sv u h1 h2=> ?_⟩
  cases j with
  |zero=>
   simp at h1;subst h1
   have:=hd.2 0 _ u rfl h2
   cases this
   rename_i hs
   exact .ptr (E:=E) (b:=0) hs
  |succ j=>
   have h1:args[j]? =some sv:=by simpa using h1
   exact Z2 hE (hd.2 (j+1) sv u (by simpa using h1) h2) (fun b p hb=>by omega) (Zr ha h1)
 refine (htri B _ g W vals _ (fun _ _=>rfl) hI1 hB (fun x h1 h2=>by match x,h1 with|x+2,_=>rfl) hd1).mono ?_
 rintro en w' ⟨u,he,σ',g',hS,hI',hv'⟩
 have hs0:σ' 0=some (rb,zb):=hS.sig 0 _ hσb
 obtain ⟨r1,z1,k1⟩:∃r1 z1,σ' c'=some (r1,z1):=by
  obtain ⟨r1,z1,m1,_⟩:=hI'.blk c' _ hpc
  exact ⟨r1,z1,m1⟩
 have hc0:c'≠0:=by omega
 have hne0:patch (hpP E th' st) 2 r 0≠none:=by rw [hp0];simp
 have hnec:patch (hpP E th' st) 2 r c'≠none:=by rw [hpc];simp
 have hrb:r1≠rb:=by
  rintro rfl
  exact hc0 (hI'.inj c' 0 _ _ _ hnec hne0 k1 hs0)
 have hr1:W.heap.size<=r1\/∃z' p,st=some p/\σ c=some (r1,z'):=by
  cases hs1:σP st σ b c c' with
  |some q=>
   have:=hS.sig c' _ hs1
   rw [k1] at this;cases this
   rcases σP_cases hs1 with ⟨h0,_⟩|⟨_,⟨p,hp⟩,h2⟩
   · exact absurd h0 hc0
   · exact .inr ⟨z1,p,hp,h2⟩
  |none=>
   rcases hS.blk c' r1 z1 hs1 k1 with h1|⟨b',h1,z',h2⟩
   · exact .inl h1
   · rcases σP_cases h2 with ⟨rfl,h3⟩|⟨_,⟨p,hp⟩,h3⟩
     · rw [hσb] at h3;cases h3;exact absurd rfl hrb
     · exact .inr ⟨z',p,hp,h3⟩
 have hheap:∀q,q<W.heap.size->q≠rb->(∀p z,st=some p->σ c≠some (q,z))->w'.heap[q]? =W.heap[q]? :=by
  intro q hq hne hne2
  refine hS.heap q hq fun b' hb' z' hz'=> ?_
  rcases σP_cases hz' with ⟨rfl,h2⟩|⟨_,⟨p,hp⟩,h2⟩
  · rw [hσb] at h2;cases h2;exact hne rfl
  · exact hne2 p z' hp h2
 have hi:σ i=none:=hfree i (Nat.le_refl _) (by show i<i+1;omega)
 have hbi:b≠i:=by rintro rfl;rw [hσb] at hi;cases hi
 have hci:∀p,st=some p->c≠i:=by
  rintro p hp rfl
  obtain ⟨r2,z2,m1,_⟩:=hI.blk c _ (hc p hp).1
  rw [hi] at m1;cases m1
 have hpatch:∀x,patch hh i (prnR E th' st b c i l') x=if x=b then some (.raw [.sl i 0 l'.length (E.w th') none] 0 none) else if x=i then some (.rows th' l' (fzO st)) else if x=c/\(∃p,st=some p) then none else hh x:=by
  intro x
  rw [Zh]
  by_cases e1:x=b
  · subst e1
    rw [if_pos (.inl (mdO_mem.2 (.inl rfl))),if_pos rfl]
    show (match Nat.beq x x with|true=>_|false=>_)=_
    rw [Nat.beq_refl]
  · rw [if_neg e1]
    have hb1:Nat.beq x b=false:=by
     cases e:Nat.beq x b with
     |true=>exact absurd (Nat.eq_of_beq_eq_true e) e1
     |false=>rfl
    have hh1:(prnR E th' st b c i l').h x=at1 i (some (.rows th' l' (fzO st))) x:=by
     show (match Nat.beq x b with|true=>_|false=>_)=_
     rw [hb1]
    by_cases e2:x=i
    · subst e2
      rw [if_pos (.inr ⟨Nat.le_refl _,(by show x<x+1;omega)⟩),if_pos rfl,hh1]
      unfold at1
      rw [Nat.beq_refl]
    · rw [if_neg e2]
      have hat:at1 i (some (.rows th' l' (fzO st):Blk Y)) x=none:=by
       unfold at1
       cases e:Nat.beq x i with
       |true=>exact absurd (Nat.eq_of_beq_eq_true e) e2
       |false=>rfl
      by_cases e3:x=c/\∃p,st=some p
      · rw [if_pos e3,if_pos (.inl (mdO_mem.2 (.inr e3))),hh1,hat]
      · rw [if_neg e3,if_neg]
        rintro (k|k)
        · rcases mdO_mem.1 k with k|k
          · exact e1 k
          · exact e3 k
        · have k:i<=x/\x<i+1:=k
          omega
 have src:∀x y,patch hh i (prnR E th' st b c i l') x=some y->(x=b/\y= .raw [.sl i 0 l'.length (E.w th') none] 0 none)\/(x=i/\y= .rows th' l' (fzO st))\/(x≠i/\x≠b/\(∀p,st=some p->x≠c)/\hh x=some y):=by
  intro x y hy
  rw [hpatch] at hy
  split at hy
  · rename_i e
    cases hy
    exact .inl ⟨e,rfl⟩
  · rename_i e
    split at hy
    · rename_i e2
      cases hy
      exact .inr (.inl ⟨e2,rfl⟩)
    · rename_i e2
      split at hy
      · cases hy
      · rename_i e3
        exact .inr (.inr ⟨e2,e,fun p hp hx=>e3 ⟨hx,p,hp⟩,hy⟩)
 have sgi:(match Nat.beq i i with|true=>σ' c'|false=>σ i)=some (r1,z1):=by rw [Nat.beq_refl];exact k1
 have sgx:∀x,x≠i->(match Nat.beq x i with|true=>σ' c'|false=>σ x)=σ x:=by
  intro x hx
  cases e:Nat.beq x i with
  |true=>exact absurd (Nat.eq_of_beq_eq_true e) hx
  |false=>rfl
 have far:∀x y q z',x≠b->(∀p,st=some p->x≠c)->hh x=some y->σ x=some (q,z')->q<W.heap.size/\q≠rb/\(∀p z,st=some p->σ c≠some (q,z)):=by
  intro x y q z' hx hx2 hy hs
  have hxn:hh x≠none:=by rw [hy];simp
  refine ⟨(hI.base x q z' hs).2,?_,fun p z hp hq=>hx2 p hp (hI.inj x c _ _ _ hxn (cn p hp) hs hq)⟩
  rintro rfl
  exact hx (hI.inj x b _ _ _ hxn hbn hs hσb)
 have far1:∀x y q z',x≠b->(∀p,st=some p->x≠c)->hh x=some y->σ x=some (q,z')->q≠r1:=by
  rintro x y q z' hx hx2 hy hs rfl
  obtain ⟨m1,m2,m3⟩:=far x y q z' hx hx2 hy hs
  rcases hr1 with h1|⟨z2,p,hp,h1⟩
  · omega
  · exact m3 p z2 hp h1
 have far0:rb<W.heap.size:=(hI.base b _ _ hσb).2
 refine ⟨_,he,fun x=>match Nat.beq x i with|true=>σ' c'|false=>σ x,g',⟨fun x p hx=> ?_,fun x p hx=> ?_,hS.gle,fun q o v hv=> ?_,hS.gmnew,fun q hq hne=> ?_,hS.size,hS.os,hS.tape,hS.output,fun x q z' hx hx'=> ?_⟩,?_,?_⟩
 · exact (sgx x (fun e=>by rw [e,hi] at hx;cases hx)).trans hx
 · by_cases e:x=i
   · exact .inr (by show i<=x/\x<i+1;omega)
   · have hx:(match Nat.beq x i with|true=>σ' c'|false=>σ x)=some p:=hx
     rw [sgx x e] at hx
     exact .inl hx
 · rcases hS.gcnew q o v hv with h1|h1|⟨b',h1,z',h2⟩
   · exact .inl h1
   · exact .inr (.inl h1)
   · rcases σP_cases h2 with ⟨rfl,h2⟩|⟨_,hp,h2⟩
     · exact .inr (.inr ⟨b,mdO_mem.2 (.inl rfl),_,h2⟩)
     · exact .inr (.inr ⟨c,mdO_mem.2 (.inr ⟨rfl,hp⟩),_,h2⟩)
 · exact hheap q hq (fun e=>hne b (mdO_mem.2 (.inl rfl)) zb (by rw [hσb,e])) fun p z hp=>hne c (mdO_mem.2 (.inr ⟨rfl,p,hp⟩)) z
 · have hx':(match Nat.beq x i with|true=>σ' c'|false=>σ x)=some (q,z'):=hx'
   by_cases e:x=i
   · subst e
     rw [sgi] at hx';cases hx'
     rcases hr1 with h1|⟨z2,p,hp,h1⟩
     · exact .inl h1
     · exact .inr ⟨c,mdO_mem.2 (.inr ⟨rfl,p,hp⟩),z2,h1⟩
   · rw [sgx x e,hx] at hx';cases hx'
 · refine ⟨hI'.gc,hI'.gm,fun x y hx=> ?_,fun x x' q z1' z2' h1 h2 h3 h4=> ?_,fun x q z' hs=> ?_,fun x y q z' o v hx hs hv=> ?_,fun x y q z' hx hs=> ?_,hI'.glob⟩
   · rcases src x y hx with ⟨rfl,rfl⟩|⟨rfl,rfl⟩|⟨e1,e2,e3,e4⟩
     · refine ⟨rb,zb,(sgx x hbi).trans hσb,?_⟩
       obtain ⟨r2,z2,m1,arr,e,n1,n2,n3,n4,n5⟩:=hI'.blk 0 _ hp0
       rw [hs0] at m1;cases m1
       refine ⟨arr,e,n1,n2,n3,fun j sv hj=> ?_,trivial⟩
       cases j with
       |succ j=>cases hj
       |zero=>
        have hj:some (SV.sl i 0 l'.length (E.w th') none:SV Y)=some sv:=hj
        cases hj
        obtain ⟨v,q1,q2⟩:=n4 0 _ (show ([.sl c' 0 l'.length (E.w th') none]:List (SV Y))[0]? =some _ from rfl)
        refine ⟨v,q1,?_⟩
        obtain ⟨r3,z3,c3,rfl,u1,u2,u3,u4,u5⟩:=Zal (show Den E σ' g' (.sl c' 0 l'.length (E.w th') none) v from q2)
        refine .sl (E:=E) (b:=i) (z:=z3) ?_ u2 u3 u4 u5
        show (match Nat.beq i i with|true=>σ' c'|false=>σ i)=_
        rw [Nat.beq_refl]
        exact u1
     · refine ⟨r1,z1,sgi,?_⟩
       obtain ⟨r2,z2,m1,m2⟩:=hI'.blk c' _ hpc
       rw [k1] at m1;cases m1
       obtain ⟨arr,e,m1,m3,m4,m5,m6⟩:=m2
       refine ⟨arr,e,m1,m3,m4,fun j sv hj=> ?_,m6⟩
       obtain ⟨v,n1,n2⟩:=m5 j sv hj
       have hn:nid 0 sv=true:=by
        obtain ⟨q,p,x,rfl,hp,hq,hs⟩:=Xh hE th' _ hj
        exact Zr (hE.encI _ _ _) hs
       exact ⟨v,n1,Z2 hE n2 (fun b p hb=>by omega) hn⟩
     · obtain ⟨q,z',m1,m2⟩:=hI.blk x y e4
       obtain ⟨m3,m4,m5⟩:=far x y q z' e2 e3 e4 m1
       refine ⟨q,z',(sgx x e1).trans m1,?_⟩
       refine m2.mono (fun x p hx=> ?_) hS.gle (hheap q m3 m4 m5)
       show (match Nat.beq x i with|true=>σ' c'|false=>σ x)=some p
       rw [sgx x (fun e=>by rw [e,hi] at hx;cases hx)]
       exact hx
   · obtain ⟨y,hy⟩:=Option.ne_none_iff_exists'.1 h1
     obtain ⟨y',hy'⟩:=Option.ne_none_iff_exists'.1 h2
     rcases src x y hy with ⟨rfl,rfl⟩|⟨rfl,rfl⟩|⟨e1,e2,e3,e4⟩<;>rcases src x' y' hy' with ⟨rfl,rfl⟩|⟨rfl,rfl⟩|⟨d1,d2,d3,d4⟩
     · rfl
     · rw [sgx x hbi,hσb] at h3;cases h3
       rw [sgi] at h4;cases h4
       exact absurd rfl hrb
     · rw [sgx x hbi,hσb] at h3;cases h3
       rw [sgx x' d1] at h4
       exact absurd rfl (far x' y' _ _ d2 d3 d4 h4).2.1
     · rw [sgi] at h3;cases h3
       rw [sgx x' hbi,hσb] at h4;cases h4
       exact absurd rfl hrb
     · rfl
     · rw [sgi] at h3;cases h3
       rw [sgx x' d1] at h4
       exact absurd rfl (far1 x' y' _ _ d2 d3 d4 h4)
     · rw [sgx x' hbi,hσb] at h4;cases h4
       rw [sgx x e1] at h3
       exact absurd rfl (far x y _ _ e2 e3 e4 h3).2.1
     · rw [sgi] at h4;cases h4
       rw [sgx x e1] at h3
       exact absurd rfl (far1 x y _ _ e2 e3 e4 h3)
     · rw [sgx x e1] at h3
       rw [sgx x' d1] at h4
       exact hI.inj x x' q _ _ (by rw [e4];simp) (by rw [d4];simp) h3 h4
   · by_cases e:x=i
     · subst e
       rw [sgi] at hs;cases hs
       exact hI'.base c' _ _ k1
     · rw [sgx x e] at hs
       exact ⟨(hI.base x q z' hs).1,Nat.lt_of_lt_of_le (hI.base x q z' hs).2 hS.size⟩
   · rcases src x y hx with ⟨rfl,rfl⟩|⟨rfl,rfl⟩|⟨e1,e2,e3,e4⟩
     · rw [sgx x hbi,hσb] at hs;cases hs
       have h2:o<0:=hI'.fz 0 _ _ _ o v hp0 hs0 hv
       omega
     · rw [sgi] at hs;cases hs
       exact hI'.fz c' _ _ _ o v hpc k1 hv
     · rw [sgx x e1] at hs
       obtain ⟨m3,m4,m5⟩:=far x y q z' e2 e3 e4 hs
       rcases hS.gcnew q o v hv with h1|h1|⟨b',h1,z2,h2⟩
       · exact hI.fz x y q z' o v e4 hs h1
       · omega
       · rcases σP_cases h2 with ⟨rfl,h3⟩|⟨_,⟨p,hp⟩,h3⟩
         · rw [hσb] at h3;cases h3;exact absurd rfl m4
         · exact absurd h3 (m5 p z2 hp)
   · rcases src x y hx with ⟨rfl,rfl⟩|⟨rfl,rfl⟩|⟨e1,e2,e3,e4⟩
     · rw [sgx x hbi,hσb] at hs;cases hs
       exact hI'.fm 0 _ _ _ hp0 hs0
     · rw [sgi] at hs;cases hs
       exact hI'.fm c' _ _ _ hpc k1
     · rw [sgx x e1] at hs
       obtain ⟨m3,m4,m5⟩:=far x y q z' e2 e3 e4 hs
       cases hg':g'.obj q with
       |none=>rfl
       |some es=>
        rcases hS.gmnew q es hg' with k|k
        · rw [hI.fm x y q z' e4 hs] at k;cases k
        · omega
 · rw [hv] at hv'
   exact Z2 hE hv' (fun b p hb=>by omega) (show nid 0 (SV.tup ([]:List (SV Y)))=true from rfl)
def sumB (E:Eng Y) (th:Y.Th) {α:Type} (d:DcL E α) (pre:List (Y.dom th)->α->Prop) (f:List (Y.dom th)->α->List (Y.dom th)):Sum Y:=fun args h i k=>
 match args with
 | .ptr b 0::rest=>
  (match h b,d.dec rest with
  |some (.raw [.sl c 0 len w none] 0 _),some x=>
   (match h c,Nat.beq w (E.w th)&& !(Nat.beq b c) with
   |some (.rows th' l fz),true=>Zau l fun l=>(len=l.length/\fz<=l.length/\pre l x)/\∀l',l'=f l x->k (prnR E th (some (l,fz)) b c i l')
   |_,_=>False)
  |some (.raw [.val (.slice none 0 0)] 0 _),some x=>pre [] x/\∀l',l'=f [] x->k (prnR E th none b 0 i l')
  |_,_=>False)
 |_=>False
def Ybh (E:Eng Y) (f:Nat) (th:Y.Th) (args:List (SV Y)) (F:List (Y.dom th)->List (Y.dom th)) (P:List (Y.dom th)->Prop):Prop:=
 (∀l fz,fz<=l.length->P l->PrnC E f th args (some (l,fz)) (F l))/\(P []->PrnC E f th args none (F []))
theorem PrnC.of_dec {α:Type} {d:DcL E α} {f:Nat} {th:Y.Th} {args:List (SV Y)} {x:α} {st:Option (List (Y.dom th)×Nat)} {l':List (Y.dom th)} (hd:d.dec args=some x) (h:PrnC E f th (d.enc x) st l'):PrnC E f th args st l':=by
 obtain ⟨k1,k2,k3⟩:=d.ok _ _ hd
 intro b c hp i tg h1 h2 B σ g w vals hh hrd hI hB hfree hden
 refine h b c hp i tg h1 h2 B σ g w vals hh hrd hI hB hfree ⟨?_,fun j sv' u h5 h6=> ?_⟩
 · rw [<-hden.1,List.length_cons,List.length_cons,k2]
 · cases j with
   |zero=>exact hden.2 0 sv' u h5 h6
   |succ j=>
    obtain ⟨sv,h7,h8⟩:=k3 σ g j sv' (by simpa using h5)
    exact h8 u (hden.2 (j+1) sv u (by simpa using h7) h6)
theorem Zif (hE:EngOk E) {th:Y.Th} {α:Type} {f:Nat} (hg:FnGood E.P f) {d:DcL E α} {pre:List (Y.dom th)->α->Prop} {F:List (Y.dom th)->α->List (Y.dom th)} (hp:∀x,Ybh E f th (d.enc x) (fun l=>F l x) (fun l=>pre l x)):SumOk E f (sumB E th d pre F):=by
 refine ⟨hg,fun args h i k hD hk=> ?_⟩
 unfold sumB at hk
 split at hk
 case h_2=>exact hk.elim
 rename_i b rest
 split at hk
 case h_3=>exact hk.elim
 · rename_i c len w tg x hb hx
   split at hk
   case h_2=>exact hk.elim
   rename_i th' l fz hc hw
   rw [Bool.and_eq_true,Bool.not_eq_true'] at hw
   obtain ⟨hw,hbc⟩:=hw
   have hw:=Nat.eq_of_beq_eq_true hw
   have hbc:=nb hbc
   obtain ⟨e,hk2⟩:=Xe hk
   clear hk
   subst e
   subst hw
   obtain ⟨⟨rfl,hfz,hpr⟩,hk3⟩:=hk2
   refine ⟨_,hk3 _ rfl,fun b' hb'=> ?_,.inl (PrnC.of_dec hx ((hp x).1 l fz hfz hpr) b c h i tg hb fun p hp=> ?_)⟩
   · rcases mdO_mem.1 (show b'∈mdO (some (l,fz)) b c from hb') with rfl|⟨rfl,_⟩
     · rw [hb];simp
     · rw [hc];simp
   · cases hp
     exact ⟨hc,hbc⟩
 · rename_i tg x hb hx
   obtain ⟨hpr,hk3⟩:=hk
   refine ⟨_,hk3 _ rfl,fun b' hb'=> ?_,.inl (PrnC.of_dec hx ((hp x).2 hpr) b 0 h i tg hb fun p hp=>by cases hp)⟩
   rcases mdO_mem.1 (show b'∈mdO (none:Option (List (Y.dom th)×Nat)) b 0 from hb') with rfl|⟨_,_,h2⟩
   · rw [hb];simp
   · cases h2
end
end
section
open Go
theorem Zxr {F:Fns thy} (hF:FnsOk E F) {n:Nat} {f:Nat} {th:Th} {args:List (SV thy)} {st:Option (List (thy.dom th)×Nat)} {l':List (thy.dom th)} (ha:nidL 0 args=true) (hk:Zl E F (vc E F n) f (.ptr 0 0::args) (hpP E th st) 2 (prnK E th st l')):PrnC E f th args st l':=
 Zc6 E_ok (Zg E_ok hF n) ha hk
def Aixi:Fr thy->Hp thy->Nat->Ann thy:=fun T h i=>{X:=LX,fr:=fun x=> [(0,T 0),(1,T 1),(7,T 7),(8,.int false .i64 x.k)],bl:=fun x=> [],src:=fun _=> [],md:= [],ih:=i,M:=i+30,meas:=fun x=>x.r}
noncomputable def Fixi:Fns thy:=addL F0 149 2 Aixi E
theorem Z1h (l:List Int) (s:Int) (v:Int):Zl E Fixi (vc E Fixi 400) 149 [.psl Th.dimc l false,.int false .i64 s] hp0 0 (fun r=>ret E (patch hp0 0 r) r.v (.int false .i64 v))=(
∃(R:LX->Prop),(∃(x:LX),R x/\true=true/\((l=l/\(false=true->false=true))/\s=s/\(↑(List.length l):Int)=(↑(List.length l):Int)/\(0:Int)=(↑(LX.k x):Int)/\True)/\True)/\∀(x:LX),R x->(decide ((↑(LX.k x):Int)<(↑(List.length l):Int))=true->(0:Int)<=(↑(LX.k x):Int)/\(↑(LX.k x):Int)+(1:Int)<=(↑(List.length l):Int)/\∀(x_1:Int),l[Int.toNat (↑(LX.k x):Int)]? =some x_1->((s==x_1)=true->(↑(LX.k x):Int)=v)/\((s==x_1)=false->∃(x_2:LX),R x_2/\x_2.2+(1:Nat)<=x.2/\true=true/\((l=l/\(false=true->false=true))/\s=s/\(↑(List.length l):Int)=(↑(List.length l):Int)/\wr IntKind.i64 ((↑(LX.k x):Int)+(1:Int))=(↑(LX.k x_2):Int)/\True)/\True))/\(decide ((↑(LX.k x):Int)<(↑(List.length l):Int))=false->(-1:Int)=v)):=by kernel_rfl
noncomputable def dIs:Dc E (List Int):=(Zrc (E:=E) Th.dimc:Dc E (List (thy.dom Th.dimc)))
noncomputable def Sixi:Sum thy:=Zky E (fun _=>none) 2 (Vv (dA2 dIs dN) (fun x=>x.1.length<=1000000000) (fun x=>idxI x.2.1 0 x.1) fun y=> .int false .i64 y)
noncomputable def Z92:Sum thy:=Vv (dA1 dN) (fun x=>0<=x.1/\x.1<10000000000000) (fun x=>decN x.1) fun y=> .str false y
noncomputable def Fpu:Fns thy:=addS (addS (addS F0 42 Zcv) 149 Sixi) 117 Z92
abbrev qCD4:=(0:Int)
abbrev qCD6:=(↑(4:Nat):Int)
abbrev qCD3:=(Int.toNat qCD6-Int.toNat qCD4)
abbrev qCD1 (a0:Int) (b0:Int) (c0:Int) (d0:Int):=(List.take qCD3 (List.drop (Int.toNat qCD4) [a0,b0,c0,d0]))
abbrev qCD2:=((4:Nat)=(4:Nat)/\qCD4<=qCD4/\qCD4<=qCD6/\qCD6<=qCD6/\(qCD4+(1:Int)<=qCD6\/qCD4=qCD4))
abbrev qCD5:=(↑(List.length (WK.words WK.un)):Int)
theorem Zs5 (l:List (List Nat)) (fz:Nat) (a b c d:Int) (l':List (List Nat)):Zl E Fpu (vc E Fpu 400) 119 [.ptr 0 0,dimA a b c d] (hpP E Th.strs (some (l,fz))) 2 (prnK E Th.strs (some (l,fz)) l')=(
 qCD2/\Int.toNat qCD4+qCD3<=(4:Nat)/\List.length (qCD1 a b c d)<=(1000000000:Nat)/\∀(y:Int),y=idxI (1:Int) (0:Nat) (qCD1 a b c d)->(decide (y>=qCD4)=true->qCD4<=y/\y+(1:Int)<=qCD5/\∀(x:List Nat),(WK.words WK.un)[Int.toNat y]? =some x->(List.length l<=List.length l/\fz<=List.length l/\(List.length l+(1:Nat))*(16:Nat)<=(140737488355328:Nat))/\qCD2/\Int.toNat qCD4+qCD3<=(4:Nat)/\List.length (qCD1 a b c d)<=(1000000000:Nat)/\∀(y:Int),y=idxI (-1:Int) (0:Nat) (qCD1 a b c d)->(decide (y>=qCD4)=true->qCD4<=y/\y+(1:Int)<=qCD5/\∀(x_1:List Nat),(WK.words WK.un)[Int.toNat y]? =some x_1->(List.length l+(1:Nat)<=List.length (List.take (List.length l) l++ [x])/\fz<=List.length l+(1:Nat)/\(List.length l+(1:Nat)+(2:Nat))*(16:Nat)<=(140737488355328:Nat))/\List.take (List.length l+(1:Nat)) (List.take (List.length l) l++ [x])++ [[(112:Nat),(101:Nat),(114:Nat)],x_1]=l'/\List.length l+(1:Nat)+(2:Nat)=List.length l'/\fz=fzO (some (l,fz)))/\(decide (y>=qCD4)=false->List.take (List.length l) l++ [x]=l'/\List.length l+(1:Nat)=List.length l'/\fz=fzO (some (l,fz))))/\(decide (y>=qCD4)=false->qCD2/\Int.toNat qCD4+qCD3<=(4:Nat)/\List.length (qCD1 a b c d)<=(1000000000:Nat)/\∀(y:Int),y=idxI (-1:Int) (0:Nat) (qCD1 a b c d)->(decide (y>=qCD4)=true->qCD4<=y/\y+(1:Int)<=qCD5/\∀(x:List Nat),(WK.words WK.un)[Int.toNat y]? =some x->(List.length l<=List.length l/\fz<=List.length l/\(List.length l+(2:Nat))*(16:Nat)<=(140737488355328:Nat))/\List.take (List.length l) l++ [[(112:Nat),(101:Nat),(114:Nat)],x]=l'/\List.length l+(2:Nat)=List.length l'/\fz=fzO (some (l,fz)))/\(decide (y>=qCD4)=false->l=l'/\List.length l=List.length l'/\fz=fzO (some (l,fz))))):=by kernel_rfl
theorem Zxs {v:Int} {l:List Int}:∀{k:Nat} {x:Int},l[k]? =some x->idxI v k (l.drop k)=if v=x then (k:Int) else idxI v (k+1) (l.drop (k+1)):=by
 intro k x h
 rw [Vr h]
 rfl
theorem Z1i (l:List Int) (s:Int) (hl:l.length<=1000000000):PureC E 149 [.psl Th.dimc l false,.int false .i64 s] (.int false .i64 (idxI s 0 l)):=by
 have hF:FnsOk E Fixi:=Zw E_ok F0_ok _ _ _
 refine Za E_ok (Zg E_ok hF 400) ?_
 rw [Z1h]
 simp only [and_true,true_and,decide_eq_true_eq,decide_eq_false_iff_not,beq_iff_eq,beq_eq_false_iff_ne,imp_self]
 refine ⟨fun x=>x.k<=l.length/\idxI s x.k (l.drop x.k)=idxI s 0 l/\x.r=l.length-x.k,⟨⟨0,l.length,[],0⟩,⟨(by dsimp only;omega),rfl,rfl⟩,rfl⟩,?_⟩
 rintro x ⟨hk,hv,hr⟩
 refine And.intro (fun hq=>⟨by omega,by omega,fun y hy=> ?_⟩) (fun hq=> ?_)
 · have hy:l[x.k]? =some y:=hy
   rw [Zxs hy] at hv
   refine ⟨fun e=> ?_,fun e=> ?_⟩
   · rw [if_pos e] at hv;exact hv
   · rw [if_neg e] at hv
     exact ⟨⟨x.k+1,l.length-(x.k+1),[],0⟩,⟨(by dsimp only;omega),hv,rfl⟩,by show l.length-(x.k+1)+1<=x.r;omega,wr64 (by omega) (by omega)⟩
 · rw [List.drop_eq_nil_of_le (by omega)] at hv
   exact hv
theorem Z6j:SumOk E 149 Sixi:=Ze6 E_ok (Z9 E_ok (Zc rfl) fun x h=>Z1i x.1 x.2.1 h)
theorem Z1j:SumOk E 117 Z92:=Z9 E_ok (Zc rfl) fun x h=>by
 have:=Zw0 x.1.toNat (by omega)
 rw [show ((x.1.toNat:Nat):Int)=x.1 by omega] at this
 exact this
theorem Zqi:FnsOk E Fpu:=Zb (Zb (Zb F0_ok Zcw) Z6j) Z1j
theorem Zn6:∀{v:Int} {l:List Int} {k:Nat},idxI v k l<k+l.length
 |v,[],k=>by unfold idxI;simp;omega
 |v,x::l,k=>by
  unfold idxI
  split
  · simp;omega
  · have:=Zn6 (v:=v) (l:=l) (k:=k+1)
    simp at this⊢;omega
theorem Zqj {y:Int} (h0:0<=y) {x:List Nat} (hx:(WK.words WK.un)[Int.toNat y]? =some x):WK.un.words.getD y.toNat []=x:=by
 simp [List.getD,hx]
theorem Z1k (l:List (List Nat)) (fz:Nat) (a b c d:Int) (hf:fz<=l.length) (hl:l.length+8<=1000000000):PrnC E 119 Th.strs [dimA a b c d] (some (l,fz)) (l++txU [a,b,c,d]):=by
 refine Zxr Zqi (n:=400) rfl ?_
 rw [Zs5];delta qCD4 qCD6 qCD3 qCD1 qCD2 qCD5
 have i1:=Zn6 (v:=1) (l:= [a,b,c,d]) (k:=0)
 have i2:=Zn6 (v:= -1) (l:= [a,b,c,d]) (k:=0)
 have L4:(WK.words WK.un).length=4:=rfl
 have l4:(List.length [a,b,c,d]:Int)=4:=rfl
 have e:List.take (Int.toNat (↑(4:Nat):Int)-Int.toNat (0:Int)) (List.drop (Int.toNat (0:Int)) [a,b,c,d])= [a,b,c,d]:=rfl
 rw [e]
 clear e
 refine ⟨by decide,by decide,by show 4<=1000000000;decide,fun y hy=>⟨fun h=> ?_,fun h=> ?_⟩⟩
 · have h:0<=y:=by simpa using h
   rw [<-hy] at i1
   refine ⟨h,by rw [L4];omega,fun x hx=>⟨⟨Nat.le_refl _,hf,by omega⟩,by decide,by decide,by show 4<=1000000000;decide,fun z hz=>⟨fun h2=> ?_,fun h2=> ?_⟩⟩⟩
   · have h2:0<=z:=by simpa using h2
     rw [<-hz] at i2
     refine ⟨h2,by rw [L4];omega,fun x2 hx2=>⟨⟨by simp,by omega,by omega⟩,?_⟩⟩
     have:txU [a,b,c,d]= [x,sPer,x2]:=by
      unfold txU
      rw [<-hy,<-hz,if_pos h,if_pos h2,Zqj h hx,Zqj h2 hx2]
      rfl
     rw [this,List.take_length]
     have e2:List.take (l.length+1) (l++ [x])=l++ [x]:=List.take_of_length_le (by simp)
     rw [e2]
     simp [sPer,fzO]
   · have h2:¬0<=z:=by simpa using h2
     have:txU [a,b,c,d]= [x]:=by
      unfold txU
      rw [<-hy,<-hz,if_pos h,if_neg h2,Zqj h hx]
      rfl
     rw [this]
     simp [fzO]
 · have h:¬0<=y:=by simpa using h
   refine ⟨by decide,by decide,by show 4<=1000000000;decide,fun z hz=>⟨fun h2=> ?_,fun h2=> ?_⟩⟩
   · have h2:0<=z:=by simpa using h2
     rw [<-hz] at i2
     refine ⟨h2,by rw [L4];omega,fun x2 hx2=>⟨⟨Nat.le_refl _,hf,by omega⟩,?_⟩⟩
     have:txU [a,b,c,d]= [sPer,x2]:=by
      unfold txU
      rw [<-hy,<-hz,if_neg h,if_pos h2,Zqj h2 hx2]
      rfl
     rw [this]
     simp [sPer,fzO]
   · have h2:¬0<=z:=by simpa using h2
     have:txU [a,b,c,d]= []:=by
      unfold txU
      rw [<-hy,<-hz,if_neg h,if_neg h2]
      rfl
     rw [this]
     simp [fzO]
noncomputable def Sunp:Sum thy:=sumB E Th.strs dDim (fun l x=>1<=l.length/\l.length+8<=1000000000) fun (l:List (List Nat)) x=>l++txU [x.1.getD 0 0,x.1.getD 1 0,x.1.getD 2 0,x.1.getD 3 0]
theorem Z6k:SumOk E 119 Sunp:=Zif E_ok (Zc rfl) fun x=>⟨fun l fz hf h=>Z1k l fz _ _ _ _ hf h.2,fun h=>absurd h.1 (by decide)⟩
noncomputable def Sxp (m:Nat):Sum thy:=sumB E Th.strs dExp (fun l x=>x.1.sz<m/\Z7 x.1=true/\1<=l.length/\l.length+8*x.1.sz+8<=1000000000) fun (l:List (List Nat)) x=>l++txX x.1
theorem Zn7 (n:Int) (v:Int):Zl E F0 (vc E F0 400) 121 [.int false .i64 n] hp0 0 (fun r=>ret E (patch hp0 0 r) r.v (.int false .i64 v))=(
((n==(3:Int))=true->(1:Int)=v)/\((n==(3:Int))=false->((n==(4:Int))=true->(1:Int)=v)/\((n==(4:Int))=false->((n==(5:Int))=true->(2:Int)=v)/\((n==(5:Int))=false->(3:Int)=v)))):=by kernel_rfl
noncomputable def Zxt:Sum thy:=Vv (dA1 dN) (fun _=>True) (fun x=>tightF x.1) fun y=> .int false .i64 y
noncomputable def Fop' (m:Nat):Fns thy:=addS (addS F0 121 Zxt) 79 (Sxp m)
abbrev qCD7 (a0:Ex):=(Ex.mk (Ex.op a0) (Ex.n a0) (Ex.d0 a0) (Ex.d1 a0) (Ex.d2 a0) (Ex.d3 a0) (Ex.l a0))
abbrev qCD8 (a0:List (List Nat)):=(List.take (List.length a0) a0++ [[(40:Nat)]])
theorem Zs6 (m:Nat) (l:List (List Nat)) (fz:Nat) (x:Ex) (n:Int) (l':List (List Nat)):Zl E (Fop' m) (vc E (Fop' m) 400) 120 [.ptr 0 0,exA x,.int false .i64 n] (hpP E Th.strs (some (l,fz))) 2 (prnK E Th.strs (some (l,fz)) l')=(
 True/\∀(y:Int),y=tightF (Ex.op x)->(decide (y>=n)=true->(List.length l=List.length l/\fz<=List.length l/\Ex.sz (qCD7 x)+(1:Nat)<=m/\Z7 (qCD7 x)=true/\(1:Nat)<=List.length l/\List.length l+(8:Nat)*Ex.sz (qCD7 x)+(8:Nat)<=(1000000000:Nat))/\∀(l'_1:List (List Nat)),l'_1=l++txX (qCD7 x)->l'_1=l'/\List.length l'_1=List.length l'/\fzO (some (l,fz))=fzO (some (l,fz)))/\(decide (y>=n)=false->(List.length l<=List.length l/\fz<=List.length l/\(List.length l+(1:Nat))*(16:Nat)<=(140737488355328:Nat))/\(List.length l+(1:Nat)=List.length (qCD8 l)/\fz<=List.length (qCD8 l)/\Ex.sz (qCD7 x)+(1:Nat)<=m/\Z7 (qCD7 x)=true/\(1:Nat)<=List.length (qCD8 l)/\List.length (qCD8 l)+(8:Nat)*Ex.sz (qCD7 x)+(8:Nat)<=(1000000000:Nat))/\∀(l'_1:List (List Nat)),l'_1=List.take (List.length l) l++ [[(40:Nat)]]++txX (qCD7 x)->(List.length l'_1<=List.length l'_1/\fzO (some (List.take (List.length l) l++ [[(40:Nat)]],fz))<=List.length l'_1/\(List.length l'_1+(1:Nat))*(16:Nat)<=(140737488355328:Nat))/\List.take (List.length l'_1) l'_1++ [[(41:Nat)]]=l'/\List.length l'_1+(1:Nat)=List.length l'/\fzO (some (List.take (List.length l) l++ [[(40:Nat)]],fz))=fzO (some (l,fz)))):=by kernel_rfl
noncomputable def Z93 (m:Nat):Sum thy:=sumB E Th.strs Z9y (fun l x=>x.1.sz<m/\Z7 x.1=true/\1<=l.length/\l.length+8*x.1.sz+10<=1000000000) fun (l:List (List Nat)) x=>l++par x.1.op x.2.1 (txX x.1)
noncomputable def Fxp' (m:Nat):Fns thy:=addS (addS (addS (addS Fpu 119 Sunp) 121 Zxt) 79 (Sxp m)) 120 (Z93 m)
theorem Zs7 (n:Int):PureC E 121 [.int false .i64 n] (.int false .i64 (tightF n)):=by
 refine Za E_ok (Zg E_ok F0_ok 400) ?_
 rw [Zn7]
 unfold tightF
 refine ⟨fun h=> ?_,fun h=>⟨fun h2=> ?_,fun h2=>⟨fun h3=> ?_,fun h3=> ?_⟩⟩⟩
 all_goals simp at*
 all_goals simp [*]
theorem Zla:SumOk E 121 Zxt:=Z9 E_ok (Zc rfl) fun x _=>Zs7 x.1
def PxOk (m:Nat):Prop:=∀x:Ex,x.sz<m->Z7 x=true->∀(l:List (List Nat)) (fz:Nat),fz<=l.length->1<=l.length->l.length+8*x.sz+8<=1000000000->PrnC E 79 Th.strs [exA x] (some (l,fz)) (l++txX x)
theorem Zxu {m:Nat} (h:PxOk m):SumOk E 79 (Sxp m):=Zif E_ok (Zc rfl) fun x=>⟨fun l fz hf hp=>h x.1 hp.1 hp.2.1 l fz hf hp.2.2.1 hp.2.2.2,fun hp=>absurd hp.2.2.1 (by decide)⟩
theorem Z6l {m:Nat} (h:PxOk m):FnsOk E (Fop' m):=Zb (Zb F0_ok Zla) (Zxu h)
mutual
theorem Y3:∀(x:Ex),(txX x).length+2<=8*x.sz
 | .mk op n a b c d l=>by
  have h:=Zxv l
  have hs:∀ss:List (List Nat),(txS (txL l) ss).length+0<=8*Ex.szL l:=fun ss=>Zxw (txL l) ss (8*Ex.szL l) h
  have hU:(txU [a,b,c,d]).length<=3:=by
   unfold txU
   rw [List.length_append]
   split<;>split<;>simp
  have hp:∀op least t,(par op least t).length<=t.length+2:=by
   intro op least t
   unfold par
   split
   · omega
   · simp
  have h2:=Z1l (txL l) _ h
  rw [txX,Ex.sz]
  unfold txN
  split
  · rw [List.length_cons];omega
  · split
    · simp;omega
    · split
      · have:=hs [Zby,Z6,Z6,Z0]
        rw [List.length_cons,List.length_cons]
        omega
      · split
        · rw [List.length_append,List.length_cons]
          have a1:=hp ((l.map Ex.op).getD 0 0) (tightF op) ((txL l).getD 0 [])
          have a2:=hp ((l.map Ex.op).getD 1 0) (tightF op+1) ((txL l).getD 1 [])
          omega
        · have:=hs [Z6,Z0]
          rw [List.length_cons,List.length_cons]
          omega
theorem Zxv:∀(l:List Ex),((txL l).map fun t=>t.length+2).sum<=8*Ex.szL l
 | []=>by simp [txL]
 |x::r=>by
  have h1:=Y3 x
  have h2:=Zxv r
  rw [txL,Ex.szL,List.map_cons,List.sum_cons]
  omega
theorem Zxw:∀(ts:List (List (List Nat))) (ss:List (List Nat)) (b:Nat),(ts.map fun t=>t.length+2).sum<=b->(txS ts ss).length+0<=b
 | [],_,_,h=>by simp [txS]
 |t::r,[],_,h=>by simp [txS]
 |t::r,s::ss,b,h=>by
  rw [List.map_cons,List.sum_cons] at h
  have:=Zxw r ss (b-(t.length+2)) (by omega)
  rw [txS,List.length_append,List.length_cons]
  omega
theorem Z1l:∀(ts:List (List (List Nat))) (b:Nat),(ts.map fun t=>t.length+2).sum<=b->(ts.getD 0 []).length+(ts.getD 1 []).length<=b
 | [],_,_=>by simp
 | [t],_,h=>by simp at h⊢;omega
 |t::u::r,_,h=>by simp at h⊢;omega
end
theorem Z1m {m:Nat} (hm:PxOk m) (l:List (List Nat)) (fz:Nat) (x:Ex) (n:Int) (hx:x.sz<m) (hxf:Z7 x=true) (hf:fz<=l.length) (h1:1<=l.length) (hl:l.length+8*x.sz+10<=1000000000):PrnC E 120 Th.strs [exA x,.int false .i64 n] (some (l,fz)) (l++par x.op n (txX x)):=by
 refine Zxr (Z6l hm) (n:=400) rfl ?_
 rw [Zs6];delta qCD7 qCD8
 have ht:=Y3 x
 simp only [fzO,List.take_length,Ex.eta,forall_eq,decide_eq_true_eq,decide_eq_false_iff_not,true_and,and_true]
 refine ⟨fun h=>⟨⟨hf,hx,hxf,h1,by omega⟩,?_⟩,fun h=>⟨⟨Nat.le_refl _,hf,by omega⟩,⟨by simp,by simp;omega,hx,hxf,by simp,by simp;omega⟩,⟨Nat.le_refl _,by simp;omega,by simp;omega⟩,?_⟩⟩
 · have:par x.op n (txX x)=txX x:=by unfold par;rw [if_pos h]
   rw [this]
   exact ⟨rfl,rfl⟩
 · have:par x.op n (txX x)=Xa::(txX x++ [Z0]):=by unfold par;rw [if_neg h]
   rw [this]
   simp [Xa,Z0]
   omega
theorem Z1n {m:Nat} (h:PxOk m):SumOk E 120 (Z93 m):=Zif E_ok (Zc rfl) fun x=>⟨fun l fz hf hp=>Z1m h l fz x.1 x.2.1 hp.1 hp.2.1 hf hp.2.2.1 hp.2.2.2,fun hp=>absurd hp.2.2.1 (by decide)⟩
theorem Z6m {m:Nat} (h:PxOk m):FnsOk E (Fxp' m):=Zb (Zb (Zb (Zb Zqi Z6k) Zla) (Zxu h)) (Z1n h)
end
section
open Go
def dD (u:Nat):List Nat:=(Lib.decDigits u).map UInt8.toNat
theorem Zbw {u:Nat} (h:u<10):dD u= [48+u]:=by
 unfold dD
 rw [Lib.decDigits,dif_pos h]
 have:(UInt8.ofNat (48+u)).toNat=48+u:=by
  rw [UInt8.toNat_ofNat']
  omega
 simp only [List.map_cons,List.map_nil,this]
theorem Zkx {u:Nat} (h:¬u<10):dD u=dD (u/10)++ [48+u%10]:=by
 unfold dD
 rw [Lib.decDigits,dif_neg h]
 have:(UInt8.ofNat (48+u%10)).toNat=48+u%10:=by
  rw [UInt8.toNat_ofNat']
  omega
 rw [List.map_append]
 simp only [List.map_cons,List.map_nil,this]
theorem Zww {n:Int} (h:0<=n):decN n=dD n.toNat:=by
 unfold decN dD Lib.itoa
 rw [if_neg (by omega)]
theorem Zp9:∀{a b:List Nat} {n m:Int},numL n a=(m,0)->numL n (a++b)=numL m b
 | [],b,n,m,h=>by
  unfold numL at h
  cases h
  rfl
 |c::r,b,n,m,h=>by
  unfold numL at h
  rw [List.cons_append]
  unfold numL
  split at h
  · cases h
  · rename_i hn
    rw [if_neg hn,Zp9 h]
    cases b<;>rfl
theorem Z0s (u:Nat):dD u≠ []:=by
 by_cases h:u<10
 · rw [Zbw h];simp
 · rw [Zkx h];simp
theorem Z9g:∀(u:Nat),u<=1099511627776->numL 0 (dD u)=((u:Int),0):=by
 intro u
 induction u using Nat.strongRecOn with
 |_ u ih=>
  intro hu
  by_cases h:u<10
  · rw [Zbw h]
    unfold numL
    rw [if_neg (by omega)]
    unfold numL
    congr 1
    omega
  · rw [Zkx h,Zp9 (ih (u/10) (by omega) (by omega))]
    unfold numL
    rw [if_neg (by omega)]
    unfold numL
    congr 1
    omega
theorem Z9h:∀(u:Nat),∀c∈dD u,isD (c:Int)=true:=by
 intro u
 induction u using Nat.strongRecOn with
 |_ u ih=>
  have one:∀k:Nat,k<10->isD ((48+k:Nat):Int)=true:=by
   intro k hk
   unfold isD
   simp
   omega
  by_cases h:u<10
  · rw [Zbw h]
    intro c hc
    rw [List.mem_singleton] at hc
    subst hc
    exact one u h
  · rw [Zkx h]
    intro c hc
    rcases List.mem_append.1 hc with hc|hc
    · exact ih (u/10) (by omega) c hc
    · rw [List.mem_singleton] at hc
      subst hc
      exact one _ (by omega)
theorem Z5p:∀(u:Nat),1<(dD u).length->(dD u).head?≠some 48:=by
 intro u
 induction u using Nat.strongRecOn with
 |_ u ih=>
  by_cases h:u<10
  · rw [Zbw h]
    intro hl
    simp at hl
  · rw [Zkx h]
    intro _
    have e:(dD (u/10)++ [48+u%10]).head? =(dD (u/10)).head? :=by
     cases hd:dD (u/10) with
     |nil=>exact absurd hd (Z0s _)
     |cons x r=>rfl
    rw [e]
    by_cases h2:u/10<10
    · rw [Zbw h2]
      intro k
      injection k with k
      omega
    · refine ih (u/10) (by omega) ?_
      rw [Zkx h2,List.length_append]
      have:=Z0s (u/10/10)
      cases hd:dD (u/10/10) with
      |nil=>exact absurd hd this
      |cons x r=>simp
theorem Zmw {n:Int} (h0:0<=n) (h1:n<=1099511627776):tokP (decN n)=(⟨2,decN n,n,0⟩,0):=by
 rw [Zww h0]
 have hne:=Z0s n.toNat
 have hd:=Z9h n.toNat
 have hn:=Z9g n.toNat (by omega)
 have hh:=Z5p n.toNat
 have hc:((n.toNat:Nat):Int)=n:=by omega
 generalize dD n.toNat=w at*
 cases w with
 |nil=>exact absurd rfl hne
 |cons c r=>
  rw [Z8]
  have hdc:=hd c (by simp)
  have hl:isL (c:Int)=false:=by
   unfold isD at hdc
   unfold isL
   simp at hdc⊢
   omega
  rw [if_neg (by rw [hl];decide),if_pos hdc,Xr hd,List.take_length]
  have:numb (c::r)=(n,0):=by
   unfold numb
   rw [if_neg (fun k=>hh k.1 k.2),hn,hc]
  rw [this]
theorem Zdp {n:Int} (h0:0<=n) (h1:n<=1099511627776):TokW (decN n):=by
 refine ⟨by rw [Zmw h0 h1],by rw [Zmw h0 h1],?_⟩
 rw [Zww h0]
 exact Z0s _
theorem Zwx {n:Int} (h0:0<=n) (h1:n<=1099511627776):tkS (decN n)=⟨2,decN n,n,0⟩:=by
 unfold tkS
 rw [Zmw h0 h1]
 rfl
theorem Ybi {c:Nat} (h:wb c=true):isLD (c:Int)=true:=by
 unfold wb at h
 unfold isLD isL isD
 simp at h⊢
 omega
theorem Zdq {s:List Nat} (h:X2 s=true):tokP s=(⟨1,s,0,0⟩,0):=by
 unfold X2 at h
 rw [Bool.and_eq_true,Bool.and_eq_true,decide_eq_true_eq] at h
 obtain ⟨⟨h1,h2⟩,h3⟩:=h
 cases s with
 |nil=>cases h2
 |cons c r=>
  have hc:isL (c:Int)=true:=by
   unfold lowF at h2
   unfold isL
   simp at h2⊢
   omega
  rw [Z8,if_pos hc,Xr fun c hc=>Ybi (List.all_eq_true.1 h3 c hc),if_neg (by omega),List.take_length]
theorem Ze5 {s:List Nat} (h:X2 s=true):TokW s:=by
 refine ⟨by rw [Zdq h],by rw [Zdq h],?_⟩
 rintro rfl
 simp [X2,lowF] at h
theorem Zik {s:List Nat} (h:X2 s=true):tkS s=⟨1,s,0,0⟩:=by
 unfold tkS
 rw [Zdq h]
 rfl
theorem Z0t:∀k:WK,∀w∈k.words,X2 w=true:=by
 intro k
 cases k<;>decide
theorem Zqa {k:WK} {i:Nat} (h:i<k.words.length):k.words.getD i []∈k.words:=by
 have:k.words.getD i []=k.words[i]:=by simp [List.getD,h]
 rw [this]
 exact List.getElem_mem h
theorem Zil {k:WK} {i:Nat} (h:i<k.words.length):X2 (k.words.getD i [])=true:=Z0t k _ (Zqa h)
theorem Z5q {k:WK} {i:Nat} (h:i<k.words.length):tkS (k.words.getD i [])=⟨1,k.words.getD i [],0,0⟩:=Zik (Zil h)
theorem Z9i:∀k:WK,∀i,i<k.words.length->idxS (k.words.getD i []) 0 k.words=i:=by
 intro k
 cases k<;>decide
theorem Zc9 {k:WK} {i:Nat} (h:i<k.words.length) (r:List Tok):chz k.words (tkS (k.words.getD i [])::r)=i:=by
 rw [Z5q h]
 show (if (1:Int)=1 then idxS (k.words.getD i []) 0 k.words else-1)=i
 rw [if_pos rfl,Z9i k i h]
def Fl0 (r:List Tok):Prop:=¬0<=chz WK.un.words r/\isW sPer r=false
end
section
open Go
theorem Zcx {o:List Tok->Int×List Tok} {pf:PE} (ho:∀l,(o l).2.length<=l.length) (hp:Shr pf):∀(k k':Nat) (x:Ex) (op:Int) (l:List Tok) (e:Int),l.length<k->l.length<k'->Yu o pf k x op l e=Yu o pf k' x op l e
 |0,_,_,_,_,_,h,_=>by omega
 |_+1,0,_,_,_,_,_,h=>by omega
 |k+1,k'+1,x,op,l,e,h,h'=>by
  unfold Yu
  split
  · rfl
  · cases hq:pf l e with
    |error er=>rfl
    |ok y=>
     have h1:=hp _ _ _ _ hq
     have h2:=ho y.2.1
     exact Zcx ho hp k k' _ _ _ _ (by omega) (by omega)
def pRx (o:List Tok->Int×List Tok) (pf:PE) (x:Ex) (op:Int) (l:List Tok) (e:Int):PR Ex:=Yu o pf (l.length+1) x op l e
theorem Z3d {o:List Tok->Int×List Tok} {pf:PE} (ho:∀l,(o l).2.length<=l.length) (hp:Shr pf) (x:Ex) (op:Int) (l:List Tok) (e:Int):
 pRx o pf x op l e=if op=0 then .ok (x,l,e,()) else match pf l e with
  | .error er=> .error er
  | .ok (y,z)=>pRx o pf (.mk op 0 0 0 0 0 [x,y]) (o z.1).1 (o z.1).2 z.2.1:=by
 unfold pRx
 rw [Yu]
 split
 · rfl
 · cases hq:pf l e with
   |error er=>rfl
   |ok y=>
    have h1:=hp _ _ _ _ hq
    have h2:=ho y.2.1
    exact Zcx ho hp _ _ _ _ _ _ (by omega) (by omega)
theorem Zlg (l:List Tok):(op1 l).2.length<=l.length:=Zls l
theorem Zlh (l:List Tok):(op2 l).2.length<=l.length:=Zlt l
def Agr (n:Nat) (p q:PE):Prop:=∀l e,l.length<n->p l e=q l e
theorem Zql {n:Nat} {p q:PE} (hp:Shr p) (h:Agr n p q):∀(ss:List (List Nat)) (acc:List Ex) (l:List Tok) (e:Int),l.length<n->pOpL p ss acc l e=pOpL q ss acc l e
 | [],_,_,_,_=>rfl
 |s::r,acc,l,e,hl=>by
  unfold pOpL
  rw [<-h l e hl]
  cases hq:p l e with
  |error er=>rfl
  |ok y=>
   have h1:=hp _ _ _ _ hq
   dsimp only
   split
   · refine Zql hp h r _ _ _ ?_
     rw [List.length_tail]
     omega
   · rfl
theorem Zqm {n:Nat} {p q:PE} (hp:Shr p) (h:Agr n p q) (op:Int) (ss:List (List Nat)) (l:List Tok) (e:Int) (hl:l.length<n+1):pOps p op ss l e=pOps q op ss l e:=by
 unfold pOps
 split
 · rename_i hw
   have:=Zm hw
   rw [Zql hp h ss [] l.tail e (by omega)]
 · rfl
theorem Zli {n:Nat} {p q:PE} (hp:Shr p) (h:Agr n p q) (l:List Tok) (e:Int) (hl:l.length<n+1):Vp p l e=Vp q l e:=by
 unfold Vp
 split
 · rename_i hw
   have:=Zm hw
   rw [h l.tail e (by omega)]
 · split
   · rename_i hw
     have:=Zm hw
     rw [Zqm hp h _ _ l.tail e (by omega)]
   · cases hc:Zq WK.ca.words l e with
     |error er=>rfl
     |ok y=>
      obtain ⟨y0,y1⟩:=y
      have:y1.1.length<=l.length:=by
       rcases Y8 hc with ⟨_,_,rfl⟩|⟨_,_,rfl⟩
       · show l.tail.length<=l.length
         rw [List.length_tail]
         omega
       · exact Nat.le_refl _
      dsimp only
      split
      · exact Zqm hp h _ _ _ _ (by omega)
      · rfl
theorem Zqn {n:Nat} {p q:PE} (hp:Shr p) (h:Agr n p q):Agr (n+1) (pFac p) (pFac q):=by
 intro l e hl
 unfold pFac
 split
 · exact Zli hp h _ _ hl
 · split
   · rfl
   · exact Zli hp h _ _ hl
theorem Zlj {n:Nat} {o:List Tok->Int×List Tok} (ho:∀l,(o l).2.length<=l.length) {p q:PE} (hp:Shr p) (h:Agr n p q):∀(k:Nat) (x:Ex) (op:Int) (l:List Tok) (e:Int),l.length<n->Yu o p k x op l e=Yu o q k x op l e
 |0,_,_,_,_,_=>rfl
 |k+1,x,op,l,e,hl=>by
  unfold Yu
  split
  · rfl
  · rw [<-h l e hl]
    cases hq:p l e with
    |error er=>rfl
    |ok y=>
     have h1:=hp _ _ _ _ hq
     have h2:=ho y.2.1
     exact Zlj ho hp h k _ _ _ _ (by omega)
theorem Zi4 {n:Nat} {o:List Tok->Int×List Tok} (ho:∀l,(o l).2.length<=l.length) {p q:PE} (hp:Shr p) (h:Agr n p q):Agr n (pCh o p) (pCh o q):=by
 intro l e hl
 unfold pCh
 rw [<-h l e hl]
 cases hq:p l e with
 |error er=>rfl
 |ok y=>
  have h1:=hp _ _ _ _ hq
  have h2:=ho y.2.1
  exact Zlj ho hp h _ _ _ _ _ (by omega)
theorem Z3e (n:Nat):Shr (pE n):=(Wt n).shr
theorem Zdt {pe:PE} (h:Bnd pe):Shr (pFac pe):=(Wc h).shr
theorem Z3f:∀(n m:Nat),n<=m->Agr n (pE n) (pE m)
 |0,m,_=>fun l e hl=>by omega
 |n+1,m+1,h=>by
  have ih:=Z3f n m (by omega)
  unfold pE
  refine Zi4 Zlh (V5 Zan (Wc (Wt n))).shr ?_
  exact Zi4 Zlg (Zdt (Wt n)) (Zqn (Z3e n) ih)
theorem Z3g (n:Nat):Agr n (pE n) pX:=by
 intro l e hl
 unfold pX
 exact (Z3f (l.length+1) n (by omega) l e (Nat.lt_succ_self _)).symm
def pf:PE:=pFac pX
def pt:PE:=pCh op1 pf
theorem Ybp (l:List Tok) (e:Int):pX l e=pCh op2 pt l e:=by
 show pE (l.length+1) l e=_
 rw [pE]
 refine Zi4 (n:=l.length+1) Zlh (V5 Zan (Wc (Wt _))).shr ?_ l e (Nat.lt_succ_self _)
 exact Zi4 Zlg (Zdt (Wt _)) (Zqn (Z3e _) (Z3g _))
theorem pf_bnd:Bnd pf:=Wc Zje
theorem pt_bnd:Bnd pt:=V5 Zan pf_bnd
theorem Z96:Shr pf:=pf_bnd.shr
theorem Z97:Shr pt:=pt_bnd.shr
theorem Ybq (l:List Tok) (e:Int):pt l e=match pf l e with
 | .error er=> .error er
 | .ok (y,z)=>pRx op1 pf y (op1 z.1).1 (op1 z.1).2 z.2.1:=rfl
theorem Z6p (x:Ex) (op:Int) (l:List Tok) (e:Int):pRx op1 pf x op l e=if op=0 then .ok (x,l,e,()) else match pf l e with
 | .error er=> .error er
 | .ok (y,z)=>pRx op1 pf (.mk op 0 0 0 0 0 [x,y]) (op1 z.1).1 (op1 z.1).2 z.2.1:=Z3d Zlg Z96 x op l e
theorem Z6q (x:Ex) (op:Int) (l:List Tok) (e:Int):pRx op2 pt x op l e=if op=0 then .ok (x,l,e,()) else match pt l e with
 | .error er=> .error er
 | .ok (y,z)=>pRx op2 pt (.mk op 0 0 0 0 0 [x,y]) (op2 z.1).1 (op2 z.1).2 z.2.1:=Z3d Zlh Z97 x op l e
theorem Z98 (l:List Tok) (e:Int):pX l e=match pt l e with
 | .error er=> .error er
 | .ok (y,z)=>pRx op2 pt y (op2 z.1).1 (op2 z.1).2 z.2.1:=Ybp l e
abbrev TS (ws:List (List Nat)):List Tok:=ws.map tkS
def d0:List Int:= [0,0,0,0]
theorem Ybr {r:List Tok} (h:Fl0 r) (e:Int):Y6 r e= .ok (d0,r,e,()):=by
 unfold Y6 Zq
 rw [if_neg h.1]
 dsimp only
 rw [if_neg (by rw [h.2];decide)]
 rfl
theorem Ybs {i:Nat} (hi:i<4) {r:List Tok} (h:isW sPer r=false) (e:Int):Y6 (tkS (WK.un.words.getD i [])::r) e= .ok (incD d0 i,r,e,()):=by
 unfold Y6 Zq
 rw [Zc9 (k:= .un) hi,if_pos (by omega)]
 dsimp only [List.tail_cons]
 rw [if_neg (by rw [h];decide)]
 rfl
theorem Z3h {s w:List Nat} (hw:X2 w=true) (r:List Tok):isW s (tkS w::r)=(w==s):=by
 rw [Zik hw]
 rfl
theorem Z6r (r:List Tok):¬0<=chz WK.un.words (tkS sPer::r):=by
 have:chz WK.un.words (tkS sPer::r)= -1:=rfl
 omega
theorem Zx4 (r:List Tok):isW sPer (tkS sPer::r)=true:=rfl
theorem Ybt {j:Nat} (hj:j<4) (r:List Tok) (e:Int):Y6 (tkS sPer::tkS (WK.un.words.getD j [])::r) e= .ok (decD d0 j,r,e,()):=by
 unfold Y6 Zq
 rw [if_neg (Z6r _)]
 dsimp only [List.tail_cons]
 rw [if_pos (Zx4 _)]
 unfold Yg
 rw [Zc9 (k:= .un) hj,if_pos (by omega)]
 rfl
theorem Ybu {i j:Nat} (hi:i<4) (hj:j<4) (r:List Tok) (e:Int):Y6 (tkS (WK.un.words.getD i [])::tkS sPer::tkS (WK.un.words.getD j [])::r) e= .ok (decD (incD d0 i) j,r,e,()):=by
 unfold Y6 Zq
 rw [Zc9 (k:= .un) hi,if_pos (by omega)]
 dsimp only [List.tail_cons]
 rw [if_pos (Zx4 _)]
 unfold Yg
 rw [Zc9 (k:= .un) hj,if_pos (by omega)]
 rfl
theorem Z1t {a b c d:Int} (h:Ua [a,b,c,d]=true):in1 a=true/\in1 b=true/\in1 c=true/\in1 d=true:=by
 rw [Ztt] at h
 rw [Bool.and_eq_true] at h
 simpa using h.1
theorem Zb9 {a:Int} (h:in1 a=true):a= -1\/a=0\/a=1:=by
 unfold in1 at h
 simp at h
 omega
def UnF (u:List Int):Prop:=(u=d0/\txU u= [])\/(∃i,i<4/\u=incD d0 (i:Nat)/\txU u= [WK.un.words.getD i []])\/(∃j,j<4/\u=decD d0 (j:Nat)/\txU u= [sPer,WK.un.words.getD j []])\/(∃i,i<4/\∃j,j<4/\u=decD (incD d0 (i:Nat)) (j:Nat)/\txU u= [WK.un.words.getD i [],sPer,WK.un.words.getD j []])
instance (u:List Int):Decidable (UnF u):=by unfold UnF;infer_instance
theorem unF {a b c d:Int} (h:Ua [a,b,c,d]=true):UnF [a,b,c,d]:=by
 obtain ⟨ha,hb,hc,hd⟩:=Z1t h
 revert h
 rcases Zb9 ha with rfl|rfl|rfl<;>rcases Zb9 hb with rfl|rfl|rfl<;>rcases Zb9 hc with rfl|rfl|rfl<;>rcases Zb9 hd with rfl|rfl|rfl
 all_goals (clear ha hb hc hd;decide)
theorem Zx5 {a b c d:Int} (h:Ua [a,b,c,d]=true) {r:List Tok} (hr:Fl0 r) (e:Int):Y6 (TS (txU [a,b,c,d])++r) e= .ok ([a,b,c,d],r,e,()):=by
 rcases unF h with ⟨h1,h2⟩|⟨i,hi,h1,h2⟩|⟨j,hj,h1,h2⟩|⟨i,hi,j,hj,h1,h2⟩
 · rw [h2,h1]
   exact Ybr hr e
 · rw [h2,h1]
   exact Ybs hi hr.2 e
 · rw [h2,h1]
   exact Ybt hj r e
 · rw [h2,h1]
   exact Ybu hi hj r e
def Fl1 (r:List Tok):Prop:=Fl0 r/\isW sMul r=false
def Fl2 (r:List Tok):Prop:=Fl1 r/\isW Zap r=false/\isW W6 r=false
theorem Z3i {r:List Tok} (h:isW sMul r=false):op1 r=(0,r):=by unfold op1;rw [if_neg (by rw [h];decide)]
theorem Z99 {r:List Tok} (h:Fl2 r):op2 r=(0,r):=by unfold op2;rw [if_neg (by rw [h.2.1];decide),if_neg (by rw [h.2.2];decide)]
theorem Yaa {w:List Nat} {r:List Tok} (h:(tkS w).kind=3):∀ws:List (List Nat),chz ws (tkS w::r)= -1:=by
 intro ws
 show (if (tkS w).kind=1 then _ else-1)=_
 rw [if_neg (by rw [h];decide)]
theorem Zbb {w:List Nat} (r:List Tok) (h:(tkS w).kind=3) (h2:isW sPer (tkS w::r)=false):Fl0 (tkS w::r):=⟨by rw [Yaa h];decide,h2⟩
theorem Zca (r:List Tok):Fl2 (tkS Z0::r):=⟨⟨Zbb r rfl rfl,rfl⟩,rfl,rfl⟩
theorem Zfo (r:List Tok):Fl2 (tkS Z6::r):=⟨⟨Zbb r rfl rfl,rfl⟩,rfl,rfl⟩
theorem Z1u (r:List Tok):Fl2 (tkS Zby::r):=⟨⟨Zbb r rfl rfl,rfl⟩,rfl,rfl⟩
theorem Z1v (r:List Tok):Fl2 (tkS Zfc::r):=⟨⟨Zbb r rfl rfl,rfl⟩,rfl,rfl⟩
theorem Z6s (r:List Tok):Fl0 (tkS sMul::r):=Zbb r rfl rfl
theorem Z1w (r:List Tok):Fl1 (tkS Zap::r):=⟨Zbb r rfl rfl,rfl⟩
theorem Zx6 (r:List Tok):Fl1 (tkS W6::r):=⟨Zbb r rfl rfl,rfl⟩
structure Rdb (x:Ex):Prop where
 fac:3<=tightF x.op->∀r e,Fl0 r->pf (TS (txX x)++r) e= .ok (x,r,e,())
 term:2<=tightF x.op->∀r e,Fl0 r->pt (TS (txX x)++r) e=pRx op1 pf x (op1 r).1 (op1 r).2 e
 expr:∀r e,Fl1 r->pX (TS (txX x)++r) e=pRx op2 pt x (op2 r).1 (op2 r).2 e
theorem Rdb.all {x:Ex} (h:Rdb x) {r:List Tok} (hr:Fl2 r) (e:Int):pX (TS (txX x)++r) e= .ok (x,r,e,()):=by
 rw [h.expr r e hr.1,Z99 hr,Z6q,if_pos rfl]
theorem Zx7 {l:List Tok} {e:Int} {x:Ex} {r:List Tok} (h:pX l e= .ok (x,tkS Z0::r,e,())):pf (tkS Xa::l) e= .ok (x,r,e,()):=by
 have:pf (tkS Xa::l) e=(match pX l e with
  | .error er=> .error er
  | .ok (x,y)=>if isW Z0 y.1 then .ok (x,y.1.tail,y.2.1,()) else .error (hdT y.2.1 y.1,160)):=rfl
 rw [this,h]
 rfl
theorem Zfp (w:List Nat) (ws:List (List Nat)):TS (w::ws)=tkS w::TS ws:=rfl
theorem Zlk (a b:List (List Nat)):TS (a++b)=TS a++TS b:=List.map_append
theorem Rdb.par3 {x:Ex} (h:Rdb x) {r:List Tok} (hr:Fl0 r) (e:Int):pf (TS (par x.op 3 (txX x))++r) e= .ok (x,r,e,()):=by
 unfold par
 split
 · exact h.fac (by assumption) r e hr
 · have e1:TS (Xa::(txX x++ [Z0]))++r=tkS Xa::(TS (txX x)++tkS Z0::r):=by simp
   rw [e1]
   exact Zx7 (h.all (Zca r) e)
theorem Zqo {l r:List Tok} {e:Int} {x:Ex} (h:pf l e= .ok (x,r,e,())):pt l e=pRx op1 pf x (op1 r).1 (op1 r).2 e:=by rw [Ybq,h]
theorem Rdb.par2 {x:Ex} (h:Rdb x) {r:List Tok} (hr:Fl0 r) (e:Int):pt (TS (par x.op 2 (txX x))++r) e=pRx op1 pf x (op1 r).1 (op1 r).2 e:=by
 unfold par
 split
 · exact h.term (by assumption) r e hr
 · have e1:TS (Xa::(txX x++ [Z0]))++r=tkS Xa::(TS (txX x)++tkS Z0::r):=by simp
   rw [e1]
   exact Zqo (Zx7 (h.all (Zca r) e))
theorem Zx8 (op:Int):1<=tightF op:=by unfold tightF;split<;>(try split)<;>decide
theorem Rdb.par1 {x:Ex} (h:Rdb x) {r:List Tok} (hr:Fl1 r) (e:Int):pX (TS (par x.op 1 (txX x))++r) e=pRx op2 pt x (op2 r).1 (op2 r).2 e:=by
 unfold par
 rw [if_pos (Zx8 _)]
 exact h.expr r e hr
theorem Zfq {x:Ex} (hf:3<=tightF x.op->∀r e,Fl0 r->pf (TS (txX x)++r) e= .ok (x,r,e,())) (ht:∀r e,Fl0 r->pt (TS (txX x)++r) e=pRx op1 pf x (op1 r).1 (op1 r).2 e):Rdb x:=
 ⟨hf,fun _=>ht,fun r e hr=>by rw [Z98,ht r e hr.1,Z3i hr.2,Z6p,if_pos rfl]⟩
theorem Zad {x:Ex} (h:∀r e,Fl0 r->pf (TS (txX x)++r) e= .ok (x,r,e,())):Rdb x:=
 Zfq (fun _=>h) fun r e hr=>Zqo (h r e hr)
theorem Zqp {e:Int}:∀{xs:List Ex} {ss:List (List Nat)} {acc:List Ex} {r:List Tok},xs.length=ss.length->(∀x∈xs,Rdb x)->(∀s∈ss,(∀r,Fl2 (tkS s::r))/\∀r,isW s (tkS s::r)=true)->pOpL pX ss acc (TS (txS (txL xs) ss)++r) e= .ok (acc++xs,r,e,())
 | [],[],acc,r,_,_,_=>by simp [pOpL,txL,txS]
 |x::xs,s::ss,acc,r,hl,hx,hs=>by
  have e1:TS (txS (txL (x::xs)) (s::ss))++r=TS (txX x)++tkS s::(TS (txS (txL xs) ss)++r):=by simp [txL,txS]
  rw [e1]
  unfold pOpL
  rw [(hx x (by simp)).all ((hs s (by simp)).1 _) e]
  dsimp only
  rw [if_pos ((hs s (by simp)).2 _),List.tail_cons,Zqp (by simpa using hl) (fun x h=>hx x (by simp [h])) (fun s h=>hs s (by simp [h]))]
  rw [List.append_assoc]
  rfl
theorem sg4:∀s∈ [Zby,Z6,Z6,Z0],(∀r,Fl2 (tkS s::r))/\∀r,isW s (tkS s::r)=true:=by
 intro s hs
 simp only [List.mem_cons,List.not_mem_nil,or_false] at hs
 rcases hs with rfl|rfl|rfl|rfl
 · exact ⟨Z1u,fun _=>rfl⟩
 · exact ⟨Zfo,fun _=>rfl⟩
 · exact ⟨Zfo,fun _=>rfl⟩
 · exact ⟨Zca,fun _=>rfl⟩
theorem sg2:∀s∈ [Z6,Z0],(∀r,Fl2 (tkS s::r))/\∀r,isW s (tkS s::r)=true:=by
 intro s hs
 simp only [List.mem_cons,List.not_mem_nil,or_false] at hs
 rcases hs with rfl|rfl
 · exact ⟨Zfo,fun _=>rfl⟩
 · exact ⟨Zca,fun _=>rfl⟩
theorem Zqq {op:Int} {xs:List Ex} {ss:List (List Nat)} {r:List Tok} {e:Int} (hl:xs.length=ss.length) (hx:∀x∈xs,Rdb x) (hs:∀s∈ss,(∀r,Fl2 (tkS s::r))/\∀r,isW s (tkS s::r)=true):
 pOps pX op ss (tkS Xa::(TS (txS (txL xs) ss)++r)) e= .ok (.mk op 0 0 0 0 0 xs,r,e,()):=by
 unfold pOps
 rw [if_pos (show isW Xa (tkS Xa::(TS (txS (txL xs) ss)++r))=true from rfl),List.tail_cons,Zqp hl hx hs]
 rfl
theorem Z3j:∀k:WK,∀w∈k.words,(w==Xa)=false/\(w==sIf)=false:=by intro k;cases k<;>decide
theorem Ybv:∀w∈WK.at_.words,idxS w 0 WK.ca.words= -1:=by decide
theorem Zx9 {k:WK} {i:Nat} (h:i<k.words.length) (r:List Tok) (e:Int):pf (tkS (k.words.getD i [])::r) e=(match Zq WK.ca.words (tkS (k.words.getD i [])::r) e with
 | .error er=> .error er
 | .ok (k,y)=>
  if k.2.1 then pOps pX (6+k.1) [Z6,Z0] y.1 y.2.1
  else match Yg WK.at_.words y.1 y.2.1 with
   | .error er=> .error er
   | .ok (a,z)=> .ok (.mk 2 a 0 0 0 0 [],z)):=by
 have h1:=Z3h (s:=Xa) (Zil h) r
 have h2:=Z3h (s:=sIf) (Zil h) r
 rw [(Z3j k _ (Zqa h)).1] at h1
 rw [(Z3j k _ (Zqa h)).2] at h2
 show (if (tkS (k.words.getD i [])).kind=2 then _ else Vp pX (tkS (k.words.getD i [])::r) e)=_
 rw [if_neg (by rw [Z5q h];show ¬(1:Int)=2;decide)]
 unfold Vp
 rw [if_neg (by rw [h1];decide),if_neg (by rw [h2];decide)]
 rfl
theorem Zcy {op n:Int} {u:List Int} {k:Nat} (h:Zc0 op n u k=true):1<=op/\op<=11/\0<=n/\n<=Zre op/\k=Zlz op/\Ua u=true/\(op=1\/u= [0,0,0,0]):=by
 unfold Zc0 at h
 simp only [Bool.and_eq_true,Bool.or_eq_true,decide_eq_true_eq] at h
 obtain ⟨⟨⟨⟨⟨⟨h1,h2⟩,h3⟩,h4⟩,h5⟩,h6⟩,h7⟩:=h
 exact ⟨h1,h2,h3,h4,h5,h6,h7⟩
theorem len2 {α:Type} {l:List α} (h:l.length=2):∃a b,l= [a,b]:=by
 match l,h with
 | [a,b],_=>exact ⟨a,b,rfl⟩
theorem rdb:∀(x:Ex),Z7 x=true->Rdb x:=by
 suffices H:∀(m:Nat) (x:Ex),x.sz<=m->Z7 x=true->Rdb x from fun x=>H _ x (Nat.le_refl _)
 intro m
 induction m with
 |zero=>intro x h;have:=x.sz_pos;omega
 |succ m ih=>
  intro x hm hf
  rw [Zbg,Bool.and_eq_true] at hf
  obtain ⟨hh,hl⟩:=hf
  have hkid:∀y∈x.l,Rdb y:=fun y hy=>ih y (by have:=Ex.sz_mem hy;omega) (formL_iff.1 hl y hy)
  obtain ⟨op,n,a,b,c,d,l⟩:=x
  simp only [Ex.op,Ex.n,Ex.u,Ex.d0,Ex.d1,Ex.d2,Ex.d3,Ex.l] at hh hkid
  obtain ⟨h1,h2,h3,h4,h5,h6,h7⟩:=Zcy hh
  clear hm hl hh
  have htx:txX (.mk op n a b c d l)=txN op n [a,b,c,d] (l.map Ex.op) (txL l):=by rw [txX]
  by_cases q1:op=1
  · subst q1
    have hl:l= []:=List.eq_nil_of_length_eq_zero (by rw [h5];rfl)
    subst hl
    refine Zad fun r e hr=> ?_
    rw [htx]
    unfold txN
    rw [if_pos rfl,Zfp,List.cons_append,Zwx h3 h4]
    show (match Y6 (TS (txU [a,b,c,d])++r) e with
     | .error er=>_
     | .ok (d,y)=>_)=_
    rw [Zx5 h6 hr e]
    rfl
  have hu:a=0/\b=0/\c=0/\d=0:=by
   rcases h7 with h7|h7
   · exact absurd h7 q1
   · simpa using h7
  obtain ⟨rfl,rfl,rfl,rfl⟩:=hu
  by_cases q2:op=2
  · subst q2
    have hl:l= []:=List.eq_nil_of_length_eq_zero (by rw [h5];rfl)
    subst hl
    have hn:n.toNat<WK.at_.words.length:=by
     have:n<=15:=h4
     show n.toNat<16
     omega
    refine Zad fun r e hr=> ?_
    rw [htx]
    unfold txN
    rw [if_neg q1,if_pos rfl]
    show pf (tkS (WK.at_.words.getD n.toNat [])::r) e=_
    rw [Zx9 hn]
    have hc:¬0<=chz WK.ca.words (tkS (WK.at_.words.getD n.toNat [])::r):=by
     rw [Z5q hn]
     show ¬0<=(if (1:Int)=1 then idxS (WK.at_.words.getD n.toNat []) 0 WK.ca.words else-1)
     rw [if_pos rfl,Ybv _ (Zqa hn)]
     decide
    unfold Zq
    rw [if_neg hc]
    dsimp only
    rw [if_neg (by decide)]
    unfold Yg
    rw [Zc9 hn,if_pos (by omega)]
    dsimp only [List.tail_cons]
    rw [show ((n.toNat:Nat):Int)=n by omega]
  have hn0:n=0:=by
   unfold Zre at h4
   rw [if_neg q1,if_neg q2] at h4
   omega
  subst hn0
  by_cases q3:op=11
  · subst q3
    have hl:l.length=4:=h5
    refine Zad fun r e hr=> ?_
    rw [htx]
    unfold txN
    rw [if_neg q1,if_neg q2,if_pos rfl]
    have e1:TS (sIf::Xa::txS (txL l) [Zby,Z6,Z6,Z0])++r=tkS sIf::tkS Xa::(TS (txS (txL l) [Zby,Z6,Z6,Z0])++r):=rfl
    rw [e1]
    show pOps pX 11 [Zby,Z6,Z6,Z0] (tkS Xa::(TS (txS (txL l) [Zby,Z6,Z6,Z0])++r)) e=_
    exact Zqq (by rw [hl];rfl) hkid sg4
  have hl2:l.length=2:=by
   rw [h5]
   unfold Zlz
   rw [if_neg (by omega),if_neg q3]
  by_cases q4:op=3\/op=4\/op=5
  · obtain ⟨x,y,rfl⟩:=len2 hl2
    have hx:=hkid x (by simp)
    have hy:=hkid y (by simp)
    have htx:txX (.mk op 0 0 0 0 0 [x,y])=par x.op (tightF op) (txX x)++sgnO op::par y.op (tightF op+1) (txX y):=by
     rw [htx]
     unfold txN
     rw [if_neg q1,if_neg q2,if_neg q3,if_pos q4]
     rfl
    by_cases q5:op=5
    · subst q5
      refine Zfq (fun h=>absurd h (by show ¬3<=tightF 5;decide)) fun r e hr=> ?_
      rw [htx,Zlk,List.append_assoc]
      show pt (TS (par x.op 2 (txX x))++tkS sMul::(TS (par y.op 3 (txX y))++r)) e=_
      rw [hx.par2 (Z6s _) e]
      show pRx op1 pf x 5 (TS (par y.op 3 (txX y))++r) e=_
      rw [Z6p,if_neg (by decide),hy.par3 hr e]
    · have q6:op=3\/op=4:=by omega
      have ht:tightF op=1:=by unfold tightF;rw [if_pos q6]
      refine ⟨fun h=>absurd h (by show ¬3<=tightF op;rw [ht];decide),fun h=>absurd h (by show ¬2<=tightF op;rw [ht];decide),fun r e hr=> ?_⟩
      rw [htx,Zlk,List.append_assoc,ht]
      have hy2:pt (TS (par y.op 2 (txX y))++r) e= .ok (y,r,e,()):=by rw [hy.par2 hr.1 e,Z3i hr.2,Z6p,if_pos rfl]
      rcases q6 with rfl|rfl
      · show pX (TS (par x.op 1 (txX x))++tkS Zap::(TS (par y.op 2 (txX y))++r)) e=_
        rw [hx.par1 (Z1w _) e]
        show pRx op2 pt x 3 (TS (par y.op 2 (txX y))++r) e=_
        rw [Z6q,if_neg (by decide),hy2]
      · show pX (TS (par x.op 1 (txX x))++tkS W6::(TS (par y.op 2 (txX y))++r)) e=_
        rw [hx.par1 (Zx6 _) e]
        show pRx op2 pt x 4 (TS (par y.op 2 (txX y))++r) e=_
        rw [Z6q,if_neg (by decide),hy2]
  · have hk:(op-6).toNat<WK.ca.words.length:=by
     show (op-6).toNat<5
     omega
    refine Zad fun r e hr=> ?_
    rw [htx]
    unfold txN
    rw [if_neg q1,if_neg q2,if_neg q3,if_neg q4]
    have e1:TS (WK.ca.words.getD (op-6).toNat []::Xa::txS (txL l) [Z6,Z0])++r=tkS (WK.ca.words.getD (op-6).toNat [])::tkS Xa::(TS (txS (txL l) [Z6,Z0])++r):=rfl
    rw [e1,Zx9 hk]
    unfold Zq
    rw [Zc9 hk,if_pos (by omega)]
    dsimp only [List.tail_cons]
    rw [if_pos rfl,Zqq (by rw [hl2];rfl) hkid sg2]
    rw [show (6:Int)+(((op-6).toNat:Nat):Int)=op by omega]
end
section
open Go
abbrev qCG5 (a0:List (List Nat)):=(List.length a0)
abbrev qCGc:=(0:Int)
abbrev qCGl (a0:List (List Nat)):=(List.take (qCG5 a0) a0++ [[(45:Nat)]])
abbrev qCG8:=(1:Nat)
abbrev qCGj:=(8:Nat)
abbrev qCGb:=(1:Int)
abbrev qCGq:=(16:Nat)
abbrev qCGa:=(140737488355328:Nat)
abbrev qCGi (a0:List (List Nat)):=(List.length a0+qCG8)
abbrev qCGf (a0:List (List Nat)) (b0:List (List Nat)) (c0:Nat):=(List.length a0<=List.length a0/\fzO (some (b0,c0))<=List.length a0/\(qCGi a0)*qCGq<=qCGa)
abbrev qCG9 (a0:Ex):=(↑(List.length (Ex.l a0)):Int)
abbrev qCGm (a0:List (List Nat)):=(List.take (qCG5 a0) a0++ [[(42:Nat)]])
abbrev qCGe:=(1000000000:Nat)
abbrev qCG2 (a0:Ex):=(Ex.mk (Ex.op a0) (Ex.n a0) (Ex.d0 a0) (Ex.d1 a0) (Ex.d2 a0) (Ex.d3 a0) (Ex.l a0))
abbrev qCGg (a0:Ex):=(Ex.op a0-(3:Int))
abbrev qCG1 (a0:Ex) (b0:List (List Nat)) (c0:List (List Nat)) (d0:Nat) (e0:Nat) (f0:List (List Nat)):=((wr IntKind.i64 (qCGg a0)==(↑(0:Nat):Int))=false->((wr IntKind.i64 (qCGg a0)==(↑((0:Nat)+qCG8):Int))=true->(qCGf b0 c0 d0)/\qCGc<=qCGb/\qCGb+qCGb<=(qCG9 a0)/\∀(x_2:Ex),(Ex.l a0)[Int.toNat qCGb]? =some x_2->True/\∀(y:Int),y=tightF (Ex.op a0)->(List.length b0+qCG8=List.length (qCGl b0)/\fzO (some (c0,d0))<=List.length (qCGl b0)/\Ex.sz (qCG2 x_2)+qCG8<=e0/\Z7 (qCG2 x_2)=true/\qCG8<=List.length (qCGl b0)/\List.length (qCGl b0)+qCGj*Ex.sz (qCG2 x_2)+(10:Nat)<=qCGe)/\∀(l'_2:List (List Nat)),l'_2=List.take (qCG5 b0) b0++ [[(45:Nat)]]++par (Ex.op (qCG2 x_2)) (wr IntKind.i64 (y+qCGb)) (txX (qCG2 x_2))->l'_2=f0/\List.length l'_2=List.length f0/\fzO (some (List.take (qCG5 b0) b0++ [[(45:Nat)]],fzO (some (c0,d0))))=fzO (some (c0,d0)))/\((wr IntKind.i64 (qCGg a0)==(↑((0:Nat)+qCG8):Int))=false->((wr IntKind.i64 (qCGg a0)==(↑((0:Nat)+qCG8+qCG8):Int))=true->(qCGf b0 c0 d0)/\qCGc<=qCGb/\qCGb+qCGb<=(qCG9 a0)/\∀(x_2:Ex),(Ex.l a0)[Int.toNat qCGb]? =some x_2->True/\∀(y:Int),y=tightF (Ex.op a0)->(List.length b0+qCG8=List.length (qCGm b0)/\fzO (some (c0,d0))<=List.length (qCGm b0)/\Ex.sz (qCG2 x_2)+qCG8<=e0/\Z7 (qCG2 x_2)=true/\qCG8<=List.length (qCGm b0)/\List.length (qCGm b0)+qCGj*Ex.sz (qCG2 x_2)+(10:Nat)<=qCGe)/\∀(l'_2:List (List Nat)),l'_2=List.take (qCG5 b0) b0++ [[(42:Nat)]]++par (Ex.op (qCG2 x_2)) (wr IntKind.i64 (y+qCGb)) (txX (qCG2 x_2))->l'_2=f0/\List.length l'_2=List.length f0/\fzO (some (List.take (qCG5 b0) b0++ [[(42:Nat)]],fzO (some (c0,d0))))=fzO (some (c0,d0)))/\((wr IntKind.i64 (qCGg a0)==(↑((0:Nat)+qCG8+qCG8):Int))=false->True)))
abbrev qCGn (a0:List (List Nat)):=(List.take (qCG5 a0) a0++ [[(43:Nat)]])
abbrev qCG3 (a0:Ex) (b0:List (List Nat)) (c0:List (List Nat)) (d0:Nat) (e0:Nat) (f0:List (List Nat)):=((wr IntKind.i64 (qCGg a0)==(↑(0:Nat):Int))=true->(qCGf b0 c0 d0)/\qCGc<=qCGb/\qCGb+qCGb<=(qCG9 a0)/\∀(x_2:Ex),(Ex.l a0)[Int.toNat qCGb]? =some x_2->True/\∀(y:Int),y=tightF (Ex.op a0)->(List.length b0+qCG8=List.length (qCGn b0)/\fzO (some (c0,d0))<=List.length (qCGn b0)/\Ex.sz (qCG2 x_2)+qCG8<=e0/\Z7 (qCG2 x_2)=true/\qCG8<=List.length (qCGn b0)/\List.length (qCGn b0)+qCGj*Ex.sz (qCG2 x_2)+(10:Nat)<=qCGe)/\∀(l'_2:List (List Nat)),l'_2=List.take (qCG5 b0) b0++ [[(43:Nat)]]++par (Ex.op (qCG2 x_2)) (wr IntKind.i64 (y+qCGb)) (txX (qCG2 x_2))->l'_2=f0/\List.length l'_2=List.length f0/\fzO (some (List.take (qCG5 b0) b0++ [[(43:Nat)]],fzO (some (c0,d0))))=fzO (some (c0,d0)))
abbrev qCGo:=(40:Nat)
abbrev qCGh (a0:List (List Nat)) (b0:Nat):=(some (List.take (qCG5 a0) a0++ [[(105:Nat),(102:Nat)],[qCGo]],b0))
abbrev qCG4 (a0:List (List Nat)) (b0:List (List Nat)) (c0:Nat):=(some (List.take (qCG5 a0) a0++ [[(60:Nat)]],fzO (qCGh b0 c0)))
abbrev qCGp:=(44:Nat)
abbrev qCG6 (a0:List (List Nat)):=(List.take (qCG5 a0) a0++ [[qCGp]])
abbrev qCG7 (a0:List (List Nat)) (b0:Nat) (c0:Ex) (d0:Nat):=(List.length a0=List.length a0/\b0<=List.length a0/\Ex.sz (qCG2 c0)+qCG8<=d0/\Z7 (qCG2 c0)=true/\qCG8<=List.length a0/\List.length a0+qCGj*Ex.sz (qCG2 c0)+(10:Nat)<=qCGe)
abbrev qCGd (a0:List (List Nat)):=(List.take (qCG5 a0) a0++ [[(105:Nat),(102:Nat)],[qCGo]])
abbrev qCGk (a0:List (List Nat)):=(List.take (qCG5 a0) a0++ [[(60:Nat)]])
abbrev qCGr (a0:List (List Nat)) (b0:List (List Nat)) (c0:List (List Nat)) (d0:Nat):=(some (List.take (qCG5 a0) a0++ [[qCGp]],fzO (qCG4 b0 c0 d0)))
theorem Zq5 (m:Nat) (l:List (List Nat)) (fz:Nat) (x:Ex) (l':List (List Nat)):Zl E Fpu (vc E (Fxp' m) 400) 79 [.ptr 0 0,exA x] (hpP E Th.strs (some (l,fz))) 2 (prnK E Th.strs (some (l,fz)) l')=(
 ((Ex.op x==qCGb)=true->(qCGc<=Ex.n x/\Ex.n x+qCGb<=(10000000000000:Int))/\∀(y:List Nat),y=decN (Ex.n x)->(List.length l<=List.length l/\fz<=List.length l/\(qCGi l)*qCGq<=qCGa)/\(List.length l+qCG8=List.length (List.take (qCG5 l) l++ [y])/\fz<=List.length (List.take (qCG5 l) l++ [y])/\qCG8<=List.length (List.take (qCG5 l) l++ [y])/\List.length (List.take (qCG5 l) l++ [y])+qCGj<=qCGe)/\∀(l'_1:List (List Nat)),l'_1=List.take (qCG5 l) l++ [y]++txU [Ex.d0 x,Ex.d1 x,Ex.d2 x,Ex.d3 x]->l'_1=l'/\List.length l'_1=List.length l'/\fzO (some (List.take (qCG5 l) l++ [y],fz))=fzO (some (l,fz)))/\((Ex.op x==qCGb)=false->((Ex.op x==(2:Int))=true->qCGc<=Ex.n x/\Ex.n x+qCGb<=(↑(List.length (WK.words WK.at_)):Int)/\∀(x_1:List Nat),(WK.words WK.at_)[Int.toNat (Ex.n x)]? =some x_1->(List.length l<=List.length l/\fz<=List.length l/\(qCGi l)*qCGq<=qCGa)/\List.take (qCG5 l) l++ [x_1]=l'/\List.length l+qCG8=List.length l'/\fz=fzO (some (l,fz)))/\((Ex.op x==(2:Int))=false->((Ex.op x==(11:Int))=true->(List.length l<=List.length l/\fz<=List.length l/\(List.length l+(2:Nat))*qCGq<=qCGa)/\qCGc<=qCGc/\qCGc+qCGb<=(qCG9 x)/\∀(x_1:Ex),(Ex.l x)[Int.toNat qCGc]? =some x_1->(List.length l+(2:Nat)=List.length (qCGd l)/\fz<=List.length (qCGd l)/\Ex.sz (qCG2 x_1)+qCG8<=m/\Z7 (qCG2 x_1)=true/\qCG8<=List.length (qCGd l)/\List.length (qCGd l)+qCGj*Ex.sz (qCG2 x_1)+qCGj<=qCGe)/\∀(l'_1:List (List Nat)),l'_1=List.take (qCG5 l) l++ [[(105:Nat),(102:Nat)],[qCGo]]++txX (qCG2 x_1)->(List.length l'_1<=List.length l'_1/\fzO (qCGh l fz)<=List.length l'_1/\(qCGi l'_1)*qCGq<=qCGa)/\qCGc<=qCGb/\qCGb+qCGb<=(qCG9 x)/\∀(x_2:Ex),(Ex.l x)[Int.toNat qCGb]? =some x_2->(List.length l'_1+qCG8=List.length (qCGk l'_1)/\fzO (qCGh l fz)<=List.length (qCGk l'_1)/\Ex.sz (qCG2 x_2)+qCG8<=m/\Z7 (qCG2 x_2)=true/\qCG8<=List.length (qCGk l'_1)/\List.length (qCGk l'_1)+qCGj*Ex.sz (qCG2 x_2)+qCGj<=qCGe)/\∀(l'_2:List (List Nat)),l'_2=List.take (qCG5 l'_1) l'_1++ [[(60:Nat)]]++txX (qCG2 x_2)->(List.length l'_2<=List.length l'_2/\fzO (qCG4 l'_1 l fz)<=List.length l'_2/\(qCGi l'_2)*qCGq<=qCGa)/\qCGc<=(2:Int)/\(2:Int)+qCGb<=(qCG9 x)/\∀(x_3:Ex),(Ex.l x)[Int.toNat (2:Int)]? =some x_3->(List.length l'_2+qCG8=List.length (qCG6 l'_2)/\fzO (qCG4 l'_1 l fz)<=List.length (qCG6 l'_2)/\Ex.sz (qCG2 x_3)+qCG8<=m/\Z7 (qCG2 x_3)=true/\qCG8<=List.length (qCG6 l'_2)/\List.length (qCG6 l'_2)+qCGj*Ex.sz (qCG2 x_3)+qCGj<=qCGe)/\∀(l'_3:List (List Nat)),l'_3=List.take (qCG5 l'_2) l'_2++ [[qCGp]]++txX (qCG2 x_3)->(List.length l'_3<=List.length l'_3/\fzO (qCGr l'_2 l'_1 l fz)<=List.length l'_3/\(qCGi l'_3)*qCGq<=qCGa)/\qCGc<=(3:Int)/\(3:Int)+qCGb<=(qCG9 x)/\∀(x_4:Ex),(Ex.l x)[Int.toNat (3:Int)]? =some x_4->(List.length l'_3+qCG8=List.length (qCG6 l'_3)/\fzO (qCGr l'_2 l'_1 l fz)<=List.length (qCG6 l'_3)/\Ex.sz (qCG2 x_4)+qCG8<=m/\Z7 (qCG2 x_4)=true/\qCG8<=List.length (qCG6 l'_3)/\List.length (qCG6 l'_3)+qCGj*Ex.sz (qCG2 x_4)+qCGj<=qCGe)/\∀(l'_4:List (List Nat)),l'_4=List.take (qCG5 l'_3) l'_3++ [[qCGp]]++txX (qCG2 x_4)->(List.length l'_4<=List.length l'_4/\fzO (some (List.take (qCG5 l'_3) l'_3++ [[qCGp]],fzO (qCGr l'_2 l'_1 l fz)))<=List.length l'_4/\(qCGi l'_4)*qCGq<=qCGa)/\List.take (qCG5 l'_4) l'_4++ [[(41:Nat)]]=l'/\List.length l'_4+qCG8=List.length l'/\fzO (some (List.take (qCG5 l'_3) l'_3++ [[qCGp]],fzO (qCGr l'_2 l'_1 l fz)))=fzO (some (l,fz)))/\((Ex.op x==(11:Int))=false->((Ex.op x==(3:Int))=true->qCGc<=qCGc/\qCGc+qCGb<=(qCG9 x)/\∀(x_1:Ex),(Ex.l x)[Int.toNat qCGc]? =some x_1->True/\∀(y:Int),y=tightF (Ex.op x)->(qCG7 l fz x_1 m)/\∀(l'_1:List (List Nat)),l'_1=l++par (Ex.op (qCG2
x_1)) y (txX (qCG2 x_1))->qCGc<=wr IntKind.i64 (qCGg x)/\wr IntKind.i64 (qCGg x)+qCGb<=(↑(3:Nat):Int)/\(qCG3 x l'_1 l fz m l')/\(qCG1 x l'_1 l fz m l'))/\((Ex.op x==(3:Int))=false->((Ex.op x==(4:Int))=true->qCGc<=qCGc/\qCGc+qCGb<=(qCG9 x)/\∀(x_1:Ex),(Ex.l x)[Int.toNat qCGc]? =some x_1->True/\∀(y:Int),y=tightF (Ex.op x)->(qCG7 l fz x_1 m)/\∀(l'_1:List (List Nat)),l'_1=l++par (Ex.op (qCG2 x_1)) y (txX (qCG2 x_1))->qCGc<=wr IntKind.i64 (qCGg x)/\wr IntKind.i64 (qCGg x)+qCGb<=(↑(3:Nat):Int)/\(qCG3 x l'_1 l fz m l')/\(qCG1 x l'_1 l fz m l'))/\((Ex.op x==(4:Int))=false->((Ex.op x==(5:Int))=true->qCGc<=qCGc/\qCGc+qCGb<=(qCG9 x)/\∀(x_1:Ex),(Ex.l x)[Int.toNat qCGc]? =some x_1->True/\∀(y:Int),y=tightF (Ex.op x)->(qCG7 l fz x_1 m)/\∀(l'_1:List (List Nat)),l'_1=l++par (Ex.op (qCG2 x_1)) y (txX (qCG2 x_1))->qCGc<=wr IntKind.i64 (qCGg x)/\wr IntKind.i64 (qCGg x)+qCGb<=(↑(3:Nat):Int)/\(qCG3 x l'_1 l fz m l')/\(qCG1 x l'_1 l fz m l'))/\((Ex.op x==(5:Int))=false->qCGc<=wr IntKind.i64 (Ex.op x-(6:Int))/\wr IntKind.i64 (Ex.op x-(6:Int))+qCGb<=(↑(List.length (WK.words WK.ca)):Int)/\∀(x_1:List Nat),(WK.words WK.ca)[Int.toNat (wr IntKind.i64 (Ex.op x-(6:Int)))]? =some x_1->(List.length l<=List.length l/\fz<=List.length l/\(List.length l+(2:Nat))*qCGq<=qCGa)/\qCGc<=qCGc/\qCGc+qCGb<=(qCG9 x)/\∀(x_2:Ex),(Ex.l x)[Int.toNat qCGc]? =some x_2->(List.length l+(2:Nat)=List.length (List.take (qCG5 l) l++ [x_1,[qCGo]])/\fz<=List.length (List.take (qCG5 l) l++ [x_1,[qCGo]])/\Ex.sz (qCG2 x_2)+qCG8<=m/\Z7 (qCG2 x_2)=true/\qCG8<=List.length (List.take (qCG5 l) l++ [x_1,[qCGo]])/\List.length (List.take (qCG5 l) l++ [x_1,[qCGo]])+qCGj*Ex.sz (qCG2 x_2)+qCGj<=qCGe)/\∀(l'_1:List (List Nat)),l'_1=List.take (qCG5 l) l++ [x_1,[qCGo]]++txX (qCG2 x_2)->(List.length l'_1<=List.length l'_1/\fzO (some (List.take (qCG5 l) l++ [x_1,[qCGo]],fz))<=List.length l'_1/\(qCGi l'_1)*qCGq<=qCGa)/\qCGc<=qCGb/\qCGb+qCGb<=(qCG9 x)/\∀(x_3:Ex),(Ex.l x)[Int.toNat qCGb]? =some x_3->(List.length l'_1+qCG8=List.length (qCG6 l'_1)/\fzO (some (List.take (qCG5 l) l++ [x_1,[qCGo]],fz))<=List.length (qCG6 l'_1)/\Ex.sz (qCG2 x_3)+qCG8<=m/\Z7 (qCG2 x_3)=true/\qCG8<=List.length (qCG6 l'_1)/\List.length (qCG6 l'_1)+qCGj*Ex.sz (qCG2 x_3)+qCGj<=qCGe)/\∀(l'_2:List (List Nat)),l'_2=List.take (qCG5 l'_1) l'_1++ [[qCGp]]++txX (qCG2 x_3)->(List.length l'_2<=List.length l'_2/\fzO (some (List.take (qCG5 l'_1) l'_1++ [[qCGp]],fzO (some (List.take (qCG5 l) l++ [x_1,[qCGo]],fz))))<=List.length l'_2/\(qCGi l'_2)*qCGq<=qCGa)/\List.take (qCG5 l'_2) l'_2++ [[(41:Nat)]]=l'/\List.length l'_2+qCG8=List.length l'/\fzO (some (List.take (qCG5 l'_1) l'_1++ [[qCGp]],fzO (some (List.take (qCG5 l) l++ [x_1,[qCGo]],fz))))=fzO (some (l,fz))))))))):=by kernel_rfl
theorem Yas (op n a b c d:Int) (l:List Ex):Ex.op (.mk op n a b c d l)=op:=rfl
theorem n_mk (op n a b c d:Int) (l:List Ex):Ex.n (.mk op n a b c d l)=n:=rfl
theorem Yat (op n a b c d:Int) (l:List Ex):Ex.d0 (.mk op n a b c d l)=a:=rfl
theorem Yau (op n a b c d:Int) (l:List Ex):Ex.d1 (.mk op n a b c d l)=b:=rfl
theorem Yav (op n a b c d:Int) (l:List Ex):Ex.d2 (.mk op n a b c d l)=c:=rfl
theorem Yaw (op n a b c d:Int) (l:List Ex):Ex.d3 (.mk op n a b c d l)=d:=rfl
theorem l_mk (op n a b c d:Int) (l:List Ex):Ex.l (.mk op n a b c d l)=l:=rfl
theorem u_mk (op n a b c d:Int) (l:List Ex):Ex.u (.mk op n a b c d l)= [a,b,c,d]:=rfl
theorem len4 {α:Type} {l:List α} (h:l.length=4):∃a b c d,l= [a,b,c,d]:=by
 match l,h with
 | [a,b,c,d],_=>exact ⟨a,b,c,d,rfl⟩
theorem Zlv (op least:Int) (t:List (List Nat)):(par op least t).length<=t.length+2:=by
 unfold par
 split
 · omega
 · simp
theorem Zo4:∀m,PxOk m
 |0=>fun x h=>by omega
 |m+1=>by
  intro x hx hf l fz hfz h1 hl
  have hm:=Zo4 m
  refine Zc6 E_ok (Xw E_ok Zqi fun f N c=>(Zic E_ok (Z6m hm) 400 f N c).1) rfl ?_
  show Zl E Fpu (vc E (Fxp' m) 400) 79 [.ptr 0 0,exA x] (hpP E Th.strs (some (l,fz))) 2 (prnK E Th.strs (some (l,fz)) (l++txX x))
  rw [Zq5];delta qCG5 qCGc qCGl qCG8 qCGj qCGb qCGq qCGa qCGi qCGf qCG9 qCGm qCGe qCG2 qCGg qCG1 qCGn qCG3 qCGo qCGh qCG4 qCGp qCG6 qCG7 qCGd qCGk qCGr
  simp only [fzO,List.take_length,Ex.eta,forall_eq,beq_iff_eq,beq_eq_false_iff_ne,ne_eq]
  rw [Zbg,Bool.and_eq_true] at hf
  obtain ⟨hh,hfl⟩:=hf
  have hkf:∀y∈x.l,Z7 y=true:=formL_iff.1 hfl
  rw [Ex.sz_eq] at hx hl
  obtain ⟨op,n,a,b,c,d,xs⟩:=x
  simp only [Yas,n_mk,Yat,Yau,Yav,Yaw,l_mk,u_mk] at*
  obtain ⟨g1,g2,g3,g4,g5,g6,g7⟩:=Zcy hh
  have htx:txX (.mk op n a b c d xs)=txN op n [a,b,c,d] (xs.map Ex.op) (txL xs):=by rw [txX]
  rw [htx]
  clear hh hfl htx
  have w0:wr .i64 0=0:=by decide
  have w1:wr .i64 1=1:=by decide
  have w2:wr .i64 2=2:=by decide
  have w3:wr .i64 3=3:=by decide
  have t3:tightF 3=1:=rfl
  have t4:tightF 4=1:=rfl
  have t5:tightF 5=2:=rfl
  refine ⟨fun q1=> ?_,fun q1=>⟨fun q2=> ?_,fun q2=>⟨fun q3=> ?_,fun q3=>⟨fun q4=> ?_,fun q4=>⟨fun q5=> ?_,fun q5=>⟨fun q6=> ?_,fun q6=> ?_⟩⟩⟩⟩⟩⟩
  · subst q1
    have h4:n<=1099511627776:=g4
    refine ⟨⟨g3,by omega⟩,⟨Nat.le_refl _,hfz,by omega⟩,⟨by simp,by simp;omega,by simp,by simp;omega⟩,?_⟩
    simp [txN]
  · subst q2
    have h4:n<=15:=g4
    have L:WK.at_.words.length=16:=rfl
    refine ⟨g3,by rw [L];omega,fun w hw=>⟨⟨Nat.le_refl _,hfz,by omega⟩,?_⟩⟩
    have:WK.at_.words.getD n.toNat []=w:=by simp [List.getD,hw]
    unfold txN
    rw [if_neg (by decide),if_pos rfl,this]
    simp
  · subst q3
    obtain ⟨x1,x2,x3,x4,rfl⟩:=len4 (show xs.length=4 from g5)
    have s:x1.sz+(x2.sz+(x3.sz+(x4.sz+0)))+1<m+1:=hx
    have s':l.length+8*(x1.sz+(x2.sz+(x3.sz+(x4.sz+0)))+1)+8<=1000000000:=hl
    have p1:=Y3 x1
    have p2:=Y3 x2
    have p3:=Y3 x3
    have p4:=Y3 x4
    have f1:=hkf x1 (by simp)
    have f2:=hkf x2 (by simp)
    have f3:=hkf x3 (by simp)
    have f4:=hkf x4 (by simp)
    simp [f1,f2,f3,f4,txN,txS,txL,sIf,Xa,Zby,Z6,Z0]
    omega
  · subst q4
    obtain ⟨x1,x2,rfl⟩:=len2 (show xs.length=2 from g5)
    have s:x1.sz+(x2.sz+0)+1<m+1:=hx
    have s':l.length+8*(x1.sz+(x2.sz+0)+1)+8<=1000000000:=hl
    have p1:=Y3 x1
    have p2:=Y3 x2
    have f1:=hkf x1 (by simp)
    have f2:=hkf x2 (by simp)
    have r1:=Zlv x1.op 1 (txX x1)
    simp [w0,w1,w2,w3,t3,f1,f2,txN,txL,sgnO,Zap]
    omega
  · subst q5
    obtain ⟨x1,x2,rfl⟩:=len2 (show xs.length=2 from g5)
    have s:x1.sz+(x2.sz+0)+1<m+1:=hx
    have s':l.length+8*(x1.sz+(x2.sz+0)+1)+8<=1000000000:=hl
    have p1:=Y3 x1
    have p2:=Y3 x2
    have f1:=hkf x1 (by simp)
    have f2:=hkf x2 (by simp)
    have r1:=Zlv x1.op 1 (txX x1)
    simp [w0,w1,w2,w3,t4,f1,f2,txN,txL,sgnO,W6]
    omega
  · subst q6
    obtain ⟨x1,x2,rfl⟩:=len2 (show xs.length=2 from g5)
    have s:x1.sz+(x2.sz+0)+1<m+1:=hx
    have s':l.length+8*(x1.sz+(x2.sz+0)+1)+8<=1000000000:=hl
    have p1:=Y3 x1
    have p2:=Y3 x2
    have f1:=hkf x1 (by simp)
    have f2:=hkf x2 (by simp)
    have r1:=Zlv x1.op 2 (txX x1)
    simp [w0,w1,w2,w3,t5,f1,f2,txN,txL,sgnO,sMul]
    omega
  · have L:WK.ca.words.length=5:=rfl
    obtain ⟨x1,x2,rfl⟩:=len2 (show xs.length=2 by rw [g5];unfold Zlz;rw [if_neg (by omega),if_neg (by omega)])
    have s:x1.sz+(x2.sz+0)+1<m+1:=hx
    have s':l.length+8*(x1.sz+(x2.sz+0)+1)+8<=1000000000:=hl
    have p1:=Y3 x1
    have p2:=Y3 x2
    have f1:=hkf x1 (by simp)
    have f2:=hkf x2 (by simp)
    have wo:wr .i64 (op-6)=op-6:=wr64 (by omega) (by omega)
    simp only [wo]
    refine ⟨by omega,by rw [L];omega,fun w hw=> ?_⟩
    have e:WK.ca.words.getD (op-6).toNat []=w:=by simp [List.getD,hw]
    have q7:¬(op=3\/op=4\/op=5):=by omega
    unfold txN
    rw [if_neg q1,if_neg q2,if_neg q3,if_neg q7,e]
    simp [f1,f2,txS,txL,Xa,Z6,Z0]
    omega
end
section
open Go
def CsOk:List (List Nat)->List Cls->Prop
 |_,[]=>True
 |seen,c::r=>X7 c=true/\resF c.name=false/\c.name∉seen/\c.when_.length<=8/\Zx c.pay<=24/\CsOk (c.name::seen) r
def Z5m (m:List (List Nat×Bool)) (seen:List (List Nat)):Prop:=∀a,(Yz m a).getD false=decide (a∈seen)
theorem Zwu {m:List (List Nat×Bool)} {seen:List (List Nat)} (h:Z5m m seen) (a:List Nat):Z5m (putS m a true) (a::seen):=by
 intro b
 rw [Zfv]
 by_cases e:a=b
 · rw [if_pos e]
   subst e
   simp
 · rw [if_neg e,h b]
   simp [Ne.symm e]
theorem Zp7:∀(cs:List Cls) (a b:Bool) (m:List (List Nat×Bool)) (seen:List (List Nat)),Z5m m seen->(goC a b m cs=0↔a=false/\b=false/\CsOk seen cs)
 | [],a,b,m,seen,hm=>by
  unfold goC CsOk
  cases a<;>cases b<;>decide
 |c::r,a,b,m,seen,hm=>by
  rw [Zg9]
  unfold CsOk
  by_cases hc:X7 c=true
  · rw [if_pos hc,Zp7 r _ _ _ _ (Zwu hm c.name),hm c.name]
    simp only [Bool.or_eq_false_iff,decide_eq_false_iff_not]
    constructor
    · rintro ⟨⟨⟨h1,h2⟩,h3⟩,⟨⟨h4,h5⟩,h6⟩,h7⟩
      exact ⟨h1,h4,hc,h2,h3,by omega,by omega,h7⟩
    · rintro ⟨h1,h4,_,h2,h3,h5,h6,h7⟩
      exact ⟨⟨⟨h1,h2⟩,h3⟩,⟨⟨h4,by omega⟩,by omega⟩,h7⟩
  · rw [if_neg hc]
    constructor
    · intro h
      cases h
    · rintro ⟨_,_,h,_⟩
      exact absurd h hc
theorem Wm (t:Tar):Yt t=0↔X2 t.name=true/\1<=t.for_/\t.for_<=6/\resF t.name=false/\t.clauses.length<=64/\CsOk [] t.clauses:=by
 unfold Yt
 split
 · rename_i h
   rw [Zp7 _ _ _ _ [] (fun a=>by simp [Yz])]
   rw [decide_eq_false_iff_not]
   constructor
   · rintro ⟨h1,h2,h3⟩
     exact ⟨h.1,h.2.1,h.2.2,h1,by omega,h3⟩
   · rintro ⟨_,_,_,h1,h2,h3⟩
     exact ⟨h1,by omega,h3⟩
 · rename_i h
   constructor
   · intro k
     cases k
   · rintro ⟨h1,h2,h3,_⟩
     exact absurd ⟨h1,h2,h3⟩ h
theorem Ze3 (i:Nat) (w:Tst) (r:List Tst):txTs i (w::r)=(if i=0 then Zfx else sAnd)::(txW w++txTs (i+1) r):=rfl
theorem Zii {n:Int} (h0:0<=n) (h1:n<=1099511627776) (r:List Tok) (e:Int):pInt (tkS (decN n)::r) e= .ok (n,r,e,()):=by
 rw [Zwx h0 h1]
 rfl
theorem Us {w:Tst} (h:Z5 w=true):0<=w.attr/\w.attr<16/\0<=w.low/\w.low<=1099511627776/\0<=w.high/\w.high<=1099511627776:=of_decide_eq_true h
theorem Z0o (w:Tst):(⟨w.attr,w.low,w.high⟩:Tst)=w:=rfl
theorem Zks {w:Tst} (h:Z5 w=true) {n:Int} (hn:n≠8) (r:List Tok) (e:Int):Wp n (TS (txW w)++r) e= .ok (w,r,e,()):=by
 obtain ⟨a0,a1,l0,l1,h0,h1⟩:=Us h
 have hk:w.attr.toNat<WK.at_.words.length:=by show w.attr.toNat<16;omega
 unfold txW
 rw [Zfp,List.cons_append]
 unfold Wp Yg
 rw [Zc9 hk,if_pos (by omega)]
 dsimp only [List.tail_cons]
 rw [if_neg hn,show ((w.attr.toNat:Nat):Int)=w.attr by omega]
 by_cases hq:w.low=w.high
 · rw [if_pos hq]
   have e1:TS [sIs,decN w.low]++r=tkS sIs::tkS (decN w.low)::r:=rfl
   rw [e1,if_pos (show isW sIs (tkS sIs::tkS (decN w.low)::r)=true from rfl),List.tail_cons,Zii l0 l1]
   dsimp only
   conv=>rhs;rw [<-Z0o w,<-hq]
 · rw [if_neg hq]
   have e1:TS [sIn,decN w.low,Zcd,decN w.high]++r=tkS sIn::tkS (decN w.low)::tkS Zcd::tkS (decN w.high)::r:=rfl
   rw [e1,if_neg (show ¬isW sIs (tkS sIn::tkS (decN w.low)::tkS Zcd::tkS (decN w.high)::r)=true from Bool.false_ne_true),
    if_pos (show isW sIn (tkS sIn::tkS (decN w.low)::tkS Zcd::tkS (decN w.high)::r)=true from rfl),List.tail_cons,Zii l0 l1]
   dsimp only
   rw [if_pos (show isW Zcd (tkS Zcd::tkS (decN w.high)::r)=true from rfl),List.tail_cons,Zii h0 h1]
theorem Zij (k:Nat) (ts:List Tst) (l:List Tok) (e:Int):pTs k false ts l e= .ok (ts,l,e,()):=by
 cases k with
 |zero=>rfl
 |succ k=>unfold pTs;rw [if_neg Bool.false_ne_true]
theorem Zgq {e:Int} {r:List Tok} (hr:isW [97,110,100] r=false):∀(ws:List Tst) (i k:Nat) (ts:List Tst),1<=i->(∀w∈ws,Z5 w=true)->ws.length<k->ts.length+ws.length<=8->
 pTs k (isW [97,110,100] (TS (txTs i ws)++r)) ts (if isW [97,110,100] (TS (txTs i ws)++r) then (TS (txTs i ws)++r).tail else TS (txTs i ws)++r) e= .ok (ts++ws,r,e,())
 | [],i,k,ts,hi,hw,hk,hl=>by
  have e1:TS (txTs i [])++r=r:=rfl
  rw [e1,hr,if_neg Bool.false_ne_true,Zij,List.append_nil]
 |w::ws,i,0,ts,hi,hw,hk,hl=>by simp at hk
 |w::ws,i,k+1,ts,hi,hw,hk,hl=>by
  have e1:TS (txTs i (w::ws))++r=tkS sAnd::(TS (txW w)++(TS (txTs (i+1) ws)++r)):=by
   rw [Ze3,if_neg (by omega),Zfp,Zlk,List.cons_append,List.append_assoc]
  have e2:isW [97,110,100] (tkS sAnd::(TS (txW w)++(TS (txTs (i+1) ws)++r)))=true:=rfl
  rw [e1,e2,if_pos rfl,List.tail_cons]
  unfold pTs
  rw [if_pos rfl,Zks (hw w (by simp)) (by simp at hl;omega)]
  dsimp only
  rw [Zgq hr ws (i+1) k (ts++ [w]) (by omega) (fun w h=>hw w (by simp [h])) (by simpa using hk) (by simp at hl⊢;omega)]
  rw [List.append_assoc]
  rfl
theorem Zmu {e:Int} {r:List Tok} (hr:isW [97,110,100] r=false) (hr2:isW [119,104,101,110] r=false) (ws:List Tst) (hw:∀w∈ws,Z5 w=true) (hl:ws.length<=8):
 pTs 10 (isW [119,104,101,110] (TS (txTs 0 ws)++r)) [] (if isW [119,104,101,110] (TS (txTs 0 ws)++r) then (TS (txTs 0 ws)++r).tail else TS (txTs 0 ws)++r) e= .ok (ws,r,e,()):=by
 cases ws with
 |nil=>
  have e1:TS (txTs 0 [])++r=r:=rfl
  rw [e1,hr2,if_neg Bool.false_ne_true,Zij]
 |cons w ws=>
  have e1:TS (txTs 0 (w::ws))++r=tkS Zfx::(TS (txW w)++(TS (txTs 1 ws)++r)):=by
   rw [Ze3,if_pos rfl,Zfp,Zlk,List.cons_append,List.append_assoc]
  have e2:isW [119,104,101,110] (tkS Zfx::(TS (txW w)++(TS (txTs 1 ws)++r)))=true:=rfl
  rw [e1,e2,if_pos rfl,List.tail_cons]
  unfold pTs
  rw [if_pos rfl,Zks (hw w (by simp)) (by simp)]
  dsimp only
  rw [Zgq hr ws 1 9 _ (Nat.le_refl _) (fun w h=>hw w (by simp [h])) (by simp at hl;omega) (by simp at hl⊢;omega)]
  rfl
theorem Ze4 (c:Cls) (r:List Cls):txCs (c::r)=txC c++txCs r:=rfl
theorem Zkt {s:List Nat} (h:X2 s=true) (hr:resF s=false) (r:List Tok) (e:Int):Vt (tkS s::r) e= .ok (s,r,e,()):=by
 rw [Zik h]
 show (if (1:Int)=1 then (if s∈resW then (.error (0,161):PR (List Nat)) else .ok (s,r,e,())) else .error (0,160))=_
 rw [if_pos rfl,if_neg (of_decide_eq_false hr)]
theorem Za4 {c:Cls} (h:X7 c=true):X2 c.name=true/\Z7 c.pay=true/\∀w∈c.when_,Z5 w=true:=by
 unfold X7 at h
 rw [Bool.and_eq_true,Bool.and_eq_true] at h
 exact ⟨h.1.1,h.1.2,List.all_eq_true.1 h.2⟩
theorem Zmv {c:Cls} {bs:List Cls} (h1:X7 c=true) (h2:resF c.name=false) (h3:bs.any (fun b=>b.name==c.name)=false) (h4:c.when_.length<=8) (h5:Zx c.pay<=24) (r:List Tok) (e:Int):
 Z4 bs (TS (c.name::(txTs 0 c.when_++sPay::(txX c.pay++ [Zfc])))++r) e= .ok (c,r,e,()):=by
 obtain ⟨k1,k2,k3⟩:=Za4 h1
 have e1:TS (c.name::(txTs 0 c.when_++sPay::(txX c.pay++ [Zfc])))++r=tkS c.name::(TS (txTs 0 c.when_)++tkS sPay::(TS (txX c.pay)++tkS Zfc::r)):=by simp
 rw [e1]
 unfold Z4
 rw [Zkt k1 h2]
 dsimp only
 rw [if_neg (by rw [h3];decide),Zmu (r:=tkS sPay::(TS (txX c.pay)++tkS Zfc::r)) rfl rfl _ k3 h4]
 unfold pAft pPay
 dsimp only
 rw [if_pos (show isW [112,97,121] (tkS sPay::(TS (txX c.pay)++tkS Zfc::r))=true from rfl),List.tail_cons,(rdb c.pay k2).all (Z1v r) e]
 dsimp only
 rw [if_neg (by omega),if_pos (show isW [59] (tkS Zfc::r)=true from rfl)]
 rfl
theorem any_name {bs:List Cls} {a:List Nat}:bs.any (fun b=>b.name==a)=false↔a∉bs.map Cls.name:=by
 rw [List.any_eq_false]
 simp only [List.mem_map,not_exists,not_and]
 constructor
 · intro h b hb e
   exact h b hb (by rw [e];exact beq_self_eq_true a)
 · intro h b hb e
   exact h b hb (eq_of_beq e)
theorem CsOk.congr:∀{cs:List Cls} {s s':List (List Nat)},(∀a,a∈s↔a∈s')->CsOk s cs->CsOk s' cs
 | [],_,_,_,_=>trivial
 |c::r,s,s',h,⟨h1,h2,h3,h4,h5,h6⟩=>⟨h1,h2,fun k=>h3 ((h _).2 k),h4,h5,CsOk.congr (fun a=>by simp [h a]) h6⟩
theorem Zc7 {e:Int} {r:List Tok} (hr:isW [99,108,97,117,115,101] r=false):∀(cs bs:List Cls) (k:Nat),CsOk (bs.map Cls.name) cs->cs.length<k->bs.length+cs.length<=64->
 pCls k bs (TS (txCs cs)++r) e= .ok (bs++cs,r,e,())
 | [],bs,0,_,hk,_=>by simp at hk
 | [],bs,k+1,_,_,_=>by
  have e1:TS (txCs [])++r=r:=rfl
  unfold pCls
  rw [e1,hr,if_neg Bool.false_ne_true,List.append_nil]
 |c::cs,bs,0,_,hk,_=>by simp at hk
 |c::cs,bs,k+1,h,hk,hl=>by
  obtain ⟨h1,h2,h3,h4,h5,h6⟩:=h
  have e1:TS (txCs (c::cs))++r=tkS Xs::(TS (c.name::(txTs 0 c.when_++sPay::(txX c.pay++ [Zfc])))++(TS (txCs cs)++r)):=by
   rw [Ze4]
   unfold txC
   rw [Zlk,Zfp,List.append_assoc,List.cons_append]
  rw [e1]
  unfold pCls
  rw [if_pos (show isW [99,108,97,117,115,101] (tkS Xs::_)=true from rfl),if_neg (by simp at hl;omega),List.tail_cons,Zmv h1 h2 (any_name.2 h3) h4 h5]
  dsimp only
  rw [Zc7 hr cs (bs++ [c]) k (CsOk.congr (fun a=>by simp [or_comm]) h6) (by simpa using hk) (by simp at hl⊢;omega)]
  rw [List.append_assoc]
  rfl
theorem Z0p {t:Tar} (h:Yt t=0) (e:Int):pTar (TS (Uu t)) e= .ok (t,[],e,()):=by
 obtain ⟨h1,h2,h3,h4,h5,h6⟩:=(Wm t).1 h
 have e1:TS (Uu t)=tkS Zfd::tkS t.name::tkS sFor::tkS (WK.ki.words.getD (t.for_-1).toNat [])::tkS sLb::(TS (txCs t.clauses)++ [tkS sRb]):=by
  unfold Uu
  simp
 have hk:(t.for_-1).toNat<WK.ki.words.length:=by show (t.for_-1).toNat<6;omega
 rw [e1]
 unfold pTar
 rw [if_pos (show isW [116,97,114,105,102,102] (tkS Zfd::_)=true from rfl),List.tail_cons,Zkt h1 h4]
 dsimp only
 rw [if_pos (show isW [102,111,114] (tkS sFor::_)=true from rfl),List.tail_cons]
 unfold Yg
 rw [Zc9 hk,if_pos (by omega)]
 dsimp only
 rw [List.tail_cons,if_pos (show isW [123] (tkS sLb::_)=true from rfl),List.tail_cons]
 have hlen:∀cs:List Cls,cs.length<=(txCs cs).length:=by
  intro cs
  induction cs with
  |nil=>exact Nat.le_refl _
  |cons c r ih=>
   rw [Ze4]
   unfold txC
   simp
   omega
 rw [Zc7 (r:= [tkS sRb]) rfl t.clauses [] _ h6 (by have:=hlen t.clauses;simp;omega) (by simpa using h5)]
 unfold pEnd
 dsimp only
 rw [if_pos (show isW [125] [tkS sRb]=true from rfl),if_neg (by simp)]
 have:wr .i64 (1+(((t.for_-1).toNat:Nat):Int))=t.for_:=by
  rw [wr64 (by omega) (by omega)]
  omega
 rw [this]
 rfl
end
section
open Go
abbrev PP (β:Type):=List Tok->Int->PR β
def Z8q (l:List Tok) (e:Int) (er:Int×Int):Prop:=(er.1=e\/∃t∈l,t.at_=er.1)/\(er.2=2\/er.2=160\/er.2=161)
section
variable {α β : Type}
def Okp (rel:β->β->Prop) (p:PP β) (l:List Tok) (y:β) (k:Nat):Prop:=
 k<=l.length/\∀(l':List Tok) (m:Nat) (f:Int),l'.map sT=(l.map sT).take m->
  (k<=m->p l' f= .ok (y,l'.drop k,f,()))/\(m<k->p l' f= .error (f,160)\/∃y',rel y' y/\p l' f= .ok (y',[],f,()))
def ErrS (p:PP β) (l:List Tok) (e:Int) (er:Int×Int):Prop:=∃(j:Nat) (c:Int),er=(hdT e (l.drop j),c)/\(c=2\/c=160\/c=161)/\∀(l':List Tok) (f:Int),l'.map sT=l.map sT->p l' f= .error (hdT f (l'.drop j),c)
def Gd (rel:β->β->Prop) (p:PP β):Prop:=∀l e,(∀y x,p l e= .ok (y,x)->∃k,x=(l.drop k,e,())/\Okp rel p l y k)/\∀er,p l e= .error er->ErrS p l e er
theorem Z8r (l:List Tok) (e:Int):hdT e l=e\/∃t∈l,t.at_=hdT e l:=by
 cases l with
 |nil=>exact .inl rfl
 |cons t r=>exact .inr ⟨t,by simp,rfl⟩
theorem ErrS.at {p:PP β} {l:List Tok} {e:Int} {er:Int×Int} (h:ErrS p l e er):Z8q l e er:=by
 obtain ⟨j,c,rfl,hc,_⟩:=h
 refine ⟨(Z8r (l.drop j) e).imp id ?_,hc⟩
 rintro ⟨t,ht,h⟩
 exact ⟨t,List.mem_of_mem_drop ht,h⟩
theorem ErrS.hd {p:PP β} {l:List Tok} {e:Int} {c:Int} (hc:c=2\/c=160\/c=161) (h:∀(l':List Tok) (f:Int),l'.map sT=l.map sT->p l' f= .error (hdT f l',c)):ErrS p l e (hdT e l,c):=⟨0,c,rfl,hc,h⟩
theorem Zbs {l l':List Tok} (h:l'.map sT=l.map sT):l'.map sT=(l.map sT).take l.length:=by rw [h,List.take_of_length_le (by simp)]
theorem Gd.mono {rel rel':β->β->Prop} {p:PP β} (h:Gd rel p) (hr:∀a b,rel a b->rel' a b):Gd rel' p:=by
 intro l e
 refine ⟨fun y x hy=> ?_,(h l e).2⟩
 obtain ⟨k,h1,h2,h3⟩:=(h l e).1 y x hy
 refine ⟨k,h1,h2,fun l' m f hl=>⟨(h3 l' m f hl).1,fun hm=>((h3 l' m f hl).2 hm).imp id ?_⟩⟩
 rintro ⟨y',h4,h5⟩
 exact ⟨y',hr _ _ h4,h5⟩
def pR (y:β):PP β:=fun l e=> .ok (y,l,e,())
def pSyn:PP β:=fun l e=> .error (hdT e l,160)
theorem Vn {l':List Tok} {m:Nat} (h:l'.map sT=(([]:List Tok).map sT).take m):l'= []:=by
 rw [List.map_nil,List.take_nil] at h
 exact List.map_eq_nil_iff.1 h
theorem gd_R (rel:β->β->Prop) (y:β):Gd rel (pR y):=by
 intro l e
 refine ⟨fun z x h=> ?_,fun er h=>by cases h⟩
 unfold pR at h
 cases h
 refine ⟨0,rfl,Nat.zero_le _,fun l' m f _=>⟨fun _=>rfl,fun h=>by omega⟩⟩
theorem Vy (rel:β->β->Prop):Gd rel (pSyn:PP β):=by
 intro l e
 refine ⟨fun z x h=>(by cases h),fun er h=> ?_⟩
 unfold pSyn at h
 cases h
 exact .hd (by simp) fun l' f _=>rfl
def pBc (p:PP α) (c:α->Bool) (code:Int) (q:α->PP β):PP β:=fun l e=>
 match p l e with
 | .error er=> .error er
 | .ok (y,x)=>if c y then .error (hdT e l,code) else q y x.1 x.2.1
def pB (p:PP α) (q:α->PP β):PP β:=fun l e=>
 match p l e with
 | .error er=> .error er
 | .ok (y,x)=>q y x.1 x.2.1
theorem Zvi {l':List Tok} {l:List Tok} {m k:Nat} (h:l'.map sT=(l.map sT).take m):(l'.drop k).map sT=((l.drop k).map sT).take (m-k):=by
 rw [List.map_drop,h,List.map_drop,List.drop_take]
theorem Zzz {rel:α->α->Prop} {rel':β->β->Prop} {p:PP α} {c:α->Bool} {code:Int} {q:α->PP β} (hp:Gd rel p) (hq:∀y,Gd rel' (q y)) (hcode:code=2\/code=160\/code=161) (hc:∀y y',rel y' y->c y=false->c y'=false)
 (h0:∀y y' l e z x,rel y' y->q y l e= .ok (z,x)->∀f,q y' [] f= .error (f,160)\/∃z',rel' z' z/\q y' [] f= .ok (z',[],f,())):Gd rel' (pBc p c code q):=by
 intro l e
 have E:∀l e,pBc p c code q l e=match p l e with| .error er=> .error er| .ok (y,x)=>if c y then .error (hdT e l,code) else q y x.1 x.2.1:=fun _ _=>rfl
 rw [E]
 cases h:p l e with
 |error er=>
  refine ⟨fun z x h=>(by cases h),fun er' h'=> ?_⟩
  cases h'
  obtain ⟨j,c0,h1,h2,h3⟩:=(hp l e).2 er h
  exact ⟨j,c0,h1,h2,fun l' f hl=>by rw [E,h3 l' f hl]⟩
 |ok y=>
  obtain ⟨y,x⟩:=y
  obtain ⟨k1,rfl,h1,h2⟩:=(hp l e).1 y x h
  dsimp only
  cases hcy:c y with
  |true=>
   refine ⟨fun z x h=>(by cases h),fun er' h'=> ?_⟩
   cases h'
   refine .hd hcode fun l' f hl=> ?_
   rw [E,(h2 l' l.length f (Zbs hl)).1 h1]
   dsimp only
   rw [hcy,if_pos rfl]
  |false=>
   rw [if_neg Bool.false_ne_true]
   refine ⟨fun z x2 hz=> ?_,fun er' h'=> ?_⟩
   rotate_left
   · obtain ⟨j,c0,h3,h4,h5⟩:=(hq y _ _).2 er' h'
     refine ⟨k1+j,c0,by rw [h3,List.drop_drop],h4,fun l' f hl=> ?_⟩
     rw [E,(h2 l' l.length f (Zbs hl)).1 h1]
     dsimp only
     rw [hcy,if_neg Bool.false_ne_true,h5 (l'.drop k1) f (by rw [List.map_drop,hl,List.map_drop]),List.drop_drop]
   obtain ⟨k2,rfl,h3,h4⟩:=(hq y _ _).1 z x2 hz
   rw [List.length_drop] at h3
   refine ⟨k1+k2,by rw [List.drop_drop],by omega,fun l' m f hl=> ?_⟩
   have hd:=Zvi (k:=k1) hl
   rw [E]
   refine ⟨fun hm=> ?_,fun hm=> ?_⟩
   · rw [(h2 l' m f hl).1 (by omega)]
     dsimp only
     rw [hcy,if_neg Bool.false_ne_true,(h4 _ _ f hd).1 (by omega),List.drop_drop]
   · by_cases hk:k1<=m
     · rw [(h2 l' m f hl).1 hk]
       dsimp only
       rw [hcy,if_neg Bool.false_ne_true]
       exact (h4 _ _ f hd).2 (by omega)
     · rcases (h2 l' m f hl).2 (by omega) with h5|⟨y',h5,h6⟩
       · rw [h5]
         exact .inl rfl
       · rw [h6]
         dsimp only
         rw [hc y y' h5 hcy,if_neg Bool.false_ne_true]
         exact h0 y y' _ _ z _ h5 hz f
theorem Ya8 (p:PP α) (q:α->PP β):pB p q=pBc p (fun _=>false) 2 q:=by
 funext l e
 unfold pB pBc
 cases p l e with
 |error er=>rfl
 |ok y=>rfl
theorem gd_b {rel:α->α->Prop} {rel':β->β->Prop} {p:PP α} {q:α->PP β} (hp:Gd rel p) (hq:∀y,Gd rel' (q y))
 (h0:∀y y' l e z x,rel y' y->q y l e= .ok (z,x)->∀f,q y' [] f= .error (f,160)\/∃z',rel' z' z/\q y' [] f= .ok (z',[],f,())):Gd rel' (pB p q):=by
 rw [Ya8]
 exact Zzz hp hq (by simp) (fun _ _ _ _=>rfl) h0
def pIf (s:List Nat) (A B:PP β):PP β:=fun l e=>if isW s l then A l.tail e else B l e
theorem Wj {t t':Tok} (h:sT t'=sT t):t'.kind=t.kind/\t'.text=t.text/\t'.n=t.n:=by
 unfold sT atT at h
 injection h with h1 h2 h3 h4
 exact ⟨h1,h2,h3⟩
theorem Zj7 {s:List Nat} {t t':Tok} {r r':List Tok} (h:sT t'=sT t):isW s (t'::r')=isW s (t::r):=by
 obtain ⟨h1,h2,_⟩:=Wj h
 show (!(t'.kind==2)&&t'.text==s)=(!(t.kind==2)&&t.text==s)
 rw [h1,h2]
theorem Y5 {l' l:List Tok} {m:Nat} (h:l'.map sT=(l.map sT).take m):(l'= []/\(m=0\/l= []))\/∃t' r' t r m',l'=t'::r'/\l=t::r/\m=m'+1/\sT t'=sT t/\r'.map sT=(r.map sT).take m':=by
 cases m with
 |zero=>
  rw [List.take_zero] at h
  exact .inl ⟨List.map_eq_nil_iff.1 h,.inl rfl⟩
 |succ m=>
  cases l with
  |nil=>exact .inl ⟨Vn h,.inr rfl⟩
  |cons t r=>
   cases l' with
   |nil=>simp at h
   |cons t' r'=>
    rw [List.map_cons,List.map_cons,List.take_succ_cons] at h
    injection h with h1 h2
    exact .inr ⟨t',r',t,r,m,rfl,rfl,rfl,h1,h2⟩
theorem V2 {rel:β->β->Prop} {s:List Nat} {A B:PP β} (hA:Gd rel A) (hB:Gd rel B) (h0:∀l e y x,A l e= .ok (y,x)->∀f,B [] f= .error (f,160)\/∃y',rel y' y/\B [] f= .ok (y',[],f,())):Gd rel (pIf s A B):=by
 intro l e
 have E:∀l e,pIf s A B l e=if isW s l then A l.tail e else B l e:=fun _ _=>rfl
 rw [E]
 cases hw:isW s l with
 |true=>
  rw [if_pos rfl]
  cases l with
  |nil=>cases hw
  |cons t r=>
   refine ⟨fun y x hy=> ?_,fun er h=> ?_⟩
   rotate_left
   · obtain ⟨j,c0,h3,h4,h5⟩:=(hA r e).2 er h
     refine ⟨j+1,c0,h3,h4,fun l' f hl=> ?_⟩
     rcases Y5 (Zbs hl) with ⟨rfl,h6⟩|⟨t',r',t2,r2,m',rfl,h6,h7,h8,h9⟩
     · simp at hl
     · cases h6
       rw [E,Zj7 (r':=r') (r:=r) h8,hw,if_pos rfl]
       refine h5 r' f ?_
       simpa using (List.cons.inj hl).2
   obtain ⟨k,rfl,h1,h2⟩:=(hA r e).1 y x hy
   refine ⟨k+1,rfl,by simpa using h1,fun l' m f hl=> ?_⟩
   rw [E]
   rcases Y5 hl with ⟨rfl,h3⟩|⟨t',r',t2,r2,m',rfl,h3,rfl,h4,h5⟩
   · have hm:m=0:=by
      rcases h3 with h3|h3
      · exact h3
      · cases h3
     subst hm
     refine ⟨fun h=>by omega,fun _=> ?_⟩
     rw [show isW s []=false from rfl,if_neg Bool.false_ne_true]
     exact h0 _ _ _ _ hy f
   · cases h3
     rw [Zj7 (r':=r') (r:=r) h4,hw,if_pos rfl]
     exact ⟨fun hm=>(h2 r' m' f h5).1 (by omega),fun hm=>(h2 r' m' f h5).2 (by omega)⟩
 |false=>
  rw [if_neg Bool.false_ne_true]
  have nW:∀(l':List Tok) (m:Nat),l'.map sT=(l.map sT).take m->isW s l'=false:=by
   intro l' m hl
   rcases Y5 hl with ⟨rfl,_⟩|⟨t',r',t,r,m',rfl,rfl,rfl,h4,h5⟩
   · rfl
   · rw [Zj7 (r:=r) h4]
     exact hw
  refine ⟨fun y x hy=> ?_,fun er h=> ?_⟩
  rotate_left
  · obtain ⟨j,c0,h3,h4,h5⟩:=(hB l e).2 er h
    refine ⟨j,c0,h3,h4,fun l' f hl=> ?_⟩
    rw [E,nW l' l.length (Zbs hl),if_neg Bool.false_ne_true]
    exact h5 l' f hl
  obtain ⟨k,rfl,h1,h2⟩:=(hB l e).1 y x hy
  refine ⟨k,rfl,h1,fun l' m f hl=> ?_⟩
  rw [E]
  have:=nW l' m hl
  rw [this,if_neg Bool.false_ne_true]
  exact h2 l' m f hl
def pOne (c:Tok->Bool) (v:Tok->β):PP β:=fun l e=>
 match l with
 | []=> .error (e,160)
 |t::r=>if c (sT t) then .ok (v (sT t),r,e,()) else .error (t.at_,160)
theorem Z2q (rel:β->β->Prop) (c:Tok->Bool) (v:Tok->β):Gd rel (pOne c v):=by
 intro l e
 cases l with
 |nil=>
  refine ⟨fun y x hy=>(by cases hy),fun er h=> ?_⟩
  cases h
  refine .hd (by simp) fun l' f hl=> ?_
  have:l'= []:=Vn (m:=0) (by simpa using hl)
  subst this
  rfl
 |cons t r=>
  have E:∀t r e,pOne c v (t::r) e=if c (sT t) then .ok (v (sT t),r,e,()) else .error (t.at_,160):=fun _ _ _=>rfl
  rw [E]
  cases hc:c (sT t) with
  |false=>
   rw [if_neg Bool.false_ne_true]
   refine ⟨fun y x hy=>(by cases hy),fun er h=> ?_⟩
   cases h
   refine .hd (l:=t::r) (by simp) fun l' f hl=> ?_
   cases l' with
   |nil=>simp at hl
   |cons t' r'=>
    have h1:sT t'=sT t:=(List.cons.inj hl).1
    rw [E,h1,hc,if_neg Bool.false_ne_true]
    rfl
  |true=>
   rw [if_pos rfl]
   refine ⟨fun y x hy=> ?_,fun er h=>(by cases h)⟩
   cases hy
   refine ⟨1,rfl,by simp,fun l' m f hl=> ?_⟩
   rcases Y5 hl with ⟨rfl,h3⟩|⟨t',r',t2,r2,m',rfl,h3,rfl,h4,h5⟩
   · have hm:m=0:=by
      rcases h3 with h3|h3
      · exact h3
      · cases h3
     subst hm
     exact ⟨fun h=>by omega,fun _=> .inl rfl⟩
   · cases h3
     rw [E,h4,hc,if_pos rfl]
     exact ⟨fun _=>rfl,fun h=>by omega⟩
def pOpt (c:Tok->Bool) (v:Tok->β) (z:β):PP β:=fun l e=>
 match l with
 | []=> .ok (z,[],e,())
 |t::r=>if c (sT t) then .ok (v (sT t),r,e,()) else .ok (z,t::r,e,())
theorem Zvj (c:Tok->Bool) (v:Tok->β) (z:β):Gd (fun a _=>a=z) (pOpt c v z):=by
 intro l e
 cases l with
 |nil=>
  refine ⟨fun y x hy=> ?_,fun er h=>(by cases h)⟩
  cases hy
  refine ⟨0,rfl,Nat.zero_le _,fun l' m f hl=>⟨fun _=> ?_,fun h=>by omega⟩⟩
  have:l'= []:=Vn hl
  subst this
  rfl
 |cons t r=>
  have E:∀t r e,pOpt c v z (t::r) e=if c (sT t) then .ok (v (sT t),r,e,()) else .ok (z,t::r,e,()):=fun _ _ _=>rfl
  rw [E]
  cases hc:c (sT t) with
  |false=>
   rw [if_neg Bool.false_ne_true]
   refine ⟨fun y x hy=> ?_,fun er h=>(by cases h)⟩
   cases hy
   refine ⟨0,rfl,Nat.zero_le _,fun l' m f hl=>⟨fun _=> ?_,fun h=>by omega⟩⟩
   rcases Y5 hl with ⟨rfl,_⟩|⟨t',r',t2,r2,m',rfl,h3,rfl,h4,h5⟩
   · rfl
   · cases h3
     rw [E,h4,hc,if_neg Bool.false_ne_true]
     rfl
  |true=>
   rw [if_pos rfl]
   refine ⟨fun y x hy=> ?_,fun er h=>(by cases h)⟩
   cases hy
   refine ⟨1,rfl,by simp,fun l' m f hl=> ?_⟩
   rcases Y5 hl with ⟨rfl,h3⟩|⟨t',r',t2,r2,m',rfl,h3,rfl,h4,h5⟩
   · have hm:m=0:=by
      rcases h3 with h3|h3
      · exact h3
      · cases h3
     subst hm
     exact ⟨fun h=>by omega,fun _=> .inr ⟨z,rfl,rfl⟩⟩
   · cases h3
     rw [E,h4,hc,if_pos rfl]
     exact ⟨fun _=>rfl,fun h=>by omega⟩
end
abbrev NoR {β:Type}:β->β->Prop:=fun _ _=>False
abbrev AnyR {β:Type}:β->β->Prop:=fun _ _=>True
abbrev NeR:Ex->Ex->Prop:=fun a b=>Zx a<=Zx b
theorem Zpn:pInt=pOne (fun t=>t.kind=2) (fun t=>t.n):=by
 funext l e
 cases l with
 |nil=>rfl
 |cons t r=>
  show (if t.kind=2 then _ else _)=(if decide (t.kind=2)=true then _ else _)
  by_cases h:t.kind=2
  · rw [if_pos h,if_pos (decide_eq_true h)]
    rfl
  · rw [if_neg h,if_neg (by simpa using h)]
theorem Zj8 (ws:List (List Nat)):Yg ws=pOne (fun t=>decide (0<=chz ws [t])) (fun t=>chz ws [t]):=by
 funext l e
 cases l with
 |nil=>rfl
 |cons t r=>
  have h1:chz ws (t::r)=chz ws [sT t]:=rfl
  unfold Yg pOne
  dsimp only
  rw [h1]
  by_cases h:0<=chz ws [sT t]
  · rw [if_pos h,if_pos (decide_eq_true h)]
    rfl
  · rw [if_neg h,if_neg (by simpa using h)]
    rfl
theorem Zet (ws:List (List Nat)):Zq ws=pOpt (fun t=>decide (0<=chz ws [t])) (fun t=>(chz ws [t],true,())) (0,false,()):=by
 funext l e
 cases l with
 |nil=>rfl
 |cons t r=>
  have h1:chz ws (t::r)=chz ws [sT t]:=rfl
  unfold Zq pOpt
  dsimp only
  rw [h1]
  by_cases h:0<=chz ws [sT t]
  · rw [if_pos h,if_pos (decide_eq_true h)]
    rfl
  · rw [if_neg h,if_neg (by simpa using h)]
theorem Zvk:Gd NoR pInt:=by rw [Zpn];exact Z2q _ _ _
theorem Zh7 (ws:List (List Nat)):Gd NoR (Yg ws):=by rw [Zj8];exact Z2q _ _ _
theorem Zj9 (ws:List (List Nat)):Gd (fun a _=>a=(0,false,())) (Zq ws):=by rw [Zet];exact Zvj _ _ _
theorem U5 (t:Tok) (r:List Tok) (e:Int):Vt (t::r) e=if t.kind=1 then (if t.text∈resW then .error (t.at_,161) else .ok (t.text,r,e,())) else .error (t.at_,160):=rfl
theorem Zvl:Gd NoR Vt:=by
 intro l e
 cases l with
 |nil=>
  refine ⟨fun y x hy=>(by cases hy),fun er h=> ?_⟩
  cases h
  refine .hd (l:= []) (by simp) fun l' f hl=> ?_
  have:l'= []:=Vn (m:=0) (by simpa using hl)
  subst this
  rfl
 |cons t r=>
  have sim:∀(l':List Tok),l'.map sT=(t::r).map sT->∃t' r',l'=t'::r'/\t'.kind=t.kind/\t'.text=t.text:=by
   intro l' hl
   cases l' with
   |nil=>simp at hl
   |cons t' r'=>
    obtain ⟨g1,g2,_⟩:=Wj (List.cons.inj hl).1
    exact ⟨t',r',rfl,g1,g2⟩
  rw [U5]
  split
  · rename_i hk
    split
    · rename_i hr
      refine ⟨fun y x hy=>(by cases hy),fun er h=> ?_⟩
      cases h
      refine .hd (l:=t::r) (by simp) fun l' f hl=> ?_
      obtain ⟨t',r',rfl,g1,g2⟩:=sim l' hl
      rw [U5,g1,g2,if_pos hk,if_pos hr]
      rfl
    · rename_i hr
      refine ⟨fun y x hy=> ?_,fun er h=>(by cases h)⟩
      cases hy
      refine ⟨1,rfl,by simp,fun l' m f hl=> ?_⟩
      rcases Y5 hl with ⟨rfl,h3⟩|⟨t',r',t2,r2,m',rfl,h3,rfl,h4,h5⟩
      · have hm:m=0:=by
         rcases h3 with h3|h3
         · exact h3
         · cases h3
        subst hm
        exact ⟨fun h=>by omega,fun _=> .inl rfl⟩
      · cases h3
        obtain ⟨g1,g2,_⟩:=Wj h4
        refine ⟨fun _=> ?_,fun h=>by omega⟩
        rw [U5,g1,g2,if_pos hk,if_neg hr]
        rfl
  · rename_i hk
    refine ⟨fun y x hy=>(by cases hy),fun er h=> ?_⟩
    cases h
    refine .hd (l:=t::r) (by simp) fun l' f hl=> ?_
    obtain ⟨t',r',rfl,g1,g2⟩:=sim l' hl
    rw [U5,g1,if_neg hk]
    rfl
theorem Zvm:Y6=pB (Zq WK.un.words) fun y=>pIf sPer (pB (Yg WK.un.words) fun j=>pR (decD (if y.2.1 then incD [0,0,0,0] y.1 else [0,0,0,0]) j)) (pR (if y.2.1 then incD [0,0,0,0] y.1 else [0,0,0,0])):=by
 funext l e
 unfold Y6 pB pIf
 cases Zq WK.un.words l e with
 |error er=>rfl
 |ok y=>
  dsimp only
  split
  · cases Yg WK.un.words y.2.1.tail y.2.2.1 with
    |error er=>rfl
    |ok z=>rfl
  · rfl
theorem Z43:Gd AnyR Y6:=by
 rw [Zvm]
 refine gd_b (Zj9 _) (fun y=>V2 (gd_b (Zh7 _) (fun j=>gd_R _ _) (fun _ _ _ _ _ _ h=>h.elim)) (gd_R _ _) fun l e y x _ f=> .inr ⟨_,trivial,rfl⟩) ?_
 intro y y' l e z x _ _ f
 exact .inr ⟨_,trivial,rfl⟩
theorem Zvn (n:Int):Wp n=pBc (Yg WK.at_.words) (fun _=>decide (n=8)) 2 fun a=>pIf sIs (pB pInt fun m=>pR ⟨a,m,m⟩) (pIf sIn (pB pInt fun m=>pIf Zcd (pB pInt fun k=>pR ⟨a,m,k⟩) pSyn) pSyn):=by
 funext l e
 unfold Wp pBc pIf pB
 cases Yg WK.at_.words l e with
 |error er=>rfl
 |ok y=>
  dsimp only
  by_cases hn:n=8
  · rw [if_pos hn,if_pos (decide_eq_true hn)]
  · rw [if_neg hn,if_neg (show ¬decide (n=8)=true by simpa using hn)]
    split
    · cases pInt y.2.1.tail y.2.2.1 with
      |error er=>rfl
      |ok z=>rfl
    · split
      · cases pInt y.2.1.tail y.2.2.1 with
        |error er=>rfl
        |ok z=>
         dsimp only
         split
         · cases pInt z.2.1.tail z.2.2.1 with
           |error er=>rfl
           |ok u=>rfl
         · rfl
      · rfl
theorem Z44 (n:Int):Gd NoR (Wp n):=by
 rw [Zvn]
 refine Zzz (Zh7 _) (fun a=> ?_) (by simp) (fun _ _ h=>h.elim) (fun _ _ _ _ _ _ h=>h.elim)
 refine V2 (gd_b Zvk (fun m=>gd_R _ _) (fun _ _ _ _ _ _ h=>h.elim)) (V2 (gd_b Zvk (fun m=> ?_) (fun _ _ _ _ _ _ h=>h.elim)) (Vy _) fun _ _ _ _ _ f=> .inl rfl) fun _ _ _ _ _ f=> .inl rfl
 exact V2 (gd_b Zvk (fun k=>gd_R _ _) (fun _ _ _ _ _ _ h=>h.elim)) (Vy _) fun _ _ _ _ _ f=> .inl rfl
theorem Z8s (k:Nat) (ts:List Tst):pTs (k+1) true ts=pB (Wp ts.length) fun t=>pIf [97,110,100] (pTs k true (ts++ [t])) (pTs k false (ts++ [t])):=by
 funext l e
 unfold pB pIf
 rw [pTs,if_pos rfl]
 cases Wp ts.length l e with
 |error er=>rfl
 |ok y=>
  dsimp only
  cases isW [97,110,100] y.2.1<;>rfl
theorem Zz0 (k:Nat) (ts:List Tst):pTs k false ts=pR ts:=by
 funext l e
 exact Zij k ts l e
theorem Z45:∀(k:Nat) (more:Bool) (ts:List Tst),Gd AnyR (pTs k more ts)
 |0,more,ts=>gd_R _ ts
 |k+1,false,ts=>by rw [Zz0];exact gd_R _ _
 |k+1,true,ts=>by
  rw [Z8s]
  refine gd_b (Z44 _) (fun t=>V2 (Z45 k true _) (Z45 k false _) fun _ _ _ _ _ f=> .inr ⟨ts++ [t],trivial,by rw [Zz0];rfl⟩) (fun _ _ _ _ _ _ h=>h.elim)
theorem Z2r (pe:PE) (s:List Nat) (r:List (List Nat)) (acc:List Ex):pOpL pe (s::r) acc=pB pe fun x=>pIf s (pOpL pe r (acc++ [x])) pSyn:=by
 funext l e
 rw [pOpL]
 unfold pB pIf pSyn
 cases pe l e with
 |error er=>rfl
 |ok y=>rfl
theorem Z2s {pe:PE} (h:Gd NeR pe):∀(ss:List (List Nat)) (acc:List Ex),Gd NoR (pOpL pe ss acc)
 | [],acc=>gd_R _ acc
 |s::r,acc=>by
  rw [Z2r]
  exact gd_b h (fun x=>V2 (Z2s h r _) (Vy _) fun _ _ _ _ _ f=> .inl rfl) fun _ _ _ _ _ _ _ _ f=> .inl rfl
theorem Z2t (pe:PE) (op:Int) (ss:List (List Nat)):pOps pe op ss=pIf Xa (pB (pOpL pe ss []) fun xs=>pR (.mk op 0 0 0 0 0 xs)) pSyn:=by
 funext l e
 unfold pOps pIf pB pSyn
 split
 · cases pOpL pe ss [] l.tail e with
   |error er=>rfl
   |ok y=>rfl
 · rfl
theorem Z2u {pe:PE} (h:Gd NeR pe) (op:Int) (ss:List (List Nat)):Gd NoR (pOps pe op ss):=by
 rw [Z2t]
 exact V2 (gd_b (Z2s h ss []) (fun xs=>gd_R _ _) (fun _ _ _ _ _ _ h=>h.elim)) (Vy _) fun _ _ _ _ _ f=> .inl rfl
theorem Zvo (pe:PE):Vp pe=pIf Xa (pB pe fun x=>pIf Z0 (pR x) pSyn) (pIf sIf (pOps pe 11 [Zby,Z6,Z6,Z0]) (pB (Zq WK.ca.words) fun k=>if k.2.1 then pOps pe (6+k.1) [Z6,Z0] else pB (Yg WK.at_.words) fun a=>pR (.mk 2 a 0 0 0 0 []))):=by
 funext l e
 unfold Vp pIf pB pSyn
 split
 · cases pe l.tail e with
   |error er=>rfl
   |ok y=>rfl
 · split
   · rfl
   · cases Zq WK.ca.words l e with
     |error er=>rfl
     |ok y=>
      dsimp only
      cases y.1.2.1 with
      |true=>rfl
      |false=>
       rw [if_neg Bool.false_ne_true,if_neg Bool.false_ne_true]
       cases Yg WK.at_.words y.2.1 y.2.2.1 with
       |error er=>rfl
       |ok z=>rfl
theorem Z46 {pe:PE} (h:Gd NeR pe):Gd NoR (Vp pe):=by
 rw [Zvo]
 refine V2 (gd_b h (fun x=>V2 (gd_R _ _) (Vy _) fun _ _ _ _ _ f=> .inl rfl) fun _ _ _ _ _ _ _ _ f=> .inl rfl) (V2 (Z2u h _ _) (gd_b (Zj9 _) (fun k=> ?_) ?_) fun _ _ _ _ _ f=> .inl rfl) fun _ _ _ _ _ f=> .inl rfl
 · split
   · exact Z2u h _ _
   · exact gd_b (Zh7 _) (fun a=>gd_R _ _) (fun _ _ _ _ _ _ h=>h.elim)
 · rintro y y' l e z x rfl _ f
   exact .inl rfl
theorem Z8t {pe:PE} (h:Gd NeR pe):Gd NeR (pFac pe):=by
 have h2:=(Z46 h).mono (rel':=NeR) fun _ _ h=>h.elim
 intro l e
 cases l with
 |nil=>
  obtain ⟨g1,g2⟩:=h2 [] e
  refine ⟨fun y x hy=> ?_,fun er h=> ?_⟩
  rotate_left
  · obtain ⟨j,c0,h3,h4,h5⟩:=g2 er h
    refine ⟨j,c0,h3,h4,fun l' f hl=> ?_⟩
    have e1:l'= []:=Vn (m:=0) (by simpa using hl)
    subst e1
    exact h5 [] f rfl
  obtain ⟨k,hx,hk,ho⟩:=g1 y x hy
  refine ⟨k,hx,hk,fun l' m f hl=> ?_⟩
  have e1:l'= []:=Vn hl
  have:=ho l' m f hl
  subst e1
  exact this
 |cons t r=>
  have key:∀(t:Tok) (r:List Tok) (e:Int),pFac pe (t::r) e=if t.kind=2 then pB Y6 (fun d=>pR (.mk 1 t.n (d.getD 0 0) (d.getD 1 0) (d.getD 2 0) (d.getD 3 0) [])) r e else Vp pe (t::r) e:=by
   intro t r e
   show (if t.kind=2 then _ else _)=_
   split
   · unfold pB
     cases Y6 r e with
     |error er=>rfl
     |ok y=>rfl
   · rfl
  rw [key]
  by_cases hk:t.kind=2
  · rw [if_pos hk]
    have hg:Gd NeR (pB Y6 fun d=>pR (.mk 1 t.n (d.getD 0 0) (d.getD 1 0) (d.getD 2 0) (d.getD 3 0) [])):=by
     refine gd_b Z43 (fun d=>gd_R _ _) ?_
     intro y y' l e z x _ hz f
     unfold pR at hz
     cases hz
     exact .inr ⟨.mk 1 t.n (y'.getD 0 0) (y'.getD 1 0) (y'.getD 2 0) (y'.getD 3 0) [],by show Zx _<=Zx _;simp [Zx],rfl⟩
    refine ⟨fun y x hy=> ?_,fun er h=> ?_⟩
    rotate_left
    · obtain ⟨j,c0,h3,h4,h5⟩:=(hg r e).2 er h
      refine ⟨j+1,c0,h3,h4,fun l' f hl=> ?_⟩
      cases l' with
      |nil=>simp at hl
      |cons t' r'=>
       obtain ⟨g1,_,g3⟩:=Wj (List.cons.inj hl).1
       rw [key,g1,g3,if_pos hk]
       exact h5 r' f (List.cons.inj hl).2
    obtain ⟨k,rfl,h1,h2⟩:=(hg r e).1 y x hy
    refine ⟨k+1,rfl,by simpa using h1,fun l' m f hl=> ?_⟩
    rcases Y5 hl with ⟨rfl,h3⟩|⟨t',r',t2,r2,m',rfl,h3,rfl,h4,h5⟩
    · have hm:m=0:=by
       rcases h3 with h3|h3
       · exact h3
       · cases h3
      subst hm
      exact ⟨fun h=>by omega,fun _=> .inl rfl⟩
    · cases h3
      obtain ⟨g1,_,g3⟩:=Wj h4
      rw [key,g1,g3,if_pos hk]
      exact ⟨fun hm=>(h2 r' m' f h5).1 (by omega),fun hm=>(h2 r' m' f h5).2 (by omega)⟩
  · rw [if_neg hk]
    obtain ⟨g1,g2⟩:=h2 (t::r) e
    refine ⟨fun y x hy=> ?_,fun er h=> ?_⟩
    rotate_left
    · obtain ⟨j,c0,h3,h4,h5⟩:=g2 er h
      refine ⟨j,c0,h3,h4,fun l' f hl=> ?_⟩
      cases l' with
      |nil=>simp at hl
      |cons t' r'=>
       obtain ⟨q1,_,_⟩:=Wj (List.cons.inj hl).1
       rw [key,q1,if_neg hk]
       exact h5 _ f hl
    obtain ⟨k,hx,hk',ho⟩:=g1 y x hy
    refine ⟨k,hx,hk',fun l' m f hl=> ?_⟩
    have:=ho l' m f hl
    rcases Y5 hl with ⟨rfl,h3⟩|⟨t',r',t2,r2,m',rfl,h3,rfl,h4,h5⟩
    · exact this
    · cases h3
      obtain ⟨q1,_,_⟩:=Wj h4
      rw [key,q1,if_neg hk]
      exact this
theorem Zpo:pOp op1=pOpt (fun t=>isW sMul [t]) (fun _=>5) 0:=by
 funext l e
 cases l with
 |nil=>rfl
 |cons t r=>
  unfold pOp pOpt op1
  dsimp only
  rw [show isW sMul (t::r)=isW sMul [sT t] from rfl]
  split<;>rfl
theorem Zpp:pOp op2=pOpt (fun t=>isW Zap [t]||isW W6 [t]) (fun t=>if isW Zap [t] then 3 else 4) 0:=by
 funext l e
 cases l with
 |nil=>rfl
 |cons t r=>
  unfold pOp pOpt op2
  dsimp only
  rw [show isW Zap (t::r)=isW Zap [sT t] from rfl,show isW W6 (t::r)=isW W6 [sT t] from rfl]
  by_cases h1:isW Zap [sT t]=true
  · simp [h1]
  · by_cases h2:isW W6 [sT t]=true
    · simp [h1,h2]
    · simp [h1,h2]
theorem Z8u:Gd (fun a _=>a=0) (pOp op1):=by rw [Zpo];exact Zvj _ _ _
theorem Z8v:Gd (fun a _=>a=0) (pOp op2):=by rw [Zpp];exact Zvj _ _ _
theorem Z8w (op:Int) (x y:Ex):Zx (.mk op 0 0 0 0 0 [x,y])=max (Zx x) (Zx y)+1:=by simp [Zx,Zdc]
theorem Zmf (o:List Tok->Int×List Tok) (pf:PE) (k:Nat) (x:Ex) (op:Int):Yu o pf (k+1) x op=if op=0 then pR x else pB pf fun y=>pB (pOp o) fun op'=>Yu o pf k (.mk op 0 0 0 0 0 [x,y]) op':=by
 funext l e
 rw [Yu]
 split
 · rfl
 · unfold pB pOp
   cases pf l e with
   |error er=>rfl
   |ok y=>rfl
theorem Zh8 (o:List Tok->Int×List Tok) (pf:PE) (k:Nat) (x:Ex):Yu o pf k x 0=pR x:=by
 cases k with
 |zero=>rfl
 |succ k=>rw [Zmf,if_pos rfl]
theorem Um {o:List Tok->Int×List Tok} {pf:PE}:∀{k:Nat} {x:Ex} {op:Int} {l:List Tok} {e:Int} {z:Ex} {y:PX},Yu o pf k x op l e= .ok (z,y)->Zx x<=Zx z
 |0,x,op,l,e,z,y,h=>by
  unfold Yu at h
  cases h
  exact Nat.le_refl _
 |k+1,x,op,l,e,z,y,h=>by
  unfold Yu at h
  split at h
  · cases h
    exact Nat.le_refl _
  · split at h
    · cases h
    · have:=Um h
      rw [Z8w] at this
      omega
theorem b_ok {α β:Type} {p:PP α} {q:α->PP β} {l:List Tok} {e:Int} {z:β×PX} (h:pB p q l e= .ok z):∃y x,p l e= .ok (y,x)/\q y x.1 x.2.1= .ok z:=by
 unfold pB at h
 split at h
 · cases h
 · exact ⟨_,_,by assumption,h⟩
theorem Zvp {o:List Tok->Int×List Tok} (ho:Gd (fun a _=>a=0) (pOp o)) (ho0:o []=(0,[])) {pf:PE} (h:Gd NeR pf):∀(k:Nat) (x:Ex) (op:Int),Gd NeR (Yu o pf k x op)
 |0,x,op=>gd_R _ x
 |k+1,x,op=>by
  rw [Zmf]
  split
  · exact gd_R _ _
  · refine gd_b h (fun y=>gd_b ho (fun op'=>Zvp ho ho0 h k _ op') ?_) ?_
    · rintro op1 op2 l e z x2 rfl hz f
      rw [Zh8]
      exact .inr ⟨_,Um hz,rfl⟩
    · intro y y' l e z x2 hy hz f
      obtain ⟨op',x3,_,hz⟩:=b_ok hz
      have h1:=Um hz
      refine .inr ⟨.mk op 0 0 0 0 0 [x,y'],?_,?_⟩
      · have hy:Zx y'<=Zx y:=hy
        show Zx _<=Zx z
        rw [Z8w] at h1⊢
        omega
      · unfold pB pOp
        rw [ho0]
        dsimp only
        rw [Zh8]
        rfl
def pChN (o:List Tok->Int×List Tok) (pf:PE) (N:Nat):PE:=pB pf fun y=>pB (pOp o) fun op=>Yu o pf N y op
theorem Z8x {o:List Tok->Int×List Tok} (ho:Gd (fun a _=>a=0) (pOp o)) (ho0:o []=(0,[])) {pf:PE} (h:Gd NeR pf) (N:Nat):Gd NeR (pChN o pf N):=by
 unfold pChN
 refine gd_b h (fun y=>gd_b ho (fun op=>Zvp ho ho0 h N y op) ?_) ?_
 · rintro op1 op2 l e z x2 rfl hz f
   rw [Zh8]
   exact .inr ⟨_,Um hz,rfl⟩
 · intro y y' l e z x2 hy hz f
   obtain ⟨op',x3,_,hz⟩:=b_ok hz
   have h1:=Um hz
   refine .inr ⟨y',Nat.le_trans hy h1,?_⟩
   unfold pB pOp
   rw [ho0]
   dsimp only
   rw [Zh8]
   rfl
theorem Z8y {o:List Tok->Int×List Tok} (ho:∀l,(o l).2.length<=l.length) {pf:PE} (hp:Shr pf) {N:Nat} {l:List Tok} (hl:l.length<N) (e:Int):pCh o pf l e=pChN o pf N l e:=by
 unfold pCh pChN pB pOp
 cases hq:pf l e with
 |error er=>rfl
 |ok y=>
  have h1:=hp _ _ _ _ hq
  have h2:=ho y.2.1
  exact Zcx ho hp _ _ _ _ _ _ (by omega) (by omega)
theorem Z47 {β:Type} {rel:β->β->Prop} {p:PP β} (q:Nat->PP β) (hq:∀N,Gd rel (q N)) (h:∀N l e,l.length<N->p l e=q N l e):Gd rel p:=by
 intro l e
 have h1:=h (l.length+1) l e (Nat.lt_succ_self _)
 rw [h1]
 refine ⟨fun y x hy=> ?_,fun er h'=> ?_⟩
 rotate_left
 · obtain ⟨j,c0,h3,h4,h5⟩:=(hq _ l e).2 er h'
   refine ⟨j,c0,h3,h4,fun l' f hl=> ?_⟩
   have hlen:=congrArg List.length hl
   rw [List.length_map,List.length_map] at hlen
   rw [h (l.length+1) l' f (by omega)]
   exact h5 l' f hl
 obtain ⟨k,hx,hk,ho⟩:=(hq _ l e).1 y x hy
 refine ⟨k,hx,hk,fun l' m f hl=> ?_⟩
 have hlen:l'.length<=l.length:=by
  have:=congrArg List.length hl
  rw [List.length_map,List.length_take,List.length_map] at this
  omega
 rw [h (l.length+1) l' f (by omega)]
 exact ho l' m f hl
theorem Z8z {o:List Tok->Int×List Tok} (hle:∀l,(o l).2.length<=l.length) (ho:Gd (fun a _=>a=0) (pOp o)) (ho0:o []=(0,[])) {pf:PE} (hp:Shr pf) (h:Gd NeR pf):Gd NeR (pCh o pf):=
 Z47 (pChN o pf) (Z8x ho ho0 h) fun N l e hl=>Z8y hle hp hl e
theorem gd_E:∀n,Gd NeR (pE n)
 |0=>Vy _
 |n+1=>by
  unfold pE
  exact Z8z Zlh Z8v rfl (V5 Zan (Wc (Wt n))).shr (Z8z Zlg Z8u rfl (Zdt (Wt n)) (Z8t (gd_E n)))
theorem gd_X:Gd NeR pX:=Z47 pE gd_E fun N l e hl=>(Z3g N l e hl).symm
theorem Z2v (nm:List Nat) (ts:List Tst):pPay nm ts=pIf [112,97,121] (pBc pX (fun x=>decide (24<Zx x)) 2 fun x=>pIf [59] (pR ⟨nm,ts,x⟩) pSyn) pSyn:=by
 funext l e
 unfold pPay pIf pBc pSyn
 split
 · cases pX l.tail e with
   |error er=>rfl
   |ok y=>
    dsimp only
    by_cases h:24<Zx y.1
    · rw [if_pos h,if_pos (decide_eq_true h)]
    · rw [if_neg h,if_neg (show ¬decide (24<Zx y.1)=true by simpa using h)]
      rfl
 · rfl
theorem Z2w (nm:List Nat) (ts:List Tst):Gd NoR (pPay nm ts):=by
 rw [Z2v]
 refine V2 (Zzz gd_X (fun x=>V2 (gd_R _ _) (Vy _) fun _ _ _ _ _ f=> .inl rfl) (by simp) ?_ fun _ _ _ _ _ _ _ _ f=> .inl rfl) (Vy _) fun _ _ _ _ _ f=> .inl rfl
 intro y y' h hc
 have h:Zx y'<=Zx y:=h
 rw [decide_eq_false_iff_not] at hc⊢
 omega
theorem Zka (bs:List Cls):Z4 bs=pBc Vt (fun nm=>bs.any fun b=>b.name==nm) 161 fun nm=>pIf [119,104,101,110] (pB (pTs 10 true []) fun ts=>pPay nm ts) (pPay nm []):=by
 funext l e
 unfold Z4 pBc pIf pB
 cases Vt l e with
 |error er=>rfl
 |ok y=>
  dsimp only
  by_cases hb:(bs.any fun b=>b.name==y.1)=true
  · rw [if_pos hb,if_pos hb]
  · rw [if_neg hb,if_neg hb]
    by_cases hw:isW [119,104,101,110] y.2.1=true
    · rw [if_pos hw,if_pos hw,hw]
      unfold pAft
      cases pTs 10 true [] y.2.1.tail y.2.2.1 with
      |error er=>rfl
      |ok z=>rfl
    · rw [if_neg hw,if_neg hw]
      rw [Bool.not_eq_true] at hw
      rw [hw,Zz0]
      rfl
theorem Zvq (nm:List Nat) (ts:List Tst) (f:Int):pPay nm ts [] f= .error (f,160):=rfl
theorem Zvr (bs:List Cls):Gd NoR (Z4 bs):=by
 rw [Zka]
 refine Zzz Zvl (fun nm=>V2 (gd_b (Z45 _ _ _) (fun ts=>Z2w _ _) fun _ _ _ _ _ _ _ _ f=> .inl (Zvq _ _ _)) (Z2w _ _) fun _ _ _ _ _ f=> .inl (Zvq _ _ _)) (by simp) (fun _ _ h=>h.elim) (fun _ _ _ _ _ _ h=>h.elim)
theorem Z2x (k:Nat) (cs:List Cls) (h:cs.length≠64):pCls (k+1) cs=pIf [99,108,97,117,115,101] (pB (Z4 cs) fun c=>pCls k (cs++ [c])) (pR cs):=by
 funext l e
 rw [pCls]
 unfold pIf pB
 split
 · cases Z4 cs l.tail e with
   |error er=>rfl
   |ok y=>rfl
 · rfl
theorem Z2y:∀(k:Nat) (cs:List Cls),Gd AnyR (pCls k cs)
 |0,cs=>gd_R _ cs
 |k+1,cs=>by
  by_cases h:cs.length=64
  · intro l e
    rw [pCls,if_pos h]
    cases hw:isW [99,108,97,117,115,101] l with
    |true=>
     rw [if_pos rfl]
     refine ⟨fun y x h=>(by cases h),fun er h'=> ?_⟩
     cases h'
     refine .hd (by simp) fun l' f hl=> ?_
     have:isW [99,108,97,117,115,101] l'=true:=by
      cases l' with
      |nil=>
       cases l with
       |nil=>cases hw
       |cons t r=>simp at hl
      |cons t' r'=>
       cases l with
       |nil=>simp at hl
       |cons t r=>
        rw [Zj7 (r:=r) (List.cons.inj hl).1]
        exact hw
     rw [pCls,if_pos h,this,if_pos rfl]
    |false=>
     rw [if_neg Bool.false_ne_true]
     refine ⟨fun y x hy=> ?_,fun er h=>(by cases h)⟩
     cases hy
     refine ⟨0,rfl,Nat.zero_le _,fun l' m f hl=>⟨fun _=> ?_,fun h=>by omega⟩⟩
     have:isW [99,108,97,117,115,101] l'=false:=by
      rcases Y5 hl with ⟨rfl,_⟩|⟨t',r',t,r,m',rfl,rfl,rfl,h4,h5⟩
      · rfl
      · rw [Zj7 (r:=r) h4]
        exact hw
     rw [pCls,this,if_neg Bool.false_ne_true]
     rfl
  · rw [Z2x k cs h]
    refine V2 (gd_b (Zvr cs) (fun c=>Z2y k _) (fun _ _ _ _ _ _ h=>h.elim)) (gd_R _ _) fun _ _ _ _ _ f=> .inr ⟨cs,trivial,rfl⟩
theorem Zkb:∀(k k':Nat) (cs:List Cls) (l:List Tok) (e:Int),l.length<k->l.length<k'->pCls k cs l e=pCls k' cs l e
 |0,_,_,_,_,h,_=>by omega
 |_+1,0,_,_,_,_,h=>by omega
 |k+1,k'+1,cs,l,e,h,h'=>by
  unfold pCls
  split
  · rename_i hw
    split
    · rfl
    · have h1:=Zm hw
      cases hq:Z4 cs l.tail e with
      |error er=>rfl
      |ok y=>
       have h2:=Vq hq
       exact Zkb k k' _ _ _ (by omega) (by omega)
  · rfl
def pEof (t:Tar):PP Tar:=fun l e=>if 0<l.length then .error (hdT e l,160) else .ok (t,l,e,())
theorem Z80 (t:Tar):Gd NoR (pEof t):=by
 intro l e
 unfold pEof
 split
 · rename_i h0
   refine ⟨fun y x h=>(by cases h),fun er h=> ?_⟩
   cases h
   refine .hd (by simp) fun l' f hl=> ?_
   have hlen:=congrArg List.length hl
   rw [List.length_map,List.length_map] at hlen
   show (if 0<l'.length then _ else _)=_
   rw [if_pos (by omega)]
 · rename_i hl
   have:l= []:=List.eq_nil_of_length_eq_zero (by omega)
   subst this
   refine ⟨fun y x hy=> ?_,fun er h=>(by cases h)⟩
   cases hy
   refine ⟨0,rfl,Nat.zero_le _,fun l' m f hl=>⟨fun _=> ?_,fun h=>by omega⟩⟩
   have:l'= []:=Vn hl
   subst this
   rfl
def Zrv (N:Nat):PP Tar:=pIf [116,97,114,105,102,102] (pB Vt fun nm=>pIf [102,111,114] (pB (Yg WK.ki.words) fun k=>pIf [123] (pB (pCls N []) fun cs=>pIf [125] (pEof ⟨nm,wr .i64 (1+k),cs⟩) pSyn) pSyn) pSyn) pSyn
theorem Z48 (N:Nat):Gd NoR (Zrv N):=by
 unfold Zrv
 refine V2 (gd_b Zvl (fun nm=>V2 (gd_b (Zh7 _) (fun k=>V2 (gd_b (Z2y _ _) (fun cs=>V2 (Z80 _) (Vy _) fun _ _ _ _ _ f=> .inl rfl) ?_) (Vy _) fun _ _ _ _ _ f=> .inl rfl) (fun _ _ _ _ _ _ h=>h.elim)) (Vy _) fun _ _ _ _ _ f=> .inl rfl) (fun _ _ _ _ _ _ h=>h.elim)) (Vy _) fun _ _ _ _ _ f=> .inl rfl
 exact fun _ _ _ _ _ _ _ _ f=> .inl rfl
theorem Zvs (N:Nat) (l:List Tok) (e:Int) (h:l.length<N):pTar l e=Zrv N l e:=by
 unfold pTar Zrv pIf pB pSyn
 split
 · rename_i hw
   have h1:=Zm hw
   cases hn:Vt l.tail e with
   |error er=>rfl
   |ok y=>
    have h2:=Vf hn
    dsimp only
    split
    · rename_i hw2
      have h3:=Zm hw2
      cases hm:Yg WK.ki.words y.2.1.tail y.2.2.1 with
      |error er=>rfl
      |ok z=>
       obtain ⟨_,_,hz⟩:=Vw hm
       have h4:z.2.1.length<=y.2.1.tail.length:=by
        rw [hz]
        show y.2.1.tail.tail.length<=_
        rw [List.length_tail (l:=y.2.1.tail)]
        omega
       dsimp only
       split
       · rename_i hw3
         have h5:=Zm hw3
         rw [Zkb (z.2.1.tail.length+1) N [] z.2.1.tail z.2.2.1 (by omega) (by omega)]
         cases pCls N [] z.2.1.tail z.2.2.1 with
         |error er=>rfl
         |ok u=>rfl
       · rfl
    · rfl
 · rfl
theorem Z2z:Gd NoR pTar:=Z47 Zrv Z48 Zvs
end
section
open Go
def TkG (t:Tok):Prop:=TokW t.text/\sT t=tkS t.text/\(t.kind=1->X2 t.text=true)/\(t.kind=2->0<=t.n/\t.n<=1099511627776)
def LxOk (l:List Tok):Prop:=∀t∈l,TkG t
theorem Yaq {c:Nat} (h:isLD (c:Int)=true):wb c=true:=by
 unfold isLD isL isD at h
 unfold wb
 simp at h⊢
 omega
theorem V6 {f:Int->Bool} (s:List Nat):∀c∈s.take (spn f s),f c=true:=fun c hc=>Zey hc
theorem Zo2 {f:Int->Bool} (s:List Nat):spn f (s.take (spn f s))=(s.take (spn f s)).length:=Xr (V6 s)
theorem Ztx:∀{s:List Nat} {n m:Int},0<=n->n<=1099511627776->(∀c∈s,isD c=true)->numL n s=(m,0)->0<=m/\m<=1099511627776
 | [],n,m,h0,h1,_,h=>by
  unfold numL at h
  cases h
  exact ⟨h0,h1⟩
 |c::r,n,m,h0,h1,hd,h=>by
  unfold numL at h
  have hc:=hd c (by simp)
  unfold isD at hc
  simp at hc
  split at h
  · cases h
  · exact Ztx (by omega) (by omega) (fun c hc=>hd c (by simp [hc])) h
theorem Zty {s:List Nat} (h:(tokP s).2=0):tokP (tokP s).1.text=tokP s/\(tokP s).1.text≠ []/\((tokP s).1.kind=1->X2 (tokP s).1.text=true)/\((tokP s).1.kind=2->0<=(tokP s).1.n/\(tokP s).1.n<=1099511627776):=by
 cases s with
 |nil=>cases h
 |cons c r=>
  rw [Z8] at h⊢
  have go:∀f:Int->Bool,f c=true->∃r',(c::r).take (spn f (c::r))=c::r':=by
   intro f hf
   unfold spn
   rw [if_pos hf,List.take_succ_cons]
   exact ⟨_,rfl⟩
  split at h
  · rename_i hl
    rw [if_pos hl]
    split at h
    · cases h
    · rename_i hn
      rw [if_neg hn]
      obtain ⟨r',hr⟩:=go isLD (by unfold isLD;rw [hl];rfl)
      have hall:=V6 (f:=isLD) (c::r)
      have hspn:=Zo2 (f:=isLD) (c::r)
      have hlen:((c::r).take (spn isLD (c::r))).length<=32:=by rw [List.length_take];omega
      rw [hr] at hall hspn hlen⊢
      have hw:X2 (c::r')=true:=by
       unfold X2
       rw [Bool.and_eq_true,Bool.and_eq_true,decide_eq_true_eq]
       refine ⟨⟨hlen,?_⟩,List.all_eq_true.2 fun c hc=>Yaq (hall c hc)⟩
       unfold isL at hl
       unfold lowF
       simp at hl⊢
       omega
      refine ⟨Zdq hw,by simp,fun _=>hw,fun h=>by cases h⟩
  · rename_i hl
    rw [if_neg hl]
    split at h
    · rename_i hd
      rw [if_pos hd]
      obtain ⟨r',hr⟩:=go isD hd
      have hall:=V6 (f:=isD) (c::r)
      have hspn:=Zo2 (f:=isD) (c::r)
      rw [hr] at hall hspn h⊢
      refine ⟨?_,by simp,(fun h=>by cases h),fun _=> ?_⟩
      · show tokP (c::r')=_
        rw [Z8,if_neg hl,if_pos hd,hspn,List.take_length]
      · have h:(numb (c::r')).2=0:=h
        show 0<=(numb (c::r')).1/\(numb (c::r')).1<=1099511627776
        unfold numb at h⊢
        split at h
        · cases h
        · rename_i hn
          rw [if_neg hn]
          exact Ztx (s:=c::r') (n:=0) (by decide) (by decide) hall (Prod.ext rfl h)
    · rename_i hd
      rw [if_neg hd]
      split at h
      · rename_i w hw
        unfold tokS at h
        split at h
        · rename_i ht
          have e1:tokS (c::r) w=(⟨3,w,0,0⟩,0):=by unfold tokS;rw [if_pos ht]
          rw [e1]
          cases w with
          |nil=>exact absurd (Zpu hw) (by decide)
          |cons c' w'=>
           rw [List.length_cons,List.take_succ_cons] at ht
           injection ht with h1 h2
           subst h1
           refine ⟨?_,by simp,(fun h=>by cases h),fun h=>by cases h⟩
           show tokP (c::w')=_
           rw [Z8,if_neg hl,if_neg hd,hw]
           show tokS (c::w') (c::w')=_
           unfold tokS
           rw [if_pos List.take_length]
        · cases h
      · cases h
theorem Z7o {s:List Nat} (h:(tokP s).2=0) (p:Int):TkG ⟨(tokP s).1.kind,(tokP s).1.text,(tokP s).1.n,p⟩:=by
 obtain ⟨h1,h2,h3,h4⟩:=Zty h
 refine ⟨⟨by rw [h1];exact h,by rw [h1],h2⟩,?_,h3,h4⟩
 show sT _=tkS (tokP s).1.text
 unfold tkS
 rw [h1]
 rfl
theorem Zhh:∀{k:Nat} {s:List Nat} {p:Nat} {ts:List Tok},LxOk ts->LxOk (tksL k s p ts).1
 |0,s,p,ts,h=>h
 |k+1,s,p,ts,h=>by
  unfold tksL
  split
  · exact h
  · split
    · exact Zhh h
    · split
      · split
        · exact h
        · exact Zhh h
      · split
        · exact fun t ht=>by cases ht
        · rename_i h3
          have h3:(tokP (s.drop p)).2=0:=by simpa using h3
          refine Zhh fun t ht=> ?_
          rcases List.mem_append.1 ht with ht|ht
          · exact h t ht
          · rw [List.mem_singleton] at ht
            subst ht
            exact Z7o h3 p
theorem Zcf (s:List Nat):LxOk (Zk s).1:=by
 unfold Zk
 split
 · exact fun t ht=>by cases ht
 · exact Zhh fun t ht=>by cases ht
theorem LxOk.drop {l:List Tok} (h:LxOk l) (k:Nat):LxOk (l.drop k):=fun t ht=>h t (List.mem_of_mem_drop ht)
theorem LxOk.tail {l:List Tok} (h:LxOk l):LxOk l.tail:=fun t ht=>h t (List.mem_of_mem_tail ht)
section
variable {α β : Type}
def Vl (P:β->Prop) (p:PP β):Prop:=∀l e y x,LxOk l->p l e= .ok (y,x)->P y/\LxOk x.1
theorem vl_R {P:β->Prop} {y:β} (h:P y):Vl P (pR y):=by
 intro l e z x hl hz
 cases hz
 exact ⟨h,hl⟩
theorem Vx (P:β->Prop):Vl P pSyn:=by
 intro l e z x hl hz
 cases hz
theorem vl_b {P:α->Prop} {Q:β->Prop} {p:PP α} {q:α->PP β} (hp:Vl P p) (hq:∀y,P y->Vl Q (q y)):Vl Q (pB p q):=by
 intro l e z x hl hz
 obtain ⟨y,x1,h1,h2⟩:=b_ok hz
 obtain ⟨k1,k2⟩:=hp l e y x1 hl h1
 exact hq y k1 _ _ z x k2 h2
theorem Yar {p:PP α} {c:α->Bool} {code:Int} {q:α->PP β} {l:List Tok} {e:Int} {z:β×PX} (h:pBc p c code q l e= .ok z):∃y x,p l e= .ok (y,x)/\c y=false/\q y x.1 x.2.1= .ok z:=by
 unfold pBc at h
 split at h
 · cases h
 · split at h
   · cases h
   · rename_i h1 h2
     exact ⟨_,_,h1,by simpa using h2,h⟩
theorem Z38 {P:α->Prop} {Q:β->Prop} {p:PP α} {c:α->Bool} {code:Int} {q:α->PP β} (hp:Vl P p) (hq:∀y,P y->c y=false->Vl Q (q y)):Vl Q (pBc p c code q):=by
 intro l e z x hl hz
 obtain ⟨y,x1,h1,h2,h3⟩:=Yar hz
 obtain ⟨k1,k2⟩:=hp l e y x1 hl h1
 exact hq y k1 h2 _ _ z x k2 h3
theorem V0 {P:β->Prop} {s:List Nat} {A B:PP β} (hA:Vl P A) (hB:Vl P B):Vl P (pIf s A B):=by
 intro l e z x hl hz
 unfold pIf at hz
 split at hz
 · exact hA _ _ z x hl.tail hz
 · exact hB _ _ z x hl hz
theorem Z2c {P:β->Prop} {c:Tok->Bool} {v:Tok->β} (h:∀t,TkG t->c (sT t)=true->P (v (sT t))):Vl P (pOne c v):=by
 intro l e z x hl hz
 cases l with
 |nil=>cases hz
 |cons t r=>
  have hz:(if c (sT t) then .ok (v (sT t),r,e,()) else .error (t.at_,160):PR β)=_:=hz
  split at hz
  · rename_i hc
    cases hz
    exact ⟨h t (hl t (by simp)) hc,fun t ht=>hl t (by simp [ht])⟩
  · cases hz
theorem Ztz {P:β->Prop} {c:Tok->Bool} {v:Tok->β} {z0:β} (h:∀t,TkG t->c (sT t)=true->P (v (sT t))) (h0:P z0):Vl P (pOpt c v z0):=by
 intro l e z x hl hz
 cases l with
 |nil=>
  cases hz
  exact ⟨h0,hl⟩
 |cons t r=>
  have hz:(if c (sT t) then .ok (v (sT t),r,e,()) else .ok (z0,t::r,e,()):PR β)=_:=hz
  split at hz
  · rename_i hc
    cases hz
    exact ⟨h t (hl t (by simp)) hc,fun t ht=>hl t (by simp [ht])⟩
  · cases hz
    exact ⟨h0,hl⟩
theorem Vl.mono {P Q:β->Prop} {p:PP β} (h:Vl P p) (hq:∀y,P y->Q y):Vl Q p:=fun l e y x hl hy=>⟨hq y (h l e y x hl hy).1,(h l e y x hl hy).2⟩
end
theorem Zt0:Vl (fun n=>0<=n/\n<=1099511627776) pInt:=by
 rw [Zpn]
 exact Z2c fun t ht hc=>ht.2.2.2 (of_decide_eq_true hc)
theorem Zhi {ws:List (List Nat)} (h:0<ws.length):Vl (fun n=>0<=n/\n<(ws.length:Int)) (Yg ws):=by
 rw [Zj8]
 exact Z2c fun t ht hc=>⟨of_decide_eq_true hc,Zg6 h⟩
theorem Zjj {ws:List (List Nat)} (h:0<ws.length):Vl (fun y=>(y.2.1=true->0<=y.1/\y.1<(ws.length:Int))) (Zq ws):=by
 rw [Zet]
 exact Ztz (fun t ht hc _=>⟨of_decide_eq_true hc,(show chz ws [sT t]<(ws.length:Int) from Zg6 h)⟩) (fun h=>by cases h)
theorem Zt1:Vl (fun s=>X2 s=true/\resF s=false) Vt:=by
 intro l e z x hl hz
 cases l with
 |nil=>cases hz
 |cons t r=>
  have hz:(if t.kind=1 then (if t.text∈resW then .error (t.at_,161) else .ok (t.text,r,e,())) else .error (t.at_,160):PR (List Nat))=_:=hz
  split at hz
  · rename_i hk
    split at hz
    · cases hz
    · rename_i hr
      cases hz
      exact ⟨⟨(hl t (by simp)).2.2.1 hk,decide_eq_false hr⟩,fun t ht=>hl t (by simp [ht])⟩
  · cases hz
def UnG (d:List Int):Prop:=Ua d=true/\∃a b c e,d= [a,b,c,e]
theorem Z7p:UnG d0:=⟨by decide,_,_,_,_,rfl⟩
theorem unG1 {i:Int} (h:0<=i/\i<4):UnG (incD d0 i):=by
 rcases four h.1 h.2 with rfl|rfl|rfl|rfl
 all_goals exact ⟨by decide,_,_,_,_,rfl⟩
theorem unG2 {j:Int} (h:0<=j/\j<4):UnG (decD d0 j):=by
 rcases four h.1 h.2 with rfl|rfl|rfl|rfl
 all_goals exact ⟨by decide,_,_,_,_,rfl⟩
theorem unG3 {i j:Int} (h:0<=i/\i<4) (h':0<=j/\j<4):UnG (decD (incD d0 i) j):=by
 rcases four h.1 h.2 with rfl|rfl|rfl|rfl<;>rcases four h'.1 h'.2 with rfl|rfl|rfl|rfl
 all_goals exact ⟨by decide,_,_,_,_,rfl⟩
theorem Z39:Vl UnG Y6:=by
 rw [Zvm]
 refine vl_b (Zjj (ws:=WK.un.words) (by decide)) fun y hy=>V0 (vl_b (Zhi (ws:=WK.un.words) (by decide)) fun j hj=>vl_R ?_) (vl_R ?_)
 · have hj:0<=j/\j<4:=hj
   split
   · exact unG3 (by have:=hy (by assumption);exact this) hj
   · exact unG2 hj
 · split
   · exact unG1 (by have:=hy (by assumption);exact this)
   · exact Z7p
theorem Z4a (n:Int):Vl (fun w=>Z5 w=true/\n≠8) (Wp n):=by
 rw [Zvn]
 refine Z38 (Zhi (ws:=WK.at_.words) (by decide)) fun a ha hn=> ?_
 have ha:0<=a/\a<16:=ha
 have hn:n≠8:=by simpa using hn
 refine V0 (vl_b Zt0 fun m hm=>vl_R ⟨decide_eq_true ⟨ha.1,ha.2,hm.1,hm.2,hm.1,hm.2⟩,hn⟩) (V0 (vl_b Zt0 fun m hm=>V0 (vl_b Zt0 fun k hk=>vl_R ⟨decide_eq_true ⟨ha.1,ha.2,hm.1,hm.2,hk.1,hk.2⟩,hn⟩) (Vx _)) (Vx _))
theorem Z4b:∀(k:Nat) (more:Bool) (ts:List Tst),ts.length<=8->(∀w∈ts,Z5 w=true)->Vl (fun ws=>ws.length<=8/\∀w∈ws,Z5 w=true) (pTs k more ts)
 |0,more,ts,h1,h2=>vl_R (y:=ts) ⟨h1,h2⟩
 |k+1,false,ts,h1,h2=>by rw [Zz0];exact vl_R ⟨h1,h2⟩
 |k+1,true,ts,h1,h2=>by
  rw [Z8s]
  refine vl_b (Z4a _) fun t ht=> ?_
  have h3:(ts++ [t]).length<=8:=by
   have:=ht.2
   rw [List.length_append]
   simp
   omega
  have h4:∀w∈ts++ [t],Z5 w=true:=by
   intro w hw
   rcases List.mem_append.1 hw with hw|hw
   · exact h2 w hw
   · rw [List.mem_singleton] at hw
     subst hw
     exact ht.1
  exact V0 (Z4b k true _ h3 h4) (Z4b k false _ h3 h4)
theorem Zhj {op n:Int} {a b c d:Int} {l:List Ex} (h:Zc0 op n [a,b,c,d] l.length=true) (hl:∀x∈l,Z7 x=true):Z7 (.mk op n a b c d l)=true:=by
 rw [Zbg,Bool.and_eq_true]
 exact ⟨h,formL_iff.2 hl⟩
theorem Zlu {op n:Int} {u:List Int} {k:Nat} (h1:1<=op) (h2:op<=11) (h3:0<=n) (h4:n<=Zre op) (h5:k=Zlz op) (h6:Ua u=true) (h7:op=1\/u= [0,0,0,0]):Zc0 op n u k=true:=by
 unfold Zc0
 simp only [Bool.and_eq_true,Bool.or_eq_true,decide_eq_true_eq]
 exact ⟨⟨⟨⟨⟨⟨h1,h2⟩,h3⟩,h4⟩,h5⟩,h6⟩,h7⟩
theorem Zt2 {op:Int} {l:List Ex} (h1:3<=op) (h2:op<=11) (h3:l.length=if op=11 then 4 else 2) (hl:∀x∈l,Z7 x=true):Z7 (.mk op 0 0 0 0 0 l)=true:=by
 refine Zhj (Zlu (by omega) h2 (Int.le_refl _) ?_ ?_ (by decide) (.inr rfl)) hl
 · unfold Zre
   rw [if_neg (by omega),if_neg (by omega)]
   exact Int.le_refl _
 · unfold Zlz
   rw [if_neg (by omega)]
   exact h3
def FxV (x:Ex):Prop:=Z7 x=true
theorem Z2d {pe:PE} (h:Vl FxV pe):∀(ss:List (List Nat)) (acc:List Ex),(∀x∈acc,Z7 x=true)->Vl (fun xs=>xs.length=acc.length+ss.length/\∀x∈xs,Z7 x=true) (pOpL pe ss acc)
 | [],acc,ha=>vl_R (y:=acc) ⟨rfl,ha⟩
 |s::r,acc,ha=>by
  rw [Z2r]
  refine vl_b h fun x hx=>V0 ((Z2d h r (acc++ [x]) ?_).mono fun xs hxs=>⟨?_,hxs.2⟩) (Vx _)
  · intro z hz
    rcases List.mem_append.1 hz with hz|hz
    · exact ha z hz
    · rw [List.mem_singleton] at hz
      subst hz
      exact hx
  · rw [hxs.1,List.length_append,List.length_cons]
    simp
    omega
theorem Z2e {pe:PE} (h:Vl FxV pe) {op:Int} {ss:List (List Nat)} (h1:3<=op) (h2:op<=11) (h3:ss.length=if op=11 then 4 else 2):Vl FxV (pOps pe op ss):=by
 rw [Z2t]
 refine V0 (vl_b (Z2d h ss [] fun x hx=>by cases hx) fun xs hxs=>vl_R (Zt2 h1 h2 ?_ hxs.2)) (Vx _)
 rw [hxs.1,<-h3]
 simp
theorem Zt3 {pe:PE} (h:Vl FxV pe):Vl FxV (Vp pe):=by
 rw [Zvo]
 refine V0 (vl_b h fun x hx=>V0 (vl_R hx) (Vx _)) (V0 (Z2e h (by decide) (by decide) rfl) (vl_b (Zjj (ws:=WK.ca.words) (by decide)) fun k hk=> ?_))
 split
 · have hk:0<=k.1/\k.1<5:=hk (by assumption)
   refine Z2e h (by omega) (by omega) ?_
   rw [if_neg (by omega)]
   rfl
 · refine vl_b (Zhi (ws:=WK.at_.words) (by decide)) fun a ha=>vl_R ?_
   have ha:0<=a/\a<16:=ha
   refine Zhj (Zlu (by decide) (by decide) ha.1 ?_ rfl (by decide) (.inr rfl)) (fun x hx=>by cases hx)
   show a<=15
   omega
theorem Z7q {pe:PE} (h:Vl FxV pe):Vl FxV (pFac pe):=by
 intro l e y x hl hy
 cases l with
 |nil=>exact Zt3 h _ _ _ _ hl hy
 |cons t r=>
  have hy:(if t.kind=2 then (match Y6 r e with
   | .error er=> .error er
   | .ok (d,y)=> .ok (.mk 1 t.n (d.getD 0 0) (d.getD 1 0) (d.getD 2 0) (d.getD 3 0) [],y):PR Ex) else Vp pe (t::r) e)=_:=hy
  split at hy
  · rename_i hk
    split at hy
    · cases hy
    · rename_i d z hd
      cases hy
      obtain ⟨⟨g1,a,b,c,f,g2⟩,g3⟩:=Z39 r e d _ (fun t ht=>hl t (by simp [ht])) hd
      subst g2
      refine ⟨Zhj (Zlu (by decide) (by decide) ?_ ?_ rfl g1 (.inl rfl)) (fun x hx=>by cases hx),g3⟩
      · exact ((hl t (by simp)).2.2.2 hk).1
      · exact ((hl t (by simp)).2.2.2 hk).2
  · exact Zt3 h _ _ _ _ hl hy
theorem Zt4 {o:List Tok->Int×List Tok} {pf:PE} (ho:Vl (fun op=>op=0\/3<=op/\op<=5) (pOp o)) (h:Vl FxV pf):∀(k:Nat) (x:Ex) (op:Int),FxV x->(op=0\/3<=op/\op<=5)->Vl FxV (Yu o pf k x op)
 |0,x,op,hx,_=>vl_R (y:=x) hx
 |k+1,x,op,hx,hop=>by
  rw [Zmf]
  split
  · exact vl_R hx
  · rename_i hz
    refine vl_b h fun y hy=>vl_b ho fun op' hop'=>Zt4 ho h k _ op' (Zt2 (by omega) (by omega) ?_ ?_) hop'
    · rw [if_neg (by omega)]
      rfl
    · intro z hz
      rcases List.mem_cons.1 hz with rfl|hz
      · exact hx
      · rw [List.mem_singleton] at hz
        subst hz
        exact hy
theorem Z7r {o:List Tok->Int×List Tok} (hle:∀l,(o l).2.length<=l.length) {pf:PE} (hp:Shr pf) (ho:Vl (fun op=>op=0\/3<=op/\op<=5) (pOp o)) (h:Vl FxV pf):Vl FxV (pCh o pf):=by
 intro l e y x hl hy
 rw [Z8y hle hp (Nat.lt_succ_self l.length) e] at hy
 exact vl_b h (fun y hy=>vl_b ho fun op hop=>Zt4 ho h _ y op hy hop) l e y x hl hy
theorem Z7s:Vl (fun op=>op=0\/3<=op/\op<=5) (pOp op1):=by
 rw [Zpo]
 exact Ztz (fun t _ _=> .inr (by decide)) (.inl rfl)
theorem Z7t:Vl (fun op=>op=0\/3<=op/\op<=5) (pOp op2):=by
 rw [Zpp]
 refine Ztz (fun t _ _=> .inr ?_) (.inl rfl)
 split<;>decide
theorem vl_E:∀n,Vl FxV (pE n)
 |0=>Vx _
 |n+1=>by
  unfold pE
  exact Z7r Zlh (V5 Zan (Wc (Wt n))).shr Z7t (Z7r Zlg (Zdt (Wt n)) Z7s (Z7q (vl_E n)))
theorem vl_X:Vl FxV pX:=fun l e y x hl hy=>vl_E _ l e y x hl hy
theorem Z2f {nm:List Nat} {ts:List Tst} (h1:X2 nm=true) (h2:∀w∈ts,Z5 w=true):Vl (fun c=>X7 c=true/\c.name=nm/\c.when_=ts/\Zx c.pay<=24) (pPay nm ts):=by
 rw [Z2v]
 refine V0 (Z38 vl_X fun x hx hc=>V0 (vl_R ⟨?_,rfl,rfl,?_⟩) (Vx _)) (Vx _)
 · unfold X7
   rw [h1,show Z7 x=true from hx,List.all_eq_true.2 h2]
   rfl
 · show Zx x<=24
   have:¬24<Zx x:=by simpa using hc
   omega
def ClG (bs:List Cls) (c:Cls):Prop:=X7 c=true/\resF c.name=false/\c.name∉bs.map Cls.name/\c.when_.length<=8/\Zx c.pay<=24
theorem Zt5 (bs:List Cls):Vl (ClG bs) (Z4 bs):=by
 rw [Zka]
 refine Z38 Zt1 fun nm hn hc=> ?_
 have hc:=any_name.1 hc
 refine V0 (vl_b (Z4b 10 true [] (Nat.zero_le _) (fun w hw=>by cases hw)) fun ts hts=>(Z2f hn.1 hts.2).mono ?_) ((Z2f hn.1 (fun w hw=>by cases hw)).mono ?_)
 · rintro c ⟨g1,g2,g3,g4⟩
   subst g2
   subst g3
   exact ⟨g1,hn.2,hc,hts.1,g4⟩
 · rintro c ⟨g1,g2,g3,g4⟩
   subst g2
   refine ⟨g1,hn.2,hc,?_,g4⟩
   rw [g3]
   exact Nat.zero_le _
theorem V7 (s:List (List Nat)) (c:Cls) (r:List Cls):CsOk s (c::r)=(X7 c=true/\resF c.name=false/\c.name∉s/\c.when_.length<=8/\Zx c.pay<=24/\CsOk (c.name::s) r):=rfl
theorem Zo3:∀{a b:List Cls} {s:List (List Nat)},CsOk s (a++b)↔CsOk s a/\CsOk ((a.map Cls.name).reverse++s) b
 | [],b,s=>by
  rw [List.nil_append,List.map_nil,List.reverse_nil,List.nil_append]
  exact ⟨fun h=>⟨trivial,h⟩,fun h=>h.2⟩
 |c::a,b,s=>by
  rw [List.cons_append,V7,V7,Zo3,List.map_cons,List.reverse_cons,List.append_assoc]
  constructor
  · rintro ⟨h1,h2,h3,h4,h5,h6,h7⟩
    exact ⟨⟨h1,h2,h3,h4,h5,h6⟩,h7⟩
  · rintro ⟨⟨h1,h2,h3,h4,h5,h6⟩,h7⟩
    exact ⟨h1,h2,h3,h4,h5,h6,h7⟩
theorem Zt6 {cs:List Cls} {c:Cls} (h:CsOk [] cs) (hc:ClG cs c):CsOk [] (cs++ [c]):=by
 rw [Zo3]
 rw [V7]
 refine ⟨h,hc.1,hc.2.1,?_,hc.2.2.2.1,hc.2.2.2.2,trivial⟩
 have:=hc.2.2.1
 simpa using this
theorem Z2g:∀(k:Nat) (cs:List Cls),CsOk [] cs->cs.length<=64->Vl (fun cs=>CsOk [] cs/\cs.length<=64) (pCls k cs)
 |0,cs,h1,h2=>vl_R (y:=cs) ⟨h1,h2⟩
 |k+1,cs,h1,h2=>by
  by_cases h:cs.length=64
  · intro l e y x hl hy
    rw [pCls,if_pos h] at hy
    split at hy
    · cases hy
    · cases hy
      exact ⟨⟨h1,h2⟩,hl⟩
  · rw [Z2x k cs h]
    refine V0 (vl_b (Zt5 cs) fun c hc=>Z2g k _ (Zt6 h1 hc) ?_) (vl_R ⟨h1,h2⟩)
    rw [List.length_append]
    simp
    omega
theorem Z4c (N:Nat):Vl (fun t=>Yt t=0) (Zrv N):=by
 refine V0 (vl_b Zt1 fun nm hn=>V0 (vl_b (Zhi (ws:=WK.ki.words) (by decide)) fun k hk=>V0 (vl_b (Z2g _ [] trivial (by decide)) fun cs hcs=>V0 ?_ (Vx _)) (Vx _)) (Vx _)) (Vx _)
 intro l e y x hl hy
 unfold pEof at hy
 split at hy
 · cases hy
 · cases hy
   have hk:0<=k/\k<6:=hk
   refine ⟨(Wm _).2 ⟨hn.1,?_,?_,hn.2,hcs.2,hcs.1⟩,hl⟩
   · show 1<=wr .i64 (1+k)
     rw [wr64 (by omega) (by omega)]
     omega
   · show wr .i64 (1+k)<=6
     rw [wr64 (by omega) (by omega)]
     omega
theorem Z7u:Vl (fun t=>Yt t=0) pTar:=by
 intro l e y x hl hy
 rw [Zvs _ l e (Nat.lt_succ_self _)] at hy
 exact Z4c _ l e y x hl hy
end
section
open Go
def En {β:Type} (p:PP β):Prop:=∀l e y x,p l e= .ok (y,x)->x.1= []
theorem Zpj {β:Type}:En (pSyn:PP β):=fun l e y x h=>by cases h
theorem en_b {α β:Type} {p:PP α} {q:α->PP β} (hq:∀y,En (q y)):En (pB p q):=fun l e y x h=>by
 obtain ⟨y1,x1,_,h2⟩:=b_ok h
 exact hq y1 _ _ _ _ h2
theorem Zzm {β:Type} {s:List Nat} {A B:PP β} (hA:En A) (hB:En B):En (pIf s A B):=fun l e y x h=>by
 unfold pIf at h
 split at h
 · exact hA _ _ _ _ h
 · exact hB _ _ _ _ h
theorem Z8b (t:Tar):En (pEof t):=fun l e y x h=>by
 unfold pEof at h
 split at h
 · cases h
 · rename_i hl
   cases h
   exact List.eq_nil_of_length_eq_zero (Nat.le_zero.1 (Nat.le_of_not_lt hl))
theorem Z8c:En pTar:=fun l e y x h=>by
 rw [Zvs _ l e (Nat.lt_succ_self _)] at h
 exact Zzm (en_b fun nm=>Zzm (en_b fun k=>Zzm (en_b fun cs=>Zzm (Z8b _) Zpj) Zpj) Zpj) Zpj l e y x h
theorem Z4s {l:List Tok} {e:Int} {t:Tar} {x:PX} (h:pTar l e= .ok (t,x)):(∀l' f,l'.map sT=l.map sT->pTar l' f= .ok (t,[],f,()))/\∀l' m f,m<l.length->l'.map sT=(l.map sT).take m->pTar l' f= .error (f,160):=by
 have hn:=Z8c l e t x h
 obtain ⟨k,rfl,hk,ho⟩:=(Z2z l e).1 t x h
 have hk2:l.length<=k:=by
  have:=congrArg List.length hn
  rw [List.length_drop] at this
  simp at this
  omega
 have hk3:k=l.length:=by omega
 subst hk3
 refine ⟨fun l' f hl=> ?_,fun l' m f hm hl=> ?_⟩
 · have hlen:=congrArg List.length hl
   rw [List.length_map,List.length_map] at hlen
   rw [(ho l' l.length f (Zbs hl)).1 (Nat.le_refl _),List.drop_eq_nil_of_le (by omega)]
 · rcases (ho l' m f hl).2 hm with h|⟨y',h,_⟩
   · exact h
   · exact h.elim
def AllW (ws:List (List Nat)):Prop:=∀w∈ws,TokW w
theorem Wv {a b:List (List Nat)} (h1:AllW a) (h2:AllW b):AllW (a++b):=fun w hw=>(List.mem_append.1 hw).elim (h1 w) (h2 w)
theorem Ze {w:List Nat} {b:List (List Nat)} (h1:TokW w) (h2:AllW b):AllW (w::b):=fun x hx=>(List.mem_cons.1 hx).elim (fun e=>e▸h1) (h2 x)
theorem Yc:AllW []:=fun w hw=>by cases hw
theorem tw {w:List Nat} (h1:(tokP w).2=0) (h2:(tokP w).1.text=w) (h3:w≠ []):TokW w:=⟨h1,h2,h3⟩
theorem Zl9:TokW Xa:=tw rfl rfl (by decide)
theorem Zh1:TokW Z0:=tw rfl rfl (by decide)
theorem Zh2:TokW Z6:=tw rfl rfl (by decide)
theorem Z4t:TokW Zby:=tw rfl rfl (by decide)
theorem Z4u:TokW Zfc:=tw rfl rfl (by decide)
theorem Z4v:TokW Zap:=tw rfl rfl (by decide)
theorem Zzn:TokW W6:=tw rfl rfl (by decide)
theorem Z8d:TokW sMul:=tw rfl rfl (by decide)
theorem Z4w:TokW Zcd:=tw rfl rfl (by decide)
theorem Ya2:TokW sLb:=tw rfl rfl (by decide)
theorem Ya3:TokW sRb:=tw rfl rfl (by decide)
theorem Ya4:TokW sIf:=tw rfl rfl (by decide)
theorem Z2o:TokW sPer:=tw rfl rfl (by decide)
theorem Ya5:TokW sIs:=tw rfl rfl (by decide)
theorem Ya6:TokW sIn:=tw rfl rfl (by decide)
theorem Z8e:TokW sPay:=tw rfl rfl (by decide)
theorem Z8f:TokW sFor:=tw rfl rfl (by decide)
theorem Zu3:TokW Zfd:=tw rfl rfl (by decide)
theorem Zu4:TokW Xs:=tw rfl rfl (by decide)
theorem Z4x:TokW Zfx:=tw rfl rfl (by decide)
theorem Z8g:TokW sAnd:=tw rfl rfl (by decide)
theorem Zj3 {k:WK} {i:Nat} (h:i<k.words.length):TokW (k.words.getD i []):=Ze5 (Zil h)
theorem Z8h {a b c d:Int} (h:Ua [a,b,c,d]=true):AllW (txU [a,b,c,d]):=by
 rcases unF h with ⟨_,h2⟩|⟨i,hi,_,h2⟩|⟨j,hj,_,h2⟩|⟨i,hi,j,hj,_,h2⟩
 · rw [h2];exact Yc
 · rw [h2];exact Ze (Zj3 (k:= .un) hi) Yc
 · rw [h2];exact Ze Z2o (Ze (Zj3 (k:= .un) hj) Yc)
 · rw [h2];exact Ze (Zj3 (k:= .un) hi) (Ze Z2o (Ze (Zj3 (k:= .un) hj) Yc))
theorem Zpk {op least:Int} {t:List (List Nat)} (h:AllW t):AllW (par op least t):=by
 unfold par
 split
 · exact h
 · exact Ze Zl9 (Wv h (Ze Zh1 Yc))
theorem Zu5:∀{ts:List (List (List Nat))} {ss:List (List Nat)},(∀t∈ts,AllW t)->AllW ss->AllW (txS ts ss)
 | [],_,_,_=>by unfold txS;exact Yc
 |t::r,[],_,_=>by unfold txS;exact Yc
 |t::r,s::ss,h1,h2=>by
  unfold txS
  exact Wv (h1 t (by simp)) (Ze (h2 s (by simp)) (Zu5 (fun t ht=>h1 t (by simp [ht])) fun w hw=>h2 w (by simp [hw])))
theorem Zu6:∀{l:List Ex} {t:List (List Nat)},t∈txL l->∃x∈l,t=txX x
 | [],t,h=>by cases h
 |x::r,t,h=>by
  unfold txL at h
  rcases List.mem_cons.1 h with rfl|h
  · exact ⟨x,by simp,rfl⟩
  · obtain ⟨y,hy,e⟩:=Zu6 h
    exact ⟨y,by simp [hy],e⟩
theorem Z8i:∀(x:Ex),Z7 x=true->AllW (txX x):=by
 suffices H:∀(m:Nat) (x:Ex),x.sz<=m->Z7 x=true->AllW (txX x) from fun x=>H _ x (Nat.le_refl _)
 intro m
 induction m with
 |zero=>intro x h;have:=x.sz_pos;omega
 |succ m ih=>
  intro x hm hf
  rw [Zbg,Bool.and_eq_true] at hf
  obtain ⟨hh,hl⟩:=hf
  have hkid:∀y∈x.l,AllW (txX y):=fun y hy=>ih y (by have:=Ex.sz_mem hy;omega) (formL_iff.1 hl y hy)
  obtain ⟨op,n,a,b,c,d,l⟩:=x
  simp only [Ex.op,Ex.n,Ex.u,Ex.d0,Ex.d1,Ex.d2,Ex.d3,Ex.l] at hh hkid
  obtain ⟨h1,h2,h3,h4,h5,h6,h7⟩:=Zcy hh
  have hts:∀t∈txL l,AllW t:=by
   intro t ht
   obtain ⟨x,hx,rfl⟩:=Zu6 ht
   exact hkid x hx
  have hget:∀i,AllW ((txL l).getD i []):=by
   intro i
   by_cases hi:i<(txL l).length
   · have:(txL l).getD i []=(txL l)[i]:=by simp [List.getD,hi]
     rw [this]
     exact hts _ (List.getElem_mem hi)
   · have:(txL l).getD i []= []:=by simp [List.getD,hi]
     rw [this]
     exact Yc
  rw [txX]
  unfold txN
  split
  · rename_i q
    subst q
    exact Ze (Zdp h3 h4) (Z8h h6)
  · split
    · rename_i q
      subst q
      have:n<=15:=h4
      exact Ze (Zj3 (k:= .at_) (show n.toNat<16 by omega)) Yc
    · split
      · exact Ze Ya4 (Ze Zl9 (Zu5 hts (Ze Z4t (Ze Zh2 (Ze Zh2 (Ze Zh1 Yc))))))
      · split
        · refine Wv (Zpk (hget 0)) (Ze ?_ (Zpk (hget 1)))
          unfold sgnO
          split
          · exact Z4v
          · split
            · exact Zzn
            · exact Z8d
        · exact Ze (Zj3 (k:= .ca) (show (op-6).toNat<5 by omega)) (Ze Zl9 (Zu5 hts (Ze Zh2 (Ze Zh1 Yc))))
theorem Z8j {w:Tst} (h:Z5 w=true):AllW (txW w):=by
 obtain ⟨a0,a1,l0,l1,h0,h1⟩:=Us h
 unfold txW
 refine Ze (Zj3 (k:= .at_) (show w.attr.toNat<16 by omega)) ?_
 split
 · exact Ze Ya5 (Ze (Zdp l0 l1) Yc)
 · exact Ze Ya6 (Ze (Zdp l0 l1) (Ze Z4w (Ze (Zdp h0 h1) Yc)))
theorem Zu7:∀{ws:List Tst} (i:Nat),(∀w∈ws,Z5 w=true)->AllW (txTs i ws)
 | [],_,_=>Yc
 |w::r,i,h=>by
  rw [Ze3]
  refine Ze ?_ (Wv (Z8j (h w (by simp))) (Zu7 _ fun w hw=>h w (by simp [hw])))
  split
  · exact Z4x
  · exact Z8g
theorem Z8k {c:Cls} (h:X7 c=true):AllW (txC c):=by
 obtain ⟨k1,k2,k3⟩:=Za4 h
 exact Ze Zu4 (Ze (Ze5 k1) (Wv (Zu7 _ k3) (Ze Z8e (Wv (Z8i _ k2) (Ze Z4u Yc)))))
theorem Zu8:∀{cs:List Cls} {s:List (List Nat)},CsOk s cs->AllW (txCs cs)
 | [],_,_=>Yc
 |c::r,s,h=>by
  rw [V7] at h
  rw [Ze4]
  exact Wv (Z8k h.1) (Zu8 h.2.2.2.2.2)
theorem Zpl {t:Tar} (h:Yt t=0):AllW (Uu t):=by
 obtain ⟨h1,h2,h3,h4,h5,h6⟩:=(Wm t).1 h
 exact Ze Zu3 (Ze (Ze5 h1) (Ze Z8f (Ze (Zj3 (k:= .ki) (show (t.for_-1).toNat<6 by omega)) (Ze Ya2 (Wv (Zu8 h6) (Ze Ya3 Yc))))))
theorem Ya7 (ws:List (List Nat)):(TS ws).map sT=TS ws:=by
 rw [List.map_map]
 rfl
theorem Zzo {s:List Nat} {l:List Tok} (h:Lx s 0 l) (hs:s.length<=2000):Ya s=outT (pTar l s.length):=by
 unfold Ya
 rw [Zw7 h hs,if_neg (by simp)]
theorem Zel {s:List Nat} {l:List Tok} (h:Lx s 0 l) (hs:s.length<=2000) {l0:List Tok} {e:Int} {t:Tar} {x:PX} (ht:pTar l0 e= .ok (t,x)) (hl:l.map sT=l0.map sT):Ya s=(t,0,0):=by
 rw [Zzo h hs,(Z4s ht).1 l s.length hl]
 rfl
theorem Zem {t:Tar} (h:Yt t=0) (hs:(Yd (Uu t)).length<=2000):Ya (Yd (Uu t))=(t,0,0):=by
 refine Zel (Zm1 0 (Zpl h)) hs (Z0p h 0) ?_
 rw [Zw8,Ya7]
theorem Zgl {t:Tar} (h:Yt t≠0):Wo t=([],Yt t):=by
 unfold Wo
 rw [if_pos h]
theorem Z8l {t:Tar} (h:(Wo t).2=0):Yt t=0/\(Yd (Uu t)).length<=2000/\Wo t=(Yd (Uu t),0):=by
 unfold Wo at h⊢
 split at h
 · rename_i hc
   exact absurd h hc
 · rename_i hc
   split at h
   · cases h
   · rename_i hl
     rw [if_neg hc,if_neg hl]
     exact ⟨by simpa using hc,by omega,rfl⟩
theorem Zen {t:Tar} (h:Yt t=0):((Wo t).2=0/\(Yd (Uu t)).length<=2000/\(Wo t).1=Yd (Uu t))\/(Wo t=([],2)):=by
 unfold Wo
 rw [if_neg (by simpa using h)]
 split
 · exact .inr rfl
 · rename_i hl
   exact .inl ⟨rfl,by omega,rfl⟩
theorem Zeo (s:List Nat):((Zk s).2.2≠0/\Ya s=(zT,(Zk s).2.1,(Zk s).2.2))\/
 ((Zk s).2.2=0/\∃er,Z8q (Zk s).1 s.length er/\Ya s=(zT,er.1,er.2))\/
 ((Zk s).2.2=0/\∃t x,pTar (Zk s).1 s.length= .ok (t,x)/\Yt t=0/\Ya s=(t,0,0)):=by
 by_cases h:(Zk s).2.2=0
 · have hp:Ya s=outT (pTar (Zk s).1 s.length):=by
    unfold Ya
    rw [if_neg (by simpa using h)]
   rw [hp]
   cases hq:pTar (Zk s).1 s.length with
   |error er=>exact .inr (.inl ⟨h,er,((Z2z _ _).2 er hq).at,rfl⟩)
   |ok y=>
    obtain ⟨t,x⟩:=y
    exact .inr (.inr ⟨h,t,x,rfl,(Z7u _ _ _ _ (Zcf s) hq).1,rfl⟩)
 · refine .inl ⟨h,?_⟩
   unfold Ya
   rw [if_pos h]
theorem Zrs {l:List Tok} (hl:LxOk l) {e:Int} {t:Tar} {x:PX} (ht:pTar l e= .ok (t,x)) (hs:(Yd (l.map Tok.text)).length<=2000):Ya (Yd (l.map Tok.text))=(t,0,0):=by
 refine Zel (Zm1 0 ?_) hs ht ?_
 · intro w hw
   obtain ⟨t,ht,rfl⟩:=List.mem_map.1 hw
   exact (hl t ht).1
 · rw [Zw8,List.map_map]
   exact (List.map_congr_left fun t ht=>(hl t ht).2.1).symm
end
section
open Go
structure PcX where
 k:Nat
 r:Nat
 L:List (List Nat)
 fz:Nat
def cOfP (h:Hp thy) (v:SV thy):Nat:=match h (bOf v) with|some (.raw (.sl c _ _ _ _::_) _ _)=>c|_=>0
noncomputable def Apc:Fr thy->Hp thy->Nat->Ann thy:=fun T h i=>{X:=PcX,fr:=fun x=> [(0,T 0),(3,T 3),(12,T 12),(13,T 13),(14,.int false .i64 x.k)],bl:=fun x=>(bOf (T 0),.raw [.sl i 0 x.L.length 1 none] 0 none)::(i,.rows Th.strs x.L x.fz)::blkP h (T 3),src:=fun x=> [(i,1000)],md:= [bOf (T 0),cOfP h (T 0)],ih:=i+1,M:=i+60,meas:=fun x=>x.r}
noncomputable def Fpc:Fns thy:=addL (addS Fpu 79 (Sxp 1000000000)) 43 3 Apc E
def clA (c:Cls):SV thy:= .agg (encF false .clauses c)
abbrev qCLv (a0:Cls):=(Cls.pay a0)
abbrev qCLl (a0:Cls):=(Cls.when_ a0=Cls.when_ a0/\(false=true->false=true))
abbrev qCL1 (a0:Cls):=(Cls.name a0=Cls.name a0/\(qCLl a0)/\Ex.op (qCLv a0)=Ex.op (qCLv a0)/\Ex.n (qCLv a0)=Ex.n (qCLv a0)/\Ex.d0 (qCLv a0)=Ex.d0 (qCLv a0)/\Ex.d1 (qCLv a0)=Ex.d1 (qCLv a0)/\Ex.d2 (qCLv a0)=Ex.d2 (qCLv a0)/\Ex.d3 (qCLv a0)=Ex.d3 (qCLv a0)/\(Ex.l (qCLv a0)=Ex.l (qCLv a0)/\(false=true->false=true))/\True)
abbrev qCLe (a0:Cls):=(↑(List.length (Cls.when_ a0)):Int)
abbrev qCLj:=(0:Nat)
abbrev qCLr:=(1:Int)
abbrev qCLh (a0:PcX):=(↑(PcX.k a0):Int)
abbrev qCL2 (a0:Cls) (b0:PcX) (c0:PcX):=(qCLj=qCLj/\qCLj=qCLj/\(qCLl a0)/\(qCLe a0)=(qCLe a0)/\wr IntKind.i64 ((qCLh b0)+qCLr)=(qCLh c0)/\True)
abbrev qCLu (a0:PcX):=(List.length (PcX.L a0))
abbrev qCL3 (a0:PcX) (b0:List Nat):=(List.take (qCLu a0) (PcX.L a0)++ [[(119:Nat),(104:Nat),(101:Nat),(110:Nat)],b0])
abbrev qCL4 (a0:PcX) (b0:List Nat):=(List.take (qCLu a0) (PcX.L a0)++ [[(97:Nat),(110:Nat),(100:Nat)],b0])
abbrev qCL5:=(1:Nat)
abbrev qCL6 (a0:Cls):=(Ex.mk (Ex.op (qCLv a0)) (Ex.n (qCLv a0)) (Ex.d0 (qCLv a0)) (Ex.d1 (qCLv a0)) (Ex.d2 (qCLv a0)) (Ex.d3 (qCLv a0)) (Ex.l (qCLv a0)))
abbrev qCLc:=(2:Nat)
abbrev qCL7 (a0:PcX):=(List.length (PcX.L a0)+qCLc+qCL5)
abbrev qCL8 (a0:PcX):=(List.length (PcX.L a0)+qCLc)
abbrev qCL9:=(140737488355328:Nat)
abbrev qCLa (a0:PcX):=(List.length (PcX.L a0)+qCLc+qCL5+qCL5)
abbrev qCLb (a0:PcX):=(List.take (qCLu a0) (PcX.L a0)++ [[(112:Nat),(97:Nat),(121:Nat)]])
abbrev qCLd (a0:Tst):=((0:Int)<=Tst.low a0/\Tst.low a0+qCLr<=(10000000000000:Int))
abbrev qCLf (a0:PcX) (b0:List Nat):=(List.take (qCL8 a0) (qCL3 a0 b0)++ [[(105:Nat),(110:Nat)]])
abbrev qCLg (a0:PcX) (b0:List Nat):=(List.take (qCL8 a0) (qCL4 a0 b0)++ [[(105:Nat),(110:Nat)]])
abbrev qCLi (a0:PcX):=(List.length (PcX.L a0)+qCLc+qCL5+qCL5+qCL5)
abbrev qCLk:=(16:Nat)
abbrev qCLm (a0:PcX):=(some (List.take (qCLu a0) (PcX.L a0)++ [[(112:Nat),(97:Nat),(121:Nat)]],PcX.fz a0))
abbrev qCLn (a0:PcX):=(List.length (PcX.L a0)<=List.length (PcX.L a0)/\PcX.fz a0<=List.length (PcX.L a0)/\(qCL8 a0)*qCLk<=qCL9)
abbrev qCLo (a0:PcX) (b0:PcX):=((qCLj=qCLj/\List.length (PcX.L a0)+qCLc+qCL5+qCL5+qCL5+qCL5=List.length (PcX.L b0)/\True)/\True)
abbrev qCLp (a0:PcX) (b0:List Nat):=(List.length (PcX.L a0)+qCLc<=List.length (qCL3 a0 b0)/\PcX.fz a0<=List.length (PcX.L a0)+qCLc/\(qCL7 a0)*qCLk<=qCL9)
abbrev qCLq (a0:PcX) (b0:List Nat):=(List.length (PcX.L a0)+qCLc<=List.length (qCL4 a0 b0)/\PcX.fz a0<=List.length (PcX.L a0)+qCLc/\(qCL7 a0)*qCLk<=qCL9)
abbrev qCLs (a0:PcX) (b0:PcX):=((qCLj=qCLj/\List.length (PcX.L a0)+qCLc+qCL5+qCL5=List.length (PcX.L b0)/\True)/\True)
abbrev qCLt (a0:Tst):=((0:Int)<=Tst.high a0/\Tst.high a0+qCLr<=(10000000000000:Int))
theorem Zyq (l:List (List Nat)) (fz:Nat) (c:Cls) (l':List (List Nat)):Zl E Fpc (vc E Fpc 400) 43 [.ptr 0 0,clA c] (hpP E Th.strs (some (l,fz))) 2 (prnK E Th.strs (some (l,fz)) l')=(
 (List.length l<=List.length l/\fz<=List.length l/\(List.length l+qCLc)*qCLk<=qCL9)/\∃(R:PcX->Prop),(∃(x:PcX),R x/\true=true/\(qCLj=qCLj/\qCLj=qCLj/\(qCLl c)/\(qCLe c)=(qCLe c)/\(0:Int)=(qCLh x)/\True)/\((qCLj=qCLj/\List.length l+qCLc=List.length (PcX.L x)/\True)/\True)/\(List.take (List.length l) l++ [[(99:Nat),(108:Nat),(97:Nat),(117:Nat),(115:Nat),(101:Nat)],Cls.name c]=PcX.L x/\fz=PcX.fz x)/\(qCL1 c)/\True)/\∀(x:PcX),R x->(decide ((qCLh x)<(qCLe c))=true->(0:Int)<=(qCLh x)/\(qCLh x)+qCLr<=(qCLe c)/\∀(x_1:Tst),(Cls.when_ c)[Int.toNat (qCLh x)]? =some x_1->(0:Int)<=mm2 false (qCLh x) qCLr/\mm2 false (qCLh x) qCLr+qCLr<=(↑qCLc:Int)/\((mm2 false (qCLh x) qCLr==(↑qCLj:Int))=true->(0:Int)<=Tst.attr x_1/\Tst.attr x_1+qCLr<=(↑(List.length (WK.words WK.at_)):Int)/\∀(x_2:List Nat),(WK.words WK.at_)[Int.toNat (Tst.attr x_1)]? =some x_2->(qCLn x)/\((Tst.low x_1==Tst.high x_1)=true->(qCLp x x_2)/\(qCLd x_1)/\∀(y:List Nat),y=decN (Tst.low x_1)->(List.length (PcX.L x)+qCLc+qCL5<=List.length (List.take (qCL8 x) (qCL3 x x_2)++ [[(105:Nat),(115:Nat)]])/\PcX.fz x<=List.length (PcX.L x)+qCLc+qCL5/\(qCLa x)*qCLk<=qCL9)/\∃(x_3:PcX),R x_3/\x_3.2+qCL5<=x.2/\true=true/\(qCL2 c x x_3)/\(qCLs x x_3)/\(List.take (qCL7 x) (List.take (qCL8 x) (qCL3 x x_2)++ [[(105:Nat),(115:Nat)]])++ [y]=PcX.L x_3/\PcX.fz x=PcX.fz x_3)/\(qCL1 c)/\True)/\((Tst.low x_1==Tst.high x_1)=false->(qCLp x x_2)/\(qCLd x_1)/\∀(y:List Nat),y=decN (Tst.low x_1)->(List.length (PcX.L x)+qCLc+qCL5<=List.length (qCLf x x_2)/\PcX.fz x<=List.length (PcX.L x)+qCLc+qCL5/\(qCLa x)*qCLk<=qCL9)/\(List.length (PcX.L x)+qCLc+qCL5+qCL5<=List.length (List.take (qCL7 x) (qCLf x x_2)++ [y])/\PcX.fz x<=List.length (PcX.L x)+qCLc+qCL5+qCL5/\(qCLi x)*qCLk<=qCL9)/\(qCLt x_1)/\∀(y_1:List Nat),y_1=decN (Tst.high x_1)->(List.length (PcX.L x)+qCLc+qCL5+qCL5+qCL5<=List.length (List.take (qCLa x) (List.take (qCL7 x) (qCLf x x_2)++ [y])++ [[(46:Nat),(46:Nat)]])/\PcX.fz x<=List.length (PcX.L x)+qCLc+qCL5+qCL5+qCL5/\(List.length (PcX.L x)+qCLc+qCL5+qCL5+qCL5+qCL5)*qCLk<=qCL9)/\∃(x_3:PcX),R x_3/\x_3.2+qCL5<=x.2/\true=true/\(qCL2 c x x_3)/\(qCLo x x_3)/\(List.take (qCLi x) (List.take (qCLa x) (List.take (qCL7 x) (qCLf x x_2)++ [y])++ [[(46:Nat),(46:Nat)]])++ [y_1]=PcX.L x_3/\PcX.fz x=PcX.fz x_3)/\(qCL1 c)/\True))/\((mm2 false (qCLh x) qCLr==(↑qCLj:Int))=false->((mm2 false (qCLh x) qCLr==(↑(qCLj+qCL5):Int))=true->(0:Int)<=Tst.attr x_1/\Tst.attr x_1+qCLr<=(↑(List.length (WK.words WK.at_)):Int)/\∀(x_2:List Nat),(WK.words WK.at_)[Int.toNat (Tst.attr x_1)]? =some x_2->(qCLn x)/\((Tst.low x_1==Tst.high x_1)=true->(qCLq x x_2)/\(qCLd x_1)/\∀(y:List Nat),y=decN (Tst.low x_1)->(List.length (PcX.L x)+qCLc+qCL5<=List.length (List.take (qCL8 x) (qCL4 x x_2)++ [[(105:Nat),(115:Nat)]])/\PcX.fz x<=List.length (PcX.L x)+qCLc+qCL5/\(qCLa x)*qCLk<=qCL9)/\∃(x_3:PcX),R x_3/\x_3.2+qCL5<=x.2/\true=true/\(qCL2 c x x_3)/\(qCLs x x_3)/\(List.take (qCL7 x) (List.take (qCL8 x) (qCL4 x x_2)++ [[(105:Nat),(115:Nat)]])++ [y]=PcX.L x_3/\PcX.fz x=PcX.fz x_3)/\(qCL1 c)/\True)/\((Tst.low x_1==Tst.high x_1)=false->(qCLq x x_2)/\(qCLd x_1)/\∀(y:List Nat),y=decN (Tst.low x_1)->(List.length (PcX.L x)+qCLc+qCL5<=List.length (qCLg x x_2)/\PcX.fz x<=List.length (PcX.L x)+qCLc+qCL5/\(qCLa x)*qCLk<=qCL9)/\(List.length (PcX.L x)+qCLc+qCL5+qCL5<=List.length (List.take (qCL7 x) (qCLg x x_2)++ [y])/\PcX.fz x<=List.length (PcX.L x)+qCLc+qCL5+qCL5/\(qCLi x)*qCLk<=qCL9)/\(qCLt x_1)/\∀(y_1:List Nat),y_1=decN (Tst.high x_1)->(List.length (PcX.L x)+qCLc+qCL5+qCL5+qCL5<=
List.length (List.take (qCLa x) (List.take (qCL7 x) (qCLg x x_2)++ [y])++ [[(46:Nat),(46:Nat)]])/\PcX.fz x<=List.length (PcX.L x)+qCLc+qCL5+qCL5+qCL5/\(List.length (PcX.L x)+qCLc+qCL5+qCL5+qCL5+qCL5)*qCLk<=qCL9)/\∃(x_3:PcX),R x_3/\x_3.2+qCL5<=x.2/\true=true/\(qCL2 c x x_3)/\(qCLo x x_3)/\(List.take (qCLi x) (List.take (qCLa x) (List.take (qCL7 x) (qCLg x x_2)++ [y])++ [[(46:Nat),(46:Nat)]])++ [y_1]=PcX.L x_3/\PcX.fz x=PcX.fz x_3)/\(qCL1 c)/\True))/\((mm2 false (qCLh x) qCLr==(↑(qCLj+qCL5):Int))=false->True)))/\(decide ((qCLh x)<(qCLe c))=false->(List.length (PcX.L x)<=List.length (PcX.L x)/\PcX.fz x<=List.length (PcX.L x)/\(List.length (PcX.L x)+qCL5)*qCLk<=qCL9)/\(List.length (PcX.L x)+qCL5=List.length (qCLb x)/\PcX.fz x<=List.length (qCLb x)/\Ex.sz (qCL6 c)+qCL5<=(1000000000:Nat)/\Z7 (qCL6 c)=true/\qCL5<=List.length (qCLb x)/\List.length (qCLb x)+(8:Nat)*Ex.sz (qCL6 c)+(8:Nat)<=(1000000000:Nat))/\∀(l'_1:List (List Nat)),l'_1=List.take (qCLu x) (PcX.L x)++ [[(112:Nat),(97:Nat),(121:Nat)]]++txX (qCL6 c)->(List.length l'_1<=List.length l'_1/\fzO (qCLm x)<=List.length l'_1/\(List.length l'_1+qCL5)*qCLk<=qCL9)/\List.take (List.length l'_1) l'_1++ [[(59:Nat)]]=l'/\List.length l'_1+qCL5=List.length l'/\fzO (qCLm x)=fzO (some (l,fz)))):=by kernel_rfl
theorem Zlp:∀(a:List Tst) (i:Nat) (w:Tst),txTs i (a++ [w])=txTs i a++((if a.length+i=0 then Zfx else sAnd)::txW w)
 | [],i,w=>by simp [txTs]
 |x::r,i,w=>by
  rw [List.cons_append]
  simp only [txTs]
  rw [Zlp r (i+1) w]
  have e:(r.length+(i+1)=0)=((x::r).length+i=0):=by simp
  simp only [e,List.append_assoc,List.cons_append]
theorem Z7f (w:Tst):(txW w).length<=5:=by
 unfold txW
 split<;>simp
theorem Zi7:∀(l:List Tst) (i:Nat),(txTs i l).length<=6*l.length
 | [],_=>by simp [txTs]
 |w::r,i=>by
  have:=Zi7 r (i+1)
  have:=Z7f w
  simp [txTs]
  omega
def PclP (l:List (List Nat)) (c:Cls):Prop:=X7 c=true/\c.pay.sz<1000000000/\1<=l.length/\l.length+8*c.pay.sz+6*c.when_.length+20<=1000000000
theorem Yaj:FnsOk E Fpc:=Zw E_ok (Zb Zqi (Zxu (Zo4 1000000000))) _ _ _
theorem Z7g (c:Cls) (l:List (List Nat)) (fz:Nat) (hf:fz<=l.length) (h:PclP l c):PrnC E 43 Th.strs [clA c] (some (l,fz)) (l++txC c):=by
 refine Zxr Yaj (n:=400) rfl ?_
 rw [Zyq];delta qCLv qCLl qCL1 qCLe qCLj qCLr qCLh qCL2 qCLu qCL3 qCL4 qCL5 qCL6 qCLc qCL7 qCL8 qCL9 qCLa qCLb qCLd qCLf qCLg qCLi qCLk qCLm qCLn qCLo qCLp qCLq qCLs qCLt
 obtain ⟨h1,h2,h3,h4⟩:=h
 obtain ⟨-,g2,g3⟩:=Za4 h1
 have L:WK.at_.words.length=16:=rfl
 simp only [fzO,List.take_length,Ex.eta,forall_eq,beq_iff_eq,beq_eq_false_iff_ne,ne_eq,and_true,true_and,imp_self,decide_eq_true_eq,decide_eq_false_iff_not]
 refine ⟨⟨Nat.le_refl _,hf,by omega⟩,fun x=>x.k<=c.when_.length/\x.fz=fz/\x.L=l++ [Xs,c.name]++txTs 0 (c.when_.take x.k)/\x.r=c.when_.length-x.k,⟨⟨0,c.when_.length,l++ [Xs,c.name],fz⟩,⟨by dsimp only;omega,rfl,by simp [txTs],rfl⟩,by simp,by simp,by simp [Xs]⟩,?_⟩
 rintro ⟨k,r,Lx,fx⟩ ⟨k1,k2,k3,k4⟩
 simp only at k1 k2 k3 k4⊢
 subst k2 k4
 have tl:=Zi7 (c.when_.take k) 0
 have tl2:(c.when_.take k).length<=c.when_.length:=by simp;omega
 have hL:Lx.length=l.length+2+(txTs 0 (c.when_.take k)).length:=by rw [k3];simp;omega
 refine And.intro (fun hq=>⟨by omega,by omega,fun w hw=> ?_⟩) (fun hq=> ?_)
 · have hw:c.when_[k]? =some w:=hw
   have hq:k<c.when_.length:=by omega
   obtain ⟨t1,t2,t3,t4,t5,t6⟩:=Us (g3 w (List.mem_of_getElem? hw))
   have ek:c.when_.take (k+1)=c.when_.take k++ [w]:=by rw [List.take_add_one,hw];rfl
   have tw:(c.when_.take k).length=k:=by simp;omega
   have hm:(0:Int)<=mm2 false (↑k:Int) (1:Int)/\mm2 false (↑k:Int) (1:Int)+1<=2:=by
    rw [Yn];omega
   have st:txTs 0 (c.when_.take (k+1))=txTs 0 (c.when_.take k)++((if k=0 then Zfx else sAnd)::txW w):=by rw [ek,Zlp,tw,Nat.add_zero]
   have wx:∀x2,WK.at_.words[w.attr.toNat]? =some x2->txW w=x2::(if w.low=w.high then [sIs,decN w.low] else [sIn,decN w.low,Zcd,decN w.high]):=by
    intro x2 h
    unfold txW
    rw [List.getD_eq_getElem?_getD,h]
    rfl
   have E1:∀s x2,(if k=0 then Zfx else sAnd)=s->WK.at_.words[w.attr.toNat]? =some x2->w.low=w.high->Lx++ [s,x2]++ [[105,115]]++ [decN w.low]=l++ [Xs,c.name]++txTs 0 (c.when_.take (k+1)):=by
    intro s x2 hs h e
    rw [k3,st,hs,wx x2 h,if_pos e]
    simp [sIs]
   have E2:∀s x2,(if k=0 then Zfx else sAnd)=s->WK.at_.words[w.attr.toNat]? =some x2->¬w.low=w.high->Lx++ [s,x2]++ [[105,110]]++ [decN w.low]++ [[46,46]]++ [decN w.high]=l++ [Xs,c.name]++txTs 0 (c.when_.take (k+1)):=by
    intro s x2 hs h e
    rw [k3,st,hs,wx x2 h,if_neg e]
    simp [sIn,Zcd]
   have T1:∀a b,List.take (Lx.length+2) (Lx++ [a,b])=Lx++ [a,b]:=fun a b=>List.take_of_length_le (by simp)
   have T2:∀a b c,List.take (Lx.length+2+1) (Lx++ [a,b]++ [c])=Lx++ [a,b]++ [c]:=fun a b c=>List.take_of_length_le (by simp)
   have T3:∀a b c d,List.take (Lx.length+2+1+1) (Lx++ [a,b]++ [c]++ [d])=Lx++ [a,b]++ [c]++ [d]:=fun a b c d=>List.take_of_length_le (by simp)
   have T4:∀a b c d e,List.take (Lx.length+2+1+1+1) (Lx++ [a,b]++ [c]++ [d]++ [e])=Lx++ [a,b]++ [c]++ [d]++ [e]:=fun a b c d e=>List.take_of_length_le (by simp)
   have wk:wr IntKind.i64 ((k:Int)+1)=((k+1:Nat):Int):=(wr64 (by omega) (by omega)).trans (by omega)
   simp only [T1,T2,T3,T4]
   have m0:(mm2 false (k:Int) 1=((0:Nat):Int))=(k=0):=by rw [Yn];exact propext (by omega)
   have go:∀s x2,(if k=0 then Zfx else sAnd)=s->WK.at_.words[w.attr.toNat]? =some x2->
    (w.low=w.high->∃x_3:PcX,(x_3.k<=c.when_.length/\x_3.fz=fx/\x_3.L=l++ [Xs,c.name]++txTs 0 (List.take x_3.k c.when_)/\x_3.r=c.when_.length-x_3.k)/\x_3.r+1<=c.when_.length-k/\wr IntKind.i64 ((k:Int)+1)=(x_3.k:Int)/\Lx.length+2+1+1=x_3.L.length/\Lx++ [s,x2]++ [[105,115]]++ [decN w.low]=x_3.L/\fx=x_3.fz)/\
    (¬w.low=w.high->∃x_3:PcX,(x_3.k<=c.when_.length/\x_3.fz=fx/\x_3.L=l++ [Xs,c.name]++txTs 0 (List.take x_3.k c.when_)/\x_3.r=c.when_.length-x_3.k)/\x_3.r+1<=c.when_.length-k/\wr IntKind.i64 ((k:Int)+1)=(x_3.k:Int)/\Lx.length+2+1+1+1+1=x_3.L.length/\Lx++ [s,x2]++ [[105,110]]++ [decN w.low]++ [[46,46]]++ [decN w.high]=x_3.L/\fx=x_3.fz):=by
    intro s x2 hs h
    refine And.intro (fun e=> ?_) (fun e=> ?_)
    · have:=E1 s x2 hs h e
      have h2:=congrArg List.length this
      refine ⟨⟨k+1,c.when_.length-(k+1),l++ [Xs,c.name]++txTs 0 (c.when_.take (k+1)),fx⟩,⟨hq,rfl,rfl,rfl⟩,(by dsimp only;omega),wk,?_,this,rfl⟩
      dsimp only
      rw [<-h2]
      simp
    · have:=E2 s x2 hs h e
      have h2:=congrArg List.length this
      refine ⟨⟨k+1,c.when_.length-(k+1),l++ [Xs,c.name]++txTs 0 (c.when_.take (k+1)),fx⟩,⟨hq,rfl,rfl,rfl⟩,(by dsimp only;omega),wk,?_,this,rfl⟩
      dsimp only
      rw [<-h2]
      simp
   rw [m0]
   refine ⟨hm.1,hm.2,fun h0=>⟨t1,by rw [L];omega,fun x2 hx2=> ?_⟩,fun h0=>⟨fun h1=>⟨t1,by rw [L];omega,fun x2 hx2=> ?_⟩,fun _=>trivial⟩⟩
   · obtain ⟨g1,g2⟩:=go [119,104,101,110] x2 (by rw [if_pos h0];rfl) hx2
     refine ⟨⟨Nat.le_refl _,by omega,by omega⟩,fun e=> ?_,fun e=> ?_⟩
     · exact ⟨⟨by simp,by omega,by omega⟩,⟨t3,by omega⟩,⟨by simp,by omega,by omega⟩,g1 e⟩
     · exact ⟨⟨by simp,by omega,by omega⟩,⟨t3,by omega⟩,⟨by simp,by omega,by omega⟩,⟨by simp,by omega,by omega⟩,⟨t5,by omega⟩,⟨by simp,by omega,by omega⟩,g2 e⟩
   · obtain ⟨g1,g2⟩:=go [97,110,100] x2 (by rw [if_neg h0];rfl) hx2
     refine ⟨⟨Nat.le_refl _,by omega,by omega⟩,fun e=> ?_,fun e=> ?_⟩
     · exact ⟨⟨by simp,by omega,by omega⟩,⟨t3,by omega⟩,⟨by simp,by omega,by omega⟩,g1 e⟩
     · exact ⟨⟨by simp,by omega,by omega⟩,⟨t3,by omega⟩,⟨by simp,by omega,by omega⟩,⟨by simp,by omega,by omega⟩,⟨t5,by omega⟩,⟨by simp,by omega,by omega⟩,g2 e⟩
 · have ek:k=c.when_.length:=by omega
   have tx:=Y3 c.pay
   have e1:Lx++ [[112,97,121]]++txX c.pay++ [[59]]=l++txC c:=by
    rw [k3,ek,List.take_length]
    unfold txC
    simp [sPay,Zfc]
   have e2:=congrArg List.length e1
   simp only [List.length_append,List.length_cons,List.length_nil] at e2⊢
   exact ⟨⟨Nat.le_refl _,by omega,by omega⟩,⟨trivial,by omega,by omega,g2,by omega,by omega⟩,⟨Nat.le_refl _,by omega,by omega⟩,e1,by omega,trivial⟩
end
section
open Go
noncomputable def dCl1:DcL E (Cls×Unit):= .cons dCl .nil
noncomputable def Spc:Sum thy:=sumB E Th.strs dCl1 (fun l x=>PclP l x.1) fun (l:List (List Nat)) x=>l++txC x.1
theorem Z7h:SumOk E 43 Spc:=Zif E_ok (Zc rfl) fun x=>⟨fun l fz hf hp=>Z7g x.1 l fz hf hp,fun hp=>absurd hp.2.2.1 (by decide)⟩
noncomputable def Yal:DcL E (List (List Nat)×List Nat×Unit):= .cons (Zrc (E:=E) Th.strs:Dc E (List (thy.dom Th.strs))) (.cons dS .nil)
noncomputable def Z3p:Sum thy:=Zky E (fun _=>none) 10 (Vv Yal (fun x=>(x.2.1= [32]/\x.1.length<=1000000000)/\(Yd x.1).length<=1000000000) (fun x=>Yd x.1) fun y=> .str false y)
noncomputable def Apr:Fr thy->Hp thy->Nat->Ann thy:=fun T h i=>{X:=PcX,fr:=fun x=> [(1,T 1),(5,T 5),(28,T 28),(29,T 29),(30,.int false .i64 x.k)],bl:=fun x=>(bOf (T 5),.raw [.sl i 0 x.L.length 1 none] 0 none)::(i,.rows Th.strs x.L x.fz)::blkP h (T 1),src:=fun x=> [(i,1005)],md:= [bOf (T 5),cOfP h (T 5)],ih:=i+1,M:=i+60,meas:=fun x=>x.r}
noncomputable def Fpr:Fns thy:=addL (addS (addS (addS (addS F0 42 Zcv) 44 Z3p) 17 Z3n) 43 Spc) 15 7 Apr E
abbrev qCM1 (a0:Cls):=(Ex.mk (Ex.op (Cls.pay a0)) (Ex.n (Cls.pay a0)) (Ex.d0 (Cls.pay a0)) (Ex.d1 (Cls.pay a0)) (Ex.d2 (Cls.pay a0)) (Ex.d3 (Cls.pay a0)) (Ex.l (Cls.pay a0)))
abbrev qCM5:=(0:Nat)
abbrev qCM2 (a0:PcX):=(List.take (List.length (PcX.L a0)+(1:Nat)) (List.drop qCM5 (List.take (List.length (PcX.L a0)) (PcX.L a0)++ [[(125:Nat)]])))
abbrev qCM3 (a0:Tar):=(↑(List.length (Tar.clauses a0)):Int)
abbrev qCM4 (a0:Tar):=(Tar.clauses a0=Tar.clauses a0/\(false=true->false=true))
abbrev qCM6 (a0:PcX):=(↑(PcX.k a0):Int)
theorem Zqz (t:Tar) (s:List Nat) (e:Int):Zl E Fpr (vc E Fpr 400) 15 [.agg (encF false .tariffs t)] hp0 0 (fun r=>ret E (patch hp0 0 r) r.v (.tup [.str false s,.int false .i64 e]))=(
 ((∀(c:Cls),c∈Tar.clauses t->Ex.sz (Cls.pay c)+(1:Nat)<=(1000000000000:Nat)/\List.length (Cls.when_ c)+(1:Nat)<=(1000000000000:Nat))/\List.length (Tar.clauses t)+(1:Nat)<=(1000000000000:Nat))/\((Yt t !=(0:Int))=true-> []=s/\Yt t=e/\True)/\((Yt t !=(0:Int))=false->(0:Int)<=wr IntKind.i64 (Tar.for_ t-(1:Int))/\wr IntKind.i64 (Tar.for_ t-(1:Int))+(1:Int)<=(↑(List.length (WK.words WK.ki)):Int)/\∀(x:List Nat),(WK.words WK.ki)[Int.toNat (wr IntKind.i64 (Tar.for_ t-(1:Int)))]? =some x->∃(R:PcX->Prop),(∃(x_1:PcX),R x_1/\true=true/\(qCM5=qCM5/\qCM5=qCM5/\(qCM4 t)/\(qCM3 t)=(qCM3 t)/\(0:Int)=(qCM6 x_1)/\True)/\((qCM5=qCM5/\(5:Nat)=List.length (PcX.L x_1)/\True)/\True)/\([[(116:Nat),(97:Nat),(114:Nat),(105:Nat),(102:Nat),(102:Nat)],Tar.name t,[(102:Nat),(111:Nat),(114:Nat)],x,[(123:Nat)]]=PcX.L x_1/\qCM5=PcX.fz x_1)/\(Tar.name t=Tar.name t/\Tar.for_ t=Tar.for_ t/\(qCM4 t)/\True)/\True)/\∀(x:PcX),R x->(decide ((qCM6 x)<(qCM3 t))=true->(0:Int)<=(qCM6 x)/\(qCM6 x)+(1:Int)<=(qCM3 t)/\∀(x_1:Cls),(Tar.clauses t)[Int.toNat (qCM6 x)]? =some x_1->(List.length (PcX.L x)=List.length (PcX.L x)/\PcX.fz x<=List.length (PcX.L x)/\X7 (Cls.mk (Cls.name x_1) (Cls.when_ x_1) (qCM1 x_1))=true/\Ex.sz (qCM1 x_1)+(1:Nat)<=(1000000000:Nat)/\(1:Nat)<=List.length (PcX.L x)/\List.length (PcX.L x)+(8:Nat)*Ex.sz (qCM1 x_1)+(6:Nat)*List.length (Cls.when_ x_1)+(20:Nat)<=(1000000000:Nat))/\∀(l':List (List Nat)),l'=PcX.L x++txC (Cls.mk (Cls.name x_1) (Cls.when_ x_1) (qCM1 x_1))->∃(x_2:PcX),R x_2/\x_2.2+(1:Nat)<=x.2/\true=true/\(qCM5=qCM5/\qCM5=qCM5/\(qCM4 t)/\(qCM3 t)=(qCM3 t)/\wr IntKind.i64 ((qCM6 x)+(1:Int))=(qCM6 x_2)/\True)/\((qCM5=qCM5/\List.length l'=List.length (PcX.L x_2)/\True)/\True)/\(l'=PcX.L x_2/\fzO (some (PcX.L x,PcX.fz x))=PcX.fz x_2)/\(Tar.name t=Tar.name t/\Tar.for_ t=Tar.for_ t/\(qCM4 t)/\True)/\True)/\(decide ((qCM6 x)<(qCM3 t))=false->(List.length (PcX.L x)<=List.length (PcX.L x)/\PcX.fz x<=List.length (PcX.L x)/\(List.length (PcX.L x)+(1:Nat))*(16:Nat)<=(140737488355328:Nat))/\qCM5+(List.length (PcX.L x)+(1:Nat))<=List.length (List.take (List.length (PcX.L x)) (PcX.L x)++ [[(125:Nat)]])/\(([(32:Nat)]= [(32:Nat)]/\List.length (qCM2 x)<=(1000000000:Nat))/\List.length (Yd (qCM2 x))<=(1000000000:Nat))/\∀(y:List Nat),y=Yd (qCM2 x)->(decide ((↑(List.length y):Int)>(2000:Int))=true-> []=s/\(2:Int)=e/\True)/\(decide ((↑(List.length y):Int)>(2000:Int))=false->y=s/\(0:Int)=e/\True)))):=by kernel_rfl
theorem Zop:∀{s:List Nat} {n m:Int},1<=n->n<=1099511627776->(∀c∈s,isD c=true)->numL n s=(m,0)->n*10^s.length<=1099511627776
 | [],n,m,_,hn,_,_=>by simpa using hn
 |c::r,n,m,h1,hn,hd,h=>by
  unfold numL at h
  split at h
  · cases h
  · rename_i hq
    have hc:=hd c (by simp)
    unfold isD at hc
    simp only [Bool.and_eq_true,decide_eq_true_eq] at hc
    have:=Zop (by omega) (by omega) (fun c hc=>hd c (by simp [hc])) h
    have hle:n*10<=10*n+((c:Int)-48):=by omega
    have hp:(0:Int)<=10^r.length:=Int.le_of_lt (Int.pow_pos (by decide))
    have h3:=Int.mul_le_mul_of_nonneg_right hle hp
    rw [List.length_cons,Int.pow_succ,Int.mul_comm (10^r.length) 10,<-Int.mul_assoc]
    omega
theorem Zyr {s:List Nat} (hd:∀c∈s,isD c=true) (h:(numb s).2=0):s.length<=32:=by
 match s,hd,h with
 | [],_,_=>simp
 |c::r,hd,h=>
  unfold numb at h
  split at h
  · cases h
  · rename_i hq
    cases r with
    |nil=>simp
    |cons d r=>
     have hc:c≠48:=fun e=>hq ⟨by simp,by rw [e];rfl⟩
     have hcd:=hd c (by simp)
     unfold isD at hcd
     simp only [Bool.and_eq_true,decide_eq_true_eq] at hcd
     unfold numL at h
     rw [if_neg (by omega)] at h
     have h2:numL (10*0+((c:Int)-48)) (d::r)=((numL (10*0+((c:Int)-48)) (d::r)).1,0):=Prod.ext rfl h
     have:=Zop (by omega) (by omega) (fun c hc=>hd c (by simp [hc])) h2
     have hp:(0:Int)<=10^(d::r).length:=Int.le_of_lt (Int.pow_pos (by decide))
     have h3:1*(10:Int)^(d::r).length<=(10*0+((c:Int)-48))*10^(d::r).length:=Int.mul_le_mul_of_nonneg_right (by omega) hp
     rcases Nat.lt_or_ge (d::r).length 13 with hl|hl
     · simp at hl⊢;omega
     · have h4:(10:Nat)^13<=10^(d::r).length:=Nat.pow_le_pow_right (by decide) hl
       have h5:((10^(d::r).length:Nat):Int)=(10:Int)^(d::r).length:=by norm_cast
       have h6:((10^13:Nat):Int)<=((10^(d::r).length:Nat):Int):=Int.ofNat_le.2 h4
       rw [h5] at h6
       have h7:((10^13:Nat):Int)=10000000000000:=rfl
       omega
theorem Z3q {c:Nat} {w:List Nat} (h:sgnW c=some w):w.length<=2:=by
 unfold sgnW at h
 repeat (split at h; · cases h;decide)
 cases h
theorem TokW.len {w:List Nat} (h:TokW w):w.length<=32:=by
 obtain ⟨h1,h2,h3⟩:=h
 obtain ⟨c,r,rfl⟩:=List.exists_cons_of_ne_nil h3
 rw [Z8] at h1 h2
 split at h1
 · rename_i hl
   rw [if_pos hl] at h2
   split at h1
   · cases h1
   · rename_i hq
     rw [if_neg hq] at h2
     have h2:=congrArg List.length h2
     rw [List.length_take] at h2
     omega
 · rename_i hl
   rw [if_neg hl] at h2
   split at h1
   · rename_i hd
     rw [if_pos hd] at h2
     have h2:(c::r).take (spn isD (c::r))=c::r:=h2
     have h1:(numb ((c::r).take (spn isD (c::r)))).2=0:=h1
     rw [h2] at h1
     exact Zyr (fun x hx=>by rw [<-h2] at hx;exact Zey hx) h1
   · rename_i hd
     rw [if_neg hd] at h2
     split at h1
     · rename_i w hw
       rw [hw] at h2
       unfold tokS at h1 h2
       split at h1
       · rename_i hq
         dsimp only at h2
         rw [if_pos hq] at h2
         have h2:w=c::r:=h2
         rw [<-h2]
         have:=Z3q hw
         omega
       · cases h1
     · cases h1
theorem Zdu:∀{ws:List (List Nat)} {m:Nat},(∀w∈ws,w.length<=m)->(Yd ws).length<=(m+1)*ws.length
 | [],m,_=>by simp [Yd]
 | [w],m,h=>by
  have:=h w (by simp)
  simp only [Yd,List.length_cons,List.length_nil]
  omega
 |w::x::r,m,h=>by
  have ih:=Zdu (ws:=x::r) (m:=m) (fun y hy=>h y (by simp at hy⊢;exact .inr hy))
  have:=h w (by simp)
  rw [Zgv (by simp),List.length_append,List.length_cons]
  have e:(m+1)*(w::x::r).length=(m+1)*(x::r).length+(m+1):=by rw [List.length_cons,Nat.mul_add,Nat.mul_one]
  omega
theorem Z3r (c:Cls):(txC c).length<=8*c.pay.sz+6*c.when_.length+4:=by
 have h1:=Y3 c.pay
 have h2:=Zi7 c.when_ 0
 unfold txC
 simp only [List.length_cons,List.length_append,List.length_nil]
 omega
theorem Zi8:∀(a:List Cls) (c:Cls),txCs (a++ [c])=txCs a++txC c
 | [],c=>by simp [txCs]
 |x::r,c=>by rw [List.cons_append];simp only [txCs];rw [Zi8 r c,List.append_assoc]
theorem Zoq:∀{cs:List Cls} {m:Nat},(∀c∈cs,c.pay.sz<=m/\c.when_.length<=8)->(txCs cs).length<=(8*m+52)*cs.length
 | [],m,_=>by simp [txCs]
 |c::r,m,h=>by
  have ih:=Zoq (cs:=r) (m:=m) (fun x hx=>h x (by simp [hx]))
  have h1:=h c (by simp)
  have h2:=Z3r c
  have e:(8*m+52)*(c::r).length=(8*m+52)*r.length+(8*m+52):=by rw [List.length_cons,Nat.mul_add,Nat.mul_one]
  rw [txCs,List.length_append]
  omega
theorem Zg7:∀{cs:List Cls} {s:List (List Nat)},CsOk s cs->∀c∈cs,X7 c=true/\c.when_.length<=8
 |c::r,s,h,x,hx=>by
  rw [V7] at h
  rcases List.mem_cons.1 hx with rfl|hx
  · exact ⟨h.1,h.2.2.2.1⟩
  · exact Zg7 h.2.2.2.2.2 x hx
def SmT (t:Tar):Prop:=(∀c∈t.clauses,c.pay.sz<=10000/\c.when_.length<1000000000)/\t.clauses.length<1000000000
theorem Zor:SumOk E 44 Z3p:=Ze6 E_ok (Z9 E_ok (Zc rfl) fun x h=>by
 have:=Zkk x.1 h.1.2 h.2
 rw [<-h.1.1] at this
 exact this)
theorem Z7i:FnsOk E Fpr:=Zw E_ok (Zb (Zb (Zb (Zb F0_ok Zcw) Zor) Zyf) Z7h) _ _ _
theorem Zq0 (t:Tar) (h:SmT t):PureC E 15 [.agg (encF false .tariffs t)] (.tup [.str false (Wo t).1,.int false .i64 (Wo t).2]):=by
 refine Za E_ok (Zg E_ok Z7i 400) ?_
 rw [Zqz];delta qCM1 qCM5 qCM2 qCM3 qCM4 qCM6
 obtain ⟨h1,h2⟩:=h
 have L:WK.ki.words.length=6:=rfl
 simp only [bne_iff_ne,bne_eq_false_iff_eq,fzO,List.take_length,Cls.eta,Ex.eta,forall_eq,beq_iff_eq,beq_eq_false_iff_ne,ne_eq,and_true,true_and,imp_self,decide_eq_true_eq,decide_eq_false_iff_not]
 refine ⟨⟨fun c hc=>⟨by have:=(h1 c hc).1;omega,by have:=(h1 c hc).2;omega⟩,by omega⟩,fun hn=> ?_,fun hz=> ?_⟩
 · rw [Zgl hn];exact ⟨rfl,rfl⟩
 · obtain ⟨c1,c2,c3,c4,c5,c6⟩:=(Wm t).1 hz
   have hw:wr IntKind.i64 (t.for_-1)=t.for_-1:=wr64 (by omega) (by omega)
   rw [hw]
   refine ⟨by omega,by rw [L];omega,fun x hx=> ?_⟩
   have hall:=Zg7 c6
   have hm:∀c∈t.clauses,c.pay.sz<=10000/\c.when_.length<=8:=fun c hc=>⟨(h1 c hc).1,(hall c hc).2⟩
   have hlen:∀k,(txCs (t.clauses.take k)).length<=80052*64:=fun k=>by
    have a:=Zoq (cs:=t.clauses.take k) (m:=10000) (fun c hc=>hm c (List.mem_of_mem_take hc))
    have b:(t.clauses.take k).length<=64:=by rw [List.length_take];omega
    have e:(8*10000+52)*(t.clauses.take k).length<=(8*10000+52)*64:=Nat.mul_le_mul_left _ b
    omega
   have hx5:WK.ki.words.getD (t.for_-1).toNat []=x:=by rw [List.getD_eq_getElem?_getD,hx];rfl
   refine ⟨fun y=>y.k<=t.clauses.length/\y.fz=0/\y.L= [[116,97,114,105,102,102],t.name,[102,111,114],x,[123]]++txCs (t.clauses.take y.k)/\y.r=t.clauses.length-y.k,⟨⟨0,t.clauses.length,[[116,97,114,105,102,102],t.name,[102,111,114],x,[123]],0⟩,⟨(by dsimp only;omega),rfl,by simp [txCs],rfl⟩,rfl,rfl,rfl,rfl⟩,?_⟩
   rintro ⟨k,r,Lx,fx⟩ ⟨k1,k2,k3,k4⟩
   simp only at k1 k2 k3 k4⊢
   subst k2 k4
   have hL:Lx.length=5+(txCs (t.clauses.take k)).length:=by rw [k3];simp;omega
   have hlk:=hlen k
   refine And.intro (fun hq=>⟨by omega,by omega,fun c hc=> ?_⟩) (fun hq=> ?_)
   · have hc:t.clauses[k]? =some c:=hc
     have hq:k<t.clauses.length:=by omega
     have hcm:=List.mem_of_getElem? hc
     have b1:=hm c hcm
     have b2:=hall c hcm
     have e:Lx++txC c= [[116,97,114,105,102,102],t.name,[102,111,114],x,[123]]++txCs (t.clauses.take (k+1)):=by
      have ek:t.clauses.take (k+1)=t.clauses.take k++ [c]:=by rw [List.take_add_one,hc];rfl
      rw [k3,ek,Zi8,List.append_assoc]
     refine ⟨⟨by omega,b2.1,by omega,by omega,by omega⟩,⟨k+1,t.clauses.length-(k+1),Lx++txC c,0⟩,⟨hq,rfl,e,rfl⟩,(by dsimp only;omega),(wr64 (by omega) (by omega)).trans (by dsimp only;omega),rfl,rfl,rfl⟩
   · have ek:k=t.clauses.length:=by omega
     have e:Lx++ [[125]]=Uu t:=by
      rw [k3,ek,List.take_length]
      unfold Uu
      rw [hx5]
      simp [Zfd,sFor,sLb,sRb]
     have e1:List.take (Lx.length+1) (List.drop 0 (Lx++ [[125]]))=Uu t:=by
      rw [List.drop_zero,List.take_of_length_le (by simp),e]
     rw [e1]
     have e2:(Uu t).length=Lx.length+1:=by rw [<-e];simp
     have hj:=Zdu (ws:=Uu t) (m:=32) (fun w hw=>(Zpl hz w hw).len)
     unfold Wo
     rw [if_neg (by rw [hz];simp)]
     refine ⟨⟨Nat.le_refl _,by omega,by omega⟩,by rw [List.length_append];simp,⟨by omega,by omega⟩,fun h=> ?_,fun h=> ?_⟩
     · rw [if_pos (by omega)];exact ⟨rfl,rfl⟩
     · rw [if_neg (by omega)];exact ⟨rfl,rfl⟩
end
section
open Go
mutual
def szW:Int->Ex->Int
 |n,.mk _ _ _ _ _ _ l=>if n>60\/(l.length:Int)>400 then 401 else szWL (n+1) 1 l
def szWL:Int->Int->List Ex->Int
 |_,a,[]=>a
 |n,a,x::r=>if a<=400 then szWL n (a+szW n x) r else a
end
theorem Z3l (n:Int) (x:Ex):szW n x=if n>60\/(x.l.length:Int)>400 then 401 else szWL (n+1) 1 x.l:=by cases x;rw [szW];rfl
noncomputable def Sszw (m:Nat):Sum thy:=Vv Z9y (fun x=>62<=x.2.1+m/\1<=x.2.1/\x.2.1<=61) (fun x=>szW x.2.1 x.1) fun y=> .int false .i64 y
noncomputable def Aszw:Fr thy->Hp thy->Nat->Ann thy:=fun T h i=>{X:=DX,fr:=fun x=> [(1,T 1),(2,T 2),(5,.int false .i64 x.j),(6,.int false .i64 x.k)],bl:=fun x=>blkP h (T 2),src:=fun _=> [],md:= [],ih:=i,M:=i+30,meas:=fun x=>x.r}
noncomputable def Fszw (m:Nat):Fns thy:=addL (addS F0 20 (Sszw m)) 20 5 Aszw E
abbrev qCN1 (a0:Ex):=(Ex.op a0=Ex.op a0/\Ex.n a0=Ex.n a0/\Ex.d0 a0=Ex.d0 a0/\Ex.d1 a0=Ex.d1 a0/\Ex.d2 a0=Ex.d2 a0/\Ex.d3 a0=Ex.d3 a0/\(Ex.l a0=Ex.l a0/\(false=true->false=true))/\True)
abbrev qCN2 (a0:Ex):=(↑(List.length (Ex.l a0)):Int)
abbrev qCN3 (a0:DX):=(↑(DX.k a0):Int)
theorem Z1y (m:Nat) (x:Ex) (n:Int) (v:Int):Zl E F0 (vc E (Fszw m) 400) 20 [exA x,.int false .i64 n] hp0 0 (fun r=>ret E (patch hp0 0 r) r.v (.int false .i64 v))=(
 ∃(Q:Bool->Prop),((decide (n>(60:Int))=true->Q true)/\(decide (n>(60:Int))=false->(decide ((qCN2 x)>(400:Int))=true->Q true)/\(decide ((qCN2 x)>(400:Int))=false->Q false)))/\(Q true->(401:Int)=v)/\(Q false->∃(R:DX->Prop),(∃(x_1:DX),R x_1/\true=true/\(n=n/\(0:Nat)=(0:Nat)/\(1:Int)=DX.j x_1/\(0:Int)=(qCN3 x_1)/\True)/\(qCN1 x)/\True)/\∀(x_1:DX),R x_1->∃(Q:Bool->Prop),((decide ((qCN3 x_1)<(qCN2 x))=true->(decide (DX.j x_1<=(400:Int))=true->Q true)/\(decide (DX.j x_1<=(400:Int))=false->Q false))/\(decide ((qCN3 x_1)<(qCN2 x))=false->Q false))/\(Q true->(0:Int)<=(qCN3 x_1)/\(qCN3 x_1)+(1:Int)<=(qCN2 x)/\∀(x_2:Ex),(Ex.l x)[Int.toNat (qCN3 x_1)]? =some x_2->((62:Int)<=wr IntKind.i64 (n+(1:Int))+(↑m:Int)/\(1:Int)<=wr IntKind.i64 (n+(1:Int))/\wr IntKind.i64 (n+(1:Int))<=(61:Int))/\∀(y:Int),y=szW (wr IntKind.i64 (n+(1:Int))) (Ex.mk (Ex.op x_2) (Ex.n x_2) (Ex.d0 x_2) (Ex.d1 x_2) (Ex.d2 x_2) (Ex.d3 x_2) (Ex.l x_2))->∃(x_3:DX),R x_3/\x_3.2+(1:Nat)<=x_1.2/\true=true/\(n=n/\(0:Nat)=(0:Nat)/\wr IntKind.i64 (DX.j x_1+y)=DX.j x_3/\wr IntKind.i64 ((qCN3 x_1)+(1:Int))=(qCN3 x_3)/\True)/\(qCN1 x)/\True)/\(Q false->DX.j x_1=v))):=by kernel_rfl
noncomputable def Afw:Fr thy->Hp thy->Nat->Ann thy:=fun T h i=>{X:=DX,fr:=fun x=> [(1,T 1),(3,.int false .i64 x.j),(4,.int false .i64 x.k)],bl:=fun x=>blkP h (T 1),src:=fun _=> [],md:= [],ih:=i,M:=i+40,meas:=fun x=>x.r}
noncomputable def Ffw:Fns thy:=addL (addS F0 20 (Sszw 61)) 14 5 Afw E
abbrev qCN4 (a0:Tar):=(↑(List.length (Tar.clauses a0)):Int)
abbrev qCN5 (a0:DX):=(↑(DX.k a0):Int)
abbrev qCN6 (a0:Tar):=(Tar.name a0=Tar.name a0/\Tar.for_ a0=Tar.for_ a0/\(Tar.clauses a0=Tar.clauses a0/\(false=true->false=true))/\True)
theorem Z6u (t:Tar) (v:Bool):Zl E Ffw (vc E Ffw 400) 14 [.agg (encF false .tariffs t)] hp0 0 (fun r=>ret E (patch hp0 0 r) r.v (.bool false v))=(
 (decide ((qCN4 t)>(80:Int))=true->false=v)/\(decide ((qCN4 t)>(80:Int))=false->∃(R:DX->Prop),(∃(x:DX),R x/\true=true/\((0:Nat)=(0:Nat)/\(0:Int)=DX.j x/\(0:Int)=(qCN5 x)/\True)/\(qCN6 t)/\True)/\∀(x:DX),R x->(decide ((qCN5 x)<(qCN4 t))=true->(0:Int)<=(qCN5 x)/\(qCN5 x)+(1:Int)<=(qCN4 t)/\∀(x_1:Cls),(Tar.clauses t)[Int.toNat (qCN5 x)]? =some x_1->(decide ((↑(List.length (Cls.when_ x_1)):Int)>(400:Int))=true->false=v)/\(decide ((↑(List.length (Cls.when_ x_1)):Int)>(400:Int))=false->(0:Int)<=(qCN5 x)/\(qCN5 x)+(1:Int)<=(qCN4 t)/\∀(x_2:Cls),(Tar.clauses t)[Int.toNat (qCN5 x)]? =some x_2->(0:Int)<=(qCN5 x)/\(qCN5 x)+(1:Int)<=(qCN4 t)/\∀(x_3:Cls),(Tar.clauses t)[Int.toNat (qCN5 x)]? =some x_3->((62:Int)<=(1:Int)+(↑(61:Nat):Int)/\(1:Int)<=(1:Int)/\(1:Int)<=(61:Int))/\∀(y:Int),y=szW (1:Int) (Ex.mk (Ex.op (Cls.pay x_3)) (Ex.n (Cls.pay x_3)) (Ex.d0 (Cls.pay x_3)) (Ex.d1 (Cls.pay x_3)) (Ex.d2 (Cls.pay x_3)) (Ex.d3 (Cls.pay x_3)) (Ex.l (Cls.pay x_3)))->∃(x_4:DX),R x_4/\x_4.2+(1:Nat)<=x.2/\true=true/\((0:Nat)=(0:Nat)/\wr IntKind.i64 (wr IntKind.i64 (DX.j x+(↑(List.length (Cls.when_ x_2)):Int))+y)=DX.j x_4/\wr IntKind.i64 ((qCN5 x)+(1:Int))=(qCN5 x_4)/\True)/\(qCN6 t)/\True))/\(decide ((qCN5 x)<(qCN4 t))=false->(decide (DX.j x<=(400:Int))=true->true=v)/\(decide (DX.j x<=(400:Int))=false->false=v)))):=by kernel_rfl
structure TtX where
 k:Nat
 r:Nat
 L:List (List Nat)
def Atx:Fr thy->Hp thy->Nat->Ann thy:=fun T h i=>{X:=TtX,fr:=fun x=> [(3,T 3),(9,T 9),(10,T 10),(11,.int false .i64 x.k)],bl:=fun x=> [(bOf (T 3),.rows Th.strs x.L 0)],src:=fun _=> [],md:= [bOf (T 3)],ih:=i,M:=i+30,meas:=fun x=>x.r}
noncomputable def Ftx:Fns thy:=addL (addS F0 44 Z3p) 27 3 Atx E
abbrev qCN7 (a0:List Tok):=(↑(List.length a0):Int)
abbrev qCN8 (a0:TtX):=(↑(TtX.k a0):Int)
abbrev qCN9:=(0:Nat)
abbrev qCNa (a0:List Tok):=(qCN9=qCN9/\Int.toNat (qCN7 a0)=Int.toNat (qCN7 a0)/\Int.toNat (qCN7 a0)=Int.toNat (qCN7 a0))
abbrev qCNb (a0:List Tok) (b0:TtX):=(List.take (Int.toNat (qCN7 a0)) (List.drop qCN9 (TtX.L b0)))
theorem Z6v (l:List Tok) (v:List Nat):Zl E Ftx (vc E Ftx 400) 27 [.psl Th.toks l false] hp0 0 (fun r=>ret E (patch hp0 0 r) r.v (.str false v))=(
 (0:Int)<=(qCN7 l)/\(qCN7 l)<=(qCN7 l)/\(↑(16:Nat):Int)*(qCN7 l)<=(281474976710656:Int)/\∃(R:TtX->Prop),(∃(x:TtX),R x/\true=true/\((qCNa l)/\(l=l/\(false=true->false=true))/\(qCN7 l)=(qCN7 l)/\(0:Int)=(qCN8 x)/\True)/\(List.replicate (Int.toNat (qCN7 l)) (toL (ByteArray.mk #[]))=TtX.L x/\qCN9=qCN9)/\True)/\∀(x:TtX),R x->(decide ((qCN8 x)<(qCN7 l))=true->(0:Int)<=(qCN8 x)/\(qCN8 x)+(1:Int)<=(qCN7 l)/\∀(x_1:Tok),l[Int.toNat (qCN8 x)]? =some x_1->((0:Int)<=(qCN8 x)/\(qCN8 x)+(1:Int)<=(↑(Int.toNat (qCN7 l)):Int))/\qCN9<=qCN9+Int.toNat (qCN8 x)/\qCN9+Int.toNat (qCN8 x)+(1:Nat)<=List.length (TtX.L x)/\∀(x_2:List Nat),(TtX.L x)[qCN9+Int.toNat (qCN8 x)]? =some x_2->∃(x_3:TtX),R x_3/\x_3.2+(1:Nat)<=x.2/\true=true/\((qCNa l)/\(l=l/\(false=true->false=true))/\(qCN7 l)=(qCN7 l)/\wr IntKind.i64 ((qCN8 x)+(1:Int))=(qCN8 x_3)/\True)/\(List.set (TtX.L x) (qCN9+Int.toNat (qCN8 x)) (Tok.text x_1)=TtX.L x_3/\qCN9=qCN9)/\True)/\(decide ((qCN8 x)<(qCN7 l))=false->qCN9+Int.toNat (qCN7 l)<=List.length (TtX.L x)/\(([(32:Nat)]= [(32:Nat)]/\List.length (qCNb l x)<=(1000000000:Nat))/\List.length (Yd (qCNb l x))<=(1000000000:Nat))/\∀(y:List Nat),y=Yd (qCNb l x)->y=v)):=by kernel_rfl
mutual
theorem Zft:∀(n:Int) (x:Ex),1<=szW n x
 |n,.mk _ _ _ _ _ _ l=>by
  rw [szW]
  split
  · decide
  · exact Zol (n+1) 1 l
theorem Zol:∀(n a:Int) (l:List Ex),a<=szWL n a l
 |n,a,[]=>by rw [szWL];omega
 |n,a,x::r=>by
  rw [szWL]
  split
  · have:=Zft n x
    have:=Zol n (a+szW n x) r
    omega
  · omega
end
mutual
theorem Zom:∀(n:Int) (x:Ex),n<=61->szW n x<=401+400*(61-n)
 |n,.mk _ _ _ _ _ _ l,hn=>by
  rw [szW]
  split
  · omega
  · have:=Zqt (n+1) 1 l (by omega) (by omega)
    omega
theorem Zqt:∀(n a:Int) (l:List Ex),n<=61->a<=801+400*(61-n)->szWL n a l<=801+400*(61-n)
 |n,a,[],_,h=>by rw [szWL];omega
 |n,a,x::r,hn,h=>by
  rw [szWL]
  split
  · have:=Zom n x hn
    exact Zqt n (a+szW n x) r hn (by omega)
  · omega
end
mutual
theorem Z3m:∀(n:Int) (x:Ex),szW n x<=400->szW n x=(x.sz:Int)
 |n,.mk _ _ _ _ _ _ l,h=>by
  rw [szW] at h⊢
  split at h
  · omega
  · rename_i hq
    rw [if_neg hq,Zyb (n+1) 1 l (by decide) h,Ex.sz]
    omega
theorem Zyb:∀(n a:Int) (l:List Ex),0<=a->szWL n a l<=400->szWL n a l=a+(Ex.szL l:Int)
 |n,a,[],_,_=>by rw [szWL,Ex.szL];omega
 |n,a,x::r,ha,h=>by
  rw [szWL] at h⊢
  split at h
  · rename_i hq
    have h1:=Zft n x
    have h2:=Zol n (a+szW n x) r
    have h3:=Z3m n x (by omega)
    rw [if_pos hq,Zyb n (a+szW n x) r (by omega) h,Ex.szL]
    omega
  · rename_i hq
    omega
end
theorem Zll {n a:Int} {l:List Ex} {k:Nat} {y:Ex} (h:l[k]? =some y):szWL n a (l.drop k)=if a<=400 then szWL n (a+szW n y) (l.drop (k+1)) else a:=by rw [Vr h,szWL]
theorem Z6w:∀(m:Nat) (n:Int) (x:Ex),62<=n+m->1<=n->n<=61->PureC E 20 [exA x,.int false .i64 n] (.int false .i64 (szW n x)):=by
 intro m
 induction m with
 |zero=>intro n x h;omega
 |succ m ih=>
  intro n x hm h1 h61
  have hF:FnsOk E (Fszw m):=Zw E_ok (Zb F0_ok (Z9 E_ok (Zc (f:=20) rfl) fun x h=>ih x.2.1 x.1 h.1 h.2.1 h.2.2)) _ _ _
  refine Za E_ok (Xw E_ok F0_ok fun f N c=>(Zic E_ok hF 400 f N c).1) ?_
  rw [Z1y];delta qCN1 qCN2 qCN3
  simp only [Yb,Zy,Xx,Xy,Xz,beq_iff_eq,bne_iff_ne,beq_eq_false_iff_ne,bne_eq_false_iff_eq,decide_eq_true_eq,decide_eq_false_iff_not,Bool.or_eq_true,Bool.or_eq_false_iff,Bool.not_eq_true',Bool.not_eq_false',Bool.and_eq_true,Bool.and_true,Bool.true_and,Bool.and_eq_false_iff,beq_self_eq_true,Yv,Yn,ne_eq,and_true,true_and,Bool.true_eq_false,Bool.false_eq_true,false_or,or_false,true_implies,imp_self,Int.ofNat_eq_natCast,not_true_eq_false,not_false_eq_true,Decidable.not_not,Ex.eta,forall_eq]
  by_cases h:n>60\/(x.l.length:Int)>400
  · exact ⟨fun b=>b=true,⟨fun _=>rfl,fun h1=>⟨fun _=>rfl,fun h2=>absurd h (by omega)⟩⟩,fun _=>by rw [Z3l,if_pos h],fun h=>by simp at h⟩
  · refine ⟨fun b=>b=false,⟨fun h1=>absurd h (by omega),fun _=>⟨fun h2=>absurd h (by omega),fun _=>rfl⟩⟩,fun h=>by simp at h,fun _=> ?_⟩
    rw [Z3l,if_neg h]
    refine ⟨fun y=>y.k<=x.l.length/\1<=y.j/\y.j<=801+400*(60-n)/\szWL (n+1) y.j (x.l.drop y.k)=szWL (n+1) 1 x.l/\y.r=x.l.length-y.k,⟨⟨0,x.l.length,[],[],0,0,0,1⟩,⟨(by dsimp only;omega),(by dsimp only;omega),(by dsimp only;omega),rfl,rfl⟩,rfl,rfl⟩,?_⟩
    rintro ⟨k,r,D,H,nn,mm,fz,j⟩ ⟨k1,k2,k3,k4,k5⟩
    simp only at k1 k2 k3 k4 k5⊢
    have hw:wr IntKind.i64 (n+1)=n+1:=wr64 (by omega) (by omega)
    rw [hw]
    refine ⟨fun b=>b=true↔(k<x.l.length/\j<=400),⟨fun h3=>⟨fun h4=>by simp;omega,fun h4=>by simp;omega⟩,fun h3=>by simp;omega⟩,fun hq=> ?_,fun hq=> ?_⟩
    · have hq:=hq.1 rfl
      refine ⟨by omega,by omega,fun z hz=> ?_⟩
      have hz:x.l[k]? =some z:=hz
      have b1:=Zft (n+1) z
      have b2:=Zom (n+1) z (by omega)
      rw [Zll hz,if_pos hq.2] at k4
      refine ⟨⟨by omega,by omega,by omega⟩,⟨k+1,x.l.length-(k+1),[],[],0,0,0,j+szW (n+1) z⟩,⟨(by dsimp only;omega),(by dsimp only;omega),(by dsimp only;omega),k4,rfl⟩,(by dsimp only;omega),wr64 (by omega) (by omega),(wr64 (by omega) (by omega)).trans (by dsimp only;omega)⟩
    · have hq:¬(k<x.l.length/\j<=400):=fun h=>by have:=hq.2 h;simp at this
      rcases Nat.lt_or_ge k x.l.length with hk|hk
      · rw [Zll (List.getElem?_eq_getElem hk),if_neg (by omega)] at k4
        exact k4
      · rw [Wx hk,szWL] at k4
        exact k4
def Zfu:Int->List Cls->Bool
 |a,[]=>decide (a<=400)
 |a,c::r=>if (c.when_.length:Int)>400 then false else Zfu (a+c.when_.length+szW 1 c.pay) r
def fewT (t:Tar):Bool:=if (t.clauses.length:Int)>80 then false else Zfu 0 t.clauses
theorem Zth {a:Int} {l:List Cls} {k:Nat} {c:Cls} (h:l[k]? =some c):Zfu a (l.drop k)=if (c.when_.length:Int)>400 then false else Zfu (a+c.when_.length+szW 1 c.pay) (l.drop (k+1)):=by rw [Vr h,Zfu]
theorem Zqu:∀{l:List Cls} {a:Int},0<=a->Zfu a l=true->a<=400/\∀c∈l,c.pay.sz<=400/\c.when_.length<=400
 | [],a,_,h=>by simpa [Zfu] using h
 |c::r,a,ha,h=>by
  rw [Zfu] at h
  split at h
  · cases h
  · have p:=Zft 1 c.pay
    obtain ⟨h1,h2⟩:=Zqu (by omega) h
    have h3:=Z3m 1 c.pay (by omega)
    refine ⟨by omega,fun x hx=> ?_⟩
    rcases List.mem_cons.1 hx with rfl|hx
    · exact ⟨by omega,by omega⟩
    · exact h2 x hx
theorem Z6x {t:Tar} (h:fewT t=true):(∀c∈t.clauses,c.pay.sz<=400/\c.when_.length<=400)/\t.clauses.length<=80:=by
 unfold fewT at h
 split at h
 · cases h
 · exact ⟨(Zqu (by decide) h).2,by omega⟩
theorem Ybw {t:Tar} (h:fewT t=true):SmT t:=by
 obtain ⟨h1,h2⟩:=Z6x h
 exact ⟨fun c hc=>⟨by have:=(h1 c hc).1;omega,by have:=(h1 c hc).2;omega⟩,by omega⟩
theorem SmT.one {t:Tar} (h:SmT t):SmT1 t:=⟨fun c hc=>⟨by have:=(h.1 c hc).1;omega,(h.1 c hc).2⟩,h.2⟩
theorem Z6y (t:Tar):PureC E 14 [.agg (encF false .tariffs t)] (.bool false (fewT t)):=by
 have hF:FnsOk E Ffw:=Zw E_ok (Zb F0_ok (Z9 E_ok (Zc (f:=20) rfl) fun x h=>Z6w 61 x.2.1 x.1 h.1 h.2.1 h.2.2)) _ _ _
 refine Za E_ok (Zg E_ok hF 400) ?_
 rw [Z6u];delta qCN4 qCN5 qCN6
 simp only [Yb,Zy,Xx,Xy,Xz,beq_iff_eq,bne_iff_ne,beq_eq_false_iff_ne,bne_eq_false_iff_eq,decide_eq_true_eq,decide_eq_false_iff_not,Bool.or_eq_true,Bool.or_eq_false_iff,Bool.not_eq_true',Bool.not_eq_false',Bool.and_eq_true,Bool.and_true,Bool.true_and,Bool.and_eq_false_iff,beq_self_eq_true,Yv,Yn,ne_eq,and_true,true_and,Bool.true_eq_false,Bool.false_eq_true,false_or,or_false,true_implies,imp_self,Int.ofNat_eq_natCast,not_true_eq_false,not_false_eq_true,Decidable.not_not,Ex.eta,forall_eq]
 unfold fewT
 refine ⟨fun h=>by rw [if_pos h],fun h=> ?_⟩
 rw [if_neg h]
 refine ⟨fun y=>y.k<=t.clauses.length/\0<=y.j/\y.j<=30000*y.k/\Zfu y.j (t.clauses.drop y.k)=Zfu 0 t.clauses/\y.r=t.clauses.length-y.k,⟨⟨0,t.clauses.length,[],[],0,0,0,0⟩,⟨(by dsimp only;omega),(by dsimp only;omega),(by dsimp only;omega),rfl,rfl⟩,rfl,rfl⟩,?_⟩
 rintro ⟨k,r,D,H,nn,mm,fz,j⟩ ⟨k1,k2,k3,k4,k5⟩
 simp only at k1 k2 k3 k4 k5⊢
 refine And.intro (fun hq=>⟨by omega,by omega,fun c hc=> ?_⟩) (fun hq=> ?_)
 · have hc:t.clauses[k]? =some c:=hc
   rw [Zth hc] at k4
   refine ⟨fun h2=> ?_,fun h2=>⟨by omega,by omega,fun c2 hc2=> ?_⟩⟩
   · rw [if_pos h2] at k4;exact k4
   · have hc2:t.clauses[k]? =some c2:=hc2
     rw [hc] at hc2;cases hc2
     refine ⟨by omega,by omega,fun c3 hc3=> ?_⟩
     have hc3:t.clauses[k]? =some c3:=hc3
     rw [hc] at hc3;cases hc3
     have b1:=Zft 1 c.pay
     have b2:=Zom 1 c.pay (by decide)
     rw [if_neg h2] at k4
     rw [wr64 (n:=j+(c.when_.length:Int)) (by omega) (by omega)]
     exact ⟨⟨by decide,by decide,by decide⟩,⟨k+1,t.clauses.length-(k+1),[],[],0,0,0,j+c.when_.length+szW 1 c.pay⟩,⟨(by dsimp only;omega),(by dsimp only;omega),(by dsimp only;omega),k4,rfl⟩,(by dsimp only;omega),wr64 (by omega) (by omega),(wr64 (by omega) (by omega)).trans (by dsimp only;omega)⟩
 · rw [Wx (by omega),Zfu] at k4
   rw [<-k4]
   exact ⟨fun h=>by simpa using h,fun h=>by simpa using h⟩
theorem Z6z (l:List Tok) (h1:l.length<=1000000000) (h2:(Yd (l.map Tok.text)).length<=1000000000):PureC E 27 [.psl Th.toks l false] (.str false (Yd (l.map Tok.text))):=by
 have hF:FnsOk E Ftx:=Zw E_ok (Zb F0_ok Zor) _ _ _
 refine Za E_ok (Zg E_ok hF 400) ?_
 rw [Z6v];delta qCN7 qCN8 qCN9 qCNa qCNb
 simp only [Yb,Zy,Xx,Xy,Xz,beq_iff_eq,bne_iff_ne,beq_eq_false_iff_ne,bne_eq_false_iff_eq,decide_eq_true_eq,decide_eq_false_iff_not,Bool.or_eq_true,Bool.or_eq_false_iff,Bool.not_eq_true',Bool.not_eq_false',Bool.and_eq_true,Bool.and_true,Bool.true_and,Bool.and_eq_false_iff,beq_self_eq_true,Yv,Yn,ne_eq,and_true,true_and,Bool.true_eq_false,Bool.false_eq_true,false_or,or_false,true_implies,imp_self,Int.ofNat_eq_natCast,not_true_eq_false,not_false_eq_true,Decidable.not_not,Int.toNat_natCast,Nat.zero_add,List.drop_zero,forall_eq]
 refine ⟨by omega,by omega,by omega,fun y=>y.k<=l.length/\y.L=(l.take y.k).map Tok.text++List.replicate (l.length-y.k) []/\y.r=l.length-y.k,⟨⟨0,l.length,List.replicate l.length []⟩,⟨(by dsimp only;omega),rfl,rfl⟩,rfl,rfl⟩,?_⟩
 rintro ⟨k,r,L⟩ ⟨k1,k2,k3⟩
 simp only at k1 k2 k3⊢
 have hL:L.length=l.length:=by rw [k2];simp;omega
 refine And.intro (fun hq=>⟨by omega,by omega,fun z hz=>⟨⟨by omega,by omega⟩,by omega,by omega,fun y hy=> ?_⟩⟩) (fun hq=> ?_)
 · have hq:k<l.length:=by omega
   have hz:l[k]? =some z:=hz
   refine ⟨⟨k+1,l.length-(k+1),L.set k z.text⟩,⟨hq,?_,rfl⟩,(by dsimp only;omega),(wr64 (by omega) (by omega)).trans (by dsimp only;omega),rfl⟩
   have e1:((l.take k).map Tok.text).length=k:=by simp;omega
   have e2:l.length-k=(l.length-(k+1))+1:=by omega
   show L.set k z.text=(l.take (k+1)).map Tok.text++List.replicate (l.length-(k+1)) []
   rw [k2,List.take_add_one,hz,e2,List.replicate_succ,List.set_append_right _ _ (by omega),e1,Nat.sub_self]
   simp
 · have ek:k=l.length:=by omega
   have e:L=l.map Tok.text:=by rw [k2,ek];simp
   rw [List.take_of_length_le (by omega),e]
   refine ⟨by rw [List.length_map];exact Nat.le_refl _,⟨by rw [List.length_map];exact h1,h2⟩,rfl⟩
end
section
open Go
noncomputable def Z4h:DcL E (Tar×Unit):= .cons (dR .tariffs) .nil
noncomputable def Yay:DcL E (Tar×Tar×Unit):= .cons (dR .tariffs) (.cons (dR .tariffs) .nil)
def Z7z:List (SV thy)->Option (SV thy)
 | []=>some (.bool true true)
 |_=>none
noncomputable def Z70:Sum thy:=sumO Z7z
noncomputable def Sfew:Sum thy:=Zti E (fun _=>none) 10 Z4h (fun _=>True) (fun x=>fewT x.1) fun y=> .bool false y
noncomputable def Srs:Sum thy:=Zti E (fun _=>none) 10 Yay (fun x=>SmT1 x.1) (fun x=>eqE x.1 x.2.1) fun y=> .bool false y
noncomputable def Z71:Sum thy:=Vv (dA1 dS) (fun _=>True) (fun x=>Ya x.1) fun y=>parV false y
noncomputable def Z72:Sum thy:=Zti E (fun _=>none) 10 Z4h (fun x=>SmT x.1) (fun x=>Wo x.1) fun y=> .tup [.str false y.1,.int false .i64 y.2]
noncomputable def Schk:Sum thy:=Zti E (fun _=>none) 10 Z4h (fun x=>SmT x.1) (fun x=>Yt x.1) fun y=> .int false .i64 y
noncomputable def Yaz:Sum thy:=Vv (dA1 Z95) (fun x=>x.1.length<=1000000000/\(Yd (x.1.map Tok.text)).length<=1000000000) (fun x=>Yd (x.1.map Tok.text)) fun y=> .str false y
theorem SmT.chk {t:Tar} (h:SmT t):PureC E 17 [.agg (encF false .tariffs t)] (.int false .i64 (Yt t)):=
 Zgc t (fun c hc=>⟨by have:=(h.1 c hc).1;omega,by have:=(h.1 c hc).2;omega⟩) (by have:=h.2;omega)
noncomputable def Flw:Fns thy:=Zw9 (addS (addS (addS (addS (addS (addS (addS (addS (addS F0 10 Z70) 14 Sfew) 13 Srs) 19 Srs) 11 Z71) 15 Z72) 17 Schk) 25 Zm5) 27 Yaz)
theorem Zy9:SumOk E 10 Z70:=Zeh E_ok (Zc rfl) fun args v h=>by
 unfold Z7z at h
 split at h
 · cases h;exact Zxc
 · cases h
theorem Z2k:FnsOk E Flw:=Zk2 (Zb (Zb (Zb (Zb (Zb (Zb (Zb (Zb (Zb F0_ok Zy9) (Zcc E_ok (Zc rfl) fun x _=>Z6y x.1)) (Zcc E_ok (Zc rfl) fun x h=>Z68 x.1 x.2.1 h)) (Zcc E_ok (Zc rfl) fun x h=>Z13 x.1 x.2.1 h)) (Z9 E_ok (Zc rfl) fun x _=>Zgy x.1)) (Zcc E_ok (Zc rfl) fun x h=>Zq0 x.1 h)) (Zcc E_ok (Zc rfl) fun x h=>SmT.chk h)) Zgx) (Z9 E_ok (Zc rfl) fun x h=>Z6z x.1 h.1 h.2))
abbrev qCO4:=(1000000000:Nat)
abbrev qCO1 (a0:Tar):=((∀(c:Cls),c∈Tar.clauses a0->Ex.sz (Cls.pay c)+(1:Nat)<=qCO4/\List.length (Cls.when_ c)+(1:Nat)<=qCO4)/\List.length (Tar.clauses a0)+(1:Nat)<=qCO4)
abbrev qCO2 (a0:Tar):=((∀(c:Cls),c∈Tar.clauses a0->Ex.sz (Cls.pay c)<=(10000:Nat)/\List.length (Cls.when_ c)+(1:Nat)<=qCO4)/\List.length (Tar.clauses a0)+(1:Nat)<=qCO4)
abbrev qCO3 (a0:List Nat×Int):=(Prod.fst a0==toL (ByteArray.mk #[]))
theorem Z4i (t:Tar) (v:Bool):Zl E Flw (vc E Flw 400) 5 [.agg (encF false .tariffs t)] hp0 0 (fun r=>ret E (patch hp0 0 r) r.v (.bool false v))=(
 True/\∀(y:Bool),y=fewT t->((!y)=true->true=v)/\((!y)=false->(qCO2 t)/\∀(y:Int),y=Yt t->(qCO2 t)/\∀(y_1:List Nat×Int),y_1=Wo t->((y !=(0:Int))=true->((Prod.snd y_1==y)=true->((qCO3 y_1)=true->true=v)/\((qCO3 y_1)=false->false=v))/\((Prod.snd y_1==y)=false->false=v))/\((y !=(0:Int))=false->((Prod.snd y_1 !=(0:Int))=true->((Prod.snd y_1==(2:Int))=true->((qCO3 y_1)=true->true=v)/\((qCO3 y_1)=false->false=v))/\((Prod.snd y_1==(2:Int))=false->false=v))/\((Prod.snd y_1 !=(0:Int))=false->True/\∀(y:Tar×Int×Int),y=Ya (Prod.fst y_1)->((Prod.snd (Prod.snd y)==(0:Int))=true->((Prod.fst (Prod.snd y)==(0:Int))=true->(qCO1 t)/\∀(y_2:Bool),y_2=eqE t (Prod.fst y)->(y_2=true->(qCO1 t)/\∀(y_3:Bool),y_3=eqE t (Prod.fst y)->(y_3=true->(decide ((↑(List.length (Prod.fst y_1)):Int)<=(2000:Int))=true->true=v)/\(decide ((↑(List.length (Prod.fst y_1)):Int)<=(2000:Int))=false->false=v))/\(y_3=false->false=v))/\(y_2=false->false=v))/\((Prod.fst (Prod.snd y)==(0:Int))=false->false=v))/\((Prod.snd (Prod.snd y)==(0:Int))=false->false=v))))):=by kernel_rfl
structure RdX where
 k:Nat
 r:Nat
 b:Bool
noncomputable def Ard:Fr thy->Hp thy->Nat->Ann thy:=fun T h i=>{X:=RdX,fr:=fun x=> [(3,T 3),(4,T 4),(5,T 5),(6,T 6),(9,.bool false x.b),(10,.int false .i64 x.k)],bl:=fun x=>blkP h (T 3),src:=fun _=> [],md:= [],ih:=i,M:=i+30,meas:=fun x=>x.r}
noncomputable def Frd:Fns thy:=addL Flw 8 10 Ard E
abbrev qCOn (a0:Tar×Int×Int):=(Prod.fst a0)
abbrev qCOa (a0:Tar×Int×Int):=(Tar.name (qCOn a0)=Tar.name (qCOn a0)/\Tar.for_ (qCOn a0)=Tar.for_ (qCOn a0)/\(Tar.clauses (qCOn a0)=Tar.clauses (qCOn a0)/\(false=true->false=true))/\True)
abbrev qCOg (a0:Tar×Int×Int):=(Prod.snd a0)
abbrev qCOj:=(0:Int)
abbrev qCOh (a0:List Tok×Int×Int):=(Prod.fst a0=Prod.fst a0/\(false=true->false=true))
abbrev qCOk (a0:RdX):=(↑(RdX.k a0):Int)
abbrev qCOf (a0:Tar×Int×Int) (b0:List Tok×Int×Int) (c0:RdX) (d0:RdX):=((0:Nat)=(0:Nat)/\Prod.fst (qCOg a0)=Prod.fst (qCOg a0)/\Prod.snd (qCOg a0)=Prod.snd (qCOg a0)/\(qCOh b0)/\true=RdX.b c0/\wr IntKind.i64 ((qCOk d0)+(1:Int))=(qCOk c0)/\True)
abbrev qCO8 (a0:RdX) (b0:List Tok×Int×Int) (c0:RdX->Prop) (d0:Tar×Int×Int):=(decide ((qCOk a0)<(↑(List.length (Prod.fst b0)):Int))=true->(RdX.b a0=true->∃(x_1:RdX),c0 x_1/\x_1.2+(1:Nat)<=a0.2/\true=true/\(qCOf d0 b0 x_1 a0)/\(qCOa d0)/\True)/\(RdX.b a0=false->qCOj<=(qCOk a0)/\(qCOk a0)+(1:Int)<=(↑(List.length (Prod.fst b0)):Int)/\∀(x_1:Tok),(Prod.fst b0)[Int.toNat (qCOk a0)]? =some x_1->((Tok.at_ x_1==Prod.fst (qCOg d0))=true->∃(x_2:RdX),c0 x_2/\x_2.2+(1:Nat)<=a0.2/\true=true/\(qCOf d0 b0 x_2 a0)/\(qCOa d0)/\True)/\((Tok.at_ x_1==Prod.fst (qCOg d0))=false->∃(x_2:RdX),c0 x_2/\x_2.2+(1:Nat)<=a0.2/\true=true/\((0:Nat)=(0:Nat)/\Prod.fst (qCOg d0)=Prod.fst (qCOg d0)/\Prod.snd (qCOg d0)=Prod.snd (qCOg d0)/\(qCOh b0)/\false=RdX.b x_2/\wr IntKind.i64 ((qCOk a0)+(1:Int))=(qCOk x_2)/\True)/\(qCOa d0)/\True)))
abbrev qCOi:=(1000000000:Nat)
abbrev qCO9 (a0:Tar×Int×Int):=((∀(c:Cls),c∈Tar.clauses (qCOn a0)->Ex.sz (Cls.pay c)+(1:Nat)<=qCOi/\List.length (Cls.when_ c)+(1:Nat)<=qCOi)/\List.length (Tar.clauses (qCOn a0))+(1:Nat)<=qCOi)
abbrev qCOl (a0:List Nat):=((↑(List.length a0):Int)>(2000:Int))
abbrev qCOm (a0:List Tok×Int×Int):=(List.length (Prod.fst a0)<=qCOi/\List.length (Yd (List.map Tok.text (Prod.fst a0)))<=qCOi)
abbrev qCOb (a0:List Nat×Int) (b0:Tar×Int×Int) (c0:Bool) (d0:Tar×Int×Int) (e0:List Tok×Int×Int):=((Prod.snd a0==qCOj)=true->((Prod.snd (qCOg b0) !=qCOj)=true->false=c0)/\((Prod.snd (qCOg b0) !=qCOj)=false->(qCO9 d0)/\∀(y_5:Bool),y_5=eqE (qCOn d0) (qCOn b0)->((!y_5)=true->false=c0)/\((!y_5)=false->(qCOm e0)/\∀(y_6:List Nat),y_6=Yd (List.map Tok.text (Prod.fst e0))->True/\∀(y_7:Tar×Int×Int),y_7=Ya y_6->(decide (qCOl y_6)=true->true=c0)/\(decide (qCOl y_6)=false->((Prod.snd (qCOg y_7)==qCOj)=true->(qCO9 d0)/\∀(y_8:Bool),y_8=eqE (qCOn d0) (qCOn y_7)->y_8=c0)/\((Prod.snd (qCOg y_7)==qCOj)=false->false=c0)))))
abbrev qCOc (a0:List Nat×Int) (b0:List Tok×Int×Int) (c0:Bool) (d0:Tar×Int×Int):=((Prod.snd a0==qCOj)=false->(qCOm b0)/\∀(y_5:List Nat),y_5=Yd (List.map Tok.text (Prod.fst b0))->True/\∀(y_6:Tar×Int×Int),y_6=Ya y_5->(decide (qCOl y_5)=true->true=c0)/\(decide (qCOl y_5)=false->((Prod.snd (qCOg y_6)==qCOj)=true->(qCO9 d0)/\∀(y_7:Bool),y_7=eqE (qCOn d0) (qCOn y_6)->y_7=c0)/\((Prod.snd (qCOg y_6)==qCOj)=false->false=c0)))
abbrev qCOd (a0:RdX) (b0:List Tok×Int×Int) (c0:Tar×Int×Int) (d0:Bool):=(decide ((qCOk a0)<(↑(List.length (Prod.fst b0)):Int))=false->(RdX.b a0=true->(qCO9 c0)/\∀(y_2:Bool),y_2=eqE (qCOn c0) (Tar.mk [] qCOj [])->(y_2=true->((Prod.snd (qCOg c0)==(160:Int))=true->true=d0)/\((Prod.snd (qCOg c0)==(160:Int))=false->((Prod.snd (qCOg c0)==(161:Int))=true->true=d0)/\((Prod.snd (qCOg c0)==(161:Int))=false->((Prod.snd (qCOg c0)==(2:Int))=true->true=d0)/\((Prod.snd (qCOg c0)==(2:Int))=false->false=d0))))/\(y_2=false->false=d0))/\(RdX.b a0=false->false=d0))
abbrev qCOe (a0:Tar×Int×Int):=((∀(c:Cls),c∈Tar.clauses (qCOn a0)->Ex.sz (Cls.pay c)<=(10000:Nat)/\List.length (Cls.when_ c)+(1:Nat)<=qCOi)/\List.length (Tar.clauses (qCOn a0))+(1:Nat)<=qCOi)
theorem Z4j (s:List Nat) (v:Bool):Zl E Frd (vc E Frd 400) 8 [.str false s] hp0 0 (fun r=>ret E (patch hp0 0 r) r.v (.bool false v))=(
 True/\∀(y:Tar×Int×Int),y=Ya s->True/\∀(y_1:List Tok×Int×Int),y_1=Zk s->((Prod.snd (Prod.snd y_1) !=qCOj)=true->((Prod.snd (qCOg y)==Prod.snd (Prod.snd y_1))=true->((Prod.fst (qCOg y)==Prod.fst (Prod.snd y_1))=true->(qCO9 y)/\∀(y_2:Bool),y_2=eqE (qCOn y) (Tar.mk [] qCOj [])->y_2=v)/\((Prod.fst (qCOg y)==Prod.fst (Prod.snd y_1))=false->false=v))/\((Prod.snd (qCOg y)==Prod.snd (Prod.snd y_1))=false->false=v))/\((Prod.snd (Prod.snd y_1) !=qCOj)=false->((Prod.snd (qCOg y) !=qCOj)=true->((Prod.fst (qCOg y)==(↑(List.length s):Int))=true->∃(R:RdX->Prop),(∃(x:RdX),R x/\true=true/\((0:Nat)=(0:Nat)/\Prod.fst (qCOg y)=Prod.fst (qCOg y)/\Prod.snd (qCOg y)=Prod.snd (qCOg y)/\(qCOh y_1)/\true=RdX.b x/\qCOj=(qCOk x)/\True)/\(qCOa y)/\True)/\∀(x:RdX),R x->(qCO8 x y_1 R y)/\(qCOd x y_1 y v))/\((Prod.fst (qCOg y)==(↑(List.length s):Int))=false->∃(R:RdX->Prop),(∃(x:RdX),R x/\true=true/\((0:Nat)=(0:Nat)/\Prod.fst (qCOg y)=Prod.fst (qCOg y)/\Prod.snd (qCOg y)=Prod.snd (qCOg y)/\(qCOh y_1)/\false=RdX.b x/\qCOj=(qCOk x)/\True)/\(qCOa y)/\True)/\∀(x:RdX),R x->(qCO8 x y_1 R y)/\(qCOd x y_1 y v)))/\((Prod.snd (qCOg y) !=qCOj)=false->(qCOe y)/\∀(y_2:List Nat×Int),y_2=Wo (qCOn y)->(qCOe y)/\∀(y_3:Int),y_3=Yt (qCOn y)->((y_3 !=qCOj)=true->false=v)/\((y_3 !=qCOj)=false->((Prod.fst (qCOg y) !=qCOj)=true->false=v)/\((Prod.fst (qCOg y) !=qCOj)=false->((Prod.snd y_2 !=qCOj)=true->((Prod.snd y_2 !=(2:Int))=true->false=v)/\((Prod.snd y_2 !=(2:Int))=false->True/\∀(y_4:Tar×Int×Int),y_4=Ya (Prod.fst y_2)->(qCOb y_2 y_4 v y y_1)/\(qCOc y_2 y_1 v y)))/\((Prod.snd y_2 !=qCOj)=false->True/\∀(y_4:Tar×Int×Int),y_4=Ya (Prod.fst y_2)->(qCOb y_2 y_4 v y y_1)/\(qCOc y_2 y_1 v y))))))):=by kernel_rfl
theorem Z4k {nm:List Nat} {ts:List Tst} {l:List Tok} {e:Int} {c:Cls} {x:PX} (h:pPay nm ts l e= .ok (c,x)):c.pay.sz<=2*l.length:=by
 unfold pPay at h
 split at h
 · rename_i hw
   have hl:=Zm hw
   split at h
   · cases h
   · rename_i y z hx
     have:=Zje _ _ _ _ hx
     split at h
     · cases h
     · split at h
       · cases h
         show y.sz<=_
         omega
       · cases h
 · cases h
theorem Zrd {bs:List Cls} {l:List Tok} {e:Int} {c:Cls} {x:PX} (h:Z4 bs l e= .ok (c,x)):c.pay.sz<=2*l.length:=by
 unfold Z4 at h
 split at h
 · cases h
 · rename_i nm y hn
   have h1:=Vf hn
   split at h
   · cases h
   · unfold pAft at h
     split at h
     · cases h
     · rename_i ts z hts
       have h2:=Zm6 hts
       have h3:=Z4k h
       have h4:=Zpx (s:= [119,104,101,110]) (l:=y.1)
       omega
theorem Zud {M:Nat}:∀{k:Nat} {cs cs':List Cls} {l:List Tok} {e:Int} {x:PX},(∀c∈cs,c.pay.sz<=2*M)->l.length<=M->pCls k cs l e= .ok (cs',x)->∀c∈cs',c.pay.sz<=2*M
 |0,cs,cs',l,e,x,hc,_,h=>by cases h;exact hc
 |k+1,cs,cs',l,e,x,hc,hl,h=>by
  unfold pCls at h
  split at h
  · rename_i hw
    have hwl:=Zm hw
    split at h
    · cases h
    · split at h
      · cases h
      · rename_i c y hcl
        have h1:=Zrd hcl
        have h2:=Vq hcl
        refine Zud (cs:=cs++ [c]) (fun d hd=> ?_) (by omega) h
        rcases List.mem_append.1 hd with hd|hd
        · exact hc d hd
        · rw [List.mem_singleton.1 hd];omega
  · cases h;exact hc
theorem Z4l {l:List Tok} {e:Int} {t:Tar} {x:PX} (h:pTar l e= .ok (t,x)):∀c∈t.clauses,c.pay.sz<=2*l.length:=by
 unfold pTar at h
 split at h
 · rename_i hw
   have h1:=Zm hw
   split at h
   · cases h
   · rename_i nm y hn
     have h2:=Vf hn
     split at h
     · rename_i hw2
       have h3:=Zm hw2
       split at h
       · cases h
       · rename_i k z hm
         have h4:=Vw hm
         split at h
         · rename_i hw3
           have h5:=Zm hw3
           unfold pEnd at h
           split at h
           · cases h
           · rename_i cs w hcs
             split at h
             · split at h
               · cases h
               · cases h
                 have h6:z.1.length<=y.1.length:=by rw [h4.2.2];simp;omega
                 exact Zud (M:=l.length) (fun c hc=>by cases hc) (by omega) hcs
             · cases h
         · cases h
     · cases h
 · cases h
theorem Zza (s:List Nat):SmT (Ya s).1:=by
 have h0:SmT zT:=by
  refine And.intro (fun c hc=> ?_) ?_
  · cases hc
  · decide
 rcases Zeo s with ⟨_,h⟩|⟨_,er,_,h⟩|⟨_,t,x,h1,h2,h3⟩
 · rw [h];exact h0
 · rw [h];exact h0
 · rw [h3]
   have hl:=Za7 s
   have hc:=(Wm t).1 h2
   have ha:=Zg7 hc.2.2.2.2.2
   have hz:=Z4l h1
   exact ⟨fun c hcc=>⟨by have:=hz c hcc;omega,by have:=(ha c hcc).2;omega⟩,by have:=hc.2.2.2.2.1;show t.clauses.length<_;omega⟩
theorem Ya0 (t:Tar):PureC E 5 [.agg (encF false .tariffs t)] (.bool false true):=by
 refine Za E_ok (Zg E_ok Z2k 400) ?_
 rw [Z4i];delta qCO4 qCO1 qCO2 qCO3
 simp only [Yb,Zy,Xx,Xy,Xz,beq_iff_eq,bne_iff_ne,beq_eq_false_iff_ne,bne_eq_false_iff_eq,decide_eq_true_eq,decide_eq_false_iff_not,Bool.or_eq_true,Bool.or_eq_false_iff,Bool.not_eq_true',Bool.not_eq_false',Bool.and_eq_true,Bool.and_true,Bool.true_and,Bool.and_eq_false_iff,beq_self_eq_true,Yv,Yn,ne_eq,and_true,true_and,Bool.true_eq_false,Bool.false_eq_true,false_or,or_false,true_implies,imp_self,Int.ofNat_eq_natCast,not_true_eq_false,not_false_eq_true,Decidable.not_not,Cls.eta,forall_eq,eqE_iff,eqE_no]
 refine ⟨fun _=>trivial,fun hf=> ?_⟩
 have hs:=Ybw hf
 refine ⟨hs,hs,fun hc=> ?_,fun hc=> ?_⟩
 · rw [Zgl hc]
   exact ⟨fun _=>⟨fun _=>trivial,fun h=>absurd rfl h⟩,fun h=>absurd rfl h⟩
 · rcases Zen hc with ⟨h1,h2,h3⟩|h1
   · rw [h3,Zem hc h2]
     exact ⟨fun h=>absurd h1 h,fun _=>⟨fun _=>⟨fun _=>⟨hs.one,fun _=>⟨hs.one,fun _=>⟨fun _=>trivial,fun h=>absurd (by omega) h⟩,fun h=>absurd rfl h⟩,fun h=>absurd rfl h⟩,fun h=>absurd rfl h⟩,fun h=>absurd rfl h⟩⟩
   · rw [h1]
     exact ⟨fun _=>⟨fun _=>⟨fun _=>trivial,fun h=>absurd rfl h⟩,fun h=>absurd rfl h⟩,fun h=>by cases h⟩
theorem Zo6 {L:List Tok} {a n:Int} {b0:Bool} {G:Prop} (hb0:b0=false->a≠n) (hL:L.length<=2000) (hG:G) (hEx:a=n\/∃t∈L,t.at_=a):
 ∃R:RdX->Prop,(∃x:RdX,R x/\b0=x.b/\(0:Int)=(x.k:Int))/\∀x:RdX,R x->(((x.k:Int)<(L.length:Int))->(x.b=true->∃x1:RdX,R x1/\x1.r+1<=x.r/\true=x1.b/\wr IntKind.i64 ((x.k:Int)+1)=(x1.k:Int))/\(x.b=false->(0:Int)<=(x.k:Int)/\(x.k:Int)+1<=(L.length:Int)/\∀t:Tok,L[Int.toNat (x.k:Int)]? =some t->(t.at_=a->∃x1:RdX,R x1/\x1.r+1<=x.r/\true=x1.b/\wr IntKind.i64 ((x.k:Int)+1)=(x1.k:Int))/\(¬t.at_=a->∃x1:RdX,R x1/\x1.r+1<=x.r/\false=x1.b/\wr IntKind.i64 ((x.k:Int)+1)=(x1.k:Int))))/\(¬(x.k:Int)<(L.length:Int)->(x.b=true->G)/\(x.b=false->False)):=by
 refine ⟨fun x=>x.k<=L.length/\(x.b=false->a≠n/\∀t∈L.take x.k,t.at_≠a)/\x.r=L.length-x.k,⟨⟨0,L.length,b0⟩,⟨(by dsimp only;omega),fun h=>⟨hb0 h,by simp⟩,rfl⟩,rfl,rfl⟩,?_⟩
 rintro ⟨k,r,b⟩ ⟨h1,h2,h3⟩
 simp only at h1 h2 h3⊢
 refine And.intro (fun hk=>⟨fun hb=> ?_,fun hb=>⟨by omega,by omega,fun t ht=>⟨fun he=> ?_,fun he=> ?_⟩⟩⟩) (fun hk=>⟨fun _=>hG,fun hb=> ?_⟩)
 · exact ⟨⟨k+1,L.length-(k+1),true⟩,⟨(by dsimp only;omega),fun h=>(by cases h),rfl⟩,(by dsimp only;omega),rfl,(wr64 (by omega) (by omega)).trans (by dsimp only;omega)⟩
 · exact ⟨⟨k+1,L.length-(k+1),true⟩,⟨(by dsimp only;omega),fun h=>(by cases h),rfl⟩,(by dsimp only;omega),rfl,(wr64 (by omega) (by omega)).trans (by dsimp only;omega)⟩
 · have ht:L[k]? =some t:=ht
   refine ⟨⟨k+1,L.length-(k+1),false⟩,⟨(by dsimp only;omega),fun _=>⟨(h2 hb).1,fun u hu=> ?_⟩,rfl⟩,(by dsimp only;omega),rfl,(wr64 (by omega) (by omega)).trans (by dsimp only;omega)⟩
   rw [List.take_add_one,ht] at hu
   rcases List.mem_append.1 hu with hu|hu
   · exact (h2 hb).2 u hu
   · simp at hu;rw [hu];exact he
 · obtain ⟨g1,g2⟩:=h2 hb
   rw [List.take_of_length_le (by omega)] at g2
   rcases hEx with h|⟨t,ht,h⟩
   · exact g1 h
   · exact g2 t ht h
theorem Z4m (s:List Nat):PureC E 8 [.str false s] (.bool false true):=by
 have hF:FnsOk E Frd:=Zw E_ok Z2k _ _ _
 refine Za E_ok (Zg E_ok hF 400) ?_
 rw [Z4j];delta qCOn qCOa qCOg qCOj qCOh qCOk qCOf qCO8 qCOi qCO9 qCOl qCOm qCOb qCOc qCOd qCOe
 simp only [Yb,Zy,Xx,Xy,Xz,beq_iff_eq,bne_iff_ne,beq_eq_false_iff_ne,bne_eq_false_iff_eq,decide_eq_true_eq,decide_eq_false_iff_not,Bool.or_eq_true,Bool.or_eq_false_iff,Bool.not_eq_true',Bool.not_eq_false',Bool.and_eq_true,Bool.and_true,Bool.true_and,Bool.and_eq_false_iff,beq_self_eq_true,Yv,Yn,ne_eq,and_true,true_and,Bool.true_eq_false,Bool.false_eq_true,false_or,or_false,true_implies,imp_self,Int.ofNat_eq_natCast,not_true_eq_false,not_false_eq_true,Decidable.not_not,Cls.eta,forall_eq,eqE_iff,eqE_no]
 have hsm:=Zza s
 have hlen:=Za7 s
 have htext:(Yd ((Zk s).1.map Tok.text)).length<=1000000000:=by
  have:=Zdu (ws:=(Zk s).1.map Tok.text) (m:=32) (fun w hw=>by
   obtain ⟨t,ht,rfl⟩:=List.mem_map.1 hw
   exact (Zcf s t ht).1.len)
  rw [List.length_map] at this
  omega
 rcases Zeo s with ⟨h1,h2⟩|⟨h1,er,hE,h2⟩|⟨h1,t,x,ht,hc,h2⟩
 · rw [h2] at hsm⊢
   exact ⟨fun _=>⟨fun _=>⟨fun _=>⟨hsm.one,rfl⟩,fun h=>absurd rfl h⟩,fun h=>absurd rfl h⟩,fun h=>absurd h h1⟩
 · rw [h2] at hsm⊢
   obtain ⟨e1,e2⟩:=hE
   have hG:((∀(c:Cls),c∈zT.clauses->c.pay.sz+1<=1000000000/\c.when_.length+1<=1000000000)/\zT.clauses.length+1<=1000000000)/\(zT={name:= [],for_:=0,clauses:= []}->(er.2=160->True)/\(¬er.2=160->(er.2=161->True)/\(¬er.2=161->(er.2=2->True)/\(¬er.2=2->False))))/\(¬zT={name:= [],for_:=0,clauses:= []}->False):=
    ⟨hsm.one,fun _=>⟨fun _=>trivial,fun a=>⟨fun _=>trivial,fun b=>⟨fun _=>trivial,fun c=>by omega⟩⟩⟩,fun h=>h rfl⟩
   refine ⟨fun h=>absurd h1 h,fun _=>⟨fun hne=>⟨fun ha=> ?_,fun ha=> ?_⟩,fun h0=> ?_⟩⟩
   · exact Zo6 (a:=er.1) (n:=(s.length:Int)) (b0:=true) (fun h=>by cases h) hlen hG e1
   · exact Zo6 (a:=er.1) (n:=(s.length:Int)) (b0:=false) (fun _=>ha) hlen hG e1
   · have h0:er.2=0:=h0
     omega
 · rw [h2] at hsm⊢
   dsimp only at hsm⊢
   have hfin:((Zk s).1.length<=1000000000/\(Yd (List.map Tok.text (Zk s).1)).length<=1000000000)/\(((Yd (List.map Tok.text (Zk s).1)).length:Int)>2000->True)/\(¬((Yd (List.map Tok.text (Zk s).1)).length:Int)>2000->((Ya (Yd (List.map Tok.text (Zk s).1))).2.2=0->((∀(c:Cls),c∈t.clauses->c.pay.sz+1<=1000000000/\c.when_.length+1<=1000000000)/\t.clauses.length+1<=1000000000)/\t=(Ya (Yd (List.map Tok.text (Zk s).1))).1)/\(¬(Ya (Yd (List.map Tok.text (Zk s).1))).2.2=0->False)):=by
    refine ⟨⟨by omega,htext⟩,fun _=>trivial,fun hle=> ?_⟩
    rw [Zrs (Zcf s) ht (by omega)]
    exact ⟨fun _=>⟨hsm.one,rfl⟩,fun h=>absurd rfl h⟩
   refine ⟨fun h=>absurd h1 h,fun _=>⟨fun h=>absurd rfl h,fun _=>⟨hsm,hsm,fun h=>absurd hc h,fun _=>⟨fun h=>absurd rfl h,fun _=> ?_⟩⟩⟩⟩
   rcases Zen hc with ⟨p1,p2,p3⟩|p1
   · rw [p3,Zem hc p2]
     exact ⟨fun h=>absurd p1 h,fun _=>⟨fun _=>⟨fun h=>absurd rfl h,fun _=>⟨hsm.one,fun h=>absurd rfl h,fun _=>hfin⟩⟩,fun h=>absurd p1 h⟩⟩
   · rw [p1]
     exact ⟨fun _=>⟨fun h=>absurd rfl h,fun _=>⟨fun h=>(by cases h),fun _=>hfin⟩⟩,fun h=>(by cases h)⟩
end
end Go.Proofs.YtbepgmadijomjaaGreatDoor
