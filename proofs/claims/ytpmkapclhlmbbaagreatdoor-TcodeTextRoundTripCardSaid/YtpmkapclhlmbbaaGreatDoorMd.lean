/- Merged texts: TvX, EngZH, EngZI, EngZJ, TpA, TtA, TtS, TtD, TtE, TvLay, TtG, TpB, TpC, TpD, EngZK, TpE, TpF, TtF, TtH, TpG, TpL. -/
import Derived.Shelf.Strings.SlTrimAscii
import Derived.Shelf.Strings.Builder1
import Derived.Shelf.Strings.Count
import Derived.Shelf.Strconv.AtoiAll
import Derived.Shelf.Strconv.Itoa3
import Derived.Shelf.Strconv.Itoa0
import Derived.Shelf.Strconv.Itoa1
import Derived.Test.YtpmkapclhlmbbaaGreatDoorProg
import Derived.Test.YtpmkapclhlmbbaaGreatDoorMc
noncomputable section
namespace Go.Proofs.YtpmkapclhlmbbaaGreatDoor
set_option linter.unusedVariables false
set_option linter.unusedSimpArgs false
set_option linter.unnecessarySimpa false
set_option maxRecDepth 100000
section
open Go
def dA1 {α:Type} (d:Dc E α):DcL E (α×Unit):= .cons d .nil
def dA2 {α β:Type} (d:Dc E α) (e:Dc E β):DcL E (α×β×Unit):= .cons d (dA1 e)
def dN:Dc E Int:=dInt .i64
def dB:Dc E Bool:=Z7x
def dS:Dc E (List Nat):=dStr
def dFun (f:Nat):Dc E Unit where
 dec v:=match v with| .fn (.func g) [] []=>(match Nat.beq g f with|true=>some ()|false=>none)|_=>none
 enc _:= .fn (.func f) [] []
 ok v a h:=by
  split at h
  · split at h
    · rename_i e
      obtain rfl:=gC9 e
      exact ⟨rfl,rfl,fun _ _ _ h=>h⟩
    · cases h
  · cases h
def eqL:List Nat->List Nat->Bool
 | [],[]=>true
 |x::r,y::l=>Nat.beq x y&&eqL r l
 |_,_=>false
theorem Zpw:∀{a b:List Nat},eqL a b=true->a=b
 | [],[],_=>rfl
 |x::r,y::l,h=>by
  simp only [eqL,Bool.and_eq_true] at h
  rw [gC9 h.1,Zpw h.2]
 | [],_::_,h=>by cases h
 |_::_,[],h=>by cases h
def dKs (c:List Nat):Dc E Unit where
 dec v:=match v with| .str true s=>(match eqL s c with|true=>some ()|false=>none)|_=>none
 enc _:= .str true c
 ok v a h:=by
  split at h
  · split at h
    · rename_i e
      rw [Zpw e]
      exact ⟨rfl,rfl,fun _ _ _ h=>h⟩
    · cases h
  · cases h
theorem Zno {σ:Pl} {g:GH} {l:Bool} {s:List Nat} {u:Value} (h:Den E σ g (.str l s) u):Byt s:=by
 cases h
 rename_i b hb
 subst hb
 exact Zlz b
theorem Z1l {f:FuncId} {args:List (SV thy)} {v:SV thy} {j:Nat} {l:Bool} {s:List Nat} (hj:args[j]? =some (.str l s)) (h:Byt s->PureC E f args v):PureC E f args v:=by
 intro g w vals hI hd
 have hlt:j<vals.toList.length:=by rw [<-hd.1];exact (gA9.1 hj).1
 exact h (Zno (hd.2 j _ _ hj (gB9 hlt))) g w vals hI hd
theorem Z5d {P:Prop} {f:FuncId} {args:List (SV thy)} {v:SV thy} {j:Nat} {a:SV thy} (hj:args[j]? =some a) (hP:∀g u,Den E σ0 g a u->P) (h:P->PureC E f args v):PureC E f args v:=by
 intro g w vals hI hd
 have hlt:j<vals.toList.length:=by rw [<-hd.1];exact (gA9.1 hj).1
 exact h (hP g _ (hd.2 j _ _ hj (gB9 hlt))) g w vals hI hd
theorem Z1m {g:GH} {th:Th} {l:List (domT th)} {f:Bool} {u:Value} (h:Den E σ0 g (.psl th l f) u):∀x∈l,∀(j:Nat) sv,(encF false th x)[j]? =some sv->∃v,Den E σ0 g sv v:=by
 cases h
 rename_i hd _
 intro x hx j sv hj
 obtain ⟨i,hi⟩:=List.getElem?_of_mem hx
 exact ⟨_,hd i x hi j sv hj⟩
theorem Zgd {v1:SV thy} {s:List Nat} {f:SV thy->Prop} {z:Prop}:∀{ks:List (List Nat)},(∀k∈ks,Byt k)->(s∈ks->f v1)->(s∉ks->z)->X0 false (.str false s) (ks.map fun k=>(Value.string (mkS k),v1)) f z
 | [],_,_,h2=>h2 (by simp)
 |k::ks,hb,h1,h2=>by
  rw [List.map_cons]
  unfold X0
  have hk:toL (mkS k)=k:=hb k (List.mem_cons_self ..)
  simp only [hk]
  refine ⟨fun e=> ?_,fun e=> ?_⟩
  · exact h1 (by rw [eq_of_beq e];exact List.mem_cons_self ..)
  · have e:=ne_of_beq_false e
    exact Zgd (fun k hk=>hb k (List.mem_cons_of_mem _ hk)) (fun h=>h1 (List.mem_cons_of_mem _ h)) (fun h=>h2 fun h'=>by
     rcases List.mem_cons.1 h' with h'|h'
     · exact e h'
     · exact h h')
theorem Znp {g:GH} {a:SV thy} {vals:Array Value} (h:DenL E σ0 g [a] vals.toList):∃u,vals= #[u]/\Den E σ0 g a u:=by
 obtain ⟨l⟩:=vals
 obtain ⟨h1,h2⟩:=h
 match l,h1,h2 with
 | [u],_,h2=>exact ⟨u,rfl,h2 0 a u rfl rfl⟩
theorem Z5e {g:GH} {a b:SV thy} {vals:Array Value} (h:DenL E σ0 g [a,b] vals.toList):∃u v,vals= #[u,v]/\Den E σ0 g a u/\Den E σ0 g b v:=by
 obtain ⟨l⟩:=vals
 obtain ⟨h1,h2⟩:=h
 match l,h1,h2 with
 | [u,v],_,h2=>exact ⟨u,v,rfl,h2 0 a u rfl rfl,h2 1 b v rfl rfl⟩
theorem Z1n {g:GH} {l:List UInt8}:Den E σ0 g (.str false (l.map UInt8.toNat)) (.string ⟨l.toArray⟩):= .str _ (by simp [toL])
end
section
open Go.RowKit
section
variable {Y:Thy} {E:Eng Y}
def sumO (pre:List (SV Y)->Option (SV Y)):Sum Y:=fun args _ _ k=>match pre args with|some v=>(match nidL 0 args with|true=>k (quiet [] v)|false=>False)|none=>False
theorem Vu (hE:EngOk E) {f:Nat} (hg:FnGood E.P f) {pre:List (SV Y)->Option (SV Y)} (hp:∀args v,pre args=some v->PureC E f args v):SumOk E f (sumO pre):=by
 refine ⟨hg,fun args h i k hD hk=> ?_⟩
 unfold sumO at hk
 split at hk
 · rename_i v hpre
   split at hk
   · rename_i hn
     exact ⟨_,hk,(hp args v hpre).tri2 hE hn h i⟩
   · exact hk.elim
 · exact hk.elim
end
end
section
open Go.RowKit
section
variable {Y:Thy} {E:Eng Y}
end
end
section
open Go.RowKit
section
variable {Y:Thy} {E:Eng Y}
def one (cs:List (SV Y)):Hp Y:=fun b=>match Nat.beq b 0 with|true=>some (.raw cs 0 none)|false=>none
theorem Zvp (cs:List (SV Y)):one cs 0=some (.raw cs 0 none):=rfl
theorem Zbd {cs:List (SV Y)} {b:Nat} (h:one cs b≠none):b=0:=by
 cases b with
 |zero=>rfl
 |succ b=>exact absurd rfl h
theorem Vf {cs:List (SV Y)} {b:Nat} {x:Blk Y} (h:one cs b=some x):b=0/\x= .raw cs 0 none:=by
 have:=Zbd (cs:=cs) (b:=b) (by rw [h];simp)
 subst this
 rw [Zvp] at h
 cases h
 exact ⟨rfl,rfl⟩
theorem Z38 (cs:List (SV Y)):DomLt (one cs) 1:=fun b hb=>by have:=Zbd hb;omega
def σ1 (p:Nat×Nat):Pl:=fun b=>match Nat.beq b 0 with|true=>some p|false=>none
theorem σ1_some {p q:Nat×Nat} {b:Nat} (h:σ1 p b=some q):b=0/\q=p:=by
 cases b with
 |zero=>cases h;exact ⟨rfl,rfl⟩
 |succ b=>cases h
def mutR (v:SV Y) (cs:List (SV Y)):Res Y:=⟨v,0,[0],at1 0 (some (.raw cs 0 none)),none⟩
def panR (p:Value):Res Y:=⟨.pan p,0,[0],fun _=>none,none⟩
theorem Zrj (cs cs':List (SV Y)) (v:SV Y):patch (one cs) 1 (mutR v cs')=one cs':=by
 funext b
 rw [Zf]
 cases b with
 |zero=>simp [mutR,at1,one]
 |succ b=>
  rw [if_neg (by simp [mutR])]
  rfl
theorem Zrk (cs:List (SV Y)) (p:Value):patch (one cs) 1 (panR p)=fun _=>none:=by
 funext b
 rw [Zf]
 cases b with
 |zero=>simp [panR]
 |succ b=>
  rw [if_neg (by simp [panR])]
  rfl
def MutC (E:Eng Y) (f:FuncId) (cs rest:List (SV Y)) (v:SV Y) (cs':List (SV Y)):Prop:=Ug E f (.ptr 0 0::rest) (one cs) 1 (mutR v cs')
def MutP (E:Eng Y) (f:FuncId) (cs rest:List (SV Y)) (p:Value):Prop:=Zm7 E f (.ptr 0 0::rest) (one cs) 1 (panR p)
theorem Zmm (hE:EngOk E) {B:Nat} {σ:Pl} {h:Hp Y} {g:GH} {w:World} {b r z:Nat} {cs cs0:List (SV Y)} {tg:Option Y.Th} (hI:Inv E B σ h g w) (hb:h b=some (.raw cs 0 tg)) (hσ:σ b=some (r,z)) (hlen:cs.length=cs0.length) (hn:nidL 0 cs0=true)
 (hden:∀σ g (j:Nat) sv',cs0[j]? =some sv'->∃sv,cs[j]? =some sv/\∀u,Den E σ g sv u->Den E σ g sv' u):Inv E B (σ1 (r,z)) (one cs0) g w:=by
 refine ⟨hI.gc,hI.gm,fun x y hx=> ?_,fun x x' r z z' h1 h2 _ _=> ?_,fun x r' z' hs=> ?_,fun x y r' z' o v hx hs hv=> ?_,fun x y r' z' hx hs=> ?_,hI.glob⟩
 · obtain ⟨rfl,rfl⟩:=Vf hx
   refine ⟨r,z,rfl,?_⟩
   obtain ⟨r',z',hσ',arr,e,k1,k2,k3,k4,k5⟩:=hI.blk b _ hb
   rw [hσ] at hσ';cases hσ'
   refine ⟨arr,e,k1,k2,?_,fun j sv' hj=> ?_,trivial⟩
   · simp only [Blk.cells] at k3⊢;omega
   · obtain ⟨sv,h1,h2⟩:=hden σ g j sv' hj
     obtain ⟨v,m1,m2⟩:=k4 j sv h1
     exact ⟨v,m1,Zu hE (h2 v m2) (fun b p hb=>by omega) (Zn hn hj)⟩
 · rw [Zbd h1,Zbd h2]
 · obtain ⟨rfl,e⟩:=σ1_some hs
   cases e
   exact hI.base b _ _ hσ
 · obtain ⟨rfl,e⟩:=σ1_some hs
   obtain ⟨_,rfl⟩:=Vf hx
   cases e
   have h2:o<0:=hI.fz b (.raw cs 0 tg) _ _ o v hb hσ hv
   omega
 · obtain ⟨rfl,e⟩:=σ1_some hs
   cases e
   exact hI.fm b _ _ _ hb hσ
def rawO:Option (List (SV Y))->Option (Blk Y)
 |some c=>some (.raw c 0 none)
 |none=>none
theorem Wh (hE:EngOk E) {B:Nat} {σ σ':Pl} {h:Hp Y} {g g':GH} {w w':World} {b i r z:Nat} {cs:List (SV Y)} {fz:Nat} {tg:Option Y.Th} {x':Option (List (SV Y))} (hI:Inv E B σ h g w) (hb:h b=some (.raw cs fz tg)) (hσ:σ b=some (r,z)) {v v0:SV Y} {h0:Hp Y}
 {σc:Pl} {m0:Nat} (hc0:σc 0=some (r,z)) (hS:Stp m0 0 [0] σc g w σ' g' w') (hI':Inv E B σ' h0 g' w') (h00:∀c,x'=some c->h0 0=some (.raw c 0 none)) (hn:∀c,x'=some c->nidL 0 c=true):
 Stp i 0 [b] σ g w σ g' w'/\Inv E B σ (patch h i ⟨v,0,[b],at1 b (rawO x'),none⟩) g' w':=by
 have hs0:σ' 0=some (r,z):=hS.sig 0 _ hc0
 have one0:∀b'∈ [0],∀q z',σc b'=some (q,z')->b'=0/\(q,z')=(r,z):=by
  intro b' hb' q z' hz'
  rw [List.mem_singleton] at hb'
  subst hb'
  rw [hc0] at hz'
  exact ⟨rfl,(Option.some.inj hz').symm⟩
 have hheap:∀q,q<w.heap.size->q≠r->w'.heap[q]? =w.heap[q]? :=by
  intro q hq hne
  refine hS.heap q hq fun b' hb' z' hz'=> ?_
  obtain ⟨_,e⟩:=one0 b' hb' q z' hz'
  cases e
  exact hne rfl
 have hpatch:∀x,patch h i ⟨v,0,[b],at1 b (rawO x'),none⟩ x=if x=b then (rawO x') else h x:=by
  intro x
  rw [Zf]
  by_cases e:x=b
  · subst e
    rw [if_pos (.inl (by show x∈ [x];simp)),if_pos rfl]
    show at1 x _ x=_
    unfold at1
    rw [Nat.beq_refl]
  · rw [if_neg e,if_neg]
    rintro (c|c)
    · exact e (by simpa using c)
    · simp at c;omega
 have src:∀x y,patch h i ⟨v,0,[b],at1 b (rawO x'),none⟩ x=some y->(x=b/\∃c,x'=some c/\y= .raw c 0 none)\/(x≠b/\h x=some y):=by
  intro x y hy
  rw [hpatch] at hy
  split at hy
  · rename_i e
    cases hx':x' with
    |none=>rw [hx'] at hy;cases hy
    |some c=>rw [hx'] at hy;cases hy;exact .inl ⟨e,c,rfl,rfl⟩
  · rename_i e
    exact .inr ⟨e,hy⟩
 have far:∀x y q z',x≠b->h x=some y->σ x=some (q,z')->q<w.heap.size/\q≠r:=by
  intro x y q z' hx hy hs
  refine ⟨(hI.base x q z' hs).2,?_⟩
  rintro rfl
  exact hx (hI.inj x b _ _ _ (by rw [hy];simp) (by rw [hb];simp) hs hσ)
 have ne:∀x,patch h i ⟨v,0,[b],at1 b (rawO x'),none⟩ x≠none->h x≠none:=by
  intro x hx
  obtain ⟨y,hy⟩:=Option.ne_none_iff_exists'.1 hx
  rcases src x y hy with ⟨rfl,_⟩|⟨_,h2⟩
  · rw [hb];simp
  · rw [h2];simp
 refine ⟨⟨.refl _,fun x p hx=> .inl hx,hS.gle,fun q o v hv=> ?_,hS.gmnew,fun q hq hx=>hheap q hq fun e=>hx b (by simp) z (by rw [hσ,e]),hS.size,hS.os,hS.tape,hS.output,fun x q z' h1 h2=>by rw [h1] at h2;cases h2⟩,
  hI'.gc,hI'.gm,fun x y hx=> ?_,fun x x' q z1 z2 h1 h2 h3 h4=>hI.inj x x' q z1 z2 (ne x h1) (ne x' h2) h3 h4,fun x q z' hs=>⟨(hI.base x q z' hs).1,Nat.lt_of_lt_of_le (hI.base x q z' hs).2 hS.size⟩,fun x y q z' o v hx hs hv=> ?_,fun x y q z' hx hs=> ?_,hI'.glob⟩
 · rcases hS.gcnew q o v hv with h1|h1|⟨b',h1,z',h2⟩
   · exact .inl h1
   · exact .inr (.inl h1)
   · obtain ⟨_,e⟩:=one0 b' h1 _ _ h2
     cases e
     exact .inr (.inr ⟨b,by simp,z,hσ⟩)
 · rcases src x y hx with ⟨rfl,c,hc,rfl⟩|⟨e1,e2⟩
   · refine ⟨r,z,hσ,?_⟩
     obtain ⟨r2,z2,m1,arr,e,k1,k2,k3,k4,k5⟩:=hI'.blk 0 _ (h00 c hc)
     rw [hs0] at m1;cases m1
     refine ⟨arr,e,k1,k2,k3,fun j sv hj=> ?_,trivial⟩
     obtain ⟨v,m1,m2⟩:=k4 j sv hj
     exact ⟨v,m1,Zu hE m2 (fun b p hb=>by omega) (Zn (hn c hc) hj)⟩
   · obtain ⟨q,z',m1,m2⟩:=hI.blk x y e2
     obtain ⟨m3,m4⟩:=far x y q z' e1 e2 m1
     exact ⟨q,z',m1,m2.mono (.refl _) hS.gle (hheap q m3 m4)⟩
 · rcases src x y hx with ⟨rfl,c,hc,rfl⟩|⟨e1,e2⟩
   · rw [hσ] at hs;cases hs
     exact hI'.fz 0 _ _ _ o v (h00 c hc) hs0 hv
   · obtain ⟨m3,m4⟩:=far x y q z' e1 e2 hs
     rcases hS.gcnew q o v hv with h1|h1|⟨b',h1,z2,h2⟩
     · exact hI.fz x y q z' o v e2 hs h1
     · omega
     · obtain ⟨_,e⟩:=one0 b' h1 _ _ h2
       cases e
       exact absurd rfl m4
 · rcases src x y hx with ⟨rfl,c,hc,rfl⟩|⟨e1,e2⟩
   · rw [hσ] at hs;cases hs
     exact hI'.fm 0 _ _ _ (h00 c hc) hs0
   · obtain ⟨m3,m4⟩:=far x y q z' e1 e2 hs
     cases hg':g'.obj q with
     |none=>rfl
     |some es=>
      rcases hS.gmnew q es hg' with k|k
      · rw [hI.fm x y q z' e2 hs] at k;cases k
      · omega
section
variable {X α β ε:Type}
structure MutI (E:Eng Y) (X α β ε:Type) where
 dS:DcL E X
 dA:DcL E α
 v:β->SV Y
 hv:∀y,nid 0 (v y)=true
 hS:∀x,nidL 0 (dS.enc x)=true
 hA:∀a,nidL 0 (dA.enc a)=true
 pv:ε->Value
def We (M:MutI E X α β ε) (f:FuncId) (x:X) (a:α) (out:Except ε (β×X)):Prop:=
 match out with
 | .ok (y,x')=>MutC E f (M.dS.enc x) (M.dA.enc a) (M.v y) (M.dS.enc x')
 | .error e=>MutP E f (M.dS.enc x) (M.dA.enc a) (M.pv e)
def Zfw (b:Nat) (v:SV Y) (cs:List (SV Y)):Res Y:=⟨v,0,[b],at1 b (some (.raw cs 0 none)),none⟩
def Zvq (b:Nat) (p:Value):Res Y:=⟨.pan p,0,[b],at1 b none,none⟩
def sumM (M:MutI E X α β ε) (pre:X->α->Prop) (f:X->α->Except ε (β×X)):Sum Y:=fun args h _ k=>
 match args with
 | .ptr b 0::rest=>
  (match h b with
  |some (.raw cs 0 _)=>
   (match M.dS.dec cs,M.dA.dec rest with
   |some x,some a=>pre x a/\(∀y x',f x a= .ok (y,x')->k (Zfw b (M.v y) (M.dS.enc x')))/\(∀e,f x a= .error e->k (Zvq b (M.pv e)))
   |_,_=>False)
  |_=>False)
 |_=>False
theorem Zoq {M:DcL E α} {rest:List (SV Y)} {a:α} (hE:EngOk E) (hr:M.dec rest=some a) (hn:nidL 0 (M.enc a)=true) {b r z:Nat} {σ:Pl} {g:GH} {vals:List Value} (hσ:σ b=some (r,z)) (hd:DenL E σ g (.ptr b 0::rest) vals):DenL E (σ1 (r,z)) g (.ptr 0 0::M.enc a) vals:=by
 obtain ⟨k1,k2,k3⟩:=M.ok _ _ hr
 refine ⟨by rw [<-hd.1];simp [k2],fun j sv u h1 h2=> ?_⟩
 cases j with
 |zero=>
  simp at h1;subst h1
  have:=hd.2 0 _ u rfl h2
  cases this
  rename_i hs
  rw [hσ] at hs;cases hs
  exact .ptr (E:=E) (b:=0) rfl
 |succ j=>
  have h1:(M.enc a)[j]? =some sv:=by simpa using h1
  obtain ⟨s0,h3,h4⟩:=k3 σ g j sv h1
  exact Zu hE (h4 u (hd.2 (j+1) s0 u (by simpa using h3) h2)) (fun b p hb=>by omega) (Zn hn h1)
theorem Y9 (hE:EngOk E) {f:Nat} (hg:FnGood E.P f) {M:MutI E X α β ε} {pre:X->α->Prop} {fn:X->α->Except ε (β×X)} (hp:∀x a,pre x a->We M f x a (fn x a)):SumOk E f (sumM M pre fn):=by
 refine ⟨hg,fun args h i k hD hk=> ?_⟩
 unfold sumM at hk
 split at hk
 case h_2=>exact hk.elim
 rename_i b rest
 split at hk
 case h_2=>exact hk.elim
 rename_i cs tg hb
 split at hk
 case h_2=>exact hk.elim
 rename_i x a hx ha
 obtain ⟨hpp,hk1,hk2⟩:=hk
 have hm:=hp x a hpp
 obtain ⟨c1,c2,c3⟩:=M.dS.ok _ _ hx
 have hbn:h b≠none:=by rw [hb];simp
 unfold We at hm
 split at hm
 · rename_i y x' ho
   refine ⟨_,hk1 y x' ho,fun b' hb'=>by
    have:b'∈ [b]:=hb'
    rw [List.mem_singleton] at this
    rw [this];exact hbn,.inl ?_⟩
   intro B σ g w vals hh hrd hI hB hfree hd
   obtain rfl:hh=h:=funext fun b=>hrd b trivial
   obtain ⟨r,z,hσ,_⟩:=hI.blk b _ hb
   refine (hm B (σ1 (r,z)) g w vals _ (fun _ _=>rfl) (Zmm hE hI hb hσ c2 (M.hS x) c3) hB (fun c h1 h2=>by simp [mutR] at h2;omega) (Zoq hE ha (M.hA a) hσ hd)).mono ?_
   rintro en w' ⟨u,he,σ',g',hS,hI',hv⟩
   rw [Zrj] at hI'
   obtain ⟨q1,q2⟩:=Wh hE (i:=i) (v:=M.v y) (v0:=M.v y) (x':=some (M.dS.enc x')) hI hb hσ rfl hS hI' (fun c hc=>by cases hc;rfl) (fun c hc=>by cases hc;exact M.hS x')
   exact ⟨u,he,σ,g',q1,q2,Zu hE hv (fun b p hb=>by omega) (M.hv y)⟩
 · rename_i e ho
   refine ⟨_,hk2 e ho,fun b' hb'=>by
    have:b'∈ [b]:=hb'
    rw [List.mem_singleton] at this
    rw [this];exact hbn,.inr ?_⟩
   obtain ⟨p,hp',hm⟩:=hm
   have hp':(SV.pan (M.pv e):SV Y)= .pan p:=hp'
   cases hp'
   refine ⟨_,rfl,fun B σ g w vals hI hB hfree hd=> ?_⟩
   obtain ⟨r,z,hσ,_⟩:=hI.blk b _ hb
   refine (hm B (σ1 (r,z)) g w vals (Zmm hE hI hb hσ c2 (M.hS x) c3) hB (fun c h1 h2=>by simp [panR] at h2;omega) (Zoq hE ha (M.hA a) hσ hd)).mono ?_
   rintro en w' ⟨he,σ',g',hS,hI'⟩
   obtain ⟨q1,q2⟩:=Wh hE (i:=i) (v:= .pan (M.pv e)) (v0:= .unk) (x':=none) hI hb hσ rfl hS hI' (fun c hc=>by cases hc) (fun c hc=>by cases hc)
   exact ⟨he,σ,g',q1,q2⟩
theorem Z39 {B:Nat} {p:Nat×Nat} {h:Hp Y} {g g':GH} {w w':World} {σ':Pl} {n:Nat} {mods:List Nat} (hp:p.1<w.heap.size) (hS:Stp 1 n mods (σ1 p) g w σ' g' w') (hI':Inv E B σ' h g' w') (h0:h 0≠none):∀b r z,b≠0->h b≠none->σ' b=some (r,z)->w.heap.size<=r:=by
 intro b r z hb hn hs
 have hs0:σ1 p b=none:=by
  cases b with
  |zero=>exact absurd rfl hb
  |succ b=>rfl
 rcases hS.blk b r z hs0 hs with h1|⟨b',h1,z',h2⟩
 · exact h1
 · obtain ⟨rfl,e⟩:=σ1_some h2
   subst e
   have h3:=hS.sig 0 _ h2
   exact absurd (hI'.inj b 0 r z z' hn h0 hs h3) hb
def mutK (M:MutI E X α β ε) (gth:List (SV Y)->Option Y.Th) (n:Nat) (dec:SV Y->Option β) (decP:Value->Option ε) (x:X) (out:Except ε (β×X)) (r:Res Y):Prop:=
 match Ud r.v with
 |some q=>(match decP q with|some e=>out= .error e|none=>False)
 |none=>frzK E gth (patch (one (M.dS.enc x)) 1 r) n r.v fun v' bs=>
  (match patch (one (M.dS.enc x)) 1 r 0 with
  |some (.raw c2 0 _)=>frzL (frzK E gth (patch (one (M.dS.enc x)) 1 r) n) c2 fun cs' bs'=>
   (match memB 0 (bs++bs'),dec v',M.dS.dec cs' with
   |false,some y,some x'=>out= .ok (y,x')
   |_,_,_=>False)
  |_=>False)
theorem CallTri2.panic {f:FuncId} {args:List (SV Y)} {h:Hp Y} {i:Nat} {r:Res Y} {p:Value} (ht:CallTri2 E f args h i r) (hp:Ud r.v=some p) {B:Nat} {σ:Pl} {g:GH} {w:World} {vals:Array Value} (hI:Inv E B σ h g w) (hB:B<=w.heap.size) (hfree:∀b,i<=b->b<i+r.n->σ b=none) (hd:DenL E σ g args vals.toList):
 Calls E.P f vals w fun en w'=>en= .panicked [{v:=p,recovered:=false}]/\∃σ' g',Stp i r.n r.mods σ g w σ' g' w'/\Inv E B σ' (patch h i r) g' w':=by
 have hv:=Zo1 hp
 rcases ht with ht|⟨p',hp',ht⟩
 · refine (ht B σ g w vals h (fun _ _=>rfl) hI hB hfree hd).mono ?_
   rintro en w' ⟨u,_,σ',g',_,_,hd⟩
   rw [hv] at hd
   cases hd
 · rw [hv] at hp'
   cases hp'
   exact ht B σ g w vals hI hB hfree hd
theorem CallTri2.tri {f:FuncId} {args:List (SV Y)} {h:Hp Y} {i:Nat} {r:Res Y} (ht:CallTri2 E f args h i r) (hp:Ud r.v=none):Ug E f args h i r:=by
 rcases ht with ht|⟨p,hv,_⟩
 · exact ht
 · rw [hv] at hp;cases hp
theorem Z7w (hE:EngOk E) {σ σ':Pl} {g:GH} {l:List (SV Y)} {vals:List Value} (hn:nidL 0 l=true) (h:DenL E σ g l vals):DenL E σ' g l vals:=
 ⟨h.1,fun j sv u h1 h2=>Zu hE (h.2 j sv u h1 h2) (fun b p hb=>by omega) (Zn hn h1)⟩
theorem Zz5 (hE:EngOk E) {l:List (SV Y)} (hn:nidL 0 l=true) {r z:Nat} {σ:Pl} {g:GH} {vals:List Value} (hσ:σ 0=some (r,z)) (hd:DenL E σ g (.ptr 0 0::l) vals):DenL E (σ1 (r,z)) g (.ptr 0 0::l) vals:=by
 refine ⟨hd.1,fun j sv u h1 h2=> ?_⟩
 cases j with
 |zero=>
  simp at h1;subst h1
  have:=hd.2 0 _ u rfl h2
  cases this
  rename_i hs
  rw [hσ] at hs;cases hs
  exact .ptr (E:=E) (b:=0) rfl
 |succ j=>
  have h1:l[j]? =some sv:=by simpa using h1
  exact Zu hE (hd.2 (j+1) sv u (by simpa using h1) h2) (fun b p hb=>by omega) (Zn hn h1)
theorem Zmn (hE:EngOk E) {call:Nat->List (SV Y)->Hp Y->Nat->(Res Y->Prop)->Prop} (hcall:W6 E call) {M:MutI E X α β ε} {gth:List (SV Y)->Option Y.Th} {n:Nat} {dec:SV Y->Option β} {decP:Value->Option ε} (hdec:∀v y,dec v=some y->∀σ g u,Den E σ g v u->Den E σ g (M.v y) u) (hdecP:∀q e,decP q=some e->M.pv e=q)
 {f:Nat} {x:X} {a:α} {out:Except ε (β×X)} (hk:call f (.ptr 0 0::M.dA.enc a) (one (M.dS.enc x)) 1 (mutK M gth n dec decP x out)):We M f x a out:=by
 obtain ⟨r,hr,hR,htri⟩:=hcall f _ _ _ _ (Z38 _) hk
 have hmods:∀b∈r.mods,b=0:=fun b hb=>Zbd (hR b hb)
 have free1:∀(p:Nat×Nat) (b:Nat),1<=b->b<1+r.n->σ1 p b=none:=by
  intro p b hb _
  cases b with
  |zero=>omega
  |succ b=>rfl
 have stp:∀(p:Nat×Nat) (g g' g'':GH) (w w':World) (σ':Pl),Stp 1 r.n r.mods (σ1 p) g w σ' g' w'->g'.le g''->(∀q o v,g''.cell q o=some v->g'.cell q o=some v\/w.heap.size<=q)->(∀q es,g''.obj q=some es->g'.obj q=some es\/w.heap.size<=q)->Stp 1 0 [0] (σ1 p) g w (σ1 p) g'' w':=by
  intro p g g' g'' w w' σ' hS hle hc hm
  refine ⟨.refl _,fun b q h=> .inl h,hS.gle.trans hle,fun q o v hv=> ?_,fun q es hv=> ?_,fun q hq hx=>hS.heap q hq fun b hb=>hx b (by rw [hmods b hb];simp),hS.size,hS.os,hS.tape,hS.output,fun b q z h1 h2=>by rw [h1] at h2;cases h2⟩
  · rcases hc q o v hv with h1|h1
    · rcases hS.gcnew q o v h1 with h2|h2|⟨b,h2,h3⟩
      · exact .inl h2
      · exact .inr (.inl h2)
      · exact .inr (.inr ⟨b,by rw [hmods b h2];simp,h3⟩)
    · exact .inr (.inl h1)
  · rcases hm q es hv with h1|h1
    · exact hS.gmnew q es h1
    · exact .inr h1
 have start:∀(B:Nat) (σ:Pl) (g:GH) (w:World) (vals:Array Value),Inv E B σ (one (M.dS.enc x)) g w->DenL E σ g (.ptr 0 0::M.dA.enc a) vals.toList->∃rr zz,σ 0=some (rr,zz)/\Inv E B (σ1 (rr,zz)) (one (M.dS.enc x)) g w/\DenL E (σ1 (rr,zz)) g (.ptr 0 0::M.dA.enc a) vals.toList:=by
  intro B σ g w vals hI hd
  obtain ⟨rr,zz,hσ,_⟩:=hI.blk 0 _ (Zvp _)
  exact ⟨rr,zz,hσ,Zmm hE hI (Zvp _) hσ rfl (M.hS x) (fun σ g j sv' hj=>⟨sv',hj,fun u h=>h⟩),Zz5 hE (M.hA a) hσ hd⟩
 unfold mutK at hr
 split at hr
 · rename_i q hq
   split at hr
   case h_2=>exact hr.elim
   rename_i e he
   subst hr
   show MutP E f _ _ (M.pv e)
   refine ⟨_,rfl,fun B σ g w vals hI hB hfree hd=> ?_⟩
   obtain ⟨rr,zz,hσ,hI1,hd1⟩:=start B σ g w vals hI hd
   refine (htri.panic hq hI1 hB (free1 _) hd1).mono ?_
   rintro en w' ⟨rfl,σ',g',hS,hI'⟩
   refine ⟨by rw [hdecP q e he],?_⟩
   have hS1:=stp _ g g' g' w w' σ' hS (.refl _) (fun _ _ _ h=> .inl h) (fun _ _ h=> .inl h)
   have hI2:Inv E B (σ1 (rr,zz)) (fun _=>none) g' w':=⟨hI'.gc,hI'.gm,(fun b x hx=>by cases hx),fun b b' r z z' h1=>absurd rfl h1,fun b r z hs=>⟨(hI1.base b r z hs).1,Nat.lt_of_lt_of_le (hI1.base b r z hs).2 hS.size⟩,(fun b x r z o v hx=>by cases hx),(fun b x r z hx=>by cases hx),hI'.glob⟩
   obtain ⟨q1,q2⟩:=Wh hE (i:=1) (v:= .pan (M.pv e)) (v0:= .unk) (x':=none) hI (Zvp _) hσ rfl hS1 hI2 (fun c hc=>by cases hc) (fun c hc=>by cases hc)
   refine ⟨σ,g',q1,?_⟩
   have e2:patch (one (M.dS.enc x)) 1 ⟨.pan (M.pv e),0,[0],at1 0 (rawO none),none⟩=patch (one (M.dS.enc x)) 1 (panR (M.pv e)):=by
    rw [Zrk]
    funext b
    rw [Zf]
    cases b with
    |zero=>simp [at1,rawO]
    |succ b=>
     rw [if_neg (by simp)]
     rfl
   rw [<-e2];exact q2
 · rename_i hq
   have htri:=htri.tri hq
   obtain ⟨v',bs,hr,o1⟩:=Vy hE n r.v _ hr
   split at hr
   case h_2=>exact hr.elim
   rename_i c2 tg h0
   obtain ⟨cs',bs',hr,o2⟩:=Wn (Vy hE n) hr
   split at hr
   case h_2=>exact hr.elim
   rename_i y x' hmem hy hx'
   subst hr
   show MutC E f _ _ (M.v y) _
   intro B σ g w vals hh hrd hI hB hfree hd
   obtain rfl:hh=one (M.dS.enc x):=funext fun b=>hrd b trivial
   obtain ⟨rr,zz,hσ,hI1,hd1⟩:=start B σ g w vals hI hd
   refine (htri B _ g w vals _ (fun _ _=>rfl) hI1 hB (free1 _) hd1).mono ?_
   rintro en w' ⟨u,rfl,σ',g',hS,hI',hv⟩
   refine ⟨u,rfl,?_⟩
   have hs0:σ' 0=some (rr,zz):=hS.sig 0 _ rfl
   have hrr:rr<w.heap.size:=(hI1.base 0 rr zz rfl).2
   have hfar:=Z39 hrr hS hI' (by rw [h0];simp)
   have hle:=Zc4 (n:=w.heap.size) hI'
   have hkept:Kept E (patch (one (M.dS.enc x)) 1 r) σ' (bs++bs') w' (allG g' w.heap.size w'):=by
    intro b hb q z y1 hs hy1 j v hj hv
    have hb0:b≠0:=by
     rintro rfl
     have:=memB_iff.2 hb
     rw [this] at hmem;cases hmem
    show (if w.heap.size<=q then w'.cell? ⟨q,j,none⟩ else g'.cell q j)=some v
    rw [if_pos (hfar b q z hb0 (by rw [hy1];simp) hs)]
    exact hv
   have hval:=o1.den _ σ' g' w' B u _ (fun _ _=>rfl) hI' hle (hkept.sub fun b hb=>List.mem_append_left _ hb) hv
   have hcell:∀q o v,(allG g' w.heap.size w').cell q o=some v->g'.cell q o=some v\/w.heap.size<=q:=by
    intro q o v hv
    have hv:(if w.heap.size<=q then w'.cell? ⟨q,o,none⟩ else g'.cell q o)=some v:=hv
    split at hv
    · exact .inr (by assumption)
    · exact .inl hv
   have hobj:∀q es,(allG g' w.heap.size w').obj q=some es->g'.obj q=some es\/w.heap.size<=q:=by
    intro q es hv
    have hv:(if w.heap.size<=q then (match w'.heap[q]? with|some (.map es _)=>some es|_=>none) else g'.obj q)=some es:=hv
    split at hv
    · exact .inr (by assumption)
    · exact .inl hv
   have hS1:=stp _ g g' _ w w' σ' hS hle hcell hobj
   have hG:=Zgn (n:=w.heap.size) (B':=B) hI'
   obtain ⟨c1,c2',c3⟩:=M.dS.ok _ _ hx'
   have hI2:Inv E B (σ1 (rr,zz)) (one (M.dS.enc x')) (allG g' w.heap.size w') w':=by
    refine ⟨hG.gc,hG.gm,fun b y1 hy1=> ?_,fun b b' q z z' h1 h2 _ _=>by rw [Zbd h1,Zbd h2],fun b q z hs=>⟨(hI1.base b q z hs).1,Nat.lt_of_lt_of_le (hI1.base b q z hs).2 hS.size⟩,fun b y1 q z o v hy1 hs hv=> ?_,fun b y1 q z hy1 hs=> ?_,hG.glob⟩
    · obtain ⟨rfl,rfl⟩:=Vf hy1
      refine ⟨rr,zz,rfl,?_⟩
      obtain ⟨r2,z2,m1,arr,e,k1,k2,k3,k4,k5⟩:=hI'.blk 0 _ h0
      rw [hs0] at m1;cases m1
      have hl:cs'.length=c2.length:=o2.len
      refine ⟨arr,e,k1,k2,?_,fun j sv hj=> ?_,trivial⟩
      · simp only [Blk.cells] at k3⊢;omega
      · obtain ⟨s1,h1,h2⟩:=c3 σ0 (allG g' w.heap.size w') j sv hj
        have hjl:j<c2.length:=by rw [<-hl];exact (gA9.1 h1).1
        obtain ⟨v,m1,m2⟩:=k4 j _ (gB9 hjl)
        have:=o2.den _ σ' g' w' B _ (fun _ _=>rfl) hI' hle (hkept.sub fun b hb=>List.mem_append_right _ hb) j _ s1 v (gB9 hjl) h1 m2
        exact ⟨v,m1,(h2 v this).mono (fun b p h=>by cases h) (.refl _)⟩
    · obtain ⟨_,e⟩:=σ1_some hs
      obtain ⟨rfl,rfl⟩:=Vf hy1
      cases e
      rcases hcell _ o v hv with h1|h1
      · have h2:o<0:=hI'.fz 0 (.raw c2 0 tg) _ _ o v h0 hs0 h1
        omega
      · omega
    · obtain ⟨_,e⟩:=σ1_some hs
      cases e
      cases hg':(allG g' w.heap.size w').obj rr with
      |none=>rfl
      |some es=>
       rcases hobj _ es hg' with h1|h1
       · rw [hI'.fm 0 _ _ _ h0 hs0] at h1;cases h1
       · omega
   obtain ⟨q1,q2⟩:=Wh hE (i:=1) (v:=M.v y) (v0:= .unk) (x':=some (M.dS.enc x')) hI (Zvp _) hσ rfl hS1 hI2 (fun c hc=>by cases hc;rfl) (fun c hc=>by cases hc;exact M.hS x')
   exact ⟨σ,_,q1,q2,(hdec v' y hy _ _ u hval).mono (fun b p h=>by cases h) (.refl _)⟩
end
end
end
section
open Go
inductive WK where
 |at_
 |ki
 |un
 |ca
def WK.src:WK->List Nat
 | .at_=> [116,121,112,101,32,111,119,110,101,114,32,114,97,105,108,119,97,121,32,115,104,105,112,112,101,114,32,99,108,97,115,115,32,119,101,105,103,104,116,32,107,109,32,109,105,110,117,116,101,115,32,119,111,114,107,105,110,103,32,99,111,100,101,32,119,111,114,116,104,32,99,111,115,116,32,109,111,110,116,104,32,98,101,103,105,110,32,112,97,114,116,115,32,112,97,114,116]
 | .ki=> [104,105,114,101,32,100,101,109,117,114,114,97,103,101,32,102,114,101,105,103,104,116,32,114,101,112,97,105,114,32,108,111,115,115,32,99,108,101,97,110,105,110,103]
 | .un=> [109,111,110,101,121,32,109,105,110,117,116,101,32,107,109,32,107,103]
 | .ca=> [109,105,110,32,109,97,120,32,100,111,119,110,32,117,112,32,104,97,108,102]
def WK.words:WK->List (List Nat)
 | .at_=> [[116,121,112,101],[111,119,110,101,114],[114,97,105,108,119,97,121],[115,104,105,112,112,101,114],[99,108,97,115,115],[119,101,105,103,104,116],[107,109],[109,105,110,117,116,101,115],[119,111,114,107,105,110,103],[99,111,100,101],[119,111,114,116,104],[99,111,115,116],[109,111,110,116,104],[98,101,103,105,110],[112,97,114,116,115],[112,97,114,116]]
 | .ki=> [[104,105,114,101],[100,101,109,117,114,114,97,103,101],[102,114,101,105,103,104,116],[114,101,112,97,105,114],[108,111,115,115],[99,108,101,97,110,105,110,103]]
 | .un=> [[109,111,110,101,121],[109,105,110,117,116,101],[107,109],[107,103]]
 | .ca=> [[109,105,110],[109,97,120],[100,111,119,110],[117,112],[104,97,108,102]]
theorem Zq7:Zi EL F0 (vc EL F0 2000) 165 [.str true (WK.src .at_)] hp0 0 (fun r=>ret EL (patch hp0 0 r) r.v (.psl .strs (WK.words .at_) false))=(WK.words .at_=WK.words .at_):=by kernel_rfl
theorem Zq8:Zi EL F0 (vc EL F0 2000) 165 [.str true (WK.src .ki)] hp0 0 (fun r=>ret EL (patch hp0 0 r) r.v (.psl .strs (WK.words .ki) false))=(WK.words .ki=WK.words .ki):=by kernel_rfl
theorem Zq9:Zi EL F0 (vc EL F0 2000) 165 [.str true (WK.src .un)] hp0 0 (fun r=>ret EL (patch hp0 0 r) r.v (.psl .strs (WK.words .un) false))=(WK.words .un=WK.words .un):=by kernel_rfl
theorem Zra:Zi EL F0 (vc EL F0 2000) 165 [.str true (WK.src .ca)] hp0 0 (fun r=>ret EL (patch hp0 0 r) r.v (.psl .strs (WK.words .ca) false))=(WK.words .ca=WK.words .ca):=by kernel_rfl
def wkOf (s:List Nat):Option WK:=
 match eqL s (WK.src .at_) with
 |true=>some .at_
 |false=>(match eqL s (WK.src .ki) with
  |true=>some .ki
  |false=>(match eqL s (WK.src .un) with
   |true=>some .un
   |false=>(match eqL s (WK.src .ca) with|true=>some .ca|false=>none)))
theorem Zol {s:List Nat} {k:WK} (h:wkOf s=some k):s=k.src:=by
 unfold wkOf at h
 repeat' split at h
 all_goals first|(cases h;rename_i e;exact Zpw e)|cases h
theorem Zmi (k:WK):PureC E 165 [.str true k.src] (.psl .strs k.words false):=by
 cases k
 · exact Zcr (n:=2000) (by rw [Zq7])
 · exact Zcr (n:=2000) (by rw [Zq8])
 · exact Zcr (n:=2000) (by rw [Zq9])
 · exact Zcr (n:=2000) (by rw [Zra])
def Zjs:List (SV thy)->Option (SV thy)
 | [.str true s]=>(match wkOf s with|some k=>some (.psl .strs k.words false)|none=>none)
 |_=>none
def Zu7:Sum thy:=sumO Zjs
theorem Zrb:SumOk E 165 Zu7:=Vu E_ok (Zb rfl) fun args v h=>by
 unfold Zjs at h
 split at h
 · split at h
   · rename_i k hk
     cases h
     rw [Zol hk]
     exact Zmi k
   · cases h
 · cases h
def idxS (s:List Nat):Nat->List (List Nat)->Int
 |_,[]=> -1
 |k,x::r=>if s=x then (k:Int) else idxS s (k+1) r
theorem Zu8 {s:List Nat} {l:List (List Nat)}:∀{k:Nat} {x:List Nat},l[k]? =some x->idxS s k (l.drop k)=if s=x then (k:Int) else idxS s (k+1) (l.drop (k+1)):=by
 intro k x h
 have hlt:=(gA9.1 h).1
 rw [List.drop_eq_getElem_cons hlt]
 have:l[k]=x:=(gA9.1 h).2
 rw [this];rfl
def Aixs:Fr thy->Hp thy->Nat->Ann thy:=fun T h i=>{X:=LX,fr:=fun x=> [(0,T 0),(1,T 1),(7,T 7),(8,.int false .i64 x.k)],bl:=fun x=> [],src:=fun _=> [],md:= [],ih:=i,M:=i+30,meas:=fun x=>x.r}
def Fixs:Fns thy:=addL F0 44 2 Aixs E
theorem Zzp (l:List (List Nat)) (s:List Nat) (v:Int):Zi E Fixs (vc E Fixs 400) 44 [.psl Th.strs l false,.str false s] hp0 0 (fun r=>ret E (patch hp0 0 r) r.v (.int false .i64 v))=(
∃(R:LX->Prop),(∃(x:LX),R x/\true=true/\((l=l/\(false=true->false=true))/\s=s/\(↑(List.length l):Int)=(↑(List.length l):Int)/\(0:Int)=(↑(LX.k x):Int)/\True)/\True)/\∀(x:LX),R x->(decide ((↑(LX.k x):Int)<(↑(List.length l):Int))=true->(0:Int)<=(↑(LX.k x):Int)/\(↑(LX.k x):Int)+(1:Int)<=(↑(List.length l):Int)/\∀(x_1:List Nat),l[Int.toNat (↑(LX.k x):Int)]? =some x_1->((s==x_1)=true->(↑(LX.k x):Int)=v)/\((s==x_1)=false->∃(x_2:LX),R x_2/\x_2.2+(1:Nat)<=x.2/\true=true/\((l=l/\(false=true->false=true))/\s=s/\(↑(List.length l):Int)=(↑(List.length l):Int)/\wr IntKind.i64 ((↑(LX.k x):Int)+(1:Int))=(↑(LX.k x_2):Int)/\True)/\True))/\(decide ((↑(LX.k x):Int)<(↑(List.length l):Int))=false->(-1:Int)=v)):=by kernel_rfl
theorem Zzq (l:List (List Nat)) (s:List Nat) (hl:l.length<=1000000000):PureC E 44 [.psl Th.strs l false,.str false s] (.int false .i64 (idxS s 0 l)):=by
 have hF:FnsOk E Fixs:=Zt E_ok F0_ok _ _ _
 refine Za E_ok (Ze E_ok hF 400) ?_
 rw [Zzp]
 simp only [and_true,true_and,decide_eq_true_eq,decide_eq_false_iff_not,beq_iff_eq,beq_eq_false_iff_ne,imp_self]
 refine ⟨fun x=>x.k<=l.length/\idxS s x.k (l.drop x.k)=idxS s 0 l/\x.r=l.length-x.k,⟨⟨0,l.length,[],0⟩,⟨(by dsimp only;omega),rfl,rfl⟩,rfl⟩,?_⟩
 rintro x ⟨hk,hv,hr⟩
 refine And.intro (fun hq=>⟨by omega,by omega,fun y hy=> ?_⟩) (fun hq=> ?_)
 · have hy:l[x.k]? =some y:=hy
   rw [Zu8 hy] at hv
   refine ⟨fun e=> ?_,fun e=> ?_⟩
   · rw [if_pos e] at hv;exact hv
   · rw [if_neg e] at hv
     exact ⟨⟨x.k+1,l.length-(x.k+1),[],0⟩,⟨(by dsimp only;omega),hv,rfl⟩,by show l.length-(x.k+1)+1<=x.r;omega,wr64 (by omega) (by omega)⟩
 · rw [List.drop_eq_nil_of_le (by omega)] at hv
   exact hv
def Sixs:Sum thy:=Vl (dA2 (Zli (E:=E) Th.strs:Dc E (List (thy.dom Th.strs))) dS) (fun x=>x.1.length<=1000000000) (fun x=>idxS x.2.1 0 x.1) fun y=> .int false .i64 y
theorem Z3x:SumOk E 44 Sixs:=Zz E_ok (Zb (f:=44) rfl) fun x h=>Zzq x.1 x.2.1 h
end
section
open Go
end
section
open Go
theorem Ex.eta (x:Ex):Ex.mk x.op x.n x.d0 x.d1 x.d2 x.d3 x.l=x:=by cases x;rfl
theorem Tst.eta (x:Tst):Tst.mk x.attr x.low x.high=x:=rfl
theorem Cls.eta (x:Cls):Cls.mk x.name x.when_ x.pay=x:=rfl
def Ex.u (x:Ex):List Int:= [x.d0,x.d1,x.d2,x.d3]
mutual
def Ex.sz:Ex->Nat
 | .mk _ _ _ _ _ _ l=>Ex.szL l+1
def Ex.szL:List Ex->Nat
 | []=>0
 |x::r=>x.sz+Ex.szL r
end
theorem Ex.sz_eq (x:Ex):x.sz=Ex.szL x.l+1:=by cases x;simp only [Ex.sz,Ex.l]
theorem Ex.sz_pos (x:Ex):0<x.sz:=by rw [Ex.sz_eq];omega
theorem Ex.szL_mem:∀{l:List Ex} {x:Ex},x∈l->x.sz<=Ex.szL l
 |y::r,x,h=>by
  rw [Ex.szL]
  rcases List.mem_cons.1 h with rfl|h
  · omega
  · have:=Ex.szL_mem h;omega
theorem Ex.sz_mem {x y:Ex} (h:y∈x.l):y.sz<x.sz:=by
 have:=Ex.szL_mem h
 rw [Ex.sz_eq x];omega
theorem Ex.szL_len:∀(l:List Ex),l.length<=Ex.szL l
 | []=>Nat.le_refl _
 |x::r=>by
  have:=Ex.szL_len r
  have:=x.sz_pos
  rw [Ex.szL,List.length_cons];omega
mutual
def Xa:Ex->Nat
 | .mk _ _ _ _ _ _ l=>Zec l+1
def Zec:List Ex->Nat
 | []=>0
 |x::r=>max (Xa x) (Zec r)
end
theorem Z0e (x:Ex):Xa x=Zec x.l+1:=by cases x;simp only [Xa,Ex.l]
mutual
theorem Zov:∀(x:Ex),Xa x<=x.sz
 | .mk _ _ _ _ _ _ l=>by have:=Zow l;simp only [Xa,Ex.sz];omega
theorem Zow:∀(l:List Ex),Zec l<=Ex.szL l
 | []=>Nat.le_refl _
 |x::r=>by have:=Zov x;have:=Zow r;simp only [Zec,Ex.szL];omega
end
def cnt (u:List Int) (n:Int):Nat:=(u.filter fun d=>d==n).length
def Zj8 (u:List Int):Bool:=decide (cnt u 0+cnt u 1+cnt u (-1)=4)&&decide (cnt u 1<=1)&&decide (cnt u (-1)<=1)
def Z4h (op:Int):Nat:=if op=1\/op=2 then 0 else if op=11 then 4 else 2
def Z0f (op:Int):Int:=if op=1 then 1099511627776 else if op=2 then 15 else 0
def Zj9 (op n:Int) (u:List Int) (k:Nat):Bool:=
 decide (1<=op)&&decide (op<=11)&&decide (0<=n)&&decide (n<=Z0f op)&&decide (k=Z4h op)&&Zj8 u&&(decide (op=1)||decide (u= [0,0,0,0]))
mutual
def Zo:Ex->Bool
 | .mk op n d0 d1 d2 d3 l=>Zj9 op n [d0,d1,d2,d3] l.length&&V5 l
def V5:List Ex->Bool
 | []=>true
 |x::r=>Zo x&&V5 r
end
theorem Zhn (x:Ex):Zo x=(Zj9 x.op x.n x.u x.l.length&&V5 x.l):=by cases x;simp only [Zo,Ex.op,Ex.n,Ex.u,Ex.d0,Ex.d1,Ex.d2,Ex.d3,Ex.l]
theorem formL_iff:∀{l:List Ex},V5 l=true↔∀x∈l,Zo x=true
 | []=>by simp [V5]
 |x::r=>by simp [V5,formL_iff (l:=r)]
theorem Zr3 {l:List Ex} {k:Nat} {y:Ex} (h:l[k]? =some y):V5 (l.drop k)=(Zo y&&V5 (l.drop (k+1))):=by
 have hk:=(gA9.1 h).1
 have:l.drop k=y::l.drop (k+1):=by rw [List.drop_eq_getElem_cons hk];congr 1;exact (gA9.1 h).2
 rw [this,V5]
end
section
open Go
def exA (x:Ex):SV thy:= .agg (encF false .exprs x)
def dExp:DcL E (Ex×Unit):= .cons (dR .exprs) .nil
def Z6n:DcL E (Ex×Int×Unit):= .cons (dR .exprs) (.cons (dInt (E:=E) .i64) .nil)
def Z8f (m:Nat):Sum thy:=sumP Z6n (fun x=>x.1.sz<m/\1<=x.2.1/\x.2.1<=1000) fun x=> .int false .i64 (min (x.1.sz:Int) x.2.1)
def Z8g:Fr thy->Hp thy->Nat->Ann thy:=fun T h i=>{X:=DX,fr:=fun x=> [(1,T 1),(2,T 2),(5,.int false .i64 x.j),(6,.int false .i64 x.k)],bl:=fun x=>blkP h (T 2),src:=fun _=> [],md:= [],ih:=i,M:=i+30,meas:=fun x=>x.r}
def Z6o (m:Nat):Fns thy:=addL (addS F0 22 (Z8f m)) 22 3 Z8g E
abbrev qBH1 (a0:Ex):=(Ex.op a0=Ex.op a0/\Ex.n a0=Ex.n a0/\Ex.d0 a0=Ex.d0 a0/\Ex.d1 a0=Ex.d1 a0/\Ex.d2 a0=Ex.d2 a0/\Ex.d3 a0=Ex.d3 a0/\(Ex.l a0=Ex.l a0/\(false=true->false=true))/\True)
abbrev qBH2 (a0:Ex):=(Ex.mk (Ex.op a0) (Ex.n a0) (Ex.d0 a0) (Ex.d1 a0) (Ex.d2 a0) (Ex.d3 a0) (Ex.l a0))
abbrev qBH3 (a0:DX):=(↑(DX.k a0):Int)
theorem Zva (m:Nat) (x:Ex) (lim:Int) (v:Int):Zi E F0 (vc E (Z6o m) 400) 22 [exA x,.int false .i64 lim] hp0 0 (fun r=>ret E (patch hp0 0 r) r.v (.int false .i64 v))=(
 ∃(R:DX->Prop),(∃(x_1:DX),R x_1/\true=true/\(lim=lim/\(0:Nat)=(0:Nat)/\(1:Int)=DX.j x_1/\(0:Int)=(qBH3 x_1)/\True)/\(qBH1 x)/\True)/\∀(x_1:DX),R x_1->∃(Q:Bool->Prop),((decide ((qBH3 x_1)<(↑(List.length (Ex.l x)):Int))=true->(decide (DX.j x_1<lim)=true->Q true)/\(decide (DX.j x_1<lim)=false->Q false))/\(decide ((qBH3 x_1)<(↑(List.length (Ex.l x)):Int))=false->Q false))/\(Q true->(0:Int)<=(qBH3 x_1)/\(qBH3 x_1)+(1:Int)<=(↑(List.length (Ex.l x)):Int)/\∀(x_2:Ex),(Ex.l x)[Int.toNat (qBH3 x_1)]? =some x_2->(Ex.sz (qBH2 x_2)+(1:Nat)<=m/\(1:Int)<=wr IntKind.i64 (lim-DX.j x_1)/\wr IntKind.i64 (lim-DX.j x_1)<=(1000:Int))/\∃(x':DX),R x'/\x'.2+(1:Nat)<=x_1.2/\true=true/\(lim=lim/\(0:Nat)=(0:Nat)/\wr IntKind.i64 (DX.j x_1+min (↑(Ex.sz (qBH2 x_2)):Int) (wr IntKind.i64 (lim-DX.j x_1)))=DX.j x'/\wr IntKind.i64 ((qBH3 x_1)+(1:Int))=(qBH3 x')/\True)/\(qBH1 x)/\True)/\(Q false->DX.j x_1=v)):=by kernel_rfl
theorem Zbb {α:Type} {l:List α} {k:Nat} {y:α} (h:l[k]? =some y):l.drop k=y::l.drop (k+1):=by
 have hk:=(gA9.1 h).1
 rw [List.drop_eq_getElem_cons hk];congr 1;exact (gA9.1 h).2
theorem Ve {α:Type} {l:List α} {k:Nat} (h:l.length<=k):l.drop k= []:=List.drop_eq_nil_of_le h
theorem Zzs:∀(m:Nat) (x:Ex) (lim:Int),x.sz<=m->1<=lim->lim<=1000->PureC E 22 [exA x,.int false .i64 lim] (.int false .i64 (min (x.sz:Int) lim)):=by
 intro m
 induction m with
 |zero=>intro x lim h;have:=x.sz_pos;omega
 |succ m ih=>
  intro x lim hm h1 h2
  have hF:FnsOk E (Z6o (m+1)):=Zt E_ok (Zc F0_ok (Zs E_ok (Zb (f:=22) rfl) fun x h=>ih x.1 x.2.1 (by have:=h.1;omega) h.2.1 h.2.2)) _ _ _
  refine Za E_ok (Y4 E_ok F0_ok fun f N c=>(Ze6 E_ok hF 400 f N c).1) ?_
  rw [Zva];delta qBH1 qBH2 qBH3
  simp only [Y3,Yi,Vr,Vs,Vt,beq_iff_eq,bne_iff_ne,beq_eq_false_iff_ne,bne_eq_false_iff_eq,decide_eq_true_eq,decide_eq_false_iff_not,Bool.or_eq_true,Bool.or_eq_false_iff,Bool.not_eq_true',Bool.not_eq_false',Bool.and_eq_true,Bool.and_true,Bool.true_and,Bool.and_eq_false_iff,beq_self_eq_true,Yx,Yy,ne_eq,and_true,true_and,Bool.true_eq_false,Bool.false_eq_true,false_or,or_false,true_implies,imp_self,Int.ofNat_eq_natCast,not_true_eq_false,not_false_eq_true,Decidable.not_not,Ex.eta]
  have hsz:=x.sz_eq
  have hlen:=Ex.szL_len x.l
  refine ⟨fun y=>y.k<=x.l.length/\(y.k:Int)+1<=y.j/\y.j<=lim/\min (y.j+(Ex.szL (x.l.drop y.k):Int)) lim=min (x.sz:Int) lim/\y.r=x.l.length-y.k,⟨⟨0,x.l.length,[],[],0,0,0,1⟩,⟨(by dsimp only;omega),(by dsimp only;omega),h1,by dsimp only;rw [List.drop_zero];omega,rfl⟩,rfl,rfl⟩,?_⟩
  rintro y ⟨hk,hj1,hj2,hv,hr⟩
  refine ⟨fun b=>b=true↔(y.k<x.l.length/\y.j<lim),⟨fun h3=>⟨fun h4=>by simp;omega,fun h4=>by simp;omega⟩,fun h3=>by simp;omega⟩,fun hq=> ?_,fun hq=> ?_⟩
  · have hq:=hq.1 rfl
    refine ⟨by omega,by omega,fun z hz=> ?_⟩
    have hz:x.l[y.k]? =some z:=hz
    have hzs:=Ex.sz_mem (List.mem_of_getElem? hz)
    rw [Zbb hz,Ex.szL] at hv
    have hzp:=z.sz_pos
    rw [wr64 (n:=lim-y.j) (by omega) (by omega),wr64 (n:=(y.k:Int)+1) (by omega) (by omega),wr64 (n:=y.j+min (z.sz:Int) (lim-y.j)) (by omega) (by omega)]
    exact ⟨⟨by omega,by omega,by omega⟩,⟨y.k+1,x.l.length-(y.k+1),[],[],0,0,0,y.j+min (z.sz:Int) (lim-y.j)⟩,⟨(by dsimp only;omega),(by dsimp only;omega),(by dsimp only;omega),(by dsimp only;omega),rfl⟩,by show x.l.length-(y.k+1)+1<=y.r;omega,rfl,rfl⟩
  · have hq:¬(y.k<x.l.length/\y.j<lim):=fun h=>by have:=hq.2 h;simp at this
    by_cases h3:y.j<lim
    · rw [Ve (by omega)] at hv
      simp only [Ex.szL] at hv
      omega
    · have:=Int.le_antisymm hj2 (by omega)
      omega
def Z8h (m:Nat):Sum thy:=sumP dExp (fun x=>x.1.sz<m) fun x=> .int false .i64 (Xa x.1:Int)
def Z8i:Fr thy->Hp thy->Nat->Ann thy:=fun T h i=>{X:=DX,fr:=fun x=> [(3,.int false .i64 x.j),(7,T 7),(8,T 8),(9,.int false .i64 x.k)],bl:=fun x=> [],src:=fun _=> [],md:= [],ih:=i,M:=i+30,meas:=fun x=>x.r}
def Z6p (m:Nat):Fns thy:=addL (addS F0 31 (Z8h m)) 31 3 Z8i E
theorem Zvb (m:Nat) (x:Ex) (v:Int):Zi E F0 (vc E (Z6p m) 400) 31 [exA x] hp0 0 (fun r=>ret E (patch hp0 0 r) r.v (.int false .i64 v))=(
∃(R:DX->Prop),(∃(x_1:DX),R x_1/\true=true/\((0:Int)=DX.j x_1/\(Ex.l x=Ex.l x/\(false=true->false=true))/\(↑(List.length (Ex.l x)):Int)=(↑(List.length (Ex.l x)):Int)/\(0:Int)=(↑(DX.k x_1):Int)/\True)/\True)/\∀(x_1:DX),R x_1->(decide ((↑(DX.k x_1):Int)<(↑(List.length (Ex.l x)):Int))=true->(0:Int)<=(↑(DX.k x_1):Int)/\(↑(DX.k x_1):Int)+(1:Int)<=(↑(List.length (Ex.l x)):Int)/\∀(x_2:Ex),(Ex.l x)[Int.toNat (↑(DX.k x_1):Int)]? =some x_2->Ex.sz (Ex.mk (Ex.op x_2) (Ex.n x_2) (Ex.d0 x_2) (Ex.d1 x_2) (Ex.d2 x_2) (Ex.d3 x_2) (Ex.l x_2))+(1:Nat)<=m/\∃(x':DX),R x'/\x'.2+(1:Nat)<=x_1.2/\true=true/\(mm2 true (DX.j x_1) (↑(Xa (Ex.mk (Ex.op x_2) (Ex.n x_2) (Ex.d0 x_2) (Ex.d1 x_2) (Ex.d2 x_2) (Ex.d3 x_2) (Ex.l x_2))):Int)=DX.j x'/\(Ex.l x=Ex.l x/\(false=true->false=true))/\(↑(List.length (Ex.l x)):Int)=(↑(List.length (Ex.l x)):Int)/\wr IntKind.i64 ((↑(DX.k x_1):Int)+(1:Int))=(↑(DX.k x'):Int)/\True)/\True)/\(decide ((↑(DX.k x_1):Int)<(↑(List.length (Ex.l x)):Int))=false->wr IntKind.i64 (DX.j x_1+(1:Int))=v)):=by kernel_rfl
theorem Zrd {l:List Ex} {k:Nat} {y:Ex} (h:l[k]? =some y):Zec (l.drop k)=max (Xa y) (Zec (l.drop (k+1))):=by rw [Zbb h,Zec]
theorem Zzt:∀(m:Nat) (x:Ex),x.sz<=m->m<=1000000000000->PureC E 31 [exA x] (.int false .i64 (Xa x:Int)):=by
 intro m
 induction m with
 |zero=>intro x h;have:=x.sz_pos;omega
 |succ m ih=>
  intro x hm hb
  have hF:FnsOk E (Z6p (m+1)):=Zt E_ok (Zc F0_ok (Zs E_ok (Zb (f:=31) rfl) fun x h=>ih x.1 (by omega) (by omega))) _ _ _
  refine Za E_ok (Y4 E_ok F0_ok fun f N c=>(Ze6 E_ok hF 400 f N c).1) ?_
  rw [Zvb]
  simp only [Y3,Yi,Vr,Vs,Vt,beq_iff_eq,bne_iff_ne,beq_eq_false_iff_ne,bne_eq_false_iff_eq,decide_eq_true_eq,decide_eq_false_iff_not,Bool.or_eq_true,Bool.or_eq_false_iff,Bool.not_eq_true',Bool.not_eq_false',Bool.and_eq_true,Bool.and_true,Bool.true_and,Bool.and_eq_false_iff,beq_self_eq_true,Yx,Yy,ne_eq,and_true,true_and,Bool.true_eq_false,Bool.false_eq_true,false_or,or_false,true_implies,imp_self,Int.ofNat_eq_natCast,not_true_eq_false,not_false_eq_true,Decidable.not_not,Ex.eta]
  have hsz:=x.sz_eq
  have hlen:=Ex.szL_len x.l
  have hnx:=Z0e x
  have hns:=Zov x
  refine ⟨fun y=>y.k<=x.l.length/\0<=y.j/\max y.j (Zec (x.l.drop y.k):Int)=(Zec x.l:Int)/\y.r=x.l.length-y.k,⟨⟨0,x.l.length,[],[],0,0,0,0⟩,⟨(by dsimp only;omega),(by dsimp only;omega),by dsimp only;rw [List.drop_zero];omega,rfl⟩,rfl,rfl⟩,?_⟩
  rintro y ⟨hk,hj1,hv,hr⟩
  refine And.intro (fun hq=> ?_) (fun hq=> ?_)
  · refine ⟨by omega,by omega,fun z hz=> ?_⟩
    have hz:x.l[y.k]? =some z:=hz
    have hzs:=Ex.sz_mem (List.mem_of_getElem? hz)
    rw [Zrd hz] at hv
    rw [wr64 (n:=(y.k:Int)+1) (by omega) (by omega)]
    exact ⟨by omega,⟨y.k+1,x.l.length-(y.k+1),[],[],0,0,0,max y.j (Xa z:Int)⟩,⟨(by dsimp only;omega),(by dsimp only;omega),(by dsimp only;omega),rfl⟩,by show x.l.length-(y.k+1)+1<=y.r;omega,rfl,rfl⟩
  · rw [Ve (by omega)] at hv
    simp only [Zec] at hv
    rw [wr64 (by omega) (by omega)]
    omega
def dimA (a b c d:Int):SV thy:= .agg [.int false .i64 a,.int false .i64 b,.int false .i64 c,.int false .i64 d]
structure WX where
 k:Nat
 r:Nat
 m:List (Int×Int)
def Z8j:Fr thy->Hp thy->Nat->Ann thy:=fun T h i=>{X:=WX,fr:=fun x=> [(3,T 3),(7,T 7),(8,.int false .i64 x.k)],bl:=fun x=> [(bOf (T 3),.map (Xd .i64 (Xx E Th.ints false) x.m))],src:=fun _=> [],md:= [bOf (T 3)],ih:=i,M:=i+30,meas:=fun x=>x.r}
def Z30:Fns thy:=addL F0 61 3 Z8j E
abbrev qBH4:=(Xx E Th.ints (Zh (TypeDesc.int IntKind.i64)))
abbrev qBH7:=(0:Int)
abbrev qBH5 (a0:Int) (b0:Int) (c0:Int) (d0:Int):=(List.getD [a0,b0,c0,d0] (0:Nat) qBH7=List.getD [a0,b0,c0,d0] (0:Nat) qBH7/\List.getD [a0,b0,c0,d0] (1:Nat) qBH7=List.getD [a0,b0,c0,d0] (1:Nat) qBH7/\List.getD [a0,b0,c0,d0] (2:Nat) qBH7=List.getD [a0,b0,c0,d0] (2:Nat) qBH7/\List.getD [a0,b0,c0,d0] (3:Nat) qBH7=List.getD [a0,b0,c0,d0] (3:Nat) qBH7/\True)
abbrev qBH6:=(Xx E Th.ints false)
abbrev qBH8 (a0:WX):=(↑(WX.k a0):Int)
abbrev qBH9:=(1:Int)
theorem Zvc (a b c d:Int) (v:Bool):Zi E Z30 (vc E Z30 400) 61 [dimA a b c d] hp0 0 (fun r=>ret E (patch hp0 0 r) r.v (.bool false v))=(
 (4:Nat)=(4:Nat)/\∃(R:WX->Prop),(∃(x:WX),R x/\true=true/\(True/\(qBH5 a b c d)/\qBH7=(qBH8 x)/\True)/\([]=Xd IntKind.i64 qBH6 (WX.m x)/\true=true)/\True)/\∀(x:WX),R x->(decide ((qBH8 x)<(4:Int))=true->qBH7<=(qBH8 x)/\(qBH8 x)+qBH9<=(↑(4:Nat):Int)/\∀(y:Int),[List.getD [a,b,c,d] (0:Nat) qBH7,List.getD [a,b,c,d] (1:Nat) qBH7,List.getD [a,b,c,d] (2:Nat) qBH7,List.getD [a,b,c,d] (3:Nat) qBH7][Int.toNat (qBH8 x)]? =some y->∃(l:List (Int×Int)),Xd IntKind.i64 qBH6 (WX.m x)=Xd IntKind.i64 qBH4 l/\∀(y_1:Int),y_1=Option.getD (Yr l y) qBH7->∃(l:List (Int×Int)),Xd IntKind.i64 qBH6 (WX.m x)=Xd IntKind.i64 qBH4 l/\∃(x':WX),R x'/\x'.2+(1:Nat)<=x.2/\true=true/\(True/\(qBH5 a b c d)/\wr IntKind.i64 ((qBH8 x)+qBH9)=(qBH8 x')/\True)/\(Xd IntKind.i64 qBH4 (putS l y (wr IntKind.i64 (y_1+qBH9)))=Xd IntKind.i64 qBH6 (WX.m x')/\nidE (0:Nat) (Xd IntKind.i64 qBH4 (putS l y (wr IntKind.i64 (y_1+qBH9))))=true)/\True)/\(decide ((qBH8 x)<(4:Int))=false->∃(l:List (Int×Int)),Xd IntKind.i64 qBH6 (WX.m x)=Xd IntKind.i64 qBH4 l/\∀(y:Int),y=Option.getD (Yr l qBH7) qBH7->∃(l:List (Int×Int)),Xd IntKind.i64 qBH6 (WX.m x)=Xd IntKind.i64 qBH4 l/\∀(y_1:Int),y_1=Option.getD (Yr l qBH9) qBH7->∃(l:List (Int×Int)),Xd IntKind.i64 qBH6 (WX.m x)=Xd IntKind.i64 qBH4 l/\∀(y_2:Int),y_2=Option.getD (Yr l (-1:Int)) qBH7->((wr IntKind.i64 (wr IntKind.i64 (y+y_1)+y_2)==(4:Int))=true->∃(l:List (Int×Int)),Xd IntKind.i64 qBH6 (WX.m x)=Xd IntKind.i64 qBH4 l/\∀(y:Int),y=Option.getD (Yr l qBH9) qBH7->(decide (y<=qBH9)=true->∃(l:List (Int×Int)),Xd IntKind.i64 qBH6 (WX.m x)=Xd IntKind.i64 qBH4 l/\∀(y:Int),y=Option.getD (Yr l (-1:Int)) qBH7->(decide (y<=qBH9)=true->true=v)/\(decide (y<=qBH9)=false->false=v))/\(decide (y<=qBH9)=false->false=v))/\((wr IntKind.i64 (wr IntKind.i64 (y+y_1)+y_2)==(4:Int))=false->false=v))):=by kernel_rfl
theorem Zzu {u:List Int} {k:Nat} {y n:Int} (h:u[k]? =some y):cnt (u.take (k+1)) n=cnt (u.take k) n+(if y=n then 1 else 0):=by
 have hk:=(gA9.1 h).1
 have:u.take (k+1)=u.take k++ [y]:=by rw [List.take_succ_eq_append_getElem hk];congr 2;exact (gA9.1 h).2
 unfold cnt
 rw [this,List.filter_append,List.length_append]
 by_cases e:y=n<;>simp [e]
theorem Zon (u:List Int) (n:Int):cnt u n<=u.length:=List.length_filter_le _ _
theorem Zzv:FnsOk E Z30:=Zt E_ok F0_ok _ _ _
theorem Zvd (a b c d:Int):PureC E 61 [dimA a b c d] (.bool false (Zj8 [a,b,c,d])):=by
 refine Za E_ok (Ze E_ok Zzv 400) ?_
 rw [Zvc];delta qBH4 qBH7 qBH5 qBH6 qBH8 qBH9
 simp only [Y3,Yi,Vr,Vs,Vt,beq_iff_eq,bne_iff_ne,beq_eq_false_iff_ne,bne_eq_false_iff_eq,decide_eq_true_eq,decide_eq_false_iff_not,Bool.or_eq_true,Bool.or_eq_false_iff,Bool.not_eq_true',Bool.not_eq_false',Bool.and_eq_true,Bool.and_true,Bool.true_and,Bool.and_eq_false_iff,beq_self_eq_true,Yx,Yy,ne_eq,and_true,true_and,Bool.true_eq_false,Bool.false_eq_true,false_or,or_false,true_implies,imp_self,Int.ofNat_eq_natCast,not_true_eq_false,not_false_eq_true,Decidable.not_not]
 have hc:∀k n,k<=4->cnt ([a,b,c,d].take k) n<=4:=fun k n hk=>Nat.le_trans (Zon _ _) (by simp;omega)
 refine ⟨fun x=>x.k<=4/\(∀n,(Yr x.m n).getD 0=(cnt ([a,b,c,d].take x.k) n:Int))/\x.r=4-x.k,⟨⟨0,4,[]⟩,⟨(by dsimp only;omega),fun n=>rfl,rfl⟩,rfl,rfl⟩,?_⟩
 rintro x ⟨hk,hm,hr⟩
 refine And.intro (fun hq=>⟨by omega,by omega,fun y hy=>⟨x.m,rfl,fun y1 h1=>⟨x.m,rfl,?_⟩⟩⟩) (fun hq=> ?_)
 · have hy: [a,b,c,d][x.k]? =some y:=hy
   have:=hc x.k y (by omega)
   rw [hm y] at h1
   rw [wr64 (n:=(x.k:Int)+1) (by omega) (by omega),wr64 (n:=y1+1) (by omega) (by omega)]
   refine ⟨⟨x.k+1,3-x.k,putS x.m y (y1+1)⟩,⟨by show x.k+1<=4;omega,fun n=> ?_,by show 3-x.k=4-(x.k+1);omega⟩,by show 3-x.k+1<=x.r;omega,rfl,rfl,Zgf E_ok _⟩
   show (Yr (putS x.m y (y1+1)) n).getD 0=(cnt ([a,b,c,d].take (x.k+1)) n:Int)
   rw [Ze2,Zzu hy]
   by_cases e:y=n
   · subst e;rw [if_pos rfl,if_pos rfl,h1];simp
   · rw [if_neg e,if_neg e,hm n];simp
 · have hk4:x.k=4:=by omega
   have hm:∀n,(Yr x.m n).getD 0=(cnt [a,b,c,d] n:Int):=fun n=>by rw [hm n,hk4];rfl
   have h0:=Zon [a,b,c,d] 0
   have h1:=Zon [a,b,c,d] 1
   have h2:=Zon [a,b,c,d] (-1)
   simp only [List.length_cons,List.length_nil] at h0 h1 h2
   refine ⟨x.m,rfl,fun y hy=>⟨x.m,rfl,fun y1 hy1=>⟨x.m,rfl,fun y2 hy2=> ?_⟩⟩⟩
   rw [hm] at hy hy1 hy2
   rw [wr64 (n:=y+y1) (by omega) (by omega),wr64 (n:=y+y1+y2) (by omega) (by omega)]
   unfold Zj8
   refine And.intro (fun h3=>⟨x.m,rfl,fun z hz=> ?_⟩) (fun h3=> ?_)
   · rw [hm] at hz
     refine And.intro (fun h4=>⟨x.m,rfl,fun z2 hz2=> ?_⟩) (fun h4=> ?_)
     · rw [hm] at hz2
       refine And.intro (fun h5=> ?_) (fun h5=> ?_)
       · simp;omega
       · symm;simp only [Bool.and_eq_false_iff,decide_eq_false_iff_not];omega
     · symm;simp only [Bool.and_eq_false_iff,decide_eq_false_iff_not];omega
   · symm;simp only [Bool.and_eq_false_iff,decide_eq_false_iff_not];omega
end
section
open Go
def dDim:DcL E (List Int×Unit):=dA1 (dR .dims)
def Z6r:Sum thy:=sumP dDim (fun _=>True) fun x=> .bool false (Zj8 [x.1.getD 0 0,x.1.getD 1 0,x.1.getD 2 0,x.1.getD 3 0])
theorem Zzy:SumOk E 61 Z6r:=Zs E_ok (Zb (f:=61) rfl) fun x _=>Zvd _ _ _ _
def Z8k (m:Nat):Sum thy:=sumP dExp (fun x=>x.1.sz<m) fun x=> .bool false (Zo x.1)
def Z8l:Dc E (List Ex):=(Zli (E:=E) Th.exprs:Dc E (List (thy.dom Th.exprs)))
def Z8m (m:Nat):Sum thy:=sumP (dA2 Z8l (dFun 63)) (fun x=>Ex.szL x.1<m) fun x=> .bool false (!V5 x.1)
def Aidx:Fr thy->Hp thy->Nat->Ann thy:=fun T h i=>{X:=DX,fr:=fun x=> [(0,T 0),(1,T 1),(7,T 7),(8,.int false .i64 x.k)],bl:=fun x=> [],src:=fun _=> [],md:= [],ih:=i,M:=i+30,meas:=fun x=>x.r}
def Z32 (m:Nat):Fns thy:=addL (addS F0 30 (Z8k m)) 101 2 Aidx E
theorem Zvg (m:Nat) (l:List Ex) (v:Bool):Zi E (Z32 m) (vc E (Z32 m) 400) 62 [.psl Th.exprs l false,.fn (.func 63) [] []] hp0 0 (fun r=>ret E (patch hp0 0 r) r.v (.bool false v))=(
∃(R:DX->Prop),(∃(x:DX),R x/\true=true/\((l=l/\(false=true->false=true))/\(Fn.func (63:FuncId)=Fn.func (63:FuncId)/\True/\True)/\(↑(List.length l):Int)=(↑(List.length l):Int)/\(0:Int)=(↑(DX.k x):Int)/\True)/\True)/\∀(x:DX),R x->(decide ((↑(DX.k x):Int)<(↑(List.length l):Int))=true->(0:Int)<=(↑(DX.k x):Int)/\(↑(DX.k x):Int)+(1:Int)<=(↑(List.length l):Int)/\∀(x_1:Ex),l[Int.toNat (↑(DX.k x):Int)]? =some x_1->Ex.sz (Ex.mk (Ex.op x_1) (Ex.n x_1) (Ex.d0 x_1) (Ex.d1 x_1) (Ex.d2 x_1) (Ex.d3 x_1) (Ex.l x_1))+(1:Nat)<=m/\((!Zo (Ex.mk (Ex.op x_1) (Ex.n x_1) (Ex.d0 x_1) (Ex.d1 x_1) (Ex.d2 x_1) (Ex.d3 x_1) (Ex.l x_1)))=true->(decide ((↑(DX.k x):Int)>=(0:Int))=true->true=v)/\(decide ((↑(DX.k x):Int)>=(0:Int))=false->false=v))/\((!Zo (Ex.mk (Ex.op x_1) (Ex.n x_1) (Ex.d0 x_1) (Ex.d1 x_1) (Ex.d2 x_1) (Ex.d3 x_1) (Ex.l x_1)))=false->∃(x':DX),R x'/\x'.2+(1:Nat)<=x.2/\true=true/\((l=l/\(false=true->false=true))/\(Fn.func (63:FuncId)=Fn.func (63:FuncId)/\True/\True)/\(↑(List.length l):Int)=(↑(List.length l):Int)/\wr IntKind.i64 ((↑(DX.k x):Int)+(1:Int))=(↑(DX.k x'):Int)/\True)/\True))/\(decide ((↑(DX.k x):Int)<(↑(List.length l):Int))=false->false=v)):=by kernel_rfl
theorem Zvh (m:Nat) (hm:m<=1000000000000) (ih:∀x:Ex,x.sz<m->PureC E 30 [exA x] (.bool false (Zo x))) (l:List Ex) (hl:Ex.szL l<m):PureC E 62 [.psl Th.exprs l false,.fn (.func 63) [] []] (.bool false (!V5 l)):=by
 have hF:FnsOk E (Z32 m):=Zt E_ok (Zc F0_ok (Zs E_ok (Zb (f:=30) rfl) fun x h=>ih x.1 h)) _ _ _
 refine Za E_ok (Ze E_ok hF 400) ?_
 rw [Zvg]
 simp only [Y3,Yi,Vr,Vs,Vt,beq_iff_eq,bne_iff_ne,beq_eq_false_iff_ne,bne_eq_false_iff_eq,decide_eq_true_eq,decide_eq_false_iff_not,Bool.or_eq_true,Bool.or_eq_false_iff,Bool.not_eq_true',Bool.not_eq_false',Bool.and_eq_true,Bool.and_true,Bool.true_and,Bool.and_eq_false_iff,beq_self_eq_true,Yx,Yy,ne_eq,and_true,true_and,Bool.true_eq_false,Bool.false_eq_true,false_or,or_false,true_implies,imp_self,Int.ofNat_eq_natCast,not_true_eq_false,not_false_eq_true,Decidable.not_not,Ex.eta]
 have hlen:=Ex.szL_len l
 refine ⟨fun x=>x.k<=l.length/\V5 (l.drop x.k)=V5 l/\x.r=l.length-x.k,⟨⟨0,l.length,[],[],0,0,0,0⟩,⟨(by dsimp only;omega),rfl,rfl⟩,rfl⟩,?_⟩
 rintro x ⟨hk,hv,hr⟩
 refine And.intro (fun hq=>⟨by omega,by omega,fun y hy=> ?_⟩) (fun hq=> ?_)
 · have hy:l[x.k]? =some y:=hy
   rw [Zr3 hy] at hv
   have hys:=Ex.szL_mem (List.mem_of_getElem? hy)
   refine ⟨by omega,fun h1=> ?_,fun h1=> ?_⟩
   · rw [h1] at hv
     rw [<-hv]
     exact And.intro (fun _=>rfl) (fun h=>by omega)
   · rw [h1,Bool.true_and] at hv
     exact ⟨⟨x.k+1,l.length-(x.k+1),[],[],0,0,0,0⟩,⟨(by dsimp only;omega),hv,rfl⟩,by show l.length-(x.k+1)+1<=x.r;omega,wr64 (by omega) (by omega)⟩
 · rw [Ve (by omega)] at hv
   rw [<-hv];rfl
def Z33 (m:Nat):Fns thy:=addS (addS F0 62 (Z8m m)) 61 Z6r
abbrev qBI4:=(0:Int)
abbrev qBI2 (a0:Ex):=(!Zj8 [List.getD [Ex.d0 a0,Ex.d1 a0,Ex.d2 a0,Ex.d3 a0] (0:Nat) qBI4,List.getD [Ex.d0 a0,Ex.d1 a0,Ex.d2 a0,Ex.d3 a0] (1:Nat) qBI4,List.getD [Ex.d0 a0,Ex.d1 a0,Ex.d2 a0,Ex.d3 a0] (2:Nat) qBI4,List.getD [Ex.d0 a0,Ex.d1 a0,Ex.d2 a0,Ex.d3 a0] (3:Nat) qBI4])
abbrev qBI7 (a0:Ex):=(!(Ex.d0 a0==qBI4&&(Ex.d1 a0==qBI4&&(Ex.d2 a0==qBI4&&(Ex.d3 a0==qBI4&&true)))))
abbrev qBI1 (a0:Ex) (b0:Bool) (c0:Nat):=((qBI2 a0)=false->((Ex.op a0 !=(1:Int))=true->((qBI7 a0)=true->false=b0)/\((qBI7 a0)=false->Ex.szL (Ex.l a0)+(1:Nat)<=c0/\(!!V5 (Ex.l a0))=b0))/\((Ex.op a0 !=(1:Int))=false->Ex.szL (Ex.l a0)+(1:Nat)<=c0/\(!!V5 (Ex.l a0))=b0))
abbrev qBI3 (a0:Ex):=(↑(List.length (Ex.l a0)):Int)
abbrev qBI5 (a0:Ex) (b0:Bool->Prop):=((decide (Ex.op a0<(1:Int))=true->b0 true)/\(decide (Ex.op a0<(1:Int))=false->(decide (Ex.op a0>(11:Int))=true->b0 true)/\(decide (Ex.op a0>(11:Int))=false->b0 false)))
abbrev qBI6 (a0:Ex) (b0:Bool):=(decide (Ex.n a0<qBI4)=true->false=b0)
theorem Zvi (m:Nat) (x:Ex) (v:Bool):Zi E (Z33 m) (vc E (Z33 m) 400) 30 [exA x] hp0 0 (fun r=>ret E (patch hp0 0 r) r.v (.bool false v))=(
 ((Ex.op x==(1:Int))=true->(qBI6 x v)/\(decide (Ex.n x<qBI4)=false->(decide (Ex.n x>(1099511627776:Int))=true->false=v)/\(decide (Ex.n x>(1099511627776:Int))=false->(((qBI3 x) !=qBI4)=true->false=v)/\(((qBI3 x) !=qBI4)=false->True/\((qBI2 x)=true->false=v)/\(qBI1 x v m)))))/\((Ex.op x==(1:Int))=false->((Ex.op x==(2:Int))=true->(qBI6 x v)/\(decide (Ex.n x<qBI4)=false->(decide (Ex.n x>(15:Int))=true->false=v)/\(decide (Ex.n x>(15:Int))=false->(((qBI3 x) !=qBI4)=true->false=v)/\(((qBI3 x) !=qBI4)=false->True/\((qBI2 x)=true->false=v)/\(qBI1 x v m)))))/\((Ex.op x==(2:Int))=false->((Ex.op x==(11:Int))=true->∃(Q:Bool->Prop),(qBI5 x Q)/\(Q true->false=v)/\(Q false->(qBI6 x v)/\(decide (Ex.n x<qBI4)=false->(decide (Ex.n x>qBI4)=true->false=v)/\(decide (Ex.n x>qBI4)=false->(((qBI3 x) !=(4:Int))=true->false=v)/\(((qBI3 x) !=(4:Int))=false->True/\((qBI2 x)=true->false=v)/\(qBI1 x v m))))))/\((Ex.op x==(11:Int))=false->∃(Q:Bool->Prop),(qBI5 x Q)/\(Q true->false=v)/\(Q false->(qBI6 x v)/\(decide (Ex.n x<qBI4)=false->(decide (Ex.n x>qBI4)=true->false=v)/\(decide (Ex.n x>qBI4)=false->(((qBI3 x) !=(2:Int))=true->false=v)/\(((qBI3 x) !=(2:Int))=false->True/\((qBI2 x)=true->false=v)/\(qBI1 x v m))))))))):=by kernel_rfl
theorem Zjv (x:Ex):Zo x=true↔(1<=x.op/\x.op<=11/\0<=x.n/\(x.op=1->x.n<=1099511627776)/\(x.op=2->x.n<=15)/\(x.op≠1->x.op≠2->x.n<=0)/\(x.op=1\/x.op=2->x.l.length=0)/\(x.op=11->x.l.length=4)/\(x.op≠1->x.op≠2->x.op≠11->x.l.length=2)/\
 (x.op=1\/(x.d0=0/\x.d1=0/\x.d2=0/\x.d3=0)))/\Zj8 [x.d0,x.d1,x.d2,x.d3]=true/\V5 x.l=true:=by
 rw [Zhn]
 simp only [Zj9,Bool.and_eq_true,Bool.or_eq_true,decide_eq_true_eq,Ex.u,List.cons.injEq,and_true]
 unfold Z0f Z4h
 constructor
 · rintro ⟨⟨⟨⟨⟨⟨⟨h1,h2⟩,h3⟩,h4⟩,h5⟩,h6⟩,h7⟩,h8⟩
   refine ⟨⟨h1,h2,h3,fun h=> ?_,fun h=> ?_,fun h h'=> ?_,fun h=> ?_,fun h=> ?_,fun h h' h''=> ?_,h7⟩,h6,h8⟩
   · rw [if_pos h] at h4;exact h4
   · rw [if_neg (by omega),if_pos h] at h4;exact h4
   · rw [if_neg h,if_neg h'] at h4;exact h4
   · rw [if_pos h] at h5;exact h5
   · rw [if_neg (by omega),if_pos h] at h5;exact h5
   · rw [if_neg (by omega),if_neg h''] at h5;exact h5
 · rintro ⟨⟨h1,h2,h3,h4,h5,h6,h7,h8,h9,h10⟩,h11,h12⟩
   refine ⟨⟨⟨⟨⟨⟨⟨h1,h2⟩,h3⟩,?_⟩,?_⟩,h11⟩,h10⟩,h12⟩
   · split
     · exact h4 ‹_›
     · split
       · exact h5 ‹_›
       · exact h6 ‹_› ‹_›
   · split
     · exact h7 ‹_›
     · split
       · exact h8 ‹_›
       · exact h9 (by omega) (by omega) ‹_›
theorem Zzz {x:Ex} (h:((1<=x.op/\x.op<=11/\0<=x.n/\(x.op=1->x.n<=1099511627776)/\(x.op=2->x.n<=15)/\(x.op≠1->x.op≠2->x.n<=0)/\(x.op=1\/x.op=2->x.l.length=0)/\(x.op=11->x.l.length=4)/\(x.op≠1->x.op≠2->x.op≠11->x.l.length=2)/\
 (x.op=1\/(x.d0=0/\x.d1=0/\x.d2=0/\x.d3=0)))->Zj8 [x.d0,x.d1,x.d2,x.d3]=true->False)):false=Zo x:=by
 symm;rw [Bool.eq_false_iff];intro h'
 have:=(Zjv x).1 h'
 exact h this.1 this.2.1
theorem Zvj {x:Ex} {b:Bool} (hb:b=V5 x.l) (h:(1<=x.op/\x.op<=11/\0<=x.n/\(x.op=1->x.n<=1099511627776)/\(x.op=2->x.n<=15)/\(x.op≠1->x.op≠2->x.n<=0)/\(x.op=1\/x.op=2->x.l.length=0)/\(x.op=11->x.l.length=4)/\(x.op≠1->x.op≠2->x.op≠11->x.l.length=2)/\
 (x.op=1\/(x.d0=0/\x.d1=0/\x.d2=0/\x.d3=0)))) (hw:Zj8 [x.d0,x.d1,x.d2,x.d3]=true):b=Zo x:=by
 rw [Bool.eq_iff_iff,Zjv,hb]
 exact ⟨fun h'=>⟨h,hw,h'⟩,fun h'=>h'.2.2⟩
theorem Zz0:∀(m:Nat),m<=1000000000000->∀(x:Ex),x.sz<m->PureC E 30 [exA x] (.bool false (Zo x)):=by
 intro m
 induction m with
 |zero=>intro _ x h;omega
 |succ m ih=>
  intro hb x hm
  have hF:FnsOk E (Z33 m):=Zc (Zc F0_ok (Zs E_ok (Zb (f:=62) rfl) fun x h=>Zvh m (by omega) (ih (by omega)) x.1 h)) Zzy
  refine Za E_ok (Ze E_ok hF 400) ?_
  rw [Zvi];delta qBI4 qBI2 qBI7 qBI1 qBI3 qBI5 qBI6
  have hsz:=x.sz_eq
  repeat' (first|exact Zlj _|apply Zte|apply JR_some|apply JR_and|apply Ztf|(refine And.intro ?_ ?_)|(intro h))
  all_goals (simp only [Y3,Yi,Vr,Vs,Vt,beq_iff_eq,bne_iff_ne,beq_eq_false_iff_ne,bne_eq_false_iff_eq,decide_eq_true_eq,decide_eq_false_iff_not,Bool.or_eq_true,Bool.or_eq_false_iff,Bool.not_eq_true',Bool.not_eq_false',Bool.and_eq_true,Bool.and_true,Bool.true_and,Bool.and_eq_false_iff,beq_self_eq_true,Yx,Yy,ne_eq,and_true,true_and,Bool.true_eq_false,Bool.false_eq_true,false_or,or_false,true_implies,imp_self,Int.ofNat_eq_natCast,not_true_eq_false,not_false_eq_true,Decidable.not_not,List.getD_cons_zero,List.getD_cons_succ] at*)
  all_goals first|trivial|omega|(exact Zzz (fun h hw=>by first|omega|(simp_all;done)))|(exact Zvj (by simp) (by omega) (by simp_all))
end
end Go.Proofs.YtpmkapclhlmbbaaGreatDoor
/-
  DERIVED: THE SHELF's CONTRACTS AT THIS DUMP, IN PLAIN WORDS (tools/lay-plain.mjs out of 'YtpmkapclhlmbbaaGreatDoorTvLay0.lean', which tools/lay-shelf.mjs wrote): THE SAME DECLARATIONS UNDER THE SAME NAMES: 'import', 'namespace', 'open', 'def', 'theorem' AND NOTHING ELSE: no command of the shelf's: FOR A HAND-IN. Each laying: the table of numbers ('.._ren') and one theorem, a field a fact of the dump's own or the kernel's comparison; each contract: ONE APPLICATION.
-/
namespace Go.Proofs
open Go.Shelf
def Tryz.lays160_ren:Go.Shelf.Ren:=⟨fun|160=>60|232=>95|231=>94|227=>96|234=>98|233=>97|236=>100|235=>99|228=>137|271=>140|151=>139|197=>138|120=>175|152=>174|260=>173|137=>127|119=>193|224=>144|225=>143|217=>142|266=>180|n=>n,fun|9=>9|4=>4|3=>3|5=>5|117=>145|116=>144|0=>0|124=>148|21=>21|105=>186|46=>113|119=>222|139=>229|138=>228|n=>n,fun|3=>7|4=>8|n=>n⟩
theorem Tryz.lays160:Go.Proofs.Lays.n160 Tryz.prog Tryz.lays160_ren:={
  mixed:=by kernel_rfl
  f119:=Tryz.func193.trans (congrArg some (by kernel_rfl))
  f120:=Tryz.func175.trans (congrArg some (by kernel_rfl))
  f137:=Tryz.func127.trans (congrArg some (by kernel_rfl))
  f151:=Tryz.func139.trans (congrArg some (by kernel_rfl))
  f152:=Tryz.func174.trans (congrArg some (by kernel_rfl))
  f160:=Tryz.func60.trans (congrArg some (by kernel_rfl))
  f197:=Tryz.func138.trans (congrArg some (by kernel_rfl))
  f217:=Tryz.func142.trans (congrArg some (by kernel_rfl))
  f224:=Tryz.func144.trans (congrArg some (by kernel_rfl))
  f225:=Tryz.func143.trans (congrArg some (by kernel_rfl))
  f227:=Tryz.func96.trans (congrArg some (by kernel_rfl))
  f228:=Tryz.func137.trans (congrArg some (by kernel_rfl))
  f231:=Tryz.func94.trans (congrArg some (by kernel_rfl))
  f232:=Tryz.func95.trans (congrArg some (by kernel_rfl))
  f233:=Tryz.func97.trans (congrArg some (by kernel_rfl))
  f234:=Tryz.func98.trans (congrArg some (by kernel_rfl))
  f235:=Tryz.func99.trans (congrArg some (by kernel_rfl))
  f236:=Tryz.func100.trans (congrArg some (by kernel_rfl))
  f260:=Tryz.func173.trans (congrArg some (by kernel_rfl))
  f266:=Tryz.func180.trans (congrArg some (by kernel_rfl))
  f271:=Tryz.func140.trans (congrArg some (by kernel_rfl))
  t0:=Tryz.underlying0
  a0:=Tryz.isAgg0
  z0:=Tryz.sizeOf0
  v0:=Tryz.zeroValue0
  t3:=Tryz.underlying3
  a3:=Tryz.isAgg3
  z3:=Tryz.sizeOf3
  v3:=Tryz.zeroValue3
  t4:=Tryz.underlying4
  a4:=Tryz.isAgg4
  z4:=Tryz.sizeOf4
  v4:=Tryz.zeroValue4
  t5:=Tryz.underlying5
  a5:=Tryz.isAgg5
  z5:=Tryz.sizeOf5
  v5:=Tryz.zeroValue5
  t9:=Tryz.underlying9
  a9:=Tryz.isAgg9
  z9:=Tryz.sizeOf9
  v9:=Tryz.zeroValue9
  t21:=Tryz.underlying21
  a21:=Tryz.isAgg21
  z21:=Tryz.sizeOf21
  v21:=Tryz.zeroValue21
  t46:=Tryz.underlying113
  a46:=Tryz.isAgg113
  z46:=Tryz.sizeOf113
  v46:=Tryz.zeroValue113
  t105:=Tryz.underlying186
  a105:=Tryz.isAgg186
  z105:=Tryz.sizeOf186
  v105:=Tryz.zeroValue186
  t116:=Tryz.underlying144
  a116:=Tryz.isAgg144
  z116:=Tryz.sizeOf144
  t117:=Tryz.underlying145
  a117:=Tryz.isAgg145
  z117:=Tryz.sizeOf145
  v117:=Tryz.zeroValue145
  t119:=Tryz.underlying222
  a119:=Tryz.isAgg222
  z119:=Tryz.sizeOf222
  t124:=Tryz.underlying148
  a124:=Tryz.isAgg148
  z124:=Tryz.sizeOf148
  v124:=Tryz.zeroValue148
  t138:=Tryz.underlying228
  a138:=Tryz.isAgg228
  z138:=Tryz.sizeOf228
  v138:=Tryz.zeroValue228
  t139:=Tryz.underlying229
  a139:=Tryz.isAgg229
  z139:=Tryz.sizeOf229
  v139:=Tryz.zeroValue229
  g3:=by kernel_rfl
  g4:=by kernel_rfl}
def Tryz.lays169_ren:Go.Shelf.Ren:=⟨fun|169=>40|n=>n,fun|70=>79|9=>9|0=>0|72=>82|37=>80|127=>117|3=>3|5=>5|n=>n,fun|n=>n⟩
theorem Tryz.lays169:Go.Proofs.Lays.n169 Tryz.prog Tryz.lays169_ren:={
  mixed:=by kernel_rfl
  f169:=Tryz.func40.trans (congrArg some (by kernel_rfl))
  t0:=Tryz.underlying0
  a0:=Tryz.isAgg0
  z0:=Tryz.sizeOf0
  v0:=Tryz.zeroValue0
  t3:=Tryz.underlying3
  a3:=Tryz.isAgg3
  z3:=Tryz.sizeOf3
  v3:=Tryz.zeroValue3
  t9:=Tryz.underlying9
  a9:=Tryz.isAgg9
  z9:=Tryz.sizeOf9
  v9:=Tryz.zeroValue9
  t37:=Tryz.underlying80
  a37:=Tryz.isAgg80
  z37:=Tryz.sizeOf80
  v37:=Tryz.zeroValue80
  t70:=Tryz.underlying79
  a70:=Tryz.isAgg79
  z70:=Tryz.sizeOf79
  v70:=Tryz.zeroValue79
  t72:=Tryz.underlying82
  a72:=Tryz.isAgg82
  z72:=Tryz.sizeOf82
  v72:=Tryz.zeroValue82
  t127:=Tryz.underlying117
  a127:=Tryz.isAgg117
  z127:=Tryz.sizeOf117
  v127:=Tryz.zeroValue117}
def Tryz.lays138_ren:Go.Shelf.Ren:=⟨fun|138=>41|195=>69|218=>70|143=>71|219=>106|217=>142|225=>143|224=>144|267=>145|266=>180|314=>181|n=>n,fun|9=>9|3=>3|4=>4|5=>5|0=>0|46=>113|146=>152|51=>151|n=>n,fun|1=>2|n=>n⟩
theorem Tryz.lays138:Go.Proofs.Lays.n138 Tryz.prog Tryz.lays138_ren:={
  mixed:=by kernel_rfl
  f138:=Tryz.func41.trans (congrArg some (by kernel_rfl))
  f143:=Tryz.func71.trans (congrArg some (by kernel_rfl))
  f195:=Tryz.func69.trans (congrArg some (by kernel_rfl))
  f217:=Tryz.func142.trans (congrArg some (by kernel_rfl))
  f218:=Tryz.func70.trans (congrArg some (by kernel_rfl))
  f219:=Tryz.func106.trans (congrArg some (by kernel_rfl))
  f224:=Tryz.func144.trans (congrArg some (by kernel_rfl))
  f225:=Tryz.func143.trans (congrArg some (by kernel_rfl))
  f266:=Tryz.func180.trans (congrArg some (by kernel_rfl))
  f267:=Tryz.func145.trans (congrArg some (by kernel_rfl))
  f314:=Tryz.func181.trans (congrArg some (by kernel_rfl))
  t0:=Tryz.underlying0
  a0:=Tryz.isAgg0
  z0:=Tryz.sizeOf0
  v0:=Tryz.zeroValue0
  t3:=Tryz.underlying3
  a3:=Tryz.isAgg3
  z3:=Tryz.sizeOf3
  v3:=Tryz.zeroValue3
  t4:=Tryz.underlying4
  a4:=Tryz.isAgg4
  z4:=Tryz.sizeOf4
  v4:=Tryz.zeroValue4
  t5:=Tryz.underlying5
  a5:=Tryz.isAgg5
  z5:=Tryz.sizeOf5
  v5:=Tryz.zeroValue5
  t9:=Tryz.underlying9
  a9:=Tryz.isAgg9
  z9:=Tryz.sizeOf9
  v9:=Tryz.zeroValue9
  t46:=Tryz.underlying113
  a46:=Tryz.isAgg113
  z46:=Tryz.sizeOf113
  v46:=Tryz.zeroValue113
  t51:=Tryz.underlying151
  a51:=Tryz.isAgg151
  z51:=Tryz.sizeOf151
  v51:=Tryz.zeroValue151
  t146:=Tryz.underlying152
  a146:=Tryz.isAgg152
  z146:=Tryz.sizeOf152
  v146:=Tryz.zeroValue152
  g1:=by kernel_rfl}
def Tryz.lays172_ren:Go.Shelf.Ren:=⟨fun|172=>45|244=>74|245=>75|247=>108|279=>109|280=>110|281=>111|282=>112|287=>146|316=>147|171=>68|205=>148|321=>182|322=>183|243=>105|246=>141|283=>176|284=>177|285=>178|286=>179|129=>195|317=>194|318=>196|319=>197|320=>198|337=>200|338=>201|n=>n,fun|9=>9|3=>3|75=>84|76=>85|4=>4|5=>5|167=>160|37=>80|0=>0|85=>161|2=>2|168=>163|53=>154|175=>190|46=>113|210=>194|127=>117|145=>219|143=>217|21=>21|171=>210|173=>213|212=>231|51=>151|20=>20|213=>232|232=>251|233=>252|80=>89|n=>n,fun|15=>3|16=>4|17=>9|18=>11|19=>12|n=>n⟩
theorem Tryz.lays172:Go.Proofs.LaysC.n172 Tryz.prog Tryz.lays172_ren:={
  mixed:=by kernel_rfl
  f129:=Tryz.func195.trans (congrArg some (by kernel_rfl))
  f171:=Tryz.func68.trans (congrArg some (by kernel_rfl))
  f172:=Tryz.func45.trans (congrArg some (by kernel_rfl))
  f205:=Tryz.func148.trans (congrArg some (by kernel_rfl))
  f243:=Tryz.func105.trans (congrArg some (by kernel_rfl))
  f244:=Tryz.func74.trans (congrArg some (by kernel_rfl))
  f245:=Tryz.func75.trans (congrArg some (by kernel_rfl))
  f246:=Tryz.func141.trans (congrArg some (by kernel_rfl))
  f247:=Tryz.func108.trans (congrArg some (by kernel_rfl))
  f279:=Tryz.func109.trans (congrArg some (by kernel_rfl))
  f280:=Tryz.func110.trans (congrArg some (by kernel_rfl))
  f281:=Tryz.func111.trans (congrArg some (by kernel_rfl))
  f282:=Tryz.func112.trans (congrArg some (by kernel_rfl))
  f283:=Tryz.func176.trans (congrArg some (by kernel_rfl))
  f284:=Tryz.func177.trans (congrArg some (by kernel_rfl))
  f285:=Tryz.func178.trans (congrArg some (by kernel_rfl))
  f286:=Tryz.func179.trans (congrArg some (by kernel_rfl))
  f287:=Tryz.func146.trans (congrArg some (by kernel_rfl))
  f316:=Tryz.func147.trans (congrArg some (by kernel_rfl))
  f317:=Tryz.func194.trans (congrArg some (by kernel_rfl))
  f318:=Tryz.func196.trans (congrArg some (by kernel_rfl))
  f319:=Tryz.func197.trans (congrArg some (by kernel_rfl))
  f320:=Tryz.func198.trans (congrArg some (by kernel_rfl))
  f321:=Tryz.func182.trans (congrArg some (by kernel_rfl))
  f322:=Tryz.func183.trans (congrArg some (by kernel_rfl))
  f337:=Tryz.func200.trans (congrArg some (by kernel_rfl))
  f338:=Tryz.func201.trans (congrArg some (by kernel_rfl))
  t0:=Tryz.underlying0
  a0:=Tryz.isAgg0
  z0:=Tryz.sizeOf0
  v0:=Tryz.zeroValue0
  t2:=Tryz.underlying2
  a2:=Tryz.isAgg2
  z2:=Tryz.sizeOf2
  v2:=Tryz.zeroValue2
  t3:=Tryz.underlying3
  a3:=Tryz.isAgg3
  z3:=Tryz.sizeOf3
  v3:=Tryz.zeroValue3
  t4:=Tryz.underlying4
  a4:=Tryz.isAgg4
  z4:=Tryz.sizeOf4
  v4:=Tryz.zeroValue4
  t5:=Tryz.underlying5
  a5:=Tryz.isAgg5
  z5:=Tryz.sizeOf5
  v5:=Tryz.zeroValue5
  t9:=Tryz.underlying9
  a9:=Tryz.isAgg9
  z9:=Tryz.sizeOf9
  v9:=Tryz.zeroValue9
  t20:=Tryz.underlying20
  a20:=Tryz.isAgg20
  z20:=Tryz.sizeOf20
  v20:=Tryz.zeroValue20
  t21:=Tryz.underlying21
  a21:=Tryz.isAgg21
  z21:=Tryz.sizeOf21
  v21:=Tryz.zeroValue21
  t37:=Tryz.underlying80
  a37:=Tryz.isAgg80
  z37:=Tryz.sizeOf80
  v37:=Tryz.zeroValue80
  t46:=Tryz.underlying113
  a46:=Tryz.isAgg113
  z46:=Tryz.sizeOf113
  v46:=Tryz.zeroValue113
  t51:=Tryz.underlying151
  a51:=Tryz.isAgg151
  z51:=Tryz.sizeOf151
  v51:=Tryz.zeroValue151
  t53:=Tryz.underlying154
  a53:=Tryz.isAgg154
  z53:=Tryz.sizeOf154
  v53:=Tryz.zeroValue154
  t75:=Tryz.underlying84
  a75:=Tryz.isAgg84
  z75:=Tryz.sizeOf84
  v75:=Tryz.zeroValue84
  t76:=Tryz.underlying85
  a76:=Tryz.isAgg85
  z76:=Tryz.sizeOf85
  v76:=Tryz.zeroValue85
  t85:=Tryz.underlying161
  a85:=Tryz.isAgg161
  z85:=Tryz.sizeOf161
  v85:=Tryz.zeroValue161
  t127:=Tryz.underlying117
  a127:=Tryz.isAgg117
  z127:=Tryz.sizeOf117
  v127:=Tryz.zeroValue117
  t143:=Tryz.underlying217
  a143:=Tryz.isAgg217
  z143:=Tryz.sizeOf217
  v143:=Tryz.zeroValue217
  t145:=Tryz.underlying219
  a145:=Tryz.isAgg219
  z145:=Tryz.sizeOf219
  v145:=Tryz.zeroValue219
  t167:=Tryz.underlying160
  a167:=Tryz.isAgg160
  z167:=Tryz.sizeOf160
  v167:=Tryz.zeroValue160
  t168:=Tryz.underlying163
  a168:=Tryz.isAgg163
  z168:=Tryz.sizeOf163
  v168:=Tryz.zeroValue163
  t171:=Tryz.underlying210
  a171:=Tryz.isAgg210
  z171:=Tryz.sizeOf210
  v171:=Tryz.zeroValue210
  t173:=Tryz.underlying213
  a173:=Tryz.isAgg213
  z173:=Tryz.sizeOf213
  v173:=Tryz.zeroValue213
  t175:=Tryz.underlying190
  a175:=Tryz.isAgg190
  z175:=Tryz.sizeOf190
  v175:=Tryz.zeroValue190
  t210:=Tryz.underlying194
  a210:=Tryz.isAgg194
  z210:=Tryz.sizeOf194
  v210:=Tryz.zeroValue194
  t212:=Tryz.underlying231
  a212:=Tryz.isAgg231
  z212:=Tryz.sizeOf231
  v212:=Tryz.zeroValue231
  t213:=Tryz.underlying232
  a213:=Tryz.isAgg232
  z213:=Tryz.sizeOf232
  t232:=Tryz.underlying251
  a232:=Tryz.isAgg251
  z232:=Tryz.sizeOf251
  v232:=Tryz.zeroValue251
  t233:=Tryz.underlying252
  a233:=Tryz.isAgg252
  z233:=Tryz.sizeOf252
  v233:=Tryz.zeroValue252
  g15:=by kernel_rfl
  g16:=by kernel_rfl
  g17:=by kernel_rfl
  g18:=by kernel_rfl
  g19:=by kernel_rfl
  t80:=Tryz.underlying89
  a80:=Tryz.isAgg89
  z80:=Tryz.sizeOf89
  v80:=Tryz.zeroValue89
  i0:=by kernel_rfl
  i2:=by kernel_rfl
  i3:=by kernel_rfl
  i4:=by kernel_rfl
  i5:=by kernel_rfl
  i9:=by kernel_rfl
  i20:=by kernel_rfl
  i21:=by kernel_rfl
  i37:=by kernel_rfl
  i46:=by kernel_rfl
  i51:=by kernel_rfl
  i53:=by kernel_rfl
  i75:=by kernel_rfl
  i76:=by kernel_rfl
  i80:=by kernel_rfl
  i85:=by kernel_rfl
  i127:=by kernel_rfl
  i143:=by kernel_rfl
  i145:=by kernel_rfl
  i167:=by kernel_rfl
  i168:=by kernel_rfl
  i171:=by kernel_rfl
  i173:=by kernel_rfl
  i175:=by kernel_rfl
  i210:=by kernel_rfl
  i212:=by kernel_rfl
  i232:=by kernel_rfl
  i233:=by kernel_rfl
  m15:=by kernel_rfl
  m16:=by kernel_rfl
  m17:=by kernel_rfl
  m18:=by kernel_rfl
  m19:=by kernel_rfl
  c0:=by kernel_rfl
  c2:=by kernel_rfl
  c3:=by kernel_rfl
  c4:=by kernel_rfl
  c5:=by kernel_rfl
  c9:=by kernel_rfl
  c20:=by kernel_rfl
  c21:=by kernel_rfl
  c37:=by kernel_rfl
  c46:=by kernel_rfl
  c51:=by kernel_rfl
  c53:=by kernel_rfl
  c75:=by kernel_rfl
  c76:=by kernel_rfl
  c80:=by kernel_rfl
  c85:=by kernel_rfl
  c127:=by kernel_rfl
  c143:=by kernel_rfl
  c145:=by kernel_rfl
  c167:=by kernel_rfl
  c168:=by kernel_rfl
  c171:=by kernel_rfl
  c173:=by kernel_rfl
  c175:=by kernel_rfl
  c210:=by kernel_rfl
  c212:=by kernel_rfl
  c213:=by kernel_rfl
  c232:=by kernel_rfl
  c233:=by kernel_rfl}
def Tryz.lays171_ren:Go.Shelf.Ren:=⟨fun|171=>68|243=>105|246=>141|283=>176|284=>177|285=>178|286=>179|129=>195|317=>194|318=>196|319=>197|320=>198|337=>200|338=>201|n=>n,fun|3=>3|9=>9|2=>2|4=>4|171=>210|0=>0|53=>154|37=>80|5=>5|173=>213|212=>231|51=>151|20=>20|213=>232|46=>113|232=>251|233=>252|n=>n,fun|17=>9|18=>11|19=>12|n=>n⟩
theorem Tryz.lays171:Go.Proofs.Lays.n171 Tryz.prog Tryz.lays171_ren:={
  mixed:=by kernel_rfl
  f129:=Tryz.func195.trans (congrArg some (by kernel_rfl))
  f171:=Tryz.func68.trans (congrArg some (by kernel_rfl))
  f243:=Tryz.func105.trans (congrArg some (by kernel_rfl))
  f246:=Tryz.func141.trans (congrArg some (by kernel_rfl))
  f283:=Tryz.func176.trans (congrArg some (by kernel_rfl))
  f284:=Tryz.func177.trans (congrArg some (by kernel_rfl))
  f285:=Tryz.func178.trans (congrArg some (by kernel_rfl))
  f286:=Tryz.func179.trans (congrArg some (by kernel_rfl))
  f317:=Tryz.func194.trans (congrArg some (by kernel_rfl))
  f318:=Tryz.func196.trans (congrArg some (by kernel_rfl))
  f319:=Tryz.func197.trans (congrArg some (by kernel_rfl))
  f320:=Tryz.func198.trans (congrArg some (by kernel_rfl))
  f337:=Tryz.func200.trans (congrArg some (by kernel_rfl))
  f338:=Tryz.func201.trans (congrArg some (by kernel_rfl))
  t0:=Tryz.underlying0
  a0:=Tryz.isAgg0
  z0:=Tryz.sizeOf0
  v0:=Tryz.zeroValue0
  t2:=Tryz.underlying2
  a2:=Tryz.isAgg2
  z2:=Tryz.sizeOf2
  v2:=Tryz.zeroValue2
  t3:=Tryz.underlying3
  a3:=Tryz.isAgg3
  z3:=Tryz.sizeOf3
  v3:=Tryz.zeroValue3
  t4:=Tryz.underlying4
  a4:=Tryz.isAgg4
  z4:=Tryz.sizeOf4
  v4:=Tryz.zeroValue4
  t5:=Tryz.underlying5
  a5:=Tryz.isAgg5
  z5:=Tryz.sizeOf5
  v5:=Tryz.zeroValue5
  t9:=Tryz.underlying9
  a9:=Tryz.isAgg9
  z9:=Tryz.sizeOf9
  v9:=Tryz.zeroValue9
  t20:=Tryz.underlying20
  a20:=Tryz.isAgg20
  z20:=Tryz.sizeOf20
  v20:=Tryz.zeroValue20
  t37:=Tryz.underlying80
  a37:=Tryz.isAgg80
  z37:=Tryz.sizeOf80
  v37:=Tryz.zeroValue80
  t46:=Tryz.underlying113
  a46:=Tryz.isAgg113
  z46:=Tryz.sizeOf113
  v46:=Tryz.zeroValue113
  t51:=Tryz.underlying151
  a51:=Tryz.isAgg151
  z51:=Tryz.sizeOf151
  v51:=Tryz.zeroValue151
  t53:=Tryz.underlying154
  a53:=Tryz.isAgg154
  z53:=Tryz.sizeOf154
  v53:=Tryz.zeroValue154
  t171:=Tryz.underlying210
  a171:=Tryz.isAgg210
  z171:=Tryz.sizeOf210
  v171:=Tryz.zeroValue210
  t173:=Tryz.underlying213
  a173:=Tryz.isAgg213
  z173:=Tryz.sizeOf213
  v173:=Tryz.zeroValue213
  t212:=Tryz.underlying231
  a212:=Tryz.isAgg231
  z212:=Tryz.sizeOf231
  v212:=Tryz.zeroValue231
  t213:=Tryz.underlying232
  a213:=Tryz.isAgg232
  z213:=Tryz.sizeOf232
  t232:=Tryz.underlying251
  a232:=Tryz.isAgg251
  z232:=Tryz.sizeOf251
  v232:=Tryz.zeroValue251
  t233:=Tryz.underlying252
  a233:=Tryz.isAgg252
  z233:=Tryz.sizeOf252
  v233:=Tryz.zeroValue252
  g17:=by kernel_rfl
  g18:=by kernel_rfl
  g19:=by kernel_rfl}
def Tryz.lays129_ren:Go.Shelf.Ren:=⟨fun|129=>195|n=>n,fun|53=>154|3=>3|4=>4|46=>113|5=>5|9=>9|n=>n,fun|n=>n⟩
theorem Tryz.lays129:Go.Proofs.Lays.n129 Tryz.prog Tryz.lays129_ren:={
  mixed:=by kernel_rfl
  f129:=Tryz.func195.trans (congrArg some (by kernel_rfl))
  t3:=Tryz.underlying3
  a3:=Tryz.isAgg3
  z3:=Tryz.sizeOf3
  v3:=Tryz.zeroValue3
  t4:=Tryz.underlying4
  a4:=Tryz.isAgg4
  z4:=Tryz.sizeOf4
  v4:=Tryz.zeroValue4
  t5:=Tryz.underlying5
  a5:=Tryz.isAgg5
  z5:=Tryz.sizeOf5
  v5:=Tryz.zeroValue5
  t9:=Tryz.underlying9
  a9:=Tryz.isAgg9
  z9:=Tryz.sizeOf9
  v9:=Tryz.zeroValue9
  t46:=Tryz.underlying113
  a46:=Tryz.isAgg113
  z46:=Tryz.sizeOf113
  v46:=Tryz.zeroValue113
  t53:=Tryz.underlying154
  a53:=Tryz.isAgg154
  z53:=Tryz.sizeOf154
  v53:=Tryz.zeroValue154}
def Tryz.lays317_ren:Go.Shelf.Ren:=⟨fun|317=>194|n=>n,fun|3=>3|46=>113|n=>n,fun|n=>n⟩
theorem Tryz.lays317:Go.Proofs.Lays.n317 Tryz.prog Tryz.lays317_ren:={
  mixed:=by kernel_rfl
  f317:=Tryz.func194.trans (congrArg some (by kernel_rfl))
  t3:=Tryz.underlying3
  a3:=Tryz.isAgg3
  z3:=Tryz.sizeOf3
  v3:=Tryz.zeroValue3
  t46:=Tryz.underlying113
  a46:=Tryz.isAgg113
  z46:=Tryz.sizeOf113
  v46:=Tryz.zeroValue113}
def Tryz.lays283_ren:Go.Shelf.Ren:=⟨fun|283=>176|n=>n,fun|3=>3|9=>9|4=>4|n=>n,fun|n=>n⟩
theorem Tryz.lays283:Go.Proofs.Lays.n283 Tryz.prog Tryz.lays283_ren:={
  mixed:=by kernel_rfl
  f283:=Tryz.func176.trans (congrArg some (by kernel_rfl))
  t3:=Tryz.underlying3
  a3:=Tryz.isAgg3
  z3:=Tryz.sizeOf3
  v3:=Tryz.zeroValue3
  t4:=Tryz.underlying4
  a4:=Tryz.isAgg4
  z4:=Tryz.sizeOf4
  v4:=Tryz.zeroValue4
  t9:=Tryz.underlying9
  a9:=Tryz.isAgg9
  z9:=Tryz.sizeOf9
  v9:=Tryz.zeroValue9}
end Go.Proofs

namespace Go.Proofs.YtpmkapclhlmbbaaGreatDoor
set_option linter.unusedVariables false
set_option linter.unusedSimpArgs false
set_option linter.unnecessarySimpa false
set_option maxRecDepth 100000
section
open Go
def wb (c:Nat):Bool:=(Nat.ble 97 c&&Nat.ble c 122)||(Nat.ble 48 c&&Nat.ble c 57)
def Zp7:List Nat:= [97,98,99,100,101,102,103,104,105,106,107,108,109,110,111,112,113,114,115,116,117,118,119,120,121,122,48,49,50,51,52,53,54,55,56,57]
def Zlm (s:List Nat):List Nat:=(Lib.trimS (mkS s).data.toList (mkS Zp7).data.toList).map UInt8.toNat
theorem Ztr (s:List Nat) (hs:s.length<=9223372036854775807):PureC E 60 [.str false s,.str true Zp7] (.str false (Zlm s)):=by
 refine W7 fun g w vals hd=> ?_
 obtain ⟨u,v,rfl,hu,hv⟩:=Z5e hd
 cases hu;cases hv
 rename_i b hb c hc
 subst hb
 have hc':c=mkS Zp7:=by rw [<-hc,Vh]
 subst hc'
 have hs':b.size<=9223372036854775807:=by rw [<-Wp];exact hs
 refine (Any.strings_Trim_laid Tryz.lays160 (by kernel_rfl) b (mkS Zp7) w hs' (by decide) (ascii_of_all (by decide))).mono ?_
 rintro e w' ⟨rfl,hw⟩
 refine ⟨_,rfl,?_,hw⟩
 unfold Zlm
 rw [Vh]
 exact Z1n
theorem dw_nil {α:Type} {p:α->Bool}:∀{l:List α},l.dropWhile p= []↔∀x∈l,p x=true
 | []=>by simp
 |x::l=>by
  rw [List.dropWhile_cons]
  cases hp:p x with
  |true=>simp [hp,dw_nil (l:=l)]
  |false=>simp [hp]
theorem Zts {α:Type} {p:α->Bool}:∀{l:List α} {b:α} {r:List α},l.dropWhile p=b::r->p b=false
 | [],b,r,h=>by simp at h
 |x::l,b,r,h=>by
  rw [List.dropWhile_cons] at h
  cases hp:p x with
  |true=>rw [hp] at h;exact Zts h
  |false=>rw [hp] at h;simp at h;rw [<-h.1];exact hp
theorem Ztt (l cs:List UInt8):Lib.trimS l cs= []↔∀b∈l,cs.contains b=true:=by
 unfold Lib.trimS Lib.trimLeftS Lib.trimRightS
 rw [dw_nil]
 constructor
 · intro h
   cases hd:l.reverse.dropWhile (cs.contains ·) with
   |nil=>
    rw [dw_nil] at hd
    exact fun b hb=>hd b (List.mem_reverse.2 hb)
   |cons b r=>
    exfalso
    have h1:=h b (by rw [hd];simp)
    have h2:=Zts hd
    rw [h1] at h2
    cases h2
 · intro h b hb
   rw [dw_nil.2 (fun b hb=>h b (List.mem_reverse.1 hb))] at hb
   simp at hb
theorem Zin:∀n,n<256->(mkS Zp7).data.toList.contains (UInt8.ofNat n)=wb n:=by decide
theorem Ztu {s:List Nat} (hs:Byt s):Zlm s= []↔s.all wb=true:=by
 unfold Zlm
 rw [List.map_eq_nil_iff,Ztt,List.all_eq_true]
 have e:s=(mkS s).data.toList.map UInt8.toNat:=(show toL (mkS s)=s from hs).symm
 constructor
 · intro h c hc
   rw [e] at hc
   obtain ⟨b,hb,rfl⟩:=List.mem_map.1 hc
   rw [<-Zin _ b.toNat_lt]
   have:=h b hb
   rwa [show UInt8.ofNat b.toNat=b from UInt8.ofNat_toNat]
 · intro h b hb
   have:=h b.toNat (by rw [e];exact List.mem_map_of_mem hb)
   rw [<-Zin _ b.toNat_lt] at this
   rwa [show UInt8.ofNat b.toNat=b from UInt8.ofNat_toNat] at this
def Z5r:Sum thy:=sumP (dA2 dS (dKs Zp7)) (fun x=>x.1.length<=9223372036854775807) fun x=> .str false (Zlm x.1)
theorem Zx9:SumOk E 60 Z5r:=Zs E_ok (Zb (f:=60) rfl) fun x h=>Ztr _ h
def Z21:Fns thy:=addS F0 60 Z5r
theorem Zya:FnsOk E Z21:=Zc F0_ok Zx9
def lowF:List Nat->Bool
 | []=>false
 |c::_=>Nat.ble 97 c&&Nat.ble c 122
def Zc8 (s:List Nat):Bool:=decide (s.length<=32)&&lowF s&&s.all wb
theorem Ztv (s:List Nat) (v:Bool):Zi E Z21 (vc E Z21 400) 28 [.str false s] hp0 0 (fun r=>ret E (patch hp0 0 r) r.v (.bool false v))=(
(decide ((↑(List.length s):Int)<=(32:Int))=true->((!s==toL (ByteArray.mk #[]))=true->(0:Int)<=(0:Int)/\(0:Int)+(1:Int)<=(↑(List.length s):Int)/\∀(x:Nat),s[Int.toNat (0:Int)]? =some x->(decide ((↑x:Int)>=(97:Int))=true->(0:Int)<=(0:Int)/\(0:Int)+(1:Int)<=(↑(List.length s):Int)/\∀(x:Nat),s[Int.toNat (0:Int)]? =some x->(decide ((↑x:Int)<=(122:Int))=true->List.length s<=(9223372036854775807:Nat)/\((Zlm s==toL (ByteArray.mk #[]))=true->true=v)/\((Zlm s==toL (ByteArray.mk #[]))=false->false=v))/\(decide ((↑x:Int)<=(122:Int))=false->false=v))/\(decide ((↑x:Int)>=(97:Int))=false->false=v))/\((!s==toL (ByteArray.mk #[]))=false->false=v))/\(decide ((↑(List.length s):Int)<=(32:Int))=false->false=v)):=by kernel_rfl
theorem Ztw (s:List Nat):PureC E 28 [.str false s] (.bool false (Zc8 s)):=by
 refine Z1l (j:=0) rfl fun hs=>Za E_ok (Ze E_ok Zya 400) ?_
 rw [Ztv]
 simp only [Y3,Yi,Vr,Vs,Vt,beq_iff_eq,bne_iff_ne,beq_eq_false_iff_ne,bne_eq_false_iff_eq,decide_eq_true_eq,decide_eq_false_iff_not,Bool.or_eq_true,Bool.or_eq_false_iff,Bool.not_eq_true',Bool.not_eq_false',Bool.and_eq_true,Bool.and_true,Bool.true_and,Bool.and_eq_false_iff,beq_self_eq_true,Yx,Yy,ne_eq,and_true,true_and,Bool.true_eq_false,Bool.false_eq_true,false_or,or_false,true_implies,imp_self,Int.ofNat_eq_natCast,not_true_eq_false,not_false_eq_true,Decidable.not_not]
 have he:toL (ByteArray.mk #[])= []:=rfl
 have hz:(0:Int).toNat=0:=rfl
 simp only [he,hz,Ztu hs]
 unfold Zc8
 refine And.intro (fun h1=>And.intro (fun h2=>⟨by omega,?_,fun c hc=> ?_⟩) (fun h2=> ?_)) (fun h1=> ?_)
 · cases s with
   |nil=>exact absurd rfl h2
   |cons c r=>simp only [List.length_cons];omega
 · cases s with
   |nil=>simp at hc
   |cons c' r=>
    obtain rfl:c'=c:=by simpa using hc
    rw [decide_eq_true (show (c'::r).length<=32 by omega),show lowF (c'::r)=(Nat.ble 97 c'&&Nat.ble c' 122) from rfl]
    refine And.intro (fun h3=>⟨by omega,by simp only [List.length_cons];omega,fun c2 hc2=> ?_⟩) (fun h3=> ?_)
    · obtain rfl:c'=c2:=by simpa using hc2
      refine And.intro (fun h4=>⟨by omega,fun h5=> ?_,fun h5=> ?_⟩) (fun h4=> ?_)
      · rw [h5,Nat.ble_eq_true_of_le (by omega),Nat.ble_eq_true_of_le (by omega)];rfl
      · rw [Bool.eq_false_iff.2 h5];simp
      · have:Nat.ble c' 122=false:=by rw [<-Bool.not_eq_true,Nat.ble_eq];omega
        rw [this];simp
    · have:Nat.ble 97 c'=false:=by rw [<-Bool.not_eq_true,Nat.ble_eq];omega
      rw [this];simp
 · rw [h2];simp [lowF]
 · rw [decide_eq_false (show ¬s.length<=32 by omega)];simp
def resW:List (List Nat):= [[116,97,114,105,102,102],[102,111,114],[99,108,97,117,115,101],[119,104,101,110],[97,110,100],[105,110],[105,115],[112,97,121],[109,105,110],[109,97,120],[100,111,119,110],[117,112],[104,97,108,102],[105,102],[109,111,110,101,121],[109,105,110,117,116,101],[112,101,114],[107,103],[116,121,112,101],[111,119,110,101,114],[114,97,105,108,119,97,121],[115,104,105,112,112,101,114],[99,108,97,115,115],[119,101,105,103,104,116],[107,109],[109,105,110,117,116,101,115],[119,111,114,107,105,110,103],[99,111,100,101],[119,111,114,116,104],[99,111,115,116],[109,111,110,116,104],[98,101,103,105,110],[112,97,114,116,115],[112,97,114,116],[104,105,114,101],[100,101,109,117,114,114,97,103,101],[102,114,101,105,103,104,116],[114,101,112,97,105,114],[108,111,115,115],[99,108,101,97,110,105,110,103]]
theorem Zyb (s:List Nat) (K:SV thy->Prop):Zi E F0 (vc E F0 400) 29 [.str false s] hp0 0 (fun r=>K r.v)=X0 false (.str false s) (resW.map fun k=>(Value.string (mkS k),SV.bool true true)) K (K (.bool true false)):=by kernel_rfl
theorem Znx (s:List Nat):PureC E 29 [.str false s] (.bool false (decide (s∈resW))):=by
 refine Zgo E_ok (Z71 400) (K:=fun r=>r.v= .bool true (decide (s∈resW))) (fun r hr=>by rw [hr];rfl) ?_
 rw [Zyb s fun v=>v= .bool true (decide (s∈resW))]
 refine Zgd ?_ (fun h=>by rw [decide_eq_true h]) (fun h=>by rw [decide_eq_false h])
 unfold Byt;decide
end
section
open Go
def Zt8:Dc E Unit where
 dec v:=match v with| .tup []=>some ()|_=>none
 enc _:= .tup []
 ok v a h:=by
  split at h
  · exact ⟨rfl,rfl,fun _ _ _ h=>h⟩
  · cases h
def dTup {α:Type} (r:DcL E α):Dc E α where
 dec v:=match v with| .tup cs=>r.dec cs|_=>none
 enc a:= .tup (r.enc a)
 ok v a h:=by
  split at h
  · obtain ⟨k1,k2,k3⟩:=r.ok _ _ h
    refine ⟨by simpa [nid] using k1,rfl,fun σ g u hd=> ?_⟩
    obtain ⟨arr,c,rfl,hs,hc,hd⟩:=Zhl hd
    refine .tup c (by omega) (fun j hj=>hc j (by omega)) fun j sv' hj=> ?_
    obtain ⟨sv,h1,h2⟩:=k3 σ g j sv' hj
    exact h2 _ (hd j sv h1)
  · cases h
def dBt:Dc E Bool where
 dec v:=match v with| .bool _ b=>some b|_=>none
 enc b:= .bool true b
 ok v a h:=by
  split at h
  · cases h
    exact ⟨rfl,rfl,fun σ g u hd=>by cases hd;exact .bool _ _⟩
  · cases h
abbrev PX:=List Tok×Int×Unit
def Z74:Dc E (List Tok):=(Zli (E:=E) Th.toks:Dc E (List (thy.dom Th.toks)))
def dPX:DcL E PX:=dA2 Z74 dN
def Zyn (e:Int×Int):Value:= .iface 134 (.agg #[.int .i64 e.1,.int .i64 e.2])
def Zn3:Value->Option (Int×Int)
 | .iface t (.agg a)=>(match Nat.beq t 134,a.toList with|true,[.int .i64 x,.int .i64 y]=>some (x,y)|_,_=>none)
 |_=>none
theorem Ziz (q:Value) (e:Int×Int) (h:Zn3 q=some e):Zyn e=q:=by
 unfold Zn3 at h
 split at h
 · rename_i t a
   split at h
   · rename_i x y ht ha
     cases h
     unfold Zyn
     obtain rfl:=gC9 ht
     have:a= #[Value.int .i64 x,Value.int .i64 y]:=by rw [<-Array.toArray_toList (xs:=a),ha]
     rw [this]
   · cases h
 · cases h
def mI {α β:Type} (dA:DcL E α) (hA:∀a,nidL 0 (dA.enc a)=true) (d:Dc E β) (hv:∀y,nid 0 (d.enc y)=true):MutI E PX α β (Int×Int) where
 dS:=dPX
 dA:=dA
 v:=d.enc
 hv:=hv
 hS _:=rfl
 hA:=hA
 pv:=Zyn
abbrev PR (β:Type):=Except (Int×Int) (β×PX)
def mK {α β:Type} (dA:DcL E α) (hA:∀a,nidL 0 (dA.enc a)=true) (d:Dc E β) (hv:∀y,nid 0 (d.enc y)=true) (l:List Tok) (e:Int) (out:PR β):Res thy->Prop:=
 mutK (mI dA hA d hv) (fun _=>none) 3 d.dec Zn3 (l,e,()) out
theorem Vm {F:Fns thy} (hF:FnsOk E F) {n:Nat} {α β:Type} {dA:DcL E α} {hA:∀a,nidL 0 (dA.enc a)=true} {d:Dc E β} {hv:∀y,nid 0 (d.enc y)=true} {f:Nat} {l:List Tok} {e:Int} {a:α} {out:PR β}
 (hk:Zi E F (vc E F n) f (.ptr 0 0::dA.enc a) (one [.psl Th.toks l false,.int false .i64 e]) 1 (mK dA hA d hv l e out)):We (mI dA hA d hv) f (l,e,()) a out:=
 Zmn E_ok (Ze E_ok hF n) (fun v y h=>(d.ok v y h).2.2) Ziz (x:=(l,e,())) hk
theorem n1 {α:Type} {d:Dc E α} (h:∀y,nid 0 (d.enc y)=true):∀a:α×Unit,nidL 0 ((dA1 d).enc a)=true:=fun a=>by
 show (nid 0 (d.enc a.1)&&true)=true
 rw [h];rfl
theorem n0:∀a:Unit,nidL 0 ((DcL.nil (E:=E)).enc a)=true:=fun _=>rfl
def dWK:DcL E WK where
 dec vs:=match vs with| [.str true s]=>wkOf s|_=>none
 enc k:= [.str true k.src]
 ok vs k h:=by
  split at h
  · rw [Zol h]
    exact ⟨rfl,rfl,fun σ g j sv' hj=>⟨sv',hj,fun _ h=>h⟩⟩
  · cases h
theorem Zgw:∀k,nidL 0 (dWK.enc k)=true:=fun _=>rfl
theorem Zv {A B:Prop}:(∃Q:Bool->Prop,Q true/\(Q true->A)/\(Q false->B))↔A:=
 ⟨fun ⟨_,h1,h2,_⟩=>h2 h1,fun h=>⟨fun b=>b=true,rfl,fun _=>h,fun h=>by cases h⟩⟩
theorem Z4 {c:Bool} {A B:Prop}:(∃Q:Bool->Prop,((c=true->Q true)/\(c=false->Q false))/\(Q true->A)/\(Q false->B))↔((c=true->A)/\(c=false->B)):=by
 constructor
 · rintro ⟨Q,⟨h1,h2⟩,h3,h4⟩
   exact ⟨fun h=>h3 (h1 h),fun h=>h4 (h2 h)⟩
 · rintro ⟨h1,h2⟩
   exact ⟨fun b=>c=b,⟨fun h=>h,fun h=>h⟩,h1,h2⟩
theorem tz {t:Tok} {l:List Tok}:((((t::l).length:Nat):Int)==0)=false:=by
 rw [beq_eq_false_iff_ne,List.length_cons];omega
theorem tz0:(((([]:List Tok).length:Nat):Int)==0)=true:=rfl
theorem tp {t:Tok} {l:List Tok}:decide ((((t::l).length:Nat):Int)>0)=true:=by
 rw [decide_eq_true_eq,List.length_cons];omega
theorem tp0:decide (((([]:List Tok).length:Nat):Int)>0)=false:=rfl
theorem tl1 {t:Tok} {l:List Tok}:((0:Int)+1<=(((t::l).length:Nat):Int))=True:=eq_true (by rw [List.length_cons];omega)
theorem tl2 {t:Tok} {l:List Tok}:((1:Int)<=(((t::l).length:Nat):Int))=True:=eq_true (by rw [List.length_cons];omega)
theorem tg {t x:Tok} {l:List Tok}:((t::l)[Int.toNat 0]? =some x)=(t=x):=by
 rw [eq_iff_iff];simp
theorem td {t:Tok} {l:List Tok}:List.drop (Int.toNat 1) (t::l)=l:=rfl
theorem i01:((0:Int)<=1)=True:=by simp
def hdT (e:Int):List Tok->Int
 | []=>e
 |t::_=>t.at_
def isW (s:List Nat):List Tok->Bool
 | []=>false
 |t::_=> !(t.kind==2)&&t.text==s
def pAcc (s:List Nat) (l:List Tok) (e:Int):PR Bool:= .ok (isW s l,if isW s l then l.tail else l,e,())
def Zdi (s:List Nat) (l:List Tok) (e:Int):PR Unit:=if isW s l then .ok ((),l.tail,e,()) else .error (hdT e l,160)
def pInt:List Tok->Int->PR Int
 | [],e=> .error (e,160)
 |t::r,e=>if t.kind=2 then .ok (t.n,r,e,()) else .error (t.at_,160)
def chz (ws:List (List Nat)):List Tok->Int
 | []=> -1
 |t::_=>if t.kind=1 then idxS t.text 0 ws else-1
def Yj (ws:List (List Nat)) (l:List Tok) (e:Int):PR (Int×Bool×Unit):=if 0<=chz ws l then .ok ((chz ws l,true,()),l.tail,e,()) else .ok ((0,false,()),l,e,())
def X1 (ws:List (List Nat)) (l:List Tok) (e:Int):PR Int:=if 0<=chz ws l then .ok (chz ws l,l.tail,e,()) else .error (hdT e l,160)
def Zdj:List Tok->Int->PR (List Nat)
 | [],e=> .error (e,160)
 |t::r,e=>if t.kind=1 then (if t.text∈resW then .error (t.at_,161) else .ok (t.text,r,e,())) else .error (t.at_,160)
theorem Vo {i:Int}:(decide (i<0)=true)=¬0<=i:=by rw [decide_eq_true_eq];exact propext (by omega)
theorem Vp {i:Int}:(decide (i<0)=false)=(0<=i):=by rw [decide_eq_false_iff_not];exact propext (by omega)
theorem Zlr (l:List Tok) (e:Int) (s:List Nat) (out:PR Bool):Zi E F0 (vc E F0 400) 89 [.ptr 0 0,.str false s] (one [.psl Th.toks l false,.int false .i64 e]) 1 (mK (dA1 dS) (n1 fun _=>rfl) dBt (fun _=>rfl) l e out)=(
(((↑(List.length l):Int)==(0:Int))=true->out=Except.ok (false,l,e,()))/\(((↑(List.length l):Int)==(0:Int))=false->(0:Int)<=(0:Int)/\(0:Int)+(1:Int)<=(↑(List.length l):Int)/\∀(x:Tok),l[Int.toNat (0:Int)]? =some x->((Tok.kind x==(2:Int))=true->out=Except.ok (false,l,e,()))/\((Tok.kind x==(2:Int))=false->(0:Int)<=(0:Int)/\(0:Int)+(1:Int)<=(↑(List.length l):Int)/\∀(x:Tok),l[Int.toNat (0:Int)]? =some x->((!Tok.text x==s)=true->out=Except.ok (false,l,e,()))/\((!Tok.text x==s)=false->((0:Int)<=(1:Int)/\(1:Int)<=(↑(List.length l):Int))/\out=Except.ok (true,List.drop (Int.toNat (1:Int)) l,e,()))))):=by kernel_rfl
theorem Zi0 (l:List Tok) (e:Int) (out:PR Int):Zi E F0 (vc E F0 400) 167 [.ptr 0 0] (one [.psl Th.toks l false,.int false .i64 e]) 1 (mK .nil n0 dN (fun _=>rfl) l e out)=(
(((↑(List.length l):Int)==(0:Int))=true->(decide ((↑(List.length l):Int)>(0:Int))=true->(0:Int)<=(0:Int)/\(0:Int)+(1:Int)<=(↑(List.length l):Int)/\∀(x:Tok),l[Int.toNat (0:Int)]? =some x->out=Except.error (Tok.at_ x,(160:Int)))/\(decide ((↑(List.length l):Int)>(0:Int))=false->out=Except.error (e,(160:Int))))/\(((↑(List.length l):Int)==(0:Int))=false->(0:Int)<=(0:Int)/\(0:Int)+(1:Int)<=(↑(List.length l):Int)/\∀(x:Tok),l[Int.toNat (0:Int)]? =some x->((Tok.kind x !=(2:Int))=true->(decide ((↑(List.length l):Int)>(0:Int))=true->(0:Int)<=(0:Int)/\(0:Int)+(1:Int)<=(↑(List.length l):Int)/\∀(x:Tok),l[Int.toNat (0:Int)]? =some x->out=Except.error (Tok.at_ x,(160:Int)))/\(decide ((↑(List.length l):Int)>(0:Int))=false->out=Except.error (e,(160:Int))))/\((Tok.kind x !=(2:Int))=false->(0:Int)<=(0:Int)/\(0:Int)+(1:Int)<=(↑(List.length l):Int)/\∀(x:Tok),l[Int.toNat (0:Int)]? =some x->((0:Int)<=(1:Int)/\(1:Int)<=(↑(List.length l):Int))/\out=Except.ok (Tok.n x,List.drop (Int.toNat (1:Int)) l,e,())))):=by kernel_rfl
def Fsm:Fns thy:=addS (addS (addS F0 165 Zu7) 44 Sixs) 29 (Vl (dA1 dS) (fun _=>True) (fun x=>decide (x.1∈resW)) fun y=> .bool false y)
theorem Zt9:FnsOk E Fsm:=Zc (Zc (Zc F0_ok Zrb) Z3x) (Zz E_ok (Zb (f:=29) rfl) fun x _=>Znx x.1)
def dIB:Dc E (Int×Bool×Unit):=dTup (dA2 dN dB)
abbrev qBL3:=(0:Int)
abbrev qBL2 (a0:List Tok):=(↑(List.length a0):Int)
abbrev qBL1 (a0:List Tok) (b0:PR Unit):=(decide ((qBL2 a0)>qBL3)=true->qBL3<=qBL3/\qBL3+(1:Int)<=(qBL2 a0)/\∀(x:Tok),a0[Int.toNat qBL3]? =some x->b0=Except.error (Tok.at_ x,(160:Int)))
abbrev qBL4 (a0:List Tok) (b0:PR Unit) (c0:Int):=(decide ((qBL2 a0)>qBL3)=false->b0=Except.error (c0,(160:Int)))
theorem Zls (l:List Tok) (e:Int) (s:List Nat) (out:PR Unit):Zi E F0 (vc E F0 400) 85 [.ptr 0 0,.str false s] (one [.psl Th.toks l false,.int false .i64 e]) 1 (mK (dA1 dS) (n1 fun _=>rfl) Zt8 (fun _=>rfl) l e out)=(
 (((qBL2 l)==qBL3)=true->(qBL1 l out)/\(qBL4 l out e))/\(((qBL2 l)==qBL3)=false->qBL3<=qBL3/\qBL3+(1:Int)<=(qBL2 l)/\∀(x:Tok),l[Int.toNat qBL3]? =some x->((Tok.kind x==(2:Int))=true->(qBL1 l out)/\(qBL4 l out e))/\((Tok.kind x==(2:Int))=false->qBL3<=qBL3/\qBL3+(1:Int)<=(qBL2 l)/\∀(x:Tok),l[Int.toNat qBL3]? =some x->((!Tok.text x==s)=true->(qBL1 l out)/\(qBL4 l out e))/\((!Tok.text x==s)=false->(qBL3<=(1:Int)/\(1:Int)<=(qBL2 l))/\out=Except.ok ((),List.drop (Int.toNat (1:Int)) l,e,()))))):=by kernel_rfl
abbrev qBL6:=(0:Int)
abbrev qBL5 (a0:Bool->Prop) (b0:List Tok) (c0:PR (Int×Bool×Unit)) (d0:Int) (e0:Int):=(a0 false->(qBL6<=(1:Int)/\(1:Int)<=(↑(List.length b0):Int))/\c0=Except.ok ((d0,true,()),List.drop (Int.toNat (1:Int)) b0,e0,()))
abbrev qBL7:=(WK.words WK.un)
theorem Zqd (l:List Tok) (e:Int) (out:PR (Int×Bool×Unit)):Zi E Fsm (vc E Fsm 400) 130 [.ptr 0 0,.str true (WK.src .un)] (one [.psl Th.toks l false,.int false .i64 e]) 1 (mK dWK Zgw dIB (fun _=>rfl) l e out)=(
 (((↑(List.length l):Int)==qBL6)=true->List.length qBL7<=(1000000000:Nat)/\∀(y:Int),y=idxS [] (0:Nat) qBL7->∃(Q:Bool->Prop),Q true/\(Q true->out=Except.ok ((qBL6,false,()),l,e,()))/\(qBL5 Q l out y e))/\(((↑(List.length l):Int)==qBL6)=false->qBL6<=qBL6/\qBL6+(1:Int)<=(↑(List.length l):Int)/\∀(x:Tok),l[Int.toNat qBL6]? =some x->((Tok.kind x !=(1:Int))=true->List.length qBL7<=(1000000000:Nat)/\∀(y:Int),y=idxS [] (0:Nat) qBL7->∃(Q:Bool->Prop),Q true/\(Q true->out=Except.ok ((qBL6,false,()),l,e,()))/\(qBL5 Q l out y e))/\((Tok.kind x !=(1:Int))=false->qBL6<=qBL6/\qBL6+(1:Int)<=(↑(List.length l):Int)/\∀(x:Tok),l[Int.toNat qBL6]? =some x->List.length qBL7<=(1000000000:Nat)/\∀(y:Int),y=idxS (Tok.text x) (0:Nat) qBL7->∃(Q:Bool->Prop),((decide (y<qBL6)=true->Q true)/\(decide (y<qBL6)=false->Q false))/\(Q true->out=Except.ok ((qBL6,false,()),l,e,()))/\(qBL5 Q l out y e)))):=by kernel_rfl
abbrev qBL9:=(0:Int)
abbrev qBL8 (a0:Bool->Prop) (b0:List Tok) (c0:PR (Int×Bool×Unit)) (d0:Int) (e0:Int):=(a0 false->(qBL9<=(1:Int)/\(1:Int)<=(↑(List.length b0):Int))/\c0=Except.ok ((d0,true,()),List.drop (Int.toNat (1:Int)) b0,e0,()))
abbrev qBLa:=(WK.words WK.ca)
theorem Zqe (l:List Tok) (e:Int) (out:PR (Int×Bool×Unit)):Zi E Fsm (vc E Fsm 400) 130 [.ptr 0 0,.str true (WK.src .ca)] (one [.psl Th.toks l false,.int false .i64 e]) 1 (mK dWK Zgw dIB (fun _=>rfl) l e out)=(
 (((↑(List.length l):Int)==qBL9)=true->List.length qBLa<=(1000000000:Nat)/\∀(y:Int),y=idxS [] (0:Nat) qBLa->∃(Q:Bool->Prop),Q true/\(Q true->out=Except.ok ((qBL9,false,()),l,e,()))/\(qBL8 Q l out y e))/\(((↑(List.length l):Int)==qBL9)=false->qBL9<=qBL9/\qBL9+(1:Int)<=(↑(List.length l):Int)/\∀(x:Tok),l[Int.toNat qBL9]? =some x->((Tok.kind x !=(1:Int))=true->List.length qBLa<=(1000000000:Nat)/\∀(y:Int),y=idxS [] (0:Nat) qBLa->∃(Q:Bool->Prop),Q true/\(Q true->out=Except.ok ((qBL9,false,()),l,e,()))/\(qBL8 Q l out y e))/\((Tok.kind x !=(1:Int))=false->qBL9<=qBL9/\qBL9+(1:Int)<=(↑(List.length l):Int)/\∀(x:Tok),l[Int.toNat qBL9]? =some x->List.length qBLa<=(1000000000:Nat)/\∀(y:Int),y=idxS (Tok.text x) (0:Nat) qBLa->∃(Q:Bool->Prop),((decide (y<qBL9)=true->Q true)/\(decide (y<qBL9)=false->Q false))/\(Q true->out=Except.ok ((qBL9,false,()),l,e,()))/\(qBL8 Q l out y e)))):=by kernel_rfl
abbrev qBLe:=(0:Int)
abbrev qBLd (a0:List Tok):=(↑(List.length a0):Int)
abbrev qBLb (a0:Bool->Prop) (b0:List Tok) (c0:PR Int) (d0:Int):=(a0 true->(decide ((qBLd b0)>qBLe)=true->qBLe<=qBLe/\qBLe+(1:Int)<=(qBLd b0)/\∀(x:Tok),b0[Int.toNat qBLe]? =some x->c0=Except.error (Tok.at_ x,(160:Int)))/\(decide ((qBLd b0)>qBLe)=false->c0=Except.error (d0,(160:Int))))
abbrev qBLc (a0:Bool->Prop) (b0:List Tok) (c0:PR Int) (d0:Int) (e0:Int):=(a0 false->(qBLe<=(1:Int)/\(1:Int)<=(qBLd b0))/\c0=Except.ok (d0,List.drop (Int.toNat (1:Int)) b0,e0,()))
abbrev qBLf:=(WK.words WK.at_)
theorem Zlt (l:List Tok) (e:Int) (out:PR Int):Zi E Fsm (vc E Fsm 400) 87 [.ptr 0 0,.str true (WK.src .at_)] (one [.psl Th.toks l false,.int false .i64 e]) 1 (mK dWK Zgw dN (fun _=>rfl) l e out)=(
 (((qBLd l)==qBLe)=true->List.length qBLf<=(1000000000:Nat)/\∀(y:Int),y=idxS [] (0:Nat) qBLf->∃(Q:Bool->Prop),Q true/\(qBLb Q l out e)/\(qBLc Q l out y e))/\(((qBLd l)==qBLe)=false->qBLe<=qBLe/\qBLe+(1:Int)<=(qBLd l)/\∀(x:Tok),l[Int.toNat qBLe]? =some x->((Tok.kind x !=(1:Int))=true->List.length qBLf<=(1000000000:Nat)/\∀(y:Int),y=idxS [] (0:Nat) qBLf->∃(Q:Bool->Prop),Q true/\(qBLb Q l out e)/\(qBLc Q l out y e))/\((Tok.kind x !=(1:Int))=false->qBLe<=qBLe/\qBLe+(1:Int)<=(qBLd l)/\∀(x:Tok),l[Int.toNat qBLe]? =some x->List.length qBLf<=(1000000000:Nat)/\∀(y:Int),y=idxS (Tok.text x) (0:Nat) qBLf->∃(Q:Bool->Prop),((decide (y<qBLe)=true->Q true)/\(decide (y<qBLe)=false->Q false))/\(qBLb Q l out e)/\(qBLc Q l out y e)))):=by kernel_rfl
abbrev qBLi (a0:List Tok):=(↑(List.length a0):Int)
abbrev qBLj:=(0:Int)
abbrev qBLg (a0:Bool->Prop) (b0:List Tok) (c0:PR Int) (d0:Int):=(a0 true->(decide ((qBLi b0)>qBLj)=true->qBLj<=qBLj/\qBLj+(1:Int)<=(qBLi b0)/\∀(x:Tok),b0[Int.toNat qBLj]? =some x->c0=Except.error (Tok.at_ x,(160:Int)))/\(decide ((qBLi b0)>qBLj)=false->c0=Except.error (d0,(160:Int))))
abbrev qBLh (a0:Bool->Prop) (b0:List Tok) (c0:PR Int) (d0:Int) (e0:Int):=(a0 false->(qBLj<=(1:Int)/\(1:Int)<=(qBLi b0))/\c0=Except.ok (d0,List.drop (Int.toNat (1:Int)) b0,e0,()))
abbrev qBLk:=(WK.words WK.ki)
theorem Zlu (l:List Tok) (e:Int) (out:PR Int):Zi E Fsm (vc E Fsm 400) 87 [.ptr 0 0,.str true (WK.src .ki)] (one [.psl Th.toks l false,.int false .i64 e]) 1 (mK dWK Zgw dN (fun _=>rfl) l e out)=(
 (((qBLi l)==qBLj)=true->List.length qBLk<=(1000000000:Nat)/\∀(y:Int),y=idxS [] (0:Nat) qBLk->∃(Q:Bool->Prop),Q true/\(qBLg Q l out e)/\(qBLh Q l out y e))/\(((qBLi l)==qBLj)=false->qBLj<=qBLj/\qBLj+(1:Int)<=(qBLi l)/\∀(x:Tok),l[Int.toNat qBLj]? =some x->((Tok.kind x !=(1:Int))=true->List.length qBLk<=(1000000000:Nat)/\∀(y:Int),y=idxS [] (0:Nat) qBLk->∃(Q:Bool->Prop),Q true/\(qBLg Q l out e)/\(qBLh Q l out y e))/\((Tok.kind x !=(1:Int))=false->qBLj<=qBLj/\qBLj+(1:Int)<=(qBLi l)/\∀(x:Tok),l[Int.toNat qBLj]? =some x->List.length qBLk<=(1000000000:Nat)/\∀(y:Int),y=idxS (Tok.text x) (0:Nat) qBLk->∃(Q:Bool->Prop),((decide (y<qBLj)=true->Q true)/\(decide (y<qBLj)=false->Q false))/\(qBLg Q l out e)/\(qBLh Q l out y e)))):=by kernel_rfl
abbrev qBLn (a0:List Tok):=(↑(List.length a0):Int)
abbrev qBLo:=(0:Int)
abbrev qBLl (a0:Bool->Prop) (b0:List Tok) (c0:PR Int) (d0:Int):=(a0 true->(decide ((qBLn b0)>qBLo)=true->qBLo<=qBLo/\qBLo+(1:Int)<=(qBLn b0)/\∀(x:Tok),b0[Int.toNat qBLo]? =some x->c0=Except.error (Tok.at_ x,(160:Int)))/\(decide ((qBLn b0)>qBLo)=false->c0=Except.error (d0,(160:Int))))
abbrev qBLm (a0:Bool->Prop) (b0:List Tok) (c0:PR Int) (d0:Int) (e0:Int):=(a0 false->(qBLo<=(1:Int)/\(1:Int)<=(qBLn b0))/\c0=Except.ok (d0,List.drop (Int.toNat (1:Int)) b0,e0,()))
abbrev qBLp:=(WK.words WK.un)
theorem Zlv (l:List Tok) (e:Int) (out:PR Int):Zi E Fsm (vc E Fsm 400) 87 [.ptr 0 0,.str true (WK.src .un)] (one [.psl Th.toks l false,.int false .i64 e]) 1 (mK dWK Zgw dN (fun _=>rfl) l e out)=(
 (((qBLn l)==qBLo)=true->List.length qBLp<=(1000000000:Nat)/\∀(y:Int),y=idxS [] (0:Nat) qBLp->∃(Q:Bool->Prop),Q true/\(qBLl Q l out e)/\(qBLm Q l out y e))/\(((qBLn l)==qBLo)=false->qBLo<=qBLo/\qBLo+(1:Int)<=(qBLn l)/\∀(x:Tok),l[Int.toNat qBLo]? =some x->((Tok.kind x !=(1:Int))=true->List.length qBLp<=(1000000000:Nat)/\∀(y:Int),y=idxS [] (0:Nat) qBLp->∃(Q:Bool->Prop),Q true/\(qBLl Q l out e)/\(qBLm Q l out y e))/\((Tok.kind x !=(1:Int))=false->qBLo<=qBLo/\qBLo+(1:Int)<=(qBLn l)/\∀(x:Tok),l[Int.toNat qBLo]? =some x->List.length qBLp<=(1000000000:Nat)/\∀(y:Int),y=idxS (Tok.text x) (0:Nat) qBLp->∃(Q:Bool->Prop),((decide (y<qBLo)=true->Q true)/\(decide (y<qBLo)=false->Q false))/\(qBLl Q l out e)/\(qBLm Q l out y e)))):=by kernel_rfl
theorem Zua (l:List Tok) (e:Int) (out:PR (List Nat)):Zi E Fsm (vc E Fsm 400) 86 [.ptr 0 0] (one [.psl Th.toks l false,.int false .i64 e]) 1 (mK .nil n0 dS (fun _=>rfl) l e out)=(
(((↑(List.length l):Int)==(0:Int))=true->(decide ((↑(List.length l):Int)>(0:Int))=true->(0:Int)<=(0:Int)/\(0:Int)+(1:Int)<=(↑(List.length l):Int)/\∀(x:Tok),l[Int.toNat (0:Int)]? =some x->out=Except.error (Tok.at_ x,(160:Int)))/\(decide ((↑(List.length l):Int)>(0:Int))=false->out=Except.error (e,(160:Int))))/\(((↑(List.length l):Int)==(0:Int))=false->(0:Int)<=(0:Int)/\(0:Int)+(1:Int)<=(↑(List.length l):Int)/\∀(x:Tok),l[Int.toNat (0:Int)]? =some x->((Tok.kind x !=(1:Int))=true->(decide ((↑(List.length l):Int)>(0:Int))=true->(0:Int)<=(0:Int)/\(0:Int)+(1:Int)<=(↑(List.length l):Int)/\∀(x:Tok),l[Int.toNat (0:Int)]? =some x->out=Except.error (Tok.at_ x,(160:Int)))/\(decide ((↑(List.length l):Int)>(0:Int))=false->out=Except.error (e,(160:Int))))/\((Tok.kind x !=(1:Int))=false->(0:Int)<=(0:Int)/\(0:Int)+(1:Int)<=(↑(List.length l):Int)/\∀(x:Tok),l[Int.toNat (0:Int)]? =some x->True/\∀(y:Bool),y=decide (Tok.text x∈resW)->(y=true->out=Except.error (Tok.at_ x,(161:Int)))/\(y=false->((0:Int)<=(1:Int)/\(1:Int)<=(↑(List.length l):Int))/\out=Except.ok (Tok.text x,List.drop (Int.toNat (1:Int)) l,e,()))))):=by kernel_rfl
theorem Zfk (l:List Tok) (e:Int) (s:List Nat):We (mI (dA1 dS) (n1 fun _=>rfl) dBt (fun _=>rfl)) 89 (l,e,()) (s,()) (pAcc s l e):=by
 refine Vm F0_ok (n:=400) (a:=(s,())) ?_
 rw [show (dA1 dS).enc (s,())= [.str false s] from rfl,Zlr]
 cases l with
 |nil=>simp only [Zv,Z4,tz,tz0,tp,tp0,tl1,tl2,tg,td,i01,true_and,and_true,forall_eq',forall_eq,Bool.true_eq_false,Bool.false_eq_true,reduceCtorEq,true_implies,false_implies,Int.le_refl,imp_self,bne_iff_ne,ne_eq,bne_eq_false_iff_eq,beq_iff_eq,beq_eq_false_iff_ne,Vo,Vp];rfl
 |cons t l=>
  simp only [Zv,Z4,tz,tz0,tp,tp0,tl1,tl2,tg,td,i01,true_and,and_true,forall_eq',forall_eq,Bool.true_eq_false,Bool.false_eq_true,reduceCtorEq,true_implies,false_implies,Int.le_refl,imp_self,bne_iff_ne,ne_eq,bne_eq_false_iff_eq,beq_iff_eq,beq_eq_false_iff_ne,Vo,Vp]
  unfold pAcc isW
  refine ⟨fun h=>by simp [h],fun h=>⟨fun h2=> ?_,fun h2=> ?_⟩⟩
  · simp at h2;simp [h2]
  · simp at h2;simp [h,h2]
theorem Zqf (l:List Tok) (e:Int) (s:List Nat):We (mI (dA1 dS) (n1 fun _=>rfl) Zt8 (fun _=>rfl)) 85 (l,e,()) (s,()) (Zdi s l e):=by
 refine Vm F0_ok (n:=400) (a:=(s,())) ?_
 rw [show (dA1 dS).enc (s,())= [.str false s] from rfl,Zls];delta qBL3 qBL2 qBL1 qBL4
 cases l with
 |nil=>simp only [Zv,Z4,tz,tz0,tp,tp0,tl1,tl2,tg,td,i01,true_and,and_true,forall_eq',forall_eq,Bool.true_eq_false,Bool.false_eq_true,reduceCtorEq,true_implies,false_implies,Int.le_refl,imp_self,bne_iff_ne,ne_eq,bne_eq_false_iff_eq,beq_iff_eq,beq_eq_false_iff_ne,Vo,Vp];rfl
 |cons t l=>
  simp only [Zv,Z4,tz,tz0,tp,tp0,tl1,tl2,tg,td,i01,true_and,and_true,forall_eq',forall_eq,Bool.true_eq_false,Bool.false_eq_true,reduceCtorEq,true_implies,false_implies,Int.le_refl,imp_self,bne_iff_ne,ne_eq,bne_eq_false_iff_eq,beq_iff_eq,beq_eq_false_iff_ne,Vo,Vp]
  unfold Zdi isW hdT
  refine ⟨fun h=>by simp [h],fun h=>⟨fun h2=> ?_,fun h2=> ?_⟩⟩
  · simp at h2;simp [h2]
  · simp at h2;simp [h,h2]
theorem Zlw (l:List Tok) (e:Int):We (mI .nil n0 dN (fun _=>rfl)) 167 (l,e,()) () (pInt l e):=by
 refine Vm F0_ok (n:=400) (a:=()) ?_
 rw [show (DcL.nil (E:=E)).enc ()= [] from rfl,Zi0]
 cases l with
 |nil=>simp only [Zv,Z4,tz,tz0,tp,tp0,tl1,tl2,tg,td,i01,true_and,and_true,forall_eq',forall_eq,Bool.true_eq_false,Bool.false_eq_true,reduceCtorEq,true_implies,false_implies,Int.le_refl,imp_self,bne_iff_ne,ne_eq,bne_eq_false_iff_eq,beq_iff_eq,beq_eq_false_iff_ne,Vo,Vp];rfl
 |cons t l=>
  simp only [Zv,Z4,tz,tz0,tp,tp0,tl1,tl2,tg,td,i01,true_and,and_true,forall_eq',forall_eq,Bool.true_eq_false,Bool.false_eq_true,reduceCtorEq,true_implies,false_implies,Int.le_refl,imp_self,bne_iff_ne,ne_eq,bne_eq_false_iff_eq,beq_iff_eq,beq_eq_false_iff_ne,Vo,Vp]
  unfold pInt
  exact ⟨fun h=>by simp [h],fun h=>by simp [h]⟩
theorem Zyo (l:List Tok) (e:Int):We (mI .nil n0 dS (fun _=>rfl)) 86 (l,e,()) () (Zdj l e):=by
 refine Vm Zt9 (n:=400) (a:=()) ?_
 rw [show (DcL.nil (E:=E)).enc ()= [] from rfl,Zua]
 cases l with
 |nil=>simp only [Zv,Z4,tz,tz0,tp,tp0,tl1,tl2,tg,td,i01,true_and,and_true,forall_eq',forall_eq,Bool.true_eq_false,Bool.false_eq_true,reduceCtorEq,true_implies,false_implies,Int.le_refl,imp_self,bne_iff_ne,ne_eq,bne_eq_false_iff_eq,beq_iff_eq,beq_eq_false_iff_ne,Vo,Vp];rfl
 |cons t l=>
  simp only [Zv,Z4,tz,tz0,tp,tp0,tl1,tl2,tg,td,i01,true_and,and_true,forall_eq',forall_eq,Bool.true_eq_false,Bool.false_eq_true,reduceCtorEq,true_implies,false_implies,Int.le_refl,imp_self,bne_iff_ne,ne_eq,bne_eq_false_iff_eq,beq_iff_eq,beq_eq_false_iff_ne,Vo,Vp]
  unfold Zdj
  refine ⟨fun h=>by simp [h],fun h=>⟨fun h2=> ?_,fun h2=> ?_⟩⟩
  · simp at h2;simp [h,h2]
  · simp at h2;simp [h,h2]
theorem Zqg (k:WK) (hk:k= .un\/k= .ca) (l:List Tok) (e:Int):We (mI dWK Zgw dIB (fun _=>rfl)) 130 (l,e,()) k (Yj k.words l e):=by
 refine Vm Zt9 (n:=400) (a:=k) ?_
 rcases hk with rfl|rfl
 · rw [show dWK.enc .un= [.str true (WK.src .un)] from rfl,Zqd];delta qBL6 qBL5 qBL7
   cases l with
   |nil=>
    simp only [Zv,Z4,tz,tz0,tp,tp0,tl1,tl2,tg,td,i01,true_and,and_true,forall_eq',forall_eq,Bool.true_eq_false,Bool.false_eq_true,reduceCtorEq,true_implies,false_implies,Int.le_refl,imp_self,bne_iff_ne,ne_eq,bne_eq_false_iff_eq,beq_iff_eq,beq_eq_false_iff_ne]
    try simp only [Vo,Vp]
    exact ⟨by decide,rfl⟩
   |cons t l=>
    simp only [Zv,Z4,tz,tz0,tp,tp0,tl1,tl2,tg,td,i01,true_and,and_true,forall_eq',forall_eq,Bool.true_eq_false,Bool.false_eq_true,reduceCtorEq,true_implies,false_implies,Int.le_refl,imp_self,bne_iff_ne,ne_eq,bne_eq_false_iff_eq,beq_iff_eq,beq_eq_false_iff_ne]
    try simp only [Vo,Vp]
    unfold Yj chz
    refine ⟨fun h=>⟨by decide,by simp [h]⟩,fun h=>⟨by decide,fun h2=> ?_,fun h2=> ?_⟩⟩
    · simp [h,h2]
    · simp [h,h2]
 · rw [show dWK.enc .ca= [.str true (WK.src .ca)] from rfl,Zqe];delta qBL9 qBL8 qBLa
   cases l with
   |nil=>
    simp only [Zv,Z4,tz,tz0,tp,tp0,tl1,tl2,tg,td,i01,true_and,and_true,forall_eq',forall_eq,Bool.true_eq_false,Bool.false_eq_true,reduceCtorEq,true_implies,false_implies,Int.le_refl,imp_self,bne_iff_ne,ne_eq,bne_eq_false_iff_eq,beq_iff_eq,beq_eq_false_iff_ne]
    try simp only [Vo,Vp]
    exact ⟨by decide,rfl⟩
   |cons t l=>
    simp only [Zv,Z4,tz,tz0,tp,tp0,tl1,tl2,tg,td,i01,true_and,and_true,forall_eq',forall_eq,Bool.true_eq_false,Bool.false_eq_true,reduceCtorEq,true_implies,false_implies,Int.le_refl,imp_self,bne_iff_ne,ne_eq,bne_eq_false_iff_eq,beq_iff_eq,beq_eq_false_iff_ne]
    try simp only [Vo,Vp]
    unfold Yj chz
    refine ⟨fun h=>⟨by decide,by simp [h]⟩,fun h=>⟨by decide,fun h2=> ?_,fun h2=> ?_⟩⟩
    · simp [h,h2]
    · simp [h,h2]
theorem Zyp (k:WK) (hk:k= .at_\/k= .ki\/k= .un) (l:List Tok) (e:Int):We (mI dWK Zgw dN (fun _=>rfl)) 87 (l,e,()) k (X1 k.words l e):=by
 refine Vm Zt9 (n:=400) (a:=k) ?_
 rcases hk with rfl|rfl|rfl
 · rw [show dWK.enc .at_= [.str true (WK.src .at_)] from rfl,Zlt];delta qBLe qBLd qBLb qBLc qBLf
   cases l with
   |nil=>
    simp only [Zv,Z4,tz,tz0,tp,tp0,tl1,tl2,tg,td,i01,true_and,and_true,forall_eq',forall_eq,Bool.true_eq_false,Bool.false_eq_true,reduceCtorEq,true_implies,false_implies,Int.le_refl,imp_self,bne_iff_ne,ne_eq,bne_eq_false_iff_eq,beq_iff_eq,beq_eq_false_iff_ne]
    try simp only [Vo,Vp]
    exact ⟨by decide,rfl⟩
   |cons t l=>
    simp only [Zv,Z4,tz,tz0,tp,tp0,tl1,tl2,tg,td,i01,true_and,and_true,forall_eq',forall_eq,Bool.true_eq_false,Bool.false_eq_true,reduceCtorEq,true_implies,false_implies,Int.le_refl,imp_self,bne_iff_ne,ne_eq,bne_eq_false_iff_eq,beq_iff_eq,beq_eq_false_iff_ne]
    try simp only [Vo,Vp]
    unfold X1 chz hdT
    refine ⟨fun h=>⟨by decide,by simp [h]⟩,fun h=>⟨by decide,fun h2=> ?_,fun h2=> ?_⟩⟩
    · simp [h,h2]
    · simp [h,h2]
 · rw [show dWK.enc .ki= [.str true (WK.src .ki)] from rfl,Zlu];delta qBLi qBLj qBLg qBLh qBLk
   cases l with
   |nil=>
    simp only [Zv,Z4,tz,tz0,tp,tp0,tl1,tl2,tg,td,i01,true_and,and_true,forall_eq',forall_eq,Bool.true_eq_false,Bool.false_eq_true,reduceCtorEq,true_implies,false_implies,Int.le_refl,imp_self,bne_iff_ne,ne_eq,bne_eq_false_iff_eq,beq_iff_eq,beq_eq_false_iff_ne]
    try simp only [Vo,Vp]
    exact ⟨by decide,rfl⟩
   |cons t l=>
    simp only [Zv,Z4,tz,tz0,tp,tp0,tl1,tl2,tg,td,i01,true_and,and_true,forall_eq',forall_eq,Bool.true_eq_false,Bool.false_eq_true,reduceCtorEq,true_implies,false_implies,Int.le_refl,imp_self,bne_iff_ne,ne_eq,bne_eq_false_iff_eq,beq_iff_eq,beq_eq_false_iff_ne]
    try simp only [Vo,Vp]
    unfold X1 chz hdT
    refine ⟨fun h=>⟨by decide,by simp [h]⟩,fun h=>⟨by decide,fun h2=> ?_,fun h2=> ?_⟩⟩
    · simp [h,h2]
    · simp [h,h2]
 · rw [show dWK.enc .un= [.str true (WK.src .un)] from rfl,Zlv];delta qBLn qBLo qBLl qBLm qBLp
   cases l with
   |nil=>
    simp only [Zv,Z4,tz,tz0,tp,tp0,tl1,tl2,tg,td,i01,true_and,and_true,forall_eq',forall_eq,Bool.true_eq_false,Bool.false_eq_true,reduceCtorEq,true_implies,false_implies,Int.le_refl,imp_self,bne_iff_ne,ne_eq,bne_eq_false_iff_eq,beq_iff_eq,beq_eq_false_iff_ne]
    try simp only [Vo,Vp]
    exact ⟨by decide,rfl⟩
   |cons t l=>
    simp only [Zv,Z4,tz,tz0,tp,tp0,tl1,tl2,tg,td,i01,true_and,and_true,forall_eq',forall_eq,Bool.true_eq_false,Bool.false_eq_true,reduceCtorEq,true_implies,false_implies,Int.le_refl,imp_self,bne_iff_ne,ne_eq,bne_eq_false_iff_eq,beq_iff_eq,beq_eq_false_iff_ne]
    try simp only [Vo,Vp]
    unfold X1 chz hdT
    refine ⟨fun h=>⟨by decide,by simp [h]⟩,fun h=>⟨by decide,fun h2=> ?_,fun h2=> ?_⟩⟩
    · simp [h,h2]
    · simp [h,h2]
end
section
open Go
def Z3j:Sum thy:=fun args h _ k=>
 match args with
 | [.ptr b 0,.str _ s]=>
  (match h b with
  |some (.raw cs 0 _)=>(match dPX.dec cs with
   |some x=>(isW s x.1=true->k (Zfw b (.bool true true) (dPX.enc (x.1.tail,x.2))))/\(isW s x.1=false->k (Zfw b (.bool true false) (dPX.enc x)))
   |none=>False)
  |_=>False)
 |_=>False
def Sexp:Sum thy:=fun args h _ k=>
 match args with
 | [.ptr b 0,.str _ s]=>
  (match h b with
  |some (.raw cs 0 _)=>(match dPX.dec cs with
   |some x=>(isW s x.1=true->k (Zfw b (.tup []) (dPX.enc (x.1.tail,x.2))))/\(isW s x.1=false->k (Zvq b (Zyn (hdT x.2.1 x.1,160))))
   |none=>False)
  |_=>False)
 |_=>False
theorem SaccB_ok:SumOk E 89 Z3j:=by
 refine ⟨Zb rfl,fun args h i k hD hk=> ?_⟩
 unfold Z3j at hk
 split at hk
 case h_2=>exact hk.elim
 rename_i b f s
 split at hk
 case h_2=>exact hk.elim
 rename_i cs tg hb
 split at hk
 case h_2=>exact hk.elim
 rename_i x hx
 obtain ⟨l,e,_⟩:=x
 refine (Y9 E_ok (Zb rfl) (M:=mI (dA1 dS) (n1 fun _=>rfl) dBt (fun _=>rfl)) (pre:=fun _ _=>True) (fn:=fun x a=>pAcc a.1 x.1 x.2.1) fun x a _=>Zfk x.1 x.2.1 a.1).ok [.ptr b 0,.str f s] h i k hD ?_
 simp only [sumM,hb]
 rw [show (mI (dA1 dS) (n1 fun _=>rfl) dBt (fun _=>rfl)).dS.dec cs=some (l,e,()) from hx,show (mI (dA1 dS) (n1 fun _=>rfl) dBt (fun _=>rfl)).dA.dec [.str f s]=some (s,()) from rfl]
 refine ⟨trivial,fun y x' he=> ?_,fun e he=>by cases he⟩
 unfold pAcc at he
 injection he with he
 injection he with e1 e2
 subst e1;subst e2
 cases hw:isW s l with
 |true=>exact hk.1 hw
 |false=>exact hk.2 hw
theorem Z3k:SumOk E 85 Sexp:=by
 refine ⟨Zb rfl,fun args h i k hD hk=> ?_⟩
 unfold Sexp at hk
 split at hk
 case h_2=>exact hk.elim
 rename_i b f s
 split at hk
 case h_2=>exact hk.elim
 rename_i cs tg hb
 split at hk
 case h_2=>exact hk.elim
 rename_i x hx
 obtain ⟨l,e,_⟩:=x
 refine (Y9 E_ok (Zb rfl) (M:=mI (dA1 dS) (n1 fun _=>rfl) Zt8 (fun _=>rfl)) (pre:=fun _ _=>True) (fn:=fun x a=>Zdi a.1 x.1 x.2.1) fun x a _=>Zqf x.1 x.2.1 a.1).ok [.ptr b 0,.str f s] h i k hD ?_
 simp only [sumM,hb]
 rw [show (mI (dA1 dS) (n1 fun _=>rfl) Zt8 (fun _=>rfl)).dS.dec cs=some (l,e,()) from hx,show (mI (dA1 dS) (n1 fun _=>rfl) Zt8 (fun _=>rfl)).dA.dec [.str f s]=some (s,()) from rfl]
 refine ⟨trivial,fun y x' he=> ?_,fun e he=> ?_⟩
 · unfold Zdi at he
   split at he
   · rename_i hw
     injection he with he
     injection he with e1 e2
     subst e1;subst e2
     exact hk.1 hw
   · cases he
 · unfold Zdi at he
   split at he
   · cases he
   · rename_i hw
     injection he with he
     subst he
     exact hk.2 (by simpa using hw)
def Z8a:List Nat:= [119,104,101,110]
def sAnd:List Nat:= [97,110,100]
theorem Zun {f:FuncId} {cs rest cs':List (SV thy)} {v v':SV thy} (h:MutC E f cs rest v cs') (hv:∀σ g u,Den E σ g v u->Den E σ g v' u):MutC E f cs rest v' cs':=fun B σ g w vals hh a b c d e=>
 (h B σ g w vals hh a b c d e).mono fun en w' ⟨u,he,σ',g',s,i,dd⟩=>⟨u,he,σ',g',s,i,hv _ _ _ dd⟩
theorem Zl7 (l:List Tok) (e:Int) (s:List Nat):We (mI (dA1 dS) (n1 fun _=>rfl) dB (fun _=>rfl)) 89 (l,e,()) (s,()) (pAcc s l e):=
 Zun (Zfk l e s) fun σ g u hd=>by cases hd;exact .bool _ _
def Sacc:Sum thy:=fun args h i k=>
 match args with
 | [.ptr b 0,.str f s]=>
  (match eqL s Z8a||eqL s sAnd with
  |true=>sumM (mI (dA1 dS) (n1 fun _=>rfl) dB (fun _=>rfl)) (fun _ _=>True) (fun x a=>pAcc a.1 x.1 x.2.1) [.ptr b 0,.str f s] h i k
  |false=>Z3j [.ptr b 0,.str f s] h i k)
 |_=>False
theorem Z3l:SumOk E 89 Sacc:=by
 refine ⟨Zb rfl,fun args h i k hD hk=> ?_⟩
 unfold Sacc at hk
 split at hk
 · split at hk
   · exact (Y9 E_ok (Zb rfl) fun x a _=>Zl7 x.1 x.2.1 a.1).ok _ h i k hD hk
   · exact SaccB_ok.ok _ h i k hD hk
 · exact hk.elim
def Z3m (l:List Tok) (e:Int):PR Int:= .ok (hdT e l,l,e,())
theorem Zuo (l:List Tok) (e:Int) (out:PR Int):Zi E F0 (vc E F0 400) 88 [.ptr 0 0] (one [.psl Th.toks l false,.int false .i64 e]) 1 (mK .nil n0 dN (fun _=>rfl) l e out)=(
(decide ((↑(List.length l):Int)>(0:Int))=true->(0:Int)<=(0:Int)/\(0:Int)+(1:Int)<=(↑(List.length l):Int)/\∀(x:Tok),l[Int.toNat (0:Int)]? =some x->out=Except.ok (Tok.at_ x,l,e,()))/\(decide ((↑(List.length l):Int)>(0:Int))=false->out=Except.ok (e,l,e,()))):=by kernel_rfl
theorem Zy3 (l:List Tok) (e:Int):We (mI .nil n0 dN (fun _=>rfl)) 88 (l,e,()) () (Z3m l e):=by
 refine Vm F0_ok (n:=400) (a:=()) ?_
 rw [show (DcL.nil (E:=E)).enc ()= [] from rfl,Zuo]
 cases l with
 |nil=>exact ⟨fun h=>absurd h (by decide),fun _=>rfl⟩
 |cons t l=>exact ⟨fun _=>⟨Int.le_refl 0,by rw [List.length_cons];omega,fun x hx=>by rw [tg] at hx;subst hx;rfl⟩,fun h=>by rw [tp] at h;cases h⟩
def Zy4:Sum thy:=fun args h _ k=>
 match args with
 | [.ptr b 0]=>
  (match h b with
  |some (.raw cs 0 _)=>(match dPX.dec cs with
   |some x=>∀y,y=hdT x.2.1 x.1->k (Zfw b (.int false .i64 y) (dPX.enc x))
   |none=>False)
  |_=>False)
 |_=>False
theorem Zod:SumOk E 88 Zy4:=by
 refine ⟨Zb rfl,fun args h i k hD hk=> ?_⟩
 unfold Zy4 at hk
 split at hk
 case h_2=>exact hk.elim
 rename_i b
 split at hk
 case h_2=>exact hk.elim
 rename_i cs tg hb
 split at hk
 case h_2=>exact hk.elim
 rename_i x hx
 obtain ⟨l,e,_⟩:=x
 refine (Y9 E_ok (Zb rfl) (M:=mI .nil n0 dN (fun _=>rfl)) (pre:=fun _ _=>True) (fn:=fun x a=>Z3m x.1 x.2.1) fun x a _=>Zy3 x.1 x.2.1).ok [.ptr b 0] h i k hD ?_
 simp only [sumM,hb]
 rw [show (mI .nil n0 dN (fun _=>rfl)).dS.dec cs=some (l,e,()) from hx,show (mI .nil n0 dN (fun _=>rfl)).dA.dec []=some () from rfl]
 refine ⟨trivial,fun y x' he=> ?_,fun e he=>by cases he⟩
 unfold Z3m at he
 injection he with he
 injection he with e1 e2
 subst e1;subst e2
 exact hk _ rfl
def Scho:Sum thy:=sumM (mI dWK Zgw dIB (fun _=>rfl)) (fun _ k=>k= .un\/k= .ca) fun x k=>Yj k.words x.1 x.2.1
theorem Z3n:SumOk E 130 Scho:=Y9 E_ok (Zb rfl) fun x k h=>Zqg k h x.1 x.2.1
def Z57:Sum thy:=sumM (mI dWK Zgw dN (fun _=>rfl)) (fun _ k=>k= .at_\/k= .ki\/k= .un) fun x k=>X1 k.words x.1 x.2.1
theorem Zy5:SumOk E 87 Z57:=Y9 E_ok (Zb rfl) fun x k h=>Zyp k h x.1 x.2.1
def Sint:Sum thy:=sumM (mI .nil n0 dN (fun _=>rfl)) (fun _ _=>True) fun x _=>pInt x.1 x.2.1
theorem Z3o:SumOk E 167 Sint:=Y9 E_ok (Zb rfl) fun x _ _=>Zlw x.1 x.2.1
def Z58:Sum thy:=sumM (mI .nil n0 dS (fun _=>rfl)) (fun _ _=>True) fun x _=>Zdj x.1 x.2.1
theorem Zy6:SumOk E 86 Z58:=Y9 E_ok (Zb rfl) fun x _ _=>Zyo x.1 x.2.1
def Fme:Fns thy:=addS (addS (addS (addS (addS (addS F0 89 Sacc) 85 Sexp) 130 Scho) 87 Z57) 167 Sint) 86 Z58
theorem Zdu:FnsOk E Fme:=Zc (Zc (Zc (Zc (Zc (Zc F0_ok Z3l) Z3k) Z3n) Zy5) Z3o) Zy6
theorem Zup {s:List Nat}:∀{l:List (List Nat)} {k:Nat},idxS s k l<k+l.length
 | [],k=>by unfold idxS;simp;omega
 |x::l,k=>by
  unfold idxS
  split
  · simp;omega
  · have:=Zup (s:=s) (l:=l) (k:=k+1)
    simp at this⊢;omega
theorem Zoe {ws:List (List Nat)} {l:List Tok} (h:0<ws.length):chz ws l<ws.length:=by
 unfold chz
 split
 · omega
 · split
   · rename_i t r _
     have:=Zup (s:=t.text) (l:=ws) (k:=0)
     simpa using this
   · omega
theorem Xi {ws:List (List Nat)} {l:List Tok} {e:Int} {y:Int×Bool×Unit} {x':PX} (h:Yj ws l e= .ok (y,x')):(0<=chz ws l/\y=(chz ws l,true,())/\x'=(l.tail,e,()))\/(¬0<=chz ws l/\y=(0,false,())/\x'=(l,e,())):=by
 unfold Yj at h
 split at h
 · injection h with h
   injection h with h1 h2
   exact .inl ⟨by assumption,h1.symm,h2.symm⟩
 · injection h with h
   injection h with h1 h2
   exact .inr ⟨by assumption,h1.symm,h2.symm⟩
theorem Zl8 {ws:List (List Nat)} {l:List Tok} {e:Int} {er:Int×Int} (h:Yj ws l e= .error er):False:=by
 unfold Yj at h
 split at h<;>cases h
theorem Za6 {ws:List (List Nat)} {l:List Tok} {e:Int} {y:Int} {x':PX} (h:X1 ws l e= .ok (y,x')):0<=chz ws l/\y=chz ws l/\x'=(l.tail,e,()):=by
 unfold X1 at h
 split at h
 · injection h with h
   injection h with h1 h2
   exact ⟨by assumption,h1.symm,h2.symm⟩
 · cases h
def incD (d:List Int) (i:Int):List Int:=d.set i.toNat (d.getD i.toNat 0+1)
def decD (d:List Int) (i:Int):List Int:=d.set i.toNat (d.getD i.toNat 0-1)
def sPer:List Nat:= [112,101,114]
def Zbv (l:List Tok) (e:Int):PR (List Int):=
 match Yj WK.un.words l e with
 | .error er=> .error er
 | .ok (y,x)=>
  if isW sPer x.1 then
   match X1 WK.un.words x.1.tail x.2.1 with
   | .error er=> .error er
   | .ok (j,x1)=> .ok (decD (if y.2.1 then incD [0,0,0,0] y.1 else [0,0,0,0]) j,x1)
  else .ok (if y.2.1 then incD [0,0,0,0] y.1 else [0,0,0,0],x)
def sIs:List Nat:= [105,115]
def sIn:List Nat:= [105,110]
def Z3p:List Nat:= [46,46]
def Zaf (n:Int) (l:List Tok) (e:Int):PR Tst:=
 match X1 WK.at_.words l e with
 | .error er=> .error er
 | .ok (a,x)=>
  if n=8 then .error (hdT e l,2)
  else if isW sIs x.1 then
   match pInt x.1.tail x.2.1 with
   | .error er=> .error er
   | .ok (m,x1)=> .ok (⟨a,m,m⟩,x1)
  else if isW sIn x.1 then
   match pInt x.1.tail x.2.1 with
   | .error er=> .error er
   | .ok (m,x1)=>
    if isW Z3p x1.1 then
     match pInt x1.1.tail x1.2.1 with
     | .error er=> .error er
     | .ok (k,x2)=> .ok (⟨a,m,k⟩,x2)
    else .error (hdT x1.2.1 x1.1,160)
  else .error (hdT x.2.1 x.1,160)
def dDm:Dc E (List Int):=dR .dims
def dTs:Dc E Tst:=dR .tests
abbrev qBM3:=(0:Int)
abbrev qBM1 (a0:Int×Bool×Unit) (b0:Int):=(List.set [qBM3,qBM3,qBM3,qBM3] (Int.toNat (Prod.fst a0)) (wr IntKind.i64 (b0+(1:Int))))
abbrev qBM2 (a0:Int) (b0:Int):=(List.set [qBM3,qBM3,qBM3,qBM3] (Int.toNat a0) (wr IntKind.i64 (b0-(1:Int))))
abbrev qBM4 (a0:Int×Bool×Unit) (b0:Int) (c0:Int) (d0:Int):=(List.set (qBM1 a0 b0) (Int.toNat c0) (wr IntKind.i64 (d0-(1:Int))))
abbrev qBM5:=(4:Nat)
abbrev qBM6 (a0:Int):=(qBM3<=a0/\a0+(1:Int)<=(↑qBM5:Int))
abbrev qBM7:=(WK.words WK.un)
abbrev qBM8:=(WK.un=WK.at_\/WK.un=WK.ki\/WK.un=WK.un)
theorem Zuq (l:List Tok) (e:Int) (out:PR (List Int)):Zi E Fme (vc E Fme 400) 191 [.ptr 0 0] (one [.psl Th.toks l false,.int false .i64 e]) 1 (mK .nil n0 dDm (fun _=>rfl) l e out)=(
 (WK.un=WK.un\/WK.un=WK.ca)/\(∀(y:Int×Bool×Unit) (x':PX),Yj qBM7 l e=Except.ok (y,x')->(Prod.fst (Prod.snd y)=true->(qBM3<=Prod.fst y/\Prod.fst y+(1:Int)<=(↑qBM5:Int))/\Int.toNat (Prod.fst y)+(1:Nat)<=qBM5/\∀(x:Int),[qBM3,qBM3,qBM3,qBM3][Int.toNat (Prod.fst y)]? =some x->(qBM3<=Prod.fst y/\Prod.fst y+(1:Int)<=(↑qBM5:Int))/\(0:Nat)<=Int.toNat (Prod.fst y)/\Int.toNat (Prod.fst y)+(1:Nat)<=qBM5/\∀(x_1:Int),[qBM3,qBM3,qBM3,qBM3][Int.toNat (Prod.fst y)]? =some x_1->(isW [(112:Nat),(101:Nat),(114:Nat)] (Prod.fst x')=true->qBM8/\(∀(y_1:Int) (x'_1:PX),X1 qBM7 (List.tail (Prod.fst x')) (Prod.fst (Prod.snd x'))=Except.ok (y_1,x'_1)->(qBM6 y_1)/\Int.toNat y_1+(1:Nat)<=List.length (qBM1 y x)/\∀(x_2:Int),(qBM1 y x)[Int.toNat y_1]? =some x_2->(qBM6 y_1)/\(0:Nat)<=Int.toNat y_1/\Int.toNat y_1+(1:Nat)<=List.length (qBM1 y x)/\∀(x_3:Int),(qBM1 y x)[Int.toNat y_1]? =some x_3->List.length (qBM4 y x y_1 x_2)=qBM5/\List.length (qBM4 y x y_1 x_2)=qBM5/\qBM5=qBM5/\out=Except.ok ([List.getD (qBM4 y x y_1 x_2) (0:Nat) qBM3,List.getD (qBM4 y x y_1 x_2) (1:Nat) qBM3,List.getD (qBM4 y x y_1 x_2) (2:Nat) qBM3,List.getD (qBM4 y x y_1 x_2) (3:Nat) qBM3],Prod.fst x'_1,Prod.fst (Prod.snd x'_1),()))/\∀(e:Int×Int),X1 qBM7 (List.tail (Prod.fst x')) (Prod.fst (Prod.snd x'))=Except.error e->out=Except.error e)/\(isW [(112:Nat),(101:Nat),(114:Nat)] (Prod.fst x')=false->List.length (qBM1 y x)=qBM5/\List.length (qBM1 y x)=qBM5/\qBM5=qBM5/\out=Except.ok ([List.getD (qBM1 y x) (0:Nat) qBM3,List.getD (qBM1 y x) (1:Nat) qBM3,List.getD (qBM1 y x) (2:Nat) qBM3,List.getD (qBM1 y x) (3:Nat) qBM3],Prod.fst x',Prod.fst (Prod.snd x'),())))/\(Prod.fst (Prod.snd y)=false->(isW [(112:Nat),(101:Nat),(114:Nat)] (Prod.fst x')=true->qBM8/\(∀(y:Int) (x'_1:PX),X1 qBM7 (List.tail (Prod.fst x')) (Prod.fst (Prod.snd x'))=Except.ok (y,x'_1)->(qBM6 y)/\Int.toNat y+(1:Nat)<=qBM5/\∀(x:Int),[qBM3,qBM3,qBM3,qBM3][Int.toNat y]? =some x->(qBM6 y)/\(0:Nat)<=Int.toNat y/\Int.toNat y+(1:Nat)<=qBM5/\∀(x_1:Int),[qBM3,qBM3,qBM3,qBM3][Int.toNat y]? =some x_1->List.length (qBM2 y x)=qBM5/\List.length (qBM2 y x)=qBM5/\qBM5=qBM5/\out=Except.ok ([List.getD (qBM2 y x) (0:Nat) qBM3,List.getD (qBM2 y x) (1:Nat) qBM3,List.getD (qBM2 y x) (2:Nat) qBM3,List.getD (qBM2 y x) (3:Nat) qBM3],Prod.fst x'_1,Prod.fst (Prod.snd x'_1),()))/\∀(e:Int×Int),X1 qBM7 (List.tail (Prod.fst x')) (Prod.fst (Prod.snd x'))=Except.error e->out=Except.error e)/\(isW [(112:Nat),(101:Nat),(114:Nat)] (Prod.fst x')=false->qBM5=qBM5/\qBM5=qBM5/\qBM5=qBM5/\out=Except.ok ([qBM3,qBM3,qBM3,qBM3],Prod.fst x',Prod.fst (Prod.snd x'),()))))/\∀(e_1:Int×Int),Yj qBM7 l e=Except.error e_1->out=Except.error e_1):=by kernel_rfl
abbrev qBMa (a0:PX):=(Prod.fst (Prod.snd a0))
abbrev qBMb (a0:PX):=(List.tail (Prod.fst a0))
abbrev qBM9 (a0:Int) (b0:PX) (c0:PR Tst) (d0:Int):=((a0==(8:Int))=false->(isW [(105:Nat),(115:Nat)] (Prod.fst b0)=true->True/\(∀(y_1:Int) (x'_1:PX),pInt (qBMb b0) (qBMa b0)=Except.ok (y_1,x'_1)->c0=Except.ok (Tst.mk d0 y_1 y_1,Prod.fst x'_1,Prod.fst (Prod.snd x'_1),()))/\∀(e:Int×Int),pInt (qBMb b0) (qBMa b0)=Except.error e->c0=Except.error e)/\(isW [(105:Nat),(115:Nat)] (Prod.fst b0)=false->(isW [(105:Nat),(110:Nat)] (Prod.fst b0)=true->True/\(∀(y_1:Int) (x'_1:PX),pInt (qBMb b0) (qBMa b0)=Except.ok (y_1,x'_1)->(isW [(46:Nat),(46:Nat)] (Prod.fst x'_1)=true->True/\(∀(y_2:Int) (b0:PX),pInt (qBMb x'_1) (qBMa x'_1)=Except.ok (y_2,b0)->c0=Except.ok (Tst.mk d0 y_1 y_2,Prod.fst b0,Prod.fst (Prod.snd b0),()))/\∀(e:Int×Int),pInt (qBMb x'_1) (qBMa x'_1)=Except.error e->c0=Except.error e)/\(isW [(46:Nat),(46:Nat)] (Prod.fst x'_1)=false->c0=Except.error (hdT (qBMa x'_1) (Prod.fst x'_1),(160:Int))))/\∀(e:Int×Int),pInt (qBMb b0) (qBMa b0)=Except.error e->c0=Except.error e)/\(isW [(105:Nat),(110:Nat)] (Prod.fst b0)=false->c0=Except.error (hdT (qBMa b0) (Prod.fst b0),(160:Int)))))
abbrev qBMc:=(WK.at_=WK.at_\/WK.at_=WK.ki\/WK.at_=WK.un)
theorem Zur (l:List Tok) (e n:Int) (out:PR Tst):Zi E Fme (vc E Fme 400) 133 [.ptr 0 0,.int false .i64 n] (one [.psl Th.toks l false,.int false .i64 e]) 1 (mK (dA1 dN) (n1 fun _=>rfl) dTs (fun _=>rfl) l e out)=(
 (decide ((↑(List.length l):Int)>(0:Int))=true->(0:Int)<=(0:Int)/\(0:Int)+(1:Int)<=(↑(List.length l):Int)/\∀(x:Tok),l[Int.toNat (0:Int)]? =some x->qBMc/\(∀(y:Int) (x':PX),X1 (WK.words WK.at_) l e=Except.ok (y,x')->((n==(8:Int))=true->out=Except.error (Tok.at_ x,(2:Int)))/\(qBM9 n x' out y))/\∀(e_1:Int×Int),X1 (WK.words WK.at_) l e=Except.error e_1->out=Except.error e_1)/\(decide ((↑(List.length l):Int)>(0:Int))=false->qBMc/\(∀(y:Int) (x':PX),X1 (WK.words WK.at_) l e=Except.ok (y,x')->((n==(8:Int))=true->out=Except.error (e,(2:Int)))/\(qBM9 n x' out y))/\∀(e_1:Int×Int),X1 (WK.words WK.at_) l e=Except.error e_1->out=Except.error e_1)):=by kernel_rfl
theorem four {i:Int} (h0:0<=i) (h4:i < 4):i = 0\/i = 1\/i = 2\/i = 3:=by omega
theorem Zy7 (l : List Tok) (e : Int) : We (mI .nil n0 dDm (fun _ => rfl)) 191 (l, e, ()) () (Zbv l e) := by
 refine Vm Zdu (n := 400) (a := ()) ?_
 rw [show (DcL.nil (E := E)).enc () = [] from rfl, Zuq]; delta qBM3 qBM1 qBM2 qBM4 qBM5 qBM6 qBM7 qBM8
 have w1 : wr .i64 1 = 1 := by decide
 have w2 : wr .i64 (-1) = -1 := by decide
 have w3 : wr .i64 0 = 0 := by decide
 refine ⟨.inl rfl, fun y x' h => ⟨fun hb => ?_, fun hb => ?_⟩, fun er h => (Zl8 h).elim⟩
 · obtain ⟨i, b, _⟩ := y
   have hb : b = true := hb
   subst hb
   rcases Xi h with ⟨q1, q2, rfl⟩ | ⟨_, q2, _⟩
   case inr => cases q2
   cases q2
   have q3 : chz WK.un.words l < 4 := Zoe (by decide)
   generalize hq : chz WK.un.words l = q at *
   rcases four q1 q3 with rfl | rfl | rfl | rfl
   all_goals
    simp [w1]
    refine ⟨fun h1 => ⟨fun j x1 z1 z2 h2 => ?_, fun e1 e2 h2 => ?_⟩, fun h1 => ?_⟩
    · obtain ⟨r1, r2, _⟩ := Za6 h2
      have r3 : chz WK.un.words l.tail.tail < 4 := Zoe (by decide)
      rw [← r2] at r1 r3; clear r2
      rcases four r1 r3 with rfl | rfl | rfl | rfl
      all_goals simp [Zbv, sPer, incD, decD, w1, w2, w3, *]
    · simp [Zbv, sPer, incD, decD, *]
    · simp [Zbv, sPer, incD, decD, *]
 · obtain ⟨i, b, _⟩ := y
   have hb : b = false := hb
   subst hb
   rcases Xi h with ⟨_, q2, _⟩ | ⟨q1, q2, rfl⟩
   case inl => cases q2
   cases q2
   refine ⟨fun h1 => ⟨.inr (.inr rfl), fun j x1 h2 => ?_, fun er h2 => ?_⟩, fun h1 => ?_⟩
   · obtain ⟨r1, r2, _⟩ := Za6 h2
     have r3 : chz WK.un.words l.tail < 4 := Zoe (by decide)
     rw [← r2] at r1 r3; clear r2
     rcases four r1 r3 with rfl | rfl | rfl | rfl
     all_goals simp [Zbv, sPer, incD, decD, w1, w2, w3, *]
   · simp [Zbv, sPer, incD, decD, *]
   · simp [Zbv, sPer, incD, decD, *]
theorem Zy8 (l : List Tok) (e n : Int) : We (mI (dA1 dN) (n1 fun _ => rfl) dTs (fun _ => rfl)) 133 (l, e, ()) (n, ()) (Zaf n l e) := by
 refine Vm Zdu (n := 400) (a := (n, ())) ?_
 rw [show (dA1 dN).enc (n, ()) = [.int false .i64 n] from rfl, Zur]; delta qBMa qBMb qBM9 qBMc
 cases l with
 | nil =>
  simp only [Zv, Z4, tz, tz0, tp, tp0, tl1, tl2, tg, td, i01, true_and, and_true, forall_eq', forall_eq, Bool.true_eq_false, Bool.false_eq_true, reduceCtorEq, true_implies, false_implies, Int.le_refl, imp_self, bne_iff_ne, ne_eq, bne_eq_false_iff_eq, beq_iff_eq, beq_eq_false_iff_ne]
  repeat' (first | apply And.intro | intro _)
  all_goals first | exact .inl rfl | exact trivial | simp [Zaf, hdT, sIs, sIn, Z3p, *]
 | cons t l =>
  simp only [Zv, Z4, tz, tz0, tp, tp0, tl1, tl2, tg, td, i01, true_and, and_true, forall_eq', forall_eq, Bool.true_eq_false, Bool.false_eq_true, reduceCtorEq, true_implies, false_implies, Int.le_refl, imp_self, bne_iff_ne, ne_eq, bne_eq_false_iff_eq, beq_iff_eq, beq_eq_false_iff_ne]
  repeat' (first | apply And.intro | intro _)
  all_goals first | exact .inl rfl | exact trivial | simp [Zaf, hdT, sIs, sIn, Z3p, *]
end
section
open Go
def dEx:Dc E Ex:=(dR .exprs:Dc E (thy.dom Th.exprs))
abbrev PE:=List Tok->Int->PR Ex
def Zyg:List Nat:= [40]
def Zir:List Nat:= [41]
def sIf:List Nat:= [105,102]
def Zis:List Nat:= [44]
def Z25:List Nat:= [60]
def pOpL (pe:PE):List (List Nat)->List Ex->List Tok->Int->PR (List Ex)
 | [],acc,l,e=> .ok (acc,l,e,())
 |s::r,acc,l,e=>
  match pe l e with
  | .error er=> .error er
  | .ok (x,y)=>if isW s y.1 then pOpL pe r (acc++ [x]) y.1.tail y.2.1 else .error (hdT y.2.1 y.1,160)
def pOps (pe:PE) (op:Int) (ss:List (List Nat)) (l:List Tok) (e:Int):PR Ex:=
 if isW Zyg l then
  match pOpL pe ss [] l.tail e with
  | .error er=> .error er
  | .ok (xs,y)=> .ok (.mk op 0 0 0 0 0 xs,y)
 else .error (hdT e l,160)
def Zit (pe:PE) (l:List Tok) (e:Int):PR Ex:=
 if isW Zyg l then
  match pe l.tail e with
  | .error er=> .error er
  | .ok (x,y)=>if isW Zir y.1 then .ok (x,y.1.tail,y.2.1,()) else .error (hdT y.2.1 y.1,160)
 else if isW sIf l then pOps pe 11 [Z25,Zis,Zis,Zir] l.tail e
 else match Yj WK.ca.words l e with
  | .error er=> .error er
  | .ok (k,y)=>
   if k.2.1 then pOps pe (6+k.1) [Zis,Zir] y.1 y.2.1
   else match X1 WK.at_.words y.1 y.2.1 with
    | .error er=> .error er
    | .ok (a,z)=> .ok (.mk 2 a 0 0 0 0 [],z)
def pFac (pe:PE) (l:List Tok) (e:Int):PR Ex:=
 match l with
 | []=>Zit pe [] e
 |t::r=>
  if t.kind=2 then
   match Zbv r e with
   | .error er=> .error er
   | .ok (d,y)=> .ok (.mk 1 t.n (d.getD 0 0) (d.getD 1 0) (d.getD 2 0) (d.getD 3 0) [],y)
  else Zit pe (t::r) e
def Shr (pe:PE):Prop:=∀l e y x',pe l e= .ok (y,x')->x'.1.length<l.length
theorem Zx {s:List Nat} {l:List Tok} (h:isW s l=true):l.tail.length+1=l.length:=by
 cases l with
 |nil=>cases h
 |cons t l=>rfl
theorem Z5s {s:List Nat} {l:List Tok} {P:Prop} (h:isW s l=true->l.tail.length+1=l.length->P):isW s l=true->P:=fun q=>h q (Zx q)
theorem Z1w {pe:PE} (H:Shr pe) {l:List Tok} {e:Int} {P:Ex->PX->Prop} (h:∀y x',pe l e= .ok (y,x')->x'.1.length<l.length->P y x'):∀y x',pe l e= .ok (y,x')->P y x':=fun y x' q=>h y x' q (H _ _ _ _ q)
theorem Zac {ws:List (List Nat)} {l:List Tok} (h:0<=chz ws l):l.tail.length+1=l.length:=by
 cases l with
 |nil=>cases h
 |cons t l=>rfl
theorem Z1x {l:List Tok} {e:Int} {A B:Int×Bool×Unit->PX->Prop} (hA:∀y x',Yj WK.ca.words l e= .ok (y,x')->y.2.1=true->x'.1.length<l.length->wr .i64 (6+y.1)=6+y.1->A y x') (hB:∀y x',Yj WK.ca.words l e= .ok (y,x')->y.2.1=false->B y x'):
 ∀y x',Yj WK.ca.words l e= .ok (y,x')->(y.2.1=true->A y x')/\(y.2.1=false->B y x'):=by
 intro y x' q
 refine ⟨fun hy=>hA y x' q hy ?_ ?_,fun hy=>hB y x' q hy⟩
 · rcases Xi q with ⟨h1,rfl,rfl⟩|⟨_,rfl,_⟩
   · have:=Zac h1
     show l.tail.length<l.length
     omega
   · cases hy
 · rcases Xi q with ⟨h1,rfl,rfl⟩|⟨_,rfl,_⟩
   · have:=Zoe (ws:=WK.ca.words) (l:=l) (by decide)
     have h5:(WK.ca.words).length=5:=rfl
     rw [h5] at this
     exact wr64 (by show _<=6+chz _ _;omega) (by show 6+chz _ _<=_;omega)
   · rfl
theorem Zyh {pe:PE} {l:List Tok} {e:Int} (h:((l.length:Int)==0)=true):pFac pe l e=Zit pe l e:=by
 cases l with
 |nil=>rfl
 |cons t l=>rw [tz] at h;cases h
theorem Zyi {pe:PE} {l:List Tok} {e:Int} {x:Tok} (hx:l[Int.toNat 0]? =some x) (h:(x.kind !=2)=true):pFac pe l e=Zit pe l e:=by
 cases l with
 |nil=>cases hx
 |cons t l=>
  rw [tg] at hx
  subst hx
  simp at h
  simp [pFac,h]
theorem Zyj {l:List Tok} {e:Int} {x:Tok} (hx:l[Int.toNat 0]? =some x) (h:(x.kind !=2)=false):∃r,l=x::r/\x.kind=2/\pInt l e= .ok (x.n,r,e,()):=by
 cases l with
 |nil=>cases hx
 |cons t l=>
  rw [tg] at hx
  subst hx
  simp at h
  exact ⟨l,rfl,h,by simp [pInt,h]⟩
theorem Zgu {l:List Tok} (h:((l.length:Int)==0)=false):(0:Int)<=0/\(0:Int)+1<=l.length:=by
 have:(l.length:Int)≠0:=by simpa using h
 omega
def Z5t:Sum thy:=sumM (mI .nil n0 dDm (fun _=>rfl)) (fun _ _=>True) fun x _=>Zbv x.1 x.2.1
theorem Zyk:SumOk E 191 Z5t:=Y9 E_ok (Zb rfl) fun x _ _=>Zy7 x.1 x.2.1
def Z70 (n:Nat) (pe:PE):Sum thy:=sumM (mI .nil n0 dEx (fun _=>rfl)) (fun x _=>x.1.length<n) fun x _=>pe x.1 x.2.1
def Ffa (n:Nat) (pe:PE):Fns thy:=addS (addS Fme 191 Z5t) 134 (Z70 n pe)
abbrev qBN5:=(1:Nat)
abbrev qBN2 (a0:Ex) (b0:Ex):=(List.take qBN5 [Ex.mk (Ex.op a0) (Ex.n a0) (Ex.d0 a0) (Ex.d1 a0) (Ex.d2 a0) (Ex.d3 a0) (Ex.l a0)]++ [Ex.mk (Ex.op b0) (Ex.n b0) (Ex.d0 b0) (Ex.d1 b0) (Ex.d2 b0) (Ex.d3 b0) (Ex.l b0)])
abbrev qBN8 (a0:Ex) (b0:Ex) (c0:Ex):=(List.take (qBN5+qBN5) (qBN2 a0 b0)++ [Ex.mk (Ex.op c0) (Ex.n c0) (Ex.d0 c0) (Ex.d1 c0) (Ex.d2 c0) (Ex.d3 c0) (Ex.l c0)])
abbrev qBNe (a0:Ex) (b0:Ex) (c0:Ex) (d0:Ex):=(List.take (qBN5+qBN5+qBN5) (qBN8 a0 b0 c0)++ [Ex.mk (Ex.op d0) (Ex.n d0) (Ex.d0 d0) (Ex.d1 d0) (Ex.d2 d0) (Ex.d3 d0) (Ex.l d0)])
abbrev qBNd (a0:PX):=(Prod.fst a0)
abbrev qBN6 (a0:PX):=(List.tail (qBNd a0))
abbrev qBNf:=(qBN5+qBN5+qBN5+qBN5)
abbrev qBN7 (a0:PX):=(Prod.fst (Prod.snd a0))
abbrev qBN4 (a0:PX):=(hdT (qBN7 a0) (qBNd a0),(160:Int))
abbrev qBNa (a0:PX) (b0:PR Ex):=(isW [(44:Nat)] (qBNd a0)=false->b0=Except.error (qBN4 a0))
abbrev qBN9:=(0:Int)
abbrev qBNb (a0:PX) (b0:PR Ex):=(isW [(41:Nat)] (qBNd a0)=false->b0=Except.error (qBN4 a0))
abbrev qBNc:=(qBN5<=qBN5/\(0:Nat)<=qBN5/\(qBN5+qBN5)*(72:Nat)<=(140737488355328:Nat))
abbrev qBN1 (a0:List Tok) (b0:Nat) (c0:PE) (d0:Int) (e0:PR Ex):=(isW [(40:Nat)] a0=false->(isW [(105:Nat),(102:Nat)] a0=true->(isW [(40:Nat)] (List.tail a0)=true->List.length (List.tail (List.tail a0))+qBN5<=b0/\(∀(y:Ex) (x':PX),c0 (List.tail (List.tail a0)) d0=Except.ok (y,x')->(isW [(60:Nat)] (qBNd x')=true->List.length (qBN6 x')+qBN5<=b0/\(∀(y_1:Ex) (x'_1:PX),c0 (qBN6 x') (qBN7 x')=Except.ok (y_1,x'_1)->qBNc/\(isW [(44:Nat)] (qBNd x'_1)=true->List.length (qBN6 x'_1)+qBN5<=b0/\(∀(y_2:Ex) (x':PX),c0 (qBN6 x'_1) (qBN7 x'_1)=Except.ok (y_2,x')->(qBN5+qBN5<=List.length (qBN2 y y_1)/\(0:Nat)<=qBN5+qBN5/\(qBN5+qBN5+qBN5)*(72:Nat)<=(140737488355328:Nat))/\(isW [(44:Nat)] (qBNd x')=true->List.length (qBN6 x')+qBN5<=b0/\(∀(y_3:Ex) (x'_2:PX),c0 (qBN6 x') (qBN7 x')=Except.ok (y_3,x'_2)->(qBN5+qBN5+qBN5<=List.length (qBN8 y y_1 y_2)/\(0:Nat)<=qBN5+qBN5+qBN5/\qBNf*(72:Nat)<=(140737488355328:Nat))/\(isW [(41:Nat)] (qBNd x'_2)=true->(0:Nat)+qBNf<=List.length (qBNe y y_1 y_2 y_3)/\e0=Except.ok (Ex.mk (11:Int) qBN9 qBN9 qBN9 qBN9 qBN9 (List.take qBNf (List.drop (0:Nat) (qBNe y y_1 y_2 y_3))),List.tail (qBNd x'_2),Prod.fst (Prod.snd x'_2),()))/\(qBNb x'_2 e0))/\∀(d0:Int×Int),c0 (qBN6 x') (qBN7 x')=Except.error d0->e0=Except.error d0)/\(qBNa x' e0))/\∀(d0:Int×Int),c0 (qBN6 x'_1) (qBN7 x'_1)=Except.error d0->e0=Except.error d0)/\(qBNa x'_1 e0))/\∀(d0:Int×Int),c0 (qBN6 x') (qBN7 x')=Except.error d0->e0=Except.error d0)/\(isW [(60:Nat)] (qBNd x')=false->e0=Except.error (qBN4 x')))/\∀(e_1:Int×Int),c0 (List.tail (List.tail a0)) d0=Except.error e_1->e0=Except.error e_1)/\(isW [(40:Nat)] (List.tail a0)=false->e0=Except.error (hdT d0 (List.tail a0),(160:Int))))/\(isW [(105:Nat),(102:Nat)] a0=false->(WK.ca=WK.un\/WK.ca=WK.ca)/\(∀(y:Int×Bool×Unit) (x':PX),Yj (WK.words WK.ca) a0 d0=Except.ok (y,x')->(Prod.fst (Prod.snd y)=true->(isW [(40:Nat)] (qBNd x')=true->List.length (qBN6 x')+qBN5<=b0/\(∀(y_1:Ex) (x'_1:PX),c0 (qBN6 x') (qBN7 x')=Except.ok (y_1,x'_1)->(isW [(44:Nat)] (qBNd x'_1)=true->List.length (qBN6 x'_1)+qBN5<=b0/\(∀(y_2:Ex) (x':PX),c0 (qBN6 x'_1) (qBN7 x'_1)=Except.ok (y_2,x')->qBNc/\(isW [(41:Nat)] (qBNd x')=true->(0:Nat)+(qBN5+qBN5)<=List.length (qBN2 y_1 y_2)/\e0=Except.ok (Ex.mk (wr IntKind.i64 ((6:Int)+Prod.fst y)) qBN9 qBN9 qBN9 qBN9 qBN9 (List.take (qBN5+qBN5) (List.drop (0:Nat) (qBN2 y_1 y_2))),List.tail (qBNd x'),Prod.fst (Prod.snd x'),()))/\(qBNb x' e0))/\∀(d0:Int×Int),c0 (qBN6 x'_1) (qBN7 x'_1)=Except.error d0->e0=Except.error d0)/\(qBNa x'_1 e0))/\∀(d0:Int×Int),c0 (qBN6 x') (qBN7 x')=Except.error d0->e0=Except.error d0)/\(isW [(40:Nat)] (qBNd x')=false->e0=Except.error (qBN4 x')))/\(Prod.fst (Prod.snd y)=false->(WK.at_=WK.at_\/WK.at_=WK.ki\/WK.at_=WK.un)/\(∀(y:Int) (x'_1:PX),X1 (WK.words WK.at_) (qBNd x') (qBN7 x')=Except.ok (y,x'_1)->e0=Except.ok (Ex.mk (2:Int) y qBN9 qBN9 qBN9 qBN9 [],Prod.fst x'_1,Prod.fst (Prod.snd x'_1),()))/\∀(d0:Int×Int),X1 (WK.words WK.at_) (qBNd x') (qBN7 x')=Except.error d0->e0=Except.error d0))/\∀(e_1:Int×Int),Yj (WK.words WK.ca) a0 d0=Except.error e_1->e0=Except.error e_1))
abbrev qBN3 (a0:List Tok) (b0:Nat) (c0:PE) (d0:Int) (e0:PR Ex):=(isW [(40:Nat)] a0=true->List.length (List.tail a0)+qBN5<=b0/\(∀(y:Ex) (x':PX),c0 (List.tail a0) d0=Except.ok (y,x')->(isW [(41:Nat)] (qBNd x')=true->e0=Except.ok (Ex.mk (Ex.op y) (Ex.n y) (Ex.d0 y) (Ex.d1 y) (Ex.d2 y) (Ex.d3 y) (Ex.l y),List.tail (qBNd x'),Prod.fst (Prod.snd x'),()))/\(qBNb x' e0))/\∀(e_1:Int×Int),c0 (List.tail a0) d0=Except.error e_1->e0=Except.error e_1)
theorem Zlq (n:Nat) (pe:PE) (l:List Tok) (e:Int) (out:PR Ex):Zi E (Ffa n pe) (vc E (Ffa n pe) 400) 170 [.ptr 0 0] (one [.psl Th.toks l false,.int false .i64 e]) 1 (mK .nil n0 dEx (fun _=>rfl) l e out)=(
 (((↑(List.length l):Int)==qBN9)=true->(qBN3 l n pe e out)/\(qBN1 l n pe e out))/\(((↑(List.length l):Int)==qBN9)=false->qBN9<=qBN9/\qBN9+(1:Int)<=(↑(List.length l):Int)/\∀(x:Tok),l[Int.toNat qBN9]? =some x->((Tok.kind x !=(2:Int))=true->(qBN3 l n pe e out)/\(qBN1 l n pe e out))/\((Tok.kind x !=(2:Int))=false->qBN9<=qBN9/\qBN9+(1:Int)<=(↑(List.length l):Int)/\∀(x:Tok),l[Int.toNat qBN9]? =some x->True/\(∀(y:Int) (x':PX),pInt l e=Except.ok (y,x')->True/\(∀(y_1:List Int) (x'_1:PX),Zbv (qBNd x') (qBN7 x')=Except.ok (y_1,x'_1)->out=Except.ok (Ex.mk (1:Int) y (List.getD y_1 (0:Nat) qBN9) (List.getD y_1 qBN5 qBN9) (List.getD y_1 (2:Nat) qBN9) (List.getD y_1 (3:Nat) qBN9) [],Prod.fst x'_1,Prod.fst (Prod.snd x'_1),()))/\∀(e:Int×Int),Zbv (qBNd x') (qBN7 x')=Except.error e->out=Except.error e)/\∀(e_1:Int×Int),pInt l e=Except.error e_1->out=Except.error e_1))):=by kernel_rfl
theorem Z5u {n:Nat} {pe:PE} (hpe:∀l e,l.length<n->We (mI .nil n0 dEx (fun _=>rfl)) 134 (l,e,()) () (pe l e)):FnsOk E (Ffa n pe):=Zc (Zc Zdu Zyk) (Y9 E_ok (Zb rfl) fun x _ h=>hpe x.1 x.2.1 h)
theorem Zqc {n : Nat} {pe : PE} (hpe : ∀ l e, l.length < n → We (mI .nil n0 dEx (fun _ => rfl)) 134 (l, e, ()) () (pe l e)) (H : Shr pe) (l : List Tok) (e : Int) (hl : l.length < n + 1) :
 We (mI .nil n0 dEx (fun _ => rfl)) 170 (l, e, ()) () (pFac pe l e) := by
 refine Vm (Z5u hpe) (n := 400) (a := ()) ?_
 rw [show (DcL.nil (E := E)).enc () = [] from rfl, Zlq]; delta qBN5 qBN2 qBN8 qBNe qBNd qBN6 qBNf qBN7 qBN4 qBNa qBN9 qBNb qBNc qBN1 qBN3
 refine ⟨fun h0 => ?_, fun h0 => ⟨(Zgu h0).1, (Zgu h0).2, fun x hx => ⟨fun h2 => ?_, fun h2 => ?_⟩⟩⟩
 · rw [Zyh h0]; clear h0
   repeat' (first | refine Z5s fun _ _ => ?_ | refine Z1w H fun _ _ _ _ => ?_ | refine Z1x (fun _ _ _ _ _ _ => ?_) (fun _ _ _ _ => ?_) | apply And.intro | intro _)
   all_goals first | exact .inr rfl | exact .inl rfl | exact trivial | omega | simp [Zit, pOps, pOpL, Zyg, Zir, sIf, Zis, Z25, Ex.eta, *]
 · rw [Zyi hx h2]; clear h0 hx h2
   repeat' (first | refine Z5s fun _ _ => ?_ | refine Z1w H fun _ _ _ _ => ?_ | refine Z1x (fun _ _ _ _ _ _ => ?_) (fun _ _ _ _ => ?_) | apply And.intro | intro _)
   all_goals first | exact .inr rfl | exact .inl rfl | exact trivial | omega | simp [Zit, pOps, pOpL, Zyg, Zir, sIf, Zis, Z25, Ex.eta, *]
 · obtain ⟨r, rfl, hk, hi⟩ := Zyj (e := e) hx h2
   refine ⟨(Zgu h0).1, (Zgu h0).2, fun _ _ => ⟨trivial, fun y x' h3 => ?_, fun er h3 => by rw [hi] at h3; cases h3⟩⟩
   rw [hi] at h3
   injection h3 with h3
   injection h3 with h3 h4
   subst h3; subst h4
   refine ⟨trivial, fun d x2 h5 => ?_, fun er h5 => ?_⟩
   · simp [pFac, hk, h5]
   · simp [pFac, hk, h5]
end
section
open Go.RowKit
section
variable {Y:Thy} {E:Eng Y}
def two (cs:List (SV Y)):Hp Y:=fun b=>match Nat.beq b 0 with|true=>some (.raw cs 0 none)|false=>(match Nat.beq b 1 with|true=>some (.raw [.ptr 0 0] 0 none)|false=>none)
theorem Z0a (cs:List (SV Y)):two cs 0=some (.raw cs 0 none):=rfl
theorem Z6s (cs:List (SV Y)):two cs 1=some (.raw [.ptr 0 0] 0 none):=rfl
theorem Zhh {cs:List (SV Y)} {b:Nat} {x:Blk Y} (h:two cs b=some x):(b=0/\x= .raw cs 0 none)\/(b=1/\x= .raw [.ptr 0 0] 0 none):=by
 match b,h with
 |0,h=>cases h;exact .inl ⟨rfl,rfl⟩
 |1,h=>cases h;exact .inr ⟨rfl,rfl⟩
 |b+2,h=>cases h
theorem Z4d (cs:List (SV Y)):DomLt (two cs) 2:=fun b hb=>by
 obtain ⟨x,hx⟩:=Option.ne_none_iff_exists'.1 hb
 rcases Zhh hx with ⟨rfl,_⟩|⟨rfl,_⟩<;>omega
def σ2 (p q:Nat×Nat):Pl:=fun b=>match Nat.beq b 0 with|true=>some p|false=>(match Nat.beq b 1 with|true=>some q|false=>none)
theorem σ2_some {p q x:Nat×Nat} {b:Nat} (h:σ2 p q b=some x):(b=0/\x=p)\/(b=1/\x=q):=by
 match b,h with
 |0,h=>cases h;exact .inl ⟨rfl,rfl⟩
 |1,h=>cases h;exact .inr ⟨rfl,rfl⟩
 |b+2,h=>cases h
theorem Zmr (cs cs':List (SV Y)) (v:SV Y):patch (two cs) 2 (mutR v cs')=two cs':=by
 funext b
 rw [Zf]
 match b with
 |0=>simp [mutR,at1,two]
 |1=>rw [if_neg (by simp [mutR])];rfl
 |b+2=>rw [if_neg (by simp [mutR])];rfl
def Z6t (E:Eng Y) (f:FuncId) (cs rest:List (SV Y)) (v:SV Y) (cs':List (SV Y)):Prop:=Ug E f (.ptr 1 0::rest) (two cs) 2 (mutR v cs')
def Z6u (E:Eng Y) (f:FuncId) (cs rest:List (SV Y)) (p:Value):Prop:=Zm7 E f (.ptr 1 0::rest) (two cs) 2 (panR p)
theorem Zms (hE:EngOk E) {B:Nat} {σ:Pl} {h:Hp Y} {g:GH} {w:World} {b r z c r1 z1:Nat} {cs cs0:List (SV Y)} {fc:Nat} {tg tc:Option Y.Th} (hI:Inv E B σ h g w) (hb:h b=some (.raw cs 0 tg)) (hc:h c=some (.raw [.ptr b 0] fc tc)) (hσ:σ b=some (r,z)) (hσc:σ c=some (r1,z1)) (hbc:b≠c) (hfc:fc=0) (hlen:cs.length=cs0.length) (hn:nidL 0 cs0=true)
 (hden:∀σ g (j:Nat) sv',cs0[j]? =some sv'->∃sv,cs[j]? =some sv/\∀u,Den E σ g sv u->Den E σ g sv' u):Inv E B (σ2 (r,z) (r1,z1)) (two cs0) g w:=by
 have hne:r≠r1:=by
  rintro rfl
  exact hbc (hI.inj b c _ _ _ (by rw [hb];simp) (by rw [hc];simp) hσ hσc)
 refine ⟨hI.gc,hI.gm,fun x y hx=> ?_,fun x x' q z2 z3 h1 h2 h3 h4=> ?_,fun x q z' hs=> ?_,fun x y q z' o v hx hs hv=> ?_,fun x y q z' hx hs=> ?_,hI.glob⟩
 · rcases Zhh hx with ⟨rfl,rfl⟩|⟨rfl,rfl⟩
   · refine ⟨r,z,rfl,?_⟩
     obtain ⟨r',z',hσ',arr,e,k1,k2,k3,k4,k5⟩:=hI.blk b _ hb
     rw [hσ] at hσ';cases hσ'
     refine ⟨arr,e,k1,k2,?_,fun j sv' hj=> ?_,trivial⟩
     · simp only [Blk.cells] at k3⊢;omega
     · obtain ⟨sv,h1,h2⟩:=hden σ g j sv' hj
       obtain ⟨v,m1,m2⟩:=k4 j sv h1
       exact ⟨v,m1,Zu hE (h2 v m2) (fun b p hb=>by omega) (Zn hn hj)⟩
   · refine ⟨r1,z1,rfl,?_⟩
     obtain ⟨r',z',hσ',arr,e,k1,k2,k3,k4,k5⟩:=hI.blk c _ hc
     rw [hσc] at hσ';cases hσ'
     refine ⟨arr,e,k1,k2,k3,fun j sv' hj=> ?_,trivial⟩
     cases j with
     |zero=>
      cases hj
      obtain ⟨v,m1,m2⟩:=k4 0 _ rfl
      refine ⟨v,m1,?_⟩
      cases m2
      rename_i hs
      rw [hσ] at hs;cases hs
      exact .ptr (E:=E) (b:=0) rfl
     |succ j=>cases hj
 · rcases σ2_some h3 with ⟨rfl,e1⟩|⟨rfl,e1⟩<;>rcases σ2_some h4 with ⟨rfl,e2⟩|⟨rfl,e2⟩
   · rfl
   · cases e1;cases e2;exact absurd rfl hne
   · cases e1;cases e2;exact absurd rfl hne
   · rfl
 · rcases σ2_some hs with ⟨rfl,e⟩|⟨rfl,e⟩
   · cases e;exact hI.base b _ _ hσ
   · cases e;exact hI.base c _ _ hσc
 · rcases σ2_some hs with ⟨rfl,e⟩|⟨rfl,e⟩
   · cases e
     have h2:o<0:=hI.fz b (.raw cs 0 tg) _ _ o v hb hσ hv
     omega
   · cases e
     subst hfc
     have h2:o<0:=hI.fz c (.raw [.ptr b 0] 0 tc) _ _ o v hc hσc hv
     omega
 · rcases σ2_some hs with ⟨rfl,e⟩|⟨rfl,e⟩
   · cases e;exact hI.fm b _ _ _ hb hσ
   · cases e;exact hI.fm c _ _ _ hc hσc
section
variable {X α β ε:Type}
def Zbi (M:MutI E X α β ε) (f:FuncId) (x:X) (a:α) (out:Except ε (β×X)):Prop:=
 match out with
 | .ok (y,x')=>Z6t E f (M.dS.enc x) (M.dA.enc a) (M.v y) (M.dS.enc x')
 | .error e=>Z6u E f (M.dS.enc x) (M.dA.enc a) (M.pv e)
def Zvz (M:MutI E X α β ε) (pre:X->α->Prop) (f:X->α->Except ε (β×X)):Sum Y:=fun args h _ k=>
 match args with
 | .ptr c 0::rest=>
  (match h c with
  |some (.raw [.ptr b 0] 0 _)=>
   (match Nat.beq b c,h b with
   |false,some (.raw cs 0 _)=>
    (match M.dS.dec cs,M.dA.dec rest with
    |some x,some a=>pre x a/\(∀y x',f x a= .ok (y,x')->k (Zfw b (M.v y) (M.dS.enc x')))/\(∀e,f x a= .error e->k (Zvq b (M.pv e)))
    |_,_=>False)
   |_,_=>False)
  |_=>False)
 |_=>False
theorem Zj4 {M:DcL E α} {rest:List (SV Y)} {a:α} (hE:EngOk E) (hr:M.dec rest=some a) (hn:nidL 0 (M.enc a)=true) {c:Nat} {p q:Nat×Nat} {σ:Pl} {g:GH} {vals:List Value} (hσ:σ c=some q) (hd:DenL E σ g (.ptr c 0::rest) vals):DenL E (σ2 p q) g (.ptr 1 0::M.enc a) vals:=by
 obtain ⟨k1,k2,k3⟩:=M.ok _ _ hr
 refine ⟨by rw [<-hd.1];simp [k2],fun j sv u h1 h2=> ?_⟩
 cases j with
 |zero=>
  simp at h1;subst h1
  have:=hd.2 0 _ u rfl h2
  cases this
  rename_i hs
  rw [hσ] at hs;cases hs
  exact .ptr (E:=E) (b:=1) rfl
 |succ j=>
  have h1:(M.enc a)[j]? =some sv:=by simpa using h1
  obtain ⟨s0,h3,h4⟩:=k3 σ g j sv h1
  exact Zu hE (h4 u (hd.2 (j+1) s0 u (by simpa using h3) h2)) (fun b p hb=>by omega) (Zn hn h1)
theorem Zhi (hE:EngOk E) {f:Nat} (hg:FnGood E.P f) {M:MutI E X α β ε} {pre:X->α->Prop} {fn:X->α->Except ε (β×X)} (hp:∀x a,pre x a->Zbi M f x a (fn x a)):SumOk E f (Zvz M pre fn):=by
 refine ⟨hg,fun args h i k hD hk=> ?_⟩
 unfold Zvz at hk
 split at hk
 case h_2=>exact hk.elim
 rename_i c rest
 split at hk
 case h_2=>exact hk.elim
 rename_i b tc hc
 split at hk
 case h_2=>exact hk.elim
 rename_i cs tg hbc hb
 have hbc:b≠c:=by intro e;subst e;rw [Nat.beq_refl] at hbc;cases hbc
 split at hk
 case h_2=>exact hk.elim
 rename_i x a hx ha
 obtain ⟨hpp,hk1,hk2⟩:=hk
 have hm:=hp x a hpp
 obtain ⟨c1,c2,c3⟩:=M.dS.ok _ _ hx
 have hbn:h b≠none:=by rw [hb];simp
 unfold Zbi at hm
 split at hm
 · rename_i y x' ho
   refine ⟨_,hk1 y x' ho,fun b' hb'=>by
    have:b'∈ [b]:=hb'
    rw [List.mem_singleton] at this
    rw [this];exact hbn,.inl ?_⟩
   intro B σ g w vals hh hrd hI hB hfree hd
   obtain rfl:hh=h:=funext fun b=>hrd b trivial
   obtain ⟨r,z,hσ,_⟩:=hI.blk b _ hb
   obtain ⟨r1,z1,hσc,_⟩:=hI.blk c _ hc
   refine (hm B (σ2 (r,z) (r1,z1)) g w vals _ (fun _ _=>rfl) (Zms hE hI hb hc hσ hσc hbc rfl c2 (M.hS x) c3) hB (fun c h1 h2=>by simp [mutR] at h2;omega) (Zj4 hE ha (M.hA a) hσc hd)).mono ?_
   rintro en w' ⟨u,he,σ',g',hS,hI',hv⟩
   rw [Zmr] at hI'
   obtain ⟨q1,q2⟩:=Wh hE (i:=i) (v:=M.v y) (v0:=M.v y) (x':=some (M.dS.enc x')) hI hb hσ rfl hS hI' (fun c hc=>by cases hc;rfl) (fun c hc=>by cases hc;exact M.hS x')
   exact ⟨u,he,σ,g',q1,q2,Zu hE hv (fun b p hb=>by omega) (M.hv y)⟩
 · rename_i e ho
   refine ⟨_,hk2 e ho,fun b' hb'=>by
    have:b'∈ [b]:=hb'
    rw [List.mem_singleton] at this
    rw [this];exact hbn,.inr ?_⟩
   obtain ⟨p,hp',hm⟩:=hm
   have hp':(SV.pan (M.pv e):SV Y)= .pan p:=hp'
   cases hp'
   refine ⟨_,rfl,fun B σ g w vals hI hB hfree hd=> ?_⟩
   obtain ⟨r,z,hσ,_⟩:=hI.blk b _ hb
   obtain ⟨r1,z1,hσc,_⟩:=hI.blk c _ hc
   refine (hm B (σ2 (r,z) (r1,z1)) g w vals (Zms hE hI hb hc hσ hσc hbc rfl c2 (M.hS x) c3) hB (fun c h1 h2=>by simp [panR] at h2;omega) (Zj4 hE ha (M.hA a) hσc hd)).mono ?_
   rintro en w' ⟨he,σ',g',hS,hI'⟩
   obtain ⟨q1,q2⟩:=Wh hE (i:=i) (v:= .pan (M.pv e)) (v0:= .unk) (x':=none) hI hb hσ rfl hS hI' (fun c hc=>by cases hc) (fun c hc=>by cases hc)
   exact ⟨he,σ,g',q1,q2⟩
theorem Z0b {B:Nat} {p q:Nat×Nat} {h:Hp Y} {g g':GH} {w w':World} {σ':Pl} {n:Nat} {mods:List Nat} (hmods:∀b∈mods,b=0) (hS:Stp 2 n mods (σ2 p q) g w σ' g' w') (hI':Inv E B σ' h g' w') (h0:h 0≠none):∀b r z,b≠0->b≠1->h b≠none->σ' b=some (r,z)->w.heap.size<=r:=by
 intro b r z hb hb1 hn hs
 have hs0:σ2 p q b=none:=by
  match b with
  |0=>exact absurd rfl hb
  |1=>exact absurd rfl hb1
  |b+2=>rfl
 rcases hS.blk b r z hs0 hs with h1|⟨b',h1,z',h2⟩
 · exact h1
 · obtain rfl:=hmods b' h1
   have h3:=hS.sig 0 _ h2
   exact absurd (hI'.inj b 0 r z z' hn h0 hs h3) hb
def Z4e (M:MutI E X α β ε) (gth:List (SV Y)->Option Y.Th) (n:Nat) (dec:SV Y->Option β) (decP:Value->Option ε) (x:X) (out:Except ε (β×X)) (r:Res Y):Prop:=
 match memB 1 r.mods with
 |true=>False
 |false=>(match Ud r.v with
  |some q=>(match decP q with|some e=>out= .error e|none=>False)
  |none=>frzK E gth (patch (two (M.dS.enc x)) 2 r) n r.v fun v' bs=>
   (match patch (two (M.dS.enc x)) 2 r 0 with
   |some (.raw c2 0 _)=>frzL (frzK E gth (patch (two (M.dS.enc x)) 2 r) n) c2 fun cs' bs'=>
    (match memB 0 (bs++bs')||memB 1 (bs++bs'),dec v',M.dS.dec cs' with
    |false,some y,some x'=>out= .ok (y,x')
    |_,_,_=>False)
   |_=>False))
theorem Z0c (hE:EngOk E) {l:List (SV Y)} (hn:nidL 0 l=true) {p q:Nat×Nat} {σ:Pl} {g:GH} {vals:List Value} (hσ:σ 1=some q) (hd:DenL E σ g (.ptr 1 0::l) vals):DenL E (σ2 p q) g (.ptr 1 0::l) vals:=by
 refine ⟨hd.1,fun j sv u h1 h2=> ?_⟩
 cases j with
 |zero=>
  simp at h1;subst h1
  have:=hd.2 0 _ u rfl h2
  cases this
  rename_i hs
  rw [hσ] at hs;cases hs
  exact .ptr (E:=E) (b:=1) rfl
 |succ j=>
  have h1:l[j]? =some sv:=by simpa using h1
  exact Zu hE (hd.2 (j+1) sv u (by simpa using h1) h2) (fun b p hb=>by omega) (Zn hn h1)
theorem Zj5 (hE:EngOk E) {call:Nat->List (SV Y)->Hp Y->Nat->(Res Y->Prop)->Prop} (hcall:W6 E call) {M:MutI E X α β ε} {gth:List (SV Y)->Option Y.Th} {n:Nat} {dec:SV Y->Option β} {decP:Value->Option ε} (hdec:∀v y,dec v=some y->∀σ g u,Den E σ g v u->Den E σ g (M.v y) u) (hdecP:∀q e,decP q=some e->M.pv e=q)
 {f:Nat} {x:X} {a:α} {out:Except ε (β×X)} (hk:call f (.ptr 1 0::M.dA.enc a) (two (M.dS.enc x)) 2 (Z4e M gth n dec decP x out)):Zbi M f x a out:=by
 obtain ⟨r,hr,hR,htri⟩:=hcall f _ _ _ _ (Z4d _) hk
 unfold Z4e at hr
 split at hr
 · exact hr.elim
 rename_i hm1
 have hmods:∀b∈r.mods,b=0:=fun b hb=>by
  obtain ⟨y,hy⟩:=Option.ne_none_iff_exists'.1 (hR b hb)
  rcases Zhh hy with ⟨e,_⟩|⟨e,_⟩
  · exact e
  · subst e;rw [memB_iff.2 hb] at hm1;cases hm1
 have free1:∀(p q:Nat×Nat) (b:Nat),2<=b->b<2+r.n->σ2 p q b=none:=by
  intro p q b hb _
  match b,hb with
  |b+2,_=>rfl
 have stp:∀(p q:Nat×Nat) (g g' g'':GH) (w w':World) (σ':Pl),Stp 2 r.n r.mods (σ2 p q) g w σ' g' w'->g'.le g''->(∀q o v,g''.cell q o=some v->g'.cell q o=some v\/w.heap.size<=q)->(∀q es,g''.obj q=some es->g'.obj q=some es\/w.heap.size<=q)->Stp 2 0 [0] (σ2 p q) g w (σ2 p q) g'' w':=by
  intro p q g g' g'' w w' σ' hS hle hc hm
  refine ⟨.refl _,fun b q h=> .inl h,hS.gle.trans hle,fun q o v hv=> ?_,fun q es hv=> ?_,fun q hq hx=>hS.heap q hq fun b hb=>hx b (by rw [hmods b hb];simp),hS.size,hS.os,hS.tape,hS.output,fun b q z h1 h2=>by rw [h1] at h2;cases h2⟩
  · rcases hc q o v hv with h1|h1
    · rcases hS.gcnew q o v h1 with h2|h2|⟨b,h2,h3⟩
      · exact .inl h2
      · exact .inr (.inl h2)
      · exact .inr (.inr ⟨b,by rw [hmods b h2];simp,h3⟩)
    · exact .inr (.inl h1)
  · rcases hm q es hv with h1|h1
    · exact hS.gmnew q es h1
    · exact .inr h1
 have start:∀(B:Nat) (σ:Pl) (g:GH) (w:World) (vals:Array Value),Inv E B σ (two (M.dS.enc x)) g w->DenL E σ g (.ptr 1 0::M.dA.enc a) vals.toList->∃rr zz r1 z1,σ 0=some (rr,zz)/\σ 1=some (r1,z1)/\Inv E B (σ2 (rr,zz) (r1,z1)) (two (M.dS.enc x)) g w/\DenL E (σ2 (rr,zz) (r1,z1)) g (.ptr 1 0::M.dA.enc a) vals.toList:=by
  intro B σ g w vals hI hd
  obtain ⟨rr,zz,hσ,_⟩:=hI.blk 0 _ (Z0a _)
  obtain ⟨r1,z1,hσ1,_⟩:=hI.blk 1 _ (Z6s _)
  exact ⟨rr,zz,r1,z1,hσ,hσ1,Zms hE hI (Z0a _) (Z6s _) hσ hσ1 (by omega) rfl rfl (M.hS x) (fun σ g j sv' hj=>⟨sv',hj,fun u h=>h⟩),Z0c hE (M.hA a) hσ1 hd⟩
 split at hr
 · rename_i q hq
   split at hr
   case h_2=>exact hr.elim
   rename_i e he
   subst hr
   show Z6u E f _ _ (M.pv e)
   refine ⟨_,rfl,fun B σ g w vals hI hB hfree hd=> ?_⟩
   obtain ⟨rr,zz,r1,z1,hσ,hσ1,hI1,hd1⟩:=start B σ g w vals hI hd
   refine (htri.panic hq hI1 hB (free1 _ _) hd1).mono ?_
   rintro en w' ⟨rfl,σ',g',hS,hI'⟩
   refine ⟨by rw [hdecP q e he],?_⟩
   have hS1:=stp _ _ g g' g' w w' σ' hS (.refl _) (fun _ _ _ h=> .inl h) (fun _ _ h=> .inl h)
   have hI2:Inv E B (σ2 (rr,zz) (r1,z1)) (fun _=>none) g' w':=⟨hI'.gc,hI'.gm,(fun b x hx=>by cases hx),fun b b' r z z' h1=>absurd rfl h1,fun b r z hs=>⟨(hI1.base b r z hs).1,Nat.lt_of_lt_of_le (hI1.base b r z hs).2 hS.size⟩,(fun b x r z o v hx=>by cases hx),(fun b x r z hx=>by cases hx),hI'.glob⟩
   obtain ⟨q1,q2⟩:=Wh hE (i:=2) (v:= .pan (M.pv e)) (v0:= .unk) (x':=none) hI (Z0a _) hσ rfl hS1 hI2 (fun c hc=>by cases hc) (fun c hc=>by cases hc)
   refine ⟨σ,g',q1,?_⟩
   have e2:patch (two (M.dS.enc x)) 2 ⟨.pan (M.pv e),0,[0],at1 0 (rawO none),none⟩=patch (two (M.dS.enc x)) 2 (panR (M.pv e)):=by
    funext b
    rw [Zf,Zf]
    by_cases c:b=0
    · subst c
      rw [if_pos (by simp),if_pos (by simp [panR])]
      rfl
    · rw [if_neg (by simp [c]),if_neg (by simp [panR,c])]
   rw [<-e2];exact q2
 · rename_i hq
   have htri:=htri.tri hq
   obtain ⟨v',bs,hr,o1⟩:=Vy hE n r.v _ hr
   split at hr
   case h_2=>exact hr.elim
   rename_i c2 tg h0
   obtain ⟨cs',bs',hr,o2⟩:=Wn (Vy hE n) hr
   split at hr
   case h_2=>exact hr.elim
   rename_i y x' hmem hy hx'
   rw [Bool.or_eq_false_iff] at hmem
   subst hr
   show Z6t E f _ _ (M.v y) _
   intro B σ g w vals hh hrd hI hB hfree hd
   obtain rfl:hh=two (M.dS.enc x):=funext fun b=>hrd b trivial
   obtain ⟨rr,zz,r1,z1,hσ,hσ1,hI1,hd1⟩:=start B σ g w vals hI hd
   refine (htri B _ g w vals _ (fun _ _=>rfl) hI1 hB (free1 _ _) hd1).mono ?_
   rintro en w' ⟨u,rfl,σ',g',hS,hI',hv⟩
   refine ⟨u,rfl,?_⟩
   have hs0:σ' 0=some (rr,zz):=hS.sig 0 _ rfl
   have hrr:rr<w.heap.size:=(hI1.base 0 rr zz rfl).2
   have hfar:=Z0b hmods hS hI' (by rw [h0];simp)
   have hle:=Zc4 (n:=w.heap.size) hI'
   have hkept:Kept E (patch (two (M.dS.enc x)) 2 r) σ' (bs++bs') w' (allG g' w.heap.size w'):=by
    intro b hb q z y1 hs hy1 j v hj hv
    have hb0:b≠0:=by
     rintro rfl
     have:=memB_iff.2 hb
     rw [this] at hmem;cases hmem.1
    have hb1:b≠1:=by
     rintro rfl
     have:=memB_iff.2 hb
     rw [this] at hmem;cases hmem.2
    show (if w.heap.size<=q then w'.cell? ⟨q,j,none⟩ else g'.cell q j)=some v
    rw [if_pos (hfar b q z hb0 hb1 (by rw [hy1];simp) hs)]
    exact hv
   have hval:=o1.den _ σ' g' w' B u _ (fun _ _=>rfl) hI' hle (hkept.sub fun b hb=>List.mem_append_left _ hb) hv
   have hcell:∀q o v,(allG g' w.heap.size w').cell q o=some v->g'.cell q o=some v\/w.heap.size<=q:=by
    intro q o v hv
    have hv:(if w.heap.size<=q then w'.cell? ⟨q,o,none⟩ else g'.cell q o)=some v:=hv
    split at hv
    · exact .inr (by assumption)
    · exact .inl hv
   have hobj:∀q es,(allG g' w.heap.size w').obj q=some es->g'.obj q=some es\/w.heap.size<=q:=by
    intro q es hv
    have hv:(if w.heap.size<=q then (match w'.heap[q]? with|some (.map es _)=>some es|_=>none) else g'.obj q)=some es:=hv
    split at hv
    · exact .inr (by assumption)
    · exact .inl hv
   have hS1:=stp _ _ g g' _ w w' σ' hS hle hcell hobj
   have hG:=Zgn (n:=w.heap.size) (B':=B) hI'
   obtain ⟨c1,c2',c3⟩:=M.dS.ok _ _ hx'
   have hI2:Inv E B (σ2 (rr,zz) (r1,z1)) (one (M.dS.enc x')) (allG g' w.heap.size w') w':=by
    refine ⟨hG.gc,hG.gm,fun b y1 hy1=> ?_,fun b b' q z z' h1 h2 _ _=>by rw [Zbd h1,Zbd h2],fun b q z hs=>⟨(hI1.base b q z hs).1,Nat.lt_of_lt_of_le (hI1.base b q z hs).2 hS.size⟩,fun b y1 q z o v hy1 hs hv=> ?_,fun b y1 q z hy1 hs=> ?_,hG.glob⟩
    · obtain ⟨rfl,rfl⟩:=Vf hy1
      refine ⟨rr,zz,rfl,?_⟩
      obtain ⟨r2,z2,m1,arr,e,k1,k2,k3,k4,k5⟩:=hI'.blk 0 _ h0
      rw [hs0] at m1;cases m1
      have hl:cs'.length=c2.length:=o2.len
      refine ⟨arr,e,k1,k2,?_,fun j sv hj=> ?_,trivial⟩
      · simp only [Blk.cells] at k3⊢;omega
      · obtain ⟨s1,h1,h2⟩:=c3 σ0 (allG g' w.heap.size w') j sv hj
        have hjl:j<c2.length:=by rw [<-hl];exact (gA9.1 h1).1
        obtain ⟨v,m1,m2⟩:=k4 j _ (gB9 hjl)
        have:=o2.den _ σ' g' w' B _ (fun _ _=>rfl) hI' hle (hkept.sub fun b hb=>List.mem_append_right _ hb) j _ s1 v (gB9 hjl) h1 m2
        exact ⟨v,m1,(h2 v this).mono (fun b p h=>by cases h) (.refl _)⟩
    · obtain ⟨rfl,rfl⟩:=Vf hy1
      rcases σ2_some hs with ⟨_,e⟩|⟨e0,_⟩
      case inr=>omega
      cases e
      rcases hcell _ o v hv with h1|h1
      · have h2:o<0:=hI'.fz 0 (.raw c2 0 tg) _ _ o v h0 hs0 h1
        omega
      · omega
    · obtain ⟨rfl,rfl⟩:=Vf hy1
      rcases σ2_some hs with ⟨_,e⟩|⟨e0,_⟩
      case inr=>omega
      cases e
      cases hg':(allG g' w.heap.size w').obj rr with
      |none=>rfl
      |some es=>
       rcases hobj _ es hg' with h1|h1
       · rw [hI'.fm 0 _ _ _ h0 hs0] at h1;cases h1
       · omega
   obtain ⟨q1,q2⟩:=Wh hE (i:=2) (v:=M.v y) (v0:= .unk) (x':=some (M.dS.enc x')) hI (Z0a _) hσ rfl hS1 hI2 (fun c hc=>by cases hc;rfl) (fun c hc=>by cases hc;exact M.hS x')
   exact ⟨σ,_,q1,q2,(hdec v' y hy _ _ u hval).mono (fun b p h=>by cases h) (.refl _)⟩
end
end
end
section
open Go
def mK2 {α β:Type} (dA:DcL E α) (hA:∀a,nidL 0 (dA.enc a)=true) (d:Dc E β) (hv:∀y,nid 0 (d.enc y)=true) (l:List Tok) (e:Int) (out:PR β):Res thy->Prop:=
 Z4e (mI dA hA d hv) (fun _=>none) 3 d.dec Zn3 (l,e,()) out
theorem Zlk {F:Fns thy} (hF:FnsOk E F) {n:Nat} {α β:Type} {dA:DcL E α} {hA:∀a,nidL 0 (dA.enc a)=true} {d:Dc E β} {hv:∀y,nid 0 (d.enc y)=true} {f:Nat} {l:List Tok} {e:Int} {a:α} {out:PR β}
 (hk:Zi E F (vc E F n) f (.ptr 1 0::dA.enc a) (two [.psl Th.toks l false,.int false .i64 e]) 2 (mK2 dA hA d hv l e out)):Zbi (mI dA hA d hv) f (l,e,()) a out:=
 Zj5 E_ok (Ze E_ok hF n) (fun v y h=>(d.ok v y h).2.2) Ziz (x:=(l,e,())) hk
def sMul:List Nat:= [42]
def Zx4:List Nat:= [43]
def Ztg:List Nat:= [45]
def op1 (l:List Tok):Int×List Tok:=if isW sMul l then (5,l.tail) else (0,l)
def op2 (l:List Tok):Int×List Tok:=if isW Zx4 l then (3,l.tail) else if isW Ztg l then (4,l.tail) else (0,l)
def pOp (o:List Tok->Int×List Tok) (l:List Tok) (e:Int):PR Int:= .ok ((o l).1,(o l).2,e,())
theorem Zx5 (l:List Tok) (e:Int) (out:PR Int):Zi E Fme (vc E Fme 400) 171 [.ptr 1 0] (two [.psl Th.toks l false,.int false .i64 e]) 2 (mK2 .nil n0 dN (fun _=>rfl) l e out)=(
(isW [(42:Nat)] l=true->out=Except.ok ((5:Int),List.tail l,e,()))/\(isW [(42:Nat)] l=false->out=Except.ok ((0:Int),l,e,()))):=by kernel_rfl
theorem Zx6 (l:List Tok) (e:Int) (out:PR Int):Zi E Fme (vc E Fme 400) 172 [.ptr 1 0] (two [.psl Th.toks l false,.int false .i64 e]) 2 (mK2 .nil n0 dN (fun _=>rfl) l e out)=(
(isW [(43:Nat)] l=true->out=Except.ok ((3:Int),List.tail l,e,()))/\(isW [(43:Nat)] l=false->(isW [(45:Nat)] l=true->out=Except.ok ((4:Int),List.tail l,e,()))/\(isW [(45:Nat)] l=false->out=Except.ok ((0:Int),l,e,())))):=by kernel_rfl
theorem Z2v (l:List Tok) (e:Int):Zbi (mI .nil n0 dN (fun _=>rfl)) 171 (l,e,()) () (pOp op1 l e):=by
 refine Zlk Zdu (n:=400) (a:=()) ?_
 rw [show (DcL.nil (E:=E)).enc ()= [] from rfl,Zx5]
 exact ⟨fun h=>by simp [pOp,op1,sMul,h],fun h=>by simp [pOp,op1,sMul,h]⟩
theorem Z2w (l:List Tok) (e:Int):Zbi (mI .nil n0 dN (fun _=>rfl)) 172 (l,e,()) () (pOp op2 l e):=by
 refine Zlk Zdu (n:=400) (a:=()) ?_
 rw [show (DcL.nil (E:=E)).enc ()= [] from rfl,Zx6]
 exact ⟨fun h=>by simp [pOp,op2,Zx4,h],fun h=>⟨fun h2=>by simp [pOp,op2,Zx4,Ztg,h,h2],fun h2=>by simp [pOp,op2,Zx4,Ztg,h,h2]⟩⟩
theorem Zth (l:List Tok):(op1 l).2.length<=l.length:=by
 unfold op1;split
 · have:=Zx (by assumption);show l.tail.length<=_;omega
 · exact Nat.le_refl _
theorem Zti (l:List Tok):(op2 l).2.length<=l.length:=by
 unfold op2;split
 · have:=Zx (by assumption);show l.tail.length<=_;omega
 · split
   · have:=Zx (by assumption);show l.tail.length<=_;omega
   · exact Nat.le_refl _
def Vv (o:List Tok->Int×List Tok) (pf:PE):Nat->Ex->Int->List Tok->Int->PR Ex
 |0,x,_,l,e=> .ok (x,l,e,())
 |k+1,x,op,l,e=>
  if op=0 then .ok (x,l,e,())
  else match pf l e with
   | .error er=> .error er
   | .ok (y,z)=>Vv o pf k (.mk op 0 0 0 0 0 [x,y]) (o z.1).1 (o z.1).2 z.2.1
def pCh (o:List Tok->Int×List Tok) (pf:PE) (l:List Tok) (e:Int):PR Ex:=
 match pf l e with
 | .error er=> .error er
 | .ok (y,z)=>Vv o pf ((o z.1).2.length+1) y (o z.1).1 (o z.1).2 z.2.1
def Sop1:Sum thy:=Zvz (mI .nil n0 dN (fun _=>rfl)) (fun _ _=>True) fun x _=>pOp op1 x.1 x.2.1
def Sop2:Sum thy:=Zvz (mI .nil n0 dN (fun _=>rfl)) (fun _ _=>True) fun x _=>pOp op2 x.1 x.2.1
theorem Z2x:SumOk E 171 Sop1:=Zhi E_ok (Zb rfl) fun x _ _=>Z2v x.1 x.2.1
theorem Z2y:SumOk E 172 Sop2:=Zhi E_ok (Zb rfl) fun x _ _=>Z2w x.1 x.2.1
structure CX where
 e:Ex
 op:Int
 l:List Tok
 ed:Int
 k:Nat
def celP (T:Fr thy):Nat:=match T 2 with| .fn _ _ [.ptr c _]=>c|_=>0
def parP (T:Fr thy) (h:Hp thy):Nat:=match h (celP T) with|some (.raw [.ptr p _] _ _)=>p|_=>0
def Ach:Fr thy->Hp thy->Nat->Ann thy:=fun T h i=>{X:=CX,fr:=fun x=> [(1,T 1),(2,T 2),(6,T 6),(7,T 7),(8,.int false .i64 x.op)],bl:=fun x=>(parP T h,.raw [.psl Th.toks x.l false,.int false .i64 x.ed] 0 none)::(celP T,.raw [.ptr (parP T h) 0] 0 none)::(bOf (T 7),.raw (E.enc Th.exprs x.e) 0 none)::blkP h (T 6),src:=fun _=> [],md:= [parP T h,bOf (T 7)],ih:=i,M:=i+60,meas:=fun x=>x.k,fz:= [7]}
def Sfac (n:Nat) (pf:PE):Sum thy:=sumM (mI .nil n0 dEx (fun _=>rfl)) (fun x _=>x.1.length<n) fun x _=>pf x.1 x.2.1
def Stm (n:Nat) (pf:PE):Sum thy:=Zvz (mI .nil n0 dEx (fun _=>rfl)) (fun x _=>x.1.length<n) fun x _=>pf x.1 x.2.1
def Ftm (n:Nat) (pf:PE):Fns thy:=addL (addS (addS F0 170 (Sfac n pf)) 171 Sop1) 169 3 Ach E
def Fxp (n:Nat) (pf:PE):Fns thy:=addL (addS (addS F0 168 (Stm n pf)) 172 Sop2) 169 3 Ach E
abbrev qBP5:=(0:Nat)
abbrev qBP3:=(0:Int)
abbrev qBP1:=(qBP3=qBP3/\qBP3=qBP3/\qBP3=qBP3/\qBP3=qBP3/\qBP3=qBP3/\qBP3=qBP3/\Value.slice none qBP5 qBP5=Value.slice none qBP5 qBP5/\True)
abbrev qBP2 (a0:Int) (b0:CX):=((Fn.func (170:Nat)=Fn.func (170:Nat)/\(qBP5=qBP5/\True)/\True)/\(Fn.func (171:Nat)=Fn.func (171:Nat)/\True/\qBP5=qBP5/\True)/\qBP5=qBP5/\qBP5=qBP5/\a0=CX.op b0/\True)
abbrev qBP4:=(false=true->false=true)
theorem Ztj (n:Nat) (pf:PE) (l:List Tok) (e:Int) (out:PR Ex):Zi E (Ftm n pf) (vc E (Ftm n pf) 400) 168 [.ptr 1 0] (two [.psl Th.toks l false,.int false .i64 e]) 2 (mK2 .nil n0 dEx (fun _=>rfl) l e out)=(
 List.length l+(1:Nat)<=n/\(∀(y:Ex) (x':PX),pf l e=Except.ok (y,x')->True/\(∀(y_1:Int) (x'_1:PX),pOp op1 (Prod.fst x') (Prod.fst (Prod.snd x'))=Except.ok (y_1,x'_1)->∃(R:CX->Prop),(∃(x:CX),R x/\true=true/\(qBP2 y_1 x)/\((Prod.fst x'_1=CX.l x/\qBP4)/\Prod.fst (Prod.snd x'_1)=CX.ed x/\True)/\(qBP5=qBP5/\True)/\(Ex.op y=Ex.op (CX.e x)/\Ex.n y=Ex.n (CX.e x)/\Ex.d0 y=Ex.d0 (CX.e x)/\Ex.d1 y=Ex.d1 (CX.e x)/\Ex.d2 y=Ex.d2 (CX.e x)/\Ex.d3 y=Ex.d3 (CX.e x)/\(Ex.l y=Ex.l (CX.e x)/\qBP4)/\True)/\qBP1/\True)/\∀(x:CX),R x->((CX.op x !=qBP3)=true->List.length (CX.l x)+(1:Nat)<=n/\(∀(y:Ex) (x':PX),pf (CX.l x) (CX.ed x)=Except.ok (y,x')->True/\(∀(y_2:Int) (x'_2:PX),pOp op1 (Prod.fst x') (Prod.fst (Prod.snd x'))=Except.ok (y_2,x'_2)->∃(x_1:CX),R x_1/\x_1.5+(1:Nat)<=x.5/\true=true/\(qBP2 y_2 x_1)/\((Prod.fst x'_2=CX.l x_1/\qBP4)/\Prod.fst (Prod.snd x'_2)=CX.ed x_1/\True)/\(qBP5=qBP5/\True)/\(CX.op x=Ex.op (CX.e x_1)/\qBP3=Ex.n (CX.e x_1)/\qBP3=Ex.d0 (CX.e x_1)/\qBP3=Ex.d1 (CX.e x_1)/\qBP3=Ex.d2 (CX.e x_1)/\qBP3=Ex.d3 (CX.e x_1)/\([Ex.mk (Ex.op (CX.e x)) (Ex.n (CX.e x)) (Ex.d0 (CX.e x)) (Ex.d1 (CX.e x)) (Ex.d2 (CX.e x)) (Ex.d3 (CX.e x)) (Ex.l (CX.e x)),Ex.mk (Ex.op y) (Ex.n y) (Ex.d0 y) (Ex.d1 y) (Ex.d2 y) (Ex.d3 y) (Ex.l y)]=Ex.l (CX.e x_1)/\qBP4)/\True)/\qBP1/\True)/\∀(e:Int×Int),pOp op1 (Prod.fst x') (Prod.fst (Prod.snd x'))=Except.error e->out=Except.error e)/\∀(e:Int×Int),pf (CX.l x) (CX.ed x)=Except.error e->out=Except.error e)/\((CX.op x !=qBP3)=false->out=Except.ok (Ex.mk (Ex.op (CX.e x)) (Ex.n (CX.e x)) (Ex.d0 (CX.e x)) (Ex.d1 (CX.e x)) (Ex.d2 (CX.e x)) (Ex.d3 (CX.e x)) (Ex.l (CX.e x)),CX.l x,CX.ed x,())))/\∀(e:Int×Int),pOp op1 (Prod.fst x') (Prod.fst (Prod.snd x'))=Except.error e->out=Except.error e)/\∀(e_1:Int×Int),pf l e=Except.error e_1->out=Except.error e_1):=by kernel_rfl
abbrev qBPa:=(0:Nat)
abbrev qBP8:=(0:Int)
abbrev qBP6:=(qBP8=qBP8/\qBP8=qBP8/\qBP8=qBP8/\qBP8=qBP8/\qBP8=qBP8/\qBP8=qBP8/\Value.slice none qBPa qBPa=Value.slice none qBPa qBPa/\True)
abbrev qBP7 (a0:Int) (b0:CX):=((Fn.func (168:Nat)=Fn.func (168:Nat)/\True/\qBPa=qBPa/\True)/\(Fn.func (172:Nat)=Fn.func (172:Nat)/\True/\qBPa=qBPa/\True)/\qBPa=qBPa/\qBPa=qBPa/\a0=CX.op b0/\True)
abbrev qBP9:=(false=true->false=true)
theorem Ztk (n:Nat) (pf:PE) (l:List Tok) (e:Int) (out:PR Ex):Zi E (Fxp n pf) (vc E (Fxp n pf) 400) 134 [.ptr 0 0] (one [.psl Th.toks l false,.int false .i64 e]) 1 (mK .nil n0 dEx (fun _=>rfl) l e out)=(
 List.length l+(1:Nat)<=n/\(∀(y:Ex) (x':PX),pf l e=Except.ok (y,x')->True/\(∀(y_1:Int) (x'_1:PX),pOp op2 (Prod.fst x') (Prod.fst (Prod.snd x'))=Except.ok (y_1,x'_1)->∃(R:CX->Prop),(∃(x:CX),R x/\true=true/\(qBP7 y_1 x)/\((Prod.fst x'_1=CX.l x/\qBP9)/\Prod.fst (Prod.snd x'_1)=CX.ed x/\True)/\(qBPa=qBPa/\True)/\(Ex.op y=Ex.op (CX.e x)/\Ex.n y=Ex.n (CX.e x)/\Ex.d0 y=Ex.d0 (CX.e x)/\Ex.d1 y=Ex.d1 (CX.e x)/\Ex.d2 y=Ex.d2 (CX.e x)/\Ex.d3 y=Ex.d3 (CX.e x)/\(Ex.l y=Ex.l (CX.e x)/\qBP9)/\True)/\qBP6/\True)/\∀(x:CX),R x->((CX.op x !=qBP8)=true->List.length (CX.l x)+(1:Nat)<=n/\(∀(y:Ex) (x':PX),pf (CX.l x) (CX.ed x)=Except.ok (y,x')->True/\(∀(y_2:Int) (x'_2:PX),pOp op2 (Prod.fst x') (Prod.fst (Prod.snd x'))=Except.ok (y_2,x'_2)->∃(x_1:CX),R x_1/\x_1.5+(1:Nat)<=x.5/\true=true/\(qBP7 y_2 x_1)/\((Prod.fst x'_2=CX.l x_1/\qBP9)/\Prod.fst (Prod.snd x'_2)=CX.ed x_1/\True)/\(qBPa=qBPa/\True)/\(CX.op x=Ex.op (CX.e x_1)/\qBP8=Ex.n (CX.e x_1)/\qBP8=Ex.d0 (CX.e x_1)/\qBP8=Ex.d1 (CX.e x_1)/\qBP8=Ex.d2 (CX.e x_1)/\qBP8=Ex.d3 (CX.e x_1)/\([Ex.mk (Ex.op (CX.e x)) (Ex.n (CX.e x)) (Ex.d0 (CX.e x)) (Ex.d1 (CX.e x)) (Ex.d2 (CX.e x)) (Ex.d3 (CX.e x)) (Ex.l (CX.e x)),Ex.mk (Ex.op y) (Ex.n y) (Ex.d0 y) (Ex.d1 y) (Ex.d2 y) (Ex.d3 y) (Ex.l y)]=Ex.l (CX.e x_1)/\qBP9)/\True)/\qBP6/\True)/\∀(e:Int×Int),pOp op2 (Prod.fst x') (Prod.fst (Prod.snd x'))=Except.error e->out=Except.error e)/\∀(e:Int×Int),pf (CX.l x) (CX.ed x)=Except.error e->out=Except.error e)/\((CX.op x !=qBP8)=false->out=Except.ok (Ex.mk (Ex.op (CX.e x)) (Ex.n (CX.e x)) (Ex.d0 (CX.e x)) (Ex.d1 (CX.e x)) (Ex.d2 (CX.e x)) (Ex.d3 (CX.e x)) (Ex.l (CX.e x)),CX.l x,CX.ed x,())))/\∀(e:Int×Int),pOp op2 (Prod.fst x') (Prod.fst (Prod.snd x'))=Except.error e->out=Except.error e)/\∀(e_1:Int×Int),pf l e=Except.error e_1->out=Except.error e_1):=by kernel_rfl
theorem Z5n {n:Nat} {pf:PE} (hpf:∀l e,l.length<n->We (mI .nil n0 dEx (fun _=>rfl)) 170 (l,e,()) () (pf l e)):FnsOk E (Ftm n pf):=Zt E_ok (Zc (Zc F0_ok (Y9 E_ok (Zb rfl) fun x _ h=>hpf x.1 x.2.1 h)) Z2x) _ _ _
theorem Z5o {n:Nat} {pf:PE} (hpf:∀l e,l.length<n->Zbi (mI .nil n0 dEx (fun _=>rfl)) 168 (l,e,()) () (pf l e)):FnsOk E (Fxp n pf):=Zt E_ok (Zc (Zc F0_ok (Zhi E_ok (Zb rfl) fun x _ h=>hpf x.1 x.2.1 h)) Z2y) _ _ _
theorem Zx7 {n:Nat} {pf:PE} (hpf:∀l e,l.length<n->We (mI .nil n0 dEx (fun _=>rfl)) 170 (l,e,()) () (pf l e)) (H:Shr pf) (l:List Tok) (e:Int) (hl:l.length<n):
 Zbi (mI .nil n0 dEx (fun _=>rfl)) 168 (l,e,()) () (pCh op1 pf l e):=by
 refine Zlk (Z5n hpf) (n:=400) (a:=()) ?_
 rw [show (DcL.nil (E:=E)).enc ()= [] from rfl,Ztj];delta qBP5 qBP3 qBP1 qBP2 qBP4
 refine ⟨by omega,fun y x' h=>⟨trivial,fun y1 x1 ho=> ?_,fun er ho=>by cases ho⟩,fun er h=>by simp [pCh,h]⟩
 unfold pOp at ho
 injection ho with ho
 injection ho with ho1 ho2
 subst ho1;subst ho2
 have hs:=H _ _ _ _ h
 have hs2:=Zth x'.1
 refine ⟨fun x=>Vv op1 pf x.k x.e x.op x.l x.ed=pCh op1 pf l e/\x.l.length<x.k/\x.l.length<n,⟨⟨y,(op1 x'.1).1,(op1 x'.1).2,x'.2.1,(op1 x'.1).2.length+1⟩,⟨by simp [pCh,h],(by show (op1 x'.1).2.length<(op1 x'.1).2.length+1;omega),(by show (op1 x'.1).2.length<n;omega)⟩,by simp⟩,?_⟩
 rintro ⟨x,op,l1,ed,k⟩ ⟨hR,hk,hn⟩
 have hk:l1.length<k:=hk
 have hn:l1.length<n:=hn
 cases k with
 |zero=>omega
 |succ k=>
  have hR:Vv op1 pf (k+1) x op l1 ed=pCh op1 pf l e:=hR
  rw [<-hR]
  refine ⟨fun h0=>⟨by omega,fun y2 x2 h2=>⟨trivial,fun y3 x3 h3=> ?_,fun er h3=>by cases h3⟩,fun er h2=> ?_⟩,fun h0=> ?_⟩
  · unfold pOp at h3
    injection h3 with h3
    injection h3 with h31 h32
    subst h31;subst h32
    have h0:op≠0:=by simpa using h0
    have h2:pf l1 ed= .ok (y2,x2):=h2
    have hq:=H _ _ _ _ h2
    have hq2:=Zth x2.1
    refine ⟨⟨.mk op 0 0 0 0 0 [x,y2],(op1 x2.1).1,(op1 x2.1).2,x2.2.1,k⟩,⟨?_,(by show (op1 x2.1).2.length<k;omega),(by show (op1 x2.1).2.length<n;omega)⟩,Nat.le_refl _,?_⟩
    · show Vv op1 pf k _ _ _ _=_
      simp [Vv,h0,h2]
    · simp only [Ex.eta]
      repeat' (first|exact rfl|exact trivial|exact fun h=>h|apply And.intro)
  · have h0:op≠0:=by simpa using h0
    have h2:pf l1 ed= .error er:=h2
    simp [Vv,h0,h2]
  · have h0:op=0:=by simpa using h0
    simp [Vv,h0,Ex.eta]
theorem Ztl {n:Nat} {pf:PE} (hpf:∀l e,l.length<n->Zbi (mI .nil n0 dEx (fun _=>rfl)) 168 (l,e,()) () (pf l e)) (H:Shr pf) (l:List Tok) (e:Int) (hl:l.length<n):
 We (mI .nil n0 dEx (fun _=>rfl)) 134 (l,e,()) () (pCh op2 pf l e):=by
 refine Vm (Z5o hpf) (n:=400) (a:=()) ?_
 rw [show (DcL.nil (E:=E)).enc ()= [] from rfl,Ztk];delta qBPa qBP8 qBP6 qBP7 qBP9
 refine ⟨by omega,fun y x' h=>⟨trivial,fun y1 x1 ho=> ?_,fun er ho=>by cases ho⟩,fun er h=>by simp [pCh,h]⟩
 unfold pOp at ho
 injection ho with ho
 injection ho with ho1 ho2
 subst ho1;subst ho2
 have hs:=H _ _ _ _ h
 have hs2:=Zti x'.1
 refine ⟨fun x=>Vv op2 pf x.k x.e x.op x.l x.ed=pCh op2 pf l e/\x.l.length<x.k/\x.l.length<n,⟨⟨y,(op2 x'.1).1,(op2 x'.1).2,x'.2.1,(op2 x'.1).2.length+1⟩,⟨by simp [pCh,h],(by show (op2 x'.1).2.length<(op2 x'.1).2.length+1;omega),(by show (op2 x'.1).2.length<n;omega)⟩,by simp⟩,?_⟩
 rintro ⟨x,op,l1,ed,k⟩ ⟨hR,hk,hn⟩
 have hk:l1.length<k:=hk
 have hn:l1.length<n:=hn
 cases k with
 |zero=>omega
 |succ k=>
  have hR:Vv op2 pf (k+1) x op l1 ed=pCh op2 pf l e:=hR
  rw [<-hR]
  refine ⟨fun h0=>⟨by omega,fun y2 x2 h2=>⟨trivial,fun y3 x3 h3=> ?_,fun er h3=>by cases h3⟩,fun er h2=> ?_⟩,fun h0=> ?_⟩
  · unfold pOp at h3
    injection h3 with h3
    injection h3 with h31 h32
    subst h31;subst h32
    have h0:op≠0:=by simpa using h0
    have h2:pf l1 ed= .ok (y2,x2):=h2
    have hq:=H _ _ _ _ h2
    have hq2:=Zti x2.1
    refine ⟨⟨.mk op 0 0 0 0 0 [x,y2],(op2 x2.1).1,(op2 x2.1).2,x2.2.1,k⟩,⟨?_,(by show (op2 x2.1).2.length<k;omega),(by show (op2 x2.1).2.length<n;omega)⟩,Nat.le_refl _,?_⟩
    · show Vv op2 pf k _ _ _ _=_
      simp [Vv,h0,h2]
    · simp only [Ex.eta]
      repeat' (first|exact rfl|exact trivial|exact fun h=>h|apply And.intro)
  · have h0:op≠0:=by simpa using h0
    have h2:pf l1 ed= .error er:=h2
    simp [Vv,h0,h2]
  · have h0:op=0:=by simpa using h0
    simp [Vv,h0,Ex.eta]
end
section
open Go
def Bnd (pe:PE):Prop:=∀l e x y,pe l e= .ok (x,y)->x.sz+2*y.1.length<=2*l.length
theorem Bnd.shr {pe:PE} (h:Bnd pe):Shr pe:=fun l e x y hq=>by
 have:=h l e x y hq
 have:=Ex.sz_pos x
 omega
theorem Zgb:∀(a b:List Ex),Ex.szL (a++b)=Ex.szL a+Ex.szL b
 | [],b=>by simp [Ex.szL]
 |x::a,b=>by simp [Ex.szL,Zgb a b];omega
theorem Zpr {pe:PE} (h:Bnd pe):∀{ss:List (List Nat)} {acc:List Ex} {l:List Tok} {e:Int} {xs:List Ex} {y:PX},pOpL pe ss acc l e= .ok (xs,y)->Ex.szL xs+2*y.1.length<=Ex.szL acc+2*l.length
 | [],acc,l,e,xs,y,hq=>by
  unfold pOpL at hq
  injection hq with hq
  injection hq with h1 h2
  subst h1;subst h2
  exact Nat.le_refl _
 |s::r,acc,l,e,xs,y,hq=>by
  unfold pOpL at hq
  split at hq
  · cases hq
  · rename_i x z hx
    split at hq
    · rename_i hw
      have h1:=h _ _ _ _ hx
      have h2:=Zx hw
      have h3:=Zpr h hq
      rw [Zgb] at h3
      have h4:Ex.szL [x]=x.sz:=by simp [Ex.szL]
      omega
    · cases hq
theorem Zps {pe:PE} (h:Bnd pe) {op:Int} {ss:List (List Nat)} {l:List Tok} {e:Int} {x:Ex} {y:PX} (hq:pOps pe op ss l e= .ok (x,y)):x.sz+2*y.1.length<=2*l.length:=by
 unfold pOps at hq
 split at hq
 · rename_i hw
   split at hq
   · cases hq
   · rename_i xs z hx
     injection hq with hq
     injection hq with h1 h2
     subst h1;subst h2
     have h3:=Zpr h hx
     have h2:=Zx hw
     rw [Ex.sz_eq]
     show Ex.szL xs+1+_<=_
     have:Ex.szL ([]:List Ex)=0:=rfl
     omega
 · cases hq
theorem Zxg {l:List Tok} {e:Int} {d:List Int} {y:PX} (hq:Zbv l e= .ok (d,y)):y.1.length<=l.length:=by
 unfold Zbv at hq
 split at hq
 · cases hq
 · rename_i k x hc
   have hx:x.1.length<=l.length:=by
    rcases Xi hc with ⟨h1,_,rfl⟩|⟨_,_,rfl⟩
    · have:=Zac h1;show l.tail.length<=_;omega
    · exact Nat.le_refl _
   split at hq
   · rename_i hw
     have hw:=Zx hw
     split at hq
     · cases hq
     · rename_i j x1 hm
       obtain ⟨h1,_,rfl⟩:=Za6 hm
       have:=Zac h1
       injection hq with hq
       injection hq with _ h2
       subst h2
       show x.1.tail.tail.length<=_
       omega
   · injection hq with hq
     injection hq with _ h2
     subst h2
     exact hx
theorem Zk0 {pe:PE} (h:Bnd pe):Bnd (Zit pe):=by
 intro l e x y hq
 unfold Zit at hq
 split at hq
 · rename_i hw
   have hw:=Zx hw
   split at hq
   · cases hq
   · rename_i x1 y1 hx
     have h1:=h _ _ _ _ hx
     split at hq
     · rename_i hw2
       have hw2:=Zx hw2
       injection hq with hq
       injection hq with h2 h3
       subst h2;subst h3
       show _+2*y1.1.tail.length<=_
       omega
     · cases hq
 · split at hq
   · rename_i hw
     have hw:=Zx hw
     have:=Zps h hq
     omega
   · split at hq
     · cases hq
     · rename_i k y1 hc
       split at hq
       · have h1:=Zps h hq
         rcases Xi hc with ⟨h2,_,rfl⟩|⟨_,_,rfl⟩
         · have:=Zac h2
           have h1:x.sz+2*y.1.length<=2*l.tail.length:=h1
           omega
         · exact h1
       · split at hq
         · cases hq
         · rename_i a z hm
           obtain ⟨h1,_,rfl⟩:=Za6 hm
           have hp:=Zac h1
           injection hq with hq
           injection hq with h2 h3
           subst h2;subst h3
           have hy:y1.1.length<=l.length:=by
            rcases Xi hc with ⟨h2,_,rfl⟩|⟨_,_,rfl⟩
            · have:=Zac h2;show l.tail.length<=_;omega
            · exact Nat.le_refl _
           show 1+2*y1.1.tail.length<=_
           omega
theorem Zia {pe:PE} (h:Bnd pe):Bnd (pFac pe):=by
 intro l e x y hq
 unfold pFac at hq
 split at hq
 · exact Zk0 h _ _ _ _ hq
 · split at hq
   · split at hq
     · cases hq
     · rename_i t r _ _ d z hu
       have h1:=Zxg hu
       injection hq with hq
       injection hq with h2 h3
       subst h2;subst h3
       show 1+2*z.1.length<=2*(r.length+1)
       omega
   · exact Zk0 h _ _ _ _ hq
def Cns (o:List Tok->Int×List Tok):Prop:=∀l,2*(o l).2.length+(if (o l).1=0 then 0 else 2)<=2*l.length
theorem Zxh:Cns op1:=by
 intro l
 unfold op1;split
 · have:=Zx (by assumption);show 2*l.tail.length+2<=_;omega
 · simp
theorem Z5b:Cns op2:=by
 intro l
 unfold op2;split
 · have:=Zx (by assumption);show 2*l.tail.length+2<=_;omega
 · split
   · have:=Zx (by assumption);show 2*l.tail.length+2<=_;omega
   · simp
theorem Zk1 {o:List Tok->Int×List Tok} {pf:PE} (ho:Cns o) (h:Bnd pf):∀{k:Nat} {x:Ex} {op:Int} {l:List Tok} {e:Int} {z:Ex} {y:PX},Vv o pf k x op l e= .ok (z,y)->z.sz+2*y.1.length<=x.sz+2*l.length+(if op=0 then 0 else 2)
 |0,x,op,l,e,z,y,hq=>by
  unfold Vv at hq
  injection hq with hq
  injection hq with h2 h3
  subst h2;subst h3
  exact Nat.le_add_right _ _
 |k+1,x,op,l,e,z,y,hq=>by
  unfold Vv at hq
  split at hq
  · injection hq with hq
    injection hq with h2 h3
    subst h2;subst h3
    exact Nat.le_add_right _ _
  · rename_i hop
    split at hq
    · cases hq
    · rename_i y1 z1 hx
      have h1:=h _ _ _ _ hx
      have h2:=Zk1 ho h hq
      have h3:=ho z1.1
      have h4:(Ex.mk op 0 0 0 0 0 [x,y1]).sz=x.sz+y1.sz+1:=by rw [Ex.sz_eq];simp [Ex.l,Ex.szL]
      rw [h4] at h2
      rw [if_neg hop]
      omega
theorem Znl {o:List Tok->Int×List Tok} {pf:PE} (ho:Cns o) (h:Bnd pf):Bnd (pCh o pf):=by
 intro l e x y hq
 unfold pCh at hq
 split at hq
 · cases hq
 · rename_i y1 z1 hx
   have h1:=h _ _ _ _ hx
   have h2:=Zk1 ho h hq
   have h3:=ho z1.1
   omega
def pE:Nat->PE
 |0=>fun l e=> .error (hdT e l,160)
 |n+1=>pCh op2 (pCh op1 (pFac (pE n)))
theorem Zk2:∀n,Bnd (pE n)
 |0=>fun l e x y hq=>by cases hq
 |n+1=>Znl Z5b (Znl Zxh (Zia (Zk2 n)))
theorem Zpt:∀(n:Nat) (l:List Tok) (e:Int),l.length<n->We (mI .nil n0 dEx (fun _=>rfl)) 134 (l,e,()) () (pE n l e)
 |0,l,e,h=>by omega
 |n+1,l,e,h=>Ztl (n:=n+1) (fun l e h=>Zx7 (n:=n+1) (fun l e h=>Zqc (Zpt n) (Zk2 n).shr l e h) (Zia (Zk2 n)).shr l e h) (Znl Zxh (Zia (Zk2 n))).shr l e h
def pX (l:List Tok) (e:Int):PR Ex:=pE (l.length+1) l e
def Sx:Sum thy:=sumM (mI .nil n0 dEx (fun _=>rfl)) (fun _ _=>True) fun x _=>pX x.1 x.2.1
theorem Z8v:SumOk E 134 Sx:=Y9 E_ok (Zb rfl) fun x _ _=>Zpt _ _ _ (Nat.lt_succ_self _)
theorem Zxi:Bnd pX:=fun l e x y hq=>Zk2 _ l e x y hq
end
section
open Go
end
section
open Go
def Yf (w:Tst):Bool:=decide (0<=w.attr/\w.attr<16/\0<=w.low/\w.low<=1099511627776/\0<=w.high/\w.high<=1099511627776)
def V7 (c:Cls):Bool:=Zc8 c.name&&Zo c.pay&&c.when_.all Yf
def resF (s:List Nat):Bool:=decide (s∈resW)
def goC:Bool->Bool->List (List Nat×Bool)->List Cls->Int
 |a,b,_,[]=>if a=true then 161 else if b=true then 2 else 0
 |a,b,m,c::r=>if V7 c=true then goC (a||resF c.name||(Yr m c.name).getD false) (b||decide (8<c.when_.length)||decide (24<Xa c.pay)) (putS m c.name true) r else 1
def Wz (t:Tar):Int:=if Zc8 t.name=true/\1<=t.for_/\t.for_<=6 then goC (resF t.name) (decide (64<t.clauses.length)) [] t.clauses else 1
def Z6y:Sum thy:=sumP (dA1 dS) (fun _=>True) fun x=> .bool false (Zc8 x.1)
theorem Z0h:SumOk E 28 Z6y:=Zs E_ok (Zb (f:=28) rfl) fun x h=>Ztw _
def Sres:Sum thy:=sumP (dA1 dS) (fun _=>True) fun x=> .bool false (resF x.1)
theorem Z4k:SumOk E 29 Sres:=Zs E_ok (Zb (f:=29) rfl) fun x h=>Znx _
def Zv8:Sum thy:=sumP dExp (fun x=>x.1.sz<1000000000000) fun x=> .bool false (Zo x.1)
theorem Zr9:SumOk E 30 Zv8:=Zs E_ok (Zb (f:=30) rfl) fun x h=>Zz0 _ (Nat.le_refl _) _ h
def Zhp:Sum thy:=sumP dExp (fun x=>x.1.sz<1000000000000) fun x=> .int false .i64 (Xa x.1:Int)
theorem Zeh:SumOk E 31 Zhp:=Zs E_ok (Zb (f:=31) rfl) fun x h=>Zzt _ _ (Nat.le_refl _) (Nat.le_of_lt h)
structure CkX where
 k:Nat
 r:Nat
 a:Bool
 b:Bool
 m:List (List Nat×Bool)
def blkM {Y:Thy} (h:Hp Y) (v:SV Y):List (Nat×Blk Y):=match v with| .map b=>(match h b with|some x=> [(b,x)]|none=> [])|_=> []
def Ack:Fr thy->Hp thy->Nat->Ann thy:=fun T h i=>{X:=CkX,fr:=fun x=> [(3,.bool false x.a),(4,.bool false x.b),(5,T 5),(33,T 33),(34,T 34),(35,.int false .i64 x.k)],bl:=fun x=> [(bOf (T 5),.map (Yd (Xx E Th.bools false) x.m))],src:=fun _=> [],md:= [bOf (T 5)],ih:=i,M:=i+40,meas:=fun x=>x.r}
def Atst:Fr thy->Hp thy->Nat->Ann thy:=fun T h i=>{X:=DX,fr:=fun x=> [(3,T 3),(4,T 4),(5,T 5),(7,T 7),(33,T 33),(34,T 34),(35,T 35),(50,T 50),(51,T 51),(52,.int false .i64 x.k)],bl:=fun x=>blkP h (T 7)++blkM h (T 5),src:=fun _=> [],md:= [],ih:=i,M:=i+30,meas:=fun x=>x.r}
def Fck:Fns thy:=addL (addL (addS (addS (addS (addS F0 28 Z6y) 29 Sres) 30 Zv8) 31 Zhp) 13 6 Ack E) 13 11 Atst E
theorem Z6z:FnsOk E Fck:=Zt E_ok (Zt E_ok (Zc (Zc (Zc (Zc F0_ok Z0h) Z4k) Zr9) Zeh) _ _ _) _ _ _
def tarA (t:Tar):SV thy:= .agg (encF false .tariffs t)
abbrev qBS7 (a0:List (List Nat×Bool)):=(∀(p:List Nat×Bool),p∈a0->toL (mkS (Prod.fst p))=Prod.fst p)
abbrev qBSm (a0:Cls):=(mkS (Cls.name a0))
abbrev qBSb:=(Xx E Th.bools false)
abbrev qBS9:=(Xx E Th.bools (Zh TypeDesc.bool))
abbrev qBS3 (a0:List (List Nat×Bool)) (b0:Cls) (c0:CkX):=(Yd qBS9 (putS a0 (Cls.name b0) true)=Yd qBSb (CkX.m c0)/\nidE (0:Nat) (Yd qBS9 (putS a0 (Cls.name b0) true))=true)
abbrev qBSp (a0:Cls):=(Cls.pay a0)
abbrev qBS4 (a0:Cls):=(Ex.mk (Ex.op (qBSp a0)) (Ex.n (qBSp a0)) (Ex.d0 (qBSp a0)) (Ex.d1 (qBSp a0)) (Ex.d2 (qBSp a0)) (Ex.d3 (qBSp a0)) (Ex.l (qBSp a0)))
abbrev qBSi (a0:Cls):=((↑(Xa (qBS4 a0)):Int)>(24:Int))
abbrev qBSj:=(1:Int)
abbrev qBSe (a0:CkX):=(↑(CkX.k a0):Int)
abbrev qBS5 (a0:Tar):=(↑(List.length (Tar.clauses a0)):Int)
abbrev qBSl:=(1:Nat)
abbrev qBSg:=(false=true->false=true)
abbrev qBS6 (a0:Tar):=(Tar.clauses a0=Tar.clauses a0/\qBSg)
abbrev qBSa (a0:CkX) (b0:Tar) (c0:CkX):=(true=CkX.a a0/\true=CkX.b a0/\True/\(qBS6 b0)/\(qBS5 b0)=(qBS5 b0)/\wr IntKind.i64 ((qBSe c0)+qBSj)=(qBSe a0)/\True)
abbrev qBSc (a0:Cls):=(↑(List.length (Cls.when_ a0)):Int)
abbrev qBS2 (a0:CkX) (b0:Cls) (c0:CkX->Prop) (d0:Tar):=(CkX.b a0=false->(decide ((qBSc b0)>(8:Int))=true->∃(l:List (List Nat×Bool)),Yd qBSb (CkX.m a0)=Yd qBS9 l/\(qBS7 l)/\toL (qBSm b0)=Cls.name b0/\∃(x_3:CkX),c0 x_3/\x_3.2+qBSl<=a0.2/\true=true/\(qBSa x_3 d0 a0)/\(qBS3 l b0 x_3)/\True)/\(decide ((qBSc b0)>(8:Int))=false->Ex.sz (qBS4 b0)+qBSl<=(1000000000000:Nat)/\(decide (qBSi b0)=true->∃(l:List (List Nat×Bool)),Yd qBSb (CkX.m a0)=Yd qBS9 l/\(qBS7 l)/\toL (qBSm b0)=Cls.name b0/\∃(x_3:CkX),c0 x_3/\x_3.2+qBSl<=a0.2/\true=true/\(qBSa x_3 d0 a0)/\(qBS3 l b0 x_3)/\True)/\(decide (qBSi b0)=false->∃(l:List (List Nat×Bool)),Yd qBSb (CkX.m a0)=Yd qBS9 l/\(qBS7 l)/\toL (qBSm b0)=Cls.name b0/\∃(x_3:CkX),c0 x_3/\x_3.2+qBSl<=a0.2/\true=true/\(true=CkX.a x_3/\false=CkX.b x_3/\True/\(qBS6 d0)/\(qBS5 d0)=(qBS5 d0)/\wr IntKind.i64 ((qBSe a0)+qBSj)=(qBSe x_3)/\True)/\(qBS3 l b0 x_3)/\True)))
abbrev qBSd (a0:Bool) (b0:CkX) (c0:Tar) (d0:CkX):=(a0=CkX.a b0/\true=CkX.b b0/\True/\(qBS6 c0)/\(qBS5 c0)=(qBS5 c0)/\wr IntKind.i64 ((qBSe d0)+qBSj)=(qBSe b0)/\True)
abbrev qBS8 (a0:Cls):=(Cls.name a0=Cls.name a0/\(Cls.when_ a0=Cls.when_ a0/\qBSg)/\Ex.op (qBSp a0)=Ex.op (qBSp a0)/\Ex.n (qBSp a0)=Ex.n (qBSp a0)/\Ex.d0 (qBSp a0)=Ex.d0 (qBSp a0)/\Ex.d1 (qBSp a0)=Ex.d1 (qBSp a0)/\Ex.d2 (qBSp a0)=Ex.d2 (qBSp a0)/\Ex.d3 (qBSp a0)=Ex.d3 (qBSp a0)/\(Ex.l (qBSp a0)=Ex.l (qBSp a0)/\qBSg)/\True)
abbrev qBSf (a0:CkX) (b0:Cls) (c0:CkX->Prop) (d0:Tar):=(CkX.b a0=true->∃(l:List (List Nat×Bool)),Yd qBSb (CkX.m a0)=Yd qBS9 l/\(qBS7 l)/\toL (qBSm b0)=Cls.name b0/\∃(x_3:CkX),c0 x_3/\x_3.2+qBSl<=a0.2/\true=true/\(qBSa x_3 d0 a0)/\(qBS3 l b0 x_3)/\True)
abbrev qBSk (a0:CkX):=(Yd qBSb (CkX.m a0)=Yd qBSb (CkX.m a0)/\nidE (0:Nat) (Yd qBSb (CkX.m a0))=true)
abbrev qBSn (a0:DX):=(↑(DX.k a0):Int)
abbrev qBSo:=(0:Int)
abbrev qBS1 (a0:CkX) (b0:Tar) (c0:Int) (d0:CkX->Prop):=(decide ((qBSe a0)<(qBS5 b0))=true->qBSo<=(qBSe a0)/\(qBSe a0)+qBSj<=(qBS5 b0)/\∀(x_1:Cls),(Tar.clauses b0)[Int.toNat (qBSe a0)]? =some x_1->True/\((!Zc8 (Cls.name x_1))=true->qBSj=c0)/\((!Zc8 (Cls.name x_1))=false->Ex.sz (qBS4 x_1)+qBSl<=(1000000000000:Nat)/\((!Zo (qBS4 x_1))=true->qBSj=c0)/\((!Zo (qBS4 x_1))=false->∃(R_1:DX->Prop),(∃(x_2:DX),R_1 x_2/\true=true/\(CkX.a a0=CkX.a a0/\CkX.b a0=CkX.b a0/\True/\(0:Nat)=(0:Nat)/\(qBS6 b0)/\(qBS5 b0)=(qBS5 b0)/\(qBSe a0)=(qBSe a0)/\(Cls.when_ x_1=Cls.when_ x_1/\qBSg)/\(qBSc x_1)=(qBSc x_1)/\qBSo=(qBSn x_2)/\True)/\(qBS8 x_1)/\(qBSk a0)/\True)/\∀(x_2:DX),R_1 x_2->(decide ((qBSn x_2)<(qBSc x_1))=true->qBSo<=(qBSn x_2)/\(qBSn x_2)+qBSj<=(qBSc x_1)/\∀(x_3:Tst),(Cls.when_ x_1)[Int.toNat (qBSn x_2)]? =some x_3->∃(Q:Bool->Prop),((decide (Tst.attr x_3<qBSo)=true->Q true)/\(decide (Tst.attr x_3<qBSo)=false->(decide (Tst.attr x_3>=(16:Int))=true->Q true)/\(decide (Tst.attr x_3>=(16:Int))=false->(decide (mm2 false (Tst.low x_3) (Tst.high x_3)<qBSo)=true->Q true)/\(decide (mm2 false (Tst.low x_3) (Tst.high x_3)<qBSo)=false->(decide (mm2 true (Tst.low x_3) (Tst.high x_3)>(1099511627776:Int))=true->Q true)/\(decide (mm2 true (Tst.low x_3) (Tst.high x_3)>(1099511627776:Int))=false->Q false)))))/\(Q true->qBSj=c0)/\(Q false->∃(x_4:DX),R_1 x_4/\x_4.2+qBSl<=x_2.2/\true=true/\(CkX.a a0=CkX.a a0/\CkX.b a0=CkX.b a0/\True/\(0:Nat)=(0:Nat)/\(qBS6 b0)/\(qBS5 b0)=(qBS5 b0)/\(qBSe a0)=(qBSe a0)/\(Cls.when_ x_1=Cls.when_ x_1/\qBSg)/\(qBSc x_1)=(qBSc x_1)/\wr IntKind.i64 ((qBSn x_2)+qBSj)=(qBSn x_4)/\True)/\(qBS8 x_1)/\(qBSk a0)/\True))/\(decide ((qBSn x_2)<(qBSc x_1))=false->(CkX.a a0=true->(qBSf a0 x_1 d0 b0)/\(qBS2 a0 x_1 d0 b0))/\(CkX.a a0=false->True/\(resF (Cls.name x_1)=true->(qBSf a0 x_1 d0 b0)/\(qBS2 a0 x_1 d0 b0))/\(resF (Cls.name x_1)=false->∃(l:List (List Nat×Bool)),Yd qBSb (CkX.m a0)=Yd qBS9 l/\(qBS7 l)/\∀(y:Bool),y=Option.getD (Yr l (Cls.name x_1)) false->(CkX.b a0=true->∃(l:List (List Nat×Bool)),Yd qBSb (CkX.m a0)=Yd qBS9 l/\(qBS7 l)/\toL (qBSm x_1)=Cls.name x_1/\∃(x_3:CkX),d0 x_3/\x_3.2+qBSl<=a0.2/\true=true/\(qBSd y x_3 b0 a0)/\(qBS3 l x_1 x_3)/\True)/\(CkX.b a0=false->(decide ((qBSc x_1)>(8:Int))=true->∃(l:List (List Nat×Bool)),Yd qBSb (CkX.m a0)=Yd qBS9 l/\(qBS7 l)/\toL (qBSm x_1)=Cls.name x_1/\∃(x_3:CkX),d0 x_3/\x_3.2+qBSl<=a0.2/\true=true/\(qBSd y x_3 b0 a0)/\(qBS3 l x_1 x_3)/\True)/\(decide ((qBSc x_1)>(8:Int))=false->Ex.sz (qBS4 x_1)+qBSl<=(1000000000000:Nat)/\(decide (qBSi x_1)=true->∃(l:List (List Nat×Bool)),Yd qBSb (CkX.m a0)=Yd qBS9 l/\(qBS7 l)/\toL (qBSm x_1)=Cls.name x_1/\∃(x_3:CkX),d0 x_3/\x_3.2+qBSl<=a0.2/\true=true/\(qBSd y x_3 b0 a0)/\(qBS3 l x_1 x_3)/\True)/\(decide (qBSi x_1)=false->∃(l:List (List Nat×Bool)),Yd qBSb (CkX.m a0)=Yd qBS9 l/\(qBS7 l)/\toL (qBSm x_1)=Cls.name x_1/\∃(x_3:CkX),d0 x_3/\x_3.2+qBSl<=a0.2/\true=true/\(y=CkX.a x_3/\false=CkX.b x_3/\True/\(qBS6 b0)/\(qBS5 b0)=(qBS5 b0)/\wr IntKind.i64 ((qBSe a0)+qBSj)=(qBSe x_3)/\True)/\(qBS3 l x_1 x_3)/\True)))))))))
abbrev qBSh (a0:CkX) (b0:Tar) (c0:Int):=(decide ((qBSe a0)<(qBS5 b0))=false->(CkX.a a0=true->(161:Int)=c0)/\(CkX.a a0=false->(CkX.b a0=true->(2:Int)=c0)/\(CkX.b a0=false->qBSo=c0)))
theorem Z4l (t:Tar) (v:Int):Zi E Fck (vc E Fck 400) 13 [tarA t] hp0 0 (fun r=>ret E (patch hp0 0 r) r.v (.int false .i64 v))=(
 True/\((!Zc8 (Tar.name t))=true->qBSj=v)/\((!Zc8 (Tar.name t))=false->(decide (Tar.for_ t<qBSj)=true->qBSj=v)/\(decide (Tar.for_ t<qBSj)=false->(decide (Tar.for_ t>(6:Int))=true->qBSj=v)/\(decide (Tar.for_ t>(6:Int))=false->True/\(decide ((qBS5 t)>(64:Int))=true->∃(R:CkX->Prop),(∃(x:CkX),R x/\true=true/\(resF (Tar.name t)=CkX.a x/\true=CkX.b x/\True/\(qBS6 t)/\(qBS5 t)=(qBS5 t)/\qBSo=(qBSe x)/\True)/\([]=Yd qBSb (CkX.m x)/\true=true)/\True)/\∀(x:CkX),R x->(qBS1 x t v R)/\(qBSh x t v))/\(decide ((qBS5 t)>(64:Int))=false->∃(R:CkX->Prop),(∃(x:CkX),R x/\true=true/\(resF (Tar.name t)=CkX.a x/\false=CkX.b x/\True/\(qBS6 t)/\(qBS5 t)=(qBS5 t)/\qBSo=(qBSe x)/\True)/\([]=Yd qBSb (CkX.m x)/\true=true)/\True)/\∀(x:CkX),R x->(qBS1 x t v R)/\(qBSh x t v)))))):=by kernel_rfl
theorem Z4m {g:GH} {t:Tar} {u:Value} (h:Den E σ0 g (tarA t) u):Byt t.name/\∀c∈t.clauses,Byt c.name:=by
 obtain ⟨arr,c,rfl,hs,hc,hd⟩:=Z0 h
 refine ⟨Zno (hd 0 _ rfl),fun x hx=> ?_⟩
 have h2:=hd 2 (.psl Th.clauses t.clauses false) rfl
 obtain ⟨v,hv⟩:=Z1m h2 x hx 0 (.str false x.name) rfl
 exact Zno hv
theorem Zhq (a b:Bool) (m:List (List Nat×Bool)) (c:Cls) (r:List Cls):goC a b m (c::r)=if V7 c=true then goC (a||resF c.name||(Yr m c.name).getD false) (b||decide (8<c.when_.length)||decide (24<Xa c.pay)) (putS m c.name true) r else 1:=rfl
theorem Zo3 {l:List Tst} {k:Nat} {w:Tst} (h:l[k]? =some w):(l.drop k).all Yf=(Yf w&&(l.drop (k+1)).all Yf):=by rw [Zbb h,List.all_cons]
theorem Zhr {β:Type}:∀{m:List (List Nat×β)} {a:List Nat} {v:β},(∀p∈m,Byt p.1)->Byt a->∀p∈putS m a v,Byt p.1
 | [],a,v,_,ha,p,hp=>by
  rw [putS] at hp
  obtain rfl:=List.mem_singleton.1 hp
  exact ha
 |q::m,a,v,hm,ha,p,hp=>by
  rw [putS] at hp
  split at hp
  · rcases List.mem_cons.1 hp with rfl|hp
    · exact hm q (List.mem_cons_self ..)
    · exact hm p (List.mem_cons_of_mem _ hp)
  · rcases List.mem_cons.1 hp with rfl|hp
    · exact hm _ (List.mem_cons_self ..)
    · exact Zhr (fun q hq=>hm q (List.mem_cons_of_mem _ hq)) ha p hp
theorem Zsa (t:Tar) (hsz:∀ c∈t.clauses,c.pay.sz<1000000000000/\c.when_.length<1000000000000) (hl:t.clauses.length<1000000000000):PureC E 13 [tarA t] (.int false .i64 (Wz t)):=by
  refine Z5d (j:=0) rfl (fun g u h=>Z4m h) fun hby=>Za E_ok (Ze E_ok Z6z 400) ?_
  rw [Z4l]; delta qBS7 qBSm qBSb qBS9 qBS3 qBSp qBS4 qBSi qBSj qBSe qBS5 qBSl qBSg qBS6 qBSa qBSc qBS2 qBSd qBS8 qBSf qBSk qBSn qBSo qBS1 qBSh
  simp only [Y3,Yi,Vr,Vs,Vt,beq_iff_eq,bne_iff_ne,beq_eq_false_iff_ne,bne_eq_false_iff_eq,decide_eq_true_eq,decide_eq_false_iff_not,Bool.or_eq_true,Bool.or_eq_false_iff,Bool.not_eq_true',Bool.not_eq_false',Bool.and_eq_true,Bool.and_true,Bool.true_and,Bool.and_eq_false_iff,beq_self_eq_true,Yx,Yy,ne_eq,and_true,true_and,Bool.true_eq_false,Bool.false_eq_true,false_or,or_false,true_implies,imp_self,Int.ofNat_eq_natCast,not_true_eq_false,not_false_eq_true,Decidable.not_not,Ex.eta]
  unfold Wz
  refine And.intro (fun h1=>?_) (fun h1=>And.intro (fun h2=>?_) (fun h2=>And.intro (fun h3=>?_) (fun h3=>?_)))
  · rw [if_neg (by rw [h1]; simp)]
  · rw [if_neg (by omega)]
  · rw [if_neg (by omega)]
  · rw [if_pos ⟨h1,by omega,by omega⟩]
    refine And.intro (fun h4=>?_) (fun h4=>?_)
    · rw [decide_eq_true (show 64<t.clauses.length by omega)]
      refine ⟨fun x=>x.k<=t.clauses.length/\(∀ p∈x.m,Byt p.1)/\goC x.a x.b x.m (t.clauses.drop x.k)=goC (resF t.name) true [] t.clauses/\x.r=t.clauses.length - x.k,⟨⟨0,t.clauses.length,resF t.name,true,[]⟩,⟨(by dsimp only; omega),by simp,rfl,rfl⟩,⟨rfl,rfl,rfl⟩,rfl⟩,?_⟩
      rintro x ⟨hk,hm,hv,hr⟩
      refine And.intro (fun hq=>⟨by omega,by omega,fun c hc=>?_⟩) (fun hq=>?_)
      · have hc:t.clauses[x.k]?=some c:=hc
        rw [Zbb hc,Zhq] at hv
        have hcm:=List.mem_of_getElem? hc
        obtain ⟨hs1,hs2⟩:=hsz c hcm
        have hcb:=hby.2 c hcm
        refine And.intro (fun h5=>?_) (fun h5=>⟨by omega,fun h6=>?_,fun h6=>?_⟩)
        · rw [← hv,if_neg (by unfold V7; rw [h5]; simp)]
        · rw [← hv,if_neg (by unfold V7; rw [h6]; simp)]
        refine ⟨fun y=>y.k<=c.when_.length/\(c.when_.drop y.k).all Yf=c.when_.all Yf/\y.r=c.when_.length - y.k,⟨⟨0,c.when_.length,[],[],0,0,0,0⟩,⟨(by dsimp only; omega),rfl,rfl⟩,rfl,Xq E_ok _⟩,?_⟩
        rintro y ⟨hk2,hv2,hr2⟩
        refine And.intro (fun hq2=>⟨by omega,by omega,fun w hw=>?_⟩) (fun hq2=>?_)
        · have hw:c.when_[y.k]?=some w:=hw
          rw [Zo3 hw] at hv2
          have hT:Yf w=decide (0<=w.attr/\w.attr<16/\0<=w.low/\w.low<=1099511627776/\0<=w.high/\w.high<=1099511627776):=rfl
          refine ⟨fun b=>b=true ↔ Yf w=false,?_,fun hQ=>?_,fun hQ=>?_⟩
          · have q1:(¬ (0<=w.attr/\w.attr<16/\0<=w.low/\w.low<=1099511627776/\0<=w.high/\w.high<=1099511627776))->((true=true) ↔ Yf w=false):=fun h=>by rw [hT,decide_eq_false h]; simp
            have q2:(0<=w.attr/\w.attr<16/\0<=w.low/\w.low<=1099511627776/\0<=w.high/\w.high<=1099511627776)->((false=true) ↔ Yf w=false):=fun h=>by rw [hT,decide_eq_true h]; simp
            refine And.intro (fun a1=>q1 (by omega)) (fun a1=>And.intro (fun a2=>q1 (by omega)) (fun a2=>And.intro (fun a3=>q1 (by omega)) (fun a3=>And.intro (fun a4=>q1 (by omega)) (fun a4=>q2 (by omega)))))
          · have hQ:=hQ.1 rfl
            rw [hQ,Bool.false_and] at hv2
            rw [← hv,if_neg (by unfold V7; rw [← hv2]; simp)]
          · have hQ:Yf w=true:=by
              cases hh:Yf w with
              | true=>rfl
              | false=>have:=hQ.2 hh; simp at this
            rw [hQ,Bool.true_and] at hv2
            exact ⟨⟨y.k+1,c.when_.length - (y.k+1),[],[],0,0,0,0⟩,⟨(by dsimp only; omega),hv2,rfl⟩,by show c.when_.length - (y.k+1)+1<=y.r; omega,wr64 (by omega) (by omega),Xq E_ok _⟩
        · rw [Ve (by omega)] at hv2
          have hok:V7 c=true:=by unfold V7; rw [h5,h6,← hv2]; rfl
          rw [if_pos hok] at hv
          clear hv2 hr2 hq2 hk2 hok
          repeat' (first | (refine And.intro ?_ ?_) | (refine ⟨x.m,rfl,hm,?_⟩) | (rintro _ rfl) | (intro h))
          all_goals first
            | omega
            | exact hcb
            | (refine ⟨⟨x.k+1,t.clauses.length - (x.k+1),_,_,putS x.m c.name true⟩,⟨(by dsimp only; omega),Zhr hm hcb,?_,rfl⟩,(by dsimp only; omega),⟨rfl,rfl,wr64 (by omega) (by omega)⟩,rfl,Xq E_ok _⟩
               rw [← hv]
               dsimp only
               congr 1
               · first | (simp only [*,Bool.or_true,Bool.true_or,Bool.false_or,Bool.or_false]; done) | (simp only [*,Bool.or_true,Bool.true_or,Bool.false_or,Bool.or_false]; rfl)
               · first | (simp only [*,Bool.or_true,Bool.true_or,Bool.false_or,Bool.or_false]; done) | (simp only [*,Bool.or_true,Bool.true_or,Bool.false_or,Bool.or_false]; symm; simp only [Bool.or_eq_true,Bool.or_eq_false_iff,decide_eq_true_eq,decide_eq_false_iff_not]; omega))
      · rw [Ve (by omega)] at hv
        rw [← hv]
        unfold goC
        refine And.intro (fun a1=>by rw [if_pos a1]) (fun a1=>And.intro (fun a2=>by rw [if_neg (by rw [a1]; simp),if_pos a2]) (fun a2=>by rw [if_neg (by rw [a1]; simp),if_neg (by rw [a2]; simp)]))
    · rw [decide_eq_false (show ¬ 64<t.clauses.length by omega)]
      refine ⟨fun x=>x.k<=t.clauses.length/\(∀ p∈x.m,Byt p.1)/\goC x.a x.b x.m (t.clauses.drop x.k)=goC (resF t.name) false [] t.clauses/\x.r=t.clauses.length - x.k,⟨⟨0,t.clauses.length,resF t.name,false,[]⟩,⟨(by dsimp only; omega),by simp,rfl,rfl⟩,⟨rfl,rfl,rfl⟩,rfl⟩,?_⟩
      rintro x ⟨hk,hm,hv,hr⟩
      refine And.intro (fun hq=>⟨by omega,by omega,fun c hc=>?_⟩) (fun hq=>?_)
      · have hc:t.clauses[x.k]?=some c:=hc
        rw [Zbb hc,Zhq] at hv
        have hcm:=List.mem_of_getElem? hc
        obtain ⟨hs1,hs2⟩:=hsz c hcm
        have hcb:=hby.2 c hcm
        refine And.intro (fun h5=>?_) (fun h5=>⟨by omega,fun h6=>?_,fun h6=>?_⟩)
        · rw [← hv,if_neg (by unfold V7; rw [h5]; simp)]
        · rw [← hv,if_neg (by unfold V7; rw [h6]; simp)]
        refine ⟨fun y=>y.k<=c.when_.length/\(c.when_.drop y.k).all Yf=c.when_.all Yf/\y.r=c.when_.length - y.k,⟨⟨0,c.when_.length,[],[],0,0,0,0⟩,⟨(by dsimp only; omega),rfl,rfl⟩,rfl,Xq E_ok _⟩,?_⟩
        rintro y ⟨hk2,hv2,hr2⟩
        refine And.intro (fun hq2=>⟨by omega,by omega,fun w hw=>?_⟩) (fun hq2=>?_)
        · have hw:c.when_[y.k]?=some w:=hw
          rw [Zo3 hw] at hv2
          have hT:Yf w=decide (0<=w.attr/\w.attr<16/\0<=w.low/\w.low<=1099511627776/\0<=w.high/\w.high<=1099511627776):=rfl
          refine ⟨fun b=>b=true ↔ Yf w=false,?_,fun hQ=>?_,fun hQ=>?_⟩
          · have q1:(¬ (0<=w.attr/\w.attr<16/\0<=w.low/\w.low<=1099511627776/\0<=w.high/\w.high<=1099511627776))->((true=true) ↔ Yf w=false):=fun h=>by rw [hT,decide_eq_false h]; simp
            have q2:(0<=w.attr/\w.attr<16/\0<=w.low/\w.low<=1099511627776/\0<=w.high/\w.high<=1099511627776)->((false=true) ↔ Yf w=false):=fun h=>by rw [hT,decide_eq_true h]; simp
            refine And.intro (fun a1=>q1 (by omega)) (fun a1=>And.intro (fun a2=>q1 (by omega)) (fun a2=>And.intro (fun a3=>q1 (by omega)) (fun a3=>And.intro (fun a4=>q1 (by omega)) (fun a4=>q2 (by omega)))))
          · have hQ:=hQ.1 rfl
            rw [hQ,Bool.false_and] at hv2
            rw [← hv,if_neg (by unfold V7; rw [← hv2]; simp)]
          · have hQ:Yf w=true:=by
              cases hh:Yf w with
              | true=>rfl
              | false=>have:=hQ.2 hh; simp at this
            rw [hQ,Bool.true_and] at hv2
            exact ⟨⟨y.k+1,c.when_.length - (y.k+1),[],[],0,0,0,0⟩,⟨(by dsimp only; omega),hv2,rfl⟩,by show c.when_.length - (y.k+1)+1<=y.r; omega,wr64 (by omega) (by omega),Xq E_ok _⟩
        · rw [Ve (by omega)] at hv2
          have hok:V7 c=true:=by unfold V7; rw [h5,h6,← hv2]; rfl
          rw [if_pos hok] at hv
          clear hv2 hr2 hq2 hk2 hok
          repeat' (first | (refine And.intro ?_ ?_) | (refine ⟨x.m,rfl,hm,?_⟩) | (rintro _ rfl) | (intro h))
          all_goals first
            | omega
            | exact hcb
            | (refine ⟨⟨x.k+1,t.clauses.length - (x.k+1),_,_,putS x.m c.name true⟩,⟨(by dsimp only; omega),Zhr hm hcb,?_,rfl⟩,(by dsimp only; omega),⟨rfl,rfl,wr64 (by omega) (by omega)⟩,rfl,Xq E_ok _⟩
               rw [← hv]
               dsimp only
               congr 1
               · first | (simp only [*,Bool.or_true,Bool.true_or,Bool.false_or,Bool.or_false]; done) | (simp only [*,Bool.or_true,Bool.true_or,Bool.false_or,Bool.or_false]; rfl)
               · first | (simp only [*,Bool.or_true,Bool.true_or,Bool.false_or,Bool.or_false]; done) | (simp only [*,Bool.or_true,Bool.true_or,Bool.false_or,Bool.or_false]; symm; simp only [Bool.or_eq_true,Bool.or_eq_false_iff,decide_eq_true_eq,decide_eq_false_iff_not]; omega))
      · rw [Ve (by omega)] at hv
        rw [← hv]
        unfold goC
        refine And.intro (fun a1=>by rw [if_pos a1]) (fun a1=>And.intro (fun a2=>by rw [if_neg (by rw [a1]; simp),if_pos a2]) (fun a2=>by rw [if_neg (by rw [a1]; simp),if_neg (by rw [a2]; simp)]))
end
section
open Go
def dCl:Dc E Cls:=(dR .clauses:Dc E (thy.dom Th.clauses))
def dCls:Dc E (List Cls):=(Zli (E:=E) Th.clauses:Dc E (List (thy.dom Th.clauses)))
def Z55:Sum thy:=sumM (mI (dA1 dN) (n1 fun _=>rfl) dTs (fun _=>rfl)) (fun _ _=>True) fun x a=>Zaf a.1 x.1 x.2.1
theorem Zyv:SumOk E 133 Z55:=Y9 E_ok (Zb rfl) fun x a _=>Zy8 x.1 x.2.1 a.1
def Aif:Fr thy->Hp thy->Nat->Ann thy:=fun T h i=>{X:=LX,fr:=fun x=> [(0,T 0),(1,T 1),(7,T 7),(8,.int false .i64 x.k)],bl:=fun x=>(match T 1 with| .fn _ _ [v]=>blkP h v|_=> []),src:=fun _=> [],md:= [],ih:=i,M:=i+30,meas:=fun x=>x.r}
structure TX where
 ts:List Tst
 l:List Tok
 ed:Int
 more:Bool
 k:Nat
def cellsOf (h:Hp thy) (v:SV thy):List (SV thy):=match h (bOf v) with|some (.raw cs _ _)=>cs|_=> []
def Atl:Fr thy->Hp thy->Nat->Ann thy:=fun T h i=>{X:=Bool×TX,fr:=fun x=> [(0,T 0),(4,T 4),(5,T 5),(6,T 6),(7,.bool false x.2.more)],bl:=fun x=>(bOf (T 0),.raw [.psl Th.toks x.2.l false,.int false .i64 x.2.ed] 0 none)::(bOf (T 6),.raw ((cellsOf h (T 6)).take 1++((match x.1 with|true=> .sl i 0 x.2.ts.length 3 none|false=> .val (.slice none 0 0))::(cellsOf h (T 6)).drop 2)) 0 none)::((match x.1 with|true=> [(i,.rows Th.tests x.2.ts 0)]|false=> [])++blkP h (T 4)),src:=fun x=>(match x.1 with|true=> [(i,2006)]|false=> []),md:= [bOf (T 0),bOf (T 6)],ih:=i+1,M:=i+60,meas:=fun x=>x.2.k,ex:=ex2,al:=al2,exOk:=Zi9,alOk:=Zja}
def Fcl:Fns thy:=addL (addL (addS (addS (addS (addS Fme 88 Zy4) 133 Z55) 134 Sx) 31 Zhp) 166 2 Aif E) 90 6 Atl E
theorem Z56:FnsOk E Fcl:=Zt E_ok (Zt E_ok (Zc (Zc (Zc (Zc Zdu Zod) Zyv) Z8v) Zeh) _ _ _) _ _ _
def pTs:Nat->Bool->List Tst->List Tok->Int->PR (List Tst)
 |0,_,ts,l,e=> .ok (ts,l,e,())
 |k+1,more,ts,l,e=>
  if more then
   match Zaf ts.length l e with
   | .error er=> .error er
   | .ok (t,x)=>pTs k (isW [97,110,100] x.1) (ts++ [t]) (if isW [97,110,100] x.1 then x.1.tail else x.1) x.2.1
  else .ok (ts,l,e,())
def pPay (nm:List Nat) (ts:List Tst) (l:List Tok) (e:Int):PR Cls:=
 if isW [112,97,121] l then
  match pX l.tail e with
  | .error er=> .error er
  | .ok (x,y)=>
   if 24<Xa x then .error (hdT e l.tail,2)
   else if isW [59] y.1 then .ok (⟨nm,ts,x⟩,y.1.tail,y.2.1,()) else .error (hdT y.2.1 y.1,160)
 else .error (hdT e l,160)
def pAft (nm:List Nat) (r:PR (List Tst)):PR Cls:=
 match r with
 | .error er=> .error er
 | .ok (ts,y)=>pPay nm ts y.1 y.2.1
def Xg (bs:List Cls) (l:List Tok) (e:Int):PR Cls:=
 match Zdj l e with
 | .error er=> .error er
 | .ok (nm,x)=>
  if bs.any (fun b=>b.name==nm) then .error (hdT e l,161)
  else pAft nm (pTs 10 (isW [119,104,101,110] x.1) [] (if isW [119,104,101,110] x.1 then x.1.tail else x.1) x.2.1)
theorem Zdl {l:List Tok} {e:Int} {y:List Nat} {x:PX} (h:Zdj l e= .ok (y,x)):x.1.length<l.length:=by
 unfold Zdj at h
 split at h
 · cases h
 · split at h
   · split at h
     · cases h
     · injection h with h
       injection h with _ h
       subst h
       exact Nat.lt_succ_self _
   · cases h
theorem Zg0 {l:List Tok} {e:Int} {y:Int} {x:PX} (h:pInt l e= .ok (y,x)):x.1.length<l.length:=by
 unfold pInt at h
 split at h
 · cases h
 · split at h
   · injection h with h
     injection h with _ h
     subst h
     exact Nat.lt_succ_self _
   · cases h
theorem Zud {s:List Nat} {l:List Tok}:(if isW s l=true then l.tail else l).length<=l.length:=by
 split
 · have:=Zx (by assumption);omega
 · exact Nat.le_refl _
theorem Zdm {n:Int} {l:List Tok} {e:Int} {y:Tst} {x:PX} (h:Zaf n l e= .ok (y,x)):x.1.length<l.length/\n≠8:=by
 unfold Zaf at h
 split at h
 · cases h
 · rename_i a x0 hm
   obtain ⟨h1,_,rfl⟩:=Za6 hm
   have hp:=Zac h1
   split at h
   · cases h
   · rename_i hn
     refine ⟨?_,hn⟩
     split at h
     · rename_i hw
       have hw:=Zx hw
       split at h
       · cases h
       · rename_i m x1 hi
         have hi:=Zg0 hi
         injection h with h
         injection h with _ h
         subst h
         have hw:l.tail.tail.length+1=l.tail.length:=hw
         have hi:x1.1.length<l.tail.tail.length:=hi
         omega
     · split at h
       · rename_i hw
         have hw:=Zx hw
         split at h
         · cases h
         · rename_i m x1 hi
           have hi:=Zg0 hi
           have hw:l.tail.tail.length+1=l.tail.length:=hw
           have hi:x1.1.length<l.tail.tail.length:=hi
           split at h
           · rename_i hw2
             have hw2:=Zx hw2
             split at h
             · cases h
             · rename_i k x2 hi2
               have hi2:=Zg0 hi2
               injection h with h
               injection h with _ h
               subst h
               omega
           · cases h
       · cases h
abbrev qBTc (a0:TX) (b0:PR Cls):=(isW [(112:Nat),(97:Nat),(121:Nat)] (TX.l a0)=false->b0=Except.error (hdT (TX.ed a0) (TX.l a0),(160:Int)))
abbrev qBT6:=(0:Nat)
abbrev qBTi (a0:TX):=(List.tail (TX.l a0))
abbrev qBT7:=(0:Int)
abbrev qBT3 (a0:List Nat):=(a0=a0/\Value.slice none qBT6 qBT6=Value.slice none qBT6 qBT6/\qBT7=qBT7/\qBT7=qBT7/\qBT7=qBT7/\qBT7=qBT7/\qBT7=qBT7/\qBT7=qBT7/\Value.slice none qBT6 qBT6=Value.slice none qBT6 qBT6/\True)
abbrev qBT2:=(([]:List Nat)= []/\Value.slice none qBT6 qBT6=Value.slice none qBT6 qBT6/\qBT7=qBT7/\qBT7=qBT7/\qBT7=qBT7/\qBT7=qBT7/\qBT7=qBT7/\qBT7=qBT7/\Value.slice none qBT6 qBT6=Value.slice none qBT6 qBT6/\True)
abbrev qBT9 (a0:Int) (b0:Bool) (c0:TX):=(qBT6=qBT6/\qBT6=qBT6/\a0=a0/\qBT6=qBT6/\b0=TX.more c0/\True)
abbrev qBTh:=(false=true->false=true)
abbrev qBT8 (a0:PX) (b0:TX):=((Prod.fst a0=TX.l b0/\qBTh)/\Prod.fst (Prod.snd a0)=TX.ed b0/\True)
abbrev qBT5 (a0:Bool×TX->Prop) (b0:TX) (c0:Int) (d0:Bool) (e0:PX) (f0:List Nat):=(∃(y_6:TX),a0 (false,y_6)/\y_6.5+(1:Nat)<=b0.5/\true=true/\(qBT9 c0 d0 y_6)/\(qBT8 e0 y_6)/\(f0=f0/\False/\qBT7=qBT7/\qBT7=qBT7/\qBT7=qBT7/\qBT7=qBT7/\qBT7=qBT7/\qBT7=qBT7/\Value.slice none qBT6 qBT6=Value.slice none qBT6 qBT6/\True)/\qBT2/\True)
abbrev qBTa (a0:PX):=(Prod.fst (Prod.snd a0))
abbrev qBT4 (a0:Ex):=(Ex.mk (Ex.op a0) (Ex.n a0) (Ex.d0 a0) (Ex.d1 a0) (Ex.d2 a0) (Ex.d3 a0) (Ex.l a0))
abbrev qBTg (a0:PX) (b0:PR Cls):=(isW [(59:Nat)] (Prod.fst a0)=false->b0=Except.error (hdT (qBTa a0) (Prod.fst a0),(160:Int)))
abbrev qBTb (a0:Ex):=((↑(Xa (qBT4 a0)):Int)>(24:Int))
abbrev qBT1 (a0:PX) (b0:Int) (c0:List Nat) (d0:PR Cls):=(∀(y_2:Bool) (x'_1:PX),pAcc [(119:Nat),(104:Nat),(101:Nat),(110:Nat)] (Prod.fst a0) (qBTa a0)=Except.ok (y_2,x'_1)->∃(R:Bool×TX->Prop),((∃(y_3:TX),R (false,y_3)/\true=true/\(qBT9 b0 y_2 y_3)/\(qBT8 x'_1 y_3)/\(qBT3 c0)/\qBT2/\True)\/∃(b0:TX),R (true,b0)/\true=true/\False)/\(∀(y_3:TX),R (false,y_3)->(TX.more y_3=true->True/\(∀(y_4:Tst) (a0:PX),Zaf qBT7 (TX.l y_3) (TX.ed y_3)=Except.ok (y_4,a0)->True/\(∀(y_5:Bool) (x'_2:PX),pAcc [(97:Nat),(110:Nat),(100:Nat)] (Prod.fst a0) (qBTa a0)=Except.ok (y_5,x'_2)->(qBT5 R y_3 b0 y_5 x'_2 c0)\/∃(y_6:TX),R (true,y_6)/\y_6.5+(1:Nat)<=y_3.5/\true=true/\(qBT9 b0 y_5 y_6)/\(qBT8 x'_2 y_6)/\(c0=c0/\(qBT6=qBT6/\(1:Nat)=List.length (TX.ts y_6)/\True)/\qBT7=qBT7/\qBT7=qBT7/\qBT7=qBT7/\qBT7=qBT7/\qBT7=qBT7/\qBT7=qBT7/\Value.slice none qBT6 qBT6=Value.slice none qBT6 qBT6/\True)/\([y_4]=TX.ts y_6/\qBT6=qBT6)/\qBT2/\True)/\∀(e:Int×Int),pAcc [(97:Nat),(110:Nat),(100:Nat)] (Prod.fst a0) (qBTa a0)=Except.error e->d0=Except.error e)/\∀(e:Int×Int),Zaf qBT7 (TX.l y_3) (TX.ed y_3)=Except.error e->d0=Except.error e)/\(TX.more y_3=false->(isW [(112:Nat),(97:Nat),(121:Nat)] (TX.l y_3)=true->∀(b0:Int),b0=hdT (TX.ed y_3) (qBTi y_3)->True/\(∀(y_4:Ex) (a0:PX),pX (qBTi y_3) (TX.ed y_3)=Except.ok (y_4,a0)->Ex.sz (qBT4 y_4)+(1:Nat)<=(1000000000000:Nat)/\(decide (qBTb y_4)=true->d0=Except.error (b0,(2:Int)))/\(decide (qBTb y_4)=false->(isW [(59:Nat)] (Prod.fst a0)=true->d0=Except.ok (Cls.mk c0 [] (qBT4 y_4),List.tail (Prod.fst a0),Prod.fst (Prod.snd a0),()))/\(qBTg a0 d0)))/\∀(e:Int×Int),pX (qBTi y_3) (TX.ed y_3)=Except.error e->d0=Except.error e)/\(qBTc y_3 d0)))/\∀(y_3:TX),R (true,y_3)->(TX.more y_3=true->True/\(∀(y_4:Tst) (a0:PX),Zaf (↑(List.length (TX.ts y_3)):Int) (TX.l y_3) (TX.ed y_3)=Except.ok (y_4,a0)->(List.length (TX.ts y_3)<=List.length (TX.ts y_3)/\qBT6<=List.length (TX.ts y_3)/\(List.length (TX.ts y_3)+(1:Nat))*(24:Nat)<=(140737488355328:Nat))/\True/\(∀(y_5:Bool) (x'_2:PX),pAcc [(97:Nat),(110:Nat),(100:Nat)] (Prod.fst a0) (qBTa a0)=Except.ok (y_5,x'_2)->(qBT5 R y_3 b0 y_5 x'_2 c0)\/∃(y_6:TX),R (true,y_6)/\y_6.5+(1:Nat)<=y_3.5/\true=true/\(qBT9 b0 y_5 y_6)/\(qBT8 x'_2 y_6)/\(c0=c0/\(qBT6=qBT6/\List.length (TX.ts y_3)+(1:Nat)=List.length (TX.ts y_6)/\True)/\qBT7=qBT7/\qBT7=qBT7/\qBT7=qBT7/\qBT7=qBT7/\qBT7=qBT7/\qBT7=qBT7/\Value.slice none qBT6 qBT6=Value.slice none qBT6 qBT6/\True)/\(List.take (List.length (TX.ts y_3)) (TX.ts y_3)++ [y_4]=TX.ts y_6/\qBT6=qBT6)/\qBT2/\True)/\∀(e:Int×Int),pAcc [(97:Nat),(110:Nat),(100:Nat)] (Prod.fst a0) (qBTa a0)=Except.error e->d0=Except.error e)/\∀(e:Int×Int),Zaf (↑(List.length (TX.ts y_3)):Int) (TX.l y_3) (TX.ed y_3)=Except.error e->d0=Except.error e)/\(TX.more y_3=false->(isW [(112:Nat),(97:Nat),(121:Nat)] (TX.l y_3)=true->∀(b0:Int),b0=hdT (TX.ed y_3) (qBTi y_3)->True/\(∀(y_4:Ex) (a0:PX),pX (qBTi y_3) (TX.ed y_3)=Except.ok (y_4,a0)->Ex.sz (qBT4 y_4)+(1:Nat)<=(1000000000000:Nat)/\(decide (qBTb y_4)=true->d0=Except.error (b0,(2:Int)))/\(decide (qBTb y_4)=false->(isW [(59:Nat)] (Prod.fst a0)=true->qBT6+List.length (TX.ts y_3)<=List.length (TX.ts y_3)/\d0=Except.ok (Cls.mk c0 (List.take (List.length (TX.ts y_3)) (List.drop qBT6 (TX.ts y_3))) (qBT4 y_4),List.tail (Prod.fst a0),Prod.fst (Prod.snd a0),()))/\(qBTg a0 d0)))/\∀(e:Int×Int),pX (qBTi y_3) (TX.ed y_3)=Except.error e->d0=Except.error e)/\(qBTc y_3 d0)))
abbrev qBTd (a0:List Cls):=(↑(List.length a0):Int)
abbrev qBTe:=(Fn.func (132:Nat)=Fn.func (132:Nat)/\True/\qBT6=qBT6/\True)
abbrev qBTf (a0:LX):=(↑(LX.k a0):Int)
theorem Zlx (l:List Tok) (e:Int) (bs:List Cls) (out:PR Cls):Zi E Fcl (vc E Fcl 400) 90 [.ptr 0 0,.psl Th.clauses bs false] (one [.psl Th.toks l false,.int false .i64 e]) 1 (mK (dA1 dCls) (n1 fun _=>rfl) dCl (fun _=>rfl) l e out)=(
 ∀(y:Int),y=hdT e l->True/\(∀(y_1:List Nat) (x':PX),Zdj l e=Except.ok (y_1,x')->∃(R:LX->Prop),(∃(x:LX),R x/\true=true/\((bs=bs/\qBTh)/\qBTe/\(qBTd bs)=(qBTd bs)/\qBT7=(qBTf x)/\True)/\(qBT3 y_1)/\True)/\∀(x:LX),R x->(decide ((qBTf x)<(qBTd bs))=true->qBT7<=(qBTf x)/\(qBTf x)+(1:Int)<=(qBTd bs)/\∀(x_1:Cls),bs[Int.toNat (qBTf x)]? =some x_1->((Cls.name x_1==y_1)=true->(decide ((qBTf x)>=qBT7)=true->out=Except.error (y,(161:Int)))/\(decide ((qBTf x)>=qBT7)=false->True/\(qBT1 x' y y_1 out)/\∀(e:Int×Int),pAcc [(119:Nat),(104:Nat),(101:Nat),(110:Nat)] (Prod.fst x') (qBTa x')=Except.error e->out=Except.error e))/\((Cls.name x_1==y_1)=false->∃(x_2:LX),R x_2/\x_2.2+(1:Nat)<=x.2/\true=true/\((bs=bs/\qBTh)/\qBTe/\(qBTd bs)=(qBTd bs)/\wr IntKind.i64 ((qBTf x)+(1:Int))=(qBTf x_2)/\True)/\(qBT3 y_1)/\True))/\(decide ((qBTf x)<(qBTd bs))=false->True/\(qBT1 x' y y_1 out)/\∀(e:Int×Int),pAcc [(119:Nat),(104:Nat),(101:Nat),(110:Nat)] (Prod.fst x') (qBTa x')=Except.error e->out=Except.error e))/\∀(e_1:Int×Int),Zdj l e=Except.error e_1->out=Except.error e_1):=by kernel_rfl
theorem Zql (bs:List Cls) (l:List Tok) (e:Int) (hl:l.length<1000000000) (hb:bs.length<=1000000000):We (mI (dA1 dCls) (n1 fun _=>rfl) dCl (fun _=>rfl)) 90 (l,e,()) (bs,()) (Xg bs l e):=by
 refine Vm Z56 (n:=400) (a:=(bs,())) ?_
 rw [show (dA1 dCls).enc (bs,())= [.psl Th.clauses bs false] from rfl,Zlx];delta qBTc qBT6 qBTi qBT7 qBT3 qBT2 qBT9 qBTh qBT8 qBT5 qBTa qBT4 qBTg qBTb qBT1 qBTd qBTe qBTf
 intro y0 hy0
 subst hy0
 refine ⟨trivial,fun nm x h1=> ?_,fun er h1=>by simp [Xg,h1]⟩
 have hx:=Zdl h1
 refine ⟨fun z=>z.k<=bs.length/\(bs.drop z.k).any (fun b=>b.name==nm)=bs.any (fun b=>b.name==nm)/\z.r=bs.length-z.k,⟨⟨0,bs.length,[],0⟩,⟨(by dsimp only;omega),rfl,rfl⟩,by simp⟩,?_⟩
 rintro z ⟨hk,hv,hr⟩
 refine ⟨fun hq=> ?_,fun hq=>⟨trivial,fun more x1 h2=> ?_,fun er h2=>by cases h2⟩⟩
 · have hq:(z.k:Int)<bs.length:=by simpa using hq
   refine ⟨by omega,by omega,fun c hc=> ?_⟩
   have hc:bs[z.k]? =some c:=hc
   have hlt:=(gA9.1 hc).1
   have hce:bs[z.k]=c:=(gA9.1 hc).2
   rw [List.drop_eq_getElem_cons hlt,hce,List.any_cons] at hv
   refine ⟨fun hn=>⟨fun _=> ?_,fun hneg=>absurd hneg (by rw [decide_eq_false_iff_not];omega)⟩,fun hn=> ?_⟩
   · rw [hn,Bool.true_or] at hv
     simp [Xg,h1,<-hv]
   · rw [hn,Bool.false_or] at hv
     exact ⟨⟨z.k+1,bs.length-(z.k+1),[],0⟩,⟨(by dsimp only;omega),hv,rfl⟩,(by show bs.length-(z.k+1)+1<=z.r;omega),rfl,⟨⟨rfl,fun h=>h⟩,⟨rfl,trivial,rfl,trivial⟩,rfl,wr64 (by omega) (by omega),trivial⟩,⟨rfl,rfl,rfl,rfl,rfl,rfl,rfl,rfl,rfl,trivial⟩,trivial⟩
 · have hq:¬(z.k:Int)<bs.length:=by simpa using hq
   rw [List.drop_eq_nil_of_le (by omega),List.any_nil] at hv
   unfold pAcc at h2
   injection h2 with h2
   injection h2 with e1 e2
   subst e1;subst e2
   have hout:Xg bs l e=pAft nm (pTs 10 (isW [119,104,101,110] x.1) [] (if isW [119,104,101,110] x.1 then x.1.tail else x.1) x.2.1):=by simp [Xg,h1,<-hv]
   rw [hout]
   clear hv hk hr hq
   have hif:=Zud (s:= [119,104,101,110]) (l:=x.1)
   generalize hO:pAft nm (pTs 10 (isW [119,104,101,110] x.1) [] (if isW [119,104,101,110] x.1 then x.1.tail else x.1) x.2.1)=OUT at hout⊢
   refine ⟨fun p=>pAft nm (pTs p.2.k p.2.more p.2.ts p.2.l p.2.ed)=OUT/\p.2.ts.length+p.2.k=10/\p.2.ts.length<=8/\p.2.l.length<1000000000/\(p.1=false->p.2.ts= []),.inl ⟨⟨[],if isW [119,104,101,110] x.1 then x.1.tail else x.1,x.2.1,isW [119,104,101,110] x.1,10⟩,⟨hO,rfl,Nat.zero_le _,(by dsimp only;omega),fun _=>rfl⟩,by simp⟩,?_,?_⟩
   · rintro ⟨ts,l1,ed,more,k⟩ ⟨hR,hk,h8,hl1,hts⟩
     have hts:ts= []:=hts rfl
     subst hts
     have hk:k=10:=by simpa using hk
     subst hk
     have hR:pAft nm (pTs 10 more [] l1 ed)=OUT:=hR
     have hl1':l1.length<1000000000:=hl1
     clear hl1
     have hl1:=hl1'
     clear hl1'
     rw [<-hR]
     clear hR hout hO
     refine ⟨fun hm=>⟨trivial,fun t x2 h3=>⟨trivial,fun m2 x3 h4=> ?_,fun er h4=>by cases h4⟩,fun er h3=> ?_⟩,fun hm=> ?_⟩
     · have hm':more=true:=hm
       have h3':Zaf 0 l1 ed= .ok (t,x2):=h3
       clear hm h3
       subst hm'
       unfold pAcc at h4
       injection h4 with h4
       injection h4 with e1 e2
       subst e1;subst e2
       have hq:=Zdm h3'
       have hi2:=Zud (s:= [97,110,100]) (l:=x2.1)
       refine .inr ⟨⟨[t],if isW [97,110,100] x2.1 then x2.1.tail else x2.1,x2.2.1,isW [97,110,100] x2.1,9⟩,⟨by simp [pTs,h3'],rfl,(by show 1<=8;omega),(by dsimp only;omega),fun h=>by cases h⟩,Nat.le_refl _,by simp⟩
     · have hm':more=true:=hm
       have h3':Zaf 0 l1 ed= .error er:=h3
       clear hm h3
       subst hm'
       simp [pTs,pAft,h3']
     · have hm':more=false:=hm
       clear hm
       subst hm'
       revert hl1
       dsimp only
       intro hl1
       refine ⟨fun w y hy=>⟨trivial,fun ex x4 h5=> ?_,fun er h5=>by simp [pTs,pAft,pPay,w,h5]⟩,fun w=>by simp [pTs,pAft,pPay,w]⟩
       subst hy
       have hs:=Zxi _ _ _ _ h5
       have hw:=Zx w
       rw [Ex.eta]
       refine ⟨by omega,fun hn=> ?_,fun hn=>⟨fun w2=> ?_,fun w2=> ?_⟩⟩
       · have hn:(24:Int)<Xa ex:=by simpa using hn
         have hn:24<Xa ex:=by omega
         simp [pTs,pAft,pPay,w,h5,hn]
       · have hn:(Xa ex:Int)<=24:=by simpa using hn
         have hn:¬24<Xa ex:=by omega
         simp [pTs,pAft,pPay,w,h5,hn,w2]
       · have hn:(Xa ex:Int)<=24:=by simpa using hn
         have hn:¬24<Xa ex:=by omega
         simp [pTs,pAft,pPay,w,h5,hn,w2]
   · rintro ⟨ts,l1,ed,more,k⟩ ⟨hR,hk,h8,hl1,_⟩
     have hk:ts.length+k=10:=hk
     have h8:ts.length<=8:=h8
     have hR:pAft nm (pTs k more ts l1 ed)=OUT:=hR
     have hl1':l1.length<1000000000:=hl1
     clear hl1
     have hl1:=hl1'
     clear hl1'
     rw [<-hR]
     clear hR hout hO
     obtain ⟨k,rfl⟩:∃k',k=k'+1:=⟨k-1,by omega⟩
     refine ⟨fun hm=>⟨trivial,fun t x2 h3=>⟨⟨Nat.le_refl _,Nat.zero_le _,(by dsimp only;omega)⟩,trivial,fun m2 x3 h4=> ?_,fun er h4=>by cases h4⟩,fun er h3=> ?_⟩,fun hm=> ?_⟩
     · have hm':more=true:=hm
       have h3':Zaf ts.length l1 ed= .ok (t,x2):=h3
       clear hm h3
       subst hm'
       unfold pAcc at h4
       injection h4 with h4
       injection h4 with e1 e2
       subst e1;subst e2
       have hq:=Zdm h3'
       have hi2:=Zud (s:= [97,110,100]) (l:=x2.1)
       refine .inr ⟨⟨ts++ [t],if isW [97,110,100] x2.1 then x2.1.tail else x2.1,x2.2.1,isW [97,110,100] x2.1,k⟩,⟨by simp [pTs,h3'],(by simp;omega),(by simp;omega),(by dsimp only;omega),fun h=>by cases h⟩,Nat.le_refl _,by simp⟩
     · have hm':more=true:=hm
       have h3':Zaf ts.length l1 ed= .error er:=h3
       clear hm h3
       subst hm'
       simp [pTs,pAft,h3']
     · have hm':more=false:=hm
       clear hm
       subst hm'
       revert hl1
       dsimp only
       intro hl1
       refine ⟨fun w y hy=>⟨trivial,fun ex x4 h5=> ?_,fun er h5=>by simp [pTs,pAft,pPay,w,h5]⟩,fun w=>by simp [pTs,pAft,pPay,w]⟩
       subst hy
       have hs:=Zxi _ _ _ _ h5
       have hw:=Zx w
       rw [Ex.eta]
       refine ⟨by omega,fun hn=> ?_,fun hn=>⟨fun w2=> ?_,fun w2=> ?_⟩⟩
       · have hn:(24:Int)<Xa ex:=by simpa using hn
         have hn:24<Xa ex:=by omega
         simp [pTs,pAft,pPay,w,h5,hn]
       · have hn:(Xa ex:Int)<=24:=by simpa using hn
         have hn:¬24<Xa ex:=by omega
         exact ⟨by omega,by simp [pTs,pAft,pPay,w,h5,hn,w2]⟩
       · have hn:(Xa ex:Int)<=24:=by simpa using hn
         have hn:¬24<Xa ex:=by omega
         simp [pTs,pAft,pPay,w,h5,hn,w2]
end
section
open Go
def isL (n:Int):Bool:=decide (97<=n)&&decide (n<=122)
def isD (n:Int):Bool:=decide (48<=n)&&decide (n<=57)
def isLD (n:Int):Bool:=isL n||isD n
def dU8:Dc E Int:=dInt .u8
theorem Zne (n:Int) (v:Bool):Zi E F0 (vc E F0 400) 159 [.int false .u8 n] hp0 0 (fun r=>ret E (patch hp0 0 r) r.v (.bool false v))=(
(decide ((97:Int)<=n)=true->(decide (n<=(122:Int))=true->true=v)/\(decide (n<=(122:Int))=false->false=v))/\(decide ((97:Int)<=n)=false->false=v)):=by kernel_rfl
theorem Znf (n:Int):PureC E 159 [.int false .u8 n] (.bool false (isL n)):=by
 refine Za E_ok (Ze E_ok F0_ok 400) ?_
 rw [Zne]
 unfold isL
 refine ⟨fun h=>⟨fun h2=> ?_,fun h2=> ?_⟩,fun h=> ?_⟩
 · rw [h,h2];rfl
 · rw [h,h2];rfl
 · rw [h];rfl
theorem Zsw (n:Int) (v:Bool):Zi E F0 (vc E F0 400) 162 [.int false .u8 n] hp0 0 (fun r=>ret E (patch hp0 0 r) r.v (.bool false v))=(
(decide ((48:Int)<=n)=true->(decide (n<=(57:Int))=true->true=v)/\(decide (n<=(57:Int))=false->false=v))/\(decide ((48:Int)<=n)=false->false=v)):=by kernel_rfl
theorem Zsx (n:Int):PureC E 162 [.int false .u8 n] (.bool false (isD n)):=by
 refine Za E_ok (Ze E_ok F0_ok 400) ?_
 rw [Zsw]
 unfold isD
 refine ⟨fun h=>⟨fun h2=> ?_,fun h2=> ?_⟩,fun h=> ?_⟩
 · rw [h,h2];rfl
 · rw [h,h2];rfl
 · rw [h];rfl
def Zw5:Sum thy:=sumP (dA1 dU8) (fun _=>True) fun x=> .bool false (isL x.1)
def Z2j:Sum thy:=sumP (dA1 dU8) (fun _=>True) fun x=> .bool false (isD x.1)
theorem Zsy:SumOk E 159 Zw5:=Zs E_ok (Zb (f:=159) rfl) fun x _=>Znf x.1
theorem Zw6:SumOk E 162 Z2j:=Zs E_ok (Zb (f:=162) rfl) fun x _=>Zsx x.1
def Flx:Fns thy:=addS (addS F0 159 Zw5) 162 Z2j
theorem Zw7:FnsOk E Flx:=Zc (Zc F0_ok Zsy) Zw6
theorem Zw8 (n:Int) (v:Bool):Zi E Flx (vc E Flx 400) 161 [.int false .u8 n] hp0 0 (fun r=>ret E (patch hp0 0 r) r.v (.bool false v))=(
True/\(isL n=true->true=v)/\(isL n=false->True/\isD n=v)):=by kernel_rfl
theorem Zw9 (n:Int):PureC E 161 [.int false .u8 n] (.bool false (isLD n)):=by
 refine Za E_ok (Ze E_ok Zw7 400) ?_
 rw [Zw8]
 unfold isLD
 refine ⟨trivial,fun h=> ?_,fun h=>⟨trivial,?_⟩⟩
 · rw [h];rfl
 · rw [h];rfl
def Z7h:Sum thy:=sumP (dA1 dU8) (fun _=>True) fun x=> .bool false (isLD x.1)
theorem Z1d:SumOk E 161 Z7h:=Zs E_ok (Zb (f:=161) rfl) fun x _=>Zw9 x.1
def Asp:Fr thy->Hp thy->Nat->Ann thy:=fun T h i=>{X:=LX,fr:=fun x=> [(0,T 0),(1,T 1),(7,T 7),(8,.int false .i64 x.k)],bl:=fun x=> [],src:=fun _=> [],md:= [],ih:=i,M:=i+30,meas:=fun x=>x.r}
def Zxa:Fns thy:=addL (addS Flx 161 Z7h) 160 2 Asp E
theorem Zpo:FnsOk E Zxa:=Zt E_ok (Zc Zw7 Z1d) _ _ _
def spn (f:Int->Bool):List Nat->Nat
 | []=>0
 |c::r=>if f c then spn f r+1 else 0
theorem Zcy {f:Int->Bool} {s:List Nat} {k c:Nat} (h:s[k]? =some c):spn f (s.drop k)=if f c then spn f (s.drop (k+1))+1 else 0:=by
 have hlt:=(gA9.1 h).1
 have hc:s[k]=c:=(gA9.1 h).2
 rw [List.drop_eq_getElem_cons hlt,hc];rfl
theorem Zkz {f:Int->Bool}:∀{s:List Nat},spn f s<=s.length
 | []=>Nat.le_refl _
 |c::r=>by
  unfold spn
  have:=Zkz (f:=f) (s:=r)
  split
  · simp;omega
  · exact Nat.zero_le _
theorem Zsz (s:List Nat) (v:Int):Zi E Zxa (vc E Zxa 400) 160 [.str false s,.fn (.func 161) [] []] hp0 0 (fun r=>ret E (patch hp0 0 r) r.v (.int false .i64 v))=(
∃(R:LX->Prop),(∃(x:LX),R x/\true=true/\(s=s/\(Fn.func (161:FuncId)=Fn.func (161:FuncId)/\True/\True)/\(↑(List.length s):Int)=(↑(List.length s):Int)/\(0:Int)=(↑(LX.k x):Int)/\True)/\True)/\∀(x:LX),R x->(decide ((↑(LX.k x):Int)<(↑(List.length s):Int))=true->(0:Int)<=(↑(LX.k x):Int)/\(↑(LX.k x):Int)+(1:Int)<=(↑(List.length s):Int)/\∀(x_1:Nat),s[Int.toNat (↑(LX.k x):Int)]? =some x_1->True/\((!isLD (↑x_1:Int))=true->(↑(LX.k x):Int)=v)/\((!isLD (↑x_1:Int))=false->∃(x_2:LX),R x_2/\x_2.2+(1:Nat)<=x.2/\true=true/\(s=s/\(Fn.func (161:FuncId)=Fn.func (161:FuncId)/\True/\True)/\(↑(List.length s):Int)=(↑(List.length s):Int)/\wr IntKind.i64 ((↑(LX.k x):Int)+(1:Int))=(↑(LX.k x_2):Int)/\True)/\True))/\(decide ((↑(LX.k x):Int)<(↑(List.length s):Int))=false->(↑(List.length s):Int)=v)):=by kernel_rfl
theorem Zs0 (s:List Nat) (hs:s.length<=1000000000):PureC E 160 [.str false s,.fn (.func 161) [] []] (.int false .i64 (spn isLD s)):=by
 refine Za E_ok (Ze E_ok Zpo 400) ?_
 rw [Zsz]
 refine ⟨fun x=>x.k<=s.length/\x.k+spn isLD (s.drop x.k)=spn isLD s/\x.r=s.length-x.k,⟨⟨0,s.length,[],0⟩,⟨(by dsimp only;omega),by simp,rfl⟩,by simp⟩,?_⟩
 rintro x ⟨hk,hv,hr⟩
 refine ⟨fun hq=> ?_,fun hq=> ?_⟩
 · have hq:(x.k:Int)<s.length:=by simpa using hq
   refine ⟨by omega,by omega,fun c hc=>⟨trivial,fun hn=> ?_,fun hn=> ?_⟩⟩
   · have hc:s[x.k]? =some c:=hc
     rw [Zcy hc] at hv
     have hn:isLD c=false:=by simpa using hn
     rw [hn] at hv
     simp at hv
     rw [<-hv]
   · have hc:s[x.k]? =some c:=hc
     rw [Zcy hc] at hv
     have hn:isLD c=true:=by simpa using hn
     rw [hn,if_pos rfl] at hv
     exact ⟨⟨x.k+1,s.length-(x.k+1),[],0⟩,⟨(by dsimp only;omega),(by dsimp only;omega),rfl⟩,(by show s.length-(x.k+1)+1<=x.r;omega),rfl,⟨rfl,⟨rfl,trivial,trivial⟩,rfl,wr64 (by omega) (by omega),trivial⟩,trivial⟩
 · have hq:¬(x.k:Int)<s.length:=by simpa using hq
   rw [List.drop_eq_nil_of_le (by omega)] at hv
   have:x.k=spn isLD s:=by simpa [spn] using hv
   omega
theorem Zs1 (s:List Nat) (v:Int):Zi E Zxa (vc E Zxa 400) 160 [.str false s,.fn (.func 162) [] []] hp0 0 (fun r=>ret E (patch hp0 0 r) r.v (.int false .i64 v))=(
∃(R:LX->Prop),(∃(x:LX),R x/\true=true/\(s=s/\(Fn.func (162:FuncId)=Fn.func (162:FuncId)/\True/\True)/\(↑(List.length s):Int)=(↑(List.length s):Int)/\(0:Int)=(↑(LX.k x):Int)/\True)/\True)/\∀(x:LX),R x->(decide ((↑(LX.k x):Int)<(↑(List.length s):Int))=true->(0:Int)<=(↑(LX.k x):Int)/\(↑(LX.k x):Int)+(1:Int)<=(↑(List.length s):Int)/\∀(x_1:Nat),s[Int.toNat (↑(LX.k x):Int)]? =some x_1->True/\((!isD (↑x_1:Int))=true->(↑(LX.k x):Int)=v)/\((!isD (↑x_1:Int))=false->∃(x_2:LX),R x_2/\x_2.2+(1:Nat)<=x.2/\true=true/\(s=s/\(Fn.func (162:FuncId)=Fn.func (162:FuncId)/\True/\True)/\(↑(List.length s):Int)=(↑(List.length s):Int)/\wr IntKind.i64 ((↑(LX.k x):Int)+(1:Int))=(↑(LX.k x_2):Int)/\True)/\True))/\(decide ((↑(LX.k x):Int)<(↑(List.length s):Int))=false->(↑(List.length s):Int)=v)):=by kernel_rfl
theorem Zs2 (s:List Nat) (hs:s.length<=1000000000):PureC E 160 [.str false s,.fn (.func 162) [] []] (.int false .i64 (spn isD s)):=by
 refine Za E_ok (Ze E_ok Zpo 400) ?_
 rw [Zs1]
 refine ⟨fun x=>x.k<=s.length/\x.k+spn isD (s.drop x.k)=spn isD s/\x.r=s.length-x.k,⟨⟨0,s.length,[],0⟩,⟨(by dsimp only;omega),by simp,rfl⟩,by simp⟩,?_⟩
 rintro x ⟨hk,hv,hr⟩
 refine ⟨fun hq=> ?_,fun hq=> ?_⟩
 · have hq:(x.k:Int)<s.length:=by simpa using hq
   refine ⟨by omega,by omega,fun c hc=>⟨trivial,fun hn=> ?_,fun hn=> ?_⟩⟩
   · have hc:s[x.k]? =some c:=hc
     rw [Zcy hc] at hv
     have hn:isD c=false:=by simpa using hn
     rw [hn] at hv
     simp at hv
     rw [<-hv]
   · have hc:s[x.k]? =some c:=hc
     rw [Zcy hc] at hv
     have hn:isD c=true:=by simpa using hn
     rw [hn,if_pos rfl] at hv
     exact ⟨⟨x.k+1,s.length-(x.k+1),[],0⟩,⟨(by dsimp only;omega),(by dsimp only;omega),rfl⟩,(by show s.length-(x.k+1)+1<=x.r;omega),rfl,⟨rfl,⟨rfl,trivial,trivial⟩,rfl,wr64 (by omega) (by omega),trivial⟩,trivial⟩
 · have hq:¬(x.k:Int)<s.length:=by simpa using hq
   rw [List.drop_eq_nil_of_le (by omega)] at hv
   have:x.k=spn isD s:=by simpa [spn] using hv
   omega
def Anu:Fr thy->Hp thy->Nat->Ann thy:=fun T h i=>{X:=LX,fr:=fun x=> [(0,T 0),(4,.int false .i64 x.m),(15,T 15),(16,.int false .i64 x.k)],bl:=fun x=> [],src:=fun _=> [],md:= [],ih:=i,M:=i+30,meas:=fun x=>x.r}
def Fnum:Fns thy:=addL F0 163 5 Anu E
theorem Z49:FnsOk E Fnum:=Zt E_ok F0_ok _ _ _
def numL (n:Int):List Nat->Int×Int
 | []=>(n,0)
 |c::r=>if 10*n+(c-48)>1099511627776 then (0,2) else numL (10*n+(c-48)) r
def numb (s:List Nat):Int×Int:=if 1<s.length/\s.head? =some 48 then (0,150) else numL 0 s
theorem Zxb {n:Int} {s:List Nat} {k c:Nat} (h:s[k]? =some c):numL n (s.drop k)=if 10*n+(c-48)>1099511627776 then (0,2) else numL (10*n+(c-48)) (s.drop (k+1)):=by
 have hlt:=(gA9.1 h).1
 have hc:s[k]=c:=(gA9.1 h).2
 rw [List.drop_eq_getElem_cons hlt,hc];rfl
abbrev qBU1 (a0:LX) (b0:Nat):=(wr IntKind.i64 ((10:Int)*LX.m a0)+wr IntKind.i64 (wr IntKind.u8 ((↑b0:Int)-(48:Int))))
abbrev qBU2 (a0:List Nat):=(↑(List.length a0):Int)
abbrev qBU3 (a0:LX):=(↑(LX.k a0):Int)
abbrev qBU4:=(0:Int)
theorem Zng (s:List Nat) (v e:Int):Zi E Fnum (vc E Fnum 400) 163 [.str false s] hp0 0 (fun r => ret E (patch hp0 0 r) r.v (.tup [.int false .i64 v,.int false .i64 e])) = (
 ∃ (Q:Bool->Prop),((decide ((qBU2 s) > (1:Int)) = true->qBU4<=qBU4/\qBU4 + (1:Int)<=(qBU2 s)/\∀ (x:Nat),s[Int.toNat qBU4]? = some x->(((↑x:Int) == (48:Int)) = true->Q true)/\(((↑x:Int) == (48:Int)) = false->Q false))/\(decide ((qBU2 s) > (1:Int)) = false->Q false))/\(Q true->qBU4 = v/\(150:Int) = e/\True)/\(Q false->∃ (R:LX->Prop),(∃ (x:LX),R x/\true = true/\(s = s/\qBU4 = LX.m x/\(qBU2 s) = (qBU2 s)/\qBU4 = (qBU3 x)/\True)/\True)/\∀ (x:LX),R x->(decide ((qBU3 x) < (qBU2 s)) = true->qBU4<=(qBU3 x)/\(qBU3 x) + (1:Int)<=(qBU2 s)/\∀ (x_1:Nat),s[Int.toNat (qBU3 x)]? = some x_1->(decide (wr IntKind.i64 (qBU1 x x_1) > (1099511627776:Int)) = true->qBU4 = v/\(2:Int) = e/\True)/\(decide (wr IntKind.i64 (qBU1 x x_1) > (1099511627776:Int)) = false->∃ (x_2:LX),R x_2/\x_2.2 + (1:Nat)<=x.2/\true = true/\(s = s/\wr IntKind.i64 (qBU1 x x_1) = LX.m x_2/\(qBU2 s) = (qBU2 s)/\wr IntKind.i64 ((qBU3 x) + (1:Int)) = (qBU3 x_2)/\True)/\True))/\(decide ((qBU3 x) < (qBU2 s)) = false->LX.m x = v/\qBU4 = e/\True))):=by kernel_rfl
theorem Znh (s : List Nat) (hs : s.length ≤ 1000000000) (hd : ∀ c ∈ s, 48 ≤ c ∧ c ≤ 57) : PureC E 163 [.str false s] (.tup [.int false .i64 (numb s).1, .int false .i64 (numb s).2]) := by
  refine Za E_ok (Ze E_ok Z49 400) ?_
  rw [Zng]; delta qBU1 qBU2 qBU3 qBU4
  refine ⟨fun b => b = decide (1 < s.length ∧ s.head? = some 48), ⟨fun h => ?_, fun h => ?_⟩, fun h => ?_, fun h => ?_⟩
  · have h : (1 : Int) < s.length := by simpa using h
    refine ⟨Int.le_refl 0, by omega, fun x hx => ?_⟩
    have hx : s[0]? = some x := hx
    rw [List.head?_eq_getElem?, hx]
    refine ⟨fun h2 => ?_, fun h2 => ?_⟩
    · have h2 : x = 48 := by have : (x : Int) = 48 := by simpa using h2
                             omega
      simp [h2]; omega
    · have h2 : x ≠ 48 := by
        intro e
        subst e
        simp at h2
      simp [h2]
  · have h : ¬ (1 : Int) < s.length := by simpa using h
    have : ¬ 1 < s.length := by omega
    simp [this]
  · have h := (decide_eq_true_iff.1 h.symm)
    unfold numb
    rw [if_pos h]
    exact ⟨rfl, rfl, trivial⟩
  · have h := (decide_eq_false_iff_not.1 h.symm)
    have hn : numb s = numL 0 s := by unfold numb; rw [if_neg h]
    rw [hn]
    refine ⟨fun x => x.k ≤ s.length ∧ numL x.m (s.drop x.k) = numL 0 s ∧ 0 ≤ x.m ∧ x.m ≤ 1099511627776 ∧ x.r = s.length - x.k, ⟨⟨0, s.length, [], 0⟩, ⟨(by dsimp only; omega), rfl, Int.le_refl 0, (by show (0:Int) ≤ 1099511627776; omega), rfl⟩, by simp⟩, ?_⟩
    rintro x ⟨hk, hv, hm0, hm1, hr⟩
    refine ⟨fun hq => ?_, fun hq => ?_⟩
    · have hq : (x.k : Int) < s.length := by simpa using hq
      refine ⟨by omega, by omega, fun c hc => ?_⟩
      have hc : s[x.k]? = some c := hc
      have hcd := hd c (List.mem_of_getElem? hc)
      have w0 : wr .u8 ((c : Int) - 48) = c - 48 := by simp only [wr, IntKind.wrap_u8]; omega
      have w1 : wr .i64 (10 * x.m) = 10 * x.m := wr64 (by omega) (by omega)
      have w2 : wr .i64 ((c : Int) - 48) = c - 48 := wr64 (by omega) (by omega)
      have w3 : wr .i64 (10 * x.m + ((c : Int) - 48)) = 10 * x.m + (c - 48) := wr64 (by omega) (by omega)
      rw [w0, w1, w2, w3]
      rw [Zxb hc] at hv
      refine ⟨fun h2 => ?_, fun h2 => ?_⟩
      · have h2 : 10 * x.m + ((c : Int) - 48) > 1099511627776 := by simpa using h2
        rw [if_pos h2] at hv
        rw [← hv]
        exact ⟨rfl, rfl, trivial⟩
      · have h2 : ¬ 10 * x.m + ((c : Int) - 48) > 1099511627776 := by simpa using h2
        rw [if_neg h2] at hv
        exact ⟨⟨x.k + 1, s.length - (x.k + 1), [], 10 * x.m + (c - 48)⟩, ⟨(by dsimp only; omega), hv, (by dsimp only; omega), (by dsimp only; omega), rfl⟩, (by show s.length - (x.k + 1) + 1 ≤ x.r; omega), rfl, ⟨rfl, rfl, rfl, wr64 (by omega) (by omega), trivial⟩, trivial⟩
    · have hq : ¬ (x.k : Int) < s.length := by simpa using hq
      rw [List.drop_eq_nil_of_le (by omega)] at hv
      rw [← hv]
      exact ⟨rfl, rfl, trivial⟩
def dSF:Dc E Bool where
 dec v:=match v with| .fn (.func f) [] []=>(match Nat.beq f 161 with|true=>some true|false=>(match Nat.beq f 162 with|true=>some false|false=>none))|_=>none
 enc b:= .fn (.func (bif b then 161 else 162)) [] []
 ok v a h:=by
  split at h
  · rename_i f
    split at h
    · rename_i e
      cases h
      have e:=gC9 e
      cases e
      exact ⟨rfl,rfl,fun σ g u hd=>hd⟩
    · split at h
      · rename_i e
        cases h
        have e:=gC9 e
        cases e
        exact ⟨rfl,rfl,fun σ g u hd=>hd⟩
      · cases h
  · cases h
def spF (b:Bool) (s:List Nat):Nat:=bif b then spn isLD s else spn isD s
def Z7i:Sum thy:=Vl (DcL.cons dS (DcL.cons dSF DcL.nil)) (fun x=>x.1.length<=1000000000) (fun x=>spF x.2.1 x.1) fun (y:Nat)=> .int false .i64 y
theorem Z1e:SumOk E 160 Z7i:=Zz E_ok (Zb (f:=160) rfl) fun x h=>by
 obtain ⟨s,b,_⟩:=x
 cases b with
 |true=>exact Zs0 s h
 |false=>exact Zs2 s h
def Zxc:Sum thy:=Vl (dA1 dS) (fun x=>x.1.length<=1000000000/\∀c∈x.1,48<=c/\c<=57) (fun x=>numb x.1) fun y=> .tup [.int false .i64 y.1,.int false .i64 y.2]
theorem Zs3:SumOk E 163 Zxc:=Zz E_ok (Zb (f:=163) rfl) fun x h=>Znh x.1 h.1 h.2
def Ftok:Fns thy:=addS (addS Flx 160 Z7i) 163 Zxc
theorem Z5a:FnsOk E Ftok:=Zc (Zc Zw7 Z1e) Zs3
def tokV (t:Tok):SV thy:= .agg [.int false .i64 t.kind,.str false t.text,.int false .i64 t.n,.int false .i64 t.at_]
abbrev qBUa:=(0:Int)
abbrev qBU5 (a0:Tok):=(qBUa=Tok.kind a0/\ []=Tok.text a0/\qBUa=Tok.n a0/\qBUa=Tok.at_ a0/\True)
abbrev qBUc:=(150:Int)
abbrev qBUb (a0:List Nat):=(↑(List.length a0):Int)
abbrev qBU9 (a0:List Nat):=((qBUb a0)>=(1:Int))
abbrev qBU6 (a0:List Nat) (b0:Tok) (c0:Int):=(decide (qBU9 a0)=false->(qBU5 b0)/\qBUc=c0/\True)
abbrev qBU7 (a0:List Nat):=(qBUa<=(1:Int)/\(1:Int)<=(qBUb a0))
abbrev qBU8:=(Int.toNat (1:Int))
abbrev qBUf (a0:Nat):=(↑a0:Int)
abbrev qBUd (a0:Nat):=(Int.toNat (qBUf a0))
abbrev qBUe:=(3:Int)
theorem Zs4 (s:List Nat) (t:Tok) (e:Int):Zi E Ftok (vc E Ftok 400) 128 [.str false s] hp0 0 (fun r=>ret E (patch hp0 0 r) r.v (.tup [tokV t,.int false .i64 e]))=(
 qBUa<=qBUa/\qBUa+(1:Int)<=(qBUb s)/\∀(x:Nat),s[Int.toNat qBUa]? =some x->True/\(isL (qBUf x)=true->List.length s<=(1000000000:Nat)/\∀(y:Nat),y=spF true s->(qBUa<=(qBUf y)/\(qBUf y)<=(qBUb s))/\(decide ((↑(List.length (List.take (qBUd y) s)):Int)>(32:Int))=true->(qBU5 t)/\(2:Int)=e/\True)/\(decide ((↑(List.length (List.take (qBUd y) s)):Int)>(32:Int))=false->((1:Int)=Tok.kind t/\List.take (qBUd y) s=Tok.text t/\qBUa=Tok.n t/\qBUa=Tok.at_ t/\True)/\qBUa=e/\True))/\(isL (qBUf x)=false->True/\(isD (qBUf x)=true->List.length s<=(1000000000:Nat)/\∀(y:Nat),y=spF false s->(qBUa<=(qBUf y)/\(qBUf y)<=(qBUb s))/\(List.length (List.take (qBUd y) s)<=(1000000000:Nat)/\∀(c:Nat),c∈List.take (qBUd y) s->(48:Nat)<=c/\c<=(57:Nat))/\∀(y_1:Int×Int),y_1=numb (List.take (qBUd y) s)->((2:Int)=Tok.kind t/\List.take (qBUd y) s=Tok.text t/\Prod.fst y_1=Tok.n t/\qBUa=Tok.at_ t/\True)/\Prod.snd y_1=e/\True)/\(isD (qBUf x)=false->qBUa<=qBUa/\qBUa+(1:Int)<=(qBUb s)/\∀(x:Nat),s[Int.toNat qBUa]? =some x->(((qBUf x)==(↑(123:Nat):Int))=true->(decide (qBU9 s)=true->(qBU7 s)/\((List.take qBU8 s== [(123:Nat)])=true->(qBUe=Tok.kind t/\ [(123:Nat)]=Tok.text t/\qBUa=Tok.n t/\qBUa=Tok.at_ t/\True)/\qBUa=e/\True)/\((List.take qBU8 s== [(123:Nat)])=false->(qBU5 t)/\qBUc=e/\True))/\(qBU6 s t e))/\(((qBUf x)==(↑(123:Nat):Int))=false->(((qBUf x)==(↑(125:Nat):Int))=true->(decide (qBU9 s)=true->(qBU7 s)/\((List.take qBU8 s== [(125:Nat)])=true->(qBUe=Tok.kind t/\ [(125:Nat)]=Tok.text t/\qBUa=Tok.n t/\qBUa=Tok.at_ t/\True)/\qBUa=e/\True)/\((List.take qBU8 s== [(125:Nat)])=false->(qBU5 t)/\qBUc=e/\True))/\(qBU6 s t e))/\(((qBUf x)==(↑(125:Nat):Int))=false->(((qBUf x)==(↑(40:Nat):Int))=true->(decide (qBU9 s)=true->(qBU7 s)/\((List.take qBU8 s== [(40:Nat)])=true->(qBUe=Tok.kind t/\ [(40:Nat)]=Tok.text t/\qBUa=Tok.n t/\qBUa=Tok.at_ t/\True)/\qBUa=e/\True)/\((List.take qBU8 s== [(40:Nat)])=false->(qBU5 t)/\qBUc=e/\True))/\(qBU6 s t e))/\(((qBUf x)==(↑(40:Nat):Int))=false->(((qBUf x)==(↑(41:Nat):Int))=true->(decide (qBU9 s)=true->(qBU7 s)/\((List.take qBU8 s== [(41:Nat)])=true->(qBUe=Tok.kind t/\ [(41:Nat)]=Tok.text t/\qBUa=Tok.n t/\qBUa=Tok.at_ t/\True)/\qBUa=e/\True)/\((List.take qBU8 s== [(41:Nat)])=false->(qBU5 t)/\qBUc=e/\True))/\(qBU6 s t e))/\(((qBUf x)==(↑(41:Nat):Int))=false->(((qBUf x)==(↑(59:Nat):Int))=true->(decide (qBU9 s)=true->(qBU7 s)/\((List.take qBU8 s== [(59:Nat)])=true->(qBUe=Tok.kind t/\ [(59:Nat)]=Tok.text t/\qBUa=Tok.n t/\qBUa=Tok.at_ t/\True)/\qBUa=e/\True)/\((List.take qBU8 s== [(59:Nat)])=false->(qBU5 t)/\qBUc=e/\True))/\(qBU6 s t e))/\(((qBUf x)==(↑(59:Nat):Int))=false->(((qBUf x)==(↑(44:Nat):Int))=true->(decide (qBU9 s)=true->(qBU7 s)/\((List.take qBU8 s== [(44:Nat)])=true->(qBUe=Tok.kind t/\ [(44:Nat)]=Tok.text t/\qBUa=Tok.n t/\qBUa=Tok.at_ t/\True)/\qBUa=e/\True)/\((List.take qBU8 s== [(44:Nat)])=false->(qBU5 t)/\qBUc=e/\True))/\(qBU6 s t e))/\(((qBUf x)==(↑(44:Nat):Int))=false->(((qBUf x)==(↑(43:Nat):Int))=true->(decide (qBU9 s)=true->(qBU7 s)/\((List.take qBU8 s== [(43:Nat)])=true->(qBUe=Tok.kind t/\ [(43:Nat)]=Tok.text t/\qBUa=Tok.n t/\qBUa=Tok.at_ t/\True)/\qBUa=e/\True)/\((List.take qBU8 s== [(43:Nat)])=false->(qBU5 t)/\qBUc=e/\True))/\(qBU6 s t e))/\(((qBUf x)==(↑(43:Nat):Int))=false->(((qBUf x)==(↑(45:Nat):Int))=true->(decide (qBU9 s)=true->(qBU7 s)/\((List.take qBU8 s== [(45:Nat)])=true->(qBUe=Tok.kind t/\ [(45:Nat)]=Tok.text t/\qBUa=Tok.n t/\qBUa=Tok.at_
t/\True)/\qBUa=e/\True)/\((List.take qBU8 s== [(45:Nat)])=false->(qBU5 t)/\qBUc=e/\True))/\(qBU6 s t e))/\(((qBUf x)==(↑(45:Nat):Int))=false->(((qBUf x)==(↑(42:Nat):Int))=true->(decide (qBU9 s)=true->(qBU7 s)/\((List.take qBU8 s== [(42:Nat)])=true->(qBUe=Tok.kind t/\ [(42:Nat)]=Tok.text t/\qBUa=Tok.n t/\qBUa=Tok.at_ t/\True)/\qBUa=e/\True)/\((List.take qBU8 s== [(42:Nat)])=false->(qBU5 t)/\qBUc=e/\True))/\(qBU6 s t e))/\(((qBUf x)==(↑(42:Nat):Int))=false->(((qBUf x)==(↑(60:Nat):Int))=true->(decide (qBU9 s)=true->(qBU7 s)/\((List.take qBU8 s== [(60:Nat)])=true->(qBUe=Tok.kind t/\ [(60:Nat)]=Tok.text t/\qBUa=Tok.n t/\qBUa=Tok.at_ t/\True)/\qBUa=e/\True)/\((List.take qBU8 s== [(60:Nat)])=false->(qBU5 t)/\qBUc=e/\True))/\(qBU6 s t e))/\(((qBUf x)==(↑(60:Nat):Int))=false->(((qBUf x)==(↑(46:Nat):Int))=true->(decide ((qBUb s)>=(2:Int))=true->(qBUa<=(2:Int)/\(2:Int)<=(qBUb s))/\((List.take (Int.toNat (2:Int)) s== [(46:Nat),(46:Nat)])=true->(qBUe=Tok.kind t/\ [(46:Nat),(46:Nat)]=Tok.text t/\qBUa=Tok.n t/\qBUa=Tok.at_ t/\True)/\qBUa=e/\True)/\((List.take (Int.toNat (2:Int)) s== [(46:Nat),(46:Nat)])=false->(qBU5 t)/\qBUc=e/\True))/\(decide ((qBUb s)>=(2:Int))=false->(qBU5 t)/\qBUc=e/\True))/\(((qBUf x)==(↑(46:Nat):Int))=false->(qBU5 t)/\qBUc=e/\True)))))))))))))):=by kernel_rfl
def sgnW (c:Nat):Option (List Nat):=
 if c=123 then some [123] else if c=125 then some [125] else if c=40 then some [40] else if c=41 then some [41] else if c=59 then some [59] else if c=44 then some [44]
 else if c=43 then some [43] else if c=45 then some [45] else if c=42 then some [42] else if c=60 then some [60] else if c=46 then some [46,46] else none
def z0:Tok:=⟨0,[],0,0⟩
def tokS (s w:List Nat):Tok×Int:=if s.take w.length=w then (⟨3,w,0,0⟩,0) else (z0,150)
def tokP:List Nat->Tok×Int
 | []=>(z0,150)
 |c::r=>if isL c then (if 32<spn isLD (c::r) then (z0,2) else (⟨1,(c::r).take (spn isLD (c::r)),0,0⟩,0))
  else if isD c then (⟨2,(c::r).take (spn isD (c::r)),(numb ((c::r).take (spn isD (c::r)))).1,0⟩,(numb ((c::r).take (spn isD (c::r)))).2)
  else match sgnW c with|some w=>tokS (c::r) w|none=>(z0,150)
theorem Uh (c:Nat) (r:List Nat):tokP (c::r)=if isL c then (if 32<spn isLD (c::r) then (z0,2) else (⟨1,(c::r).take (spn isLD (c::r)),0,0⟩,0))
 else if isD c then (⟨2,(c::r).take (spn isD (c::r)),(numb ((c::r).take (spn isD (c::r)))).1,0⟩,(numb ((c::r).take (spn isD (c::r)))).2)
 else match sgnW c with|some w=>tokS (c::r) w|none=>(z0,150):=rfl
theorem Zxd {f:Int->Bool}:∀{s:List Nat} {c:Nat},c∈s.take (spn f s)->f c=true
 | [],c,h=>by simp at h
 |x::r,c,h=>by
  unfold spn at h
  split at h
  · rename_i hx
    rw [List.take_succ_cons,List.mem_cons] at h
    rcases h with rfl|h
    · exact hx
    · exact Zxd h
  · simp at h
theorem Ui (s w:List Nat) (k:Int) (hk:k=w.length):
 (decide ((↑(List.length s):Int)>=k)=true->((0:Int)<=k/\k<=(↑(List.length s):Int))/\((List.take (Int.toNat k) s==w)=true->((3:Int)=Tok.kind (tokS s w).1/\w=Tok.text (tokS s w).1/\(0:Int)=Tok.n (tokS s w).1/\(0:Int)=Tok.at_ (tokS s w).1/\True)/\(0:Int)=(tokS s w).2/\True)/\
  ((List.take (Int.toNat k) s==w)=false->((0:Int)=Tok.kind (tokS s w).1/\ []=Tok.text (tokS s w).1/\(0:Int)=Tok.n (tokS s w).1/\(0:Int)=Tok.at_ (tokS s w).1/\True)/\(150:Int)=(tokS s w).2/\True))/\
 (decide ((↑(List.length s):Int)>=k)=false->((0:Int)=Tok.kind (tokS s w).1/\ []=Tok.text (tokS s w).1/\(0:Int)=Tok.n (tokS s w).1/\(0:Int)=Tok.at_ (tokS s w).1/\True)/\(150:Int)=(tokS s w).2/\True):=by
 have e:Int.toNat k=w.length:=by omega
 rw [e]
 unfold tokS
 refine ⟨fun h=> ?_,fun h=> ?_⟩
 · have h:(s.length:Int)>=k:=by simpa using h
   refine ⟨⟨by omega,by omega⟩,fun h2=> ?_,fun h2=> ?_⟩
   · have h2:List.take w.length s=w:=by simpa using h2
     rw [if_pos h2]
     exact ⟨⟨rfl,rfl,rfl,rfl,trivial⟩,rfl,trivial⟩
   · have h2:List.take w.length s≠w:=by simpa using h2
     rw [if_neg h2]
     exact ⟨⟨rfl,rfl,rfl,rfl,trivial⟩,rfl,trivial⟩
 · have h:¬(s.length:Int)>=k:=by simpa using h
   have h2:List.take w.length s≠w:=fun e=>by
    have:=congrArg List.length e
    rw [List.length_take] at this
    omega
   rw [if_neg h2]
   exact ⟨⟨rfl,rfl,rfl,rfl,trivial⟩,rfl,trivial⟩
theorem Zs5 (s : List Nat) (h0 : 0 < s.length) (hs : s.length ≤ 1000000000) : PureC E 128 [.str false s] (.tup [tokV (tokP s).1, .int false .i64 (tokP s).2]) := by
  refine Za E_ok (Ze E_ok Z5a 400) ?_
  rw [Zs4]; delta qBUa qBU5 qBUc qBUb qBU9 qBU6 qBU7 qBU8 qBUf qBUd qBUe
  cases s with
  | nil => exact absurd h0 (by simp)
  | cons c r =>
  refine ⟨Int.le_refl 0, by simp only [List.length_cons]; omega, fun x hx => ?_⟩
  have hx : (c :: r)[0]? = some x := hx
  rw [List.getElem?_cons_zero] at hx
  cases hx
  refine ⟨trivial, fun hl => ?_, fun hl => ?_⟩
  · refine ⟨hs, fun y hy => ?_⟩
    have hy : y = spn isLD (c :: r) := hy
    have hle : y ≤ (c :: r).length := hy ▸ Zkz
    have hm : min y (c :: r).length = y := Nat.min_eq_left hle
    have e1 : Int.toNat (y : Int) = y := by omega
    rw [e1, List.length_take, hm]
    rw [Uh, if_pos hl, ← hy]
    refine ⟨⟨by omega, by omega⟩, fun h => ?_, fun h => ?_⟩
    · have h : (32 : Int) < y := by simpa using h
      rw [if_pos (by omega)]
      exact ⟨⟨rfl, rfl, rfl, rfl, trivial⟩, rfl, trivial⟩
    · have h : ¬ (32 : Int) < y := by simpa using h
      rw [if_neg (by omega)]
      exact ⟨⟨rfl, rfl, rfl, rfl, trivial⟩, rfl, trivial⟩
  refine ⟨trivial, fun hd => ?_, fun hd => ?_⟩
  · refine ⟨hs, fun y hy => ?_⟩
    have hy : y = spn isD (c :: r) := hy
    have hle : y ≤ (c :: r).length := hy ▸ Zkz
    have hm : min y (c :: r).length = y := Nat.min_eq_left hle
    have e1 : Int.toNat (y : Int) = y := by omega
    rw [e1, List.length_take, hm]
    rw [Uh, if_neg (by rw [hl]; decide), if_pos hd, ← hy]
    refine ⟨⟨by omega, by omega⟩, ⟨by omega, fun c' hc' => ?_⟩, fun q hq => ?_⟩
    · rw [hy] at hc'
      have := Zxd hc'
      unfold isD at this
      simp at this
      omega
    · subst hq
      exact ⟨⟨rfl, rfl, rfl, rfl, trivial⟩, rfl, trivial⟩
  refine ⟨Int.le_refl 0, by simp only [List.length_cons]; omega, fun x hx => ?_⟩
  have hx : (c :: r)[0]? = some x := hx
  rw [List.getElem?_cons_zero] at hx
  cases hx
  have hp : ∀ w, sgnW c = some w → tokP (c :: r) = tokS (c :: r) w := fun w hw => by
    rw [Uh, if_neg (by rw [hl]; decide), if_neg (by rw [hd]; decide), hw]
  have st : ∀ (n : Nat) (w : List Nat), sgnW n = some w → ((c : Int) == (n : Int)) = true → tokP (c :: r) = tokS (c :: r) w := fun n w hw h => by
    have : c = n := by have : (c : Int) = n := by simpa using h
                       omega
    subst this
    exact hp w hw
  refine ⟨fun h => by rw [st _ _ rfl h]; exact Ui _ _ _ rfl, fun h1 => ?_⟩
  refine ⟨fun h => by rw [st _ _ rfl h]; exact Ui _ _ _ rfl, fun h2 => ?_⟩
  refine ⟨fun h => by rw [st _ _ rfl h]; exact Ui _ _ _ rfl, fun h3 => ?_⟩
  refine ⟨fun h => by rw [st _ _ rfl h]; exact Ui _ _ _ rfl, fun h4 => ?_⟩
  refine ⟨fun h => by rw [st _ _ rfl h]; exact Ui _ _ _ rfl, fun h5 => ?_⟩
  refine ⟨fun h => by rw [st _ _ rfl h]; exact Ui _ _ _ rfl, fun h6 => ?_⟩
  refine ⟨fun h => by rw [st _ _ rfl h]; exact Ui _ _ _ rfl, fun h7 => ?_⟩
  refine ⟨fun h => by rw [st _ _ rfl h]; exact Ui _ _ _ rfl, fun h8 => ?_⟩
  refine ⟨fun h => by rw [st _ _ rfl h]; exact Ui _ _ _ rfl, fun h9 => ?_⟩
  refine ⟨fun h => by rw [st _ _ rfl h]; exact Ui _ _ _ rfl, fun h10 => ?_⟩
  refine ⟨fun h => by rw [st _ _ rfl h]; exact Ui _ _ _ rfl, fun h11 => ?_⟩
  have hn : sgnW c = none := by
    have f : ∀ n : Nat, ((c : Int) == (n : Int)) = false → c ≠ n := fun n h e => by subst e; simp at h
    unfold sgnW
    rw [if_neg (f _ h1), if_neg (f _ h2), if_neg (f _ h3), if_neg (f _ h4), if_neg (f _ h5), if_neg (f _ h6), if_neg (f _ h7), if_neg (f _ h8), if_neg (f _ h9), if_neg (f _ h10), if_neg (f _ h11)]
  have : tokP (c :: r) = (z0, 150) := by
    rw [Uh, if_neg (by rw [hl]; decide), if_neg (by rw [hd]; decide), hn]
  rw [this]
  exact ⟨⟨rfl, rfl, rfl, rfl, trivial⟩, rfl, trivial⟩
def Z2k:Sum thy:=Vl (dA1 dS) (fun x=>0<x.1.length/\x.1.length<=1000000000) (fun x=>tokP x.1) fun y=> .tup [tokV y.1,.int false .i64 y.2]
theorem Zxe:SumOk E 128 Z2k:=Zz E_ok (Zb (f:=128) rfl) fun x h=>Zs5 x.1 h.1 h.2
structure TkX where
 at_:Nat
 ts:List Tok
 r:Nat
def Atk:Fr thy->Hp thy->Nat->Ann thy:=fun T h i=>{X:=Bool×TkX,fr:=fun x=> [(0,T 0),(5,match x.1 with|true=> .sl i 0 x.2.ts.length 4 none|false=> .val (.slice none 0 0)),(6,.int false .i64 x.2.at_)],bl:=fun x=>(match x.1 with|true=> [(i,.rows Th.toks x.2.ts 0)]|false=> []),src:=fun x=>(match x.1 with|true=> [(i,5)]|false=> []),md:= [],ih:=i+1,M:=i+60,meas:=fun x=>x.2.r,ex:=ex2,al:=al2,exOk:=Zi9,alOk:=Zja}
def Ftk:Fns thy:=addL (addS F0 128 Z2k) 83 5 Atk E
theorem Z7j:FnsOk E Ftk:=Zt E_ok (Zc F0_ok Zxe) _ _ _
abbrev qBUg (a0:TkX):=(↑(TkX.at_ a0):Int)
abbrev qBUp:=(1:Nat)
abbrev qBUl:=(0:Nat)
abbrev qBUh (a0:Bool×TkX->Prop) (b0:TkX) (c0:List Nat):=(∃(y_1:TkX),a0 (false,y_1)/\y_1.3+qBUp<=b0.3/\true=true/\(c0=c0/\Value.slice none qBUl qBUl=Value.slice none qBUl qBUl/\wr IntKind.i64 ((qBUg b0)+(1:Int))=(qBUg y_1)/\True)/\True)
abbrev qBUi (a0:Bool×TkX->Prop) (b0:TkX) (c0:List Nat):=(∃(y_1:TkX),a0 (false,y_1)/\y_1.3+qBUp<=b0.3/\true=true/\(c0=c0/\False/\wr IntKind.i64 ((qBUg b0)+(1:Int))=(qBUg y_1)/\True)/\True)
abbrev qBUj (a0:List Nat) (b0:TkX) (c0:TkX):=(a0=a0/\(qBUl=qBUl/\List.length (TkX.ts b0)=List.length (TkX.ts c0)/\True)/\wr IntKind.i64 ((qBUg b0)+(1:Int))=(qBUg c0)/\True)
abbrev qBUk (a0:TkX) (b0:List Nat):=(List.drop (Int.toNat (qBUg a0)) b0)
abbrev qBUm:=(Int.toNat (10:Int)%(256:Nat))
abbrev qBUn (a0:List Nat):=(↑(List.length a0):Int)
abbrev qBUo:=(0:Int)
abbrev qBUq (a0:TkX) (b0:Tok×Int):=((qBUg a0)+(↑(List.length (Tok.text (Prod.fst b0))):Int))
abbrev qBUr (a0:TkX) (b0:List Nat):=((qBUg a0)+wr IntKind.i64 (idxL qBUm qBUl (qBUk a0 b0)+(1:Int)))
abbrev qBUs (a0:TkX) (b0:TkX):=(TkX.ts a0=TkX.ts b0/\qBUl=qBUl)
abbrev qBUt (a0:TkX) (b0:List Tok):=(qBUl+List.length (TkX.ts a0)<=List.length (TkX.ts a0)/\List.take (List.length (TkX.ts a0)) (TkX.ts a0)=b0)
abbrev qBUu (a0:TkX) (b0:List Nat):=(qBUo<=(qBUg a0)/\(qBUg a0)<=(qBUn b0))
theorem Zni (s:List Nat) (l:List Tok) (a e:Int):Zi E Ftk (vc E Ftk 400) 83 [.str false s] hp0 0 (fun r=>ret E (patch hp0 0 r) r.v (.tup [.psl Th.toks l false,.int false .i64 a,.int false .i64 e]))=(
 (decide ((qBUn s)>(2000:Int))=true->l= []/\qBUo=a/\(2:Int)=e/\True)/\(decide ((qBUn s)>(2000:Int))=false->∃(R:Bool×TkX->Prop),((∃(y:TkX),R (false,y)/\true=true/\(s=s/\Value.slice none qBUl qBUl=Value.slice none qBUl qBUl/\qBUo=(qBUg y)/\True)/\True)\/∃(y:TkX),R (true,y)/\true=true/\False)/\(∀(y:TkX),R (false,y)->(decide ((qBUg y)<(qBUn s))=true->qBUo<=(qBUg y)/\(qBUg y)+(1:Int)<=(qBUn s)/\∀(x:Nat),s[Int.toNat (qBUg y)]? =some x->(((↑x:Int)==(32:Int))=true->(qBUh R y s)\/∃(y_1:TkX),R (true,y_1)/\y_1.3+qBUp<=y.3/\true=true/\False)/\(((↑x:Int)==(32:Int))=false->(((↑x:Int)==(9:Int))=true->(qBUh R y s)\/∃(y_1:TkX),R (true,y_1)/\y_1.3+qBUp<=y.3/\true=true/\False)/\(((↑x:Int)==(9:Int))=false->(((↑x:Int)==(13:Int))=true->(qBUh R y s)\/∃(y_1:TkX),R (true,y_1)/\y_1.3+qBUp<=y.3/\true=true/\False)/\(((↑x:Int)==(13:Int))=false->(((↑x:Int)==(10:Int))=true->(qBUh R y s)\/∃(y_1:TkX),R (true,y_1)/\y_1.3+qBUp<=y.3/\true=true/\False)/\(((↑x:Int)==(10:Int))=false->(((↑x:Int)==(35:Int))=true->(qBUu y s)/\(decide (idxL qBUm qBUl (qBUk y s)<qBUo)=true->l= []/\qBUo=a/\qBUo=e/\True)/\(decide (idxL qBUm qBUl (qBUk y s)<qBUo)=false->(∃(y_1:TkX),R (false,y_1)/\y_1.3+qBUp<=y.3/\true=true/\(s=s/\Value.slice none qBUl qBUl=Value.slice none qBUl qBUl/\wr IntKind.i64 (qBUr y s)=(qBUg y_1)/\True)/\True)\/∃(y_1:TkX),R (true,y_1)/\y_1.3+qBUp<=y.3/\true=true/\False))/\(((↑x:Int)==(35:Int))=false->(qBUu y s)/\(qBUl+qBUp<=List.length (qBUk y s)/\List.length (qBUk y s)<=(1000000000:Nat))/\∀(y_1:Tok×Int),y_1=tokP (qBUk y s)->((Prod.snd y_1 !=qBUo)=true->l= []/\(qBUg y)=a/\Prod.snd y_1=e/\True)/\((Prod.snd y_1 !=qBUo)=false->(∃(y_2:TkX),R (false,y_2)/\y_2.3+qBUp<=y.3/\true=true/\(s=s/\False/\wr IntKind.i64 (qBUq y y_1)=(qBUg y_2)/\True)/\True)\/∃(y_2:TkX),R (true,y_2)/\y_2.3+qBUp<=y.3/\true=true/\(s=s/\(qBUl=qBUl/\qBUp=List.length (TkX.ts y_2)/\True)/\wr IntKind.i64 (qBUq y y_1)=(qBUg y_2)/\True)/\([Tok.mk (Tok.kind (Prod.fst y_1)) (Tok.text (Prod.fst y_1)) (Tok.n (Prod.fst y_1)) (qBUg y)]=TkX.ts y_2/\qBUl=qBUl)/\True)))))))/\(decide ((qBUg y)<(qBUn s))=false->l= []/\qBUo=a/\qBUo=e/\True))/\∀(y:TkX),R (true,y)->(decide ((qBUg y)<(qBUn s))=true->qBUo<=(qBUg y)/\(qBUg y)+(1:Int)<=(qBUn s)/\∀(x:Nat),s[Int.toNat (qBUg y)]? =some x->(((↑x:Int)==(32:Int))=true->(qBUi R y s)\/∃(y_1:TkX),R (true,y_1)/\y_1.3+qBUp<=y.3/\true=true/\(qBUj s y y_1)/\(qBUs y y_1)/\True)/\(((↑x:Int)==(32:Int))=false->(((↑x:Int)==(9:Int))=true->(qBUi R y s)\/∃(y_1:TkX),R (true,y_1)/\y_1.3+qBUp<=y.3/\true=true/\(qBUj s y y_1)/\(qBUs y y_1)/\True)/\(((↑x:Int)==(9:Int))=false->(((↑x:Int)==(13:Int))=true->(qBUi R y s)\/∃(y_1:TkX),R (true,y_1)/\y_1.3+qBUp<=y.3/\true=true/\(qBUj s y y_1)/\(qBUs y y_1)/\True)/\(((↑x:Int)==(13:Int))=false->(((↑x:Int)==(10:Int))=true->(qBUi R y s)\/∃(y_1:TkX),R (true,y_1)/\y_1.3+qBUp<=y.3/\true=true/\(qBUj s y y_1)/\(qBUs y y_1)/\True)/\(((↑x:Int)==(10:Int))=false->(((↑x:Int)==(35:Int))=true->(qBUu y s)/\(decide (idxL qBUm qBUl (qBUk y s)<qBUo)=true->(qBUt y l)/\qBUo=a/\qBUo=e/\True)/\(decide (idxL qBUm qBUl (qBUk y s)<qBUo)=false->(∃(y_1:TkX),R (false,y_1)/\y_1.3+qBUp<=y.3/\true=true/\(s=s/\False/\wr IntKind.i64 (qBUr y s)=(qBUg y_1)/\True)/\True)\/∃(y_1:TkX),R (true,y_1)/\y_1.3+qBUp<=y.3/\true=true/\(s=s/\(qBUl=qBUl/\List.length (TkX.ts y)=List.length (TkX.ts y_1)/\True)/\wr IntKind.i64 (qBUr y s)=(qBUg y_1)/\True)/\(qBUs y y_1)/\True))/\
(((↑x:Int)==(35:Int))=false->(qBUu y s)/\(qBUl+qBUp<=List.length (qBUk y s)/\List.length (qBUk y s)<=(1000000000:Nat))/\∀(y_1:Tok×Int),y_1=tokP (qBUk y s)->((Prod.snd y_1 !=qBUo)=true->l= []/\(qBUg y)=a/\Prod.snd y_1=e/\True)/\((Prod.snd y_1 !=qBUo)=false->(List.length (TkX.ts y)<=List.length (TkX.ts y)/\qBUl<=List.length (TkX.ts y)/\(List.length (TkX.ts y)+qBUp)*(40:Nat)<=(140737488355328:Nat))/\((∃(y_2:TkX),R (false,y_2)/\y_2.3+qBUp<=y.3/\true=true/\(s=s/\False/\wr IntKind.i64 (qBUq y y_1)=(qBUg y_2)/\True)/\True)\/∃(y_2:TkX),R (true,y_2)/\y_2.3+qBUp<=y.3/\true=true/\(s=s/\(qBUl=qBUl/\List.length (TkX.ts y)+qBUp=List.length (TkX.ts y_2)/\True)/\wr IntKind.i64 (qBUq y y_1)=(qBUg y_2)/\True)/\(List.take (List.length (TkX.ts y)) (TkX.ts y)++ [Tok.mk (Tok.kind (Prod.fst y_1)) (Tok.text (Prod.fst y_1)) (Tok.n (Prod.fst y_1)) (qBUg y)]=TkX.ts y_2/\qBUl=qBUl)/\True))))))))/\(decide ((qBUg y)<(qBUn s))=false->(qBUt y l)/\qBUo=a/\qBUo=e/\True))):=by kernel_rfl
def blk (c:Nat):Bool:=c=32||c=9||c=13||c=10
def tksL:Nat->List Nat->Nat->List Tok->List Tok×Int×Int
 |0,_,_,ts=>(ts,0,0)
 |k+1,s,p,ts=>match s[p]? with
  |none=>(ts,0,0)
  |some c=>if blk c then tksL k s (p+1) ts
   else if c=35 then (if idxL 10 0 (s.drop p)<0 then (ts,0,0) else tksL k s (p+(idxL 10 0 (s.drop p)).toNat+1) ts)
   else if (tokP (s.drop p)).2≠0 then ([],p,(tokP (s.drop p)).2)
   else tksL k s (p+(tokP (s.drop p)).1.text.length) (ts++ [⟨(tokP (s.drop p)).1.kind,(tokP (s.drop p)).1.text,(tokP (s.drop p)).1.n,p⟩])
def Y0 (s:List Nat):List Tok×Int×Int:=if 2000<s.length then ([],0,2) else tksL s.length s 0 []
theorem Znj (c:Nat):∀(l:List Nat) (j:Nat),idxL c j l<j+l.length/\ -1<=idxL c j l
 | [],j=>by unfold idxL;simp;try omega
 |x::r,j=>by
  unfold idxL
  split
  · simp;try omega
  · have:=Znj c r (j+1)
    simp only [List.length_cons]
    omega
theorem Z1f {c:Nat} {w:List Nat} (h:sgnW c=some w):1<=w.length:=by
 unfold sgnW at h
 repeat' split at h
 all_goals (cases h<;>simp)
theorem Zpp {s:List Nat} (h:(tokP s).2=0):1<=(tokP s).1.text.length/\(tokP s).1.text.length<=s.length/\(tokP s).1.text=s.take (tokP s).1.text.length:=by
 cases s with
 |nil=>cases h
 |cons c r=>
  rw [Uh] at h⊢
  have go:∀n,1<=n->n<=(c::r).length->1<=((c::r).take n).length/\((c::r).take n).length<=(c::r).length/\(c::r).take n=(c::r).take ((c::r).take n).length:=fun n h1 h2=>by
   have e:((c::r).take n).length=n:=by rw [List.length_take];omega
   rw [e]
   exact ⟨h1,h2,rfl⟩
  split at h
  · rename_i hl
    rw [if_pos hl]
    split at h
    · cases h
    · rename_i hn
      rw [if_neg hn]
      refine go _ ?_ Zkz
      have:isLD c=true:=by unfold isLD;rw [hl];rfl
      unfold spn
      rw [if_pos this]
      omega
  · rename_i hl
    rw [if_neg hl]
    split at h
    · rename_i hd
      rw [if_pos hd]
      refine go _ ?_ Zkz
      unfold spn
      rw [if_pos hd]
      omega
    · rename_i hd
      rw [if_neg hd]
      split at h
      · rename_i w hw
        unfold tokS at h⊢
        split at h
        · rename_i ht
          have e:=congrArg List.length ht
          rw [List.length_take] at e
          refine ⟨?_,?_,?_⟩
          · simp only [if_pos ht]
            exact Z1f hw
          · simp only [if_pos ht]
            omega
          · simp only [if_pos ht]
            exact ht.symm
        · cases h
      · cases h
def TkI (s:List Nat) (res:List Tok×Int×Int) (y:TkX):Prop:=y.at_<=s.length/\s.length<=y.at_+y.r/\y.ts.length<=y.at_/\tksL y.r s y.at_ y.ts=res
theorem Z2l {s:List Nat} {res} {y:TkX} (h:TkI s res y) (hq:¬y.at_<s.length):res=(y.ts,0,0):=by
 obtain ⟨h1,h2,h3,h4⟩:=h
 rw [<-h4]
 cases hr:y.r with
 |zero=>rfl
 |succ k=>
  unfold tksL
  rw [List.getElem?_eq_none (by omega)]
theorem Zey {s:List Nat} {res} {y:TkX} {c:Nat} (h:TkI s res y) (hc:s[y.at_]? =some c):∃k,y.r=k+1/\s.length<=y.at_+(k+1)/\y.at_<s.length/\(if blk c then tksL k s (y.at_+1) y.ts
 else if c=35 then (if idxL 10 0 (s.drop y.at_)<0 then (y.ts,0,0) else tksL k s (y.at_+(idxL 10 0 (s.drop y.at_)).toNat+1) y.ts)
 else if (tokP (s.drop y.at_)).2≠0 then ([],y.at_,(tokP (s.drop y.at_)).2)
 else tksL k s (y.at_+(tokP (s.drop y.at_)).1.text.length) (y.ts++ [⟨(tokP (s.drop y.at_)).1.kind,(tokP (s.drop y.at_)).1.text,(tokP (s.drop y.at_)).1.n,y.at_⟩]))=res:=by
 obtain ⟨h1,h2,h3,h4⟩:=h
 have hlt:=(gA9.1 hc).1
 cases hr:y.r with
 |zero=>omega
 |succ k=>
  refine ⟨k,rfl,by omega,hlt,?_⟩
  rw [hr] at h4
  unfold tksL at h4
  rw [hc] at h4
  exact h4
theorem Zpq {s:List Nat} {res} {y:TkX} {c:Nat} (h:TkI s res y) (hc:s[y.at_]? =some c) (hb:blk c=true):TkI s res ⟨y.at_+1,y.ts,y.r-1⟩/\y.r-1+1<=y.r/\y.at_<s.length:=by
 obtain ⟨k,hr,hk,hl,he⟩:=Zey h hc
 rw [if_pos hb] at he
 have h3:=h.2.2.1
 refine ⟨⟨hl,?_,?_,?_⟩,by omega,hl⟩
 · show s.length<=y.at_+1+(y.r-1)
   omega
 · show y.ts.length<=y.at_+1
   omega
 · rw [hr]
   exact he
theorem Z2m {s:List Nat} {res} {y:TkX} {c:Nat} (h:TkI s res y) (hc:s[y.at_]? =some c) (hb:blk c=false) (h35:c=35) (hi:¬idxL 10 0 (s.drop y.at_)<0):TkI s res ⟨y.at_+(idxL 10 0 (s.drop y.at_)).toNat+1,y.ts,y.r-1⟩/\y.r-1+1<=y.r/\y.at_+(idxL 10 0 (s.drop y.at_)).toNat+1<=s.length:=by
 obtain ⟨k,hr,hk,hl,he⟩:=Zey h hc
 rw [if_neg (by rw [hb];decide),if_pos h35,if_neg hi] at he
 have h3:=h.2.2.1
 have hb:=(Znj 10 (s.drop y.at_) 0).1
 rw [List.length_drop] at hb
 refine ⟨⟨?_,?_,?_,?_⟩,by omega,by omega⟩
 · show y.at_+(idxL 10 0 (s.drop y.at_)).toNat+1<=s.length
   omega
 · show s.length<=y.at_+(idxL 10 0 (s.drop y.at_)).toNat+1+(y.r-1)
   omega
 · show y.ts.length<=y.at_+(idxL 10 0 (s.drop y.at_)).toNat+1
   omega
 · rw [hr]
   exact he
theorem Zxf {s:List Nat} {res} {y:TkX} {c:Nat} (h:TkI s res y) (hc:s[y.at_]? =some c) (hb:blk c=false) (h35:c=35) (hi:idxL 10 0 (s.drop y.at_)<0):res=(y.ts,0,0):=by
 obtain ⟨k,hr,hk,hl,he⟩:=Zey h hc
 rw [if_neg (by rw [hb];decide),if_pos h35,if_pos hi] at he
 exact he.symm
theorem Z2n {s:List Nat} {res} {y:TkX} {c:Nat} (h:TkI s res y) (hc:s[y.at_]? =some c) (hb:blk c=false) (h35:c≠35) (hi:(tokP (s.drop y.at_)).2≠0):res=([],(y.at_:Int),(tokP (s.drop y.at_)).2):=by
 obtain ⟨k,hr,hk,hl,he⟩:=Zey h hc
 rw [if_neg (by rw [hb];decide),if_neg h35,if_pos hi] at he
 exact he.symm
theorem Z2o {s:List Nat} {res} {y:TkX} {c:Nat} (h:TkI s res y) (hc:s[y.at_]? =some c) (hb:blk c=false) (h35:c≠35) (hi:(tokP (s.drop y.at_)).2=0):TkI s res ⟨y.at_+(tokP (s.drop y.at_)).1.text.length,y.ts++ [⟨(tokP (s.drop y.at_)).1.kind,(tokP (s.drop y.at_)).1.text,(tokP (s.drop y.at_)).1.n,y.at_⟩],y.r-1⟩/\y.r-1+1<=y.r/\y.at_+(tokP (s.drop y.at_)).1.text.length<=s.length:=by
 obtain ⟨k,hr,hk,hl,he⟩:=Zey h hc
 rw [if_neg (by rw [hb];decide),if_neg h35,if_neg (by rw [hi];decide)] at he
 have h3:=h.2.2.1
 obtain ⟨n1,n2,_⟩:=Zpp hi
 rw [List.length_drop] at n2
 refine ⟨⟨?_,?_,?_,?_⟩,by omega,by omega⟩
 · show y.at_+(tokP (s.drop y.at_)).1.text.length<=s.length
   omega
 · show s.length<=y.at_+(tokP (s.drop y.at_)).1.text.length+(y.r-1)
   omega
 · show (y.ts++ [_]).length<=y.at_+(tokP (s.drop y.at_)).1.text.length
   rw [List.length_append]
   simp
   omega
 · rw [hr]
   exact he
theorem Znk (s:List Nat):PureC E 83 [.str false s] (.tup [.psl Th.toks (Y0 s).1 false,.int false .i64 (Y0 s).2.1,.int false .i64 (Y0 s).2.2]):=by
 refine Za E_ok (Ze E_ok Z7j 400) ?_
 rw [Zni];delta qBUg qBUp qBUl qBUh qBUi qBUj qBUk qBUm qBUn qBUo qBUq qBUr qBUs qBUt qBUu
 refine ⟨fun h=> ?_,fun h=> ?_⟩
 · have h:(s.length:Int)>2000:=by simpa using h
   unfold Y0
   rw [if_pos (by omega)]
   exact ⟨rfl,rfl,rfl,trivial⟩
 have h:¬(s.length:Int)>2000:=by simpa using h
 have hp:Y0 s=tksL s.length s 0 []:=by unfold Y0;rw [if_neg (by omega)]
 generalize Y0 s=res at hp
 refine ⟨fun x=>(x.1=false->x.2.ts= [])/\TkI s res x.2,Or.inl ⟨⟨0,[],s.length⟩,⟨fun _=>rfl,Nat.zero_le _,by show s.length<=0+s.length;omega,Nat.le_refl _,hp.symm⟩,rfl,⟨rfl,rfl,rfl,trivial⟩,trivial⟩,?_,?_⟩
 all_goals
  rintro y ⟨h0,hy⟩
  replace hy:TkI s res y:=hy
  refine ⟨fun hq=> ?_,fun hq=> ?_⟩
 · have h0:y.ts= []:=h0 rfl
   have hq:(y.at_:Int)<s.length:=by simpa using hq
   refine ⟨by omega,by omega,fun c hc=> ?_⟩
   have hc:s[y.at_]? =some c:=hc
   have bl:∀n:Nat,((c:Int)==(n:Int))=true->c=n:=fun n h=>by
    have:(c:Int)=n:=by simpa using h
    omega
   have nb:∀n:Nat,((c:Int)==(n:Int))=false->c≠n:=fun n h e=>by subst e;simp at h
   have gb:blk c=true->(∃(y_1:TkX),((false=false->y_1.ts= [])/\TkI s res y_1)/\y_1.3+(1:Nat)<=y.3/\true=true/\(s=s/\Value.slice none (0:Nat) (0:Nat)=Value.slice none (0:Nat) (0:Nat)/\wr IntKind.i64 ((↑(TkX.at_ y):Int)+(1:Int))=(↑(TkX.at_ y_1):Int)/\True)/\True):=fun hb=>
    ⟨⟨y.at_+1,y.ts,y.r-1⟩,⟨fun _=>h0,(Zpq hy hc hb).1⟩,(Zpq hy hc hb).2.1,rfl,⟨rfl,rfl,wr64 (by omega) (by omega),trivial⟩,trivial⟩
   refine ⟨fun h1=>Or.inl (gb (by rw [bl 32 h1];rfl)),fun h1=>⟨fun h2=>Or.inl (gb (by rw [bl 9 h2];rfl)),fun h2=>⟨fun h3=>Or.inl (gb (by rw [bl 13 h3];rfl)),fun h3=>⟨fun h4=>Or.inl (gb (by rw [bl 10 h4];rfl)),fun h4=> ?_⟩⟩⟩⟩
   have hb:blk c=false:=by
    unfold blk
    simp [nb 32 h1,nb 9 h2,nb 13 h3,nb 10 h4]
   have ea:Int.toNat (y.at_:Int)=y.at_:=by omega
   rw [ea]
   refine ⟨fun h5=> ?_,fun h5=> ?_⟩
   · have h35:c=35:=bl 35 h5
     refine ⟨⟨by omega,by omega⟩,fun h6=> ?_,fun h6=> ?_⟩
     · have h6:idxL 10 0 (s.drop y.at_)<0:=by simpa using h6
       have:=Zxf hy hc hb h35 h6
       rw [this,h0]
       exact ⟨rfl,rfl,rfl,trivial⟩
     · have h6:¬idxL 10 0 (s.drop y.at_)<0:=by simpa using h6
       obtain ⟨g1,g2,g3⟩:=Z2m hy hc hb h35 h6
       refine Or.inl ⟨⟨y.at_+(idxL 10 0 (s.drop y.at_)).toNat+1,y.ts,y.r-1⟩,⟨fun _=>h0,g1⟩,g2,rfl,⟨rfl,rfl,?_,trivial⟩,trivial⟩
       show wr IntKind.i64 ((y.at_:Int)+wr IntKind.i64 (idxL 10 0 (s.drop y.at_)+1))=((y.at_+(idxL 10 0 (s.drop y.at_)).toNat+1:Nat):Int)
       rw [show wr IntKind.i64 (idxL 10 0 (s.drop y.at_)+1)=idxL 10 0 (s.drop y.at_)+1 from wr64 (by omega) (by omega)]
       rw [wr64 (by omega) (by omega)]
       omega
   · have h35:c≠35:=nb 35 h5
     refine ⟨⟨by omega,by omega⟩,⟨by rw [List.length_drop];omega,by rw [List.length_drop];omega⟩,fun z hz=> ?_⟩
     subst hz
     refine ⟨fun h6=> ?_,fun h6=> ?_⟩
     · have h6:(tokP (s.drop y.at_)).2≠0:=by simpa using h6
       rw [Z2n hy hc hb h35 h6]
       exact ⟨rfl,rfl,rfl,trivial⟩
     · have h6:(tokP (s.drop y.at_)).2=0:=by simpa using h6
       obtain ⟨g1,g2,g3⟩:=Z2o hy hc hb h35 h6
       rw [h0] at g1
       refine Or.inr ⟨_,⟨(fun h=>by cases h),g1⟩,g2,rfl,⟨rfl,⟨rfl,rfl,trivial⟩,?_,trivial⟩,⟨rfl,rfl⟩,trivial⟩
       show wr IntKind.i64 ((y.at_:Int)+((tokP (s.drop y.at_)).1.text.length:Int))=((y.at_+(tokP (s.drop y.at_)).1.text.length:Nat):Int)
       rw [wr64 (by omega) (by omega)]
       omega
 · have hq:¬(y.at_:Int)<s.length:=by simpa using hq
   rw [Z2l hy (by omega),h0 rfl]
   exact ⟨rfl,rfl,rfl,trivial⟩
 · have hq:(y.at_:Int)<s.length:=by simpa using hq
   refine ⟨by omega,by omega,fun c hc=> ?_⟩
   have hc:s[y.at_]? =some c:=hc
   have bl:∀n:Nat,((c:Int)==(n:Int))=true->c=n:=fun n h=>by
    have:(c:Int)=n:=by simpa using h
    omega
   have nb:∀n:Nat,((c:Int)==(n:Int))=false->c≠n:=fun n h e=>by subst e;simp at h
   have gb:blk c=true->∃(y_1:TkX),((true=false->y_1.ts= [])/\TkI s res y_1)/\y_1.3+(1:Nat)<=y.3/\true=true/\(s=s/\((0:Nat)=(0:Nat)/\List.length (TkX.ts y)=List.length (TkX.ts y_1)/\True)/\wr IntKind.i64 ((↑(TkX.at_ y):Int)+(1:Int))=(↑(TkX.at_ y_1):Int)/\True)/\(TkX.ts y=TkX.ts y_1/\(0:Nat)=(0:Nat))/\True:=fun hb=>
    ⟨⟨y.at_+1,y.ts,y.r-1⟩,⟨(fun h=>by cases h),(Zpq hy hc hb).1⟩,(Zpq hy hc hb).2.1,rfl,⟨rfl,⟨rfl,rfl,trivial⟩,wr64 (by omega) (by omega),trivial⟩,⟨rfl,rfl⟩,trivial⟩
   refine ⟨fun h1=>Or.inr (gb (by rw [bl 32 h1];rfl)),fun h1=>⟨fun h2=>Or.inr (gb (by rw [bl 9 h2];rfl)),fun h2=>⟨fun h3=>Or.inr (gb (by rw [bl 13 h3];rfl)),fun h3=>⟨fun h4=>Or.inr (gb (by rw [bl 10 h4];rfl)),fun h4=> ?_⟩⟩⟩⟩
   have hb:blk c=false:=by
    unfold blk
    simp [nb 32 h1,nb 9 h2,nb 13 h3,nb 10 h4]
   have ea:Int.toNat (y.at_:Int)=y.at_:=by omega
   have h3:=hy.2.2.1
   rw [ea]
   refine ⟨fun h5=> ?_,fun h5=> ?_⟩
   · have h35:c=35:=bl 35 h5
     refine ⟨⟨by omega,by omega⟩,fun h6=> ?_,fun h6=> ?_⟩
     · have h6:idxL 10 0 (s.drop y.at_)<0:=by simpa using h6
       have:=Zxf hy hc hb h35 h6
       rw [this]
       exact ⟨⟨by omega,List.take_length⟩,rfl,rfl,trivial⟩
     · have h6:¬idxL 10 0 (s.drop y.at_)<0:=by simpa using h6
       obtain ⟨g1,g2,g3⟩:=Z2m hy hc hb h35 h6
       refine Or.inr ⟨_,⟨(fun h=>by cases h),g1⟩,g2,rfl,⟨rfl,⟨rfl,rfl,trivial⟩,?_,trivial⟩,⟨rfl,rfl⟩,trivial⟩
       show wr IntKind.i64 ((y.at_:Int)+wr IntKind.i64 (idxL 10 0 (s.drop y.at_)+1))=((y.at_+(idxL 10 0 (s.drop y.at_)).toNat+1:Nat):Int)
       rw [show wr IntKind.i64 (idxL 10 0 (s.drop y.at_)+1)=idxL 10 0 (s.drop y.at_)+1 from wr64 (by omega) (by omega)]
       rw [wr64 (by omega) (by omega)]
       omega
   · have h35:c≠35:=nb 35 h5
     refine ⟨⟨by omega,by omega⟩,⟨by rw [List.length_drop];omega,by rw [List.length_drop];omega⟩,fun z hz=> ?_⟩
     subst hz
     refine ⟨fun h6=> ?_,fun h6=> ?_⟩
     · have h6:(tokP (s.drop y.at_)).2≠0:=by simpa using h6
       rw [Z2n hy hc hb h35 h6]
       exact ⟨rfl,rfl,rfl,trivial⟩
     · have h6:(tokP (s.drop y.at_)).2=0:=by simpa using h6
       obtain ⟨g1,g2,g3⟩:=Z2o hy hc hb h35 h6
       refine ⟨⟨Nat.le_refl _,Nat.zero_le _,by omega⟩,Or.inr ⟨_,⟨(fun h=>by cases h),g1⟩,g2,rfl,⟨rfl,⟨rfl,?_,trivial⟩,?_,trivial⟩,⟨?_,rfl⟩,trivial⟩⟩
       · show y.ts.length+1=(y.ts++ [_]).length
         rw [List.length_append]
         rfl
       · show wr IntKind.i64 ((y.at_:Int)+((tokP (s.drop y.at_)).1.text.length:Int))=((y.at_+(tokP (s.drop y.at_)).1.text.length:Nat):Int)
         rw [wr64 (by omega) (by omega)]
         omega
       · show List.take y.ts.length y.ts++_=y.ts++_
         rw [List.take_length]
 · have hq:¬(y.at_:Int)<s.length:=by simpa using hq
   rw [Z2l hy (by omega)]
   exact ⟨⟨by omega,List.take_length⟩,rfl,rfl,trivial⟩
end
end Go.Proofs.YtpmkapclhlmbbaaGreatDoor
end
