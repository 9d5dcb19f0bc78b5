/- Merged texts: EngZK, TpE, TpF, TpG, TpL, EngZL, TpM, TpI, TpPa, TpIa, TpIb, EngZM, TpQ, TpPb, TpPc. -/
import Derived.Lib.ItoaNum
import Derived.Test.YtddgkebdlgglaaaGreatDoorMd
namespace Go.Proofs.YtddgkebdlgglaaaGreatDoor
set_option linter.unusedVariables false
set_option linter.unusedSimpArgs false
set_option linter.unnecessarySimpa false
set_option maxRecDepth 100000
section
open Go.RowKit
section
variable {Y : Thy} {E : Eng Y}
def two (cs:List (SV Y)):Hp Y:=fun b=>match Nat.beq b 0 with|true=>some (.raw cs 0 none)|false=>(match Nat.beq b 1 with|true=>some (.raw [.ptr 0 0] 0 none)|false=>none)
theorem Z22 (cs:List (SV Y)):two cs 0=some (.raw cs 0 none):=rfl
theorem Ybq (cs:List (SV Y)):two cs 1=some (.raw [.ptr 0 0] 0 none):=rfl
theorem Zjd {cs:List (SV Y)} {b:Nat} {x:Blk Y} (h:two cs b=some x):(b=0/\x= .raw cs 0 none)\/(b=1/\x= .raw [.ptr 0 0] 0 none):=by
 match b,h with
 |0,h=>cases h;exact .inl ⟨rfl,rfl⟩
 |1,h=>cases h;exact .inr ⟨rfl,rfl⟩
 |b+2,h=>cases h
theorem Z8j (cs:List (SV Y)):DomLt (two cs) 2:=fun b hb=>by
 obtain ⟨x,hx⟩:=Option.ne_none_iff_exists'.1 hb
 rcases Zjd hx with ⟨rfl,_⟩|⟨rfl,_⟩<;>omega
def σ2 (p q:Nat×Nat):Pl:=fun b=>match Nat.beq b 0 with|true=>some p|false=>(match Nat.beq b 1 with|true=>some q|false=>none)
theorem σ2_some {p q x:Nat×Nat} {b:Nat} (h:σ2 p q b=some x):(b=0/\x=p)\/(b=1/\x=q):=by
 match b,h with
 |0,h=>cases h;exact .inl ⟨rfl,rfl⟩
 |1,h=>cases h;exact .inr ⟨rfl,rfl⟩
 |b+2,h=>cases h
theorem Zo5 (cs cs':List (SV Y)) (v:SV Y):patch (two cs) 2 (mutR v cs')=two cs':=by
 funext b
 rw [Zf]
 match b with
 |0=>simp [mutR,at1,two]
 |1=>rw [if_neg (by simp [mutR])];rfl
 |b+2=>rw [if_neg (by simp [mutR])];rfl
def Ybr (E:Eng Y) (f:FuncId) (cs rest:List (SV Y)) (v:SV Y) (cs':List (SV Y)):Prop:=W8 E f (.ptr 1 0::rest) (two cs) 2 (mutR v cs')
def Ybs (E:Eng Y) (f:FuncId) (cs rest:List (SV Y)) (p:Value):Prop:=Zmh E f (.ptr 1 0::rest) (two cs) 2 (panR p)
theorem Zo6 (hE:EngOk E) {B:Nat} {σ:Pl} {h:Hp Y} {g:GH} {w:World} {b r z c r1 z1:Nat} {cs cs0:List (SV Y)} {fc:Nat} {tg tc:Option Y.Th} (hI:Inv E B σ h g w) (hb:h b=some (.raw cs 0 tg)) (hc:h c=some (.raw [.ptr b 0] fc tc)) (hσ:σ b=some (r,z)) (hσc:σ c=some (r1,z1)) (hbc:b≠c) (hfc:fc=0) (hlen:cs.length=cs0.length) (hn:nidL 0 cs0=true)
 (hden:∀σ g (j:Nat) sv',cs0[j]? =some sv'->∃sv,cs[j]? =some sv/\∀u,Den E σ g sv u->Den E σ g sv' u):Inv E B (σ2 (r,z) (r1,z1)) (two cs0) g w:=by
 have hne:r≠r1:=by
  rintro rfl
  exact hbc (hI.inj b c _ _ _ (by rw [hb];simp) (by rw [hc];simp) hσ hσc)
 refine ⟨hI.gc,hI.gm,fun x y hx=> ?_,fun x x' q z2 z3 h1 h2 h3 h4=> ?_,fun x q z' hs=> ?_,fun x y q z' o v hx hs hv=> ?_,fun x y q z' hx hs=> ?_,hI.glob⟩
 · rcases Zjd hx with ⟨rfl,rfl⟩|⟨rfl,rfl⟩
   · refine ⟨r,z,rfl,?_⟩
     obtain ⟨r',z',hσ',arr,e,k1,k2,k3,k4,k5⟩:=hI.blk b _ hb
     rw [hσ] at hσ';cases hσ'
     refine ⟨arr,e,k1,k2,?_,fun j sv' hj=> ?_,trivial⟩
     · simp only [Blk.cells] at k3⊢;omega
     · obtain ⟨sv,h1,h2⟩:=hden σ g j sv' hj
       obtain ⟨v,m1,m2⟩:=k4 j sv h1
       exact ⟨v,m1,Zt hE (h2 v m2) (fun b p hb=>by omega) (Zm hn hj)⟩
   · refine ⟨r1,z1,rfl,?_⟩
     obtain ⟨r',z',hσ',arr,e,k1,k2,k3,k4,k5⟩:=hI.blk c _ hc
     rw [hσc] at hσ';cases hσ'
     refine ⟨arr,e,k1,k2,k3,fun j sv' hj=> ?_,trivial⟩
     cases j with
     |zero=>
      cases hj
      obtain ⟨v,m1,m2⟩:=k4 0 _ rfl
      refine ⟨v,m1,?_⟩
      cases m2
      rename_i hs
      rw [hσ] at hs;cases hs
      exact .ptr (E:=E) (b:=0) rfl
     |succ j=>cases hj
 · rcases σ2_some h3 with ⟨rfl,e1⟩|⟨rfl,e1⟩<;>rcases σ2_some h4 with ⟨rfl,e2⟩|⟨rfl,e2⟩
   · rfl
   · cases e1;cases e2;exact absurd rfl hne
   · cases e1;cases e2;exact absurd rfl hne
   · rfl
 · rcases σ2_some hs with ⟨rfl,e⟩|⟨rfl,e⟩
   · cases e;exact hI.base b _ _ hσ
   · cases e;exact hI.base c _ _ hσc
 · rcases σ2_some hs with ⟨rfl,e⟩|⟨rfl,e⟩
   · cases e
     have h2:o<0:=hI.fz b (.raw cs 0 tg) _ _ o v hb hσ hv
     omega
   · cases e
     subst hfc
     have h2:o<0:=hI.fz c (.raw [.ptr b 0] 0 tc) _ _ o v hc hσc hv
     omega
 · rcases σ2_some hs with ⟨rfl,e⟩|⟨rfl,e⟩
   · cases e;exact hI.fm b _ _ _ hb hσ
   · cases e;exact hI.fm c _ _ _ hc hσc
section
variable {X α β ε : Type}
def Zcg (M:MutI E X α β ε) (f:FuncId) (x:X) (a:α) (out:Except ε (β×X)):Prop:=
 match out with
 | .ok (y,x')=>Ybr E f (M.dS.enc x) (M.dA.enc a) (M.v y) (M.dS.enc x')
 | .error e=>Ybs E f (M.dS.enc x) (M.dA.enc a) (M.pv e)
def Zzg (M:MutI E X α β ε) (pre:X->α->Prop) (f:X->α->Except ε (β×X)):Sum Y:=fun args h _ k=>
 match args with
 | .ptr c 0::rest=>
  (match h c with
  |some (.raw [.ptr b 0] 0 _)=>
   (match Nat.beq b c,h b with
   |false,some (.raw cs 0 _)=>
    (match M.dS.dec cs,M.dA.dec rest with
    |some x,some a=>pre x a/\(∀y x',f x a= .ok (y,x')->k (Zgt b (M.v y) (M.dS.enc x')))/\(∀e,f x a= .error e->k (Zu3 b (M.pv e)))
    |_,_=>False)
   |_,_=>False)
  |_=>False)
 |_=>False
theorem Zlr {M:DcL E α} {rest:List (SV Y)} {a:α} (hE:EngOk E) (hr:M.dec rest=some a) (hn:nidL 0 (M.enc a)=true) {c:Nat} {p q:Nat×Nat} {σ:Pl} {g:GH} {vals:List Value} (hσ:σ c=some q) (hd:DenL E σ g (.ptr c 0::rest) vals):DenL E (σ2 p q) g (.ptr 1 0::M.enc a) vals:=by
 obtain ⟨k1,k2,k3⟩:=M.ok _ _ hr
 refine ⟨by rw [<-hd.1];simp [k2],fun j sv u h1 h2=> ?_⟩
 cases j with
 |zero=>
  simp at h1;subst h1
  have:=hd.2 0 _ u rfl h2
  cases this
  rename_i hs
  rw [hσ] at hs;cases hs
  exact .ptr (E:=E) (b:=1) rfl
 |succ j=>
  have h1:(M.enc a)[j]? =some sv:=by simpa using h1
  obtain ⟨s0,h3,h4⟩:=k3 σ g j sv h1
  exact Zt hE (h4 u (hd.2 (j+1) s0 u (by simpa using h3) h2)) (fun b p hb=>by omega) (Zm hn h1)
theorem Zje (hE:EngOk E) {f:Nat} (hg:FnGood E.P f) {M:MutI E X α β ε} {pre:X->α->Prop} {fn:X->α->Except ε (β×X)} (hp:∀x a,pre x a->Zcg M f x a (fn x a)):SumOk E f (Zzg M pre fn):=by
 refine ⟨hg,fun args h i k hD hk=> ?_⟩
 unfold Zzg at hk
 split at hk
 case h_2=>exact hk.elim
 rename_i c rest
 split at hk
 case h_2=>exact hk.elim
 rename_i b tc hc
 split at hk
 case h_2=>exact hk.elim
 rename_i cs tg hbc hb
 have hbc:b≠c:=by intro e;subst e;rw [Nat.beq_refl] at hbc;cases hbc
 split at hk
 case h_2=>exact hk.elim
 rename_i x a hx ha
 obtain ⟨hpp,hk1,hk2⟩:=hk
 have hm:=hp x a hpp
 obtain ⟨c1,c2,c3⟩:=M.dS.ok _ _ hx
 have hbn:h b≠none:=by rw [hb];simp
 unfold Zcg at hm
 split at hm
 · rename_i y x' ho
   refine ⟨_,hk1 y x' ho,fun b' hb'=>by
    have:b'∈ [b]:=hb'
    rw [List.mem_singleton] at this
    rw [this];exact hbn,.inl ?_⟩
   intro B σ g w vals hh hrd hI hB hfree hd
   obtain rfl:hh=h:=funext fun b=>hrd b trivial
   obtain ⟨r,z,hσ,_⟩:=hI.blk b _ hb
   obtain ⟨r1,z1,hσc,_⟩:=hI.blk c _ hc
   refine (hm B (σ2 (r,z) (r1,z1)) g w vals _ (fun _ _=>rfl) (Zo6 hE hI hb hc hσ hσc hbc rfl c2 (M.hS x) c3) hB (fun c h1 h2=>by simp [mutR] at h2;omega) (Zlr hE ha (M.hA a) hσc hd)).mono ?_
   rintro en w' ⟨u,he,σ',g',hS,hI',hv⟩
   rw [Zo5] at hI'
   obtain ⟨q1,q2⟩:=Wu hE (i:=i) (v:=M.v y) (v0:=M.v y) (x':=some (M.dS.enc x')) hI hb hσ rfl hS hI' (fun c hc=>by cases hc;rfl) (fun c hc=>by cases hc;exact M.hS x')
   exact ⟨u,he,σ,g',q1,q2,Zt hE hv (fun b p hb=>by omega) (M.hv y)⟩
 · rename_i e ho
   refine ⟨_,hk2 e ho,fun b' hb'=>by
    have:b'∈ [b]:=hb'
    rw [List.mem_singleton] at this
    rw [this];exact hbn,.inr ?_⟩
   obtain ⟨p,hp',hm⟩:=hm
   have hp':(SV.pan (M.pv e):SV Y)= .pan p:=hp'
   cases hp'
   refine ⟨_,rfl,fun B σ g w vals hI hB hfree hd=> ?_⟩
   obtain ⟨r,z,hσ,_⟩:=hI.blk b _ hb
   obtain ⟨r1,z1,hσc,_⟩:=hI.blk c _ hc
   refine (hm B (σ2 (r,z) (r1,z1)) g w vals (Zo6 hE hI hb hc hσ hσc hbc rfl c2 (M.hS x) c3) hB (fun c h1 h2=>by simp [panR] at h2;omega) (Zlr hE ha (M.hA a) hσc hd)).mono ?_
   rintro en w' ⟨he,σ',g',hS,hI'⟩
   obtain ⟨q1,q2⟩:=Wu hE (i:=i) (v:= .pan (M.pv e)) (v0:= .unk) (x':=none) hI hb hσ rfl hS hI' (fun c hc=>by cases hc) (fun c hc=>by cases hc)
   exact ⟨he,σ,g',q1,q2⟩
theorem Z23 {B:Nat} {p q:Nat×Nat} {h:Hp Y} {g g':GH} {w w':World} {σ':Pl} {n:Nat} {mods:List Nat} (hmods:∀b∈mods,b=0) (hS:Stp 2 n mods (σ2 p q) g w σ' g' w') (hI':Inv E B σ' h g' w') (h0:h 0≠none):∀b r z,b≠0->b≠1->h b≠none->σ' b=some (r,z)->w.heap.size<=r:=by
 intro b r z hb hb1 hn hs
 have hs0:σ2 p q b=none:=by
  match b with
  |0=>exact absurd rfl hb
  |1=>exact absurd rfl hb1
  |b+2=>rfl
 rcases hS.blk b r z hs0 hs with h1|⟨b',h1,z',h2⟩
 · exact h1
 · obtain rfl:=hmods b' h1
   have h3:=hS.sig 0 _ h2
   exact absurd (hI'.inj b 0 r z z' hn h0 hs h3) hb
noncomputable def Z8k (M:MutI E X α β ε) (gth:List (SV Y)->Option Y.Th) (n:Nat) (dec:SV Y->Option β) (decP:Value->Option ε) (x:X) (out:Except ε (β×X)) (r:Res Y):Prop:=
 match memB 1 r.mods with
 |true=>False
 |false=>(match V3 r.v with
  |some q=>(match decP q with|some e=>out= .error e|none=>False)
  |none=>frzK E gth (patch (two (M.dS.enc x)) 2 r) n r.v fun v' bs=>
   (match patch (two (M.dS.enc x)) 2 r 0 with
   |some (.raw c2 0 _)=>frzL (frzK E gth (patch (two (M.dS.enc x)) 2 r) n) c2 fun cs' bs'=>
    (match memB 0 (bs++bs')||memB 1 (bs++bs'),dec v',M.dS.dec cs' with
    |false,some y,some x'=>out= .ok (y,x')
    |_,_,_=>False)
   |_=>False))
theorem Z24 (hE:EngOk E) {l:List (SV Y)} (hn:nidL 0 l=true) {p q:Nat×Nat} {σ:Pl} {g:GH} {vals:List Value} (hσ:σ 1=some q) (hd:DenL E σ g (.ptr 1 0::l) vals):DenL E (σ2 p q) g (.ptr 1 0::l) vals:=by
 refine ⟨hd.1,fun j sv u h1 h2=> ?_⟩
 cases j with
 |zero=>
  simp at h1;subst h1
  have:=hd.2 0 _ u rfl h2
  cases this
  rename_i hs
  rw [hσ] at hs;cases hs
  exact .ptr (E:=E) (b:=1) rfl
 |succ j=>
  have h1:l[j]? =some sv:=by simpa using h1
  exact Zt hE (hd.2 (j+1) sv u (by simpa using h1) h2) (fun b p hb=>by omega) (Zm hn h1)
theorem Zls (hE:EngOk E) {call:Nat->List (SV Y)->Hp Y->Nat->(Res Y->Prop)->Prop} (hcall:Y7 E call) {M:MutI E X α β ε} {gth:List (SV Y)->Option Y.Th} {n:Nat} {dec:SV Y->Option β} {decP:Value->Option ε} (hdec:∀v y,dec v=some y->∀σ g u,Den E σ g v u->Den E σ g (M.v y) u) (hdecP:∀q e,decP q=some e->M.pv e=q)
 {f:Nat} {x:X} {a:α} {out:Except ε (β×X)} (hk:call f (.ptr 1 0::M.dA.enc a) (two (M.dS.enc x)) 2 (Z8k M gth n dec decP x out)):Zcg M f x a out:=by
 obtain ⟨r,hr,hR,htri⟩:=hcall f _ _ _ _ (Z8j _) hk
 unfold Z8k at hr
 split at hr
 · exact hr.elim
 rename_i hm1
 have hmods:∀b∈r.mods,b=0:=fun b hb=>by
  obtain ⟨y,hy⟩:=Option.ne_none_iff_exists'.1 (hR b hb)
  rcases Zjd hy with ⟨e,_⟩|⟨e,_⟩
  · exact e
  · subst e;rw [memB_iff.2 hb] at hm1;cases hm1
 have free1:∀(p q:Nat×Nat) (b:Nat),2<=b->b<2+r.n->σ2 p q b=none:=by
  intro p q b hb _
  match b,hb with
  |b+2,_=>rfl
 have stp:∀(p q:Nat×Nat) (g g' g'':GH) (w w':World) (σ':Pl),Stp 2 r.n r.mods (σ2 p q) g w σ' g' w'->g'.le g''->(∀q o v,g''.cell q o=some v->g'.cell q o=some v\/w.heap.size<=q)->(∀q es,g''.obj q=some es->g'.obj q=some es\/w.heap.size<=q)->Stp 2 0 [0] (σ2 p q) g w (σ2 p q) g'' w':=by
  intro p q g g' g'' w w' σ' hS hle hc hm
  refine ⟨.refl _,fun b q h=> .inl h,hS.gle.trans hle,fun q o v hv=> ?_,fun q es hv=> ?_,fun q hq hx=>hS.heap q hq fun b hb=>hx b (by rw [hmods b hb];simp),hS.size,hS.os,hS.tape,hS.output,fun b q z h1 h2=>by rw [h1] at h2;cases h2⟩
  · rcases hc q o v hv with h1|h1
    · rcases hS.gcnew q o v h1 with h2|h2|⟨b,h2,h3⟩
      · exact .inl h2
      · exact .inr (.inl h2)
      · exact .inr (.inr ⟨b,by rw [hmods b h2];simp,h3⟩)
    · exact .inr (.inl h1)
  · rcases hm q es hv with h1|h1
    · exact hS.gmnew q es h1
    · exact .inr h1
 have start:∀(B:Nat) (σ:Pl) (g:GH) (w:World) (vals:Array Value),Inv E B σ (two (M.dS.enc x)) g w->DenL E σ g (.ptr 1 0::M.dA.enc a) vals.toList->∃rr zz r1 z1,σ 0=some (rr,zz)/\σ 1=some (r1,z1)/\Inv E B (σ2 (rr,zz) (r1,z1)) (two (M.dS.enc x)) g w/\DenL E (σ2 (rr,zz) (r1,z1)) g (.ptr 1 0::M.dA.enc a) vals.toList:=by
  intro B σ g w vals hI hd
  obtain ⟨rr,zz,hσ,_⟩:=hI.blk 0 _ (Z22 _)
  obtain ⟨r1,z1,hσ1,_⟩:=hI.blk 1 _ (Ybq _)
  exact ⟨rr,zz,r1,z1,hσ,hσ1,Zo6 hE hI (Z22 _) (Ybq _) hσ hσ1 (by omega) rfl rfl (M.hS x) (fun σ g j sv' hj=>⟨sv',hj,fun u h=>h⟩),Z24 hE (M.hA a) hσ1 hd⟩
 split at hr
 · rename_i q hq
   split at hr
   case h_2=>exact hr.elim
   rename_i e he
   subst hr
   show Ybs E f _ _ (M.pv e)
   refine ⟨_,rfl,fun B σ g w vals hI hB hfree hd=> ?_⟩
   obtain ⟨rr,zz,r1,z1,hσ,hσ1,hI1,hd1⟩:=start B σ g w vals hI hd
   refine (htri.panic hq hI1 hB (free1 _ _) hd1).mono ?_
   rintro en w' ⟨rfl,σ',g',hS,hI'⟩
   refine ⟨by rw [hdecP q e he],?_⟩
   have hS1:=stp _ _ g g' g' w w' σ' hS (.refl _) (fun _ _ _ h=> .inl h) (fun _ _ h=> .inl h)
   have hI2:Inv E B (σ2 (rr,zz) (r1,z1)) (fun _=>none) g' w':=⟨hI'.gc,hI'.gm,(fun b x hx=>by cases hx),fun b b' r z z' h1=>absurd rfl h1,fun b r z hs=>⟨(hI1.base b r z hs).1,Nat.lt_of_lt_of_le (hI1.base b r z hs).2 hS.size⟩,(fun b x r z o v hx=>by cases hx),(fun b x r z hx=>by cases hx),hI'.glob⟩
   obtain ⟨q1,q2⟩:=Wu hE (i:=2) (v:= .pan (M.pv e)) (v0:= .unk) (x':=none) hI (Z22 _) hσ rfl hS1 hI2 (fun c hc=>by cases hc) (fun c hc=>by cases hc)
   refine ⟨σ,g',q1,?_⟩
   have e2:patch (two (M.dS.enc x)) 2 ⟨.pan (M.pv e),0,[0],at1 0 (rawO none),none⟩=patch (two (M.dS.enc x)) 2 (panR (M.pv e)):=by
    funext b
    rw [Zf,Zf]
    by_cases c:b=0
    · subst c
      rw [if_pos (by simp),if_pos (by simp [panR])]
      rfl
    · rw [if_neg (by simp [c]),if_neg (by simp [panR,c])]
   rw [<-e2];exact q2
 · rename_i hq
   have htri:=htri.tri hq
   obtain ⟨v',bs,hr,o1⟩:=Vv hE n r.v _ hr
   split at hr
   case h_2=>exact hr.elim
   rename_i c2 tg h0
   obtain ⟨cs',bs',hr,o2⟩:=W9 (Vv hE n) hr
   split at hr
   case h_2=>exact hr.elim
   rename_i y x' hmem hy hx'
   rw [Bool.or_eq_false_iff] at hmem
   subst hr
   show Ybr E f _ _ (M.v y) _
   intro B σ g w vals hh hrd hI hB hfree hd
   obtain rfl:hh=two (M.dS.enc x):=funext fun b=>hrd b trivial
   obtain ⟨rr,zz,r1,z1,hσ,hσ1,hI1,hd1⟩:=start B σ g w vals hI hd
   refine (htri B _ g w vals _ (fun _ _=>rfl) hI1 hB (free1 _ _) hd1).mono ?_
   rintro en w' ⟨u,rfl,σ',g',hS,hI',hv⟩
   refine ⟨u,rfl,?_⟩
   have hs0:σ' 0=some (rr,zz):=hS.sig 0 _ rfl
   have hrr:rr<w.heap.size:=(hI1.base 0 rr zz rfl).2
   have hfar:=Z23 hmods hS hI' (by rw [h0];simp)
   have hle:=Zba (n:=w.heap.size) hI'
   have hkept:Kept E (patch (two (M.dS.enc x)) 2 r) σ' (bs++bs') w' (allG g' w.heap.size w'):=by
    intro b hb q z y1 hs hy1 j v hj hv
    have hb0:b≠0:=by
     rintro rfl
     have:=memB_iff.2 hb
     rw [this] at hmem;cases hmem.1
    have hb1:b≠1:=by
     rintro rfl
     have:=memB_iff.2 hb
     rw [this] at hmem;cases hmem.2
    show (if w.heap.size<=q then w'.cell? ⟨q,j,none⟩ else g'.cell q j)=some v
    rw [if_pos (hfar b q z hb0 hb1 (by rw [hy1];simp) hs)]
    exact hv
   have hval:=o1.den _ σ' g' w' B u _ (fun _ _=>rfl) hI' hle (hkept.sub fun b hb=>List.mem_append_left _ hb) hv
   have hcell:∀q o v,(allG g' w.heap.size w').cell q o=some v->g'.cell q o=some v\/w.heap.size<=q:=by
    intro q o v hv
    have hv:(if w.heap.size<=q then w'.cell? ⟨q,o,none⟩ else g'.cell q o)=some v:=hv
    split at hv
    · exact .inr (by assumption)
    · exact .inl hv
   have hobj:∀q es,(allG g' w.heap.size w').obj q=some es->g'.obj q=some es\/w.heap.size<=q:=by
    intro q es hv
    have hv:(if w.heap.size<=q then (match w'.heap[q]? with|some (.map es _)=>some es|_=>none) else g'.obj q)=some es:=hv
    split at hv
    · exact .inr (by assumption)
    · exact .inl hv
   have hS1:=stp _ _ g g' _ w w' σ' hS hle hcell hobj
   have hG:=Zd0 (n:=w.heap.size) (B':=B) hI'
   obtain ⟨c1,c2',c3⟩:=M.dS.ok _ _ hx'
   have hI2:Inv E B (σ2 (rr,zz) (r1,z1)) (one (M.dS.enc x')) (allG g' w.heap.size w') w':=by
    refine ⟨hG.gc,hG.gm,fun b y1 hy1=> ?_,fun b b' q z z' h1 h2 _ _=>by rw [Zbn h1,Zbn h2],fun b q z hs=>⟨(hI1.base b q z hs).1,Nat.lt_of_lt_of_le (hI1.base b q z hs).2 hS.size⟩,fun b y1 q z o v hy1 hs hv=> ?_,fun b y1 q z hy1 hs=> ?_,hG.glob⟩
    · obtain ⟨rfl,rfl⟩:=Vp hy1
      refine ⟨rr,zz,rfl,?_⟩
      obtain ⟨r2,z2,m1,arr,e,k1,k2,k3,k4,k5⟩:=hI'.blk 0 _ h0
      rw [hs0] at m1;cases m1
      have hl:cs'.length=c2.length:=o2.len
      refine ⟨arr,e,k1,k2,?_,fun j sv hj=> ?_,trivial⟩
      · simp only [Blk.cells] at k3⊢;omega
      · obtain ⟨s1,h1,h2⟩:=c3 σ0 (allG g' w.heap.size w') j sv hj
        have hjl:j<c2.length:=by rw [<-hl];exact (List.getElem?_eq_some_iff.1 h1).1
        obtain ⟨v,m1,m2⟩:=k4 j _ (List.getElem?_eq_getElem hjl)
        have:=o2.den _ σ' g' w' B _ (fun _ _=>rfl) hI' hle (hkept.sub fun b hb=>List.mem_append_right _ hb) j _ s1 v (List.getElem?_eq_getElem hjl) h1 m2
        exact ⟨v,m1,(h2 v this).mono (fun b p h=>by cases h) (.refl _)⟩
    · obtain ⟨rfl,rfl⟩:=Vp hy1
      rcases σ2_some hs with ⟨_,e⟩|⟨e0,_⟩
      case inr=>omega
      cases e
      rcases hcell _ o v hv with h1|h1
      · have h2:o<0:=hI'.fz 0 (.raw c2 0 tg) _ _ o v h0 hs0 h1
        omega
      · omega
    · obtain ⟨rfl,rfl⟩:=Vp hy1
      rcases σ2_some hs with ⟨_,e⟩|⟨e0,_⟩
      case inr=>omega
      cases e
      cases hg':(allG g' w.heap.size w').obj rr with
      |none=>rfl
      |some es=>
       rcases hobj _ es hg' with h1|h1
       · rw [hI'.fm 0 _ _ _ h0 hs0] at h1;cases h1
       · omega
   obtain ⟨q1,q2⟩:=Wu hE (i:=2) (v:=M.v y) (v0:= .unk) (x':=some (M.dS.enc x')) hI (Z22 _) hσ rfl hS1 hI2 (fun c hc=>by cases hc;rfl) (fun c hc=>by cases hc;exact M.hS x')
   exact ⟨σ,_,q1,q2,(hdec v' y hy _ _ u hval).mono (fun b p h=>by cases h) (.refl _)⟩
end
end
end
section
open Go
noncomputable def mK2 {α β:Type} (dA:DcL E α) (hA:∀a,nidL 0 (dA.enc a)=true) (d:Dc E β) (hv:∀y,nid 0 (d.enc y)=true) (l:List Tok) (e:Int) (out:PR β):Res thy->Prop:=
 Z8k (mI dA hA d hv) (fun _=>none) 3 d.dec Zqg (l,e,()) out
theorem Zod {F:Fns thy} (hF:FnsOk E F) {n:Nat} {α β:Type} {dA:DcL E α} {hA:∀a,nidL 0 (dA.enc a)=true} {d:Dc E β} {hv:∀y,nid 0 (d.enc y)=true} {f:Nat} {l:List Tok} {e:Int} {a:α} {out:PR β}
 (hk:Zg E F (vc E F n) f (.ptr 1 0::dA.enc a) (two [.psl Th.toks l false,.int false .i64 e]) 2 (mK2 dA hA d hv l e out)):Zcg (mI dA hA d hv) f (l,e,()) a out:=
 Zls E_ok (Zi E_ok hF n) (fun v y h=>(d.ok v y h).2.2) Zkn (x:=(l,e,())) hk
def sMul:List Nat:= [42]
def Za5:List Nat:= [43]
def Vm:List Nat:= [45]
def op1 (l:List Tok):Int×List Tok:=if isW sMul l then (5,l.tail) else (0,l)
def op2 (l:List Tok):Int×List Tok:=if isW Za5 l then (3,l.tail) else if isW Vm l then (4,l.tail) else (0,l)
def pOp (o:List Tok->Int×List Tok) (l:List Tok) (e:Int):PR Int:= .ok ((o l).1,(o l).2,e,())
theorem Z13 (l:List Tok) (e:Int) (out:PR Int):Zg E Fme (vc E Fme 400) 102 [.ptr 1 0] (two [.psl Th.toks l false,.int false .i64 e]) 2 (mK2 .nil n0 dN (fun _=>rfl) l e out)=(
(isW [(42:Nat)] l=true->out=Except.ok ((5:Int),List.tail l,e,()))/\(isW [(42:Nat)] l=false->out=Except.ok ((0:Int),l,e,()))):=by kernel_rfl
theorem Z14 (l:List Tok) (e:Int) (out:PR Int):Zg E Fme (vc E Fme 400) 103 [.ptr 1 0] (two [.psl Th.toks l false,.int false .i64 e]) 2 (mK2 .nil n0 dN (fun _=>rfl) l e out)=(
(isW [(43:Nat)] l=true->out=Except.ok ((3:Int),List.tail l,e,()))/\(isW [(43:Nat)] l=false->(isW [(45:Nat)] l=true->out=Except.ok ((4:Int),List.tail l,e,()))/\(isW [(45:Nat)] l=false->out=Except.ok ((0:Int),l,e,())))):=by kernel_rfl
theorem Z7n (l:List Tok) (e:Int):Zcg (mI .nil n0 dN (fun _=>rfl)) 102 (l,e,()) () (pOp op1 l e):=by
 refine Zod Zez (n:=400) (a:=()) ?_
 rw [show (DcL.nil (E:=E)).enc ()= [] from rfl,Z13]
 exact ⟨fun h=>by simp [pOp,op1,sMul,h],fun h=>by simp [pOp,op1,sMul,h]⟩
theorem Z7o (l:List Tok) (e:Int):Zcg (mI .nil n0 dN (fun _=>rfl)) 103 (l,e,()) () (pOp op2 l e):=by
 refine Zod Zez (n:=400) (a:=()) ?_
 rw [show (DcL.nil (E:=E)).enc ()= [] from rfl,Z14]
 exact ⟨fun h=>by simp [pOp,op2,Za5,h],fun h=>⟨fun h2=>by simp [pOp,op2,Za5,Vm,h,h2],fun h2=>by simp [pOp,op2,Za5,Vm,h,h2]⟩⟩
theorem Zoe (l:List Tok):(op1 l).2.length<=l.length:=by
 unfold op1;split
 · have:=Zp (by assumption);show l.tail.length<=_;omega
 · exact Nat.le_refl _
theorem Zof (l:List Tok):(op2 l).2.length<=l.length:=by
 unfold op2;split
 · have:=Zp (by assumption);show l.tail.length<=_;omega
 · split
   · have:=Zp (by assumption);show l.tail.length<=_;omega
   · exact Nat.le_refl _
def Yw (o:List Tok->Int×List Tok) (pf:PE):Nat->Ex->Int->List Tok->Int->PR Ex
 |0,x,_,l,e=> .ok (x,l,e,())
 |k+1,x,op,l,e=>
  if op=0 then .ok (x,l,e,())
  else match pf l e with
   | .error er=> .error er
   | .ok (y,z)=>Yw o pf k (.mk op 0 0 0 0 0 [x,y]) (o z.1).1 (o z.1).2 z.2.1
def pCh (o:List Tok->Int×List Tok) (pf:PE) (l:List Tok) (e:Int):PR Ex:=
 match pf l e with
 | .error er=> .error er
 | .ok (y,z)=>Yw o pf ((o z.1).2.length+1) y (o z.1).1 (o z.1).2 z.2.1
noncomputable def Sop1:Sum thy:=Zzg (mI .nil n0 dN (fun _=>rfl)) (fun _ _=>True) fun x _=>pOp op1 x.1 x.2.1
noncomputable def Sop2:Sum thy:=Zzg (mI .nil n0 dN (fun _=>rfl)) (fun _ _=>True) fun x _=>pOp op2 x.1 x.2.1
theorem Z7p:SumOk E 102 Sop1:=Zje E_ok (Zd rfl) fun x _ _=>Z7n x.1 x.2.1
theorem Z7q:SumOk E 103 Sop2:=Zje E_ok (Zd rfl) fun x _ _=>Z7o x.1 x.2.1
structure CX where
 e:Ex
 op:Int
 l:List Tok
 ed:Int
 k:Nat
def celP (T:Fr thy):Nat:=match T 2 with| .fn _ _ [.ptr c _]=>c|_=>0
def parP (T:Fr thy) (h:Hp thy):Nat:=match h (celP T) with|some (.raw [.ptr p _] _ _)=>p|_=>0
noncomputable def Ach:Fr thy->Hp thy->Nat->Ann thy:=fun T h i=>{X:=CX,fr:=fun x=> [(1,T 1),(2,T 2),(6,T 6),(7,T 7),(8,.int false .i64 x.op)],bl:=fun x=>(parP T h,.raw [.psl Th.toks x.l false,.int false .i64 x.ed] 0 none)::(celP T,.raw [.ptr (parP T h) 0] 0 none)::(bOf (T 7),.raw (E.enc Th.exprs x.e) 0 none)::blkP h (T 6),src:=fun _=> [],md:= [parP T h,bOf (T 7)],ih:=i,M:=i+60,meas:=fun x=>x.k,fz:= [7]}
noncomputable def Sfac (n:Nat) (pf:PE):Sum thy:=sumM (mI .nil n0 dEx (fun _=>rfl)) (fun x _=>x.1.length<n) fun x _=>pf x.1 x.2.1
noncomputable def Stm (n:Nat) (pf:PE):Sum thy:=Zzg (mI .nil n0 dEx (fun _=>rfl)) (fun x _=>x.1.length<n) fun x _=>pf x.1 x.2.1
noncomputable def Ftm (n:Nat) (pf:PE):Fns thy:=addL (addS (addS F0 101 (Sfac n pf)) 102 Sop1) 100 3 Ach E
noncomputable def Fxp (n:Nat) (pf:PE):Fns thy:=addL (addS (addS F0 99 (Stm n pf)) 103 Sop2) 100 3 Ach E
abbrev qBZ5:=(0:Nat)
abbrev qBZ3:=(0:Int)
abbrev qBZ1:=(qBZ3=qBZ3/\qBZ3=qBZ3/\qBZ3=qBZ3/\qBZ3=qBZ3/\qBZ3=qBZ3/\qBZ3=qBZ3/\Value.slice none qBZ5 qBZ5=Value.slice none qBZ5 qBZ5/\True)
abbrev qBZ2 (a0:Int) (b0:CX):=((Fn.func (101:Nat)=Fn.func (101:Nat)/\(qBZ5=qBZ5/\True)/\True)/\(Fn.func (102:Nat)=Fn.func (102:Nat)/\True/\qBZ5=qBZ5/\True)/\qBZ5=qBZ5/\qBZ5=qBZ5/\a0=CX.op b0/\True)
abbrev qBZ4:=(false=true->false=true)
theorem Zxn (n:Nat) (pf:PE) (l:List Tok) (e:Int) (out:PR Ex):Zg E (Ftm n pf) (vc E (Ftm n pf) 400) 99 [.ptr 1 0] (two [.psl Th.toks l false,.int false .i64 e]) 2 (mK2 .nil n0 dEx (fun _=>rfl) l e out)=(
 List.length l+(1:Nat)<=n/\(∀(y:Ex) (x':PX),pf l e=Except.ok (y,x')->True/\(∀(y_1:Int) (x'_1:PX),pOp op1 (Prod.fst x') (Prod.fst (Prod.snd x'))=Except.ok (y_1,x'_1)->∃(R:CX->Prop),(∃(x:CX),R x/\true=true/\(qBZ2 y_1 x)/\((Prod.fst x'_1=CX.l x/\qBZ4)/\Prod.fst (Prod.snd x'_1)=CX.ed x/\True)/\(qBZ5=qBZ5/\True)/\(Ex.op y=Ex.op (CX.e x)/\Ex.n y=Ex.n (CX.e x)/\Ex.d0 y=Ex.d0 (CX.e x)/\Ex.d1 y=Ex.d1 (CX.e x)/\Ex.d2 y=Ex.d2 (CX.e x)/\Ex.d3 y=Ex.d3 (CX.e x)/\(Ex.l y=Ex.l (CX.e x)/\qBZ4)/\True)/\qBZ1/\True)/\∀(x:CX),R x->((CX.op x !=qBZ3)=true->List.length (CX.l x)+(1:Nat)<=n/\(∀(y:Ex) (x':PX),pf (CX.l x) (CX.ed x)=Except.ok (y,x')->True/\(∀(y_2:Int) (x'_2:PX),pOp op1 (Prod.fst x') (Prod.fst (Prod.snd x'))=Except.ok (y_2,x'_2)->∃(x_1:CX),R x_1/\x_1.5+(1:Nat)<=x.5/\true=true/\(qBZ2 y_2 x_1)/\((Prod.fst x'_2=CX.l x_1/\qBZ4)/\Prod.fst (Prod.snd x'_2)=CX.ed x_1/\True)/\(qBZ5=qBZ5/\True)/\(CX.op x=Ex.op (CX.e x_1)/\qBZ3=Ex.n (CX.e x_1)/\qBZ3=Ex.d0 (CX.e x_1)/\qBZ3=Ex.d1 (CX.e x_1)/\qBZ3=Ex.d2 (CX.e x_1)/\qBZ3=Ex.d3 (CX.e x_1)/\([Ex.mk (Ex.op (CX.e x)) (Ex.n (CX.e x)) (Ex.d0 (CX.e x)) (Ex.d1 (CX.e x)) (Ex.d2 (CX.e x)) (Ex.d3 (CX.e x)) (Ex.l (CX.e x)),Ex.mk (Ex.op y) (Ex.n y) (Ex.d0 y) (Ex.d1 y) (Ex.d2 y) (Ex.d3 y) (Ex.l y)]=Ex.l (CX.e x_1)/\qBZ4)/\True)/\qBZ1/\True)/\∀(e:Int×Int),pOp op1 (Prod.fst x') (Prod.fst (Prod.snd x'))=Except.error e->out=Except.error e)/\∀(e:Int×Int),pf (CX.l x) (CX.ed x)=Except.error e->out=Except.error e)/\((CX.op x !=qBZ3)=false->out=Except.ok (Ex.mk (Ex.op (CX.e x)) (Ex.n (CX.e x)) (Ex.d0 (CX.e x)) (Ex.d1 (CX.e x)) (Ex.d2 (CX.e x)) (Ex.d3 (CX.e x)) (Ex.l (CX.e x)),CX.l x,CX.ed x,())))/\∀(e:Int×Int),pOp op1 (Prod.fst x') (Prod.fst (Prod.snd x'))=Except.error e->out=Except.error e)/\∀(e_1:Int×Int),pf l e=Except.error e_1->out=Except.error e_1):=by kernel_rfl
abbrev qBZ8:=(0:Int)
abbrev qBZa:=(0:Nat)
abbrev qBZ6:=(qBZ8=qBZ8/\qBZ8=qBZ8/\qBZ8=qBZ8/\qBZ8=qBZ8/\qBZ8=qBZ8/\qBZ8=qBZ8/\Value.slice none qBZa qBZa=Value.slice none qBZa qBZa/\True)
abbrev qBZ7 (a0:Int) (b0:CX):=((Fn.func (99:Nat)=Fn.func (99:Nat)/\True/\qBZa=qBZa/\True)/\(Fn.func (103:Nat)=Fn.func (103:Nat)/\True/\qBZa=qBZa/\True)/\qBZa=qBZa/\qBZa=qBZa/\a0=CX.op b0/\True)
abbrev qBZ9:=(false=true->false=true)
theorem Zxo (n:Nat) (pf:PE) (l:List Tok) (e:Int) (out:PR Ex):Zg E (Fxp n pf) (vc E (Fxp n pf) 400) 69 [.ptr 0 0] (one [.psl Th.toks l false,.int false .i64 e]) 1 (mK .nil n0 dEx (fun _=>rfl) l e out)=(
 List.length l+(1:Nat)<=n/\(∀(y:Ex) (x':PX),pf l e=Except.ok (y,x')->True/\(∀(y_1:Int) (x'_1:PX),pOp op2 (Prod.fst x') (Prod.fst (Prod.snd x'))=Except.ok (y_1,x'_1)->∃(R:CX->Prop),(∃(x:CX),R x/\true=true/\(qBZ7 y_1 x)/\((Prod.fst x'_1=CX.l x/\qBZ9)/\Prod.fst (Prod.snd x'_1)=CX.ed x/\True)/\(qBZa=qBZa/\True)/\(Ex.op y=Ex.op (CX.e x)/\Ex.n y=Ex.n (CX.e x)/\Ex.d0 y=Ex.d0 (CX.e x)/\Ex.d1 y=Ex.d1 (CX.e x)/\Ex.d2 y=Ex.d2 (CX.e x)/\Ex.d3 y=Ex.d3 (CX.e x)/\(Ex.l y=Ex.l (CX.e x)/\qBZ9)/\True)/\qBZ6/\True)/\∀(x:CX),R x->((CX.op x !=qBZ8)=true->List.length (CX.l x)+(1:Nat)<=n/\(∀(y:Ex) (x':PX),pf (CX.l x) (CX.ed x)=Except.ok (y,x')->True/\(∀(y_2:Int) (x'_2:PX),pOp op2 (Prod.fst x') (Prod.fst (Prod.snd x'))=Except.ok (y_2,x'_2)->∃(x_1:CX),R x_1/\x_1.5+(1:Nat)<=x.5/\true=true/\(qBZ7 y_2 x_1)/\((Prod.fst x'_2=CX.l x_1/\qBZ9)/\Prod.fst (Prod.snd x'_2)=CX.ed x_1/\True)/\(qBZa=qBZa/\True)/\(CX.op x=Ex.op (CX.e x_1)/\qBZ8=Ex.n (CX.e x_1)/\qBZ8=Ex.d0 (CX.e x_1)/\qBZ8=Ex.d1 (CX.e x_1)/\qBZ8=Ex.d2 (CX.e x_1)/\qBZ8=Ex.d3 (CX.e x_1)/\([Ex.mk (Ex.op (CX.e x)) (Ex.n (CX.e x)) (Ex.d0 (CX.e x)) (Ex.d1 (CX.e x)) (Ex.d2 (CX.e x)) (Ex.d3 (CX.e x)) (Ex.l (CX.e x)),Ex.mk (Ex.op y) (Ex.n y) (Ex.d0 y) (Ex.d1 y) (Ex.d2 y) (Ex.d3 y) (Ex.l y)]=Ex.l (CX.e x_1)/\qBZ9)/\True)/\qBZ6/\True)/\∀(e:Int×Int),pOp op2 (Prod.fst x') (Prod.fst (Prod.snd x'))=Except.error e->out=Except.error e)/\∀(e:Int×Int),pf (CX.l x) (CX.ed x)=Except.error e->out=Except.error e)/\((CX.op x !=qBZ8)=false->out=Except.ok (Ex.mk (Ex.op (CX.e x)) (Ex.n (CX.e x)) (Ex.d0 (CX.e x)) (Ex.d1 (CX.e x)) (Ex.d2 (CX.e x)) (Ex.d3 (CX.e x)) (Ex.l (CX.e x)),CX.l x,CX.ed x,())))/\∀(e:Int×Int),pOp op2 (Prod.fst x') (Prod.fst (Prod.snd x'))=Except.error e->out=Except.error e)/\∀(e_1:Int×Int),pf l e=Except.error e_1->out=Except.error e_1):=by kernel_rfl
theorem Ya1 {n:Nat} {pf:PE} (hpf:∀l e,l.length<n->Wp (mI .nil n0 dEx (fun _=>rfl)) 101 (l,e,()) () (pf l e)):FnsOk E (Ftm n pf):=Yc E_ok (Zb (Zb F0_ok (Xe E_ok (Zd rfl) fun x _ h=>hpf x.1 x.2.1 h)) Z7p) _ _ _
theorem Ya2 {n:Nat} {pf:PE} (hpf:∀l e,l.length<n->Zcg (mI .nil n0 dEx (fun _=>rfl)) 99 (l,e,()) () (pf l e)):FnsOk E (Fxp n pf):=Yc E_ok (Zb (Zb F0_ok (Zje E_ok (Zd rfl) fun x _ h=>hpf x.1 x.2.1 h)) Z7q) _ _ _
theorem Z15 {n:Nat} {pf:PE} (hpf:∀l e,l.length<n->Wp (mI .nil n0 dEx (fun _=>rfl)) 101 (l,e,()) () (pf l e)) (H:Shr pf) (l:List Tok) (e:Int) (hl:l.length<n):
 Zcg (mI .nil n0 dEx (fun _=>rfl)) 99 (l,e,()) () (pCh op1 pf l e):=by
 refine Zod (Ya1 hpf) (n:=400) (a:=()) ?_
 rw [show (DcL.nil (E:=E)).enc ()= [] from rfl,Zxn];delta qBZ5 qBZ3 qBZ1 qBZ2 qBZ4
 refine ⟨by omega,fun y x' h=>⟨trivial,fun y1 x1 ho=> ?_,fun er ho=>by cases ho⟩,fun er h=>by simp [pCh,h]⟩
 unfold pOp at ho
 injection ho with ho
 injection ho with ho1 ho2
 subst ho1;subst ho2
 have hs:=H _ _ _ _ h
 have hs2:=Zoe x'.1
 refine ⟨fun x=>Yw op1 pf x.k x.e x.op x.l x.ed=pCh op1 pf l e/\x.l.length<x.k/\x.l.length<n,⟨⟨y,(op1 x'.1).1,(op1 x'.1).2,x'.2.1,(op1 x'.1).2.length+1⟩,⟨by simp [pCh,h],(by show (op1 x'.1).2.length<(op1 x'.1).2.length+1;omega),(by show (op1 x'.1).2.length<n;omega)⟩,by simp⟩,?_⟩
 rintro ⟨x,op,l1,ed,k⟩ ⟨hR,hk,hn⟩
 have hk:l1.length<k:=hk
 have hn:l1.length<n:=hn
 cases k with
 |zero=>omega
 |succ k=>
  have hR:Yw op1 pf (k+1) x op l1 ed=pCh op1 pf l e:=hR
  rw [<-hR]
  refine ⟨fun h0=>⟨by omega,fun y2 x2 h2=>⟨trivial,fun y3 x3 h3=> ?_,fun er h3=>by cases h3⟩,fun er h2=> ?_⟩,fun h0=> ?_⟩
  · unfold pOp at h3
    injection h3 with h3
    injection h3 with h31 h32
    subst h31;subst h32
    have h0:op≠0:=by simpa using h0
    have h2:pf l1 ed= .ok (y2,x2):=h2
    have hq:=H _ _ _ _ h2
    have hq2:=Zoe x2.1
    refine ⟨⟨.mk op 0 0 0 0 0 [x,y2],(op1 x2.1).1,(op1 x2.1).2,x2.2.1,k⟩,⟨?_,(by show (op1 x2.1).2.length<k;omega),(by show (op1 x2.1).2.length<n;omega)⟩,Nat.le_refl _,?_⟩
    · show Yw op1 pf k _ _ _ _=_
      simp [Yw,h0,h2]
    · simp only [Ex.eta]
      repeat' (first|exact rfl|exact trivial|exact fun h=>h|apply And.intro)
  · have h0:op≠0:=by simpa using h0
    have h2:pf l1 ed= .error er:=h2
    simp [Yw,h0,h2]
  · have h0:op=0:=by simpa using h0
    simp [Yw,h0,Ex.eta]
theorem Zxp {n:Nat} {pf:PE} (hpf:∀l e,l.length<n->Zcg (mI .nil n0 dEx (fun _=>rfl)) 99 (l,e,()) () (pf l e)) (H:Shr pf) (l:List Tok) (e:Int) (hl:l.length<n):
 Wp (mI .nil n0 dEx (fun _=>rfl)) 69 (l,e,()) () (pCh op2 pf l e):=by
 refine V1 (Ya2 hpf) (n:=400) (a:=()) ?_
 rw [show (DcL.nil (E:=E)).enc ()= [] from rfl,Zxo];delta qBZ8 qBZa qBZ6 qBZ7 qBZ9
 refine ⟨by omega,fun y x' h=>⟨trivial,fun y1 x1 ho=> ?_,fun er ho=>by cases ho⟩,fun er h=>by simp [pCh,h]⟩
 unfold pOp at ho
 injection ho with ho
 injection ho with ho1 ho2
 subst ho1;subst ho2
 have hs:=H _ _ _ _ h
 have hs2:=Zof x'.1
 refine ⟨fun x=>Yw op2 pf x.k x.e x.op x.l x.ed=pCh op2 pf l e/\x.l.length<x.k/\x.l.length<n,⟨⟨y,(op2 x'.1).1,(op2 x'.1).2,x'.2.1,(op2 x'.1).2.length+1⟩,⟨by simp [pCh,h],(by show (op2 x'.1).2.length<(op2 x'.1).2.length+1;omega),(by show (op2 x'.1).2.length<n;omega)⟩,by simp⟩,?_⟩
 rintro ⟨x,op,l1,ed,k⟩ ⟨hR,hk,hn⟩
 have hk:l1.length<k:=hk
 have hn:l1.length<n:=hn
 cases k with
 |zero=>omega
 |succ k=>
  have hR:Yw op2 pf (k+1) x op l1 ed=pCh op2 pf l e:=hR
  rw [<-hR]
  refine ⟨fun h0=>⟨by omega,fun y2 x2 h2=>⟨trivial,fun y3 x3 h3=> ?_,fun er h3=>by cases h3⟩,fun er h2=> ?_⟩,fun h0=> ?_⟩
  · unfold pOp at h3
    injection h3 with h3
    injection h3 with h31 h32
    subst h31;subst h32
    have h0:op≠0:=by simpa using h0
    have h2:pf l1 ed= .ok (y2,x2):=h2
    have hq:=H _ _ _ _ h2
    have hq2:=Zof x2.1
    refine ⟨⟨.mk op 0 0 0 0 0 [x,y2],(op2 x2.1).1,(op2 x2.1).2,x2.2.1,k⟩,⟨?_,(by show (op2 x2.1).2.length<k;omega),(by show (op2 x2.1).2.length<n;omega)⟩,Nat.le_refl _,?_⟩
    · show Yw op2 pf k _ _ _ _=_
      simp [Yw,h0,h2]
    · simp only [Ex.eta]
      repeat' (first|exact rfl|exact trivial|exact fun h=>h|apply And.intro)
  · have h0:op≠0:=by simpa using h0
    have h2:pf l1 ed= .error er:=h2
    simp [Yw,h0,h2]
  · have h0:op=0:=by simpa using h0
    simp [Yw,h0,Ex.eta]
end
section
open Go
def Bnd (pe:PE):Prop:=∀l e x y,pe l e= .ok (x,y)->x.sz+2*y.1.length<=2*l.length
theorem Bnd.shr {pe:PE} (h:Bnd pe):Shr pe:=fun l e x y hq=>by
 have:=h l e x y hq
 have:=Ex.sz_pos x
 omega
theorem Zg7:∀(a b:List Ex),Ex.szL (a++b)=Ex.szL a+Ex.szL b
 | [],b=>by simp [Ex.szL]
 |x::a,b=>by simp [Ex.szL,Zg7 a b];omega
theorem Zqv {pe:PE} (h:Bnd pe):∀{ss:List (List Nat)} {acc:List Ex} {l:List Tok} {e:Int} {xs:List Ex} {y:PX},pOpL pe ss acc l e= .ok (xs,y)->Ex.szL xs+2*y.1.length<=Ex.szL acc+2*l.length
 | [],acc,l,e,xs,y,hq=>by
  unfold pOpL at hq
  injection hq with hq
  injection hq with h1 h2
  subst h1;subst h2
  exact Nat.le_refl _
 |s::r,acc,l,e,xs,y,hq=>by
  unfold pOpL at hq
  split at hq
  · cases hq
  · rename_i x z hx
    split at hq
    · rename_i hw
      have h1:=h _ _ _ _ hx
      have h2:=Zp hw
      have h3:=Zqv h hq
      rw [Zg7] at h3
      have h4:Ex.szL [x]=x.sz:=by simp [Ex.szL]
      omega
    · cases hq
theorem Zqw {pe:PE} (h:Bnd pe) {op:Int} {ss:List (List Nat)} {l:List Tok} {e:Int} {x:Ex} {y:PX} (hq:pOps pe op ss l e= .ok (x,y)):x.sz+2*y.1.length<=2*l.length:=by
 unfold pOps at hq
 split at hq
 · rename_i hw
   split at hq
   · cases hq
   · rename_i xs z hx
     injection hq with hq
     injection hq with h1 h2
     subst h1;subst h2
     have h3:=Zqv h hx
     have h2:=Zp hw
     rw [Ex.sz_eq]
     show Ex.szL xs+1+_<=_
     have:Ex.szL ([]:List Ex)=0:=rfl
     omega
 · cases hq
theorem Zxq {l:List Tok} {e:Int} {d:List Int} {y:PX} (hq:Xf l e= .ok (d,y)):y.1.length<=l.length:=by
 unfold Xf at hq
 split at hq
 · cases hq
 · rename_i k x hc
   have hx:x.1.length<=l.length:=by
    rcases Y8 hc with ⟨h1,_,rfl⟩|⟨_,_,rfl⟩
    · have:=Za8 h1;show l.tail.length<=_;omega
    · exact Nat.le_refl _
   split at hq
   · rename_i hw
     have hw:=Zp hw
     split at hq
     · cases hq
     · rename_i j x1 hm
       obtain ⟨h1,_,rfl⟩:=U7 hm
       have:=Za8 h1
       injection hq with hq
       injection hq with _ h2
       subst h2
       show x.1.tail.tail.length<=_
       omega
   · injection hq with hq
     injection hq with _ h2
     subst h2
     exact hx
theorem Zlc {pe:PE} (h:Bnd pe):Bnd (Up pe):=by
 intro l e x y hq
 unfold Up at hq
 split at hq
 · rename_i hw
   have hw:=Zp hw
   split at hq
   · cases hq
   · rename_i x1 y1 hx
     have h1:=h _ _ _ _ hx
     split at hq
     · rename_i hw2
       have hw2:=Zp hw2
       injection hq with hq
       injection hq with h2 h3
       subst h2;subst h3
       show _+2*y1.1.tail.length<=_
       omega
     · cases hq
 · split at hq
   · rename_i hw
     have hw:=Zp hw
     have:=Zqw h hq
     omega
   · split at hq
     · cases hq
     · rename_i k y1 hc
       split at hq
       · have h1:=Zqw h hq
         rcases Y8 hc with ⟨h2,_,rfl⟩|⟨_,_,rfl⟩
         · have:=Za8 h2
           have h1:x.sz+2*y.1.length<=2*l.tail.length:=h1
           omega
         · exact h1
       · split at hq
         · cases hq
         · rename_i a z hm
           obtain ⟨h1,_,rfl⟩:=U7 hm
           have hp:=Za8 h1
           injection hq with hq
           injection hq with h2 h3
           subst h2;subst h3
           have hy:y1.1.length<=l.length:=by
            rcases Y8 hc with ⟨h2,_,rfl⟩|⟨_,_,rfl⟩
            · have:=Za8 h2;show l.tail.length<=_;omega
            · exact Nat.le_refl _
           show 1+2*y1.1.tail.length<=_
           omega
theorem W0 {pe:PE} (h:Bnd pe):Bnd (pFac pe):=by
 intro l e x y hq
 unfold pFac at hq
 split at hq
 · exact Zlc h _ _ _ _ hq
 · split at hq
   · split at hq
     · cases hq
     · rename_i t r _ _ d z hu
       have h1:=Zxq hu
       injection hq with hq
       injection hq with h2 h3
       subst h2;subst h3
       show 1+2*z.1.length<=2*(r.length+1)
       omega
   · exact Zlc h _ _ _ _ hq
def Cns (o:List Tok->Int×List Tok):Prop:=∀l,2*(o l).2.length+(if (o l).1=0 then 0 else 2)<=2*l.length
theorem Zcz:Cns op1:=by
 intro l
 unfold op1;split
 · have:=Zp (by assumption);show 2*l.tail.length+2<=_;omega
 · simp
theorem Z7r:Cns op2:=by
 intro l
 unfold op2;split
 · have:=Zp (by assumption);show 2*l.tail.length+2<=_;omega
 · split
   · have:=Zp (by assumption);show 2*l.tail.length+2<=_;omega
   · simp
theorem Zld {o:List Tok->Int×List Tok} {pf:PE} (ho:Cns o) (h:Bnd pf):∀{k:Nat} {x:Ex} {op:Int} {l:List Tok} {e:Int} {z:Ex} {y:PX},Yw o pf k x op l e= .ok (z,y)->z.sz+2*y.1.length<=x.sz+2*l.length+(if op=0 then 0 else 2)
 |0,x,op,l,e,z,y,hq=>by
  unfold Yw at hq
  injection hq with hq
  injection hq with h2 h3
  subst h2;subst h3
  exact Nat.le_add_right _ _
 |k+1,x,op,l,e,z,y,hq=>by
  unfold Yw at hq
  split at hq
  · injection hq with hq
    injection hq with h2 h3
    subst h2;subst h3
    exact Nat.le_add_right _ _
  · rename_i hop
    split at hq
    · cases hq
    · rename_i y1 z1 hx
      have h1:=h _ _ _ _ hx
      have h2:=Zld ho h hq
      have h3:=ho z1.1
      have h4:(Ex.mk op 0 0 0 0 0 [x,y1]).sz=x.sz+y1.sz+1:=by rw [Ex.sz_eq];simp [Ex.l,Ex.szL]
      rw [h4] at h2
      rw [if_neg hop]
      omega
theorem Za6 {o:List Tok->Int×List Tok} {pf:PE} (ho:Cns o) (h:Bnd pf):Bnd (pCh o pf):=by
 intro l e x y hq
 unfold pCh at hq
 split at hq
 · cases hq
 · rename_i y1 z1 hx
   have h1:=h _ _ _ _ hx
   have h2:=Zld ho h hq
   have h3:=ho z1.1
   omega
def pE:Nat->PE
 |0=>fun l e=> .error (hdT e l,160)
 |n+1=>pCh op2 (pCh op1 (pFac (pE n)))
theorem V2:∀n,Bnd (pE n)
 |0=>fun l e x y hq=>by cases hq
 |n+1=>Za6 Z7r (Za6 Zcz (W0 (V2 n)))
theorem Zqx:∀(n:Nat) (l:List Tok) (e:Int),l.length<n->Wp (mI .nil n0 dEx (fun _=>rfl)) 69 (l,e,()) () (pE n l e)
 |0,l,e,h=>by omega
 |n+1,l,e,h=>Zxp (n:=n+1) (fun l e h=>Z15 (n:=n+1) (fun l e h=>Zs5 (Zqx n) (V2 n).shr l e h) (W0 (V2 n)).shr l e h) (Za6 Zcz (W0 (V2 n))).shr l e h
def pX (l:List Tok) (e:Int):PR Ex:=pE (l.length+1) l e
noncomputable def Sx:Sum thy:=sumM (mI .nil n0 dEx (fun _=>rfl)) (fun _ _=>True) fun x _=>pX x.1 x.2.1
theorem Ycx:SumOk E 69 Sx:=Xe E_ok (Zd rfl) fun x _ _=>Zqx _ _ _ (Nat.lt_succ_self _)
theorem Zqy:Bnd pX:=fun l e x y hq=>V2 _ l e x y hq
end
section
open Go
noncomputable def dCl:Dc E Cls:=(dR .clauses:Dc E (thy.dom Th.clauses))
noncomputable def dCls:Dc E (List Cls):=(Zog (E:=E) Th.clauses:Dc E (List (thy.dom Th.clauses)))
noncomputable def Yaa:Sum thy:=sumM (mI (dA1 dN) (n1 fun _=>rfl) dTs (fun _=>rfl)) (fun _ _=>True) fun x a=>Wq a.1 x.1 x.2.1
theorem Z1c:SumOk E 68 Yaa:=Xe E_ok (Zd rfl) fun x a _=>Z0v x.1 x.2.1 a.1
def Aif:Fr thy->Hp thy->Nat->Ann thy:=fun T h i=>{X:=LX,fr:=fun x=> [(0,T 0),(1,T 1),(7,T 7),(8,.int false .i64 x.k)],bl:=fun x=>(match T 1 with| .fn _ _ [v]=>blkP h v|_=> []),src:=fun _=> [],md:= [],ih:=i,M:=i+30,meas:=fun x=>x.r}
structure TX where
 ts:List Tst
 l:List Tok
 ed:Int
 more:Bool
 k:Nat
def cellsOf (h:Hp thy) (v:SV thy):List (SV thy):=match h (bOf v) with|some (.raw cs _ _)=>cs|_=> []
def Atl:Fr thy->Hp thy->Nat->Ann thy:=fun T h i=>{X:=Bool×TX,fr:=fun x=> [(0,T 0),(4,T 4),(5,T 5),(6,T 6),(7,.bool false x.2.more)],bl:=fun x=>(bOf (T 0),.raw [.psl Th.toks x.2.l false,.int false .i64 x.2.ed] 0 none)::(bOf (T 6),.raw ((cellsOf h (T 6)).take 1++((match x.1 with|true=> .sl i 0 x.2.ts.length 3 none|false=> .val (.slice none 0 0))::(cellsOf h (T 6)).drop 2)) 0 none)::((match x.1 with|true=> [(i,.rows Th.tests x.2.ts 0)]|false=> [])++blkP h (T 4)),src:=fun x=>(match x.1 with|true=> [(i,2006)]|false=> []),md:= [bOf (T 0),bOf (T 6)],ih:=i+1,M:=i+60,meas:=fun x=>x.2.k,ex:=ex2,al:=al2,exOk:=Zwr,alOk:=Zws}
noncomputable def Fcl:Fns thy:=addL (addL (addS (addS (addS (addS Fme 32 Z0r) 68 Yaa) 69 Sx) 51 Zhz) 97 2 Aif E) 34 6 Atl E
theorem Yab:FnsOk E Fcl:=Yc E_ok (Yc E_ok (Zb (Zb (Zb (Zb Zez Zp8) Z1c) Ycx) Zep) _ _ _) _ _ _
def pTs:Nat->Bool->List Tst->List Tok->Int->PR (List Tst)
 |0,_,ts,l,e=> .ok (ts,l,e,())
 |k+1,more,ts,l,e=>
  if more then
   match Wq ts.length l e with
   | .error er=> .error er
   | .ok (t,x)=>pTs k (isW [97,110,100] x.1) (ts++ [t]) (if isW [97,110,100] x.1 then x.1.tail else x.1) x.2.1
  else .ok (ts,l,e,())
def pPay (nm:List Nat) (ts:List Tst) (l:List Tok) (e:Int):PR Cls:=
 if isW [112,97,121] l then
  match pX l.tail e with
  | .error er=> .error er
  | .ok (x,y)=>
   if 24<Zy x then .error (hdT e l.tail,2)
   else if isW [59] y.1 then .ok (⟨nm,ts,x⟩,y.1.tail,y.2.1,()) else .error (hdT y.2.1 y.1,160)
 else .error (hdT e l,160)
def pAft (nm:List Nat) (r:PR (List Tst)):PR Cls:=
 match r with
 | .error er=> .error er
 | .ok (ts,y)=>pPay nm ts y.1 y.2.1
def Z3 (bs:List Cls) (l:List Tok) (e:Int):PR Cls:=
 match V5 l e with
 | .error er=> .error er
 | .ok (nm,x)=>
  if bs.any (fun b=>b.name==nm) then .error (hdT e l,161)
  else pAft nm (pTs 10 (isW [119,104,101,110] x.1) [] (if isW [119,104,101,110] x.1 then x.1.tail else x.1) x.2.1)
theorem Zbv {l:List Tok} {e:Int} {y:List Nat} {x:PX} (h:V5 l e= .ok (y,x)):x.1.length<l.length:=by
 unfold V5 at h
 split at h
 · cases h
 · split at h
   · split at h
     · cases h
     · injection h with h
       injection h with _ h
       subst h
       exact Nat.lt_succ_self _
   · cases h
theorem Zij {l:List Tok} {e:Int} {y:Int} {x:PX} (h:pInt l e= .ok (y,x)):x.1.length<l.length:=by
 unfold pInt at h
 split at h
 · cases h
 · split at h
   · injection h with h
     injection h with _ h
     subst h
     exact Nat.lt_succ_self _
   · cases h
theorem Zwk {s:List Nat} {l:List Tok}:(if isW s l=true then l.tail else l).length<=l.length:=by
 split
 · have:=Zp (by assumption);omega
 · exact Nat.le_refl _
theorem Ze2 {n:Int} {l:List Tok} {e:Int} {y:Tst} {x:PX} (h:Wq n l e= .ok (y,x)):x.1.length<l.length/\n≠8:=by
 unfold Wq at h
 split at h
 · cases h
 · rename_i a x0 hm
   obtain ⟨h1,_,rfl⟩:=U7 hm
   have hp:=Za8 h1
   split at h
   · cases h
   · rename_i hn
     refine ⟨?_,hn⟩
     split at h
     · rename_i hw
       have hw:=Zp hw
       split at h
       · cases h
       · rename_i m x1 hi
         have hi:=Zij hi
         injection h with h
         injection h with _ h
         subst h
         have hw:l.tail.tail.length+1=l.tail.length:=hw
         have hi:x1.1.length<l.tail.tail.length:=hi
         omega
     · split at h
       · rename_i hw
         have hw:=Zp hw
         split at h
         · cases h
         · rename_i m x1 hi
           have hi:=Zij hi
           have hw:l.tail.tail.length+1=l.tail.length:=hw
           have hi:x1.1.length<l.tail.tail.length:=hi
           split at h
           · rename_i hw2
             have hw2:=Zp hw2
             split at h
             · cases h
             · rename_i k x2 hi2
               have hi2:=Zij hi2
               injection h with h
               injection h with _ h
               subst h
               omega
           · cases h
       · cases h
abbrev qCB6:=(0:Nat)
abbrev qCB9 (a0:Int) (b0:Bool) (c0:TX):=(qCB6=qCB6/\qCB6=qCB6/\a0=a0/\qCB6=qCB6/\b0=TX.more c0/\True)
abbrev qCB7:=(0:Int)
abbrev qCB3 (a0:List Nat):=(a0=a0/\Value.slice none qCB6 qCB6=Value.slice none qCB6 qCB6/\qCB7=qCB7/\qCB7=qCB7/\qCB7=qCB7/\qCB7=qCB7/\qCB7=qCB7/\qCB7=qCB7/\Value.slice none qCB6 qCB6=Value.slice none qCB6 qCB6/\True)
abbrev qCBi (a0:TX):=(List.tail (TX.l a0))
abbrev qCB4 (a0:Ex):=(Ex.mk (Ex.op a0) (Ex.n a0) (Ex.d0 a0) (Ex.d1 a0) (Ex.d2 a0) (Ex.d3 a0) (Ex.l a0))
abbrev qCBb (a0:Ex):=((↑(Zy (qCB4 a0)):Int)>(24:Int))
abbrev qCBc (a0:TX) (b0:PR Cls):=(isW [(112:Nat),(97:Nat),(121:Nat)] (TX.l a0)=false->b0=Except.error (hdT (TX.ed a0) (TX.l a0),(160:Int)))
abbrev qCBa (a0:PX):=(Prod.fst (Prod.snd a0))
abbrev qCBg (a0:PX) (b0:PR Cls):=(isW [(59:Nat)] (Prod.fst a0)=false->b0=Except.error (hdT (qCBa a0) (Prod.fst a0),(160:Int)))
abbrev qCB2:=(([]:List Nat)= []/\Value.slice none qCB6 qCB6=Value.slice none qCB6 qCB6/\qCB7=qCB7/\qCB7=qCB7/\qCB7=qCB7/\qCB7=qCB7/\qCB7=qCB7/\qCB7=qCB7/\Value.slice none qCB6 qCB6=Value.slice none qCB6 qCB6/\True)
abbrev qCBh:=(false=true->false=true)
abbrev qCB8 (a0:PX) (b0:TX):=((Prod.fst a0=TX.l b0/\qCBh)/\Prod.fst (Prod.snd a0)=TX.ed b0/\True)
abbrev qCB5 (a0:Bool×TX->Prop) (b0:TX) (c0:Int) (d0:Bool) (e0:PX) (f0:List Nat):=(∃(y_6:TX),a0 (false,y_6)/\y_6.5+(1:Nat)<=b0.5/\true=true/\(qCB9 c0 d0 y_6)/\(qCB8 e0 y_6)/\(f0=f0/\False/\qCB7=qCB7/\qCB7=qCB7/\qCB7=qCB7/\qCB7=qCB7/\qCB7=qCB7/\qCB7=qCB7/\Value.slice none qCB6 qCB6=Value.slice none qCB6 qCB6/\True)/\qCB2/\True)
abbrev qCB1 (a0:PX) (b0:Int) (c0:List Nat) (d0:PR Cls):=(∀(y_2:Bool) (x'_1:PX),pAcc [(119:Nat),(104:Nat),(101:Nat),(110:Nat)] (Prod.fst a0) (qCBa a0)=Except.ok (y_2,x'_1)->∃(R:Bool×TX->Prop),((∃(y_3:TX),R (false,y_3)/\true=true/\(qCB9 b0 y_2 y_3)/\(qCB8 x'_1 y_3)/\(qCB3 c0)/\qCB2/\True)\/∃(b0:TX),R (true,b0)/\true=true/\False)/\(∀(y_3:TX),R (false,y_3)->(TX.more y_3=true->True/\(∀(y_4:Tst) (a0:PX),Wq qCB7 (TX.l y_3) (TX.ed y_3)=Except.ok (y_4,a0)->True/\(∀(y_5:Bool) (x'_2:PX),pAcc [(97:Nat),(110:Nat),(100:Nat)] (Prod.fst a0) (qCBa a0)=Except.ok (y_5,x'_2)->(qCB5 R y_3 b0 y_5 x'_2 c0)\/∃(y_6:TX),R (true,y_6)/\y_6.5+(1:Nat)<=y_3.5/\true=true/\(qCB9 b0 y_5 y_6)/\(qCB8 x'_2 y_6)/\(c0=c0/\(qCB6=qCB6/\(1:Nat)=List.length (TX.ts y_6)/\True)/\qCB7=qCB7/\qCB7=qCB7/\qCB7=qCB7/\qCB7=qCB7/\qCB7=qCB7/\qCB7=qCB7/\Value.slice none qCB6 qCB6=Value.slice none qCB6 qCB6/\True)/\([y_4]=TX.ts y_6/\qCB6=qCB6)/\qCB2/\True)/\∀(e:Int×Int),pAcc [(97:Nat),(110:Nat),(100:Nat)] (Prod.fst a0) (qCBa a0)=Except.error e->d0=Except.error e)/\∀(e:Int×Int),Wq qCB7 (TX.l y_3) (TX.ed y_3)=Except.error e->d0=Except.error e)/\(TX.more y_3=false->(isW [(112:Nat),(97:Nat),(121:Nat)] (TX.l y_3)=true->∀(b0:Int),b0=hdT (TX.ed y_3) (qCBi y_3)->True/\(∀(y_4:Ex) (a0:PX),pX (qCBi y_3) (TX.ed y_3)=Except.ok (y_4,a0)->Ex.sz (qCB4 y_4)+(1:Nat)<=(1000000000000:Nat)/\(decide (qCBb y_4)=true->d0=Except.error (b0,(2:Int)))/\(decide (qCBb y_4)=false->(isW [(59:Nat)] (Prod.fst a0)=true->d0=Except.ok (Cls.mk c0 [] (qCB4 y_4),List.tail (Prod.fst a0),Prod.fst (Prod.snd a0),()))/\(qCBg a0 d0)))/\∀(e:Int×Int),pX (qCBi y_3) (TX.ed y_3)=Except.error e->d0=Except.error e)/\(qCBc y_3 d0)))/\∀(y_3:TX),R (true,y_3)->(TX.more y_3=true->True/\(∀(y_4:Tst) (a0:PX),Wq (↑(List.length (TX.ts y_3)):Int) (TX.l y_3) (TX.ed y_3)=Except.ok (y_4,a0)->(List.length (TX.ts y_3)<=List.length (TX.ts y_3)/\qCB6<=List.length (TX.ts y_3)/\(List.length (TX.ts y_3)+(1:Nat))*(24:Nat)<=(140737488355328:Nat))/\True/\(∀(y_5:Bool) (x'_2:PX),pAcc [(97:Nat),(110:Nat),(100:Nat)] (Prod.fst a0) (qCBa a0)=Except.ok (y_5,x'_2)->(qCB5 R y_3 b0 y_5 x'_2 c0)\/∃(y_6:TX),R (true,y_6)/\y_6.5+(1:Nat)<=y_3.5/\true=true/\(qCB9 b0 y_5 y_6)/\(qCB8 x'_2 y_6)/\(c0=c0/\(qCB6=qCB6/\List.length (TX.ts y_3)+(1:Nat)=List.length (TX.ts y_6)/\True)/\qCB7=qCB7/\qCB7=qCB7/\qCB7=qCB7/\qCB7=qCB7/\qCB7=qCB7/\qCB7=qCB7/\Value.slice none qCB6 qCB6=Value.slice none qCB6 qCB6/\True)/\(List.take (List.length (TX.ts y_3)) (TX.ts y_3)++ [y_4]=TX.ts y_6/\qCB6=qCB6)/\qCB2/\True)/\∀(e:Int×Int),pAcc [(97:Nat),(110:Nat),(100:Nat)] (Prod.fst a0) (qCBa a0)=Except.error e->d0=Except.error e)/\∀(e:Int×Int),Wq (↑(List.length (TX.ts y_3)):Int) (TX.l y_3) (TX.ed y_3)=Except.error e->d0=Except.error e)/\(TX.more y_3=false->(isW [(112:Nat),(97:Nat),(121:Nat)] (TX.l y_3)=true->∀(b0:Int),b0=hdT (TX.ed y_3) (qCBi y_3)->True/\(∀(y_4:Ex) (a0:PX),pX (qCBi y_3) (TX.ed y_3)=Except.ok (y_4,a0)->Ex.sz (qCB4 y_4)+(1:Nat)<=(1000000000000:Nat)/\(decide (qCBb y_4)=true->d0=Except.error (b0,(2:Int)))/\(decide (qCBb y_4)=false->(isW [(59:Nat)] (Prod.fst a0)=true->qCB6+List.length (TX.ts y_3)<=List.length (TX.ts y_3)/\d0=Except.ok (Cls.mk c0 (List.take (List.length (TX.ts y_3)) (List.drop qCB6 (TX.ts y_3))) (qCB4 y_4),List.tail (Prod.fst a0),Prod.fst (Prod.snd a0),()))/\(qCBg a0 d0)))/\∀(e:Int×Int),pX (qCBi y_3) (TX.ed y_3)=Except.error e->d0=Except.error e)/\(qCBc y_3 d0)))
abbrev qCBd (a0:List Cls):=(↑(List.length a0):Int)
abbrev qCBe:=(Fn.func (67:Nat)=Fn.func (67:Nat)/\True/\qCB6=qCB6/\True)
abbrev qCBf (a0:LX):=(↑(LX.k a0):Int)
theorem Zm4 (l:List Tok) (e:Int) (bs:List Cls) (out:PR Cls):Zg E Fcl (vc E Fcl 400) 34 [.ptr 0 0,.psl Th.clauses bs false] (one [.psl Th.toks l false,.int false .i64 e]) 1 (mK (dA1 dCls) (n1 fun _=>rfl) dCl (fun _=>rfl) l e out)=(
 ∀(y:Int),y=hdT e l->True/\(∀(y_1:List Nat) (x':PX),V5 l e=Except.ok (y_1,x')->∃(R:LX->Prop),(∃(x:LX),R x/\true=true/\((bs=bs/\qCBh)/\qCBe/\(qCBd bs)=(qCBd bs)/\qCB7=(qCBf x)/\True)/\(qCB3 y_1)/\True)/\∀(x:LX),R x->(decide ((qCBf x)<(qCBd bs))=true->qCB7<=(qCBf x)/\(qCBf x)+(1:Int)<=(qCBd bs)/\∀(x_1:Cls),bs[Int.toNat (qCBf x)]? =some x_1->((Cls.name x_1==y_1)=true->(decide ((qCBf x)>=qCB7)=true->out=Except.error (y,(161:Int)))/\(decide ((qCBf x)>=qCB7)=false->True/\(qCB1 x' y y_1 out)/\∀(e:Int×Int),pAcc [(119:Nat),(104:Nat),(101:Nat),(110:Nat)] (Prod.fst x') (qCBa x')=Except.error e->out=Except.error e))/\((Cls.name x_1==y_1)=false->∃(x_2:LX),R x_2/\x_2.2+(1:Nat)<=x.2/\true=true/\((bs=bs/\qCBh)/\qCBe/\(qCBd bs)=(qCBd bs)/\wr IntKind.i64 ((qCBf x)+(1:Int))=(qCBf x_2)/\True)/\(qCB3 y_1)/\True))/\(decide ((qCBf x)<(qCBd bs))=false->True/\(qCB1 x' y y_1 out)/\∀(e:Int×Int),pAcc [(119:Nat),(104:Nat),(101:Nat),(110:Nat)] (Prod.fst x') (qCBa x')=Except.error e->out=Except.error e))/\∀(e_1:Int×Int),V5 l e=Except.error e_1->out=Except.error e_1):=by kernel_rfl
theorem Zsh (bs:List Cls) (l:List Tok) (e:Int) (hl:l.length<1000000000) (hb:bs.length<=1000000000):Wp (mI (dA1 dCls) (n1 fun _=>rfl) dCl (fun _=>rfl)) 34 (l,e,()) (bs,()) (Z3 bs l e):=by
 refine V1 Yab (n:=400) (a:=(bs,())) ?_
 rw [show (dA1 dCls).enc (bs,())= [.psl Th.clauses bs false] from rfl,Zm4];delta qCB6 qCB9 qCB7 qCB3 qCBi qCB4 qCBb qCBc qCBa qCBg qCB2 qCBh qCB8 qCB5 qCB1 qCBd qCBe qCBf
 intro y0 hy0
 subst hy0
 refine ⟨trivial,fun nm x h1=> ?_,fun er h1=>by simp [Z3,h1]⟩
 have hx:=Zbv h1
 refine ⟨fun z=>z.k<=bs.length/\(bs.drop z.k).any (fun b=>b.name==nm)=bs.any (fun b=>b.name==nm)/\z.r=bs.length-z.k,⟨⟨0,bs.length,[],0⟩,⟨(by dsimp only;omega),rfl,rfl⟩,by simp⟩,?_⟩
 rintro z ⟨hk,hv,hr⟩
 refine ⟨fun hq=> ?_,fun hq=>⟨trivial,fun more x1 h2=> ?_,fun er h2=>by cases h2⟩⟩
 · have hq:(z.k:Int)<bs.length:=by simpa using hq
   refine ⟨by omega,by omega,fun c hc=> ?_⟩
   have hc:bs[z.k]? =some c:=hc
   have hlt:=(List.getElem?_eq_some_iff.1 hc).1
   have hce:bs[z.k]=c:=(List.getElem?_eq_some_iff.1 hc).2
   rw [List.drop_eq_getElem_cons hlt,hce,List.any_cons] at hv
   refine ⟨fun hn=>⟨fun _=> ?_,fun hneg=>absurd hneg (by rw [decide_eq_false_iff_not];omega)⟩,fun hn=> ?_⟩
   · rw [hn,Bool.true_or] at hv
     simp [Z3,h1,<-hv]
   · rw [hn,Bool.false_or] at hv
     exact ⟨⟨z.k+1,bs.length-(z.k+1),[],0⟩,⟨(by dsimp only;omega),hv,rfl⟩,(by show bs.length-(z.k+1)+1<=z.r;omega),rfl,⟨⟨rfl,fun h=>h⟩,⟨rfl,trivial,rfl,trivial⟩,rfl,wr64 (by omega) (by omega),trivial⟩,⟨rfl,rfl,rfl,rfl,rfl,rfl,rfl,rfl,rfl,trivial⟩,trivial⟩
 · have hq:¬(z.k:Int)<bs.length:=by simpa using hq
   rw [List.drop_eq_nil_of_le (by omega),List.any_nil] at hv
   unfold pAcc at h2
   injection h2 with h2
   injection h2 with e1 e2
   subst e1;subst e2
   have hout:Z3 bs l e=pAft nm (pTs 10 (isW [119,104,101,110] x.1) [] (if isW [119,104,101,110] x.1 then x.1.tail else x.1) x.2.1):=by simp [Z3,h1,<-hv]
   rw [hout]
   clear hv hk hr hq
   have hif:=Zwk (s:= [119,104,101,110]) (l:=x.1)
   generalize hO:pAft nm (pTs 10 (isW [119,104,101,110] x.1) [] (if isW [119,104,101,110] x.1 then x.1.tail else x.1) x.2.1)=OUT at hout⊢
   refine ⟨fun p=>pAft nm (pTs p.2.k p.2.more p.2.ts p.2.l p.2.ed)=OUT/\p.2.ts.length+p.2.k=10/\p.2.ts.length<=8/\p.2.l.length<1000000000/\(p.1=false->p.2.ts= []),.inl ⟨⟨[],if isW [119,104,101,110] x.1 then x.1.tail else x.1,x.2.1,isW [119,104,101,110] x.1,10⟩,⟨hO,rfl,Nat.zero_le _,(by dsimp only;omega),fun _=>rfl⟩,by simp⟩,?_,?_⟩
   · rintro ⟨ts,l1,ed,more,k⟩ ⟨hR,hk,h8,hl1,hts⟩
     have hts:ts= []:=hts rfl
     subst hts
     have hk:k=10:=by simpa using hk
     subst hk
     have hR:pAft nm (pTs 10 more [] l1 ed)=OUT:=hR
     have hl1':l1.length<1000000000:=hl1
     clear hl1
     have hl1:=hl1'
     clear hl1'
     rw [<-hR]
     clear hR hout hO
     refine ⟨fun hm=>⟨trivial,fun t x2 h3=>⟨trivial,fun m2 x3 h4=> ?_,fun er h4=>by cases h4⟩,fun er h3=> ?_⟩,fun hm=> ?_⟩
     · have hm':more=true:=hm
       have h3':Wq 0 l1 ed= .ok (t,x2):=h3
       clear hm h3
       subst hm'
       unfold pAcc at h4
       injection h4 with h4
       injection h4 with e1 e2
       subst e1;subst e2
       have hq:=Ze2 h3'
       have hi2:=Zwk (s:= [97,110,100]) (l:=x2.1)
       refine .inr ⟨⟨[t],if isW [97,110,100] x2.1 then x2.1.tail else x2.1,x2.2.1,isW [97,110,100] x2.1,9⟩,⟨by simp [pTs,h3'],rfl,(by show 1<=8;omega),(by dsimp only;omega),fun h=>by cases h⟩,Nat.le_refl _,by simp⟩
     · have hm':more=true:=hm
       have h3':Wq 0 l1 ed= .error er:=h3
       clear hm h3
       subst hm'
       simp [pTs,pAft,h3']
     · have hm':more=false:=hm
       clear hm
       subst hm'
       revert hl1
       dsimp only
       intro hl1
       refine ⟨fun w y hy=>⟨trivial,fun ex x4 h5=> ?_,fun er h5=>by simp [pTs,pAft,pPay,w,h5]⟩,fun w=>by simp [pTs,pAft,pPay,w]⟩
       subst hy
       have hs:=Zqy _ _ _ _ h5
       have hw:=Zp w
       rw [Ex.eta]
       refine ⟨by omega,fun hn=> ?_,fun hn=>⟨fun w2=> ?_,fun w2=> ?_⟩⟩
       · have hn:(24:Int)<Zy ex:=by simpa using hn
         have hn:24<Zy ex:=by omega
         simp [pTs,pAft,pPay,w,h5,hn]
       · have hn:(Zy ex:Int)<=24:=by simpa using hn
         have hn:¬24<Zy ex:=by omega
         simp [pTs,pAft,pPay,w,h5,hn,w2]
       · have hn:(Zy ex:Int)<=24:=by simpa using hn
         have hn:¬24<Zy ex:=by omega
         simp [pTs,pAft,pPay,w,h5,hn,w2]
   · rintro ⟨ts,l1,ed,more,k⟩ ⟨hR,hk,h8,hl1,_⟩
     have hk:ts.length+k=10:=hk
     have h8:ts.length<=8:=h8
     have hR:pAft nm (pTs k more ts l1 ed)=OUT:=hR
     have hl1':l1.length<1000000000:=hl1
     clear hl1
     have hl1:=hl1'
     clear hl1'
     rw [<-hR]
     clear hR hout hO
     obtain ⟨k,rfl⟩:∃k',k=k'+1:=⟨k-1,by omega⟩
     refine ⟨fun hm=>⟨trivial,fun t x2 h3=>⟨⟨Nat.le_refl _,Nat.zero_le _,(by dsimp only;omega)⟩,trivial,fun m2 x3 h4=> ?_,fun er h4=>by cases h4⟩,fun er h3=> ?_⟩,fun hm=> ?_⟩
     · have hm':more=true:=hm
       have h3':Wq ts.length l1 ed= .ok (t,x2):=h3
       clear hm h3
       subst hm'
       unfold pAcc at h4
       injection h4 with h4
       injection h4 with e1 e2
       subst e1;subst e2
       have hq:=Ze2 h3'
       have hi2:=Zwk (s:= [97,110,100]) (l:=x2.1)
       refine .inr ⟨⟨ts++ [t],if isW [97,110,100] x2.1 then x2.1.tail else x2.1,x2.2.1,isW [97,110,100] x2.1,k⟩,⟨by simp [pTs,h3'],(by simp;omega),(by simp;omega),(by dsimp only;omega),fun h=>by cases h⟩,Nat.le_refl _,by simp⟩
     · have hm':more=true:=hm
       have h3':Wq ts.length l1 ed= .error er:=h3
       clear hm h3
       subst hm'
       simp [pTs,pAft,h3']
     · have hm':more=false:=hm
       clear hm
       subst hm'
       revert hl1
       dsimp only
       intro hl1
       refine ⟨fun w y hy=>⟨trivial,fun ex x4 h5=> ?_,fun er h5=>by simp [pTs,pAft,pPay,w,h5]⟩,fun w=>by simp [pTs,pAft,pPay,w]⟩
       subst hy
       have hs:=Zqy _ _ _ _ h5
       have hw:=Zp w
       rw [Ex.eta]
       refine ⟨by omega,fun hn=> ?_,fun hn=>⟨fun w2=> ?_,fun w2=> ?_⟩⟩
       · have hn:(24:Int)<Zy ex:=by simpa using hn
         have hn:24<Zy ex:=by omega
         simp [pTs,pAft,pPay,w,h5,hn]
       · have hn:(Zy ex:Int)<=24:=by simpa using hn
         have hn:¬24<Zy ex:=by omega
         exact ⟨by omega,by simp [pTs,pAft,pPay,w,h5,hn,w2]⟩
       · have hn:(Zy ex:Int)<=24:=by simpa using hn
         have hn:¬24<Zy ex:=by omega
         simp [pTs,pAft,pPay,w,h5,hn,w2]
end
section
open Go
def isL (n:Int):Bool:=decide (97<=n)&&decide (n<=122)
def isD (n:Int):Bool:=decide (48<=n)&&decide (n<=57)
def isLD (n:Int):Bool:=isL n||isD n
noncomputable def dU8:Dc E Int:=dInt .u8
theorem Zou (n:Int) (v:Bool):Zg E F0 (vc E F0 400) 90 [.int false .u8 n] hp0 0 (fun r=>ret E (patch hp0 0 r) r.v (.bool false v))=(
(decide ((97:Int)<=n)=true->(decide (n<=(122:Int))=true->true=v)/\(decide (n<=(122:Int))=false->false=v))/\(decide ((97:Int)<=n)=false->false=v)):=by kernel_rfl
theorem Zov (n:Int):PureC E 90 [.int false .u8 n] (.bool false (isL n)):=by
 refine Za E_ok (Zi E_ok F0_ok 400) ?_
 rw [Zou]
 unfold isL
 refine ⟨fun h=>⟨fun h2=> ?_,fun h2=> ?_⟩,fun h=> ?_⟩
 · rw [h,h2];rfl
 · rw [h,h2];rfl
 · rw [h];rfl
theorem Zti (n:Int) (v:Bool):Zg E F0 (vc E F0 400) 93 [.int false .u8 n] hp0 0 (fun r=>ret E (patch hp0 0 r) r.v (.bool false v))=(
(decide ((48:Int)<=n)=true->(decide (n<=(57:Int))=true->true=v)/\(decide (n<=(57:Int))=false->false=v))/\(decide ((48:Int)<=n)=false->false=v)):=by kernel_rfl
theorem Ztj (n:Int):PureC E 93 [.int false .u8 n] (.bool false (isD n)):=by
 refine Za E_ok (Zi E_ok F0_ok 400) ?_
 rw [Zti]
 unfold isD
 refine ⟨fun h=>⟨fun h2=> ?_,fun h2=> ?_⟩,fun h=> ?_⟩
 · rw [h,h2];rfl
 · rw [h,h2];rfl
 · rw [h];rfl
noncomputable def Zyx:Sum thy:=sumP (dA1 dU8) (fun _=>True) fun x=> .bool false (isL x.1)
noncomputable def Z4s:Sum thy:=sumP (dA1 dU8) (fun _=>True) fun x=> .bool false (isD x.1)
theorem Ztk:SumOk E 90 Zyx:=Yg E_ok (Zd (f:=90) rfl) fun x _=>Zov x.1
theorem Zyy:SumOk E 93 Z4s:=Yg E_ok (Zd (f:=93) rfl) fun x _=>Ztj x.1
noncomputable def Flx:Fns thy:=addS (addS F0 90 Zyx) 93 Z4s
theorem Zyz:FnsOk E Flx:=Zb (Zb F0_ok Ztk) Zyy
theorem Zy0 (n:Int) (v:Bool):Zg E Flx (vc E Flx 400) 92 [.int false .u8 n] hp0 0 (fun r=>ret E (patch hp0 0 r) r.v (.bool false v))=(
True/\(isL n=true->true=v)/\(isL n=false->True/\isD n=v)):=by kernel_rfl
theorem Zy1 (n:Int):PureC E 92 [.int false .u8 n] (.bool false (isLD n)):=by
 refine Za E_ok (Zi E_ok Zyz 400) ?_
 rw [Zy0]
 unfold isLD
 refine ⟨trivial,fun h=> ?_,fun h=>⟨trivial,?_⟩⟩
 · rw [h];rfl
 · rw [h];rfl
noncomputable def Ybm:Sum thy:=sumP (dA1 dU8) (fun _=>True) fun x=> .bool false (isLD x.1)
theorem Z2w:SumOk E 92 Ybm:=Yg E_ok (Zd (f:=92) rfl) fun x _=>Zy1 x.1
def Asp:Fr thy->Hp thy->Nat->Ann thy:=fun T h i=>{X:=LX,fr:=fun x=> [(0,T 0),(1,T 1),(7,T 7),(8,.int false .i64 x.k)],bl:=fun x=> [],src:=fun _=> [],md:= [],ih:=i,M:=i+30,meas:=fun x=>x.r}
noncomputable def Zy2:Fns thy:=addL (addS Flx 92 Ybm) 91 2 Asp E
theorem Zrf:FnsOk E Zy2:=Yc E_ok (Zb Zyz Z2w) _ _ _
def spn (f:Int->Bool):List Nat->Nat
 | []=>0
 |c::r=>if f c then spn f r+1 else 0
theorem Zd1 {f:Int->Bool} {s:List Nat} {k c:Nat} (h:s[k]? =some c):spn f (s.drop k)=if f c then spn f (s.drop (k+1))+1 else 0:=by
 have hlt:=(List.getElem?_eq_some_iff.1 h).1
 have hc:s[k]=c:=(List.getElem?_eq_some_iff.1 h).2
 rw [List.drop_eq_getElem_cons hlt,hc];rfl
theorem Zln {f:Int->Bool}:∀{s:List Nat},spn f s<=s.length
 | []=>Nat.le_refl _
 |c::r=>by
  unfold spn
  have:=Zln (f:=f) (s:=r)
  split
  · simp;omega
  · exact Nat.zero_le _
theorem Ztl (s:List Nat) (v:Int):Zg E Zy2 (vc E Zy2 400) 91 [.str false s,.fn (.func 92) [] []] hp0 0 (fun r=>ret E (patch hp0 0 r) r.v (.int false .i64 v))=(
∃(R:LX->Prop),(∃(x:LX),R x/\true=true/\(s=s/\(Fn.func (92:FuncId)=Fn.func (92:FuncId)/\True/\True)/\(↑(List.length s):Int)=(↑(List.length s):Int)/\(0:Int)=(↑(LX.k x):Int)/\True)/\True)/\∀(x:LX),R x->(decide ((↑(LX.k x):Int)<(↑(List.length s):Int))=true->(0:Int)<=(↑(LX.k x):Int)/\(↑(LX.k x):Int)+(1:Int)<=(↑(List.length s):Int)/\∀(x_1:Nat),s[Int.toNat (↑(LX.k x):Int)]? =some x_1->True/\((!isLD (↑x_1:Int))=true->(↑(LX.k x):Int)=v)/\((!isLD (↑x_1:Int))=false->∃(x_2:LX),R x_2/\x_2.2+(1:Nat)<=x.2/\true=true/\(s=s/\(Fn.func (92:FuncId)=Fn.func (92:FuncId)/\True/\True)/\(↑(List.length s):Int)=(↑(List.length s):Int)/\wr IntKind.i64 ((↑(LX.k x):Int)+(1:Int))=(↑(LX.k x_2):Int)/\True)/\True))/\(decide ((↑(LX.k x):Int)<(↑(List.length s):Int))=false->(↑(List.length s):Int)=v)):=by kernel_rfl
theorem Ztm (s:List Nat) (hs:s.length<=1000000000):PureC E 91 [.str false s,.fn (.func 92) [] []] (.int false .i64 (spn isLD s)):=by
 refine Za E_ok (Zi E_ok Zrf 400) ?_
 rw [Ztl]
 refine ⟨fun x=>x.k<=s.length/\x.k+spn isLD (s.drop x.k)=spn isLD s/\x.r=s.length-x.k,⟨⟨0,s.length,[],0⟩,⟨(by dsimp only;omega),by simp,rfl⟩,by simp⟩,?_⟩
 rintro x ⟨hk,hv,hr⟩
 refine ⟨fun hq=> ?_,fun hq=> ?_⟩
 · have hq:(x.k:Int)<s.length:=by simpa using hq
   refine ⟨by omega,by omega,fun c hc=>⟨trivial,fun hn=> ?_,fun hn=> ?_⟩⟩
   · have hc:s[x.k]? =some c:=hc
     rw [Zd1 hc] at hv
     have hn:isLD c=false:=by simpa using hn
     rw [hn] at hv
     simp at hv
     rw [<-hv]
   · have hc:s[x.k]? =some c:=hc
     rw [Zd1 hc] at hv
     have hn:isLD c=true:=by simpa using hn
     rw [hn,if_pos rfl] at hv
     exact ⟨⟨x.k+1,s.length-(x.k+1),[],0⟩,⟨(by dsimp only;omega),(by dsimp only;omega),rfl⟩,(by show s.length-(x.k+1)+1<=x.r;omega),rfl,⟨rfl,⟨rfl,trivial,trivial⟩,rfl,wr64 (by omega) (by omega),trivial⟩,trivial⟩
 · have hq:¬(x.k:Int)<s.length:=by simpa using hq
   rw [List.drop_eq_nil_of_le (by omega)] at hv
   have:x.k=spn isLD s:=by simpa [spn] using hv
   omega
theorem Ztn (s:List Nat) (v:Int):Zg E Zy2 (vc E Zy2 400) 91 [.str false s,.fn (.func 93) [] []] hp0 0 (fun r=>ret E (patch hp0 0 r) r.v (.int false .i64 v))=(
∃(R:LX->Prop),(∃(x:LX),R x/\true=true/\(s=s/\(Fn.func (93:FuncId)=Fn.func (93:FuncId)/\True/\True)/\(↑(List.length s):Int)=(↑(List.length s):Int)/\(0:Int)=(↑(LX.k x):Int)/\True)/\True)/\∀(x:LX),R x->(decide ((↑(LX.k x):Int)<(↑(List.length s):Int))=true->(0:Int)<=(↑(LX.k x):Int)/\(↑(LX.k x):Int)+(1:Int)<=(↑(List.length s):Int)/\∀(x_1:Nat),s[Int.toNat (↑(LX.k x):Int)]? =some x_1->True/\((!isD (↑x_1:Int))=true->(↑(LX.k x):Int)=v)/\((!isD (↑x_1:Int))=false->∃(x_2:LX),R x_2/\x_2.2+(1:Nat)<=x.2/\true=true/\(s=s/\(Fn.func (93:FuncId)=Fn.func (93:FuncId)/\True/\True)/\(↑(List.length s):Int)=(↑(List.length s):Int)/\wr IntKind.i64 ((↑(LX.k x):Int)+(1:Int))=(↑(LX.k x_2):Int)/\True)/\True))/\(decide ((↑(LX.k x):Int)<(↑(List.length s):Int))=false->(↑(List.length s):Int)=v)):=by kernel_rfl
theorem Zto (s:List Nat) (hs:s.length<=1000000000):PureC E 91 [.str false s,.fn (.func 93) [] []] (.int false .i64 (spn isD s)):=by
 refine Za E_ok (Zi E_ok Zrf 400) ?_
 rw [Ztn]
 refine ⟨fun x=>x.k<=s.length/\x.k+spn isD (s.drop x.k)=spn isD s/\x.r=s.length-x.k,⟨⟨0,s.length,[],0⟩,⟨(by dsimp only;omega),by simp,rfl⟩,by simp⟩,?_⟩
 rintro x ⟨hk,hv,hr⟩
 refine ⟨fun hq=> ?_,fun hq=> ?_⟩
 · have hq:(x.k:Int)<s.length:=by simpa using hq
   refine ⟨by omega,by omega,fun c hc=>⟨trivial,fun hn=> ?_,fun hn=> ?_⟩⟩
   · have hc:s[x.k]? =some c:=hc
     rw [Zd1 hc] at hv
     have hn:isD c=false:=by simpa using hn
     rw [hn] at hv
     simp at hv
     rw [<-hv]
   · have hc:s[x.k]? =some c:=hc
     rw [Zd1 hc] at hv
     have hn:isD c=true:=by simpa using hn
     rw [hn,if_pos rfl] at hv
     exact ⟨⟨x.k+1,s.length-(x.k+1),[],0⟩,⟨(by dsimp only;omega),(by dsimp only;omega),rfl⟩,(by show s.length-(x.k+1)+1<=x.r;omega),rfl,⟨rfl,⟨rfl,trivial,trivial⟩,rfl,wr64 (by omega) (by omega),trivial⟩,trivial⟩
 · have hq:¬(x.k:Int)<s.length:=by simpa using hq
   rw [List.drop_eq_nil_of_le (by omega)] at hv
   have:x.k=spn isD s:=by simpa [spn] using hv
   omega
def Anu:Fr thy->Hp thy->Nat->Ann thy:=fun T h i=>{X:=LX,fr:=fun x=> [(0,T 0),(4,.int false .i64 x.m),(15,T 15),(16,.int false .i64 x.k)],bl:=fun x=> [],src:=fun _=> [],md:= [],ih:=i,M:=i+30,meas:=fun x=>x.r}
noncomputable def Fnum:Fns thy:=addL F0 94 5 Anu E
theorem Z78:FnsOk E Fnum:=Yc E_ok F0_ok _ _ _
def numL (n:Int):List Nat->Int×Int
 | []=>(n,0)
 |c::r=>if 10*n+(c-48)>1099511627776 then (0,2) else numL (10*n+(c-48)) r
def numb (s:List Nat):Int×Int:=if 1<s.length/\s.head? =some 48 then (0,150) else numL 0 s
theorem Zy3 {n:Int} {s:List Nat} {k c:Nat} (h:s[k]? =some c):numL n (s.drop k)=if 10*n+(c-48)>1099511627776 then (0,2) else numL (10*n+(c-48)) (s.drop (k+1)):=by
 have hlt:=(List.getElem?_eq_some_iff.1 h).1
 have hc:s[k]=c:=(List.getElem?_eq_some_iff.1 h).2
 rw [List.drop_eq_getElem_cons hlt,hc];rfl
abbrev qCC1 (a0:LX) (b0:Nat):=(wr IntKind.i64 ((10:Int)*LX.m a0)+wr IntKind.i64 (wr IntKind.u8 ((↑b0:Int)-(48:Int))))
abbrev qCC2 (a0:List Nat):=(↑(List.length a0):Int)
abbrev qCC3 (a0:LX):=(↑(LX.k a0):Int)
abbrev qCC4:=(0:Int)
theorem Zow (s : List Nat) (v e : Int) : Zg E Fnum (vc E Fnum 400) 94 [.str false s] hp0 0 (fun r => ret E (patch hp0 0 r) r.v (.tup [.int false .i64 v, .int false .i64 e])) = (
 ∃ (Q : Bool → Prop), ((decide ((qCC2 s) > (1 : Int)) = true → qCC4 ≤ qCC4 ∧ qCC4 + (1 : Int) ≤ (qCC2 s) ∧ ∀ (x : Nat), s[Int.toNat qCC4]? = some x → (((↑x : Int) == (48 : Int)) = true → Q true) ∧ (((↑x : Int) == (48 : Int)) = false → Q false)) ∧ (decide ((qCC2 s) > (1 : Int)) = false → Q false)) ∧ (Q true → qCC4 = v ∧ (150 : Int) = e ∧ True) ∧ (Q false → ∃ (R : LX → Prop), (∃ (x : LX), R x ∧ true = true ∧ (s = s ∧ qCC4 = LX.m x ∧ (qCC2 s) = (qCC2 s) ∧ qCC4 = (qCC3 x) ∧ True) ∧ True) ∧ ∀ (x : LX), R x → (decide ((qCC3 x) < (qCC2 s)) = true → qCC4 ≤ (qCC3 x) ∧ (qCC3 x) + (1 : Int) ≤ (qCC2 s) ∧ ∀ (x_1 : Nat), s[Int.toNat (qCC3 x)]? = some x_1 → (decide (wr IntKind.i64 (qCC1 x x_1) > (1099511627776 : Int)) = true → qCC4 = v ∧ (2 : Int) = e ∧ True) ∧ (decide (wr IntKind.i64 (qCC1 x x_1) > (1099511627776 : Int)) = false → ∃ (x_2 : LX), R x_2 ∧ x_2.2 + (1 : Nat) ≤ x.2 ∧ true = true ∧ (s = s ∧ wr IntKind.i64 (qCC1 x x_1) = LX.m x_2 ∧ (qCC2 s) = (qCC2 s) ∧ wr IntKind.i64 ((qCC3 x) + (1 : Int)) = (qCC3 x_2) ∧ True) ∧ True)) ∧ (decide ((qCC3 x) < (qCC2 s)) = false → LX.m x = v ∧ qCC4 = e ∧ True))) := by kernel_rfl
theorem Zox (s : List Nat) (hs : s.length ≤ 1000000000) (hd : ∀ c ∈ s, 48 ≤ c ∧ c ≤ 57) : PureC E 94 [.str false s] (.tup [.int false .i64 (numb s).1, .int false .i64 (numb s).2]) := by
  refine Za E_ok (Zi E_ok Z78 400) ?_
  rw [Zow]; delta qCC1 qCC2 qCC3 qCC4
  refine ⟨fun b => b = decide (1 < s.length ∧ s.head? = some 48), ⟨fun h => ?_, fun h => ?_⟩, fun h => ?_, fun h => ?_⟩
  · have h : (1 : Int) < s.length := by simpa using h
    refine ⟨Int.le_refl 0, by omega, fun x hx => ?_⟩
    have hx : s[0]? = some x := hx
    rw [List.head?_eq_getElem?, hx]
    refine ⟨fun h2 => ?_, fun h2 => ?_⟩
    · have h2 : x = 48 := by have : (x : Int) = 48 := by simpa using h2
                             omega
      simp [h2]; omega
    · have h2 : x ≠ 48 := by
        intro e
        subst e
        simp at h2
      simp [h2]
  · have h : ¬ (1 : Int) < s.length := by simpa using h
    have : ¬ 1 < s.length := by omega
    simp [this]
  · have h := (decide_eq_true_iff.1 h.symm)
    unfold numb
    rw [if_pos h]
    exact ⟨rfl, rfl, trivial⟩
  · have h := (decide_eq_false_iff_not.1 h.symm)
    have hn : numb s = numL 0 s := by unfold numb; rw [if_neg h]
    rw [hn]
    refine ⟨fun x => x.k ≤ s.length ∧ numL x.m (s.drop x.k) = numL 0 s ∧ 0 ≤ x.m ∧ x.m ≤ 1099511627776 ∧ x.r = s.length - x.k, ⟨⟨0, s.length, [], 0⟩, ⟨(by dsimp only; omega), rfl, Int.le_refl 0, (by show (0:Int) ≤ 1099511627776; omega), rfl⟩, by simp⟩, ?_⟩
    rintro x ⟨hk, hv, hm0, hm1, hr⟩
    refine ⟨fun hq => ?_, fun hq => ?_⟩
    · have hq : (x.k : Int) < s.length := by simpa using hq
      refine ⟨by omega, by omega, fun c hc => ?_⟩
      have hc : s[x.k]? = some c := hc
      have hcd := hd c (List.mem_of_getElem? hc)
      have w0 : wr .u8 ((c : Int) - 48) = c - 48 := by simp only [wr, IntKind.wrap_u8]; omega
      have w1 : wr .i64 (10 * x.m) = 10 * x.m := wr64 (by omega) (by omega)
      have w2 : wr .i64 ((c : Int) - 48) = c - 48 := wr64 (by omega) (by omega)
      have w3 : wr .i64 (10 * x.m + ((c : Int) - 48)) = 10 * x.m + (c - 48) := wr64 (by omega) (by omega)
      rw [w0, w1, w2, w3]
      rw [Zy3 hc] at hv
      refine ⟨fun h2 => ?_, fun h2 => ?_⟩
      · have h2 : 10 * x.m + ((c : Int) - 48) > 1099511627776 := by simpa using h2
        rw [if_pos h2] at hv
        rw [← hv]
        exact ⟨rfl, rfl, trivial⟩
      · have h2 : ¬ 10 * x.m + ((c : Int) - 48) > 1099511627776 := by simpa using h2
        rw [if_neg h2] at hv
        exact ⟨⟨x.k + 1, s.length - (x.k + 1), [], 10 * x.m + (c - 48)⟩, ⟨(by dsimp only; omega), hv, (by dsimp only; omega), (by dsimp only; omega), rfl⟩, (by show s.length - (x.k + 1) + 1 ≤ x.r; omega), rfl, ⟨rfl, rfl, rfl, wr64 (by omega) (by omega), trivial⟩, trivial⟩
    · have hq : ¬ (x.k : Int) < s.length := by simpa using hq
      rw [List.drop_eq_nil_of_le (by omega)] at hv
      rw [← hv]
      exact ⟨rfl, rfl, trivial⟩
noncomputable def dSF:Dc E Bool where
 dec v:=match v with| .fn (.func f) [] []=>(match Nat.beq f 92 with|true=>some true|false=>(match Nat.beq f 93 with|true=>some false|false=>none))|_=>none
 enc b:= .fn (.func (bif b then 92 else 93)) [] []
 ok v a h:=by
  split at h
  · rename_i f
    split at h
    · rename_i e
      cases h
      have e:=Nat.eq_of_beq_eq_true e
      cases e
      exact ⟨rfl,rfl,fun σ g u hd=>hd⟩
    · split at h
      · rename_i e
        cases h
        have e:=Nat.eq_of_beq_eq_true e
        cases e
        exact ⟨rfl,rfl,fun σ g u hd=>hd⟩
      · cases h
  · cases h
def spF (b:Bool) (s:List Nat):Nat:=bif b then spn isLD s else spn isD s
noncomputable def Ybn:Sum thy:=V8 (DcL.cons dS (DcL.cons dSF DcL.nil)) (fun x=>x.1.length<=1000000000) (fun x=>spF x.2.1 x.1) fun (y:Nat)=> .int false .i64 y
theorem Z2x:SumOk E 91 Ybn:=Z5 E_ok (Zd (f:=91) rfl) fun x h=>by
 obtain ⟨s,b,_⟩:=x
 cases b with
 |true=>exact Ztm s h
 |false=>exact Zto s h
noncomputable def Zy4:Sum thy:=V8 (dA1 dS) (fun x=>x.1.length<=1000000000/\∀c∈x.1,48<=c/\c<=57) (fun x=>numb x.1) fun y=> .tup [.int false .i64 y.1,.int false .i64 y.2]
theorem Ztp:SumOk E 94 Zy4:=Z5 E_ok (Zd (f:=94) rfl) fun x h=>Zox x.1 h.1 h.2
noncomputable def Ftok:Fns thy:=addS (addS Flx 91 Ybn) 94 Zy4
theorem Z79:FnsOk E Ftok:=Zb (Zb Zyz Z2x) Ztp
def tokV (t:Tok):SV thy:= .agg [.int false .i64 t.kind,.str false t.text,.int false .i64 t.n,.int false .i64 t.at_]
abbrev qCCa:=(0:Int)
abbrev qCC5 (a0:Tok):=(qCCa=Tok.kind a0/\ []=Tok.text a0/\qCCa=Tok.n a0/\qCCa=Tok.at_ a0/\True)
abbrev qCCb (a0:List Nat):=(↑(List.length a0):Int)
abbrev qCC9 (a0:List Nat):=((qCCb a0)>=(1:Int))
abbrev qCCc:=(150:Int)
abbrev qCC6 (a0:List Nat) (b0:Tok) (c0:Int):=(decide (qCC9 a0)=false->(qCC5 b0)/\qCCc=c0/\True)
abbrev qCC7 (a0:List Nat):=(qCCa<=(1:Int)/\(1:Int)<=(qCCb a0))
abbrev qCC8:=(Int.toNat (1:Int))
abbrev qCCf (a0:Nat):=(↑a0:Int)
abbrev qCCd (a0:Nat):=(Int.toNat (qCCf a0))
abbrev qCCe:=(3:Int)
theorem Ztq (s:List Nat) (t:Tok) (e:Int):Zg E Ftok (vc E Ftok 400) 63 [.str false s] hp0 0 (fun r=>ret E (patch hp0 0 r) r.v (.tup [tokV t,.int false .i64 e]))=(
 qCCa<=qCCa/\qCCa+(1:Int)<=(qCCb s)/\∀(x:Nat),s[Int.toNat qCCa]? =some x->True/\(isL (qCCf x)=true->List.length s<=(1000000000:Nat)/\∀(y:Nat),y=spF true s->(qCCa<=(qCCf y)/\(qCCf y)<=(qCCb s))/\(decide ((↑(List.length (List.take (qCCd y) s)):Int)>(32:Int))=true->(qCC5 t)/\(2:Int)=e/\True)/\(decide ((↑(List.length (List.take (qCCd y) s)):Int)>(32:Int))=false->((1:Int)=Tok.kind t/\List.take (qCCd y) s=Tok.text t/\qCCa=Tok.n t/\qCCa=Tok.at_ t/\True)/\qCCa=e/\True))/\(isL (qCCf x)=false->True/\(isD (qCCf x)=true->List.length s<=(1000000000:Nat)/\∀(y:Nat),y=spF false s->(qCCa<=(qCCf y)/\(qCCf y)<=(qCCb s))/\(List.length (List.take (qCCd y) s)<=(1000000000:Nat)/\∀(c:Nat),c∈List.take (qCCd y) s->(48:Nat)<=c/\c<=(57:Nat))/\∀(y_1:Int×Int),y_1=numb (List.take (qCCd y) s)->((2:Int)=Tok.kind t/\List.take (qCCd y) s=Tok.text t/\Prod.fst y_1=Tok.n t/\qCCa=Tok.at_ t/\True)/\Prod.snd y_1=e/\True)/\(isD (qCCf x)=false->qCCa<=qCCa/\qCCa+(1:Int)<=(qCCb s)/\∀(x:Nat),s[Int.toNat qCCa]? =some x->(((qCCf x)==(↑(123:Nat):Int))=true->(decide (qCC9 s)=true->(qCC7 s)/\((List.take qCC8 s== [(123:Nat)])=true->(qCCe=Tok.kind t/\ [(123:Nat)]=Tok.text t/\qCCa=Tok.n t/\qCCa=Tok.at_ t/\True)/\qCCa=e/\True)/\((List.take qCC8 s== [(123:Nat)])=false->(qCC5 t)/\qCCc=e/\True))/\(qCC6 s t e))/\(((qCCf x)==(↑(123:Nat):Int))=false->(((qCCf x)==(↑(125:Nat):Int))=true->(decide (qCC9 s)=true->(qCC7 s)/\((List.take qCC8 s== [(125:Nat)])=true->(qCCe=Tok.kind t/\ [(125:Nat)]=Tok.text t/\qCCa=Tok.n t/\qCCa=Tok.at_ t/\True)/\qCCa=e/\True)/\((List.take qCC8 s== [(125:Nat)])=false->(qCC5 t)/\qCCc=e/\True))/\(qCC6 s t e))/\(((qCCf x)==(↑(125:Nat):Int))=false->(((qCCf x)==(↑(40:Nat):Int))=true->(decide (qCC9 s)=true->(qCC7 s)/\((List.take qCC8 s== [(40:Nat)])=true->(qCCe=Tok.kind t/\ [(40:Nat)]=Tok.text t/\qCCa=Tok.n t/\qCCa=Tok.at_ t/\True)/\qCCa=e/\True)/\((List.take qCC8 s== [(40:Nat)])=false->(qCC5 t)/\qCCc=e/\True))/\(qCC6 s t e))/\(((qCCf x)==(↑(40:Nat):Int))=false->(((qCCf x)==(↑(41:Nat):Int))=true->(decide (qCC9 s)=true->(qCC7 s)/\((List.take qCC8 s== [(41:Nat)])=true->(qCCe=Tok.kind t/\ [(41:Nat)]=Tok.text t/\qCCa=Tok.n t/\qCCa=Tok.at_ t/\True)/\qCCa=e/\True)/\((List.take qCC8 s== [(41:Nat)])=false->(qCC5 t)/\qCCc=e/\True))/\(qCC6 s t e))/\(((qCCf x)==(↑(41:Nat):Int))=false->(((qCCf x)==(↑(59:Nat):Int))=true->(decide (qCC9 s)=true->(qCC7 s)/\((List.take qCC8 s== [(59:Nat)])=true->(qCCe=Tok.kind t/\ [(59:Nat)]=Tok.text t/\qCCa=Tok.n t/\qCCa=Tok.at_ t/\True)/\qCCa=e/\True)/\((List.take qCC8 s== [(59:Nat)])=false->(qCC5 t)/\qCCc=e/\True))/\(qCC6 s t e))/\(((qCCf x)==(↑(59:Nat):Int))=false->(((qCCf x)==(↑(44:Nat):Int))=true->(decide (qCC9 s)=true->(qCC7 s)/\((List.take qCC8 s== [(44:Nat)])=true->(qCCe=Tok.kind t/\ [(44:Nat)]=Tok.text t/\qCCa=Tok.n t/\qCCa=Tok.at_ t/\True)/\qCCa=e/\True)/\((List.take qCC8 s== [(44:Nat)])=false->(qCC5 t)/\qCCc=e/\True))/\(qCC6 s t e))/\(((qCCf x)==(↑(44:Nat):Int))=false->(((qCCf x)==(↑(43:Nat):Int))=true->(decide (qCC9 s)=true->(qCC7 s)/\((List.take qCC8 s== [(43:Nat)])=true->(qCCe=Tok.kind t/\ [(43:Nat)]=Tok.text t/\qCCa=Tok.n t/\qCCa=Tok.at_ t/\True)/\qCCa=e/\True)/\((List.take qCC8 s== [(43:Nat)])=false->(qCC5 t)/\qCCc=e/\True))/\(qCC6 s t e))/\(((qCCf x)==(↑(43:Nat):Int))=false->(((qCCf x)==(↑(45:Nat):Int))=true->(decide (qCC9 s)=true->(qCC7 s)/\((List.take qCC8 s== [(45:Nat)])=true->(qCCe=Tok.kind t/\ [(45:Nat)]=Tok.text t/\qCCa=Tok.n t/\qCCa=Tok.at_
t/\True)/\qCCa=e/\True)/\((List.take qCC8 s== [(45:Nat)])=false->(qCC5 t)/\qCCc=e/\True))/\(qCC6 s t e))/\(((qCCf x)==(↑(45:Nat):Int))=false->(((qCCf x)==(↑(42:Nat):Int))=true->(decide (qCC9 s)=true->(qCC7 s)/\((List.take qCC8 s== [(42:Nat)])=true->(qCCe=Tok.kind t/\ [(42:Nat)]=Tok.text t/\qCCa=Tok.n t/\qCCa=Tok.at_ t/\True)/\qCCa=e/\True)/\((List.take qCC8 s== [(42:Nat)])=false->(qCC5 t)/\qCCc=e/\True))/\(qCC6 s t e))/\(((qCCf x)==(↑(42:Nat):Int))=false->(((qCCf x)==(↑(60:Nat):Int))=true->(decide (qCC9 s)=true->(qCC7 s)/\((List.take qCC8 s== [(60:Nat)])=true->(qCCe=Tok.kind t/\ [(60:Nat)]=Tok.text t/\qCCa=Tok.n t/\qCCa=Tok.at_ t/\True)/\qCCa=e/\True)/\((List.take qCC8 s== [(60:Nat)])=false->(qCC5 t)/\qCCc=e/\True))/\(qCC6 s t e))/\(((qCCf x)==(↑(60:Nat):Int))=false->(((qCCf x)==(↑(46:Nat):Int))=true->(decide ((qCCb s)>=(2:Int))=true->(qCCa<=(2:Int)/\(2:Int)<=(qCCb s))/\((List.take (Int.toNat (2:Int)) s== [(46:Nat),(46:Nat)])=true->(qCCe=Tok.kind t/\ [(46:Nat),(46:Nat)]=Tok.text t/\qCCa=Tok.n t/\qCCa=Tok.at_ t/\True)/\qCCa=e/\True)/\((List.take (Int.toNat (2:Int)) s== [(46:Nat),(46:Nat)])=false->(qCC5 t)/\qCCc=e/\True))/\(decide ((qCCb s)>=(2:Int))=false->(qCC5 t)/\qCCc=e/\True))/\(((qCCf x)==(↑(46:Nat):Int))=false->(qCC5 t)/\qCCc=e/\True)))))))))))))):=by kernel_rfl
def sgnW (c:Nat):Option (List Nat):=
 if c=123 then some [123] else if c=125 then some [125] else if c=40 then some [40] else if c=41 then some [41] else if c=59 then some [59] else if c=44 then some [44]
 else if c=43 then some [43] else if c=45 then some [45] else if c=42 then some [42] else if c=60 then some [60] else if c=46 then some [46,46] else none
def z0:Tok:=⟨0,[],0,0⟩
def tokS (s w:List Nat):Tok×Int:=if s.take w.length=w then (⟨3,w,0,0⟩,0) else (z0,150)
def tokP:List Nat->Tok×Int
 | []=>(z0,150)
 |c::r=>if isL c then (if 32<spn isLD (c::r) then (z0,2) else (⟨1,(c::r).take (spn isLD (c::r)),0,0⟩,0))
  else if isD c then (⟨2,(c::r).take (spn isD (c::r)),(numb ((c::r).take (spn isD (c::r)))).1,0⟩,(numb ((c::r).take (spn isD (c::r)))).2)
  else match sgnW c with|some w=>tokS (c::r) w|none=>(z0,150)
theorem Yi (c:Nat) (r:List Nat):tokP (c::r)=if isL c then (if 32<spn isLD (c::r) then (z0,2) else (⟨1,(c::r).take (spn isLD (c::r)),0,0⟩,0))
 else if isD c then (⟨2,(c::r).take (spn isD (c::r)),(numb ((c::r).take (spn isD (c::r)))).1,0⟩,(numb ((c::r).take (spn isD (c::r)))).2)
 else match sgnW c with|some w=>tokS (c::r) w|none=>(z0,150):=rfl
theorem Zi8 {f:Int->Bool}:∀{s:List Nat} {c:Nat},c∈s.take (spn f s)->f c=true
 | [],c,h=>by simp at h
 |x::r,c,h=>by
  unfold spn at h
  split at h
  · rename_i hx
    rw [List.take_succ_cons,List.mem_cons] at h
    rcases h with rfl|h
    · exact hx
    · exact Zi8 h
  · simp at h
theorem Us (s w:List Nat) (k:Int) (hk:k=w.length):
 (decide ((↑(List.length s):Int)>=k)=true->((0:Int)<=k/\k<=(↑(List.length s):Int))/\((List.take (Int.toNat k) s==w)=true->((3:Int)=Tok.kind (tokS s w).1/\w=Tok.text (tokS s w).1/\(0:Int)=Tok.n (tokS s w).1/\(0:Int)=Tok.at_ (tokS s w).1/\True)/\(0:Int)=(tokS s w).2/\True)/\
  ((List.take (Int.toNat k) s==w)=false->((0:Int)=Tok.kind (tokS s w).1/\ []=Tok.text (tokS s w).1/\(0:Int)=Tok.n (tokS s w).1/\(0:Int)=Tok.at_ (tokS s w).1/\True)/\(150:Int)=(tokS s w).2/\True))/\
 (decide ((↑(List.length s):Int)>=k)=false->((0:Int)=Tok.kind (tokS s w).1/\ []=Tok.text (tokS s w).1/\(0:Int)=Tok.n (tokS s w).1/\(0:Int)=Tok.at_ (tokS s w).1/\True)/\(150:Int)=(tokS s w).2/\True):=by
 have e:Int.toNat k=w.length:=by omega
 rw [e]
 unfold tokS
 refine ⟨fun h=> ?_,fun h=> ?_⟩
 · have h:(s.length:Int)>=k:=by simpa using h
   refine ⟨⟨by omega,by omega⟩,fun h2=> ?_,fun h2=> ?_⟩
   · have h2:List.take w.length s=w:=by simpa using h2
     rw [if_pos h2]
     exact ⟨⟨rfl,rfl,rfl,rfl,trivial⟩,rfl,trivial⟩
   · have h2:List.take w.length s≠w:=by simpa using h2
     rw [if_neg h2]
     exact ⟨⟨rfl,rfl,rfl,rfl,trivial⟩,rfl,trivial⟩
 · have h:¬(s.length:Int)>=k:=by simpa using h
   have h2:List.take w.length s≠w:=fun e=>by
    have:=congrArg List.length e
    rw [List.length_take] at this
    omega
   rw [if_neg h2]
   exact ⟨⟨rfl,rfl,rfl,rfl,trivial⟩,rfl,trivial⟩
theorem Ztr (s : List Nat) (h0 : 0 < s.length) (hs : s.length ≤ 1000000000) : PureC E 63 [.str false s] (.tup [tokV (tokP s).1, .int false .i64 (tokP s).2]) := by
  refine Za E_ok (Zi E_ok Z79 400) ?_
  rw [Ztq]; delta qCCa qCC5 qCCb qCC9 qCCc qCC6 qCC7 qCC8 qCCf qCCd qCCe
  cases s with
  | nil => exact absurd h0 (by simp)
  | cons c r =>
  refine ⟨Int.le_refl 0, by simp only [List.length_cons]; omega, fun x hx => ?_⟩
  have hx : (c :: r)[0]? = some x := hx
  rw [List.getElem?_cons_zero] at hx
  cases hx
  refine ⟨trivial, fun hl => ?_, fun hl => ?_⟩
  · refine ⟨hs, fun y hy => ?_⟩
    have hy : y = spn isLD (c :: r) := hy
    have hle : y ≤ (c :: r).length := hy ▸ Zln
    have hm : min y (c :: r).length = y := Nat.min_eq_left hle
    have e1 : Int.toNat (y : Int) = y := by omega
    rw [e1, List.length_take, hm]
    rw [Yi, if_pos hl, ← hy]
    refine ⟨⟨by omega, by omega⟩, fun h => ?_, fun h => ?_⟩
    · have h : (32 : Int) < y := by simpa using h
      rw [if_pos (by omega)]
      exact ⟨⟨rfl, rfl, rfl, rfl, trivial⟩, rfl, trivial⟩
    · have h : ¬ (32 : Int) < y := by simpa using h
      rw [if_neg (by omega)]
      exact ⟨⟨rfl, rfl, rfl, rfl, trivial⟩, rfl, trivial⟩
  refine ⟨trivial, fun hd => ?_, fun hd => ?_⟩
  · refine ⟨hs, fun y hy => ?_⟩
    have hy : y = spn isD (c :: r) := hy
    have hle : y ≤ (c :: r).length := hy ▸ Zln
    have hm : min y (c :: r).length = y := Nat.min_eq_left hle
    have e1 : Int.toNat (y : Int) = y := by omega
    rw [e1, List.length_take, hm]
    rw [Yi, if_neg (by rw [hl]; decide), if_pos hd, ← hy]
    refine ⟨⟨by omega, by omega⟩, ⟨by omega, fun c' hc' => ?_⟩, fun q hq => ?_⟩
    · rw [hy] at hc'
      have := Zi8 hc'
      unfold isD at this
      simp at this
      omega
    · subst hq
      exact ⟨⟨rfl, rfl, rfl, rfl, trivial⟩, rfl, trivial⟩
  refine ⟨Int.le_refl 0, by simp only [List.length_cons]; omega, fun x hx => ?_⟩
  have hx : (c :: r)[0]? = some x := hx
  rw [List.getElem?_cons_zero] at hx
  cases hx
  have hp : ∀ w, sgnW c = some w → tokP (c :: r) = tokS (c :: r) w := fun w hw => by
    rw [Yi, if_neg (by rw [hl]; decide), if_neg (by rw [hd]; decide), hw]
  have st : ∀ (n : Nat) (w : List Nat), sgnW n = some w → ((c : Int) == (n : Int)) = true → tokP (c :: r) = tokS (c :: r) w := fun n w hw h => by
    have : c = n := by have : (c : Int) = n := by simpa using h
                       omega
    subst this
    exact hp w hw
  refine ⟨fun h => by rw [st _ _ rfl h]; exact Us _ _ _ rfl, fun h1 => ?_⟩
  refine ⟨fun h => by rw [st _ _ rfl h]; exact Us _ _ _ rfl, fun h2 => ?_⟩
  refine ⟨fun h => by rw [st _ _ rfl h]; exact Us _ _ _ rfl, fun h3 => ?_⟩
  refine ⟨fun h => by rw [st _ _ rfl h]; exact Us _ _ _ rfl, fun h4 => ?_⟩
  refine ⟨fun h => by rw [st _ _ rfl h]; exact Us _ _ _ rfl, fun h5 => ?_⟩
  refine ⟨fun h => by rw [st _ _ rfl h]; exact Us _ _ _ rfl, fun h6 => ?_⟩
  refine ⟨fun h => by rw [st _ _ rfl h]; exact Us _ _ _ rfl, fun h7 => ?_⟩
  refine ⟨fun h => by rw [st _ _ rfl h]; exact Us _ _ _ rfl, fun h8 => ?_⟩
  refine ⟨fun h => by rw [st _ _ rfl h]; exact Us _ _ _ rfl, fun h9 => ?_⟩
  refine ⟨fun h => by rw [st _ _ rfl h]; exact Us _ _ _ rfl, fun h10 => ?_⟩
  refine ⟨fun h => by rw [st _ _ rfl h]; exact Us _ _ _ rfl, fun h11 => ?_⟩
  have hn : sgnW c = none := by
    have f : ∀ n : Nat, ((c : Int) == (n : Int)) = false → c ≠ n := fun n h e => by subst e; simp at h
    unfold sgnW
    rw [if_neg (f _ h1), if_neg (f _ h2), if_neg (f _ h3), if_neg (f _ h4), if_neg (f _ h5), if_neg (f _ h6), if_neg (f _ h7), if_neg (f _ h8), if_neg (f _ h9), if_neg (f _ h10), if_neg (f _ h11)]
  have : tokP (c :: r) = (z0, 150) := by
    rw [Yi, if_neg (by rw [hl]; decide), if_neg (by rw [hd]; decide), hn]
  rw [this]
  exact ⟨⟨rfl, rfl, rfl, rfl, trivial⟩, rfl, trivial⟩
noncomputable def Z4t:Sum thy:=V8 (dA1 dS) (fun x=>0<x.1.length/\x.1.length<=1000000000) (fun x=>tokP x.1) fun y=> .tup [tokV y.1,.int false .i64 y.2]
theorem Zy5:SumOk E 63 Z4t:=Z5 E_ok (Zd (f:=63) rfl) fun x h=>Ztr x.1 h.1 h.2
structure TkX where
 at_:Nat
 ts:List Tok
 r:Nat
def Atk:Fr thy->Hp thy->Nat->Ann thy:=fun T h i=>{X:=Bool×TkX,fr:=fun x=> [(0,T 0),(5,match x.1 with|true=> .sl i 0 x.2.ts.length 4 none|false=> .val (.slice none 0 0)),(6,.int false .i64 x.2.at_)],bl:=fun x=>(match x.1 with|true=> [(i,.rows Th.toks x.2.ts 0)]|false=> []),src:=fun x=>(match x.1 with|true=> [(i,5)]|false=> []),md:= [],ih:=i+1,M:=i+60,meas:=fun x=>x.2.r,ex:=ex2,al:=al2,exOk:=Zwr,alOk:=Zws}
noncomputable def Ftk:Fns thy:=addL (addS F0 63 Z4t) 27 5 Atk E
theorem Ybo:FnsOk E Ftk:=Yc E_ok (Zb F0_ok Zy5) _ _ _
abbrev qCCg (a0:TkX):=(↑(TkX.at_ a0):Int)
abbrev qCCl:=(0:Nat)
abbrev qCCp:=(1:Nat)
abbrev qCCh (a0:Bool×TkX->Prop) (b0:TkX) (c0:List Nat):=(∃(y_1:TkX),a0 (false,y_1)/\y_1.3+qCCp<=b0.3/\true=true/\(c0=c0/\Value.slice none qCCl qCCl=Value.slice none qCCl qCCl/\wr IntKind.i64 ((qCCg b0)+(1:Int))=(qCCg y_1)/\True)/\True)
abbrev qCCi (a0:Bool×TkX->Prop) (b0:TkX) (c0:List Nat):=(∃(y_1:TkX),a0 (false,y_1)/\y_1.3+qCCp<=b0.3/\true=true/\(c0=c0/\False/\wr IntKind.i64 ((qCCg b0)+(1:Int))=(qCCg y_1)/\True)/\True)
abbrev qCCj (a0:List Nat) (b0:TkX) (c0:TkX):=(a0=a0/\(qCCl=qCCl/\List.length (TkX.ts b0)=List.length (TkX.ts c0)/\True)/\wr IntKind.i64 ((qCCg b0)+(1:Int))=(qCCg c0)/\True)
abbrev qCCk (a0:TkX) (b0:List Nat):=(List.drop (Int.toNat (qCCg a0)) b0)
abbrev qCCm:=(Int.toNat (10:Int)%(256:Nat))
abbrev qCCn (a0:List Nat):=(↑(List.length a0):Int)
abbrev qCCo:=(0:Int)
abbrev qCCq (a0:TkX) (b0:Tok×Int):=((qCCg a0)+(↑(List.length (Tok.text (Prod.fst b0))):Int))
abbrev qCCr (a0:TkX) (b0:List Nat):=((qCCg a0)+wr IntKind.i64 (idxL qCCm qCCl (qCCk a0 b0)+(1:Int)))
abbrev qCCs (a0:TkX) (b0:TkX):=(TkX.ts a0=TkX.ts b0/\qCCl=qCCl)
abbrev qCCt (a0:TkX) (b0:List Tok):=(qCCl+List.length (TkX.ts a0)<=List.length (TkX.ts a0)/\List.take (List.length (TkX.ts a0)) (TkX.ts a0)=b0)
abbrev qCCu (a0:TkX) (b0:List Nat):=(qCCo<=(qCCg a0)/\(qCCg a0)<=(qCCn b0))
theorem Zoy (s:List Nat) (l:List Tok) (a e:Int):Zg E Ftk (vc E Ftk 400) 27 [.str false s] hp0 0 (fun r=>ret E (patch hp0 0 r) r.v (.tup [.psl Th.toks l false,.int false .i64 a,.int false .i64 e]))=(
 (decide ((qCCn s)>(2000:Int))=true->l= []/\qCCo=a/\(2:Int)=e/\True)/\(decide ((qCCn s)>(2000:Int))=false->∃(R:Bool×TkX->Prop),((∃(y:TkX),R (false,y)/\true=true/\(s=s/\Value.slice none qCCl qCCl=Value.slice none qCCl qCCl/\qCCo=(qCCg y)/\True)/\True)\/∃(y:TkX),R (true,y)/\true=true/\False)/\(∀(y:TkX),R (false,y)->(decide ((qCCg y)<(qCCn s))=true->qCCo<=(qCCg y)/\(qCCg y)+(1:Int)<=(qCCn s)/\∀(x:Nat),s[Int.toNat (qCCg y)]? =some x->(((↑x:Int)==(32:Int))=true->(qCCh R y s)\/∃(y_1:TkX),R (true,y_1)/\y_1.3+qCCp<=y.3/\true=true/\False)/\(((↑x:Int)==(32:Int))=false->(((↑x:Int)==(9:Int))=true->(qCCh R y s)\/∃(y_1:TkX),R (true,y_1)/\y_1.3+qCCp<=y.3/\true=true/\False)/\(((↑x:Int)==(9:Int))=false->(((↑x:Int)==(13:Int))=true->(qCCh R y s)\/∃(y_1:TkX),R (true,y_1)/\y_1.3+qCCp<=y.3/\true=true/\False)/\(((↑x:Int)==(13:Int))=false->(((↑x:Int)==(10:Int))=true->(qCCh R y s)\/∃(y_1:TkX),R (true,y_1)/\y_1.3+qCCp<=y.3/\true=true/\False)/\(((↑x:Int)==(10:Int))=false->(((↑x:Int)==(35:Int))=true->(qCCu y s)/\(decide (idxL qCCm qCCl (qCCk y s)<qCCo)=true->l= []/\qCCo=a/\qCCo=e/\True)/\(decide (idxL qCCm qCCl (qCCk y s)<qCCo)=false->(∃(y_1:TkX),R (false,y_1)/\y_1.3+qCCp<=y.3/\true=true/\(s=s/\Value.slice none qCCl qCCl=Value.slice none qCCl qCCl/\wr IntKind.i64 (qCCr y s)=(qCCg y_1)/\True)/\True)\/∃(y_1:TkX),R (true,y_1)/\y_1.3+qCCp<=y.3/\true=true/\False))/\(((↑x:Int)==(35:Int))=false->(qCCu y s)/\(qCCl+qCCp<=List.length (qCCk y s)/\List.length (qCCk y s)<=(1000000000:Nat))/\∀(y_1:Tok×Int),y_1=tokP (qCCk y s)->((Prod.snd y_1 !=qCCo)=true->l= []/\(qCCg y)=a/\Prod.snd y_1=e/\True)/\((Prod.snd y_1 !=qCCo)=false->(∃(y_2:TkX),R (false,y_2)/\y_2.3+qCCp<=y.3/\true=true/\(s=s/\False/\wr IntKind.i64 (qCCq y y_1)=(qCCg y_2)/\True)/\True)\/∃(y_2:TkX),R (true,y_2)/\y_2.3+qCCp<=y.3/\true=true/\(s=s/\(qCCl=qCCl/\qCCp=List.length (TkX.ts y_2)/\True)/\wr IntKind.i64 (qCCq y y_1)=(qCCg y_2)/\True)/\([Tok.mk (Tok.kind (Prod.fst y_1)) (Tok.text (Prod.fst y_1)) (Tok.n (Prod.fst y_1)) (qCCg y)]=TkX.ts y_2/\qCCl=qCCl)/\True)))))))/\(decide ((qCCg y)<(qCCn s))=false->l= []/\qCCo=a/\qCCo=e/\True))/\∀(y:TkX),R (true,y)->(decide ((qCCg y)<(qCCn s))=true->qCCo<=(qCCg y)/\(qCCg y)+(1:Int)<=(qCCn s)/\∀(x:Nat),s[Int.toNat (qCCg y)]? =some x->(((↑x:Int)==(32:Int))=true->(qCCi R y s)\/∃(y_1:TkX),R (true,y_1)/\y_1.3+qCCp<=y.3/\true=true/\(qCCj s y y_1)/\(qCCs y y_1)/\True)/\(((↑x:Int)==(32:Int))=false->(((↑x:Int)==(9:Int))=true->(qCCi R y s)\/∃(y_1:TkX),R (true,y_1)/\y_1.3+qCCp<=y.3/\true=true/\(qCCj s y y_1)/\(qCCs y y_1)/\True)/\(((↑x:Int)==(9:Int))=false->(((↑x:Int)==(13:Int))=true->(qCCi R y s)\/∃(y_1:TkX),R (true,y_1)/\y_1.3+qCCp<=y.3/\true=true/\(qCCj s y y_1)/\(qCCs y y_1)/\True)/\(((↑x:Int)==(13:Int))=false->(((↑x:Int)==(10:Int))=true->(qCCi R y s)\/∃(y_1:TkX),R (true,y_1)/\y_1.3+qCCp<=y.3/\true=true/\(qCCj s y y_1)/\(qCCs y y_1)/\True)/\(((↑x:Int)==(10:Int))=false->(((↑x:Int)==(35:Int))=true->(qCCu y s)/\(decide (idxL qCCm qCCl (qCCk y s)<qCCo)=true->(qCCt y l)/\qCCo=a/\qCCo=e/\True)/\(decide (idxL qCCm qCCl (qCCk y s)<qCCo)=false->(∃(y_1:TkX),R (false,y_1)/\y_1.3+qCCp<=y.3/\true=true/\(s=s/\False/\wr IntKind.i64 (qCCr y s)=(qCCg y_1)/\True)/\True)\/∃(y_1:TkX),R (true,y_1)/\y_1.3+qCCp<=y.3/\true=true/\(s=s/\(qCCl=qCCl/\List.length (TkX.ts y)=List.length (TkX.ts y_1)/\True)/\wr IntKind.i64 (qCCr y s)=(qCCg y_1)/\True)/\(qCCs y y_1)/\True))/\
(((↑x:Int)==(35:Int))=false->(qCCu y s)/\(qCCl+qCCp<=List.length (qCCk y s)/\List.length (qCCk y s)<=(1000000000:Nat))/\∀(y_1:Tok×Int),y_1=tokP (qCCk y s)->((Prod.snd y_1 !=qCCo)=true->l= []/\(qCCg y)=a/\Prod.snd y_1=e/\True)/\((Prod.snd y_1 !=qCCo)=false->(List.length (TkX.ts y)<=List.length (TkX.ts y)/\qCCl<=List.length (TkX.ts y)/\(List.length (TkX.ts y)+qCCp)*(40:Nat)<=(140737488355328:Nat))/\((∃(y_2:TkX),R (false,y_2)/\y_2.3+qCCp<=y.3/\true=true/\(s=s/\False/\wr IntKind.i64 (qCCq y y_1)=(qCCg y_2)/\True)/\True)\/∃(y_2:TkX),R (true,y_2)/\y_2.3+qCCp<=y.3/\true=true/\(s=s/\(qCCl=qCCl/\List.length (TkX.ts y)+qCCp=List.length (TkX.ts y_2)/\True)/\wr IntKind.i64 (qCCq y y_1)=(qCCg y_2)/\True)/\(List.take (List.length (TkX.ts y)) (TkX.ts y)++ [Tok.mk (Tok.kind (Prod.fst y_1)) (Tok.text (Prod.fst y_1)) (Tok.n (Prod.fst y_1)) (qCCg y)]=TkX.ts y_2/\qCCl=qCCl)/\True))))))))/\(decide ((qCCg y)<(qCCn s))=false->(qCCt y l)/\qCCo=a/\qCCo=e/\True))):=by kernel_rfl
def blk (c:Nat):Bool:=c=32||c=9||c=13||c=10
def tksL:Nat->List Nat->Nat->List Tok->List Tok×Int×Int
 |0,_,_,ts=>(ts,0,0)
 |k+1,s,p,ts=>match s[p]? with
  |none=>(ts,0,0)
  |some c=>if blk c then tksL k s (p+1) ts
   else if c=35 then (if idxL 10 0 (s.drop p)<0 then (ts,0,0) else tksL k s (p+(idxL 10 0 (s.drop p)).toNat+1) ts)
   else if (tokP (s.drop p)).2≠0 then ([],p,(tokP (s.drop p)).2)
   else tksL k s (p+(tokP (s.drop p)).1.text.length) (ts++ [⟨(tokP (s.drop p)).1.kind,(tokP (s.drop p)).1.text,(tokP (s.drop p)).1.n,p⟩])
def Yr (s:List Nat):List Tok×Int×Int:=if 2000<s.length then ([],0,2) else tksL s.length s 0 []
theorem Zoz (c:Nat):∀(l:List Nat) (j:Nat),idxL c j l<j+l.length/\ -1<=idxL c j l
 | [],j=>by unfold idxL;simp;try omega
 |x::r,j=>by
  unfold idxL
  split
  · simp;try omega
  · have:=Zoz c r (j+1)
    simp only [List.length_cons]
    omega
theorem Z2y {c:Nat} {w:List Nat} (h:sgnW c=some w):1<=w.length:=by
 unfold sgnW at h
 repeat' split at h
 all_goals (cases h<;>simp)
theorem Zrg {s:List Nat} (h:(tokP s).2=0):1<=(tokP s).1.text.length/\(tokP s).1.text.length<=s.length/\(tokP s).1.text=s.take (tokP s).1.text.length:=by
 cases s with
 |nil=>cases h
 |cons c r=>
  rw [Yi] at h⊢
  have go:∀n,1<=n->n<=(c::r).length->1<=((c::r).take n).length/\((c::r).take n).length<=(c::r).length/\(c::r).take n=(c::r).take ((c::r).take n).length:=fun n h1 h2=>by
   have e:((c::r).take n).length=n:=by rw [List.length_take];omega
   rw [e]
   exact ⟨h1,h2,rfl⟩
  split at h
  · rename_i hl
    rw [if_pos hl]
    split at h
    · cases h
    · rename_i hn
      rw [if_neg hn]
      refine go _ ?_ Zln
      have:isLD c=true:=by unfold isLD;rw [hl];rfl
      unfold spn
      rw [if_pos this]
      omega
  · rename_i hl
    rw [if_neg hl]
    split at h
    · rename_i hd
      rw [if_pos hd]
      refine go _ ?_ Zln
      unfold spn
      rw [if_pos hd]
      omega
    · rename_i hd
      rw [if_neg hd]
      split at h
      · rename_i w hw
        unfold tokS at h⊢
        split at h
        · rename_i ht
          have e:=congrArg List.length ht
          rw [List.length_take] at e
          refine ⟨?_,?_,?_⟩
          · simp only [if_pos ht]
            exact Z2y hw
          · simp only [if_pos ht]
            omega
          · simp only [if_pos ht]
            exact ht.symm
        · cases h
      · cases h
def TkI (s:List Nat) (res:List Tok×Int×Int) (y:TkX):Prop:=y.at_<=s.length/\s.length<=y.at_+y.r/\y.ts.length<=y.at_/\tksL y.r s y.at_ y.ts=res
theorem Z4u {s:List Nat} {res} {y:TkX} (h:TkI s res y) (hq:¬y.at_<s.length):res=(y.ts,0,0):=by
 obtain ⟨h1,h2,h3,h4⟩:=h
 rw [<-h4]
 cases hr:y.r with
 |zero=>rfl
 |succ k=>
  unfold tksL
  rw [List.getElem?_eq_none (by omega)]
theorem Zfs {s:List Nat} {res} {y:TkX} {c:Nat} (h:TkI s res y) (hc:s[y.at_]? =some c):∃k,y.r=k+1/\s.length<=y.at_+(k+1)/\y.at_<s.length/\(if blk c then tksL k s (y.at_+1) y.ts
 else if c=35 then (if idxL 10 0 (s.drop y.at_)<0 then (y.ts,0,0) else tksL k s (y.at_+(idxL 10 0 (s.drop y.at_)).toNat+1) y.ts)
 else if (tokP (s.drop y.at_)).2≠0 then ([],y.at_,(tokP (s.drop y.at_)).2)
 else tksL k s (y.at_+(tokP (s.drop y.at_)).1.text.length) (y.ts++ [⟨(tokP (s.drop y.at_)).1.kind,(tokP (s.drop y.at_)).1.text,(tokP (s.drop y.at_)).1.n,y.at_⟩]))=res:=by
 obtain ⟨h1,h2,h3,h4⟩:=h
 have hlt:=(List.getElem?_eq_some_iff.1 hc).1
 cases hr:y.r with
 |zero=>omega
 |succ k=>
  refine ⟨k,rfl,by omega,hlt,?_⟩
  rw [hr] at h4
  unfold tksL at h4
  rw [hc] at h4
  exact h4
theorem Zrh {s:List Nat} {res} {y:TkX} {c:Nat} (h:TkI s res y) (hc:s[y.at_]? =some c) (hb:blk c=true):TkI s res ⟨y.at_+1,y.ts,y.r-1⟩/\y.r-1+1<=y.r/\y.at_<s.length:=by
 obtain ⟨k,hr,hk,hl,he⟩:=Zfs h hc
 rw [if_pos hb] at he
 have h3:=h.2.2.1
 refine ⟨⟨hl,?_,?_,?_⟩,by omega,hl⟩
 · show s.length<=y.at_+1+(y.r-1)
   omega
 · show y.ts.length<=y.at_+1
   omega
 · rw [hr]
   exact he
theorem Z4v {s:List Nat} {res} {y:TkX} {c:Nat} (h:TkI s res y) (hc:s[y.at_]? =some c) (hb:blk c=false) (h35:c=35) (hi:¬idxL 10 0 (s.drop y.at_)<0):TkI s res ⟨y.at_+(idxL 10 0 (s.drop y.at_)).toNat+1,y.ts,y.r-1⟩/\y.r-1+1<=y.r/\y.at_+(idxL 10 0 (s.drop y.at_)).toNat+1<=s.length:=by
 obtain ⟨k,hr,hk,hl,he⟩:=Zfs h hc
 rw [if_neg (by rw [hb];decide),if_pos h35,if_neg hi] at he
 have h3:=h.2.2.1
 have hb:=(Zoz 10 (s.drop y.at_) 0).1
 rw [List.length_drop] at hb
 refine ⟨⟨?_,?_,?_,?_⟩,by omega,by omega⟩
 · show y.at_+(idxL 10 0 (s.drop y.at_)).toNat+1<=s.length
   omega
 · show s.length<=y.at_+(idxL 10 0 (s.drop y.at_)).toNat+1+(y.r-1)
   omega
 · show y.ts.length<=y.at_+(idxL 10 0 (s.drop y.at_)).toNat+1
   omega
 · rw [hr]
   exact he
theorem Zy6 {s:List Nat} {res} {y:TkX} {c:Nat} (h:TkI s res y) (hc:s[y.at_]? =some c) (hb:blk c=false) (h35:c=35) (hi:idxL 10 0 (s.drop y.at_)<0):res=(y.ts,0,0):=by
 obtain ⟨k,hr,hk,hl,he⟩:=Zfs h hc
 rw [if_neg (by rw [hb];decide),if_pos h35,if_pos hi] at he
 exact he.symm
theorem Z4w {s:List Nat} {res} {y:TkX} {c:Nat} (h:TkI s res y) (hc:s[y.at_]? =some c) (hb:blk c=false) (h35:c≠35) (hi:(tokP (s.drop y.at_)).2≠0):res=([],(y.at_:Int),(tokP (s.drop y.at_)).2):=by
 obtain ⟨k,hr,hk,hl,he⟩:=Zfs h hc
 rw [if_neg (by rw [hb];decide),if_neg h35,if_pos hi] at he
 exact he.symm
theorem Z4x {s:List Nat} {res} {y:TkX} {c:Nat} (h:TkI s res y) (hc:s[y.at_]? =some c) (hb:blk c=false) (h35:c≠35) (hi:(tokP (s.drop y.at_)).2=0):TkI s res ⟨y.at_+(tokP (s.drop y.at_)).1.text.length,y.ts++ [⟨(tokP (s.drop y.at_)).1.kind,(tokP (s.drop y.at_)).1.text,(tokP (s.drop y.at_)).1.n,y.at_⟩],y.r-1⟩/\y.r-1+1<=y.r/\y.at_+(tokP (s.drop y.at_)).1.text.length<=s.length:=by
 obtain ⟨k,hr,hk,hl,he⟩:=Zfs h hc
 rw [if_neg (by rw [hb];decide),if_neg h35,if_neg (by rw [hi];decide)] at he
 have h3:=h.2.2.1
 obtain ⟨n1,n2,_⟩:=Zrg hi
 rw [List.length_drop] at n2
 refine ⟨⟨?_,?_,?_,?_⟩,by omega,by omega⟩
 · show y.at_+(tokP (s.drop y.at_)).1.text.length<=s.length
   omega
 · show s.length<=y.at_+(tokP (s.drop y.at_)).1.text.length+(y.r-1)
   omega
 · show (y.ts++ [_]).length<=y.at_+(tokP (s.drop y.at_)).1.text.length
   rw [List.length_append]
   simp
   omega
 · rw [hr]
   exact he
theorem Zo0 (s:List Nat):PureC E 27 [.str false s] (.tup [.psl Th.toks (Yr s).1 false,.int false .i64 (Yr s).2.1,.int false .i64 (Yr s).2.2]):=by
 refine Za E_ok (Zi E_ok Ybo 400) ?_
 rw [Zoy];delta qCCg qCCl qCCp qCCh qCCi qCCj qCCk qCCm qCCn qCCo qCCq qCCr qCCs qCCt qCCu
 refine ⟨fun h=> ?_,fun h=> ?_⟩
 · have h:(s.length:Int)>2000:=by simpa using h
   unfold Yr
   rw [if_pos (by omega)]
   exact ⟨rfl,rfl,rfl,trivial⟩
 have h:¬(s.length:Int)>2000:=by simpa using h
 have hp:Yr s=tksL s.length s 0 []:=by unfold Yr;rw [if_neg (by omega)]
 generalize Yr s=res at hp
 refine ⟨fun x=>(x.1=false->x.2.ts= [])/\TkI s res x.2,Or.inl ⟨⟨0,[],s.length⟩,⟨fun _=>rfl,Nat.zero_le _,by show s.length<=0+s.length;omega,Nat.le_refl _,hp.symm⟩,rfl,⟨rfl,rfl,rfl,trivial⟩,trivial⟩,?_,?_⟩
 all_goals
  rintro y ⟨h0,hy⟩
  replace hy:TkI s res y:=hy
  refine ⟨fun hq=> ?_,fun hq=> ?_⟩
 · have h0:y.ts= []:=h0 rfl
   have hq:(y.at_:Int)<s.length:=by simpa using hq
   refine ⟨by omega,by omega,fun c hc=> ?_⟩
   have hc:s[y.at_]? =some c:=hc
   have bl:∀n:Nat,((c:Int)==(n:Int))=true->c=n:=fun n h=>by
    have:(c:Int)=n:=by simpa using h
    omega
   have nb:∀n:Nat,((c:Int)==(n:Int))=false->c≠n:=fun n h e=>by subst e;simp at h
   have gb:blk c=true->(∃(y_1:TkX),((false=false->y_1.ts= [])/\TkI s res y_1)/\y_1.3+(1:Nat)<=y.3/\true=true/\(s=s/\Value.slice none (0:Nat) (0:Nat)=Value.slice none (0:Nat) (0:Nat)/\wr IntKind.i64 ((↑(TkX.at_ y):Int)+(1:Int))=(↑(TkX.at_ y_1):Int)/\True)/\True):=fun hb=>
    ⟨⟨y.at_+1,y.ts,y.r-1⟩,⟨fun _=>h0,(Zrh hy hc hb).1⟩,(Zrh hy hc hb).2.1,rfl,⟨rfl,rfl,wr64 (by omega) (by omega),trivial⟩,trivial⟩
   refine ⟨fun h1=>Or.inl (gb (by rw [bl 32 h1];rfl)),fun h1=>⟨fun h2=>Or.inl (gb (by rw [bl 9 h2];rfl)),fun h2=>⟨fun h3=>Or.inl (gb (by rw [bl 13 h3];rfl)),fun h3=>⟨fun h4=>Or.inl (gb (by rw [bl 10 h4];rfl)),fun h4=> ?_⟩⟩⟩⟩
   have hb:blk c=false:=by
    unfold blk
    simp [nb 32 h1,nb 9 h2,nb 13 h3,nb 10 h4]
   have ea:Int.toNat (y.at_:Int)=y.at_:=by omega
   rw [ea]
   refine ⟨fun h5=> ?_,fun h5=> ?_⟩
   · have h35:c=35:=bl 35 h5
     refine ⟨⟨by omega,by omega⟩,fun h6=> ?_,fun h6=> ?_⟩
     · have h6:idxL 10 0 (s.drop y.at_)<0:=by simpa using h6
       have:=Zy6 hy hc hb h35 h6
       rw [this,h0]
       exact ⟨rfl,rfl,rfl,trivial⟩
     · have h6:¬idxL 10 0 (s.drop y.at_)<0:=by simpa using h6
       obtain ⟨g1,g2,g3⟩:=Z4v hy hc hb h35 h6
       refine Or.inl ⟨⟨y.at_+(idxL 10 0 (s.drop y.at_)).toNat+1,y.ts,y.r-1⟩,⟨fun _=>h0,g1⟩,g2,rfl,⟨rfl,rfl,?_,trivial⟩,trivial⟩
       show wr IntKind.i64 ((y.at_:Int)+wr IntKind.i64 (idxL 10 0 (s.drop y.at_)+1))=((y.at_+(idxL 10 0 (s.drop y.at_)).toNat+1:Nat):Int)
       rw [show wr IntKind.i64 (idxL 10 0 (s.drop y.at_)+1)=idxL 10 0 (s.drop y.at_)+1 from wr64 (by omega) (by omega)]
       rw [wr64 (by omega) (by omega)]
       omega
   · have h35:c≠35:=nb 35 h5
     refine ⟨⟨by omega,by omega⟩,⟨by rw [List.length_drop];omega,by rw [List.length_drop];omega⟩,fun z hz=> ?_⟩
     subst hz
     refine ⟨fun h6=> ?_,fun h6=> ?_⟩
     · have h6:(tokP (s.drop y.at_)).2≠0:=by simpa using h6
       rw [Z4w hy hc hb h35 h6]
       exact ⟨rfl,rfl,rfl,trivial⟩
     · have h6:(tokP (s.drop y.at_)).2=0:=by simpa using h6
       obtain ⟨g1,g2,g3⟩:=Z4x hy hc hb h35 h6
       rw [h0] at g1
       refine Or.inr ⟨_,⟨(fun h=>by cases h),g1⟩,g2,rfl,⟨rfl,⟨rfl,rfl,trivial⟩,?_,trivial⟩,⟨rfl,rfl⟩,trivial⟩
       show wr IntKind.i64 ((y.at_:Int)+((tokP (s.drop y.at_)).1.text.length:Int))=((y.at_+(tokP (s.drop y.at_)).1.text.length:Nat):Int)
       rw [wr64 (by omega) (by omega)]
       omega
 · have hq:¬(y.at_:Int)<s.length:=by simpa using hq
   rw [Z4u hy (by omega),h0 rfl]
   exact ⟨rfl,rfl,rfl,trivial⟩
 · have hq:(y.at_:Int)<s.length:=by simpa using hq
   refine ⟨by omega,by omega,fun c hc=> ?_⟩
   have hc:s[y.at_]? =some c:=hc
   have bl:∀n:Nat,((c:Int)==(n:Int))=true->c=n:=fun n h=>by
    have:(c:Int)=n:=by simpa using h
    omega
   have nb:∀n:Nat,((c:Int)==(n:Int))=false->c≠n:=fun n h e=>by subst e;simp at h
   have gb:blk c=true->∃(y_1:TkX),((true=false->y_1.ts= [])/\TkI s res y_1)/\y_1.3+(1:Nat)<=y.3/\true=true/\(s=s/\((0:Nat)=(0:Nat)/\List.length (TkX.ts y)=List.length (TkX.ts y_1)/\True)/\wr IntKind.i64 ((↑(TkX.at_ y):Int)+(1:Int))=(↑(TkX.at_ y_1):Int)/\True)/\(TkX.ts y=TkX.ts y_1/\(0:Nat)=(0:Nat))/\True:=fun hb=>
    ⟨⟨y.at_+1,y.ts,y.r-1⟩,⟨(fun h=>by cases h),(Zrh hy hc hb).1⟩,(Zrh hy hc hb).2.1,rfl,⟨rfl,⟨rfl,rfl,trivial⟩,wr64 (by omega) (by omega),trivial⟩,⟨rfl,rfl⟩,trivial⟩
   refine ⟨fun h1=>Or.inr (gb (by rw [bl 32 h1];rfl)),fun h1=>⟨fun h2=>Or.inr (gb (by rw [bl 9 h2];rfl)),fun h2=>⟨fun h3=>Or.inr (gb (by rw [bl 13 h3];rfl)),fun h3=>⟨fun h4=>Or.inr (gb (by rw [bl 10 h4];rfl)),fun h4=> ?_⟩⟩⟩⟩
   have hb:blk c=false:=by
    unfold blk
    simp [nb 32 h1,nb 9 h2,nb 13 h3,nb 10 h4]
   have ea:Int.toNat (y.at_:Int)=y.at_:=by omega
   have h3:=hy.2.2.1
   rw [ea]
   refine ⟨fun h5=> ?_,fun h5=> ?_⟩
   · have h35:c=35:=bl 35 h5
     refine ⟨⟨by omega,by omega⟩,fun h6=> ?_,fun h6=> ?_⟩
     · have h6:idxL 10 0 (s.drop y.at_)<0:=by simpa using h6
       have:=Zy6 hy hc hb h35 h6
       rw [this]
       exact ⟨⟨by omega,List.take_length⟩,rfl,rfl,trivial⟩
     · have h6:¬idxL 10 0 (s.drop y.at_)<0:=by simpa using h6
       obtain ⟨g1,g2,g3⟩:=Z4v hy hc hb h35 h6
       refine Or.inr ⟨_,⟨(fun h=>by cases h),g1⟩,g2,rfl,⟨rfl,⟨rfl,rfl,trivial⟩,?_,trivial⟩,⟨rfl,rfl⟩,trivial⟩
       show wr IntKind.i64 ((y.at_:Int)+wr IntKind.i64 (idxL 10 0 (s.drop y.at_)+1))=((y.at_+(idxL 10 0 (s.drop y.at_)).toNat+1:Nat):Int)
       rw [show wr IntKind.i64 (idxL 10 0 (s.drop y.at_)+1)=idxL 10 0 (s.drop y.at_)+1 from wr64 (by omega) (by omega)]
       rw [wr64 (by omega) (by omega)]
       omega
   · have h35:c≠35:=nb 35 h5
     refine ⟨⟨by omega,by omega⟩,⟨by rw [List.length_drop];omega,by rw [List.length_drop];omega⟩,fun z hz=> ?_⟩
     subst hz
     refine ⟨fun h6=> ?_,fun h6=> ?_⟩
     · have h6:(tokP (s.drop y.at_)).2≠0:=by simpa using h6
       rw [Z4w hy hc hb h35 h6]
       exact ⟨rfl,rfl,rfl,trivial⟩
     · have h6:(tokP (s.drop y.at_)).2=0:=by simpa using h6
       obtain ⟨g1,g2,g3⟩:=Z4x hy hc hb h35 h6
       refine ⟨⟨Nat.le_refl _,Nat.zero_le _,by omega⟩,Or.inr ⟨_,⟨(fun h=>by cases h),g1⟩,g2,rfl,⟨rfl,⟨rfl,?_,trivial⟩,?_,trivial⟩,⟨?_,rfl⟩,trivial⟩⟩
       · show y.ts.length+1=(y.ts++ [_]).length
         rw [List.length_append]
         rfl
       · show wr IntKind.i64 ((y.at_:Int)+((tokP (s.drop y.at_)).1.text.length:Int))=((y.at_+(tokP (s.drop y.at_)).1.text.length:Nat):Int)
         rw [wr64 (by omega) (by omega)]
         omega
       · show List.take y.ts.length y.ts++_=y.ts++_
         rw [List.take_length]
 · have hq:¬(y.at_:Int)<s.length:=by simpa using hq
   rw [Z4u hy (by omega)]
   exact ⟨⟨by omega,List.take_length⟩,rfl,rfl,trivial⟩
end
section
open Go.RowKit
section
variable {Y : Thy} {E : Eng Y}
def frzH (h:Hp Y) (bs:List Nat):Hp Y:=fun b=>match memB b bs with|true=>frzB (h b)|false=>h b
noncomputable def frzA (E:Eng Y) (gth:List (SV Y)->Option Y.Th) (n:Nat) (S:Sum Y):Sum Y:=fun args h i k=>
 match args with
 |a::rest=>frzL (frzK E gth h n) rest fun rest' bs=>S (a::rest') (frzH h bs) i fun r=>We (bs++r.mods) fun m=>k ⟨r.v,r.n,m,patch (frzH h bs) i r,none⟩
 | []=>False
theorem Zbp {h:Hp Y} {bs:List Nat} {b:Nat} (hb:frzH h bs b≠none):h b≠none:=by
 intro e
 apply hb
 unfold frzH
 rw [e]
 cases memB b bs<;>rfl
theorem Z0l {h:Hp Y} {bs:List Nat} {b:Nat} (hb:b∉bs):frzH h bs b=h b:=by
 unfold frzH
 cases hm:memB b bs with
 |true=>exact absurd (memB_iff.1 hm) hb
 |false=>rfl
theorem U5 (h:Hp Y) (bs:List Nat) (i:Nat) (r:Res Y):patch h i ⟨r.v,r.n,bs++r.mods,patch (frzH h bs) i r,none⟩=patch (frzH h bs) i r:=by
 funext b
 rw [Zf]
 by_cases c:b∈bs++r.mods\/(i<=b/\b<i+r.n)
 · rw [if_pos c]
 · rw [if_neg c,Zf]
   have c1:b∉bs:=fun h=>c (.inl (List.mem_append_left _ h))
   rw [if_neg (fun h=>c (h.elim (fun h=> .inl (List.mem_append_right _ h)) .inr)),Z0l c1]
theorem Zh8 {h:Hp Y} {bs:List Nat} {i n:Nat} {mods:List Nat} {σ σ':Pl} {g g':GH} {w w':World} {B:Nat} (hI:Inv E B σ h g w) (hS:Stp i n mods σ (frzG E h σ bs g w) w σ' g' w'):Stp i n (bs++mods) σ g w σ' g' w':=by
 refine ⟨hS.sig,hS.snew,(Va hI).trans hS.gle,fun r o v hv=> ?_,hS.gmnew,fun r hr hx=>hS.heap r hr fun b hb=>hx b (List.mem_append_right _ hb),hS.size,hS.os,hS.tape,hS.output,fun b r z h1 h2=> ?_⟩
 · rcases hS.gcnew r o v hv with h1|h1|⟨b,hb,h1⟩
   · rcases Wk h1 with ⟨_,b,hb,z,x,h2,_⟩|h2
     · exact .inr (.inr ⟨b,List.mem_append_left _ hb,z,h2⟩)
     · exact .inl h2
   · exact .inr (.inl h1)
   · exact .inr (.inr ⟨b,List.mem_append_right _ hb,h1⟩)
 · rcases hS.blk b r z h1 h2 with h3|⟨b',hb',h3⟩
   · exact .inl h3
   · exact .inr ⟨b',List.mem_append_right _ hb',h3⟩
theorem Z5r (hE:EngOk E) {gth:List (SV Y)->Option Y.Th} {n:Nat} {f:Nat} {S:Sum Y} (hS:SumOk E f S):SumOk E f (frzA E gth n S):=by
 refine ⟨hS.good,fun args h i k hD hk=> ?_⟩
 unfold frzA at hk
 split at hk
 case h_2=>exact hk.elim
 rename_i a rest
 obtain ⟨rest',bs,hk,o⟩:=W9 (Vv hE n) hk
 obtain ⟨r,hk,hR,htri⟩:=hS.ok (a::rest') (frzH h bs) i _ (fun b hb=>hD b (Zbp hb)) hk
 rw [Yx] at hk
 have args2:∀(B:Nat) (σ:Pl) (g:GH) (w:World) (vals:List Value),Inv E B σ h g w->DenL E σ g (a::rest) vals->DenL E σ (frzG E h σ bs g w) (a::rest') vals:=by
  intro B σ g w vals hI hd
  have hle:=Va (bs:=bs) hI
  refine ⟨by rw [<-hd.1];simp [o.len],fun j sv' u h1 h2=> ?_⟩
  cases j with
  |zero=>
   simp at h1;subst h1
   exact (hd.2 0 _ u rfl h2).mono (.refl _) hle
  |succ j=>
   have h1:rest'[j]? =some sv':=by simpa using h1
   have hjl:j<rest.length:=by rw [<-o.len];exact (List.getElem?_eq_some_iff.1 h1).1
   exact (o.den h σ g w B _ (fun _ _=>rfl) hI hle Un j _ sv' u (List.getElem?_eq_getElem hjl) h1 (hd.2 (j+1) _ u (by simpa using List.getElem?_eq_getElem hjl) h2)).mono (fun b p h=>by cases h) (.refl _)
 refine ⟨_,hk,fun b hb=> ?_,?_⟩
 · have hb:b∈bs++r.mods:=hb
   rcases List.mem_append.1 hb with h1|h1
   · obtain ⟨y,hy,_⟩:=o.blk b h1
     rw [hy];simp
   · exact Zbp (hR b h1)
 rcases htri with ht|⟨p,hp,ht⟩
 · refine .inl ?_
   intro B σ g w vals hh hrd hI hB hfree hd
   obtain rfl:hh=h:=funext fun b=>hrd b trivial
   refine (ht B σ _ w vals (frzH hh bs) (fun _ _=>rfl) (Zfe hE o.blk hI) hB hfree (args2 B σ g w _ hI hd)).mono ?_
   rintro en w' ⟨u,he,σ',g',hst,hI',hv⟩
   refine ⟨u,he,σ',g',Zh8 hI hst,?_,hv⟩
   rw [U5]
   exact hI'
 · refine .inr ⟨p,hp,fun B σ g w vals hI hB hfree hd=> ?_⟩
   refine (ht B σ _ w vals (Zfe hE o.blk hI) hB hfree (args2 B σ g w _ hI hd)).mono ?_
   rintro en w' ⟨he,σ',g',hst,hI'⟩
   refine ⟨he,σ',g',Zh8 hI hst,?_⟩
   rw [U5]
   exact hI'
noncomputable def Zpz (E:Eng Y) (gth:List (SV Y)->Option Y.Th) (n:Nat) (S:Sum Y):Sum Y:=fun args h i k=>
 frzL (frzK E gth h n) args fun rest' bs=>S rest' (frzH h bs) i fun r=>We (bs++r.mods) fun m=>k ⟨r.v,r.n,m,patch (frzH h bs) i r,none⟩
theorem Zkc (hE:EngOk E) {gth:List (SV Y)->Option Y.Th} {n:Nat} {f:Nat} {S:Sum Y} (hS:SumOk E f S):SumOk E f (Zpz E gth n S):=by
 refine ⟨hS.good,fun args h i k hD hk=> ?_⟩
 unfold Zpz at hk
 obtain ⟨rest',bs,hk,o⟩:=W9 (Vv hE n) hk
 obtain ⟨r,hk,hR,htri⟩:=hS.ok rest' (frzH h bs) i _ (fun b hb=>hD b (Zbp hb)) hk
 rw [Yx] at hk
 have args2:∀(B:Nat) (σ:Pl) (g:GH) (w:World) (vals:List Value),Inv E B σ h g w->DenL E σ g args vals->DenL E σ (frzG E h σ bs g w) rest' vals:=by
  intro B σ g w vals hI hd
  have hle:=Va (bs:=bs) hI
  refine ⟨by rw [<-hd.1];exact o.len,fun j sv' u h1 h2=> ?_⟩
  have hjl:j<args.length:=by rw [<-o.len];exact (List.getElem?_eq_some_iff.1 h1).1
  exact (o.den h σ g w B _ (fun _ _=>rfl) hI hle Un j _ sv' u (List.getElem?_eq_getElem hjl) h1 (hd.2 j _ u (List.getElem?_eq_getElem hjl) h2)).mono (fun b p h=>by cases h) (.refl _)
 refine ⟨_,hk,fun b hb=> ?_,?_⟩
 · have hb:b∈bs++r.mods:=hb
   rcases List.mem_append.1 hb with h1|h1
   · obtain ⟨y,hy,_⟩:=o.blk b h1
     rw [hy];simp
   · exact Zbp (hR b h1)
 rcases htri with ht|⟨p,hp,ht⟩
 · refine .inl ?_
   intro B σ g w vals hh hrd hI hB hfree hd
   obtain rfl:hh=h:=funext fun b=>hrd b trivial
   refine (ht B σ _ w vals (frzH hh bs) (fun _ _=>rfl) (Zfe hE o.blk hI) hB hfree (args2 B σ g w _ hI hd)).mono ?_
   rintro en w' ⟨u,he,σ',g',hst,hI',hv⟩
   refine ⟨u,he,σ',g',Zh8 hI hst,?_,hv⟩
   rw [U5]
   exact hI'
 · refine .inr ⟨p,hp,fun B σ g w vals hI hB hfree hd=> ?_⟩
   refine (ht B σ _ w vals (Zfe hE o.blk hI) hB hfree (args2 B σ g w _ hI hd)).mono ?_
   rintro en w' ⟨he,σ',g',hst,hI'⟩
   refine ⟨he,σ',g',Zh8 hI hst,?_⟩
   rw [U5]
   exact hI'
end
end
section
open Go
noncomputable def Zx7:Sum thy:=V8 (dA1 dS) (fun _=>True) (fun x=>Yr x.1) fun y=> .tup [.psl Th.toks y.1 false,.int false .i64 y.2.1,.int false .i64 y.2.2]
theorem Zs8:SumOk E 27 Zx7:=Z5 E_ok (Zd (f:=27) rfl) fun x _=>Zo0 x.1
noncomputable def Zx8:Sum thy:=frzA E (fun _=>none) 2 (sumM (mI (dA1 dCls) (n1 fun _=>rfl) dCl (fun _=>rfl)) (fun x a=>x.1.length<1000000000/\a.1.length<=1000000000) fun x a=>Z3 a.1 x.1 x.2.1)
theorem Zs9:SumOk E 34 Zx8:=Z5r E_ok (Xe E_ok (Zd rfl) fun x a h=>Zsh a.1 x.1 x.2.1 h.1 h.2)
structure QX where
 cs:List Cls
 fz:Nat
 l:List Tok
 ed:Int
 p:Int
 k:Nat
def Apa:Fr thy->Hp thy->Nat->Ann thy:=fun T h i=>{X:=Bool×QX,fr:=fun x=> [(0,T 0),(2,T 2),(3,T 3),(4,T 4),(6,T 6),(7,.int false .i64 x.2.p)],bl:=fun x=>(bOf (T 6),.raw [.psl Th.toks x.2.l false,.int false .i64 x.2.ed] 0 none)::(bOf (T 2),.raw ((cellsOf h (T 2)).take 2++ [match x.1 with|true=> .sl i 0 x.2.cs.length 9 none|false=> .val (.slice none 0 0)]) 0 none)::((match x.1 with|true=> [(i,.rows Th.clauses x.2.cs x.2.fz)]|false=> [])++(blkP h (T 3)++blkP h (T 4))),src:=fun x=>(match x.1 with|true=> [(i,3002)]|false=> []),md:= [bOf (T 6),bOf (T 2)],ih:=i+1,M:=i+60,meas:=fun x=>x.2.k,ex:=ex2,al:=al2,exOk:=Zwr,alOk:=Zws}
noncomputable def Fpa:Fns thy:=addL (addS (addS (addS Fme 32 Z0r) 27 Zx7) 34 Zx8) 10 12 Apa E
theorem Ybe:FnsOk E Fpa:=Yc E_ok (Zb (Zb (Zb Zez Zp8) Zs8) Zs9) _ _ _
abbrev qCE1 (a0:Tar):=([]=Tar.name a0/\(0:Int)=Tar.for_ a0/\Tar.clauses a0= []/\True)
abbrev qCE8:=(0:Nat)
abbrev qCE2 (a0:List Nat) (b0:Int) (c0:QX):=(a0=a0/\qCE8=qCE8/\qCE8=qCE8/\qCE8=qCE8/\qCE8=qCE8/\b0=QX.p c0/\True)
abbrev qCE3 (a0:PX) (b0:QX):=((Prod.fst a0=QX.l b0/\(false=true->false=true))/\Prod.fst (Prod.snd a0)=QX.ed b0/\True)
abbrev qCE4 (a0:List Tok×Int×Int):=(Prod.fst (Prod.snd a0)=Prod.fst (Prod.snd a0)/\True)
abbrev qCE5 (a0:List Tok×Int×Int):=(Prod.snd (Prod.snd a0)=Prod.snd (Prod.snd a0)/\True)
abbrev qCE6 (a0:Cls):=(Ex.mk (Ex.op (Cls.pay a0)) (Ex.n (Cls.pay a0)) (Ex.d0 (Cls.pay a0)) (Ex.d1 (Cls.pay a0)) (Ex.d2 (Cls.pay a0)) (Ex.d3 (Cls.pay a0)) (Ex.l (Cls.pay a0)))
abbrev qCEa (a0:QX):=(List.tail (QX.l a0))
abbrev qCE7 (a0:QX):=((↑(List.length (qCEa a0)):Int)>(0:Int))
abbrev qCE9 (a0:QX):=(List.length (QX.cs a0))
abbrev qCEb (a0:PX):=(Prod.fst (Prod.snd a0))
abbrev qCEc (a0:QX):=(List.take (qCE9 a0) (List.drop qCE8 (QX.cs a0)))
abbrev qCEd (a0:Int):=((1:Int)+a0)
theorem Zta (s:List Nat) (t:Tar) (a e:Int):Zg E Fpa (vc E Fpa 400) 10 [.str false s] hp0 0 (fun r=>ret E (patch hp0 0 r) r.v (.tup [.agg [.str false t.name,.int false .i64 t.for_,.psl Th.clauses t.clauses false],.int false .i64 a,.int false .i64 e]))=(
 True/\∀(y:List Tok×Int×Int),y=Yr s->((Prod.snd (Prod.snd y) !=(0:Int))=true->(qCE1 t)/\Prod.fst (Prod.snd y)=a/\Prod.snd (Prod.snd y)=e/\True)/\((Prod.snd (Prod.snd y) !=(0:Int))=false->(isW [(116:Nat),(97:Nat),(114:Nat),(105:Nat),(102:Nat),(102:Nat)] (Prod.fst y)=true->True/\(∀(y_1:List Nat) (x':PX),V5 (List.tail (Prod.fst y)) (↑(List.length s):Int)=Except.ok (y_1,x')->(isW [(102:Nat),(111:Nat),(114:Nat)] (Prod.fst x')=true->(WK.ki=WK.at_\/WK.ki=WK.ki\/WK.ki=WK.un)/\(∀(y_2:Int) (x'_1:PX),Z9 (WK.words WK.ki) (List.tail (Prod.fst x')) (qCEb x')=Except.ok (y_2,x'_1)->(isW [(123:Nat)] (Prod.fst x'_1)=true->∀(y_3:Int),y_3=hdT (qCEb x'_1) (List.tail (Prod.fst x'_1))->∃(R:Bool×QX->Prop),((∃(y_4:QX),R (false,y_4)/\true=true/\(qCE2 s y_3 y_4)/\((List.tail (Prod.fst x'_1)=QX.l y_4/\(false=true->false=true))/\Prod.fst (Prod.snd x'_1)=QX.ed y_4/\True)/\(y_1=y_1/\wr IntKind.i64 (qCEd y_2)=wr IntKind.i64 (qCEd y_2)/\Value.slice none qCE8 qCE8=Value.slice none qCE8 qCE8/\True)/\(qCE4 y)/\(qCE5 y)/\True)\/∃(y:QX),R (true,y)/\true=true/\False)/\(∀(y_4:QX),R (false,y_4)->(isW [(99:Nat),(108:Nat),(97:Nat),(117:Nat),(115:Nat),(101:Nat)] (QX.l y_4)=true->(List.length (qCEa y_4)+(1:Nat)<=(1000000000:Nat)/\qCE8<=(1000000000:Nat))/\(∀(y_5:Cls) (x':PX),Z3 [] (qCEa y_4) (QX.ed y_4)=Except.ok (y_5,x')->∀(y_6:Int),y_6=hdT (qCEb x') (Prod.fst x')->(∃(y_7:QX),R (false,y_7)/\y_7.6+(1:Nat)<=y_4.6/\true=true/\(qCE2 s y_6 y_7)/\(qCE3 x' y_7)/\(y_1=y_1/\wr IntKind.i64 (qCEd y_2)=wr IntKind.i64 (qCEd y_2)/\False/\True)/\(qCE4 y)/\(qCE5 y)/\True)\/∃(y_7:QX),R (true,y_7)/\y_7.6+(1:Nat)<=y_4.6/\true=true/\(qCE2 s y_6 y_7)/\(qCE3 x' y_7)/\(y_1=y_1/\wr IntKind.i64 (qCEd y_2)=wr IntKind.i64 (qCEd y_2)/\(qCE8=qCE8/\(1:Nat)=List.length (QX.cs y_7)/\True)/\True)/\([Cls.mk (Cls.name y_5) (Cls.when_ y_5) (qCE6 y_5)]=QX.cs y_7/\qCE8=QX.fz y_7)/\(qCE4 y)/\(qCE5 y)/\True)/\∀(e_1:Int×Int),Z3 [] (qCEa y_4) (QX.ed y_4)=Except.error e_1->(qCE1 t)/\Prod.fst e_1=a/\Prod.snd e_1=e/\True)/\(isW [(99:Nat),(108:Nat),(97:Nat),(117:Nat),(115:Nat),(101:Nat)] (QX.l y_4)=false->(isW [(125:Nat)] (QX.l y_4)=true->(decide (qCE7 y_4)=true->∀(y:Int),y=hdT (QX.ed y_4) (qCEa y_4)->(qCE1 t)/\y=a/\(160:Int)=e/\True)/\(decide (qCE7 y_4)=false->(y_1=Tar.name t/\wr IntKind.i64 (qCEd y_2)=Tar.for_ t/\Tar.clauses t= []/\True)/\(0:Int)=a/\(0:Int)=e/\True))/\(isW [(125:Nat)] (QX.l y_4)=false->(qCE1 t)/\hdT (QX.ed y_4) (QX.l y_4)=a/\(160:Int)=e/\True)))/\∀(y_4:QX),R (true,y_4)->(isW [(99:Nat),(108:Nat),(97:Nat),(117:Nat),(115:Nat),(101:Nat)] (QX.l y_4)=true->(((↑(qCE9 y_4):Int)==(64:Int))=true->(qCE1 t)/\QX.p y_4=a/\(2:Int)=e/\True)/\(((↑(qCE9 y_4):Int)==(64:Int))=false->qCE8+List.length (QX.cs y_4)<=List.length (QX.cs y_4)/\(List.length (qCEa y_4)+(1:Nat)<=(1000000000:Nat)/\List.length (qCEc y_4)<=(1000000000:Nat))/\(∀(y_5:Cls) (x':PX),Z3 (qCEc y_4) (qCEa y_4) (QX.ed y_4)=Except.ok (y_5,x')->(List.length (QX.cs y_4)<=List.length (QX.cs y_4)/\mx2 (QX.fz y_4) (qCE9 y_4)<=List.length (QX.cs y_4)/\(List.length (QX.cs y_4)+(1:Nat))*(112:Nat)<=(140737488355328:Nat))/\∀(y_6:Int),y_6=hdT (qCEb x') (Prod.fst x')->(∃(y_7:QX),R (false,y_7)/\y_7.6+(1:Nat)<=y_4.6/\true=true/\(qCE2 s y_6 y_7)/\(qCE3 x' y_7)/\(y_1=y_1/\wr IntKind.i64 (qCEd y_2)=wr IntKind.i64 (qCEd y_2)/\False/\True)/\(qCE4 y)/\(qCE5 y)/\True)\/∃(y_7:QX),R (true,y_7)/\y_7.6+(1:Nat)<=y_4.6/\true=true/\(qCE2 s y_6 y_7)/\(qCE3 x' y_7)/\(y_1=y_1/\wr IntKind.i64 (qCEd y_2)=wr IntKind.i64 (qCEd y_2)/\
(qCE8=qCE8/\List.length (QX.cs y_4)+(1:Nat)=List.length (QX.cs y_7)/\True)/\True)/\(List.take (qCE9 y_4) (QX.cs y_4)++ [Cls.mk (Cls.name y_5) (Cls.when_ y_5) (qCE6 y_5)]=QX.cs y_7/\mx2 (QX.fz y_4) (qCE9 y_4)=QX.fz y_7)/\(qCE4 y)/\(qCE5 y)/\True)/\∀(e_1:Int×Int),Z3 (qCEc y_4) (qCEa y_4) (QX.ed y_4)=Except.error e_1->(qCE1 t)/\Prod.fst e_1=a/\Prod.snd e_1=e/\True))/\(isW [(99:Nat),(108:Nat),(97:Nat),(117:Nat),(115:Nat),(101:Nat)] (QX.l y_4)=false->(isW [(125:Nat)] (QX.l y_4)=true->(decide (qCE7 y_4)=true->∀(y:Int),y=hdT (QX.ed y_4) (qCEa y_4)->(qCE1 t)/\y=a/\(160:Int)=e/\True)/\(decide (qCE7 y_4)=false->(y_1=Tar.name t/\wr IntKind.i64 (qCEd y_2)=Tar.for_ t/\(qCE8+List.length (QX.cs y_4)<=List.length (QX.cs y_4)/\List.take (qCE9 y_4) (QX.cs y_4)=Tar.clauses t)/\True)/\(0:Int)=a/\(0:Int)=e/\True))/\(isW [(125:Nat)] (QX.l y_4)=false->(qCE1 t)/\hdT (QX.ed y_4) (QX.l y_4)=a/\(160:Int)=e/\True)))/\(isW [(123:Nat)] (Prod.fst x'_1)=false->(qCE1 t)/\hdT (qCEb x'_1) (Prod.fst x'_1)=a/\(160:Int)=e/\True))/\∀(e_1:Int×Int),Z9 (WK.words WK.ki) (List.tail (Prod.fst x')) (qCEb x')=Except.error e_1->(qCE1 t)/\Prod.fst e_1=a/\Prod.snd e_1=e/\True)/\(isW [(102:Nat),(111:Nat),(114:Nat)] (Prod.fst x')=false->(qCE1 t)/\hdT (qCEb x') (Prod.fst x')=a/\(160:Int)=e/\True))/\∀(e_1:Int×Int),V5 (List.tail (Prod.fst y)) (↑(List.length s):Int)=Except.error e_1->(qCE1 t)/\Prod.fst e_1=a/\Prod.snd e_1=e/\True)/\(isW [(116:Nat),(97:Nat),(114:Nat),(105:Nat),(102:Nat),(102:Nat)] (Prod.fst y)=false->(qCE1 t)/\hdT (↑(List.length s):Int) (Prod.fst y)=a/\(160:Int)=e/\True))):=by kernel_rfl
theorem Zx9:∀{k:Nat} {more:Bool} {ts:List Tst} {l:List Tok} {e:Int} {ts':List Tst} {x:PX},pTs k more ts l e= .ok (ts',x)->x.1.length<=l.length
 |0,more,ts,l,e,ts',x,h=>by
  unfold pTs at h
  injection h with h
  injection h with _ h
  subst h
  exact Nat.le_refl _
 |k+1,more,ts,l,e,ts',x,h=>by
  unfold pTs at h
  split at h
  · split at h
    · cases h
    · rename_i t z ht
      have h1:=(Ze2 ht).1
      have h2:=Zx9 h
      split at h2
      · rw [List.length_tail] at h2
        omega
      · omega
  · injection h with h
    injection h with _ h
    subst h
    exact Nat.le_refl _
theorem Ybf {l:List Tok} {e:Int} {y:Ex} {x:PX} (h:pX l e= .ok (y,x)):x.1.length<=l.length:=by
 have:=Zqy l e y x h
 omega
theorem Z2e {nm:List Nat} {ts:List Tst} {l:List Tok} {e:Int} {c:Cls} {x:PX} (h:pPay nm ts l e= .ok (c,x)):x.1.length<=l.length:=by
 unfold pPay at h
 split at h
 · split at h
   · cases h
   · rename_i y z hy
     have h1:=Ybf hy
     rw [List.length_tail] at h1
     split at h
     · cases h
     · split at h
       · injection h with h
         injection h with _ h
         subst h
         show z.1.tail.length<=l.length
         rw [List.length_tail]
         omega
       · cases h
 · cases h
theorem Za9 {bs:List Cls} {l:List Tok} {e:Int} {c:Cls} {x:PX} (h:Z3 bs l e= .ok (c,x)):x.1.length<=l.length:=by
 unfold Z3 at h
 split at h
 · cases h
 · rename_i nm z hz
   have h1:=Zbv hz
   split at h
   · cases h
   · unfold pAft at h
     split at h
     · cases h
     · rename_i ts y hy
       have h2:=Zx9 hy
       have h3:=Z2e h
       split at h2
       · rw [List.length_tail] at h2
         omega
       · omega
def Xu:List Nat:= [99,108,97,117,115,101]
def pCls:Nat->List Cls->List Tok->Int->PR (List Cls)
 |0,cs,l,e=> .ok (cs,l,e,())
 |k+1,cs,l,e=>if isW [99,108,97,117,115,101] l then (if cs.length=64 then .error (hdT e l,2) else match Z3 cs l.tail e with
  | .error er=> .error er
  | .ok (c,x)=>pCls k (cs++ [c]) x.1 x.2.1) else .ok (cs,l,e,())
def pEnd (nm:List Nat) (fo:Int):PR (List Cls)->PR Tar
 | .error er=> .error er
 | .ok (cs,x)=>if isW [125] x.1 then (if 0<x.1.tail.length then .error (hdT x.2.1 x.1.tail,160) else .ok (⟨nm,fo,cs⟩,x.1.tail,x.2.1,())) else .error (hdT x.2.1 x.1,160)
def pTar (l:List Tok) (e:Int):PR Tar:=
 if isW [116,97,114,105,102,102] l then
  match V5 l.tail e with
  | .error er=> .error er
  | .ok (nm,x)=>
   if isW [102,111,114] x.1 then
    match Z9 WK.ki.words x.1.tail x.2.1 with
    | .error er=> .error er
    | .ok (k,z)=>if isW [123] z.1 then pEnd nm (wr .i64 (1+k)) (pCls (z.1.tail.length+1) [] z.1.tail z.2.1) else .error (hdT z.2.1 z.1,160)
   else .error (hdT x.2.1 x.1,160)
 else .error (hdT e l,160)
def zT:Tar:=⟨[],0,[]⟩
def outT:PR Tar->Tar×Int×Int
 | .ok y=>(y.1,0,0)
 | .error er=>(zT,er.1,er.2)
def Vn (s:List Nat):Tar×Int×Int:=if (Yr s).2.2≠0 then (zT,(Yr s).2.1,(Yr s).2.2) else outT (pTar (Yr s).1 s.length)
theorem Zdy:∀{k:Nat} {s:List Nat} {p:Nat} {ts:List Tok},ts.length<=p->p<=s.length->(tksL k s p ts).1.length<=s.length
 |0,s,p,ts,h1,h2=>by unfold tksL;exact Nat.le_trans h1 h2
 |k+1,s,p,ts,h1,h2=>by
  unfold tksL
  split
  · exact Nat.le_trans h1 h2
  · rename_i c hc
    have hlt:=(List.getElem?_eq_some_iff.1 hc).1
    split
    · exact Zdy (by omega) hlt
    · split
      · split
        · exact Nat.le_trans h1 h2
        · have:=(Zoz 10 (s.drop p) 0).1
          rw [List.length_drop] at this
          exact Zdy (by omega) (by omega)
      · split
        · exact Nat.zero_le _
        · rename_i h3
          have h3:(tokP (s.drop p)).2=0:=by simpa using h3
          obtain ⟨n1,n2,_⟩:=Zrg h3
          rw [List.length_drop] at n2
          exact Zdy (by rw [List.length_append];simp;omega) (by omega)
theorem Zoo (s:List Nat):(Yr s).1.length<=2000:=by
 unfold Yr
 split
 · exact Nat.zero_le _
 · have:=Zdy (k:=s.length) (s:=s) (p:=0) (ts:= []) (Nat.le_refl _) (Nat.zero_le _)
   omega
theorem Zya (c:Cls):Cls.mk (Cls.name c) (Cls.when_ c) (Ex.mk (Ex.op (Cls.pay c)) (Ex.n (Cls.pay c)) (Ex.d0 (Cls.pay c)) (Ex.d1 (Cls.pay c)) (Ex.d2 (Cls.pay c)) (Ex.d3 (Cls.pay c)) (Ex.l (Cls.pay c)))=c:=by
 obtain ⟨a,b,p⟩:=c
 cases p
 rfl
theorem Ztb (s:List Nat):PureC E 10 [.str false s] (.tup [.agg [.str false (Vn s).1.name,.int false .i64 (Vn s).1.for_,.psl Th.clauses (Vn s).1.clauses false],.int false .i64 (Vn s).2.1,.int false .i64 (Vn s).2.2]):=by
 refine Za E_ok (Zi E_ok Ybe 400) ?_
 rw [Zta];delta qCE1 qCE8 qCE2 qCE3 qCE4 qCE5 qCE6 qCEa qCE7 qCE9 qCEb qCEc qCEd
 refine ⟨trivial,fun y hy=> ?_⟩
 have hlen:y.1.length<=2000:=hy▸Zoo s
 have hp:Vn s=if y.2.2≠0 then (zT,y.2.1,y.2.2) else outT (pTar y.1 s.length):=by subst hy;rfl
 generalize Vn s=res at hp
 refine ⟨fun h=> ?_,fun h=> ?_⟩
 · have h:y.2.2≠0:=by simpa using h
   rw [if_pos h] at hp
   subst hp
   exact ⟨⟨rfl,rfl,rfl,trivial⟩,rfl,rfl,trivial⟩
 have h:y.2.2=0:=by simpa using h
 rw [if_neg (by rw [h];decide)] at hp
 unfold pTar at hp
 refine ⟨fun h1=>⟨trivial,fun nm x hx=>⟨fun h2=>⟨.inr (.inl rfl),fun fo z hz=>⟨fun h3=> ?_,fun h3=> ?_⟩,fun er he=> ?_⟩,fun h2=> ?_⟩,fun er he=> ?_⟩,fun h1=> ?_⟩
 rotate_left
 · rw [if_pos h1,hx] at hp
   simp only [if_pos h2,hz,h3] at hp
   subst hp
   exact ⟨⟨rfl,rfl,rfl,trivial⟩,rfl,rfl,trivial⟩
 · rw [if_pos h1,hx] at hp
   simp only [if_pos h2,he] at hp
   subst hp
   exact ⟨⟨rfl,rfl,rfl,trivial⟩,rfl,rfl,trivial⟩
 · rw [if_pos h1,hx] at hp
   simp only [h2] at hp
   subst hp
   exact ⟨⟨rfl,rfl,rfl,trivial⟩,rfl,rfl,trivial⟩
 · rw [if_pos h1,he] at hp
   subst hp
   exact ⟨⟨rfl,rfl,rfl,trivial⟩,rfl,rfl,trivial⟩
 · rw [h1] at hp
   subst hp
   exact ⟨⟨rfl,rfl,rfl,trivial⟩,rfl,rfl,trivial⟩
 rw [if_pos h1,hx] at hp
 simp only [if_pos h2,hz,if_pos h3] at hp
 have l1:=Zp h1
 have l2:=Zbv hx
 have l3:=Zp h2
 have l4:z.1.length<=x.1.tail.length:=by
  unfold Z9 at hz
  split at hz
  · injection hz with hz
    injection hz with _ hz
    subst hz
    show x.1.tail.tail.length<=_
    rw [List.length_tail (l:=x.1.tail)]
    omega
  · cases hz
 have l5:=Zp h3
 intro q hq
 subst hq
 refine ⟨fun v=>(v.1=false->v.2.cs= [])/\outT (pEnd nm (wr .i64 (1+fo)) (pCls v.2.k v.2.cs v.2.l v.2.ed))=res/\v.2.p=hdT v.2.ed v.2.l/\v.2.l.length<v.2.k/\v.2.l.length<=2000/\v.2.fz<=v.2.cs.length/\v.2.cs.length<=64,
  .inl ⟨⟨[],0,z.1.tail,z.2.1,hdT z.2.1 z.1.tail,z.1.tail.length+1⟩,⟨fun _=>rfl,hp.symm,rfl,Nat.lt_succ_self _,?_,Nat.le_refl _,Nat.zero_le _⟩,rfl,⟨rfl,rfl,rfl,rfl,rfl,rfl,trivial⟩,⟨⟨rfl,fun h=>h⟩,rfl,trivial⟩,⟨rfl,rfl,rfl,trivial⟩,⟨rfl,trivial⟩,⟨rfl,trivial⟩,trivial⟩,?_,?_⟩
 · show z.1.tail.length<=2000
   omega
 all_goals
  rintro v ⟨v0,v1,v2,v3,v4,v5,v6⟩
  replace v1:outT (pEnd nm (wr .i64 (1+fo)) (pCls v.k v.cs v.l v.ed))=res:=v1
  replace v2:v.p=hdT v.ed v.l:=v2
  replace v3:v.l.length<v.k:=v3
  replace v4:v.l.length<=2000:=v4
  replace v5:v.fz<=v.cs.length:=v5
  replace v6:v.cs.length<=64:=v6
  obtain ⟨k,hk⟩:∃k,v.k=k+1:=⟨v.k-1,by omega⟩
  rw [hk] at v1
  unfold pCls at v1
  refine ⟨fun w1=> ?_,fun w1=>⟨fun w2=>⟨fun w3=> ?_,fun w3=> ?_⟩,fun w2=> ?_⟩⟩
 · have v0:v.cs= []:=v0 rfl
   rw [if_pos w1,v0,if_neg (by simp)] at v1
   have l6:=Zp w1
   refine ⟨⟨by omega,by omega⟩,fun c x' hc a ha=> ?_,fun er he=> ?_⟩
   · subst ha
     rw [hc] at v1
     have l7:=Za9 hc
     refine .inr ⟨⟨[c],0,x'.1,x'.2.1,hdT x'.2.1 x'.1,k⟩,⟨fun h=>(by cases h),v1,rfl,(by show x'.1.length<k;omega),(by show x'.1.length<=2000;omega),Nat.zero_le _,(by show 1<=64;decide)⟩,(by show k+1<=v.k;omega),rfl,⟨rfl,rfl,rfl,rfl,rfl,rfl,trivial⟩,⟨⟨rfl,fun h=>h⟩,rfl,trivial⟩,⟨rfl,rfl,⟨rfl,rfl,trivial⟩,trivial⟩,⟨?_,rfl⟩,⟨rfl,trivial⟩,⟨rfl,trivial⟩,trivial⟩
     rw [Zya]
   · rw [he] at v1
     subst v1
     exact ⟨⟨rfl,rfl,rfl,trivial⟩,rfl,rfl,trivial⟩
 · rw [if_neg (by rw [w1];decide)] at v1
   simp only [pEnd,if_pos w2] at v1
   have w3:0<v.l.tail.length:=by
    have:(0:Int)<v.l.tail.length:=by simpa only [decide_eq_true_eq] using w3
    omega
   rw [if_pos w3] at v1
   intro a ha
   subst ha
   subst v1
   exact ⟨⟨rfl,rfl,rfl,trivial⟩,rfl,rfl,trivial⟩
 · have v0:v.cs= []:=v0 rfl
   rw [if_neg (by rw [w1];decide)] at v1
   simp only [pEnd,if_pos w2] at v1
   have w3:¬0<v.l.tail.length:=by
    have:¬(0:Int)<v.l.tail.length:=by simpa only [decide_eq_false_iff_not] using w3
    omega
   rw [if_neg w3,v0] at v1
   subst v1
   exact ⟨⟨rfl,rfl,rfl,trivial⟩,rfl,rfl,trivial⟩
 · rw [if_neg (by rw [w1];decide)] at v1
   simp only [pEnd,w2] at v1
   subst v1
   exact ⟨⟨rfl,rfl,rfl,trivial⟩,rfl,rfl,trivial⟩
 · have l6:=Zp w1
   rw [if_pos w1] at v1
   rw [List.drop_zero,List.take_length]
   refine ⟨fun w4=> ?_,fun w4=>⟨by omega,⟨by omega,by omega⟩,fun c x' hc=>⟨⟨Nat.le_refl _,by rw [Zg5];omega,by omega⟩,fun a ha=> ?_⟩,fun er he=> ?_⟩⟩
   · have w4:v.cs.length=64:=by
      have w5:(v.cs.length:Int)=64:=eq_of_beq w4
      omega
     rw [if_pos w4] at v1
     subst v1
     exact ⟨⟨rfl,rfl,rfl,trivial⟩,v2,rfl,trivial⟩
   · subst ha
     have w4:v.cs.length≠64:=fun e=>by rw [e] at w4;simp at w4
     rw [if_neg w4,hc] at v1
     have l7:=Za9 hc
     refine .inr ⟨⟨v.cs++ [c],mx2 v.fz v.cs.length,x'.1,x'.2.1,hdT x'.2.1 x'.1,k⟩,⟨fun h=>(by cases h),v1,rfl,(by show x'.1.length<k;omega),(by show x'.1.length<=2000;omega),?_,?_⟩,(by show k+1<=v.k;omega),rfl,⟨rfl,rfl,rfl,rfl,rfl,rfl,trivial⟩,⟨⟨rfl,fun h=>h⟩,rfl,trivial⟩,⟨rfl,rfl,⟨rfl,?_,trivial⟩,trivial⟩,⟨?_,rfl⟩,⟨rfl,trivial⟩,⟨rfl,trivial⟩,trivial⟩
     · show mx2 v.fz v.cs.length<=(v.cs++ [c]).length
       rw [Zg5,List.length_append]
       omega
     · show (v.cs++ [c]).length<=64
       rw [List.length_append]
       simp
       omega
     · show v.cs.length+1=(v.cs++ [c]).length
       rw [List.length_append]
       rfl
     · rw [Zya]
   · have w4:v.cs.length≠64:=fun e=>by rw [e] at w4;simp at w4
     rw [if_neg w4,he] at v1
     subst v1
     exact ⟨⟨rfl,rfl,rfl,trivial⟩,rfl,rfl,trivial⟩
 · rw [if_neg (by rw [w1];decide)] at v1
   simp only [pEnd,if_pos w2] at v1
   have w3:0<v.l.tail.length:=by
    have:(0:Int)<v.l.tail.length:=by simpa only [decide_eq_true_eq] using w3
    omega
   rw [if_pos w3] at v1
   intro a ha
   subst ha
   subst v1
   exact ⟨⟨rfl,rfl,rfl,trivial⟩,rfl,rfl,trivial⟩
 · rw [if_neg (by rw [w1];decide)] at v1
   simp only [pEnd,if_pos w2] at v1
   have w3:¬0<v.l.tail.length:=by
    have:¬(0:Int)<v.l.tail.length:=by simpa only [decide_eq_false_iff_not] using w3
    omega
   rw [if_neg w3] at v1
   subst v1
   exact ⟨⟨rfl,rfl,⟨by omega,List.take_length⟩,trivial⟩,rfl,rfl,trivial⟩
 · rw [if_neg (by rw [w1];decide)] at v1
   simp only [pEnd,w2] at v1
   subst v1
   exact ⟨⟨rfl,rfl,rfl,trivial⟩,rfl,rfl,trivial⟩
end
section
open Go
def decN (n:Int):List Nat:=(Lib.itoa n).map UInt8.toNat
theorem Zni (w:World):Ext w w:=⟨rfl,rfl,rfl,Nat.le_refl _,fun _ _=>rfl⟩
theorem Zs0 (x:Int) (h0:0<=x) (h1:x<=18446744073709551615):PureC E 142 [.int false .u64 x] (.int false .i64 (Lib.bitLen x.toNat)):=by
 refine Vx fun g w vals hd=> ?_
 obtain ⟨u,rfl,hu⟩:=Z6p hd
 cases hu
 refine (Any.bits_Len64 Tryz.lays129 x w h0 h1).mono ?_
 rintro e w' ⟨rfl,rfl⟩
 exact ⟨_,rfl,.int _ _ _,Zni _⟩
theorem Z1y (x:Nat) (h:x<=64):PureC E 141 [.int false .i64 x] (.int false .i64 (Lib.l10 x)):=by
 refine Vx fun g w vals hd=> ?_
 obtain ⟨u,rfl,hu⟩:=Z6p hd
 cases hu
 refine (Any.internal_strconv_log10Pow2 Tryz.lays317 x h w).mono ?_
 rintro e w' ⟨rfl,rfl⟩
 exact ⟨_,rfl,.int _ _ _,Zni _⟩
theorem Yav (l:List UInt8):toL ⟨l.toArray⟩=l.map UInt8.toNat:=rfl
theorem Zs1 (x:Nat) (h:x<100):PureC E 114 [.int false .i64 x] (.str false ((Lib.decDigits x).map UInt8.toNat)):=by
 refine Vx fun g w vals hd=> ?_
 obtain ⟨u,rfl,hu⟩:=Z6p hd
 cases hu
 refine (Any.internal_strconv_small Tryz.lays283 x h w).mono ?_
 rintro e w' ⟨rfl,rfl⟩
 exact ⟨_,rfl,.str _ (Yav _),Zni _⟩
noncomputable def dU64:Dc E Int:=dInt .u64
noncomputable def Z4m:Sum thy:=V8 (dA1 dU64) (fun x=>0<=x.1/\x.1<=18446744073709551615) (fun x=>Lib.bitLen x.1.toNat) fun (y:Nat)=> .int false .i64 y
theorem Zxk:SumOk E 142 Z4m:=Z5 E_ok (Zd rfl) fun x h=>Zs0 x.1 h.1 h.2
noncomputable def Sl10:Sum thy:=V8 (dA1 dN) (fun x=>0<=x.1/\x.1<=64) (fun x=>Lib.l10 x.1.toNat) fun (y:Nat)=> .int false .i64 y
theorem Z64:SumOk E 141 Sl10:=Z5 E_ok (Zd rfl) fun x h=>by
 have:=Z1y x.1.toNat (by omega)
 rw [show ((x.1.toNat:Nat):Int)=x.1 by omega] at this
 exact this
noncomputable def Fnd:Fns thy:=addS (addS F0 142 Z4m) 141 Sl10
abbrev qCF1:=(1:Nat)
abbrev qCFf (a0:Nat):=(↑a0:Int)
abbrev qCF2 (a0:Nat):=((qCFf a0)+(1:Int))
abbrev qCF3 (a0:Nat):=((qCFf a0)+(0:Int))
abbrev qCF4:=(0:Nat)
abbrev qCF5:=(↑(qCF4+qCF1+qCF1+qCF1+qCF1+qCF1+qCF1+qCF1+qCF1+qCF1+qCF1+qCF1+qCF1+qCF1+qCF1+qCF1+qCF1+qCF1+qCF1+qCF1):Int)
abbrev qCF6:=(↑(qCF4+qCF1+qCF1+qCF1+qCF1+qCF1+qCF1+qCF1+qCF1+qCF1+qCF1+qCF1+qCF1+qCF1+qCF1+qCF1+qCF1+qCF1+qCF1):Int)
abbrev qCF7:=(↑(qCF4+qCF1+qCF1+qCF1+qCF1+qCF1+qCF1+qCF1+qCF1+qCF1+qCF1+qCF1+qCF1+qCF1+qCF1+qCF1+qCF1+qCF1):Int)
abbrev qCF8:=(↑(qCF4+qCF1+qCF1+qCF1+qCF1+qCF1+qCF1+qCF1+qCF1+qCF1+qCF1+qCF1+qCF1+qCF1+qCF1+qCF1+qCF1):Int)
abbrev qCF9:=(↑(qCF4+qCF1+qCF1+qCF1+qCF1+qCF1+qCF1+qCF1+qCF1+qCF1+qCF1+qCF1+qCF1+qCF1+qCF1+qCF1):Int)
abbrev qCFa:=(↑(qCF4+qCF1+qCF1+qCF1+qCF1+qCF1+qCF1+qCF1+qCF1+qCF1+qCF1+qCF1+qCF1+qCF1+qCF1):Int)
abbrev qCFb:=(↑(qCF4+qCF1+qCF1+qCF1+qCF1+qCF1+qCF1+qCF1+qCF1+qCF1+qCF1+qCF1+qCF1+qCF1):Int)
abbrev qCFc:=(↑(qCF4+qCF1+qCF1+qCF1+qCF1+qCF1+qCF1+qCF1+qCF1+qCF1+qCF1+qCF1+qCF1):Int)
abbrev qCFd:=(↑(qCF4+qCF1+qCF1+qCF1+qCF1+qCF1+qCF1+qCF1+qCF1+qCF1+qCF1+qCF1):Int)
abbrev qCFe:=(↑(qCF4+qCF1+qCF1+qCF1+qCF1+qCF1+qCF1+qCF1+qCF1+qCF1+qCF1):Int)
abbrev qCFg:=(↑(qCF4+qCF1+qCF1+qCF1+qCF1+qCF1+qCF1+qCF1+qCF1+qCF1):Int)
abbrev qCFh:=(↑(qCF4+qCF1+qCF1+qCF1+qCF1+qCF1+qCF1+qCF1+qCF1):Int)
abbrev qCFi:=(↑(qCF4+qCF1+qCF1+qCF1+qCF1+qCF1+qCF1+qCF1):Int)
abbrev qCFj:=(↑(qCF4+qCF1+qCF1+qCF1+qCF1+qCF1+qCF1):Int)
abbrev qCFk:=(↑(qCF4+qCF1+qCF1+qCF1+qCF1+qCF1):Int)
theorem Z65 (u:Int) (v:Int):Zg E Fnd (vc E Fnd 400) 115 [.int false .u64 u] hp0 0 (fun r=>ret E (patch hp0 0 r) r.v (.int false .i64 v))=(
 ((0:Int)<=u/\u<=(18446744073709551615:Int))/\∀(y:Nat),y=Lib.bitLen (Int.toNat u)->((0:Int)<=(qCFf y)/\(qCFf y)<=(64:Int))/\∀(y_1:Nat),y_1=Lib.l10 (Int.toNat (qCFf y))->(0:Int)<=(qCFf y_1)/\(qCFf y_1)+(1:Int)<=(↑(20:Nat):Int)/\(((qCFf y_1)==(↑qCF4:Int))=true->(decide (u>=(1:Int))=true->wr IntKind.i64 (qCF2 y_1)=v)/\(decide (u>=(1:Int))=false->wr IntKind.i64 (qCF3 y_1)=v))/\(((qCFf y_1)==(↑qCF4:Int))=false->(((qCFf y_1)==(↑(qCF4+qCF1):Int))=true->(decide (u>=(10:Int))=true->wr IntKind.i64 (qCF2 y_1)=v)/\(decide (u>=(10:Int))=false->wr IntKind.i64 (qCF3 y_1)=v))/\(((qCFf y_1)==(↑(qCF4+qCF1):Int))=false->(((qCFf y_1)==(↑(qCF4+qCF1+qCF1):Int))=true->(decide (u>=(100:Int))=true->wr IntKind.i64 (qCF2 y_1)=v)/\(decide (u>=(100:Int))=false->wr IntKind.i64 (qCF3 y_1)=v))/\(((qCFf y_1)==(↑(qCF4+qCF1+qCF1):Int))=false->(((qCFf y_1)==(↑(qCF4+qCF1+qCF1+qCF1):Int))=true->(decide (u>=(1000:Int))=true->wr IntKind.i64 (qCF2 y_1)=v)/\(decide (u>=(1000:Int))=false->wr IntKind.i64 (qCF3 y_1)=v))/\(((qCFf y_1)==(↑(qCF4+qCF1+qCF1+qCF1):Int))=false->(((qCFf y_1)==(↑(qCF4+qCF1+qCF1+qCF1+qCF1):Int))=true->(decide (u>=(10000:Int))=true->wr IntKind.i64 (qCF2 y_1)=v)/\(decide (u>=(10000:Int))=false->wr IntKind.i64 (qCF3 y_1)=v))/\(((qCFf y_1)==(↑(qCF4+qCF1+qCF1+qCF1+qCF1):Int))=false->(((qCFf y_1)==qCFk)=true->(decide (u>=(100000:Int))=true->wr IntKind.i64 (qCF2 y_1)=v)/\(decide (u>=(100000:Int))=false->wr IntKind.i64 (qCF3 y_1)=v))/\(((qCFf y_1)==qCFk)=false->(((qCFf y_1)==qCFj)=true->(decide (u>=(1000000:Int))=true->wr IntKind.i64 (qCF2 y_1)=v)/\(decide (u>=(1000000:Int))=false->wr IntKind.i64 (qCF3 y_1)=v))/\(((qCFf y_1)==qCFj)=false->(((qCFf y_1)==qCFi)=true->(decide (u>=(10000000:Int))=true->wr IntKind.i64 (qCF2 y_1)=v)/\(decide (u>=(10000000:Int))=false->wr IntKind.i64 (qCF3 y_1)=v))/\(((qCFf y_1)==qCFi)=false->(((qCFf y_1)==qCFh)=true->(decide (u>=(100000000:Int))=true->wr IntKind.i64 (qCF2 y_1)=v)/\(decide (u>=(100000000:Int))=false->wr IntKind.i64 (qCF3 y_1)=v))/\(((qCFf y_1)==qCFh)=false->(((qCFf y_1)==qCFg)=true->(decide (u>=(1000000000:Int))=true->wr IntKind.i64 (qCF2 y_1)=v)/\(decide (u>=(1000000000:Int))=false->wr IntKind.i64 (qCF3 y_1)=v))/\(((qCFf y_1)==qCFg)=false->(((qCFf y_1)==qCFe)=true->(decide (u>=(10000000000:Int))=true->wr IntKind.i64 (qCF2 y_1)=v)/\(decide (u>=(10000000000:Int))=false->wr IntKind.i64 (qCF3 y_1)=v))/\(((qCFf y_1)==qCFe)=false->(((qCFf y_1)==qCFd)=true->(decide (u>=(100000000000:Int))=true->wr IntKind.i64 (qCF2 y_1)=v)/\(decide (u>=(100000000000:Int))=false->wr IntKind.i64 (qCF3 y_1)=v))/\(((qCFf y_1)==qCFd)=false->(((qCFf y_1)==qCFc)=true->(decide (u>=(1000000000000:Int))=true->wr IntKind.i64 (qCF2 y_1)=v)/\(decide (u>=(1000000000000:Int))=false->wr IntKind.i64 (qCF3 y_1)=v))/\(((qCFf y_1)==qCFc)=false->(((qCFf y_1)==qCFb)=true->(decide (u>=(10000000000000:Int))=true->wr IntKind.i64 (qCF2 y_1)=v)/\(decide (u>=(10000000000000:Int))=false->wr IntKind.i64 (qCF3 y_1)=v))/\(((qCFf y_1)==qCFb)=false->(((qCFf y_1)==qCFa)=true->(decide (u>=(100000000000000:Int))=true->wr IntKind.i64 (qCF2 y_1)=v)/\(decide (u>=(100000000000000:Int))=false->wr IntKind.i64 (qCF3 y_1)=v))/\(((qCFf y_1)==qCFa)=false->(((qCFf y_1)==qCF9)=true->(decide (u>=(1000000000000000:Int))=true->wr IntKind.i64 (qCF2 y_1)=v)/\(decide (u>=(1000000000000000:Int))=false->wr IntKind.i64 (qCF3 y_1)=v))/\(((qCFf y_1)==qCF9)=false->(((qCFf y_1)==qCF8)=true->(decide (u>=(10000000000000000:Int))=true->wr
IntKind.i64 (qCF2 y_1)=v)/\(decide (u>=(10000000000000000:Int))=false->wr IntKind.i64 (qCF3 y_1)=v))/\(((qCFf y_1)==qCF8)=false->(((qCFf y_1)==qCF7)=true->(decide (u>=(100000000000000000:Int))=true->wr IntKind.i64 (qCF2 y_1)=v)/\(decide (u>=(100000000000000000:Int))=false->wr IntKind.i64 (qCF3 y_1)=v))/\(((qCFf y_1)==qCF7)=false->(((qCFf y_1)==qCF6)=true->(decide (u>=(1000000000000000000:Int))=true->wr IntKind.i64 (qCF2 y_1)=v)/\(decide (u>=(1000000000000000000:Int))=false->wr IntKind.i64 (qCF3 y_1)=v))/\(((qCFf y_1)==qCF6)=false->(((qCFf y_1)==qCF5)=true->(decide (u>=(10000000000000000000:Int))=true->wr IntKind.i64 (qCF2 y_1)=v)/\(decide (u>=(10000000000000000000:Int))=false->wr IntKind.i64 (qCF3 y_1)=v))/\(((qCFf y_1)==qCF5)=false->True))))))))))))))))))))):=by kernel_rfl
theorem Yaw:FnsOk E Fnd:=Zb (Zb F0_ok Zxk) Z64
theorem blA:∀f x,Lib.bitLenAux f x<=f
 |0,x=>Nat.le_refl _
 |f+1,x=>by
  unfold Lib.bitLenAux
  split
  · exact Nat.zero_le _
  · have:=blA f (x/2)
    omega
theorem bl64 (x:Nat):Lib.bitLen x<=64:=blA 64 x
theorem Z66 (u:Nat) (h1:1<=u) (h2:u<18446744073709551616):PureC E 115 [.int false .u64 (u:Int)] (.int false .i64 (Lib.nDigits u)):=by
 refine Za E_ok (Zi E_ok Yaw 400) ?_
 rw [Z65];delta qCF1 qCFf qCF2 qCF3 qCF4 qCF5 qCF6 qCF7 qCF8 qCF9 qCFa qCFb qCFc qCFd qCFe qCFg qCFh qCFi qCFj qCFk
 refine ⟨⟨by omega,by omega⟩,fun y hy=> ?_⟩
 have hb:y=Lib.bitLen u:=by rw [hy,show Int.toNat (u:Int)=u by omega]
 obtain ⟨k1,k2⟩:=Lib.numDigits_eq u h1 h2
 have hle:Lib.bitLen u<=64:=bl64 u
 refine ⟨⟨by omega,by omega⟩,fun t ht=> ?_⟩
 have ht:t=Lib.l10 (Lib.bitLen u):=by rw [ht,show Int.toNat (y:Int)=y by omega,hb]
 rw [<-ht] at k1 k2
 generalize Lib.nDigits u=d at*
 clear ht hb hy hle
 refine ⟨by omega,by omega,?_⟩
 have hc:t=0\/t=1\/t=2\/t=3\/t=4\/t=5\/t=6\/t=7\/t=8\/t=9\/t=10\/t=11\/t=12\/t=13\/t=14\/t=15\/t=16\/t=17\/t=18\/t=19:=by omega
 have w:∀n:Int,0<=n->n<=20->wr .i64 n=n:=fun n h0 h1=>wr64 (by omega) (by omega)
 rcases hc with rfl|rfl|rfl|rfl|rfl|rfl|rfl|rfl|rfl|rfl|rfl|rfl|rfl|rfl|rfl|rfl|rfl|rfl|rfl|rfl
 all_goals
  simp
  refine ⟨fun h=> ?_,fun h=> ?_⟩
  · rw [w _ (by decide) (by decide)]
    rw [if_pos (by omega)] at k1
    omega
  · rw [w _ (by decide) (by decide)]
    rw [if_neg (by omega)] at k1
    omega
end
section
open Go
def tightF (op:Int):Int:=if op=3\/op=4 then 1 else if op=5 then 2 else 3
def idxI (v:Int):Nat->List Int->Int
 |_,[]=> -1
 |k,x::r=>if v=x then (k:Int) else idxI v (k+1) r
def txU (d:List Int):List (List Nat):=
 (if 0<=idxI 1 0 d then [WK.un.words.getD (idxI 1 0 d).toNat []] else [])++(if 0<=idxI (-1) 0 d then [sPer,WK.un.words.getD (idxI (-1) 0 d).toNat []] else [])
def txS:List (List (List Nat))->List (List Nat)->List (List Nat)
 |t::r,s::ss=>t++s::txS r ss
 |_,_=> []
def par (op least:Int) (t:List (List Nat)):List (List Nat):=if least<=tightF op then t else Xb::(t++ [Zx])
def sgnO (op:Int):List Nat:=if op=3 then Za5 else if op=4 then Vm else sMul
def txN (op n:Int) (u:List Int) (os:List Int) (ts:List (List (List Nat))):List (List Nat):=
 if op=1 then decN n::txU u
 else if op=2 then [WK.at_.words.getD n.toNat []]
 else if op=11 then sIf::Xb::txS ts [Zcd,Z0,Z0,Zx]
 else if op=3\/op=4\/op=5 then par (os.getD 0 0) (tightF op) (ts.getD 0 [])++sgnO op::par (os.getD 1 0) (tightF op+1) (ts.getD 1 [])
 else WK.ca.words.getD (op-6).toNat []::Xb::txS ts [Z0,Zx]
mutual
def txX:Ex->List (List Nat)
 | .mk op n d0 d1 d2 d3 l=>txN op n [d0,d1,d2,d3] (l.map Ex.op) (txL l)
def txL:List Ex->List (List (List Nat))
 | []=> []
 |x::r=>txX x::txL r
end
def sPay:List Nat:= [112,97,121]
def Zfo:List Nat:= [59]
def Zfp:List Nat:= [116,97,114,105,102,102]
def sFor:List Nat:= [102,111,114]
def sLb:List Nat:= [123]
def sRb:List Nat:= [125]
def txW (w:Tst):List (List Nat):=WK.at_.words.getD w.attr.toNat []::(if w.low=w.high then [sIs,decN w.low] else [sIn,decN w.low,Zbs,decN w.high])
def txTs:Nat->List Tst->List (List Nat)
 |_,[]=> []
 |i,w::r=>(if i=0 then Zey else sAnd)::(txW w++txTs (i+1) r)
def txC (c:Cls):List (List Nat):=Xu::c.name::(txTs 0 c.when_++sPay::(txX c.pay++ [Zfo]))
def txCs:List Cls->List (List Nat)
 | []=> []
 |c::r=>txC c++txCs r
def Uq (t:Tar):List (List Nat):=Zfp::t.name::sFor::WK.ki.words.getD (t.for_-1).toNat []::sLb::(txCs t.clauses++ [sRb])
def Wm:List (List Nat)->List Nat
 | []=> []
 | [w]=>w
 |w::r=>w++32::Wm r
noncomputable def W5 (t:Tar):List Nat×Int:=if Z7 t≠0 then ([],Z7 t) else if 2000<(Wm (Uq t)).length then ([],2) else (Wm (Uq t),0)
theorem Zha {w:List Nat} {r:List (List Nat)} (h:r≠ []):Wm (w::r)=w++32::Wm r:=by
 cases r with
 |nil=>exact absurd rfl h
 |cons x r=>rfl
def SepL (s t:List Nat):Prop:=(∀c,s.getLast? =some c->isLD c=false)\/(∀c,t.head? =some c->isLD c=false)
def atT (p:Nat) (t:Tok):Tok:=⟨t.kind,t.text,t.n,p⟩
def TokW (w:List Nat):Prop:=(tokP w).2=0/\(tokP w).1.text=w/\w≠ []
inductive Lx:List Nat->Nat->List Tok->Prop
 |nil (p:Nat):Lx [] p []
 |blank (c:Nat) (s:List Nat) (p:Nat) (l:List Tok) (hc:blk c=true) (h:Lx s (p+1) l):Lx (c::s) p l
 |tok (w s:List Nat) (p:Nat) (l:List Tok) (hw:TokW w) (hs:SepL w s) (h:Lx s (p+w.length) l):Lx (w++s) p (atT p (tokP w).1::l)
theorem Wn {f:Int->Bool}:∀{w:List Nat},(∀c∈w,f c=true)->spn f w=w.length
 | [],_=>rfl
 |c::r,h=>by
  unfold spn
  rw [if_pos (h c (by simp)),Wn fun c hc=>h c (by simp [hc])]
  rfl
theorem Zon {f:Int->Bool}:∀{w s:List Nat},(∀c∈w,f c=true)->(∀c,s.head? =some c->f c=false)->spn f (w++s)=w.length
 | [],s,_,h=>by
  cases s with
  |nil=>rfl
  |cons c r=>
   rw [List.nil_append]
   unfold spn
   rw [if_neg (by rw [h c rfl];decide)]
   rfl
 |c::r,s,hw,h=>by
  rw [List.cons_append]
  unfold spn
  rw [if_pos (hw c (by simp)),Zon (fun c hc=>hw c (by simp [hc])) h]
  rfl
theorem Zq8 {f:Int->Bool} {w:List Nat} (h:w.take (spn f w)=w):∀c∈w,f c=true:=fun c hc=>Zi8 (by rw [h];exact hc)
theorem Zx2 {w:List Nat} (hw:w≠ []) (h:∀c∈w,isLD c=true) {s:List Nat} (hs:SepL w s):∀c,s.head? =some c->isLD c=false:=by
 rcases hs with h1|h1
 · have h2:=h1 (w.getLast hw) (List.getLast?_eq_some_getLast hw)
   rw [h _ (List.getLast_mem hw)] at h2
   cases h2
 · exact h1
theorem Ybb {n:Int} (h:isD n=true):isLD n=true:=by unfold isLD;rw [h,Bool.or_true]
theorem Ybc {n:Int} (h:isLD n=false):isD n=false:=by
 unfold isLD at h
 rw [Bool.or_eq_false_iff] at h
 exact h.2
theorem Z2c {w s:List Nat} (h:TokW w) (hs:SepL w s):tokP (w++s)=tokP w:=by
 obtain ⟨h1,h2,h3⟩:=h
 cases w with
 |nil=>exact absurd rfl h3
 |cons c r=>
  rw [Yi] at h1 h2
  rw [List.cons_append,Yi,Yi]
  split at h1
  · rename_i hl
    rw [if_pos hl] at h2
    rw [if_pos hl,if_pos hl]
    split at h1
    · cases h1
    · rename_i hn
      rw [if_neg hn] at h2
      have ha:=Zq8 (show (c::r).take (spn isLD (c::r))=c::r from h2)
      have hb:=Zx2 h3 ha hs
      have e1:spn isLD (c::(r++s))=(c::r).length:=Zon (w:=c::r) ha hb
      have e2:spn isLD (c::r)=(c::r).length:=Wn ha
      rw [e1,e2]
      rw [e2] at hn
      rw [if_neg hn,if_neg hn,<-List.cons_append,List.take_left,List.take_length]
  · rename_i hl
    rw [if_neg hl] at h2
    rw [if_neg hl,if_neg hl]
    split at h1
    · rename_i hd
      rw [if_pos hd] at h2
      rw [if_pos hd,if_pos hd]
      have ha:=Zq8 (show (c::r).take (spn isD (c::r))=c::r from h2)
      have hb:=Zx2 h3 (fun c hc=>Ybb (ha c hc)) hs
      have e1:spn isD (c::(r++s))=(c::r).length:=Zon (w:=c::r) ha fun c hc=>Ybc (hb c hc)
      have e2:spn isD (c::r)=(c::r).length:=Wn ha
      rw [e1,e2,<-List.cons_append,List.take_left,List.take_length]
    · rename_i hd
      rw [if_neg hd] at h2
      rw [if_neg hd,if_neg hd]
      split at h1
      · rename_i w hw
        rw [hw] at h2
        simp only at h2
        unfold tokS at h1 h2⊢
        split at h1
        · rename_i ht
          rw [if_pos ht] at h2
          have h2:w=c::r:=h2
          subst h2
          rw [if_pos ht,if_pos]
          rw [<-List.cons_append,List.take_left]
        · cases h1
      · cases h1
theorem TokW.head {w:List Nat} (h:TokW w) {s:List Nat}:∃c,(w++s)[0]? =some c/\blk c=false/\c≠35:=by
 obtain ⟨h1,h2,h3⟩:=h
 cases w with
 |nil=>exact absurd rfl h3
 |cons c r=>
  refine ⟨c,rfl,?_⟩
  rw [Yi] at h1
  have key:(isL c=true\/isD c=true\/(sgnW c).isSome=true):=by
   split at h1
   · exact .inl (by assumption)
   · split at h1
     · exact .inr (.inl (by assumption))
     · split at h1
       · rename_i w hw
         exact .inr (.inr (by rw [hw];rfl))
       · cases h1
  have key2:97<=c\/(48<=c/\c<=57)\/(sgnW c).isSome=true:=by
   rcases key with h|h|h
   · unfold isL at h
     simp at h
     omega
   · unfold isD at h
     simp at h
     omega
   · exact .inr (.inr h)
  constructor
  · cases hb:blk c with
    |false=>rfl
    |true=>
     exfalso
     unfold blk at hb
     simp at hb
     rcases hb with ((rfl|rfl)|rfl)|rfl<;>simp [sgnW] at key2
  · rintro rfl
    simp [sgnW] at key2
theorem Z2d {S w s:List Nat} {p:Nat} (h:S.drop p=w++s):S.drop (p+w.length)=s:=by
 rw [<-List.drop_drop,h,List.drop_left]
theorem Ybd {s:List Nat} {p:Nat} {l:List Tok} (h:Lx s p l):∀(k:Nat) (S:List Nat) (acc:List Tok),S.drop p=s->s.length<=k->tksL k S p acc=(acc++l,0,0):=by
 have ha:∀(S:List Nat) (p:Nat),S[p]? =(S.drop p)[0]? :=fun S p=>by rw [List.getElem?_drop];rfl
 induction h with
 |nil p=>
  intro k S acc hS hk
  have e:S[p]? =none:=by rw [ha,hS];rfl
  cases k with
  |zero=>unfold tksL;rw [List.append_nil]
  |succ k=>
   unfold tksL
   rw [e,List.append_nil]
 |blank c s p l hc h ih=>
  intro k S acc hS hk
  cases k with
  |zero=>simp at hk
  |succ k=>
   have e:S[p]? =some c:=by rw [ha,hS];rfl
   unfold tksL
   simp only [e,if_pos hc]
   refine ih k S acc ?_ (by simpa using hk)
   rw [<-List.drop_drop,hS]
   rfl
 |tok w s p l hw hs h ih=>
  intro k S acc hS hk
  obtain ⟨c,h0,hb,h35⟩:=hw.head (s:=s)
  have hp:=Z2c hw hs
  have hw':=hw
  obtain ⟨h1,h2,h3⟩:=hw'
  have hlen:1<=w.length:=by
   cases w with
   |nil=>exact absurd rfl h3
   |cons c r=>simp
  cases k with
  |zero=>rw [List.length_append] at hk;omega
  |succ k=>
   have e:S[p]? =some c:=by rw [ha,hS];exact h0
   unfold tksL
   simp only [e,if_neg (show ¬blk c=true by rw [hb];decide),if_neg h35,hS,hp]
   rw [if_neg (by rw [h1];decide),h2]
   rw [ih k S _ (Z2d hS) (by rw [List.length_append] at hk;omega)]
   rw [List.append_assoc]
   unfold atT
   rw [h2]
   rfl
theorem Zx3 {s:List Nat} {l:List Tok} (h:Lx s 0 l) (hl:s.length<=2000):Yr s=(l,0,0):=by
 unfold Yr
 rw [if_neg (by omega),Ybd h s.length s [] rfl (Nat.le_refl _)]
 rfl
theorem SepL.tail {w s t:List Nat} (hs:s≠ []) (h:SepL (w++s) t):SepL s t:=by
 rcases h with h|h
 · refine .inl fun c hc=>h c ?_
   rw [List.getLast?_append,hc]
   rfl
 · exact .inr h
def tkA:Nat->List (List Nat)->List Tok
 |_,[]=> []
 |p,w::r=>atT p (tokP w).1::tkA (p+w.length+1) r
theorem Yc0:blk 32=true:=rfl
theorem Yc1 (w s:List Nat):SepL w (32::s):= .inr fun c hc=>by cases hc;rfl
theorem Zx4:∀{ws:List (List Nat)} (p:Nat),(∀w∈ws,TokW w)->Lx (Wm ws) p (tkA p ws)
 | [],p,_=> .nil p
 | [w],p,h=>by
  have:=Lx.tok w [] p [] (h w (by simp)) (.inr fun c hc=>by cases hc) (.nil _)
  rw [List.append_nil] at this
  exact this
 |w::x::r,p,h=>by
  refine .tok w (32::Wm (x::r)) p _ (h w (by simp)) (Yc1 _ _) (.blank 32 _ _ _ Yc0 ?_)
  exact Zx4 (ws:=x::r) _ fun w hw=>h w (List.mem_cons_of_mem _ hw)
def tkS (w:List Nat):Tok:=atT 0 (tokP w).1
def sT (t:Tok):Tok:=atT 0 t
theorem Z4r:∀(ws:List (List Nat)) (p:Nat),(tkA p ws).map sT=ws.map tkS
 | [],_=>rfl
 |w::r,p=>by
  unfold tkA
  rw [List.map_cons,Z4r r,List.map_cons]
  rfl
end
section
open Go
def ndK (u:Int) (k:Res thy->Prop):List Int->Prop
 | []=>True
 |j::r=>((Lib.nDigits u.toNat:Int)=j->k (quiet [] (.int true .i64 j)))/\ndK u k r
noncomputable def Snd:Sum thy:=fun args _ _ k=>
 match args with
 | [.int _ .u64 u]=>(1<=u/\u<10000000000000)/\ndK u k [1,2,3,4,5,6,7,8,9,10,11,12,13]
 |_=>False
noncomputable def Z4n:Sum thy:=V8 (dA1 dN) (fun x=>0<=x.1/\x.1<100) (fun x=>(Lib.itoa x.1).map UInt8.toNat) fun y=> .str false y
noncomputable def Fit:Fns thy:=addS (addS F0 115 Snd) 114 Z4n
def smT:List Nat:=
 toL (ByteArray.mk (List.toArray (List.append (List.append [(48:UInt8),(48:UInt8),(48:UInt8),(49:UInt8),(48:UInt8),(50:UInt8),(48:UInt8),(51:UInt8),(48:
 UInt8),(52:UInt8),(48:UInt8),(53:UInt8),(48:UInt8),(54:UInt8),(48:UInt8),(55:UInt8),(48:UInt8),(56:UInt8),(48:UInt8),(57:UInt8),(49:UInt8),(48
 :UInt8),(49:UInt8),(49:UInt8),(49:UInt8),(50:UInt8),(49:UInt8),(51:UInt8),(49:UInt8),(52:UInt8),(49:UInt8),(53:UInt8),(49:UInt8),(54:UInt8),
 (49:UInt8),(55:UInt8),(49:UInt8),(56:UInt8),(49:UInt8),(57:UInt8),(50:UInt8),(48:UInt8),(50:UInt8),(49:UInt8),(50:UInt8),(50:UInt8),(50:
 UInt8),(51:UInt8),(50:UInt8),(52:UInt8)] [(50:UInt8),(53:UInt8),(50:UInt8),(54:UInt8),(50:UInt8),(55:UInt8),(50:UInt8),(56:UInt8),(50:UInt8),(57
 :UInt8),(51:UInt8),(48:UInt8),(51:UInt8),(49:UInt8),(51:UInt8),(50:UInt8),(51:UInt8),(51:UInt8),(51:UInt8),(52:UInt8),(51:UInt8),(53:UInt8),
 (51:UInt8),(54:UInt8),(51:UInt8),(55:UInt8),(51:UInt8),(56:UInt8),(51:UInt8),(57:UInt8),(52:UInt8),(48:UInt8),(52:UInt8),(49:UInt8),(52:
 UInt8),(50:UInt8),(52:UInt8),(51:UInt8),(52:UInt8),(52:UInt8),(52:UInt8),(53:UInt8),(52:UInt8),(54:UInt8),(52:UInt8),(55:UInt8),(52:UInt8),(56
 :UInt8),(52:UInt8),(57:UInt8)]) (List.append [(53:UInt8),(48:UInt8),(53:UInt8),(49:UInt8),(53:UInt8),(50:UInt8),(53:UInt8),(51:UInt8),(53:UInt8),
 (52:UInt8),(53:UInt8),(53:UInt8),(53:UInt8),(54:UInt8),(53:UInt8),(55:UInt8),(53:UInt8),(56:UInt8),(53:UInt8),(57:UInt8),(54:UInt8),(48:
 UInt8),(54:UInt8),(49:UInt8),(54:UInt8),(50:UInt8),(54:UInt8),(51:UInt8),(54:UInt8),(52:UInt8),(54:UInt8),(53:UInt8),(54:UInt8),(54:UInt8),(54
 :UInt8),(55:UInt8),(54:UInt8),(56:UInt8),(54:UInt8),(57:UInt8),(55:UInt8),(48:UInt8),(55:UInt8),(49:UInt8),(55:UInt8),(50:UInt8),(55:UInt8),
 (51:UInt8),(55:UInt8),(52:UInt8)] [(55:UInt8),(53:UInt8),(55:UInt8),(54:UInt8),(55:UInt8),(55:UInt8),(55:UInt8),(56:UInt8),(55:UInt8),(57:
 UInt8),(56:UInt8),(48:UInt8),(56:UInt8),(49:UInt8),(56:UInt8),(50:UInt8),(56:UInt8),(51:UInt8),(56:UInt8),(52:UInt8),(56:UInt8),(53:UInt8),(56
 :UInt8),(54:UInt8),(56:UInt8),(55:UInt8),(56:UInt8),(56:UInt8),(56:UInt8),(57:UInt8),(57:UInt8),(48:UInt8),(57:UInt8),(49:UInt8),(57:UInt8),
 (50:UInt8),(57:UInt8),(51:UInt8),(57:UInt8),(52:UInt8),(57:UInt8),(53:UInt8),(57:UInt8),(54:UInt8),(57:UInt8),(55:UInt8),(57:UInt8),(56:
 UInt8),(57:UInt8),(57:UInt8)]))))
abbrev qCHo:=(0:Int)
abbrev qCH3 (a0:Int):=(wr IntKind.u64 (qCHo-wr IntKind.u64 a0))
abbrev Znm:=(100000000:Int)
abbrev qCH1 (a0:Int):=(wr IntKind.u32 (Int.tmod (qCH3 a0) Znm))
abbrev qCH2 (a0:Int):=(wr IntKind.u32 (Int.tmod (wr IntKind.u64 a0) Znm))
abbrev qCH4:=(10000:Int)
abbrev qCH5:=(↑(List.length smT):Int)
abbrev qCH6:=(100:Int)
abbrev qCH7 (a0:Int):=(wr IntKind.u32 (wr IntKind.u64 (Int.tdiv (wr IntKind.u64 a0) Znm)))
abbrev qCH8:=(256:Nat)
abbrev qCHc:=(2:Int)
abbrev qCH9 (a0:Int):=(wr IntKind.u32 (Int.tdiv (wr IntKind.u32 (Int.tdiv (qCH1 a0) qCH4)) qCH6)*qCHc)
abbrev qCHa (a0:Int):=(wr IntKind.u32 (Int.tdiv (wr IntKind.u32 (Int.tdiv (qCH2 a0) qCH4)) qCH6)*qCHc)
abbrev qCHb (a0:Int):=(wr IntKind.u32 (wr IntKind.u64 (Int.tdiv (qCH3 a0) Znm)))
abbrev qCHd:=(1:Int)
abbrev qCHe (a0:Int):=(wr IntKind.u32 (wr IntKind.u64 a0))
abbrev qCHf (a0:Int):=(wr IntKind.u32 (Int.tdiv (Int.tmod (qCH1 a0) qCH4) qCH6)*qCHc)
abbrev qCHg (a0:Int):=(Int.tmod (wr IntKind.u32 (Int.tdiv (qCH1 a0) qCH4)) qCH6*qCHc)
abbrev qCHh (a0:Int):=(wr IntKind.u32 (Int.tdiv (Int.tmod (qCH2 a0) qCH4) qCH6)*qCHc)
abbrev qCHi (a0:Int):=(Int.tmod (wr IntKind.u32 (Int.tdiv (qCH2 a0) qCH4)) qCH6*qCHc)
abbrev Zk8 (a0:Int):=(wr IntKind.u32 (qCH3 a0))
abbrev qCHj (a0:Int):=(wr IntKind.u32 (Int.tdiv (Int.tmod (Zk8 a0) qCH4) qCH6)*qCHc)
abbrev qCHk (a0:Int):=(Int.tmod (Int.tmod (qCH1 a0) qCH4) qCH6*qCHc)
abbrev qCHl (a0:Int):=(Int.tmod (Int.tmod (qCH2 a0) qCH4) qCH6*qCHc)
abbrev qCHm (a0:Int):=(Int.tmod (Int.tmod (Zk8 a0) qCH4) qCH6*qCHc)
abbrev qCHn (a0:Int):=(wr IntKind.u32 (Int.tdiv (Int.tmod (qCHe a0) qCH4) qCH6)*qCHc)
abbrev qCHp (a0:Int):=(Int.tmod (Int.tmod (qCHe a0) qCH4) qCH6*qCHc)
abbrev qCHq (a0:Int):=(Int.tmod (wr IntKind.u32 (Int.tdiv (Zk8 a0) qCH4)) qCH6*qCHc)
abbrev qCHr (a0:Nat):=(↑a0:Int)
abbrev qCHs (a0:Int):=(wr IntKind.u32 (Int.tdiv (Int.tmod (qCHb a0) qCH4) qCH6)*qCHc)
abbrev qCHt (a0:Int):=(Int.tmod (wr IntKind.u32 (Int.tdiv (qCHe a0) qCH4)) qCH6*qCHc)
abbrev qCHu (a0:Int):=(wr IntKind.u32 (Int.tdiv (Int.tmod (qCH7 a0) qCH4) qCH6)*qCHc)
abbrev qCHv (a0:Int):=(↑(Lib.nDigits (Int.toNat (wr IntKind.u64 a0))):Int)
abbrev qCHw (a0:Int):=(Int.tmod (Zk8 a0) qCH6*qCHc)
abbrev qCHx (a0:Int):=(Int.tmod (Int.tmod (qCHb a0) qCH4) qCH6*qCHc)
abbrev qCHy (a0:Int):=(Int.tmod (Int.tmod (qCH7 a0) qCH4) qCH6*qCHc)
abbrev qCHz (a0:Int):=(↑(Lib.nDigits (Int.toNat (qCH3 a0))):Int)
abbrev Zb4 (a0:Int):=(wr IntKind.u32 (qCHk a0)+qCHd)
abbrev Zb5 (a0:Int):=(wr IntKind.u32 (qCHf a0)+qCHd)
abbrev Zb6 (a0:Int):=(wr IntKind.u32 (qCHg a0)+qCHd)
abbrev Zb7 (a0:Int):=(wr IntKind.u32 (qCH9 a0)+qCHd)
abbrev Zb8 (a0:Int):=(wr IntKind.u32 (qCHl a0)+qCHd)
abbrev Zb9 (a0:Int):=(wr IntKind.u32 (qCHh a0)+qCHd)
abbrev Zca (a0:Int):=(wr IntKind.u32 (qCHi a0)+qCHd)
abbrev Zcb (a0:Int):=(wr IntKind.u32 (qCHa a0)+qCHd)
abbrev Zcv (a0:Int):=(wr IntKind.u32 (qCHm a0)+qCHd)
abbrev Zcw (a0:Int):=(wr IntKind.u32 (qCHj a0)+qCHd)
abbrev Zcx (a0:Int):=(wr IntKind.u32 (qCHp a0)+qCHd)
abbrev Zcy (a0:Int):=(wr IntKind.u32 (qCHn a0)+qCHd)
abbrev Zk9 (a0:Int):=(Int.tmod (qCHb a0) qCH6*qCHc)
abbrev Zla (a0:Int):=(Int.tmod (qCHe a0) qCH6*qCHc)
abbrev Zlb (a0:Int):=(Int.tmod (qCH7 a0) qCH6*qCHc)
abbrev Zai:=(48:Int)
abbrev X7:=(45:Int)
abbrev Znn (a0:Int):=(wr IntKind.u32 (Zk9 a0)+qCHd)
abbrev Zno (a0:Int):=(wr IntKind.u32 (Zla a0)+qCHd)
abbrev Znp (a0:Int):=(wr IntKind.u32 (Zlb a0)+qCHd)
abbrev Znq (a0:Int):=(wr IntKind.u32 (qCHw a0)+qCHd)
abbrev Znr (a0:Int):=(wr IntKind.u32 (qCHq a0)+qCHd)
abbrev Zns (a0:Int):=(wr IntKind.u32 (qCHx a0)+qCHd)
abbrev Znt (a0:Int):=(wr IntKind.u32 (qCHs a0)+qCHd)
abbrev Znu (a0:Int):=(wr IntKind.u32 (qCHt a0)+qCHd)
abbrev Znv (a0:Int):=(wr IntKind.u32 (qCHy a0)+qCHd)
abbrev Znw (a0:Int):=(wr IntKind.u32 (qCHu a0)+qCHd)
abbrev Z67 (a0:Int):=(wr IntKind.u8 (wr IntKind.u32 (Zai+wr IntKind.u32 (wr IntKind.u64 (Int.tdiv (wr IntKind.u64 a0) Znm)))))
abbrev Z68 (a0:Int):=(wr IntKind.u8 (wr IntKind.u32 (Zai+wr IntKind.u32 (Int.tdiv (wr IntKind.u32 (Int.tdiv (Zk8 a0) qCH4)) qCH6))))
abbrev Z69 (a0:Int):=(wr IntKind.u8 (wr IntKind.u32 (Zai+wr IntKind.u32 (Int.tdiv (wr IntKind.u32 (Int.tdiv (qCHe a0) qCH4)) qCH6))))
abbrev Zu (a0:Int):=(a0<qCHo)
abbrev Z7a (a0:Int):=(wr IntKind.u8 (wr IntKind.u32 (Zai+wr IntKind.u32 (wr IntKind.u64 (Int.tdiv (qCH3 a0) Znm)))))
abbrev Znx (a0:Int):=(wr IntKind.u32 (Zb4 a0))
abbrev Zny (a0:Int):=(wr IntKind.u32 (Zb5 a0))
abbrev Znz (a0:Int):=(wr IntKind.u32 (Zb6 a0))
abbrev Zn0 (a0:Int):=(wr IntKind.u32 (Zb7 a0))
abbrev Zn1 (a0:Int):=(wr IntKind.u32 (Zb8 a0))
abbrev Zn2 (a0:Int):=(wr IntKind.u32 (Zb9 a0))
abbrev Zn3 (a0:Int):=(wr IntKind.u32 (Zca a0))
abbrev Zn4 (a0:Int):=(wr IntKind.u32 (Zcb a0))
abbrev Z7b (a0:Int) (b0:Nat) (c0:Nat) (d0:Nat) (e0:Nat) (f0:Nat) (g0:Nat) (h0:List Nat):=(decide (Zu a0)=true-> [Int.toNat X7%qCH8,Int.toNat (qCHr b0)%qCH8,Int.toNat (qCHr c0)%qCH8,Int.toNat (qCHr d0)%qCH8,Int.toNat (qCHr e0)%qCH8,Int.toNat (qCHr f0)%qCH8,Int.toNat (qCHr g0)%qCH8]=h0)
abbrev Zn5 (a0:Int):=(wr IntKind.u32 (qCHk a0))
abbrev Zn6 (a0:Int):=(wr IntKind.u32 (qCHf a0))
abbrev Zn7 (a0:Int):=(wr IntKind.u32 (qCHg a0))
abbrev Zn8 (a0:Int):=(wr IntKind.u32 (qCH9 a0))
abbrev Zn9 (a0:Int):=(wr IntKind.u32 (qCHl a0))
abbrev Zoa (a0:Int):=(wr IntKind.u32 (qCHh a0))
abbrev Zob (a0:Int):=(wr IntKind.u32 (qCHi a0))
abbrev Zoc (a0:Int):=(wr IntKind.u32 (qCHa a0))
abbrev Z7c (a0:Int):=(wr IntKind.u8 (wr IntKind.u32 (Zai+wr IntKind.u32 (Int.tdiv (Zk8 a0) qCH6))))
abbrev Z7d (a0:Int):=(wr IntKind.u8 (wr IntKind.u32 (Zai+wr IntKind.u32 (Int.tdiv (Zk8 a0) qCH4))))
abbrev Z7e (a0:Int):=(wr IntKind.u8 (wr IntKind.u32 (Zai+wr IntKind.u32 (Int.tdiv (qCHb a0) qCH6))))
abbrev Z7f (a0:Int):=(wr IntKind.u8 (wr IntKind.u32 (Zai+wr IntKind.u32 (Int.tdiv (qCHb a0) qCH4))))
abbrev Z7g (a0:Int):=(wr IntKind.u8 (wr IntKind.u32 (Zai+wr IntKind.u32 (Int.tdiv (qCHe a0) qCH6))))
abbrev Z7h (a0:Int):=(wr IntKind.u8 (wr IntKind.u32 (Zai+wr IntKind.u32 (Int.tdiv (qCHe a0) qCH4))))
abbrev Z7i (a0:Int):=(wr IntKind.u8 (wr IntKind.u32 (Zai+wr IntKind.u32 (Int.tdiv (qCH7 a0) qCH6))))
abbrev Z7j (a0:Int):=(wr IntKind.u8 (wr IntKind.u32 (Zai+wr IntKind.u32 (Int.tdiv (qCH7 a0) qCH4))))
abbrev Z7k (a0:Int):=(wr IntKind.u8 (wr IntKind.u32 (Zai+wr IntKind.u32 (wr IntKind.u64 a0))))
abbrev Z7l (a0:Int) (b0:Nat) (c0:Nat) (d0:Nat) (e0:Nat) (f0:List Nat):=(decide (Zu a0)=true-> [Int.toNat X7%qCH8,Int.toNat (qCHr b0)%qCH8,Int.toNat (qCHr c0)%qCH8,Int.toNat (qCHr d0)%qCH8,Int.toNat (qCHr e0)%qCH8]=f0)
abbrev Z7m (a0:Int) (b0:Nat) (c0:Nat) (d0:Nat) (e0:Nat) (f0:Nat) (g0:Nat) (h0:List Nat):=(decide (Zu a0)=false-> [Int.toNat (qCHr b0)%qCH8,Int.toNat (qCHr c0)%qCH8,Int.toNat (qCHr d0)%qCH8,Int.toNat (qCHr e0)%qCH8,Int.toNat (qCHr f0)%qCH8,Int.toNat (qCHr g0)%qCH8]=h0)
theorem Zxm (n:Int) (v:List Nat):Zg E Fit (vc E Fit 2000) 14 [.int false .i64 n] hp0 0 (fun r=>ret E (patch hp0 0 r) r.v (.str false v))=(
 ∃(Q:Bool->Prop),((decide (qCHo<=n)=true->(decide (n<qCH6)=true->Q true)/\(decide (n<qCH6)=false->Q false))/\(decide (qCHo<=n)=false->Q false))/\(Q true->(qCHo<=n/\n+qCHd<=qCH6)/\∀(y:List Nat),y=List.map UInt8.toNat (Lib.itoa n)->y=v)/\(Q false->(decide (Zu n)=true->(qCHd<=wr IntKind.u64 (qCHo-wr IntKind.u64 n)/\wr IntKind.u64 (qCHo-wr IntKind.u64 n)+qCHd<=(10000000000000:Int))/\((qCHz n)=qCHd->(decide (Zu n)=true-> [Int.toNat X7%qCH8,Int.toNat (wr IntKind.u8 (wr IntKind.u32 (Zai+wr IntKind.u32 (qCH3 n))))%qCH8]=v)/\(decide (Zu n)=false-> [Int.toNat (wr IntKind.u8 (wr IntKind.u32 (Zai+wr IntKind.u32 (qCH3 n))))%qCH8]=v))/\((qCHz n)=qCHc->qCHo<=wr IntKind.u32 (Znq n)/\wr IntKind.u32 (Znq n)+qCHd<=qCH5/\∀(x:Nat),smT[Int.toNat (wr IntKind.u32 (Znq n))]? =some x->qCHo<=wr IntKind.u32 (qCHw n)/\wr IntKind.u32 (qCHw n)+qCHd<=qCH5/\∀(x_1:Nat),smT[Int.toNat (wr IntKind.u32 (qCHw n))]? =some x_1->(decide (Zu n)=true-> [Int.toNat X7%qCH8,Int.toNat (qCHr x_1)%qCH8,Int.toNat (qCHr x)%qCH8]=v)/\(decide (Zu n)=false-> [Int.toNat (qCHr x_1)%qCH8,Int.toNat (qCHr x)%qCH8]=v))/\((qCHz n)=(3:Int)->qCHo<=wr IntKind.u32 (Znq n)/\wr IntKind.u32 (Znq n)+qCHd<=qCH5/\∀(x:Nat),smT[Int.toNat (wr IntKind.u32 (Znq n))]? =some x->qCHo<=wr IntKind.u32 (qCHw n)/\wr IntKind.u32 (qCHw n)+qCHd<=qCH5/\∀(x_1:Nat),smT[Int.toNat (wr IntKind.u32 (qCHw n))]? =some x_1->(decide (Zu n)=true-> [Int.toNat X7%qCH8,Int.toNat (Z7c n)%qCH8,Int.toNat (qCHr x_1)%qCH8,Int.toNat (qCHr x)%qCH8]=v)/\(decide (Zu n)=false-> [Int.toNat (Z7c n)%qCH8,Int.toNat (qCHr x_1)%qCH8,Int.toNat (qCHr x)%qCH8]=v))/\((qCHz n)=(4:Int)->qCHo<=wr IntKind.u32 (Zcv n)/\wr IntKind.u32 (Zcv n)+qCHd<=qCH5/\∀(x:Nat),smT[Int.toNat (wr IntKind.u32 (Zcv n))]? =some x->qCHo<=wr IntKind.u32 (qCHm n)/\wr IntKind.u32 (qCHm n)+qCHd<=qCH5/\∀(x_1:Nat),smT[Int.toNat (wr IntKind.u32 (qCHm n))]? =some x_1->qCHo<=wr IntKind.u32 (Zcw n)/\wr IntKind.u32 (Zcw n)+qCHd<=qCH5/\∀(x_2:Nat),smT[Int.toNat (wr IntKind.u32 (Zcw n))]? =some x_2->qCHo<=wr IntKind.u32 (qCHj n)/\wr IntKind.u32 (qCHj n)+qCHd<=qCH5/\∀(x_3:Nat),smT[Int.toNat (wr IntKind.u32 (qCHj n))]? =some x_3->(Z7l n x_3 x_2 x_1 x v)/\(decide (Zu n)=false-> [Int.toNat (qCHr x_3)%qCH8,Int.toNat (qCHr x_2)%qCH8,Int.toNat (qCHr x_1)%qCH8,Int.toNat (qCHr x)%qCH8]=v))/\((qCHz n)=(5:Int)->qCHo<=wr IntKind.u32 (Zcv n)/\wr IntKind.u32 (Zcv n)+qCHd<=qCH5/\∀(x:Nat),smT[Int.toNat (wr IntKind.u32 (Zcv n))]? =some x->qCHo<=wr IntKind.u32 (qCHm n)/\wr IntKind.u32 (qCHm n)+qCHd<=qCH5/\∀(x_1:Nat),smT[Int.toNat (wr IntKind.u32 (qCHm n))]? =some x_1->qCHo<=wr IntKind.u32 (Zcw n)/\wr IntKind.u32 (Zcw n)+qCHd<=qCH5/\∀(x_2:Nat),smT[Int.toNat (wr IntKind.u32 (Zcw n))]? =some x_2->qCHo<=wr IntKind.u32 (qCHj n)/\wr IntKind.u32 (qCHj n)+qCHd<=qCH5/\∀(x_3:Nat),smT[Int.toNat (wr IntKind.u32 (qCHj n))]? =some x_3->(decide (Zu n)=true-> [Int.toNat X7%qCH8,Int.toNat (Z7d n)%qCH8,Int.toNat (qCHr x_3)%qCH8,Int.toNat (qCHr x_2)%qCH8,Int.toNat (qCHr x_1)%qCH8,Int.toNat (qCHr x)%qCH8]=v)/\(decide (Zu n)=false-> [Int.toNat (Z7d n)%qCH8,Int.toNat (qCHr x_3)%qCH8,Int.toNat (qCHr x_2)%qCH8,Int.toNat (qCHr x_1)%qCH8,Int.toNat (qCHr x)%qCH8]=v))/\((qCHz n)=(6:Int)->qCHo<=wr IntKind.u32 (Zcv n)/\wr IntKind.u32 (Zcv n)+qCHd<=qCH5/\∀(x:Nat),smT[Int.toNat (wr IntKind.u32 (Zcv n))]? =some x->qCHo<=wr IntKind.u32 (qCHm n)/\wr IntKind.u32 (qCHm n)+qCHd<=qCH5/\∀(x_1:Nat),smT[Int.toNat (wr IntKind.u32 (qCHm n))]? =some x_1->qCHo<=wr IntKind.u32 (Zcw n)/\wr IntKind.u32 (Zcw n)+qCHd<=qCH5/\∀(x_2:Nat),smT[Int.toNat (wr IntKind.u32
(Zcw n))]? =some x_2->qCHo<=wr IntKind.u32 (qCHj n)/\wr IntKind.u32 (qCHj n)+qCHd<=qCH5/\∀(x_3:Nat),smT[Int.toNat (wr IntKind.u32 (qCHj n))]? =some x_3->qCHo<=wr IntKind.u32 (Znr n)/\wr IntKind.u32 (Znr n)+qCHd<=qCH5/\∀(x_4:Nat),smT[Int.toNat (wr IntKind.u32 (Znr n))]? =some x_4->qCHo<=wr IntKind.u32 (qCHq n)/\wr IntKind.u32 (qCHq n)+qCHd<=qCH5/\∀(x_5:Nat),smT[Int.toNat (wr IntKind.u32 (qCHq n))]? =some x_5->(Z7b n x_5 x_4 x_3 x_2 x_1 x v)/\(Z7m n x_5 x_4 x_3 x_2 x_1 x v))/\((qCHz n)=(7:Int)->qCHo<=wr IntKind.u32 (Zcv n)/\wr IntKind.u32 (Zcv n)+qCHd<=qCH5/\∀(x:Nat),smT[Int.toNat (wr IntKind.u32 (Zcv n))]? =some x->qCHo<=wr IntKind.u32 (qCHm n)/\wr IntKind.u32 (qCHm n)+qCHd<=qCH5/\∀(x_1:Nat),smT[Int.toNat (wr IntKind.u32 (qCHm n))]? =some x_1->qCHo<=wr IntKind.u32 (Zcw n)/\wr IntKind.u32 (Zcw n)+qCHd<=qCH5/\∀(x_2:Nat),smT[Int.toNat (wr IntKind.u32 (Zcw n))]? =some x_2->qCHo<=wr IntKind.u32 (qCHj n)/\wr IntKind.u32 (qCHj n)+qCHd<=qCH5/\∀(x_3:Nat),smT[Int.toNat (wr IntKind.u32 (qCHj n))]? =some x_3->qCHo<=wr IntKind.u32 (Znr n)/\wr IntKind.u32 (Znr n)+qCHd<=qCH5/\∀(x_4:Nat),smT[Int.toNat (wr IntKind.u32 (Znr n))]? =some x_4->qCHo<=wr IntKind.u32 (qCHq n)/\wr IntKind.u32 (qCHq n)+qCHd<=qCH5/\∀(x_5:Nat),smT[Int.toNat (wr IntKind.u32 (qCHq n))]? =some x_5->(decide (Zu n)=true-> [Int.toNat X7%qCH8,Int.toNat (Z68 n)%qCH8,Int.toNat (qCHr x_5)%qCH8,Int.toNat (qCHr x_4)%qCH8,Int.toNat (qCHr x_3)%qCH8,Int.toNat (qCHr x_2)%qCH8,Int.toNat (qCHr x_1)%qCH8,Int.toNat (qCHr x)%qCH8]=v)/\(decide (Zu n)=false-> [Int.toNat (Z68 n)%qCH8,Int.toNat (qCHr x_5)%qCH8,Int.toNat (qCHr x_4)%qCH8,Int.toNat (qCHr x_3)%qCH8,Int.toNat (qCHr x_2)%qCH8,Int.toNat (qCHr x_1)%qCH8,Int.toNat (qCHr x)%qCH8]=v))/\((qCHz n)=(8:Int)->qCHo<=wr IntKind.u32 (Zb4 n)/\wr IntKind.u32 (Zb4 n)+qCHd<=qCH5/\∀(x:Nat),smT[Int.toNat (Znx n)]? =some x->qCHo<=wr IntKind.u32 (qCHk n)/\wr IntKind.u32 (qCHk n)+qCHd<=qCH5/\∀(x_1:Nat),smT[Int.toNat (Zn5 n)]? =some x_1->qCHo<=wr IntKind.u32 (Zb5 n)/\wr IntKind.u32 (Zb5 n)+qCHd<=qCH5/\∀(x_2:Nat),smT[Int.toNat (Zny n)]? =some x_2->qCHo<=wr IntKind.u32 (qCHf n)/\wr IntKind.u32 (qCHf n)+qCHd<=qCH5/\∀(x_3:Nat),smT[Int.toNat (Zn6 n)]? =some x_3->qCHo<=wr IntKind.u32 (Zb6 n)/\wr IntKind.u32 (Zb6 n)+qCHd<=qCH5/\∀(x_4:Nat),smT[Int.toNat (Znz n)]? =some x_4->qCHo<=wr IntKind.u32 (qCHg n)/\wr IntKind.u32 (qCHg n)+qCHd<=qCH5/\∀(x_5:Nat),smT[Int.toNat (Zn7 n)]? =some x_5->qCHo<=wr IntKind.u32 (Zb7 n)/\wr IntKind.u32 (Zb7 n)+qCHd<=qCH5/\∀(x_6:Nat),smT[Int.toNat (Zn0 n)]? =some x_6->qCHo<=wr IntKind.u32 (qCH9 n)/\wr IntKind.u32 (qCH9 n)+qCHd<=qCH5/\∀(x_7:Nat),smT[Int.toNat (Zn8 n)]? =some x_7->(decide (Zu n)=true-> [Int.toNat X7%qCH8,Int.toNat (qCHr x_7)%qCH8,Int.toNat (qCHr x_6)%qCH8,Int.toNat (qCHr x_5)%qCH8,Int.toNat (qCHr x_4)%qCH8,Int.toNat (qCHr x_3)%qCH8,Int.toNat (qCHr x_2)%qCH8,Int.toNat (qCHr x_1)%qCH8,Int.toNat (qCHr x)%qCH8]=v)/\(decide (Zu n)=false-> [Int.toNat (qCHr x_7)%qCH8,Int.toNat (qCHr x_6)%qCH8,Int.toNat (qCHr x_5)%qCH8,Int.toNat (qCHr x_4)%qCH8,Int.toNat (qCHr x_3)%qCH8,Int.toNat (qCHr x_2)%qCH8,Int.toNat (qCHr x_1)%qCH8,Int.toNat (qCHr x)%qCH8]=v))/\((qCHz n)=(9:Int)->qCHo<=wr IntKind.u32 (Zb4 n)/\wr IntKind.u32 (Zb4 n)+qCHd<=qCH5/\∀(x:Nat),smT[Int.toNat (Znx n)]? =some x->qCHo<=wr IntKind.u32 (qCHk n)/\wr IntKind.u32 (qCHk n)+qCHd<=qCH5/\∀(x_1:Nat),smT[Int.toNat (Zn5 n)]? =some x_1->qCHo<=wr IntKind.u32 (Zb5 n)/\wr IntKind.u32 (Zb5 n)+qCHd<=qCH5/\∀(x_2:Nat),smT[Int.toNat (Zny n)]? =some x_2->qCHo<=wr IntKind.u32 (qCHf n)/\wr IntKind.u32 (qCHf n)+qCHd<=qCH5/\∀(x_3:
Nat),smT[Int.toNat (Zn6 n)]? =some x_3->qCHo<=wr IntKind.u32 (Zb6 n)/\wr IntKind.u32 (Zb6 n)+qCHd<=qCH5/\∀(x_4:Nat),smT[Int.toNat (Znz n)]? =some x_4->qCHo<=wr IntKind.u32 (qCHg n)/\wr IntKind.u32 (qCHg n)+qCHd<=qCH5/\∀(x_5:Nat),smT[Int.toNat (Zn7 n)]? =some x_5->qCHo<=wr IntKind.u32 (Zb7 n)/\wr IntKind.u32 (Zb7 n)+qCHd<=qCH5/\∀(x_6:Nat),smT[Int.toNat (Zn0 n)]? =some x_6->qCHo<=wr IntKind.u32 (qCH9 n)/\wr IntKind.u32 (qCH9 n)+qCHd<=qCH5/\∀(x_7:Nat),smT[Int.toNat (Zn8 n)]? =some x_7->(decide (Zu n)=true-> [Int.toNat X7%qCH8,Int.toNat (Z7a n)%qCH8,Int.toNat (qCHr x_7)%qCH8,Int.toNat (qCHr x_6)%qCH8,Int.toNat (qCHr x_5)%qCH8,Int.toNat (qCHr x_4)%qCH8,Int.toNat (qCHr x_3)%qCH8,Int.toNat (qCHr x_2)%qCH8,Int.toNat (qCHr x_1)%qCH8,Int.toNat (qCHr x)%qCH8]=v)/\(decide (Zu n)=false-> [Int.toNat (Z7a n)%qCH8,Int.toNat (qCHr x_7)%qCH8,Int.toNat (qCHr x_6)%qCH8,Int.toNat (qCHr x_5)%qCH8,Int.toNat (qCHr x_4)%qCH8,Int.toNat (qCHr x_3)%qCH8,Int.toNat (qCHr x_2)%qCH8,Int.toNat (qCHr x_1)%qCH8,Int.toNat (qCHr x)%qCH8]=v))/\((qCHz n)=(10:Int)->qCHo<=wr IntKind.u32 (Zb4 n)/\wr IntKind.u32 (Zb4 n)+qCHd<=qCH5/\∀(x:Nat),smT[Int.toNat (Znx n)]? =some x->qCHo<=wr IntKind.u32 (qCHk n)/\wr IntKind.u32 (qCHk n)+qCHd<=qCH5/\∀(x_1:Nat),smT[Int.toNat (Zn5 n)]? =some x_1->qCHo<=wr IntKind.u32 (Zb5 n)/\wr IntKind.u32 (Zb5 n)+qCHd<=qCH5/\∀(x_2:Nat),smT[Int.toNat (Zny n)]? =some x_2->qCHo<=wr IntKind.u32 (qCHf n)/\wr IntKind.u32 (qCHf n)+qCHd<=qCH5/\∀(x_3:Nat),smT[Int.toNat (Zn6 n)]? =some x_3->qCHo<=wr IntKind.u32 (Zb6 n)/\wr IntKind.u32 (Zb6 n)+qCHd<=qCH5/\∀(x_4:Nat),smT[Int.toNat (Znz n)]? =some x_4->qCHo<=wr IntKind.u32 (qCHg n)/\wr IntKind.u32 (qCHg n)+qCHd<=qCH5/\∀(x_5:Nat),smT[Int.toNat (Zn7 n)]? =some x_5->qCHo<=wr IntKind.u32 (Zb7 n)/\wr IntKind.u32 (Zb7 n)+qCHd<=qCH5/\∀(x_6:Nat),smT[Int.toNat (Zn0 n)]? =some x_6->qCHo<=wr IntKind.u32 (qCH9 n)/\wr IntKind.u32 (qCH9 n)+qCHd<=qCH5/\∀(x_7:Nat),smT[Int.toNat (Zn8 n)]? =some x_7->qCHo<=wr IntKind.u32 (Znn n)/\wr IntKind.u32 (Znn n)+qCHd<=qCH5/\∀(x_8:Nat),smT[Int.toNat (wr IntKind.u32 (Znn n))]? =some x_8->qCHo<=wr IntKind.u32 (Zk9 n)/\wr IntKind.u32 (Zk9 n)+qCHd<=qCH5/\∀(x_9:Nat),smT[Int.toNat (wr IntKind.u32 (Zk9 n))]? =some x_9->(decide (Zu n)=true-> [Int.toNat X7%qCH8,Int.toNat (qCHr x_9)%qCH8,Int.toNat (qCHr x_8)%qCH8,Int.toNat (qCHr x_7)%qCH8,Int.toNat (qCHr x_6)%qCH8,Int.toNat (qCHr x_5)%qCH8,Int.toNat (qCHr x_4)%qCH8,Int.toNat (qCHr x_3)%qCH8,Int.toNat (qCHr x_2)%qCH8,Int.toNat (qCHr x_1)%qCH8,Int.toNat (qCHr x)%qCH8]=v)/\(decide (Zu n)=false-> [Int.toNat (qCHr x_9)%qCH8,Int.toNat (qCHr x_8)%qCH8,Int.toNat (qCHr x_7)%qCH8,Int.toNat (qCHr x_6)%qCH8,Int.toNat (qCHr x_5)%qCH8,Int.toNat (qCHr x_4)%qCH8,Int.toNat (qCHr x_3)%qCH8,Int.toNat (qCHr x_2)%qCH8,Int.toNat (qCHr x_1)%qCH8,Int.toNat (qCHr x)%qCH8]=v))/\((qCHz n)=(11:Int)->qCHo<=wr IntKind.u32 (Zb4 n)/\wr IntKind.u32 (Zb4 n)+qCHd<=qCH5/\∀(x:Nat),smT[Int.toNat (Znx n)]? =some x->qCHo<=wr IntKind.u32 (qCHk n)/\wr IntKind.u32 (qCHk n)+qCHd<=qCH5/\∀(x_1:Nat),smT[Int.toNat (Zn5 n)]? =some x_1->qCHo<=wr IntKind.u32 (Zb5 n)/\wr IntKind.u32 (Zb5 n)+qCHd<=qCH5/\∀(x_2:Nat),smT[Int.toNat (Zny n)]? =some x_2->qCHo<=wr IntKind.u32 (qCHf n)/\wr IntKind.u32 (qCHf n)+qCHd<=qCH5/\∀(x_3:Nat),smT[Int.toNat (Zn6 n)]? =some x_3->qCHo<=wr IntKind.u32 (Zb6 n)/\wr IntKind.u32 (Zb6 n)+qCHd<=qCH5/\∀(x_4:Nat),smT[Int.toNat (Znz n)]? =some x_4->qCHo<=wr IntKind.u32 (qCHg n)/\wr IntKind.u32 (qCHg n)+qCHd<=qCH5/\∀(x_5:Nat),smT[Int.toNat (Zn7 n)]? =some x_5->qCHo<=wr IntKind.u32 (Zb7 n)/\
wr IntKind.u32 (Zb7 n)+qCHd<=qCH5/\∀(x_6:Nat),smT[Int.toNat (Zn0 n)]? =some x_6->qCHo<=wr IntKind.u32 (qCH9 n)/\wr IntKind.u32 (qCH9 n)+qCHd<=qCH5/\∀(x_7:Nat),smT[Int.toNat (Zn8 n)]? =some x_7->qCHo<=wr IntKind.u32 (Znn n)/\wr IntKind.u32 (Znn n)+qCHd<=qCH5/\∀(x_8:Nat),smT[Int.toNat (wr IntKind.u32 (Znn n))]? =some x_8->qCHo<=wr IntKind.u32 (Zk9 n)/\wr IntKind.u32 (Zk9 n)+qCHd<=qCH5/\∀(x_9:Nat),smT[Int.toNat (wr IntKind.u32 (Zk9 n))]? =some x_9->(decide (Zu n)=true-> [Int.toNat X7%qCH8,Int.toNat (Z7e n)%qCH8,Int.toNat (qCHr x_9)%qCH8,Int.toNat (qCHr x_8)%qCH8,Int.toNat (qCHr x_7)%qCH8,Int.toNat (qCHr x_6)%qCH8,Int.toNat (qCHr x_5)%qCH8,Int.toNat (qCHr x_4)%qCH8,Int.toNat (qCHr x_3)%qCH8,Int.toNat (qCHr x_2)%qCH8,Int.toNat (qCHr x_1)%qCH8,Int.toNat (qCHr x)%qCH8]=v)/\(decide (Zu n)=false-> [Int.toNat (Z7e n)%qCH8,Int.toNat (qCHr x_9)%qCH8,Int.toNat (qCHr x_8)%qCH8,Int.toNat (qCHr x_7)%qCH8,Int.toNat (qCHr x_6)%qCH8,Int.toNat (qCHr x_5)%qCH8,Int.toNat (qCHr x_4)%qCH8,Int.toNat (qCHr x_3)%qCH8,Int.toNat (qCHr x_2)%qCH8,Int.toNat (qCHr x_1)%qCH8,Int.toNat (qCHr x)%qCH8]=v))/\((qCHz n)=(12:Int)->qCHo<=wr IntKind.u32 (Zb4 n)/\wr IntKind.u32 (Zb4 n)+qCHd<=qCH5/\∀(x:Nat),smT[Int.toNat (Znx n)]? =some x->qCHo<=wr IntKind.u32 (qCHk n)/\wr IntKind.u32 (qCHk n)+qCHd<=qCH5/\∀(x_1:Nat),smT[Int.toNat (Zn5 n)]? =some x_1->qCHo<=wr IntKind.u32 (Zb5 n)/\wr IntKind.u32 (Zb5 n)+qCHd<=qCH5/\∀(x_2:Nat),smT[Int.toNat (Zny n)]? =some x_2->qCHo<=wr IntKind.u32 (qCHf n)/\wr IntKind.u32 (qCHf n)+qCHd<=qCH5/\∀(x_3:Nat),smT[Int.toNat (Zn6 n)]? =some x_3->qCHo<=wr IntKind.u32 (Zb6 n)/\wr IntKind.u32 (Zb6 n)+qCHd<=qCH5/\∀(x_4:Nat),smT[Int.toNat (Znz n)]? =some x_4->qCHo<=wr IntKind.u32 (qCHg n)/\wr IntKind.u32 (qCHg n)+qCHd<=qCH5/\∀(x_5:Nat),smT[Int.toNat (Zn7 n)]? =some x_5->qCHo<=wr IntKind.u32 (Zb7 n)/\wr IntKind.u32 (Zb7 n)+qCHd<=qCH5/\∀(x_6:Nat),smT[Int.toNat (Zn0 n)]? =some x_6->qCHo<=wr IntKind.u32 (qCH9 n)/\wr IntKind.u32 (qCH9 n)+qCHd<=qCH5/\∀(x_7:Nat),smT[Int.toNat (Zn8 n)]? =some x_7->qCHo<=wr IntKind.u32 (Zns n)/\wr IntKind.u32 (Zns n)+qCHd<=qCH5/\∀(x_8:Nat),smT[Int.toNat (wr IntKind.u32 (Zns n))]? =some x_8->qCHo<=wr IntKind.u32 (qCHx n)/\wr IntKind.u32 (qCHx n)+qCHd<=qCH5/\∀(x_9:Nat),smT[Int.toNat (wr IntKind.u32 (qCHx n))]? =some x_9->qCHo<=wr IntKind.u32 (Znt n)/\wr IntKind.u32 (Znt n)+qCHd<=qCH5/\∀(x_10:Nat),smT[Int.toNat (wr IntKind.u32 (Znt n))]? =some x_10->qCHo<=wr IntKind.u32 (qCHs n)/\wr IntKind.u32 (qCHs n)+qCHd<=qCH5/\∀(x_11:Nat),smT[Int.toNat (wr IntKind.u32 (qCHs n))]? =some x_11->(decide (Zu n)=true-> [Int.toNat X7%qCH8,Int.toNat (qCHr x_11)%qCH8,Int.toNat (qCHr x_10)%qCH8,Int.toNat (qCHr x_9)%qCH8,Int.toNat (qCHr x_8)%qCH8,Int.toNat (qCHr x_7)%qCH8,Int.toNat (qCHr x_6)%qCH8,Int.toNat (qCHr x_5)%qCH8,Int.toNat (qCHr x_4)%qCH8,Int.toNat (qCHr x_3)%qCH8,Int.toNat (qCHr x_2)%qCH8,Int.toNat (qCHr x_1)%qCH8,Int.toNat (qCHr x)%qCH8]=v)/\(decide (Zu n)=false-> [Int.toNat (qCHr x_11)%qCH8,Int.toNat (qCHr x_10)%qCH8,Int.toNat (qCHr x_9)%qCH8,Int.toNat (qCHr x_8)%qCH8,Int.toNat (qCHr x_7)%qCH8,Int.toNat (qCHr x_6)%qCH8,Int.toNat (qCHr x_5)%qCH8,Int.toNat (qCHr x_4)%qCH8,Int.toNat (qCHr x_3)%qCH8,Int.toNat (qCHr x_2)%qCH8,Int.toNat (qCHr x_1)%qCH8,Int.toNat (qCHr x)%qCH8]=v))/\((qCHz n)=(13:Int)->qCHo<=wr IntKind.u32 (Zb4 n)/\wr IntKind.u32 (Zb4 n)+qCHd<=qCH5/\∀(x:Nat),smT[Int.toNat (Znx n)]? =some x->qCHo<=wr IntKind.u32 (qCHk n)/\wr IntKind.u32 (qCHk n)+qCHd<=qCH5/\∀(x_1:Nat),smT[Int.toNat (Zn5 n)]? =some x_1->qCHo<=wr IntKind.u32 (Zb5 n)/\wr IntKind.u32 (Zb5 n)+
qCHd<=qCH5/\∀(x_2:Nat),smT[Int.toNat (Zny n)]? =some x_2->qCHo<=wr IntKind.u32 (qCHf n)/\wr IntKind.u32 (qCHf n)+qCHd<=qCH5/\∀(x_3:Nat),smT[Int.toNat (Zn6 n)]? =some x_3->qCHo<=wr IntKind.u32 (Zb6 n)/\wr IntKind.u32 (Zb6 n)+qCHd<=qCH5/\∀(x_4:Nat),smT[Int.toNat (Znz n)]? =some x_4->qCHo<=wr IntKind.u32 (qCHg n)/\wr IntKind.u32 (qCHg n)+qCHd<=qCH5/\∀(x_5:Nat),smT[Int.toNat (Zn7 n)]? =some x_5->qCHo<=wr IntKind.u32 (Zb7 n)/\wr IntKind.u32 (Zb7 n)+qCHd<=qCH5/\∀(x_6:Nat),smT[Int.toNat (Zn0 n)]? =some x_6->qCHo<=wr IntKind.u32 (qCH9 n)/\wr IntKind.u32 (qCH9 n)+qCHd<=qCH5/\∀(x_7:Nat),smT[Int.toNat (Zn8 n)]? =some x_7->qCHo<=wr IntKind.u32 (Zns n)/\wr IntKind.u32 (Zns n)+qCHd<=qCH5/\∀(x_8:Nat),smT[Int.toNat (wr IntKind.u32 (Zns n))]? =some x_8->qCHo<=wr IntKind.u32 (qCHx n)/\wr IntKind.u32 (qCHx n)+qCHd<=qCH5/\∀(x_9:Nat),smT[Int.toNat (wr IntKind.u32 (qCHx n))]? =some x_9->qCHo<=wr IntKind.u32 (Znt n)/\wr IntKind.u32 (Znt n)+qCHd<=qCH5/\∀(x_10:Nat),smT[Int.toNat (wr IntKind.u32 (Znt n))]? =some x_10->qCHo<=wr IntKind.u32 (qCHs n)/\wr IntKind.u32 (qCHs n)+qCHd<=qCH5/\∀(x_11:Nat),smT[Int.toNat (wr IntKind.u32 (qCHs n))]? =some x_11->(decide (Zu n)=true-> [Int.toNat X7%qCH8,Int.toNat (Z7f n)%qCH8,Int.toNat (qCHr x_11)%qCH8,Int.toNat (qCHr x_10)%qCH8,Int.toNat (qCHr x_9)%qCH8,Int.toNat (qCHr x_8)%qCH8,Int.toNat (qCHr x_7)%qCH8,Int.toNat (qCHr x_6)%qCH8,Int.toNat (qCHr x_5)%qCH8,Int.toNat (qCHr x_4)%qCH8,Int.toNat (qCHr x_3)%qCH8,Int.toNat (qCHr x_2)%qCH8,Int.toNat (qCHr x_1)%qCH8,Int.toNat (qCHr x)%qCH8]=v)/\(decide (Zu n)=false-> [Int.toNat (Z7f n)%qCH8,Int.toNat (qCHr x_11)%qCH8,Int.toNat (qCHr x_10)%qCH8,Int.toNat (qCHr x_9)%qCH8,Int.toNat (qCHr x_8)%qCH8,Int.toNat (qCHr x_7)%qCH8,Int.toNat (qCHr x_6)%qCH8,Int.toNat (qCHr x_5)%qCH8,Int.toNat (qCHr x_4)%qCH8,Int.toNat (qCHr x_3)%qCH8,Int.toNat (qCHr x_2)%qCH8,Int.toNat (qCHr x_1)%qCH8,Int.toNat (qCHr x)%qCH8]=v))/\True)/\(decide (Zu n)=false->(qCHd<=wr IntKind.u64 n/\wr IntKind.u64 n+qCHd<=(10000000000000:Int))/\((qCHv n)=qCHd->(decide (Zu n)=true-> [Int.toNat X7%qCH8,Int.toNat (Z7k n)%qCH8]=v)/\(decide (Zu n)=false-> [Int.toNat (Z7k n)%qCH8]=v))/\((qCHv n)=qCHc->qCHo<=wr IntKind.u32 (Zno n)/\wr IntKind.u32 (Zno n)+qCHd<=qCH5/\∀(x:Nat),smT[Int.toNat (wr IntKind.u32 (Zno n))]? =some x->qCHo<=wr IntKind.u32 (Zla n)/\wr IntKind.u32 (Zla n)+qCHd<=qCH5/\∀(x_1:Nat),smT[Int.toNat (wr IntKind.u32 (Zla n))]? =some x_1->(decide (Zu n)=true-> [Int.toNat X7%qCH8,Int.toNat (qCHr x_1)%qCH8,Int.toNat (qCHr x)%qCH8]=v)/\(decide (Zu n)=false-> [Int.toNat (qCHr x_1)%qCH8,Int.toNat (qCHr x)%qCH8]=v))/\((qCHv n)=(3:Int)->qCHo<=wr IntKind.u32 (Zno n)/\wr IntKind.u32 (Zno n)+qCHd<=qCH5/\∀(x:Nat),smT[Int.toNat (wr IntKind.u32 (Zno n))]? =some x->qCHo<=wr IntKind.u32 (Zla n)/\wr IntKind.u32 (Zla n)+qCHd<=qCH5/\∀(x_1:Nat),smT[Int.toNat (wr IntKind.u32 (Zla n))]? =some x_1->(decide (Zu n)=true-> [Int.toNat X7%qCH8,Int.toNat (Z7g n)%qCH8,Int.toNat (qCHr x_1)%qCH8,Int.toNat (qCHr x)%qCH8]=v)/\(decide (Zu n)=false-> [Int.toNat (Z7g n)%qCH8,Int.toNat (qCHr x_1)%qCH8,Int.toNat (qCHr x)%qCH8]=v))/\((qCHv n)=(4:Int)->qCHo<=wr IntKind.u32 (Zcx n)/\wr IntKind.u32 (Zcx n)+qCHd<=qCH5/\∀(x:Nat),smT[Int.toNat (wr IntKind.u32 (Zcx n))]? =some x->qCHo<=wr IntKind.u32 (qCHp n)/\wr IntKind.u32 (qCHp n)+qCHd<=qCH5/\∀(x_1:Nat),smT[Int.toNat (wr IntKind.u32 (qCHp n))]? =some x_1->qCHo<=wr IntKind.u32 (Zcy n)/\wr IntKind.u32 (Zcy n)+qCHd<=qCH5/\∀(x_2:Nat),smT[Int.toNat (wr IntKind.u32 (Zcy n))]? =some x_2->qCHo<=wr IntKind.u32 (qCHn n)
/\wr IntKind.u32 (qCHn n)+qCHd<=qCH5/\∀(x_3:Nat),smT[Int.toNat (wr IntKind.u32 (qCHn n))]? =some x_3->(Z7l n x_3 x_2 x_1 x v)/\(decide (Zu n)=false-> [Int.toNat (qCHr x_3)%qCH8,Int.toNat (qCHr x_2)%qCH8,Int.toNat (qCHr x_1)%qCH8,Int.toNat (qCHr x)%qCH8]=v))/\((qCHv n)=(5:Int)->qCHo<=wr IntKind.u32 (Zcx n)/\wr IntKind.u32 (Zcx n)+qCHd<=qCH5/\∀(x:Nat),smT[Int.toNat (wr IntKind.u32 (Zcx n))]? =some x->qCHo<=wr IntKind.u32 (qCHp n)/\wr IntKind.u32 (qCHp n)+qCHd<=qCH5/\∀(x_1:Nat),smT[Int.toNat (wr IntKind.u32 (qCHp n))]? =some x_1->qCHo<=wr IntKind.u32 (Zcy n)/\wr IntKind.u32 (Zcy n)+qCHd<=qCH5/\∀(x_2:Nat),smT[Int.toNat (wr IntKind.u32 (Zcy n))]? =some x_2->qCHo<=wr IntKind.u32 (qCHn n)/\wr IntKind.u32 (qCHn n)+qCHd<=qCH5/\∀(x_3:Nat),smT[Int.toNat (wr IntKind.u32 (qCHn n))]? =some x_3->(decide (Zu n)=true-> [Int.toNat X7%qCH8,Int.toNat (Z7h n)%qCH8,Int.toNat (qCHr x_3)%qCH8,Int.toNat (qCHr x_2)%qCH8,Int.toNat (qCHr x_1)%qCH8,Int.toNat (qCHr x)%qCH8]=v)/\(decide (Zu n)=false-> [Int.toNat (Z7h n)%qCH8,Int.toNat (qCHr x_3)%qCH8,Int.toNat (qCHr x_2)%qCH8,Int.toNat (qCHr x_1)%qCH8,Int.toNat (qCHr x)%qCH8]=v))/\((qCHv n)=(6:Int)->qCHo<=wr IntKind.u32 (Zcx n)/\wr IntKind.u32 (Zcx n)+qCHd<=qCH5/\∀(x:Nat),smT[Int.toNat (wr IntKind.u32 (Zcx n))]? =some x->qCHo<=wr IntKind.u32 (qCHp n)/\wr IntKind.u32 (qCHp n)+qCHd<=qCH5/\∀(x_1:Nat),smT[Int.toNat (wr IntKind.u32 (qCHp n))]? =some x_1->qCHo<=wr IntKind.u32 (Zcy n)/\wr IntKind.u32 (Zcy n)+qCHd<=qCH5/\∀(x_2:Nat),smT[Int.toNat (wr IntKind.u32 (Zcy n))]? =some x_2->qCHo<=wr IntKind.u32 (qCHn n)/\wr IntKind.u32 (qCHn n)+qCHd<=qCH5/\∀(x_3:Nat),smT[Int.toNat (wr IntKind.u32 (qCHn n))]? =some x_3->qCHo<=wr IntKind.u32 (Znu n)/\wr IntKind.u32 (Znu n)+qCHd<=qCH5/\∀(x_4:Nat),smT[Int.toNat (wr IntKind.u32 (Znu n))]? =some x_4->qCHo<=wr IntKind.u32 (qCHt n)/\wr IntKind.u32 (qCHt n)+qCHd<=qCH5/\∀(x_5:Nat),smT[Int.toNat (wr IntKind.u32 (qCHt n))]? =some x_5->(Z7b n x_5 x_4 x_3 x_2 x_1 x v)/\(Z7m n x_5 x_4 x_3 x_2 x_1 x v))/\((qCHv n)=(7:Int)->qCHo<=wr IntKind.u32 (Zcx n)/\wr IntKind.u32 (Zcx n)+qCHd<=qCH5/\∀(x:Nat),smT[Int.toNat (wr IntKind.u32 (Zcx n))]? =some x->qCHo<=wr IntKind.u32 (qCHp n)/\wr IntKind.u32 (qCHp n)+qCHd<=qCH5/\∀(x_1:Nat),smT[Int.toNat (wr IntKind.u32 (qCHp n))]? =some x_1->qCHo<=wr IntKind.u32 (Zcy n)/\wr IntKind.u32 (Zcy n)+qCHd<=qCH5/\∀(x_2:Nat),smT[Int.toNat (wr IntKind.u32 (Zcy n))]? =some x_2->qCHo<=wr IntKind.u32 (qCHn n)/\wr IntKind.u32 (qCHn n)+qCHd<=qCH5/\∀(x_3:Nat),smT[Int.toNat (wr IntKind.u32 (qCHn n))]? =some x_3->qCHo<=wr IntKind.u32 (Znu n)/\wr IntKind.u32 (Znu n)+qCHd<=qCH5/\∀(x_4:Nat),smT[Int.toNat (wr IntKind.u32 (Znu n))]? =some x_4->qCHo<=wr IntKind.u32 (qCHt n)/\wr IntKind.u32 (qCHt n)+qCHd<=qCH5/\∀(x_5:Nat),smT[Int.toNat (wr IntKind.u32 (qCHt n))]? =some x_5->(decide (Zu n)=true-> [Int.toNat X7%qCH8,Int.toNat (Z69 n)%qCH8,Int.toNat (qCHr x_5)%qCH8,Int.toNat (qCHr x_4)%qCH8,Int.toNat (qCHr x_3)%qCH8,Int.toNat (qCHr x_2)%qCH8,Int.toNat (qCHr x_1)%qCH8,Int.toNat (qCHr x)%qCH8]=v)/\(decide (Zu n)=false-> [Int.toNat (Z69 n)%qCH8,Int.toNat (qCHr x_5)%qCH8,Int.toNat (qCHr x_4)%qCH8,Int.toNat (qCHr x_3)%qCH8,Int.toNat (qCHr x_2)%qCH8,Int.toNat (qCHr x_1)%qCH8,Int.toNat (qCHr x)%qCH8]=v))/\((qCHv n)=(8:Int)->qCHo<=wr IntKind.u32 (Zb8 n)/\wr IntKind.u32 (Zb8 n)+qCHd<=qCH5/\∀(x:Nat),smT[Int.toNat (Zn1 n)]? =some x->qCHo<=wr IntKind.u32 (qCHl n)/\wr IntKind.u32 (qCHl n)+qCHd<=qCH5/\∀(x_1:Nat),smT[Int.toNat (Zn9 n)]? =some x_1->qCHo<=wr IntKind.u32 (Zb9 n)/\wr IntKind.u32 (Zb9 n)+qCHd<=qCH5/\∀(x_2:Nat),smT[Int.toNat (Zn2
n)]? =some x_2->qCHo<=wr IntKind.u32 (qCHh n)/\wr IntKind.u32 (qCHh n)+qCHd<=qCH5/\∀(x_3:Nat),smT[Int.toNat (Zoa n)]? =some x_3->qCHo<=wr IntKind.u32 (Zca n)/\wr IntKind.u32 (Zca n)+qCHd<=qCH5/\∀(x_4:Nat),smT[Int.toNat (Zn3 n)]? =some x_4->qCHo<=wr IntKind.u32 (qCHi n)/\wr IntKind.u32 (qCHi n)+qCHd<=qCH5/\∀(x_5:Nat),smT[Int.toNat (Zob n)]? =some x_5->qCHo<=wr IntKind.u32 (Zcb n)/\wr IntKind.u32 (Zcb n)+qCHd<=qCH5/\∀(x_6:Nat),smT[Int.toNat (Zn4 n)]? =some x_6->qCHo<=wr IntKind.u32 (qCHa n)/\wr IntKind.u32 (qCHa n)+qCHd<=qCH5/\∀(x_7:Nat),smT[Int.toNat (Zoc n)]? =some x_7->(decide (Zu n)=true-> [Int.toNat X7%qCH8,Int.toNat (qCHr x_7)%qCH8,Int.toNat (qCHr x_6)%qCH8,Int.toNat (qCHr x_5)%qCH8,Int.toNat (qCHr x_4)%qCH8,Int.toNat (qCHr x_3)%qCH8,Int.toNat (qCHr x_2)%qCH8,Int.toNat (qCHr x_1)%qCH8,Int.toNat (qCHr x)%qCH8]=v)/\(decide (Zu n)=false-> [Int.toNat (qCHr x_7)%qCH8,Int.toNat (qCHr x_6)%qCH8,Int.toNat (qCHr x_5)%qCH8,Int.toNat (qCHr x_4)%qCH8,Int.toNat (qCHr x_3)%qCH8,Int.toNat (qCHr x_2)%qCH8,Int.toNat (qCHr x_1)%qCH8,Int.toNat (qCHr x)%qCH8]=v))/\((qCHv n)=(9:Int)->qCHo<=wr IntKind.u32 (Zb8 n)/\wr IntKind.u32 (Zb8 n)+qCHd<=qCH5/\∀(x:Nat),smT[Int.toNat (Zn1 n)]? =some x->qCHo<=wr IntKind.u32 (qCHl n)/\wr IntKind.u32 (qCHl n)+qCHd<=qCH5/\∀(x_1:Nat),smT[Int.toNat (Zn9 n)]? =some x_1->qCHo<=wr IntKind.u32 (Zb9 n)/\wr IntKind.u32 (Zb9 n)+qCHd<=qCH5/\∀(x_2:Nat),smT[Int.toNat (Zn2 n)]? =some x_2->qCHo<=wr IntKind.u32 (qCHh n)/\wr IntKind.u32 (qCHh n)+qCHd<=qCH5/\∀(x_3:Nat),smT[Int.toNat (Zoa n)]? =some x_3->qCHo<=wr IntKind.u32 (Zca n)/\wr IntKind.u32 (Zca n)+qCHd<=qCH5/\∀(x_4:Nat),smT[Int.toNat (Zn3 n)]? =some x_4->qCHo<=wr IntKind.u32 (qCHi n)/\wr IntKind.u32 (qCHi n)+qCHd<=qCH5/\∀(x_5:Nat),smT[Int.toNat (Zob n)]? =some x_5->qCHo<=wr IntKind.u32 (Zcb n)/\wr IntKind.u32 (Zcb n)+qCHd<=qCH5/\∀(x_6:Nat),smT[Int.toNat (Zn4 n)]? =some x_6->qCHo<=wr IntKind.u32 (qCHa n)/\wr IntKind.u32 (qCHa n)+qCHd<=qCH5/\∀(x_7:Nat),smT[Int.toNat (Zoc n)]? =some x_7->(decide (Zu n)=true-> [Int.toNat X7%qCH8,Int.toNat (Z67 n)%qCH8,Int.toNat (qCHr x_7)%qCH8,Int.toNat (qCHr x_6)%qCH8,Int.toNat (qCHr x_5)%qCH8,Int.toNat (qCHr x_4)%qCH8,Int.toNat (qCHr x_3)%qCH8,Int.toNat (qCHr x_2)%qCH8,Int.toNat (qCHr x_1)%qCH8,Int.toNat (qCHr x)%qCH8]=v)/\(decide (Zu n)=false-> [Int.toNat (Z67 n)%qCH8,Int.toNat (qCHr x_7)%qCH8,Int.toNat (qCHr x_6)%qCH8,Int.toNat (qCHr x_5)%qCH8,Int.toNat (qCHr x_4)%qCH8,Int.toNat (qCHr x_3)%qCH8,Int.toNat (qCHr x_2)%qCH8,Int.toNat (qCHr x_1)%qCH8,Int.toNat (qCHr x)%qCH8]=v))/\((qCHv n)=(10:Int)->qCHo<=wr IntKind.u32 (Zb8 n)/\wr IntKind.u32 (Zb8 n)+qCHd<=qCH5/\∀(x:Nat),smT[Int.toNat (Zn1 n)]? =some x->qCHo<=wr IntKind.u32 (qCHl n)/\wr IntKind.u32 (qCHl n)+qCHd<=qCH5/\∀(x_1:Nat),smT[Int.toNat (Zn9 n)]? =some x_1->qCHo<=wr IntKind.u32 (Zb9 n)/\wr IntKind.u32 (Zb9 n)+qCHd<=qCH5/\∀(x_2:Nat),smT[Int.toNat (Zn2 n)]? =some x_2->qCHo<=wr IntKind.u32 (qCHh n)/\wr IntKind.u32 (qCHh n)+qCHd<=qCH5/\∀(x_3:Nat),smT[Int.toNat (Zoa n)]? =some x_3->qCHo<=wr IntKind.u32 (Zca n)/\wr IntKind.u32 (Zca n)+qCHd<=qCH5/\∀(x_4:Nat),smT[Int.toNat (Zn3 n)]? =some x_4->qCHo<=wr IntKind.u32 (qCHi n)/\wr IntKind.u32 (qCHi n)+qCHd<=qCH5/\∀(x_5:Nat),smT[Int.toNat (Zob n)]? =some x_5->qCHo<=wr IntKind.u32 (Zcb n)/\wr IntKind.u32 (Zcb n)+qCHd<=qCH5/\∀(x_6:Nat),smT[Int.toNat (Zn4 n)]? =some x_6->qCHo<=wr IntKind.u32 (qCHa n)/\wr IntKind.u32 (qCHa n)+qCHd<=qCH5/\∀(x_7:Nat),smT[Int.toNat (Zoc n)]? =some x_7->qCHo<=wr IntKind.u32 (Znp n)/\wr IntKind.u32 (Znp n)+qCHd<=qCH5/\∀(x_8:
Nat),smT[Int.toNat (wr IntKind.u32 (Znp n))]? =some x_8->qCHo<=wr IntKind.u32 (Zlb n)/\wr IntKind.u32 (Zlb n)+qCHd<=qCH5/\∀(x_9:Nat),smT[Int.toNat (wr IntKind.u32 (Zlb n))]? =some x_9->(decide (Zu n)=true-> [Int.toNat X7%qCH8,Int.toNat (qCHr x_9)%qCH8,Int.toNat (qCHr x_8)%qCH8,Int.toNat (qCHr x_7)%qCH8,Int.toNat (qCHr x_6)%qCH8,Int.toNat (qCHr x_5)%qCH8,Int.toNat (qCHr x_4)%qCH8,Int.toNat (qCHr x_3)%qCH8,Int.toNat (qCHr x_2)%qCH8,Int.toNat (qCHr x_1)%qCH8,Int.toNat (qCHr x)%qCH8]=v)/\(decide (Zu n)=false-> [Int.toNat (qCHr x_9)%qCH8,Int.toNat (qCHr x_8)%qCH8,Int.toNat (qCHr x_7)%qCH8,Int.toNat (qCHr x_6)%qCH8,Int.toNat (qCHr x_5)%qCH8,Int.toNat (qCHr x_4)%qCH8,Int.toNat (qCHr x_3)%qCH8,Int.toNat (qCHr x_2)%qCH8,Int.toNat (qCHr x_1)%qCH8,Int.toNat (qCHr x)%qCH8]=v))/\((qCHv n)=(11:Int)->qCHo<=wr IntKind.u32 (Zb8 n)/\wr IntKind.u32 (Zb8 n)+qCHd<=qCH5/\∀(x:Nat),smT[Int.toNat (Zn1 n)]? =some x->qCHo<=wr IntKind.u32 (qCHl n)/\wr IntKind.u32 (qCHl n)+qCHd<=qCH5/\∀(x_1:Nat),smT[Int.toNat (Zn9 n)]? =some x_1->qCHo<=wr IntKind.u32 (Zb9 n)/\wr IntKind.u32 (Zb9 n)+qCHd<=qCH5/\∀(x_2:Nat),smT[Int.toNat (Zn2 n)]? =some x_2->qCHo<=wr IntKind.u32 (qCHh n)/\wr IntKind.u32 (qCHh n)+qCHd<=qCH5/\∀(x_3:Nat),smT[Int.toNat (Zoa n)]? =some x_3->qCHo<=wr IntKind.u32 (Zca n)/\wr IntKind.u32 (Zca n)+qCHd<=qCH5/\∀(x_4:Nat),smT[Int.toNat (Zn3 n)]? =some x_4->qCHo<=wr IntKind.u32 (qCHi n)/\wr IntKind.u32 (qCHi n)+qCHd<=qCH5/\∀(x_5:Nat),smT[Int.toNat (Zob n)]? =some x_5->qCHo<=wr IntKind.u32 (Zcb n)/\wr IntKind.u32 (Zcb n)+qCHd<=qCH5/\∀(x_6:Nat),smT[Int.toNat (Zn4 n)]? =some x_6->qCHo<=wr IntKind.u32 (qCHa n)/\wr IntKind.u32 (qCHa n)+qCHd<=qCH5/\∀(x_7:Nat),smT[Int.toNat (Zoc n)]? =some x_7->qCHo<=wr IntKind.u32 (Znp n)/\wr IntKind.u32 (Znp n)+qCHd<=qCH5/\∀(x_8:Nat),smT[Int.toNat (wr IntKind.u32 (Znp n))]? =some x_8->qCHo<=wr IntKind.u32 (Zlb n)/\wr IntKind.u32 (Zlb n)+qCHd<=qCH5/\∀(x_9:Nat),smT[Int.toNat (wr IntKind.u32 (Zlb n))]? =some x_9->(decide (Zu n)=true-> [Int.toNat X7%qCH8,Int.toNat (Z7i n)%qCH8,Int.toNat (qCHr x_9)%qCH8,Int.toNat (qCHr x_8)%qCH8,Int.toNat (qCHr x_7)%qCH8,Int.toNat (qCHr x_6)%qCH8,Int.toNat (qCHr x_5)%qCH8,Int.toNat (qCHr x_4)%qCH8,Int.toNat (qCHr x_3)%qCH8,Int.toNat (qCHr x_2)%qCH8,Int.toNat (qCHr x_1)%qCH8,Int.toNat (qCHr x)%qCH8]=v)/\(decide (Zu n)=false-> [Int.toNat (Z7i n)%qCH8,Int.toNat (qCHr x_9)%qCH8,Int.toNat (qCHr x_8)%qCH8,Int.toNat (qCHr x_7)%qCH8,Int.toNat (qCHr x_6)%qCH8,Int.toNat (qCHr x_5)%qCH8,Int.toNat (qCHr x_4)%qCH8,Int.toNat (qCHr x_3)%qCH8,Int.toNat (qCHr x_2)%qCH8,Int.toNat (qCHr x_1)%qCH8,Int.toNat (qCHr x)%qCH8]=v))/\((qCHv n)=(12:Int)->qCHo<=wr IntKind.u32 (Zb8 n)/\wr IntKind.u32 (Zb8 n)+qCHd<=qCH5/\∀(x:Nat),smT[Int.toNat (Zn1 n)]? =some x->qCHo<=wr IntKind.u32 (qCHl n)/\wr IntKind.u32 (qCHl n)+qCHd<=qCH5/\∀(x_1:Nat),smT[Int.toNat (Zn9 n)]? =some x_1->qCHo<=wr IntKind.u32 (Zb9 n)/\wr IntKind.u32 (Zb9 n)+qCHd<=qCH5/\∀(x_2:Nat),smT[Int.toNat (Zn2 n)]? =some x_2->qCHo<=wr IntKind.u32 (qCHh n)/\wr IntKind.u32 (qCHh n)+qCHd<=qCH5/\∀(x_3:Nat),smT[Int.toNat (Zoa n)]? =some x_3->qCHo<=wr IntKind.u32 (Zca n)/\wr IntKind.u32 (Zca n)+qCHd<=qCH5/\∀(x_4:Nat),smT[Int.toNat (Zn3 n)]? =some x_4->qCHo<=wr IntKind.u32 (qCHi n)/\wr IntKind.u32 (qCHi n)+qCHd<=qCH5/\∀(x_5:Nat),smT[Int.toNat (Zob n)]? =some x_5->qCHo<=wr IntKind.u32 (Zcb n)/\wr IntKind.u32 (Zcb n)+qCHd<=qCH5/\∀(x_6:Nat),smT[Int.toNat (Zn4 n)]? =some x_6->qCHo<=wr IntKind.u32 (qCHa n)/\wr IntKind.u32 (qCHa n)+qCHd<=qCH5/\∀(x_7:Nat),smT[Int.toNat (Zoc n)]? =some x_7->qCHo<=wr
IntKind.u32 (Znv n)/\wr IntKind.u32 (Znv n)+qCHd<=qCH5/\∀(x_8:Nat),smT[Int.toNat (wr IntKind.u32 (Znv n))]? =some x_8->qCHo<=wr IntKind.u32 (qCHy n)/\wr IntKind.u32 (qCHy n)+qCHd<=qCH5/\∀(x_9:Nat),smT[Int.toNat (wr IntKind.u32 (qCHy n))]? =some x_9->qCHo<=wr IntKind.u32 (Znw n)/\wr IntKind.u32 (Znw n)+qCHd<=qCH5/\∀(x_10:Nat),smT[Int.toNat (wr IntKind.u32 (Znw n))]? =some x_10->qCHo<=wr IntKind.u32 (qCHu n)/\wr IntKind.u32 (qCHu n)+qCHd<=qCH5/\∀(x_11:Nat),smT[Int.toNat (wr IntKind.u32 (qCHu n))]? =some x_11->(decide (Zu n)=true-> [Int.toNat X7%qCH8,Int.toNat (qCHr x_11)%qCH8,Int.toNat (qCHr x_10)%qCH8,Int.toNat (qCHr x_9)%qCH8,Int.toNat (qCHr x_8)%qCH8,Int.toNat (qCHr x_7)%qCH8,Int.toNat (qCHr x_6)%qCH8,Int.toNat (qCHr x_5)%qCH8,Int.toNat (qCHr x_4)%qCH8,Int.toNat (qCHr x_3)%qCH8,Int.toNat (qCHr x_2)%qCH8,Int.toNat (qCHr x_1)%qCH8,Int.toNat (qCHr x)%qCH8]=v)/\(decide (Zu n)=false-> [Int.toNat (qCHr x_11)%qCH8,Int.toNat (qCHr x_10)%qCH8,Int.toNat (qCHr x_9)%qCH8,Int.toNat (qCHr x_8)%qCH8,Int.toNat (qCHr x_7)%qCH8,Int.toNat (qCHr x_6)%qCH8,Int.toNat (qCHr x_5)%qCH8,Int.toNat (qCHr x_4)%qCH8,Int.toNat (qCHr x_3)%qCH8,Int.toNat (qCHr x_2)%qCH8,Int.toNat (qCHr x_1)%qCH8,Int.toNat (qCHr x)%qCH8]=v))/\((qCHv n)=(13:Int)->qCHo<=wr IntKind.u32 (Zb8 n)/\wr IntKind.u32 (Zb8 n)+qCHd<=qCH5/\∀(x:Nat),smT[Int.toNat (Zn1 n)]? =some x->qCHo<=wr IntKind.u32 (qCHl n)/\wr IntKind.u32 (qCHl n)+qCHd<=qCH5/\∀(x_1:Nat),smT[Int.toNat (Zn9 n)]? =some x_1->qCHo<=wr IntKind.u32 (Zb9 n)/\wr IntKind.u32 (Zb9 n)+qCHd<=qCH5/\∀(x_2:Nat),smT[Int.toNat (Zn2 n)]? =some x_2->qCHo<=wr IntKind.u32 (qCHh n)/\wr IntKind.u32 (qCHh n)+qCHd<=qCH5/\∀(x_3:Nat),smT[Int.toNat (Zoa n)]? =some x_3->qCHo<=wr IntKind.u32 (Zca n)/\wr IntKind.u32 (Zca n)+qCHd<=qCH5/\∀(x_4:Nat),smT[Int.toNat (Zn3 n)]? =some x_4->qCHo<=wr IntKind.u32 (qCHi n)/\wr IntKind.u32 (qCHi n)+qCHd<=qCH5/\∀(x_5:Nat),smT[Int.toNat (Zob n)]? =some x_5->qCHo<=wr IntKind.u32 (Zcb n)/\wr IntKind.u32 (Zcb n)+qCHd<=qCH5/\∀(x_6:Nat),smT[Int.toNat (Zn4 n)]? =some x_6->qCHo<=wr IntKind.u32 (qCHa n)/\wr IntKind.u32 (qCHa n)+qCHd<=qCH5/\∀(x_7:Nat),smT[Int.toNat (Zoc n)]? =some x_7->qCHo<=wr IntKind.u32 (Znv n)/\wr IntKind.u32 (Znv n)+qCHd<=qCH5/\∀(x_8:Nat),smT[Int.toNat (wr IntKind.u32 (Znv n))]? =some x_8->qCHo<=wr IntKind.u32 (qCHy n)/\wr IntKind.u32 (qCHy n)+qCHd<=qCH5/\∀(x_9:Nat),smT[Int.toNat (wr IntKind.u32 (qCHy n))]? =some x_9->qCHo<=wr IntKind.u32 (Znw n)/\wr IntKind.u32 (Znw n)+qCHd<=qCH5/\∀(x_10:Nat),smT[Int.toNat (wr IntKind.u32 (Znw n))]? =some x_10->qCHo<=wr IntKind.u32 (qCHu n)/\wr IntKind.u32 (qCHu n)+qCHd<=qCH5/\∀(x_11:Nat),smT[Int.toNat (wr IntKind.u32 (qCHu n))]? =some x_11->(decide (Zu n)=true-> [Int.toNat X7%qCH8,Int.toNat (Z7j n)%qCH8,Int.toNat (qCHr x_11)%qCH8,Int.toNat (qCHr x_10)%qCH8,Int.toNat (qCHr x_9)%qCH8,Int.toNat (qCHr x_8)%qCH8,Int.toNat (qCHr x_7)%qCH8,Int.toNat (qCHr x_6)%qCH8,Int.toNat (qCHr x_5)%qCH8,Int.toNat (qCHr x_4)%qCH8,Int.toNat (qCHr x_3)%qCH8,Int.toNat (qCHr x_2)%qCH8,Int.toNat (qCHr x_1)%qCH8,Int.toNat (qCHr x)%qCH8]=v)/\(decide (Zu n)=false-> [Int.toNat (Z7j n)%qCH8,Int.toNat (qCHr x_11)%qCH8,Int.toNat (qCHr x_10)%qCH8,Int.toNat (qCHr x_9)%qCH8,Int.toNat (qCHr x_8)%qCH8,Int.toNat (qCHr x_7)%qCH8,Int.toNat (qCHr x_6)%qCH8,Int.toNat (qCHr x_5)%qCH8,Int.toNat (qCHr x_4)%qCH8,Int.toNat (qCHr x_3)%qCH8,Int.toNat (qCHr x_2)%qCH8,Int.toNat (qCHr x_1)%qCH8,Int.toNat (qCHr x)%qCH8]=v))/\True))):=by kernel_rfl
end
section
open Go
theorem Yar:∀(k u:Nat),u<10^(k+1)->Lib.nDigits u<=k+1
 |0,u,h=>by rw [Lib.nDigits_small (by simpa using h)];exact Nat.le_refl _
 |k+1,u,h=>by
  by_cases h1:u<10
  · rw [Lib.nDigits_small h1];omega
  · rw [Lib.nDigits_big h1]
    rw [Nat.pow_succ] at h
    have:=Yar k (u/10) (by omega)
    omega
theorem Zxh {u:Int} {k:Res thy->Prop}:∀{l:List Int},ndK u k l->∀j∈l,(Lib.nDigits u.toNat:Int)=j->k (quiet [] (.int true .i64 j))
 | [],_,j,hj,_=>by cases hj
 |x::r,h,j,hj,e=>by
  rcases List.mem_cons.1 hj with rfl|hj
  · exact h.1 e
  · exact Zxh h.2 j hj e
theorem in13 (d:Nat) (h1:1<=d) (h2:d<=13):(d:Int)∈ [(1:Int),2,3,4,5,6,7,8,9,10,11,12,13]:=by
 have:d=1\/d=2\/d=3\/d=4\/d=5\/d=6\/d=7\/d=8\/d=9\/d=10\/d=11\/d=12\/d=13:=by omega
 rcases this with rfl|rfl|rfl|rfl|rfl|rfl|rfl|rfl|rfl|rfl|rfl|rfl|rfl<;>decide
theorem Yas:SumOk E 115 Snd:=by
 have hS:SumOk E 115 (V8 (dA1 dU64) (fun x=>1<=x.1/\x.1<10000000000000) (fun x=>Lib.nDigits x.1.toNat) fun (y:Nat)=> .int true .i64 y):=Z5 E_ok (Zd rfl) fun x h=>by
  have:=Z66 x.1.toNat (by omega) (by omega)
  rw [show ((x.1.toNat:Nat):Int)=x.1 by omega] at this
  intro g w vals hI hd
  refine (this g w vals hI hd).mono ?_
  rintro en w' ⟨u,he,g',h1,h2,h3⟩
  cases h3
  exact ⟨_,he,g',h1,h2,.int _ _ _⟩
 refine ⟨hS.good,fun args h i k hD hk=> ?_⟩
 unfold Snd at hk
 split at hk
 case h_2=>exact hk.elim
 rename_i l u
 obtain ⟨⟨h1,h2⟩,hk⟩:=hk
 refine hS.ok _ h i k hD ⟨⟨h1,h2⟩,fun y hy=> ?_⟩
 subst hy
 have hn:=Yar 12 u.toNat (by show u.toNat<10000000000000;omega)
 have hp:=Lib.nDigits_pos u.toNat
 refine Zxh hk _ (in13 _ hp hn) rfl
theorem Zxi:SumOk E 114 Z4n:=Z5 E_ok (Zd rfl) fun x h=>by
 have:=Zs1 x.1.toNat (by omega)
 rw [show ((x.1.toNat:Nat):Int)=x.1 by omega] at this
 have e:Lib.itoa x.1=Lib.decDigits x.1.toNat:=by unfold Lib.itoa;rw [if_neg (by omega)]
 rw [e]
 exact this
theorem Yat:FnsOk E Fit:=Zb (Zb F0_ok Yas) Zxi
def smV (i:Nat):Nat:=if i%2=0 then 48+i/2/10 else 48+i/2%10
theorem Z62:∀i,i<200->smT[i]? =some (smV i):=by decide+kernel
theorem Z63:smT.length=200:=by decide+kernel
theorem Yau {e:Int} {P:Nat->Prop} (h0:0<=e) (h1:e<200) (h:P (smV e.toNat)):(0:Int)<=e/\e+(1:Int)<=(↑(List.length smT):Int)/\∀(x:Nat),smT[Int.toNat e]? =some x->P x:=by
 refine ⟨h0,by rw [Z63];omega,fun x hx=> ?_⟩
 rw [Z62 _ (by omega)] at hx
 cases hx
 exact h
theorem smE {x:Int} (h0:0<=x) (h1:x<100):smV (x*2).toNat%(256:Nat)=48+x.toNat/10:=by
 have:smV (x*2).toNat=48+x.toNat/10:=by
  unfold smV
  rw [if_pos (by omega)]
  congr 2
  omega
 rw [this]
 omega
theorem smO {x:Int} (h0:0<=x) (h1:x<100):smV (x*2+1).toNat%(256:Nat)=48+x.toNat%10:=by
 have:smV (x*2+1).toNat=48+x.toNat%10:=by
  unfold smV
  rw [if_neg (by omega)]
  congr 2
  omega
 rw [this]
 omega
theorem wu64 (x:Int):wr .u64 x=x%18446744073709551616:=rfl
theorem wu32 (x:Int):wr .u32 x=x%4294967296:=rfl
theorem wu8 (x:Int):wr .u8 x=x%256:=rfl
def dgN (u j:Nat):Nat:=48+u/10^j%10
theorem Z1x (u k:Nat) (h:Lib.nDigits u=k):(Lib.decDigits u).map UInt8.toNat=(List.range k).map fun t=>dgN u (k-1-t):=by
 rw [Lib.decDigits_eq,List.map_map,h]
 refine List.map_congr_left fun t _=> ?_
 show (Lib.dg u (k-1-t)).toNat=_
 unfold Lib.dg dgN
 rw [UInt8.toNat_ofNat']
 omega
set_option maxHeartbeats 4000000 in
theorem Zxj (u:Nat) (hu:u<10000000000000):PureC E 14 [.int false .i64 (u:Int)] (.str false (decN u)):=by
 refine Za E_ok (Zi E_ok Yat 2000) ?_
 rw [Zxm]; delta qCHo qCH6 qCHd Zu qCHz X7 qCH8 Zai qCH3 qCHc Znq qCH5 qCHw qCHr Z7c Zcv qCHm Zcw qCHj Z7l Z7d Znr qCHq Z7b Z7m Z68 Zb4 Znx qCHk Zn5 Zb5 Zny qCHf Zn6 Zb6 Znz qCHg Zn7 Zb7 Zn0 qCH9 Zn8 Z7a Znn Zk9 Z7e Zns qCHx Znt qCHs Z7f qCHv Z7k Zno Zla Z7g Zcx qCHp Zcy qCHn Z7h Znu qCHt Z69 Zb8 Zn1 qCHl Zn9 Zb9 Zn2 qCHh Zoa Zca Zn3 qCHi Zob Zcb Zn4 qCHa Zoc Z67 Znp Zlb Z7i Znv qCHy Znw qCHu Z7j qCH7 qCH4 Znm qCH2 qCHe qCHb qCH1 Zk8
 have hdec:decN (u:Int)=(Lib.decDigits u).map UInt8.toNat:=by
  unfold decN Lib.itoa
  rw [if_neg (by omega)]
  rfl
 by_cases hs:u<100
 · refine ⟨fun b=>b=true,⟨fun _=>⟨fun _=>rfl,fun h=> ?_⟩,fun h=> ?_⟩,fun _=>⟨⟨by omega,by omega⟩,fun y hy=>hy⟩,fun h=>by cases h⟩
   · exact absurd h (by simp;omega)
   · exact absurd h (by simp)
 refine ⟨fun b=>b=false,⟨fun _=>⟨fun h=> ?_,fun _=>rfl⟩,fun _=>rfl⟩,fun h=>(by cases h),fun _=>⟨fun h=> ?_,fun _=> ?_⟩⟩
 · exact absurd h (by simp;omega)
 · exact absurd h (by simp)
 have e64:wr .u64 (u:Int)=u:=by rw [wu64];omega
 have hneg:decide ((u:Int)<0)=false:=by simp
 simp only [e64,hneg,Bool.false_eq_true,false_implies,true_implies,true_and,Int.toNat_natCast,and_true]
 rw [hdec]
 have hp:=Lib.lt_pow_nDigits u
 refine ⟨⟨by omega,by omega⟩,?_⟩
 repeat' apply And.intro
 all_goals
  intro hnd
  have hnd:=Int.ofNat.inj hnd
  rw [Z1x u _ hnd]
  rw [hnd] at hp
  simp only [Nat.reducePow] at hp
  clear hnd hdec e64 hneg
  simp (disch:=omega) only [wu64,wu32,wu8,Int.tmod_eq_emod_of_nonneg,Int.tdiv_eq_ediv_of_nonneg]
  simp (disch:=omega) only [Int.emod_eq_of_lt]
  repeat' (first|(refine Yau ?_ ?_ ?_)|omega)
  all_goals try simp only [List.range,List.range.loop,List.map_cons,List.map_nil,dgN,List.cons.injEq,and_true,Nat.reduceSub,Nat.reducePow]
  all_goals (repeat' apply And.intro)
  all_goals try simp (disch:=omega) only [smE,smO]
  all_goals first|trivial|omega
end
section
open Go.RowKit
section
variable {Y : Thy} {E : Eng Y}
def celS (E:Eng Y) (th:Y.Th) (st:Option (List (Y.dom th)×Nat)) (c:Nat):SV Y:=
 match st with
 |some p=> .sl c 0 p.1.length (E.w th) none
 |none=> .val (.slice none 0 0)
def hpP (E:Eng Y) (th:Y.Th) (st:Option (List (Y.dom th)×Nat)):Hp Y:=fun b=>
 match Nat.beq b 0 with
 |true=>some (.raw [celS E th st 1] 0 none)
 |false=>(match Nat.beq b 1 with
  |true=>(match st with|some p=>some (.rows th p.1 p.2)|none=>none)
  |false=>none)
def fzO {α:Type} (st:Option (α×Nat)):Nat:=match st with|some p=>p.2|none=>0
def mdO {α:Type} (st:Option (α×Nat)) (b c:Nat):List Nat:=match st with|some _=> [b,c]|none=> [b]
def prnR (E:Eng Y) (th:Y.Th) (st:Option (List (Y.dom th)×Nat)) (b c i:Nat) (l':List (Y.dom th)):Res Y:=
 ⟨.tup [],1,mdO st b c,fun x=>match Nat.beq x b with|true=>some (.raw [.sl i 0 l'.length (E.w th) none] 0 none)|false=>at1 i (some (.rows th l' (fzO st))) x,none⟩
def PrnC (E:Eng Y) (f:Nat) (th:Y.Th) (args:List (SV Y)) (st:Option (List (Y.dom th)×Nat)) (l':List (Y.dom th)):Prop:=
 ∀(b c:Nat) (h:Hp Y) (i:Nat) (tg:Option Y.Th),h b=some (.raw [celS E th st c] 0 tg)->(∀p,st=some p->h c=some (.rows th p.1 p.2)/\b≠c)->W8 E f (.ptr b 0::args) h i (prnR E th st b c i l')
def prnK (E:Eng Y) (th:Y.Th) (st:Option (List (Y.dom th)×Nat)) (l':List (Y.dom th)) (r:Res Y):Prop:=
 match r.v,patch (hpP E th st) 2 r 0 with
 | .tup [],some (.raw [.sl c 0 n w none] 0 _)=>
  (match Nat.ble 1 c&&Nat.beq w (E.w th),patch (hpP E th st) 2 r c with
  |true,some (.rows th' L fz')=>Zat L fun L=>L=l'/\n=l'.length/\fz'=fzO st
  |_,_=>False)
 |_,_=>False
theorem Yc4 (th:Y.Th) (st:Option (List (Y.dom th)×Nat)):hpP E th st 0=some (.raw [celS E th st 1] 0 none):=rfl
theorem Ut {th:Y.Th} {st:Option (List (Y.dom th)×Nat)} {x:Nat} {y:Blk Y} (h:hpP E th st x=some y):(x=0/\y= .raw [celS E th st 1] 0 none)\/(x=1/\∃p,st=some p/\y= .rows th p.1 p.2):=by
 match x,h with
 |0,h=>rw [Yc4] at h;cases h;exact .inl ⟨rfl,rfl⟩
 |1,h=>
  cases st with
  |none=>cases h
  |some p=>
   have h:some (Blk.rows th p.1 p.2:Blk Y)=some y:=h
   cases h
   exact .inr ⟨rfl,p,rfl,rfl⟩
 |x+2,h=>cases h
theorem Z8e (th:Y.Th) (st:Option (List (Y.dom th)×Nat)):DomLt (hpP E th st) 2:=fun b hb=>by
 obtain ⟨y,hy⟩:=Option.ne_none_iff_exists'.1 hb
 rcases Ut hy with ⟨rfl,_⟩|⟨rfl,_⟩<;>omega
def σP {α:Type} (st:Option α) (σ:Pl) (b c:Nat):Pl:=fun x=>
 match Nat.beq x 0 with
 |true=>σ b
 |false=>(match Nat.beq x 1 with
  |true=>(match st with|some _=>σ c|none=>none)
  |false=>none)
theorem σP_cases {α:Type} {st:Option α} {σ:Pl} {b c x:Nat} {q:Nat×Nat} (h:σP st σ b c x=some q):(x=0/\σ b=some q)\/(x=1/\(∃p,st=some p)/\σ c=some q):=by
 match x,h with
 |0,h=>exact .inl ⟨rfl,h⟩
 |1,h=>
  cases st with
  |none=>cases h
  |some p=>exact .inr ⟨rfl,⟨p,rfl⟩,h⟩
 |x+2,h=>cases h
theorem mdO_mem {α:Type} {st:Option (α×Nat)} {b c x:Nat}:x∈mdO st b c↔x=b\/(x=c/\∃p,st=some p):=by
 cases st with
 |none=>simp [mdO]
 |some p=>simp [mdO]
open Classical in
theorem Zdg (hE:EngOk E) {call:Nat->List (SV Y)->Hp Y->Nat->(Res Y->Prop)->Prop} (hcall:Y7 E call) {f:Nat} {th:Y.Th} {args:List (SV Y)} {st:Option (List (Y.dom th)×Nat)} {l':List (Y.dom th)} (ha:nidL 0 args=true)
 (hk:call f (.ptr 0 0::args) (hpP E th st) 2 (prnK E th st l')):PrnC E f th args st l':=by
 intro b c h i tg hb hc
 obtain ⟨r,hr,hR,htri⟩:=hcall f _ _ _ _ (Z8e th st) hk
 have hmods:∀x∈r.mods,x=0\/(x=1/\∃p,st=some p):=by
  intro x hx
  obtain ⟨y,hy⟩:=Option.ne_none_iff_exists'.1 (hR x hx)
  rcases Ut hy with ⟨h1,_⟩|⟨h1,p,h2,_⟩
  · exact .inl h1
  · exact .inr ⟨h1,p,h2⟩
 unfold prnK at hr
 split at hr
 case h_2=>exact hr.elim
 rename_i c' n' w' tg' hv hp0
 split at hr
 case h_2=>exact hr.elim
 rename_i th' L fz' hc1 hpc
 obtain ⟨e,hr⟩:=Xj hr
 subst e
 obtain ⟨rfl,rfl,rfl⟩:l'=L/\n'=l'.length/\fz'=fzO st:=⟨hr.1.symm,hr.2⟩
 rw [Bool.and_eq_true,Nat.ble_eq] at hc1
 obtain ⟨hc1,hw⟩:=hc1
 have hw:=Nat.eq_of_beq_eq_true hw
 subst hw
 replace htri:W8 E f (.ptr 0 0::args) (hpP E th' st) 2 r:=htri.resolve_right (by rintro ⟨p,hp,_⟩;rw [hv] at hp;cases hp)
 intro B σ g W vals hh hrd hI hB hfree hd
 obtain rfl:hh=h:=funext fun b=>hrd b trivial
 obtain ⟨rb,zb,hσb,hbo⟩:=hI.blk b _ hb
 have hbn:hh b≠none:=by rw [hb];simp
 have F0:σP st σ b c 0=σ b:=rfl
 have F1:∀p,st=some p->σP st σ b c 1=σ c:=by rintro p rfl;rfl
 have bc:∀p,st=some p->b≠c:=fun p hp=>(hc p hp).2
 have cn:∀p,st=some p->hh c≠none:=fun p hp=>by rw [(hc p hp).1];simp
 have reg:∀p q z z',st=some p->σ b=some (q,z)->σ c=some (q,z')->False:=fun p q z z' hp h1 h2=>bc p hp (hI.inj b c q z z' hbn (cn p hp) h1 h2)
 have hI1:Inv E B (σP st σ b c) (hpP E th' st) g W:=by
  refine ⟨hI.gc,hI.gm,fun x y hx=> ?_,fun x x' r z z' h1 h2 h3 h4=> ?_,fun x r' z' hs=> ?_,fun x y r' z' o v hx hs hv=> ?_,fun x y r' z' hx hs=> ?_,hI.glob⟩
  · rcases Ut hx with ⟨rfl,rfl⟩|⟨rfl,p,hp,rfl⟩
    · refine ⟨rb,zb,hσb,?_⟩
      obtain ⟨arr,e,k1,k2,k3,k4,k5⟩:=hbo
      refine ⟨arr,e,k1,k2,k3,fun j sv hj=> ?_,trivial⟩
      cases j with
      |succ j=>cases hj
      |zero=>
       have hj:some (celS E th' st 1)=some sv:=hj
       cases hj
       obtain ⟨v,m1,m2⟩:=k4 0 _ (show ([celS E th' st c]:List (SV Y))[0]? =some _ from rfl)
       refine ⟨v,m1,?_⟩
       cases st with
       |none=>exact Zt hE m2 (fun b p hb=>by omega) (show nid 0 (celS E th' none 1)=true from rfl)
       |some p=>
        obtain ⟨r1,z1,c1,rfl,k1,k2,k3,k4,k5⟩:=Zan (show Den E σ g (.sl c 0 p.1.length (E.w th') none) v from m2)
        exact .sl (E:=E) (b:=1) k1 k2 k3 k4 k5
    · obtain ⟨r1,z1,k1,arr,e,k2,k3,k4,k5,k6⟩:=hI.blk c _ (hc p hp).1
      refine ⟨r1,z1,(F1 p hp).trans k1,arr,e,k2,k3,k4,fun j sv hj=> ?_,k6⟩
      obtain ⟨v,m1,m2⟩:=k5 j sv hj
      have hn:nid 0 sv=true:=by
       obtain ⟨q,p,x,rfl,hp,hq,hs⟩:=Xm hE th' _ hj
       exact Zm (hE.encI _ _ _) hs
      exact ⟨v,m1,Zt hE m2 (fun b p hb=>by omega) hn⟩
  · rcases σP_cases h3 with ⟨rfl,h3⟩|⟨rfl,⟨p,hp⟩,h3⟩<;>rcases σP_cases h4 with ⟨rfl,h4⟩|⟨rfl,⟨p',hp'⟩,h4⟩
    · rfl
    · exact (reg p' _ _ _ hp' h3 h4).elim
    · exact (reg p _ _ _ hp h4 h3).elim
    · rfl
  · rcases σP_cases hs with ⟨rfl,hs⟩|⟨rfl,_,hs⟩
    · exact hI.base b _ _ hs
    · exact hI.base c _ _ hs
  · rcases Ut hx with ⟨rfl,rfl⟩|⟨rfl,p,hp,rfl⟩
    · have h2:o<0:=hI.fz b _ _ _ o v hb hs hv
      omega
    · rw [F1 p hp] at hs
      exact hI.fz c _ _ _ o v (hc p hp).1 hs hv
  · rcases Ut hx with ⟨rfl,rfl⟩|⟨rfl,p,hp,rfl⟩
    · exact hI.fm b _ _ _ hb hs
    · rw [F1 p hp] at hs
      exact hI.fm c _ _ _ (hc p hp).1 hs
 have hd1:DenL E (σP st σ b c) g (.ptr 0 0::args) vals.toList:=by
  refine ⟨by rw [<-hd.1];rfl,fun j sv u h1 h2=> ?_⟩
  cases j with
  |zero=>
   simp at h1;subst h1
   have:=hd.2 0 _ u rfl h2
   cases this
   rename_i hs
   exact .ptr (E:=E) (b:=0) hs
  |succ j=>
   have h1:args[j]? =some sv:=by simpa using h1
   exact Zt hE (hd.2 (j+1) sv u (by simpa using h1) h2) (fun b p hb=>by omega) (Zm ha h1)
 refine (htri B _ g W vals _ (fun _ _=>rfl) hI1 hB (fun x h1 h2=>by match x,h1 with|x+2,_=>rfl) hd1).mono ?_
 rintro en w' ⟨u,he,σ',g',hS,hI',hv'⟩
 have hs0:σ' 0=some (rb,zb):=hS.sig 0 _ hσb
 obtain ⟨r1,z1,k1⟩:∃r1 z1,σ' c'=some (r1,z1):=by
  obtain ⟨r1,z1,m1,_⟩:=hI'.blk c' _ hpc
  exact ⟨r1,z1,m1⟩
 have hc0:c'≠0:=by omega
 have hne0:patch (hpP E th' st) 2 r 0≠none:=by rw [hp0];simp
 have hnec:patch (hpP E th' st) 2 r c'≠none:=by rw [hpc];simp
 have hrb:r1≠rb:=by
  rintro rfl
  exact hc0 (hI'.inj c' 0 _ _ _ hnec hne0 k1 hs0)
 have hr1:W.heap.size<=r1\/∃z' p,st=some p/\σ c=some (r1,z'):=by
  cases hs1:σP st σ b c c' with
  |some q=>
   have:=hS.sig c' _ hs1
   rw [k1] at this;cases this
   rcases σP_cases hs1 with ⟨h0,_⟩|⟨_,⟨p,hp⟩,h2⟩
   · exact absurd h0 hc0
   · exact .inr ⟨z1,p,hp,h2⟩
  |none=>
   rcases hS.blk c' r1 z1 hs1 k1 with h1|⟨b',h1,z',h2⟩
   · exact .inl h1
   · rcases σP_cases h2 with ⟨rfl,h3⟩|⟨_,⟨p,hp⟩,h3⟩
     · rw [hσb] at h3;cases h3;exact absurd rfl hrb
     · exact .inr ⟨z',p,hp,h3⟩
 have hheap:∀q,q<W.heap.size->q≠rb->(∀p z,st=some p->σ c≠some (q,z))->w'.heap[q]? =W.heap[q]? :=by
  intro q hq hne hne2
  refine hS.heap q hq fun b' hb' z' hz'=> ?_
  rcases σP_cases hz' with ⟨rfl,h2⟩|⟨_,⟨p,hp⟩,h2⟩
  · rw [hσb] at h2;cases h2;exact hne rfl
  · exact hne2 p z' hp h2
 have hi:σ i=none:=hfree i (Nat.le_refl _) (by show i<i+1;omega)
 have hbi:b≠i:=by rintro rfl;rw [hσb] at hi;cases hi
 have hci:∀p,st=some p->c≠i:=by
  rintro p hp rfl
  obtain ⟨r2,z2,m1,_⟩:=hI.blk c _ (hc p hp).1
  rw [hi] at m1;cases m1
 have hpatch:∀x,patch hh i (prnR E th' st b c i l') x=if x=b then some (.raw [.sl i 0 l'.length (E.w th') none] 0 none) else if x=i then some (.rows th' l' (fzO st)) else if x=c/\(∃p,st=some p) then none else hh x:=by
  intro x
  rw [Zf]
  by_cases e1:x=b
  · subst e1
    rw [if_pos (.inl (mdO_mem.2 (.inl rfl))),if_pos rfl]
    show (match Nat.beq x x with|true=>_|false=>_)=_
    rw [Nat.beq_refl]
  · rw [if_neg e1]
    have hb1:Nat.beq x b=false:=by
     cases e:Nat.beq x b with
     |true=>exact absurd (Nat.eq_of_beq_eq_true e) e1
     |false=>rfl
    have hh1:(prnR E th' st b c i l').h x=at1 i (some (.rows th' l' (fzO st))) x:=by
     show (match Nat.beq x b with|true=>_|false=>_)=_
     rw [hb1]
    by_cases e2:x=i
    · subst e2
      rw [if_pos (.inr ⟨Nat.le_refl _,(by show x<x+1;omega)⟩),if_pos rfl,hh1]
      unfold at1
      rw [Nat.beq_refl]
    · rw [if_neg e2]
      have hat:at1 i (some (.rows th' l' (fzO st):Blk Y)) x=none:=by
       unfold at1
       cases e:Nat.beq x i with
       |true=>exact absurd (Nat.eq_of_beq_eq_true e) e2
       |false=>rfl
      by_cases e3:x=c/\∃p,st=some p
      · rw [if_pos e3,if_pos (.inl (mdO_mem.2 (.inr e3))),hh1,hat]
      · rw [if_neg e3,if_neg]
        rintro (k|k)
        · rcases mdO_mem.1 k with k|k
          · exact e1 k
          · exact e3 k
        · have k:i<=x/\x<i+1:=k
          omega
 have src:∀x y,patch hh i (prnR E th' st b c i l') x=some y->(x=b/\y= .raw [.sl i 0 l'.length (E.w th') none] 0 none)\/(x=i/\y= .rows th' l' (fzO st))\/(x≠i/\x≠b/\(∀p,st=some p->x≠c)/\hh x=some y):=by
  intro x y hy
  rw [hpatch] at hy
  split at hy
  · rename_i e
    cases hy
    exact .inl ⟨e,rfl⟩
  · rename_i e
    split at hy
    · rename_i e2
      cases hy
      exact .inr (.inl ⟨e2,rfl⟩)
    · rename_i e2
      split at hy
      · cases hy
      · rename_i e3
        exact .inr (.inr ⟨e2,e,fun p hp hx=>e3 ⟨hx,p,hp⟩,hy⟩)
 have sgi:(match Nat.beq i i with|true=>σ' c'|false=>σ i)=some (r1,z1):=by rw [Nat.beq_refl];exact k1
 have sgx:∀x,x≠i->(match Nat.beq x i with|true=>σ' c'|false=>σ x)=σ x:=by
  intro x hx
  cases e:Nat.beq x i with
  |true=>exact absurd (Nat.eq_of_beq_eq_true e) hx
  |false=>rfl
 have far:∀x y q z',x≠b->(∀p,st=some p->x≠c)->hh x=some y->σ x=some (q,z')->q<W.heap.size/\q≠rb/\(∀p z,st=some p->σ c≠some (q,z)):=by
  intro x y q z' hx hx2 hy hs
  have hxn:hh x≠none:=by rw [hy];simp
  refine ⟨(hI.base x q z' hs).2,?_,fun p z hp hq=>hx2 p hp (hI.inj x c _ _ _ hxn (cn p hp) hs hq)⟩
  rintro rfl
  exact hx (hI.inj x b _ _ _ hxn hbn hs hσb)
 have far1:∀x y q z',x≠b->(∀p,st=some p->x≠c)->hh x=some y->σ x=some (q,z')->q≠r1:=by
  rintro x y q z' hx hx2 hy hs rfl
  obtain ⟨m1,m2,m3⟩:=far x y q z' hx hx2 hy hs
  rcases hr1 with h1|⟨z2,p,hp,h1⟩
  · omega
  · exact m3 p z2 hp h1
 have far0:rb<W.heap.size:=(hI.base b _ _ hσb).2
 refine ⟨_,he,fun x=>match Nat.beq x i with|true=>σ' c'|false=>σ x,g',⟨fun x p hx=> ?_,fun x p hx=> ?_,hS.gle,fun q o v hv=> ?_,hS.gmnew,fun q hq hne=> ?_,hS.size,hS.os,hS.tape,hS.output,fun x q z' hx hx'=> ?_⟩,?_,?_⟩
 · exact (sgx x (fun e=>by rw [e,hi] at hx;cases hx)).trans hx
 · by_cases e:x=i
   · exact .inr (by show i<=x/\x<i+1;omega)
   · have hx:(match Nat.beq x i with|true=>σ' c'|false=>σ x)=some p:=hx
     rw [sgx x e] at hx
     exact .inl hx
 · rcases hS.gcnew q o v hv with h1|h1|⟨b',h1,z',h2⟩
   · exact .inl h1
   · exact .inr (.inl h1)
   · rcases σP_cases h2 with ⟨rfl,h2⟩|⟨_,hp,h2⟩
     · exact .inr (.inr ⟨b,mdO_mem.2 (.inl rfl),_,h2⟩)
     · exact .inr (.inr ⟨c,mdO_mem.2 (.inr ⟨rfl,hp⟩),_,h2⟩)
 · exact hheap q hq (fun e=>hne b (mdO_mem.2 (.inl rfl)) zb (by rw [hσb,e])) fun p z hp=>hne c (mdO_mem.2 (.inr ⟨rfl,p,hp⟩)) z
 · have hx':(match Nat.beq x i with|true=>σ' c'|false=>σ x)=some (q,z'):=hx'
   by_cases e:x=i
   · subst e
     rw [sgi] at hx';cases hx'
     rcases hr1 with h1|⟨z2,p,hp,h1⟩
     · exact .inl h1
     · exact .inr ⟨c,mdO_mem.2 (.inr ⟨rfl,p,hp⟩),z2,h1⟩
   · rw [sgx x e,hx] at hx';cases hx'
 · refine ⟨hI'.gc,hI'.gm,fun x y hx=> ?_,fun x x' q z1' z2' h1 h2 h3 h4=> ?_,fun x q z' hs=> ?_,fun x y q z' o v hx hs hv=> ?_,fun x y q z' hx hs=> ?_,hI'.glob⟩
   · rcases src x y hx with ⟨rfl,rfl⟩|⟨rfl,rfl⟩|⟨e1,e2,e3,e4⟩
     · refine ⟨rb,zb,(sgx x hbi).trans hσb,?_⟩
       obtain ⟨r2,z2,m1,arr,e,n1,n2,n3,n4,n5⟩:=hI'.blk 0 _ hp0
       rw [hs0] at m1;cases m1
       refine ⟨arr,e,n1,n2,n3,fun j sv hj=> ?_,trivial⟩
       cases j with
       |succ j=>cases hj
       |zero=>
        have hj:some (SV.sl i 0 l'.length (E.w th') none:SV Y)=some sv:=hj
        cases hj
        obtain ⟨v,q1,q2⟩:=n4 0 _ (show ([.sl c' 0 l'.length (E.w th') none]:List (SV Y))[0]? =some _ from rfl)
        refine ⟨v,q1,?_⟩
        obtain ⟨r3,z3,c3,rfl,u1,u2,u3,u4,u5⟩:=Zan (show Den E σ' g' (.sl c' 0 l'.length (E.w th') none) v from q2)
        refine .sl (E:=E) (b:=i) (z:=z3) ?_ u2 u3 u4 u5
        show (match Nat.beq i i with|true=>σ' c'|false=>σ i)=_
        rw [Nat.beq_refl]
        exact u1
     · refine ⟨r1,z1,sgi,?_⟩
       obtain ⟨r2,z2,m1,m2⟩:=hI'.blk c' _ hpc
       rw [k1] at m1;cases m1
       obtain ⟨arr,e,m1,m3,m4,m5,m6⟩:=m2
       refine ⟨arr,e,m1,m3,m4,fun j sv hj=> ?_,m6⟩
       obtain ⟨v,n1,n2⟩:=m5 j sv hj
       have hn:nid 0 sv=true:=by
        obtain ⟨q,p,x,rfl,hp,hq,hs⟩:=Xm hE th' _ hj
        exact Zm (hE.encI _ _ _) hs
       exact ⟨v,n1,Zt hE n2 (fun b p hb=>by omega) hn⟩
     · obtain ⟨q,z',m1,m2⟩:=hI.blk x y e4
       obtain ⟨m3,m4,m5⟩:=far x y q z' e2 e3 e4 m1
       refine ⟨q,z',(sgx x e1).trans m1,?_⟩
       refine m2.mono (fun x p hx=> ?_) hS.gle (hheap q m3 m4 m5)
       show (match Nat.beq x i with|true=>σ' c'|false=>σ x)=some p
       rw [sgx x (fun e=>by rw [e,hi] at hx;cases hx)]
       exact hx
   · obtain ⟨y,hy⟩:=Option.ne_none_iff_exists'.1 h1
     obtain ⟨y',hy'⟩:=Option.ne_none_iff_exists'.1 h2
     rcases src x y hy with ⟨rfl,rfl⟩|⟨rfl,rfl⟩|⟨e1,e2,e3,e4⟩<;>rcases src x' y' hy' with ⟨rfl,rfl⟩|⟨rfl,rfl⟩|⟨d1,d2,d3,d4⟩
     · rfl
     · rw [sgx x hbi,hσb] at h3;cases h3
       rw [sgi] at h4;cases h4
       exact absurd rfl hrb
     · rw [sgx x hbi,hσb] at h3;cases h3
       rw [sgx x' d1] at h4
       exact absurd rfl (far x' y' _ _ d2 d3 d4 h4).2.1
     · rw [sgi] at h3;cases h3
       rw [sgx x' hbi,hσb] at h4;cases h4
       exact absurd rfl hrb
     · rfl
     · rw [sgi] at h3;cases h3
       rw [sgx x' d1] at h4
       exact absurd rfl (far1 x' y' _ _ d2 d3 d4 h4)
     · rw [sgx x' hbi,hσb] at h4;cases h4
       rw [sgx x e1] at h3
       exact absurd rfl (far x y _ _ e2 e3 e4 h3).2.1
     · rw [sgi] at h4;cases h4
       rw [sgx x e1] at h3
       exact absurd rfl (far1 x y _ _ e2 e3 e4 h3)
     · rw [sgx x e1] at h3
       rw [sgx x' d1] at h4
       exact hI.inj x x' q _ _ (by rw [e4];simp) (by rw [d4];simp) h3 h4
   · by_cases e:x=i
     · subst e
       rw [sgi] at hs;cases hs
       exact hI'.base c' _ _ k1
     · rw [sgx x e] at hs
       exact ⟨(hI.base x q z' hs).1,Nat.lt_of_lt_of_le (hI.base x q z' hs).2 hS.size⟩
   · rcases src x y hx with ⟨rfl,rfl⟩|⟨rfl,rfl⟩|⟨e1,e2,e3,e4⟩
     · rw [sgx x hbi,hσb] at hs;cases hs
       have h2:o<0:=hI'.fz 0 _ _ _ o v hp0 hs0 hv
       omega
     · rw [sgi] at hs;cases hs
       exact hI'.fz c' _ _ _ o v hpc k1 hv
     · rw [sgx x e1] at hs
       obtain ⟨m3,m4,m5⟩:=far x y q z' e2 e3 e4 hs
       rcases hS.gcnew q o v hv with h1|h1|⟨b',h1,z2,h2⟩
       · exact hI.fz x y q z' o v e4 hs h1
       · omega
       · rcases σP_cases h2 with ⟨rfl,h3⟩|⟨_,⟨p,hp⟩,h3⟩
         · rw [hσb] at h3;cases h3;exact absurd rfl m4
         · exact absurd h3 (m5 p z2 hp)
   · rcases src x y hx with ⟨rfl,rfl⟩|⟨rfl,rfl⟩|⟨e1,e2,e3,e4⟩
     · rw [sgx x hbi,hσb] at hs;cases hs
       exact hI'.fm 0 _ _ _ hp0 hs0
     · rw [sgi] at hs;cases hs
       exact hI'.fm c' _ _ _ hpc k1
     · rw [sgx x e1] at hs
       obtain ⟨m3,m4,m5⟩:=far x y q z' e2 e3 e4 hs
       cases hg':g'.obj q with
       |none=>rfl
       |some es=>
        rcases hS.gmnew q es hg' with k|k
        · rw [hI.fm x y q z' e4 hs] at k;cases k
        · omega
 · rw [hv] at hv'
   exact Zt hE hv' (fun b p hb=>by omega) (show nid 0 (SV.tup ([]:List (SV Y)))=true from rfl)
def sumB (E:Eng Y) (th:Y.Th) {α:Type} (d:DcL E α) (pre:List (Y.dom th)->α->Prop) (f:List (Y.dom th)->α->List (Y.dom th)):Sum Y:=fun args h i k=>
 match args with
 | .ptr b 0::rest=>
  (match h b,d.dec rest with
  |some (.raw [.sl c 0 len w none] 0 _),some x=>
   (match h c,Nat.beq w (E.w th)&& !(Nat.beq b c) with
   |some (.rows th' l fz),true=>Zat l fun l=>(len=l.length/\fz<=l.length/\pre l x)/\∀l',l'=f l x->k (prnR E th (some (l,fz)) b c i l')
   |_,_=>False)
  |some (.raw [.val (.slice none 0 0)] 0 _),some x=>pre [] x/\∀l',l'=f [] x->k (prnR E th none b 0 i l')
  |_,_=>False)
 |_=>False
def Yc5 (E:Eng Y) (f:Nat) (th:Y.Th) (args:List (SV Y)) (F:List (Y.dom th)->List (Y.dom th)) (P:List (Y.dom th)->Prop):Prop:=
 (∀l fz,fz<=l.length->P l->PrnC E f th args (some (l,fz)) (F l))/\(P []->PrnC E f th args none (F []))
theorem PrnC.of_dec {α:Type} {d:DcL E α} {f:Nat} {th:Y.Th} {args:List (SV Y)} {x:α} {st:Option (List (Y.dom th)×Nat)} {l':List (Y.dom th)} (hd:d.dec args=some x) (h:PrnC E f th (d.enc x) st l'):PrnC E f th args st l':=by
 obtain ⟨k1,k2,k3⟩:=d.ok _ _ hd
 intro b c hp i tg h1 h2 B σ g w vals hh hrd hI hB hfree hden
 refine h b c hp i tg h1 h2 B σ g w vals hh hrd hI hB hfree ⟨?_,fun j sv' u h5 h6=> ?_⟩
 · rw [<-hden.1,List.length_cons,List.length_cons,k2]
 · cases j with
   |zero=>exact hden.2 0 sv' u h5 h6
   |succ j=>
    obtain ⟨sv,h7,h8⟩:=k3 σ g j sv' (by simpa using h5)
    exact h8 u (hden.2 (j+1) sv u (by simpa using h7) h6)
theorem Zi9 (hE:EngOk E) {th:Y.Th} {α:Type} {f:Nat} (hg:FnGood E.P f) {d:DcL E α} {pre:List (Y.dom th)->α->Prop} {F:List (Y.dom th)->α->List (Y.dom th)} (hp:∀x,Yc5 E f th (d.enc x) (fun l=>F l x) (fun l=>pre l x)):SumOk E f (sumB E th d pre F):=by
 refine ⟨hg,fun args h i k hD hk=> ?_⟩
 unfold sumB at hk
 split at hk
 case h_2=>exact hk.elim
 rename_i b rest
 split at hk
 case h_3=>exact hk.elim
 · rename_i c len w tg x hb hx
   split at hk
   case h_2=>exact hk.elim
   rename_i th' l fz hc hw
   rw [Bool.and_eq_true,Bool.not_eq_true'] at hw
   obtain ⟨hw,hbc⟩:=hw
   have hw:=Nat.eq_of_beq_eq_true hw
   have hbc:=nb hbc
   obtain ⟨e,hk2⟩:=Xj hk
   clear hk
   subst e
   subst hw
   obtain ⟨⟨rfl,hfz,hpr⟩,hk3⟩:=hk2
   refine ⟨_,hk3 _ rfl,fun b' hb'=> ?_,.inl (PrnC.of_dec hx ((hp x).1 l fz hfz hpr) b c h i tg hb fun p hp=> ?_)⟩
   · rcases mdO_mem.1 (show b'∈mdO (some (l,fz)) b c from hb') with rfl|⟨rfl,_⟩
     · rw [hb];simp
     · rw [hc];simp
   · cases hp
     exact ⟨hc,hbc⟩
 · rename_i tg x hb hx
   obtain ⟨hpr,hk3⟩:=hk
   refine ⟨_,hk3 _ rfl,fun b' hb'=> ?_,.inl (PrnC.of_dec hx ((hp x).2 hpr) b 0 h i tg hb fun p hp=>by cases hp)⟩
   rcases mdO_mem.1 (show b'∈mdO (none:Option (List (Y.dom th)×Nat)) b 0 from hb') with rfl|⟨_,_,h2⟩
   · rw [hb];simp
   · cases h2
end
end
section
open Go
theorem Zyb {F:Fns thy} (hF:FnsOk E F) {n:Nat} {f:Nat} {th:Th} {args:List (SV thy)} {st:Option (List (thy.dom th)×Nat)} {l':List (thy.dom th)} (ha:nidL 0 args=true) (hk:Zg E F (vc E F n) f (.ptr 0 0::args) (hpP E th st) 2 (prnK E th st l')):PrnC E f th args st l':=
 Zdg E_ok (Zi E_ok hF n) ha hk
def Aixi:Fr thy->Hp thy->Nat->Ann thy:=fun T h i=>{X:=LX,fr:=fun x=> [(0,T 0),(1,T 1),(7,T 7),(8,.int false .i64 x.k)],bl:=fun x=> [],src:=fun _=> [],md:= [],ih:=i,M:=i+30,meas:=fun x=>x.r}
noncomputable def Fixi:Fns thy:=addL F0 128 2 Aixi E
theorem Z2f (l:List Int) (s:Int) (v:Int):Zg E Fixi (vc E Fixi 400) 128 [.psl Th.dimc l false,.int false .i64 s] hp0 0 (fun r=>ret E (patch hp0 0 r) r.v (.int false .i64 v))=(
∃(R:LX->Prop),(∃(x:LX),R x/\true=true/\((l=l/\(false=true->false=true))/\s=s/\(↑(List.length l):Int)=(↑(List.length l):Int)/\(0:Int)=(↑(LX.k x):Int)/\True)/\True)/\∀(x:LX),R x->(decide ((↑(LX.k x):Int)<(↑(List.length l):Int))=true->(0:Int)<=(↑(LX.k x):Int)/\(↑(LX.k x):Int)+(1:Int)<=(↑(List.length l):Int)/\∀(x_1:Int),l[Int.toNat (↑(LX.k x):Int)]? =some x_1->((s==x_1)=true->(↑(LX.k x):Int)=v)/\((s==x_1)=false->∃(x_2:LX),R x_2/\x_2.2+(1:Nat)<=x.2/\true=true/\((l=l/\(false=true->false=true))/\s=s/\(↑(List.length l):Int)=(↑(List.length l):Int)/\wr IntKind.i64 ((↑(LX.k x):Int)+(1:Int))=(↑(LX.k x_2):Int)/\True)/\True))/\(decide ((↑(LX.k x):Int)<(↑(List.length l):Int))=false->(-1:Int)=v)):=by kernel_rfl
noncomputable def dIs:Dc E (List Int):=(Zog (E:=E) Th.dimc:Dc E (List (thy.dom Th.dimc)))
noncomputable def Sixi:Sum thy:=Zpz E (fun _=>none) 2 (V8 (dA2 dIs dN) (fun x=>x.1.length<=1000000000) (fun x=>idxI x.2.1 0 x.1) fun y=> .int false .i64 y)
noncomputable def Ybg:Sum thy:=V8 (dA1 dN) (fun x=>0<=x.1/\x.1<10000000000000) (fun x=>decN x.1) fun y=> .str false y
noncomputable def Fpu:Fns thy:=addS (addS (addS F0 24 Zjm) 128 Sixi) 14 Ybg
abbrev qCK4:=(0:Int)
abbrev qCK6:=(↑(4:Nat):Int)
abbrev qCK3:=(Int.toNat qCK6-Int.toNat qCK4)
abbrev qCK1 (a0:Int) (b0:Int) (c0:Int) (d0:Int):=(List.take qCK3 (List.drop (Int.toNat qCK4) [a0,b0,c0,d0]))
abbrev qCK2:=((4:Nat)=(4:Nat)/\qCK4<=qCK4/\qCK4<=qCK6/\qCK6<=qCK6/\(qCK4+(1:Int)<=qCK6\/qCK4=qCK4))
abbrev qCK5:=(↑(List.length (WK.words WK.un)):Int)
theorem Ztc (l:List (List Nat)) (fz:Nat) (a b c d:Int) (l':List (List Nat)):Zg E Fpu (vc E Fpu 400) 84 [.ptr 0 0,dimA a b c d] (hpP E Th.strs (some (l,fz))) 2 (prnK E Th.strs (some (l,fz)) l')=(
 qCK2/\Int.toNat qCK4+qCK3<=(4:Nat)/\List.length (qCK1 a b c d)<=(1000000000:Nat)/\∀(y:Int),y=idxI (1:Int) (0:Nat) (qCK1 a b c d)->(decide (y>=qCK4)=true->qCK4<=y/\y+(1:Int)<=qCK5/\∀(x:List Nat),(WK.words WK.un)[Int.toNat y]? =some x->(List.length l<=List.length l/\fz<=List.length l/\(List.length l+(1:Nat))*(16:Nat)<=(140737488355328:Nat))/\qCK2/\Int.toNat qCK4+qCK3<=(4:Nat)/\List.length (qCK1 a b c d)<=(1000000000:Nat)/\∀(y:Int),y=idxI (-1:Int) (0:Nat) (qCK1 a b c d)->(decide (y>=qCK4)=true->qCK4<=y/\y+(1:Int)<=qCK5/\∀(x_1:List Nat),(WK.words WK.un)[Int.toNat y]? =some x_1->(List.length l+(1:Nat)<=List.length (List.take (List.length l) l++ [x])/\fz<=List.length l+(1:Nat)/\(List.length l+(1:Nat)+(2:Nat))*(16:Nat)<=(140737488355328:Nat))/\List.take (List.length l+(1:Nat)) (List.take (List.length l) l++ [x])++ [[(112:Nat),(101:Nat),(114:Nat)],x_1]=l'/\List.length l+(1:Nat)+(2:Nat)=List.length l'/\fz=fzO (some (l,fz)))/\(decide (y>=qCK4)=false->List.take (List.length l) l++ [x]=l'/\List.length l+(1:Nat)=List.length l'/\fz=fzO (some (l,fz))))/\(decide (y>=qCK4)=false->qCK2/\Int.toNat qCK4+qCK3<=(4:Nat)/\List.length (qCK1 a b c d)<=(1000000000:Nat)/\∀(y:Int),y=idxI (-1:Int) (0:Nat) (qCK1 a b c d)->(decide (y>=qCK4)=true->qCK4<=y/\y+(1:Int)<=qCK5/\∀(x:List Nat),(WK.words WK.un)[Int.toNat y]? =some x->(List.length l<=List.length l/\fz<=List.length l/\(List.length l+(2:Nat))*(16:Nat)<=(140737488355328:Nat))/\List.take (List.length l) l++ [[(112:Nat),(101:Nat),(114:Nat)],x]=l'/\List.length l+(2:Nat)=List.length l'/\fz=fzO (some (l,fz)))/\(decide (y>=qCK4)=false->l=l'/\List.length l=List.length l'/\fz=fzO (some (l,fz))))):=by kernel_rfl
theorem Zyc {v:Int} {l:List Int}:∀{k:Nat} {x:Int},l[k]? =some x->idxI v k (l.drop k)=if v=x then (k:Int) else idxI v (k+1) (l.drop (k+1)):=by
 intro k x h
 rw [Wb h]
 rfl
theorem Z2g (l:List Int) (s:Int) (hl:l.length<=1000000000):PureC E 128 [.psl Th.dimc l false,.int false .i64 s] (.int false .i64 (idxI s 0 l)):=by
 have hF:FnsOk E Fixi:=Yc E_ok F0_ok _ _ _
 refine Za E_ok (Zi E_ok hF 400) ?_
 rw [Z2f]
 simp only [and_true,true_and,decide_eq_true_eq,decide_eq_false_iff_not,beq_iff_eq,beq_eq_false_iff_ne,imp_self]
 refine ⟨fun x=>x.k<=l.length/\idxI s x.k (l.drop x.k)=idxI s 0 l/\x.r=l.length-x.k,⟨⟨0,l.length,[],0⟩,⟨(by dsimp only;omega),rfl,rfl⟩,rfl⟩,?_⟩
 rintro x ⟨hk,hv,hr⟩
 refine And.intro (fun hq=>⟨by omega,by omega,fun y hy=> ?_⟩) (fun hq=> ?_)
 · have hy:l[x.k]? =some y:=hy
   rw [Zyc hy] at hv
   refine ⟨fun e=> ?_,fun e=> ?_⟩
   · rw [if_pos e] at hv;exact hv
   · rw [if_neg e] at hv
     exact ⟨⟨x.k+1,l.length-(x.k+1),[],0⟩,⟨(by dsimp only;omega),hv,rfl⟩,by show l.length-(x.k+1)+1<=x.r;omega,wr64 (by omega) (by omega)⟩
 · rw [List.drop_eq_nil_of_le (by omega)] at hv
   exact hv
theorem Z7v:SumOk E 128 Sixi:=Zkc E_ok (Z5 E_ok (Zd rfl) fun x h=>Z2g x.1 x.2.1 h)
theorem Z2h:SumOk E 14 Ybg:=Z5 E_ok (Zd rfl) fun x h=>by
 have:=Zxj x.1.toNat (by omega)
 rw [show ((x.1.toNat:Nat):Int)=x.1 by omega] at this
 exact this
theorem Zq9:FnsOk E Fpu:=Zb (Zb (Zb F0_ok Zc7) Z7v) Z2h
theorem Zop:∀{v:Int} {l:List Int} {k:Nat},idxI v k l<k+l.length
 |v,[],k=>by unfold idxI;simp;omega
 |v,x::l,k=>by
  unfold idxI
  split
  · simp;omega
  · have:=Zop (v:=v) (l:=l) (k:=k+1)
    simp at this⊢;omega
theorem Zra {y:Int} (h0:0<=y) {x:List Nat} (hx:(WK.words WK.un)[Int.toNat y]? =some x):WK.un.words.getD y.toNat []=x:=by
 simp [List.getD,hx]
theorem Z2i (l:List (List Nat)) (fz:Nat) (a b c d:Int) (hf:fz<=l.length) (hl:l.length+8<=1000000000):PrnC E 84 Th.strs [dimA a b c d] (some (l,fz)) (l++txU [a,b,c,d]):=by
 refine Zyb Zq9 (n:=400) rfl ?_
 rw [Ztc];delta qCK4 qCK6 qCK3 qCK1 qCK2 qCK5
 have i1:=Zop (v:=1) (l:= [a,b,c,d]) (k:=0)
 have i2:=Zop (v:= -1) (l:= [a,b,c,d]) (k:=0)
 have L4:(WK.words WK.un).length=4:=rfl
 have l4:(List.length [a,b,c,d]:Int)=4:=rfl
 have e:List.take (Int.toNat (↑(4:Nat):Int)-Int.toNat (0:Int)) (List.drop (Int.toNat (0:Int)) [a,b,c,d])= [a,b,c,d]:=rfl
 rw [e]
 clear e
 refine ⟨by decide,by decide,by show 4<=1000000000;decide,fun y hy=>⟨fun h=> ?_,fun h=> ?_⟩⟩
 · have h:0<=y:=by simpa using h
   rw [<-hy] at i1
   refine ⟨h,by rw [L4];omega,fun x hx=>⟨⟨Nat.le_refl _,hf,by omega⟩,by decide,by decide,by show 4<=1000000000;decide,fun z hz=>⟨fun h2=> ?_,fun h2=> ?_⟩⟩⟩
   · have h2:0<=z:=by simpa using h2
     rw [<-hz] at i2
     refine ⟨h2,by rw [L4];omega,fun x2 hx2=>⟨⟨by simp,by omega,by omega⟩,?_⟩⟩
     have:txU [a,b,c,d]= [x,sPer,x2]:=by
      unfold txU
      rw [<-hy,<-hz,if_pos h,if_pos h2,Zra h hx,Zra h2 hx2]
      rfl
     rw [this,List.take_length]
     have e2:List.take (l.length+1) (l++ [x])=l++ [x]:=List.take_of_length_le (by simp)
     rw [e2]
     simp [sPer,fzO]
   · have h2:¬0<=z:=by simpa using h2
     have:txU [a,b,c,d]= [x]:=by
      unfold txU
      rw [<-hy,<-hz,if_pos h,if_neg h2,Zra h hx]
      rfl
     rw [this]
     simp [fzO]
 · have h:¬0<=y:=by simpa using h
   refine ⟨by decide,by decide,by show 4<=1000000000;decide,fun z hz=>⟨fun h2=> ?_,fun h2=> ?_⟩⟩
   · have h2:0<=z:=by simpa using h2
     rw [<-hz] at i2
     refine ⟨h2,by rw [L4];omega,fun x2 hx2=>⟨⟨Nat.le_refl _,hf,by omega⟩,?_⟩⟩
     have:txU [a,b,c,d]= [sPer,x2]:=by
      unfold txU
      rw [<-hy,<-hz,if_neg h,if_pos h2,Zra h2 hx2]
      rfl
     rw [this]
     simp [sPer,fzO]
   · have h2:¬0<=z:=by simpa using h2
     have:txU [a,b,c,d]= []:=by
      unfold txU
      rw [<-hy,<-hz,if_neg h,if_neg h2]
      rfl
     rw [this]
     simp [fzO]
noncomputable def Sunp:Sum thy:=sumB E Th.strs dDim (fun l x=>1<=l.length/\l.length+8<=1000000000) fun (l:List (List Nat)) x=>l++txU [x.1.getD 0 0,x.1.getD 1 0,x.1.getD 2 0,x.1.getD 3 0]
theorem Z7w:SumOk E 84 Sunp:=Zi9 E_ok (Zd rfl) fun x=>⟨fun l fz hf h=>Z2i l fz _ _ _ _ hf h.2,fun h=>absurd h.1 (by decide)⟩
noncomputable def Sxp (m:Nat):Sum thy:=sumB E Th.strs dExp (fun l x=>x.1.sz<m/\Zz x.1=true/\1<=l.length/\l.length+8*x.1.sz+8<=1000000000) fun (l:List (List Nat)) x=>l++txX x.1
theorem Zoq (n:Int) (v:Int):Zg E F0 (vc E F0 400) 86 [.int false .i64 n] hp0 0 (fun r=>ret E (patch hp0 0 r) r.v (.int false .i64 v))=(
((n==(3:Int))=true->(1:Int)=v)/\((n==(3:Int))=false->((n==(4:Int))=true->(1:Int)=v)/\((n==(4:Int))=false->((n==(5:Int))=true->(2:Int)=v)/\((n==(5:Int))=false->(3:Int)=v)))):=by kernel_rfl
noncomputable def Zyd:Sum thy:=V8 (dA1 dN) (fun _=>True) (fun x=>tightF x.1) fun y=> .int false .i64 y
noncomputable def Fop' (m:Nat):Fns thy:=addS (addS F0 86 Zyd) 58 (Sxp m)
abbrev qCK7 (a0:Ex):=(Ex.mk (Ex.op a0) (Ex.n a0) (Ex.d0 a0) (Ex.d1 a0) (Ex.d2 a0) (Ex.d3 a0) (Ex.l a0))
abbrev qCK8 (a0:List (List Nat)):=(List.take (List.length a0) a0++ [[(40:Nat)]])
theorem Ztd (m:Nat) (l:List (List Nat)) (fz:Nat) (x:Ex) (n:Int) (l':List (List Nat)):Zg E (Fop' m) (vc E (Fop' m) 400) 85 [.ptr 0 0,exA x,.int false .i64 n] (hpP E Th.strs (some (l,fz))) 2 (prnK E Th.strs (some (l,fz)) l')=(
 True/\∀(y:Int),y=tightF (Ex.op x)->(decide (y>=n)=true->(List.length l=List.length l/\fz<=List.length l/\Ex.sz (qCK7 x)+(1:Nat)<=m/\Zz (qCK7 x)=true/\(1:Nat)<=List.length l/\List.length l+(8:Nat)*Ex.sz (qCK7 x)+(8:Nat)<=(1000000000:Nat))/\∀(l'_1:List (List Nat)),l'_1=l++txX (qCK7 x)->l'_1=l'/\List.length l'_1=List.length l'/\fzO (some (l,fz))=fzO (some (l,fz)))/\(decide (y>=n)=false->(List.length l<=List.length l/\fz<=List.length l/\(List.length l+(1:Nat))*(16:Nat)<=(140737488355328:Nat))/\(List.length l+(1:Nat)=List.length (qCK8 l)/\fz<=List.length (qCK8 l)/\Ex.sz (qCK7 x)+(1:Nat)<=m/\Zz (qCK7 x)=true/\(1:Nat)<=List.length (qCK8 l)/\List.length (qCK8 l)+(8:Nat)*Ex.sz (qCK7 x)+(8:Nat)<=(1000000000:Nat))/\∀(l'_1:List (List Nat)),l'_1=List.take (List.length l) l++ [[(40:Nat)]]++txX (qCK7 x)->(List.length l'_1<=List.length l'_1/\fzO (some (List.take (List.length l) l++ [[(40:Nat)]],fz))<=List.length l'_1/\(List.length l'_1+(1:Nat))*(16:Nat)<=(140737488355328:Nat))/\List.take (List.length l'_1) l'_1++ [[(41:Nat)]]=l'/\List.length l'_1+(1:Nat)=List.length l'/\fzO (some (List.take (List.length l) l++ [[(40:Nat)]],fz))=fzO (some (l,fz)))):=by kernel_rfl
noncomputable def Ybh (m:Nat):Sum thy:=sumB E Th.strs Z6m (fun l x=>x.1.sz<m/\Zz x.1=true/\1<=l.length/\l.length+8*x.1.sz+10<=1000000000) fun (l:List (List Nat)) x=>l++par x.1.op x.2.1 (txX x.1)
noncomputable def Fxp' (m:Nat):Fns thy:=addS (addS (addS (addS Fpu 84 Sunp) 86 Zyd) 58 (Sxp m)) 85 (Ybh m)
theorem Zte (n:Int):PureC E 86 [.int false .i64 n] (.int false .i64 (tightF n)):=by
 refine Za E_ok (Zi E_ok F0_ok 400) ?_
 rw [Zoq]
 unfold tightF
 refine ⟨fun h=> ?_,fun h=>⟨fun h2=> ?_,fun h2=>⟨fun h3=> ?_,fun h3=> ?_⟩⟩⟩
 all_goals simp at*
 all_goals simp [*]
theorem Zlj:SumOk E 86 Zyd:=Z5 E_ok (Zd rfl) fun x _=>Zte x.1
def PxOk (m:Nat):Prop:=∀x:Ex,x.sz<m->Zz x=true->∀(l:List (List Nat)) (fz:Nat),fz<=l.length->1<=l.length->l.length+8*x.sz+8<=1000000000->PrnC E 58 Th.strs [exA x] (some (l,fz)) (l++txX x)
theorem Zye {m:Nat} (h:PxOk m):SumOk E 58 (Sxp m):=Zi9 E_ok (Zd rfl) fun x=>⟨fun l fz hf hp=>h x.1 hp.1 hp.2.1 l fz hf hp.2.2.1 hp.2.2.2,fun hp=>absurd hp.2.2.1 (by decide)⟩
theorem Z7x {m:Nat} (h:PxOk m):FnsOk E (Fop' m):=Zb (Zb F0_ok Zlj) (Zye h)
mutual
theorem Y3:∀(x:Ex),(txX x).length+2<=8*x.sz
 | .mk op n a b c d l=>by
  have h:=Zyf l
  have hs:∀ss:List (List Nat),(txS (txL l) ss).length+0<=8*Ex.szL l:=fun ss=>Zyg (txL l) ss (8*Ex.szL l) h
  have hU:(txU [a,b,c,d]).length<=3:=by
   unfold txU
   rw [List.length_append]
   split<;>split<;>simp
  have hp:∀op least t,(par op least t).length<=t.length+2:=by
   intro op least t
   unfold par
   split
   · omega
   · simp
  have h2:=Z2j (txL l) _ h
  rw [txX,Ex.sz]
  unfold txN
  split
  · rw [List.length_cons];omega
  · split
    · simp;omega
    · split
      · have:=hs [Zcd,Z0,Z0,Zx]
        rw [List.length_cons,List.length_cons]
        omega
      · split
        · rw [List.length_append,List.length_cons]
          have a1:=hp ((l.map Ex.op).getD 0 0) (tightF op) ((txL l).getD 0 [])
          have a2:=hp ((l.map Ex.op).getD 1 0) (tightF op+1) ((txL l).getD 1 [])
          omega
        · have:=hs [Z0,Zx]
          rw [List.length_cons,List.length_cons]
          omega
theorem Zyf:∀(l:List Ex),((txL l).map fun t=>t.length+2).sum<=8*Ex.szL l
 | []=>by simp [txL]
 |x::r=>by
  have h1:=Y3 x
  have h2:=Zyf r
  rw [txL,Ex.szL,List.map_cons,List.sum_cons]
  omega
theorem Zyg:∀(ts:List (List (List Nat))) (ss:List (List Nat)) (b:Nat),(ts.map fun t=>t.length+2).sum<=b->(txS ts ss).length+0<=b
 | [],_,_,h=>by simp [txS]
 |t::r,[],_,h=>by simp [txS]
 |t::r,s::ss,b,h=>by
  rw [List.map_cons,List.sum_cons] at h
  have:=Zyg r ss (b-(t.length+2)) (by omega)
  rw [txS,List.length_append,List.length_cons]
  omega
theorem Z2j:∀(ts:List (List (List Nat))) (b:Nat),(ts.map fun t=>t.length+2).sum<=b->(ts.getD 0 []).length+(ts.getD 1 []).length<=b
 | [],_,_=>by simp
 | [t],_,h=>by simp at h⊢;omega
 |t::u::r,_,h=>by simp at h⊢;omega
end
theorem Z2k {m:Nat} (hm:PxOk m) (l:List (List Nat)) (fz:Nat) (x:Ex) (n:Int) (hx:x.sz<m) (hxf:Zz x=true) (hf:fz<=l.length) (h1:1<=l.length) (hl:l.length+8*x.sz+10<=1000000000):PrnC E 85 Th.strs [exA x,.int false .i64 n] (some (l,fz)) (l++par x.op n (txX x)):=by
 refine Zyb (Z7x hm) (n:=400) rfl ?_
 rw [Ztd];delta qCK7 qCK8
 have ht:=Y3 x
 simp only [fzO,List.take_length,Ex.eta,forall_eq,decide_eq_true_eq,decide_eq_false_iff_not,true_and,and_true]
 refine ⟨fun h=>⟨⟨hf,hx,hxf,h1,by omega⟩,?_⟩,fun h=>⟨⟨Nat.le_refl _,hf,by omega⟩,⟨by simp,by simp;omega,hx,hxf,by simp,by simp;omega⟩,⟨Nat.le_refl _,by simp;omega,by simp;omega⟩,?_⟩⟩
 · have:par x.op n (txX x)=txX x:=by unfold par;rw [if_pos h]
   rw [this]
   exact ⟨rfl,rfl⟩
 · have:par x.op n (txX x)=Xb::(txX x++ [Zx]):=by unfold par;rw [if_neg h]
   rw [this]
   simp [Xb,Zx]
   omega
theorem Z2l {m:Nat} (h:PxOk m):SumOk E 85 (Ybh m):=Zi9 E_ok (Zd rfl) fun x=>⟨fun l fz hf hp=>Z2k h l fz x.1 x.2.1 hp.1 hp.2.1 hf hp.2.2.1 hp.2.2.2,fun hp=>absurd hp.2.2.1 (by decide)⟩
theorem Z7y {m:Nat} (h:PxOk m):FnsOk E (Fxp' m):=Zb (Zb (Zb (Zb Zq9 Z7w) Zlj) (Zye h)) (Z2l h)
end
section
open Go
def dD (u:Nat):List Nat:=(Lib.decDigits u).map UInt8.toNat
theorem Zbz {u:Nat} (h:u<10):dD u= [48+u]:=by
 unfold dD
 rw [Lib.decDigits,dif_pos h]
 have:(UInt8.ofNat (48+u)).toNat=48+u:=by
  rw [UInt8.toNat_ofNat']
  omega
 simp only [List.map_cons,List.map_nil,this]
theorem Zk1 {u:Nat} (h:¬u<10):dD u=dD (u/10)++ [48+u%10]:=by
 unfold dD
 rw [Lib.decDigits,dif_neg h]
 have:(UInt8.ofNat (48+u%10)).toNat=48+u%10:=by
  rw [UInt8.toNat_ofNat']
  omega
 rw [List.map_append]
 simp only [List.map_cons,List.map_nil,this]
theorem Zxb {n:Int} (h:0<=n):decN n=dD n.toNat:=by
 unfold decN dD Lib.itoa
 rw [if_neg (by omega)]
theorem Zqr:∀{a b:List Nat} {n m:Int},numL n a=(m,0)->numL n (a++b)=numL m b
 | [],b,n,m,h=>by
  unfold numL at h
  cases h
  rfl
 |c::r,b,n,m,h=>by
  unfold numL at h
  rw [List.cons_append]
  unfold numL
  split at h
  · cases h
  · rename_i hn
    rw [if_neg hn,Zqr h]
    cases b<;>rfl
theorem Z1p (u:Nat):dD u≠ []:=by
 by_cases h:u<10
 · rw [Zbz h];simp
 · rw [Zk1 h];simp
theorem Yao:∀(u:Nat),u<=1099511627776->numL 0 (dD u)=((u:Int),0):=by
 intro u
 induction u using Nat.strongRecOn with
 |_ u ih=>
  intro hu
  by_cases h:u<10
  · rw [Zbz h]
    unfold numL
    rw [if_neg (by omega)]
    unfold numL
    congr 1
    omega
  · rw [Zk1 h,Zqr (ih (u/10) (by omega) (by omega))]
    unfold numL
    rw [if_neg (by omega)]
    unfold numL
    congr 1
    omega
theorem Yap:∀(u:Nat),∀c∈dD u,isD (c:Int)=true:=by
 intro u
 induction u using Nat.strongRecOn with
 |_ u ih=>
  have one:∀k:Nat,k<10->isD ((48+k:Nat):Int)=true:=by
   intro k hk
   unfold isD
   simp
   omega
  by_cases h:u<10
  · rw [Zbz h]
    intro c hc
    rw [List.mem_singleton] at hc
    subst hc
    exact one u h
  · rw [Zk1 h]
    intro c hc
    rcases List.mem_append.1 hc with hc|hc
    · exact ih (u/10) (by omega) c hc
    · rw [List.mem_singleton] at hc
      subst hc
      exact one _ (by omega)
theorem Z6v:∀(u:Nat),1<(dD u).length->(dD u).head?≠some 48:=by
 intro u
 induction u using Nat.strongRecOn with
 |_ u ih=>
  by_cases h:u<10
  · rw [Zbz h]
    intro hl
    simp at hl
  · rw [Zk1 h]
    intro _
    have e:(dD (u/10)++ [48+u%10]).head? =(dD (u/10)).head? :=by
     cases hd:dD (u/10) with
     |nil=>exact absurd hd (Z1p _)
     |cons x r=>rfl
    rw [e]
    by_cases h2:u/10<10
    · rw [Zbz h2]
      intro k
      injection k with k
      omega
    · refine ih (u/10) (by omega) ?_
      rw [Zk1 h2,List.length_append]
      have:=Z1p (u/10/10)
      cases hd:dD (u/10/10) with
      |nil=>exact absurd hd this
      |cons x r=>simp
theorem Znc {n:Int} (h0:0<=n) (h1:n<=1099511627776):tokP (decN n)=(⟨2,decN n,n,0⟩,0):=by
 rw [Zxb h0]
 have hne:=Z1p n.toNat
 have hd:=Yap n.toNat
 have hn:=Yao n.toNat (by omega)
 have hh:=Z6v n.toNat
 have hc:((n.toNat:Nat):Int)=n:=by omega
 generalize dD n.toNat=w at*
 cases w with
 |nil=>exact absurd rfl hne
 |cons c r=>
  rw [Yi]
  have hdc:=hd c (by simp)
  have hl:isL (c:Int)=false:=by
   unfold isD at hdc
   unfold isL
   simp at hdc⊢
   omega
  rw [if_neg (by rw [hl];decide),if_pos hdc,Wn hd,List.take_length]
  have:numb (c::r)=(n,0):=by
   unfold numb
   rw [if_neg (fun k=>hh k.1 k.2),hn,hc]
  rw [this]
theorem Zdw {n:Int} (h0:0<=n) (h1:n<=1099511627776):TokW (decN n):=by
 refine ⟨by rw [Znc h0 h1],by rw [Znc h0 h1],?_⟩
 rw [Zxb h0]
 exact Z1p _
theorem Zxc {n:Int} (h0:0<=n) (h1:n<=1099511627776):tkS (decN n)=⟨2,decN n,n,0⟩:=by
 unfold tkS
 rw [Znc h0 h1]
 rfl
theorem Ycw {c:Nat} (h:wb c=true):isLD (c:Int)=true:=by
 unfold wb at h
 unfold isLD isL isD
 simp at h⊢
 omega
theorem Ziq {s:List Nat} (h:Vb s=true):tokP s=(⟨1,s,0,0⟩,0):=by
 unfold Vb at h
 rw [Bool.and_eq_true,Bool.and_eq_true,decide_eq_true_eq] at h
 obtain ⟨⟨h1,h2⟩,h3⟩:=h
 cases s with
 |nil=>cases h2
 |cons c r=>
  have hc:isL (c:Int)=true:=by
   unfold lowF at h2
   unfold isL
   simp at h2⊢
   omega
  rw [Yi,if_pos hc,Wn fun c hc=>Ycw (List.all_eq_true.1 h3 c hc),if_neg (by omega),List.take_length]
theorem Ze9 {s:List Nat} (h:Vb s=true):TokW s:=by
 refine ⟨by rw [Ziq h],by rw [Ziq h],?_⟩
 rintro rfl
 simp [Vb,lowF] at h
theorem Zir {s:List Nat} (h:Vb s=true):tkS s=⟨1,s,0,0⟩:=by
 unfold tkS
 rw [Ziq h]
 rfl
theorem Z1q:∀k:WK,∀w∈k.words,Vb w=true:=by
 intro k
 cases k<;>decide
theorem Zqs {k:WK} {i:Nat} (h:i<k.words.length):k.words.getD i []∈k.words:=by
 have:k.words.getD i []=k.words[i]:=by simp [List.getD,h]
 rw [this]
 exact List.getElem_mem h
theorem Zis {k:WK} {i:Nat} (h:i<k.words.length):Vb (k.words.getD i [])=true:=Z1q k _ (Zqs h)
theorem Z6w {k:WK} {i:Nat} (h:i<k.words.length):tkS (k.words.getD i [])=⟨1,k.words.getD i [],0,0⟩:=Zir (Zis h)
theorem Yaq:∀k:WK,∀i,i<k.words.length->idxS (k.words.getD i []) 0 k.words=i:=by
 intro k
 cases k<;>decide
theorem Zdd {k:WK} {i:Nat} (h:i<k.words.length) (r:List Tok):chz k.words (tkS (k.words.getD i [])::r)=i:=by
 rw [Z6w h]
 show (if (1:Int)=1 then idxS (k.words.getD i []) 0 k.words else-1)=i
 rw [if_pos rfl,Yaq k i h]
def Fl0 (r:List Tok):Prop:=¬0<=chz WK.un.words r/\isW sPer r=false
end
section
open Go
theorem Zcr {o:List Tok->Int×List Tok} {pf:PE} (ho:∀l,(o l).2.length<=l.length) (hp:Shr pf):∀(k k':Nat) (x:Ex) (op:Int) (l:List Tok) (e:Int),l.length<k->l.length<k'->Yw o pf k x op l e=Yw o pf k' x op l e
 |0,_,_,_,_,_,h,_=>by omega
 |_+1,0,_,_,_,_,_,h=>by omega
 |k+1,k'+1,x,op,l,e,h,h'=>by
  unfold Yw
  split
  · rfl
  · cases hq:pf l e with
    |error er=>rfl
    |ok y=>
     have h1:=hp _ _ _ _ hq
     have h2:=ho y.2.1
     exact Zcr ho hp k k' _ _ _ _ (by omega) (by omega)
def pRx (o:List Tok->Int×List Tok) (pf:PE) (x:Ex) (op:Int) (l:List Tok) (e:Int):PR Ex:=Yw o pf (l.length+1) x op l e
theorem Z35 {o:List Tok->Int×List Tok} {pf:PE} (ho:∀l,(o l).2.length<=l.length) (hp:Shr pf) (x:Ex) (op:Int) (l:List Tok) (e:Int):
 pRx o pf x op l e=if op=0 then .ok (x,l,e,()) else match pf l e with
  | .error er=> .error er
  | .ok (y,z)=>pRx o pf (.mk op 0 0 0 0 0 [x,y]) (o z.1).1 (o z.1).2 z.2.1:=by
 unfold pRx
 rw [Yw]
 split
 · rfl
 · cases hq:pf l e with
   |error er=>rfl
   |ok y=>
    have h1:=hp _ _ _ _ hq
    have h2:=ho y.2.1
    exact Zcr ho hp _ _ _ _ _ _ (by omega) (by omega)
theorem Zp0 (l:List Tok):(op1 l).2.length<=l.length:=Zoe l
theorem Zp1 (l:List Tok):(op2 l).2.length<=l.length:=Zof l
def Agr (n:Nat) (p q:PE):Prop:=∀l e,l.length<n->p l e=q l e
theorem Zp2 {n:Nat} {p q:PE} (hp:Shr p) (h:Agr n p q):∀(ss:List (List Nat)) (acc:List Ex) (l:List Tok) (e:Int),l.length<n->pOpL p ss acc l e=pOpL q ss acc l e
 | [],_,_,_,_=>rfl
 |s::r,acc,l,e,hl=>by
  unfold pOpL
  rw [<-h l e hl]
  cases hq:p l e with
  |error er=>rfl
  |ok y=>
   have h1:=hp _ _ _ _ hq
   dsimp only
   split
   · refine Zp2 hp h r _ _ _ ?_
     rw [List.length_tail]
     omega
   · rfl
theorem Zp3 {n:Nat} {p q:PE} (hp:Shr p) (h:Agr n p q) (op:Int) (ss:List (List Nat)) (l:List Tok) (e:Int) (hl:l.length<n+1):pOps p op ss l e=pOps q op ss l e:=by
 unfold pOps
 split
 · rename_i hw
   have:=Zp hw
   rw [Zp2 hp h ss [] l.tail e (by omega)]
 · rfl
theorem Zkd {n:Nat} {p q:PE} (hp:Shr p) (h:Agr n p q) (l:List Tok) (e:Int) (hl:l.length<n+1):Up p l e=Up q l e:=by
 unfold Up
 split
 · rename_i hw
   have:=Zp hw
   rw [h l.tail e (by omega)]
 · split
   · rename_i hw
     have:=Zp hw
     rw [Zp3 hp h _ _ l.tail e (by omega)]
   · cases hc:Zn WK.ca.words l e with
     |error er=>rfl
     |ok y=>
      obtain ⟨y0,y1⟩:=y
      have:y1.1.length<=l.length:=by
       rcases Y8 hc with ⟨_,_,rfl⟩|⟨_,_,rfl⟩
       · show l.tail.length<=l.length
         rw [List.length_tail]
         omega
       · exact Nat.le_refl _
      dsimp only
      split
      · exact Zp3 hp h _ _ _ _ (by omega)
      · rfl
theorem Zp4 {n:Nat} {p q:PE} (hp:Shr p) (h:Agr n p q):Agr (n+1) (pFac p) (pFac q):=by
 intro l e hl
 unfold pFac
 split
 · exact Zkd hp h _ _ hl
 · split
   · rfl
   · exact Zkd hp h _ _ hl
theorem Zke {n:Nat} {o:List Tok->Int×List Tok} (ho:∀l,(o l).2.length<=l.length) {p q:PE} (hp:Shr p) (h:Agr n p q):∀(k:Nat) (x:Ex) (op:Int) (l:List Tok) (e:Int),l.length<n->Yw o p k x op l e=Yw o q k x op l e
 |0,_,_,_,_,_=>rfl
 |k+1,x,op,l,e,hl=>by
  unfold Yw
  split
  · rfl
  · rw [<-h l e hl]
    cases hq:p l e with
    |error er=>rfl
    |ok y=>
     have h1:=hp _ _ _ _ hq
     have h2:=ho y.2.1
     exact Zke ho hp h k _ _ _ _ (by omega)
theorem Zh9 {n:Nat} {o:List Tok->Int×List Tok} (ho:∀l,(o l).2.length<=l.length) {p q:PE} (hp:Shr p) (h:Agr n p q):Agr n (pCh o p) (pCh o q):=by
 intro l e hl
 unfold pCh
 rw [<-h l e hl]
 cases hq:p l e with
 |error er=>rfl
 |ok y=>
  have h1:=hp _ _ _ _ hq
  have h2:=ho y.2.1
  exact Zke ho hp h _ _ _ _ _ (by omega)
theorem Z36 (n:Nat):Shr (pE n):=(V2 n).shr
theorem Zia {pe:PE} (h:Bnd pe):Shr (pFac pe):=(W0 h).shr
theorem Z37:∀(n m:Nat),n<=m->Agr n (pE n) (pE m)
 |0,m,_=>fun l e hl=>by omega
 |n+1,m+1,h=>by
  have ih:=Z37 n m (by omega)
  unfold pE
  refine Zh9 Zp1 (Za6 Zcz (W0 (V2 n))).shr ?_
  exact Zh9 Zp0 (Zia (V2 n)) (Zp4 (Z36 n) ih)
theorem Z38 (n:Nat):Agr n (pE n) pX:=by
 intro l e hl
 unfold pX
 exact (Z37 (l.length+1) n (by omega) l e (Nat.lt_succ_self _)).symm
def pf:PE:=pFac pX
def pt:PE:=pCh op1 pf
theorem Yb2 (l:List Tok) (e:Int):pX l e=pCh op2 pt l e:=by
 show pE (l.length+1) l e=_
 rw [pE]
 refine Zh9 (n:=l.length+1) Zp1 (Za6 Zcz (W0 (V2 _))).shr ?_ l e (Nat.lt_succ_self _)
 exact Zh9 Zp0 (Zia (V2 _)) (Zp4 (Z36 _) (Z38 _))
theorem pf_bnd:Bnd pf:=W0 Zqy
theorem pt_bnd:Bnd pt:=Za6 Zcz pf_bnd
theorem Z9e:Shr pf:=pf_bnd.shr
theorem Z9f:Shr pt:=pt_bnd.shr
theorem Yb3 (l:List Tok) (e:Int):pt l e=match pf l e with
 | .error er=> .error er
 | .ok (y,z)=>pRx op1 pf y (op1 z.1).1 (op1 z.1).2 z.2.1:=rfl
theorem Z5s (x:Ex) (op:Int) (l:List Tok) (e:Int):pRx op1 pf x op l e=if op=0 then .ok (x,l,e,()) else match pf l e with
 | .error er=> .error er
 | .ok (y,z)=>pRx op1 pf (.mk op 0 0 0 0 0 [x,y]) (op1 z.1).1 (op1 z.1).2 z.2.1:=Z35 Zp0 Z9e x op l e
theorem Z5t (x:Ex) (op:Int) (l:List Tok) (e:Int):pRx op2 pt x op l e=if op=0 then .ok (x,l,e,()) else match pt l e with
 | .error er=> .error er
 | .ok (y,z)=>pRx op2 pt (.mk op 0 0 0 0 0 [x,y]) (op2 z.1).1 (op2 z.1).2 z.2.1:=Z35 Zp1 Z9f x op l e
theorem Z9g (l:List Tok) (e:Int):pX l e=match pt l e with
 | .error er=> .error er
 | .ok (y,z)=>pRx op2 pt y (op2 z.1).1 (op2 z.1).2 z.2.1:=Yb2 l e
abbrev TS (ws:List (List Nat)):List Tok:=ws.map tkS
def d0:List Int:= [0,0,0,0]
theorem Yb4 {r:List Tok} (h:Fl0 r) (e:Int):Xf r e= .ok (d0,r,e,()):=by
 unfold Xf Zn
 rw [if_neg h.1]
 dsimp only
 rw [if_neg (by rw [h.2];decide)]
 rfl
theorem Yb5 {i:Nat} (hi:i<4) {r:List Tok} (h:isW sPer r=false) (e:Int):Xf (tkS (WK.un.words.getD i [])::r) e= .ok (incD d0 i,r,e,()):=by
 unfold Xf Zn
 rw [Zdd (k:= .un) hi,if_pos (by omega)]
 dsimp only [List.tail_cons]
 rw [if_neg (by rw [h];decide)]
 rfl
theorem Z39 {s w:List Nat} (hw:Vb w=true) (r:List Tok):isW s (tkS w::r)=(w==s):=by
 rw [Zir hw]
 rfl
theorem Z5u (r:List Tok):¬0<=chz WK.un.words (tkS sPer::r):=by
 have:chz WK.un.words (tkS sPer::r)= -1:=rfl
 omega
theorem Zvi (r:List Tok):isW sPer (tkS sPer::r)=true:=rfl
theorem Yb6 {j:Nat} (hj:j<4) (r:List Tok) (e:Int):Xf (tkS sPer::tkS (WK.un.words.getD j [])::r) e= .ok (decD d0 j,r,e,()):=by
 unfold Xf Zn
 rw [if_neg (Z5u _)]
 dsimp only [List.tail_cons]
 rw [if_pos (Zvi _)]
 unfold Z9
 rw [Zdd (k:= .un) hj,if_pos (by omega)]
 rfl
theorem Yb7 {i j:Nat} (hi:i<4) (hj:j<4) (r:List Tok) (e:Int):Xf (tkS (WK.un.words.getD i [])::tkS sPer::tkS (WK.un.words.getD j [])::r) e= .ok (decD (incD d0 i) j,r,e,()):=by
 unfold Xf Zn
 rw [Zdd (k:= .un) hi,if_pos (by omega)]
 dsimp only [List.tail_cons]
 rw [if_pos (Zvi _)]
 unfold Z9
 rw [Zdd (k:= .un) hj,if_pos (by omega)]
 rfl
theorem Z0m {a b c d:Int} (h:Zaj [a,b,c,d]=true):in1 a=true/\in1 b=true/\in1 c=true/\in1 d=true:=by
 rw [Zkm] at h
 rw [Bool.and_eq_true] at h
 simpa using h.1
theorem Zbq {a:Int} (h:in1 a=true):a= -1\/a=0\/a=1:=by
 unfold in1 at h
 simp at h
 omega
def UnF (u:List Int):Prop:=(u=d0/\txU u= [])\/(∃i,i<4/\u=incD d0 (i:Nat)/\txU u= [WK.un.words.getD i []])\/(∃j,j<4/\u=decD d0 (j:Nat)/\txU u= [sPer,WK.un.words.getD j []])\/(∃i,i<4/\∃j,j<4/\u=decD (incD d0 (i:Nat)) (j:Nat)/\txU u= [WK.un.words.getD i [],sPer,WK.un.words.getD j []])
instance (u:List Int):Decidable (UnF u):=by unfold UnF;infer_instance
theorem unF {a b c d:Int} (h:Zaj [a,b,c,d]=true):UnF [a,b,c,d]:=by
 obtain ⟨ha,hb,hc,hd⟩:=Z0m h
 revert h
 rcases Zbq ha with rfl|rfl|rfl<;>rcases Zbq hb with rfl|rfl|rfl<;>rcases Zbq hc with rfl|rfl|rfl<;>rcases Zbq hd with rfl|rfl|rfl
 all_goals (clear ha hb hc hd;decide)
theorem Zvj {a b c d:Int} (h:Zaj [a,b,c,d]=true) {r:List Tok} (hr:Fl0 r) (e:Int):Xf (TS (txU [a,b,c,d])++r) e= .ok ([a,b,c,d],r,e,()):=by
 rcases unF h with ⟨h1,h2⟩|⟨i,hi,h1,h2⟩|⟨j,hj,h1,h2⟩|⟨i,hi,j,hj,h1,h2⟩
 · rw [h2,h1]
   exact Yb4 hr e
 · rw [h2,h1]
   exact Yb5 hi hr.2 e
 · rw [h2,h1]
   exact Yb6 hj r e
 · rw [h2,h1]
   exact Yb7 hi hj r e
def Fl1 (r:List Tok):Prop:=Fl0 r/\isW sMul r=false
def Fl2 (r:List Tok):Prop:=Fl1 r/\isW Za5 r=false/\isW Vm r=false
theorem Z4a {r:List Tok} (h:isW sMul r=false):op1 r=(0,r):=by unfold op1;rw [if_neg (by rw [h];decide)]
theorem Z9h {r:List Tok} (h:Fl2 r):op2 r=(0,r):=by unfold op2;rw [if_neg (by rw [h.2.1];decide),if_neg (by rw [h.2.2];decide)]
theorem Z9i {w:List Nat} {r:List Tok} (h:(tkS w).kind=3):∀ws:List (List Nat),chz ws (tkS w::r)= -1:=by
 intro ws
 show (if (tkS w).kind=1 then _ else-1)=_
 rw [if_neg (by rw [h];decide)]
theorem Zaz {w:List Nat} (r:List Tok) (h:(tkS w).kind=3) (h2:isW sPer (tkS w::r)=false):Fl0 (tkS w::r):=⟨by rw [Z9i h];decide,h2⟩
theorem Zbr (r:List Tok):Fl2 (tkS Zx::r):=⟨⟨Zaz r rfl rfl,rfl⟩,rfl,rfl⟩
theorem Zev (r:List Tok):Fl2 (tkS Z0::r):=⟨⟨Zaz r rfl rfl,rfl⟩,rfl,rfl⟩
theorem Z0n (r:List Tok):Fl2 (tkS Zcd::r):=⟨⟨Zaz r rfl rfl,rfl⟩,rfl,rfl⟩
theorem Z0o (r:List Tok):Fl2 (tkS Zfo::r):=⟨⟨Zaz r rfl rfl,rfl⟩,rfl,rfl⟩
theorem Z5v (r:List Tok):Fl0 (tkS sMul::r):=Zaz r rfl rfl
theorem Z0p (r:List Tok):Fl1 (tkS Za5::r):=⟨Zaz r rfl rfl,rfl⟩
theorem Zvk (r:List Tok):Fl1 (tkS Vm::r):=⟨Zaz r rfl rfl,rfl⟩
structure Rdb (x:Ex):Prop where
 fac:3<=tightF x.op->∀r e,Fl0 r->pf (TS (txX x)++r) e= .ok (x,r,e,())
 term:2<=tightF x.op->∀r e,Fl0 r->pt (TS (txX x)++r) e=pRx op1 pf x (op1 r).1 (op1 r).2 e
 expr:∀r e,Fl1 r->pX (TS (txX x)++r) e=pRx op2 pt x (op2 r).1 (op2 r).2 e
theorem Rdb.all {x:Ex} (h:Rdb x) {r:List Tok} (hr:Fl2 r) (e:Int):pX (TS (txX x)++r) e= .ok (x,r,e,()):=by
 rw [h.expr r e hr.1,Z9h hr,Z5t,if_pos rfl]
theorem Zvl {l:List Tok} {e:Int} {x:Ex} {r:List Tok} (h:pX l e= .ok (x,tkS Zx::r,e,())):pf (tkS Xb::l) e= .ok (x,r,e,()):=by
 have:pf (tkS Xb::l) e=(match pX l e with
  | .error er=> .error er
  | .ok (x,y)=>if isW Zx y.1 then .ok (x,y.1.tail,y.2.1,()) else .error (hdT y.2.1 y.1,160)):=rfl
 rw [this,h]
 rfl
theorem Zew (w:List Nat) (ws:List (List Nat)):TS (w::ws)=tkS w::TS ws:=rfl
theorem Zkf (a b:List (List Nat)):TS (a++b)=TS a++TS b:=List.map_append
theorem Rdb.par3 {x:Ex} (h:Rdb x) {r:List Tok} (hr:Fl0 r) (e:Int):pf (TS (par x.op 3 (txX x))++r) e= .ok (x,r,e,()):=by
 unfold par
 split
 · exact h.fac (by assumption) r e hr
 · have e1:TS (Xb::(txX x++ [Zx]))++r=tkS Xb::(TS (txX x)++tkS Zx::r):=by simp
   rw [e1]
   exact Zvl (h.all (Zbr r) e)
theorem Zp5 {l r:List Tok} {e:Int} {x:Ex} (h:pf l e= .ok (x,r,e,())):pt l e=pRx op1 pf x (op1 r).1 (op1 r).2 e:=by rw [Yb3,h]
theorem Rdb.par2 {x:Ex} (h:Rdb x) {r:List Tok} (hr:Fl0 r) (e:Int):pt (TS (par x.op 2 (txX x))++r) e=pRx op1 pf x (op1 r).1 (op1 r).2 e:=by
 unfold par
 split
 · exact h.term (by assumption) r e hr
 · have e1:TS (Xb::(txX x++ [Zx]))++r=tkS Xb::(TS (txX x)++tkS Zx::r):=by simp
   rw [e1]
   exact Zp5 (Zvl (h.all (Zbr r) e))
theorem Zvm (op:Int):1<=tightF op:=by unfold tightF;split<;>(try split)<;>decide
theorem Rdb.par1 {x:Ex} (h:Rdb x) {r:List Tok} (hr:Fl1 r) (e:Int):pX (TS (par x.op 1 (txX x))++r) e=pRx op2 pt x (op2 r).1 (op2 r).2 e:=by
 unfold par
 rw [if_pos (Zvm _)]
 exact h.expr r e hr
theorem Zex {x:Ex} (hf:3<=tightF x.op->∀r e,Fl0 r->pf (TS (txX x)++r) e= .ok (x,r,e,())) (ht:∀r e,Fl0 r->pt (TS (txX x)++r) e=pRx op1 pf x (op1 r).1 (op1 r).2 e):Rdb x:=
 ⟨hf,fun _=>ht,fun r e hr=>by rw [Z9g,ht r e hr.1,Z4a hr.2,Z5s,if_pos rfl]⟩
theorem U6 {x:Ex} (h:∀r e,Fl0 r->pf (TS (txX x)++r) e= .ok (x,r,e,())):Rdb x:=
 Zex (fun _=>h) fun r e hr=>Zp5 (h r e hr)
theorem Zp6 {e:Int}:∀{xs:List Ex} {ss:List (List Nat)} {acc:List Ex} {r:List Tok},xs.length=ss.length->(∀x∈xs,Rdb x)->(∀s∈ss,(∀r,Fl2 (tkS s::r))/\∀r,isW s (tkS s::r)=true)->pOpL pX ss acc (TS (txS (txL xs) ss)++r) e= .ok (acc++xs,r,e,())
 | [],[],acc,r,_,_,_=>by simp [pOpL,txL,txS]
 |x::xs,s::ss,acc,r,hl,hx,hs=>by
  have e1:TS (txS (txL (x::xs)) (s::ss))++r=TS (txX x)++tkS s::(TS (txS (txL xs) ss)++r):=by simp [txL,txS]
  rw [e1]
  unfold pOpL
  rw [(hx x (by simp)).all ((hs s (by simp)).1 _) e]
  dsimp only
  rw [if_pos ((hs s (by simp)).2 _),List.tail_cons,Zp6 (by simpa using hl) (fun x h=>hx x (by simp [h])) (fun s h=>hs s (by simp [h]))]
  rw [List.append_assoc]
  rfl
theorem sg4:∀s∈ [Zcd,Z0,Z0,Zx],(∀r,Fl2 (tkS s::r))/\∀r,isW s (tkS s::r)=true:=by
 intro s hs
 simp only [List.mem_cons,List.not_mem_nil,or_false] at hs
 rcases hs with rfl|rfl|rfl|rfl
 · exact ⟨Z0n,fun _=>rfl⟩
 · exact ⟨Zev,fun _=>rfl⟩
 · exact ⟨Zev,fun _=>rfl⟩
 · exact ⟨Zbr,fun _=>rfl⟩
theorem sg2:∀s∈ [Z0,Zx],(∀r,Fl2 (tkS s::r))/\∀r,isW s (tkS s::r)=true:=by
 intro s hs
 simp only [List.mem_cons,List.not_mem_nil,or_false] at hs
 rcases hs with rfl|rfl
 · exact ⟨Zev,fun _=>rfl⟩
 · exact ⟨Zbr,fun _=>rfl⟩
theorem Zp7 {op:Int} {xs:List Ex} {ss:List (List Nat)} {r:List Tok} {e:Int} (hl:xs.length=ss.length) (hx:∀x∈xs,Rdb x) (hs:∀s∈ss,(∀r,Fl2 (tkS s::r))/\∀r,isW s (tkS s::r)=true):
 pOps pX op ss (tkS Xb::(TS (txS (txL xs) ss)++r)) e= .ok (.mk op 0 0 0 0 0 xs,r,e,()):=by
 unfold pOps
 rw [if_pos (show isW Xb (tkS Xb::(TS (txS (txL xs) ss)++r))=true from rfl),List.tail_cons,Zp6 hl hx hs]
 rfl
theorem Z4b:∀k:WK,∀w∈k.words,(w==Xb)=false/\(w==sIf)=false:=by intro k;cases k<;>decide
theorem Yb8:∀w∈WK.at_.words,idxS w 0 WK.ca.words= -1:=by decide
theorem Zvn {k:WK} {i:Nat} (h:i<k.words.length) (r:List Tok) (e:Int):pf (tkS (k.words.getD i [])::r) e=(match Zn WK.ca.words (tkS (k.words.getD i [])::r) e with
 | .error er=> .error er
 | .ok (k,y)=>
  if k.2.1 then pOps pX (6+k.1) [Z0,Zx] y.1 y.2.1
  else match Z9 WK.at_.words y.1 y.2.1 with
   | .error er=> .error er
   | .ok (a,z)=> .ok (.mk 2 a 0 0 0 0 [],z)):=by
 have h1:=Z39 (s:=Xb) (Zis h) r
 have h2:=Z39 (s:=sIf) (Zis h) r
 rw [(Z4b k _ (Zqs h)).1] at h1
 rw [(Z4b k _ (Zqs h)).2] at h2
 show (if (tkS (k.words.getD i [])).kind=2 then _ else Up pX (tkS (k.words.getD i [])::r) e)=_
 rw [if_neg (by rw [Z6w h];show ¬(1:Int)=2;decide)]
 unfold Up
 rw [if_neg (by rw [h1];decide),if_neg (by rw [h2];decide)]
 rfl
theorem Zcs {op n:Int} {u:List Int} {k:Nat} (h:Zf0 op n u k=true):1<=op/\op<=11/\0<=n/\n<=Z3c op/\k=Zjk op/\Zaj u=true/\(op=1\/u= [0,0,0,0]):=by
 unfold Zf0 at h
 simp only [Bool.and_eq_true,Bool.or_eq_true,decide_eq_true_eq] at h
 obtain ⟨⟨⟨⟨⟨⟨h1,h2⟩,h3⟩,h4⟩,h5⟩,h6⟩,h7⟩:=h
 exact ⟨h1,h2,h3,h4,h5,h6,h7⟩
theorem len2 {α:Type} {l:List α} (h:l.length=2):∃a b,l= [a,b]:=by
 match l,h with
 | [a,b],_=>exact ⟨a,b,rfl⟩
theorem rdb:∀(x:Ex),Zz x=true->Rdb x:=by
 suffices H:∀(m:Nat) (x:Ex),x.sz<=m->Zz x=true->Rdb x from fun x=>H _ x (Nat.le_refl _)
 intro m
 induction m with
 |zero=>intro x h;have:=x.sz_pos;omega
 |succ m ih=>
  intro x hm hf
  rw [Zd6,Bool.and_eq_true] at hf
  obtain ⟨hh,hl⟩:=hf
  have hkid:∀y∈x.l,Rdb y:=fun y hy=>ih y (by have:=Ex.sz_mem hy;omega) (formL_iff.1 hl y hy)
  obtain ⟨op,n,a,b,c,d,l⟩:=x
  simp only [Ex.op,Ex.n,Ex.u,Ex.d0,Ex.d1,Ex.d2,Ex.d3,Ex.l] at hh hkid
  obtain ⟨h1,h2,h3,h4,h5,h6,h7⟩:=Zcs hh
  clear hm hl hh
  have htx:txX (.mk op n a b c d l)=txN op n [a,b,c,d] (l.map Ex.op) (txL l):=by rw [txX]
  by_cases q1:op=1
  · subst q1
    have hl:l= []:=List.eq_nil_of_length_eq_zero (by rw [h5];rfl)
    subst hl
    refine U6 fun r e hr=> ?_
    rw [htx]
    unfold txN
    rw [if_pos rfl,Zew,List.cons_append,Zxc h3 h4]
    show (match Xf (TS (txU [a,b,c,d])++r) e with
     | .error er=>_
     | .ok (d,y)=>_)=_
    rw [Zvj h6 hr e]
    rfl
  have hu:a=0/\b=0/\c=0/\d=0:=by
   rcases h7 with h7|h7
   · exact absurd h7 q1
   · simpa using h7
  obtain ⟨rfl,rfl,rfl,rfl⟩:=hu
  by_cases q2:op=2
  · subst q2
    have hl:l= []:=List.eq_nil_of_length_eq_zero (by rw [h5];rfl)
    subst hl
    have hn:n.toNat<WK.at_.words.length:=by
     have:n<=15:=h4
     show n.toNat<16
     omega
    refine U6 fun r e hr=> ?_
    rw [htx]
    unfold txN
    rw [if_neg q1,if_pos rfl]
    show pf (tkS (WK.at_.words.getD n.toNat [])::r) e=_
    rw [Zvn hn]
    have hc:¬0<=chz WK.ca.words (tkS (WK.at_.words.getD n.toNat [])::r):=by
     rw [Z6w hn]
     show ¬0<=(if (1:Int)=1 then idxS (WK.at_.words.getD n.toNat []) 0 WK.ca.words else-1)
     rw [if_pos rfl,Yb8 _ (Zqs hn)]
     decide
    unfold Zn
    rw [if_neg hc]
    dsimp only
    rw [if_neg (by decide)]
    unfold Z9
    rw [Zdd hn,if_pos (by omega)]
    dsimp only [List.tail_cons]
    rw [show ((n.toNat:Nat):Int)=n by omega]
  have hn0:n=0:=by
   unfold Z3c at h4
   rw [if_neg q1,if_neg q2] at h4
   omega
  subst hn0
  by_cases q3:op=11
  · subst q3
    have hl:l.length=4:=h5
    refine U6 fun r e hr=> ?_
    rw [htx]
    unfold txN
    rw [if_neg q1,if_neg q2,if_pos rfl]
    have e1:TS (sIf::Xb::txS (txL l) [Zcd,Z0,Z0,Zx])++r=tkS sIf::tkS Xb::(TS (txS (txL l) [Zcd,Z0,Z0,Zx])++r):=rfl
    rw [e1]
    show pOps pX 11 [Zcd,Z0,Z0,Zx] (tkS Xb::(TS (txS (txL l) [Zcd,Z0,Z0,Zx])++r)) e=_
    exact Zp7 (by rw [hl];rfl) hkid sg4
  have hl2:l.length=2:=by
   rw [h5]
   unfold Zjk
   rw [if_neg (by omega),if_neg q3]
  by_cases q4:op=3\/op=4\/op=5
  · obtain ⟨x,y,rfl⟩:=len2 hl2
    have hx:=hkid x (by simp)
    have hy:=hkid y (by simp)
    have htx:txX (.mk op 0 0 0 0 0 [x,y])=par x.op (tightF op) (txX x)++sgnO op::par y.op (tightF op+1) (txX y):=by
     rw [htx]
     unfold txN
     rw [if_neg q1,if_neg q2,if_neg q3,if_pos q4]
     rfl
    by_cases q5:op=5
    · subst q5
      refine Zex (fun h=>absurd h (by show ¬3<=tightF 5;decide)) fun r e hr=> ?_
      rw [htx,Zkf,List.append_assoc]
      show pt (TS (par x.op 2 (txX x))++tkS sMul::(TS (par y.op 3 (txX y))++r)) e=_
      rw [hx.par2 (Z5v _) e]
      show pRx op1 pf x 5 (TS (par y.op 3 (txX y))++r) e=_
      rw [Z5s,if_neg (by decide),hy.par3 hr e]
    · have q6:op=3\/op=4:=by omega
      have ht:tightF op=1:=by unfold tightF;rw [if_pos q6]
      refine ⟨fun h=>absurd h (by show ¬3<=tightF op;rw [ht];decide),fun h=>absurd h (by show ¬2<=tightF op;rw [ht];decide),fun r e hr=> ?_⟩
      rw [htx,Zkf,List.append_assoc,ht]
      have hy2:pt (TS (par y.op 2 (txX y))++r) e= .ok (y,r,e,()):=by rw [hy.par2 hr.1 e,Z4a hr.2,Z5s,if_pos rfl]
      rcases q6 with rfl|rfl
      · show pX (TS (par x.op 1 (txX x))++tkS Za5::(TS (par y.op 2 (txX y))++r)) e=_
        rw [hx.par1 (Z0p _) e]
        show pRx op2 pt x 3 (TS (par y.op 2 (txX y))++r) e=_
        rw [Z5t,if_neg (by decide),hy2]
      · show pX (TS (par x.op 1 (txX x))++tkS Vm::(TS (par y.op 2 (txX y))++r)) e=_
        rw [hx.par1 (Zvk _) e]
        show pRx op2 pt x 4 (TS (par y.op 2 (txX y))++r) e=_
        rw [Z5t,if_neg (by decide),hy2]
  · have hk:(op-6).toNat<WK.ca.words.length:=by
     show (op-6).toNat<5
     omega
    refine U6 fun r e hr=> ?_
    rw [htx]
    unfold txN
    rw [if_neg q1,if_neg q2,if_neg q3,if_neg q4]
    have e1:TS (WK.ca.words.getD (op-6).toNat []::Xb::txS (txL l) [Z0,Zx])++r=tkS (WK.ca.words.getD (op-6).toNat [])::tkS Xb::(TS (txS (txL l) [Z0,Zx])++r):=rfl
    rw [e1,Zvn hk]
    unfold Zn
    rw [Zdd hk,if_pos (by omega)]
    dsimp only [List.tail_cons]
    rw [if_pos rfl,Zp7 (by rw [hl2];rfl) hkid sg2]
    rw [show (6:Int)+(((op-6).toNat:Nat):Int)=op by omega]
end
end Go.Proofs.YtddgkebdlgglaaaGreatDoor
