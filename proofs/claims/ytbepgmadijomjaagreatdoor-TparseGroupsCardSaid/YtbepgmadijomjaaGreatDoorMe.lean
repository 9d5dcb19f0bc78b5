/- Merged texts: TpIb, EngZM, TpQ, TpPb, TpPc, TpR, TpPd, TpPe, TpPf, TpPg, TpS, TpT, TpW, TpX, TpU, TpY. -/
import Derived.Test.YtbepgmadijomjaaGreatDoorMd
namespace Go.Proofs.YtbepgmadijomjaaGreatDoor
set_option linter.unusedVariables false
set_option linter.unusedSimpArgs false
set_option linter.unnecessarySimpa false
set_option maxRecDepth 100000
section
open Go
theorem Ya2:∀(k u:Nat),u<10^(k+1)->Lib.nDigits u<=k+1
 |0,u,h=>by rw [Lib.nDigits_small (by simpa using h)];exact Nat.le_refl _
 |k+1,u,h=>by
  by_cases h1:u<10
  · rw [Lib.nDigits_small h1];omega
  · rw [Lib.nDigits_big h1]
    rw [Nat.pow_succ] at h
    have:=Ya2 k (u/10) (by omega)
    omega
theorem Zxu {u:Int} {k:Res thy->Prop}:∀{l:List Int},ndK u k l->∀j∈l,(Lib.nDigits u.toNat:Int)=j->k (Zd [] (.int true .i64 j))
 | [],_,j,hj,_=>by cases hj
 |x::r,h,j,hj,e=>by
  rcases List.mem_cons.1 hj with rfl|hj
  · exact h.1 e
  · exact Zxu h.2 j hj e
theorem in13 (d:Nat) (h1:1<=d) (h2:d<=13):(d:Int)∈ [(1:Int),2,3,4,5,6,7,8,9,10,11,12,13]:=by
 have:d=1\/d=2\/d=3\/d=4\/d=5\/d=6\/d=7\/d=8\/d=9\/d=10\/d=11\/d=12\/d=13:=by omega
 rcases this with rfl|rfl|rfl|rfl|rfl|rfl|rfl|rfl|rfl|rfl|rfl|rfl|rfl<;>decide
theorem Ya3:SumOk E 165 Snd:=by
 have hS:SumOk E 165 (Vn (dA1 dU64) (fun x=>1<=x.1/\x.1<10000000000000) (fun x=>Lib.nDigits x.1.toNat) fun (y:Nat)=> .int true .i64 y):=Z5 E_ok (Zc rfl) fun x h=>by
  have:=Z5u x.1.toNat (by omega) (by omega)
  rw [show ((x.1.toNat:Nat):Int)=x.1 by omega] at this
  intro g w vals hI hd
  refine (this g w vals hI hd).mono ?_
  rintro en w' ⟨u,he,g',h1,h2,h3⟩
  cases h3
  exact ⟨_,he,g',h1,h2,.int _ _ _⟩
 refine ⟨hS.good,fun args h i k hD hk=> ?_⟩
 unfold Snd at hk
 split at hk
 case h_2=>exact hk.elim
 rename_i l u
 obtain ⟨⟨h1,h2⟩,hk⟩:=hk
 refine hS.ok _ h i k hD ⟨⟨h1,h2⟩,fun y hy=> ?_⟩
 subst hy
 have hn:=Ya2 12 u.toNat (by show u.toNat<10000000000000;omega)
 have hp:=Lib.nDigits_pos u.toNat
 refine Zxu hk _ (in13 _ hp hn) rfl
theorem Zxv:SumOk E 164 Z4s:=Z5 E_ok (Zc rfl) fun x h=>by
 have:=Zr0 x.1.toNat (by omega)
 rw [show ((x.1.toNat:Nat):Int)=x.1 by omega] at this
 have e:Lib.itoa x.1=Lib.decDigits x.1.toNat:=by unfold Lib.itoa;rw [if_neg (by omega)]
 rw [e]
 exact this
theorem Ya4:FnsOk E Fit:=Zb (Zb F0_ok Ya3) Zxv
def smV (i:Nat):Nat:=if i%2=0 then 48+i/2/10 else 48+i/2%10
theorem Z66:∀i,i<200->smT[i]? =some (smV i):=by decide+kernel
theorem Z67:smT.length=200:=by decide+kernel
theorem Ya5 {e:Int} {P:Nat->Prop} (h0:0<=e) (h1:e<200) (h:P (smV e.toNat)):(0:Int)<=e/\e+(1:Int)<=(↑(List.length smT):Int)/\∀(x:Nat),smT[Int.toNat e]? =some x->P x:=by
 refine ⟨h0,by rw [Z67];omega,fun x hx=> ?_⟩
 rw [Z66 _ (by omega)] at hx
 cases hx
 exact h
theorem smE {x:Int} (h0:0<=x) (h1:x<100):smV (x*2).toNat%(256:Nat)=48+x.toNat/10:=by
 have:smV (x*2).toNat=48+x.toNat/10:=by
  unfold smV
  rw [if_pos (by omega)]
  congr 2
  omega
 rw [this]
 omega
theorem smO {x:Int} (h0:0<=x) (h1:x<100):smV (x*2+1).toNat%(256:Nat)=48+x.toNat%10:=by
 have:smV (x*2+1).toNat=48+x.toNat%10:=by
  unfold smV
  rw [if_neg (by omega)]
  congr 2
  omega
 rw [this]
 omega
theorem wu64 (x:Int):wr .u64 x=x%18446744073709551616:=rfl
theorem wu32 (x:Int):wr .u32 x=x%4294967296:=rfl
theorem wu8 (x:Int):wr .u8 x=x%256:=rfl
def dgN (u j:Nat):Nat:=48+u/10^j%10
theorem Z1w (u k:Nat) (h:Lib.nDigits u=k):(Lib.decDigits u).map UInt8.toNat=(List.range k).map fun t=>dgN u (k-1-t):=by
 rw [Lib.decDigits_eq,List.map_map,h]
 refine List.map_congr_left fun t _=> ?_
 show (Lib.dg u (k-1-t)).toNat=_
 unfold Lib.dg dgN
 rw [UInt8.toNat_ofNat']
 omega
set_option maxHeartbeats 4000000 in
theorem Zxw (u:Nat) (hu:u<10000000000000):PureC E 117 [.int false .i64 (u:Int)] (.str false (decN u)):=by
 refine Za E_ok (Zg E_ok Ya4 2000) ?_
 rw [Zyq]; delta qCAo qCA6 qCAd Z3 qCAz We qCA8 Zat qCA3 qCAc Zn4 qCA5 qCAw qCAr Z7s Zc4 qCAm Zc5 qCAj Z71 Z7t Zn5 qCAq Z7r Z72 Z7o Zcd Zob qCAk Zoj Zce Zoc qCAf Zok Zcf Zod qCAg Zol Zcg Zoe qCA9 Zom Z7q Zn1 Zlq Z7u Zn6 qCAx Zn7 qCAs Z7v qCAv Z70 Zn2 Zlr Z7w Zc6 qCAp Zc7 qCAn Z7x Zn8 qCAt Z7p Zch Zof qCAl Zon Zci Zog qCAh Zoo Zcj Zoh qCAi Zop Zck Zoi qCAa Zoq Z7n Zn3 Zls Z7y Zn9 qCAy Zoa qCAu Z7z qCA7 qCA4 Zn0 qCA2 qCAe qCAb qCA1 Zlp
 have hdec:decN (u:Int)=(Lib.decDigits u).map UInt8.toNat:=by
  unfold decN Lib.itoa
  rw [if_neg (by omega)]
  rfl
 by_cases hs:u<100
 · refine ⟨fun b=>b=true,⟨fun _=>⟨fun _=>rfl,fun h=> ?_⟩,fun h=> ?_⟩,fun _=>⟨⟨by omega,by omega⟩,fun y hy=>hy⟩,fun h=>by cases h⟩
   · exact absurd h (by simp;omega)
   · exact absurd h (by simp)
 refine ⟨fun b=>b=false,⟨fun _=>⟨fun h=> ?_,fun _=>rfl⟩,fun _=>rfl⟩,fun h=>(by cases h),fun _=>⟨fun h=> ?_,fun _=> ?_⟩⟩
 · exact absurd h (by simp;omega)
 · exact absurd h (by simp)
 have e64:wr .u64 (u:Int)=u:=by rw [wu64];omega
 have hneg:decide ((u:Int)<0)=false:=by simp
 simp only [e64,hneg,Bool.false_eq_true,false_implies,true_implies,true_and,Int.toNat_natCast,and_true]
 rw [hdec]
 have hp:=Lib.lt_pow_nDigits u
 refine ⟨⟨by omega,by omega⟩,?_⟩
 repeat' apply And.intro
 all_goals
  intro hnd
  have hnd:=Int.ofNat.inj hnd
  rw [Z1w u _ hnd]
  rw [hnd] at hp
  simp only [Nat.reducePow] at hp
  clear hnd hdec e64 hneg
  simp (disch:=omega) only [wu64,wu32,wu8,Int.tmod_eq_emod_of_nonneg,Int.tdiv_eq_ediv_of_nonneg]
  simp (disch:=omega) only [Int.emod_eq_of_lt]
  repeat' (first|(refine Ya5 ?_ ?_ ?_)|omega)
  all_goals try simp only [List.range,List.range.loop,List.map_cons,List.map_nil,dgN,List.cons.injEq,and_true,Nat.reduceSub,Nat.reducePow]
  all_goals (repeat' apply And.intro)
  all_goals try simp (disch:=omega) only [smE,smO]
  all_goals first|trivial|omega
end
section
open Go.RowKit
section
variable {Y : Thy} {E : Eng Y}
def celS (E:Eng Y) (th:Y.Th) (st:Option (List (Y.dom th)×Nat)) (c:Nat):SV Y:=
 match st with
 |some p=> .sl c 0 p.1.length (E.w th) none
 |none=> .val (.slice none 0 0)
def hpP (E:Eng Y) (th:Y.Th) (st:Option (List (Y.dom th)×Nat)):Hp Y:=fun b=>
 match Nat.beq b 0 with
 |true=>some (.raw [celS E th st 1] 0 none)
 |false=>(match Nat.beq b 1 with
  |true=>(match st with|some p=>some (.rows th p.1 p.2)|none=>none)
  |false=>none)
def fzO {α:Type} (st:Option (α×Nat)):Nat:=match st with|some p=>p.2|none=>0
def mdO {α:Type} (st:Option (α×Nat)) (b c:Nat):List Nat:=match st with|some _=> [b,c]|none=> [b]
def prnR (E:Eng Y) (th:Y.Th) (st:Option (List (Y.dom th)×Nat)) (b c i:Nat) (l':List (Y.dom th)):Res Y:=
 ⟨.tup [],1,mdO st b c,fun x=>match Nat.beq x b with|true=>some (.raw [.sl i 0 l'.length (E.w th) none] 0 none)|false=>at1 i (some (.rows th l' (fzO st))) x,none⟩
def PrnC (E:Eng Y) (f:Nat) (th:Y.Th) (args:List (SV Y)) (st:Option (List (Y.dom th)×Nat)) (l':List (Y.dom th)):Prop:=
 ∀(b c:Nat) (h:Hp Y) (i:Nat) (tg:Option Y.Th),h b=some (.raw [celS E th st c] 0 tg)->(∀p,st=some p->h c=some (.rows th p.1 p.2)/\b≠c)->Ut E f (.ptr b 0::args) h i (prnR E th st b c i l')
def prnK (E:Eng Y) (th:Y.Th) (st:Option (List (Y.dom th)×Nat)) (l':List (Y.dom th)) (r:Res Y):Prop:=
 match r.v,patch (hpP E th st) 2 r 0 with
 | .tup [],some (.raw [.sl c 0 n w none] 0 _)=>
  (match Nat.ble 1 c&&Nat.beq w (E.w th),patch (hpP E th st) 2 r c with
  |true,some (.rows th' L fz')=>Za4 L fun L=>L=l'/\n=l'.length/\fz'=fzO st
  |_,_=>False)
 |_,_=>False
theorem Yc5 (th:Y.Th) (st:Option (List (Y.dom th)×Nat)):hpP E th st 0=some (.raw [celS E th st 1] 0 none):=rfl
theorem Uz {th:Y.Th} {st:Option (List (Y.dom th)×Nat)} {x:Nat} {y:Blk Y} (h:hpP E th st x=some y):(x=0/\y= .raw [celS E th st 1] 0 none)\/(x=1/\∃p,st=some p/\y= .rows th p.1 p.2):=by
 match x,h with
 |0,h=>rw [Yc5] at h;cases h;exact .inl ⟨rfl,rfl⟩
 |1,h=>
  cases st with
  |none=>cases h
  |some p=>
   have h:some (Blk.rows th p.1 p.2:Blk Y)=some y:=h
   cases h
   exact .inr ⟨rfl,p,rfl,rfl⟩
 |x+2,h=>cases h
theorem Z6x (th:Y.Th) (st:Option (List (Y.dom th)×Nat)):DomLt (hpP E th st) 2:=fun b hb=>by
 obtain ⟨y,hy⟩:=Option.ne_none_iff_exists'.1 hb
 rcases Uz hy with ⟨rfl,_⟩|⟨rfl,_⟩<;>omega
def σP {α:Type} (st:Option α) (σ:Pl) (b c:Nat):Pl:=fun x=>
 match Nat.beq x 0 with
 |true=>σ b
 |false=>(match Nat.beq x 1 with
  |true=>(match st with|some _=>σ c|none=>none)
  |false=>none)
theorem σP_cases {α:Type} {st:Option α} {σ:Pl} {b c x:Nat} {q:Nat×Nat} (h:σP st σ b c x=some q):(x=0/\σ b=some q)\/(x=1/\(∃p,st=some p)/\σ c=some q):=by
 match x,h with
 |0,h=>exact .inl ⟨rfl,h⟩
 |1,h=>
  cases st with
  |none=>cases h
  |some p=>exact .inr ⟨rfl,⟨p,rfl⟩,h⟩
 |x+2,h=>cases h
theorem mdO_mem {α:Type} {st:Option (α×Nat)} {b c x:Nat}:x∈mdO st b c↔x=b\/(x=c/\∃p,st=some p):=by
 cases st with
 |none=>simp [mdO]
 |some p=>simp [mdO]
open Classical in
theorem Zdj (hE:EngOk E) {call:Nat->List (SV Y)->Hp Y->Nat->(Res Y->Prop)->Prop} (hcall:Vj E call) {f:Nat} {th:Y.Th} {args:List (SV Y)} {st:Option (List (Y.dom th)×Nat)} {l':List (Y.dom th)} (ha:nidL 0 args=true)
 (hk:call f (.ptr 0 0::args) (hpP E th st) 2 (prnK E th st l')):PrnC E f th args st l':=by
 intro b c h i tg hb hc
 obtain ⟨r,hr,hR,htri⟩:=hcall f _ _ _ _ (Z6x th st) hk
 have hmods:∀x∈r.mods,x=0\/(x=1/\∃p,st=some p):=by
  intro x hx
  obtain ⟨y,hy⟩:=Option.ne_none_iff_exists'.1 (hR x hx)
  rcases Uz hy with ⟨h1,_⟩|⟨h1,p,h2,_⟩
  · exact .inl h1
  · exact .inr ⟨h1,p,h2⟩
 unfold prnK at hr
 split at hr
 case h_2=>exact hr.elim
 rename_i c' n' w' tg' hv hp0
 split at hr
 case h_2=>exact hr.elim
 rename_i th' L fz' hc1 hpc
 obtain ⟨e,hr⟩:=Xl hr
 subst e
 obtain ⟨rfl,rfl,rfl⟩:l'=L/\n'=l'.length/\fz'=fzO st:=⟨hr.1.symm,hr.2⟩
 rw [Bool.and_eq_true,Nat.ble_eq] at hc1
 obtain ⟨hc1,hw⟩:=hc1
 have hw:=Nat.eq_of_beq_eq_true hw
 subst hw
 replace htri:Ut E f (.ptr 0 0::args) (hpP E th' st) 2 r:=htri.resolve_right (by rintro ⟨p,hp,_⟩;rw [hv] at hp;cases hp)
 intro B σ g W vals hh hrd hI hB hfree hd
 obtain rfl:hh=h:=funext fun b=>hrd b trivial
 obtain ⟨rb,zb,hσb,hbo⟩:=hI.blk b _ hb
 have hbn:hh b≠none:=by rw [hb];simp
 have F0:σP st σ b c 0=σ b:=rfl
 have F1:∀p,st=some p->σP st σ b c 1=σ c:=by rintro p rfl;rfl
 have bc:∀p,st=some p->b≠c:=fun p hp=>(hc p hp).2
 have cn:∀p,st=some p->hh c≠none:=fun p hp=>by rw [(hc p hp).1];simp
 have reg:∀p q z z',st=some p->σ b=some (q,z)->σ c=some (q,z')->False:=fun p q z z' hp h1 h2=>bc p hp (hI.inj b c q z z' hbn (cn p hp) h1 h2)
 have hI1:Inv E B (σP st σ b c) (hpP E th' st) g W:=by
  refine ⟨hI.gc,hI.gm,fun x y hx=> ?_,fun x x' r z z' h1 h2 h3 h4=> ?_,fun x r' z' hs=> ?_,fun x y r' z' o v hx hs hv=> ?_,fun x y r' z' hx hs=> ?_,hI.glob⟩
  · rcases Uz hx with ⟨rfl,rfl⟩|⟨rfl,p,hp,rfl⟩
    · refine ⟨rb,zb,hσb,?_⟩
      obtain ⟨arr,e,k1,k2,k3,k4,k5⟩:=hbo
      refine ⟨arr,e,k1,k2,k3,fun j sv hj=> ?_,trivial⟩
      cases j with
      |succ j=>cases hj
      |zero=>
       have hj:some (celS E th' st 1)=some sv:=hj
       cases hj
       obtain ⟨v,m1,m2⟩:=k4 0 _ (show ([celS E th' st c]:List (SV Y))[0]? =some _ from rfl)
       refine ⟨v,m1,?_⟩
       cases st with
       |none=>exact Z6 hE m2 (fun b p hb=>by omega) (show nid 0 (celS E th' none 1)=true from rfl)
       |some p=>
        obtain ⟨r1,z1,c1,rfl,k1,k2,k3,k4,k5⟩:=Zaw (show Den E σ g (.sl c 0 p.1.length (E.w th') none) v from m2)
        exact .sl (E:=E) (b:=1) k1 k2 k3 k4 k5
    · obtain ⟨r1,z1,k1,arr,e,k2,k3,k4,k5,k6⟩:=hI.blk c _ (hc p hp).1
      refine ⟨r1,z1,(F1 p hp).trans k1,arr,e,k2,k3,k4,fun j sv hj=> ?_,k6⟩
      obtain ⟨v,m1,m2⟩:=k5 j sv hj
      have hn:nid 0 sv=true:=by
       obtain ⟨q,p,x,rfl,hp,hq,hs⟩:=Xp hE th' _ hj
       exact Zt (hE.encI _ _ _) hs
      exact ⟨v,m1,Z6 hE m2 (fun b p hb=>by omega) hn⟩
  · rcases σP_cases h3 with ⟨rfl,h3⟩|⟨rfl,⟨p,hp⟩,h3⟩<;>rcases σP_cases h4 with ⟨rfl,h4⟩|⟨rfl,⟨p',hp'⟩,h4⟩
    · rfl
    · exact (reg p' _ _ _ hp' h3 h4).elim
    · exact (reg p _ _ _ hp h4 h3).elim
    · rfl
  · rcases σP_cases hs with ⟨rfl,hs⟩|⟨rfl,_,hs⟩
    · exact hI.base b _ _ hs
    · exact hI.base c _ _ hs
  · rcases Uz hx with ⟨rfl,rfl⟩|⟨rfl,p,hp,rfl⟩
    · have h2:o<0:=hI.fz b _ _ _ o v hb hs hv
      omega
    · rw [F1 p hp] at hs
      exact hI.fz c _ _ _ o v (hc p hp).1 hs hv
  · rcases Uz hx with ⟨rfl,rfl⟩|⟨rfl,p,hp,rfl⟩
    · exact hI.fm b _ _ _ hb hs
    · rw [F1 p hp] at hs
      exact hI.fm c _ _ _ (hc p hp).1 hs
 have hd1:DenL E (σP st σ b c) g (.ptr 0 0::args) vals.toList:=by
  refine ⟨by rw [<-hd.1];rfl,fun j sv u h1 h2=> ?_⟩
  cases j with
  |zero=>
   simp at h1;subst h1
   have:=hd.2 0 _ u rfl h2
   cases this
   rename_i hs
   exact .ptr (E:=E) (b:=0) hs
  |succ j=>
   have h1:args[j]? =some sv:=by simpa using h1
   exact Z6 hE (hd.2 (j+1) sv u (by simpa using h1) h2) (fun b p hb=>by omega) (Zt ha h1)
 refine (htri B _ g W vals _ (fun _ _=>rfl) hI1 hB (fun x h1 h2=>by match x,h1 with|x+2,_=>rfl) hd1).mono ?_
 rintro en w' ⟨u,he,σ',g',hS,hI',hv'⟩
 have hs0:σ' 0=some (rb,zb):=hS.sig 0 _ hσb
 obtain ⟨r1,z1,k1⟩:∃r1 z1,σ' c'=some (r1,z1):=by
  obtain ⟨r1,z1,m1,_⟩:=hI'.blk c' _ hpc
  exact ⟨r1,z1,m1⟩
 have hc0:c'≠0:=by omega
 have hne0:patch (hpP E th' st) 2 r 0≠none:=by rw [hp0];simp
 have hnec:patch (hpP E th' st) 2 r c'≠none:=by rw [hpc];simp
 have hrb:r1≠rb:=by
  rintro rfl
  exact hc0 (hI'.inj c' 0 _ _ _ hnec hne0 k1 hs0)
 have hr1:W.heap.size<=r1\/∃z' p,st=some p/\σ c=some (r1,z'):=by
  cases hs1:σP st σ b c c' with
  |some q=>
   have:=hS.sig c' _ hs1
   rw [k1] at this;cases this
   rcases σP_cases hs1 with ⟨h0,_⟩|⟨_,⟨p,hp⟩,h2⟩
   · exact absurd h0 hc0
   · exact .inr ⟨z1,p,hp,h2⟩
  |none=>
   rcases hS.blk c' r1 z1 hs1 k1 with h1|⟨b',h1,z',h2⟩
   · exact .inl h1
   · rcases σP_cases h2 with ⟨rfl,h3⟩|⟨_,⟨p,hp⟩,h3⟩
     · rw [hσb] at h3;cases h3;exact absurd rfl hrb
     · exact .inr ⟨z',p,hp,h3⟩
 have hheap:∀q,q<W.heap.size->q≠rb->(∀p z,st=some p->σ c≠some (q,z))->w'.heap[q]? =W.heap[q]? :=by
  intro q hq hne hne2
  refine hS.heap q hq fun b' hb' z' hz'=> ?_
  rcases σP_cases hz' with ⟨rfl,h2⟩|⟨_,⟨p,hp⟩,h2⟩
  · rw [hσb] at h2;cases h2;exact hne rfl
  · exact hne2 p z' hp h2
 have hi:σ i=none:=hfree i (Nat.le_refl _) (by show i<i+1;omega)
 have hbi:b≠i:=by rintro rfl;rw [hσb] at hi;cases hi
 have hci:∀p,st=some p->c≠i:=by
  rintro p hp rfl
  obtain ⟨r2,z2,m1,_⟩:=hI.blk c _ (hc p hp).1
  rw [hi] at m1;cases m1
 have hpatch:∀x,patch hh i (prnR E th' st b c i l') x=if x=b then some (.raw [.sl i 0 l'.length (E.w th') none] 0 none) else if x=i then some (.rows th' l' (fzO st)) else if x=c/\(∃p,st=some p) then none else hh x:=by
  intro x
  rw [Zh]
  by_cases e1:x=b
  · subst e1
    rw [if_pos (.inl (mdO_mem.2 (.inl rfl))),if_pos rfl]
    show (match Nat.beq x x with|true=>_|false=>_)=_
    rw [Nat.beq_refl]
  · rw [if_neg e1]
    have hb1:Nat.beq x b=false:=by
     cases e:Nat.beq x b with
     |true=>exact absurd (Nat.eq_of_beq_eq_true e) e1
     |false=>rfl
    have hh1:(prnR E th' st b c i l').h x=at1 i (some (.rows th' l' (fzO st))) x:=by
     show (match Nat.beq x b with|true=>_|false=>_)=_
     rw [hb1]
    by_cases e2:x=i
    · subst e2
      rw [if_pos (.inr ⟨Nat.le_refl _,(by show x<x+1;omega)⟩),if_pos rfl,hh1]
      unfold at1
      rw [Nat.beq_refl]
    · rw [if_neg e2]
      have hat:at1 i (some (.rows th' l' (fzO st):Blk Y)) x=none:=by
       unfold at1
       cases e:Nat.beq x i with
       |true=>exact absurd (Nat.eq_of_beq_eq_true e) e2
       |false=>rfl
      by_cases e3:x=c/\∃p,st=some p
      · rw [if_pos e3,if_pos (.inl (mdO_mem.2 (.inr e3))),hh1,hat]
      · rw [if_neg e3,if_neg]
        rintro (k|k)
        · rcases mdO_mem.1 k with k|k
          · exact e1 k
          · exact e3 k
        · have k:i<=x/\x<i+1:=k
          omega
 have src:∀x y,patch hh i (prnR E th' st b c i l') x=some y->(x=b/\y= .raw [.sl i 0 l'.length (E.w th') none] 0 none)\/(x=i/\y= .rows th' l' (fzO st))\/(x≠i/\x≠b/\(∀p,st=some p->x≠c)/\hh x=some y):=by
  intro x y hy
  rw [hpatch] at hy
  split at hy
  · rename_i e
    cases hy
    exact .inl ⟨e,rfl⟩
  · rename_i e
    split at hy
    · rename_i e2
      cases hy
      exact .inr (.inl ⟨e2,rfl⟩)
    · rename_i e2
      split at hy
      · cases hy
      · rename_i e3
        exact .inr (.inr ⟨e2,e,fun p hp hx=>e3 ⟨hx,p,hp⟩,hy⟩)
 have sgi:(match Nat.beq i i with|true=>σ' c'|false=>σ i)=some (r1,z1):=by rw [Nat.beq_refl];exact k1
 have sgx:∀x,x≠i->(match Nat.beq x i with|true=>σ' c'|false=>σ x)=σ x:=by
  intro x hx
  cases e:Nat.beq x i with
  |true=>exact absurd (Nat.eq_of_beq_eq_true e) hx
  |false=>rfl
 have far:∀x y q z',x≠b->(∀p,st=some p->x≠c)->hh x=some y->σ x=some (q,z')->q<W.heap.size/\q≠rb/\(∀p z,st=some p->σ c≠some (q,z)):=by
  intro x y q z' hx hx2 hy hs
  have hxn:hh x≠none:=by rw [hy];simp
  refine ⟨(hI.base x q z' hs).2,?_,fun p z hp hq=>hx2 p hp (hI.inj x c _ _ _ hxn (cn p hp) hs hq)⟩
  rintro rfl
  exact hx (hI.inj x b _ _ _ hxn hbn hs hσb)
 have far1:∀x y q z',x≠b->(∀p,st=some p->x≠c)->hh x=some y->σ x=some (q,z')->q≠r1:=by
  rintro x y q z' hx hx2 hy hs rfl
  obtain ⟨m1,m2,m3⟩:=far x y q z' hx hx2 hy hs
  rcases hr1 with h1|⟨z2,p,hp,h1⟩
  · omega
  · exact m3 p z2 hp h1
 have far0:rb<W.heap.size:=(hI.base b _ _ hσb).2
 refine ⟨_,he,fun x=>match Nat.beq x i with|true=>σ' c'|false=>σ x,g',⟨fun x p hx=> ?_,fun x p hx=> ?_,hS.gle,fun q o v hv=> ?_,hS.gmnew,fun q hq hne=> ?_,hS.size,hS.os,hS.tape,hS.output,fun x q z' hx hx'=> ?_⟩,?_,?_⟩
 · exact (sgx x (fun e=>by rw [e,hi] at hx;cases hx)).trans hx
 · by_cases e:x=i
   · exact .inr (by show i<=x/\x<i+1;omega)
   · have hx:(match Nat.beq x i with|true=>σ' c'|false=>σ x)=some p:=hx
     rw [sgx x e] at hx
     exact .inl hx
 · rcases hS.gcnew q o v hv with h1|h1|⟨b',h1,z',h2⟩
   · exact .inl h1
   · exact .inr (.inl h1)
   · rcases σP_cases h2 with ⟨rfl,h2⟩|⟨_,hp,h2⟩
     · exact .inr (.inr ⟨b,mdO_mem.2 (.inl rfl),_,h2⟩)
     · exact .inr (.inr ⟨c,mdO_mem.2 (.inr ⟨rfl,hp⟩),_,h2⟩)
 · exact hheap q hq (fun e=>hne b (mdO_mem.2 (.inl rfl)) zb (by rw [hσb,e])) fun p z hp=>hne c (mdO_mem.2 (.inr ⟨rfl,p,hp⟩)) z
 · have hx':(match Nat.beq x i with|true=>σ' c'|false=>σ x)=some (q,z'):=hx'
   by_cases e:x=i
   · subst e
     rw [sgi] at hx';cases hx'
     rcases hr1 with h1|⟨z2,p,hp,h1⟩
     · exact .inl h1
     · exact .inr ⟨c,mdO_mem.2 (.inr ⟨rfl,p,hp⟩),z2,h1⟩
   · rw [sgx x e,hx] at hx';cases hx'
 · refine ⟨hI'.gc,hI'.gm,fun x y hx=> ?_,fun x x' q z1' z2' h1 h2 h3 h4=> ?_,fun x q z' hs=> ?_,fun x y q z' o v hx hs hv=> ?_,fun x y q z' hx hs=> ?_,hI'.glob⟩
   · rcases src x y hx with ⟨rfl,rfl⟩|⟨rfl,rfl⟩|⟨e1,e2,e3,e4⟩
     · refine ⟨rb,zb,(sgx x hbi).trans hσb,?_⟩
       obtain ⟨r2,z2,m1,arr,e,n1,n2,n3,n4,n5⟩:=hI'.blk 0 _ hp0
       rw [hs0] at m1;cases m1
       refine ⟨arr,e,n1,n2,n3,fun j sv hj=> ?_,trivial⟩
       cases j with
       |succ j=>cases hj
       |zero=>
        have hj:some (SV.sl i 0 l'.length (E.w th') none:SV Y)=some sv:=hj
        cases hj
        obtain ⟨v,q1,q2⟩:=n4 0 _ (show ([.sl c' 0 l'.length (E.w th') none]:List (SV Y))[0]? =some _ from rfl)
        refine ⟨v,q1,?_⟩
        obtain ⟨r3,z3,c3,rfl,u1,u2,u3,u4,u5⟩:=Zaw (show Den E σ' g' (.sl c' 0 l'.length (E.w th') none) v from q2)
        refine .sl (E:=E) (b:=i) (z:=z3) ?_ u2 u3 u4 u5
        show (match Nat.beq i i with|true=>σ' c'|false=>σ i)=_
        rw [Nat.beq_refl]
        exact u1
     · refine ⟨r1,z1,sgi,?_⟩
       obtain ⟨r2,z2,m1,m2⟩:=hI'.blk c' _ hpc
       rw [k1] at m1;cases m1
       obtain ⟨arr,e,m1,m3,m4,m5,m6⟩:=m2
       refine ⟨arr,e,m1,m3,m4,fun j sv hj=> ?_,m6⟩
       obtain ⟨v,n1,n2⟩:=m5 j sv hj
       have hn:nid 0 sv=true:=by
        obtain ⟨q,p,x,rfl,hp,hq,hs⟩:=Xp hE th' _ hj
        exact Zt (hE.encI _ _ _) hs
       exact ⟨v,n1,Z6 hE n2 (fun b p hb=>by omega) hn⟩
     · obtain ⟨q,z',m1,m2⟩:=hI.blk x y e4
       obtain ⟨m3,m4,m5⟩:=far x y q z' e2 e3 e4 m1
       refine ⟨q,z',(sgx x e1).trans m1,?_⟩
       refine m2.mono (fun x p hx=> ?_) hS.gle (hheap q m3 m4 m5)
       show (match Nat.beq x i with|true=>σ' c'|false=>σ x)=some p
       rw [sgx x (fun e=>by rw [e,hi] at hx;cases hx)]
       exact hx
   · obtain ⟨y,hy⟩:=Option.ne_none_iff_exists'.1 h1
     obtain ⟨y',hy'⟩:=Option.ne_none_iff_exists'.1 h2
     rcases src x y hy with ⟨rfl,rfl⟩|⟨rfl,rfl⟩|⟨e1,e2,e3,e4⟩<;>rcases src x' y' hy' with ⟨rfl,rfl⟩|⟨rfl,rfl⟩|⟨d1,d2,d3,d4⟩
     · rfl
     · rw [sgx x hbi,hσb] at h3;cases h3
       rw [sgi] at h4;cases h4
       exact absurd rfl hrb
     · rw [sgx x hbi,hσb] at h3;cases h3
       rw [sgx x' d1] at h4
       exact absurd rfl (far x' y' _ _ d2 d3 d4 h4).2.1
     · rw [sgi] at h3;cases h3
       rw [sgx x' hbi,hσb] at h4;cases h4
       exact absurd rfl hrb
     · rfl
     · rw [sgi] at h3;cases h3
       rw [sgx x' d1] at h4
       exact absurd rfl (far1 x' y' _ _ d2 d3 d4 h4)
     · rw [sgx x' hbi,hσb] at h4;cases h4
       rw [sgx x e1] at h3
       exact absurd rfl (far x y _ _ e2 e3 e4 h3).2.1
     · rw [sgi] at h4;cases h4
       rw [sgx x e1] at h3
       exact absurd rfl (far1 x y _ _ e2 e3 e4 h3)
     · rw [sgx x e1] at h3
       rw [sgx x' d1] at h4
       exact hI.inj x x' q _ _ (by rw [e4];simp) (by rw [d4];simp) h3 h4
   · by_cases e:x=i
     · subst e
       rw [sgi] at hs;cases hs
       exact hI'.base c' _ _ k1
     · rw [sgx x e] at hs
       exact ⟨(hI.base x q z' hs).1,Nat.lt_of_lt_of_le (hI.base x q z' hs).2 hS.size⟩
   · rcases src x y hx with ⟨rfl,rfl⟩|⟨rfl,rfl⟩|⟨e1,e2,e3,e4⟩
     · rw [sgx x hbi,hσb] at hs;cases hs
       have h2:o<0:=hI'.fz 0 _ _ _ o v hp0 hs0 hv
       omega
     · rw [sgi] at hs;cases hs
       exact hI'.fz c' _ _ _ o v hpc k1 hv
     · rw [sgx x e1] at hs
       obtain ⟨m3,m4,m5⟩:=far x y q z' e2 e3 e4 hs
       rcases hS.gcnew q o v hv with h1|h1|⟨b',h1,z2,h2⟩
       · exact hI.fz x y q z' o v e4 hs h1
       · omega
       · rcases σP_cases h2 with ⟨rfl,h3⟩|⟨_,⟨p,hp⟩,h3⟩
         · rw [hσb] at h3;cases h3;exact absurd rfl m4
         · exact absurd h3 (m5 p z2 hp)
   · rcases src x y hx with ⟨rfl,rfl⟩|⟨rfl,rfl⟩|⟨e1,e2,e3,e4⟩
     · rw [sgx x hbi,hσb] at hs;cases hs
       exact hI'.fm 0 _ _ _ hp0 hs0
     · rw [sgi] at hs;cases hs
       exact hI'.fm c' _ _ _ hpc k1
     · rw [sgx x e1] at hs
       obtain ⟨m3,m4,m5⟩:=far x y q z' e2 e3 e4 hs
       cases hg':g'.obj q with
       |none=>rfl
       |some es=>
        rcases hS.gmnew q es hg' with k|k
        · rw [hI.fm x y q z' e4 hs] at k;cases k
        · omega
 · rw [hv] at hv'
   exact Z6 hE hv' (fun b p hb=>by omega) (show nid 0 (SV.tup ([]:List (SV Y)))=true from rfl)
def sumB (E:Eng Y) (th:Y.Th) {α:Type} (d:DcL E α) (pre:List (Y.dom th)->α->Prop) (f:List (Y.dom th)->α->List (Y.dom th)):Sum Y:=fun args h i k=>
 match args with
 | .ptr b 0::rest=>
  (match h b,d.dec rest with
  |some (.raw [.sl c 0 len w none] 0 _),some x=>
   (match h c,Nat.beq w (E.w th)&& !(Nat.beq b c) with
   |some (.rows th' l fz),true=>Za4 l fun l=>(len=l.length/\fz<=l.length/\pre l x)/\∀l',l'=f l x->k (prnR E th (some (l,fz)) b c i l')
   |_,_=>False)
  |some (.raw [.val (.slice none 0 0)] 0 _),some x=>pre [] x/\∀l',l'=f [] x->k (prnR E th none b 0 i l')
  |_,_=>False)
 |_=>False
def Yc6 (E:Eng Y) (f:Nat) (th:Y.Th) (args:List (SV Y)) (F:List (Y.dom th)->List (Y.dom th)) (P:List (Y.dom th)->Prop):Prop:=
 (∀l fz,fz<=l.length->P l->PrnC E f th args (some (l,fz)) (F l))/\(P []->PrnC E f th args none (F []))
theorem PrnC.of_dec {α:Type} {d:DcL E α} {f:Nat} {th:Y.Th} {args:List (SV Y)} {x:α} {st:Option (List (Y.dom th)×Nat)} {l':List (Y.dom th)} (hd:d.dec args=some x) (h:PrnC E f th (d.enc x) st l'):PrnC E f th args st l':=by
 obtain ⟨k1,k2,k3⟩:=d.ok _ _ hd
 intro b c hp i tg h1 h2 B σ g w vals hh hrd hI hB hfree hden
 refine h b c hp i tg h1 h2 B σ g w vals hh hrd hI hB hfree ⟨?_,fun j sv' u h5 h6=> ?_⟩
 · rw [<-hden.1,List.length_cons,List.length_cons,k2]
 · cases j with
   |zero=>exact hden.2 0 sv' u h5 h6
   |succ j=>
    obtain ⟨sv,h7,h8⟩:=k3 σ g j sv' (by simpa using h5)
    exact h8 u (hden.2 (j+1) sv u (by simpa using h7) h6)
theorem Ziq (hE:EngOk E) {th:Y.Th} {α:Type} {f:Nat} (hg:FnGood E.P f) {d:DcL E α} {pre:List (Y.dom th)->α->Prop} {F:List (Y.dom th)->α->List (Y.dom th)} (hp:∀x,Yc6 E f th (d.enc x) (fun l=>F l x) (fun l=>pre l x)):SumOk E f (sumB E th d pre F):=by
 refine ⟨hg,fun args h i k hD hk=> ?_⟩
 unfold sumB at hk
 split at hk
 case h_2=>exact hk.elim
 rename_i b rest
 split at hk
 case h_3=>exact hk.elim
 · rename_i c len w tg x hb hx
   split at hk
   case h_2=>exact hk.elim
   rename_i th' l fz hc hw
   rw [Bool.and_eq_true,Bool.not_eq_true'] at hw
   obtain ⟨hw,hbc⟩:=hw
   have hw:=Nat.eq_of_beq_eq_true hw
   have hbc:=nb hbc
   obtain ⟨e,hk2⟩:=Xl hk
   clear hk
   subst e
   subst hw
   obtain ⟨⟨rfl,hfz,hpr⟩,hk3⟩:=hk2
   refine ⟨_,hk3 _ rfl,fun b' hb'=> ?_,.inl (PrnC.of_dec hx ((hp x).1 l fz hfz hpr) b c h i tg hb fun p hp=> ?_)⟩
   · rcases mdO_mem.1 (show b'∈mdO (some (l,fz)) b c from hb') with rfl|⟨rfl,_⟩
     · rw [hb];simp
     · rw [hc];simp
   · cases hp
     exact ⟨hc,hbc⟩
 · rename_i tg x hb hx
   obtain ⟨hpr,hk3⟩:=hk
   refine ⟨_,hk3 _ rfl,fun b' hb'=> ?_,.inl (PrnC.of_dec hx ((hp x).2 hpr) b 0 h i tg hb fun p hp=>by cases hp)⟩
   rcases mdO_mem.1 (show b'∈mdO (none:Option (List (Y.dom th)×Nat)) b 0 from hb') with rfl|⟨_,_,h2⟩
   · rw [hb];simp
   · cases h2
end
end
section
open Go
theorem Zyr {F:Fns thy} (hF:FnsOk E F) {n:Nat} {f:Nat} {th:Th} {args:List (SV thy)} {st:Option (List (thy.dom th)×Nat)} {l':List (thy.dom th)} (ha:nidL 0 args=true) (hk:Zm E F (vc E F n) f (.ptr 0 0::args) (hpP E th st) 2 (prnK E th st l')):PrnC E f th args st l':=
 Zdj E_ok (Zg E_ok hF n) ha hk
def Aixi:Fr thy->Hp thy->Nat->Ann thy:=fun T h i=>{X:=LX,fr:=fun x=> [(0,T 0),(1,T 1),(7,T 7),(8,.int false .i64 x.k)],bl:=fun x=> [],src:=fun _=> [],md:= [],ih:=i,M:=i+30,meas:=fun x=>x.r}
noncomputable def Fixi:Fns thy:=addL F0 149 2 Aixi E
theorem Z2r (l:List Int) (s:Int) (v:Int):Zm E Fixi (vc E Fixi 400) 149 [.psl Th.dimc l false,.int false .i64 s] hp0 0 (fun r=>ret E (patch hp0 0 r) r.v (.int false .i64 v))=(
∃(R:LX->Prop),(∃(x:LX),R x/\true=true/\((l=l/\(false=true->false=true))/\s=s/\(↑(List.length l):Int)=(↑(List.length l):Int)/\(0:Int)=(↑(LX.k x):Int)/\True)/\True)/\∀(x:LX),R x->(decide ((↑(LX.k x):Int)<(↑(List.length l):Int))=true->(0:Int)<=(↑(LX.k x):Int)/\(↑(LX.k x):Int)+(1:Int)<=(↑(List.length l):Int)/\∀(x_1:Int),l[Int.toNat (↑(LX.k x):Int)]? =some x_1->((s==x_1)=true->(↑(LX.k x):Int)=v)/\((s==x_1)=false->∃(x_2:LX),R x_2/\x_2.2+(1:Nat)<=x.2/\true=true/\((l=l/\(false=true->false=true))/\s=s/\(↑(List.length l):Int)=(↑(List.length l):Int)/\wr IntKind.i64 ((↑(LX.k x):Int)+(1:Int))=(↑(LX.k x_2):Int)/\True)/\True))/\(decide ((↑(LX.k x):Int)<(↑(List.length l):Int))=false->(-1:Int)=v)):=by kernel_rfl
noncomputable def dIs:Dc E (List Int):=(Zr1 (E:=E) Th.dimc:Dc E (List (thy.dom Th.dimc)))
noncomputable def Sixi:Sum thy:=Zlh E (fun _=>none) 2 (Vn (dA2 dIs dN) (fun x=>x.1.length<=1000000000) (fun x=>idxI x.2.1 0 x.1) fun y=> .int false .i64 y)
noncomputable def Ybs:Sum thy:=Vn (dA1 dN) (fun x=>0<=x.1/\x.1<10000000000000) (fun x=>decN x.1) fun y=> .str false y
noncomputable def Fpu:Fns thy:=addS (addS (addS F0 42 Zc8) 149 Sixi) 117 Ybs
abbrev qCD4:=(0:Int)
abbrev qCD6:=(↑(4:Nat):Int)
abbrev qCD3:=(Int.toNat qCD6-Int.toNat qCD4)
abbrev qCD1 (a0:Int) (b0:Int) (c0:Int) (d0:Int):=(List.take qCD3 (List.drop (Int.toNat qCD4) [a0,b0,c0,d0]))
abbrev qCD2:=((4:Nat)=(4:Nat)/\qCD4<=qCD4/\qCD4<=qCD6/\qCD6<=qCD6/\(qCD4+(1:Int)<=qCD6\/qCD4=qCD4))
abbrev qCD5:=(↑(List.length (WK.words WK.un)):Int)
theorem Ztu (l:List (List Nat)) (fz:Nat) (a b c d:Int) (l':List (List Nat)):Zm E Fpu (vc E Fpu 400) 119 [.ptr 0 0,dimA a b c d] (hpP E Th.strs (some (l,fz))) 2 (prnK E Th.strs (some (l,fz)) l')=(
 qCD2/\Int.toNat qCD4+qCD3<=(4:Nat)/\List.length (qCD1 a b c d)<=(1000000000:Nat)/\∀(y:Int),y=idxI (1:Int) (0:Nat) (qCD1 a b c d)->(decide (y>=qCD4)=true->qCD4<=y/\y+(1:Int)<=qCD5/\∀(x:List Nat),(WK.words WK.un)[Int.toNat y]? =some x->(List.length l<=List.length l/\fz<=List.length l/\(List.length l+(1:Nat))*(16:Nat)<=(140737488355328:Nat))/\qCD2/\Int.toNat qCD4+qCD3<=(4:Nat)/\List.length (qCD1 a b c d)<=(1000000000:Nat)/\∀(y:Int),y=idxI (-1:Int) (0:Nat) (qCD1 a b c d)->(decide (y>=qCD4)=true->qCD4<=y/\y+(1:Int)<=qCD5/\∀(x_1:List Nat),(WK.words WK.un)[Int.toNat y]? =some x_1->(List.length l+(1:Nat)<=List.length (List.take (List.length l) l++ [x])/\fz<=List.length l+(1:Nat)/\(List.length l+(1:Nat)+(2:Nat))*(16:Nat)<=(140737488355328:Nat))/\List.take (List.length l+(1:Nat)) (List.take (List.length l) l++ [x])++ [[(112:Nat),(101:Nat),(114:Nat)],x_1]=l'/\List.length l+(1:Nat)+(2:Nat)=List.length l'/\fz=fzO (some (l,fz)))/\(decide (y>=qCD4)=false->List.take (List.length l) l++ [x]=l'/\List.length l+(1:Nat)=List.length l'/\fz=fzO (some (l,fz))))/\(decide (y>=qCD4)=false->qCD2/\Int.toNat qCD4+qCD3<=(4:Nat)/\List.length (qCD1 a b c d)<=(1000000000:Nat)/\∀(y:Int),y=idxI (-1:Int) (0:Nat) (qCD1 a b c d)->(decide (y>=qCD4)=true->qCD4<=y/\y+(1:Int)<=qCD5/\∀(x:List Nat),(WK.words WK.un)[Int.toNat y]? =some x->(List.length l<=List.length l/\fz<=List.length l/\(List.length l+(2:Nat))*(16:Nat)<=(140737488355328:Nat))/\List.take (List.length l) l++ [[(112:Nat),(101:Nat),(114:Nat)],x]=l'/\List.length l+(2:Nat)=List.length l'/\fz=fzO (some (l,fz)))/\(decide (y>=qCD4)=false->l=l'/\List.length l=List.length l'/\fz=fzO (some (l,fz))))):=by kernel_rfl
theorem Zys {v:Int} {l:List Int}:∀{k:Nat} {x:Int},l[k]? =some x->idxI v k (l.drop k)=if v=x then (k:Int) else idxI v (k+1) (l.drop (k+1)):=by
 intro k x h
 rw [Vy h]
 rfl
theorem Z2s (l:List Int) (s:Int) (hl:l.length<=1000000000):PureC E 149 [.psl Th.dimc l false,.int false .i64 s] (.int false .i64 (idxI s 0 l)):=by
 have hF:FnsOk E Fixi:=Z1 E_ok F0_ok _ _ _
 refine Za E_ok (Zg E_ok hF 400) ?_
 rw [Z2r]
 simp only [and_true,true_and,decide_eq_true_eq,decide_eq_false_iff_not,beq_iff_eq,beq_eq_false_iff_ne,imp_self]
 refine ⟨fun x=>x.k<=l.length/\idxI s x.k (l.drop x.k)=idxI s 0 l/\x.r=l.length-x.k,⟨⟨0,l.length,[],0⟩,⟨(by dsimp only;omega),rfl,rfl⟩,rfl⟩,?_⟩
 rintro x ⟨hk,hv,hr⟩
 refine And.intro (fun hq=>⟨by omega,by omega,fun y hy=> ?_⟩) (fun hq=> ?_)
 · have hy:l[x.k]? =some y:=hy
   rw [Zys hy] at hv
   refine ⟨fun e=> ?_,fun e=> ?_⟩
   · rw [if_pos e] at hv;exact hv
   · rw [if_neg e] at hv
     exact ⟨⟨x.k+1,l.length-(x.k+1),[],0⟩,⟨(by dsimp only;omega),hv,rfl⟩,by show l.length-(x.k+1)+1<=x.r;omega,wr64 (by omega) (by omega)⟩
 · rw [List.drop_eq_nil_of_le (by omega)] at hv
   exact hv
theorem Z73:SumOk E 149 Sixi:=Zff E_ok (Z5 E_ok (Zc rfl) fun x h=>Z2s x.1 x.2.1 h)
theorem Z2t:SumOk E 117 Ybs:=Z5 E_ok (Zc rfl) fun x h=>by
 have:=Zxw x.1.toNat (by omega)
 rw [show ((x.1.toNat:Nat):Int)=x.1 by omega] at this
 exact this
theorem Zq7:FnsOk E Fpu:=Zb (Zb (Zb F0_ok Zc9) Z73) Z2t
theorem Zor:∀{v:Int} {l:List Int} {k:Nat},idxI v k l<k+l.length
 |v,[],k=>by unfold idxI;simp;omega
 |v,x::l,k=>by
  unfold idxI
  split
  · simp;omega
  · have:=Zor (v:=v) (l:=l) (k:=k+1)
    simp at this⊢;omega
theorem Zq8 {y:Int} (h0:0<=y) {x:List Nat} (hx:(WK.words WK.un)[Int.toNat y]? =some x):WK.un.words.getD y.toNat []=x:=by
 simp [List.getD,hx]
theorem Z2u (l:List (List Nat)) (fz:Nat) (a b c d:Int) (hf:fz<=l.length) (hl:l.length+8<=1000000000):PrnC E 119 Th.strs [dimA a b c d] (some (l,fz)) (l++txU [a,b,c,d]):=by
 refine Zyr Zq7 (n:=400) rfl ?_
 rw [Ztu];delta qCD4 qCD6 qCD3 qCD1 qCD2 qCD5
 have i1:=Zor (v:=1) (l:= [a,b,c,d]) (k:=0)
 have i2:=Zor (v:= -1) (l:= [a,b,c,d]) (k:=0)
 have L4:(WK.words WK.un).length=4:=rfl
 have l4:(List.length [a,b,c,d]:Int)=4:=rfl
 have e:List.take (Int.toNat (↑(4:Nat):Int)-Int.toNat (0:Int)) (List.drop (Int.toNat (0:Int)) [a,b,c,d])= [a,b,c,d]:=rfl
 rw [e]
 clear e
 refine ⟨by decide,by decide,by show 4<=1000000000;decide,fun y hy=>⟨fun h=> ?_,fun h=> ?_⟩⟩
 · have h:0<=y:=by simpa using h
   rw [<-hy] at i1
   refine ⟨h,by rw [L4];omega,fun x hx=>⟨⟨Nat.le_refl _,hf,by omega⟩,by decide,by decide,by show 4<=1000000000;decide,fun z hz=>⟨fun h2=> ?_,fun h2=> ?_⟩⟩⟩
   · have h2:0<=z:=by simpa using h2
     rw [<-hz] at i2
     refine ⟨h2,by rw [L4];omega,fun x2 hx2=>⟨⟨by simp,by omega,by omega⟩,?_⟩⟩
     have:txU [a,b,c,d]= [x,sPer,x2]:=by
      unfold txU
      rw [<-hy,<-hz,if_pos h,if_pos h2,Zq8 h hx,Zq8 h2 hx2]
      rfl
     rw [this,List.take_length]
     have e2:List.take (l.length+1) (l++ [x])=l++ [x]:=List.take_of_length_le (by simp)
     rw [e2]
     simp [sPer,fzO]
   · have h2:¬0<=z:=by simpa using h2
     have:txU [a,b,c,d]= [x]:=by
      unfold txU
      rw [<-hy,<-hz,if_pos h,if_neg h2,Zq8 h hx]
      rfl
     rw [this]
     simp [fzO]
 · have h:¬0<=y:=by simpa using h
   refine ⟨by decide,by decide,by show 4<=1000000000;decide,fun z hz=>⟨fun h2=> ?_,fun h2=> ?_⟩⟩
   · have h2:0<=z:=by simpa using h2
     rw [<-hz] at i2
     refine ⟨h2,by rw [L4];omega,fun x2 hx2=>⟨⟨Nat.le_refl _,hf,by omega⟩,?_⟩⟩
     have:txU [a,b,c,d]= [sPer,x2]:=by
      unfold txU
      rw [<-hy,<-hz,if_neg h,if_pos h2,Zq8 h2 hx2]
      rfl
     rw [this]
     simp [sPer,fzO]
   · have h2:¬0<=z:=by simpa using h2
     have:txU [a,b,c,d]= []:=by
      unfold txU
      rw [<-hy,<-hz,if_neg h,if_neg h2]
      rfl
     rw [this]
     simp [fzO]
noncomputable def Sunp:Sum thy:=sumB E Th.strs dDim (fun l x=>1<=l.length/\l.length+8<=1000000000) fun (l:List (List Nat)) x=>l++txU [x.1.getD 0 0,x.1.getD 1 0,x.1.getD 2 0,x.1.getD 3 0]
theorem Z74:SumOk E 119 Sunp:=Ziq E_ok (Zc rfl) fun x=>⟨fun l fz hf h=>Z2u l fz _ _ _ _ hf h.2,fun h=>absurd h.1 (by decide)⟩
noncomputable def Sxp (m:Nat):Sum thy:=sumB E Th.strs dExp (fun l x=>x.1.sz<m/\Z2 x.1=true/\1<=l.length/\l.length+8*x.1.sz+8<=1000000000) fun (l:List (List Nat)) x=>l++txX x.1
theorem Zos (n:Int) (v:Int):Zm E F0 (vc E F0 400) 121 [.int false .i64 n] hp0 0 (fun r=>ret E (patch hp0 0 r) r.v (.int false .i64 v))=(
((n==(3:Int))=true->(1:Int)=v)/\((n==(3:Int))=false->((n==(4:Int))=true->(1:Int)=v)/\((n==(4:Int))=false->((n==(5:Int))=true->(2:Int)=v)/\((n==(5:Int))=false->(3:Int)=v)))):=by kernel_rfl
noncomputable def Zyt:Sum thy:=Vn (dA1 dN) (fun _=>True) (fun x=>tightF x.1) fun y=> .int false .i64 y
noncomputable def Fop' (m:Nat):Fns thy:=addS (addS F0 121 Zyt) 79 (Sxp m)
abbrev qCD7 (a0:Ex):=(Ex.mk (Ex.op a0) (Ex.n a0) (Ex.d0 a0) (Ex.d1 a0) (Ex.d2 a0) (Ex.d3 a0) (Ex.l a0))
abbrev qCD8 (a0:List (List Nat)):=(List.take (List.length a0) a0++ [[(40:Nat)]])
theorem Ztv (m:Nat) (l:List (List Nat)) (fz:Nat) (x:Ex) (n:Int) (l':List (List Nat)):Zm E (Fop' m) (vc E (Fop' m) 400) 120 [.ptr 0 0,exA x,.int false .i64 n] (hpP E Th.strs (some (l,fz))) 2 (prnK E Th.strs (some (l,fz)) l')=(
 True/\∀(y:Int),y=tightF (Ex.op x)->(decide (y>=n)=true->(List.length l=List.length l/\fz<=List.length l/\Ex.sz (qCD7 x)+(1:Nat)<=m/\Z2 (qCD7 x)=true/\(1:Nat)<=List.length l/\List.length l+(8:Nat)*Ex.sz (qCD7 x)+(8:Nat)<=(1000000000:Nat))/\∀(l'_1:List (List Nat)),l'_1=l++txX (qCD7 x)->l'_1=l'/\List.length l'_1=List.length l'/\fzO (some (l,fz))=fzO (some (l,fz)))/\(decide (y>=n)=false->(List.length l<=List.length l/\fz<=List.length l/\(List.length l+(1:Nat))*(16:Nat)<=(140737488355328:Nat))/\(List.length l+(1:Nat)=List.length (qCD8 l)/\fz<=List.length (qCD8 l)/\Ex.sz (qCD7 x)+(1:Nat)<=m/\Z2 (qCD7 x)=true/\(1:Nat)<=List.length (qCD8 l)/\List.length (qCD8 l)+(8:Nat)*Ex.sz (qCD7 x)+(8:Nat)<=(1000000000:Nat))/\∀(l'_1:List (List Nat)),l'_1=List.take (List.length l) l++ [[(40:Nat)]]++txX (qCD7 x)->(List.length l'_1<=List.length l'_1/\fzO (some (List.take (List.length l) l++ [[(40:Nat)]],fz))<=List.length l'_1/\(List.length l'_1+(1:Nat))*(16:Nat)<=(140737488355328:Nat))/\List.take (List.length l'_1) l'_1++ [[(41:Nat)]]=l'/\List.length l'_1+(1:Nat)=List.length l'/\fzO (some (List.take (List.length l) l++ [[(40:Nat)]],fz))=fzO (some (l,fz)))):=by kernel_rfl
noncomputable def Ybt (m:Nat):Sum thy:=sumB E Th.strs Ybo (fun l x=>x.1.sz<m/\Z2 x.1=true/\1<=l.length/\l.length+8*x.1.sz+10<=1000000000) fun (l:List (List Nat)) x=>l++par x.1.op x.2.1 (txX x.1)
noncomputable def Fxp' (m:Nat):Fns thy:=addS (addS (addS (addS Fpu 119 Sunp) 121 Zyt) 79 (Sxp m)) 120 (Ybt m)
theorem Ztw (n:Int):PureC E 121 [.int false .i64 n] (.int false .i64 (tightF n)):=by
 refine Za E_ok (Zg E_ok F0_ok 400) ?_
 rw [Zos]
 unfold tightF
 refine ⟨fun h=> ?_,fun h=>⟨fun h2=> ?_,fun h2=>⟨fun h3=> ?_,fun h3=> ?_⟩⟩⟩
 all_goals simp at*
 all_goals simp [*]
theorem Zlt:SumOk E 121 Zyt:=Z5 E_ok (Zc rfl) fun x _=>Ztw x.1
def PxOk (m:Nat):Prop:=∀x:Ex,x.sz<m->Z2 x=true->∀(l:List (List Nat)) (fz:Nat),fz<=l.length->1<=l.length->l.length+8*x.sz+8<=1000000000->PrnC E 79 Th.strs [exA x] (some (l,fz)) (l++txX x)
theorem Zyu {m:Nat} (h:PxOk m):SumOk E 79 (Sxp m):=Ziq E_ok (Zc rfl) fun x=>⟨fun l fz hf hp=>h x.1 hp.1 hp.2.1 l fz hf hp.2.2.1 hp.2.2.2,fun hp=>absurd hp.2.2.1 (by decide)⟩
theorem Z75 {m:Nat} (h:PxOk m):FnsOk E (Fop' m):=Zb (Zb F0_ok Zlt) (Zyu h)
mutual
theorem Y6:∀(x:Ex),(txX x).length+2<=8*x.sz
 | .mk op n a b c d l=>by
  have h:=Zyv l
  have hs:∀ss:List (List Nat),(txS (txL l) ss).length+0<=8*Ex.szL l:=fun ss=>Zyw (txL l) ss (8*Ex.szL l) h
  have hU:(txU [a,b,c,d]).length<=3:=by
   unfold txU
   rw [List.length_append]
   split<;>split<;>simp
  have hp:∀op least t,(par op least t).length<=t.length+2:=by
   intro op least t
   unfold par
   split
   · omega
   · simp
  have h2:=Z2v (txL l) _ h
  rw [txX,Ex.sz]
  unfold txN
  split
  · rw [List.length_cons];omega
  · split
    · simp;omega
    · split
      · have:=hs [U0,Zv,Zv,Zi]
        rw [List.length_cons,List.length_cons]
        omega
      · split
        · rw [List.length_append,List.length_cons]
          have a1:=hp ((l.map Ex.op).getD 0 0) (tightF op) ((txL l).getD 0 [])
          have a2:=hp ((l.map Ex.op).getD 1 0) (tightF op+1) ((txL l).getD 1 [])
          omega
        · have:=hs [Zv,Zi]
          rw [List.length_cons,List.length_cons]
          omega
theorem Zyv:∀(l:List Ex),((txL l).map fun t=>t.length+2).sum<=8*Ex.szL l
 | []=>by simp [txL]
 |x::r=>by
  have h1:=Y6 x
  have h2:=Zyv r
  rw [txL,Ex.szL,List.map_cons,List.sum_cons]
  omega
theorem Zyw:∀(ts:List (List (List Nat))) (ss:List (List Nat)) (b:Nat),(ts.map fun t=>t.length+2).sum<=b->(txS ts ss).length+0<=b
 | [],_,_,h=>by simp [txS]
 |t::r,[],_,h=>by simp [txS]
 |t::r,s::ss,b,h=>by
  rw [List.map_cons,List.sum_cons] at h
  have:=Zyw r ss (b-(t.length+2)) (by omega)
  rw [txS,List.length_append,List.length_cons]
  omega
theorem Z2v:∀(ts:List (List (List Nat))) (b:Nat),(ts.map fun t=>t.length+2).sum<=b->(ts.getD 0 []).length+(ts.getD 1 []).length<=b
 | [],_,_=>by simp
 | [t],_,h=>by simp at h⊢;omega
 |t::u::r,_,h=>by simp at h⊢;omega
end
theorem Z2w {m:Nat} (hm:PxOk m) (l:List (List Nat)) (fz:Nat) (x:Ex) (n:Int) (hx:x.sz<m) (hxf:Z2 x=true) (hf:fz<=l.length) (h1:1<=l.length) (hl:l.length+8*x.sz+10<=1000000000):PrnC E 120 Th.strs [exA x,.int false .i64 n] (some (l,fz)) (l++par x.op n (txX x)):=by
 refine Zyr (Z75 hm) (n:=400) rfl ?_
 rw [Ztv];delta qCD7 qCD8
 have ht:=Y6 x
 simp only [fzO,List.take_length,Ex.eta,forall_eq,decide_eq_true_eq,decide_eq_false_iff_not,true_and,and_true]
 refine ⟨fun h=>⟨⟨hf,hx,hxf,h1,by omega⟩,?_⟩,fun h=>⟨⟨Nat.le_refl _,hf,by omega⟩,⟨by simp,by simp;omega,hx,hxf,by simp,by simp;omega⟩,⟨Nat.le_refl _,by simp;omega,by simp;omega⟩,?_⟩⟩
 · have:par x.op n (txX x)=txX x:=by unfold par;rw [if_pos h]
   rw [this]
   exact ⟨rfl,rfl⟩
 · have:par x.op n (txX x)=Z7::(txX x++ [Zi]):=by unfold par;rw [if_neg h]
   rw [this]
   simp [Z7,Zi]
   omega
theorem Z2x {m:Nat} (h:PxOk m):SumOk E 120 (Ybt m):=Ziq E_ok (Zc rfl) fun x=>⟨fun l fz hf hp=>Z2w h l fz x.1 x.2.1 hp.1 hp.2.1 hf hp.2.2.1 hp.2.2.2,fun hp=>absurd hp.2.2.1 (by decide)⟩
theorem Z76 {m:Nat} (h:PxOk m):FnsOk E (Fxp' m):=Zb (Zb (Zb (Zb Zq7 Z74) Zlt) (Zyu h)) (Z2x h)
end
section
open Go
def dD (u:Nat):List Nat:=(Lib.decDigits u).map UInt8.toNat
theorem Zb7 {u:Nat} (h:u<10):dD u= [48+u]:=by
 unfold dD
 rw [Lib.decDigits,dif_pos h]
 have:(UInt8.ofNat (48+u)).toNat=48+u:=by
  rw [UInt8.toNat_ofNat']
  omega
 simp only [List.map_cons,List.map_nil,this]
theorem Zlg {u:Nat} (h:¬u<10):dD u=dD (u/10)++ [48+u%10]:=by
 unfold dD
 rw [Lib.decDigits,dif_neg h]
 have:(UInt8.ofNat (48+u%10)).toNat=48+u%10:=by
  rw [UInt8.toNat_ofNat']
  omega
 rw [List.map_append]
 simp only [List.map_cons,List.map_nil,this]
theorem Zxt {n:Int} (h:0<=n):decN n=dD n.toNat:=by
 unfold decN dD Lib.itoa
 rw [if_neg (by omega)]
theorem Zqw:∀{a b:List Nat} {n m:Int},numL n a=(m,0)->numL n (a++b)=numL m b
 | [],b,n,m,h=>by
  unfold numL at h
  cases h
  rfl
 |c::r,b,n,m,h=>by
  unfold numL at h
  rw [List.cons_append]
  unfold numL
  split at h
  · cases h
  · rename_i hn
    rw [if_neg hn,Zqw h]
    cases b<;>rfl
theorem Z1u (u:Nat):dD u≠ []:=by
 by_cases h:u<10
 · rw [Zb7 h];simp
 · rw [Zlg h];simp
theorem Yaz:∀(u:Nat),u<=1099511627776->numL 0 (dD u)=((u:Int),0):=by
 intro u
 induction u using Nat.strongRecOn with
 |_ u ih=>
  intro hu
  by_cases h:u<10
  · rw [Zb7 h]
    unfold numL
    rw [if_neg (by omega)]
    unfold numL
    congr 1
    omega
  · rw [Zlg h,Zqw (ih (u/10) (by omega) (by omega))]
    unfold numL
    rw [if_neg (by omega)]
    unfold numL
    congr 1
    omega
theorem Ya0:∀(u:Nat),∀c∈dD u,isD (c:Int)=true:=by
 intro u
 induction u using Nat.strongRecOn with
 |_ u ih=>
  have one:∀k:Nat,k<10->isD ((48+k:Nat):Int)=true:=by
   intro k hk
   unfold isD
   simp
   omega
  by_cases h:u<10
  · rw [Zb7 h]
    intro c hc
    rw [List.mem_singleton] at hc
    subst hc
    exact one u h
  · rw [Zlg h]
    intro c hc
    rcases List.mem_append.1 hc with hc|hc
    · exact ih (u/10) (by omega) c hc
    · rw [List.mem_singleton] at hc
      subst hc
      exact one _ (by omega)
theorem Z63:∀(u:Nat),1<(dD u).length->(dD u).head?≠some 48:=by
 intro u
 induction u using Nat.strongRecOn with
 |_ u ih=>
  by_cases h:u<10
  · rw [Zb7 h]
    intro hl
    simp at hl
  · rw [Zlg h]
    intro _
    have e:(dD (u/10)++ [48+u%10]).head? =(dD (u/10)).head? :=by
     cases hd:dD (u/10) with
     |nil=>exact absurd hd (Z1u _)
     |cons x r=>rfl
    rw [e]
    by_cases h2:u/10<10
    · rw [Zb7 h2]
      intro k
      injection k with k
      omega
    · refine ih (u/10) (by omega) ?_
      rw [Zlg h2,List.length_append]
      have:=Z1u (u/10/10)
      cases hd:dD (u/10/10) with
      |nil=>exact absurd hd this
      |cons x r=>simp
theorem Zni {n:Int} (h0:0<=n) (h1:n<=1099511627776):tokP (decN n)=(⟨2,decN n,n,0⟩,0):=by
 rw [Zxt h0]
 have hne:=Z1u n.toNat
 have hd:=Ya0 n.toNat
 have hn:=Yaz n.toNat (by omega)
 have hh:=Z63 n.toNat
 have hc:((n.toNat:Nat):Int)=n:=by omega
 generalize dD n.toNat=w at*
 cases w with
 |nil=>exact absurd rfl hne
 |cons c r=>
  rw [Yc]
  have hdc:=hd c (by simp)
  have hl:isL (c:Int)=false:=by
   unfold isD at hdc
   unfold isL
   simp at hdc⊢
   omega
  rw [if_neg (by rw [hl];decide),if_pos hdc,Xz hd,List.take_length]
  have:numb (c::r)=(n,0):=by
   unfold numb
   rw [if_neg (fun k=>hh k.1 k.2),hn,hc]
  rw [this]
theorem Zd3 {n:Int} (h0:0<=n) (h1:n<=1099511627776):TokW (decN n):=by
 refine ⟨by rw [Zni h0 h1],by rw [Zni h0 h1],?_⟩
 rw [Zxt h0]
 exact Z1u _
theorem Z64 {n:Int} (h0:0<=n) (h1:n<=1099511627776):tkS (decN n)=⟨2,decN n,n,0⟩:=by
 unfold tkS
 rw [Zni h0 h1]
 rfl
theorem Yc7 {c:Nat} (h:wb c=true):isLD (c:Int)=true:=by
 unfold wb at h
 unfold isLD isL isD
 simp at h⊢
 omega
theorem Zd4 {s:List Nat} (h:X5 s=true):tokP s=(⟨1,s,0,0⟩,0):=by
 unfold X5 at h
 rw [Bool.and_eq_true,Bool.and_eq_true,decide_eq_true_eq] at h
 obtain ⟨⟨h1,h2⟩,h3⟩:=h
 cases s with
 |nil=>cases h2
 |cons c r=>
  have hc:isL (c:Int)=true:=by
   unfold lowF at h2
   unfold isL
   simp at h2⊢
   omega
  rw [Yc,if_pos hc,Xz fun c hc=>Yc7 (List.all_eq_true.1 h3 c hc),if_neg (by omega),List.take_length]
theorem Wv {s:List Nat} (h:X5 s=true):TokW s:=by
 refine ⟨by rw [Zd4 h],by rw [Zd4 h],?_⟩
 rintro rfl
 simp [X5,lowF] at h
theorem Zit {s:List Nat} (h:X5 s=true):tkS s=⟨1,s,0,0⟩:=by
 unfold tkS
 rw [Zd4 h]
 rfl
theorem Z1v:∀k:WK,∀w∈k.words,X5 w=true:=by
 intro k
 cases k<;>decide
theorem Zqx {k:WK} {i:Nat} (h:i<k.words.length):k.words.getD i []∈k.words:=by
 have:k.words.getD i []=k.words[i]:=by simp [List.getD,h]
 rw [this]
 exact List.getElem_mem h
theorem Ziu {k:WK} {i:Nat} (h:i<k.words.length):X5 (k.words.getD i [])=true:=Z1v k _ (Zqx h)
theorem Z65 {k:WK} {i:Nat} (h:i<k.words.length):tkS (k.words.getD i [])=⟨1,k.words.getD i [],0,0⟩:=Zit (Ziu h)
theorem Ya1:∀k:WK,∀i,i<k.words.length->idxS (k.words.getD i []) 0 k.words=i:=by
 intro k
 cases k<;>decide
theorem Zfe {k:WK} {i:Nat} (h:i<k.words.length) (r:List Tok):chz k.words (tkS (k.words.getD i [])::r)=i:=by
 rw [Z65 h]
 show (if (1:Int)=1 then idxS (k.words.getD i []) 0 k.words else-1)=i
 rw [if_pos rfl,Ya1 k i h]
def Fl0 (r:List Tok):Prop:=¬0<=chz WK.un.words r/\isW sPer r=false
end
section
open Go
theorem Zda {o:List Tok->Int×List Tok} {pf:PE} (ho:∀l,(o l).2.length<=l.length) (hp:Shr pf):∀(k k':Nat) (x:Ex) (op:Int) (l:List Tok) (e:Int),l.length<k->l.length<k'->Yy o pf k x op l e=Yy o pf k' x op l e
 |0,_,_,_,_,_,h,_=>by omega
 |_+1,0,_,_,_,_,_,h=>by omega
 |k+1,k'+1,x,op,l,e,h,h'=>by
  unfold Yy
  split
  · rfl
  · cases hq:pf l e with
    |error er=>rfl
    |ok y=>
     have h1:=hp _ _ _ _ hq
     have h2:=ho y.2.1
     exact Zda ho hp k k' _ _ _ _ (by omega) (by omega)
def pRx (o:List Tok->Int×List Tok) (pf:PE) (x:Ex) (op:Int) (l:List Tok) (e:Int):PR Ex:=Yy o pf (l.length+1) x op l e
theorem Z4u {o:List Tok->Int×List Tok} {pf:PE} (ho:∀l,(o l).2.length<=l.length) (hp:Shr pf) (x:Ex) (op:Int) (l:List Tok) (e:Int):
 pRx o pf x op l e=if op=0 then .ok (x,l,e,()) else match pf l e with
  | .error er=> .error er
  | .ok (y,z)=>pRx o pf (.mk op 0 0 0 0 0 [x,y]) (o z.1).1 (o z.1).2 z.2.1:=by
 unfold pRx
 rw [Yy]
 split
 · rfl
 · cases hq:pf l e with
   |error er=>rfl
   |ok y=>
    have h1:=hp _ _ _ _ hq
    have h2:=ho y.2.1
    exact Zda ho hp _ _ _ _ _ _ (by omega) (by omega)
theorem Zlz (l:List Tok):(op1 l).2.length<=l.length:=Zmd l
theorem Zl0 (l:List Tok):(op2 l).2.length<=l.length:=Zme l
def Agr (n:Nat) (p q:PE):Prop:=∀l e,l.length<n->p l e=q l e
theorem Zra {n:Nat} {p q:PE} (hp:Shr p) (h:Agr n p q):∀(ss:List (List Nat)) (acc:List Ex) (l:List Tok) (e:Int),l.length<n->pOpL p ss acc l e=pOpL q ss acc l e
 | [],_,_,_,_=>rfl
 |s::r,acc,l,e,hl=>by
  unfold pOpL
  rw [<-h l e hl]
  cases hq:p l e with
  |error er=>rfl
  |ok y=>
   have h1:=hp _ _ _ _ hq
   dsimp only
   split
   · refine Zra hp h r _ _ _ ?_
     rw [List.length_tail]
     omega
   · rfl
theorem Zrb {n:Nat} {p q:PE} (hp:Shr p) (h:Agr n p q) (op:Int) (ss:List (List Nat)) (l:List Tok) (e:Int) (hl:l.length<n+1):pOps p op ss l e=pOps q op ss l e:=by
 unfold pOps
 split
 · rename_i hw
   have:=Zo hw
   rw [Zra hp h ss [] l.tail e (by omega)]
 · rfl
theorem Zl1 {n:Nat} {p q:PE} (hp:Shr p) (h:Agr n p q) (l:List Tok) (e:Int) (hl:l.length<n+1):Vw p l e=Vw q l e:=by
 unfold Vw
 split
 · rename_i hw
   have:=Zo hw
   rw [h l.tail e (by omega)]
 · split
   · rename_i hw
     have:=Zo hw
     rw [Zrb hp h _ _ l.tail e (by omega)]
   · cases hc:Zs WK.ca.words l e with
     |error er=>rfl
     |ok y=>
      obtain ⟨y0,y1⟩:=y
      have:y1.1.length<=l.length:=by
       rcases Xd hc with ⟨_,_,rfl⟩|⟨_,_,rfl⟩
       · show l.tail.length<=l.length
         rw [List.length_tail]
         omega
       · exact Nat.le_refl _
      dsimp only
      split
      · exact Zrb hp h _ _ _ _ (by omega)
      · rfl
theorem Zrc {n:Nat} {p q:PE} (hp:Shr p) (h:Agr n p q):Agr (n+1) (pFac p) (pFac q):=by
 intro l e hl
 unfold pFac
 split
 · exact Zl1 hp h _ _ hl
 · split
   · rfl
   · exact Zl1 hp h _ _ hl
theorem Zl2 {n:Nat} {o:List Tok->Int×List Tok} (ho:∀l,(o l).2.length<=l.length) {p q:PE} (hp:Shr p) (h:Agr n p q):∀(k:Nat) (x:Ex) (op:Int) (l:List Tok) (e:Int),l.length<n->Yy o p k x op l e=Yy o q k x op l e
 |0,_,_,_,_,_=>rfl
 |k+1,x,op,l,e,hl=>by
  unfold Yy
  split
  · rfl
  · rw [<-h l e hl]
    cases hq:p l e with
    |error er=>rfl
    |ok y=>
     have h1:=hp _ _ _ _ hq
     have h2:=ho y.2.1
     exact Zl2 ho hp h k _ _ _ _ (by omega)
theorem Zje {n:Nat} {o:List Tok->Int×List Tok} (ho:∀l,(o l).2.length<=l.length) {p q:PE} (hp:Shr p) (h:Agr n p q):Agr n (pCh o p) (pCh o q):=by
 intro l e hl
 unfold pCh
 rw [<-h l e hl]
 cases hq:p l e with
 |error er=>rfl
 |ok y=>
  have h1:=hp _ _ _ _ hq
  have h2:=ho y.2.1
  exact Zl2 ho hp h _ _ _ _ _ (by omega)
theorem Z4v (n:Nat):Shr (pE n):=(Wz n).shr
theorem Zd8 {pe:PE} (h:Bnd pe):Shr (pFac pe):=(Wg h).shr
theorem Z4w:∀(n m:Nat),n<=m->Agr n (pE n) (pE m)
 |0,m,_=>fun l e hl=>by omega
 |n+1,m+1,h=>by
  have ih:=Z4w n m (by omega)
  unfold pE
  refine Zje Zl0 (Uc Zay (Wg (Wz n))).shr ?_
  exact Zje Zlz (Zd8 (Wz n)) (Zrc (Z4v n) ih)
theorem Z4x (n:Nat):Agr n (pE n) pX:=by
 intro l e hl
 unfold pX
 exact (Z4w (l.length+1) n (by omega) l e (Nat.lt_succ_self _)).symm
def pf:PE:=pFac pX
def pt:PE:=pCh op1 pf
theorem Ydj (l:List Tok) (e:Int):pX l e=pCh op2 pt l e:=by
 show pE (l.length+1) l e=_
 rw [pE]
 refine Zje (n:=l.length+1) Zl0 (Uc Zay (Wg (Wz _))).shr ?_ l e (Nat.lt_succ_self _)
 exact Zje Zlz (Zd8 (Wz _)) (Zrc (Z4v _) (Z4x _))
theorem pf_bnd:Bnd pf:=Wg Zju
theorem pt_bnd:Bnd pt:=Uc Zay pf_bnd
theorem Ybw:Shr pf:=pf_bnd.shr
theorem Ybx:Shr pt:=pt_bnd.shr
theorem Ydk (l:List Tok) (e:Int):pt l e=match pf l e with
 | .error er=> .error er
 | .ok (y,z)=>pRx op1 pf y (op1 z.1).1 (op1 z.1).2 z.2.1:=rfl
theorem Zjf (x:Ex) (op:Int) (l:List Tok) (e:Int):pRx op1 pf x op l e=if op=0 then .ok (x,l,e,()) else match pf l e with
 | .error er=> .error er
 | .ok (y,z)=>pRx op1 pf (.mk op 0 0 0 0 0 [x,y]) (op1 z.1).1 (op1 z.1).2 z.2.1:=Z4u Zlz Ybw x op l e
theorem Zcl (x:Ex) (op:Int) (l:List Tok) (e:Int):pRx op2 pt x op l e=if op=0 then .ok (x,l,e,()) else match pt l e with
 | .error er=> .error er
 | .ok (y,z)=>pRx op2 pt (.mk op 0 0 0 0 0 [x,y]) (op2 z.1).1 (op2 z.1).2 z.2.1:=Z4u Zl0 Ybx x op l e
theorem Zfy (l:List Tok) (e:Int):pX l e=match pt l e with
 | .error er=> .error er
 | .ok (y,z)=>pRx op2 pt y (op2 z.1).1 (op2 z.1).2 z.2.1:=Ydj l e
abbrev TS (ws:List (List Nat)):List Tok:=ws.map tkS
def d0:List Int:= [0,0,0,0]
theorem Ydl {r:List Tok} (h:Fl0 r) (e:Int):Xa r e= .ok (d0,r,e,()):=by
 unfold Xa Zs
 rw [if_neg h.1]
 dsimp only
 rw [if_neg (by rw [h.2];decide)]
 rfl
theorem Ydm {i:Nat} (hi:i<4) {r:List Tok} (h:isW sPer r=false) (e:Int):Xa (tkS (WK.un.words.getD i [])::r) e= .ok (incD d0 i,r,e,()):=by
 unfold Xa Zs
 rw [Zfe (k:= .un) hi,if_pos (by omega)]
 dsimp only [List.tail_cons]
 rw [if_neg (by rw [h];decide)]
 rfl
theorem Z4y {s w:List Nat} (hw:X5 w=true) (r:List Tok):isW s (tkS w::r)=(w==s):=by
 rw [Zit hw]
 rfl
theorem Z79 (r:List Tok):¬0<=chz WK.un.words (tkS sPer::r):=by
 have:chz WK.un.words (tkS sPer::r)= -1:=rfl
 omega
theorem Zy4 (r:List Tok):isW sPer (tkS sPer::r)=true:=rfl
theorem Ydn {j:Nat} (hj:j<4) (r:List Tok) (e:Int):Xa (tkS sPer::tkS (WK.un.words.getD j [])::r) e= .ok (decD d0 j,r,e,()):=by
 unfold Xa Zs
 rw [if_neg (Z79 _)]
 dsimp only [List.tail_cons]
 rw [if_pos (Zy4 _)]
 unfold Ym
 rw [Zfe (k:= .un) hj,if_pos (by omega)]
 rfl
theorem Ydo {i j:Nat} (hi:i<4) (hj:j<4) (r:List Tok) (e:Int):Xa (tkS (WK.un.words.getD i [])::tkS sPer::tkS (WK.un.words.getD j [])::r) e= .ok (decD (incD d0 i) j,r,e,()):=by
 unfold Xa Zs
 rw [Zfe (k:= .un) hi,if_pos (by omega)]
 dsimp only [List.tail_cons]
 rw [if_pos (Zy4 _)]
 unfold Ym
 rw [Zfe (k:= .un) hj,if_pos (by omega)]
 rfl
theorem Z23 {a b c d:Int} (h:Ui [a,b,c,d]=true):in1 a=true/\in1 b=true/\in1 c=true/\in1 d=true:=by
 rw [Zuh] at h
 rw [Bool.and_eq_true] at h
 simpa using h.1
theorem Zcm {a:Int} (h:in1 a=true):a= -1\/a=0\/a=1:=by
 unfold in1 at h
 simp at h
 omega
def UnF (u:List Int):Prop:=(u=d0/\txU u= [])\/(∃i,i<4/\u=incD d0 (i:Nat)/\txU u= [WK.un.words.getD i []])\/(∃j,j<4/\u=decD d0 (j:Nat)/\txU u= [sPer,WK.un.words.getD j []])\/(∃i,i<4/\∃j,j<4/\u=decD (incD d0 (i:Nat)) (j:Nat)/\txU u= [WK.un.words.getD i [],sPer,WK.un.words.getD j []])
instance (u:List Int):Decidable (UnF u):=by unfold UnF;infer_instance
theorem unF {a b c d:Int} (h:Ui [a,b,c,d]=true):UnF [a,b,c,d]:=by
 obtain ⟨ha,hb,hc,hd⟩:=Z23 h
 revert h
 rcases Zcm ha with rfl|rfl|rfl<;>rcases Zcm hb with rfl|rfl|rfl<;>rcases Zcm hc with rfl|rfl|rfl<;>rcases Zcm hd with rfl|rfl|rfl
 all_goals (clear ha hb hc hd;decide)
theorem Zy5 {a b c d:Int} (h:Ui [a,b,c,d]=true) {r:List Tok} (hr:Fl0 r) (e:Int):Xa (TS (txU [a,b,c,d])++r) e= .ok ([a,b,c,d],r,e,()):=by
 rcases unF h with ⟨h1,h2⟩|⟨i,hi,h1,h2⟩|⟨j,hj,h1,h2⟩|⟨i,hi,j,hj,h1,h2⟩
 · rw [h2,h1]
   exact Ydl hr e
 · rw [h2,h1]
   exact Ydm hi hr.2 e
 · rw [h2,h1]
   exact Ydn hj r e
 · rw [h2,h1]
   exact Ydo hi hj r e
def Fl1 (r:List Tok):Prop:=Fl0 r/\isW sMul r=false
def Fl2 (r:List Tok):Prop:=Fl1 r/\isW Vo r=false/\isW Z8 r=false
theorem Zhd {r:List Tok} (h:isW sMul r=false):op1 r=(0,r):=by unfold op1;rw [if_neg (by rw [h];decide)]
theorem Zfz {r:List Tok} (h:Fl2 r):op2 r=(0,r):=by unfold op2;rw [if_neg (by rw [h.2.1];decide),if_neg (by rw [h.2.2];decide)]
theorem Yby {w:List Nat} {r:List Tok} (h:(tkS w).kind=3):∀ws:List (List Nat),chz ws (tkS w::r)= -1:=by
 intro ws
 show (if (tkS w).kind=1 then _ else-1)=_
 rw [if_neg (by rw [h];decide)]
theorem Zbl {w:List Nat} (r:List Tok) (h:(tkS w).kind=3) (h2:isW sPer (tkS w::r)=false):Fl0 (tkS w::r):=⟨by rw [Yby h];decide,h2⟩
theorem Ww (r:List Tok):Fl2 (tkS Zi::r):=⟨⟨Zbl r rfl rfl,rfl⟩,rfl,rfl⟩
theorem Zf0 (r:List Tok):Fl2 (tkS Zv::r):=⟨⟨Zbl r rfl rfl,rfl⟩,rfl,rfl⟩
theorem Z24 (r:List Tok):Fl2 (tkS U0::r):=⟨⟨Zbl r rfl rfl,rfl⟩,rfl,rfl⟩
theorem Z25 (r:List Tok):Fl2 (tkS Yx::r):=⟨⟨Zbl r rfl rfl,rfl⟩,rfl,rfl⟩
theorem Z8a (r:List Tok):Fl0 (tkS sMul::r):=Zbl r rfl rfl
theorem Z26 (r:List Tok):Fl1 (tkS Vo::r):=⟨Zbl r rfl rfl,rfl⟩
theorem Zy6 (r:List Tok):Fl1 (tkS Z8::r):=⟨Zbl r rfl rfl,rfl⟩
structure Rdb (x:Ex):Prop where
 fac:3<=tightF x.op->∀r e,Fl0 r->pf (TS (txX x)++r) e= .ok (x,r,e,())
 term:2<=tightF x.op->∀r e,Fl0 r->pt (TS (txX x)++r) e=pRx op1 pf x (op1 r).1 (op1 r).2 e
 expr:∀r e,Fl1 r->pX (TS (txX x)++r) e=pRx op2 pt x (op2 r).1 (op2 r).2 e
theorem Rdb.all {x:Ex} (h:Rdb x) {r:List Tok} (hr:Fl2 r) (e:Int):pX (TS (txX x)++r) e= .ok (x,r,e,()):=by
 rw [h.expr r e hr.1,Zfz hr,Zcl,if_pos rfl]
theorem Zf1 {l:List Tok} {e:Int} {x:Ex} {r:List Tok} (h:pX l e= .ok (x,tkS Zi::r,e,())):pf (tkS Z7::l) e= .ok (x,r,e,()):=by
 have:pf (tkS Z7::l) e=(match pX l e with
  | .error er=> .error er
  | .ok (x,y)=>if isW Zi y.1 then .ok (x,y.1.tail,y.2.1,()) else .error (hdT y.2.1 y.1,160)):=rfl
 rw [this,h]
 rfl
theorem Zo6 (w:List Nat) (ws:List (List Nat)):TS (w::ws)=tkS w::TS ws:=rfl
theorem Zrd (a b:List (List Nat)):TS (a++b)=TS a++TS b:=List.map_append
theorem Rdb.par3 {x:Ex} (h:Rdb x) {r:List Tok} (hr:Fl0 r) (e:Int):pf (TS (par x.op 3 (txX x))++r) e= .ok (x,r,e,()):=by
 unfold par
 split
 · exact h.fac (by assumption) r e hr
 · have e1:TS (Z7::(txX x++ [Zi]))++r=tkS Z7::(TS (txX x)++tkS Zi::r):=by simp
   rw [e1]
   exact Zf1 (h.all (Ww r) e)
theorem Zcn {l r:List Tok} {e:Int} {x:Ex} (h:pf l e= .ok (x,r,e,())):pt l e=pRx op1 pf x (op1 r).1 (op1 r).2 e:=by rw [Ydk,h]
theorem Rdb.par2 {x:Ex} (h:Rdb x) {r:List Tok} (hr:Fl0 r) (e:Int):pt (TS (par x.op 2 (txX x))++r) e=pRx op1 pf x (op1 r).1 (op1 r).2 e:=by
 unfold par
 split
 · exact h.term (by assumption) r e hr
 · have e1:TS (Z7::(txX x++ [Zi]))++r=tkS Z7::(TS (txX x)++tkS Zi::r):=by simp
   rw [e1]
   exact Zcn (Zf1 (h.all (Ww r) e))
theorem Zy7 (op:Int):1<=tightF op:=by unfold tightF;split<;>(try split)<;>decide
theorem Rdb.par1 {x:Ex} (h:Rdb x) {r:List Tok} (hr:Fl1 r) (e:Int):pX (TS (par x.op 1 (txX x))++r) e=pRx op2 pt x (op2 r).1 (op2 r).2 e:=by
 unfold par
 rw [if_pos (Zy7 _)]
 exact h.expr r e hr
theorem Zf2 {x:Ex} (hf:3<=tightF x.op->∀r e,Fl0 r->pf (TS (txX x)++r) e= .ok (x,r,e,())) (ht:∀r e,Fl0 r->pt (TS (txX x)++r) e=pRx op1 pf x (op1 r).1 (op1 r).2 e):Rdb x:=
 ⟨hf,fun _=>ht,fun r e hr=>by rw [Zfy,ht r e hr.1,Zhd hr.2,Zjf,if_pos rfl]⟩
theorem Zam {x:Ex} (h:∀r e,Fl0 r->pf (TS (txX x)++r) e= .ok (x,r,e,())):Rdb x:=
 Zf2 (fun _=>h) fun r e hr=>Zcn (h r e hr)
theorem Zre {e:Int}:∀{xs:List Ex} {ss:List (List Nat)} {acc:List Ex} {r:List Tok},xs.length=ss.length->(∀x∈xs,Rdb x)->(∀s∈ss,(∀r,Fl2 (tkS s::r))/\∀r,isW s (tkS s::r)=true)->pOpL pX ss acc (TS (txS (txL xs) ss)++r) e= .ok (acc++xs,r,e,())
 | [],[],acc,r,_,_,_=>by simp [pOpL,txL,txS]
 |x::xs,s::ss,acc,r,hl,hx,hs=>by
  have e1:TS (txS (txL (x::xs)) (s::ss))++r=TS (txX x)++tkS s::(TS (txS (txL xs) ss)++r):=by simp [txL,txS]
  rw [e1]
  unfold pOpL
  rw [(hx x (by simp)).all ((hs s (by simp)).1 _) e]
  dsimp only
  rw [if_pos ((hs s (by simp)).2 _),List.tail_cons,Zre (by simpa using hl) (fun x h=>hx x (by simp [h])) (fun s h=>hs s (by simp [h]))]
  rw [List.append_assoc]
  rfl
theorem sg4:∀s∈ [U0,Zv,Zv,Zi],(∀r,Fl2 (tkS s::r))/\∀r,isW s (tkS s::r)=true:=by
 intro s hs
 simp only [List.mem_cons,List.not_mem_nil,or_false] at hs
 rcases hs with rfl|rfl|rfl|rfl
 · exact ⟨Z24,fun _=>rfl⟩
 · exact ⟨Zf0,fun _=>rfl⟩
 · exact ⟨Zf0,fun _=>rfl⟩
 · exact ⟨Ww,fun _=>rfl⟩
theorem sg2:∀s∈ [Zv,Zi],(∀r,Fl2 (tkS s::r))/\∀r,isW s (tkS s::r)=true:=by
 intro s hs
 simp only [List.mem_cons,List.not_mem_nil,or_false] at hs
 rcases hs with rfl|rfl
 · exact ⟨Zf0,fun _=>rfl⟩
 · exact ⟨Ww,fun _=>rfl⟩
theorem Zrf {op:Int} {xs:List Ex} {ss:List (List Nat)} {r:List Tok} {e:Int} (hl:xs.length=ss.length) (hx:∀x∈xs,Rdb x) (hs:∀s∈ss,(∀r,Fl2 (tkS s::r))/\∀r,isW s (tkS s::r)=true):
 pOps pX op ss (tkS Z7::(TS (txS (txL xs) ss)++r)) e= .ok (.mk op 0 0 0 0 0 xs,r,e,()):=by
 unfold pOps
 rw [if_pos (show isW Z7 (tkS Z7::(TS (txS (txL xs) ss)++r))=true from rfl),List.tail_cons,Zre hl hx hs]
 rfl
theorem Z4z:∀k:WK,∀w∈k.words,(w==Z7)=false/\(w==sIf)=false:=by intro k;cases k<;>decide
theorem Ydp:∀w∈WK.at_.words,idxS w 0 WK.ca.words= -1:=by decide
theorem Zy8 {k:WK} {i:Nat} (h:i<k.words.length) (r:List Tok) (e:Int):pf (tkS (k.words.getD i [])::r) e=(match Zs WK.ca.words (tkS (k.words.getD i [])::r) e with
 | .error er=> .error er
 | .ok (k,y)=>
  if k.2.1 then pOps pX (6+k.1) [Zv,Zi] y.1 y.2.1
  else match Ym WK.at_.words y.1 y.2.1 with
   | .error er=> .error er
   | .ok (a,z)=> .ok (.mk 2 a 0 0 0 0 [],z)):=by
 have h1:=Z4y (s:=Z7) (Ziu h) r
 have h2:=Z4y (s:=sIf) (Ziu h) r
 rw [(Z4z k _ (Zqx h)).1] at h1
 rw [(Z4z k _ (Zqx h)).2] at h2
 show (if (tkS (k.words.getD i [])).kind=2 then _ else Vw pX (tkS (k.words.getD i [])::r) e)=_
 rw [if_neg (by rw [Z65 h];show ¬(1:Int)=2;decide)]
 unfold Vw
 rw [if_neg (by rw [h1];decide),if_neg (by rw [h2];decide)]
 rfl
theorem Zdb {op n:Int} {u:List Int} {k:Nat} (h:Zdd op n u k=true):1<=op/\op<=11/\0<=n/\n<=Zr3 op/\k=Zmk op/\Ui u=true/\(op=1\/u= [0,0,0,0]):=by
 unfold Zdd at h
 simp only [Bool.and_eq_true,Bool.or_eq_true,decide_eq_true_eq] at h
 obtain ⟨⟨⟨⟨⟨⟨h1,h2⟩,h3⟩,h4⟩,h5⟩,h6⟩,h7⟩:=h
 exact ⟨h1,h2,h3,h4,h5,h6,h7⟩
theorem len2 {α:Type} {l:List α} (h:l.length=2):∃a b,l= [a,b]:=by
 match l,h with
 | [a,b],_=>exact ⟨a,b,rfl⟩
theorem rdb:∀(x:Ex),Z2 x=true->Rdb x:=by
 suffices H:∀(m:Nat) (x:Ex),x.sz<=m->Z2 x=true->Rdb x from fun x=>H _ x (Nat.le_refl _)
 intro m
 induction m with
 |zero=>intro x h;have:=x.sz_pos;omega
 |succ m ih=>
  intro x hm hf
  rw [Zbq,Bool.and_eq_true] at hf
  obtain ⟨hh,hl⟩:=hf
  have hkid:∀y∈x.l,Rdb y:=fun y hy=>ih y (by have:=Ex.sz_mem hy;omega) (formL_iff.1 hl y hy)
  obtain ⟨op,n,a,b,c,d,l⟩:=x
  simp only [Ex.op,Ex.n,Ex.u,Ex.d0,Ex.d1,Ex.d2,Ex.d3,Ex.l] at hh hkid
  obtain ⟨h1,h2,h3,h4,h5,h6,h7⟩:=Zdb hh
  clear hm hl hh
  have htx:txX (.mk op n a b c d l)=txN op n [a,b,c,d] (l.map Ex.op) (txL l):=by rw [txX]
  by_cases q1:op=1
  · subst q1
    have hl:l= []:=List.eq_nil_of_length_eq_zero (by rw [h5];rfl)
    subst hl
    refine Zam fun r e hr=> ?_
    rw [htx]
    unfold txN
    rw [if_pos rfl,Zo6,List.cons_append,Z64 h3 h4]
    show (match Xa (TS (txU [a,b,c,d])++r) e with
     | .error er=>_
     | .ok (d,y)=>_)=_
    rw [Zy5 h6 hr e]
    rfl
  have hu:a=0/\b=0/\c=0/\d=0:=by
   rcases h7 with h7|h7
   · exact absurd h7 q1
   · simpa using h7
  obtain ⟨rfl,rfl,rfl,rfl⟩:=hu
  by_cases q2:op=2
  · subst q2
    have hl:l= []:=List.eq_nil_of_length_eq_zero (by rw [h5];rfl)
    subst hl
    have hn:n.toNat<WK.at_.words.length:=by
     have:n<=15:=h4
     show n.toNat<16
     omega
    refine Zam fun r e hr=> ?_
    rw [htx]
    unfold txN
    rw [if_neg q1,if_pos rfl]
    show pf (tkS (WK.at_.words.getD n.toNat [])::r) e=_
    rw [Zy8 hn]
    have hc:¬0<=chz WK.ca.words (tkS (WK.at_.words.getD n.toNat [])::r):=by
     rw [Z65 hn]
     show ¬0<=(if (1:Int)=1 then idxS (WK.at_.words.getD n.toNat []) 0 WK.ca.words else-1)
     rw [if_pos rfl,Ydp _ (Zqx hn)]
     decide
    unfold Zs
    rw [if_neg hc]
    dsimp only
    rw [if_neg (by decide)]
    unfold Ym
    rw [Zfe hn,if_pos (by omega)]
    dsimp only [List.tail_cons]
    rw [show ((n.toNat:Nat):Int)=n by omega]
  have hn0:n=0:=by
   unfold Zr3 at h4
   rw [if_neg q1,if_neg q2] at h4
   omega
  subst hn0
  by_cases q3:op=11
  · subst q3
    have hl:l.length=4:=h5
    refine Zam fun r e hr=> ?_
    rw [htx]
    unfold txN
    rw [if_neg q1,if_neg q2,if_pos rfl]
    have e1:TS (sIf::Z7::txS (txL l) [U0,Zv,Zv,Zi])++r=tkS sIf::tkS Z7::(TS (txS (txL l) [U0,Zv,Zv,Zi])++r):=rfl
    rw [e1]
    show pOps pX 11 [U0,Zv,Zv,Zi] (tkS Z7::(TS (txS (txL l) [U0,Zv,Zv,Zi])++r)) e=_
    exact Zrf (by rw [hl];rfl) hkid sg4
  have hl2:l.length=2:=by
   rw [h5]
   unfold Zmk
   rw [if_neg (by omega),if_neg q3]
  by_cases q4:op=3\/op=4\/op=5
  · obtain ⟨x,y,rfl⟩:=len2 hl2
    have hx:=hkid x (by simp)
    have hy:=hkid y (by simp)
    have htx:txX (.mk op 0 0 0 0 0 [x,y])=par x.op (tightF op) (txX x)++sgnO op::par y.op (tightF op+1) (txX y):=by
     rw [htx]
     unfold txN
     rw [if_neg q1,if_neg q2,if_neg q3,if_pos q4]
     rfl
    by_cases q5:op=5
    · subst q5
      refine Zf2 (fun h=>absurd h (by show ¬3<=tightF 5;decide)) fun r e hr=> ?_
      rw [htx,Zrd,List.append_assoc]
      show pt (TS (par x.op 2 (txX x))++tkS sMul::(TS (par y.op 3 (txX y))++r)) e=_
      rw [hx.par2 (Z8a _) e]
      show pRx op1 pf x 5 (TS (par y.op 3 (txX y))++r) e=_
      rw [Zjf,if_neg (by decide),hy.par3 hr e]
    · have q6:op=3\/op=4:=by omega
      have ht:tightF op=1:=by unfold tightF;rw [if_pos q6]
      refine ⟨fun h=>absurd h (by show ¬3<=tightF op;rw [ht];decide),fun h=>absurd h (by show ¬2<=tightF op;rw [ht];decide),fun r e hr=> ?_⟩
      rw [htx,Zrd,List.append_assoc,ht]
      have hy2:pt (TS (par y.op 2 (txX y))++r) e= .ok (y,r,e,()):=by rw [hy.par2 hr.1 e,Zhd hr.2,Zjf,if_pos rfl]
      rcases q6 with rfl|rfl
      · show pX (TS (par x.op 1 (txX x))++tkS Vo::(TS (par y.op 2 (txX y))++r)) e=_
        rw [hx.par1 (Z26 _) e]
        show pRx op2 pt x 3 (TS (par y.op 2 (txX y))++r) e=_
        rw [Zcl,if_neg (by decide),hy2]
      · show pX (TS (par x.op 1 (txX x))++tkS Z8::(TS (par y.op 2 (txX y))++r)) e=_
        rw [hx.par1 (Zy6 _) e]
        show pRx op2 pt x 4 (TS (par y.op 2 (txX y))++r) e=_
        rw [Zcl,if_neg (by decide),hy2]
  · have hk:(op-6).toNat<WK.ca.words.length:=by
     show (op-6).toNat<5
     omega
    refine Zam fun r e hr=> ?_
    rw [htx]
    unfold txN
    rw [if_neg q1,if_neg q2,if_neg q3,if_neg q4]
    have e1:TS (WK.ca.words.getD (op-6).toNat []::Z7::txS (txL l) [Zv,Zi])++r=tkS (WK.ca.words.getD (op-6).toNat [])::tkS Z7::(TS (txS (txL l) [Zv,Zi])++r):=rfl
    rw [e1,Zy8 hk]
    unfold Zs
    rw [Zfe hk,if_pos (by omega)]
    dsimp only [List.tail_cons]
    rw [if_pos rfl,Zrf (by rw [hl2];rfl) hkid sg2]
    rw [show (6:Int)+(((op-6).toNat:Nat):Int)=op by omega]
end
section
open Go
abbrev qCG5 (a0:List (List Nat)):=(List.length a0)
abbrev qCGc:=(0:Int)
abbrev qCGl (a0:List (List Nat)):=(List.take (qCG5 a0) a0++ [[(45:Nat)]])
abbrev qCG8:=(1:Nat)
abbrev qCGj:=(8:Nat)
abbrev qCGb:=(1:Int)
abbrev qCGq:=(16:Nat)
abbrev qCGa:=(140737488355328:Nat)
abbrev qCGi (a0:List (List Nat)):=(List.length a0+qCG8)
abbrev qCGf (a0:List (List Nat)) (b0:List (List Nat)) (c0:Nat):=(List.length a0<=List.length a0/\fzO (some (b0,c0))<=List.length a0/\(qCGi a0)*qCGq<=qCGa)
abbrev qCG9 (a0:Ex):=(↑(List.length (Ex.l a0)):Int)
abbrev qCGm (a0:List (List Nat)):=(List.take (qCG5 a0) a0++ [[(42:Nat)]])
abbrev qCGe:=(1000000000:Nat)
abbrev qCG2 (a0:Ex):=(Ex.mk (Ex.op a0) (Ex.n a0) (Ex.d0 a0) (Ex.d1 a0) (Ex.d2 a0) (Ex.d3 a0) (Ex.l a0))
abbrev qCGg (a0:Ex):=(Ex.op a0-(3:Int))
abbrev qCG1 (a0:Ex) (b0:List (List Nat)) (c0:List (List Nat)) (d0:Nat) (e0:Nat) (f0:List (List Nat)):=((wr IntKind.i64 (qCGg a0)==(↑(0:Nat):Int))=false->((wr IntKind.i64 (qCGg a0)==(↑((0:Nat)+qCG8):Int))=true->(qCGf b0 c0 d0)/\qCGc<=qCGb/\qCGb+qCGb<=(qCG9 a0)/\∀(x_2:Ex),(Ex.l a0)[Int.toNat qCGb]? =some x_2->True/\∀(y:Int),y=tightF (Ex.op a0)->(List.length b0+qCG8=List.length (qCGl b0)/\fzO (some (c0,d0))<=List.length (qCGl b0)/\Ex.sz (qCG2 x_2)+qCG8<=e0/\Z2 (qCG2 x_2)=true/\qCG8<=List.length (qCGl b0)/\List.length (qCGl b0)+qCGj*Ex.sz (qCG2 x_2)+(10:Nat)<=qCGe)/\∀(l'_2:List (List Nat)),l'_2=List.take (qCG5 b0) b0++ [[(45:Nat)]]++par (Ex.op (qCG2 x_2)) (wr IntKind.i64 (y+qCGb)) (txX (qCG2 x_2))->l'_2=f0/\List.length l'_2=List.length f0/\fzO (some (List.take (qCG5 b0) b0++ [[(45:Nat)]],fzO (some (c0,d0))))=fzO (some (c0,d0)))/\((wr IntKind.i64 (qCGg a0)==(↑((0:Nat)+qCG8):Int))=false->((wr IntKind.i64 (qCGg a0)==(↑((0:Nat)+qCG8+qCG8):Int))=true->(qCGf b0 c0 d0)/\qCGc<=qCGb/\qCGb+qCGb<=(qCG9 a0)/\∀(x_2:Ex),(Ex.l a0)[Int.toNat qCGb]? =some x_2->True/\∀(y:Int),y=tightF (Ex.op a0)->(List.length b0+qCG8=List.length (qCGm b0)/\fzO (some (c0,d0))<=List.length (qCGm b0)/\Ex.sz (qCG2 x_2)+qCG8<=e0/\Z2 (qCG2 x_2)=true/\qCG8<=List.length (qCGm b0)/\List.length (qCGm b0)+qCGj*Ex.sz (qCG2 x_2)+(10:Nat)<=qCGe)/\∀(l'_2:List (List Nat)),l'_2=List.take (qCG5 b0) b0++ [[(42:Nat)]]++par (Ex.op (qCG2 x_2)) (wr IntKind.i64 (y+qCGb)) (txX (qCG2 x_2))->l'_2=f0/\List.length l'_2=List.length f0/\fzO (some (List.take (qCG5 b0) b0++ [[(42:Nat)]],fzO (some (c0,d0))))=fzO (some (c0,d0)))/\((wr IntKind.i64 (qCGg a0)==(↑((0:Nat)+qCG8+qCG8):Int))=false->True)))
abbrev qCGn (a0:List (List Nat)):=(List.take (qCG5 a0) a0++ [[(43:Nat)]])
abbrev qCG3 (a0:Ex) (b0:List (List Nat)) (c0:List (List Nat)) (d0:Nat) (e0:Nat) (f0:List (List Nat)):=((wr IntKind.i64 (qCGg a0)==(↑(0:Nat):Int))=true->(qCGf b0 c0 d0)/\qCGc<=qCGb/\qCGb+qCGb<=(qCG9 a0)/\∀(x_2:Ex),(Ex.l a0)[Int.toNat qCGb]? =some x_2->True/\∀(y:Int),y=tightF (Ex.op a0)->(List.length b0+qCG8=List.length (qCGn b0)/\fzO (some (c0,d0))<=List.length (qCGn b0)/\Ex.sz (qCG2 x_2)+qCG8<=e0/\Z2 (qCG2 x_2)=true/\qCG8<=List.length (qCGn b0)/\List.length (qCGn b0)+qCGj*Ex.sz (qCG2 x_2)+(10:Nat)<=qCGe)/\∀(l'_2:List (List Nat)),l'_2=List.take (qCG5 b0) b0++ [[(43:Nat)]]++par (Ex.op (qCG2 x_2)) (wr IntKind.i64 (y+qCGb)) (txX (qCG2 x_2))->l'_2=f0/\List.length l'_2=List.length f0/\fzO (some (List.take (qCG5 b0) b0++ [[(43:Nat)]],fzO (some (c0,d0))))=fzO (some (c0,d0)))
abbrev qCGo:=(40:Nat)
abbrev qCGh (a0:List (List Nat)) (b0:Nat):=(some (List.take (qCG5 a0) a0++ [[(105:Nat),(102:Nat)],[qCGo]],b0))
abbrev qCG4 (a0:List (List Nat)) (b0:List (List Nat)) (c0:Nat):=(some (List.take (qCG5 a0) a0++ [[(60:Nat)]],fzO (qCGh b0 c0)))
abbrev qCGp:=(44:Nat)
abbrev qCG6 (a0:List (List Nat)):=(List.take (qCG5 a0) a0++ [[qCGp]])
abbrev qCG7 (a0:List (List Nat)) (b0:Nat) (c0:Ex) (d0:Nat):=(List.length a0=List.length a0/\b0<=List.length a0/\Ex.sz (qCG2 c0)+qCG8<=d0/\Z2 (qCG2 c0)=true/\qCG8<=List.length a0/\List.length a0+qCGj*Ex.sz (qCG2 c0)+(10:Nat)<=qCGe)
abbrev qCGd (a0:List (List Nat)):=(List.take (qCG5 a0) a0++ [[(105:Nat),(102:Nat)],[qCGo]])
abbrev qCGk (a0:List (List Nat)):=(List.take (qCG5 a0) a0++ [[(60:Nat)]])
abbrev qCGr (a0:List (List Nat)) (b0:List (List Nat)) (c0:List (List Nat)) (d0:Nat):=(some (List.take (qCG5 a0) a0++ [[qCGp]],fzO (qCG4 b0 c0 d0)))
theorem Zru (m:Nat) (l:List (List Nat)) (fz:Nat) (x:Ex) (l':List (List Nat)):Zm E Fpu (vc E (Fxp' m) 400) 79 [.ptr 0 0,exA x] (hpP E Th.strs (some (l,fz))) 2 (prnK E Th.strs (some (l,fz)) l')=(
 ((Ex.op x==qCGb)=true->(qCGc<=Ex.n x/\Ex.n x+qCGb<=(10000000000000:Int))/\∀(y:List Nat),y=decN (Ex.n x)->(List.length l<=List.length l/\fz<=List.length l/\(qCGi l)*qCGq<=qCGa)/\(List.length l+qCG8=List.length (List.take (qCG5 l) l++ [y])/\fz<=List.length (List.take (qCG5 l) l++ [y])/\qCG8<=List.length (List.take (qCG5 l) l++ [y])/\List.length (List.take (qCG5 l) l++ [y])+qCGj<=qCGe)/\∀(l'_1:List (List Nat)),l'_1=List.take (qCG5 l) l++ [y]++txU [Ex.d0 x,Ex.d1 x,Ex.d2 x,Ex.d3 x]->l'_1=l'/\List.length l'_1=List.length l'/\fzO (some (List.take (qCG5 l) l++ [y],fz))=fzO (some (l,fz)))/\((Ex.op x==qCGb)=false->((Ex.op x==(2:Int))=true->qCGc<=Ex.n x/\Ex.n x+qCGb<=(↑(List.length (WK.words WK.at_)):Int)/\∀(x_1:List Nat),(WK.words WK.at_)[Int.toNat (Ex.n x)]? =some x_1->(List.length l<=List.length l/\fz<=List.length l/\(qCGi l)*qCGq<=qCGa)/\List.take (qCG5 l) l++ [x_1]=l'/\List.length l+qCG8=List.length l'/\fz=fzO (some (l,fz)))/\((Ex.op x==(2:Int))=false->((Ex.op x==(11:Int))=true->(List.length l<=List.length l/\fz<=List.length l/\(List.length l+(2:Nat))*qCGq<=qCGa)/\qCGc<=qCGc/\qCGc+qCGb<=(qCG9 x)/\∀(x_1:Ex),(Ex.l x)[Int.toNat qCGc]? =some x_1->(List.length l+(2:Nat)=List.length (qCGd l)/\fz<=List.length (qCGd l)/\Ex.sz (qCG2 x_1)+qCG8<=m/\Z2 (qCG2 x_1)=true/\qCG8<=List.length (qCGd l)/\List.length (qCGd l)+qCGj*Ex.sz (qCG2 x_1)+qCGj<=qCGe)/\∀(l'_1:List (List Nat)),l'_1=List.take (qCG5 l) l++ [[(105:Nat),(102:Nat)],[qCGo]]++txX (qCG2 x_1)->(List.length l'_1<=List.length l'_1/\fzO (qCGh l fz)<=List.length l'_1/\(qCGi l'_1)*qCGq<=qCGa)/\qCGc<=qCGb/\qCGb+qCGb<=(qCG9 x)/\∀(x_2:Ex),(Ex.l x)[Int.toNat qCGb]? =some x_2->(List.length l'_1+qCG8=List.length (qCGk l'_1)/\fzO (qCGh l fz)<=List.length (qCGk l'_1)/\Ex.sz (qCG2 x_2)+qCG8<=m/\Z2 (qCG2 x_2)=true/\qCG8<=List.length (qCGk l'_1)/\List.length (qCGk l'_1)+qCGj*Ex.sz (qCG2 x_2)+qCGj<=qCGe)/\∀(l'_2:List (List Nat)),l'_2=List.take (qCG5 l'_1) l'_1++ [[(60:Nat)]]++txX (qCG2 x_2)->(List.length l'_2<=List.length l'_2/\fzO (qCG4 l'_1 l fz)<=List.length l'_2/\(qCGi l'_2)*qCGq<=qCGa)/\qCGc<=(2:Int)/\(2:Int)+qCGb<=(qCG9 x)/\∀(x_3:Ex),(Ex.l x)[Int.toNat (2:Int)]? =some x_3->(List.length l'_2+qCG8=List.length (qCG6 l'_2)/\fzO (qCG4 l'_1 l fz)<=List.length (qCG6 l'_2)/\Ex.sz (qCG2 x_3)+qCG8<=m/\Z2 (qCG2 x_3)=true/\qCG8<=List.length (qCG6 l'_2)/\List.length (qCG6 l'_2)+qCGj*Ex.sz (qCG2 x_3)+qCGj<=qCGe)/\∀(l'_3:List (List Nat)),l'_3=List.take (qCG5 l'_2) l'_2++ [[qCGp]]++txX (qCG2 x_3)->(List.length l'_3<=List.length l'_3/\fzO (qCGr l'_2 l'_1 l fz)<=List.length l'_3/\(qCGi l'_3)*qCGq<=qCGa)/\qCGc<=(3:Int)/\(3:Int)+qCGb<=(qCG9 x)/\∀(x_4:Ex),(Ex.l x)[Int.toNat (3:Int)]? =some x_4->(List.length l'_3+qCG8=List.length (qCG6 l'_3)/\fzO (qCGr l'_2 l'_1 l fz)<=List.length (qCG6 l'_3)/\Ex.sz (qCG2 x_4)+qCG8<=m/\Z2 (qCG2 x_4)=true/\qCG8<=List.length (qCG6 l'_3)/\List.length (qCG6 l'_3)+qCGj*Ex.sz (qCG2 x_4)+qCGj<=qCGe)/\∀(l'_4:List (List Nat)),l'_4=List.take (qCG5 l'_3) l'_3++ [[qCGp]]++txX (qCG2 x_4)->(List.length l'_4<=List.length l'_4/\fzO (some (List.take (qCG5 l'_3) l'_3++ [[qCGp]],fzO (qCGr l'_2 l'_1 l fz)))<=List.length l'_4/\(qCGi l'_4)*qCGq<=qCGa)/\List.take (qCG5 l'_4) l'_4++ [[(41:Nat)]]=l'/\List.length l'_4+qCG8=List.length l'/\fzO (some (List.take (qCG5 l'_3) l'_3++ [[qCGp]],fzO (qCGr l'_2 l'_1 l fz)))=fzO (some (l,fz)))/\((Ex.op x==(11:Int))=false->((Ex.op x==(3:Int))=true->qCGc<=qCGc/\qCGc+qCGb<=(qCG9 x)/\∀(x_1:Ex),(Ex.l x)[Int.toNat qCGc]? =some x_1->True/\∀(y:Int),y=tightF (Ex.op x)->(qCG7 l fz x_1 m)/\∀(l'_1:List (List Nat)),l'_1=l++par (Ex.op (qCG2
x_1)) y (txX (qCG2 x_1))->qCGc<=wr IntKind.i64 (qCGg x)/\wr IntKind.i64 (qCGg x)+qCGb<=(↑(3:Nat):Int)/\(qCG3 x l'_1 l fz m l')/\(qCG1 x l'_1 l fz m l'))/\((Ex.op x==(3:Int))=false->((Ex.op x==(4:Int))=true->qCGc<=qCGc/\qCGc+qCGb<=(qCG9 x)/\∀(x_1:Ex),(Ex.l x)[Int.toNat qCGc]? =some x_1->True/\∀(y:Int),y=tightF (Ex.op x)->(qCG7 l fz x_1 m)/\∀(l'_1:List (List Nat)),l'_1=l++par (Ex.op (qCG2 x_1)) y (txX (qCG2 x_1))->qCGc<=wr IntKind.i64 (qCGg x)/\wr IntKind.i64 (qCGg x)+qCGb<=(↑(3:Nat):Int)/\(qCG3 x l'_1 l fz m l')/\(qCG1 x l'_1 l fz m l'))/\((Ex.op x==(4:Int))=false->((Ex.op x==(5:Int))=true->qCGc<=qCGc/\qCGc+qCGb<=(qCG9 x)/\∀(x_1:Ex),(Ex.l x)[Int.toNat qCGc]? =some x_1->True/\∀(y:Int),y=tightF (Ex.op x)->(qCG7 l fz x_1 m)/\∀(l'_1:List (List Nat)),l'_1=l++par (Ex.op (qCG2 x_1)) y (txX (qCG2 x_1))->qCGc<=wr IntKind.i64 (qCGg x)/\wr IntKind.i64 (qCGg x)+qCGb<=(↑(3:Nat):Int)/\(qCG3 x l'_1 l fz m l')/\(qCG1 x l'_1 l fz m l'))/\((Ex.op x==(5:Int))=false->qCGc<=wr IntKind.i64 (Ex.op x-(6:Int))/\wr IntKind.i64 (Ex.op x-(6:Int))+qCGb<=(↑(List.length (WK.words WK.ca)):Int)/\∀(x_1:List Nat),(WK.words WK.ca)[Int.toNat (wr IntKind.i64 (Ex.op x-(6:Int)))]? =some x_1->(List.length l<=List.length l/\fz<=List.length l/\(List.length l+(2:Nat))*qCGq<=qCGa)/\qCGc<=qCGc/\qCGc+qCGb<=(qCG9 x)/\∀(x_2:Ex),(Ex.l x)[Int.toNat qCGc]? =some x_2->(List.length l+(2:Nat)=List.length (List.take (qCG5 l) l++ [x_1,[qCGo]])/\fz<=List.length (List.take (qCG5 l) l++ [x_1,[qCGo]])/\Ex.sz (qCG2 x_2)+qCG8<=m/\Z2 (qCG2 x_2)=true/\qCG8<=List.length (List.take (qCG5 l) l++ [x_1,[qCGo]])/\List.length (List.take (qCG5 l) l++ [x_1,[qCGo]])+qCGj*Ex.sz (qCG2 x_2)+qCGj<=qCGe)/\∀(l'_1:List (List Nat)),l'_1=List.take (qCG5 l) l++ [x_1,[qCGo]]++txX (qCG2 x_2)->(List.length l'_1<=List.length l'_1/\fzO (some (List.take (qCG5 l) l++ [x_1,[qCGo]],fz))<=List.length l'_1/\(qCGi l'_1)*qCGq<=qCGa)/\qCGc<=qCGb/\qCGb+qCGb<=(qCG9 x)/\∀(x_3:Ex),(Ex.l x)[Int.toNat qCGb]? =some x_3->(List.length l'_1+qCG8=List.length (qCG6 l'_1)/\fzO (some (List.take (qCG5 l) l++ [x_1,[qCGo]],fz))<=List.length (qCG6 l'_1)/\Ex.sz (qCG2 x_3)+qCG8<=m/\Z2 (qCG2 x_3)=true/\qCG8<=List.length (qCG6 l'_1)/\List.length (qCG6 l'_1)+qCGj*Ex.sz (qCG2 x_3)+qCGj<=qCGe)/\∀(l'_2:List (List Nat)),l'_2=List.take (qCG5 l'_1) l'_1++ [[qCGp]]++txX (qCG2 x_3)->(List.length l'_2<=List.length l'_2/\fzO (some (List.take (qCG5 l'_1) l'_1++ [[qCGp]],fzO (some (List.take (qCG5 l) l++ [x_1,[qCGo]],fz))))<=List.length l'_2/\(qCGi l'_2)*qCGq<=qCGa)/\List.take (qCG5 l'_2) l'_2++ [[(41:Nat)]]=l'/\List.length l'_2+qCG8=List.length l'/\fzO (some (List.take (qCG5 l'_1) l'_1++ [[qCGp]],fzO (some (List.take (qCG5 l) l++ [x_1,[qCGo]],fz))))=fzO (some (l,fz))))))))):=by kernel_rfl
theorem Ych (op n a b c d:Int) (l:List Ex):Ex.op (.mk op n a b c d l)=op:=rfl
theorem n_mk (op n a b c d:Int) (l:List Ex):Ex.n (.mk op n a b c d l)=n:=rfl
theorem Yci (op n a b c d:Int) (l:List Ex):Ex.d0 (.mk op n a b c d l)=a:=rfl
theorem Ycj (op n a b c d:Int) (l:List Ex):Ex.d1 (.mk op n a b c d l)=b:=rfl
theorem Yck (op n a b c d:Int) (l:List Ex):Ex.d2 (.mk op n a b c d l)=c:=rfl
theorem Ycl (op n a b c d:Int) (l:List Ex):Ex.d3 (.mk op n a b c d l)=d:=rfl
theorem l_mk (op n a b c d:Int) (l:List Ex):Ex.l (.mk op n a b c d l)=l:=rfl
theorem u_mk (op n a b c d:Int) (l:List Ex):Ex.u (.mk op n a b c d l)= [a,b,c,d]:=rfl
theorem len4 {α:Type} {l:List α} (h:l.length=4):∃a b c d,l= [a,b,c,d]:=by
 match l,h with
 | [a,b,c,d],_=>exact ⟨a,b,c,d,rfl⟩
theorem Zmg (op least:Int) (t:List (List Nat)):(par op least t).length<=t.length+2:=by
 unfold par
 split
 · omega
 · simp
theorem Zpq:∀m,PxOk m
 |0=>fun x h=>by omega
 |m+1=>by
  intro x hx hf l fz hfz h1 hl
  have hm:=Zpq m
  refine Zdj E_ok (Xn E_ok Zq7 fun f N c=>(Zgg E_ok (Z76 hm) 400 f N c).1) rfl ?_
  show Zm E Fpu (vc E (Fxp' m) 400) 79 [.ptr 0 0,exA x] (hpP E Th.strs (some (l,fz))) 2 (prnK E Th.strs (some (l,fz)) (l++txX x))
  rw [Zru];delta qCG5 qCGc qCGl qCG8 qCGj qCGb qCGq qCGa qCGi qCGf qCG9 qCGm qCGe qCG2 qCGg qCG1 qCGn qCG3 qCGo qCGh qCG4 qCGp qCG6 qCG7 qCGd qCGk qCGr
  simp only [fzO,List.take_length,Ex.eta,forall_eq,beq_iff_eq,beq_eq_false_iff_ne,ne_eq]
  rw [Zbq,Bool.and_eq_true] at hf
  obtain ⟨hh,hfl⟩:=hf
  have hkf:∀y∈x.l,Z2 y=true:=formL_iff.1 hfl
  rw [Ex.sz_eq] at hx hl
  obtain ⟨op,n,a,b,c,d,xs⟩:=x
  simp only [Ych,n_mk,Yci,Ycj,Yck,Ycl,l_mk,u_mk] at*
  obtain ⟨g1,g2,g3,g4,g5,g6,g7⟩:=Zdb hh
  have htx:txX (.mk op n a b c d xs)=txN op n [a,b,c,d] (xs.map Ex.op) (txL xs):=by rw [txX]
  rw [htx]
  clear hh hfl htx
  have w0:wr .i64 0=0:=by decide
  have w1:wr .i64 1=1:=by decide
  have w2:wr .i64 2=2:=by decide
  have w3:wr .i64 3=3:=by decide
  have t3:tightF 3=1:=rfl
  have t4:tightF 4=1:=rfl
  have t5:tightF 5=2:=rfl
  refine ⟨fun q1=> ?_,fun q1=>⟨fun q2=> ?_,fun q2=>⟨fun q3=> ?_,fun q3=>⟨fun q4=> ?_,fun q4=>⟨fun q5=> ?_,fun q5=>⟨fun q6=> ?_,fun q6=> ?_⟩⟩⟩⟩⟩⟩
  · subst q1
    have h4:n<=1099511627776:=g4
    refine ⟨⟨g3,by omega⟩,⟨Nat.le_refl _,hfz,by omega⟩,⟨by simp,by simp;omega,by simp,by simp;omega⟩,?_⟩
    simp [txN]
  · subst q2
    have h4:n<=15:=g4
    have L:WK.at_.words.length=16:=rfl
    refine ⟨g3,by rw [L];omega,fun w hw=>⟨⟨Nat.le_refl _,hfz,by omega⟩,?_⟩⟩
    have:WK.at_.words.getD n.toNat []=w:=by simp [List.getD,hw]
    unfold txN
    rw [if_neg (by decide),if_pos rfl,this]
    simp
  · subst q3
    obtain ⟨x1,x2,x3,x4,rfl⟩:=len4 (show xs.length=4 from g5)
    have s:x1.sz+(x2.sz+(x3.sz+(x4.sz+0)))+1<m+1:=hx
    have s':l.length+8*(x1.sz+(x2.sz+(x3.sz+(x4.sz+0)))+1)+8<=1000000000:=hl
    have p1:=Y6 x1
    have p2:=Y6 x2
    have p3:=Y6 x3
    have p4:=Y6 x4
    have f1:=hkf x1 (by simp)
    have f2:=hkf x2 (by simp)
    have f3:=hkf x3 (by simp)
    have f4:=hkf x4 (by simp)
    simp [f1,f2,f3,f4,txN,txS,txL,sIf,Z7,U0,Zv,Zi]
    omega
  · subst q4
    obtain ⟨x1,x2,rfl⟩:=len2 (show xs.length=2 from g5)
    have s:x1.sz+(x2.sz+0)+1<m+1:=hx
    have s':l.length+8*(x1.sz+(x2.sz+0)+1)+8<=1000000000:=hl
    have p1:=Y6 x1
    have p2:=Y6 x2
    have f1:=hkf x1 (by simp)
    have f2:=hkf x2 (by simp)
    have r1:=Zmg x1.op 1 (txX x1)
    simp [w0,w1,w2,w3,t3,f1,f2,txN,txL,sgnO,Vo]
    omega
  · subst q5
    obtain ⟨x1,x2,rfl⟩:=len2 (show xs.length=2 from g5)
    have s:x1.sz+(x2.sz+0)+1<m+1:=hx
    have s':l.length+8*(x1.sz+(x2.sz+0)+1)+8<=1000000000:=hl
    have p1:=Y6 x1
    have p2:=Y6 x2
    have f1:=hkf x1 (by simp)
    have f2:=hkf x2 (by simp)
    have r1:=Zmg x1.op 1 (txX x1)
    simp [w0,w1,w2,w3,t4,f1,f2,txN,txL,sgnO,Z8]
    omega
  · subst q6
    obtain ⟨x1,x2,rfl⟩:=len2 (show xs.length=2 from g5)
    have s:x1.sz+(x2.sz+0)+1<m+1:=hx
    have s':l.length+8*(x1.sz+(x2.sz+0)+1)+8<=1000000000:=hl
    have p1:=Y6 x1
    have p2:=Y6 x2
    have f1:=hkf x1 (by simp)
    have f2:=hkf x2 (by simp)
    have r1:=Zmg x1.op 2 (txX x1)
    simp [w0,w1,w2,w3,t5,f1,f2,txN,txL,sgnO,sMul]
    omega
  · have L:WK.ca.words.length=5:=rfl
    obtain ⟨x1,x2,rfl⟩:=len2 (show xs.length=2 by rw [g5];unfold Zmk;rw [if_neg (by omega),if_neg (by omega)])
    have s:x1.sz+(x2.sz+0)+1<m+1:=hx
    have s':l.length+8*(x1.sz+(x2.sz+0)+1)+8<=1000000000:=hl
    have p1:=Y6 x1
    have p2:=Y6 x2
    have f1:=hkf x1 (by simp)
    have f2:=hkf x2 (by simp)
    have wo:wr .i64 (op-6)=op-6:=wr64 (by omega) (by omega)
    simp only [wo]
    refine ⟨by omega,by rw [L];omega,fun w hw=> ?_⟩
    have e:WK.ca.words.getD (op-6).toNat []=w:=by simp [List.getD,hw]
    have q7:¬(op=3\/op=4\/op=5):=by omega
    unfold txN
    rw [if_neg q1,if_neg q2,if_neg q3,if_neg q7,e]
    simp [f1,f2,txS,txL,Z7,Zv,Zi]
    omega
end
section
open Go
def CsOk:List (List Nat)->List Cls->Prop
 |_,[]=>True
 |seen,c::r=>Wa c=true/\resF c.name=false/\c.name∉seen/\c.when_.length<=8/\Zn c.pay<=24/\CsOk (c.name::seen) r
def Z60 (m:List (List Nat×Bool)) (seen:List (List Nat)):Prop:=∀a,(Y1 m a).getD false=decide (a∈seen)
theorem Zxp {m:List (List Nat×Bool)} {seen:List (List Nat)} (h:Z60 m seen) (a:List Nat):Z60 (putS m a true) (a::seen):=by
 intro b
 rw [Zf5]
 by_cases e:a=b
 · rw [if_pos e]
   subst e
   simp
 · rw [if_neg e,h b]
   simp [Ne.symm e]
theorem Zqt:∀(cs:List Cls) (a b:Bool) (m:List (List Nat×Bool)) (seen:List (List Nat)),Z60 m seen->(goC a b m cs=0↔a=false/\b=false/\CsOk seen cs)
 | [],a,b,m,seen,hm=>by
  unfold goC CsOk
  cases a<;>cases b<;>decide
 |c::r,a,b,m,seen,hm=>by
  rw [Zhj]
  unfold CsOk
  by_cases hc:Wa c=true
  · rw [if_pos hc,Zqt r _ _ _ _ (Zxp hm c.name),hm c.name]
    simp only [Bool.or_eq_false_iff,decide_eq_false_iff_not]
    constructor
    · rintro ⟨⟨⟨h1,h2⟩,h3⟩,⟨⟨h4,h5⟩,h6⟩,h7⟩
      exact ⟨h1,h4,hc,h2,h3,by omega,by omega,h7⟩
    · rintro ⟨h1,h4,_,h2,h3,h5,h6,h7⟩
      exact ⟨⟨⟨h1,h2⟩,h3⟩,⟨⟨h4,by omega⟩,by omega⟩,h7⟩
  · rw [if_neg hc]
    constructor
    · intro h
      cases h
    · rintro ⟨_,_,h,_⟩
      exact absurd h hc
theorem Wt (t:Tar):Xb t=0↔X5 t.name=true/\1<=t.for_/\t.for_<=6/\resF t.name=false/\t.clauses.length<=64/\CsOk [] t.clauses:=by
 unfold Xb
 split
 · rename_i h
   rw [Zqt _ _ _ _ [] (fun a=>by simp [Y1])]
   rw [decide_eq_false_iff_not]
   constructor
   · rintro ⟨h1,h2,h3⟩
     exact ⟨h.1,h.2.1,h.2.2,h1,by omega,h3⟩
   · rintro ⟨_,_,_,h1,h2,h3⟩
     exact ⟨h1,by omega,h3⟩
 · rename_i h
   constructor
   · intro k
     cases k
   · rintro ⟨h1,h2,h3,_⟩
     exact absurd ⟨h1,h2,h3⟩ h
theorem Zxq (i:Nat) (w:Tst) (r:List Tst):txTs i (w::r)=(if i=0 then Zjj else sAnd)::(txW w++txTs (i+1) r):=rfl
theorem Zdk {w:Tst} (h:Ye w=true):0<=w.attr/\w.attr<16/\0<=w.low/\w.low<=1099511627776/\0<=w.high/\w.high<=1099511627776:=of_decide_eq_true h
theorem Zqu (k:Nat) (ts:List Tst) (l:List Tok) (e:Int):pTs k false ts l e= .ok (ts,l,e,()):=by
 cases k with
 |zero=>rfl
 |succ k=>unfold pTs;rw [if_neg Bool.false_ne_true]
theorem Zxr (c:Cls) (r:List Cls):txCs (c::r)=txC c++txCs r:=rfl
theorem Zlc {s:List Nat} (h:X5 s=true) (hr:resF s=false) (r:List Tok) (e:Int):V0 (tkS s::r) e= .ok (s,r,e,()):=by
 rw [Zit h]
 show (if (1:Int)=1 then (if s∈resW then (.error (0,161):PR (List Nat)) else .ok (s,r,e,())) else .error (0,160))=_
 rw [if_pos rfl,if_neg (of_decide_eq_false hr)]
theorem Zbf {c:Cls} (h:Wa c=true):X5 c.name=true/\Z2 c.pay=true/\∀w∈c.when_,Ye w=true:=by
 unfold Wa at h
 rw [Bool.and_eq_true,Bool.and_eq_true] at h
 exact ⟨h.1.1,h.1.2,List.all_eq_true.1 h.2⟩
theorem any_name {bs:List Cls} {a:List Nat}:bs.any (fun b=>b.name==a)=false↔a∉bs.map Cls.name:=by
 rw [List.any_eq_false]
 simp only [List.mem_map,not_exists,not_and]
 constructor
 · intro h b hb e
   exact h b hb (by rw [e];exact beq_self_eq_true a)
 · intro h b hb e
   exact h b hb (eq_of_beq e)
end
section
open Go
abbrev PP (β:Type):=List Tok->Int->PR β
def Z99 (l:List Tok) (e:Int) (er:Int×Int):Prop:=(er.1=e\/∃t∈l,t.at_=er.1)/\(er.2=2\/er.2=160\/er.2=161)
section
variable {α β : Type}
def Okp (rel:β->β->Prop) (p:PP β) (l:List Tok) (y:β) (k:Nat):Prop:=
 k<=l.length/\∀(l':List Tok) (m:Nat) (f:Int),l'.map sT=(l.map sT).take m->
  (k<=m->p l' f= .ok (y,l'.drop k,f,()))/\(m<k->p l' f= .error (f,160)\/∃y',rel y' y/\p l' f= .ok (y',[],f,()))
def ErrS (p:PP β) (l:List Tok) (e:Int) (er:Int×Int):Prop:=∃(j:Nat) (c:Int),er=(hdT e (l.drop j),c)/\(c=2\/c=160\/c=161)/\∀(l':List Tok) (f:Int),l'.map sT=l.map sT->p l' f= .error (hdT f (l'.drop j),c)
def Gd (rel:β->β->Prop) (p:PP β):Prop:=∀l e,(∀y x,p l e= .ok (y,x)->∃k,x=(l.drop k,e,())/\Okp rel p l y k)/\∀er,p l e= .error er->ErrS p l e er
theorem Yaa (l:List Tok) (e:Int):hdT e l=e\/∃t∈l,t.at_=hdT e l:=by
 cases l with
 |nil=>exact .inl rfl
 |cons t r=>exact .inr ⟨t,by simp,rfl⟩
theorem ErrS.at {p:PP β} {l:List Tok} {e:Int} {er:Int×Int} (h:ErrS p l e er):Z99 l e er:=by
 obtain ⟨j,c,rfl,hc,_⟩:=h
 refine ⟨(Yaa (l.drop j) e).imp id ?_,hc⟩
 rintro ⟨t,ht,h⟩
 exact ⟨t,List.mem_of_mem_drop ht,h⟩
theorem ErrS.hd {p:PP β} {l:List Tok} {e:Int} {c:Int} (hc:c=2\/c=160\/c=161) (h:∀(l':List Tok) (f:Int),l'.map sT=l.map sT->p l' f= .error (hdT f l',c)):ErrS p l e (hdT e l,c):=⟨0,c,rfl,hc,h⟩
theorem Zb3 {l l':List Tok} (h:l'.map sT=l.map sT):l'.map sT=(l.map sT).take l.length:=by rw [h,List.take_of_length_le (by simp)]
theorem Gd.mono {rel rel':β->β->Prop} {p:PP β} (h:Gd rel p) (hr:∀a b,rel a b->rel' a b):Gd rel' p:=by
 intro l e
 refine ⟨fun y x hy=> ?_,(h l e).2⟩
 obtain ⟨k,h1,h2,h3⟩:=(h l e).1 y x hy
 refine ⟨k,h1,h2,fun l' m f hl=>⟨(h3 l' m f hl).1,fun hm=>((h3 l' m f hl).2 hm).imp id ?_⟩⟩
 rintro ⟨y',h4,h5⟩
 exact ⟨y',hr _ _ h4,h5⟩
def pR (y:β):PP β:=fun l e=> .ok (y,l,e,())
def pSyn:PP β:=fun l e=> .error (hdT e l,160)
theorem Vu {l':List Tok} {m:Nat} (h:l'.map sT=(([]:List Tok).map sT).take m):l'= []:=by
 rw [List.map_nil,List.take_nil] at h
 exact List.map_eq_nil_iff.1 h
theorem gd_R (rel:β->β->Prop) (y:β):Gd rel (pR y):=by
 intro l e
 refine ⟨fun z x h=> ?_,fun er h=>by cases h⟩
 unfold pR at h
 cases h
 refine ⟨0,rfl,Nat.zero_le _,fun l' m f _=>⟨fun _=>rfl,fun h=>by omega⟩⟩
theorem V5 (rel:β->β->Prop):Gd rel (pSyn:PP β):=by
 intro l e
 refine ⟨fun z x h=>(by cases h),fun er h=> ?_⟩
 unfold pSyn at h
 cases h
 exact .hd (by simp) fun l' f _=>rfl
def pBc (p:PP α) (c:α->Bool) (code:Int) (q:α->PP β):PP β:=fun l e=>
 match p l e with
 | .error er=> .error er
 | .ok (y,x)=>if c y then .error (hdT e l,code) else q y x.1 x.2.1
def pB (p:PP α) (q:α->PP β):PP β:=fun l e=>
 match p l e with
 | .error er=> .error er
 | .ok (y,x)=>q y x.1 x.2.1
theorem Zwc {l':List Tok} {l:List Tok} {m k:Nat} (h:l'.map sT=(l.map sT).take m):(l'.drop k).map sT=((l.drop k).map sT).take (m-k):=by
 rw [List.map_drop,h,List.map_drop,List.drop_take]
theorem Z01 {rel:α->α->Prop} {rel':β->β->Prop} {p:PP α} {c:α->Bool} {code:Int} {q:α->PP β} (hp:Gd rel p) (hq:∀y,Gd rel' (q y)) (hcode:code=2\/code=160\/code=161) (hc:∀y y',rel y' y->c y=false->c y'=false)
 (h0:∀y y' l e z x,rel y' y->q y l e= .ok (z,x)->∀f,q y' [] f= .error (f,160)\/∃z',rel' z' z/\q y' [] f= .ok (z',[],f,())):Gd rel' (pBc p c code q):=by
 intro l e
 have E:∀l e,pBc p c code q l e=match p l e with| .error er=> .error er| .ok (y,x)=>if c y then .error (hdT e l,code) else q y x.1 x.2.1:=fun _ _=>rfl
 rw [E]
 cases h:p l e with
 |error er=>
  refine ⟨fun z x h=>(by cases h),fun er' h'=> ?_⟩
  cases h'
  obtain ⟨j,c0,h1,h2,h3⟩:=(hp l e).2 er h
  exact ⟨j,c0,h1,h2,fun l' f hl=>by rw [E,h3 l' f hl]⟩
 |ok y=>
  obtain ⟨y,x⟩:=y
  obtain ⟨k1,rfl,h1,h2⟩:=(hp l e).1 y x h
  dsimp only
  cases hcy:c y with
  |true=>
   refine ⟨fun z x h=>(by cases h),fun er' h'=> ?_⟩
   cases h'
   refine .hd hcode fun l' f hl=> ?_
   rw [E,(h2 l' l.length f (Zb3 hl)).1 h1]
   dsimp only
   rw [hcy,if_pos rfl]
  |false=>
   rw [if_neg Bool.false_ne_true]
   refine ⟨fun z x2 hz=> ?_,fun er' h'=> ?_⟩
   rotate_left
   · obtain ⟨j,c0,h3,h4,h5⟩:=(hq y _ _).2 er' h'
     refine ⟨k1+j,c0,by rw [h3,List.drop_drop],h4,fun l' f hl=> ?_⟩
     rw [E,(h2 l' l.length f (Zb3 hl)).1 h1]
     dsimp only
     rw [hcy,if_neg Bool.false_ne_true,h5 (l'.drop k1) f (by rw [List.map_drop,hl,List.map_drop]),List.drop_drop]
   obtain ⟨k2,rfl,h3,h4⟩:=(hq y _ _).1 z x2 hz
   rw [List.length_drop] at h3
   refine ⟨k1+k2,by rw [List.drop_drop],by omega,fun l' m f hl=> ?_⟩
   have hd:=Zwc (k:=k1) hl
   rw [E]
   refine ⟨fun hm=> ?_,fun hm=> ?_⟩
   · rw [(h2 l' m f hl).1 (by omega)]
     dsimp only
     rw [hcy,if_neg Bool.false_ne_true,(h4 _ _ f hd).1 (by omega),List.drop_drop]
   · by_cases hk:k1<=m
     · rw [(h2 l' m f hl).1 hk]
       dsimp only
       rw [hcy,if_neg Bool.false_ne_true]
       exact (h4 _ _ f hd).2 (by omega)
     · rcases (h2 l' m f hl).2 (by omega) with h5|⟨y',h5,h6⟩
       · rw [h5]
         exact .inl rfl
       · rw [h6]
         dsimp only
         rw [hc y y' h5 hcy,if_neg Bool.false_ne_true]
         exact h0 y y' _ _ z _ h5 hz f
theorem Ycx (p:PP α) (q:α->PP β):pB p q=pBc p (fun _=>false) 2 q:=by
 funext l e
 unfold pB pBc
 cases p l e with
 |error er=>rfl
 |ok y=>rfl
theorem gd_b {rel:α->α->Prop} {rel':β->β->Prop} {p:PP α} {q:α->PP β} (hp:Gd rel p) (hq:∀y,Gd rel' (q y))
 (h0:∀y y' l e z x,rel y' y->q y l e= .ok (z,x)->∀f,q y' [] f= .error (f,160)\/∃z',rel' z' z/\q y' [] f= .ok (z',[],f,())):Gd rel' (pB p q):=by
 rw [Ycx]
 exact Z01 hp hq (by simp) (fun _ _ _ _=>rfl) h0
def pIf (s:List Nat) (A B:PP β):PP β:=fun l e=>if isW s l then A l.tail e else B l e
theorem Wp {t t':Tok} (h:sT t'=sT t):t'.kind=t.kind/\t'.text=t.text/\t'.n=t.n:=by
 unfold sT atT at h
 injection h with h1 h2 h3 h4
 exact ⟨h1,h2,h3⟩
theorem Zkq {s:List Nat} {t t':Tok} {r r':List Tok} (h:sT t'=sT t):isW s (t'::r')=isW s (t::r):=by
 obtain ⟨h1,h2,_⟩:=Wp h
 show (!(t'.kind==2)&&t'.text==s)=(!(t.kind==2)&&t.text==s)
 rw [h1,h2]
theorem Y8 {l' l:List Tok} {m:Nat} (h:l'.map sT=(l.map sT).take m):(l'= []/\(m=0\/l= []))\/∃t' r' t r m',l'=t'::r'/\l=t::r/\m=m'+1/\sT t'=sT t/\r'.map sT=(r.map sT).take m':=by
 cases m with
 |zero=>
  rw [List.take_zero] at h
  exact .inl ⟨List.map_eq_nil_iff.1 h,.inl rfl⟩
 |succ m=>
  cases l with
  |nil=>exact .inl ⟨Vu h,.inr rfl⟩
  |cons t r=>
   cases l' with
   |nil=>simp at h
   |cons t' r'=>
    rw [List.map_cons,List.map_cons,List.take_succ_cons] at h
    injection h with h1 h2
    exact .inr ⟨t',r',t,r,m,rfl,rfl,rfl,h1,h2⟩
theorem V9 {rel:β->β->Prop} {s:List Nat} {A B:PP β} (hA:Gd rel A) (hB:Gd rel B) (h0:∀l e y x,A l e= .ok (y,x)->∀f,B [] f= .error (f,160)\/∃y',rel y' y/\B [] f= .ok (y',[],f,())):Gd rel (pIf s A B):=by
 intro l e
 have E:∀l e,pIf s A B l e=if isW s l then A l.tail e else B l e:=fun _ _=>rfl
 rw [E]
 cases hw:isW s l with
 |true=>
  rw [if_pos rfl]
  cases l with
  |nil=>cases hw
  |cons t r=>
   refine ⟨fun y x hy=> ?_,fun er h=> ?_⟩
   rotate_left
   · obtain ⟨j,c0,h3,h4,h5⟩:=(hA r e).2 er h
     refine ⟨j+1,c0,h3,h4,fun l' f hl=> ?_⟩
     rcases Y8 (Zb3 hl) with ⟨rfl,h6⟩|⟨t',r',t2,r2,m',rfl,h6,h7,h8,h9⟩
     · simp at hl
     · cases h6
       rw [E,Zkq (r':=r') (r:=r) h8,hw,if_pos rfl]
       refine h5 r' f ?_
       simpa using (List.cons.inj hl).2
   obtain ⟨k,rfl,h1,h2⟩:=(hA r e).1 y x hy
   refine ⟨k+1,rfl,by simpa using h1,fun l' m f hl=> ?_⟩
   rw [E]
   rcases Y8 hl with ⟨rfl,h3⟩|⟨t',r',t2,r2,m',rfl,h3,rfl,h4,h5⟩
   · have hm:m=0:=by
      rcases h3 with h3|h3
      · exact h3
      · cases h3
     subst hm
     refine ⟨fun h=>by omega,fun _=> ?_⟩
     rw [show isW s []=false from rfl,if_neg Bool.false_ne_true]
     exact h0 _ _ _ _ hy f
   · cases h3
     rw [Zkq (r':=r') (r:=r) h4,hw,if_pos rfl]
     exact ⟨fun hm=>(h2 r' m' f h5).1 (by omega),fun hm=>(h2 r' m' f h5).2 (by omega)⟩
 |false=>
  rw [if_neg Bool.false_ne_true]
  have nW:∀(l':List Tok) (m:Nat),l'.map sT=(l.map sT).take m->isW s l'=false:=by
   intro l' m hl
   rcases Y8 hl with ⟨rfl,_⟩|⟨t',r',t,r,m',rfl,rfl,rfl,h4,h5⟩
   · rfl
   · rw [Zkq (r:=r) h4]
     exact hw
  refine ⟨fun y x hy=> ?_,fun er h=> ?_⟩
  rotate_left
  · obtain ⟨j,c0,h3,h4,h5⟩:=(hB l e).2 er h
    refine ⟨j,c0,h3,h4,fun l' f hl=> ?_⟩
    rw [E,nW l' l.length (Zb3 hl),if_neg Bool.false_ne_true]
    exact h5 l' f hl
  obtain ⟨k,rfl,h1,h2⟩:=(hB l e).1 y x hy
  refine ⟨k,rfl,h1,fun l' m f hl=> ?_⟩
  rw [E]
  have:=nW l' m hl
  rw [this,if_neg Bool.false_ne_true]
  exact h2 l' m f hl
def pOne (c:Tok->Bool) (v:Tok->β):PP β:=fun l e=>
 match l with
 | []=> .error (e,160)
 |t::r=>if c (sT t) then .ok (v (sT t),r,e,()) else .error (t.at_,160)
theorem Z33 (rel:β->β->Prop) (c:Tok->Bool) (v:Tok->β):Gd rel (pOne c v):=by
 intro l e
 cases l with
 |nil=>
  refine ⟨fun y x hy=>(by cases hy),fun er h=> ?_⟩
  cases h
  refine .hd (by simp) fun l' f hl=> ?_
  have:l'= []:=Vu (m:=0) (by simpa using hl)
  subst this
  rfl
 |cons t r=>
  have E:∀t r e,pOne c v (t::r) e=if c (sT t) then .ok (v (sT t),r,e,()) else .error (t.at_,160):=fun _ _ _=>rfl
  rw [E]
  cases hc:c (sT t) with
  |false=>
   rw [if_neg Bool.false_ne_true]
   refine ⟨fun y x hy=>(by cases hy),fun er h=> ?_⟩
   cases h
   refine .hd (l:=t::r) (by simp) fun l' f hl=> ?_
   cases l' with
   |nil=>simp at hl
   |cons t' r'=>
    have h1:sT t'=sT t:=(List.cons.inj hl).1
    rw [E,h1,hc,if_neg Bool.false_ne_true]
    rfl
  |true=>
   rw [if_pos rfl]
   refine ⟨fun y x hy=> ?_,fun er h=>(by cases h)⟩
   cases hy
   refine ⟨1,rfl,by simp,fun l' m f hl=> ?_⟩
   rcases Y8 hl with ⟨rfl,h3⟩|⟨t',r',t2,r2,m',rfl,h3,rfl,h4,h5⟩
   · have hm:m=0:=by
      rcases h3 with h3|h3
      · exact h3
      · cases h3
     subst hm
     exact ⟨fun h=>by omega,fun _=> .inl rfl⟩
   · cases h3
     rw [E,h4,hc,if_pos rfl]
     exact ⟨fun _=>rfl,fun h=>by omega⟩
def pOpt (c:Tok->Bool) (v:Tok->β) (z:β):PP β:=fun l e=>
 match l with
 | []=> .ok (z,[],e,())
 |t::r=>if c (sT t) then .ok (v (sT t),r,e,()) else .ok (z,t::r,e,())
theorem Zwd (c:Tok->Bool) (v:Tok->β) (z:β):Gd (fun a _=>a=z) (pOpt c v z):=by
 intro l e
 cases l with
 |nil=>
  refine ⟨fun y x hy=> ?_,fun er h=>(by cases h)⟩
  cases hy
  refine ⟨0,rfl,Nat.zero_le _,fun l' m f hl=>⟨fun _=> ?_,fun h=>by omega⟩⟩
  have:l'= []:=Vu hl
  subst this
  rfl
 |cons t r=>
  have E:∀t r e,pOpt c v z (t::r) e=if c (sT t) then .ok (v (sT t),r,e,()) else .ok (z,t::r,e,()):=fun _ _ _=>rfl
  rw [E]
  cases hc:c (sT t) with
  |false=>
   rw [if_neg Bool.false_ne_true]
   refine ⟨fun y x hy=> ?_,fun er h=>(by cases h)⟩
   cases hy
   refine ⟨0,rfl,Nat.zero_le _,fun l' m f hl=>⟨fun _=> ?_,fun h=>by omega⟩⟩
   rcases Y8 hl with ⟨rfl,_⟩|⟨t',r',t2,r2,m',rfl,h3,rfl,h4,h5⟩
   · rfl
   · cases h3
     rw [E,h4,hc,if_neg Bool.false_ne_true]
     rfl
  |true=>
   rw [if_pos rfl]
   refine ⟨fun y x hy=> ?_,fun er h=>(by cases h)⟩
   cases hy
   refine ⟨1,rfl,by simp,fun l' m f hl=> ?_⟩
   rcases Y8 hl with ⟨rfl,h3⟩|⟨t',r',t2,r2,m',rfl,h3,rfl,h4,h5⟩
   · have hm:m=0:=by
      rcases h3 with h3|h3
      · exact h3
      · cases h3
     subst hm
     exact ⟨fun h=>by omega,fun _=> .inr ⟨z,rfl,rfl⟩⟩
   · cases h3
     rw [E,h4,hc,if_pos rfl]
     exact ⟨fun _=>rfl,fun h=>by omega⟩
end
abbrev NoR {β:Type}:β->β->Prop:=fun _ _=>False
abbrev AnyR {β:Type}:β->β->Prop:=fun _ _=>True
abbrev NeR:Ex->Ex->Prop:=fun a b=>Zn a<=Zn b
theorem Zp8:pInt=pOne (fun t=>t.kind=2) (fun t=>t.n):=by
 funext l e
 cases l with
 |nil=>rfl
 |cons t r=>
  show (if t.kind=2 then _ else _)=(if decide (t.kind=2)=true then _ else _)
  by_cases h:t.kind=2
  · rw [if_pos h,if_pos (decide_eq_true h)]
    rfl
  · rw [if_neg h,if_neg (by simpa using h)]
theorem Zkr (ws:List (List Nat)):Ym ws=pOne (fun t=>decide (0<=chz ws [t])) (fun t=>chz ws [t]):=by
 funext l e
 cases l with
 |nil=>rfl
 |cons t r=>
  have h1:chz ws (t::r)=chz ws [sT t]:=rfl
  unfold Ym pOne
  dsimp only
  rw [h1]
  by_cases h:0<=chz ws [sT t]
  · rw [if_pos h,if_pos (decide_eq_true h)]
    rfl
  · rw [if_neg h,if_neg (by simpa using h)]
    rfl
theorem Ze4 (ws:List (List Nat)):Zs ws=pOpt (fun t=>decide (0<=chz ws [t])) (fun t=>(chz ws [t],true,())) (0,false,()):=by
 funext l e
 cases l with
 |nil=>rfl
 |cons t r=>
  have h1:chz ws (t::r)=chz ws [sT t]:=rfl
  unfold Zs pOpt
  dsimp only
  rw [h1]
  by_cases h:0<=chz ws [sT t]
  · rw [if_pos h,if_pos (decide_eq_true h)]
    rfl
  · rw [if_neg h,if_neg (by simpa using h)]
theorem Zwe:Gd NoR pInt:=by rw [Zp8];exact Z33 _ _ _
theorem Zij (ws:List (List Nat)):Gd NoR (Ym ws):=by rw [Zkr];exact Z33 _ _ _
theorem Zks (ws:List (List Nat)):Gd (fun a _=>a=(0,false,())) (Zs ws):=by rw [Ze4];exact Zwd _ _ _
theorem Zad (t:Tok) (r:List Tok) (e:Int):V0 (t::r) e=if t.kind=1 then (if t.text∈resW then .error (t.at_,161) else .ok (t.text,r,e,())) else .error (t.at_,160):=rfl
theorem Zwf:Gd NoR V0:=by
 intro l e
 cases l with
 |nil=>
  refine ⟨fun y x hy=>(by cases hy),fun er h=> ?_⟩
  cases h
  refine .hd (l:= []) (by simp) fun l' f hl=> ?_
  have:l'= []:=Vu (m:=0) (by simpa using hl)
  subst this
  rfl
 |cons t r=>
  have sim:∀(l':List Tok),l'.map sT=(t::r).map sT->∃t' r',l'=t'::r'/\t'.kind=t.kind/\t'.text=t.text:=by
   intro l' hl
   cases l' with
   |nil=>simp at hl
   |cons t' r'=>
    obtain ⟨g1,g2,_⟩:=Wp (List.cons.inj hl).1
    exact ⟨t',r',rfl,g1,g2⟩
  rw [Zad]
  split
  · rename_i hk
    split
    · rename_i hr
      refine ⟨fun y x hy=>(by cases hy),fun er h=> ?_⟩
      cases h
      refine .hd (l:=t::r) (by simp) fun l' f hl=> ?_
      obtain ⟨t',r',rfl,g1,g2⟩:=sim l' hl
      rw [Zad,g1,g2,if_pos hk,if_pos hr]
      rfl
    · rename_i hr
      refine ⟨fun y x hy=> ?_,fun er h=>(by cases h)⟩
      cases hy
      refine ⟨1,rfl,by simp,fun l' m f hl=> ?_⟩
      rcases Y8 hl with ⟨rfl,h3⟩|⟨t',r',t2,r2,m',rfl,h3,rfl,h4,h5⟩
      · have hm:m=0:=by
         rcases h3 with h3|h3
         · exact h3
         · cases h3
        subst hm
        exact ⟨fun h=>by omega,fun _=> .inl rfl⟩
      · cases h3
        obtain ⟨g1,g2,_⟩:=Wp h4
        refine ⟨fun _=> ?_,fun h=>by omega⟩
        rw [Zad,g1,g2,if_pos hk,if_neg hr]
        rfl
  · rename_i hk
    refine ⟨fun y x hy=>(by cases hy),fun er h=> ?_⟩
    cases h
    refine .hd (l:=t::r) (by simp) fun l' f hl=> ?_
    obtain ⟨t',r',rfl,g1,g2⟩:=sim l' hl
    rw [Zad,g1,if_neg hk]
    rfl
theorem Zwg:Xa=pB (Zs WK.un.words) fun y=>pIf sPer (pB (Ym WK.un.words) fun j=>pR (decD (if y.2.1 then incD [0,0,0,0] y.1 else [0,0,0,0]) j)) (pR (if y.2.1 then incD [0,0,0,0] y.1 else [0,0,0,0])):=by
 funext l e
 unfold Xa pB pIf
 cases Zs WK.un.words l e with
 |error er=>rfl
 |ok y=>
  dsimp only
  split
  · cases Ym WK.un.words y.2.1.tail y.2.2.1 with
    |error er=>rfl
    |ok z=>rfl
  · rfl
theorem Z6h:Gd AnyR Xa:=by
 rw [Zwg]
 refine gd_b (Zks _) (fun y=>V9 (gd_b (Zij _) (fun j=>gd_R _ _) (fun _ _ _ _ _ _ h=>h.elim)) (gd_R _ _) fun l e y x _ f=> .inr ⟨_,trivial,rfl⟩) ?_
 intro y y' l e z x _ _ f
 exact .inr ⟨_,trivial,rfl⟩
theorem Zwh (n:Int):Vb n=pBc (Ym WK.at_.words) (fun _=>decide (n=8)) 2 fun a=>pIf sIs (pB pInt fun m=>pR ⟨a,m,m⟩) (pIf sIn (pB pInt fun m=>pIf Zl9 (pB pInt fun k=>pR ⟨a,m,k⟩) pSyn) pSyn):=by
 funext l e
 unfold Vb pBc pIf pB
 cases Ym WK.at_.words l e with
 |error er=>rfl
 |ok y=>
  dsimp only
  by_cases hn:n=8
  · rw [if_pos hn,if_pos (decide_eq_true hn)]
  · rw [if_neg hn,if_neg (show ¬decide (n=8)=true by simpa using hn)]
    split
    · cases pInt y.2.1.tail y.2.2.1 with
      |error er=>rfl
      |ok z=>rfl
    · split
      · cases pInt y.2.1.tail y.2.2.1 with
        |error er=>rfl
        |ok z=>
         dsimp only
         split
         · cases pInt z.2.1.tail z.2.2.1 with
           |error er=>rfl
           |ok u=>rfl
         · rfl
      · rfl
theorem Z6i (n:Int):Gd NoR (Vb n):=by
 rw [Zwh]
 refine Z01 (Zij _) (fun a=> ?_) (by simp) (fun _ _ h=>h.elim) (fun _ _ _ _ _ _ h=>h.elim)
 refine V9 (gd_b Zwe (fun m=>gd_R _ _) (fun _ _ _ _ _ _ h=>h.elim)) (V9 (gd_b Zwe (fun m=> ?_) (fun _ _ _ _ _ _ h=>h.elim)) (V5 _) fun _ _ _ _ _ f=> .inl rfl) fun _ _ _ _ _ f=> .inl rfl
 exact V9 (gd_b Zwe (fun k=>gd_R _ _) (fun _ _ _ _ _ _ h=>h.elim)) (V5 _) fun _ _ _ _ _ f=> .inl rfl
theorem Yab (k:Nat) (ts:List Tst):pTs (k+1) true ts=pB (Vb ts.length) fun t=>pIf [97,110,100] (pTs k true (ts++ [t])) (pTs k false (ts++ [t])):=by
 funext l e
 unfold pB pIf
 rw [pTs,if_pos rfl]
 cases Vb ts.length l e with
 |error er=>rfl
 |ok y=>
  dsimp only
  cases isW [97,110,100] y.2.1<;>rfl
theorem Z02 (k:Nat) (ts:List Tst):pTs k false ts=pR ts:=by
 funext l e
 exact Zqu k ts l e
theorem Z6j:∀(k:Nat) (more:Bool) (ts:List Tst),Gd AnyR (pTs k more ts)
 |0,more,ts=>gd_R _ ts
 |k+1,false,ts=>by rw [Z02];exact gd_R _ _
 |k+1,true,ts=>by
  rw [Yab]
  refine gd_b (Z6i _) (fun t=>V9 (Z6j k true _) (Z6j k false _) fun _ _ _ _ _ f=> .inr ⟨ts++ [t],trivial,by rw [Z02];rfl⟩) (fun _ _ _ _ _ _ h=>h.elim)
theorem Z34 (pe:PE) (s:List Nat) (r:List (List Nat)) (acc:List Ex):pOpL pe (s::r) acc=pB pe fun x=>pIf s (pOpL pe r (acc++ [x])) pSyn:=by
 funext l e
 rw [pOpL]
 unfold pB pIf pSyn
 cases pe l e with
 |error er=>rfl
 |ok y=>rfl
theorem Z35 {pe:PE} (h:Gd NeR pe):∀(ss:List (List Nat)) (acc:List Ex),Gd NoR (pOpL pe ss acc)
 | [],acc=>gd_R _ acc
 |s::r,acc=>by
  rw [Z34]
  exact gd_b h (fun x=>V9 (Z35 h r _) (V5 _) fun _ _ _ _ _ f=> .inl rfl) fun _ _ _ _ _ _ _ _ f=> .inl rfl
theorem Z36 (pe:PE) (op:Int) (ss:List (List Nat)):pOps pe op ss=pIf Z7 (pB (pOpL pe ss []) fun xs=>pR (.mk op 0 0 0 0 0 xs)) pSyn:=by
 funext l e
 unfold pOps pIf pB pSyn
 split
 · cases pOpL pe ss [] l.tail e with
   |error er=>rfl
   |ok y=>rfl
 · rfl
theorem Z37 {pe:PE} (h:Gd NeR pe) (op:Int) (ss:List (List Nat)):Gd NoR (pOps pe op ss):=by
 rw [Z36]
 exact V9 (gd_b (Z35 h ss []) (fun xs=>gd_R _ _) (fun _ _ _ _ _ _ h=>h.elim)) (V5 _) fun _ _ _ _ _ f=> .inl rfl
theorem Zwi (pe:PE):Vw pe=pIf Z7 (pB pe fun x=>pIf Zi (pR x) pSyn) (pIf sIf (pOps pe 11 [U0,Zv,Zv,Zi]) (pB (Zs WK.ca.words) fun k=>if k.2.1 then pOps pe (6+k.1) [Zv,Zi] else pB (Ym WK.at_.words) fun a=>pR (.mk 2 a 0 0 0 0 []))):=by
 funext l e
 unfold Vw pIf pB pSyn
 split
 · cases pe l.tail e with
   |error er=>rfl
   |ok y=>rfl
 · split
   · rfl
   · cases Zs WK.ca.words l e with
     |error er=>rfl
     |ok y=>
      dsimp only
      cases y.1.2.1 with
      |true=>rfl
      |false=>
       rw [if_neg Bool.false_ne_true,if_neg Bool.false_ne_true]
       cases Ym WK.at_.words y.2.1 y.2.2.1 with
       |error er=>rfl
       |ok z=>rfl
theorem Z6k {pe:PE} (h:Gd NeR pe):Gd NoR (Vw pe):=by
 rw [Zwi]
 refine V9 (gd_b h (fun x=>V9 (gd_R _ _) (V5 _) fun _ _ _ _ _ f=> .inl rfl) fun _ _ _ _ _ _ _ _ f=> .inl rfl) (V9 (Z37 h _ _) (gd_b (Zks _) (fun k=> ?_) ?_) fun _ _ _ _ _ f=> .inl rfl) fun _ _ _ _ _ f=> .inl rfl
 · split
   · exact Z37 h _ _
   · exact gd_b (Zij _) (fun a=>gd_R _ _) (fun _ _ _ _ _ _ h=>h.elim)
 · rintro y y' l e z x rfl _ f
   exact .inl rfl
theorem Yac {pe:PE} (h:Gd NeR pe):Gd NeR (pFac pe):=by
 have h2:=(Z6k h).mono (rel':=NeR) fun _ _ h=>h.elim
 intro l e
 cases l with
 |nil=>
  obtain ⟨g1,g2⟩:=h2 [] e
  refine ⟨fun y x hy=> ?_,fun er h=> ?_⟩
  rotate_left
  · obtain ⟨j,c0,h3,h4,h5⟩:=g2 er h
    refine ⟨j,c0,h3,h4,fun l' f hl=> ?_⟩
    have e1:l'= []:=Vu (m:=0) (by simpa using hl)
    subst e1
    exact h5 [] f rfl
  obtain ⟨k,hx,hk,ho⟩:=g1 y x hy
  refine ⟨k,hx,hk,fun l' m f hl=> ?_⟩
  have e1:l'= []:=Vu hl
  have:=ho l' m f hl
  subst e1
  exact this
 |cons t r=>
  have key:∀(t:Tok) (r:List Tok) (e:Int),pFac pe (t::r) e=if t.kind=2 then pB Xa (fun d=>pR (.mk 1 t.n (d.getD 0 0) (d.getD 1 0) (d.getD 2 0) (d.getD 3 0) [])) r e else Vw pe (t::r) e:=by
   intro t r e
   show (if t.kind=2 then _ else _)=_
   split
   · unfold pB
     cases Xa r e with
     |error er=>rfl
     |ok y=>rfl
   · rfl
  rw [key]
  by_cases hk:t.kind=2
  · rw [if_pos hk]
    have hg:Gd NeR (pB Xa fun d=>pR (.mk 1 t.n (d.getD 0 0) (d.getD 1 0) (d.getD 2 0) (d.getD 3 0) [])):=by
     refine gd_b Z6h (fun d=>gd_R _ _) ?_
     intro y y' l e z x _ hz f
     unfold pR at hz
     cases hz
     exact .inr ⟨.mk 1 t.n (y'.getD 0 0) (y'.getD 1 0) (y'.getD 2 0) (y'.getD 3 0) [],by show Zn _<=Zn _;simp [Zn],rfl⟩
    refine ⟨fun y x hy=> ?_,fun er h=> ?_⟩
    rotate_left
    · obtain ⟨j,c0,h3,h4,h5⟩:=(hg r e).2 er h
      refine ⟨j+1,c0,h3,h4,fun l' f hl=> ?_⟩
      cases l' with
      |nil=>simp at hl
      |cons t' r'=>
       obtain ⟨g1,_,g3⟩:=Wp (List.cons.inj hl).1
       rw [key,g1,g3,if_pos hk]
       exact h5 r' f (List.cons.inj hl).2
    obtain ⟨k,rfl,h1,h2⟩:=(hg r e).1 y x hy
    refine ⟨k+1,rfl,by simpa using h1,fun l' m f hl=> ?_⟩
    rcases Y8 hl with ⟨rfl,h3⟩|⟨t',r',t2,r2,m',rfl,h3,rfl,h4,h5⟩
    · have hm:m=0:=by
       rcases h3 with h3|h3
       · exact h3
       · cases h3
      subst hm
      exact ⟨fun h=>by omega,fun _=> .inl rfl⟩
    · cases h3
      obtain ⟨g1,_,g3⟩:=Wp h4
      rw [key,g1,g3,if_pos hk]
      exact ⟨fun hm=>(h2 r' m' f h5).1 (by omega),fun hm=>(h2 r' m' f h5).2 (by omega)⟩
  · rw [if_neg hk]
    obtain ⟨g1,g2⟩:=h2 (t::r) e
    refine ⟨fun y x hy=> ?_,fun er h=> ?_⟩
    rotate_left
    · obtain ⟨j,c0,h3,h4,h5⟩:=g2 er h
      refine ⟨j,c0,h3,h4,fun l' f hl=> ?_⟩
      cases l' with
      |nil=>simp at hl
      |cons t' r'=>
       obtain ⟨q1,_,_⟩:=Wp (List.cons.inj hl).1
       rw [key,q1,if_neg hk]
       exact h5 _ f hl
    obtain ⟨k,hx,hk',ho⟩:=g1 y x hy
    refine ⟨k,hx,hk',fun l' m f hl=> ?_⟩
    have:=ho l' m f hl
    rcases Y8 hl with ⟨rfl,h3⟩|⟨t',r',t2,r2,m',rfl,h3,rfl,h4,h5⟩
    · exact this
    · cases h3
      obtain ⟨q1,_,_⟩:=Wp h4
      rw [key,q1,if_neg hk]
      exact this
theorem Zp9:pOp op1=pOpt (fun t=>isW sMul [t]) (fun _=>5) 0:=by
 funext l e
 cases l with
 |nil=>rfl
 |cons t r=>
  unfold pOp pOpt op1
  dsimp only
  rw [show isW sMul (t::r)=isW sMul [sT t] from rfl]
  split<;>rfl
theorem Zqa:pOp op2=pOpt (fun t=>isW Vo [t]||isW Z8 [t]) (fun t=>if isW Vo [t] then 3 else 4) 0:=by
 funext l e
 cases l with
 |nil=>rfl
 |cons t r=>
  unfold pOp pOpt op2
  dsimp only
  rw [show isW Vo (t::r)=isW Vo [sT t] from rfl,show isW Z8 (t::r)=isW Z8 [sT t] from rfl]
  by_cases h1:isW Vo [sT t]=true
  · simp [h1]
  · by_cases h2:isW Z8 [sT t]=true
    · simp [h1,h2]
    · simp [h1,h2]
theorem Yad:Gd (fun a _=>a=0) (pOp op1):=by rw [Zp9];exact Zwd _ _ _
theorem Yae:Gd (fun a _=>a=0) (pOp op2):=by rw [Zqa];exact Zwd _ _ _
theorem Yaf (op:Int) (x y:Ex):Zn (.mk op 0 0 0 0 0 [x,y])=max (Zn x) (Zn y)+1:=by simp [Zn,Uh]
theorem Zm2 (o:List Tok->Int×List Tok) (pf:PE) (k:Nat) (x:Ex) (op:Int):Yy o pf (k+1) x op=if op=0 then pR x else pB pf fun y=>pB (pOp o) fun op'=>Yy o pf k (.mk op 0 0 0 0 0 [x,y]) op':=by
 funext l e
 rw [Yy]
 split
 · rfl
 · unfold pB pOp
   cases pf l e with
   |error er=>rfl
   |ok y=>rfl
theorem Zik (o:List Tok->Int×List Tok) (pf:PE) (k:Nat) (x:Ex):Yy o pf k x 0=pR x:=by
 cases k with
 |zero=>rfl
 |succ k=>rw [Zm2,if_pos rfl]
theorem Uu {o:List Tok->Int×List Tok} {pf:PE}:∀{k:Nat} {x:Ex} {op:Int} {l:List Tok} {e:Int} {z:Ex} {y:PX},Yy o pf k x op l e= .ok (z,y)->Zn x<=Zn z
 |0,x,op,l,e,z,y,h=>by
  unfold Yy at h
  cases h
  exact Nat.le_refl _
 |k+1,x,op,l,e,z,y,h=>by
  unfold Yy at h
  split at h
  · cases h
    exact Nat.le_refl _
  · split at h
    · cases h
    · have:=Uu h
      rw [Yaf] at this
      omega
theorem b_ok {α β:Type} {p:PP α} {q:α->PP β} {l:List Tok} {e:Int} {z:β×PX} (h:pB p q l e= .ok z):∃y x,p l e= .ok (y,x)/\q y x.1 x.2.1= .ok z:=by
 unfold pB at h
 split at h
 · cases h
 · exact ⟨_,_,by assumption,h⟩
theorem Zwj {o:List Tok->Int×List Tok} (ho:Gd (fun a _=>a=0) (pOp o)) (ho0:o []=(0,[])) {pf:PE} (h:Gd NeR pf):∀(k:Nat) (x:Ex) (op:Int),Gd NeR (Yy o pf k x op)
 |0,x,op=>gd_R _ x
 |k+1,x,op=>by
  rw [Zm2]
  split
  · exact gd_R _ _
  · refine gd_b h (fun y=>gd_b ho (fun op'=>Zwj ho ho0 h k _ op') ?_) ?_
    · rintro op1 op2 l e z x2 rfl hz f
      rw [Zik]
      exact .inr ⟨_,Uu hz,rfl⟩
    · intro y y' l e z x2 hy hz f
      obtain ⟨op',x3,_,hz⟩:=b_ok hz
      have h1:=Uu hz
      refine .inr ⟨.mk op 0 0 0 0 0 [x,y'],?_,?_⟩
      · have hy:Zn y'<=Zn y:=hy
        show Zn _<=Zn z
        rw [Yaf] at h1⊢
        omega
      · unfold pB pOp
        rw [ho0]
        dsimp only
        rw [Zik]
        rfl
def pChN (o:List Tok->Int×List Tok) (pf:PE) (N:Nat):PE:=pB pf fun y=>pB (pOp o) fun op=>Yy o pf N y op
theorem Yag {o:List Tok->Int×List Tok} (ho:Gd (fun a _=>a=0) (pOp o)) (ho0:o []=(0,[])) {pf:PE} (h:Gd NeR pf) (N:Nat):Gd NeR (pChN o pf N):=by
 unfold pChN
 refine gd_b h (fun y=>gd_b ho (fun op=>Zwj ho ho0 h N y op) ?_) ?_
 · rintro op1 op2 l e z x2 rfl hz f
   rw [Zik]
   exact .inr ⟨_,Uu hz,rfl⟩
 · intro y y' l e z x2 hy hz f
   obtain ⟨op',x3,_,hz⟩:=b_ok hz
   have h1:=Uu hz
   refine .inr ⟨y',Nat.le_trans hy h1,?_⟩
   unfold pB pOp
   rw [ho0]
   dsimp only
   rw [Zik]
   rfl
theorem Yah {o:List Tok->Int×List Tok} (ho:∀l,(o l).2.length<=l.length) {pf:PE} (hp:Shr pf) {N:Nat} {l:List Tok} (hl:l.length<N) (e:Int):pCh o pf l e=pChN o pf N l e:=by
 unfold pCh pChN pB pOp
 cases hq:pf l e with
 |error er=>rfl
 |ok y=>
  have h1:=hp _ _ _ _ hq
  have h2:=ho y.2.1
  exact Zda ho hp _ _ _ _ _ _ (by omega) (by omega)
theorem Z6l {β:Type} {rel:β->β->Prop} {p:PP β} (q:Nat->PP β) (hq:∀N,Gd rel (q N)) (h:∀N l e,l.length<N->p l e=q N l e):Gd rel p:=by
 intro l e
 have h1:=h (l.length+1) l e (Nat.lt_succ_self _)
 rw [h1]
 refine ⟨fun y x hy=> ?_,fun er h'=> ?_⟩
 rotate_left
 · obtain ⟨j,c0,h3,h4,h5⟩:=(hq _ l e).2 er h'
   refine ⟨j,c0,h3,h4,fun l' f hl=> ?_⟩
   have hlen:=congrArg List.length hl
   rw [List.length_map,List.length_map] at hlen
   rw [h (l.length+1) l' f (by omega)]
   exact h5 l' f hl
 obtain ⟨k,hx,hk,ho⟩:=(hq _ l e).1 y x hy
 refine ⟨k,hx,hk,fun l' m f hl=> ?_⟩
 have hlen:l'.length<=l.length:=by
  have:=congrArg List.length hl
  rw [List.length_map,List.length_take,List.length_map] at this
  omega
 rw [h (l.length+1) l' f (by omega)]
 exact ho l' m f hl
theorem Yai {o:List Tok->Int×List Tok} (hle:∀l,(o l).2.length<=l.length) (ho:Gd (fun a _=>a=0) (pOp o)) (ho0:o []=(0,[])) {pf:PE} (hp:Shr pf) (h:Gd NeR pf):Gd NeR (pCh o pf):=
 Z6l (pChN o pf) (Yag ho ho0 h) fun N l e hl=>Yah hle hp hl e
theorem gd_E:∀n,Gd NeR (pE n)
 |0=>V5 _
 |n+1=>by
  unfold pE
  exact Yai Zl0 Yae rfl (Uc Zay (Wg (Wz n))).shr (Yai Zlz Yad rfl (Zd8 (Wz n)) (Yac (gd_E n)))
theorem gd_X:Gd NeR pX:=Z6l pE gd_E fun N l e hl=>(Z4x N l e hl).symm
theorem Z38 (nm:List Nat) (ts:List Tst):pPay nm ts=pIf [112,97,121] (pBc pX (fun x=>decide (24<Zn x)) 2 fun x=>pIf [59] (pR ⟨nm,ts,x⟩) pSyn) pSyn:=by
 funext l e
 unfold pPay pIf pBc pSyn
 split
 · cases pX l.tail e with
   |error er=>rfl
   |ok y=>
    dsimp only
    by_cases h:24<Zn y.1
    · rw [if_pos h,if_pos (decide_eq_true h)]
    · rw [if_neg h,if_neg (show ¬decide (24<Zn y.1)=true by simpa using h)]
      rfl
 · rfl
theorem Z39 (nm:List Nat) (ts:List Tst):Gd NoR (pPay nm ts):=by
 rw [Z38]
 refine V9 (Z01 gd_X (fun x=>V9 (gd_R _ _) (V5 _) fun _ _ _ _ _ f=> .inl rfl) (by simp) ?_ fun _ _ _ _ _ _ _ _ f=> .inl rfl) (V5 _) fun _ _ _ _ _ f=> .inl rfl
 intro y y' h hc
 have h:Zn y'<=Zn y:=h
 rw [decide_eq_false_iff_not] at hc⊢
 omega
theorem Zkt (bs:List Cls):Yb bs=pBc V0 (fun nm=>bs.any fun b=>b.name==nm) 161 fun nm=>pIf [119,104,101,110] (pB (pTs 10 true []) fun ts=>pPay nm ts) (pPay nm []):=by
 funext l e
 unfold Yb pBc pIf pB
 cases V0 l e with
 |error er=>rfl
 |ok y=>
  dsimp only
  by_cases hb:(bs.any fun b=>b.name==y.1)=true
  · rw [if_pos hb,if_pos hb]
  · rw [if_neg hb,if_neg hb]
    by_cases hw:isW [119,104,101,110] y.2.1=true
    · rw [if_pos hw,if_pos hw,hw]
      unfold pAft
      cases pTs 10 true [] y.2.1.tail y.2.2.1 with
      |error er=>rfl
      |ok z=>rfl
    · rw [if_neg hw,if_neg hw]
      rw [Bool.not_eq_true] at hw
      rw [hw,Z02]
      rfl
theorem Zwk (nm:List Nat) (ts:List Tst) (f:Int):pPay nm ts [] f= .error (f,160):=rfl
theorem Zwl (bs:List Cls):Gd NoR (Yb bs):=by
 rw [Zkt]
 refine Z01 Zwf (fun nm=>V9 (gd_b (Z6j _ _ _) (fun ts=>Z39 _ _) fun _ _ _ _ _ _ _ _ f=> .inl (Zwk _ _ _)) (Z39 _ _) fun _ _ _ _ _ f=> .inl (Zwk _ _ _)) (by simp) (fun _ _ h=>h.elim) (fun _ _ _ _ _ _ h=>h.elim)
theorem Z4a (k:Nat) (cs:List Cls) (h:cs.length≠64):pCls (k+1) cs=pIf [99,108,97,117,115,101] (pB (Yb cs) fun c=>pCls k (cs++ [c])) (pR cs):=by
 funext l e
 rw [pCls]
 unfold pIf pB
 split
 · cases Yb cs l.tail e with
   |error er=>rfl
   |ok y=>rfl
 · rfl
theorem Z4b:∀(k:Nat) (cs:List Cls),Gd AnyR (pCls k cs)
 |0,cs=>gd_R _ cs
 |k+1,cs=>by
  by_cases h:cs.length=64
  · intro l e
    rw [pCls,if_pos h]
    cases hw:isW [99,108,97,117,115,101] l with
    |true=>
     rw [if_pos rfl]
     refine ⟨fun y x h=>(by cases h),fun er h'=> ?_⟩
     cases h'
     refine .hd (by simp) fun l' f hl=> ?_
     have:isW [99,108,97,117,115,101] l'=true:=by
      cases l' with
      |nil=>
       cases l with
       |nil=>cases hw
       |cons t r=>simp at hl
      |cons t' r'=>
       cases l with
       |nil=>simp at hl
       |cons t r=>
        rw [Zkq (r:=r) (List.cons.inj hl).1]
        exact hw
     rw [pCls,if_pos h,this,if_pos rfl]
    |false=>
     rw [if_neg Bool.false_ne_true]
     refine ⟨fun y x hy=> ?_,fun er h=>(by cases h)⟩
     cases hy
     refine ⟨0,rfl,Nat.zero_le _,fun l' m f hl=>⟨fun _=> ?_,fun h=>by omega⟩⟩
     have:isW [99,108,97,117,115,101] l'=false:=by
      rcases Y8 hl with ⟨rfl,_⟩|⟨t',r',t,r,m',rfl,rfl,rfl,h4,h5⟩
      · rfl
      · rw [Zkq (r:=r) h4]
        exact hw
     rw [pCls,this,if_neg Bool.false_ne_true]
     rfl
  · rw [Z4a k cs h]
    refine V9 (gd_b (Zwl cs) (fun c=>Z4b k _) (fun _ _ _ _ _ _ h=>h.elim)) (gd_R _ _) fun _ _ _ _ _ f=> .inr ⟨cs,trivial,rfl⟩
theorem Zku:∀(k k':Nat) (cs:List Cls) (l:List Tok) (e:Int),l.length<k->l.length<k'->pCls k cs l e=pCls k' cs l e
 |0,_,_,_,_,h,_=>by omega
 |_+1,0,_,_,_,_,h=>by omega
 |k+1,k'+1,cs,l,e,h,h'=>by
  unfold pCls
  split
  · rename_i hw
    split
    · rfl
    · have h1:=Zo hw
      cases hq:Yb cs l.tail e with
      |error er=>rfl
      |ok y=>
       have h2:=Vx hq
       exact Zku k k' _ _ _ (by omega) (by omega)
  · rfl
def pEof (t:Tar):PP Tar:=fun l e=>if 0<l.length then .error (hdT e l,160) else .ok (t,l,e,())
theorem Yaj (t:Tar):Gd NoR (pEof t):=by
 intro l e
 unfold pEof
 split
 · rename_i h0
   refine ⟨fun y x h=>(by cases h),fun er h=> ?_⟩
   cases h
   refine .hd (by simp) fun l' f hl=> ?_
   have hlen:=congrArg List.length hl
   rw [List.length_map,List.length_map] at hlen
   show (if 0<l'.length then _ else _)=_
   rw [if_pos (by omega)]
 · rename_i hl
   have:l= []:=List.eq_nil_of_length_eq_zero (by omega)
   subst this
   refine ⟨fun y x hy=> ?_,fun er h=>(by cases h)⟩
   cases hy
   refine ⟨0,rfl,Nat.zero_le _,fun l' m f hl=>⟨fun _=> ?_,fun h=>by omega⟩⟩
   have:l'= []:=Vu hl
   subst this
   rfl
def Zsk (N:Nat):PP Tar:=pIf [116,97,114,105,102,102] (pB V0 fun nm=>pIf [102,111,114] (pB (Ym WK.ki.words) fun k=>pIf [123] (pB (pCls N []) fun cs=>pIf [125] (pEof ⟨nm,wr .i64 (1+k),cs⟩) pSyn) pSyn) pSyn) pSyn
theorem Z6m (N:Nat):Gd NoR (Zsk N):=by
 unfold Zsk
 refine V9 (gd_b Zwf (fun nm=>V9 (gd_b (Zij _) (fun k=>V9 (gd_b (Z4b _ _) (fun cs=>V9 (Yaj _) (V5 _) fun _ _ _ _ _ f=> .inl rfl) ?_) (V5 _) fun _ _ _ _ _ f=> .inl rfl) (fun _ _ _ _ _ _ h=>h.elim)) (V5 _) fun _ _ _ _ _ f=> .inl rfl) (fun _ _ _ _ _ _ h=>h.elim)) (V5 _) fun _ _ _ _ _ f=> .inl rfl
 exact fun _ _ _ _ _ _ _ _ f=> .inl rfl
theorem Zwm (N:Nat) (l:List Tok) (e:Int) (h:l.length<N):pTar l e=Zsk N l e:=by
 unfold pTar Zsk pIf pB pSyn
 split
 · rename_i hw
   have h1:=Zo hw
   cases hn:V0 l.tail e with
   |error er=>rfl
   |ok y=>
    have h2:=Vk hn
    dsimp only
    split
    · rename_i hw2
      have h3:=Zo hw2
      cases hm:Ym WK.ki.words y.2.1.tail y.2.2.1 with
      |error er=>rfl
      |ok z=>
       obtain ⟨_,_,hz⟩:=V3 hm
       have h4:z.2.1.length<=y.2.1.tail.length:=by
        rw [hz]
        show y.2.1.tail.tail.length<=_
        rw [List.length_tail (l:=y.2.1.tail)]
        omega
       dsimp only
       split
       · rename_i hw3
         have h5:=Zo hw3
         rw [Zku (z.2.1.tail.length+1) N [] z.2.1.tail z.2.2.1 (by omega) (by omega)]
         cases pCls N [] z.2.1.tail z.2.2.1 with
         |error er=>rfl
         |ok u=>rfl
       · rfl
    · rfl
 · rfl
theorem Z4c:Gd NoR pTar:=Z6l Zsk Z6m Zwm
end
section
open Go
def TkG (t:Tok):Prop:=TokW t.text/\sT t=tkS t.text/\(t.kind=1->X5 t.text=true)/\(t.kind=2->0<=t.n/\t.n<=1099511627776)
def LxOk (l:List Tok):Prop:=∀t∈l,TkG t
theorem Ycf {c:Nat} (h:isLD (c:Int)=true):wb c=true:=by
 unfold isLD isL isD at h
 unfold wb
 simp at h⊢
 omega
theorem Ud {f:Int->Bool} (s:List Nat):∀c∈s.take (spn f s),f c=true:=fun c hc=>Ze9 hc
theorem Zpo {f:Int->Bool} (s:List Nat):spn f (s.take (spn f s))=(s.take (spn f s)).length:=Xz (Ud s)
theorem Zul:∀{s:List Nat} {n m:Int},0<=n->n<=1099511627776->(∀c∈s,isD c=true)->numL n s=(m,0)->0<=m/\m<=1099511627776
 | [],n,m,h0,h1,_,h=>by
  unfold numL at h
  cases h
  exact ⟨h0,h1⟩
 |c::r,n,m,h0,h1,hd,h=>by
  unfold numL at h
  have hc:=hd c (by simp)
  unfold isD at hc
  simp at hc
  split at h
  · cases h
  · exact Zul (by omega) (by omega) (fun c hc=>hd c (by simp [hc])) h
theorem Zum {s:List Nat} (h:(tokP s).2=0):tokP (tokP s).1.text=tokP s/\(tokP s).1.text≠ []/\((tokP s).1.kind=1->X5 (tokP s).1.text=true)/\((tokP s).1.kind=2->0<=(tokP s).1.n/\(tokP s).1.n<=1099511627776):=by
 cases s with
 |nil=>cases h
 |cons c r=>
  rw [Yc] at h⊢
  have go:∀f:Int->Bool,f c=true->∃r',(c::r).take (spn f (c::r))=c::r':=by
   intro f hf
   unfold spn
   rw [if_pos hf,List.take_succ_cons]
   exact ⟨_,rfl⟩
  split at h
  · rename_i hl
    rw [if_pos hl]
    split at h
    · cases h
    · rename_i hn
      rw [if_neg hn]
      obtain ⟨r',hr⟩:=go isLD (by unfold isLD;rw [hl];rfl)
      have hall:=Ud (f:=isLD) (c::r)
      have hspn:=Zpo (f:=isLD) (c::r)
      have hlen:((c::r).take (spn isLD (c::r))).length<=32:=by rw [List.length_take];omega
      rw [hr] at hall hspn hlen⊢
      have hw:X5 (c::r')=true:=by
       unfold X5
       rw [Bool.and_eq_true,Bool.and_eq_true,decide_eq_true_eq]
       refine ⟨⟨hlen,?_⟩,List.all_eq_true.2 fun c hc=>Ycf (hall c hc)⟩
       unfold isL at hl
       unfold lowF
       simp at hl⊢
       omega
      refine ⟨Zd4 hw,by simp,fun _=>hw,fun h=>by cases h⟩
  · rename_i hl
    rw [if_neg hl]
    split at h
    · rename_i hd
      rw [if_pos hd]
      obtain ⟨r',hr⟩:=go isD hd
      have hall:=Ud (f:=isD) (c::r)
      have hspn:=Zpo (f:=isD) (c::r)
      rw [hr] at hall hspn h⊢
      refine ⟨?_,by simp,(fun h=>by cases h),fun _=> ?_⟩
      · show tokP (c::r')=_
        rw [Yc,if_neg hl,if_pos hd,hspn,List.take_length]
      · have h:(numb (c::r')).2=0:=h
        show 0<=(numb (c::r')).1/\(numb (c::r')).1<=1099511627776
        unfold numb at h⊢
        split at h
        · cases h
        · rename_i hn
          rw [if_neg hn]
          exact Zul (s:=c::r') (n:=0) (by decide) (by decide) hall (Prod.ext rfl h)
    · rename_i hd
      rw [if_neg hd]
      split at h
      · rename_i w hw
        unfold tokS at h
        split at h
        · rename_i ht
          have e1:tokS (c::r) w=(⟨3,w,0,0⟩,0):=by unfold tokS;rw [if_pos ht]
          rw [e1]
          cases w with
          |nil=>exact absurd (Zqf hw) (by decide)
          |cons c' w'=>
           rw [List.length_cons,List.take_succ_cons] at ht
           injection ht with h1 h2
           subst h1
           refine ⟨?_,by simp,(fun h=>by cases h),fun h=>by cases h⟩
           show tokP (c::w')=_
           rw [Yc,if_neg hl,if_neg hd,hw]
           show tokS (c::w') (c::w')=_
           unfold tokS
           rw [if_pos List.take_length]
        · cases h
      · cases h
theorem Z85 {s:List Nat} (h:(tokP s).2=0) (p:Int):TkG ⟨(tokP s).1.kind,(tokP s).1.text,(tokP s).1.n,p⟩:=by
 obtain ⟨h1,h2,h3,h4⟩:=Zum h
 refine ⟨⟨by rw [h1];exact h,by rw [h1],h2⟩,?_,h3,h4⟩
 show sT _=tkS (tokP s).1.text
 unfold tkS
 rw [h1]
 rfl
theorem Zhr:∀{k:Nat} {s:List Nat} {p:Nat} {ts:List Tok},LxOk ts->LxOk (tksL k s p ts).1
 |0,s,p,ts,h=>h
 |k+1,s,p,ts,h=>by
  unfold tksL
  split
  · exact h
  · split
    · exact Zhr h
    · split
      · split
        · exact h
        · exact Zhr h
      · split
        · exact fun t ht=>by cases ht
        · rename_i h3
          have h3:(tokP (s.drop p)).2=0:=by simpa using h3
          refine Zhr fun t ht=> ?_
          rcases List.mem_append.1 ht with ht|ht
          · exact h t ht
          · rw [List.mem_singleton] at ht
            subst ht
            exact Z85 h3 p
theorem Zrt (s:List Nat):LxOk (Zz s).1:=by
 unfold Zz
 split
 · exact fun t ht=>by cases ht
 · exact Zhr fun t ht=>by cases ht
theorem LxOk.drop {l:List Tok} (h:LxOk l) (k:Nat):LxOk (l.drop k):=fun t ht=>h t (List.mem_of_mem_drop ht)
theorem LxOk.tail {l:List Tok} (h:LxOk l):LxOk l.tail:=fun t ht=>h t (List.mem_of_mem_tail ht)
section
variable {α β : Type}
def Vl (P:β->Prop) (p:PP β):Prop:=∀l e y x,LxOk l->p l e= .ok (y,x)->P y/\LxOk x.1
theorem vl_R {P:β->Prop} {y:β} (h:P y):Vl P (pR y):=by
 intro l e z x hl hz
 cases hz
 exact ⟨h,hl⟩
theorem V4 (P:β->Prop):Vl P pSyn:=by
 intro l e z x hl hz
 cases hz
theorem vl_b {P:α->Prop} {Q:β->Prop} {p:PP α} {q:α->PP β} (hp:Vl P p) (hq:∀y,P y->Vl Q (q y)):Vl Q (pB p q):=by
 intro l e z x hl hz
 obtain ⟨y,x1,h1,h2⟩:=b_ok hz
 obtain ⟨k1,k2⟩:=hp l e y x1 hl h1
 exact hq y k1 _ _ z x k2 h2
theorem Ycg {p:PP α} {c:α->Bool} {code:Int} {q:α->PP β} {l:List Tok} {e:Int} {z:β×PX} (h:pBc p c code q l e= .ok z):∃y x,p l e= .ok (y,x)/\c y=false/\q y x.1 x.2.1= .ok z:=by
 unfold pBc at h
 split at h
 · cases h
 · split at h
   · cases h
   · rename_i h1 h2
     exact ⟨_,_,h1,by simpa using h2,h⟩
theorem Z5n {P:α->Prop} {Q:β->Prop} {p:PP α} {c:α->Bool} {code:Int} {q:α->PP β} (hp:Vl P p) (hq:∀y,P y->c y=false->Vl Q (q y)):Vl Q (pBc p c code q):=by
 intro l e z x hl hz
 obtain ⟨y,x1,h1,h2,h3⟩:=Ycg hz
 obtain ⟨k1,k2⟩:=hp l e y x1 hl h1
 exact hq y k1 h2 _ _ z x k2 h3
theorem V7 {P:β->Prop} {s:List Nat} {A B:PP β} (hA:Vl P A) (hB:Vl P B):Vl P (pIf s A B):=by
 intro l e z x hl hz
 unfold pIf at hz
 split at hz
 · exact hA _ _ z x hl.tail hz
 · exact hB _ _ z x hl hz
theorem Z3n {P:β->Prop} {c:Tok->Bool} {v:Tok->β} (h:∀t,TkG t->c (sT t)=true->P (v (sT t))):Vl P (pOne c v):=by
 intro l e z x hl hz
 cases l with
 |nil=>cases hz
 |cons t r=>
  have hz:(if c (sT t) then .ok (v (sT t),r,e,()) else .error (t.at_,160):PR β)=_:=hz
  split at hz
  · rename_i hc
    cases hz
    exact ⟨h t (hl t (by simp)) hc,fun t ht=>hl t (by simp [ht])⟩
  · cases hz
theorem Zun {P:β->Prop} {c:Tok->Bool} {v:Tok->β} {z0:β} (h:∀t,TkG t->c (sT t)=true->P (v (sT t))) (h0:P z0):Vl P (pOpt c v z0):=by
 intro l e z x hl hz
 cases l with
 |nil=>
  cases hz
  exact ⟨h0,hl⟩
 |cons t r=>
  have hz:(if c (sT t) then .ok (v (sT t),r,e,()) else .ok (z0,t::r,e,()):PR β)=_:=hz
  split at hz
  · rename_i hc
    cases hz
    exact ⟨h t (hl t (by simp)) hc,fun t ht=>hl t (by simp [ht])⟩
  · cases hz
    exact ⟨h0,hl⟩
theorem Vl.mono {P Q:β->Prop} {p:PP β} (h:Vl P p) (hq:∀y,P y->Q y):Vl Q p:=fun l e y x hl hy=>⟨hq y (h l e y x hl hy).1,(h l e y x hl hy).2⟩
end
theorem Zuo:Vl (fun n=>0<=n/\n<=1099511627776) pInt:=by
 rw [Zp8]
 exact Z3n fun t ht hc=>ht.2.2.2 (of_decide_eq_true hc)
theorem Zhs {ws:List (List Nat)} (h:0<ws.length):Vl (fun n=>0<=n/\n<(ws.length:Int)) (Ym ws):=by
 rw [Zkr]
 exact Z3n fun t ht hc=>⟨of_decide_eq_true hc,Zhg h⟩
theorem Zjz {ws:List (List Nat)} (h:0<ws.length):Vl (fun y=>(y.2.1=true->0<=y.1/\y.1<(ws.length:Int))) (Zs ws):=by
 rw [Ze4]
 exact Zun (fun t ht hc _=>⟨of_decide_eq_true hc,(show chz ws [sT t]<(ws.length:Int) from Zhg h)⟩) (fun h=>by cases h)
theorem Zup:Vl (fun s=>X5 s=true/\resF s=false) V0:=by
 intro l e z x hl hz
 cases l with
 |nil=>cases hz
 |cons t r=>
  have hz:(if t.kind=1 then (if t.text∈resW then .error (t.at_,161) else .ok (t.text,r,e,())) else .error (t.at_,160):PR (List Nat))=_:=hz
  split at hz
  · rename_i hk
    split at hz
    · cases hz
    · rename_i hr
      cases hz
      exact ⟨⟨(hl t (by simp)).2.2.1 hk,decide_eq_false hr⟩,fun t ht=>hl t (by simp [ht])⟩
  · cases hz
def UnG (d:List Int):Prop:=Ui d=true/\∃a b c e,d= [a,b,c,e]
theorem Z86:UnG d0:=⟨by decide,_,_,_,_,rfl⟩
theorem unG1 {i:Int} (h:0<=i/\i<4):UnG (incD d0 i):=by
 rcases four h.1 h.2 with rfl|rfl|rfl|rfl
 all_goals exact ⟨by decide,_,_,_,_,rfl⟩
theorem unG2 {j:Int} (h:0<=j/\j<4):UnG (decD d0 j):=by
 rcases four h.1 h.2 with rfl|rfl|rfl|rfl
 all_goals exact ⟨by decide,_,_,_,_,rfl⟩
theorem unG3 {i j:Int} (h:0<=i/\i<4) (h':0<=j/\j<4):UnG (decD (incD d0 i) j):=by
 rcases four h.1 h.2 with rfl|rfl|rfl|rfl<;>rcases four h'.1 h'.2 with rfl|rfl|rfl|rfl
 all_goals exact ⟨by decide,_,_,_,_,rfl⟩
theorem Z5o:Vl UnG Xa:=by
 rw [Zwg]
 refine vl_b (Zjz (ws:=WK.un.words) (by decide)) fun y hy=>V7 (vl_b (Zhs (ws:=WK.un.words) (by decide)) fun j hj=>vl_R ?_) (vl_R ?_)
 · have hj:0<=j/\j<4:=hj
   split
   · exact unG3 (by have:=hy (by assumption);exact this) hj
   · exact unG2 hj
 · split
   · exact unG1 (by have:=hy (by assumption);exact this)
   · exact Z86
theorem Z5p (n:Int):Vl (fun w=>Ye w=true/\n≠8) (Vb n):=by
 rw [Zwh]
 refine Z5n (Zhs (ws:=WK.at_.words) (by decide)) fun a ha hn=> ?_
 have ha:0<=a/\a<16:=ha
 have hn:n≠8:=by simpa using hn
 refine V7 (vl_b Zuo fun m hm=>vl_R ⟨decide_eq_true ⟨ha.1,ha.2,hm.1,hm.2,hm.1,hm.2⟩,hn⟩) (V7 (vl_b Zuo fun m hm=>V7 (vl_b Zuo fun k hk=>vl_R ⟨decide_eq_true ⟨ha.1,ha.2,hm.1,hm.2,hk.1,hk.2⟩,hn⟩) (V4 _)) (V4 _))
theorem Z5q:∀(k:Nat) (more:Bool) (ts:List Tst),ts.length<=8->(∀w∈ts,Ye w=true)->Vl (fun ws=>ws.length<=8/\∀w∈ws,Ye w=true) (pTs k more ts)
 |0,more,ts,h1,h2=>vl_R (y:=ts) ⟨h1,h2⟩
 |k+1,false,ts,h1,h2=>by rw [Z02];exact vl_R ⟨h1,h2⟩
 |k+1,true,ts,h1,h2=>by
  rw [Yab]
  refine vl_b (Z5p _) fun t ht=> ?_
  have h3:(ts++ [t]).length<=8:=by
   have:=ht.2
   rw [List.length_append]
   simp
   omega
  have h4:∀w∈ts++ [t],Ye w=true:=by
   intro w hw
   rcases List.mem_append.1 hw with hw|hw
   · exact h2 w hw
   · rw [List.mem_singleton] at hw
     subst hw
     exact ht.1
  exact V7 (Z5q k true _ h3 h4) (Z5q k false _ h3 h4)
theorem Zht {op n:Int} {a b c d:Int} {l:List Ex} (h:Zdd op n [a,b,c,d] l.length=true) (hl:∀x∈l,Z2 x=true):Z2 (.mk op n a b c d l)=true:=by
 rw [Zbq,Bool.and_eq_true]
 exact ⟨h,formL_iff.2 hl⟩
theorem Zmf {op n:Int} {u:List Int} {k:Nat} (h1:1<=op) (h2:op<=11) (h3:0<=n) (h4:n<=Zr3 op) (h5:k=Zmk op) (h6:Ui u=true) (h7:op=1\/u= [0,0,0,0]):Zdd op n u k=true:=by
 unfold Zdd
 simp only [Bool.and_eq_true,Bool.or_eq_true,decide_eq_true_eq]
 exact ⟨⟨⟨⟨⟨⟨h1,h2⟩,h3⟩,h4⟩,h5⟩,h6⟩,h7⟩
theorem Zhu {op:Int} {l:List Ex} (h1:3<=op) (h2:op<=11) (h3:l.length=if op=11 then 4 else 2) (hl:∀x∈l,Z2 x=true):Z2 (.mk op 0 0 0 0 0 l)=true:=by
 refine Zht (Zmf (by omega) h2 (Int.le_refl _) ?_ ?_ (by decide) (.inr rfl)) hl
 · unfold Zr3
   rw [if_neg (by omega),if_neg (by omega)]
   exact Int.le_refl _
 · unfold Zmk
   rw [if_neg (by omega)]
   exact h3
def FxV (x:Ex):Prop:=Z2 x=true
theorem Z3o {pe:PE} (h:Vl FxV pe):∀(ss:List (List Nat)) (acc:List Ex),(∀x∈acc,Z2 x=true)->Vl (fun xs=>xs.length=acc.length+ss.length/\∀x∈xs,Z2 x=true) (pOpL pe ss acc)
 | [],acc,ha=>vl_R (y:=acc) ⟨rfl,ha⟩
 |s::r,acc,ha=>by
  rw [Z34]
  refine vl_b h fun x hx=>V7 ((Z3o h r (acc++ [x]) ?_).mono fun xs hxs=>⟨?_,hxs.2⟩) (V4 _)
  · intro z hz
    rcases List.mem_append.1 hz with hz|hz
    · exact ha z hz
    · rw [List.mem_singleton] at hz
      subst hz
      exact hx
  · rw [hxs.1,List.length_append,List.length_cons]
    simp
    omega
theorem Z3p {pe:PE} (h:Vl FxV pe) {op:Int} {ss:List (List Nat)} (h1:3<=op) (h2:op<=11) (h3:ss.length=if op=11 then 4 else 2):Vl FxV (pOps pe op ss):=by
 rw [Z36]
 refine V7 (vl_b (Z3o h ss [] fun x hx=>by cases hx) fun xs hxs=>vl_R (Zhu h1 h2 ?_ hxs.2)) (V4 _)
 rw [hxs.1,<-h3]
 simp
theorem Zuq {pe:PE} (h:Vl FxV pe):Vl FxV (Vw pe):=by
 rw [Zwi]
 refine V7 (vl_b h fun x hx=>V7 (vl_R hx) (V4 _)) (V7 (Z3p h (by decide) (by decide) rfl) (vl_b (Zjz (ws:=WK.ca.words) (by decide)) fun k hk=> ?_))
 split
 · have hk:0<=k.1/\k.1<5:=hk (by assumption)
   refine Z3p h (by omega) (by omega) ?_
   rw [if_neg (by omega)]
   rfl
 · refine vl_b (Zhs (ws:=WK.at_.words) (by decide)) fun a ha=>vl_R ?_
   have ha:0<=a/\a<16:=ha
   refine Zht (Zmf (by decide) (by decide) ha.1 ?_ rfl (by decide) (.inr rfl)) (fun x hx=>by cases hx)
   show a<=15
   omega
theorem Z87 {pe:PE} (h:Vl FxV pe):Vl FxV (pFac pe):=by
 intro l e y x hl hy
 cases l with
 |nil=>exact Zuq h _ _ _ _ hl hy
 |cons t r=>
  have hy:(if t.kind=2 then (match Xa r e with
   | .error er=> .error er
   | .ok (d,y)=> .ok (.mk 1 t.n (d.getD 0 0) (d.getD 1 0) (d.getD 2 0) (d.getD 3 0) [],y):PR Ex) else Vw pe (t::r) e)=_:=hy
  split at hy
  · rename_i hk
    split at hy
    · cases hy
    · rename_i d z hd
      cases hy
      obtain ⟨⟨g1,a,b,c,f,g2⟩,g3⟩:=Z5o r e d _ (fun t ht=>hl t (by simp [ht])) hd
      subst g2
      refine ⟨Zht (Zmf (by decide) (by decide) ?_ ?_ rfl g1 (.inl rfl)) (fun x hx=>by cases hx),g3⟩
      · exact ((hl t (by simp)).2.2.2 hk).1
      · exact ((hl t (by simp)).2.2.2 hk).2
  · exact Zuq h _ _ _ _ hl hy
theorem Zur {o:List Tok->Int×List Tok} {pf:PE} (ho:Vl (fun op=>op=0\/3<=op/\op<=5) (pOp o)) (h:Vl FxV pf):∀(k:Nat) (x:Ex) (op:Int),FxV x->(op=0\/3<=op/\op<=5)->Vl FxV (Yy o pf k x op)
 |0,x,op,hx,_=>vl_R (y:=x) hx
 |k+1,x,op,hx,hop=>by
  rw [Zm2]
  split
  · exact vl_R hx
  · rename_i hz
    refine vl_b h fun y hy=>vl_b ho fun op' hop'=>Zur ho h k _ op' (Zhu (by omega) (by omega) ?_ ?_) hop'
    · rw [if_neg (by omega)]
      rfl
    · intro z hz
      rcases List.mem_cons.1 hz with rfl|hz
      · exact hx
      · rw [List.mem_singleton] at hz
        subst hz
        exact hy
theorem Z88 {o:List Tok->Int×List Tok} (hle:∀l,(o l).2.length<=l.length) {pf:PE} (hp:Shr pf) (ho:Vl (fun op=>op=0\/3<=op/\op<=5) (pOp o)) (h:Vl FxV pf):Vl FxV (pCh o pf):=by
 intro l e y x hl hy
 rw [Yah hle hp (Nat.lt_succ_self l.length) e] at hy
 exact vl_b h (fun y hy=>vl_b ho fun op hop=>Zur ho h _ y op hy hop) l e y x hl hy
theorem Z89:Vl (fun op=>op=0\/3<=op/\op<=5) (pOp op1):=by
 rw [Zp9]
 exact Zun (fun t _ _=> .inr (by decide)) (.inl rfl)
theorem Z9a:Vl (fun op=>op=0\/3<=op/\op<=5) (pOp op2):=by
 rw [Zqa]
 refine Zun (fun t _ _=> .inr ?_) (.inl rfl)
 split<;>decide
theorem vl_E:∀n,Vl FxV (pE n)
 |0=>V4 _
 |n+1=>by
  unfold pE
  exact Z88 Zl0 (Uc Zay (Wg (Wz n))).shr Z9a (Z88 Zlz (Zd8 (Wz n)) Z89 (Z87 (vl_E n)))
theorem vl_X:Vl FxV pX:=fun l e y x hl hy=>vl_E _ l e y x hl hy
theorem Z3q {nm:List Nat} {ts:List Tst} (h1:X5 nm=true) (h2:∀w∈ts,Ye w=true):Vl (fun c=>Wa c=true/\c.name=nm/\c.when_=ts/\Zn c.pay<=24) (pPay nm ts):=by
 rw [Z38]
 refine V7 (Z5n vl_X fun x hx hc=>V7 (vl_R ⟨?_,rfl,rfl,?_⟩) (V4 _)) (V4 _)
 · unfold Wa
   rw [h1,show Z2 x=true from hx,List.all_eq_true.2 h2]
   rfl
 · show Zn x<=24
   have:¬24<Zn x:=by simpa using hc
   omega
def ClG (bs:List Cls) (c:Cls):Prop:=Wa c=true/\resF c.name=false/\c.name∉bs.map Cls.name/\c.when_.length<=8/\Zn c.pay<=24
theorem Zus (bs:List Cls):Vl (ClG bs) (Yb bs):=by
 rw [Zkt]
 refine Z5n Zup fun nm hn hc=> ?_
 have hc:=any_name.1 hc
 refine V7 (vl_b (Z5q 10 true [] (Nat.zero_le _) (fun w hw=>by cases hw)) fun ts hts=>(Z3q hn.1 hts.2).mono ?_) ((Z3q hn.1 (fun w hw=>by cases hw)).mono ?_)
 · rintro c ⟨g1,g2,g3,g4⟩
   subst g2
   subst g3
   exact ⟨g1,hn.2,hc,hts.1,g4⟩
 · rintro c ⟨g1,g2,g3,g4⟩
   subst g2
   refine ⟨g1,hn.2,hc,?_,g4⟩
   rw [g3]
   exact Nat.zero_le _
theorem Ue (s:List (List Nat)) (c:Cls) (r:List Cls):CsOk s (c::r)=(Wa c=true/\resF c.name=false/\c.name∉s/\c.when_.length<=8/\Zn c.pay<=24/\CsOk (c.name::s) r):=rfl
theorem Zpp:∀{a b:List Cls} {s:List (List Nat)},CsOk s (a++b)↔CsOk s a/\CsOk ((a.map Cls.name).reverse++s) b
 | [],b,s=>by
  rw [List.nil_append,List.map_nil,List.reverse_nil,List.nil_append]
  exact ⟨fun h=>⟨trivial,h⟩,fun h=>h.2⟩
 |c::a,b,s=>by
  rw [List.cons_append,Ue,Ue,Zpp,List.map_cons,List.reverse_cons,List.append_assoc]
  constructor
  · rintro ⟨h1,h2,h3,h4,h5,h6,h7⟩
    exact ⟨⟨h1,h2,h3,h4,h5,h6⟩,h7⟩
  · rintro ⟨⟨h1,h2,h3,h4,h5,h6⟩,h7⟩
    exact ⟨h1,h2,h3,h4,h5,h6,h7⟩
theorem Zut {cs:List Cls} {c:Cls} (h:CsOk [] cs) (hc:ClG cs c):CsOk [] (cs++ [c]):=by
 rw [Zpp]
 rw [Ue]
 refine ⟨h,hc.1,hc.2.1,?_,hc.2.2.2.1,hc.2.2.2.2,trivial⟩
 have:=hc.2.2.1
 simpa using this
theorem Z3r:∀(k:Nat) (cs:List Cls),CsOk [] cs->cs.length<=64->Vl (fun cs=>CsOk [] cs/\cs.length<=64) (pCls k cs)
 |0,cs,h1,h2=>vl_R (y:=cs) ⟨h1,h2⟩
 |k+1,cs,h1,h2=>by
  by_cases h:cs.length=64
  · intro l e y x hl hy
    rw [pCls,if_pos h] at hy
    split at hy
    · cases hy
    · cases hy
      exact ⟨⟨h1,h2⟩,hl⟩
  · rw [Z4a k cs h]
    refine V7 (vl_b (Zus cs) fun c hc=>Z3r k _ (Zut h1 hc) ?_) (vl_R ⟨h1,h2⟩)
    rw [List.length_append]
    simp
    omega
theorem Z5r (N:Nat):Vl (fun t=>Xb t=0) (Zsk N):=by
 refine V7 (vl_b Zup fun nm hn=>V7 (vl_b (Zhs (ws:=WK.ki.words) (by decide)) fun k hk=>V7 (vl_b (Z3r _ [] trivial (by decide)) fun cs hcs=>V7 ?_ (V4 _)) (V4 _)) (V4 _)) (V4 _)
 intro l e y x hl hy
 unfold pEof at hy
 split at hy
 · cases hy
 · cases hy
   have hk:0<=k/\k<6:=hk
   refine ⟨(Wt _).2 ⟨hn.1,?_,?_,hn.2,hcs.2,hcs.1⟩,hl⟩
   · show 1<=wr .i64 (1+k)
     rw [wr64 (by omega) (by omega)]
     omega
   · show wr .i64 (1+k)<=6
     rw [wr64 (by omega) (by omega)]
     omega
theorem Z9b:Vl (fun t=>Xb t=0) pTar:=by
 intro l e y x hl hy
 rw [Zwm _ l e (Nat.lt_succ_self _)] at hy
 exact Z5r _ l e y x hl hy
end
section
open Go
def En {β:Type} (p:PP β):Prop:=∀l e y x,p l e= .ok (y,x)->x.1= []
theorem Zp4 {β:Type}:En (pSyn:PP β):=fun l e y x h=>by cases h
theorem en_b {α β:Type} {p:PP α} {q:α->PP β} (hq:∀y,En (q y)):En (pB p q):=fun l e y x h=>by
 obtain ⟨y1,x1,_,h2⟩:=b_ok h
 exact hq y1 _ _ _ _ h2
theorem Z0m {β:Type} {s:List Nat} {A B:PP β} (hA:En A) (hB:En B):En (pIf s A B):=fun l e y x h=>by
 unfold pIf at h
 split at h
 · exact hA _ _ _ _ h
 · exact hB _ _ _ _ h
theorem Z9t (t:Tar):En (pEof t):=fun l e y x h=>by
 unfold pEof at h
 split at h
 · cases h
 · rename_i hl
   cases h
   exact List.eq_nil_of_length_eq_zero (Nat.le_zero.1 (Nat.le_of_not_lt hl))
theorem Z9u:En pTar:=fun l e y x h=>by
 rw [Zwm _ l e (Nat.lt_succ_self _)] at h
 exact Z0m (en_b fun nm=>Z0m (en_b fun k=>Z0m (en_b fun cs=>Z0m (Z9t _) Zp4) Zp4) Zp4) Zp4 l e y x h
theorem Z54 {l:List Tok} {e:Int} {t:Tar} {x:PX} (h:pTar l e= .ok (t,x)):(∀l' f,l'.map sT=l.map sT->pTar l' f= .ok (t,[],f,()))/\∀l' m f,m<l.length->l'.map sT=(l.map sT).take m->pTar l' f= .error (f,160):=by
 have hn:=Z9u l e t x h
 obtain ⟨k,rfl,hk,ho⟩:=(Z4c l e).1 t x h
 have hk2:l.length<=k:=by
  have:=congrArg List.length hn
  rw [List.length_drop] at this
  simp at this
  omega
 have hk3:k=l.length:=by omega
 subst hk3
 refine ⟨fun l' f hl=> ?_,fun l' m f hm hl=> ?_⟩
 · have hlen:=congrArg List.length hl
   rw [List.length_map,List.length_map] at hlen
   rw [(ho l' l.length f (Zb3 hl)).1 (Nat.le_refl _),List.drop_eq_nil_of_le (by omega)]
 · rcases (ho l' m f hl).2 hm with h|⟨y',h,_⟩
   · exact h
   · exact h.elim
def AllW (ws:List (List Nat)):Prop:=∀w∈ws,TokW w
theorem W2 {a b:List (List Nat)} (h1:AllW a) (h2:AllW b):AllW (a++b):=fun w hw=>(List.mem_append.1 hw).elim (h1 w) (h2 w)
theorem Ze {w:List Nat} {b:List (List Nat)} (h1:TokW w) (h2:AllW b):AllW (w::b):=fun x hx=>(List.mem_cons.1 hx).elim (fun e=>e▸h1) (h2 x)
theorem Yf:AllW []:=fun w hw=>by cases hw
theorem tw {w:List Nat} (h1:(tokP w).2=0) (h2:(tokP w).1.text=w) (h3:w≠ []):TokW w:=⟨h1,h2,h3⟩
theorem Zid:TokW Z7:=tw rfl rfl (by decide)
theorem Zdv:TokW Zi:=tw rfl rfl (by decide)
theorem Zdw:TokW Zv:=tw rfl rfl (by decide)
theorem Zvq:TokW U0:=tw rfl rfl (by decide)
theorem Zvr:TokW Yx:=tw rfl rfl (by decide)
theorem Zvs:TokW Vo:=tw rfl rfl (by decide)
theorem Zp5:TokW Z8:=tw rfl rfl (by decide)
theorem Z3y:TokW sMul:=tw rfl rfl (by decide)
theorem Z55:TokW Zl9:=tw rfl rfl (by decide)
theorem Z9v:TokW sLb:=tw rfl rfl (by decide)
theorem Z9w:TokW sRb:=tw rfl rfl (by decide)
theorem Z9x:TokW sIf:=tw rfl rfl (by decide)
theorem Z3z:TokW sPer:=tw rfl rfl (by decide)
theorem Ycq:TokW sIs:=tw rfl rfl (by decide)
theorem Ycr:TokW sIn:=tw rfl rfl (by decide)
theorem Z30:TokW sPay:=tw rfl rfl (by decide)
theorem Z31:TokW sFor:=tw rfl rfl (by decide)
theorem Zkj:TokW Zc1:=tw rfl rfl (by decide)
theorem Zkk:TokW Y5:=tw rfl rfl (by decide)
theorem Z56:TokW Zjj:=tw rfl rfl (by decide)
theorem Z9y:TokW sAnd:=tw rfl rfl (by decide)
theorem Zkl {k:WK} {i:Nat} (h:i<k.words.length):TokW (k.words.getD i []):=Wv (Ziu h)
theorem Z9z {a b c d:Int} (h:Ui [a,b,c,d]=true):AllW (txU [a,b,c,d]):=by
 rcases unF h with ⟨_,h2⟩|⟨i,hi,_,h2⟩|⟨j,hj,_,h2⟩|⟨i,hi,j,hj,_,h2⟩
 · rw [h2];exact Yf
 · rw [h2];exact Ze (Zkl (k:= .un) hi) Yf
 · rw [h2];exact Ze Z3z (Ze (Zkl (k:= .un) hj) Yf)
 · rw [h2];exact Ze (Zkl (k:= .un) hi) (Ze Z3z (Ze (Zkl (k:= .un) hj) Yf))
theorem Zp6 {op least:Int} {t:List (List Nat)} (h:AllW t):AllW (par op least t):=by
 unfold par
 split
 · exact h
 · exact Ze Zid (W2 h (Ze Zdv Yf))
theorem Zvt:∀{ts:List (List (List Nat))} {ss:List (List Nat)},(∀t∈ts,AllW t)->AllW ss->AllW (txS ts ss)
 | [],_,_,_=>by unfold txS;exact Yf
 |t::r,[],_,_=>by unfold txS;exact Yf
 |t::r,s::ss,h1,h2=>by
  unfold txS
  exact W2 (h1 t (by simp)) (Ze (h2 s (by simp)) (Zvt (fun t ht=>h1 t (by simp [ht])) fun w hw=>h2 w (by simp [hw])))
theorem Zvu:∀{l:List Ex} {t:List (List Nat)},t∈txL l->∃x∈l,t=txX x
 | [],t,h=>by cases h
 |x::r,t,h=>by
  unfold txL at h
  rcases List.mem_cons.1 h with rfl|h
  · exact ⟨x,by simp,rfl⟩
  · obtain ⟨y,hy,e⟩:=Zvu h
    exact ⟨y,by simp [hy],e⟩
theorem Zvv:∀(x:Ex),Z2 x=true->AllW (txX x):=by
 suffices H:∀(m:Nat) (x:Ex),x.sz<=m->Z2 x=true->AllW (txX x) from fun x=>H _ x (Nat.le_refl _)
 intro m
 induction m with
 |zero=>intro x h;have:=x.sz_pos;omega
 |succ m ih=>
  intro x hm hf
  rw [Zbq,Bool.and_eq_true] at hf
  obtain ⟨hh,hl⟩:=hf
  have hkid:∀y∈x.l,AllW (txX y):=fun y hy=>ih y (by have:=Ex.sz_mem hy;omega) (formL_iff.1 hl y hy)
  obtain ⟨op,n,a,b,c,d,l⟩:=x
  simp only [Ex.op,Ex.n,Ex.u,Ex.d0,Ex.d1,Ex.d2,Ex.d3,Ex.l] at hh hkid
  obtain ⟨h1,h2,h3,h4,h5,h6,h7⟩:=Zdb hh
  have hts:∀t∈txL l,AllW t:=by
   intro t ht
   obtain ⟨x,hx,rfl⟩:=Zvu ht
   exact hkid x hx
  have hget:∀i,AllW ((txL l).getD i []):=by
   intro i
   by_cases hi:i<(txL l).length
   · have:(txL l).getD i []=(txL l)[i]:=by simp [List.getD,hi]
     rw [this]
     exact hts _ (List.getElem_mem hi)
   · have:(txL l).getD i []= []:=by simp [List.getD,hi]
     rw [this]
     exact Yf
  rw [txX]
  unfold txN
  split
  · rename_i q
    subst q
    exact Ze (Zd3 h3 h4) (Z9z h6)
  · split
    · rename_i q
      subst q
      have:n<=15:=h4
      exact Ze (Zkl (k:= .at_) (show n.toNat<16 by omega)) Yf
    · split
      · exact Ze Z9x (Ze Zid (Zvt hts (Ze Zvq (Ze Zdw (Ze Zdw (Ze Zdv Yf))))))
      · split
        · refine W2 (Zp6 (hget 0)) (Ze ?_ (Zp6 (hget 1)))
          unfold sgnO
          split
          · exact Zvs
          · split
            · exact Zp5
            · exact Z3y
        · exact Ze (Zkl (k:= .ca) (show (op-6).toNat<5 by omega)) (Ze Zid (Zvt hts (Ze Zdw (Ze Zdv Yf))))
theorem Z90 {w:Tst} (h:Ye w=true):AllW (txW w):=by
 obtain ⟨a0,a1,l0,l1,h0,h1⟩:=Zdk h
 unfold txW
 refine Ze (Zkl (k:= .at_) (show w.attr.toNat<16 by omega)) ?_
 split
 · exact Ze Ycq (Ze (Zd3 l0 l1) Yf)
 · exact Ze Ycr (Ze (Zd3 l0 l1) (Ze Z55 (Ze (Zd3 h0 h1) Yf)))
theorem Zvw:∀{ws:List Tst} (i:Nat),(∀w∈ws,Ye w=true)->AllW (txTs i ws)
 | [],_,_=>Yf
 |w::r,i,h=>by
  rw [Zxq]
  refine Ze ?_ (W2 (Z90 (h w (by simp))) (Zvw _ fun w hw=>h w (by simp [hw])))
  split
  · exact Z56
  · exact Z9y
theorem Z91 {c:Cls} (h:Wa c=true):AllW (txC c):=by
 obtain ⟨k1,k2,k3⟩:=Zbf h
 exact Ze Zkk (Ze (Wv k1) (W2 (Zvw _ k3) (Ze Z30 (W2 (Zvv _ k2) (Ze Zvr Yf)))))
theorem Zvx:∀{cs:List Cls} {s:List (List Nat)},CsOk s cs->AllW (txCs cs)
 | [],_,_=>Yf
 |c::r,s,h=>by
  rw [Ue] at h
  rw [Zxr]
  exact W2 (Z91 h.1) (Zvx h.2.2.2.2.2)
theorem Z0n {t:Tar} (h:Xb t=0):AllW (Zar t):=by
 obtain ⟨h1,h2,h3,h4,h5,h6⟩:=(Wt t).1 h
 exact Ze Zkj (Ze (Wv h1) (Ze Z31 (Ze (Zkl (k:= .ki) (show (t.for_-1).toNat<6 by omega)) (Ze Z9v (W2 (Zvx h6) (Ze Z9w Yf))))))
theorem Z0o {s:List Nat} {l:List Tok} (h:Lx s 0 l) (hs:s.length<=2000):Yd s=outT (pTar l s.length):=by
 unfold Yd
 rw [Zx4 h hs,if_neg (by simp)]
theorem Zmu {s:List Nat} {l:List Tok} (h:Lx s 0 l) (hs:s.length<=2000) {l0:List Tok} {e:Int} {t:Tar} {x:PX} (ht:pTar l0 e= .ok (t,x)) (hl:l.map sT=l0.map sT):Yd s=(t,0,0):=by
 rw [Z0o h hs,(Z54 ht).1 l s.length hl]
 rfl
theorem Zsh {t:Tar} (h:Xb t≠0):Y9 t=([],Xb t):=by
 unfold Y9
 rw [if_pos h]
theorem Zkm {t:Tar} (h:(Y9 t).2=0):Xb t=0/\(Zj (Zar t)).length<=2000/\Y9 t=(Zj (Zar t),0):=by
 unfold Y9 at h⊢
 split at h
 · rename_i hc
   exact absurd h hc
 · rename_i hc
   split at h
   · cases h
   · rename_i hl
     rw [if_neg hc,if_neg hl]
     exact ⟨by simpa using hc,by omega,rfl⟩
theorem Zmv (s:List Nat):((Zz s).2.2≠0/\Yd s=(zT,(Zz s).2.1,(Zz s).2.2))\/
 ((Zz s).2.2=0/\∃er,Z99 (Zz s).1 s.length er/\Yd s=(zT,er.1,er.2))\/
 ((Zz s).2.2=0/\∃t x,pTar (Zz s).1 s.length= .ok (t,x)/\Xb t=0/\Yd s=(t,0,0)):=by
 by_cases h:(Zz s).2.2=0
 · have hp:Yd s=outT (pTar (Zz s).1 s.length):=by
    unfold Yd
    rw [if_neg (by simpa using h)]
   rw [hp]
   cases hq:pTar (Zz s).1 s.length with
   |error er=>exact .inr (.inl ⟨h,er,((Z4c _ _).2 er hq).at,rfl⟩)
   |ok y=>
    obtain ⟨t,x⟩:=y
    exact .inr (.inr ⟨h,t,x,rfl,(Z9b _ _ _ _ (Zrt s) hq).1,rfl⟩)
 · refine .inl ⟨h,?_⟩
   unfold Yd
   rw [if_pos h]
theorem Zcu (w:List Nat) (r:List (List Nat)):Zca (w::r)=w++32::Zca r:=rfl
end
section
open Go
structure PcX where
 k:Nat
 r:Nat
 L:List (List Nat)
 fz:Nat
def cOfP (h:Hp thy) (v:SV thy):Nat:=match h (bOf v) with|some (.raw (.sl c _ _ _ _::_) _ _)=>c|_=>0
noncomputable def Apc:Fr thy->Hp thy->Nat->Ann thy:=fun T h i=>{X:=PcX,fr:=fun x=> [(0,T 0),(3,T 3),(12,T 12),(13,T 13),(14,.int false .i64 x.k)],bl:=fun x=>(bOf (T 0),.raw [.sl i 0 x.L.length 1 none] 0 none)::(i,.rows Th.strs x.L x.fz)::blkP h (T 3),src:=fun x=> [(i,1000)],md:= [bOf (T 0),cOfP h (T 0)],ih:=i+1,M:=i+60,meas:=fun x=>x.r}
noncomputable def Fpc:Fns thy:=addL (addS Fpu 79 (Sxp 1000000000)) 43 3 Apc E
def clA (c:Cls):SV thy:= .agg (encF false .clauses c)
abbrev qCLv (a0:Cls):=(Cls.pay a0)
abbrev qCLl (a0:Cls):=(Cls.when_ a0=Cls.when_ a0/\(false=true->false=true))
abbrev qCL1 (a0:Cls):=(Cls.name a0=Cls.name a0/\(qCLl a0)/\Ex.op (qCLv a0)=Ex.op (qCLv a0)/\Ex.n (qCLv a0)=Ex.n (qCLv a0)/\Ex.d0 (qCLv a0)=Ex.d0 (qCLv a0)/\Ex.d1 (qCLv a0)=Ex.d1 (qCLv a0)/\Ex.d2 (qCLv a0)=Ex.d2 (qCLv a0)/\Ex.d3 (qCLv a0)=Ex.d3 (qCLv a0)/\(Ex.l (qCLv a0)=Ex.l (qCLv a0)/\(false=true->false=true))/\True)
abbrev qCLe (a0:Cls):=(↑(List.length (Cls.when_ a0)):Int)
abbrev qCLj:=(0:Nat)
abbrev qCLr:=(1:Int)
abbrev qCLh (a0:PcX):=(↑(PcX.k a0):Int)
abbrev qCL2 (a0:Cls) (b0:PcX) (c0:PcX):=(qCLj=qCLj/\qCLj=qCLj/\(qCLl a0)/\(qCLe a0)=(qCLe a0)/\wr IntKind.i64 ((qCLh b0)+qCLr)=(qCLh c0)/\True)
abbrev qCLu (a0:PcX):=(List.length (PcX.L a0))
abbrev qCL3 (a0:PcX) (b0:List Nat):=(List.take (qCLu a0) (PcX.L a0)++ [[(119:Nat),(104:Nat),(101:Nat),(110:Nat)],b0])
abbrev qCL4 (a0:PcX) (b0:List Nat):=(List.take (qCLu a0) (PcX.L a0)++ [[(97:Nat),(110:Nat),(100:Nat)],b0])
abbrev qCL5:=(1:Nat)
abbrev qCL6 (a0:Cls):=(Ex.mk (Ex.op (qCLv a0)) (Ex.n (qCLv a0)) (Ex.d0 (qCLv a0)) (Ex.d1 (qCLv a0)) (Ex.d2 (qCLv a0)) (Ex.d3 (qCLv a0)) (Ex.l (qCLv a0)))
abbrev qCLc:=(2:Nat)
abbrev qCL7 (a0:PcX):=(List.length (PcX.L a0)+qCLc+qCL5)
abbrev qCL8 (a0:PcX):=(List.length (PcX.L a0)+qCLc)
abbrev qCL9:=(140737488355328:Nat)
abbrev qCLa (a0:PcX):=(List.length (PcX.L a0)+qCLc+qCL5+qCL5)
abbrev qCLb (a0:PcX):=(List.take (qCLu a0) (PcX.L a0)++ [[(112:Nat),(97:Nat),(121:Nat)]])
abbrev qCLd (a0:Tst):=((0:Int)<=Tst.low a0/\Tst.low a0+qCLr<=(10000000000000:Int))
abbrev qCLf (a0:PcX) (b0:List Nat):=(List.take (qCL8 a0) (qCL3 a0 b0)++ [[(105:Nat),(110:Nat)]])
abbrev qCLg (a0:PcX) (b0:List Nat):=(List.take (qCL8 a0) (qCL4 a0 b0)++ [[(105:Nat),(110:Nat)]])
abbrev qCLi (a0:PcX):=(List.length (PcX.L a0)+qCLc+qCL5+qCL5+qCL5)
abbrev qCLk:=(16:Nat)
abbrev qCLm (a0:PcX):=(some (List.take (qCLu a0) (PcX.L a0)++ [[(112:Nat),(97:Nat),(121:Nat)]],PcX.fz a0))
abbrev qCLn (a0:PcX):=(List.length (PcX.L a0)<=List.length (PcX.L a0)/\PcX.fz a0<=List.length (PcX.L a0)/\(qCL8 a0)*qCLk<=qCL9)
abbrev qCLo (a0:PcX) (b0:PcX):=((qCLj=qCLj/\List.length (PcX.L a0)+qCLc+qCL5+qCL5+qCL5+qCL5=List.length (PcX.L b0)/\True)/\True)
abbrev qCLp (a0:PcX) (b0:List Nat):=(List.length (PcX.L a0)+qCLc<=List.length (qCL3 a0 b0)/\PcX.fz a0<=List.length (PcX.L a0)+qCLc/\(qCL7 a0)*qCLk<=qCL9)
abbrev qCLq (a0:PcX) (b0:List Nat):=(List.length (PcX.L a0)+qCLc<=List.length (qCL4 a0 b0)/\PcX.fz a0<=List.length (PcX.L a0)+qCLc/\(qCL7 a0)*qCLk<=qCL9)
abbrev qCLs (a0:PcX) (b0:PcX):=((qCLj=qCLj/\List.length (PcX.L a0)+qCLc+qCL5+qCL5=List.length (PcX.L b0)/\True)/\True)
abbrev qCLt (a0:Tst):=((0:Int)<=Tst.high a0/\Tst.high a0+qCLr<=(10000000000000:Int))
theorem Zzr (l:List (List Nat)) (fz:Nat) (c:Cls) (l':List (List Nat)):Zm E Fpc (vc E Fpc 400) 43 [.ptr 0 0,clA c] (hpP E Th.strs (some (l,fz))) 2 (prnK E Th.strs (some (l,fz)) l')=(
 (List.length l<=List.length l/\fz<=List.length l/\(List.length l+qCLc)*qCLk<=qCL9)/\∃(R:PcX->Prop),(∃(x:PcX),R x/\true=true/\(qCLj=qCLj/\qCLj=qCLj/\(qCLl c)/\(qCLe c)=(qCLe c)/\(0:Int)=(qCLh x)/\True)/\((qCLj=qCLj/\List.length l+qCLc=List.length (PcX.L x)/\True)/\True)/\(List.take (List.length l) l++ [[(99:Nat),(108:Nat),(97:Nat),(117:Nat),(115:Nat),(101:Nat)],Cls.name c]=PcX.L x/\fz=PcX.fz x)/\(qCL1 c)/\True)/\∀(x:PcX),R x->(decide ((qCLh x)<(qCLe c))=true->(0:Int)<=(qCLh x)/\(qCLh x)+qCLr<=(qCLe c)/\∀(x_1:Tst),(Cls.when_ c)[Int.toNat (qCLh x)]? =some x_1->(0:Int)<=mm2 false (qCLh x) qCLr/\mm2 false (qCLh x) qCLr+qCLr<=(↑qCLc:Int)/\((mm2 false (qCLh x) qCLr==(↑qCLj:Int))=true->(0:Int)<=Tst.attr x_1/\Tst.attr x_1+qCLr<=(↑(List.length (WK.words WK.at_)):Int)/\∀(x_2:List Nat),(WK.words WK.at_)[Int.toNat (Tst.attr x_1)]? =some x_2->(qCLn x)/\((Tst.low x_1==Tst.high x_1)=true->(qCLp x x_2)/\(qCLd x_1)/\∀(y:List Nat),y=decN (Tst.low x_1)->(List.length (PcX.L x)+qCLc+qCL5<=List.length (List.take (qCL8 x) (qCL3 x x_2)++ [[(105:Nat),(115:Nat)]])/\PcX.fz x<=List.length (PcX.L x)+qCLc+qCL5/\(qCLa x)*qCLk<=qCL9)/\∃(x_3:PcX),R x_3/\x_3.2+qCL5<=x.2/\true=true/\(qCL2 c x x_3)/\(qCLs x x_3)/\(List.take (qCL7 x) (List.take (qCL8 x) (qCL3 x x_2)++ [[(105:Nat),(115:Nat)]])++ [y]=PcX.L x_3/\PcX.fz x=PcX.fz x_3)/\(qCL1 c)/\True)/\((Tst.low x_1==Tst.high x_1)=false->(qCLp x x_2)/\(qCLd x_1)/\∀(y:List Nat),y=decN (Tst.low x_1)->(List.length (PcX.L x)+qCLc+qCL5<=List.length (qCLf x x_2)/\PcX.fz x<=List.length (PcX.L x)+qCLc+qCL5/\(qCLa x)*qCLk<=qCL9)/\(List.length (PcX.L x)+qCLc+qCL5+qCL5<=List.length (List.take (qCL7 x) (qCLf x x_2)++ [y])/\PcX.fz x<=List.length (PcX.L x)+qCLc+qCL5+qCL5/\(qCLi x)*qCLk<=qCL9)/\(qCLt x_1)/\∀(y_1:List Nat),y_1=decN (Tst.high x_1)->(List.length (PcX.L x)+qCLc+qCL5+qCL5+qCL5<=List.length (List.take (qCLa x) (List.take (qCL7 x) (qCLf x x_2)++ [y])++ [[(46:Nat),(46:Nat)]])/\PcX.fz x<=List.length (PcX.L x)+qCLc+qCL5+qCL5+qCL5/\(List.length (PcX.L x)+qCLc+qCL5+qCL5+qCL5+qCL5)*qCLk<=qCL9)/\∃(x_3:PcX),R x_3/\x_3.2+qCL5<=x.2/\true=true/\(qCL2 c x x_3)/\(qCLo x x_3)/\(List.take (qCLi x) (List.take (qCLa x) (List.take (qCL7 x) (qCLf x x_2)++ [y])++ [[(46:Nat),(46:Nat)]])++ [y_1]=PcX.L x_3/\PcX.fz x=PcX.fz x_3)/\(qCL1 c)/\True))/\((mm2 false (qCLh x) qCLr==(↑qCLj:Int))=false->((mm2 false (qCLh x) qCLr==(↑(qCLj+qCL5):Int))=true->(0:Int)<=Tst.attr x_1/\Tst.attr x_1+qCLr<=(↑(List.length (WK.words WK.at_)):Int)/\∀(x_2:List Nat),(WK.words WK.at_)[Int.toNat (Tst.attr x_1)]? =some x_2->(qCLn x)/\((Tst.low x_1==Tst.high x_1)=true->(qCLq x x_2)/\(qCLd x_1)/\∀(y:List Nat),y=decN (Tst.low x_1)->(List.length (PcX.L x)+qCLc+qCL5<=List.length (List.take (qCL8 x) (qCL4 x x_2)++ [[(105:Nat),(115:Nat)]])/\PcX.fz x<=List.length (PcX.L x)+qCLc+qCL5/\(qCLa x)*qCLk<=qCL9)/\∃(x_3:PcX),R x_3/\x_3.2+qCL5<=x.2/\true=true/\(qCL2 c x x_3)/\(qCLs x x_3)/\(List.take (qCL7 x) (List.take (qCL8 x) (qCL4 x x_2)++ [[(105:Nat),(115:Nat)]])++ [y]=PcX.L x_3/\PcX.fz x=PcX.fz x_3)/\(qCL1 c)/\True)/\((Tst.low x_1==Tst.high x_1)=false->(qCLq x x_2)/\(qCLd x_1)/\∀(y:List Nat),y=decN (Tst.low x_1)->(List.length (PcX.L x)+qCLc+qCL5<=List.length (qCLg x x_2)/\PcX.fz x<=List.length (PcX.L x)+qCLc+qCL5/\(qCLa x)*qCLk<=qCL9)/\(List.length (PcX.L x)+qCLc+qCL5+qCL5<=List.length (List.take (qCL7 x) (qCLg x x_2)++ [y])/\PcX.fz x<=List.length (PcX.L x)+qCLc+qCL5+qCL5/\(qCLi x)*qCLk<=qCL9)/\(qCLt x_1)/\∀(y_1:List Nat),y_1=decN (Tst.high x_1)->(List.length (PcX.L x)+qCLc+qCL5+qCL5+qCL5<=
List.length (List.take (qCLa x) (List.take (qCL7 x) (qCLg x x_2)++ [y])++ [[(46:Nat),(46:Nat)]])/\PcX.fz x<=List.length (PcX.L x)+qCLc+qCL5+qCL5+qCL5/\(List.length (PcX.L x)+qCLc+qCL5+qCL5+qCL5+qCL5)*qCLk<=qCL9)/\∃(x_3:PcX),R x_3/\x_3.2+qCL5<=x.2/\true=true/\(qCL2 c x x_3)/\(qCLo x x_3)/\(List.take (qCLi x) (List.take (qCLa x) (List.take (qCL7 x) (qCLg x x_2)++ [y])++ [[(46:Nat),(46:Nat)]])++ [y_1]=PcX.L x_3/\PcX.fz x=PcX.fz x_3)/\(qCL1 c)/\True))/\((mm2 false (qCLh x) qCLr==(↑(qCLj+qCL5):Int))=false->True)))/\(decide ((qCLh x)<(qCLe c))=false->(List.length (PcX.L x)<=List.length (PcX.L x)/\PcX.fz x<=List.length (PcX.L x)/\(List.length (PcX.L x)+qCL5)*qCLk<=qCL9)/\(List.length (PcX.L x)+qCL5=List.length (qCLb x)/\PcX.fz x<=List.length (qCLb x)/\Ex.sz (qCL6 c)+qCL5<=(1000000000:Nat)/\Z2 (qCL6 c)=true/\qCL5<=List.length (qCLb x)/\List.length (qCLb x)+(8:Nat)*Ex.sz (qCL6 c)+(8:Nat)<=(1000000000:Nat))/\∀(l'_1:List (List Nat)),l'_1=List.take (qCLu x) (PcX.L x)++ [[(112:Nat),(97:Nat),(121:Nat)]]++txX (qCL6 c)->(List.length l'_1<=List.length l'_1/\fzO (qCLm x)<=List.length l'_1/\(List.length l'_1+qCL5)*qCLk<=qCL9)/\List.take (List.length l'_1) l'_1++ [[(59:Nat)]]=l'/\List.length l'_1+qCL5=List.length l'/\fzO (qCLm x)=fzO (some (l,fz)))):=by kernel_rfl
theorem Zma:∀(a:List Tst) (i:Nat) (w:Tst),txTs i (a++ [w])=txTs i a++((if a.length+i=0 then Zjj else sAnd)::txW w)
 | [],i,w=>by simp [txTs]
 |x::r,i,w=>by
  rw [List.cons_append]
  simp only [txTs]
  rw [Zma r (i+1) w]
  have e:(r.length+(i+1)=0)=((x::r).length+i=0):=by simp
  simp only [e,List.append_assoc,List.cons_append]
theorem Z8w (w:Tst):(txW w).length<=5:=by
 unfold txW
 split<;>simp
theorem Zjk:∀(l:List Tst) (i:Nat),(txTs i l).length<=6*l.length
 | [],_=>by simp [txTs]
 |w::r,i=>by
  have:=Zjk r (i+1)
  have:=Z8w w
  simp [txTs]
  omega
def PclP (l:List (List Nat)) (c:Cls):Prop:=Wa c=true/\c.pay.sz<1000000000/\1<=l.length/\l.length+8*c.pay.sz+6*c.when_.length+20<=1000000000
theorem Yb8:FnsOk E Fpc:=Z1 E_ok (Zb Zq7 (Zyu (Zpq 1000000000))) _ _ _
theorem Z8x (c:Cls) (l:List (List Nat)) (fz:Nat) (hf:fz<=l.length) (h:PclP l c):PrnC E 43 Th.strs [clA c] (some (l,fz)) (l++txC c):=by
 refine Zyr Yb8 (n:=400) rfl ?_
 rw [Zzr];delta qCLv qCLl qCL1 qCLe qCLj qCLr qCLh qCL2 qCLu qCL3 qCL4 qCL5 qCL6 qCLc qCL7 qCL8 qCL9 qCLa qCLb qCLd qCLf qCLg qCLi qCLk qCLm qCLn qCLo qCLp qCLq qCLs qCLt
 obtain ⟨h1,h2,h3,h4⟩:=h
 obtain ⟨-,g2,g3⟩:=Zbf h1
 have L:WK.at_.words.length=16:=rfl
 simp only [fzO,List.take_length,Ex.eta,forall_eq,beq_iff_eq,beq_eq_false_iff_ne,ne_eq,and_true,true_and,imp_self,decide_eq_true_eq,decide_eq_false_iff_not]
 refine ⟨⟨Nat.le_refl _,hf,by omega⟩,fun x=>x.k<=c.when_.length/\x.fz=fz/\x.L=l++ [Y5,c.name]++txTs 0 (c.when_.take x.k)/\x.r=c.when_.length-x.k,⟨⟨0,c.when_.length,l++ [Y5,c.name],fz⟩,⟨by dsimp only;omega,rfl,by simp [txTs],rfl⟩,by simp,by simp,by simp [Y5]⟩,?_⟩
 rintro ⟨k,r,Lx,fx⟩ ⟨k1,k2,k3,k4⟩
 simp only at k1 k2 k3 k4⊢
 subst k2 k4
 have tl:=Zjk (c.when_.take k) 0
 have tl2:(c.when_.take k).length<=c.when_.length:=by simp;omega
 have hL:Lx.length=l.length+2+(txTs 0 (c.when_.take k)).length:=by rw [k3];simp;omega
 refine And.intro (fun hq=>⟨by omega,by omega,fun w hw=> ?_⟩) (fun hq=> ?_)
 · have hw:c.when_[k]? =some w:=hw
   have hq:k<c.when_.length:=by omega
   obtain ⟨t1,t2,t3,t4,t5,t6⟩:=Zdk (g3 w (List.mem_of_getElem? hw))
   have ek:c.when_.take (k+1)=c.when_.take k++ [w]:=by rw [List.take_add_one,hw];rfl
   have tw:(c.when_.take k).length=k:=by simp;omega
   have hm:(0:Int)<=mm2 false (↑k:Int) (1:Int)/\mm2 false (↑k:Int) (1:Int)+1<=2:=by
    rw [Yg];omega
   have st:txTs 0 (c.when_.take (k+1))=txTs 0 (c.when_.take k)++((if k=0 then Zjj else sAnd)::txW w):=by rw [ek,Zma,tw,Nat.add_zero]
   have wx:∀x2,WK.at_.words[w.attr.toNat]? =some x2->txW w=x2::(if w.low=w.high then [sIs,decN w.low] else [sIn,decN w.low,Zl9,decN w.high]):=by
    intro x2 h
    unfold txW
    rw [List.getD_eq_getElem?_getD,h]
    rfl
   have E1:∀s x2,(if k=0 then Zjj else sAnd)=s->WK.at_.words[w.attr.toNat]? =some x2->w.low=w.high->Lx++ [s,x2]++ [[105,115]]++ [decN w.low]=l++ [Y5,c.name]++txTs 0 (c.when_.take (k+1)):=by
    intro s x2 hs h e
    rw [k3,st,hs,wx x2 h,if_pos e]
    simp [sIs]
   have E2:∀s x2,(if k=0 then Zjj else sAnd)=s->WK.at_.words[w.attr.toNat]? =some x2->¬w.low=w.high->Lx++ [s,x2]++ [[105,110]]++ [decN w.low]++ [[46,46]]++ [decN w.high]=l++ [Y5,c.name]++txTs 0 (c.when_.take (k+1)):=by
    intro s x2 hs h e
    rw [k3,st,hs,wx x2 h,if_neg e]
    simp [sIn,Zl9]
   have T1:∀a b,List.take (Lx.length+2) (Lx++ [a,b])=Lx++ [a,b]:=fun a b=>List.take_of_length_le (by simp)
   have T2:∀a b c,List.take (Lx.length+2+1) (Lx++ [a,b]++ [c])=Lx++ [a,b]++ [c]:=fun a b c=>List.take_of_length_le (by simp)
   have T3:∀a b c d,List.take (Lx.length+2+1+1) (Lx++ [a,b]++ [c]++ [d])=Lx++ [a,b]++ [c]++ [d]:=fun a b c d=>List.take_of_length_le (by simp)
   have T4:∀a b c d e,List.take (Lx.length+2+1+1+1) (Lx++ [a,b]++ [c]++ [d]++ [e])=Lx++ [a,b]++ [c]++ [d]++ [e]:=fun a b c d e=>List.take_of_length_le (by simp)
   have wk:wr IntKind.i64 ((k:Int)+1)=((k+1:Nat):Int):=(wr64 (by omega) (by omega)).trans (by omega)
   simp only [T1,T2,T3,T4]
   have m0:(mm2 false (k:Int) 1=((0:Nat):Int))=(k=0):=by rw [Yg];exact propext (by omega)
   have go:∀s x2,(if k=0 then Zjj else sAnd)=s->WK.at_.words[w.attr.toNat]? =some x2->
    (w.low=w.high->∃x_3:PcX,(x_3.k<=c.when_.length/\x_3.fz=fx/\x_3.L=l++ [Y5,c.name]++txTs 0 (List.take x_3.k c.when_)/\x_3.r=c.when_.length-x_3.k)/\x_3.r+1<=c.when_.length-k/\wr IntKind.i64 ((k:Int)+1)=(x_3.k:Int)/\Lx.length+2+1+1=x_3.L.length/\Lx++ [s,x2]++ [[105,115]]++ [decN w.low]=x_3.L/\fx=x_3.fz)/\
    (¬w.low=w.high->∃x_3:PcX,(x_3.k<=c.when_.length/\x_3.fz=fx/\x_3.L=l++ [Y5,c.name]++txTs 0 (List.take x_3.k c.when_)/\x_3.r=c.when_.length-x_3.k)/\x_3.r+1<=c.when_.length-k/\wr IntKind.i64 ((k:Int)+1)=(x_3.k:Int)/\Lx.length+2+1+1+1+1=x_3.L.length/\Lx++ [s,x2]++ [[105,110]]++ [decN w.low]++ [[46,46]]++ [decN w.high]=x_3.L/\fx=x_3.fz):=by
    intro s x2 hs h
    refine And.intro (fun e=> ?_) (fun e=> ?_)
    · have:=E1 s x2 hs h e
      have h2:=congrArg List.length this
      refine ⟨⟨k+1,c.when_.length-(k+1),l++ [Y5,c.name]++txTs 0 (c.when_.take (k+1)),fx⟩,⟨hq,rfl,rfl,rfl⟩,(by dsimp only;omega),wk,?_,this,rfl⟩
      dsimp only
      rw [<-h2]
      simp
    · have:=E2 s x2 hs h e
      have h2:=congrArg List.length this
      refine ⟨⟨k+1,c.when_.length-(k+1),l++ [Y5,c.name]++txTs 0 (c.when_.take (k+1)),fx⟩,⟨hq,rfl,rfl,rfl⟩,(by dsimp only;omega),wk,?_,this,rfl⟩
      dsimp only
      rw [<-h2]
      simp
   rw [m0]
   refine ⟨hm.1,hm.2,fun h0=>⟨t1,by rw [L];omega,fun x2 hx2=> ?_⟩,fun h0=>⟨fun h1=>⟨t1,by rw [L];omega,fun x2 hx2=> ?_⟩,fun _=>trivial⟩⟩
   · obtain ⟨g1,g2⟩:=go [119,104,101,110] x2 (by rw [if_pos h0];rfl) hx2
     refine ⟨⟨Nat.le_refl _,by omega,by omega⟩,fun e=> ?_,fun e=> ?_⟩
     · exact ⟨⟨by simp,by omega,by omega⟩,⟨t3,by omega⟩,⟨by simp,by omega,by omega⟩,g1 e⟩
     · exact ⟨⟨by simp,by omega,by omega⟩,⟨t3,by omega⟩,⟨by simp,by omega,by omega⟩,⟨by simp,by omega,by omega⟩,⟨t5,by omega⟩,⟨by simp,by omega,by omega⟩,g2 e⟩
   · obtain ⟨g1,g2⟩:=go [97,110,100] x2 (by rw [if_neg h0];rfl) hx2
     refine ⟨⟨Nat.le_refl _,by omega,by omega⟩,fun e=> ?_,fun e=> ?_⟩
     · exact ⟨⟨by simp,by omega,by omega⟩,⟨t3,by omega⟩,⟨by simp,by omega,by omega⟩,g1 e⟩
     · exact ⟨⟨by simp,by omega,by omega⟩,⟨t3,by omega⟩,⟨by simp,by omega,by omega⟩,⟨by simp,by omega,by omega⟩,⟨t5,by omega⟩,⟨by simp,by omega,by omega⟩,g2 e⟩
 · have ek:k=c.when_.length:=by omega
   have tx:=Y6 c.pay
   have e1:Lx++ [[112,97,121]]++txX c.pay++ [[59]]=l++txC c:=by
    rw [k3,ek,List.take_length]
    unfold txC
    simp [sPay,Yx]
   have e2:=congrArg List.length e1
   simp only [List.length_append,List.length_cons,List.length_nil] at e2⊢
   exact ⟨⟨Nat.le_refl _,by omega,by omega⟩,⟨trivial,by omega,by omega,g2,by omega,by omega⟩,⟨Nat.le_refl _,by omega,by omega⟩,e1,by omega,trivial⟩
end
section
open Go
noncomputable def dCl1:DcL E (Cls×Unit):= .cons dCl .nil
noncomputable def Spc:Sum thy:=sumB E Th.strs dCl1 (fun l x=>PclP l x.1) fun (l:List (List Nat)) x=>l++txC x.1
theorem Z8y:SumOk E 43 Spc:=Ziq E_ok (Zc rfl) fun x=>⟨fun l fz hf hp=>Z8x x.1 l fz hf hp,fun hp=>absurd hp.2.2.1 (by decide)⟩
noncomputable def Yca:DcL E (List (List Nat)×List Nat×Unit):= .cons (Zr1 (E:=E) Th.strs:Dc E (List (thy.dom Th.strs))) (.cons dS .nil)
noncomputable def Z44:Sum thy:=Zlh E (fun _=>none) 10 (Vn Yca (fun x=>(x.2.1= [32]/\x.1.length<=1000000000)/\(Zj x.1).length<=1000000000) (fun x=>Zj x.1) fun y=> .str false y)
noncomputable def Apr:Fr thy->Hp thy->Nat->Ann thy:=fun T h i=>{X:=PcX,fr:=fun x=> [(1,T 1),(5,T 5),(28,T 28),(29,T 29),(30,.int false .i64 x.k)],bl:=fun x=>(bOf (T 5),.raw [.sl i 0 x.L.length 1 none] 0 none)::(i,.rows Th.strs x.L x.fz)::blkP h (T 1),src:=fun x=> [(i,1005)],md:= [bOf (T 5),cOfP h (T 5)],ih:=i+1,M:=i+60,meas:=fun x=>x.r}
noncomputable def Fpr:Fns thy:=addL (addS (addS (addS (addS F0 42 Zc8) 44 Z44) 17 Z42) 43 Spc) 15 7 Apr E
abbrev qCM1 (a0:Cls):=(Ex.mk (Ex.op (Cls.pay a0)) (Ex.n (Cls.pay a0)) (Ex.d0 (Cls.pay a0)) (Ex.d1 (Cls.pay a0)) (Ex.d2 (Cls.pay a0)) (Ex.d3 (Cls.pay a0)) (Ex.l (Cls.pay a0)))
abbrev qCM5:=(0:Nat)
abbrev qCM2 (a0:PcX):=(List.take (List.length (PcX.L a0)+(1:Nat)) (List.drop qCM5 (List.take (List.length (PcX.L a0)) (PcX.L a0)++ [[(125:Nat)]])))
abbrev qCM3 (a0:Tar):=(↑(List.length (Tar.clauses a0)):Int)
abbrev qCM4 (a0:Tar):=(Tar.clauses a0=Tar.clauses a0/\(false=true->false=true))
abbrev qCM6 (a0:PcX):=(↑(PcX.k a0):Int)
theorem Zrn (t:Tar) (s:List Nat) (e:Int):Zm E Fpr (vc E Fpr 400) 15 [.agg (encF false .tariffs t)] hp0 0 (fun r=>ret E (patch hp0 0 r) r.v (.tup [.str false s,.int false .i64 e]))=(
 ((∀(c:Cls),c∈Tar.clauses t->Ex.sz (Cls.pay c)+(1:Nat)<=(1000000000000:Nat)/\List.length (Cls.when_ c)+(1:Nat)<=(1000000000000:Nat))/\List.length (Tar.clauses t)+(1:Nat)<=(1000000000000:Nat))/\((Xb t !=(0:Int))=true-> []=s/\Xb t=e/\True)/\((Xb t !=(0:Int))=false->(0:Int)<=wr IntKind.i64 (Tar.for_ t-(1:Int))/\wr IntKind.i64 (Tar.for_ t-(1:Int))+(1:Int)<=(↑(List.length (WK.words WK.ki)):Int)/\∀(x:List Nat),(WK.words WK.ki)[Int.toNat (wr IntKind.i64 (Tar.for_ t-(1:Int)))]? =some x->∃(R:PcX->Prop),(∃(x_1:PcX),R x_1/\true=true/\(qCM5=qCM5/\qCM5=qCM5/\(qCM4 t)/\(qCM3 t)=(qCM3 t)/\(0:Int)=(qCM6 x_1)/\True)/\((qCM5=qCM5/\(5:Nat)=List.length (PcX.L x_1)/\True)/\True)/\([[(116:Nat),(97:Nat),(114:Nat),(105:Nat),(102:Nat),(102:Nat)],Tar.name t,[(102:Nat),(111:Nat),(114:Nat)],x,[(123:Nat)]]=PcX.L x_1/\qCM5=PcX.fz x_1)/\(Tar.name t=Tar.name t/\Tar.for_ t=Tar.for_ t/\(qCM4 t)/\True)/\True)/\∀(x:PcX),R x->(decide ((qCM6 x)<(qCM3 t))=true->(0:Int)<=(qCM6 x)/\(qCM6 x)+(1:Int)<=(qCM3 t)/\∀(x_1:Cls),(Tar.clauses t)[Int.toNat (qCM6 x)]? =some x_1->(List.length (PcX.L x)=List.length (PcX.L x)/\PcX.fz x<=List.length (PcX.L x)/\Wa (Cls.mk (Cls.name x_1) (Cls.when_ x_1) (qCM1 x_1))=true/\Ex.sz (qCM1 x_1)+(1:Nat)<=(1000000000:Nat)/\(1:Nat)<=List.length (PcX.L x)/\List.length (PcX.L x)+(8:Nat)*Ex.sz (qCM1 x_1)+(6:Nat)*List.length (Cls.when_ x_1)+(20:Nat)<=(1000000000:Nat))/\∀(l':List (List Nat)),l'=PcX.L x++txC (Cls.mk (Cls.name x_1) (Cls.when_ x_1) (qCM1 x_1))->∃(x_2:PcX),R x_2/\x_2.2+(1:Nat)<=x.2/\true=true/\(qCM5=qCM5/\qCM5=qCM5/\(qCM4 t)/\(qCM3 t)=(qCM3 t)/\wr IntKind.i64 ((qCM6 x)+(1:Int))=(qCM6 x_2)/\True)/\((qCM5=qCM5/\List.length l'=List.length (PcX.L x_2)/\True)/\True)/\(l'=PcX.L x_2/\fzO (some (PcX.L x,PcX.fz x))=PcX.fz x_2)/\(Tar.name t=Tar.name t/\Tar.for_ t=Tar.for_ t/\(qCM4 t)/\True)/\True)/\(decide ((qCM6 x)<(qCM3 t))=false->(List.length (PcX.L x)<=List.length (PcX.L x)/\PcX.fz x<=List.length (PcX.L x)/\(List.length (PcX.L x)+(1:Nat))*(16:Nat)<=(140737488355328:Nat))/\qCM5+(List.length (PcX.L x)+(1:Nat))<=List.length (List.take (List.length (PcX.L x)) (PcX.L x)++ [[(125:Nat)]])/\(([(32:Nat)]= [(32:Nat)]/\List.length (qCM2 x)<=(1000000000:Nat))/\List.length (Zj (qCM2 x))<=(1000000000:Nat))/\∀(y:List Nat),y=Zj (qCM2 x)->(decide ((↑(List.length y):Int)>(2000:Int))=true-> []=s/\(2:Int)=e/\True)/\(decide ((↑(List.length y):Int)>(2000:Int))=false->y=s/\(0:Int)=e/\True)))):=by kernel_rfl
theorem Zpb:∀{s:List Nat} {n m:Int},1<=n->n<=1099511627776->(∀c∈s,isD c=true)->numL n s=(m,0)->n*10^s.length<=1099511627776
 | [],n,m,_,hn,_,_=>by simpa using hn
 |c::r,n,m,h1,hn,hd,h=>by
  unfold numL at h
  split at h
  · cases h
  · rename_i hq
    have hc:=hd c (by simp)
    unfold isD at hc
    simp only [Bool.and_eq_true,decide_eq_true_eq] at hc
    have:=Zpb (by omega) (by omega) (fun c hc=>hd c (by simp [hc])) h
    have hle:n*10<=10*n+((c:Int)-48):=by omega
    have hp:(0:Int)<=10^r.length:=Int.le_of_lt (Int.pow_pos (by decide))
    have h3:=Int.mul_le_mul_of_nonneg_right hle hp
    rw [List.length_cons,Int.pow_succ,Int.mul_comm (10^r.length) 10,<-Int.mul_assoc]
    omega
theorem Zzs {s:List Nat} (hd:∀c∈s,isD c=true) (h:(numb s).2=0):s.length<=32:=by
 match s,hd,h with
 | [],_,_=>simp
 |c::r,hd,h=>
  unfold numb at h
  split at h
  · cases h
  · rename_i hq
    cases r with
    |nil=>simp
    |cons d r=>
     have hc:c≠48:=fun e=>hq ⟨by simp,by rw [e];rfl⟩
     have hcd:=hd c (by simp)
     unfold isD at hcd
     simp only [Bool.and_eq_true,decide_eq_true_eq] at hcd
     unfold numL at h
     rw [if_neg (by omega)] at h
     have h2:numL (10*0+((c:Int)-48)) (d::r)=((numL (10*0+((c:Int)-48)) (d::r)).1,0):=Prod.ext rfl h
     have:=Zpb (by omega) (by omega) (fun c hc=>hd c (by simp [hc])) h2
     have hp:(0:Int)<=10^(d::r).length:=Int.le_of_lt (Int.pow_pos (by decide))
     have h3:1*(10:Int)^(d::r).length<=(10*0+((c:Int)-48))*10^(d::r).length:=Int.mul_le_mul_of_nonneg_right (by omega) hp
     rcases Nat.lt_or_ge (d::r).length 13 with hl|hl
     · simp at hl⊢;omega
     · have h4:(10:Nat)^13<=10^(d::r).length:=Nat.pow_le_pow_right (by decide) hl
       have h5:((10^(d::r).length:Nat):Int)=(10:Int)^(d::r).length:=by norm_cast
       have h6:((10^13:Nat):Int)<=((10^(d::r).length:Nat):Int):=Int.ofNat_le.2 h4
       rw [h5] at h6
       have h7:((10^13:Nat):Int)=10000000000000:=rfl
       omega
theorem Z45 {c:Nat} {w:List Nat} (h:sgnW c=some w):w.length<=2:=by
 unfold sgnW at h
 repeat (split at h; · cases h;decide)
 cases h
theorem TokW.len {w:List Nat} (h:TokW w):w.length<=32:=by
 obtain ⟨h1,h2,h3⟩:=h
 obtain ⟨c,r,rfl⟩:=List.exists_cons_of_ne_nil h3
 rw [Yc] at h1 h2
 split at h1
 · rename_i hl
   rw [if_pos hl] at h2
   split at h1
   · cases h1
   · rename_i hq
     rw [if_neg hq] at h2
     have h2:=congrArg List.length h2
     rw [List.length_take] at h2
     omega
 · rename_i hl
   rw [if_neg hl] at h2
   split at h1
   · rename_i hd
     rw [if_pos hd] at h2
     have h2:(c::r).take (spn isD (c::r))=c::r:=h2
     have h1:(numb ((c::r).take (spn isD (c::r)))).2=0:=h1
     rw [h2] at h1
     exact Zzs (fun x hx=>by rw [<-h2] at hx;exact Ze9 hx) h1
   · rename_i hd
     rw [if_neg hd] at h2
     split at h1
     · rename_i w hw
       rw [hw] at h2
       unfold tokS at h1 h2
       split at h1
       · rename_i hq
         dsimp only at h2
         rw [if_pos hq] at h2
         have h2:w=c::r:=h2
         rw [<-h2]
         have:=Z45 hw
         omega
       · cases h1
     · cases h1
theorem Zjl:∀{ws:List (List Nat)} {m:Nat},(∀w∈ws,w.length<=m)->(Zj ws).length<=(m+1)*ws.length
 | [],m,_=>by simp [Zj]
 | [w],m,h=>by
  have:=h w (by simp)
  simp only [Zj,List.length_cons,List.length_nil]
  omega
 |w::x::r,m,h=>by
  have ih:=Zjl (ws:=x::r) (m:=m) (fun y hy=>h y (by simp at hy⊢;exact .inr hy))
  have:=h w (by simp)
  rw [Zal (by simp),List.length_append,List.length_cons]
  have e:(m+1)*(w::x::r).length=(m+1)*(x::r).length+(m+1):=by rw [List.length_cons,Nat.mul_add,Nat.mul_one]
  omega
theorem Z46 (c:Cls):(txC c).length<=8*c.pay.sz+6*c.when_.length+4:=by
 have h1:=Y6 c.pay
 have h2:=Zjk c.when_ 0
 unfold txC
 simp only [List.length_cons,List.length_append,List.length_nil]
 omega
theorem Zjm:∀(a:List Cls) (c:Cls),txCs (a++ [c])=txCs a++txC c
 | [],c=>by simp [txCs]
 |x::r,c=>by rw [List.cons_append];simp only [txCs];rw [Zjm r c,List.append_assoc]
theorem Zpc:∀{cs:List Cls} {m:Nat},(∀c∈cs,c.pay.sz<=m/\c.when_.length<=8)->(txCs cs).length<=(8*m+52)*cs.length
 | [],m,_=>by simp [txCs]
 |c::r,m,h=>by
  have ih:=Zpc (cs:=r) (m:=m) (fun x hx=>h x (by simp [hx]))
  have h1:=h c (by simp)
  have h2:=Z46 c
  have e:(8*m+52)*(c::r).length=(8*m+52)*r.length+(8*m+52):=by rw [List.length_cons,Nat.mul_add,Nat.mul_one]
  rw [txCs,List.length_append]
  omega
theorem Zhh:∀{cs:List Cls} {s:List (List Nat)},CsOk s cs->∀c∈cs,Wa c=true/\c.when_.length<=8
 |c::r,s,h,x,hx=>by
  rw [Ue] at h
  rcases List.mem_cons.1 hx with rfl|hx
  · exact ⟨h.1,h.2.2.2.1⟩
  · exact Zhh h.2.2.2.2.2 x hx
def SmT (t:Tar):Prop:=(∀c∈t.clauses,c.pay.sz<=10000/\c.when_.length<1000000000)/\t.clauses.length<1000000000
theorem Zpd:SumOk E 44 Z44:=Zff E_ok (Z5 E_ok (Zc rfl) fun x h=>by
 have:=Zk4 x.1 h.1.2 h.2
 rw [<-h.1.1] at this
 exact this)
theorem Z8z:FnsOk E Fpr:=Z1 E_ok (Zb (Zb (Zb (Zb F0_ok Zc9) Zpd) Zzg) Z8y) _ _ _
theorem Zro (t:Tar) (h:SmT t):PureC E 15 [.agg (encF false .tariffs t)] (.tup [.str false (Y9 t).1,.int false .i64 (Y9 t).2]):=by
 refine Za E_ok (Zg E_ok Z8z 400) ?_
 rw [Zrn];delta qCM1 qCM5 qCM2 qCM3 qCM4 qCM6
 obtain ⟨h1,h2⟩:=h
 have L:WK.ki.words.length=6:=rfl
 simp only [bne_iff_ne,bne_eq_false_iff_eq,fzO,List.take_length,Cls.eta,Ex.eta,forall_eq,beq_iff_eq,beq_eq_false_iff_ne,ne_eq,and_true,true_and,imp_self,decide_eq_true_eq,decide_eq_false_iff_not]
 refine ⟨⟨fun c hc=>⟨by have:=(h1 c hc).1;omega,by have:=(h1 c hc).2;omega⟩,by omega⟩,fun hn=> ?_,fun hz=> ?_⟩
 · rw [Zsh hn];exact ⟨rfl,rfl⟩
 · obtain ⟨c1,c2,c3,c4,c5,c6⟩:=(Wt t).1 hz
   have hw:wr IntKind.i64 (t.for_-1)=t.for_-1:=wr64 (by omega) (by omega)
   rw [hw]
   refine ⟨by omega,by rw [L];omega,fun x hx=> ?_⟩
   have hall:=Zhh c6
   have hm:∀c∈t.clauses,c.pay.sz<=10000/\c.when_.length<=8:=fun c hc=>⟨(h1 c hc).1,(hall c hc).2⟩
   have hlen:∀k,(txCs (t.clauses.take k)).length<=80052*64:=fun k=>by
    have a:=Zpc (cs:=t.clauses.take k) (m:=10000) (fun c hc=>hm c (List.mem_of_mem_take hc))
    have b:(t.clauses.take k).length<=64:=by rw [List.length_take];omega
    have e:(8*10000+52)*(t.clauses.take k).length<=(8*10000+52)*64:=Nat.mul_le_mul_left _ b
    omega
   have hx5:WK.ki.words.getD (t.for_-1).toNat []=x:=by rw [List.getD_eq_getElem?_getD,hx];rfl
   refine ⟨fun y=>y.k<=t.clauses.length/\y.fz=0/\y.L= [[116,97,114,105,102,102],t.name,[102,111,114],x,[123]]++txCs (t.clauses.take y.k)/\y.r=t.clauses.length-y.k,⟨⟨0,t.clauses.length,[[116,97,114,105,102,102],t.name,[102,111,114],x,[123]],0⟩,⟨(by dsimp only;omega),rfl,by simp [txCs],rfl⟩,rfl,rfl,rfl,rfl⟩,?_⟩
   rintro ⟨k,r,Lx,fx⟩ ⟨k1,k2,k3,k4⟩
   simp only at k1 k2 k3 k4⊢
   subst k2 k4
   have hL:Lx.length=5+(txCs (t.clauses.take k)).length:=by rw [k3];simp;omega
   have hlk:=hlen k
   refine And.intro (fun hq=>⟨by omega,by omega,fun c hc=> ?_⟩) (fun hq=> ?_)
   · have hc:t.clauses[k]? =some c:=hc
     have hq:k<t.clauses.length:=by omega
     have hcm:=List.mem_of_getElem? hc
     have b1:=hm c hcm
     have b2:=hall c hcm
     have e:Lx++txC c= [[116,97,114,105,102,102],t.name,[102,111,114],x,[123]]++txCs (t.clauses.take (k+1)):=by
      have ek:t.clauses.take (k+1)=t.clauses.take k++ [c]:=by rw [List.take_add_one,hc];rfl
      rw [k3,ek,Zjm,List.append_assoc]
     refine ⟨⟨by omega,b2.1,by omega,by omega,by omega⟩,⟨k+1,t.clauses.length-(k+1),Lx++txC c,0⟩,⟨hq,rfl,e,rfl⟩,(by dsimp only;omega),(wr64 (by omega) (by omega)).trans (by dsimp only;omega),rfl,rfl,rfl⟩
   · have ek:k=t.clauses.length:=by omega
     have e:Lx++ [[125]]=Zar t:=by
      rw [k3,ek,List.take_length]
      unfold Zar
      rw [hx5]
      simp [Zc1,sFor,sLb,sRb]
     have e1:List.take (Lx.length+1) (List.drop 0 (Lx++ [[125]]))=Zar t:=by
      rw [List.drop_zero,List.take_of_length_le (by simp),e]
     rw [e1]
     have e2:(Zar t).length=Lx.length+1:=by rw [<-e];simp
     have hj:=Zjl (ws:=Zar t) (m:=32) (fun w hw=>(Z0n hz w hw).len)
     unfold Y9
     rw [if_neg (by rw [hz];simp)]
     refine ⟨⟨Nat.le_refl _,by omega,by omega⟩,by rw [List.length_append];simp,⟨by omega,by omega⟩,fun h=> ?_,fun h=> ?_⟩
     · rw [if_pos (by omega)];exact ⟨rfl,rfl⟩
     · rw [if_neg (by omega)];exact ⟨rfl,rfl⟩
end
section
open Go
mutual
def szW:Int->Ex->Int
 |n,.mk _ _ _ _ _ _ l=>if n>60\/(l.length:Int)>400 then 401 else szWL (n+1) 1 l
def szWL:Int->Int->List Ex->Int
 |_,a,[]=>a
 |n,a,x::r=>if a<=400 then szWL n (a+szW n x) r else a
end
theorem Z41 (n:Int) (x:Ex):szW n x=if n>60\/(x.l.length:Int)>400 then 401 else szWL (n+1) 1 x.l:=by cases x;rw [szW];rfl
noncomputable def Sszw (m:Nat):Sum thy:=Vn Ybo (fun x=>62<=x.2.1+m/\1<=x.2.1/\x.2.1<=61) (fun x=>szW x.2.1 x.1) fun y=> .int false .i64 y
noncomputable def Aszw:Fr thy->Hp thy->Nat->Ann thy:=fun T h i=>{X:=DX,fr:=fun x=> [(1,T 1),(2,T 2),(5,.int false .i64 x.j),(6,.int false .i64 x.k)],bl:=fun x=>blkP h (T 2),src:=fun _=> [],md:= [],ih:=i,M:=i+30,meas:=fun x=>x.r}
noncomputable def Fszw (m:Nat):Fns thy:=addL (addS F0 20 (Sszw m)) 20 5 Aszw E
abbrev qCN1 (a0:Ex):=(Ex.op a0=Ex.op a0/\Ex.n a0=Ex.n a0/\Ex.d0 a0=Ex.d0 a0/\Ex.d1 a0=Ex.d1 a0/\Ex.d2 a0=Ex.d2 a0/\Ex.d3 a0=Ex.d3 a0/\(Ex.l a0=Ex.l a0/\(false=true->false=true))/\True)
abbrev qCN2 (a0:Ex):=(↑(List.length (Ex.l a0)):Int)
abbrev qCN3 (a0:DX):=(↑(DX.k a0):Int)
theorem Z28 (m:Nat) (x:Ex) (n:Int) (v:Int):Zm E F0 (vc E (Fszw m) 400) 20 [exA x,.int false .i64 n] hp0 0 (fun r=>ret E (patch hp0 0 r) r.v (.int false .i64 v))=(
 ∃(Q:Bool->Prop),((decide (n>(60:Int))=true->Q true)/\(decide (n>(60:Int))=false->(decide ((qCN2 x)>(400:Int))=true->Q true)/\(decide ((qCN2 x)>(400:Int))=false->Q false)))/\(Q true->(401:Int)=v)/\(Q false->∃(R:DX->Prop),(∃(x_1:DX),R x_1/\true=true/\(n=n/\(0:Nat)=(0:Nat)/\(1:Int)=DX.j x_1/\(0:Int)=(qCN3 x_1)/\True)/\(qCN1 x)/\True)/\∀(x_1:DX),R x_1->∃(Q:Bool->Prop),((decide ((qCN3 x_1)<(qCN2 x))=true->(decide (DX.j x_1<=(400:Int))=true->Q true)/\(decide (DX.j x_1<=(400:Int))=false->Q false))/\(decide ((qCN3 x_1)<(qCN2 x))=false->Q false))/\(Q true->(0:Int)<=(qCN3 x_1)/\(qCN3 x_1)+(1:Int)<=(qCN2 x)/\∀(x_2:Ex),(Ex.l x)[Int.toNat (qCN3 x_1)]? =some x_2->((62:Int)<=wr IntKind.i64 (n+(1:Int))+(↑m:Int)/\(1:Int)<=wr IntKind.i64 (n+(1:Int))/\wr IntKind.i64 (n+(1:Int))<=(61:Int))/\∀(y:Int),y=szW (wr IntKind.i64 (n+(1:Int))) (Ex.mk (Ex.op x_2) (Ex.n x_2) (Ex.d0 x_2) (Ex.d1 x_2) (Ex.d2 x_2) (Ex.d3 x_2) (Ex.l x_2))->∃(x_3:DX),R x_3/\x_3.2+(1:Nat)<=x_1.2/\true=true/\(n=n/\(0:Nat)=(0:Nat)/\wr IntKind.i64 (DX.j x_1+y)=DX.j x_3/\wr IntKind.i64 ((qCN3 x_1)+(1:Int))=(qCN3 x_3)/\True)/\(qCN1 x)/\True)/\(Q false->DX.j x_1=v))):=by kernel_rfl
noncomputable def Afw:Fr thy->Hp thy->Nat->Ann thy:=fun T h i=>{X:=DX,fr:=fun x=> [(1,T 1),(3,.int false .i64 x.j),(4,.int false .i64 x.k)],bl:=fun x=>blkP h (T 1),src:=fun _=> [],md:= [],ih:=i,M:=i+40,meas:=fun x=>x.r}
noncomputable def Ffw:Fns thy:=addL (addS F0 20 (Sszw 61)) 14 5 Afw E
abbrev qCN4 (a0:Tar):=(↑(List.length (Tar.clauses a0)):Int)
abbrev qCN5 (a0:DX):=(↑(DX.k a0):Int)
abbrev qCN6 (a0:Tar):=(Tar.name a0=Tar.name a0/\Tar.for_ a0=Tar.for_ a0/\(Tar.clauses a0=Tar.clauses a0/\(false=true->false=true))/\True)
theorem Z8c (t:Tar) (v:Bool):Zm E Ffw (vc E Ffw 400) 14 [.agg (encF false .tariffs t)] hp0 0 (fun r=>ret E (patch hp0 0 r) r.v (.bool false v))=(
 (decide ((qCN4 t)>(80:Int))=true->false=v)/\(decide ((qCN4 t)>(80:Int))=false->∃(R:DX->Prop),(∃(x:DX),R x/\true=true/\((0:Nat)=(0:Nat)/\(0:Int)=DX.j x/\(0:Int)=(qCN5 x)/\True)/\(qCN6 t)/\True)/\∀(x:DX),R x->(decide ((qCN5 x)<(qCN4 t))=true->(0:Int)<=(qCN5 x)/\(qCN5 x)+(1:Int)<=(qCN4 t)/\∀(x_1:Cls),(Tar.clauses t)[Int.toNat (qCN5 x)]? =some x_1->(decide ((↑(List.length (Cls.when_ x_1)):Int)>(400:Int))=true->false=v)/\(decide ((↑(List.length (Cls.when_ x_1)):Int)>(400:Int))=false->(0:Int)<=(qCN5 x)/\(qCN5 x)+(1:Int)<=(qCN4 t)/\∀(x_2:Cls),(Tar.clauses t)[Int.toNat (qCN5 x)]? =some x_2->(0:Int)<=(qCN5 x)/\(qCN5 x)+(1:Int)<=(qCN4 t)/\∀(x_3:Cls),(Tar.clauses t)[Int.toNat (qCN5 x)]? =some x_3->((62:Int)<=(1:Int)+(↑(61:Nat):Int)/\(1:Int)<=(1:Int)/\(1:Int)<=(61:Int))/\∀(y:Int),y=szW (1:Int) (Ex.mk (Ex.op (Cls.pay x_3)) (Ex.n (Cls.pay x_3)) (Ex.d0 (Cls.pay x_3)) (Ex.d1 (Cls.pay x_3)) (Ex.d2 (Cls.pay x_3)) (Ex.d3 (Cls.pay x_3)) (Ex.l (Cls.pay x_3)))->∃(x_4:DX),R x_4/\x_4.2+(1:Nat)<=x.2/\true=true/\((0:Nat)=(0:Nat)/\wr IntKind.i64 (wr IntKind.i64 (DX.j x+(↑(List.length (Cls.when_ x_2)):Int))+y)=DX.j x_4/\wr IntKind.i64 ((qCN5 x)+(1:Int))=(qCN5 x_4)/\True)/\(qCN6 t)/\True))/\(decide ((qCN5 x)<(qCN4 t))=false->(decide (DX.j x<=(400:Int))=true->true=v)/\(decide (DX.j x<=(400:Int))=false->false=v)))):=by kernel_rfl
structure TtX where
 k:Nat
 r:Nat
 L:List (List Nat)
def Atx:Fr thy->Hp thy->Nat->Ann thy:=fun T h i=>{X:=TtX,fr:=fun x=> [(3,T 3),(9,T 9),(10,T 10),(11,.int false .i64 x.k)],bl:=fun x=> [(bOf (T 3),.rows Th.strs x.L 0)],src:=fun _=> [],md:= [bOf (T 3)],ih:=i,M:=i+30,meas:=fun x=>x.r}
noncomputable def Ftx:Fns thy:=addL (addS F0 44 Z44) 27 3 Atx E
abbrev qCN7 (a0:List Tok):=(↑(List.length a0):Int)
abbrev qCN8 (a0:TtX):=(↑(TtX.k a0):Int)
abbrev qCN9:=(0:Nat)
abbrev qCNa (a0:List Tok):=(qCN9=qCN9/\Int.toNat (qCN7 a0)=Int.toNat (qCN7 a0)/\Int.toNat (qCN7 a0)=Int.toNat (qCN7 a0))
abbrev qCNb (a0:List Tok) (b0:TtX):=(List.take (Int.toNat (qCN7 a0)) (List.drop qCN9 (TtX.L b0)))
theorem Z8d (l:List Tok) (v:List Nat):Zm E Ftx (vc E Ftx 400) 27 [.psl Th.toks l false] hp0 0 (fun r=>ret E (patch hp0 0 r) r.v (.str false v))=(
 (0:Int)<=(qCN7 l)/\(qCN7 l)<=(qCN7 l)/\(↑(16:Nat):Int)*(qCN7 l)<=(281474976710656:Int)/\∃(R:TtX->Prop),(∃(x:TtX),R x/\true=true/\((qCNa l)/\(l=l/\(false=true->false=true))/\(qCN7 l)=(qCN7 l)/\(0:Int)=(qCN8 x)/\True)/\(List.replicate (Int.toNat (qCN7 l)) (toL (ByteArray.mk #[]))=TtX.L x/\qCN9=qCN9)/\True)/\∀(x:TtX),R x->(decide ((qCN8 x)<(qCN7 l))=true->(0:Int)<=(qCN8 x)/\(qCN8 x)+(1:Int)<=(qCN7 l)/\∀(x_1:Tok),l[Int.toNat (qCN8 x)]? =some x_1->((0:Int)<=(qCN8 x)/\(qCN8 x)+(1:Int)<=(↑(Int.toNat (qCN7 l)):Int))/\qCN9<=qCN9+Int.toNat (qCN8 x)/\qCN9+Int.toNat (qCN8 x)+(1:Nat)<=List.length (TtX.L x)/\∀(x_2:List Nat),(TtX.L x)[qCN9+Int.toNat (qCN8 x)]? =some x_2->∃(x_3:TtX),R x_3/\x_3.2+(1:Nat)<=x.2/\true=true/\((qCNa l)/\(l=l/\(false=true->false=true))/\(qCN7 l)=(qCN7 l)/\wr IntKind.i64 ((qCN8 x)+(1:Int))=(qCN8 x_3)/\True)/\(List.set (TtX.L x) (qCN9+Int.toNat (qCN8 x)) (Tok.text x_1)=TtX.L x_3/\qCN9=qCN9)/\True)/\(decide ((qCN8 x)<(qCN7 l))=false->qCN9+Int.toNat (qCN7 l)<=List.length (TtX.L x)/\(([(32:Nat)]= [(32:Nat)]/\List.length (qCNb l x)<=(1000000000:Nat))/\List.length (Zj (qCNb l x))<=(1000000000:Nat))/\∀(y:List Nat),y=Zj (qCNb l x)->y=v)):=by kernel_rfl
mutual
theorem Zjg:∀(n:Int) (x:Ex),1<=szW n x
 |n,.mk _ _ _ _ _ _ l=>by
  rw [szW]
  split
  · decide
  · exact Zo7 (n+1) 1 l
theorem Zo7:∀(n a:Int) (l:List Ex),a<=szWL n a l
 |n,a,[]=>by rw [szWL];omega
 |n,a,x::r=>by
  rw [szWL]
  split
  · have:=Zjg n x
    have:=Zo7 n (a+szW n x) r
    omega
  · omega
end
mutual
theorem Zo8:∀(n:Int) (x:Ex),n<=61->szW n x<=401+400*(61-n)
 |n,.mk _ _ _ _ _ _ l,hn=>by
  rw [szW]
  split
  · omega
  · have:=Zri (n+1) 1 l (by omega) (by omega)
    omega
theorem Zri:∀(n a:Int) (l:List Ex),n<=61->a<=801+400*(61-n)->szWL n a l<=801+400*(61-n)
 |n,a,[],_,h=>by rw [szWL];omega
 |n,a,x::r,hn,h=>by
  rw [szWL]
  split
  · have:=Zo8 n x hn
    exact Zri n (a+szW n x) r hn (by omega)
  · omega
end
mutual
theorem Zza:∀(n:Int) (x:Ex),szW n x<=400->szW n x=(x.sz:Int)
 |n,.mk _ _ _ _ _ _ l,h=>by
  rw [szW] at h⊢
  split at h
  · omega
  · rename_i hq
    rw [if_neg hq,Zzb (n+1) 1 l (by decide) h,Ex.sz]
    omega
theorem Zzb:∀(n a:Int) (l:List Ex),0<=a->szWL n a l<=400->szWL n a l=a+(Ex.szL l:Int)
 |n,a,[],_,_=>by rw [szWL,Ex.szL];omega
 |n,a,x::r,ha,h=>by
  rw [szWL] at h⊢
  split at h
  · rename_i hq
    have h1:=Zjg n x
    have h2:=Zo7 n (a+szW n x) r
    have h3:=Zza n x (by omega)
    rw [if_pos hq,Zzb n (a+szW n x) r (by omega) h,Ex.szL]
    omega
  · rename_i hq
    omega
end
theorem Zl3 {n a:Int} {l:List Ex} {k:Nat} {y:Ex} (h:l[k]? =some y):szWL n a (l.drop k)=if a<=400 then szWL n (a+szW n y) (l.drop (k+1)) else a:=by rw [Vy h,szWL]
theorem Zzc:∀(m:Nat) (n:Int) (x:Ex),62<=n+m->1<=n->n<=61->PureC E 20 [exA x,.int false .i64 n] (.int false .i64 (szW n x)):=by
 intro m
 induction m with
 |zero=>intro n x h;omega
 |succ m ih=>
  intro n x hm h1 h61
  have hF:FnsOk E (Fszw m):=Z1 E_ok (Zb F0_ok (Z5 E_ok (Zc (f:=20) rfl) fun x h=>ih x.2.1 x.1 h.1 h.2.1 h.2.2)) _ _ _
  refine Za E_ok (Xn E_ok F0_ok fun f N c=>(Zgg E_ok hF 400 f N c).1) ?_
  rw [Z28];delta qCN1 qCN2 qCN3
  simp only [Z9,Zx,Xf,Xg,Xh,beq_iff_eq,bne_iff_ne,beq_eq_false_iff_ne,bne_eq_false_iff_eq,decide_eq_true_eq,decide_eq_false_iff_not,Bool.or_eq_true,Bool.or_eq_false_iff,Bool.not_eq_true',Bool.not_eq_false',Bool.and_eq_true,Bool.and_true,Bool.true_and,Bool.and_eq_false_iff,beq_self_eq_true,Yq,Yg,ne_eq,and_true,true_and,Bool.true_eq_false,Bool.false_eq_true,false_or,or_false,true_implies,imp_self,Int.ofNat_eq_natCast,not_true_eq_false,not_false_eq_true,Decidable.not_not,Ex.eta,forall_eq]
  by_cases h:n>60\/(x.l.length:Int)>400
  · exact ⟨fun b=>b=true,⟨fun _=>rfl,fun h1=>⟨fun _=>rfl,fun h2=>absurd h (by omega)⟩⟩,fun _=>by rw [Z41,if_pos h],fun h=>by simp at h⟩
  · refine ⟨fun b=>b=false,⟨fun h1=>absurd h (by omega),fun _=>⟨fun h2=>absurd h (by omega),fun _=>rfl⟩⟩,fun h=>by simp at h,fun _=> ?_⟩
    rw [Z41,if_neg h]
    refine ⟨fun y=>y.k<=x.l.length/\1<=y.j/\y.j<=801+400*(60-n)/\szWL (n+1) y.j (x.l.drop y.k)=szWL (n+1) 1 x.l/\y.r=x.l.length-y.k,⟨⟨0,x.l.length,[],[],0,0,0,1⟩,⟨(by dsimp only;omega),(by dsimp only;omega),(by dsimp only;omega),rfl,rfl⟩,rfl,rfl⟩,?_⟩
    rintro ⟨k,r,D,H,nn,mm,fz,j⟩ ⟨k1,k2,k3,k4,k5⟩
    simp only at k1 k2 k3 k4 k5⊢
    have hw:wr IntKind.i64 (n+1)=n+1:=wr64 (by omega) (by omega)
    rw [hw]
    refine ⟨fun b=>b=true↔(k<x.l.length/\j<=400),⟨fun h3=>⟨fun h4=>by simp;omega,fun h4=>by simp;omega⟩,fun h3=>by simp;omega⟩,fun hq=> ?_,fun hq=> ?_⟩
    · have hq:=hq.1 rfl
      refine ⟨by omega,by omega,fun z hz=> ?_⟩
      have hz:x.l[k]? =some z:=hz
      have b1:=Zjg (n+1) z
      have b2:=Zo8 (n+1) z (by omega)
      rw [Zl3 hz,if_pos hq.2] at k4
      refine ⟨⟨by omega,by omega,by omega⟩,⟨k+1,x.l.length-(k+1),[],[],0,0,0,j+szW (n+1) z⟩,⟨(by dsimp only;omega),(by dsimp only;omega),(by dsimp only;omega),k4,rfl⟩,(by dsimp only;omega),wr64 (by omega) (by omega),(wr64 (by omega) (by omega)).trans (by dsimp only;omega)⟩
    · have hq:¬(k<x.l.length/\j<=400):=fun h=>by have:=hq.2 h;simp at this
      rcases Nat.lt_or_ge k x.l.length with hk|hk
      · rw [Zl3 (List.getElem?_eq_getElem hk),if_neg (by omega)] at k4
        exact k4
      · rw [Wi hk,szWL] at k4
        exact k4
def Zl4:Int->List Cls->Bool
 |a,[]=>decide (a<=400)
 |a,c::r=>if (c.when_.length:Int)>400 then false else Zl4 (a+c.when_.length+szW 1 c.pay) r
def fewT (t:Tar):Bool:=if (t.clauses.length:Int)>80 then false else Zl4 0 t.clauses
theorem Zt6 {a:Int} {l:List Cls} {k:Nat} {c:Cls} (h:l[k]? =some c):Zl4 a (l.drop k)=if (c.when_.length:Int)>400 then false else Zl4 (a+c.when_.length+szW 1 c.pay) (l.drop (k+1)):=by rw [Vy h,Zl4]
theorem SmT.one {t:Tar} (h:SmT t):SmT1 t:=⟨fun c hc=>⟨by have:=(h.1 c hc).1;omega,(h.1 c hc).2⟩,h.2⟩
theorem Z8e (t:Tar):PureC E 14 [.agg (encF false .tariffs t)] (.bool false (fewT t)):=by
 have hF:FnsOk E Ffw:=Z1 E_ok (Zb F0_ok (Z5 E_ok (Zc (f:=20) rfl) fun x h=>Zzc 61 x.2.1 x.1 h.1 h.2.1 h.2.2)) _ _ _
 refine Za E_ok (Zg E_ok hF 400) ?_
 rw [Z8c];delta qCN4 qCN5 qCN6
 simp only [Z9,Zx,Xf,Xg,Xh,beq_iff_eq,bne_iff_ne,beq_eq_false_iff_ne,bne_eq_false_iff_eq,decide_eq_true_eq,decide_eq_false_iff_not,Bool.or_eq_true,Bool.or_eq_false_iff,Bool.not_eq_true',Bool.not_eq_false',Bool.and_eq_true,Bool.and_true,Bool.true_and,Bool.and_eq_false_iff,beq_self_eq_true,Yq,Yg,ne_eq,and_true,true_and,Bool.true_eq_false,Bool.false_eq_true,false_or,or_false,true_implies,imp_self,Int.ofNat_eq_natCast,not_true_eq_false,not_false_eq_true,Decidable.not_not,Ex.eta,forall_eq]
 unfold fewT
 refine ⟨fun h=>by rw [if_pos h],fun h=> ?_⟩
 rw [if_neg h]
 refine ⟨fun y=>y.k<=t.clauses.length/\0<=y.j/\y.j<=30000*y.k/\Zl4 y.j (t.clauses.drop y.k)=Zl4 0 t.clauses/\y.r=t.clauses.length-y.k,⟨⟨0,t.clauses.length,[],[],0,0,0,0⟩,⟨(by dsimp only;omega),(by dsimp only;omega),(by dsimp only;omega),rfl,rfl⟩,rfl,rfl⟩,?_⟩
 rintro ⟨k,r,D,H,nn,mm,fz,j⟩ ⟨k1,k2,k3,k4,k5⟩
 simp only at k1 k2 k3 k4 k5⊢
 refine And.intro (fun hq=>⟨by omega,by omega,fun c hc=> ?_⟩) (fun hq=> ?_)
 · have hc:t.clauses[k]? =some c:=hc
   rw [Zt6 hc] at k4
   refine ⟨fun h2=> ?_,fun h2=>⟨by omega,by omega,fun c2 hc2=> ?_⟩⟩
   · rw [if_pos h2] at k4;exact k4
   · have hc2:t.clauses[k]? =some c2:=hc2
     rw [hc] at hc2;cases hc2
     refine ⟨by omega,by omega,fun c3 hc3=> ?_⟩
     have hc3:t.clauses[k]? =some c3:=hc3
     rw [hc] at hc3;cases hc3
     have b1:=Zjg 1 c.pay
     have b2:=Zo8 1 c.pay (by decide)
     rw [if_neg h2] at k4
     rw [wr64 (n:=j+(c.when_.length:Int)) (by omega) (by omega)]
     exact ⟨⟨by decide,by decide,by decide⟩,⟨k+1,t.clauses.length-(k+1),[],[],0,0,0,j+c.when_.length+szW 1 c.pay⟩,⟨(by dsimp only;omega),(by dsimp only;omega),(by dsimp only;omega),k4,rfl⟩,(by dsimp only;omega),wr64 (by omega) (by omega),(wr64 (by omega) (by omega)).trans (by dsimp only;omega)⟩
 · rw [Wi (by omega),Zl4] at k4
   rw [<-k4]
   exact ⟨fun h=>by simpa using h,fun h=>by simpa using h⟩
theorem Z8f (l:List Tok) (h1:l.length<=1000000000) (h2:(Zj (l.map Tok.text)).length<=1000000000):PureC E 27 [.psl Th.toks l false] (.str false (Zj (l.map Tok.text))):=by
 have hF:FnsOk E Ftx:=Z1 E_ok (Zb F0_ok Zpd) _ _ _
 refine Za E_ok (Zg E_ok hF 400) ?_
 rw [Z8d];delta qCN7 qCN8 qCN9 qCNa qCNb
 simp only [Z9,Zx,Xf,Xg,Xh,beq_iff_eq,bne_iff_ne,beq_eq_false_iff_ne,bne_eq_false_iff_eq,decide_eq_true_eq,decide_eq_false_iff_not,Bool.or_eq_true,Bool.or_eq_false_iff,Bool.not_eq_true',Bool.not_eq_false',Bool.and_eq_true,Bool.and_true,Bool.true_and,Bool.and_eq_false_iff,beq_self_eq_true,Yq,Yg,ne_eq,and_true,true_and,Bool.true_eq_false,Bool.false_eq_true,false_or,or_false,true_implies,imp_self,Int.ofNat_eq_natCast,not_true_eq_false,not_false_eq_true,Decidable.not_not,Int.toNat_natCast,Nat.zero_add,List.drop_zero,forall_eq]
 refine ⟨by omega,by omega,by omega,fun y=>y.k<=l.length/\y.L=(l.take y.k).map Tok.text++List.replicate (l.length-y.k) []/\y.r=l.length-y.k,⟨⟨0,l.length,List.replicate l.length []⟩,⟨(by dsimp only;omega),rfl,rfl⟩,rfl,rfl⟩,?_⟩
 rintro ⟨k,r,L⟩ ⟨k1,k2,k3⟩
 simp only at k1 k2 k3⊢
 have hL:L.length=l.length:=by rw [k2];simp;omega
 refine And.intro (fun hq=>⟨by omega,by omega,fun z hz=>⟨⟨by omega,by omega⟩,by omega,by omega,fun y hy=> ?_⟩⟩) (fun hq=> ?_)
 · have hq:k<l.length:=by omega
   have hz:l[k]? =some z:=hz
   refine ⟨⟨k+1,l.length-(k+1),L.set k z.text⟩,⟨hq,?_,rfl⟩,(by dsimp only;omega),(wr64 (by omega) (by omega)).trans (by dsimp only;omega),rfl⟩
   have e1:((l.take k).map Tok.text).length=k:=by simp;omega
   have e2:l.length-k=(l.length-(k+1))+1:=by omega
   show L.set k z.text=(l.take (k+1)).map Tok.text++List.replicate (l.length-(k+1)) []
   rw [k2,List.take_add_one,hz,e2,List.replicate_succ,List.set_append_right _ _ (by omega),e1,Nat.sub_self]
   simp
 · have ek:k=l.length:=by omega
   have e:L=l.map Tok.text:=by rw [k2,ek];simp
   rw [List.take_of_length_le (by omega),e]
   refine ⟨by rw [List.length_map];exact Nat.le_refl _,⟨by rw [List.length_map];exact h1,h2⟩,rfl⟩
end
section
open Go
noncomputable def Z5w:DcL E (Tar×Unit):= .cons (dR .tariffs) .nil
noncomputable def Ycn:DcL E (Tar×Tar×Unit):= .cons (dR .tariffs) (.cons (dR .tariffs) .nil)
def Z9g:List (SV thy)->Option (SV thy)
 | []=>some (.bool true true)
 |_=>none
noncomputable def Z9h:Sum thy:=sumO Z9g
noncomputable def Sfew:Sum thy:=Zl7 E (fun _=>none) 10 Z5w (fun _=>True) (fun x=>fewT x.1) fun y=> .bool false y
noncomputable def Srs:Sum thy:=Zl7 E (fun _=>none) 10 Ycn (fun x=>SmT1 x.1) (fun x=>eqE x.1 x.2.1) fun y=> .bool false y
noncomputable def Z9i:Sum thy:=Vn (dA1 dS) (fun _=>True) (fun x=>Yd x.1) fun y=>parV false y
noncomputable def Z9j:Sum thy:=Zl7 E (fun _=>none) 10 Z5w (fun x=>SmT x.1) (fun x=>Y9 x.1) fun y=> .tup [.str false y.1,.int false .i64 y.2]
noncomputable def Schk:Sum thy:=Zl7 E (fun _=>none) 10 Z5w (fun x=>SmT x.1) (fun x=>Xb x.1) fun y=> .int false .i64 y
noncomputable def Yco:Sum thy:=Vn (dA1 Ybv) (fun x=>x.1.length<=1000000000/\(Zj (x.1.map Tok.text)).length<=1000000000) (fun x=>Zj (x.1.map Tok.text)) fun y=> .str false y
theorem SmT.chk {t:Tar} (h:SmT t):PureC E 17 [.agg (encF false .tariffs t)] (.int false .i64 (Xb t)):=
 Zgm t (fun c hc=>⟨by have:=(h.1 c hc).1;omega,by have:=(h.1 c hc).2;omega⟩) (by have:=h.2;omega)
noncomputable def Flw:Fns thy:=Zx7 (addS (addS (addS (addS (addS (addS (addS (addS (addS F0 10 Z9h) 14 Sfew) 13 Srs) 19 Srs) 11 Z9i) 15 Z9j) 17 Schk) 25 Znq) 27 Yco)
theorem Z0a:SumOk E 10 Z9h:=Zev E_ok (Zc rfl) fun args v h=>by
 unfold Z9g at h
 split at h
 · cases h;exact Zya
 · cases h
theorem Z9k:FnsOk E Flw:=Zll (Zb (Zb (Zb (Zb (Zb (Zb (Zb (Zb (Zb F0_ok Z0a) (V2 E_ok (Zc rfl) fun x _=>Z8e x.1)) (V2 E_ok (Zc rfl) fun x h=>Z8p x.1 x.2.1 h)) (V2 E_ok (Zc rfl) fun x h=>Z3e x.1 x.2.1 h)) (Z5 E_ok (Zc rfl) fun x _=>Zg6 x.1)) (V2 E_ok (Zc rfl) fun x h=>Zro x.1 h)) (V2 E_ok (Zc rfl) fun x h=>SmT.chk h)) Zg5) (Z5 E_ok (Zc rfl) fun x h=>Z8f x.1 h.1 h.2))
theorem Z5x {nm:List Nat} {ts:List Tst} {l:List Tok} {e:Int} {c:Cls} {x:PX} (h:pPay nm ts l e= .ok (c,x)):c.pay.sz<=2*l.length:=by
 unfold pPay at h
 split at h
 · rename_i hw
   have hl:=Zo hw
   split at h
   · cases h
   · rename_i y z hx
     have:=Zju _ _ _ _ hx
     split at h
     · cases h
     · split at h
       · cases h
         show y.sz<=_
         omega
       · cases h
 · cases h
theorem Zr2 {bs:List Cls} {l:List Tok} {e:Int} {c:Cls} {x:PX} (h:Yb bs l e= .ok (c,x)):c.pay.sz<=2*l.length:=by
 unfold Yb at h
 split at h
 · cases h
 · rename_i nm y hn
   have h1:=Vk hn
   split at h
   · cases h
   · unfold pAft at h
     split at h
     · cases h
     · rename_i ts z hts
       have h2:=Znr hts
       have h3:=Z5x h
       have h4:=Zqi (s:= [119,104,101,110]) (l:=y.1)
       omega
theorem Zu0 {M:Nat}:∀{k:Nat} {cs cs':List Cls} {l:List Tok} {e:Int} {x:PX},(∀c∈cs,c.pay.sz<=2*M)->l.length<=M->pCls k cs l e= .ok (cs',x)->∀c∈cs',c.pay.sz<=2*M
 |0,cs,cs',l,e,x,hc,_,h=>by cases h;exact hc
 |k+1,cs,cs',l,e,x,hc,hl,h=>by
  unfold pCls at h
  split at h
  · rename_i hw
    have hwl:=Zo hw
    split at h
    · cases h
    · split at h
      · cases h
      · rename_i c y hcl
        have h1:=Zr2 hcl
        have h2:=Vx hcl
        refine Zu0 (cs:=cs++ [c]) (fun d hd=> ?_) (by omega) h
        rcases List.mem_append.1 hd with hd|hd
        · exact hc d hd
        · rw [List.mem_singleton.1 hd];omega
  · cases h;exact hc
theorem Z5y {l:List Tok} {e:Int} {t:Tar} {x:PX} (h:pTar l e= .ok (t,x)):∀c∈t.clauses,c.pay.sz<=2*l.length:=by
 unfold pTar at h
 split at h
 · rename_i hw
   have h1:=Zo hw
   split at h
   · cases h
   · rename_i nm y hn
     have h2:=Vk hn
     split at h
     · rename_i hw2
       have h3:=Zo hw2
       split at h
       · cases h
       · rename_i k z hm
         have h4:=V3 hm
         split at h
         · rename_i hw3
           have h5:=Zo hw3
           unfold pEnd at h
           split at h
           · cases h
           · rename_i cs w hcs
             split at h
             · split at h
               · cases h
               · cases h
                 have h6:z.1.length<=y.1.length:=by rw [h4.2.2];simp;omega
                 exact Zu0 (M:=l.length) (fun c hc=>by cases hc) (by omega) hcs
             · cases h
         · cases h
     · cases h
 · cases h
theorem Z0b (s:List Nat):SmT (Yd s).1:=by
 have h0:SmT zT:=by
  refine And.intro (fun c hc=> ?_) ?_
  · cases hc
  · decide
 rcases Zmv s with ⟨_,h⟩|⟨_,er,_,h⟩|⟨_,t,x,h1,h2,h3⟩
 · rw [h];exact h0
 · rw [h];exact h0
 · rw [h3]
   have hl:=Zfl s
   have hc:=(Wt t).1 h2
   have ha:=Zhh hc.2.2.2.2.2
   have hz:=Z5y h1
   exact ⟨fun c hcc=>⟨by have:=hz c hcc;omega,by have:=(ha c hcc).2;omega⟩,by have:=hc.2.2.2.2.1;show t.clauses.length<_;omega⟩
end
section
open Go
def LxT (s:List Nat) (p:Nat) (ts:List Tok):Prop:=∃l,Lx s p l/\l.map sT=ts
theorem Ybk (p:Nat):LxT [] p []:=⟨[],.nil p,rfl⟩
theorem Z2a {c:Nat} {s:List Nat} {p:Nat} {ts:List Tok} (hc:blk c=true) (h:LxT s (p+1) ts):LxT (c::s) p ts:=by
 obtain ⟨l,h1,h2⟩:=h
 exact ⟨l,.blank c s p l hc h1,h2⟩
theorem Z4o {w s:List Nat} {p:Nat} {ts:List Tok} (hw:TokW w) (hs:SepL w s) (h:LxT s (p+w.length) ts):LxT (w++s) p (tkS w::ts):=by
 obtain ⟨l,h1,h2⟩:=h
 exact ⟨_,.tok w s p l hw hs h1,by rw [List.map_cons,h2];rfl⟩
theorem Z4p {w s:List Nat} {p:Nat} {ts us:List Tok} (h:LxT w p us) (hs:SepL w s) (h2:LxT s (p+w.length) ts):LxT (w++s) p (us++ts):=by
 obtain ⟨l,h1,h2'⟩:=h
 obtain ⟨m,h3,h4⟩:=h2
 exact ⟨l++m,Ybc h1 h3 hs,by rw [List.map_append,h2',h4]⟩
theorem Z7a {ws:List (List Nat)} {p:Nat} (h:AllW ws):LxT (Zj ws) p (TS ws):=⟨_,Zx5 p h,Zx6 ws p⟩
theorem Z2b {ws:List (List Nat)} {p:Nat} (h:AllW ws):LxT (Zca ws) p (TS ws):=⟨_,Zqz p h,Zx6 ws p⟩
theorem Ztm {ws:List (List Nat)} (c:Nat) (h:(Zca ws).getLast? =some c):c=32:=by
 induction ws with
 |nil=>cases h
 |cons w r ih=>
  rw [Zcu] at h
  by_cases hr:Zca r= []
  · rw [hr] at h
    simp at h
    exact h.symm
  · obtain ⟨x,y,e⟩:=List.exists_cons_of_ne_nil hr
    rw [e] at h ih
    apply ih
    simpa using h
theorem Yc9 {ws:List (List Nat)} (s:List Nat):SepL (Zca ws) s:= .inl fun c h=>by rw [Ztm c h];rfl
theorem Z2c {s:List Nat} {ts:List Tok} (h:LxT s 0 ts) (hs:s.length<=2000) {e:Int} {t:Tar} {x:PX} (ht:pTar ts e= .ok (t,x)):Yd s=(t,0,0):=by
 obtain ⟨l,h1,h2⟩:=h
 refine Zmu h1 hs ht ?_
 rw [h2,<-h2,List.map_map]
 rfl
def sgC (c:Nat):Prop:=TokW [c]/\isLD (c:Int)=false
theorem Zas {c:Nat} {s:List Nat} {p:Nat} {ts:List Tok} (hc:sgC c) (h:LxT s (p+1) ts):LxT (c::s) p (tkS [c]::ts):=
 Z4o (w:= [c]) hc.1 (.inl fun d hd=>by cases hd;exact hc.2) h
theorem Zfm:sgC 40:=⟨Zid,rfl⟩
theorem Z2d:sgC 41:=⟨Zdv,rfl⟩
theorem Zi0:sgC 44:=⟨Zdw,rfl⟩
theorem Z7b:sgC 60:=⟨Zvq,rfl⟩
theorem Z7c:sgC 43:=⟨Zvs,rfl⟩
theorem Zd7:sgC 45:=⟨Zp5,rfl⟩
theorem Zyd:sgC 42:=⟨Z3y,rfl⟩
theorem Z7d:sgC 59:=⟨Zvr,rfl⟩
theorem Yda:sgC 125:=⟨Z9w,rfl⟩
theorem Zfn {ws:List (List Nat)} {c:Nat} {s:List Nat} {p:Nat} {ts:List Tok} (h:AllW ws) (hc:isLD (c:Int)=false) (h2:LxT (c::s) (p+(Zj ws).length) ts):LxT (Zj ws++c::s) p (TS ws++ts):=
 Z4p (Z7a h) (.inr fun d hd=>by cases hd;exact hc) h2
theorem Ybl {w:List Nat} {c:Nat} {s:List Nat} {p:Nat} {ts:List Tok} (h:TokW w) (hc:isLD (c:Int)=false) (h2:LxT (c::s) (p+w.length) ts):LxT (w++c::s) p (tkS w::ts):=
 Z4o h (.inr fun d hd=>by cases hd;exact hc) h2
def Wd (x:Ex):Tar:=⟨[97],1,[⟨[98],[],x⟩]⟩
def preW:List (List Nat):= [Zc1,[97],sFor,[104,105,114,101],sLb,Y5,[98],sPay]
theorem Z2e (x:Ex):Zar (Wd x)=preW++(txX x++ [Yx,sRb]):=by
 unfold Zar Wd
 simp only [txCs,txC,txTs]
 have:WK.ki.words.getD ((1:Int)-1).toNat []= [104,105,114,101]:=rfl
 rw [this]
 simp [preW]
theorem Z2f:AllW preW:=by
 intro w hw
 simp only [preW,List.mem_cons,List.not_mem_nil,or_false] at hw
 rcases hw with h|h|h|h|h|h|h|h
 · exact h▸Zkj
 · subst h;exact Wv rfl
 · exact h▸Z31
 · subst h;exact Wv rfl
 · exact h▸Z9v
 · exact h▸Zkk
 · subst h;exact Wv rfl
 · exact h▸Z30
theorem one_check {x:Ex}:Xb (Wd x)=0↔Z2 x=true/\Zn x<=24:=by
 rw [Wt]
 unfold Wd
 dsimp only
 constructor
 · rintro ⟨-,-,-,-,-,h,-,-,-,h2,-⟩
   exact ⟨(Zbf h).2.1,h2⟩
 · rintro ⟨h1,h2⟩
   refine ⟨rfl,by decide,by decide,rfl,(by simp),?_,rfl,by simp,by simp,h2,trivial⟩
   unfold Wa
   rw [h1]
   rfl
theorem Z2g {M:List Tok} {y:Ex} {e:Int} (hM:pX (M++ [tkS Yx,tkS sRb]) e= .ok (y,[tkS Yx,tkS sRb],e,())) (hn:Zn y<=24):pTar (TS preW++(M++ [tkS Yx,tkS sRb])) e= .ok (Wd y,[],e,()):=by
 have e1:TS preW++(M++ [tkS Yx,tkS sRb])=tkS Zc1::tkS [97]::tkS sFor::tkS (WK.ki.words.getD 0 [])::tkS sLb::tkS Y5::tkS [98]::tkS sPay::(M++ [tkS Yx,tkS sRb]):=rfl
 rw [e1]
 unfold pTar
 rw [if_pos (show isW [116,97,114,105,102,102] (tkS Zc1::_)=true from rfl),List.tail_cons,Zlc rfl rfl]
 dsimp only
 rw [if_pos (show isW [102,111,114] (tkS sFor::_)=true from rfl),List.tail_cons]
 unfold Ym
 rw [Zfe (by decide),if_pos (by omega)]
 dsimp only
 rw [List.tail_cons,if_pos (show isW [123] (tkS sLb::_)=true from rfl),List.tail_cons]
 have h0:wr .i64 (1+((0:Nat):Int))=1:=by decide
 rw [h0]
 have h1:Yb [] (tkS [98]::tkS sPay::(M++ [tkS Yx,tkS sRb])) e= .ok (⟨[98],[],y⟩,[tkS sRb],e,()):=by
  unfold Yb
  rw [Zlc rfl rfl]
  dsimp only
  rw [if_neg (by simp),show isW [119,104,101,110] (tkS sPay::(M++ [tkS Yx,tkS sRb]))=false from rfl,Zqu]
  unfold pAft pPay
  dsimp only
  rw [if_neg Bool.false_ne_true,if_pos (show isW [112,97,121] (tkS sPay::_)=true from rfl),List.tail_cons,hM]
  dsimp only
  rw [if_neg (by omega),if_pos (show isW [59] [tkS Yx,tkS sRb]=true from rfl)]
  rfl
 have h2:∀k,pCls (k+2) [] (tkS Y5::tkS [98]::tkS sPay::(M++ [tkS Yx,tkS sRb])) e= .ok ([⟨[98],[],y⟩],[tkS sRb],e,()):=by
  intro k
  unfold pCls
  rw [if_pos (show isW [99,108,97,117,115,101] (tkS Y5::_)=true from rfl),if_neg (by simp),List.tail_cons,h1]
  dsimp only
  unfold pCls
  rw [if_neg (show ¬isW [99,108,97,117,115,101] [tkS sRb]=true from (by decide))]
  rfl
 have h3:(tkS Y5::tkS [98]::tkS sPay::(M++ [tkS Yx,tkS sRb])).length+1=(M.length+4)+2:=by simp
 rw [h3,h2]
 unfold pEnd
 dsimp only
 rw [if_pos (show isW [125] [tkS sRb]=true from rfl),if_neg (by simp)]
 rfl
def headB:List Nat:=Zca preW
theorem Z7e {s:List Nat} {M:List Tok} {y:Ex} (hs:∀p,LxT (s++ [59,32,125]) p (M++ [tkS Yx,tkS sRb])) (hM:∀r e,Fl2 r->pX (M++r) e= .ok (y,r,e,())) (hn:Zn y<=24) (hl:s.length<=1900):Yd (headB++(s++ [59,32,125]))=(Wd y,0,0):=by
 refine Z2c (e:=0) (Z4p (Z2b Z2f) (Yc9 _) (hs _)) ?_ (Z2g (hM _ 0 (Z25 _)) hn)
 have:(Zca preW).length=33:=by decide
 simp only [headB,List.length_append,this,List.length_cons,List.length_nil]
 omega
theorem Ybm (p:Nat):LxT [59,32,125] p [tkS Yx,tkS sRb]:=Zas Z7d (Z2a rfl (Zas Yda (Ybk _)))
theorem Z4q {l r:List Tok} {e:Int} {x:Ex} (h:pf l e= .ok (x,r,e,())) (hr:Fl2 r):pX l e= .ok (x,r,e,()):=by
 rw [Zfy,Zcn h,Zhd hr.1.2,Zjf,if_pos rfl]
 dsimp only
 rw [Zfz hr,Zcl,if_pos rfl]
theorem Zdo {l r:List Tok} {e:Int} {x:Ex} (h:pf l e= .ok (x,r,e,())) (hr:isW sMul r=false):pt l e= .ok (x,r,e,()):=by
 rw [Zcn h,Zhd hr,Zjf,if_pos rfl]
theorem Zye (r:List Tok):op1 (tkS sMul::r)=(5,r):=rfl
theorem Z2h (r:List Tok):op2 (tkS Vo::r)=(3,r):=rfl
theorem Zcb (r:List Tok):op2 (tkS Z8::r)=(4,r):=rfl
def PG (x:Ex):List Tok:=tkS Z7::(TS (txX x)++ [tkS Zi])
theorem U2 {x:Ex} (h:Rdb x) (r:List Tok) (e:Int):pf (PG x++r) e= .ok (x,r,e,()):=by
 have:PG x++r=tkS Z7::(TS (txX x)++tkS Zi::r):=by simp [PG]
 rw [this]
 exact Zf1 (h.all (Ww r) e)
def twoX (op:Int) (x y:Ex):Ex:= .mk op 0 0 0 0 0 [x,y]
theorem Zq1 (op:Int) (x y:Ex):Zn (twoX op x y)=max (Zn x) (Zn y)+1:=by
 unfold twoX
 simp [Zn,Uh]
variable {x y : Ex}
theorem Ydb (hx:Rdb x) (r:List Tok) (e:Int) (hr:Fl2 r):pX ((tkS Z7::(PG x++ [tkS Zi]))++r) e= .ok (x,r,e,()):=by
 have:(tkS Z7::(PG x++ [tkS Zi]))++r=tkS Z7::(PG x++tkS Zi::r):=by simp
 rw [this]
 exact Z4q (Zf1 (Z4q (U2 hx _ e) (Ww r))) hr
theorem Ydc (hx:Rdb x) (hy:Rdb y) (r:List Tok) (e:Int) (hr:Fl2 r):pX ((PG x++tkS Vo::(PG y++tkS Z8::PG x))++r) e= .ok (twoX 4 (twoX 3 x y) x,r,e,()):=by
 have:(PG x++tkS Vo::(PG y++tkS Z8::PG x))++r=PG x++(tkS Vo::(PG y++(tkS Z8::(PG x++r)))):=by simp
 rw [this,Zfy,Zdo (U2 hx _ e) rfl]
 dsimp only
 rw [Z2h,Zcl,if_neg (by simp),Zdo (U2 hy _ e) rfl]
 dsimp only
 rw [Zcb,Zcl,if_neg (by simp),Zdo (U2 hx _ e) hr.1.2]
 dsimp only
 rw [Zfz hr,Zcl,if_pos rfl]
 rfl
theorem Ybn (hx:Rdb x) (hy:Rdb y) (r:List Tok) (e:Int):pt (PG x++tkS sMul::(PG y++r)) e=pRx op1 pf (twoX 5 x y) (op1 r).1 (op1 r).2 e:=by
 rw [Zcn (U2 hx _ e),Zye,Zjf,if_neg (by simp),U2 hy _ e]
 rfl
theorem Ydd (hx:Rdb x) (hy:Rdb y) (r:List Tok) (e:Int) (hr:Fl2 r):pX ((PG x++tkS sMul::(PG y++tkS sMul::PG x))++r) e= .ok (twoX 5 (twoX 5 x y) x,r,e,()):=by
 have:(PG x++tkS sMul::(PG y++tkS sMul::PG x))++r=PG x++(tkS sMul::(PG y++(tkS sMul::(PG x++r)))):=by simp
 rw [this,Zfy,Ybn hx hy,Zye,Zjf,if_neg (by simp),U2 hx _ e]
 dsimp only
 rw [Zhd hr.1.2,Zjf,if_pos rfl]
 dsimp only
 rw [Zfz hr,Zcl,if_pos rfl]
 rfl
theorem Yde (hx:Rdb x) (hy:Rdb y) (r:List Tok) (e:Int) (hr:Fl2 r):pX ((PG x++tkS Z8::(PG y++tkS sMul::PG x))++r) e= .ok (twoX 4 x (twoX 5 y x),r,e,()):=by
 have:(PG x++tkS Z8::(PG y++tkS sMul::PG x))++r=PG x++(tkS Z8::(PG y++(tkS sMul::(PG x++r)))):=by simp
 rw [this,Zfy,Zdo (U2 hx _ e) rfl]
 dsimp only
 rw [Zcb,Zcl,if_neg (by simp),Ybn hy hx,Zhd hr.1.2,Zjf,if_pos rfl]
 dsimp only
 rw [Zfz hr,Zcl,if_pos rfl]
 rfl
theorem Ydf (hx:Rdb x) (hy:Rdb y) (r:List Tok) (e:Int) (hr:Fl2 r):pX ((PG x++tkS Z8::tkS Z7::(PG x++tkS Z8::(PG y++ [tkS Zi])))++r) e= .ok (twoX 4 x (twoX 4 x y),r,e,()):=by
 have:(PG x++tkS Z8::tkS Z7::(PG x++tkS Z8::(PG y++ [tkS Zi])))++r=PG x++(tkS Z8::tkS Z7::(PG x++(tkS Z8::(PG y++tkS Zi::r)))):=by simp
 have h1:pX (PG x++(tkS Z8::(PG y++tkS Zi::r))) e= .ok (twoX 4 x y,tkS Zi::r,e,()):=by
  rw [Zfy,Zdo (U2 hx _ e) rfl]
  dsimp only
  rw [Zcb,Zcl,if_neg (by simp),Zdo (U2 hy _ e) rfl]
  dsimp only
  rw [Zfz (Ww r),Zcl,if_pos rfl]
  rfl
 rw [this,Zfy,Zdo (U2 hx _ e) rfl]
 dsimp only
 rw [Zcb,Zcl,if_neg (by simp),Zdo (Zf1 h1) hr.1.2]
 dsimp only
 rw [Zfz hr,Zcl,if_pos rfl]
 rfl
end
section
open Go
noncomputable def Snr:Sum thy:=Vn dExp (fun x=>x.1.sz<1000000000000) (fun x=>(Zn x.1:Int)) fun y=> .int false .i64 y
noncomputable def Fgr:Fns thy:=addS (addS Flw 20 (Sszw 61)) 21 Snr
theorem Zvy:FnsOk E Fgr:=Zb (Zb Z9k (Z5 E_ok (Zc (f:=20) rfl) fun x h=>Zzc 61 x.2.1 x.1 h.1 h.2.1 h.2.2)) (Z5 E_ok (Zc rfl) fun x h=>Yb5 1000000000000 x.1 (Nat.le_of_lt h) (Nat.le_refl _))
theorem Z0p (x:Ex) (a:List Nat) (b:Bool):Zm E Fgr (vc E Fgr 400) 22 [exA x] hp0 0 (fun r=>ret E (patch hp0 0 r) r.v (.tup [.str false a,.bool false b]))=(
((∀(c:Cls),c∈ [Cls.mk [(98:Nat)] [] (Ex.mk (Ex.op x) (Ex.n x) (Ex.d0 x) (Ex.d1 x) (Ex.d2 x) (Ex.d3 x) (Ex.l x))]->Ex.sz (Cls.pay c)<=(10000:Nat)/\List.length (Cls.when_ c)+(1:Nat)<=(1000000000:Nat))/\(1:Nat)+(1:Nat)<=(1000000000:Nat))/\∀(y:List Nat×Int),y=Y9 (Tar.mk [(97:Nat)] (1:Int) [Cls.mk [(98:Nat)] [] (Ex.mk (Ex.op x) (Ex.n x) (Ex.d0 x) (Ex.d1 x) (Ex.d2 x) (Ex.d3 x) (Ex.l x))])->∃(Q:Bool->Prop),(((Prod.snd y !=(0:Int))=true->Q true)/\((Prod.snd y !=(0:Int))=false->(decide (wr IntKind.i64 ((↑(List.length (Prod.fst y)):Int)-(4:Int))<(33:Int))=true->Q true)/\(decide (wr IntKind.i64 ((↑(List.length (Prod.fst y)):Int)-(4:Int))<(33:Int))=false->Q false)))/\(Q true-> []=a/\false=b/\True)/\(Q false->((0:Int)<=(33:Int)/\(33:Int)<=wr IntKind.i64 ((↑(List.length (Prod.fst y)):Int)-(4:Int))/\wr IntKind.i64 ((↑(List.length (Prod.fst y)):Int)-(4:Int))<=(↑(List.length (Prod.fst y)):Int))/\List.drop (Int.toNat (33:Int)) (List.take (Int.toNat (wr IntKind.i64 ((↑(List.length (Prod.fst y)):Int)-(4:Int)))) (Prod.fst y))=a/\true=b/\True)):=by kernel_rfl
abbrev qCR2:=(32:UInt8)
abbrev qCR1:=(ByteArray.mk #[(116:UInt8),(97:UInt8),(114:UInt8),(105:UInt8),(102:UInt8),(102:UInt8),qCR2,(97:UInt8),qCR2,(102:UInt8),(111:UInt8),(114:UInt8),qCR2,(104:UInt8),(105:UInt8),(114:UInt8),(101:UInt8),qCR2,(123:UInt8),qCR2,(99:UInt8),(108:UInt8),(97:UInt8),(117:UInt8),(115:UInt8),(101:UInt8),qCR2,(98:UInt8),qCR2,(112:UInt8),(97:UInt8),(121:UInt8),qCR2])
abbrev qCR3:=(ByteArray.mk #[(59:UInt8),qCR2,(125:UInt8)])
theorem Zvz (s:List Nat) (x:Ex) (b:Bool):Zm E Fgr (vc E Fgr 400) 23 [.str false s,exA x] hp0 0 (fun r=>ret E (patch hp0 0 r) r.v (.bool false b))=(
 List.length (toL qCR1)+List.length s<=(9223372036854775807:Nat)/\List.length (toL qCR1++s)+List.length (toL qCR3)<=(9223372036854775807:Nat)/\True/\∀(y:Tar×Int×Int),y=Yd (toL qCR1++s++toL qCR3)->((Prod.snd (Prod.snd y)==(0:Int))=true->((Prod.fst (Prod.snd y)==(0:Int))=true->((∀(c:Cls),c∈Tar.clauses (Prod.fst y)->Ex.sz (Cls.pay c)+(1:Nat)<=(1000000000:Nat)/\List.length (Cls.when_ c)+(1:Nat)<=(1000000000:Nat))/\List.length (Tar.clauses (Prod.fst y))+(1:Nat)<=(1000000000:Nat))/\∀(y_1:Bool),y_1=eqE (Prod.fst y) (Tar.mk [(97:Nat)] (1:Int) [Cls.mk [(98:Nat)] [] (Ex.mk (Ex.op x) (Ex.n x) (Ex.d0 x) (Ex.d1 x) (Ex.d2 x) (Ex.d3 x) (Ex.l x))])->y_1=b)/\((Prod.fst (Prod.snd y)==(0:Int))=false->false=b))/\((Prod.snd (Prod.snd y)==(0:Int))=false->false=b)):=by kernel_rfl
open Classical in
noncomputable def srcF (x:Ex):List Nat×Bool:=if (Y9 (Wd x)).2=0 then (Zj (txX x),true) else ([],false)
def headL:List Nat:= [116,97,114,105,102,102,32,97,32,102,111,114,32,104,105,114,101,32,123,32,99,108,97,117,115,101,32,98,32,112,97,121,32]
theorem Zie:headB=headL:=by decide
noncomputable def Za9 (s:List Nat) (x:Ex):Bool:=decide ((Yd (headB++(s++ [59,32,125]))).2.2=0)&&decide ((Yd (headB++(s++ [59,32,125]))).2.1=0)&&eqE (Yd (headB++(s++ [59,32,125]))).1 (Wd x)
noncomputable def dSEx:DcL E (List Nat×Ex×Unit):= .cons dS (.cons (dR .exprs) .nil)
noncomputable def Ssrc:Sum thy:=Zl7 E (fun _=>none) 10 dExp (fun x=>x.1.sz<=10000) (fun x=>srcF x.1) fun y=> .tup [.str false y.1,.bool false y.2]
noncomputable def Ycs:Sum thy:=Zl7 E (fun _=>none) 10 dSEx (fun x=>x.1.length<=1000000000) (fun x=>Za9 x.1 x.2.1) fun y=> .bool false y
noncomputable def Fgl:Fns thy:=addS (addS Fgr 22 Ssrc) 23 Ycs
abbrev qCR7:=(ByteArray.mk #[(40:UInt8)])
abbrev qCR5:=(ByteArray.mk #[(41:UInt8)])
abbrev qCR4 (a0:List Nat×Bool):=(toL qCR7++Prod.fst a0++toL qCR5)
abbrev qCR6:=(9223372036854775807:Nat)
abbrev qCR8 (a0:Ex):=(Ex.mk (Ex.op a0) (Ex.n a0) (Ex.d0 a0) (Ex.d1 a0) (Ex.d2 a0) (Ex.d3 a0) (Ex.l a0))
abbrev qCR9:=(ByteArray.mk #[(105:UInt8),(102:UInt8),(40:UInt8)])
abbrev qCRa:=(ByteArray.mk #[(44:UInt8)])
abbrev qCRb:=(ByteArray.mk #[(45:UInt8)])
abbrev qCRc:=(ByteArray.mk #[(109:UInt8),(97:UInt8),(120:UInt8),(40:UInt8)])
abbrev qCRd:=(ByteArray.mk #[(42:UInt8)])
abbrev qCRe:=(0:Int)
abbrev qCRf:=(ByteArray.mk #[(45:UInt8),(40:UInt8)])
abbrev qCRg:=(ByteArray.mk #[(60:UInt8)])
abbrev qCRh:=(ByteArray.mk #[(43:UInt8)])
abbrev qCRi:=(ByteArray.mk #[(40:UInt8),(40:UInt8)])
abbrev qCRj (a0:List Nat×Bool):=((↑(List.length (Prod.fst a0)):Int)>(450:Int))
abbrev qCRk:=((62:Int)<=(1:Int)+(↑(61:Nat):Int)/\(1:Int)<=(1:Int)/\(1:Int)<=(61:Int))
abbrev qCRl:=(1000000000:Nat)
abbrev qCRm:=(ByteArray.mk #[(41:UInt8),(41:UInt8)])
abbrev qCRn (a0:List Nat×Bool) (b0:List Nat×Bool):=(toL qCR9++Prod.fst a0++toL qCRg++Prod.fst b0++toL qCRa++Prod.fst b0++toL qCRa++Prod.fst a0++toL qCR5)
theorem Z57 (x y:Ex) (b:Bool):Zm E Fgl (vc E Fgl 400) 6 [exA x,exA y] hp0 0 (fun r=>ret E (patch hp0 0 r) r.v (.bool false b))=(
 qCRk/\∀(y_1:Int),y_1=szW (1:Int) (qCR8 x)->(decide (y_1>(400:Int))=true->true=b)/\(decide (y_1>(400:Int))=false->qCRk/\∀(y_2:Int),y_2=szW (1:Int) (qCR8 y)->(decide (y_2>(400:Int))=true->true=b)/\(decide (y_2>(400:Int))=false->Ex.sz (qCR8 x)+(1:Nat)<=(1000000000000:Nat)/\∀(y_3:Int),y_3=(↑(Zn (qCR8 x)):Int)->(decide (y_3>(20:Int))=true->true=b)/\(decide (y_3>(20:Int))=false->Ex.sz (qCR8 y)+(1:Nat)<=(1000000000000:Nat)/\∀(y_4:Int),y_4=(↑(Zn (qCR8 y)):Int)->(decide (y_4>(20:Int))=true->true=b)/\(decide (y_4>(20:Int))=false->Ex.sz (qCR8 x)<=(10000:Nat)/\∀(y_5:List Nat×Bool),y_5=srcF (qCR8 x)->Ex.sz (qCR8 y)<=(10000:Nat)/\∀(y_6:List Nat×Bool),y_6=srcF (qCR8 y)->∃(Q:Bool->Prop),(((!Prod.snd y_5)=true->Q true)/\((!Prod.snd y_5)=false->((!Prod.snd y_6)=true->Q true)/\((!Prod.snd y_6)=false->(decide (qCRj y_5)=true->Q true)/\(decide (qCRj y_5)=false->(decide (qCRj y_6)=true->Q true)/\(decide (qCRj y_6)=false->Q false)))))/\(Q true->true=b)/\(Q false->List.length (toL qCR7)+List.length (Prod.fst y_5)<=qCR6/\List.length (toL qCR7++Prod.fst y_5)+List.length (toL qCR5)<=qCR6/\List.length (toL qCR7)+List.length (Prod.fst y_6)<=qCR6/\List.length (toL qCR7++Prod.fst y_6)+List.length (toL qCR5)<=qCR6/\List.length (toL qCRi)+List.length (Prod.fst y_5)<=qCR6/\List.length (toL qCRi++Prod.fst y_5)+List.length (toL qCRm)<=qCR6/\List.length (toL qCRi++Prod.fst y_5++toL qCRm)<=qCRl/\∀(y_7:Bool),y_7=Za9 (toL qCRi++Prod.fst y_5++toL qCRm) (qCR8 x)->((!y_7)=true->false=b)/\((!y_7)=false->List.length (qCR4 y_5)+List.length (toL qCRh)<=qCR6/\List.length (toL qCR7++Prod.fst y_5++toL qCR5++toL qCRh)+List.length (qCR4 y_6)<=qCR6/\List.length (toL qCR7++Prod.fst y_5++toL qCR5++toL qCRh++(qCR4 y_6))+List.length (toL qCRb)<=qCR6/\List.length (toL qCR7++Prod.fst y_5++toL qCR5++toL qCRh++(qCR4 y_6)++toL qCRb)+List.length (qCR4 y_5)<=qCR6/\List.length (toL qCR7++Prod.fst y_5++toL qCR5++toL qCRh++(qCR4 y_6)++toL qCRb++(qCR4 y_5))<=qCRl/\∀(y_8:Bool),y_8=Za9 (toL qCR7++Prod.fst y_5++toL qCR5++toL qCRh++(qCR4 y_6)++toL qCRb++(qCR4 y_5)) (Ex.mk (4:Int) qCRe qCRe qCRe qCRe qCRe [Ex.mk (3:Int) qCRe qCRe qCRe qCRe qCRe [Ex.mk (Ex.op x) (Ex.n x) (Ex.d0 x) (Ex.d1 x) (Ex.d2 x) (Ex.d3 x) (Ex.l x),Ex.mk (Ex.op y) (Ex.n y) (Ex.d0 y) (Ex.d1 y) (Ex.d2 y) (Ex.d3 y) (Ex.l y)],Ex.mk (Ex.op x) (Ex.n x) (Ex.d0 x) (Ex.d1 x) (Ex.d2 x) (Ex.d3 x) (Ex.l x)])->((!y_8)=true->false=b)/\((!y_8)=false->List.length (qCR4 y_5)+List.length (toL qCRd)<=qCR6/\List.length (toL qCR7++Prod.fst y_5++toL qCR5++toL qCRd)+List.length (qCR4 y_6)<=qCR6/\List.length (toL qCR7++Prod.fst y_5++toL qCR5++toL qCRd++(qCR4 y_6))+List.length (toL qCRd)<=qCR6/\List.length (toL qCR7++Prod.fst y_5++toL qCR5++toL qCRd++(qCR4 y_6)++toL qCRd)+List.length (qCR4 y_5)<=qCR6/\List.length (toL qCR7++Prod.fst y_5++toL qCR5++toL qCRd++(qCR4 y_6)++toL qCRd++(qCR4 y_5))<=qCRl/\∀(y_9:Bool),y_9=Za9 (toL qCR7++Prod.fst y_5++toL qCR5++toL qCRd++(qCR4 y_6)++toL qCRd++(qCR4 y_5)) (Ex.mk (5:Int) qCRe qCRe qCRe qCRe qCRe [Ex.mk (5:Int) qCRe qCRe qCRe qCRe qCRe [Ex.mk (Ex.op x) (Ex.n x) (Ex.d0 x) (Ex.d1 x) (Ex.d2 x) (Ex.d3 x) (Ex.l x),Ex.mk (Ex.op y) (Ex.n y) (Ex.d0 y) (Ex.d1 y) (Ex.d2 y) (Ex.d3 y) (Ex.l y)],Ex.mk (Ex.op x) (Ex.n x) (Ex.d0 x) (Ex.d1 x) (Ex.d2 x) (Ex.d3 x) (Ex.l x)])->((!y_9)=true->false=b)/\((!y_9)=false->List.length (qCR4 y_5)+List.length (toL qCRb)<=qCR6/\List.length (toL qCR7++Prod.fst y_5++toL qCR5++toL qCRb)+List.length (qCR4 y_6)<=qCR6/\List.length (toL qCR7++Prod.fst y_5++toL qCR5++toL qCRb++(qCR4 y_6))+List.length (toL qCRd)<=qCR6/\List.length (toL qCR7++Prod.fst
y_5++toL qCR5++toL qCRb++(qCR4 y_6)++toL qCRd)+List.length (qCR4 y_5)<=qCR6/\List.length (toL qCR7++Prod.fst y_5++toL qCR5++toL qCRb++(qCR4 y_6)++toL qCRd++(qCR4 y_5))<=qCRl/\∀(y_10:Bool),y_10=Za9 (toL qCR7++Prod.fst y_5++toL qCR5++toL qCRb++(qCR4 y_6)++toL qCRd++(qCR4 y_5)) (Ex.mk (4:Int) qCRe qCRe qCRe qCRe qCRe [Ex.mk (Ex.op x) (Ex.n x) (Ex.d0 x) (Ex.d1 x) (Ex.d2 x) (Ex.d3 x) (Ex.l x),Ex.mk (5:Int) qCRe qCRe qCRe qCRe qCRe [Ex.mk (Ex.op y) (Ex.n y) (Ex.d0 y) (Ex.d1 y) (Ex.d2 y) (Ex.d3 y) (Ex.l y),Ex.mk (Ex.op x) (Ex.n x) (Ex.d0 x) (Ex.d1 x) (Ex.d2 x) (Ex.d3 x) (Ex.l x)]])->((!y_10)=true->false=b)/\((!y_10)=false->List.length (qCR4 y_5)+List.length (toL qCRf)<=qCR6/\List.length (toL qCR7++Prod.fst y_5++toL qCR5++toL qCRf)+List.length (qCR4 y_5)<=qCR6/\List.length (toL qCR7++Prod.fst y_5++toL qCR5++toL qCRf++(qCR4 y_5))+List.length (toL qCRb)<=qCR6/\List.length (toL qCR7++Prod.fst y_5++toL qCR5++toL qCRf++(qCR4 y_5)++toL qCRb)+List.length (qCR4 y_6)<=qCR6/\List.length (toL qCR7++Prod.fst y_5++toL qCR5++toL qCRf++(qCR4 y_5)++toL qCRb++(qCR4 y_6))+List.length (toL qCR5)<=qCR6/\List.length (toL qCR7++Prod.fst y_5++toL qCR5++toL qCRf++(qCR4 y_5)++toL qCRb++(qCR4 y_6)++toL qCR5)<=qCRl/\∀(y_11:Bool),y_11=Za9 (toL qCR7++Prod.fst y_5++toL qCR5++toL qCRf++(qCR4 y_5)++toL qCRb++(qCR4 y_6)++toL qCR5) (Ex.mk (4:Int) qCRe qCRe qCRe qCRe qCRe [Ex.mk (Ex.op x) (Ex.n x) (Ex.d0 x) (Ex.d1 x) (Ex.d2 x) (Ex.d3 x) (Ex.l x),Ex.mk (4:Int) qCRe qCRe qCRe qCRe qCRe [Ex.mk (Ex.op x) (Ex.n x) (Ex.d0 x) (Ex.d1 x) (Ex.d2 x) (Ex.d3 x) (Ex.l x),Ex.mk (Ex.op y) (Ex.n y) (Ex.d0 y) (Ex.d1 y) (Ex.d2 y) (Ex.d3 y) (Ex.l y)]])->((!y_11)=true->false=b)/\((!y_11)=false->List.length (toL qCRc)+List.length (Prod.fst y_5)<=qCR6/\List.length (toL qCRc++Prod.fst y_5)+List.length (toL qCRa)<=qCR6/\List.length (toL qCRc++Prod.fst y_5++toL qCRa)+List.length (Prod.fst y_6)<=qCR6/\List.length (toL qCRc++Prod.fst y_5++toL qCRa++Prod.fst y_6)+List.length (toL qCR5)<=qCR6/\List.length (toL qCRc++Prod.fst y_5++toL qCRa++Prod.fst y_6++toL qCR5)<=qCRl/\∀(y_12:Bool),y_12=Za9 (toL qCRc++Prod.fst y_5++toL qCRa++Prod.fst y_6++toL qCR5) (Ex.mk (7:Int) qCRe qCRe qCRe qCRe qCRe [Ex.mk (Ex.op x) (Ex.n x) (Ex.d0 x) (Ex.d1 x) (Ex.d2 x) (Ex.d3 x) (Ex.l x),Ex.mk (Ex.op y) (Ex.n y) (Ex.d0 y) (Ex.d1 y) (Ex.d2 y) (Ex.d3 y) (Ex.l y)])->(y_12=true->List.length (toL qCR9)+List.length (Prod.fst y_5)<=qCR6/\List.length (toL qCR9++Prod.fst y_5)+List.length (toL qCRg)<=qCR6/\List.length (toL qCR9++Prod.fst y_5++toL qCRg)+List.length (Prod.fst y_6)<=qCR6/\List.length (toL qCR9++Prod.fst y_5++toL qCRg++Prod.fst y_6)+List.length (toL qCRa)<=qCR6/\List.length (toL qCR9++Prod.fst y_5++toL qCRg++Prod.fst y_6++toL qCRa)+List.length (Prod.fst y_6)<=qCR6/\List.length (toL qCR9++Prod.fst y_5++toL qCRg++Prod.fst y_6++toL qCRa++Prod.fst y_6)+List.length (toL qCRa)<=qCR6/\List.length (toL qCR9++Prod.fst y_5++toL qCRg++Prod.fst y_6++toL qCRa++Prod.fst y_6++toL qCRa)+List.length (Prod.fst y_5)<=qCR6/\List.length (toL qCR9++Prod.fst y_5++toL qCRg++Prod.fst y_6++toL qCRa++Prod.fst y_6++toL qCRa++Prod.fst y_5)+List.length (toL qCR5)<=qCR6/\List.length (qCRn y_5 y_6)<=qCRl/\∀(y_13:Bool),y_13=Za9 (qCRn y_5 y_6) (Ex.mk (11:Int) qCRe qCRe qCRe qCRe qCRe [Ex.mk (Ex.op x) (Ex.n x) (Ex.d0 x) (Ex.d1 x) (Ex.d2 x) (Ex.d3 x) (Ex.l x),Ex.mk (Ex.op y) (Ex.n y) (Ex.d0 y) (Ex.d1 y) (Ex.d2 y) (Ex.d3 y) (Ex.l y),Ex.mk (Ex.op y) (Ex.n y) (Ex.d0 y) (Ex.d1 y) (Ex.d2 y) (Ex.d3 y) (Ex.l y),Ex.mk (Ex.op x) (Ex.n x) (Ex.d0 x) (Ex.d1 x) (Ex.d2 x) (Ex.d3 x) (Ex.l x)])->y_13=b)/\(y_12=false->false=b)))))))))))):=by kernel_rfl
theorem Zez:∀{a b:List (List Nat)},b≠ []->Zj (a++b)=Zca a++Zj b
 | [],b,h=>rfl
 |w::a,b,h=>by
  rw [List.cons_append,Zal (by simp [h]),Zez h,Zcu]
  simp
theorem Zv0:∀{a:List (List Nat)},a≠ []->Zca a=Zj a++ [32]
 | [w],_=>by simp [Zca,Zj]
 |w::x::r,_=>by
  rw [Zcu,Zv0 (a:=x::r) (List.cons_ne_nil _ _),Zal (List.cons_ne_nil _ _)]
  simp
theorem Z92 (x:Ex):txX x≠ []:=by
 rw [Zx2]
 unfold txN
 split
 · simp
 · split
   · simp
   · split
     · simp
     · split<;>simp
theorem Z58 (x:Ex):Zj (Zar (Wd x))=headL++(Zj (txX x)++ [32,59,32,125]):=by
 rw [Z2e,Zez (by simp),Zez (by simp [Yx]),Zv0 (Z92 x)]
 have:Zca preW=headL:=Zie
 rw [this]
 have:Zj [Yx,sRb]= [59,32,125]:=rfl
 rw [this]
 simp
theorem Z59 {x:Ex} (h:x.sz<=10000):SmT (Wd x):=by
 refine And.intro (fun c hc=> ?_) ?_
 · have:c=⟨[98],[],x⟩:=by simpa [Wd] using hc
   subst this
   exact And.intro h (show 0<1000000000 by decide)
 · show 1<1000000000
   decide
theorem Z0q (x:Ex) (h:x.sz<=10000):PureC E 22 [exA x] (.tup [.str false (srcF x).1,.bool false (srcF x).2]):=by
 refine Za E_ok (Zg E_ok Zvy 400) ?_
 rw [Z0p]
 simp only [Z9,Zx,Xf,Xg,Xh,beq_iff_eq,bne_iff_ne,beq_eq_false_iff_ne,bne_eq_false_iff_eq,decide_eq_true_eq,decide_eq_false_iff_not,Bool.or_eq_true,Bool.or_eq_false_iff,Bool.not_eq_true',Bool.not_eq_false',Bool.and_eq_true,Bool.and_true,Bool.true_and,Bool.and_eq_false_iff,beq_self_eq_true,Yq,Yg,ne_eq,and_true,true_and,Bool.true_eq_false,Bool.false_eq_true,false_or,or_false,true_implies,imp_self,Int.ofNat_eq_natCast,not_true_eq_false,not_false_eq_true,Decidable.not_not,Ex.eta,forall_eq]
 refine ⟨Z59 h,?_⟩
 show ∃Q:Bool->Prop,((¬(Y9 (Wd x)).2=0->Q true)/\((Y9 (Wd x)).2=0->(wr IntKind.i64 (((Y9 (Wd x)).1.length:Int)-4)<33->Q true)/\(¬wr IntKind.i64 (((Y9 (Wd x)).1.length:Int)-4)<33->Q false)))/\(Q true-> []=(srcF x).1/\false=(srcF x).2)/\(Q false->((0:Int)<=33/\33<=wr IntKind.i64 (((Y9 (Wd x)).1.length:Int)-4)/\wr IntKind.i64 (((Y9 (Wd x)).1.length:Int)-4)<=((Y9 (Wd x)).1.length:Int))/\List.drop (Int.toNat 33) (List.take (Int.toNat (wr IntKind.i64 (((Y9 (Wd x)).1.length:Int)-4))) (Y9 (Wd x)).1)=(srcF x).1/\true=(srcF x).2)
 unfold srcF
 by_cases h0:(Y9 (Wd x)).2=0
 · obtain ⟨hc,hl,hp⟩:=Zkm h0
   rw [if_pos h0,hp]
   dsimp only
   have hs:=Z58 x
   have hlen:=congrArg List.length hs
   simp only [List.length_append,List.length_cons,List.length_nil] at hlen
   have h33:headL.length=33:=by decide
   have hw:wr IntKind.i64 (((Zj (Zar (Wd x))).length:Int)-4)=((Zj (Zar (Wd x))).length:Int)-4:=wr64 (by omega) (by omega)
   rw [hw]
   refine ⟨fun b=>b=false,⟨fun h=>absurd rfl h,fun _=>⟨fun h=>by omega,fun _=>rfl⟩⟩,fun h=>by simp at h,fun _=>⟨⟨by decide,by omega,by omega⟩,?_,rfl⟩⟩
   have e1:(((Zj (Zar (Wd x))).length:Int)-4).toNat=headL.length+(Zj (txX x)).length:=by omega
   have e2:Int.toNat 33=headL.length:=by rw [h33];rfl
   rw [e1,e2,hs,<-List.append_assoc,<-List.length_append,List.take_left,List.drop_left]
 · rw [if_neg h0]
   exact ⟨fun b=>b=true,⟨fun _=>rfl,fun h=>absurd h h0⟩,fun _=>⟨rfl,rfl⟩,fun h=>by simp at h⟩
theorem Zv1 (s:List Nat) (x:Ex) (h:s.length<=1000000000):PureC E 23 [.str false s,exA x] (.bool false (Za9 s x)):=by
 refine Za E_ok (Zg E_ok Zvy 400) ?_
 rw [Zvz];delta qCR2 qCR1 qCR3
 have e:toL (ByteArray.mk #[(116:UInt8),(97:UInt8),(114:UInt8),(105:UInt8),(102:UInt8),(102:UInt8),(32:UInt8),(97:UInt8),(32:UInt8),(102:UInt8),(111:UInt8),(114:UInt8),(32:UInt8),(104:UInt8),(105:UInt8),(114:UInt8),(101:UInt8),(32:UInt8),(123:UInt8),(32:UInt8),(99:UInt8),(108:UInt8),(97:UInt8),(117:UInt8),(115:UInt8),(101:UInt8),(32:UInt8),(98:UInt8),(32:UInt8),(112:UInt8),(97:UInt8),(121:UInt8),(32:UInt8)])=headB:=by rw [Zie];rfl
 have e2:toL (ByteArray.mk #[(59:UInt8),(32:UInt8),(125:UInt8)])= [59,32,125]:=rfl
 have h33:headB.length=33:=by rw [Zie];decide
 rw [e,e2]
 simp only [Z9,Zx,Xf,Xg,Xh,beq_iff_eq,bne_iff_ne,beq_eq_false_iff_ne,bne_eq_false_iff_eq,decide_eq_true_eq,decide_eq_false_iff_not,Bool.or_eq_true,Bool.or_eq_false_iff,Bool.not_eq_true',Bool.not_eq_false',Bool.and_eq_true,Bool.and_true,Bool.true_and,Bool.and_eq_false_iff,beq_self_eq_true,Yq,Yg,ne_eq,and_true,true_and,Bool.true_eq_false,Bool.false_eq_true,false_or,or_false,true_implies,imp_self,Int.ofNat_eq_natCast,not_true_eq_false,not_false_eq_true,Decidable.not_not,Ex.eta,forall_eq,List.append_assoc]
 show _/\_/\((Yd (headB++(s++ [59,32,125]))).2.2=0->((Yd (headB++(s++ [59,32,125]))).2.1=0->SmT1 (Yd (headB++(s++ [59,32,125]))).1/\eqE (Yd (headB++(s++ [59,32,125]))).1 (Wd x)=Za9 s x)/\(¬(Yd (headB++(s++ [59,32,125]))).2.1=0->false=Za9 s x))/\(¬(Yd (headB++(s++ [59,32,125]))).2.2=0->false=Za9 s x)
 unfold Za9
 refine ⟨by rw [h33];omega,by rw [List.length_append,h33];simp;omega,fun h1=>⟨fun h2=>⟨(Z0b _).one,by simp [h1,h2]⟩,fun h2=>by simp [h2]⟩,fun h1=>by simp [h1]⟩
theorem Z93:FnsOk E Fgl:=Zb (Zb Zvy (V2 E_ok (Zc rfl) fun x h=>Z0q x.1 h)) (V2 E_ok (Zc rfl) fun x h=>Zv1 x.1 x.2.1 h)
section
variable {x y : Ex}
theorem Wo {s:List Nat} {M:List Tok} {z:Ex} (hs:∀p,LxT (s++ [59,32,125]) p (M++ [tkS Yx,tkS sRb])) (hM:∀r e,Fl2 r->pX (M++r) e= .ok (z,r,e,())) (hn:Zn z<=24) (hl:s.length<=1900):Za9 s z=true:=by
 unfold Za9
 rw [Z7e hs hM hn hl]
 simp [Z29]
theorem Zb0 {s:List Nat} {p:Nat} {ts:List Tok} (h:∀p,LxT s p ts):LxT (41::s) p (tkS Zi::ts):=Zas Z2d (h _)
theorem Zmw (h:AllW (txX x)) {s:List Nat} {p:Nat} {ts:List Tok} (hs:∀p,LxT s p ts):LxT (40::(Zj (txX x)++41::s)) p (PG x++ts):=by
 have:PG x++ts=tkS Z7::(TS (txX x)++tkS Zi::ts):=by simp [PG]
 rw [this]
 exact Zas Zfm (Zfn h rfl (Zb0 hs))
theorem Zv2 (p:Nat):LxT [59,32,125] p [tkS Yx,tkS sRb]:=Ybm p
theorem Yct (h:AllW (txX x)) (p:Nat):LxT ((40::40::(Zj (txX x)++ [41,41]))++ [59,32,125]) p ((tkS Z7::(PG x++ [tkS Zi]))++ [tkS Yx,tkS sRb]):=by
 have e1:(40::40::(Zj (txX x)++ [41,41]))++ [59,32,125]=40::(40::(Zj (txX x)++41::(41:: [59,32,125]))):=by simp
 have e2:(tkS Z7::(PG x++ [tkS Zi]))++ [tkS Yx,tkS sRb]=tkS Z7::(PG x++(tkS Zi:: [tkS Yx,tkS sRb])):=by simp
 rw [e1,e2]
 exact Zas Zfm (Zmw h fun p=>Zb0 Zv2)
theorem Z6a {c d:Nat} (hc:sgC c) (hd:sgC d) (h:AllW (txX x)) (h':AllW (txX y)) (p:Nat):LxT ((40::(Zj (txX x)++41::c::40::(Zj (txX y)++41::d::40::(Zj (txX x)++ [41]))))++ [59,32,125]) p ((PG x++tkS [c]::(PG y++tkS [d]::PG x))++ [tkS Yx,tkS sRb]):=by
 have e1:(40::(Zj (txX x)++41::c::40::(Zj (txX y)++41::d::40::(Zj (txX x)++ [41]))))++ [59,32,125]=40::(Zj (txX x)++41::(c::(40::(Zj (txX y)++41::(d::(40::(Zj (txX x)++41:: [59,32,125]))))))):=by simp
 have e2:(PG x++tkS [c]::(PG y++tkS [d]::PG x))++ [tkS Yx,tkS sRb]=PG x++(tkS [c]::(PG y++(tkS [d]::(PG x++ [tkS Yx,tkS sRb])))):=by simp
 rw [e1,e2]
 exact Zmw h fun p=>Zas hc (Zmw h' fun p=>Zas hd (Zmw h Zv2))
theorem Ycu (h:AllW (txX x)) (h':AllW (txX y)) (p:Nat):LxT ((40::(Zj (txX x)++41::45::40::40::(Zj (txX x)++41::45::40::(Zj (txX y)++ [41,41]))))++ [59,32,125]) p ((PG x++tkS Z8::tkS Z7::(PG x++tkS Z8::(PG y++ [tkS Zi])))++ [tkS Yx,tkS sRb]):=by
 have e1:(40::(Zj (txX x)++41::45::40::40::(Zj (txX x)++41::45::40::(Zj (txX y)++ [41,41]))))++ [59,32,125]=40::(Zj (txX x)++41::(45::(40::(40::(Zj (txX x)++41::(45::(40::(Zj (txX y)++41::(41:: [59,32,125]))))))))):=by simp
 have e2:(PG x++tkS Z8::tkS Z7::(PG x++tkS Z8::(PG y++ [tkS Zi])))++ [tkS Yx,tkS sRb]=PG x++(tkS Z8::(tkS Z7::(PG x++(tkS Z8::(PG y++(tkS Zi:: [tkS Yx,tkS sRb])))))):=by simp
 rw [e1,e2]
 exact Zmw h fun p=>Zas Zd7 (Zas Zfm (Zmw h fun p=>Zas Zd7 (Zmw h' fun p=>Zb0 Zv2)))
theorem Z94:TS (txX (twoX 7 x y))=tkS [109,97,120]::tkS Z7::(TS (txX x)++tkS Zv::(TS (txX y)++ [tkS Zi])):=by
 rw [Zx2]
 show TS (WK.ca.words.getD 1 []::Z7::(txX x++Zv::(txX y++Zi:: [])))=_
 simp [Zo6,Zrd]
 rfl
theorem Ycv:TS (txX (.mk 11 0 0 0 0 0 [x,y,y,x]))=tkS sIf::tkS Z7::(TS (txX x)++tkS U0::(TS (txX y)++tkS Zv::(TS (txX y)++tkS Zv::(TS (txX x)++ [tkS Zi])))):=by
 rw [Zx2]
 show TS (sIf::Z7::(txX x++U0::(txX y++Zv::(txX y++Zv::(txX x++Zi:: [])))))=_
 simp [Zo6,Zrd]
theorem Ycw (h:AllW (txX x)) (h':AllW (txX y)) (p:Nat):LxT ((109::97::120::40::(Zj (txX x)++44::(Zj (txX y)++ [41])))++ [59,32,125]) p (TS (txX (twoX 7 x y))++ [tkS Yx,tkS sRb]):=by
 have e1:(109::97::120::40::(Zj (txX x)++44::(Zj (txX y)++ [41])))++ [59,32,125]= [109,97,120]++40::(Zj (txX x)++44::(Zj (txX y)++41:: [59,32,125])):=by simp
 have e2:TS (txX (twoX 7 x y))++ [tkS Yx,tkS sRb]=tkS [109,97,120]::(tkS Z7::(TS (txX x)++(tkS Zv::(TS (txX y)++tkS Zi:: [tkS Yx,tkS sRb])))):=by rw [Z94];simp
 rw [e1,e2]
 exact Ybl (Wv rfl) rfl (Zas Zfm (Zfn h rfl (Zas Zi0 (Zfn h' rfl (Zb0 Zv2)))))
theorem s_if (h:AllW (txX x)) (h':AllW (txX y)) (p:Nat):LxT ((105::102::40::(Zj (txX x)++60::(Zj (txX y)++44::(Zj (txX y)++44::(Zj (txX x)++ [41])))))++ [59,32,125]) p (TS (txX (.mk 11 0 0 0 0 0 [x,y,y,x]))++ [tkS Yx,tkS sRb]):=by
 have e1:(105::102::40::(Zj (txX x)++60::(Zj (txX y)++44::(Zj (txX y)++44::(Zj (txX x)++ [41])))))++ [59,32,125]= [105,102]++40::(Zj (txX x)++60::(Zj (txX y)++44::(Zj (txX y)++44::(Zj (txX x)++41:: [59,32,125])))):=by simp
 have e2:TS (txX (.mk 11 0 0 0 0 0 [x,y,y,x]))++ [tkS Yx,tkS sRb]=tkS sIf::(tkS Z7::(TS (txX x)++(tkS U0::(TS (txX y)++(tkS Zv::(TS (txX y)++(tkS Zv::(TS (txX x)++tkS Zi:: [tkS Yx,tkS sRb])))))))):=by rw [Ycv];simp
 rw [e1,e2]
 exact Ybl Z9x rfl (Zas Zfm (Zfn h rfl (Zas Z7b (Zfn h' rfl (Zas Zi0 (Zfn h' rfl (Zas Zi0 (Zfn h rfl (Zb0 Zv2)))))))))
end
theorem Z6b (x y:Ex):PureC E 6 [exA x,exA y] (.bool false true):=by
 refine Za E_ok (Zg E_ok Z93 400) ?_
 rw [Z57];delta qCR7 qCR5 qCR4 qCR6 qCR8 qCR9 qCRa qCRb qCRc qCRd qCRe qCRf qCRg qCRh qCRi qCRj qCRk qCRl qCRm qCRn
 simp only [Z9,Zx,Xf,Xg,Xh,beq_iff_eq,bne_iff_ne,beq_eq_false_iff_ne,bne_eq_false_iff_eq,decide_eq_true_eq,decide_eq_false_iff_not,Bool.or_eq_true,Bool.or_eq_false_iff,Bool.not_eq_true',Bool.not_eq_false',Bool.and_eq_true,Bool.and_true,Bool.true_and,Bool.and_eq_false_iff,beq_self_eq_true,Yq,Yg,ne_eq,and_true,true_and,Bool.true_eq_false,Bool.false_eq_true,false_or,or_false,true_implies,imp_self,Int.ofNat_eq_natCast,not_true_eq_false,not_false_eq_true,Decidable.not_not,Ex.eta,forall_eq]
 refine ⟨by decide,fun _=>trivial,fun hx4=>⟨by decide,fun _=>trivial,fun hy4=> ?_⟩⟩
 have zx:=Zza 1 x (by omega)
 have zy:=Zza 1 y (by omega)
 refine ⟨by omega,fun _=>trivial,fun hnx=>⟨by omega,fun _=>trivial,fun hny=>⟨by omega,by omega,?_⟩⟩⟩
 refine ⟨fun b=>b=true↔((srcF x).2=false\/(srcF y).2=false\/(srcF x).1.length>450\/(srcF y).1.length>450),⟨fun h=>by simp [h],fun h=>⟨fun h2=>by simp [h2],fun h2=>⟨fun h3=>by simp;omega,fun h3=>⟨fun h4=>by simp;omega,fun h4=>by simp [h,h2];omega⟩⟩⟩⟩,fun _=>trivial,fun hq=> ?_⟩
 have hq:¬((srcF x).2=false\/(srcF y).2=false\/(srcF x).1.length>450\/(srcF y).1.length>450):=fun h=>by have:=hq.2 h;cases this
 simp only [not_or,Bool.not_eq_false] at hq
 obtain ⟨q1,q2,q3,q4⟩:=hq
 have key:∀z:Ex,(srcF z).2=true->srcF z=(Zj (txX z),true)/\Z2 z=true:=by
  intro z hz
  unfold srcF at hz⊢
  split at hz
  · rename_i h0
    rw [if_pos h0]
    exact ⟨rfl,(one_check.1 (Zkm h0).1).1⟩
  · cases hz
 obtain ⟨ex,fx⟩:=key x q1
 obtain ⟨ey,fy⟩:=key y q2
 rw [ex] at q3⊢
 rw [ey] at q4⊢
 dsimp only at q3 q4
 have wx:=Zvv x fx
 have wy:=Zvv y fy
 have rx:=rdb x fx
 have ry:=rdb y fy
 have t1:toL {data:= #[40]}= [40]:=rfl
 have t2:toL {data:= #[41]}= [41]:=rfl
 have t3:toL {data:= #[40,40]}= [40,40]:=rfl
 have t4:toL {data:= #[41,41]}= [41,41]:=rfl
 have t5:toL {data:= #[42]}= [42]:=rfl
 have t6:toL {data:= #[43]}= [43]:=rfl
 have t7:toL {data:= #[45]}= [45]:=rfl
 have t8:toL {data:= #[45,40]}= [45,40]:=rfl
 have t9:toL {data:= #[109,97,120,40]}= [109,97,120,40]:=rfl
 have t10:toL {data:= #[44]}= [44]:=rfl
 have t11:toL {data:= #[105,102,40]}= [105,102,40]:=rfl
 have t12:toL {data:= #[60]}= [60]:=rfl
 have len:∀{s:List Nat},s.length<=1900->s.length<=1900:=fun h=>h
 have n2:∀op (u v:Ex),Zn u<=22->Zn v<=22->Zn (twoX op u v)<=24:=fun op u v h1 h2=>by rw [Zq1];omega
 have n3:∀op (u v:Ex),Zn u<=20->Zn v<=20->Zn (twoX op u v)<=22:=fun op u v h1 h2=>by rw [Zq1];omega
 have P1:=Wo (s:=40::40::(Zj (txX x)++ [41,41])) (Yct wx) (Ydb rx) (by omega) (by simp;omega)
 have P2:=Wo (s:=_) (Z6a Z7c Zd7 wx wy) (Ydc rx ry) (n2 _ _ _ (n3 _ _ _ (by omega) (by omega)) (by omega)) (by simp;omega)
 have P3:=Wo (s:=_) (Z6a Zyd Zyd wx wy) (Ydd rx ry) (n2 _ _ _ (n3 _ _ _ (by omega) (by omega)) (by omega)) (by simp;omega)
 have P4:=Wo (s:=_) (Z6a Zd7 Zyd wx wy) (Yde rx ry) (n2 _ _ _ (by omega) (n3 _ _ _ (by omega) (by omega))) (by simp;omega)
 have P5:=Wo (s:=_) (Ycu wx wy) (Ydf rx ry) (n2 _ _ _ (by omega) (n3 _ _ _ (by omega) (by omega))) (by simp;omega)
 have f7:Z2 (twoX 7 x y)=true:=Zhu (by decide) (by decide) rfl (by intro z hz;simp at hz;rcases hz with rfl|rfl<;>assumption)
 have f11:Z2 (.mk 11 0 0 0 0 0 [x,y,y,x])=true:=Zhu (by decide) (by decide) rfl (by intro z hz;simp at hz;rcases hz with rfl|rfl|rfl|rfl<;>assumption)
 have P6:=Wo (s:=_) (Ycw wx wy) (fun r e hr=>(rdb _ f7).all hr e) (n2 _ _ _ (by omega) (by omega)) (by simp;omega)
 have P7:=Wo (s:=_) (s_if wx wy) (fun r e hr=>(rdb _ f11).all hr e) (by simp [Zn,Uh];omega) (by simp;omega)
 unfold twoX at P2 P3 P4 P5 P6
 simp only [t1,t2,t3,t4,t5,t6,t7,t8,t9,t10,t11,t12,List.append_assoc,List.cons_append,List.nil_append,List.length_append,List.length_cons,List.length_nil,P1,P2,P3,P4,P5,P6,P7,Bool.true_eq_false,false_implies,true_implies,true_and,and_true,eq_self_iff_true]
 repeat' (first|apply And.intro|omega)
end
end Go.Proofs.YtbepgmadijomjaaGreatDoor
