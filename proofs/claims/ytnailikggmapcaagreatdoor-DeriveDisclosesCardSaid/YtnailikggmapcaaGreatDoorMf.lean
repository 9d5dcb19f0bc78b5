/- Merged texts: DvA, EngZT, DvB, EngZU, DvC, EngZV, DvD, DvE, DvF, DvG, DvH, TvUj, DvI, RowDeriveDisclosesA, RowDeriveDisclosesB. -/
import Derived.RangeFuncLeaves
import Derived.Test.YtnailikggmapcaaGreatDoorMe
noncomputable section
namespace Go.Proofs.YtnailikggmapcaaGreatDoor
set_option linter.unusedVariables false
set_option linter.unusedSimpArgs false
set_option linter.unnecessarySimpa false
set_option maxRecDepth 100000
section
open Go Go.RowKit
def Z21:Sum thy:=U5 E2 gthV 10 (.cons (Zet E2) .nil) (fun _=>True) (fun x=>verF x.1) fun y=> .tup [.int false .i64 y.1,.int false .i64 y.2]
def Z22:Sum thy:=U5 E2 gthV 10 (.cons (dInt (E:=E2) .i64) .nil) (fun _=>True) (fun x=>Zbd x.1) fun y=> .tup [stV y.1,.int false .i64 y.2]
def Z1x:Sum thy:=U5 E2 gthV 10 (.cons dSt2 .nil) (fun x=>x.1.stack.length<=1000000) (fun x=>Zu x.1) fun y=> .tup [.int false .i64 y.1,.int false .i64 y.2.1,.int false .i64 y.2.2]
def FD:Fns thy:=addS (addS (addS (addS (addS F0 29 Z21) 11 Z22) 13 Zt8) 16 Z1x) 15 Sdgs
theorem Zz1:FnsOk E2 FD:=Zg (Zg (Zg (Zg (Zg Wo (Yq Zm (Zk rfl) fun x _=>up2 (Zdf x.1))) (Yq Zm (Zk rfl) fun x _=>up2 (Zob x.1))) Zjd) (Yq Zm (Zk rfl) fun x h=>up2 (Zdd x.1 h))) Zti
def sqA:Code->Code
 | .seq a _=>a
 |c=>c
def sqB:Code->Code
 | .seq _ b=>b
 |c=>c
def bkA:Code->Code
 | .block _ b=>b
 |c=>c
def lpA:Code->Code
 | .loop b=>b
 |c=>c
def rfA:Code->Code
 | .rangeFunc _ _ a _=>a
 |c=>c
def rfB:Code->Code
 | .rangeFunc _ _ _ b=>b
 |c=>c
def Ug (f:Func):Code:=f.body.getD .skip
def rn0:Code:=sqA (Ug Tryz.f8)
def rn1:Code:=sqA (sqB (Ug Tryz.f8))
def rn4:Code:=sqA (sqB (sqB (Ug Tryz.f8)))
def rn5:Code:=sqA (sqA (sqB (sqB (sqB (Ug Tryz.f8)))))
def rnF:Code:=bkA (sqB (sqA (sqB (sqB (sqB (Ug Tryz.f8))))))
def rn9:Code:=sqA (sqB (sqB (sqB (sqB (Ug Tryz.f8)))))
def it0:Code:=sqA (Ug Tryz.f50)
def it1:Code:=sqA (sqB (Ug Tryz.f50))
def itL:Code:=lpA (bkA (sqB (sqB (Ug Tryz.f50))))
def it2:Code:=sqA (sqA itL)
def it4:Code:=sqA (sqB itL)
def it3:Code:=sqB (sqB itL)
theorem Z23:Ug Tryz.f8= .seq rn0 (.seq rn1 (.seq rn4 (.seq (.seq rn5 (.block 0 (.rangeFunc (.tmp 25) #[26,27] (rfA rnF) (rfB rnF)))) (.seq rn9 .ret)))):=by kernel_rfl
theorem Z24:Ug Tryz.f50= .seq it0 (.seq it1 (.block 0 (.loop (.seq (.seq it2 (.cond (.tmp 26) .skip (.exit 0))) (.seq it4 it3))))):=by kernel_rfl
def vcs (F:Fns thy) (n f N:Nat):List Code->Fr thy->Hp thy->Nat->List Nat->(Fr thy->Hp thy->Nat->List Nat->Prop)->Prop
 | [],T,h,i,ms,K=>K T h i ms
 |c::r,T,h,i,ms,K=>vc E2 F n f N c T h i ms fun e T h i ms=>(match e with| .normal=>vcs F n f N r T h i ms K|_=>False)
def Zx7 (v:Env):List (SV thy):= [.int false .i64 v.has,.int false .i64 v.v0,.int false .i64 v.v1,.int false .i64 v.v2,.int false .i64 v.v3,.int false .i64 v.v4,.int false .i64 v.v5,.int false .i64 v.v6,.int false .i64 v.v7,.int false .i64 v.v8,.int false .i64 v.v9,.int false .i64 v.v10,.int false .i64 v.v11,.int false .i64 v.v12,.int false .i64 v.v13,.int false .i64 v.v14,.int false .i64 v.v15]
def cB (c:List Ins):Blk thy:= .raw [.psl .ins c false] 0 none
def envB (v:Env):Blk thy:= .raw (Zx7 v) 0 none
def sB (s:St):Blk thy:= .raw [.int false .i64 s.pc,.int false .i64 s.fuel,.int false .i64 s.status,.int false .i64 s.clause,.psl .ints s.stack false] 0 none
def zI:SV thy:= .int true .i64 0
def zB:Blk thy:= .raw [.val (.slice none 0 0),zI,zI,zI,zI,zI,zI,zI,zI,zI,zI,zI,zI,zI,zI,zI,zI,zI,zI,zI,.val (.slice none 0 0)] 0 none
def dB (c:List Ins) (v:Env) (a e:Int) (lv:SV thy):Blk thy:= .raw (.psl .ins c false:: .int false .i64 v.has:: .int false .i64 v.v0:: .int false .i64 v.v1:: .int false .i64 v.v2:: .int false .i64 v.v3:: .int false .i64 v.v4:: .int false .i64 v.v5:: .int false .i64 v.v6:: .int false .i64 v.v7:: .int false .i64 v.v8:: .int false .i64 v.v9:: .int false .i64 v.v10:: .int false .i64 v.v11:: .int false .i64 v.v12:: .int false .i64 v.v13:: .int false .i64 v.v14:: .int false .i64 v.v15:: .int false .i64 a:: .int false .i64 e:: [lv]) 0 none
def blE (c:List Ins) (v:Env):List (Nat×Blk thy):= [(0,cB c),(1,envB v),(2,zB),(3,dB c v 0 0 (.val (.slice none 0 0))),(4,cB c),(5,envB v)]
def blH (c:List Ins) (v:Env) (b:Bool) (s:St) (a e:Int) (L:List (List Int)):List (Nat×Blk thy):=
 match b with
 |false=> [(0,cB c),(1,envB v),(2,zB),(3,dB c v a e (.val (.slice none 0 0))),(4,cB c),(5,envB v),(6,sB s)]
 |true=> [(0,cB c),(1,envB v),(2,zB),(3,dB c v a e (.sl 7 0 L.length 32 none)),(4,cB c),(5,envB v),(6,sB s),(7,.rows .digs L 0)]
def frO:List (Nat×SV thy):= [(2,.ptr 0 0),(3,.ptr 1 0),(4,.ptr 2 0),(8,.ptr 3 0)]
def frI (l:Nat) (k:Nat):List (Nat×SV thy):= [(0,.val (.func (.yield l) #[] #[])),(1,.ptr 4 0),(2,.ptr 5 0),(4,.ptr 6 0),(5,.int true .i64 0),(6,.int false .i64 k)]
end
section
open Go.RowKit
section
variable {Y:Thy} {E:Eng Y}
abbrev Zso (Y:Thy):=Nat->List (SV Y)->Hp Y->Nat->(Res Y->Prop)->Prop
abbrev Zd5 (Y:Thy):=Fr Y->Hp Y->Nat->List Nat->(Fr Y->Hp Y->Nat->List Nat->Prop)->Prop
def Zd6 (E:Eng Y) (N:Nat) (x y:Code) (VT:Zd5 Y):Prop:=∀(T:Fr Y) (h:Hp Y) (i:Nat) (ms:List Nat) (K:Fr Y->Hp Y->Nat->List Nat->Prop),DomLt h i->VT T h i ms K->
 ∃T' h' i' ms',K T' h' i' ms'/\i<=i'/\Dom h i h' i'/\(∃m,ms'=m++ms/\Yf h i i' m)/\
  ∀(B:Nat) (σ:Pl) (g:GH) (w:World) (a:Act) (Q:Act->World->Prop),Inv E B σ h g w->B<=w.heap.size->(∀b,i<=b->b<i'->σ b=none)->FrOk E σ g T a->a.tmps.size=N->
   (∀a' w',Aft E B N i i' ms' σ g w a.defers T' h' a' w'->Q a' w')->x.wp E.P (Exit.then (fun a w=>y.wp E.P (Exit.then (fun a w=>Q a w) fun _ _ _=>False) a w) fun _ _ _=>False) a w
def itC (E:Eng Y) (cD:Zso Y) (VT:Zd5 Y) (o2p:List Oper) (o2y:Oper) (o2s:List Oper) (fI:List (Nat×SV Y)) (NO:Nat) (assign body:Code) (ps:List Tmp) (frOut:List (Nat×SV Y)) (md:List Nat) (l:Nat) (h:Hp Y) (KN:Fr Y->Hp Y->Prop) (KE KR:Hp Y->Prop):Prop:=
 rgn E 36 cD (o2p++o2y::o2s) o2p (frOf fI) h 8 [] fun e T1 h1 i1 ms1=>(match e,T1 16,Nat.ble i1 40&&Xm 7 md ms1 with
  | .normal,.bool _ true,true=>(match T1 17 with| .val u=>u= .func (.yield l) #[] #[]|_=>False)/\Zq3 E NO cD assign body (setT ps [T1 18,T1 19] (frOf frOut)) h1 7 40 md i1 fun e2 h2=>(match e2 with
   | .normal=>rgn E 36 cD (o2p++o2y::o2s) o2s (upd T1 20 (.bool true true)) h2 40 [] fun e3 T3 h3 i3 ms3=>(match e3,Xm 7 md ms3&&Nat.ble i3 60 with
    | .normal,true=>(match T3 26 with
     | .bool bb v=>split bb v fun v=>(match v with
      |true=>VT T3 h3 i3 [] fun T4 h4 i4 ms4=>(match Nat.ble i4 60&&Xm 7 md ms4 with|true=>KN T4 h4|false=>False)
      |false=>KE h3)
     |_=>False)
    |_,_=>False)
   | .ret=>rgn E 36 cD (o2p++o2y::o2s) o2s (upd T1 20 (.bool true false)) h2 40 [] fun e3 T3 h3 i3 ms3=>(match e3,T3 26,Xm 7 md ms3&&Nat.ble i3 60 with
    | .normal,.bool true false,true=>KR h3
    |_,_,_=>False)
   |_=>False)
  |_,_,_=>False)
theorem Z1p {o:Oper} {a:Act} {W:World} {n:Nat} {P:Program} {Q:Exit->Act->World->Prop} {ops:Array Oper} {r:List Oper} (hw:Region.wanted o (yielded ops a.tmps)=true) (h:o.wpIn Fence.wide n P a W (wpListIn Fence.wide n P ops Q r) Q):wpListIn Fence.wide n P ops Q (o::r) a W:=by
 unfold wpListIn
 rw [if_pos hw]
 exact h
theorem Zzn {n:Nat} {P:Program} {x y:Code} {a:Act} {w:World} {Q:Exit->Act->World->Prop} (h:x.wp P (Exit.then (fun a w=>y.wp P (Exit.then (fun a w=>Q .normal a w) fun _ _ _=>False) a w) fun _ _ _=>False) a w):(Code.seq x y).wpIn Fence.wide n P Q a w:=by
 refine wpIn_seq (wpIn_wide.2 (wp_mono h fun e a w he=> ?_))
 cases e with
 |normal=>exact wpIn_wide.2 (wp_mono he fun e a w hq=>by cases e<;>first|exact hq|exact hq.elim)
 |_=>exact he.elim
structure RdEnd (E:Eng Y) (B:Nat) (md:List Nat) (frOut:List (Nat×SV Y)) (ao:Act) (l:Nat) (r:Loop) (σ:Pl) (g:GH) (W:World) (σ':Pl) (g':GH) (h':Hp Y) (W':World):Prop where
 st:StpL 7 60 md σ g W σ' g' W'
 inv:Inv E B σ' h' g' W'
 fr:FrOk E σ' g' (frOf frOut) ao
 rc:W'.heap[l]? =some (.loop r)
theorem Zzo (hE:EngOk E) {cD:Zso Y} (Xw:∀(o:Oper) T h i k,DomLt h i->step E cD o.op T h i k->∃r,k r/\OpTri2 E o T h i r) {VT:Zd5 Y} {it4 it3:Code} (hVT:Zd6 E 36 it4 it3 VT) {o2p o2s:List Oper} {o2y:Oper} {ts:Array TypeId} (Zaa:o2y.op= .call {callee:= .value (.tmp 17),args:= #[.tmp 18,.tmp 19],argTypes:=ts}) (Zab:o2y.guard=some (2,true)) (Wy:o2y.dst=some 20) (Zev:((o2p++o2y::o2s).toArray[2]?).bind (·.dst)=some 16) {fI:List (Nat×SV Y)} {NO:Nat} {assign body:Code} {p1 p2:Tmp} {frOut:List (Nat×SV Y)} {md:List Nat} {l:Nat} {h:Hp Y} {KN:Fr Y->Hp Y->Prop} {KE KR:Hp Y->Prop} (hp1:p1<NO) (hp2:p2<NO) (hdom:DomLt h 8)
 (hc:itC E cD VT o2p o2y o2s fI NO assign body [p1,p2] frOut md l h KN KE KR) (n:Nat) (B:Nat) (σ:Pl) (g:GH) (W:World) (a ao:Act) (D:Nat) (fn:FuncId) (hI:Inv E B σ h g W) (hB:B<=W.heap.size) (hfree:∀b,8<=b->b<60->σ b=none) (hF:FrOk E σ g (frOf fI) a) (hN:a.tmps.size=36)
 (hFo:FrOk E σ g (frOf frOut) ao) (hNo:ao.tmps.size=NO) (hl:W.heap[l]? =some (.loop (rdy fn ao.tmps [p1,p2] assign body D))) (hown:¬Own 7 60 md σ l) (Q:Exit->Act->World->Prop) (hO:¬LetsOut Q)
 (hQn:∀a' W' σ' g' T4 h4,KN T4 h4->RdEnd E B md frOut ao l (rdy fn ao.tmps [p1,p2] assign body D) σ g W σ' g' h4 W'->FrOk E σ' g' T4 a'->a'.tmps.size=36->a'.defers=a.defers->Q .normal a' W')
 (hQe:∀a' W' σ' g' h3,KE h3->RdEnd E B md frOut ao l (rdy fn ao.tmps [p1,p2] assign body D) σ g W σ' g' h3 W'->a'.tmps.size=36->a'.defers=a.defers->Q (.exit 0) a' W')
 (hQr:∀a' W' W3 σ1 g1 h2 σ' g' h3,KR h3->RdEnd E B md frOut ao l (rdy fn ao.tmps [p1,p2] assign body D) σ g W σ1 g1 h2 W3->RdEnd E B md frOut ao l {rdy fn ao.tmps [p1,p2] assign body D with state:= .done,pending:=some .ret} σ1 g1 (W3.putObj l (.loop {rdy fn ao.tmps [p1,p2] assign body D with state:= .done,pending:=some .ret})) σ' g' h3 W'->a'.tmps.size=36->a'.defers=a.defers->Q (.exit 0) a' W'):
 (Code.seq (Code.seq (.region 2 (o2p++o2y::o2s).toArray false) (.cond (.tmp 26) .skip (.exit 0))) (.seq it4 it3)).wpIn Fence.wide (n+1) E.P Q a W:=by
 obtain ⟨r,hr⟩:∃r,r=rdy fn ao.tmps [p1,p2] assign body D:=⟨_,rfl⟩
 rw [<-hr] at hQn hQe hQr
 have hlt:l<W.heap.size:=(Array.getElem?_eq_some_iff.1 hl).1
 unfold itC at hc
 obtain ⟨e,T1,h1,i1,ms1,hK1,hi1,hD1,⟨m1,hm1,hM1⟩,t1⟩:=Zci hE Xw (o2p++o2y::o2s) o2p _ _ 8 [] _ hdom hc
 rw [List.append_nil] at hm1
 subst hm1
 split at hK1
 case h_2=>exact hK1.elim
 rename_i bl16 h16 hck
 rw [Bool.and_eq_true,Nat.ble_eq] at hck
 obtain ⟨hi40,hmd1⟩:=hck
 obtain ⟨h17,hK1⟩:=hK1
 obtain ⟨e2,h2,hK2,hdom2,hround⟩:=Zvc hE Xw (i:=7) (M:=40) (ih:=i1) (md:=md) (by omega) hi40 (ps:= [p1,p2]) (fun p hp=>by rcases List.mem_cons.1 hp with rfl|hp;exact hp1;rcases List.mem_singleton.1 hp with rfl;exact hp2) hD1.1 (K:=fun e2 h2=>match e2 with
  | .normal=>rgn E 36 cD (o2p++o2y::o2s) o2s (upd T1 20 (.bool true true)) h2 40 [] fun e3 T3 h3 i3 ms3=>(match e3,Xm 7 md ms3&&Nat.ble i3 60 with
   | .normal,true=>(match T3 26 with
    | .bool bb v=>split bb v fun v=>(match v with
     |true=>VT T3 h3 i3 [] fun T4 h4 i4 ms4=>(match Nat.ble i4 60&&Xm 7 md ms4 with|true=>KN T4 h4|false=>False)
     |false=>KE h3)
    |_=>False)
   |_,_=>False)
  | .ret=>rgn E 36 cD (o2p++o2y::o2s) o2s (upd T1 20 (.bool true false)) h2 40 [] fun e3 T3 h3 i3 ms3=>(match e3,T3 26,Xm 7 md ms3&&Nat.ble i3 60 with
   | .normal,.bool true false,true=>KR h3
   |_,_,_=>False)
  |_=>False) (fun e h2 hk=>by cases e<;>first|exact .inl rfl|exact .inr rfl|exact hk.elim) hK1 l (n+1-1)
 have mods1:∀b∈ms1,b∈md\/(7<=b/\b<60):=fun b hb=>by
  rcases Wb hmd1 hb with k|k
  · refine .inr ⟨k,?_⟩
    rcases hM1 b hb with k2|k2
    · have:=hdom b k2;omega
    · omega
  · exact .inl k
 refine wpIn_seq (wpIn_seq (wpIn_region_list ?_))
 rw [show ((o2p++o2y::o2s).toArray).toList=o2p++o2y::o2s by simp]
 refine Vo (Ue (by rintro ⟨x,y,h⟩;exact hO ⟨x,y,h⟩) (t1 B σ g W a _ hI hB (fun b q1 q2=>hfree b q1 (by omega)) hF hN ?_))
 rintro a1 w1 ⟨d1,z1,σ1,g1,hS1,hI1,hF1⟩
 show wpListIn _ _ _ _ _ (o2y::o2s) a1 w1
 have L1:StpL 7 60 md σ g W σ1 g1 w1:=StpL.of hS1 (by omega) (by omega) mods1
 have hl1:w1.heap[l]? =some (.loop r):=(L1.heap l hlt hown).trans (by rw [hr];exact hl)
 have hown1:¬Own 7 60 md σ1 l:=fun ho=>by
  rcases L1.own l ho with k|k
  · omega
  · exact hown k
 have hown40:¬Own 7 40 md σ1 l:=fun ⟨b,z,hb,hs⟩=>hown1 ⟨b,z,hb.imp id fun k=>⟨k.1,by omega⟩,hs⟩
 have hFo1:=hFo.mono hS1.sig hS1.gle
 have hB1:B<=w1.heap.size:=Nat.le_trans hB L1.size
 have free1:∀b,i1<=b->b<60->σ1 b=none:=fun b q1 q2=>Xz hS1 (i2:=60) (fun b' p1 p2=>hfree b' p1 p2) b (by omega) q2
 have ev16:a1.eval (.tmp 16)= .bool true:=by
  have:=hF1 16
  rw [h16] at this
  generalize a1.eval (.tmp 16)=u at this
  cases this;rfl
 have v16:a1.tmps[16]? =some (.bool true):=by
  have h:16<a1.tmps.size:=by rw [z1];decide
  have e0:a1.eval (.tmp 16)=(a1.tmps[16]?).getD undef:=by simp [Act.eval]
  rw [Array.getElem?_eq_getElem h] at e0⊢
  rw [ev16] at e0
  exact congrArg some e0.symm
 have ev17:a1.eval (.tmp 17)= .func (.yield l) #[] #[]:=by
  have:=hF1 17
  split at h17
  · rename_i u hu
    rw [hu,h17] at this
    generalize a1.eval (.tmp 17)=u at this
    cases this;rfl
  · exact h17.elim
 refine Z1p (Zs2 Zab Zev v16) ?_
 have hdd:DenL E σ1 g1 [T1 18,T1 19] [a1.eval (.tmp 18),a1.eval (.tmp 19)]:=⟨rfl,fun j sv u q1 q2=>by
  match j,q1,q2 with
  |0,q1,q2=>cases q1;cases q2;exact hF1 18
  |1,q1,q2=>cases q1;cases q2;exact hF1 19⟩
 refine Zv6 Zaa ev17 (hround B σ1 g1 w1 ao D fn #[a1.eval (.tmp 18),a1.eval (.tmp 19)] hI1 hB1 (fun b q1 q2=>free1 b q1 (by omega)) hFo1 hNo hdd rfl (by rw [<-hr];exact hl1) hown40) ?_
 rw [<-hr]
 rw [Wy]
 have dmods:∀{hh:Hp Y} {i3:Nat} {ms3:List Nat},Xm 7 md ms3=true->DomLt hh 60->(∀b∈ms3,hh b≠none\/b<60)->∀b∈ms3,b∈md\/(7<=b/\b<60):=fun {hh i3 ms3} q1 q2 q3 b hb=>by
  rcases Wb q1 hb with k|k
  · rcases q3 b hb with k2|k2
    · exact .inr ⟨k,q2 b k2⟩
    · exact .inr ⟨k,k2⟩
  · exact .inl k
 cases e2 with
 |normal=>
  rintro en W2 ⟨rfl,σ2,g2,L2,hI2,hle2,hnw2,hl2⟩
  refine ⟨_,rfl,?_⟩
  have L2':=L1.trans (L2.mono (M':=60) (by omega))
  have hlt2:l<W2.heap.size:=(Array.getElem?_eq_some_iff.1 hl2).1
  have hown2:¬Own 7 60 md σ2 l:=fun ho=>by
   rcases L2'.own l ho with k|k
   · omega
   · exact hown k
  have free2:∀b,40<=b->b<60->σ2 b=none:=fun b q1 q2=>by
   cases hq:σ2 b with
   |none=>rfl
   |some p=>
    rcases hnw2 b p hq with k|k
    · rw [free1 b (by omega) q2] at k;cases k
    · omega
  obtain ⟨e3,T3,h3,i3,ms3,hK3,hi3,hD3,⟨m3,hm3,hM3⟩,t3⟩:=Zci hE Xw (o2p++o2y::o2s) o2s _ _ 40 [] _ hdom2 hK2
  rw [List.append_nil] at hm3
  subst hm3
  split at hK3
  case h_2=>exact hK3.elim
  rename_i hck3
  rw [Bool.and_eq_true,Nat.ble_eq] at hck3
  obtain ⟨hmd3,hi60⟩:=hck3
  have mods3:=dmods (i3:=i3) hmd3 (fun b hb=>Nat.lt_of_lt_of_le (hdom2 b hb) (by omega)) fun b hb=>(hM3 b hb).imp id fun k=>by omega
  have hF2:FrOk E σ2 g2 (upd T1 20 (.bool true true)) (a1.put (some 20) (.bool true)):=(hF1.mono hle2 L2.gle).put (by rw [z1];decide) (.bool _ _)
  refine Ue (by rintro ⟨x,y,h⟩;exact hO ⟨x,y,h⟩) (t3 B σ2 g2 W2 _ _ hI2 (Nat.le_trans hB1 L2.size) (fun b q1 q2=>free2 b q1 (by omega)) hF2 (by rw [X4];exact z1) ?_)
  rintro a3 w3 ⟨d3,z3,σ3,g3,hS3,hI3,hF3⟩
  have hd3:a3.defers=a.defers:=by rw [d3,Y2,d1]
  have L3:StpL 7 60 md σ2 g2 W2 σ3 g3 w3:=StpL.of hS3 (by omega) (by omega) mods3
  have L3':=L2'.trans L3
  have hl3:w3.heap[l]? =some (.loop r):=(L3.heap l hlt2 hown2).trans hl2
  have hFo3:=(hFo1.mono hle2 L2.gle).mono hS3.sig hS3.gle
  show (Code.cond (.tmp 26) .skip (.exit 0)).wpIn _ _ _ _ a3 w3
  split at hK3
  case h_2=>exact hK3.elim
  rename_i bb vv h26
  have hK3:=Z9 hK3
  have ev26:a3.eval (.tmp 26)= .bool vv:=by
   have:=hF3 26
   rw [h26] at this
   generalize a3.eval (.tmp 26)=u at this
   cases this;rfl
  cases vv with
  |false=>exact wpIn_cond_false ev26 (wpIn_exit (hQe a3 w3 σ3 g3 h3 hK3 ⟨L3',hI3,hFo3,hl3⟩ z3 hd3))
  |true=>
   obtain ⟨T4,h4,i4,ms4,hK4,hi4,hD4,⟨m4,hm4,hM4⟩,t4⟩:=hVT _ _ _ _ _ hD3.1 hK3
   rw [List.append_nil] at hm4
   subst hm4
   split at hK4
   case h_2=>exact hK4.elim
   rename_i hck4
   rw [Bool.and_eq_true,Nat.ble_eq] at hck4
   obtain ⟨hi4b,hmd4⟩:=hck4
   have mods4:=dmods (i3:=i4) hmd4 (fun b hb=>Nat.lt_of_lt_of_le (hD3.1 b hb) (by omega)) fun b hb=>(hM4 b hb).imp id fun k=>by omega
   have free3:∀b,i3<=b->b<60->σ3 b=none:=fun b q1 q2=>Xz hS3 (i2:=60) (fun b' p1 p2=>free2 b' p1 p2) b (by omega) q2
   refine wpIn_cond_true ev26 (wpIn_skip ?_)
   show (Code.seq it4 it3).wpIn _ _ _ _ a3 w3
   refine Zzn (Q:=Q) (t4 B σ3 g3 w3 a3 (fun a w=>Q .normal a w) hI3 (Nat.le_trans hB L3'.size) (fun b q1 q2=>free3 b q1 (by omega)) hF3 z3 ?_)
   rintro a4 w4 ⟨d4,z4,σ4,g4,hS4,hI4,hF4⟩
   have hlt3:l<w3.heap.size:=(Array.getElem?_eq_some_iff.1 hl3).1
   have hown3:¬Own 7 60 md σ3 l:=fun ho=>by
    rcases L3'.own l ho with k|k
    · omega
    · exact hown k
   have L4:StpL 7 60 md σ3 g3 w3 σ4 g4 w4:=StpL.of hS4 (by omega) (by omega) mods4
   exact hQn a4 w4 σ4 g4 T4 h4 hK4 ⟨L3'.trans L4,hI4,hFo3.mono hS4.sig hS4.gle,(L4.heap l hlt3 hown3).trans hl3⟩ hF4 z4 (d4.trans hd3)
 |ret=>
  rintro en W2 ⟨rfl,σ2,g2,W3,L2,hI2,hle2,hnw2,hl2,rfl⟩
  refine ⟨_,rfl,?_⟩
  have L2':=L1.trans (L2.mono (M':=60) (by omega))
  have hlt2:l<W3.heap.size:=(Array.getElem?_eq_some_iff.1 hl2).1
  have hown2:¬Own 7 60 md σ2 l:=fun ho=>by
   rcases L2'.own l ho with k|k
   · omega
   · exact hown k
  have free2:∀b,40<=b->b<60->σ2 b=none:=fun b q1 q2=>by
   cases hq:σ2 b with
   |none=>rfl
   |some p=>
    rcases hnw2 b p hq with k|k
    · rw [free1 b (by omega) q2] at k;cases k
    · omega
  obtain ⟨e3,T3,h3,i3,ms3,hK3,hi3,hD3,⟨m3,hm3,hM3⟩,t3⟩:=Zci hE Xw (o2p++o2y::o2s) o2s _ _ 40 [] _ hdom2 hK2
  rw [List.append_nil] at hm3
  subst hm3
  split at hK3
  case h_2=>exact hK3.elim
  rename_i h26 hck3
  rw [Bool.and_eq_true,Nat.ble_eq] at hck3
  obtain ⟨hmd3,hi60⟩:=hck3
  have mods3:=dmods (i3:=i3) hmd3 (fun b hb=>Nat.lt_of_lt_of_le (hdom2 b hb) (by omega)) fun b hb=>(hM3 b hb).imp id fun k=>by omega
  have hF2:FrOk E σ2 g2 (upd T1 20 (.bool true false)) (a1.put (some 20) (.bool false)):=(hF1.mono hle2 L2.gle).put (by rw [z1];decide) (.bool _ _)
  have hI2p:=Xr hI2 hl2 rfl (fun es c e=>by cases e) (.loop {r with state:= .done,pending:=some .ret})
  refine Ue (by rintro ⟨x,y,h⟩;exact hO ⟨x,y,h⟩) (t3 B σ2 g2 _ _ _ hI2p (by simp;exact Nat.le_trans hB1 L2.size) (fun b q1 q2=>free2 b q1 (by omega)) hF2 (by rw [X4];exact z1) ?_)
  rintro a3 w3 ⟨d3,z3,σ3,g3,hS3,hI3,hF3⟩
  have hd3:a3.defers=a.defers:=by rw [d3,Y2,d1]
  have L3:StpL 7 60 md σ2 g2 (W3.putObj l (.loop {r with state:= .done,pending:=some .ret})) σ3 g3 w3:=StpL.of hS3 (by omega) (by omega) mods3
  have hl3:w3.heap[l]? =some (.loop {r with state:= .done,pending:=some .ret}):=(L3.heap l (by simpa using hlt2) hown2).trans (World.putObj_heap_same hlt2)
  have hFo2:=hFo1.mono hle2 L2.gle
  show (Code.cond (.tmp 26) .skip (.exit 0)).wpIn _ _ _ _ a3 w3
  have ev26:a3.eval (.tmp 26)= .bool false:=by
   have:=hF3 26
   rw [h26] at this
   generalize a3.eval (.tmp 26)=u at this
   cases this;rfl
  exact wpIn_cond_false ev26 (wpIn_exit (hQr a3 w3 W3 σ2 g2 h2 σ3 g3 h3 hK3 ⟨L2',hI2,hFo2,hl2⟩ ⟨L3,hI3,hFo2.mono hS3.sig hS3.gle,hl3⟩ z3 hd3))
 |_=>exact hK2.elim
end
end
section
open Go Go.RowKit
def Z2y:Code->List Oper
 | .region _ ops _=>ops.toList
 |_=> []
def o2:List Oper:=Z2y it2
def o2p:List Oper:=o2.take 6
def o2s:List Oper:=o2.drop 7
def o2y:Oper:=(o2[6]?).getD default
theorem Z1r:it2= .region 2 (o2p++o2y::o2s).toArray false:=by kernel_rfl
theorem Zaa:o2y.op= .call {callee:= .value (.tmp 17),args:= #[.tmp 18,.tmp 19],argTypes:= #[3,43]}:=by kernel_rfl
theorem Zab:o2y.guard=some (2,true):=by kernel_rfl
theorem Wy:o2y.dst=some 20:=by kernel_rfl
theorem Zev:((o2p++o2y::o2s).toArray[2]?).bind (·.dst)=some 16:=by kernel_rfl
def cD:Nat->List (SV thy)->Hp thy->Nat->(Res thy->Prop)->Prop:=Zw E2 FD (vc E2 FD 400)
theorem Zzp:Zac E2 cD:=Zi Zm Zz1 400
theorem Xw (o:Oper) (T:Fr thy) (h:Hp thy) (i:Nat) (k:Res thy->Prop) (hD:DomLt h i) (hk:step E2 cD o.op T h i k):∃r,k r/\OpTri2 E2 o T h i r:=Zbx Zm Zzp (fun _ _ _ _ _ hk=>W8 Zz1 hk) o T h i k hD hk
theorem Zcg:∀(cs:List Code) (f N:Nat) (T:Fr thy) (h:Hp thy) (i:Nat) (ms:List Nat) (K:Fr thy->Hp thy->Nat->List Nat->Prop),DomLt h i->vcs FD 400 f N cs T h i ms K->
 ∃T' h' i' ms',K T' h' i' ms'/\i<=i'/\Dom h i h' i'/\(∃m,ms'=m++ms/\Yf h i i' m)/\
  ∀(B:Nat) (σ:Pl) (g:GH) (w:World) (a:Act) (Q:Act->World->Prop),Inv E2 B σ h g w->B<=w.heap.size->(∀b,i<=b->b<i'->σ b=none)->FrOk E2 σ g T a->a.tmps.size=N->
   (∀a' w',Aft E2 B N i i' ms' σ g w a.defers T' h' a' w'->Q a' w')->cs.foldr (fun c k a w=>c.wp E2.P (Exit.then k fun _ _ _=>False) a w) Q a w
 | [],f,N,T,h,i,ms,K,hD,hk=>⟨T,h,i,ms,hk,Nat.le_refl _,⟨hD,fun b hb=> .inl hb⟩,⟨[],rfl,fun b hb=>by simp at hb⟩,fun B σ g w a Q hI hB hfree hF hN hQ=>hQ a w ⟨rfl,hN,σ,g,by rw [Nat.sub_self];exact (Stp.refl i σ g w).weaken (by simp),hI,hF⟩⟩
 |c::cs,f,N,T,h,i,ms,K,hD,hk=>by
  obtain ⟨e,T1,h1,i1,ms1,hK,hi,hDo,⟨m,rfl,hM⟩,t1⟩:=(Zkl Zm Zz1 400 f N c).1 T h i ms _ hD hk
  cases e with
  |normal=>
   obtain ⟨T2,h2,i2,ms2,hK2,hi2,hDo2,⟨m',rfl,hM'⟩,t2⟩:=Zcg cs f N T1 h1 i1 _ K hDo.1 hK
   refine ⟨T2,h2,i2,_,hK2,by omega,hDo.trans hi hDo2,⟨m'++m,by simp,Uq hDo hi hi2 hM hM'⟩,fun B σ g w a Q hI hB hfree hF hN hQ=> ?_⟩
   show c.wp E2.P (Exit.then _ _) a w
   refine t1 B σ g w a _ hI hB (fun b q1 q2=>hfree b q1 (by omega)) hF hN fun a1 w1 hA=> ?_
   show List.foldr _ Q cs a1 w1
   obtain ⟨σ1,g1,k1,k2,k3,k4,k5⟩:=hA.trans hi hi2 hB hfree ⟨m',rfl⟩
   exact t2 B σ1 g1 w1 a1 Q k1 k2 k3 k4 hA.sz fun a2 w2 hA2=>hQ a2 w2 (k5 _ _ _ _ hA2)
  |_=>exact hK.elim
def itT:Zd5 thy:=fun T h i ms K=>vcs FD 400 50 36 [it4,it3] T h i ms K
theorem Zx2:Zd6 E2 36 it4 it3 itT:=fun T h i ms K hD hk=>Zcg [it4,it3] 50 36 T h i ms K hD hk
end
section
open Go.RowKit
section
variable {Y:Thy} {E:Eng Y}
structure Bel (B:Nat) (g:GH) (w:World) (g':GH) (w':World):Prop where
 gle:g.le g'
 gcnew:∀r o v,g'.cell r o=some v->g.cell r o=some v\/B<=r
 gmnew:∀r es,g'.obj r=some es->g.obj r=some es\/B<=r
 heap:∀r,r<B->w'.heap[r]? =w.heap[r]?
 size:w.heap.size<=w'.heap.size
 os:w'.os=w.os
 tape:w'.tape=w.tape
 output:w'.output=w.output
theorem Bel.trans {B:Nat} {g g1 g2:GH} {w w1 w2:World} (h:Bel B g w g1 w1) (k:Bel B g1 w1 g2 w2):Bel B g w g2 w2:=
 ⟨h.gle.trans k.gle,fun r o v hv=>(k.gcnew r o v hv).elim (h.gcnew r o v) .inr,fun r es hv=>(k.gmnew r es hv).elim (h.gmnew r es) .inr,fun r hr=>(k.heap r hr).trans (h.heap r hr),Nat.le_trans h.size k.size,k.os.trans h.os,k.tape.trans h.tape,k.output.trans h.output⟩
theorem Bel.stp {B i n:Nat} {m:List Nat} {σ σ':Pl} {h:Hp Y} {g g':GH} {w w':World} (hS:Stp i n m σ g w σ' g' w') (hI:Inv E B σ h g w) (hB:B<=w.heap.size):Bel B g w g' w':=
 ⟨hS.gle,fun r o v hv=>(hS.gcnew r o v hv).imp id fun k=>k.elim (fun k=>Nat.le_trans hB k) fun ⟨b,_,z,hs⟩=>(hI.base b r z hs).1,fun r es hv=>(hS.gmnew r es hv).imp id fun k=>Nat.le_trans hB k,
  fun r hr=>hS.heap r (Nat.lt_of_lt_of_le hr hB) fun b _ z hs=>by have:=(hI.base b r z hs).1;omega,hS.size,hS.os,hS.tape,hS.output⟩
theorem Bel.stpL {B i M:Nat} {md:List Nat} {σ σ':Pl} {h:Hp Y} {g g':GH} {w w':World} (hS:StpL i M md σ g w σ' g' w') (hI:Inv E B σ h g w) (hB:B<=w.heap.size):Bel B g w g' w':=
 ⟨hS.gle,fun r o v hv=>(hS.gcnew r o v hv).imp id fun k=>k.elim (fun k=>Nat.le_trans hB k) fun ⟨b,z,_,hs⟩=>(hI.base b r z hs).1,fun r es hv=>(hS.gmnew r es hv).imp id fun k=>Nat.le_trans hB k,
  fun r hr=>hS.heap r (Nat.lt_of_lt_of_le hr hB) fun ⟨b,z,_,hs⟩=>by have:=(hI.base b r z hs).1;omega,hS.size,hS.os,hS.tape,hS.output⟩
theorem Bel.put {B:Nat} (g:GH) (w:World) {l:Nat} (hl:B<=l) (o:Obj):Bel B g w g (w.putObj l o):=
 ⟨.refl _,fun _ _ _ h=> .inl h,fun _ _ h=> .inl h,fun r hr=>World.putObj_heap_other (by omega),by simp,rfl,rfl,rfl⟩
theorem Bel.alloc {B:Nat} (g:GH) (w:World) (hB:B<=w.heap.size) (o:Obj):Bel B g w g (w.alloc o):=
 ⟨.refl _,fun _ _ _ h=> .inl h,fun _ _ h=> .inl h,fun r hr=>Below.heap_alloc w o r (by omega),by simp,rfl,rfl,rfl⟩
structure ItSt (E:Eng Y) (B:Nat) (frOut:List (Nat×SV Y)) (ao:Act) (l D:Nat) (r:Loop) (g0:GH) (w0:World) (hd:Nat) (h:Hp Y) (σ:Pl) (g:GH) (W:World):Prop where
 inv:Inv E B σ h g W
 bel:Bel B g0 w0 g W
 le:B<=W.heap.size
 fr:FrOk E σ g (frOf frOut) ao
 rc:W.heap[l]? =some (.loop r)
 free:∀b,hd<=b->σ b=none
 dk:W.heap[D]? =some (.deferred (some []))
def mu6 (m:Nat) (a:Act):Nat:=m+1-(match a.eval (.tmp 6) with| .int _ n=>n.toNat|_=>0)
theorem Ztz (hE:EngOk E) {cD:Zso Y} (Xw:∀(o:Oper) T h i k,DomLt h i->step E cD o.op T h i k->∃r,k r/\OpTri2 E o T h i r) {VT:Zd5 Y} {it4 it3:Code} (hVT:Zd6 E 36 it4 it3 VT) {o2p o2s:List Oper} {o2y:Oper} {ts:Array TypeId}
 (Zaa:o2y.op= .call {callee:= .value (.tmp 17),args:= #[.tmp 18,.tmp 19],argTypes:=ts}) (Zab:o2y.guard=some (2,true)) (Wy:o2y.dst=some 20) (Zev:((o2p++o2y::o2s).toArray[2]?).bind (·.dst)=some 16)
 {fI:Nat->List (Nat×SV Y)} (hfI:∀k,frOf (fI k) 6= .int false .i64 (k:Int)) {NO:Nat} {assign body:Code} {p1 p2:Tmp} {frOut:List (Nat×SV Y)} {md:List Nat} {l m:Nat} {KN:Nat->Fr Y->Hp Y->Prop} {KE KR:Nat->Hp Y->Prop} (hp1:p1<NO) (hp2:p2<NO)
 {headP:Nat->Hp Y->Prop} (hit:∀k,k<=m->∀h,headP k h->DomLt h 8/\itC E cD VT o2p o2y o2s (fI k) NO assign body [p1,p2] frOut md l h (KN k) (KE k) (KR k))
 (ao:Act) (hNo:ao.tmps.size=NO)
 (hKN:∀k T h,k<=m->KN k T h->k+1<=m/\∀(B:Nat) (σ:Pl) (g:GH) (W:World) (a:Act),Inv E B σ h g W->FrOk E σ g T a->FrOk E σ g (frOf frOut) ao->∃σ' h',headP (k+1) h'/\StpL 7 60 md σ g W σ' g W/\Inv E B σ' h' g W/\FrOk E σ' g (frOf frOut) ao/\FrOk E σ' g (frOf (fI (k+1))) a/\∀b,8<=b->b<60->σ' b=none)
 {B:Nat} (D:Nat) (fn:FuncId) (g0:GH) (w0:World) (n:Nat) (Q:Exit->Act->World->Prop) (hO:¬LetsOut Q) (a:Act) (W:World) (hBl:B<=l) (hDl:D≠l)
 (hQe:∀a' W' k σ g h,k<=m->KE k h->ItSt E B frOut ao l D (rdy fn ao.tmps [p1,p2] assign body D) g0 w0 60 h σ g W'->a'.tmps.size=36->a'.defers=a.defers->Q (.exit 0) a' W')
 (hQr:∀a' W' k σ g h,k<=m->KR k h->ItSt E B frOut ao l D {rdy fn ao.tmps [p1,p2] assign body D with state:= .done,pending:=some .ret} g0 w0 60 h σ g W'->a'.tmps.size=36->a'.defers=a.defers->Q (.exit 0) a' W')
 {σ:Pl} {g:GH} {h:Hp Y} (hh:headP 0 h) (h0:ItSt E B frOut ao l D (rdy fn ao.tmps [p1,p2] assign body D) g0 w0 8 h σ g W) (hF:FrOk E σ g (frOf (fI 0)) a) (hN:a.tmps.size=36) (hown:¬Own 7 60 md σ l) (howD:¬Own 7 60 md σ D):
 (Code.loop (.seq (.seq (.region 2 (o2p++o2y::o2s).toArray false) (.cond (.tmp 26) .skip (.exit 0))) (.seq it4 it3))).wpIn Fence.wide (n+1) E.P Q a W:=by
 refine wpIn_loop (fun a' W'=>∃k σ g h,k<=m/\headP k h/\ItSt E B frOut ao l D (rdy fn ao.tmps [p1,p2] assign body D) g0 w0 8 h σ g W'/\FrOk E σ g (frOf (fI k)) a'/\a'.tmps.size=36/\a'.defers=a.defers/\¬Own 7 60 md σ l/\¬Own 7 60 md σ D) (fun a' _=>mu6 m a') ⟨0,σ,g,h,Nat.zero_le _,hh,h0,hF,hN,rfl,hown,howD⟩ ?_
 rintro a1 w1 ⟨k,σ1,g1,h1,hk,hh1,s1,hF1,hN1,hd1,hown1,howD1⟩
 obtain ⟨hdom,hc⟩:=hit k hk h1 hh1
 have hlt:l<w1.heap.size:=(Array.getElem?_eq_some_iff.1 s1.rc).1
 have hltD:D<w1.heap.size:=(Array.getElem?_eq_some_iff.1 s1.dk).1
 have e6:∀(σ:Pl) (g:GH) (k:Nat) (a:Act),FrOk E σ g (frOf (fI k)) a->a.eval (.tmp 6)= .int .i64 (k:Int):=fun σ g k a hF=>by
  have:=hF 6
  rw [hfI] at this
  generalize a.eval (.tmp 6)=u at this
  cases this;rfl
 refine Zzo hE Xw hVT Zaa Zab Wy Zev hp1 hp2 hdom hc n B σ1 g1 w1 a1 ao D fn s1.inv s1.le (fun b q1 _=>s1.free b q1) hF1 hN1 s1.fr hNo s1.rc hown1 _ (fun ⟨x,y,h⟩=>hO ⟨x,y,h⟩) ?_ ?_ ?_
 · intro a' W' σ' g' T4 h4 hkn hr hF' hz hdf
   obtain ⟨hk1,hfit⟩:=hKN k T4 h4 hk hkn
   obtain ⟨σ2,h',p1',p2',p3,p4,p5,p6⟩:=hfit B σ' g' W' a' hr.inv hF' hr.fr
   have hst:=hr.st.trans p2'
   refine ⟨⟨k+1,σ2,g',h',hk1,p1',⟨p3,s1.bel.trans (Bel.stpL hr.st s1.inv s1.le),Nat.le_trans s1.le hr.st.size,p4,hr.rc,fun b hb=> ?_,?_⟩,p5,hz,hdf.trans hd1,fun ho=> ?_,fun ho=> ?_⟩,?_⟩
   · by_cases c:b<60
     · exact p6 b hb c
     · rw [hst.out b (by omega)];exact s1.free b hb
   · exact (hr.st.heap D hltD howD1).trans s1.dk
   · rcases hst.own l ho with q|q
     · omega
     · exact hown1 q
   · rcases hst.own D ho with q|q
     · omega
     · exact howD1 q
   · show mu6 m a'<mu6 m a1
     unfold mu6
     rw [e6 _ _ _ _ p5,e6 _ _ _ _ hF1]
     simp only [Int.toNat_natCast]
     omega
 · intro a' W' σ' g' h3 hke hr hz hdf
   exact hQe a' W' k σ' g' h3 hk hke ⟨hr.inv,s1.bel.trans (Bel.stpL hr.st s1.inv s1.le),Nat.le_trans s1.le hr.st.size,hr.fr,hr.rc,(fun b hb=>by rw [hr.st.out b (by omega)];exact s1.free b (by omega)),(hr.st.heap D hltD howD1).trans s1.dk⟩ hz (hdf.trans hd1)
 · intro a' W' W3 σ3 g3 h2 σ' g' h3 hkr hr1 hr2 hz hdf
   have b1:=s1.bel.trans (Bel.stpL hr1.st s1.inv s1.le)
   have l3:B<=W3.heap.size:=Nat.le_trans s1.le hr1.st.size
   have hI3:=Xr hr1.inv hr1.rc rfl (fun es c e=>by cases e) (.loop {rdy fn ao.tmps [p1,p2] assign body D with state:= .done,pending:=some .ret})
   have b2:=Bel.stpL hr2.st hI3 (by simp;exact l3)
   have sz:=hr2.st.size
   simp at sz
   refine hQr a' W' k σ' g' h3 hk hkr ⟨hr2.inv,(b1.trans (Bel.put g3 W3 hBl _)).trans b2,Nat.le_trans l3 sz,hr2.fr,hr2.rc,(fun b hb=>by rw [hr2.st.out b (by omega),hr1.st.out b (by omega)];exact s1.free b (by omega)),?_⟩ hz (hdf.trans hd1)
   have d3:W3.heap[D]? =some (.deferred (some [])):=(hr1.st.heap D hltD howD1).trans s1.dk
   have lt3:D<W3.heap.size:=(Array.getElem?_eq_some_iff.1 d3).1
   refine (hr2.st.heap D (by simpa using lt3) fun ho=> ?_).trans ((World.putObj_heap_other hDl).trans d3)
   rcases hr1.st.own D ho with q|q
   · omega
   · exact howD1 q
theorem Zwx {n:Nat} {P:Program} {x y z:Code} {a:Act} {w:World} {Q:Exit->Act->World->Prop} (h:x.wp P (Exit.then (fun a w=>y.wp P (Exit.then (fun a w=>z.wpIn Fence.wide n P Q a w) fun _ _ _=>False) a w) fun _ _ _=>False) a w):(Code.seq x (.seq y z)).wpIn Fence.wide n P Q a w:=by
 refine wpIn_seq (wpIn_wide.2 (wp_mono h fun e a w he=> ?_))
 cases e with
 |normal=>
  refine wpIn_seq (wpIn_wide.2 (wp_mono he fun e a w hq=> ?_))
  cases e with
  |normal=>exact hq
  |_=>exact hq.elim
 |_=>exact he.elim
theorem Zwy (hE:EngOk E) {cD:Zso Y} (Xw:∀(o:Oper) T h i k,DomLt h i->step E cD o.op T h i k->∃r,k r/\OpTri2 E o T h i r) {V0 VT:Zd5 Y} {it0 it1 it4 it3:Code} (hV0:Zd6 E 36 it0 it1 V0) (hVT:Zd6 E 36 it4 it3 VT) {o2p o2s:List Oper} {o2y:Oper} {ts:Array TypeId}
 (Zaa:o2y.op= .call {callee:= .value (.tmp 17),args:= #[.tmp 18,.tmp 19],argTypes:=ts}) (Zab:o2y.guard=some (2,true)) (Wy:o2y.dst=some 20) (Zev:((o2p++o2y::o2s).toArray[2]?).bind (·.dst)=some 16)
 {gf:FuncId} {fI:Func} (hf:E.P.funcs[gf]? =some fI) (hbody:fI.body=some (.seq it0 (.seq it1 (.block 0 (.loop (.seq (.seq (.region 2 (o2p++o2y::o2s).toArray false) (.cond (.tmp 26) .skip (.exit 0))) (.seq it4 it3))))))) (hnt:fI.ntmps=36) (hres:fI.results= #[]) (eg:∀args w,(callFunc gf args).run E.P w= .ok (.enter gf args) w)
 {fr:Nat->Nat->List (Nat×SV Y)} (hfI:∀l k,frOf (fr l k) 6= .int false .i64 (k:Int)) {NO:Nat} {assign body:Code} {p1 p2:Tmp} {frOut:List (Nat×SV Y)} {md:List Nat} {m:Nat} {K0:Nat->Fr Y->Hp Y->Prop} {KN:Nat->Nat->Fr Y->Hp Y->Prop} {KE KR:Nat->Hp Y->Prop} (hp1:p1<NO) (hp2:p2<NO)
 {headP:Nat->Hp Y->Prop} (hit:∀l k,k<=m->∀h,headP k h->DomLt h 8/\itC E cD VT o2p o2y o2s (fr l k) NO assign body [p1,p2] frOut md l h (KN l k) (KE k) (KR k))
 {gs b1 b2:Nat} {hE0:Hp Y} (hdom0:DomLt hE0 6) (hent:∀l,V0 (nthD [.val (.func (.yield l) #[] #[]),.ptr b1 0,.ptr b2 0]) hE0 6 [] fun T h i ms=>i<=60/\K0 l T h)
 {T:Fr Y} (hT:T gs= .fn (.func gf) [] [.ptr b1 0,.ptr b2 0]) {B:Nat} {σ:Pl} {g g0:GH} {W w0:World} {a:Act} (hI:Inv E B σ hE0 g W) (hB:B<=W.heap.size) (hbel:Bel B g0 w0 g W) (hfree:∀b,6<=b->σ b=none) (hFT:FrOk E σ g T a) (hFo:FrOk E σ g (frOf frOut) a) (hNo:a.tmps.size=NO)
 (hK0:∀l T h,K0 l T h->∀(σ:Pl) (g:GH) (W:World) (ai:Act),Inv E B σ h g W->FrOk E σ g T ai->FrOk E σ g (frOf frOut) a->∃σ' h',headP 0 h'/\StpL 7 60 md σ g W σ' g W/\Inv E B σ' h' g W/\FrOk E σ' g (frOf frOut) a/\FrOk E σ' g (frOf (fr l 0)) ai/\∀b,8<=b->b<60->σ' b=none)
 (hKN:∀l k T h,k<=m->KN l k T h->k+1<=m/\∀(B:Nat) (σ:Pl) (g:GH) (W:World) (ai:Act),Inv E B σ h g W->FrOk E σ g T ai->FrOk E σ g (frOf frOut) a->∃σ' h',headP (k+1) h'/\StpL 7 60 md σ g W σ' g W/\Inv E B σ' h' g W/\FrOk E σ' g (frOf frOut) a/\FrOk E σ' g (frOf (fr l (k+1))) ai/\∀b,8<=b->b<60->σ' b=none)
 (n:Nat) (Q:Exit->Act->World->Prop) (hO:¬LetsOut Q)
 (hEnd:∀D W' k σ g h,B<=D->k<=m->KE k h->Inv E B σ h g W'->Bel B g0 w0 g W'->B<=W'.heap.size->FrOk E σ g (frOf frOut) a->(∀b,60<=b->σ b=none)->W'.heap[D]? =some (.deferred (some []))->Q .normal {a with defers:={target:= .collected D,args:= #[]}::a.defers} W')
 (hRet:∀D W' k σ g h,B<=D->k<=m->KR k h->Inv E B σ h g W'->Bel B g0 w0 g W'->B<=W'.heap.size->FrOk E σ g (frOf frOut) a->(∀b,60<=b->σ b=none)->W'.heap[D]? =some (.deferred (some []))->Q .ret {a with defers:={target:= .collected D,args:= #[]}::a.defers} W'):
 (Code.rangeFunc (.tmp gs) #[p1,p2] assign body).wpIn Fence.wide n E.P Q a W:=by
 refine wpIn_rangeFunc fun fn _=> ?_
 obtain ⟨W1,hW1⟩:∃W1,(W.alloc (.deferred (some []))).alloc (.loop (rdy fn a.tmps [p1,p2] assign body W.heap.size))=W1:=⟨_,rfl⟩
 have hL1:W1.heap[W.heap.size+1]? =some (.loop (rdy fn a.tmps [p1,p2] assign body W.heap.size)):=by
  rw [<-hW1];have:=World.alloc_heap_new (W.alloc (.deferred (some []))) (.loop (rdy fn a.tmps [p1,p2] assign body W.heap.size));rwa [World.size_alloc] at this
 have hD1:W1.heap[W.heap.size]? =some (.deferred (some [])):=by
  rw [<-hW1];exact (Below.heap_alloc _ _ _ (by simp)).trans (World.alloc_heap_new W _)
 have hI1:Inv E B σ hE0 g W1:=by rw [<-hW1];exact Ze0 (Ze0 hI _) _
 have hb1:Bel B g0 w0 g W1:=by rw [<-hW1];exact (hbel.trans (Bel.alloc g W hB _)).trans (Bel.alloc g _ (by simp;omega) _)
 have hs1:W1.heap.size=W.heap.size+2:=by rw [<-hW1];simp
 have hev:∃u1 u2,a.eval (.tmp gs)= .func (.func gf) #[] #[u1,u2]/\Den E σ g (.ptr b1 0) u1/\Den E σ g (.ptr b2 0) u2:=by
  have:=hFT gs
  rw [hT] at this
  generalize a.eval (.tmp gs)=u at this
  cases this with
  |fn ca cb s1 s2 s3 s4 s5 s6=>
   rename_i va vb
   have e1:va= #[]:=Array.eq_empty_of_size_eq_zero s1
   have e2:vb= #[cb 0,cb 1]:=by
    have q0:=s5 0 (by simp)
    have q1:=s5 1 (by simp)
    have hz:vb.size=2:=s4
    apply Array.ext (by simpa using hz)
    intro j h1 h2
    match j,h1,h2 with
    |0,h1,h2=>rw [Array.getElem?_eq_getElem h1] at q0;simpa using q0
    |1,h1,h2=>rw [Array.getElem?_eq_getElem h1] at q1;simpa using q1
    |j+2,h1,h2=>omega
   rw [e1,e2]
   exact ⟨_,_,rfl,s6 0 _ rfl,s6 1 _ rfl⟩
 obtain ⟨u1,u2,hg,hu1,hu2⟩:=hev
 refine ⟨W.heap.size+1,[{target:= .collected W.heap.size,args:= #[]}],W1,{target:= .fn (.func gf) #[u1,u2],args:= #[.func (.yield (W.heap.size+1)) #[] #[]]},W1,gf,#[.func (.yield (W.heap.size+1)) #[] #[]]++ #[u1,u2],W1,?_,?_,fun _ _=>trivial,?_,fun h=>(by cases h),?_⟩
 · rw [<-hW1];exact run_enterLoop_outer _ _ _ _ _
 · simp only [resolve,hg]
   simp [go_sem]
 · simp [invoke,go_sem,eg]
 · refine callsIn_of_wp hf hbody trivial ?_
   have hdd:DenL E σ g [.val (.func (.yield (W.heap.size+1)) #[] #[]),.ptr b1 0,.ptr b2 0] (#[.func (.yield (W.heap.size+1)) #[] #[]]++ #[u1,u2]:Array Value).toList:=⟨rfl,fun j sv u q1 q2=>by
    match j,q1,q2 with
    |0,q1,q2=>cases q1;cases q2;exact .val _
    |1,q1,q2=>cases q1;cases q2;exact hu1
    |2,q1,q2=>cases q1;cases q2;exact hu2⟩
   obtain ⟨T',h',i',ms',⟨hi60,hk0⟩,hi,hDo,hm,t0⟩:=hV0 _ hE0 6 [] _ hdom0 (hent (W.heap.size+1))
   rw [hnt]
   refine Zwx (t0 B σ g W1 _ (fun a w=>(Code.block 0 (.loop (.seq (.seq (.region 2 (o2p++o2y::o2s).toArray false) (.cond (.tmp 26) .skip (.exit 0))) (.seq it4 it3)))).wpIn Fence.wide _ E.P _ a w) hI1 (by omega) (fun b q1 q2=>hfree b q1) (Xi hdd (by simp)) (Xj hdd (by simp)) ?_)
   rintro a1 w1 ⟨d1,z1,σ1,g1,hS1,hI2,hF1⟩
   obtain ⟨σ2,h2,q1,q2,q3,q4,q5,q6⟩:=hK0 _ T' h' hk0 σ1 g1 w1 a1 hI2 hF1 (hFo.mono hS1.sig hS1.gle)
   have keep:∀j,W.heap.size<=j->j<W1.heap.size->w1.heap[j]? =W1.heap[j]? :=fun j k1 k2=>hS1.heap j k2 fun b _ z hs=>by have:=(hI.base b j z hs).2;omega
   have hl2:=(keep (W.heap.size+1) (by omega) (by omega)).trans hL1
   have hd2:=(keep W.heap.size (by omega) (by omega)).trans hD1
   have sz1:=hS1.size
   have own1:∀j,W.heap.size<=j->j<W1.heap.size->¬Own 7 60 md σ2 j:=fun j k1 k2 ho=>by
    rcases q2.own j ho with k|k
    · omega
    · obtain ⟨b,z,_,hs⟩:=k
      cases hq:σ b with
      |some p=>
       have:=hS1.sig b p hq
       rw [hs] at this
       cases this
       have:=(hI.base b j z hq).2
       omega
      |none=>
       rcases hS1.blk b j z hq hs with k|⟨b',_,z',k⟩
       · omega
       · have:=(hI.base b' j z' k).2
         omega
   refine wpIn_wide.2 (wpIn_wide.1 (wpIn_block (n:=0+1) (Ztz hE Xw hVT Zaa Zab Wy Zev (fI:=fr (W.heap.size+1)) (hfI _) hp1 hp2 (hit (W.heap.size+1)) a hNo (hKN (W.heap.size+1)) W.heap.size fn g0 w0 0 _ ?_ a1 w1 (by omega) (by omega) ?_ ?_ q1 ⟨q3,hb1.trans (Bel.stp hS1 hI1 (by omega)),by omega,q4,hl2,fun b hb=> ?_,hd2⟩ q5 z1 (own1 _ (by omega) (by omega)) (own1 _ (by omega) (by omega)))))
   · rintro ⟨x,y,hx⟩
     exact hO hx
   · intro a' W' k σ' g' h3 hk hke st hz hdf
     simp only [Exit.inBlock,if_true]
     refine ⟨hdf.trans d1,_,results_none hres _ _ _,none,_,run_endLoop st.rc (by simp [rdy]),?_⟩
     exact hEnd W.heap.size _ k σ' g' h3 (by omega) hk hke (Xr st.inv st.rc rfl (fun es c e=>by cases e) _) (st.bel.trans (Bel.put _ _ (by omega) _)) (by simp;exact st.le) st.fr st.free ((World.putObj_heap_other (by omega)).trans st.dk)
   · intro a' W' k σ' g' h3 hk hkr st hz hdf
     simp only [Exit.inBlock,if_true]
     refine ⟨hdf.trans d1,_,results_none hres _ _ _,some .ret,_,run_endLoop st.rc (by simp),wpIn_ret ?_⟩
     exact hRet W.heap.size _ k σ' g' h3 (by omega) hk hkr (Xr st.inv st.rc rfl (fun es c e=>by cases e) _) (st.bel.trans (Bel.put _ _ (by omega) _)) (by simp;exact st.le) st.fr st.free ((World.putObj_heap_other (by omega)).trans st.dk)
   · by_cases c:b<60
     · exact q6 b hb c
     · rw [q2.out b (by omega)]
       cases hq:σ1 b with
       |none=>rfl
       |some p=>
        rcases hS1.snew b p hq with k|k
        · rw [hfree b (by omega)] at k;cases k
        · omega
end
end
section
open Go Go.RowKit
/-- a digest's bytes -/
def lvL (c:List Ins) (v:Env) (k:Nat):List (List Int):=(List.range k).map fun j=>n32 (Xb c v (dsk c v j))
def A0R (c:List Ins) (v:Env):Ann thy:={X:=Unit,fr:=fun _=>(25,.fn (.func 50) [] [.ptr 4 0,.ptr 5 0])::frO,bl:=fun _=>blE c v,src:=fun _=> [],md:= [],ih:=6,M:=6,meas:=fun _=>0}
def AHR (c:List Ins) (v:Env) (b:Bool) (s:St) (a e:Int) (L:List (List Int)):Ann thy:={X:=Unit,fr:=fun _=>frO,bl:=fun _=>blH c v b s a e L,src:=fun _=>(match b with|true=> [(7,21008)]|false=> []),md:= [3,6],ih:=8,M:=60,meas:=fun _=>0}
def ren7:Nat->Option Nat:=fun b=>match Nat.blt b 7 with|true=>some b|false=>none
--@condg pre | (c : List Ins) (v : Env) | vcs FD 400 8 46 [rn0, rn1, rn4, rn5] (nthD [.psl .ins c false, envV v]) hp0 0 [] (fun T h i ms => Ww i 6 (fits E2 (A0R c v) 6 T h ()))
theorem Zv7 (c:List Ins) (v:Env):vcs FD 400 8 46 [rn0,rn1,rn4,rn5] (nthD [.psl .ins c false,envV v]) hp0 0 [] (fun T h i ms=>Ww i 6 (fits E2 (A0R c v) 6 T h ()))=(
  True/\∀(y:Int×Int),y=verF c->((Prod.snd y !=(0:Int))=true->False)/\((Prod.snd y !=(0:Int))=false->((Fn.func (50:Nat)=Fn.func
  (50:FuncId)/\True/\(0:Nat)=(0:Nat)/\(0:Nat)=(0:Nat)/\True)/\(0:Nat)=(0:Nat)/\(0:Nat)=(0:Nat)/\(0:Nat)=(0:Nat)/\
  (0:Nat)=(0:Nat)/\True)/\((c=c/\(false=true->false=true))/\True)/\(Env.has v=Env.has v/\Env.v0 v=Env.v0 v/\Env.v1 v=Env.v1 v/\Env.v2 v=Env.v2 v/\Env.v3
  v=Env.v3 v/\Env.v4 v=Env.v4 v/\Env.v5 v=Env.v5 v/\Env.v6 v=Env.v6 v/\Env.v7 v=Env.v7 v/\Env.v8 v=Env.v8 v/\Env.v9 v=Env.v9 v/\Env.v10 v=Env.v10 v/\Env.v11 v
  =Env.v11 v/\Env.v12 v=Env.v12 v/\Env.v13 v=Env.v13 v/\Env.v14 v=Env.v14 v/\Env.v15 v=Env.v15 v/\True)/\(Value.slice none (0:Nat) (0:Nat)=Value.slice none (0:
  Nat) (0:Nat)/\(0:Int)=(0:Int)/\(0:Int)=(0:Int)/\(0:Int)=(0:Int)/\(0:Int)=(0:Int)/\(0:Int)=(0:Int)/\(0:Int)=(0:Int)/\(0:Int)=(0:
  Int)/\(0:Int)=(0:Int)/\(0:Int)=(0:Int)/\(0:Int)=(0:Int)/\(0:Int)=(0:Int)/\(0:Int)=(0:Int)/\(0:Int)=(0:Int)/\(0:Int)=(0:Int)/\(0:
  Int)=(0:Int)/\(0:Int)=(0:Int)/\(0:Int)=(0:Int)/\(0:Int)=(0:Int)/\(0:Int)=(0:Int)/\Value.slice none (0:Nat) (0:Nat)=Value.slice none (0:Nat)
  (0:Nat)/\True)/\((c=c/\(false=true->false=true))/\Env.has v=Env.has v/\Env.v0 v=Env.v0 v/\Env.v1 v=Env.v1 v/\Env.v2 v=Env.v2 v/\Env.v3 v=Env.v3 v/\
  Env.v4 v=Env.v4 v/\Env.v5 v=Env.v5 v/\Env.v6 v=Env.v6 v/\Env.v7 v=Env.v7 v/\Env.v8 v=Env.v8 v/\Env.v9 v=Env.v9 v/\Env.v10 v=Env.v10 v/\Env.v11 v=Env.v11 v/\
  Env.v12 v=Env.v12 v/\Env.v13 v=Env.v13 v/\Env.v14 v=Env.v14 v/\Env.v15 v=Env.v15 v/\(0:Int)=(0:Int)/\(0:Int)=(0:Int)/\Value.slice none (0:Nat) (0:Nat)
  =Value.slice none (0:Nat) (0:Nat)/\True)/\((c=c/\(false=true->false=true))/\True)/\(Env.has v=Env.has v/\Env.v0 v=Env.v0 v/\Env.v1 v=Env.v1 v/\Env.v2 v=
  Env.v2 v/\Env.v3 v=Env.v3 v/\Env.v4 v=Env.v4 v/\Env.v5 v=Env.v5 v/\Env.v6 v=Env.v6 v/\Env.v7 v=Env.v7 v/\Env.v8 v=Env.v8 v/\Env.v9 v=Env.v9 v/\Env.v10 v=
  Env.v10 v/\Env.v11 v=Env.v11 v/\Env.v12 v=Env.v12 v/\Env.v13 v=Env.v13 v/\Env.v14 v=Env.v14 v/\Env.v15 v=Env.v15 v/\True)/\True)
  ):=by kernel_rfl
--@end
--@condg ent | (c : List Ins) (v : Env) (l : Nat) (s : St) | vcs FD 400 50 36 [it0, it1] (nthD [.val (.func (.yield l) #[] #[]), .ptr 4 0, .ptr 5 0]) (blOf (blE c v)) 6 [] (fun T h i ms => i ≤ 60 ∧ fits E2 (AHR c v false s 0 0 []) 7 (frOf frO) h () ∧ fitF ren7 T (frI l 0))
theorem Zv8 (c:List Ins) (v:Env) (l:Nat) (s:St):vcs FD 400 50 36 [it0,it1] (nthD [.val (.func (.yield l) #[] #[]),.ptr 4 0,.ptr 5 0]) (blOf (blE c v)) 6 [] (fun T h i ms=>i<=60/\fits E2 (AHR c v false s 0 0 []) 7 (frOf frO) h ()/\fitF ren7 T (frI l 0))=(
  True/\∀(y:St×Int),y=Zbd (wr IntKind.i64 ((↑(List.length c):Int)+(1:Int)))->(7:Nat)<=(60:Nat)/\(((0:Nat)=(0:Nat)/\(0:Nat)=(0:Nat)/\(0:Nat)=
  (0:Nat)/\(0:Nat)=(0:Nat)/\True)/\((c=c/\(false=true->false=true))/\True)/\(Env.has v=Env.has v/\Env.v0 v=Env.v0 v/\Env.v1 v=Env.v1 v/\Env.v2 v=
  Env.v2 v/\Env.v3 v=Env.v3 v/\Env.v4 v=Env.v4 v/\Env.v5 v=Env.v5 v/\Env.v6 v=Env.v6 v/\Env.v7 v=Env.v7 v/\Env.v8 v=Env.v8 v/\Env.v9 v=Env.v9 v/\Env.v10 v=
  Env.v10 v/\Env.v11 v=Env.v11 v/\Env.v12 v=Env.v12 v/\Env.v13 v=Env.v13 v/\Env.v14 v=Env.v14 v/\Env.v15 v=Env.v15 v/\True)/\(Value.slice none (0:Nat) (0:Nat)=
  Value.slice none (0:Nat) (0:Nat)/\(0:Int)=(0:Int)/\(0:Int)=(0:Int)/\(0:Int)=(0:Int)/\(0:Int)=(0:Int)/\(0:Int)=(0:Int)/\(0:Int)=(0:Int)
  /\(0:Int)=(0:Int)/\(0:Int)=(0:Int)/\(0:Int)=(0:Int)/\(0:Int)=(0:Int)/\(0:Int)=(0:Int)/\(0:Int)=(0:Int)/\(0:Int)=(0:Int)/\(0:Int)
  =(0:Int)/\(0:Int)=(0:Int)/\(0:Int)=(0:Int)/\(0:Int)=(0:Int)/\(0:Int)=(0:Int)/\(0:Int)=(0:Int)/\Value.slice none (0:Nat) (0:Nat)=
  Value.slice none (0:Nat) (0:Nat)/\True)/\((c=c/\(false=true->false=true))/\Env.has v=Env.has v/\Env.v0 v=Env.v0 v/\Env.v1 v=Env.v1 v/\Env.v2 v=Env.v2 v/\
  Env.v3 v=Env.v3 v/\Env.v4 v=Env.v4 v/\Env.v5 v=Env.v5 v/\Env.v6 v=Env.v6 v/\Env.v7 v=Env.v7 v/\Env.v8 v=Env.v8 v/\Env.v9 v=Env.v9 v/\Env.v10 v=Env.v10 v/\
  Env.v11 v=Env.v11 v/\Env.v12 v=Env.v12 v/\Env.v13 v=Env.v13 v/\Env.v14 v=Env.v14 v/\Env.v15 v=Env.v15 v/\(0:Int)=(0:Int)/\(0:Int)=(0:Int)/\Value.slice
  none (0:Nat) (0:Nat)=Value.slice none (0:Nat) (0:Nat)/\True)/\((c=c/\(false=true->false=true))/\True)/\(Env.has v=Env.has v/\Env.v0 v=Env.v0 v/\Env.v1 v
  =Env.v1 v/\Env.v2 v=Env.v2 v/\Env.v3 v=Env.v3 v/\Env.v4 v=Env.v4 v/\Env.v5 v=Env.v5 v/\Env.v6 v=Env.v6 v/\Env.v7 v=Env.v7 v/\Env.v8 v=Env.v8 v/\Env.v9 v=
  Env.v9 v/\Env.v10 v=Env.v10 v/\Env.v11 v=Env.v11 v/\Env.v12 v=Env.v12 v/\Env.v13 v=Env.v13 v/\Env.v14 v=Env.v14 v/\Env.v15 v=Env.v15 v/\True)/\(St.pc (Prod.fst
  y)=St.pc s/\St.fuel (Prod.fst y)=St.fuel s/\St.status (Prod.fst y)=St.status s/\St.clause (Prod.fst y)=St.clause s/\(St.stack (Prod.fst y)=St.stack s/\(false=true
  ->false=true))/\True)/\True)/\Value.func (Fn.yield l) #[] #[]=Value.func (Fn.yield l) #[] #[]/\(0:Nat)=(0:Nat)/\(0:Nat)=(0:Nat)/\(0:Nat)=(0:Nat)/\
  Prod.snd y=(0:Int)/\(0:Int)=(↑(0:Nat):Int)/\True
  ):=by kernel_rfl
--@end
--@condg itf | (c : List Ins) (v : Env) (l k k' : Nat) (s s' : St) (a e : Int) (L : List (List Int)) (PN PE : Prop) (KR : Hp thy → Prop) | itC E2 cD itT o2p o2y o2s (frI l k) 46 (rfA rnF) (rfB rnF) [26, 27] frO [3, 6] l (blOf (blH c v false s 0 0 [])) (fun T h => PN ∧ fits E2 (AHR c v true s' a e L) 7 (frOf frO) h () ∧ fitF ren7 T (frI l k')) (fun h => PE ∧ fits E2 (AHR c v true s a e L) 7 (frOf frO) h ()) KR
theorem Zv9 (c:List Ins) (v:Env) (l k k':Nat) (s s':St) (a e:Int) (L:List (List Int)) (PN PE:Prop) (KR:Hp thy->Prop):itC E2 cD itT o2p o2y o2s (frI l k) 46 (rfA rnF) (rfB rnF) [26,27] frO [3,6] l (blOf (blH c v false s 0 0 [])) (fun T h=>PN/\fits E2 (AHR c v true s' a e L) 7 (frOf frO) h ()/\fitF ren7 T (frI l k')) (fun h=>PE/\fits E2 (AHR c v true s a e L) 7 (frOf frO) h ()) KR=(
  Value.func (Fn.yield l) #[] #[]=Value.func (Fn.yield l) #[] #[]/\(List.length c<=(1000000:Nat)/\List.length (St.stack s)<=(1000000:Nat))/\∀(y:List Int),y=Xb c
  v s->List.length (St.stack s)<=(1000000:Nat)/\∀(y_1:Int×Int×Int),y_1=Zu s->((St.status s==(0:Int))=true->True/\∀(y_2:St×Int),y_2=Uf c v s->
  PN/\(((0:Nat)=(0:Nat)/\(0:Nat)=(0:Nat)/\(0:Nat)=(0:Nat)/\(0:Nat)=(0:Nat)/\True)/\((c=c/\(false=true->false=true))/\True)/\(Env.has v=
  Env.has v/\Env.v0 v=Env.v0 v/\Env.v1 v=Env.v1 v/\Env.v2 v=Env.v2 v/\Env.v3 v=Env.v3 v/\Env.v4 v=Env.v4 v/\Env.v5 v=Env.v5 v/\Env.v6 v=Env.v6 v/\Env.v7 v=
  Env.v7 v/\Env.v8 v=Env.v8 v/\Env.v9 v=Env.v9 v/\Env.v10 v=Env.v10 v/\Env.v11 v=Env.v11 v/\Env.v12 v=Env.v12 v/\Env.v13 v=Env.v13 v/\Env.v14 v=Env.v14 v/\
  Env.v15 v=Env.v15 v/\True)/\(Value.slice none (0:Nat) (0:Nat)=Value.slice none (0:Nat) (0:Nat)/\(0:Int)=(0:Int)/\(0:Int)=(0:Int)/\(0:Int)=(0:Int)
  /\(0:Int)=(0:Int)/\(0:Int)=(0:Int)/\(0:Int)=(0:Int)/\(0:Int)=(0:Int)/\(0:Int)=(0:Int)/\(0:Int)=(0:Int)/\(0:Int)=(0:Int)/\(0:Int)
  =(0:Int)/\(0:Int)=(0:Int)/\(0:Int)=(0:Int)/\(0:Int)=(0:Int)/\(0:Int)=(0:Int)/\(0:Int)=(0:Int)/\(0:Int)=(0:Int)/\(0:Int)=(0:Int)
  /\(0:Int)=(0:Int)/\Value.slice none (0:Nat) (0:Nat)=Value.slice none (0:Nat) (0:Nat)/\True)/\((c=c/\(false=true->false=true))/\Env.has v=Env.has v/\
  Env.v0 v=Env.v0 v/\Env.v1 v=Env.v1 v/\Env.v2 v=Env.v2 v/\Env.v3 v=Env.v3 v/\Env.v4 v=Env.v4 v/\Env.v5 v=Env.v5 v/\Env.v6 v=Env.v6 v/\Env.v7 v=Env.v7 v/\
  Env.v8 v=Env.v8 v/\Env.v9 v=Env.v9 v/\Env.v10 v=Env.v10 v/\Env.v11 v=Env.v11 v/\Env.v12 v=Env.v12 v/\Env.v13 v=Env.v13 v/\Env.v14 v=Env.v14 v/\Env.v15 v=
  Env.v15 v/\Prod.fst y_1=a/\Prod.snd (Prod.snd y_1)=e/\((0:Nat)=(0:Nat)/\(1:Nat)=List.length L/\True)/\True)/\((c=c/\(false=true->false=true))/\True)/\
  (Env.has v=Env.has v/\Env.v0 v=Env.v0 v/\Env.v1 v=Env.v1 v/\Env.v2 v=Env.v2 v/\Env.v3 v=Env.v3 v/\Env.v4 v=Env.v4 v/\Env.v5 v=Env.v5 v/\Env.v6 v=Env.v6 v/\
  Env.v7 v=Env.v7 v/\Env.v8 v=Env.v8 v/\Env.v9 v=Env.v9 v/\Env.v10 v=Env.v10 v/\Env.v11 v=Env.v11 v/\Env.v12 v=Env.v12 v/\Env.v13 v=Env.v13 v/\Env.v14 v=
  Env.v14 v/\Env.v15 v=Env.v15 v/\True)/\(St.pc (Prod.fst y_2)=St.pc s'/\St.fuel (Prod.fst y_2)=St.fuel s'/\St.status (Prod.fst y_2)=St.status s'/\St.clause (Prod.fst
  y_2)=St.clause s'/\(St.stack (Prod.fst y_2)=St.stack s'/\(false=true->false=true))/\True)/\([[List.getD y (0:Nat) (0:Int),List.getD y (1:Nat) (0:Int),
  List.getD y (2:Nat) (0:Int),List.getD y (3:Nat) (0:Int),List.getD y (4:Nat) (0:Int),List.getD y (5:Nat) (0:Int),List.getD y (6:Nat) (0:Int),List.getD y (7
  :Nat) (0:Int),List.getD y (8:Nat) (0:Int),List.getD y (9:Nat) (0:Int),List.getD y (10:Nat) (0:Int),List.getD y (11:Nat) (0:Int),List.getD y (12:Nat) (0:
  Int),List.getD y (13:Nat) (0:Int),List.getD y (14:Nat) (0:Int),List.getD y (15:Nat) (0:Int),List.getD y (16:Nat) (0:Int),List.getD y (17:Nat) (0:Int),
  List.getD y (18:Nat) (0:Int),List.getD y (19:Nat) (0:Int),List.getD y (20:Nat) (0:Int),List.getD y (21:Nat) (0:Int),List.getD y (22:Nat) (0:Int),List.getD
  y (23:Nat) (0:Int),List.getD y (24:Nat) (0:Int),List.getD y (25:Nat) (0:Int),List.getD y (26:Nat) (0:Int),List.getD y (27:Nat) (0:Int),List.getD y (28:
  Nat) (0:Int),List.getD y (29:Nat) (0:Int),List.getD y (30:Nat) (0:Int),List.getD y (31:Nat) (0:Int)]]=L/\(0:Nat)=(0:Nat))/\True)/\Value.func (Fn.yield
  l) #[] #[]=Value.func (Fn.yield l) #[] #[]/\(0:Nat)=(0:Nat)/\(0:Nat)=(0:Nat)/\(0:Nat)=(0:Nat)/\Prod.snd y_2=(0:Int)/\wr IntKind.i64 ((↑k:Int)+(1:
  Int))=(↑k':Int)/\True)/\((St.status s==(0:Int))=false->PE/\((0:Nat)=(0:Nat)/\(0:Nat)=(0:Nat)/\(0:Nat)=(0:Nat)/\(0:Nat)=(0:Nat)/\True)/\
  ((c=c/\(false=true->false=true))/\True)/\(Env.has v=Env.has v/\Env.v0 v=Env.v0 v/\Env.v1 v=Env.v1 v/\Env.v2 v=Env.v2 v/\Env.v3 v=Env.v3 v/\Env.v4 v=
  Env.v4 v/\Env.v5 v=Env.v5 v/\Env.v6 v=Env.v6 v/\Env.v7 v=Env.v7 v/\Env.v8 v=Env.v8 v/\Env.v9 v=Env.v9 v/\Env.v10 v=Env.v10 v/\Env.v11 v=Env.v11 v/\Env.v12 v=
  Env.v12 v/\Env.v13 v=Env.v13 v/\Env.v14 v=Env.v14 v/\Env.v15 v=Env.v15 v/\True)/\(Value.slice none (0:Nat) (0:Nat)=Value.slice none (0:Nat) (0:Nat)/\(0:Int)
  =(0:Int)/\(0:Int)=(0:Int)/\(0:Int)=(0:Int)/\(0:Int)=(0:Int)/\(0:Int)=(0:Int)/\(0:Int)=(0:Int)/\(0:Int)=(0:Int)/\(0:Int)=(0:Int)
  /\(0:Int)=(0:Int)/\(0:Int)=(0:Int)/\(0:Int)=(0:Int)/\(0:Int)=(0:Int)/\(0:Int)=(0:Int)/\(0:Int)=(0:Int)/\(0:Int)=(0:Int)/\(0:Int)
  =(0:Int)/\(0:Int)=(0:Int)/\(0:Int)=(0:Int)/\(0:Int)=(0:Int)/\Value.slice none (0:Nat) (0:Nat)=Value.slice none (0:Nat) (0:Nat)/\True)/\((c=c
  /\(false=true->false=true))/\Env.has v=Env.has v/\Env.v0 v=Env.v0 v/\Env.v1 v=Env.v1 v/\Env.v2 v=Env.v2 v/\Env.v3 v=Env.v3 v/\Env.v4 v=Env.v4 v/\Env.v5 v=
  Env.v5 v/\Env.v6 v=Env.v6 v/\Env.v7 v=Env.v7 v/\Env.v8 v=Env.v8 v/\Env.v9 v=Env.v9 v/\Env.v10 v=Env.v10 v/\Env.v11 v=Env.v11 v/\Env.v12 v=Env.v12 v/\Env.v13 v
  =Env.v13 v/\Env.v14 v=Env.v14 v/\Env.v15 v=Env.v15 v/\Prod.fst y_1=a/\Prod.snd (Prod.snd y_1)=e/\((0:Nat)=(0:Nat)/\(1:Nat)=List.length L/\True)/\True)/\
  ((c=c/\(false=true->false=true))/\True)/\(Env.has v=Env.has v/\Env.v0 v=Env.v0 v/\Env.v1 v=Env.v1 v/\Env.v2 v=Env.v2 v/\Env.v3 v=Env.v3 v/\Env.v4 v=
  Env.v4 v/\Env.v5 v=Env.v5 v/\Env.v6 v=Env.v6 v/\Env.v7 v=Env.v7 v/\Env.v8 v=Env.v8 v/\Env.v9 v=Env.v9 v/\Env.v10 v=Env.v10 v/\Env.v11 v=Env.v11 v/\Env.v12 v=
  Env.v12 v/\Env.v13 v=Env.v13 v/\Env.v14 v=Env.v14 v/\Env.v15 v=Env.v15 v/\True)/\(St.pc s=St.pc s/\St.fuel s=St.fuel s/\St.status s=St.status s/\St.clause s=
  St.clause s/\(St.stack s=St.stack s/\(false=true->false=true))/\True)/\([[List.getD y (0:Nat) (0:Int),List.getD y (1:Nat) (0:Int),List.getD y (2:Nat) (0:
  Int),List.getD y (3:Nat) (0:Int),List.getD y (4:Nat) (0:Int),List.getD y (5:Nat) (0:Int),List.getD y (6:Nat) (0:Int),List.getD y (7:Nat) (0:Int),List.getD
  y (8:Nat) (0:Int),List.getD y (9:Nat) (0:Int),List.getD y (10:Nat) (0:Int),List.getD y (11:Nat) (0:Int),List.getD y (12:Nat) (0:Int),List.getD y (13:Nat)
  (0:Int),List.getD y (14:Nat) (0:Int),List.getD y (15:Nat) (0:Int),List.getD y (16:Nat) (0:Int),List.getD y (17:Nat) (0:Int),List.getD y (18:Nat) (0:Int),
  List.getD y (19:Nat) (0:Int),List.getD y (20:Nat) (0:Int),List.getD y (21:Nat) (0:Int),List.getD y (22:Nat) (0:Int),List.getD y (23:Nat) (0:Int),List.getD
  y (24:Nat) (0:Int),List.getD y (25:Nat) (0:Int),List.getD y (26:Nat) (0:Int),List.getD y (27:Nat) (0:Int),List.getD y (28:Nat) (0:Int),List.getD y (29:
  Nat) (0:Int),List.getD y (30:Nat) (0:Int),List.getD y (31:Nat) (0:Int)]]=L/\(0:Nat)=(0:Nat))/\True)
  ):=by kernel_rfl
--@end
--@condg itt | (c : List Ins) (v : Env) (l k k' : Nat) (s s' : St) (a e a' e' : Int) (L L' : List (List Int)) (PN PE : Prop) (KR : Hp thy → Prop) | itC E2 cD itT o2p o2y o2s (frI l k) 46 (rfA rnF) (rfB rnF) [26, 27] frO [3, 6] l (blOf (blH c v true s a e L)) (fun T h => PN ∧ fits E2 (AHR c v true s' a' e' L') 7 (frOf frO) h () ∧ fitF ren7 T (frI l k')) (fun h => PE ∧ fits E2 (AHR c v true s a' e' L') 7 (frOf frO) h ()) KR
theorem Zwa (c:List Ins) (v:Env) (l k k':Nat) (s s':St) (a e a' e':Int) (L L':List (List Int)) (PN PE:Prop) (KR:Hp thy->Prop):itC E2 cD itT o2p o2y o2s (frI l k) 46 (rfA rnF) (rfB rnF) [26,27] frO [3,6] l (blOf (blH c v true s a e L)) (fun T h=>PN/\fits E2 (AHR c v true s' a' e' L') 7 (frOf frO) h ()/\fitF ren7 T (frI l k')) (fun h=>PE/\fits E2 (AHR c v true s a' e' L') 7 (frOf frO) h ()) KR=(
  Value.func (Fn.yield l) #[] #[]=Value.func (Fn.yield l) #[] #[]/\(List.length c<=(1000000:Nat)/\List.length (St.stack s)<=(1000000:Nat))/\∀(y:List Int),y=Xb c
  v s->(List.length L<=List.length L/\(0:Nat)<=List.length L/\(List.length L+(1:Nat))*(32:Nat)<=(140737488355328:Nat))/\List.length (St.stack s)<=(1000000:Nat)
  /\∀(y_1:Int×Int×Int),y_1=Zu s->((St.status s==(0:Int))=true->True/\∀(y_2:St×Int),y_2=Uf c v s->PN/\(((0:Nat)=(0:Nat)/\(0:Nat)=(0:
  Nat)/\(0:Nat)=(0:Nat)/\(0:Nat)=(0:Nat)/\True)/\((c=c/\(false=true->false=true))/\True)/\(Env.has v=Env.has v/\Env.v0 v=Env.v0 v/\Env.v1 v=Env.v1 v
  /\Env.v2 v=Env.v2 v/\Env.v3 v=Env.v3 v/\Env.v4 v=Env.v4 v/\Env.v5 v=Env.v5 v/\Env.v6 v=Env.v6 v/\Env.v7 v=Env.v7 v/\Env.v8 v=Env.v8 v/\Env.v9 v=Env.v9 v/\
  Env.v10 v=Env.v10 v/\Env.v11 v=Env.v11 v/\Env.v12 v=Env.v12 v/\Env.v13 v=Env.v13 v/\Env.v14 v=Env.v14 v/\Env.v15 v=Env.v15 v/\True)/\(Value.slice none (0:Nat)
  (0:Nat)=Value.slice none (0:Nat) (0:Nat)/\(0:Int)=(0:Int)/\(0:Int)=(0:Int)/\(0:Int)=(0:Int)/\(0:Int)=(0:Int)/\(0:Int)=(0:Int)/\(0:Int)
  =(0:Int)/\(0:Int)=(0:Int)/\(0:Int)=(0:Int)/\(0:Int)=(0:Int)/\(0:Int)=(0:Int)/\(0:Int)=(0:Int)/\(0:Int)=(0:Int)/\(0:Int)=(0:Int)
  /\(0:Int)=(0:Int)/\(0:Int)=(0:Int)/\(0:Int)=(0:Int)/\(0:Int)=(0:Int)/\(0:Int)=(0:Int)/\(0:Int)=(0:Int)/\Value.slice none (0:Nat) (0:
  Nat)=Value.slice none (0:Nat) (0:Nat)/\True)/\((c=c/\(false=true->false=true))/\Env.has v=Env.has v/\Env.v0 v=Env.v0 v/\Env.v1 v=Env.v1 v/\Env.v2 v=
  Env.v2 v/\Env.v3 v=Env.v3 v/\Env.v4 v=Env.v4 v/\Env.v5 v=Env.v5 v/\Env.v6 v=Env.v6 v/\Env.v7 v=Env.v7 v/\Env.v8 v=Env.v8 v/\Env.v9 v=Env.v9 v/\Env.v10 v=
  Env.v10 v/\Env.v11 v=Env.v11 v/\Env.v12 v=Env.v12 v/\Env.v13 v=Env.v13 v/\Env.v14 v=Env.v14 v/\Env.v15 v=Env.v15 v/\Prod.fst y_1=a'/\Prod.snd (Prod.snd y_1)=e'
  /\((0:Nat)=(0:Nat)/\List.length L+(1:Nat)=List.length L'/\True)/\True)/\((c=c/\(false=true->false=true))/\True)/\(Env.has v=Env.has v/\Env.v0 v=
  Env.v0 v/\Env.v1 v=Env.v1 v/\Env.v2 v=Env.v2 v/\Env.v3 v=Env.v3 v/\Env.v4 v=Env.v4 v/\Env.v5 v=Env.v5 v/\Env.v6 v=Env.v6 v/\Env.v7 v=Env.v7 v/\Env.v8 v=
  Env.v8 v/\Env.v9 v=Env.v9 v/\Env.v10 v=Env.v10 v/\Env.v11 v=Env.v11 v/\Env.v12 v=Env.v12 v/\Env.v13 v=Env.v13 v/\Env.v14 v=Env.v14 v/\Env.v15 v=Env.v15 v/\
  True)/\(St.pc (Prod.fst y_2)=St.pc s'/\St.fuel (Prod.fst y_2)=St.fuel s'/\St.status (Prod.fst y_2)=St.status s'/\St.clause (Prod.fst y_2)=St.clause s'/\(St.stack
  (Prod.fst y_2)=St.stack s'/\(false=true->false=true))/\True)/\(List.take (List.length L) L++ [[List.getD y (0:Nat) (0:Int),List.getD y (1:Nat) (0:Int),
  List.getD y (2:Nat) (0:Int),List.getD y (3:Nat) (0:Int),List.getD y (4:Nat) (0:Int),List.getD y (5:Nat) (0:Int),List.getD y (6:Nat) (0:Int),List.getD y (7
  :Nat) (0:Int),List.getD y (8:Nat) (0:Int),List.getD y (9:Nat) (0:Int),List.getD y (10:Nat) (0:Int),List.getD y (11:Nat) (0:Int),List.getD y (12:Nat) (0:
  Int),List.getD y (13:Nat) (0:Int),List.getD y (14:Nat) (0:Int),List.getD y (15:Nat) (0:Int),List.getD y (16:Nat) (0:Int),List.getD y (17:Nat) (0:Int),
  List.getD y (18:Nat) (0:Int),List.getD y (19:Nat) (0:Int),List.getD y (20:Nat) (0:Int),List.getD y (21:Nat) (0:Int),List.getD y (22:Nat) (0:Int),List.getD
  y (23:Nat) (0:Int),List.getD y (24:Nat) (0:Int),List.getD y (25:Nat) (0:Int),List.getD y (26:Nat) (0:Int),List.getD y (27:Nat) (0:Int),List.getD y (28:
  Nat) (0:Int),List.getD y (29:Nat) (0:Int),List.getD y (30:Nat) (0:Int),List.getD y (31:Nat) (0:Int)]]=L'/\(0:Nat)=(0:Nat))/\True)/\Value.func (Fn.yield
  l) #[] #[]=Value.func (Fn.yield l) #[] #[]/\(0:Nat)=(0:Nat)/\(0:Nat)=(0:Nat)/\(0:Nat)=(0:Nat)/\Prod.snd y_2=(0:Int)/\wr IntKind.i64 ((↑k:Int)+(1:
  Int))=(↑k':Int)/\True)/\((St.status s==(0:Int))=false->PE/\((0:Nat)=(0:Nat)/\(0:Nat)=(0:Nat)/\(0:Nat)=(0:Nat)/\(0:Nat)=(0:Nat)/\True)/\
  ((c=c/\(false=true->false=true))/\True)/\(Env.has v=Env.has v/\Env.v0 v=Env.v0 v/\Env.v1 v=Env.v1 v/\Env.v2 v=Env.v2 v/\Env.v3 v=Env.v3 v/\Env.v4 v=
  Env.v4 v/\Env.v5 v=Env.v5 v/\Env.v6 v=Env.v6 v/\Env.v7 v=Env.v7 v/\Env.v8 v=Env.v8 v/\Env.v9 v=Env.v9 v/\Env.v10 v=Env.v10 v/\Env.v11 v=Env.v11 v/\Env.v12 v=
  Env.v12 v/\Env.v13 v=Env.v13 v/\Env.v14 v=Env.v14 v/\Env.v15 v=Env.v15 v/\True)/\(Value.slice none (0:Nat) (0:Nat)=Value.slice none (0:Nat) (0:Nat)/\(0:Int)
  =(0:Int)/\(0:Int)=(0:Int)/\(0:Int)=(0:Int)/\(0:Int)=(0:Int)/\(0:Int)=(0:Int)/\(0:Int)=(0:Int)/\(0:Int)=(0:Int)/\(0:Int)=(0:Int)
  /\(0:Int)=(0:Int)/\(0:Int)=(0:Int)/\(0:Int)=(0:Int)/\(0:Int)=(0:Int)/\(0:Int)=(0:Int)/\(0:Int)=(0:Int)/\(0:Int)=(0:Int)/\(0:Int)
  =(0:Int)/\(0:Int)=(0:Int)/\(0:Int)=(0:Int)/\(0:Int)=(0:Int)/\Value.slice none (0:Nat) (0:Nat)=Value.slice none (0:Nat) (0:Nat)/\True)/\((c=c
  /\(false=true->false=true))/\Env.has v=Env.has v/\Env.v0 v=Env.v0 v/\Env.v1 v=Env.v1 v/\Env.v2 v=Env.v2 v/\Env.v3 v=Env.v3 v/\Env.v4 v=Env.v4 v/\Env.v5 v=
  Env.v5 v/\Env.v6 v=Env.v6 v/\Env.v7 v=Env.v7 v/\Env.v8 v=Env.v8 v/\Env.v9 v=Env.v9 v/\Env.v10 v=Env.v10 v/\Env.v11 v=Env.v11 v/\Env.v12 v=Env.v12 v/\Env.v13 v
  =Env.v13 v/\Env.v14 v=Env.v14 v/\Env.v15 v=Env.v15 v/\Prod.fst y_1=a'/\Prod.snd (Prod.snd y_1)=e'/\((0:Nat)=(0:Nat)/\List.length L+(1:Nat)=List.length L'
  /\True)/\True)/\((c=c/\(false=true->false=true))/\True)/\(Env.has v=Env.has v/\Env.v0 v=Env.v0 v/\Env.v1 v=Env.v1 v/\Env.v2 v=Env.v2 v/\Env.v3 v=Env.v3 v
  /\Env.v4 v=Env.v4 v/\Env.v5 v=Env.v5 v/\Env.v6 v=Env.v6 v/\Env.v7 v=Env.v7 v/\Env.v8 v=Env.v8 v/\Env.v9 v=Env.v9 v/\Env.v10 v=Env.v10 v/\Env.v11 v=Env.v11 v
  /\Env.v12 v=Env.v12 v/\Env.v13 v=Env.v13 v/\Env.v14 v=Env.v14 v/\Env.v15 v=Env.v15 v/\True)/\(St.pc s=St.pc s/\St.fuel s=St.fuel s/\St.status s=St.status s/\
  St.clause s=St.clause s/\(St.stack s=St.stack s/\(false=true->false=true))/\True)/\(List.take (List.length L) L++ [[List.getD y (0:Nat) (0:Int),List.getD y (1:
  Nat) (0:Int),List.getD y (2:Nat) (0:Int),List.getD y (3:Nat) (0:Int),List.getD y (4:Nat) (0:Int),List.getD y (5:Nat) (0:Int),List.getD y (6:Nat) (0:Int),
  List.getD y (7:Nat) (0:Int),List.getD y (8:Nat) (0:Int),List.getD y (9:Nat) (0:Int),List.getD y (10:Nat) (0:Int),List.getD y (11:Nat) (0:Int),List.getD y
  (12:Nat) (0:Int),List.getD y (13:Nat) (0:Int),List.getD y (14:Nat) (0:Int),List.getD y (15:Nat) (0:Int),List.getD y (16:Nat) (0:Int),List.getD y (17:Nat)
  (0:Int),List.getD y (18:Nat) (0:Int),List.getD y (19:Nat) (0:Int),List.getD y (20:Nat) (0:Int),List.getD y (21:Nat) (0:Int),List.getD y (22:Nat) (0:Int),
  List.getD y (23:Nat) (0:Int),List.getD y (24:Nat) (0:Int),List.getD y (25:Nat) (0:Int),List.getD y (26:Nat) (0:Int),List.getD y (27:Nat) (0:Int),List.getD
  y (28:Nat) (0:Int),List.getD y (29:Nat) (0:Int),List.getD y (30:Nat) (0:Int),List.getD y (31:Nat) (0:Int)]]=L'/\(0:Nat)=(0:Nat))/\True)
  ):=by kernel_rfl
--@end
theorem n32x (y:List Int):n32 y= [List.getD y 0 0,List.getD y 1 0,List.getD y 2 0,List.getD y 3 0,List.getD y 4 0,List.getD y 5 0,List.getD y 6 0,List.getD y 7 0,List.getD y 8 0,List.getD y 9 0,List.getD y 10 0,List.getD y 11 0,List.getD y 12 0,List.getD y 13 0,List.getD y 14 0,List.getD y 15 0,List.getD y 16 0,List.getD y 17 0,List.getD y 18 0,List.getD y 19 0,List.getD y 20 0,List.getD y 21 0,List.getD y 22 0,List.getD y 23 0,List.getD y 24 0,List.getD y 25 0,List.getD y 26 0,List.getD y 27 0,List.getD y 28 0,List.getD y 29 0,List.getD y 30 0,List.getD y 31 0]:=rfl
theorem Zcw (c:List Ins) (v:Env) (k:Nat):lvL c v (k+1)=lvL c v k++ [n32 (Xb c v (dsk c v k))]:=by simp [lvL,List.range_succ]
theorem Zb0 (c:List Ins) (v:Env) (k:Nat):(lvL c v k).length=k:=by simp [lvL]
def Z1u (c:List Ins) (v:Env):Nat->Hp thy->Prop
  |0,h=>h=blOf (blH c v false (dsk c v 0) 0 0 [])
  |k+1,h=>h=blOf (blH c v true (dsk c v (k+1)) (Zu (dsk c v k)).1 (Zu (dsk c v k)).2.2 (lvL c v (k+1)))
def KNr (c:List Ins) (v:Env) (l k:Nat) (T:Fr thy) (h:Hp thy):Prop:=k+1<=dM c v/\fits E2 (AHR c v true (dsk c v (k+1)) (Zu (dsk c v k)).1 (Zu (dsk c v k)).2.2 (lvL c v (k+1))) 7 (frOf frO) h ()/\fitF ren7 T (frI l (k+1))
def KEr (c:List Ins) (v:Env) (k:Nat) (h:Hp thy):Prop:=k=dM c v/\fits E2 (AHR c v true (dsk c v k) (Zu (dsk c v k)).1 (Zu (dsk c v k)).2.2 (lvL c v (k+1))) 7 (frOf frO) h ()
theorem Zkw (c:List Ins) (v:Env) (b:Bool) (s:St) (a e:Int) (L:List (List Int)):DomLt (blOf (blH c v b s a e L)) 8:=by
  intro j hj
  obtain ⟨x,hx⟩:=Option.ne_none_iff_exists'.1 hj
  have:=Wn hx
  cases b<;>simp [blH] at this<;>omega
theorem Zzy {c:List Ins} {v:Env} (hv:(verF c).2=0) (hcl:c.length<=4096) (l k:Nat) (hk:k<=dM c v) (h:Hp thy) (hh:Z1u c v k h):
    DomLt h 8/\itC E2 cD itT o2p o2y o2s (frI l k) 46 (rfA rnF) (rfB rnF) [26,27] frO [3,6] l h (KNr c v l k) (KEr c v k) (fun _=>False):=by
  obtain ⟨d1,d2,d3,d4⟩:=Zg6 (v:=v) hv
  have hst:=d3 k hk
  have hw:wr .i64 ((k:Int)+1)=((k+1:Nat):Int):=(wr64 (by omega) (by omega)).trans (by omega)
  have hrun:((dsk c v k).status==0)=true->k+1<=dM c v:=fun q=>by
    rcases Nat.lt_or_ge k (dM c v) with h|h
    · exact h
    · obtain rfl:k=dM c v:=by omega
      exact absurd (by simpa using q) d2
  have hend:((dsk c v k).status==0)=false->k=dM c v:=fun q=>by
    rcases Nat.lt_or_ge k (dM c v) with h|h
    · rw [(d4 k h).1] at q;cases q
    · omega
  cases k with
  |zero=>
    have hh:h=_:=hh
    subst hh
    refine ⟨Zkw _ _ _ _ _ _ _,(Zv9 c v l 0 1 (dsk c v 0) (dsk c v 1) (Zu (dsk c v 0)).1 (Zu (dsk c v 0)).2.2 (lvL c v 1) (0+1<=dM c v) (0=dM c v) (fun _=>False)).mpr ⟨rfl,⟨by omega,by omega⟩,fun y hy=>⟨by omega,fun y1 hy1=>⟨fun q=>⟨trivial,fun y2 hy2=>⟨hrun q,?_⟩⟩,fun q=>⟨hend q,?_⟩⟩⟩⟩⟩
    · rw [(d4 0 (hrun q)).2.1] at hy2
      subst hy hy1 hy2
      simp [Zcw,n32x,lvL]
      exact wr64 (by decide) (by decide)
    · subst hy hy1
      simp [Zcw,n32x,lvL]
  |succ k=>
    have hh:h=_:=hh
    subst hh
    have hl:=Zb0 c v (k+1)
    have hl2:=Zb0 c v (k+1+1)
    refine ⟨Zkw _ _ _ _ _ _ _,(Zwa c v l (k+1) (k+1+1) (dsk c v (k+1)) (dsk c v (k+1+1)) (Zu (dsk c v k)).1 (Zu (dsk c v k)).2.2 (Zu (dsk c v (k+1))).1 (Zu (dsk c v (k+1))).2.2 (lvL c v (k+1)) (lvL c v (k+1+1)) (k+1+1<=dM c v) (k+1=dM c v) (fun _=>False)).mpr ⟨rfl,⟨by omega,by omega⟩,fun y hy=>⟨⟨Nat.le_refl _,Nat.zero_le _,by rw [hl];omega⟩,by omega,fun y1 hy1=>⟨fun q=>⟨trivial,fun y2 hy2=>⟨hrun q,?_⟩⟩,fun q=>⟨hend q,?_⟩⟩⟩⟩⟩
    · rw [(d4 (k+1) (hrun q)).2.1] at hy2
      subst hy hy1 hy2
      have e:lvL c v (k+1+1)=lvL c v (k+1)++ [n32 (Xb c v (dsk c v (k+1)))]:=Zcw c v (k+1)
      rw [List.take_length,hl,hl2,e,n32x]
      simp
      exact wr64 (by omega) (by omega)
    · subst hy hy1
      have e:lvL c v (k+1+1)=lvL c v (k+1)++ [n32 (Xb c v (dsk c v (k+1)))]:=Zcw c v (k+1)
      rw [List.take_length,hl,hl2,e,n32x]
      simp
end
section
open Go.RowKit
section
variable {Y:Thy} {E:Eng Y}
theorem Zp6 {P:Program} {f:FuncId} {fn:Func} (hfn:P.funcs[f]? =some fn) (hnm:(fn.name== "runtime.NumGoroutine")=false) (hbn:fn.body.isNone=false) (args:Array Value) (w:World):(callFunc f args).run P w= .ok (.enter f args) w:=by
 simp only [callFunc,program,Sem.run,Sem.run_bind,Sem.run_pure,Result.andThen_ok,hfn,hnm,hbn,Bool.false_eq_true,if_false]
def seqs:List Code->Code->Code
 | [],c=>c
 |x::xs,c=> .seq x (seqs xs c)
theorem Zbl {n:Nat} {P:Program} {c:Code} {Q:Exit->Act->World->Prop}:∀(cs:List Code) {a:Act} {w:World},cs.foldr (fun c k a w=>c.wp P (Exit.then k fun _ _ _=>False) a w) (fun a w=>c.wpIn Fence.wide n P Q a w) a w->(seqs cs c).wpIn Fence.wide n P Q a w
 | [],a,w,h=>h
 |x::xs,a,w,h=>by
  refine wpIn_seq (wpIn_wide.2 (wp_mono h fun e a w he=> ?_))
  cases e with
  |normal=>exact Zbl xs he
  |_=>exact he.elim
def Zxf (E:Eng Y) (N:Nat) (cs:List Code) (V:Zd5 Y):Prop:=∀(T:Fr Y) (h:Hp Y) (i:Nat) (ms:List Nat) (K:Fr Y->Hp Y->Nat->List Nat->Prop),DomLt h i->V T h i ms K->
 ∃T' h' i' ms',K T' h' i' ms'/\i<=i'/\Dom h i h' i'/\(∃m,ms'=m++ms/\Yf h i i' m)/\
  ∀(B:Nat) (σ:Pl) (g:GH) (w:World) (a:Act) (Q:Act->World->Prop),Inv E B σ h g w->B<=w.heap.size->(∀b,i<=b->b<i'->σ b=none)->FrOk E σ g T a->a.tmps.size=N->
   (∀a' w',Aft E B N i i' ms' σ g w a.defers T' h' a' w'->Q a' w')->cs.foldr (fun c k a w=>c.wp E.P (Exit.then k fun _ _ _=>False) a w) Q a w
def finX (E:Eng Y) (rs:List ResultVar) (v:SV Y) (T:Fr Y) (h:Hp Y):Prop:=resN E T h rs (match Wk E T h rs with|some vs=>ret E h (Up vs) v|none=>False)
def EndR (E:Eng Y) (B:Nat) (v:SV Y) (g0:GH) (w0:World) (en:Ending) (w':World):Prop:=
 ∃u,en= .returned u/\∃σ g h v',Inv E B σ h g w'/\Bel B g0 w0 g w'/\Den E σ g v' u/\ret E h v' v
theorem EndR.pure (hE:EngOk E) {v:SV Y} {g:GH} {w:World} {en:Ending} {w':World} (h:EndR E w.heap.size v g w en w'):∃u,en= .returned u/\∃g',Stp 0 0 [] σ0 g w σ0 g' w'/\Inv E w.heap.size σ0 hp0 g' w'/\Den E σ0 g' v u:=by
 obtain ⟨u,he,σ,g',h',v',hI',hB,hd,hr⟩:=h
 have hle:=Zg1 (n:=w.heap.size) hI'
 refine ⟨u,he,allG g' w.heap.size w',⟨.refl _,fun b p h=> .inl h,hB.gle.trans hle,fun q o v hv=> ?_,fun q es hv=> ?_,fun q hq _=>hB.heap q hq,hB.size,hB.os,hB.tape,hB.output,(fun b q z h1 h2=>by cases h2)⟩,Zmw hI',?_⟩
 · have hv:(if w.heap.size<=q then w'.cell? ⟨q,o,none⟩ else g'.cell q o)=some v:=hv
   split at hv
   · exact .inr (.inl ‹_›)
   · rcases hB.gcnew q o v hv with h1|h1
     · exact .inl h1
     · exact .inr (.inl h1)
 · have hv:(if w.heap.size<=q then (match w'.heap[q]? with|some (.map es _)=>some es|_=>none) else g'.obj q)=some es:=hv
   split at hv
   · exact .inr ‹_›
   · rcases hB.gmnew q es hv with h1|h1
     · exact .inl h1
     · exact .inr h1
 · exact Zsl hE hI' (Nat.le_refl _) hr hd
theorem Znr (hE:EngOk E) {fn:Func} {n B D:Nat} {v:SV Y} {g0:GH} {w0:World} {σ:Pl} {g:GH} {h:Hp Y} {T:Fr Y} {a:Act} {W:World} (hI:Inv E B σ h g W) (hb:Bel B g0 w0 g W) (hF:FrOk E σ g T a) (hK:finX E fn.results.toList v T h) (hBD:B<=D) (hD:W.heap[D]? =some (.deferred (some []))) (hd:a.defers= [{target:= .collected D,args:= #[]}]):
 bodyPostM Fence.wide n E.P fn (EndR E B v g0 w0) .ret a W:=by
 show LeavesInM Fence.wide n E.P fn a.tmps (EndR E B v g0 w0) a.defers .returning W
 rw [hd]
 unfold finX at hK
 obtain ⟨hrl,hK⟩:=Zby hK
 split at hK
 · rename_i vs hvs
   have hI2:Inv E B σ h g (W.putObj D (.deferred none)):=Xr hI hD rfl (fun es c e=>by cases e) _
   obtain ⟨u,hu,hdu⟩:=Zea hE hI2 hF hrl hvs
   exact ⟨(by intro e;cases e),.inl ⟨D,_,rfl,run_takeDeferred hD,u,hu,u,rfl,σ,g,h,_,hI2,hb.trans (Bel.put g W hBD _),hdu,hK⟩⟩
 · exact hK.elim
theorem Zuq (hE:EngOk E) {fn:Func} {p9:Code} {V9:Zd5 Y} (hV9:Zxf E fn.ntmps [p9] V9) {n B D:Nat} {v:SV Y} {g0:GH} {w0:World} {σ:Pl} {g:GH} {h:Hp Y} {T:Fr Y} {a:Act} {W:World} (hdom:DomLt h 60) (hc:V9 T h 60 [] fun T h i ms=>finX E fn.results.toList v T h)
 (hI:Inv E B σ h g W) (hb:Bel B g0 w0 g W) (hBW:B<=W.heap.size) (hF:FrOk E σ g T a) (hz:a.tmps.size=fn.ntmps) (hfree:∀b,60<=b->σ b=none) (hBD:B<=D) (hD:W.heap[D]? =some (.deferred (some []))) (hd:a.defers= [{target:= .collected D,args:= #[]}]):
 (Code.seq p9 .ret).wpIn Fence.wide n E.P (bodyPostM Fence.wide n E.P fn (EndR E B v g0 w0)) a W:=by
 obtain ⟨T',h',i',ms',hK,hi,hDo,⟨m,rfl,hM⟩,t⟩:=hV9 T h 60 [] _ hdom hc
 refine Zbl [p9] (t B σ g W a _ hI hBW (fun b q1 _=>hfree b q1) hF hz ?_)
 rintro a' w' ⟨d1,z1,σ1,g1,hS,hI1,hF1⟩
 have hnn:=Zhz hI hD rfl (fun es c e=>by cases e)
 refine wpIn_ret (Znr hE hI1 (hb.trans (Bel.stp hS hI hBW)) hF1 hK hBD ?_ (d1.trans hd))
 refine (hS.heap D (Array.getElem?_eq_some_iff.1 hD).1 fun b hbm z hs=> ?_).trans hD
 rcases hM b (by simpa using hbm) with q|q
 · exact hnn (.inr (.inr ⟨b,z,q,hs⟩))
 · rw [hfree b q.1] at hs;cases hs
theorem Zur {n:Nat} {P:Program} {x y z:Code} {Q:Exit->Act->World->Prop} (cs:List Code) {a:Act} {w:World} (h:(cs++ [x]).foldr (fun c k a w=>c.wp P (Exit.then k fun _ _ _=>False) a w) (fun a w=>y.wpIn Fence.wide n P (Exit.then (fun a w=>z.wpIn Fence.wide n P Q a w) Q) a w) a w):(seqs cs (.seq (.seq x y) z)).wpIn Fence.wide n P Q a w:=by
 refine Zbl cs ?_
 rw [List.foldr_append] at h
 have e:∀a w,List.foldr (fun c k a w=>c.wp P (Exit.then k fun _ _ _=>False) a w) (fun a w=>y.wpIn Fence.wide n P (Exit.then (fun a w=>z.wpIn Fence.wide n P Q a w) Q) a w) [x] a w->(Code.seq (.seq x y) z).wpIn Fence.wide n P Q a w:=fun a w h=>wpIn_seq (Zbl [x] h)
 induction cs generalizing a w with
 |nil=>exact e a w h
 |cons c cs ih=>
  refine wp_mono h fun e a w he=> ?_
  cases e with
  |normal=>exact ih he
  |_=>exact he.elim
theorem Zhn (hE:EngOk E) {f:FuncId} {fn:Func} (hf:E.P.funcs[f]? =some fn) {cs:List Code} {x y z:Code} (hb:fn.body=some (seqs cs (.seq (.seq x y) z))) {V:Zd5 Y} (hV:Zxf E fn.ntmps (cs++ [x]) V) {args:List (SV Y)} (hle:args.length<=fn.ntmps) {v:SV Y} {K:Fr Y->Hp Y->Nat->Prop}
 (hc:V (nthD args) hp0 0 [] fun T h i ms=>K T h i)
 (hrest:∀T h i,K T h i->∀(g0:GH) (w0:World) (σ:Pl) (g:GH) (W:World) (a:Act),Inv E w0.heap.size σ h g W->Bel w0.heap.size g0 w0 g W->w0.heap.size<=W.heap.size->FrOk E σ g T a->a.tmps.size=fn.ntmps->a.defers= []->(∀b,i<=b->σ b=none)->
  y.wpIn Fence.wide 1 E.P (Exit.then (fun a w=>z.wpIn Fence.wide 1 E.P (bodyPostM Fence.wide 1 E.P fn (EndR E w0.heap.size v g0 w0)) a w) (bodyPostM Fence.wide 1 E.P fn (EndR E w0.heap.size v g0 w0))) a W):PureC E f args v:=by
 intro g w vals hI hd
 obtain ⟨T',h',i',ms',hK,hi,hDo,⟨m,rfl,hM⟩,t⟩:=hV _ hp0 0 [] _ (fun b hb=>absurd rfl hb) hc
 have hcall:CallsIn Fence.wide 1 E.P f vals w (EndR E w.heap.size v g w):=by
  refine callsIn_of_wp_marks hf hb trivial (Zur cs (t w.heap.size σ0 g w _ _ hI (Nat.le_refl _) (fun _ _ _=>rfl) (Xi hd hle) (Xj hd hle) ?_))
  rintro a1 w1 ⟨d1,z1,σ1,g1,hS,hI1,hF1⟩
  refine hrest T' h' i' hK g w σ1 g1 w1 a1 hI1 (Bel.stp hS hI (Nat.le_refl _)) hS.size hF1 z1 d1 fun b hb=> ?_
  cases hq:σ1 b with
  |none=>rfl
  |some p=>
   rcases hS.snew b p hq with q|q
   · cases q
   · omega
 exact (callsIn_wide.1 hcall).mono fun en w' h=>h.pure hE
theorem Z2g {α:Type} {T:Nat->α} {d:Nat} {v:α}:upd T d v d=v:=by
 have hb:Nat.beq d d=true:=Nat.beq_refl d
 unfold upd
 rw [hb]
theorem Zus {α:Type} {T:Nat->α} {d s:Nat} {v:α} (h:s≠d):upd T d v s=T s:=by
 have hb:Nat.beq s d=false:=by
  cases q:Nat.beq s d with
  |false=>rfl
  |true=>exact absurd (gC9 q) h
 unfold upd
 rw [hb]
theorem Zjj {s:Nat}:∀{l:List (Nat×SV Y)},s∉l.map (·.1)->frOf l s= .unk
 | [],_=>rfl
 |(t,v)::r,h=>by
  have h1:s≠t:=fun e=>h (by simp [e])
  have h2:s∉r.map (·.1):=fun e=>h (by simp at e⊢;exact .inr e)
  show upd (frOf r) t v s=_
  rw [Zus h1,Zjj h2]
theorem Zfs (hE:EngOk E) {cD:Zso Y} (Xw:∀(o:Oper) T h i k,DomLt h i->step E cD o.op T h i k->∃r,k r/\OpTri2 E o T h i r) {V0 VT:Zd5 Y} {it0 it1 it4 it3:Code} (hV0:Zd6 E 36 it0 it1 V0) (hVT:Zd6 E 36 it4 it3 VT) {o2p o2s:List Oper} {o2y:Oper} {ts:Array TypeId}
 (Zaa:o2y.op= .call {callee:= .value (.tmp 17),args:= #[.tmp 18,.tmp 19],argTypes:=ts}) (Zab:o2y.guard=some (2,true)) (Wy:o2y.dst=some 20) (Zev:((o2p++o2y::o2s).toArray[2]?).bind (·.dst)=some 16)
 {gf:FuncId} {fI:Func} (hfI0:E.P.funcs[gf]? =some fI) (hbody:fI.body=some (.seq it0 (.seq it1 (.block 0 (.loop (.seq (.seq (.region 2 (o2p++o2y::o2s).toArray false) (.cond (.tmp 26) .skip (.exit 0))) (.seq it4 it3))))))) (hnt:fI.ntmps=36) (hres:fI.results= #[]) (eg:∀args w,(callFunc gf args).run E.P w= .ok (.enter gf args) w)
 {fr:Nat->Nat->List (Nat×SV Y)} (hfI:∀l k,frOf (fr l k) 6= .int false .i64 (k:Int)) {assign body:Code} {p1 p2:Tmp} {A0:Ann Y} {x0:A0.X} (hA0:A0.ih=6/\A0.M=6) {frOut:List (Nat×SV Y)} {md:List Nat} {m:Nat} {K0:Nat->Fr Y->Hp Y->Prop} {KN:Nat->Nat->Fr Y->Hp Y->Prop} {KE KR:Nat->Hp Y->Prop}
 {f:FuncId} {fn:Func} (hf:E.P.funcs[f]? =some fn) {cs:List Code} {p5 p9:Code} {gs b1 b2:Nat} (hb:fn.body=some (seqs cs (.seq (.seq p5 (.block 0 (.rangeFunc (.tmp gs) #[p1,p2] assign body))) (.seq p9 .ret)))) (hp1:p1<fn.ntmps) (hp2:p2<fn.ntmps)
 {V V9:Zd5 Y} (hV:Zxf E fn.ntmps (cs++ [p5]) V) (hV9:Zxf E fn.ntmps [p9] V9) {args:List (SV Y)} (hle:args.length<=fn.ntmps) {v:SV Y}
 (hc:V (nthD args) hp0 0 [] fun T h i ms=>Ww i 6 (fits E A0 6 T h x0)) (hfr0:A0.fr x0=(gs,.fn (.func gf) [] [.ptr b1 0,.ptr b2 0])::frOut) (hgs:gs∉frOut.map (·.1))
 {headP:Nat->Hp Y->Prop} (hit:∀l k,k<=m->∀h,headP k h->DomLt h 8/\itC E cD VT o2p o2y o2s (fr l k) fn.ntmps assign body [p1,p2] frOut md l h (KN l k) (KE k) (KR k))
 (hdom0:DomLt (blOf (A0.bl x0)) 6) (hent:∀l,V0 (nthD [.val (.func (.yield l) #[] #[]),.ptr b1 0,.ptr b2 0]) (blOf (A0.bl x0)) 6 [] fun T h i ms=>i<=60/\K0 l T h)
 (hK0:∀a l T h,K0 l T h->∀(B:Nat) (σ:Pl) (g:GH) (W:World) (ai:Act),Inv E B σ h g W->FrOk E σ g T ai->FrOk E σ g (frOf frOut) a->∃σ' h',headP 0 h'/\StpL 7 60 md σ g W σ' g W/\Inv E B σ' h' g W/\FrOk E σ' g (frOf frOut) a/\FrOk E σ' g (frOf (fr l 0)) ai/\∀b,8<=b->b<60->σ' b=none)
 (hKN:∀a l k T h,k<=m->KN l k T h->k+1<=m/\∀(B:Nat) (σ:Pl) (g:GH) (W:World) (ai:Act),Inv E B σ h g W->FrOk E σ g T ai->FrOk E σ g (frOf frOut) a->∃σ' h',headP (k+1) h'/\StpL 7 60 md σ g W σ' g W/\Inv E B σ' h' g W/\FrOk E σ' g (frOf frOut) a/\FrOk E σ' g (frOf (fr l (k+1))) ai/\∀b,8<=b->b<60->σ' b=none)
 (hEnd:∀k h,k<=m->KE k h->∀(B:Nat) (σ:Pl) (g:GH) (W:World) (a:Act),Inv E B σ h g W->FrOk E σ g (frOf frOut) a->(∀b,60<=b->σ b=none)->∃σ' h',DomLt h' 60/\V9 (frOf frOut) h' 60 [] (fun T h i ms=>finX E fn.results.toList v T h)/\Inv E B σ' h' g W/\FrOk E σ' g (frOf frOut) a/\∀b,60<=b->σ' b=none)
 (hRet:∀k h,k<=m->KR k h->finX E fn.results.toList v (frOf frOut) h):PureC E f args v:=by
 refine Zhn hE hf hb hV hle hc ?_
 rintro T h i hs g0 w0 σ g W a hI hbel hBW hF hz hd hfree
 obtain ⟨rfl,hfit⟩:=Y7 hs
 obtain ⟨σ1,q2,q3,q4,q6⟩:=Zc7 hE (A:=A0) (x:=x0) (by rw [hA0.1];exact Nat.le_refl 6) (by rw [hA0.1,hA0.2];exact Nat.le_refl 6) hfit hI hF
 rw [hA0.2] at q2
 rw [hfr0] at q4
 have hfree1:∀b,6<=b->σ1 b=none:=fun b hb=>(q2.out b (.inr hb)).trans (hfree b hb)
 have hFo:FrOk E σ1 g (frOf frOut) a:=fun t=>by
  by_cases c:t=gs
  · subst c
    have e:frOf frOut t= .unk:=Zjj hgs
    rw [e];exact .unk _
  · have:=q4 t
    have e:frOf ((gs,.fn (.func gf) [] [.ptr b1 0,.ptr b2 0])::frOut) t=frOf frOut t:=by
     exact Zus c
    rwa [e] at this
 have hT:frOf ((gs,.fn (.func gf) [] [.ptr b1 0,.ptr b2 0])::frOut) gs= .fn (.func gf) [] [.ptr b1 0,.ptr b2 0]:=Z2g
 refine wpIn_wide.2 (wpIn_wide.1 (wpIn_block (n:=1) (Zwy hE Xw hV0 hVT Zaa Zab Wy Zev hfI0 hbody hnt hres eg hfI hp1 hp2 hit hdom0 hent hT q3 hBW hbel hfree1 q4 hFo hz (fun l T h hk=>hK0 a l T h hk _) (fun l k T h hk hkn=>⟨(hKN a l k T h hk hkn).1,(hKN a l k T h hk hkn).2⟩) 1 _ ?_ ?_ ?_)))
 · rintro ⟨a,w,h⟩
   obtain ⟨u,hu,_⟩:=h
   cases hu
 · intro D W' k σ' g' h' hBD hk hke hI' hb' hB' hF' hfr' hD
   obtain ⟨σ2,h2,r1,r2,r3,r4,r5⟩:=hEnd k h' hk hke _ _ _ _ _ hI' hF' hfr'
   show (Code.seq p9 .ret).wpIn Fence.wide 1 E.P _ _ W'
   exact Zuq hE hV9 r1 r2 r3 hb' hB' r4 hz r5 hBD hD (by rw [hd])
 · intro D W' k σ' g' h' hBD hk hkr hI' hb' hB' hF' hfr' hD
   show bodyPostM Fence.wide 1 E.P fn _ .ret _ W'
   exact Znr hE hI' hb' hF' (hRet k h' hk hkr) hBD hD (by rw [hd])
end
end
section
open Go Go.RowKit
def rsR:List ResultVar:=Tryz.f8.results.toList
def drV (c:List Ins) (v:Env) (a e:Int) (L:List (List Int)):SV thy:= .agg (.psl .ins c false::Zx7 v++ [.int false .i64 a,.int false .i64 e,.psl .digs L false])
theorem Zwo (c:List Ins) (v:Env) (s:St) (a e:Int) (L:List (List Int)):vcs FD 400 8 46 [rn9] (frOf frO) (blOf (blH c v true s a e L)) 60 [] (fun T h i ms=>finX E2 rsR (.tup [drV c v a e L,.int false .i64 0]) T h)=(
((c=c/\(false=true->false=true))/\Env.has v=Env.has v/\Env.v0 v=Env.v0 v/\Env.v1 v=Env.v1 v/\Env.v2 v=Env.v2 v/\Env.v3 v=Env.v3 v/\Env.v4 v=Env.v4 v/\Env.v5 v=Env.v5 v/\Env.v6 v=Env.v6 v/\Env.v7 v=Env.v7 v/\Env.v8 v=Env.v8 v/\Env.v9 v=Env.v9 v/\Env.v10 v=Env.v10 v/\Env.v11 v=Env.v11 v/\Env.v12 v=Env.v12 v/\Env.v13 v=Env.v13 v/\Env.v14 v=Env.v14 v/\Env.v15 v=Env.v15 v/\a=a/\e=e/\((0:Nat)+List.length L<=List.length L/\List.take (List.length L) L=L)/\True)/\(0:Int)=(0:Int)/\True):=by kernel_rfl
theorem Z1z (args:Array Value) (w:World):(callFunc (50:FuncId) args).run E2.P w= .ok (.enter (50:FuncId) args) w:=
 Zp6 (fn:=Tryz.f50) rfl (by decide) rfl args w
def runV (c:List Ins) (v:Env):SV thy:=drV c v (Zu (dsk c v (dM c v))).1 (Zu (dsk c v (dM c v))).2.2 (lvL c v (dM c v+1))
theorem Z10:E2.P.funcs[(8:FuncId)]? =some Tryz.f8:=rfl
theorem Z11:E2.P.funcs[(50:FuncId)]? =some Tryz.f50:=rfl
theorem Zwp:Tryz.f8.body=some (seqs [rn0,rn1,rn4] (.seq (.seq rn5 (.block 0 (.rangeFunc (.tmp 25) #[26,27] (rfA rnF) (rfB rnF)))) (.seq rn9 .ret))):=congrArg some Z23
theorem Ztl:Tryz.f50.body=some (.seq it0 (.seq it1 (.block 0 (.loop (.seq (.seq (.region 2 (o2p++o2y::o2s).toArray false) (.cond (.tmp 26) .skip (.exit 0))) (.seq it4 it3)))))):=(congrArg some Z24).trans (by rw [Z1r])
theorem Zlj {c:List Ins} {v:Env} {b:Bool} {s:St} {a e:Int} {L:List (List Int)} {h:Hp thy} (hf:fits E2 (AHR c v b s a e L) 7 (frOf frO) h ()) {B:Nat} {σ:Pl} {g:GH} {W:World} {ac:Act} (hI:Inv E2 B σ h g W) (hF:FrOk E2 σ g (frOf frO) ac):
 ∃σ',StpL 7 60 [3,6] σ g W σ' g W/\Inv E2 B σ' (blOf (blH c v b s a e L)) g W/\FrOk E2 σ' g (frOf frO) ac/\∀b,8<=b->b<60->σ' b=none:=
 Zc7 Zm (A:=AHR c v b s a e L) (x:=()) (by show 7<=8;omega) (by show 8<=60;omega) hf hI hF
theorem Ztm {σ σ':Pl} {g:GH} {w:World} (h:StpL 7 60 [3,6] σ g w σ' g w):∀b c,ren7 b=some c->σ' b=σ c:=fun b c e=>by
 unfold ren7 at e
 split at e
 · rename_i q
   have:=Nat.le_of_ble_eq_true q
   cases e
   exact h.out b (.inl (by omega))
 · cases e
theorem Ztn {c:List Ins} {v:Env} (hv:(verF c).2=0) (hcl:c.length<=4096):PureC E2 8 [.psl .ins c false,envV v] (.tup [runV c v,.int false .i64 0]):=by
 refine Zfs Zm (cD:=cD) Xw (V0:=fun T h i ms K=>vcs FD 400 50 36 [it0,it1] T h i ms K) (VT:=itT) (fun T h i ms K hD hk=>Zcg [it0,it1] 50 36 T h i ms K hD hk) Zx2 Zaa Zab Wy Zev Z11 Ztl rfl rfl Z1z (fr:=frI) (fun _ _=>rfl) (A0:=A0R c v) (x0:=()) ⟨rfl,rfl⟩ (frOut:=frO) (md:= [3,6]) (m:=dM c v)
  (K0:=fun l T h=>fits E2 (AHR c v false (dsk c v 0) 0 0 []) 7 (frOf frO) h ()/\fitF ren7 T (frI l 0)) (KN:=KNr c v) (KE:=KEr c v) (KR:=fun _ _=>False) Z10 (b1:=4) (b2:=5) Zwp (by show (26:Nat)<46;decide) (by show (27:Nat)<46;decide)
  (V:=fun T h i ms K=>vcs FD 400 8 46 [rn0,rn1,rn4,rn5] T h i ms K) (V9:=fun T h i ms K=>vcs FD 400 8 46 [rn9] T h i ms K) (fun T h i ms K hD hk=>Zcg [rn0,rn1,rn4,rn5] 8 46 T h i ms K hD hk) (fun T h i ms K hD hk=>Zcg [rn9] 8 46 T h i ms K hD hk) (by show 2<=46;omega) ?_ rfl (by simp [frO]) (headP:=Z1u c v) (Zzy hv hcl) ?_ ?_ ?_ ?_ ?_ (fun _ _ _ h=>h.elim)
 · refine (Zv7 c v).mpr ⟨trivial,fun y hy=>⟨fun q=> ?_,fun q=> ?_⟩⟩
   · subst hy
     exact absurd hv (by simpa using q)
   · simp
 · intro j hj
   obtain ⟨x,hx⟩:=Option.ne_none_iff_exists'.1 hj
   have:=Wn hx
   simp [A0R,blE] at this
   omega
 · refine fun l=>(Zv8 c v l (dsk c v 0)).mpr ⟨trivial,fun y hy=> ?_⟩
   have hw:wr .i64 ((c.length:Int)+1)=(c.length:Int)+1:=wr64 (by omega) (by omega)
   rw [hw] at hy
   subst hy
   have hs:Zbd ((c.length:Int)+1)=(St.start ((c.length:Int)+1),0):=if_neg (by omega)
   rw [hs]
   simp [dsk,itF]
 · rintro a l T h ⟨k1,k2⟩ B σ g W ai hI hF hFo
   obtain ⟨σ',q1,q2,q3,q4⟩:=Zlj k1 hI hFo
   exact ⟨σ',_,rfl,q1,q2,q3,Ul Zm (Ztm q1) hF k2,q4⟩
 · rintro a l k T h hk ⟨k0,k1,k2⟩
   refine ⟨k0,fun B σ g W ai hI hF hFo=> ?_⟩
   obtain ⟨σ',q1,q2,q3,q4⟩:=Zlj k1 hI hFo
   exact ⟨σ',_,rfl,q1,q2,q3,Ul Zm (Ztm q1) hF k2,q4⟩
 · rintro k h hk ⟨rfl,k1⟩ B σ g W a hI hF hfr
   obtain ⟨σ',q1,q2,q3,q4⟩:=Zlj k1 hI hF
   refine ⟨σ',_,fun b hb=> ?_,(Zwo c v _ _ _ _).mpr ?_,q2,q3,fun b hb=>(q1.out b (.inr hb)).trans (hfr b hb)⟩
   · have:=Zkw _ _ _ _ _ _ _ b hb
     omega
   · simp
end
section
open Go Go.RowKit
/-- a derivation -/
structure Drv where
  code:List Ins
  env:Env
  amount:Int
  err:Int
  leaves:List (List Int)
def drvV (d:Drv):SV thy:=drV d.code d.env d.amount d.err d.leaves
def sn0:Code:=sqA (Ug Tryz.f12)
def sn1:Code:=sqA (sqB (Ug Tryz.f12))
def sn4:Code:=sqA (sqA (sqB (sqB (Ug Tryz.f12))))
def snF:Code:=bkA (sqB (sqA (sqB (sqB (Ug Tryz.f12)))))
def sn9:Code:=sqA (sqB (sqB (sqB (Ug Tryz.f12))))
theorem Z27:Ug Tryz.f12= .seq sn0 (.seq sn1 (.seq (.seq sn4 (.block 0 (.rangeFunc (.tmp 24) #[25,26] (rfA snF) (rfB snF)))) (.seq sn9 .ret))):=by kernel_rfl
def rsS:List ResultVar:=Tryz.f12.results.toList
def d0B (d:Drv):Blk thy:= .raw (.psl .ins d.code false:: .int false .i64 d.env.has:: .int false .i64 d.env.v0:: .int false .i64 d.env.v1:: .int false .i64 d.env.v2:: .int false .i64 d.env.v3:: .int false .i64 d.env.v4:: .int false .i64 d.env.v5:: .int false .i64 d.env.v6:: .int false .i64 d.env.v7:: .int false .i64 d.env.v8:: .int false .i64 d.env.v9:: .int false .i64 d.env.v10:: .int false .i64 d.env.v11:: .int false .i64 d.env.v12:: .int false .i64 d.env.v13:: .int false .i64 d.env.v14:: .int false .i64 d.env.v15:: .int false .i64 d.amount:: .int false .i64 d.err:: [.psl .digs d.leaves false]) 0 none
def zsB:Blk thy:= .raw [zI,zI,zI,zI,.val (.slice none 0 0)] 0 none
def blS (d:Drv) (i:Int):List (Nat×Blk thy):= [(0,d0B d),(1,.raw [.int false .i64 i] 0 none),(2,zsB),(3,.raw [zI] 0 none),(4,cB d.code),(5,envB d.env)]
def blSH (d:Drv) (i:Int) (s:St):List (Nat×Blk thy):= [(0,d0B d),(1,.raw [.int false .i64 i] 0 none),(2,zsB),(3,.raw [zI] 0 none),(4,cB d.code),(5,envB d.env),(6,sB s)]
def frS:List (Nat×SV thy):= [(2,.ptr 0 0),(3,.ptr 1 0),(4,.ptr 2 0),(5,.ptr 3 0)]
def A0S (d:Drv) (i:Int):Ann thy:={X:=Unit,fr:=fun _=>(24,.fn (.func 50) [] [.ptr 4 0,.ptr 5 0])::frS,bl:=fun _=>blS d i,src:=fun _=> [],md:= [],ih:=6,M:=6,meas:=fun _=>0}
def AHS (d:Drv) (i:Int) (s:St):Ann thy:={X:=Unit,fr:=fun _=>frS,bl:=fun _=>blSH d i s,src:=fun _=> [],md:= [2,3,6],ih:=8,M:=60,meas:=fun _=>0}
--@condg spre | (d : Drv) (i : Int) | vcs FD 400 12 32 [sn0, sn1, sn4] (nthD [drvV d, .int false .i64 i]) hp0 0 [] (fun T h j ms => Ww j 6 (fits E2 (A0S d i) 6 T h ()))
theorem Ztp (d:Drv) (i:Int):vcs FD 400 12 32 [sn0,sn1,sn4] (nthD [drvV d,.int false .i64 i]) hp0 0 [] (fun T h j ms=>Ww j 6 (fits E2 (A0S d i) 6 T h ()))=(
  True/\∀(y:Int×Int),y=verF (Drv.code d)->((Prod.snd y !=(0:Int))=true->False)/\((Prod.snd y !=(0:Int))=false->((Fn.func (50:Nat)
  =Fn.func (50:FuncId)/\True/\(0:Nat)=(0:Nat)/\(0:Nat)=(0:Nat)/\True)/\(0:Nat)=(0:Nat)/\(0:Nat)=(0:Nat)/\(0:Nat)=(0
  :Nat)/\(0:Nat)=(0:Nat)/\True)/\((Drv.code d=Drv.code d/\(false=true->false=true))/\Env.has (Drv.env d)=Env.has (Drv.env d)/\Env.v0 (Drv.env d)=Env.v0
  (Drv.env d)/\Env.v1 (Drv.env d)=Env.v1 (Drv.env d)/\Env.v2 (Drv.env d)=Env.v2 (Drv.env d)/\Env.v3 (Drv.env d)=Env.v3 (Drv.env d)/\Env.v4 (Drv.env d)=Env.v4 (Drv.env d)
  /\Env.v5 (Drv.env d)=Env.v5 (Drv.env d)/\Env.v6 (Drv.env d)=Env.v6 (Drv.env d)/\Env.v7 (Drv.env d)=Env.v7 (Drv.env d)/\Env.v8 (Drv.env d)=Env.v8 (Drv.env d)/\Env.v9
  (Drv.env d)=Env.v9 (Drv.env d)/\Env.v10 (Drv.env d)=Env.v10 (Drv.env d)/\Env.v11 (Drv.env d)=Env.v11 (Drv.env d)/\Env.v12 (Drv.env d)=Env.v12 (Drv.env d)/\Env.v13
  (Drv.env d)=Env.v13 (Drv.env d)/\Env.v14 (Drv.env d)=Env.v14 (Drv.env d)/\Env.v15 (Drv.env d)=Env.v15 (Drv.env d)/\Drv.amount d=Drv.amount d/\Drv.err d=Drv.err d/\
  (Drv.leaves d=Drv.leaves d/\(false=true->false=true))/\True)/\(i=i/\True)/\((0:Int)=(0:Int)/\(0:Int)=(0:Int)/\(0:Int)=(0:Int)/\(0:Int)=(0:
  Int)/\Value.slice none (0:Nat) (0:Nat)=Value.slice none (0:Nat) (0:Nat)/\True)/\((0:Int)=(0:Int)/\True)/\((Drv.code d=Drv.code d/\(false=true->false=
  true))/\True)/\(Env.has (Drv.env d)=Env.has (Drv.env d)/\Env.v0 (Drv.env d)=Env.v0 (Drv.env d)/\Env.v1 (Drv.env d)=Env.v1 (Drv.env d)/\Env.v2 (Drv.env d)=Env.v2
  (Drv.env d)/\Env.v3 (Drv.env d)=Env.v3 (Drv.env d)/\Env.v4 (Drv.env d)=Env.v4 (Drv.env d)/\Env.v5 (Drv.env d)=Env.v5 (Drv.env d)/\Env.v6 (Drv.env d)=Env.v6 (Drv.env d)
  /\Env.v7 (Drv.env d)=Env.v7 (Drv.env d)/\Env.v8 (Drv.env d)=Env.v8 (Drv.env d)/\Env.v9 (Drv.env d)=Env.v9 (Drv.env d)/\Env.v10 (Drv.env d)=Env.v10 (Drv.env d)/\Env.v11
  (Drv.env d)=Env.v11 (Drv.env d)/\Env.v12 (Drv.env d)=Env.v12 (Drv.env d)/\Env.v13 (Drv.env d)=Env.v13 (Drv.env d)/\Env.v14 (Drv.env d)=Env.v14 (Drv.env d)/\Env.v15
  (Drv.env d)=Env.v15 (Drv.env d)/\True)/\True)
  ):=by kernel_rfl
--@end
--@condg sent | (d : Drv) (i : Int) (l : Nat) (s : St) | vcs FD 400 50 36 [it0, it1] (nthD [.val (.func (.yield l) #[] #[]), .ptr 4 0, .ptr 5 0]) (blOf (blS d i)) 6 [] (fun T h j ms => j ≤ 60 ∧ fits E2 (AHS d i s) 7 (frOf frS) h () ∧ fitF ren7 T (frI l 0))
theorem Ztq (d:Drv) (i:Int) (l:Nat) (s:St):vcs FD 400 50 36 [it0,it1] (nthD [.val (.func (.yield l) #[] #[]),.ptr 4 0,.ptr 5 0]) (blOf (blS d i)) 6 [] (fun T h j ms=>j<=60/\fits E2 (AHS d i s) 7 (frOf frS) h ()/\fitF ren7 T (frI l 0))=(
  True/\∀(y:St×Int),y=Zbd (wr IntKind.i64 ((↑(List.length (Drv.code d)):Int)+(1:Int)))->(7:Nat)<=(60:Nat)/\(((0:Nat)=(0:Nat)/\(0:Nat)=(0:Nat)/\
  (0:Nat)=(0:Nat)/\(0:Nat)=(0:Nat)/\True)/\((Drv.code d=Drv.code d/\(false=true->false=true))/\Env.has (Drv.env d)=Env.has (Drv.env d)/\Env.v0 (Drv.env d)
  =Env.v0 (Drv.env d)/\Env.v1 (Drv.env d)=Env.v1 (Drv.env d)/\Env.v2 (Drv.env d)=Env.v2 (Drv.env d)/\Env.v3 (Drv.env d)=Env.v3 (Drv.env d)/\Env.v4 (Drv.env d)=Env.v4
  (Drv.env d)/\Env.v5 (Drv.env d)=Env.v5 (Drv.env d)/\Env.v6 (Drv.env d)=Env.v6 (Drv.env d)/\Env.v7 (Drv.env d)=Env.v7 (Drv.env d)/\Env.v8 (Drv.env d)=Env.v8 (Drv.env d)
  /\Env.v9 (Drv.env d)=Env.v9 (Drv.env d)/\Env.v10 (Drv.env d)=Env.v10 (Drv.env d)/\Env.v11 (Drv.env d)=Env.v11 (Drv.env d)/\Env.v12 (Drv.env d)=Env.v12 (Drv.env d)/\
  Env.v13 (Drv.env d)=Env.v13 (Drv.env d)/\Env.v14 (Drv.env d)=Env.v14 (Drv.env d)/\Env.v15 (Drv.env d)=Env.v15 (Drv.env d)/\Drv.amount d=Drv.amount d/\Drv.err d=
  Drv.err d/\(Drv.leaves d=Drv.leaves d/\(false=true->false=true))/\True)/\(i=i/\True)/\((0:Int)=(0:Int)/\(0:Int)=(0:Int)/\(0:Int)=(0:Int)/\(0:
  Int)=(0:Int)/\Value.slice none (0:Nat) (0:Nat)=Value.slice none (0:Nat) (0:Nat)/\True)/\((0:Int)=(0:Int)/\True)/\((Drv.code d=Drv.code d/\(false=true
  ->false=true))/\True)/\(Env.has (Drv.env d)=Env.has (Drv.env d)/\Env.v0 (Drv.env d)=Env.v0 (Drv.env d)/\Env.v1 (Drv.env d)=Env.v1 (Drv.env d)/\Env.v2 (Drv.env d)=
  Env.v2 (Drv.env d)/\Env.v3 (Drv.env d)=Env.v3 (Drv.env d)/\Env.v4 (Drv.env d)=Env.v4 (Drv.env d)/\Env.v5 (Drv.env d)=Env.v5 (Drv.env d)/\Env.v6 (Drv.env d)=Env.v6
  (Drv.env d)/\Env.v7 (Drv.env d)=Env.v7 (Drv.env d)/\Env.v8 (Drv.env d)=Env.v8 (Drv.env d)/\Env.v9 (Drv.env d)=Env.v9 (Drv.env d)/\Env.v10 (Drv.env d)=Env.v10 (Drv.env
  d)/\Env.v11 (Drv.env d)=Env.v11 (Drv.env d)/\Env.v12 (Drv.env d)=Env.v12 (Drv.env d)/\Env.v13 (Drv.env d)=Env.v13 (Drv.env d)/\Env.v14 (Drv.env d)=Env.v14 (Drv.env d)/\
  Env.v15 (Drv.env d)=Env.v15 (Drv.env d)/\True)/\(St.pc (Prod.fst y)=St.pc s/\St.fuel (Prod.fst y)=St.fuel s/\St.status (Prod.fst y)=St.status s/\St.clause (Prod.fst y)
  =St.clause s/\(St.stack (Prod.fst y)=St.stack s/\(false=true->false=true))/\True)/\True)/\Value.func (Fn.yield l) #[] #[]=Value.func (Fn.yield l) #[] #[]/\(0:Nat)
  =(0:Nat)/\(0:Nat)=(0:Nat)/\(0:Nat)=(0:Nat)/\Prod.snd y=(0:Int)/\(0:Int)=(↑(0:Nat):Int)/\True
  ):=by kernel_rfl
--@end
--@condg sit | (d : Drv) (i : Int) (l k k' : Nat) (s s' : St) (PN PE PR : Prop) | itC E2 cD itT o2p o2y o2s (frI l k) 32 (rfA snF) (rfB snF) [25, 26] frS [2, 3, 6] l (blOf (blSH d i s)) (fun T h => PN ∧ fits E2 (AHS d i s') 7 (frOf frS) h () ∧ fitF ren7 T (frI l k')) (fun h => PE ∧ fits E2 (AHS d i s) 7 (frOf frS) h ()) (fun h => PR ∧ finX E2 rsS (.tup [stV s, .int false .i64 0]) (frOf frS) h)
theorem Zwq (d:Drv) (i:Int) (l k k':Nat) (s s':St) (PN PE PR:Prop):itC E2 cD itT o2p o2y o2s (frI l k) 32 (rfA snF) (rfB snF) [25,26] frS [2,3,6] l (blOf (blSH d i s)) (fun T h=>PN/\fits E2 (AHS d i s') 7 (frOf frS) h ()/\fitF ren7 T (frI l k')) (fun h=>PE/\fits E2 (AHS d i s) 7 (frOf frS) h ()) (fun h=>PR/\finX E2 rsS (.tup [stV s,.int false .i64 0]) (frOf frS) h)=(
  Value.func (Fn.yield l) #[] #[]=Value.func (Fn.yield l) #[] #[]/\(((↑k:Int)==i)=true->PR/\(St.pc s=St.pc s/\St.fuel s=St.fuel s/\St.status s=St.status s/\
  St.clause s=St.clause s/\(St.stack s=St.stack s/\(false=true->false=true))/\True)/\(0:Int)=(0:Int)/\True)/\(((↑k:Int)==i)=false->((St.status s==(0:
  Int))=true->True/\∀(y:St×Int),y=Uf (Drv.code d) (Drv.env d) s->PN/\(((0:Nat)=(0:Nat)/\(0:Nat)=(0:Nat)/\(0:Nat)=(0:Nat)/\(0:Nat)=(0:Nat)
  /\True)/\((Drv.code d=Drv.code d/\(false=true->false=true))/\Env.has (Drv.env d)=Env.has (Drv.env d)/\Env.v0 (Drv.env d)=Env.v0 (Drv.env d)/\Env.v1 (Drv.env d)=
  Env.v1 (Drv.env d)/\Env.v2 (Drv.env d)=Env.v2 (Drv.env d)/\Env.v3 (Drv.env d)=Env.v3 (Drv.env d)/\Env.v4 (Drv.env d)=Env.v4 (Drv.env d)/\Env.v5 (Drv.env d)=Env.v5
  (Drv.env d)/\Env.v6 (Drv.env d)=Env.v6 (Drv.env d)/\Env.v7 (Drv.env d)=Env.v7 (Drv.env d)/\Env.v8 (Drv.env d)=Env.v8 (Drv.env d)/\Env.v9 (Drv.env d)=Env.v9 (Drv.env d)
  /\Env.v10 (Drv.env d)=Env.v10 (Drv.env d)/\Env.v11 (Drv.env d)=Env.v11 (Drv.env d)/\Env.v12 (Drv.env d)=Env.v12 (Drv.env d)/\Env.v13 (Drv.env d)=Env.v13 (Drv.env d)/\
  Env.v14 (Drv.env d)=Env.v14 (Drv.env d)/\Env.v15 (Drv.env d)=Env.v15 (Drv.env d)/\Drv.amount d=Drv.amount d/\Drv.err d=Drv.err d/\(Drv.leaves d=Drv.leaves d/\(false
  =true->false=true))/\True)/\(i=i/\True)/\((0:Int)=(0:Int)/\(0:Int)=(0:Int)/\(0:Int)=(0:Int)/\(0:Int)=(0:Int)/\Value.slice none (0:Nat) (0:
  Nat)=Value.slice none (0:Nat) (0:Nat)/\True)/\((0:Int)=(0:Int)/\True)/\((Drv.code d=Drv.code d/\(false=true->false=true))/\True)/\(Env.has (Drv.env d)=
  Env.has (Drv.env d)/\Env.v0 (Drv.env d)=Env.v0 (Drv.env d)/\Env.v1 (Drv.env d)=Env.v1 (Drv.env d)/\Env.v2 (Drv.env d)=Env.v2 (Drv.env d)/\Env.v3 (Drv.env d)=Env.v3
  (Drv.env d)/\Env.v4 (Drv.env d)=Env.v4 (Drv.env d)/\Env.v5 (Drv.env d)=Env.v5 (Drv.env d)/\Env.v6 (Drv.env d)=Env.v6 (Drv.env d)/\Env.v7 (Drv.env d)=Env.v7 (Drv.env d)
  /\Env.v8 (Drv.env d)=Env.v8 (Drv.env d)/\Env.v9 (Drv.env d)=Env.v9 (Drv.env d)/\Env.v10 (Drv.env d)=Env.v10 (Drv.env d)/\Env.v11 (Drv.env d)=Env.v11 (Drv.env d)/\
  Env.v12 (Drv.env d)=Env.v12 (Drv.env d)/\Env.v13 (Drv.env d)=Env.v13 (Drv.env d)/\Env.v14 (Drv.env d)=Env.v14 (Drv.env d)/\Env.v15 (Drv.env d)=Env.v15 (Drv.env d)/\
  True)/\(St.pc (Prod.fst y)=St.pc s'/\St.fuel (Prod.fst y)=St.fuel s'/\St.status (Prod.fst y)=St.status s'/\St.clause (Prod.fst y)=St.clause s'/\(St.stack (Prod.fst y)
  =St.stack s'/\(false=true->false=true))/\True)/\True)/\Value.func (Fn.yield l) #[] #[]=Value.func (Fn.yield l) #[] #[]/\(0:Nat)=(0:Nat)/\(0:Nat)=(0:Nat)/\
  (0:Nat)=(0:Nat)/\Prod.snd y=(0:Int)/\wr IntKind.i64 ((↑k:Int)+(1:Int))=(↑k':Int)/\True)/\((St.status s==(0:Int))=false->PE/\((0:Nat)=(0:Nat)/\
  (0:Nat)=(0:Nat)/\(0:Nat)=(0:Nat)/\(0:Nat)=(0:Nat)/\True)/\((Drv.code d=Drv.code d/\(false=true->false=true))/\Env.has (Drv.env d)=Env.has (Drv.env
  d)/\Env.v0 (Drv.env d)=Env.v0 (Drv.env d)/\Env.v1 (Drv.env d)=Env.v1 (Drv.env d)/\Env.v2 (Drv.env d)=Env.v2 (Drv.env d)/\Env.v3 (Drv.env d)=Env.v3 (Drv.env d)/\Env.v4
  (Drv.env d)=Env.v4 (Drv.env d)/\Env.v5 (Drv.env d)=Env.v5 (Drv.env d)/\Env.v6 (Drv.env d)=Env.v6 (Drv.env d)/\Env.v7 (Drv.env d)=Env.v7 (Drv.env d)/\Env.v8 (Drv.env d)
  =Env.v8 (Drv.env d)/\Env.v9 (Drv.env d)=Env.v9 (Drv.env d)/\Env.v10 (Drv.env d)=Env.v10 (Drv.env d)/\Env.v11 (Drv.env d)=Env.v11 (Drv.env d)/\Env.v12 (Drv.env d)=
  Env.v12 (Drv.env d)/\Env.v13 (Drv.env d)=Env.v13 (Drv.env d)/\Env.v14 (Drv.env d)=Env.v14 (Drv.env d)/\Env.v15 (Drv.env d)=Env.v15 (Drv.env d)/\Drv.amount d=Drv.amount
  d/\Drv.err d=Drv.err d/\(Drv.leaves d=Drv.leaves d/\(false=true->false=true))/\True)/\(i=i/\True)/\((0:Int)=(0:Int)/\(0:Int)=(0:Int)/\(0:Int)=(0
  :Int)/\(0:Int)=(0:Int)/\Value.slice none (0:Nat) (0:Nat)=Value.slice none (0:Nat) (0:Nat)/\True)/\((0:Int)=(0:Int)/\True)/\((Drv.code d=Drv.code d/\
  (false=true->false=true))/\True)/\(Env.has (Drv.env d)=Env.has (Drv.env d)/\Env.v0 (Drv.env d)=Env.v0 (Drv.env d)/\Env.v1 (Drv.env d)=Env.v1 (Drv.env d)/\Env.v2
  (Drv.env d)=Env.v2 (Drv.env d)/\Env.v3 (Drv.env d)=Env.v3 (Drv.env d)/\Env.v4 (Drv.env d)=Env.v4 (Drv.env d)/\Env.v5 (Drv.env d)=Env.v5 (Drv.env d)/\Env.v6 (Drv.env d)
  =Env.v6 (Drv.env d)/\Env.v7 (Drv.env d)=Env.v7 (Drv.env d)/\Env.v8 (Drv.env d)=Env.v8 (Drv.env d)/\Env.v9 (Drv.env d)=Env.v9 (Drv.env d)/\Env.v10 (Drv.env d)=Env.v10
  (Drv.env d)/\Env.v11 (Drv.env d)=Env.v11 (Drv.env d)/\Env.v12 (Drv.env d)=Env.v12 (Drv.env d)/\Env.v13 (Drv.env d)=Env.v13 (Drv.env d)/\Env.v14 (Drv.env d)=Env.v14
  (Drv.env d)/\Env.v15 (Drv.env d)=Env.v15 (Drv.env d)/\True)/\(St.pc s=St.pc s/\St.fuel s=St.fuel s/\St.status s=St.status s/\St.clause s=St.clause s/\(St.stack s=
  St.stack s/\(false=true->false=true))/\True)/\True))
  ):=by kernel_rfl
--@end
--@condg sfin | (d : Drv) (i : Int) (s : St) | vcs FD 400 12 32 [sn9] (frOf frS) (blOf (blSH d i s)) 60 [] (fun T h i ms => finX E2 rsS (.tup [stV .zero, .int false .i64 1]) T h)
theorem Ztr (d:Drv) (i:Int) (s:St):vcs FD 400 12 32 [sn9] (frOf frS) (blOf (blSH d i s)) 60 [] (fun T h i ms=>finX E2 rsS (.tup [stV .zero,.int false .i64 1]) T h)=(
  ((0:Int)=St.pc St.zero/\(0:Int)=St.fuel St.zero/\(0:Int)=St.status St.zero/\(0:Int)=St.clause St.zero/\St.stack St.zero= []/\True)/\(1:Int)=(1:Int)/\
  True
  ):=by kernel_rfl
--@end
--@condg sno | (d : Drv) (i : Int) | Zw E2 FD (vc E2 FD 400) 12 [drvV d, .int false .i64 i] hp0 0 (fun r => ret E2 (patch hp0 0 r) r.v (.tup [stV .zero, .int false .i64 (verF d.code).2]))
theorem Zwr (d:Drv) (i:Int):Zw E2 FD (vc E2 FD 400) 12 [drvV d,.int false .i64 i] hp0 0 (fun r=>ret E2 (patch hp0 0 r) r.v (.tup [stV .zero,.int false .i64 (verF d.code).2]))=(
  True/\∀(y:Int×Int),y=verF (Drv.code d)->((Prod.snd y !=(0:Int))=true->((0:Int)=St.pc St.zero/\(0:Int)=St.fuel St.zero/\(0:Int)=St.status St.zero/\(0
  :Int)=St.clause St.zero/\St.stack St.zero= []/\True)/\Prod.snd y=Prod.snd (verF (Drv.code d))/\True)/\((Prod.snd y !=(0:Int))=false->False)
  ):=by kernel_rfl
--@end
/-- what State answers -/
def Xg (d:Drv) (i:Int):St×Int:=if (verF d.code).2=0 then (if 0<=i/\i<=dM d.code d.env then (dsk d.code d.env i.toNat,0) else (.zero,1)) else (.zero,(verF d.code).2)
def Z13 (d:Drv) (i:Int) (k:Nat) (h:Hp thy):Prop:=(∀j:Nat,j<k->(j:Int)≠i)/\h=blOf (blSH d i (dsk d.code d.env k))
def KNs (d:Drv) (i:Int) (l k:Nat) (T:Fr thy) (h:Hp thy):Prop:=(k+1<=dM d.code d.env/\∀j:Nat,j<k+1->(j:Int)≠i)/\fits E2 (AHS d i (dsk d.code d.env (k+1))) 7 (frOf frS) h ()/\fitF ren7 T (frI l (k+1))
def KEs (d:Drv) (i:Int) (k:Nat) (h:Hp thy):Prop:=(k=dM d.code d.env/\∀j:Nat,j<k+1->(j:Int)≠i)/\fits E2 (AHS d i (dsk d.code d.env k)) 7 (frOf frS) h ()
def KRs (d:Drv) (i:Int) (k:Nat) (h:Hp thy):Prop:=(k:Int)=i/\finX E2 rsS (.tup [stV (dsk d.code d.env k),.int false .i64 0]) (frOf frS) h
theorem Zne (d:Drv) (i:Int) (s:St):DomLt (blOf (blSH d i s)) 8:=by
  intro j hj
  obtain ⟨x,hx⟩:=Option.ne_none_iff_exists'.1 hj
  have:=Wn hx
  simp [blSH] at this
  omega
theorem Zts {d:Drv} (i:Int) (hv:(verF d.code).2=0) (hcl:d.code.length<=4096) (l k:Nat) (hk:k<=dM d.code d.env) (h:Hp thy) (hh:Z13 d i k h):
    DomLt h 8/\itC E2 cD itT o2p o2y o2s (frI l k) 32 (rfA snF) (rfB snF) [25,26] frS [2,3,6] l h (KNs d i l k) (KEs d i k) (KRs d i k):=by
  obtain ⟨d1,d2,d3,d4⟩:=Zg6 (v:=d.env) hv
  have hw:wr .i64 ((k:Int)+1)=((k+1:Nat):Int):=(wr64 (by omega) (by omega)).trans (by omega)
  have hrun:((dsk d.code d.env k).status==0)=true->k+1<=dM d.code d.env:=fun q=>by
    rcases Nat.lt_or_ge k (dM d.code d.env) with h|h
    · exact h
    · obtain rfl:k=dM d.code d.env:=by omega
      exact absurd (by simpa using q) d2
  have hend:((dsk d.code d.env k).status==0)=false->k=dM d.code d.env:=fun q=>by
    rcases Nat.lt_or_ge k (dM d.code d.env) with h|h
    · rw [(d4 k h).1] at q;cases q
    · omega
  obtain ⟨hne,rfl⟩:=hh
  have hne':(((k:Int))==i)=false->∀j:Nat,j<k+1->(j:Int)≠i:=fun q j hj=>by
    rcases Nat.lt_or_ge j k with h|h
    · exact hne j h
    · obtain rfl:j=k:=by omega
      simpa using q
  refine ⟨Zne _ _ _,(Zwq d i l k (k+1) (dsk d.code d.env k) (dsk d.code d.env (k+1)) (k+1<=dM d.code d.env/\∀j:Nat,j<k+1->(j:Int)≠i) (k=dM d.code d.env/\∀j:Nat,j<k+1->(j:Int)≠i) ((k:Int)=i)).mpr ⟨rfl,fun q=> ?_,fun q=>⟨fun q2=>⟨trivial,fun y hy=>⟨⟨hrun q2,hne' q⟩,?_⟩⟩,fun q2=>⟨⟨hend q2,hne' q⟩,?_⟩⟩⟩⟩
  · refine ⟨by simpa using q,?_⟩
    simp
  · rw [(d4 k (hrun q2)).2.1] at hy
    subst hy
    simp
    exact hw
  · simp
theorem Zll {d:Drv} {i:Int} {s:St} {h:Hp thy} (hf:fits E2 (AHS d i s) 7 (frOf frS) h ()) {B:Nat} {σ:Pl} {g:GH} {W:World} {ac:Act} (hI:Inv E2 B σ h g W) (hF:FrOk E2 σ g (frOf frS) ac):
    ∃σ',StpL 7 60 [2,3,6] σ g W σ' g W/\Inv E2 B σ' (blOf (blSH d i s)) g W/\FrOk E2 σ' g (frOf frS) ac/\∀b,8<=b->b<60->σ' b=none:=
  Zc7 Zm (A:=AHS d i s) (x:=()) (by show 7<=8;omega) (by show 8<=60;omega) hf hI hF
theorem Znf {σ σ':Pl} {g:GH} {w:World} (h:StpL 7 60 [2,3,6] σ g w σ' g w):∀b c,ren7 b=some c->σ' b=σ c:=fun b c e=>by
  unfold ren7 at e
  split at e
  · rename_i q
    have:=Nat.le_of_ble_eq_true q
    cases e
    exact h.out b (.inl (by omega))
  · cases e
theorem Zws:E2.P.funcs[(12:FuncId)]? =some Tryz.f12:=rfl
theorem Zpu:Tryz.f12.body=some (seqs [sn0,sn1] (.seq (.seq sn4 (.block 0 (.rangeFunc (.tmp 24) #[25,26] (rfA snF) (rfB snF)))) (.seq sn9 .ret))):=congrArg some Z27
theorem Zlm {d:Drv} (i:Int) (hv:(verF d.code).2=0) (hcl:d.code.length<=4096):PureC E2 12 [drvV d,.int false .i64 i] (.tup [stV (Xg d i).1,.int false .i64 (Xg d i).2]):=by
  refine Zfs Zm (cD:=cD) Xw (V0:=fun T h i ms K=>vcs FD 400 50 36 [it0,it1] T h i ms K) (VT:=itT) (fun T h i ms K hD hk=>Zcg [it0,it1] 50 36 T h i ms K hD hk) Zx2 Zaa Zab Wy Zev Z11 Ztl rfl rfl Z1z (fr:=frI) (fun _ _=>rfl) (A0:=A0S d i) (x0:=()) ⟨rfl,rfl⟩ (frOut:=frS) (md:= [2,3,6]) (m:=dM d.code d.env)
    (K0:=fun l T h=>fits E2 (AHS d i (dsk d.code d.env 0)) 7 (frOf frS) h ()/\fitF ren7 T (frI l 0)) (KN:=KNs d i) (KE:=KEs d i) (KR:=KRs d i) Zws (b1:=4) (b2:=5) Zpu (by show (25:Nat)<32;decide) (by show (26:Nat)<32;decide)
    (V:=fun T h i ms K=>vcs FD 400 12 32 [sn0,sn1,sn4] T h i ms K) (V9:=fun T h i ms K=>vcs FD 400 12 32 [sn9] T h i ms K) (fun T h i ms K hD hk=>Zcg [sn0,sn1,sn4] 12 32 T h i ms K hD hk) (fun T h i ms K hD hk=>Zcg [sn9] 12 32 T h i ms K hD hk) (by show 2<=32;omega) ?_ rfl (by simp [frS]) (headP:=Z13 d i) (Zts i hv hcl) ?_ ?_ ?_ ?_ ?_ ?_
  · refine (Ztp d i).mpr ⟨trivial,fun y hy=>⟨fun q=> ?_,fun q=> ?_⟩⟩
    · subst hy
      exact absurd hv (by simpa using q)
    · simp
  · intro j hj
    obtain ⟨x,hx⟩:=Option.ne_none_iff_exists'.1 hj
    have:=Wn hx
    simp [A0S,blS] at this
    omega
  · refine fun l=>(Ztq d i l (dsk d.code d.env 0)).mpr ⟨trivial,fun y hy=> ?_⟩
    have hw:wr .i64 ((d.code.length:Int)+1)=(d.code.length:Int)+1:=wr64 (by omega) (by omega)
    rw [hw] at hy
    subst hy
    have hs:Zbd ((d.code.length:Int)+1)=(St.start ((d.code.length:Int)+1),0):=if_neg (by omega)
    rw [hs]
    simp [dsk,itF]
  · rintro a l T h ⟨k1,k2⟩ B σ g W ai hI hF hFo
    obtain ⟨σ',q1,q2,q3,q4⟩:=Zll k1 hI hFo
    exact ⟨σ',_,⟨fun j hj=>absurd hj (Nat.not_lt_zero j),rfl⟩,q1,q2,q3,Ul Zm (Znf q1) hF k2,q4⟩
  · rintro a l k T h hk ⟨⟨k0,kn⟩,k1,k2⟩
    refine ⟨k0,fun B σ g W ai hI hF hFo=> ?_⟩
    obtain ⟨σ',q1,q2,q3,q4⟩:=Zll k1 hI hFo
    exact ⟨σ',_,⟨kn,rfl⟩,q1,q2,q3,Ul Zm (Znf q1) hF k2,q4⟩
  · rintro k h hk ⟨⟨rfl,kn⟩,k1⟩ B σ g W a hI hF hfr
    obtain ⟨σ',q1,q2,q3,q4⟩:=Zll k1 hI hF
    have e:Xg d i=(.zero,1):=by
      unfold Xg
      rw [if_pos hv,if_neg]
      rintro ⟨z1,z2⟩
      exact kn i.toNat (by omega) (by omega)
    refine ⟨σ',_,fun b hb=> ?_,?_,q2,q3,fun b hb=>(q1.out b (.inr hb)).trans (hfr b hb)⟩
    · have:=Zne _ _ _ b hb
      omega
    · rw [e]
      exact (Ztr d i _).mpr (by simp [St.zero])
  · rintro k h hk ⟨rfl,k1⟩
    have e:Xg d (k:Int)=(dsk d.code d.env k,0):=by
      unfold Xg
      rw [if_pos hv,if_pos (by omega)]
      rfl
    rw [e]
    exact k1
/-- derive.State -/
theorem Zpv (d:Drv) (i:Int):PureC E2 12 [drvV d,.int false .i64 i] (.tup [stV (Xg d i).1,.int false .i64 (Xg d i).2]):=by
  by_cases hv:(verF d.code).2=0
  · obtain ⟨D,hc⟩:=W9 hv
    have h4:=hc.short
    exact Zlm i hv (by omega)
  · have e:Xg d i=(.zero,(verF d.code).2):=if_neg hv
    rw [e]
    exact Zb Zm Zzp ((Zwr d i).mpr ⟨trivial,fun y hy=>⟨fun _=>by subst hy;simp [St.zero],fun q=>by
      subst hy
      exact hv (by simpa using q)⟩⟩)
end
section
open Go Go.RowKit
section
variable {Y:Thy} {E:Eng Y}
def dMap {α β:Type} (d:Dc E α) (f:α->β) (e:β->SV Y) (he:∀a,e (f a)=d.enc a):Dc E β where
  dec v:=(d.dec v).map f
  enc b:=e b
  ok v b h:=by
    obtain ⟨a,h1,rfl⟩:=Option.map_eq_some_iff.1 h
    rw [he]
    exact d.ok v a h1
end
def evZ:Env:=⟨0,0,0,0,0,0,0,0,0,0,0,0,0,0,0,0,0⟩
/-- what Run answers -/
def drF (c:List Ins) (v:Env):Drv×Int:=if (verF c).2=0 then (⟨c,v,(Zu (dsk c v (dM c v))).1,(Zu (dsk c v (dM c v))).2.2,lvL c v (dM c v+1)⟩,0) else (⟨[],evZ,0,0,[]⟩,(verF c).2)
--@condg noz | (c : List Ins) (v : Env) (z : Drv) | Zw E2 FD (vc E2 FD 400) 8 [.psl .ins c false, envV v] hp0 0 (fun r => ret E2 (patch hp0 0 r) r.v (.tup [drvV z, .int false .i64 (verF c).2]))
theorem Zwz (c:List Ins) (v:Env) (z:Drv):Zw E2 FD (vc E2 FD 400) 8 [.psl .ins c false,envV v] hp0 0 (fun r=>ret E2 (patch hp0 0 r) r.v (.tup [drvV z,.int false .i64 (verF c).2]))=(
  True/\∀(y:Int×Int),y=verF c->((Prod.snd y !=(0:Int))=true->(Drv.code z= []/\(0:Int)=Env.has (Drv.env z)/\(0:Int)=Env.v0 (Drv.env z)/\(0:Int)=Env.v1
  (Drv.env z)/\(0:Int)=Env.v2 (Drv.env z)/\(0:Int)=Env.v3 (Drv.env z)/\(0:Int)=Env.v4 (Drv.env z)/\(0:Int)=Env.v5 (Drv.env z)/\(0:Int)=Env.v6 (Drv.env z)/\
  (0:Int)=Env.v7 (Drv.env z)/\(0:Int)=Env.v8 (Drv.env z)/\(0:Int)=Env.v9 (Drv.env z)/\(0:Int)=Env.v10 (Drv.env z)/\(0:Int)=Env.v11 (Drv.env z)/\(0:Int)=
  Env.v12 (Drv.env z)/\(0:Int)=Env.v13 (Drv.env z)/\(0:Int)=Env.v14 (Drv.env z)/\(0:Int)=Env.v15 (Drv.env z)/\(0:Int)=Drv.amount z/\(0:Int)=Drv.err z/\
  Drv.leaves z= []/\True)/\Prod.snd y=Prod.snd (verF c)/\True)/\((Prod.snd y !=(0:Int))=false->False)
  ):=by kernel_rfl
--@end
/-- derive.Run -/
theorem Zt0 (c:List Ins) (v:Env):PureC E2 8 [.psl .ins c false,envV v] (.tup [drvV (drF c v).1,.int false .i64 (drF c v).2]):=by
  by_cases hv:(verF c).2=0
  · obtain ⟨D,hc⟩:=W9 hv
    have h4:=hc.short
    have e:drF c v=(⟨c,v,(Zu (dsk c v (dM c v))).1,(Zu (dsk c v (dM c v))).2.2,lvL c v (dM c v+1)⟩,0):=if_pos hv
    rw [e]
    exact Ztn hv (by omega)
  · have e:drF c v=(⟨[],evZ,0,0,[]⟩,(verF c).2):=if_neg hv
    rw [e]
    exact Zb Zm Zzp ((Zwz c v ⟨[],evZ,0,0,[]⟩).mpr ⟨trivial,fun y hy=>⟨fun _=>by subst hy;simp [evZ],fun q=>by
      subst hy
      exact hv (by simpa using q)⟩⟩)
def dI2:Dc E2 Int:=dInt (E:=E2) .i64
def Z3d:Dc E2 (List (List Int)):=(Zky (E:=E2) Th.digs:Dc E2 (List (thy.dom Th.digs)))
def Z3e:DcL E2 (List Ins×Int×Int×Int×Int×Int×Int×Int×Int×Int×Int×Int×Int×Int×Int×Int×Int×Int×Int×Int×List (List Int)×Unit):= .cons (Zet E2) (.cons dI2 (.cons dI2 (.cons dI2 (.cons dI2 (.cons dI2 (.cons dI2 (.cons dI2 (.cons dI2 (.cons dI2 (.cons dI2 (.cons dI2 (.cons dI2 (.cons dI2 (.cons dI2 (.cons dI2 (.cons dI2 (.cons dI2 (.cons dI2 (.cons dI2 (.cons Z3d .nil))))))))))))))))))))
def dDrv:Dc E2 Drv:=dMap (dAgg Z3e) (fun a=>⟨a.1,⟨a.2.1,a.2.2.1,a.2.2.2.1,a.2.2.2.2.1,a.2.2.2.2.2.1,a.2.2.2.2.2.2.1,a.2.2.2.2.2.2.2.1,a.2.2.2.2.2.2.2.2.1,a.2.2.2.2.2.2.2.2.2.1,a.2.2.2.2.2.2.2.2.2.2.1,a.2.2.2.2.2.2.2.2.2.2.2.1,a.2.2.2.2.2.2.2.2.2.2.2.2.1,a.2.2.2.2.2.2.2.2.2.2.2.2.2.1,a.2.2.2.2.2.2.2.2.2.2.2.2.2.2.1,a.2.2.2.2.2.2.2.2.2.2.2.2.2.2.2.1,a.2.2.2.2.2.2.2.2.2.2.2.2.2.2.2.2.1,a.2.2.2.2.2.2.2.2.2.2.2.2.2.2.2.2.2.1⟩,a.2.2.2.2.2.2.2.2.2.2.2.2.2.2.2.2.2.2.1,a.2.2.2.2.2.2.2.2.2.2.2.2.2.2.2.2.2.2.2.1,a.2.2.2.2.2.2.2.2.2.2.2.2.2.2.2.2.2.2.2.2.1⟩) drvV (fun _=>rfl)
def Zw0:Sum thy:=U5 E2 gthV 10 (.cons (Zet E2) (.cons Zlv .nil)) (fun _=>True) (fun x=>drF x.1 x.2.1) fun y=> .tup [drvV y.1,.int false .i64 y.2]
theorem Zhi:SumOk E2 8 Zw0:=Yq Zm (Zk rfl) fun x _=>Zt0 x.1 x.2.1
def Zls:Sum thy:=U5 E2 gthV 10 (.cons dDrv (.cons dI2 .nil)) (fun _=>True) (fun x=>Xg x.1 x.2.1) fun y=> .tup [stV y.1,.int false .i64 y.2]
theorem Zfo:SumOk E2 12 Zls:=Yq Zm (Zk rfl) fun x _=>Zpv x.1 x.2.1
def ACk:Fr thy->Hp thy->Nat->Ann thy:=fun T h i=>{X:=LX,fr:=fun x=> [(1,T 1),(4,T 4),(39,T 39),(40,T 40),(41,.int false .i64 x.k)],bl:=fun x=>blkP h (T 1)++blkP h (T 4),src:=fun _=> [],md:= [],ih:=i,M:=i+30,meas:=fun x=>x.r}
def FCk:Fns thy:=addL (addS F0 8 Zw0) 10 9 ACk E2
theorem Z19:FnsOk E2 FCk:=Yw Zm (Zg Wo Zhi) _ _ _
--@cond check | 10 | E2:FCk | 400 | (d : Drv) (z : Int × Int) | [drvV d] | | .tup [.int false .i64 z.1, .int false .i64 z.2]
theorem Zpz (d:Drv) (z:Int×Int):Zw E2 FCk (vc E2 FCk 400) 10 [drvV d] hp0 0 (fun r=>ret E2 (patch hp0 0 r) r.v (.tup [.int false .i64 z.1,.int false .i64 z.2]))=(
  (((↑(List.length (Drv.code d)):Int)==(0:Int))=true->∃(Q:Bool->Prop),((decide ((↑(List.length (Drv.leaves d)):Int)>(0:Int))=true->Q true)/\(decide
  ((↑(List.length (Drv.leaves d)):Int)>(0:Int))=false->((Drv.amount d !=(0:Int))=true->Q true)/\((Drv.amount d !=(0:Int))=false->((Drv.err d !=(220:Int))=
  true->Q true)/\((Drv.err d !=(220:Int))=false->Q false))))/\(Q true->(0:Int)=Prod.fst z/\(300:Int)=Prod.snd z/\True)/\(Q false->(0:Int)=Prod.fst z/\(0:
  Int)=Prod.snd z/\True))/\(((↑(List.length (Drv.code d)):Int)==(0:Int))=false->True/\∀(y:Drv×Int),y=drF (Drv.code d) (Drv.env d)->((Prod.snd y !=(0:Int))=
  true->(0:Int)=Prod.fst z/\Prod.snd y=Prod.snd z/\True)/\((Prod.snd y !=(0:Int))=false->∃(R:LX->Prop),(∃(x:LX),R x/\true=true/\((0:Nat)=(0:Nat)/\
  (0:Nat)=(0:Nat)/\(Drv.leaves (Prod.fst y)=Drv.leaves (Prod.fst y)/\(false=true->false=true))/\(↑(List.length (Drv.leaves (Prod.fst y))):Int)=(↑(List.length
  (Drv.leaves (Prod.fst y))):Int)/\(0:Int)=(↑(LX.k x):Int)/\True)/\((Drv.code d=Drv.code d/\(false=true->false=true))/\Env.has (Drv.env d)=Env.has (Drv.env d)/\
  Env.v0 (Drv.env d)=Env.v0 (Drv.env d)/\Env.v1 (Drv.env d)=Env.v1 (Drv.env d)/\Env.v2 (Drv.env d)=Env.v2 (Drv.env d)/\Env.v3 (Drv.env d)=Env.v3 (Drv.env d)/\Env.v4
  (Drv.env d)=Env.v4 (Drv.env d)/\Env.v5 (Drv.env d)=Env.v5 (Drv.env d)/\Env.v6 (Drv.env d)=Env.v6 (Drv.env d)/\Env.v7 (Drv.env d)=Env.v7 (Drv.env d)/\Env.v8 (Drv.env d)
  =Env.v8 (Drv.env d)/\Env.v9 (Drv.env d)=Env.v9 (Drv.env d)/\Env.v10 (Drv.env d)=Env.v10 (Drv.env d)/\Env.v11 (Drv.env d)=Env.v11 (Drv.env d)/\Env.v12 (Drv.env d)=
  Env.v12 (Drv.env d)/\Env.v13 (Drv.env d)=Env.v13 (Drv.env d)/\Env.v14 (Drv.env d)=Env.v14 (Drv.env d)/\Env.v15 (Drv.env d)=Env.v15 (Drv.env d)/\Drv.amount d=Drv.amount
  d/\Drv.err d=Drv.err d/\(Drv.leaves d=Drv.leaves d/\(false=true->false=true))/\True)/\((Drv.code (Prod.fst y)=Drv.code (Prod.fst y)/\(false=true->false=true))
  /\Env.has (Drv.env (Prod.fst y))=Env.has (Drv.env (Prod.fst y))/\Env.v0 (Drv.env (Prod.fst y))=Env.v0 (Drv.env (Prod.fst y))/\Env.v1 (Drv.env (Prod.fst y))=Env.v1 (Drv.env
  (Prod.fst y))/\Env.v2 (Drv.env (Prod.fst y))=Env.v2 (Drv.env (Prod.fst y))/\Env.v3 (Drv.env (Prod.fst y))=Env.v3 (Drv.env (Prod.fst y))/\Env.v4 (Drv.env (Prod.fst y))=
  Env.v4 (Drv.env (Prod.fst y))/\Env.v5 (Drv.env (Prod.fst y))=Env.v5 (Drv.env (Prod.fst y))/\Env.v6 (Drv.env (Prod.fst y))=Env.v6 (Drv.env (Prod.fst y))/\Env.v7 (Drv.env
  (Prod.fst y))=Env.v7 (Drv.env (Prod.fst y))/\Env.v8 (Drv.env (Prod.fst y))=Env.v8 (Drv.env (Prod.fst y))/\Env.v9 (Drv.env (Prod.fst y))=Env.v9 (Drv.env (Prod.fst y))/\
  Env.v10 (Drv.env (Prod.fst y))=Env.v10 (Drv.env (Prod.fst y))/\Env.v11 (Drv.env (Prod.fst y))=Env.v11 (Drv.env (Prod.fst y))/\Env.v12 (Drv.env (Prod.fst y))=Env.v12
  (Drv.env (Prod.fst y))/\Env.v13 (Drv.env (Prod.fst y))=Env.v13 (Drv.env (Prod.fst y))/\Env.v14 (Drv.env (Prod.fst y))=Env.v14 (Drv.env (Prod.fst y))/\Env.v15 (Drv.env
  (Prod.fst y))=Env.v15 (Drv.env (Prod.fst y))/\Drv.amount (Prod.fst y)=Drv.amount (Prod.fst y)/\Drv.err (Prod.fst y)=Drv.err (Prod.fst y)/\(Drv.leaves (Prod.fst y)=
  Drv.leaves (Prod.fst y)/\(false=true->false=true))/\True)/\True)/\∀(x:LX),R x->(decide ((↑(LX.k x):Int)<(↑(List.length (Drv.leaves (Prod.fst y))):Int))=true->
  (0:Int)<=(↑(LX.k x):Int)/\(↑(LX.k x):Int)+(1:Int)<=(↑(List.length (Drv.leaves (Prod.fst y))):Int)/\∀(x_1:List Int),(Drv.leaves (Prod.fst y))[Int.toNat (↑(LX.k
  x):Int)]? =some x_1->(decide ((↑(LX.k x):Int)>=(↑(List.length (Drv.leaves d)):Int))=true->(↑(LX.k x):Int)=Prod.fst z/\(300:Int)=Prod.snd z/\True)/\(decide
  ((↑(LX.k x):Int)>=(↑(List.length (Drv.leaves d)):Int))=false->(0:Int)<=(↑(LX.k x):Int)/\(↑(LX.k x):Int)+(1:Int)<=(↑(List.length (Drv.leaves d)):Int)/\∀(x_2
  :List Int),(Drv.leaves d)[Int.toNat (↑(LX.k x):Int)]? =some x_2->∀(v:Bool),v= !(List.getD x_2 (0:Nat) (0:Int)==List.getD x_1 (0:Nat) (0:Int)&&(List.getD x_2
  (1:Nat) (0:Int)==List.getD x_1 (1:Nat) (0:Int)&&(List.getD x_2 (2:Nat) (0:Int)==List.getD x_1 (2:Nat) (0:Int)&&(List.getD x_2 (3:Nat) (0:Int)==
  List.getD x_1 (3:Nat) (0:Int)&&(List.getD x_2 (4:Nat) (0:Int)==List.getD x_1 (4:Nat) (0:Int)&&(List.getD x_2 (5:Nat) (0:Int)==List.getD x_1 (5:Nat) (0:
  Int)&&(List.getD x_2 (6:Nat) (0:Int)==List.getD x_1 (6:Nat) (0:Int)&&(List.getD x_2 (7:Nat) (0:Int)==List.getD x_1 (7:Nat) (0:Int)&&(List.getD x_2 (8:
  Nat) (0:Int)==List.getD x_1 (8:Nat) (0:Int)&&(List.getD x_2 (9:Nat) (0:Int)==List.getD x_1 (9:Nat) (0:Int)&&(List.getD x_2 (10:Nat) (0:Int)==List.getD
  x_1 (10:Nat) (0:Int)&&(List.getD x_2 (11:Nat) (0:Int)==List.getD x_1 (11:Nat) (0:Int)&&(List.getD x_2 (12:Nat) (0:Int)==List.getD x_1 (12:Nat) (0:Int)
  &&(List.getD x_2 (13:Nat) (0:Int)==List.getD x_1 (13:Nat) (0:Int)&&(List.getD x_2 (14:Nat) (0:Int)==List.getD x_1 (14:Nat) (0:Int)&&(List.getD x_2 (15:
  Nat) (0:Int)==List.getD x_1 (15:Nat) (0:Int)&&(List.getD x_2 (16:Nat) (0:Int)==List.getD x_1 (16:Nat) (0:Int)&&(List.getD x_2 (17:Nat) (0:Int)==
  List.getD x_1 (17:Nat) (0:Int)&&(List.getD x_2 (18:Nat) (0:Int)==List.getD x_1 (18:Nat) (0:Int)&&(List.getD x_2 (19:Nat) (0:Int)==List.getD x_1 (19:Nat)
  (0:Int)&&(List.getD x_2 (20:Nat) (0:Int)==List.getD x_1 (20:Nat) (0:Int)&&(List.getD x_2 (21:Nat) (0:Int)==List.getD x_1 (21:Nat) (0:Int)&&(List.getD
  x_2 (22:Nat) (0:Int)==List.getD x_1 (22:Nat) (0:Int)&&(List.getD x_2 (23:Nat) (0:Int)==List.getD x_1 (23:Nat) (0:Int)&&(List.getD x_2 (24:Nat) (0:Int)
  ==List.getD x_1 (24:Nat) (0:Int)&&(List.getD x_2 (25:Nat) (0:Int)==List.getD x_1 (25:Nat) (0:Int)&&(List.getD x_2 (26:Nat) (0:Int)==List.getD x_1 (26:
  Nat) (0:Int)&&(List.getD x_2 (27:Nat) (0:Int)==List.getD x_1 (27:Nat) (0:Int)&&(List.getD x_2 (28:Nat) (0:Int)==List.getD x_1 (28:Nat) (0:Int)&&
  (List.getD x_2 (29:Nat) (0:Int)==List.getD x_1 (29:Nat) (0:Int)&&(List.getD x_2 (30:Nat) (0:Int)==List.getD x_1 (30:Nat) (0:Int)&&(List.getD x_2 (31:Nat)
  (0:Int)==List.getD x_1 (31:Nat) (0:Int)&&true))))))))))))))))))))))))))))))))->(v=true->(↑(LX.k x):Int)=Prod.fst z/\(300:Int)=Prod.snd z/\True)/\(v=false
  ->∃(x_3:LX),R x_3/\x_3.2+(1:Nat)<=x.2/\true=true/\((0:Nat)=(0:Nat)/\(0:Nat)=(0:Nat)/\(Drv.leaves (Prod.fst y)=Drv.leaves (Prod.fst y)/\(false=true
  ->false=true))/\(↑(List.length (Drv.leaves (Prod.fst y))):Int)=(↑(List.length (Drv.leaves (Prod.fst y))):Int)/\wr IntKind.i64 ((↑(LX.k x):Int)+(1:Int))=(↑(LX.k
  x_3):Int)/\True)/\((Drv.code d=Drv.code d/\(false=true->false=true))/\Env.has (Drv.env d)=Env.has (Drv.env d)/\Env.v0 (Drv.env d)=Env.v0 (Drv.env d)/\Env.v1
  (Drv.env d)=Env.v1 (Drv.env d)/\Env.v2 (Drv.env d)=Env.v2 (Drv.env d)/\Env.v3 (Drv.env d)=Env.v3 (Drv.env d)/\Env.v4 (Drv.env d)=Env.v4 (Drv.env d)/\Env.v5 (Drv.env d)
  =Env.v5 (Drv.env d)/\Env.v6 (Drv.env d)=Env.v6 (Drv.env d)/\Env.v7 (Drv.env d)=Env.v7 (Drv.env d)/\Env.v8 (Drv.env d)=Env.v8 (Drv.env d)/\Env.v9 (Drv.env d)=Env.v9
  (Drv.env d)/\Env.v10 (Drv.env d)=Env.v10 (Drv.env d)/\Env.v11 (Drv.env d)=Env.v11 (Drv.env d)/\Env.v12 (Drv.env d)=Env.v12 (Drv.env d)/\Env.v13 (Drv.env d)=Env.v13
  (Drv.env d)/\Env.v14 (Drv.env d)=Env.v14 (Drv.env d)/\Env.v15 (Drv.env d)=Env.v15 (Drv.env d)/\Drv.amount d=Drv.amount d/\Drv.err d=Drv.err d/\(Drv.leaves d=
  Drv.leaves d/\(false=true->false=true))/\True)/\((Drv.code (Prod.fst y)=Drv.code (Prod.fst y)/\(false=true->false=true))/\Env.has (Drv.env (Prod.fst y))=Env.has
  (Drv.env (Prod.fst y))/\Env.v0 (Drv.env (Prod.fst y))=Env.v0 (Drv.env (Prod.fst y))/\Env.v1 (Drv.env (Prod.fst y))=Env.v1 (Drv.env (Prod.fst y))/\Env.v2 (Drv.env (Prod.fst
  y))=Env.v2 (Drv.env (Prod.fst y))/\Env.v3 (Drv.env (Prod.fst y))=Env.v3 (Drv.env (Prod.fst y))/\Env.v4 (Drv.env (Prod.fst y))=Env.v4 (Drv.env (Prod.fst y))/\Env.v5
  (Drv.env (Prod.fst y))=Env.v5 (Drv.env (Prod.fst y))/\Env.v6 (Drv.env (Prod.fst y))=Env.v6 (Drv.env (Prod.fst y))/\Env.v7 (Drv.env (Prod.fst y))=Env.v7 (Drv.env (Prod.fst
  y))/\Env.v8 (Drv.env (Prod.fst y))=Env.v8 (Drv.env (Prod.fst y))/\Env.v9 (Drv.env (Prod.fst y))=Env.v9 (Drv.env (Prod.fst y))/\Env.v10 (Drv.env (Prod.fst y))=Env.v10
  (Drv.env (Prod.fst y))/\Env.v11 (Drv.env (Prod.fst y))=Env.v11 (Drv.env (Prod.fst y))/\Env.v12 (Drv.env (Prod.fst y))=Env.v12 (Drv.env (Prod.fst y))/\Env.v13 (Drv.env
  (Prod.fst y))=Env.v13 (Drv.env (Prod.fst y))/\Env.v14 (Drv.env (Prod.fst y))=Env.v14 (Drv.env (Prod.fst y))/\Env.v15 (Drv.env (Prod.fst y))=Env.v15 (Drv.env (Prod.fst y))/\
  Drv.amount (Prod.fst y)=Drv.amount (Prod.fst y)/\Drv.err (Prod.fst y)=Drv.err (Prod.fst y)/\(Drv.leaves (Prod.fst y)=Drv.leaves (Prod.fst y)/\(false=true->false=
  true))/\True)/\True)))/\(decide ((↑(LX.k x):Int)<(↑(List.length (Drv.leaves (Prod.fst y))):Int))=false->(decide ((↑(List.length (Drv.leaves d)):Int)>(↑(List.length
  (Drv.leaves (Prod.fst y))):Int))=true->(↑(List.length (Drv.leaves (Prod.fst y))):Int)=Prod.fst z/\(300:Int)=Prod.snd z/\True)/\(decide ((↑(List.length (Drv.leaves
  d)):Int)>(↑(List.length (Drv.leaves (Prod.fst y))):Int))=false->((Drv.amount d !=Drv.amount (Prod.fst y))=true->wr IntKind.i64 ((↑(List.length (Drv.leaves (Prod.fst
  y))):Int)-(1:Int))=Prod.fst z/\(300:Int)=Prod.snd z/\True)/\((Drv.amount d !=Drv.amount (Prod.fst y))=false->((Drv.err d !=Drv.err (Prod.fst y))=true->wr
  IntKind.i64 ((↑(List.length (Drv.leaves (Prod.fst y))):Int)-(1:Int))=Prod.fst z/\(300:Int)=Prod.snd z/\True)/\((Drv.err d !=Drv.err (Prod.fst y))=false->(0:
  Int)=Prod.fst z/\(0:Int)=Prod.snd z/\True))))))
  ):=by kernel_rfl
--@end
theorem Zw1 (a b:List Int):(List.getD a 0 0==List.getD b 0 0&&(List.getD a 1 0==List.getD b 1 0&&(List.getD a 2 0==List.getD b 2 0&&(List.getD a 3 0==List.getD b 3 0&&(List.getD a 4 0==List.getD b 4 0&&(List.getD a 5 0==List.getD b 5 0&&(List.getD a 6 0==List.getD b 6 0&&(List.getD a 7 0==List.getD b 7 0&&(List.getD a 8 0==List.getD b 8 0&&(List.getD a 9 0==List.getD b 9 0&&(List.getD a 10 0==List.getD b 10 0&&(List.getD a 11 0==List.getD b 11 0&&(List.getD a 12 0==List.getD b 12 0&&(List.getD a 13 0==List.getD b 13 0&&(List.getD a 14 0==List.getD b 14 0&&(List.getD a 15 0==List.getD b 15 0&&(List.getD a 16 0==List.getD b 16 0&&(List.getD a 17 0==List.getD b 17 0&&(List.getD a 18 0==List.getD b 18 0&&(List.getD a 19 0==List.getD b 19 0&&(List.getD a 20 0==List.getD b 20 0&&(List.getD a 21 0==List.getD b 21 0&&(List.getD a 22 0==List.getD b 22 0&&(List.getD a 23 0==List.getD b 23 0&&(List.getD a 24 0==List.getD b 24 0&&(List.getD a 25 0==List.getD b 25 0&&(List.getD a 26 0==List.getD b 26 0&&(List.getD a 27 0==List.getD b 27 0&&(List.getD a 28 0==List.getD b 28 0&&(List.getD a 29 0==List.getD b 29 0&&(List.getD a 30 0==List.getD b 30 0&&(List.getD a 31 0==List.getD b 31 0&&(true)))))))))))))))))))))))))))))))))=decide (n32 a=n32 b):=by
  rw [Bool.eq_iff_iff]
  simp only [n32x,List.cons.injEq,decide_eq_true_eq,Bool.and_eq_true,beq_iff_eq,and_true]
/-- the first of the leaves R that is not in its place in L -/
def Zax:List (List Int)->List (List Int)->Nat->Option Nat
  | [],_,_=>none
  |x::r,[],k=>some k
  |x::r,y::l,k=>if n32 y=n32 x then Zax r l (k+1) else some k
theorem Zi8 {R L:List (List Int)} {k:Nat} {x y:List Int} (h1:R[k]? =some x) (h2:L[k]? =some y):Zax (R.drop k) (L.drop k) k=if n32 y=n32 x then Zax (R.drop (k+1)) (L.drop (k+1)) (k+1) else some k:=by
  obtain ⟨a1,e1⟩:=gA9.1 h1
  obtain ⟨a2,e2⟩:=gA9.1 h2
  rw [List.drop_eq_getElem_cons a1,List.drop_eq_getElem_cons a2,e1,e2]
  rfl
theorem Zp0 {R L:List (List Int)} {k:Nat} {x:List Int} (h1:R[k]? =some x) (h2:L.length<=k):Zax (R.drop k) (L.drop k) k=some k:=by
  obtain ⟨a1,e1⟩:=gA9.1 h1
  rw [List.drop_eq_getElem_cons a1,List.drop_of_length_le h2]
  rfl
theorem Zw2 {R L:List (List Int)} {k:Nat} (h1:R.length<=k):Zax (R.drop k) (L.drop k) k=none:=by
  rw [List.drop_of_length_le h1]
  rfl
/-- what Check answers -/
def Yj (d:Drv):Int×Int:=
  if d.code= [] then (if 0<d.leaves.length\/d.amount≠0\/d.err≠220 then (0,300) else (0,0))
  else if (drF d.code d.env).2≠0 then (0,(drF d.code d.env).2)
  else match Zax (drF d.code d.env).1.leaves d.leaves 0 with
    |some k=>((k:Int),300)
    |none=>if (drF d.code d.env).1.leaves.length<d.leaves.length then (((drF d.code d.env).1.leaves.length:Int),300)
      else if d.amount≠(drF d.code d.env).1.amount\/d.err≠(drF d.code d.env).1.err then (((drF d.code d.env).1.leaves.length:Int)-1,300)
      else (0,0)
theorem Z0e {c:List Ins} {v:Env} (h:(drF c v).2=0):1<=(drF c v).1.leaves.length/\(drF c v).1.leaves.length<=4097/\(drF c v).1.leaves.length<=c.length+1:=by
  by_cases hv:(verF c).2=0
  · obtain ⟨D,hc⟩:=W9 hv
    have h4:=hc.short
    have h5:=(Zg6 (v:=v) hv).1
    unfold drF
    rw [if_pos hv]
    show 1<=(lvL c v (dM c v+1)).length/\(lvL c v (dM c v+1)).length<=4097/\(lvL c v (dM c v+1)).length<=c.length+1
    rw [Zb0]
    omega
  · unfold drF at h
    rw [if_neg hv] at h
    exact absurd h hv
/-- derive.Check -/
theorem Zlt (d:Drv):PureC E2 10 [drvV d] (.tup [.int false .i64 (Yj d).1,.int false .i64 (Yj d).2]):=by
  refine Zb Zm (Zi Zm Z19 400) ?_
  rw [Zpz d (Yj d)]
  refine ⟨fun h0=> ?_,fun h0=>⟨trivial,fun y hy=>⟨fun h1=> ?_,fun h1=> ?_⟩⟩⟩
  · have hc:d.code= []:=by simpa using h0
    refine ⟨fun b=>b=decide (0<d.leaves.length\/d.amount≠0\/d.err≠220),⟨fun a1=> ?_,fun a1=>⟨fun a2=> ?_,fun a2=>⟨fun a3=> ?_,fun a3=> ?_⟩⟩⟩,fun q=> ?_,fun q=> ?_⟩
    · simp only [decide_eq_true_eq] at a1
      exact (decide_eq_true (.inl (by omega))).symm
    · exact (decide_eq_true (.inr (.inl (by simpa using a2)))).symm
    · exact (decide_eq_true (.inr (.inr (by simpa using a3)))).symm
    · simp only [decide_eq_false_iff_not,bne_eq_false_iff_eq] at a1 a2 a3
      refine (decide_eq_false ?_).symm
      rintro (h|h|h)
      · omega
      · exact h a2
      · exact h a3
    · have e:Yj d=(0,300):=by
        unfold Yj
        rw [if_pos hc,if_pos (of_decide_eq_true q.symm)]
      rw [e]
      exact ⟨rfl,rfl,trivial⟩
    · have e:Yj d=(0,0):=by
        unfold Yj
        rw [if_pos hc,if_neg (of_decide_eq_false q.symm)]
      rw [e]
      exact ⟨rfl,rfl,trivial⟩
  · have hc:d.code≠ []:=by simpa using h0
    subst hy
    have hn:(drF d.code d.env).2≠0:=by simpa using h1
    have e:Yj d=(0,(drF d.code d.env).2):=by
      unfold Yj
      rw [if_neg hc,if_pos hn]
    rw [e]
    exact ⟨rfl,rfl,trivial⟩
  · have hc:d.code≠ []:=by simpa using h0
    have hn:(drF d.code d.env).2=0:=by rw [<-hy];simpa using h1
    obtain ⟨n1,n2,n3⟩:=Z0e hn
    have e0:Yj d=(match Zax (drF d.code d.env).1.leaves d.leaves 0 with
        |some k=>((k:Int),300)
        |none=>if (drF d.code d.env).1.leaves.length<d.leaves.length then (((drF d.code d.env).1.leaves.length:Int),300)
          else if d.amount≠(drF d.code d.env).1.amount\/d.err≠(drF d.code d.env).1.err then (((drF d.code d.env).1.leaves.length:Int)-1,300)
          else (0,0)):=by
      unfold Yj
      rw [if_neg hc,if_neg (by simpa using hn)]
    rw [<-hy] at n1 n2 n3 e0
    rw [e0]
    clear e0 hy
    generalize y.1=r at n1 n2 n3⊢
    refine ⟨fun x=>x.k<=r.leaves.length/\Zax (r.leaves.drop x.k) (d.leaves.drop x.k) x.k=Zax r.leaves d.leaves 0/\x.r=r.leaves.length-x.k,⟨⟨0,r.leaves.length,[],0⟩,⟨Nat.zero_le _,rfl,rfl⟩,by simp⟩,?_⟩
    rintro x ⟨k1,k2,k3⟩
    refine ⟨fun hlt=> ?_,fun hge=> ?_⟩
    · have hlt:x.k<r.leaves.length:=by simpa using hlt
      refine ⟨by omega,by omega,fun x1 hx1=>⟨fun hg=> ?_,fun hg=>⟨by omega,?_,fun x2 hx2 b hb=>⟨fun q=> ?_,fun q=> ?_⟩⟩⟩⟩
      · have hx1:r.leaves[x.k]? =some x1:=hx1
        have hg:d.leaves.length<=x.k:=by simpa using hg
        rw [<-k2,Zp0 hx1 hg]
        exact ⟨rfl,rfl,trivial⟩
      · have hg:x.k<d.leaves.length:=by simpa using hg
        omega
      · have hx1:r.leaves[x.k]? =some x1:=hx1
        have hx2:d.leaves[x.k]? =some x2:=hx2
        rw [Zw1] at hb
        rw [<-k2,Zi8 hx1 hx2,if_neg]
        · exact ⟨rfl,rfl,trivial⟩
        · intro e
          rw [hb] at q
          simp [e] at q
      · have hx1:r.leaves[x.k]? =some x1:=hx1
        have hx2:d.leaves[x.k]? =some x2:=hx2
        rw [Zw1] at hb
        have e:n32 x2=n32 x1:=by
          rw [hb] at q
          simpa using q
        rw [Zi8 hx1 hx2,if_pos e] at k2
        refine ⟨⟨x.k+1,r.leaves.length-(x.k+1),[],0⟩,⟨hlt,k2,rfl⟩,by show r.leaves.length-(x.k+1)+1<=x.r;omega,?_⟩
        simp
        exact (wr64 (by omega) (by omega)).trans (by omega)
    · have hge:r.leaves.length<=x.k:=by simpa using hge
      rw [<-k2,Zw2 hge]
      refine ⟨fun a1=> ?_,fun a1=>⟨fun a2=> ?_,fun a2=>⟨fun a3=> ?_,fun a3=> ?_⟩⟩⟩
      · have a1:r.leaves.length<d.leaves.length:=by simpa using a1
        simp only [if_pos a1]
        exact ⟨trivial,trivial,trivial⟩
      · have a1:¬r.leaves.length<d.leaves.length:=by simpa using a1
        have a2:d.amount≠r.amount:=by simpa using a2
        simp only [if_neg a1,if_pos (Or.inl a2:d.amount≠r.amount\/d.err≠r.err)]
        exact ⟨wr64 (by omega) (by omega),trivial,trivial⟩
      · have a1:¬r.leaves.length<d.leaves.length:=by simpa using a1
        have a3:d.err≠r.err:=by simpa using a3
        simp only [if_neg a1,if_pos (Or.inr a3:d.amount≠r.amount\/d.err≠r.err)]
        exact ⟨wr64 (by omega) (by omega),trivial,trivial⟩
      · have a1:¬r.leaves.length<d.leaves.length:=by simpa using a1
        have a2:d.amount=r.amount:=by simpa using a2
        have a3:d.err=r.err:=by simpa using a3
        have hne:¬(d.amount≠r.amount\/d.err≠r.err):=by
          rintro (h|h)
          · exact h a2
          · exact h a3
        simp only [if_neg a1,if_neg hne]
        exact ⟨trivial,trivial,trivial⟩
end
section
open Go Go.RowKit
def Zlo:Sum thy:=U5 E2 gthV 10 (.cons dDrv .nil) (fun _=>True) (fun x=>Yj x.1) fun y=> .tup [.int false .i64 y.1,.int false .i64 y.2]
theorem Zfn:SumOk E2 10 Zlo:=Yq Zm (Zk rfl) fun x _=>Zlt x.1
def Ztx:Sum thy:=U5 E2 gthV 10 (.cons dSt2 (.cons dSt2 .nil)) (fun x=>x.1.stack.length<=1000000) (fun x=>Zs3 x.1 x.2.1) fun y=> .bool false y
theorem Zi5:SumOk E2 14 Ztx:=Yq Zm (Zk rfl) fun x h=>up2 (Zrd x.1 x.2.1 h)
--@cond changed | 23 | E2:F0 | 400 | (d : Drv) (i : Int) | [drvV d, .int false .i64 i] | (z : Drv) | drvV z
theorem Zi6 (d:Drv) (i:Int) (z:Drv):Zw E2 F0 (vc E2 F0 400) 23 [drvV d,.int false .i64 i] hp0 0 (fun r=>ret E2 (patch hp0 0 r) r.v (drvV z))=(
  (Drv.leaves d= []->(0:Int)<=i/\i+(1:Int)<=(↑(0:Nat):Int)/\True)/\(Drv.leaves d≠ []->((0:Nat)+(1:Nat)<=(0:Nat)+List.length (Drv.leaves d)/\((0:Nat)
  +List.length (Drv.leaves d))*(32:Nat)<=(140737488355328:Nat))/\((0:Int)<=i/\i+(1:Int)<=(↑((0:Nat)+List.length (Drv.leaves d)):Int))/\(0:Nat)+Int.toNat
  i+(1:Nat)<=List.length ([]++Drv.leaves d)/\∀(x:List Int),([]++Drv.leaves d)[(0:Nat)+Int.toNat i]? =some x->((0:Int)<=i/\i+(1:Int)<=(↑((0:Nat)+
  List.length (Drv.leaves d)):Int))/\(0:Nat)<=(0:Nat)+Int.toNat i/\(0:Nat)+Int.toNat i+(1:Nat)<=List.length ([]++Drv.leaves d)/\∀(x_1:List Int),([]++
  Drv.leaves d)[(0:Nat)+Int.toNat i]? =some x_1->(Drv.code d=Drv.code z/\(false=true->false=true))/\Env.has (Drv.env d)=Env.has (Drv.env z)/\Env.v0 (Drv.env d)=
  Env.v0 (Drv.env z)/\Env.v1 (Drv.env d)=Env.v1 (Drv.env z)/\Env.v2 (Drv.env d)=Env.v2 (Drv.env z)/\Env.v3 (Drv.env d)=Env.v3 (Drv.env z)/\Env.v4 (Drv.env d)=Env.v4
  (Drv.env z)/\Env.v5 (Drv.env d)=Env.v5 (Drv.env z)/\Env.v6 (Drv.env d)=Env.v6 (Drv.env z)/\Env.v7 (Drv.env d)=Env.v7 (Drv.env z)/\Env.v8 (Drv.env d)=Env.v8 (Drv.env z)
  /\Env.v9 (Drv.env d)=Env.v9 (Drv.env z)/\Env.v10 (Drv.env d)=Env.v10 (Drv.env z)/\Env.v11 (Drv.env d)=Env.v11 (Drv.env z)/\Env.v12 (Drv.env d)=Env.v12 (Drv.env z)/\
  Env.v13 (Drv.env d)=Env.v13 (Drv.env z)/\Env.v14 (Drv.env d)=Env.v14 (Drv.env z)/\Env.v15 (Drv.env d)=Env.v15 (Drv.env z)/\Drv.amount d=Drv.amount z/\Drv.err d=
  Drv.err z/\((0:Nat)+((0:Nat)+List.length (Drv.leaves d))<=List.length (List.set ([]++Drv.leaves d) ((0:Nat)+Int.toNat i) [Z5 BinOp.xor IntKind.u8 (List.getD x
  (0:Nat) (0:Int)) (1:Int),List.getD x_1 (1:Nat) (0:Int),List.getD x_1 (2:Nat) (0:Int),List.getD x_1 (3:Nat) (0:Int),List.getD x_1 (4:Nat) (0:Int),
  List.getD x_1 (5:Nat) (0:Int),List.getD x_1 (6:Nat) (0:Int),List.getD x_1 (7:Nat) (0:Int),List.getD x_1 (8:Nat) (0:Int),List.getD x_1 (9:Nat) (0:Int),
  List.getD x_1 (10:Nat) (0:Int),List.getD x_1 (11:Nat) (0:Int),List.getD x_1 (12:Nat) (0:Int),List.getD x_1 (13:Nat) (0:Int),List.getD x_1 (14:Nat) (0:Int),
  List.getD x_1 (15:Nat) (0:Int),List.getD x_1 (16:Nat) (0:Int),List.getD x_1 (17:Nat) (0:Int),List.getD x_1 (18:Nat) (0:Int),List.getD x_1 (19:Nat) (0:Int),
  List.getD x_1 (20:Nat) (0:Int),List.getD x_1 (21:Nat) (0:Int),List.getD x_1 (22:Nat) (0:Int),List.getD x_1 (23:Nat) (0:Int),List.getD x_1 (24:Nat) (0:Int),
  List.getD x_1 (25:Nat) (0:Int),List.getD x_1 (26:Nat) (0:Int),List.getD x_1 (27:Nat) (0:Int),List.getD x_1 (28:Nat) (0:Int),List.getD x_1 (29:Nat) (0:Int),
  List.getD x_1 (30:Nat) (0:Int),List.getD x_1 (31:Nat) (0:Int)])/\List.take ((0:Nat)+List.length (Drv.leaves d)) (List.set ([]++Drv.leaves d) ((0:Nat)+Int.toNat
  i) [Z5 BinOp.xor IntKind.u8 (List.getD x (0:Nat) (0:Int)) (1:Int),List.getD x_1 (1:Nat) (0:Int),List.getD x_1 (2:Nat) (0:Int),List.getD x_1 (3:Nat) (0:
  Int),List.getD x_1 (4:Nat) (0:Int),List.getD x_1 (5:Nat) (0:Int),List.getD x_1 (6:Nat) (0:Int),List.getD x_1 (7:Nat) (0:Int),List.getD x_1 (8:Nat) (0:Int),
  List.getD x_1 (9:Nat) (0:Int),List.getD x_1 (10:Nat) (0:Int),List.getD x_1 (11:Nat) (0:Int),List.getD x_1 (12:Nat) (0:Int),List.getD x_1 (13:Nat) (0:Int),
  List.getD x_1 (14:Nat) (0:Int),List.getD x_1 (15:Nat) (0:Int),List.getD x_1 (16:Nat) (0:Int),List.getD x_1 (17:Nat) (0:Int),List.getD x_1 (18:Nat) (0:Int),
  List.getD x_1 (19:Nat) (0:Int),List.getD x_1 (20:Nat) (0:Int),List.getD x_1 (21:Nat) (0:Int),List.getD x_1 (22:Nat) (0:Int),List.getD x_1 (23:Nat) (0:Int),
  List.getD x_1 (24:Nat) (0:Int),List.getD x_1 (25:Nat) (0:Int),List.getD x_1 (26:Nat) (0:Int),List.getD x_1 (27:Nat) (0:Int),List.getD x_1 (28:Nat) (0:Int),
  List.getD x_1 (29:Nat) (0:Int),List.getD x_1 (30:Nat) (0:Int),List.getD x_1 (31:Nat) (0:Int)])=Drv.leaves z)/\True)
  ):=by kernel_rfl
--@end
--@cond few30 | 9 | E2:F0 | 400 | (c : List Ins) | [.psl .ins c false] | (b : Bool) | .bool false b
theorem Zpx (c:List Ins) (b:Bool):Zw E2 F0 (vc E2 F0 400) 9 [.psl .ins c false] hp0 0 (fun r=>ret E2 (patch hp0 0 r) r.v (.bool false b))=(
  (decide ((↑(List.length c):Int)<=(40:Int))=true->true=b)/\(decide ((↑(List.length c):Int)<=(40:Int))=false->false=b)
  ):=by kernel_rfl
--@end
def Zlp (x:List Int):List Int:= [Z5 BinOp.xor IntKind.u8 (List.getD x 0 0) 1,List.getD x 1 0,List.getD x 2 0,List.getD x 3 0,List.getD x 4 0,List.getD x 5 0,List.getD x 6 0,List.getD x 7 0,List.getD x 8 0,List.getD x 9 0,List.getD x 10 0,List.getD x 11 0,List.getD x 12 0,List.getD x 13 0,List.getD x 14 0,List.getD x 15 0,List.getD x 16 0,List.getD x 17 0,List.getD x 18 0,List.getD x 19 0,List.getD x 20 0,List.getD x 21 0,List.getD x 22 0,List.getD x 23 0,List.getD x 24 0,List.getD x 25 0,List.getD x 26 0,List.getD x 27 0,List.getD x 28 0,List.getD x 29 0,List.getD x 30 0,List.getD x 31 0]
/-- one leaf is another one -/
def Wt (d:Drv) (i:Int):Drv:={d with leaves:=d.leaves.set i.toNat (Zlp (d.leaves.getD i.toNat []))}
theorem Zi7 (d:Drv) (i:Int) (h0:0<=i) (h1:i<d.leaves.length) (h2:d.leaves.length<=5000):PureC E2 23 [drvV d,.int false .i64 i] (drvV (Wt d i)):=by
  refine Zb Zm (Zi Zm Wo 400) ?_
  rw [Zi6 d i (Wt d i)]
  refine ⟨fun e=> ?_,fun _=>⟨⟨by omega,by omega⟩,⟨h0,by omega⟩,by rw [List.nil_append];omega,fun x hx=>⟨⟨h0,by omega⟩,Nat.zero_le _,by rw [List.nil_append];omega,fun x1 hx1=> ?_⟩⟩⟩
  · rw [e] at h1
    exact absurd h1 (by simp;omega)
  · rw [hx] at hx1
    cases hx1
    have e:d.leaves.getD i.toNat []=x:=by
      rw [List.nil_append,Nat.zero_add] at hx
      rw [List.getD_eq_getElem?_getD,hx];rfl
    have ec:(Wt d i).leaves=d.leaves.set i.toNat (Zlp x):=by rw [<-e];rfl
    rw [ec]
    simp only [Wt,List.nil_append,Nat.zero_add,List.length_set,Nat.le_refl,true_and]
    refine ⟨fun h=>h,?_⟩
    refine ⟨?_,trivial⟩
    have hl:(d.leaves.set i.toNat (Zlp x)).length=d.leaves.length:=List.length_set
    exact (List.take_of_length_le (by rw [hl];exact Nat.le_refl _):List.take d.leaves.length (d.leaves.set i.toNat (Zlp x))=_)
theorem Zty (c:List Ins):PureC E2 9 [.psl .ins c false] (.bool false (decide (c.length<=40))):=by
  refine Zb Zm (Zi Zm Wo 400) ?_
  rw [Zpx]
  refine ⟨fun h1=> ?_,fun h1=> ?_⟩
  · exact (decide_eq_true (by simp only [decide_eq_true_eq] at h1;omega)).symm
  · exact (decide_eq_false (by simp only [decide_eq_false_iff_not] at h1;omega)).symm
def Z15:Sum thy:=U5 E2 gthV 10 (.cons dDrv (.cons dI2 .nil)) (fun x=>0<=x.2.1/\x.2.1<x.1.leaves.length/\x.1.leaves.length<=5000) (fun x=>Wt x.1 x.2.1) drvV
theorem Zwu:SumOk E2 23 Z15:=Yq Zm (Zk rfl) fun x h=>Zi7 x.1 x.2.1 h.1 h.2.1 h.2.2
def Z16:Sum thy:=U5 E2 gthV 10 (.cons (Zet E2) .nil) (fun _=>True) (fun x=>decide (x.1.length<=40)) fun y=> .bool false y
theorem Zwv:SumOk E2 9 Z16:=Yq Zm (Zk rfl) fun x _=>Zty x.1
def FS0:Fns thy:=addS (addS (addS (addS (addS F0 8 Zw0) 12 Zls) 10 Zlo) 14 Ztx) 23 Z15
theorem Z17:FnsOk E2 FS0:=Zg (Zg (Zg (Zg (Zg Wo Zhi) Zfo) Zfn) Zi5) Zwu
--@cond sane30 | 7 | E2:FS0 | 400 | (b : Bool) | [] | | .bool false b
theorem Zlq (b:Bool):Zw E2 FS0 (vc E2 FS0 400) 7 [] hp0 0 (fun r=>ret E2 (patch hp0 0 r) r.v (.bool false b))=(
  True/\∀(y:Drv×Int),y=drF [Ins.mk (2:Int) (6:Int) (0:Int),Ins.mk (1:Int) (7:Int) (0:Int),Ins.mk (5:Int) (0:Int) (0:Int),Ins.mk (15:Int) (0:Int) (0
  :Int)] (Env.mk (64:Int) (0:Int) (0:Int) (0:Int) (0:Int) (0:Int) (0:Int) (30:Int) (0:Int) (0:Int) (0:Int) (0:Int) (0:Int) (0:Int) (0:Int) (0:Int) (0
  :Int))->True/\∀(y_1:Drv×Int),y_1=drF [Ins.mk (2:Int) (6:Int) (0:Int),Ins.mk (1:Int) (7:Int) (0:Int),Ins.mk (5:Int) (0:Int) (0:Int),Ins.mk (15:Int)
  (0:Int) (0:Int)] (Env.mk (0:Int) (0:Int) (0:Int) (0:Int) (0:Int) (0:Int) (0:Int) (0:Int) (0:Int) (0:Int) (0:Int) (0:Int) (0:Int) (0:Int) (0:Int)
  (0:Int) (0:Int))->∃(Q:Bool->Prop),(((Prod.snd y !=(0:Int))=true->Q true)/\((Prod.snd y !=(0:Int))=false->(((↑(List.length (Drv.leaves (Prod.fst y))):Int)
  !=(5:Int))=true->Q true)/\(((↑(List.length (Drv.leaves (Prod.fst y))):Int) !=(5:Int))=false->((Drv.amount (Prod.fst y) !=(210:Int))=true->Q true)/\
  ((Drv.amount (Prod.fst y) !=(210:Int))=false->((Drv.err (Prod.fst y) !=(0:Int))=true->Q true)/\((Drv.err (Prod.fst y) !=(0:Int))=false->((Prod.snd y_1 !=(0:
  Int))=true->Q true)/\((Prod.snd y_1 !=(0:Int))=false->(((↑(List.length (Drv.leaves (Prod.fst y_1))):Int) !=(2:Int))=true->Q true)/\(((↑(List.length (Drv.leaves
  (Prod.fst y_1))):Int) !=(2:Int))=false->((Drv.amount (Prod.fst y_1) !=(0:Int))=true->Q true)/\((Drv.amount (Prod.fst y_1) !=(0:Int))=false->((Drv.err (Prod.fst
  y_1) !=(181:Int))=true->Q true)/\((Drv.err (Prod.fst y_1) !=(181:Int))=false->Q false)))))))))/\(Q true->false=b)/\(Q false->True/\∀(y_2:St×Int),y_2=
  Xg (Prod.fst y) (2:Int)->True/\∀(y_3:St×Int),y_3=Xg (Prod.fst y) (5:Int)->((0:Int)<=(3:Int)/\(3:Int)+(1:Int)<=(↑(List.length (Drv.leaves
  (Prod.fst y))):Int)/\List.length (Drv.leaves (Prod.fst y))<=(5000:Nat))/\∀(y_4:Drv),y_4=Wt (Prod.fst y) (3:Int)->True/\∀(y_5:Int×Int),y_5=Yj y_4
  ->True/\∀(y_6:Int×Int),y_6=Yj (Drv.mk (Drv.code (Prod.fst y)) (Drv.env (Prod.fst y)) (211:Int) (Drv.err (Prod.fst y)) (Drv.leaves (Prod.fst y)))->((0:Int)<=(4:
  Int)/\(4:Int)<=(↑(List.length (Drv.leaves (Prod.fst y))):Int))/\True/\∀(y_7:Int×Int),y_7=Yj (Drv.mk (Drv.code (Prod.fst y)) (Drv.env (Prod.fst y)) (210:Int)
  (0:Int) (List.take (Int.toNat (4:Int)) (Drv.leaves (Prod.fst y))))->((Prod.snd y_2==(0:Int))=true->List.length (St.stack (Prod.fst y_2))<=(1000000:Nat)/\∀(y:
  Bool),y=Zs3 (Prod.fst y_2) (St.mk (2:Int) (3:Int) (0:Int) (0:Int) [(30:Int),(7:Int)])->(y=true->((Prod.snd y_3==(1:Int))=true->((Prod.fst y_5==(3:
  Int))=true->((Prod.snd y_5==(300:Int))=true->((Prod.fst y_6==(4:Int))=true->((Prod.snd y_6==(300:Int))=true->((Prod.fst y_7==(4:Int))=true->
  ((Prod.snd y_7==(300:Int))=true->true=b)/\((Prod.snd y_7==(300:Int))=false->false=b))/\((Prod.fst y_7==(4:Int))=false->false=b))/\((Prod.snd y_6==
  (300:Int))=false->false=b))/\((Prod.fst y_6==(4:Int))=false->false=b))/\((Prod.snd y_5==(300:Int))=false->false=b))/\((Prod.fst y_5==(3:Int))=
  false->false=b))/\((Prod.snd y_3==(1:Int))=false->false=b))/\(y=false->false=b))/\((Prod.snd y_2==(0:Int))=false->false=b))
  ):=by kernel_rfl
--@end
def Yx:List Ins:= [⟨2,6,0⟩,⟨1,7,0⟩,⟨5,0,0⟩,⟨15,0,0⟩]
def Xy:Env:=⟨64,0,0,0,0,0,0,30,0,0,0,0,0,0,0,0,0⟩
theorem x30a:(verF Yx).2=0:=by decide+kernel
theorem x30b:dM Yx Xy=4:=by decide+kernel
theorem x30c:dM Yx evZ=1:=by decide+kernel
theorem x30d:Zu (dsk Yx Xy 4)=(210,0,0):=by decide+kernel
theorem x30e:(Zu (dsk Yx evZ 1)).1=0/\(Zu (dsk Yx evZ 1)).2.2=181:=by decide+kernel
theorem x30f:Zs3 (dsk Yx Xy 2) ⟨2,3,0,0,[30,7]⟩=true/\(dsk Yx Xy 2).stack.length<=1000000:=by decide+kernel
theorem Zyb:drF Yx Xy=(⟨Yx,Xy,210,0,lvL Yx Xy 5⟩,0):=by
  unfold drF
  rw [if_pos x30a,x30b,x30d]
theorem Z18:(drF Yx evZ).2=0/\(drF Yx evZ).1.leaves.length=2/\(drF Yx evZ).1.amount=0/\(drF Yx evZ).1.err=181:=by
  unfold drF
  rw [if_pos x30a,x30c]
  exact ⟨rfl,Zb0 _ _ _,x30e.1,x30e.2⟩
theorem Z0c (a:Int):Z5 .xor .u8 a 1≠a:=by
  intro h
  have hx:∀x:BitVec 8,x^^^1#8≠x:=by decide
  have e:Z5 .xor .u8 a 1=((BitVec.ofInt 8 a^^^1#8).toNat:Int):=by
    have hlt:=(BitVec.ofInt 8 a^^^1#8).isLt
    show IntKind.wrap .u8 ((BitVec.ofInt 8 a^^^1#8).toNat:Int)=_
    generalize (BitVec.ofInt 8 a^^^1#8).toNat=n at hlt⊢
    simp only [IntKind.wrap,IntKind.bits,IntKind.signed,Bool.false_and,Bool.false_eq_true,if_false]
    omega
  rw [e] at h
  refine hx (BitVec.ofInt 8 a) ?_
  have:BitVec.ofInt 8 a=BitVec.ofInt 8 ((BitVec.ofInt 8 a^^^1#8).toNat:Int):=congrArg (BitVec.ofInt 8) h.symm
  rw [BitVec.ofInt_natCast,BitVec.ofNat_toNat] at this
  simpa using this.symm
theorem Zww (x:List Int):n32 (Zlp x)≠n32 x:=by
  intro h
  have h0:=congrArg (fun l=>List.getD l 0 0) h
  exact Z0c (List.getD x 0 0) (by simpa [n32x,Zlp] using h0)
def D30:Drv:=⟨Yx,Xy,210,0,lvL Yx Xy 5⟩
theorem Z28:Xg D30 2=(dsk Yx Xy 2,0):=by
  unfold Xg
  have e:(verF D30.code).2=0:=x30a
  have e2:dM D30.code D30.env=4:=x30b
  rw [if_pos e,e2]
  rfl
theorem Z29:(Xg D30 5).2=1:=by
  unfold Xg
  have e:(verF D30.code).2=0:=x30a
  have e2:dM D30.code D30.env=4:=x30b
  rw [if_pos e,e2]
  rfl
theorem lv30:∃a b c d e,lvL Yx Xy 5= [a,b,c,d,e]:=⟨_,_,_,_,_,rfl⟩
theorem Z0d {d:Drv} (hc:d.code=Yx) (hv:d.env=Xy) {z:Int×Int} (h:(match Zax (lvL Yx Xy 5) d.leaves 0 with
        |some k=>((k:Int),(300:Int))
        |none=>if (lvL Yx Xy 5).length<d.leaves.length then (((lvL Yx Xy 5).length:Int),300)
          else if d.amount≠210\/d.err≠0 then (((lvL Yx Xy 5).length:Int)-1,300)
          else (0,0))=z):Yj d=z:=by
  unfold Yj
  rw [hc,hv,Zyb,if_neg (by decide),if_neg (by simp)]
  exact h
theorem Z3a:Yj (Wt D30 3)=(3,300):=by
  refine Z0d rfl rfl ?_
  have e:(Wt D30 3).leaves=(lvL Yx Xy 5).set 3 (Zlp ((lvL Yx Xy 5).getD 3 [])):=rfl
  rw [e]
  obtain ⟨a0,a1,a2,a3,a4,hl⟩:=lv30
  rw [hl]
  simp [Zax,Zww]
theorem Z3b:Yj ⟨Yx,Xy,211,0,lvL Yx Xy 5⟩=(4,300):=by
  refine Z0d rfl rfl ?_
  show (match Zax (lvL Yx Xy 5) (lvL Yx Xy 5) 0 with|some k=>_|none=>_)=_
  obtain ⟨a0,a1,a2,a3,a4,hl⟩:=lv30
  rw [hl]
  simp [Zax]
theorem Z3c:Yj ⟨Yx,Xy,210,0,(lvL Yx Xy 5).take 4⟩=(4,300):=by
  refine Z0d rfl rfl ?_
  show (match Zax (lvL Yx Xy 5) ((lvL Yx Xy 5).take 4) 0 with|some k=>_|none=>_)=_
  obtain ⟨a0,a1,a2,a3,a4,hl⟩:=lv30
  rw [hl]
  simp [Zax]
theorem Zpy:PureC E2 7 [] (.bool false true):=by
  refine Zb Zm (Zi Zm Z17 400) ?_
  rw [Zlq true]
  refine ⟨trivial,fun y hy=>⟨trivial,fun y1 hy1=> ?_⟩⟩
  obtain rfl:y=(D30,0):=hy.trans Zyb
  obtain rfl:y1=drF Yx evZ:=hy1
  obtain ⟨z1,z2,z3,z4⟩:=Z18
  have hlen:D30.leaves.length=5:=Zb0 _ _ _
  refine ⟨fun b=>b=false,⟨fun h=>by simp at h,fun _=>⟨fun h=>by simp [hlen] at h,fun _=>⟨fun h=>by simp [D30] at h,fun _=>⟨fun h=>by simp [D30] at h,fun _=>⟨fun h=>by simp [z1] at h,fun _=>⟨fun h=>by simp [z2] at h,fun _=>⟨fun h=>by simp [z3] at h,fun _=>⟨fun h=>by simp [z4] at h,fun _=>rfl⟩⟩⟩⟩⟩⟩⟩⟩,fun h=>(by cases h),fun _=>⟨trivial,fun y2 hy2=>⟨trivial,fun y3 hy3=>⟨⟨by decide,by rw [hlen];decide,by rw [hlen];decide⟩,fun y4 hy4=>⟨trivial,fun y5 hy5=>⟨trivial,fun y6 hy6=>⟨⟨by decide,by rw [hlen];decide⟩,trivial,fun y7 hy7=> ?_⟩⟩⟩⟩⟩⟩⟩
  have hy2:y2=(dsk Yx Xy 2,0):=hy2.trans Z28
  have hy3:y3.2=1:=by rw [hy3];exact Z29
  have hy5:y5=(3,300):=by rw [hy5,hy4];exact Z3a
  have hy6:y6=(4,300):=hy6.trans Z3b
  have hy7:y7=(4,300):=hy7.trans Z3c
  subst hy2 hy5 hy6 hy7
  refine ⟨fun _=>⟨x30f.2,fun b hb=> ?_⟩,fun h=>by simp at h⟩
  have hb:b=true:=hb.trans x30f.1
  subst hb
  simp [hy3]
end
section
open Go Go.RowKit
def Zxq:Sum thy:=U5 E2 gthV 10 .nil (fun _=>True) (fun _=>true) fun y=> .bool false y
theorem Zqm:SumOk E2 7 Zxq:=Yq Zm (Zk rfl) fun x _=>Zpy
def FL0:Fns thy:=addS (addS (addS (addS (addS (addS (addS (addS (addS F0 8 Zw0) 12 Zls) 10 Zlo) 14 Ztx) 7 Zxq) 9 Z16) 13 Zt8) 15 Sdgs) 16 Z1x
theorem Z01:FnsOk E2 FL0:=Zg (Zg (Zg (Zg (Zg (Zg (Zg (Zg (Zg Wo Zhi) Zfo) Zfn) Zi5) Zqm) Zwv) Zjd) Zti) (Yq Zm (Zk rfl) fun x h=>up2 (Zdd x.1 h))
def FL2:Fns thy:=addS (addS (addS (addS FL0 18 Znh) 17 Zt7) 19 Zt9) 20 Sclo
theorem Z02:FnsOk E2 FL2:=Zg (Zg (Zg (Zg Z01 Zlw) Zjc) Zp1) Z0a
def Z2n:Fr thy->Hp thy->Nat->Ann thy:=fun T h i=>{X:=LX,fr:=fun x=> [(0,T 0),(3,T 3),(5,T 5),(7,.int false .i64 x.k)],bl:=fun x=>blkP h (T 3)++blkP h (T 5),src:=fun _=> [],md:= [],ih:=i,M:=i+40,meas:=fun x=>x.r}
def FL3:Fns thy:=addL FL2 5 7 Z2n E2
theorem Z03:FnsOk E2 FL3:=Yw Zm Z02 _ _ _
abbrev qCSt:=(0:Nat)
abbrev qCSl:=(0:Int)
abbrev qCSi (a0:List Int) (b0:List Int):=(List.getD a0 qCSt qCSl==List.getD b0 qCSt qCSl&&(List.getD a0 (1:Nat) qCSl==List.getD b0 (1:Nat) qCSl&&(List.getD a0 (2:Nat) qCSl==List.getD b0 (2:Nat) qCSl&&(List.getD a0 (3:Nat) qCSl==List.getD b0 (3:Nat) qCSl&&(List.getD a0 (4:Nat) qCSl==List.getD b0 (4:Nat) qCSl&&(List.getD a0 (5:Nat) qCSl==List.getD b0 (5:Nat) qCSl&&(List.getD a0 (6:Nat) qCSl==List.getD b0 (6:Nat) qCSl&&(List.getD a0 (7:Nat) qCSl==List.getD b0 (7:Nat) qCSl&&(List.getD a0 (8:Nat) qCSl==List.getD b0 (8:Nat) qCSl&&(List.getD a0 (9:Nat) qCSl==List.getD b0 (9:Nat) qCSl&&(List.getD a0 (10:Nat) qCSl==List.getD b0 (10:Nat) qCSl&&(List.getD a0 (11:Nat) qCSl==List.getD b0 (11:Nat) qCSl&&(List.getD a0 (12:Nat) qCSl==List.getD b0 (12:Nat) qCSl&&(List.getD a0 (13:Nat) qCSl==List.getD b0 (13:Nat) qCSl&&(List.getD a0 (14:Nat) qCSl==List.getD b0 (14:Nat) qCSl&&(List.getD a0 (15:Nat) qCSl==List.getD b0 (15:Nat) qCSl&&(List.getD a0 (16:Nat) qCSl==List.getD b0 (16:Nat) qCSl&&(List.getD a0 (17:Nat) qCSl==List.getD b0 (17:Nat) qCSl&&(List.getD a0 (18:Nat) qCSl==List.getD b0 (18:Nat) qCSl&&(List.getD a0 (19:Nat) qCSl==List.getD b0 (19:Nat) qCSl&&(List.getD a0 (20:Nat) qCSl==List.getD b0 (20:Nat) qCSl&&(List.getD a0 (21:Nat) qCSl==List.getD b0 (21:Nat) qCSl&&(List.getD a0 (22:Nat) qCSl==List.getD b0 (22:Nat) qCSl&&(List.getD a0 (23:Nat) qCSl==List.getD b0 (23:Nat) qCSl&&(List.getD a0 (24:Nat) qCSl==List.getD b0 (24:Nat) qCSl&&(List.getD a0 (25:Nat) qCSl==List.getD b0 (25:Nat) qCSl&&(List.getD a0 (26:Nat) qCSl==List.getD b0 (26:Nat) qCSl&&(List.getD a0 (27:Nat) qCSl==List.getD b0 (27:Nat) qCSl&&(List.getD a0 (28:Nat) qCSl==List.getD b0 (28:Nat) qCSl&&(List.getD a0 (29:Nat) qCSl==List.getD b0 (29:Nat) qCSl&&(List.getD a0 (30:Nat) qCSl==List.getD b0 (30:Nat) qCSl&&(List.getD a0 (31:Nat) qCSl==List.getD b0 (31:Nat) qCSl&&true))))))))))))))))))))))))))))))))
abbrev qCSp (a0:Opn):=(Opn.rest a0)
abbrev qCSj (a0:Opn):=(Opn.mk (Opn.pc a0) (Opn.fuel a0) (Opn.status a0) (Opn.clause a0) (Opn.top a0) (Opn.depth a0) [List.getD (qCSp a0) qCSt qCSl,List.getD (qCSp a0) (1:Nat) qCSl,List.getD (qCSp a0) (2:Nat) qCSl,List.getD (qCSp a0) (3:Nat) qCSl,List.getD (qCSp a0) (4:Nat) qCSl,List.getD (qCSp a0) (5:Nat) qCSl,List.getD (qCSp a0) (6:Nat) qCSl,List.getD (qCSp a0) (7:Nat) qCSl,List.getD (qCSp a0) (8:Nat) qCSl,List.getD (qCSp a0) (9:Nat) qCSl,List.getD (qCSp a0) (10:Nat) qCSl,List.getD (qCSp a0) (11:Nat) qCSl,List.getD (qCSp a0) (12:Nat) qCSl,List.getD (qCSp a0) (13:Nat) qCSl,List.getD (qCSp a0) (14:Nat) qCSl,List.getD (qCSp a0) (15:Nat) qCSl,List.getD (qCSp a0) (16:Nat) qCSl,List.getD (qCSp a0) (17:Nat) qCSl,List.getD (qCSp a0) (18:Nat) qCSl,List.getD (qCSp a0) (19:Nat) qCSl,List.getD (qCSp a0) (20:Nat) qCSl,List.getD (qCSp a0) (21:Nat) qCSl,List.getD (qCSp a0) (22:Nat) qCSl,List.getD (qCSp a0) (23:Nat) qCSl,List.getD (qCSp a0) (24:Nat) qCSl,List.getD (qCSp a0) (25:Nat) qCSl,List.getD (qCSp a0) (26:Nat) qCSl,List.getD (qCSp a0) (27:Nat) qCSl,List.getD (qCSp a0) (28:Nat) qCSl,List.getD (qCSp a0) (29:Nat) qCSl,List.getD (qCSp a0) (30:Nat) qCSl,List.getD (qCSp a0) (31:Nat) qCSl])
abbrev qCSn (a0:Drv×Int):=(Drv.env (Prod.fst a0))
abbrev qCSs:=(false=true->false=true)
abbrev qCSk (a0:Drv×Int):=((Drv.code (Prod.fst a0)=Drv.code (Prod.fst a0)/\qCSs)/\Env.has (qCSn a0)=Env.has (qCSn a0)/\Env.v0 (qCSn a0)=Env.v0 (qCSn a0)/\Env.v1 (qCSn a0)=Env.v1 (qCSn a0)/\Env.v2 (qCSn a0)=Env.v2 (qCSn a0)/\Env.v3 (qCSn a0)=Env.v3 (qCSn a0)/\Env.v4 (qCSn a0)=Env.v4 (qCSn a0)/\Env.v5 (qCSn a0)=Env.v5 (qCSn a0)/\Env.v6 (qCSn a0)=Env.v6 (qCSn a0)/\Env.v7 (qCSn a0)=Env.v7 (qCSn a0)/\Env.v8 (qCSn a0)=Env.v8 (qCSn a0)/\Env.v9 (qCSn a0)=Env.v9 (qCSn a0)/\Env.v10 (qCSn a0)=Env.v10 (qCSn a0)/\Env.v11 (qCSn a0)=Env.v11 (qCSn a0)/\Env.v12 (qCSn a0)=Env.v12 (qCSn a0)/\Env.v13 (qCSn a0)=Env.v13 (qCSn a0)/\Env.v14 (qCSn a0)=Env.v14 (qCSn a0)/\Env.v15 (qCSn a0)=Env.v15 (qCSn a0)/\Drv.amount (Prod.fst a0)=Drv.amount (Prod.fst a0)/\Drv.err (Prod.fst a0)=Drv.err (Prod.fst a0)/\(Drv.leaves (Prod.fst a0)=Drv.leaves (Prod.fst a0)/\qCSs)/\True)
abbrev qCSm (a0:Opn×Int):=(Opn.rest (Prod.fst a0))
abbrev qCSo (a0:Env):=(Env.has a0=Env.has a0/\Env.v0 a0=Env.v0 a0/\Env.v1 a0=Env.v1 a0/\Env.v2 a0=Env.v2 a0/\Env.v3 a0=Env.v3 a0/\Env.v4 a0=Env.v4 a0/\Env.v5 a0=Env.v5 a0/\Env.v6 a0=Env.v6 a0/\Env.v7 a0=Env.v7 a0/\Env.v8 a0=Env.v8 a0/\Env.v9 a0=Env.v9 a0/\Env.v10 a0=Env.v10 a0/\Env.v11 a0=Env.v11 a0/\Env.v12 a0=Env.v12 a0/\Env.v13 a0=Env.v13 a0/\Env.v14 a0=Env.v14 a0/\Env.v15 a0=Env.v15 a0/\True)
abbrev qCSq (a0:LX):=((↑(LX.k a0):Int)+(1:Int))
abbrev qCSr (a0:Drv×Int):=(↑(List.length (Drv.leaves (Prod.fst a0))):Int)
abbrev qCSu:=(1000000:Nat)
theorem Zqn (c:List Ins) (v:Env):Zw E2 FL3 (vc E2 FL3 400) 5 [.psl .ins c false,envV v] hp0 0 (fun r=>ret E2 (patch hp0 0 r) r.v (.bool false true))=(
 True/\∀(y:Bool),y=true->((!y)=true->false=true)/\((!y)=false->True/\∀(y:Drv×Int),y=drF c v->True/\∀(y_1:Bool),y_1=decide (List.length c<=(40:Nat))->((!y_1)=true->true=true)/\((!y_1)=false->((Prod.snd y !=qCSl)=true->true=true)/\((Prod.snd y !=qCSl)=false->∃(R:LX->Prop),(∃(x:LX),R x/\true=true/\((c=c/\qCSs)/\qCSt=qCSt/\qCSt=qCSt/\qCSl=(↑(LX.k x):Int)/\True)/\(qCSo v)/\(qCSk y)/\True)/\∀(x:LX),R x->(decide (wr IntKind.i64 (qCSq x)<(qCSr y))=true->True/\∀(y_2:St×Int),y_2=Xg (Prod.fst y) (↑(LX.k x):Int)->∃(Q:Bool->Prop),(((Prod.snd y_2 !=qCSl)=true->Q true)/\((Prod.snd y_2 !=qCSl)=false->(decide (St.pc (Prod.fst y_2)<qCSl)=true->Q true)/\(decide (St.pc (Prod.fst y_2)<qCSl)=false->(decide (St.pc (Prod.fst y_2)>=(↑(List.length c):Int))=true->Q true)/\(decide (St.pc (Prod.fst y_2)>=(↑(List.length c):Int))=false->Q false))))/\(Q true->false=true)/\(Q false->qCSl<=St.pc (Prod.fst y_2)/\St.pc (Prod.fst y_2)+(1:Int)<=(↑(List.length c):Int)/\∀(x_1:Ins),c[Int.toNat (St.pc (Prod.fst y_2))]? =some x_1->True/\List.length (St.stack (Prod.fst y_2))<=qCSu/\∀(y_3:Opn),y_3=Zt (Prod.fst y_2) (Zh (Ins.op x_1))->True/\∀(y_4:Opn×Int),y_4=Z0 c v (qCSj y_3)->(decide ((↑(List.length (Opn.top y_3)):Int)>(2:Int))=true->false=true)/\(decide ((↑(List.length (Opn.top y_3)):Int)>(2:Int))=false->((Prod.snd y_4 !=qCSl)=true->false=true)/\((Prod.snd y_4 !=qCSl)=false->(List.length c<=qCSu/\List.length (Opn.top y_3)<=qCSu)/\∀(y_5:List Int),y_5=Ws c v (qCSj y_3)->qCSl<=(↑(LX.k x):Int)/\(↑(LX.k x):Int)+(1:Int)<=(qCSr y)/\∀(x_2:List Int),(Drv.leaves (Prod.fst y))[Int.toNat (↑(LX.k x):Int)]? =some x_2->∀(v_1:Bool),v_1= !(qCSi y_5 x_2)->(v_1=true->false=true)/\(v_1=false->(List.length c<=qCSu/\List.length (Opn.top (Prod.fst y_4))<=qCSu)/\∀(y_6:List Int),y_6=Ws c v (Opn.mk (Opn.pc (Prod.fst y_4)) (Opn.fuel (Prod.fst y_4)) (Opn.status (Prod.fst y_4)) (Opn.clause (Prod.fst y_4)) (Opn.top (Prod.fst y_4)) (Opn.depth (Prod.fst y_4)) [List.getD (qCSm y_4) qCSt qCSl,List.getD (qCSm y_4) (1:Nat) qCSl,List.getD (qCSm y_4) (2:Nat) qCSl,List.getD (qCSm y_4) (3:Nat) qCSl,List.getD (qCSm y_4) (4:Nat) qCSl,List.getD (qCSm y_4) (5:Nat) qCSl,List.getD (qCSm y_4) (6:Nat) qCSl,List.getD (qCSm y_4) (7:Nat) qCSl,List.getD (qCSm y_4) (8:Nat) qCSl,List.getD (qCSm y_4) (9:Nat) qCSl,List.getD (qCSm y_4) (10:Nat) qCSl,List.getD (qCSm y_4) (11:Nat) qCSl,List.getD (qCSm y_4) (12:Nat) qCSl,List.getD (qCSm y_4) (13:Nat) qCSl,List.getD (qCSm y_4) (14:Nat) qCSl,List.getD (qCSm y_4) (15:Nat) qCSl,List.getD (qCSm y_4) (16:Nat) qCSl,List.getD (qCSm y_4) (17:Nat) qCSl,List.getD (qCSm y_4) (18:Nat) qCSl,List.getD (qCSm y_4) (19:Nat) qCSl,List.getD (qCSm y_4) (20:Nat) qCSl,List.getD (qCSm y_4) (21:Nat) qCSl,List.getD (qCSm y_4) (22:Nat) qCSl,List.getD (qCSm y_4) (23:Nat) qCSl,List.getD (qCSm y_4) (24:Nat) qCSl,List.getD (qCSm y_4) (25:Nat) qCSl,List.getD (qCSm y_4) (26:Nat) qCSl,List.getD (qCSm y_4) (27:Nat) qCSl,List.getD (qCSm y_4) (28:Nat) qCSl,List.getD (qCSm y_4) (29:Nat) qCSl,List.getD (qCSm y_4) (30:Nat) qCSl,List.getD (qCSm y_4) (31:Nat) qCSl])->qCSl<=wr IntKind.i64 (qCSq x)/\wr IntKind.i64 (qCSq x)+(1:Int)<=(qCSr y)/\∀(x_3:List Int),(Drv.leaves (Prod.fst y))[Int.toNat (wr IntKind.i64 (qCSq x))]? =some x_3->∀(v_2:Bool),v_2= !(qCSi y_6 x_3)->(v_2=true->false=true)/\(v_2=false->∃(x_4:LX),R x_4/\x_4.2+(1:Nat)<=x.2/\true=true/\((c=c/\qCSs)/\qCSt=qCSt/\qCSt=qCSt/\wr IntKind.i64 (qCSq x)=(↑(LX.k x_4):Int)/\True)/\(qCSo v)/\(qCSk y)/\True))))))/\(decide (wr IntKind.i64 (qCSq x)<(qCSr y))=false->true=true))))):=by kernel_rfl
def DRn (c:List Ins) (v:Env):Drv:=⟨c,v,(Zu (dsk c v (dM c v))).1,(Zu (dsk c v (dM c v))).2.2,lvL c v (dM c v+1)⟩
theorem Zyi {c:List Ins} {v:Env} (h:(verF c).2=0):drF c v=(DRn c v,0):=if_pos h
theorem Z04 {c:List Ins} {v:Env} (h:((drF c v).2 !=0)=false):(verF c).2=0:=by
 by_cases hv:(verF c).2=0
 · exact hv
 · exfalso
   unfold drF at h
   rw [if_neg hv] at h
   exact hv (by simpa using h)
theorem Z05 (c:List Ins) (v:Env):(DRn c v).leaves.length=dM c v+1:=Zb0 _ _ _
theorem Zu5 {c:List Ins} {v:Env} (h:(verF c).2=0) {k:Nat} (hk:k<=dM c v):Xg (DRn c v) (k:Int)=(dsk c v k,0):=by
 unfold Xg
 have e:(verF (DRn c v).code).2=0:=h
 rw [if_pos e,if_pos ⟨by omega,by show (k:Int)<=(dM c v:Int);omega⟩]
 rfl
theorem Zqo {c:List Ins} {v:Env} {n k:Nat} {x:List Int} (hk:k<n) (h:(lvL c v n)[Int.toNat (k:Int)]? =some x):x=n32 (Xb c v (dsk c v k)):=by
 rw [Int.toNat_natCast] at h
 simp only [lvL,List.getElem?_map,List.getElem?_range hk,Option.map_some] at h
 exact (Option.some.inj h).symm
theorem Zqp (d:List Int):n32 (n32 d)=n32 d:=Zje (by simp [n32])
end
section
open Go
def Zmb (c:List Ins) (v:Env) (s:St):List Int:=Uj 3 (lisV [bytV (Zhr c),bytV (Zav v),numV s.pc,numV s.fuel,numV s.status,numV s.clause,numV (wr .i64 (s.stack.length:Int)),bytV (Zay s.stack)])
theorem Zq5 (d:List Int) (a b:List Int):Zae (Zae d a) b=Zae d (a++b):=by simp [Zae,List.foldl_append]
theorem Zmc (c:List Ins) (v:Env) (o:Opn) (A:List Int) (hd:o.depth=A.length) (hr:o.rest=Zay A):Vb c v o=Zmb c v (o.st.on A):=by
 unfold Vb Zmb Zfl
 have e1:Zae (n32 o.rest) o.top=Zay (o.st.on A).stack:=by
  rw [hr,Zje (Zb4 A)]
  exact Zq5 Zft A o.top
 have e2:o.depth+(o.top.length:Int)=((o.st.on A).stack.length:Int):=by
  show _=((A++o.top).length:Int)
  rw [List.length_append,hd];omega
 rw [e1,e2]
 rfl
theorem Ze1 (c:List Ins) (v:Env) (s:St) (n:Int):Vb c v (Zt s n)=Zmb c v s:=by
 rw [Zmc c v (Zt s n) (s.stack.take (kOf s n)) (by rw [(Y3 s n).1,(Y3 s n).2.2.1]) rfl,<-Ztv]
theorem Zh1 (c:List Ins) (v:Env) (s:St):Xb c v s=Zmb c v s:=Ze1 c v s s.stack.length
end
section
open Go Go.RowKit
theorem Zji {s:St} {n:Int}:¬(0<s.fuel/\0<(Zt s n).depth/\((Zt s n).top.length:Int)<n):=by
 rintro ⟨_,h1,h2⟩
 obtain ⟨d1,d2,d3,d4⟩:=Y3 s n
 omega
theorem Zxa (op:Int):Zh op<=2:=by
 unfold Zh
 split
 · decide
 · split<;>decide
theorem Zul {c:List Ins} {v:Env} {s:St} {x:Ins} (hs:s.stack.length<=64) (hR:Z3 c s 0=0) (hx:c[s.pc.toNat]? =some x):(Z0 c v (Zt s (Zh x.op))).2=0/\
 Ws c v (Z0 c v (Zt s (Zh x.op))).1=Xb c v (advF c v s 0)/\(Z0 c v (Zt s (Zh x.op))).1.rest.length=32/\(Z0 c v (Zt s (Zh x.op))).1.top.length<=65:=by
 have hcan:=Zh8 hR
 have hop:1<=x.op/\x.op<=16:=Zi9 (hcan.formed x hx)
 have hready:=Zpw c s (Zh x.op) hs
 obtain ⟨d1,d2,d3,d4⟩:=Y3 s (Zh x.op)
 have hx':c[(Zt s (Zh x.op)).pc.toNat]? =some x:=hx
 have hadv:=Ztw (v:=v) (n:=Zh x.op) hs hR hx hop Zji hcan.fuel0
 have hrest:(Zt s (Zh x.op)).rest=Zay (s.stack.take (kOf s (Zh x.op))):=rfl
 have hz:=Zw5 c v (Zt s (Zh x.op)).st (Zt s (Zh x.op)).depth
 have hz0:(Zt s (Zh x.op)).st.stack.length=(Zt s (Zh x.op)).top.length:=rfl
 have hno:¬(0<(Zt s (Zh x.op)).fuel/\0<(Zt s (Zh x.op)).depth/\((Zt s (Zh x.op)).top.length:Int)<Zh x.op):=Zji
 have hq:Z0 c v (Zt s (Zh x.op))=(⟨(advF c v (Zt s (Zh x.op)).st (Zt s (Zh x.op)).depth).pc,(advF c v (Zt s (Zh x.op)).st (Zt s (Zh x.op)).depth).fuel,(advF c v (Zt s (Zh x.op)).st (Zt s (Zh x.op)).depth).status,(advF c v (Zt s (Zh x.op)).st (Zt s (Zh x.op)).depth).clause,(advF c v (Zt s (Zh x.op)).st (Zt s (Zh x.op)).depth).stack,(Zt s (Zh x.op)).depth,(Zt s (Zh x.op)).rest⟩,0):=by
  unfold Z0
  rw [if_neg (by rw [hready];exact fun h=>h hR),hx',if_neg hno]
 rw [hq,hadv]
 generalize advF c v (Zt s (Zh x.op)).st (Zt s (Zh x.op)).depth=z at hz⊢
 generalize Zt s (Zh x.op)=o at d1 d2 d4 hrest hz hz0⊢
 refine ⟨rfl,?_,by show o.rest.length=32;rw [hrest];exact Zb4 _,by show z.stack.length<=65;omega⟩
 rw [Zh1]
 show Ws c v ⟨z.pc,z.fuel,z.status,z.clause,z.stack,o.depth,o.rest⟩=_
 unfold Ws
 rw [if_neg (by show ¬(o.depth<0\/64<o.depth);omega)]
 exact Zmc c v ⟨z.pc,z.fuel,z.status,z.clause,z.stack,o.depth,o.rest⟩ (s.stack.take (kOf s (Zh x.op))) (by show o.depth=_;rw [d1,d3]) hrest
theorem Zp3 {c:List Ins} {v:Env} {s:St} {n:Int} (hs:s.stack.length<=64):Ws c v (Zt s n)=Xb c v s:=by
 obtain ⟨d1,d2,d3,d4⟩:=Y3 s n
 unfold Ws
 rw [if_neg (by omega),Ze1,Zh1]
theorem Zp4 (c:List Ins) (v:Env):PureC E2 5 [.psl .ins c false,envV v] (.bool false true):=by
 refine Zb Zm (Zi Zm Z03 400) ?_
 rw [Zqn]; delta qCSl qCSs qCSt qCSo qCSk qCSq qCSr qCSu qCSj qCSi qCSm qCSp qCSn
 refine ⟨trivial,fun y0 hy0=>⟨fun h=>by subst hy0;simp at h,fun _=>⟨trivial,fun y hy=>⟨trivial,fun y1 hy1=>⟨fun _=>rfl,fun h1=>⟨fun _=>rfl,fun h2=> ?_⟩⟩⟩⟩⟩⟩
 have hc:c.length<=40:=by rw [hy1] at h1;simpa using h1
 have hv:(verF c).2=0:=Z04 (by rw [<-hy];exact h2)
 obtain rfl:y=(DRn c v,0):=hy.trans (Zyi hv)
 obtain ⟨d1,d2,d3,d4⟩:=Zg6 (v:=v) hv
 have hl:(DRn c v).leaves.length=dM c v+1:=Z05 c v
 refine ⟨fun x=>x.k<=dM c v/\x.r=dM c v-x.k,⟨⟨0,dM c v,[],0⟩,⟨Nat.zero_le _,rfl⟩,by simp⟩,?_⟩
 rintro x ⟨k1,k3⟩
 have hwk:wr .i64 ((x.k:Int)+1)=(x.k:Int)+1:=wr64 (by omega) (by omega)
 rw [hwk,hl]
 refine ⟨fun hlt=>⟨trivial,fun y2 hy2=> ?_⟩,fun _=>rfl⟩
 have hlt:x.k<dM c v:=by simp only [decide_eq_true_eq] at hlt;omega
 obtain ⟨e1,e2,e3,e4,e5,e6,e7,e8⟩:=d4 x.k hlt
 obtain rfl:y2=(dsk c v x.k,0):=hy2.trans (Zu5 hv (by omega))
 refine ⟨fun b=>b=false,⟨fun h=>by simp at h,fun _=>⟨fun h=>by simp at h;omega,fun _=>⟨fun h=>by simp at h;omega,fun _=>rfl⟩⟩⟩,fun h=>(by cases h),fun _=>⟨e3,by show (dsk c v x.k).pc+1<=_;omega,fun x1 hx1=>⟨trivial,by show (dsk c v x.k).stack.length<=_;omega,fun y3 hy3=>⟨trivial,fun y4 hy4=> ?_⟩⟩⟩⟩
 have hx1:c[(dsk c v x.k).pc.toNat]? =some x1:=hx1
 have hy3:y3=Zt (dsk c v x.k) (Zh x1.op):=hy3
 obtain ⟨g1,g2,g3,g4⟩:=Y3 (dsk c v x.k) (Zh x1.op)
 obtain ⟨f1,f2,f3,f4⟩:=Zul (v:=v) e5 e6 hx1
 have hn2:=Zxa x1.op
 have hrest:y3.rest.length=32:=by rw [hy3];exact Zb4 _
 have hnorm:(⟨y3.pc,y3.fuel,y3.status,y3.clause,y3.top,y3.depth,n32 y3.rest⟩:Opn)=y3:=by rw [Zje hrest]
 have hy4:y4=Z0 c v ⟨y3.pc,y3.fuel,y3.status,y3.clause,y3.top,y3.depth,n32 y3.rest⟩:=hy4
 rw [hnorm,hy3] at hy4
 rw [<-hy4] at f1 f2 f3 f4
 rw [<-hy3] at g1 g2 g4
 refine ⟨fun h=>by simp only [decide_eq_true_eq] at h;omega,fun _=>⟨fun h=>by simp [f1] at h,fun _=>⟨⟨by omega,by omega⟩,fun y5 hy5=>⟨by omega,by omega,fun x2 hx2 v1 hv1=> ?_⟩⟩⟩⟩
 have hy5:y5=Ws c v ⟨y3.pc,y3.fuel,y3.status,y3.clause,y3.top,y3.depth,n32 y3.rest⟩:=hy5
 rw [hnorm,hy3,Zp3 e5] at hy5
 have hx2:x2=n32 (Xb c v (dsk c v x.k)):=Zqo (by omega) hx2
 rw [Zw1,hy5,hx2,Zqp] at hv1
 simp only [decide_true,Bool.not_true] at hv1
 refine ⟨fun h=>(by rw [hv1] at h;cases h),fun _=>⟨⟨by omega,by omega⟩,fun y6 hy6=>⟨by omega,by omega,fun x3 hx3 v2 hv2=> ?_⟩⟩⟩
 have hy6:y6=Ws c v ⟨y4.1.pc,y4.1.fuel,y4.1.status,y4.1.clause,y4.1.top,y4.1.depth,n32 y4.1.rest⟩:=hy6
 have hnorm4:(⟨y4.1.pc,y4.1.fuel,y4.1.status,y4.1.clause,y4.1.top,y4.1.depth,n32 y4.1.rest⟩:Opn)=y4.1:=by rw [Zje f3]
 rw [hnorm4,f2,<-e8] at hy6
 have ek:((x.k:Int)+1)=((x.k+1:Nat):Int):=by omega
 rw [ek] at hx3
 have hx3:x3=n32 (Xb c v (dsk c v (x.k+1))):=Zqo (by omega) hx3
 rw [Zw1,hy6,hx3,Zqp] at hv2
 simp only [decide_true,Bool.not_true] at hv2
 refine ⟨fun h=>(by rw [hv2] at h;cases h),fun _=>⟨⟨x.k+1,dM c v-(x.k+1),[],0⟩,⟨hlt,rfl⟩,by show dM c v-(x.k+1)+1<=x.r;omega,by simp⟩⟩
end
section
open Go.ChangeShapes Go.WideShapes Go.ChangeAt Go.RowKit

theorem deriveDiscloses_lifted (os:Os) (started:os.Started) (H:Type) (enc:TypeId×Value->H) (F:Stop.Interp):
    ReturnsInHanded {calm:=true} Tryz.checked os 5 .any (fun w args=>(Rows.deriveDisclosesSpec.pre enc Tryz.prog Tryz.f5 [] false w args/\laidMetH Tryz.prog Zoi w)/\sizedMet enc Tryz.prog Tryz.f5 (OpenSpec.ofChange Rows.deriveDisclosesSpec) false w args)
      ((OpenSpec.ofChange Rows.deriveDisclosesSpec).postWith enc Tryz.prog Tryz.f5 F (outsideKept [.timePasses]) false true false):=by
  refine Go.Clock.returns_of_change (C:=Tryz.checked) (X:=fun w _=>laidMetH Tryz.prog Zoi w) (fun _ _ _ hh h=>h.of_heap hh) Tryz.own started (by kernel_rfl) Tryz.func5
    (Go.Clock.witness_at (enc:=enc) (C:=Tryz.checked) (os:=os) (X:=fun w _=>laidMetH Tryz.prog Zoi w) (World.doorLaid Tryz.prog 600 os) #[.slice none 0 0,.agg #[.int .i64 0,.int .i64 0,.int .i64 0,.int .i64 0,.int .i64 0,.int .i64 0,.int .i64 0,.int .i64 0,.int .i64 0,.int .i64 0,.int .i64 0,.int .i64 0,.int .i64 0,.int .i64 0,.int .i64 0,.int .i64 0,.int .i64 0]] 8 rfl (World.shaped_of_RefB (by kernel_rfl) (by kernel_rfl)) (by kernel_rfl) (by kernel_rfl) (by kernel_rfl) (Zrk os _)) ?_
  intro W base args ds gs before hval0 hW _ hz hL _
  have hval:∀(j:Nat) t v,Tryz.f5.params[j]? =some t->args[j]? =some v->Value.okWide Tryz.prog W .any base t v:=hval0
  have hW':=hW
  obtain ⟨p,q,hA0,hV,rfl,hfz,hnd⟩:=hW
  have hA:DataW.TrodAll enc Tryz.prog W 0 (fun _=>true) true Tryz.f5.params.toList args.toList ds p:=hA0
  rw [Tryz.params5] at hA hval hz
  obtain ⟨v0,v1,d0,d1,p0,p1,rfl,rfl,rfl,h0,h1⟩:=trodAll_two hA
  obtain ⟨rfl,rfl⟩:=trodVars_none hV
  obtain ⟨c,hdc⟩:=Zsu (hval 0 23 v0 rfl rfl) h0
  obtain ⟨v,hdv⟩:=Zv3 h1
  refine (Zoj (Zp4 c v) hL (Zq8 hdc (Z2p hdv))).mono fun en W' ⟨hen,hw⟩=> ?_
  exact ⟨_,hen,Zq7 Tryz.laidOut rfl Tryz.underlying4 (by kernel_rfl) rfl hW' rfl rfl rfl (Zxu hw).1,(Zxu hw).2⟩

end
section
open Go.ChangeShapes Go.WideShapes Go.ChangeAt Go.RowKit

theorem W0:(Rows.deriveDisclosesRow.inPlace==Tryz.prog.inPlace 5)=true:=by kernel_rfl
theorem We:(Rows.deriveDisclosesRow.unfollowed==Tryz.prog.unfollowed 5)=true:=by kernel_rfl
theorem Wu:(Rows.deriveDisclosesRow.recurses==Tryz.prog.recurses 5)=true:=by kernel_rfl
theorem Vt:(Rows.deriveDisclosesRow.named==Tryz.prog.varsNamed 5)=true:=by kernel_rfl
theorem Vu:joinedFacts Tryz.prog 5 Tryz.f5 Rows.deriveDisclosesSpec Rows.deriveDisclosesRow=true:=by
  unfold joinedFacts
  rw [W0,We,Wu,Vt]
  kernel_rfl
theorem Vv:Tryz.prog.funcNamed Rows.deriveDisclosesRow.func=some 5:=by kernel_rfl
theorem deriveDiscloses_holds:Rows.DeriveDisclosesSaid:=
  Go.Clock.holds_of_wide_time 5 Tryz.f5 rfl rfl rfl rfl rfl rfl rfl ⟨rfl,rfl,rfl,rfl,rfl⟩ rfl rfl rfl rfl rfl Vv Tryz.func5 Vu
    (of_decide_eq_true (by kernel_rfl)) (by unfold Func.isWrapper;first|(rw [if_pos (by decide+kernel)];kernel_rfl)|(rw [if_neg (by decide+kernel)];exact ⟨rfl,rfl⟩))
    (fun os started H enc _ F=>deriveDiscloses_lifted os started H enc F)

end
end Go.Proofs.YtnailikggmapcaaGreatDoor
end
