/- Merged texts: DvB, EngZU, DvC, EngZV, DvD, DvE, DvF, DvG, DvH, DvJ, DvK, RowDeriveChecksA, RowDeriveChecksB. -/
import Derived.RangeFuncLeaves
import Derived.Test.YtnailikggmapcaaGreatDoorMe
noncomputable section
namespace Go.Proofs.YtnailikggmapcaaGreatDoor
set_option linter.unusedVariables false
set_option linter.unusedSimpArgs false
set_option linter.unnecessarySimpa false
set_option maxRecDepth 100000
section
open Go Go.RowKit
def Z13:Code->List Oper
 | .region _ ops _=>ops.toList
 |_=> []
def o2:List Oper:=Z13 it2
def o2p:List Oper:=o2.take 6
def o2s:List Oper:=o2.drop 7
def o2y:Oper:=(o2[6]?).getD default
theorem Z0y:it2= .region 2 (o2p++o2y::o2s).toArray false:=by kernel_rfl
theorem Uy:o2y.op= .call {callee:= .value (.tmp 17),args:= #[.tmp 18,.tmp 19],argTypes:= #[3,43]}:=by kernel_rfl
theorem Uz:o2y.guard=some (2,true):=by kernel_rfl
theorem Wq:o2y.dst=some 20:=by kernel_rfl
theorem Zen:((o2p++o2y::o2s).toArray[2]?).bind (·.dst)=some 16:=by kernel_rfl
def cD:Nat->List (SV thy)->Hp thy->Nat->(Res thy->Prop)->Prop:=Zw E2 FD (vc E2 FD 400)
theorem Zy2:U0 E2 cD:=Zh Zn Zze 400
theorem Xl (o:Oper) (T:Fr thy) (h:Hp thy) (i:Nat) (k:Res thy->Prop) (hD:DomLt h i) (hk:step E2 cD o.op T h i k):∃r,k r/\OpTri2 E2 o T h i r:=Zbr Zn Zy2 (fun _ _ _ _ _ hk=>Wx Zze hk) o T h i k hD hk
theorem Zcb:∀(cs:List Code) (f N:Nat) (T:Fr thy) (h:Hp thy) (i:Nat) (ms:List Nat) (K:Fr thy->Hp thy->Nat->List Nat->Prop),DomLt h i->vcs FD 400 f N cs T h i ms K->
 ∃T' h' i' ms',K T' h' i' ms'/\i<=i'/\Dom h i h' i'/\(∃m,ms'=m++ms/\Yb h i i' m)/\
  ∀(B:Nat) (σ:Pl) (g:GH) (w:World) (a:Act) (Q:Act->World->Prop),Inv E2 B σ h g w->B<=w.heap.size->(∀b,i<=b->b<i'->σ b=none)->FrOk E2 σ g T a->a.tmps.size=N->
   (∀a' w',Aft E2 B N i i' ms' σ g w a.defers T' h' a' w'->Q a' w')->cs.foldr (fun c k a w=>c.wp E2.P (Exit.then k fun _ _ _=>False) a w) Q a w
 | [],f,N,T,h,i,ms,K,hD,hk=>⟨T,h,i,ms,hk,Nat.le_refl _,⟨hD,fun b hb=> .inl hb⟩,⟨[],rfl,fun b hb=>by simp at hb⟩,fun B σ g w a Q hI hB hfree hF hN hQ=>hQ a w ⟨rfl,hN,σ,g,by rw [Nat.sub_self];exact (Stp.refl i σ g w).weaken (by simp),hI,hF⟩⟩
 |c::cs,f,N,T,h,i,ms,K,hD,hk=>by
  obtain ⟨e,T1,h1,i1,ms1,hK,hi,hDo,⟨m,rfl,hM⟩,t1⟩:=(Zj7 Zn Zze 400 f N c).1 T h i ms _ hD hk
  cases e with
  |normal=>
   obtain ⟨T2,h2,i2,ms2,hK2,hi2,hDo2,⟨m',rfl,hM'⟩,t2⟩:=Zcb cs f N T1 h1 i1 _ K hDo.1 hK
   refine ⟨T2,h2,i2,_,hK2,by omega,hDo.trans hi hDo2,⟨m'++m,by simp,Ug hDo hi hi2 hM hM'⟩,fun B σ g w a Q hI hB hfree hF hN hQ=> ?_⟩
   show c.wp E2.P (Exit.then _ _) a w
   refine t1 B σ g w a _ hI hB (fun b q1 q2=>hfree b q1 (by omega)) hF hN fun a1 w1 hA=> ?_
   show List.foldr _ Q cs a1 w1
   obtain ⟨σ1,g1,k1,k2,k3,k4,k5⟩:=hA.trans hi hi2 hB hfree ⟨m',rfl⟩
   exact t2 B σ1 g1 w1 a1 Q k1 k2 k3 k4 hA.sz fun a2 w2 hA2=>hQ a2 w2 (k5 _ _ _ _ hA2)
  |_=>exact hK.elim
def itT:Zd1 thy:=fun T h i ms K=>vcs FD 400 50 36 [it4,it3] T h i ms K
theorem Zw9:Zd2 E2 36 it4 it3 itT:=fun T h i ms K hD hk=>Zcb [it4,it3] 50 36 T h i ms K hD hk
end
section
open Go.RowKit
section
variable {Y:Thy} {E:Eng Y}
structure Bel (B:Nat) (g:GH) (w:World) (g':GH) (w':World):Prop where
 gle:g.le g'
 gcnew:∀r o v,g'.cell r o=some v->g.cell r o=some v\/B<=r
 gmnew:∀r es,g'.obj r=some es->g.obj r=some es\/B<=r
 heap:∀r,r<B->w'.heap[r]? =w.heap[r]?
 size:w.heap.size<=w'.heap.size
 os:w'.os=w.os
 tape:w'.tape=w.tape
 output:w'.output=w.output
theorem Bel.trans {B:Nat} {g g1 g2:GH} {w w1 w2:World} (h:Bel B g w g1 w1) (k:Bel B g1 w1 g2 w2):Bel B g w g2 w2:=
 ⟨h.gle.trans k.gle,fun r o v hv=>(k.gcnew r o v hv).elim (h.gcnew r o v) .inr,fun r es hv=>(k.gmnew r es hv).elim (h.gmnew r es) .inr,fun r hr=>(k.heap r hr).trans (h.heap r hr),Nat.le_trans h.size k.size,k.os.trans h.os,k.tape.trans h.tape,k.output.trans h.output⟩
theorem Bel.stp {B i n:Nat} {m:List Nat} {σ σ':Pl} {h:Hp Y} {g g':GH} {w w':World} (hS:Stp i n m σ g w σ' g' w') (hI:Inv E B σ h g w) (hB:B<=w.heap.size):Bel B g w g' w':=
 ⟨hS.gle,fun r o v hv=>(hS.gcnew r o v hv).imp id fun k=>k.elim (fun k=>Nat.le_trans hB k) fun ⟨b,_,z,hs⟩=>(hI.base b r z hs).1,fun r es hv=>(hS.gmnew r es hv).imp id fun k=>Nat.le_trans hB k,
  fun r hr=>hS.heap r (Nat.lt_of_lt_of_le hr hB) fun b _ z hs=>by have:=(hI.base b r z hs).1;omega,hS.size,hS.os,hS.tape,hS.output⟩
theorem Bel.stpL {B i M:Nat} {md:List Nat} {σ σ':Pl} {h:Hp Y} {g g':GH} {w w':World} (hS:StpL i M md σ g w σ' g' w') (hI:Inv E B σ h g w) (hB:B<=w.heap.size):Bel B g w g' w':=
 ⟨hS.gle,fun r o v hv=>(hS.gcnew r o v hv).imp id fun k=>k.elim (fun k=>Nat.le_trans hB k) fun ⟨b,z,_,hs⟩=>(hI.base b r z hs).1,fun r es hv=>(hS.gmnew r es hv).imp id fun k=>Nat.le_trans hB k,
  fun r hr=>hS.heap r (Nat.lt_of_lt_of_le hr hB) fun ⟨b,z,_,hs⟩=>by have:=(hI.base b r z hs).1;omega,hS.size,hS.os,hS.tape,hS.output⟩
theorem Bel.put {B:Nat} (g:GH) (w:World) {l:Nat} (hl:B<=l) (o:Obj):Bel B g w g (w.putObj l o):=
 ⟨.refl _,fun _ _ _ h=> .inl h,fun _ _ h=> .inl h,fun r hr=>World.putObj_heap_other (by omega),by simp,rfl,rfl,rfl⟩
theorem Bel.alloc {B:Nat} (g:GH) (w:World) (hB:B<=w.heap.size) (o:Obj):Bel B g w g (w.alloc o):=
 ⟨.refl _,fun _ _ _ h=> .inl h,fun _ _ h=> .inl h,fun r hr=>Below.heap_alloc w o r (by omega),by simp,rfl,rfl,rfl⟩
structure ItSt (E:Eng Y) (B:Nat) (frOut:List (Nat×SV Y)) (ao:Act) (l D:Nat) (r:Loop) (g0:GH) (w0:World) (hd:Nat) (h:Hp Y) (σ:Pl) (g:GH) (W:World):Prop where
 inv:Inv E B σ h g W
 bel:Bel B g0 w0 g W
 le:B<=W.heap.size
 fr:FrOk E σ g (frOf frOut) ao
 rc:W.heap[l]? =some (.loop r)
 free:∀b,hd<=b->σ b=none
 dk:W.heap[D]? =some (.deferred (some []))
def mu6 (m:Nat) (a:Act):Nat:=m+1-(match a.eval (.tmp 6) with| .int _ n=>n.toNat|_=>0)
theorem Zs9 (hE:EngOk E) {cD:Zr3 Y} (Xl:∀(o:Oper) T h i k,DomLt h i->step E cD o.op T h i k->∃r,k r/\OpTri2 E o T h i r) {VT:Zd1 Y} {it4 it3:Code} (hVT:Zd2 E 36 it4 it3 VT) {o2p o2s:List Oper} {o2y:Oper} {ts:Array TypeId}
 (Uy:o2y.op= .call {callee:= .value (.tmp 17),args:= #[.tmp 18,.tmp 19],argTypes:=ts}) (Uz:o2y.guard=some (2,true)) (Wq:o2y.dst=some 20) (Zen:((o2p++o2y::o2s).toArray[2]?).bind (·.dst)=some 16)
 {fI:Nat->List (Nat×SV Y)} (hfI:∀k,frOf (fI k) 6= .int false .i64 (k:Int)) {NO:Nat} {assign body:Code} {p1 p2:Tmp} {frOut:List (Nat×SV Y)} {md:List Nat} {l m:Nat} {KN:Nat->Fr Y->Hp Y->Prop} {KE KR:Nat->Hp Y->Prop} (hp1:p1<NO) (hp2:p2<NO)
 {headP:Nat->Hp Y->Prop} (hit:∀k,k<=m->∀h,headP k h->DomLt h 8/\itC E cD VT o2p o2y o2s (fI k) NO assign body [p1,p2] frOut md l h (KN k) (KE k) (KR k))
 (ao:Act) (hNo:ao.tmps.size=NO)
 (hKN:∀k T h,k<=m->KN k T h->k+1<=m/\∀(B:Nat) (σ:Pl) (g:GH) (W:World) (a:Act),Inv E B σ h g W->FrOk E σ g T a->FrOk E σ g (frOf frOut) ao->∃σ' h',headP (k+1) h'/\StpL 7 60 md σ g W σ' g W/\Inv E B σ' h' g W/\FrOk E σ' g (frOf frOut) ao/\FrOk E σ' g (frOf (fI (k+1))) a/\∀b,8<=b->b<60->σ' b=none)
 {B:Nat} (D:Nat) (fn:FuncId) (g0:GH) (w0:World) (n:Nat) (Q:Exit->Act->World->Prop) (hO:¬LetsOut Q) (a:Act) (W:World) (hBl:B<=l) (hDl:D≠l)
 (hQe:∀a' W' k σ g h,k<=m->KE k h->ItSt E B frOut ao l D (rdy fn ao.tmps [p1,p2] assign body D) g0 w0 60 h σ g W'->a'.tmps.size=36->a'.defers=a.defers->Q (.exit 0) a' W')
 (hQr:∀a' W' k σ g h,k<=m->KR k h->ItSt E B frOut ao l D {rdy fn ao.tmps [p1,p2] assign body D with state:= .done,pending:=some .ret} g0 w0 60 h σ g W'->a'.tmps.size=36->a'.defers=a.defers->Q (.exit 0) a' W')
 {σ:Pl} {g:GH} {h:Hp Y} (hh:headP 0 h) (h0:ItSt E B frOut ao l D (rdy fn ao.tmps [p1,p2] assign body D) g0 w0 8 h σ g W) (hF:FrOk E σ g (frOf (fI 0)) a) (hN:a.tmps.size=36) (hown:¬Own 7 60 md σ l) (howD:¬Own 7 60 md σ D):
 (Code.loop (.seq (.seq (.region 2 (o2p++o2y::o2s).toArray false) (.cond (.tmp 26) .skip (.exit 0))) (.seq it4 it3))).wpIn Fence.wide (n+1) E.P Q a W:=by
 refine wpIn_loop (fun a' W'=>∃k σ g h,k<=m/\headP k h/\ItSt E B frOut ao l D (rdy fn ao.tmps [p1,p2] assign body D) g0 w0 8 h σ g W'/\FrOk E σ g (frOf (fI k)) a'/\a'.tmps.size=36/\a'.defers=a.defers/\¬Own 7 60 md σ l/\¬Own 7 60 md σ D) (fun a' _=>mu6 m a') ⟨0,σ,g,h,Nat.zero_le _,hh,h0,hF,hN,rfl,hown,howD⟩ ?_
 rintro a1 w1 ⟨k,σ1,g1,h1,hk,hh1,s1,hF1,hN1,hd1,hown1,howD1⟩
 obtain ⟨hdom,hc⟩:=hit k hk h1 hh1
 have hlt:l<w1.heap.size:=(Array.getElem?_eq_some_iff.1 s1.rc).1
 have hltD:D<w1.heap.size:=(Array.getElem?_eq_some_iff.1 s1.dk).1
 have e6:∀(σ:Pl) (g:GH) (k:Nat) (a:Act),FrOk E σ g (frOf (fI k)) a->a.eval (.tmp 6)= .int .i64 (k:Int):=fun σ g k a hF=>by
  have:=hF 6
  rw [hfI] at this
  generalize a.eval (.tmp 6)=u at this
  cases this;rfl
 refine Zy1 hE Xl hVT Uy Uz Wq Zen hp1 hp2 hdom hc n B σ1 g1 w1 a1 ao D fn s1.inv s1.le (fun b q1 _=>s1.free b q1) hF1 hN1 s1.fr hNo s1.rc hown1 _ (fun ⟨x,y,h⟩=>hO ⟨x,y,h⟩) ?_ ?_ ?_
 · intro a' W' σ' g' T4 h4 hkn hr hF' hz hdf
   obtain ⟨hk1,hfit⟩:=hKN k T4 h4 hk hkn
   obtain ⟨σ2,h',p1',p2',p3,p4,p5,p6⟩:=hfit B σ' g' W' a' hr.inv hF' hr.fr
   have hst:=hr.st.trans p2'
   refine ⟨⟨k+1,σ2,g',h',hk1,p1',⟨p3,s1.bel.trans (Bel.stpL hr.st s1.inv s1.le),Nat.le_trans s1.le hr.st.size,p4,hr.rc,fun b hb=> ?_,?_⟩,p5,hz,hdf.trans hd1,fun ho=> ?_,fun ho=> ?_⟩,?_⟩
   · by_cases c:b<60
     · exact p6 b hb c
     · rw [hst.out b (by omega)];exact s1.free b hb
   · exact (hr.st.heap D hltD howD1).trans s1.dk
   · rcases hst.own l ho with q|q
     · omega
     · exact hown1 q
   · rcases hst.own D ho with q|q
     · omega
     · exact howD1 q
   · show mu6 m a'<mu6 m a1
     unfold mu6
     rw [e6 _ _ _ _ p5,e6 _ _ _ _ hF1]
     simp only [Int.toNat_natCast]
     omega
 · intro a' W' σ' g' h3 hke hr hz hdf
   exact hQe a' W' k σ' g' h3 hk hke ⟨hr.inv,s1.bel.trans (Bel.stpL hr.st s1.inv s1.le),Nat.le_trans s1.le hr.st.size,hr.fr,hr.rc,(fun b hb=>by rw [hr.st.out b (by omega)];exact s1.free b (by omega)),(hr.st.heap D hltD howD1).trans s1.dk⟩ hz (hdf.trans hd1)
 · intro a' W' W3 σ3 g3 h2 σ' g' h3 hkr hr1 hr2 hz hdf
   have b1:=s1.bel.trans (Bel.stpL hr1.st s1.inv s1.le)
   have l3:B<=W3.heap.size:=Nat.le_trans s1.le hr1.st.size
   have hI3:=Xg hr1.inv hr1.rc rfl (fun es c e=>by cases e) (.loop {rdy fn ao.tmps [p1,p2] assign body D with state:= .done,pending:=some .ret})
   have b2:=Bel.stpL hr2.st hI3 (by simp;exact l3)
   have sz:=hr2.st.size
   simp at sz
   refine hQr a' W' k σ' g' h3 hk hkr ⟨hr2.inv,(b1.trans (Bel.put g3 W3 hBl _)).trans b2,Nat.le_trans l3 sz,hr2.fr,hr2.rc,(fun b hb=>by rw [hr2.st.out b (by omega),hr1.st.out b (by omega)];exact s1.free b (by omega)),?_⟩ hz (hdf.trans hd1)
   have d3:W3.heap[D]? =some (.deferred (some [])):=(hr1.st.heap D hltD howD1).trans s1.dk
   have lt3:D<W3.heap.size:=(Array.getElem?_eq_some_iff.1 d3).1
   refine (hr2.st.heap D (by simpa using lt3) fun ho=> ?_).trans ((World.putObj_heap_other hDl).trans d3)
   rcases hr1.st.own D ho with q|q
   · omega
   · exact howD1 q
theorem Zv7 {n:Nat} {P:Program} {x y z:Code} {a:Act} {w:World} {Q:Exit->Act->World->Prop} (h:x.wp P (Exit.then (fun a w=>y.wp P (Exit.then (fun a w=>z.wpIn Fence.wide n P Q a w) fun _ _ _=>False) a w) fun _ _ _=>False) a w):(Code.seq x (.seq y z)).wpIn Fence.wide n P Q a w:=by
 refine wpIn_seq (wpIn_wide.2 (wp_mono h fun e a w he=> ?_))
 cases e with
 |normal=>
  refine wpIn_seq (wpIn_wide.2 (wp_mono he fun e a w hq=> ?_))
  cases e with
  |normal=>exact hq
  |_=>exact hq.elim
 |_=>exact he.elim
theorem Zv8 (hE:EngOk E) {cD:Zr3 Y} (Xl:∀(o:Oper) T h i k,DomLt h i->step E cD o.op T h i k->∃r,k r/\OpTri2 E o T h i r) {V0 VT:Zd1 Y} {it0 it1 it4 it3:Code} (hV0:Zd2 E 36 it0 it1 V0) (hVT:Zd2 E 36 it4 it3 VT) {o2p o2s:List Oper} {o2y:Oper} {ts:Array TypeId}
 (Uy:o2y.op= .call {callee:= .value (.tmp 17),args:= #[.tmp 18,.tmp 19],argTypes:=ts}) (Uz:o2y.guard=some (2,true)) (Wq:o2y.dst=some 20) (Zen:((o2p++o2y::o2s).toArray[2]?).bind (·.dst)=some 16)
 {gf:FuncId} {fI:Func} (hf:E.P.funcs[gf]? =some fI) (hbody:fI.body=some (.seq it0 (.seq it1 (.block 0 (.loop (.seq (.seq (.region 2 (o2p++o2y::o2s).toArray false) (.cond (.tmp 26) .skip (.exit 0))) (.seq it4 it3))))))) (hnt:fI.ntmps=36) (hres:fI.results= #[]) (eg:∀args w,(callFunc gf args).run E.P w= .ok (.enter gf args) w)
 {fr:Nat->Nat->List (Nat×SV Y)} (hfI:∀l k,frOf (fr l k) 6= .int false .i64 (k:Int)) {NO:Nat} {assign body:Code} {p1 p2:Tmp} {frOut:List (Nat×SV Y)} {md:List Nat} {m:Nat} {K0:Nat->Fr Y->Hp Y->Prop} {KN:Nat->Nat->Fr Y->Hp Y->Prop} {KE KR:Nat->Hp Y->Prop} (hp1:p1<NO) (hp2:p2<NO)
 {headP:Nat->Hp Y->Prop} (hit:∀l k,k<=m->∀h,headP k h->DomLt h 8/\itC E cD VT o2p o2y o2s (fr l k) NO assign body [p1,p2] frOut md l h (KN l k) (KE k) (KR k))
 {gs b1 b2:Nat} {hE0:Hp Y} (hdom0:DomLt hE0 6) (hent:∀l,V0 (nthD [.val (.func (.yield l) #[] #[]),.ptr b1 0,.ptr b2 0]) hE0 6 [] fun T h i ms=>i<=60/\K0 l T h)
 {T:Fr Y} (hT:T gs= .fn (.func gf) [] [.ptr b1 0,.ptr b2 0]) {B:Nat} {σ:Pl} {g g0:GH} {W w0:World} {a:Act} (hI:Inv E B σ hE0 g W) (hB:B<=W.heap.size) (hbel:Bel B g0 w0 g W) (hfree:∀b,6<=b->σ b=none) (hFT:FrOk E σ g T a) (hFo:FrOk E σ g (frOf frOut) a) (hNo:a.tmps.size=NO)
 (hK0:∀l T h,K0 l T h->∀(σ:Pl) (g:GH) (W:World) (ai:Act),Inv E B σ h g W->FrOk E σ g T ai->FrOk E σ g (frOf frOut) a->∃σ' h',headP 0 h'/\StpL 7 60 md σ g W σ' g W/\Inv E B σ' h' g W/\FrOk E σ' g (frOf frOut) a/\FrOk E σ' g (frOf (fr l 0)) ai/\∀b,8<=b->b<60->σ' b=none)
 (hKN:∀l k T h,k<=m->KN l k T h->k+1<=m/\∀(B:Nat) (σ:Pl) (g:GH) (W:World) (ai:Act),Inv E B σ h g W->FrOk E σ g T ai->FrOk E σ g (frOf frOut) a->∃σ' h',headP (k+1) h'/\StpL 7 60 md σ g W σ' g W/\Inv E B σ' h' g W/\FrOk E σ' g (frOf frOut) a/\FrOk E σ' g (frOf (fr l (k+1))) ai/\∀b,8<=b->b<60->σ' b=none)
 (n:Nat) (Q:Exit->Act->World->Prop) (hO:¬LetsOut Q)
 (hEnd:∀D W' k σ g h,B<=D->k<=m->KE k h->Inv E B σ h g W'->Bel B g0 w0 g W'->B<=W'.heap.size->FrOk E σ g (frOf frOut) a->(∀b,60<=b->σ b=none)->W'.heap[D]? =some (.deferred (some []))->Q .normal {a with defers:={target:= .collected D,args:= #[]}::a.defers} W')
 (hRet:∀D W' k σ g h,B<=D->k<=m->KR k h->Inv E B σ h g W'->Bel B g0 w0 g W'->B<=W'.heap.size->FrOk E σ g (frOf frOut) a->(∀b,60<=b->σ b=none)->W'.heap[D]? =some (.deferred (some []))->Q .ret {a with defers:={target:= .collected D,args:= #[]}::a.defers} W'):
 (Code.rangeFunc (.tmp gs) #[p1,p2] assign body).wpIn Fence.wide n E.P Q a W:=by
 refine wpIn_rangeFunc fun fn _=> ?_
 obtain ⟨W1,hW1⟩:∃W1,(W.alloc (.deferred (some []))).alloc (.loop (rdy fn a.tmps [p1,p2] assign body W.heap.size))=W1:=⟨_,rfl⟩
 have hL1:W1.heap[W.heap.size+1]? =some (.loop (rdy fn a.tmps [p1,p2] assign body W.heap.size)):=by
  rw [<-hW1];have:=World.alloc_heap_new (W.alloc (.deferred (some []))) (.loop (rdy fn a.tmps [p1,p2] assign body W.heap.size));rwa [World.size_alloc] at this
 have hD1:W1.heap[W.heap.size]? =some (.deferred (some [])):=by
  rw [<-hW1];exact (Below.heap_alloc _ _ _ (by simp)).trans (World.alloc_heap_new W _)
 have hI1:Inv E B σ hE0 g W1:=by rw [<-hW1];exact Zes (Zes hI _) _
 have hb1:Bel B g0 w0 g W1:=by rw [<-hW1];exact (hbel.trans (Bel.alloc g W hB _)).trans (Bel.alloc g _ (by simp;omega) _)
 have hs1:W1.heap.size=W.heap.size+2:=by rw [<-hW1];simp
 have hev:∃u1 u2,a.eval (.tmp gs)= .func (.func gf) #[] #[u1,u2]/\Den E σ g (.ptr b1 0) u1/\Den E σ g (.ptr b2 0) u2:=by
  have:=hFT gs
  rw [hT] at this
  generalize a.eval (.tmp gs)=u at this
  cases this with
  |fn ca cb s1 s2 s3 s4 s5 s6=>
   rename_i va vb
   have e1:va= #[]:=Array.eq_empty_of_size_eq_zero s1
   have e2:vb= #[cb 0,cb 1]:=by
    have q0:=s5 0 (by simp)
    have q1:=s5 1 (by simp)
    have hz:vb.size=2:=s4
    apply Array.ext (by simpa using hz)
    intro j h1 h2
    match j,h1,h2 with
    |0,h1,h2=>rw [Array.getElem?_eq_getElem h1] at q0;simpa using q0
    |1,h1,h2=>rw [Array.getElem?_eq_getElem h1] at q1;simpa using q1
    |j+2,h1,h2=>omega
   rw [e1,e2]
   exact ⟨_,_,rfl,s6 0 _ rfl,s6 1 _ rfl⟩
 obtain ⟨u1,u2,hg,hu1,hu2⟩:=hev
 refine ⟨W.heap.size+1,[{target:= .collected W.heap.size,args:= #[]}],W1,{target:= .fn (.func gf) #[u1,u2],args:= #[.func (.yield (W.heap.size+1)) #[] #[]]},W1,gf,#[.func (.yield (W.heap.size+1)) #[] #[]]++ #[u1,u2],W1,?_,?_,fun _ _=>trivial,?_,fun h=>(by cases h),?_⟩
 · rw [<-hW1];exact run_enterLoop_outer _ _ _ _ _
 · simp only [resolve,hg]
   simp [go_sem]
 · simp [invoke,go_sem,eg]
 · refine callsIn_of_wp hf hbody trivial ?_
   have hdd:DenL E σ g [.val (.func (.yield (W.heap.size+1)) #[] #[]),.ptr b1 0,.ptr b2 0] (#[.func (.yield (W.heap.size+1)) #[] #[]]++ #[u1,u2]:Array Value).toList:=⟨rfl,fun j sv u q1 q2=>by
    match j,q1,q2 with
    |0,q1,q2=>cases q1;cases q2;exact .val _
    |1,q1,q2=>cases q1;cases q2;exact hu1
    |2,q1,q2=>cases q1;cases q2;exact hu2⟩
   obtain ⟨T',h',i',ms',⟨hi60,hk0⟩,hi,hDo,hm,t0⟩:=hV0 _ hE0 6 [] _ hdom0 (hent (W.heap.size+1))
   rw [hnt]
   refine Zv7 (t0 B σ g W1 _ (fun a w=>(Code.block 0 (.loop (.seq (.seq (.region 2 (o2p++o2y::o2s).toArray false) (.cond (.tmp 26) .skip (.exit 0))) (.seq it4 it3)))).wpIn Fence.wide _ E.P _ a w) hI1 (by omega) (fun b q1 q2=>hfree b q1) (Xa hdd (by simp)) (Xb hdd (by simp)) ?_)
   rintro a1 w1 ⟨d1,z1,σ1,g1,hS1,hI2,hF1⟩
   obtain ⟨σ2,h2,q1,q2,q3,q4,q5,q6⟩:=hK0 _ T' h' hk0 σ1 g1 w1 a1 hI2 hF1 (hFo.mono hS1.sig hS1.gle)
   have keep:∀j,W.heap.size<=j->j<W1.heap.size->w1.heap[j]? =W1.heap[j]? :=fun j k1 k2=>hS1.heap j k2 fun b _ z hs=>by have:=(hI.base b j z hs).2;omega
   have hl2:=(keep (W.heap.size+1) (by omega) (by omega)).trans hL1
   have hd2:=(keep W.heap.size (by omega) (by omega)).trans hD1
   have sz1:=hS1.size
   have own1:∀j,W.heap.size<=j->j<W1.heap.size->¬Own 7 60 md σ2 j:=fun j k1 k2 ho=>by
    rcases q2.own j ho with k|k
    · omega
    · obtain ⟨b,z,_,hs⟩:=k
      cases hq:σ b with
      |some p=>
       have:=hS1.sig b p hq
       rw [hs] at this
       cases this
       have:=(hI.base b j z hq).2
       omega
      |none=>
       rcases hS1.blk b j z hq hs with k|⟨b',_,z',k⟩
       · omega
       · have:=(hI.base b' j z' k).2
         omega
   refine wpIn_wide.2 (wpIn_wide.1 (wpIn_block (n:=0+1) (Zs9 hE Xl hVT Uy Uz Wq Zen (fI:=fr (W.heap.size+1)) (hfI _) hp1 hp2 (hit (W.heap.size+1)) a hNo (hKN (W.heap.size+1)) W.heap.size fn g0 w0 0 _ ?_ a1 w1 (by omega) (by omega) ?_ ?_ q1 ⟨q3,hb1.trans (Bel.stp hS1 hI1 (by omega)),by omega,q4,hl2,fun b hb=> ?_,hd2⟩ q5 z1 (own1 _ (by omega) (by omega)) (own1 _ (by omega) (by omega)))))
   · rintro ⟨x,y,hx⟩
     exact hO hx
   · intro a' W' k σ' g' h3 hk hke st hz hdf
     simp only [Exit.inBlock,if_true]
     refine ⟨hdf.trans d1,_,results_none hres _ _ _,none,_,run_endLoop st.rc (by simp [rdy]),?_⟩
     exact hEnd W.heap.size _ k σ' g' h3 (by omega) hk hke (Xg st.inv st.rc rfl (fun es c e=>by cases e) _) (st.bel.trans (Bel.put _ _ (by omega) _)) (by simp;exact st.le) st.fr st.free ((World.putObj_heap_other (by omega)).trans st.dk)
   · intro a' W' k σ' g' h3 hk hkr st hz hdf
     simp only [Exit.inBlock,if_true]
     refine ⟨hdf.trans d1,_,results_none hres _ _ _,some .ret,_,run_endLoop st.rc (by simp),wpIn_ret ?_⟩
     exact hRet W.heap.size _ k σ' g' h3 (by omega) hk hkr (Xg st.inv st.rc rfl (fun es c e=>by cases e) _) (st.bel.trans (Bel.put _ _ (by omega) _)) (by simp;exact st.le) st.fr st.free ((World.putObj_heap_other (by omega)).trans st.dk)
   · by_cases c:b<60
     · exact q6 b hb c
     · rw [q2.out b (by omega)]
       cases hq:σ1 b with
       |none=>rfl
       |some p=>
        rcases hS1.snew b p hq with k|k
        · rw [hfree b (by omega)] at k;cases k
        · omega
end
end
section
open Go Go.RowKit
/-- a digest's bytes -/
def lvL (c:List Ins) (v:Env) (k:Nat):List (List Int):=(List.range k).map fun j=>n32 (Vg c v (dsk c v j))
def A0R (c:List Ins) (v:Env):Ann thy:={X:=Unit,fr:=fun _=>(25,.fn (.func 50) [] [.ptr 4 0,.ptr 5 0])::frO,bl:=fun _=>blE c v,src:=fun _=> [],md:= [],ih:=6,M:=6,meas:=fun _=>0}
def AHR (c:List Ins) (v:Env) (b:Bool) (s:St) (a e:Int) (L:List (List Int)):Ann thy:={X:=Unit,fr:=fun _=>frO,bl:=fun _=>blH c v b s a e L,src:=fun _=>(match b with|true=> [(7,21008)]|false=> []),md:= [3,6],ih:=8,M:=60,meas:=fun _=>0}
def ren7:Nat->Option Nat:=fun b=>match Nat.blt b 7 with|true=>some b|false=>none
--@condg pre | (c : List Ins) (v : Env) | vcs FD 400 8 46 [rn0, rn1, rn4, rn5] (nthD [.psl .ins c false, envV v]) hp0 0 [] (fun T h i ms => Wo i 6 (fits E2 (A0R c v) 6 T h ()))
theorem Zvg (c:List Ins) (v:Env):vcs FD 400 8 46 [rn0,rn1,rn4,rn5] (nthD [.psl .ins c false,envV v]) hp0 0 [] (fun T h i ms=>Wo i 6 (fits E2 (A0R c v) 6 T h ()))=(
  True/\∀(y:Int×Int),y=verF c->((Prod.snd y !=(0:Int))=true->False)/\((Prod.snd y !=(0:Int))=false->((Fn.func (50:Nat)=Fn.func
  (50:FuncId)/\True/\(0:Nat)=(0:Nat)/\(0:Nat)=(0:Nat)/\True)/\(0:Nat)=(0:Nat)/\(0:Nat)=(0:Nat)/\(0:Nat)=(0:Nat)/\
  (0:Nat)=(0:Nat)/\True)/\((c=c/\(false=true->false=true))/\True)/\(Env.has v=Env.has v/\Env.v0 v=Env.v0 v/\Env.v1 v=Env.v1 v/\Env.v2 v=Env.v2 v/\Env.v3
  v=Env.v3 v/\Env.v4 v=Env.v4 v/\Env.v5 v=Env.v5 v/\Env.v6 v=Env.v6 v/\Env.v7 v=Env.v7 v/\Env.v8 v=Env.v8 v/\Env.v9 v=Env.v9 v/\Env.v10 v=Env.v10 v/\Env.v11 v
  =Env.v11 v/\Env.v12 v=Env.v12 v/\Env.v13 v=Env.v13 v/\Env.v14 v=Env.v14 v/\Env.v15 v=Env.v15 v/\True)/\(Value.slice none (0:Nat) (0:Nat)=Value.slice none (0:
  Nat) (0:Nat)/\(0:Int)=(0:Int)/\(0:Int)=(0:Int)/\(0:Int)=(0:Int)/\(0:Int)=(0:Int)/\(0:Int)=(0:Int)/\(0:Int)=(0:Int)/\(0:Int)=(0:
  Int)/\(0:Int)=(0:Int)/\(0:Int)=(0:Int)/\(0:Int)=(0:Int)/\(0:Int)=(0:Int)/\(0:Int)=(0:Int)/\(0:Int)=(0:Int)/\(0:Int)=(0:Int)/\(0:
  Int)=(0:Int)/\(0:Int)=(0:Int)/\(0:Int)=(0:Int)/\(0:Int)=(0:Int)/\(0:Int)=(0:Int)/\Value.slice none (0:Nat) (0:Nat)=Value.slice none (0:Nat)
  (0:Nat)/\True)/\((c=c/\(false=true->false=true))/\Env.has v=Env.has v/\Env.v0 v=Env.v0 v/\Env.v1 v=Env.v1 v/\Env.v2 v=Env.v2 v/\Env.v3 v=Env.v3 v/\
  Env.v4 v=Env.v4 v/\Env.v5 v=Env.v5 v/\Env.v6 v=Env.v6 v/\Env.v7 v=Env.v7 v/\Env.v8 v=Env.v8 v/\Env.v9 v=Env.v9 v/\Env.v10 v=Env.v10 v/\Env.v11 v=Env.v11 v/\
  Env.v12 v=Env.v12 v/\Env.v13 v=Env.v13 v/\Env.v14 v=Env.v14 v/\Env.v15 v=Env.v15 v/\(0:Int)=(0:Int)/\(0:Int)=(0:Int)/\Value.slice none (0:Nat) (0:Nat)
  =Value.slice none (0:Nat) (0:Nat)/\True)/\((c=c/\(false=true->false=true))/\True)/\(Env.has v=Env.has v/\Env.v0 v=Env.v0 v/\Env.v1 v=Env.v1 v/\Env.v2 v=
  Env.v2 v/\Env.v3 v=Env.v3 v/\Env.v4 v=Env.v4 v/\Env.v5 v=Env.v5 v/\Env.v6 v=Env.v6 v/\Env.v7 v=Env.v7 v/\Env.v8 v=Env.v8 v/\Env.v9 v=Env.v9 v/\Env.v10 v=
  Env.v10 v/\Env.v11 v=Env.v11 v/\Env.v12 v=Env.v12 v/\Env.v13 v=Env.v13 v/\Env.v14 v=Env.v14 v/\Env.v15 v=Env.v15 v/\True)/\True)
  ):=by kernel_rfl
--@end
--@condg ent | (c : List Ins) (v : Env) (l : Nat) (s : St) | vcs FD 400 50 36 [it0, it1] (nthD [.val (.func (.yield l) #[] #[]), .ptr 4 0, .ptr 5 0]) (blOf (blE c v)) 6 [] (fun T h i ms => i ≤ 60 ∧ fits E2 (AHR c v false s 0 0 []) 7 (frOf frO) h () ∧ fitF ren7 T (frI l 0))
theorem Zvh (c:List Ins) (v:Env) (l:Nat) (s:St):vcs FD 400 50 36 [it0,it1] (nthD [.val (.func (.yield l) #[] #[]),.ptr 4 0,.ptr 5 0]) (blOf (blE c v)) 6 [] (fun T h i ms=>i<=60/\fits E2 (AHR c v false s 0 0 []) 7 (frOf frO) h ()/\fitF ren7 T (frI l 0))=(
  True/\∀(y:St×Int),y=Za1 (wr IntKind.i64 ((↑(List.length c):Int)+(1:Int)))->(7:Nat)<=(60:Nat)/\(((0:Nat)=(0:Nat)/\(0:Nat)=(0:Nat)/\(0:Nat)=
  (0:Nat)/\(0:Nat)=(0:Nat)/\True)/\((c=c/\(false=true->false=true))/\True)/\(Env.has v=Env.has v/\Env.v0 v=Env.v0 v/\Env.v1 v=Env.v1 v/\Env.v2 v=
  Env.v2 v/\Env.v3 v=Env.v3 v/\Env.v4 v=Env.v4 v/\Env.v5 v=Env.v5 v/\Env.v6 v=Env.v6 v/\Env.v7 v=Env.v7 v/\Env.v8 v=Env.v8 v/\Env.v9 v=Env.v9 v/\Env.v10 v=
  Env.v10 v/\Env.v11 v=Env.v11 v/\Env.v12 v=Env.v12 v/\Env.v13 v=Env.v13 v/\Env.v14 v=Env.v14 v/\Env.v15 v=Env.v15 v/\True)/\(Value.slice none (0:Nat) (0:Nat)=
  Value.slice none (0:Nat) (0:Nat)/\(0:Int)=(0:Int)/\(0:Int)=(0:Int)/\(0:Int)=(0:Int)/\(0:Int)=(0:Int)/\(0:Int)=(0:Int)/\(0:Int)=(0:Int)
  /\(0:Int)=(0:Int)/\(0:Int)=(0:Int)/\(0:Int)=(0:Int)/\(0:Int)=(0:Int)/\(0:Int)=(0:Int)/\(0:Int)=(0:Int)/\(0:Int)=(0:Int)/\(0:Int)
  =(0:Int)/\(0:Int)=(0:Int)/\(0:Int)=(0:Int)/\(0:Int)=(0:Int)/\(0:Int)=(0:Int)/\(0:Int)=(0:Int)/\Value.slice none (0:Nat) (0:Nat)=
  Value.slice none (0:Nat) (0:Nat)/\True)/\((c=c/\(false=true->false=true))/\Env.has v=Env.has v/\Env.v0 v=Env.v0 v/\Env.v1 v=Env.v1 v/\Env.v2 v=Env.v2 v/\
  Env.v3 v=Env.v3 v/\Env.v4 v=Env.v4 v/\Env.v5 v=Env.v5 v/\Env.v6 v=Env.v6 v/\Env.v7 v=Env.v7 v/\Env.v8 v=Env.v8 v/\Env.v9 v=Env.v9 v/\Env.v10 v=Env.v10 v/\
  Env.v11 v=Env.v11 v/\Env.v12 v=Env.v12 v/\Env.v13 v=Env.v13 v/\Env.v14 v=Env.v14 v/\Env.v15 v=Env.v15 v/\(0:Int)=(0:Int)/\(0:Int)=(0:Int)/\Value.slice
  none (0:Nat) (0:Nat)=Value.slice none (0:Nat) (0:Nat)/\True)/\((c=c/\(false=true->false=true))/\True)/\(Env.has v=Env.has v/\Env.v0 v=Env.v0 v/\Env.v1 v
  =Env.v1 v/\Env.v2 v=Env.v2 v/\Env.v3 v=Env.v3 v/\Env.v4 v=Env.v4 v/\Env.v5 v=Env.v5 v/\Env.v6 v=Env.v6 v/\Env.v7 v=Env.v7 v/\Env.v8 v=Env.v8 v/\Env.v9 v=
  Env.v9 v/\Env.v10 v=Env.v10 v/\Env.v11 v=Env.v11 v/\Env.v12 v=Env.v12 v/\Env.v13 v=Env.v13 v/\Env.v14 v=Env.v14 v/\Env.v15 v=Env.v15 v/\True)/\(St.pc (Prod.fst
  y)=St.pc s/\St.fuel (Prod.fst y)=St.fuel s/\St.status (Prod.fst y)=St.status s/\St.clause (Prod.fst y)=St.clause s/\(St.stack (Prod.fst y)=St.stack s/\(false=true
  ->false=true))/\True)/\True)/\Value.func (Fn.yield l) #[] #[]=Value.func (Fn.yield l) #[] #[]/\(0:Nat)=(0:Nat)/\(0:Nat)=(0:Nat)/\(0:Nat)=(0:Nat)/\
  Prod.snd y=(0:Int)/\(0:Int)=(↑(0:Nat):Int)/\True
  ):=by kernel_rfl
--@end
--@condg itf | (c : List Ins) (v : Env) (l k k' : Nat) (s s' : St) (a e : Int) (L : List (List Int)) (PN PE : Prop) (KR : Hp thy → Prop) | itC E2 cD itT o2p o2y o2s (frI l k) 46 (rfA rnF) (rfB rnF) [26, 27] frO [3, 6] l (blOf (blH c v false s 0 0 [])) (fun T h => PN ∧ fits E2 (AHR c v true s' a e L) 7 (frOf frO) h () ∧ fitF ren7 T (frI l k')) (fun h => PE ∧ fits E2 (AHR c v true s a e L) 7 (frOf frO) h ()) KR
theorem Zvi (c:List Ins) (v:Env) (l k k':Nat) (s s':St) (a e:Int) (L:List (List Int)) (PN PE:Prop) (KR:Hp thy->Prop):itC E2 cD itT o2p o2y o2s (frI l k) 46 (rfA rnF) (rfB rnF) [26,27] frO [3,6] l (blOf (blH c v false s 0 0 [])) (fun T h=>PN/\fits E2 (AHR c v true s' a e L) 7 (frOf frO) h ()/\fitF ren7 T (frI l k')) (fun h=>PE/\fits E2 (AHR c v true s a e L) 7 (frOf frO) h ()) KR=(
  Value.func (Fn.yield l) #[] #[]=Value.func (Fn.yield l) #[] #[]/\(List.length c<=(1000000:Nat)/\List.length (St.stack s)<=(1000000:Nat))/\∀(y:List Int),y=Vg c
  v s->List.length (St.stack s)<=(1000000:Nat)/\∀(y_1:Int×Int×Int),y_1=Zt s->((St.status s==(0:Int))=true->True/\∀(y_2:St×Int),y_2=V3 c v s->
  PN/\(((0:Nat)=(0:Nat)/\(0:Nat)=(0:Nat)/\(0:Nat)=(0:Nat)/\(0:Nat)=(0:Nat)/\True)/\((c=c/\(false=true->false=true))/\True)/\(Env.has v=
  Env.has v/\Env.v0 v=Env.v0 v/\Env.v1 v=Env.v1 v/\Env.v2 v=Env.v2 v/\Env.v3 v=Env.v3 v/\Env.v4 v=Env.v4 v/\Env.v5 v=Env.v5 v/\Env.v6 v=Env.v6 v/\Env.v7 v=
  Env.v7 v/\Env.v8 v=Env.v8 v/\Env.v9 v=Env.v9 v/\Env.v10 v=Env.v10 v/\Env.v11 v=Env.v11 v/\Env.v12 v=Env.v12 v/\Env.v13 v=Env.v13 v/\Env.v14 v=Env.v14 v/\
  Env.v15 v=Env.v15 v/\True)/\(Value.slice none (0:Nat) (0:Nat)=Value.slice none (0:Nat) (0:Nat)/\(0:Int)=(0:Int)/\(0:Int)=(0:Int)/\(0:Int)=(0:Int)
  /\(0:Int)=(0:Int)/\(0:Int)=(0:Int)/\(0:Int)=(0:Int)/\(0:Int)=(0:Int)/\(0:Int)=(0:Int)/\(0:Int)=(0:Int)/\(0:Int)=(0:Int)/\(0:Int)
  =(0:Int)/\(0:Int)=(0:Int)/\(0:Int)=(0:Int)/\(0:Int)=(0:Int)/\(0:Int)=(0:Int)/\(0:Int)=(0:Int)/\(0:Int)=(0:Int)/\(0:Int)=(0:Int)
  /\(0:Int)=(0:Int)/\Value.slice none (0:Nat) (0:Nat)=Value.slice none (0:Nat) (0:Nat)/\True)/\((c=c/\(false=true->false=true))/\Env.has v=Env.has v/\
  Env.v0 v=Env.v0 v/\Env.v1 v=Env.v1 v/\Env.v2 v=Env.v2 v/\Env.v3 v=Env.v3 v/\Env.v4 v=Env.v4 v/\Env.v5 v=Env.v5 v/\Env.v6 v=Env.v6 v/\Env.v7 v=Env.v7 v/\
  Env.v8 v=Env.v8 v/\Env.v9 v=Env.v9 v/\Env.v10 v=Env.v10 v/\Env.v11 v=Env.v11 v/\Env.v12 v=Env.v12 v/\Env.v13 v=Env.v13 v/\Env.v14 v=Env.v14 v/\Env.v15 v=
  Env.v15 v/\Prod.fst y_1=a/\Prod.snd (Prod.snd y_1)=e/\((0:Nat)=(0:Nat)/\(1:Nat)=List.length L/\True)/\True)/\((c=c/\(false=true->false=true))/\True)/\
  (Env.has v=Env.has v/\Env.v0 v=Env.v0 v/\Env.v1 v=Env.v1 v/\Env.v2 v=Env.v2 v/\Env.v3 v=Env.v3 v/\Env.v4 v=Env.v4 v/\Env.v5 v=Env.v5 v/\Env.v6 v=Env.v6 v/\
  Env.v7 v=Env.v7 v/\Env.v8 v=Env.v8 v/\Env.v9 v=Env.v9 v/\Env.v10 v=Env.v10 v/\Env.v11 v=Env.v11 v/\Env.v12 v=Env.v12 v/\Env.v13 v=Env.v13 v/\Env.v14 v=
  Env.v14 v/\Env.v15 v=Env.v15 v/\True)/\(St.pc (Prod.fst y_2)=St.pc s'/\St.fuel (Prod.fst y_2)=St.fuel s'/\St.status (Prod.fst y_2)=St.status s'/\St.clause (Prod.fst
  y_2)=St.clause s'/\(St.stack (Prod.fst y_2)=St.stack s'/\(false=true->false=true))/\True)/\([[List.getD y (0:Nat) (0:Int),List.getD y (1:Nat) (0:Int),
  List.getD y (2:Nat) (0:Int),List.getD y (3:Nat) (0:Int),List.getD y (4:Nat) (0:Int),List.getD y (5:Nat) (0:Int),List.getD y (6:Nat) (0:Int),List.getD y (7
  :Nat) (0:Int),List.getD y (8:Nat) (0:Int),List.getD y (9:Nat) (0:Int),List.getD y (10:Nat) (0:Int),List.getD y (11:Nat) (0:Int),List.getD y (12:Nat) (0:
  Int),List.getD y (13:Nat) (0:Int),List.getD y (14:Nat) (0:Int),List.getD y (15:Nat) (0:Int),List.getD y (16:Nat) (0:Int),List.getD y (17:Nat) (0:Int),
  List.getD y (18:Nat) (0:Int),List.getD y (19:Nat) (0:Int),List.getD y (20:Nat) (0:Int),List.getD y (21:Nat) (0:Int),List.getD y (22:Nat) (0:Int),List.getD
  y (23:Nat) (0:Int),List.getD y (24:Nat) (0:Int),List.getD y (25:Nat) (0:Int),List.getD y (26:Nat) (0:Int),List.getD y (27:Nat) (0:Int),List.getD y (28:
  Nat) (0:Int),List.getD y (29:Nat) (0:Int),List.getD y (30:Nat) (0:Int),List.getD y (31:Nat) (0:Int)]]=L/\(0:Nat)=(0:Nat))/\True)/\Value.func (Fn.yield
  l) #[] #[]=Value.func (Fn.yield l) #[] #[]/\(0:Nat)=(0:Nat)/\(0:Nat)=(0:Nat)/\(0:Nat)=(0:Nat)/\Prod.snd y_2=(0:Int)/\wr IntKind.i64 ((↑k:Int)+(1:
  Int))=(↑k':Int)/\True)/\((St.status s==(0:Int))=false->PE/\((0:Nat)=(0:Nat)/\(0:Nat)=(0:Nat)/\(0:Nat)=(0:Nat)/\(0:Nat)=(0:Nat)/\True)/\
  ((c=c/\(false=true->false=true))/\True)/\(Env.has v=Env.has v/\Env.v0 v=Env.v0 v/\Env.v1 v=Env.v1 v/\Env.v2 v=Env.v2 v/\Env.v3 v=Env.v3 v/\Env.v4 v=
  Env.v4 v/\Env.v5 v=Env.v5 v/\Env.v6 v=Env.v6 v/\Env.v7 v=Env.v7 v/\Env.v8 v=Env.v8 v/\Env.v9 v=Env.v9 v/\Env.v10 v=Env.v10 v/\Env.v11 v=Env.v11 v/\Env.v12 v=
  Env.v12 v/\Env.v13 v=Env.v13 v/\Env.v14 v=Env.v14 v/\Env.v15 v=Env.v15 v/\True)/\(Value.slice none (0:Nat) (0:Nat)=Value.slice none (0:Nat) (0:Nat)/\(0:Int)
  =(0:Int)/\(0:Int)=(0:Int)/\(0:Int)=(0:Int)/\(0:Int)=(0:Int)/\(0:Int)=(0:Int)/\(0:Int)=(0:Int)/\(0:Int)=(0:Int)/\(0:Int)=(0:Int)
  /\(0:Int)=(0:Int)/\(0:Int)=(0:Int)/\(0:Int)=(0:Int)/\(0:Int)=(0:Int)/\(0:Int)=(0:Int)/\(0:Int)=(0:Int)/\(0:Int)=(0:Int)/\(0:Int)
  =(0:Int)/\(0:Int)=(0:Int)/\(0:Int)=(0:Int)/\(0:Int)=(0:Int)/\Value.slice none (0:Nat) (0:Nat)=Value.slice none (0:Nat) (0:Nat)/\True)/\((c=c
  /\(false=true->false=true))/\Env.has v=Env.has v/\Env.v0 v=Env.v0 v/\Env.v1 v=Env.v1 v/\Env.v2 v=Env.v2 v/\Env.v3 v=Env.v3 v/\Env.v4 v=Env.v4 v/\Env.v5 v=
  Env.v5 v/\Env.v6 v=Env.v6 v/\Env.v7 v=Env.v7 v/\Env.v8 v=Env.v8 v/\Env.v9 v=Env.v9 v/\Env.v10 v=Env.v10 v/\Env.v11 v=Env.v11 v/\Env.v12 v=Env.v12 v/\Env.v13 v
  =Env.v13 v/\Env.v14 v=Env.v14 v/\Env.v15 v=Env.v15 v/\Prod.fst y_1=a/\Prod.snd (Prod.snd y_1)=e/\((0:Nat)=(0:Nat)/\(1:Nat)=List.length L/\True)/\True)/\
  ((c=c/\(false=true->false=true))/\True)/\(Env.has v=Env.has v/\Env.v0 v=Env.v0 v/\Env.v1 v=Env.v1 v/\Env.v2 v=Env.v2 v/\Env.v3 v=Env.v3 v/\Env.v4 v=
  Env.v4 v/\Env.v5 v=Env.v5 v/\Env.v6 v=Env.v6 v/\Env.v7 v=Env.v7 v/\Env.v8 v=Env.v8 v/\Env.v9 v=Env.v9 v/\Env.v10 v=Env.v10 v/\Env.v11 v=Env.v11 v/\Env.v12 v=
  Env.v12 v/\Env.v13 v=Env.v13 v/\Env.v14 v=Env.v14 v/\Env.v15 v=Env.v15 v/\True)/\(St.pc s=St.pc s/\St.fuel s=St.fuel s/\St.status s=St.status s/\St.clause s=
  St.clause s/\(St.stack s=St.stack s/\(false=true->false=true))/\True)/\([[List.getD y (0:Nat) (0:Int),List.getD y (1:Nat) (0:Int),List.getD y (2:Nat) (0:
  Int),List.getD y (3:Nat) (0:Int),List.getD y (4:Nat) (0:Int),List.getD y (5:Nat) (0:Int),List.getD y (6:Nat) (0:Int),List.getD y (7:Nat) (0:Int),List.getD
  y (8:Nat) (0:Int),List.getD y (9:Nat) (0:Int),List.getD y (10:Nat) (0:Int),List.getD y (11:Nat) (0:Int),List.getD y (12:Nat) (0:Int),List.getD y (13:Nat)
  (0:Int),List.getD y (14:Nat) (0:Int),List.getD y (15:Nat) (0:Int),List.getD y (16:Nat) (0:Int),List.getD y (17:Nat) (0:Int),List.getD y (18:Nat) (0:Int),
  List.getD y (19:Nat) (0:Int),List.getD y (20:Nat) (0:Int),List.getD y (21:Nat) (0:Int),List.getD y (22:Nat) (0:Int),List.getD y (23:Nat) (0:Int),List.getD
  y (24:Nat) (0:Int),List.getD y (25:Nat) (0:Int),List.getD y (26:Nat) (0:Int),List.getD y (27:Nat) (0:Int),List.getD y (28:Nat) (0:Int),List.getD y (29:
  Nat) (0:Int),List.getD y (30:Nat) (0:Int),List.getD y (31:Nat) (0:Int)]]=L/\(0:Nat)=(0:Nat))/\True)
  ):=by kernel_rfl
--@end
--@condg itt | (c : List Ins) (v : Env) (l k k' : Nat) (s s' : St) (a e a' e' : Int) (L L' : List (List Int)) (PN PE : Prop) (KR : Hp thy → Prop) | itC E2 cD itT o2p o2y o2s (frI l k) 46 (rfA rnF) (rfB rnF) [26, 27] frO [3, 6] l (blOf (blH c v true s a e L)) (fun T h => PN ∧ fits E2 (AHR c v true s' a' e' L') 7 (frOf frO) h () ∧ fitF ren7 T (frI l k')) (fun h => PE ∧ fits E2 (AHR c v true s a' e' L') 7 (frOf frO) h ()) KR
theorem Zvj (c:List Ins) (v:Env) (l k k':Nat) (s s':St) (a e a' e':Int) (L L':List (List Int)) (PN PE:Prop) (KR:Hp thy->Prop):itC E2 cD itT o2p o2y o2s (frI l k) 46 (rfA rnF) (rfB rnF) [26,27] frO [3,6] l (blOf (blH c v true s a e L)) (fun T h=>PN/\fits E2 (AHR c v true s' a' e' L') 7 (frOf frO) h ()/\fitF ren7 T (frI l k')) (fun h=>PE/\fits E2 (AHR c v true s a' e' L') 7 (frOf frO) h ()) KR=(
  Value.func (Fn.yield l) #[] #[]=Value.func (Fn.yield l) #[] #[]/\(List.length c<=(1000000:Nat)/\List.length (St.stack s)<=(1000000:Nat))/\∀(y:List Int),y=Vg c
  v s->(List.length L<=List.length L/\(0:Nat)<=List.length L/\(List.length L+(1:Nat))*(32:Nat)<=(140737488355328:Nat))/\List.length (St.stack s)<=(1000000:Nat)
  /\∀(y_1:Int×Int×Int),y_1=Zt s->((St.status s==(0:Int))=true->True/\∀(y_2:St×Int),y_2=V3 c v s->PN/\(((0:Nat)=(0:Nat)/\(0:Nat)=(0:
  Nat)/\(0:Nat)=(0:Nat)/\(0:Nat)=(0:Nat)/\True)/\((c=c/\(false=true->false=true))/\True)/\(Env.has v=Env.has v/\Env.v0 v=Env.v0 v/\Env.v1 v=Env.v1 v
  /\Env.v2 v=Env.v2 v/\Env.v3 v=Env.v3 v/\Env.v4 v=Env.v4 v/\Env.v5 v=Env.v5 v/\Env.v6 v=Env.v6 v/\Env.v7 v=Env.v7 v/\Env.v8 v=Env.v8 v/\Env.v9 v=Env.v9 v/\
  Env.v10 v=Env.v10 v/\Env.v11 v=Env.v11 v/\Env.v12 v=Env.v12 v/\Env.v13 v=Env.v13 v/\Env.v14 v=Env.v14 v/\Env.v15 v=Env.v15 v/\True)/\(Value.slice none (0:Nat)
  (0:Nat)=Value.slice none (0:Nat) (0:Nat)/\(0:Int)=(0:Int)/\(0:Int)=(0:Int)/\(0:Int)=(0:Int)/\(0:Int)=(0:Int)/\(0:Int)=(0:Int)/\(0:Int)
  =(0:Int)/\(0:Int)=(0:Int)/\(0:Int)=(0:Int)/\(0:Int)=(0:Int)/\(0:Int)=(0:Int)/\(0:Int)=(0:Int)/\(0:Int)=(0:Int)/\(0:Int)=(0:Int)
  /\(0:Int)=(0:Int)/\(0:Int)=(0:Int)/\(0:Int)=(0:Int)/\(0:Int)=(0:Int)/\(0:Int)=(0:Int)/\(0:Int)=(0:Int)/\Value.slice none (0:Nat) (0:
  Nat)=Value.slice none (0:Nat) (0:Nat)/\True)/\((c=c/\(false=true->false=true))/\Env.has v=Env.has v/\Env.v0 v=Env.v0 v/\Env.v1 v=Env.v1 v/\Env.v2 v=
  Env.v2 v/\Env.v3 v=Env.v3 v/\Env.v4 v=Env.v4 v/\Env.v5 v=Env.v5 v/\Env.v6 v=Env.v6 v/\Env.v7 v=Env.v7 v/\Env.v8 v=Env.v8 v/\Env.v9 v=Env.v9 v/\Env.v10 v=
  Env.v10 v/\Env.v11 v=Env.v11 v/\Env.v12 v=Env.v12 v/\Env.v13 v=Env.v13 v/\Env.v14 v=Env.v14 v/\Env.v15 v=Env.v15 v/\Prod.fst y_1=a'/\Prod.snd (Prod.snd y_1)=e'
  /\((0:Nat)=(0:Nat)/\List.length L+(1:Nat)=List.length L'/\True)/\True)/\((c=c/\(false=true->false=true))/\True)/\(Env.has v=Env.has v/\Env.v0 v=
  Env.v0 v/\Env.v1 v=Env.v1 v/\Env.v2 v=Env.v2 v/\Env.v3 v=Env.v3 v/\Env.v4 v=Env.v4 v/\Env.v5 v=Env.v5 v/\Env.v6 v=Env.v6 v/\Env.v7 v=Env.v7 v/\Env.v8 v=
  Env.v8 v/\Env.v9 v=Env.v9 v/\Env.v10 v=Env.v10 v/\Env.v11 v=Env.v11 v/\Env.v12 v=Env.v12 v/\Env.v13 v=Env.v13 v/\Env.v14 v=Env.v14 v/\Env.v15 v=Env.v15 v/\
  True)/\(St.pc (Prod.fst y_2)=St.pc s'/\St.fuel (Prod.fst y_2)=St.fuel s'/\St.status (Prod.fst y_2)=St.status s'/\St.clause (Prod.fst y_2)=St.clause s'/\(St.stack
  (Prod.fst y_2)=St.stack s'/\(false=true->false=true))/\True)/\(List.take (List.length L) L++ [[List.getD y (0:Nat) (0:Int),List.getD y (1:Nat) (0:Int),
  List.getD y (2:Nat) (0:Int),List.getD y (3:Nat) (0:Int),List.getD y (4:Nat) (0:Int),List.getD y (5:Nat) (0:Int),List.getD y (6:Nat) (0:Int),List.getD y (7
  :Nat) (0:Int),List.getD y (8:Nat) (0:Int),List.getD y (9:Nat) (0:Int),List.getD y (10:Nat) (0:Int),List.getD y (11:Nat) (0:Int),List.getD y (12:Nat) (0:
  Int),List.getD y (13:Nat) (0:Int),List.getD y (14:Nat) (0:Int),List.getD y (15:Nat) (0:Int),List.getD y (16:Nat) (0:Int),List.getD y (17:Nat) (0:Int),
  List.getD y (18:Nat) (0:Int),List.getD y (19:Nat) (0:Int),List.getD y (20:Nat) (0:Int),List.getD y (21:Nat) (0:Int),List.getD y (22:Nat) (0:Int),List.getD
  y (23:Nat) (0:Int),List.getD y (24:Nat) (0:Int),List.getD y (25:Nat) (0:Int),List.getD y (26:Nat) (0:Int),List.getD y (27:Nat) (0:Int),List.getD y (28:
  Nat) (0:Int),List.getD y (29:Nat) (0:Int),List.getD y (30:Nat) (0:Int),List.getD y (31:Nat) (0:Int)]]=L'/\(0:Nat)=(0:Nat))/\True)/\Value.func (Fn.yield
  l) #[] #[]=Value.func (Fn.yield l) #[] #[]/\(0:Nat)=(0:Nat)/\(0:Nat)=(0:Nat)/\(0:Nat)=(0:Nat)/\Prod.snd y_2=(0:Int)/\wr IntKind.i64 ((↑k:Int)+(1:
  Int))=(↑k':Int)/\True)/\((St.status s==(0:Int))=false->PE/\((0:Nat)=(0:Nat)/\(0:Nat)=(0:Nat)/\(0:Nat)=(0:Nat)/\(0:Nat)=(0:Nat)/\True)/\
  ((c=c/\(false=true->false=true))/\True)/\(Env.has v=Env.has v/\Env.v0 v=Env.v0 v/\Env.v1 v=Env.v1 v/\Env.v2 v=Env.v2 v/\Env.v3 v=Env.v3 v/\Env.v4 v=
  Env.v4 v/\Env.v5 v=Env.v5 v/\Env.v6 v=Env.v6 v/\Env.v7 v=Env.v7 v/\Env.v8 v=Env.v8 v/\Env.v9 v=Env.v9 v/\Env.v10 v=Env.v10 v/\Env.v11 v=Env.v11 v/\Env.v12 v=
  Env.v12 v/\Env.v13 v=Env.v13 v/\Env.v14 v=Env.v14 v/\Env.v15 v=Env.v15 v/\True)/\(Value.slice none (0:Nat) (0:Nat)=Value.slice none (0:Nat) (0:Nat)/\(0:Int)
  =(0:Int)/\(0:Int)=(0:Int)/\(0:Int)=(0:Int)/\(0:Int)=(0:Int)/\(0:Int)=(0:Int)/\(0:Int)=(0:Int)/\(0:Int)=(0:Int)/\(0:Int)=(0:Int)
  /\(0:Int)=(0:Int)/\(0:Int)=(0:Int)/\(0:Int)=(0:Int)/\(0:Int)=(0:Int)/\(0:Int)=(0:Int)/\(0:Int)=(0:Int)/\(0:Int)=(0:Int)/\(0:Int)
  =(0:Int)/\(0:Int)=(0:Int)/\(0:Int)=(0:Int)/\(0:Int)=(0:Int)/\Value.slice none (0:Nat) (0:Nat)=Value.slice none (0:Nat) (0:Nat)/\True)/\((c=c
  /\(false=true->false=true))/\Env.has v=Env.has v/\Env.v0 v=Env.v0 v/\Env.v1 v=Env.v1 v/\Env.v2 v=Env.v2 v/\Env.v3 v=Env.v3 v/\Env.v4 v=Env.v4 v/\Env.v5 v=
  Env.v5 v/\Env.v6 v=Env.v6 v/\Env.v7 v=Env.v7 v/\Env.v8 v=Env.v8 v/\Env.v9 v=Env.v9 v/\Env.v10 v=Env.v10 v/\Env.v11 v=Env.v11 v/\Env.v12 v=Env.v12 v/\Env.v13 v
  =Env.v13 v/\Env.v14 v=Env.v14 v/\Env.v15 v=Env.v15 v/\Prod.fst y_1=a'/\Prod.snd (Prod.snd y_1)=e'/\((0:Nat)=(0:Nat)/\List.length L+(1:Nat)=List.length L'
  /\True)/\True)/\((c=c/\(false=true->false=true))/\True)/\(Env.has v=Env.has v/\Env.v0 v=Env.v0 v/\Env.v1 v=Env.v1 v/\Env.v2 v=Env.v2 v/\Env.v3 v=Env.v3 v
  /\Env.v4 v=Env.v4 v/\Env.v5 v=Env.v5 v/\Env.v6 v=Env.v6 v/\Env.v7 v=Env.v7 v/\Env.v8 v=Env.v8 v/\Env.v9 v=Env.v9 v/\Env.v10 v=Env.v10 v/\Env.v11 v=Env.v11 v
  /\Env.v12 v=Env.v12 v/\Env.v13 v=Env.v13 v/\Env.v14 v=Env.v14 v/\Env.v15 v=Env.v15 v/\True)/\(St.pc s=St.pc s/\St.fuel s=St.fuel s/\St.status s=St.status s/\
  St.clause s=St.clause s/\(St.stack s=St.stack s/\(false=true->false=true))/\True)/\(List.take (List.length L) L++ [[List.getD y (0:Nat) (0:Int),List.getD y (1:
  Nat) (0:Int),List.getD y (2:Nat) (0:Int),List.getD y (3:Nat) (0:Int),List.getD y (4:Nat) (0:Int),List.getD y (5:Nat) (0:Int),List.getD y (6:Nat) (0:Int),
  List.getD y (7:Nat) (0:Int),List.getD y (8:Nat) (0:Int),List.getD y (9:Nat) (0:Int),List.getD y (10:Nat) (0:Int),List.getD y (11:Nat) (0:Int),List.getD y
  (12:Nat) (0:Int),List.getD y (13:Nat) (0:Int),List.getD y (14:Nat) (0:Int),List.getD y (15:Nat) (0:Int),List.getD y (16:Nat) (0:Int),List.getD y (17:Nat)
  (0:Int),List.getD y (18:Nat) (0:Int),List.getD y (19:Nat) (0:Int),List.getD y (20:Nat) (0:Int),List.getD y (21:Nat) (0:Int),List.getD y (22:Nat) (0:Int),
  List.getD y (23:Nat) (0:Int),List.getD y (24:Nat) (0:Int),List.getD y (25:Nat) (0:Int),List.getD y (26:Nat) (0:Int),List.getD y (27:Nat) (0:Int),List.getD
  y (28:Nat) (0:Int),List.getD y (29:Nat) (0:Int),List.getD y (30:Nat) (0:Int),List.getD y (31:Nat) (0:Int)]]=L'/\(0:Nat)=(0:Nat))/\True)
  ):=by kernel_rfl
--@end
theorem n32x (y:List Int):n32 y= [List.getD y 0 0,List.getD y 1 0,List.getD y 2 0,List.getD y 3 0,List.getD y 4 0,List.getD y 5 0,List.getD y 6 0,List.getD y 7 0,List.getD y 8 0,List.getD y 9 0,List.getD y 10 0,List.getD y 11 0,List.getD y 12 0,List.getD y 13 0,List.getD y 14 0,List.getD y 15 0,List.getD y 16 0,List.getD y 17 0,List.getD y 18 0,List.getD y 19 0,List.getD y 20 0,List.getD y 21 0,List.getD y 22 0,List.getD y 23 0,List.getD y 24 0,List.getD y 25 0,List.getD y 26 0,List.getD y 27 0,List.getD y 28 0,List.getD y 29 0,List.getD y 30 0,List.getD y 31 0]:=rfl
theorem Zcs (c:List Ins) (v:Env) (k:Nat):lvL c v (k+1)=lvL c v k++ [n32 (Vg c v (dsk c v k))]:=by simp [lvL,List.range_succ]
theorem Zbu (c:List Ins) (v:Env) (k:Nat):(lvL c v k).length=k:=by simp [lvL]
def Z01 (c:List Ins) (v:Env):Nat->Hp thy->Prop
  |0,h=>h=blOf (blH c v false (dsk c v 0) 0 0 [])
  |k+1,h=>h=blOf (blH c v true (dsk c v (k+1)) (Zt (dsk c v k)).1 (Zt (dsk c v k)).2.2 (lvL c v (k+1)))
def KNr (c:List Ins) (v:Env) (l k:Nat) (T:Fr thy) (h:Hp thy):Prop:=k+1<=dM c v/\fits E2 (AHR c v true (dsk c v (k+1)) (Zt (dsk c v k)).1 (Zt (dsk c v k)).2.2 (lvL c v (k+1))) 7 (frOf frO) h ()/\fitF ren7 T (frI l (k+1))
def KEr (c:List Ins) (v:Env) (k:Nat) (h:Hp thy):Prop:=k=dM c v/\fits E2 (AHR c v true (dsk c v k) (Zt (dsk c v k)).1 (Zt (dsk c v k)).2.2 (lvL c v (k+1))) 7 (frOf frO) h ()
theorem Zkj (c:List Ins) (v:Env) (b:Bool) (s:St) (a e:Int) (L:List (List Int)):DomLt (blOf (blH c v b s a e L)) 8:=by
  intro j hj
  obtain ⟨x,hx⟩:=Option.ne_none_iff_exists'.1 hj
  have:=Wi hx
  cases b<;>simp [blH] at this<;>omega
theorem Zzb {c:List Ins} {v:Env} (hv:(verF c).2=0) (hcl:c.length<=4096) (l k:Nat) (hk:k<=dM c v) (h:Hp thy) (hh:Z01 c v k h):
    DomLt h 8/\itC E2 cD itT o2p o2y o2s (frI l k) 46 (rfA rnF) (rfB rnF) [26,27] frO [3,6] l h (KNr c v l k) (KEr c v k) (fun _=>False):=by
  obtain ⟨d1,d2,d3,d4⟩:=Zgu (v:=v) hv
  have hst:=d3 k hk
  have hw:wr .i64 ((k:Int)+1)=((k+1:Nat):Int):=(wr64 (by omega) (by omega)).trans (by omega)
  have hrun:((dsk c v k).status==0)=true->k+1<=dM c v:=fun q=>by
    rcases Nat.lt_or_ge k (dM c v) with h|h
    · exact h
    · obtain rfl:k=dM c v:=by omega
      exact absurd (by simpa using q) d2
  have hend:((dsk c v k).status==0)=false->k=dM c v:=fun q=>by
    rcases Nat.lt_or_ge k (dM c v) with h|h
    · rw [(d4 k h).1] at q;cases q
    · omega
  cases k with
  |zero=>
    have hh:h=_:=hh
    subst hh
    refine ⟨Zkj _ _ _ _ _ _ _,(Zvi c v l 0 1 (dsk c v 0) (dsk c v 1) (Zt (dsk c v 0)).1 (Zt (dsk c v 0)).2.2 (lvL c v 1) (0+1<=dM c v) (0=dM c v) (fun _=>False)).mpr ⟨rfl,⟨by omega,by omega⟩,fun y hy=>⟨by omega,fun y1 hy1=>⟨fun q=>⟨trivial,fun y2 hy2=>⟨hrun q,?_⟩⟩,fun q=>⟨hend q,?_⟩⟩⟩⟩⟩
    · rw [(d4 0 (hrun q)).2.1] at hy2
      subst hy hy1 hy2
      simp [Zcs,n32x,lvL]
      exact wr64 (by decide) (by decide)
    · subst hy hy1
      simp [Zcs,n32x,lvL]
  |succ k=>
    have hh:h=_:=hh
    subst hh
    have hl:=Zbu c v (k+1)
    have hl2:=Zbu c v (k+1+1)
    refine ⟨Zkj _ _ _ _ _ _ _,(Zvj c v l (k+1) (k+1+1) (dsk c v (k+1)) (dsk c v (k+1+1)) (Zt (dsk c v k)).1 (Zt (dsk c v k)).2.2 (Zt (dsk c v (k+1))).1 (Zt (dsk c v (k+1))).2.2 (lvL c v (k+1)) (lvL c v (k+1+1)) (k+1+1<=dM c v) (k+1=dM c v) (fun _=>False)).mpr ⟨rfl,⟨by omega,by omega⟩,fun y hy=>⟨⟨Nat.le_refl _,Nat.zero_le _,by rw [hl];omega⟩,by omega,fun y1 hy1=>⟨fun q=>⟨trivial,fun y2 hy2=>⟨hrun q,?_⟩⟩,fun q=>⟨hend q,?_⟩⟩⟩⟩⟩
    · rw [(d4 (k+1) (hrun q)).2.1] at hy2
      subst hy hy1 hy2
      have e:lvL c v (k+1+1)=lvL c v (k+1)++ [n32 (Vg c v (dsk c v (k+1)))]:=Zcs c v (k+1)
      rw [List.take_length,hl,hl2,e,n32x]
      simp
      exact wr64 (by omega) (by omega)
    · subst hy hy1
      have e:lvL c v (k+1+1)=lvL c v (k+1)++ [n32 (Vg c v (dsk c v (k+1)))]:=Zcs c v (k+1)
      rw [List.take_length,hl,hl2,e,n32x]
      simp
end
section
open Go.RowKit
section
variable {Y:Thy} {E:Eng Y}
theorem Zpl {P:Program} {f:FuncId} {fn:Func} (hfn:P.funcs[f]? =some fn) (hnm:(fn.name== "runtime.NumGoroutine")=false) (hbn:fn.body.isNone=false) (args:Array Value) (w:World):(callFunc f args).run P w= .ok (.enter f args) w:=by
 simp only [callFunc,program,Sem.run,Sem.run_bind,Sem.run_pure,Result.andThen_ok,hfn,hnm,hbn,Bool.false_eq_true,if_false]
def seqs:List Code->Code->Code
 | [],c=>c
 |x::xs,c=> .seq x (seqs xs c)
theorem Zbb {n:Nat} {P:Program} {c:Code} {Q:Exit->Act->World->Prop}:∀(cs:List Code) {a:Act} {w:World},cs.foldr (fun c k a w=>c.wp P (Exit.then k fun _ _ _=>False) a w) (fun a w=>c.wpIn Fence.wide n P Q a w) a w->(seqs cs c).wpIn Fence.wide n P Q a w
 | [],a,w,h=>h
 |x::xs,a,w,h=>by
  refine wpIn_seq (wpIn_wide.2 (wp_mono h fun e a w he=> ?_))
  cases e with
  |normal=>exact Zbb xs he
  |_=>exact he.elim
def Zwn (E:Eng Y) (N:Nat) (cs:List Code) (V:Zd1 Y):Prop:=∀(T:Fr Y) (h:Hp Y) (i:Nat) (ms:List Nat) (K:Fr Y->Hp Y->Nat->List Nat->Prop),DomLt h i->V T h i ms K->
 ∃T' h' i' ms',K T' h' i' ms'/\i<=i'/\Dom h i h' i'/\(∃m,ms'=m++ms/\Yb h i i' m)/\
  ∀(B:Nat) (σ:Pl) (g:GH) (w:World) (a:Act) (Q:Act->World->Prop),Inv E B σ h g w->B<=w.heap.size->(∀b,i<=b->b<i'->σ b=none)->FrOk E σ g T a->a.tmps.size=N->
   (∀a' w',Aft E B N i i' ms' σ g w a.defers T' h' a' w'->Q a' w')->cs.foldr (fun c k a w=>c.wp E.P (Exit.then k fun _ _ _=>False) a w) Q a w
def finX (E:Eng Y) (rs:List ResultVar) (v:SV Y) (T:Fr Y) (h:Hp Y):Prop:=resN E T h rs (match Wd E T h rs with|some vs=>ret E h (Uf vs) v|none=>False)
def EndR (E:Eng Y) (B:Nat) (v:SV Y) (g0:GH) (w0:World) (en:Ending) (w':World):Prop:=
 ∃u,en= .returned u/\∃σ g h v',Inv E B σ h g w'/\Bel B g0 w0 g w'/\Den E σ g v' u/\ret E h v' v
theorem EndR.pure (hE:EngOk E) {v:SV Y} {g:GH} {w:World} {en:Ending} {w':World} (h:EndR E w.heap.size v g w en w'):∃u,en= .returned u/\∃g',Stp 0 0 [] σ0 g w σ0 g' w'/\Inv E w.heap.size σ0 hp0 g' w'/\Den E σ0 g' v u:=by
 obtain ⟨u,he,σ,g',h',v',hI',hB,hd,hr⟩:=h
 have hle:=Zgp (n:=w.heap.size) hI'
 refine ⟨u,he,allG g' w.heap.size w',⟨.refl _,fun b p h=> .inl h,hB.gle.trans hle,fun q o v hv=> ?_,fun q es hv=> ?_,fun q hq _=>hB.heap q hq,hB.size,hB.os,hB.tape,hB.output,(fun b q z h1 h2=>by cases h2)⟩,Zmk hI',?_⟩
 · have hv:(if w.heap.size<=q then w'.cell? ⟨q,o,none⟩ else g'.cell q o)=some v:=hv
   split at hv
   · exact .inr (.inl ‹_›)
   · rcases hB.gcnew q o v hv with h1|h1
     · exact .inl h1
     · exact .inr (.inl h1)
 · have hv:(if w.heap.size<=q then (match w'.heap[q]? with|some (.map es _)=>some es|_=>none) else g'.obj q)=some es:=hv
   split at hv
   · exact .inr ‹_›
   · rcases hB.gmnew q es hv with h1|h1
     · exact .inl h1
     · exact .inr h1
 · exact Zr0 hE hI' (Nat.le_refl _) hr hd
theorem Znd (hE:EngOk E) {fn:Func} {n B D:Nat} {v:SV Y} {g0:GH} {w0:World} {σ:Pl} {g:GH} {h:Hp Y} {T:Fr Y} {a:Act} {W:World} (hI:Inv E B σ h g W) (hb:Bel B g0 w0 g W) (hF:FrOk E σ g T a) (hK:finX E fn.results.toList v T h) (hBD:B<=D) (hD:W.heap[D]? =some (.deferred (some []))) (hd:a.defers= [{target:= .collected D,args:= #[]}]):
 bodyPostM Fence.wide n E.P fn (EndR E B v g0 w0) .ret a W:=by
 show LeavesInM Fence.wide n E.P fn a.tmps (EndR E B v g0 w0) a.defers .returning W
 rw [hd]
 unfold finX at hK
 obtain ⟨hrl,hK⟩:=Zbs hK
 split at hK
 · rename_i vs hvs
   have hI2:Inv E B σ h g (W.putObj D (.deferred none)):=Xg hI hD rfl (fun es c e=>by cases e) _
   obtain ⟨u,hu,hdu⟩:=Zd5 hE hI2 hF hrl hvs
   exact ⟨(by intro e;cases e),.inl ⟨D,_,rfl,run_takeDeferred hD,u,hu,u,rfl,σ,g,h,_,hI2,hb.trans (Bel.put g W hBD _),hdu,hK⟩⟩
 · exact hK.elim
theorem Ztx (hE:EngOk E) {fn:Func} {p9:Code} {V9:Zd1 Y} (hV9:Zwn E fn.ntmps [p9] V9) {n B D:Nat} {v:SV Y} {g0:GH} {w0:World} {σ:Pl} {g:GH} {h:Hp Y} {T:Fr Y} {a:Act} {W:World} (hdom:DomLt h 60) (hc:V9 T h 60 [] fun T h i ms=>finX E fn.results.toList v T h)
 (hI:Inv E B σ h g W) (hb:Bel B g0 w0 g W) (hBW:B<=W.heap.size) (hF:FrOk E σ g T a) (hz:a.tmps.size=fn.ntmps) (hfree:∀b,60<=b->σ b=none) (hBD:B<=D) (hD:W.heap[D]? =some (.deferred (some []))) (hd:a.defers= [{target:= .collected D,args:= #[]}]):
 (Code.seq p9 .ret).wpIn Fence.wide n E.P (bodyPostM Fence.wide n E.P fn (EndR E B v g0 w0)) a W:=by
 obtain ⟨T',h',i',ms',hK,hi,hDo,⟨m,rfl,hM⟩,t⟩:=hV9 T h 60 [] _ hdom hc
 refine Zbb [p9] (t B σ g W a _ hI hBW (fun b q1 _=>hfree b q1) hF hz ?_)
 rintro a' w' ⟨d1,z1,σ1,g1,hS,hI1,hF1⟩
 have hnn:=Zhl hI hD rfl (fun es c e=>by cases e)
 refine wpIn_ret (Znd hE hI1 (hb.trans (Bel.stp hS hI hBW)) hF1 hK hBD ?_ (d1.trans hd))
 refine (hS.heap D (Array.getElem?_eq_some_iff.1 hD).1 fun b hbm z hs=> ?_).trans hD
 rcases hM b (by simpa using hbm) with q|q
 · exact hnn (.inr (.inr ⟨b,z,q,hs⟩))
 · rw [hfree b q.1] at hs;cases hs
theorem Zty {n:Nat} {P:Program} {x y z:Code} {Q:Exit->Act->World->Prop} (cs:List Code) {a:Act} {w:World} (h:(cs++ [x]).foldr (fun c k a w=>c.wp P (Exit.then k fun _ _ _=>False) a w) (fun a w=>y.wpIn Fence.wide n P (Exit.then (fun a w=>z.wpIn Fence.wide n P Q a w) Q) a w) a w):(seqs cs (.seq (.seq x y) z)).wpIn Fence.wide n P Q a w:=by
 refine Zbb cs ?_
 rw [List.foldr_append] at h
 have e:∀a w,List.foldr (fun c k a w=>c.wp P (Exit.then k fun _ _ _=>False) a w) (fun a w=>y.wpIn Fence.wide n P (Exit.then (fun a w=>z.wpIn Fence.wide n P Q a w) Q) a w) [x] a w->(Code.seq (.seq x y) z).wpIn Fence.wide n P Q a w:=fun a w h=>wpIn_seq (Zbb [x] h)
 induction cs generalizing a w with
 |nil=>exact e a w h
 |cons c cs ih=>
  refine wp_mono h fun e a w he=> ?_
  cases e with
  |normal=>exact ih he
  |_=>exact he.elim
theorem Zha (hE:EngOk E) {f:FuncId} {fn:Func} (hf:E.P.funcs[f]? =some fn) {cs:List Code} {x y z:Code} (hb:fn.body=some (seqs cs (.seq (.seq x y) z))) {V:Zd1 Y} (hV:Zwn E fn.ntmps (cs++ [x]) V) {args:List (SV Y)} (hle:args.length<=fn.ntmps) {v:SV Y} {K:Fr Y->Hp Y->Nat->Prop}
 (hc:V (nthD args) hp0 0 [] fun T h i ms=>K T h i)
 (hrest:∀T h i,K T h i->∀(g0:GH) (w0:World) (σ:Pl) (g:GH) (W:World) (a:Act),Inv E w0.heap.size σ h g W->Bel w0.heap.size g0 w0 g W->w0.heap.size<=W.heap.size->FrOk E σ g T a->a.tmps.size=fn.ntmps->a.defers= []->(∀b,i<=b->σ b=none)->
  y.wpIn Fence.wide 1 E.P (Exit.then (fun a w=>z.wpIn Fence.wide 1 E.P (bodyPostM Fence.wide 1 E.P fn (EndR E w0.heap.size v g0 w0)) a w) (bodyPostM Fence.wide 1 E.P fn (EndR E w0.heap.size v g0 w0))) a W):PureC E f args v:=by
 intro g w vals hI hd
 obtain ⟨T',h',i',ms',hK,hi,hDo,⟨m,rfl,hM⟩,t⟩:=hV _ hp0 0 [] _ (fun b hb=>absurd rfl hb) hc
 have hcall:CallsIn Fence.wide 1 E.P f vals w (EndR E w.heap.size v g w):=by
  refine callsIn_of_wp_marks hf hb trivial (Zty cs (t w.heap.size σ0 g w _ _ hI (Nat.le_refl _) (fun _ _ _=>rfl) (Xa hd hle) (Xb hd hle) ?_))
  rintro a1 w1 ⟨d1,z1,σ1,g1,hS,hI1,hF1⟩
  refine hrest T' h' i' hK g w σ1 g1 w1 a1 hI1 (Bel.stp hS hI (Nat.le_refl _)) hS.size hF1 z1 d1 fun b hb=> ?_
  cases hq:σ1 b with
  |none=>rfl
  |some p=>
   rcases hS.snew b p hq with q|q
   · cases q
   · omega
 exact (callsIn_wide.1 hcall).mono fun en w' h=>h.pure hE
theorem Z1m {α:Type} {T:Nat->α} {d:Nat} {v:α}:upd T d v d=v:=by
 have hb:Nat.beq d d=true:=Nat.beq_refl d
 unfold upd
 rw [hb]
theorem Ztz {α:Type} {T:Nat->α} {d s:Nat} {v:α} (h:s≠d):upd T d v s=T s:=by
 have hb:Nat.beq s d=false:=by
  cases q:Nat.beq s d with
  |false=>rfl
  |true=>exact absurd (gC9 q) h
 unfold upd
 rw [hb]
theorem Zi4 {s:Nat}:∀{l:List (Nat×SV Y)},s∉l.map (·.1)->frOf l s= .unk
 | [],_=>rfl
 |(t,v)::r,h=>by
  have h1:s≠t:=fun e=>h (by simp [e])
  have h2:s∉r.map (·.1):=fun e=>h (by simp at e⊢;exact .inr e)
  show upd (frOf r) t v s=_
  rw [Ztz h1,Zi4 h2]
theorem Zfi (hE:EngOk E) {cD:Zr3 Y} (Xl:∀(o:Oper) T h i k,DomLt h i->step E cD o.op T h i k->∃r,k r/\OpTri2 E o T h i r) {V0 VT:Zd1 Y} {it0 it1 it4 it3:Code} (hV0:Zd2 E 36 it0 it1 V0) (hVT:Zd2 E 36 it4 it3 VT) {o2p o2s:List Oper} {o2y:Oper} {ts:Array TypeId}
 (Uy:o2y.op= .call {callee:= .value (.tmp 17),args:= #[.tmp 18,.tmp 19],argTypes:=ts}) (Uz:o2y.guard=some (2,true)) (Wq:o2y.dst=some 20) (Zen:((o2p++o2y::o2s).toArray[2]?).bind (·.dst)=some 16)
 {gf:FuncId} {fI:Func} (hfI0:E.P.funcs[gf]? =some fI) (hbody:fI.body=some (.seq it0 (.seq it1 (.block 0 (.loop (.seq (.seq (.region 2 (o2p++o2y::o2s).toArray false) (.cond (.tmp 26) .skip (.exit 0))) (.seq it4 it3))))))) (hnt:fI.ntmps=36) (hres:fI.results= #[]) (eg:∀args w,(callFunc gf args).run E.P w= .ok (.enter gf args) w)
 {fr:Nat->Nat->List (Nat×SV Y)} (hfI:∀l k,frOf (fr l k) 6= .int false .i64 (k:Int)) {assign body:Code} {p1 p2:Tmp} {A0:Ann Y} {x0:A0.X} (hA0:A0.ih=6/\A0.M=6) {frOut:List (Nat×SV Y)} {md:List Nat} {m:Nat} {K0:Nat->Fr Y->Hp Y->Prop} {KN:Nat->Nat->Fr Y->Hp Y->Prop} {KE KR:Nat->Hp Y->Prop}
 {f:FuncId} {fn:Func} (hf:E.P.funcs[f]? =some fn) {cs:List Code} {p5 p9:Code} {gs b1 b2:Nat} (hb:fn.body=some (seqs cs (.seq (.seq p5 (.block 0 (.rangeFunc (.tmp gs) #[p1,p2] assign body))) (.seq p9 .ret)))) (hp1:p1<fn.ntmps) (hp2:p2<fn.ntmps)
 {V V9:Zd1 Y} (hV:Zwn E fn.ntmps (cs++ [p5]) V) (hV9:Zwn E fn.ntmps [p9] V9) {args:List (SV Y)} (hle:args.length<=fn.ntmps) {v:SV Y}
 (hc:V (nthD args) hp0 0 [] fun T h i ms=>Wo i 6 (fits E A0 6 T h x0)) (hfr0:A0.fr x0=(gs,.fn (.func gf) [] [.ptr b1 0,.ptr b2 0])::frOut) (hgs:gs∉frOut.map (·.1))
 {headP:Nat->Hp Y->Prop} (hit:∀l k,k<=m->∀h,headP k h->DomLt h 8/\itC E cD VT o2p o2y o2s (fr l k) fn.ntmps assign body [p1,p2] frOut md l h (KN l k) (KE k) (KR k))
 (hdom0:DomLt (blOf (A0.bl x0)) 6) (hent:∀l,V0 (nthD [.val (.func (.yield l) #[] #[]),.ptr b1 0,.ptr b2 0]) (blOf (A0.bl x0)) 6 [] fun T h i ms=>i<=60/\K0 l T h)
 (hK0:∀a l T h,K0 l T h->∀(B:Nat) (σ:Pl) (g:GH) (W:World) (ai:Act),Inv E B σ h g W->FrOk E σ g T ai->FrOk E σ g (frOf frOut) a->∃σ' h',headP 0 h'/\StpL 7 60 md σ g W σ' g W/\Inv E B σ' h' g W/\FrOk E σ' g (frOf frOut) a/\FrOk E σ' g (frOf (fr l 0)) ai/\∀b,8<=b->b<60->σ' b=none)
 (hKN:∀a l k T h,k<=m->KN l k T h->k+1<=m/\∀(B:Nat) (σ:Pl) (g:GH) (W:World) (ai:Act),Inv E B σ h g W->FrOk E σ g T ai->FrOk E σ g (frOf frOut) a->∃σ' h',headP (k+1) h'/\StpL 7 60 md σ g W σ' g W/\Inv E B σ' h' g W/\FrOk E σ' g (frOf frOut) a/\FrOk E σ' g (frOf (fr l (k+1))) ai/\∀b,8<=b->b<60->σ' b=none)
 (hEnd:∀k h,k<=m->KE k h->∀(B:Nat) (σ:Pl) (g:GH) (W:World) (a:Act),Inv E B σ h g W->FrOk E σ g (frOf frOut) a->(∀b,60<=b->σ b=none)->∃σ' h',DomLt h' 60/\V9 (frOf frOut) h' 60 [] (fun T h i ms=>finX E fn.results.toList v T h)/\Inv E B σ' h' g W/\FrOk E σ' g (frOf frOut) a/\∀b,60<=b->σ' b=none)
 (hRet:∀k h,k<=m->KR k h->finX E fn.results.toList v (frOf frOut) h):PureC E f args v:=by
 refine Zha hE hf hb hV hle hc ?_
 rintro T h i hs g0 w0 σ g W a hI hbel hBW hF hz hd hfree
 obtain ⟨rfl,hfit⟩:=Y1 hs
 obtain ⟨σ1,q2,q3,q4,q6⟩:=Zc3 hE (A:=A0) (x:=x0) (by rw [hA0.1];exact Nat.le_refl 6) (by rw [hA0.1,hA0.2];exact Nat.le_refl 6) hfit hI hF
 rw [hA0.2] at q2
 rw [hfr0] at q4
 have hfree1:∀b,6<=b->σ1 b=none:=fun b hb=>(q2.out b (.inr hb)).trans (hfree b hb)
 have hFo:FrOk E σ1 g (frOf frOut) a:=fun t=>by
  by_cases c:t=gs
  · subst c
    have e:frOf frOut t= .unk:=Zi4 hgs
    rw [e];exact .unk _
  · have:=q4 t
    have e:frOf ((gs,.fn (.func gf) [] [.ptr b1 0,.ptr b2 0])::frOut) t=frOf frOut t:=by
     exact Ztz c
    rwa [e] at this
 have hT:frOf ((gs,.fn (.func gf) [] [.ptr b1 0,.ptr b2 0])::frOut) gs= .fn (.func gf) [] [.ptr b1 0,.ptr b2 0]:=Z1m
 refine wpIn_wide.2 (wpIn_wide.1 (wpIn_block (n:=1) (Zv8 hE Xl hV0 hVT Uy Uz Wq Zen hfI0 hbody hnt hres eg hfI hp1 hp2 hit hdom0 hent hT q3 hBW hbel hfree1 q4 hFo hz (fun l T h hk=>hK0 a l T h hk _) (fun l k T h hk hkn=>⟨(hKN a l k T h hk hkn).1,(hKN a l k T h hk hkn).2⟩) 1 _ ?_ ?_ ?_)))
 · rintro ⟨a,w,h⟩
   obtain ⟨u,hu,_⟩:=h
   cases hu
 · intro D W' k σ' g' h' hBD hk hke hI' hb' hB' hF' hfr' hD
   obtain ⟨σ2,h2,r1,r2,r3,r4,r5⟩:=hEnd k h' hk hke _ _ _ _ _ hI' hF' hfr'
   show (Code.seq p9 .ret).wpIn Fence.wide 1 E.P _ _ W'
   exact Ztx hE hV9 r1 r2 r3 hb' hB' r4 hz r5 hBD hD (by rw [hd])
 · intro D W' k σ' g' h' hBD hk hkr hI' hb' hB' hF' hfr' hD
   show bodyPostM Fence.wide 1 E.P fn _ .ret _ W'
   exact Znd hE hI' hb' hF' (hRet k h' hk hkr) hBD hD (by rw [hd])
end
end
section
open Go Go.RowKit
def rsR:List ResultVar:=Tryz.f8.results.toList
def drV (c:List Ins) (v:Env) (a e:Int) (L:List (List Int)):SV thy:= .agg (.psl .ins c false::Zxe v++ [.int false .i64 a,.int false .i64 e,.psl .digs L false])
theorem Zvy (c:List Ins) (v:Env) (s:St) (a e:Int) (L:List (List Int)):vcs FD 400 8 46 [rn9] (frOf frO) (blOf (blH c v true s a e L)) 60 [] (fun T h i ms=>finX E2 rsR (.tup [drV c v a e L,.int false .i64 0]) T h)=(
((c=c/\(false=true->false=true))/\Env.has v=Env.has v/\Env.v0 v=Env.v0 v/\Env.v1 v=Env.v1 v/\Env.v2 v=Env.v2 v/\Env.v3 v=Env.v3 v/\Env.v4 v=Env.v4 v/\Env.v5 v=Env.v5 v/\Env.v6 v=Env.v6 v/\Env.v7 v=Env.v7 v/\Env.v8 v=Env.v8 v/\Env.v9 v=Env.v9 v/\Env.v10 v=Env.v10 v/\Env.v11 v=Env.v11 v/\Env.v12 v=Env.v12 v/\Env.v13 v=Env.v13 v/\Env.v14 v=Env.v14 v/\Env.v15 v=Env.v15 v/\a=a/\e=e/\((0:Nat)+List.length L<=List.length L/\List.take (List.length L) L=L)/\True)/\(0:Int)=(0:Int)/\True):=by kernel_rfl
theorem Z06 (args:Array Value) (w:World):(callFunc (50:FuncId) args).run E2.P w= .ok (.enter (50:FuncId) args) w:=
 Zpl (fn:=Tryz.f50) rfl (by decide) rfl args w
def runV (c:List Ins) (v:Env):SV thy:=drV c v (Zt (dsk c v (dM c v))).1 (Zt (dsk c v (dM c v))).2.2 (lvL c v (dM c v+1))
theorem Z07:E2.P.funcs[(8:FuncId)]? =some Tryz.f8:=rfl
theorem Z08:E2.P.funcs[(50:FuncId)]? =some Tryz.f50:=rfl
theorem Zvz:Tryz.f8.body=some (seqs [rn0,rn1,rn4] (.seq (.seq rn5 (.block 0 (.rangeFunc (.tmp 25) #[26,27] (rfA rnF) (rfB rnF)))) (.seq rn9 .ret))):=congrArg some Z18
theorem Zsz:Tryz.f50.body=some (.seq it0 (.seq it1 (.block 0 (.loop (.seq (.seq (.region 2 (o2p++o2y::o2s).toArray false) (.cond (.tmp 26) .skip (.exit 0))) (.seq it4 it3)))))):=(congrArg some Z19).trans (by rw [Z0y])
theorem Zk7 {c:List Ins} {v:Env} {b:Bool} {s:St} {a e:Int} {L:List (List Int)} {h:Hp thy} (hf:fits E2 (AHR c v b s a e L) 7 (frOf frO) h ()) {B:Nat} {σ:Pl} {g:GH} {W:World} {ac:Act} (hI:Inv E2 B σ h g W) (hF:FrOk E2 σ g (frOf frO) ac):
 ∃σ',StpL 7 60 [3,6] σ g W σ' g W/\Inv E2 B σ' (blOf (blH c v b s a e L)) g W/\FrOk E2 σ' g (frOf frO) ac/\∀b,8<=b->b<60->σ' b=none:=
 Zc3 Zn (A:=AHR c v b s a e L) (x:=()) (by show 7<=8;omega) (by show 8<=60;omega) hf hI hF
theorem Zs0 {σ σ':Pl} {g:GH} {w:World} (h:StpL 7 60 [3,6] σ g w σ' g w):∀b c,ren7 b=some c->σ' b=σ c:=fun b c e=>by
 unfold ren7 at e
 split at e
 · rename_i q
   have:=Nat.le_of_ble_eq_true q
   cases e
   exact h.out b (.inl (by omega))
 · cases e
theorem Zs1 {c:List Ins} {v:Env} (hv:(verF c).2=0) (hcl:c.length<=4096):PureC E2 8 [.psl .ins c false,envV v] (.tup [runV c v,.int false .i64 0]):=by
 refine Zfi Zn (cD:=cD) Xl (V0:=fun T h i ms K=>vcs FD 400 50 36 [it0,it1] T h i ms K) (VT:=itT) (fun T h i ms K hD hk=>Zcb [it0,it1] 50 36 T h i ms K hD hk) Zw9 Uy Uz Wq Zen Z08 Zsz rfl rfl Z06 (fr:=frI) (fun _ _=>rfl) (A0:=A0R c v) (x0:=()) ⟨rfl,rfl⟩ (frOut:=frO) (md:= [3,6]) (m:=dM c v)
  (K0:=fun l T h=>fits E2 (AHR c v false (dsk c v 0) 0 0 []) 7 (frOf frO) h ()/\fitF ren7 T (frI l 0)) (KN:=KNr c v) (KE:=KEr c v) (KR:=fun _ _=>False) Z07 (b1:=4) (b2:=5) Zvz (by show (26:Nat)<46;decide) (by show (27:Nat)<46;decide)
  (V:=fun T h i ms K=>vcs FD 400 8 46 [rn0,rn1,rn4,rn5] T h i ms K) (V9:=fun T h i ms K=>vcs FD 400 8 46 [rn9] T h i ms K) (fun T h i ms K hD hk=>Zcb [rn0,rn1,rn4,rn5] 8 46 T h i ms K hD hk) (fun T h i ms K hD hk=>Zcb [rn9] 8 46 T h i ms K hD hk) (by show 2<=46;omega) ?_ rfl (by simp [frO]) (headP:=Z01 c v) (Zzb hv hcl) ?_ ?_ ?_ ?_ ?_ (fun _ _ _ h=>h.elim)
 · refine (Zvg c v).mpr ⟨trivial,fun y hy=>⟨fun q=> ?_,fun q=> ?_⟩⟩
   · subst hy
     exact absurd hv (by simpa using q)
   · simp
 · intro j hj
   obtain ⟨x,hx⟩:=Option.ne_none_iff_exists'.1 hj
   have:=Wi hx
   simp [A0R,blE] at this
   omega
 · refine fun l=>(Zvh c v l (dsk c v 0)).mpr ⟨trivial,fun y hy=> ?_⟩
   have hw:wr .i64 ((c.length:Int)+1)=(c.length:Int)+1:=wr64 (by omega) (by omega)
   rw [hw] at hy
   subst hy
   have hs:Za1 ((c.length:Int)+1)=(St.start ((c.length:Int)+1),0):=if_neg (by omega)
   rw [hs]
   simp [dsk,itF]
 · rintro a l T h ⟨k1,k2⟩ B σ g W ai hI hF hFo
   obtain ⟨σ',q1,q2,q3,q4⟩:=Zk7 k1 hI hFo
   exact ⟨σ',_,rfl,q1,q2,q3,Ub Zn (Zs0 q1) hF k2,q4⟩
 · rintro a l k T h hk ⟨k0,k1,k2⟩
   refine ⟨k0,fun B σ g W ai hI hF hFo=> ?_⟩
   obtain ⟨σ',q1,q2,q3,q4⟩:=Zk7 k1 hI hFo
   exact ⟨σ',_,rfl,q1,q2,q3,Ub Zn (Zs0 q1) hF k2,q4⟩
 · rintro k h hk ⟨rfl,k1⟩ B σ g W a hI hF hfr
   obtain ⟨σ',q1,q2,q3,q4⟩:=Zk7 k1 hI hF
   refine ⟨σ',_,fun b hb=> ?_,(Zvy c v _ _ _ _).mpr ?_,q2,q3,fun b hb=>(q1.out b (.inr hb)).trans (hfr b hb)⟩
   · have:=Zkj _ _ _ _ _ _ _ b hb
     omega
   · simp
end
section
open Go Go.RowKit
/-- a derivation -/
structure Drv where
  code:List Ins
  env:Env
  amount:Int
  err:Int
  leaves:List (List Int)
def drvV (d:Drv):SV thy:=drV d.code d.env d.amount d.err d.leaves
def sn0:Code:=sqA (V5 Tryz.f12)
def sn1:Code:=sqA (sqB (V5 Tryz.f12))
def sn4:Code:=sqA (sqA (sqB (sqB (V5 Tryz.f12))))
def snF:Code:=bkA (sqB (sqA (sqB (sqB (V5 Tryz.f12)))))
def sn9:Code:=sqA (sqB (sqB (sqB (V5 Tryz.f12))))
theorem Z2c:V5 Tryz.f12= .seq sn0 (.seq sn1 (.seq (.seq sn4 (.block 0 (.rangeFunc (.tmp 24) #[25,26] (rfA snF) (rfB snF)))) (.seq sn9 .ret))):=by kernel_rfl
def rsS:List ResultVar:=Tryz.f12.results.toList
def d0B (d:Drv):Blk thy:= .raw (.psl .ins d.code false:: .int false .i64 d.env.has:: .int false .i64 d.env.v0:: .int false .i64 d.env.v1:: .int false .i64 d.env.v2:: .int false .i64 d.env.v3:: .int false .i64 d.env.v4:: .int false .i64 d.env.v5:: .int false .i64 d.env.v6:: .int false .i64 d.env.v7:: .int false .i64 d.env.v8:: .int false .i64 d.env.v9:: .int false .i64 d.env.v10:: .int false .i64 d.env.v11:: .int false .i64 d.env.v12:: .int false .i64 d.env.v13:: .int false .i64 d.env.v14:: .int false .i64 d.env.v15:: .int false .i64 d.amount:: .int false .i64 d.err:: [.psl .digs d.leaves false]) 0 none
def zsB:Blk thy:= .raw [zI,zI,zI,zI,.val (.slice none 0 0)] 0 none
def blS (d:Drv) (i:Int):List (Nat×Blk thy):= [(0,d0B d),(1,.raw [.int false .i64 i] 0 none),(2,zsB),(3,.raw [zI] 0 none),(4,cB d.code),(5,envB d.env)]
def blSH (d:Drv) (i:Int) (s:St):List (Nat×Blk thy):= [(0,d0B d),(1,.raw [.int false .i64 i] 0 none),(2,zsB),(3,.raw [zI] 0 none),(4,cB d.code),(5,envB d.env),(6,sB s)]
def frS:List (Nat×SV thy):= [(2,.ptr 0 0),(3,.ptr 1 0),(4,.ptr 2 0),(5,.ptr 3 0)]
def A0S (d:Drv) (i:Int):Ann thy:={X:=Unit,fr:=fun _=>(24,.fn (.func 50) [] [.ptr 4 0,.ptr 5 0])::frS,bl:=fun _=>blS d i,src:=fun _=> [],md:= [],ih:=6,M:=6,meas:=fun _=>0}
def AHS (d:Drv) (i:Int) (s:St):Ann thy:={X:=Unit,fr:=fun _=>frS,bl:=fun _=>blSH d i s,src:=fun _=> [],md:= [2,3,6],ih:=8,M:=60,meas:=fun _=>0}
--@condg spre | (d : Drv) (i : Int) | vcs FD 400 12 32 [sn0, sn1, sn4] (nthD [drvV d, .int false .i64 i]) hp0 0 [] (fun T h j ms => Wo j 6 (fits E2 (A0S d i) 6 T h ()))
theorem Zs3 (d:Drv) (i:Int):vcs FD 400 12 32 [sn0,sn1,sn4] (nthD [drvV d,.int false .i64 i]) hp0 0 [] (fun T h j ms=>Wo j 6 (fits E2 (A0S d i) 6 T h ()))=(
  True/\∀(y:Int×Int),y=verF (Drv.code d)->((Prod.snd y !=(0:Int))=true->False)/\((Prod.snd y !=(0:Int))=false->((Fn.func (50:Nat)
  =Fn.func (50:FuncId)/\True/\(0:Nat)=(0:Nat)/\(0:Nat)=(0:Nat)/\True)/\(0:Nat)=(0:Nat)/\(0:Nat)=(0:Nat)/\(0:Nat)=(0
  :Nat)/\(0:Nat)=(0:Nat)/\True)/\((Drv.code d=Drv.code d/\(false=true->false=true))/\Env.has (Drv.env d)=Env.has (Drv.env d)/\Env.v0 (Drv.env d)=Env.v0
  (Drv.env d)/\Env.v1 (Drv.env d)=Env.v1 (Drv.env d)/\Env.v2 (Drv.env d)=Env.v2 (Drv.env d)/\Env.v3 (Drv.env d)=Env.v3 (Drv.env d)/\Env.v4 (Drv.env d)=Env.v4 (Drv.env d)
  /\Env.v5 (Drv.env d)=Env.v5 (Drv.env d)/\Env.v6 (Drv.env d)=Env.v6 (Drv.env d)/\Env.v7 (Drv.env d)=Env.v7 (Drv.env d)/\Env.v8 (Drv.env d)=Env.v8 (Drv.env d)/\Env.v9
  (Drv.env d)=Env.v9 (Drv.env d)/\Env.v10 (Drv.env d)=Env.v10 (Drv.env d)/\Env.v11 (Drv.env d)=Env.v11 (Drv.env d)/\Env.v12 (Drv.env d)=Env.v12 (Drv.env d)/\Env.v13
  (Drv.env d)=Env.v13 (Drv.env d)/\Env.v14 (Drv.env d)=Env.v14 (Drv.env d)/\Env.v15 (Drv.env d)=Env.v15 (Drv.env d)/\Drv.amount d=Drv.amount d/\Drv.err d=Drv.err d/\
  (Drv.leaves d=Drv.leaves d/\(false=true->false=true))/\True)/\(i=i/\True)/\((0:Int)=(0:Int)/\(0:Int)=(0:Int)/\(0:Int)=(0:Int)/\(0:Int)=(0:
  Int)/\Value.slice none (0:Nat) (0:Nat)=Value.slice none (0:Nat) (0:Nat)/\True)/\((0:Int)=(0:Int)/\True)/\((Drv.code d=Drv.code d/\(false=true->false=
  true))/\True)/\(Env.has (Drv.env d)=Env.has (Drv.env d)/\Env.v0 (Drv.env d)=Env.v0 (Drv.env d)/\Env.v1 (Drv.env d)=Env.v1 (Drv.env d)/\Env.v2 (Drv.env d)=Env.v2
  (Drv.env d)/\Env.v3 (Drv.env d)=Env.v3 (Drv.env d)/\Env.v4 (Drv.env d)=Env.v4 (Drv.env d)/\Env.v5 (Drv.env d)=Env.v5 (Drv.env d)/\Env.v6 (Drv.env d)=Env.v6 (Drv.env d)
  /\Env.v7 (Drv.env d)=Env.v7 (Drv.env d)/\Env.v8 (Drv.env d)=Env.v8 (Drv.env d)/\Env.v9 (Drv.env d)=Env.v9 (Drv.env d)/\Env.v10 (Drv.env d)=Env.v10 (Drv.env d)/\Env.v11
  (Drv.env d)=Env.v11 (Drv.env d)/\Env.v12 (Drv.env d)=Env.v12 (Drv.env d)/\Env.v13 (Drv.env d)=Env.v13 (Drv.env d)/\Env.v14 (Drv.env d)=Env.v14 (Drv.env d)/\Env.v15
  (Drv.env d)=Env.v15 (Drv.env d)/\True)/\True)
  ):=by kernel_rfl
--@end
--@condg sent | (d : Drv) (i : Int) (l : Nat) (s : St) | vcs FD 400 50 36 [it0, it1] (nthD [.val (.func (.yield l) #[] #[]), .ptr 4 0, .ptr 5 0]) (blOf (blS d i)) 6 [] (fun T h j ms => j ≤ 60 ∧ fits E2 (AHS d i s) 7 (frOf frS) h () ∧ fitF ren7 T (frI l 0))
theorem Zs4 (d:Drv) (i:Int) (l:Nat) (s:St):vcs FD 400 50 36 [it0,it1] (nthD [.val (.func (.yield l) #[] #[]),.ptr 4 0,.ptr 5 0]) (blOf (blS d i)) 6 [] (fun T h j ms=>j<=60/\fits E2 (AHS d i s) 7 (frOf frS) h ()/\fitF ren7 T (frI l 0))=(
  True/\∀(y:St×Int),y=Za1 (wr IntKind.i64 ((↑(List.length (Drv.code d)):Int)+(1:Int)))->(7:Nat)<=(60:Nat)/\(((0:Nat)=(0:Nat)/\(0:Nat)=(0:Nat)/\
  (0:Nat)=(0:Nat)/\(0:Nat)=(0:Nat)/\True)/\((Drv.code d=Drv.code d/\(false=true->false=true))/\Env.has (Drv.env d)=Env.has (Drv.env d)/\Env.v0 (Drv.env d)
  =Env.v0 (Drv.env d)/\Env.v1 (Drv.env d)=Env.v1 (Drv.env d)/\Env.v2 (Drv.env d)=Env.v2 (Drv.env d)/\Env.v3 (Drv.env d)=Env.v3 (Drv.env d)/\Env.v4 (Drv.env d)=Env.v4
  (Drv.env d)/\Env.v5 (Drv.env d)=Env.v5 (Drv.env d)/\Env.v6 (Drv.env d)=Env.v6 (Drv.env d)/\Env.v7 (Drv.env d)=Env.v7 (Drv.env d)/\Env.v8 (Drv.env d)=Env.v8 (Drv.env d)
  /\Env.v9 (Drv.env d)=Env.v9 (Drv.env d)/\Env.v10 (Drv.env d)=Env.v10 (Drv.env d)/\Env.v11 (Drv.env d)=Env.v11 (Drv.env d)/\Env.v12 (Drv.env d)=Env.v12 (Drv.env d)/\
  Env.v13 (Drv.env d)=Env.v13 (Drv.env d)/\Env.v14 (Drv.env d)=Env.v14 (Drv.env d)/\Env.v15 (Drv.env d)=Env.v15 (Drv.env d)/\Drv.amount d=Drv.amount d/\Drv.err d=
  Drv.err d/\(Drv.leaves d=Drv.leaves d/\(false=true->false=true))/\True)/\(i=i/\True)/\((0:Int)=(0:Int)/\(0:Int)=(0:Int)/\(0:Int)=(0:Int)/\(0:
  Int)=(0:Int)/\Value.slice none (0:Nat) (0:Nat)=Value.slice none (0:Nat) (0:Nat)/\True)/\((0:Int)=(0:Int)/\True)/\((Drv.code d=Drv.code d/\(false=true
  ->false=true))/\True)/\(Env.has (Drv.env d)=Env.has (Drv.env d)/\Env.v0 (Drv.env d)=Env.v0 (Drv.env d)/\Env.v1 (Drv.env d)=Env.v1 (Drv.env d)/\Env.v2 (Drv.env d)=
  Env.v2 (Drv.env d)/\Env.v3 (Drv.env d)=Env.v3 (Drv.env d)/\Env.v4 (Drv.env d)=Env.v4 (Drv.env d)/\Env.v5 (Drv.env d)=Env.v5 (Drv.env d)/\Env.v6 (Drv.env d)=Env.v6
  (Drv.env d)/\Env.v7 (Drv.env d)=Env.v7 (Drv.env d)/\Env.v8 (Drv.env d)=Env.v8 (Drv.env d)/\Env.v9 (Drv.env d)=Env.v9 (Drv.env d)/\Env.v10 (Drv.env d)=Env.v10 (Drv.env
  d)/\Env.v11 (Drv.env d)=Env.v11 (Drv.env d)/\Env.v12 (Drv.env d)=Env.v12 (Drv.env d)/\Env.v13 (Drv.env d)=Env.v13 (Drv.env d)/\Env.v14 (Drv.env d)=Env.v14 (Drv.env d)/\
  Env.v15 (Drv.env d)=Env.v15 (Drv.env d)/\True)/\(St.pc (Prod.fst y)=St.pc s/\St.fuel (Prod.fst y)=St.fuel s/\St.status (Prod.fst y)=St.status s/\St.clause (Prod.fst y)
  =St.clause s/\(St.stack (Prod.fst y)=St.stack s/\(false=true->false=true))/\True)/\True)/\Value.func (Fn.yield l) #[] #[]=Value.func (Fn.yield l) #[] #[]/\(0:Nat)
  =(0:Nat)/\(0:Nat)=(0:Nat)/\(0:Nat)=(0:Nat)/\Prod.snd y=(0:Int)/\(0:Int)=(↑(0:Nat):Int)/\True
  ):=by kernel_rfl
--@end
--@condg sit | (d : Drv) (i : Int) (l k k' : Nat) (s s' : St) (PN PE PR : Prop) | itC E2 cD itT o2p o2y o2s (frI l k) 32 (rfA snF) (rfB snF) [25, 26] frS [2, 3, 6] l (blOf (blSH d i s)) (fun T h => PN ∧ fits E2 (AHS d i s') 7 (frOf frS) h () ∧ fitF ren7 T (frI l k')) (fun h => PE ∧ fits E2 (AHS d i s) 7 (frOf frS) h ()) (fun h => PR ∧ finX E2 rsS (.tup [stV s, .int false .i64 0]) (frOf frS) h)
theorem Zv0 (d:Drv) (i:Int) (l k k':Nat) (s s':St) (PN PE PR:Prop):itC E2 cD itT o2p o2y o2s (frI l k) 32 (rfA snF) (rfB snF) [25,26] frS [2,3,6] l (blOf (blSH d i s)) (fun T h=>PN/\fits E2 (AHS d i s') 7 (frOf frS) h ()/\fitF ren7 T (frI l k')) (fun h=>PE/\fits E2 (AHS d i s) 7 (frOf frS) h ()) (fun h=>PR/\finX E2 rsS (.tup [stV s,.int false .i64 0]) (frOf frS) h)=(
  Value.func (Fn.yield l) #[] #[]=Value.func (Fn.yield l) #[] #[]/\(((↑k:Int)==i)=true->PR/\(St.pc s=St.pc s/\St.fuel s=St.fuel s/\St.status s=St.status s/\
  St.clause s=St.clause s/\(St.stack s=St.stack s/\(false=true->false=true))/\True)/\(0:Int)=(0:Int)/\True)/\(((↑k:Int)==i)=false->((St.status s==(0:
  Int))=true->True/\∀(y:St×Int),y=V3 (Drv.code d) (Drv.env d) s->PN/\(((0:Nat)=(0:Nat)/\(0:Nat)=(0:Nat)/\(0:Nat)=(0:Nat)/\(0:Nat)=(0:Nat)
  /\True)/\((Drv.code d=Drv.code d/\(false=true->false=true))/\Env.has (Drv.env d)=Env.has (Drv.env d)/\Env.v0 (Drv.env d)=Env.v0 (Drv.env d)/\Env.v1 (Drv.env d)=
  Env.v1 (Drv.env d)/\Env.v2 (Drv.env d)=Env.v2 (Drv.env d)/\Env.v3 (Drv.env d)=Env.v3 (Drv.env d)/\Env.v4 (Drv.env d)=Env.v4 (Drv.env d)/\Env.v5 (Drv.env d)=Env.v5
  (Drv.env d)/\Env.v6 (Drv.env d)=Env.v6 (Drv.env d)/\Env.v7 (Drv.env d)=Env.v7 (Drv.env d)/\Env.v8 (Drv.env d)=Env.v8 (Drv.env d)/\Env.v9 (Drv.env d)=Env.v9 (Drv.env d)
  /\Env.v10 (Drv.env d)=Env.v10 (Drv.env d)/\Env.v11 (Drv.env d)=Env.v11 (Drv.env d)/\Env.v12 (Drv.env d)=Env.v12 (Drv.env d)/\Env.v13 (Drv.env d)=Env.v13 (Drv.env d)/\
  Env.v14 (Drv.env d)=Env.v14 (Drv.env d)/\Env.v15 (Drv.env d)=Env.v15 (Drv.env d)/\Drv.amount d=Drv.amount d/\Drv.err d=Drv.err d/\(Drv.leaves d=Drv.leaves d/\(false
  =true->false=true))/\True)/\(i=i/\True)/\((0:Int)=(0:Int)/\(0:Int)=(0:Int)/\(0:Int)=(0:Int)/\(0:Int)=(0:Int)/\Value.slice none (0:Nat) (0:
  Nat)=Value.slice none (0:Nat) (0:Nat)/\True)/\((0:Int)=(0:Int)/\True)/\((Drv.code d=Drv.code d/\(false=true->false=true))/\True)/\(Env.has (Drv.env d)=
  Env.has (Drv.env d)/\Env.v0 (Drv.env d)=Env.v0 (Drv.env d)/\Env.v1 (Drv.env d)=Env.v1 (Drv.env d)/\Env.v2 (Drv.env d)=Env.v2 (Drv.env d)/\Env.v3 (Drv.env d)=Env.v3
  (Drv.env d)/\Env.v4 (Drv.env d)=Env.v4 (Drv.env d)/\Env.v5 (Drv.env d)=Env.v5 (Drv.env d)/\Env.v6 (Drv.env d)=Env.v6 (Drv.env d)/\Env.v7 (Drv.env d)=Env.v7 (Drv.env d)
  /\Env.v8 (Drv.env d)=Env.v8 (Drv.env d)/\Env.v9 (Drv.env d)=Env.v9 (Drv.env d)/\Env.v10 (Drv.env d)=Env.v10 (Drv.env d)/\Env.v11 (Drv.env d)=Env.v11 (Drv.env d)/\
  Env.v12 (Drv.env d)=Env.v12 (Drv.env d)/\Env.v13 (Drv.env d)=Env.v13 (Drv.env d)/\Env.v14 (Drv.env d)=Env.v14 (Drv.env d)/\Env.v15 (Drv.env d)=Env.v15 (Drv.env d)/\
  True)/\(St.pc (Prod.fst y)=St.pc s'/\St.fuel (Prod.fst y)=St.fuel s'/\St.status (Prod.fst y)=St.status s'/\St.clause (Prod.fst y)=St.clause s'/\(St.stack (Prod.fst y)
  =St.stack s'/\(false=true->false=true))/\True)/\True)/\Value.func (Fn.yield l) #[] #[]=Value.func (Fn.yield l) #[] #[]/\(0:Nat)=(0:Nat)/\(0:Nat)=(0:Nat)/\
  (0:Nat)=(0:Nat)/\Prod.snd y=(0:Int)/\wr IntKind.i64 ((↑k:Int)+(1:Int))=(↑k':Int)/\True)/\((St.status s==(0:Int))=false->PE/\((0:Nat)=(0:Nat)/\
  (0:Nat)=(0:Nat)/\(0:Nat)=(0:Nat)/\(0:Nat)=(0:Nat)/\True)/\((Drv.code d=Drv.code d/\(false=true->false=true))/\Env.has (Drv.env d)=Env.has (Drv.env
  d)/\Env.v0 (Drv.env d)=Env.v0 (Drv.env d)/\Env.v1 (Drv.env d)=Env.v1 (Drv.env d)/\Env.v2 (Drv.env d)=Env.v2 (Drv.env d)/\Env.v3 (Drv.env d)=Env.v3 (Drv.env d)/\Env.v4
  (Drv.env d)=Env.v4 (Drv.env d)/\Env.v5 (Drv.env d)=Env.v5 (Drv.env d)/\Env.v6 (Drv.env d)=Env.v6 (Drv.env d)/\Env.v7 (Drv.env d)=Env.v7 (Drv.env d)/\Env.v8 (Drv.env d)
  =Env.v8 (Drv.env d)/\Env.v9 (Drv.env d)=Env.v9 (Drv.env d)/\Env.v10 (Drv.env d)=Env.v10 (Drv.env d)/\Env.v11 (Drv.env d)=Env.v11 (Drv.env d)/\Env.v12 (Drv.env d)=
  Env.v12 (Drv.env d)/\Env.v13 (Drv.env d)=Env.v13 (Drv.env d)/\Env.v14 (Drv.env d)=Env.v14 (Drv.env d)/\Env.v15 (Drv.env d)=Env.v15 (Drv.env d)/\Drv.amount d=Drv.amount
  d/\Drv.err d=Drv.err d/\(Drv.leaves d=Drv.leaves d/\(false=true->false=true))/\True)/\(i=i/\True)/\((0:Int)=(0:Int)/\(0:Int)=(0:Int)/\(0:Int)=(0
  :Int)/\(0:Int)=(0:Int)/\Value.slice none (0:Nat) (0:Nat)=Value.slice none (0:Nat) (0:Nat)/\True)/\((0:Int)=(0:Int)/\True)/\((Drv.code d=Drv.code d/\
  (false=true->false=true))/\True)/\(Env.has (Drv.env d)=Env.has (Drv.env d)/\Env.v0 (Drv.env d)=Env.v0 (Drv.env d)/\Env.v1 (Drv.env d)=Env.v1 (Drv.env d)/\Env.v2
  (Drv.env d)=Env.v2 (Drv.env d)/\Env.v3 (Drv.env d)=Env.v3 (Drv.env d)/\Env.v4 (Drv.env d)=Env.v4 (Drv.env d)/\Env.v5 (Drv.env d)=Env.v5 (Drv.env d)/\Env.v6 (Drv.env d)
  =Env.v6 (Drv.env d)/\Env.v7 (Drv.env d)=Env.v7 (Drv.env d)/\Env.v8 (Drv.env d)=Env.v8 (Drv.env d)/\Env.v9 (Drv.env d)=Env.v9 (Drv.env d)/\Env.v10 (Drv.env d)=Env.v10
  (Drv.env d)/\Env.v11 (Drv.env d)=Env.v11 (Drv.env d)/\Env.v12 (Drv.env d)=Env.v12 (Drv.env d)/\Env.v13 (Drv.env d)=Env.v13 (Drv.env d)/\Env.v14 (Drv.env d)=Env.v14
  (Drv.env d)/\Env.v15 (Drv.env d)=Env.v15 (Drv.env d)/\True)/\(St.pc s=St.pc s/\St.fuel s=St.fuel s/\St.status s=St.status s/\St.clause s=St.clause s/\(St.stack s=
  St.stack s/\(false=true->false=true))/\True)/\True))
  ):=by kernel_rfl
--@end
--@condg sfin | (d : Drv) (i : Int) (s : St) | vcs FD 400 12 32 [sn9] (frOf frS) (blOf (blSH d i s)) 60 [] (fun T h i ms => finX E2 rsS (.tup [stV .zero, .int false .i64 1]) T h)
theorem Zs5 (d:Drv) (i:Int) (s:St):vcs FD 400 12 32 [sn9] (frOf frS) (blOf (blSH d i s)) 60 [] (fun T h i ms=>finX E2 rsS (.tup [stV .zero,.int false .i64 1]) T h)=(
  ((0:Int)=St.pc St.zero/\(0:Int)=St.fuel St.zero/\(0:Int)=St.status St.zero/\(0:Int)=St.clause St.zero/\St.stack St.zero= []/\True)/\(1:Int)=(1:Int)/\
  True
  ):=by kernel_rfl
--@end
--@condg sno | (d : Drv) (i : Int) | Zw E2 FD (vc E2 FD 400) 12 [drvV d, .int false .i64 i] hp0 0 (fun r => ret E2 (patch hp0 0 r) r.v (.tup [stV .zero, .int false .i64 (verF d.code).2]))
theorem Zv1 (d:Drv) (i:Int):Zw E2 FD (vc E2 FD 400) 12 [drvV d,.int false .i64 i] hp0 0 (fun r=>ret E2 (patch hp0 0 r) r.v (.tup [stV .zero,.int false .i64 (verF d.code).2]))=(
  True/\∀(y:Int×Int),y=verF (Drv.code d)->((Prod.snd y !=(0:Int))=true->((0:Int)=St.pc St.zero/\(0:Int)=St.fuel St.zero/\(0:Int)=St.status St.zero/\(0
  :Int)=St.clause St.zero/\St.stack St.zero= []/\True)/\Prod.snd y=Prod.snd (verF (Drv.code d))/\True)/\((Prod.snd y !=(0:Int))=false->False)
  ):=by kernel_rfl
--@end
/-- what State answers -/
def X3 (d:Drv) (i:Int):St×Int:=if (verF d.code).2=0 then (if 0<=i/\i<=dM d.code d.env then (dsk d.code d.env i.toNat,0) else (.zero,1)) else (.zero,(verF d.code).2)
def Z1a (d:Drv) (i:Int) (k:Nat) (h:Hp thy):Prop:=(∀j:Nat,j<k->(j:Int)≠i)/\h=blOf (blSH d i (dsk d.code d.env k))
def KNs (d:Drv) (i:Int) (l k:Nat) (T:Fr thy) (h:Hp thy):Prop:=(k+1<=dM d.code d.env/\∀j:Nat,j<k+1->(j:Int)≠i)/\fits E2 (AHS d i (dsk d.code d.env (k+1))) 7 (frOf frS) h ()/\fitF ren7 T (frI l (k+1))
def KEs (d:Drv) (i:Int) (k:Nat) (h:Hp thy):Prop:=(k=dM d.code d.env/\∀j:Nat,j<k+1->(j:Int)≠i)/\fits E2 (AHS d i (dsk d.code d.env k)) 7 (frOf frS) h ()
def KRs (d:Drv) (i:Int) (k:Nat) (h:Hp thy):Prop:=(k:Int)=i/\finX E2 rsS (.tup [stV (dsk d.code d.env k),.int false .i64 0]) (frOf frS) h
theorem Zm2 (d:Drv) (i:Int) (s:St):DomLt (blOf (blSH d i s)) 8:=by
  intro j hj
  obtain ⟨x,hx⟩:=Option.ne_none_iff_exists'.1 hj
  have:=Wi hx
  simp [blSH] at this
  omega
theorem Zs6 {d:Drv} (i:Int) (hv:(verF d.code).2=0) (hcl:d.code.length<=4096) (l k:Nat) (hk:k<=dM d.code d.env) (h:Hp thy) (hh:Z1a d i k h):
    DomLt h 8/\itC E2 cD itT o2p o2y o2s (frI l k) 32 (rfA snF) (rfB snF) [25,26] frS [2,3,6] l h (KNs d i l k) (KEs d i k) (KRs d i k):=by
  obtain ⟨d1,d2,d3,d4⟩:=Zgu (v:=d.env) hv
  have hw:wr .i64 ((k:Int)+1)=((k+1:Nat):Int):=(wr64 (by omega) (by omega)).trans (by omega)
  have hrun:((dsk d.code d.env k).status==0)=true->k+1<=dM d.code d.env:=fun q=>by
    rcases Nat.lt_or_ge k (dM d.code d.env) with h|h
    · exact h
    · obtain rfl:k=dM d.code d.env:=by omega
      exact absurd (by simpa using q) d2
  have hend:((dsk d.code d.env k).status==0)=false->k=dM d.code d.env:=fun q=>by
    rcases Nat.lt_or_ge k (dM d.code d.env) with h|h
    · rw [(d4 k h).1] at q;cases q
    · omega
  obtain ⟨hne,rfl⟩:=hh
  have hne':(((k:Int))==i)=false->∀j:Nat,j<k+1->(j:Int)≠i:=fun q j hj=>by
    rcases Nat.lt_or_ge j k with h|h
    · exact hne j h
    · obtain rfl:j=k:=by omega
      simpa using q
  refine ⟨Zm2 _ _ _,(Zv0 d i l k (k+1) (dsk d.code d.env k) (dsk d.code d.env (k+1)) (k+1<=dM d.code d.env/\∀j:Nat,j<k+1->(j:Int)≠i) (k=dM d.code d.env/\∀j:Nat,j<k+1->(j:Int)≠i) ((k:Int)=i)).mpr ⟨rfl,fun q=> ?_,fun q=>⟨fun q2=>⟨trivial,fun y hy=>⟨⟨hrun q2,hne' q⟩,?_⟩⟩,fun q2=>⟨⟨hend q2,hne' q⟩,?_⟩⟩⟩⟩
  · refine ⟨by simpa using q,?_⟩
    simp
  · rw [(d4 k (hrun q2)).2.1] at hy
    subst hy
    simp
    exact hw
  · simp
theorem Zk9 {d:Drv} {i:Int} {s:St} {h:Hp thy} (hf:fits E2 (AHS d i s) 7 (frOf frS) h ()) {B:Nat} {σ:Pl} {g:GH} {W:World} {ac:Act} (hI:Inv E2 B σ h g W) (hF:FrOk E2 σ g (frOf frS) ac):
    ∃σ',StpL 7 60 [2,3,6] σ g W σ' g W/\Inv E2 B σ' (blOf (blSH d i s)) g W/\FrOk E2 σ' g (frOf frS) ac/\∀b,8<=b->b<60->σ' b=none:=
  Zc3 Zn (A:=AHS d i s) (x:=()) (by show 7<=8;omega) (by show 8<=60;omega) hf hI hF
theorem Zm3 {σ σ':Pl} {g:GH} {w:World} (h:StpL 7 60 [2,3,6] σ g w σ' g w):∀b c,ren7 b=some c->σ' b=σ c:=fun b c e=>by
  unfold ren7 at e
  split at e
  · rename_i q
    have:=Nat.le_of_ble_eq_true q
    cases e
    exact h.out b (.inl (by omega))
  · cases e
theorem Zv2:E2.P.funcs[(12:FuncId)]? =some Tryz.f12:=rfl
theorem Zpc:Tryz.f12.body=some (seqs [sn0,sn1] (.seq (.seq sn4 (.block 0 (.rangeFunc (.tmp 24) #[25,26] (rfA snF) (rfB snF)))) (.seq sn9 .ret))):=congrArg some Z2c
theorem Zla {d:Drv} (i:Int) (hv:(verF d.code).2=0) (hcl:d.code.length<=4096):PureC E2 12 [drvV d,.int false .i64 i] (.tup [stV (X3 d i).1,.int false .i64 (X3 d i).2]):=by
  refine Zfi Zn (cD:=cD) Xl (V0:=fun T h i ms K=>vcs FD 400 50 36 [it0,it1] T h i ms K) (VT:=itT) (fun T h i ms K hD hk=>Zcb [it0,it1] 50 36 T h i ms K hD hk) Zw9 Uy Uz Wq Zen Z08 Zsz rfl rfl Z06 (fr:=frI) (fun _ _=>rfl) (A0:=A0S d i) (x0:=()) ⟨rfl,rfl⟩ (frOut:=frS) (md:= [2,3,6]) (m:=dM d.code d.env)
    (K0:=fun l T h=>fits E2 (AHS d i (dsk d.code d.env 0)) 7 (frOf frS) h ()/\fitF ren7 T (frI l 0)) (KN:=KNs d i) (KE:=KEs d i) (KR:=KRs d i) Zv2 (b1:=4) (b2:=5) Zpc (by show (25:Nat)<32;decide) (by show (26:Nat)<32;decide)
    (V:=fun T h i ms K=>vcs FD 400 12 32 [sn0,sn1,sn4] T h i ms K) (V9:=fun T h i ms K=>vcs FD 400 12 32 [sn9] T h i ms K) (fun T h i ms K hD hk=>Zcb [sn0,sn1,sn4] 12 32 T h i ms K hD hk) (fun T h i ms K hD hk=>Zcb [sn9] 12 32 T h i ms K hD hk) (by show 2<=32;omega) ?_ rfl (by simp [frS]) (headP:=Z1a d i) (Zs6 i hv hcl) ?_ ?_ ?_ ?_ ?_ ?_
  · refine (Zs3 d i).mpr ⟨trivial,fun y hy=>⟨fun q=> ?_,fun q=> ?_⟩⟩
    · subst hy
      exact absurd hv (by simpa using q)
    · simp
  · intro j hj
    obtain ⟨x,hx⟩:=Option.ne_none_iff_exists'.1 hj
    have:=Wi hx
    simp [A0S,blS] at this
    omega
  · refine fun l=>(Zs4 d i l (dsk d.code d.env 0)).mpr ⟨trivial,fun y hy=> ?_⟩
    have hw:wr .i64 ((d.code.length:Int)+1)=(d.code.length:Int)+1:=wr64 (by omega) (by omega)
    rw [hw] at hy
    subst hy
    have hs:Za1 ((d.code.length:Int)+1)=(St.start ((d.code.length:Int)+1),0):=if_neg (by omega)
    rw [hs]
    simp [dsk,itF]
  · rintro a l T h ⟨k1,k2⟩ B σ g W ai hI hF hFo
    obtain ⟨σ',q1,q2,q3,q4⟩:=Zk9 k1 hI hFo
    exact ⟨σ',_,⟨fun j hj=>absurd hj (Nat.not_lt_zero j),rfl⟩,q1,q2,q3,Ub Zn (Zm3 q1) hF k2,q4⟩
  · rintro a l k T h hk ⟨⟨k0,kn⟩,k1,k2⟩
    refine ⟨k0,fun B σ g W ai hI hF hFo=> ?_⟩
    obtain ⟨σ',q1,q2,q3,q4⟩:=Zk9 k1 hI hFo
    exact ⟨σ',_,⟨kn,rfl⟩,q1,q2,q3,Ub Zn (Zm3 q1) hF k2,q4⟩
  · rintro k h hk ⟨⟨rfl,kn⟩,k1⟩ B σ g W a hI hF hfr
    obtain ⟨σ',q1,q2,q3,q4⟩:=Zk9 k1 hI hF
    have e:X3 d i=(.zero,1):=by
      unfold X3
      rw [if_pos hv,if_neg]
      rintro ⟨z1,z2⟩
      exact kn i.toNat (by omega) (by omega)
    refine ⟨σ',_,fun b hb=> ?_,?_,q2,q3,fun b hb=>(q1.out b (.inr hb)).trans (hfr b hb)⟩
    · have:=Zm2 _ _ _ b hb
      omega
    · rw [e]
      exact (Zs5 d i _).mpr (by simp [St.zero])
  · rintro k h hk ⟨rfl,k1⟩
    have e:X3 d (k:Int)=(dsk d.code d.env k,0):=by
      unfold X3
      rw [if_pos hv,if_pos (by omega)]
      rfl
    rw [e]
    exact k1
/-- derive.State -/
theorem Zpd (d:Drv) (i:Int):PureC E2 12 [drvV d,.int false .i64 i] (.tup [stV (X3 d i).1,.int false .i64 (X3 d i).2]):=by
  by_cases hv:(verF d.code).2=0
  · obtain ⟨D,hc⟩:=V4 hv
    have h4:=hc.short
    exact Zla i hv (by omega)
  · have e:X3 d i=(.zero,(verF d.code).2):=if_neg hv
    rw [e]
    exact Zc Zn Zy2 ((Zv1 d i).mpr ⟨trivial,fun y hy=>⟨fun _=>by subst hy;simp [St.zero],fun q=>by
      subst hy
      exact hv (by simpa using q)⟩⟩)
end
section
open Go Go.RowKit
section
variable {Y:Thy} {E:Eng Y}
def dMap {α β:Type} (d:Dc E α) (f:α->β) (e:β->SV Y) (he:∀a,e (f a)=d.enc a):Dc E β where
  dec v:=(d.dec v).map f
  enc b:=e b
  ok v b h:=by
    obtain ⟨a,h1,rfl⟩:=Option.map_eq_some_iff.1 h
    rw [he]
    exact d.ok v a h1
end
def evZ:Env:=⟨0,0,0,0,0,0,0,0,0,0,0,0,0,0,0,0,0⟩
/-- what Run answers -/
def drF (c:List Ins) (v:Env):Drv×Int:=if (verF c).2=0 then (⟨c,v,(Zt (dsk c v (dM c v))).1,(Zt (dsk c v (dM c v))).2.2,lvL c v (dM c v+1)⟩,0) else (⟨[],evZ,0,0,[]⟩,(verF c).2)
--@condg noz | (c : List Ins) (v : Env) (z : Drv) | Zw E2 FD (vc E2 FD 400) 8 [.psl .ins c false, envV v] hp0 0 (fun r => ret E2 (patch hp0 0 r) r.v (.tup [drvV z, .int false .i64 (verF c).2]))
theorem Zv9 (c:List Ins) (v:Env) (z:Drv):Zw E2 FD (vc E2 FD 400) 8 [.psl .ins c false,envV v] hp0 0 (fun r=>ret E2 (patch hp0 0 r) r.v (.tup [drvV z,.int false .i64 (verF c).2]))=(
  True/\∀(y:Int×Int),y=verF c->((Prod.snd y !=(0:Int))=true->(Drv.code z= []/\(0:Int)=Env.has (Drv.env z)/\(0:Int)=Env.v0 (Drv.env z)/\(0:Int)=Env.v1
  (Drv.env z)/\(0:Int)=Env.v2 (Drv.env z)/\(0:Int)=Env.v3 (Drv.env z)/\(0:Int)=Env.v4 (Drv.env z)/\(0:Int)=Env.v5 (Drv.env z)/\(0:Int)=Env.v6 (Drv.env z)/\
  (0:Int)=Env.v7 (Drv.env z)/\(0:Int)=Env.v8 (Drv.env z)/\(0:Int)=Env.v9 (Drv.env z)/\(0:Int)=Env.v10 (Drv.env z)/\(0:Int)=Env.v11 (Drv.env z)/\(0:Int)=
  Env.v12 (Drv.env z)/\(0:Int)=Env.v13 (Drv.env z)/\(0:Int)=Env.v14 (Drv.env z)/\(0:Int)=Env.v15 (Drv.env z)/\(0:Int)=Drv.amount z/\(0:Int)=Drv.err z/\
  Drv.leaves z= []/\True)/\Prod.snd y=Prod.snd (verF c)/\True)/\((Prod.snd y !=(0:Int))=false->False)
  ):=by kernel_rfl
--@end
/-- derive.Run -/
theorem Zta (c:List Ins) (v:Env):PureC E2 8 [.psl .ins c false,envV v] (.tup [drvV (drF c v).1,.int false .i64 (drF c v).2]):=by
  by_cases hv:(verF c).2=0
  · obtain ⟨D,hc⟩:=V4 hv
    have h4:=hc.short
    have e:drF c v=(⟨c,v,(Zt (dsk c v (dM c v))).1,(Zt (dsk c v (dM c v))).2.2,lvL c v (dM c v+1)⟩,0):=if_pos hv
    rw [e]
    exact Zs1 hv (by omega)
  · have e:drF c v=(⟨[],evZ,0,0,[]⟩,(verF c).2):=if_neg hv
    rw [e]
    exact Zc Zn Zy2 ((Zv9 c v ⟨[],evZ,0,0,[]⟩).mpr ⟨trivial,fun y hy=>⟨fun _=>by subst hy;simp [evZ],fun q=>by
      subst hy
      exact hv (by simpa using q)⟩⟩)
def dI2:Dc E2 Int:=dInt (E:=E2) .i64
def Z2i:Dc E2 (List (List Int)):=(Zkl (E:=E2) Th.digs:Dc E2 (List (thy.dom Th.digs)))
def Z2j:DcL E2 (List Ins×Int×Int×Int×Int×Int×Int×Int×Int×Int×Int×Int×Int×Int×Int×Int×Int×Int×Int×Int×List (List Int)×Unit):= .cons (Zib E2) (.cons dI2 (.cons dI2 (.cons dI2 (.cons dI2 (.cons dI2 (.cons dI2 (.cons dI2 (.cons dI2 (.cons dI2 (.cons dI2 (.cons dI2 (.cons dI2 (.cons dI2 (.cons dI2 (.cons dI2 (.cons dI2 (.cons dI2 (.cons dI2 (.cons dI2 (.cons Z2i .nil))))))))))))))))))))
def dDrv:Dc E2 Drv:=dMap (dAgg Z2j) (fun a=>⟨a.1,⟨a.2.1,a.2.2.1,a.2.2.2.1,a.2.2.2.2.1,a.2.2.2.2.2.1,a.2.2.2.2.2.2.1,a.2.2.2.2.2.2.2.1,a.2.2.2.2.2.2.2.2.1,a.2.2.2.2.2.2.2.2.2.1,a.2.2.2.2.2.2.2.2.2.2.1,a.2.2.2.2.2.2.2.2.2.2.2.1,a.2.2.2.2.2.2.2.2.2.2.2.2.1,a.2.2.2.2.2.2.2.2.2.2.2.2.2.1,a.2.2.2.2.2.2.2.2.2.2.2.2.2.2.1,a.2.2.2.2.2.2.2.2.2.2.2.2.2.2.2.1,a.2.2.2.2.2.2.2.2.2.2.2.2.2.2.2.2.1,a.2.2.2.2.2.2.2.2.2.2.2.2.2.2.2.2.2.1⟩,a.2.2.2.2.2.2.2.2.2.2.2.2.2.2.2.2.2.2.1,a.2.2.2.2.2.2.2.2.2.2.2.2.2.2.2.2.2.2.2.1,a.2.2.2.2.2.2.2.2.2.2.2.2.2.2.2.2.2.2.2.2.1⟩) drvV (fun _=>rfl)
def Zwa:Sum thy:=Ut E2 gthV 10 (.cons (Zib E2) (.cons Zti .nil)) (fun _=>True) (fun x=>drF x.1 x.2.1) fun y=> .tup [drvV y.1,.int false .i64 y.2]
theorem Zg6:SumOk E2 8 Zwa:=Ym Zn (Zk rfl) fun x _=>Zta x.1 x.2.1
def Zlg:Sum thy:=Ut E2 gthV 10 (.cons dDrv (.cons dI2 .nil)) (fun _=>True) (fun x=>X3 x.1 x.2.1) fun y=> .tup [stV y.1,.int false .i64 y.2]
theorem Zfe:SumOk E2 12 Zlg:=Ym Zn (Zk rfl) fun x _=>Zpd x.1 x.2.1
def ACk:Fr thy->Hp thy->Nat->Ann thy:=fun T h i=>{X:=LX,fr:=fun x=> [(1,T 1),(4,T 4),(39,T 39),(40,T 40),(41,.int false .i64 x.k)],bl:=fun x=>blkP h (T 1)++blkP h (T 4),src:=fun _=> [],md:= [],ih:=i,M:=i+30,meas:=fun x=>x.r}
def FCk:Fns thy:=addL (addS F0 8 Zwa) 10 9 ACk E2
theorem Z1f:FnsOk E2 FCk:=Yt Zn (Zg Wj Zg6) _ _ _
--@cond check | 10 | E2:FCk | 400 | (d : Drv) (z : Int × Int) | [drvV d] | | .tup [.int false .i64 z.1, .int false .i64 z.2]
theorem Zph (d:Drv) (z:Int×Int):Zw E2 FCk (vc E2 FCk 400) 10 [drvV d] hp0 0 (fun r=>ret E2 (patch hp0 0 r) r.v (.tup [.int false .i64 z.1,.int false .i64 z.2]))=(
  (((↑(List.length (Drv.code d)):Int)==(0:Int))=true->∃(Q:Bool->Prop),((decide ((↑(List.length (Drv.leaves d)):Int)>(0:Int))=true->Q true)/\(decide
  ((↑(List.length (Drv.leaves d)):Int)>(0:Int))=false->((Drv.amount d !=(0:Int))=true->Q true)/\((Drv.amount d !=(0:Int))=false->((Drv.err d !=(220:Int))=
  true->Q true)/\((Drv.err d !=(220:Int))=false->Q false))))/\(Q true->(0:Int)=Prod.fst z/\(300:Int)=Prod.snd z/\True)/\(Q false->(0:Int)=Prod.fst z/\(0:
  Int)=Prod.snd z/\True))/\(((↑(List.length (Drv.code d)):Int)==(0:Int))=false->True/\∀(y:Drv×Int),y=drF (Drv.code d) (Drv.env d)->((Prod.snd y !=(0:Int))=
  true->(0:Int)=Prod.fst z/\Prod.snd y=Prod.snd z/\True)/\((Prod.snd y !=(0:Int))=false->∃(R:LX->Prop),(∃(x:LX),R x/\true=true/\((0:Nat)=(0:Nat)/\
  (0:Nat)=(0:Nat)/\(Drv.leaves (Prod.fst y)=Drv.leaves (Prod.fst y)/\(false=true->false=true))/\(↑(List.length (Drv.leaves (Prod.fst y))):Int)=(↑(List.length
  (Drv.leaves (Prod.fst y))):Int)/\(0:Int)=(↑(LX.k x):Int)/\True)/\((Drv.code d=Drv.code d/\(false=true->false=true))/\Env.has (Drv.env d)=Env.has (Drv.env d)/\
  Env.v0 (Drv.env d)=Env.v0 (Drv.env d)/\Env.v1 (Drv.env d)=Env.v1 (Drv.env d)/\Env.v2 (Drv.env d)=Env.v2 (Drv.env d)/\Env.v3 (Drv.env d)=Env.v3 (Drv.env d)/\Env.v4
  (Drv.env d)=Env.v4 (Drv.env d)/\Env.v5 (Drv.env d)=Env.v5 (Drv.env d)/\Env.v6 (Drv.env d)=Env.v6 (Drv.env d)/\Env.v7 (Drv.env d)=Env.v7 (Drv.env d)/\Env.v8 (Drv.env d)
  =Env.v8 (Drv.env d)/\Env.v9 (Drv.env d)=Env.v9 (Drv.env d)/\Env.v10 (Drv.env d)=Env.v10 (Drv.env d)/\Env.v11 (Drv.env d)=Env.v11 (Drv.env d)/\Env.v12 (Drv.env d)=
  Env.v12 (Drv.env d)/\Env.v13 (Drv.env d)=Env.v13 (Drv.env d)/\Env.v14 (Drv.env d)=Env.v14 (Drv.env d)/\Env.v15 (Drv.env d)=Env.v15 (Drv.env d)/\Drv.amount d=Drv.amount
  d/\Drv.err d=Drv.err d/\(Drv.leaves d=Drv.leaves d/\(false=true->false=true))/\True)/\((Drv.code (Prod.fst y)=Drv.code (Prod.fst y)/\(false=true->false=true))
  /\Env.has (Drv.env (Prod.fst y))=Env.has (Drv.env (Prod.fst y))/\Env.v0 (Drv.env (Prod.fst y))=Env.v0 (Drv.env (Prod.fst y))/\Env.v1 (Drv.env (Prod.fst y))=Env.v1 (Drv.env
  (Prod.fst y))/\Env.v2 (Drv.env (Prod.fst y))=Env.v2 (Drv.env (Prod.fst y))/\Env.v3 (Drv.env (Prod.fst y))=Env.v3 (Drv.env (Prod.fst y))/\Env.v4 (Drv.env (Prod.fst y))=
  Env.v4 (Drv.env (Prod.fst y))/\Env.v5 (Drv.env (Prod.fst y))=Env.v5 (Drv.env (Prod.fst y))/\Env.v6 (Drv.env (Prod.fst y))=Env.v6 (Drv.env (Prod.fst y))/\Env.v7 (Drv.env
  (Prod.fst y))=Env.v7 (Drv.env (Prod.fst y))/\Env.v8 (Drv.env (Prod.fst y))=Env.v8 (Drv.env (Prod.fst y))/\Env.v9 (Drv.env (Prod.fst y))=Env.v9 (Drv.env (Prod.fst y))/\
  Env.v10 (Drv.env (Prod.fst y))=Env.v10 (Drv.env (Prod.fst y))/\Env.v11 (Drv.env (Prod.fst y))=Env.v11 (Drv.env (Prod.fst y))/\Env.v12 (Drv.env (Prod.fst y))=Env.v12
  (Drv.env (Prod.fst y))/\Env.v13 (Drv.env (Prod.fst y))=Env.v13 (Drv.env (Prod.fst y))/\Env.v14 (Drv.env (Prod.fst y))=Env.v14 (Drv.env (Prod.fst y))/\Env.v15 (Drv.env
  (Prod.fst y))=Env.v15 (Drv.env (Prod.fst y))/\Drv.amount (Prod.fst y)=Drv.amount (Prod.fst y)/\Drv.err (Prod.fst y)=Drv.err (Prod.fst y)/\(Drv.leaves (Prod.fst y)=
  Drv.leaves (Prod.fst y)/\(false=true->false=true))/\True)/\True)/\∀(x:LX),R x->(decide ((↑(LX.k x):Int)<(↑(List.length (Drv.leaves (Prod.fst y))):Int))=true->
  (0:Int)<=(↑(LX.k x):Int)/\(↑(LX.k x):Int)+(1:Int)<=(↑(List.length (Drv.leaves (Prod.fst y))):Int)/\∀(x_1:List Int),(Drv.leaves (Prod.fst y))[Int.toNat (↑(LX.k
  x):Int)]? =some x_1->(decide ((↑(LX.k x):Int)>=(↑(List.length (Drv.leaves d)):Int))=true->(↑(LX.k x):Int)=Prod.fst z/\(300:Int)=Prod.snd z/\True)/\(decide
  ((↑(LX.k x):Int)>=(↑(List.length (Drv.leaves d)):Int))=false->(0:Int)<=(↑(LX.k x):Int)/\(↑(LX.k x):Int)+(1:Int)<=(↑(List.length (Drv.leaves d)):Int)/\∀(x_2
  :List Int),(Drv.leaves d)[Int.toNat (↑(LX.k x):Int)]? =some x_2->∀(v:Bool),v= !(List.getD x_2 (0:Nat) (0:Int)==List.getD x_1 (0:Nat) (0:Int)&&(List.getD x_2
  (1:Nat) (0:Int)==List.getD x_1 (1:Nat) (0:Int)&&(List.getD x_2 (2:Nat) (0:Int)==List.getD x_1 (2:Nat) (0:Int)&&(List.getD x_2 (3:Nat) (0:Int)==
  List.getD x_1 (3:Nat) (0:Int)&&(List.getD x_2 (4:Nat) (0:Int)==List.getD x_1 (4:Nat) (0:Int)&&(List.getD x_2 (5:Nat) (0:Int)==List.getD x_1 (5:Nat) (0:
  Int)&&(List.getD x_2 (6:Nat) (0:Int)==List.getD x_1 (6:Nat) (0:Int)&&(List.getD x_2 (7:Nat) (0:Int)==List.getD x_1 (7:Nat) (0:Int)&&(List.getD x_2 (8:
  Nat) (0:Int)==List.getD x_1 (8:Nat) (0:Int)&&(List.getD x_2 (9:Nat) (0:Int)==List.getD x_1 (9:Nat) (0:Int)&&(List.getD x_2 (10:Nat) (0:Int)==List.getD
  x_1 (10:Nat) (0:Int)&&(List.getD x_2 (11:Nat) (0:Int)==List.getD x_1 (11:Nat) (0:Int)&&(List.getD x_2 (12:Nat) (0:Int)==List.getD x_1 (12:Nat) (0:Int)
  &&(List.getD x_2 (13:Nat) (0:Int)==List.getD x_1 (13:Nat) (0:Int)&&(List.getD x_2 (14:Nat) (0:Int)==List.getD x_1 (14:Nat) (0:Int)&&(List.getD x_2 (15:
  Nat) (0:Int)==List.getD x_1 (15:Nat) (0:Int)&&(List.getD x_2 (16:Nat) (0:Int)==List.getD x_1 (16:Nat) (0:Int)&&(List.getD x_2 (17:Nat) (0:Int)==
  List.getD x_1 (17:Nat) (0:Int)&&(List.getD x_2 (18:Nat) (0:Int)==List.getD x_1 (18:Nat) (0:Int)&&(List.getD x_2 (19:Nat) (0:Int)==List.getD x_1 (19:Nat)
  (0:Int)&&(List.getD x_2 (20:Nat) (0:Int)==List.getD x_1 (20:Nat) (0:Int)&&(List.getD x_2 (21:Nat) (0:Int)==List.getD x_1 (21:Nat) (0:Int)&&(List.getD
  x_2 (22:Nat) (0:Int)==List.getD x_1 (22:Nat) (0:Int)&&(List.getD x_2 (23:Nat) (0:Int)==List.getD x_1 (23:Nat) (0:Int)&&(List.getD x_2 (24:Nat) (0:Int)
  ==List.getD x_1 (24:Nat) (0:Int)&&(List.getD x_2 (25:Nat) (0:Int)==List.getD x_1 (25:Nat) (0:Int)&&(List.getD x_2 (26:Nat) (0:Int)==List.getD x_1 (26:
  Nat) (0:Int)&&(List.getD x_2 (27:Nat) (0:Int)==List.getD x_1 (27:Nat) (0:Int)&&(List.getD x_2 (28:Nat) (0:Int)==List.getD x_1 (28:Nat) (0:Int)&&
  (List.getD x_2 (29:Nat) (0:Int)==List.getD x_1 (29:Nat) (0:Int)&&(List.getD x_2 (30:Nat) (0:Int)==List.getD x_1 (30:Nat) (0:Int)&&(List.getD x_2 (31:Nat)
  (0:Int)==List.getD x_1 (31:Nat) (0:Int)&&true))))))))))))))))))))))))))))))))->(v=true->(↑(LX.k x):Int)=Prod.fst z/\(300:Int)=Prod.snd z/\True)/\(v=false
  ->∃(x_3:LX),R x_3/\x_3.2+(1:Nat)<=x.2/\true=true/\((0:Nat)=(0:Nat)/\(0:Nat)=(0:Nat)/\(Drv.leaves (Prod.fst y)=Drv.leaves (Prod.fst y)/\(false=true
  ->false=true))/\(↑(List.length (Drv.leaves (Prod.fst y))):Int)=(↑(List.length (Drv.leaves (Prod.fst y))):Int)/\wr IntKind.i64 ((↑(LX.k x):Int)+(1:Int))=(↑(LX.k
  x_3):Int)/\True)/\((Drv.code d=Drv.code d/\(false=true->false=true))/\Env.has (Drv.env d)=Env.has (Drv.env d)/\Env.v0 (Drv.env d)=Env.v0 (Drv.env d)/\Env.v1
  (Drv.env d)=Env.v1 (Drv.env d)/\Env.v2 (Drv.env d)=Env.v2 (Drv.env d)/\Env.v3 (Drv.env d)=Env.v3 (Drv.env d)/\Env.v4 (Drv.env d)=Env.v4 (Drv.env d)/\Env.v5 (Drv.env d)
  =Env.v5 (Drv.env d)/\Env.v6 (Drv.env d)=Env.v6 (Drv.env d)/\Env.v7 (Drv.env d)=Env.v7 (Drv.env d)/\Env.v8 (Drv.env d)=Env.v8 (Drv.env d)/\Env.v9 (Drv.env d)=Env.v9
  (Drv.env d)/\Env.v10 (Drv.env d)=Env.v10 (Drv.env d)/\Env.v11 (Drv.env d)=Env.v11 (Drv.env d)/\Env.v12 (Drv.env d)=Env.v12 (Drv.env d)/\Env.v13 (Drv.env d)=Env.v13
  (Drv.env d)/\Env.v14 (Drv.env d)=Env.v14 (Drv.env d)/\Env.v15 (Drv.env d)=Env.v15 (Drv.env d)/\Drv.amount d=Drv.amount d/\Drv.err d=Drv.err d/\(Drv.leaves d=
  Drv.leaves d/\(false=true->false=true))/\True)/\((Drv.code (Prod.fst y)=Drv.code (Prod.fst y)/\(false=true->false=true))/\Env.has (Drv.env (Prod.fst y))=Env.has
  (Drv.env (Prod.fst y))/\Env.v0 (Drv.env (Prod.fst y))=Env.v0 (Drv.env (Prod.fst y))/\Env.v1 (Drv.env (Prod.fst y))=Env.v1 (Drv.env (Prod.fst y))/\Env.v2 (Drv.env (Prod.fst
  y))=Env.v2 (Drv.env (Prod.fst y))/\Env.v3 (Drv.env (Prod.fst y))=Env.v3 (Drv.env (Prod.fst y))/\Env.v4 (Drv.env (Prod.fst y))=Env.v4 (Drv.env (Prod.fst y))/\Env.v5
  (Drv.env (Prod.fst y))=Env.v5 (Drv.env (Prod.fst y))/\Env.v6 (Drv.env (Prod.fst y))=Env.v6 (Drv.env (Prod.fst y))/\Env.v7 (Drv.env (Prod.fst y))=Env.v7 (Drv.env (Prod.fst
  y))/\Env.v8 (Drv.env (Prod.fst y))=Env.v8 (Drv.env (Prod.fst y))/\Env.v9 (Drv.env (Prod.fst y))=Env.v9 (Drv.env (Prod.fst y))/\Env.v10 (Drv.env (Prod.fst y))=Env.v10
  (Drv.env (Prod.fst y))/\Env.v11 (Drv.env (Prod.fst y))=Env.v11 (Drv.env (Prod.fst y))/\Env.v12 (Drv.env (Prod.fst y))=Env.v12 (Drv.env (Prod.fst y))/\Env.v13 (Drv.env
  (Prod.fst y))=Env.v13 (Drv.env (Prod.fst y))/\Env.v14 (Drv.env (Prod.fst y))=Env.v14 (Drv.env (Prod.fst y))/\Env.v15 (Drv.env (Prod.fst y))=Env.v15 (Drv.env (Prod.fst y))/\
  Drv.amount (Prod.fst y)=Drv.amount (Prod.fst y)/\Drv.err (Prod.fst y)=Drv.err (Prod.fst y)/\(Drv.leaves (Prod.fst y)=Drv.leaves (Prod.fst y)/\(false=true->false=
  true))/\True)/\True)))/\(decide ((↑(LX.k x):Int)<(↑(List.length (Drv.leaves (Prod.fst y))):Int))=false->(decide ((↑(List.length (Drv.leaves d)):Int)>(↑(List.length
  (Drv.leaves (Prod.fst y))):Int))=true->(↑(List.length (Drv.leaves (Prod.fst y))):Int)=Prod.fst z/\(300:Int)=Prod.snd z/\True)/\(decide ((↑(List.length (Drv.leaves
  d)):Int)>(↑(List.length (Drv.leaves (Prod.fst y))):Int))=false->((Drv.amount d !=Drv.amount (Prod.fst y))=true->wr IntKind.i64 ((↑(List.length (Drv.leaves (Prod.fst
  y))):Int)-(1:Int))=Prod.fst z/\(300:Int)=Prod.snd z/\True)/\((Drv.amount d !=Drv.amount (Prod.fst y))=false->((Drv.err d !=Drv.err (Prod.fst y))=true->wr
  IntKind.i64 ((↑(List.length (Drv.leaves (Prod.fst y))):Int)-(1:Int))=Prod.fst z/\(300:Int)=Prod.snd z/\True)/\((Drv.err d !=Drv.err (Prod.fst y))=false->(0:
  Int)=Prod.fst z/\(0:Int)=Prod.snd z/\True))))))
  ):=by kernel_rfl
--@end
theorem Zwb (a b:List Int):(List.getD a 0 0==List.getD b 0 0&&(List.getD a 1 0==List.getD b 1 0&&(List.getD a 2 0==List.getD b 2 0&&(List.getD a 3 0==List.getD b 3 0&&(List.getD a 4 0==List.getD b 4 0&&(List.getD a 5 0==List.getD b 5 0&&(List.getD a 6 0==List.getD b 6 0&&(List.getD a 7 0==List.getD b 7 0&&(List.getD a 8 0==List.getD b 8 0&&(List.getD a 9 0==List.getD b 9 0&&(List.getD a 10 0==List.getD b 10 0&&(List.getD a 11 0==List.getD b 11 0&&(List.getD a 12 0==List.getD b 12 0&&(List.getD a 13 0==List.getD b 13 0&&(List.getD a 14 0==List.getD b 14 0&&(List.getD a 15 0==List.getD b 15 0&&(List.getD a 16 0==List.getD b 16 0&&(List.getD a 17 0==List.getD b 17 0&&(List.getD a 18 0==List.getD b 18 0&&(List.getD a 19 0==List.getD b 19 0&&(List.getD a 20 0==List.getD b 20 0&&(List.getD a 21 0==List.getD b 21 0&&(List.getD a 22 0==List.getD b 22 0&&(List.getD a 23 0==List.getD b 23 0&&(List.getD a 24 0==List.getD b 24 0&&(List.getD a 25 0==List.getD b 25 0&&(List.getD a 26 0==List.getD b 26 0&&(List.getD a 27 0==List.getD b 27 0&&(List.getD a 28 0==List.getD b 28 0&&(List.getD a 29 0==List.getD b 29 0&&(List.getD a 30 0==List.getD b 30 0&&(List.getD a 31 0==List.getD b 31 0&&(true)))))))))))))))))))))))))))))))))=decide (n32 a=n32 b):=by
  rw [Bool.eq_iff_iff]
  simp only [n32x,List.cons.injEq,decide_eq_true_eq,Bool.and_eq_true,beq_iff_eq,and_true]
/-- the first of the leaves R that is not in its place in L -/
def X1:List (List Int)->List (List Int)->Nat->Option Nat
  | [],_,_=>none
  |x::r,[],k=>some k
  |x::r,y::l,k=>if n32 y=n32 x then X1 r l (k+1) else some k
theorem Zix {R L:List (List Int)} {k:Nat} {x y:List Int} (h1:R[k]? =some x) (h2:L[k]? =some y):X1 (R.drop k) (L.drop k) k=if n32 y=n32 x then X1 (R.drop (k+1)) (L.drop (k+1)) (k+1) else some k:=by
  obtain ⟨a1,e1⟩:=gA9.1 h1
  obtain ⟨a2,e2⟩:=gA9.1 h2
  rw [List.drop_eq_getElem_cons a1,List.drop_eq_getElem_cons a2,e1,e2]
  rfl
theorem Zpi {R L:List (List Int)} {k:Nat} {x:List Int} (h1:R[k]? =some x) (h2:L.length<=k):X1 (R.drop k) (L.drop k) k=some k:=by
  obtain ⟨a1,e1⟩:=gA9.1 h1
  rw [List.drop_eq_getElem_cons a1,List.drop_of_length_le h2]
  rfl
theorem Zwc {R L:List (List Int)} {k:Nat} (h1:R.length<=k):X1 (R.drop k) (L.drop k) k=none:=by
  rw [List.drop_of_length_le h1]
  rfl
/-- what Check answers -/
def Zm (d:Drv):Int×Int:=
  if d.code= [] then (if 0<d.leaves.length\/d.amount≠0\/d.err≠220 then (0,300) else (0,0))
  else if (drF d.code d.env).2≠0 then (0,(drF d.code d.env).2)
  else match X1 (drF d.code d.env).1.leaves d.leaves 0 with
    |some k=>((k:Int),300)
    |none=>if (drF d.code d.env).1.leaves.length<d.leaves.length then (((drF d.code d.env).1.leaves.length:Int),300)
      else if d.amount≠(drF d.code d.env).1.amount\/d.err≠(drF d.code d.env).1.err then (((drF d.code d.env).1.leaves.length:Int)-1,300)
      else (0,0)
theorem Zzq {c:List Ins} {v:Env} (h:(drF c v).2=0):1<=(drF c v).1.leaves.length/\(drF c v).1.leaves.length<=4097/\(drF c v).1.leaves.length<=c.length+1:=by
  by_cases hv:(verF c).2=0
  · obtain ⟨D,hc⟩:=V4 hv
    have h4:=hc.short
    have h5:=(Zgu (v:=v) hv).1
    unfold drF
    rw [if_pos hv]
    show 1<=(lvL c v (dM c v+1)).length/\(lvL c v (dM c v+1)).length<=4097/\(lvL c v (dM c v+1)).length<=c.length+1
    rw [Zbu]
    omega
  · unfold drF at h
    rw [if_neg hv] at h
    exact absurd h hv
/-- derive.Check -/
theorem Zlh (d:Drv):PureC E2 10 [drvV d] (.tup [.int false .i64 (Zm d).1,.int false .i64 (Zm d).2]):=by
  refine Zc Zn (Zh Zn Z1f 400) ?_
  rw [Zph d (Zm d)]
  refine ⟨fun h0=> ?_,fun h0=>⟨trivial,fun y hy=>⟨fun h1=> ?_,fun h1=> ?_⟩⟩⟩
  · have hc:d.code= []:=by simpa using h0
    refine ⟨fun b=>b=decide (0<d.leaves.length\/d.amount≠0\/d.err≠220),⟨fun a1=> ?_,fun a1=>⟨fun a2=> ?_,fun a2=>⟨fun a3=> ?_,fun a3=> ?_⟩⟩⟩,fun q=> ?_,fun q=> ?_⟩
    · simp only [decide_eq_true_eq] at a1
      exact (decide_eq_true (.inl (by omega))).symm
    · exact (decide_eq_true (.inr (.inl (by simpa using a2)))).symm
    · exact (decide_eq_true (.inr (.inr (by simpa using a3)))).symm
    · simp only [decide_eq_false_iff_not,bne_eq_false_iff_eq] at a1 a2 a3
      refine (decide_eq_false ?_).symm
      rintro (h|h|h)
      · omega
      · exact h a2
      · exact h a3
    · have e:Zm d=(0,300):=by
        unfold Zm
        rw [if_pos hc,if_pos (of_decide_eq_true q.symm)]
      rw [e]
      exact ⟨rfl,rfl,trivial⟩
    · have e:Zm d=(0,0):=by
        unfold Zm
        rw [if_pos hc,if_neg (of_decide_eq_false q.symm)]
      rw [e]
      exact ⟨rfl,rfl,trivial⟩
  · have hc:d.code≠ []:=by simpa using h0
    subst hy
    have hn:(drF d.code d.env).2≠0:=by simpa using h1
    have e:Zm d=(0,(drF d.code d.env).2):=by
      unfold Zm
      rw [if_neg hc,if_pos hn]
    rw [e]
    exact ⟨rfl,rfl,trivial⟩
  · have hc:d.code≠ []:=by simpa using h0
    have hn:(drF d.code d.env).2=0:=by rw [<-hy];simpa using h1
    obtain ⟨n1,n2,n3⟩:=Zzq hn
    have e0:Zm d=(match X1 (drF d.code d.env).1.leaves d.leaves 0 with
        |some k=>((k:Int),300)
        |none=>if (drF d.code d.env).1.leaves.length<d.leaves.length then (((drF d.code d.env).1.leaves.length:Int),300)
          else if d.amount≠(drF d.code d.env).1.amount\/d.err≠(drF d.code d.env).1.err then (((drF d.code d.env).1.leaves.length:Int)-1,300)
          else (0,0)):=by
      unfold Zm
      rw [if_neg hc,if_neg (by simpa using hn)]
    rw [<-hy] at n1 n2 n3 e0
    rw [e0]
    clear e0 hy
    generalize y.1=r at n1 n2 n3⊢
    refine ⟨fun x=>x.k<=r.leaves.length/\X1 (r.leaves.drop x.k) (d.leaves.drop x.k) x.k=X1 r.leaves d.leaves 0/\x.r=r.leaves.length-x.k,⟨⟨0,r.leaves.length,[],0⟩,⟨Nat.zero_le _,rfl,rfl⟩,by simp⟩,?_⟩
    rintro x ⟨k1,k2,k3⟩
    refine ⟨fun hlt=> ?_,fun hge=> ?_⟩
    · have hlt:x.k<r.leaves.length:=by simpa using hlt
      refine ⟨by omega,by omega,fun x1 hx1=>⟨fun hg=> ?_,fun hg=>⟨by omega,?_,fun x2 hx2 b hb=>⟨fun q=> ?_,fun q=> ?_⟩⟩⟩⟩
      · have hx1:r.leaves[x.k]? =some x1:=hx1
        have hg:d.leaves.length<=x.k:=by simpa using hg
        rw [<-k2,Zpi hx1 hg]
        exact ⟨rfl,rfl,trivial⟩
      · have hg:x.k<d.leaves.length:=by simpa using hg
        omega
      · have hx1:r.leaves[x.k]? =some x1:=hx1
        have hx2:d.leaves[x.k]? =some x2:=hx2
        rw [Zwb] at hb
        rw [<-k2,Zix hx1 hx2,if_neg]
        · exact ⟨rfl,rfl,trivial⟩
        · intro e
          rw [hb] at q
          simp [e] at q
      · have hx1:r.leaves[x.k]? =some x1:=hx1
        have hx2:d.leaves[x.k]? =some x2:=hx2
        rw [Zwb] at hb
        have e:n32 x2=n32 x1:=by
          rw [hb] at q
          simpa using q
        rw [Zix hx1 hx2,if_pos e] at k2
        refine ⟨⟨x.k+1,r.leaves.length-(x.k+1),[],0⟩,⟨hlt,k2,rfl⟩,by show r.leaves.length-(x.k+1)+1<=x.r;omega,?_⟩
        simp
        exact (wr64 (by omega) (by omega)).trans (by omega)
    · have hge:r.leaves.length<=x.k:=by simpa using hge
      rw [<-k2,Zwc hge]
      refine ⟨fun a1=> ?_,fun a1=>⟨fun a2=> ?_,fun a2=>⟨fun a3=> ?_,fun a3=> ?_⟩⟩⟩
      · have a1:r.leaves.length<d.leaves.length:=by simpa using a1
        simp only [if_pos a1]
        exact ⟨trivial,trivial,trivial⟩
      · have a1:¬r.leaves.length<d.leaves.length:=by simpa using a1
        have a2:d.amount≠r.amount:=by simpa using a2
        simp only [if_neg a1,if_pos (Or.inl a2:d.amount≠r.amount\/d.err≠r.err)]
        exact ⟨wr64 (by omega) (by omega),trivial,trivial⟩
      · have a1:¬r.leaves.length<d.leaves.length:=by simpa using a1
        have a3:d.err≠r.err:=by simpa using a3
        simp only [if_neg a1,if_pos (Or.inr a3:d.amount≠r.amount\/d.err≠r.err)]
        exact ⟨wr64 (by omega) (by omega),trivial,trivial⟩
      · have a1:¬r.leaves.length<d.leaves.length:=by simpa using a1
        have a2:d.amount=r.amount:=by simpa using a2
        have a3:d.err=r.err:=by simpa using a3
        have hne:¬(d.amount≠r.amount\/d.err≠r.err):=by
          rintro (h|h)
          · exact h a2
          · exact h a3
        simp only [if_neg a1,if_neg hne]
        exact ⟨trivial,trivial,trivial⟩
end
section
open Go Go.RowKit
def Zlc:Sum thy:=Ut E2 gthV 10 (.cons dDrv .nil) (fun _=>True) (fun x=>Zm x.1) fun y=> .tup [.int false .i64 y.1,.int false .i64 y.2]
theorem Zfd:SumOk E2 10 Zlc:=Ym Zn (Zk rfl) fun x _=>Zlh x.1
def Zs7:Sum thy:=Ut E2 gthV 10 (.cons dSt2 (.cons dSt2 .nil)) (fun x=>x.1.stack.length<=1000000) (fun x=>Zsi x.1 x.2.1) fun y=> .bool false y
theorem Ziu:SumOk E2 14 Zs7:=Ym Zn (Zk rfl) fun x h=>up2 (Zqo x.1 x.2.1 h)
--@cond changed | 23 | E2:F0 | 400 | (d : Drv) (i : Int) | [drvV d, .int false .i64 i] | (z : Drv) | drvV z
theorem Ziv (d:Drv) (i:Int) (z:Drv):Zw E2 F0 (vc E2 F0 400) 23 [drvV d,.int false .i64 i] hp0 0 (fun r=>ret E2 (patch hp0 0 r) r.v (drvV z))=(
  (Drv.leaves d= []->(0:Int)<=i/\i+(1:Int)<=(↑(0:Nat):Int)/\True)/\(Drv.leaves d≠ []->((0:Nat)+(1:Nat)<=(0:Nat)+List.length (Drv.leaves d)/\((0:Nat)
  +List.length (Drv.leaves d))*(32:Nat)<=(140737488355328:Nat))/\((0:Int)<=i/\i+(1:Int)<=(↑((0:Nat)+List.length (Drv.leaves d)):Int))/\(0:Nat)+Int.toNat
  i+(1:Nat)<=List.length ([]++Drv.leaves d)/\∀(x:List Int),([]++Drv.leaves d)[(0:Nat)+Int.toNat i]? =some x->((0:Int)<=i/\i+(1:Int)<=(↑((0:Nat)+
  List.length (Drv.leaves d)):Int))/\(0:Nat)<=(0:Nat)+Int.toNat i/\(0:Nat)+Int.toNat i+(1:Nat)<=List.length ([]++Drv.leaves d)/\∀(x_1:List Int),([]++
  Drv.leaves d)[(0:Nat)+Int.toNat i]? =some x_1->(Drv.code d=Drv.code z/\(false=true->false=true))/\Env.has (Drv.env d)=Env.has (Drv.env z)/\Env.v0 (Drv.env d)=
  Env.v0 (Drv.env z)/\Env.v1 (Drv.env d)=Env.v1 (Drv.env z)/\Env.v2 (Drv.env d)=Env.v2 (Drv.env z)/\Env.v3 (Drv.env d)=Env.v3 (Drv.env z)/\Env.v4 (Drv.env d)=Env.v4
  (Drv.env z)/\Env.v5 (Drv.env d)=Env.v5 (Drv.env z)/\Env.v6 (Drv.env d)=Env.v6 (Drv.env z)/\Env.v7 (Drv.env d)=Env.v7 (Drv.env z)/\Env.v8 (Drv.env d)=Env.v8 (Drv.env z)
  /\Env.v9 (Drv.env d)=Env.v9 (Drv.env z)/\Env.v10 (Drv.env d)=Env.v10 (Drv.env z)/\Env.v11 (Drv.env d)=Env.v11 (Drv.env z)/\Env.v12 (Drv.env d)=Env.v12 (Drv.env z)/\
  Env.v13 (Drv.env d)=Env.v13 (Drv.env z)/\Env.v14 (Drv.env d)=Env.v14 (Drv.env z)/\Env.v15 (Drv.env d)=Env.v15 (Drv.env z)/\Drv.amount d=Drv.amount z/\Drv.err d=
  Drv.err z/\((0:Nat)+((0:Nat)+List.length (Drv.leaves d))<=List.length (List.set ([]++Drv.leaves d) ((0:Nat)+Int.toNat i) [Z0 BinOp.xor IntKind.u8 (List.getD x
  (0:Nat) (0:Int)) (1:Int),List.getD x_1 (1:Nat) (0:Int),List.getD x_1 (2:Nat) (0:Int),List.getD x_1 (3:Nat) (0:Int),List.getD x_1 (4:Nat) (0:Int),
  List.getD x_1 (5:Nat) (0:Int),List.getD x_1 (6:Nat) (0:Int),List.getD x_1 (7:Nat) (0:Int),List.getD x_1 (8:Nat) (0:Int),List.getD x_1 (9:Nat) (0:Int),
  List.getD x_1 (10:Nat) (0:Int),List.getD x_1 (11:Nat) (0:Int),List.getD x_1 (12:Nat) (0:Int),List.getD x_1 (13:Nat) (0:Int),List.getD x_1 (14:Nat) (0:Int),
  List.getD x_1 (15:Nat) (0:Int),List.getD x_1 (16:Nat) (0:Int),List.getD x_1 (17:Nat) (0:Int),List.getD x_1 (18:Nat) (0:Int),List.getD x_1 (19:Nat) (0:Int),
  List.getD x_1 (20:Nat) (0:Int),List.getD x_1 (21:Nat) (0:Int),List.getD x_1 (22:Nat) (0:Int),List.getD x_1 (23:Nat) (0:Int),List.getD x_1 (24:Nat) (0:Int),
  List.getD x_1 (25:Nat) (0:Int),List.getD x_1 (26:Nat) (0:Int),List.getD x_1 (27:Nat) (0:Int),List.getD x_1 (28:Nat) (0:Int),List.getD x_1 (29:Nat) (0:Int),
  List.getD x_1 (30:Nat) (0:Int),List.getD x_1 (31:Nat) (0:Int)])/\List.take ((0:Nat)+List.length (Drv.leaves d)) (List.set ([]++Drv.leaves d) ((0:Nat)+Int.toNat
  i) [Z0 BinOp.xor IntKind.u8 (List.getD x (0:Nat) (0:Int)) (1:Int),List.getD x_1 (1:Nat) (0:Int),List.getD x_1 (2:Nat) (0:Int),List.getD x_1 (3:Nat) (0:
  Int),List.getD x_1 (4:Nat) (0:Int),List.getD x_1 (5:Nat) (0:Int),List.getD x_1 (6:Nat) (0:Int),List.getD x_1 (7:Nat) (0:Int),List.getD x_1 (8:Nat) (0:Int),
  List.getD x_1 (9:Nat) (0:Int),List.getD x_1 (10:Nat) (0:Int),List.getD x_1 (11:Nat) (0:Int),List.getD x_1 (12:Nat) (0:Int),List.getD x_1 (13:Nat) (0:Int),
  List.getD x_1 (14:Nat) (0:Int),List.getD x_1 (15:Nat) (0:Int),List.getD x_1 (16:Nat) (0:Int),List.getD x_1 (17:Nat) (0:Int),List.getD x_1 (18:Nat) (0:Int),
  List.getD x_1 (19:Nat) (0:Int),List.getD x_1 (20:Nat) (0:Int),List.getD x_1 (21:Nat) (0:Int),List.getD x_1 (22:Nat) (0:Int),List.getD x_1 (23:Nat) (0:Int),
  List.getD x_1 (24:Nat) (0:Int),List.getD x_1 (25:Nat) (0:Int),List.getD x_1 (26:Nat) (0:Int),List.getD x_1 (27:Nat) (0:Int),List.getD x_1 (28:Nat) (0:Int),
  List.getD x_1 (29:Nat) (0:Int),List.getD x_1 (30:Nat) (0:Int),List.getD x_1 (31:Nat) (0:Int)])=Drv.leaves z)/\True)
  ):=by kernel_rfl
--@end
--@cond few30 | 9 | E2:F0 | 400 | (c : List Ins) | [.psl .ins c false] | (b : Bool) | .bool false b
theorem Zpf (c:List Ins) (b:Bool):Zw E2 F0 (vc E2 F0 400) 9 [.psl .ins c false] hp0 0 (fun r=>ret E2 (patch hp0 0 r) r.v (.bool false b))=(
  (decide ((↑(List.length c):Int)<=(40:Int))=true->true=b)/\(decide ((↑(List.length c):Int)<=(40:Int))=false->false=b)
  ):=by kernel_rfl
--@end
def Zld (x:List Int):List Int:= [Z0 BinOp.xor IntKind.u8 (List.getD x 0 0) 1,List.getD x 1 0,List.getD x 2 0,List.getD x 3 0,List.getD x 4 0,List.getD x 5 0,List.getD x 6 0,List.getD x 7 0,List.getD x 8 0,List.getD x 9 0,List.getD x 10 0,List.getD x 11 0,List.getD x 12 0,List.getD x 13 0,List.getD x 14 0,List.getD x 15 0,List.getD x 16 0,List.getD x 17 0,List.getD x 18 0,List.getD x 19 0,List.getD x 20 0,List.getD x 21 0,List.getD x 22 0,List.getD x 23 0,List.getD x 24 0,List.getD x 25 0,List.getD x 26 0,List.getD x 27 0,List.getD x 28 0,List.getD x 29 0,List.getD x 30 0,List.getD x 31 0]
/-- one leaf is another one -/
def Wm (d:Drv) (i:Int):Drv:={d with leaves:=d.leaves.set i.toNat (Zld (d.leaves.getD i.toNat []))}
theorem Ziw (d:Drv) (i:Int) (h0:0<=i) (h1:i<d.leaves.length) (h2:d.leaves.length<=5000):PureC E2 23 [drvV d,.int false .i64 i] (drvV (Wm d i)):=by
  refine Zc Zn (Zh Zn Wj 400) ?_
  rw [Ziv d i (Wm d i)]
  refine ⟨fun e=> ?_,fun _=>⟨⟨by omega,by omega⟩,⟨h0,by omega⟩,by rw [List.nil_append];omega,fun x hx=>⟨⟨h0,by omega⟩,Nat.zero_le _,by rw [List.nil_append];omega,fun x1 hx1=> ?_⟩⟩⟩
  · rw [e] at h1
    exact absurd h1 (by simp;omega)
  · rw [hx] at hx1
    cases hx1
    have e:d.leaves.getD i.toNat []=x:=by
      rw [List.nil_append,Nat.zero_add] at hx
      rw [List.getD_eq_getElem?_getD,hx];rfl
    have ec:(Wm d i).leaves=d.leaves.set i.toNat (Zld x):=by rw [<-e];rfl
    rw [ec]
    simp only [Wm,List.nil_append,Nat.zero_add,List.length_set,Nat.le_refl,true_and]
    refine ⟨fun h=>h,?_⟩
    refine ⟨?_,trivial⟩
    have hl:(d.leaves.set i.toNat (Zld x)).length=d.leaves.length:=List.length_set
    exact (List.take_of_length_le (by rw [hl];exact Nat.le_refl _):List.take d.leaves.length (d.leaves.set i.toNat (Zld x))=_)
theorem Zs8 (c:List Ins):PureC E2 9 [.psl .ins c false] (.bool false (decide (c.length<=40))):=by
  refine Zc Zn (Zh Zn Wj 400) ?_
  rw [Zpf]
  refine ⟨fun h1=> ?_,fun h1=> ?_⟩
  · exact (decide_eq_true (by simp only [decide_eq_true_eq] at h1;omega)).symm
  · exact (decide_eq_false (by simp only [decide_eq_false_iff_not] at h1;omega)).symm
def Z1b:Sum thy:=Ut E2 gthV 10 (.cons dDrv (.cons dI2 .nil)) (fun x=>0<=x.2.1/\x.2.1<x.1.leaves.length/\x.1.leaves.length<=5000) (fun x=>Wm x.1 x.2.1) drvV
theorem Zv4:SumOk E2 23 Z1b:=Ym Zn (Zk rfl) fun x h=>Ziw x.1 x.2.1 h.1 h.2.1 h.2.2
def Z1c:Sum thy:=Ut E2 gthV 10 (.cons (Zib E2) .nil) (fun _=>True) (fun x=>decide (x.1.length<=40)) fun y=> .bool false y
theorem Zv5:SumOk E2 9 Z1c:=Ym Zn (Zk rfl) fun x _=>Zs8 x.1
def FS0:Fns thy:=addS (addS (addS (addS (addS F0 8 Zwa) 12 Zlg) 10 Zlc) 14 Zs7) 23 Z1b
theorem Z1d:FnsOk E2 FS0:=Zg (Zg (Zg (Zg (Zg Wj Zg6) Zfe) Zfd) Ziu) Zv4
--@cond sane30 | 7 | E2:FS0 | 400 | (b : Bool) | [] | | .bool false b
theorem Zle (b:Bool):Zw E2 FS0 (vc E2 FS0 400) 7 [] hp0 0 (fun r=>ret E2 (patch hp0 0 r) r.v (.bool false b))=(
  True/\∀(y:Drv×Int),y=drF [Ins.mk (2:Int) (6:Int) (0:Int),Ins.mk (1:Int) (7:Int) (0:Int),Ins.mk (5:Int) (0:Int) (0:Int),Ins.mk (15:Int) (0:Int) (0
  :Int)] (Env.mk (64:Int) (0:Int) (0:Int) (0:Int) (0:Int) (0:Int) (0:Int) (30:Int) (0:Int) (0:Int) (0:Int) (0:Int) (0:Int) (0:Int) (0:Int) (0:Int) (0
  :Int))->True/\∀(y_1:Drv×Int),y_1=drF [Ins.mk (2:Int) (6:Int) (0:Int),Ins.mk (1:Int) (7:Int) (0:Int),Ins.mk (5:Int) (0:Int) (0:Int),Ins.mk (15:Int)
  (0:Int) (0:Int)] (Env.mk (0:Int) (0:Int) (0:Int) (0:Int) (0:Int) (0:Int) (0:Int) (0:Int) (0:Int) (0:Int) (0:Int) (0:Int) (0:Int) (0:Int) (0:Int)
  (0:Int) (0:Int))->∃(Q:Bool->Prop),(((Prod.snd y !=(0:Int))=true->Q true)/\((Prod.snd y !=(0:Int))=false->(((↑(List.length (Drv.leaves (Prod.fst y))):Int)
  !=(5:Int))=true->Q true)/\(((↑(List.length (Drv.leaves (Prod.fst y))):Int) !=(5:Int))=false->((Drv.amount (Prod.fst y) !=(210:Int))=true->Q true)/\
  ((Drv.amount (Prod.fst y) !=(210:Int))=false->((Drv.err (Prod.fst y) !=(0:Int))=true->Q true)/\((Drv.err (Prod.fst y) !=(0:Int))=false->((Prod.snd y_1 !=(0:
  Int))=true->Q true)/\((Prod.snd y_1 !=(0:Int))=false->(((↑(List.length (Drv.leaves (Prod.fst y_1))):Int) !=(2:Int))=true->Q true)/\(((↑(List.length (Drv.leaves
  (Prod.fst y_1))):Int) !=(2:Int))=false->((Drv.amount (Prod.fst y_1) !=(0:Int))=true->Q true)/\((Drv.amount (Prod.fst y_1) !=(0:Int))=false->((Drv.err (Prod.fst
  y_1) !=(181:Int))=true->Q true)/\((Drv.err (Prod.fst y_1) !=(181:Int))=false->Q false)))))))))/\(Q true->false=b)/\(Q false->True/\∀(y_2:St×Int),y_2=
  X3 (Prod.fst y) (2:Int)->True/\∀(y_3:St×Int),y_3=X3 (Prod.fst y) (5:Int)->((0:Int)<=(3:Int)/\(3:Int)+(1:Int)<=(↑(List.length (Drv.leaves
  (Prod.fst y))):Int)/\List.length (Drv.leaves (Prod.fst y))<=(5000:Nat))/\∀(y_4:Drv),y_4=Wm (Prod.fst y) (3:Int)->True/\∀(y_5:Int×Int),y_5=Zm y_4
  ->True/\∀(y_6:Int×Int),y_6=Zm (Drv.mk (Drv.code (Prod.fst y)) (Drv.env (Prod.fst y)) (211:Int) (Drv.err (Prod.fst y)) (Drv.leaves (Prod.fst y)))->((0:Int)<=(4:
  Int)/\(4:Int)<=(↑(List.length (Drv.leaves (Prod.fst y))):Int))/\True/\∀(y_7:Int×Int),y_7=Zm (Drv.mk (Drv.code (Prod.fst y)) (Drv.env (Prod.fst y)) (210:Int)
  (0:Int) (List.take (Int.toNat (4:Int)) (Drv.leaves (Prod.fst y))))->((Prod.snd y_2==(0:Int))=true->List.length (St.stack (Prod.fst y_2))<=(1000000:Nat)/\∀(y:
  Bool),y=Zsi (Prod.fst y_2) (St.mk (2:Int) (3:Int) (0:Int) (0:Int) [(30:Int),(7:Int)])->(y=true->((Prod.snd y_3==(1:Int))=true->((Prod.fst y_5==(3:
  Int))=true->((Prod.snd y_5==(300:Int))=true->((Prod.fst y_6==(4:Int))=true->((Prod.snd y_6==(300:Int))=true->((Prod.fst y_7==(4:Int))=true->
  ((Prod.snd y_7==(300:Int))=true->true=b)/\((Prod.snd y_7==(300:Int))=false->false=b))/\((Prod.fst y_7==(4:Int))=false->false=b))/\((Prod.snd y_6==
  (300:Int))=false->false=b))/\((Prod.fst y_6==(4:Int))=false->false=b))/\((Prod.snd y_5==(300:Int))=false->false=b))/\((Prod.fst y_5==(3:Int))=
  false->false=b))/\((Prod.snd y_3==(1:Int))=false->false=b))/\(y=false->false=b))/\((Prod.snd y_2==(0:Int))=false->false=b))
  ):=by kernel_rfl
--@end
def Yr:List Ins:= [⟨2,6,0⟩,⟨1,7,0⟩,⟨5,0,0⟩,⟨15,0,0⟩]
def Xn:Env:=⟨64,0,0,0,0,0,0,30,0,0,0,0,0,0,0,0,0⟩
theorem x30a:(verF Yr).2=0:=by decide+kernel
theorem x30b:dM Yr Xn=4:=by decide+kernel
theorem x30c:dM Yr evZ=1:=by decide+kernel
theorem x30d:Zt (dsk Yr Xn 4)=(210,0,0):=by decide+kernel
theorem x30e:(Zt (dsk Yr evZ 1)).1=0/\(Zt (dsk Yr evZ 1)).2.2=181:=by decide+kernel
theorem x30f:Zsi (dsk Yr Xn 2) ⟨2,3,0,0,[30,7]⟩=true/\(dsk Yr Xn 2).stack.length<=1000000:=by decide+kernel
theorem Zxi:drF Yr Xn=(⟨Yr,Xn,210,0,lvL Yr Xn 5⟩,0):=by
  unfold drF
  rw [if_pos x30a,x30b,x30d]
theorem Z1e:(drF Yr evZ).2=0/\(drF Yr evZ).1.leaves.length=2/\(drF Yr evZ).1.amount=0/\(drF Yr evZ).1.err=181:=by
  unfold drF
  rw [if_pos x30a,x30c]
  exact ⟨rfl,Zbu _ _ _,x30e.1,x30e.2⟩
theorem Zzo (a:Int):Z0 .xor .u8 a 1≠a:=by
  intro h
  have hx:∀x:BitVec 8,x^^^1#8≠x:=by decide
  have e:Z0 .xor .u8 a 1=((BitVec.ofInt 8 a^^^1#8).toNat:Int):=by
    have hlt:=(BitVec.ofInt 8 a^^^1#8).isLt
    show IntKind.wrap .u8 ((BitVec.ofInt 8 a^^^1#8).toNat:Int)=_
    generalize (BitVec.ofInt 8 a^^^1#8).toNat=n at hlt⊢
    simp only [IntKind.wrap,IntKind.bits,IntKind.signed,Bool.false_and,Bool.false_eq_true,if_false]
    omega
  rw [e] at h
  refine hx (BitVec.ofInt 8 a) ?_
  have:BitVec.ofInt 8 a=BitVec.ofInt 8 ((BitVec.ofInt 8 a^^^1#8).toNat:Int):=congrArg (BitVec.ofInt 8) h.symm
  rw [BitVec.ofInt_natCast,BitVec.ofNat_toNat] at this
  simpa using this.symm
theorem Zv6 (x:List Int):n32 (Zld x)≠n32 x:=by
  intro h
  have h0:=congrArg (fun l=>List.getD l 0 0) h
  exact Zzo (List.getD x 0 0) (by simpa [n32x,Zld] using h0)
def D30:Drv:=⟨Yr,Xn,210,0,lvL Yr Xn 5⟩
theorem Z2d:X3 D30 2=(dsk Yr Xn 2,0):=by
  unfold X3
  have e:(verF D30.code).2=0:=x30a
  have e2:dM D30.code D30.env=4:=x30b
  rw [if_pos e,e2]
  rfl
theorem Z2e:(X3 D30 5).2=1:=by
  unfold X3
  have e:(verF D30.code).2=0:=x30a
  have e2:dM D30.code D30.env=4:=x30b
  rw [if_pos e,e2]
  rfl
theorem lv30:∃a b c d e,lvL Yr Xn 5= [a,b,c,d,e]:=⟨_,_,_,_,_,rfl⟩
theorem Zzp {d:Drv} (hc:d.code=Yr) (hv:d.env=Xn) {z:Int×Int} (h:(match X1 (lvL Yr Xn 5) d.leaves 0 with
        |some k=>((k:Int),(300:Int))
        |none=>if (lvL Yr Xn 5).length<d.leaves.length then (((lvL Yr Xn 5).length:Int),300)
          else if d.amount≠210\/d.err≠0 then (((lvL Yr Xn 5).length:Int)-1,300)
          else (0,0))=z):Zm d=z:=by
  unfold Zm
  rw [hc,hv,Zxi,if_neg (by decide),if_neg (by simp)]
  exact h
theorem Z2f:Zm (Wm D30 3)=(3,300):=by
  refine Zzp rfl rfl ?_
  have e:(Wm D30 3).leaves=(lvL Yr Xn 5).set 3 (Zld ((lvL Yr Xn 5).getD 3 [])):=rfl
  rw [e]
  obtain ⟨a0,a1,a2,a3,a4,hl⟩:=lv30
  rw [hl]
  simp [X1,Zv6]
theorem Z2g:Zm ⟨Yr,Xn,211,0,lvL Yr Xn 5⟩=(4,300):=by
  refine Zzp rfl rfl ?_
  show (match X1 (lvL Yr Xn 5) (lvL Yr Xn 5) 0 with|some k=>_|none=>_)=_
  obtain ⟨a0,a1,a2,a3,a4,hl⟩:=lv30
  rw [hl]
  simp [X1]
theorem Z2h:Zm ⟨Yr,Xn,210,0,(lvL Yr Xn 5).take 4⟩=(4,300):=by
  refine Zzp rfl rfl ?_
  show (match X1 (lvL Yr Xn 5) ((lvL Yr Xn 5).take 4) 0 with|some k=>_|none=>_)=_
  obtain ⟨a0,a1,a2,a3,a4,hl⟩:=lv30
  rw [hl]
  simp [X1]
theorem Zpg:PureC E2 7 [] (.bool false true):=by
  refine Zc Zn (Zh Zn Z1d 400) ?_
  rw [Zle true]
  refine ⟨trivial,fun y hy=>⟨trivial,fun y1 hy1=> ?_⟩⟩
  obtain rfl:y=(D30,0):=hy.trans Zxi
  obtain rfl:y1=drF Yr evZ:=hy1
  obtain ⟨z1,z2,z3,z4⟩:=Z1e
  have hlen:D30.leaves.length=5:=Zbu _ _ _
  refine ⟨fun b=>b=false,⟨fun h=>by simp at h,fun _=>⟨fun h=>by simp [hlen] at h,fun _=>⟨fun h=>by simp [D30] at h,fun _=>⟨fun h=>by simp [D30] at h,fun _=>⟨fun h=>by simp [z1] at h,fun _=>⟨fun h=>by simp [z2] at h,fun _=>⟨fun h=>by simp [z3] at h,fun _=>⟨fun h=>by simp [z4] at h,fun _=>rfl⟩⟩⟩⟩⟩⟩⟩⟩,fun h=>(by cases h),fun _=>⟨trivial,fun y2 hy2=>⟨trivial,fun y3 hy3=>⟨⟨by decide,by rw [hlen];decide,by rw [hlen];decide⟩,fun y4 hy4=>⟨trivial,fun y5 hy5=>⟨trivial,fun y6 hy6=>⟨⟨by decide,by rw [hlen];decide⟩,trivial,fun y7 hy7=> ?_⟩⟩⟩⟩⟩⟩⟩
  have hy2:y2=(dsk Yr Xn 2,0):=hy2.trans Z2d
  have hy3:y3.2=1:=by rw [hy3];exact Z2e
  have hy5:y5=(3,300):=by rw [hy5,hy4];exact Z2f
  have hy6:y6=(4,300):=hy6.trans Z2g
  have hy7:y7=(4,300):=hy7.trans Z2h
  subst hy2 hy5 hy6 hy7
  refine ⟨fun _=>⟨x30f.2,fun b hb=> ?_⟩,fun h=>by simp at h⟩
  have hb:b=true:=hb.trans x30f.1
  subst hb
  simp [hy3]
end
section
open Go Go.RowKit
def Zwy:Sum thy:=Ut E2 gthV 10 .nil (fun _=>True) (fun _=>true) fun y=> .bool false y
theorem Zp1:SumOk E2 7 Zwy:=Ym Zn (Zk rfl) fun x _=>Zpg
def FL0:Fns thy:=addS (addS (addS (addS (addS (addS (addS (addS (addS F0 8 Zwa) 12 Zlg) 10 Zlc) 14 Zs7) 7 Zwy) 9 Z1c) 13 Ztk) 15 Sdgs) 16 Z04
theorem Z0c:FnsOk E2 FL0:=Zg (Zg (Zg (Zg (Zg (Zg (Zg (Zg (Zg Wj Zg6) Zfe) Zfd) Ziu) Zp1) Zv5) Zi0) Zsw) (Ym Zn (Zk rfl) fun x h=>up2 (Zc9 x.1 h))
def DRn (c:List Ins) (v:Env):Drv:=⟨c,v,(Zt (dsk c v (dM c v))).1,(Zt (dsk c v (dM c v))).2.2,lvL c v (dM c v+1)⟩
theorem Zp2 {c:List Ins} {v:Env} (h:(verF c).2=0):drF c v=(DRn c v,0):=if_pos h
theorem Z0d {c:List Ins} {v:Env} (h:((drF c v).2 !=0)=false):(verF c).2=0:=by
 by_cases hv:(verF c).2=0
 · exact hv
 · exfalso
   unfold drF at h
   rw [if_neg hv] at h
   exact hv (by simpa using h)
theorem Z0e (c:List Ins) (v:Env):(DRn c v).leaves.length=dM c v+1:=Zbu _ _ _
theorem Zxr (d:List Int):n32 (n32 d)=n32 d:=Zxl (by simp [n32])
end
section
open Go Go.RowKit
theorem Zaz:∀(R:List (List Int)) (k:Nat),X1 R R k=none
 | [],k=>rfl
 |x::r,k=>by simp [X1,Zaz r (k+1)]
theorem Zmh (S:List (List Int)):∀(R:List (List Int)) (k:Nat),X1 R (R++S) k=none
 | [],k=>rfl
 |x::r,k=>by simp [X1,Zmh S r (k+1)]
theorem Zic:∀(R:List (List Int)) (i k:Nat),i<R.length->X1 R (R.take i) k=some (k+i)
 | [],i,k,h=>by simp at h
 |x::r,0,k,h=>rfl
 |x::r,i+1,k,h=>by
  simp only [List.take_succ_cons,X1,if_true]
  rw [Zic r i (k+1) (by simpa using h)]
  congr 1;omega
theorem Zmi (o:List Int):∀(R:List (List Int)) (i k:Nat) (x:List Int),R[i]? =some x->X1 R (R.set i o) k=if n32 o=n32 x then none else some (k+i)
 | [],i,k,x,h=>by simp at h
 |y::r,0,k,x,h=>by
  obtain rfl:y=x:=by simpa using h
  simp only [List.set_cons_zero,X1,Zaz]
  by_cases c:n32 o=n32 y<;>simp [c]
 |y::r,i+1,k,x,h=>by
  simp only [List.set_cons_succ,X1,if_true]
  rw [Zmi o r i (k+1) x (by simpa using h)]
  by_cases c:n32 o=n32 x
  · simp [c]
  · simp [c];omega
theorem Zyr:(verF []).2≠0:=by decide+kernel
theorem Vy {c:List Ins} {v:Env} (hv:(verF c).2=0) (a e:Int) (l:List (List Int)):Zm ⟨c,v,a,e,l⟩=(match X1 (DRn c v).leaves l 0 with
 |some k=>((k:Int),300)
 |none=>if (DRn c v).leaves.length<l.length then (((DRn c v).leaves.length:Int),300)
  else if a≠(DRn c v).amount\/e≠(DRn c v).err then (((DRn c v).leaves.length:Int)-1,300)
  else (0,0)):=by
 unfold Zm
 rw [if_neg (by rintro rfl;exact Zyr hv)]
 show (if (drF c v).2≠0 then _ else _)=_
 rw [Zp2 hv]
 rfl
theorem Zu0 {c:List Ins} {v:Env} (hv:(verF c).2=0):Zm (DRn c v)=(0,0):=by
 refine (Vy hv (DRn c v).amount (DRn c v).err (DRn c v).leaves).trans ?_
 rw [Zaz]
 simp
theorem Zrm {c:List Ins} {v:Env} (hv:(verF c).2=0) {i:Nat} {o x:List Int} (hx:(DRn c v).leaves[i]? =some x):Zm ⟨c,v,(DRn c v).amount,(DRn c v).err,(DRn c v).leaves.set i o⟩=if n32 o=n32 x then (0,0) else ((i:Int),300):=by
 refine (Vy hv _ _ _).trans ?_
 rw [Zmi o _ i 0 x hx]
 by_cases c:n32 o=n32 x<;>simp [c]
theorem Zon {c:List Ins} {v:Env} (hv:(verF c).2=0) {i:Nat} (hi:i<(DRn c v).leaves.length) (a e:Int):Zm ⟨c,v,a,e,(DRn c v).leaves.take i⟩=((i:Int),300):=by
 refine (Vy hv _ _ _).trans ?_
 rw [Zic _ i 0 hi]
 simp
theorem Zrn {c:List Ins} {v:Env} (hv:(verF c).2=0) (o:List Int) (a e:Int):Zm ⟨c,v,a,e,(DRn c v).leaves++ [o]⟩=(((DRn c v).leaves.length:Int),300):=by
 refine (Vy hv _ _ _).trans ?_
 rw [Zmh]
 simp
theorem Zro {c:List Ins} {v:Env} (hv:(verF c).2=0) (m:Int):Zm ⟨c,v,m,(DRn c v).err,(DRn c v).leaves⟩=if m=(DRn c v).amount then (0,0) else (((DRn c v).leaves.length:Int)-1,300):=by
 refine (Vy hv _ _ _).trans ?_
 rw [Zaz]
 by_cases h:m=(DRn c v).amount<;>simp [h]
theorem Zys {k:Int} {n:Nat} (h0:0<n) (hn:n<=5000):∃I:Nat,I<n/\wr .i64 (Int.tmod (wr .u64 k) (wr .u64 (n:Int)))=(I:Int):=by
 have e1:wr .u64 (n:Int)=(n:Int):=by
  show IntKind.wrap .u64 (n:Int)=_
  simp only [IntKind.wrap,IntKind.bits,IntKind.signed,Bool.false_and,Bool.false_eq_true,if_false]
  omega
 have e2:0<=wr .u64 k:=by
  show 0<=IntKind.wrap .u64 k
  simp only [IntKind.wrap,IntKind.bits,IntKind.signed,Bool.false_and,Bool.false_eq_true,if_false]
  omega
 rw [e1,Int.tmod_eq_emod_of_nonneg e2]
 have h1:=Int.emod_nonneg (wr .u64 k) (show (n:Int)≠0 by omega)
 have h2:=Int.emod_lt_of_pos (wr .u64 k) (show (0:Int)<n by omega)
 generalize wr .u64 k%(n:Int)=z at h1 h2
 refine ⟨z.toNat,by omega,?_⟩
 rw [wr64 (by omega) (by omega)]
 omega
abbrev qDC6:=(0:Int)
abbrev qDCg:=(0:Nat)
abbrev qDCn:=(1:Nat)
abbrev qDCh (a0:Drv×Int):=(Prod.fst a0)
abbrev qDCe (a0:Drv×Int):=(Drv.leaves (qDCh a0))
abbrev qDCm (a0:Drv×Int):=(qDCg+List.length (qDCe a0))
abbrev qDCo (a0:Drv×Int):=([]++Drv.leaves (qDCh a0))
abbrev qDC7 (a0:Drv×Int) (b0:List Int):=(List.take (qDCm a0) (qDCo a0)++ [[List.getD b0 qDCg qDC6,List.getD b0 qDCn qDC6,List.getD b0 (2:Nat) qDC6,List.getD b0 (3:Nat) qDC6,List.getD b0 (4:Nat) qDC6,List.getD b0 (5:Nat) qDC6,List.getD b0 (6:Nat) qDC6,List.getD b0 (7:Nat) qDC6,List.getD b0 (8:Nat) qDC6,List.getD b0 (9:Nat) qDC6,List.getD b0 (10:Nat) qDC6,List.getD b0 (11:Nat) qDC6,List.getD b0 (12:Nat) qDC6,List.getD b0 (13:Nat) qDC6,List.getD b0 (14:Nat) qDC6,List.getD b0 (15:Nat) qDC6,List.getD b0 (16:Nat) qDC6,List.getD b0 (17:Nat) qDC6,List.getD b0 (18:Nat) qDC6,List.getD b0 (19:Nat) qDC6,List.getD b0 (20:Nat) qDC6,List.getD b0 (21:Nat) qDC6,List.getD b0 (22:Nat) qDC6,List.getD b0 (23:Nat) qDC6,List.getD b0 (24:Nat) qDC6,List.getD b0 (25:Nat) qDC6,List.getD b0 (26:Nat) qDC6,List.getD b0 (27:Nat) qDC6,List.getD b0 (28:Nat) qDC6,List.getD b0 (29:Nat) qDC6,List.getD b0 (30:Nat) qDC6,List.getD b0 (31:Nat) qDC6]])
abbrev qDCi (a0:Drv×Int):=(qDCg+qDCn<=qDCg+List.length (qDCe a0)/\(qDCm a0)*(32:Nat)<=(140737488355328:Nat))
abbrev qDCa (a0:Drv×Int):=(↑(List.length (qDCe a0)):Int)
abbrev qDC3 (a0:Int) (b0:Drv×Int):=(Int.tmod (wr IntKind.u64 a0) (wr IntKind.u64 (qDCa b0)))
abbrev qDCk (a0:Int×Int):=(Prod.snd a0 !=(300:Int))
abbrev qDCf (a0:Int×Int) (b0:Bool->Prop) (c0:Int) (d0:Drv×Int) (e0:Int×Int):=(((qDCk a0)=true->b0 true)/\((qDCk a0)=false->((Prod.fst a0 !=wr IntKind.i64 (qDC3 c0 d0))=true->b0 true)/\((Prod.fst a0 !=wr IntKind.i64 (qDC3 c0 d0))=false->((qDCk e0)=true->b0 true)/\((qDCk e0)=false->((Prod.fst e0 !=(qDCa d0))=true->b0 true)/\((Prod.fst e0 !=(qDCa d0))=false->b0 false)))))
abbrev qDCp (a0:Int) (b0:Drv×Int):=((a0 !=Drv.amount (qDCh b0))=false->false=true)
abbrev qDC5 (a0:Int) (b0:Drv×Int) (c0:Int×Int):=((a0 !=Drv.amount (qDCh b0))=true->((Prod.snd c0==(300:Int))=true->((Prod.fst c0==wr IntKind.i64 ((qDCa b0)-(1:Int)))=true->true=true)/\((Prod.fst c0==wr IntKind.i64 ((qDCa b0)-(1:Int)))=false->false=true))/\((Prod.snd c0==(300:Int))=false->false=true))
abbrev qDCc (a0:Bool->Prop) (b0:Int) (c0:Drv×Int) (d0:Int×Int):=(a0 false->((b0==Drv.amount (qDCh c0))=true->((Prod.snd d0==qDC6)=true->((Prod.fst d0==qDC6)=true->true=true)/\((Prod.fst d0==qDC6)=false->(qDC5 b0 c0 d0)/\(qDCp b0 c0)))/\((Prod.snd d0==qDC6)=false->(qDC5 b0 c0 d0)/\(qDCp b0 c0)))/\((b0==Drv.amount (qDCh c0))=false->(qDC5 b0 c0 d0)/\(qDCp b0 c0)))
abbrev qDC1 (a0:Drv×Int) (b0:List Int) (c0:Int) (d0:Int×Int) (e0:Int):=(Drv.leaves (qDCh a0)≠ []->(qDCi a0)/\(qDCg+List.length (qDCe a0)<=List.length (qDCo a0)/\qDCg<=qDCg+List.length (qDCe a0)/\(qDCg+List.length (qDCe a0)+qDCn)*(32:Nat)<=(140737488355328:Nat))/\qDCg+(qDCg+List.length (qDCe a0)+qDCn)<=List.length (qDC7 a0 b0)/\True/\∀(y_5:Int×Int),y_5=Zm (Drv.mk (Drv.code (qDCh a0)) (Drv.env (qDCh a0)) (Drv.amount (qDCh a0)) (Drv.err (qDCh a0)) (List.take (qDCg+List.length (qDCe a0)+qDCn) (List.drop qDCg (qDC7 a0 b0))))->True/\∀(y_6:Int×Int),y_6=Zm (Drv.mk (Drv.code (qDCh a0)) (Drv.env (qDCh a0)) c0 (Drv.err (qDCh a0)) (qDCe a0))->∃(Q:Bool->Prop),(qDCf d0 Q e0 a0 y_5)/\(Q true->false=true)/\(qDCc Q c0 a0 y_6))
abbrev qDC8 (a0:List Int):=([]++ [[List.getD a0 qDCg qDC6,List.getD a0 qDCn qDC6,List.getD a0 (2:Nat) qDC6,List.getD a0 (3:Nat) qDC6,List.getD a0 (4:Nat) qDC6,List.getD a0 (5:Nat) qDC6,List.getD a0 (6:Nat) qDC6,List.getD a0 (7:Nat) qDC6,List.getD a0 (8:Nat) qDC6,List.getD a0 (9:Nat) qDC6,List.getD a0 (10:Nat) qDC6,List.getD a0 (11:Nat) qDC6,List.getD a0 (12:Nat) qDC6,List.getD a0 (13:Nat) qDC6,List.getD a0 (14:Nat) qDC6,List.getD a0 (15:Nat) qDC6,List.getD a0 (16:Nat) qDC6,List.getD a0 (17:Nat) qDC6,List.getD a0 (18:Nat) qDC6,List.getD a0 (19:Nat) qDC6,List.getD a0 (20:Nat) qDC6,List.getD a0 (21:Nat) qDC6,List.getD a0 (22:Nat) qDC6,List.getD a0 (23:Nat) qDC6,List.getD a0 (24:Nat) qDC6,List.getD a0 (25:Nat) qDC6,List.getD a0 (26:Nat) qDC6,List.getD a0 (27:Nat) qDC6,List.getD a0 (28:Nat) qDC6,List.getD a0 (29:Nat) qDC6,List.getD a0 (30:Nat) qDC6,List.getD a0 (31:Nat) qDC6]])
abbrev qDC2 (a0:Drv×Int) (b0:List Int) (c0:Int) (d0:Int×Int) (e0:Int):=(Drv.leaves (qDCh a0)= []->qDCg+(qDCg+qDCn)<=List.length (qDC8 b0)/\True/\∀(y_5:Int×Int),y_5=Zm (Drv.mk (Drv.code (qDCh a0)) (Drv.env (qDCh a0)) (Drv.amount (qDCh a0)) (Drv.err (qDCh a0)) (List.take (qDCg+qDCn) (List.drop qDCg (qDC8 b0))))->True/\∀(y_6:Int×Int),y_6=Zm (Drv.mk (Drv.code (qDCh a0)) (Drv.env (qDCh a0)) c0 (Drv.err (qDCh a0)) (qDCe a0))->∃(Q:Bool->Prop),(qDCf d0 Q e0 a0 y_5)/\(Q true->false=true)/\(qDCc Q c0 a0 y_6))
abbrev qDC4 (a0:List Int) (b0:List Int):=(List.getD a0 qDCg qDC6==List.getD b0 qDCg qDC6&&(List.getD a0 qDCn qDC6==List.getD b0 qDCn qDC6&&(List.getD a0 (2:Nat) qDC6==List.getD b0 (2:Nat) qDC6&&(List.getD a0 (3:Nat) qDC6==List.getD b0 (3:Nat) qDC6&&(List.getD a0 (4:Nat) qDC6==List.getD b0 (4:Nat) qDC6&&(List.getD a0 (5:Nat) qDC6==List.getD b0 (5:Nat) qDC6&&(List.getD a0 (6:Nat) qDC6==List.getD b0 (6:Nat) qDC6&&(List.getD a0 (7:Nat) qDC6==List.getD b0 (7:Nat) qDC6&&(List.getD a0 (8:Nat) qDC6==List.getD b0 (8:Nat) qDC6&&(List.getD a0 (9:Nat) qDC6==List.getD b0 (9:Nat) qDC6&&(List.getD a0 (10:Nat) qDC6==List.getD b0 (10:Nat) qDC6&&(List.getD a0 (11:Nat) qDC6==List.getD b0 (11:Nat) qDC6&&(List.getD a0 (12:Nat) qDC6==List.getD b0 (12:Nat) qDC6&&(List.getD a0 (13:Nat) qDC6==List.getD b0 (13:Nat) qDC6&&(List.getD a0 (14:Nat) qDC6==List.getD b0 (14:Nat) qDC6&&(List.getD a0 (15:Nat) qDC6==List.getD b0 (15:Nat) qDC6&&(List.getD a0 (16:Nat) qDC6==List.getD b0 (16:Nat) qDC6&&(List.getD a0 (17:Nat) qDC6==List.getD b0 (17:Nat) qDC6&&(List.getD a0 (18:Nat) qDC6==List.getD b0 (18:Nat) qDC6&&(List.getD a0 (19:Nat) qDC6==List.getD b0 (19:Nat) qDC6&&(List.getD a0 (20:Nat) qDC6==List.getD b0 (20:Nat) qDC6&&(List.getD a0 (21:Nat) qDC6==List.getD b0 (21:Nat) qDC6&&(List.getD a0 (22:Nat) qDC6==List.getD b0 (22:Nat) qDC6&&(List.getD a0 (23:Nat) qDC6==List.getD b0 (23:Nat) qDC6&&(List.getD a0 (24:Nat) qDC6==List.getD b0 (24:Nat) qDC6&&(List.getD a0 (25:Nat) qDC6==List.getD b0 (25:Nat) qDC6&&(List.getD a0 (26:Nat) qDC6==List.getD b0 (26:Nat) qDC6&&(List.getD a0 (27:Nat) qDC6==List.getD b0 (27:Nat) qDC6&&(List.getD a0 (28:Nat) qDC6==List.getD b0 (28:Nat) qDC6&&(List.getD a0 (29:Nat) qDC6==List.getD b0 (29:Nat) qDC6&&(List.getD a0 (30:Nat) qDC6==List.getD b0 (30:Nat) qDC6&&(List.getD a0 (31:Nat) qDC6==List.getD b0 (31:Nat) qDC6&&true))))))))))))))))))))))))))))))))
abbrev qDCl (a0:Int) (b0:Drv×Int):=(wr IntKind.i64 (qDC3 a0 b0))
abbrev qDC9 (a0:Drv×Int) (b0:Int) (c0:List Int):=(List.set (qDCo a0) (qDCg+Int.toNat (qDCl b0 a0)) [List.getD c0 qDCg qDC6,List.getD c0 qDCn qDC6,List.getD c0 (2:Nat) qDC6,List.getD c0 (3:Nat) qDC6,List.getD c0 (4:Nat) qDC6,List.getD c0 (5:Nat) qDC6,List.getD c0 (6:Nat) qDC6,List.getD c0 (7:Nat) qDC6,List.getD c0 (8:Nat) qDC6,List.getD c0 (9:Nat) qDC6,List.getD c0 (10:Nat) qDC6,List.getD c0 (11:Nat) qDC6,List.getD c0 (12:Nat) qDC6,List.getD c0 (13:Nat) qDC6,List.getD c0 (14:Nat) qDC6,List.getD c0 (15:Nat) qDC6,List.getD c0 (16:Nat) qDC6,List.getD c0 (17:Nat) qDC6,List.getD c0 (18:Nat) qDC6,List.getD c0 (19:Nat) qDC6,List.getD c0 (20:Nat) qDC6,List.getD c0 (21:Nat) qDC6,List.getD c0 (22:Nat) qDC6,List.getD c0 (23:Nat) qDC6,List.getD c0 (24:Nat) qDC6,List.getD c0 (25:Nat) qDC6,List.getD c0 (26:Nat) qDC6,List.getD c0 (27:Nat) qDC6,List.getD c0 (28:Nat) qDC6,List.getD c0 (29:Nat) qDC6,List.getD c0 (30:Nat) qDC6,List.getD c0 (31:Nat) qDC6])
abbrev qDCb (a0:Drv×Int) (b0:Int):=(Drv.mk (Drv.code (qDCh a0)) (Drv.env (qDCh a0)) (Drv.amount (qDCh a0)) (Drv.err (qDCh a0)) (List.take (Int.toNat (qDCl b0 a0)) (qDCe a0)))
abbrev qDCj (a0:Int) (b0:Drv×Int):=(qDC6<=wr IntKind.i64 (qDC3 a0 b0)/\wr IntKind.i64 (qDC3 a0 b0)<=(qDCa b0))
abbrev qDCd (a0:Int×Int) (b0:Int) (c0:Drv×Int) (d0:List Int) (e0:Int):=((Prod.snd a0 !=qDC6)=true->((qDCk a0)=true->false=true)/\((qDCk a0)=false->((Prod.fst a0 !=wr IntKind.i64 (qDC3 b0 c0))=true->false=true)/\((Prod.fst a0 !=wr IntKind.i64 (qDC3 b0 c0))=false->(qDCj b0 c0)/\True/\∀(y_4:Int×Int),y_4=Zm (qDCb c0 b0)->(qDC2 c0 d0 e0 y_4 b0)/\(qDC1 c0 d0 e0 y_4 b0))))
theorem Zj0 (c:List Ins) (v:Env) (k:Int) (o:List Int) (m:Int):Zw E2 FL0 (vc E2 FL0 400) 3 [.psl .ins c false,envV v,.int false .i64 k,Yd o,.int false .i64 m] hp0 0 (fun r=>ret E2 (patch hp0 0 r) r.v (.bool false true))=(
 True/\∀(y:Bool),y=true->((!y)=true->false=true)/\((!y)=false->True/\∀(y:Drv×Int),y=drF c v->True/\∀(y_1:Bool),y_1=decide (List.length c<=(40:Nat))->((!y_1)=true->true=true)/\((!y_1)=false->((Prod.snd y !=qDC6)=true->true=true)/\((Prod.snd y !=qDC6)=false->True/\∀(y_2:Int×Int),y_2=Zm (qDCh y)->∃(Q:Bool->Prop),(((Prod.fst y_2 !=qDC6)=true->Q true)/\((Prod.fst y_2 !=qDC6)=false->((Prod.snd y_2 !=qDC6)=true->Q true)/\((Prod.snd y_2 !=qDC6)=false->(((qDCa y)==qDC6)=true->Q true)/\(((qDCa y)==qDC6)=false->(decide ((qDCa y)>wr IntKind.i64 ((↑(List.length c):Int)+(1:Int)))=true->Q true)/\(decide ((qDCa y)>wr IntKind.i64 ((↑(List.length c):Int)+(1:Int)))=false->Q false)))))/\(Q true->false=true)/\(Q false->(wr IntKind.u64 (qDCa y)=qDC6->False)/\(Drv.leaves (qDCh y)= []->qDC6<=wr IntKind.i64 (qDC3 k y)/\wr IntKind.i64 (qDC3 k y)+(1:Int)<=(↑qDCg:Int)/\True)/\(Drv.leaves (qDCh y)≠ []->(qDCi y)/\(qDC6<=wr IntKind.i64 (qDC3 k y)/\wr IntKind.i64 (qDC3 k y)+(1:Int)<=(↑(qDCm y):Int))/\qDCg<=qDCg+Int.toNat (qDCl k y)/\qDCg+Int.toNat (qDCl k y)+qDCn<=List.length (qDCo y)/\∀(x:List Int),(qDCo y)[qDCg+Int.toNat (qDCl k y)]? =some x->qDCg+(qDCm y)<=List.length (qDC9 y k o)/\True/\∀(y_3:Int×Int),y_3=Zm (Drv.mk (Drv.code (qDCh y)) (Drv.env (qDCh y)) (Drv.amount (qDCh y)) (Drv.err (qDCh y)) (List.take (qDCm y) (List.drop qDCg (qDC9 y k o))))->((Prod.snd y_3==qDC6)=true->qDC6<=wr IntKind.i64 (qDC3 k y)/\wr IntKind.i64 (qDC3 k y)+(1:Int)<=(qDCa y)/\∀(x:List Int),(qDCe y)[Int.toNat (qDCl k y)]? =some x->∀(v:Bool),v=(qDC4 o x)->(v=true->(qDCd y_3 k y o m)/\((Prod.snd y_3 !=qDC6)=false->(qDCj k y)/\True/\∀(y_4:Int×Int),y_4=Zm (qDCb y k)->(qDC2 y o m y_4 k)/\(qDC1 y o m y_4 k)))/\(v=false->false=true))/\((Prod.snd y_3==qDC6)=false->qDC6<=wr IntKind.i64 (qDC3 k y)/\wr IntKind.i64 (qDC3 k y)+(1:Int)<=(qDCa y)/\∀(x:List Int),(qDCe y)[Int.toNat (qDCl k y)]? =some x->∀(v:Bool),v=(qDC4 o x)->(v=true->false=true)/\(v=false->(qDCd y_3 k y o m)/\((Prod.snd y_3 !=qDC6)=false->(qDCj k y)/\True/\∀(y_4:Int×Int),y_4=Zm (qDCb y k)->(qDC2 y o m y_4 k)/\(qDC1 y o m y_4 k)))))))))):=by kernel_rfl
end
section
open Go Go.RowKit
theorem Zig (c:List Ins) (v:Env) (k:Int) (o:List Int) (m:Int):PureC E2 3 [.psl .ins c false,envV v,.int false .i64 k,Yd o,.int false .i64 m] (.bool false true):=by
 refine Zc Zn (Zh Zn Z0c 400) ?_
 rw [Zj0]; delta qDC6 qDCh qDCa qDC3 qDCg qDCi qDCm qDCl qDCn qDCo qDC9 qDCe qDC4 qDCd qDCj qDCb qDC2 qDC1 qDC7 qDCf qDCc qDC5 qDCp qDCk qDC8
 refine ⟨trivial,fun y0 hy0=>⟨fun h=>by subst hy0;simp at h,fun _=>⟨trivial,fun y hy=>⟨trivial,fun y1 hy1=>⟨fun _=>rfl,fun h1=>⟨fun _=>rfl,fun h2=> ?_⟩⟩⟩⟩⟩⟩
 have hc:c.length<=40:=by rw [hy1] at h1;simpa using h1
 have hv:(verF c).2=0:=Z0d (by rw [<-hy];exact h2)
 obtain rfl:y=(DRn c v,0):=hy.trans (Zp2 hv)
 obtain ⟨d1,_⟩:=Zgu (v:=v) hv
 have hl:(DRn c v).leaves.length=dM c v+1:=Z0e c v
 have hok:=Zu0 (v:=v) hv
 have hset:∀{i:Nat} {x:List Int},(DRn c v).leaves[i]? =some x->Zm ⟨(DRn c v).code,(DRn c v).env,(DRn c v).amount,(DRn c v).err,(DRn c v).leaves.set i (n32 o)⟩=if n32 o=n32 x then (0,0) else ((i:Int),300):=fun {i x} hx=>(Zrm hv hx).trans (by rw [Zxr])
 have htake:∀{i:Nat},i<(DRn c v).leaves.length->Zm ⟨(DRn c v).code,(DRn c v).env,(DRn c v).amount,(DRn c v).err,(DRn c v).leaves.take i⟩=((i:Int),300):=fun {i} hi=>Zon hv hi _ _
 have happ:Zm ⟨(DRn c v).code,(DRn c v).env,(DRn c v).amount,(DRn c v).err,(DRn c v).leaves++ [n32 o]⟩=(((DRn c v).leaves.length:Int),300):=Zrn hv _ _ _
 have hamt:Zm ⟨(DRn c v).code,(DRn c v).env,m,(DRn c v).err,(DRn c v).leaves⟩=if m=(DRn c v).amount then (0,0) else (((DRn c v).leaves.length:Int)-1,300):=Zro hv m
 rw [<-n32x o]
 dsimp only
 clear hy h2
 generalize DRn c v=D at*
 obtain ⟨I,hI,eI⟩:=Zys (k:=k) (n:=D.leaves.length) (by omega) (by omega)
 have hL:D.leaves≠ []:=by intro e;rw [e] at hl;simp at hl
 have w1:wr .i64 ((c.length:Int)+1)=(c.length:Int)+1:=wr64 (by omega) (by omega)
 have w2:wr .i64 ((D.leaves.length:Int)-1)=(D.leaves.length:Int)-1:=wr64 (by omega) (by omega)
 have w3:wr .u64 (D.leaves.length:Int)≠0:=by
  show IntKind.wrap .u64 (D.leaves.length:Int)≠0
  simp only [IntKind.wrap,IntKind.bits,IntKind.signed,Bool.false_and,Bool.false_eq_true,if_false]
  omega
 rw [eI,w1,w2]
 clear eI w1 w2
 refine ⟨trivial,fun y2 hy2=> ?_⟩
 obtain rfl:y2=(0,0):=hy2.trans hok
 refine ⟨fun b=>b=false,⟨fun h=>absurd h (by simp),fun _=>⟨fun h=>absurd h (by simp),fun _=>⟨fun h=>absurd (beq_iff_eq.1 h) (by omega),fun _=>⟨fun h=>absurd (of_decide_eq_true h) (by omega),fun _=>rfl⟩⟩⟩⟩,fun h=>absurd h (by decide),fun _=>⟨fun h=>w3 h,fun h=>absurd h hL,fun _=>⟨⟨by omega,by omega⟩,⟨by omega,by omega⟩,by omega,by simp;omega,fun x hx=>⟨by simp,trivial,fun y3 hy3=> ?_⟩⟩⟩⟩
 have hx:D.leaves[I]? =some x:=by simpa using hx
 have e3:List.take (0+D.leaves.length) (List.drop 0 (List.set ([]++D.leaves) (0+Int.toNat (I:Int)) (n32 o)))=D.leaves.set I (n32 o):=by
  simp only [Nat.zero_add,List.drop_zero,List.nil_append,Int.toNat_natCast]
  exact List.take_of_length_le (by rw [List.length_set];exact Nat.le_refl _)
 rw [e3,hset hx] at hy3
 clear e3
 have e5:List.take (0+D.leaves.length+1) (List.drop 0 (List.take (0+D.leaves.length) ([]++D.leaves)++ [n32 o]))=D.leaves++ [n32 o]:=by
  simp only [Nat.zero_add,List.drop_zero,List.nil_append,List.take_length]
  exact List.take_of_length_le (by rw [List.length_append];exact Nat.le_refl _)
 rw [e5,Int.toNat_natCast]
 clear e5
 by_cases ho:n32 o=n32 x
 case' pos=>
  rw [if_pos ho] at hy3
  subst hy3
  refine ⟨fun _=>⟨by omega,by omega,fun x' hx' w hw=>⟨fun _=>⟨fun h=>absurd h (by simp),fun _=> ?_⟩,fun h=> ?_⟩⟩,fun h=>absurd h (by simp)⟩
  rotate_left
  · rw [hx] at hx'
    cases hx'
    rw [Zwb,h] at hw
    simp [ho] at hw
 case' neg=>
  rw [if_neg ho] at hy3
  subst hy3
  refine ⟨fun h=>absurd h (by simp),fun _=>⟨by omega,by omega,fun x' hx' w hw=>⟨fun h=> ?_,fun _=>⟨fun _=>⟨fun h=>absurd h (by simp),fun _=>⟨fun h=>absurd h (by simp),fun _=> ?_⟩⟩,fun h=>absurd h (by simp)⟩⟩⟩⟩
  · rw [hx] at hx'
    cases hx'
    rw [Zwb,h] at hw
    simp [ho] at hw
 all_goals
  refine ⟨⟨by omega,by omega⟩,trivial,fun y4 hy4=>⟨fun h=>absurd h hL,fun _=>⟨⟨by omega,by omega⟩,⟨by simp,by omega,by omega⟩,by simp,trivial,fun y5 hy5=>⟨trivial,fun y6 hy6=> ?_⟩⟩⟩⟩
  rw [htake hI] at hy4
  rw [happ] at hy5
  rw [hamt] at hy6
  subst hy4
  subst hy5
  refine ⟨fun b=>b=false,⟨fun h=>absurd h (by simp),fun _=>⟨fun h=>absurd h (by simp),fun _=>⟨fun h=>absurd h (by simp),fun _=>⟨fun h=>absurd h (by simp),fun _=>rfl⟩⟩⟩⟩,fun h=>absurd h (by decide),fun _=> ?_⟩
  by_cases hm:m=D.amount
  · rw [if_pos hm] at hy6
    subst hy6
    exact ⟨fun _=>⟨fun _=>⟨fun _=>rfl,fun h=>absurd h (by simp)⟩,fun h=>absurd h (by simp)⟩,fun h=>absurd hm (by simpa using h)⟩
  · rw [if_neg hm] at hy6
    subst hy6
    exact ⟨fun h=>absurd (beq_iff_eq.1 h) hm,fun _=>⟨fun _=>⟨fun _=>⟨fun _=>rfl,fun h=>absurd h (by simp)⟩,fun h=>absurd h (by simp)⟩,fun h=>absurd h (by simpa using hm)⟩⟩
end
section
open Go.ChangeShapes Go.WideShapes Go.ChangeAt Go.RowKit

theorem deriveChecks_lifted (os:Os) (started:os.Started) (H:Type) (enc:TypeId×Value->H):
    ReturnsInHanded {} Tryz.checked os 3 .any (fun w args=>(Rows.deriveChecksSpec.pre enc Tryz.prog Tryz.f3 [] false w args/\laidMetH Tryz.prog Zn2 w)/\sizedMet enc Tryz.prog Tryz.f3 (OpenSpec.ofChange Rows.deriveChecksSpec) false w args)
      (Rows.deriveChecksSpec.post enc Tryz.prog Tryz.f3 false true false false):=by
  refine returnsInHanded_of_change_and (C:=Tryz.checked) (X:=fun w _=>laidMetH Tryz.prog Zn2 w) (fun _ _ _ hh h=>h.of_heap hh) Tryz.own started (by kernel_rfl) Tryz.func3
    (ChangeSpec.witness_shaped (enc:=enc) (C:=Tryz.checked) (os:=os) (X:=fun w _=>laidMetH Tryz.prog Zn2 w) false (World.doorLaid Tryz.prog 600 os) #[.slice none 0 0,.agg #[.int .i64 0,.int .i64 0,.int .i64 0,.int .i64 0,.int .i64 0,.int .i64 0,.int .i64 0,.int .i64 0,.int .i64 0,.int .i64 0,.int .i64 0,.int .i64 0,.int .i64 0,.int .i64 0,.int .i64 0,.int .i64 0,.int .i64 0],.int .i64 0,.agg #[.int .u8 0,.int .u8 0,.int .u8 0,.int .u8 0,.int .u8 0,.int .u8 0,.int .u8 0,.int .u8 0,.int .u8 0,.int .u8 0,.int .u8 0,.int .u8 0,.int .u8 0,.int .u8 0,.int .u8 0,.int .u8 0,.int .u8 0,.int .u8 0,.int .u8 0,.int .u8 0,.int .u8 0,.int .u8 0,.int .u8 0,.int .u8 0,.int .u8 0,.int .u8 0,.int .u8 0,.int .u8 0,.int .u8 0,.int .u8 0,.int .u8 0,.int .u8 0],.int .i64 0] 8 rfl (World.shaped_of_RefB (by kernel_rfl) (by kernel_rfl)) (by kernel_rfl) (by kernel_rfl) (by kernel_rfl) (Zqv os _)) ?_
  intro W base args ds gs before hval0 hW _ hz hL _
  have hval:∀(j:Nat) t v,Tryz.f3.params[j]? =some t->args[j]? =some v->Value.okWide Tryz.prog W .any base t v:=hval0
  have hW':=hW
  obtain ⟨p,q,hA0,hV,rfl,hfz,hnd⟩:=hW
  have hA:DataW.TrodAll enc Tryz.prog W 0 (fun _=>true) true Tryz.f3.params.toList args.toList ds p:=hA0
  rw [Tryz.params3] at hA hval hz
  obtain ⟨v0,v1,v2,v3,v4,d0,d1,d2,d3,d4,p0,p1,p2,p3,p4,rfl,rfl,rfl,h0,h1,h2,h3,h4⟩:=Zih hA
  obtain ⟨rfl,rfl⟩:=trodVars_none hV
  obtain ⟨c,hdc⟩:=Zr9 (hval 0 23 v0 rfl rfl) h0
  obtain ⟨v,hdv⟩:=Zvc h1
  obtain ⟨k,rfl,_,hrk,_⟩:=open_int Tryz.underlying3 (hval 2 3 v2 rfl rfl) h2
  obtain ⟨o,hdo⟩:=Zu5 h3
  obtain ⟨m,rfl,_,hrm,_⟩:=open_int Tryz.underlying3 (hval 4 3 v4 rfl rfl) h4
  refine (Zn3 (Zig c v k o m) hL (Zap hdc (Zap hdv (Zap (.int _ _ _) (Zap hdo (Z1u (.int _ _ _))))))).mono fun en W' ⟨hen,hw⟩=> ?_
  exact ⟨_,hen,Zqj Tryz.laidOut rfl Tryz.underlying4 (by kernel_rfl) rfl hW' rfl rfl rfl hw⟩

end
section
open Go.ChangeShapes Go.WideShapes Go.ChangeAt Go.RowKit

theorem V8:(Rows.deriveChecksRow.inPlace==Tryz.prog.inPlace 3)=true:=by kernel_rfl
theorem W0:(Rows.deriveChecksRow.unfollowed==Tryz.prog.unfollowed 3)=true:=by kernel_rfl
theorem Vk:(Rows.deriveChecksRow.recurses==Tryz.prog.recurses 3)=true:=by kernel_rfl
theorem Zaj:(Rows.deriveChecksRow.named==Tryz.prog.varsNamed 3)=true:=by kernel_rfl
theorem Zak:joinedFacts Tryz.prog 3 Tryz.f3 Rows.deriveChecksSpec Rows.deriveChecksRow=true:=by
  unfold joinedFacts
  rw [V8,W0,Vk,Zaj]
  kernel_rfl
theorem Za9:Tryz.prog.funcNamed Rows.deriveChecksRow.func=some 3:=by kernel_rfl
theorem deriveChecks_holds:Rows.DeriveChecksSaid:=
  OpenClaim.holds_of_wide 3 Tryz.f3 rfl rfl rfl rfl rfl rfl rfl ⟨rfl,rfl,rfl,rfl,rfl⟩ rfl rfl rfl rfl rfl Za9 Tryz.func3 Zak
    (of_decide_eq_true (by kernel_rfl)) (by unfold Func.isWrapper;first|(rw [if_pos (by decide+kernel)];kernel_rfl)|(rw [if_neg (by decide+kernel)];exact ⟨rfl,rfl⟩))
    (fun os started H enc _=>deriveChecks_lifted os started H enc)

end
end Go.Proofs.YtnailikggmapcaaGreatDoor
end
