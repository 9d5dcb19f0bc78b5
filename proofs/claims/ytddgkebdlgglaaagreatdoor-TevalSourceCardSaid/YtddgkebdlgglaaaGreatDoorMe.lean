/- Merged texts: TtH, TpG, TpL, EngZL, TpM, TpI, TpPa, TpJ, TuA, Tariff, Holds, Amount, TuB, TuTop, TpN, TuC, TtI, TtJ, TtK, TtM, TtN, TtR, TtB, TtC, TtL, TtP, TtU, TuD, TpIa, TpIb, EngZM. -/
import Derived.Lib.ItoaNum
import Derived.Test.YtddgkebdlgglaaaGreatDoorProg
import Derived.Test.YtddgkebdlgglaaaGreatDoorMd
namespace Go.Proofs.YtddgkebdlgglaaaGreatDoor
set_option linter.unusedVariables false
set_option linter.unusedSimpArgs false
set_option linter.unnecessarySimpa false
set_option maxRecDepth 100000
section
open Go
def Z8 (w:Tst):Bool:=decide (0<=w.attr/\w.attr<16/\0<=w.low/\w.low<=1099511627776/\0<=w.high/\w.high<=1099511627776)
def Wo (c:Cls):Bool:=W9 c.name&&Yd c.pay&&c.when_.all Z8
def resF (s:List Nat):Bool:=decide (s∈resW)
noncomputable def goC:Bool->Bool->List (List Nat×Bool)->List Cls->Int
 |a,b,_,[]=>if a=true then 161 else if b=true then 2 else 0
 |a,b,m,c::r=>if Wo c=true then goC (a||resF c.name||(Ys m c.name).getD false) (b||decide (8<c.when_.length)||decide (24<Z0 c.pay)) (putS m c.name true) r else 1
noncomputable def X8 (t:Tar):Int:=if W9 t.name=true/\1<=t.for_/\t.for_<=6 then goC (resF t.name) (decide (64<t.clauses.length)) [] t.clauses else 1
noncomputable def Z97:Sum thy:=sumP (dA1 dS) (fun _=>True) fun x=> .bool false (W9 x.1)
theorem Z09:SumOk E 48 Z97:=Ym E_ok (Zd (f:=48) rfl) fun x h=>Zzo _
noncomputable def Sres:Sum thy:=sumP (dA1 dS) (fun _=>True) fun x=> .bool false (resF x.1)
theorem Z6h:SumOk E 49 Sres:=Ym E_ok (Zd (f:=49) rfl) fun x h=>Zr8 _
noncomputable def Zwa:Sum thy:=sumP dExp (fun x=>x.1.sz<1000000000000) fun x=> .bool false (Yd x.1)
theorem Zs3:SumOk E 50 Zwa:=Ym E_ok (Zd (f:=50) rfl) fun x h=>Z1y _ (Nat.le_refl _) _ h
noncomputable def Zim:Sum thy:=sumP dExp (fun x=>x.1.sz<1000000000000) fun x=> .int false .i64 (Z0 x.1:Int)
theorem Ze9:SumOk E 51 Zim:=Ym E_ok (Zd (f:=51) rfl) fun x h=>Z15 _ _ (Nat.le_refl _) (Nat.le_of_lt h)
structure CkX where
 k:Nat
 r:Nat
 a:Bool
 b:Bool
 m:List (List Nat×Bool)
def blkM {Y:Thy} (h:Hp Y) (v:SV Y):List (Nat×Blk Y):=match v with| .map b=>(match h b with|some x=> [(b,x)]|none=> [])|_=> []
noncomputable def Ack:Fr thy->Hp thy->Nat->Ann thy:=fun T h i=>{X:=CkX,fr:=fun x=> [(3,.bool false x.a),(4,.bool false x.b),(5,T 5),(33,T 33),(34,T 34),(35,.int false .i64 x.k)],bl:=fun x=> [(bOf (T 5),.map (Yl (X0 E Th.bools false) x.m))],src:=fun _=> [],md:= [bOf (T 5)],ih:=i,M:=i+40,meas:=fun x=>x.r}
noncomputable def Atst:Fr thy->Hp thy->Nat->Ann thy:=fun T h i=>{X:=DX,fr:=fun x=> [(3,T 3),(4,T 4),(5,T 5),(7,T 7),(33,T 33),(34,T 34),(35,T 35),(50,T 50),(51,T 51),(52,.int false .i64 x.k)],bl:=fun x=>blkP h (T 7)++blkM h (T 5),src:=fun _=> [],md:= [],ih:=i,M:=i+30,meas:=fun x=>x.r}
noncomputable def Fck:Fns thy:=addL (addL (addS (addS (addS (addS F0 48 Z97) 49 Sres) 50 Zwa) 51 Zim) 20 6 Ack E) 20 11 Atst E
theorem Z98:FnsOk E Fck:=Yc E_ok (Yc E_ok (Zb (Zb (Zb (Zb F0_ok Z09) Z6h) Zs3) Ze9) _ _ _) _ _ _
def tarA (t:Tar):SV thy:= .agg (encF false .tariffs t)
noncomputable abbrev qBG9:=(X0 E Th.bools (Zg TypeDesc.bool))
noncomputable abbrev qBGj:=(1:Int)
noncomputable abbrev qBGg:=(false=true->false=true)
noncomputable abbrev qBG6 (a0:Tar):=(Tar.clauses a0=Tar.clauses a0/\qBGg)
noncomputable abbrev qBGe (a0:CkX):=(↑(CkX.k a0):Int)
noncomputable abbrev qBG5 (a0:Tar):=(↑(List.length (Tar.clauses a0)):Int)
noncomputable abbrev qBGd (a0:Bool) (b0:CkX) (c0:Tar) (d0:CkX):=(a0=CkX.a b0/\true=CkX.b b0/\True/\(qBG6 c0)/\(qBG5 c0)=(qBG5 c0)/\wr IntKind.i64 ((qBGe d0)+qBGj)=(qBGe b0)/\True)
noncomputable abbrev qBGb:=(X0 E Th.bools false)
noncomputable abbrev qBG3 (a0:List (List Nat×Bool)) (b0:Cls) (c0:CkX):=(Yl qBG9 (putS a0 (Cls.name b0) true)=Yl qBGb (CkX.m c0)/\nidE (0:Nat) (Yl qBG9 (putS a0 (Cls.name b0) true))=true)
noncomputable abbrev qBGm (a0:Cls):=(mkS (Cls.name a0))
noncomputable abbrev qBGn (a0:DX):=(↑(DX.k a0):Int)
noncomputable abbrev qBGl:=(1:Nat)
noncomputable abbrev qBGa (a0:CkX) (b0:Tar) (c0:CkX):=(true=CkX.a a0/\true=CkX.b a0/\True/\(qBG6 b0)/\(qBG5 b0)=(qBG5 b0)/\wr IntKind.i64 ((qBGe c0)+qBGj)=(qBGe a0)/\True)
noncomputable abbrev qBG7 (a0:List (List Nat×Bool)):=(∀(p:List Nat×Bool),p∈a0->toL (mkS (Prod.fst p))=Prod.fst p)
noncomputable abbrev qBGf (a0:CkX) (b0:Cls) (c0:CkX->Prop) (d0:Tar):=(CkX.b a0=true->∃(l:List (List Nat×Bool)),Yl qBGb (CkX.m a0)=Yl qBG9 l/\(qBG7 l)/\toL (qBGm b0)=Cls.name b0/\∃(x_3:CkX),c0 x_3/\x_3.2+qBGl<=a0.2/\true=true/\(qBGa x_3 d0 a0)/\(qBG3 l b0 x_3)/\True)
noncomputable abbrev qBGo:=(0:Int)
noncomputable abbrev qBGp (a0:Cls):=(Cls.pay a0)
noncomputable abbrev qBG8 (a0:Cls):=(Cls.name a0=Cls.name a0/\(Cls.when_ a0=Cls.when_ a0/\qBGg)/\Ex.op (qBGp a0)=Ex.op (qBGp a0)/\Ex.n (qBGp a0)=Ex.n (qBGp a0)/\Ex.d0 (qBGp a0)=Ex.d0 (qBGp a0)/\Ex.d1 (qBGp a0)=Ex.d1 (qBGp a0)/\Ex.d2 (qBGp a0)=Ex.d2 (qBGp a0)/\Ex.d3 (qBGp a0)=Ex.d3 (qBGp a0)/\(Ex.l (qBGp a0)=Ex.l (qBGp a0)/\qBGg)/\True)
noncomputable abbrev qBG4 (a0:Cls):=(Ex.mk (Ex.op (qBGp a0)) (Ex.n (qBGp a0)) (Ex.d0 (qBGp a0)) (Ex.d1 (qBGp a0)) (Ex.d2 (qBGp a0)) (Ex.d3 (qBGp a0)) (Ex.l (qBGp a0)))
noncomputable abbrev qBGi (a0:Cls):=((↑(Z0 (qBG4 a0)):Int)>(24:Int))
noncomputable abbrev qBGk (a0:CkX):=(Yl qBGb (CkX.m a0)=Yl qBGb (CkX.m a0)/\nidE (0:Nat) (Yl qBGb (CkX.m a0))=true)
noncomputable abbrev qBGc (a0:Cls):=(↑(List.length (Cls.when_ a0)):Int)
noncomputable abbrev qBG2 (a0:CkX) (b0:Cls) (c0:CkX->Prop) (d0:Tar):=(CkX.b a0=false->(decide ((qBGc b0)>(8:Int))=true->∃(l:List (List Nat×Bool)),Yl qBGb (CkX.m a0)=Yl qBG9 l/\(qBG7 l)/\toL (qBGm b0)=Cls.name b0/\∃(x_3:CkX),c0 x_3/\x_3.2+qBGl<=a0.2/\true=true/\(qBGa x_3 d0 a0)/\(qBG3 l b0 x_3)/\True)/\(decide ((qBGc b0)>(8:Int))=false->Ex.sz (qBG4 b0)+qBGl<=(1000000000000:Nat)/\(decide (qBGi b0)=true->∃(l:List (List Nat×Bool)),Yl qBGb (CkX.m a0)=Yl qBG9 l/\(qBG7 l)/\toL (qBGm b0)=Cls.name b0/\∃(x_3:CkX),c0 x_3/\x_3.2+qBGl<=a0.2/\true=true/\(qBGa x_3 d0 a0)/\(qBG3 l b0 x_3)/\True)/\(decide (qBGi b0)=false->∃(l:List (List Nat×Bool)),Yl qBGb (CkX.m a0)=Yl qBG9 l/\(qBG7 l)/\toL (qBGm b0)=Cls.name b0/\∃(x_3:CkX),c0 x_3/\x_3.2+qBGl<=a0.2/\true=true/\(true=CkX.a x_3/\false=CkX.b x_3/\True/\(qBG6 d0)/\(qBG5 d0)=(qBG5 d0)/\wr IntKind.i64 ((qBGe a0)+qBGj)=(qBGe x_3)/\True)/\(qBG3 l b0 x_3)/\True)))
noncomputable abbrev qBG1 (a0:CkX) (b0:Tar) (c0:Int) (d0:CkX->Prop):=(decide ((qBGe a0)<(qBG5 b0))=true->qBGo<=(qBGe a0)/\(qBGe a0)+qBGj<=(qBG5 b0)/\∀(x_1:Cls),(Tar.clauses b0)[Int.toNat (qBGe a0)]? =some x_1->True/\((!W9 (Cls.name x_1))=true->qBGj=c0)/\((!W9 (Cls.name x_1))=false->Ex.sz (qBG4 x_1)+qBGl<=(1000000000000:Nat)/\((!Yd (qBG4 x_1))=true->qBGj=c0)/\((!Yd (qBG4 x_1))=false->∃(R_1:DX->Prop),(∃(x_2:DX),R_1 x_2/\true=true/\(CkX.a a0=CkX.a a0/\CkX.b a0=CkX.b a0/\True/\(0:Nat)=(0:Nat)/\(qBG6 b0)/\(qBG5 b0)=(qBG5 b0)/\(qBGe a0)=(qBGe a0)/\(Cls.when_ x_1=Cls.when_ x_1/\qBGg)/\(qBGc x_1)=(qBGc x_1)/\qBGo=(qBGn x_2)/\True)/\(qBG8 x_1)/\(qBGk a0)/\True)/\∀(x_2:DX),R_1 x_2->(decide ((qBGn x_2)<(qBGc x_1))=true->qBGo<=(qBGn x_2)/\(qBGn x_2)+qBGj<=(qBGc x_1)/\∀(x_3:Tst),(Cls.when_ x_1)[Int.toNat (qBGn x_2)]? =some x_3->∃(Q:Bool->Prop),((decide (Tst.attr x_3<qBGo)=true->Q true)/\(decide (Tst.attr x_3<qBGo)=false->(decide (Tst.attr x_3>=(16:Int))=true->Q true)/\(decide (Tst.attr x_3>=(16:Int))=false->(decide (mm2 false (Tst.low x_3) (Tst.high x_3)<qBGo)=true->Q true)/\(decide (mm2 false (Tst.low x_3) (Tst.high x_3)<qBGo)=false->(decide (mm2 true (Tst.low x_3) (Tst.high x_3)>(1099511627776:Int))=true->Q true)/\(decide (mm2 true (Tst.low x_3) (Tst.high x_3)>(1099511627776:Int))=false->Q false)))))/\(Q true->qBGj=c0)/\(Q false->∃(x_4:DX),R_1 x_4/\x_4.2+qBGl<=x_2.2/\true=true/\(CkX.a a0=CkX.a a0/\CkX.b a0=CkX.b a0/\True/\(0:Nat)=(0:Nat)/\(qBG6 b0)/\(qBG5 b0)=(qBG5 b0)/\(qBGe a0)=(qBGe a0)/\(Cls.when_ x_1=Cls.when_ x_1/\qBGg)/\(qBGc x_1)=(qBGc x_1)/\wr IntKind.i64 ((qBGn x_2)+qBGj)=(qBGn x_4)/\True)/\(qBG8 x_1)/\(qBGk a0)/\True))/\(decide ((qBGn x_2)<(qBGc x_1))=false->(CkX.a a0=true->(qBGf a0 x_1 d0 b0)/\(qBG2 a0 x_1 d0 b0))/\(CkX.a a0=false->True/\(resF (Cls.name x_1)=true->(qBGf a0 x_1 d0 b0)/\(qBG2 a0 x_1 d0 b0))/\(resF (Cls.name x_1)=false->∃(l:List (List Nat×Bool)),Yl qBGb (CkX.m a0)=Yl qBG9 l/\(qBG7 l)/\∀(y:Bool),y=Option.getD (Ys l (Cls.name x_1)) false->(CkX.b a0=true->∃(l:List (List Nat×Bool)),Yl qBGb (CkX.m a0)=Yl qBG9 l/\(qBG7 l)/\toL (qBGm x_1)=Cls.name x_1/\∃(x_3:CkX),d0 x_3/\x_3.2+qBGl<=a0.2/\true=true/\(qBGd y x_3 b0 a0)/\(qBG3 l x_1 x_3)/\True)/\(CkX.b a0=false->(decide ((qBGc x_1)>(8:Int))=true->∃(l:List (List Nat×Bool)),Yl qBGb (CkX.m a0)=Yl qBG9 l/\(qBG7 l)/\toL (qBGm x_1)=Cls.name x_1/\∃(x_3:CkX),d0 x_3/\x_3.2+qBGl<=a0.2/\true=true/\(qBGd y x_3 b0 a0)/\(qBG3 l x_1 x_3)/\True)/\(decide ((qBGc x_1)>(8:Int))=false->Ex.sz (qBG4 x_1)+qBGl<=(1000000000000:Nat)/\(decide (qBGi x_1)=true->∃(l:List (List Nat×Bool)),Yl qBGb (CkX.m a0)=Yl qBG9 l/\(qBG7 l)/\toL (qBGm x_1)=Cls.name x_1/\∃(x_3:CkX),d0 x_3/\x_3.2+qBGl<=a0.2/\true=true/\(qBGd y x_3 b0 a0)/\(qBG3 l x_1 x_3)/\True)/\(decide (qBGi x_1)=false->∃(l:List (List Nat×Bool)),Yl qBGb (CkX.m a0)=Yl qBG9 l/\(qBG7 l)/\toL (qBGm x_1)=Cls.name x_1/\∃(x_3:CkX),d0 x_3/\x_3.2+qBGl<=a0.2/\true=true/\(y=CkX.a x_3/\false=CkX.b x_3/\True/\(qBG6 b0)/\(qBG5 b0)=(qBG5 b0)/\wr IntKind.i64 ((qBGe a0)+qBGj)=(qBGe x_3)/\True)/\(qBG3 l x_1 x_3)/\True)))))))))
noncomputable abbrev qBGh (a0:CkX) (b0:Tar) (c0:Int):=(decide ((qBGe a0)<(qBG5 b0))=false->(CkX.a a0=true->(161:Int)=c0)/\(CkX.a a0=false->(CkX.b a0=true->(2:Int)=c0)/\(CkX.b a0=false->qBGo=c0)))
theorem Z6i (t:Tar) (v:Int):Zk E Fck (vc E Fck 400) 20 [tarA t] hp0 0 (fun r=>ret E (patch hp0 0 r) r.v (.int false .i64 v))=(
 True/\((!W9 (Tar.name t))=true->qBGj=v)/\((!W9 (Tar.name t))=false->(decide (Tar.for_ t<qBGj)=true->qBGj=v)/\(decide (Tar.for_ t<qBGj)=false->(decide (Tar.for_ t>(6:Int))=true->qBGj=v)/\(decide (Tar.for_ t>(6:Int))=false->True/\(decide ((qBG5 t)>(64:Int))=true->∃(R:CkX->Prop),(∃(x:CkX),R x/\true=true/\(resF (Tar.name t)=CkX.a x/\true=CkX.b x/\True/\(qBG6 t)/\(qBG5 t)=(qBG5 t)/\qBGo=(qBGe x)/\True)/\([]=Yl qBGb (CkX.m x)/\true=true)/\True)/\∀(x:CkX),R x->(qBG1 x t v R)/\(qBGh x t v))/\(decide ((qBG5 t)>(64:Int))=false->∃(R:CkX->Prop),(∃(x:CkX),R x/\true=true/\(resF (Tar.name t)=CkX.a x/\false=CkX.b x/\True/\(qBG6 t)/\(qBG5 t)=(qBG5 t)/\qBGo=(qBGe x)/\True)/\([]=Yl qBGb (CkX.m x)/\true=true)/\True)/\∀(x:CkX),R x->(qBG1 x t v R)/\(qBGh x t v)))))):=by kernel_rfl
theorem Z6j {g:GH} {t:Tar} {u:Value} (h:Den E σ0 g (tarA t) u):Byt t.name/\∀c∈t.clauses,Byt c.name:=by
 obtain ⟨arr,c,rfl,hs,hc,hd⟩:=Zt h
 refine ⟨Zn0 (hd 0 _ rfl),fun x hx=> ?_⟩
 have h2:=hd 2 (.psl Th.clauses t.clauses false) rfl
 obtain ⟨v,hv⟩:=Z19 h2 x hx 0 (.str false x.name) rfl
 exact Zn0 hv
theorem Zin (a b:Bool) (m:List (List Nat×Bool)) (c:Cls) (r:List Cls):goC a b m (c::r)=if Wo c=true then goC (a||resF c.name||(Ys m c.name).getD false) (b||decide (8<c.when_.length)||decide (24<Z0 c.pay)) (putS m c.name true) r else 1:=rfl
theorem Zqs {l:List Tst} {k:Nat} {w:Tst} (h:l[k]? =some w):(l.drop k).all Z8=(Z8 w&&(l.drop (k+1)).all Z8):=by rw [Vr h,List.all_cons]
theorem Zio {β:Type}:∀{m:List (List Nat×β)} {a:List Nat} {v:β},(∀p∈m,Byt p.1)->Byt a->∀p∈putS m a v,Byt p.1
 | [],a,v,_,ha,p,hp=>by
  rw [putS] at hp
  obtain rfl:=List.mem_singleton.1 hp
  exact ha
 |q::m,a,v,hm,ha,p,hp=>by
  rw [putS] at hp
  split at hp
  · rcases List.mem_cons.1 hp with rfl|hp
    · exact hm q (List.mem_cons_self ..)
    · exact hm p (List.mem_cons_of_mem _ hp)
  · rcases List.mem_cons.1 hp with rfl|hp
    · exact hm _ (List.mem_cons_self ..)
    · exact Zio (fun q hq=>hm q (List.mem_cons_of_mem _ hq)) ha p hp
theorem Zs4 (t : Tar) (hsz : ∀ c ∈ t.clauses, c.pay.sz < 1000000000000 ∧ c.when_.length < 1000000000000) (hl : t.clauses.length < 1000000000000) : PureC E 20 [tarA t] (.int false .i64 (X8 t)) := by
  refine Z7l (j := 0) rfl (fun g u h => Z6j h) fun hby => Zc E_ok (Zi E_ok Z98 400) ?_
  rw [Z6i]; delta qBG9 qBGj qBGg qBG6 qBGe qBG5 qBGd qBGb qBG3 qBGm qBGn qBGl qBGa qBG7 qBGf qBGo qBGp qBG8 qBG4 qBGi qBGk qBGc qBG2 qBG1 qBGh
  simp only [W0, Xx, Zdx, Zdy, Zdz, beq_iff_eq, bne_iff_ne, beq_eq_false_iff_ne, bne_eq_false_iff_eq, decide_eq_true_eq, decide_eq_false_iff_not, Bool.or_eq_true, Bool.or_eq_false_iff, Bool.not_eq_true', Bool.not_eq_false', Bool.and_eq_true, Bool.and_true, Bool.true_and, Bool.and_eq_false_iff, beq_self_eq_true, Uz, W7, ne_eq, and_true, true_and, Bool.true_eq_false, Bool.false_eq_true, false_or, or_false, true_implies, imp_self, Int.ofNat_eq_natCast, not_true_eq_false, not_false_eq_true, Decidable.not_not, Ex.eta]
  unfold X8
  refine And.intro (fun h1 => ?_) (fun h1 => And.intro (fun h2 => ?_) (fun h2 => And.intro (fun h3 => ?_) (fun h3 => ?_)))
  · rw [if_neg (by rw [h1]; simp)]
  · rw [if_neg (by omega)]
  · rw [if_neg (by omega)]
  · rw [if_pos ⟨h1, by omega, by omega⟩]
    refine And.intro (fun h4 => ?_) (fun h4 => ?_)
    · rw [decide_eq_true (show 64 < t.clauses.length by omega)]
      refine ⟨fun x => x.k ≤ t.clauses.length ∧ (∀ p ∈ x.m, Byt p.1) ∧ goC x.a x.b x.m (t.clauses.drop x.k) = goC (resF t.name) true [] t.clauses ∧ x.r = t.clauses.length - x.k, ⟨⟨0, t.clauses.length, resF t.name, true, []⟩, ⟨(by dsimp only; omega), by simp, rfl, rfl⟩, ⟨rfl, rfl, rfl⟩, rfl⟩, ?_⟩
      rintro x ⟨hk, hm, hv, hr⟩
      refine And.intro (fun hq => ⟨by omega, by omega, fun c hc => ?_⟩) (fun hq => ?_)
      · have hc : t.clauses[x.k]? = some c := hc
        rw [Vr hc, Zin] at hv
        have hcm := List.mem_of_getElem? hc
        obtain ⟨hs1, hs2⟩ := hsz c hcm
        have hcb := hby.2 c hcm
        refine And.intro (fun h5 => ?_) (fun h5 => ⟨by omega, fun h6 => ?_, fun h6 => ?_⟩)
        · rw [← hv, if_neg (by unfold Wo; rw [h5]; simp)]
        · rw [← hv, if_neg (by unfold Wo; rw [h6]; simp)]
        refine ⟨fun y => y.k ≤ c.when_.length ∧ (c.when_.drop y.k).all Z8 = c.when_.all Z8 ∧ y.r = c.when_.length - y.k, ⟨⟨0, c.when_.length, [], [], 0, 0, 0, 0⟩, ⟨(by dsimp only; omega), rfl, rfl⟩, rfl, Xn E_ok _⟩, ?_⟩
        rintro y ⟨hk2, hv2, hr2⟩
        refine And.intro (fun hq2 => ⟨by omega, by omega, fun w hw => ?_⟩) (fun hq2 => ?_)
        · have hw : c.when_[y.k]? = some w := hw
          rw [Zqs hw] at hv2
          have hT : Z8 w = decide (0 ≤ w.attr ∧ w.attr < 16 ∧ 0 ≤ w.low ∧ w.low ≤ 1099511627776 ∧ 0 ≤ w.high ∧ w.high ≤ 1099511627776) := rfl
          refine ⟨fun b => b = true ↔ Z8 w = false, ?_, fun hQ => ?_, fun hQ => ?_⟩
          · have q1 : (¬ (0 ≤ w.attr ∧ w.attr < 16 ∧ 0 ≤ w.low ∧ w.low ≤ 1099511627776 ∧ 0 ≤ w.high ∧ w.high ≤ 1099511627776)) → ((true = true) ↔ Z8 w = false) := fun h => by rw [hT, decide_eq_false h]; simp
            have q2 : (0 ≤ w.attr ∧ w.attr < 16 ∧ 0 ≤ w.low ∧ w.low ≤ 1099511627776 ∧ 0 ≤ w.high ∧ w.high ≤ 1099511627776) → ((false = true) ↔ Z8 w = false) := fun h => by rw [hT, decide_eq_true h]; simp
            refine And.intro (fun a1 => q1 (by omega)) (fun a1 => And.intro (fun a2 => q1 (by omega)) (fun a2 => And.intro (fun a3 => q1 (by omega)) (fun a3 => And.intro (fun a4 => q1 (by omega)) (fun a4 => q2 (by omega)))))
          · have hQ := hQ.1 rfl
            rw [hQ, Bool.false_and] at hv2
            rw [← hv, if_neg (by unfold Wo; rw [← hv2]; simp)]
          · have hQ : Z8 w = true := by
              cases hh : Z8 w with
              | true => rfl
              | false => have := hQ.2 hh; simp at this
            rw [hQ, Bool.true_and] at hv2
            exact ⟨⟨y.k + 1, c.when_.length - (y.k + 1), [], [], 0, 0, 0, 0⟩, ⟨(by dsimp only; omega), hv2, rfl⟩, by show c.when_.length - (y.k + 1) + 1 ≤ y.r; omega, wr64 (by omega) (by omega), Xn E_ok _⟩
        · rw [Wx (by omega)] at hv2
          have hok : Wo c = true := by unfold Wo; rw [h5, h6, ← hv2]; rfl
          rw [if_pos hok] at hv
          clear hv2 hr2 hq2 hk2 hok
          repeat' (first | (refine And.intro ?_ ?_) | (refine ⟨x.m, rfl, hm, ?_⟩) | (rintro _ rfl) | (intro h))
          all_goals first
            | omega
            | exact hcb
            | (refine ⟨⟨x.k + 1, t.clauses.length - (x.k + 1), _, _, putS x.m c.name true⟩, ⟨(by dsimp only; omega), Zio hm hcb, ?_, rfl⟩, (by dsimp only; omega), ⟨rfl, rfl, wr64 (by omega) (by omega)⟩, rfl, Xn E_ok _⟩
               rw [← hv]
               dsimp only
               congr 1
               · first | (simp only [*, Bool.or_true, Bool.true_or, Bool.false_or, Bool.or_false]; done) | (simp only [*, Bool.or_true, Bool.true_or, Bool.false_or, Bool.or_false]; rfl)
               · first | (simp only [*, Bool.or_true, Bool.true_or, Bool.false_or, Bool.or_false]; done) | (simp only [*, Bool.or_true, Bool.true_or, Bool.false_or, Bool.or_false]; symm; simp only [Bool.or_eq_true, Bool.or_eq_false_iff, decide_eq_true_eq, decide_eq_false_iff_not]; omega))
      · rw [Wx (by omega)] at hv
        rw [← hv]
        unfold goC
        refine And.intro (fun a1 => by rw [if_pos a1]) (fun a1 => And.intro (fun a2 => by rw [if_neg (by rw [a1]; simp), if_pos a2]) (fun a2 => by rw [if_neg (by rw [a1]; simp), if_neg (by rw [a2]; simp)]))
    · rw [decide_eq_false (show ¬ 64 < t.clauses.length by omega)]
      refine ⟨fun x => x.k ≤ t.clauses.length ∧ (∀ p ∈ x.m, Byt p.1) ∧ goC x.a x.b x.m (t.clauses.drop x.k) = goC (resF t.name) false [] t.clauses ∧ x.r = t.clauses.length - x.k, ⟨⟨0, t.clauses.length, resF t.name, false, []⟩, ⟨(by dsimp only; omega), by simp, rfl, rfl⟩, ⟨rfl, rfl, rfl⟩, rfl⟩, ?_⟩
      rintro x ⟨hk, hm, hv, hr⟩
      refine And.intro (fun hq => ⟨by omega, by omega, fun c hc => ?_⟩) (fun hq => ?_)
      · have hc : t.clauses[x.k]? = some c := hc
        rw [Vr hc, Zin] at hv
        have hcm := List.mem_of_getElem? hc
        obtain ⟨hs1, hs2⟩ := hsz c hcm
        have hcb := hby.2 c hcm
        refine And.intro (fun h5 => ?_) (fun h5 => ⟨by omega, fun h6 => ?_, fun h6 => ?_⟩)
        · rw [← hv, if_neg (by unfold Wo; rw [h5]; simp)]
        · rw [← hv, if_neg (by unfold Wo; rw [h6]; simp)]
        refine ⟨fun y => y.k ≤ c.when_.length ∧ (c.when_.drop y.k).all Z8 = c.when_.all Z8 ∧ y.r = c.when_.length - y.k, ⟨⟨0, c.when_.length, [], [], 0, 0, 0, 0⟩, ⟨(by dsimp only; omega), rfl, rfl⟩, rfl, Xn E_ok _⟩, ?_⟩
        rintro y ⟨hk2, hv2, hr2⟩
        refine And.intro (fun hq2 => ⟨by omega, by omega, fun w hw => ?_⟩) (fun hq2 => ?_)
        · have hw : c.when_[y.k]? = some w := hw
          rw [Zqs hw] at hv2
          have hT : Z8 w = decide (0 ≤ w.attr ∧ w.attr < 16 ∧ 0 ≤ w.low ∧ w.low ≤ 1099511627776 ∧ 0 ≤ w.high ∧ w.high ≤ 1099511627776) := rfl
          refine ⟨fun b => b = true ↔ Z8 w = false, ?_, fun hQ => ?_, fun hQ => ?_⟩
          · have q1 : (¬ (0 ≤ w.attr ∧ w.attr < 16 ∧ 0 ≤ w.low ∧ w.low ≤ 1099511627776 ∧ 0 ≤ w.high ∧ w.high ≤ 1099511627776)) → ((true = true) ↔ Z8 w = false) := fun h => by rw [hT, decide_eq_false h]; simp
            have q2 : (0 ≤ w.attr ∧ w.attr < 16 ∧ 0 ≤ w.low ∧ w.low ≤ 1099511627776 ∧ 0 ≤ w.high ∧ w.high ≤ 1099511627776) → ((false = true) ↔ Z8 w = false) := fun h => by rw [hT, decide_eq_true h]; simp
            refine And.intro (fun a1 => q1 (by omega)) (fun a1 => And.intro (fun a2 => q1 (by omega)) (fun a2 => And.intro (fun a3 => q1 (by omega)) (fun a3 => And.intro (fun a4 => q1 (by omega)) (fun a4 => q2 (by omega)))))
          · have hQ := hQ.1 rfl
            rw [hQ, Bool.false_and] at hv2
            rw [← hv, if_neg (by unfold Wo; rw [← hv2]; simp)]
          · have hQ : Z8 w = true := by
              cases hh : Z8 w with
              | true => rfl
              | false => have := hQ.2 hh; simp at this
            rw [hQ, Bool.true_and] at hv2
            exact ⟨⟨y.k + 1, c.when_.length - (y.k + 1), [], [], 0, 0, 0, 0⟩, ⟨(by dsimp only; omega), hv2, rfl⟩, by show c.when_.length - (y.k + 1) + 1 ≤ y.r; omega, wr64 (by omega) (by omega), Xn E_ok _⟩
        · rw [Wx (by omega)] at hv2
          have hok : Wo c = true := by unfold Wo; rw [h5, h6, ← hv2]; rfl
          rw [if_pos hok] at hv
          clear hv2 hr2 hq2 hk2 hok
          repeat' (first | (refine And.intro ?_ ?_) | (refine ⟨x.m, rfl, hm, ?_⟩) | (rintro _ rfl) | (intro h))
          all_goals first
            | omega
            | exact hcb
            | (refine ⟨⟨x.k + 1, t.clauses.length - (x.k + 1), _, _, putS x.m c.name true⟩, ⟨(by dsimp only; omega), Zio hm hcb, ?_, rfl⟩, (by dsimp only; omega), ⟨rfl, rfl, wr64 (by omega) (by omega)⟩, rfl, Xn E_ok _⟩
               rw [← hv]
               dsimp only
               congr 1
               · first | (simp only [*, Bool.or_true, Bool.true_or, Bool.false_or, Bool.or_false]; done) | (simp only [*, Bool.or_true, Bool.true_or, Bool.false_or, Bool.or_false]; rfl)
               · first | (simp only [*, Bool.or_true, Bool.true_or, Bool.false_or, Bool.or_false]; done) | (simp only [*, Bool.or_true, Bool.true_or, Bool.false_or, Bool.or_false]; symm; simp only [Bool.or_eq_true, Bool.or_eq_false_iff, decide_eq_true_eq, decide_eq_false_iff_not]; omega))
      · rw [Wx (by omega)] at hv
        rw [← hv]
        unfold goC
        refine And.intro (fun a1 => by rw [if_pos a1]) (fun a1 => And.intro (fun a2 => by rw [if_neg (by rw [a1]; simp), if_pos a2]) (fun a2 => by rw [if_neg (by rw [a1]; simp), if_neg (by rw [a2]; simp)]))
end
section
open Go
noncomputable def dCl:Dc E Cls:=(dR .clauses:Dc E (thy.dom Th.clauses))
noncomputable def dCls:Dc E (List Cls):=(Ztx (E:=E) Th.clauses:Dc E (List (thy.dom Th.clauses)))
noncomputable def Ya5:Sum thy:=sumM (mI (dA1 dN) (n1 fun _=>rfl) dTs (fun _=>rfl)) (fun _ _=>True) fun x a=>Wp a.1 x.1 x.2.1
theorem Z13:SumOk E 68 Ya5:=Xc E_ok (Zd rfl) fun x a _=>Z1m x.1 x.2.1 a.1
def Aif:Fr thy->Hp thy->Nat->Ann thy:=fun T h i=>{X:=LX,fr:=fun x=> [(0,T 0),(1,T 1),(7,T 7),(8,.int false .i64 x.k)],bl:=fun x=>(match T 1 with| .fn _ _ [v]=>blkP h v|_=> []),src:=fun _=> [],md:= [],ih:=i,M:=i+30,meas:=fun x=>x.r}
structure TX where
 ts:List Tst
 l:List Tok
 ed:Int
 more:Bool
 k:Nat
def cellsOf (h:Hp thy) (v:SV thy):List (SV thy):=match h (bOf v) with|some (.raw cs _ _)=>cs|_=> []
def Atl:Fr thy->Hp thy->Nat->Ann thy:=fun T h i=>{X:=Bool×TX,fr:=fun x=> [(0,T 0),(4,T 4),(5,T 5),(6,T 6),(7,.bool false x.2.more)],bl:=fun x=>(bOf (T 0),.raw [.psl Th.toks x.2.l false,.int false .i64 x.2.ed] 0 none)::(bOf (T 6),.raw ((cellsOf h (T 6)).take 1++((match x.1 with|true=> .sl i 0 x.2.ts.length 3 none|false=> .val (.slice none 0 0))::(cellsOf h (T 6)).drop 2)) 0 none)::((match x.1 with|true=> [(i,.rows Th.tests x.2.ts 0)]|false=> [])++blkP h (T 4)),src:=fun x=>(match x.1 with|true=> [(i,2006)]|false=> []),md:= [bOf (T 0),bOf (T 6)],ih:=i+1,M:=i+60,meas:=fun x=>x.2.k,ex:=ex2,al:=al2,exOk:=Zxt,alOk:=Zxu}
noncomputable def Fcl:Fns thy:=addL (addL (addS (addS (addS (addS Fme 32 Z1i) 68 Ya5) 69 Sx) 51 Zim) 97 2 Aif E) 34 6 Atl E
theorem Ya6:FnsOk E Fcl:=Yc E_ok (Yc E_ok (Zb (Zb (Zb (Zb Zfk Zq6) Z13) Ydu) Ze9) _ _ _) _ _ _
def pTs:Nat->Bool->List Tst->List Tok->Int->PR (List Tst)
 |0,_,ts,l,e=> .ok (ts,l,e,())
 |k+1,more,ts,l,e=>
  if more then
   match Wp ts.length l e with
   | .error er=> .error er
   | .ok (t,x)=>pTs k (isW [97,110,100] x.1) (ts++ [t]) (if isW [97,110,100] x.1 then x.1.tail else x.1) x.2.1
  else .ok (ts,l,e,())
def pPay (nm:List Nat) (ts:List Tst) (l:List Tok) (e:Int):PR Cls:=
 if isW [112,97,121] l then
  match pX l.tail e with
  | .error er=> .error er
  | .ok (x,y)=>
   if 24<Z0 x then .error (hdT e l.tail,2)
   else if isW [59] y.1 then .ok (⟨nm,ts,x⟩,y.1.tail,y.2.1,()) else .error (hdT y.2.1 y.1,160)
 else .error (hdT e l,160)
def pAft (nm:List Nat) (r:PR (List Tst)):PR Cls:=
 match r with
 | .error er=> .error er
 | .ok (ts,y)=>pPay nm ts y.1 y.2.1
def Z5 (bs:List Cls) (l:List Tok) (e:Int):PR Cls:=
 match Ua l e with
 | .error er=> .error er
 | .ok (nm,x)=>
  if bs.any (fun b=>b.name==nm) then .error (hdT e l,161)
  else pAft nm (pTs 10 (isW [119,104,101,110] x.1) [] (if isW [119,104,101,110] x.1 then x.1.tail else x.1) x.2.1)
theorem Zb7 {l:List Tok} {e:Int} {y:List Nat} {x:PX} (h:Ua l e= .ok (y,x)):x.1.length<l.length:=by
 unfold Ua at h
 split at h
 · cases h
 · split at h
   · split at h
     · cases h
     · injection h with h
       injection h with _ h
       subst h
       exact Nat.lt_succ_self _
   · cases h
theorem Zi7 {l:List Tok} {e:Int} {y:Int} {x:PX} (h:pInt l e= .ok (y,x)):x.1.length<l.length:=by
 unfold pInt at h
 split at h
 · cases h
 · split at h
   · injection h with h
     injection h with _ h
     subst h
     exact Nat.lt_succ_self _
   · cases h
theorem Zxk {s:List Nat} {l:List Tok}:(if isW s l=true then l.tail else l).length<=l.length:=by
 split
 · have:=Zp (by assumption);omega
 · exact Nat.le_refl _
theorem Zfo {n:Int} {l:List Tok} {e:Int} {y:Tst} {x:PX} (h:Wp n l e= .ok (y,x)):x.1.length<l.length/\n≠8:=by
 unfold Wp at h
 split at h
 · cases h
 · rename_i a x0 hm
   obtain ⟨h1,_,rfl⟩:=Zak hm
   have hp:=Zbk h1
   split at h
   · cases h
   · rename_i hn
     refine ⟨?_,hn⟩
     split at h
     · rename_i hw
       have hw:=Zp hw
       split at h
       · cases h
       · rename_i m x1 hi
         have hi:=Zi7 hi
         injection h with h
         injection h with _ h
         subst h
         have hw:l.tail.tail.length+1=l.tail.length:=hw
         have hi:x1.1.length<l.tail.tail.length:=hi
         omega
     · split at h
       · rename_i hw
         have hw:=Zp hw
         split at h
         · cases h
         · rename_i m x1 hi
           have hi:=Zi7 hi
           have hw:l.tail.tail.length+1=l.tail.length:=hw
           have hi:x1.1.length<l.tail.tail.length:=hi
           split at h
           · rename_i hw2
             have hw2:=Zp hw2
             split at h
             · cases h
             · rename_i k x2 hi2
               have hi2:=Zi7 hi2
               injection h with h
               injection h with _ h
               subst h
               omega
           · cases h
       · cases h
abbrev qCB6:=(0:Nat)
abbrev qCB9 (a0:Int) (b0:Bool) (c0:TX):=(qCB6=qCB6/\qCB6=qCB6/\a0=a0/\qCB6=qCB6/\b0=TX.more c0/\True)
abbrev qCB7:=(0:Int)
abbrev qCB3 (a0:List Nat):=(a0=a0/\Value.slice none qCB6 qCB6=Value.slice none qCB6 qCB6/\qCB7=qCB7/\qCB7=qCB7/\qCB7=qCB7/\qCB7=qCB7/\qCB7=qCB7/\qCB7=qCB7/\Value.slice none qCB6 qCB6=Value.slice none qCB6 qCB6/\True)
abbrev qCBi (a0:TX):=(List.tail (TX.l a0))
abbrev qCB4 (a0:Ex):=(Ex.mk (Ex.op a0) (Ex.n a0) (Ex.d0 a0) (Ex.d1 a0) (Ex.d2 a0) (Ex.d3 a0) (Ex.l a0))
abbrev qCBb (a0:Ex):=((↑(Z0 (qCB4 a0)):Int)>(24:Int))
abbrev qCBc (a0:TX) (b0:PR Cls):=(isW [(112:Nat),(97:Nat),(121:Nat)] (TX.l a0)=false->b0=Except.error (hdT (TX.ed a0) (TX.l a0),(160:Int)))
abbrev qCBa (a0:PX):=(Prod.fst (Prod.snd a0))
abbrev qCBg (a0:PX) (b0:PR Cls):=(isW [(59:Nat)] (Prod.fst a0)=false->b0=Except.error (hdT (qCBa a0) (Prod.fst a0),(160:Int)))
abbrev qCB2:=(([]:List Nat)= []/\Value.slice none qCB6 qCB6=Value.slice none qCB6 qCB6/\qCB7=qCB7/\qCB7=qCB7/\qCB7=qCB7/\qCB7=qCB7/\qCB7=qCB7/\qCB7=qCB7/\Value.slice none qCB6 qCB6=Value.slice none qCB6 qCB6/\True)
abbrev qCBh:=(false=true->false=true)
abbrev qCB8 (a0:PX) (b0:TX):=((Prod.fst a0=TX.l b0/\qCBh)/\Prod.fst (Prod.snd a0)=TX.ed b0/\True)
abbrev qCB5 (a0:Bool×TX->Prop) (b0:TX) (c0:Int) (d0:Bool) (e0:PX) (f0:List Nat):=(∃(y_6:TX),a0 (false,y_6)/\y_6.5+(1:Nat)<=b0.5/\true=true/\(qCB9 c0 d0 y_6)/\(qCB8 e0 y_6)/\(f0=f0/\False/\qCB7=qCB7/\qCB7=qCB7/\qCB7=qCB7/\qCB7=qCB7/\qCB7=qCB7/\qCB7=qCB7/\Value.slice none qCB6 qCB6=Value.slice none qCB6 qCB6/\True)/\qCB2/\True)
abbrev qCB1 (a0:PX) (b0:Int) (c0:List Nat) (d0:PR Cls):=(∀(y_2:Bool) (x'_1:PX),pAcc [(119:Nat),(104:Nat),(101:Nat),(110:Nat)] (Prod.fst a0) (qCBa a0)=Except.ok (y_2,x'_1)->∃(R:Bool×TX->Prop),((∃(y_3:TX),R (false,y_3)/\true=true/\(qCB9 b0 y_2 y_3)/\(qCB8 x'_1 y_3)/\(qCB3 c0)/\qCB2/\True)\/∃(b0:TX),R (true,b0)/\true=true/\False)/\(∀(y_3:TX),R (false,y_3)->(TX.more y_3=true->True/\(∀(y_4:Tst) (a0:PX),Wp qCB7 (TX.l y_3) (TX.ed y_3)=Except.ok (y_4,a0)->True/\(∀(y_5:Bool) (x'_2:PX),pAcc [(97:Nat),(110:Nat),(100:Nat)] (Prod.fst a0) (qCBa a0)=Except.ok (y_5,x'_2)->(qCB5 R y_3 b0 y_5 x'_2 c0)\/∃(y_6:TX),R (true,y_6)/\y_6.5+(1:Nat)<=y_3.5/\true=true/\(qCB9 b0 y_5 y_6)/\(qCB8 x'_2 y_6)/\(c0=c0/\(qCB6=qCB6/\(1:Nat)=List.length (TX.ts y_6)/\True)/\qCB7=qCB7/\qCB7=qCB7/\qCB7=qCB7/\qCB7=qCB7/\qCB7=qCB7/\qCB7=qCB7/\Value.slice none qCB6 qCB6=Value.slice none qCB6 qCB6/\True)/\([y_4]=TX.ts y_6/\qCB6=qCB6)/\qCB2/\True)/\∀(e:Int×Int),pAcc [(97:Nat),(110:Nat),(100:Nat)] (Prod.fst a0) (qCBa a0)=Except.error e->d0=Except.error e)/\∀(e:Int×Int),Wp qCB7 (TX.l y_3) (TX.ed y_3)=Except.error e->d0=Except.error e)/\(TX.more y_3=false->(isW [(112:Nat),(97:Nat),(121:Nat)] (TX.l y_3)=true->∀(b0:Int),b0=hdT (TX.ed y_3) (qCBi y_3)->True/\(∀(y_4:Ex) (a0:PX),pX (qCBi y_3) (TX.ed y_3)=Except.ok (y_4,a0)->Ex.sz (qCB4 y_4)+(1:Nat)<=(1000000000000:Nat)/\(decide (qCBb y_4)=true->d0=Except.error (b0,(2:Int)))/\(decide (qCBb y_4)=false->(isW [(59:Nat)] (Prod.fst a0)=true->d0=Except.ok (Cls.mk c0 [] (qCB4 y_4),List.tail (Prod.fst a0),Prod.fst (Prod.snd a0),()))/\(qCBg a0 d0)))/\∀(e:Int×Int),pX (qCBi y_3) (TX.ed y_3)=Except.error e->d0=Except.error e)/\(qCBc y_3 d0)))/\∀(y_3:TX),R (true,y_3)->(TX.more y_3=true->True/\(∀(y_4:Tst) (a0:PX),Wp (↑(List.length (TX.ts y_3)):Int) (TX.l y_3) (TX.ed y_3)=Except.ok (y_4,a0)->(List.length (TX.ts y_3)<=List.length (TX.ts y_3)/\qCB6<=List.length (TX.ts y_3)/\(List.length (TX.ts y_3)+(1:Nat))*(24:Nat)<=(140737488355328:Nat))/\True/\(∀(y_5:Bool) (x'_2:PX),pAcc [(97:Nat),(110:Nat),(100:Nat)] (Prod.fst a0) (qCBa a0)=Except.ok (y_5,x'_2)->(qCB5 R y_3 b0 y_5 x'_2 c0)\/∃(y_6:TX),R (true,y_6)/\y_6.5+(1:Nat)<=y_3.5/\true=true/\(qCB9 b0 y_5 y_6)/\(qCB8 x'_2 y_6)/\(c0=c0/\(qCB6=qCB6/\List.length (TX.ts y_3)+(1:Nat)=List.length (TX.ts y_6)/\True)/\qCB7=qCB7/\qCB7=qCB7/\qCB7=qCB7/\qCB7=qCB7/\qCB7=qCB7/\qCB7=qCB7/\Value.slice none qCB6 qCB6=Value.slice none qCB6 qCB6/\True)/\(List.take (List.length (TX.ts y_3)) (TX.ts y_3)++ [y_4]=TX.ts y_6/\qCB6=qCB6)/\qCB2/\True)/\∀(e:Int×Int),pAcc [(97:Nat),(110:Nat),(100:Nat)] (Prod.fst a0) (qCBa a0)=Except.error e->d0=Except.error e)/\∀(e:Int×Int),Wp (↑(List.length (TX.ts y_3)):Int) (TX.l y_3) (TX.ed y_3)=Except.error e->d0=Except.error e)/\(TX.more y_3=false->(isW [(112:Nat),(97:Nat),(121:Nat)] (TX.l y_3)=true->∀(b0:Int),b0=hdT (TX.ed y_3) (qCBi y_3)->True/\(∀(y_4:Ex) (a0:PX),pX (qCBi y_3) (TX.ed y_3)=Except.ok (y_4,a0)->Ex.sz (qCB4 y_4)+(1:Nat)<=(1000000000000:Nat)/\(decide (qCBb y_4)=true->d0=Except.error (b0,(2:Int)))/\(decide (qCBb y_4)=false->(isW [(59:Nat)] (Prod.fst a0)=true->qCB6+List.length (TX.ts y_3)<=List.length (TX.ts y_3)/\d0=Except.ok (Cls.mk c0 (List.take (List.length (TX.ts y_3)) (List.drop qCB6 (TX.ts y_3))) (qCB4 y_4),List.tail (Prod.fst a0),Prod.fst (Prod.snd a0),()))/\(qCBg a0 d0)))/\∀(e:Int×Int),pX (qCBi y_3) (TX.ed y_3)=Except.error e->d0=Except.error e)/\(qCBc y_3 d0)))
abbrev qCBd (a0:List Cls):=(↑(List.length a0):Int)
abbrev qCBe:=(Fn.func (67:Nat)=Fn.func (67:Nat)/\True/\qCB6=qCB6/\True)
abbrev qCBf (a0:LX):=(↑(LX.k a0):Int)
theorem Znz (l:List Tok) (e:Int) (bs:List Cls) (out:PR Cls):Zk E Fcl (vc E Fcl 400) 34 [.ptr 0 0,.psl Th.clauses bs false] (one [.psl Th.toks l false,.int false .i64 e]) 1 (mK (dA1 dCls) (n1 fun _=>rfl) dCl (fun _=>rfl) l e out)=(
 ∀(y:Int),y=hdT e l->True/\(∀(y_1:List Nat) (x':PX),Ua l e=Except.ok (y_1,x')->∃(R:LX->Prop),(∃(x:LX),R x/\true=true/\((bs=bs/\qCBh)/\qCBe/\(qCBd bs)=(qCBd bs)/\qCB7=(qCBf x)/\True)/\(qCB3 y_1)/\True)/\∀(x:LX),R x->(decide ((qCBf x)<(qCBd bs))=true->qCB7<=(qCBf x)/\(qCBf x)+(1:Int)<=(qCBd bs)/\∀(x_1:Cls),bs[Int.toNat (qCBf x)]? =some x_1->((Cls.name x_1==y_1)=true->(decide ((qCBf x)>=qCB7)=true->out=Except.error (y,(161:Int)))/\(decide ((qCBf x)>=qCB7)=false->True/\(qCB1 x' y y_1 out)/\∀(e:Int×Int),pAcc [(119:Nat),(104:Nat),(101:Nat),(110:Nat)] (Prod.fst x') (qCBa x')=Except.error e->out=Except.error e))/\((Cls.name x_1==y_1)=false->∃(x_2:LX),R x_2/\x_2.2+(1:Nat)<=x.2/\true=true/\((bs=bs/\qCBh)/\qCBe/\(qCBd bs)=(qCBd bs)/\wr IntKind.i64 ((qCBf x)+(1:Int))=(qCBf x_2)/\True)/\(qCB3 y_1)/\True))/\(decide ((qCBf x)<(qCBd bs))=false->True/\(qCB1 x' y y_1 out)/\∀(e:Int×Int),pAcc [(119:Nat),(104:Nat),(101:Nat),(110:Nat)] (Prod.fst x') (qCBa x')=Except.error e->out=Except.error e))/\∀(e_1:Int×Int),Ua l e=Except.error e_1->out=Except.error e_1):=by kernel_rfl
theorem Zte (bs:List Cls) (l:List Tok) (e:Int) (hl:l.length<1000000000) (hb:bs.length<=1000000000):Wn (mI (dA1 dCls) (n1 fun _=>rfl) dCl (fun _=>rfl)) 34 (l,e,()) (bs,()) (Z5 bs l e):=by
 refine V6 Ya6 (n:=400) (a:=(bs,())) ?_
 rw [show (dA1 dCls).enc (bs,())= [.psl Th.clauses bs false] from rfl,Znz];delta qCB6 qCB9 qCB7 qCB3 qCBi qCB4 qCBb qCBc qCBa qCBg qCB2 qCBh qCB8 qCB5 qCB1 qCBd qCBe qCBf
 intro y0 hy0
 subst hy0
 refine ⟨trivial,fun nm x h1=> ?_,fun er h1=>by simp [Z5,h1]⟩
 have hx:=Zb7 h1
 refine ⟨fun z=>z.k<=bs.length/\(bs.drop z.k).any (fun b=>b.name==nm)=bs.any (fun b=>b.name==nm)/\z.r=bs.length-z.k,⟨⟨0,bs.length,[],0⟩,⟨(by dsimp only;omega),rfl,rfl⟩,by simp⟩,?_⟩
 rintro z ⟨hk,hv,hr⟩
 refine ⟨fun hq=> ?_,fun hq=>⟨trivial,fun more x1 h2=> ?_,fun er h2=>by cases h2⟩⟩
 · have hq:(z.k:Int)<bs.length:=by simpa using hq
   refine ⟨by omega,by omega,fun c hc=> ?_⟩
   have hc:bs[z.k]? =some c:=hc
   have hlt:=(List.getElem?_eq_some_iff.1 hc).1
   have hce:bs[z.k]=c:=(List.getElem?_eq_some_iff.1 hc).2
   rw [List.drop_eq_getElem_cons hlt,hce,List.any_cons] at hv
   refine ⟨fun hn=>⟨fun _=> ?_,fun hneg=>absurd hneg (by rw [decide_eq_false_iff_not];omega)⟩,fun hn=> ?_⟩
   · rw [hn,Bool.true_or] at hv
     simp [Z5,h1,<-hv]
   · rw [hn,Bool.false_or] at hv
     exact ⟨⟨z.k+1,bs.length-(z.k+1),[],0⟩,⟨(by dsimp only;omega),hv,rfl⟩,(by show bs.length-(z.k+1)+1<=z.r;omega),rfl,⟨⟨rfl,fun h=>h⟩,⟨rfl,trivial,rfl,trivial⟩,rfl,wr64 (by omega) (by omega),trivial⟩,⟨rfl,rfl,rfl,rfl,rfl,rfl,rfl,rfl,rfl,trivial⟩,trivial⟩
 · have hq:¬(z.k:Int)<bs.length:=by simpa using hq
   rw [List.drop_eq_nil_of_le (by omega),List.any_nil] at hv
   unfold pAcc at h2
   injection h2 with h2
   injection h2 with e1 e2
   subst e1;subst e2
   have hout:Z5 bs l e=pAft nm (pTs 10 (isW [119,104,101,110] x.1) [] (if isW [119,104,101,110] x.1 then x.1.tail else x.1) x.2.1):=by simp [Z5,h1,<-hv]
   rw [hout]
   clear hv hk hr hq
   have hif:=Zxk (s:= [119,104,101,110]) (l:=x.1)
   generalize hO:pAft nm (pTs 10 (isW [119,104,101,110] x.1) [] (if isW [119,104,101,110] x.1 then x.1.tail else x.1) x.2.1)=OUT at hout⊢
   refine ⟨fun p=>pAft nm (pTs p.2.k p.2.more p.2.ts p.2.l p.2.ed)=OUT/\p.2.ts.length+p.2.k=10/\p.2.ts.length<=8/\p.2.l.length<1000000000/\(p.1=false->p.2.ts= []),.inl ⟨⟨[],if isW [119,104,101,110] x.1 then x.1.tail else x.1,x.2.1,isW [119,104,101,110] x.1,10⟩,⟨hO,rfl,Nat.zero_le _,(by dsimp only;omega),fun _=>rfl⟩,by simp⟩,?_,?_⟩
   · rintro ⟨ts,l1,ed,more,k⟩ ⟨hR,hk,h8,hl1,hts⟩
     have hts:ts= []:=hts rfl
     subst hts
     have hk:k=10:=by simpa using hk
     subst hk
     have hR:pAft nm (pTs 10 more [] l1 ed)=OUT:=hR
     have hl1':l1.length<1000000000:=hl1
     clear hl1
     have hl1:=hl1'
     clear hl1'
     rw [<-hR]
     clear hR hout hO
     refine ⟨fun hm=>⟨trivial,fun t x2 h3=>⟨trivial,fun m2 x3 h4=> ?_,fun er h4=>by cases h4⟩,fun er h3=> ?_⟩,fun hm=> ?_⟩
     · have hm':more=true:=hm
       have h3':Wp 0 l1 ed= .ok (t,x2):=h3
       clear hm h3
       subst hm'
       unfold pAcc at h4
       injection h4 with h4
       injection h4 with e1 e2
       subst e1;subst e2
       have hq:=Zfo h3'
       have hi2:=Zxk (s:= [97,110,100]) (l:=x2.1)
       refine .inr ⟨⟨[t],if isW [97,110,100] x2.1 then x2.1.tail else x2.1,x2.2.1,isW [97,110,100] x2.1,9⟩,⟨by simp [pTs,h3'],rfl,(by show 1<=8;omega),(by dsimp only;omega),fun h=>by cases h⟩,Nat.le_refl _,by simp⟩
     · have hm':more=true:=hm
       have h3':Wp 0 l1 ed= .error er:=h3
       clear hm h3
       subst hm'
       simp [pTs,pAft,h3']
     · have hm':more=false:=hm
       clear hm
       subst hm'
       revert hl1
       dsimp only
       intro hl1
       refine ⟨fun w y hy=>⟨trivial,fun ex x4 h5=> ?_,fun er h5=>by simp [pTs,pAft,pPay,w,h5]⟩,fun w=>by simp [pTs,pAft,pPay,w]⟩
       subst hy
       have hs:=Zru _ _ _ _ h5
       have hw:=Zp w
       rw [Ex.eta]
       refine ⟨by omega,fun hn=> ?_,fun hn=>⟨fun w2=> ?_,fun w2=> ?_⟩⟩
       · have hn:(24:Int)<Z0 ex:=by simpa using hn
         have hn:24<Z0 ex:=by omega
         simp [pTs,pAft,pPay,w,h5,hn]
       · have hn:(Z0 ex:Int)<=24:=by simpa using hn
         have hn:¬24<Z0 ex:=by omega
         simp [pTs,pAft,pPay,w,h5,hn,w2]
       · have hn:(Z0 ex:Int)<=24:=by simpa using hn
         have hn:¬24<Z0 ex:=by omega
         simp [pTs,pAft,pPay,w,h5,hn,w2]
   · rintro ⟨ts,l1,ed,more,k⟩ ⟨hR,hk,h8,hl1,_⟩
     have hk:ts.length+k=10:=hk
     have h8:ts.length<=8:=h8
     have hR:pAft nm (pTs k more ts l1 ed)=OUT:=hR
     have hl1':l1.length<1000000000:=hl1
     clear hl1
     have hl1:=hl1'
     clear hl1'
     rw [<-hR]
     clear hR hout hO
     obtain ⟨k,rfl⟩:∃k',k=k'+1:=⟨k-1,by omega⟩
     refine ⟨fun hm=>⟨trivial,fun t x2 h3=>⟨⟨Nat.le_refl _,Nat.zero_le _,(by dsimp only;omega)⟩,trivial,fun m2 x3 h4=> ?_,fun er h4=>by cases h4⟩,fun er h3=> ?_⟩,fun hm=> ?_⟩
     · have hm':more=true:=hm
       have h3':Wp ts.length l1 ed= .ok (t,x2):=h3
       clear hm h3
       subst hm'
       unfold pAcc at h4
       injection h4 with h4
       injection h4 with e1 e2
       subst e1;subst e2
       have hq:=Zfo h3'
       have hi2:=Zxk (s:= [97,110,100]) (l:=x2.1)
       refine .inr ⟨⟨ts++ [t],if isW [97,110,100] x2.1 then x2.1.tail else x2.1,x2.2.1,isW [97,110,100] x2.1,k⟩,⟨by simp [pTs,h3'],(by simp;omega),(by simp;omega),(by dsimp only;omega),fun h=>by cases h⟩,Nat.le_refl _,by simp⟩
     · have hm':more=true:=hm
       have h3':Wp ts.length l1 ed= .error er:=h3
       clear hm h3
       subst hm'
       simp [pTs,pAft,h3']
     · have hm':more=false:=hm
       clear hm
       subst hm'
       revert hl1
       dsimp only
       intro hl1
       refine ⟨fun w y hy=>⟨trivial,fun ex x4 h5=> ?_,fun er h5=>by simp [pTs,pAft,pPay,w,h5]⟩,fun w=>by simp [pTs,pAft,pPay,w]⟩
       subst hy
       have hs:=Zru _ _ _ _ h5
       have hw:=Zp w
       rw [Ex.eta]
       refine ⟨by omega,fun hn=> ?_,fun hn=>⟨fun w2=> ?_,fun w2=> ?_⟩⟩
       · have hn:(24:Int)<Z0 ex:=by simpa using hn
         have hn:24<Z0 ex:=by omega
         simp [pTs,pAft,pPay,w,h5,hn]
       · have hn:(Z0 ex:Int)<=24:=by simpa using hn
         have hn:¬24<Z0 ex:=by omega
         exact ⟨by omega,by simp [pTs,pAft,pPay,w,h5,hn,w2]⟩
       · have hn:(Z0 ex:Int)<=24:=by simpa using hn
         have hn:¬24<Z0 ex:=by omega
         simp [pTs,pAft,pPay,w,h5,hn,w2]
end
section
open Go
def isL (n:Int):Bool:=decide (97<=n)&&decide (n<=122)
def isD (n:Int):Bool:=decide (48<=n)&&decide (n<=57)
def isLD (n:Int):Bool:=isL n||isD n
noncomputable def dU8:Dc E Int:=dInt .u8
theorem Zpr (n:Int) (v:Bool):Zk E F0 (vc E F0 400) 90 [.int false .u8 n] hp0 0 (fun r=>ret E (patch hp0 0 r) r.v (.bool false v))=(
(decide ((97:Int)<=n)=true->(decide (n<=(122:Int))=true->true=v)/\(decide (n<=(122:Int))=false->false=v))/\(decide ((97:Int)<=n)=false->false=v)):=by kernel_rfl
theorem Zps (n:Int):PureC E 90 [.int false .u8 n] (.bool false (isL n)):=by
 refine Zc E_ok (Zi E_ok F0_ok 400) ?_
 rw [Zpr]
 unfold isL
 refine ⟨fun h=>⟨fun h2=> ?_,fun h2=> ?_⟩,fun h=> ?_⟩
 · rw [h,h2];rfl
 · rw [h,h2];rfl
 · rw [h];rfl
theorem Zuf (n:Int) (v:Bool):Zk E F0 (vc E F0 400) 93 [.int false .u8 n] hp0 0 (fun r=>ret E (patch hp0 0 r) r.v (.bool false v))=(
(decide ((48:Int)<=n)=true->(decide (n<=(57:Int))=true->true=v)/\(decide (n<=(57:Int))=false->false=v))/\(decide ((48:Int)<=n)=false->false=v)):=by kernel_rfl
theorem Zug (n:Int):PureC E 93 [.int false .u8 n] (.bool false (isD n)):=by
 refine Zc E_ok (Zi E_ok F0_ok 400) ?_
 rw [Zuf]
 unfold isD
 refine ⟨fun h=>⟨fun h2=> ?_,fun h2=> ?_⟩,fun h=> ?_⟩
 · rw [h,h2];rfl
 · rw [h,h2];rfl
 · rw [h];rfl
noncomputable def Zzs:Sum thy:=sumP (dA1 dU8) (fun _=>True) fun x=> .bool false (isL x.1)
noncomputable def Z5t:Sum thy:=sumP (dA1 dU8) (fun _=>True) fun x=> .bool false (isD x.1)
theorem Zuh:SumOk E 90 Zzs:=Ym E_ok (Zd (f:=90) rfl) fun x _=>Zps x.1
theorem Zzt:SumOk E 93 Z5t:=Ym E_ok (Zd (f:=93) rfl) fun x _=>Zug x.1
noncomputable def Flx:Fns thy:=addS (addS F0 90 Zzs) 93 Z5t
theorem Zzu:FnsOk E Flx:=Zb (Zb F0_ok Zuh) Zzt
theorem Zzv (n:Int) (v:Bool):Zk E Flx (vc E Flx 400) 92 [.int false .u8 n] hp0 0 (fun r=>ret E (patch hp0 0 r) r.v (.bool false v))=(
True/\(isL n=true->true=v)/\(isL n=false->True/\isD n=v)):=by kernel_rfl
theorem Zzw (n:Int):PureC E 92 [.int false .u8 n] (.bool false (isLD n)):=by
 refine Zc E_ok (Zi E_ok Zzu 400) ?_
 rw [Zzv]
 unfold isLD
 refine ⟨trivial,fun h=> ?_,fun h=>⟨trivial,?_⟩⟩
 · rw [h];rfl
 · rw [h];rfl
noncomputable def Yb8:Sum thy:=sumP (dA1 dU8) (fun _=>True) fun x=> .bool false (isLD x.1)
theorem Z3s:SumOk E 92 Yb8:=Ym E_ok (Zd (f:=92) rfl) fun x _=>Zzw x.1
def Asp:Fr thy->Hp thy->Nat->Ann thy:=fun T h i=>{X:=LX,fr:=fun x=> [(0,T 0),(1,T 1),(7,T 7),(8,.int false .i64 x.k)],bl:=fun x=> [],src:=fun _=> [],md:= [],ih:=i,M:=i+30,meas:=fun x=>x.r}
noncomputable def Zzx:Fns thy:=addL (addS Flx 92 Yb8) 91 2 Asp E
theorem Zsc:FnsOk E Zzx:=Yc E_ok (Zb Zzu Z3s) _ _ _
def spn (f:Int->Bool):List Nat->Nat
 | []=>0
 |c::r=>if f c then spn f r+1 else 0
theorem Zel {f:Int->Bool} {s:List Nat} {k c:Nat} (h:s[k]? =some c):spn f (s.drop k)=if f c then spn f (s.drop (k+1))+1 else 0:=by
 have hlt:=(List.getElem?_eq_some_iff.1 h).1
 have hc:s[k]=c:=(List.getElem?_eq_some_iff.1 h).2
 rw [List.drop_eq_getElem_cons hlt,hc];rfl
theorem Zmc {f:Int->Bool}:∀{s:List Nat},spn f s<=s.length
 | []=>Nat.le_refl _
 |c::r=>by
  unfold spn
  have:=Zmc (f:=f) (s:=r)
  split
  · simp;omega
  · exact Nat.zero_le _
theorem Zui (s:List Nat) (v:Int):Zk E Zzx (vc E Zzx 400) 91 [.str false s,.fn (.func 92) [] []] hp0 0 (fun r=>ret E (patch hp0 0 r) r.v (.int false .i64 v))=(
∃(R:LX->Prop),(∃(x:LX),R x/\true=true/\(s=s/\(Fn.func (92:FuncId)=Fn.func (92:FuncId)/\True/\True)/\(↑(List.length s):Int)=(↑(List.length s):Int)/\(0:Int)=(↑(LX.k x):Int)/\True)/\True)/\∀(x:LX),R x->(decide ((↑(LX.k x):Int)<(↑(List.length s):Int))=true->(0:Int)<=(↑(LX.k x):Int)/\(↑(LX.k x):Int)+(1:Int)<=(↑(List.length s):Int)/\∀(x_1:Nat),s[Int.toNat (↑(LX.k x):Int)]? =some x_1->True/\((!isLD (↑x_1:Int))=true->(↑(LX.k x):Int)=v)/\((!isLD (↑x_1:Int))=false->∃(x_2:LX),R x_2/\x_2.2+(1:Nat)<=x.2/\true=true/\(s=s/\(Fn.func (92:FuncId)=Fn.func (92:FuncId)/\True/\True)/\(↑(List.length s):Int)=(↑(List.length s):Int)/\wr IntKind.i64 ((↑(LX.k x):Int)+(1:Int))=(↑(LX.k x_2):Int)/\True)/\True))/\(decide ((↑(LX.k x):Int)<(↑(List.length s):Int))=false->(↑(List.length s):Int)=v)):=by kernel_rfl
theorem Zuj (s:List Nat) (hs:s.length<=1000000000):PureC E 91 [.str false s,.fn (.func 92) [] []] (.int false .i64 (spn isLD s)):=by
 refine Zc E_ok (Zi E_ok Zsc 400) ?_
 rw [Zui]
 refine ⟨fun x=>x.k<=s.length/\x.k+spn isLD (s.drop x.k)=spn isLD s/\x.r=s.length-x.k,⟨⟨0,s.length,[],0⟩,⟨(by dsimp only;omega),by simp,rfl⟩,by simp⟩,?_⟩
 rintro x ⟨hk,hv,hr⟩
 refine ⟨fun hq=> ?_,fun hq=> ?_⟩
 · have hq:(x.k:Int)<s.length:=by simpa using hq
   refine ⟨by omega,by omega,fun c hc=>⟨trivial,fun hn=> ?_,fun hn=> ?_⟩⟩
   · have hc:s[x.k]? =some c:=hc
     rw [Zel hc] at hv
     have hn:isLD c=false:=by simpa using hn
     rw [hn] at hv
     simp at hv
     rw [<-hv]
   · have hc:s[x.k]? =some c:=hc
     rw [Zel hc] at hv
     have hn:isLD c=true:=by simpa using hn
     rw [hn,if_pos rfl] at hv
     exact ⟨⟨x.k+1,s.length-(x.k+1),[],0⟩,⟨(by dsimp only;omega),(by dsimp only;omega),rfl⟩,(by show s.length-(x.k+1)+1<=x.r;omega),rfl,⟨rfl,⟨rfl,trivial,trivial⟩,rfl,wr64 (by omega) (by omega),trivial⟩,trivial⟩
 · have hq:¬(x.k:Int)<s.length:=by simpa using hq
   rw [List.drop_eq_nil_of_le (by omega)] at hv
   have:x.k=spn isLD s:=by simpa [spn] using hv
   omega
theorem Zuk (s:List Nat) (v:Int):Zk E Zzx (vc E Zzx 400) 91 [.str false s,.fn (.func 93) [] []] hp0 0 (fun r=>ret E (patch hp0 0 r) r.v (.int false .i64 v))=(
∃(R:LX->Prop),(∃(x:LX),R x/\true=true/\(s=s/\(Fn.func (93:FuncId)=Fn.func (93:FuncId)/\True/\True)/\(↑(List.length s):Int)=(↑(List.length s):Int)/\(0:Int)=(↑(LX.k x):Int)/\True)/\True)/\∀(x:LX),R x->(decide ((↑(LX.k x):Int)<(↑(List.length s):Int))=true->(0:Int)<=(↑(LX.k x):Int)/\(↑(LX.k x):Int)+(1:Int)<=(↑(List.length s):Int)/\∀(x_1:Nat),s[Int.toNat (↑(LX.k x):Int)]? =some x_1->True/\((!isD (↑x_1:Int))=true->(↑(LX.k x):Int)=v)/\((!isD (↑x_1:Int))=false->∃(x_2:LX),R x_2/\x_2.2+(1:Nat)<=x.2/\true=true/\(s=s/\(Fn.func (93:FuncId)=Fn.func (93:FuncId)/\True/\True)/\(↑(List.length s):Int)=(↑(List.length s):Int)/\wr IntKind.i64 ((↑(LX.k x):Int)+(1:Int))=(↑(LX.k x_2):Int)/\True)/\True))/\(decide ((↑(LX.k x):Int)<(↑(List.length s):Int))=false->(↑(List.length s):Int)=v)):=by kernel_rfl
theorem Zul (s:List Nat) (hs:s.length<=1000000000):PureC E 91 [.str false s,.fn (.func 93) [] []] (.int false .i64 (spn isD s)):=by
 refine Zc E_ok (Zi E_ok Zsc 400) ?_
 rw [Zuk]
 refine ⟨fun x=>x.k<=s.length/\x.k+spn isD (s.drop x.k)=spn isD s/\x.r=s.length-x.k,⟨⟨0,s.length,[],0⟩,⟨(by dsimp only;omega),by simp,rfl⟩,by simp⟩,?_⟩
 rintro x ⟨hk,hv,hr⟩
 refine ⟨fun hq=> ?_,fun hq=> ?_⟩
 · have hq:(x.k:Int)<s.length:=by simpa using hq
   refine ⟨by omega,by omega,fun c hc=>⟨trivial,fun hn=> ?_,fun hn=> ?_⟩⟩
   · have hc:s[x.k]? =some c:=hc
     rw [Zel hc] at hv
     have hn:isD c=false:=by simpa using hn
     rw [hn] at hv
     simp at hv
     rw [<-hv]
   · have hc:s[x.k]? =some c:=hc
     rw [Zel hc] at hv
     have hn:isD c=true:=by simpa using hn
     rw [hn,if_pos rfl] at hv
     exact ⟨⟨x.k+1,s.length-(x.k+1),[],0⟩,⟨(by dsimp only;omega),(by dsimp only;omega),rfl⟩,(by show s.length-(x.k+1)+1<=x.r;omega),rfl,⟨rfl,⟨rfl,trivial,trivial⟩,rfl,wr64 (by omega) (by omega),trivial⟩,trivial⟩
 · have hq:¬(x.k:Int)<s.length:=by simpa using hq
   rw [List.drop_eq_nil_of_le (by omega)] at hv
   have:x.k=spn isD s:=by simpa [spn] using hv
   omega
def Anu:Fr thy->Hp thy->Nat->Ann thy:=fun T h i=>{X:=LX,fr:=fun x=> [(0,T 0),(4,.int false .i64 x.m),(15,T 15),(16,.int false .i64 x.k)],bl:=fun x=> [],src:=fun _=> [],md:= [],ih:=i,M:=i+30,meas:=fun x=>x.r}
noncomputable def Fnum:Fns thy:=addL F0 94 5 Anu E
theorem Z84:FnsOk E Fnum:=Yc E_ok F0_ok _ _ _
def numL (n:Int):List Nat->Int×Int
 | []=>(n,0)
 |c::r=>if 10*n+(c-48)>1099511627776 then (0,2) else numL (10*n+(c-48)) r
def numb (s:List Nat):Int×Int:=if 1<s.length/\s.head? =some 48 then (0,150) else numL 0 s
theorem Zzy {n:Int} {s:List Nat} {k c:Nat} (h:s[k]? =some c):numL n (s.drop k)=if 10*n+(c-48)>1099511627776 then (0,2) else numL (10*n+(c-48)) (s.drop (k+1)):=by
 have hlt:=(List.getElem?_eq_some_iff.1 h).1
 have hc:s[k]=c:=(List.getElem?_eq_some_iff.1 h).2
 rw [List.drop_eq_getElem_cons hlt,hc];rfl
abbrev qCC1 (a0:LX) (b0:Nat):=(wr IntKind.i64 ((10:Int)*LX.m a0)+wr IntKind.i64 (wr IntKind.u8 ((↑b0:Int)-(48:Int))))
abbrev qCC2 (a0:List Nat):=(↑(List.length a0):Int)
abbrev qCC3 (a0:LX):=(↑(LX.k a0):Int)
abbrev qCC4:=(0:Int)
theorem Zpt (s : List Nat) (v e : Int) : Zk E Fnum (vc E Fnum 400) 94 [.str false s] hp0 0 (fun r => ret E (patch hp0 0 r) r.v (.tup [.int false .i64 v, .int false .i64 e])) = (
 ∃ (Q : Bool → Prop), ((decide ((qCC2 s) > (1 : Int)) = true → qCC4 ≤ qCC4 ∧ qCC4 + (1 : Int) ≤ (qCC2 s) ∧ ∀ (x : Nat), s[Int.toNat qCC4]? = some x → (((↑x : Int) == (48 : Int)) = true → Q true) ∧ (((↑x : Int) == (48 : Int)) = false → Q false)) ∧ (decide ((qCC2 s) > (1 : Int)) = false → Q false)) ∧ (Q true → qCC4 = v ∧ (150 : Int) = e ∧ True) ∧ (Q false → ∃ (R : LX → Prop), (∃ (x : LX), R x ∧ true = true ∧ (s = s ∧ qCC4 = LX.m x ∧ (qCC2 s) = (qCC2 s) ∧ qCC4 = (qCC3 x) ∧ True) ∧ True) ∧ ∀ (x : LX), R x → (decide ((qCC3 x) < (qCC2 s)) = true → qCC4 ≤ (qCC3 x) ∧ (qCC3 x) + (1 : Int) ≤ (qCC2 s) ∧ ∀ (x_1 : Nat), s[Int.toNat (qCC3 x)]? = some x_1 → (decide (wr IntKind.i64 (qCC1 x x_1) > (1099511627776 : Int)) = true → qCC4 = v ∧ (2 : Int) = e ∧ True) ∧ (decide (wr IntKind.i64 (qCC1 x x_1) > (1099511627776 : Int)) = false → ∃ (x_2 : LX), R x_2 ∧ x_2.2 + (1 : Nat) ≤ x.2 ∧ true = true ∧ (s = s ∧ wr IntKind.i64 (qCC1 x x_1) = LX.m x_2 ∧ (qCC2 s) = (qCC2 s) ∧ wr IntKind.i64 ((qCC3 x) + (1 : Int)) = (qCC3 x_2) ∧ True) ∧ True)) ∧ (decide ((qCC3 x) < (qCC2 s)) = false → LX.m x = v ∧ qCC4 = e ∧ True))) := by kernel_rfl
theorem Zpu (s : List Nat) (hs : s.length ≤ 1000000000) (hd : ∀ c ∈ s, 48 ≤ c ∧ c ≤ 57) : PureC E 94 [.str false s] (.tup [.int false .i64 (numb s).1, .int false .i64 (numb s).2]) := by
  refine Zc E_ok (Zi E_ok Z84 400) ?_
  rw [Zpt]; delta qCC1 qCC2 qCC3 qCC4
  refine ⟨fun b => b = decide (1 < s.length ∧ s.head? = some 48), ⟨fun h => ?_, fun h => ?_⟩, fun h => ?_, fun h => ?_⟩
  · have h : (1 : Int) < s.length := by simpa using h
    refine ⟨Int.le_refl 0, by omega, fun x hx => ?_⟩
    have hx : s[0]? = some x := hx
    rw [List.head?_eq_getElem?, hx]
    refine ⟨fun h2 => ?_, fun h2 => ?_⟩
    · have h2 : x = 48 := by have : (x : Int) = 48 := by simpa using h2
                             omega
      simp [h2]; omega
    · have h2 : x ≠ 48 := by
        intro e
        subst e
        simp at h2
      simp [h2]
  · have h : ¬ (1 : Int) < s.length := by simpa using h
    have : ¬ 1 < s.length := by omega
    simp [this]
  · have h := (decide_eq_true_iff.1 h.symm)
    unfold numb
    rw [if_pos h]
    exact ⟨rfl, rfl, trivial⟩
  · have h := (decide_eq_false_iff_not.1 h.symm)
    have hn : numb s = numL 0 s := by unfold numb; rw [if_neg h]
    rw [hn]
    refine ⟨fun x => x.k ≤ s.length ∧ numL x.m (s.drop x.k) = numL 0 s ∧ 0 ≤ x.m ∧ x.m ≤ 1099511627776 ∧ x.r = s.length - x.k, ⟨⟨0, s.length, [], 0⟩, ⟨(by dsimp only; omega), rfl, Int.le_refl 0, (by show (0:Int) ≤ 1099511627776; omega), rfl⟩, by simp⟩, ?_⟩
    rintro x ⟨hk, hv, hm0, hm1, hr⟩
    refine ⟨fun hq => ?_, fun hq => ?_⟩
    · have hq : (x.k : Int) < s.length := by simpa using hq
      refine ⟨by omega, by omega, fun c hc => ?_⟩
      have hc : s[x.k]? = some c := hc
      have hcd := hd c (List.mem_of_getElem? hc)
      have w0 : wr .u8 ((c : Int) - 48) = c - 48 := by simp only [wr, IntKind.wrap_u8]; omega
      have w1 : wr .i64 (10 * x.m) = 10 * x.m := wr64 (by omega) (by omega)
      have w2 : wr .i64 ((c : Int) - 48) = c - 48 := wr64 (by omega) (by omega)
      have w3 : wr .i64 (10 * x.m + ((c : Int) - 48)) = 10 * x.m + (c - 48) := wr64 (by omega) (by omega)
      rw [w0, w1, w2, w3]
      rw [Zzy hc] at hv
      refine ⟨fun h2 => ?_, fun h2 => ?_⟩
      · have h2 : 10 * x.m + ((c : Int) - 48) > 1099511627776 := by simpa using h2
        rw [if_pos h2] at hv
        rw [← hv]
        exact ⟨rfl, rfl, trivial⟩
      · have h2 : ¬ 10 * x.m + ((c : Int) - 48) > 1099511627776 := by simpa using h2
        rw [if_neg h2] at hv
        exact ⟨⟨x.k + 1, s.length - (x.k + 1), [], 10 * x.m + (c - 48)⟩, ⟨(by dsimp only; omega), hv, (by dsimp only; omega), (by dsimp only; omega), rfl⟩, (by show s.length - (x.k + 1) + 1 ≤ x.r; omega), rfl, ⟨rfl, rfl, rfl, wr64 (by omega) (by omega), trivial⟩, trivial⟩
    · have hq : ¬ (x.k : Int) < s.length := by simpa using hq
      rw [List.drop_eq_nil_of_le (by omega)] at hv
      rw [← hv]
      exact ⟨rfl, rfl, trivial⟩
noncomputable def dSF:Dc E Bool where
 dec v:=match v with| .fn (.func f) [] []=>(match Nat.beq f 92 with|true=>some true|false=>(match Nat.beq f 93 with|true=>some false|false=>none))|_=>none
 enc b:= .fn (.func (bif b then 92 else 93)) [] []
 ok v a h:=by
  split at h
  · rename_i f
    split at h
    · rename_i e
      cases h
      have e:=Nat.eq_of_beq_eq_true e
      cases e
      exact ⟨rfl,rfl,fun σ g u hd=>hd⟩
    · split at h
      · rename_i e
        cases h
        have e:=Nat.eq_of_beq_eq_true e
        cases e
        exact ⟨rfl,rfl,fun σ g u hd=>hd⟩
      · cases h
  · cases h
def spF (b:Bool) (s:List Nat):Nat:=bif b then spn isLD s else spn isD s
noncomputable def Yb9:Sum thy:=Ue (DcL.cons dS (DcL.cons dSF DcL.nil)) (fun x=>x.1.length<=1000000000) (fun x=>spF x.2.1 x.1) fun (y:Nat)=> .int false .i64 y
theorem Z3t:SumOk E 91 Yb9:=Z7 E_ok (Zd (f:=91) rfl) fun x h=>by
 obtain ⟨s,b,_⟩:=x
 cases b with
 |true=>exact Zuj s h
 |false=>exact Zul s h
noncomputable def Zzz:Sum thy:=Ue (dA1 dS) (fun x=>x.1.length<=1000000000/\∀c∈x.1,48<=c/\c<=57) (fun x=>numb x.1) fun y=> .tup [.int false .i64 y.1,.int false .i64 y.2]
theorem Zum:SumOk E 94 Zzz:=Z7 E_ok (Zd (f:=94) rfl) fun x h=>Zpu x.1 h.1 h.2
noncomputable def Ftok:Fns thy:=addS (addS Flx 91 Yb9) 94 Zzz
theorem Z85:FnsOk E Ftok:=Zb (Zb Zzu Z3t) Zum
def tokV (t:Tok):SV thy:= .agg [.int false .i64 t.kind,.str false t.text,.int false .i64 t.n,.int false .i64 t.at_]
abbrev qCCa:=(0:Int)
abbrev qCC5 (a0:Tok):=(qCCa=Tok.kind a0/\ []=Tok.text a0/\qCCa=Tok.n a0/\qCCa=Tok.at_ a0/\True)
abbrev qCCb (a0:List Nat):=(↑(List.length a0):Int)
abbrev qCC9 (a0:List Nat):=((qCCb a0)>=(1:Int))
abbrev qCCc:=(150:Int)
abbrev qCC6 (a0:List Nat) (b0:Tok) (c0:Int):=(decide (qCC9 a0)=false->(qCC5 b0)/\qCCc=c0/\True)
abbrev qCC7 (a0:List Nat):=(qCCa<=(1:Int)/\(1:Int)<=(qCCb a0))
abbrev qCC8:=(Int.toNat (1:Int))
abbrev qCCf (a0:Nat):=(↑a0:Int)
abbrev qCCd (a0:Nat):=(Int.toNat (qCCf a0))
abbrev qCCe:=(3:Int)
theorem Zun (s:List Nat) (t:Tok) (e:Int):Zk E Ftok (vc E Ftok 400) 63 [.str false s] hp0 0 (fun r=>ret E (patch hp0 0 r) r.v (.tup [tokV t,.int false .i64 e]))=(
 qCCa<=qCCa/\qCCa+(1:Int)<=(qCCb s)/\∀(x:Nat),s[Int.toNat qCCa]? =some x->True/\(isL (qCCf x)=true->List.length s<=(1000000000:Nat)/\∀(y:Nat),y=spF true s->(qCCa<=(qCCf y)/\(qCCf y)<=(qCCb s))/\(decide ((↑(List.length (List.take (qCCd y) s)):Int)>(32:Int))=true->(qCC5 t)/\(2:Int)=e/\True)/\(decide ((↑(List.length (List.take (qCCd y) s)):Int)>(32:Int))=false->((1:Int)=Tok.kind t/\List.take (qCCd y) s=Tok.text t/\qCCa=Tok.n t/\qCCa=Tok.at_ t/\True)/\qCCa=e/\True))/\(isL (qCCf x)=false->True/\(isD (qCCf x)=true->List.length s<=(1000000000:Nat)/\∀(y:Nat),y=spF false s->(qCCa<=(qCCf y)/\(qCCf y)<=(qCCb s))/\(List.length (List.take (qCCd y) s)<=(1000000000:Nat)/\∀(c:Nat),c∈List.take (qCCd y) s->(48:Nat)<=c/\c<=(57:Nat))/\∀(y_1:Int×Int),y_1=numb (List.take (qCCd y) s)->((2:Int)=Tok.kind t/\List.take (qCCd y) s=Tok.text t/\Prod.fst y_1=Tok.n t/\qCCa=Tok.at_ t/\True)/\Prod.snd y_1=e/\True)/\(isD (qCCf x)=false->qCCa<=qCCa/\qCCa+(1:Int)<=(qCCb s)/\∀(x:Nat),s[Int.toNat qCCa]? =some x->(((qCCf x)==(↑(123:Nat):Int))=true->(decide (qCC9 s)=true->(qCC7 s)/\((List.take qCC8 s== [(123:Nat)])=true->(qCCe=Tok.kind t/\ [(123:Nat)]=Tok.text t/\qCCa=Tok.n t/\qCCa=Tok.at_ t/\True)/\qCCa=e/\True)/\((List.take qCC8 s== [(123:Nat)])=false->(qCC5 t)/\qCCc=e/\True))/\(qCC6 s t e))/\(((qCCf x)==(↑(123:Nat):Int))=false->(((qCCf x)==(↑(125:Nat):Int))=true->(decide (qCC9 s)=true->(qCC7 s)/\((List.take qCC8 s== [(125:Nat)])=true->(qCCe=Tok.kind t/\ [(125:Nat)]=Tok.text t/\qCCa=Tok.n t/\qCCa=Tok.at_ t/\True)/\qCCa=e/\True)/\((List.take qCC8 s== [(125:Nat)])=false->(qCC5 t)/\qCCc=e/\True))/\(qCC6 s t e))/\(((qCCf x)==(↑(125:Nat):Int))=false->(((qCCf x)==(↑(40:Nat):Int))=true->(decide (qCC9 s)=true->(qCC7 s)/\((List.take qCC8 s== [(40:Nat)])=true->(qCCe=Tok.kind t/\ [(40:Nat)]=Tok.text t/\qCCa=Tok.n t/\qCCa=Tok.at_ t/\True)/\qCCa=e/\True)/\((List.take qCC8 s== [(40:Nat)])=false->(qCC5 t)/\qCCc=e/\True))/\(qCC6 s t e))/\(((qCCf x)==(↑(40:Nat):Int))=false->(((qCCf x)==(↑(41:Nat):Int))=true->(decide (qCC9 s)=true->(qCC7 s)/\((List.take qCC8 s== [(41:Nat)])=true->(qCCe=Tok.kind t/\ [(41:Nat)]=Tok.text t/\qCCa=Tok.n t/\qCCa=Tok.at_ t/\True)/\qCCa=e/\True)/\((List.take qCC8 s== [(41:Nat)])=false->(qCC5 t)/\qCCc=e/\True))/\(qCC6 s t e))/\(((qCCf x)==(↑(41:Nat):Int))=false->(((qCCf x)==(↑(59:Nat):Int))=true->(decide (qCC9 s)=true->(qCC7 s)/\((List.take qCC8 s== [(59:Nat)])=true->(qCCe=Tok.kind t/\ [(59:Nat)]=Tok.text t/\qCCa=Tok.n t/\qCCa=Tok.at_ t/\True)/\qCCa=e/\True)/\((List.take qCC8 s== [(59:Nat)])=false->(qCC5 t)/\qCCc=e/\True))/\(qCC6 s t e))/\(((qCCf x)==(↑(59:Nat):Int))=false->(((qCCf x)==(↑(44:Nat):Int))=true->(decide (qCC9 s)=true->(qCC7 s)/\((List.take qCC8 s== [(44:Nat)])=true->(qCCe=Tok.kind t/\ [(44:Nat)]=Tok.text t/\qCCa=Tok.n t/\qCCa=Tok.at_ t/\True)/\qCCa=e/\True)/\((List.take qCC8 s== [(44:Nat)])=false->(qCC5 t)/\qCCc=e/\True))/\(qCC6 s t e))/\(((qCCf x)==(↑(44:Nat):Int))=false->(((qCCf x)==(↑(43:Nat):Int))=true->(decide (qCC9 s)=true->(qCC7 s)/\((List.take qCC8 s== [(43:Nat)])=true->(qCCe=Tok.kind t/\ [(43:Nat)]=Tok.text t/\qCCa=Tok.n t/\qCCa=Tok.at_ t/\True)/\qCCa=e/\True)/\((List.take qCC8 s== [(43:Nat)])=false->(qCC5 t)/\qCCc=e/\True))/\(qCC6 s t e))/\(((qCCf x)==(↑(43:Nat):Int))=false->(((qCCf x)==(↑(45:Nat):Int))=true->(decide (qCC9 s)=true->(qCC7 s)/\((List.take qCC8 s== [(45:Nat)])=true->(qCCe=Tok.kind t/\ [(45:Nat)]=Tok.text t/\qCCa=Tok.n t/\qCCa=Tok.at_
t/\True)/\qCCa=e/\True)/\((List.take qCC8 s== [(45:Nat)])=false->(qCC5 t)/\qCCc=e/\True))/\(qCC6 s t e))/\(((qCCf x)==(↑(45:Nat):Int))=false->(((qCCf x)==(↑(42:Nat):Int))=true->(decide (qCC9 s)=true->(qCC7 s)/\((List.take qCC8 s== [(42:Nat)])=true->(qCCe=Tok.kind t/\ [(42:Nat)]=Tok.text t/\qCCa=Tok.n t/\qCCa=Tok.at_ t/\True)/\qCCa=e/\True)/\((List.take qCC8 s== [(42:Nat)])=false->(qCC5 t)/\qCCc=e/\True))/\(qCC6 s t e))/\(((qCCf x)==(↑(42:Nat):Int))=false->(((qCCf x)==(↑(60:Nat):Int))=true->(decide (qCC9 s)=true->(qCC7 s)/\((List.take qCC8 s== [(60:Nat)])=true->(qCCe=Tok.kind t/\ [(60:Nat)]=Tok.text t/\qCCa=Tok.n t/\qCCa=Tok.at_ t/\True)/\qCCa=e/\True)/\((List.take qCC8 s== [(60:Nat)])=false->(qCC5 t)/\qCCc=e/\True))/\(qCC6 s t e))/\(((qCCf x)==(↑(60:Nat):Int))=false->(((qCCf x)==(↑(46:Nat):Int))=true->(decide ((qCCb s)>=(2:Int))=true->(qCCa<=(2:Int)/\(2:Int)<=(qCCb s))/\((List.take (Int.toNat (2:Int)) s== [(46:Nat),(46:Nat)])=true->(qCCe=Tok.kind t/\ [(46:Nat),(46:Nat)]=Tok.text t/\qCCa=Tok.n t/\qCCa=Tok.at_ t/\True)/\qCCa=e/\True)/\((List.take (Int.toNat (2:Int)) s== [(46:Nat),(46:Nat)])=false->(qCC5 t)/\qCCc=e/\True))/\(decide ((qCCb s)>=(2:Int))=false->(qCC5 t)/\qCCc=e/\True))/\(((qCCf x)==(↑(46:Nat):Int))=false->(qCC5 t)/\qCCc=e/\True)))))))))))))):=by kernel_rfl
def sgnW (c:Nat):Option (List Nat):=
 if c=123 then some [123] else if c=125 then some [125] else if c=40 then some [40] else if c=41 then some [41] else if c=59 then some [59] else if c=44 then some [44]
 else if c=43 then some [43] else if c=45 then some [45] else if c=42 then some [42] else if c=60 then some [60] else if c=46 then some [46,46] else none
def z0:Tok:=⟨0,[],0,0⟩
def tokS (s w:List Nat):Tok×Int:=if s.take w.length=w then (⟨3,w,0,0⟩,0) else (z0,150)
def tokP:List Nat->Tok×Int
 | []=>(z0,150)
 |c::r=>if isL c then (if 32<spn isLD (c::r) then (z0,2) else (⟨1,(c::r).take (spn isLD (c::r)),0,0⟩,0))
  else if isD c then (⟨2,(c::r).take (spn isD (c::r)),(numb ((c::r).take (spn isD (c::r)))).1,0⟩,(numb ((c::r).take (spn isD (c::r)))).2)
  else match sgnW c with|some w=>tokS (c::r) w|none=>(z0,150)
theorem Yi (c:Nat) (r:List Nat):tokP (c::r)=if isL c then (if 32<spn isLD (c::r) then (z0,2) else (⟨1,(c::r).take (spn isLD (c::r)),0,0⟩,0))
 else if isD c then (⟨2,(c::r).take (spn isD (c::r)),(numb ((c::r).take (spn isD (c::r)))).1,0⟩,(numb ((c::r).take (spn isD (c::r)))).2)
 else match sgnW c with|some w=>tokS (c::r) w|none=>(z0,150):=rfl
theorem Zjx {f:Int->Bool}:∀{s:List Nat} {c:Nat},c∈s.take (spn f s)->f c=true
 | [],c,h=>by simp at h
 |x::r,c,h=>by
  unfold spn at h
  split at h
  · rename_i hx
    rw [List.take_succ_cons,List.mem_cons] at h
    rcases h with rfl|h
    · exact hx
    · exact Zjx h
  · simp at h
theorem U4 (s w:List Nat) (k:Int) (hk:k=w.length):
 (decide ((↑(List.length s):Int)>=k)=true->((0:Int)<=k/\k<=(↑(List.length s):Int))/\((List.take (Int.toNat k) s==w)=true->((3:Int)=Tok.kind (tokS s w).1/\w=Tok.text (tokS s w).1/\(0:Int)=Tok.n (tokS s w).1/\(0:Int)=Tok.at_ (tokS s w).1/\True)/\(0:Int)=(tokS s w).2/\True)/\
  ((List.take (Int.toNat k) s==w)=false->((0:Int)=Tok.kind (tokS s w).1/\ []=Tok.text (tokS s w).1/\(0:Int)=Tok.n (tokS s w).1/\(0:Int)=Tok.at_ (tokS s w).1/\True)/\(150:Int)=(tokS s w).2/\True))/\
 (decide ((↑(List.length s):Int)>=k)=false->((0:Int)=Tok.kind (tokS s w).1/\ []=Tok.text (tokS s w).1/\(0:Int)=Tok.n (tokS s w).1/\(0:Int)=Tok.at_ (tokS s w).1/\True)/\(150:Int)=(tokS s w).2/\True):=by
 have e:Int.toNat k=w.length:=by omega
 rw [e]
 unfold tokS
 refine ⟨fun h=> ?_,fun h=> ?_⟩
 · have h:(s.length:Int)>=k:=by simpa using h
   refine ⟨⟨by omega,by omega⟩,fun h2=> ?_,fun h2=> ?_⟩
   · have h2:List.take w.length s=w:=by simpa using h2
     rw [if_pos h2]
     exact ⟨⟨rfl,rfl,rfl,rfl,trivial⟩,rfl,trivial⟩
   · have h2:List.take w.length s≠w:=by simpa using h2
     rw [if_neg h2]
     exact ⟨⟨rfl,rfl,rfl,rfl,trivial⟩,rfl,trivial⟩
 · have h:¬(s.length:Int)>=k:=by simpa using h
   have h2:List.take w.length s≠w:=fun e=>by
    have:=congrArg List.length e
    rw [List.length_take] at this
    omega
   rw [if_neg h2]
   exact ⟨⟨rfl,rfl,rfl,rfl,trivial⟩,rfl,trivial⟩
theorem Zuo (s : List Nat) (h0 : 0 < s.length) (hs : s.length ≤ 1000000000) : PureC E 63 [.str false s] (.tup [tokV (tokP s).1, .int false .i64 (tokP s).2]) := by
  refine Zc E_ok (Zi E_ok Z85 400) ?_
  rw [Zun]; delta qCCa qCC5 qCCb qCC9 qCCc qCC6 qCC7 qCC8 qCCf qCCd qCCe
  cases s with
  | nil => exact absurd h0 (by simp)
  | cons c r =>
  refine ⟨Int.le_refl 0, by simp only [List.length_cons]; omega, fun x hx => ?_⟩
  have hx : (c :: r)[0]? = some x := hx
  rw [List.getElem?_cons_zero] at hx
  cases hx
  refine ⟨trivial, fun hl => ?_, fun hl => ?_⟩
  · refine ⟨hs, fun y hy => ?_⟩
    have hy : y = spn isLD (c :: r) := hy
    have hle : y ≤ (c :: r).length := hy ▸ Zmc
    have hm : min y (c :: r).length = y := Nat.min_eq_left hle
    have e1 : Int.toNat (y : Int) = y := by omega
    rw [e1, List.length_take, hm]
    rw [Yi, if_pos hl, ← hy]
    refine ⟨⟨by omega, by omega⟩, fun h => ?_, fun h => ?_⟩
    · have h : (32 : Int) < y := by simpa using h
      rw [if_pos (by omega)]
      exact ⟨⟨rfl, rfl, rfl, rfl, trivial⟩, rfl, trivial⟩
    · have h : ¬ (32 : Int) < y := by simpa using h
      rw [if_neg (by omega)]
      exact ⟨⟨rfl, rfl, rfl, rfl, trivial⟩, rfl, trivial⟩
  refine ⟨trivial, fun hd => ?_, fun hd => ?_⟩
  · refine ⟨hs, fun y hy => ?_⟩
    have hy : y = spn isD (c :: r) := hy
    have hle : y ≤ (c :: r).length := hy ▸ Zmc
    have hm : min y (c :: r).length = y := Nat.min_eq_left hle
    have e1 : Int.toNat (y : Int) = y := by omega
    rw [e1, List.length_take, hm]
    rw [Yi, if_neg (by rw [hl]; decide), if_pos hd, ← hy]
    refine ⟨⟨by omega, by omega⟩, ⟨by omega, fun c' hc' => ?_⟩, fun q hq => ?_⟩
    · rw [hy] at hc'
      have := Zjx hc'
      unfold isD at this
      simp at this
      omega
    · subst hq
      exact ⟨⟨rfl, rfl, rfl, rfl, trivial⟩, rfl, trivial⟩
  refine ⟨Int.le_refl 0, by simp only [List.length_cons]; omega, fun x hx => ?_⟩
  have hx : (c :: r)[0]? = some x := hx
  rw [List.getElem?_cons_zero] at hx
  cases hx
  have hp : ∀ w, sgnW c = some w → tokP (c :: r) = tokS (c :: r) w := fun w hw => by
    rw [Yi, if_neg (by rw [hl]; decide), if_neg (by rw [hd]; decide), hw]
  have st : ∀ (n : Nat) (w : List Nat), sgnW n = some w → ((c : Int) == (n : Int)) = true → tokP (c :: r) = tokS (c :: r) w := fun n w hw h => by
    have : c = n := by have : (c : Int) = n := by simpa using h
                       omega
    subst this
    exact hp w hw
  refine ⟨fun h => by rw [st _ _ rfl h]; exact U4 _ _ _ rfl, fun h1 => ?_⟩
  refine ⟨fun h => by rw [st _ _ rfl h]; exact U4 _ _ _ rfl, fun h2 => ?_⟩
  refine ⟨fun h => by rw [st _ _ rfl h]; exact U4 _ _ _ rfl, fun h3 => ?_⟩
  refine ⟨fun h => by rw [st _ _ rfl h]; exact U4 _ _ _ rfl, fun h4 => ?_⟩
  refine ⟨fun h => by rw [st _ _ rfl h]; exact U4 _ _ _ rfl, fun h5 => ?_⟩
  refine ⟨fun h => by rw [st _ _ rfl h]; exact U4 _ _ _ rfl, fun h6 => ?_⟩
  refine ⟨fun h => by rw [st _ _ rfl h]; exact U4 _ _ _ rfl, fun h7 => ?_⟩
  refine ⟨fun h => by rw [st _ _ rfl h]; exact U4 _ _ _ rfl, fun h8 => ?_⟩
  refine ⟨fun h => by rw [st _ _ rfl h]; exact U4 _ _ _ rfl, fun h9 => ?_⟩
  refine ⟨fun h => by rw [st _ _ rfl h]; exact U4 _ _ _ rfl, fun h10 => ?_⟩
  refine ⟨fun h => by rw [st _ _ rfl h]; exact U4 _ _ _ rfl, fun h11 => ?_⟩
  have hn : sgnW c = none := by
    have f : ∀ n : Nat, ((c : Int) == (n : Int)) = false → c ≠ n := fun n h e => by subst e; simp at h
    unfold sgnW
    rw [if_neg (f _ h1), if_neg (f _ h2), if_neg (f _ h3), if_neg (f _ h4), if_neg (f _ h5), if_neg (f _ h6), if_neg (f _ h7), if_neg (f _ h8), if_neg (f _ h9), if_neg (f _ h10), if_neg (f _ h11)]
  have : tokP (c :: r) = (z0, 150) := by
    rw [Yi, if_neg (by rw [hl]; decide), if_neg (by rw [hd]; decide), hn]
  rw [this]
  exact ⟨⟨rfl, rfl, rfl, rfl, trivial⟩, rfl, trivial⟩
noncomputable def Z5u:Sum thy:=Ue (dA1 dS) (fun x=>0<x.1.length/\x.1.length<=1000000000) (fun x=>tokP x.1) fun y=> .tup [tokV y.1,.int false .i64 y.2]
theorem Zz0:SumOk E 63 Z5u:=Z7 E_ok (Zd (f:=63) rfl) fun x h=>Zuo x.1 h.1 h.2
structure TkX where
 at_:Nat
 ts:List Tok
 r:Nat
def Atk:Fr thy->Hp thy->Nat->Ann thy:=fun T h i=>{X:=Bool×TkX,fr:=fun x=> [(0,T 0),(5,match x.1 with|true=> .sl i 0 x.2.ts.length 4 none|false=> .val (.slice none 0 0)),(6,.int false .i64 x.2.at_)],bl:=fun x=>(match x.1 with|true=> [(i,.rows Th.toks x.2.ts 0)]|false=> []),src:=fun x=>(match x.1 with|true=> [(i,5)]|false=> []),md:= [],ih:=i+1,M:=i+60,meas:=fun x=>x.2.r,ex:=ex2,al:=al2,exOk:=Zxt,alOk:=Zxu}
noncomputable def Ftk:Fns thy:=addL (addS F0 63 Z5u) 27 5 Atk E
theorem Yca:FnsOk E Ftk:=Yc E_ok (Zb F0_ok Zz0) _ _ _
abbrev qCCg (a0:TkX):=(↑(TkX.at_ a0):Int)
abbrev qCCl:=(0:Nat)
abbrev qCCp:=(1:Nat)
abbrev qCCh (a0:Bool×TkX->Prop) (b0:TkX) (c0:List Nat):=(∃(y_1:TkX),a0 (false,y_1)/\y_1.3+qCCp<=b0.3/\true=true/\(c0=c0/\Value.slice none qCCl qCCl=Value.slice none qCCl qCCl/\wr IntKind.i64 ((qCCg b0)+(1:Int))=(qCCg y_1)/\True)/\True)
abbrev qCCi (a0:Bool×TkX->Prop) (b0:TkX) (c0:List Nat):=(∃(y_1:TkX),a0 (false,y_1)/\y_1.3+qCCp<=b0.3/\true=true/\(c0=c0/\False/\wr IntKind.i64 ((qCCg b0)+(1:Int))=(qCCg y_1)/\True)/\True)
abbrev qCCj (a0:List Nat) (b0:TkX) (c0:TkX):=(a0=a0/\(qCCl=qCCl/\List.length (TkX.ts b0)=List.length (TkX.ts c0)/\True)/\wr IntKind.i64 ((qCCg b0)+(1:Int))=(qCCg c0)/\True)
abbrev qCCk (a0:TkX) (b0:List Nat):=(List.drop (Int.toNat (qCCg a0)) b0)
abbrev qCCm:=(Int.toNat (10:Int)%(256:Nat))
abbrev qCCn (a0:List Nat):=(↑(List.length a0):Int)
abbrev qCCo:=(0:Int)
abbrev qCCq (a0:TkX) (b0:Tok×Int):=((qCCg a0)+(↑(List.length (Tok.text (Prod.fst b0))):Int))
abbrev qCCr (a0:TkX) (b0:List Nat):=((qCCg a0)+wr IntKind.i64 (idxL qCCm qCCl (qCCk a0 b0)+(1:Int)))
abbrev qCCs (a0:TkX) (b0:TkX):=(TkX.ts a0=TkX.ts b0/\qCCl=qCCl)
abbrev qCCt (a0:TkX) (b0:List Tok):=(qCCl+List.length (TkX.ts a0)<=List.length (TkX.ts a0)/\List.take (List.length (TkX.ts a0)) (TkX.ts a0)=b0)
abbrev qCCu (a0:TkX) (b0:List Nat):=(qCCo<=(qCCg a0)/\(qCCg a0)<=(qCCn b0))
theorem Zpv (s:List Nat) (l:List Tok) (a e:Int):Zk E Ftk (vc E Ftk 400) 27 [.str false s] hp0 0 (fun r=>ret E (patch hp0 0 r) r.v (.tup [.psl Th.toks l false,.int false .i64 a,.int false .i64 e]))=(
 (decide ((qCCn s)>(2000:Int))=true->l= []/\qCCo=a/\(2:Int)=e/\True)/\(decide ((qCCn s)>(2000:Int))=false->∃(R:Bool×TkX->Prop),((∃(y:TkX),R (false,y)/\true=true/\(s=s/\Value.slice none qCCl qCCl=Value.slice none qCCl qCCl/\qCCo=(qCCg y)/\True)/\True)\/∃(y:TkX),R (true,y)/\true=true/\False)/\(∀(y:TkX),R (false,y)->(decide ((qCCg y)<(qCCn s))=true->qCCo<=(qCCg y)/\(qCCg y)+(1:Int)<=(qCCn s)/\∀(x:Nat),s[Int.toNat (qCCg y)]? =some x->(((↑x:Int)==(32:Int))=true->(qCCh R y s)\/∃(y_1:TkX),R (true,y_1)/\y_1.3+qCCp<=y.3/\true=true/\False)/\(((↑x:Int)==(32:Int))=false->(((↑x:Int)==(9:Int))=true->(qCCh R y s)\/∃(y_1:TkX),R (true,y_1)/\y_1.3+qCCp<=y.3/\true=true/\False)/\(((↑x:Int)==(9:Int))=false->(((↑x:Int)==(13:Int))=true->(qCCh R y s)\/∃(y_1:TkX),R (true,y_1)/\y_1.3+qCCp<=y.3/\true=true/\False)/\(((↑x:Int)==(13:Int))=false->(((↑x:Int)==(10:Int))=true->(qCCh R y s)\/∃(y_1:TkX),R (true,y_1)/\y_1.3+qCCp<=y.3/\true=true/\False)/\(((↑x:Int)==(10:Int))=false->(((↑x:Int)==(35:Int))=true->(qCCu y s)/\(decide (idxL qCCm qCCl (qCCk y s)<qCCo)=true->l= []/\qCCo=a/\qCCo=e/\True)/\(decide (idxL qCCm qCCl (qCCk y s)<qCCo)=false->(∃(y_1:TkX),R (false,y_1)/\y_1.3+qCCp<=y.3/\true=true/\(s=s/\Value.slice none qCCl qCCl=Value.slice none qCCl qCCl/\wr IntKind.i64 (qCCr y s)=(qCCg y_1)/\True)/\True)\/∃(y_1:TkX),R (true,y_1)/\y_1.3+qCCp<=y.3/\true=true/\False))/\(((↑x:Int)==(35:Int))=false->(qCCu y s)/\(qCCl+qCCp<=List.length (qCCk y s)/\List.length (qCCk y s)<=(1000000000:Nat))/\∀(y_1:Tok×Int),y_1=tokP (qCCk y s)->((Prod.snd y_1 !=qCCo)=true->l= []/\(qCCg y)=a/\Prod.snd y_1=e/\True)/\((Prod.snd y_1 !=qCCo)=false->(∃(y_2:TkX),R (false,y_2)/\y_2.3+qCCp<=y.3/\true=true/\(s=s/\False/\wr IntKind.i64 (qCCq y y_1)=(qCCg y_2)/\True)/\True)\/∃(y_2:TkX),R (true,y_2)/\y_2.3+qCCp<=y.3/\true=true/\(s=s/\(qCCl=qCCl/\qCCp=List.length (TkX.ts y_2)/\True)/\wr IntKind.i64 (qCCq y y_1)=(qCCg y_2)/\True)/\([Tok.mk (Tok.kind (Prod.fst y_1)) (Tok.text (Prod.fst y_1)) (Tok.n (Prod.fst y_1)) (qCCg y)]=TkX.ts y_2/\qCCl=qCCl)/\True)))))))/\(decide ((qCCg y)<(qCCn s))=false->l= []/\qCCo=a/\qCCo=e/\True))/\∀(y:TkX),R (true,y)->(decide ((qCCg y)<(qCCn s))=true->qCCo<=(qCCg y)/\(qCCg y)+(1:Int)<=(qCCn s)/\∀(x:Nat),s[Int.toNat (qCCg y)]? =some x->(((↑x:Int)==(32:Int))=true->(qCCi R y s)\/∃(y_1:TkX),R (true,y_1)/\y_1.3+qCCp<=y.3/\true=true/\(qCCj s y y_1)/\(qCCs y y_1)/\True)/\(((↑x:Int)==(32:Int))=false->(((↑x:Int)==(9:Int))=true->(qCCi R y s)\/∃(y_1:TkX),R (true,y_1)/\y_1.3+qCCp<=y.3/\true=true/\(qCCj s y y_1)/\(qCCs y y_1)/\True)/\(((↑x:Int)==(9:Int))=false->(((↑x:Int)==(13:Int))=true->(qCCi R y s)\/∃(y_1:TkX),R (true,y_1)/\y_1.3+qCCp<=y.3/\true=true/\(qCCj s y y_1)/\(qCCs y y_1)/\True)/\(((↑x:Int)==(13:Int))=false->(((↑x:Int)==(10:Int))=true->(qCCi R y s)\/∃(y_1:TkX),R (true,y_1)/\y_1.3+qCCp<=y.3/\true=true/\(qCCj s y y_1)/\(qCCs y y_1)/\True)/\(((↑x:Int)==(10:Int))=false->(((↑x:Int)==(35:Int))=true->(qCCu y s)/\(decide (idxL qCCm qCCl (qCCk y s)<qCCo)=true->(qCCt y l)/\qCCo=a/\qCCo=e/\True)/\(decide (idxL qCCm qCCl (qCCk y s)<qCCo)=false->(∃(y_1:TkX),R (false,y_1)/\y_1.3+qCCp<=y.3/\true=true/\(s=s/\False/\wr IntKind.i64 (qCCr y s)=(qCCg y_1)/\True)/\True)\/∃(y_1:TkX),R (true,y_1)/\y_1.3+qCCp<=y.3/\true=true/\(s=s/\(qCCl=qCCl/\List.length (TkX.ts y)=List.length (TkX.ts y_1)/\True)/\wr IntKind.i64 (qCCr y s)=(qCCg y_1)/\True)/\(qCCs y y_1)/\True))/\
(((↑x:Int)==(35:Int))=false->(qCCu y s)/\(qCCl+qCCp<=List.length (qCCk y s)/\List.length (qCCk y s)<=(1000000000:Nat))/\∀(y_1:Tok×Int),y_1=tokP (qCCk y s)->((Prod.snd y_1 !=qCCo)=true->l= []/\(qCCg y)=a/\Prod.snd y_1=e/\True)/\((Prod.snd y_1 !=qCCo)=false->(List.length (TkX.ts y)<=List.length (TkX.ts y)/\qCCl<=List.length (TkX.ts y)/\(List.length (TkX.ts y)+qCCp)*(40:Nat)<=(140737488355328:Nat))/\((∃(y_2:TkX),R (false,y_2)/\y_2.3+qCCp<=y.3/\true=true/\(s=s/\False/\wr IntKind.i64 (qCCq y y_1)=(qCCg y_2)/\True)/\True)\/∃(y_2:TkX),R (true,y_2)/\y_2.3+qCCp<=y.3/\true=true/\(s=s/\(qCCl=qCCl/\List.length (TkX.ts y)+qCCp=List.length (TkX.ts y_2)/\True)/\wr IntKind.i64 (qCCq y y_1)=(qCCg y_2)/\True)/\(List.take (List.length (TkX.ts y)) (TkX.ts y)++ [Tok.mk (Tok.kind (Prod.fst y_1)) (Tok.text (Prod.fst y_1)) (Tok.n (Prod.fst y_1)) (qCCg y)]=TkX.ts y_2/\qCCl=qCCl)/\True))))))))/\(decide ((qCCg y)<(qCCn s))=false->(qCCt y l)/\qCCo=a/\qCCo=e/\True))):=by kernel_rfl
def blk (c:Nat):Bool:=c=32||c=9||c=13||c=10
def tksL:Nat->List Nat->Nat->List Tok->List Tok×Int×Int
 |0,_,_,ts=>(ts,0,0)
 |k+1,s,p,ts=>match s[p]? with
  |none=>(ts,0,0)
  |some c=>if blk c then tksL k s (p+1) ts
   else if c=35 then (if idxL 10 0 (s.drop p)<0 then (ts,0,0) else tksL k s (p+(idxL 10 0 (s.drop p)).toNat+1) ts)
   else if (tokP (s.drop p)).2≠0 then ([],p,(tokP (s.drop p)).2)
   else tksL k s (p+(tokP (s.drop p)).1.text.length) (ts++ [⟨(tokP (s.drop p)).1.kind,(tokP (s.drop p)).1.text,(tokP (s.drop p)).1.n,p⟩])
def Yp (s:List Nat):List Tok×Int×Int:=if 2000<s.length then ([],0,2) else tksL s.length s 0 []
theorem Zpw (c:Nat):∀(l:List Nat) (j:Nat),idxL c j l<j+l.length/\ -1<=idxL c j l
 | [],j=>by unfold idxL;simp;try omega
 |x::r,j=>by
  unfold idxL
  split
  · simp;try omega
  · have:=Zpw c r (j+1)
    simp only [List.length_cons]
    omega
theorem Z3u {c:Nat} {w:List Nat} (h:sgnW c=some w):1<=w.length:=by
 unfold sgnW at h
 repeat' split at h
 all_goals (cases h<;>simp)
theorem Zsd {s:List Nat} (h:(tokP s).2=0):1<=(tokP s).1.text.length/\(tokP s).1.text.length<=s.length/\(tokP s).1.text=s.take (tokP s).1.text.length:=by
 cases s with
 |nil=>cases h
 |cons c r=>
  rw [Yi] at h⊢
  have go:∀n,1<=n->n<=(c::r).length->1<=((c::r).take n).length/\((c::r).take n).length<=(c::r).length/\(c::r).take n=(c::r).take ((c::r).take n).length:=fun n h1 h2=>by
   have e:((c::r).take n).length=n:=by rw [List.length_take];omega
   rw [e]
   exact ⟨h1,h2,rfl⟩
  split at h
  · rename_i hl
    rw [if_pos hl]
    split at h
    · cases h
    · rename_i hn
      rw [if_neg hn]
      refine go _ ?_ Zmc
      have:isLD c=true:=by unfold isLD;rw [hl];rfl
      unfold spn
      rw [if_pos this]
      omega
  · rename_i hl
    rw [if_neg hl]
    split at h
    · rename_i hd
      rw [if_pos hd]
      refine go _ ?_ Zmc
      unfold spn
      rw [if_pos hd]
      omega
    · rename_i hd
      rw [if_neg hd]
      split at h
      · rename_i w hw
        unfold tokS at h⊢
        split at h
        · rename_i ht
          have e:=congrArg List.length ht
          rw [List.length_take] at e
          refine ⟨?_,?_,?_⟩
          · simp only [if_pos ht]
            exact Z3u hw
          · simp only [if_pos ht]
            omega
          · simp only [if_pos ht]
            exact ht.symm
        · cases h
      · cases h
def TkI (s:List Nat) (res:List Tok×Int×Int) (y:TkX):Prop:=y.at_<=s.length/\s.length<=y.at_+y.r/\y.ts.length<=y.at_/\tksL y.r s y.at_ y.ts=res
theorem Z5v {s:List Nat} {res} {y:TkX} (h:TkI s res y) (hq:¬y.at_<s.length):res=(y.ts,0,0):=by
 obtain ⟨h1,h2,h3,h4⟩:=h
 rw [<-h4]
 cases hr:y.r with
 |zero=>rfl
 |succ k=>
  unfold tksL
  rw [List.getElem?_eq_none (by omega)]
theorem Zgd {s:List Nat} {res} {y:TkX} {c:Nat} (h:TkI s res y) (hc:s[y.at_]? =some c):∃k,y.r=k+1/\s.length<=y.at_+(k+1)/\y.at_<s.length/\(if blk c then tksL k s (y.at_+1) y.ts
 else if c=35 then (if idxL 10 0 (s.drop y.at_)<0 then (y.ts,0,0) else tksL k s (y.at_+(idxL 10 0 (s.drop y.at_)).toNat+1) y.ts)
 else if (tokP (s.drop y.at_)).2≠0 then ([],y.at_,(tokP (s.drop y.at_)).2)
 else tksL k s (y.at_+(tokP (s.drop y.at_)).1.text.length) (y.ts++ [⟨(tokP (s.drop y.at_)).1.kind,(tokP (s.drop y.at_)).1.text,(tokP (s.drop y.at_)).1.n,y.at_⟩]))=res:=by
 obtain ⟨h1,h2,h3,h4⟩:=h
 have hlt:=(List.getElem?_eq_some_iff.1 hc).1
 cases hr:y.r with
 |zero=>omega
 |succ k=>
  refine ⟨k,rfl,by omega,hlt,?_⟩
  rw [hr] at h4
  unfold tksL at h4
  rw [hc] at h4
  exact h4
theorem Zse {s:List Nat} {res} {y:TkX} {c:Nat} (h:TkI s res y) (hc:s[y.at_]? =some c) (hb:blk c=true):TkI s res ⟨y.at_+1,y.ts,y.r-1⟩/\y.r-1+1<=y.r/\y.at_<s.length:=by
 obtain ⟨k,hr,hk,hl,he⟩:=Zgd h hc
 rw [if_pos hb] at he
 have h3:=h.2.2.1
 refine ⟨⟨hl,?_,?_,?_⟩,by omega,hl⟩
 · show s.length<=y.at_+1+(y.r-1)
   omega
 · show y.ts.length<=y.at_+1
   omega
 · rw [hr]
   exact he
theorem Z5w {s:List Nat} {res} {y:TkX} {c:Nat} (h:TkI s res y) (hc:s[y.at_]? =some c) (hb:blk c=false) (h35:c=35) (hi:¬idxL 10 0 (s.drop y.at_)<0):TkI s res ⟨y.at_+(idxL 10 0 (s.drop y.at_)).toNat+1,y.ts,y.r-1⟩/\y.r-1+1<=y.r/\y.at_+(idxL 10 0 (s.drop y.at_)).toNat+1<=s.length:=by
 obtain ⟨k,hr,hk,hl,he⟩:=Zgd h hc
 rw [if_neg (by rw [hb];decide),if_pos h35,if_neg hi] at he
 have h3:=h.2.2.1
 have hb:=(Zpw 10 (s.drop y.at_) 0).1
 rw [List.length_drop] at hb
 refine ⟨⟨?_,?_,?_,?_⟩,by omega,by omega⟩
 · show y.at_+(idxL 10 0 (s.drop y.at_)).toNat+1<=s.length
   omega
 · show s.length<=y.at_+(idxL 10 0 (s.drop y.at_)).toNat+1+(y.r-1)
   omega
 · show y.ts.length<=y.at_+(idxL 10 0 (s.drop y.at_)).toNat+1
   omega
 · rw [hr]
   exact he
theorem Zz1 {s:List Nat} {res} {y:TkX} {c:Nat} (h:TkI s res y) (hc:s[y.at_]? =some c) (hb:blk c=false) (h35:c=35) (hi:idxL 10 0 (s.drop y.at_)<0):res=(y.ts,0,0):=by
 obtain ⟨k,hr,hk,hl,he⟩:=Zgd h hc
 rw [if_neg (by rw [hb];decide),if_pos h35,if_pos hi] at he
 exact he.symm
theorem Z5x {s:List Nat} {res} {y:TkX} {c:Nat} (h:TkI s res y) (hc:s[y.at_]? =some c) (hb:blk c=false) (h35:c≠35) (hi:(tokP (s.drop y.at_)).2≠0):res=([],(y.at_:Int),(tokP (s.drop y.at_)).2):=by
 obtain ⟨k,hr,hk,hl,he⟩:=Zgd h hc
 rw [if_neg (by rw [hb];decide),if_neg h35,if_pos hi] at he
 exact he.symm
theorem Z5y {s:List Nat} {res} {y:TkX} {c:Nat} (h:TkI s res y) (hc:s[y.at_]? =some c) (hb:blk c=false) (h35:c≠35) (hi:(tokP (s.drop y.at_)).2=0):TkI s res ⟨y.at_+(tokP (s.drop y.at_)).1.text.length,y.ts++ [⟨(tokP (s.drop y.at_)).1.kind,(tokP (s.drop y.at_)).1.text,(tokP (s.drop y.at_)).1.n,y.at_⟩],y.r-1⟩/\y.r-1+1<=y.r/\y.at_+(tokP (s.drop y.at_)).1.text.length<=s.length:=by
 obtain ⟨k,hr,hk,hl,he⟩:=Zgd h hc
 rw [if_neg (by rw [hb];decide),if_neg h35,if_neg (by rw [hi];decide)] at he
 have h3:=h.2.2.1
 obtain ⟨n1,n2,_⟩:=Zsd hi
 rw [List.length_drop] at n2
 refine ⟨⟨?_,?_,?_,?_⟩,by omega,by omega⟩
 · show y.at_+(tokP (s.drop y.at_)).1.text.length<=s.length
   omega
 · show s.length<=y.at_+(tokP (s.drop y.at_)).1.text.length+(y.r-1)
   omega
 · show (y.ts++ [_]).length<=y.at_+(tokP (s.drop y.at_)).1.text.length
   rw [List.length_append]
   simp
   omega
 · rw [hr]
   exact he
theorem Zpx (s:List Nat):PureC E 27 [.str false s] (.tup [.psl Th.toks (Yp s).1 false,.int false .i64 (Yp s).2.1,.int false .i64 (Yp s).2.2]):=by
 refine Zc E_ok (Zi E_ok Yca 400) ?_
 rw [Zpv];delta qCCg qCCl qCCp qCCh qCCi qCCj qCCk qCCm qCCn qCCo qCCq qCCr qCCs qCCt qCCu
 refine ⟨fun h=> ?_,fun h=> ?_⟩
 · have h:(s.length:Int)>2000:=by simpa using h
   unfold Yp
   rw [if_pos (by omega)]
   exact ⟨rfl,rfl,rfl,trivial⟩
 have h:¬(s.length:Int)>2000:=by simpa using h
 have hp:Yp s=tksL s.length s 0 []:=by unfold Yp;rw [if_neg (by omega)]
 generalize Yp s=res at hp
 refine ⟨fun x=>(x.1=false->x.2.ts= [])/\TkI s res x.2,Or.inl ⟨⟨0,[],s.length⟩,⟨fun _=>rfl,Nat.zero_le _,by show s.length<=0+s.length;omega,Nat.le_refl _,hp.symm⟩,rfl,⟨rfl,rfl,rfl,trivial⟩,trivial⟩,?_,?_⟩
 all_goals
  rintro y ⟨h0,hy⟩
  replace hy:TkI s res y:=hy
  refine ⟨fun hq=> ?_,fun hq=> ?_⟩
 · have h0:y.ts= []:=h0 rfl
   have hq:(y.at_:Int)<s.length:=by simpa using hq
   refine ⟨by omega,by omega,fun c hc=> ?_⟩
   have hc:s[y.at_]? =some c:=hc
   have bl:∀n:Nat,((c:Int)==(n:Int))=true->c=n:=fun n h=>by
    have:(c:Int)=n:=by simpa using h
    omega
   have nb:∀n:Nat,((c:Int)==(n:Int))=false->c≠n:=fun n h e=>by subst e;simp at h
   have gb:blk c=true->(∃(y_1:TkX),((false=false->y_1.ts= [])/\TkI s res y_1)/\y_1.3+(1:Nat)<=y.3/\true=true/\(s=s/\Value.slice none (0:Nat) (0:Nat)=Value.slice none (0:Nat) (0:Nat)/\wr IntKind.i64 ((↑(TkX.at_ y):Int)+(1:Int))=(↑(TkX.at_ y_1):Int)/\True)/\True):=fun hb=>
    ⟨⟨y.at_+1,y.ts,y.r-1⟩,⟨fun _=>h0,(Zse hy hc hb).1⟩,(Zse hy hc hb).2.1,rfl,⟨rfl,rfl,wr64 (by omega) (by omega),trivial⟩,trivial⟩
   refine ⟨fun h1=>Or.inl (gb (by rw [bl 32 h1];rfl)),fun h1=>⟨fun h2=>Or.inl (gb (by rw [bl 9 h2];rfl)),fun h2=>⟨fun h3=>Or.inl (gb (by rw [bl 13 h3];rfl)),fun h3=>⟨fun h4=>Or.inl (gb (by rw [bl 10 h4];rfl)),fun h4=> ?_⟩⟩⟩⟩
   have hb:blk c=false:=by
    unfold blk
    simp [nb 32 h1,nb 9 h2,nb 13 h3,nb 10 h4]
   have ea:Int.toNat (y.at_:Int)=y.at_:=by omega
   rw [ea]
   refine ⟨fun h5=> ?_,fun h5=> ?_⟩
   · have h35:c=35:=bl 35 h5
     refine ⟨⟨by omega,by omega⟩,fun h6=> ?_,fun h6=> ?_⟩
     · have h6:idxL 10 0 (s.drop y.at_)<0:=by simpa using h6
       have:=Zz1 hy hc hb h35 h6
       rw [this,h0]
       exact ⟨rfl,rfl,rfl,trivial⟩
     · have h6:¬idxL 10 0 (s.drop y.at_)<0:=by simpa using h6
       obtain ⟨g1,g2,g3⟩:=Z5w hy hc hb h35 h6
       refine Or.inl ⟨⟨y.at_+(idxL 10 0 (s.drop y.at_)).toNat+1,y.ts,y.r-1⟩,⟨fun _=>h0,g1⟩,g2,rfl,⟨rfl,rfl,?_,trivial⟩,trivial⟩
       show wr IntKind.i64 ((y.at_:Int)+wr IntKind.i64 (idxL 10 0 (s.drop y.at_)+1))=((y.at_+(idxL 10 0 (s.drop y.at_)).toNat+1:Nat):Int)
       rw [show wr IntKind.i64 (idxL 10 0 (s.drop y.at_)+1)=idxL 10 0 (s.drop y.at_)+1 from wr64 (by omega) (by omega)]
       rw [wr64 (by omega) (by omega)]
       omega
   · have h35:c≠35:=nb 35 h5
     refine ⟨⟨by omega,by omega⟩,⟨by rw [List.length_drop];omega,by rw [List.length_drop];omega⟩,fun z hz=> ?_⟩
     subst hz
     refine ⟨fun h6=> ?_,fun h6=> ?_⟩
     · have h6:(tokP (s.drop y.at_)).2≠0:=by simpa using h6
       rw [Z5x hy hc hb h35 h6]
       exact ⟨rfl,rfl,rfl,trivial⟩
     · have h6:(tokP (s.drop y.at_)).2=0:=by simpa using h6
       obtain ⟨g1,g2,g3⟩:=Z5y hy hc hb h35 h6
       rw [h0] at g1
       refine Or.inr ⟨_,⟨(fun h=>by cases h),g1⟩,g2,rfl,⟨rfl,⟨rfl,rfl,trivial⟩,?_,trivial⟩,⟨rfl,rfl⟩,trivial⟩
       show wr IntKind.i64 ((y.at_:Int)+((tokP (s.drop y.at_)).1.text.length:Int))=((y.at_+(tokP (s.drop y.at_)).1.text.length:Nat):Int)
       rw [wr64 (by omega) (by omega)]
       omega
 · have hq:¬(y.at_:Int)<s.length:=by simpa using hq
   rw [Z5v hy (by omega),h0 rfl]
   exact ⟨rfl,rfl,rfl,trivial⟩
 · have hq:(y.at_:Int)<s.length:=by simpa using hq
   refine ⟨by omega,by omega,fun c hc=> ?_⟩
   have hc:s[y.at_]? =some c:=hc
   have bl:∀n:Nat,((c:Int)==(n:Int))=true->c=n:=fun n h=>by
    have:(c:Int)=n:=by simpa using h
    omega
   have nb:∀n:Nat,((c:Int)==(n:Int))=false->c≠n:=fun n h e=>by subst e;simp at h
   have gb:blk c=true->∃(y_1:TkX),((true=false->y_1.ts= [])/\TkI s res y_1)/\y_1.3+(1:Nat)<=y.3/\true=true/\(s=s/\((0:Nat)=(0:Nat)/\List.length (TkX.ts y)=List.length (TkX.ts y_1)/\True)/\wr IntKind.i64 ((↑(TkX.at_ y):Int)+(1:Int))=(↑(TkX.at_ y_1):Int)/\True)/\(TkX.ts y=TkX.ts y_1/\(0:Nat)=(0:Nat))/\True:=fun hb=>
    ⟨⟨y.at_+1,y.ts,y.r-1⟩,⟨(fun h=>by cases h),(Zse hy hc hb).1⟩,(Zse hy hc hb).2.1,rfl,⟨rfl,⟨rfl,rfl,trivial⟩,wr64 (by omega) (by omega),trivial⟩,⟨rfl,rfl⟩,trivial⟩
   refine ⟨fun h1=>Or.inr (gb (by rw [bl 32 h1];rfl)),fun h1=>⟨fun h2=>Or.inr (gb (by rw [bl 9 h2];rfl)),fun h2=>⟨fun h3=>Or.inr (gb (by rw [bl 13 h3];rfl)),fun h3=>⟨fun h4=>Or.inr (gb (by rw [bl 10 h4];rfl)),fun h4=> ?_⟩⟩⟩⟩
   have hb:blk c=false:=by
    unfold blk
    simp [nb 32 h1,nb 9 h2,nb 13 h3,nb 10 h4]
   have ea:Int.toNat (y.at_:Int)=y.at_:=by omega
   have h3:=hy.2.2.1
   rw [ea]
   refine ⟨fun h5=> ?_,fun h5=> ?_⟩
   · have h35:c=35:=bl 35 h5
     refine ⟨⟨by omega,by omega⟩,fun h6=> ?_,fun h6=> ?_⟩
     · have h6:idxL 10 0 (s.drop y.at_)<0:=by simpa using h6
       have:=Zz1 hy hc hb h35 h6
       rw [this]
       exact ⟨⟨by omega,List.take_length⟩,rfl,rfl,trivial⟩
     · have h6:¬idxL 10 0 (s.drop y.at_)<0:=by simpa using h6
       obtain ⟨g1,g2,g3⟩:=Z5w hy hc hb h35 h6
       refine Or.inr ⟨_,⟨(fun h=>by cases h),g1⟩,g2,rfl,⟨rfl,⟨rfl,rfl,trivial⟩,?_,trivial⟩,⟨rfl,rfl⟩,trivial⟩
       show wr IntKind.i64 ((y.at_:Int)+wr IntKind.i64 (idxL 10 0 (s.drop y.at_)+1))=((y.at_+(idxL 10 0 (s.drop y.at_)).toNat+1:Nat):Int)
       rw [show wr IntKind.i64 (idxL 10 0 (s.drop y.at_)+1)=idxL 10 0 (s.drop y.at_)+1 from wr64 (by omega) (by omega)]
       rw [wr64 (by omega) (by omega)]
       omega
   · have h35:c≠35:=nb 35 h5
     refine ⟨⟨by omega,by omega⟩,⟨by rw [List.length_drop];omega,by rw [List.length_drop];omega⟩,fun z hz=> ?_⟩
     subst hz
     refine ⟨fun h6=> ?_,fun h6=> ?_⟩
     · have h6:(tokP (s.drop y.at_)).2≠0:=by simpa using h6
       rw [Z5x hy hc hb h35 h6]
       exact ⟨rfl,rfl,rfl,trivial⟩
     · have h6:(tokP (s.drop y.at_)).2=0:=by simpa using h6
       obtain ⟨g1,g2,g3⟩:=Z5y hy hc hb h35 h6
       refine ⟨⟨Nat.le_refl _,Nat.zero_le _,by omega⟩,Or.inr ⟨_,⟨(fun h=>by cases h),g1⟩,g2,rfl,⟨rfl,⟨rfl,?_,trivial⟩,?_,trivial⟩,⟨?_,rfl⟩,trivial⟩⟩
       · show y.ts.length+1=(y.ts++ [_]).length
         rw [List.length_append]
         rfl
       · show wr IntKind.i64 ((y.at_:Int)+((tokP (s.drop y.at_)).1.text.length:Int))=((y.at_+(tokP (s.drop y.at_)).1.text.length:Nat):Int)
         rw [wr64 (by omega) (by omega)]
         omega
       · show List.take y.ts.length y.ts++_=y.ts++_
         rw [List.take_length]
 · have hq:¬(y.at_:Int)<s.length:=by simpa using hq
   rw [Z5v hy (by omega)]
   exact ⟨⟨by omega,List.take_length⟩,rfl,rfl,trivial⟩
end
section
open Go.RowKit
section
variable {Y : Thy} {E : Eng Y}
def frzH (h:Hp Y) (bs:List Nat):Hp Y:=fun b=>match memB b bs with|true=>frzB (h b)|false=>h b
noncomputable def frzA (E:Eng Y) (gth:List (SV Y)->Option Y.Th) (n:Nat) (S:Sum Y):Sum Y:=fun args h i k=>
 match args with
 |a::rest=>frzL (frzK E gth h n) rest fun rest' bs=>S (a::rest') (frzH h bs) i fun r=>W2 (bs++r.mods) fun m=>k ⟨r.v,r.n,m,patch (frzH h bs) i r,none⟩
 | []=>False
theorem Zb2 {h:Hp Y} {bs:List Nat} {b:Nat} (hb:frzH h bs b≠none):h b≠none:=by
 intro e
 apply hb
 unfold frzH
 rw [e]
 cases memB b bs<;>rfl
theorem Z1c {h:Hp Y} {bs:List Nat} {b:Nat} (hb:b∉bs):frzH h bs b=h b:=by
 unfold frzH
 cases hm:memB b bs with
 |true=>exact absurd (memB_iff.1 hm) hb
 |false=>rfl
theorem Zai (h:Hp Y) (bs:List Nat) (i:Nat) (r:Res Y):patch h i ⟨r.v,r.n,bs++r.mods,patch (frzH h bs) i r,none⟩=patch (frzH h bs) i r:=by
 funext b
 rw [Zf]
 by_cases c:b∈bs++r.mods\/(i<=b/\b<i+r.n)
 · rw [if_pos c]
 · rw [if_neg c,Zf]
   have c1:b∉bs:=fun h=>c (.inl (List.mem_append_left _ h))
   rw [if_neg (fun h=>c (h.elim (fun h=> .inl (List.mem_append_right _ h)) .inr)),Z1c c1]
theorem Ziw {h:Hp Y} {bs:List Nat} {i n:Nat} {mods:List Nat} {σ σ':Pl} {g g':GH} {w w':World} {B:Nat} (hI:Inv E B σ h g w) (hS:Stp i n mods σ (frzG E h σ bs g w) w σ' g' w'):Stp i n (bs++mods) σ g w σ' g' w':=by
 refine ⟨hS.sig,hS.snew,(Vy hI).trans hS.gle,fun r o v hv=> ?_,hS.gmnew,fun r hr hx=>hS.heap r hr fun b hb=>hx b (List.mem_append_right _ hb),hS.size,hS.os,hS.tape,hS.output,fun b r z h1 h2=> ?_⟩
 · rcases hS.gcnew r o v hv with h1|h1|⟨b,hb,h1⟩
   · rcases Uy h1 with ⟨_,b,hb,z,x,h2,_⟩|h2
     · exact .inr (.inr ⟨b,List.mem_append_left _ hb,z,h2⟩)
     · exact .inl h2
   · exact .inr (.inl h1)
   · exact .inr (.inr ⟨b,List.mem_append_right _ hb,h1⟩)
 · rcases hS.blk b r z h1 h2 with h3|⟨b',hb',h3⟩
   · exact .inl h3
   · exact .inr ⟨b',List.mem_append_right _ hb',h3⟩
theorem Z6n (hE:EngOk E) {gth:List (SV Y)->Option Y.Th} {n:Nat} {f:Nat} {S:Sum Y} (hS:SumOk E f S):SumOk E f (frzA E gth n S):=by
 refine ⟨hS.good,fun args h i k hD hk=> ?_⟩
 unfold frzA at hk
 split at hk
 case h_2=>exact hk.elim
 rename_i a rest
 obtain ⟨rest',bs,hk,o⟩:=W6 (Ux hE n) hk
 obtain ⟨r,hk,hR,htri⟩:=hS.ok (a::rest') (frzH h bs) i _ (fun b hb=>hD b (Zb2 hb)) hk
 rw [Y8] at hk
 have args2:∀(B:Nat) (σ:Pl) (g:GH) (w:World) (vals:List Value),Inv E B σ h g w->DenL E σ g (a::rest) vals->DenL E σ (frzG E h σ bs g w) (a::rest') vals:=by
  intro B σ g w vals hI hd
  have hle:=Vy (bs:=bs) hI
  refine ⟨by rw [<-hd.1];simp [o.len],fun j sv' u h1 h2=> ?_⟩
  cases j with
  |zero=>
   simp at h1;subst h1
   exact (hd.2 0 _ u rfl h2).mono (.refl _) hle
  |succ j=>
   have h1:rest'[j]? =some sv':=by simpa using h1
   have hjl:j<rest.length:=by rw [<-o.len];exact (List.getElem?_eq_some_iff.1 h1).1
   exact (o.den h σ g w B _ (fun _ _=>rfl) hI hle Zcg j _ sv' u (List.getElem?_eq_getElem hjl) h1 (hd.2 (j+1) _ u (by simpa using List.getElem?_eq_getElem hjl) h2)).mono (fun b p h=>by cases h) (.refl _)
 refine ⟨_,hk,fun b hb=> ?_,?_⟩
 · have hb:b∈bs++r.mods:=hb
   rcases List.mem_append.1 hb with h1|h1
   · obtain ⟨y,hy,_⟩:=o.blk b h1
     rw [hy];simp
   · exact Zb2 (hR b h1)
 rcases htri with ht|⟨p,hp,ht⟩
 · refine .inl ?_
   intro B σ g w vals hh hrd hI hB hfree hd
   obtain rfl:hh=h:=funext fun b=>hrd b trivial
   refine (ht B σ _ w vals (frzH hh bs) (fun _ _=>rfl) (Zfz hE o.blk hI) hB hfree (args2 B σ g w _ hI hd)).mono ?_
   rintro en w' ⟨u,he,σ',g',hst,hI',hv⟩
   refine ⟨u,he,σ',g',Ziw hI hst,?_,hv⟩
   rw [Zai]
   exact hI'
 · refine .inr ⟨p,hp,fun B σ g w vals hI hB hfree hd=> ?_⟩
   refine (ht B σ _ w vals (Zfz hE o.blk hI) hB hfree (args2 B σ g w _ hI hd)).mono ?_
   rintro en w' ⟨he,σ',g',hst,hI'⟩
   refine ⟨he,σ',g',Ziw hI hst,?_⟩
   rw [Zai]
   exact hI'
noncomputable def Zff (E:Eng Y) (gth:List (SV Y)->Option Y.Th) (n:Nat) (S:Sum Y):Sum Y:=fun args h i k=>
 frzL (frzK E gth h n) args fun rest' bs=>S rest' (frzH h bs) i fun r=>W2 (bs++r.mods) fun m=>k ⟨r.v,r.n,m,patch (frzH h bs) i r,none⟩
theorem Uo (hE:EngOk E) {gth:List (SV Y)->Option Y.Th} {n:Nat} {f:Nat} {S:Sum Y} (hS:SumOk E f S):SumOk E f (Zff E gth n S):=by
 refine ⟨hS.good,fun args h i k hD hk=> ?_⟩
 unfold Zff at hk
 obtain ⟨rest',bs,hk,o⟩:=W6 (Ux hE n) hk
 obtain ⟨r,hk,hR,htri⟩:=hS.ok rest' (frzH h bs) i _ (fun b hb=>hD b (Zb2 hb)) hk
 rw [Y8] at hk
 have args2:∀(B:Nat) (σ:Pl) (g:GH) (w:World) (vals:List Value),Inv E B σ h g w->DenL E σ g args vals->DenL E σ (frzG E h σ bs g w) rest' vals:=by
  intro B σ g w vals hI hd
  have hle:=Vy (bs:=bs) hI
  refine ⟨by rw [<-hd.1];exact o.len,fun j sv' u h1 h2=> ?_⟩
  have hjl:j<args.length:=by rw [<-o.len];exact (List.getElem?_eq_some_iff.1 h1).1
  exact (o.den h σ g w B _ (fun _ _=>rfl) hI hle Zcg j _ sv' u (List.getElem?_eq_getElem hjl) h1 (hd.2 j _ u (List.getElem?_eq_getElem hjl) h2)).mono (fun b p h=>by cases h) (.refl _)
 refine ⟨_,hk,fun b hb=> ?_,?_⟩
 · have hb:b∈bs++r.mods:=hb
   rcases List.mem_append.1 hb with h1|h1
   · obtain ⟨y,hy,_⟩:=o.blk b h1
     rw [hy];simp
   · exact Zb2 (hR b h1)
 rcases htri with ht|⟨p,hp,ht⟩
 · refine .inl ?_
   intro B σ g w vals hh hrd hI hB hfree hd
   obtain rfl:hh=h:=funext fun b=>hrd b trivial
   refine (ht B σ _ w vals (frzH hh bs) (fun _ _=>rfl) (Zfz hE o.blk hI) hB hfree (args2 B σ g w _ hI hd)).mono ?_
   rintro en w' ⟨u,he,σ',g',hst,hI',hv⟩
   refine ⟨u,he,σ',g',Ziw hI hst,?_,hv⟩
   rw [Zai]
   exact hI'
 · refine .inr ⟨p,hp,fun B σ g w vals hI hB hfree hd=> ?_⟩
   refine (ht B σ _ w vals (Zfz hE o.blk hI) hB hfree (args2 B σ g w _ hI hd)).mono ?_
   rintro en w' ⟨he,σ',g',hst,hI'⟩
   refine ⟨he,σ',g',Ziw hI hst,?_⟩
   rw [Zai]
   exact hI'
end
end
section
open Go
noncomputable def Zy3:Sum thy:=Ue (dA1 dS) (fun _=>True) (fun x=>Yp x.1) fun y=> .tup [.psl Th.toks y.1 false,.int false .i64 y.2.1,.int false .i64 y.2.2]
theorem Zt3:SumOk E 27 Zy3:=Z7 E_ok (Zd (f:=27) rfl) fun x _=>Zpx x.1
noncomputable def Zy4:Sum thy:=frzA E (fun _=>none) 2 (sumM (mI (dA1 dCls) (n1 fun _=>rfl) dCl (fun _=>rfl)) (fun x a=>x.1.length<1000000000/\a.1.length<=1000000000) fun x a=>Z5 a.1 x.1 x.2.1)
theorem Zt4:SumOk E 34 Zy4:=Z6n E_ok (Xc E_ok (Zd rfl) fun x a h=>Zte a.1 x.1 x.2.1 h.1 h.2)
structure QX where
 cs:List Cls
 fz:Nat
 l:List Tok
 ed:Int
 p:Int
 k:Nat
def Apa:Fr thy->Hp thy->Nat->Ann thy:=fun T h i=>{X:=Bool×QX,fr:=fun x=> [(0,T 0),(2,T 2),(3,T 3),(4,T 4),(6,T 6),(7,.int false .i64 x.2.p)],bl:=fun x=>(bOf (T 6),.raw [.psl Th.toks x.2.l false,.int false .i64 x.2.ed] 0 none)::(bOf (T 2),.raw ((cellsOf h (T 2)).take 2++ [match x.1 with|true=> .sl i 0 x.2.cs.length 9 none|false=> .val (.slice none 0 0)]) 0 none)::((match x.1 with|true=> [(i,.rows Th.clauses x.2.cs x.2.fz)]|false=> [])++(blkP h (T 3)++blkP h (T 4))),src:=fun x=>(match x.1 with|true=> [(i,3002)]|false=> []),md:= [bOf (T 6),bOf (T 2)],ih:=i+1,M:=i+60,meas:=fun x=>x.2.k,ex:=ex2,al:=al2,exOk:=Zxt,alOk:=Zxu}
noncomputable def Fpa:Fns thy:=addL (addS (addS (addS Fme 32 Z1i) 27 Zy3) 34 Zy4) 10 12 Apa E
theorem Yb1:FnsOk E Fpa:=Yc E_ok (Zb (Zb (Zb Zfk Zq6) Zt3) Zt4) _ _ _
abbrev qCE1 (a0:Tar):=([]=Tar.name a0/\(0:Int)=Tar.for_ a0/\Tar.clauses a0= []/\True)
abbrev qCE8:=(0:Nat)
abbrev qCE2 (a0:List Nat) (b0:Int) (c0:QX):=(a0=a0/\qCE8=qCE8/\qCE8=qCE8/\qCE8=qCE8/\qCE8=qCE8/\b0=QX.p c0/\True)
abbrev qCE3 (a0:PX) (b0:QX):=((Prod.fst a0=QX.l b0/\(false=true->false=true))/\Prod.fst (Prod.snd a0)=QX.ed b0/\True)
abbrev qCE4 (a0:List Tok×Int×Int):=(Prod.fst (Prod.snd a0)=Prod.fst (Prod.snd a0)/\True)
abbrev qCE5 (a0:List Tok×Int×Int):=(Prod.snd (Prod.snd a0)=Prod.snd (Prod.snd a0)/\True)
abbrev qCE6 (a0:Cls):=(Ex.mk (Ex.op (Cls.pay a0)) (Ex.n (Cls.pay a0)) (Ex.d0 (Cls.pay a0)) (Ex.d1 (Cls.pay a0)) (Ex.d2 (Cls.pay a0)) (Ex.d3 (Cls.pay a0)) (Ex.l (Cls.pay a0)))
abbrev qCEa (a0:QX):=(List.tail (QX.l a0))
abbrev qCE7 (a0:QX):=((↑(List.length (qCEa a0)):Int)>(0:Int))
abbrev qCE9 (a0:QX):=(List.length (QX.cs a0))
abbrev qCEb (a0:PX):=(Prod.fst (Prod.snd a0))
abbrev qCEc (a0:QX):=(List.take (qCE9 a0) (List.drop qCE8 (QX.cs a0)))
abbrev qCEd (a0:Int):=((1:Int)+a0)
theorem Zt5 (s:List Nat) (t:Tar) (a e:Int):Zk E Fpa (vc E Fpa 400) 10 [.str false s] hp0 0 (fun r=>ret E (patch hp0 0 r) r.v (.tup [.agg [.str false t.name,.int false .i64 t.for_,.psl Th.clauses t.clauses false],.int false .i64 a,.int false .i64 e]))=(
 True/\∀(y:List Tok×Int×Int),y=Yp s->((Prod.snd (Prod.snd y) !=(0:Int))=true->(qCE1 t)/\Prod.fst (Prod.snd y)=a/\Prod.snd (Prod.snd y)=e/\True)/\((Prod.snd (Prod.snd y) !=(0:Int))=false->(isW [(116:Nat),(97:Nat),(114:Nat),(105:Nat),(102:Nat),(102:Nat)] (Prod.fst y)=true->True/\(∀(y_1:List Nat) (x':PX),Ua (List.tail (Prod.fst y)) (↑(List.length s):Int)=Except.ok (y_1,x')->(isW [(102:Nat),(111:Nat),(114:Nat)] (Prod.fst x')=true->(WK.ki=WK.at_\/WK.ki=WK.ki\/WK.ki=WK.un)/\(∀(y_2:Int) (x'_1:PX),Ya (WK.words WK.ki) (List.tail (Prod.fst x')) (qCEb x')=Except.ok (y_2,x'_1)->(isW [(123:Nat)] (Prod.fst x'_1)=true->∀(y_3:Int),y_3=hdT (qCEb x'_1) (List.tail (Prod.fst x'_1))->∃(R:Bool×QX->Prop),((∃(y_4:QX),R (false,y_4)/\true=true/\(qCE2 s y_3 y_4)/\((List.tail (Prod.fst x'_1)=QX.l y_4/\(false=true->false=true))/\Prod.fst (Prod.snd x'_1)=QX.ed y_4/\True)/\(y_1=y_1/\wr IntKind.i64 (qCEd y_2)=wr IntKind.i64 (qCEd y_2)/\Value.slice none qCE8 qCE8=Value.slice none qCE8 qCE8/\True)/\(qCE4 y)/\(qCE5 y)/\True)\/∃(y:QX),R (true,y)/\true=true/\False)/\(∀(y_4:QX),R (false,y_4)->(isW [(99:Nat),(108:Nat),(97:Nat),(117:Nat),(115:Nat),(101:Nat)] (QX.l y_4)=true->(List.length (qCEa y_4)+(1:Nat)<=(1000000000:Nat)/\qCE8<=(1000000000:Nat))/\(∀(y_5:Cls) (x':PX),Z5 [] (qCEa y_4) (QX.ed y_4)=Except.ok (y_5,x')->∀(y_6:Int),y_6=hdT (qCEb x') (Prod.fst x')->(∃(y_7:QX),R (false,y_7)/\y_7.6+(1:Nat)<=y_4.6/\true=true/\(qCE2 s y_6 y_7)/\(qCE3 x' y_7)/\(y_1=y_1/\wr IntKind.i64 (qCEd y_2)=wr IntKind.i64 (qCEd y_2)/\False/\True)/\(qCE4 y)/\(qCE5 y)/\True)\/∃(y_7:QX),R (true,y_7)/\y_7.6+(1:Nat)<=y_4.6/\true=true/\(qCE2 s y_6 y_7)/\(qCE3 x' y_7)/\(y_1=y_1/\wr IntKind.i64 (qCEd y_2)=wr IntKind.i64 (qCEd y_2)/\(qCE8=qCE8/\(1:Nat)=List.length (QX.cs y_7)/\True)/\True)/\([Cls.mk (Cls.name y_5) (Cls.when_ y_5) (qCE6 y_5)]=QX.cs y_7/\qCE8=QX.fz y_7)/\(qCE4 y)/\(qCE5 y)/\True)/\∀(e_1:Int×Int),Z5 [] (qCEa y_4) (QX.ed y_4)=Except.error e_1->(qCE1 t)/\Prod.fst e_1=a/\Prod.snd e_1=e/\True)/\(isW [(99:Nat),(108:Nat),(97:Nat),(117:Nat),(115:Nat),(101:Nat)] (QX.l y_4)=false->(isW [(125:Nat)] (QX.l y_4)=true->(decide (qCE7 y_4)=true->∀(y:Int),y=hdT (QX.ed y_4) (qCEa y_4)->(qCE1 t)/\y=a/\(160:Int)=e/\True)/\(decide (qCE7 y_4)=false->(y_1=Tar.name t/\wr IntKind.i64 (qCEd y_2)=Tar.for_ t/\Tar.clauses t= []/\True)/\(0:Int)=a/\(0:Int)=e/\True))/\(isW [(125:Nat)] (QX.l y_4)=false->(qCE1 t)/\hdT (QX.ed y_4) (QX.l y_4)=a/\(160:Int)=e/\True)))/\∀(y_4:QX),R (true,y_4)->(isW [(99:Nat),(108:Nat),(97:Nat),(117:Nat),(115:Nat),(101:Nat)] (QX.l y_4)=true->(((↑(qCE9 y_4):Int)==(64:Int))=true->(qCE1 t)/\QX.p y_4=a/\(2:Int)=e/\True)/\(((↑(qCE9 y_4):Int)==(64:Int))=false->qCE8+List.length (QX.cs y_4)<=List.length (QX.cs y_4)/\(List.length (qCEa y_4)+(1:Nat)<=(1000000000:Nat)/\List.length (qCEc y_4)<=(1000000000:Nat))/\(∀(y_5:Cls) (x':PX),Z5 (qCEc y_4) (qCEa y_4) (QX.ed y_4)=Except.ok (y_5,x')->(List.length (QX.cs y_4)<=List.length (QX.cs y_4)/\mx2 (QX.fz y_4) (qCE9 y_4)<=List.length (QX.cs y_4)/\(List.length (QX.cs y_4)+(1:Nat))*(112:Nat)<=(140737488355328:Nat))/\∀(y_6:Int),y_6=hdT (qCEb x') (Prod.fst x')->(∃(y_7:QX),R (false,y_7)/\y_7.6+(1:Nat)<=y_4.6/\true=true/\(qCE2 s y_6 y_7)/\(qCE3 x' y_7)/\(y_1=y_1/\wr IntKind.i64 (qCEd y_2)=wr IntKind.i64 (qCEd y_2)/\False/\True)/\(qCE4 y)/\(qCE5 y)/\True)\/∃(y_7:QX),R (true,y_7)/\y_7.6+(1:Nat)<=y_4.6/\true=true/\(qCE2 s y_6 y_7)/\(qCE3 x' y_7)/\(y_1=y_1/\wr IntKind.i64 (qCEd y_2)=wr IntKind.i64 (qCEd y_2)/\
(qCE8=qCE8/\List.length (QX.cs y_4)+(1:Nat)=List.length (QX.cs y_7)/\True)/\True)/\(List.take (qCE9 y_4) (QX.cs y_4)++ [Cls.mk (Cls.name y_5) (Cls.when_ y_5) (qCE6 y_5)]=QX.cs y_7/\mx2 (QX.fz y_4) (qCE9 y_4)=QX.fz y_7)/\(qCE4 y)/\(qCE5 y)/\True)/\∀(e_1:Int×Int),Z5 (qCEc y_4) (qCEa y_4) (QX.ed y_4)=Except.error e_1->(qCE1 t)/\Prod.fst e_1=a/\Prod.snd e_1=e/\True))/\(isW [(99:Nat),(108:Nat),(97:Nat),(117:Nat),(115:Nat),(101:Nat)] (QX.l y_4)=false->(isW [(125:Nat)] (QX.l y_4)=true->(decide (qCE7 y_4)=true->∀(y:Int),y=hdT (QX.ed y_4) (qCEa y_4)->(qCE1 t)/\y=a/\(160:Int)=e/\True)/\(decide (qCE7 y_4)=false->(y_1=Tar.name t/\wr IntKind.i64 (qCEd y_2)=Tar.for_ t/\(qCE8+List.length (QX.cs y_4)<=List.length (QX.cs y_4)/\List.take (qCE9 y_4) (QX.cs y_4)=Tar.clauses t)/\True)/\(0:Int)=a/\(0:Int)=e/\True))/\(isW [(125:Nat)] (QX.l y_4)=false->(qCE1 t)/\hdT (QX.ed y_4) (QX.l y_4)=a/\(160:Int)=e/\True)))/\(isW [(123:Nat)] (Prod.fst x'_1)=false->(qCE1 t)/\hdT (qCEb x'_1) (Prod.fst x'_1)=a/\(160:Int)=e/\True))/\∀(e_1:Int×Int),Ya (WK.words WK.ki) (List.tail (Prod.fst x')) (qCEb x')=Except.error e_1->(qCE1 t)/\Prod.fst e_1=a/\Prod.snd e_1=e/\True)/\(isW [(102:Nat),(111:Nat),(114:Nat)] (Prod.fst x')=false->(qCE1 t)/\hdT (qCEb x') (Prod.fst x')=a/\(160:Int)=e/\True))/\∀(e_1:Int×Int),Ua (List.tail (Prod.fst y)) (↑(List.length s):Int)=Except.error e_1->(qCE1 t)/\Prod.fst e_1=a/\Prod.snd e_1=e/\True)/\(isW [(116:Nat),(97:Nat),(114:Nat),(105:Nat),(102:Nat),(102:Nat)] (Prod.fst y)=false->(qCE1 t)/\hdT (↑(List.length s):Int) (Prod.fst y)=a/\(160:Int)=e/\True))):=by kernel_rfl
theorem Zy5:∀{k:Nat} {more:Bool} {ts:List Tst} {l:List Tok} {e:Int} {ts':List Tst} {x:PX},pTs k more ts l e= .ok (ts',x)->x.1.length<=l.length
 |0,more,ts,l,e,ts',x,h=>by
  unfold pTs at h
  injection h with h
  injection h with _ h
  subst h
  exact Nat.le_refl _
 |k+1,more,ts,l,e,ts',x,h=>by
  unfold pTs at h
  split at h
  · split at h
    · cases h
    · rename_i t z ht
      have h1:=(Zfo ht).1
      have h2:=Zy5 h
      split at h2
      · rw [List.length_tail] at h2
        omega
      · omega
  · injection h with h
    injection h with _ h
    subst h
    exact Nat.le_refl _
theorem Yb2 {l:List Tok} {e:Int} {y:Ex} {x:PX} (h:pX l e= .ok (y,x)):x.1.length<=l.length:=by
 have:=Zru l e y x h
 omega
theorem Z27 {nm:List Nat} {ts:List Tst} {l:List Tok} {e:Int} {c:Cls} {x:PX} (h:pPay nm ts l e= .ok (c,x)):x.1.length<=l.length:=by
 unfold pPay at h
 split at h
 · split at h
   · cases h
   · rename_i y z hy
     have h1:=Yb2 hy
     rw [List.length_tail] at h1
     split at h
     · cases h
     · split at h
       · injection h with h
         injection h with _ h
         subst h
         show z.1.tail.length<=l.length
         rw [List.length_tail]
         omega
       · cases h
 · cases h
theorem Zbm {bs:List Cls} {l:List Tok} {e:Int} {c:Cls} {x:PX} (h:Z5 bs l e= .ok (c,x)):x.1.length<=l.length:=by
 unfold Z5 at h
 split at h
 · cases h
 · rename_i nm z hz
   have h1:=Zb7 hz
   split at h
   · cases h
   · unfold pAft at h
     split at h
     · cases h
     · rename_i ts y hy
       have h2:=Zy5 hy
       have h3:=Z27 h
       split at h2
       · rw [List.length_tail] at h2
         omega
       · omega
def Xq:List Nat:= [99,108,97,117,115,101]
def pCls:Nat->List Cls->List Tok->Int->PR (List Cls)
 |0,cs,l,e=> .ok (cs,l,e,())
 |k+1,cs,l,e=>if isW [99,108,97,117,115,101] l then (if cs.length=64 then .error (hdT e l,2) else match Z5 cs l.tail e with
  | .error er=> .error er
  | .ok (c,x)=>pCls k (cs++ [c]) x.1 x.2.1) else .ok (cs,l,e,())
def pEnd (nm:List Nat) (fo:Int):PR (List Cls)->PR Tar
 | .error er=> .error er
 | .ok (cs,x)=>if isW [125] x.1 then (if 0<x.1.tail.length then .error (hdT x.2.1 x.1.tail,160) else .ok (⟨nm,fo,cs⟩,x.1.tail,x.2.1,())) else .error (hdT x.2.1 x.1,160)
def pTar (l:List Tok) (e:Int):PR Tar:=
 if isW [116,97,114,105,102,102] l then
  match Ua l.tail e with
  | .error er=> .error er
  | .ok (nm,x)=>
   if isW [102,111,114] x.1 then
    match Ya WK.ki.words x.1.tail x.2.1 with
    | .error er=> .error er
    | .ok (k,z)=>if isW [123] z.1 then pEnd nm (wr .i64 (1+k)) (pCls (z.1.tail.length+1) [] z.1.tail z.2.1) else .error (hdT z.2.1 z.1,160)
   else .error (hdT x.2.1 x.1,160)
 else .error (hdT e l,160)
def zT:Tar:=⟨[],0,[]⟩
def outT:PR Tar->Tar×Int×Int
 | .ok y=>(y.1,0,0)
 | .error er=>(zT,er.1,er.2)
def Vj (s:List Nat):Tar×Int×Int:=if (Yp s).2.2≠0 then (zT,(Yp s).2.1,(Yp s).2.2) else outT (pTar (Yp s).1 s.length)
theorem Zej:∀{k:Nat} {s:List Nat} {p:Nat} {ts:List Tok},ts.length<=p->p<=s.length->(tksL k s p ts).1.length<=s.length
 |0,s,p,ts,h1,h2=>by unfold tksL;exact Nat.le_trans h1 h2
 |k+1,s,p,ts,h1,h2=>by
  unfold tksL
  split
  · exact Nat.le_trans h1 h2
  · rename_i c hc
    have hlt:=(List.getElem?_eq_some_iff.1 hc).1
    split
    · exact Zej (by omega) hlt
    · split
      · split
        · exact Nat.le_trans h1 h2
        · have:=(Zpw 10 (s.drop p) 0).1
          rw [List.length_drop] at this
          exact Zej (by omega) (by omega)
      · split
        · exact Nat.zero_le _
        · rename_i h3
          have h3:(tokP (s.drop p)).2=0:=by simpa using h3
          obtain ⟨n1,n2,_⟩:=Zsd h3
          rw [List.length_drop] at n2
          exact Zej (by rw [List.length_append];simp;omega) (by omega)
theorem Zpg (s:List Nat):(Yp s).1.length<=2000:=by
 unfold Yp
 split
 · exact Nat.zero_le _
 · have:=Zej (k:=s.length) (s:=s) (p:=0) (ts:= []) (Nat.le_refl _) (Nat.zero_le _)
   omega
theorem Zy6 (c:Cls):Cls.mk (Cls.name c) (Cls.when_ c) (Ex.mk (Ex.op (Cls.pay c)) (Ex.n (Cls.pay c)) (Ex.d0 (Cls.pay c)) (Ex.d1 (Cls.pay c)) (Ex.d2 (Cls.pay c)) (Ex.d3 (Cls.pay c)) (Ex.l (Cls.pay c)))=c:=by
 obtain ⟨a,b,p⟩:=c
 cases p
 rfl
theorem Zt6 (s:List Nat):PureC E 10 [.str false s] (.tup [.agg [.str false (Vj s).1.name,.int false .i64 (Vj s).1.for_,.psl Th.clauses (Vj s).1.clauses false],.int false .i64 (Vj s).2.1,.int false .i64 (Vj s).2.2]):=by
 refine Zc E_ok (Zi E_ok Yb1 400) ?_
 rw [Zt5];delta qCE1 qCE8 qCE2 qCE3 qCE4 qCE5 qCE6 qCEa qCE7 qCE9 qCEb qCEc qCEd
 refine ⟨trivial,fun y hy=> ?_⟩
 have hlen:y.1.length<=2000:=hy▸Zpg s
 have hp:Vj s=if y.2.2≠0 then (zT,y.2.1,y.2.2) else outT (pTar y.1 s.length):=by subst hy;rfl
 generalize Vj s=res at hp
 refine ⟨fun h=> ?_,fun h=> ?_⟩
 · have h:y.2.2≠0:=by simpa using h
   rw [if_pos h] at hp
   subst hp
   exact ⟨⟨rfl,rfl,rfl,trivial⟩,rfl,rfl,trivial⟩
 have h:y.2.2=0:=by simpa using h
 rw [if_neg (by rw [h];decide)] at hp
 unfold pTar at hp
 refine ⟨fun h1=>⟨trivial,fun nm x hx=>⟨fun h2=>⟨.inr (.inl rfl),fun fo z hz=>⟨fun h3=> ?_,fun h3=> ?_⟩,fun er he=> ?_⟩,fun h2=> ?_⟩,fun er he=> ?_⟩,fun h1=> ?_⟩
 rotate_left
 · rw [if_pos h1,hx] at hp
   simp only [if_pos h2,hz,h3] at hp
   subst hp
   exact ⟨⟨rfl,rfl,rfl,trivial⟩,rfl,rfl,trivial⟩
 · rw [if_pos h1,hx] at hp
   simp only [if_pos h2,he] at hp
   subst hp
   exact ⟨⟨rfl,rfl,rfl,trivial⟩,rfl,rfl,trivial⟩
 · rw [if_pos h1,hx] at hp
   simp only [h2] at hp
   subst hp
   exact ⟨⟨rfl,rfl,rfl,trivial⟩,rfl,rfl,trivial⟩
 · rw [if_pos h1,he] at hp
   subst hp
   exact ⟨⟨rfl,rfl,rfl,trivial⟩,rfl,rfl,trivial⟩
 · rw [h1] at hp
   subst hp
   exact ⟨⟨rfl,rfl,rfl,trivial⟩,rfl,rfl,trivial⟩
 rw [if_pos h1,hx] at hp
 simp only [if_pos h2,hz,if_pos h3] at hp
 have l1:=Zp h1
 have l2:=Zb7 hx
 have l3:=Zp h2
 have l4:z.1.length<=x.1.tail.length:=by
  unfold Ya at hz
  split at hz
  · injection hz with hz
    injection hz with _ hz
    subst hz
    show x.1.tail.tail.length<=_
    rw [List.length_tail (l:=x.1.tail)]
    omega
  · cases hz
 have l5:=Zp h3
 intro q hq
 subst hq
 refine ⟨fun v=>(v.1=false->v.2.cs= [])/\outT (pEnd nm (wr .i64 (1+fo)) (pCls v.2.k v.2.cs v.2.l v.2.ed))=res/\v.2.p=hdT v.2.ed v.2.l/\v.2.l.length<v.2.k/\v.2.l.length<=2000/\v.2.fz<=v.2.cs.length/\v.2.cs.length<=64,
  .inl ⟨⟨[],0,z.1.tail,z.2.1,hdT z.2.1 z.1.tail,z.1.tail.length+1⟩,⟨fun _=>rfl,hp.symm,rfl,Nat.lt_succ_self _,?_,Nat.le_refl _,Nat.zero_le _⟩,rfl,⟨rfl,rfl,rfl,rfl,rfl,rfl,trivial⟩,⟨⟨rfl,fun h=>h⟩,rfl,trivial⟩,⟨rfl,rfl,rfl,trivial⟩,⟨rfl,trivial⟩,⟨rfl,trivial⟩,trivial⟩,?_,?_⟩
 · show z.1.tail.length<=2000
   omega
 all_goals
  rintro v ⟨v0,v1,v2,v3,v4,v5,v6⟩
  replace v1:outT (pEnd nm (wr .i64 (1+fo)) (pCls v.k v.cs v.l v.ed))=res:=v1
  replace v2:v.p=hdT v.ed v.l:=v2
  replace v3:v.l.length<v.k:=v3
  replace v4:v.l.length<=2000:=v4
  replace v5:v.fz<=v.cs.length:=v5
  replace v6:v.cs.length<=64:=v6
  obtain ⟨k,hk⟩:∃k,v.k=k+1:=⟨v.k-1,by omega⟩
  rw [hk] at v1
  unfold pCls at v1
  refine ⟨fun w1=> ?_,fun w1=>⟨fun w2=>⟨fun w3=> ?_,fun w3=> ?_⟩,fun w2=> ?_⟩⟩
 · have v0:v.cs= []:=v0 rfl
   rw [if_pos w1,v0,if_neg (by simp)] at v1
   have l6:=Zp w1
   refine ⟨⟨by omega,by omega⟩,fun c x' hc a ha=> ?_,fun er he=> ?_⟩
   · subst ha
     rw [hc] at v1
     have l7:=Zbm hc
     refine .inr ⟨⟨[c],0,x'.1,x'.2.1,hdT x'.2.1 x'.1,k⟩,⟨fun h=>(by cases h),v1,rfl,(by show x'.1.length<k;omega),(by show x'.1.length<=2000;omega),Nat.zero_le _,(by show 1<=64;decide)⟩,(by show k+1<=v.k;omega),rfl,⟨rfl,rfl,rfl,rfl,rfl,rfl,trivial⟩,⟨⟨rfl,fun h=>h⟩,rfl,trivial⟩,⟨rfl,rfl,⟨rfl,rfl,trivial⟩,trivial⟩,⟨?_,rfl⟩,⟨rfl,trivial⟩,⟨rfl,trivial⟩,trivial⟩
     rw [Zy6]
   · rw [he] at v1
     subst v1
     exact ⟨⟨rfl,rfl,rfl,trivial⟩,rfl,rfl,trivial⟩
 · rw [if_neg (by rw [w1];decide)] at v1
   simp only [pEnd,if_pos w2] at v1
   have w3:0<v.l.tail.length:=by
    have:(0:Int)<v.l.tail.length:=by simpa only [decide_eq_true_eq] using w3
    omega
   rw [if_pos w3] at v1
   intro a ha
   subst ha
   subst v1
   exact ⟨⟨rfl,rfl,rfl,trivial⟩,rfl,rfl,trivial⟩
 · have v0:v.cs= []:=v0 rfl
   rw [if_neg (by rw [w1];decide)] at v1
   simp only [pEnd,if_pos w2] at v1
   have w3:¬0<v.l.tail.length:=by
    have:¬(0:Int)<v.l.tail.length:=by simpa only [decide_eq_false_iff_not] using w3
    omega
   rw [if_neg w3,v0] at v1
   subst v1
   exact ⟨⟨rfl,rfl,rfl,trivial⟩,rfl,rfl,trivial⟩
 · rw [if_neg (by rw [w1];decide)] at v1
   simp only [pEnd,w2] at v1
   subst v1
   exact ⟨⟨rfl,rfl,rfl,trivial⟩,rfl,rfl,trivial⟩
 · have l6:=Zp w1
   rw [if_pos w1] at v1
   rw [List.drop_zero,List.take_length]
   refine ⟨fun w4=> ?_,fun w4=>⟨by omega,⟨by omega,by omega⟩,fun c x' hc=>⟨⟨Nat.le_refl _,by rw [Zhp];omega,by omega⟩,fun a ha=> ?_⟩,fun er he=> ?_⟩⟩
   · have w4:v.cs.length=64:=by
      have w5:(v.cs.length:Int)=64:=eq_of_beq w4
      omega
     rw [if_pos w4] at v1
     subst v1
     exact ⟨⟨rfl,rfl,rfl,trivial⟩,v2,rfl,trivial⟩
   · subst ha
     have w4:v.cs.length≠64:=fun e=>by rw [e] at w4;simp at w4
     rw [if_neg w4,hc] at v1
     have l7:=Zbm hc
     refine .inr ⟨⟨v.cs++ [c],mx2 v.fz v.cs.length,x'.1,x'.2.1,hdT x'.2.1 x'.1,k⟩,⟨fun h=>(by cases h),v1,rfl,(by show x'.1.length<k;omega),(by show x'.1.length<=2000;omega),?_,?_⟩,(by show k+1<=v.k;omega),rfl,⟨rfl,rfl,rfl,rfl,rfl,rfl,trivial⟩,⟨⟨rfl,fun h=>h⟩,rfl,trivial⟩,⟨rfl,rfl,⟨rfl,?_,trivial⟩,trivial⟩,⟨?_,rfl⟩,⟨rfl,trivial⟩,⟨rfl,trivial⟩,trivial⟩
     · show mx2 v.fz v.cs.length<=(v.cs++ [c]).length
       rw [Zhp,List.length_append]
       omega
     · show (v.cs++ [c]).length<=64
       rw [List.length_append]
       simp
       omega
     · show v.cs.length+1=(v.cs++ [c]).length
       rw [List.length_append]
       rfl
     · rw [Zy6]
   · have w4:v.cs.length≠64:=fun e=>by rw [e] at w4;simp at w4
     rw [if_neg w4,he] at v1
     subst v1
     exact ⟨⟨rfl,rfl,rfl,trivial⟩,rfl,rfl,trivial⟩
 · rw [if_neg (by rw [w1];decide)] at v1
   simp only [pEnd,if_pos w2] at v1
   have w3:0<v.l.tail.length:=by
    have:(0:Int)<v.l.tail.length:=by simpa only [decide_eq_true_eq] using w3
    omega
   rw [if_pos w3] at v1
   intro a ha
   subst ha
   subst v1
   exact ⟨⟨rfl,rfl,rfl,trivial⟩,rfl,rfl,trivial⟩
 · rw [if_neg (by rw [w1];decide)] at v1
   simp only [pEnd,if_pos w2] at v1
   have w3:¬0<v.l.tail.length:=by
    have:¬(0:Int)<v.l.tail.length:=by simpa only [decide_eq_false_iff_not] using w3
    omega
   rw [if_neg w3] at v1
   subst v1
   exact ⟨⟨rfl,rfl,⟨by omega,List.take_length⟩,trivial⟩,rfl,rfl,trivial⟩
 · rw [if_neg (by rw [w1];decide)] at v1
   simp only [pEnd,w2] at v1
   subst v1
   exact ⟨⟨rfl,rfl,rfl,trivial⟩,rfl,rfl,trivial⟩
end
section
open Go
def decN (n:Int):List Nat:=(Lib.itoa n).map UInt8.toNat
theorem Zoc (w:World):Ext w w:=⟨rfl,rfl,rfl,Nat.le_refl _,fun _ _=>rfl⟩
theorem Ztu (x:Int) (h0:0<=x) (h1:x<=18446744073709551615):PureC E 142 [.int false .u64 x] (.int false .i64 (Lib.bitLen x.toNat)):=by
 refine V0 fun g w vals hd=> ?_
 obtain ⟨u,rfl,hu⟩:=Z7m hd
 cases hu
 refine (Any.bits_Len64 Tryz.lays129 x w h0 h1).mono ?_
 rintro e w' ⟨rfl,rfl⟩
 exact ⟨_,rfl,.int _ _ _,Zoc _⟩
theorem Z2s (x:Nat) (h:x<=64):PureC E 141 [.int false .i64 x] (.int false .i64 (Lib.l10 x)):=by
 refine V0 fun g w vals hd=> ?_
 obtain ⟨u,rfl,hu⟩:=Z7m hd
 cases hu
 refine (Any.internal_strconv_log10Pow2 Tryz.lays317 x h w).mono ?_
 rintro e w' ⟨rfl,rfl⟩
 exact ⟨_,rfl,.int _ _ _,Zoc _⟩
theorem Ybn (l:List UInt8):toL ⟨l.toArray⟩=l.map UInt8.toNat:=rfl
theorem Ztv (x:Nat) (h:x<100):PureC E 114 [.int false .i64 x] (.str false ((Lib.decDigits x).map UInt8.toNat)):=by
 refine V0 fun g w vals hd=> ?_
 obtain ⟨u,rfl,hu⟩:=Z7m hd
 cases hu
 refine (Any.internal_strconv_small Tryz.lays283 x h w).mono ?_
 rintro e w' ⟨rfl,rfl⟩
 exact ⟨_,rfl,.str _ (Ybn _),Zoc _⟩
noncomputable def dU64:Dc E Int:=dInt .u64
noncomputable def Z5m:Sum thy:=Ue (dA1 dU64) (fun x=>0<=x.1/\x.1<=18446744073709551615) (fun x=>Lib.bitLen x.1.toNat) fun (y:Nat)=> .int false .i64 y
theorem Zyf:SumOk E 142 Z5m:=Z7 E_ok (Zd rfl) fun x h=>Ztu x.1 h.1 h.2
noncomputable def Sl10:Sum thy:=Ue (dA1 dN) (fun x=>0<=x.1/\x.1<=64) (fun x=>Lib.l10 x.1.toNat) fun (y:Nat)=> .int false .i64 y
theorem Z72:SumOk E 141 Sl10:=Z7 E_ok (Zd rfl) fun x h=>by
 have:=Z2s x.1.toNat (by omega)
 rw [show ((x.1.toNat:Nat):Int)=x.1 by omega] at this
 exact this
noncomputable def Fnd:Fns thy:=addS (addS F0 142 Z5m) 141 Sl10
abbrev qCF1:=(1:Nat)
abbrev qCFf (a0:Nat):=(↑a0:Int)
abbrev qCF2 (a0:Nat):=((qCFf a0)+(1:Int))
abbrev qCF3 (a0:Nat):=((qCFf a0)+(0:Int))
abbrev qCF4:=(0:Nat)
abbrev qCF5:=(↑(qCF4+qCF1+qCF1+qCF1+qCF1+qCF1+qCF1+qCF1+qCF1+qCF1+qCF1+qCF1+qCF1+qCF1+qCF1+qCF1+qCF1+qCF1+qCF1+qCF1):Int)
abbrev qCF6:=(↑(qCF4+qCF1+qCF1+qCF1+qCF1+qCF1+qCF1+qCF1+qCF1+qCF1+qCF1+qCF1+qCF1+qCF1+qCF1+qCF1+qCF1+qCF1+qCF1):Int)
abbrev qCF7:=(↑(qCF4+qCF1+qCF1+qCF1+qCF1+qCF1+qCF1+qCF1+qCF1+qCF1+qCF1+qCF1+qCF1+qCF1+qCF1+qCF1+qCF1+qCF1):Int)
abbrev qCF8:=(↑(qCF4+qCF1+qCF1+qCF1+qCF1+qCF1+qCF1+qCF1+qCF1+qCF1+qCF1+qCF1+qCF1+qCF1+qCF1+qCF1+qCF1):Int)
abbrev qCF9:=(↑(qCF4+qCF1+qCF1+qCF1+qCF1+qCF1+qCF1+qCF1+qCF1+qCF1+qCF1+qCF1+qCF1+qCF1+qCF1+qCF1):Int)
abbrev qCFa:=(↑(qCF4+qCF1+qCF1+qCF1+qCF1+qCF1+qCF1+qCF1+qCF1+qCF1+qCF1+qCF1+qCF1+qCF1+qCF1):Int)
abbrev qCFb:=(↑(qCF4+qCF1+qCF1+qCF1+qCF1+qCF1+qCF1+qCF1+qCF1+qCF1+qCF1+qCF1+qCF1+qCF1):Int)
abbrev qCFc:=(↑(qCF4+qCF1+qCF1+qCF1+qCF1+qCF1+qCF1+qCF1+qCF1+qCF1+qCF1+qCF1+qCF1):Int)
abbrev qCFd:=(↑(qCF4+qCF1+qCF1+qCF1+qCF1+qCF1+qCF1+qCF1+qCF1+qCF1+qCF1+qCF1):Int)
abbrev qCFe:=(↑(qCF4+qCF1+qCF1+qCF1+qCF1+qCF1+qCF1+qCF1+qCF1+qCF1+qCF1):Int)
abbrev qCFg:=(↑(qCF4+qCF1+qCF1+qCF1+qCF1+qCF1+qCF1+qCF1+qCF1+qCF1):Int)
abbrev qCFh:=(↑(qCF4+qCF1+qCF1+qCF1+qCF1+qCF1+qCF1+qCF1+qCF1):Int)
abbrev qCFi:=(↑(qCF4+qCF1+qCF1+qCF1+qCF1+qCF1+qCF1+qCF1):Int)
abbrev qCFj:=(↑(qCF4+qCF1+qCF1+qCF1+qCF1+qCF1+qCF1):Int)
abbrev qCFk:=(↑(qCF4+qCF1+qCF1+qCF1+qCF1+qCF1):Int)
theorem Z73 (u:Int) (v:Int):Zk E Fnd (vc E Fnd 400) 115 [.int false .u64 u] hp0 0 (fun r=>ret E (patch hp0 0 r) r.v (.int false .i64 v))=(
 ((0:Int)<=u/\u<=(18446744073709551615:Int))/\∀(y:Nat),y=Lib.bitLen (Int.toNat u)->((0:Int)<=(qCFf y)/\(qCFf y)<=(64:Int))/\∀(y_1:Nat),y_1=Lib.l10 (Int.toNat (qCFf y))->(0:Int)<=(qCFf y_1)/\(qCFf y_1)+(1:Int)<=(↑(20:Nat):Int)/\(((qCFf y_1)==(↑qCF4:Int))=true->(decide (u>=(1:Int))=true->wr IntKind.i64 (qCF2 y_1)=v)/\(decide (u>=(1:Int))=false->wr IntKind.i64 (qCF3 y_1)=v))/\(((qCFf y_1)==(↑qCF4:Int))=false->(((qCFf y_1)==(↑(qCF4+qCF1):Int))=true->(decide (u>=(10:Int))=true->wr IntKind.i64 (qCF2 y_1)=v)/\(decide (u>=(10:Int))=false->wr IntKind.i64 (qCF3 y_1)=v))/\(((qCFf y_1)==(↑(qCF4+qCF1):Int))=false->(((qCFf y_1)==(↑(qCF4+qCF1+qCF1):Int))=true->(decide (u>=(100:Int))=true->wr IntKind.i64 (qCF2 y_1)=v)/\(decide (u>=(100:Int))=false->wr IntKind.i64 (qCF3 y_1)=v))/\(((qCFf y_1)==(↑(qCF4+qCF1+qCF1):Int))=false->(((qCFf y_1)==(↑(qCF4+qCF1+qCF1+qCF1):Int))=true->(decide (u>=(1000:Int))=true->wr IntKind.i64 (qCF2 y_1)=v)/\(decide (u>=(1000:Int))=false->wr IntKind.i64 (qCF3 y_1)=v))/\(((qCFf y_1)==(↑(qCF4+qCF1+qCF1+qCF1):Int))=false->(((qCFf y_1)==(↑(qCF4+qCF1+qCF1+qCF1+qCF1):Int))=true->(decide (u>=(10000:Int))=true->wr IntKind.i64 (qCF2 y_1)=v)/\(decide (u>=(10000:Int))=false->wr IntKind.i64 (qCF3 y_1)=v))/\(((qCFf y_1)==(↑(qCF4+qCF1+qCF1+qCF1+qCF1):Int))=false->(((qCFf y_1)==qCFk)=true->(decide (u>=(100000:Int))=true->wr IntKind.i64 (qCF2 y_1)=v)/\(decide (u>=(100000:Int))=false->wr IntKind.i64 (qCF3 y_1)=v))/\(((qCFf y_1)==qCFk)=false->(((qCFf y_1)==qCFj)=true->(decide (u>=(1000000:Int))=true->wr IntKind.i64 (qCF2 y_1)=v)/\(decide (u>=(1000000:Int))=false->wr IntKind.i64 (qCF3 y_1)=v))/\(((qCFf y_1)==qCFj)=false->(((qCFf y_1)==qCFi)=true->(decide (u>=(10000000:Int))=true->wr IntKind.i64 (qCF2 y_1)=v)/\(decide (u>=(10000000:Int))=false->wr IntKind.i64 (qCF3 y_1)=v))/\(((qCFf y_1)==qCFi)=false->(((qCFf y_1)==qCFh)=true->(decide (u>=(100000000:Int))=true->wr IntKind.i64 (qCF2 y_1)=v)/\(decide (u>=(100000000:Int))=false->wr IntKind.i64 (qCF3 y_1)=v))/\(((qCFf y_1)==qCFh)=false->(((qCFf y_1)==qCFg)=true->(decide (u>=(1000000000:Int))=true->wr IntKind.i64 (qCF2 y_1)=v)/\(decide (u>=(1000000000:Int))=false->wr IntKind.i64 (qCF3 y_1)=v))/\(((qCFf y_1)==qCFg)=false->(((qCFf y_1)==qCFe)=true->(decide (u>=(10000000000:Int))=true->wr IntKind.i64 (qCF2 y_1)=v)/\(decide (u>=(10000000000:Int))=false->wr IntKind.i64 (qCF3 y_1)=v))/\(((qCFf y_1)==qCFe)=false->(((qCFf y_1)==qCFd)=true->(decide (u>=(100000000000:Int))=true->wr IntKind.i64 (qCF2 y_1)=v)/\(decide (u>=(100000000000:Int))=false->wr IntKind.i64 (qCF3 y_1)=v))/\(((qCFf y_1)==qCFd)=false->(((qCFf y_1)==qCFc)=true->(decide (u>=(1000000000000:Int))=true->wr IntKind.i64 (qCF2 y_1)=v)/\(decide (u>=(1000000000000:Int))=false->wr IntKind.i64 (qCF3 y_1)=v))/\(((qCFf y_1)==qCFc)=false->(((qCFf y_1)==qCFb)=true->(decide (u>=(10000000000000:Int))=true->wr IntKind.i64 (qCF2 y_1)=v)/\(decide (u>=(10000000000000:Int))=false->wr IntKind.i64 (qCF3 y_1)=v))/\(((qCFf y_1)==qCFb)=false->(((qCFf y_1)==qCFa)=true->(decide (u>=(100000000000000:Int))=true->wr IntKind.i64 (qCF2 y_1)=v)/\(decide (u>=(100000000000000:Int))=false->wr IntKind.i64 (qCF3 y_1)=v))/\(((qCFf y_1)==qCFa)=false->(((qCFf y_1)==qCF9)=true->(decide (u>=(1000000000000000:Int))=true->wr IntKind.i64 (qCF2 y_1)=v)/\(decide (u>=(1000000000000000:Int))=false->wr IntKind.i64 (qCF3 y_1)=v))/\(((qCFf y_1)==qCF9)=false->(((qCFf y_1)==qCF8)=true->(decide (u>=(10000000000000000:Int))=true->wr
IntKind.i64 (qCF2 y_1)=v)/\(decide (u>=(10000000000000000:Int))=false->wr IntKind.i64 (qCF3 y_1)=v))/\(((qCFf y_1)==qCF8)=false->(((qCFf y_1)==qCF7)=true->(decide (u>=(100000000000000000:Int))=true->wr IntKind.i64 (qCF2 y_1)=v)/\(decide (u>=(100000000000000000:Int))=false->wr IntKind.i64 (qCF3 y_1)=v))/\(((qCFf y_1)==qCF7)=false->(((qCFf y_1)==qCF6)=true->(decide (u>=(1000000000000000000:Int))=true->wr IntKind.i64 (qCF2 y_1)=v)/\(decide (u>=(1000000000000000000:Int))=false->wr IntKind.i64 (qCF3 y_1)=v))/\(((qCFf y_1)==qCF6)=false->(((qCFf y_1)==qCF5)=true->(decide (u>=(10000000000000000000:Int))=true->wr IntKind.i64 (qCF2 y_1)=v)/\(decide (u>=(10000000000000000000:Int))=false->wr IntKind.i64 (qCF3 y_1)=v))/\(((qCFf y_1)==qCF5)=false->True))))))))))))))))))))):=by kernel_rfl
theorem Ybo:FnsOk E Fnd:=Zb (Zb F0_ok Zyf) Z72
theorem blA:∀f x,Lib.bitLenAux f x<=f
 |0,x=>Nat.le_refl _
 |f+1,x=>by
  unfold Lib.bitLenAux
  split
  · exact Nat.zero_le _
  · have:=blA f (x/2)
    omega
theorem bl64 (x:Nat):Lib.bitLen x<=64:=blA 64 x
theorem Z74 (u:Nat) (h1:1<=u) (h2:u<18446744073709551616):PureC E 115 [.int false .u64 (u:Int)] (.int false .i64 (Lib.nDigits u)):=by
 refine Zc E_ok (Zi E_ok Ybo 400) ?_
 rw [Z73];delta qCF1 qCFf qCF2 qCF3 qCF4 qCF5 qCF6 qCF7 qCF8 qCF9 qCFa qCFb qCFc qCFd qCFe qCFg qCFh qCFi qCFj qCFk
 refine ⟨⟨by omega,by omega⟩,fun y hy=> ?_⟩
 have hb:y=Lib.bitLen u:=by rw [hy,show Int.toNat (u:Int)=u by omega]
 obtain ⟨k1,k2⟩:=Lib.numDigits_eq u h1 h2
 have hle:Lib.bitLen u<=64:=bl64 u
 refine ⟨⟨by omega,by omega⟩,fun t ht=> ?_⟩
 have ht:t=Lib.l10 (Lib.bitLen u):=by rw [ht,show Int.toNat (y:Int)=y by omega,hb]
 rw [<-ht] at k1 k2
 generalize Lib.nDigits u=d at*
 clear ht hb hy hle
 refine ⟨by omega,by omega,?_⟩
 have hc:t=0\/t=1\/t=2\/t=3\/t=4\/t=5\/t=6\/t=7\/t=8\/t=9\/t=10\/t=11\/t=12\/t=13\/t=14\/t=15\/t=16\/t=17\/t=18\/t=19:=by omega
 have w:∀n:Int,0<=n->n<=20->wr .i64 n=n:=fun n h0 h1=>wr64 (by omega) (by omega)
 rcases hc with rfl|rfl|rfl|rfl|rfl|rfl|rfl|rfl|rfl|rfl|rfl|rfl|rfl|rfl|rfl|rfl|rfl|rfl|rfl|rfl
 all_goals
  simp
  refine ⟨fun h=> ?_,fun h=> ?_⟩
  · rw [w _ (by decide) (by decide)]
    rw [if_pos (by omega)] at k1
    omega
  · rw [w _ (by decide) (by decide)]
    rw [if_neg (by omega)] at k1
    omega
end
section
open Go
def tightF (op:Int):Int:=if op=3\/op=4 then 1 else if op=5 then 2 else 3
def idxI (v:Int):Nat->List Int->Int
 |_,[]=> -1
 |k,x::r=>if v=x then (k:Int) else idxI v (k+1) r
def txU (d:List Int):List (List Nat):=
 (if 0<=idxI 1 0 d then [WK.un.words.getD (idxI 1 0 d).toNat []] else [])++(if 0<=idxI (-1) 0 d then [sPer,WK.un.words.getD (idxI (-1) 0 d).toNat []] else [])
def txS:List (List (List Nat))->List (List Nat)->List (List Nat)
 |t::r,s::ss=>t++s::txS r ss
 |_,_=> []
def par (op least:Int) (t:List (List Nat)):List (List Nat):=if least<=tightF op then t else Xa::(t++ [Zz])
def sgnO (op:Int):List Nat:=if op=3 then Zbh else if op=4 then Vi else sMul
def txN (op n:Int) (u:List Int) (os:List Int) (ts:List (List (List Nat))):List (List Nat):=
 if op=1 then decN n::txU u
 else if op=2 then [WK.at_.words.getD n.toNat []]
 else if op=11 then sIf::Xa::txS ts [Zcq,Z3,Z3,Zz]
 else if op=3\/op=4\/op=5 then par (os.getD 0 0) (tightF op) (ts.getD 0 [])++sgnO op::par (os.getD 1 0) (tightF op+1) (ts.getD 1 [])
 else WK.ca.words.getD (op-6).toNat []::Xa::txS ts [Z3,Zz]
mutual
def txX:Ex->List (List Nat)
 | .mk op n d0 d1 d2 d3 l=>txN op n [d0,d1,d2,d3] (l.map Ex.op) (txL l)
def txL:List Ex->List (List (List Nat))
 | []=> []
 |x::r=>txX x::txL r
end
def sPay:List Nat:= [112,97,121]
def Zf6:List Nat:= [59]
def Zf7:List Nat:= [116,97,114,105,102,102]
def sFor:List Nat:= [102,111,114]
def sLb:List Nat:= [123]
def sRb:List Nat:= [125]
def txW (w:Tst):List (List Nat):=WK.at_.words.getD w.attr.toNat []::(if w.low=w.high then [sIs,decN w.low] else [sIn,decN w.low,Zb5,decN w.high])
def txTs:Nat->List Tst->List (List Nat)
 |_,[]=> []
 |i,w::r=>(if i=0 then Zfj else sAnd)::(txW w++txTs (i+1) r)
def txC (c:Cls):List (List Nat):=Xq::c.name::(txTs 0 c.when_++sPay::(txX c.pay++ [Zf6]))
def txCs:List Cls->List (List Nat)
 | []=> []
 |c::r=>txC c++txCs r
def Zbl (t:Tar):List (List Nat):=Zf7::t.name::sFor::WK.ki.words.getD (t.for_-1).toNat []::sLb::(txCs t.clauses++ [sRb])
def W8:List (List Nat)->List Nat
 | []=> []
 | [w]=>w
 |w::r=>w++32::W8 r
noncomputable def Za0 (t:Tar):List Nat×Int:=if X8 t≠0 then ([],X8 t) else if 2000<(W8 (Zbl t)).length then ([],2) else (W8 (Zbl t),0)
theorem Zhu {w:List Nat} {r:List (List Nat)} (h:r≠ []):W8 (w::r)=w++32::W8 r:=by
 cases r with
 |nil=>exact absurd rfl h
 |cons x r=>rfl
def SepL (s t:List Nat):Prop:=(∀c,s.getLast? =some c->isLD c=false)\/(∀c,t.head? =some c->isLD c=false)
def atT (p:Nat) (t:Tok):Tok:=⟨t.kind,t.text,t.n,p⟩
def TokW (w:List Nat):Prop:=(tokP w).2=0/\(tokP w).1.text=w/\w≠ []
inductive Lx:List Nat->Nat->List Tok->Prop
 |nil (p:Nat):Lx [] p []
 |blank (c:Nat) (s:List Nat) (p:Nat) (l:List Tok) (hc:blk c=true) (h:Lx s (p+1) l):Lx (c::s) p l
 |tok (w s:List Nat) (p:Nat) (l:List Tok) (hw:TokW w) (hs:SepL w s) (h:Lx s (p+w.length) l):Lx (w++s) p (atT p (tokP w).1::l)
theorem Wl {f:Int->Bool}:∀{w:List Nat},(∀c∈w,f c=true)->spn f w=w.length
 | [],_=>rfl
 |c::r,h=>by
  unfold spn
  rw [if_pos (h c (by simp)),Wl fun c hc=>h c (by simp [hc])]
  rfl
theorem Zpf {f:Int->Bool}:∀{w s:List Nat},(∀c∈w,f c=true)->(∀c,s.head? =some c->f c=false)->spn f (w++s)=w.length
 | [],s,_,h=>by
  cases s with
  |nil=>rfl
  |cons c r=>
   rw [List.nil_append]
   unfold spn
   rw [if_neg (by rw [h c rfl];decide)]
   rfl
 |c::r,s,hw,h=>by
  rw [List.cons_append]
  unfold spn
  rw [if_pos (hw c (by simp)),Zpf (fun c hc=>hw c (by simp [hc])) h]
  rfl
theorem Zr5 {f:Int->Bool} {w:List Nat} (h:w.take (spn f w)=w):∀c∈w,f c=true:=fun c hc=>Zjx (by rw [h];exact hc)
theorem Zyy {w:List Nat} (hw:w≠ []) (h:∀c∈w,isLD c=true) {s:List Nat} (hs:SepL w s):∀c,s.head? =some c->isLD c=false:=by
 rcases hs with h1|h1
 · have h2:=h1 (w.getLast hw) (List.getLast?_eq_some_getLast hw)
   rw [h _ (List.getLast_mem hw)] at h2
   cases h2
 · exact h1
theorem Yby {n:Int} (h:isD n=true):isLD n=true:=by unfold isLD;rw [h,Bool.or_true]
theorem Ybz {n:Int} (h:isLD n=false):isD n=false:=by
 unfold isLD at h
 rw [Bool.or_eq_false_iff] at h
 exact h.2
theorem Z25 {w s:List Nat} (h:TokW w) (hs:SepL w s):tokP (w++s)=tokP w:=by
 obtain ⟨h1,h2,h3⟩:=h
 cases w with
 |nil=>exact absurd rfl h3
 |cons c r=>
  rw [Yi] at h1 h2
  rw [List.cons_append,Yi,Yi]
  split at h1
  · rename_i hl
    rw [if_pos hl] at h2
    rw [if_pos hl,if_pos hl]
    split at h1
    · cases h1
    · rename_i hn
      rw [if_neg hn] at h2
      have ha:=Zr5 (show (c::r).take (spn isLD (c::r))=c::r from h2)
      have hb:=Zyy h3 ha hs
      have e1:spn isLD (c::(r++s))=(c::r).length:=Zpf (w:=c::r) ha hb
      have e2:spn isLD (c::r)=(c::r).length:=Wl ha
      rw [e1,e2]
      rw [e2] at hn
      rw [if_neg hn,if_neg hn,<-List.cons_append,List.take_left,List.take_length]
  · rename_i hl
    rw [if_neg hl] at h2
    rw [if_neg hl,if_neg hl]
    split at h1
    · rename_i hd
      rw [if_pos hd] at h2
      rw [if_pos hd,if_pos hd]
      have ha:=Zr5 (show (c::r).take (spn isD (c::r))=c::r from h2)
      have hb:=Zyy h3 (fun c hc=>Yby (ha c hc)) hs
      have e1:spn isD (c::(r++s))=(c::r).length:=Zpf (w:=c::r) ha fun c hc=>Ybz (hb c hc)
      have e2:spn isD (c::r)=(c::r).length:=Wl ha
      rw [e1,e2,<-List.cons_append,List.take_left,List.take_length]
    · rename_i hd
      rw [if_neg hd] at h2
      rw [if_neg hd,if_neg hd]
      split at h1
      · rename_i w hw
        rw [hw] at h2
        simp only at h2
        unfold tokS at h1 h2⊢
        split at h1
        · rename_i ht
          rw [if_pos ht] at h2
          have h2:w=c::r:=h2
          subst h2
          rw [if_pos ht,if_pos]
          rw [<-List.cons_append,List.take_left]
        · cases h1
      · cases h1
theorem TokW.head {w:List Nat} (h:TokW w) {s:List Nat}:∃c,(w++s)[0]? =some c/\blk c=false/\c≠35:=by
 obtain ⟨h1,h2,h3⟩:=h
 cases w with
 |nil=>exact absurd rfl h3
 |cons c r=>
  refine ⟨c,rfl,?_⟩
  rw [Yi] at h1
  have key:(isL c=true\/isD c=true\/(sgnW c).isSome=true):=by
   split at h1
   · exact .inl (by assumption)
   · split at h1
     · exact .inr (.inl (by assumption))
     · split at h1
       · rename_i w hw
         exact .inr (.inr (by rw [hw];rfl))
       · cases h1
  have key2:97<=c\/(48<=c/\c<=57)\/(sgnW c).isSome=true:=by
   rcases key with h|h|h
   · unfold isL at h
     simp at h
     omega
   · unfold isD at h
     simp at h
     omega
   · exact .inr (.inr h)
  constructor
  · cases hb:blk c with
    |false=>rfl
    |true=>
     exfalso
     unfold blk at hb
     simp at hb
     rcases hb with ((rfl|rfl)|rfl)|rfl<;>simp [sgnW] at key2
  · rintro rfl
    simp [sgnW] at key2
theorem Z26 {S w s:List Nat} {p:Nat} (h:S.drop p=w++s):S.drop (p+w.length)=s:=by
 rw [<-List.drop_drop,h,List.drop_left]
theorem Yb0 {s:List Nat} {p:Nat} {l:List Tok} (h:Lx s p l):∀(k:Nat) (S:List Nat) (acc:List Tok),S.drop p=s->s.length<=k->tksL k S p acc=(acc++l,0,0):=by
 have ha:∀(S:List Nat) (p:Nat),S[p]? =(S.drop p)[0]? :=fun S p=>by rw [List.getElem?_drop];rfl
 induction h with
 |nil p=>
  intro k S acc hS hk
  have e:S[p]? =none:=by rw [ha,hS];rfl
  cases k with
  |zero=>unfold tksL;rw [List.append_nil]
  |succ k=>
   unfold tksL
   rw [e,List.append_nil]
 |blank c s p l hc h ih=>
  intro k S acc hS hk
  cases k with
  |zero=>simp at hk
  |succ k=>
   have e:S[p]? =some c:=by rw [ha,hS];rfl
   unfold tksL
   simp only [e,if_pos hc]
   refine ih k S acc ?_ (by simpa using hk)
   rw [<-List.drop_drop,hS]
   rfl
 |tok w s p l hw hs h ih=>
  intro k S acc hS hk
  obtain ⟨c,h0,hb,h35⟩:=hw.head (s:=s)
  have hp:=Z25 hw hs
  have hw':=hw
  obtain ⟨h1,h2,h3⟩:=hw'
  have hlen:1<=w.length:=by
   cases w with
   |nil=>exact absurd rfl h3
   |cons c r=>simp
  cases k with
  |zero=>rw [List.length_append] at hk;omega
  |succ k=>
   have e:S[p]? =some c:=by rw [ha,hS];exact h0
   unfold tksL
   simp only [e,if_neg (show ¬blk c=true by rw [hb];decide),if_neg h35,hS,hp]
   rw [if_neg (by rw [h1];decide),h2]
   rw [ih k S _ (Z26 hS) (by rw [List.length_append] at hk;omega)]
   rw [List.append_assoc]
   unfold atT
   rw [h2]
   rfl
theorem Zyz {s:List Nat} {l:List Tok} (h:Lx s 0 l) (hl:s.length<=2000):Yp s=(l,0,0):=by
 unfold Yp
 rw [if_neg (by omega),Yb0 h s.length s [] rfl (Nat.le_refl _)]
 rfl
theorem SepL.tail {w s t:List Nat} (hs:s≠ []) (h:SepL (w++s) t):SepL s t:=by
 rcases h with h|h
 · refine .inl fun c hc=>h c ?_
   rw [List.getLast?_append,hc]
   rfl
 · exact .inr h
def tkA:Nat->List (List Nat)->List Tok
 |_,[]=> []
 |p,w::r=>atT p (tokP w).1::tkA (p+w.length+1) r
theorem Yd0:blk 32=true:=rfl
theorem Yd1 (w s:List Nat):SepL w (32::s):= .inr fun c hc=>by cases hc;rfl
theorem Zy0:∀{ws:List (List Nat)} (p:Nat),(∀w∈ws,TokW w)->Lx (W8 ws) p (tkA p ws)
 | [],p,_=> .nil p
 | [w],p,h=>by
  have:=Lx.tok w [] p [] (h w (by simp)) (.inr fun c hc=>by cases hc) (.nil _)
  rw [List.append_nil] at this
  exact this
 |w::x::r,p,h=>by
  refine .tok w (32::W8 (x::r)) p _ (h w (by simp)) (Yd1 _ _) (.blank 32 _ _ _ Yd0 ?_)
  exact Zy0 (ws:=x::r) _ fun w hw=>h w (List.mem_cons_of_mem _ hw)
def tkS (w:List Nat):Tok:=atT 0 (tokP w).1
def sT (t:Tok):Tok:=atT 0 t
theorem Z5q:∀(ws:List (List Nat)) (p:Nat),(tkA p ws).map sT=ws.map tkS
 | [],_=>rfl
 |w::r,p=>by
  unfold tkA
  rw [List.map_cons,Z5q r,List.map_cons]
  rfl
end
section
open Go
theorem Ws {f:FuncId} {args:List (SV thy)} {v:SV thy} (h:∀(g:GH) (w:World) (vals:Array Value),Inv E w.heap.size σ0 hp0 g w->DenL E σ0 g args vals.toList->Calls E.P f vals w fun en w'=>∃u,en= .returned u/\Den E σ0 g v u/\Ext w w'):PureC E f args v:=by
 intro g w vals hI hd
 refine (h g w vals hI hd).mono ?_
 rintro en w' ⟨u,he,hv,hx⟩
 refine ⟨u,he,g,⟨.refl _,fun b p h=> .inl h,.refl _,fun _ _ _ h=> .inl h,fun _ _ h=> .inl h,fun r hr _=>hx.block hr,hx.size,hx.os,hx.tape,hx.output,fun b r z h1 h2=>by cases h2⟩,?_,hv⟩
 refine ⟨fun r o u hu=>hx.cell (hI.gc r o u hu),fun r es hu=> ?_,(fun b x hx=>by cases hx),fun b b' r z z' h1=>absurd rfl h1,(fun b r z hs=>by cases hs),(fun b x r z o v hx=>by cases hx),(fun b x r z hx=>by cases hx),hI.glob⟩
 obtain ⟨c,hc⟩:=hI.gm r es hu
 have hr:r<w.heap.size:=by
  rcases Nat.lt_or_ge r w.heap.size with h|h
  · exact h
  · rw [Array.getElem?_eq_none h] at hc;cases hc
 exact ⟨c,by rw [hx.block hr];exact hc⟩
theorem Z93:Builder.Extra Tryz.prog Tryz.lays156_ren where
 sizeBuilder:=by kernel_rfl
 liesBuilder:=by kernel_rfl
 t5:=Tryz.underlying5
 a5:=Tryz.isAgg5
 z5:=Tryz.sizeOf5
 v5:=Tryz.zeroValue5
 infoByte:=by kernel_rfl
 cellsByte:=by kernel_rfl
 sizeByte:=by kernel_rfl
 neB5:=by decide
theorem Zqo:∀{l:List (List Nat)},(∀y∈l,toL (mkS y)=y)->(Lib.join ((l.map mkS).map (·.data.toList)) (mkS [32]).data.toList).map UInt8.toNat=W8 l
 | [],_=>rfl
 | [x],h=>by
  rw [List.map_cons,List.map_nil,List.map_cons,List.map_nil,Lib.join_one]
  exact h x (by simp)
 |x::y::r,h=>by
  have ih:=Zqo (l:=y::r) (fun z hz=>h z (by simp at hz⊢;exact .inr hz))
  have hx:=h x (by simp)
  rw [Zhu (by simp),<-ih]
  rw [List.map_cons,List.map_cons,Lib.join_cons,List.map_cons,List.map_cons,Lib.join_cons,List.map_append]
  unfold Lib.joinTail
  rw [List.map_cons,List.flatten_cons]
  have e:((mkS x).data.toList).map UInt8.toNat=x:=hx
  rw [e]
  have e2:(mkS [32]).data.toList= [32]:=rfl
  rw [e2]
  simp only [List.map_append,List.map_cons,List.map_nil,List.append_assoc]
  rfl
theorem Zv2 (l:List (List Nat)) (h1:l.length<=1000000000) (h2:(W8 l).length<=1000000000):PureC E 26 [.psl Th.strs l false,.str false [32]] (.str false (W8 l)):=by
 refine Ws fun g w vals hI hd=> ?_
 obtain ⟨u,v,rfl,hu,hv⟩:=Zxs hd
 cases hv
 rename_i sep hsep
 have hs:sep=mkS [32]:=by rw [<-hsep,Uw]
 subst hs
 obtain ⟨base,c,cv,rfl,hl,hm,hf,hn,hb,hdd⟩:=X5 hu
 rcases Nat.eq_zero_or_pos l.length with h0|h0
 · have e:l= []:=List.length_eq_zero_iff.1 h0
   subst e
   refine (Any.strings_Join_none Tryz.lays156 Z93 base c (mkS [32]) w).mono ?_
   rintro e w' ⟨rfl,rfl⟩
   exact ⟨_,rfl,.str _ rfl,Go.RowKit.Below.refl _ _⟩
 · obtain ⟨r,o,rfl,hc⟩:=hb h0
   have W1:E.w Th.strs=1:=rfl
   have key:∀i x,l[i]? =some x->w.cell? ⟨r,o+i,none⟩=some (.string (mkS x))/\toL (mkS x)=x:=by
    intro i x hx
    have a1:=hc i x hx 0 (by show 0<1;decide)
    have a2:=hdd i x hx 0 (.str false x) rfl
    rw [W1,Nat.mul_one,Nat.add_zero] at a1
    have a3:=hI.gc _ _ _ a1
    generalize hq:cv i 0=q at a2 a3
    cases a2
    rename_i b hb
    subst hb
    rw [Uw]
    exact ⟨a3,rfl⟩
   have hall:∀y∈l,toL (mkS y)=y:=fun y hy=>by
    obtain ⟨i,hi,rfl⟩:=List.getElem_of_mem hy
    exact (key i _ (List.getElem?_eq_getElem hi)).2
   have hr:r<w.heap.size:=by
    have:=(key 0 _ (List.getElem?_eq_getElem h0)).1
    rcases Nat.lt_or_ge r w.heap.size with h|h
    · exact h
    · unfold World.cell? at this
      simp only at this
      rw [Array.getElem?_eq_none h] at this
      cases this
   have hj:=Zqo hall
   have:=Any.strings_Join Tryz.lays156 Z93 r o c (l.map mkS) (mkS [32]) w (fun j x hx=>by
    rw [List.getElem?_map] at hx
    obtain ⟨y,hy,rfl⟩:=Option.map_eq_some_iff.1 hx
    exact (key j y hy).1) hr (by rw [List.length_map];omega) (by rw [List.length_map];exact hl) (by
    rw [<-hj,List.length_map] at h2
    omega)
   rw [List.length_map] at this
   refine Calls.mono this ?_
   rintro e w' ⟨rfl,hw⟩
   refine ⟨_,rfl,.str _ ?_,hw⟩
   unfold toL
   exact hj
end
section
open Go
theorem Zn2 {arr:Array Value} {c:Nat->Value} {n:Nat} (hs:arr.size=n) (hc:∀j,j<n->arr[j]? =some (c j)):arr=((List.range n).map c).toArray:=by
 apply Array.ext'
 apply List.ext_getElem?
 intro j
 rw [Array.getElem?_toList]
 by_cases hj:j<n
 · rw [hc j hj,List.getElem?_map,List.getElem?_range hj];rfl
 · rw [Array.getElem?_eq_none (by omega),List.getElem?_eq_none (by simp;omega)]
theorem Zb9 {σ:Pl} {g:GH} {l:Bool} {k:IntKind} {n:Int} {u:Value} (h:Den E σ g (.int l k n) u):u= .int k n:=by cases h;rfl
theorem Z7q {g:GH} {w:World} (hI:Inv E w.heap.size σ0 hp0 g w):∀(n:Nat) (x:Ex),x.sz<=n->∀(c:Nat->Value),(∀(j:Nat) sv,(encF false .exprs x)[j]? =some sv->Den E σ0 g sv (c j))->ExIn w n [c 0,c 1,c 2,c 3,c 4,c 5,c 6] x
 |0,x,hx,_,_=>by have:=Ex.sz_pos x;omega
 |n+1,.mk op m a b d e l,hx,c,h=>by
  have e0:=Zb9 (h 0 _ rfl)
  have e1:=Zb9 (h 1 _ rfl)
  have e2:=Zb9 (h 2 _ rfl)
  have e3:=Zb9 (h 3 _ rfl)
  have e4:=Zb9 (h 4 _ rfl)
  have e5:=Zb9 (h 5 _ rfl)
  obtain ⟨base,cc,cv,h6,hl,hm,hf,hn,hb,hd⟩:=X5 (h 6 _ rfl)
  have hl:l.length<=cc:=hl
  refine ⟨.slice base l.length cc,?_,trivial,trivial,trivial,trivial,trivial,trivial,base,cc,rfl,hl,by unfold maxLen at hm;omega,fun h0=> ?_⟩
  · rw [e0,e1,e2,e3,e4,e5,h6];rfl
  · obtain ⟨r,o,hbase,hcell⟩:=hb h0
    refine ⟨r,o,hbase,?_,fun i x hi=>⟨[cv i 0,cv i 1,cv i 2,cv i 3,cv i 4,cv i 5,cv i 6],rfl,?_,?_⟩⟩
    · exact block_lt_of_cell (hI.gc _ _ _ (hcell 0 _ (List.getElem?_eq_getElem h0) 0 (show (0:Nat)<7 by decide)))
    · intro j v hv
      have hj:j<7:=(List.getElem?_eq_some_iff.1 hv).1
      have:=hI.gc _ _ _ (hcell i x hi j hj)
      have ev:cv i j=v:=by
       match j,hj,hv with
       |0,_,hv=>cases hv;rfl
       |1,_,hv=>cases hv;rfl
       |2,_,hv=>cases hv;rfl
       |3,_,hv=>cases hv;rfl
       |4,_,hv=>cases hv;rfl
       |5,_,hv=>cases hv;rfl
       |6,_,hv=>cases hv;rfl
      rw [<-ev]
      exact this
    · have hz:x.sz<Ex.sz (.mk op m a b d e l):=Ex.sz_mem (List.mem_of_getElem? hi)
      exact Z7q hI n x (by omega) (cv i) (hd i x hi)
def evA (x:Ev):SV thy:= .agg (.int false .i64 x.has::x.v.map (.int false .i64))
def Yba (y:Int×Int):SV thy:= .tup [.int false .i64 y.1,.int false .i64 y.2]
theorem Z2e {σ:Pl} {g:GH} {a b:Int}:Den E σ g (.tup [.int false .i64 a,.int false .i64 b]) (.tuple #[.int .i64 a,.int .i64 b]):=by
 refine .tup (fun j=>match j with|0=> .int .i64 a|_=> .int .i64 b) rfl (fun j hj=> ?_) (fun j sv hj=> ?_)
 · match j,hj with
   |0,_=>rfl
   |1,_=>rfl
 · match j,hj with
   |0,hj=>cases hj;exact .int _ _ _
   |1,hj=>cases hj;exact .int _ _ _
theorem Zxx (e:Ex) (x:Ev) (hx:x.v.length=16):PureC E 42 [exA e,evA x] (Yba (Zcb e x)):=by
 refine Ws fun g w vals hI hd=> ?_
 obtain ⟨u,v,rfl,hu,hv⟩:=Zxs hd
 obtain ⟨arr,c,rfl,hs,hc,hdu⟩:=Zt hu
 obtain ⟨arr',c',rfl,hs',hc',hd'⟩:=Zt hv
 have ha:=Zn2 hs hc
 have hin:=Z7q hI e.sz e (Nat.le_refl _) c hdu
 have ha':arr'=x.cells.toArray:=by
  obtain ⟨has,v⟩:=x
  have hx:v.length=16:=hx
  apply Array.ext'
  apply List.ext_getElem?
  intro j
  have hs':arr'.size=17:=by rw [hs'];simp [hx]
  rw [Array.getElem?_toList]
  by_cases hj:j<17
  · rw [hc' j (by simp [hx];omega)]
    cases j with
    |zero=>rw [Zb9 (hd' 0 _ rfl)];rfl
    |succ j=>
     have hv:v[j]? =some (v[j]'(by omega)):=List.getElem?_eq_getElem _
     have:=hd' (j+1) (.int false .i64 (v[j]'(by omega))) (by rw [List.getElem?_cons_succ,List.getElem?_map,hv];rfl)
     rw [Zb9 this]
     show _=(Value.int .i64 has::v.map (Value.int .i64))[j+1]?
     rw [List.getElem?_cons_succ,List.getElem?_map,hv];rfl
  · rw [Array.getElem?_eq_none (by omega),List.getElem?_eq_none (by simp [Ev.cells,hx];omega)]
 rw [ha,ha']
 refine (Zlc x ⟨hx,trivial,fun _ _=>trivial⟩ e.sz _ e w hin).mono ?_
 rintro en w' ⟨rfl,hx⟩
 exact ⟨_,rfl,Z2e,hx⟩
end
section
open Go.RowKit
structure Tso where
 a:Int
 lo:Int
 hi:Int
structure Cl where
 name:ByteArray
 tests:List Tso
 pay:Ex
structure Tf where
 name:ByteArray
 kind:Int
 cls:List Cl
def I64r (x:Int):Prop:= -9223372036854775808<=x/\x<=9223372036854775807
def Yaf (cs:List Value) (t:Tso):Prop:=cs= [.int .i64 t.a,.int .i64 t.lo,.int .i64 t.hi]/\I64r t.a/\I64r t.lo/\I64r t.hi
def ClIn (w:World) (cs:List Value) (c:Cl):Prop:=∃sv ps,cs= .string c.name::sv::ps/\SlIn w 3 Yaf sv c.tests/\ExR w ps c.pay
def TfIn (w:World) (cs:List Value) (t:Tf):Prop:=∃sv,cs= [.string t.name,.int .i64 t.kind,sv]/\I64 t.kind/\SlIn w 9 (ClIn w) sv t.cls
theorem ClIn.ext {w w':World} (hx:Ext w w') {cs:List Value} {c:Cl} (h:ClIn w cs c):ClIn w' cs c:=by
 obtain ⟨sv,ps,hcs,hs,he⟩:=h
 exact ⟨sv,ps,hcs,hs.mono hx fun _ _ _ h=>h,he.ext hx⟩
theorem TfIn.ext {w w':World} (hx:Ext w w') {cs:List Value} {t:Tf} (h:TfIn w cs t):TfIn w' cs t:=by
 obtain ⟨sv,hcs,hk,hs⟩:=h
 exact ⟨sv,hcs,hk,hs.mono hx fun _ _ _ h=>h.ext hx⟩
def Y0 (x:Ev):List Tso->Bool×Int
 | []=>(true,0)
 |t::ts=>if t.a<0\/16<=t.a then (false,1) else if (Ud x t.a.toNat).2≠0 then (false,(Ud x t.a.toNat).2) else
  if (Ud x t.a.toNat).1<t.lo\/t.hi<(Ud x t.a.toNat).1 then (false,0) else Y0 x ts
def W5 (x:Ev):List Cl->Nat->Int×Int×Int
 | [],_=>(0,0,180)
 |c::cs,k=>if (Y0 x c.tests).2≠0 then (0,0,(Y0 x c.tests).2) else if (Y0 x c.tests).1=false then W5 x cs (k+1) else
  if (Zcb c.pay x).2≠0 then (0,0,(Zcb c.pay x).2) else ((Zcb c.pay x).1,k,0)
theorem SlIn.open_ {α:Type} {w:World} {k:Nat} {R:List Value->α->Prop} {sv:Value} {l:List α} (h:SlIn w k R sv l):
 ∃A cap,sv= .slice A l.length cap/\l.length<=9223372036854775807/\l.length<=cap/\
  Hid (∀i x,l[i]? =some x->∃b o cs,A=some ⟨b,o,none⟩/\b<w.heap.size/\cs.length=k/\w.rangeAt b (o+i*k) cs/\R cs x):=by
 obtain ⟨A,cap,rfl,h1,h2,h3⟩:=h
 refine ⟨A,cap,rfl,by omega,h1,fun i x hi=> ?_⟩
 have hlt:i<l.length:=(List.getElem?_eq_some_iff.1 hi).1
 obtain ⟨b,o,rfl,hb,h4⟩:=h3 (by omega)
 obtain ⟨cs,hl,hr,hR⟩:=h4 i x hi
 exact ⟨b,o,cs,rfl,hb,hl,hr,hR⟩
end
section
open Go.RowKit
theorem Zf5:(Tryz.prog.info? 88).map (·.size)=some 3:=by kernel_rfl
theorem Zpe (x:Ev) (l:List Tso) (k:Nat) (h:k<l.length):Y0 x (l.drop k)=if l[k].a<0\/16<=l[k].a then (false,1) else if (Ud x l[k].a.toNat).2≠0 then (false,(Ud x l[k].a.toNat).2) else
 if (Ud x l[k].a.toNat).1<l[k].lo\/l[k].hi<(Ud x l[k].a.toNat).1 then (false,0) else Y0 x (l.drop (k+1)):=by
 rw [List.drop_eq_getElem_cons h];rfl
set_option maxHeartbeats 2000000 in
theorem Zht (x:Ev) (hx:x.ok) (cs:List Value) (c:Cl) (w:World) (hc:ClIn w cs c):
 Calls Tryz.prog 38 #[.agg cs.toArray,.agg x.cells.toArray] w fun en w'=>en= .returned (.tuple #[.bool (Y0 x c.tests).1,.int .i64 (Y0 x c.tests).2])/\Ext w w':=by
 have HXL:=Lib.hid (show x.cells.length=17 by simp [Ev.cells,hx.1])
 obtain ⟨sv,ps,rfl,hs,d,he⟩:=hc
 obtain ⟨A0,cap0,u0,u1,u2,u3,rfl,_⟩:=he.open_
 obtain ⟨A,cap,rfl,hlen,hcap,HEL⟩:=hs.open_
 obtain ⟨r,hr⟩:∃r,Y0 x c.tests=r:=⟨_,rfl⟩
 rw [hr]
 have HR:=Lib.hid hr
 clear hr he hs
 generalize c.tests=l at*
 generalize hn:l.length=n at*
 have HN:=Lib.hid hn
 clear hn
 have hr30:∀o,(((w.alloc o).alloc (.cells x.cells.toArray 36)).alloc (.cells #[.int .i64 0] 27)).rangeAt (w.heap.size+1) 0 x.cells:=by
  intro o j v hv;simp [go_sem,hv]
 have HR3:=Lib.hid hr30
 clear hr30
 go_enter_defers Tryz.func38,Tryz.ntmps38
 go_wp2_with (refine wpList_load_mid rfl 36 _ rfl (w.heap.size+1) 0 rfl x.cells _ (HR3.out _) Tryz.underlying36 rfl (by rw [HXL.out];exact Wb) ?_)
 refine (Zke x _ hx).mono ?_
 rintro e1 w1 ⟨rfl,hx1,hX⟩
 have hx0:=((((Ext.refl w).alloc _).alloc _).alloc _).trans hx1
 have hc1:=hx1.cell (p:=⟨w.heap.size,1,none⟩) (v:= .slice A n cap) (by simp [go_sem])
 have hc5:=hx1.cell (p:=⟨w.heap.size+1+1,0,none⟩) (v:= .int .i64 0) (by simp [go_sem])
 have hz5:=hx1.frozen_eq (p:=⟨w.heap.size+1+1,0,none⟩) (by simp)
 have hz5':w1.frozen? ⟨w.heap.size+1+1,0,none⟩=false:=by rw [hz5];simp [go_sem]
 have hsz:=hx1.size
 simp at hsz
 generalize hXe:World.heap _=Hp at hX
 generalize Hp.size+1=X at hX
 clear hx1 hz5 HR3 hXe
 go_wp2_with fail
 go_loopw [4,15] (fun b4 i wr=>∃k:Nat,k<=n/\b4= .bool false/\i= .int .i64 k/\Hid (Y0 x (l.drop k)=r)/\Ext w1 wr) (fun _ i _=>n-(intOf i).toNat)
 case atStart=>exact ⟨0,Nat.zero_le _,rfl,rfl,HR.out,Ext.refl _⟩
 case round=>
  obtain ⟨k,hk,rfl,rfl,HK,hxr⟩:=hrel
  by_cases hlt:k<n
  · have hlk:k<l.length:=by rw [HN.out];exact hlt
    obtain ⟨b,o,cs1,rfl,hb,hl1,hr1,rfl,i1,i2,i3⟩:=HEL.out k l[k] (List.getElem?_eq_getElem hlk)
    have hrr:=hxr.range (hx0.range hr1)
    have hst:=Zpe x l k hlk
    rw [HK.out] at hst
    have hta:I64r l[k].a:=i1
    have hX2:=fun o=>hX.ext (hxr.alloc o)
    have HX2:=Lib.hid hX2
    generalize l[k].a=ta at*
    generalize l[k].lo=lo at*
    generalize l[k].hi=hi at*
    have HS:=Lib.hid hst
    clear hst hr1 HK hl1 hlk i1 i2 i3 hX2
    by_cases h1:ta<0\/16<=ta
    · have HS2:=Lib.hid (show r=(false,1) by rw [HS.out,if_pos h1])
      clear HS
      have hld:∀W,Calls Tryz.prog 72 #[.pointer (some ⟨X,0,none⟩),.int .i64 ta] W fun en w'=>en= .panicked (Zdo 1)/\Ext W w':=
       fun W=>(Zvj ta X W h1).mono fun _ _ h=>⟨h.1,h.2▸Ext.refl _⟩
      have HLO:=Lib.hid hld
      clear hld
      go_wp2_with (refine wpList_load_mid rfl 88 _ rfl b (o+k*3) rfl _ _ hrr Tryz.underlying88 rfl Zf5 ?_)
      refine (HLO.out _).mono ?_
      rintro e1 w2 ⟨rfl,hx2⟩
      have hx12:Ext w1 w2:=(hxr.alloc _).trans hx2
      clear hx2
      have g5:=Ext.cell (hx12) hc5
      have gz:World.frozen? w2 ⟨w.heap.size+1+1,0,none⟩=false:=by rw [Ext.frozen_eq (hx12) (by simp;omega)];exact hz5'
      have glt:w.heap.size+1+1<(w2).heap.size:=by have:=Ext.size (hx12);omega
      go_wp2_with fail
      refine leaves_cons (f:=70) (args:= #[.pointer (some ⟨w.heap.size+1+1,0,none⟩)]) (by simp) (by simp [go_sem]) ((Uq _ 0 1 _ g5 gz glt).mono ?_)
      rintro en u' w'' ⟨rfl,rfl,rfl⟩
      have hsame:((World.alloc w2 (.cells #[.int .i64 1] 158)).setCell ⟨w.heap.size+1+1,0,none⟩ (.int .i64 1)).cell? ⟨w.heap.size+1+1,0,none⟩=some (.int .i64 1):=
       World.cell?_setCell_same' _ _ _ (by rw [World.cell?_alloc_lt w2 _ _ glt,g5];rfl)
      simp only [settle,List.dropWhile]
      exact ⟨.tuple #[.bool false,.int .i64 1],by simp [results,Tryz.results38,go_sem,hsame],Zkr (by rw [HS2.out]) (by rw [HS2.out]),Ext.setCell (Ext.alloc (hx0.trans hx12) _) (by simp;omega) _⟩
    · have hs:=HS.out
      rw [if_neg h1] at hs
      obtain ⟨a,rfl⟩:=Int.eq_ofNat_of_zero_le (show 0<=ta by omega)
      rw [Int.toNat_natCast] at hs
      have ha:a<16:=by omega
      have hload:=fun o=>Zqd x a X _ hx (HX2.out o) ha
      generalize Ud x a=q at*
      have HLO:=Lib.hid hload
      obtain ⟨q1,q2⟩:=q
      clear HS hload h1 ha
      by_cases hq:q2=0
      · subst hq
        rw [if_neg (by simp)] at hs
        have hq3:q1<lo\/hi<q1\/(lo<=q1/\q1<=hi):=by omega
        have hs2:(q1<lo\/hi<q1->r=(false,0))/\(lo<=q1/\q1<=hi->r=Y0 x (l.drop (k+1))):=
         ⟨fun h=>by rw [hs,if_pos h],fun h=>by rw [hs,if_neg (by omega)]⟩
        have HS2:=Lib.hid hs2
        clear hs hs2
        go_wp2_with (refine wpList_load_mid rfl 88 _ rfl b (o+k*3) rfl _ _ hrr Tryz.underlying88 rfl Zf5 ?_)
        refine (HLO.out _).mono ?_
        rintro e1 w2 ⟨⟨_,rfl⟩|⟨h0,rfl⟩,hx2⟩
        · have c1:=hx2.cell (p:=⟨wr.heap.size,1,none⟩) (v:= .int .i64 lo) (by simp [go_sem])
          have c2:=hx2.cell (p:=⟨wr.heap.size,2,none⟩) (v:= .int .i64 hi) (by simp [go_sem])
          have hx12:Ext w1 w2:=(hxr.alloc _).trans hx2
          clear hx2
          have g5:=Ext.cell (hx12) hc5
          have gz:World.frozen? w2 ⟨w.heap.size+1+1,0,none⟩=false:=by rw [Ext.frozen_eq (hx12) (by simp;omega)];exact hz5'
          have glt:w.heap.size+1+1<(w2).heap.size:=by have:=Ext.size (hx12);omega
          rcases hq3 with h1|h1|⟨h1,h2⟩
          · have HS3:=Lib.hid (HS2.out.1 (.inl h1))
            go_wp2_with fail
            have hsame:(World.setCell w2 ⟨w.heap.size+1+1,0,none⟩ (.int .i64 0)).cell? ⟨w.heap.size+1+1,0,none⟩=some (.int .i64 0):=World.cell?_setCell_same' _ _ _ (by rw [g5];rfl)
            refine leaves_cons (f:=70) (args:= #[.pointer (some ⟨w.heap.size+1+1,0,none⟩)]) (by simp) (by simp [go_sem]) ((Vq _ _).mono ?_)
            rintro en u' w'' ⟨rfl,rfl,rfl⟩
            exact ⟨.tuple #[.bool false,.int .i64 0],by simp [results,Tryz.results38,go_sem,hsame],Zkr (by rw [HS3.out]) (by rw [HS3.out]),Ext.setCell (hx0.trans hx12) (by simp;omega) _⟩
          · have HS3:=Lib.hid (HS2.out.1 (.inr h1))
            by_cases h0:q1<lo
            all_goals
             go_wp2_with fail
             have hsame:(World.setCell w2 ⟨w.heap.size+1+1,0,none⟩ (.int .i64 0)).cell? ⟨w.heap.size+1+1,0,none⟩=some (.int .i64 0):=World.cell?_setCell_same' _ _ _ (by rw [g5];rfl)
             refine leaves_cons (f:=70) (args:= #[.pointer (some ⟨w.heap.size+1+1,0,none⟩)]) (by simp) (by simp [go_sem]) ((Vq _ _).mono ?_)
             rintro en u' w'' ⟨rfl,rfl,rfl⟩
             exact ⟨.tuple #[.bool false,.int .i64 0],by simp [results,Tryz.results38,go_sem,hsame],Zkr (by rw [HS3.out]) (by rw [HS3.out]),Ext.setCell (hx0.trans hx12) (by simp;omega) _⟩
          · have HS3:=Lib.hid (HS2.out.2 ⟨h1,h2⟩)
            go_wp2_with fail
            go_roundw
            case rel=>exact ⟨k+1,by omega,rfl,by go_num,HS3.out.symm,hx12⟩
            case measure=>simp [intOf];omega
        · exact absurd rfl h0
      · have HS2:=Lib.hid (show r=(false,q2) by rw [hs,if_pos hq])
        have HQ:=Lib.hid hq
        clear hs hq
        go_wp2_with (refine wpList_load_mid rfl 88 _ rfl b (o+k*3) rfl _ _ hrr Tryz.underlying88 rfl Zf5 ?_)
        refine (HLO.out _).mono ?_
        rintro e1 w2 ⟨⟨h0,rfl⟩|⟨h0,rfl⟩,hx2⟩
        · exact absurd h0 HQ.out
        · have hx12:Ext w1 w2:=(hxr.alloc _).trans hx2
          clear hx2 h0
          have g5:=Ext.cell (hx12) hc5
          have gz:World.frozen? w2 ⟨w.heap.size+1+1,0,none⟩=false:=by rw [Ext.frozen_eq (hx12) (by simp;omega)];exact hz5'
          have glt:w.heap.size+1+1<(w2).heap.size:=by have:=Ext.size (hx12);omega
          go_wp2_with fail
          refine leaves_cons (f:=70) (args:= #[.pointer (some ⟨w.heap.size+1+1,0,none⟩)]) (by simp) (by simp [go_sem]) ((Uq _ 0 q2 _ g5 gz glt).mono ?_)
          rintro en u' w'' ⟨rfl,rfl,rfl⟩
          have hsame:((World.alloc w2 (.cells #[.int .i64 q2] 158)).setCell ⟨w.heap.size+1+1,0,none⟩ (.int .i64 q2)).cell? ⟨w.heap.size+1+1,0,none⟩=some (.int .i64 q2):=
           World.cell?_setCell_same' _ _ _ (by rw [World.cell?_alloc_lt w2 _ _ glt,g5];rfl)
          simp only [settle,List.dropWhile]
          exact ⟨.tuple #[.bool false,.int .i64 q2],by simp [results,Tryz.results38,go_sem,hsame],Zkr (by rw [HS2.out]) (by rw [HS2.out]),Ext.setCell (Ext.alloc (hx0.trans hx12) _) (by simp;omega) _⟩
  · have HS2:=Lib.hid (show r=(true,0) by rw [<-HK.out,List.drop_of_length_le (by rw [HN.out];omega)];rfl)
    clear HK
    have g5:=Ext.cell (hxr) hc5
    have gz:World.frozen? wr ⟨w.heap.size+1+1,0,none⟩=false:=by rw [Ext.frozen_eq (hxr) (by simp;omega)];exact hz5'
    have glt:w.heap.size+1+1<(wr).heap.size:=by have:=Ext.size (hxr);omega
    go_wp2_with fail
    have hsame:(World.setCell wr ⟨w.heap.size+1+1,0,none⟩ (.int .i64 0)).cell? ⟨w.heap.size+1+1,0,none⟩=some (.int .i64 0):=World.cell?_setCell_same' _ _ _ (by rw [g5];rfl)
    refine leaves_cons (f:=70) (args:= #[.pointer (some ⟨w.heap.size+1+1,0,none⟩)]) (by simp) (by simp [go_sem]) ((Vq _ _).mono ?_)
    rintro en u' w'' ⟨rfl,rfl,rfl⟩
    exact ⟨.tuple #[.bool true,.int .i64 0],by simp [results,Tryz.results38,go_sem,hsame],Zkr (by rw [HS2.out]) (by rw [HS2.out]),Ext.setCell (hx0.trans hxr) (by simp;omega) _⟩
end
section
open Go.RowKit
theorem V2:(Tryz.prog.info? 55).map (·.size)=some 9:=by kernel_rfl
theorem Zmd (x:Ev) (l:List Cl) (k:Nat) (h:k<l.length):W5 x (l.drop k) k=
 if (Y0 x l[k].tests).2≠0 then (0,0,(Y0 x l[k].tests).2) else if (Y0 x l[k].tests).1=false then W5 x (l.drop (k+1)) (k+1) else
  if (Zcb l[k].pay x).2≠0 then (0,0,(Zcb l[k].pay x).2) else ((Zcb l[k].pay x).1,k,0):=by
 rw [List.drop_eq_getElem_cons h];rfl
theorem Zen {r:Int×Int×Int} {a b c:Int} (h:r=(a,b,c)):Ending.returned (.tuple #[.int .i64 a,.int .i64 b,.int .i64 c])= .returned (.tuple #[.int .i64 r.1,.int .i64 r.2.1,.int .i64 r.2.2]):=by rw [h]
set_option maxHeartbeats 2000000 in
theorem Zpy (x:Ev) (hx:x.ok) (cs:List Value) (t:Tf) (w:World) (ht:TfIn w cs t):
 Calls Tryz.prog 13 #[.agg cs.toArray,.agg x.cells.toArray] w fun en w'=>en= .returned (.tuple #[.int .i64 (W5 x t.cls 0).1,.int .i64 (W5 x t.cls 0).2.1,.int .i64 (W5 x t.cls 0).2.2])/\Ext w w':=by
 have HXL:=Lib.hid (show x.cells.length=17 by simp [Ev.cells,hx.1])
 obtain ⟨sv,rfl,_,hs⟩:=ht
 obtain ⟨A,cap,rfl,hlen,hcap,HEL⟩:=hs.open_
 obtain ⟨r,hr⟩:∃r,W5 x t.cls 0=r:=⟨_,rfl⟩
 rw [hr]
 have HR:=Lib.hid hr
 clear hr hs
 generalize t.cls=l at*
 generalize hn:l.length=n at*
 have HN:=Lib.hid hn
 clear hn
 go_enter Tryz.func13,Tryz.ntmps13
 go_wp2_with fail
 generalize hw0:World.alloc _ _=w0
 have hx0:Ext w w0:=by rw [<-hw0];exact ((Ext.refl _).alloc _).alloc _
 have hr3:w0.rangeAt (w.heap.size+1) 0 x.cells:=by rw [<-hw0];intro j v hv;simp [go_sem,hv]
 clear hw0
 go_loopw [14] (fun i wr=>∃k:Nat,k<=n/\i= .int .i64 k/\Hid (W5 x (l.drop k) k=r)/\Ext w0 wr) (fun i _=>n-(intOf i).toNat)
 case atStart=>exact ⟨0,Nat.zero_le _,rfl,HR.out,Ext.refl _⟩
 case round=>
  obtain ⟨k,hk,rfl,HK,hxr⟩:=hrel
  by_cases hlt:k<n
  · have hlk:k<l.length:=by rw [HN.out];exact hlt
    obtain ⟨b,o,cs1,rfl,hb,hl1,hr1,hcl⟩:=HEL.out k l[k] (List.getElem?_eq_getElem hlk)
    have hrr:=hxr.range (hx0.range hr1)
    have hst:=Zmd x l k hlk
    rw [HK.out] at hst
    have HS:=Lib.hid hst
    clear hst hr1 HK hl1
    generalize l[k]=c at*
    clear hlk
    have hcl2:=(hcl.ext hx0).ext hxr
    have hcl2':=hcl2
    obtain ⟨sv,ps,rfl,hsl,d,hE⟩:=hcl2'
    obtain ⟨A0,cap0,u0,u1,u2,u3,rfl,_⟩:=hE.open_
    obtain ⟨A1,cap1,rfl,_⟩:=hsl.open_
    have HH:=Lib.hid fun o=>Zht x hx _ c _ (hcl2.ext ((Ext.refl wr).alloc o))
    have HEV:=Lib.hid fun (W:World) (h:Ext wr W)=>Zlc x hx d _ c.pay W (hE.ext h)
    have HRX:=Lib.hid fun o=>((hxr.alloc o).range hr3)
    clear hcl hcl2 hsl hE hb
    generalize Zcb c.pay x=p at*
    generalize Y0 x c.tests=q at*
    obtain ⟨p1,p2⟩:=p
    obtain ⟨q1,q2⟩:=q
    have hs:=HS.out
    clear HS
    by_cases hq:q2=0
    · subst hq
      rw [if_neg (by simp)] at hs
      have HS:=Lib.hid hs
      clear hs
      cases q1
      · have HS2:=Lib.hid (show r=W5 x (l.drop (k+1)) (k+1) by rw [HS.out];rfl)
        clear HS
        go_wp2_with (first
         |(refine wpList_load_mid rfl 55 _ rfl b (o+k*9) rfl _ _ hrr Tryz.underlying55 rfl V2 ?_)
         |(refine wpList_load_mid rfl 36 _ rfl (w.heap.size+1) 0 rfl x.cells _ (HRX.out _) Tryz.underlying36 rfl (by rw [HXL.out];exact Wb) ?_))
        refine (HH.out _).mono ?_
        rintro e1 w2 ⟨rfl,hx2⟩
        go_wp2_with fail
        go_roundw
        case rel=>exact ⟨k+1,by omega,by go_num,HS2.out.symm,(hxr.alloc _).trans hx2⟩
        case measure=>simp [intOf];omega
      · have HS2:=Lib.hid (show r=if p2≠0 then (0,0,p2) else (p1,(k:Int),0) by rw [HS.out];rfl)
        clear HS
        by_cases hp:p2=0
        · subst hp
          have HS3:=Lib.hid (show r=(p1,(k:Int),0) by rw [HS2.out];rfl)
          clear HS2
          go_wp2_with (first
           |(refine wpList_load_mid rfl 55 _ rfl b (o+k*9) rfl _ _ hrr Tryz.underlying55 rfl V2 ?_)
           |(refine wpList_load_mid rfl 36 _ rfl (w.heap.size+1) 0 rfl x.cells _ (HRX.out _) Tryz.underlying36 rfl (by rw [HXL.out];exact Wb) ?_))
          refine (HH.out _).mono ?_
          rintro e1 w2 ⟨rfl,hx2⟩
          have hrx2:=hx2.range (HRX.out _)
          have hrp:w2.rangeAt wr.heap.size 2 [.int .i64 c.pay.op,.int .i64 c.pay.n,.int .i64 u0,.int .i64 u1,.int .i64 u2,.int .i64 u3,.slice A0 c.pay.l.length cap0]:=
           hx2.range (by intro j v hv;simp [go_sem] at hv⊢;simpa [Nat.add_comm 2 j] using hv)
          have hxx:=((Ext.refl wr).alloc _).trans hx2
          clear hx2
          go_wp2_with (first
           |(refine wpList_load_mid rfl 52 _ rfl wr.heap.size 2 rfl _ _ hrp Tryz.underlying52 rfl Y4 ?_)
           |(refine wpList_load_mid rfl 36 _ rfl (w.heap.size+1) 0 rfl x.cells _ hrx2 Tryz.underlying36 rfl (by rw [HXL.out];exact Wb) ?_))
          refine (HEV.out _ hxx).mono ?_
          rintro e2 w3 ⟨rfl,hx3⟩
          go_wp2_with fail
          go_ret3
          exact ⟨Zen HS3.out,(hx0.trans hxr).trans (hxx.trans hx3)⟩
        · have hp':(p2 !=0)=true:=by rw [bne_iff_ne];exact hp
          have HS3:=Lib.hid (show r=(0,0,p2) by rw [HS2.out,if_pos hp])
          clear HS2 hp
          go_wp2_with (first
           |(refine wpList_load_mid rfl 55 _ rfl b (o+k*9) rfl _ _ hrr Tryz.underlying55 rfl V2 ?_)
           |(refine wpList_load_mid rfl 36 _ rfl (w.heap.size+1) 0 rfl x.cells _ (HRX.out _) Tryz.underlying36 rfl (by rw [HXL.out];exact Wb) ?_))
          refine (HH.out _).mono ?_
          rintro e1 w2 ⟨rfl,hx2⟩
          have hrx2:=hx2.range (HRX.out _)
          have hrp:w2.rangeAt wr.heap.size 2 [.int .i64 c.pay.op,.int .i64 c.pay.n,.int .i64 u0,.int .i64 u1,.int .i64 u2,.int .i64 u3,.slice A0 c.pay.l.length cap0]:=
           hx2.range (by intro j v hv;simp [go_sem] at hv⊢;simpa [Nat.add_comm 2 j] using hv)
          have hxx:=((Ext.refl wr).alloc _).trans hx2
          clear hx2
          go_wp2_with (first
           |(refine wpList_load_mid rfl 52 _ rfl wr.heap.size 2 rfl _ _ hrp Tryz.underlying52 rfl Y4 ?_)
           |(refine wpList_load_mid rfl 36 _ rfl (w.heap.size+1) 0 rfl x.cells _ hrx2 Tryz.underlying36 rfl (by rw [HXL.out];exact Wb) ?_))
          refine (HEV.out _ hxx).mono ?_
          rintro e2 w3 ⟨rfl,hx3⟩
          go_wp2_with fail
          go_ret3
          exact ⟨Zen HS3.out,(hx0.trans hxr).trans (hxx.trans hx3)⟩
    · have hq':(q2 !=0)=true:=by rw [bne_iff_ne];exact hq
      have HS3:=Lib.hid (show r=(0,0,q2) by rw [hs,if_pos hq])
      clear hs hq
      go_wp2_with (first
       |(refine wpList_load_mid rfl 55 _ rfl b (o+k*9) rfl _ _ hrr Tryz.underlying55 rfl V2 ?_)
       |(refine wpList_load_mid rfl 36 _ rfl (w.heap.size+1) 0 rfl x.cells _ (HRX.out _) Tryz.underlying36 rfl (by rw [HXL.out];exact Wb) ?_))
      refine (HH.out _).mono ?_
      rintro e1 w2 ⟨rfl,hx2⟩
      go_wp2_with fail
      go_ret3
      exact ⟨Zen HS3.out,(hx0.trans hxr).trans (((Ext.refl wr).alloc _).trans hx2)⟩
  · have HS2:=Lib.hid (show r=(0,0,180) by rw [<-HK.out,List.drop_of_length_le (by rw [HN.out];omega)];rfl)
    clear HK
    go_wp2_with fail
    go_ret3
    exact ⟨Zen HS2.out,hx0.trans hxr⟩
end
section
open Go
theorem Yce {g:GH} {w:World} (hI:Inv E w.heap.size σ0 hp0 g w) {β:Type} {th:Th} {l:List (domT th)} {full:Bool} {u:Value} (f:domT th->β) (R:List Value->β->Prop) (h:Den E σ0 g (.psl th l full) u) (hw:0<wT th) (hlen:∀x,(encF false th x).length=wT th)
 (hR:∀x∈l,∀c:Nat->Value,(∀(j:Nat) sv,(encF false th x)[j]? =some sv->Den E σ0 g sv (c j))->R ((List.range (wT th)).map c) (f x)):SlIn w (wT th) R u (l.map f):=by
 obtain ⟨base,cc,cv,rfl,hl,hm,hf,hn,hb,hd⟩:=X5 h
 have hl:l.length<=cc:=hl
 have ee:∀x,E.enc th x=encF false th x:=fun _=>rfl
 have ew:E.w th=wT th:=rfl
 refine ⟨base,cc,by rw [List.length_map],by rw [List.length_map];exact hl,by unfold maxLen at hm;omega,fun h0=> ?_⟩
 rw [List.length_map] at h0
 obtain ⟨r,o,hbase,hcell⟩:=hb h0
 refine ⟨r,o,hbase,?_,fun i x hi=> ?_⟩
 · exact block_lt_of_cell (hI.gc _ _ _ (hcell 0 _ (List.getElem?_eq_getElem h0) 0 (by rw [ee,hlen];exact hw)))
 · rw [List.getElem?_map] at hi
   cases hx:l[i]? with
   |none=>rw [hx] at hi;cases hi
   |some y=>
    rw [hx] at hi
    cases hi
    refine ⟨(List.range (wT th)).map (cv i),by simp,fun j v hv=> ?_,hR y (List.mem_of_getElem? hx) _ (hd i y hx)⟩
    have hj:j<wT th:=by have:=(List.getElem?_eq_some_iff.1 hv).1;simpa using this
    rw [List.getElem?_map,List.getElem?_range hj] at hv
    cases hv
    have:=hI.gc _ _ _ (hcell i y hx j (by rw [ee,hlen];exact hj))
    rw [ew] at this
    exact this
def toTs (w:Tst):Tso:=⟨w.attr,w.low,w.high⟩
def toCl (c:Cls):Cl:=⟨mkS c.name,c.when_.map toTs,c.pay⟩
def toTf (t:Tar):Tf:=⟨mkS t.name,t.for_,t.clauses.map toCl⟩
def Tst.In (w:Tst):Prop:=I64r w.attr/\I64r w.low/\I64r w.high
theorem Ycf {σ:Pl} {g:GH} {l:Bool} {s:List Nat} {u:Value} (h:Den E σ g (.str l s) u):u= .string (mkS s):=by
 cases h
 rename_i b hb
 rw [<-hb,Uw]
theorem Ycg {g:GH} {w:World} (hI:Inv E w.heap.size σ0 hp0 g w) (c:Cls) (hc:∀t∈c.when_,t.In) (v:Nat->Value) (h:∀(j:Nat) sv,(encF false .clauses c)[j]? =some sv->Den E σ0 g sv (v j)):ClIn w ((List.range 9).map v) (toCl c):=by
 refine ⟨v 1,[v 2,v 3,v 4,v 5,v 6,v 7,v 8],?_,?_,c.pay.sz,?_⟩
 · show v 0::_=_
   rw [Ycf (h 0 _ rfl)];rfl
 · refine Yce hI (th:= .tests) toTs Yaf (h 1 _ rfl) (by decide) (fun _=>rfl) fun x hx d hd=> ?_
   refine ⟨?_,hc x hx⟩
   show [d 0,d 1,d 2]=_
   rw [Zb9 (hd 0 _ rfl),Zb9 (hd 1 _ rfl),Zb9 (hd 2 _ rfl)];rfl
 · refine Z7q hI _ c.pay (Nat.le_refl _) (fun j=>v (j+2)) fun j sv hj=>h (j+2) sv ?_
   rw [<-hj];rfl
def Z3x (t:Tar):Prop:=∀c∈t.clauses,∀w∈c.when_,w.In
theorem Yd9 {g:GH} {w:World} (hI:Inv E w.heap.size σ0 hp0 g w) (t:Tar) (ht:Z3x t) (v:Nat->Value) (h:∀(j:Nat) sv,(encF false .tariffs t)[j]? =some sv->Den E σ0 g sv (v j)):TfIn w [v 0,v 1,v 2] (toTf t):=by
 refine ⟨v 2,?_,trivial,?_⟩
 · rw [Ycf (h 0 _ rfl),Zb9 (h 1 _ rfl)];rfl
 · exact Yce hI (th:= .clauses) toCl (ClIn w) (h 2 _ rfl) (by decide) (fun _=>rfl) fun x hx d hd=>Ycg hI x (ht x hx) d hd
theorem Z52 {g:GH} {x:Ev} (hx:x.v.length=16) {v:Value} (hv:Den E σ0 g (evA x) v):v= .agg x.cells.toArray:=by
 obtain ⟨arr',c',rfl,hs',hc',hd'⟩:=Zt hv
 congr 1
 obtain ⟨has,v⟩:=x
 have hx:v.length=16:=hx
 apply Array.ext'
 apply List.ext_getElem?
 intro j
 have hs':arr'.size=17:=by rw [hs'];simp [hx]
 rw [Array.getElem?_toList]
 by_cases hj:j<17
 · rw [hc' j (by simp [hx];omega)]
   cases j with
   |zero=>rw [Zb9 (hd' 0 _ rfl)];rfl
   |succ j=>
    have hv:v[j]? =some (v[j]'(by omega)):=List.getElem?_eq_getElem _
    have:=hd' (j+1) (.int false .i64 (v[j]'(by omega))) (by rw [List.getElem?_cons_succ,List.getElem?_map,hv];rfl)
    rw [Zb9 this]
    show _=(Value.int .i64 has::v.map (Value.int .i64))[j+1]?
    rw [List.getElem?_cons_succ,List.getElem?_map,hv];rfl
 · rw [Array.getElem?_eq_none (by omega),List.getElem?_eq_none (by simp [Ev.cells,hx];omega)]
theorem Z3y {σ:Pl} {g:GH} {a b c:Int}:Den E σ g (.tup [.int false .i64 a,.int false .i64 b,.int false .i64 c]) (.tuple #[.int .i64 a,.int .i64 b,.int .i64 c]):=by
 refine .tup (fun j=>match j with|0=> .int .i64 a|1=> .int .i64 b|_=> .int .i64 c) rfl (fun j hj=> ?_) (fun j sv hj=> ?_)
 · match j,hj with
   |0,_=>rfl
   |1,_=>rfl
   |2,_=>rfl
 · match j,hj with
   |0,hj=>cases hj;exact .int _ _ _
   |1,hj=>cases hj;exact .int _ _ _
   |2,hj=>cases hj;exact .int _ _ _
def amtF (t:Tar) (x:Ev):Int×Int×Int:=W5 x (t.clauses.map toCl) 0
def amtV (y:Int×Int×Int):SV thy:= .tup [.int false .i64 y.1,.int false .i64 y.2.1,.int false .i64 y.2.2]
theorem Zgf (t:Tar) (x:Ev) (hx:x.v.length=16) (ht:Z3x t):PureC E 13 [.agg (encF false .tariffs t),evA x] (amtV (amtF t x)):=by
 refine Ws fun g w vals hI hd=> ?_
 obtain ⟨u,v,rfl,hu,hv⟩:=Zxs hd
 obtain ⟨arr,c,rfl,hs,hc,hdu⟩:=Zt hu
 have ha:=Zn2 hs hc
 rw [Z52 hx hv,ha]
 refine (Zpy x ⟨hx,trivial,fun _ _=>trivial⟩ _ (toTf t) w (Yd9 hI t ht c hdu)).mono ?_
 rintro en w' ⟨rfl,hx⟩
 exact ⟨_,rfl,Z3y,hx⟩
end
section
open Go.ChangeShapes Go.WideShapes Go.ChangeAt Go.RowKit
section
variable {H : Type} {enc : TypeId × Value → H} {w : World} {spare : Nat → Bool} {held : Bool}
theorem Z3f:Tryz.prog.cellsOf 36=17:=by kernel_rfl
theorem Zua:Tryz.prog.cellsOf 34=16:=by kernel_rfl
set_option maxHeartbeats 1000000 in
theorem Z3g {v:Value} {d:DataW H} {ps:List MemPlace} (h:DataW.Trod enc Tryz.prog w 0 spare held 36 v d ps):∃x:{x:Ev//x.v.length=16},Den E σ0 (gTop w) (evA x.1) v:=by
 obtain ⟨fuel,h⟩:=h
 obtain ⟨xs,n,rfl,_,hl,hxl,hf⟩:=DataW.trod_struct Tryz.underlying36 h
 rw [Z3f] at hl
 have hv:=Zd3 hl (by decide)
 generalize v.cells.toList=cs at*
 have h0:=hf 0 _ rfl
 have h1:=hf 1 _ rfl
 have hx2:xs.length=2:=by simpa using hxl
 rw [List.getElem?_eq_getElem (by omega)] at h0 h1
 simp only [List.getElem_toArray,List.getElem_cons_zero,List.getElem_cons_succ,Zas,Zua,List.drop_zero] at h0 h1
 obtain ⟨p,hp,ip⟩:=X6 Tryz.underlying3 h0
 obtain ⟨ys,m,rfl,_,_,hyl,hg⟩:=DataW.trod_array Tryz.underlying34 h1
 have hall:∀i,i<16->∃n:Int,cs[1+i]? =some (.int .i64 n):=by
  intro i hi
  have h2:=hg i hi
  rw [List.getElem?_eq_getElem (by omega)] at h2
  simp only [List.getElem_toArray,List.getElem_cons_zero,List.getElem_cons_succ,Zas,Nat.mul_one] at h2
  obtain ⟨n,hn,_⟩:=X6 Tryz.underlying3 h2
  refine ⟨n,?_⟩
  have h3:((((cs.drop 1).take 16).drop i).take 1)[0]? =some (.int .i64 n):=by rw [hn];rfl
  rw [List.getElem?_take,if_pos (by decide),List.getElem?_drop,List.getElem?_take,if_pos (by omega),List.getElem?_drop] at h3
  simpa using h3
 have hp0:cs[0]? =some (.int .i64 p):=by
  have h3:((cs.take 1))[0]? =some (.int .i64 p):=by rw [hp];rfl
  rw [List.getElem?_take,if_pos (by decide)] at h3
  exact h3
 obtain ⟨f,hfam⟩:=Go.Deep.choose_lt (α:=Int) hall
 rw [hv]
 have hV:((List.range 16).map f).length=16:=by simp
 refine ⟨⟨⟨p,(List.range 16).map f⟩,hV⟩,.agg (fun j=>cs.getD j undef) (by simp [hl]) (fun j hj=> ?_) (fun j sv hj=> ?_)⟩
 · have hj:j<17:=by simpa using hj
   rw [List.getElem?_toArray,List.getD_eq_getElem?_getD,List.getElem?_eq_getElem (by omega)];rfl
 · cases j with
   |zero=>
    cases hj
    rw [List.getD_eq_getElem?_getD,hp0];exact .int _ _ _
   |succ j=>
    have hj:(((List.range 16).map f).map (SV.int false .i64:Int->SV thy))[j]? =some sv:=hj
    have hlt:j<16:=by have:=(List.getElem?_eq_some_iff.1 hj).1;simpa using this
    rw [List.getElem?_map,List.getElem?_map,List.getElem?_range hlt] at hj
    cases hj
    rw [List.getD_eq_getElem?_getD,Nat.add_comm,hfam j hlt];exact .int _ _ _
end
end
section
open Go
def parV (l:Bool) (y:Tar×Int×Int):SV thy:= .tup [.agg [.str l y.1.name,.int l .i64 y.1.for_,.psl Th.clauses y.1.clauses false],.int l .i64 y.2.1,.int l .i64 y.2.2]
def Z90:Tar:=⟨[97],1,[⟨[98],[⟨4,1,3⟩,⟨0,2,2⟩],.mk 5 0 0 0 0 0 [.mk 1 5 1 0 (-1) 0 [],.mk 2 6 0 0 0 0 []]⟩]⟩
def Z91:Tar:=⟨[97],1,[⟨[98],[],.mk 4 0 0 0 0 0 [.mk 4 0 0 0 0 0 [.mk 1 1 0 0 0 0 [],.mk 1 2 0 0 0 0 []],.mk 5 0 0 0 0 0 [.mk 1 3 0 0 0 0 [],.mk 3 0 0 0 0 0 [.mk 1 4 0 0 0 0 [],.mk 1 5 0 0 0 0 []]]]⟩]⟩
def exs:List (List Nat×(Tar×Int×Int)):= [
 ([116,97,114,105,102,102,32,97,32,102,111,114,32,108,111,115,115,32,123,32,125],(⟨[97],5,[]⟩,0,0)),
 ([116,97,114,105,102,102,32,97,32,102,111,114,32,104,105,114,101,32,123,32,99,108,97,117,115,101,32,98,32,119,104,101,110,32,99,108,97,115,115,32,105,110,32,49,46,46,51,32,97,110,100,32,116,121,112,101,32,105,115,32,50,32,112,97,121,32,53,32,109,111,110,101,121,32,112,101,114,32,107,109,32,42,32,107,109,59,32,125],(Z90,0,0)),
 ([],(zT,0,160)),
 ([116,97,114,105,102,102,32,109,105,110,32,102,111,114,32,108,111,115,115,32,123,32,125],(zT,7,161)),
 ([116,97,114,105,102,102,32,97,32,102,111,114,32,97,108,108,32,123,32,125],(zT,13,160)),
 ([116,97,114,105,102,102,32,97,32,102,111,114,32,108,111,115,115,32,123,32,99,108,97,117,115,101,32,98,32,112,97,121,32,49,59,32,99,108,97,117,115,101,32,98,32,112,97,121,32,50,59,32,125],(zT,43,161)),
 ([116,97,114,105,102,102,32,97,32,102,111,114,32,108,111,115,115,32,123,32,125,32,120],(zT,22,160)),
 ([116,97,114,105,102,102,32,97,32,102,111,114,32,104,105,114,101,32,123,32,99,108,97,117,115,101,32,98,32,112,97,121,32,49,32,45,32,50,32,45,32,51,32,42,32,40,52,32,43,32,53,41,59,32,125],(Z91,0,0))
]
def Z92 (s:List Nat):List (List Nat×(Tar×Int×Int))->Option (SV thy)
 | []=>none
 |p::r=>match eqL s p.1 with|true=>some (parV true p.2)|false=>Z92 s r
def Ycp:List (SV thy)->Option (SV thy)
 | [.str _ s]=>Z92 s exs
 |_=>none
def gthT:List (SV thy)->Option Th
 | .str _ _::_=>some Th.clauses
 |cs=>match (cs[6]? :Option (SV thy)) with
  |some (.int _ _ _)=>some Th.tests
  |none=>some Th.tests
  |some _=>some Th.exprs
def Zv1 (F:Fns thy):Fns thy:=⟨F.sums,F.fns,F.loops,fun _=>false⟩
theorem Zkt {E':Eng thy} {F:Fns thy} (h:FnsOk E' F):FnsOk E' (Zv1 F):=⟨h.sumG,h.fnG,h.sum,h.fn,h.loop⟩
theorem Zc2 {E':Eng thy} {f:FuncId} {args:List (SV thy)} {v v':SV thy} (h:PureC E' f args v) (hv:∀σ g u,Den E' σ g v u->Den E' σ g v' u):PureC E' f args v':=by
 intro g w vals hI hd
 refine (h g w vals hI hd).mono ?_
 rintro en w' ⟨u,he,g',hS,hI',hu⟩
 exact ⟨u,he,g',hS,hI',hv _ _ _ hu⟩
theorem Ycq {E':Eng thy} {σ:Pl} {g:GH} {cs cs':List (SV thy)} {u:Value} (h:Den E' σ g (.agg cs) u) (hl:cs'.length=cs.length) (hm:∀(j:Nat) sv',cs'[j]? =some sv'->∃sv,cs[j]? =some sv/\∀u,Den E' σ g sv u->Den E' σ g sv' u):Den E' σ g (.agg cs') u:=by
 cases h with
 |agg c hs hc hd=>
  refine .agg c (hs.trans hl.symm) (fun j hj=>hc j (by omega)) fun j sv' hj=> ?_
  obtain ⟨sv,h1,h2⟩:=hm j sv' hj
  exact h2 _ (hd j sv h1)
theorem Zij {E':Eng thy} {σ:Pl} {g:GH} {cs cs':List (SV thy)} {u:Value} (h:Den E' σ g (.tup cs) u) (hl:cs'.length=cs.length) (hm:∀(j:Nat) sv',cs'[j]? =some sv'->∃sv,cs[j]? =some sv/\∀u,Den E' σ g sv u->Den E' σ g sv' u):Den E' σ g (.tup cs') u:=by
 cases h with
 |tup c hs hc hd=>
  refine .tup c (hs.trans hl.symm) (fun j hj=>hc j (by omega)) fun j sv' hj=> ?_
  obtain ⟨sv,h1,h2⟩:=hm j sv' hj
  exact h2 _ (hd j sv h1)
end
section
open Go
theorem Zzp {σ:Pl} {g:GH} {a:Bool} {b:Int}:Den E σ g (.tup [.bool false a,.int false .i64 b]) (.tuple #[.bool a,.int .i64 b]):=by
 refine .tup (fun j=>match j with|0=> .bool a|_=> .int .i64 b) rfl (fun j hj=> ?_) (fun j sv hj=> ?_)
 · match j,hj with
   |0,_=>rfl
   |1,_=>rfl
 · match j,hj with
   |0,hj=>cases hj;exact .bool _ _
   |1,hj=>cases hj;exact .int _ _ _
theorem Zud (c:Cls) (x:Ev) (hx:x.v.length=16) (ht:∀w∈c.when_,w.In):PureC E 38 [.agg (encF false .clauses c),evA x] (.tup [.bool false (Y0 x (c.when_.map toTs)).1,.int false .i64 (Y0 x (c.when_.map toTs)).2]):=by
 refine Ws fun g w vals hI hd=> ?_
 obtain ⟨u,v,rfl,hu,hv⟩:=Zxs hd
 obtain ⟨arr,d,rfl,hs,hc,hdu⟩:=Zt hu
 have ha:=Zn2 hs hc
 rw [Z52 hx hv,ha]
 refine (Zht x ⟨hx,trivial,fun _ _=>trivial⟩ _ (toCl c) w (Ycg hI c ht d hdu)).mono ?_
 rintro en w' ⟨rfl,hx⟩
 exact ⟨_,rfl,Zzp,hx⟩
def evOf (p:Int×Int×Int×Int×Int×Int×Int×Int×Int×Int×Int×Int×Int×Int×Int×Int×Int×Unit):Ev:=
 ⟨p.1,[p.2.1,p.2.2.1,p.2.2.2.1,p.2.2.2.2.1,p.2.2.2.2.2.1,p.2.2.2.2.2.2.1,p.2.2.2.2.2.2.2.1,p.2.2.2.2.2.2.2.2.1,p.2.2.2.2.2.2.2.2.2.1,p.2.2.2.2.2.2.2.2.2.2.1,p.2.2.2.2.2.2.2.2.2.2.2.1,p.2.2.2.2.2.2.2.2.2.2.2.2.1,p.2.2.2.2.2.2.2.2.2.2.2.2.2.1,p.2.2.2.2.2.2.2.2.2.2.2.2.2.2.1,p.2.2.2.2.2.2.2.2.2.2.2.2.2.2.2.1,p.2.2.2.2.2.2.2.2.2.2.2.2.2.2.2.2.1]⟩
def ofEv (x:Ev):Int×Int×Int×Int×Int×Int×Int×Int×Int×Int×Int×Int×Int×Int×Int×Int×Int×Unit:=
 (x.has,x.v.getD 0 0,x.v.getD 1 0,x.v.getD 2 0,x.v.getD 3 0,x.v.getD 4 0,x.v.getD 5 0,x.v.getD 6 0,x.v.getD 7 0,x.v.getD 8 0,x.v.getD 9 0,x.v.getD 10 0,x.v.getD 11 0,x.v.getD 12 0,x.v.getD 13 0,x.v.getD 14 0,x.v.getD 15 0,())
noncomputable def dEvP:DcL E Ev:=(DcL.cons dN (.cons dN (.cons dN (.cons dN (.cons dN (.cons dN (.cons dN (.cons dN (.cons dN (.cons dN (.cons dN (.cons dN (.cons dN (.cons dN (.cons dN (.cons dN (.cons dN .nil))))))))))))))))).map evOf ofEv fun _=>rfl
noncomputable def dEv:Dc E Ev:=dAgg dEvP
theorem Zjt {x:Ev} (hx:x.v.length=16):dEv.enc x=evA x:=by
 obtain ⟨h,v⟩:=x
 have hx:v.length=16:=hx
 match v,hx with
 | [a0,a1,a2,a3,a4,a5,a6,a7,a8,a9,a10,a11,a12,a13,a14,a15],_=>rfl
noncomputable def dEE:DcL E (Ex×Ev×Unit):= .cons (dR .exprs) (.cons dEv .nil)
noncomputable def dCE:DcL E (Cls×Ev×Unit):= .cons (dR .clauses) (.cons dEv .nil)
noncomputable def dTE:DcL E (Tar×Ev×Unit):= .cons (dR .tariffs) (.cons dEv .nil)
def inB (w:Tst):Bool:=(decide (-1000000000000000000<=w.attr)&&decide (w.attr<=1000000000000000000))&&((decide (-1000000000000000000<=w.low)&&decide (w.low<=1000000000000000000))&&(decide (-1000000000000000000<=w.high)&&decide (w.high<=1000000000000000000)))
theorem Z5r {w:Tst} (h:inB w=true):w.In:=by
 simp only [inB,Bool.and_eq_true,decide_eq_true_eq] at h
 unfold Tst.In I64r
 omega
noncomputable def Zpm (args:List (SV thy)):Option (SV thy):=
 match dEE.dec (args.map unfl) with
 |some (e,x,_)=>(match Nat.beq x.v.length 16 with|true=>some (.tup [.int true .i64 (Zcb e x).1,.int true .i64 (Zcb e x).2])|false=>none)
 |none=>none
noncomputable def Zju (args:List (SV thy)):Option (SV thy):=
 match dCE.dec (args.map unfl) with
 |some (c,x,_)=>(match Nat.beq x.v.length 16&&c.when_.all inB with|true=>some (.tup [.bool true (Y0 x (c.when_.map toTs)).1,.int true .i64 (Y0 x (c.when_.map toTs)).2])|false=>none)
 |none=>none
noncomputable def Zzq (args:List (SV thy)):Option (SV thy):=
 match dTE.dec (args.map unfl) with
 |some (t,x,_)=>(match Nat.beq x.v.length 16&&t.clauses.all fun c=>c.when_.all inB with|true=>some (.tup [.int true .i64 (amtF t x).1,.int true .i64 (amtF t x).2.1,.int true .i64 (amtF t x).2.2])|false=>none)
 |none=>none
noncomputable def FuC:Fns thy:=Zv1 (addS (addS (addS F0 42 (Zff EL gthT 20 (sumO Zpm))) 38 (Zff EL gthT 20 (sumO Zju))) 13 (Zff EL gthT 20 (sumO Zzq)))
theorem Zpn (v:Bool):Zk EL FuC (vc EL FuC 4000) 11 [] hp0 0 (fun r=>ret EL (patch hp0 0 r) r.v (.bool true v))=(
true=v):=by kernel_rfl
theorem Zue (args:List (SV thy)) (v:SV thy) (h:Zpm args=some v):PureC EL 42 args v:=by
 unfold Zpm at h
 split at h
 · rename_i e x _ hd
   split at h
   · rename_i hx
     have hx:=Nat.eq_of_beq_eq_true hx
     cases h
     refine PureC.fl (Zc2 (v:=Yba (Zcb e x)) (PureC.like Zz2 Zz3 (fun _ _ h=>h) (PureC.of_dec hd ?_)) fun σ g u hu=> ?_)
     · show PureC E _ [exA e,dEv.enc x] _
       rw [Zjt hx]
       exact Zxx e x hx
     · refine Zij hu rfl fun j sv' hj=> ?_
       match j,hj with
       |0,hj=>cases hj;exact ⟨_,rfl,fun u hu=>by cases hu;exact .int _ _ _⟩
       |1,hj=>cases hj;exact ⟨_,rfl,fun u hu=>by cases hu;exact .int _ _ _⟩
   · cases h
 · cases h
theorem Zpo (args:List (SV thy)) (v:SV thy) (h:Zju args=some v):PureC EL 38 args v:=by
 unfold Zju at h
 split at h
 · rename_i c x _ hd
   split at h
   · rename_i hx
     simp only [Bool.and_eq_true,List.all_eq_true] at hx
     obtain ⟨hx,hw⟩:=hx
     have hx:=Nat.eq_of_beq_eq_true hx
     cases h
     refine PureC.fl (Zc2 (v:= .tup [.bool false (Y0 x (c.when_.map toTs)).1,.int false .i64 (Y0 x (c.when_.map toTs)).2]) (PureC.like Zz2 Zz3 (fun _ _ h=>h) (PureC.of_dec hd ?_)) fun σ g u hu=> ?_)
     · show PureC E _ [.agg (encF false .clauses c),dEv.enc x] _
       rw [Zjt hx]
       exact Zud c x hx fun w hm=>Z5r (hw w hm)
     · refine Zij hu rfl fun j sv' hj=> ?_
       match j,hj with
       |0,hj=>cases hj;exact ⟨_,rfl,fun u hu=>by cases hu;exact .bool _ _⟩
       |1,hj=>cases hj;exact ⟨_,rfl,fun u hu=>by cases hu;exact .int _ _ _⟩
   · cases h
 · cases h
theorem Zzr (args:List (SV thy)) (v:SV thy) (h:Zzq args=some v):PureC EL 13 args v:=by
 unfold Zzq at h
 split at h
 · rename_i t x _ hd
   split at h
   · rename_i hx
     simp only [Bool.and_eq_true,List.all_eq_true] at hx
     obtain ⟨hx,hw⟩:=hx
     have hx:=Nat.eq_of_beq_eq_true hx
     cases h
     refine PureC.fl (Zc2 (v:=amtV (amtF t x)) (PureC.like Zz2 Zz3 (fun _ _ h=>h) (PureC.of_dec hd ?_)) fun σ g u hu=> ?_)
     · show PureC E _ [.agg (encF false .tariffs t),dEv.enc x] _
       rw [Zjt hx]
       exact Zgf t x hx fun c hc w hm=>Z5r (hw c hc w hm)
     · refine Zij hu rfl fun j sv' hj=> ?_
       match j,hj with
       |0,hj=>cases hj;exact ⟨_,rfl,fun u hu=>by cases hu;exact .int _ _ _⟩
       |1,hj=>cases hj;exact ⟨_,rfl,fun u hu=>by cases hu;exact .int _ _ _⟩
       |2,hj=>cases hj;exact ⟨_,rfl,fun u hu=>by cases hu;exact .int _ _ _⟩
   · cases h
 · cases h
theorem Z5s:FnsOk EL FuC:=Zkt (Zb (Zb (Zb Zz4 (Uo Zd9 (Zj9 Zd9 (Zd rfl) Zue))) (Uo Zd9 (Zj9 Zd9 (Zd rfl) Zpo))) (Uo Zd9 (Zj9 Zd9 (Zd rfl) Zzr)))
theorem Zpp:PureC E 11 [] (.bool true true):=by
 refine PureC.like Zz3 Zz2 (fun _ _ h=>h) (Zc Zd9 (Wa Zd9 Z5s fun f N c=>(Zks Zd9 Z5s 4000 f N c).1) ?_)
 rw [Zpn]
end
section
open Go
noncomputable def Zy1:Sum thy:=sumF E (fun _=>none) 10 (dA1 (dR .tariffs)) (fun x=>(∀c∈Tar.clauses x.1,c.pay.sz<1000000000000/\c.when_.length<1000000000000)/\(Tar.clauses x.1).length<1000000000000) fun x=> .int false .i64 (X8 x.1)
theorem Zy2:SumOk E 20 Zy1:=Zxy E_ok (Zd (f:=20) rfl) fun x h=>Zs4 _ h.1 h.2
--@cond form17 | 46 | (addS F0 20 Zy1)>(Fform17 m) | 400 | (m : Nat) (x : Ex) | [exA x] | (v : Bool) | .bool false v
--@end
end
section
open Go
theorem Z7y (c:Int):in3 c=true↔(-3<=c/\c<=3):=by
 unfold in3
 simp only [Bool.not_eq_true',Bool.or_eq_false_iff,decide_eq_false_iff_not]
 omega
theorem q3 (c:Int) {Kt Kf:Prop} (h1:in3 c=false->Kt) (h2:in3 c=true->Kf):∃Q:Bool->Prop,((c< -3->Q true)/\(¬c< -3->(c>3->Q true)/\(¬c>3->Q false)))/\(Q true->Kt)/\(Q false->Kf):=by
 have hi:=Z7y c
 have hf:¬(-3<=c/\c<=3)->in3 c=false:=fun h=>by rw [<-Bool.not_eq_true,hi];exact h
 refine ⟨fun q=>q=true↔in3 c=false,And.intro (fun h=>⟨fun _=>hf (by omega),fun _=>rfl⟩) (fun h=>And.intro (fun h'=>⟨fun _=>hf (by omega),fun _=>rfl⟩) (fun h'=>⟨fun h=>(by cases h),fun h=> ?_⟩)),fun h=>h1 (h.1 rfl),fun h=>h2 ?_⟩
 · rw [hi.2 (by omega)] at h;cases h
 · cases hh:in3 c with
   |true=>rfl
   |false=>exact absurd (h.2 hh) (by simp)
end
section
open Go
open Classical in
--@cond unitK | 22 | Funit0>(Funit m) | 800 | (m : Nat) (x : Ex) | [rulesV, exA x] | (o : Option (List Int)) | optV o
--@end
end
section
open Go
end
section
open Go
theorem q2 {a b:Option (List Int)} {Kt Kf:Prop} (h1:(a=none\/b=none)->Kt) (h2:∀c d,a=some c->b=some d->Kf):∃Q:Bool->Prop,((a.isSome=false->Q true)/\(a.isSome=true->Q (!b.isSome)))/\(Q true->Kt)/\(Q false->Kf):=by
 cases a with
 |none=>exact ⟨fun q=>q=true,⟨fun _=>rfl,fun h=>by simp at h⟩,fun _=>h1 (.inl rfl),fun h=>(by cases h)⟩
 |some c=>
  cases b with
  |none=>exact ⟨fun q=>q=true,⟨fun h=>by simp at h,fun _=>rfl⟩,fun _=>h1 (.inr rfl),fun h=>(by cases h)⟩
  |some d=>exact ⟨fun q=>q=false,⟨fun h=>by simp at h,fun _=>rfl⟩,fun h=>(by cases h),fun _=>h2 c d rfl rfl⟩
end
section
open Go
end
section
open Go
end
section
open Go
end
section
open Go
end
section
open Go
end
section
open Go
noncomputable def dTar:DcL E (Tar×Unit):= .cons (dR .tariffs) .nil
end
section
open Go
noncomputable def Ydv (m:Nat):Sum thy:=sumP Z14 (fun x=>x.1.sz<m/\1<=x.2.1/\x.2.1<=100000) fun x=> .int false .i64 (min (x.1.sz:Int) x.2.1)
def Ydw:Fr thy->Hp thy->Nat->Ann thy:=fun T h i=>{X:=DX,fr:=fun x=> [(1,T 1),(2,T 2),(5,.int false .i64 x.j),(6,.int false .i64 x.k)],bl:=fun x=>blkP h (T 2),src:=fun _=> [],md:= [],ih:=i,M:=i+30,meas:=fun x=>x.r}
noncomputable def Ybr (m:Nat):Fns thy:=addL (addS F0 73 (Ydv m)) 73 3 Ydw E
abbrev qDQ1 (a0:Ex):=(Ex.op a0=Ex.op a0/\Ex.n a0=Ex.n a0/\Ex.d0 a0=Ex.d0 a0/\Ex.d1 a0=Ex.d1 a0/\Ex.d2 a0=Ex.d2 a0/\Ex.d3 a0=Ex.d3 a0/\(Ex.l a0=Ex.l a0/\(false=true->false=true))/\True)
abbrev qDQ2 (a0:Ex):=(Ex.mk (Ex.op a0) (Ex.n a0) (Ex.d0 a0) (Ex.d1 a0) (Ex.d2 a0) (Ex.d3 a0) (Ex.l a0))
abbrev qDQ3 (a0:DX):=(↑(DX.k a0):Int)
theorem Zyn (m:Nat) (x:Ex) (lim:Int) (v:Int):Zk E F0 (vc E (Ybr m) 400) 73 [exA x,.int false .i64 lim] hp0 0 (fun r=>ret E (patch hp0 0 r) r.v (.int false .i64 v))=(
 ∃(R:DX->Prop),(∃(x_1:DX),R x_1/\true=true/\(lim=lim/\(0:Nat)=(0:Nat)/\(1:Int)=DX.j x_1/\(0:Int)=(qDQ3 x_1)/\True)/\(qDQ1 x)/\True)/\∀(x_1:DX),R x_1->∃(Q:Bool->Prop),((decide ((qDQ3 x_1)<(↑(List.length (Ex.l x)):Int))=true->(decide (DX.j x_1<lim)=true->Q true)/\(decide (DX.j x_1<lim)=false->Q false))/\(decide ((qDQ3 x_1)<(↑(List.length (Ex.l x)):Int))=false->Q false))/\(Q true->(0:Int)<=(qDQ3 x_1)/\(qDQ3 x_1)+(1:Int)<=(↑(List.length (Ex.l x)):Int)/\∀(x_2:Ex),(Ex.l x)[Int.toNat (qDQ3 x_1)]? =some x_2->(Ex.sz (qDQ2 x_2)+(1:Nat)<=m/\(1:Int)<=wr IntKind.i64 (lim-DX.j x_1)/\wr IntKind.i64 (lim-DX.j x_1)<=(100000:Int))/\∃(x_3:DX),R x_3/\x_3.2+(1:Nat)<=x_1.2/\true=true/\(lim=lim/\(0:Nat)=(0:Nat)/\wr IntKind.i64 (DX.j x_1+min (↑(Ex.sz (qDQ2 x_2)):Int) (wr IntKind.i64 (lim-DX.j x_1)))=DX.j x_3/\wr IntKind.i64 ((qDQ3 x_1)+(1:Int))=(qDQ3 x_3)/\True)/\(qDQ1 x)/\True)/\(Q false->DX.j x_1=v)):=by kernel_rfl
theorem Z2w:∀(m:Nat) (x:Ex) (lim:Int),x.sz<=m->1<=lim->lim<=100000->PureC E 73 [exA x,.int false .i64 lim] (.int false .i64 (min (x.sz:Int) lim)):=by
 intro m
 induction m with
 |zero=>intro x lim h;have:=x.sz_pos;omega
 |succ m ih=>
  intro x lim hm h1 h2
  have hF:FnsOk E (Ybr (m+1)):=Yc E_ok (Zb F0_ok (Ym E_ok (Zd (f:=73) rfl) fun x h=>ih x.1 x.2.1 (by have:=h.1;omega) h.2.1 h.2.2)) _ _ _
  refine Zc E_ok (Wa E_ok F0_ok fun f N c=>(Zks E_ok hF 400 f N c).1) ?_
  rw [Zyn];delta qDQ1 qDQ2 qDQ3
  simp only [W0,Xx,Zdx,Zdy,Zdz,beq_iff_eq,bne_iff_ne,beq_eq_false_iff_ne,bne_eq_false_iff_eq,decide_eq_true_eq,decide_eq_false_iff_not,Bool.or_eq_true,Bool.or_eq_false_iff,Bool.not_eq_true',Bool.not_eq_false',Bool.and_eq_true,Bool.and_true,Bool.true_and,Bool.and_eq_false_iff,beq_self_eq_true,Uz,W7,ne_eq,and_true,true_and,Bool.true_eq_false,Bool.false_eq_true,false_or,or_false,true_implies,imp_self,Int.ofNat_eq_natCast,not_true_eq_false,not_false_eq_true,Decidable.not_not,Ex.eta]
  have hsz:=x.sz_eq
  have hlen:=Ex.szL_len x.l
  refine ⟨fun y=>y.k<=x.l.length/\(y.k:Int)+1<=y.j/\y.j<=lim/\min (y.j+(Ex.szL (x.l.drop y.k):Int)) lim=min (x.sz:Int) lim/\y.r=x.l.length-y.k,⟨⟨0,x.l.length,[],[],0,0,0,1⟩,⟨(by dsimp only;omega),(by dsimp only;omega),h1,by dsimp only;rw [List.drop_zero];omega,rfl⟩,rfl,rfl⟩,?_⟩
  rintro y ⟨hk,hj1,hj2,hv,hr⟩
  refine ⟨fun b=>b=true↔(y.k<x.l.length/\y.j<lim),⟨fun h3=>⟨fun h4=>by simp;omega,fun h4=>by simp;omega⟩,fun h3=>by simp;omega⟩,fun hq=> ?_,fun hq=> ?_⟩
  · have hq:=hq.1 rfl
    refine ⟨by omega,by omega,fun z hz=> ?_⟩
    have hz:x.l[y.k]? =some z:=hz
    have hzs:=Ex.sz_mem (List.mem_of_getElem? hz)
    rw [Vr hz,Ex.szL] at hv
    have hzp:=z.sz_pos
    rw [wr64 (n:=lim-y.j) (by omega) (by omega),wr64 (n:=(y.k:Int)+1) (by omega) (by omega),wr64 (n:=y.j+min (z.sz:Int) (lim-y.j)) (by omega) (by omega)]
    exact ⟨⟨by omega,by omega,by omega⟩,⟨y.k+1,x.l.length-(y.k+1),[],[],0,0,0,y.j+min (z.sz:Int) (lim-y.j)⟩,⟨(by dsimp only;omega),(by dsimp only;omega),(by dsimp only;omega),(by dsimp only;omega),rfl⟩,by show x.l.length-(y.k+1)+1<=y.r;omega,rfl,rfl⟩
  · have hq:¬(y.k<x.l.length/\y.j<lim):=fun h=>by have:=hq.2 h;simp at this
    by_cases h3:y.j<lim
    · rw [Wx (by omega)] at hv
      simp only [Ex.szL] at hv
      omega
    · have:=Int.le_antisymm hj2 (by omega)
      omega
noncomputable def SszT:Sum thy:=sumP Z14 (fun x=>1<=x.2.1/\x.2.1<=100000) fun x=> .int false .i64 (min (x.1.sz:Int) x.2.1)
theorem Z8q:SumOk E 73 SszT:=Ym E_ok (Zd (f:=73) rfl) fun x h=>Z2w _ x.1 x.2.1 (Nat.le_refl _) h.1 h.2
structure FX where
 k:Nat
 r:Nat
noncomputable def Ydx:Fr thy->Hp thy->Nat->Ann thy:=fun T h i=>{X:=FX,fr:=fun x=> [(1,T 1),(3,.int false .i64 x.k)],bl:=fun x=>blkP h (T 1),src:=fun _=> [],md:= [],ih:=i,M:=i+40,meas:=fun x=>x.r}
noncomputable def Z8r:Fns thy:=addL (addS F0 73 SszT) 12 4 Ydx E
theorem Z2x:FnsOk E Z8r:=Yc E_ok (Zb F0_ok Z8q) _ _ _
abbrev qDQ4 (a0:Cls):=(min (↑(Ex.sz (Ex.mk (Ex.op (Cls.pay a0)) (Ex.n (Cls.pay a0)) (Ex.d0 (Cls.pay a0)) (Ex.d1 (Cls.pay a0)) (Ex.d2 (Cls.pay a0)) (Ex.d3 (Cls.pay a0)) (Ex.l (Cls.pay a0)))):Int) (2000:Int)<(2000:Int))
abbrev qDQ5 (a0:Tar):=(↑(List.length (Tar.clauses a0)):Int)
abbrev qDQ6 (a0:Tar):=(Tar.name a0=Tar.name a0/\Tar.for_ a0=Tar.for_ a0/\(Tar.clauses a0=Tar.clauses a0/\(false=true->false=true))/\True)
abbrev qDQ7 (a0:FX):=(↑(FX.k a0):Int)
theorem Zyo (t:Tar) (v:Bool):Zk E Z8r (vc E Z8r 400) 12 [tarA t] hp0 0 (fun r=>ret E (patch hp0 0 r) r.v (.bool false v))=(
 (decide ((qDQ5 t)>(70:Int))=true->false=v)/\(decide ((qDQ5 t)>(70:Int))=false->∃(R:FX->Prop),(∃(x:FX),R x/\true=true/\((0:Nat)=(0:Nat)/\(0:Int)=(qDQ7 x)/\True)/\(qDQ6 t)/\True)/\∀(x:FX),R x->(decide ((qDQ7 x)<(qDQ5 t))=true->(0:Int)<=(qDQ7 x)/\(qDQ7 x)+(1:Int)<=(qDQ5 t)/\∀(x_1:Cls),(Tar.clauses t)[Int.toNat (qDQ7 x)]? =some x_1->(decide ((↑(List.length (Cls.when_ x_1)):Int)>(20:Int))=true->false=v)/\(decide ((↑(List.length (Cls.when_ x_1)):Int)>(20:Int))=false->(0:Int)<=(qDQ7 x)/\(qDQ7 x)+(1:Int)<=(qDQ5 t)/\∀(x_2:Cls),(Tar.clauses t)[Int.toNat (qDQ7 x)]? =some x_2->((1:Int)<=(2000:Int)/\(2000:Int)<=(100000:Int))/\(decide (qDQ4 x_2)=true->∃(x_3:FX),R x_3/\x_3.2+(1:Nat)<=x.2/\true=true/\((0:Nat)=(0:Nat)/\wr IntKind.i64 ((qDQ7 x)+(1:Int))=(qDQ7 x_3)/\True)/\(qDQ6 t)/\True)/\(decide (qDQ4 x_2)=false->false=v)))/\(decide ((qDQ7 x)<(qDQ5 t))=false->true=v))):=by kernel_rfl
def Zo7 (c:Cls):Bool:=decide (c.when_.length<=20)&&decide (c.pay.sz<2000)
def Zg0 (t:Tar):Bool:=decide (t.clauses.length<=70)&&t.clauses.all Zo7
theorem Zrv {t:Tar} {c:Cls} (hm:c∈t.clauses) (h:Zo7 c=false):Zg0 t=false:=by
 unfold Zg0
 rw [Bool.and_eq_false_iff]
 refine .inr ?_
 rw [List.all_eq_false]
 exact ⟨c,hm,by rw [h];decide⟩
theorem Zyp (t:Tar):PureC E 12 [tarA t] (.bool false (Zg0 t)):=by
 refine Zc E_ok (Zi E_ok Z2x 400) ?_
 rw [Zyo];delta qDQ4 qDQ5 qDQ6 qDQ7
 simp only [Ex.eta,true_and,and_true,decide_eq_true_eq,decide_eq_false_iff_not]
 refine ⟨fun h=> ?_,fun h=> ?_⟩
 · unfold Zg0
   rw [decide_eq_false (by omega)];rfl
 have F1:(false=true->false=true):=fun h=>h
 refine ⟨fun x=>x.k<=t.clauses.length/\(∀c∈t.clauses.take x.k,Zo7 c=true)/\x.r=t.clauses.length-x.k,⟨⟨0,t.clauses.length⟩,⟨Nat.zero_le _,fun c hc=>(by rw [List.take_zero] at hc;cases hc),rfl⟩,rfl,F1⟩,?_⟩
 rintro ⟨k,r⟩ ⟨h1,h2,h3⟩
 simp only at h1 h2 h3⊢
 refine ⟨fun hk=>⟨by omega,by omega,fun c hc=> ?_⟩,fun hk=> ?_⟩
 · have hc:t.clauses[k]? =some c:=hc
   have hm:=List.mem_of_getElem? hc
   refine ⟨fun hw=>(Zrv hm (by unfold Zo7;rw [decide_eq_false (by omega)];rfl)).symm,fun hw=>⟨by omega,by omega,fun d hd=> ?_⟩⟩
   have hd:t.clauses[k]? =some d:=hd
   rw [hc] at hd
   cases hd
   refine ⟨by omega,fun hz=> ?_,fun hz=>(Zrv hm (by unfold Zo7;rw [decide_eq_false (p:=c.pay.sz<2000) (by omega),Bool.and_false])).symm⟩
   refine ⟨⟨k+1,t.clauses.length-(k+1)⟩,⟨by show k+1<=_;omega,fun e he=> ?_,rfl⟩,by show t.clauses.length-(k+1)+1<=r;omega,(wr64 (by omega) (by omega)).trans (by show (k:Int)+1=((k+1:Nat):Int);omega),F1⟩
   rw [List.take_add_one,hc] at he
   rcases List.mem_append.1 he with he|he
   · exact h2 e he
   · rw [List.mem_singleton.1 he]
     unfold Zo7
     rw [decide_eq_true (by omega),decide_eq_true (by omega)];rfl
 · rw [List.take_of_length_le (by omega)] at h2
   unfold Zg0
   rw [decide_eq_true (by omega),List.all_eq_true.2 h2];rfl
theorem Z2y {t:Tar} (h:Zg0 t=true):t.clauses.length<=70/\∀c∈t.clauses,c.when_.length<=20/\c.pay.sz<2000:=by
 simp only [Zg0,Bool.and_eq_true,decide_eq_true_eq,List.all_eq_true] at h
 refine ⟨h.1,fun c hc=> ?_⟩
 have:=h.2 c hc
 simp only [Zo7,Bool.and_eq_true,decide_eq_true_eq] at this
 exact this
end
section
open Go
def ndK (u:Int) (k:Res thy->Prop):List Int->Prop
 | []=>True
 |j::r=>((Lib.nDigits u.toNat:Int)=j->k (quiet [] (.int true .i64 j)))/\ndK u k r
noncomputable def Snd:Sum thy:=fun args _ _ k=>
 match args with
 | [.int _ .u64 u]=>(1<=u/\u<10000000000000)/\ndK u k [1,2,3,4,5,6,7,8,9,10,11,12,13]
 |_=>False
noncomputable def Z5n:Sum thy:=Ue (dA1 dN) (fun x=>0<=x.1/\x.1<100) (fun x=>(Lib.itoa x.1).map UInt8.toNat) fun y=> .str false y
noncomputable def Fit:Fns thy:=addS (addS F0 115 Snd) 114 Z5n
def smT:List Nat:=
 toL (ByteArray.mk (List.toArray (List.append (List.append [(48:UInt8),(48:UInt8),(48:UInt8),(49:UInt8),(48:UInt8),(50:UInt8),(48:UInt8),(51:UInt8),(48:
 UInt8),(52:UInt8),(48:UInt8),(53:UInt8),(48:UInt8),(54:UInt8),(48:UInt8),(55:UInt8),(48:UInt8),(56:UInt8),(48:UInt8),(57:UInt8),(49:UInt8),(48
 :UInt8),(49:UInt8),(49:UInt8),(49:UInt8),(50:UInt8),(49:UInt8),(51:UInt8),(49:UInt8),(52:UInt8),(49:UInt8),(53:UInt8),(49:UInt8),(54:UInt8),
 (49:UInt8),(55:UInt8),(49:UInt8),(56:UInt8),(49:UInt8),(57:UInt8),(50:UInt8),(48:UInt8),(50:UInt8),(49:UInt8),(50:UInt8),(50:UInt8),(50:
 UInt8),(51:UInt8),(50:UInt8),(52:UInt8)] [(50:UInt8),(53:UInt8),(50:UInt8),(54:UInt8),(50:UInt8),(55:UInt8),(50:UInt8),(56:UInt8),(50:UInt8),(57
 :UInt8),(51:UInt8),(48:UInt8),(51:UInt8),(49:UInt8),(51:UInt8),(50:UInt8),(51:UInt8),(51:UInt8),(51:UInt8),(52:UInt8),(51:UInt8),(53:UInt8),
 (51:UInt8),(54:UInt8),(51:UInt8),(55:UInt8),(51:UInt8),(56:UInt8),(51:UInt8),(57:UInt8),(52:UInt8),(48:UInt8),(52:UInt8),(49:UInt8),(52:
 UInt8),(50:UInt8),(52:UInt8),(51:UInt8),(52:UInt8),(52:UInt8),(52:UInt8),(53:UInt8),(52:UInt8),(54:UInt8),(52:UInt8),(55:UInt8),(52:UInt8),(56
 :UInt8),(52:UInt8),(57:UInt8)]) (List.append [(53:UInt8),(48:UInt8),(53:UInt8),(49:UInt8),(53:UInt8),(50:UInt8),(53:UInt8),(51:UInt8),(53:UInt8),
 (52:UInt8),(53:UInt8),(53:UInt8),(53:UInt8),(54:UInt8),(53:UInt8),(55:UInt8),(53:UInt8),(56:UInt8),(53:UInt8),(57:UInt8),(54:UInt8),(48:
 UInt8),(54:UInt8),(49:UInt8),(54:UInt8),(50:UInt8),(54:UInt8),(51:UInt8),(54:UInt8),(52:UInt8),(54:UInt8),(53:UInt8),(54:UInt8),(54:UInt8),(54
 :UInt8),(55:UInt8),(54:UInt8),(56:UInt8),(54:UInt8),(57:UInt8),(55:UInt8),(48:UInt8),(55:UInt8),(49:UInt8),(55:UInt8),(50:UInt8),(55:UInt8),
 (51:UInt8),(55:UInt8),(52:UInt8)] [(55:UInt8),(53:UInt8),(55:UInt8),(54:UInt8),(55:UInt8),(55:UInt8),(55:UInt8),(56:UInt8),(55:UInt8),(57:
 UInt8),(56:UInt8),(48:UInt8),(56:UInt8),(49:UInt8),(56:UInt8),(50:UInt8),(56:UInt8),(51:UInt8),(56:UInt8),(52:UInt8),(56:UInt8),(53:UInt8),(56
 :UInt8),(54:UInt8),(56:UInt8),(55:UInt8),(56:UInt8),(56:UInt8),(56:UInt8),(57:UInt8),(57:UInt8),(48:UInt8),(57:UInt8),(49:UInt8),(57:UInt8),
 (50:UInt8),(57:UInt8),(51:UInt8),(57:UInt8),(52:UInt8),(57:UInt8),(53:UInt8),(57:UInt8),(54:UInt8),(57:UInt8),(55:UInt8),(57:UInt8),(56:
 UInt8),(57:UInt8),(57:UInt8)]))))
abbrev qCHo:=(0:Int)
abbrev qCH3 (a0:Int):=(wr IntKind.u64 (qCHo-wr IntKind.u64 a0))
abbrev Zod:=(100000000:Int)
abbrev qCH1 (a0:Int):=(wr IntKind.u32 (Int.tmod (qCH3 a0) Zod))
abbrev qCH2 (a0:Int):=(wr IntKind.u32 (Int.tmod (wr IntKind.u64 a0) Zod))
abbrev qCH4:=(10000:Int)
abbrev qCH5:=(↑(List.length smT):Int)
abbrev qCH6:=(100:Int)
abbrev qCH7 (a0:Int):=(wr IntKind.u32 (wr IntKind.u64 (Int.tdiv (wr IntKind.u64 a0) Zod)))
abbrev qCH8:=(256:Nat)
abbrev qCHc:=(2:Int)
abbrev qCH9 (a0:Int):=(wr IntKind.u32 (Int.tdiv (wr IntKind.u32 (Int.tdiv (qCH1 a0) qCH4)) qCH6)*qCHc)
abbrev qCHa (a0:Int):=(wr IntKind.u32 (Int.tdiv (wr IntKind.u32 (Int.tdiv (qCH2 a0) qCH4)) qCH6)*qCHc)
abbrev qCHb (a0:Int):=(wr IntKind.u32 (wr IntKind.u64 (Int.tdiv (qCH3 a0) Zod)))
abbrev qCHd:=(1:Int)
abbrev qCHe (a0:Int):=(wr IntKind.u32 (wr IntKind.u64 a0))
abbrev qCHf (a0:Int):=(wr IntKind.u32 (Int.tdiv (Int.tmod (qCH1 a0) qCH4) qCH6)*qCHc)
abbrev qCHg (a0:Int):=(Int.tmod (wr IntKind.u32 (Int.tdiv (qCH1 a0) qCH4)) qCH6*qCHc)
abbrev qCHh (a0:Int):=(wr IntKind.u32 (Int.tdiv (Int.tmod (qCH2 a0) qCH4) qCH6)*qCHc)
abbrev qCHi (a0:Int):=(Int.tmod (wr IntKind.u32 (Int.tdiv (qCH2 a0) qCH4)) qCH6*qCHc)
abbrev Zlw (a0:Int):=(wr IntKind.u32 (qCH3 a0))
abbrev qCHj (a0:Int):=(wr IntKind.u32 (Int.tdiv (Int.tmod (Zlw a0) qCH4) qCH6)*qCHc)
abbrev qCHk (a0:Int):=(Int.tmod (Int.tmod (qCH1 a0) qCH4) qCH6*qCHc)
abbrev qCHl (a0:Int):=(Int.tmod (Int.tmod (qCH2 a0) qCH4) qCH6*qCHc)
abbrev qCHm (a0:Int):=(Int.tmod (Int.tmod (Zlw a0) qCH4) qCH6*qCHc)
abbrev qCHn (a0:Int):=(wr IntKind.u32 (Int.tdiv (Int.tmod (qCHe a0) qCH4) qCH6)*qCHc)
abbrev qCHp (a0:Int):=(Int.tmod (Int.tmod (qCHe a0) qCH4) qCH6*qCHc)
abbrev qCHq (a0:Int):=(Int.tmod (wr IntKind.u32 (Int.tdiv (Zlw a0) qCH4)) qCH6*qCHc)
abbrev qCHr (a0:Nat):=(↑a0:Int)
abbrev qCHs (a0:Int):=(wr IntKind.u32 (Int.tdiv (Int.tmod (qCHb a0) qCH4) qCH6)*qCHc)
abbrev qCHt (a0:Int):=(Int.tmod (wr IntKind.u32 (Int.tdiv (qCHe a0) qCH4)) qCH6*qCHc)
abbrev qCHu (a0:Int):=(wr IntKind.u32 (Int.tdiv (Int.tmod (qCH7 a0) qCH4) qCH6)*qCHc)
abbrev qCHv (a0:Int):=(↑(Lib.nDigits (Int.toNat (wr IntKind.u64 a0))):Int)
abbrev qCHw (a0:Int):=(Int.tmod (Zlw a0) qCH6*qCHc)
abbrev qCHx (a0:Int):=(Int.tmod (Int.tmod (qCHb a0) qCH4) qCH6*qCHc)
abbrev qCHy (a0:Int):=(Int.tmod (Int.tmod (qCH7 a0) qCH4) qCH6*qCHc)
abbrev qCHz (a0:Int):=(↑(Lib.nDigits (Int.toNat (qCH3 a0))):Int)
abbrev Zch (a0:Int):=(wr IntKind.u32 (qCHk a0)+qCHd)
abbrev Zci (a0:Int):=(wr IntKind.u32 (qCHf a0)+qCHd)
abbrev Zcj (a0:Int):=(wr IntKind.u32 (qCHg a0)+qCHd)
abbrev Zck (a0:Int):=(wr IntKind.u32 (qCH9 a0)+qCHd)
abbrev Zcl (a0:Int):=(wr IntKind.u32 (qCHl a0)+qCHd)
abbrev Zcm (a0:Int):=(wr IntKind.u32 (qCHh a0)+qCHd)
abbrev Zcn (a0:Int):=(wr IntKind.u32 (qCHi a0)+qCHd)
abbrev Zco (a0:Int):=(wr IntKind.u32 (qCHa a0)+qCHd)
abbrev Zdb (a0:Int):=(wr IntKind.u32 (qCHm a0)+qCHd)
abbrev Zdc (a0:Int):=(wr IntKind.u32 (qCHj a0)+qCHd)
abbrev Zdd (a0:Int):=(wr IntKind.u32 (qCHp a0)+qCHd)
abbrev Zde (a0:Int):=(wr IntKind.u32 (qCHn a0)+qCHd)
abbrev Zlx (a0:Int):=(Int.tmod (qCHb a0) qCH6*qCHc)
abbrev Zly (a0:Int):=(Int.tmod (qCHe a0) qCH6*qCHc)
abbrev Zlz (a0:Int):=(Int.tmod (qCH7 a0) qCH6*qCHc)
abbrev Zaw:=(48:Int)
abbrev X4:=(45:Int)
abbrev Zoe (a0:Int):=(wr IntKind.u32 (Zlx a0)+qCHd)
abbrev Zof (a0:Int):=(wr IntKind.u32 (Zly a0)+qCHd)
abbrev Zog (a0:Int):=(wr IntKind.u32 (Zlz a0)+qCHd)
abbrev Zoh (a0:Int):=(wr IntKind.u32 (qCHw a0)+qCHd)
abbrev Zoi (a0:Int):=(wr IntKind.u32 (qCHq a0)+qCHd)
abbrev Zoj (a0:Int):=(wr IntKind.u32 (qCHx a0)+qCHd)
abbrev Zok (a0:Int):=(wr IntKind.u32 (qCHs a0)+qCHd)
abbrev Zol (a0:Int):=(wr IntKind.u32 (qCHt a0)+qCHd)
abbrev Zom (a0:Int):=(wr IntKind.u32 (qCHy a0)+qCHd)
abbrev Zon (a0:Int):=(wr IntKind.u32 (qCHu a0)+qCHd)
abbrev Z75 (a0:Int):=(wr IntKind.u8 (wr IntKind.u32 (Zaw+wr IntKind.u32 (wr IntKind.u64 (Int.tdiv (wr IntKind.u64 a0) Zod)))))
abbrev Z76 (a0:Int):=(wr IntKind.u8 (wr IntKind.u32 (Zaw+wr IntKind.u32 (Int.tdiv (wr IntKind.u32 (Int.tdiv (Zlw a0) qCH4)) qCH6))))
abbrev Z77 (a0:Int):=(wr IntKind.u8 (wr IntKind.u32 (Zaw+wr IntKind.u32 (Int.tdiv (wr IntKind.u32 (Int.tdiv (qCHe a0) qCH4)) qCH6))))
abbrev Zv (a0:Int):=(a0<qCHo)
abbrev Z78 (a0:Int):=(wr IntKind.u8 (wr IntKind.u32 (Zaw+wr IntKind.u32 (wr IntKind.u64 (Int.tdiv (qCH3 a0) Zod)))))
abbrev Zoo (a0:Int):=(wr IntKind.u32 (Zch a0))
abbrev Zop (a0:Int):=(wr IntKind.u32 (Zci a0))
abbrev Zoq (a0:Int):=(wr IntKind.u32 (Zcj a0))
abbrev Zor (a0:Int):=(wr IntKind.u32 (Zck a0))
abbrev Zos (a0:Int):=(wr IntKind.u32 (Zcl a0))
abbrev Zot (a0:Int):=(wr IntKind.u32 (Zcm a0))
abbrev Zou (a0:Int):=(wr IntKind.u32 (Zcn a0))
abbrev Zov (a0:Int):=(wr IntKind.u32 (Zco a0))
abbrev Z79 (a0:Int) (b0:Nat) (c0:Nat) (d0:Nat) (e0:Nat) (f0:Nat) (g0:Nat) (h0:List Nat):=(decide (Zv a0)=true-> [Int.toNat X4%qCH8,Int.toNat (qCHr b0)%qCH8,Int.toNat (qCHr c0)%qCH8,Int.toNat (qCHr d0)%qCH8,Int.toNat (qCHr e0)%qCH8,Int.toNat (qCHr f0)%qCH8,Int.toNat (qCHr g0)%qCH8]=h0)
abbrev Zow (a0:Int):=(wr IntKind.u32 (qCHk a0))
abbrev Zox (a0:Int):=(wr IntKind.u32 (qCHf a0))
abbrev Zoy (a0:Int):=(wr IntKind.u32 (qCHg a0))
abbrev Zoz (a0:Int):=(wr IntKind.u32 (qCH9 a0))
abbrev Zo0 (a0:Int):=(wr IntKind.u32 (qCHl a0))
abbrev Zo1 (a0:Int):=(wr IntKind.u32 (qCHh a0))
abbrev Zo2 (a0:Int):=(wr IntKind.u32 (qCHi a0))
abbrev Zo3 (a0:Int):=(wr IntKind.u32 (qCHa a0))
abbrev Z8a (a0:Int):=(wr IntKind.u8 (wr IntKind.u32 (Zaw+wr IntKind.u32 (Int.tdiv (Zlw a0) qCH6))))
abbrev Z8b (a0:Int):=(wr IntKind.u8 (wr IntKind.u32 (Zaw+wr IntKind.u32 (Int.tdiv (Zlw a0) qCH4))))
abbrev Z8c (a0:Int):=(wr IntKind.u8 (wr IntKind.u32 (Zaw+wr IntKind.u32 (Int.tdiv (qCHb a0) qCH6))))
abbrev Z8d (a0:Int):=(wr IntKind.u8 (wr IntKind.u32 (Zaw+wr IntKind.u32 (Int.tdiv (qCHb a0) qCH4))))
abbrev Z8e (a0:Int):=(wr IntKind.u8 (wr IntKind.u32 (Zaw+wr IntKind.u32 (Int.tdiv (qCHe a0) qCH6))))
abbrev Z8f (a0:Int):=(wr IntKind.u8 (wr IntKind.u32 (Zaw+wr IntKind.u32 (Int.tdiv (qCHe a0) qCH4))))
abbrev Z8g (a0:Int):=(wr IntKind.u8 (wr IntKind.u32 (Zaw+wr IntKind.u32 (Int.tdiv (qCH7 a0) qCH6))))
abbrev Z8h (a0:Int):=(wr IntKind.u8 (wr IntKind.u32 (Zaw+wr IntKind.u32 (Int.tdiv (qCH7 a0) qCH4))))
abbrev Z8i (a0:Int):=(wr IntKind.u8 (wr IntKind.u32 (Zaw+wr IntKind.u32 (wr IntKind.u64 a0))))
abbrev Z8j (a0:Int) (b0:Nat) (c0:Nat) (d0:Nat) (e0:Nat) (f0:List Nat):=(decide (Zv a0)=true-> [Int.toNat X4%qCH8,Int.toNat (qCHr b0)%qCH8,Int.toNat (qCHr c0)%qCH8,Int.toNat (qCHr d0)%qCH8,Int.toNat (qCHr e0)%qCH8]=f0)
abbrev Z8k (a0:Int) (b0:Nat) (c0:Nat) (d0:Nat) (e0:Nat) (f0:Nat) (g0:Nat) (h0:List Nat):=(decide (Zv a0)=false-> [Int.toNat (qCHr b0)%qCH8,Int.toNat (qCHr c0)%qCH8,Int.toNat (qCHr d0)%qCH8,Int.toNat (qCHr e0)%qCH8,Int.toNat (qCHr f0)%qCH8,Int.toNat (qCHr g0)%qCH8]=h0)
theorem Zyg (n:Int) (v:List Nat):Zk E Fit (vc E Fit 2000) 14 [.int false .i64 n] hp0 0 (fun r=>ret E (patch hp0 0 r) r.v (.str false v))=(
 ∃(Q:Bool->Prop),((decide (qCHo<=n)=true->(decide (n<qCH6)=true->Q true)/\(decide (n<qCH6)=false->Q false))/\(decide (qCHo<=n)=false->Q false))/\(Q true->(qCHo<=n/\n+qCHd<=qCH6)/\∀(y:List Nat),y=List.map UInt8.toNat (Lib.itoa n)->y=v)/\(Q false->(decide (Zv n)=true->(qCHd<=wr IntKind.u64 (qCHo-wr IntKind.u64 n)/\wr IntKind.u64 (qCHo-wr IntKind.u64 n)+qCHd<=(10000000000000:Int))/\((qCHz n)=qCHd->(decide (Zv n)=true-> [Int.toNat X4%qCH8,Int.toNat (wr IntKind.u8 (wr IntKind.u32 (Zaw+wr IntKind.u32 (qCH3 n))))%qCH8]=v)/\(decide (Zv n)=false-> [Int.toNat (wr IntKind.u8 (wr IntKind.u32 (Zaw+wr IntKind.u32 (qCH3 n))))%qCH8]=v))/\((qCHz n)=qCHc->qCHo<=wr IntKind.u32 (Zoh n)/\wr IntKind.u32 (Zoh n)+qCHd<=qCH5/\∀(x:Nat),smT[Int.toNat (wr IntKind.u32 (Zoh n))]? =some x->qCHo<=wr IntKind.u32 (qCHw n)/\wr IntKind.u32 (qCHw n)+qCHd<=qCH5/\∀(x_1:Nat),smT[Int.toNat (wr IntKind.u32 (qCHw n))]? =some x_1->(decide (Zv n)=true-> [Int.toNat X4%qCH8,Int.toNat (qCHr x_1)%qCH8,Int.toNat (qCHr x)%qCH8]=v)/\(decide (Zv n)=false-> [Int.toNat (qCHr x_1)%qCH8,Int.toNat (qCHr x)%qCH8]=v))/\((qCHz n)=(3:Int)->qCHo<=wr IntKind.u32 (Zoh n)/\wr IntKind.u32 (Zoh n)+qCHd<=qCH5/\∀(x:Nat),smT[Int.toNat (wr IntKind.u32 (Zoh n))]? =some x->qCHo<=wr IntKind.u32 (qCHw n)/\wr IntKind.u32 (qCHw n)+qCHd<=qCH5/\∀(x_1:Nat),smT[Int.toNat (wr IntKind.u32 (qCHw n))]? =some x_1->(decide (Zv n)=true-> [Int.toNat X4%qCH8,Int.toNat (Z8a n)%qCH8,Int.toNat (qCHr x_1)%qCH8,Int.toNat (qCHr x)%qCH8]=v)/\(decide (Zv n)=false-> [Int.toNat (Z8a n)%qCH8,Int.toNat (qCHr x_1)%qCH8,Int.toNat (qCHr x)%qCH8]=v))/\((qCHz n)=(4:Int)->qCHo<=wr IntKind.u32 (Zdb n)/\wr IntKind.u32 (Zdb n)+qCHd<=qCH5/\∀(x:Nat),smT[Int.toNat (wr IntKind.u32 (Zdb n))]? =some x->qCHo<=wr IntKind.u32 (qCHm n)/\wr IntKind.u32 (qCHm n)+qCHd<=qCH5/\∀(x_1:Nat),smT[Int.toNat (wr IntKind.u32 (qCHm n))]? =some x_1->qCHo<=wr IntKind.u32 (Zdc n)/\wr IntKind.u32 (Zdc n)+qCHd<=qCH5/\∀(x_2:Nat),smT[Int.toNat (wr IntKind.u32 (Zdc n))]? =some x_2->qCHo<=wr IntKind.u32 (qCHj n)/\wr IntKind.u32 (qCHj n)+qCHd<=qCH5/\∀(x_3:Nat),smT[Int.toNat (wr IntKind.u32 (qCHj n))]? =some x_3->(Z8j n x_3 x_2 x_1 x v)/\(decide (Zv n)=false-> [Int.toNat (qCHr x_3)%qCH8,Int.toNat (qCHr x_2)%qCH8,Int.toNat (qCHr x_1)%qCH8,Int.toNat (qCHr x)%qCH8]=v))/\((qCHz n)=(5:Int)->qCHo<=wr IntKind.u32 (Zdb n)/\wr IntKind.u32 (Zdb n)+qCHd<=qCH5/\∀(x:Nat),smT[Int.toNat (wr IntKind.u32 (Zdb n))]? =some x->qCHo<=wr IntKind.u32 (qCHm n)/\wr IntKind.u32 (qCHm n)+qCHd<=qCH5/\∀(x_1:Nat),smT[Int.toNat (wr IntKind.u32 (qCHm n))]? =some x_1->qCHo<=wr IntKind.u32 (Zdc n)/\wr IntKind.u32 (Zdc n)+qCHd<=qCH5/\∀(x_2:Nat),smT[Int.toNat (wr IntKind.u32 (Zdc n))]? =some x_2->qCHo<=wr IntKind.u32 (qCHj n)/\wr IntKind.u32 (qCHj n)+qCHd<=qCH5/\∀(x_3:Nat),smT[Int.toNat (wr IntKind.u32 (qCHj n))]? =some x_3->(decide (Zv n)=true-> [Int.toNat X4%qCH8,Int.toNat (Z8b n)%qCH8,Int.toNat (qCHr x_3)%qCH8,Int.toNat (qCHr x_2)%qCH8,Int.toNat (qCHr x_1)%qCH8,Int.toNat (qCHr x)%qCH8]=v)/\(decide (Zv n)=false-> [Int.toNat (Z8b n)%qCH8,Int.toNat (qCHr x_3)%qCH8,Int.toNat (qCHr x_2)%qCH8,Int.toNat (qCHr x_1)%qCH8,Int.toNat (qCHr x)%qCH8]=v))/\((qCHz n)=(6:Int)->qCHo<=wr IntKind.u32 (Zdb n)/\wr IntKind.u32 (Zdb n)+qCHd<=qCH5/\∀(x:Nat),smT[Int.toNat (wr IntKind.u32 (Zdb n))]? =some x->qCHo<=wr IntKind.u32 (qCHm n)/\wr IntKind.u32 (qCHm n)+qCHd<=qCH5/\∀(x_1:Nat),smT[Int.toNat (wr IntKind.u32 (qCHm n))]? =some x_1->qCHo<=wr IntKind.u32 (Zdc n)/\wr IntKind.u32 (Zdc n)+qCHd<=qCH5/\∀(x_2:Nat),smT[Int.toNat (wr IntKind.u32
(Zdc n))]? =some x_2->qCHo<=wr IntKind.u32 (qCHj n)/\wr IntKind.u32 (qCHj n)+qCHd<=qCH5/\∀(x_3:Nat),smT[Int.toNat (wr IntKind.u32 (qCHj n))]? =some x_3->qCHo<=wr IntKind.u32 (Zoi n)/\wr IntKind.u32 (Zoi n)+qCHd<=qCH5/\∀(x_4:Nat),smT[Int.toNat (wr IntKind.u32 (Zoi n))]? =some x_4->qCHo<=wr IntKind.u32 (qCHq n)/\wr IntKind.u32 (qCHq n)+qCHd<=qCH5/\∀(x_5:Nat),smT[Int.toNat (wr IntKind.u32 (qCHq n))]? =some x_5->(Z79 n x_5 x_4 x_3 x_2 x_1 x v)/\(Z8k n x_5 x_4 x_3 x_2 x_1 x v))/\((qCHz n)=(7:Int)->qCHo<=wr IntKind.u32 (Zdb n)/\wr IntKind.u32 (Zdb n)+qCHd<=qCH5/\∀(x:Nat),smT[Int.toNat (wr IntKind.u32 (Zdb n))]? =some x->qCHo<=wr IntKind.u32 (qCHm n)/\wr IntKind.u32 (qCHm n)+qCHd<=qCH5/\∀(x_1:Nat),smT[Int.toNat (wr IntKind.u32 (qCHm n))]? =some x_1->qCHo<=wr IntKind.u32 (Zdc n)/\wr IntKind.u32 (Zdc n)+qCHd<=qCH5/\∀(x_2:Nat),smT[Int.toNat (wr IntKind.u32 (Zdc n))]? =some x_2->qCHo<=wr IntKind.u32 (qCHj n)/\wr IntKind.u32 (qCHj n)+qCHd<=qCH5/\∀(x_3:Nat),smT[Int.toNat (wr IntKind.u32 (qCHj n))]? =some x_3->qCHo<=wr IntKind.u32 (Zoi n)/\wr IntKind.u32 (Zoi n)+qCHd<=qCH5/\∀(x_4:Nat),smT[Int.toNat (wr IntKind.u32 (Zoi n))]? =some x_4->qCHo<=wr IntKind.u32 (qCHq n)/\wr IntKind.u32 (qCHq n)+qCHd<=qCH5/\∀(x_5:Nat),smT[Int.toNat (wr IntKind.u32 (qCHq n))]? =some x_5->(decide (Zv n)=true-> [Int.toNat X4%qCH8,Int.toNat (Z76 n)%qCH8,Int.toNat (qCHr x_5)%qCH8,Int.toNat (qCHr x_4)%qCH8,Int.toNat (qCHr x_3)%qCH8,Int.toNat (qCHr x_2)%qCH8,Int.toNat (qCHr x_1)%qCH8,Int.toNat (qCHr x)%qCH8]=v)/\(decide (Zv n)=false-> [Int.toNat (Z76 n)%qCH8,Int.toNat (qCHr x_5)%qCH8,Int.toNat (qCHr x_4)%qCH8,Int.toNat (qCHr x_3)%qCH8,Int.toNat (qCHr x_2)%qCH8,Int.toNat (qCHr x_1)%qCH8,Int.toNat (qCHr x)%qCH8]=v))/\((qCHz n)=(8:Int)->qCHo<=wr IntKind.u32 (Zch n)/\wr IntKind.u32 (Zch n)+qCHd<=qCH5/\∀(x:Nat),smT[Int.toNat (Zoo n)]? =some x->qCHo<=wr IntKind.u32 (qCHk n)/\wr IntKind.u32 (qCHk n)+qCHd<=qCH5/\∀(x_1:Nat),smT[Int.toNat (Zow n)]? =some x_1->qCHo<=wr IntKind.u32 (Zci n)/\wr IntKind.u32 (Zci n)+qCHd<=qCH5/\∀(x_2:Nat),smT[Int.toNat (Zop n)]? =some x_2->qCHo<=wr IntKind.u32 (qCHf n)/\wr IntKind.u32 (qCHf n)+qCHd<=qCH5/\∀(x_3:Nat),smT[Int.toNat (Zox n)]? =some x_3->qCHo<=wr IntKind.u32 (Zcj n)/\wr IntKind.u32 (Zcj n)+qCHd<=qCH5/\∀(x_4:Nat),smT[Int.toNat (Zoq n)]? =some x_4->qCHo<=wr IntKind.u32 (qCHg n)/\wr IntKind.u32 (qCHg n)+qCHd<=qCH5/\∀(x_5:Nat),smT[Int.toNat (Zoy n)]? =some x_5->qCHo<=wr IntKind.u32 (Zck n)/\wr IntKind.u32 (Zck n)+qCHd<=qCH5/\∀(x_6:Nat),smT[Int.toNat (Zor n)]? =some x_6->qCHo<=wr IntKind.u32 (qCH9 n)/\wr IntKind.u32 (qCH9 n)+qCHd<=qCH5/\∀(x_7:Nat),smT[Int.toNat (Zoz n)]? =some x_7->(decide (Zv n)=true-> [Int.toNat X4%qCH8,Int.toNat (qCHr x_7)%qCH8,Int.toNat (qCHr x_6)%qCH8,Int.toNat (qCHr x_5)%qCH8,Int.toNat (qCHr x_4)%qCH8,Int.toNat (qCHr x_3)%qCH8,Int.toNat (qCHr x_2)%qCH8,Int.toNat (qCHr x_1)%qCH8,Int.toNat (qCHr x)%qCH8]=v)/\(decide (Zv n)=false-> [Int.toNat (qCHr x_7)%qCH8,Int.toNat (qCHr x_6)%qCH8,Int.toNat (qCHr x_5)%qCH8,Int.toNat (qCHr x_4)%qCH8,Int.toNat (qCHr x_3)%qCH8,Int.toNat (qCHr x_2)%qCH8,Int.toNat (qCHr x_1)%qCH8,Int.toNat (qCHr x)%qCH8]=v))/\((qCHz n)=(9:Int)->qCHo<=wr IntKind.u32 (Zch n)/\wr IntKind.u32 (Zch n)+qCHd<=qCH5/\∀(x:Nat),smT[Int.toNat (Zoo n)]? =some x->qCHo<=wr IntKind.u32 (qCHk n)/\wr IntKind.u32 (qCHk n)+qCHd<=qCH5/\∀(x_1:Nat),smT[Int.toNat (Zow n)]? =some x_1->qCHo<=wr IntKind.u32 (Zci n)/\wr IntKind.u32 (Zci n)+qCHd<=qCH5/\∀(x_2:Nat),smT[Int.toNat (Zop n)]? =some x_2->qCHo<=wr IntKind.u32 (qCHf n)/\wr IntKind.u32 (qCHf n)+qCHd<=qCH5/\∀(x_3:
Nat),smT[Int.toNat (Zox n)]? =some x_3->qCHo<=wr IntKind.u32 (Zcj n)/\wr IntKind.u32 (Zcj n)+qCHd<=qCH5/\∀(x_4:Nat),smT[Int.toNat (Zoq n)]? =some x_4->qCHo<=wr IntKind.u32 (qCHg n)/\wr IntKind.u32 (qCHg n)+qCHd<=qCH5/\∀(x_5:Nat),smT[Int.toNat (Zoy n)]? =some x_5->qCHo<=wr IntKind.u32 (Zck n)/\wr IntKind.u32 (Zck n)+qCHd<=qCH5/\∀(x_6:Nat),smT[Int.toNat (Zor n)]? =some x_6->qCHo<=wr IntKind.u32 (qCH9 n)/\wr IntKind.u32 (qCH9 n)+qCHd<=qCH5/\∀(x_7:Nat),smT[Int.toNat (Zoz n)]? =some x_7->(decide (Zv n)=true-> [Int.toNat X4%qCH8,Int.toNat (Z78 n)%qCH8,Int.toNat (qCHr x_7)%qCH8,Int.toNat (qCHr x_6)%qCH8,Int.toNat (qCHr x_5)%qCH8,Int.toNat (qCHr x_4)%qCH8,Int.toNat (qCHr x_3)%qCH8,Int.toNat (qCHr x_2)%qCH8,Int.toNat (qCHr x_1)%qCH8,Int.toNat (qCHr x)%qCH8]=v)/\(decide (Zv n)=false-> [Int.toNat (Z78 n)%qCH8,Int.toNat (qCHr x_7)%qCH8,Int.toNat (qCHr x_6)%qCH8,Int.toNat (qCHr x_5)%qCH8,Int.toNat (qCHr x_4)%qCH8,Int.toNat (qCHr x_3)%qCH8,Int.toNat (qCHr x_2)%qCH8,Int.toNat (qCHr x_1)%qCH8,Int.toNat (qCHr x)%qCH8]=v))/\((qCHz n)=(10:Int)->qCHo<=wr IntKind.u32 (Zch n)/\wr IntKind.u32 (Zch n)+qCHd<=qCH5/\∀(x:Nat),smT[Int.toNat (Zoo n)]? =some x->qCHo<=wr IntKind.u32 (qCHk n)/\wr IntKind.u32 (qCHk n)+qCHd<=qCH5/\∀(x_1:Nat),smT[Int.toNat (Zow n)]? =some x_1->qCHo<=wr IntKind.u32 (Zci n)/\wr IntKind.u32 (Zci n)+qCHd<=qCH5/\∀(x_2:Nat),smT[Int.toNat (Zop n)]? =some x_2->qCHo<=wr IntKind.u32 (qCHf n)/\wr IntKind.u32 (qCHf n)+qCHd<=qCH5/\∀(x_3:Nat),smT[Int.toNat (Zox n)]? =some x_3->qCHo<=wr IntKind.u32 (Zcj n)/\wr IntKind.u32 (Zcj n)+qCHd<=qCH5/\∀(x_4:Nat),smT[Int.toNat (Zoq n)]? =some x_4->qCHo<=wr IntKind.u32 (qCHg n)/\wr IntKind.u32 (qCHg n)+qCHd<=qCH5/\∀(x_5:Nat),smT[Int.toNat (Zoy n)]? =some x_5->qCHo<=wr IntKind.u32 (Zck n)/\wr IntKind.u32 (Zck n)+qCHd<=qCH5/\∀(x_6:Nat),smT[Int.toNat (Zor n)]? =some x_6->qCHo<=wr IntKind.u32 (qCH9 n)/\wr IntKind.u32 (qCH9 n)+qCHd<=qCH5/\∀(x_7:Nat),smT[Int.toNat (Zoz n)]? =some x_7->qCHo<=wr IntKind.u32 (Zoe n)/\wr IntKind.u32 (Zoe n)+qCHd<=qCH5/\∀(x_8:Nat),smT[Int.toNat (wr IntKind.u32 (Zoe n))]? =some x_8->qCHo<=wr IntKind.u32 (Zlx n)/\wr IntKind.u32 (Zlx n)+qCHd<=qCH5/\∀(x_9:Nat),smT[Int.toNat (wr IntKind.u32 (Zlx n))]? =some x_9->(decide (Zv n)=true-> [Int.toNat X4%qCH8,Int.toNat (qCHr x_9)%qCH8,Int.toNat (qCHr x_8)%qCH8,Int.toNat (qCHr x_7)%qCH8,Int.toNat (qCHr x_6)%qCH8,Int.toNat (qCHr x_5)%qCH8,Int.toNat (qCHr x_4)%qCH8,Int.toNat (qCHr x_3)%qCH8,Int.toNat (qCHr x_2)%qCH8,Int.toNat (qCHr x_1)%qCH8,Int.toNat (qCHr x)%qCH8]=v)/\(decide (Zv n)=false-> [Int.toNat (qCHr x_9)%qCH8,Int.toNat (qCHr x_8)%qCH8,Int.toNat (qCHr x_7)%qCH8,Int.toNat (qCHr x_6)%qCH8,Int.toNat (qCHr x_5)%qCH8,Int.toNat (qCHr x_4)%qCH8,Int.toNat (qCHr x_3)%qCH8,Int.toNat (qCHr x_2)%qCH8,Int.toNat (qCHr x_1)%qCH8,Int.toNat (qCHr x)%qCH8]=v))/\((qCHz n)=(11:Int)->qCHo<=wr IntKind.u32 (Zch n)/\wr IntKind.u32 (Zch n)+qCHd<=qCH5/\∀(x:Nat),smT[Int.toNat (Zoo n)]? =some x->qCHo<=wr IntKind.u32 (qCHk n)/\wr IntKind.u32 (qCHk n)+qCHd<=qCH5/\∀(x_1:Nat),smT[Int.toNat (Zow n)]? =some x_1->qCHo<=wr IntKind.u32 (Zci n)/\wr IntKind.u32 (Zci n)+qCHd<=qCH5/\∀(x_2:Nat),smT[Int.toNat (Zop n)]? =some x_2->qCHo<=wr IntKind.u32 (qCHf n)/\wr IntKind.u32 (qCHf n)+qCHd<=qCH5/\∀(x_3:Nat),smT[Int.toNat (Zox n)]? =some x_3->qCHo<=wr IntKind.u32 (Zcj n)/\wr IntKind.u32 (Zcj n)+qCHd<=qCH5/\∀(x_4:Nat),smT[Int.toNat (Zoq n)]? =some x_4->qCHo<=wr IntKind.u32 (qCHg n)/\wr IntKind.u32 (qCHg n)+qCHd<=qCH5/\∀(x_5:Nat),smT[Int.toNat (Zoy n)]? =some x_5->qCHo<=wr IntKind.u32 (Zck n)/\
wr IntKind.u32 (Zck n)+qCHd<=qCH5/\∀(x_6:Nat),smT[Int.toNat (Zor n)]? =some x_6->qCHo<=wr IntKind.u32 (qCH9 n)/\wr IntKind.u32 (qCH9 n)+qCHd<=qCH5/\∀(x_7:Nat),smT[Int.toNat (Zoz n)]? =some x_7->qCHo<=wr IntKind.u32 (Zoe n)/\wr IntKind.u32 (Zoe n)+qCHd<=qCH5/\∀(x_8:Nat),smT[Int.toNat (wr IntKind.u32 (Zoe n))]? =some x_8->qCHo<=wr IntKind.u32 (Zlx n)/\wr IntKind.u32 (Zlx n)+qCHd<=qCH5/\∀(x_9:Nat),smT[Int.toNat (wr IntKind.u32 (Zlx n))]? =some x_9->(decide (Zv n)=true-> [Int.toNat X4%qCH8,Int.toNat (Z8c n)%qCH8,Int.toNat (qCHr x_9)%qCH8,Int.toNat (qCHr x_8)%qCH8,Int.toNat (qCHr x_7)%qCH8,Int.toNat (qCHr x_6)%qCH8,Int.toNat (qCHr x_5)%qCH8,Int.toNat (qCHr x_4)%qCH8,Int.toNat (qCHr x_3)%qCH8,Int.toNat (qCHr x_2)%qCH8,Int.toNat (qCHr x_1)%qCH8,Int.toNat (qCHr x)%qCH8]=v)/\(decide (Zv n)=false-> [Int.toNat (Z8c n)%qCH8,Int.toNat (qCHr x_9)%qCH8,Int.toNat (qCHr x_8)%qCH8,Int.toNat (qCHr x_7)%qCH8,Int.toNat (qCHr x_6)%qCH8,Int.toNat (qCHr x_5)%qCH8,Int.toNat (qCHr x_4)%qCH8,Int.toNat (qCHr x_3)%qCH8,Int.toNat (qCHr x_2)%qCH8,Int.toNat (qCHr x_1)%qCH8,Int.toNat (qCHr x)%qCH8]=v))/\((qCHz n)=(12:Int)->qCHo<=wr IntKind.u32 (Zch n)/\wr IntKind.u32 (Zch n)+qCHd<=qCH5/\∀(x:Nat),smT[Int.toNat (Zoo n)]? =some x->qCHo<=wr IntKind.u32 (qCHk n)/\wr IntKind.u32 (qCHk n)+qCHd<=qCH5/\∀(x_1:Nat),smT[Int.toNat (Zow n)]? =some x_1->qCHo<=wr IntKind.u32 (Zci n)/\wr IntKind.u32 (Zci n)+qCHd<=qCH5/\∀(x_2:Nat),smT[Int.toNat (Zop n)]? =some x_2->qCHo<=wr IntKind.u32 (qCHf n)/\wr IntKind.u32 (qCHf n)+qCHd<=qCH5/\∀(x_3:Nat),smT[Int.toNat (Zox n)]? =some x_3->qCHo<=wr IntKind.u32 (Zcj n)/\wr IntKind.u32 (Zcj n)+qCHd<=qCH5/\∀(x_4:Nat),smT[Int.toNat (Zoq n)]? =some x_4->qCHo<=wr IntKind.u32 (qCHg n)/\wr IntKind.u32 (qCHg n)+qCHd<=qCH5/\∀(x_5:Nat),smT[Int.toNat (Zoy n)]? =some x_5->qCHo<=wr IntKind.u32 (Zck n)/\wr IntKind.u32 (Zck n)+qCHd<=qCH5/\∀(x_6:Nat),smT[Int.toNat (Zor n)]? =some x_6->qCHo<=wr IntKind.u32 (qCH9 n)/\wr IntKind.u32 (qCH9 n)+qCHd<=qCH5/\∀(x_7:Nat),smT[Int.toNat (Zoz n)]? =some x_7->qCHo<=wr IntKind.u32 (Zoj n)/\wr IntKind.u32 (Zoj n)+qCHd<=qCH5/\∀(x_8:Nat),smT[Int.toNat (wr IntKind.u32 (Zoj n))]? =some x_8->qCHo<=wr IntKind.u32 (qCHx n)/\wr IntKind.u32 (qCHx n)+qCHd<=qCH5/\∀(x_9:Nat),smT[Int.toNat (wr IntKind.u32 (qCHx n))]? =some x_9->qCHo<=wr IntKind.u32 (Zok n)/\wr IntKind.u32 (Zok n)+qCHd<=qCH5/\∀(x_10:Nat),smT[Int.toNat (wr IntKind.u32 (Zok n))]? =some x_10->qCHo<=wr IntKind.u32 (qCHs n)/\wr IntKind.u32 (qCHs n)+qCHd<=qCH5/\∀(x_11:Nat),smT[Int.toNat (wr IntKind.u32 (qCHs n))]? =some x_11->(decide (Zv n)=true-> [Int.toNat X4%qCH8,Int.toNat (qCHr x_11)%qCH8,Int.toNat (qCHr x_10)%qCH8,Int.toNat (qCHr x_9)%qCH8,Int.toNat (qCHr x_8)%qCH8,Int.toNat (qCHr x_7)%qCH8,Int.toNat (qCHr x_6)%qCH8,Int.toNat (qCHr x_5)%qCH8,Int.toNat (qCHr x_4)%qCH8,Int.toNat (qCHr x_3)%qCH8,Int.toNat (qCHr x_2)%qCH8,Int.toNat (qCHr x_1)%qCH8,Int.toNat (qCHr x)%qCH8]=v)/\(decide (Zv n)=false-> [Int.toNat (qCHr x_11)%qCH8,Int.toNat (qCHr x_10)%qCH8,Int.toNat (qCHr x_9)%qCH8,Int.toNat (qCHr x_8)%qCH8,Int.toNat (qCHr x_7)%qCH8,Int.toNat (qCHr x_6)%qCH8,Int.toNat (qCHr x_5)%qCH8,Int.toNat (qCHr x_4)%qCH8,Int.toNat (qCHr x_3)%qCH8,Int.toNat (qCHr x_2)%qCH8,Int.toNat (qCHr x_1)%qCH8,Int.toNat (qCHr x)%qCH8]=v))/\((qCHz n)=(13:Int)->qCHo<=wr IntKind.u32 (Zch n)/\wr IntKind.u32 (Zch n)+qCHd<=qCH5/\∀(x:Nat),smT[Int.toNat (Zoo n)]? =some x->qCHo<=wr IntKind.u32 (qCHk n)/\wr IntKind.u32 (qCHk n)+qCHd<=qCH5/\∀(x_1:Nat),smT[Int.toNat (Zow n)]? =some x_1->qCHo<=wr IntKind.u32 (Zci n)/\wr IntKind.u32 (Zci n)+
qCHd<=qCH5/\∀(x_2:Nat),smT[Int.toNat (Zop n)]? =some x_2->qCHo<=wr IntKind.u32 (qCHf n)/\wr IntKind.u32 (qCHf n)+qCHd<=qCH5/\∀(x_3:Nat),smT[Int.toNat (Zox n)]? =some x_3->qCHo<=wr IntKind.u32 (Zcj n)/\wr IntKind.u32 (Zcj n)+qCHd<=qCH5/\∀(x_4:Nat),smT[Int.toNat (Zoq n)]? =some x_4->qCHo<=wr IntKind.u32 (qCHg n)/\wr IntKind.u32 (qCHg n)+qCHd<=qCH5/\∀(x_5:Nat),smT[Int.toNat (Zoy n)]? =some x_5->qCHo<=wr IntKind.u32 (Zck n)/\wr IntKind.u32 (Zck n)+qCHd<=qCH5/\∀(x_6:Nat),smT[Int.toNat (Zor n)]? =some x_6->qCHo<=wr IntKind.u32 (qCH9 n)/\wr IntKind.u32 (qCH9 n)+qCHd<=qCH5/\∀(x_7:Nat),smT[Int.toNat (Zoz n)]? =some x_7->qCHo<=wr IntKind.u32 (Zoj n)/\wr IntKind.u32 (Zoj n)+qCHd<=qCH5/\∀(x_8:Nat),smT[Int.toNat (wr IntKind.u32 (Zoj n))]? =some x_8->qCHo<=wr IntKind.u32 (qCHx n)/\wr IntKind.u32 (qCHx n)+qCHd<=qCH5/\∀(x_9:Nat),smT[Int.toNat (wr IntKind.u32 (qCHx n))]? =some x_9->qCHo<=wr IntKind.u32 (Zok n)/\wr IntKind.u32 (Zok n)+qCHd<=qCH5/\∀(x_10:Nat),smT[Int.toNat (wr IntKind.u32 (Zok n))]? =some x_10->qCHo<=wr IntKind.u32 (qCHs n)/\wr IntKind.u32 (qCHs n)+qCHd<=qCH5/\∀(x_11:Nat),smT[Int.toNat (wr IntKind.u32 (qCHs n))]? =some x_11->(decide (Zv n)=true-> [Int.toNat X4%qCH8,Int.toNat (Z8d n)%qCH8,Int.toNat (qCHr x_11)%qCH8,Int.toNat (qCHr x_10)%qCH8,Int.toNat (qCHr x_9)%qCH8,Int.toNat (qCHr x_8)%qCH8,Int.toNat (qCHr x_7)%qCH8,Int.toNat (qCHr x_6)%qCH8,Int.toNat (qCHr x_5)%qCH8,Int.toNat (qCHr x_4)%qCH8,Int.toNat (qCHr x_3)%qCH8,Int.toNat (qCHr x_2)%qCH8,Int.toNat (qCHr x_1)%qCH8,Int.toNat (qCHr x)%qCH8]=v)/\(decide (Zv n)=false-> [Int.toNat (Z8d n)%qCH8,Int.toNat (qCHr x_11)%qCH8,Int.toNat (qCHr x_10)%qCH8,Int.toNat (qCHr x_9)%qCH8,Int.toNat (qCHr x_8)%qCH8,Int.toNat (qCHr x_7)%qCH8,Int.toNat (qCHr x_6)%qCH8,Int.toNat (qCHr x_5)%qCH8,Int.toNat (qCHr x_4)%qCH8,Int.toNat (qCHr x_3)%qCH8,Int.toNat (qCHr x_2)%qCH8,Int.toNat (qCHr x_1)%qCH8,Int.toNat (qCHr x)%qCH8]=v))/\True)/\(decide (Zv n)=false->(qCHd<=wr IntKind.u64 n/\wr IntKind.u64 n+qCHd<=(10000000000000:Int))/\((qCHv n)=qCHd->(decide (Zv n)=true-> [Int.toNat X4%qCH8,Int.toNat (Z8i n)%qCH8]=v)/\(decide (Zv n)=false-> [Int.toNat (Z8i n)%qCH8]=v))/\((qCHv n)=qCHc->qCHo<=wr IntKind.u32 (Zof n)/\wr IntKind.u32 (Zof n)+qCHd<=qCH5/\∀(x:Nat),smT[Int.toNat (wr IntKind.u32 (Zof n))]? =some x->qCHo<=wr IntKind.u32 (Zly n)/\wr IntKind.u32 (Zly n)+qCHd<=qCH5/\∀(x_1:Nat),smT[Int.toNat (wr IntKind.u32 (Zly n))]? =some x_1->(decide (Zv n)=true-> [Int.toNat X4%qCH8,Int.toNat (qCHr x_1)%qCH8,Int.toNat (qCHr x)%qCH8]=v)/\(decide (Zv n)=false-> [Int.toNat (qCHr x_1)%qCH8,Int.toNat (qCHr x)%qCH8]=v))/\((qCHv n)=(3:Int)->qCHo<=wr IntKind.u32 (Zof n)/\wr IntKind.u32 (Zof n)+qCHd<=qCH5/\∀(x:Nat),smT[Int.toNat (wr IntKind.u32 (Zof n))]? =some x->qCHo<=wr IntKind.u32 (Zly n)/\wr IntKind.u32 (Zly n)+qCHd<=qCH5/\∀(x_1:Nat),smT[Int.toNat (wr IntKind.u32 (Zly n))]? =some x_1->(decide (Zv n)=true-> [Int.toNat X4%qCH8,Int.toNat (Z8e n)%qCH8,Int.toNat (qCHr x_1)%qCH8,Int.toNat (qCHr x)%qCH8]=v)/\(decide (Zv n)=false-> [Int.toNat (Z8e n)%qCH8,Int.toNat (qCHr x_1)%qCH8,Int.toNat (qCHr x)%qCH8]=v))/\((qCHv n)=(4:Int)->qCHo<=wr IntKind.u32 (Zdd n)/\wr IntKind.u32 (Zdd n)+qCHd<=qCH5/\∀(x:Nat),smT[Int.toNat (wr IntKind.u32 (Zdd n))]? =some x->qCHo<=wr IntKind.u32 (qCHp n)/\wr IntKind.u32 (qCHp n)+qCHd<=qCH5/\∀(x_1:Nat),smT[Int.toNat (wr IntKind.u32 (qCHp n))]? =some x_1->qCHo<=wr IntKind.u32 (Zde n)/\wr IntKind.u32 (Zde n)+qCHd<=qCH5/\∀(x_2:Nat),smT[Int.toNat (wr IntKind.u32 (Zde n))]? =some x_2->qCHo<=wr IntKind.u32 (qCHn n)
/\wr IntKind.u32 (qCHn n)+qCHd<=qCH5/\∀(x_3:Nat),smT[Int.toNat (wr IntKind.u32 (qCHn n))]? =some x_3->(Z8j n x_3 x_2 x_1 x v)/\(decide (Zv n)=false-> [Int.toNat (qCHr x_3)%qCH8,Int.toNat (qCHr x_2)%qCH8,Int.toNat (qCHr x_1)%qCH8,Int.toNat (qCHr x)%qCH8]=v))/\((qCHv n)=(5:Int)->qCHo<=wr IntKind.u32 (Zdd n)/\wr IntKind.u32 (Zdd n)+qCHd<=qCH5/\∀(x:Nat),smT[Int.toNat (wr IntKind.u32 (Zdd n))]? =some x->qCHo<=wr IntKind.u32 (qCHp n)/\wr IntKind.u32 (qCHp n)+qCHd<=qCH5/\∀(x_1:Nat),smT[Int.toNat (wr IntKind.u32 (qCHp n))]? =some x_1->qCHo<=wr IntKind.u32 (Zde n)/\wr IntKind.u32 (Zde n)+qCHd<=qCH5/\∀(x_2:Nat),smT[Int.toNat (wr IntKind.u32 (Zde n))]? =some x_2->qCHo<=wr IntKind.u32 (qCHn n)/\wr IntKind.u32 (qCHn n)+qCHd<=qCH5/\∀(x_3:Nat),smT[Int.toNat (wr IntKind.u32 (qCHn n))]? =some x_3->(decide (Zv n)=true-> [Int.toNat X4%qCH8,Int.toNat (Z8f n)%qCH8,Int.toNat (qCHr x_3)%qCH8,Int.toNat (qCHr x_2)%qCH8,Int.toNat (qCHr x_1)%qCH8,Int.toNat (qCHr x)%qCH8]=v)/\(decide (Zv n)=false-> [Int.toNat (Z8f n)%qCH8,Int.toNat (qCHr x_3)%qCH8,Int.toNat (qCHr x_2)%qCH8,Int.toNat (qCHr x_1)%qCH8,Int.toNat (qCHr x)%qCH8]=v))/\((qCHv n)=(6:Int)->qCHo<=wr IntKind.u32 (Zdd n)/\wr IntKind.u32 (Zdd n)+qCHd<=qCH5/\∀(x:Nat),smT[Int.toNat (wr IntKind.u32 (Zdd n))]? =some x->qCHo<=wr IntKind.u32 (qCHp n)/\wr IntKind.u32 (qCHp n)+qCHd<=qCH5/\∀(x_1:Nat),smT[Int.toNat (wr IntKind.u32 (qCHp n))]? =some x_1->qCHo<=wr IntKind.u32 (Zde n)/\wr IntKind.u32 (Zde n)+qCHd<=qCH5/\∀(x_2:Nat),smT[Int.toNat (wr IntKind.u32 (Zde n))]? =some x_2->qCHo<=wr IntKind.u32 (qCHn n)/\wr IntKind.u32 (qCHn n)+qCHd<=qCH5/\∀(x_3:Nat),smT[Int.toNat (wr IntKind.u32 (qCHn n))]? =some x_3->qCHo<=wr IntKind.u32 (Zol n)/\wr IntKind.u32 (Zol n)+qCHd<=qCH5/\∀(x_4:Nat),smT[Int.toNat (wr IntKind.u32 (Zol n))]? =some x_4->qCHo<=wr IntKind.u32 (qCHt n)/\wr IntKind.u32 (qCHt n)+qCHd<=qCH5/\∀(x_5:Nat),smT[Int.toNat (wr IntKind.u32 (qCHt n))]? =some x_5->(Z79 n x_5 x_4 x_3 x_2 x_1 x v)/\(Z8k n x_5 x_4 x_3 x_2 x_1 x v))/\((qCHv n)=(7:Int)->qCHo<=wr IntKind.u32 (Zdd n)/\wr IntKind.u32 (Zdd n)+qCHd<=qCH5/\∀(x:Nat),smT[Int.toNat (wr IntKind.u32 (Zdd n))]? =some x->qCHo<=wr IntKind.u32 (qCHp n)/\wr IntKind.u32 (qCHp n)+qCHd<=qCH5/\∀(x_1:Nat),smT[Int.toNat (wr IntKind.u32 (qCHp n))]? =some x_1->qCHo<=wr IntKind.u32 (Zde n)/\wr IntKind.u32 (Zde n)+qCHd<=qCH5/\∀(x_2:Nat),smT[Int.toNat (wr IntKind.u32 (Zde n))]? =some x_2->qCHo<=wr IntKind.u32 (qCHn n)/\wr IntKind.u32 (qCHn n)+qCHd<=qCH5/\∀(x_3:Nat),smT[Int.toNat (wr IntKind.u32 (qCHn n))]? =some x_3->qCHo<=wr IntKind.u32 (Zol n)/\wr IntKind.u32 (Zol n)+qCHd<=qCH5/\∀(x_4:Nat),smT[Int.toNat (wr IntKind.u32 (Zol n))]? =some x_4->qCHo<=wr IntKind.u32 (qCHt n)/\wr IntKind.u32 (qCHt n)+qCHd<=qCH5/\∀(x_5:Nat),smT[Int.toNat (wr IntKind.u32 (qCHt n))]? =some x_5->(decide (Zv n)=true-> [Int.toNat X4%qCH8,Int.toNat (Z77 n)%qCH8,Int.toNat (qCHr x_5)%qCH8,Int.toNat (qCHr x_4)%qCH8,Int.toNat (qCHr x_3)%qCH8,Int.toNat (qCHr x_2)%qCH8,Int.toNat (qCHr x_1)%qCH8,Int.toNat (qCHr x)%qCH8]=v)/\(decide (Zv n)=false-> [Int.toNat (Z77 n)%qCH8,Int.toNat (qCHr x_5)%qCH8,Int.toNat (qCHr x_4)%qCH8,Int.toNat (qCHr x_3)%qCH8,Int.toNat (qCHr x_2)%qCH8,Int.toNat (qCHr x_1)%qCH8,Int.toNat (qCHr x)%qCH8]=v))/\((qCHv n)=(8:Int)->qCHo<=wr IntKind.u32 (Zcl n)/\wr IntKind.u32 (Zcl n)+qCHd<=qCH5/\∀(x:Nat),smT[Int.toNat (Zos n)]? =some x->qCHo<=wr IntKind.u32 (qCHl n)/\wr IntKind.u32 (qCHl n)+qCHd<=qCH5/\∀(x_1:Nat),smT[Int.toNat (Zo0 n)]? =some x_1->qCHo<=wr IntKind.u32 (Zcm n)/\wr IntKind.u32 (Zcm n)+qCHd<=qCH5/\∀(x_2:Nat),smT[Int.toNat (Zot
n)]? =some x_2->qCHo<=wr IntKind.u32 (qCHh n)/\wr IntKind.u32 (qCHh n)+qCHd<=qCH5/\∀(x_3:Nat),smT[Int.toNat (Zo1 n)]? =some x_3->qCHo<=wr IntKind.u32 (Zcn n)/\wr IntKind.u32 (Zcn n)+qCHd<=qCH5/\∀(x_4:Nat),smT[Int.toNat (Zou n)]? =some x_4->qCHo<=wr IntKind.u32 (qCHi n)/\wr IntKind.u32 (qCHi n)+qCHd<=qCH5/\∀(x_5:Nat),smT[Int.toNat (Zo2 n)]? =some x_5->qCHo<=wr IntKind.u32 (Zco n)/\wr IntKind.u32 (Zco n)+qCHd<=qCH5/\∀(x_6:Nat),smT[Int.toNat (Zov n)]? =some x_6->qCHo<=wr IntKind.u32 (qCHa n)/\wr IntKind.u32 (qCHa n)+qCHd<=qCH5/\∀(x_7:Nat),smT[Int.toNat (Zo3 n)]? =some x_7->(decide (Zv n)=true-> [Int.toNat X4%qCH8,Int.toNat (qCHr x_7)%qCH8,Int.toNat (qCHr x_6)%qCH8,Int.toNat (qCHr x_5)%qCH8,Int.toNat (qCHr x_4)%qCH8,Int.toNat (qCHr x_3)%qCH8,Int.toNat (qCHr x_2)%qCH8,Int.toNat (qCHr x_1)%qCH8,Int.toNat (qCHr x)%qCH8]=v)/\(decide (Zv n)=false-> [Int.toNat (qCHr x_7)%qCH8,Int.toNat (qCHr x_6)%qCH8,Int.toNat (qCHr x_5)%qCH8,Int.toNat (qCHr x_4)%qCH8,Int.toNat (qCHr x_3)%qCH8,Int.toNat (qCHr x_2)%qCH8,Int.toNat (qCHr x_1)%qCH8,Int.toNat (qCHr x)%qCH8]=v))/\((qCHv n)=(9:Int)->qCHo<=wr IntKind.u32 (Zcl n)/\wr IntKind.u32 (Zcl n)+qCHd<=qCH5/\∀(x:Nat),smT[Int.toNat (Zos n)]? =some x->qCHo<=wr IntKind.u32 (qCHl n)/\wr IntKind.u32 (qCHl n)+qCHd<=qCH5/\∀(x_1:Nat),smT[Int.toNat (Zo0 n)]? =some x_1->qCHo<=wr IntKind.u32 (Zcm n)/\wr IntKind.u32 (Zcm n)+qCHd<=qCH5/\∀(x_2:Nat),smT[Int.toNat (Zot n)]? =some x_2->qCHo<=wr IntKind.u32 (qCHh n)/\wr IntKind.u32 (qCHh n)+qCHd<=qCH5/\∀(x_3:Nat),smT[Int.toNat (Zo1 n)]? =some x_3->qCHo<=wr IntKind.u32 (Zcn n)/\wr IntKind.u32 (Zcn n)+qCHd<=qCH5/\∀(x_4:Nat),smT[Int.toNat (Zou n)]? =some x_4->qCHo<=wr IntKind.u32 (qCHi n)/\wr IntKind.u32 (qCHi n)+qCHd<=qCH5/\∀(x_5:Nat),smT[Int.toNat (Zo2 n)]? =some x_5->qCHo<=wr IntKind.u32 (Zco n)/\wr IntKind.u32 (Zco n)+qCHd<=qCH5/\∀(x_6:Nat),smT[Int.toNat (Zov n)]? =some x_6->qCHo<=wr IntKind.u32 (qCHa n)/\wr IntKind.u32 (qCHa n)+qCHd<=qCH5/\∀(x_7:Nat),smT[Int.toNat (Zo3 n)]? =some x_7->(decide (Zv n)=true-> [Int.toNat X4%qCH8,Int.toNat (Z75 n)%qCH8,Int.toNat (qCHr x_7)%qCH8,Int.toNat (qCHr x_6)%qCH8,Int.toNat (qCHr x_5)%qCH8,Int.toNat (qCHr x_4)%qCH8,Int.toNat (qCHr x_3)%qCH8,Int.toNat (qCHr x_2)%qCH8,Int.toNat (qCHr x_1)%qCH8,Int.toNat (qCHr x)%qCH8]=v)/\(decide (Zv n)=false-> [Int.toNat (Z75 n)%qCH8,Int.toNat (qCHr x_7)%qCH8,Int.toNat (qCHr x_6)%qCH8,Int.toNat (qCHr x_5)%qCH8,Int.toNat (qCHr x_4)%qCH8,Int.toNat (qCHr x_3)%qCH8,Int.toNat (qCHr x_2)%qCH8,Int.toNat (qCHr x_1)%qCH8,Int.toNat (qCHr x)%qCH8]=v))/\((qCHv n)=(10:Int)->qCHo<=wr IntKind.u32 (Zcl n)/\wr IntKind.u32 (Zcl n)+qCHd<=qCH5/\∀(x:Nat),smT[Int.toNat (Zos n)]? =some x->qCHo<=wr IntKind.u32 (qCHl n)/\wr IntKind.u32 (qCHl n)+qCHd<=qCH5/\∀(x_1:Nat),smT[Int.toNat (Zo0 n)]? =some x_1->qCHo<=wr IntKind.u32 (Zcm n)/\wr IntKind.u32 (Zcm n)+qCHd<=qCH5/\∀(x_2:Nat),smT[Int.toNat (Zot n)]? =some x_2->qCHo<=wr IntKind.u32 (qCHh n)/\wr IntKind.u32 (qCHh n)+qCHd<=qCH5/\∀(x_3:Nat),smT[Int.toNat (Zo1 n)]? =some x_3->qCHo<=wr IntKind.u32 (Zcn n)/\wr IntKind.u32 (Zcn n)+qCHd<=qCH5/\∀(x_4:Nat),smT[Int.toNat (Zou n)]? =some x_4->qCHo<=wr IntKind.u32 (qCHi n)/\wr IntKind.u32 (qCHi n)+qCHd<=qCH5/\∀(x_5:Nat),smT[Int.toNat (Zo2 n)]? =some x_5->qCHo<=wr IntKind.u32 (Zco n)/\wr IntKind.u32 (Zco n)+qCHd<=qCH5/\∀(x_6:Nat),smT[Int.toNat (Zov n)]? =some x_6->qCHo<=wr IntKind.u32 (qCHa n)/\wr IntKind.u32 (qCHa n)+qCHd<=qCH5/\∀(x_7:Nat),smT[Int.toNat (Zo3 n)]? =some x_7->qCHo<=wr IntKind.u32 (Zog n)/\wr IntKind.u32 (Zog n)+qCHd<=qCH5/\∀(x_8:
Nat),smT[Int.toNat (wr IntKind.u32 (Zog n))]? =some x_8->qCHo<=wr IntKind.u32 (Zlz n)/\wr IntKind.u32 (Zlz n)+qCHd<=qCH5/\∀(x_9:Nat),smT[Int.toNat (wr IntKind.u32 (Zlz n))]? =some x_9->(decide (Zv n)=true-> [Int.toNat X4%qCH8,Int.toNat (qCHr x_9)%qCH8,Int.toNat (qCHr x_8)%qCH8,Int.toNat (qCHr x_7)%qCH8,Int.toNat (qCHr x_6)%qCH8,Int.toNat (qCHr x_5)%qCH8,Int.toNat (qCHr x_4)%qCH8,Int.toNat (qCHr x_3)%qCH8,Int.toNat (qCHr x_2)%qCH8,Int.toNat (qCHr x_1)%qCH8,Int.toNat (qCHr x)%qCH8]=v)/\(decide (Zv n)=false-> [Int.toNat (qCHr x_9)%qCH8,Int.toNat (qCHr x_8)%qCH8,Int.toNat (qCHr x_7)%qCH8,Int.toNat (qCHr x_6)%qCH8,Int.toNat (qCHr x_5)%qCH8,Int.toNat (qCHr x_4)%qCH8,Int.toNat (qCHr x_3)%qCH8,Int.toNat (qCHr x_2)%qCH8,Int.toNat (qCHr x_1)%qCH8,Int.toNat (qCHr x)%qCH8]=v))/\((qCHv n)=(11:Int)->qCHo<=wr IntKind.u32 (Zcl n)/\wr IntKind.u32 (Zcl n)+qCHd<=qCH5/\∀(x:Nat),smT[Int.toNat (Zos n)]? =some x->qCHo<=wr IntKind.u32 (qCHl n)/\wr IntKind.u32 (qCHl n)+qCHd<=qCH5/\∀(x_1:Nat),smT[Int.toNat (Zo0 n)]? =some x_1->qCHo<=wr IntKind.u32 (Zcm n)/\wr IntKind.u32 (Zcm n)+qCHd<=qCH5/\∀(x_2:Nat),smT[Int.toNat (Zot n)]? =some x_2->qCHo<=wr IntKind.u32 (qCHh n)/\wr IntKind.u32 (qCHh n)+qCHd<=qCH5/\∀(x_3:Nat),smT[Int.toNat (Zo1 n)]? =some x_3->qCHo<=wr IntKind.u32 (Zcn n)/\wr IntKind.u32 (Zcn n)+qCHd<=qCH5/\∀(x_4:Nat),smT[Int.toNat (Zou n)]? =some x_4->qCHo<=wr IntKind.u32 (qCHi n)/\wr IntKind.u32 (qCHi n)+qCHd<=qCH5/\∀(x_5:Nat),smT[Int.toNat (Zo2 n)]? =some x_5->qCHo<=wr IntKind.u32 (Zco n)/\wr IntKind.u32 (Zco n)+qCHd<=qCH5/\∀(x_6:Nat),smT[Int.toNat (Zov n)]? =some x_6->qCHo<=wr IntKind.u32 (qCHa n)/\wr IntKind.u32 (qCHa n)+qCHd<=qCH5/\∀(x_7:Nat),smT[Int.toNat (Zo3 n)]? =some x_7->qCHo<=wr IntKind.u32 (Zog n)/\wr IntKind.u32 (Zog n)+qCHd<=qCH5/\∀(x_8:Nat),smT[Int.toNat (wr IntKind.u32 (Zog n))]? =some x_8->qCHo<=wr IntKind.u32 (Zlz n)/\wr IntKind.u32 (Zlz n)+qCHd<=qCH5/\∀(x_9:Nat),smT[Int.toNat (wr IntKind.u32 (Zlz n))]? =some x_9->(decide (Zv n)=true-> [Int.toNat X4%qCH8,Int.toNat (Z8g n)%qCH8,Int.toNat (qCHr x_9)%qCH8,Int.toNat (qCHr x_8)%qCH8,Int.toNat (qCHr x_7)%qCH8,Int.toNat (qCHr x_6)%qCH8,Int.toNat (qCHr x_5)%qCH8,Int.toNat (qCHr x_4)%qCH8,Int.toNat (qCHr x_3)%qCH8,Int.toNat (qCHr x_2)%qCH8,Int.toNat (qCHr x_1)%qCH8,Int.toNat (qCHr x)%qCH8]=v)/\(decide (Zv n)=false-> [Int.toNat (Z8g n)%qCH8,Int.toNat (qCHr x_9)%qCH8,Int.toNat (qCHr x_8)%qCH8,Int.toNat (qCHr x_7)%qCH8,Int.toNat (qCHr x_6)%qCH8,Int.toNat (qCHr x_5)%qCH8,Int.toNat (qCHr x_4)%qCH8,Int.toNat (qCHr x_3)%qCH8,Int.toNat (qCHr x_2)%qCH8,Int.toNat (qCHr x_1)%qCH8,Int.toNat (qCHr x)%qCH8]=v))/\((qCHv n)=(12:Int)->qCHo<=wr IntKind.u32 (Zcl n)/\wr IntKind.u32 (Zcl n)+qCHd<=qCH5/\∀(x:Nat),smT[Int.toNat (Zos n)]? =some x->qCHo<=wr IntKind.u32 (qCHl n)/\wr IntKind.u32 (qCHl n)+qCHd<=qCH5/\∀(x_1:Nat),smT[Int.toNat (Zo0 n)]? =some x_1->qCHo<=wr IntKind.u32 (Zcm n)/\wr IntKind.u32 (Zcm n)+qCHd<=qCH5/\∀(x_2:Nat),smT[Int.toNat (Zot n)]? =some x_2->qCHo<=wr IntKind.u32 (qCHh n)/\wr IntKind.u32 (qCHh n)+qCHd<=qCH5/\∀(x_3:Nat),smT[Int.toNat (Zo1 n)]? =some x_3->qCHo<=wr IntKind.u32 (Zcn n)/\wr IntKind.u32 (Zcn n)+qCHd<=qCH5/\∀(x_4:Nat),smT[Int.toNat (Zou n)]? =some x_4->qCHo<=wr IntKind.u32 (qCHi n)/\wr IntKind.u32 (qCHi n)+qCHd<=qCH5/\∀(x_5:Nat),smT[Int.toNat (Zo2 n)]? =some x_5->qCHo<=wr IntKind.u32 (Zco n)/\wr IntKind.u32 (Zco n)+qCHd<=qCH5/\∀(x_6:Nat),smT[Int.toNat (Zov n)]? =some x_6->qCHo<=wr IntKind.u32 (qCHa n)/\wr IntKind.u32 (qCHa n)+qCHd<=qCH5/\∀(x_7:Nat),smT[Int.toNat (Zo3 n)]? =some x_7->qCHo<=wr
IntKind.u32 (Zom n)/\wr IntKind.u32 (Zom n)+qCHd<=qCH5/\∀(x_8:Nat),smT[Int.toNat (wr IntKind.u32 (Zom n))]? =some x_8->qCHo<=wr IntKind.u32 (qCHy n)/\wr IntKind.u32 (qCHy n)+qCHd<=qCH5/\∀(x_9:Nat),smT[Int.toNat (wr IntKind.u32 (qCHy n))]? =some x_9->qCHo<=wr IntKind.u32 (Zon n)/\wr IntKind.u32 (Zon n)+qCHd<=qCH5/\∀(x_10:Nat),smT[Int.toNat (wr IntKind.u32 (Zon n))]? =some x_10->qCHo<=wr IntKind.u32 (qCHu n)/\wr IntKind.u32 (qCHu n)+qCHd<=qCH5/\∀(x_11:Nat),smT[Int.toNat (wr IntKind.u32 (qCHu n))]? =some x_11->(decide (Zv n)=true-> [Int.toNat X4%qCH8,Int.toNat (qCHr x_11)%qCH8,Int.toNat (qCHr x_10)%qCH8,Int.toNat (qCHr x_9)%qCH8,Int.toNat (qCHr x_8)%qCH8,Int.toNat (qCHr x_7)%qCH8,Int.toNat (qCHr x_6)%qCH8,Int.toNat (qCHr x_5)%qCH8,Int.toNat (qCHr x_4)%qCH8,Int.toNat (qCHr x_3)%qCH8,Int.toNat (qCHr x_2)%qCH8,Int.toNat (qCHr x_1)%qCH8,Int.toNat (qCHr x)%qCH8]=v)/\(decide (Zv n)=false-> [Int.toNat (qCHr x_11)%qCH8,Int.toNat (qCHr x_10)%qCH8,Int.toNat (qCHr x_9)%qCH8,Int.toNat (qCHr x_8)%qCH8,Int.toNat (qCHr x_7)%qCH8,Int.toNat (qCHr x_6)%qCH8,Int.toNat (qCHr x_5)%qCH8,Int.toNat (qCHr x_4)%qCH8,Int.toNat (qCHr x_3)%qCH8,Int.toNat (qCHr x_2)%qCH8,Int.toNat (qCHr x_1)%qCH8,Int.toNat (qCHr x)%qCH8]=v))/\((qCHv n)=(13:Int)->qCHo<=wr IntKind.u32 (Zcl n)/\wr IntKind.u32 (Zcl n)+qCHd<=qCH5/\∀(x:Nat),smT[Int.toNat (Zos n)]? =some x->qCHo<=wr IntKind.u32 (qCHl n)/\wr IntKind.u32 (qCHl n)+qCHd<=qCH5/\∀(x_1:Nat),smT[Int.toNat (Zo0 n)]? =some x_1->qCHo<=wr IntKind.u32 (Zcm n)/\wr IntKind.u32 (Zcm n)+qCHd<=qCH5/\∀(x_2:Nat),smT[Int.toNat (Zot n)]? =some x_2->qCHo<=wr IntKind.u32 (qCHh n)/\wr IntKind.u32 (qCHh n)+qCHd<=qCH5/\∀(x_3:Nat),smT[Int.toNat (Zo1 n)]? =some x_3->qCHo<=wr IntKind.u32 (Zcn n)/\wr IntKind.u32 (Zcn n)+qCHd<=qCH5/\∀(x_4:Nat),smT[Int.toNat (Zou n)]? =some x_4->qCHo<=wr IntKind.u32 (qCHi n)/\wr IntKind.u32 (qCHi n)+qCHd<=qCH5/\∀(x_5:Nat),smT[Int.toNat (Zo2 n)]? =some x_5->qCHo<=wr IntKind.u32 (Zco n)/\wr IntKind.u32 (Zco n)+qCHd<=qCH5/\∀(x_6:Nat),smT[Int.toNat (Zov n)]? =some x_6->qCHo<=wr IntKind.u32 (qCHa n)/\wr IntKind.u32 (qCHa n)+qCHd<=qCH5/\∀(x_7:Nat),smT[Int.toNat (Zo3 n)]? =some x_7->qCHo<=wr IntKind.u32 (Zom n)/\wr IntKind.u32 (Zom n)+qCHd<=qCH5/\∀(x_8:Nat),smT[Int.toNat (wr IntKind.u32 (Zom n))]? =some x_8->qCHo<=wr IntKind.u32 (qCHy n)/\wr IntKind.u32 (qCHy n)+qCHd<=qCH5/\∀(x_9:Nat),smT[Int.toNat (wr IntKind.u32 (qCHy n))]? =some x_9->qCHo<=wr IntKind.u32 (Zon n)/\wr IntKind.u32 (Zon n)+qCHd<=qCH5/\∀(x_10:Nat),smT[Int.toNat (wr IntKind.u32 (Zon n))]? =some x_10->qCHo<=wr IntKind.u32 (qCHu n)/\wr IntKind.u32 (qCHu n)+qCHd<=qCH5/\∀(x_11:Nat),smT[Int.toNat (wr IntKind.u32 (qCHu n))]? =some x_11->(decide (Zv n)=true-> [Int.toNat X4%qCH8,Int.toNat (Z8h n)%qCH8,Int.toNat (qCHr x_11)%qCH8,Int.toNat (qCHr x_10)%qCH8,Int.toNat (qCHr x_9)%qCH8,Int.toNat (qCHr x_8)%qCH8,Int.toNat (qCHr x_7)%qCH8,Int.toNat (qCHr x_6)%qCH8,Int.toNat (qCHr x_5)%qCH8,Int.toNat (qCHr x_4)%qCH8,Int.toNat (qCHr x_3)%qCH8,Int.toNat (qCHr x_2)%qCH8,Int.toNat (qCHr x_1)%qCH8,Int.toNat (qCHr x)%qCH8]=v)/\(decide (Zv n)=false-> [Int.toNat (Z8h n)%qCH8,Int.toNat (qCHr x_11)%qCH8,Int.toNat (qCHr x_10)%qCH8,Int.toNat (qCHr x_9)%qCH8,Int.toNat (qCHr x_8)%qCH8,Int.toNat (qCHr x_7)%qCH8,Int.toNat (qCHr x_6)%qCH8,Int.toNat (qCHr x_5)%qCH8,Int.toNat (qCHr x_4)%qCH8,Int.toNat (qCHr x_3)%qCH8,Int.toNat (qCHr x_2)%qCH8,Int.toNat (qCHr x_1)%qCH8,Int.toNat (qCHr x)%qCH8]=v))/\True))):=by kernel_rfl
end
section
open Go
theorem Ybj:∀(k u:Nat),u<10^(k+1)->Lib.nDigits u<=k+1
 |0,u,h=>by rw [Lib.nDigits_small (by simpa using h)];exact Nat.le_refl _
 |k+1,u,h=>by
  by_cases h1:u<10
  · rw [Lib.nDigits_small h1];omega
  · rw [Lib.nDigits_big h1]
    rw [Nat.pow_succ] at h
    have:=Ybj k (u/10) (by omega)
    omega
theorem Zyc {u:Int} {k:Res thy->Prop}:∀{l:List Int},ndK u k l->∀j∈l,(Lib.nDigits u.toNat:Int)=j->k (quiet [] (.int true .i64 j))
 | [],_,j,hj,_=>by cases hj
 |x::r,h,j,hj,e=>by
  rcases List.mem_cons.1 hj with rfl|hj
  · exact h.1 e
  · exact Zyc h.2 j hj e
theorem in13 (d:Nat) (h1:1<=d) (h2:d<=13):(d:Int)∈ [(1:Int),2,3,4,5,6,7,8,9,10,11,12,13]:=by
 have:d=1\/d=2\/d=3\/d=4\/d=5\/d=6\/d=7\/d=8\/d=9\/d=10\/d=11\/d=12\/d=13:=by omega
 rcases this with rfl|rfl|rfl|rfl|rfl|rfl|rfl|rfl|rfl|rfl|rfl|rfl|rfl<;>decide
theorem Ybk:SumOk E 115 Snd:=by
 have hS:SumOk E 115 (Ue (dA1 dU64) (fun x=>1<=x.1/\x.1<10000000000000) (fun x=>Lib.nDigits x.1.toNat) fun (y:Nat)=> .int true .i64 y):=Z7 E_ok (Zd rfl) fun x h=>by
  have:=Z74 x.1.toNat (by omega) (by omega)
  rw [show ((x.1.toNat:Nat):Int)=x.1 by omega] at this
  intro g w vals hI hd
  refine (this g w vals hI hd).mono ?_
  rintro en w' ⟨u,he,g',h1,h2,h3⟩
  cases h3
  exact ⟨_,he,g',h1,h2,.int _ _ _⟩
 refine ⟨hS.good,fun args h i k hD hk=> ?_⟩
 unfold Snd at hk
 split at hk
 case h_2=>exact hk.elim
 rename_i l u
 obtain ⟨⟨h1,h2⟩,hk⟩:=hk
 refine hS.ok _ h i k hD ⟨⟨h1,h2⟩,fun y hy=> ?_⟩
 subst hy
 have hn:=Ybj 12 u.toNat (by show u.toNat<10000000000000;omega)
 have hp:=Lib.nDigits_pos u.toNat
 refine Zyc hk _ (in13 _ hp hn) rfl
theorem Zyd:SumOk E 114 Z5n:=Z7 E_ok (Zd rfl) fun x h=>by
 have:=Ztv x.1.toNat (by omega)
 rw [show ((x.1.toNat:Nat):Int)=x.1 by omega] at this
 have e:Lib.itoa x.1=Lib.decDigits x.1.toNat:=by unfold Lib.itoa;rw [if_neg (by omega)]
 rw [e]
 exact this
theorem Ybl:FnsOk E Fit:=Zb (Zb F0_ok Ybk) Zyd
def smV (i:Nat):Nat:=if i%2=0 then 48+i/2/10 else 48+i/2%10
theorem Z70:∀i,i<200->smT[i]? =some (smV i):=by decide+kernel
theorem Z71:smT.length=200:=by decide+kernel
theorem Ybm {e:Int} {P:Nat->Prop} (h0:0<=e) (h1:e<200) (h:P (smV e.toNat)):(0:Int)<=e/\e+(1:Int)<=(↑(List.length smT):Int)/\∀(x:Nat),smT[Int.toNat e]? =some x->P x:=by
 refine ⟨h0,by rw [Z71];omega,fun x hx=> ?_⟩
 rw [Z70 _ (by omega)] at hx
 cases hx
 exact h
theorem smE {x:Int} (h0:0<=x) (h1:x<100):smV (x*2).toNat%(256:Nat)=48+x.toNat/10:=by
 have:smV (x*2).toNat=48+x.toNat/10:=by
  unfold smV
  rw [if_pos (by omega)]
  congr 2
  omega
 rw [this]
 omega
theorem smO {x:Int} (h0:0<=x) (h1:x<100):smV (x*2+1).toNat%(256:Nat)=48+x.toNat%10:=by
 have:smV (x*2+1).toNat=48+x.toNat%10:=by
  unfold smV
  rw [if_neg (by omega)]
  congr 2
  omega
 rw [this]
 omega
theorem wu64 (x:Int):wr .u64 x=x%18446744073709551616:=rfl
theorem wu32 (x:Int):wr .u32 x=x%4294967296:=rfl
theorem wu8 (x:Int):wr .u8 x=x%256:=rfl
def dgN (u j:Nat):Nat:=48+u/10^j%10
theorem Z2r (u k:Nat) (h:Lib.nDigits u=k):(Lib.decDigits u).map UInt8.toNat=(List.range k).map fun t=>dgN u (k-1-t):=by
 rw [Lib.decDigits_eq,List.map_map,h]
 refine List.map_congr_left fun t _=> ?_
 show (Lib.dg u (k-1-t)).toNat=_
 unfold Lib.dg dgN
 rw [UInt8.toNat_ofNat']
 omega
set_option maxHeartbeats 4000000 in
theorem Zye (u:Nat) (hu:u<10000000000000):PureC E 14 [.int false .i64 (u:Int)] (.str false (decN u)):=by
 refine Zc E_ok (Zi E_ok Ybl 2000) ?_
 rw [Zyg]; delta qCHo qCH6 qCHd Zv qCHz X4 qCH8 Zaw qCH3 qCHc Zoh qCH5 qCHw qCHr Z8a Zdb qCHm Zdc qCHj Z8j Z8b Zoi qCHq Z79 Z8k Z76 Zch Zoo qCHk Zow Zci Zop qCHf Zox Zcj Zoq qCHg Zoy Zck Zor qCH9 Zoz Z78 Zoe Zlx Z8c Zoj qCHx Zok qCHs Z8d qCHv Z8i Zof Zly Z8e Zdd qCHp Zde qCHn Z8f Zol qCHt Z77 Zcl Zos qCHl Zo0 Zcm Zot qCHh Zo1 Zcn Zou qCHi Zo2 Zco Zov qCHa Zo3 Z75 Zog Zlz Z8g Zom qCHy Zon qCHu Z8h qCH7 qCH4 Zod qCH2 qCHe qCHb qCH1 Zlw
 have hdec:decN (u:Int)=(Lib.decDigits u).map UInt8.toNat:=by
  unfold decN Lib.itoa
  rw [if_neg (by omega)]
  rfl
 by_cases hs:u<100
 · refine ⟨fun b=>b=true,⟨fun _=>⟨fun _=>rfl,fun h=> ?_⟩,fun h=> ?_⟩,fun _=>⟨⟨by omega,by omega⟩,fun y hy=>hy⟩,fun h=>by cases h⟩
   · exact absurd h (by simp;omega)
   · exact absurd h (by simp)
 refine ⟨fun b=>b=false,⟨fun _=>⟨fun h=> ?_,fun _=>rfl⟩,fun _=>rfl⟩,fun h=>(by cases h),fun _=>⟨fun h=> ?_,fun _=> ?_⟩⟩
 · exact absurd h (by simp;omega)
 · exact absurd h (by simp)
 have e64:wr .u64 (u:Int)=u:=by rw [wu64];omega
 have hneg:decide ((u:Int)<0)=false:=by simp
 simp only [e64,hneg,Bool.false_eq_true,false_implies,true_implies,true_and,Int.toNat_natCast,and_true]
 rw [hdec]
 have hp:=Lib.lt_pow_nDigits u
 refine ⟨⟨by omega,by omega⟩,?_⟩
 repeat' apply And.intro
 all_goals
  intro hnd
  have hnd:=Int.ofNat.inj hnd
  rw [Z2r u _ hnd]
  rw [hnd] at hp
  simp only [Nat.reducePow] at hp
  clear hnd hdec e64 hneg
  simp (disch:=omega) only [wu64,wu32,wu8,Int.tmod_eq_emod_of_nonneg,Int.tdiv_eq_ediv_of_nonneg]
  simp (disch:=omega) only [Int.emod_eq_of_lt]
  repeat' (first|(refine Ybm ?_ ?_ ?_)|omega)
  all_goals try simp only [List.range,List.range.loop,List.map_cons,List.map_nil,dgN,List.cons.injEq,and_true,Nat.reduceSub,Nat.reducePow]
  all_goals (repeat' apply And.intro)
  all_goals try simp (disch:=omega) only [smE,smO]
  all_goals first|trivial|omega
end
section
open Go.RowKit
section
variable {Y : Thy} {E : Eng Y}
def celS (E:Eng Y) (th:Y.Th) (st:Option (List (Y.dom th)×Nat)) (c:Nat):SV Y:=
 match st with
 |some p=> .sl c 0 p.1.length (E.w th) none
 |none=> .val (.slice none 0 0)
def hpP (E:Eng Y) (th:Y.Th) (st:Option (List (Y.dom th)×Nat)):Hp Y:=fun b=>
 match Nat.beq b 0 with
 |true=>some (.raw [celS E th st 1] 0 none)
 |false=>(match Nat.beq b 1 with
  |true=>(match st with|some p=>some (.rows th p.1 p.2)|none=>none)
  |false=>none)
def fzO {α:Type} (st:Option (α×Nat)):Nat:=match st with|some p=>p.2|none=>0
def mdO {α:Type} (st:Option (α×Nat)) (b c:Nat):List Nat:=match st with|some _=> [b,c]|none=> [b]
def prnR (E:Eng Y) (th:Y.Th) (st:Option (List (Y.dom th)×Nat)) (b c i:Nat) (l':List (Y.dom th)):Res Y:=
 ⟨.tup [],1,mdO st b c,fun x=>match Nat.beq x b with|true=>some (.raw [.sl i 0 l'.length (E.w th) none] 0 none)|false=>at1 i (some (.rows th l' (fzO st))) x,none⟩
def PrnC (E:Eng Y) (f:Nat) (th:Y.Th) (args:List (SV Y)) (st:Option (List (Y.dom th)×Nat)) (l':List (Y.dom th)):Prop:=
 ∀(b c:Nat) (h:Hp Y) (i:Nat) (tg:Option Y.Th),h b=some (.raw [celS E th st c] 0 tg)->(∀p,st=some p->h c=some (.rows th p.1 p.2)/\b≠c)->Un E f (.ptr b 0::args) h i (prnR E th st b c i l')
def prnK (E:Eng Y) (th:Y.Th) (st:Option (List (Y.dom th)×Nat)) (l':List (Y.dom th)) (r:Res Y):Prop:=
 match r.v,patch (hpP E th st) 2 r 0 with
 | .tup [],some (.raw [.sl c 0 n w none] 0 _)=>
  (match Nat.ble 1 c&&Nat.beq w (E.w th),patch (hpP E th st) 2 r c with
  |true,some (.rows th' L fz')=>Za8 L fun L=>L=l'/\n=l'.length/\fz'=fzO st
  |_,_=>False)
 |_,_=>False
theorem Yd4 (th:Y.Th) (st:Option (List (Y.dom th)×Nat)):hpP E th st 0=some (.raw [celS E th st 1] 0 none):=rfl
theorem U5 {th:Y.Th} {st:Option (List (Y.dom th)×Nat)} {x:Nat} {y:Blk Y} (h:hpP E th st x=some y):(x=0/\y= .raw [celS E th st 1] 0 none)\/(x=1/\∃p,st=some p/\y= .rows th p.1 p.2):=by
 match x,h with
 |0,h=>rw [Yd4] at h;cases h;exact .inl ⟨rfl,rfl⟩
 |1,h=>
  cases st with
  |none=>cases h
  |some p=>
   have h:some (Blk.rows th p.1 p.2:Blk Y)=some y:=h
   cases h
   exact .inr ⟨rfl,p,rfl,rfl⟩
 |x+2,h=>cases h
theorem Z87 (th:Y.Th) (st:Option (List (Y.dom th)×Nat)):DomLt (hpP E th st) 2:=fun b hb=>by
 obtain ⟨y,hy⟩:=Option.ne_none_iff_exists'.1 hb
 rcases U5 hy with ⟨rfl,_⟩|⟨rfl,_⟩<;>omega
def σP {α:Type} (st:Option α) (σ:Pl) (b c:Nat):Pl:=fun x=>
 match Nat.beq x 0 with
 |true=>σ b
 |false=>(match Nat.beq x 1 with
  |true=>(match st with|some _=>σ c|none=>none)
  |false=>none)
theorem σP_cases {α:Type} {st:Option α} {σ:Pl} {b c x:Nat} {q:Nat×Nat} (h:σP st σ b c x=some q):(x=0/\σ b=some q)\/(x=1/\(∃p,st=some p)/\σ c=some q):=by
 match x,h with
 |0,h=>exact .inl ⟨rfl,h⟩
 |1,h=>
  cases st with
  |none=>cases h
  |some p=>exact .inr ⟨rfl,⟨p,rfl⟩,h⟩
 |x+2,h=>cases h
theorem mdO_mem {α:Type} {st:Option (α×Nat)} {b c x:Nat}:x∈mdO st b c↔x=b\/(x=c/\∃p,st=some p):=by
 cases st with
 |none=>simp [mdO]
 |some p=>simp [mdO]
open Classical in
theorem Zd1 (hE:EngOk E) {call:Nat->List (SV Y)->Hp Y->Nat->(Res Y->Prop)->Prop} (hcall:Vf E call) {f:Nat} {th:Y.Th} {args:List (SV Y)} {st:Option (List (Y.dom th)×Nat)} {l':List (Y.dom th)} (ha:nidL 0 args=true)
 (hk:call f (.ptr 0 0::args) (hpP E th st) 2 (prnK E th st l')):PrnC E f th args st l':=by
 intro b c h i tg hb hc
 obtain ⟨r,hr,hR,htri⟩:=hcall f _ _ _ _ (Z87 th st) hk
 have hmods:∀x∈r.mods,x=0\/(x=1/\∃p,st=some p):=by
  intro x hx
  obtain ⟨y,hy⟩:=Option.ne_none_iff_exists'.1 (hR x hx)
  rcases U5 hy with ⟨h1,_⟩|⟨h1,p,h2,_⟩
  · exact .inl h1
  · exact .inr ⟨h1,p,h2⟩
 unfold prnK at hr
 split at hr
 case h_2=>exact hr.elim
 rename_i c' n' w' tg' hv hp0
 split at hr
 case h_2=>exact hr.elim
 rename_i th' L fz' hc1 hpc
 obtain ⟨e,hr⟩:=Xf hr
 subst e
 obtain ⟨rfl,rfl,rfl⟩:l'=L/\n'=l'.length/\fz'=fzO st:=⟨hr.1.symm,hr.2⟩
 rw [Bool.and_eq_true,Nat.ble_eq] at hc1
 obtain ⟨hc1,hw⟩:=hc1
 have hw:=Nat.eq_of_beq_eq_true hw
 subst hw
 replace htri:Un E f (.ptr 0 0::args) (hpP E th' st) 2 r:=htri.resolve_right (by rintro ⟨p,hp,_⟩;rw [hv] at hp;cases hp)
 intro B σ g W vals hh hrd hI hB hfree hd
 obtain rfl:hh=h:=funext fun b=>hrd b trivial
 obtain ⟨rb,zb,hσb,hbo⟩:=hI.blk b _ hb
 have hbn:hh b≠none:=by rw [hb];simp
 have F0:σP st σ b c 0=σ b:=rfl
 have F1:∀p,st=some p->σP st σ b c 1=σ c:=by rintro p rfl;rfl
 have bc:∀p,st=some p->b≠c:=fun p hp=>(hc p hp).2
 have cn:∀p,st=some p->hh c≠none:=fun p hp=>by rw [(hc p hp).1];simp
 have reg:∀p q z z',st=some p->σ b=some (q,z)->σ c=some (q,z')->False:=fun p q z z' hp h1 h2=>bc p hp (hI.inj b c q z z' hbn (cn p hp) h1 h2)
 have hI1:Inv E B (σP st σ b c) (hpP E th' st) g W:=by
  refine ⟨hI.gc,hI.gm,fun x y hx=> ?_,fun x x' r z z' h1 h2 h3 h4=> ?_,fun x r' z' hs=> ?_,fun x y r' z' o v hx hs hv=> ?_,fun x y r' z' hx hs=> ?_,hI.glob⟩
  · rcases U5 hx with ⟨rfl,rfl⟩|⟨rfl,p,hp,rfl⟩
    · refine ⟨rb,zb,hσb,?_⟩
      obtain ⟨arr,e,k1,k2,k3,k4,k5⟩:=hbo
      refine ⟨arr,e,k1,k2,k3,fun j sv hj=> ?_,trivial⟩
      cases j with
      |succ j=>cases hj
      |zero=>
       have hj:some (celS E th' st 1)=some sv:=hj
       cases hj
       obtain ⟨v,m1,m2⟩:=k4 0 _ (show ([celS E th' st c]:List (SV Y))[0]? =some _ from rfl)
       refine ⟨v,m1,?_⟩
       cases st with
       |none=>exact Zu hE m2 (fun b p hb=>by omega) (show nid 0 (celS E th' none 1)=true from rfl)
       |some p=>
        obtain ⟨r1,z1,c1,rfl,k1,k2,k3,k4,k5⟩:=Zaz (show Den E σ g (.sl c 0 p.1.length (E.w th') none) v from m2)
        exact .sl (E:=E) (b:=1) k1 k2 k3 k4 k5
    · obtain ⟨r1,z1,k1,arr,e,k2,k3,k4,k5,k6⟩:=hI.blk c _ (hc p hp).1
      refine ⟨r1,z1,(F1 p hp).trans k1,arr,e,k2,k3,k4,fun j sv hj=> ?_,k6⟩
      obtain ⟨v,m1,m2⟩:=k5 j sv hj
      have hn:nid 0 sv=true:=by
       obtain ⟨q,p,x,rfl,hp,hq,hs⟩:=Xi hE th' _ hj
       exact Zn (hE.encI _ _ _) hs
      exact ⟨v,m1,Zu hE m2 (fun b p hb=>by omega) hn⟩
  · rcases σP_cases h3 with ⟨rfl,h3⟩|⟨rfl,⟨p,hp⟩,h3⟩<;>rcases σP_cases h4 with ⟨rfl,h4⟩|⟨rfl,⟨p',hp'⟩,h4⟩
    · rfl
    · exact (reg p' _ _ _ hp' h3 h4).elim
    · exact (reg p _ _ _ hp h4 h3).elim
    · rfl
  · rcases σP_cases hs with ⟨rfl,hs⟩|⟨rfl,_,hs⟩
    · exact hI.base b _ _ hs
    · exact hI.base c _ _ hs
  · rcases U5 hx with ⟨rfl,rfl⟩|⟨rfl,p,hp,rfl⟩
    · have h2:o<0:=hI.fz b _ _ _ o v hb hs hv
      omega
    · rw [F1 p hp] at hs
      exact hI.fz c _ _ _ o v (hc p hp).1 hs hv
  · rcases U5 hx with ⟨rfl,rfl⟩|⟨rfl,p,hp,rfl⟩
    · exact hI.fm b _ _ _ hb hs
    · rw [F1 p hp] at hs
      exact hI.fm c _ _ _ (hc p hp).1 hs
 have hd1:DenL E (σP st σ b c) g (.ptr 0 0::args) vals.toList:=by
  refine ⟨by rw [<-hd.1];rfl,fun j sv u h1 h2=> ?_⟩
  cases j with
  |zero=>
   simp at h1;subst h1
   have:=hd.2 0 _ u rfl h2
   cases this
   rename_i hs
   exact .ptr (E:=E) (b:=0) hs
  |succ j=>
   have h1:args[j]? =some sv:=by simpa using h1
   exact Zu hE (hd.2 (j+1) sv u (by simpa using h1) h2) (fun b p hb=>by omega) (Zn ha h1)
 refine (htri B _ g W vals _ (fun _ _=>rfl) hI1 hB (fun x h1 h2=>by match x,h1 with|x+2,_=>rfl) hd1).mono ?_
 rintro en w' ⟨u,he,σ',g',hS,hI',hv'⟩
 have hs0:σ' 0=some (rb,zb):=hS.sig 0 _ hσb
 obtain ⟨r1,z1,k1⟩:∃r1 z1,σ' c'=some (r1,z1):=by
  obtain ⟨r1,z1,m1,_⟩:=hI'.blk c' _ hpc
  exact ⟨r1,z1,m1⟩
 have hc0:c'≠0:=by omega
 have hne0:patch (hpP E th' st) 2 r 0≠none:=by rw [hp0];simp
 have hnec:patch (hpP E th' st) 2 r c'≠none:=by rw [hpc];simp
 have hrb:r1≠rb:=by
  rintro rfl
  exact hc0 (hI'.inj c' 0 _ _ _ hnec hne0 k1 hs0)
 have hr1:W.heap.size<=r1\/∃z' p,st=some p/\σ c=some (r1,z'):=by
  cases hs1:σP st σ b c c' with
  |some q=>
   have:=hS.sig c' _ hs1
   rw [k1] at this;cases this
   rcases σP_cases hs1 with ⟨h0,_⟩|⟨_,⟨p,hp⟩,h2⟩
   · exact absurd h0 hc0
   · exact .inr ⟨z1,p,hp,h2⟩
  |none=>
   rcases hS.blk c' r1 z1 hs1 k1 with h1|⟨b',h1,z',h2⟩
   · exact .inl h1
   · rcases σP_cases h2 with ⟨rfl,h3⟩|⟨_,⟨p,hp⟩,h3⟩
     · rw [hσb] at h3;cases h3;exact absurd rfl hrb
     · exact .inr ⟨z',p,hp,h3⟩
 have hheap:∀q,q<W.heap.size->q≠rb->(∀p z,st=some p->σ c≠some (q,z))->w'.heap[q]? =W.heap[q]? :=by
  intro q hq hne hne2
  refine hS.heap q hq fun b' hb' z' hz'=> ?_
  rcases σP_cases hz' with ⟨rfl,h2⟩|⟨_,⟨p,hp⟩,h2⟩
  · rw [hσb] at h2;cases h2;exact hne rfl
  · exact hne2 p z' hp h2
 have hi:σ i=none:=hfree i (Nat.le_refl _) (by show i<i+1;omega)
 have hbi:b≠i:=by rintro rfl;rw [hσb] at hi;cases hi
 have hci:∀p,st=some p->c≠i:=by
  rintro p hp rfl
  obtain ⟨r2,z2,m1,_⟩:=hI.blk c _ (hc p hp).1
  rw [hi] at m1;cases m1
 have hpatch:∀x,patch hh i (prnR E th' st b c i l') x=if x=b then some (.raw [.sl i 0 l'.length (E.w th') none] 0 none) else if x=i then some (.rows th' l' (fzO st)) else if x=c/\(∃p,st=some p) then none else hh x:=by
  intro x
  rw [Zf]
  by_cases e1:x=b
  · subst e1
    rw [if_pos (.inl (mdO_mem.2 (.inl rfl))),if_pos rfl]
    show (match Nat.beq x x with|true=>_|false=>_)=_
    rw [Nat.beq_refl]
  · rw [if_neg e1]
    have hb1:Nat.beq x b=false:=by
     cases e:Nat.beq x b with
     |true=>exact absurd (Nat.eq_of_beq_eq_true e) e1
     |false=>rfl
    have hh1:(prnR E th' st b c i l').h x=at1 i (some (.rows th' l' (fzO st))) x:=by
     show (match Nat.beq x b with|true=>_|false=>_)=_
     rw [hb1]
    by_cases e2:x=i
    · subst e2
      rw [if_pos (.inr ⟨Nat.le_refl _,(by show x<x+1;omega)⟩),if_pos rfl,hh1]
      unfold at1
      rw [Nat.beq_refl]
    · rw [if_neg e2]
      have hat:at1 i (some (.rows th' l' (fzO st):Blk Y)) x=none:=by
       unfold at1
       cases e:Nat.beq x i with
       |true=>exact absurd (Nat.eq_of_beq_eq_true e) e2
       |false=>rfl
      by_cases e3:x=c/\∃p,st=some p
      · rw [if_pos e3,if_pos (.inl (mdO_mem.2 (.inr e3))),hh1,hat]
      · rw [if_neg e3,if_neg]
        rintro (k|k)
        · rcases mdO_mem.1 k with k|k
          · exact e1 k
          · exact e3 k
        · have k:i<=x/\x<i+1:=k
          omega
 have src:∀x y,patch hh i (prnR E th' st b c i l') x=some y->(x=b/\y= .raw [.sl i 0 l'.length (E.w th') none] 0 none)\/(x=i/\y= .rows th' l' (fzO st))\/(x≠i/\x≠b/\(∀p,st=some p->x≠c)/\hh x=some y):=by
  intro x y hy
  rw [hpatch] at hy
  split at hy
  · rename_i e
    cases hy
    exact .inl ⟨e,rfl⟩
  · rename_i e
    split at hy
    · rename_i e2
      cases hy
      exact .inr (.inl ⟨e2,rfl⟩)
    · rename_i e2
      split at hy
      · cases hy
      · rename_i e3
        exact .inr (.inr ⟨e2,e,fun p hp hx=>e3 ⟨hx,p,hp⟩,hy⟩)
 have sgi:(match Nat.beq i i with|true=>σ' c'|false=>σ i)=some (r1,z1):=by rw [Nat.beq_refl];exact k1
 have sgx:∀x,x≠i->(match Nat.beq x i with|true=>σ' c'|false=>σ x)=σ x:=by
  intro x hx
  cases e:Nat.beq x i with
  |true=>exact absurd (Nat.eq_of_beq_eq_true e) hx
  |false=>rfl
 have far:∀x y q z',x≠b->(∀p,st=some p->x≠c)->hh x=some y->σ x=some (q,z')->q<W.heap.size/\q≠rb/\(∀p z,st=some p->σ c≠some (q,z)):=by
  intro x y q z' hx hx2 hy hs
  have hxn:hh x≠none:=by rw [hy];simp
  refine ⟨(hI.base x q z' hs).2,?_,fun p z hp hq=>hx2 p hp (hI.inj x c _ _ _ hxn (cn p hp) hs hq)⟩
  rintro rfl
  exact hx (hI.inj x b _ _ _ hxn hbn hs hσb)
 have far1:∀x y q z',x≠b->(∀p,st=some p->x≠c)->hh x=some y->σ x=some (q,z')->q≠r1:=by
  rintro x y q z' hx hx2 hy hs rfl
  obtain ⟨m1,m2,m3⟩:=far x y q z' hx hx2 hy hs
  rcases hr1 with h1|⟨z2,p,hp,h1⟩
  · omega
  · exact m3 p z2 hp h1
 have far0:rb<W.heap.size:=(hI.base b _ _ hσb).2
 refine ⟨_,he,fun x=>match Nat.beq x i with|true=>σ' c'|false=>σ x,g',⟨fun x p hx=> ?_,fun x p hx=> ?_,hS.gle,fun q o v hv=> ?_,hS.gmnew,fun q hq hne=> ?_,hS.size,hS.os,hS.tape,hS.output,fun x q z' hx hx'=> ?_⟩,?_,?_⟩
 · exact (sgx x (fun e=>by rw [e,hi] at hx;cases hx)).trans hx
 · by_cases e:x=i
   · exact .inr (by show i<=x/\x<i+1;omega)
   · have hx:(match Nat.beq x i with|true=>σ' c'|false=>σ x)=some p:=hx
     rw [sgx x e] at hx
     exact .inl hx
 · rcases hS.gcnew q o v hv with h1|h1|⟨b',h1,z',h2⟩
   · exact .inl h1
   · exact .inr (.inl h1)
   · rcases σP_cases h2 with ⟨rfl,h2⟩|⟨_,hp,h2⟩
     · exact .inr (.inr ⟨b,mdO_mem.2 (.inl rfl),_,h2⟩)
     · exact .inr (.inr ⟨c,mdO_mem.2 (.inr ⟨rfl,hp⟩),_,h2⟩)
 · exact hheap q hq (fun e=>hne b (mdO_mem.2 (.inl rfl)) zb (by rw [hσb,e])) fun p z hp=>hne c (mdO_mem.2 (.inr ⟨rfl,p,hp⟩)) z
 · have hx':(match Nat.beq x i with|true=>σ' c'|false=>σ x)=some (q,z'):=hx'
   by_cases e:x=i
   · subst e
     rw [sgi] at hx';cases hx'
     rcases hr1 with h1|⟨z2,p,hp,h1⟩
     · exact .inl h1
     · exact .inr ⟨c,mdO_mem.2 (.inr ⟨rfl,p,hp⟩),z2,h1⟩
   · rw [sgx x e,hx] at hx';cases hx'
 · refine ⟨hI'.gc,hI'.gm,fun x y hx=> ?_,fun x x' q z1' z2' h1 h2 h3 h4=> ?_,fun x q z' hs=> ?_,fun x y q z' o v hx hs hv=> ?_,fun x y q z' hx hs=> ?_,hI'.glob⟩
   · rcases src x y hx with ⟨rfl,rfl⟩|⟨rfl,rfl⟩|⟨e1,e2,e3,e4⟩
     · refine ⟨rb,zb,(sgx x hbi).trans hσb,?_⟩
       obtain ⟨r2,z2,m1,arr,e,n1,n2,n3,n4,n5⟩:=hI'.blk 0 _ hp0
       rw [hs0] at m1;cases m1
       refine ⟨arr,e,n1,n2,n3,fun j sv hj=> ?_,trivial⟩
       cases j with
       |succ j=>cases hj
       |zero=>
        have hj:some (SV.sl i 0 l'.length (E.w th') none:SV Y)=some sv:=hj
        cases hj
        obtain ⟨v,q1,q2⟩:=n4 0 _ (show ([.sl c' 0 l'.length (E.w th') none]:List (SV Y))[0]? =some _ from rfl)
        refine ⟨v,q1,?_⟩
        obtain ⟨r3,z3,c3,rfl,u1,u2,u3,u4,u5⟩:=Zaz (show Den E σ' g' (.sl c' 0 l'.length (E.w th') none) v from q2)
        refine .sl (E:=E) (b:=i) (z:=z3) ?_ u2 u3 u4 u5
        show (match Nat.beq i i with|true=>σ' c'|false=>σ i)=_
        rw [Nat.beq_refl]
        exact u1
     · refine ⟨r1,z1,sgi,?_⟩
       obtain ⟨r2,z2,m1,m2⟩:=hI'.blk c' _ hpc
       rw [k1] at m1;cases m1
       obtain ⟨arr,e,m1,m3,m4,m5,m6⟩:=m2
       refine ⟨arr,e,m1,m3,m4,fun j sv hj=> ?_,m6⟩
       obtain ⟨v,n1,n2⟩:=m5 j sv hj
       have hn:nid 0 sv=true:=by
        obtain ⟨q,p,x,rfl,hp,hq,hs⟩:=Xi hE th' _ hj
        exact Zn (hE.encI _ _ _) hs
       exact ⟨v,n1,Zu hE n2 (fun b p hb=>by omega) hn⟩
     · obtain ⟨q,z',m1,m2⟩:=hI.blk x y e4
       obtain ⟨m3,m4,m5⟩:=far x y q z' e2 e3 e4 m1
       refine ⟨q,z',(sgx x e1).trans m1,?_⟩
       refine m2.mono (fun x p hx=> ?_) hS.gle (hheap q m3 m4 m5)
       show (match Nat.beq x i with|true=>σ' c'|false=>σ x)=some p
       rw [sgx x (fun e=>by rw [e,hi] at hx;cases hx)]
       exact hx
   · obtain ⟨y,hy⟩:=Option.ne_none_iff_exists'.1 h1
     obtain ⟨y',hy'⟩:=Option.ne_none_iff_exists'.1 h2
     rcases src x y hy with ⟨rfl,rfl⟩|⟨rfl,rfl⟩|⟨e1,e2,e3,e4⟩<;>rcases src x' y' hy' with ⟨rfl,rfl⟩|⟨rfl,rfl⟩|⟨d1,d2,d3,d4⟩
     · rfl
     · rw [sgx x hbi,hσb] at h3;cases h3
       rw [sgi] at h4;cases h4
       exact absurd rfl hrb
     · rw [sgx x hbi,hσb] at h3;cases h3
       rw [sgx x' d1] at h4
       exact absurd rfl (far x' y' _ _ d2 d3 d4 h4).2.1
     · rw [sgi] at h3;cases h3
       rw [sgx x' hbi,hσb] at h4;cases h4
       exact absurd rfl hrb
     · rfl
     · rw [sgi] at h3;cases h3
       rw [sgx x' d1] at h4
       exact absurd rfl (far1 x' y' _ _ d2 d3 d4 h4)
     · rw [sgx x' hbi,hσb] at h4;cases h4
       rw [sgx x e1] at h3
       exact absurd rfl (far x y _ _ e2 e3 e4 h3).2.1
     · rw [sgi] at h4;cases h4
       rw [sgx x e1] at h3
       exact absurd rfl (far1 x y _ _ e2 e3 e4 h3)
     · rw [sgx x e1] at h3
       rw [sgx x' d1] at h4
       exact hI.inj x x' q _ _ (by rw [e4];simp) (by rw [d4];simp) h3 h4
   · by_cases e:x=i
     · subst e
       rw [sgi] at hs;cases hs
       exact hI'.base c' _ _ k1
     · rw [sgx x e] at hs
       exact ⟨(hI.base x q z' hs).1,Nat.lt_of_lt_of_le (hI.base x q z' hs).2 hS.size⟩
   · rcases src x y hx with ⟨rfl,rfl⟩|⟨rfl,rfl⟩|⟨e1,e2,e3,e4⟩
     · rw [sgx x hbi,hσb] at hs;cases hs
       have h2:o<0:=hI'.fz 0 _ _ _ o v hp0 hs0 hv
       omega
     · rw [sgi] at hs;cases hs
       exact hI'.fz c' _ _ _ o v hpc k1 hv
     · rw [sgx x e1] at hs
       obtain ⟨m3,m4,m5⟩:=far x y q z' e2 e3 e4 hs
       rcases hS.gcnew q o v hv with h1|h1|⟨b',h1,z2,h2⟩
       · exact hI.fz x y q z' o v e4 hs h1
       · omega
       · rcases σP_cases h2 with ⟨rfl,h3⟩|⟨_,⟨p,hp⟩,h3⟩
         · rw [hσb] at h3;cases h3;exact absurd rfl m4
         · exact absurd h3 (m5 p z2 hp)
   · rcases src x y hx with ⟨rfl,rfl⟩|⟨rfl,rfl⟩|⟨e1,e2,e3,e4⟩
     · rw [sgx x hbi,hσb] at hs;cases hs
       exact hI'.fm 0 _ _ _ hp0 hs0
     · rw [sgi] at hs;cases hs
       exact hI'.fm c' _ _ _ hpc k1
     · rw [sgx x e1] at hs
       obtain ⟨m3,m4,m5⟩:=far x y q z' e2 e3 e4 hs
       cases hg':g'.obj q with
       |none=>rfl
       |some es=>
        rcases hS.gmnew q es hg' with k|k
        · rw [hI.fm x y q z' e4 hs] at k;cases k
        · omega
 · rw [hv] at hv'
   exact Zu hE hv' (fun b p hb=>by omega) (show nid 0 (SV.tup ([]:List (SV Y)))=true from rfl)
def sumB (E:Eng Y) (th:Y.Th) {α:Type} (d:DcL E α) (pre:List (Y.dom th)->α->Prop) (f:List (Y.dom th)->α->List (Y.dom th)):Sum Y:=fun args h i k=>
 match args with
 | .ptr b 0::rest=>
  (match h b,d.dec rest with
  |some (.raw [.sl c 0 len w none] 0 _),some x=>
   (match h c,Nat.beq w (E.w th)&& !(Nat.beq b c) with
   |some (.rows th' l fz),true=>Za8 l fun l=>(len=l.length/\fz<=l.length/\pre l x)/\∀l',l'=f l x->k (prnR E th (some (l,fz)) b c i l')
   |_,_=>False)
  |some (.raw [.val (.slice none 0 0)] 0 _),some x=>pre [] x/\∀l',l'=f [] x->k (prnR E th none b 0 i l')
  |_,_=>False)
 |_=>False
def Yd5 (E:Eng Y) (f:Nat) (th:Y.Th) (args:List (SV Y)) (F:List (Y.dom th)->List (Y.dom th)) (P:List (Y.dom th)->Prop):Prop:=
 (∀l fz,fz<=l.length->P l->PrnC E f th args (some (l,fz)) (F l))/\(P []->PrnC E f th args none (F []))
theorem PrnC.of_dec {α:Type} {d:DcL E α} {f:Nat} {th:Y.Th} {args:List (SV Y)} {x:α} {st:Option (List (Y.dom th)×Nat)} {l':List (Y.dom th)} (hd:d.dec args=some x) (h:PrnC E f th (d.enc x) st l'):PrnC E f th args st l':=by
 obtain ⟨k1,k2,k3⟩:=d.ok _ _ hd
 intro b c hp i tg h1 h2 B σ g w vals hh hrd hI hB hfree hden
 refine h b c hp i tg h1 h2 B σ g w vals hh hrd hI hB hfree ⟨?_,fun j sv' u h5 h6=> ?_⟩
 · rw [<-hden.1,List.length_cons,List.length_cons,k2]
 · cases j with
   |zero=>exact hden.2 0 sv' u h5 h6
   |succ j=>
    obtain ⟨sv,h7,h8⟩:=k3 σ g j sv' (by simpa using h5)
    exact h8 u (hden.2 (j+1) sv u (by simpa using h7) h6)
theorem Zjy (hE:EngOk E) {th:Y.Th} {α:Type} {f:Nat} (hg:FnGood E.P f) {d:DcL E α} {pre:List (Y.dom th)->α->Prop} {F:List (Y.dom th)->α->List (Y.dom th)} (hp:∀x,Yd5 E f th (d.enc x) (fun l=>F l x) (fun l=>pre l x)):SumOk E f (sumB E th d pre F):=by
 refine ⟨hg,fun args h i k hD hk=> ?_⟩
 unfold sumB at hk
 split at hk
 case h_2=>exact hk.elim
 rename_i b rest
 split at hk
 case h_3=>exact hk.elim
 · rename_i c len w tg x hb hx
   split at hk
   case h_2=>exact hk.elim
   rename_i th' l fz hc hw
   rw [Bool.and_eq_true,Bool.not_eq_true'] at hw
   obtain ⟨hw,hbc⟩:=hw
   have hw:=Nat.eq_of_beq_eq_true hw
   have hbc:=nb hbc
   obtain ⟨e,hk2⟩:=Xf hk
   clear hk
   subst e
   subst hw
   obtain ⟨⟨rfl,hfz,hpr⟩,hk3⟩:=hk2
   refine ⟨_,hk3 _ rfl,fun b' hb'=> ?_,.inl (PrnC.of_dec hx ((hp x).1 l fz hfz hpr) b c h i tg hb fun p hp=> ?_)⟩
   · rcases mdO_mem.1 (show b'∈mdO (some (l,fz)) b c from hb') with rfl|⟨rfl,_⟩
     · rw [hb];simp
     · rw [hc];simp
   · cases hp
     exact ⟨hc,hbc⟩
 · rename_i tg x hb hx
   obtain ⟨hpr,hk3⟩:=hk
   refine ⟨_,hk3 _ rfl,fun b' hb'=> ?_,.inl (PrnC.of_dec hx ((hp x).2 hpr) b 0 h i tg hb fun p hp=>by cases hp)⟩
   rcases mdO_mem.1 (show b'∈mdO (none:Option (List (Y.dom th)×Nat)) b 0 from hb') with rfl|⟨_,_,h2⟩
   · rw [hb];simp
   · cases h2
end
end
end Go.Proofs.YtddgkebdlgglaaaGreatDoor
