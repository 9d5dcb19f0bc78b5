/- Merged texts: TtH, TpG, TpL, EngZL, TpM, TpI, TpPa, TpJ, TuA, Tariff, Holds, Amount, TuB, TuTop, TpN, TuC, TtI, TtJ, TtK, TtM, TtN, TtR, TtB, TtC, TtL, TtP, TtU, TuD. -/
import Derived.Lib.ItoaNum
import Derived.Test.YtddgkebdlgglaaaGreatDoorProg
import Derived.Test.YtddgkebdlgglaaaGreatDoorMd
namespace Go.Proofs.YtddgkebdlgglaaaGreatDoor
set_option linter.unusedVariables false
set_option linter.unusedSimpArgs false
set_option linter.unnecessarySimpa false
set_option maxRecDepth 100000
section
open Go
def Yy (w:Tst):Bool:=decide (0<=w.attr/\w.attr<16/\0<=w.low/\w.low<=1099511627776/\0<=w.high/\w.high<=1099511627776)
def V1 (c:Cls):Bool:=Zfn c.name&&Yh c.pay&&c.when_.all Yy
def resF (s:List Nat):Bool:=decide (s∈resW)
noncomputable def goC:Bool->Bool->List (List Nat×Bool)->List Cls->Int
 |a,b,_,[]=>if a=true then 161 else if b=true then 2 else 0
 |a,b,m,c::r=>if V1 c=true then goC (a||resF c.name||(Yt m c.name).getD false) (b||decide (8<c.when_.length)||decide (24<Zx c.pay)) (putS m c.name true) r else 1
noncomputable def W8 (t:Tar):Int:=if Zfn t.name=true/\1<=t.for_/\t.for_<=6 then goC (resF t.name) (decide (64<t.clauses.length)) [] t.clauses else 1
noncomputable def Z78:Sum thy:=sumP (dA1 dS) (fun _=>True) fun x=> .bool false (Zfn x.1)
theorem Zzp:SumOk E 48 Z78:=Yg E_ok (Zc (f:=48) rfl) fun x h=>Zxx _
noncomputable def Sres:Sum thy:=sumP (dA1 dS) (fun _=>True) fun x=> .bool false (resF x.1)
theorem Z4m:SumOk E 49 Sres:=Yg E_ok (Zc (f:=49) rfl) fun x h=>Zqp _
noncomputable def Zuy:Sum thy:=sumP dExp (fun x=>x.1.sz<1000000000000) fun x=> .bool false (Yh x.1)
theorem Zrm:SumOk E 50 Zuy:=Yg E_ok (Zc (f:=50) rfl) fun x h=>Z0c _ (Nat.le_refl _) _ h
noncomputable def Zhz:Sum thy:=sumP dExp (fun x=>x.1.sz<1000000000000) fun x=> .int false .i64 (Zx x.1:Int)
theorem Zet:SumOk E 51 Zhz:=Yg E_ok (Zc (f:=51) rfl) fun x h=>Z0j _ _ (Nat.le_refl _) (Nat.le_of_lt h)
structure CkX where
 k:Nat
 r:Nat
 a:Bool
 b:Bool
 m:List (List Nat×Bool)
def blkM {Y:Thy} (h:Hp Y) (v:SV Y):List (Nat×Blk Y):=match v with| .map b=>(match h b with|some x=> [(b,x)]|none=> [])|_=> []
noncomputable def Ack:Fr thy->Hp thy->Nat->Ann thy:=fun T h i=>{X:=CkX,fr:=fun x=> [(3,.bool false x.a),(4,.bool false x.b),(5,T 5),(33,T 33),(34,T 34),(35,.int false .i64 x.k)],bl:=fun x=> [(bOf (T 5),.map (Ye (Xw E Th.bools false) x.m))],src:=fun _=> [],md:= [bOf (T 5)],ih:=i,M:=i+40,meas:=fun x=>x.r}
noncomputable def Atst:Fr thy->Hp thy->Nat->Ann thy:=fun T h i=>{X:=DX,fr:=fun x=> [(3,T 3),(4,T 4),(5,T 5),(7,T 7),(33,T 33),(34,T 34),(35,T 35),(50,T 50),(51,T 51),(52,.int false .i64 x.k)],bl:=fun x=>blkP h (T 7)++blkM h (T 5),src:=fun _=> [],md:= [],ih:=i,M:=i+30,meas:=fun x=>x.r}
noncomputable def Fck:Fns thy:=addL (addL (addS (addS (addS (addS F0 48 Z78) 49 Sres) 50 Zuy) 51 Zhz) 20 6 Ack E) 20 11 Atst E
theorem Z79:FnsOk E Fck:=Ym E_ok (Ym E_ok (Zd (Zd (Zd (Zd F0_ok Zzp) Z4m) Zrm) Zet) _ _ _) _ _ _
def tarA (t:Tar):SV thy:= .agg (encF false .tariffs t)
noncomputable abbrev qBG9:=(Xw E Th.bools (Zf TypeDesc.bool))
noncomputable abbrev qBGj:=(1:Int)
noncomputable abbrev qBGg:=(false=true->false=true)
noncomputable abbrev qBG6 (a0:Tar):=(Tar.clauses a0=Tar.clauses a0/\qBGg)
noncomputable abbrev qBGe (a0:CkX):=(↑(CkX.k a0):Int)
noncomputable abbrev qBG5 (a0:Tar):=(↑(List.length (Tar.clauses a0)):Int)
noncomputable abbrev qBGd (a0:Bool) (b0:CkX) (c0:Tar) (d0:CkX):=(a0=CkX.a b0/\true=CkX.b b0/\True/\(qBG6 c0)/\(qBG5 c0)=(qBG5 c0)/\wr IntKind.i64 ((qBGe d0)+qBGj)=(qBGe b0)/\True)
noncomputable abbrev qBGb:=(Xw E Th.bools false)
noncomputable abbrev qBG3 (a0:List (List Nat×Bool)) (b0:Cls) (c0:CkX):=(Ye qBG9 (putS a0 (Cls.name b0) true)=Ye qBGb (CkX.m c0)/\nidE (0:Nat) (Ye qBG9 (putS a0 (Cls.name b0) true))=true)
noncomputable abbrev qBGm (a0:Cls):=(mkS (Cls.name a0))
noncomputable abbrev qBGn (a0:DX):=(↑(DX.k a0):Int)
noncomputable abbrev qBGl:=(1:Nat)
noncomputable abbrev qBGa (a0:CkX) (b0:Tar) (c0:CkX):=(true=CkX.a a0/\true=CkX.b a0/\True/\(qBG6 b0)/\(qBG5 b0)=(qBG5 b0)/\wr IntKind.i64 ((qBGe c0)+qBGj)=(qBGe a0)/\True)
noncomputable abbrev qBG7 (a0:List (List Nat×Bool)):=(∀(p:List Nat×Bool),p∈a0->toL (mkS (Prod.fst p))=Prod.fst p)
noncomputable abbrev qBGf (a0:CkX) (b0:Cls) (c0:CkX->Prop) (d0:Tar):=(CkX.b a0=true->∃(l:List (List Nat×Bool)),Ye qBGb (CkX.m a0)=Ye qBG9 l/\(qBG7 l)/\toL (qBGm b0)=Cls.name b0/\∃(x_3:CkX),c0 x_3/\x_3.2+qBGl<=a0.2/\true=true/\(qBGa x_3 d0 a0)/\(qBG3 l b0 x_3)/\True)
noncomputable abbrev qBGo:=(0:Int)
noncomputable abbrev qBGp (a0:Cls):=(Cls.pay a0)
noncomputable abbrev qBG8 (a0:Cls):=(Cls.name a0=Cls.name a0/\(Cls.when_ a0=Cls.when_ a0/\qBGg)/\Ex.op (qBGp a0)=Ex.op (qBGp a0)/\Ex.n (qBGp a0)=Ex.n (qBGp a0)/\Ex.d0 (qBGp a0)=Ex.d0 (qBGp a0)/\Ex.d1 (qBGp a0)=Ex.d1 (qBGp a0)/\Ex.d2 (qBGp a0)=Ex.d2 (qBGp a0)/\Ex.d3 (qBGp a0)=Ex.d3 (qBGp a0)/\(Ex.l (qBGp a0)=Ex.l (qBGp a0)/\qBGg)/\True)
noncomputable abbrev qBG4 (a0:Cls):=(Ex.mk (Ex.op (qBGp a0)) (Ex.n (qBGp a0)) (Ex.d0 (qBGp a0)) (Ex.d1 (qBGp a0)) (Ex.d2 (qBGp a0)) (Ex.d3 (qBGp a0)) (Ex.l (qBGp a0)))
noncomputable abbrev qBGi (a0:Cls):=((↑(Zx (qBG4 a0)):Int)>(24:Int))
noncomputable abbrev qBGk (a0:CkX):=(Ye qBGb (CkX.m a0)=Ye qBGb (CkX.m a0)/\nidE (0:Nat) (Ye qBGb (CkX.m a0))=true)
noncomputable abbrev qBGc (a0:Cls):=(↑(List.length (Cls.when_ a0)):Int)
noncomputable abbrev qBG2 (a0:CkX) (b0:Cls) (c0:CkX->Prop) (d0:Tar):=(CkX.b a0=false->(decide ((qBGc b0)>(8:Int))=true->∃(l:List (List Nat×Bool)),Ye qBGb (CkX.m a0)=Ye qBG9 l/\(qBG7 l)/\toL (qBGm b0)=Cls.name b0/\∃(x_3:CkX),c0 x_3/\x_3.2+qBGl<=a0.2/\true=true/\(qBGa x_3 d0 a0)/\(qBG3 l b0 x_3)/\True)/\(decide ((qBGc b0)>(8:Int))=false->Ex.sz (qBG4 b0)+qBGl<=(1000000000000:Nat)/\(decide (qBGi b0)=true->∃(l:List (List Nat×Bool)),Ye qBGb (CkX.m a0)=Ye qBG9 l/\(qBG7 l)/\toL (qBGm b0)=Cls.name b0/\∃(x_3:CkX),c0 x_3/\x_3.2+qBGl<=a0.2/\true=true/\(qBGa x_3 d0 a0)/\(qBG3 l b0 x_3)/\True)/\(decide (qBGi b0)=false->∃(l:List (List Nat×Bool)),Ye qBGb (CkX.m a0)=Ye qBG9 l/\(qBG7 l)/\toL (qBGm b0)=Cls.name b0/\∃(x_3:CkX),c0 x_3/\x_3.2+qBGl<=a0.2/\true=true/\(true=CkX.a x_3/\false=CkX.b x_3/\True/\(qBG6 d0)/\(qBG5 d0)=(qBG5 d0)/\wr IntKind.i64 ((qBGe a0)+qBGj)=(qBGe x_3)/\True)/\(qBG3 l b0 x_3)/\True)))
noncomputable abbrev qBG1 (a0:CkX) (b0:Tar) (c0:Int) (d0:CkX->Prop):=(decide ((qBGe a0)<(qBG5 b0))=true->qBGo<=(qBGe a0)/\(qBGe a0)+qBGj<=(qBG5 b0)/\∀(x_1:Cls),(Tar.clauses b0)[Int.toNat (qBGe a0)]? =some x_1->True/\((!Zfn (Cls.name x_1))=true->qBGj=c0)/\((!Zfn (Cls.name x_1))=false->Ex.sz (qBG4 x_1)+qBGl<=(1000000000000:Nat)/\((!Yh (qBG4 x_1))=true->qBGj=c0)/\((!Yh (qBG4 x_1))=false->∃(R_1:DX->Prop),(∃(x_2:DX),R_1 x_2/\true=true/\(CkX.a a0=CkX.a a0/\CkX.b a0=CkX.b a0/\True/\(0:Nat)=(0:Nat)/\(qBG6 b0)/\(qBG5 b0)=(qBG5 b0)/\(qBGe a0)=(qBGe a0)/\(Cls.when_ x_1=Cls.when_ x_1/\qBGg)/\(qBGc x_1)=(qBGc x_1)/\qBGo=(qBGn x_2)/\True)/\(qBG8 x_1)/\(qBGk a0)/\True)/\∀(x_2:DX),R_1 x_2->(decide ((qBGn x_2)<(qBGc x_1))=true->qBGo<=(qBGn x_2)/\(qBGn x_2)+qBGj<=(qBGc x_1)/\∀(x_3:Tst),(Cls.when_ x_1)[Int.toNat (qBGn x_2)]? =some x_3->∃(Q:Bool->Prop),((decide (Tst.attr x_3<qBGo)=true->Q true)/\(decide (Tst.attr x_3<qBGo)=false->(decide (Tst.attr x_3>=(16:Int))=true->Q true)/\(decide (Tst.attr x_3>=(16:Int))=false->(decide (mm2 false (Tst.low x_3) (Tst.high x_3)<qBGo)=true->Q true)/\(decide (mm2 false (Tst.low x_3) (Tst.high x_3)<qBGo)=false->(decide (mm2 true (Tst.low x_3) (Tst.high x_3)>(1099511627776:Int))=true->Q true)/\(decide (mm2 true (Tst.low x_3) (Tst.high x_3)>(1099511627776:Int))=false->Q false)))))/\(Q true->qBGj=c0)/\(Q false->∃(x_4:DX),R_1 x_4/\x_4.2+qBGl<=x_2.2/\true=true/\(CkX.a a0=CkX.a a0/\CkX.b a0=CkX.b a0/\True/\(0:Nat)=(0:Nat)/\(qBG6 b0)/\(qBG5 b0)=(qBG5 b0)/\(qBGe a0)=(qBGe a0)/\(Cls.when_ x_1=Cls.when_ x_1/\qBGg)/\(qBGc x_1)=(qBGc x_1)/\wr IntKind.i64 ((qBGn x_2)+qBGj)=(qBGn x_4)/\True)/\(qBG8 x_1)/\(qBGk a0)/\True))/\(decide ((qBGn x_2)<(qBGc x_1))=false->(CkX.a a0=true->(qBGf a0 x_1 d0 b0)/\(qBG2 a0 x_1 d0 b0))/\(CkX.a a0=false->True/\(resF (Cls.name x_1)=true->(qBGf a0 x_1 d0 b0)/\(qBG2 a0 x_1 d0 b0))/\(resF (Cls.name x_1)=false->∃(l:List (List Nat×Bool)),Ye qBGb (CkX.m a0)=Ye qBG9 l/\(qBG7 l)/\∀(y:Bool),y=Option.getD (Yt l (Cls.name x_1)) false->(CkX.b a0=true->∃(l:List (List Nat×Bool)),Ye qBGb (CkX.m a0)=Ye qBG9 l/\(qBG7 l)/\toL (qBGm x_1)=Cls.name x_1/\∃(x_3:CkX),d0 x_3/\x_3.2+qBGl<=a0.2/\true=true/\(qBGd y x_3 b0 a0)/\(qBG3 l x_1 x_3)/\True)/\(CkX.b a0=false->(decide ((qBGc x_1)>(8:Int))=true->∃(l:List (List Nat×Bool)),Ye qBGb (CkX.m a0)=Ye qBG9 l/\(qBG7 l)/\toL (qBGm x_1)=Cls.name x_1/\∃(x_3:CkX),d0 x_3/\x_3.2+qBGl<=a0.2/\true=true/\(qBGd y x_3 b0 a0)/\(qBG3 l x_1 x_3)/\True)/\(decide ((qBGc x_1)>(8:Int))=false->Ex.sz (qBG4 x_1)+qBGl<=(1000000000000:Nat)/\(decide (qBGi x_1)=true->∃(l:List (List Nat×Bool)),Ye qBGb (CkX.m a0)=Ye qBG9 l/\(qBG7 l)/\toL (qBGm x_1)=Cls.name x_1/\∃(x_3:CkX),d0 x_3/\x_3.2+qBGl<=a0.2/\true=true/\(qBGd y x_3 b0 a0)/\(qBG3 l x_1 x_3)/\True)/\(decide (qBGi x_1)=false->∃(l:List (List Nat×Bool)),Ye qBGb (CkX.m a0)=Ye qBG9 l/\(qBG7 l)/\toL (qBGm x_1)=Cls.name x_1/\∃(x_3:CkX),d0 x_3/\x_3.2+qBGl<=a0.2/\true=true/\(y=CkX.a x_3/\false=CkX.b x_3/\True/\(qBG6 b0)/\(qBG5 b0)=(qBG5 b0)/\wr IntKind.i64 ((qBGe a0)+qBGj)=(qBGe x_3)/\True)/\(qBG3 l x_1 x_3)/\True)))))))))
noncomputable abbrev qBGh (a0:CkX) (b0:Tar) (c0:Int):=(decide ((qBGe a0)<(qBG5 b0))=false->(CkX.a a0=true->(161:Int)=c0)/\(CkX.a a0=false->(CkX.b a0=true->(2:Int)=c0)/\(CkX.b a0=false->qBGo=c0)))
theorem Z4n (t:Tar) (v:Int):Zj E Fck (vc E Fck 400) 20 [tarA t] hp0 0 (fun r=>ret E (patch hp0 0 r) r.v (.int false .i64 v))=(
 True/\((!Zfn (Tar.name t))=true->qBGj=v)/\((!Zfn (Tar.name t))=false->(decide (Tar.for_ t<qBGj)=true->qBGj=v)/\(decide (Tar.for_ t<qBGj)=false->(decide (Tar.for_ t>(6:Int))=true->qBGj=v)/\(decide (Tar.for_ t>(6:Int))=false->True/\(decide ((qBG5 t)>(64:Int))=true->∃(R:CkX->Prop),(∃(x:CkX),R x/\true=true/\(resF (Tar.name t)=CkX.a x/\true=CkX.b x/\True/\(qBG6 t)/\(qBG5 t)=(qBG5 t)/\qBGo=(qBGe x)/\True)/\([]=Ye qBGb (CkX.m x)/\true=true)/\True)/\∀(x:CkX),R x->(qBG1 x t v R)/\(qBGh x t v))/\(decide ((qBG5 t)>(64:Int))=false->∃(R:CkX->Prop),(∃(x:CkX),R x/\true=true/\(resF (Tar.name t)=CkX.a x/\false=CkX.b x/\True/\(qBG6 t)/\(qBG5 t)=(qBG5 t)/\qBGo=(qBGe x)/\True)/\([]=Ye qBGb (CkX.m x)/\true=true)/\True)/\∀(x:CkX),R x->(qBG1 x t v R)/\(qBGh x t v)))))):=by kernel_rfl
theorem Z4o {g:GH} {t:Tar} {u:Value} (h:Den E σ0 g (tarA t) u):Byt t.name/\∀c∈t.clauses,Byt c.name:=by
 obtain ⟨arr,c,rfl,hs,hc,hd⟩:=Zr h
 refine ⟨Zmv (hd 0 _ rfl),fun x hx=> ?_⟩
 have h2:=hd 2 (.psl Th.clauses t.clauses false) rfl
 obtain ⟨v,hv⟩:=Z0n h2 x hx 0 (.str false x.name) rfl
 exact Zmv hv
theorem Zdy (a b:Bool) (m:List (List Nat×Bool)) (c:Cls) (r:List Cls):goC a b m (c::r)=if V1 c=true then goC (a||resF c.name||(Yt m c.name).getD false) (b||decide (8<c.when_.length)||decide (24<Zx c.pay)) (putS m c.name true) r else 1:=rfl
theorem Zpk {l:List Tst} {k:Nat} {w:Tst} (h:l[k]? =some w):(l.drop k).all Yy=(Yy w&&(l.drop (k+1)).all Yy):=by rw [Ws h,List.all_cons]
theorem Zh0 {β:Type}:∀{m:List (List Nat×β)} {a:List Nat} {v:β},(∀p∈m,Byt p.1)->Byt a->∀p∈putS m a v,Byt p.1
 | [],a,v,_,ha,p,hp=>by
  rw [putS] at hp
  obtain rfl:=List.mem_singleton.1 hp
  exact ha
 |q::m,a,v,hm,ha,p,hp=>by
  rw [putS] at hp
  split at hp
  · rcases List.mem_cons.1 hp with rfl|hp
    · exact hm q (List.mem_cons_self ..)
    · exact hm p (List.mem_cons_of_mem _ hp)
  · rcases List.mem_cons.1 hp with rfl|hp
    · exact hm _ (List.mem_cons_self ..)
    · exact Zh0 (fun q hq=>hm q (List.mem_cons_of_mem _ hq)) ha p hp
theorem Zrn (t : Tar) (hsz : ∀ c ∈ t.clauses, c.pay.sz < 1000000000000 ∧ c.when_.length < 1000000000000) (hl : t.clauses.length < 1000000000000) : PureC E 20 [tarA t] (.int false .i64 (W8 t)) := by
  refine Z5o (j := 0) rfl (fun g u h => Z4o h) fun hby => Zb E_ok (Zh E_ok Z79 400) ?_
  rw [Z4n]; delta qBG9 qBGj qBGg qBG6 qBGe qBG5 qBGd qBGb qBG3 qBGm qBGn qBGl qBGa qBG7 qBGf qBGo qBGp qBG8 qBG4 qBGi qBGk qBGc qBG2 qBG1 qBGh
  simp only [Yk, Z0, Wu, Wv, Ww, beq_iff_eq, bne_iff_ne, beq_eq_false_iff_ne, bne_eq_false_iff_eq, decide_eq_true_eq, decide_eq_false_iff_not, Bool.or_eq_true, Bool.or_eq_false_iff, Bool.not_eq_true', Bool.not_eq_false', Bool.and_eq_true, Bool.and_true, Bool.true_and, Bool.and_eq_false_iff, beq_self_eq_true, Xc, Y4, ne_eq, and_true, true_and, Bool.true_eq_false, Bool.false_eq_true, false_or, or_false, true_implies, imp_self, Int.ofNat_eq_natCast, not_true_eq_false, not_false_eq_true, Decidable.not_not, Ex.eta]
  unfold W8
  refine And.intro (fun h1 => ?_) (fun h1 => And.intro (fun h2 => ?_) (fun h2 => And.intro (fun h3 => ?_) (fun h3 => ?_)))
  · rw [if_neg (by rw [h1]; simp)]
  · rw [if_neg (by omega)]
  · rw [if_neg (by omega)]
  · rw [if_pos ⟨h1, by omega, by omega⟩]
    refine And.intro (fun h4 => ?_) (fun h4 => ?_)
    · rw [decide_eq_true (show 64 < t.clauses.length by omega)]
      refine ⟨fun x => x.k ≤ t.clauses.length ∧ (∀ p ∈ x.m, Byt p.1) ∧ goC x.a x.b x.m (t.clauses.drop x.k) = goC (resF t.name) true [] t.clauses ∧ x.r = t.clauses.length - x.k, ⟨⟨0, t.clauses.length, resF t.name, true, []⟩, ⟨(by dsimp only; omega), by simp, rfl, rfl⟩, ⟨rfl, rfl, rfl⟩, rfl⟩, ?_⟩
      rintro x ⟨hk, hm, hv, hr⟩
      refine And.intro (fun hq => ⟨by omega, by omega, fun c hc => ?_⟩) (fun hq => ?_)
      · have hc : t.clauses[x.k]? = some c := hc
        rw [Ws hc, Zdy] at hv
        have hcm := List.mem_of_getElem? hc
        obtain ⟨hs1, hs2⟩ := hsz c hcm
        have hcb := hby.2 c hcm
        refine And.intro (fun h5 => ?_) (fun h5 => ⟨by omega, fun h6 => ?_, fun h6 => ?_⟩)
        · rw [← hv, if_neg (by unfold V1; rw [h5]; simp)]
        · rw [← hv, if_neg (by unfold V1; rw [h6]; simp)]
        refine ⟨fun y => y.k ≤ c.when_.length ∧ (c.when_.drop y.k).all Yy = c.when_.all Yy ∧ y.r = c.when_.length - y.k, ⟨⟨0, c.when_.length, [], [], 0, 0, 0, 0⟩, ⟨(by dsimp only; omega), rfl, rfl⟩, rfl, Xl E_ok _⟩, ?_⟩
        rintro y ⟨hk2, hv2, hr2⟩
        refine And.intro (fun hq2 => ⟨by omega, by omega, fun w hw => ?_⟩) (fun hq2 => ?_)
        · have hw : c.when_[y.k]? = some w := hw
          rw [Zpk hw] at hv2
          have hT : Yy w = decide (0 ≤ w.attr ∧ w.attr < 16 ∧ 0 ≤ w.low ∧ w.low ≤ 1099511627776 ∧ 0 ≤ w.high ∧ w.high ≤ 1099511627776) := rfl
          refine ⟨fun b => b = true ↔ Yy w = false, ?_, fun hQ => ?_, fun hQ => ?_⟩
          · have q1 : (¬ (0 ≤ w.attr ∧ w.attr < 16 ∧ 0 ≤ w.low ∧ w.low ≤ 1099511627776 ∧ 0 ≤ w.high ∧ w.high ≤ 1099511627776)) → ((true = true) ↔ Yy w = false) := fun h => by rw [hT, decide_eq_false h]; simp
            have q2 : (0 ≤ w.attr ∧ w.attr < 16 ∧ 0 ≤ w.low ∧ w.low ≤ 1099511627776 ∧ 0 ≤ w.high ∧ w.high ≤ 1099511627776) → ((false = true) ↔ Yy w = false) := fun h => by rw [hT, decide_eq_true h]; simp
            refine And.intro (fun a1 => q1 (by omega)) (fun a1 => And.intro (fun a2 => q1 (by omega)) (fun a2 => And.intro (fun a3 => q1 (by omega)) (fun a3 => And.intro (fun a4 => q1 (by omega)) (fun a4 => q2 (by omega)))))
          · have hQ := hQ.1 rfl
            rw [hQ, Bool.false_and] at hv2
            rw [← hv, if_neg (by unfold V1; rw [← hv2]; simp)]
          · have hQ : Yy w = true := by
              cases hh : Yy w with
              | true => rfl
              | false => have := hQ.2 hh; simp at this
            rw [hQ, Bool.true_and] at hv2
            exact ⟨⟨y.k + 1, c.when_.length - (y.k + 1), [], [], 0, 0, 0, 0⟩, ⟨(by dsimp only; omega), hv2, rfl⟩, by show c.when_.length - (y.k + 1) + 1 ≤ y.r; omega, wr64 (by omega) (by omega), Xl E_ok _⟩
        · rw [Wt (by omega)] at hv2
          have hok : V1 c = true := by unfold V1; rw [h5, h6, ← hv2]; rfl
          rw [if_pos hok] at hv
          clear hv2 hr2 hq2 hk2 hok
          repeat' (first | (refine And.intro ?_ ?_) | (refine ⟨x.m, rfl, hm, ?_⟩) | (rintro _ rfl) | (intro h))
          all_goals first
            | omega
            | exact hcb
            | (refine ⟨⟨x.k + 1, t.clauses.length - (x.k + 1), _, _, putS x.m c.name true⟩, ⟨(by dsimp only; omega), Zh0 hm hcb, ?_, rfl⟩, (by dsimp only; omega), ⟨rfl, rfl, wr64 (by omega) (by omega)⟩, rfl, Xl E_ok _⟩
               rw [← hv]
               dsimp only
               congr 1
               · first | (simp only [*, Bool.or_true, Bool.true_or, Bool.false_or, Bool.or_false]; done) | (simp only [*, Bool.or_true, Bool.true_or, Bool.false_or, Bool.or_false]; rfl)
               · first | (simp only [*, Bool.or_true, Bool.true_or, Bool.false_or, Bool.or_false]; done) | (simp only [*, Bool.or_true, Bool.true_or, Bool.false_or, Bool.or_false]; symm; simp only [Bool.or_eq_true, Bool.or_eq_false_iff, decide_eq_true_eq, decide_eq_false_iff_not]; omega))
      · rw [Wt (by omega)] at hv
        rw [← hv]
        unfold goC
        refine And.intro (fun a1 => by rw [if_pos a1]) (fun a1 => And.intro (fun a2 => by rw [if_neg (by rw [a1]; simp), if_pos a2]) (fun a2 => by rw [if_neg (by rw [a1]; simp), if_neg (by rw [a2]; simp)]))
    · rw [decide_eq_false (show ¬ 64 < t.clauses.length by omega)]
      refine ⟨fun x => x.k ≤ t.clauses.length ∧ (∀ p ∈ x.m, Byt p.1) ∧ goC x.a x.b x.m (t.clauses.drop x.k) = goC (resF t.name) false [] t.clauses ∧ x.r = t.clauses.length - x.k, ⟨⟨0, t.clauses.length, resF t.name, false, []⟩, ⟨(by dsimp only; omega), by simp, rfl, rfl⟩, ⟨rfl, rfl, rfl⟩, rfl⟩, ?_⟩
      rintro x ⟨hk, hm, hv, hr⟩
      refine And.intro (fun hq => ⟨by omega, by omega, fun c hc => ?_⟩) (fun hq => ?_)
      · have hc : t.clauses[x.k]? = some c := hc
        rw [Ws hc, Zdy] at hv
        have hcm := List.mem_of_getElem? hc
        obtain ⟨hs1, hs2⟩ := hsz c hcm
        have hcb := hby.2 c hcm
        refine And.intro (fun h5 => ?_) (fun h5 => ⟨by omega, fun h6 => ?_, fun h6 => ?_⟩)
        · rw [← hv, if_neg (by unfold V1; rw [h5]; simp)]
        · rw [← hv, if_neg (by unfold V1; rw [h6]; simp)]
        refine ⟨fun y => y.k ≤ c.when_.length ∧ (c.when_.drop y.k).all Yy = c.when_.all Yy ∧ y.r = c.when_.length - y.k, ⟨⟨0, c.when_.length, [], [], 0, 0, 0, 0⟩, ⟨(by dsimp only; omega), rfl, rfl⟩, rfl, Xl E_ok _⟩, ?_⟩
        rintro y ⟨hk2, hv2, hr2⟩
        refine And.intro (fun hq2 => ⟨by omega, by omega, fun w hw => ?_⟩) (fun hq2 => ?_)
        · have hw : c.when_[y.k]? = some w := hw
          rw [Zpk hw] at hv2
          have hT : Yy w = decide (0 ≤ w.attr ∧ w.attr < 16 ∧ 0 ≤ w.low ∧ w.low ≤ 1099511627776 ∧ 0 ≤ w.high ∧ w.high ≤ 1099511627776) := rfl
          refine ⟨fun b => b = true ↔ Yy w = false, ?_, fun hQ => ?_, fun hQ => ?_⟩
          · have q1 : (¬ (0 ≤ w.attr ∧ w.attr < 16 ∧ 0 ≤ w.low ∧ w.low ≤ 1099511627776 ∧ 0 ≤ w.high ∧ w.high ≤ 1099511627776)) → ((true = true) ↔ Yy w = false) := fun h => by rw [hT, decide_eq_false h]; simp
            have q2 : (0 ≤ w.attr ∧ w.attr < 16 ∧ 0 ≤ w.low ∧ w.low ≤ 1099511627776 ∧ 0 ≤ w.high ∧ w.high ≤ 1099511627776) → ((false = true) ↔ Yy w = false) := fun h => by rw [hT, decide_eq_true h]; simp
            refine And.intro (fun a1 => q1 (by omega)) (fun a1 => And.intro (fun a2 => q1 (by omega)) (fun a2 => And.intro (fun a3 => q1 (by omega)) (fun a3 => And.intro (fun a4 => q1 (by omega)) (fun a4 => q2 (by omega)))))
          · have hQ := hQ.1 rfl
            rw [hQ, Bool.false_and] at hv2
            rw [← hv, if_neg (by unfold V1; rw [← hv2]; simp)]
          · have hQ : Yy w = true := by
              cases hh : Yy w with
              | true => rfl
              | false => have := hQ.2 hh; simp at this
            rw [hQ, Bool.true_and] at hv2
            exact ⟨⟨y.k + 1, c.when_.length - (y.k + 1), [], [], 0, 0, 0, 0⟩, ⟨(by dsimp only; omega), hv2, rfl⟩, by show c.when_.length - (y.k + 1) + 1 ≤ y.r; omega, wr64 (by omega) (by omega), Xl E_ok _⟩
        · rw [Wt (by omega)] at hv2
          have hok : V1 c = true := by unfold V1; rw [h5, h6, ← hv2]; rfl
          rw [if_pos hok] at hv
          clear hv2 hr2 hq2 hk2 hok
          repeat' (first | (refine And.intro ?_ ?_) | (refine ⟨x.m, rfl, hm, ?_⟩) | (rintro _ rfl) | (intro h))
          all_goals first
            | omega
            | exact hcb
            | (refine ⟨⟨x.k + 1, t.clauses.length - (x.k + 1), _, _, putS x.m c.name true⟩, ⟨(by dsimp only; omega), Zh0 hm hcb, ?_, rfl⟩, (by dsimp only; omega), ⟨rfl, rfl, wr64 (by omega) (by omega)⟩, rfl, Xl E_ok _⟩
               rw [← hv]
               dsimp only
               congr 1
               · first | (simp only [*, Bool.or_true, Bool.true_or, Bool.false_or, Bool.or_false]; done) | (simp only [*, Bool.or_true, Bool.true_or, Bool.false_or, Bool.or_false]; rfl)
               · first | (simp only [*, Bool.or_true, Bool.true_or, Bool.false_or, Bool.or_false]; done) | (simp only [*, Bool.or_true, Bool.true_or, Bool.false_or, Bool.or_false]; symm; simp only [Bool.or_eq_true, Bool.or_eq_false_iff, decide_eq_true_eq, decide_eq_false_iff_not]; omega))
      · rw [Wt (by omega)] at hv
        rw [← hv]
        unfold goC
        refine And.intro (fun a1 => by rw [if_pos a1]) (fun a1 => And.intro (fun a2 => by rw [if_neg (by rw [a1]; simp), if_pos a2]) (fun a2 => by rw [if_neg (by rw [a1]; simp), if_neg (by rw [a2]; simp)]))
end
section
open Go
noncomputable def dCl:Dc E Cls:=(dR .clauses:Dc E (thy.dom Th.clauses))
noncomputable def dCls:Dc E (List Cls):=(Zw8 (E:=E) Th.clauses:Dc E (List (thy.dom Th.clauses)))
noncomputable def Z81:Sum thy:=sumM (mI (dA1 dN) (n1 fun _=>rfl) dTs (fun _=>rfl)) (fun _ _=>True) fun x a=>W9 a.1 x.1 x.2.1
theorem Z0h:SumOk E 68 Z81:=Xa E_ok (Zc rfl) fun x a _=>Zz0 x.1 x.2.1 a.1
def Aif:Fr thy->Hp thy->Nat->Ann thy:=fun T h i=>{X:=LX,fr:=fun x=> [(0,T 0),(1,T 1),(7,T 7),(8,.int false .i64 x.k)],bl:=fun x=>(match T 1 with| .fn _ _ [v]=>blkP h v|_=> []),src:=fun _=> [],md:= [],ih:=i,M:=i+30,meas:=fun x=>x.r}
structure TX where
 ts:List Tst
 l:List Tok
 ed:Int
 more:Bool
 k:Nat
def cellsOf (h:Hp thy) (v:SV thy):List (SV thy):=match h (bOf v) with|some (.raw cs _ _)=>cs|_=> []
def Atl:Fr thy->Hp thy->Nat->Ann thy:=fun T h i=>{X:=Bool×TX,fr:=fun x=> [(0,T 0),(4,T 4),(5,T 5),(6,T 6),(7,.bool false x.2.more)],bl:=fun x=>(bOf (T 0),.raw [.psl Th.toks x.2.l false,.int false .i64 x.2.ed] 0 none)::(bOf (T 6),.raw ((cellsOf h (T 6)).take 1++((match x.1 with|true=> .sl i 0 x.2.ts.length 3 none|false=> .val (.slice none 0 0))::(cellsOf h (T 6)).drop 2)) 0 none)::((match x.1 with|true=> [(i,.rows Th.tests x.2.ts 0)]|false=> [])++blkP h (T 4)),src:=fun x=>(match x.1 with|true=> [(i,2006)]|false=> []),md:= [bOf (T 0),bOf (T 6)],ih:=i+1,M:=i+60,meas:=fun x=>x.2.k,ex:=ex2,al:=al2,exOk:=Zv8,alOk:=Zv9}
noncomputable def Fcl:Fns thy:=addL (addL (addS (addS (addS (addS Fme 32 Zzv) 68 Z81) 69 Sx) 51 Zhz) 97 2 Aif E) 34 6 Atl E
theorem Z82:FnsOk E Fcl:=Ym E_ok (Ym E_ok (Zd (Zd (Zd (Zd Ze0 Zpt) Z0h) Ya8) Zet) _ _ _) _ _ _
def pTs:Nat->Bool->List Tst->List Tok->Int->PR (List Tst)
 |0,_,ts,l,e=> .ok (ts,l,e,())
 |k+1,more,ts,l,e=>
  if more then
   match W9 ts.length l e with
   | .error er=> .error er
   | .ok (t,x)=>pTs k (isW [97,110,100] x.1) (ts++ [t]) (if isW [97,110,100] x.1 then x.1.tail else x.1) x.2.1
  else .ok (ts,l,e,())
def pPay (nm:List Nat) (ts:List Tst) (l:List Tok) (e:Int):PR Cls:=
 if isW [112,97,121] l then
  match pX l.tail e with
  | .error er=> .error er
  | .ok (x,y)=>
   if 24<Zx x then .error (hdT e l.tail,2)
   else if isW [59] y.1 then .ok (⟨nm,ts,x⟩,y.1.tail,y.2.1,()) else .error (hdT y.2.1 y.1,160)
 else .error (hdT e l,160)
def pAft (nm:List Nat) (r:PR (List Tst)):PR Cls:=
 match r with
 | .error er=> .error er
 | .ok (ts,y)=>pPay nm ts y.1 y.2.1
def Z9 (bs:List Cls) (l:List Tok) (e:Int):PR Cls:=
 match Uk l e with
 | .error er=> .error er
 | .ok (nm,x)=>
  if bs.any (fun b=>b.name==nm) then .error (hdT e l,161)
  else pAft nm (pTs 10 (isW [119,104,101,110] x.1) [] (if isW [119,104,101,110] x.1 then x.1.tail else x.1) x.2.1)
theorem Zbu {l:List Tok} {e:Int} {y:List Nat} {x:PX} (h:Uk l e= .ok (y,x)):x.1.length<l.length:=by
 unfold Uk at h
 split at h
 · cases h
 · split at h
   · split at h
     · cases h
     · injection h with h
       injection h with _ h
       subst h
       exact Nat.lt_succ_self _
   · cases h
theorem Zif {l:List Tok} {e:Int} {y:Int} {x:PX} (h:pInt l e= .ok (y,x)):x.1.length<l.length:=by
 unfold pInt at h
 split at h
 · cases h
 · split at h
   · injection h with h
     injection h with _ h
     subst h
     exact Nat.lt_succ_self _
   · cases h
theorem Zvy {s:List Nat} {l:List Tok}:(if isW s l=true then l.tail else l).length<=l.length:=by
 split
 · have:=Zm (by assumption);omega
 · exact Nat.le_refl _
theorem Ze4 {n:Int} {l:List Tok} {e:Int} {y:Tst} {x:PX} (h:W9 n l e= .ok (y,x)):x.1.length<l.length/\n≠8:=by
 unfold W9 at h
 split at h
 · cases h
 · rename_i a x0 hm
   obtain ⟨h1,_,rfl⟩:=Zab hm
   have hp:=Za8 h1
   split at h
   · cases h
   · rename_i hn
     refine ⟨?_,hn⟩
     split at h
     · rename_i hw
       have hw:=Zm hw
       split at h
       · cases h
       · rename_i m x1 hi
         have hi:=Zif hi
         injection h with h
         injection h with _ h
         subst h
         have hw:l.tail.tail.length+1=l.tail.length:=hw
         have hi:x1.1.length<l.tail.tail.length:=hi
         omega
     · split at h
       · rename_i hw
         have hw:=Zm hw
         split at h
         · cases h
         · rename_i m x1 hi
           have hi:=Zif hi
           have hw:l.tail.tail.length+1=l.tail.length:=hw
           have hi:x1.1.length<l.tail.tail.length:=hi
           split at h
           · rename_i hw2
             have hw2:=Zm hw2
             split at h
             · cases h
             · rename_i k x2 hi2
               have hi2:=Zif hi2
               injection h with h
               injection h with _ h
               subst h
               omega
           · cases h
       · cases h
abbrev qCB6:=(0:Nat)
abbrev qCB9 (a0:Int) (b0:Bool) (c0:TX):=(qCB6=qCB6/\qCB6=qCB6/\a0=a0/\qCB6=qCB6/\b0=TX.more c0/\True)
abbrev qCB7:=(0:Int)
abbrev qCB3 (a0:List Nat):=(a0=a0/\Value.slice none qCB6 qCB6=Value.slice none qCB6 qCB6/\qCB7=qCB7/\qCB7=qCB7/\qCB7=qCB7/\qCB7=qCB7/\qCB7=qCB7/\qCB7=qCB7/\Value.slice none qCB6 qCB6=Value.slice none qCB6 qCB6/\True)
abbrev qCBi (a0:TX):=(List.tail (TX.l a0))
abbrev qCB4 (a0:Ex):=(Ex.mk (Ex.op a0) (Ex.n a0) (Ex.d0 a0) (Ex.d1 a0) (Ex.d2 a0) (Ex.d3 a0) (Ex.l a0))
abbrev qCBb (a0:Ex):=((↑(Zx (qCB4 a0)):Int)>(24:Int))
abbrev qCBc (a0:TX) (b0:PR Cls):=(isW [(112:Nat),(97:Nat),(121:Nat)] (TX.l a0)=false->b0=Except.error (hdT (TX.ed a0) (TX.l a0),(160:Int)))
abbrev qCBa (a0:PX):=(Prod.fst (Prod.snd a0))
abbrev qCBg (a0:PX) (b0:PR Cls):=(isW [(59:Nat)] (Prod.fst a0)=false->b0=Except.error (hdT (qCBa a0) (Prod.fst a0),(160:Int)))
abbrev qCB2:=(([]:List Nat)= []/\Value.slice none qCB6 qCB6=Value.slice none qCB6 qCB6/\qCB7=qCB7/\qCB7=qCB7/\qCB7=qCB7/\qCB7=qCB7/\qCB7=qCB7/\qCB7=qCB7/\Value.slice none qCB6 qCB6=Value.slice none qCB6 qCB6/\True)
abbrev qCBh:=(false=true->false=true)
abbrev qCB8 (a0:PX) (b0:TX):=((Prod.fst a0=TX.l b0/\qCBh)/\Prod.fst (Prod.snd a0)=TX.ed b0/\True)
abbrev qCB5 (a0:Bool×TX->Prop) (b0:TX) (c0:Int) (d0:Bool) (e0:PX) (f0:List Nat):=(∃(y_6:TX),a0 (false,y_6)/\y_6.5+(1:Nat)<=b0.5/\true=true/\(qCB9 c0 d0 y_6)/\(qCB8 e0 y_6)/\(f0=f0/\False/\qCB7=qCB7/\qCB7=qCB7/\qCB7=qCB7/\qCB7=qCB7/\qCB7=qCB7/\qCB7=qCB7/\Value.slice none qCB6 qCB6=Value.slice none qCB6 qCB6/\True)/\qCB2/\True)
abbrev qCB1 (a0:PX) (b0:Int) (c0:List Nat) (d0:PR Cls):=(∀(y_2:Bool) (x'_1:PX),pAcc [(119:Nat),(104:Nat),(101:Nat),(110:Nat)] (Prod.fst a0) (qCBa a0)=Except.ok (y_2,x'_1)->∃(R:Bool×TX->Prop),((∃(y_3:TX),R (false,y_3)/\true=true/\(qCB9 b0 y_2 y_3)/\(qCB8 x'_1 y_3)/\(qCB3 c0)/\qCB2/\True)\/∃(b0:TX),R (true,b0)/\true=true/\False)/\(∀(y_3:TX),R (false,y_3)->(TX.more y_3=true->True/\(∀(y_4:Tst) (a0:PX),W9 qCB7 (TX.l y_3) (TX.ed y_3)=Except.ok (y_4,a0)->True/\(∀(y_5:Bool) (x'_2:PX),pAcc [(97:Nat),(110:Nat),(100:Nat)] (Prod.fst a0) (qCBa a0)=Except.ok (y_5,x'_2)->(qCB5 R y_3 b0 y_5 x'_2 c0)\/∃(y_6:TX),R (true,y_6)/\y_6.5+(1:Nat)<=y_3.5/\true=true/\(qCB9 b0 y_5 y_6)/\(qCB8 x'_2 y_6)/\(c0=c0/\(qCB6=qCB6/\(1:Nat)=List.length (TX.ts y_6)/\True)/\qCB7=qCB7/\qCB7=qCB7/\qCB7=qCB7/\qCB7=qCB7/\qCB7=qCB7/\qCB7=qCB7/\Value.slice none qCB6 qCB6=Value.slice none qCB6 qCB6/\True)/\([y_4]=TX.ts y_6/\qCB6=qCB6)/\qCB2/\True)/\∀(e:Int×Int),pAcc [(97:Nat),(110:Nat),(100:Nat)] (Prod.fst a0) (qCBa a0)=Except.error e->d0=Except.error e)/\∀(e:Int×Int),W9 qCB7 (TX.l y_3) (TX.ed y_3)=Except.error e->d0=Except.error e)/\(TX.more y_3=false->(isW [(112:Nat),(97:Nat),(121:Nat)] (TX.l y_3)=true->∀(b0:Int),b0=hdT (TX.ed y_3) (qCBi y_3)->True/\(∀(y_4:Ex) (a0:PX),pX (qCBi y_3) (TX.ed y_3)=Except.ok (y_4,a0)->Ex.sz (qCB4 y_4)+(1:Nat)<=(1000000000000:Nat)/\(decide (qCBb y_4)=true->d0=Except.error (b0,(2:Int)))/\(decide (qCBb y_4)=false->(isW [(59:Nat)] (Prod.fst a0)=true->d0=Except.ok (Cls.mk c0 [] (qCB4 y_4),List.tail (Prod.fst a0),Prod.fst (Prod.snd a0),()))/\(qCBg a0 d0)))/\∀(e:Int×Int),pX (qCBi y_3) (TX.ed y_3)=Except.error e->d0=Except.error e)/\(qCBc y_3 d0)))/\∀(y_3:TX),R (true,y_3)->(TX.more y_3=true->True/\(∀(y_4:Tst) (a0:PX),W9 (↑(List.length (TX.ts y_3)):Int) (TX.l y_3) (TX.ed y_3)=Except.ok (y_4,a0)->(List.length (TX.ts y_3)<=List.length (TX.ts y_3)/\qCB6<=List.length (TX.ts y_3)/\(List.length (TX.ts y_3)+(1:Nat))*(24:Nat)<=(140737488355328:Nat))/\True/\(∀(y_5:Bool) (x'_2:PX),pAcc [(97:Nat),(110:Nat),(100:Nat)] (Prod.fst a0) (qCBa a0)=Except.ok (y_5,x'_2)->(qCB5 R y_3 b0 y_5 x'_2 c0)\/∃(y_6:TX),R (true,y_6)/\y_6.5+(1:Nat)<=y_3.5/\true=true/\(qCB9 b0 y_5 y_6)/\(qCB8 x'_2 y_6)/\(c0=c0/\(qCB6=qCB6/\List.length (TX.ts y_3)+(1:Nat)=List.length (TX.ts y_6)/\True)/\qCB7=qCB7/\qCB7=qCB7/\qCB7=qCB7/\qCB7=qCB7/\qCB7=qCB7/\qCB7=qCB7/\Value.slice none qCB6 qCB6=Value.slice none qCB6 qCB6/\True)/\(List.take (List.length (TX.ts y_3)) (TX.ts y_3)++ [y_4]=TX.ts y_6/\qCB6=qCB6)/\qCB2/\True)/\∀(e:Int×Int),pAcc [(97:Nat),(110:Nat),(100:Nat)] (Prod.fst a0) (qCBa a0)=Except.error e->d0=Except.error e)/\∀(e:Int×Int),W9 (↑(List.length (TX.ts y_3)):Int) (TX.l y_3) (TX.ed y_3)=Except.error e->d0=Except.error e)/\(TX.more y_3=false->(isW [(112:Nat),(97:Nat),(121:Nat)] (TX.l y_3)=true->∀(b0:Int),b0=hdT (TX.ed y_3) (qCBi y_3)->True/\(∀(y_4:Ex) (a0:PX),pX (qCBi y_3) (TX.ed y_3)=Except.ok (y_4,a0)->Ex.sz (qCB4 y_4)+(1:Nat)<=(1000000000000:Nat)/\(decide (qCBb y_4)=true->d0=Except.error (b0,(2:Int)))/\(decide (qCBb y_4)=false->(isW [(59:Nat)] (Prod.fst a0)=true->qCB6+List.length (TX.ts y_3)<=List.length (TX.ts y_3)/\d0=Except.ok (Cls.mk c0 (List.take (List.length (TX.ts y_3)) (List.drop qCB6 (TX.ts y_3))) (qCB4 y_4),List.tail (Prod.fst a0),Prod.fst (Prod.snd a0),()))/\(qCBg a0 d0)))/\∀(e:Int×Int),pX (qCBi y_3) (TX.ed y_3)=Except.error e->d0=Except.error e)/\(qCBc y_3 d0)))
abbrev qCBd (a0:List Cls):=(↑(List.length a0):Int)
abbrev qCBe:=(Fn.func (67:Nat)=Fn.func (67:Nat)/\True/\qCB6=qCB6/\True)
abbrev qCBf (a0:LX):=(↑(LX.k a0):Int)
theorem Zmu (l:List Tok) (e:Int) (bs:List Cls) (out:PR Cls):Zj E Fcl (vc E Fcl 400) 34 [.ptr 0 0,.psl Th.clauses bs false] (one [.psl Th.toks l false,.int false .i64 e]) 1 (mK (dA1 dCls) (n1 fun _=>rfl) dCl (fun _=>rfl) l e out)=(
 ∀(y:Int),y=hdT e l->True/\(∀(y_1:List Nat) (x':PX),Uk l e=Except.ok (y_1,x')->∃(R:LX->Prop),(∃(x:LX),R x/\true=true/\((bs=bs/\qCBh)/\qCBe/\(qCBd bs)=(qCBd bs)/\qCB7=(qCBf x)/\True)/\(qCB3 y_1)/\True)/\∀(x:LX),R x->(decide ((qCBf x)<(qCBd bs))=true->qCB7<=(qCBf x)/\(qCBf x)+(1:Int)<=(qCBd bs)/\∀(x_1:Cls),bs[Int.toNat (qCBf x)]? =some x_1->((Cls.name x_1==y_1)=true->(decide ((qCBf x)>=qCB7)=true->out=Except.error (y,(161:Int)))/\(decide ((qCBf x)>=qCB7)=false->True/\(qCB1 x' y y_1 out)/\∀(e:Int×Int),pAcc [(119:Nat),(104:Nat),(101:Nat),(110:Nat)] (Prod.fst x') (qCBa x')=Except.error e->out=Except.error e))/\((Cls.name x_1==y_1)=false->∃(x_2:LX),R x_2/\x_2.2+(1:Nat)<=x.2/\true=true/\((bs=bs/\qCBh)/\qCBe/\(qCBd bs)=(qCBd bs)/\wr IntKind.i64 ((qCBf x)+(1:Int))=(qCBf x_2)/\True)/\(qCB3 y_1)/\True))/\(decide ((qCBf x)<(qCBd bs))=false->True/\(qCB1 x' y y_1 out)/\∀(e:Int×Int),pAcc [(119:Nat),(104:Nat),(101:Nat),(110:Nat)] (Prod.fst x') (qCBa x')=Except.error e->out=Except.error e))/\∀(e_1:Int×Int),Uk l e=Except.error e_1->out=Except.error e_1):=by kernel_rfl
theorem Zrw (bs:List Cls) (l:List Tok) (e:Int) (hl:l.length<1000000000) (hb:bs.length<=1000000000):Wk (mI (dA1 dCls) (n1 fun _=>rfl) dCl (fun _=>rfl)) 34 (l,e,()) (bs,()) (Z9 bs l e):=by
 refine Vz Z82 (n:=400) (a:=(bs,())) ?_
 rw [show (dA1 dCls).enc (bs,())= [.psl Th.clauses bs false] from rfl,Zmu];delta qCB6 qCB9 qCB7 qCB3 qCBi qCB4 qCBb qCBc qCBa qCBg qCB2 qCBh qCB8 qCB5 qCB1 qCBd qCBe qCBf
 intro y0 hy0
 subst hy0
 refine ⟨trivial,fun nm x h1=> ?_,fun er h1=>by simp [Z9,h1]⟩
 have hx:=Zbu h1
 refine ⟨fun z=>z.k<=bs.length/\(bs.drop z.k).any (fun b=>b.name==nm)=bs.any (fun b=>b.name==nm)/\z.r=bs.length-z.k,⟨⟨0,bs.length,[],0⟩,⟨(by dsimp only;omega),rfl,rfl⟩,by simp⟩,?_⟩
 rintro z ⟨hk,hv,hr⟩
 refine ⟨fun hq=> ?_,fun hq=>⟨trivial,fun more x1 h2=> ?_,fun er h2=>by cases h2⟩⟩
 · have hq:(z.k:Int)<bs.length:=by simpa using hq
   refine ⟨by omega,by omega,fun c hc=> ?_⟩
   have hc:bs[z.k]? =some c:=hc
   have hlt:=(List.getElem?_eq_some_iff.1 hc).1
   have hce:bs[z.k]=c:=(List.getElem?_eq_some_iff.1 hc).2
   rw [List.drop_eq_getElem_cons hlt,hce,List.any_cons] at hv
   refine ⟨fun hn=>⟨fun _=> ?_,fun hneg=>absurd hneg (by rw [decide_eq_false_iff_not];omega)⟩,fun hn=> ?_⟩
   · rw [hn,Bool.true_or] at hv
     simp [Z9,h1,<-hv]
   · rw [hn,Bool.false_or] at hv
     exact ⟨⟨z.k+1,bs.length-(z.k+1),[],0⟩,⟨(by dsimp only;omega),hv,rfl⟩,(by show bs.length-(z.k+1)+1<=z.r;omega),rfl,⟨⟨rfl,fun h=>h⟩,⟨rfl,trivial,rfl,trivial⟩,rfl,wr64 (by omega) (by omega),trivial⟩,⟨rfl,rfl,rfl,rfl,rfl,rfl,rfl,rfl,rfl,trivial⟩,trivial⟩
 · have hq:¬(z.k:Int)<bs.length:=by simpa using hq
   rw [List.drop_eq_nil_of_le (by omega),List.any_nil] at hv
   unfold pAcc at h2
   injection h2 with h2
   injection h2 with e1 e2
   subst e1;subst e2
   have hout:Z9 bs l e=pAft nm (pTs 10 (isW [119,104,101,110] x.1) [] (if isW [119,104,101,110] x.1 then x.1.tail else x.1) x.2.1):=by simp [Z9,h1,<-hv]
   rw [hout]
   clear hv hk hr hq
   have hif:=Zvy (s:= [119,104,101,110]) (l:=x.1)
   generalize hO:pAft nm (pTs 10 (isW [119,104,101,110] x.1) [] (if isW [119,104,101,110] x.1 then x.1.tail else x.1) x.2.1)=OUT at hout⊢
   refine ⟨fun p=>pAft nm (pTs p.2.k p.2.more p.2.ts p.2.l p.2.ed)=OUT/\p.2.ts.length+p.2.k=10/\p.2.ts.length<=8/\p.2.l.length<1000000000/\(p.1=false->p.2.ts= []),.inl ⟨⟨[],if isW [119,104,101,110] x.1 then x.1.tail else x.1,x.2.1,isW [119,104,101,110] x.1,10⟩,⟨hO,rfl,Nat.zero_le _,(by dsimp only;omega),fun _=>rfl⟩,by simp⟩,?_,?_⟩
   · rintro ⟨ts,l1,ed,more,k⟩ ⟨hR,hk,h8,hl1,hts⟩
     have hts:ts= []:=hts rfl
     subst hts
     have hk:k=10:=by simpa using hk
     subst hk
     have hR:pAft nm (pTs 10 more [] l1 ed)=OUT:=hR
     have hl1':l1.length<1000000000:=hl1
     clear hl1
     have hl1:=hl1'
     clear hl1'
     rw [<-hR]
     clear hR hout hO
     refine ⟨fun hm=>⟨trivial,fun t x2 h3=>⟨trivial,fun m2 x3 h4=> ?_,fun er h4=>by cases h4⟩,fun er h3=> ?_⟩,fun hm=> ?_⟩
     · have hm':more=true:=hm
       have h3':W9 0 l1 ed= .ok (t,x2):=h3
       clear hm h3
       subst hm'
       unfold pAcc at h4
       injection h4 with h4
       injection h4 with e1 e2
       subst e1;subst e2
       have hq:=Ze4 h3'
       have hi2:=Zvy (s:= [97,110,100]) (l:=x2.1)
       refine .inr ⟨⟨[t],if isW [97,110,100] x2.1 then x2.1.tail else x2.1,x2.2.1,isW [97,110,100] x2.1,9⟩,⟨by simp [pTs,h3'],rfl,(by show 1<=8;omega),(by dsimp only;omega),fun h=>by cases h⟩,Nat.le_refl _,by simp⟩
     · have hm':more=true:=hm
       have h3':W9 0 l1 ed= .error er:=h3
       clear hm h3
       subst hm'
       simp [pTs,pAft,h3']
     · have hm':more=false:=hm
       clear hm
       subst hm'
       revert hl1
       dsimp only
       intro hl1
       refine ⟨fun w y hy=>⟨trivial,fun ex x4 h5=> ?_,fun er h5=>by simp [pTs,pAft,pPay,w,h5]⟩,fun w=>by simp [pTs,pAft,pPay,w]⟩
       subst hy
       have hs:=Zqh _ _ _ _ h5
       have hw:=Zm w
       rw [Ex.eta]
       refine ⟨by omega,fun hn=> ?_,fun hn=>⟨fun w2=> ?_,fun w2=> ?_⟩⟩
       · have hn:(24:Int)<Zx ex:=by simpa using hn
         have hn:24<Zx ex:=by omega
         simp [pTs,pAft,pPay,w,h5,hn]
       · have hn:(Zx ex:Int)<=24:=by simpa using hn
         have hn:¬24<Zx ex:=by omega
         simp [pTs,pAft,pPay,w,h5,hn,w2]
       · have hn:(Zx ex:Int)<=24:=by simpa using hn
         have hn:¬24<Zx ex:=by omega
         simp [pTs,pAft,pPay,w,h5,hn,w2]
   · rintro ⟨ts,l1,ed,more,k⟩ ⟨hR,hk,h8,hl1,_⟩
     have hk:ts.length+k=10:=hk
     have h8:ts.length<=8:=h8
     have hR:pAft nm (pTs k more ts l1 ed)=OUT:=hR
     have hl1':l1.length<1000000000:=hl1
     clear hl1
     have hl1:=hl1'
     clear hl1'
     rw [<-hR]
     clear hR hout hO
     obtain ⟨k,rfl⟩:∃k',k=k'+1:=⟨k-1,by omega⟩
     refine ⟨fun hm=>⟨trivial,fun t x2 h3=>⟨⟨Nat.le_refl _,Nat.zero_le _,(by dsimp only;omega)⟩,trivial,fun m2 x3 h4=> ?_,fun er h4=>by cases h4⟩,fun er h3=> ?_⟩,fun hm=> ?_⟩
     · have hm':more=true:=hm
       have h3':W9 ts.length l1 ed= .ok (t,x2):=h3
       clear hm h3
       subst hm'
       unfold pAcc at h4
       injection h4 with h4
       injection h4 with e1 e2
       subst e1;subst e2
       have hq:=Ze4 h3'
       have hi2:=Zvy (s:= [97,110,100]) (l:=x2.1)
       refine .inr ⟨⟨ts++ [t],if isW [97,110,100] x2.1 then x2.1.tail else x2.1,x2.2.1,isW [97,110,100] x2.1,k⟩,⟨by simp [pTs,h3'],(by simp;omega),(by simp;omega),(by dsimp only;omega),fun h=>by cases h⟩,Nat.le_refl _,by simp⟩
     · have hm':more=true:=hm
       have h3':W9 ts.length l1 ed= .error er:=h3
       clear hm h3
       subst hm'
       simp [pTs,pAft,h3']
     · have hm':more=false:=hm
       clear hm
       subst hm'
       revert hl1
       dsimp only
       intro hl1
       refine ⟨fun w y hy=>⟨trivial,fun ex x4 h5=> ?_,fun er h5=>by simp [pTs,pAft,pPay,w,h5]⟩,fun w=>by simp [pTs,pAft,pPay,w]⟩
       subst hy
       have hs:=Zqh _ _ _ _ h5
       have hw:=Zm w
       rw [Ex.eta]
       refine ⟨by omega,fun hn=> ?_,fun hn=>⟨fun w2=> ?_,fun w2=> ?_⟩⟩
       · have hn:(24:Int)<Zx ex:=by simpa using hn
         have hn:24<Zx ex:=by omega
         simp [pTs,pAft,pPay,w,h5,hn]
       · have hn:(Zx ex:Int)<=24:=by simpa using hn
         have hn:¬24<Zx ex:=by omega
         exact ⟨by omega,by simp [pTs,pAft,pPay,w,h5,hn,w2]⟩
       · have hn:(Zx ex:Int)<=24:=by simpa using hn
         have hn:¬24<Zx ex:=by omega
         simp [pTs,pAft,pPay,w,h5,hn,w2]
end
section
open Go
def isL (n:Int):Bool:=decide (97<=n)&&decide (n<=122)
def isD (n:Int):Bool:=decide (48<=n)&&decide (n<=57)
def isLD (n:Int):Bool:=isL n||isD n
noncomputable def dU8:Dc E Int:=dInt .u8
theorem Zoh (n:Int) (v:Bool):Zj E F0 (vc E F0 400) 90 [.int false .u8 n] hp0 0 (fun r=>ret E (patch hp0 0 r) r.v (.bool false v))=(
(decide ((97:Int)<=n)=true->(decide (n<=(122:Int))=true->true=v)/\(decide (n<=(122:Int))=false->false=v))/\(decide ((97:Int)<=n)=false->false=v)):=by kernel_rfl
theorem Zoi (n:Int):PureC E 90 [.int false .u8 n] (.bool false (isL n)):=by
 refine Zb E_ok (Zh E_ok F0_ok 400) ?_
 rw [Zoh]
 unfold isL
 refine ⟨fun h=>⟨fun h2=> ?_,fun h2=> ?_⟩,fun h=> ?_⟩
 · rw [h,h2];rfl
 · rw [h,h2];rfl
 · rw [h];rfl
theorem Zsx (n:Int) (v:Bool):Zj E F0 (vc E F0 400) 93 [.int false .u8 n] hp0 0 (fun r=>ret E (patch hp0 0 r) r.v (.bool false v))=(
(decide ((48:Int)<=n)=true->(decide (n<=(57:Int))=true->true=v)/\(decide (n<=(57:Int))=false->false=v))/\(decide ((48:Int)<=n)=false->false=v)):=by kernel_rfl
theorem Zsy (n:Int):PureC E 93 [.int false .u8 n] (.bool false (isD n)):=by
 refine Zb E_ok (Zh E_ok F0_ok 400) ?_
 rw [Zsx]
 unfold isD
 refine ⟨fun h=>⟨fun h2=> ?_,fun h2=> ?_⟩,fun h=> ?_⟩
 · rw [h,h2];rfl
 · rw [h,h2];rfl
 · rw [h];rfl
noncomputable def Zx1:Sum thy:=sumP (dA1 dU8) (fun _=>True) fun x=> .bool false (isL x.1)
noncomputable def Z3q:Sum thy:=sumP (dA1 dU8) (fun _=>True) fun x=> .bool false (isD x.1)
theorem Zsz:SumOk E 90 Zx1:=Yg E_ok (Zc (f:=90) rfl) fun x _=>Zoi x.1
theorem Zx2:SumOk E 93 Z3q:=Yg E_ok (Zc (f:=93) rfl) fun x _=>Zsy x.1
noncomputable def Flx:Fns thy:=addS (addS F0 90 Zx1) 93 Z3q
theorem Zx3:FnsOk E Flx:=Zd (Zd F0_ok Zsz) Zx2
theorem Zx4 (n:Int) (v:Bool):Zj E Flx (vc E Flx 400) 92 [.int false .u8 n] hp0 0 (fun r=>ret E (patch hp0 0 r) r.v (.bool false v))=(
True/\(isL n=true->true=v)/\(isL n=false->True/\isD n=v)):=by kernel_rfl
theorem Zx5 (n:Int):PureC E 92 [.int false .u8 n] (.bool false (isLD n)):=by
 refine Zb E_ok (Zh E_ok Zx3 400) ?_
 rw [Zx4]
 unfold isLD
 refine ⟨trivial,fun h=> ?_,fun h=>⟨trivial,?_⟩⟩
 · rw [h];rfl
 · rw [h];rfl
noncomputable def Z95:Sum thy:=sumP (dA1 dU8) (fun _=>True) fun x=> .bool false (isLD x.1)
theorem Z1t:SumOk E 92 Z95:=Yg E_ok (Zc (f:=92) rfl) fun x _=>Zx5 x.1
def Asp:Fr thy->Hp thy->Nat->Ann thy:=fun T h i=>{X:=LX,fr:=fun x=> [(0,T 0),(1,T 1),(7,T 7),(8,.int false .i64 x.k)],bl:=fun x=> [],src:=fun _=> [],md:= [],ih:=i,M:=i+30,meas:=fun x=>x.r}
noncomputable def Zx6:Fns thy:=addL (addS Flx 92 Z95) 91 2 Asp E
theorem Zqt:FnsOk E Zx6:=Ym E_ok (Zd Zx3 Z1t) _ _ _
def spn (f:Int->Bool):List Nat->Nat
 | []=>0
 |c::r=>if f c then spn f r+1 else 0
theorem Zd4 {f:Int->Bool} {s:List Nat} {k c:Nat} (h:s[k]? =some c):spn f (s.drop k)=if f c then spn f (s.drop (k+1))+1 else 0:=by
 have hlt:=(List.getElem?_eq_some_iff.1 h).1
 have hc:s[k]=c:=(List.getElem?_eq_some_iff.1 h).2
 rw [List.drop_eq_getElem_cons hlt,hc];rfl
theorem Zlc {f:Int->Bool}:∀{s:List Nat},spn f s<=s.length
 | []=>Nat.le_refl _
 |c::r=>by
  unfold spn
  have:=Zlc (f:=f) (s:=r)
  split
  · simp;omega
  · exact Nat.zero_le _
theorem Zs0 (s:List Nat) (v:Int):Zj E Zx6 (vc E Zx6 400) 91 [.str false s,.fn (.func 92) [] []] hp0 0 (fun r=>ret E (patch hp0 0 r) r.v (.int false .i64 v))=(
∃(R:LX->Prop),(∃(x:LX),R x/\true=true/\(s=s/\(Fn.func (92:FuncId)=Fn.func (92:FuncId)/\True/\True)/\(↑(List.length s):Int)=(↑(List.length s):Int)/\(0:Int)=(↑(LX.k x):Int)/\True)/\True)/\∀(x:LX),R x->(decide ((↑(LX.k x):Int)<(↑(List.length s):Int))=true->(0:Int)<=(↑(LX.k x):Int)/\(↑(LX.k x):Int)+(1:Int)<=(↑(List.length s):Int)/\∀(x_1:Nat),s[Int.toNat (↑(LX.k x):Int)]? =some x_1->True/\((!isLD (↑x_1:Int))=true->(↑(LX.k x):Int)=v)/\((!isLD (↑x_1:Int))=false->∃(x_2:LX),R x_2/\x_2.2+(1:Nat)<=x.2/\true=true/\(s=s/\(Fn.func (92:FuncId)=Fn.func (92:FuncId)/\True/\True)/\(↑(List.length s):Int)=(↑(List.length s):Int)/\wr IntKind.i64 ((↑(LX.k x):Int)+(1:Int))=(↑(LX.k x_2):Int)/\True)/\True))/\(decide ((↑(LX.k x):Int)<(↑(List.length s):Int))=false->(↑(List.length s):Int)=v)):=by kernel_rfl
theorem Zs1 (s:List Nat) (hs:s.length<=1000000000):PureC E 91 [.str false s,.fn (.func 92) [] []] (.int false .i64 (spn isLD s)):=by
 refine Zb E_ok (Zh E_ok Zqt 400) ?_
 rw [Zs0]
 refine ⟨fun x=>x.k<=s.length/\x.k+spn isLD (s.drop x.k)=spn isLD s/\x.r=s.length-x.k,⟨⟨0,s.length,[],0⟩,⟨(by dsimp only;omega),by simp,rfl⟩,by simp⟩,?_⟩
 rintro x ⟨hk,hv,hr⟩
 refine ⟨fun hq=> ?_,fun hq=> ?_⟩
 · have hq:(x.k:Int)<s.length:=by simpa using hq
   refine ⟨by omega,by omega,fun c hc=>⟨trivial,fun hn=> ?_,fun hn=> ?_⟩⟩
   · have hc:s[x.k]? =some c:=hc
     rw [Zd4 hc] at hv
     have hn:isLD c=false:=by simpa using hn
     rw [hn] at hv
     simp at hv
     rw [<-hv]
   · have hc:s[x.k]? =some c:=hc
     rw [Zd4 hc] at hv
     have hn:isLD c=true:=by simpa using hn
     rw [hn,if_pos rfl] at hv
     exact ⟨⟨x.k+1,s.length-(x.k+1),[],0⟩,⟨(by dsimp only;omega),(by dsimp only;omega),rfl⟩,(by show s.length-(x.k+1)+1<=x.r;omega),rfl,⟨rfl,⟨rfl,trivial,trivial⟩,rfl,wr64 (by omega) (by omega),trivial⟩,trivial⟩
 · have hq:¬(x.k:Int)<s.length:=by simpa using hq
   rw [List.drop_eq_nil_of_le (by omega)] at hv
   have:x.k=spn isLD s:=by simpa [spn] using hv
   omega
theorem Zs2 (s:List Nat) (v:Int):Zj E Zx6 (vc E Zx6 400) 91 [.str false s,.fn (.func 93) [] []] hp0 0 (fun r=>ret E (patch hp0 0 r) r.v (.int false .i64 v))=(
∃(R:LX->Prop),(∃(x:LX),R x/\true=true/\(s=s/\(Fn.func (93:FuncId)=Fn.func (93:FuncId)/\True/\True)/\(↑(List.length s):Int)=(↑(List.length s):Int)/\(0:Int)=(↑(LX.k x):Int)/\True)/\True)/\∀(x:LX),R x->(decide ((↑(LX.k x):Int)<(↑(List.length s):Int))=true->(0:Int)<=(↑(LX.k x):Int)/\(↑(LX.k x):Int)+(1:Int)<=(↑(List.length s):Int)/\∀(x_1:Nat),s[Int.toNat (↑(LX.k x):Int)]? =some x_1->True/\((!isD (↑x_1:Int))=true->(↑(LX.k x):Int)=v)/\((!isD (↑x_1:Int))=false->∃(x_2:LX),R x_2/\x_2.2+(1:Nat)<=x.2/\true=true/\(s=s/\(Fn.func (93:FuncId)=Fn.func (93:FuncId)/\True/\True)/\(↑(List.length s):Int)=(↑(List.length s):Int)/\wr IntKind.i64 ((↑(LX.k x):Int)+(1:Int))=(↑(LX.k x_2):Int)/\True)/\True))/\(decide ((↑(LX.k x):Int)<(↑(List.length s):Int))=false->(↑(List.length s):Int)=v)):=by kernel_rfl
theorem Zs3 (s:List Nat) (hs:s.length<=1000000000):PureC E 91 [.str false s,.fn (.func 93) [] []] (.int false .i64 (spn isD s)):=by
 refine Zb E_ok (Zh E_ok Zqt 400) ?_
 rw [Zs2]
 refine ⟨fun x=>x.k<=s.length/\x.k+spn isD (s.drop x.k)=spn isD s/\x.r=s.length-x.k,⟨⟨0,s.length,[],0⟩,⟨(by dsimp only;omega),by simp,rfl⟩,by simp⟩,?_⟩
 rintro x ⟨hk,hv,hr⟩
 refine ⟨fun hq=> ?_,fun hq=> ?_⟩
 · have hq:(x.k:Int)<s.length:=by simpa using hq
   refine ⟨by omega,by omega,fun c hc=>⟨trivial,fun hn=> ?_,fun hn=> ?_⟩⟩
   · have hc:s[x.k]? =some c:=hc
     rw [Zd4 hc] at hv
     have hn:isD c=false:=by simpa using hn
     rw [hn] at hv
     simp at hv
     rw [<-hv]
   · have hc:s[x.k]? =some c:=hc
     rw [Zd4 hc] at hv
     have hn:isD c=true:=by simpa using hn
     rw [hn,if_pos rfl] at hv
     exact ⟨⟨x.k+1,s.length-(x.k+1),[],0⟩,⟨(by dsimp only;omega),(by dsimp only;omega),rfl⟩,(by show s.length-(x.k+1)+1<=x.r;omega),rfl,⟨rfl,⟨rfl,trivial,trivial⟩,rfl,wr64 (by omega) (by omega),trivial⟩,trivial⟩
 · have hq:¬(x.k:Int)<s.length:=by simpa using hq
   rw [List.drop_eq_nil_of_le (by omega)] at hv
   have:x.k=spn isD s:=by simpa [spn] using hv
   omega
def Anu:Fr thy->Hp thy->Nat->Ann thy:=fun T h i=>{X:=LX,fr:=fun x=> [(0,T 0),(4,.int false .i64 x.m),(15,T 15),(16,.int false .i64 x.k)],bl:=fun x=> [],src:=fun _=> [],md:= [],ih:=i,M:=i+30,meas:=fun x=>x.r}
noncomputable def Fnum:Fns thy:=addL F0 94 5 Anu E
theorem Z64:FnsOk E Fnum:=Ym E_ok F0_ok _ _ _
def numL (n:Int):List Nat->Int×Int
 | []=>(n,0)
 |c::r=>if 10*n+(c-48)>1099511627776 then (0,2) else numL (10*n+(c-48)) r
def numb (s:List Nat):Int×Int:=if 1<s.length/\s.head? =some 48 then (0,150) else numL 0 s
theorem Zx7 {n:Int} {s:List Nat} {k c:Nat} (h:s[k]? =some c):numL n (s.drop k)=if 10*n+(c-48)>1099511627776 then (0,2) else numL (10*n+(c-48)) (s.drop (k+1)):=by
 have hlt:=(List.getElem?_eq_some_iff.1 h).1
 have hc:s[k]=c:=(List.getElem?_eq_some_iff.1 h).2
 rw [List.drop_eq_getElem_cons hlt,hc];rfl
abbrev qCC1 (a0:LX) (b0:Nat):=(wr IntKind.i64 ((10:Int)*LX.m a0)+wr IntKind.i64 (wr IntKind.u8 ((↑b0:Int)-(48:Int))))
abbrev qCC2 (a0:List Nat):=(↑(List.length a0):Int)
abbrev qCC3 (a0:LX):=(↑(LX.k a0):Int)
abbrev qCC4:=(0:Int)
theorem Zoj (s : List Nat) (v e : Int) : Zj E Fnum (vc E Fnum 400) 94 [.str false s] hp0 0 (fun r => ret E (patch hp0 0 r) r.v (.tup [.int false .i64 v, .int false .i64 e])) = (
 ∃ (Q : Bool → Prop), ((decide ((qCC2 s) > (1 : Int)) = true → qCC4 ≤ qCC4 ∧ qCC4 + (1 : Int) ≤ (qCC2 s) ∧ ∀ (x : Nat), s[Int.toNat qCC4]? = some x → (((↑x : Int) == (48 : Int)) = true → Q true) ∧ (((↑x : Int) == (48 : Int)) = false → Q false)) ∧ (decide ((qCC2 s) > (1 : Int)) = false → Q false)) ∧ (Q true → qCC4 = v ∧ (150 : Int) = e ∧ True) ∧ (Q false → ∃ (R : LX → Prop), (∃ (x : LX), R x ∧ true = true ∧ (s = s ∧ qCC4 = LX.m x ∧ (qCC2 s) = (qCC2 s) ∧ qCC4 = (qCC3 x) ∧ True) ∧ True) ∧ ∀ (x : LX), R x → (decide ((qCC3 x) < (qCC2 s)) = true → qCC4 ≤ (qCC3 x) ∧ (qCC3 x) + (1 : Int) ≤ (qCC2 s) ∧ ∀ (x_1 : Nat), s[Int.toNat (qCC3 x)]? = some x_1 → (decide (wr IntKind.i64 (qCC1 x x_1) > (1099511627776 : Int)) = true → qCC4 = v ∧ (2 : Int) = e ∧ True) ∧ (decide (wr IntKind.i64 (qCC1 x x_1) > (1099511627776 : Int)) = false → ∃ (x_2 : LX), R x_2 ∧ x_2.2 + (1 : Nat) ≤ x.2 ∧ true = true ∧ (s = s ∧ wr IntKind.i64 (qCC1 x x_1) = LX.m x_2 ∧ (qCC2 s) = (qCC2 s) ∧ wr IntKind.i64 ((qCC3 x) + (1 : Int)) = (qCC3 x_2) ∧ True) ∧ True)) ∧ (decide ((qCC3 x) < (qCC2 s)) = false → LX.m x = v ∧ qCC4 = e ∧ True))) := by kernel_rfl
theorem Zok (s : List Nat) (hs : s.length ≤ 1000000000) (hd : ∀ c ∈ s, 48 ≤ c ∧ c ≤ 57) : PureC E 94 [.str false s] (.tup [.int false .i64 (numb s).1, .int false .i64 (numb s).2]) := by
  refine Zb E_ok (Zh E_ok Z64 400) ?_
  rw [Zoj]; delta qCC1 qCC2 qCC3 qCC4
  refine ⟨fun b => b = decide (1 < s.length ∧ s.head? = some 48), ⟨fun h => ?_, fun h => ?_⟩, fun h => ?_, fun h => ?_⟩
  · have h : (1 : Int) < s.length := by simpa using h
    refine ⟨Int.le_refl 0, by omega, fun x hx => ?_⟩
    have hx : s[0]? = some x := hx
    rw [List.head?_eq_getElem?, hx]
    refine ⟨fun h2 => ?_, fun h2 => ?_⟩
    · have h2 : x = 48 := by have : (x : Int) = 48 := by simpa using h2
                             omega
      simp [h2]; omega
    · have h2 : x ≠ 48 := by
        intro e
        subst e
        simp at h2
      simp [h2]
  · have h : ¬ (1 : Int) < s.length := by simpa using h
    have : ¬ 1 < s.length := by omega
    simp [this]
  · have h := (decide_eq_true_iff.1 h.symm)
    unfold numb
    rw [if_pos h]
    exact ⟨rfl, rfl, trivial⟩
  · have h := (decide_eq_false_iff_not.1 h.symm)
    have hn : numb s = numL 0 s := by unfold numb; rw [if_neg h]
    rw [hn]
    refine ⟨fun x => x.k ≤ s.length ∧ numL x.m (s.drop x.k) = numL 0 s ∧ 0 ≤ x.m ∧ x.m ≤ 1099511627776 ∧ x.r = s.length - x.k, ⟨⟨0, s.length, [], 0⟩, ⟨(by dsimp only; omega), rfl, Int.le_refl 0, (by show (0:Int) ≤ 1099511627776; omega), rfl⟩, by simp⟩, ?_⟩
    rintro x ⟨hk, hv, hm0, hm1, hr⟩
    refine ⟨fun hq => ?_, fun hq => ?_⟩
    · have hq : (x.k : Int) < s.length := by simpa using hq
      refine ⟨by omega, by omega, fun c hc => ?_⟩
      have hc : s[x.k]? = some c := hc
      have hcd := hd c (List.mem_of_getElem? hc)
      have w0 : wr .u8 ((c : Int) - 48) = c - 48 := by simp only [wr, IntKind.wrap_u8]; omega
      have w1 : wr .i64 (10 * x.m) = 10 * x.m := wr64 (by omega) (by omega)
      have w2 : wr .i64 ((c : Int) - 48) = c - 48 := wr64 (by omega) (by omega)
      have w3 : wr .i64 (10 * x.m + ((c : Int) - 48)) = 10 * x.m + (c - 48) := wr64 (by omega) (by omega)
      rw [w0, w1, w2, w3]
      rw [Zx7 hc] at hv
      refine ⟨fun h2 => ?_, fun h2 => ?_⟩
      · have h2 : 10 * x.m + ((c : Int) - 48) > 1099511627776 := by simpa using h2
        rw [if_pos h2] at hv
        rw [← hv]
        exact ⟨rfl, rfl, trivial⟩
      · have h2 : ¬ 10 * x.m + ((c : Int) - 48) > 1099511627776 := by simpa using h2
        rw [if_neg h2] at hv
        exact ⟨⟨x.k + 1, s.length - (x.k + 1), [], 10 * x.m + (c - 48)⟩, ⟨(by dsimp only; omega), hv, (by dsimp only; omega), (by dsimp only; omega), rfl⟩, (by show s.length - (x.k + 1) + 1 ≤ x.r; omega), rfl, ⟨rfl, rfl, rfl, wr64 (by omega) (by omega), trivial⟩, trivial⟩
    · have hq : ¬ (x.k : Int) < s.length := by simpa using hq
      rw [List.drop_eq_nil_of_le (by omega)] at hv
      rw [← hv]
      exact ⟨rfl, rfl, trivial⟩
noncomputable def dSF:Dc E Bool where
 dec v:=match v with| .fn (.func f) [] []=>(match Nat.beq f 92 with|true=>some true|false=>(match Nat.beq f 93 with|true=>some false|false=>none))|_=>none
 enc b:= .fn (.func (bif b then 92 else 93)) [] []
 ok v a h:=by
  split at h
  · rename_i f
    split at h
    · rename_i e
      cases h
      have e:=Nat.eq_of_beq_eq_true e
      cases e
      exact ⟨rfl,rfl,fun σ g u hd=>hd⟩
    · split at h
      · rename_i e
        cases h
        have e:=Nat.eq_of_beq_eq_true e
        cases e
        exact ⟨rfl,rfl,fun σ g u hd=>hd⟩
      · cases h
  · cases h
def spF (b:Bool) (s:List Nat):Nat:=bif b then spn isLD s else spn isD s
noncomputable def Z96:Sum thy:=Zal (DcL.cons dS (DcL.cons dSF DcL.nil)) (fun x=>x.1.length<=1000000000) (fun x=>spF x.2.1 x.1) fun (y:Nat)=> .int false .i64 y
theorem Z1u:SumOk E 91 Z96:=Yj E_ok (Zc (f:=91) rfl) fun x h=>by
 obtain ⟨s,b,_⟩:=x
 cases b with
 |true=>exact Zs1 s h
 |false=>exact Zs3 s h
noncomputable def Zx8:Sum thy:=Zal (dA1 dS) (fun x=>x.1.length<=1000000000/\∀c∈x.1,48<=c/\c<=57) (fun x=>numb x.1) fun y=> .tup [.int false .i64 y.1,.int false .i64 y.2]
theorem Zs4:SumOk E 94 Zx8:=Yj E_ok (Zc (f:=94) rfl) fun x h=>Zok x.1 h.1 h.2
noncomputable def Ftok:Fns thy:=addS (addS Flx 91 Z96) 94 Zx8
theorem Z65:FnsOk E Ftok:=Zd (Zd Zx3 Z1u) Zs4
def tokV (t:Tok):SV thy:= .agg [.int false .i64 t.kind,.str false t.text,.int false .i64 t.n,.int false .i64 t.at_]
abbrev qCCa:=(0:Int)
abbrev qCC5 (a0:Tok):=(qCCa=Tok.kind a0/\ []=Tok.text a0/\qCCa=Tok.n a0/\qCCa=Tok.at_ a0/\True)
abbrev qCCb (a0:List Nat):=(↑(List.length a0):Int)
abbrev qCC9 (a0:List Nat):=((qCCb a0)>=(1:Int))
abbrev qCCc:=(150:Int)
abbrev qCC6 (a0:List Nat) (b0:Tok) (c0:Int):=(decide (qCC9 a0)=false->(qCC5 b0)/\qCCc=c0/\True)
abbrev qCC7 (a0:List Nat):=(qCCa<=(1:Int)/\(1:Int)<=(qCCb a0))
abbrev qCC8:=(Int.toNat (1:Int))
abbrev qCCf (a0:Nat):=(↑a0:Int)
abbrev qCCd (a0:Nat):=(Int.toNat (qCCf a0))
abbrev qCCe:=(3:Int)
theorem Zs5 (s:List Nat) (t:Tok) (e:Int):Zj E Ftok (vc E Ftok 400) 63 [.str false s] hp0 0 (fun r=>ret E (patch hp0 0 r) r.v (.tup [tokV t,.int false .i64 e]))=(
 qCCa<=qCCa/\qCCa+(1:Int)<=(qCCb s)/\∀(x:Nat),s[Int.toNat qCCa]? =some x->True/\(isL (qCCf x)=true->List.length s<=(1000000000:Nat)/\∀(y:Nat),y=spF true s->(qCCa<=(qCCf y)/\(qCCf y)<=(qCCb s))/\(decide ((↑(List.length (List.take (qCCd y) s)):Int)>(32:Int))=true->(qCC5 t)/\(2:Int)=e/\True)/\(decide ((↑(List.length (List.take (qCCd y) s)):Int)>(32:Int))=false->((1:Int)=Tok.kind t/\List.take (qCCd y) s=Tok.text t/\qCCa=Tok.n t/\qCCa=Tok.at_ t/\True)/\qCCa=e/\True))/\(isL (qCCf x)=false->True/\(isD (qCCf x)=true->List.length s<=(1000000000:Nat)/\∀(y:Nat),y=spF false s->(qCCa<=(qCCf y)/\(qCCf y)<=(qCCb s))/\(List.length (List.take (qCCd y) s)<=(1000000000:Nat)/\∀(c:Nat),c∈List.take (qCCd y) s->(48:Nat)<=c/\c<=(57:Nat))/\∀(y_1:Int×Int),y_1=numb (List.take (qCCd y) s)->((2:Int)=Tok.kind t/\List.take (qCCd y) s=Tok.text t/\Prod.fst y_1=Tok.n t/\qCCa=Tok.at_ t/\True)/\Prod.snd y_1=e/\True)/\(isD (qCCf x)=false->qCCa<=qCCa/\qCCa+(1:Int)<=(qCCb s)/\∀(x:Nat),s[Int.toNat qCCa]? =some x->(((qCCf x)==(↑(123:Nat):Int))=true->(decide (qCC9 s)=true->(qCC7 s)/\((List.take qCC8 s== [(123:Nat)])=true->(qCCe=Tok.kind t/\ [(123:Nat)]=Tok.text t/\qCCa=Tok.n t/\qCCa=Tok.at_ t/\True)/\qCCa=e/\True)/\((List.take qCC8 s== [(123:Nat)])=false->(qCC5 t)/\qCCc=e/\True))/\(qCC6 s t e))/\(((qCCf x)==(↑(123:Nat):Int))=false->(((qCCf x)==(↑(125:Nat):Int))=true->(decide (qCC9 s)=true->(qCC7 s)/\((List.take qCC8 s== [(125:Nat)])=true->(qCCe=Tok.kind t/\ [(125:Nat)]=Tok.text t/\qCCa=Tok.n t/\qCCa=Tok.at_ t/\True)/\qCCa=e/\True)/\((List.take qCC8 s== [(125:Nat)])=false->(qCC5 t)/\qCCc=e/\True))/\(qCC6 s t e))/\(((qCCf x)==(↑(125:Nat):Int))=false->(((qCCf x)==(↑(40:Nat):Int))=true->(decide (qCC9 s)=true->(qCC7 s)/\((List.take qCC8 s== [(40:Nat)])=true->(qCCe=Tok.kind t/\ [(40:Nat)]=Tok.text t/\qCCa=Tok.n t/\qCCa=Tok.at_ t/\True)/\qCCa=e/\True)/\((List.take qCC8 s== [(40:Nat)])=false->(qCC5 t)/\qCCc=e/\True))/\(qCC6 s t e))/\(((qCCf x)==(↑(40:Nat):Int))=false->(((qCCf x)==(↑(41:Nat):Int))=true->(decide (qCC9 s)=true->(qCC7 s)/\((List.take qCC8 s== [(41:Nat)])=true->(qCCe=Tok.kind t/\ [(41:Nat)]=Tok.text t/\qCCa=Tok.n t/\qCCa=Tok.at_ t/\True)/\qCCa=e/\True)/\((List.take qCC8 s== [(41:Nat)])=false->(qCC5 t)/\qCCc=e/\True))/\(qCC6 s t e))/\(((qCCf x)==(↑(41:Nat):Int))=false->(((qCCf x)==(↑(59:Nat):Int))=true->(decide (qCC9 s)=true->(qCC7 s)/\((List.take qCC8 s== [(59:Nat)])=true->(qCCe=Tok.kind t/\ [(59:Nat)]=Tok.text t/\qCCa=Tok.n t/\qCCa=Tok.at_ t/\True)/\qCCa=e/\True)/\((List.take qCC8 s== [(59:Nat)])=false->(qCC5 t)/\qCCc=e/\True))/\(qCC6 s t e))/\(((qCCf x)==(↑(59:Nat):Int))=false->(((qCCf x)==(↑(44:Nat):Int))=true->(decide (qCC9 s)=true->(qCC7 s)/\((List.take qCC8 s== [(44:Nat)])=true->(qCCe=Tok.kind t/\ [(44:Nat)]=Tok.text t/\qCCa=Tok.n t/\qCCa=Tok.at_ t/\True)/\qCCa=e/\True)/\((List.take qCC8 s== [(44:Nat)])=false->(qCC5 t)/\qCCc=e/\True))/\(qCC6 s t e))/\(((qCCf x)==(↑(44:Nat):Int))=false->(((qCCf x)==(↑(43:Nat):Int))=true->(decide (qCC9 s)=true->(qCC7 s)/\((List.take qCC8 s== [(43:Nat)])=true->(qCCe=Tok.kind t/\ [(43:Nat)]=Tok.text t/\qCCa=Tok.n t/\qCCa=Tok.at_ t/\True)/\qCCa=e/\True)/\((List.take qCC8 s== [(43:Nat)])=false->(qCC5 t)/\qCCc=e/\True))/\(qCC6 s t e))/\(((qCCf x)==(↑(43:Nat):Int))=false->(((qCCf x)==(↑(45:Nat):Int))=true->(decide (qCC9 s)=true->(qCC7 s)/\((List.take qCC8 s== [(45:Nat)])=true->(qCCe=Tok.kind t/\ [(45:Nat)]=Tok.text t/\qCCa=Tok.n t/\qCCa=Tok.at_
t/\True)/\qCCa=e/\True)/\((List.take qCC8 s== [(45:Nat)])=false->(qCC5 t)/\qCCc=e/\True))/\(qCC6 s t e))/\(((qCCf x)==(↑(45:Nat):Int))=false->(((qCCf x)==(↑(42:Nat):Int))=true->(decide (qCC9 s)=true->(qCC7 s)/\((List.take qCC8 s== [(42:Nat)])=true->(qCCe=Tok.kind t/\ [(42:Nat)]=Tok.text t/\qCCa=Tok.n t/\qCCa=Tok.at_ t/\True)/\qCCa=e/\True)/\((List.take qCC8 s== [(42:Nat)])=false->(qCC5 t)/\qCCc=e/\True))/\(qCC6 s t e))/\(((qCCf x)==(↑(42:Nat):Int))=false->(((qCCf x)==(↑(60:Nat):Int))=true->(decide (qCC9 s)=true->(qCC7 s)/\((List.take qCC8 s== [(60:Nat)])=true->(qCCe=Tok.kind t/\ [(60:Nat)]=Tok.text t/\qCCa=Tok.n t/\qCCa=Tok.at_ t/\True)/\qCCa=e/\True)/\((List.take qCC8 s== [(60:Nat)])=false->(qCC5 t)/\qCCc=e/\True))/\(qCC6 s t e))/\(((qCCf x)==(↑(60:Nat):Int))=false->(((qCCf x)==(↑(46:Nat):Int))=true->(decide ((qCCb s)>=(2:Int))=true->(qCCa<=(2:Int)/\(2:Int)<=(qCCb s))/\((List.take (Int.toNat (2:Int)) s== [(46:Nat),(46:Nat)])=true->(qCCe=Tok.kind t/\ [(46:Nat),(46:Nat)]=Tok.text t/\qCCa=Tok.n t/\qCCa=Tok.at_ t/\True)/\qCCa=e/\True)/\((List.take (Int.toNat (2:Int)) s== [(46:Nat),(46:Nat)])=false->(qCC5 t)/\qCCc=e/\True))/\(decide ((qCCb s)>=(2:Int))=false->(qCC5 t)/\qCCc=e/\True))/\(((qCCf x)==(↑(46:Nat):Int))=false->(qCC5 t)/\qCCc=e/\True)))))))))))))):=by kernel_rfl
def sgnW (c:Nat):Option (List Nat):=
 if c=123 then some [123] else if c=125 then some [125] else if c=40 then some [40] else if c=41 then some [41] else if c=59 then some [59] else if c=44 then some [44]
 else if c=43 then some [43] else if c=45 then some [45] else if c=42 then some [42] else if c=60 then some [60] else if c=46 then some [46,46] else none
def z0:Tok:=⟨0,[],0,0⟩
def tokS (s w:List Nat):Tok×Int:=if s.take w.length=w then (⟨3,w,0,0⟩,0) else (z0,150)
def tokP:List Nat->Tok×Int
 | []=>(z0,150)
 |c::r=>if isL c then (if 32<spn isLD (c::r) then (z0,2) else (⟨1,(c::r).take (spn isLD (c::r)),0,0⟩,0))
  else if isD c then (⟨2,(c::r).take (spn isD (c::r)),(numb ((c::r).take (spn isD (c::r)))).1,0⟩,(numb ((c::r).take (spn isD (c::r)))).2)
  else match sgnW c with|some w=>tokS (c::r) w|none=>(z0,150)
theorem Yo (c:Nat) (r:List Nat):tokP (c::r)=if isL c then (if 32<spn isLD (c::r) then (z0,2) else (⟨1,(c::r).take (spn isLD (c::r)),0,0⟩,0))
 else if isD c then (⟨2,(c::r).take (spn isD (c::r)),(numb ((c::r).take (spn isD (c::r)))).1,0⟩,(numb ((c::r).take (spn isD (c::r)))).2)
 else match sgnW c with|some w=>tokS (c::r) w|none=>(z0,150):=rfl
theorem Zi2 {f:Int->Bool}:∀{s:List Nat} {c:Nat},c∈s.take (spn f s)->f c=true
 | [],c,h=>by simp at h
 |x::r,c,h=>by
  unfold spn at h
  split at h
  · rename_i hx
    rw [List.take_succ_cons,List.mem_cons] at h
    rcases h with rfl|h
    · exact hx
    · exact Zi2 h
  · simp at h
theorem Ux (s w:List Nat) (k:Int) (hk:k=w.length):
 (decide ((↑(List.length s):Int)>=k)=true->((0:Int)<=k/\k<=(↑(List.length s):Int))/\((List.take (Int.toNat k) s==w)=true->((3:Int)=Tok.kind (tokS s w).1/\w=Tok.text (tokS s w).1/\(0:Int)=Tok.n (tokS s w).1/\(0:Int)=Tok.at_ (tokS s w).1/\True)/\(0:Int)=(tokS s w).2/\True)/\
  ((List.take (Int.toNat k) s==w)=false->((0:Int)=Tok.kind (tokS s w).1/\ []=Tok.text (tokS s w).1/\(0:Int)=Tok.n (tokS s w).1/\(0:Int)=Tok.at_ (tokS s w).1/\True)/\(150:Int)=(tokS s w).2/\True))/\
 (decide ((↑(List.length s):Int)>=k)=false->((0:Int)=Tok.kind (tokS s w).1/\ []=Tok.text (tokS s w).1/\(0:Int)=Tok.n (tokS s w).1/\(0:Int)=Tok.at_ (tokS s w).1/\True)/\(150:Int)=(tokS s w).2/\True):=by
 have e:Int.toNat k=w.length:=by omega
 rw [e]
 unfold tokS
 refine ⟨fun h=> ?_,fun h=> ?_⟩
 · have h:(s.length:Int)>=k:=by simpa using h
   refine ⟨⟨by omega,by omega⟩,fun h2=> ?_,fun h2=> ?_⟩
   · have h2:List.take w.length s=w:=by simpa using h2
     rw [if_pos h2]
     exact ⟨⟨rfl,rfl,rfl,rfl,trivial⟩,rfl,trivial⟩
   · have h2:List.take w.length s≠w:=by simpa using h2
     rw [if_neg h2]
     exact ⟨⟨rfl,rfl,rfl,rfl,trivial⟩,rfl,trivial⟩
 · have h:¬(s.length:Int)>=k:=by simpa using h
   have h2:List.take w.length s≠w:=fun e=>by
    have:=congrArg List.length e
    rw [List.length_take] at this
    omega
   rw [if_neg h2]
   exact ⟨⟨rfl,rfl,rfl,rfl,trivial⟩,rfl,trivial⟩
theorem Zs6 (s : List Nat) (h0 : 0 < s.length) (hs : s.length ≤ 1000000000) : PureC E 63 [.str false s] (.tup [tokV (tokP s).1, .int false .i64 (tokP s).2]) := by
  refine Zb E_ok (Zh E_ok Z65 400) ?_
  rw [Zs5]; delta qCCa qCC5 qCCb qCC9 qCCc qCC6 qCC7 qCC8 qCCf qCCd qCCe
  cases s with
  | nil => exact absurd h0 (by simp)
  | cons c r =>
  refine ⟨Int.le_refl 0, by simp only [List.length_cons]; omega, fun x hx => ?_⟩
  have hx : (c :: r)[0]? = some x := hx
  rw [List.getElem?_cons_zero] at hx
  cases hx
  refine ⟨trivial, fun hl => ?_, fun hl => ?_⟩
  · refine ⟨hs, fun y hy => ?_⟩
    have hy : y = spn isLD (c :: r) := hy
    have hle : y ≤ (c :: r).length := hy ▸ Zlc
    have hm : min y (c :: r).length = y := Nat.min_eq_left hle
    have e1 : Int.toNat (y : Int) = y := by omega
    rw [e1, List.length_take, hm]
    rw [Yo, if_pos hl, ← hy]
    refine ⟨⟨by omega, by omega⟩, fun h => ?_, fun h => ?_⟩
    · have h : (32 : Int) < y := by simpa using h
      rw [if_pos (by omega)]
      exact ⟨⟨rfl, rfl, rfl, rfl, trivial⟩, rfl, trivial⟩
    · have h : ¬ (32 : Int) < y := by simpa using h
      rw [if_neg (by omega)]
      exact ⟨⟨rfl, rfl, rfl, rfl, trivial⟩, rfl, trivial⟩
  refine ⟨trivial, fun hd => ?_, fun hd => ?_⟩
  · refine ⟨hs, fun y hy => ?_⟩
    have hy : y = spn isD (c :: r) := hy
    have hle : y ≤ (c :: r).length := hy ▸ Zlc
    have hm : min y (c :: r).length = y := Nat.min_eq_left hle
    have e1 : Int.toNat (y : Int) = y := by omega
    rw [e1, List.length_take, hm]
    rw [Yo, if_neg (by rw [hl]; decide), if_pos hd, ← hy]
    refine ⟨⟨by omega, by omega⟩, ⟨by omega, fun c' hc' => ?_⟩, fun q hq => ?_⟩
    · rw [hy] at hc'
      have := Zi2 hc'
      unfold isD at this
      simp at this
      omega
    · subst hq
      exact ⟨⟨rfl, rfl, rfl, rfl, trivial⟩, rfl, trivial⟩
  refine ⟨Int.le_refl 0, by simp only [List.length_cons]; omega, fun x hx => ?_⟩
  have hx : (c :: r)[0]? = some x := hx
  rw [List.getElem?_cons_zero] at hx
  cases hx
  have hp : ∀ w, sgnW c = some w → tokP (c :: r) = tokS (c :: r) w := fun w hw => by
    rw [Yo, if_neg (by rw [hl]; decide), if_neg (by rw [hd]; decide), hw]
  have st : ∀ (n : Nat) (w : List Nat), sgnW n = some w → ((c : Int) == (n : Int)) = true → tokP (c :: r) = tokS (c :: r) w := fun n w hw h => by
    have : c = n := by have : (c : Int) = n := by simpa using h
                       omega
    subst this
    exact hp w hw
  refine ⟨fun h => by rw [st _ _ rfl h]; exact Ux _ _ _ rfl, fun h1 => ?_⟩
  refine ⟨fun h => by rw [st _ _ rfl h]; exact Ux _ _ _ rfl, fun h2 => ?_⟩
  refine ⟨fun h => by rw [st _ _ rfl h]; exact Ux _ _ _ rfl, fun h3 => ?_⟩
  refine ⟨fun h => by rw [st _ _ rfl h]; exact Ux _ _ _ rfl, fun h4 => ?_⟩
  refine ⟨fun h => by rw [st _ _ rfl h]; exact Ux _ _ _ rfl, fun h5 => ?_⟩
  refine ⟨fun h => by rw [st _ _ rfl h]; exact Ux _ _ _ rfl, fun h6 => ?_⟩
  refine ⟨fun h => by rw [st _ _ rfl h]; exact Ux _ _ _ rfl, fun h7 => ?_⟩
  refine ⟨fun h => by rw [st _ _ rfl h]; exact Ux _ _ _ rfl, fun h8 => ?_⟩
  refine ⟨fun h => by rw [st _ _ rfl h]; exact Ux _ _ _ rfl, fun h9 => ?_⟩
  refine ⟨fun h => by rw [st _ _ rfl h]; exact Ux _ _ _ rfl, fun h10 => ?_⟩
  refine ⟨fun h => by rw [st _ _ rfl h]; exact Ux _ _ _ rfl, fun h11 => ?_⟩
  have hn : sgnW c = none := by
    have f : ∀ n : Nat, ((c : Int) == (n : Int)) = false → c ≠ n := fun n h e => by subst e; simp at h
    unfold sgnW
    rw [if_neg (f _ h1), if_neg (f _ h2), if_neg (f _ h3), if_neg (f _ h4), if_neg (f _ h5), if_neg (f _ h6), if_neg (f _ h7), if_neg (f _ h8), if_neg (f _ h9), if_neg (f _ h10), if_neg (f _ h11)]
  have : tokP (c :: r) = (z0, 150) := by
    rw [Yo, if_neg (by rw [hl]; decide), if_neg (by rw [hd]; decide), hn]
  rw [this]
  exact ⟨⟨rfl, rfl, rfl, rfl, trivial⟩, rfl, trivial⟩
noncomputable def Z3r:Sum thy:=Zal (dA1 dS) (fun x=>0<x.1.length/\x.1.length<=1000000000) (fun x=>tokP x.1) fun y=> .tup [tokV y.1,.int false .i64 y.2]
theorem Zx9:SumOk E 63 Z3r:=Yj E_ok (Zc (f:=63) rfl) fun x h=>Zs6 x.1 h.1 h.2
structure TkX where
 at_:Nat
 ts:List Tok
 r:Nat
def Atk:Fr thy->Hp thy->Nat->Ann thy:=fun T h i=>{X:=Bool×TkX,fr:=fun x=> [(0,T 0),(5,match x.1 with|true=> .sl i 0 x.2.ts.length 4 none|false=> .val (.slice none 0 0)),(6,.int false .i64 x.2.at_)],bl:=fun x=>(match x.1 with|true=> [(i,.rows Th.toks x.2.ts 0)]|false=> []),src:=fun x=>(match x.1 with|true=> [(i,5)]|false=> []),md:= [],ih:=i+1,M:=i+60,meas:=fun x=>x.2.r,ex:=ex2,al:=al2,exOk:=Zv8,alOk:=Zv9}
noncomputable def Ftk:Fns thy:=addL (addS F0 63 Z3r) 27 5 Atk E
theorem Z97:FnsOk E Ftk:=Ym E_ok (Zd F0_ok Zx9) _ _ _
abbrev qCCg (a0:TkX):=(↑(TkX.at_ a0):Int)
abbrev qCCl:=(0:Nat)
abbrev qCCp:=(1:Nat)
abbrev qCCh (a0:Bool×TkX->Prop) (b0:TkX) (c0:List Nat):=(∃(y_1:TkX),a0 (false,y_1)/\y_1.3+qCCp<=b0.3/\true=true/\(c0=c0/\Value.slice none qCCl qCCl=Value.slice none qCCl qCCl/\wr IntKind.i64 ((qCCg b0)+(1:Int))=(qCCg y_1)/\True)/\True)
abbrev qCCi (a0:Bool×TkX->Prop) (b0:TkX) (c0:List Nat):=(∃(y_1:TkX),a0 (false,y_1)/\y_1.3+qCCp<=b0.3/\true=true/\(c0=c0/\False/\wr IntKind.i64 ((qCCg b0)+(1:Int))=(qCCg y_1)/\True)/\True)
abbrev qCCj (a0:List Nat) (b0:TkX) (c0:TkX):=(a0=a0/\(qCCl=qCCl/\List.length (TkX.ts b0)=List.length (TkX.ts c0)/\True)/\wr IntKind.i64 ((qCCg b0)+(1:Int))=(qCCg c0)/\True)
abbrev qCCk (a0:TkX) (b0:List Nat):=(List.drop (Int.toNat (qCCg a0)) b0)
abbrev qCCm:=(Int.toNat (10:Int)%(256:Nat))
abbrev qCCn (a0:List Nat):=(↑(List.length a0):Int)
abbrev qCCo:=(0:Int)
abbrev qCCq (a0:TkX) (b0:Tok×Int):=((qCCg a0)+(↑(List.length (Tok.text (Prod.fst b0))):Int))
abbrev qCCr (a0:TkX) (b0:List Nat):=((qCCg a0)+wr IntKind.i64 (idxL qCCm qCCl (qCCk a0 b0)+(1:Int)))
abbrev qCCs (a0:TkX) (b0:TkX):=(TkX.ts a0=TkX.ts b0/\qCCl=qCCl)
abbrev qCCt (a0:TkX) (b0:List Tok):=(qCCl+List.length (TkX.ts a0)<=List.length (TkX.ts a0)/\List.take (List.length (TkX.ts a0)) (TkX.ts a0)=b0)
abbrev qCCu (a0:TkX) (b0:List Nat):=(qCCo<=(qCCg a0)/\(qCCg a0)<=(qCCn b0))
theorem Zol (s:List Nat) (l:List Tok) (a e:Int):Zj E Ftk (vc E Ftk 400) 27 [.str false s] hp0 0 (fun r=>ret E (patch hp0 0 r) r.v (.tup [.psl Th.toks l false,.int false .i64 a,.int false .i64 e]))=(
 (decide ((qCCn s)>(2000:Int))=true->l= []/\qCCo=a/\(2:Int)=e/\True)/\(decide ((qCCn s)>(2000:Int))=false->∃(R:Bool×TkX->Prop),((∃(y:TkX),R (false,y)/\true=true/\(s=s/\Value.slice none qCCl qCCl=Value.slice none qCCl qCCl/\qCCo=(qCCg y)/\True)/\True)\/∃(y:TkX),R (true,y)/\true=true/\False)/\(∀(y:TkX),R (false,y)->(decide ((qCCg y)<(qCCn s))=true->qCCo<=(qCCg y)/\(qCCg y)+(1:Int)<=(qCCn s)/\∀(x:Nat),s[Int.toNat (qCCg y)]? =some x->(((↑x:Int)==(32:Int))=true->(qCCh R y s)\/∃(y_1:TkX),R (true,y_1)/\y_1.3+qCCp<=y.3/\true=true/\False)/\(((↑x:Int)==(32:Int))=false->(((↑x:Int)==(9:Int))=true->(qCCh R y s)\/∃(y_1:TkX),R (true,y_1)/\y_1.3+qCCp<=y.3/\true=true/\False)/\(((↑x:Int)==(9:Int))=false->(((↑x:Int)==(13:Int))=true->(qCCh R y s)\/∃(y_1:TkX),R (true,y_1)/\y_1.3+qCCp<=y.3/\true=true/\False)/\(((↑x:Int)==(13:Int))=false->(((↑x:Int)==(10:Int))=true->(qCCh R y s)\/∃(y_1:TkX),R (true,y_1)/\y_1.3+qCCp<=y.3/\true=true/\False)/\(((↑x:Int)==(10:Int))=false->(((↑x:Int)==(35:Int))=true->(qCCu y s)/\(decide (idxL qCCm qCCl (qCCk y s)<qCCo)=true->l= []/\qCCo=a/\qCCo=e/\True)/\(decide (idxL qCCm qCCl (qCCk y s)<qCCo)=false->(∃(y_1:TkX),R (false,y_1)/\y_1.3+qCCp<=y.3/\true=true/\(s=s/\Value.slice none qCCl qCCl=Value.slice none qCCl qCCl/\wr IntKind.i64 (qCCr y s)=(qCCg y_1)/\True)/\True)\/∃(y_1:TkX),R (true,y_1)/\y_1.3+qCCp<=y.3/\true=true/\False))/\(((↑x:Int)==(35:Int))=false->(qCCu y s)/\(qCCl+qCCp<=List.length (qCCk y s)/\List.length (qCCk y s)<=(1000000000:Nat))/\∀(y_1:Tok×Int),y_1=tokP (qCCk y s)->((Prod.snd y_1 !=qCCo)=true->l= []/\(qCCg y)=a/\Prod.snd y_1=e/\True)/\((Prod.snd y_1 !=qCCo)=false->(∃(y_2:TkX),R (false,y_2)/\y_2.3+qCCp<=y.3/\true=true/\(s=s/\False/\wr IntKind.i64 (qCCq y y_1)=(qCCg y_2)/\True)/\True)\/∃(y_2:TkX),R (true,y_2)/\y_2.3+qCCp<=y.3/\true=true/\(s=s/\(qCCl=qCCl/\qCCp=List.length (TkX.ts y_2)/\True)/\wr IntKind.i64 (qCCq y y_1)=(qCCg y_2)/\True)/\([Tok.mk (Tok.kind (Prod.fst y_1)) (Tok.text (Prod.fst y_1)) (Tok.n (Prod.fst y_1)) (qCCg y)]=TkX.ts y_2/\qCCl=qCCl)/\True)))))))/\(decide ((qCCg y)<(qCCn s))=false->l= []/\qCCo=a/\qCCo=e/\True))/\∀(y:TkX),R (true,y)->(decide ((qCCg y)<(qCCn s))=true->qCCo<=(qCCg y)/\(qCCg y)+(1:Int)<=(qCCn s)/\∀(x:Nat),s[Int.toNat (qCCg y)]? =some x->(((↑x:Int)==(32:Int))=true->(qCCi R y s)\/∃(y_1:TkX),R (true,y_1)/\y_1.3+qCCp<=y.3/\true=true/\(qCCj s y y_1)/\(qCCs y y_1)/\True)/\(((↑x:Int)==(32:Int))=false->(((↑x:Int)==(9:Int))=true->(qCCi R y s)\/∃(y_1:TkX),R (true,y_1)/\y_1.3+qCCp<=y.3/\true=true/\(qCCj s y y_1)/\(qCCs y y_1)/\True)/\(((↑x:Int)==(9:Int))=false->(((↑x:Int)==(13:Int))=true->(qCCi R y s)\/∃(y_1:TkX),R (true,y_1)/\y_1.3+qCCp<=y.3/\true=true/\(qCCj s y y_1)/\(qCCs y y_1)/\True)/\(((↑x:Int)==(13:Int))=false->(((↑x:Int)==(10:Int))=true->(qCCi R y s)\/∃(y_1:TkX),R (true,y_1)/\y_1.3+qCCp<=y.3/\true=true/\(qCCj s y y_1)/\(qCCs y y_1)/\True)/\(((↑x:Int)==(10:Int))=false->(((↑x:Int)==(35:Int))=true->(qCCu y s)/\(decide (idxL qCCm qCCl (qCCk y s)<qCCo)=true->(qCCt y l)/\qCCo=a/\qCCo=e/\True)/\(decide (idxL qCCm qCCl (qCCk y s)<qCCo)=false->(∃(y_1:TkX),R (false,y_1)/\y_1.3+qCCp<=y.3/\true=true/\(s=s/\False/\wr IntKind.i64 (qCCr y s)=(qCCg y_1)/\True)/\True)\/∃(y_1:TkX),R (true,y_1)/\y_1.3+qCCp<=y.3/\true=true/\(s=s/\(qCCl=qCCl/\List.length (TkX.ts y)=List.length (TkX.ts y_1)/\True)/\wr IntKind.i64 (qCCr y s)=(qCCg y_1)/\True)/\(qCCs y y_1)/\True))/\
(((↑x:Int)==(35:Int))=false->(qCCu y s)/\(qCCl+qCCp<=List.length (qCCk y s)/\List.length (qCCk y s)<=(1000000000:Nat))/\∀(y_1:Tok×Int),y_1=tokP (qCCk y s)->((Prod.snd y_1 !=qCCo)=true->l= []/\(qCCg y)=a/\Prod.snd y_1=e/\True)/\((Prod.snd y_1 !=qCCo)=false->(List.length (TkX.ts y)<=List.length (TkX.ts y)/\qCCl<=List.length (TkX.ts y)/\(List.length (TkX.ts y)+qCCp)*(40:Nat)<=(140737488355328:Nat))/\((∃(y_2:TkX),R (false,y_2)/\y_2.3+qCCp<=y.3/\true=true/\(s=s/\False/\wr IntKind.i64 (qCCq y y_1)=(qCCg y_2)/\True)/\True)\/∃(y_2:TkX),R (true,y_2)/\y_2.3+qCCp<=y.3/\true=true/\(s=s/\(qCCl=qCCl/\List.length (TkX.ts y)+qCCp=List.length (TkX.ts y_2)/\True)/\wr IntKind.i64 (qCCq y y_1)=(qCCg y_2)/\True)/\(List.take (List.length (TkX.ts y)) (TkX.ts y)++ [Tok.mk (Tok.kind (Prod.fst y_1)) (Tok.text (Prod.fst y_1)) (Tok.n (Prod.fst y_1)) (qCCg y)]=TkX.ts y_2/\qCCl=qCCl)/\True))))))))/\(decide ((qCCg y)<(qCCn s))=false->(qCCt y l)/\qCCo=a/\qCCo=e/\True))):=by kernel_rfl
def blk (c:Nat):Bool:=c=32||c=9||c=13||c=10
def tksL:Nat->List Nat->Nat->List Tok->List Tok×Int×Int
 |0,_,_,ts=>(ts,0,0)
 |k+1,s,p,ts=>match s[p]? with
  |none=>(ts,0,0)
  |some c=>if blk c then tksL k s (p+1) ts
   else if c=35 then (if idxL 10 0 (s.drop p)<0 then (ts,0,0) else tksL k s (p+(idxL 10 0 (s.drop p)).toNat+1) ts)
   else if (tokP (s.drop p)).2≠0 then ([],p,(tokP (s.drop p)).2)
   else tksL k s (p+(tokP (s.drop p)).1.text.length) (ts++ [⟨(tokP (s.drop p)).1.kind,(tokP (s.drop p)).1.text,(tokP (s.drop p)).1.n,p⟩])
def Yp (s:List Nat):List Tok×Int×Int:=if 2000<s.length then ([],0,2) else tksL s.length s 0 []
theorem Zom (c:Nat):∀(l:List Nat) (j:Nat),idxL c j l<j+l.length/\ -1<=idxL c j l
 | [],j=>by unfold idxL;simp;try omega
 |x::r,j=>by
  unfold idxL
  split
  · simp;try omega
  · have:=Zom c r (j+1)
    simp only [List.length_cons]
    omega
theorem Z1v {c:Nat} {w:List Nat} (h:sgnW c=some w):1<=w.length:=by
 unfold sgnW at h
 repeat' split at h
 all_goals (cases h<;>simp)
theorem Zqu {s:List Nat} (h:(tokP s).2=0):1<=(tokP s).1.text.length/\(tokP s).1.text.length<=s.length/\(tokP s).1.text=s.take (tokP s).1.text.length:=by
 cases s with
 |nil=>cases h
 |cons c r=>
  rw [Yo] at h⊢
  have go:∀n,1<=n->n<=(c::r).length->1<=((c::r).take n).length/\((c::r).take n).length<=(c::r).length/\(c::r).take n=(c::r).take ((c::r).take n).length:=fun n h1 h2=>by
   have e:((c::r).take n).length=n:=by rw [List.length_take];omega
   rw [e]
   exact ⟨h1,h2,rfl⟩
  split at h
  · rename_i hl
    rw [if_pos hl]
    split at h
    · cases h
    · rename_i hn
      rw [if_neg hn]
      refine go _ ?_ Zlc
      have:isLD c=true:=by unfold isLD;rw [hl];rfl
      unfold spn
      rw [if_pos this]
      omega
  · rename_i hl
    rw [if_neg hl]
    split at h
    · rename_i hd
      rw [if_pos hd]
      refine go _ ?_ Zlc
      unfold spn
      rw [if_pos hd]
      omega
    · rename_i hd
      rw [if_neg hd]
      split at h
      · rename_i w hw
        unfold tokS at h⊢
        split at h
        · rename_i ht
          have e:=congrArg List.length ht
          rw [List.length_take] at e
          refine ⟨?_,?_,?_⟩
          · simp only [if_pos ht]
            exact Z1v hw
          · simp only [if_pos ht]
            omega
          · simp only [if_pos ht]
            exact ht.symm
        · cases h
      · cases h
def TkI (s:List Nat) (res:List Tok×Int×Int) (y:TkX):Prop:=y.at_<=s.length/\s.length<=y.at_+y.r/\y.ts.length<=y.at_/\tksL y.r s y.at_ y.ts=res
theorem Z3s {s:List Nat} {res} {y:TkX} (h:TkI s res y) (hq:¬y.at_<s.length):res=(y.ts,0,0):=by
 obtain ⟨h1,h2,h3,h4⟩:=h
 rw [<-h4]
 cases hr:y.r with
 |zero=>rfl
 |succ k=>
  unfold tksL
  rw [List.getElem?_eq_none (by omega)]
theorem Zfq {s:List Nat} {res} {y:TkX} {c:Nat} (h:TkI s res y) (hc:s[y.at_]? =some c):∃k,y.r=k+1/\s.length<=y.at_+(k+1)/\y.at_<s.length/\(if blk c then tksL k s (y.at_+1) y.ts
 else if c=35 then (if idxL 10 0 (s.drop y.at_)<0 then (y.ts,0,0) else tksL k s (y.at_+(idxL 10 0 (s.drop y.at_)).toNat+1) y.ts)
 else if (tokP (s.drop y.at_)).2≠0 then ([],y.at_,(tokP (s.drop y.at_)).2)
 else tksL k s (y.at_+(tokP (s.drop y.at_)).1.text.length) (y.ts++ [⟨(tokP (s.drop y.at_)).1.kind,(tokP (s.drop y.at_)).1.text,(tokP (s.drop y.at_)).1.n,y.at_⟩]))=res:=by
 obtain ⟨h1,h2,h3,h4⟩:=h
 have hlt:=(List.getElem?_eq_some_iff.1 hc).1
 cases hr:y.r with
 |zero=>omega
 |succ k=>
  refine ⟨k,rfl,by omega,hlt,?_⟩
  rw [hr] at h4
  unfold tksL at h4
  rw [hc] at h4
  exact h4
theorem Zqv {s:List Nat} {res} {y:TkX} {c:Nat} (h:TkI s res y) (hc:s[y.at_]? =some c) (hb:blk c=true):TkI s res ⟨y.at_+1,y.ts,y.r-1⟩/\y.r-1+1<=y.r/\y.at_<s.length:=by
 obtain ⟨k,hr,hk,hl,he⟩:=Zfq h hc
 rw [if_pos hb] at he
 have h3:=h.2.2.1
 refine ⟨⟨hl,?_,?_,?_⟩,by omega,hl⟩
 · show s.length<=y.at_+1+(y.r-1)
   omega
 · show y.ts.length<=y.at_+1
   omega
 · rw [hr]
   exact he
theorem Z3t {s:List Nat} {res} {y:TkX} {c:Nat} (h:TkI s res y) (hc:s[y.at_]? =some c) (hb:blk c=false) (h35:c=35) (hi:¬idxL 10 0 (s.drop y.at_)<0):TkI s res ⟨y.at_+(idxL 10 0 (s.drop y.at_)).toNat+1,y.ts,y.r-1⟩/\y.r-1+1<=y.r/\y.at_+(idxL 10 0 (s.drop y.at_)).toNat+1<=s.length:=by
 obtain ⟨k,hr,hk,hl,he⟩:=Zfq h hc
 rw [if_neg (by rw [hb];decide),if_pos h35,if_neg hi] at he
 have h3:=h.2.2.1
 have hb:=(Zom 10 (s.drop y.at_) 0).1
 rw [List.length_drop] at hb
 refine ⟨⟨?_,?_,?_,?_⟩,by omega,by omega⟩
 · show y.at_+(idxL 10 0 (s.drop y.at_)).toNat+1<=s.length
   omega
 · show s.length<=y.at_+(idxL 10 0 (s.drop y.at_)).toNat+1+(y.r-1)
   omega
 · show y.ts.length<=y.at_+(idxL 10 0 (s.drop y.at_)).toNat+1
   omega
 · rw [hr]
   exact he
theorem Zya {s:List Nat} {res} {y:TkX} {c:Nat} (h:TkI s res y) (hc:s[y.at_]? =some c) (hb:blk c=false) (h35:c=35) (hi:idxL 10 0 (s.drop y.at_)<0):res=(y.ts,0,0):=by
 obtain ⟨k,hr,hk,hl,he⟩:=Zfq h hc
 rw [if_neg (by rw [hb];decide),if_pos h35,if_pos hi] at he
 exact he.symm
theorem Z3u {s:List Nat} {res} {y:TkX} {c:Nat} (h:TkI s res y) (hc:s[y.at_]? =some c) (hb:blk c=false) (h35:c≠35) (hi:(tokP (s.drop y.at_)).2≠0):res=([],(y.at_:Int),(tokP (s.drop y.at_)).2):=by
 obtain ⟨k,hr,hk,hl,he⟩:=Zfq h hc
 rw [if_neg (by rw [hb];decide),if_neg h35,if_pos hi] at he
 exact he.symm
theorem Z3v {s:List Nat} {res} {y:TkX} {c:Nat} (h:TkI s res y) (hc:s[y.at_]? =some c) (hb:blk c=false) (h35:c≠35) (hi:(tokP (s.drop y.at_)).2=0):TkI s res ⟨y.at_+(tokP (s.drop y.at_)).1.text.length,y.ts++ [⟨(tokP (s.drop y.at_)).1.kind,(tokP (s.drop y.at_)).1.text,(tokP (s.drop y.at_)).1.n,y.at_⟩],y.r-1⟩/\y.r-1+1<=y.r/\y.at_+(tokP (s.drop y.at_)).1.text.length<=s.length:=by
 obtain ⟨k,hr,hk,hl,he⟩:=Zfq h hc
 rw [if_neg (by rw [hb];decide),if_neg h35,if_neg (by rw [hi];decide)] at he
 have h3:=h.2.2.1
 obtain ⟨n1,n2,_⟩:=Zqu hi
 rw [List.length_drop] at n2
 refine ⟨⟨?_,?_,?_,?_⟩,by omega,by omega⟩
 · show y.at_+(tokP (s.drop y.at_)).1.text.length<=s.length
   omega
 · show s.length<=y.at_+(tokP (s.drop y.at_)).1.text.length+(y.r-1)
   omega
 · show (y.ts++ [_]).length<=y.at_+(tokP (s.drop y.at_)).1.text.length
   rw [List.length_append]
   simp
   omega
 · rw [hr]
   exact he
theorem Zon (s:List Nat):PureC E 27 [.str false s] (.tup [.psl Th.toks (Yp s).1 false,.int false .i64 (Yp s).2.1,.int false .i64 (Yp s).2.2]):=by
 refine Zb E_ok (Zh E_ok Z97 400) ?_
 rw [Zol];delta qCCg qCCl qCCp qCCh qCCi qCCj qCCk qCCm qCCn qCCo qCCq qCCr qCCs qCCt qCCu
 refine ⟨fun h=> ?_,fun h=> ?_⟩
 · have h:(s.length:Int)>2000:=by simpa using h
   unfold Yp
   rw [if_pos (by omega)]
   exact ⟨rfl,rfl,rfl,trivial⟩
 have h:¬(s.length:Int)>2000:=by simpa using h
 have hp:Yp s=tksL s.length s 0 []:=by unfold Yp;rw [if_neg (by omega)]
 generalize Yp s=res at hp
 refine ⟨fun x=>(x.1=false->x.2.ts= [])/\TkI s res x.2,Or.inl ⟨⟨0,[],s.length⟩,⟨fun _=>rfl,Nat.zero_le _,by show s.length<=0+s.length;omega,Nat.le_refl _,hp.symm⟩,rfl,⟨rfl,rfl,rfl,trivial⟩,trivial⟩,?_,?_⟩
 all_goals
  rintro y ⟨h0,hy⟩
  replace hy:TkI s res y:=hy
  refine ⟨fun hq=> ?_,fun hq=> ?_⟩
 · have h0:y.ts= []:=h0 rfl
   have hq:(y.at_:Int)<s.length:=by simpa using hq
   refine ⟨by omega,by omega,fun c hc=> ?_⟩
   have hc:s[y.at_]? =some c:=hc
   have bl:∀n:Nat,((c:Int)==(n:Int))=true->c=n:=fun n h=>by
    have:(c:Int)=n:=by simpa using h
    omega
   have nb:∀n:Nat,((c:Int)==(n:Int))=false->c≠n:=fun n h e=>by subst e;simp at h
   have gb:blk c=true->(∃(y_1:TkX),((false=false->y_1.ts= [])/\TkI s res y_1)/\y_1.3+(1:Nat)<=y.3/\true=true/\(s=s/\Value.slice none (0:Nat) (0:Nat)=Value.slice none (0:Nat) (0:Nat)/\wr IntKind.i64 ((↑(TkX.at_ y):Int)+(1:Int))=(↑(TkX.at_ y_1):Int)/\True)/\True):=fun hb=>
    ⟨⟨y.at_+1,y.ts,y.r-1⟩,⟨fun _=>h0,(Zqv hy hc hb).1⟩,(Zqv hy hc hb).2.1,rfl,⟨rfl,rfl,wr64 (by omega) (by omega),trivial⟩,trivial⟩
   refine ⟨fun h1=>Or.inl (gb (by rw [bl 32 h1];rfl)),fun h1=>⟨fun h2=>Or.inl (gb (by rw [bl 9 h2];rfl)),fun h2=>⟨fun h3=>Or.inl (gb (by rw [bl 13 h3];rfl)),fun h3=>⟨fun h4=>Or.inl (gb (by rw [bl 10 h4];rfl)),fun h4=> ?_⟩⟩⟩⟩
   have hb:blk c=false:=by
    unfold blk
    simp [nb 32 h1,nb 9 h2,nb 13 h3,nb 10 h4]
   have ea:Int.toNat (y.at_:Int)=y.at_:=by omega
   rw [ea]
   refine ⟨fun h5=> ?_,fun h5=> ?_⟩
   · have h35:c=35:=bl 35 h5
     refine ⟨⟨by omega,by omega⟩,fun h6=> ?_,fun h6=> ?_⟩
     · have h6:idxL 10 0 (s.drop y.at_)<0:=by simpa using h6
       have:=Zya hy hc hb h35 h6
       rw [this,h0]
       exact ⟨rfl,rfl,rfl,trivial⟩
     · have h6:¬idxL 10 0 (s.drop y.at_)<0:=by simpa using h6
       obtain ⟨g1,g2,g3⟩:=Z3t hy hc hb h35 h6
       refine Or.inl ⟨⟨y.at_+(idxL 10 0 (s.drop y.at_)).toNat+1,y.ts,y.r-1⟩,⟨fun _=>h0,g1⟩,g2,rfl,⟨rfl,rfl,?_,trivial⟩,trivial⟩
       show wr IntKind.i64 ((y.at_:Int)+wr IntKind.i64 (idxL 10 0 (s.drop y.at_)+1))=((y.at_+(idxL 10 0 (s.drop y.at_)).toNat+1:Nat):Int)
       rw [show wr IntKind.i64 (idxL 10 0 (s.drop y.at_)+1)=idxL 10 0 (s.drop y.at_)+1 from wr64 (by omega) (by omega)]
       rw [wr64 (by omega) (by omega)]
       omega
   · have h35:c≠35:=nb 35 h5
     refine ⟨⟨by omega,by omega⟩,⟨by rw [List.length_drop];omega,by rw [List.length_drop];omega⟩,fun z hz=> ?_⟩
     subst hz
     refine ⟨fun h6=> ?_,fun h6=> ?_⟩
     · have h6:(tokP (s.drop y.at_)).2≠0:=by simpa using h6
       rw [Z3u hy hc hb h35 h6]
       exact ⟨rfl,rfl,rfl,trivial⟩
     · have h6:(tokP (s.drop y.at_)).2=0:=by simpa using h6
       obtain ⟨g1,g2,g3⟩:=Z3v hy hc hb h35 h6
       rw [h0] at g1
       refine Or.inr ⟨_,⟨(fun h=>by cases h),g1⟩,g2,rfl,⟨rfl,⟨rfl,rfl,trivial⟩,?_,trivial⟩,⟨rfl,rfl⟩,trivial⟩
       show wr IntKind.i64 ((y.at_:Int)+((tokP (s.drop y.at_)).1.text.length:Int))=((y.at_+(tokP (s.drop y.at_)).1.text.length:Nat):Int)
       rw [wr64 (by omega) (by omega)]
       omega
 · have hq:¬(y.at_:Int)<s.length:=by simpa using hq
   rw [Z3s hy (by omega),h0 rfl]
   exact ⟨rfl,rfl,rfl,trivial⟩
 · have hq:(y.at_:Int)<s.length:=by simpa using hq
   refine ⟨by omega,by omega,fun c hc=> ?_⟩
   have hc:s[y.at_]? =some c:=hc
   have bl:∀n:Nat,((c:Int)==(n:Int))=true->c=n:=fun n h=>by
    have:(c:Int)=n:=by simpa using h
    omega
   have nb:∀n:Nat,((c:Int)==(n:Int))=false->c≠n:=fun n h e=>by subst e;simp at h
   have gb:blk c=true->∃(y_1:TkX),((true=false->y_1.ts= [])/\TkI s res y_1)/\y_1.3+(1:Nat)<=y.3/\true=true/\(s=s/\((0:Nat)=(0:Nat)/\List.length (TkX.ts y)=List.length (TkX.ts y_1)/\True)/\wr IntKind.i64 ((↑(TkX.at_ y):Int)+(1:Int))=(↑(TkX.at_ y_1):Int)/\True)/\(TkX.ts y=TkX.ts y_1/\(0:Nat)=(0:Nat))/\True:=fun hb=>
    ⟨⟨y.at_+1,y.ts,y.r-1⟩,⟨(fun h=>by cases h),(Zqv hy hc hb).1⟩,(Zqv hy hc hb).2.1,rfl,⟨rfl,⟨rfl,rfl,trivial⟩,wr64 (by omega) (by omega),trivial⟩,⟨rfl,rfl⟩,trivial⟩
   refine ⟨fun h1=>Or.inr (gb (by rw [bl 32 h1];rfl)),fun h1=>⟨fun h2=>Or.inr (gb (by rw [bl 9 h2];rfl)),fun h2=>⟨fun h3=>Or.inr (gb (by rw [bl 13 h3];rfl)),fun h3=>⟨fun h4=>Or.inr (gb (by rw [bl 10 h4];rfl)),fun h4=> ?_⟩⟩⟩⟩
   have hb:blk c=false:=by
    unfold blk
    simp [nb 32 h1,nb 9 h2,nb 13 h3,nb 10 h4]
   have ea:Int.toNat (y.at_:Int)=y.at_:=by omega
   have h3:=hy.2.2.1
   rw [ea]
   refine ⟨fun h5=> ?_,fun h5=> ?_⟩
   · have h35:c=35:=bl 35 h5
     refine ⟨⟨by omega,by omega⟩,fun h6=> ?_,fun h6=> ?_⟩
     · have h6:idxL 10 0 (s.drop y.at_)<0:=by simpa using h6
       have:=Zya hy hc hb h35 h6
       rw [this]
       exact ⟨⟨by omega,List.take_length⟩,rfl,rfl,trivial⟩
     · have h6:¬idxL 10 0 (s.drop y.at_)<0:=by simpa using h6
       obtain ⟨g1,g2,g3⟩:=Z3t hy hc hb h35 h6
       refine Or.inr ⟨_,⟨(fun h=>by cases h),g1⟩,g2,rfl,⟨rfl,⟨rfl,rfl,trivial⟩,?_,trivial⟩,⟨rfl,rfl⟩,trivial⟩
       show wr IntKind.i64 ((y.at_:Int)+wr IntKind.i64 (idxL 10 0 (s.drop y.at_)+1))=((y.at_+(idxL 10 0 (s.drop y.at_)).toNat+1:Nat):Int)
       rw [show wr IntKind.i64 (idxL 10 0 (s.drop y.at_)+1)=idxL 10 0 (s.drop y.at_)+1 from wr64 (by omega) (by omega)]
       rw [wr64 (by omega) (by omega)]
       omega
   · have h35:c≠35:=nb 35 h5
     refine ⟨⟨by omega,by omega⟩,⟨by rw [List.length_drop];omega,by rw [List.length_drop];omega⟩,fun z hz=> ?_⟩
     subst hz
     refine ⟨fun h6=> ?_,fun h6=> ?_⟩
     · have h6:(tokP (s.drop y.at_)).2≠0:=by simpa using h6
       rw [Z3u hy hc hb h35 h6]
       exact ⟨rfl,rfl,rfl,trivial⟩
     · have h6:(tokP (s.drop y.at_)).2=0:=by simpa using h6
       obtain ⟨g1,g2,g3⟩:=Z3v hy hc hb h35 h6
       refine ⟨⟨Nat.le_refl _,Nat.zero_le _,by omega⟩,Or.inr ⟨_,⟨(fun h=>by cases h),g1⟩,g2,rfl,⟨rfl,⟨rfl,?_,trivial⟩,?_,trivial⟩,⟨?_,rfl⟩,trivial⟩⟩
       · show y.ts.length+1=(y.ts++ [_]).length
         rw [List.length_append]
         rfl
       · show wr IntKind.i64 ((y.at_:Int)+((tokP (s.drop y.at_)).1.text.length:Int))=((y.at_+(tokP (s.drop y.at_)).1.text.length:Nat):Int)
         rw [wr64 (by omega) (by omega)]
         omega
       · show List.take y.ts.length y.ts++_=y.ts++_
         rw [List.take_length]
 · have hq:¬(y.at_:Int)<s.length:=by simpa using hq
   rw [Z3s hy (by omega)]
   exact ⟨⟨by omega,List.take_length⟩,rfl,rfl,trivial⟩
end
section
open Go.RowKit
section
variable {Y : Thy} {E : Eng Y}
def frzH (h:Hp Y) (bs:List Nat):Hp Y:=fun b=>match memB b bs with|true=>frzB (h b)|false=>h b
noncomputable def frzA (E:Eng Y) (gth:List (SV Y)->Option Y.Th) (n:Nat) (S:Sum Y):Sum Y:=fun args h i k=>
 match args with
 |a::rest=>frzL (frzK E gth h n) rest fun rest' bs=>S (a::rest') (frzH h bs) i fun r=>Wx (bs++r.mods) fun m=>k ⟨r.v,r.n,m,patch (frzH h bs) i r,none⟩
 | []=>False
theorem Zbr {h:Hp Y} {bs:List Nat} {b:Nat} (hb:frzH h bs b≠none):h b≠none:=by
 intro e
 apply hb
 unfold frzH
 rw [e]
 cases memB b bs<;>rfl
theorem Zzs {h:Hp Y} {bs:List Nat} {b:Nat} (hb:b∉bs):frzH h bs b=h b:=by
 unfold frzH
 cases hm:memB b bs with
 |true=>exact absurd (memB_iff.1 hm) hb
 |false=>rfl
theorem Zaa (h:Hp Y) (bs:List Nat) (i:Nat) (r:Res Y):patch h i ⟨r.v,r.n,bs++r.mods,patch (frzH h bs) i r,none⟩=patch (frzH h bs) i r:=by
 funext b
 rw [Ze]
 by_cases c:b∈bs++r.mods\/(i<=b/\b<i+r.n)
 · rw [if_pos c]
 · rw [if_neg c,Ze]
   have c1:b∉bs:=fun h=>c (.inl (List.mem_append_left _ h))
   rw [if_neg (fun h=>c (h.elim (fun h=> .inl (List.mem_append_right _ h)) .inr)),Zzs c1]
theorem Zh8 {h:Hp Y} {bs:List Nat} {i n:Nat} {mods:List Nat} {σ σ':Pl} {g g':GH} {w w':World} {B:Nat} (hI:Inv E B σ h g w) (hS:Stp i n mods σ (frzG E h σ bs g w) w σ' g' w'):Stp i n (bs++mods) σ g w σ' g' w':=by
 refine ⟨hS.sig,hS.snew,(Vp hI).trans hS.gle,fun r o v hv=> ?_,hS.gmnew,fun r hr hx=>hS.heap r hr fun b hb=>hx b (List.mem_append_right _ hb),hS.size,hS.os,hS.tape,hS.output,fun b r z h1 h2=> ?_⟩
 · rcases hS.gcnew r o v hv with h1|h1|⟨b,hb,h1⟩
   · rcases Ur h1 with ⟨_,b,hb,z,x,h2,_⟩|h2
     · exact .inr (.inr ⟨b,List.mem_append_left _ hb,z,h2⟩)
     · exact .inl h2
   · exact .inr (.inl h1)
   · exact .inr (.inr ⟨b,List.mem_append_right _ hb,h1⟩)
 · rcases hS.blk b r z h1 h2 with h3|⟨b',hb',h3⟩
   · exact .inl h3
   · exact .inr ⟨b',List.mem_append_right _ hb',h3⟩
theorem Z4x (hE:EngOk E) {gth:List (SV Y)->Option Y.Th} {n:Nat} {f:Nat} {S:Sum Y} (hS:SumOk E f S):SumOk E f (frzA E gth n S):=by
 refine ⟨hS.good,fun args h i k hD hk=> ?_⟩
 unfold frzA at hk
 split at hk
 case h_2=>exact hk.elim
 rename_i a rest
 obtain ⟨rest',bs,hk,o⟩:=W1 (Uq hE n) hk
 obtain ⟨r,hk,hR,htri⟩:=hS.ok (a::rest') (frzH h bs) i _ (fun b hb=>hD b (Zbr hb)) hk
 rw [Y7] at hk
 have args2:∀(B:Nat) (σ:Pl) (g:GH) (w:World) (vals:List Value),Inv E B σ h g w->DenL E σ g (a::rest) vals->DenL E σ (frzG E h σ bs g w) (a::rest') vals:=by
  intro B σ g w vals hI hd
  have hle:=Vp (bs:=bs) hI
  refine ⟨by rw [<-hd.1];simp [o.len],fun j sv' u h1 h2=> ?_⟩
  cases j with
  |zero=>
   simp at h1;subst h1
   exact (hd.2 0 _ u rfl h2).mono (.refl _) hle
  |succ j=>
   have h1:rest'[j]? =some sv':=by simpa using h1
   have hjl:j<rest.length:=by rw [<-o.len];exact (List.getElem?_eq_some_iff.1 h1).1
   exact (o.den h σ g w B _ (fun _ _=>rfl) hI hle Zb3 j _ sv' u (List.getElem?_eq_getElem hjl) h1 (hd.2 (j+1) _ u (by simpa using List.getElem?_eq_getElem hjl) h2)).mono (fun b p h=>by cases h) (.refl _)
 refine ⟨_,hk,fun b hb=> ?_,?_⟩
 · have hb:b∈bs++r.mods:=hb
   rcases List.mem_append.1 hb with h1|h1
   · obtain ⟨y,hy,_⟩:=o.blk b h1
     rw [hy];simp
   · exact Zbr (hR b h1)
 rcases htri with ht|⟨p,hp,ht⟩
 · refine .inl ?_
   intro B σ g w vals hh hrd hI hB hfree hd
   obtain rfl:hh=h:=funext fun b=>hrd b trivial
   refine (ht B σ _ w vals (frzH hh bs) (fun _ _=>rfl) (Zfd hE o.blk hI) hB hfree (args2 B σ g w _ hI hd)).mono ?_
   rintro en w' ⟨u,he,σ',g',hst,hI',hv⟩
   refine ⟨u,he,σ',g',Zh8 hI hst,?_,hv⟩
   rw [Zaa]
   exact hI'
 · refine .inr ⟨p,hp,fun B σ g w vals hI hB hfree hd=> ?_⟩
   refine (ht B σ _ w vals (Zfd hE o.blk hI) hB hfree (args2 B σ g w _ hI hd)).mono ?_
   rintro en w' ⟨he,σ',g',hst,hI'⟩
   refine ⟨he,σ',g',Zh8 hI hst,?_⟩
   rw [Zaa]
   exact hI'
noncomputable def Zj6 (E:Eng Y) (gth:List (SV Y)->Option Y.Th) (n:Nat) (S:Sum Y):Sum Y:=fun args h i k=>
 frzL (frzK E gth h n) args fun rest' bs=>S rest' (frzH h bs) i fun r=>Wx (bs++r.mods) fun m=>k ⟨r.v,r.n,m,patch (frzH h bs) i r,none⟩
theorem Zez (hE:EngOk E) {gth:List (SV Y)->Option Y.Th} {n:Nat} {f:Nat} {S:Sum Y} (hS:SumOk E f S):SumOk E f (Zj6 E gth n S):=by
 refine ⟨hS.good,fun args h i k hD hk=> ?_⟩
 unfold Zj6 at hk
 obtain ⟨rest',bs,hk,o⟩:=W1 (Uq hE n) hk
 obtain ⟨r,hk,hR,htri⟩:=hS.ok rest' (frzH h bs) i _ (fun b hb=>hD b (Zbr hb)) hk
 rw [Y7] at hk
 have args2:∀(B:Nat) (σ:Pl) (g:GH) (w:World) (vals:List Value),Inv E B σ h g w->DenL E σ g args vals->DenL E σ (frzG E h σ bs g w) rest' vals:=by
  intro B σ g w vals hI hd
  have hle:=Vp (bs:=bs) hI
  refine ⟨by rw [<-hd.1];exact o.len,fun j sv' u h1 h2=> ?_⟩
  have hjl:j<args.length:=by rw [<-o.len];exact (List.getElem?_eq_some_iff.1 h1).1
  exact (o.den h σ g w B _ (fun _ _=>rfl) hI hle Zb3 j _ sv' u (List.getElem?_eq_getElem hjl) h1 (hd.2 j _ u (List.getElem?_eq_getElem hjl) h2)).mono (fun b p h=>by cases h) (.refl _)
 refine ⟨_,hk,fun b hb=> ?_,?_⟩
 · have hb:b∈bs++r.mods:=hb
   rcases List.mem_append.1 hb with h1|h1
   · obtain ⟨y,hy,_⟩:=o.blk b h1
     rw [hy];simp
   · exact Zbr (hR b h1)
 rcases htri with ht|⟨p,hp,ht⟩
 · refine .inl ?_
   intro B σ g w vals hh hrd hI hB hfree hd
   obtain rfl:hh=h:=funext fun b=>hrd b trivial
   refine (ht B σ _ w vals (frzH hh bs) (fun _ _=>rfl) (Zfd hE o.blk hI) hB hfree (args2 B σ g w _ hI hd)).mono ?_
   rintro en w' ⟨u,he,σ',g',hst,hI',hv⟩
   refine ⟨u,he,σ',g',Zh8 hI hst,?_,hv⟩
   rw [Zaa]
   exact hI'
 · refine .inr ⟨p,hp,fun B σ g w vals hI hB hfree hd=> ?_⟩
   refine (ht B σ _ w vals (Zfd hE o.blk hI) hB hfree (args2 B σ g w _ hI hd)).mono ?_
   rintro en w' ⟨he,σ',g',hst,hI'⟩
   refine ⟨he,σ',g',Zh8 hI hst,?_⟩
   rw [Zaa]
   exact hI'
end
end
section
open Go
noncomputable def Zxi:Sum thy:=Zal (dA1 dS) (fun _=>True) (fun x=>Yp x.1) fun y=> .tup [.psl Th.toks y.1 false,.int false .i64 y.2.1,.int false .i64 y.2.2]
theorem Zsp:SumOk E 27 Zxi:=Yj E_ok (Zc (f:=27) rfl) fun x _=>Zon x.1
noncomputable def Zxj:Sum thy:=frzA E (fun _=>none) 2 (sumM (mI (dA1 dCls) (n1 fun _=>rfl) dCl (fun _=>rfl)) (fun x a=>x.1.length<1000000000/\a.1.length<=1000000000) fun x a=>Z9 a.1 x.1 x.2.1)
theorem Zsq:SumOk E 34 Zxj:=Z4x E_ok (Xa E_ok (Zc rfl) fun x a h=>Zrw a.1 x.1 x.2.1 h.1 h.2)
structure QX where
 cs:List Cls
 fz:Nat
 l:List Tok
 ed:Int
 p:Int
 k:Nat
def Apa:Fr thy->Hp thy->Nat->Ann thy:=fun T h i=>{X:=Bool×QX,fr:=fun x=> [(0,T 0),(2,T 2),(3,T 3),(4,T 4),(6,T 6),(7,.int false .i64 x.2.p)],bl:=fun x=>(bOf (T 6),.raw [.psl Th.toks x.2.l false,.int false .i64 x.2.ed] 0 none)::(bOf (T 2),.raw ((cellsOf h (T 2)).take 2++ [match x.1 with|true=> .sl i 0 x.2.cs.length 9 none|false=> .val (.slice none 0 0)]) 0 none)::((match x.1 with|true=> [(i,.rows Th.clauses x.2.cs x.2.fz)]|false=> [])++(blkP h (T 3)++blkP h (T 4))),src:=fun x=>(match x.1 with|true=> [(i,3002)]|false=> []),md:= [bOf (T 6),bOf (T 2)],ih:=i+1,M:=i+60,meas:=fun x=>x.2.k,ex:=ex2,al:=al2,exOk:=Zv8,alOk:=Zv9}
noncomputable def Fpa:Fns thy:=addL (addS (addS (addS Fme 32 Zzv) 27 Zxi) 34 Zxj) 10 12 Apa E
theorem Z9z:FnsOk E Fpa:=Ym E_ok (Zd (Zd (Zd Ze0 Zpt) Zsp) Zsq) _ _ _
abbrev qCE1 (a0:Tar):=([]=Tar.name a0/\(0:Int)=Tar.for_ a0/\Tar.clauses a0= []/\True)
abbrev qCE8:=(0:Nat)
abbrev qCE2 (a0:List Nat) (b0:Int) (c0:QX):=(a0=a0/\qCE8=qCE8/\qCE8=qCE8/\qCE8=qCE8/\qCE8=qCE8/\b0=QX.p c0/\True)
abbrev qCE3 (a0:PX) (b0:QX):=((Prod.fst a0=QX.l b0/\(false=true->false=true))/\Prod.fst (Prod.snd a0)=QX.ed b0/\True)
abbrev qCE4 (a0:List Tok×Int×Int):=(Prod.fst (Prod.snd a0)=Prod.fst (Prod.snd a0)/\True)
abbrev qCE5 (a0:List Tok×Int×Int):=(Prod.snd (Prod.snd a0)=Prod.snd (Prod.snd a0)/\True)
abbrev qCE6 (a0:Cls):=(Ex.mk (Ex.op (Cls.pay a0)) (Ex.n (Cls.pay a0)) (Ex.d0 (Cls.pay a0)) (Ex.d1 (Cls.pay a0)) (Ex.d2 (Cls.pay a0)) (Ex.d3 (Cls.pay a0)) (Ex.l (Cls.pay a0)))
abbrev qCEa (a0:QX):=(List.tail (QX.l a0))
abbrev qCE7 (a0:QX):=((↑(List.length (qCEa a0)):Int)>(0:Int))
abbrev qCE9 (a0:QX):=(List.length (QX.cs a0))
abbrev qCEb (a0:PX):=(Prod.fst (Prod.snd a0))
abbrev qCEc (a0:QX):=(List.take (qCE9 a0) (List.drop qCE8 (QX.cs a0)))
abbrev qCEd (a0:Int):=((1:Int)+a0)
theorem Zsr (s:List Nat) (t:Tar) (a e:Int):Zj E Fpa (vc E Fpa 400) 10 [.str false s] hp0 0 (fun r=>ret E (patch hp0 0 r) r.v (.tup [.agg [.str false t.name,.int false .i64 t.for_,.psl Th.clauses t.clauses false],.int false .i64 a,.int false .i64 e]))=(
 True/\∀(y:List Tok×Int×Int),y=Yp s->((Prod.snd (Prod.snd y) !=(0:Int))=true->(qCE1 t)/\Prod.fst (Prod.snd y)=a/\Prod.snd (Prod.snd y)=e/\True)/\((Prod.snd (Prod.snd y) !=(0:Int))=false->(isW [(116:Nat),(97:Nat),(114:Nat),(105:Nat),(102:Nat),(102:Nat)] (Prod.fst y)=true->True/\(∀(y_1:List Nat) (x':PX),Uk (List.tail (Prod.fst y)) (↑(List.length s):Int)=Except.ok (y_1,x')->(isW [(102:Nat),(111:Nat),(114:Nat)] (Prod.fst x')=true->(WK.ki=WK.at_\/WK.ki=WK.ki\/WK.ki=WK.un)/\(∀(y_2:Int) (x'_1:PX),Yl (WK.words WK.ki) (List.tail (Prod.fst x')) (qCEb x')=Except.ok (y_2,x'_1)->(isW [(123:Nat)] (Prod.fst x'_1)=true->∀(y_3:Int),y_3=hdT (qCEb x'_1) (List.tail (Prod.fst x'_1))->∃(R:Bool×QX->Prop),((∃(y_4:QX),R (false,y_4)/\true=true/\(qCE2 s y_3 y_4)/\((List.tail (Prod.fst x'_1)=QX.l y_4/\(false=true->false=true))/\Prod.fst (Prod.snd x'_1)=QX.ed y_4/\True)/\(y_1=y_1/\wr IntKind.i64 (qCEd y_2)=wr IntKind.i64 (qCEd y_2)/\Value.slice none qCE8 qCE8=Value.slice none qCE8 qCE8/\True)/\(qCE4 y)/\(qCE5 y)/\True)\/∃(y:QX),R (true,y)/\true=true/\False)/\(∀(y_4:QX),R (false,y_4)->(isW [(99:Nat),(108:Nat),(97:Nat),(117:Nat),(115:Nat),(101:Nat)] (QX.l y_4)=true->(List.length (qCEa y_4)+(1:Nat)<=(1000000000:Nat)/\qCE8<=(1000000000:Nat))/\(∀(y_5:Cls) (x':PX),Z9 [] (qCEa y_4) (QX.ed y_4)=Except.ok (y_5,x')->∀(y_6:Int),y_6=hdT (qCEb x') (Prod.fst x')->(∃(y_7:QX),R (false,y_7)/\y_7.6+(1:Nat)<=y_4.6/\true=true/\(qCE2 s y_6 y_7)/\(qCE3 x' y_7)/\(y_1=y_1/\wr IntKind.i64 (qCEd y_2)=wr IntKind.i64 (qCEd y_2)/\False/\True)/\(qCE4 y)/\(qCE5 y)/\True)\/∃(y_7:QX),R (true,y_7)/\y_7.6+(1:Nat)<=y_4.6/\true=true/\(qCE2 s y_6 y_7)/\(qCE3 x' y_7)/\(y_1=y_1/\wr IntKind.i64 (qCEd y_2)=wr IntKind.i64 (qCEd y_2)/\(qCE8=qCE8/\(1:Nat)=List.length (QX.cs y_7)/\True)/\True)/\([Cls.mk (Cls.name y_5) (Cls.when_ y_5) (qCE6 y_5)]=QX.cs y_7/\qCE8=QX.fz y_7)/\(qCE4 y)/\(qCE5 y)/\True)/\∀(e_1:Int×Int),Z9 [] (qCEa y_4) (QX.ed y_4)=Except.error e_1->(qCE1 t)/\Prod.fst e_1=a/\Prod.snd e_1=e/\True)/\(isW [(99:Nat),(108:Nat),(97:Nat),(117:Nat),(115:Nat),(101:Nat)] (QX.l y_4)=false->(isW [(125:Nat)] (QX.l y_4)=true->(decide (qCE7 y_4)=true->∀(y:Int),y=hdT (QX.ed y_4) (qCEa y_4)->(qCE1 t)/\y=a/\(160:Int)=e/\True)/\(decide (qCE7 y_4)=false->(y_1=Tar.name t/\wr IntKind.i64 (qCEd y_2)=Tar.for_ t/\Tar.clauses t= []/\True)/\(0:Int)=a/\(0:Int)=e/\True))/\(isW [(125:Nat)] (QX.l y_4)=false->(qCE1 t)/\hdT (QX.ed y_4) (QX.l y_4)=a/\(160:Int)=e/\True)))/\∀(y_4:QX),R (true,y_4)->(isW [(99:Nat),(108:Nat),(97:Nat),(117:Nat),(115:Nat),(101:Nat)] (QX.l y_4)=true->(((↑(qCE9 y_4):Int)==(64:Int))=true->(qCE1 t)/\QX.p y_4=a/\(2:Int)=e/\True)/\(((↑(qCE9 y_4):Int)==(64:Int))=false->qCE8+List.length (QX.cs y_4)<=List.length (QX.cs y_4)/\(List.length (qCEa y_4)+(1:Nat)<=(1000000000:Nat)/\List.length (qCEc y_4)<=(1000000000:Nat))/\(∀(y_5:Cls) (x':PX),Z9 (qCEc y_4) (qCEa y_4) (QX.ed y_4)=Except.ok (y_5,x')->(List.length (QX.cs y_4)<=List.length (QX.cs y_4)/\mx2 (QX.fz y_4) (qCE9 y_4)<=List.length (QX.cs y_4)/\(List.length (QX.cs y_4)+(1:Nat))*(112:Nat)<=(140737488355328:Nat))/\∀(y_6:Int),y_6=hdT (qCEb x') (Prod.fst x')->(∃(y_7:QX),R (false,y_7)/\y_7.6+(1:Nat)<=y_4.6/\true=true/\(qCE2 s y_6 y_7)/\(qCE3 x' y_7)/\(y_1=y_1/\wr IntKind.i64 (qCEd y_2)=wr IntKind.i64 (qCEd y_2)/\False/\True)/\(qCE4 y)/\(qCE5 y)/\True)\/∃(y_7:QX),R (true,y_7)/\y_7.6+(1:Nat)<=y_4.6/\true=true/\(qCE2 s y_6 y_7)/\(qCE3 x' y_7)/\(y_1=y_1/\wr IntKind.i64 (qCEd y_2)=wr IntKind.i64 (qCEd y_2)/\
(qCE8=qCE8/\List.length (QX.cs y_4)+(1:Nat)=List.length (QX.cs y_7)/\True)/\True)/\(List.take (qCE9 y_4) (QX.cs y_4)++ [Cls.mk (Cls.name y_5) (Cls.when_ y_5) (qCE6 y_5)]=QX.cs y_7/\mx2 (QX.fz y_4) (qCE9 y_4)=QX.fz y_7)/\(qCE4 y)/\(qCE5 y)/\True)/\∀(e_1:Int×Int),Z9 (qCEc y_4) (qCEa y_4) (QX.ed y_4)=Except.error e_1->(qCE1 t)/\Prod.fst e_1=a/\Prod.snd e_1=e/\True))/\(isW [(99:Nat),(108:Nat),(97:Nat),(117:Nat),(115:Nat),(101:Nat)] (QX.l y_4)=false->(isW [(125:Nat)] (QX.l y_4)=true->(decide (qCE7 y_4)=true->∀(y:Int),y=hdT (QX.ed y_4) (qCEa y_4)->(qCE1 t)/\y=a/\(160:Int)=e/\True)/\(decide (qCE7 y_4)=false->(y_1=Tar.name t/\wr IntKind.i64 (qCEd y_2)=Tar.for_ t/\(qCE8+List.length (QX.cs y_4)<=List.length (QX.cs y_4)/\List.take (qCE9 y_4) (QX.cs y_4)=Tar.clauses t)/\True)/\(0:Int)=a/\(0:Int)=e/\True))/\(isW [(125:Nat)] (QX.l y_4)=false->(qCE1 t)/\hdT (QX.ed y_4) (QX.l y_4)=a/\(160:Int)=e/\True)))/\(isW [(123:Nat)] (Prod.fst x'_1)=false->(qCE1 t)/\hdT (qCEb x'_1) (Prod.fst x'_1)=a/\(160:Int)=e/\True))/\∀(e_1:Int×Int),Yl (WK.words WK.ki) (List.tail (Prod.fst x')) (qCEb x')=Except.error e_1->(qCE1 t)/\Prod.fst e_1=a/\Prod.snd e_1=e/\True)/\(isW [(102:Nat),(111:Nat),(114:Nat)] (Prod.fst x')=false->(qCE1 t)/\hdT (qCEb x') (Prod.fst x')=a/\(160:Int)=e/\True))/\∀(e_1:Int×Int),Uk (List.tail (Prod.fst y)) (↑(List.length s):Int)=Except.error e_1->(qCE1 t)/\Prod.fst e_1=a/\Prod.snd e_1=e/\True)/\(isW [(116:Nat),(97:Nat),(114:Nat),(105:Nat),(102:Nat),(102:Nat)] (Prod.fst y)=false->(qCE1 t)/\hdT (↑(List.length s):Int) (Prod.fst y)=a/\(160:Int)=e/\True))):=by kernel_rfl
theorem Zxk:∀{k:Nat} {more:Bool} {ts:List Tst} {l:List Tok} {e:Int} {ts':List Tst} {x:PX},pTs k more ts l e= .ok (ts',x)->x.1.length<=l.length
 |0,more,ts,l,e,ts',x,h=>by
  unfold pTs at h
  injection h with h
  injection h with _ h
  subst h
  exact Nat.le_refl _
 |k+1,more,ts,l,e,ts',x,h=>by
  unfold pTs at h
  split at h
  · split at h
    · cases h
    · rename_i t z ht
      have h1:=(Ze4 ht).1
      have h2:=Zxk h
      split at h2
      · rw [List.length_tail] at h2
        omega
      · omega
  · injection h with h
    injection h with _ h
    subst h
    exact Nat.le_refl _
theorem Z90 {l:List Tok} {e:Int} {y:Ex} {x:PX} (h:pX l e= .ok (y,x)):x.1.length<=l.length:=by
 have:=Zqh l e y x h
 omega
theorem Z1g {nm:List Nat} {ts:List Tst} {l:List Tok} {e:Int} {c:Cls} {x:PX} (h:pPay nm ts l e= .ok (c,x)):x.1.length<=l.length:=by
 unfold pPay at h
 split at h
 · split at h
   · cases h
   · rename_i y z hy
     have h1:=Z90 hy
     rw [List.length_tail] at h1
     split at h
     · cases h
     · split at h
       · injection h with h
         injection h with _ h
         subst h
         show z.1.tail.length<=l.length
         rw [List.length_tail]
         omega
       · cases h
 · cases h
theorem Za9 {bs:List Cls} {l:List Tok} {e:Int} {c:Cls} {x:PX} (h:Z9 bs l e= .ok (c,x)):x.1.length<=l.length:=by
 unfold Z9 at h
 split at h
 · cases h
 · rename_i nm z hz
   have h1:=Zbu hz
   split at h
   · cases h
   · unfold pAft at h
     split at h
     · cases h
     · rename_i ts y hy
       have h2:=Zxk hy
       have h3:=Z1g h
       split at h2
       · rw [List.length_tail] at h2
         omega
       · omega
def pCls:Nat->List Cls->List Tok->Int->PR (List Cls)
 |0,cs,l,e=> .ok (cs,l,e,())
 |k+1,cs,l,e=>if isW [99,108,97,117,115,101] l then (if cs.length=64 then .error (hdT e l,2) else match Z9 cs l.tail e with
  | .error er=> .error er
  | .ok (c,x)=>pCls k (cs++ [c]) x.1 x.2.1) else .ok (cs,l,e,())
def pEnd (nm:List Nat) (fo:Int):PR (List Cls)->PR Tar
 | .error er=> .error er
 | .ok (cs,x)=>if isW [125] x.1 then (if 0<x.1.tail.length then .error (hdT x.2.1 x.1.tail,160) else .ok (⟨nm,fo,cs⟩,x.1.tail,x.2.1,())) else .error (hdT x.2.1 x.1,160)
def pTar (l:List Tok) (e:Int):PR Tar:=
 if isW [116,97,114,105,102,102] l then
  match Uk l.tail e with
  | .error er=> .error er
  | .ok (nm,x)=>
   if isW [102,111,114] x.1 then
    match Yl WK.ki.words x.1.tail x.2.1 with
    | .error er=> .error er
    | .ok (k,z)=>if isW [123] z.1 then pEnd nm (wr .i64 (1+k)) (pCls (z.1.tail.length+1) [] z.1.tail z.2.1) else .error (hdT z.2.1 z.1,160)
   else .error (hdT x.2.1 x.1,160)
 else .error (hdT e l,160)
def zT:Tar:=⟨[],0,[]⟩
def outT:PR Tar->Tar×Int×Int
 | .ok y=>(y.1,0,0)
 | .error er=>(zT,er.1,er.2)
def Vd (s:List Nat):Tar×Int×Int:=if (Yp s).2.2≠0 then (zT,(Yp s).2.1,(Yp s).2.2) else outT (pTar (Yp s).1 s.length)
theorem Zd1:∀{k:Nat} {s:List Nat} {p:Nat} {ts:List Tok},ts.length<=p->p<=s.length->(tksL k s p ts).1.length<=s.length
 |0,s,p,ts,h1,h2=>by unfold tksL;exact Nat.le_trans h1 h2
 |k+1,s,p,ts,h1,h2=>by
  unfold tksL
  split
  · exact Nat.le_trans h1 h2
  · rename_i c hc
    have hlt:=(List.getElem?_eq_some_iff.1 hc).1
    split
    · exact Zd1 (by omega) hlt
    · split
      · split
        · exact Nat.le_trans h1 h2
        · have:=(Zom 10 (s.drop p) 0).1
          rw [List.length_drop] at this
          exact Zd1 (by omega) (by omega)
      · split
        · exact Nat.zero_le _
        · rename_i h3
          have h3:(tokP (s.drop p)).2=0:=by simpa using h3
          obtain ⟨n1,n2,_⟩:=Zqu h3
          rw [List.length_drop] at n2
          exact Zd1 (by rw [List.length_append];simp;omega) (by omega)
theorem Zn8 (s:List Nat):(Yp s).1.length<=2000:=by
 unfold Yp
 split
 · exact Nat.zero_le _
 · have:=Zd1 (k:=s.length) (s:=s) (p:=0) (ts:= []) (Nat.le_refl _) (Nat.zero_le _)
   omega
theorem Zxl (c:Cls):Cls.mk (Cls.name c) (Cls.when_ c) (Ex.mk (Ex.op (Cls.pay c)) (Ex.n (Cls.pay c)) (Ex.d0 (Cls.pay c)) (Ex.d1 (Cls.pay c)) (Ex.d2 (Cls.pay c)) (Ex.d3 (Cls.pay c)) (Ex.l (Cls.pay c)))=c:=by
 obtain ⟨a,b,p⟩:=c
 cases p
 rfl
theorem Zss (s:List Nat):PureC E 10 [.str false s] (.tup [.agg [.str false (Vd s).1.name,.int false .i64 (Vd s).1.for_,.psl Th.clauses (Vd s).1.clauses false],.int false .i64 (Vd s).2.1,.int false .i64 (Vd s).2.2]):=by
 refine Zb E_ok (Zh E_ok Z9z 400) ?_
 rw [Zsr];delta qCE1 qCE8 qCE2 qCE3 qCE4 qCE5 qCE6 qCEa qCE7 qCE9 qCEb qCEc qCEd
 refine ⟨trivial,fun y hy=> ?_⟩
 have hlen:y.1.length<=2000:=hy▸Zn8 s
 have hp:Vd s=if y.2.2≠0 then (zT,y.2.1,y.2.2) else outT (pTar y.1 s.length):=by subst hy;rfl
 generalize Vd s=res at hp
 refine ⟨fun h=> ?_,fun h=> ?_⟩
 · have h:y.2.2≠0:=by simpa using h
   rw [if_pos h] at hp
   subst hp
   exact ⟨⟨rfl,rfl,rfl,trivial⟩,rfl,rfl,trivial⟩
 have h:y.2.2=0:=by simpa using h
 rw [if_neg (by rw [h];decide)] at hp
 unfold pTar at hp
 refine ⟨fun h1=>⟨trivial,fun nm x hx=>⟨fun h2=>⟨.inr (.inl rfl),fun fo z hz=>⟨fun h3=> ?_,fun h3=> ?_⟩,fun er he=> ?_⟩,fun h2=> ?_⟩,fun er he=> ?_⟩,fun h1=> ?_⟩
 rotate_left
 · rw [if_pos h1,hx] at hp
   simp only [if_pos h2,hz,h3] at hp
   subst hp
   exact ⟨⟨rfl,rfl,rfl,trivial⟩,rfl,rfl,trivial⟩
 · rw [if_pos h1,hx] at hp
   simp only [if_pos h2,he] at hp
   subst hp
   exact ⟨⟨rfl,rfl,rfl,trivial⟩,rfl,rfl,trivial⟩
 · rw [if_pos h1,hx] at hp
   simp only [h2] at hp
   subst hp
   exact ⟨⟨rfl,rfl,rfl,trivial⟩,rfl,rfl,trivial⟩
 · rw [if_pos h1,he] at hp
   subst hp
   exact ⟨⟨rfl,rfl,rfl,trivial⟩,rfl,rfl,trivial⟩
 · rw [h1] at hp
   subst hp
   exact ⟨⟨rfl,rfl,rfl,trivial⟩,rfl,rfl,trivial⟩
 rw [if_pos h1,hx] at hp
 simp only [if_pos h2,hz,if_pos h3] at hp
 have l1:=Zm h1
 have l2:=Zbu hx
 have l3:=Zm h2
 have l4:z.1.length<=x.1.tail.length:=by
  unfold Yl at hz
  split at hz
  · injection hz with hz
    injection hz with _ hz
    subst hz
    show x.1.tail.tail.length<=_
    rw [List.length_tail (l:=x.1.tail)]
    omega
  · cases hz
 have l5:=Zm h3
 intro q hq
 subst hq
 refine ⟨fun v=>(v.1=false->v.2.cs= [])/\outT (pEnd nm (wr .i64 (1+fo)) (pCls v.2.k v.2.cs v.2.l v.2.ed))=res/\v.2.p=hdT v.2.ed v.2.l/\v.2.l.length<v.2.k/\v.2.l.length<=2000/\v.2.fz<=v.2.cs.length/\v.2.cs.length<=64,
  .inl ⟨⟨[],0,z.1.tail,z.2.1,hdT z.2.1 z.1.tail,z.1.tail.length+1⟩,⟨fun _=>rfl,hp.symm,rfl,Nat.lt_succ_self _,?_,Nat.le_refl _,Nat.zero_le _⟩,rfl,⟨rfl,rfl,rfl,rfl,rfl,rfl,trivial⟩,⟨⟨rfl,fun h=>h⟩,rfl,trivial⟩,⟨rfl,rfl,rfl,trivial⟩,⟨rfl,trivial⟩,⟨rfl,trivial⟩,trivial⟩,?_,?_⟩
 · show z.1.tail.length<=2000
   omega
 all_goals
  rintro v ⟨v0,v1,v2,v3,v4,v5,v6⟩
  replace v1:outT (pEnd nm (wr .i64 (1+fo)) (pCls v.k v.cs v.l v.ed))=res:=v1
  replace v2:v.p=hdT v.ed v.l:=v2
  replace v3:v.l.length<v.k:=v3
  replace v4:v.l.length<=2000:=v4
  replace v5:v.fz<=v.cs.length:=v5
  replace v6:v.cs.length<=64:=v6
  obtain ⟨k,hk⟩:∃k,v.k=k+1:=⟨v.k-1,by omega⟩
  rw [hk] at v1
  unfold pCls at v1
  refine ⟨fun w1=> ?_,fun w1=>⟨fun w2=>⟨fun w3=> ?_,fun w3=> ?_⟩,fun w2=> ?_⟩⟩
 · have v0:v.cs= []:=v0 rfl
   rw [if_pos w1,v0,if_neg (by simp)] at v1
   have l6:=Zm w1
   refine ⟨⟨by omega,by omega⟩,fun c x' hc a ha=> ?_,fun er he=> ?_⟩
   · subst ha
     rw [hc] at v1
     have l7:=Za9 hc
     refine .inr ⟨⟨[c],0,x'.1,x'.2.1,hdT x'.2.1 x'.1,k⟩,⟨fun h=>(by cases h),v1,rfl,(by show x'.1.length<k;omega),(by show x'.1.length<=2000;omega),Nat.zero_le _,(by show 1<=64;decide)⟩,(by show k+1<=v.k;omega),rfl,⟨rfl,rfl,rfl,rfl,rfl,rfl,trivial⟩,⟨⟨rfl,fun h=>h⟩,rfl,trivial⟩,⟨rfl,rfl,⟨rfl,rfl,trivial⟩,trivial⟩,⟨?_,rfl⟩,⟨rfl,trivial⟩,⟨rfl,trivial⟩,trivial⟩
     rw [Zxl]
   · rw [he] at v1
     subst v1
     exact ⟨⟨rfl,rfl,rfl,trivial⟩,rfl,rfl,trivial⟩
 · rw [if_neg (by rw [w1];decide)] at v1
   simp only [pEnd,if_pos w2] at v1
   have w3:0<v.l.tail.length:=by
    have:(0:Int)<v.l.tail.length:=by simpa only [decide_eq_true_eq] using w3
    omega
   rw [if_pos w3] at v1
   intro a ha
   subst ha
   subst v1
   exact ⟨⟨rfl,rfl,rfl,trivial⟩,rfl,rfl,trivial⟩
 · have v0:v.cs= []:=v0 rfl
   rw [if_neg (by rw [w1];decide)] at v1
   simp only [pEnd,if_pos w2] at v1
   have w3:¬0<v.l.tail.length:=by
    have:¬(0:Int)<v.l.tail.length:=by simpa only [decide_eq_false_iff_not] using w3
    omega
   rw [if_neg w3,v0] at v1
   subst v1
   exact ⟨⟨rfl,rfl,rfl,trivial⟩,rfl,rfl,trivial⟩
 · rw [if_neg (by rw [w1];decide)] at v1
   simp only [pEnd,w2] at v1
   subst v1
   exact ⟨⟨rfl,rfl,rfl,trivial⟩,rfl,rfl,trivial⟩
 · have l6:=Zm w1
   rw [if_pos w1] at v1
   rw [List.drop_zero,List.take_length]
   refine ⟨fun w4=> ?_,fun w4=>⟨by omega,⟨by omega,by omega⟩,fun c x' hc=>⟨⟨Nat.le_refl _,by rw [Zg1];omega,by omega⟩,fun a ha=> ?_⟩,fun er he=> ?_⟩⟩
   · have w4:v.cs.length=64:=by
      have w5:(v.cs.length:Int)=64:=eq_of_beq w4
      omega
     rw [if_pos w4] at v1
     subst v1
     exact ⟨⟨rfl,rfl,rfl,trivial⟩,v2,rfl,trivial⟩
   · subst ha
     have w4:v.cs.length≠64:=fun e=>by rw [e] at w4;simp at w4
     rw [if_neg w4,hc] at v1
     have l7:=Za9 hc
     refine .inr ⟨⟨v.cs++ [c],mx2 v.fz v.cs.length,x'.1,x'.2.1,hdT x'.2.1 x'.1,k⟩,⟨fun h=>(by cases h),v1,rfl,(by show x'.1.length<k;omega),(by show x'.1.length<=2000;omega),?_,?_⟩,(by show k+1<=v.k;omega),rfl,⟨rfl,rfl,rfl,rfl,rfl,rfl,trivial⟩,⟨⟨rfl,fun h=>h⟩,rfl,trivial⟩,⟨rfl,rfl,⟨rfl,?_,trivial⟩,trivial⟩,⟨?_,rfl⟩,⟨rfl,trivial⟩,⟨rfl,trivial⟩,trivial⟩
     · show mx2 v.fz v.cs.length<=(v.cs++ [c]).length
       rw [Zg1,List.length_append]
       omega
     · show (v.cs++ [c]).length<=64
       rw [List.length_append]
       simp
       omega
     · show v.cs.length+1=(v.cs++ [c]).length
       rw [List.length_append]
       rfl
     · rw [Zxl]
   · have w4:v.cs.length≠64:=fun e=>by rw [e] at w4;simp at w4
     rw [if_neg w4,he] at v1
     subst v1
     exact ⟨⟨rfl,rfl,rfl,trivial⟩,rfl,rfl,trivial⟩
 · rw [if_neg (by rw [w1];decide)] at v1
   simp only [pEnd,if_pos w2] at v1
   have w3:0<v.l.tail.length:=by
    have:(0:Int)<v.l.tail.length:=by simpa only [decide_eq_true_eq] using w3
    omega
   rw [if_pos w3] at v1
   intro a ha
   subst ha
   subst v1
   exact ⟨⟨rfl,rfl,rfl,trivial⟩,rfl,rfl,trivial⟩
 · rw [if_neg (by rw [w1];decide)] at v1
   simp only [pEnd,if_pos w2] at v1
   have w3:¬0<v.l.tail.length:=by
    have:¬(0:Int)<v.l.tail.length:=by simpa only [decide_eq_false_iff_not] using w3
    omega
   rw [if_neg w3] at v1
   subst v1
   exact ⟨⟨rfl,rfl,⟨by omega,List.take_length⟩,trivial⟩,rfl,rfl,trivial⟩
 · rw [if_neg (by rw [w1];decide)] at v1
   simp only [pEnd,w2] at v1
   subst v1
   exact ⟨⟨rfl,rfl,rfl,trivial⟩,rfl,rfl,trivial⟩
end
section
open Go
def decN (n:Int):List Nat:=(Lib.itoa n).map UInt8.toNat
theorem Zm9 (w:World):Ext w w:=⟨rfl,rfl,rfl,Nat.le_refl _,fun _ _=>rfl⟩
theorem Zsh (x:Int) (h0:0<=x) (h1:x<=18446744073709551615):PureC E 142 [.int false .u64 x] (.int false .i64 (Lib.bitLen x.toNat)):=by
 refine Vs fun g w vals hd=> ?_
 obtain ⟨u,rfl,hu⟩:=Z5p hd
 cases hu
 refine (Any.bits_Len64 Tryz.lays129 x w h0 h1).mono ?_
 rintro e w' ⟨rfl,rfl⟩
 exact ⟨_,rfl,.int _ _ _,Zm9 _⟩
theorem Z04 (x:Nat) (h:x<=64):PureC E 141 [.int false .i64 x] (.int false .i64 (Lib.l10 x)):=by
 refine Vs fun g w vals hd=> ?_
 obtain ⟨u,rfl,hu⟩:=Z5p hd
 cases hu
 refine (Any.internal_strconv_log10Pow2 Tryz.lays317 x h w).mono ?_
 rintro e w' ⟨rfl,rfl⟩
 exact ⟨_,rfl,.int _ _ _,Zm9 _⟩
theorem Z9l (l:List UInt8):toL ⟨l.toArray⟩=l.map UInt8.toNat:=rfl
theorem Zsi (x:Nat) (h:x<100):PureC E 114 [.int false .i64 x] (.str false ((Lib.decDigits x).map UInt8.toNat)):=by
 refine Vs fun g w vals hd=> ?_
 obtain ⟨u,rfl,hu⟩:=Z5p hd
 cases hu
 refine (Any.internal_strconv_small Tryz.lays283 x h w).mono ?_
 rintro e w' ⟨rfl,rfl⟩
 exact ⟨_,rfl,.str _ (Z9l _),Zm9 _⟩
noncomputable def dU64:Dc E Int:=dInt .u64
noncomputable def Z3j:Sum thy:=Zal (dA1 dU64) (fun x=>0<=x.1/\x.1<=18446744073709551615) (fun x=>Lib.bitLen x.1.toNat) fun (y:Nat)=> .int false .i64 y
theorem Zw0:SumOk E 142 Z3j:=Yj E_ok (Zc rfl) fun x h=>Zsh x.1 h.1 h.2
noncomputable def Sl10:Sum thy:=Zal (dA1 dN) (fun x=>0<=x.1/\x.1<=64) (fun x=>Lib.l10 x.1.toNat) fun (y:Nat)=> .int false .i64 y
theorem Z56:SumOk E 141 Sl10:=Yj E_ok (Zc rfl) fun x h=>by
 have:=Z04 x.1.toNat (by omega)
 rw [show ((x.1.toNat:Nat):Int)=x.1 by omega] at this
 exact this
noncomputable def Fnd:Fns thy:=addS (addS F0 142 Z3j) 141 Sl10
abbrev qCF1:=(1:Nat)
abbrev qCFf (a0:Nat):=(↑a0:Int)
abbrev qCF2 (a0:Nat):=((qCFf a0)+(1:Int))
abbrev qCF3 (a0:Nat):=((qCFf a0)+(0:Int))
abbrev qCF4:=(0:Nat)
abbrev qCF5:=(↑(qCF4+qCF1+qCF1+qCF1+qCF1+qCF1+qCF1+qCF1+qCF1+qCF1+qCF1+qCF1+qCF1+qCF1+qCF1+qCF1+qCF1+qCF1+qCF1+qCF1):Int)
abbrev qCF6:=(↑(qCF4+qCF1+qCF1+qCF1+qCF1+qCF1+qCF1+qCF1+qCF1+qCF1+qCF1+qCF1+qCF1+qCF1+qCF1+qCF1+qCF1+qCF1+qCF1):Int)
abbrev qCF7:=(↑(qCF4+qCF1+qCF1+qCF1+qCF1+qCF1+qCF1+qCF1+qCF1+qCF1+qCF1+qCF1+qCF1+qCF1+qCF1+qCF1+qCF1+qCF1):Int)
abbrev qCF8:=(↑(qCF4+qCF1+qCF1+qCF1+qCF1+qCF1+qCF1+qCF1+qCF1+qCF1+qCF1+qCF1+qCF1+qCF1+qCF1+qCF1+qCF1):Int)
abbrev qCF9:=(↑(qCF4+qCF1+qCF1+qCF1+qCF1+qCF1+qCF1+qCF1+qCF1+qCF1+qCF1+qCF1+qCF1+qCF1+qCF1+qCF1):Int)
abbrev qCFa:=(↑(qCF4+qCF1+qCF1+qCF1+qCF1+qCF1+qCF1+qCF1+qCF1+qCF1+qCF1+qCF1+qCF1+qCF1+qCF1):Int)
abbrev qCFb:=(↑(qCF4+qCF1+qCF1+qCF1+qCF1+qCF1+qCF1+qCF1+qCF1+qCF1+qCF1+qCF1+qCF1+qCF1):Int)
abbrev qCFc:=(↑(qCF4+qCF1+qCF1+qCF1+qCF1+qCF1+qCF1+qCF1+qCF1+qCF1+qCF1+qCF1+qCF1):Int)
abbrev qCFd:=(↑(qCF4+qCF1+qCF1+qCF1+qCF1+qCF1+qCF1+qCF1+qCF1+qCF1+qCF1+qCF1):Int)
abbrev qCFe:=(↑(qCF4+qCF1+qCF1+qCF1+qCF1+qCF1+qCF1+qCF1+qCF1+qCF1+qCF1):Int)
abbrev qCFg:=(↑(qCF4+qCF1+qCF1+qCF1+qCF1+qCF1+qCF1+qCF1+qCF1+qCF1):Int)
abbrev qCFh:=(↑(qCF4+qCF1+qCF1+qCF1+qCF1+qCF1+qCF1+qCF1+qCF1):Int)
abbrev qCFi:=(↑(qCF4+qCF1+qCF1+qCF1+qCF1+qCF1+qCF1+qCF1):Int)
abbrev qCFj:=(↑(qCF4+qCF1+qCF1+qCF1+qCF1+qCF1+qCF1):Int)
abbrev qCFk:=(↑(qCF4+qCF1+qCF1+qCF1+qCF1+qCF1):Int)
theorem Z57 (u:Int) (v:Int):Zj E Fnd (vc E Fnd 400) 115 [.int false .u64 u] hp0 0 (fun r=>ret E (patch hp0 0 r) r.v (.int false .i64 v))=(
 ((0:Int)<=u/\u<=(18446744073709551615:Int))/\∀(y:Nat),y=Lib.bitLen (Int.toNat u)->((0:Int)<=(qCFf y)/\(qCFf y)<=(64:Int))/\∀(y_1:Nat),y_1=Lib.l10 (Int.toNat (qCFf y))->(0:Int)<=(qCFf y_1)/\(qCFf y_1)+(1:Int)<=(↑(20:Nat):Int)/\(((qCFf y_1)==(↑qCF4:Int))=true->(decide (u>=(1:Int))=true->wr IntKind.i64 (qCF2 y_1)=v)/\(decide (u>=(1:Int))=false->wr IntKind.i64 (qCF3 y_1)=v))/\(((qCFf y_1)==(↑qCF4:Int))=false->(((qCFf y_1)==(↑(qCF4+qCF1):Int))=true->(decide (u>=(10:Int))=true->wr IntKind.i64 (qCF2 y_1)=v)/\(decide (u>=(10:Int))=false->wr IntKind.i64 (qCF3 y_1)=v))/\(((qCFf y_1)==(↑(qCF4+qCF1):Int))=false->(((qCFf y_1)==(↑(qCF4+qCF1+qCF1):Int))=true->(decide (u>=(100:Int))=true->wr IntKind.i64 (qCF2 y_1)=v)/\(decide (u>=(100:Int))=false->wr IntKind.i64 (qCF3 y_1)=v))/\(((qCFf y_1)==(↑(qCF4+qCF1+qCF1):Int))=false->(((qCFf y_1)==(↑(qCF4+qCF1+qCF1+qCF1):Int))=true->(decide (u>=(1000:Int))=true->wr IntKind.i64 (qCF2 y_1)=v)/\(decide (u>=(1000:Int))=false->wr IntKind.i64 (qCF3 y_1)=v))/\(((qCFf y_1)==(↑(qCF4+qCF1+qCF1+qCF1):Int))=false->(((qCFf y_1)==(↑(qCF4+qCF1+qCF1+qCF1+qCF1):Int))=true->(decide (u>=(10000:Int))=true->wr IntKind.i64 (qCF2 y_1)=v)/\(decide (u>=(10000:Int))=false->wr IntKind.i64 (qCF3 y_1)=v))/\(((qCFf y_1)==(↑(qCF4+qCF1+qCF1+qCF1+qCF1):Int))=false->(((qCFf y_1)==qCFk)=true->(decide (u>=(100000:Int))=true->wr IntKind.i64 (qCF2 y_1)=v)/\(decide (u>=(100000:Int))=false->wr IntKind.i64 (qCF3 y_1)=v))/\(((qCFf y_1)==qCFk)=false->(((qCFf y_1)==qCFj)=true->(decide (u>=(1000000:Int))=true->wr IntKind.i64 (qCF2 y_1)=v)/\(decide (u>=(1000000:Int))=false->wr IntKind.i64 (qCF3 y_1)=v))/\(((qCFf y_1)==qCFj)=false->(((qCFf y_1)==qCFi)=true->(decide (u>=(10000000:Int))=true->wr IntKind.i64 (qCF2 y_1)=v)/\(decide (u>=(10000000:Int))=false->wr IntKind.i64 (qCF3 y_1)=v))/\(((qCFf y_1)==qCFi)=false->(((qCFf y_1)==qCFh)=true->(decide (u>=(100000000:Int))=true->wr IntKind.i64 (qCF2 y_1)=v)/\(decide (u>=(100000000:Int))=false->wr IntKind.i64 (qCF3 y_1)=v))/\(((qCFf y_1)==qCFh)=false->(((qCFf y_1)==qCFg)=true->(decide (u>=(1000000000:Int))=true->wr IntKind.i64 (qCF2 y_1)=v)/\(decide (u>=(1000000000:Int))=false->wr IntKind.i64 (qCF3 y_1)=v))/\(((qCFf y_1)==qCFg)=false->(((qCFf y_1)==qCFe)=true->(decide (u>=(10000000000:Int))=true->wr IntKind.i64 (qCF2 y_1)=v)/\(decide (u>=(10000000000:Int))=false->wr IntKind.i64 (qCF3 y_1)=v))/\(((qCFf y_1)==qCFe)=false->(((qCFf y_1)==qCFd)=true->(decide (u>=(100000000000:Int))=true->wr IntKind.i64 (qCF2 y_1)=v)/\(decide (u>=(100000000000:Int))=false->wr IntKind.i64 (qCF3 y_1)=v))/\(((qCFf y_1)==qCFd)=false->(((qCFf y_1)==qCFc)=true->(decide (u>=(1000000000000:Int))=true->wr IntKind.i64 (qCF2 y_1)=v)/\(decide (u>=(1000000000000:Int))=false->wr IntKind.i64 (qCF3 y_1)=v))/\(((qCFf y_1)==qCFc)=false->(((qCFf y_1)==qCFb)=true->(decide (u>=(10000000000000:Int))=true->wr IntKind.i64 (qCF2 y_1)=v)/\(decide (u>=(10000000000000:Int))=false->wr IntKind.i64 (qCF3 y_1)=v))/\(((qCFf y_1)==qCFb)=false->(((qCFf y_1)==qCFa)=true->(decide (u>=(100000000000000:Int))=true->wr IntKind.i64 (qCF2 y_1)=v)/\(decide (u>=(100000000000000:Int))=false->wr IntKind.i64 (qCF3 y_1)=v))/\(((qCFf y_1)==qCFa)=false->(((qCFf y_1)==qCF9)=true->(decide (u>=(1000000000000000:Int))=true->wr IntKind.i64 (qCF2 y_1)=v)/\(decide (u>=(1000000000000000:Int))=false->wr IntKind.i64 (qCF3 y_1)=v))/\(((qCFf y_1)==qCF9)=false->(((qCFf y_1)==qCF8)=true->(decide (u>=(10000000000000000:Int))=true->wr
IntKind.i64 (qCF2 y_1)=v)/\(decide (u>=(10000000000000000:Int))=false->wr IntKind.i64 (qCF3 y_1)=v))/\(((qCFf y_1)==qCF8)=false->(((qCFf y_1)==qCF7)=true->(decide (u>=(100000000000000000:Int))=true->wr IntKind.i64 (qCF2 y_1)=v)/\(decide (u>=(100000000000000000:Int))=false->wr IntKind.i64 (qCF3 y_1)=v))/\(((qCFf y_1)==qCF7)=false->(((qCFf y_1)==qCF6)=true->(decide (u>=(1000000000000000000:Int))=true->wr IntKind.i64 (qCF2 y_1)=v)/\(decide (u>=(1000000000000000000:Int))=false->wr IntKind.i64 (qCF3 y_1)=v))/\(((qCFf y_1)==qCF6)=false->(((qCFf y_1)==qCF5)=true->(decide (u>=(10000000000000000000:Int))=true->wr IntKind.i64 (qCF2 y_1)=v)/\(decide (u>=(10000000000000000000:Int))=false->wr IntKind.i64 (qCF3 y_1)=v))/\(((qCFf y_1)==qCF5)=false->True))))))))))))))))))))):=by kernel_rfl
theorem Z9m:FnsOk E Fnd:=Zd (Zd F0_ok Zw0) Z56
theorem blA:∀f x,Lib.bitLenAux f x<=f
 |0,x=>Nat.le_refl _
 |f+1,x=>by
  unfold Lib.bitLenAux
  split
  · exact Nat.zero_le _
  · have:=blA f (x/2)
    omega
theorem bl64 (x:Nat):Lib.bitLen x<=64:=blA 64 x
theorem Z58 (u:Nat) (h1:1<=u) (h2:u<18446744073709551616):PureC E 115 [.int false .u64 (u:Int)] (.int false .i64 (Lib.nDigits u)):=by
 refine Zb E_ok (Zh E_ok Z9m 400) ?_
 rw [Z57];delta qCF1 qCFf qCF2 qCF3 qCF4 qCF5 qCF6 qCF7 qCF8 qCF9 qCFa qCFb qCFc qCFd qCFe qCFg qCFh qCFi qCFj qCFk
 refine ⟨⟨by omega,by omega⟩,fun y hy=> ?_⟩
 have hb:y=Lib.bitLen u:=by rw [hy,show Int.toNat (u:Int)=u by omega]
 obtain ⟨k1,k2⟩:=Lib.numDigits_eq u h1 h2
 have hle:Lib.bitLen u<=64:=bl64 u
 refine ⟨⟨by omega,by omega⟩,fun t ht=> ?_⟩
 have ht:t=Lib.l10 (Lib.bitLen u):=by rw [ht,show Int.toNat (y:Int)=y by omega,hb]
 rw [<-ht] at k1 k2
 generalize Lib.nDigits u=d at*
 clear ht hb hy hle
 refine ⟨by omega,by omega,?_⟩
 have hc:t=0\/t=1\/t=2\/t=3\/t=4\/t=5\/t=6\/t=7\/t=8\/t=9\/t=10\/t=11\/t=12\/t=13\/t=14\/t=15\/t=16\/t=17\/t=18\/t=19:=by omega
 have w:∀n:Int,0<=n->n<=20->wr .i64 n=n:=fun n h0 h1=>wr64 (by omega) (by omega)
 rcases hc with rfl|rfl|rfl|rfl|rfl|rfl|rfl|rfl|rfl|rfl|rfl|rfl|rfl|rfl|rfl|rfl|rfl|rfl|rfl|rfl
 all_goals
  simp
  refine ⟨fun h=> ?_,fun h=> ?_⟩
  · rw [w _ (by decide) (by decide)]
    rw [if_pos (by omega)] at k1
    omega
  · rw [w _ (by decide) (by decide)]
    rw [if_neg (by omega)] at k1
    omega
end
section
open Go
def tightF (op:Int):Int:=if op=3\/op=4 then 1 else if op=5 then 2 else 3
def idxI (v:Int):Nat->List Int->Int
 |_,[]=> -1
 |k,x::r=>if v=x then (k:Int) else idxI v (k+1) r
def txU (d:List Int):List (List Nat):=
 (if 0<=idxI 1 0 d then [WK.un.words.getD (idxI 1 0 d).toNat []] else [])++(if 0<=idxI (-1) 0 d then [sPer,WK.un.words.getD (idxI (-1) 0 d).toNat []] else [])
def txS:List (List (List Nat))->List (List Nat)->List (List Nat)
 |t::r,s::ss=>t++s::txS r ss
 |_,_=> []
def par (op least:Int) (t:List (List Nat)):List (List Nat):=if least<=tightF op then t else Zit::(t++ [Ut])
def sgnO (op:Int):List Nat:=if op=3 then Zfe else if op=4 then Zcc else sMul
def txN (op n:Int) (u:List Int) (os:List Int) (ts:List (List (List Nat))):List (List Nat):=
 if op=1 then decN n::txU u
 else if op=2 then [WK.at_.words.getD n.toNat []]
 else if op=11 then sIf::Zit::txS ts [Zxb,Uu,Uu,Ut]
 else if op=3\/op=4\/op=5 then par (os.getD 0 0) (tightF op) (ts.getD 0 [])++sgnO op::par (os.getD 1 0) (tightF op+1) (ts.getD 1 [])
 else WK.ca.words.getD (op-6).toNat []::Zit::txS ts [Uu,Ut]
mutual
def txX:Ex->List (List Nat)
 | .mk op n d0 d1 d2 d3 l=>txN op n [d0,d1,d2,d3] (l.map Ex.op) (txL l)
def txL:List Ex->List (List (List Nat))
 | []=> []
 |x::r=>txX x::txL r
end
def SepL (s t:List Nat):Prop:=(∀c,s.getLast? =some c->isLD c=false)\/(∀c,t.head? =some c->isLD c=false)
def atT (p:Nat) (t:Tok):Tok:=⟨t.kind,t.text,t.n,p⟩
def TokW (w:List Nat):Prop:=(tokP w).2=0/\(tokP w).1.text=w/\w≠ []
inductive Lx:List Nat->Nat->List Tok->Prop
 |nil (p:Nat):Lx [] p []
 |blank (c:Nat) (s:List Nat) (p:Nat) (l:List Tok) (hc:blk c=true) (h:Lx s (p+1) l):Lx (c::s) p l
 |tok (w s:List Nat) (p:Nat) (l:List Tok) (hw:TokW w) (hs:SepL w s) (h:Lx s (p+w.length) l):Lx (w++s) p (atT p (tokP w).1::l)
theorem Vt {f:Int->Bool}:∀{w:List Nat},(∀c∈w,f c=true)->spn f w=w.length
 | [],_=>rfl
 |c::r,h=>by
  unfold spn
  rw [if_pos (h c (by simp)),Vt fun c hc=>h c (by simp [hc])]
  rfl
theorem Zn7 {f:Int->Bool}:∀{w s:List Nat},(∀c∈w,f c=true)->(∀c,s.head? =some c->f c=false)->spn f (w++s)=w.length
 | [],s,_,h=>by
  cases s with
  |nil=>rfl
  |cons c r=>
   rw [List.nil_append]
   unfold spn
   rw [if_neg (by rw [h c rfl];decide)]
   rfl
 |c::r,s,hw,h=>by
  rw [List.cons_append]
  unfold spn
  rw [if_pos (hw c (by simp)),Zn7 (fun c hc=>hw c (by simp [hc])) h]
  rfl
theorem Zqn {f:Int->Bool} {w:List Nat} (h:w.take (spn f w)=w):∀c∈w,f c=true:=fun c hc=>Zi2 (by rw [h];exact hc)
theorem Zxg {w:List Nat} (hw:w≠ []) (h:∀c∈w,isLD c=true) {s:List Nat} (hs:SepL w s):∀c,s.head? =some c->isLD c=false:=by
 rcases hs with h1|h1
 · have h2:=h1 (w.getLast hw) (List.getLast?_eq_some_getLast hw)
   rw [h _ (List.getLast_mem hw)] at h2
   cases h2
 · exact h1
theorem Z9v {n:Int} (h:isD n=true):isLD n=true:=by unfold isLD;rw [h,Bool.or_true]
theorem Z9w {n:Int} (h:isLD n=false):isD n=false:=by
 unfold isLD at h
 rw [Bool.or_eq_false_iff] at h
 exact h.2
theorem Z1e {w s:List Nat} (h:TokW w) (hs:SepL w s):tokP (w++s)=tokP w:=by
 obtain ⟨h1,h2,h3⟩:=h
 cases w with
 |nil=>exact absurd rfl h3
 |cons c r=>
  rw [Yo] at h1 h2
  rw [List.cons_append,Yo,Yo]
  split at h1
  · rename_i hl
    rw [if_pos hl] at h2
    rw [if_pos hl,if_pos hl]
    split at h1
    · cases h1
    · rename_i hn
      rw [if_neg hn] at h2
      have ha:=Zqn (show (c::r).take (spn isLD (c::r))=c::r from h2)
      have hb:=Zxg h3 ha hs
      have e1:spn isLD (c::(r++s))=(c::r).length:=Zn7 (w:=c::r) ha hb
      have e2:spn isLD (c::r)=(c::r).length:=Vt ha
      rw [e1,e2]
      rw [e2] at hn
      rw [if_neg hn,if_neg hn,<-List.cons_append,List.take_left,List.take_length]
  · rename_i hl
    rw [if_neg hl] at h2
    rw [if_neg hl,if_neg hl]
    split at h1
    · rename_i hd
      rw [if_pos hd] at h2
      rw [if_pos hd,if_pos hd]
      have ha:=Zqn (show (c::r).take (spn isD (c::r))=c::r from h2)
      have hb:=Zxg h3 (fun c hc=>Z9v (ha c hc)) hs
      have e1:spn isD (c::(r++s))=(c::r).length:=Zn7 (w:=c::r) ha fun c hc=>Z9w (hb c hc)
      have e2:spn isD (c::r)=(c::r).length:=Vt ha
      rw [e1,e2,<-List.cons_append,List.take_left,List.take_length]
    · rename_i hd
      rw [if_neg hd] at h2
      rw [if_neg hd,if_neg hd]
      split at h1
      · rename_i w hw
        rw [hw] at h2
        simp only at h2
        unfold tokS at h1 h2⊢
        split at h1
        · rename_i ht
          rw [if_pos ht] at h2
          have h2:w=c::r:=h2
          subst h2
          rw [if_pos ht,if_pos]
          rw [<-List.cons_append,List.take_left]
        · cases h1
      · cases h1
theorem TokW.head {w:List Nat} (h:TokW w) {s:List Nat}:∃c,(w++s)[0]? =some c/\blk c=false/\c≠35:=by
 obtain ⟨h1,h2,h3⟩:=h
 cases w with
 |nil=>exact absurd rfl h3
 |cons c r=>
  refine ⟨c,rfl,?_⟩
  rw [Yo] at h1
  have key:(isL c=true\/isD c=true\/(sgnW c).isSome=true):=by
   split at h1
   · exact .inl (by assumption)
   · split at h1
     · exact .inr (.inl (by assumption))
     · split at h1
       · rename_i w hw
         exact .inr (.inr (by rw [hw];rfl))
       · cases h1
  have key2:97<=c\/(48<=c/\c<=57)\/(sgnW c).isSome=true:=by
   rcases key with h|h|h
   · unfold isL at h
     simp at h
     omega
   · unfold isD at h
     simp at h
     omega
   · exact .inr (.inr h)
  constructor
  · cases hb:blk c with
    |false=>rfl
    |true=>
     exfalso
     unfold blk at hb
     simp at hb
     rcases hb with ((rfl|rfl)|rfl)|rfl<;>simp [sgnW] at key2
  · rintro rfl
    simp [sgnW] at key2
theorem Z1f {S w s:List Nat} {p:Nat} (h:S.drop p=w++s):S.drop (p+w.length)=s:=by
 rw [<-List.drop_drop,h,List.drop_left]
theorem Z9x {s:List Nat} {p:Nat} {l:List Tok} (h:Lx s p l):∀(k:Nat) (S:List Nat) (acc:List Tok),S.drop p=s->s.length<=k->tksL k S p acc=(acc++l,0,0):=by
 have ha:∀(S:List Nat) (p:Nat),S[p]? =(S.drop p)[0]? :=fun S p=>by rw [List.getElem?_drop];rfl
 induction h with
 |nil p=>
  intro k S acc hS hk
  have e:S[p]? =none:=by rw [ha,hS];rfl
  cases k with
  |zero=>unfold tksL;rw [List.append_nil]
  |succ k=>
   unfold tksL
   rw [e,List.append_nil]
 |blank c s p l hc h ih=>
  intro k S acc hS hk
  cases k with
  |zero=>simp at hk
  |succ k=>
   have e:S[p]? =some c:=by rw [ha,hS];rfl
   unfold tksL
   simp only [e,if_pos hc]
   refine ih k S acc ?_ (by simpa using hk)
   rw [<-List.drop_drop,hS]
   rfl
 |tok w s p l hw hs h ih=>
  intro k S acc hS hk
  obtain ⟨c,h0,hb,h35⟩:=hw.head (s:=s)
  have hp:=Z1e hw hs
  have hw':=hw
  obtain ⟨h1,h2,h3⟩:=hw'
  have hlen:1<=w.length:=by
   cases w with
   |nil=>exact absurd rfl h3
   |cons c r=>simp
  cases k with
  |zero=>rw [List.length_append] at hk;omega
  |succ k=>
   have e:S[p]? =some c:=by rw [ha,hS];exact h0
   unfold tksL
   simp only [e,if_neg (show ¬blk c=true by rw [hb];decide),if_neg h35,hS,hp]
   rw [if_neg (by rw [h1];decide),h2]
   rw [ih k S _ (Z1f hS) (by rw [List.length_append] at hk;omega)]
   rw [List.append_assoc]
   unfold atT
   rw [h2]
   rfl
theorem Zxh {s:List Nat} {l:List Tok} (h:Lx s 0 l) (hl:s.length<=2000):Yp s=(l,0,0):=by
 unfold Yp
 rw [if_neg (by omega),Z9x h s.length s [] rfl (Nat.le_refl _)]
 rfl
theorem SepL.tail {w s t:List Nat} (hs:s≠ []) (h:SepL (w++s) t):SepL s t:=by
 rcases h with h|h
 · refine .inl fun c hc=>h c ?_
   rw [List.getLast?_append,hc]
   rfl
 · exact .inr h
theorem Z3n {s:List Nat} {p:Nat} {l:List Tok} (h:Lx s p l) (e:s= []):l= []:=by
 cases h with
 |nil=>rfl
 |blank c s _ _ hc h=>cases e
 |tok w s _ l hw hs h=>exact absurd (List.append_eq_nil_iff.1 e).1 hw.2.2
theorem Z9y {s t:List Nat} {p:Nat} {l l2:List Tok} (h:Lx s p l) (h2:Lx t (p+s.length) l2) (hs:SepL s t):Lx (s++t) p (l++l2):=by
 induction h with
 |nil p=>simpa using h2
 |blank c s p l hc h ih=>
  refine .blank c _ p _ hc ?_
  by_cases e:s= []
  · subst e
    have hl:=Z3n h rfl
    subst hl
    simpa using h2
  · refine ih ?_ (SepL.tail (w:= [c]) e hs)
    rw [List.length_cons] at h2
    rw [show p+1+s.length=p+(s.length+1) by omega]
    exact h2
 |tok w s p l hw hsep h ih=>
  rw [List.append_assoc,List.cons_append]
  by_cases e:s= []
  · subst e
    have hl:l= []:=Z3n h rfl
    subst hl
    rw [List.append_nil] at h2 hs
    exact .tok w t p l2 hw hs h2
  · refine .tok w (s++t) p _ hw ?_ ?_
    · rcases hsep with k|k
      · exact .inl k
      · refine .inr fun c hc=>k c ?_
        cases s with
        |nil=>exact absurd rfl e
        |cons x s=>exact hc
    · refine ih ?_ (SepL.tail e hs)
      rw [List.length_append] at h2
      rw [show p+w.length+s.length=p+(w.length+s.length) by omega]
      exact h2
def tkS (w:List Nat):Tok:=atT 0 (tokP w).1
def sT (t:Tok):Tok:=atT 0 t
end
section
open Go
theorem Uf {f:FuncId} {args:List (SV thy)} {v:SV thy} (h:∀(g:GH) (w:World) (vals:Array Value),Inv E w.heap.size σ0 hp0 g w->DenL E σ0 g args vals.toList->Calls E.P f vals w fun en w'=>∃u,en= .returned u/\Den E σ0 g v u/\Ext w w'):PureC E f args v:=by
 intro g w vals hI hd
 refine (h g w vals hI hd).mono ?_
 rintro en w' ⟨u,he,hv,hx⟩
 refine ⟨u,he,g,⟨.refl _,fun b p h=> .inl h,.refl _,fun _ _ _ h=> .inl h,fun _ _ h=> .inl h,fun r hr _=>hx.block hr,hx.size,hx.os,hx.tape,hx.output,fun b r z h1 h2=>by cases h2⟩,?_,hv⟩
 refine ⟨fun r o u hu=>hx.cell (hI.gc r o u hu),fun r es hu=> ?_,(fun b x hx=>by cases hx),fun b b' r z z' h1=>absurd rfl h1,(fun b r z hs=>by cases hs),(fun b x r z o v hx=>by cases hx),(fun b x r z hx=>by cases hx),hI.glob⟩
 obtain ⟨c,hc⟩:=hI.gm r es hu
 have hr:r<w.heap.size:=by
  rcases Nat.lt_or_ge r w.heap.size with h|h
  · exact h
  · rw [Array.getElem?_eq_none h] at hc;cases hc
 exact ⟨c,by rw [hx.block hr];exact hc⟩
end
section
open Go
theorem Zmx {arr:Array Value} {c:Nat->Value} {n:Nat} (hs:arr.size=n) (hc:∀j,j<n->arr[j]? =some (c j)):arr=((List.range n).map c).toArray:=by
 apply Array.ext'
 apply List.ext_getElem?
 intro j
 rw [Array.getElem?_toList]
 by_cases hj:j<n
 · rw [hc j hj,List.getElem?_map,List.getElem?_range hj];rfl
 · rw [Array.getElem?_eq_none (by omega),List.getElem?_eq_none (by simp;omega)]
theorem Zbx {σ:Pl} {g:GH} {l:Bool} {k:IntKind} {n:Int} {u:Value} (h:Den E σ g (.int l k n) u):u= .int k n:=by cases h;rfl
theorem Z5t {g:GH} {w:World} (hI:Inv E w.heap.size σ0 hp0 g w):∀(n:Nat) (x:Ex),x.sz<=n->∀(c:Nat->Value),(∀(j:Nat) sv,(encF false .exprs x)[j]? =some sv->Den E σ0 g sv (c j))->ExIn w n [c 0,c 1,c 2,c 3,c 4,c 5,c 6] x
 |0,x,hx,_,_=>by have:=Ex.sz_pos x;omega
 |n+1,.mk op m a b d e l,hx,c,h=>by
  have e0:=Zbx (h 0 _ rfl)
  have e1:=Zbx (h 1 _ rfl)
  have e2:=Zbx (h 2 _ rfl)
  have e3:=Zbx (h 3 _ rfl)
  have e4:=Zbx (h 4 _ rfl)
  have e5:=Zbx (h 5 _ rfl)
  obtain ⟨base,cc,cv,h6,hl,hm,hf,hn,hb,hd⟩:=Wi (h 6 _ rfl)
  have hl:l.length<=cc:=hl
  refine ⟨.slice base l.length cc,?_,trivial,trivial,trivial,trivial,trivial,trivial,base,cc,rfl,hl,by unfold maxLen at hm;omega,fun h0=> ?_⟩
  · rw [e0,e1,e2,e3,e4,e5,h6];rfl
  · obtain ⟨r,o,hbase,hcell⟩:=hb h0
    refine ⟨r,o,hbase,?_,fun i x hi=>⟨[cv i 0,cv i 1,cv i 2,cv i 3,cv i 4,cv i 5,cv i 6],rfl,?_,?_⟩⟩
    · exact block_lt_of_cell (hI.gc _ _ _ (hcell 0 _ (List.getElem?_eq_getElem h0) 0 (show (0:Nat)<7 by decide)))
    · intro j v hv
      have hj:j<7:=(List.getElem?_eq_some_iff.1 hv).1
      have:=hI.gc _ _ _ (hcell i x hi j hj)
      have ev:cv i j=v:=by
       match j,hj,hv with
       |0,_,hv=>cases hv;rfl
       |1,_,hv=>cases hv;rfl
       |2,_,hv=>cases hv;rfl
       |3,_,hv=>cases hv;rfl
       |4,_,hv=>cases hv;rfl
       |5,_,hv=>cases hv;rfl
       |6,_,hv=>cases hv;rfl
      rw [<-ev]
      exact this
    · have hz:x.sz<Ex.sz (.mk op m a b d e l):=Ex.sz_mem (List.mem_of_getElem? hi)
      exact Z5t hI n x (by omega) (cv i) (hd i x hi)
def evA (x:Ev):SV thy:= .agg (.int false .i64 x.has::x.v.map (.int false .i64))
def Z89 (y:Int×Int):SV thy:= .tup [.int false .i64 y.1,.int false .i64 y.2]
theorem Z0r {σ:Pl} {g:GH} {a b:Int}:Den E σ g (.tup [.int false .i64 a,.int false .i64 b]) (.tuple #[.int .i64 a,.int .i64 b]):=by
 refine .tup (fun j=>match j with|0=> .int .i64 a|_=> .int .i64 b) rfl (fun j hj=> ?_) (fun j sv hj=> ?_)
 · match j,hj with
   |0,_=>rfl
   |1,_=>rfl
 · match j,hj with
   |0,hj=>cases hj;exact .int _ _ _
   |1,hj=>cases hj;exact .int _ _ _
theorem Zwd (e:Ex) (x:Ev) (hx:x.v.length=16):PureC E 42 [exA e,evA x] (Z89 (Va e x)):=by
 refine Uf fun g w vals hI hd=> ?_
 obtain ⟨u,v,rfl,hu,hv⟩:=Z0o hd
 obtain ⟨arr,c,rfl,hs,hc,hdu⟩:=Zr hu
 obtain ⟨arr',c',rfl,hs',hc',hd'⟩:=Zr hv
 have ha:=Zmx hs hc
 have hin:=Z5t hI e.sz e (Nat.le_refl _) c hdu
 have ha':arr'=x.cells.toArray:=by
  obtain ⟨has,v⟩:=x
  have hx:v.length=16:=hx
  apply Array.ext'
  apply List.ext_getElem?
  intro j
  have hs':arr'.size=17:=by rw [hs'];simp [hx]
  rw [Array.getElem?_toList]
  by_cases hj:j<17
  · rw [hc' j (by simp [hx];omega)]
    cases j with
    |zero=>rw [Zbx (hd' 0 _ rfl)];rfl
    |succ j=>
     have hv:v[j]? =some (v[j]'(by omega)):=List.getElem?_eq_getElem _
     have:=hd' (j+1) (.int false .i64 (v[j]'(by omega))) (by rw [List.getElem?_cons_succ,List.getElem?_map,hv];rfl)
     rw [Zbx this]
     show _=(Value.int .i64 has::v.map (Value.int .i64))[j+1]?
     rw [List.getElem?_cons_succ,List.getElem?_map,hv];rfl
  · rw [Array.getElem?_eq_none (by omega),List.getElem?_eq_none (by simp [Ev.cells,hx];omega)]
 rw [ha,ha']
 refine (Zkf x ⟨hx,trivial,fun _ _=>trivial⟩ e.sz _ e w hin).mono ?_
 rintro en w' ⟨rfl,hx⟩
 exact ⟨_,rfl,Z0r,hx⟩
end
section
open Go.RowKit
structure Tso where
 a:Int
 lo:Int
 hi:Int
structure Cl where
 name:ByteArray
 tests:List Tso
 pay:Ex
structure Tf where
 name:ByteArray
 kind:Int
 cls:List Cl
def I64r (x:Int):Prop:= -9223372036854775808<=x/\x<=9223372036854775807
def Z8i (cs:List Value) (t:Tso):Prop:=cs= [.int .i64 t.a,.int .i64 t.lo,.int .i64 t.hi]/\I64r t.a/\I64r t.lo/\I64r t.hi
def ClIn (w:World) (cs:List Value) (c:Cl):Prop:=∃sv ps,cs= .string c.name::sv::ps/\SlIn w 3 Z8i sv c.tests/\ExR w ps c.pay
def TfIn (w:World) (cs:List Value) (t:Tf):Prop:=∃sv,cs= [.string t.name,.int .i64 t.kind,sv]/\I64 t.kind/\SlIn w 9 (ClIn w) sv t.cls
theorem ClIn.ext {w w':World} (hx:Ext w w') {cs:List Value} {c:Cl} (h:ClIn w cs c):ClIn w' cs c:=by
 obtain ⟨sv,ps,hcs,hs,he⟩:=h
 exact ⟨sv,ps,hcs,hs.mono hx fun _ _ _ h=>h,he.ext hx⟩
theorem TfIn.ext {w w':World} (hx:Ext w w') {cs:List Value} {t:Tf} (h:TfIn w cs t):TfIn w' cs t:=by
 obtain ⟨sv,hcs,hk,hs⟩:=h
 exact ⟨sv,hcs,hk,hs.mono hx fun _ _ _ h=>h.ext hx⟩
def Z3 (x:Ev):List Tso->Bool×Int
 | []=>(true,0)
 |t::ts=>if t.a<0\/16<=t.a then (false,1) else if (Wf x t.a.toNat).2≠0 then (false,(Wf x t.a.toNat).2) else
  if (Wf x t.a.toNat).1<t.lo\/t.hi<(Wf x t.a.toNat).1 then (false,0) else Z3 x ts
def W0 (x:Ev):List Cl->Nat->Int×Int×Int
 | [],_=>(0,0,180)
 |c::cs,k=>if (Z3 x c.tests).2≠0 then (0,0,(Z3 x c.tests).2) else if (Z3 x c.tests).1=false then W0 x cs (k+1) else
  if (Va c.pay x).2≠0 then (0,0,(Va c.pay x).2) else ((Va c.pay x).1,k,0)
theorem SlIn.open_ {α:Type} {w:World} {k:Nat} {R:List Value->α->Prop} {sv:Value} {l:List α} (h:SlIn w k R sv l):
 ∃A cap,sv= .slice A l.length cap/\l.length<=9223372036854775807/\l.length<=cap/\
  Hid (∀i x,l[i]? =some x->∃b o cs,A=some ⟨b,o,none⟩/\b<w.heap.size/\cs.length=k/\w.rangeAt b (o+i*k) cs/\R cs x):=by
 obtain ⟨A,cap,rfl,h1,h2,h3⟩:=h
 refine ⟨A,cap,rfl,by omega,h1,fun i x hi=> ?_⟩
 have hlt:i<l.length:=(List.getElem?_eq_some_iff.1 hi).1
 obtain ⟨b,o,rfl,hb,h4⟩:=h3 (by omega)
 obtain ⟨cs,hl,hr,hR⟩:=h4 i x hi
 exact ⟨b,o,cs,rfl,hb,hl,hr,hR⟩
end
section
open Go.RowKit
theorem Zfk:(Tryz.prog.info? 88).map (·.size)=some 3:=by kernel_rfl
theorem Zn6 (x:Ev) (l:List Tso) (k:Nat) (h:k<l.length):Z3 x (l.drop k)=if l[k].a<0\/16<=l[k].a then (false,1) else if (Wf x l[k].a.toNat).2≠0 then (false,(Wf x l[k].a.toNat).2) else
 if (Wf x l[k].a.toNat).1<l[k].lo\/l[k].hi<(Wf x l[k].a.toNat).1 then (false,0) else Z3 x (l.drop (k+1)):=by
 rw [List.drop_eq_getElem_cons h];rfl
set_option maxHeartbeats 2000000 in
theorem Zg5 (x:Ev) (hx:x.ok) (cs:List Value) (c:Cl) (w:World) (hc:ClIn w cs c):
 Calls Tryz.prog 38 #[.agg cs.toArray,.agg x.cells.toArray] w fun en w'=>en= .returned (.tuple #[.bool (Z3 x c.tests).1,.int .i64 (Z3 x c.tests).2])/\Ext w w':=by
 have HXL:=Lib.hid (show x.cells.length=17 by simp [Ev.cells,hx.1])
 obtain ⟨sv,ps,rfl,hs,d,he⟩:=hc
 obtain ⟨A0,cap0,u0,u1,u2,u3,rfl,_⟩:=he.open_
 obtain ⟨A,cap,rfl,hlen,hcap,HEL⟩:=hs.open_
 obtain ⟨r,hr⟩:∃r,Z3 x c.tests=r:=⟨_,rfl⟩
 rw [hr]
 have HR:=Lib.hid hr
 clear hr he hs
 generalize c.tests=l at*
 generalize hn:l.length=n at*
 have HN:=Lib.hid hn
 clear hn
 have hr30:∀o,(((w.alloc o).alloc (.cells x.cells.toArray 36)).alloc (.cells #[.int .i64 0] 27)).rangeAt (w.heap.size+1) 0 x.cells:=by
  intro o j v hv;simp [go_sem,hv]
 have HR3:=Lib.hid hr30
 clear hr30
 go_enter_defers Tryz.func38,Tryz.ntmps38
 go_wp2_with (refine wpList_load_mid rfl 36 _ rfl (w.heap.size+1) 0 rfl x.cells _ (HR3.out _) Tryz.underlying36 rfl (by rw [HXL.out];exact X5) ?_)
 refine (Zje x _ hx).mono ?_
 rintro e1 w1 ⟨rfl,hx1,hX⟩
 have hx0:=((((Ext.refl w).alloc _).alloc _).alloc _).trans hx1
 have hc1:=hx1.cell (p:=⟨w.heap.size,1,none⟩) (v:= .slice A n cap) (by simp [go_sem])
 have hc5:=hx1.cell (p:=⟨w.heap.size+1+1,0,none⟩) (v:= .int .i64 0) (by simp [go_sem])
 have hz5:=hx1.frozen_eq (p:=⟨w.heap.size+1+1,0,none⟩) (by simp)
 have hz5':w1.frozen? ⟨w.heap.size+1+1,0,none⟩=false:=by rw [hz5];simp [go_sem]
 have hsz:=hx1.size
 simp at hsz
 generalize hXe:World.heap _=Hp at hX
 generalize Hp.size+1=X at hX
 clear hx1 hz5 HR3 hXe
 go_wp2_with fail
 go_loopw [4,15] (fun b4 i wr=>∃k:Nat,k<=n/\b4= .bool false/\i= .int .i64 k/\Hid (Z3 x (l.drop k)=r)/\Ext w1 wr) (fun _ i _=>n-(intOf i).toNat)
 case atStart=>exact ⟨0,Nat.zero_le _,rfl,rfl,HR.out,Ext.refl _⟩
 case round=>
  obtain ⟨k,hk,rfl,rfl,HK,hxr⟩:=hrel
  by_cases hlt:k<n
  · have hlk:k<l.length:=by rw [HN.out];exact hlt
    obtain ⟨b,o,cs1,rfl,hb,hl1,hr1,rfl,i1,i2,i3⟩:=HEL.out k l[k] (List.getElem?_eq_getElem hlk)
    have hrr:=hxr.range (hx0.range hr1)
    have hst:=Zn6 x l k hlk
    rw [HK.out] at hst
    have hta:I64r l[k].a:=i1
    have hX2:=fun o=>hX.ext (hxr.alloc o)
    have HX2:=Lib.hid hX2
    generalize l[k].a=ta at*
    generalize l[k].lo=lo at*
    generalize l[k].hi=hi at*
    have HS:=Lib.hid hst
    clear hst hr1 HK hl1 hlk i1 i2 i3 hX2
    by_cases h1:ta<0\/16<=ta
    · have HS2:=Lib.hid (show r=(false,1) by rw [HS.out,if_pos h1])
      clear HS
      have hld:∀W,Calls Tryz.prog 72 #[.pointer (some ⟨X,0,none⟩),.int .i64 ta] W fun en w'=>en= .panicked (Zdd 1)/\Ext W w':=
       fun W=>(Zt2 ta X W h1).mono fun _ _ h=>⟨h.1,h.2▸Ext.refl _⟩
      have HLO:=Lib.hid hld
      clear hld
      go_wp2_with (refine wpList_load_mid rfl 88 _ rfl b (o+k*3) rfl _ _ hrr Tryz.underlying88 rfl Zfk ?_)
      refine (HLO.out _).mono ?_
      rintro e1 w2 ⟨rfl,hx2⟩
      have hx12:Ext w1 w2:=(hxr.alloc _).trans hx2
      clear hx2
      have g5:=Ext.cell (hx12) hc5
      have gz:World.frozen? w2 ⟨w.heap.size+1+1,0,none⟩=false:=by rw [Ext.frozen_eq (hx12) (by simp;omega)];exact hz5'
      have glt:w.heap.size+1+1<(w2).heap.size:=by have:=Ext.size (hx12);omega
      go_wp2_with fail
      refine leaves_cons (f:=70) (args:= #[.pointer (some ⟨w.heap.size+1+1,0,none⟩)]) (by simp) (by simp [go_sem]) ((Ui _ 0 1 _ g5 gz glt).mono ?_)
      rintro en u' w'' ⟨rfl,rfl,rfl⟩
      have hsame:((World.alloc w2 (.cells #[.int .i64 1] 158)).setCell ⟨w.heap.size+1+1,0,none⟩ (.int .i64 1)).cell? ⟨w.heap.size+1+1,0,none⟩=some (.int .i64 1):=
       World.cell?_setCell_same' _ _ _ (by rw [World.cell?_alloc_lt w2 _ _ glt,g5];rfl)
      simp only [settle,List.dropWhile]
      exact ⟨.tuple #[.bool false,.int .i64 1],by simp [results,Tryz.results38,go_sem,hsame],Zjr (by rw [HS2.out]) (by rw [HS2.out]),Ext.setCell (Ext.alloc (hx0.trans hx12) _) (by simp;omega) _⟩
    · have hs:=HS.out
      rw [if_neg h1] at hs
      obtain ⟨a,rfl⟩:=Int.eq_ofNat_of_zero_le (show 0<=ta by omega)
      rw [Int.toNat_natCast] at hs
      have ha:a<16:=by omega
      have hload:=fun o=>Zo5 x a X _ hx (HX2.out o) ha
      generalize Wf x a=q at*
      have HLO:=Lib.hid hload
      obtain ⟨q1,q2⟩:=q
      clear HS hload h1 ha
      by_cases hq:q2=0
      · subst hq
        rw [if_neg (by simp)] at hs
        have hq3:q1<lo\/hi<q1\/(lo<=q1/\q1<=hi):=by omega
        have hs2:(q1<lo\/hi<q1->r=(false,0))/\(lo<=q1/\q1<=hi->r=Z3 x (l.drop (k+1))):=
         ⟨fun h=>by rw [hs,if_pos h],fun h=>by rw [hs,if_neg (by omega)]⟩
        have HS2:=Lib.hid hs2
        clear hs hs2
        go_wp2_with (refine wpList_load_mid rfl 88 _ rfl b (o+k*3) rfl _ _ hrr Tryz.underlying88 rfl Zfk ?_)
        refine (HLO.out _).mono ?_
        rintro e1 w2 ⟨⟨_,rfl⟩|⟨h0,rfl⟩,hx2⟩
        · have c1:=hx2.cell (p:=⟨wr.heap.size,1,none⟩) (v:= .int .i64 lo) (by simp [go_sem])
          have c2:=hx2.cell (p:=⟨wr.heap.size,2,none⟩) (v:= .int .i64 hi) (by simp [go_sem])
          have hx12:Ext w1 w2:=(hxr.alloc _).trans hx2
          clear hx2
          have g5:=Ext.cell (hx12) hc5
          have gz:World.frozen? w2 ⟨w.heap.size+1+1,0,none⟩=false:=by rw [Ext.frozen_eq (hx12) (by simp;omega)];exact hz5'
          have glt:w.heap.size+1+1<(w2).heap.size:=by have:=Ext.size (hx12);omega
          rcases hq3 with h1|h1|⟨h1,h2⟩
          · have HS3:=Lib.hid (HS2.out.1 (.inl h1))
            go_wp2_with fail
            have hsame:(World.setCell w2 ⟨w.heap.size+1+1,0,none⟩ (.int .i64 0)).cell? ⟨w.heap.size+1+1,0,none⟩=some (.int .i64 0):=World.cell?_setCell_same' _ _ _ (by rw [g5];rfl)
            refine leaves_cons (f:=70) (args:= #[.pointer (some ⟨w.heap.size+1+1,0,none⟩)]) (by simp) (by simp [go_sem]) ((Vk _ _).mono ?_)
            rintro en u' w'' ⟨rfl,rfl,rfl⟩
            exact ⟨.tuple #[.bool false,.int .i64 0],by simp [results,Tryz.results38,go_sem,hsame],Zjr (by rw [HS3.out]) (by rw [HS3.out]),Ext.setCell (hx0.trans hx12) (by simp;omega) _⟩
          · have HS3:=Lib.hid (HS2.out.1 (.inr h1))
            by_cases h0:q1<lo
            all_goals
             go_wp2_with fail
             have hsame:(World.setCell w2 ⟨w.heap.size+1+1,0,none⟩ (.int .i64 0)).cell? ⟨w.heap.size+1+1,0,none⟩=some (.int .i64 0):=World.cell?_setCell_same' _ _ _ (by rw [g5];rfl)
             refine leaves_cons (f:=70) (args:= #[.pointer (some ⟨w.heap.size+1+1,0,none⟩)]) (by simp) (by simp [go_sem]) ((Vk _ _).mono ?_)
             rintro en u' w'' ⟨rfl,rfl,rfl⟩
             exact ⟨.tuple #[.bool false,.int .i64 0],by simp [results,Tryz.results38,go_sem,hsame],Zjr (by rw [HS3.out]) (by rw [HS3.out]),Ext.setCell (hx0.trans hx12) (by simp;omega) _⟩
          · have HS3:=Lib.hid (HS2.out.2 ⟨h1,h2⟩)
            go_wp2_with fail
            go_roundw
            case rel=>exact ⟨k+1,by omega,rfl,by go_num,HS3.out.symm,hx12⟩
            case measure=>simp [intOf];omega
        · exact absurd rfl h0
      · have HS2:=Lib.hid (show r=(false,q2) by rw [hs,if_pos hq])
        have HQ:=Lib.hid hq
        clear hs hq
        go_wp2_with (refine wpList_load_mid rfl 88 _ rfl b (o+k*3) rfl _ _ hrr Tryz.underlying88 rfl Zfk ?_)
        refine (HLO.out _).mono ?_
        rintro e1 w2 ⟨⟨h0,rfl⟩|⟨h0,rfl⟩,hx2⟩
        · exact absurd h0 HQ.out
        · have hx12:Ext w1 w2:=(hxr.alloc _).trans hx2
          clear hx2 h0
          have g5:=Ext.cell (hx12) hc5
          have gz:World.frozen? w2 ⟨w.heap.size+1+1,0,none⟩=false:=by rw [Ext.frozen_eq (hx12) (by simp;omega)];exact hz5'
          have glt:w.heap.size+1+1<(w2).heap.size:=by have:=Ext.size (hx12);omega
          go_wp2_with fail
          refine leaves_cons (f:=70) (args:= #[.pointer (some ⟨w.heap.size+1+1,0,none⟩)]) (by simp) (by simp [go_sem]) ((Ui _ 0 q2 _ g5 gz glt).mono ?_)
          rintro en u' w'' ⟨rfl,rfl,rfl⟩
          have hsame:((World.alloc w2 (.cells #[.int .i64 q2] 158)).setCell ⟨w.heap.size+1+1,0,none⟩ (.int .i64 q2)).cell? ⟨w.heap.size+1+1,0,none⟩=some (.int .i64 q2):=
           World.cell?_setCell_same' _ _ _ (by rw [World.cell?_alloc_lt w2 _ _ glt,g5];rfl)
          simp only [settle,List.dropWhile]
          exact ⟨.tuple #[.bool false,.int .i64 q2],by simp [results,Tryz.results38,go_sem,hsame],Zjr (by rw [HS2.out]) (by rw [HS2.out]),Ext.setCell (Ext.alloc (hx0.trans hx12) _) (by simp;omega) _⟩
  · have HS2:=Lib.hid (show r=(true,0) by rw [<-HK.out,List.drop_of_length_le (by rw [HN.out];omega)];rfl)
    clear HK
    have g5:=Ext.cell (hxr) hc5
    have gz:World.frozen? wr ⟨w.heap.size+1+1,0,none⟩=false:=by rw [Ext.frozen_eq (hxr) (by simp;omega)];exact hz5'
    have glt:w.heap.size+1+1<(wr).heap.size:=by have:=Ext.size (hxr);omega
    go_wp2_with fail
    have hsame:(World.setCell wr ⟨w.heap.size+1+1,0,none⟩ (.int .i64 0)).cell? ⟨w.heap.size+1+1,0,none⟩=some (.int .i64 0):=World.cell?_setCell_same' _ _ _ (by rw [g5];rfl)
    refine leaves_cons (f:=70) (args:= #[.pointer (some ⟨w.heap.size+1+1,0,none⟩)]) (by simp) (by simp [go_sem]) ((Vk _ _).mono ?_)
    rintro en u' w'' ⟨rfl,rfl,rfl⟩
    exact ⟨.tuple #[.bool true,.int .i64 0],by simp [results,Tryz.results38,go_sem,hsame],Zjr (by rw [HS2.out]) (by rw [HS2.out]),Ext.setCell (hx0.trans hxr) (by simp;omega) _⟩
end
section
open Go.RowKit
theorem Vv:(Tryz.prog.info? 55).map (·.size)=some 9:=by kernel_rfl
theorem Zld (x:Ev) (l:List Cl) (k:Nat) (h:k<l.length):W0 x (l.drop k) k=
 if (Z3 x l[k].tests).2≠0 then (0,0,(Z3 x l[k].tests).2) else if (Z3 x l[k].tests).1=false then W0 x (l.drop (k+1)) (k+1) else
  if (Va l[k].pay x).2≠0 then (0,0,(Va l[k].pay x).2) else ((Va l[k].pay x).1,k,0):=by
 rw [List.drop_eq_getElem_cons h];rfl
theorem Zd6 {r:Int×Int×Int} {a b c:Int} (h:r=(a,b,c)):Ending.returned (.tuple #[.int .i64 a,.int .i64 b,.int .i64 c])= .returned (.tuple #[.int .i64 r.1,.int .i64 r.2.1,.int .i64 r.2.2]):=by rw [h]
set_option maxHeartbeats 2000000 in
theorem Zoo (x:Ev) (hx:x.ok) (cs:List Value) (t:Tf) (w:World) (ht:TfIn w cs t):
 Calls Tryz.prog 13 #[.agg cs.toArray,.agg x.cells.toArray] w fun en w'=>en= .returned (.tuple #[.int .i64 (W0 x t.cls 0).1,.int .i64 (W0 x t.cls 0).2.1,.int .i64 (W0 x t.cls 0).2.2])/\Ext w w':=by
 have HXL:=Lib.hid (show x.cells.length=17 by simp [Ev.cells,hx.1])
 obtain ⟨sv,rfl,_,hs⟩:=ht
 obtain ⟨A,cap,rfl,hlen,hcap,HEL⟩:=hs.open_
 obtain ⟨r,hr⟩:∃r,W0 x t.cls 0=r:=⟨_,rfl⟩
 rw [hr]
 have HR:=Lib.hid hr
 clear hr hs
 generalize t.cls=l at*
 generalize hn:l.length=n at*
 have HN:=Lib.hid hn
 clear hn
 go_enter Tryz.func13,Tryz.ntmps13
 go_wp2_with fail
 generalize hw0:World.alloc _ _=w0
 have hx0:Ext w w0:=by rw [<-hw0];exact ((Ext.refl _).alloc _).alloc _
 have hr3:w0.rangeAt (w.heap.size+1) 0 x.cells:=by rw [<-hw0];intro j v hv;simp [go_sem,hv]
 clear hw0
 go_loopw [14] (fun i wr=>∃k:Nat,k<=n/\i= .int .i64 k/\Hid (W0 x (l.drop k) k=r)/\Ext w0 wr) (fun i _=>n-(intOf i).toNat)
 case atStart=>exact ⟨0,Nat.zero_le _,rfl,HR.out,Ext.refl _⟩
 case round=>
  obtain ⟨k,hk,rfl,HK,hxr⟩:=hrel
  by_cases hlt:k<n
  · have hlk:k<l.length:=by rw [HN.out];exact hlt
    obtain ⟨b,o,cs1,rfl,hb,hl1,hr1,hcl⟩:=HEL.out k l[k] (List.getElem?_eq_getElem hlk)
    have hrr:=hxr.range (hx0.range hr1)
    have hst:=Zld x l k hlk
    rw [HK.out] at hst
    have HS:=Lib.hid hst
    clear hst hr1 HK hl1
    generalize l[k]=c at*
    clear hlk
    have hcl2:=(hcl.ext hx0).ext hxr
    have hcl2':=hcl2
    obtain ⟨sv,ps,rfl,hsl,d,hE⟩:=hcl2'
    obtain ⟨A0,cap0,u0,u1,u2,u3,rfl,_⟩:=hE.open_
    obtain ⟨A1,cap1,rfl,_⟩:=hsl.open_
    have HH:=Lib.hid fun o=>Zg5 x hx _ c _ (hcl2.ext ((Ext.refl wr).alloc o))
    have HEV:=Lib.hid fun (W:World) (h:Ext wr W)=>Zkf x hx d _ c.pay W (hE.ext h)
    have HRX:=Lib.hid fun o=>((hxr.alloc o).range hr3)
    clear hcl hcl2 hsl hE hb
    generalize Va c.pay x=p at*
    generalize Z3 x c.tests=q at*
    obtain ⟨p1,p2⟩:=p
    obtain ⟨q1,q2⟩:=q
    have hs:=HS.out
    clear HS
    by_cases hq:q2=0
    · subst hq
      rw [if_neg (by simp)] at hs
      have HS:=Lib.hid hs
      clear hs
      cases q1
      · have HS2:=Lib.hid (show r=W0 x (l.drop (k+1)) (k+1) by rw [HS.out];rfl)
        clear HS
        go_wp2_with (first
         |(refine wpList_load_mid rfl 55 _ rfl b (o+k*9) rfl _ _ hrr Tryz.underlying55 rfl Vv ?_)
         |(refine wpList_load_mid rfl 36 _ rfl (w.heap.size+1) 0 rfl x.cells _ (HRX.out _) Tryz.underlying36 rfl (by rw [HXL.out];exact X5) ?_))
        refine (HH.out _).mono ?_
        rintro e1 w2 ⟨rfl,hx2⟩
        go_wp2_with fail
        go_roundw
        case rel=>exact ⟨k+1,by omega,by go_num,HS2.out.symm,(hxr.alloc _).trans hx2⟩
        case measure=>simp [intOf];omega
      · have HS2:=Lib.hid (show r=if p2≠0 then (0,0,p2) else (p1,(k:Int),0) by rw [HS.out];rfl)
        clear HS
        by_cases hp:p2=0
        · subst hp
          have HS3:=Lib.hid (show r=(p1,(k:Int),0) by rw [HS2.out];rfl)
          clear HS2
          go_wp2_with (first
           |(refine wpList_load_mid rfl 55 _ rfl b (o+k*9) rfl _ _ hrr Tryz.underlying55 rfl Vv ?_)
           |(refine wpList_load_mid rfl 36 _ rfl (w.heap.size+1) 0 rfl x.cells _ (HRX.out _) Tryz.underlying36 rfl (by rw [HXL.out];exact X5) ?_))
          refine (HH.out _).mono ?_
          rintro e1 w2 ⟨rfl,hx2⟩
          have hrx2:=hx2.range (HRX.out _)
          have hrp:w2.rangeAt wr.heap.size 2 [.int .i64 c.pay.op,.int .i64 c.pay.n,.int .i64 u0,.int .i64 u1,.int .i64 u2,.int .i64 u3,.slice A0 c.pay.l.length cap0]:=
           hx2.range (by intro j v hv;simp [go_sem] at hv⊢;simpa [Nat.add_comm 2 j] using hv)
          have hxx:=((Ext.refl wr).alloc _).trans hx2
          clear hx2
          go_wp2_with (first
           |(refine wpList_load_mid rfl 52 _ rfl wr.heap.size 2 rfl _ _ hrp Tryz.underlying52 rfl Y2 ?_)
           |(refine wpList_load_mid rfl 36 _ rfl (w.heap.size+1) 0 rfl x.cells _ hrx2 Tryz.underlying36 rfl (by rw [HXL.out];exact X5) ?_))
          refine (HEV.out _ hxx).mono ?_
          rintro e2 w3 ⟨rfl,hx3⟩
          go_wp2_with fail
          go_ret3
          exact ⟨Zd6 HS3.out,(hx0.trans hxr).trans (hxx.trans hx3)⟩
        · have hp':(p2 !=0)=true:=by rw [bne_iff_ne];exact hp
          have HS3:=Lib.hid (show r=(0,0,p2) by rw [HS2.out,if_pos hp])
          clear HS2 hp
          go_wp2_with (first
           |(refine wpList_load_mid rfl 55 _ rfl b (o+k*9) rfl _ _ hrr Tryz.underlying55 rfl Vv ?_)
           |(refine wpList_load_mid rfl 36 _ rfl (w.heap.size+1) 0 rfl x.cells _ (HRX.out _) Tryz.underlying36 rfl (by rw [HXL.out];exact X5) ?_))
          refine (HH.out _).mono ?_
          rintro e1 w2 ⟨rfl,hx2⟩
          have hrx2:=hx2.range (HRX.out _)
          have hrp:w2.rangeAt wr.heap.size 2 [.int .i64 c.pay.op,.int .i64 c.pay.n,.int .i64 u0,.int .i64 u1,.int .i64 u2,.int .i64 u3,.slice A0 c.pay.l.length cap0]:=
           hx2.range (by intro j v hv;simp [go_sem] at hv⊢;simpa [Nat.add_comm 2 j] using hv)
          have hxx:=((Ext.refl wr).alloc _).trans hx2
          clear hx2
          go_wp2_with (first
           |(refine wpList_load_mid rfl 52 _ rfl wr.heap.size 2 rfl _ _ hrp Tryz.underlying52 rfl Y2 ?_)
           |(refine wpList_load_mid rfl 36 _ rfl (w.heap.size+1) 0 rfl x.cells _ hrx2 Tryz.underlying36 rfl (by rw [HXL.out];exact X5) ?_))
          refine (HEV.out _ hxx).mono ?_
          rintro e2 w3 ⟨rfl,hx3⟩
          go_wp2_with fail
          go_ret3
          exact ⟨Zd6 HS3.out,(hx0.trans hxr).trans (hxx.trans hx3)⟩
    · have hq':(q2 !=0)=true:=by rw [bne_iff_ne];exact hq
      have HS3:=Lib.hid (show r=(0,0,q2) by rw [hs,if_pos hq])
      clear hs hq
      go_wp2_with (first
       |(refine wpList_load_mid rfl 55 _ rfl b (o+k*9) rfl _ _ hrr Tryz.underlying55 rfl Vv ?_)
       |(refine wpList_load_mid rfl 36 _ rfl (w.heap.size+1) 0 rfl x.cells _ (HRX.out _) Tryz.underlying36 rfl (by rw [HXL.out];exact X5) ?_))
      refine (HH.out _).mono ?_
      rintro e1 w2 ⟨rfl,hx2⟩
      go_wp2_with fail
      go_ret3
      exact ⟨Zd6 HS3.out,(hx0.trans hxr).trans (((Ext.refl wr).alloc _).trans hx2)⟩
  · have HS2:=Lib.hid (show r=(0,0,180) by rw [<-HK.out,List.drop_of_length_le (by rw [HN.out];omega)];rfl)
    clear HK
    go_wp2_with fail
    go_ret3
    exact ⟨Zd6 HS2.out,hx0.trans hxr⟩
end
section
open Go
theorem Z99 {g:GH} {w:World} (hI:Inv E w.heap.size σ0 hp0 g w) {β:Type} {th:Th} {l:List (domT th)} {full:Bool} {u:Value} (f:domT th->β) (R:List Value->β->Prop) (h:Den E σ0 g (.psl th l full) u) (hw:0<wT th) (hlen:∀x,(encF false th x).length=wT th)
 (hR:∀x∈l,∀c:Nat->Value,(∀(j:Nat) sv,(encF false th x)[j]? =some sv->Den E σ0 g sv (c j))->R ((List.range (wT th)).map c) (f x)):SlIn w (wT th) R u (l.map f):=by
 obtain ⟨base,cc,cv,rfl,hl,hm,hf,hn,hb,hd⟩:=Wi h
 have hl:l.length<=cc:=hl
 have ee:∀x,E.enc th x=encF false th x:=fun _=>rfl
 have ew:E.w th=wT th:=rfl
 refine ⟨base,cc,by rw [List.length_map],by rw [List.length_map];exact hl,by unfold maxLen at hm;omega,fun h0=> ?_⟩
 rw [List.length_map] at h0
 obtain ⟨r,o,hbase,hcell⟩:=hb h0
 refine ⟨r,o,hbase,?_,fun i x hi=> ?_⟩
 · exact block_lt_of_cell (hI.gc _ _ _ (hcell 0 _ (List.getElem?_eq_getElem h0) 0 (by rw [ee,hlen];exact hw)))
 · rw [List.getElem?_map] at hi
   cases hx:l[i]? with
   |none=>rw [hx] at hi;cases hi
   |some y=>
    rw [hx] at hi
    cases hi
    refine ⟨(List.range (wT th)).map (cv i),by simp,fun j v hv=> ?_,hR y (List.mem_of_getElem? hx) _ (hd i y hx)⟩
    have hj:j<wT th:=by have:=(List.getElem?_eq_some_iff.1 hv).1;simpa using this
    rw [List.getElem?_map,List.getElem?_range hj] at hv
    cases hv
    have:=hI.gc _ _ _ (hcell i y hx j (by rw [ee,hlen];exact hj))
    rw [ew] at this
    exact this
def toTs (w:Tst):Tso:=⟨w.attr,w.low,w.high⟩
def toCl (c:Cls):Cl:=⟨mkS c.name,c.when_.map toTs,c.pay⟩
def toTf (t:Tar):Tf:=⟨mkS t.name,t.for_,t.clauses.map toCl⟩
def Tst.In (w:Tst):Prop:=I64r w.attr/\I64r w.low/\I64r w.high
theorem Yaa {σ:Pl} {g:GH} {l:Bool} {s:List Nat} {u:Value} (h:Den E σ g (.str l s) u):u= .string (mkS s):=by
 cases h
 rename_i b hb
 rw [<-hb,Zcy]
theorem Yab {g:GH} {w:World} (hI:Inv E w.heap.size σ0 hp0 g w) (c:Cls) (hc:∀t∈c.when_,t.In) (v:Nat->Value) (h:∀(j:Nat) sv,(encF false .clauses c)[j]? =some sv->Den E σ0 g sv (v j)):ClIn w ((List.range 9).map v) (toCl c):=by
 refine ⟨v 1,[v 2,v 3,v 4,v 5,v 6,v 7,v 8],?_,?_,c.pay.sz,?_⟩
 · show v 0::_=_
   rw [Yaa (h 0 _ rfl)];rfl
 · refine Z99 hI (th:= .tests) toTs Z8i (h 1 _ rfl) (by decide) (fun _=>rfl) fun x hx d hd=> ?_
   refine ⟨?_,hc x hx⟩
   show [d 0,d 1,d 2]=_
   rw [Zbx (hd 0 _ rfl),Zbx (hd 1 _ rfl),Zbx (hd 2 _ rfl)];rfl
 · refine Z5t hI _ c.pay (Nat.le_refl _) (fun j=>v (j+2)) fun j sv hj=>h (j+2) sv ?_
   rw [<-hj];rfl
def Z7b (t:Tar):Prop:=∀c∈t.clauses,∀w∈c.when_,w.In
theorem Ybc {g:GH} {w:World} (hI:Inv E w.heap.size σ0 hp0 g w) (t:Tar) (ht:Z7b t) (v:Nat->Value) (h:∀(j:Nat) sv,(encF false .tariffs t)[j]? =some sv->Den E σ0 g sv (v j)):TfIn w [v 0,v 1,v 2] (toTf t):=by
 refine ⟨v 2,?_,trivial,?_⟩
 · rw [Yaa (h 0 _ rfl),Zbx (h 1 _ rfl)];rfl
 · exact Z99 hI (th:= .clauses) toCl (ClIn w) (h 2 _ rfl) (by decide) (fun _=>rfl) fun x hx d hd=>Yab hI x (ht x hx) d hd
theorem Z3z {g:GH} {x:Ev} (hx:x.v.length=16) {v:Value} (hv:Den E σ0 g (evA x) v):v= .agg x.cells.toArray:=by
 obtain ⟨arr',c',rfl,hs',hc',hd'⟩:=Zr hv
 congr 1
 obtain ⟨has,v⟩:=x
 have hx:v.length=16:=hx
 apply Array.ext'
 apply List.ext_getElem?
 intro j
 have hs':arr'.size=17:=by rw [hs'];simp [hx]
 rw [Array.getElem?_toList]
 by_cases hj:j<17
 · rw [hc' j (by simp [hx];omega)]
   cases j with
   |zero=>rw [Zbx (hd' 0 _ rfl)];rfl
   |succ j=>
    have hv:v[j]? =some (v[j]'(by omega)):=List.getElem?_eq_getElem _
    have:=hd' (j+1) (.int false .i64 (v[j]'(by omega))) (by rw [List.getElem?_cons_succ,List.getElem?_map,hv];rfl)
    rw [Zbx this]
    show _=(Value.int .i64 has::v.map (Value.int .i64))[j+1]?
    rw [List.getElem?_cons_succ,List.getElem?_map,hv];rfl
 · rw [Array.getElem?_eq_none (by omega),List.getElem?_eq_none (by simp [Ev.cells,hx];omega)]
theorem Z1z {σ:Pl} {g:GH} {a b c:Int}:Den E σ g (.tup [.int false .i64 a,.int false .i64 b,.int false .i64 c]) (.tuple #[.int .i64 a,.int .i64 b,.int .i64 c]):=by
 refine .tup (fun j=>match j with|0=> .int .i64 a|1=> .int .i64 b|_=> .int .i64 c) rfl (fun j hj=> ?_) (fun j sv hj=> ?_)
 · match j,hj with
   |0,_=>rfl
   |1,_=>rfl
   |2,_=>rfl
 · match j,hj with
   |0,hj=>cases hj;exact .int _ _ _
   |1,hj=>cases hj;exact .int _ _ _
   |2,hj=>cases hj;exact .int _ _ _
def amtF (t:Tar) (x:Ev):Int×Int×Int:=W0 x (t.clauses.map toCl) 0
def amtV (y:Int×Int×Int):SV thy:= .tup [.int false .i64 y.1,.int false .i64 y.2.1,.int false .i64 y.2.2]
theorem Zfs (t:Tar) (x:Ev) (hx:x.v.length=16) (ht:Z7b t):PureC E 13 [.agg (encF false .tariffs t),evA x] (amtV (amtF t x)):=by
 refine Uf fun g w vals hI hd=> ?_
 obtain ⟨u,v,rfl,hu,hv⟩:=Z0o hd
 obtain ⟨arr,c,rfl,hs,hc,hdu⟩:=Zr hu
 have ha:=Zmx hs hc
 rw [Z3z hx hv,ha]
 refine (Zoo x ⟨hx,trivial,fun _ _=>trivial⟩ _ (toTf t) w (Ybc hI t ht c hdu)).mono ?_
 rintro en w' ⟨rfl,hx⟩
 exact ⟨_,rfl,Z1z,hx⟩
end
section
open Go.ChangeShapes Go.WideShapes Go.ChangeAt Go.RowKit
section
variable {H : Type} {enc : TypeId × Value → H} {w : World} {spare : Nat → Bool} {held : Bool}
end
end
section
open Go
def parV (l:Bool) (y:Tar×Int×Int):SV thy:= .tup [.agg [.str l y.1.name,.int l .i64 y.1.for_,.psl Th.clauses y.1.clauses false],.int l .i64 y.2.1,.int l .i64 y.2.2]
def Z7z:Tar:=⟨[97],1,[⟨[98],[⟨4,1,3⟩,⟨0,2,2⟩],.mk 5 0 0 0 0 0 [.mk 1 5 1 0 (-1) 0 [],.mk 2 6 0 0 0 0 []]⟩]⟩
def Z70:Tar:=⟨[97],1,[⟨[98],[],.mk 4 0 0 0 0 0 [.mk 4 0 0 0 0 0 [.mk 1 1 0 0 0 0 [],.mk 1 2 0 0 0 0 []],.mk 5 0 0 0 0 0 [.mk 1 3 0 0 0 0 [],.mk 3 0 0 0 0 0 [.mk 1 4 0 0 0 0 [],.mk 1 5 0 0 0 0 []]]]⟩]⟩
def exs:List (List Nat×(Tar×Int×Int)):= [
 ([116,97,114,105,102,102,32,97,32,102,111,114,32,108,111,115,115,32,123,32,125],(⟨[97],5,[]⟩,0,0)),
 ([116,97,114,105,102,102,32,97,32,102,111,114,32,104,105,114,101,32,123,32,99,108,97,117,115,101,32,98,32,119,104,101,110,32,99,108,97,115,115,32,105,110,32,49,46,46,51,32,97,110,100,32,116,121,112,101,32,105,115,32,50,32,112,97,121,32,53,32,109,111,110,101,121,32,112,101,114,32,107,109,32,42,32,107,109,59,32,125],(Z7z,0,0)),
 ([],(zT,0,160)),
 ([116,97,114,105,102,102,32,109,105,110,32,102,111,114,32,108,111,115,115,32,123,32,125],(zT,7,161)),
 ([116,97,114,105,102,102,32,97,32,102,111,114,32,97,108,108,32,123,32,125],(zT,13,160)),
 ([116,97,114,105,102,102,32,97,32,102,111,114,32,108,111,115,115,32,123,32,99,108,97,117,115,101,32,98,32,112,97,121,32,49,59,32,99,108,97,117,115,101,32,98,32,112,97,121,32,50,59,32,125],(zT,43,161)),
 ([116,97,114,105,102,102,32,97,32,102,111,114,32,108,111,115,115,32,123,32,125,32,120],(zT,22,160)),
 ([116,97,114,105,102,102,32,97,32,102,111,114,32,104,105,114,101,32,123,32,99,108,97,117,115,101,32,98,32,112,97,121,32,49,32,45,32,50,32,45,32,51,32,42,32,40,52,32,43,32,53,41,59,32,125],(Z70,0,0))
]
def Z71 (s:List Nat):List (List Nat×(Tar×Int×Int))->Option (SV thy)
 | []=>none
 |p::r=>match eqL s p.1 with|true=>some (parV true p.2)|false=>Z71 s r
def Yai:List (SV thy)->Option (SV thy)
 | [.str _ s]=>Z71 s exs
 |_=>none
def gthT:List (SV thy)->Option Th
 | .str _ _::_=>some Th.clauses
 |cs=>match (cs[6]? :Option (SV thy)) with
  |some (.int _ _ _)=>some Th.tests
  |none=>some Th.tests
  |some _=>some Th.exprs
def Zuj (F:Fns thy):Fns thy:=⟨F.sums,F.fns,F.loops,fun _=>false⟩
theorem Zju {E':Eng thy} {F:Fns thy} (h:FnsOk E' F):FnsOk E' (Zuj F):=⟨h.sumG,h.fnG,h.sum,h.fn,h.loop⟩
theorem Zcr {E':Eng thy} {f:FuncId} {args:List (SV thy)} {v v':SV thy} (h:PureC E' f args v) (hv:∀σ g u,Den E' σ g v u->Den E' σ g v' u):PureC E' f args v':=by
 intro g w vals hI hd
 refine (h g w vals hI hd).mono ?_
 rintro en w' ⟨u,he,g',hS,hI',hu⟩
 exact ⟨u,he,g',hS,hI',hv _ _ _ hu⟩
theorem Yaj {E':Eng thy} {σ:Pl} {g:GH} {cs cs':List (SV thy)} {u:Value} (h:Den E' σ g (.agg cs) u) (hl:cs'.length=cs.length) (hm:∀(j:Nat) sv',cs'[j]? =some sv'->∃sv,cs[j]? =some sv/\∀u,Den E' σ g sv u->Den E' σ g sv' u):Den E' σ g (.agg cs') u:=by
 cases h with
 |agg c hs hc hd=>
  refine .agg c (hs.trans hl.symm) (fun j hj=>hc j (by omega)) fun j sv' hj=> ?_
  obtain ⟨sv,h1,h2⟩:=hm j sv' hj
  exact h2 _ (hd j sv h1)
theorem Zhu {E':Eng thy} {σ:Pl} {g:GH} {cs cs':List (SV thy)} {u:Value} (h:Den E' σ g (.tup cs) u) (hl:cs'.length=cs.length) (hm:∀(j:Nat) sv',cs'[j]? =some sv'->∃sv,cs[j]? =some sv/\∀u,Den E' σ g sv u->Den E' σ g sv' u):Den E' σ g (.tup cs') u:=by
 cases h with
 |tup c hs hc hd=>
  refine .tup c (hs.trans hl.symm) (fun j hj=>hc j (by omega)) fun j sv' hj=> ?_
  obtain ⟨sv,h1,h2⟩:=hm j sv' hj
  exact h2 _ (hd j sv h1)
end
section
open Go
theorem Zxy {σ:Pl} {g:GH} {a:Bool} {b:Int}:Den E σ g (.tup [.bool false a,.int false .i64 b]) (.tuple #[.bool a,.int .i64 b]):=by
 refine .tup (fun j=>match j with|0=> .bool a|_=> .int .i64 b) rfl (fun j hj=> ?_) (fun j sv hj=> ?_)
 · match j,hj with
   |0,_=>rfl
   |1,_=>rfl
 · match j,hj with
   |0,hj=>cases hj;exact .bool _ _
   |1,hj=>cases hj;exact .int _ _ _
theorem Zsv (c:Cls) (x:Ev) (hx:x.v.length=16) (ht:∀w∈c.when_,w.In):PureC E 38 [.agg (encF false .clauses c),evA x] (.tup [.bool false (Z3 x (c.when_.map toTs)).1,.int false .i64 (Z3 x (c.when_.map toTs)).2]):=by
 refine Uf fun g w vals hI hd=> ?_
 obtain ⟨u,v,rfl,hu,hv⟩:=Z0o hd
 obtain ⟨arr,d,rfl,hs,hc,hdu⟩:=Zr hu
 have ha:=Zmx hs hc
 rw [Z3z hx hv,ha]
 refine (Zg5 x ⟨hx,trivial,fun _ _=>trivial⟩ _ (toCl c) w (Yab hI c ht d hdu)).mono ?_
 rintro en w' ⟨rfl,hx⟩
 exact ⟨_,rfl,Zxy,hx⟩
def evOf (p:Int×Int×Int×Int×Int×Int×Int×Int×Int×Int×Int×Int×Int×Int×Int×Int×Int×Unit):Ev:=
 ⟨p.1,[p.2.1,p.2.2.1,p.2.2.2.1,p.2.2.2.2.1,p.2.2.2.2.2.1,p.2.2.2.2.2.2.1,p.2.2.2.2.2.2.2.1,p.2.2.2.2.2.2.2.2.1,p.2.2.2.2.2.2.2.2.2.1,p.2.2.2.2.2.2.2.2.2.2.1,p.2.2.2.2.2.2.2.2.2.2.2.1,p.2.2.2.2.2.2.2.2.2.2.2.2.1,p.2.2.2.2.2.2.2.2.2.2.2.2.2.1,p.2.2.2.2.2.2.2.2.2.2.2.2.2.2.1,p.2.2.2.2.2.2.2.2.2.2.2.2.2.2.2.1,p.2.2.2.2.2.2.2.2.2.2.2.2.2.2.2.2.1]⟩
def ofEv (x:Ev):Int×Int×Int×Int×Int×Int×Int×Int×Int×Int×Int×Int×Int×Int×Int×Int×Int×Unit:=
 (x.has,x.v.getD 0 0,x.v.getD 1 0,x.v.getD 2 0,x.v.getD 3 0,x.v.getD 4 0,x.v.getD 5 0,x.v.getD 6 0,x.v.getD 7 0,x.v.getD 8 0,x.v.getD 9 0,x.v.getD 10 0,x.v.getD 11 0,x.v.getD 12 0,x.v.getD 13 0,x.v.getD 14 0,x.v.getD 15 0,())
noncomputable def dEvP:DcL E Ev:=(DcL.cons dN (.cons dN (.cons dN (.cons dN (.cons dN (.cons dN (.cons dN (.cons dN (.cons dN (.cons dN (.cons dN (.cons dN (.cons dN (.cons dN (.cons dN (.cons dN (.cons dN .nil))))))))))))))))).map evOf ofEv fun _=>rfl
noncomputable def dEv:Dc E Ev:=dAgg dEvP
theorem Ziy {x:Ev} (hx:x.v.length=16):dEv.enc x=evA x:=by
 obtain ⟨h,v⟩:=x
 have hx:v.length=16:=hx
 match v,hx with
 | [a0,a1,a2,a3,a4,a5,a6,a7,a8,a9,a10,a11,a12,a13,a14,a15],_=>rfl
noncomputable def dEE:DcL E (Ex×Ev×Unit):= .cons (dR .exprs) (.cons dEv .nil)
noncomputable def dCE:DcL E (Cls×Ev×Unit):= .cons (dR .clauses) (.cons dEv .nil)
noncomputable def dTE:DcL E (Tar×Ev×Unit):= .cons (dR .tariffs) (.cons dEv .nil)
def inB (w:Tst):Bool:=(decide (-1000000000000000000<=w.attr)&&decide (w.attr<=1000000000000000000))&&((decide (-1000000000000000000<=w.low)&&decide (w.low<=1000000000000000000))&&(decide (-1000000000000000000<=w.high)&&decide (w.high<=1000000000000000000)))
theorem Z3o {w:Tst} (h:inB w=true):w.In:=by
 simp only [inB,Bool.and_eq_true,decide_eq_true_eq] at h
 unfold Tst.In I64r
 omega
noncomputable def Zoc (args:List (SV thy)):Option (SV thy):=
 match dEE.dec (args.map unfl) with
 |some (e,x,_)=>(match Nat.beq x.v.length 16 with|true=>some (.tup [.int true .i64 (Va e x).1,.int true .i64 (Va e x).2])|false=>none)
 |none=>none
noncomputable def Ziz (args:List (SV thy)):Option (SV thy):=
 match dCE.dec (args.map unfl) with
 |some (c,x,_)=>(match Nat.beq x.v.length 16&&c.when_.all inB with|true=>some (.tup [.bool true (Z3 x (c.when_.map toTs)).1,.int true .i64 (Z3 x (c.when_.map toTs)).2])|false=>none)
 |none=>none
noncomputable def Zxz (args:List (SV thy)):Option (SV thy):=
 match dTE.dec (args.map unfl) with
 |some (t,x,_)=>(match Nat.beq x.v.length 16&&t.clauses.all fun c=>c.when_.all inB with|true=>some (.tup [.int true .i64 (amtF t x).1,.int true .i64 (amtF t x).2.1,.int true .i64 (amtF t x).2.2])|false=>none)
 |none=>none
noncomputable def FuC:Fns thy:=Zuj (addS (addS (addS F0 42 (Zj6 EL gthT 20 (sumO Zoc))) 38 (Zj6 EL gthT 20 (sumO Ziz))) 13 (Zj6 EL gthT 20 (sumO Zxz)))
theorem Zod (v:Bool):Zj EL FuC (vc EL FuC 4000) 11 [] hp0 0 (fun r=>ret EL (patch hp0 0 r) r.v (.bool true v))=(
true=v):=by kernel_rfl
theorem Zsw (args:List (SV thy)) (v:SV thy) (h:Zoc args=some v):PureC EL 42 args v:=by
 unfold Zoc at h
 split at h
 · rename_i e x _ hd
   split at h
   · rename_i hx
     have hx:=Nat.eq_of_beq_eq_true hx
     cases h
     refine PureC.fl (Zcr (v:=Z89 (Va e x)) (PureC.like Zs7 Zs8 (fun _ _ h=>h) (PureC.of_dec hd ?_)) fun σ g u hu=> ?_)
     · show PureC E _ [exA e,dEv.enc x] _
       rw [Ziy hx]
       exact Zwd e x hx
     · refine Zhu hu rfl fun j sv' hj=> ?_
       match j,hj with
       |0,hj=>cases hj;exact ⟨_,rfl,fun u hu=>by cases hu;exact .int _ _ _⟩
       |1,hj=>cases hj;exact ⟨_,rfl,fun u hu=>by cases hu;exact .int _ _ _⟩
   · cases h
 · cases h
theorem Zoe (args:List (SV thy)) (v:SV thy) (h:Ziz args=some v):PureC EL 38 args v:=by
 unfold Ziz at h
 split at h
 · rename_i c x _ hd
   split at h
   · rename_i hx
     simp only [Bool.and_eq_true,List.all_eq_true] at hx
     obtain ⟨hx,hw⟩:=hx
     have hx:=Nat.eq_of_beq_eq_true hx
     cases h
     refine PureC.fl (Zcr (v:= .tup [.bool false (Z3 x (c.when_.map toTs)).1,.int false .i64 (Z3 x (c.when_.map toTs)).2]) (PureC.like Zs7 Zs8 (fun _ _ h=>h) (PureC.of_dec hd ?_)) fun σ g u hu=> ?_)
     · show PureC E _ [.agg (encF false .clauses c),dEv.enc x] _
       rw [Ziy hx]
       exact Zsv c x hx fun w hm=>Z3o (hw w hm)
     · refine Zhu hu rfl fun j sv' hj=> ?_
       match j,hj with
       |0,hj=>cases hj;exact ⟨_,rfl,fun u hu=>by cases hu;exact .bool _ _⟩
       |1,hj=>cases hj;exact ⟨_,rfl,fun u hu=>by cases hu;exact .int _ _ _⟩
   · cases h
 · cases h
theorem Zx0 (args:List (SV thy)) (v:SV thy) (h:Zxz args=some v):PureC EL 13 args v:=by
 unfold Zxz at h
 split at h
 · rename_i t x _ hd
   split at h
   · rename_i hx
     simp only [Bool.and_eq_true,List.all_eq_true] at hx
     obtain ⟨hx,hw⟩:=hx
     have hx:=Nat.eq_of_beq_eq_true hx
     cases h
     refine PureC.fl (Zcr (v:=amtV (amtF t x)) (PureC.like Zs7 Zs8 (fun _ _ h=>h) (PureC.of_dec hd ?_)) fun σ g u hu=> ?_)
     · show PureC E _ [.agg (encF false .tariffs t),dEv.enc x] _
       rw [Ziy hx]
       exact Zfs t x hx fun c hc w hm=>Z3o (hw c hc w hm)
     · refine Zhu hu rfl fun j sv' hj=> ?_
       match j,hj with
       |0,hj=>cases hj;exact ⟨_,rfl,fun u hu=>by cases hu;exact .int _ _ _⟩
       |1,hj=>cases hj;exact ⟨_,rfl,fun u hu=>by cases hu;exact .int _ _ _⟩
       |2,hj=>cases hj;exact ⟨_,rfl,fun u hu=>by cases hu;exact .int _ _ _⟩
   · cases h
 · cases h
theorem Z3p:FnsOk EL FuC:=Zju (Zd (Zd (Zd Zqw (Zez V5 (Zda V5 (Zc rfl) Zsw))) (Zez V5 (Zda V5 (Zc rfl) Zoe))) (Zez V5 (Zda V5 (Zc rfl) Zx0)))
theorem Zof:PureC E 11 [] (.bool true true):=by
 refine PureC.like Zs8 Zs7 (fun _ _ h=>h) (Zb V5 (X4 V5 Z3p fun f N c=>(Zjt V5 Z3p 4000 f N c).1) ?_)
 rw [Zod]
end
section
open Go
--@cond form17 | 46 | (addS F0 20 Scheck)>(Fform17 m) | 400 | (m : Nat) (x : Ex) | [exA x] | (v : Bool) | .bool false v
--@end
end
section
open Go
noncomputable def Z50:Dc E (List (List Int)):=(Zw8 (E:=E) Th.dims:Dc E (List (thy.dom Th.dims)))
def dPow:Dc E Int where
 dec v:=match v with| .pptr Th.ints n 0=>some n|_=>none
 enc n:= .pptr Th.ints n 0
 ok v a h:=by
  split at h
  · cases h;exact ⟨rfl,rfl,fun _ _ _ h=>h⟩
  · cases h
def dimV (d:List Int):SV thy:= .agg (encF false .dims d)
def optV (o:Option (List Int)):SV thy:= .tup [dimV (o.getD [0,0,0,0]),.bool false o.isSome]
abbrev qBIk:=(2:Int)
abbrev qBIl:=(2:Nat)
abbrev qBIf:=(0:Nat)
abbrev qBI6:=(0:Int)
abbrev qBI2 (a0:List Int) (b0:Int) (c0:List Int):=(List.set [qBI6,qBI6,qBI6,qBI6] (Int.toNat qBI6) (wr IntKind.i64 (List.getD a0 qBIf qBI6+wr IntKind.i64 (b0*List.getD c0 qBIf qBI6))))
abbrev qBIa:=(1:Nat)
abbrev qBI8:=(1:Int)
abbrev qBI5 (a0:List Int) (b0:Int) (c0:List Int) (d0:List Int) (e0:List Int):=(List.set (qBI2 a0 b0 c0) (Int.toNat qBI8) (wr IntKind.i64 (List.getD d0 qBIa qBI6+wr IntKind.i64 (b0*List.getD e0 qBIa qBI6))))
abbrev qBI1 (a0:List Int) (b0:Int) (c0:List Int) (d0:List Int) (e0:List Int) (f0:List Int) (g0:List Int):=(List.set (qBI5 a0 b0 c0 d0 e0) (Int.toNat qBIk) (wr IntKind.i64 (List.getD f0 qBIl qBI6+wr IntKind.i64 (b0*List.getD g0 qBIl qBI6))))
abbrev qBIm:=(3:Nat)
abbrev qBI3 (a0:List Int) (b0:Int) (c0:List Int):=(wr IntKind.i64 (List.getD a0 qBIm qBI6+wr IntKind.i64 (b0*List.getD c0 qBIm qBI6)))
abbrev qBI4 (a0:List Int):=(List.getD [qBI6,qBI6,qBI6,qBI6] qBIf qBI6=List.getD a0 qBIf qBI6/\List.getD [qBI6,qBI6,qBI6,qBI6] qBIa qBI6=List.getD a0 qBIa qBI6/\List.getD [qBI6,qBI6,qBI6,qBI6] qBIl qBI6=List.getD a0 qBIl qBI6/\List.getD [qBI6,qBI6,qBI6,qBI6] qBIm qBI6=List.getD a0 qBIm qBI6/\True)
abbrev qBIb:=(3:Int)
abbrev qBI7:=(Int.toNat qBIb)
abbrev qBIc:=(4:Nat)
abbrev qBI9:=(↑qBIc:Int)
abbrev qBId (a0:List (List Int)):=(↑(List.length a0):Int)
abbrev qBIe:=(qBI6<=qBIk/\qBIk+qBI8<=qBI9)
abbrev qBIg:=(qBI6<=qBI6/\qBI6+qBI8<=qBI9)
abbrev qBIh:=(qBI6<=qBI8/\qBI8+qBI8<=qBI9)
abbrev qBIi:=(qBI6<=qBIb/\qBIb+qBI8<=qBI9)
abbrev qBIj (a0:Int) (b0:Bool->Prop):=(decide (a0<(-3:Int))=true->b0 true)
theorem Z00 (ds:List (List Int)) (n:Int) (d:List Int) (b:Bool):Zj E F0 (vc E F0 2000) 81 [.psl Th.dims ds false,.pptr Th.ints n 0] hp0 0 (fun r=>ret E (patch hp0 0 r) r.v (.tup [dimV d,.bool false b]))=(
 qBI6<=qBI6/\qBI6+qBI8<=(qBId ds)/\∀(x:List Int),ds[Int.toNat qBI6]? =some x->qBI6<=qBI8/\qBI8+qBI8<=(qBId ds)/\∀(x_1:List Int),ds[Int.toNat qBI8]? =some x_1->qBIg/\qBIf<=Int.toNat qBI6/\Int.toNat qBI6+qBIa<=qBIc/\∀(x_2:Int),[qBI6,qBI6,qBI6,qBI6][Int.toNat qBI6]? =some x_2->∃(Q:Bool->Prop),(qBIg/\Int.toNat qBI6+qBIa<=List.length (qBI2 x n x_1)/\∀(x_3:Int),(qBI2 x n x_1)[Int.toNat qBI6]? =some x_3->(qBIj x_3 Q)/\(decide (x_3<(-3:Int))=false->qBIg/\Int.toNat qBI6+qBIa<=List.length (qBI2 x n x_1)/\∀(x_4:Int),(qBI2 x n x_1)[Int.toNat qBI6]? =some x_4->(decide (x_4>qBIb)=true->Q true)/\(decide (x_4>qBIb)=false->Q false)))/\(Q true->List.length (qBI2 x n x_1)=qBIc/\qBIc=qBIc/\(qBI4 d)/\false=b/\True)/\(Q false->qBI6<=qBI6/\qBI6+qBI8<=(qBId ds)/\∀(x_3:List Int),ds[Int.toNat qBI6]? =some x_3->qBI6<=qBI8/\qBI8+qBI8<=(qBId ds)/\∀(x_4:List Int),ds[Int.toNat qBI8]? =some x_4->qBIh/\qBIf<=Int.toNat qBI8/\Int.toNat qBI8+qBIa<=List.length (qBI2 x n x_1)/\∀(x_5:Int),(qBI2 x n x_1)[Int.toNat qBI8]? =some x_5->∃(Q:Bool->Prop),(qBIh/\Int.toNat qBI8+qBIa<=List.length (qBI5 x n x_1 x_3 x_4)/\∀(x_6:Int),(qBI5 x n x_1 x_3 x_4)[Int.toNat qBI8]? =some x_6->(qBIj x_6 Q)/\(decide (x_6<(-3:Int))=false->qBIh/\Int.toNat qBI8+qBIa<=List.length (qBI5 x n x_1 x_3 x_4)/\∀(x_7:Int),(qBI5 x n x_1 x_3 x_4)[Int.toNat qBI8]? =some x_7->(decide (x_7>qBIb)=true->Q true)/\(decide (x_7>qBIb)=false->Q false)))/\(Q true->List.length (qBI5 x n x_1 x_3 x_4)=qBIc/\qBIc=qBIc/\(qBI4 d)/\false=b/\True)/\(Q false->qBI6<=qBI6/\qBI6+qBI8<=(qBId ds)/\∀(x_6:List Int),ds[Int.toNat qBI6]? =some x_6->qBI6<=qBI8/\qBI8+qBI8<=(qBId ds)/\∀(x_7:List Int),ds[Int.toNat qBI8]? =some x_7->qBIe/\qBIf<=Int.toNat qBIk/\Int.toNat qBIk+qBIa<=List.length (qBI5 x n x_1 x_3 x_4)/\∀(x_8:Int),(qBI5 x n x_1 x_3 x_4)[Int.toNat qBIk]? =some x_8->∃(Q:Bool->Prop),(qBIe/\Int.toNat qBIk+qBIa<=List.length (qBI1 x n x_1 x_3 x_4 x_6 x_7)/\∀(x_9:Int),(qBI1 x n x_1 x_3 x_4 x_6 x_7)[Int.toNat qBIk]? =some x_9->(qBIj x_9 Q)/\(decide (x_9<(-3:Int))=false->qBIe/\Int.toNat qBIk+qBIa<=List.length (qBI1 x n x_1 x_3 x_4 x_6 x_7)/\∀(x_10:Int),(qBI1 x n x_1 x_3 x_4 x_6 x_7)[Int.toNat qBIk]? =some x_10->(decide (x_10>qBIb)=true->Q true)/\(decide (x_10>qBIb)=false->Q false)))/\(Q true->List.length (qBI1 x n x_1 x_3 x_4 x_6 x_7)=qBIc/\qBIc=qBIc/\(qBI4 d)/\false=b/\True)/\(Q false->qBI6<=qBI6/\qBI6+qBI8<=(qBId ds)/\∀(x_9:List Int),ds[Int.toNat qBI6]? =some x_9->qBI6<=qBI8/\qBI8+qBI8<=(qBId ds)/\∀(x_10:List Int),ds[Int.toNat qBI8]? =some x_10->qBIi/\qBIf<=Int.toNat qBIb/\Int.toNat qBIb+qBIa<=List.length (qBI1 x n x_1 x_3 x_4 x_6 x_7)/\∀(x_11:Int),(qBI1 x n x_1 x_3 x_4 x_6 x_7)[Int.toNat qBIb]? =some x_11->∃(Q:Bool->Prop),(qBIi/\Int.toNat qBIb+qBIa<=List.length (List.set (qBI1 x n x_1 x_3 x_4 x_6 x_7) qBI7 (qBI3 x_9 n x_10))/\∀(x_12:Int),(List.set (qBI1 x n x_1 x_3 x_4 x_6 x_7) qBI7 (qBI3 x_9 n x_10))[Int.toNat qBIb]? =some x_12->(qBIj x_12 Q)/\(decide (x_12<(-3:Int))=false->qBIi/\Int.toNat qBIb+qBIa<=List.length (List.set (qBI1 x n x_1 x_3 x_4 x_6 x_7) qBI7 (qBI3 x_9 n x_10))/\∀(x_13:Int),(List.set (qBI1 x n x_1 x_3 x_4 x_6 x_7) qBI7 (qBI3 x_9 n x_10))[Int.toNat qBIb]? =some x_13->(decide (x_13>qBIb)=true->Q true)/\(decide (x_13>qBIb)=false->Q false)))/\(Q true->List.length (List.set (qBI1 x n x_1 x_3 x_4 x_6 x_7) qBI7 (qBI3 x_9 n x_10))=qBIc/\qBIc=qBIc/\(qBI4 d)/\false=b/\True)/\(Q false->List.length (List.set (qBI1 x n x_1 x_3 x_4 x_6 x_7) qBI7 (qBI3 x_9 n x_10))=qBIc/\List.length (List.set (qBI1 x n x_1 x_3 x_4 x_6 x_7) qBI7 (qBI3 x_9 n x_10))=qBIc/\qBIc=qBIc/\(List.getD [List.getD (List.set (qBI1 x n x_1 x_3 x_4 x_6 x_7) qBI7 (qBI3
x_9 n x_10)) qBIf qBI6,List.getD (List.set (qBI1 x n x_1 x_3 x_4 x_6 x_7) qBI7 (qBI3 x_9 n x_10)) qBIa qBI6,List.getD (List.set (qBI1 x n x_1 x_3 x_4 x_6 x_7) qBI7 (qBI3 x_9 n x_10)) qBIl qBI6,List.getD (List.set (qBI1 x n x_1 x_3 x_4 x_6 x_7) qBI7 (qBI3 x_9 n x_10)) qBIm qBI6] qBIf qBI6=List.getD d qBIf qBI6/\List.getD [List.getD (List.set (qBI1 x n x_1 x_3 x_4 x_6 x_7) qBI7 (qBI3 x_9 n x_10)) qBIf qBI6,List.getD (List.set (qBI1 x n x_1 x_3 x_4 x_6 x_7) qBI7 (qBI3 x_9 n x_10)) qBIa qBI6,List.getD (List.set (qBI1 x n x_1 x_3 x_4 x_6 x_7) qBI7 (qBI3 x_9 n x_10)) qBIl qBI6,List.getD (List.set (qBI1 x n x_1 x_3 x_4 x_6 x_7) qBI7 (qBI3 x_9 n x_10)) qBIm qBI6] qBIa qBI6=List.getD d qBIa qBI6/\List.getD [List.getD (List.set (qBI1 x n x_1 x_3 x_4 x_6 x_7) qBI7 (qBI3 x_9 n x_10)) qBIf qBI6,List.getD (List.set (qBI1 x n x_1 x_3 x_4 x_6 x_7) qBI7 (qBI3 x_9 n x_10)) qBIa qBI6,List.getD (List.set (qBI1 x n x_1 x_3 x_4 x_6 x_7) qBI7 (qBI3 x_9 n x_10)) qBIl qBI6,List.getD (List.set (qBI1 x n x_1 x_3 x_4 x_6 x_7) qBI7 (qBI3 x_9 n x_10)) qBIm qBI6] qBIl qBI6=List.getD d qBIl qBI6/\List.getD [List.getD (List.set (qBI1 x n x_1 x_3 x_4 x_6 x_7) qBI7 (qBI3 x_9 n x_10)) qBIf qBI6,List.getD (List.set (qBI1 x n x_1 x_3 x_4 x_6 x_7) qBI7 (qBI3 x_9 n x_10)) qBIa qBI6,List.getD (List.set (qBI1 x n x_1 x_3 x_4 x_6 x_7) qBI7 (qBI3 x_9 n x_10)) qBIl qBI6,List.getD (List.set (qBI1 x n x_1 x_3 x_4 x_6 x_7) qBI7 (qBI3 x_9 n x_10)) qBIm qBI6] qBIm qBI6=List.getD d qBIm qBI6/\True)/\true=b/\True))))):=by kernel_rfl
theorem Zfb (c:Int):in3 c=true↔(-3<=c/\c<=3):=by
 unfold in3
 simp only [Bool.not_eq_true',Bool.or_eq_false_iff,decide_eq_false_iff_not]
 omega
theorem q3 (c:Int) {Kt Kf:Prop} (h1:in3 c=false->Kt) (h2:in3 c=true->Kf):∃Q:Bool->Prop,((c< -3->Q true)/\(¬c< -3->(c>3->Q true)/\(¬c>3->Q false)))/\(Q true->Kt)/\(Q false->Kf):=by
 have hi:=Zfb c
 have hf:¬(-3<=c/\c<=3)->in3 c=false:=fun h=>by rw [<-Bool.not_eq_true,hi];exact h
 refine ⟨fun q=>q=true↔in3 c=false,And.intro (fun h=>⟨fun _=>hf (by omega),fun _=>rfl⟩) (fun h=>And.intro (fun h'=>⟨fun _=>hf (by omega),fun _=>rfl⟩) (fun h'=>⟨fun h=>(by cases h),fun h=> ?_⟩)),fun h=>h1 (h.1 rfl),fun h=>h2 ?_⟩
 · rw [hi.2 (by omega)] at h;cases h
 · cases hh:in3 c with
   |true=>rfl
   |false=>exact absurd (h.2 hh) (by simp)
theorem Z01 (ds:List (List Int)) (n:Int) (h2:2<=ds.length):PureC E 81 [.psl Th.dims ds false,.pptr Th.ints n 0] (optV (cmb n (ds.getD 0 []) (ds.getD 1 []))):=by
 match ds,h2 with
 |a::b::r,h2=>
 refine Zb E_ok (Z1w 2000) ?_
 unfold optV
 rw [Z00];delta qBIk qBIl qBIf qBI6 qBI2 qBIa qBI8 qBI5 qBI1 qBIm qBI3 qBI4 qBIb qBI7 qBIc qBI9 qBId qBIe qBIg qBIh qBIi qBIj
 have e:∀x y,wr IntKind.i64 (x+wr IntKind.i64 (n*y))=cmb1 n x y:=fun _ _=>rfl
 simp only [Yk,Z0,Wu,Wv,Ww,beq_iff_eq,bne_iff_ne,beq_eq_false_iff_ne,bne_eq_false_iff_eq,decide_eq_true_eq,decide_eq_false_iff_not,Bool.or_eq_true,Bool.or_eq_false_iff,Bool.not_eq_true',Bool.not_eq_false',Bool.and_eq_true,Bool.and_true,Bool.true_and,Bool.and_eq_false_iff,beq_self_eq_true,Xc,Y4,ne_eq,and_true,true_and,Bool.true_eq_false,Bool.false_eq_true,false_or,or_false,true_implies,imp_self,Int.ofNat_eq_natCast,not_true_eq_false,not_false_eq_true,Decidable.not_not,List.getElem?_cons_zero,List.getElem?_cons_succ,Option.some.injEq,forall_eq',forall_eq,List.set_cons_zero,List.set_cons_succ,List.length_cons,List.length_nil,List.getD_cons_zero,List.getD_cons_succ,tn0,tn1,tn2,tn3,Int.le_refl,Nat.le_refl,Nat.reduceAdd,Int.reduceAdd,Int.reduceLE,Nat.reduceLeDiff,cn4,cn16,e]
 unfold cmb
 generalize cmb1 n (a.getD 0 0) (b.getD 0 0)=c0
 generalize cmb1 n (a.getD 1 0) (b.getD 1 0)=c1
 generalize cmb1 n (a.getD 2 0) (b.getD 2 0)=c2
 generalize cmb1 n (a.getD 3 0) (b.getD 3 0)=c3
 simp only [List.length_cons] at h2
 repeat' (first|omega|(refine q3 _ (fun h=> ?_) (fun h=> ?_))|(refine And.intro ?_ ?_))
 all_goals simp [*]
abbrev qBIp:=(0:Int)
abbrev qBIn (a0:List Int) (b0:List Int):=(List.getD [List.getD a0 (0:Nat) qBIp,List.getD a0 (1:Nat) qBIp,List.getD a0 (2:Nat) qBIp,List.getD a0 (3:Nat) qBIp] (0:Nat) qBIp=List.getD b0 (0:Nat) qBIp/\List.getD [List.getD a0 (0:Nat) qBIp,List.getD a0 (1:Nat) qBIp,List.getD a0 (2:Nat) qBIp,List.getD a0 (3:Nat) qBIp] (1:Nat) qBIp=List.getD b0 (1:Nat) qBIp/\List.getD [List.getD a0 (0:Nat) qBIp,List.getD a0 (1:Nat) qBIp,List.getD a0 (2:Nat) qBIp,List.getD a0 (3:Nat) qBIp] (2:Nat) qBIp=List.getD b0 (2:Nat) qBIp/\List.getD [List.getD a0 (0:Nat) qBIp,List.getD a0 (1:Nat) qBIp,List.getD a0 (2:Nat) qBIp,List.getD a0 (3:Nat) qBIp] (3:Nat) qBIp=List.getD b0 (3:Nat) qBIp/\True)
abbrev qBIo (a0:List Int) (b0:List Int):=(List.getD a0 (0:Nat) qBIp==List.getD b0 (0:Nat) qBIp&&(List.getD a0 (1:Nat) qBIp==List.getD b0 (1:Nat) qBIp&&(List.getD a0 (2:Nat) qBIp==List.getD b0 (2:Nat) qBIp&&(List.getD a0 (3:Nat) qBIp==List.getD b0 (3:Nat) qBIp&&true))))
theorem Zsd (ds:List (List Int)) (d:List Int) (b:Bool):Zj E F0 (vc E F0 400) 52 [.psl Th.dims ds false] hp0 0 (fun r=>ret E (patch hp0 0 r) r.v (.tup [dimV d,.bool false b]))=(
 qBIp<=qBIp/\qBIp+(1:Int)<=(↑(List.length ds):Int)/\∀(x:List Int),ds[Int.toNat qBIp]? =some x->qBIp<=qBIp/\qBIp+(1:Int)<=(↑(List.length ds):Int)/\∀(x_1:List Int),ds[Int.toNat qBIp]? =some x_1->qBIp<=(1:Int)/\(1:Int)+(1:Int)<=(↑(List.length ds):Int)/\∀(x_2:List Int),ds[Int.toNat (1:Int)]? =some x_2->((qBIo x_1 x_2)=true->(4:Nat)=(4:Nat)/\(4:Nat)=(4:Nat)/\(qBIn x d)/\true=b/\True)/\((qBIo x_1 x_2)=false->(4:Nat)=(4:Nat)/\(4:Nat)=(4:Nat)/\(qBIn x d)/\false=b/\True)):=by kernel_rfl
def eq4 (a b:List Int):Bool:=a.getD 0 0==b.getD 0 0&&(a.getD 1 0==b.getD 1 0&&(a.getD 2 0==b.getD 2 0&&a.getD 3 0==b.getD 3 0))
theorem Z51 {a b:List Int} (h:a.getD 0 0=b.getD 0 0/\a.getD 1 0=b.getD 1 0/\a.getD 2 0=b.getD 2 0/\a.getD 3 0=b.getD 3 0):eq4 a b=true:=by
 unfold eq4
 simp only [Bool.and_eq_true,beq_iff_eq];exact h
theorem Z52 {a b:List Int} (h:¬a.getD 0 0=b.getD 0 0\/¬a.getD 1 0=b.getD 1 0\/¬a.getD 2 0=b.getD 2 0\/¬a.getD 3 0=b.getD 3 0):eq4 a b=false:=by
 rw [Bool.eq_false_iff]
 intro h'
 unfold eq4 at h'
 simp only [Bool.and_eq_true,beq_iff_eq] at h'
 omega
theorem Zm8 {a b:List Int} (ha:Is4 a) (hb:Is4 b):eq4 a b=decide (a=b):=by
 obtain ⟨a0,a1,a2,a3,rfl⟩:=ha
 obtain ⟨b0,b1,b2,b3,rfl⟩:=hb
 rw [Bool.eq_iff_iff,decide_eq_true_eq]
 unfold eq4
 simp
theorem Zse (ds:List (List Int)) (h2:2<=ds.length):PureC E 52 [.psl Th.dims ds false] (.tup [dimV (ds.getD 0 []),.bool false (eq4 (ds.getD 0 []) (ds.getD 1 []))]):=by
 match ds,h2 with
 |a::b::r,h2=>
 refine Zb E_ok (Z1w 400) ?_
 rw [Zsd];delta qBIp qBIn qBIo
 simp only [Yk,Z0,Wu,Wv,Ww,beq_iff_eq,bne_iff_ne,beq_eq_false_iff_ne,bne_eq_false_iff_eq,decide_eq_true_eq,decide_eq_false_iff_not,Bool.or_eq_true,Bool.or_eq_false_iff,Bool.not_eq_true',Bool.not_eq_false',Bool.and_eq_true,Bool.and_true,Bool.true_and,Bool.and_eq_false_iff,beq_self_eq_true,Xc,Y4,ne_eq,and_true,true_and,Bool.true_eq_false,Bool.false_eq_true,false_or,or_false,true_implies,imp_self,Int.ofNat_eq_natCast,not_true_eq_false,not_false_eq_true,Decidable.not_not,List.getElem?_cons_zero,List.getElem?_cons_succ,Option.some.injEq,forall_eq',forall_eq,List.set_cons_zero,List.set_cons_succ,List.length_cons,List.length_nil,List.getD_cons_zero,List.getD_cons_succ,tn0,tn1,tn2,tn3,Int.le_refl,Nat.le_refl,Nat.reduceAdd,Int.reduceAdd,Int.reduceLE,Nat.reduceLeDiff,cn4,cn16]
 simp only [List.length_cons] at h2
 refine ⟨by omega,by omega,by omega,fun h=> ?_,fun h=> ?_⟩
 · exact (Z51 h).symm
 · exact (Z52 h).symm
abbrev qBIs:=(0:Int)
abbrev qBIq (a0:List Int) (b0:List Int):=(List.getD [List.getD a0 (0:Nat) qBIs,List.getD a0 (1:Nat) qBIs,List.getD a0 (2:Nat) qBIs,List.getD a0 (3:Nat) qBIs] (0:Nat) qBIs=List.getD b0 (0:Nat) qBIs/\List.getD [List.getD a0 (0:Nat) qBIs,List.getD a0 (1:Nat) qBIs,List.getD a0 (2:Nat) qBIs,List.getD a0 (3:Nat) qBIs] (1:Nat) qBIs=List.getD b0 (1:Nat) qBIs/\List.getD [List.getD a0 (0:Nat) qBIs,List.getD a0 (1:Nat) qBIs,List.getD a0 (2:Nat) qBIs,List.getD a0 (3:Nat) qBIs] (2:Nat) qBIs=List.getD b0 (2:Nat) qBIs/\List.getD [List.getD a0 (0:Nat) qBIs,List.getD a0 (1:Nat) qBIs,List.getD a0 (2:Nat) qBIs,List.getD a0 (3:Nat) qBIs] (3:Nat) qBIs=List.getD b0 (3:Nat) qBIs/\True)
abbrev qBIr (a0:List Int) (b0:List Int):=(List.getD a0 (0:Nat) qBIs==List.getD b0 (0:Nat) qBIs&&(List.getD a0 (1:Nat) qBIs==List.getD b0 (1:Nat) qBIs&&(List.getD a0 (2:Nat) qBIs==List.getD b0 (2:Nat) qBIs&&(List.getD a0 (3:Nat) qBIs==List.getD b0 (3:Nat) qBIs&&true))))
abbrev qBIt:=(4:Nat)
theorem Zsf (ds:List (List Int)) (d:List Int) (b:Bool):Zj E F0 (vc E F0 400) 53 [.psl Th.dims ds false] hp0 0 (fun r=>ret E (patch hp0 0 r) r.v (.tup [dimV d,.bool false b]))=(
 qBIs<=(2:Int)/\(2:Int)+(1:Int)<=(↑(List.length ds):Int)/\∀(x:List Int),ds[Int.toNat (2:Int)]? =some x->qBIs<=qBIs/\qBIs+(1:Int)<=(↑(List.length ds):Int)/\∀(x_1:List Int),ds[Int.toNat qBIs]? =some x_1->qBIs<=(1:Int)/\(1:Int)+(1:Int)<=(↑(List.length ds):Int)/\∀(x_2:List Int),ds[Int.toNat (1:Int)]? =some x_2->((qBIr x_1 x_2)=true->qBIs<=(2:Int)/\(2:Int)+(1:Int)<=(↑(List.length ds):Int)/\∀(x_3:List Int),ds[Int.toNat (2:Int)]? =some x_3->qBIs<=(3:Int)/\(3:Int)+(1:Int)<=(↑(List.length ds):Int)/\∀(x_4:List Int),ds[Int.toNat (3:Int)]? =some x_4->((qBIr x_3 x_4)=true->qBIt=qBIt/\qBIt=qBIt/\(qBIq x d)/\true=b/\True)/\((qBIr x_3 x_4)=false->qBIt=qBIt/\qBIt=qBIt/\(qBIq x d)/\false=b/\True))/\((qBIr x_1 x_2)=false->qBIt=qBIt/\qBIt=qBIt/\(qBIq x d)/\false=b/\True)):=by kernel_rfl
theorem Zsg (ds:List (List Int)) (h2:4<=ds.length):PureC E 53 [.psl Th.dims ds false] (.tup [dimV (ds.getD 2 []),.bool false (eq4 (ds.getD 0 []) (ds.getD 1 [])&&eq4 (ds.getD 2 []) (ds.getD 3 []))]):=by
 match ds,h2 with
 |a::b::c::d::r,h2=>
 refine Zb E_ok (Z1w 400) ?_
 rw [Zsf];delta qBIs qBIq qBIr qBIt
 simp only [Yk,Z0,Wu,Wv,Ww,beq_iff_eq,bne_iff_ne,beq_eq_false_iff_ne,bne_eq_false_iff_eq,decide_eq_true_eq,decide_eq_false_iff_not,Bool.or_eq_true,Bool.or_eq_false_iff,Bool.not_eq_true',Bool.not_eq_false',Bool.and_eq_true,Bool.and_true,Bool.true_and,Bool.and_eq_false_iff,beq_self_eq_true,Xc,Y4,ne_eq,and_true,true_and,Bool.true_eq_false,Bool.false_eq_true,false_or,or_false,true_implies,imp_self,Int.ofNat_eq_natCast,not_true_eq_false,not_false_eq_true,Decidable.not_not,List.getElem?_cons_zero,List.getElem?_cons_succ,Option.some.injEq,forall_eq',forall_eq,List.set_cons_zero,List.set_cons_succ,List.length_cons,List.length_nil,List.getD_cons_zero,List.getD_cons_succ,tn0,tn1,tn2,tn3,Int.le_refl,Nat.le_refl,Nat.reduceAdd,Int.reduceAdd,Int.reduceLE,Nat.reduceLeDiff,cn4,cn16]
 simp only [List.length_cons] at h2
 refine ⟨by omega,by omega,by omega,fun h=>⟨by omega,by omega,fun h'=> ?_,fun h'=> ?_⟩,fun h=> ?_⟩
 · rw [Z51 h,Z51 h'];rfl
 · rw [Z52 h',Bool.and_false]
 · rw [Z52 h,Bool.false_and]
end
section
open Go
open Classical in
noncomputable def dRul:Dc E Unit where
  dec v:=if v=Xb then some () else none
  enc _:=Xb
  ok v a h:=by
    split at h
    · rename_i e;subst e;exact ⟨rfl,rfl,fun _ _ _ h=>h⟩
    · cases h
noncomputable def Zjw (m:Nat):Sum thy:=fun args h i k=>match args with
  | [r,xv]=>r=Xb/\(match (dR .exprs).dec xv with|some x=>((x:Ex).sz<m/\Yh x=true)/\∀o,o=V6 x->k (quiet [] (optV o))|none=>False)
  |_=>False
theorem Zjx {m:Nat} (hp:∀x:Ex,x.sz<m->Yh x=true->PureC E 22 [Xb,exA x] (optV (V6 x))):SumOk E 22 (Zjw m):=by
  refine ⟨Zc (f:=22) rfl,fun args h i k hD hk=> ?_⟩
  unfold Zjw at hk
  split at hk
  · rename_i r xv
    obtain ⟨rfl,hk⟩:=hk
    split at hk
    · rename_i x hx
      obtain ⟨⟨h1,h2⟩,hk⟩:=hk
      have hd:(DcL.cons dRul (dA1 (dR .exprs))).dec [Xb,xv]=some ((),x,()):=by
        have h0:(dRul).dec Xb=some ():=by unfold dRul;simp
        simp only [DcL.cons,dA1,DcL.nil,h0,hx]
      have hpure:PureC E 22 [Xb,xv] (optV (V6 x)):=PureC.of_dec hd (hp x h1 h2)
      have hn:=(DcL.cons dRul (dA1 (dR .exprs))).ok _ _ hd
      exact ⟨_,hk _ rfl,(hpure.tri E_ok hn.1 h i).1,.inl (hpure.tri E_ok hn.1 h i).2⟩
    · exact hk.elim
  · exact hk.elim
noncomputable def Spow:Sum thy:=Zwp E (fun _=>none) 10 (dA2 Z50 dPow) (fun x=>2<=x.1.length) (fun x=>cmb x.2.1 (x.1.getD 0 []) (x.1.getD 1 [])) optV
theorem Z4i:SumOk E 81 Spow:=Zik E_ok (Zc (f:=81) rfl) fun x h=>Z01 _ _ h
def prV (p:List Int×Bool):SV thy:= .tup [dimV p.1,.bool false p.2]
noncomputable def Z75:Sum thy:=Zwp E (fun _=>none) 10 (dA1 Z50) (fun x=>2<=x.1.length) (fun x=>(x.1.getD 0 [],eq4 (x.1.getD 0 []) (x.1.getD 1 []))) prV
theorem Zzk:SumOk E 52 Z75:=Zik E_ok (Zc (f:=52) rfl) fun x h=>Zse _ h
noncomputable def Z76:Sum thy:=Zwp E (fun _=>none) 10 (dA1 Z50) (fun x=>4<=x.1.length) (fun x=>(x.1.getD 2 [],eq4 (x.1.getD 0 []) (x.1.getD 1 [])&&eq4 (x.1.getD 2 []) (x.1.getD 3 []))) prV
theorem Zzl:SumOk E 53 Z76:=Zik E_ok (Zc (f:=53) rfl) fun x h=>Zsg _ h
structure UnX where
  k:Nat
  r:Nat
  D:List (List Int)
noncomputable def Yao:Fr thy->Hp thy->Nat->Ann2 thy:=fun T h i=>{X:=UnX,fr:=fun s x=> [(0,T 0),(3,T 3),(4,T 4),(6,match s with|false=> .val (.slice none 0 0)|true=> .sl i 0 x.D.length 4 none),(24,T 24),(25,T 25),(26,.int false .i64 x.k)],bl:=fun s x=>match s with|false=>blkP h (T 3)++blkP h (T 4)|true=>(i,.rows Th.dims x.D 0)::(blkP h (T 3)++blkP h (T 4)),src:=fun s=>match s with|false=> []|true=> [(i,6)],md:= [bOf (T 4)],ih:=i+1,M:=i+40,meas:=fun s x=>x.r}
noncomputable def Zpj:Fns thy:=addS (addS (addS F0 81 Spow) 52 Z75) 53 Z76
theorem Zjy:FnsOk E Zpj:=Zd (Zd (Zd F0_ok Z4i) Zzk) Zzl
noncomputable def Z4j (m:Nat):Fns thy:=Z8n (addS Zpj 22 (Zjw m)) 22 8 Yao E
--@cond unitK | 22 | Zpj>(Z4j m) | 800 | (m : Nat) (x : Ex) | [Xb, exA x] | (o : Option (List Int)) | optV o
theorem Zrl (m:Nat) (x:Ex) (o:Option (List Int)):Zj E Zpj (vc E (Z4j m) 800) 22 [Xb,exA x] hp0 0 (fun r=>ret E (patch hp0 0 r) r.v (optV o))=(
  ((Ex.op x==(1:Int))=true->(4:Nat)=(4:Nat)/\(4:Nat)=(4:Nat)/\(Ex.d0 x=List.getD (Option.getD o [(0:Int),(0:Int),(0:Int),(0:Int)]) (0:Nat) (0:
  Int)/\Ex.d1 x=List.getD (Option.getD o [(0:Int),(0:Int),(0:Int),(0:Int)]) (1:Nat) (0:Int)/\Ex.d2 x=List.getD (Option.getD o [(0:Int),(0:Int),(0:Int),
  (0:Int)]) (2:Nat) (0:Int)/\Ex.d3 x=List.getD (Option.getD o [(0:Int),(0:Int),(0:Int),(0:Int)]) (3:Nat) (0:Int)/\True)/\true=Option.isSome o/\True)/\
  ((Ex.op x==(1:Int))=false->((Ex.op x==(2:Int))=true->(0:Int)<=Ex.n x/\Ex.n x+(1:Int)<=(↑(16:Nat):Int)/\∀(x_1:List Int),[[(0:Int),(0:Int),(0:
  Int),(0:Int)],[(0:Int),(0:Int),(0:Int),(0:Int)],[(0:Int),(0:Int),(0:Int),(0:Int)],[(0:Int),(0:Int),(0:Int),(0:Int)],[(0:Int),(0:Int),
  (0:Int),(0:Int)],[(0:Int),(0:Int),(0:Int),(1:Int)],[(0:Int),(0:Int),(1:Int),(0:Int)],[(0:Int),(1:Int),(0:Int),(0:Int)],[(0:Int),(1:
  Int),(0:Int),(0:Int)],[(0:Int),(0:Int),(0:Int),(0:Int)],[(1:Int),(0:Int),(0:Int),(0:Int)],[(1:Int),(0:Int),(0:Int),(0:Int)],[(0:Int),
  (0:Int),(0:Int),(0:Int)],[(0:Int),(0:Int),(0:Int),(0:Int)],[(0:Int),(0:Int),(0:Int),(0:Int)],[(0:Int),(0:Int),(0:Int),(0:
  Int)]][Int.toNat (Ex.n x)]? =some x_1->(4:Nat)=(4:Nat)/\(4:Nat)=(4:Nat)/\(List.getD x_1 (0:Nat) (0:Int)=List.getD (Option.getD o [(0:Int),(0:Int),(0:
  Int),(0:Int)]) (0:Nat) (0:Int)/\List.getD x_1 (1:Nat) (0:Int)=List.getD (Option.getD o [(0:Int),(0:Int),(0:Int),(0:Int)]) (1:Nat) (0:Int)/\List.getD
  x_1 (2:Nat) (0:Int)=List.getD (Option.getD o [(0:Int),(0:Int),(0:Int),(0:Int)]) (2:Nat) (0:Int)/\List.getD x_1 (3:Nat) (0:Int)=List.getD (Option.getD o
  [(0:Int),(0:Int),(0:Int),(0:Int)]) (3:Nat) (0:Int)/\True)/\true=Option.isSome o/\True)/\((Ex.op x==(2:Int))=false->∃(R:Bool->UnX->Prop),((∃(x:
  UnX),R true x/\true=true/\False)\/∃(x_1:UnX),R false x_1/\true=true/\((Yf=Yf/\true=true)/\(0:Nat)=(0:Nat)/\(0:Nat)=(0:Nat)/\Value.slice
  none (0:Nat) (0:Nat)=Value.slice none (0:Nat) (0:Nat)/\(Ex.l x=Ex.l x/\(false=true->false=true))/\(↑(List.length (Ex.l x)):Int)=(↑(List.length (Ex.l x)):
  Int)/\(0:Int)=(↑(UnX.k x_1):Int)/\True)/\(Ex.op x=Ex.op x/\Ex.n x=Ex.n x/\Ex.d0 x=Ex.d0 x/\Ex.d1 x=Ex.d1 x/\Ex.d2 x=Ex.d2 x/\Ex.d3 x=Ex.d3 x/\(Ex.l x=
  Ex.l x/\(false=true->false=true))/\True)/\([(0:Int),(0:Int),(0:Int),(0:Int)]= [(0:Int),(0:Int),(0:Int),(0:Int)]/\(0:Nat)=(0:Nat))/\True)/\(∀
  (x_1:UnX),R true x_1->(decide ((↑(UnX.k x_1):Int)<(↑(List.length (Ex.l x)):Int))=true->(0:Int)<=(↑(UnX.k x_1):Int)/\(↑(UnX.k x_1):Int)+(1:Int)<=
  (↑(List.length (Ex.l x)):Int)/\∀(x_2:Ex),(Ex.l x)[Int.toNat (↑(UnX.k x_1):Int)]? =some x_2->SV.pmap Yf=Xb/\(Ex.sz (Ex.mk (Ex.op x_2) (Ex.n x_2) (Ex.d0 x_2)
  (Ex.d1 x_2) (Ex.d2 x_2) (Ex.d3 x_2) (Ex.l x_2))+(1:Nat)<=m/\Yh (Ex.mk (Ex.op x_2) (Ex.n x_2) (Ex.d0 x_2) (Ex.d1 x_2) (Ex.d2 x_2) (Ex.d3 x_2) (Ex.l x_2))=true)/\∀(o_1:
  Option (List Int)),o_1=V6 (Ex.mk (Ex.op x_2) (Ex.n x_2) (Ex.d0 x_2) (Ex.d1 x_2) (Ex.d2 x_2) (Ex.d3 x_2) (Ex.l x_2))->(4:Nat)=(4:Nat)/\((!Option.isSome o_1)=true->
  (4:Nat)=(4:Nat)/\(4:Nat)=(4:Nat)/\((0:Int)=List.getD (Option.getD o [(0:Int),(0:Int),(0:Int),(0:Int)]) (0:Nat) (0:Int)/\(0:Int)=List.getD
  (Option.getD o [(0:Int),(0:Int),(0:Int),(0:Int)]) (1:Nat) (0:Int)/\(0:Int)=List.getD (Option.getD o [(0:Int),(0:Int),(0:Int),(0:Int)]) (2:Nat) (0:
  Int)/\(0:Int)=List.getD (Option.getD o [(0:Int),(0:Int),(0:Int),(0:Int)]) (3:Nat) (0:Int)/\True)/\false=Option.isSome o/\True)/\((!Option.isSome o_1)=
  false->(4:Nat)=(4:Nat)/\(List.length (UnX.D x_1)<=List.length (UnX.D x_1)/\(0:Nat)<=List.length (UnX.D x_1)/\(List.length (UnX.D x_1)+(1:Nat))*(32:Nat)<=
  (140737488355328:Nat))/\((∃(x':UnX),R true x'/\x'.2+(1:Nat)<=x_1.2/\true=true/\((Yf=Yf/\true=true)/\(0:Nat)=(0:Nat)/\(0:Nat)=(0:Nat)/\
  ((0:Nat)=(0:Nat)/\List.length (UnX.D x_1)+(1:Nat)=List.length (UnX.D x')/\True)/\(Ex.l x=Ex.l x/\(false=true->false=true))/\(↑(List.length (Ex.l x)):Int)
  =(↑(List.length (Ex.l x)):Int)/\wr IntKind.i64 ((↑(UnX.k x_1):Int)+(1:Int))=(↑(UnX.k x'):Int)/\True)/\(List.take (List.length (UnX.D x_1)) (UnX.D x_1)++
  [[List.getD (Option.getD o_1 [(0:Int),(0:Int),(0:Int),(0:Int)]) (0:Nat) (0:Int),List.getD (Option.getD o_1 [(0:Int),(0:Int),(0:Int),(0:Int)]) (1:Nat)
  (0:Int),List.getD (Option.getD o_1 [(0:Int),(0:Int),(0:Int),(0:Int)]) (2:Nat) (0:Int),List.getD (Option.getD o_1 [(0:Int),(0:Int),(0:Int),(0:Int)]) (3
  :Nat) (0:Int)]]=UnX.D x'/\(0:Nat)=(0:Nat))/\(Ex.op x=Ex.op x/\Ex.n x=Ex.n x/\Ex.d0 x=Ex.d0 x/\Ex.d1 x=Ex.d1 x/\Ex.d2 x=Ex.d2 x/\Ex.d3 x=Ex.d3 x/\
  (Ex.l x=Ex.l x/\(false=true->false=true))/\True)/\([(0:Int),(0:Int),(0:Int),(0:Int)]= [(0:Int),(0:Int),(0:Int),(0:Int)]/\(0:Nat)=(0:Nat))/\
  True)\/∃(x':UnX),R false x'/\x'.2+(1:Nat)<=x_1.2/\true=true/\((Yf=Yf/\true=true)/\(0:Nat)=(0:Nat)/\(0:Nat)=(0:Nat)/\False/\(Ex.l x=
  Ex.l x/\(false=true->false=true))/\(↑(List.length (Ex.l x)):Int)=(↑(List.length (Ex.l x)):Int)/\wr IntKind.i64 ((↑(UnX.k x_1):Int)+(1:Int))=(↑(UnX.k x'):
  Int)/\True)/\(Ex.op x=Ex.op x/\Ex.n x=Ex.n x/\Ex.d0 x=Ex.d0 x/\Ex.d1 x=Ex.d1 x/\Ex.d2 x=Ex.d2 x/\Ex.d3 x=Ex.d3 x/\(Ex.l x=Ex.l x/\(false=true->false=
  true))/\True)/\([(0:Int),(0:Int),(0:Int),(0:Int)]= [(0:Int),(0:Int),(0:Int),(0:Int)]/\(0:Nat)=(0:Nat))/\True)))/\(decide ((↑(UnX.k x_1):Int)<
  (↑(List.length (Ex.l x)):Int))=false->((Ex.op x==(3:Int))=true->(0:Nat)+List.length (UnX.D x_1)<=List.length (UnX.D x_1)/\(2:Nat)<=List.length (List.take
  (List.length (UnX.D x_1)) (List.drop (0:Nat) (UnX.D x_1)))/\∀(y:List Int×Bool),y=(List.getD (List.take (List.length (UnX.D x_1)) (List.drop (0:Nat) (UnX.D x_1))) (0:
  Nat) [],eq4 (List.getD (List.take (List.length (UnX.D x_1)) (List.drop (0:Nat) (UnX.D x_1))) (0:Nat) []) (List.getD (List.take (List.length (UnX.D x_1)) (List.drop (0:Nat)
  (UnX.D x_1))) (1:Nat) []))->(4:Nat)=(4:Nat)/\((!Prod.snd y)=true->(4:Nat)=(4:Nat)/\(4:Nat)=(4:Nat)/\((0:Int)=List.getD (Option.getD o [(0:Int),(0
  :Int),(0:Int),(0:Int)]) (0:Nat) (0:Int)/\(0:Int)=List.getD (Option.getD o [(0:Int),(0:Int),(0:Int),(0:Int)]) (1:Nat) (0:Int)/\(0:Int)=List.getD
  (Option.getD o [(0:Int),(0:Int),(0:Int),(0:Int)]) (2:Nat) (0:Int)/\(0:Int)=List.getD (Option.getD o [(0:Int),(0:Int),(0:Int),(0:Int)]) (3:Nat) (0:
  Int)/\True)/\false=Option.isSome o/\True)/\((!Prod.snd y)=false->(4:Nat)=(4:Nat)/\(4:Nat)=(4:Nat)/\(4:Nat)=(4:Nat)/\(List.getD (Prod.fst y) (0:Nat)
  (0:Int)=List.getD (Option.getD o [(0:Int),(0:Int),(0:Int),(0:Int)]) (0:Nat) (0:Int)/\List.getD (Prod.fst y) (1:Nat) (0:Int)=List.getD (Option.getD o [(0:
  Int),(0:Int),(0:Int),(0:Int)]) (1:Nat) (0:Int)/\List.getD (Prod.fst y) (2:Nat) (0:Int)=List.getD (Option.getD o [(0:Int),(0:Int),(0:Int),(0:Int)]) (2
  :Nat) (0:Int)/\List.getD (Prod.fst y) (3:Nat) (0:Int)=List.getD (Option.getD o [(0:Int),(0:Int),(0:Int),(0:Int)]) (3:Nat) (0:Int)/\True)/\true=
  Option.isSome o/\True))/\((Ex.op x==(3:Int))=false->((Ex.op x==(4:Int))=true->(0:Nat)+List.length (UnX.D x_1)<=List.length (UnX.D x_1)/\(2:Nat)<=
  List.length (List.take (List.length (UnX.D x_1)) (List.drop (0:Nat) (UnX.D x_1)))/\∀(y:List Int×Bool),y=(List.getD (List.take (List.length (UnX.D x_1)) (List.drop (0:
  Nat) (UnX.D x_1))) (0:Nat) [],eq4 (List.getD (List.take (List.length (UnX.D x_1)) (List.drop (0:Nat) (UnX.D x_1))) (0:Nat) []) (List.getD (List.take (List.length (UnX.D
  x_1)) (List.drop (0:Nat) (UnX.D x_1))) (1:Nat) []))->(4:Nat)=(4:Nat)/\((!Prod.snd y)=true->(4:Nat)=(4:Nat)/\(4:Nat)=(4:Nat)/\((0:Int)=List.getD
  (Option.getD o [(0:Int),(0:Int),(0:Int),(0:Int)]) (0:Nat) (0:Int)/\(0:Int)=List.getD (Option.getD o [(0:Int),(0:Int),(0:Int),(0:Int)]) (1:Nat) (0:
  Int)/\(0:Int)=List.getD (Option.getD o [(0:Int),(0:Int),(0:Int),(0:Int)]) (2:Nat) (0:Int)/\(0:Int)=List.getD (Option.getD o [(0:Int),(0:Int),(0:
  Int),(0:Int)]) (3:Nat) (0:Int)/\True)/\false=Option.isSome o/\True)/\((!Prod.snd y)=false->(4:Nat)=(4:Nat)/\(4:Nat)=(4:Nat)/\(4:Nat)=(4:Nat)/\
  (List.getD (Prod.fst y) (0:Nat) (0:Int)=List.getD (Option.getD o [(0:Int),(0:Int),(0:Int),(0:Int)]) (0:Nat) (0:Int)/\List.getD (Prod.fst y) (1:Nat) (0:
  Int)=List.getD (Option.getD o [(0:Int),(0:Int),(0:Int),(0:Int)]) (1:Nat) (0:Int)/\List.getD (Prod.fst y) (2:Nat) (0:Int)=List.getD (Option.getD o [(0:
  Int),(0:Int),(0:Int),(0:Int)]) (2:Nat) (0:Int)/\List.getD (Prod.fst y) (3:Nat) (0:Int)=List.getD (Option.getD o [(0:Int),(0:Int),(0:Int),(0:Int)]) (3
  :Nat) (0:Int)/\True)/\true=Option.isSome o/\True))/\((Ex.op x==(4:Int))=false->((Ex.op x==(6:Int))=true->(0:Nat)+List.length (UnX.D x_1)<=List.length
  (UnX.D x_1)/\(2:Nat)<=List.length (List.take (List.length (UnX.D x_1)) (List.drop (0:Nat) (UnX.D x_1)))/\∀(y:List Int×Bool),y=(List.getD (List.take (List.length
  (UnX.D x_1)) (List.drop (0:Nat) (UnX.D x_1))) (0:Nat) [],eq4 (List.getD (List.take (List.length (UnX.D x_1)) (List.drop (0:Nat) (UnX.D x_1))) (0:Nat) []) (List.getD
  (List.take (List.length (UnX.D x_1)) (List.drop (0:Nat) (UnX.D x_1))) (1:Nat) []))->(4:Nat)=(4:Nat)/\((!Prod.snd y)=true->(4:Nat)=(4:Nat)/\(4:Nat)=(4:
  Nat)/\((0:Int)=List.getD (Option.getD o [(0:Int),(0:Int),(0:Int),(0:Int)]) (0:Nat) (0:Int)/\(0:Int)=List.getD (Option.getD o [(0:Int),(0:Int),(0:
  Int),(0:Int)]) (1:Nat) (0:Int)/\(0:Int)=List.getD (Option.getD o [(0:Int),(0:Int),(0:Int),(0:Int)]) (2:Nat) (0:Int)/\(0:Int)=List.getD (Option.getD
  o [(0:Int),(0:Int),(0:Int),(0:Int)]) (3:Nat) (0:Int)/\True)/\false=Option.isSome o/\True)/\((!Prod.snd y)=false->(4:Nat)=(4:Nat)/\(4:Nat)=(4:
  Nat)/\(4:Nat)=(4:Nat)/\(List.getD (Prod.fst y) (0:Nat) (0:Int)=List.getD (Option.getD o [(0:Int),(0:Int),(0:Int),(0:Int)]) (0:Nat) (0:Int)/\List.getD
  (Prod.fst y) (1:Nat) (0:Int)=List.getD (Option.getD o [(0:Int),(0:Int),(0:Int),(0:Int)]) (1:Nat) (0:Int)/\List.getD (Prod.fst y) (2:Nat) (0:Int)=
  List.getD (Option.getD o [(0:Int),(0:Int),(0:Int),(0:Int)]) (2:Nat) (0:Int)/\List.getD (Prod.fst y) (3:Nat) (0:Int)=List.getD (Option.getD o [(0:Int),(0:
  Int),(0:Int),(0:Int)]) (3:Nat) (0:Int)/\True)/\true=Option.isSome o/\True))/\((Ex.op x==(6:Int))=false->((Ex.op x==(7:Int))=true->(0:Nat)+
  List.length (UnX.D x_1)<=List.length (UnX.D x_1)/\(2:Nat)<=List.length (List.take (List.length (UnX.D x_1)) (List.drop (0:Nat) (UnX.D x_1)))/\∀(y:List Int×Bool),y=
  (List.getD (List.take (List.length (UnX.D x_1)) (List.drop (0:Nat) (UnX.D x_1))) (0:Nat) [],eq4 (List.getD (List.take (List.length (UnX.D x_1)) (List.drop (0:Nat) (UnX.D
  x_1))) (0:Nat) []) (List.getD (List.take (List.length (UnX.D x_1)) (List.drop (0:Nat) (UnX.D x_1))) (1:Nat) []))->(4:Nat)=(4:Nat)/\((!Prod.snd y)=true->(4:Nat)=
  (4:Nat)/\(4:Nat)=(4:Nat)/\((0:Int)=List.getD (Option.getD o [(0:Int),(0:Int),(0:Int),(0:Int)]) (0:Nat) (0:Int)/\(0:Int)=List.getD (Option.getD o
  [(0:Int),(0:Int),(0:Int),(0:Int)]) (1:Nat) (0:Int)/\(0:Int)=List.getD (Option.getD o [(0:Int),(0:Int),(0:Int),(0:Int)]) (2:Nat) (0:Int)/\(0:
  Int)=List.getD (Option.getD o [(0:Int),(0:Int),(0:Int),(0:Int)]) (3:Nat) (0:Int)/\True)/\false=Option.isSome o/\True)/\((!Prod.snd y)=false->(4:Nat)=
  (4:Nat)/\(4:Nat)=(4:Nat)/\(4:Nat)=(4:Nat)/\(List.getD (Prod.fst y) (0:Nat) (0:Int)=List.getD (Option.getD o [(0:Int),(0:Int),(0:Int),(0:Int)]) (0
  :Nat) (0:Int)/\List.getD (Prod.fst y) (1:Nat) (0:Int)=List.getD (Option.getD o [(0:Int),(0:Int),(0:Int),(0:Int)]) (1:Nat) (0:Int)/\List.getD (Prod.fst y)
  (2:Nat) (0:Int)=List.getD (Option.getD o [(0:Int),(0:Int),(0:Int),(0:Int)]) (2:Nat) (0:Int)/\List.getD (Prod.fst y) (3:Nat) (0:Int)=List.getD
  (Option.getD o [(0:Int),(0:Int),(0:Int),(0:Int)]) (3:Nat) (0:Int)/\True)/\true=Option.isSome o/\True))/\((Ex.op x==(7:Int))=false->((Ex.op x==(5:
  Int))=true->(0:Nat)+List.length (UnX.D x_1)<=List.length (UnX.D x_1)/\(2:Nat)<=List.length (List.take (List.length (UnX.D x_1)) (List.drop (0:Nat) (UnX.D x_1)))/\∀
  (y:Option (List Int)),y=cmb (1:Int) (List.getD (List.take (List.length (UnX.D x_1)) (List.drop (0:Nat) (UnX.D x_1))) (0:Nat) []) (List.getD (List.take (List.length
  (UnX.D x_1)) (List.drop (0:Nat) (UnX.D x_1))) (1:Nat) [])->(4:Nat)=(4:Nat)/\((!Option.isSome y)=true->(4:Nat)=(4:Nat)/\(4:Nat)=(4:Nat)/\((0:Int)=
  List.getD (Option.getD o [(0:Int),(0:Int),(0:Int),(0:Int)]) (0:Nat) (0:Int)/\(0:Int)=List.getD (Option.getD o [(0:Int),(0:Int),(0:Int),(0:Int)]) (1:
  Nat) (0:Int)/\(0:Int)=List.getD (Option.getD o [(0:Int),(0:Int),(0:Int),(0:Int)]) (2:Nat) (0:Int)/\(0:Int)=List.getD (Option.getD o [(0:Int),(0:
  Int),(0:Int),(0:Int)]) (3:Nat) (0:Int)/\True)/\false=Option.isSome o/\True)/\((!Option.isSome y)=false->(4:Nat)=(4:Nat)/\(4:Nat)=(4:Nat)/\(4:Nat)
  =(4:Nat)/\(List.getD (Option.getD y [(0:Int),(0:Int),(0:Int),(0:Int)]) (0:Nat) (0:Int)=List.getD (Option.getD o [(0:Int),(0:Int),(0:Int),(0:Int)])
  (0:Nat) (0:Int)/\List.getD (Option.getD y [(0:Int),(0:Int),(0:Int),(0:Int)]) (1:Nat) (0:Int)=List.getD (Option.getD o [(0:Int),(0:Int),(0:Int),(0:
  Int)]) (1:Nat) (0:Int)/\List.getD (Option.getD y [(0:Int),(0:Int),(0:Int),(0:Int)]) (2:Nat) (0:Int)=List.getD (Option.getD o [(0:Int),(0:Int),(0:Int),
  (0:Int)]) (2:Nat) (0:Int)/\List.getD (Option.getD y [(0:Int),(0:Int),(0:Int),(0:Int)]) (3:Nat) (0:Int)=List.getD (Option.getD o [(0:Int),(0:Int),(0:
  Int),(0:Int)]) (3:Nat) (0:Int)/\True)/\true=Option.isSome o/\True))/\((Ex.op x==(5:Int))=false->((Ex.op x==(8:Int))=true->(0:Nat)+List.length (UnX.D
  x_1)<=List.length (UnX.D x_1)/\(2:Nat)<=List.length (List.take (List.length (UnX.D x_1)) (List.drop (0:Nat) (UnX.D x_1)))/\∀(y:Option (List Int)),y=cmb (-1:Int)
  (List.getD (List.take (List.length (UnX.D x_1)) (List.drop (0:Nat) (UnX.D x_1))) (0:Nat) []) (List.getD (List.take (List.length (UnX.D x_1)) (List.drop (0:Nat) (UnX.D x_1)))
  (1:Nat) [])->(4:Nat)=(4:Nat)/\((!Option.isSome y)=true->(4:Nat)=(4:Nat)/\(4:Nat)=(4:Nat)/\((0:Int)=List.getD (Option.getD o [(0:Int),(0:Int),(0
  :Int),(0:Int)]) (0:Nat) (0:Int)/\(0:Int)=List.getD (Option.getD o [(0:Int),(0:Int),(0:Int),(0:Int)]) (1:Nat) (0:Int)/\(0:Int)=List.getD
  (Option.getD o [(0:Int),(0:Int),(0:Int),(0:Int)]) (2:Nat) (0:Int)/\(0:Int)=List.getD (Option.getD o [(0:Int),(0:Int),(0:Int),(0:Int)]) (3:Nat) (0:
  Int)/\True)/\false=Option.isSome o/\True)/\((!Option.isSome y)=false->(4:Nat)=(4:Nat)/\(4:Nat)=(4:Nat)/\(4:Nat)=(4:Nat)/\(List.getD (Option.getD y [(0
  :Int),(0:Int),(0:Int),(0:Int)]) (0:Nat) (0:Int)=List.getD (Option.getD o [(0:Int),(0:Int),(0:Int),(0:Int)]) (0:Nat) (0:Int)/\List.getD (Option.getD
  y [(0:Int),(0:Int),(0:Int),(0:Int)]) (1:Nat) (0:Int)=List.getD (Option.getD o [(0:Int),(0:Int),(0:Int),(0:Int)]) (1:Nat) (0:Int)/\List.getD
  (Option.getD y [(0:Int),(0:Int),(0:Int),(0:Int)]) (2:Nat) (0:Int)=List.getD (Option.getD o [(0:Int),(0:Int),(0:Int),(0:Int)]) (2:Nat) (0:Int)/\
  List.getD (Option.getD y [(0:Int),(0:Int),(0:Int),(0:Int)]) (3:Nat) (0:Int)=List.getD (Option.getD o [(0:Int),(0:Int),(0:Int),(0:Int)]) (3:Nat) (0:
  Int)/\True)/\true=Option.isSome o/\True))/\((Ex.op x==(8:Int))=false->((Ex.op x==(9:Int))=true->(0:Nat)+List.length (UnX.D x_1)<=List.length (UnX.D x_1)/\
  (2:Nat)<=List.length (List.take (List.length (UnX.D x_1)) (List.drop (0:Nat) (UnX.D x_1)))/\∀(y:Option (List Int)),y=cmb (-1:Int) (List.getD (List.take (List.length
  (UnX.D x_1)) (List.drop (0:Nat) (UnX.D x_1))) (0:Nat) []) (List.getD (List.take (List.length (UnX.D x_1)) (List.drop (0:Nat) (UnX.D x_1))) (1:Nat) [])->(4:Nat)=(4:
  Nat)/\((!Option.isSome y)=true->(4:Nat)=(4:Nat)/\(4:Nat)=(4:Nat)/\((0:Int)=List.getD (Option.getD o [(0:Int),(0:Int),(0:Int),(0:Int)]) (0:Nat) (0
  :Int)/\(0:Int)=List.getD (Option.getD o [(0:Int),(0:Int),(0:Int),(0:Int)]) (1:Nat) (0:Int)/\(0:Int)=List.getD (Option.getD o [(0:Int),(0:Int),(0:
  Int),(0:Int)]) (2:Nat) (0:Int)/\(0:Int)=List.getD (Option.getD o [(0:Int),(0:Int),(0:Int),(0:Int)]) (3:Nat) (0:Int)/\True)/\false=Option.isSome o/\
  True)/\((!Option.isSome y)=false->(4:Nat)=(4:Nat)/\(4:Nat)=(4:Nat)/\(4:Nat)=(4:Nat)/\(List.getD (Option.getD y [(0:Int),(0:Int),(0:Int),(0:
  Int)]) (0:Nat) (0:Int)=List.getD (Option.getD o [(0:Int),(0:Int),(0:Int),(0:Int)]) (0:Nat) (0:Int)/\List.getD (Option.getD y [(0:Int),(0:Int),(0:Int),
  (0:Int)]) (1:Nat) (0:Int)=List.getD (Option.getD o [(0:Int),(0:Int),(0:Int),(0:Int)]) (1:Nat) (0:Int)/\List.getD (Option.getD y [(0:Int),(0:Int),(0:
  Int),(0:Int)]) (2:Nat) (0:Int)=List.getD (Option.getD o [(0:Int),(0:Int),(0:Int),(0:Int)]) (2:Nat) (0:Int)/\List.getD (Option.getD y [(0:Int),(0:Int),
  (0:Int),(0:Int)]) (3:Nat) (0:Int)=List.getD (Option.getD o [(0:Int),(0:Int),(0:Int),(0:Int)]) (3:Nat) (0:Int)/\True)/\true=Option.isSome o/\True))/\
  ((Ex.op x==(9:Int))=false->((Ex.op x==(10:Int))=true->(0:Nat)+List.length (UnX.D x_1)<=List.length (UnX.D x_1)/\(2:Nat)<=List.length (List.take (List.length
  (UnX.D x_1)) (List.drop (0:Nat) (UnX.D x_1)))/\∀(y:Option (List Int)),y=cmb (-1:Int) (List.getD (List.take (List.length (UnX.D x_1)) (List.drop (0:Nat) (UnX.D x_1)))
  (0:Nat) []) (List.getD (List.take (List.length (UnX.D x_1)) (List.drop (0:Nat) (UnX.D x_1))) (1:Nat) [])->(4:Nat)=(4:Nat)/\((!Option.isSome y)=true->(4:Nat)=(4
  :Nat)/\(4:Nat)=(4:Nat)/\((0:Int)=List.getD (Option.getD o [(0:Int),(0:Int),(0:Int),(0:Int)]) (0:Nat) (0:Int)/\(0:Int)=List.getD (Option.getD o [(0
  :Int),(0:Int),(0:Int),(0:Int)]) (1:Nat) (0:Int)/\(0:Int)=List.getD (Option.getD o [(0:Int),(0:Int),(0:Int),(0:Int)]) (2:Nat) (0:Int)/\(0:Int)=
  List.getD (Option.getD o [(0:Int),(0:Int),(0:Int),(0:Int)]) (3:Nat) (0:Int)/\True)/\false=Option.isSome o/\True)/\((!Option.isSome y)=false->(4:Nat)=(4
  :Nat)/\(4:Nat)=(4:Nat)/\(4:Nat)=(4:Nat)/\(List.getD (Option.getD y [(0:Int),(0:Int),(0:Int),(0:Int)]) (0:Nat) (0:Int)=List.getD (Option.getD o [(0
  :Int),(0:Int),(0:Int),(0:Int)]) (0:Nat) (0:Int)/\List.getD (Option.getD y [(0:Int),(0:Int),(0:Int),(0:Int)]) (1:Nat) (0:Int)=List.getD (Option.getD
  o [(0:Int),(0:Int),(0:Int),(0:Int)]) (1:Nat) (0:Int)/\List.getD (Option.getD y [(0:Int),(0:Int),(0:Int),(0:Int)]) (2:Nat) (0:Int)=List.getD
  (Option.getD o [(0:Int),(0:Int),(0:Int),(0:Int)]) (2:Nat) (0:Int)/\List.getD (Option.getD y [(0:Int),(0:Int),(0:Int),(0:Int)]) (3:Nat) (0:Int)=
  List.getD (Option.getD o [(0:Int),(0:Int),(0:Int),(0:Int)]) (3:Nat) (0:Int)/\True)/\true=Option.isSome o/\True))/\((Ex.op x==(10:Int))=false->((Ex.op x
  ==(11:Int))=true->(0:Nat)+List.length (UnX.D x_1)<=List.length (UnX.D x_1)/\(4:Nat)<=List.length (List.take (List.length (UnX.D x_1)) (List.drop (0:Nat) (UnX.D
  x_1)))/\∀(y:List Int×Bool),y=(List.getD (List.take (List.length (UnX.D x_1)) (List.drop (0:Nat) (UnX.D x_1))) (2:Nat) [],eq4 (List.getD (List.take (List.length (UnX.D
  x_1)) (List.drop (0:Nat) (UnX.D x_1))) (0:Nat) []) (List.getD (List.take (List.length (UnX.D x_1)) (List.drop (0:Nat) (UnX.D x_1))) (1:Nat) [])&&eq4 (List.getD (List.take
  (List.length (UnX.D x_1)) (List.drop (0:Nat) (UnX.D x_1))) (2:Nat) []) (List.getD (List.take (List.length (UnX.D x_1)) (List.drop (0:Nat) (UnX.D x_1))) (3:Nat) []))->(4:
  Nat)=(4:Nat)/\((!Prod.snd y)=true->(4:Nat)=(4:Nat)/\(4:Nat)=(4:Nat)/\((0:Int)=List.getD (Option.getD o [(0:Int),(0:Int),(0:Int),(0:Int)]) (0:
  Nat) (0:Int)/\(0:Int)=List.getD (Option.getD o [(0:Int),(0:Int),(0:Int),(0:Int)]) (1:Nat) (0:Int)/\(0:Int)=List.getD (Option.getD o [(0:Int),(0:
  Int),(0:Int),(0:Int)]) (2:Nat) (0:Int)/\(0:Int)=List.getD (Option.getD o [(0:Int),(0:Int),(0:Int),(0:Int)]) (3:Nat) (0:Int)/\True)/\false=
  Option.isSome o/\True)/\((!Prod.snd y)=false->(4:Nat)=(4:Nat)/\(4:Nat)=(4:Nat)/\(4:Nat)=(4:Nat)/\(List.getD (Prod.fst y) (0:Nat) (0:Int)=List.getD
  (Option.getD o [(0:Int),(0:Int),(0:Int),(0:Int)]) (0:Nat) (0:Int)/\List.getD (Prod.fst y) (1:Nat) (0:Int)=List.getD (Option.getD o [(0:Int),(0:Int),(0:
  Int),(0:Int)]) (1:Nat) (0:Int)/\List.getD (Prod.fst y) (2:Nat) (0:Int)=List.getD (Option.getD o [(0:Int),(0:Int),(0:Int),(0:Int)]) (2:Nat) (0:Int)/\
  List.getD (Prod.fst y) (3:Nat) (0:Int)=List.getD (Option.getD o [(0:Int),(0:Int),(0:Int),(0:Int)]) (3:Nat) (0:Int)/\True)/\true=Option.isSome o/\True))/\
  ((Ex.op x==(11:Int))=false->False)))))))))))/\∀(x_1:UnX),R false x_1->(decide ((↑(UnX.k x_1):Int)<(↑(List.length (Ex.l x)):Int))=true->(0:Int)<=(↑(UnX.k
  x_1):Int)/\(↑(UnX.k x_1):Int)+(1:Int)<=(↑(List.length (Ex.l x)):Int)/\∀(x_2:Ex),(Ex.l x)[Int.toNat (↑(UnX.k x_1):Int)]? =some x_2->SV.pmap Yf=Xb/\
  (Ex.sz (Ex.mk (Ex.op x_2) (Ex.n x_2) (Ex.d0 x_2) (Ex.d1 x_2) (Ex.d2 x_2) (Ex.d3 x_2) (Ex.l x_2))+(1:Nat)<=m/\Yh (Ex.mk (Ex.op x_2) (Ex.n x_2) (Ex.d0 x_2) (Ex.d1 x_2)
  (Ex.d2 x_2) (Ex.d3 x_2) (Ex.l x_2))=true)/\∀(o_1:Option (List Int)),o_1=V6 (Ex.mk (Ex.op x_2) (Ex.n x_2) (Ex.d0 x_2) (Ex.d1 x_2) (Ex.d2 x_2) (Ex.d3 x_2) (Ex.l x_2))->
  (4:Nat)=(4:Nat)/\((!Option.isSome o_1)=true->(4:Nat)=(4:Nat)/\(4:Nat)=(4:Nat)/\((0:Int)=List.getD (Option.getD o [(0:Int),(0:Int),(0:Int),(0:
  Int)]) (0:Nat) (0:Int)/\(0:Int)=List.getD (Option.getD o [(0:Int),(0:Int),(0:Int),(0:Int)]) (1:Nat) (0:Int)/\(0:Int)=List.getD (Option.getD o [(0:
  Int),(0:Int),(0:Int),(0:Int)]) (2:Nat) (0:Int)/\(0:Int)=List.getD (Option.getD o [(0:Int),(0:Int),(0:Int),(0:Int)]) (3:Nat) (0:Int)/\True)/\false
  =Option.isSome o/\True)/\((!Option.isSome o_1)=false->(4:Nat)=(4:Nat)/\((∃(x':UnX),R true x'/\x'.2+(1:Nat)<=x_1.2/\true=true/\((Yf=Yf/\true
  =true)/\(0:Nat)=(0:Nat)/\(0:Nat)=(0:Nat)/\((0:Nat)=(0:Nat)/\(1:Nat)=List.length (UnX.D x')/\True)/\(Ex.l x=Ex.l x/\(false=true->false=true))/\
  (↑(List.length (Ex.l x)):Int)=(↑(List.length (Ex.l x)):Int)/\wr IntKind.i64 ((↑(UnX.k x_1):Int)+(1:Int))=(↑(UnX.k x'):Int)/\True)/\([[List.getD (Option.getD o_1
  [(0:Int),(0:Int),(0:Int),(0:Int)]) (0:Nat) (0:Int),List.getD (Option.getD o_1 [(0:Int),(0:Int),(0:Int),(0:Int)]) (1:Nat) (0:Int),List.getD
  (Option.getD o_1 [(0:Int),(0:Int),(0:Int),(0:Int)]) (2:Nat) (0:Int),List.getD (Option.getD o_1 [(0:Int),(0:Int),(0:Int),(0:Int)]) (3:Nat) (0:Int)]]=
  UnX.D x'/\(0:Nat)=(0:Nat))/\(Ex.op x=Ex.op x/\Ex.n x=Ex.n x/\Ex.d0 x=Ex.d0 x/\Ex.d1 x=Ex.d1 x/\Ex.d2 x=Ex.d2 x/\Ex.d3 x=Ex.d3 x/\(Ex.l x=Ex.l x/\(false
  =true->false=true))/\True)/\([(0:Int),(0:Int),(0:Int),(0:Int)]= [(0:Int),(0:Int),(0:Int),(0:Int)]/\(0:Nat)=(0:Nat))/\True)\/∃(x':UnX),R
  false x'/\x'.2+(1:Nat)<=x_1.2/\true=true/\((Yf=Yf/\true=true)/\(0:Nat)=(0:Nat)/\(0:Nat)=(0:Nat)/\False/\(Ex.l x=Ex.l x/\(false=true->
  false=true))/\(↑(List.length (Ex.l x)):Int)=(↑(List.length (Ex.l x)):Int)/\wr IntKind.i64 ((↑(UnX.k x_1):Int)+(1:Int))=(↑(UnX.k x'):Int)/\True)/\(Ex.op x=
  Ex.op x/\Ex.n x=Ex.n x/\Ex.d0 x=Ex.d0 x/\Ex.d1 x=Ex.d1 x/\Ex.d2 x=Ex.d2 x/\Ex.d3 x=Ex.d3 x/\(Ex.l x=Ex.l x/\(false=true->false=true))/\True)/\([(0:Int),
  (0:Int),(0:Int),(0:Int)]= [(0:Int),(0:Int),(0:Int),(0:Int)]/\(0:Nat)=(0:Nat))/\True)))/\(decide ((↑(UnX.k x_1):Int)<(↑(List.length (Ex.l x)):
  Int))=false->((Ex.op x==(3:Int))=true->(2:Nat)<=(0:Nat)/\∀(y:List Int×Bool),y=(List.getD [] (0:Nat) [],eq4 (List.getD [] (0:Nat) []) (List.getD [] (1:
  Nat) []))->(4:Nat)=(4:Nat)/\((!Prod.snd y)=true->(4:Nat)=(4:Nat)/\(4:Nat)=(4:Nat)/\((0:Int)=List.getD (Option.getD o [(0:Int),(0:Int),(0:Int),
  (0:Int)]) (0:Nat) (0:Int)/\(0:Int)=List.getD (Option.getD o [(0:Int),(0:Int),(0:Int),(0:Int)]) (1:Nat) (0:Int)/\(0:Int)=List.getD (Option.getD o [(0
  :Int),(0:Int),(0:Int),(0:Int)]) (2:Nat) (0:Int)/\(0:Int)=List.getD (Option.getD o [(0:Int),(0:Int),(0:Int),(0:Int)]) (3:Nat) (0:Int)/\True)/\
  false=Option.isSome o/\True)/\((!Prod.snd y)=false->(4:Nat)=(4:Nat)/\(4:Nat)=(4:Nat)/\(4:Nat)=(4:Nat)/\(List.getD (Prod.fst y) (0:Nat) (0:Int)=
  List.getD (Option.getD o [(0:Int),(0:Int),(0:Int),(0:Int)]) (0:Nat) (0:Int)/\List.getD (Prod.fst y) (1:Nat) (0:Int)=List.getD (Option.getD o [(0:Int),(0:
  Int),(0:Int),(0:Int)]) (1:Nat) (0:Int)/\List.getD (Prod.fst y) (2:Nat) (0:Int)=List.getD (Option.getD o [(0:Int),(0:Int),(0:Int),(0:Int)]) (2:Nat) (0
  :Int)/\List.getD (Prod.fst y) (3:Nat) (0:Int)=List.getD (Option.getD o [(0:Int),(0:Int),(0:Int),(0:Int)]) (3:Nat) (0:Int)/\True)/\true=Option.isSome o/\
  True))/\((Ex.op x==(3:Int))=false->((Ex.op x==(4:Int))=true->(2:Nat)<=(0:Nat)/\∀(y:List Int×Bool),y=(List.getD [] (0:Nat) [],eq4 (List.getD [] (0:
  Nat) []) (List.getD [] (1:Nat) []))->(4:Nat)=(4:Nat)/\((!Prod.snd y)=true->(4:Nat)=(4:Nat)/\(4:Nat)=(4:Nat)/\((0:Int)=List.getD (Option.getD o [(0:
  Int),(0:Int),(0:Int),(0:Int)]) (0:Nat) (0:Int)/\(0:Int)=List.getD (Option.getD o [(0:Int),(0:Int),(0:Int),(0:Int)]) (1:Nat) (0:Int)/\(0:Int)=
  List.getD (Option.getD o [(0:Int),(0:Int),(0:Int),(0:Int)]) (2:Nat) (0:Int)/\(0:Int)=List.getD (Option.getD o [(0:Int),(0:Int),(0:Int),(0:Int)]) (3:
  Nat) (0:Int)/\True)/\false=Option.isSome o/\True)/\((!Prod.snd y)=false->(4:Nat)=(4:Nat)/\(4:Nat)=(4:Nat)/\(4:Nat)=(4:Nat)/\(List.getD (Prod.fst y)
  (0:Nat) (0:Int)=List.getD (Option.getD o [(0:Int),(0:Int),(0:Int),(0:Int)]) (0:Nat) (0:Int)/\List.getD (Prod.fst y) (1:Nat) (0:Int)=List.getD
  (Option.getD o [(0:Int),(0:Int),(0:Int),(0:Int)]) (1:Nat) (0:Int)/\List.getD (Prod.fst y) (2:Nat) (0:Int)=List.getD (Option.getD o [(0:Int),(0:Int),(0:
  Int),(0:Int)]) (2:Nat) (0:Int)/\List.getD (Prod.fst y) (3:Nat) (0:Int)=List.getD (Option.getD o [(0:Int),(0:Int),(0:Int),(0:Int)]) (3:Nat) (0:Int)/\
  True)/\true=Option.isSome o/\True))/\((Ex.op x==(4:Int))=false->((Ex.op x==(6:Int))=true->(2:Nat)<=(0:Nat)/\∀(y:List Int×Bool),y=(List.getD [] (0:
  Nat) [],eq4 (List.getD [] (0:Nat) []) (List.getD [] (1:Nat) []))->(4:Nat)=(4:Nat)/\((!Prod.snd y)=true->(4:Nat)=(4:Nat)/\(4:Nat)=(4:Nat)/\((0:Int)=
  List.getD (Option.getD o [(0:Int),(0:Int),(0:Int),(0:Int)]) (0:Nat) (0:Int)/\(0:Int)=List.getD (Option.getD o [(0:Int),(0:Int),(0:Int),(0:Int)]) (1:
  Nat) (0:Int)/\(0:Int)=List.getD (Option.getD o [(0:Int),(0:Int),(0:Int),(0:Int)]) (2:Nat) (0:Int)/\(0:Int)=List.getD (Option.getD o [(0:Int),(0:
  Int),(0:Int),(0:Int)]) (3:Nat) (0:Int)/\True)/\false=Option.isSome o/\True)/\((!Prod.snd y)=false->(4:Nat)=(4:Nat)/\(4:Nat)=(4:Nat)/\(4:Nat)=(4
  :Nat)/\(List.getD (Prod.fst y) (0:Nat) (0:Int)=List.getD (Option.getD o [(0:Int),(0:Int),(0:Int),(0:Int)]) (0:Nat) (0:Int)/\List.getD (Prod.fst y) (1:Nat)
  (0:Int)=List.getD (Option.getD o [(0:Int),(0:Int),(0:Int),(0:Int)]) (1:Nat) (0:Int)/\List.getD (Prod.fst y) (2:Nat) (0:Int)=List.getD (Option.getD o [(0:
  Int),(0:Int),(0:Int),(0:Int)]) (2:Nat) (0:Int)/\List.getD (Prod.fst y) (3:Nat) (0:Int)=List.getD (Option.getD o [(0:Int),(0:Int),(0:Int),(0:Int)]) (3
  :Nat) (0:Int)/\True)/\true=Option.isSome o/\True))/\((Ex.op x==(6:Int))=false->((Ex.op x==(7:Int))=true->(2:Nat)<=(0:Nat)/\∀(y:List Int×Bool),y=
  (List.getD [] (0:Nat) [],eq4 (List.getD [] (0:Nat) []) (List.getD [] (1:Nat) []))->(4:Nat)=(4:Nat)/\((!Prod.snd y)=true->(4:Nat)=(4:Nat)/\(4:Nat)=(4:
  Nat)/\((0:Int)=List.getD (Option.getD o [(0:Int),(0:Int),(0:Int),(0:Int)]) (0:Nat) (0:Int)/\(0:Int)=List.getD (Option.getD o [(0:Int),(0:Int),(0:
  Int),(0:Int)]) (1:Nat) (0:Int)/\(0:Int)=List.getD (Option.getD o [(0:Int),(0:Int),(0:Int),(0:Int)]) (2:Nat) (0:Int)/\(0:Int)=List.getD (Option.getD
  o [(0:Int),(0:Int),(0:Int),(0:Int)]) (3:Nat) (0:Int)/\True)/\false=Option.isSome o/\True)/\((!Prod.snd y)=false->(4:Nat)=(4:Nat)/\(4:Nat)=(4:
  Nat)/\(4:Nat)=(4:Nat)/\(List.getD (Prod.fst y) (0:Nat) (0:Int)=List.getD (Option.getD o [(0:Int),(0:Int),(0:Int),(0:Int)]) (0:Nat) (0:Int)/\List.getD
  (Prod.fst y) (1:Nat) (0:Int)=List.getD (Option.getD o [(0:Int),(0:Int),(0:Int),(0:Int)]) (1:Nat) (0:Int)/\List.getD (Prod.fst y) (2:Nat) (0:Int)=
  List.getD (Option.getD o [(0:Int),(0:Int),(0:Int),(0:Int)]) (2:Nat) (0:Int)/\List.getD (Prod.fst y) (3:Nat) (0:Int)=List.getD (Option.getD o [(0:Int),(0:
  Int),(0:Int),(0:Int)]) (3:Nat) (0:Int)/\True)/\true=Option.isSome o/\True))/\((Ex.op x==(7:Int))=false->((Ex.op x==(5:Int))=true->(2:Nat)<=(0:
  Nat)/\∀(y:Option (List Int)),y=cmb (1:Int) (List.getD [] (0:Nat) []) (List.getD [] (1:Nat) [])->(4:Nat)=(4:Nat)/\((!Option.isSome y)=true->(4:Nat)=(4:
  Nat)/\(4:Nat)=(4:Nat)/\((0:Int)=List.getD (Option.getD o [(0:Int),(0:Int),(0:Int),(0:Int)]) (0:Nat) (0:Int)/\(0:Int)=List.getD (Option.getD o [(0:
  Int),(0:Int),(0:Int),(0:Int)]) (1:Nat) (0:Int)/\(0:Int)=List.getD (Option.getD o [(0:Int),(0:Int),(0:Int),(0:Int)]) (2:Nat) (0:Int)/\(0:Int)=
  List.getD (Option.getD o [(0:Int),(0:Int),(0:Int),(0:Int)]) (3:Nat) (0:Int)/\True)/\false=Option.isSome o/\True)/\((!Option.isSome y)=false->(4:Nat)=(4
  :Nat)/\(4:Nat)=(4:Nat)/\(4:Nat)=(4:Nat)/\(List.getD (Option.getD y [(0:Int),(0:Int),(0:Int),(0:Int)]) (0:Nat) (0:Int)=List.getD (Option.getD o [(0
  :Int),(0:Int),(0:Int),(0:Int)]) (0:Nat) (0:Int)/\List.getD (Option.getD y [(0:Int),(0:Int),(0:Int),(0:Int)]) (1:Nat) (0:Int)=List.getD (Option.getD
  o [(0:Int),(0:Int),(0:Int),(0:Int)]) (1:Nat) (0:Int)/\List.getD (Option.getD y [(0:Int),(0:Int),(0:Int),(0:Int)]) (2:Nat) (0:Int)=List.getD
  (Option.getD o [(0:Int),(0:Int),(0:Int),(0:Int)]) (2:Nat) (0:Int)/\List.getD (Option.getD y [(0:Int),(0:Int),(0:Int),(0:Int)]) (3:Nat) (0:Int)=
  List.getD (Option.getD o [(0:Int),(0:Int),(0:Int),(0:Int)]) (3:Nat) (0:Int)/\True)/\true=Option.isSome o/\True))/\((Ex.op x==(5:Int))=false->((Ex.op x
  ==(8:Int))=true->(2:Nat)<=(0:Nat)/\∀(y:Option (List Int)),y=cmb (-1:Int) (List.getD [] (0:Nat) []) (List.getD [] (1:Nat) [])->(4:Nat)=(4:Nat)/\
  ((!Option.isSome y)=true->(4:Nat)=(4:Nat)/\(4:Nat)=(4:Nat)/\((0:Int)=List.getD (Option.getD o [(0:Int),(0:Int),(0:Int),(0:Int)]) (0:Nat) (0:Int)
  /\(0:Int)=List.getD (Option.getD o [(0:Int),(0:Int),(0:Int),(0:Int)]) (1:Nat) (0:Int)/\(0:Int)=List.getD (Option.getD o [(0:Int),(0:Int),(0:Int),(0
  :Int)]) (2:Nat) (0:Int)/\(0:Int)=List.getD (Option.getD o [(0:Int),(0:Int),(0:Int),(0:Int)]) (3:Nat) (0:Int)/\True)/\false=Option.isSome o/\True)/\
  ((!Option.isSome y)=false->(4:Nat)=(4:Nat)/\(4:Nat)=(4:Nat)/\(4:Nat)=(4:Nat)/\(List.getD (Option.getD y [(0:Int),(0:Int),(0:Int),(0:Int)]) (0:
  Nat) (0:Int)=List.getD (Option.getD o [(0:Int),(0:Int),(0:Int),(0:Int)]) (0:Nat) (0:Int)/\List.getD (Option.getD y [(0:Int),(0:Int),(0:Int),(0:Int)])
  (1:Nat) (0:Int)=List.getD (Option.getD o [(0:Int),(0:Int),(0:Int),(0:Int)]) (1:Nat) (0:Int)/\List.getD (Option.getD y [(0:Int),(0:Int),(0:Int),(0:
  Int)]) (2:Nat) (0:Int)=List.getD (Option.getD o [(0:Int),(0:Int),(0:Int),(0:Int)]) (2:Nat) (0:Int)/\List.getD (Option.getD y [(0:Int),(0:Int),(0:Int),
  (0:Int)]) (3:Nat) (0:Int)=List.getD (Option.getD o [(0:Int),(0:Int),(0:Int),(0:Int)]) (3:Nat) (0:Int)/\True)/\true=Option.isSome o/\True))/\((Ex.op x
  ==(8:Int))=false->((Ex.op x==(9:Int))=true->(2:Nat)<=(0:Nat)/\∀(y:Option (List Int)),y=cmb (-1:Int) (List.getD [] (0:Nat) []) (List.getD [] (1:Nat)
  [])->(4:Nat)=(4:Nat)/\((!Option.isSome y)=true->(4:Nat)=(4:Nat)/\(4:Nat)=(4:Nat)/\((0:Int)=List.getD (Option.getD o [(0:Int),(0:Int),(0:Int),
  (0:Int)]) (0:Nat) (0:Int)/\(0:Int)=List.getD (Option.getD o [(0:Int),(0:Int),(0:Int),(0:Int)]) (1:Nat) (0:Int)/\(0:Int)=List.getD (Option.getD o [(0
  :Int),(0:Int),(0:Int),(0:Int)]) (2:Nat) (0:Int)/\(0:Int)=List.getD (Option.getD o [(0:Int),(0:Int),(0:Int),(0:Int)]) (3:Nat) (0:Int)/\True)/\
  false=Option.isSome o/\True)/\((!Option.isSome y)=false->(4:Nat)=(4:Nat)/\(4:Nat)=(4:Nat)/\(4:Nat)=(4:Nat)/\(List.getD (Option.getD y [(0:Int),(0:
  Int),(0:Int),(0:Int)]) (0:Nat) (0:Int)=List.getD (Option.getD o [(0:Int),(0:Int),(0:Int),(0:Int)]) (0:Nat) (0:Int)/\List.getD (Option.getD y [(0:Int),
  (0:Int),(0:Int),(0:Int)]) (1:Nat) (0:Int)=List.getD (Option.getD o [(0:Int),(0:Int),(0:Int),(0:Int)]) (1:Nat) (0:Int)/\List.getD (Option.getD y [(0:
  Int),(0:Int),(0:Int),(0:Int)]) (2:Nat) (0:Int)=List.getD (Option.getD o [(0:Int),(0:Int),(0:Int),(0:Int)]) (2:Nat) (0:Int)/\List.getD (Option.getD y
  [(0:Int),(0:Int),(0:Int),(0:Int)]) (3:Nat) (0:Int)=List.getD (Option.getD o [(0:Int),(0:Int),(0:Int),(0:Int)]) (3:Nat) (0:Int)/\True)/\true=
  Option.isSome o/\True))/\((Ex.op x==(9:Int))=false->((Ex.op x==(10:Int))=true->(2:Nat)<=(0:Nat)/\∀(y:Option (List Int)),y=cmb (-1:Int) (List.getD []
  (0:Nat) []) (List.getD [] (1:Nat) [])->(4:Nat)=(4:Nat)/\((!Option.isSome y)=true->(4:Nat)=(4:Nat)/\(4:Nat)=(4:Nat)/\((0:Int)=List.getD (Option.getD
  o [(0:Int),(0:Int),(0:Int),(0:Int)]) (0:Nat) (0:Int)/\(0:Int)=List.getD (Option.getD o [(0:Int),(0:Int),(0:Int),(0:Int)]) (1:Nat) (0:Int)/\(0:
  Int)=List.getD (Option.getD o [(0:Int),(0:Int),(0:Int),(0:Int)]) (2:Nat) (0:Int)/\(0:Int)=List.getD (Option.getD o [(0:Int),(0:Int),(0:Int),(0:
  Int)]) (3:Nat) (0:Int)/\True)/\false=Option.isSome o/\True)/\((!Option.isSome y)=false->(4:Nat)=(4:Nat)/\(4:Nat)=(4:Nat)/\(4:Nat)=(4:Nat)/\
  (List.getD (Option.getD y [(0:Int),(0:Int),(0:Int),(0:Int)]) (0:Nat) (0:Int)=List.getD (Option.getD o [(0:Int),(0:Int),(0:Int),(0:Int)]) (0:Nat) (0:
  Int)/\List.getD (Option.getD y [(0:Int),(0:Int),(0:Int),(0:Int)]) (1:Nat) (0:Int)=List.getD (Option.getD o [(0:Int),(0:Int),(0:Int),(0:Int)]) (1:Nat)
  (0:Int)/\List.getD (Option.getD y [(0:Int),(0:Int),(0:Int),(0:Int)]) (2:Nat) (0:Int)=List.getD (Option.getD o [(0:Int),(0:Int),(0:Int),(0:Int)]) (2:
  Nat) (0:Int)/\List.getD (Option.getD y [(0:Int),(0:Int),(0:Int),(0:Int)]) (3:Nat) (0:Int)=List.getD (Option.getD o [(0:Int),(0:Int),(0:Int),(0:Int)])
  (3:Nat) (0:Int)/\True)/\true=Option.isSome o/\True))/\((Ex.op x==(10:Int))=false->((Ex.op x==(11:Int))=true->(4:Nat)<=(0:Nat)/\∀(y:List Int×
  Bool),y=(List.getD [] (2:Nat) [],eq4 (List.getD [] (0:Nat) []) (List.getD [] (1:Nat) [])&&eq4 (List.getD [] (2:Nat) []) (List.getD [] (3:Nat) []))->(4:Nat)=(4
  :Nat)/\((!Prod.snd y)=true->(4:Nat)=(4:Nat)/\(4:Nat)=(4:Nat)/\((0:Int)=List.getD (Option.getD o [(0:Int),(0:Int),(0:Int),(0:Int)]) (0:Nat) (0:
  Int)/\(0:Int)=List.getD (Option.getD o [(0:Int),(0:Int),(0:Int),(0:Int)]) (1:Nat) (0:Int)/\(0:Int)=List.getD (Option.getD o [(0:Int),(0:Int),(0:
  Int),(0:Int)]) (2:Nat) (0:Int)/\(0:Int)=List.getD (Option.getD o [(0:Int),(0:Int),(0:Int),(0:Int)]) (3:Nat) (0:Int)/\True)/\false=Option.isSome o/\
  True)/\((!Prod.snd y)=false->(4:Nat)=(4:Nat)/\(4:Nat)=(4:Nat)/\(4:Nat)=(4:Nat)/\(List.getD (Prod.fst y) (0:Nat) (0:Int)=List.getD (Option.getD o [(0
  :Int),(0:Int),(0:Int),(0:Int)]) (0:Nat) (0:Int)/\List.getD (Prod.fst y) (1:Nat) (0:Int)=List.getD (Option.getD o [(0:Int),(0:Int),(0:Int),(0:Int)])
  (1:Nat) (0:Int)/\List.getD (Prod.fst y) (2:Nat) (0:Int)=List.getD (Option.getD o [(0:Int),(0:Int),(0:Int),(0:Int)]) (2:Nat) (0:Int)/\List.getD (Prod.fst
  y) (3:Nat) (0:Int)=List.getD (Option.getD o [(0:Int),(0:Int),(0:Int),(0:Int)]) (3:Nat) (0:Int)/\True)/\true=Option.isSome o/\True))/\((Ex.op x==(11:
  Int))=false->False))))))))))))
  ):=by kernel_rfl
--@end
theorem Zzm:∀k:Nat,k<16-> [[(0:Int),0,0,0],[0,0,0,0],[0,0,0,0],[0,0,0,0],[0,0,0,0],[0,0,0,1],[0,0,1,0],[0,1,0,0],[0,1,0,0],[0,0,0,0],[1,0,0,0],[1,0,0,0],[0,0,0,0],[0,0,0,0],[0,0,0,0],[0,0,0,0]][k]? =some (Zoy (k:Int)):=by decide
theorem Zut {d:List Int} (h:Is4 d): [d.getD 0 0,d.getD 1 0,d.getD 2 0,d.getD 3 0]=d:=by
  obtain ⟨a,b,c,e,rfl⟩:=h
  rfl
theorem Zjz {l:List Ex} {k:Nat} {y:Ex} (h:l[k]? =some y):X1 (l.drop k)=(V6 y).bind fun d=>(X1 (l.drop (k+1))).bind fun ds=>some (d::ds):=by rw [Ws h,X1]
def EqB (o:Option (List Int)) (b:Bool) (d:List Int):Prop:=(b=false->(0=(o.getD [0,0,0,0]).getD 0 0/\0=(o.getD [0,0,0,0]).getD 1 0/\0=(o.getD [0,0,0,0]).getD 2 0/\0=(o.getD [0,0,0,0]).getD 3 0)/\false=o.isSome)/\
  (b=true->(d.getD 0 0=(o.getD [0,0,0,0]).getD 0 0/\d.getD 1 0=(o.getD [0,0,0,0]).getD 1 0/\d.getD 2 0=(o.getD [0,0,0,0]).getD 2 0/\d.getD 3 0=(o.getD [0,0,0,0]).getD 3 0)/\true=o.isSome)
theorem Zzn {o:Option (List Int)} (h:o=none):(0=(o.getD [0,0,0,0]).getD 0 0/\0=(o.getD [0,0,0,0]).getD 1 0/\0=(o.getD [0,0,0,0]).getD 2 0/\0=(o.getD [0,0,0,0]).getD 3 0)/\false=o.isSome:=by subst h;exact ⟨⟨rfl,rfl,rfl,rfl⟩,rfl⟩
theorem Zuu {o:Option (List Int)} {b:Bool} {d:List Int} (h1:b=false->o=none) (h2:b=true->o=some d):EqB o b d:=by
  refine ⟨fun h=>Zzn (h1 h),fun h=> ?_⟩
  rw [h2 h];exact ⟨⟨rfl,rfl,rfl,rfl⟩,rfl⟩
theorem Z77 {P:Prop} [Decidable P] {d:List Int}:EqB (if P then some d else none) (decide P) d:=
  Zuu (fun h=>by rw [if_neg (by simpa using h)]) (fun h=>by rw [if_pos (by simpa using h)])
theorem powB (o:Option (List Int)):EqB o o.isSome (o.getD [0,0,0,0]):=by
  cases o with
  |none=>exact Zuu (fun _=>rfl) (fun h=>by simp at h)
  |some d=>exact Zuu (fun h=>by simp at h) (fun _=>rfl)
theorem Zzo:∀(m:Nat),m<=1000000000->∀(x:Ex),x.sz<m->Yh x=true->PureC E 22 [Xb,exA x] (optV (V6 x)):=by
  intro m
  induction m with
  |zero=>intro _ x h;omega
  |succ m ih=>
    intro hb x hm hf
    have hF:FnsOk E (Z4j m):=Zz3 E_ok (Zd Zjy (Zjx fun x h=>ih (by omega) x h)) _ _ _
    refine Zb E_ok (X4 E_ok Zjy fun f N c=>(Zjt E_ok hF 800 f N c).1) ?_
    rw [Zrl]
    have hsz:=x.sz_eq
    have hlen:=Ex.szL_len x.l
    obtain ⟨⟨f1,f2,f3,f4,f5,f6,f7,f8,f9,f10⟩,f11,f12⟩:=(Zbt x).1 hf
    simp only [Yk,Z0,Wu,Wv,Ww,beq_iff_eq,bne_iff_ne,beq_eq_false_iff_ne,bne_eq_false_iff_eq,decide_eq_true_eq,decide_eq_false_iff_not,Bool.or_eq_true,Bool.or_eq_false_iff,Bool.not_eq_true',Bool.not_eq_false',Bool.and_eq_true,Bool.and_true,Bool.true_and,Bool.and_eq_false_iff,beq_self_eq_true,Xc,Y4,ne_eq,and_true,true_and,Bool.true_eq_false,Bool.false_eq_true,false_or,or_false,true_implies,imp_self,Int.ofNat_eq_natCast,not_true_eq_false,not_false_eq_true,Decidable.not_not,List.getElem?_cons_zero,List.getElem?_cons_succ,Option.some.injEq,forall_eq',forall_eq,List.set_cons_zero,List.set_cons_succ,List.length_cons,List.length_nil,List.getD_cons_zero,List.getD_cons_succ,tn0,tn1,tn2,tn3,Int.le_refl,Nat.le_refl,Nat.reduceAdd,Int.reduceAdd,Int.reduceLE,Nat.reduceLeDiff,cn4,cn16,Ex.eta,List.drop_zero,List.take_length]
    rw [Z2h]
    refine And.intro (fun h1=> ?_) (fun h1=>And.intro (fun h2=>⟨by omega,by omega,fun y hy=> ?_⟩) (fun h2=> ?_))
    · rw [if_pos h1]
      simp only [Option.getD_some,Option.isSome_some,Ex.u,List.getD_cons_zero,List.getD_cons_succ,and_self]
    · rw [if_neg h1,if_pos h2]
      obtain ⟨k,hk⟩:∃k:Nat,x.n=k:=⟨x.n.toNat,by omega⟩
      rw [hk] at hy⊢
      rw [Int.toNat_natCast,Zzm k (by omega)] at hy
      cases hy
      simp only [Option.getD_some,Option.isSome_some,and_self]
    · rw [if_neg h1,if_neg h2]
      refine ⟨fun s y=>(s=true↔0<y.k)/\y.k<=x.l.length/\y.D.length=y.k/\X1 x.l=(X1 (x.l.drop y.k)).bind (fun ds=>some (y.D++ds))/\(∀d∈y.D,Is4 d)/\y.r=x.l.length-y.k,.inr ⟨⟨0,x.l.length,[]⟩,⟨by simp,(by dsimp only;omega),rfl,by simp,by simp,rfl⟩,rfl⟩,?_,?_⟩
      · rintro y ⟨hs,hk,hD,hv,h4,hr⟩
        have hk0:=hs.1 rfl
        refine And.intro (fun hq=>⟨by omega,by omega,fun z hz=> ?_⟩) (fun hq=> ?_)
        · have hz:x.l[y.k]? =some z:=hz
          rw [Zjz hz] at hv
          have hzs:=Ex.sz_mem (List.mem_of_getElem? hz)
          have hzf:=formL_iff.1 f12 z (List.mem_of_getElem? hz)
          refine ⟨rfl,⟨by omega,hzf⟩,fun ho=> ?_,fun ho=> ?_⟩
          · have:X1 x.l=none:=by rw [hv,Option.isSome_eq_false_iff.1 ho|>Option.isNone_iff_eq_none.1];rfl
            rw [this]
            exact Zzn rfl
          · obtain ⟨d,hd⟩:=Option.isSome_iff_exists.1 ho
            have hd4:=Zoz z hzf hd
            rw [hd] at hv⊢
            simp only [Option.getD_some,Zut hd4]
            refine ⟨⟨by omega,by omega⟩,.inl ⟨⟨y.k+1,x.l.length-(y.k+1),y.D++ [d]⟩,⟨by simp,(by dsimp only;omega),by simp [hD],?_,?_,rfl⟩,(by dsimp only;omega),⟨by simp,wr64 (by omega) (by omega)⟩,rfl⟩⟩
            · rw [hv]
              simp only [Option.bind_some]
              cases X1 (x.l.drop (y.k+1)) with
              |none=>rfl
              |some ds=>simp
            · intro e he
              rcases List.mem_append.1 he with he|he
              · exact h4 e he
              · rw [List.mem_singleton.1 he];exact hd4
        · rw [Wt (by omega)] at hv
          have hv:X1 x.l=some y.D:=by rw [hv,X1];simp
          rw [hv,Option.bind_some]
          have hg:∀i,i<y.D.length->Is4 (y.D.getD i []):=fun i hi=>by
            rw [List.getD_eq_getElem?_getD,List.getElem?_eq_getElem hi]
            exact h4 _ (List.getElem_mem hi)
          have hDl:y.D.length=x.l.length:=by omega
          have eqB:Wl x.op y.D=(if y.D.getD 0 []=y.D.getD 1 [] then some (y.D.getD 0 []) else none)->2<=y.D.length->EqB (Wl x.op y.D) (eq4 (y.D.getD 0 []) (y.D.getD 1 [])) (y.D.getD 0 []):=by
            intro h1 h2
            rw [h1,Zm8 (hg 0 (by omega)) (hg 1 (by omega))]
            exact Z77
          refine And.intro (fun a=>⟨by omega,by omega,eqB ?_ (by omega)⟩) (fun a3=>And.intro (fun a=>⟨by omega,by omega,eqB ?_ (by omega)⟩) (fun a4=>And.intro (fun a=>⟨by omega,by omega,eqB ?_ (by omega)⟩) (fun a6=>And.intro (fun a=>⟨by omega,by omega,eqB ?_ (by omega)⟩) (fun a7=>And.intro (fun a=>⟨by omega,by omega,?_⟩) (fun a5=>And.intro (fun a=>⟨by omega,by omega,?_⟩) (fun a8=>And.intro (fun a=>⟨by omega,by omega,?_⟩) (fun a9=>And.intro (fun a=>⟨by omega,by omega,?_⟩) (fun a10=>And.intro (fun a=>⟨by omega,by omega,?_⟩) (fun a11=> ?_)))))))))
          · unfold Wl;rw [if_neg (by omega),if_neg (by omega),if_neg (by omega)]
          · unfold Wl;rw [if_neg (by omega),if_neg (by omega),if_neg (by omega)]
          · unfold Wl;rw [if_neg (by omega),if_neg (by omega),if_neg (by omega)]
          · unfold Wl;rw [if_neg (by omega),if_neg (by omega),if_neg (by omega)]
          · have:Wl x.op y.D=cmb 1 (y.D.getD 0 []) (y.D.getD 1 []):=by unfold Wl;rw [if_pos a]
            rw [this];exact powB _
          · have:Wl x.op y.D=cmb (-1) (y.D.getD 0 []) (y.D.getD 1 []):=by unfold Wl;rw [if_neg (by omega),if_pos (by omega)]
            rw [this];exact powB _
          · have:Wl x.op y.D=cmb (-1) (y.D.getD 0 []) (y.D.getD 1 []):=by unfold Wl;rw [if_neg (by omega),if_pos (by omega)]
            rw [this];exact powB _
          · have:Wl x.op y.D=cmb (-1) (y.D.getD 0 []) (y.D.getD 1 []):=by unfold Wl;rw [if_neg (by omega),if_pos (by omega)]
            rw [this];exact powB _
          · have:Wl x.op y.D=(if y.D.getD 0 []=y.D.getD 1 []/\y.D.getD 2 []=y.D.getD 3 [] then some (y.D.getD 2 []) else none):=by unfold Wl;rw [if_neg (by omega),if_neg (by omega),if_pos a]
            rw [this]
            rw [Zm8 (hg 0 (by omega)) (hg 1 (by omega)),Zm8 (hg 2 (by omega)) (hg 3 (by omega))]
            refine And.intro (fun h=> ?_) (fun h=> ?_)
            · rw [if_neg (by
                rintro ⟨p,q⟩
                rcases h with h|h
                · exact of_decide_eq_false h p
                · exact of_decide_eq_false h q)]
              exact Zzn rfl
            · rw [if_pos ⟨of_decide_eq_true h.1,of_decide_eq_true h.2⟩]
              exact ⟨⟨rfl,rfl,rfl,rfl⟩,rfl⟩
          · omega
      · rintro y ⟨hs,hk,hD,hv,h4,hr⟩
        have hk0:y.k=0:=by
          rcases Nat.eq_zero_or_pos y.k with h|h
          · exact h
          · have:=hs.2 h;simp at this
        have hD0:y.D= []:=List.eq_nil_of_length_eq_zero (by omega)
        refine And.intro (fun hq=>⟨by omega,by omega,fun z hz=> ?_⟩) (fun hq=> ?_)
        · have hz:x.l[y.k]? =some z:=hz
          rw [Zjz hz] at hv
          have hzs:=Ex.sz_mem (List.mem_of_getElem? hz)
          have hzf:=formL_iff.1 f12 z (List.mem_of_getElem? hz)
          refine ⟨rfl,⟨by omega,hzf⟩,fun ho=> ?_,fun ho=> ?_⟩
          · have:X1 x.l=none:=by rw [hv,Option.isSome_eq_false_iff.1 ho|>Option.isNone_iff_eq_none.1];rfl
            rw [this]
            exact Zzn rfl
          · obtain ⟨d,hd⟩:=Option.isSome_iff_exists.1 ho
            have hd4:=Zoz z hzf hd
            rw [hd] at hv⊢
            simp only [Option.getD_some,Zut hd4]
            rw [hk0,hD0] at hv
            refine .inl ⟨⟨1,x.l.length-1,[d]⟩,⟨by simp,(by dsimp only;omega),rfl,?_,?_,rfl⟩,(by dsimp only;omega),⟨rfl,by rw [hk0];rfl⟩,rfl⟩
            · rw [hv]
              simp only [Option.bind_some]
              show ((X1 (x.l.drop (0+1))).bind fun ds=>some (d::ds)).bind (fun ds=>some ([]++ds))=(X1 (x.l.drop 1)).bind fun ds=>some ([d]++ds)
              cases X1 (x.l.drop (0+1)) with
              |none=>rfl
              |some ds=>rfl
            · intro e he
              rw [List.mem_singleton.1 he];exact hd4
        · omega
end
section
open Go
theorem Zyd:SumOk E 21 (sumO Zih):=Zda E_ok (Zc (f:=21) rfl) fun args v h=>by
 unfold Zih at h
 split at h
 · cases h;exact Zr5
 · cases h
theorem Zye:SumOk E 22 (Zjw 1000000000):=Zjx fun x h=>Zzo _ (Nat.le_refl _) x h
end
section
open Go
theorem q2 {a b:Option (List Int)} {Kt Kf:Prop} (h1:(a=none\/b=none)->Kt) (h2:∀c d,a=some c->b=some d->Kf):∃Q:Bool->Prop,((a.isSome=false->Q true)/\(a.isSome=true->Q (!b.isSome)))/\(Q true->Kt)/\(Q false->Kf):=by
 cases a with
 |none=>exact ⟨fun q=>q=true,⟨fun _=>rfl,fun h=>by simp at h⟩,fun _=>h1 (.inl rfl),fun h=>(by cases h)⟩
 |some c=>
  cases b with
  |none=>exact ⟨fun q=>q=true,⟨fun h=>by simp at h,fun _=>rfl⟩,fun _=>h1 (.inr rfl),fun h=>(by cases h)⟩
  |some d=>exact ⟨fun q=>q=false,⟨fun h=>by simp at h,fun _=>rfl⟩,fun h=>(by cases h),fun _=>h2 c d rfl rfl⟩
end
section
open Go
def R3 (d:List Int):Prop:=∃a b c e:Int,d= [a,b,c,e]/\(-3<=a/\a<=3)/\(-3<=b/\b<=3)/\(-3<=c/\c<=3)/\(-3<=e/\e<=3)
theorem Z83 {s:Int} {a b d:List Int} (h:cmb s a b=some d):R3 d:=by
 unfold cmb at h
 split at h
 · rename_i hc
   cases h
   simp only [Bool.and_eq_true] at hc
   exact ⟨_,_,_,_,rfl,(Zfb _).1 hc.1.1.1,(Zfb _).1 hc.1.1.2,(Zfb _).1 hc.1.2,(Zfb _).1 hc.2⟩
 · cases h
theorem Z5l (n:Int):R3 (Zoy n):=by
 unfold Zoy
 split
 · exact ⟨_,_,_,_,rfl,by decide,by decide,by decide,by decide⟩
 split
 · exact ⟨_,_,_,_,rfl,by decide,by decide,by decide,by decide⟩
 split
 · exact ⟨_,_,_,_,rfl,by decide,by decide,by decide,by decide⟩
 split<;>exact ⟨_,_,_,_,rfl,by decide,by decide,by decide,by decide⟩
theorem Z84 {a b c d:Int} (h:Zc9 [a,b,c,d]=true):R3 [a,b,c,d]:=by
 rw [Zvt] at h
 simp only [Bool.and_eq_true,List.all_cons,in1,decide_eq_true_eq] at h
 exact ⟨a,b,c,d,rfl,by omega,by omega,by omega,by omega⟩
theorem Z5m {op:Int} {ds:List (List Int)} {d:List Int} (h:Wl op ds=some d) (h4:∀i,i<(if op=11 then 4 else 2)->R3 (ds.getD i [])):R3 d:=by
 unfold Wl at h
 split at h
 · exact Z83 h
 · split at h
   · exact Z83 h
   · split at h
     · rename_i h11
       split at h
       · cases h
         exact h4 2 (by rw [if_pos h11];omega)
       · cases h
     · rename_i h11
       split at h
       · cases h
         exact h4 0 (by rw [if_neg h11];omega)
       · cases h
mutual
theorem Zv1:∀(x:Ex) {d:List Int},Yh x=true->V6 x=some d->R3 d
 | .mk op n d0 d1 d2 d3 l,d,hf,h=>by
  have hff:=(Zbt _).1 hf
  rw [V6] at h
  split at h
  · cases h;exact Z84 hff.2.1
  · split at h
    · cases h;exact Z5l n
    · rename_i h1 h2
      obtain ⟨ds,hds,h⟩:=Option.bind_eq_some_iff.1 h
      refine Z5m h fun i hi=> ?_
      simp only [Yh,Bool.and_eq_true] at hf
      have hl:=Zv2 l hf.2 hds
      have hlen:=Zfy hds
      have ha:l.length=Zlm op:=by
       have:=hf.1
       simp only [Zcm,Bool.and_eq_true,decide_eq_true_eq] at this
       exact this.1.1.2
      unfold Zlm at ha
      rw [if_neg (by omega)] at ha
      have:i<ds.length:=by rw [hlen,ha];exact hi
      rw [List.getD_eq_getElem?_getD,List.getElem?_eq_getElem this]
      exact hl _ (List.getElem_mem this)
theorem Zv2:∀(l:List Ex) {ds:List (List Int)},W3 l=true->X1 l=some ds->∀d∈ds,R3 d
 | [],ds,_,h=>by simp only [X1] at h;cases h;simp
 |x::r,ds,hf,h=>by
  simp only [W3,Bool.and_eq_true] at hf
  obtain ⟨d,ds',h1,h2,rfl⟩:=unitL_cons.1 h
  intro e he
  rcases List.mem_cons.1 he with rfl|he
  · exact Zv1 x hf.1 h1
  · exact Zv2 r hf.2 h2 e he
end
end
section
open Go
end
section
open Go
end
section
open Go
end
section
open Go
noncomputable def Z3f:Sum thy:=sumP Z85 (fun x=>1<=x.2.1/\x.2.1<=1000) fun x=> .int false .i64 (min (x.1.sz:Int) x.2.1)
theorem Zwe:SumOk E 47 Z3f:=Yg E_ok (Zc (f:=47) rfl) fun x h=>Z0i _ _ _ (Nat.le_refl _) h.1 h.2
noncomputable def Zwf:Fns thy:=addS F0 47 Z3f
theorem Zwg:FnsOk E Zwf:=Zd F0_ok Zwe
theorem Zrz (x:Ex) (b:Bool):Zj E Zwf (vc E Zwf 400) 19 [exA x] hp0 0 (fun r=>ret E (patch hp0 0 r) r.v (.bool false b))=(
((1:Int)<=(61:Int)/\(61:Int)<=(1000:Int))/\(decide (min (↑(Ex.sz (Ex.mk (Ex.op x) (Ex.n x) (Ex.d0 x) (Ex.d1 x) (Ex.d2 x) (Ex.d3 x) (Ex.l x))):Int) (61:Int)<=(60:Int))=true->true=b)/\(decide (min (↑(Ex.sz (Ex.mk (Ex.op x) (Ex.n x) (Ex.d0 x) (Ex.d1 x) (Ex.d2 x) (Ex.d3 x) (Ex.l x))):Int) (61:Int)<=(60:Int))=false->false=b)):=by kernel_rfl
theorem Zkn (x:Ex):PureC E 19 [exA x] (.bool false (decide (x.sz<=60))):=by
 refine Zb E_ok (Zh E_ok Zwg 400) ?_
 rw [Zrz]
 simp only [Yk,Z0,Wu,Wv,Ww,beq_iff_eq,bne_iff_ne,beq_eq_false_iff_ne,bne_eq_false_iff_eq,decide_eq_true_eq,decide_eq_false_iff_not,Bool.or_eq_true,Bool.or_eq_false_iff,Bool.not_eq_true',Bool.not_eq_false',Bool.and_eq_true,Bool.and_true,Bool.true_and,Bool.and_eq_false_iff,beq_self_eq_true,Xc,Y4,ne_eq,and_true,true_and,Bool.true_eq_false,Bool.false_eq_true,false_or,or_false,true_implies,imp_self,Int.ofNat_eq_natCast,not_true_eq_false,not_false_eq_true,Decidable.not_not,List.getElem?_cons_zero,List.getElem?_cons_succ,Option.some.injEq,forall_eq',forall_eq,List.set_cons_zero,List.set_cons_succ,List.length_cons,List.length_nil,List.getD_cons_zero,List.getD_cons_succ,tn0,tn1,tn2,tn3,Int.le_refl,Nat.le_refl,Nat.reduceAdd,Int.reduceAdd,Int.reduceLE,Nat.reduceLeDiff,cn4,cn16,Ex.eta]
 refine ⟨fun h=> ?_,fun h=> ?_⟩
 · rw [decide_eq_true (by omega)]
 · rw [decide_eq_false (by omega)]
noncomputable def Zp5:Sum thy:=sumP dExp (fun _=>True) fun x=> .bool false (decide (x.1.sz<=60))
theorem Zmy:SumOk E 19 Zp5:=Yg E_ok (Zc (f:=19) rfl) fun x _=>Zkn _
end
section
open Go
noncomputable def dTar:DcL E (Tar×Unit):= .cons (dR .tariffs) .nil
def cOk (c:Cls):Bool:=decide (c.name.length<=100)&&decide (c.when_.length<=12)&&decide (c.pay.sz<=60)
def fewF (t:Tar):Bool:=decide (t.clauses.length<=66)&&decide (t.name.length<=100)&&t.clauses.all cOk
structure KX where
 k:Nat
 r:Nat
noncomputable def Afew:Fr thy->Hp thy->Nat->Ann thy:=fun T h i=>{X:=KX,fr:=fun x=> [(1,T 1),(3,.int false .i64 x.k)],bl:=fun x=>blkP h (T 1),src:=fun _=> [],md:= [],ih:=i,M:=i+40,meas:=fun x=>x.r}
noncomputable def Ffew:Fns thy:=addL (addS F0 19 Zp5) 7 4 Afew E
theorem Z4e:FnsOk E Ffew:=Ym E_ok (Zd F0_ok Zmy) _ _ _
abbrev qBS1 (a0:Cls):=(!decide (Ex.sz (Ex.mk (Ex.op (Cls.pay a0)) (Ex.n (Cls.pay a0)) (Ex.d0 (Cls.pay a0)) (Ex.d1 (Cls.pay a0)) (Ex.d2 (Cls.pay a0)) (Ex.d3 (Cls.pay a0)) (Ex.l (Cls.pay a0)))<=(60:Nat)))
abbrev qBS2 (a0:Tar):=(↑(List.length (Tar.clauses a0)):Int)
abbrev qBS3 (a0:Tar):=(Tar.name a0=Tar.name a0/\Tar.for_ a0=Tar.for_ a0/\(Tar.clauses a0=Tar.clauses a0/\(false=true->false=true))/\True)
abbrev qBS4 (a0:KX):=(↑(KX.k a0):Int)
theorem Zzg (t:Tar) (b:Bool):Zj E Ffew (vc E Ffew 400) 7 [tarA t] hp0 0 (fun r=>ret E (patch hp0 0 r) r.v (.bool false b))=(
 ∃(Q:Bool->Prop),((decide ((qBS2 t)>(66:Int))=true->Q true)/\(decide ((qBS2 t)>(66:Int))=false->(decide ((↑(List.length (Tar.name t)):Int)>(100:Int))=true->Q true)/\(decide ((↑(List.length (Tar.name t)):Int)>(100:Int))=false->Q false)))/\(Q true->false=b)/\(Q false->∃(R:KX->Prop),(∃(x:KX),R x/\true=true/\((0:Nat)=(0:Nat)/\(0:Int)=(qBS4 x)/\True)/\(qBS3 t)/\True)/\∀(x:KX),R x->(decide ((qBS4 x)<(qBS2 t))=true->(0:Int)<=(qBS4 x)/\(qBS4 x)+(1:Int)<=(qBS2 t)/\∀(x_1:Cls),(Tar.clauses t)[Int.toNat (qBS4 x)]? =some x_1->(decide ((↑(List.length (Cls.name x_1)):Int)>(100:Int))=true->false=b)/\(decide ((↑(List.length (Cls.name x_1)):Int)>(100:Int))=false->(decide ((↑(List.length (Cls.when_ x_1)):Int)>(12:Int))=true->false=b)/\(decide ((↑(List.length (Cls.when_ x_1)):Int)>(12:Int))=false->True/\((qBS1 x_1)=true->false=b)/\((qBS1 x_1)=false->∃(x_2:KX),R x_2/\x_2.2+(1:Nat)<=x.2/\true=true/\((0:Nat)=(0:Nat)/\wr IntKind.i64 ((qBS4 x)+(1:Int))=(qBS4 x_2)/\True)/\(qBS3 t)/\True))))/\(decide ((qBS4 x)<(qBS2 t))=false->true=b))):=by kernel_rfl
theorem Zuq {l:List Cls} {k:Nat} {w:Cls} (h:l[k]? =some w):(l.drop k).all cOk=(cOk w&&(l.drop (k+1)).all cOk):=by rw [Ws h,List.all_cons]
theorem Yal (t:Tar):PureC E 7 [tarA t] (.bool false (fewF t)):=by
 refine Zb E_ok (Zh E_ok Z4e 400) ?_
 rw [Zzg];delta qBS1 qBS2 qBS3 qBS4
 simp only [Yk,Z0,Wu,Wv,Ww,beq_iff_eq,bne_iff_ne,beq_eq_false_iff_ne,bne_eq_false_iff_eq,decide_eq_true_eq,decide_eq_false_iff_not,Bool.or_eq_true,Bool.or_eq_false_iff,Bool.not_eq_true',Bool.not_eq_false',Bool.and_eq_true,Bool.and_true,Bool.true_and,Bool.and_eq_false_iff,beq_self_eq_true,Xc,Y4,ne_eq,and_true,true_and,Bool.true_eq_false,Bool.false_eq_true,false_or,or_false,true_implies,imp_self,Int.ofNat_eq_natCast,not_true_eq_false,not_false_eq_true,Decidable.not_not,List.getElem?_cons_zero,List.getElem?_cons_succ,Option.some.injEq,forall_eq',forall_eq,List.set_cons_zero,List.set_cons_succ,List.length_cons,List.length_nil,List.getD_cons_zero,List.getD_cons_succ,tn0,tn1,tn2,tn3,Int.le_refl,Nat.le_refl,Nat.reduceAdd,Int.reduceAdd,Int.reduceLE,Nat.reduceLeDiff,cn4,cn16,Ex.eta]
 refine ⟨fun b=>b=true↔¬(t.clauses.length<=66/\t.name.length<=100),And.intro (fun h=>⟨fun _=>by omega,fun _=>rfl⟩) (fun h=>And.intro (fun h'=>⟨fun _=>by omega,fun _=>rfl⟩) (fun h'=>⟨fun h=>(by cases h),fun h=>by omega⟩)),fun h=> ?_,fun h=> ?_⟩
 · have:=h.1 rfl
   cases hb:fewF t with
   |false=>rfl
   |true=>exfalso;simp only [fewF,Bool.and_eq_true,decide_eq_true_eq] at hb;exact this hb.1
 · have hh:t.clauses.length<=66/\t.name.length<=100:=Decidable.byContradiction fun hn=>by have:=h.2 hn;cases this
   have hf:fewF t=(t.clauses.drop 0).all cOk:=by simp [fewF,hh.1,hh.2]
   refine ⟨fun x=>x.k+x.r=t.clauses.length/\fewF t=(t.clauses.drop x.k).all cOk,⟨⟨0,t.clauses.length⟩,⟨Nat.zero_add _,hf⟩,rfl⟩,fun x hx=>⟨fun hk=>⟨by omega,by omega,fun c hc=> ?_⟩,fun hk=> ?_⟩⟩
   · rw [Int.toNat_natCast] at hc
     have hd:=Zuq hc
     have bad:¬(c.name.length<=100/\c.when_.length<=12/\c.pay.sz<=60)->false=fewF t:=fun h=>by
      have:cOk c=false:=by
       cases hb:cOk c with
       |false=>rfl
       |true=>exfalso;simp only [cOk,Bool.and_eq_true,decide_eq_true_eq] at hb;exact h ⟨hb.1.1,hb.1.2,hb.2⟩
      rw [hx.2,hd,this];rfl
     refine And.intro (fun h=>bad (by omega)) (fun h1=>And.intro (fun h=>bad (by omega)) (fun h2=>And.intro (fun h=>bad (by omega)) (fun h3=>⟨⟨x.k+1,x.r-1⟩,⟨by dsimp only;omega,?_⟩,by dsimp only;omega,?_⟩)))
     · have:cOk c=true:=by simp only [cOk,Bool.and_eq_true,decide_eq_true_eq];omega
       rw [hx.2,hd,this];rfl
     · dsimp only
       exact (wr64 (by omega) (by omega)).trans (by omega)
   · rw [hx.2,List.drop_of_length_le (by omega)];rfl
def Zur (t:Tar):Prop:=(∀c∈t.clauses,c.pay.sz<1000000000/\c.when_.length<1000000000000)/\t.clauses.length<1000000000000
noncomputable def Schk:Sum thy:=sumP dTar (fun x=>Zur x.1) fun x=> .int false .i64 (W8 x.1)
theorem Z4f:SumOk E 20 Schk:=Yg E_ok (Zc (f:=20) rfl) fun x h=>Zrn _ (fun c hc=>⟨by have:=(h.1 c hc).1;omega,(h.1 c hc).2⟩) h.2
def intV (p:Int×Int):SV thy:= .tup [.int false .i64 p.1,.int false .i64 p.2]
noncomputable def Atck:Fr thy->Hp thy->Nat->Ann thy:=fun T h i=>{X:=KX,fr:=fun x=> [(4,T 4),(16,T 16),(17,T 17),(18,.int false .i64 x.k)],bl:=fun x=> [],src:=fun _=> [],md:= [],ih:=i,M:=i+40,meas:=fun x=>x.r}
noncomputable def Ftck:Fns thy:=addL (addS (addS (addS F0 20 Schk) 21 (sumO Zih)) 22 (Zjw 1000000000)) 8 6 Atck E
theorem Z4g:FnsOk E Ftck:=Ym E_ok (Zd (Zd (Zd F0_ok Z4f) Zyd) Zye) _ _ _
abbrev qBS8:=(0:Int)
abbrev qBSa (a0:Option (List Int)):=(Option.getD a0 [qBS8,qBS8,qBS8,qBS8])
abbrev qBS5 (a0:Option (List Int)):=(!(List.getD (qBSa a0) (0:Nat) qBS8==(1:Int)&&(List.getD (qBSa a0) (1:Nat) qBS8==qBS8&&(List.getD (qBSa a0) (2:Nat) qBS8==qBS8&&(List.getD (qBSa a0) (3:Nat) qBS8==qBS8&&true)))))
abbrev qBS6 (a0:Cls):=(Ex.mk (Ex.op (Cls.pay a0)) (Ex.n (Cls.pay a0)) (Ex.d0 (Cls.pay a0)) (Ex.d1 (Cls.pay a0)) (Ex.d2 (Cls.pay a0)) (Ex.d3 (Cls.pay a0)) (Ex.l (Cls.pay a0)))
abbrev qBS7 (a0:Tar):=(↑(List.length (Tar.clauses a0)):Int)
abbrev qBS9 (a0:KX):=(↑(KX.k a0):Int)
theorem Zzh (t:Tar) (p:Int×Int):Zj E Ftck (vc E Ftck 400) 8 [tarA t] hp0 0 (fun r=>ret E (patch hp0 0 r) r.v (intV p))=(
 ((∀(c:Cls),c∈Tar.clauses t->Ex.sz (Cls.pay c)+(1:Nat)<=(1000000000:Nat)/\List.length (Cls.when_ c)+(1:Nat)<=(1000000000000:Nat))/\List.length (Tar.clauses t)+(1:Nat)<=(1000000000000:Nat))/\((W8 t !=qBS8)=true->qBS8=Prod.fst p/\W8 t=Prod.snd p/\True)/\((W8 t !=qBS8)=false->∃(R:KX->Prop),(∃(x:KX),R x/\true=true/\((Yf=Yf/\true=true)/\(Tar.clauses t=Tar.clauses t/\(false=true->false=true))/\(qBS7 t)=(qBS7 t)/\qBS8=(qBS9 x)/\True)/\True)/\∀(x:KX),R x->(decide ((qBS9 x)<(qBS7 t))=true->qBS8<=(qBS9 x)/\(qBS9 x)+(1:Int)<=(qBS7 t)/\∀(x_1:Cls),(Tar.clauses t)[Int.toNat (qBS9 x)]? =some x_1->SV.pmap Yf=Xb/\(Ex.sz (qBS6 x_1)+(1:Nat)<=(1000000000:Nat)/\Yh (qBS6 x_1)=true)/\∀(o:Option (List Int)),o=V6 (qBS6 x_1)->(4:Nat)=(4:Nat)/\((!Option.isSome o)=true->(qBS9 x)=Prod.fst p/\(170:Int)=Prod.snd p/\True)/\((!Option.isSome o)=false->(4:Nat)=(4:Nat)/\((qBS5 o)=true->(qBS9 x)=Prod.fst p/\(170:Int)=Prod.snd p/\True)/\((qBS5 o)=false->∃(x_2:KX),R x_2/\x_2.2+(1:Nat)<=x.2/\true=true/\((Yf=Yf/\true=true)/\(Tar.clauses t=Tar.clauses t/\(false=true->false=true))/\(qBS7 t)=(qBS7 t)/\wr IntKind.i64 ((qBS9 x)+(1:Int))=(qBS9 x_2)/\True)/\True)))/\(decide ((qBS9 x)<(qBS7 t))=false->qBS8=Prod.fst p/\qBS8=Prod.snd p/\True))):=by kernel_rfl
def goU:Nat->List Cls->Int×Int
 |_,[]=>(0,0)
 |k,c::r=>if V6 c.pay=some [1,0,0,0] then goU (k+1) r else (k,170)
noncomputable def chkP (t:Tar):Int×Int:=if W8 t=0 then goU 0 t.clauses else (0,W8 t)
theorem Z23:∀(l:List Cls) (a b:Bool) (m:List (List Nat×Bool)),goC a b m l=0->∀c∈l,V1 c=true
 | [],_,_,_,_,c,hc=>by cases hc
 |d::r,a,b,m,h,c,hc=>by
  rw [Zdy] at h
  split at h
  · rename_i hd
    rcases List.mem_cons.1 hc with rfl|hc
    · exact hd
    · exact Z23 r _ _ _ h c hc
  · cases h
theorem Zus {t:Tar} (h:W8 t=0):∀c∈t.clauses,Yh c.pay=true:=fun c hc=>by
 unfold W8 at h
 split at h
 · have:=Z23 _ _ _ _ h c hc
   simp only [V1,Bool.and_eq_true] at this
   exact this.1.2
 · cases h
theorem Zzi {l:List Cls} {k:Nat} {c:Cls} (h:l[k]? =some c):goU k (l.drop k)=if V6 c.pay=some [1,0,0,0] then goU (k+1) (l.drop (k+1)) else ((k:Int),170):=by rw [Ws h,goU]
theorem Zhx {p:Int×Int} {a b:Int} (h:p=(a,b)):a=p.1/\b=p.2:=by rw [h];exact ⟨rfl,rfl⟩
theorem Zzj (t:Tar) (hs:Zur t):PureC E 8 [tarA t] (intV (chkP t)):=by
 refine Zb E_ok (Zh E_ok Z4g 400) ?_
 rw [Zzh];delta qBS8 qBSa qBS5 qBS6 qBS7 qBS9
 simp only [Yk,Z0,Wu,Wv,Ww,beq_iff_eq,bne_iff_ne,beq_eq_false_iff_ne,bne_eq_false_iff_eq,decide_eq_true_eq,decide_eq_false_iff_not,Bool.or_eq_true,Bool.or_eq_false_iff,Bool.not_eq_true',Bool.not_eq_false',Bool.and_eq_true,Bool.and_true,Bool.true_and,Bool.and_eq_false_iff,beq_self_eq_true,Xc,Y4,ne_eq,and_true,true_and,Bool.true_eq_false,Bool.false_eq_true,false_or,or_false,true_implies,imp_self,Int.ofNat_eq_natCast,not_true_eq_false,not_false_eq_true,Decidable.not_not,List.getElem?_cons_zero,List.getElem?_cons_succ,Option.some.injEq,forall_eq',forall_eq,List.set_cons_zero,List.set_cons_succ,List.length_cons,List.length_nil,List.getD_cons_zero,List.getD_cons_succ,tn0,tn1,tn2,tn3,Int.le_refl,Nat.le_refl,Nat.reduceAdd,Int.reduceAdd,Int.reduceLE,Nat.reduceLeDiff,cn4,cn16,Ex.eta]
 have hs':=hs
 obtain ⟨hs1,hs2⟩:=hs'
 refine ⟨⟨fun c hc=>And.intro (by have:=(hs1 c hc).1;omega) (by have:=(hs1 c hc).2;omega),by omega⟩,fun h=>Zhx (by unfold chkP;rw [if_neg h]),fun h=> ?_⟩
 have e:chkP t=goU 0 t.clauses:=by unfold chkP;rw [if_pos h]
 refine ⟨fun x=>x.k+x.r=t.clauses.length/\chkP t=goU x.k (t.clauses.drop x.k),⟨⟨0,t.clauses.length⟩,⟨Nat.zero_add _,by rw [e];rfl⟩,rfl⟩,fun x hx=>⟨fun hk=>⟨by omega,by omega,fun c hc=> ?_⟩,fun hk=> ?_⟩⟩
 · rw [Int.toNat_natCast] at hc
   have hm:=List.mem_of_getElem? hc
   have hf:=Zus h c hm
   have hd:=Zzi hc
   have hc2:=hs1 c hm
   refine ⟨rfl,⟨by omega,hf⟩,fun ho=> ?_,fun ho=> ?_⟩
   · have hn:=Option.isNone_iff_eq_none.1 (Option.isSome_eq_false_iff.1 ho)
     exact Zhx (by rw [hx.2,hd,hn,if_neg (by simp)])
   · obtain ⟨d,hdd⟩:=Option.isSome_iff_exists.1 ho
     obtain ⟨a0,a1,a2,a3,rfl,_⟩:=Zv1 c.pay hf hdd
     rw [hdd] at hd⊢
     simp only [Option.getD_some,List.getD_cons_zero,List.getD_cons_succ]
     refine ⟨fun hn=>Zhx (by
      have hne:¬some [a0,a1,a2,a3]=some [(1:Int),0,0,0]:=fun he=>by
       simp only [Option.some.injEq,List.cons.injEq,and_true] at he
       omega
      rw [hx.2,hd,if_neg hne]),fun hy=>⟨⟨x.k+1,x.r-1⟩,⟨by dsimp only;omega,?_⟩,by dsimp only;omega,?_⟩⟩
     · rw [hx.2,hd,if_pos (by rw [hy.1,hy.2.1,hy.2.2.1,hy.2.2.2])]
     · dsimp only
       exact (wr64 (by omega) (by omega)).trans (by omega)
 · exact Zhx (by rw [hx.2,List.drop_of_length_le (by omega)];rfl)
noncomputable def Stck:Sum thy:=Zal dTar (fun x=>Zur x.1) (fun x=>chkP x.1) intV
theorem Z4h:SumOk E 8 Stck:=Yj E_ok (Zc (f:=8) rfl) fun x h=>Zzj _ h
end
section
open Go
end
end Go.Proofs.YtddgkebdlgglaaaGreatDoor
