/- Merged texts: TpOj, TpOk. -/
import Derived.Test.YtbepgmadijomjaaGreatDoorMe
namespace Go.Proofs.YtbepgmadijomjaaGreatDoor
set_option linter.unusedVariables false
set_option linter.unusedSimpArgs false
set_option linter.unnecessarySimpa false
set_option maxRecDepth 100000
section
open Go
noncomputable def Acl:Fr thy->Hp thy->Nat->Ann thy:=fun T h i=>{X:=UR,fr:=fun x=> [(1,T 1),(3,.sl i 0 x.o.length 1 none),(4,.int false .i64 x.k)],bl:=fun x=>blkP h (T 1)++ [(i,.rows Th.strs x.o 0)],src:=fun x=> [(i,3)],md:= [bOf (T 3)],ih:=i+1,M:=i+60,meas:=fun x=>x.r}
noncomputable def Frcl:Fns thy:=addL (addS (addS (addS F0 85 Z92) 84 Srnb) 83 Z5r) 46 3 Acl E
theorem Z7h:FnsOk E Frcl:=Zl E_ok (Za (Za (Za F0_ok Z2j) Zsz) Zpt) _ _ _
abbrev qCXl (a0:Cls):=(Cls.pay a0)
abbrev qCX1 (a0:Cls):=(Cls.name a0=Cls.name a0/\(Cls.when_ a0=Cls.when_ a0/\(false=true->false=true))/\Ex.op (qCXl a0)=Ex.op (qCXl a0)/\Ex.n (qCXl a0)=Ex.n (qCXl a0)/\Ex.d0 (qCXl a0)=Ex.d0 (qCXl a0)/\Ex.d1 (qCXl a0)=Ex.d1 (qCXl a0)/\Ex.d2 (qCXl a0)=Ex.d2 (qCXl a0)/\Ex.d3 (qCXl a0)=Ex.d3 (qCXl a0)/\(Ex.l (qCXl a0)=Ex.l (qCXl a0)/\(false=true->false=true))/\True)
abbrev qCX2 (a0:UR):=(List.take (List.length (UR.o a0)) (UR.o a0)++ [[(112:Nat),(97:Nat),(121:Nat)]])
abbrev qCX3 (a0:Cls):=(Ex.mk (Ex.op (qCXl a0)) (Ex.n (qCXl a0)) (Ex.d0 (qCXl a0)) (Ex.d1 (qCXl a0)) (Ex.d2 (qCXl a0)) (Ex.d3 (qCXl a0)) (Ex.l (qCXl a0)))
abbrev qCX4 (a0:UR) (b0:List Nat):=(List.take (List.length (UR.o a0)) (UR.o a0)++ [[(119:Nat),(104:Nat),(101:Nat),(110:Nat)],b0])
abbrev qCX5 (a0:UR) (b0:List Nat):=(List.take (List.length (UR.o a0)) (UR.o a0)++ [[(97:Nat),(110:Nat),(100:Nat)],b0])
abbrev qCX6:=(0:Nat)
abbrev qCX7 (a0:Tst):=((0:Int)<=Tst.low a0/\Tst.low a0+(1:Int)<=(10000000000000:Int))
abbrev qCX8:=(140737488355328:Nat)
abbrev qCXc:=(2:Nat)
abbrev qCXg (a0:UR):=(↑(UR.k a0):Int)
abbrev qCX9 (a0:UR) (b0:UR):=(qCX6=qCX6/\(qCX6=qCX6/\List.length (UR.o a0)+qCXc+qCXc=List.length (UR.o b0)/\True)/\wr IntKind.i64 ((qCXg a0)+(1:Int))=(qCXg b0)/\True)
abbrev qCXa (a0:UR) (b0:UR):=(qCX6=qCX6/\(qCX6=qCX6/\List.length (UR.o a0)+qCXc+(4:Nat)=List.length (UR.o b0)/\True)/\wr IntKind.i64 ((qCXg a0)+(1:Int))=(qCXg b0)/\True)
abbrev qCXb:=(1:Nat)
abbrev qCXj:=(16:Nat)
abbrev qCXh (a0:UR):=(List.length (UR.o a0)+qCXc)
abbrev qCXd (a0:UR):=(List.length (UR.o a0)<=List.length (UR.o a0)/\qCX6<=List.length (UR.o a0)/\(qCXh a0)*qCXj<=qCX8)
abbrev qCXe (a0:List (List Nat)):=(List.take (List.length a0) a0)
abbrev qCXk (a0:UR):=(List.length (UR.o a0)+qCXb)
abbrev qCXf (a0:UR) (b0:List (List Nat)):=(List.take (qCXk a0) (qCX2 a0)++List.take (List.length b0) b0)
abbrev qCXi (a0:Tst):=((0:Int)<=Tst.high a0/\Tst.high a0+(1:Int)<=(10000000000000:Int))
theorem Z2s (c:Cls) (v:List (List Nat)):Zh E Frcl (vc E Frcl 400) 46 [.agg (encF false .clauses c)] hp0 0 (Zei E Th.strs 1 v)=(
 ∃(R:UR->Prop),(∃(x:UR),R x/\true=true/\(qCX6=qCX6/\(qCX6=qCX6/\qCXc=List.length (UR.o x)/\True)/\(0:Int)=(qCXg x)/\True)/\(qCX1 c)/\ [[(99:Nat),(108:Nat),(97:Nat),(117:Nat),(115:Nat),(101:Nat)],Cls.name c]=UR.o x/\True)/\∀(x:UR),R x->(decide ((qCXg x)<(↑(List.length (Cls.when_ c)):Int))=true->(0:Int)<=(qCXg x)/\(qCXg x)+(1:Int)<=(↑(List.length (Cls.when_ c)):Int)/\∀(x_1:Tst),(Cls.when_ c)[Int.toNat (qCXg x)]? =some x_1->(((qCXg x)==(0:Int))=true->True/\(0:Int)<=Tst.attr x_1/\Tst.attr x_1+(1:Int)<=(↑(List.length (WK.words WK.at_)):Int)/\∀(x_2:List Nat),(WK.words WK.at_)[Int.toNat (Tst.attr x_1)]? =some x_2->(qCXd x)/\((Tst.low x_1==Tst.high x_1)=true->(qCX7 x_1)/\(List.length (UR.o x)+qCXc<=List.length (qCX4 x x_2)/\qCX6<=List.length (UR.o x)+qCXc/\(List.length (UR.o x)+qCXc+qCXc)*qCXj<=qCX8)/\∃(x_3:UR),R x_3/\x_3.3+qCXb<=x.3/\true=true/\(qCX9 x x_3)/\(qCX1 c)/\(List.take (qCXh x) (qCX4 x x_2)++ [[(105:Nat),(115:Nat)],decN (Tst.low x_1)]=UR.o x_3/\qCX6=qCX6)/\True)/\((Tst.low x_1==Tst.high x_1)=false->(qCX7 x_1)/\(qCXi x_1)/\(List.length (UR.o x)+qCXc<=List.length (qCX4 x x_2)/\qCX6<=List.length (UR.o x)+qCXc/\(List.length (UR.o x)+qCXc+(4:Nat))*qCXj<=qCX8)/\∃(x_3:UR),R x_3/\x_3.3+qCXb<=x.3/\true=true/\(qCXa x x_3)/\(qCX1 c)/\(List.take (qCXh x) (qCX4 x x_2)++ [[(105:Nat),(110:Nat)],decN (Tst.low x_1),[(46:Nat),(46:Nat)],decN (Tst.high x_1)]=UR.o x_3/\qCX6=qCX6)/\True))/\(((qCXg x)==(0:Int))=false->True/\(0:Int)<=Tst.attr x_1/\Tst.attr x_1+(1:Int)<=(↑(List.length (WK.words WK.at_)):Int)/\∀(x_2:List Nat),(WK.words WK.at_)[Int.toNat (Tst.attr x_1)]? =some x_2->(qCXd x)/\((Tst.low x_1==Tst.high x_1)=true->(qCX7 x_1)/\(List.length (UR.o x)+qCXc<=List.length (qCX5 x x_2)/\qCX6<=List.length (UR.o x)+qCXc/\(List.length (UR.o x)+qCXc+qCXc)*qCXj<=qCX8)/\∃(x_3:UR),R x_3/\x_3.3+qCXb<=x.3/\true=true/\(qCX9 x x_3)/\(qCX1 c)/\(List.take (qCXh x) (qCX5 x x_2)++ [[(105:Nat),(115:Nat)],decN (Tst.low x_1)]=UR.o x_3/\qCX6=qCX6)/\True)/\((Tst.low x_1==Tst.high x_1)=false->(qCX7 x_1)/\(qCXi x_1)/\(List.length (UR.o x)+qCXc<=List.length (qCX5 x x_2)/\qCX6<=List.length (UR.o x)+qCXc/\(List.length (UR.o x)+qCXc+(4:Nat))*qCXj<=qCX8)/\∃(x_3:UR),R x_3/\x_3.3+qCXb<=x.3/\true=true/\(qCXa x x_3)/\(qCX1 c)/\(List.take (qCXh x) (qCX5 x x_2)++ [[(105:Nat),(110:Nat)],decN (Tst.low x_1),[(46:Nat),(46:Nat)],decN (Tst.high x_1)]=UR.o x_3/\qCX6=qCX6)/\True)))/\(decide ((qCXg x)<(↑(List.length (Cls.when_ c)):Int))=false->(List.length (UR.o x)<=List.length (UR.o x)/\qCX6<=List.length (UR.o x)/\(qCXk x)*qCXj<=qCX8)/\(Ex.sz (qCX3 c)+qCXb<=(1000000000:Nat)/\Zs (qCX3 c)=true)/\∀(y:List (List Nat)),y=txX (qCX3 c)->qCX6+List.length y<=List.length y/\(List.take (List.length y) y= []->(List.length (UR.o x)+qCXb<=List.length (qCX2 x)/\qCX6<=List.length (UR.o x)+qCXb/\(List.length (UR.o x)+qCXb+qCXb)*qCXj<=qCX8)/\true=true/\List.length (UR.o x)+qCXb+qCXb=List.length (List.take (qCXk x) (qCX2 x)++ [[(59:Nat)]])/\List.take (qCXk x) (qCX2 x)++ [[(59:Nat)]]=v)/\(List.take (List.length y) y≠ []->(List.length (UR.o x)+qCXb<=List.length (qCX2 x)/\qCX6<=List.length (UR.o x)+qCXb/\(List.length (UR.o x)+qCXb+List.length (qCXe y))*qCXj<=qCX8)/\(List.length (UR.o x)+qCXb+List.length (qCXe y)<=List.length (qCXf x y)/\qCX6<=List.length (UR.o x)+qCXb+List.length (qCXe y)/\(List.length (UR.o x)+qCXb+List.length (qCXe y)+qCXb)*qCXj<=qCX8)/\true=true/\List.length (UR.o x)+qCXb+List.length (qCXe y)+qCXb=List.length (List.take (List.length (UR.o x)+qCXb+List.length (qCXe y)) (qCXf x y)++ [[(59:Nat)]])/\List.take
(List.length (UR.o x)+qCXb+List.length (qCXe y)) (qCXf x y)++ [[(59:Nat)]]=v))):=by kernel_rfl
theorem Zyx (c:Cls) (h1:Yh c=true) (hz:c.pay.sz<1000000000) (hw:c.when_.length<=1000000000):FreshC E 46 [.agg (encF false .clauses c)] Th.strs 1 (txC c:List (List Nat)):=by
 refine Wa E_ok (Ze E_ok Z7h 400) (fun y _=>Wd y) (fun y _=>E_ok.enc _ y) ?_
 rw [Z2s];delta qCXl qCX1 qCX2 qCX3 qCX4 qCX5 qCX6 qCX7 qCX8 qCXc qCXg qCX9 qCXa qCXb qCXj qCXh qCXd qCXe qCXk qCXf qCXi
 simp only [Ex.eta,List.take_length,Nat.zero_add,Nat.le_refl,true_and,and_true,List.nil_append,implies_true,Nat.zero_le,decide_eq_true_eq,decide_eq_false_iff_not,beq_iff_eq,beq_eq_false_iff_ne,ne_eq]
 have F1:(false=true->false=true):=fun h=>h
 simp only [Yh,Bool.and_eq_true,List.all_eq_true] at h1
 obtain ⟨⟨_,hfx⟩,hts⟩:=h1
 have hH: [Yp,c.name]++txTs 0 c.when_= [Yp,c.name]++txTs 0 c.when_:=rfl
 refine ⟨fun x=>x.o++txTs x.k (c.when_.drop x.k)= [Yp,c.name]++txTs 0 c.when_/\x.k<=c.when_.length/\x.r=c.when_.length-x.k/\x.o.length<=2+6*x.k,⟨⟨[Yp,c.name],0,c.when_.length⟩,⟨rfl,Nat.zero_le _,rfl,Nat.le_refl _⟩,⟨rfl,rfl⟩,⟨F1,F1⟩,rfl⟩,?_⟩
 rintro ⟨o,k,r⟩ ⟨h1,h2,h3,h4⟩
 have h1:o++txTs k (c.when_.drop k)= [Yp,c.name]++txTs 0 c.when_:=h1
 have h2:k<=c.when_.length:=h2
 have h3:r=c.when_.length-k:=h3
 have h4:o.length<=2+6*k:=h4
 simp only
 refine ⟨fun hk=>⟨by omega,by omega,fun w hw'=> ?_⟩,fun hk=> ?_⟩
 · have hw':c.when_[k]? =some w:=hw'
   have hok:=hts w (List.mem_of_getElem? hw')
   simp only [Z6,decide_eq_true_eq] at hok
   have wk:wr .i64 ((k:Int)+1)=((k+1:Nat):Int):=by rw [wr64 (by omega) (by omega)];omega
   have key:∀(f xw:List Nat) (rest:List (List Nat)),(if k=0 then Zcz else sAnd)=f->txW w=xw::rest->((o++ [f,xw])++rest)++txTs (k+1) (c.when_.drop (k+1))= [Yp,c.name]++txTs 0 c.when_:=fun f xw rest e1 e2=>by
    rw [<-h1,Zk5 hw',Zkc,e1,e2];simp
   have hwx:∀xw,WK.at_.words[w.attr.toNat]? =some xw->WK.at_.words.getD w.attr.toNat []=xw:=fun xw h=>by rw [List.getD_eq_getElem?_getD,h];rfl
   have e1:∀xw,WK.at_.words[w.attr.toNat]? =some xw->w.low=w.high->txW w=xw:: [sIs,decN w.low]:=fun xw h he=>by unfold txW;rw [if_pos he,hwx xw h]
   have e2:∀xw,WK.at_.words[w.attr.toNat]? =some xw->¬w.low=w.high->txW w=xw:: [sIn,decN w.low,Zfr,decN w.high]:=fun xw h he=>by unfold txW;rw [if_neg he,hwx xw h]
   refine ⟨fun h0=>⟨by omega,by show w.attr+1<=16;omega,fun xw hx=>⟨by omega,fun he=>⟨by omega,⟨by simp,by omega⟩,?_⟩,fun he=>⟨by omega,by omega,⟨by simp,by omega⟩,?_⟩⟩⟩,fun h0=>⟨by omega,by show w.attr+1<=16;omega,fun xw hx=>⟨by omega,fun he=>⟨by omega,⟨by simp,by omega⟩,?_⟩,fun he=>⟨by omega,by omega,⟨by simp,by omega⟩,?_⟩⟩⟩⟩
   · exact ⟨⟨(o++ [Zcz,xw])++ [sIs,decN w.low],k+1,c.when_.length-(k+1)⟩,⟨key _ _ _ (if_pos (by omega)) (e1 xw hx he),by show k+1<=_;omega,rfl,by simp;omega⟩,by show c.when_.length-(k+1)+1<=r;omega,⟨by simp,wk⟩,⟨F1,F1⟩,by rw [List.take_of_length_le (by simp)];rfl⟩
   · exact ⟨⟨(o++ [Zcz,xw])++ [sIn,decN w.low,Zfr,decN w.high],k+1,c.when_.length-(k+1)⟩,⟨key _ _ _ (if_pos (by omega)) (e2 xw hx he),by show k+1<=_;omega,rfl,by simp;omega⟩,by show c.when_.length-(k+1)+1<=r;omega,⟨by simp,wk⟩,⟨F1,F1⟩,by rw [List.take_of_length_le (by simp)];rfl⟩
   · exact ⟨⟨(o++ [sAnd,xw])++ [sIs,decN w.low],k+1,c.when_.length-(k+1)⟩,⟨key _ _ _ (if_neg (by omega)) (e1 xw hx he),by show k+1<=_;omega,rfl,by simp;omega⟩,by show c.when_.length-(k+1)+1<=r;omega,⟨by simp,wk⟩,⟨F1,F1⟩,by rw [List.take_of_length_le (by simp)];rfl⟩
   · exact ⟨⟨(o++ [sAnd,xw])++ [sIn,decN w.low,Zfr,decN w.high],k+1,c.when_.length-(k+1)⟩,⟨key _ _ _ (if_neg (by omega)) (e2 xw hx he),by show k+1<=_;omega,rfl,by simp;omega⟩,by show c.when_.length-(k+1)+1<=r;omega,⟨by simp,wk⟩,⟨F1,F1⟩,by rw [List.take_of_length_le (by simp)];rfl⟩
 · have hkl:k=c.when_.length:=by omega
   rw [hkl,List.drop_length] at h1
   have h1:o++ []= [Yp,c.name]++txTs 0 c.when_:=h1
   rw [List.append_nil] at h1
   have hx:=Yk c.pay
   have hC:txC c=((o++ [sPay])++txX c.pay)++ [Z1p]:=by
    rw [h1];unfold txC;simp
   rw [hC]
   refine ⟨by omega,⟨by omega,hfx⟩,fun y hy=>⟨fun h0=>⟨⟨by simp,by omega⟩,?_,?_⟩,fun h0=>⟨⟨by simp,by rw [hy];omega⟩,⟨?_,by rw [hy];omega⟩,?_,?_⟩⟩⟩
   · rw [List.take_of_length_le (by simp)];simp
   · rw [List.take_of_length_le (by simp),<-hy,h0,List.append_nil];rfl
   · rw [List.take_of_length_le (by simp)];simp;omega
   · rw [List.take_of_length_le (by simp),List.take_of_length_le (by simp)];simp;omega
   · rw [List.take_of_length_le (by simp),List.take_of_length_le (by simp),<-hy];rfl
noncomputable def dClJ:DcL E (Cls×Unit):= .cons (dR .clauses) .nil
noncomputable def Z3w:Sum thy:=Zmc dClJ Th.strs 1 (fun x=>Yh x.1=true/\x.1.pay.sz<1000000000/\x.1.when_.length<=1000000000) fun x=>(txC x.1:List (List Nat))
theorem Zyy:SumOk E 46 Z3w:=Zbc E_ok (Zc (f:=46) rfl) Wd fun x h=>Zyx x.1 h.1 h.2.1 h.2.2
structure SR where
 s:List Nat
 k:Nat
 r:Nat
noncomputable def Apr1:Fr thy->Hp thy->Nat->Ann thy:=fun T h i=>{X:=UR,fr:=fun x=> [(1,T 1),(5,.sl i 0 x.o.length 1 none),(6,.int false .i64 x.k)],bl:=fun x=>blkP h (T 1)++ [(i,.rows Th.strs x.o 0)],src:=fun x=> [(i,5)],md:= [bOf (T 5)],ih:=i+1,M:=i+60,meas:=fun x=>x.r}
noncomputable def Apr2:Fr thy->Hp thy->Nat->Ann thy:=fun T h i=>{X:=SR,fr:=fun x=> [(5,T 5),(8,.str false x.s),(9,.int false .i64 x.k)],bl:=fun x=>blkS h (T 5),src:=fun _=> [],md:= [],ih:=i,M:=i+20,meas:=fun x=>x.r}
noncomputable def Z3x:Sum thy:=sumP dTar (fun x=>Zo5 x.1) fun x=> .int false .i64 (Yq x.1)
theorem Zyz:SumOk E 18 Z3x:=Zm E_ok (Zc (f:=18) rfl) fun x h=>by
 have:=Zo2 x.1 h
 rw [Zo1] at this
 exact this
noncomputable def Frpr:Fns thy:=addL (addL (addS (addS (addS F0 18 Z3x) 46 Z3w) 45 Z88) 16 6 Apr1 E) 16 13 Apr2 E
theorem Z7i:FnsOk E Frpr:=Zl E_ok (Zl E_ok (Za (Za (Za F0_ok Zyz) Zyy) Z1a) _ _ _) _ _ _
abbrev qCXm (a0:Cls):=(Ex.mk (Ex.op (Cls.pay a0)) (Ex.n (Cls.pay a0)) (Ex.d0 (Cls.pay a0)) (Ex.d1 (Cls.pay a0)) (Ex.d2 (Cls.pay a0)) (Ex.d3 (Cls.pay a0)) (Ex.l (Cls.pay a0)))
abbrev qCXr:=(0:Nat)
abbrev qCXn (a0:UR):=(List.take (List.length (UR.o a0)) (UR.o a0)++ [[(125:Nat)]]=List.take (List.length (UR.o a0)) (UR.o a0)++ [[(125:Nat)]]/\qCXr=qCXr)
abbrev qCXo (a0:Tar):=(Tar.name a0=Tar.name a0/\Tar.for_ a0=Tar.for_ a0/\(Tar.clauses a0=Tar.clauses a0/\(false=true->false=true))/\True)
abbrev qCXu:=(1:Nat)
abbrev qCXp (a0:UR):=(qCXr=qCXr/\List.length (UR.o a0)+qCXu=List.length (UR.o a0)+qCXu/\True)
abbrev qCXq (a0:UR):=(List.take (List.length (UR.o a0)) (UR.o a0)++ [[(125:Nat)]])
abbrev qCXs (a0:SR):=(↑(SR.k a0):Int)
abbrev qCXt (a0:UR):=(↑(List.length (UR.o a0)+qCXu):Int)
abbrev qCXv (a0:UR):=(↑(UR.k a0):Int)
abbrev qCXw:=(ByteArray.mk #[(32:UInt8)])
abbrev qCXx:=(0:Int)
abbrev qCXy:=(9223372036854775807:Nat)
abbrev qCXz (a0:Tar):=(↑(List.length (Tar.clauses a0)):Int)
theorem Z2t (t:Tar) (s:List Nat) (e:Int):Zh E Frpr (vc E Frpr 400) 16 [tarA t] hp0 0 (fun r=>ret E (patch hp0 0 r) r.v (.tup [.str false s,.int false .i64 e]))=(
 ((∀(c:Cls),c∈Tar.clauses t->Ex.sz (Cls.pay c)+qCXu<=(1000000000:Nat)/\List.length (Cls.when_ c)+qCXu<=(1000000000000:Nat))/\List.length (Tar.clauses t)+qCXu<=(1000000000000:Nat))/\((Yq t !=qCXx)=true-> []=s/\Yq t=e/\True)/\((Yq t !=qCXx)=false->True/\qCXx<=Tar.for_ t/\Tar.for_ t+(1:Int)<=(↑(List.length ([]::WK.words WK.ki)):Int)/\∀(x:List Nat),([]::WK.words WK.ki)[Int.toNat (Tar.for_ t)]? =some x->∃(R:UR->Prop),(∃(x_1:UR),R x_1/\true=true/\(qCXr=qCXr/\(qCXr=qCXr/\(5:Nat)=List.length (UR.o x_1)/\True)/\qCXx=(qCXv x_1)/\True)/\(qCXo t)/\ [[(116:Nat),(97:Nat),(114:Nat),(105:Nat),(102:Nat),(102:Nat)],Tar.name t,[(102:Nat),(111:Nat),(114:Nat)],x,[(123:Nat)]]=UR.o x_1/\True)/\∀(x:UR),R x->(decide ((qCXv x)<(qCXz t))=true->qCXx<=(qCXv x)/\(qCXv x)+(1:Int)<=(qCXz t)/\∀(x_1:Cls),(Tar.clauses t)[Int.toNat (qCXv x)]? =some x_1->(Yh (Cls.mk (Cls.name x_1) (Cls.when_ x_1) (qCXm x_1))=true/\Ex.sz (qCXm x_1)+qCXu<=(1000000000:Nat)/\List.length (Cls.when_ x_1)<=(1000000000:Nat))/\∀(y:List (List Nat)),y=txC (Cls.mk (Cls.name x_1) (Cls.when_ x_1) (qCXm x_1))->qCXr+List.length y<=List.length y/\(List.take (List.length y) y= []->∃(x_2:UR),R x_2/\x_2.3+qCXu<=x.3/\true=true/\(qCXr=qCXr/\(qCXr=qCXr/\List.length (UR.o x)=List.length (UR.o x_2)/\True)/\wr IntKind.i64 ((qCXv x)+(1:Int))=(qCXv x_2)/\True)/\(qCXo t)/\(UR.o x=UR.o x_2/\qCXr=qCXr)/\True)/\(List.take (List.length y) y≠ []->(List.length (UR.o x)<=List.length (UR.o x)/\qCXr<=List.length (UR.o x)/\(List.length (UR.o x)+List.length (List.take (List.length y) y))*(16:Nat)<=(140737488355328:Nat))/\∃(x_2:UR),R x_2/\x_2.3+qCXu<=x.3/\true=true/\(qCXr=qCXr/\(qCXr=qCXr/\List.length (UR.o x)+List.length (List.take (List.length y) y)=List.length (UR.o x_2)/\True)/\wr IntKind.i64 ((qCXv x)+(1:Int))=(qCXv x_2)/\True)/\(qCXo t)/\(List.take (List.length (UR.o x)) (UR.o x)++List.take (List.length y) y=UR.o x_2/\qCXr=qCXr)/\True))/\(decide ((qCXv x)<(qCXz t))=false->(List.length (UR.o x)<=List.length (UR.o x)/\qCXr<=List.length (UR.o x)/\(List.length (UR.o x)+qCXu)*(16:Nat)<=(140737488355328:Nat))/\∃(R:SR->Prop),(∃(x_1:SR),R x_1/\true=true/\((qCXp x)/\ []=SR.s x_1/\qCXx=(qCXs x_1)/\True)/\(qCXn x)/\True)/\∀(x_1:SR),R x_1->(decide ((qCXs x_1)<(qCXt x))=true->(decide ((qCXs x_1)>qCXx)=true->List.length (SR.s x_1)+List.length (toL qCXw)<=qCXy/\(qCXx<=(qCXs x_1)/\(qCXs x_1)+(1:Int)<=(qCXt x))/\qCXr+Int.toNat (qCXs x_1)+qCXu<=List.length (qCXq x)/\∀(x_2:List Nat),(qCXq x)[qCXr+Int.toNat (qCXs x_1)]? =some x_2->List.length (SR.s x_1++toL qCXw)+List.length x_2<=qCXy/\∃(x_3:SR),R x_3/\x_3.3+qCXu<=x_1.3/\true=true/\((qCXp x)/\SR.s x_1++toL qCXw++x_2=SR.s x_3/\wr IntKind.i64 ((qCXs x_1)+(1:Int))=(qCXs x_3)/\True)/\(qCXn x)/\True)/\(decide ((qCXs x_1)>qCXx)=false->(qCXx<=(qCXs x_1)/\(qCXs x_1)+(1:Int)<=(qCXt x))/\qCXr+Int.toNat (qCXs x_1)+qCXu<=List.length (qCXq x)/\∀(x_2:List Nat),(qCXq x)[qCXr+Int.toNat (qCXs x_1)]? =some x_2->List.length (SR.s x_1)+List.length x_2<=qCXy/\∃(x_3:SR),R x_3/\x_3.3+qCXu<=x_1.3/\true=true/\((qCXp x)/\SR.s x_1++x_2=SR.s x_3/\wr IntKind.i64 ((qCXs x_1)+(1:Int))=(qCXs x_3)/\True)/\(qCXn x)/\True))/\(decide ((qCXs x_1)<(qCXt x))=false->(decide ((↑(List.length (SR.s x_1)):Int)>(2000:Int))=true-> []=s/\(2:Int)=e/\True)/\(decide ((↑(List.length (SR.s x_1)):Int)>(2000:Int))=false->SR.s x_1=s/\qCXx=e/\True))))):=by kernel_rfl
theorem Zgp:∀{ws:List (List Nat)} {w:List Nat},ws≠ []->Y4 (ws++ [w])=Y4 ws++32::w
 | [],w,h=>absurd rfl h
 | [a],w,_=>rfl
 |a::b::r,w,_=>by
  have:=Zgp (ws:=b::r) (w:=w) (by simp)
  rw [List.cons_append,Uw (by simp),Uw (by simp),this,List.append_assoc];rfl
theorem Z2u (t:Tar) (hs:SmT t):PureC E 16 [tarA t] (.tup [.str false (Vd t).1,.int false .i64 (Vd t).2]):=by
 refine Zb E_ok (Ze E_ok Z7i 400) ?_
 rw [Z2t];delta qCXm qCXr qCXn qCXo qCXu qCXp qCXq qCXs qCXt qCXv qCXw qCXx qCXy qCXz
 simp only [Ex.eta,List.take_length,Nat.zero_add,Nat.le_refl,true_and,and_true,List.nil_append,implies_true,Nat.zero_le,decide_eq_true_eq,decide_eq_false_iff_not,beq_iff_eq,beq_eq_false_iff_ne,bne_iff_ne,bne_eq_false_iff_eq,ne_eq]
 have F1:(false=true->false=true):=fun h=>h
 obtain ⟨h1,h2⟩:=hs
 refine ⟨⟨fun c hc=>⟨by have:=(h1 c hc).1;omega,by have:=(h1 c hc).2;omega⟩,by omega⟩,fun hn=> ?_,fun hz=> ?_⟩
 · rw [Zf3 hn];exact ⟨rfl,rfl⟩
 obtain ⟨c1,c2,c3,c4,c5,c6⟩:=(Zan t).1 hz
 refine ⟨by omega,by show t.for_+1<=7;omega,fun x hx=> ?_⟩
 have hall:=Zgr c6
 have hm:∀c∈t.clauses,c.pay.sz<=10000/\c.when_.length<=8:=fun c hc=>⟨(h1 c hc).1,(hall c hc).2⟩
 have hlen:∀k,(txCs (t.clauses.take k)).length<=80052*64:=fun k=>by
  have a:=Zgq (cs:=t.clauses.take k) (m:=10000) (fun c hc=>hm c (List.mem_of_mem_take hc))
  have b:(t.clauses.take k).length<=64:=by rw [List.length_take];omega
  have e:(8*10000+52)*(t.clauses.take k).length<=(8*10000+52)*64:=Nat.mul_le_mul_left _ b
  omega
 have hx5:WK.ki.words.getD (t.for_-1).toNat []=x:=by
  have e:t.for_.toNat=(t.for_-1).toNat+1:=by omega
  rw [e,List.getElem?_cons_succ] at hx
  rw [List.getD_eq_getElem?_getD,hx];rfl
 have hall32:=fun w hw=>TokW.len (Zo7 hz w hw)
 generalize hH: [[116,97,114,105,102,102],t.name,[102,111,114],x,[123]]=H
 have hH5:H.length=5:=by rw [<-hH];rfl
 refine ⟨fun y=>y.k<=t.clauses.length/\y.o=H++txCs (t.clauses.take y.k)/\y.r=t.clauses.length-y.k,⟨⟨H,0,t.clauses.length⟩,⟨Nat.zero_le _,by rw [List.take_zero];exact (List.append_nil H).symm,rfl⟩,⟨hH5.symm,rfl⟩,F1,rfl⟩,?_⟩
 rintro ⟨o,k,r⟩ ⟨k1,k2,k3⟩
 have k1:k<=t.clauses.length:=k1
 have k2:o=H++txCs (t.clauses.take k):=k2
 have k3:r=t.clauses.length-k:=k3
 have hol:o.length<=5+80052*64:=by rw [k2,List.length_append,hH5];have:=hlen k;omega
 simp only
 refine ⟨fun hk=>⟨by omega,by omega,fun c hc=> ?_⟩,fun hk=> ?_⟩
 · have hc:t.clauses[k]? =some c:=hc
   have hcm:=List.mem_of_getElem? hc
   have b1:=hm c hcm
   have b2:=hall c hcm
   have w:wr .i64 ((k:Int)+1)=((k+1:Nat):Int):=by rw [wr64 (by omega) (by omega)];omega
   have e:o++txC c=H++txCs (t.clauses.take (k+1)):=by
    have ek:t.clauses.take (k+1)=t.clauses.take k++ [c]:=by rw [List.take_add_one,hc];rfl
    rw [k2,ek,Zdf,List.append_assoc]
   have el:o.length+(txC c).length<=5+80052*64:=by
    rw [<-List.length_append,e,List.length_append,hH5];have:=hlen (k+1);omega
   refine ⟨⟨b2.1,by omega,by omega⟩,fun y hy=> ?_⟩
   have hy:y=txC c:=hy
   refine ⟨fun h0=> ?_,fun h0=>⟨by rw [hy];omega,⟨o++y,k+1,t.clauses.length-(k+1)⟩,⟨by show k+1<=_;omega,by rw [hy];exact e,rfl⟩,by show t.clauses.length-(k+1)+1<=r;omega,⟨by simp,w⟩,F1,rfl⟩⟩
   rw [h0] at hy
   exact absurd hy.symm (by unfold txC;simp)
 · have ek:k=t.clauses.length:=by omega
   have e:o++ [[125]]=Zb8 t:=by
    rw [k2,ek,List.take_length]
    unfold Zb8
    rw [hx5,<-hH]
    simp [Zh5,sFor,sLb,sRb]
   have eT:(Zb8 t).length=o.length+1:=by rw [<-e];simp
   rw [e]
   have s32:toL {data:= #[32]}= [32]:=rfl
   rw [s32]
   have hall32:∀w∈Zb8 t,w.length<=32:=hall32
   generalize hTW:Zb8 t=W at*
   have jl:∀k,(Y4 (W.take k)).length<=33*W.length:=fun k=>by
    have:=Zde (ws:=W.take k) (m:=32) (fun w hw=>hall32 w (List.mem_of_mem_take hw))
    have e:(W.take k).length<=W.length:=by rw [List.length_take];omega
    omega
   refine ⟨by omega,fun y=>y.k<=W.length/\y.s=Y4 (W.take y.k)/\y.r=W.length-y.k,⟨⟨[],0,W.length⟩,⟨Nat.zero_le _,rfl,rfl⟩,rfl,rfl⟩,?_⟩
   rintro ⟨s,j,q⟩ ⟨j1,j2,j3⟩
   have j1:j<=W.length:=j1
   have j2:s=Y4 (W.take j):=j2
   have j3:q=W.length-j:=j3
   have hj:=jl j
   rw [<-j2] at hj
   simp only
   refine ⟨fun hk=> ?_,fun hk=> ?_⟩
   · have hk:(j:Int)<((o.length+1:Nat):Int):=hk
     have hjW:j+1<=W.length:=by omega
     have wj:wr .i64 ((j:Int)+1)=((j+1:Nat):Int):=by rw [wr64 (by omega) (by omega)];omega
     refine ⟨fun h0=>⟨by simp;omega,⟨by omega,by omega⟩,by rw [Int.toNat_natCast];omega,fun w hw=> ?_⟩,fun h0=>⟨⟨by omega,by omega⟩,by rw [Int.toNat_natCast];omega,fun w hw=> ?_⟩⟩
     · have hw:W[j]? =some w:=hw
       have h32:=hall32 w (List.mem_of_getElem? hw)
       refine ⟨by simp;omega,⟨(s++ [32])++w,j+1,W.length-(j+1)⟩,⟨by show j+1<=_;omega,?_,rfl⟩,by show W.length-(j+1)+1<=q;omega,rfl,wj⟩
       have e:W.take (j+1)=W.take j++ [w]:=by rw [List.take_add_one,hw];rfl
       show (s++ [32])++w=Y4 (W.take (j+1))
       rw [e,Zgp (by intro h;have:=congrArg List.length h;rw [List.length_take,List.length_nil] at this;omega),<-j2,List.append_assoc];rfl
     · have hj0:j=0:=by omega
       subst hj0
       have hw:W[0]? =some w:=hw
       have h32:=hall32 w (List.mem_of_getElem? hw)
       refine ⟨by omega,⟨s++w,0+1,W.length-(0+1)⟩,⟨by show 0+1<=_;omega,?_,rfl⟩,by show W.length-(0+1)+1<=q;omega,rfl,wj⟩
       have e:W.take (0+1)= [w]:=by rw [List.take_add_one,hw];rfl
       show s++w=Y4 (W.take (0+1))
       rw [e,j2];rfl
   · have ej:j=W.length:=by omega
     rw [ej,List.take_length] at j2
     have hp:Vd t=if 2000<(Y4 W).length then ([],2) else (Y4 W,0):=by unfold Vd;rw [if_neg (by rw [hz];decide),hTW]
     rw [hp,j2]
     refine ⟨fun h=> ?_,fun h=> ?_⟩
     · rw [if_pos (by omega)];exact ⟨rfl,rfl⟩
     · rw [if_neg (by omega)];exact ⟨rfl,rfl⟩
end
section
open Go
noncomputable def Yag:Sum thy:=Zk2 E (fun _=>none) 10 Ztn (fun x=>SmT x.1) (fun x=>Vd x.1) fun y=> .tup [.str false y.1,.int false .i64 y.2]
noncomputable def Sckk:Sum thy:=Zk2 E (fun _=>none) 10 Ztn (fun x=>Zo5 x.1) (fun x=>Yq x.1) fun y=> .int false .i64 y
noncomputable def Ftmr:Fns thy:=Zpy (addS (addS Flw 16 Yag) 18 Sckk)
theorem Z32:FnsOk E Ftmr:=Zeu (Za (Za Z77 (Vn E_ok (Zc rfl) fun x h=>Z2u x.1 h)) (Vn E_ok (Zc rfl) fun x h=>by
 have:=Zo2 x.1 h
 rw [Zo1] at this
 exact this))
abbrev qCY3:=(1000000000:Nat)
abbrev qCY1 (a0:Tar):=((∀(c:Cls),c∈Tar.clauses a0->Ex.sz (Cls.pay c)+(1:Nat)<=qCY3/\List.length (Cls.when_ c)+(1:Nat)<=qCY3)/\List.length (Tar.clauses a0)+(1:Nat)<=qCY3)
abbrev qCY2 (a0:Tar):=((∀(c:Cls),c∈Tar.clauses a0->Ex.sz (Cls.pay c)<=(10000:Nat)/\List.length (Cls.when_ c)+(1:Nat)<=qCY3)/\List.length (Tar.clauses a0)+(1:Nat)<=qCY3)
theorem Z33 (a b:Tar) (v:Bool):Zh E Ftmr (vc E Ftmr 400) 4 [.agg (encF false .tariffs a),.agg (encF false .tariffs b)] hp0 0 (fun r=>ret E (patch hp0 0 r) r.v (.bool false v))=(
 True/\∀(y:Bool),y=fewT a->((!y)=true->true=v)/\((!y)=false->True/\∀(y:Bool),y=fewT b->((!y)=true->true=v)/\((!y)=false->(qCY2 a)/\∀(y:List Nat×Int),y=Vd a->(qCY2 a)/\∀(y_1:List Nat×Int),y_1=Vd a->(qCY2 a)/\∀(y_2:Int),y_2=Yq a->((∀(c:Cls),c∈Tar.clauses a->Ex.sz (Cls.pay c)+(1:Nat)<=qCY3/\List.length (Cls.when_ c)+(1:Nat)<=(1000000000000:Nat))/\List.length (Tar.clauses a)+(1:Nat)<=(1000000000000:Nat))/\∀(y_3:Int),y_3=Yq a->((y_2==y_3)=true->((Prod.fst y==Prod.fst y_1)=true->((Prod.snd y==Prod.snd y_1)=true->(qCY1 a)/\∀(y:Bool),y=eqE a b->(qCY1 a)/\∀(y_4:Bool),y_4=eqE a b->((y==y_4)=true->(qCY1 a)/\∀(y:Bool),y=eqE a a->y=v)/\((y==y_4)=false->false=v))/\((Prod.snd y==Prod.snd y_1)=false->false=v))/\((Prod.fst y==Prod.fst y_1)=false->false=v))/\((y_2==y_3)=false->false=v)))):=by kernel_rfl
theorem Z34 (a b:Tar):PureC E 4 [.agg (encF false .tariffs a),.agg (encF false .tariffs b)] (.bool false true):=by
 refine Zb E_ok (Ze E_ok Z32 400) ?_
 rw [Z33];delta qCY3 qCY1 qCY2
 simp only [true_and,and_true,Bool.not_true,Bool.not_eq_true',Bool.not_eq_false',Bool.true_eq_false,Bool.false_eq_true,false_imp_iff,true_imp_iff,bne_iff_ne,bne_eq_false_iff_eq,beq_iff_eq,beq_eq_false_iff_ne,ne_eq,forall_eq]
 refine ⟨fun _=>trivial,fun ha=>⟨fun _=>trivial,fun hb=> ?_⟩⟩
 have hs:=Ybd ha
 have h1:=hs.one
 have nt:¬True->False:=fun h=>h trivial
 exact ⟨hs,hs,hs,⟨fun c hc=>⟨by have:=(hs.1 c hc).1;omega,by have:=(hs.1 c hc).2;omega⟩,by have:=hs.2;omega⟩,⟨⟨⟨⟨h1,h1,⟨h1,Z2m a⟩,nt⟩,nt⟩,nt⟩,nt⟩⟩
end
end Go.Proofs.YtbepgmadijomjaaGreatDoor
