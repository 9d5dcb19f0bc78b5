/- Merged texts: TpZ. -/
import Derived.Test.YtbepgmadijomjaaGreatDoorMe
namespace Go.Proofs.YtbepgmadijomjaaGreatDoor
set_option linter.unusedVariables false
set_option linter.unusedSimpArgs false
set_option linter.unnecessarySimpa false
set_option maxRecDepth 100000
section
open Go
structure ClX where
 k:Nat
 r:Nat
 n:Int
 a:Int
 b:Int
noncomputable def Acs:Fr thy->Hp thy->Nat->Ann thy:=fun T h i=>{X:=ClX,fr:=fun x=> [(1,T 1),(2,T 2),(3,T 3),(7,T 7),(9,T 9),(12,.int false .i64 x.n),(13,.int false .i64 x.a),(14,.int false .i64 x.b),(15,.int false .i64 x.k)],bl:=fun x=>blkP h (T 3),src:=fun _=> [],md:= [],ih:=i,M:=i+30,meas:=fun x=>x.r}
noncomputable def Fcs:Fns thy:=addL Flw 7 17 Acs E
theorem Z9h:FnsOk E Fcs:=Zy E_ok Z9x _ _ _
abbrev qCUb:=(0:Int)
abbrev qCUd:=(1:Int)
abbrev qCUj:=(9223372036854775807:Nat)
abbrev qCUr:=(1:Nat)
abbrev qCUq:=(1000000000:Nat)
abbrev qCU2 (a0:Tar×Int×Int):=((∀(c:Cls),c∈Tar.clauses (Prod.fst a0)->Ex.sz (Cls.pay c)+qCUr<=qCUq/\List.length (Cls.when_ c)+qCUr<=qCUq)/\List.length (Tar.clauses (Prod.fst a0))+qCUr<=qCUq)
abbrev qCUn (a0:ClX):=(ClX.a a0+(7:Int))
abbrev qCU7 (a0:ClX) (b0:Cls):=(wr IntKind.i64 (qCUn a0)+(↑(List.length (Cls.name b0)):Int))
abbrev qCUc (a0:Tar):=(Tar.clauses a0)
abbrev qCUi (a0:Tar):=(↑(List.length (qCUc a0)):Int)
abbrev qCU6 (a0:List Nat×Int):=(↑(List.length (Prod.fst a0)):Int)
abbrev qCU1 (a0:Bool) (b0:Int) (c0:Tar) (d0:ClX) (e0:List Nat×Int) (f0:Bool) (g0:Int):=((!a0)=false->qCUb<=b0/\b0+qCUd<=(qCUi c0)/\∀(x_1:Cls),(qCUc c0)[Int.toNat b0]? =some x_1->(decide (wr IntKind.i64 (qCU7 d0 x_1)>(qCU6 e0))=true->false=f0)/\(decide (wr IntKind.i64 (qCU7 d0 x_1)>(qCU6 e0))=false->(qCUb<=wr IntKind.i64 (qCUn d0)/\wr IntKind.i64 (qCUn d0)<=(qCU6 e0))/\qCUb<=g0/\g0+qCUd<=(qCUi c0)/\∀(x_2:Cls),(qCUc c0)[Int.toNat g0]? =some x_2->List.length (List.take (Int.toNat (wr IntKind.i64 (qCUn d0))) (Prod.fst e0))+List.length (Cls.name x_2)<=qCUj/\(qCUb<=wr IntKind.i64 (qCU7 d0 x_1)/\wr IntKind.i64 (qCU7 d0 x_1)<=(qCU6 e0))/\List.length (List.take (Int.toNat (wr IntKind.i64 (qCUn d0))) (Prod.fst e0)++Cls.name x_2)+List.length (List.drop (Int.toNat (wr IntKind.i64 (qCU7 d0 x_1))) (Prod.fst e0))<=qCUj/\True/\∀(y_4:Tar×Int×Int),y_4=Yc (List.take (Int.toNat (wr IntKind.i64 (qCUn d0))) (Prod.fst e0)++Cls.name x_2++List.drop (Int.toNat (wr IntKind.i64 (qCU7 d0 x_1))) (Prod.fst e0))->((Prod.snd (Prod.snd y_4)==(161:Int))=true->((Prod.fst (Prod.snd y_4)==wr IntKind.i64 (qCUn d0))=true->(qCU2 y_4)/\∀(e0:Bool),e0=eqE (Prod.fst y_4) (Tar.mk [] qCUb [])->e0=f0)/\((Prod.fst (Prod.snd y_4)==wr IntKind.i64 (qCUn d0))=false->false=f0))/\((Prod.snd (Prod.snd y_4)==(161:Int))=false->false=f0)))
abbrev qCU3 (a0:Tar):=(Tar.name a0=Tar.name a0/\Tar.for_ a0=Tar.for_ a0/\(Tar.clauses a0=Tar.clauses a0/\(false=true->false=true))/\True)
abbrev qCU4 (a0:Int):=(Int.toNat (wr IntKind.i64 (a0+qCUd)))
abbrev qCU5 (a0:Int) (b0:Tar):=(List.take (Int.toNat a0) (qCUc b0))
abbrev qCU8 (a0:ClX):=(↑(ClX.k a0):Int)
abbrev qCU9 (a0:List Tok×Int×Int):=(Prod.fst a0=Prod.fst a0/\(false=true->false=true))
abbrev qCUa (a0:ClX) (b0:List Nat×Int):=(List.take (Int.toNat (ClX.a a0)) (Prod.fst b0)++List.drop (Int.toNat (ClX.b a0)) (Prod.fst b0))
abbrev qCUe (a0:Tar):=((∀(c:Cls),c∈Tar.clauses a0->Ex.sz (Cls.pay c)<=(10000:Nat)/\List.length (Cls.when_ c)+qCUr<=qCUq)/\List.length (qCUc a0)+qCUr<=qCUq)
abbrev qCUf (a0:List Tok×Int×Int):=(↑(List.length (Prod.fst a0)):Int)
abbrev qCUg (a0:Tar×Int×Int):=(Prod.snd (Prod.snd a0) !=qCUb)
abbrev qCUh (a0:ClX) (b0:Int):=(wr IntKind.i64 (ClX.n a0+qCUd)==wr IntKind.i64 (b0+qCUd))
abbrev qCUk (a0:Int) (b0:Tar):=(List.drop (qCU4 a0) (qCUc b0))
abbrev qCUl:=(ByteArray.mk #[(99:UInt8),(108:UInt8),(97:UInt8),(117:UInt8),(115:UInt8),(101:UInt8)])
abbrev qCUm:=(0:Nat)
abbrev qCUo (a0:ClX) (b0:List Nat×Int):=(List.take (Int.toNat (ClX.a a0)) (Prod.fst b0))
abbrev qCUp (a0:ClX) (b0:List Nat×Int):=(List.drop (Int.toNat (ClX.b a0)) (Prod.fst b0))
theorem Z5u (t:Tar) (i k:Int) (b:Bool):Zl E Fcs (vc E Fcs 400) 7 [.agg (encF false .tariffs t),.int false .i64 i,.int false .i64 k] hp0 0 (fun r=>ret E (patch hp0 0 r) r.v (.bool false b))=(
 True/\∀(y:Bool),y=fewT t->((!y)=true->true=b)/\((!y)=false->(decide (i<qCUb)=true->true=b)/\(decide (i<qCUb)=false->(decide (k<=i)=true->true=b)/\(decide (k<=i)=false->(decide (k>=(qCUi t))=true->true=b)/\(decide (k>=(qCUi t))=false->(qCUe t)/\∀(y:List Nat×Int),y=W8 t->((Prod.snd y !=qCUb)=true->(qCUe t)/\∀(y_1:Int),y_1=Yh t->((y_1 !=qCUb)=true->true=b)/\((y_1 !=qCUb)=false->((Prod.snd y==(2:Int))=true->true=b)/\((Prod.snd y==(2:Int))=false->false=b)))/\((Prod.snd y !=qCUb)=false->True/\∀(y_1:List Tok×Int×Int),y_1=Zt (Prod.fst y)->∃(Q:Bool->Prop),(((Prod.snd (Prod.snd y_1) !=qCUb)=true->Q true)/\((Prod.snd (Prod.snd y_1) !=qCUb)=false->(decide ((qCU6 y)>(2000:Int))=true->Q true)/\(decide ((qCU6 y)>(2000:Int))=false->Q false)))/\(Q true->false=b)/\(Q false->(decide ((qCU6 y)>(1968:Int))=true->true=b)/\(decide ((qCU6 y)>(1968:Int))=false->∃(R:ClX->Prop),(∃(x:ClX),R x/\true=true/\(i=i/\k=k/\qCUm=qCUm/\Prod.fst y=Prod.fst y/\(qCU9 y_1)/\(-1:Int)=ClX.n x/\qCUb=ClX.a x/\qCUb=ClX.b x/\qCUb=(qCU8 x)/\True)/\(qCU3 t)/\True)/\∀(x:ClX),R x->(decide ((qCU8 x)<(qCUf y_1))=true->∃(Q:Bool->Prop),(qCUb<=(qCU8 x)/\(qCU8 x)+qCUd<=(qCUf y_1)/\∀(x_1:Tok),(Prod.fst y_1)[Int.toNat (qCU8 x)]? =some x_1->((Tok.text x_1==toL qCUl)=true->Q true)/\((Tok.text x_1==toL qCUl)=false->(((qCU8 x)==wr IntKind.i64 ((qCUf y_1)-qCUd))=true->Q true)/\(((qCU8 x)==wr IntKind.i64 ((qCUf y_1)-qCUd))=false->Q false)))/\(Q true->((wr IntKind.i64 (ClX.n x+qCUd)==k)=true->qCUb<=(qCU8 x)/\(qCU8 x)+qCUd<=(qCUf y_1)/\∀(x_1:Tok),(Prod.fst y_1)[Int.toNat (qCU8 x)]? =some x_1->((qCUh x k)=true->qCUb<=(qCU8 x)/\(qCU8 x)+qCUd<=(qCUf y_1)/\∀(x_2:Tok),(Prod.fst y_1)[Int.toNat (qCU8 x)]? =some x_2->∃(x_3:ClX),R x_3/\x_3.2+qCUr<=x.2/\true=true/\(i=i/\k=k/\qCUm=qCUm/\Prod.fst y=Prod.fst y/\(qCU9 y_1)/\wr IntKind.i64 (ClX.n x+qCUd)=ClX.n x_3/\Tok.at_ x_1=ClX.a x_3/\Tok.at_ x_2=ClX.b x_3/\wr IntKind.i64 ((qCU8 x)+qCUd)=(qCU8 x_3)/\True)/\(qCU3 t)/\True)/\((qCUh x k)=false->∃(x_2:ClX),R x_2/\x_2.2+qCUr<=x.2/\true=true/\(i=i/\k=k/\qCUm=qCUm/\Prod.fst y=Prod.fst y/\(qCU9 y_1)/\wr IntKind.i64 (ClX.n x+qCUd)=ClX.n x_2/\Tok.at_ x_1=ClX.a x_2/\ClX.b x=ClX.b x_2/\wr IntKind.i64 ((qCU8 x)+qCUd)=(qCU8 x_2)/\True)/\(qCU3 t)/\True))/\((wr IntKind.i64 (ClX.n x+qCUd)==k)=false->((qCUh x k)=true->qCUb<=(qCU8 x)/\(qCU8 x)+qCUd<=(qCUf y_1)/\∀(x_1:Tok),(Prod.fst y_1)[Int.toNat (qCU8 x)]? =some x_1->∃(x_2:ClX),R x_2/\x_2.2+qCUr<=x.2/\true=true/\(i=i/\k=k/\qCUm=qCUm/\Prod.fst y=Prod.fst y/\(qCU9 y_1)/\wr IntKind.i64 (ClX.n x+qCUd)=ClX.n x_2/\ClX.a x=ClX.a x_2/\Tok.at_ x_1=ClX.b x_2/\wr IntKind.i64 ((qCU8 x)+qCUd)=(qCU8 x_2)/\True)/\(qCU3 t)/\True)/\((qCUh x k)=false->∃(x_1:ClX),R x_1/\x_1.2+qCUr<=x.2/\true=true/\(i=i/\k=k/\qCUm=qCUm/\Prod.fst y=Prod.fst y/\(qCU9 y_1)/\wr IntKind.i64 (ClX.n x+qCUd)=ClX.n x_1/\ClX.a x=ClX.a x_1/\ClX.b x=ClX.b x_1/\wr IntKind.i64 ((qCU8 x)+qCUd)=(qCU8 x_1)/\True)/\(qCU3 t)/\True)))/\(Q false->∃(x_1:ClX),R x_1/\x_1.2+qCUr<=x.2/\true=true/\(i=i/\k=k/\qCUm=qCUm/\Prod.fst y=Prod.fst y/\(qCU9 y_1)/\ClX.n x=ClX.n x_1/\ClX.a x=ClX.a x_1/\ClX.b x=ClX.b x_1/\wr IntKind.i64 ((qCU8 x)+qCUd)=(qCU8 x_1)/\True)/\(qCU3 t)/\True))/\(decide ((qCU8 x)<(qCUf y_1))=false->∃(Q:Bool->Prop),((decide (ClX.a x<qCUd)=true->Q true)/\(decide (ClX.a x<qCUd)=false->(decide (ClX.b x<=ClX.a x)=true->Q true)/\(decide (ClX.b x<=ClX.a x)=false->Q false)))/\(Q true->false=b)/\(Q false->(qCUb<=k/\k<=(qCUi t))/\
(List.take (Int.toNat k) (qCUc t)= []->(qCUb<=wr IntKind.i64 (k+qCUd)/\wr IntKind.i64 (k+qCUd)<=(qCUi t))/\(List.drop (qCU4 k) (qCUc t)= []->(qCUb<=ClX.a x/\ClX.a x<=(qCU6 y))/\(qCUb<=ClX.b x/\ClX.b x<=(qCU6 y))/\List.length (qCUo x y)+List.length (qCUp x y)<=qCUj/\True/\∀(y_2:Tar×Int×Int),y_2=Yc (qCUa x y)->((qCUg y_2)=true->false=b)/\((qCUg y_2)=false->(qCU2 y_2)/\∀(y_3:Bool),y_3=eqE (Prod.fst y_2) (Tar.mk (Tar.name t) (Tar.for_ t) [])->((!y_3)=true->false=b)/\(qCU1 y_3 k t x y b i)))/\(List.drop (qCU4 k) (qCUc t)≠ []->List.length (qCUk k t)*(112:Nat)<=(140737488355328:Nat)/\(qCUb<=ClX.a x/\ClX.a x<=(qCU6 y))/\(qCUb<=ClX.b x/\ClX.b x<=(qCU6 y))/\List.length (qCUo x y)+List.length (qCUp x y)<=qCUj/\True/\∀(y_2:Tar×Int×Int),y_2=Yc (qCUa x y)->((qCUg y_2)=true->false=b)/\((qCUg y_2)=false->qCUm+List.length (qCUk k t)<=List.length (qCUk k t)/\(qCU2 y_2)/\∀(y_3:Bool),y_3=eqE (Prod.fst y_2) (Tar.mk (Tar.name t) (Tar.for_ t) (List.take (List.length (qCUk k t)) (List.drop qCUm (qCUk k t))))->((!y_3)=true->false=b)/\(qCU1 y_3 k t x y b i))))/\(List.take (Int.toNat k) (qCUc t)≠ []->List.length (qCU5 k t)*(112:Nat)<=(140737488355328:Nat)/\(qCUb<=wr IntKind.i64 (k+qCUd)/\wr IntKind.i64 (k+qCUd)<=(qCUi t))/\(List.drop (qCU4 k) (qCUc t)= []->(qCUb<=ClX.a x/\ClX.a x<=(qCU6 y))/\(qCUb<=ClX.b x/\ClX.b x<=(qCU6 y))/\List.length (qCUo x y)+List.length (qCUp x y)<=qCUj/\True/\∀(y_2:Tar×Int×Int),y_2=Yc (qCUa x y)->((qCUg y_2)=true->false=b)/\((qCUg y_2)=false->qCUm+List.length (qCU5 k t)<=List.length (qCU5 k t)/\(qCU2 y_2)/\∀(y_3:Bool),y_3=eqE (Prod.fst y_2) (Tar.mk (Tar.name t) (Tar.for_ t) (List.take (List.length (qCU5 k t)) (List.drop qCUm (qCU5 k t))))->((!y_3)=true->false=b)/\(qCU1 y_3 k t x y b i)))/\(List.drop (qCU4 k) (qCUc t)≠ []->(List.length (qCU5 k t)<=List.length (qCU5 k t)/\qCUm<=List.length (qCU5 k t)/\(List.length (qCU5 k t)+List.length (qCUk k t))*(112:Nat)<=(140737488355328:Nat))/\(qCUb<=ClX.a x/\ClX.a x<=(qCU6 y))/\(qCUb<=ClX.b x/\ClX.b x<=(qCU6 y))/\List.length (qCUo x y)+List.length (qCUp x y)<=qCUj/\True/\∀(y_2:Tar×Int×Int),y_2=Yc (qCUa x y)->((qCUg y_2)=true->false=b)/\((qCUg y_2)=false->qCUm+(List.length (qCU5 k t)+List.length (qCUk k t))<=List.length (List.take (List.length (qCU5 k t)) (qCU5 k t)++List.drop (qCU4 k) (qCUc t))/\(qCU2 y_2)/\∀(y_3:Bool),y_3=eqE (Prod.fst y_2) (Tar.mk (Tar.name t) (Tar.for_ t) (List.take (List.length (qCU5 k t)+List.length (qCUk k t)) (List.drop qCUm (List.take (List.length (qCU5 k t)) (qCU5 k t)++List.drop (qCU4 k) (qCUc t)))))->((!y_3)=true->false=b)/\(qCU1 y_3 k t x y b i)))))))))))))):=by kernel_rfl
theorem Z5v (t:Tar) (i k:Int):PureC E 7 [.agg (encF false .tariffs t),.int false .i64 i,.int false .i64 k] (.bool false true):=by
 refine Za E_ok (Zh E_ok Z9h 400) ?_
 rw [Z5u];delta qCUb qCUd qCUj qCUr qCUq qCU2 qCUn qCU7 qCUc qCUi qCU6 qCU1 qCU3 qCU4 qCU5 qCU8 qCU9 qCUa qCUe qCUf qCUg qCUh qCUk qCUl qCUm qCUo qCUp
 simp only [Ym,Z8,Wi,Wj,Wk,beq_iff_eq,bne_iff_ne,beq_eq_false_iff_ne,bne_eq_false_iff_eq,decide_eq_true_eq,decide_eq_false_iff_not,Bool.or_eq_true,Bool.or_eq_false_iff,Bool.not_eq_true',Bool.not_eq_false',Bool.and_eq_true,Bool.and_true,Bool.true_and,Bool.and_eq_false_iff,beq_self_eq_true,Y6,Yx,ne_eq,and_true,true_and,Bool.true_eq_false,Bool.false_eq_true,false_or,or_false,true_implies,imp_self,Int.ofNat_eq_natCast,not_true_eq_false,not_false_eq_true,Decidable.not_not,Cls.eta,forall_eq,eqE_iff,eqE_no]
 refine ⟨fun _=>trivial,fun hf=>⟨fun _=>trivial,fun hi0=>⟨fun _=>trivial,fun hik=>⟨fun _=>trivial,fun hkl=> ?_⟩⟩⟩⟩
 have hs:=Yd3 hf
 refine ⟨hs,fun he=>⟨hs,fun _=>trivial,fun hc=>⟨fun _=>trivial,fun h2=> ?_⟩⟩,fun he=> ?_⟩
 · rcases Zm3 hc with ⟨h1,_⟩|h1
   · exact he h1
   · exact h2 (by rw [h1])
 obtain ⟨hc,hl,hp⟩:=Zwm he
 have hw:=Zd1 hc
 have ht:Zt (Z0 (Zw t))=(tkA 0 (Zw t),0,0):=Zls (Zja 0 hw) hl
 have hlen:=Zbk (Z0 (Zw t))
 rw [ht] at hlen
 have hlen:(tkA 0 (Zw t)).length<=2000:=hlen
 rw [hp]
 dsimp only
 rw [ht]
 dsimp only
 refine ⟨fun b=>b=false,⟨fun h=>absurd rfl h,fun _=>⟨fun h=>absurd h (by omega),fun _=>rfl⟩⟩,fun h=>by simp at h,fun _=>⟨fun _=>trivial,fun h68=> ?_⟩⟩
 have e5:toL {data:= #[99,108,97,117,115,101]}=sClause:=rfl
 rw [e5]
 obtain ⟨kk,rfl⟩:∃kk:Nat,k=kk:=⟨k.toNat,by omega⟩
 obtain ⟨ii,rfl⟩:∃ii:Nat,i=ii:=⟨i.toNat,by omega⟩
 have hkC:kk<t.clauses.length:=by omega
 have hiC:ii<kk:=by omega
 have hC64:t.clauses.length<=64:=((Yf t).1 hc).2.2.2.2.1
 have hN:(tkA 0 (Zw t)).length=(Zw t).length:=Zn3 _ _
 have hPC:=Zye t
 refine ⟨fun x=>x.k<=(tkA 0 (Zw t)).length/\∃m:Nat,x.n=(m:Int)-1/\m<=t.clauses.length+1/\(∀q,q<=t.clauses.length->(q<m↔mkP t q<x.k))/\x.a=(if kk<m then ((Z1 ((Zw t).take (mkP t kk))).length:Int) else 0)/\x.b=(if kk+1<m then ((Z1 ((Zw t).take (mkP t (kk+1)))).length:Int) else 0)/\x.r=(tkA 0 (Zw t)).length-x.k,⟨⟨0,(tkA 0 (Zw t)).length,-1,0,0⟩,⟨Nat.zero_le _,0,rfl,Nat.zero_le _,fun q _=>⟨fun h=>absurd h (by omega),fun h=>absurd h (Nat.not_lt_zero _)⟩,rfl,rfl,rfl⟩,rfl,rfl,rfl,rfl⟩,?_⟩
 rintro ⟨j,r,n,a,b⟩ ⟨k1,m,k2,k3,k4,k5,k6,k7⟩
 simp only at k1 k2 k3 k4 k5 k6 k7⊢
 refine And.intro (fun hj=> ?_) (fun hj=> ?_)
 · have hj:j<(tkA 0 (Zw t)).length:=by omega
   obtain ⟨x,hx⟩:∃x,(tkA 0 (Zw t))[j]? =some x:=⟨_,List.getElem?_eq_getElem hj⟩
   have htx:=Zqm 0 hw
   have hwj:(Zw t)[j]? =some x.text:=by
    rw [<-htx,List.getElem?_map,hx];rfl
   have hat:=Ze8 (Zw t) j 0 x hx
   have hmk:=Ydo hc hwj
   have hwr:wr IntKind.i64 (((tkA 0 (Zw t)).length:Int)-1)=((tkA 0 (Zw t)).length:Int)-1:=wr64 (by omega) (by omega)
   have hn1:wr IntKind.i64 (n+1)=(m:Int):=(wr64 (by omega) (by omega)).trans (by omega)
   have hk1:wr IntKind.i64 ((kk:Int)+1)=((kk+1:Nat):Int):=(wr64 (by omega) (by omega)).trans (by omega)
   have hj1:wr IntKind.i64 ((j:Int)+1)=((j+1:Nat):Int):=(wr64 (by omega) (by omega)).trans (by omega)
   rw [hwr,hn1,hk1,hj1]
   have get1:∀{y:Tok},(tkA 0 (Zw t))[((j:Int)).toNat]? =some y->y=x:=fun {y} hy=>by
    have hy:(tkA 0 (Zw t))[j]? =some y:=hy
    rw [hx] at hy;cases hy;rfl
   refine ⟨fun b=>b=true↔(x.text=sClause\/j+1=(Zw t).length),⟨by omega,by omega,fun y hy=> ?_⟩,fun hq=> ?_,fun hq=> ?_⟩
   · rw [get1 hy]
     exact ⟨fun h=>by simp [h],fun h=>⟨fun h2=>by simp;exact .inr (by omega),fun h2=>by simp [h];omega⟩⟩
   · obtain ⟨q,q1,q2⟩:=hmk.1 (hq.1 rfl)
     clear hmk hq
     have hqm:q=m:=by
      rcases Nat.lt_trichotomy q m with h|h|h
      · have:=(k4 q q1).1 h;omega
      · exact h
      · have:=Zre h q1
        have:=(k4 m (by omega)).2 (by omega)
        omega
     subst hqm
     have step:∀q',q'<=t.clauses.length->(q'<q+1↔mkP t q'<j+1):=by
      intro q' hq'
      have:=k4 q' hq'
      rcases Nat.lt_trichotomy q' q with h|h|h
      · have:=this.1 h;exact ⟨fun _=>by omega,fun _=>by omega⟩
      · subst h;exact ⟨fun _=>by omega,fun _=>by omega⟩
      · have:=Zre h hq';exact ⟨fun _=>by omega,fun _=>by omega⟩
     have hxa:x.at_=((Z1 ((Zw t).take (mkP t q))).length:Int):=by rw [hat,q2];omega
     refine And.intro (fun ha=>⟨by omega,by omega,fun y hy=> ?_⟩) (fun ha=> ?_)
     · rw [get1 hy]
       have ha:q=kk:=by omega
       subst ha
       refine And.intro (fun hb=>absurd hb (by omega)) (fun hb=> ?_)
       refine ⟨⟨j+1,(tkA 0 (Zw t)).length-(j+1),(q:Int),x.at_,b⟩,⟨hj,q+1,by dsimp only;omega,by omega,step,?_,?_,rfl⟩,(by dsimp only;omega),rfl,rfl,rfl,rfl⟩
       · dsimp only;rw [if_pos (Nat.lt_succ_self _),hxa]
       · dsimp only;rw [k6,if_neg (by omega),if_neg (by omega)]
     · refine And.intro (fun hb=>⟨by omega,by omega,fun y hy=> ?_⟩) (fun hb=> ?_)
       · rw [get1 hy]
         have hb:q=kk+1:=by omega
         subst hb
         refine ⟨⟨j+1,(tkA 0 (Zw t)).length-(j+1),((kk+1:Nat):Int),a,x.at_⟩,⟨hj,kk+1+1,by dsimp only;omega,by omega,step,?_,?_,rfl⟩,(by dsimp only;omega),rfl,rfl,rfl,rfl⟩
         · dsimp only;rw [k5,if_pos (by omega),if_pos (by omega)]
         · dsimp only;rw [if_pos (Nat.lt_succ_self _),hxa]
       · refine ⟨⟨j+1,(tkA 0 (Zw t)).length-(j+1),(q:Int),a,b⟩,⟨hj,q+1,by dsimp only;omega,by omega,step,?_,?_,rfl⟩,(by dsimp only;omega),rfl,rfl,rfl,rfl⟩
         · dsimp only;rw [k5]
           by_cases h:kk<q
           · rw [if_pos h,if_pos (by omega)]
           · rw [if_neg h,if_neg (by omega)]
         · dsimp only;rw [k6]
           by_cases h:kk+1<q
           · rw [if_pos h,if_pos (by omega)]
           · rw [if_neg h,if_neg (by omega)]
   · have hq:¬(x.text=sClause\/j+1=(Zw t).length):=fun h=>by have:=hq.2 h;cases this
     have hno:∀q,q<=t.clauses.length->mkP t q≠j:=fun q h1 h2=>hq (hmk.2 ⟨q,h1,h2⟩)
     clear hmk hq
     refine ⟨⟨j+1,(tkA 0 (Zw t)).length-(j+1),n,a,b⟩,⟨hj,m,k2,k3,fun q h=> ?_,k5,k6,rfl⟩,(by dsimp only;omega),rfl,rfl,rfl,rfl⟩
     rw [k4 q h]
     have:=hno q h
     show mkP t q<j↔mkP t q<j+1
     omega
 · have hjN:j=(Zw t).length:=by omega
   have hm:m=t.clauses.length+1:=by
    have:=(k4 t.clauses.length (Nat.le_refl _)).2 (by omega)
    omega
   rw [if_pos (by omega)] at k5 k6
   obtain ⟨c,hcc⟩:∃c,t.clauses[kk]? =some c:=⟨_,List.getElem?_eq_getElem hkC⟩
   obtain ⟨d,hd⟩:∃d,t.clauses[ii]? =some d:=⟨_,List.getElem?_eq_getElem (by omega)⟩
   clear k4 k7 k2 k3
   have p1:(Zw t).take (mkP t kk)=preC t kk:=by
    rw [U3 hcc,<-Zrf t kk,List.take_left]
   have p2:(Zw t).take (mkP t (kk+1))=preC t kk++txC c:=by
    rw [U3 hcc,<-List.append_assoc,<-Zyf hcc,List.take_left]
   rw [p1] at k5
   rw [p2,Zfo,List.length_append] at k6
   obtain ⟨R1,hR1⟩:∃R1,txC1 c=c.name::R1:=⟨_,rfl⟩
   have hR:txC1 c++Uf t kk=c.name::(R1++Uf t kk):=by rw [hR1];rfl
   have hs0:Z0 (Zw t)=Z1 (preC t kk)++(Z1 (txC c)++Z0 (Uf t kk)):=Ybe hcc
   have hj1:Z1 (txC c)=sClause++ [32]++(c.name++(32::Z1 R1)):=by
    rw [Ztr,hR1,Xv,Xv]
    simp
   have hAgain:=Znv hc hd hiC hcc (by omega) hR
   have hLess:=Ztv hc hl hcc
   have hRw:Z0 (sClause::d.name::(R1++Uf t kk))=sClause++ [32]++d.name++(32::(Z1 R1++Z0 (Uf t kk))):=by
    rw [X2 (by simp),X2 (by simp [Zb9]),Xf (Zb9 t kk)]
    simp
   rw [hRw] at hAgain
   rw [hs0] at h68⊢
   generalize hA:Z1 (preC t kk)=A at*
   generalize hW:Z0 (Uf t kk)=W at*
   have hal:1<=A.length:=by
    rw [<-hA]
    show 1<=(Z1 (hdW t++_)).length
    unfold hdW
    rw [List.cons_append,Xv]
    have:sTariff.length=6:=rfl
    rw [List.length_append]
    omega
   have hL:=congrArg List.length hj1
   simp only [List.length_append,List.length_cons,List.length_nil] at hL h68
   have s7:sClause.length=6:=rfl
   have a0:a.toNat=A.length:=by omega
   have b0:b.toNat=A.length+(Z1 (txC c)).length:=by omega
   have w1:wr IntKind.i64 ((kk:Int)+1)=((kk+1:Nat):Int):=(wr64 (by omega) (by omega)).trans (by omega)
   have w2:wr IntKind.i64 (a+7)=((A.length+7:Nat):Int):=(wr64 (by omega) (by omega)).trans (by omega)
   have w3:wr IntKind.i64 (((A.length+7:Nat):Int)+(c.name.length:Int))=((A.length+7+c.name.length:Nat):Int):=(wr64 (by omega) (by omega)).trans (by omega)
   have T1:List.take A.length (A++(Z1 (txC c)++W))=A:=List.take_left
   have T2:List.drop (A.length+(Z1 (txC c)).length) (A++(Z1 (txC c)++W))=W:=by
    rw [<-List.append_assoc,<-List.length_append,List.drop_left]
   have T3:List.take (A.length+7) (A++(Z1 (txC c)++W))=A++(sClause++ [32]):=by
    have e:A++(Z1 (txC c)++W)=(A++(sClause++ [32]))++(c.name++(32::Z1 R1)++W):=by rw [hj1];simp
    have e2:A.length+7=(A++(sClause++ [32])).length:=by simp [s7]
    rw [e,e2,List.take_left]
   have T4:List.drop (A.length+7+c.name.length) (A++(Z1 (txC c)++W))=32::(Z1 R1++W):=by
    have e:A++(Z1 (txC c)++W)=(A++(sClause++ [32])++c.name)++(32::(Z1 R1++W)):=by rw [hj1];simp
    have e2:A.length+7+c.name.length=(A++(sClause++ [32])++c.name).length:=by simp [s7];omega
    rw [e,e2,List.drop_left]
   have T5:A++(sClause++ [32])++d.name++32::(Z1 R1++W)=A++(sClause++ [32]++d.name++32::(Z1 R1++W)):=by simp
   have T6:(A++(sClause++ [32])).length=A.length+7:=by simp [s7]
   have hsm:=(Z0v (A++W)).one
   rw [hLess] at hsm
   simp only [w1,w2,Int.toNat_natCast,a0,b0,T1,T2,T3,hLess,not_true_eq_false,false_implies,true_implies,true_and]
   have hlenS:(A++(Z1 (txC c)++W)).length=A.length+((Z1 (txC c)).length+W.length):=by simp
   have hdn:d.name.length<=32:=(U4 (Zg7 hc d (List.mem_of_getElem? hd))).len
   have tail:∀(x_1:Cls),t.clauses[kk]? =some x_1->(wr IntKind.i64 (((A.length+7:Nat):Int)+(x_1.name.length:Int))>((A++(Z1 (txC c)++W)).length:Int)->False)/\(¬wr IntKind.i64 (((A.length+7:Nat):Int)+(x_1.name.length:Int))>((A++(Z1 (txC c)++W)).length:Int)->((0:Int)<=((A.length+7:Nat):Int)/\((A.length+7:Nat):Int)<=((A++(Z1 (txC c)++W)).length:Int))/\(0:Int)<=(ii:Int)/\(ii:Int)+1<=(t.clauses.length:Int)/\∀(x_2:Cls),t.clauses[ii]? =some x_2->(A++(sClause++ [32])).length+x_2.name.length<=9223372036854775807/\((0:Int)<=wr IntKind.i64 (((A.length+7:Nat):Int)+(x_1.name.length:Int))/\wr IntKind.i64 (((A.length+7:Nat):Int)+(x_1.name.length:Int))<=((A++(Z1 (txC c)++W)).length:Int))/\(A++(sClause++ [32])++x_2.name).length+(List.drop (wr IntKind.i64 (((A.length+7:Nat):Int)+(x_1.name.length:Int))).toNat (A++(Z1 (txC c)++W))).length<=9223372036854775807/\((Yc (A++(sClause++ [32])++x_2.name++List.drop (wr IntKind.i64 (((A.length+7:Nat):Int)+(x_1.name.length:Int))).toNat (A++(Z1 (txC c)++W)))).2.2=161->((Yc (A++(sClause++ [32])++x_2.name++List.drop (wr IntKind.i64 (((A.length+7:Nat):Int)+(x_1.name.length:Int))).toNat (A++(Z1 (txC c)++W)))).2.1=((A.length+7:Nat):Int)->SmT1 (Yc (A++(sClause++ [32])++x_2.name++List.drop (wr IntKind.i64 (((A.length+7:Nat):Int)+(x_1.name.length:Int))).toNat (A++(Z1 (txC c)++W)))).1/\(Yc (A++(sClause++ [32])++x_2.name++List.drop (wr IntKind.i64 (((A.length+7:Nat):Int)+(x_1.name.length:Int))).toNat (A++(Z1 (txC c)++W)))).1={name:= [],for_:=0,clauses:= []})/\(¬(Yc (A++(sClause++ [32])++x_2.name++List.drop (wr IntKind.i64 (((A.length+7:Nat):Int)+(x_1.name.length:Int))).toNat (A++(Z1 (txC c)++W)))).2.1=((A.length+7:Nat):Int)->False))/\(¬(Yc (A++(sClause++ [32])++x_2.name++List.drop (wr IntKind.i64 (((A.length+7:Nat):Int)+(x_1.name.length:Int))).toNat (A++(Z1 (txC c)++W)))).2.2=161->False)):=by
    intro x1 hx1
    rw [hcc] at hx1
    cases hx1
    rw [w3,Int.toNat_natCast,T4]
    refine ⟨fun h=>by omega,fun _=>⟨⟨by omega,by omega⟩,by omega,by omega,fun x2 hx2=> ?_⟩⟩
    rw [hd] at hx2
    cases hx2
    rw [T5,hAgain,T6]
    have e9:((A.length:Int)+7=((A.length+7:Nat):Int)):=by omega
    have e10:(A++(sClause++ [32])++d.name).length=A.length+7+d.name.length:=by rw [List.length_append,T6]
    rw [e10]
    refine ⟨by omega,⟨by omega,by omega⟩,by simp only [List.length_cons,List.length_append];omega,fun _=>⟨fun _=>⟨Ycz,rfl⟩,fun h=>absurd e9 h⟩,fun h=>absurd rfl h⟩
   have tkl:(t.clauses.take kk).length=kk:=by rw [List.length_take];omega
   have dkl:(t.clauses.drop (kk+1)).length=t.clauses.length-(kk+1):=by rw [List.length_drop]
   refine ⟨fun b=>b=false,⟨fun h=>by omega,fun _=>⟨fun h=>by omega,fun _=>rfl⟩⟩,fun h=>by simp at h,fun _=>⟨⟨by omega,by omega⟩,fun e1=>⟨⟨by omega,by omega⟩,fun e2=> ?_,fun e2=> ?_⟩,fun e1=> ?_⟩⟩
   · refine ⟨⟨by omega,by omega⟩,⟨by omega,by omega⟩,by omega,hsm,fun h=>h ?_,fun _=>⟨by omega,by omega,tail⟩⟩
     unfold Zlh
     rw [e1,e2]
     rfl
   · refine ⟨by omega,⟨by omega,by omega⟩,⟨by omega,by omega⟩,by omega,by omega,hsm,fun h=>h ?_,fun _=>⟨by omega,by omega,tail⟩⟩
     unfold Zlh
     rw [e1,List.drop_zero,List.take_length]
     rfl
   · refine ⟨by rw [tkl];omega,⟨by omega,by omega⟩,fun e2=> ?_,fun e2=> ?_⟩
     · refine ⟨⟨by omega,by omega⟩,⟨by omega,by omega⟩,by omega,by omega,hsm,fun h=>h ?_,fun _=>⟨by omega,by omega,tail⟩⟩
       unfold Zlh
       rw [e2,List.drop_zero,List.take_length,List.append_nil]
     · refine ⟨⟨Nat.le_refl _,Nat.zero_le _,by rw [tkl,dkl];omega⟩,⟨by omega,by omega⟩,⟨by omega,by omega⟩,by omega,by simp,hsm,fun h=>h ?_,fun _=>⟨by omega,by omega,tail⟩⟩
       unfold Zlh
       rw [List.drop_zero,List.take_length,<-List.length_append,List.take_length]
end
end Go.Proofs.YtbepgmadijomjaaGreatDoor
