/- Merged texts: TpI, TcZ, TcPs, TcPq, EngZP, TcR, TcS, TcVb, TtV, TtWt, TcO, TcP, TcPt, TcOpen. -/
import Derived.Lib.ItoaNum
import Derived.Lib.AtoiTie
import Derived.Test.YtpmkapclhlmbbaaGreatDoorMe
noncomputable section
namespace Go.Proofs.YtpmkapclhlmbbaaGreatDoor
set_option linter.unusedVariables false
set_option linter.unusedSimpArgs false
set_option linter.unnecessarySimpa false
set_option maxRecDepth 100000
section
open Go
theorem Znc (w:World):Ext w w:=⟨rfl,rfl,rfl,Nat.le_refl _,fun _ _=>rfl⟩
theorem Zsu (x:Int) (h0:0<=x) (h1:x<=18446744073709551615):PureC E 195 [.int false .u64 x] (.int false .i64 (Lib.bitLen x.toNat)):=by
 refine W7 fun g w vals hd=> ?_
 obtain ⟨u,rfl,hu⟩:=Znp hd
 cases hu
 refine (Any.bits_Len64 Tryz.lays129 x w h0 h1).mono ?_
 rintro e w' ⟨rfl,rfl⟩
 exact ⟨_,rfl,.int _ _ _,Znc _⟩
theorem Z1c (x:Nat) (h:x<=64):PureC E 194 [.int false .i64 x] (.int false .i64 (Lib.l10 x)):=by
 refine W7 fun g w vals hd=> ?_
 obtain ⟨u,rfl,hu⟩:=Znp hd
 cases hu
 refine (Any.internal_strconv_log10Pow2 Tryz.lays317 x h w).mono ?_
 rintro e w' ⟨rfl,rfl⟩
 exact ⟨_,rfl,.int _ _ _,Znc _⟩
theorem Z7e (l:List UInt8):toL ⟨l.toArray⟩=l.map UInt8.toNat:=rfl
theorem Zsv (x:Nat) (h:x<100):PureC E 176 [.int false .i64 x] (.str false ((Lib.decDigits x).map UInt8.toNat)):=by
 refine W7 fun g w vals hd=> ?_
 obtain ⟨u,rfl,hu⟩:=Znp hd
 cases hu
 refine (Any.internal_strconv_small Tryz.lays283 x h w).mono ?_
 rintro e w' ⟨rfl,rfl⟩
 exact ⟨_,rfl,.str _ (Z7e _),Znc _⟩
def dU64:Dc E Int:=dInt .u64
def Z2i:Sum thy:=Vl (dA1 dU64) (fun x=>0<=x.1/\x.1<=18446744073709551615) (fun x=>Lib.bitLen x.1.toNat) fun (y:Nat)=> .int false .i64 y
theorem Zw4:SumOk E 195 Z2i:=Zz E_ok (Zb rfl) fun x h=>Zsu x.1 h.1 h.2
def Sl10:Sum thy:=Vl (dA1 dN) (fun x=>0<=x.1/\x.1<=64) (fun x=>Lib.l10 x.1.toNat) fun (y:Nat)=> .int false .i64 y
theorem Z45:SumOk E 194 Sl10:=Zz E_ok (Zb rfl) fun x h=>by
 have:=Z1c x.1.toNat (by omega)
 rw [show ((x.1.toNat:Nat):Int)=x.1 by omega] at this
 exact this
def Fnd:Fns thy:=addS (addS F0 195 Z2i) 194 Sl10
abbrev qCP1:=(1:Nat)
abbrev qCPf (a0:Nat):=(↑a0:Int)
abbrev qCP2 (a0:Nat):=((qCPf a0)+(1:Int))
abbrev qCP3 (a0:Nat):=((qCPf a0)+(0:Int))
abbrev qCP4:=(0:Nat)
abbrev qCP5:=(↑(qCP4+qCP1+qCP1+qCP1+qCP1+qCP1+qCP1+qCP1+qCP1+qCP1+qCP1+qCP1+qCP1+qCP1+qCP1+qCP1+qCP1+qCP1+qCP1+qCP1):Int)
abbrev qCP6:=(↑(qCP4+qCP1+qCP1+qCP1+qCP1+qCP1+qCP1+qCP1+qCP1+qCP1+qCP1+qCP1+qCP1+qCP1+qCP1+qCP1+qCP1+qCP1+qCP1):Int)
abbrev qCP7:=(↑(qCP4+qCP1+qCP1+qCP1+qCP1+qCP1+qCP1+qCP1+qCP1+qCP1+qCP1+qCP1+qCP1+qCP1+qCP1+qCP1+qCP1+qCP1):Int)
abbrev qCP8:=(↑(qCP4+qCP1+qCP1+qCP1+qCP1+qCP1+qCP1+qCP1+qCP1+qCP1+qCP1+qCP1+qCP1+qCP1+qCP1+qCP1+qCP1):Int)
abbrev qCP9:=(↑(qCP4+qCP1+qCP1+qCP1+qCP1+qCP1+qCP1+qCP1+qCP1+qCP1+qCP1+qCP1+qCP1+qCP1+qCP1+qCP1):Int)
abbrev qCPa:=(↑(qCP4+qCP1+qCP1+qCP1+qCP1+qCP1+qCP1+qCP1+qCP1+qCP1+qCP1+qCP1+qCP1+qCP1+qCP1):Int)
abbrev qCPb:=(↑(qCP4+qCP1+qCP1+qCP1+qCP1+qCP1+qCP1+qCP1+qCP1+qCP1+qCP1+qCP1+qCP1+qCP1):Int)
abbrev qCPc:=(↑(qCP4+qCP1+qCP1+qCP1+qCP1+qCP1+qCP1+qCP1+qCP1+qCP1+qCP1+qCP1+qCP1):Int)
abbrev qCPd:=(↑(qCP4+qCP1+qCP1+qCP1+qCP1+qCP1+qCP1+qCP1+qCP1+qCP1+qCP1+qCP1):Int)
abbrev qCPe:=(↑(qCP4+qCP1+qCP1+qCP1+qCP1+qCP1+qCP1+qCP1+qCP1+qCP1+qCP1):Int)
abbrev qCPg:=(↑(qCP4+qCP1+qCP1+qCP1+qCP1+qCP1+qCP1+qCP1+qCP1+qCP1):Int)
abbrev qCPh:=(↑(qCP4+qCP1+qCP1+qCP1+qCP1+qCP1+qCP1+qCP1+qCP1):Int)
abbrev qCPi:=(↑(qCP4+qCP1+qCP1+qCP1+qCP1+qCP1+qCP1+qCP1):Int)
abbrev qCPj:=(↑(qCP4+qCP1+qCP1+qCP1+qCP1+qCP1+qCP1):Int)
abbrev qCPk:=(↑(qCP4+qCP1+qCP1+qCP1+qCP1+qCP1):Int)
theorem Z46 (u:Int) (v:Int):Zi E Fnd (vc E Fnd 400) 177 [.int false .u64 u] hp0 0 (fun r=>ret E (patch hp0 0 r) r.v (.int false .i64 v))=(
 ((0:Int)<=u/\u<=(18446744073709551615:Int))/\∀(y:Nat),y=Lib.bitLen (Int.toNat u)->((0:Int)<=(qCPf y)/\(qCPf y)<=(64:Int))/\∀(y_1:Nat),y_1=Lib.l10 (Int.toNat (qCPf y))->(0:Int)<=(qCPf y_1)/\(qCPf y_1)+(1:Int)<=(↑(20:Nat):Int)/\(((qCPf y_1)==(↑qCP4:Int))=true->(decide (u>=(1:Int))=true->wr IntKind.i64 (qCP2 y_1)=v)/\(decide (u>=(1:Int))=false->wr IntKind.i64 (qCP3 y_1)=v))/\(((qCPf y_1)==(↑qCP4:Int))=false->(((qCPf y_1)==(↑(qCP4+qCP1):Int))=true->(decide (u>=(10:Int))=true->wr IntKind.i64 (qCP2 y_1)=v)/\(decide (u>=(10:Int))=false->wr IntKind.i64 (qCP3 y_1)=v))/\(((qCPf y_1)==(↑(qCP4+qCP1):Int))=false->(((qCPf y_1)==(↑(qCP4+qCP1+qCP1):Int))=true->(decide (u>=(100:Int))=true->wr IntKind.i64 (qCP2 y_1)=v)/\(decide (u>=(100:Int))=false->wr IntKind.i64 (qCP3 y_1)=v))/\(((qCPf y_1)==(↑(qCP4+qCP1+qCP1):Int))=false->(((qCPf y_1)==(↑(qCP4+qCP1+qCP1+qCP1):Int))=true->(decide (u>=(1000:Int))=true->wr IntKind.i64 (qCP2 y_1)=v)/\(decide (u>=(1000:Int))=false->wr IntKind.i64 (qCP3 y_1)=v))/\(((qCPf y_1)==(↑(qCP4+qCP1+qCP1+qCP1):Int))=false->(((qCPf y_1)==(↑(qCP4+qCP1+qCP1+qCP1+qCP1):Int))=true->(decide (u>=(10000:Int))=true->wr IntKind.i64 (qCP2 y_1)=v)/\(decide (u>=(10000:Int))=false->wr IntKind.i64 (qCP3 y_1)=v))/\(((qCPf y_1)==(↑(qCP4+qCP1+qCP1+qCP1+qCP1):Int))=false->(((qCPf y_1)==qCPk)=true->(decide (u>=(100000:Int))=true->wr IntKind.i64 (qCP2 y_1)=v)/\(decide (u>=(100000:Int))=false->wr IntKind.i64 (qCP3 y_1)=v))/\(((qCPf y_1)==qCPk)=false->(((qCPf y_1)==qCPj)=true->(decide (u>=(1000000:Int))=true->wr IntKind.i64 (qCP2 y_1)=v)/\(decide (u>=(1000000:Int))=false->wr IntKind.i64 (qCP3 y_1)=v))/\(((qCPf y_1)==qCPj)=false->(((qCPf y_1)==qCPi)=true->(decide (u>=(10000000:Int))=true->wr IntKind.i64 (qCP2 y_1)=v)/\(decide (u>=(10000000:Int))=false->wr IntKind.i64 (qCP3 y_1)=v))/\(((qCPf y_1)==qCPi)=false->(((qCPf y_1)==qCPh)=true->(decide (u>=(100000000:Int))=true->wr IntKind.i64 (qCP2 y_1)=v)/\(decide (u>=(100000000:Int))=false->wr IntKind.i64 (qCP3 y_1)=v))/\(((qCPf y_1)==qCPh)=false->(((qCPf y_1)==qCPg)=true->(decide (u>=(1000000000:Int))=true->wr IntKind.i64 (qCP2 y_1)=v)/\(decide (u>=(1000000000:Int))=false->wr IntKind.i64 (qCP3 y_1)=v))/\(((qCPf y_1)==qCPg)=false->(((qCPf y_1)==qCPe)=true->(decide (u>=(10000000000:Int))=true->wr IntKind.i64 (qCP2 y_1)=v)/\(decide (u>=(10000000000:Int))=false->wr IntKind.i64 (qCP3 y_1)=v))/\(((qCPf y_1)==qCPe)=false->(((qCPf y_1)==qCPd)=true->(decide (u>=(100000000000:Int))=true->wr IntKind.i64 (qCP2 y_1)=v)/\(decide (u>=(100000000000:Int))=false->wr IntKind.i64 (qCP3 y_1)=v))/\(((qCPf y_1)==qCPd)=false->(((qCPf y_1)==qCPc)=true->(decide (u>=(1000000000000:Int))=true->wr IntKind.i64 (qCP2 y_1)=v)/\(decide (u>=(1000000000000:Int))=false->wr IntKind.i64 (qCP3 y_1)=v))/\(((qCPf y_1)==qCPc)=false->(((qCPf y_1)==qCPb)=true->(decide (u>=(10000000000000:Int))=true->wr IntKind.i64 (qCP2 y_1)=v)/\(decide (u>=(10000000000000:Int))=false->wr IntKind.i64 (qCP3 y_1)=v))/\(((qCPf y_1)==qCPb)=false->(((qCPf y_1)==qCPa)=true->(decide (u>=(100000000000000:Int))=true->wr IntKind.i64 (qCP2 y_1)=v)/\(decide (u>=(100000000000000:Int))=false->wr IntKind.i64 (qCP3 y_1)=v))/\(((qCPf y_1)==qCPa)=false->(((qCPf y_1)==qCP9)=true->(decide (u>=(1000000000000000:Int))=true->wr IntKind.i64 (qCP2 y_1)=v)/\(decide (u>=(1000000000000000:Int))=false->wr IntKind.i64 (qCP3 y_1)=v))/\(((qCPf y_1)==qCP9)=false->(((qCPf y_1)==qCP8)=true->(decide (u>=(10000000000000000:Int))=true->wr
IntKind.i64 (qCP2 y_1)=v)/\(decide (u>=(10000000000000000:Int))=false->wr IntKind.i64 (qCP3 y_1)=v))/\(((qCPf y_1)==qCP8)=false->(((qCPf y_1)==qCP7)=true->(decide (u>=(100000000000000000:Int))=true->wr IntKind.i64 (qCP2 y_1)=v)/\(decide (u>=(100000000000000000:Int))=false->wr IntKind.i64 (qCP3 y_1)=v))/\(((qCPf y_1)==qCP7)=false->(((qCPf y_1)==qCP6)=true->(decide (u>=(1000000000000000000:Int))=true->wr IntKind.i64 (qCP2 y_1)=v)/\(decide (u>=(1000000000000000000:Int))=false->wr IntKind.i64 (qCP3 y_1)=v))/\(((qCPf y_1)==qCP6)=false->(((qCPf y_1)==qCP5)=true->(decide (u>=(10000000000000000000:Int))=true->wr IntKind.i64 (qCP2 y_1)=v)/\(decide (u>=(10000000000000000000:Int))=false->wr IntKind.i64 (qCP3 y_1)=v))/\(((qCPf y_1)==qCP5)=false->True))))))))))))))))))))):=by kernel_rfl
theorem Z7f:FnsOk E Fnd:=Zc (Zc F0_ok Zw4) Z45
theorem blA:∀f x,Lib.bitLenAux f x<=f
 |0,x=>Nat.le_refl _
 |f+1,x=>by
  unfold Lib.bitLenAux
  split
  · exact Nat.zero_le _
  · have:=blA f (x/2)
    omega
theorem bl64 (x:Nat):Lib.bitLen x<=64:=blA 64 x
theorem Z47 (u:Nat) (h1:1<=u) (h2:u<18446744073709551616):PureC E 177 [.int false .u64 (u:Int)] (.int false .i64 (Lib.nDigits u)):=by
 refine Za E_ok (Ze E_ok Z7f 400) ?_
 rw [Z46];delta qCP1 qCPf qCP2 qCP3 qCP4 qCP5 qCP6 qCP7 qCP8 qCP9 qCPa qCPb qCPc qCPd qCPe qCPg qCPh qCPi qCPj qCPk
 refine ⟨⟨by omega,by omega⟩,fun y hy=> ?_⟩
 have hb:y=Lib.bitLen u:=by rw [hy,show Int.toNat (u:Int)=u by omega]
 obtain ⟨k1,k2⟩:=Lib.numDigits_eq u h1 h2
 have hle:Lib.bitLen u<=64:=bl64 u
 refine ⟨⟨by omega,by omega⟩,fun t ht=> ?_⟩
 have ht:t=Lib.l10 (Lib.bitLen u):=by rw [ht,show Int.toNat (y:Int)=y by omega,hb]
 rw [<-ht] at k1 k2
 generalize Lib.nDigits u=d at*
 clear ht hb hy hle
 refine ⟨by omega,by omega,?_⟩
 have hc:t=0\/t=1\/t=2\/t=3\/t=4\/t=5\/t=6\/t=7\/t=8\/t=9\/t=10\/t=11\/t=12\/t=13\/t=14\/t=15\/t=16\/t=17\/t=18\/t=19:=by omega
 have w:∀n:Int,0<=n->n<=20->wr .i64 n=n:=fun n h0 h1=>wr64 (by omega) (by omega)
 rcases hc with rfl|rfl|rfl|rfl|rfl|rfl|rfl|rfl|rfl|rfl|rfl|rfl|rfl|rfl|rfl|rfl|rfl|rfl|rfl|rfl
 all_goals
  simp
  refine ⟨fun h=> ?_,fun h=> ?_⟩
  · rw [w _ (by decide) (by decide)]
    rw [if_pos (by omega)] at k1
    omega
  · rw [w _ (by decide) (by decide)]
    rw [if_neg (by omega)] at k1
    omega
end
section
open Go
def ndZ (u:Int) (k:Res thy->Prop):List Int->Prop
 | []=>True
 |j::r=>((Lib.nDigits u.toNat:Int)=j->k (quiet [] (.int true .i64 j)))/\ndZ u k r
def SndZ:Sum thy:=fun args _ _ k=>
 match args with
 | [.int _ .u64 u]=>(1<=u/\u<10000000000000000)/\ndZ u k [1,2,3,4,5,6,7,8,9,10,11,12,13,14,15,16]
 |_=>False
def SsmZ:Sum thy:=Vl (dA1 dN) (fun x=>0<=x.1/\x.1<100) (fun x=>(Lib.itoa x.1).map UInt8.toNat) fun y=> .str false y
def FitZ:Fns thy:=addS (addS F0 177 SndZ) 176 SsmZ
def smZ:List Nat:= [48,48,48,49,48,50,48,51,48,52,48,53,48,54,48,55,48,56,48,57,49,48,49,49,49,50,49,51,49,52,49,53,49,54,49,55,49,56,49,57,50,48,50,49,50,50,50,51,50,52,50,53,50,54,50,55,50,56,50,57,51,48,51,49,51,50,51,51,51,52,51,53,51,54,51,55,51,56,51,57,52,48,52,49,52,50,52,51,52,52,52,53,52,54,52,55,52,56,52,57,53,48,53,49,53,50,53,51,53,52,53,53,53,54,53,55,53,56,53,57,54,48,54,49,54,50,54,51,54,52,54,53,54,54,54,55,54,56,54,57,55,48,55,49,55,50,55,51,55,52,55,53,55,54,55,55,55,56,55,57,56,48,56,49,56,50,56,51,56,52,56,53,56,54,56,55,56,56,56,57,57,48,57,49,57,50,57,51,57,52,57,53,57,54,57,55,57,56,57,57]
def pZ (b:Int) (K:Nat->Nat->Prop):Prop:=0<=wr .u32 (b+1)/\wr .u32 (b+1)+1<=(smZ.length:Int)/\∀x:Nat,smZ[(wr .u32 (b+1)).toNat]? =some x->0<=b/\b+1<=(smZ.length:Int)/\∀y:Nat,smZ[b.toNat]? =some y->K (Int.toNat (x:Int)%256) (Int.toNat (y:Int)%256)
def e8Z (u:Int) (L:List Nat) (K:List Nat->Prop):Prop:=
 pZ (wr .u32 (Int.tmod (Int.tmod (wr .u32 (Int.tmod u 100000000)) 10000) 100*2)) fun a b=>
 pZ (wr .u32 (wr .u32 (Int.tdiv (Int.tmod (wr .u32 (Int.tmod u 100000000)) 10000) 100)*2)) fun c d=>
 pZ (wr .u32 (Int.tmod (wr .u32 (Int.tdiv (wr .u32 (Int.tmod u 100000000)) 10000)) 100*2)) fun e f=>
 pZ (wr .u32 (wr .u32 (Int.tdiv (wr .u32 (Int.tdiv (wr .u32 (Int.tmod u 100000000)) 10000)) 100)*2)) fun g h=>K (h::g::f::e::d::c::b::a::L)
def e4Z (v:Int) (L:List Nat) (K:List Nat->Prop):Prop:=
 pZ (wr .u32 (Int.tmod (Int.tmod v 10000) 100*2)) fun a b=>
 pZ (wr .u32 (wr .u32 (Int.tdiv (Int.tmod v 10000) 100)*2)) fun c d=>K (d::c::b::a::L)
def e2Z (v:Int) (L:List Nat) (K:List Nat->Prop):Prop:=pZ (wr .u32 (Int.tmod v 100*2)) fun a b=>K (b::a::L)
def e1Z (v:Int) (L:List Nat) (K:List Nat->Prop):Prop:=K (Int.toNat (wr .u8 (wr .u32 (48+v)))%256::L)
def loZ:Nat->Int->List Nat->(List Nat->Prop)->Prop
 |0,_,L,K=>K L
 |1,v,L,K=>e1Z v L K
 |2,v,L,K=>e2Z v L K
 |3,v,L,K=>e2Z v L fun L=>e1Z (wr .u32 (Int.tdiv v 100)) L K
 |4,v,L,K=>e4Z v L K
 |5,v,L,K=>e4Z v L fun L=>e1Z (wr .u32 (Int.tdiv v 10000)) L K
 |6,v,L,K=>e4Z v L fun L=>e2Z (wr .u32 (Int.tdiv v 10000)) L K
 |7,v,L,K=>e4Z v L fun L=>e2Z (wr .u32 (Int.tdiv v 10000)) L fun L=>e1Z (wr .u32 (Int.tdiv (wr .u32 (Int.tdiv v 10000)) 100)) L K
 |_,_,_,_=>False
def hiZ (j:Nat) (u:Int) (L:List Nat) (K:List Nat->Prop):Prop:=
 if j<8 then loZ j (wr .u32 u) L K
 else e8Z u L fun L=>if j<16 then loZ (j-8) (wr .u32 (wr .u64 (Int.tdiv u 100000000))) L K else e8Z (wr .u64 (Int.tdiv u 100000000)) L K
def finZ (n:Int) (v:List Nat) (L:List Nat):Prop:=(decide (n<0)=true->Int.toNat 45%256::L=v)/\(decide (n<0)=false->L=v)
def allZ (u n:Int) (v:List Nat):List Nat->Prop
 | []=>True
 |j::r=>((Lib.nDigits u.toNat:Int)=j->hiZ j u [] (finZ n v))/\allZ u n v r
def itZ (u n:Int) (v:List Nat):Prop:=(1<=u/\u+1<=10000000000000000)/\allZ u n v [1,2,3,4,5,6,7,8,9,10,11,12,13,14,15,16]
theorem Zss (n:Int) (v:List Nat):Zi E FitZ (vc E FitZ 2000) 68 [.int false .i64 n] hp0 0 (fun r=>ret E (patch hp0 0 r) r.v (.str false v))=(
 ∃(Q:Bool->Prop),((decide (0<=n)=true->(decide (n<100)=true->Q true)/\(decide (n<100)=false->Q false))/\(decide (0<=n)=false->Q false))/\(Q true->(0<=n/\n+1<=100)/\∀(y:List Nat),y=List.map UInt8.toNat (Lib.itoa n)->y=v)/\
  (Q false->(decide (n<0)=true->itZ (wr .u64 (0-wr .u64 n)) n v)/\(decide (n<0)=false->itZ (wr .u64 n) n v))):=by kernel_rfl
theorem Zw1 {u:Int} {k:Res thy->Prop}:∀{l:List Int},ndZ u k l->∀j∈l,(Lib.nDigits u.toNat:Int)=j->k (quiet [] (.int true .i64 j))
 | [],_,j,hj,_=>by cases hj
 |x::r,h,j,hj,e=>by
  rcases List.mem_cons.1 hj with rfl|hj
  · exact h.1 e
  · exact Zw1 h.2 j hj e
theorem Zpj:∀(k u:Nat),u<10^(k+1)->Lib.nDigits u<=k+1
 |0,u,h=>by rw [Lib.nDigits_small (by simpa using h)];exact Nat.le_refl _
 |k+1,u,h=>by
  by_cases h1:u<10
  · rw [Lib.nDigits_small h1];omega
  · rw [Lib.nDigits_big h1]
    rw [Nat.pow_succ] at h
    have:=Zpj k (u/10) (by omega)
    omega
theorem in16 (d:Nat) (h1:1<=d) (h2:d<=16):(d:Int)∈ [(1:Int),2,3,4,5,6,7,8,9,10,11,12,13,14,15,16]:=by
 have:d=1\/d=2\/d=3\/d=4\/d=5\/d=6\/d=7\/d=8\/d=9\/d=10\/d=11\/d=12\/d=13\/d=14\/d=15\/d=16:=by omega
 rcases this with rfl|rfl|rfl|rfl|rfl|rfl|rfl|rfl|rfl|rfl|rfl|rfl|rfl|rfl|rfl|rfl<;>decide
theorem Z41:SumOk E 177 SndZ:=by
 have hS:SumOk E 177 (Vl (dA1 dU64) (fun x=>1<=x.1/\x.1<10000000000000000) (fun x=>Lib.nDigits x.1.toNat) fun (y:Nat)=> .int true .i64 y):=Zz E_ok (Zb rfl) fun x h=>by
  have:=Z47 x.1.toNat (by omega) (by omega)
  rw [show ((x.1.toNat:Nat):Int)=x.1 by omega] at this
  intro g w vals hI hd
  refine (this g w vals hI hd).mono ?_
  rintro en w' ⟨u,he,g',h1,h2,h3⟩
  cases h3
  exact ⟨_,he,g',h1,h2,.int _ _ _⟩
 refine ⟨hS.good,fun args h i k hD hk=> ?_⟩
 unfold SndZ at hk
 split at hk
 case h_2=>exact hk.elim
 rename_i l u
 obtain ⟨⟨h1,h2⟩,hk⟩:=hk
 refine hS.ok _ h i k hD ⟨⟨h1,h2⟩,fun y hy=> ?_⟩
 subst hy
 have hn:=Zpj 15 u.toNat (by show u.toNat<10000000000000000;omega)
 have hp:=Lib.nDigits_pos u.toNat
 refine Zw1 hk _ (in16 _ hp hn) rfl
theorem Z42:SumOk E 176 SsmZ:=Zz E_ok (Zb rfl) fun x h=>by
 have:=Zsv x.1.toNat (by omega)
 rw [show ((x.1.toNat:Nat):Int)=x.1 by omega] at this
 have e:Lib.itoa x.1=Lib.decDigits x.1.toNat:=by unfold Lib.itoa;rw [if_neg (by omega)]
 rw [e]
 exact this
theorem Z43:FnsOk E FitZ:=Zc (Zc F0_ok Z41) Z42
def smVZ (i:Nat):Nat:=if i%2=0 then 48+i/2/10 else 48+i/2%10
theorem Zw2:∀i,i<200->smZ[i]? =some (smVZ i):=by decide+kernel
theorem Z44:smZ.length=200:=by decide+kernel
theorem Z7c (x:Int):wr .u64 x=x%18446744073709551616:=rfl
theorem Zb5 (x:Int):wr .u32 x=x%4294967296:=rfl
theorem wuZ8 (x:Int):wr .u8 x=x%256:=rfl
theorem Znb {m:Nat} (hm:m<100) {b:Int} (hb:b=((m*2:Nat):Int)) {K:Nat->Nat->Prop} (h:K (48+m%10) (48+m/10)):pZ b K:=by
 have e1:wr .u32 (b+1)=((m*2+1:Nat):Int):=by rw [Zb5];omega
 unfold pZ
 rw [e1,Z44,Int.toNat_natCast]
 refine ⟨by omega,by omega,fun x hx=>⟨by omega,by omega,fun y hy=> ?_⟩⟩
 rw [Zw2 _ (by omega)] at hx
 rw [hb,Int.toNat_natCast,Zw2 _ (by omega)] at hy
 cases hx
 cases hy
 rw [Int.toNat_natCast,Int.toNat_natCast]
 have a1:smVZ (m*2+1)%256=48+m%10:=by unfold smVZ;rw [if_neg (by omega)];omega
 have a2:smVZ (m*2)%256=48+m/10:=by unfold smVZ;rw [if_pos (by omega)];omega
 rw [a1,a2]
 exact h
def dgZ (u j:Nat):Nat:=48+u/10^j%10
theorem Z2g (u:Nat) {L:List Nat} {K:List Nat->Prop} (h:K (dgZ u 7::dgZ u 6::dgZ u 5::dgZ u 4::dgZ u 3::dgZ u 2::dgZ u 1::dgZ u 0::L)):e8Z (u:Int) L K:=by
 refine Znb (m:=u%100000000%10000%100) (by omega) (by simp (disch:=omega) only [Zb5,Int.tmod_eq_emod_of_nonneg,Int.tdiv_eq_ediv_of_nonneg];omega) ?_
 refine Znb (m:=u%100000000%10000/100) (by omega) (by simp (disch:=omega) only [Zb5,Int.tmod_eq_emod_of_nonneg,Int.tdiv_eq_ediv_of_nonneg];omega) ?_
 refine Znb (m:=u%100000000/10000%100) (by omega) (by simp (disch:=omega) only [Zb5,Int.tmod_eq_emod_of_nonneg,Int.tdiv_eq_ediv_of_nonneg];omega) ?_
 refine Znb (m:=u%100000000/10000/100) (by omega) (by simp (disch:=omega) only [Zb5,Int.tmod_eq_emod_of_nonneg,Int.tdiv_eq_ediv_of_nonneg];omega) ?_
 refine Eq.mp (congrArg K ?_) h
 simp only [dgZ,List.cons.injEq,and_true,Nat.reducePow]
 repeat' apply And.intro
 all_goals omega
theorem Zpk (v:Nat) {L:List Nat} {K:List Nat->Prop} (h:K (dgZ v 3::dgZ v 2::dgZ v 1::dgZ v 0::L)):e4Z (v:Int) L K:=by
 refine Znb (m:=v%10000%100) (by omega) (by simp (disch:=omega) only [Zb5,Int.tmod_eq_emod_of_nonneg,Int.tdiv_eq_ediv_of_nonneg];omega) ?_
 refine Znb (m:=v%10000/100) (by omega) (by simp (disch:=omega) only [Zb5,Int.tmod_eq_emod_of_nonneg,Int.tdiv_eq_ediv_of_nonneg];omega) ?_
 refine Eq.mp (congrArg K ?_) h
 simp only [dgZ,List.cons.injEq,and_true,Nat.reducePow]
 repeat' apply And.intro
 all_goals omega
theorem Zpl (v:Nat) {L:List Nat} {K:List Nat->Prop} (h:K (dgZ v 1::dgZ v 0::L)):e2Z (v:Int) L K:=by
 refine Znb (m:=v%100) (by omega) (by simp (disch:=omega) only [Zb5,Int.tmod_eq_emod_of_nonneg,Int.tdiv_eq_ediv_of_nonneg];omega) ?_
 refine Eq.mp (congrArg K ?_) h
 simp only [dgZ,List.cons.injEq,and_true,Nat.reducePow]
 repeat' apply And.intro
 all_goals omega
theorem Zpm (v:Nat) (hv:v<10) {L:List Nat} {K:List Nat->Prop} (h:K (dgZ v 0::L)):e1Z (v:Int) L K:=by
 have e:Int.toNat (wr .u8 (wr .u32 (48+(v:Int))))%256=dgZ v 0:=by unfold dgZ;rw [wuZ8,Zb5];simp only [Nat.reducePow];omega
 unfold e1Z
 rw [e]
 exact h
theorem q2Z (v:Nat) (hv:v<10000):wr .u32 (Int.tdiv (v:Int) 100)=((v/100:Nat):Int):=by simp (disch:=omega) only [Zb5,Int.tdiv_eq_ediv_of_nonneg];omega
theorem q4Z (v:Nat) (hv:v<4294967296):wr .u32 (Int.tdiv (v:Int) 10000)=((v/10000:Nat):Int):=by simp (disch:=omega) only [Zb5,Int.tdiv_eq_ediv_of_nonneg];omega
def dlZ (u j:Nat):List Nat:=(List.range j).map fun t=>dgZ u (j-1-t)
theorem Z2h:∀(j:Nat),j<=7->∀(v:Nat),v<10^j->∀{L:List Nat} {K:List Nat->Prop},K (dlZ v j++L)->loZ j (v:Int) L K
 |0,_,v,_,L,K,h=>h
 |1,_,v,hv,L,K,h=>Zpm v (by simpa using hv) h
 |2,_,v,_,L,K,h=>Zpl v h
 |3,_,v,hv,L,K,h=>by
  show e2Z (v:Int) L fun L=>e1Z (wr .u32 (Int.tdiv (v:Int) 100)) L K
  refine Zpl v ?_
  rw [q2Z v (by simp only [Nat.reducePow] at hv;omega)]
  refine Zpm _ (by simp only [Nat.reducePow] at hv;omega) (Eq.mp (congrArg K ?_) h)
  simp only [dlZ,dgZ,List.range,List.range.loop,List.map_cons,List.map_nil,List.cons_append,List.nil_append,List.cons.injEq,and_true,Nat.reduceSub,Nat.reducePow]
  repeat' apply And.intro
  all_goals omega
 |4,_,v,_,L,K,h=>Zpk v h
 |5,_,v,hv,L,K,h=>by
  show e4Z (v:Int) L fun L=>e1Z (wr .u32 (Int.tdiv (v:Int) 10000)) L K
  refine Zpk v ?_
  rw [q4Z v (by simp only [Nat.reducePow] at hv;omega)]
  refine Zpm _ (by simp only [Nat.reducePow] at hv;omega) (Eq.mp (congrArg K ?_) h)
  simp only [dlZ,dgZ,List.range,List.range.loop,List.map_cons,List.map_nil,List.cons_append,List.nil_append,List.cons.injEq,and_true,Nat.reduceSub,Nat.reducePow]
  repeat' apply And.intro
  all_goals omega
 |6,_,v,hv,L,K,h=>by
  show e4Z (v:Int) L fun L=>e2Z (wr .u32 (Int.tdiv (v:Int) 10000)) L K
  refine Zpk v ?_
  rw [q4Z v (by simp only [Nat.reducePow] at hv;omega)]
  refine Zpl _ (Eq.mp (congrArg K ?_) h)
  simp only [dlZ,dgZ,List.range,List.range.loop,List.map_cons,List.map_nil,List.cons_append,List.nil_append,List.cons.injEq,and_true,Nat.reduceSub,Nat.reducePow]
  repeat' apply And.intro
  all_goals omega
 |7,_,v,hv,L,K,h=>by
  show e4Z (v:Int) L fun L=>e2Z (wr .u32 (Int.tdiv (v:Int) 10000)) L fun L=>e1Z (wr .u32 (Int.tdiv (wr .u32 (Int.tdiv (v:Int) 10000)) 100)) L K
  refine Zpk v ?_
  rw [q4Z v (by simp only [Nat.reducePow] at hv;omega)]
  refine Zpl _ ?_
  rw [q2Z _ (by simp only [Nat.reducePow] at hv;omega)]
  refine Zpm _ (by simp only [Nat.reducePow] at hv;omega) (Eq.mp (congrArg K ?_) h)
  simp only [dlZ,dgZ,List.range,List.range.loop,List.map_cons,List.map_nil,List.cons_append,List.nil_append,List.cons.injEq,and_true,Nat.reduceSub,Nat.reducePow]
  repeat' apply And.intro
  all_goals omega
 |j+8,hj,_,_,_,_,_=>by omega
theorem Z8u (u j:Nat):dlZ u (j+8)=dlZ (u/100000000) j++ [dgZ u 7,dgZ u 6,dgZ u 5,dgZ u 4,dgZ u 3,dgZ u 2,dgZ u 1,dgZ u 0]:=by
 unfold dlZ
 rw [List.range_add,List.map_append]
 congr 1
 · refine List.map_congr_left fun t ht=> ?_
   have ht:=List.mem_range.1 ht
   unfold dgZ
   rw [Nat.div_div_eq_div_mul,show (100000000:Nat)=10^8 by decide,<-Nat.pow_add,show 8+(j-1-t)=j+8-1-t by omega]
 · simp only [List.range,List.range.loop,List.map_cons,List.map_nil]
   rw [show j+8-1-(j+0)=7 by omega,show j+8-1-(j+1)=6 by omega,show j+8-1-(j+2)=5 by omega,show j+8-1-(j+3)=4 by omega,show j+8-1-(j+4)=3 by omega,show j+8-1-(j+5)=2 by omega,show j+8-1-(j+6)=1 by omega,show j+8-1-(j+7)=0 by omega]
theorem Z7d (j u:Nat) (hj:j<=16) (hu:u<10^j) (hu2:u<18446744073709551616) {K:List Nat->Prop} (h:K (dlZ u j)):hiZ j (u:Int) [] K:=by
 unfold hiZ
 have e64:wr .u64 (Int.tdiv (u:Int) 100000000)=((u/100000000:Nat):Int):=by simp (disch:=omega) only [Z7c,Int.tdiv_eq_ediv_of_nonneg];omega
 split
 · rename_i h8
   have h7:u<10000000:=Nat.lt_of_lt_of_le hu (Nat.pow_le_pow_right (by decide) (by omega:j<=7))
   rw [show wr .u32 (u:Int)=(u:Int) by rw [Zb5];omega]
   exact Z2h j (by omega) u hu (by rw [List.append_nil];exact h)
 · rename_i h8
   obtain ⟨k,rfl⟩:∃k,j=k+8:=⟨j-8,by omega⟩
   have hd:u/100000000<10^k:=by
    rw [Nat.pow_add] at hu
    exact Nat.div_lt_of_lt_mul (by rw [Nat.mul_comm];exact hu)
   rw [Z8u] at h
   refine Z2g u ?_
   split
   · rename_i h16
     rw [e64,Nat.add_sub_cancel]
     have h7:u/100000000<10000000:=Nat.lt_of_lt_of_le hd (Nat.pow_le_pow_right (by decide) (by omega:k<=7))
     rw [show wr .u32 ((u/100000000:Nat):Int)=((u/100000000:Nat):Int) by rw [Zb5];omega]
     exact Z2h k (by omega) _ hd h
   · obtain rfl:k=8:=by omega
     rw [e64]
     refine Z2g _ ?_
     exact h
theorem Zky (u k:Nat) (h:Lib.nDigits u=k):(Lib.decDigits u).map UInt8.toNat=dlZ u k:=by
 rw [Lib.decDigits_eq,List.map_map,h]
 refine List.map_congr_left fun t _=> ?_
 show (Lib.dg u (k-1-t)).toNat=_
 unfold Lib.dg dgZ
 rw [UInt8.toNat_ofNat']
 omega
theorem Zw3 {u n:Int} {v:List Nat}:∀{l:List Nat},(∀j∈l,Lib.nDigits u.toNat=j->hiZ j u [] (finZ n v))->allZ u n v l
 | [],_=>trivial
 |j::r,h=>⟨fun e=>h j List.mem_cons_self (Int.ofNat.inj e),Zw3 fun i hi=>h i (List.mem_cons_of_mem _ hi)⟩
theorem Zst (u:Nat) (hu:u<10000000000000000):PureC E 68 [.int false .i64 (u:Int)] (.str false (dcI u)):=by
 refine Za E_ok (Ze E_ok Z43 2000) ?_
 rw [Zss]
 have hdec:dcI (u:Int)=(Lib.decDigits u).map UInt8.toNat:=by
  unfold dcI Lib.itoa
  rw [if_neg (by omega)]
  rfl
 by_cases hs:u<100
 · refine ⟨fun b=>b=true,⟨fun _=>⟨fun _=>rfl,fun h=> ?_⟩,fun h=> ?_⟩,fun _=>⟨⟨by omega,by omega⟩,fun y hy=>hy⟩,fun h=>by cases h⟩
   · exact absurd h (by simp;omega)
   · exact absurd h (by simp)
 refine ⟨fun b=>b=false,⟨fun _=>⟨fun h=> ?_,fun _=>rfl⟩,fun _=>rfl⟩,fun h=>(by cases h),fun _=>⟨fun h=> ?_,fun _=> ?_⟩⟩
 · exact absurd h (by simp;omega)
 · exact absurd h (by simp)
 have e64:wr .u64 (u:Int)=u:=by rw [Z7c];omega
 rw [e64]
 refine ⟨⟨by omega,by omega⟩,Zw3 fun j _ hj=> ?_⟩
 rw [Int.toNat_natCast] at hj
 have hp:=Lib.lt_pow_nDigits u
 have hle:=Zpj 15 u hu
 rw [hj] at hp hle
 refine Z7d j u hle hp (by omega) ⟨fun h=> ?_,fun _=> ?_⟩
 · exact absurd h (by simp)
 · rw [hdec,Zky u j hj]
theorem Zpn:SumOk E 68 (Sita 10000000000000000):=Zz E_ok (Zb rfl) fun x h=>by
 have:=Zst x.1.toNat (by omega)
 rw [show ((x.1.toNat:Nat):Int)=x.1 by omega] at this
 exact this
end
section
open Go
theorem Zx0:SumOk E 38 Z7p:=Zs E_ok (Zb (f:=38) rfl) fun x h=>by
 have hf:formedF x.1=true:=h
 have hb:x.1.n<10000000000000000/\x.1.m<10000000000000000:=by
  unfold formedF at hf
  split at hf
  · have:=of_decide_eq_true hf;omega
  · split at hf
    · have:=of_decide_eq_true hf;omega
    · split at hf
      · have:=of_decide_eq_true hf;omega
      · have:=of_decide_eq_true hf;omega
 exact Zc6 Zpn hf hb.1 hb.2
theorem Z2r:FnsOk E FpaZ:=Zt E_ok (Zt E_ok (Zc (Zc (Zc (Zc (Zc (Zc (Zc F0_ok Z1r) Z5g) Z5h) Z5i) Z1b) (Zs E_ok (Zb (f:=34) rfl) fun x _=>V3 x.1)) Zx0) _ _ _) _ _ _
def argsF:List (List Nat)->Nat->Int->Int->Option (Int×Int)
 | [],_,n,m=>some (n,m)
 |w::r,k,n,m=>if (Xn w).2=true then (if k=0 then argsF r (k+1) (Xn w).1 m else argsF r (k+1) n (Xn w).1) else none
def Ze5 (s:List Nat):Option (Ins×List Nat):=match argsF ((splL (cutL s).1).drop 1) 0 0 0 with
 |none=>none
 |some (n,m)=>if (cutL s).2.2=true/\formedF ⟨sixF ((splL (cutL s).1).headD []) nmsL 0,n,m⟩=true/\Yh ⟨sixF ((splL (cutL s).1).headD []) nmsL 0,n,m⟩=(cutL s).1 then some (⟨sixF ((splL (cutL s).1).headD []) nmsL 0,n,m⟩,(cutL s).2.1) else none
def goP:Nat->List Nat->List Ins->List Ins×Int
 |_,[],L=>(L,0)
 |0,_::_,_=>([],4)
 |f+1,c::t,L=>match Ze5 (c::t) with
  |none=>([],4)
  |some (x,r)=>goP f r (L++ [x])
def Yw (s:List Nat):List Ins×Int:=if 4096<cntN s 10 then ([],2) else goP s.length s []
theorem Zc3 (s:List Nat):(cutL s=(s,[],false))\/∃p q,s=p++10::q/\cutL s=(p,q,true):=by
 rcases Wv 10 s 0 with ⟨_,h⟩|⟨p,q,h1,h2,_⟩
 · exact .inl (Zl9 s h)
 · exact .inr ⟨p,q,h1,by rw [h1,Zbw p q h2]⟩
theorem Zgl:∀(s:List Nat) (w:List Nat),w∈splL s->w.length<=s.length
 | [],w,h=>by simp [splL] at h;simp [h]
 |c::r,w,h=>by
  have ih:=Zgl r
  unfold splL at h
  split at h
  · rcases List.mem_cons.1 h with rfl|h
    · simp
    · have:=ih w h;simp;omega
  · split at h
    · rename_i e
      exact absurd e (Zuw r)
    · rename_i w0 ws e
      rcases List.mem_cons.1 h with rfl|h
      · have:=ih w0 (by rw [e];exact List.mem_cons_self);simp;omega
      · have:=ih w (by rw [e];exact List.mem_cons_of_mem _ h);simp;omega
structure PaR (s0:List Nat) (P:List Ins×Int) (z:Bool×PaX):Prop where
 by':∀n∈z.2.s,n<256
 len:z.2.L.length+z.2.s.length<=s0.length
 fu:z.2.s.length<=z.2.r
 run:goP z.2.r z.2.s z.2.L=P
 nil:z.1=false->z.2.L= []
structure PbR (F:List (List Nat)) (x:PbX):Prop where
 kr:x.k+x.r=F.length
 run:argsF (F.drop x.k) x.k x.n x.m=argsF F 0 0 0
theorem Z5m (F:List (List Nat)):PbR F ⟨0,0,0,F.length⟩:=⟨Nat.zero_add _,rfl⟩
theorem Zns {F:List (List Nat)} {x:PbX} (h:PbR F x) {w:List Nat} (hw:F[x.k]? =some w):
 ((Xn w).2=true->x.k=0->PbR F ⟨(Xn w).1,x.m,x.k+1,x.r-1⟩)/\((Xn w).2=true->x.k≠0->PbR F ⟨x.n,(Xn w).1,x.k+1,x.r-1⟩)/\((Xn w).2=false->argsF F 0 0 0=none):=by
 have hd:F.drop x.k=w::F.drop (x.k+1):=by
  obtain ⟨k1,rfl⟩:=gA9.1 hw
  exact List.drop_eq_getElem_cons k1
 have hlt:x.k<F.length:=(gA9.1 hw).1
 have h1:=h.kr
 have h2:=h.run
 rw [hd] at h2
 have h2:(if (Xn w).2=true then (if x.k=0 then argsF (F.drop (x.k+1)) (x.k+1) (Xn w).1 x.m else argsF (F.drop (x.k+1)) (x.k+1) x.n (Xn w).1) else none)=argsF F 0 0 0:=h2
 refine ⟨fun a b=>⟨by show x.k+1+(x.r-1)=_;omega,?_⟩,fun a b=>⟨by show x.k+1+(x.r-1)=_;omega,?_⟩,fun a=> ?_⟩
 · rw [if_pos a,if_pos b] at h2;exact h2
 · rw [if_pos a,if_neg b] at h2;exact h2
 · rw [if_neg (by rw [a];exact Bool.false_ne_true)] at h2;exact h2.symm
theorem Zta {F:List (List Nat)} {x:PbX} (h:PbR F x) (hk:F.length<=x.k):argsF F 0 0 0=some (x.n,x.m):=by
 have h2:=h.run
 rw [List.drop_eq_nil_of_le hk] at h2
 exact h2.symm
theorem Zgm {f : Nat} {s : List Nat} {L : List Ins} {P : List Ins × Int} (hs : s ≠ []) (hf : s.length ≤ f) (h : goP f s L = P) : ∃ g, f = g + 1 ∧ (match Ze5 s with | none => ([], 4) | some (x, r) => goP g r (L ++ [x])) = P := by
  cases s with
  | nil => exact absurd rfl hs
  | cons c t =>
    cases f with
    | zero => simp at hf
    | succ g => exact ⟨g, rfl, h⟩
set_option maxHeartbeats 1000000 in
theorem Ztb (s : List Nat) (hs : ∀ n ∈ s, n < 256) (hl : s.length ≤ 1000000) : PureC E 16 [.str false s] (.tup [.psl Th.ins (Yw s).1 false, .int false .i64 (Yw s).2]) := by
  refine Za E_ok (Ze E_ok Z2r 400) ?_
  rw [Zxr]; delta qEH3 qEHb qEHc qEH9 qEH8 qEHa qEHi qEHe qEHj qEHk qEHl qEHd qEHm qEHn qEHf qEHo qEHh qEH2 qEH1 qEH4 qEHp qEHg qEH5 qEH7 qEH6
  refine ⟨rfl, fun y hy => ⟨fun h => ?_, fun h => ?_⟩⟩
  · have h : (y : Int) > 4096 := of_decide_eq_true h
    have e : Yw s = ([], 2) := if_pos (by omega)
    rw [e]; exact ⟨rfl, rfl, trivial⟩
  have h : ¬ (y : Int) > 4096 := of_decide_eq_false h
  have e : Yw s = goP s.length s [] := if_neg (by omega)
  rw [e]
  generalize hP0 : goP s.length s [] = P
  refine ⟨PaR s P, .inl ⟨⟨s, [], s.length⟩, ⟨hs, by show 0 + s.length ≤ s.length; omega, Nat.le_refl _, hP0, fun _ => rfl⟩, rfl, ⟨rfl, rfl, trivial⟩, trivial⟩, fun x hR => ?_, fun x hR => ?_⟩
  · -- the list is false
    have hlen := hR.len
    have hlen : x.L.length + x.s.length ≤ s.length := hlen
    have hfu : x.s.length ≤ x.r := hR.fu
    have hby : ∀ n ∈ x.s, n < 256 := hR.by'
    refine ⟨fun hne => ?_, fun he => ?_⟩
    · have hne : x.s ≠ [] := by
        intro e
        rw [e] at hne
        exact absurd hne (by decide)
      obtain ⟨g, hg, hP⟩ := Zgm hne hfu hR.run
      have hg : x.r = g + 1 := hg
      have hcl : (∀ n ∈ (cutL x.s).1, n < 256) ∧ (cutL x.s).1.length ≤ x.s.length ∧ ((cutL x.s).2.2 = true → (cutL x.s).2.1.length + 1 ≤ x.s.length) ∧ (∀ n ∈ (cutL x.s).2.1, n < 256) := by
        rcases Zc3 x.s with h | ⟨p, q, h, h2⟩
        · rw [h]; exact ⟨hby, Nat.le_refl _, fun h => Bool.noConfusion h, fun n hn => by cases hn⟩
        · rw [h2]
          have hl : x.s.length = p.length + q.length + 1 := by rw [h]; simp; omega
          exact ⟨fun n hn => hby n (by rw [h]; simp [hn]), by show p.length ≤ _; omega, fun _ => by show q.length + 1 ≤ _; omega, fun n hn => hby n (by rw [h]; simp [hn])⟩
      obtain ⟨ha1, ha2, ha3, ha4⟩ := hcl
      refine ⟨⟨rfl, by omega⟩, fun y1 hy1 => ?_⟩
      subst hy1
      refine ⟨⟨rfl, fun n hn => ha1 n hn, by omega⟩, fun y2 hy2 => ?_⟩
      subst hy2
      have hsl := Zg4 (cutL x.s).1
      have hsm := Zgl (cutL x.s).1
      unfold Ze5 at hP
      generalize hF : splL (cutL x.s).1 = F at hsl hsm hP ⊢
      refine ⟨Int.le_refl _, by omega, fun w hw => ⟨by decide, fun y3 hy3 => ?_⟩⟩
      have hy3 : y3 = sixF w nmsL 0 := hy3
      subst hy3
      have hhd : F.headD [] = w := by
        cases F with
        | nil => simp at hw
        | cons a r => exact Option.some.inj hw
      rw [hhd] at hP
      have e1 : Int.toNat 1 = 1 := rfl
      rw [e1]
      have hsm1 : ∀ w ∈ F.drop 1, w.length ≤ 1000000 := fun w hw => by have := hsm w (List.mem_of_mem_drop hw); omega
      generalize hG : F.drop 1 = G at hP hsm1 ⊢
      have hGl : G.length ≤ 1000000 := by
        have : G.length = F.length - 1 := by rw [← hG, List.length_drop]
        have hc : (cutL x.s).1.count 32 ≤ (cutL x.s).1.length := List.count_le_length
        omega
      refine ⟨⟨by decide, by omega⟩, PbR G, ⟨⟨0, 0, 0, G.length⟩, Z5m G, rfl, ⟨rfl, rfl, rfl, rfl, rfl, ⟨rfl, fun h => h⟩, rfl, rfl, trivial⟩, ⟨rfl, rfl, rfl, trivial⟩, trivial⟩, fun z hz => ⟨fun hk => ?_, fun hk => ?_⟩⟩
      · have hk : (z.k : Int) < (G.length : Int) := of_decide_eq_true hk
        have hkr := hz.kr
        refine ⟨by omega, by omega, fun w1 hw1 => ⟨hsm1 w1 (List.mem_of_getElem? hw1), fun y4 hy4 => ?_⟩⟩
        rw [Int.toNat_natCast] at hw1
        subst hy4
        obtain ⟨s1, s2, s3⟩ := Zns hz hw1
        have ew : wr .i64 ((z.k : Int) + 1) = ((z.k + 1 : Nat) : Int) := by rw [wr64 (by omega) (by omega)]; rfl
        refine ⟨fun ho => ⟨fun h0 => ?_, fun h0 => ?_⟩, fun ho => ?_⟩
        · have h0 : z.k = 0 := by have : (z.k : Int) = 0 := by simpa using h0
                                  omega
          exact ⟨_, s1 ho h0, by show z.r - 1 + 1 ≤ z.r; omega, rfl, ⟨rfl, rfl, rfl, rfl, rfl, ⟨rfl, fun h => h⟩, rfl, ew, trivial⟩, ⟨rfl, rfl, rfl, trivial⟩, trivial⟩
        · have h0 : z.k ≠ 0 := by
            intro e
            rw [e] at h0
            exact absurd h0 (by decide)
          exact ⟨_, s2 ho h0, by show z.r - 1 + 1 ≤ z.r; omega, rfl, ⟨rfl, rfl, rfl, rfl, rfl, ⟨rfl, fun h => h⟩, rfl, ew, trivial⟩, ⟨rfl, rfl, rfl, trivial⟩, trivial⟩
        · rw [s3 ho] at hP
          rw [← hP]
          exact ⟨rfl, rfl, trivial⟩
      · have hk : ¬ (z.k : Int) < (G.length : Int) := of_decide_eq_false hk
        rw [Zta hz (by omega)] at hP
        have hP : (match (if (cutL x.s).2.2 = true ∧ formedF ⟨sixF w nmsL 0, z.n, z.m⟩ = true ∧ Yh ⟨sixF w nmsL 0, z.n, z.m⟩ = (cutL x.s).1 then some ((⟨sixF w nmsL 0, z.n, z.m⟩ : Ins), (cutL x.s).2.1) else none) with | none => ([], 4) | some (x', r) => goP g r (x.L ++ [x'])) = P := hP
        refine ⟨fun c1 => ?_, fun c1 => ⟨trivial, fun c2 => ?_, fun c2 => ⟨?_, fun c3 => ?_, fun c3 => ?_⟩⟩⟩
        · rw [if_neg (fun k => by rw [k.1] at c1; cases c1)] at hP
          rw [← hP]; exact ⟨rfl, rfl, trivial⟩
        · rw [if_neg (fun k => by rw [k.2.1] at c2; cases c2)] at hP
          rw [← hP]; exact ⟨rfl, rfl, trivial⟩
        · simpa using c2
        · rw [if_neg (fun k => by rw [k.2.2] at c3; simp at c3)] at hP
          rw [← hP]; exact ⟨rfl, rfl, trivial⟩
        have c1 : (cutL x.s).2.2 = true := by simpa using c1
        have c2 : formedF ⟨sixF w nmsL 0, z.n, z.m⟩ = true := by simpa using c2
        have c3 : Yh ⟨sixF w nmsL 0, z.n, z.m⟩ = (cutL x.s).1 := by simpa using c3
        rw [if_pos ⟨c1, c2, c3⟩] at hP
        have hP : goP g (cutL x.s).2.1 (x.L ++ [⟨sixF w nmsL 0, z.n, z.m⟩]) = P := hP
        have hq := ha3 c1
        have hq1 : ∀ n ∈ (cutL x.s).2.1, n < 256 := ha4
        have hq3 : (cutL x.s).2.1.length ≤ g := by omega
        refine .inr ⟨⟨(cutL x.s).2.1, [⟨sixF w nmsL 0, z.n, z.m⟩], g⟩, ⟨hq1, ?_, hq3, ?_, fun h => by cases h⟩, ?_, rfl, ⟨rfl, ⟨rfl, rfl, trivial⟩, trivial⟩, ⟨rfl, rfl⟩, trivial⟩
        · show 1 + (cutL x.s).2.1.length ≤ s.length
          omega
        · have hn := hR.nil rfl
          have hn : x.L = [] := hn
          rw [hn] at hP
          exact hP
        · show g + 1 ≤ x.r
          omega
    · have he : x.s = [] := (by simpa using he : x.s = toL (ByteArray.mk #[]))
      have hP := hR.run
      have hP : goP x.r x.s x.L = P := hP
      rw [he] at hP
      have hP : (x.L, (0 : Int)) = P := by rw [← hP]; unfold goP; rfl
      exact ⟨by rw [← hP, hR.nil rfl], by rw [← hP], trivial⟩
  · -- the list is true
    have hlen := hR.len
    have hlen : x.L.length + x.s.length ≤ s.length := hlen
    have hfu : x.s.length ≤ x.r := hR.fu
    have hby : ∀ n ∈ x.s, n < 256 := hR.by'
    refine ⟨fun hne => ?_, fun he => ?_⟩
    · have hne : x.s ≠ [] := by
        intro e
        rw [e] at hne
        exact absurd hne (by decide)
      obtain ⟨g, hg, hP⟩ := Zgm hne hfu hR.run
      have hg : x.r = g + 1 := hg
      have hcl : (∀ n ∈ (cutL x.s).1, n < 256) ∧ (cutL x.s).1.length ≤ x.s.length ∧ ((cutL x.s).2.2 = true → (cutL x.s).2.1.length + 1 ≤ x.s.length) ∧ (∀ n ∈ (cutL x.s).2.1, n < 256) := by
        rcases Zc3 x.s with h | ⟨p, q, h, h2⟩
        · rw [h]; exact ⟨hby, Nat.le_refl _, fun h => Bool.noConfusion h, fun n hn => by cases hn⟩
        · rw [h2]
          have hl : x.s.length = p.length + q.length + 1 := by rw [h]; simp; omega
          exact ⟨fun n hn => hby n (by rw [h]; simp [hn]), by show p.length ≤ _; omega, fun _ => by show q.length + 1 ≤ _; omega, fun n hn => hby n (by rw [h]; simp [hn])⟩
      obtain ⟨ha1, ha2, ha3, ha4⟩ := hcl
      refine ⟨⟨rfl, by omega⟩, fun y1 hy1 => ?_⟩
      subst hy1
      refine ⟨⟨rfl, fun n hn => ha1 n hn, by omega⟩, fun y2 hy2 => ?_⟩
      subst hy2
      have hsl := Zg4 (cutL x.s).1
      have hsm := Zgl (cutL x.s).1
      unfold Ze5 at hP
      generalize hF : splL (cutL x.s).1 = F at hsl hsm hP ⊢
      refine ⟨Int.le_refl _, by omega, fun w hw => ⟨by decide, fun y3 hy3 => ?_⟩⟩
      have hy3 : y3 = sixF w nmsL 0 := hy3
      subst hy3
      have hhd : F.headD [] = w := by
        cases F with
        | nil => simp at hw
        | cons a r => exact Option.some.inj hw
      rw [hhd] at hP
      have e1 : Int.toNat 1 = 1 := rfl
      rw [e1]
      have hsm1 : ∀ w ∈ F.drop 1, w.length ≤ 1000000 := fun w hw => by have := hsm w (List.mem_of_mem_drop hw); omega
      generalize hG : F.drop 1 = G at hP hsm1 ⊢
      have hGl : G.length ≤ 1000000 := by
        have : G.length = F.length - 1 := by rw [← hG, List.length_drop]
        have hc : (cutL x.s).1.count 32 ≤ (cutL x.s).1.length := List.count_le_length
        omega
      refine ⟨⟨by decide, by omega⟩, PbR G, ⟨⟨0, 0, 0, G.length⟩, Z5m G, rfl, ⟨⟨rfl, rfl, trivial⟩, rfl, rfl, rfl, rfl, ⟨rfl, fun h => h⟩, rfl, rfl, trivial⟩, ⟨rfl, rfl, rfl, trivial⟩, ⟨rfl, rfl⟩, trivial⟩, fun z hz => ⟨fun hk => ?_, fun hk => ?_⟩⟩
      · have hk : (z.k : Int) < (G.length : Int) := of_decide_eq_true hk
        have hkr := hz.kr
        refine ⟨by omega, by omega, fun w1 hw1 => ⟨hsm1 w1 (List.mem_of_getElem? hw1), fun y4 hy4 => ?_⟩⟩
        rw [Int.toNat_natCast] at hw1
        subst hy4
        obtain ⟨s1, s2, s3⟩ := Zns hz hw1
        have ew : wr .i64 ((z.k : Int) + 1) = ((z.k + 1 : Nat) : Int) := by rw [wr64 (by omega) (by omega)]; rfl
        refine ⟨fun ho => ⟨fun h0 => ?_, fun h0 => ?_⟩, fun ho => ?_⟩
        · have h0 : z.k = 0 := by have : (z.k : Int) = 0 := by simpa using h0
                                  omega
          exact ⟨_, s1 ho h0, by show z.r - 1 + 1 ≤ z.r; omega, rfl, ⟨⟨rfl, rfl, trivial⟩, rfl, rfl, rfl, rfl, ⟨rfl, fun h => h⟩, rfl, ew, trivial⟩, ⟨rfl, rfl, rfl, trivial⟩, ⟨rfl, rfl⟩, trivial⟩
        · have h0 : z.k ≠ 0 := by
            intro e
            rw [e] at h0
            exact absurd h0 (by decide)
          exact ⟨_, s2 ho h0, by show z.r - 1 + 1 ≤ z.r; omega, rfl, ⟨⟨rfl, rfl, trivial⟩, rfl, rfl, rfl, rfl, ⟨rfl, fun h => h⟩, rfl, ew, trivial⟩, ⟨rfl, rfl, rfl, trivial⟩, ⟨rfl, rfl⟩, trivial⟩
        · rw [s3 ho] at hP
          rw [← hP]
          exact ⟨rfl, rfl, trivial⟩
      · have hk : ¬ (z.k : Int) < (G.length : Int) := of_decide_eq_false hk
        rw [Zta hz (by omega)] at hP
        have hP : (match (if (cutL x.s).2.2 = true ∧ formedF ⟨sixF w nmsL 0, z.n, z.m⟩ = true ∧ Yh ⟨sixF w nmsL 0, z.n, z.m⟩ = (cutL x.s).1 then some ((⟨sixF w nmsL 0, z.n, z.m⟩ : Ins), (cutL x.s).2.1) else none) with | none => ([], 4) | some (x', r) => goP g r (x.L ++ [x'])) = P := hP
        refine ⟨fun c1 => ?_, fun c1 => ⟨trivial, fun c2 => ?_, fun c2 => ⟨?_, fun c3 => ?_, fun c3 => ?_⟩⟩⟩
        · rw [if_neg (fun k => by rw [k.1] at c1; cases c1)] at hP
          rw [← hP]; exact ⟨rfl, rfl, trivial⟩
        · rw [if_neg (fun k => by rw [k.2.1] at c2; cases c2)] at hP
          rw [← hP]; exact ⟨rfl, rfl, trivial⟩
        · simpa using c2
        · rw [if_neg (fun k => by rw [k.2.2] at c3; simp at c3)] at hP
          rw [← hP]; exact ⟨rfl, rfl, trivial⟩
        have c1 : (cutL x.s).2.2 = true := by simpa using c1
        have c2 : formedF ⟨sixF w nmsL 0, z.n, z.m⟩ = true := by simpa using c2
        have c3 : Yh ⟨sixF w nmsL 0, z.n, z.m⟩ = (cutL x.s).1 := by simpa using c3
        rw [if_pos ⟨c1, c2, c3⟩] at hP
        have hP : goP g (cutL x.s).2.1 (x.L ++ [⟨sixF w nmsL 0, z.n, z.m⟩]) = P := hP
        have hq := ha3 c1
        have hq1 : ∀ n ∈ (cutL x.s).2.1, n < 256 := ha4
        have hq3 : (cutL x.s).2.1.length ≤ g := by omega
        refine ⟨⟨Nat.le_refl _, Nat.zero_le _, by omega⟩, fun l' hl' => .inr ⟨⟨(cutL x.s).2.1, x.L ++ [⟨sixF w nmsL 0, z.n, z.m⟩], g⟩, ⟨hq1, ?_, hq3, hP, fun h => by cases h⟩, ?_, rfl, ⟨rfl, ⟨rfl, ?_, trivial⟩, trivial⟩, ⟨?_, rfl⟩, trivial⟩⟩
        · show (x.L ++ [_]).length + (cutL x.s).2.1.length ≤ s.length
          rw [List.length_append]
          show x.L.length + 1 + _ ≤ _
          omega
        · show g + 1 ≤ x.r
          omega
        · rw [List.length_append]; rfl
        · rw [hl', List.take_length]
    · have he : x.s = [] := (by simpa using he : x.s = toL (ByteArray.mk #[]))
      have hP := hR.run
      have hP : goP x.r x.s x.L = P := hP
      rw [he] at hP
      have hP : (x.L, (0 : Int)) = P := by rw [← hP]; unfold goP; rfl
      exact ⟨⟨by omega, by rw [List.take_length, ← hP]⟩, by rw [← hP], trivial⟩
end
section
open Go
theorem Zv4 {l:List UInt8} {n d:Nat} {b:UInt8} (h:Lib.decFrom 0 l=some n) (hb:Lib.digitVal b=some d):Lib.decFrom 0 (l++ [b])=some (n*10+d):=by
 have:=Lib.decFrom_take (l++ [b]) l.length 0 n b d (by rw [List.take_left];exact h) (by simp) hb
 rw [List.take_of_length_le (by simp)] at this
 exact this
theorem Zv5:∀d,d<10->Lib.digitVal (UInt8.ofNat (48+d))=some d:=by decide
theorem Zmw (u:Nat):Lib.decFrom 0 (Lib.decDigits u)=some u:=by
 induction u using Nat.strongRecOn with
 |_ u ih=>
  by_cases h:u<10
  · rw [Lib.decDigits_one h]
    have:=Zv4 (l:= []) (n:=0) rfl (Zv5 u h)
    rw [Nat.zero_mul,Nat.zero_add] at this
    exact this
  · rw [Lib.decDigits,dif_neg h]
    have:=Zv4 (ih (u/10) (by omega)) (Zv5 (u%10) (by omega))
    rw [this]
    congr 1
    omega
theorem Zho {n:Int} (h:0<=n):∀d∈dcI n,48<=d/\d<=57:=by
 intro d hd
 have e:dcI n=dlZ n.toNat (Lib.nDigits n.toNat):=by
  unfold dcI Lib.itoa
  rw [if_neg (by omega),<-Zky _ _ rfl]
 rw [e] at hd
 unfold dlZ at hd
 obtain ⟨t,_,rfl⟩:=List.mem_map.1 hd
 unfold dgZ
 omega
theorem Z0g (u:Nat):Lib.atoi (Lib.decDigits u)=some (u:Int):=by
 have hd:∀b∈Lib.decDigits u,48<=b.toNat/\b.toNat<=57:=by
  intro b hb
  have:=Zho (n:=(u:Int)) (by omega) b.toNat (by
   unfold dcI Lib.itoa
   rw [if_neg (by omega)]
   exact List.mem_map_of_mem hb)
  exact this
 have hf:=Zmw u
 have hp:=Lib.nDigits_pos u
 rw [<-Lib.decDigits_length] at hp
 cases hl:Lib.decDigits u with
 |nil=>rw [hl] at hp;simp at hp
 |cons b r=>
  rw [hl] at hd hf
  have hb:=hd b List.mem_cons_self
  have n45:(b==45)=false:=beq_eq_false_iff_ne.2 fun e=>by subst e;revert hb;decide
  have n43:(b==43)=false:=beq_eq_false_iff_ne.2 fun e=>by subst e;revert hb;decide
  show (if b==45 then _ else if b==43 then _ else (Lib.decNat (b::r)).map fun (m:Nat)=>(m:Int))=_
  rw [n45,n43]
  show (Lib.decNat (b::r)).map (fun (m:Nat)=>(m:Int))=_
  have:Lib.decNat (b::r)=some u:=by unfold Lib.decNat;exact hf
  rw [this];rfl
theorem Zo0 {n:Int} (h0:0<=n) (h1:n<=9007199254740992):Xn (dcI n)=(n,true):=by
 have hi:Lib.itoa n=Lib.decDigits n.toNat:=by unfold Lib.itoa;rw [if_neg (by omega)]
 have hb:(mkS (dcI n)).data.toList=Lib.decDigits n.toNat:=by
  unfold mkS dcI
  rw [hi]
  show (((Lib.decDigits n.toNat).map UInt8.toNat).map UInt8.ofNat).toArray.toList=_
  rw [List.toList_toArray,List.map_map]
  have:(UInt8.ofNat ∘ UInt8.toNat)=id:=funext fun b=>by simp
  rw [this,List.map_id]
 have hle:=Zpj 15 n.toNat (by show n.toNat<10000000000000000;omega)
 have ha:Lib.atoiAll (Lib.decDigits n.toNat)= .ok n:=by
  rw [Lib.atoiAll_short _ (by rw [Lib.decDigits_length];omega),Z0g,Int.toNat_of_nonneg h0]
  rfl
 unfold Xn
 rw [hb,ha]
theorem Z2a:∀k,1<=k->k<=16->sixF (nmsL.getD k []) nmsL 0=(k:Int)/\(∀c∈nmsL.getD k [],c≠10/\c≠32/\c<256):=by
 intro k h1 h2
 have:k=1\/k=2\/k=3\/k=4\/k=5\/k=6\/k=7\/k=8\/k=9\/k=10\/k=11\/k=12\/k=13\/k=14\/k=15\/k=16:=by omega
 rcases this with rfl|rfl|rfl|rfl|rfl|rfl|rfl|rfl|rfl|rfl|rfl|rfl|rfl|rfl|rfl|rfl<;>decide
theorem Zf0 {n:Int} (h:0<=n) {c:Nat} (hc:c<48):c∉dcI n:=fun hm=>by have:=Zho h c hm;omega
theorem Zf1 {x:Ins} (h:formedF x=true):(10∉Yh x)/\(∀c∈Yh x,c<256)/\(splL (Yh x)).headD []=nmsL.getD x.op.toNat []/\argsF ((splL (Yh x)).drop 1) 0 0 0=some (x.n,x.m):=by
 obtain ⟨h1,h2⟩:=Zax h
 obtain ⟨n0,n1,m0,m1⟩:=Zco h
 obtain ⟨_,hn⟩:=Z2a x.op.toNat (by omega) (by omega)
 generalize hN:nmsL.getD x.op.toNat []=N at hn
 have N10:10∉N:=fun hm=>(hn 10 hm).1 rfl
 have N32:32∉N:=fun hm=>(hn 32 hm).2.1 rfl
 have an:=Zo0 n0 n1
 have am:=Zo0 m0 m1
 have bn:∀c∈dcI x.n,c<256:=fun c hc=>by have:=Zho n0 c hc;omega
 have bm:∀c∈dcI x.m,c<256:=fun c hc=>by have:=Zho m0 c hc;omega
 unfold Yh
 rw [hN]
 unfold argK
 split
 · show 10∉N++(32::dcI x.n++32::dcI x.m)/\_
   have e:N++argL x.n x.m 2=N++32::(dcI x.n++32::dcI x.m):=rfl
   rw [e,Zdw N _ N32,Zdw _ _ (Zf0 n0 (by decide)),Zdv _ (Zf0 m0 (by decide))]
   refine ⟨?_,?_,rfl,?_⟩
   · simp only [List.mem_append,List.mem_cons,not_or]
     exact ⟨N10,⟨by decide,Zf0 n0 (by decide)⟩,by decide,Zf0 m0 (by decide)⟩
   · intro c hc
     simp only [List.mem_append,List.mem_cons] at hc
     rcases hc with hc|rfl|hc|rfl|hc
     · exact (hn c hc).2.2
     · decide
     · exact bn c hc
     · decide
     · exact bm c hc
   · show argsF [dcI x.n,dcI x.m] 0 0 0=_
     unfold argsF
     rw [an,if_pos rfl,if_pos rfl]
     unfold argsF
     rw [am,if_pos rfl,if_neg (by decide)]
     rfl
 · split
   · rename_i hop _
     have hm:x.m=0:=by
      unfold formedF at h
      split at h
      · have:=of_decide_eq_true h;omega
      · split at h
        · have:=of_decide_eq_true h;omega
        · have:=of_decide_eq_true h;omega
     have e:N++argL x.n x.m 1=N++32::dcI x.n:=rfl
     rw [e,Zdw N _ N32,Zdv _ (Zf0 n0 (by decide))]
     refine ⟨?_,?_,rfl,?_⟩
     · simp only [List.mem_append,List.mem_cons,not_or]
       exact ⟨N10,by decide,Zf0 n0 (by decide)⟩
     · intro c hc
       simp only [List.mem_append,List.mem_cons] at hc
       rcases hc with hc|rfl|hc
       · exact (hn c hc).2.2
       · decide
       · exact bn c hc
     · show argsF [dcI x.n] 0 0 0=_
       unfold argsF
       rw [an,if_pos rfl,if_pos rfl,hm]
       rfl
   · have hnm:x.n=0/\x.m=0:=by
      unfold formedF at h
      split at h
      · omega
      · split at h
        · omega
        · have:=of_decide_eq_true h;omega
     have e:N++argL x.n x.m 0=N:=List.append_nil _
     rw [e,Zdv N N32,hnm.1,hnm.2]
     exact ⟨N10,fun c hc=>(hn c hc).2.2,rfl,rfl⟩
theorem Zr5 {x:Ins} (h:formedF x=true) (r:List Nat):Ze5 (Yh x++10::r)=some (x,r):=by
 obtain ⟨h1,_,h3,h4⟩:=Zf1 h
 obtain ⟨o1,o2⟩:=Zax h
 unfold Ze5
 rw [Zbw _ _ h1]
 dsimp only
 rw [h4,h3,(Z2a x.op.toNat (by omega) (by omega)).1,Int.toNat_of_nonneg (by omega)]
 dsimp only
 rw [if_pos ⟨rfl,h,rfl⟩]
theorem Zka:∀(c:List Ins) (f:Nat) (L:List Ins),c.all formedF=true->(X2 c).length<=f->goP f (X2 c) L=(L++c,0)
 | [],f,L,_,_=>by
  show goP f [] L=_
  rw [List.append_nil]
  unfold goP
  rfl
 |x::c,f,L,h,hf=>by
  rw [List.all_cons,Bool.and_eq_true] at h
  have e:X2 (x::c)=Yh x++10::X2 c:=by
   show (Yh x++ [10])++X2 c=_
   rw [List.append_assoc];rfl
  rw [e] at hf⊢
  obtain ⟨g,rfl,hg⟩:=Zgm (s:=Yh x++10::X2 c) (L:=L) (by simp) hf rfl
  rw [<-hg,Zr5 h.1]
  dsimp only
  rw [Zka c g (L++ [x]) h.2 (by rw [List.length_append,List.length_cons] at hf;omega),List.append_assoc]
  rfl
theorem Zr6 {s:List Nat} {x:Ins} {r:List Nat} (h:Ze5 s=some (x,r)):formedF x=true/\s=Yh x++10::r:=by
 unfold Ze5 at h
 split at h
 · cases h
 · rename_i n m e
   split at h
   · rename_i hc
     cases h
     refine ⟨hc.2.1,?_⟩
     rcases Zc3 s with h1|⟨p,q,h1,h2⟩
     · rw [h1] at hc;cases hc.1
     · rw [hc.2.2,h2];exact h1
   · cases h
theorem Z2b:∀(f:Nat) (s:List Nat) (L:List Ins),goP f s L=([],4)\/∃l,goP f s L=(L++l,0)/\l.all formedF=true/\s=X2 l
 |f,[],L=> .inr ⟨[],by rw [List.append_nil];unfold goP;rfl,rfl,rfl⟩
 |0,c::t,L=> .inl (by unfold goP;rfl)
 |f+1,c::t,L=>by
  have e:goP (f+1) (c::t) L=match Ze5 (c::t) with|none=>([],4)|some (x,r)=>goP f r (L++ [x]):=rfl
  rw [e]
  cases hs:Ze5 (c::t) with
  |none=>exact .inl rfl
  |some p=>
   obtain ⟨x,r⟩:=p
   obtain ⟨h1,h2⟩:=Zr6 hs
   rcases Z2b f r (L++ [x]) with h3|⟨l,h3,h4,h5⟩
   · exact .inl h3
   · refine .inr ⟨x::l,?_,by rw [List.all_cons,h1,h4];rfl,?_⟩
     · show goP f r (L++ [x])=_
       rw [h3,List.append_assoc];rfl
     · rw [h2,h5]
       show _=(Yh x++ [10])++X2 l
       rw [List.append_assoc];rfl
end
section
open Go.RowKit
section
variable {Y : Thy} {E : Eng Y}
end
end
section
open Go
end
section
open Go
end
section
open Go
end
section
open Go
end
section
open Go
end
section
open Go
end
section
open Go
def Zv3:Sum thy:=sumP (dL2V Zjm Zjm) (fun x=>x.1.length<=1000000000) fun x=> .bool false (Zhs x.1 x.2.1)
theorem Zr4:SumOk E 12 Zv3:=Zs E_ok (Zb (f:=12) rfl) fun x h=>Zsc x.1 x.2.1 h
end
section
open Go
theorem Zzl (c:List Ins):PureC E 15 [.psl .ins c false] (.tup [.str false (Xw c).1,.int false .i64 (Xw c).2]):=
 Zjt c (fun x _ h=>by
  obtain ⟨n0,n1,m0,m1⟩:=Zco h
  exact Zc6 Zpn h (by omega) (by omega)) (fun x _ h=>Zgq h)
def Z6j:Sum thy:=Zxz E (fun _=>none) 10 (dL1V Zjm) (fun _=>True) (fun x=>Xw x.1) fun y=> .tup [.str false y.1,.int false .i64 y.2]
def Z6k:Sum thy:=Vl dStZ (fun x=>(∀n∈x.1,n<256)/\x.1.length<=1000000) (fun x=>Yw x.1) fun y=> .tup [.psl Th.ins y.1 false,.int false .i64 y.2]
theorem Zzm:SumOk E 15 Z6j:=Zih E_ok (Zb (f:=15) rfl) fun x _=>Zzl x.1
theorem Zzn:SumOk E 16 Z6k:=Zz E_ok (Zb (f:=16) rfl) fun x h=>Ztb x.1 h.1 h.2
def Ftr:Fns thy:=Zdf (addS (addS (addS FlC 15 Z6j) 16 Z6k) 12 Zv3)
theorem Z6l (hs:SumOk E 8 Ziy):FnsOk E Ftr:=Up (Zc (Zc (Zc (Z50 hs) Zzm) Zzn) Zr4)
abbrev qEM3 (a0:List Nat×Int):=(Prod.snd a0==(0:Int))
abbrev qEM1 (a0:List Nat×Int) (b0:List Nat) (c0:List Nat×Int) (d0:Bool):=((qEM3 a0)=true->((Prod.fst a0==b0)=true->((qEM3 c0)=true->true=d0)/\((qEM3 c0)=false->((Prod.snd c0==(200:Int))=true->true=d0)/\((Prod.snd c0==(200:Int))=false->false=d0)))/\((Prod.fst a0==b0)=false->false=d0))
abbrev qEM2 (a0:List Ins×Int) (b0:Bool):=((Prod.snd a0 !=(0:Int))=true->(((↑(List.length (Prod.fst a0)):Int)==(0:Int))=true->true=b0)/\(((↑(List.length (Prod.fst a0)):Int)==(0:Int))=false->false=b0))
abbrev qEM4 (a0:List Nat):=((∀(n:Nat),n∈a0->n+(1:Nat)<=(256:Nat))/\List.length a0<=(1000000:Nat))
theorem Zzo (c:List Ins) (s:List Nat) (v:Bool):Zi E Ftr (vc E Ftr 400) 5 [.psl .ins c false,.str false s] hp0 0 (fun r=>ret E (patch hp0 0 r) r.v (.bool false v))=(
 ∃(Q:Bool->Prop),((decide ((↑(List.length c):Int)>(120:Int))=true->Q true)/\(decide ((↑(List.length c):Int)>(120:Int))=false->(decide ((↑(List.length s):Int)>(2000:Int))=true->Q true)/\(decide ((↑(List.length s):Int)>(2000:Int))=false->Q false)))/\(Q true->true=v)/\(Q false->True/\∀(y:List Nat×Int),y=Xw c->((qEM3 y)=true->((∀(n:Nat),n∈Prod.fst y->n+(1:Nat)<=(256:Nat))/\List.length (Prod.fst y)<=(1000000:Nat))/\∀(y_1:List Ins×Int),y_1=Yw (Prod.fst y)->((Prod.snd y_1 !=(0:Int))=true->false=v)/\((Prod.snd y_1 !=(0:Int))=false->List.length (Prod.fst y_1)<=(1000000000:Nat)/\((!Zhs (Prod.fst y_1) c)=true->false=v)/\((!Zhs (Prod.fst y_1) c)=false->(qEM4 s)/\∀(y_2:List Ins×Int),y_2=Yw s->(qEM2 y_2 v)/\((Prod.snd y_2 !=(0:Int))=false->True/\∀(y_3:List Nat×Int),y_3=Xw (Prod.fst y_2)->(qEM1 y_3 s y v)/\((qEM3 y_3)=false->false=v)))))/\((qEM3 y)=false->(qEM4 s)/\∀(y_1:List Ins×Int),y_1=Yw s->(qEM2 y_1 v)/\((Prod.snd y_1 !=(0:Int))=false->True/\∀(y_2:List Nat×Int),y_2=Xw (Prod.fst y_1)->(qEM1 y_2 s y v)/\((qEM3 y_2)=false->false=v))))):=by kernel_rfl
theorem Zq6 (x:Ins) (c:List Ins):X2 (x::c)=Yh x++10::X2 c:=by
 show (Yh x++ [10])++X2 c=_
 rw [List.append_assoc];rfl
theorem Vb:∀(c:List Ins),c.all formedF=true->(X2 c).count 10=c.length/\(∀n∈X2 c,n<256)/\(X2 c).length<=1001*c.length
 | [],_=>⟨rfl,(fun n hn=>absurd hn (List.not_mem_nil)),Nat.le_refl _⟩
 |x::c,h=>by
  rw [List.all_cons,Bool.and_eq_true] at h
  obtain ⟨h1,h2,h3⟩:=Vb c h.2
  obtain ⟨k1,k2,_⟩:=Zf1 h.1
  have k3:=Zgq h.1
  rw [Zq6]
  refine ⟨?_,fun n hn=> ?_,?_⟩
  · rw [List.count_append,List.count_cons_self,List.count_eq_zero.2 k1,h1,List.length_cons];omega
  · rcases List.mem_append.1 hn with hn|hn
    · exact k2 n hn
    · rcases List.mem_cons.1 hn with rfl|hn
      · decide
      · exact h2 n hn
  · rw [List.length_append,List.length_cons,List.length_cons];omega
theorem Zjr {c:List Ins} (h:c.all formedF=true) (hl:c.length<=4096):Yw (X2 c)=(c,0):=by
 obtain ⟨h1,h2,h3⟩:=Vb c h
 unfold Yw
 rw [if_neg (by rw [Zma (by decide) h2,h1];omega),Zka c _ [] h (Nat.le_refl _)]
 rfl
theorem Zg9 {s:List Nat} (hs:∀n∈s,n<256):(∃e,e≠0/\Yw s=([],e))\/∃l,Yw s=(l,0)/\Xw l=(s,0):=by
 unfold Yw
 by_cases h:4096<cntN s 10
 · rw [if_pos h];exact .inl ⟨2,by decide,rfl⟩
 · rw [if_neg h]
   rcases Z2b s.length s [] with e|⟨l,e,h1,h2⟩
   · rw [e];exact .inl ⟨4,by decide,rfl⟩
   · rw [e]
     refine .inr ⟨l,rfl,?_⟩
     obtain ⟨h3,_,_⟩:=Vb l h1
     rw [Zma (by decide) hs,h2,h3] at h
     unfold Xw
     rw [if_neg h,if_pos h1,<-h2]
theorem Zu6 {s:List Nat} (hs:∀n∈s,n<256) {y:List Nat×Int} (hy:y.2=0\/y.2=200) {v:Bool} (hv:v=true) {y1:List Ins×Int} (h1:y1=Yw s):
 ((Prod.snd y1 !=(0:Int))=true->(((↑(List.length (Prod.fst y1)):Int)==(0:Int))=true->true=v)/\(((↑(List.length (Prod.fst y1)):Int)==(0:Int))=false->false=v))/\((Prod.snd y1 !=(0:Int))=false->True/\∀(y2:List Nat×Int),y2=Xw (Prod.fst y1)->((Prod.snd y2==(0:Int))=true->((Prod.fst y2==s)=true->((Prod.snd y==(0:Int))=true->true=v)/\((Prod.snd y==(0:Int))=false->((Prod.snd y==(200:Int))=true->true=v)/\((Prod.snd y==(200:Int))=false->false=v)))/\((Prod.fst y2==s)=false->false=v))/\((Prod.snd y2==(0:Int))=false->false=v)):=by
 subst hv
 subst h1
 rcases Zg9 hs with ⟨e,he,h⟩|⟨l,h,ht⟩
 · rw [h]
   refine ⟨fun _=>⟨fun _=>rfl,fun k=>by simp at k⟩,fun k=>absurd k (by simp [he])⟩
 · rw [h]
   refine ⟨fun k=>absurd k (by simp),fun _=>⟨trivial,fun y2 h2=> ?_⟩⟩
   have h2:y2=Xw l:=h2
   rw [ht] at h2
   subst h2
   refine ⟨fun _=>⟨fun _=>⟨fun _=>rfl,fun k=>⟨fun _=>rfl,fun k2=> ?_⟩⟩,fun k=>absurd k (by simp)⟩,fun k=>absurd k (by simp)⟩
   rcases hy with hy|hy
   · rw [hy] at k;exact absurd k (by decide)
   · rw [hy] at k2;exact absurd k2 (by decide)
theorem Z3w (hsn:SumOk E 8 Ziy) (c:List Ins) (s:List Nat) (hs:∀n∈s,n<256):PureC E 5 [.psl .ins c false,.str false s] (.bool false true):=by
 refine Za E_ok (Ze E_ok (Z6l hsn) 400) ?_
 rw [Zzo];delta qEM3 qEM1 qEM2 qEM4
 refine ⟨fun b=>(b=false->c.length<=120/\s.length<=2000),⟨fun _ h=>Bool.noConfusion h,fun h=>⟨fun _ h=>Bool.noConfusion h,fun h2 _=> ?_⟩⟩,fun _=>rfl,fun hQ=>⟨trivial,fun y hy=> ?_⟩⟩
 · have h:=of_decide_eq_false h
   have h2:=of_decide_eq_false h2
   exact ⟨by omega,by omega⟩
 obtain ⟨hc,hsl⟩:=hQ rfl
 have hsb:∀(n:Nat),n∈s->n+1<=256:=hs
 have hy2:(c.all formedF=true/\y=(X2 c,0))\/y.2=200:=by
  unfold Xw at hy
  rw [if_neg (by omega)] at hy
  split at hy
  · rename_i hf;exact .inl ⟨hf,hy⟩
  · rw [hy];exact .inr rfl
 have hy3:y.2=0\/y.2=200:=by
  rcases hy2 with ⟨_,h⟩|h
  · rw [h];exact .inl rfl
  · exact .inr h
 refine ⟨fun h0=> ?_,fun h0=>⟨⟨hsb,by omega⟩,fun y1 h1=>Zu6 hs hy3 rfl h1⟩⟩
 have h0:y.2=0:=by simpa using h0
 rcases hy2 with ⟨hf,hy2⟩|h
 · obtain ⟨_,f2,f3⟩:=Vb c hf
   rw [hy2]
   refine ⟨⟨f2,by show (X2 c).length<=1000000;omega⟩,fun y1 h1=> ?_⟩
   have h1:y1=Yw (X2 c):=h1
   rw [Zjr hf (by omega)] at h1
   subst h1
   refine ⟨fun k=>Bool.noConfusion (show false=true from k),fun _=>⟨by show c.length<=_;omega,fun k=> ?_,fun _=>⟨⟨hsb,by omega⟩,fun y2 h2=>Zu6 hs (.inl rfl) rfl h2⟩⟩⟩
   have k:(!Zhs c c)=true:=k
   rw [<-Zv9 (rfl:c=c)] at k
   exact Bool.noConfusion k
 · rw [h] at h0;exact absurd h0 (by decide)
end
section
open Go.ChangeShapes Go.WideShapes Go.ChangeAt Go.RowKit
section
variable {H : Type} {enc : TypeId × Value → H} {w : World} {spare : Nat → Bool} {held : Bool}
theorem Zks:Tryz.prog.cellsOf 37=3:=by kernel_rfl
theorem Z8o {cs:List Value} (h:cs.length=3):∃a b c,cs= [a,b,c]:=by
 match cs,h with
 | [a,b,c],_=>exact ⟨a,b,c,rfl⟩
theorem Zkt (fuel:Nat) (cs:List Value) (x:DataW H×List MemPlace) (h:DataW.trod enc Tryz.prog w 0 spare held fuel 37 cs=some x):∃a:Ins,∀(j:Nat) sv,(E.enc Th.ins a)[j]? =some sv->∃v,cs[j]? =some v/\Den E σ0 (gTop w) sv v:=by
 obtain ⟨xs,n,rfl,_,hl,hxl,hf⟩:=DataW.trod_struct Tryz.underlying37 h
 rw [Zks] at hl
 obtain ⟨a,b,c,rfl⟩:=Z8o hl
 have hx3:xs.length=3:=by simpa using hxl
 have h0:=hf 0 _ rfl
 have h1:=hf 1 _ rfl
 have h2:=hf 2 _ rfl
 rw [gB9 (by omega)] at h0 h1 h2
 simp only [List.getElem_toArray,List.getElem_cons_zero,List.getElem_cons_succ,Z09,List.drop_zero,List.drop_succ_cons,List.take_succ_cons,List.take_zero] at h0 h1 h2
 obtain ⟨p,hp,_⟩:=Zl1 Tryz.underlying3 h0
 obtain ⟨q,hq,_⟩:=Zl1 Tryz.underlying3 h1
 obtain ⟨r,hr,_⟩:=Zl1 Tryz.underlying3 h2
 simp only [List.cons.injEq,and_true] at hp hq hr
 subst hp hq hr
 refine ⟨⟨p,q,r⟩,fun j sv hj=> ?_⟩
 match j,hj with
 |0,hj=>cases hj;exact ⟨_,rfl,.int _ _ _⟩
 |1,hj=>cases hj;exact ⟨_,rfl,.int _ _ _⟩
 |2,hj=>cases hj;exact ⟨_,rfl,.int _ _ _⟩
theorem Zwq {r:Reach} {b0:Nat} {v:Value} {d:DataW H} {ps:List MemPlace} (hval:Value.okWide Tryz.prog w r b0 28 v) (h:DataW.Trod enc Tryz.prog w 0 spare held 28 v d ps):∃l:List Ins,Den E σ0 (gTop w) (.psl Th.ins l false) v:=by
 obtain ⟨a,len,cap,rfl⟩:=okWide_slice Tryz.underlying28 hval
 obtain ⟨fuel,h⟩:=h
 obtain ⟨sv,l,h1,h2⟩:=Zl2 (E:=E) (th:=Th.ins) (fun _=>rfl) (by decide) Tryz.underlying28 Zks h (fun n cs' y hy=>Zkt n cs' y hy)
 have h1: [Value.slice a len cap]= [sv]:=h1
 cases h1
 exact ⟨l,h2⟩
end
end
end Go.Proofs.YtpmkapclhlmbbaaGreatDoor
end
