/- Merged texts: TpIa, TpIb, EngZM, TpQ, TpPb, TpPc, TpR, TpPd, TpPe, TpPf, TpPg, TpS, TpT, TpW, TpX. -/
import Derived.Test.YtbepgmadijomjaaGreatDoorMd
namespace Go.Proofs.YtbepgmadijomjaaGreatDoor
set_option linter.unusedVariables false
set_option linter.unusedSimpArgs false
set_option linter.unnecessarySimpa false
set_option maxRecDepth 100000
section
open Go
def ndK (u:Int) (k:Res thy->Prop):List Int->Prop
 | []=>True
 |j::r=>((Lib.nDigits u.toNat:Int)=j->k (Zd [] (.int true .i64 j)))/\ndK u k r
noncomputable def Snd:Sum thy:=fun args _ _ k=>
 match args with
 | [.int _ .u64 u]=>(1<=u/\u<10000000000000)/\ndK u k [1,2,3,4,5,6,7,8,9,10,11,12,13]
 |_=>False
noncomputable def Z20:Sum thy:=Vq (dA1 dN) (fun x=>0<=x.1/\x.1<100) (fun x=>(Lib.itoa x.1).map UInt8.toNat) fun y=> .str false y
noncomputable def Fit:Fns thy:=addS (addS F0 165 Snd) 164 Z20
def smT:List Nat:=
 toL (ByteArray.mk (List.toArray (List.append (List.append [(48:UInt8),(48:UInt8),(48:UInt8),(49:UInt8),(48:UInt8),(50:UInt8),(48:UInt8),(51:UInt8),(48:
 UInt8),(52:UInt8),(48:UInt8),(53:UInt8),(48:UInt8),(54:UInt8),(48:UInt8),(55:UInt8),(48:UInt8),(56:UInt8),(48:UInt8),(57:UInt8),(49:UInt8),(48
 :UInt8),(49:UInt8),(49:UInt8),(49:UInt8),(50:UInt8),(49:UInt8),(51:UInt8),(49:UInt8),(52:UInt8),(49:UInt8),(53:UInt8),(49:UInt8),(54:UInt8),
 (49:UInt8),(55:UInt8),(49:UInt8),(56:UInt8),(49:UInt8),(57:UInt8),(50:UInt8),(48:UInt8),(50:UInt8),(49:UInt8),(50:UInt8),(50:UInt8),(50:
 UInt8),(51:UInt8),(50:UInt8),(52:UInt8)] [(50:UInt8),(53:UInt8),(50:UInt8),(54:UInt8),(50:UInt8),(55:UInt8),(50:UInt8),(56:UInt8),(50:UInt8),(57
 :UInt8),(51:UInt8),(48:UInt8),(51:UInt8),(49:UInt8),(51:UInt8),(50:UInt8),(51:UInt8),(51:UInt8),(51:UInt8),(52:UInt8),(51:UInt8),(53:UInt8),
 (51:UInt8),(54:UInt8),(51:UInt8),(55:UInt8),(51:UInt8),(56:UInt8),(51:UInt8),(57:UInt8),(52:UInt8),(48:UInt8),(52:UInt8),(49:UInt8),(52:
 UInt8),(50:UInt8),(52:UInt8),(51:UInt8),(52:UInt8),(52:UInt8),(52:UInt8),(53:UInt8),(52:UInt8),(54:UInt8),(52:UInt8),(55:UInt8),(52:UInt8),(56
 :UInt8),(52:UInt8),(57:UInt8)]) (List.append [(53:UInt8),(48:UInt8),(53:UInt8),(49:UInt8),(53:UInt8),(50:UInt8),(53:UInt8),(51:UInt8),(53:UInt8),
 (52:UInt8),(53:UInt8),(53:UInt8),(53:UInt8),(54:UInt8),(53:UInt8),(55:UInt8),(53:UInt8),(56:UInt8),(53:UInt8),(57:UInt8),(54:UInt8),(48:
 UInt8),(54:UInt8),(49:UInt8),(54:UInt8),(50:UInt8),(54:UInt8),(51:UInt8),(54:UInt8),(52:UInt8),(54:UInt8),(53:UInt8),(54:UInt8),(54:UInt8),(54
 :UInt8),(55:UInt8),(54:UInt8),(56:UInt8),(54:UInt8),(57:UInt8),(55:UInt8),(48:UInt8),(55:UInt8),(49:UInt8),(55:UInt8),(50:UInt8),(55:UInt8),
 (51:UInt8),(55:UInt8),(52:UInt8)] [(55:UInt8),(53:UInt8),(55:UInt8),(54:UInt8),(55:UInt8),(55:UInt8),(55:UInt8),(56:UInt8),(55:UInt8),(57:
 UInt8),(56:UInt8),(48:UInt8),(56:UInt8),(49:UInt8),(56:UInt8),(50:UInt8),(56:UInt8),(51:UInt8),(56:UInt8),(52:UInt8),(56:UInt8),(53:UInt8),(56
 :UInt8),(54:UInt8),(56:UInt8),(55:UInt8),(56:UInt8),(56:UInt8),(56:UInt8),(57:UInt8),(57:UInt8),(48:UInt8),(57:UInt8),(49:UInt8),(57:UInt8),
 (50:UInt8),(57:UInt8),(51:UInt8),(57:UInt8),(52:UInt8),(57:UInt8),(53:UInt8),(57:UInt8),(54:UInt8),(57:UInt8),(55:UInt8),(57:UInt8),(56:
 UInt8),(57:UInt8),(57:UInt8)]))))
abbrev qCAo:=(0:Int)
abbrev qCA3 (a0:Int):=(wr IntKind.u64 (qCAo-wr IntKind.u64 a0))
abbrev Znc:=(100000000:Int)
abbrev qCA1 (a0:Int):=(wr IntKind.u32 (Int.tmod (qCA3 a0) Znc))
abbrev qCA2 (a0:Int):=(wr IntKind.u32 (Int.tmod (wr IntKind.u64 a0) Znc))
abbrev qCA4:=(10000:Int)
abbrev qCA5:=(↑(List.length smT):Int)
abbrev qCA6:=(100:Int)
abbrev qCA7 (a0:Int):=(wr IntKind.u32 (wr IntKind.u64 (Int.tdiv (wr IntKind.u64 a0) Znc)))
abbrev qCA8:=(256:Nat)
abbrev qCAc:=(2:Int)
abbrev qCA9 (a0:Int):=(wr IntKind.u32 (Int.tdiv (wr IntKind.u32 (Int.tdiv (qCA1 a0) qCA4)) qCA6)*qCAc)
abbrev qCAa (a0:Int):=(wr IntKind.u32 (Int.tdiv (wr IntKind.u32 (Int.tdiv (qCA2 a0) qCA4)) qCA6)*qCAc)
abbrev qCAb (a0:Int):=(wr IntKind.u32 (wr IntKind.u64 (Int.tdiv (qCA3 a0) Znc)))
abbrev qCAd:=(1:Int)
abbrev qCAe (a0:Int):=(wr IntKind.u32 (wr IntKind.u64 a0))
abbrev qCAf (a0:Int):=(wr IntKind.u32 (Int.tdiv (Int.tmod (qCA1 a0) qCA4) qCA6)*qCAc)
abbrev qCAg (a0:Int):=(Int.tmod (wr IntKind.u32 (Int.tdiv (qCA1 a0) qCA4)) qCA6*qCAc)
abbrev qCAh (a0:Int):=(wr IntKind.u32 (Int.tdiv (Int.tmod (qCA2 a0) qCA4) qCA6)*qCAc)
abbrev qCAi (a0:Int):=(Int.tmod (wr IntKind.u32 (Int.tdiv (qCA2 a0) qCA4)) qCA6*qCAc)
abbrev Zk0 (a0:Int):=(wr IntKind.u32 (qCA3 a0))
abbrev qCAj (a0:Int):=(wr IntKind.u32 (Int.tdiv (Int.tmod (Zk0 a0) qCA4) qCA6)*qCAc)
abbrev qCAk (a0:Int):=(Int.tmod (Int.tmod (qCA1 a0) qCA4) qCA6*qCAc)
abbrev qCAl (a0:Int):=(Int.tmod (Int.tmod (qCA2 a0) qCA4) qCA6*qCAc)
abbrev qCAm (a0:Int):=(Int.tmod (Int.tmod (Zk0 a0) qCA4) qCA6*qCAc)
abbrev qCAn (a0:Int):=(wr IntKind.u32 (Int.tdiv (Int.tmod (qCAe a0) qCA4) qCA6)*qCAc)
abbrev qCAp (a0:Int):=(Int.tmod (Int.tmod (qCAe a0) qCA4) qCA6*qCAc)
abbrev qCAq (a0:Int):=(Int.tmod (wr IntKind.u32 (Int.tdiv (Zk0 a0) qCA4)) qCA6*qCAc)
abbrev qCAr (a0:Nat):=(↑a0:Int)
abbrev qCAs (a0:Int):=(wr IntKind.u32 (Int.tdiv (Int.tmod (qCAb a0) qCA4) qCA6)*qCAc)
abbrev qCAt (a0:Int):=(Int.tmod (wr IntKind.u32 (Int.tdiv (qCAe a0) qCA4)) qCA6*qCAc)
abbrev qCAu (a0:Int):=(wr IntKind.u32 (Int.tdiv (Int.tmod (qCA7 a0) qCA4) qCA6)*qCAc)
abbrev qCAv (a0:Int):=(↑(Lib.nDigits (Int.toNat (wr IntKind.u64 a0))):Int)
abbrev qCAw (a0:Int):=(Int.tmod (Zk0 a0) qCA6*qCAc)
abbrev qCAx (a0:Int):=(Int.tmod (Int.tmod (qCAb a0) qCA4) qCA6*qCAc)
abbrev qCAy (a0:Int):=(Int.tmod (Int.tmod (qCA7 a0) qCA4) qCA6*qCAc)
abbrev qCAz (a0:Int):=(↑(Lib.nDigits (Int.toNat (qCA3 a0))):Int)
abbrev Zbw (a0:Int):=(wr IntKind.u32 (qCAk a0)+qCAd)
abbrev Zbx (a0:Int):=(wr IntKind.u32 (qCAf a0)+qCAd)
abbrev Zby (a0:Int):=(wr IntKind.u32 (qCAg a0)+qCAd)
abbrev Zbz (a0:Int):=(wr IntKind.u32 (qCA9 a0)+qCAd)
abbrev Zb0 (a0:Int):=(wr IntKind.u32 (qCAl a0)+qCAd)
abbrev Zb1 (a0:Int):=(wr IntKind.u32 (qCAh a0)+qCAd)
abbrev Zb2 (a0:Int):=(wr IntKind.u32 (qCAi a0)+qCAd)
abbrev Zb3 (a0:Int):=(wr IntKind.u32 (qCAa a0)+qCAd)
abbrev Zcn (a0:Int):=(wr IntKind.u32 (qCAm a0)+qCAd)
abbrev Zco (a0:Int):=(wr IntKind.u32 (qCAj a0)+qCAd)
abbrev Zcp (a0:Int):=(wr IntKind.u32 (qCAp a0)+qCAd)
abbrev Zcq (a0:Int):=(wr IntKind.u32 (qCAn a0)+qCAd)
abbrev Zk1 (a0:Int):=(Int.tmod (qCAb a0) qCA6*qCAc)
abbrev Zk2 (a0:Int):=(Int.tmod (qCAe a0) qCA6*qCAc)
abbrev Zk3 (a0:Int):=(Int.tmod (qCA7 a0) qCA6*qCAc)
abbrev U9:=(48:Int)
abbrev X7:=(45:Int)
abbrev Znd (a0:Int):=(wr IntKind.u32 (Zk1 a0)+qCAd)
abbrev Zne (a0:Int):=(wr IntKind.u32 (Zk2 a0)+qCAd)
abbrev Znf (a0:Int):=(wr IntKind.u32 (Zk3 a0)+qCAd)
abbrev Zng (a0:Int):=(wr IntKind.u32 (qCAw a0)+qCAd)
abbrev Znh (a0:Int):=(wr IntKind.u32 (qCAq a0)+qCAd)
abbrev Zni (a0:Int):=(wr IntKind.u32 (qCAx a0)+qCAd)
abbrev Znj (a0:Int):=(wr IntKind.u32 (qCAs a0)+qCAd)
abbrev Znk (a0:Int):=(wr IntKind.u32 (qCAt a0)+qCAd)
abbrev Znl (a0:Int):=(wr IntKind.u32 (qCAy a0)+qCAd)
abbrev Znm (a0:Int):=(wr IntKind.u32 (qCAu a0)+qCAd)
abbrev Z5o (a0:Int):=(wr IntKind.u8 (wr IntKind.u32 (U9+wr IntKind.u32 (wr IntKind.u64 (Int.tdiv (wr IntKind.u64 a0) Znc)))))
abbrev Z5p (a0:Int):=(wr IntKind.u8 (wr IntKind.u32 (U9+wr IntKind.u32 (Int.tdiv (wr IntKind.u32 (Int.tdiv (Zk0 a0) qCA4)) qCA6))))
abbrev Z5q (a0:Int):=(wr IntKind.u8 (wr IntKind.u32 (U9+wr IntKind.u32 (Int.tdiv (wr IntKind.u32 (Int.tdiv (qCAe a0) qCA4)) qCA6))))
abbrev Zx (a0:Int):=(a0<qCAo)
abbrev Z5r (a0:Int):=(wr IntKind.u8 (wr IntKind.u32 (U9+wr IntKind.u32 (wr IntKind.u64 (Int.tdiv (qCA3 a0) Znc)))))
abbrev Znn (a0:Int):=(wr IntKind.u32 (Zbw a0))
abbrev Zno (a0:Int):=(wr IntKind.u32 (Zbx a0))
abbrev Znp (a0:Int):=(wr IntKind.u32 (Zby a0))
abbrev Znq (a0:Int):=(wr IntKind.u32 (Zbz a0))
abbrev Znr (a0:Int):=(wr IntKind.u32 (Zb0 a0))
abbrev Zns (a0:Int):=(wr IntKind.u32 (Zb1 a0))
abbrev Znt (a0:Int):=(wr IntKind.u32 (Zb2 a0))
abbrev Znu (a0:Int):=(wr IntKind.u32 (Zb3 a0))
abbrev Z5s (a0:Int) (b0:Nat) (c0:Nat) (d0:Nat) (e0:Nat) (f0:Nat) (g0:Nat) (h0:List Nat):=(decide (Zx a0)=true-> [Int.toNat X7%qCA8,Int.toNat (qCAr b0)%qCA8,Int.toNat (qCAr c0)%qCA8,Int.toNat (qCAr d0)%qCA8,Int.toNat (qCAr e0)%qCA8,Int.toNat (qCAr f0)%qCA8,Int.toNat (qCAr g0)%qCA8]=h0)
abbrev Znv (a0:Int):=(wr IntKind.u32 (qCAk a0))
abbrev Znw (a0:Int):=(wr IntKind.u32 (qCAf a0))
abbrev Znx (a0:Int):=(wr IntKind.u32 (qCAg a0))
abbrev Zny (a0:Int):=(wr IntKind.u32 (qCA9 a0))
abbrev Znz (a0:Int):=(wr IntKind.u32 (qCAl a0))
abbrev Zn0 (a0:Int):=(wr IntKind.u32 (qCAh a0))
abbrev Zn1 (a0:Int):=(wr IntKind.u32 (qCAi a0))
abbrev Zn2 (a0:Int):=(wr IntKind.u32 (qCAa a0))
abbrev Z5t (a0:Int):=(wr IntKind.u8 (wr IntKind.u32 (U9+wr IntKind.u32 (Int.tdiv (Zk0 a0) qCA6))))
abbrev Z5u (a0:Int):=(wr IntKind.u8 (wr IntKind.u32 (U9+wr IntKind.u32 (Int.tdiv (Zk0 a0) qCA4))))
abbrev Z5v (a0:Int):=(wr IntKind.u8 (wr IntKind.u32 (U9+wr IntKind.u32 (Int.tdiv (qCAb a0) qCA6))))
abbrev Z5w (a0:Int):=(wr IntKind.u8 (wr IntKind.u32 (U9+wr IntKind.u32 (Int.tdiv (qCAb a0) qCA4))))
abbrev Z5x (a0:Int):=(wr IntKind.u8 (wr IntKind.u32 (U9+wr IntKind.u32 (Int.tdiv (qCAe a0) qCA6))))
abbrev Z5y (a0:Int):=(wr IntKind.u8 (wr IntKind.u32 (U9+wr IntKind.u32 (Int.tdiv (qCAe a0) qCA4))))
abbrev Z5z (a0:Int):=(wr IntKind.u8 (wr IntKind.u32 (U9+wr IntKind.u32 (Int.tdiv (qCA7 a0) qCA6))))
abbrev Z50 (a0:Int):=(wr IntKind.u8 (wr IntKind.u32 (U9+wr IntKind.u32 (Int.tdiv (qCA7 a0) qCA4))))
abbrev Z51 (a0:Int):=(wr IntKind.u8 (wr IntKind.u32 (U9+wr IntKind.u32 (wr IntKind.u64 a0))))
abbrev Z52 (a0:Int) (b0:Nat) (c0:Nat) (d0:Nat) (e0:Nat) (f0:List Nat):=(decide (Zx a0)=true-> [Int.toNat X7%qCA8,Int.toNat (qCAr b0)%qCA8,Int.toNat (qCAr c0)%qCA8,Int.toNat (qCAr d0)%qCA8,Int.toNat (qCAr e0)%qCA8]=f0)
abbrev Z53 (a0:Int) (b0:Nat) (c0:Nat) (d0:Nat) (e0:Nat) (f0:Nat) (g0:Nat) (h0:List Nat):=(decide (Zx a0)=false-> [Int.toNat (qCAr b0)%qCA8,Int.toNat (qCAr c0)%qCA8,Int.toNat (qCAr d0)%qCA8,Int.toNat (qCAr e0)%qCA8,Int.toNat (qCAr f0)%qCA8,Int.toNat (qCAr g0)%qCA8]=h0)
theorem Zxl (n:Int) (v:List Nat):Zk E Fit (vc E Fit 2000) 117 [.int false .i64 n] hp0 0 (fun r=>ret E (patch hp0 0 r) r.v (.str false v))=(
 ∃(Q:Bool->Prop),((decide (qCAo<=n)=true->(decide (n<qCA6)=true->Q true)/\(decide (n<qCA6)=false->Q false))/\(decide (qCAo<=n)=false->Q false))/\(Q true->(qCAo<=n/\n+qCAd<=qCA6)/\∀(y:List Nat),y=List.map UInt8.toNat (Lib.itoa n)->y=v)/\(Q false->(decide (Zx n)=true->(qCAd<=wr IntKind.u64 (qCAo-wr IntKind.u64 n)/\wr IntKind.u64 (qCAo-wr IntKind.u64 n)+qCAd<=(10000000000000:Int))/\((qCAz n)=qCAd->(decide (Zx n)=true-> [Int.toNat X7%qCA8,Int.toNat (wr IntKind.u8 (wr IntKind.u32 (U9+wr IntKind.u32 (qCA3 n))))%qCA8]=v)/\(decide (Zx n)=false-> [Int.toNat (wr IntKind.u8 (wr IntKind.u32 (U9+wr IntKind.u32 (qCA3 n))))%qCA8]=v))/\((qCAz n)=qCAc->qCAo<=wr IntKind.u32 (Zng n)/\wr IntKind.u32 (Zng n)+qCAd<=qCA5/\∀(x:Nat),smT[Int.toNat (wr IntKind.u32 (Zng n))]? =some x->qCAo<=wr IntKind.u32 (qCAw n)/\wr IntKind.u32 (qCAw n)+qCAd<=qCA5/\∀(x_1:Nat),smT[Int.toNat (wr IntKind.u32 (qCAw n))]? =some x_1->(decide (Zx n)=true-> [Int.toNat X7%qCA8,Int.toNat (qCAr x_1)%qCA8,Int.toNat (qCAr x)%qCA8]=v)/\(decide (Zx n)=false-> [Int.toNat (qCAr x_1)%qCA8,Int.toNat (qCAr x)%qCA8]=v))/\((qCAz n)=(3:Int)->qCAo<=wr IntKind.u32 (Zng n)/\wr IntKind.u32 (Zng n)+qCAd<=qCA5/\∀(x:Nat),smT[Int.toNat (wr IntKind.u32 (Zng n))]? =some x->qCAo<=wr IntKind.u32 (qCAw n)/\wr IntKind.u32 (qCAw n)+qCAd<=qCA5/\∀(x_1:Nat),smT[Int.toNat (wr IntKind.u32 (qCAw n))]? =some x_1->(decide (Zx n)=true-> [Int.toNat X7%qCA8,Int.toNat (Z5t n)%qCA8,Int.toNat (qCAr x_1)%qCA8,Int.toNat (qCAr x)%qCA8]=v)/\(decide (Zx n)=false-> [Int.toNat (Z5t n)%qCA8,Int.toNat (qCAr x_1)%qCA8,Int.toNat (qCAr x)%qCA8]=v))/\((qCAz n)=(4:Int)->qCAo<=wr IntKind.u32 (Zcn n)/\wr IntKind.u32 (Zcn n)+qCAd<=qCA5/\∀(x:Nat),smT[Int.toNat (wr IntKind.u32 (Zcn n))]? =some x->qCAo<=wr IntKind.u32 (qCAm n)/\wr IntKind.u32 (qCAm n)+qCAd<=qCA5/\∀(x_1:Nat),smT[Int.toNat (wr IntKind.u32 (qCAm n))]? =some x_1->qCAo<=wr IntKind.u32 (Zco n)/\wr IntKind.u32 (Zco n)+qCAd<=qCA5/\∀(x_2:Nat),smT[Int.toNat (wr IntKind.u32 (Zco n))]? =some x_2->qCAo<=wr IntKind.u32 (qCAj n)/\wr IntKind.u32 (qCAj n)+qCAd<=qCA5/\∀(x_3:Nat),smT[Int.toNat (wr IntKind.u32 (qCAj n))]? =some x_3->(Z52 n x_3 x_2 x_1 x v)/\(decide (Zx n)=false-> [Int.toNat (qCAr x_3)%qCA8,Int.toNat (qCAr x_2)%qCA8,Int.toNat (qCAr x_1)%qCA8,Int.toNat (qCAr x)%qCA8]=v))/\((qCAz n)=(5:Int)->qCAo<=wr IntKind.u32 (Zcn n)/\wr IntKind.u32 (Zcn n)+qCAd<=qCA5/\∀(x:Nat),smT[Int.toNat (wr IntKind.u32 (Zcn n))]? =some x->qCAo<=wr IntKind.u32 (qCAm n)/\wr IntKind.u32 (qCAm n)+qCAd<=qCA5/\∀(x_1:Nat),smT[Int.toNat (wr IntKind.u32 (qCAm n))]? =some x_1->qCAo<=wr IntKind.u32 (Zco n)/\wr IntKind.u32 (Zco n)+qCAd<=qCA5/\∀(x_2:Nat),smT[Int.toNat (wr IntKind.u32 (Zco n))]? =some x_2->qCAo<=wr IntKind.u32 (qCAj n)/\wr IntKind.u32 (qCAj n)+qCAd<=qCA5/\∀(x_3:Nat),smT[Int.toNat (wr IntKind.u32 (qCAj n))]? =some x_3->(decide (Zx n)=true-> [Int.toNat X7%qCA8,Int.toNat (Z5u n)%qCA8,Int.toNat (qCAr x_3)%qCA8,Int.toNat (qCAr x_2)%qCA8,Int.toNat (qCAr x_1)%qCA8,Int.toNat (qCAr x)%qCA8]=v)/\(decide (Zx n)=false-> [Int.toNat (Z5u n)%qCA8,Int.toNat (qCAr x_3)%qCA8,Int.toNat (qCAr x_2)%qCA8,Int.toNat (qCAr x_1)%qCA8,Int.toNat (qCAr x)%qCA8]=v))/\((qCAz n)=(6:Int)->qCAo<=wr IntKind.u32 (Zcn n)/\wr IntKind.u32 (Zcn n)+qCAd<=qCA5/\∀(x:Nat),smT[Int.toNat (wr IntKind.u32 (Zcn n))]? =some x->qCAo<=wr IntKind.u32 (qCAm n)/\wr IntKind.u32 (qCAm n)+qCAd<=qCA5/\∀(x_1:Nat),smT[Int.toNat (wr IntKind.u32 (qCAm n))]? =some x_1->qCAo<=wr IntKind.u32 (Zco n)/\wr IntKind.u32 (Zco n)+qCAd<=qCA5/\∀(x_2:Nat),smT[Int.toNat (wr IntKind.u32
(Zco n))]? =some x_2->qCAo<=wr IntKind.u32 (qCAj n)/\wr IntKind.u32 (qCAj n)+qCAd<=qCA5/\∀(x_3:Nat),smT[Int.toNat (wr IntKind.u32 (qCAj n))]? =some x_3->qCAo<=wr IntKind.u32 (Znh n)/\wr IntKind.u32 (Znh n)+qCAd<=qCA5/\∀(x_4:Nat),smT[Int.toNat (wr IntKind.u32 (Znh n))]? =some x_4->qCAo<=wr IntKind.u32 (qCAq n)/\wr IntKind.u32 (qCAq n)+qCAd<=qCA5/\∀(x_5:Nat),smT[Int.toNat (wr IntKind.u32 (qCAq n))]? =some x_5->(Z5s n x_5 x_4 x_3 x_2 x_1 x v)/\(Z53 n x_5 x_4 x_3 x_2 x_1 x v))/\((qCAz n)=(7:Int)->qCAo<=wr IntKind.u32 (Zcn n)/\wr IntKind.u32 (Zcn n)+qCAd<=qCA5/\∀(x:Nat),smT[Int.toNat (wr IntKind.u32 (Zcn n))]? =some x->qCAo<=wr IntKind.u32 (qCAm n)/\wr IntKind.u32 (qCAm n)+qCAd<=qCA5/\∀(x_1:Nat),smT[Int.toNat (wr IntKind.u32 (qCAm n))]? =some x_1->qCAo<=wr IntKind.u32 (Zco n)/\wr IntKind.u32 (Zco n)+qCAd<=qCA5/\∀(x_2:Nat),smT[Int.toNat (wr IntKind.u32 (Zco n))]? =some x_2->qCAo<=wr IntKind.u32 (qCAj n)/\wr IntKind.u32 (qCAj n)+qCAd<=qCA5/\∀(x_3:Nat),smT[Int.toNat (wr IntKind.u32 (qCAj n))]? =some x_3->qCAo<=wr IntKind.u32 (Znh n)/\wr IntKind.u32 (Znh n)+qCAd<=qCA5/\∀(x_4:Nat),smT[Int.toNat (wr IntKind.u32 (Znh n))]? =some x_4->qCAo<=wr IntKind.u32 (qCAq n)/\wr IntKind.u32 (qCAq n)+qCAd<=qCA5/\∀(x_5:Nat),smT[Int.toNat (wr IntKind.u32 (qCAq n))]? =some x_5->(decide (Zx n)=true-> [Int.toNat X7%qCA8,Int.toNat (Z5p n)%qCA8,Int.toNat (qCAr x_5)%qCA8,Int.toNat (qCAr x_4)%qCA8,Int.toNat (qCAr x_3)%qCA8,Int.toNat (qCAr x_2)%qCA8,Int.toNat (qCAr x_1)%qCA8,Int.toNat (qCAr x)%qCA8]=v)/\(decide (Zx n)=false-> [Int.toNat (Z5p n)%qCA8,Int.toNat (qCAr x_5)%qCA8,Int.toNat (qCAr x_4)%qCA8,Int.toNat (qCAr x_3)%qCA8,Int.toNat (qCAr x_2)%qCA8,Int.toNat (qCAr x_1)%qCA8,Int.toNat (qCAr x)%qCA8]=v))/\((qCAz n)=(8:Int)->qCAo<=wr IntKind.u32 (Zbw n)/\wr IntKind.u32 (Zbw n)+qCAd<=qCA5/\∀(x:Nat),smT[Int.toNat (Znn n)]? =some x->qCAo<=wr IntKind.u32 (qCAk n)/\wr IntKind.u32 (qCAk n)+qCAd<=qCA5/\∀(x_1:Nat),smT[Int.toNat (Znv n)]? =some x_1->qCAo<=wr IntKind.u32 (Zbx n)/\wr IntKind.u32 (Zbx n)+qCAd<=qCA5/\∀(x_2:Nat),smT[Int.toNat (Zno n)]? =some x_2->qCAo<=wr IntKind.u32 (qCAf n)/\wr IntKind.u32 (qCAf n)+qCAd<=qCA5/\∀(x_3:Nat),smT[Int.toNat (Znw n)]? =some x_3->qCAo<=wr IntKind.u32 (Zby n)/\wr IntKind.u32 (Zby n)+qCAd<=qCA5/\∀(x_4:Nat),smT[Int.toNat (Znp n)]? =some x_4->qCAo<=wr IntKind.u32 (qCAg n)/\wr IntKind.u32 (qCAg n)+qCAd<=qCA5/\∀(x_5:Nat),smT[Int.toNat (Znx n)]? =some x_5->qCAo<=wr IntKind.u32 (Zbz n)/\wr IntKind.u32 (Zbz n)+qCAd<=qCA5/\∀(x_6:Nat),smT[Int.toNat (Znq n)]? =some x_6->qCAo<=wr IntKind.u32 (qCA9 n)/\wr IntKind.u32 (qCA9 n)+qCAd<=qCA5/\∀(x_7:Nat),smT[Int.toNat (Zny n)]? =some x_7->(decide (Zx n)=true-> [Int.toNat X7%qCA8,Int.toNat (qCAr x_7)%qCA8,Int.toNat (qCAr x_6)%qCA8,Int.toNat (qCAr x_5)%qCA8,Int.toNat (qCAr x_4)%qCA8,Int.toNat (qCAr x_3)%qCA8,Int.toNat (qCAr x_2)%qCA8,Int.toNat (qCAr x_1)%qCA8,Int.toNat (qCAr x)%qCA8]=v)/\(decide (Zx n)=false-> [Int.toNat (qCAr x_7)%qCA8,Int.toNat (qCAr x_6)%qCA8,Int.toNat (qCAr x_5)%qCA8,Int.toNat (qCAr x_4)%qCA8,Int.toNat (qCAr x_3)%qCA8,Int.toNat (qCAr x_2)%qCA8,Int.toNat (qCAr x_1)%qCA8,Int.toNat (qCAr x)%qCA8]=v))/\((qCAz n)=(9:Int)->qCAo<=wr IntKind.u32 (Zbw n)/\wr IntKind.u32 (Zbw n)+qCAd<=qCA5/\∀(x:Nat),smT[Int.toNat (Znn n)]? =some x->qCAo<=wr IntKind.u32 (qCAk n)/\wr IntKind.u32 (qCAk n)+qCAd<=qCA5/\∀(x_1:Nat),smT[Int.toNat (Znv n)]? =some x_1->qCAo<=wr IntKind.u32 (Zbx n)/\wr IntKind.u32 (Zbx n)+qCAd<=qCA5/\∀(x_2:Nat),smT[Int.toNat (Zno n)]? =some x_2->qCAo<=wr IntKind.u32 (qCAf n)/\wr IntKind.u32 (qCAf n)+qCAd<=qCA5/\∀(x_3:
Nat),smT[Int.toNat (Znw n)]? =some x_3->qCAo<=wr IntKind.u32 (Zby n)/\wr IntKind.u32 (Zby n)+qCAd<=qCA5/\∀(x_4:Nat),smT[Int.toNat (Znp n)]? =some x_4->qCAo<=wr IntKind.u32 (qCAg n)/\wr IntKind.u32 (qCAg n)+qCAd<=qCA5/\∀(x_5:Nat),smT[Int.toNat (Znx n)]? =some x_5->qCAo<=wr IntKind.u32 (Zbz n)/\wr IntKind.u32 (Zbz n)+qCAd<=qCA5/\∀(x_6:Nat),smT[Int.toNat (Znq n)]? =some x_6->qCAo<=wr IntKind.u32 (qCA9 n)/\wr IntKind.u32 (qCA9 n)+qCAd<=qCA5/\∀(x_7:Nat),smT[Int.toNat (Zny n)]? =some x_7->(decide (Zx n)=true-> [Int.toNat X7%qCA8,Int.toNat (Z5r n)%qCA8,Int.toNat (qCAr x_7)%qCA8,Int.toNat (qCAr x_6)%qCA8,Int.toNat (qCAr x_5)%qCA8,Int.toNat (qCAr x_4)%qCA8,Int.toNat (qCAr x_3)%qCA8,Int.toNat (qCAr x_2)%qCA8,Int.toNat (qCAr x_1)%qCA8,Int.toNat (qCAr x)%qCA8]=v)/\(decide (Zx n)=false-> [Int.toNat (Z5r n)%qCA8,Int.toNat (qCAr x_7)%qCA8,Int.toNat (qCAr x_6)%qCA8,Int.toNat (qCAr x_5)%qCA8,Int.toNat (qCAr x_4)%qCA8,Int.toNat (qCAr x_3)%qCA8,Int.toNat (qCAr x_2)%qCA8,Int.toNat (qCAr x_1)%qCA8,Int.toNat (qCAr x)%qCA8]=v))/\((qCAz n)=(10:Int)->qCAo<=wr IntKind.u32 (Zbw n)/\wr IntKind.u32 (Zbw n)+qCAd<=qCA5/\∀(x:Nat),smT[Int.toNat (Znn n)]? =some x->qCAo<=wr IntKind.u32 (qCAk n)/\wr IntKind.u32 (qCAk n)+qCAd<=qCA5/\∀(x_1:Nat),smT[Int.toNat (Znv n)]? =some x_1->qCAo<=wr IntKind.u32 (Zbx n)/\wr IntKind.u32 (Zbx n)+qCAd<=qCA5/\∀(x_2:Nat),smT[Int.toNat (Zno n)]? =some x_2->qCAo<=wr IntKind.u32 (qCAf n)/\wr IntKind.u32 (qCAf n)+qCAd<=qCA5/\∀(x_3:Nat),smT[Int.toNat (Znw n)]? =some x_3->qCAo<=wr IntKind.u32 (Zby n)/\wr IntKind.u32 (Zby n)+qCAd<=qCA5/\∀(x_4:Nat),smT[Int.toNat (Znp n)]? =some x_4->qCAo<=wr IntKind.u32 (qCAg n)/\wr IntKind.u32 (qCAg n)+qCAd<=qCA5/\∀(x_5:Nat),smT[Int.toNat (Znx n)]? =some x_5->qCAo<=wr IntKind.u32 (Zbz n)/\wr IntKind.u32 (Zbz n)+qCAd<=qCA5/\∀(x_6:Nat),smT[Int.toNat (Znq n)]? =some x_6->qCAo<=wr IntKind.u32 (qCA9 n)/\wr IntKind.u32 (qCA9 n)+qCAd<=qCA5/\∀(x_7:Nat),smT[Int.toNat (Zny n)]? =some x_7->qCAo<=wr IntKind.u32 (Znd n)/\wr IntKind.u32 (Znd n)+qCAd<=qCA5/\∀(x_8:Nat),smT[Int.toNat (wr IntKind.u32 (Znd n))]? =some x_8->qCAo<=wr IntKind.u32 (Zk1 n)/\wr IntKind.u32 (Zk1 n)+qCAd<=qCA5/\∀(x_9:Nat),smT[Int.toNat (wr IntKind.u32 (Zk1 n))]? =some x_9->(decide (Zx n)=true-> [Int.toNat X7%qCA8,Int.toNat (qCAr x_9)%qCA8,Int.toNat (qCAr x_8)%qCA8,Int.toNat (qCAr x_7)%qCA8,Int.toNat (qCAr x_6)%qCA8,Int.toNat (qCAr x_5)%qCA8,Int.toNat (qCAr x_4)%qCA8,Int.toNat (qCAr x_3)%qCA8,Int.toNat (qCAr x_2)%qCA8,Int.toNat (qCAr x_1)%qCA8,Int.toNat (qCAr x)%qCA8]=v)/\(decide (Zx n)=false-> [Int.toNat (qCAr x_9)%qCA8,Int.toNat (qCAr x_8)%qCA8,Int.toNat (qCAr x_7)%qCA8,Int.toNat (qCAr x_6)%qCA8,Int.toNat (qCAr x_5)%qCA8,Int.toNat (qCAr x_4)%qCA8,Int.toNat (qCAr x_3)%qCA8,Int.toNat (qCAr x_2)%qCA8,Int.toNat (qCAr x_1)%qCA8,Int.toNat (qCAr x)%qCA8]=v))/\((qCAz n)=(11:Int)->qCAo<=wr IntKind.u32 (Zbw n)/\wr IntKind.u32 (Zbw n)+qCAd<=qCA5/\∀(x:Nat),smT[Int.toNat (Znn n)]? =some x->qCAo<=wr IntKind.u32 (qCAk n)/\wr IntKind.u32 (qCAk n)+qCAd<=qCA5/\∀(x_1:Nat),smT[Int.toNat (Znv n)]? =some x_1->qCAo<=wr IntKind.u32 (Zbx n)/\wr IntKind.u32 (Zbx n)+qCAd<=qCA5/\∀(x_2:Nat),smT[Int.toNat (Zno n)]? =some x_2->qCAo<=wr IntKind.u32 (qCAf n)/\wr IntKind.u32 (qCAf n)+qCAd<=qCA5/\∀(x_3:Nat),smT[Int.toNat (Znw n)]? =some x_3->qCAo<=wr IntKind.u32 (Zby n)/\wr IntKind.u32 (Zby n)+qCAd<=qCA5/\∀(x_4:Nat),smT[Int.toNat (Znp n)]? =some x_4->qCAo<=wr IntKind.u32 (qCAg n)/\wr IntKind.u32 (qCAg n)+qCAd<=qCA5/\∀(x_5:Nat),smT[Int.toNat (Znx n)]? =some x_5->qCAo<=wr IntKind.u32 (Zbz n)/\
wr IntKind.u32 (Zbz n)+qCAd<=qCA5/\∀(x_6:Nat),smT[Int.toNat (Znq n)]? =some x_6->qCAo<=wr IntKind.u32 (qCA9 n)/\wr IntKind.u32 (qCA9 n)+qCAd<=qCA5/\∀(x_7:Nat),smT[Int.toNat (Zny n)]? =some x_7->qCAo<=wr IntKind.u32 (Znd n)/\wr IntKind.u32 (Znd n)+qCAd<=qCA5/\∀(x_8:Nat),smT[Int.toNat (wr IntKind.u32 (Znd n))]? =some x_8->qCAo<=wr IntKind.u32 (Zk1 n)/\wr IntKind.u32 (Zk1 n)+qCAd<=qCA5/\∀(x_9:Nat),smT[Int.toNat (wr IntKind.u32 (Zk1 n))]? =some x_9->(decide (Zx n)=true-> [Int.toNat X7%qCA8,Int.toNat (Z5v n)%qCA8,Int.toNat (qCAr x_9)%qCA8,Int.toNat (qCAr x_8)%qCA8,Int.toNat (qCAr x_7)%qCA8,Int.toNat (qCAr x_6)%qCA8,Int.toNat (qCAr x_5)%qCA8,Int.toNat (qCAr x_4)%qCA8,Int.toNat (qCAr x_3)%qCA8,Int.toNat (qCAr x_2)%qCA8,Int.toNat (qCAr x_1)%qCA8,Int.toNat (qCAr x)%qCA8]=v)/\(decide (Zx n)=false-> [Int.toNat (Z5v n)%qCA8,Int.toNat (qCAr x_9)%qCA8,Int.toNat (qCAr x_8)%qCA8,Int.toNat (qCAr x_7)%qCA8,Int.toNat (qCAr x_6)%qCA8,Int.toNat (qCAr x_5)%qCA8,Int.toNat (qCAr x_4)%qCA8,Int.toNat (qCAr x_3)%qCA8,Int.toNat (qCAr x_2)%qCA8,Int.toNat (qCAr x_1)%qCA8,Int.toNat (qCAr x)%qCA8]=v))/\((qCAz n)=(12:Int)->qCAo<=wr IntKind.u32 (Zbw n)/\wr IntKind.u32 (Zbw n)+qCAd<=qCA5/\∀(x:Nat),smT[Int.toNat (Znn n)]? =some x->qCAo<=wr IntKind.u32 (qCAk n)/\wr IntKind.u32 (qCAk n)+qCAd<=qCA5/\∀(x_1:Nat),smT[Int.toNat (Znv n)]? =some x_1->qCAo<=wr IntKind.u32 (Zbx n)/\wr IntKind.u32 (Zbx n)+qCAd<=qCA5/\∀(x_2:Nat),smT[Int.toNat (Zno n)]? =some x_2->qCAo<=wr IntKind.u32 (qCAf n)/\wr IntKind.u32 (qCAf n)+qCAd<=qCA5/\∀(x_3:Nat),smT[Int.toNat (Znw n)]? =some x_3->qCAo<=wr IntKind.u32 (Zby n)/\wr IntKind.u32 (Zby n)+qCAd<=qCA5/\∀(x_4:Nat),smT[Int.toNat (Znp n)]? =some x_4->qCAo<=wr IntKind.u32 (qCAg n)/\wr IntKind.u32 (qCAg n)+qCAd<=qCA5/\∀(x_5:Nat),smT[Int.toNat (Znx n)]? =some x_5->qCAo<=wr IntKind.u32 (Zbz n)/\wr IntKind.u32 (Zbz n)+qCAd<=qCA5/\∀(x_6:Nat),smT[Int.toNat (Znq n)]? =some x_6->qCAo<=wr IntKind.u32 (qCA9 n)/\wr IntKind.u32 (qCA9 n)+qCAd<=qCA5/\∀(x_7:Nat),smT[Int.toNat (Zny n)]? =some x_7->qCAo<=wr IntKind.u32 (Zni n)/\wr IntKind.u32 (Zni n)+qCAd<=qCA5/\∀(x_8:Nat),smT[Int.toNat (wr IntKind.u32 (Zni n))]? =some x_8->qCAo<=wr IntKind.u32 (qCAx n)/\wr IntKind.u32 (qCAx n)+qCAd<=qCA5/\∀(x_9:Nat),smT[Int.toNat (wr IntKind.u32 (qCAx n))]? =some x_9->qCAo<=wr IntKind.u32 (Znj n)/\wr IntKind.u32 (Znj n)+qCAd<=qCA5/\∀(x_10:Nat),smT[Int.toNat (wr IntKind.u32 (Znj n))]? =some x_10->qCAo<=wr IntKind.u32 (qCAs n)/\wr IntKind.u32 (qCAs n)+qCAd<=qCA5/\∀(x_11:Nat),smT[Int.toNat (wr IntKind.u32 (qCAs n))]? =some x_11->(decide (Zx n)=true-> [Int.toNat X7%qCA8,Int.toNat (qCAr x_11)%qCA8,Int.toNat (qCAr x_10)%qCA8,Int.toNat (qCAr x_9)%qCA8,Int.toNat (qCAr x_8)%qCA8,Int.toNat (qCAr x_7)%qCA8,Int.toNat (qCAr x_6)%qCA8,Int.toNat (qCAr x_5)%qCA8,Int.toNat (qCAr x_4)%qCA8,Int.toNat (qCAr x_3)%qCA8,Int.toNat (qCAr x_2)%qCA8,Int.toNat (qCAr x_1)%qCA8,Int.toNat (qCAr x)%qCA8]=v)/\(decide (Zx n)=false-> [Int.toNat (qCAr x_11)%qCA8,Int.toNat (qCAr x_10)%qCA8,Int.toNat (qCAr x_9)%qCA8,Int.toNat (qCAr x_8)%qCA8,Int.toNat (qCAr x_7)%qCA8,Int.toNat (qCAr x_6)%qCA8,Int.toNat (qCAr x_5)%qCA8,Int.toNat (qCAr x_4)%qCA8,Int.toNat (qCAr x_3)%qCA8,Int.toNat (qCAr x_2)%qCA8,Int.toNat (qCAr x_1)%qCA8,Int.toNat (qCAr x)%qCA8]=v))/\((qCAz n)=(13:Int)->qCAo<=wr IntKind.u32 (Zbw n)/\wr IntKind.u32 (Zbw n)+qCAd<=qCA5/\∀(x:Nat),smT[Int.toNat (Znn n)]? =some x->qCAo<=wr IntKind.u32 (qCAk n)/\wr IntKind.u32 (qCAk n)+qCAd<=qCA5/\∀(x_1:Nat),smT[Int.toNat (Znv n)]? =some x_1->qCAo<=wr IntKind.u32 (Zbx n)/\wr IntKind.u32 (Zbx n)+
qCAd<=qCA5/\∀(x_2:Nat),smT[Int.toNat (Zno n)]? =some x_2->qCAo<=wr IntKind.u32 (qCAf n)/\wr IntKind.u32 (qCAf n)+qCAd<=qCA5/\∀(x_3:Nat),smT[Int.toNat (Znw n)]? =some x_3->qCAo<=wr IntKind.u32 (Zby n)/\wr IntKind.u32 (Zby n)+qCAd<=qCA5/\∀(x_4:Nat),smT[Int.toNat (Znp n)]? =some x_4->qCAo<=wr IntKind.u32 (qCAg n)/\wr IntKind.u32 (qCAg n)+qCAd<=qCA5/\∀(x_5:Nat),smT[Int.toNat (Znx n)]? =some x_5->qCAo<=wr IntKind.u32 (Zbz n)/\wr IntKind.u32 (Zbz n)+qCAd<=qCA5/\∀(x_6:Nat),smT[Int.toNat (Znq n)]? =some x_6->qCAo<=wr IntKind.u32 (qCA9 n)/\wr IntKind.u32 (qCA9 n)+qCAd<=qCA5/\∀(x_7:Nat),smT[Int.toNat (Zny n)]? =some x_7->qCAo<=wr IntKind.u32 (Zni n)/\wr IntKind.u32 (Zni n)+qCAd<=qCA5/\∀(x_8:Nat),smT[Int.toNat (wr IntKind.u32 (Zni n))]? =some x_8->qCAo<=wr IntKind.u32 (qCAx n)/\wr IntKind.u32 (qCAx n)+qCAd<=qCA5/\∀(x_9:Nat),smT[Int.toNat (wr IntKind.u32 (qCAx n))]? =some x_9->qCAo<=wr IntKind.u32 (Znj n)/\wr IntKind.u32 (Znj n)+qCAd<=qCA5/\∀(x_10:Nat),smT[Int.toNat (wr IntKind.u32 (Znj n))]? =some x_10->qCAo<=wr IntKind.u32 (qCAs n)/\wr IntKind.u32 (qCAs n)+qCAd<=qCA5/\∀(x_11:Nat),smT[Int.toNat (wr IntKind.u32 (qCAs n))]? =some x_11->(decide (Zx n)=true-> [Int.toNat X7%qCA8,Int.toNat (Z5w n)%qCA8,Int.toNat (qCAr x_11)%qCA8,Int.toNat (qCAr x_10)%qCA8,Int.toNat (qCAr x_9)%qCA8,Int.toNat (qCAr x_8)%qCA8,Int.toNat (qCAr x_7)%qCA8,Int.toNat (qCAr x_6)%qCA8,Int.toNat (qCAr x_5)%qCA8,Int.toNat (qCAr x_4)%qCA8,Int.toNat (qCAr x_3)%qCA8,Int.toNat (qCAr x_2)%qCA8,Int.toNat (qCAr x_1)%qCA8,Int.toNat (qCAr x)%qCA8]=v)/\(decide (Zx n)=false-> [Int.toNat (Z5w n)%qCA8,Int.toNat (qCAr x_11)%qCA8,Int.toNat (qCAr x_10)%qCA8,Int.toNat (qCAr x_9)%qCA8,Int.toNat (qCAr x_8)%qCA8,Int.toNat (qCAr x_7)%qCA8,Int.toNat (qCAr x_6)%qCA8,Int.toNat (qCAr x_5)%qCA8,Int.toNat (qCAr x_4)%qCA8,Int.toNat (qCAr x_3)%qCA8,Int.toNat (qCAr x_2)%qCA8,Int.toNat (qCAr x_1)%qCA8,Int.toNat (qCAr x)%qCA8]=v))/\True)/\(decide (Zx n)=false->(qCAd<=wr IntKind.u64 n/\wr IntKind.u64 n+qCAd<=(10000000000000:Int))/\((qCAv n)=qCAd->(decide (Zx n)=true-> [Int.toNat X7%qCA8,Int.toNat (Z51 n)%qCA8]=v)/\(decide (Zx n)=false-> [Int.toNat (Z51 n)%qCA8]=v))/\((qCAv n)=qCAc->qCAo<=wr IntKind.u32 (Zne n)/\wr IntKind.u32 (Zne n)+qCAd<=qCA5/\∀(x:Nat),smT[Int.toNat (wr IntKind.u32 (Zne n))]? =some x->qCAo<=wr IntKind.u32 (Zk2 n)/\wr IntKind.u32 (Zk2 n)+qCAd<=qCA5/\∀(x_1:Nat),smT[Int.toNat (wr IntKind.u32 (Zk2 n))]? =some x_1->(decide (Zx n)=true-> [Int.toNat X7%qCA8,Int.toNat (qCAr x_1)%qCA8,Int.toNat (qCAr x)%qCA8]=v)/\(decide (Zx n)=false-> [Int.toNat (qCAr x_1)%qCA8,Int.toNat (qCAr x)%qCA8]=v))/\((qCAv n)=(3:Int)->qCAo<=wr IntKind.u32 (Zne n)/\wr IntKind.u32 (Zne n)+qCAd<=qCA5/\∀(x:Nat),smT[Int.toNat (wr IntKind.u32 (Zne n))]? =some x->qCAo<=wr IntKind.u32 (Zk2 n)/\wr IntKind.u32 (Zk2 n)+qCAd<=qCA5/\∀(x_1:Nat),smT[Int.toNat (wr IntKind.u32 (Zk2 n))]? =some x_1->(decide (Zx n)=true-> [Int.toNat X7%qCA8,Int.toNat (Z5x n)%qCA8,Int.toNat (qCAr x_1)%qCA8,Int.toNat (qCAr x)%qCA8]=v)/\(decide (Zx n)=false-> [Int.toNat (Z5x n)%qCA8,Int.toNat (qCAr x_1)%qCA8,Int.toNat (qCAr x)%qCA8]=v))/\((qCAv n)=(4:Int)->qCAo<=wr IntKind.u32 (Zcp n)/\wr IntKind.u32 (Zcp n)+qCAd<=qCA5/\∀(x:Nat),smT[Int.toNat (wr IntKind.u32 (Zcp n))]? =some x->qCAo<=wr IntKind.u32 (qCAp n)/\wr IntKind.u32 (qCAp n)+qCAd<=qCA5/\∀(x_1:Nat),smT[Int.toNat (wr IntKind.u32 (qCAp n))]? =some x_1->qCAo<=wr IntKind.u32 (Zcq n)/\wr IntKind.u32 (Zcq n)+qCAd<=qCA5/\∀(x_2:Nat),smT[Int.toNat (wr IntKind.u32 (Zcq n))]? =some x_2->qCAo<=wr IntKind.u32 (qCAn n)
/\wr IntKind.u32 (qCAn n)+qCAd<=qCA5/\∀(x_3:Nat),smT[Int.toNat (wr IntKind.u32 (qCAn n))]? =some x_3->(Z52 n x_3 x_2 x_1 x v)/\(decide (Zx n)=false-> [Int.toNat (qCAr x_3)%qCA8,Int.toNat (qCAr x_2)%qCA8,Int.toNat (qCAr x_1)%qCA8,Int.toNat (qCAr x)%qCA8]=v))/\((qCAv n)=(5:Int)->qCAo<=wr IntKind.u32 (Zcp n)/\wr IntKind.u32 (Zcp n)+qCAd<=qCA5/\∀(x:Nat),smT[Int.toNat (wr IntKind.u32 (Zcp n))]? =some x->qCAo<=wr IntKind.u32 (qCAp n)/\wr IntKind.u32 (qCAp n)+qCAd<=qCA5/\∀(x_1:Nat),smT[Int.toNat (wr IntKind.u32 (qCAp n))]? =some x_1->qCAo<=wr IntKind.u32 (Zcq n)/\wr IntKind.u32 (Zcq n)+qCAd<=qCA5/\∀(x_2:Nat),smT[Int.toNat (wr IntKind.u32 (Zcq n))]? =some x_2->qCAo<=wr IntKind.u32 (qCAn n)/\wr IntKind.u32 (qCAn n)+qCAd<=qCA5/\∀(x_3:Nat),smT[Int.toNat (wr IntKind.u32 (qCAn n))]? =some x_3->(decide (Zx n)=true-> [Int.toNat X7%qCA8,Int.toNat (Z5y n)%qCA8,Int.toNat (qCAr x_3)%qCA8,Int.toNat (qCAr x_2)%qCA8,Int.toNat (qCAr x_1)%qCA8,Int.toNat (qCAr x)%qCA8]=v)/\(decide (Zx n)=false-> [Int.toNat (Z5y n)%qCA8,Int.toNat (qCAr x_3)%qCA8,Int.toNat (qCAr x_2)%qCA8,Int.toNat (qCAr x_1)%qCA8,Int.toNat (qCAr x)%qCA8]=v))/\((qCAv n)=(6:Int)->qCAo<=wr IntKind.u32 (Zcp n)/\wr IntKind.u32 (Zcp n)+qCAd<=qCA5/\∀(x:Nat),smT[Int.toNat (wr IntKind.u32 (Zcp n))]? =some x->qCAo<=wr IntKind.u32 (qCAp n)/\wr IntKind.u32 (qCAp n)+qCAd<=qCA5/\∀(x_1:Nat),smT[Int.toNat (wr IntKind.u32 (qCAp n))]? =some x_1->qCAo<=wr IntKind.u32 (Zcq n)/\wr IntKind.u32 (Zcq n)+qCAd<=qCA5/\∀(x_2:Nat),smT[Int.toNat (wr IntKind.u32 (Zcq n))]? =some x_2->qCAo<=wr IntKind.u32 (qCAn n)/\wr IntKind.u32 (qCAn n)+qCAd<=qCA5/\∀(x_3:Nat),smT[Int.toNat (wr IntKind.u32 (qCAn n))]? =some x_3->qCAo<=wr IntKind.u32 (Znk n)/\wr IntKind.u32 (Znk n)+qCAd<=qCA5/\∀(x_4:Nat),smT[Int.toNat (wr IntKind.u32 (Znk n))]? =some x_4->qCAo<=wr IntKind.u32 (qCAt n)/\wr IntKind.u32 (qCAt n)+qCAd<=qCA5/\∀(x_5:Nat),smT[Int.toNat (wr IntKind.u32 (qCAt n))]? =some x_5->(Z5s n x_5 x_4 x_3 x_2 x_1 x v)/\(Z53 n x_5 x_4 x_3 x_2 x_1 x v))/\((qCAv n)=(7:Int)->qCAo<=wr IntKind.u32 (Zcp n)/\wr IntKind.u32 (Zcp n)+qCAd<=qCA5/\∀(x:Nat),smT[Int.toNat (wr IntKind.u32 (Zcp n))]? =some x->qCAo<=wr IntKind.u32 (qCAp n)/\wr IntKind.u32 (qCAp n)+qCAd<=qCA5/\∀(x_1:Nat),smT[Int.toNat (wr IntKind.u32 (qCAp n))]? =some x_1->qCAo<=wr IntKind.u32 (Zcq n)/\wr IntKind.u32 (Zcq n)+qCAd<=qCA5/\∀(x_2:Nat),smT[Int.toNat (wr IntKind.u32 (Zcq n))]? =some x_2->qCAo<=wr IntKind.u32 (qCAn n)/\wr IntKind.u32 (qCAn n)+qCAd<=qCA5/\∀(x_3:Nat),smT[Int.toNat (wr IntKind.u32 (qCAn n))]? =some x_3->qCAo<=wr IntKind.u32 (Znk n)/\wr IntKind.u32 (Znk n)+qCAd<=qCA5/\∀(x_4:Nat),smT[Int.toNat (wr IntKind.u32 (Znk n))]? =some x_4->qCAo<=wr IntKind.u32 (qCAt n)/\wr IntKind.u32 (qCAt n)+qCAd<=qCA5/\∀(x_5:Nat),smT[Int.toNat (wr IntKind.u32 (qCAt n))]? =some x_5->(decide (Zx n)=true-> [Int.toNat X7%qCA8,Int.toNat (Z5q n)%qCA8,Int.toNat (qCAr x_5)%qCA8,Int.toNat (qCAr x_4)%qCA8,Int.toNat (qCAr x_3)%qCA8,Int.toNat (qCAr x_2)%qCA8,Int.toNat (qCAr x_1)%qCA8,Int.toNat (qCAr x)%qCA8]=v)/\(decide (Zx n)=false-> [Int.toNat (Z5q n)%qCA8,Int.toNat (qCAr x_5)%qCA8,Int.toNat (qCAr x_4)%qCA8,Int.toNat (qCAr x_3)%qCA8,Int.toNat (qCAr x_2)%qCA8,Int.toNat (qCAr x_1)%qCA8,Int.toNat (qCAr x)%qCA8]=v))/\((qCAv n)=(8:Int)->qCAo<=wr IntKind.u32 (Zb0 n)/\wr IntKind.u32 (Zb0 n)+qCAd<=qCA5/\∀(x:Nat),smT[Int.toNat (Znr n)]? =some x->qCAo<=wr IntKind.u32 (qCAl n)/\wr IntKind.u32 (qCAl n)+qCAd<=qCA5/\∀(x_1:Nat),smT[Int.toNat (Znz n)]? =some x_1->qCAo<=wr IntKind.u32 (Zb1 n)/\wr IntKind.u32 (Zb1 n)+qCAd<=qCA5/\∀(x_2:Nat),smT[Int.toNat (Zns
n)]? =some x_2->qCAo<=wr IntKind.u32 (qCAh n)/\wr IntKind.u32 (qCAh n)+qCAd<=qCA5/\∀(x_3:Nat),smT[Int.toNat (Zn0 n)]? =some x_3->qCAo<=wr IntKind.u32 (Zb2 n)/\wr IntKind.u32 (Zb2 n)+qCAd<=qCA5/\∀(x_4:Nat),smT[Int.toNat (Znt n)]? =some x_4->qCAo<=wr IntKind.u32 (qCAi n)/\wr IntKind.u32 (qCAi n)+qCAd<=qCA5/\∀(x_5:Nat),smT[Int.toNat (Zn1 n)]? =some x_5->qCAo<=wr IntKind.u32 (Zb3 n)/\wr IntKind.u32 (Zb3 n)+qCAd<=qCA5/\∀(x_6:Nat),smT[Int.toNat (Znu n)]? =some x_6->qCAo<=wr IntKind.u32 (qCAa n)/\wr IntKind.u32 (qCAa n)+qCAd<=qCA5/\∀(x_7:Nat),smT[Int.toNat (Zn2 n)]? =some x_7->(decide (Zx n)=true-> [Int.toNat X7%qCA8,Int.toNat (qCAr x_7)%qCA8,Int.toNat (qCAr x_6)%qCA8,Int.toNat (qCAr x_5)%qCA8,Int.toNat (qCAr x_4)%qCA8,Int.toNat (qCAr x_3)%qCA8,Int.toNat (qCAr x_2)%qCA8,Int.toNat (qCAr x_1)%qCA8,Int.toNat (qCAr x)%qCA8]=v)/\(decide (Zx n)=false-> [Int.toNat (qCAr x_7)%qCA8,Int.toNat (qCAr x_6)%qCA8,Int.toNat (qCAr x_5)%qCA8,Int.toNat (qCAr x_4)%qCA8,Int.toNat (qCAr x_3)%qCA8,Int.toNat (qCAr x_2)%qCA8,Int.toNat (qCAr x_1)%qCA8,Int.toNat (qCAr x)%qCA8]=v))/\((qCAv n)=(9:Int)->qCAo<=wr IntKind.u32 (Zb0 n)/\wr IntKind.u32 (Zb0 n)+qCAd<=qCA5/\∀(x:Nat),smT[Int.toNat (Znr n)]? =some x->qCAo<=wr IntKind.u32 (qCAl n)/\wr IntKind.u32 (qCAl n)+qCAd<=qCA5/\∀(x_1:Nat),smT[Int.toNat (Znz n)]? =some x_1->qCAo<=wr IntKind.u32 (Zb1 n)/\wr IntKind.u32 (Zb1 n)+qCAd<=qCA5/\∀(x_2:Nat),smT[Int.toNat (Zns n)]? =some x_2->qCAo<=wr IntKind.u32 (qCAh n)/\wr IntKind.u32 (qCAh n)+qCAd<=qCA5/\∀(x_3:Nat),smT[Int.toNat (Zn0 n)]? =some x_3->qCAo<=wr IntKind.u32 (Zb2 n)/\wr IntKind.u32 (Zb2 n)+qCAd<=qCA5/\∀(x_4:Nat),smT[Int.toNat (Znt n)]? =some x_4->qCAo<=wr IntKind.u32 (qCAi n)/\wr IntKind.u32 (qCAi n)+qCAd<=qCA5/\∀(x_5:Nat),smT[Int.toNat (Zn1 n)]? =some x_5->qCAo<=wr IntKind.u32 (Zb3 n)/\wr IntKind.u32 (Zb3 n)+qCAd<=qCA5/\∀(x_6:Nat),smT[Int.toNat (Znu n)]? =some x_6->qCAo<=wr IntKind.u32 (qCAa n)/\wr IntKind.u32 (qCAa n)+qCAd<=qCA5/\∀(x_7:Nat),smT[Int.toNat (Zn2 n)]? =some x_7->(decide (Zx n)=true-> [Int.toNat X7%qCA8,Int.toNat (Z5o n)%qCA8,Int.toNat (qCAr x_7)%qCA8,Int.toNat (qCAr x_6)%qCA8,Int.toNat (qCAr x_5)%qCA8,Int.toNat (qCAr x_4)%qCA8,Int.toNat (qCAr x_3)%qCA8,Int.toNat (qCAr x_2)%qCA8,Int.toNat (qCAr x_1)%qCA8,Int.toNat (qCAr x)%qCA8]=v)/\(decide (Zx n)=false-> [Int.toNat (Z5o n)%qCA8,Int.toNat (qCAr x_7)%qCA8,Int.toNat (qCAr x_6)%qCA8,Int.toNat (qCAr x_5)%qCA8,Int.toNat (qCAr x_4)%qCA8,Int.toNat (qCAr x_3)%qCA8,Int.toNat (qCAr x_2)%qCA8,Int.toNat (qCAr x_1)%qCA8,Int.toNat (qCAr x)%qCA8]=v))/\((qCAv n)=(10:Int)->qCAo<=wr IntKind.u32 (Zb0 n)/\wr IntKind.u32 (Zb0 n)+qCAd<=qCA5/\∀(x:Nat),smT[Int.toNat (Znr n)]? =some x->qCAo<=wr IntKind.u32 (qCAl n)/\wr IntKind.u32 (qCAl n)+qCAd<=qCA5/\∀(x_1:Nat),smT[Int.toNat (Znz n)]? =some x_1->qCAo<=wr IntKind.u32 (Zb1 n)/\wr IntKind.u32 (Zb1 n)+qCAd<=qCA5/\∀(x_2:Nat),smT[Int.toNat (Zns n)]? =some x_2->qCAo<=wr IntKind.u32 (qCAh n)/\wr IntKind.u32 (qCAh n)+qCAd<=qCA5/\∀(x_3:Nat),smT[Int.toNat (Zn0 n)]? =some x_3->qCAo<=wr IntKind.u32 (Zb2 n)/\wr IntKind.u32 (Zb2 n)+qCAd<=qCA5/\∀(x_4:Nat),smT[Int.toNat (Znt n)]? =some x_4->qCAo<=wr IntKind.u32 (qCAi n)/\wr IntKind.u32 (qCAi n)+qCAd<=qCA5/\∀(x_5:Nat),smT[Int.toNat (Zn1 n)]? =some x_5->qCAo<=wr IntKind.u32 (Zb3 n)/\wr IntKind.u32 (Zb3 n)+qCAd<=qCA5/\∀(x_6:Nat),smT[Int.toNat (Znu n)]? =some x_6->qCAo<=wr IntKind.u32 (qCAa n)/\wr IntKind.u32 (qCAa n)+qCAd<=qCA5/\∀(x_7:Nat),smT[Int.toNat (Zn2 n)]? =some x_7->qCAo<=wr IntKind.u32 (Znf n)/\wr IntKind.u32 (Znf n)+qCAd<=qCA5/\∀(x_8:
Nat),smT[Int.toNat (wr IntKind.u32 (Znf n))]? =some x_8->qCAo<=wr IntKind.u32 (Zk3 n)/\wr IntKind.u32 (Zk3 n)+qCAd<=qCA5/\∀(x_9:Nat),smT[Int.toNat (wr IntKind.u32 (Zk3 n))]? =some x_9->(decide (Zx n)=true-> [Int.toNat X7%qCA8,Int.toNat (qCAr x_9)%qCA8,Int.toNat (qCAr x_8)%qCA8,Int.toNat (qCAr x_7)%qCA8,Int.toNat (qCAr x_6)%qCA8,Int.toNat (qCAr x_5)%qCA8,Int.toNat (qCAr x_4)%qCA8,Int.toNat (qCAr x_3)%qCA8,Int.toNat (qCAr x_2)%qCA8,Int.toNat (qCAr x_1)%qCA8,Int.toNat (qCAr x)%qCA8]=v)/\(decide (Zx n)=false-> [Int.toNat (qCAr x_9)%qCA8,Int.toNat (qCAr x_8)%qCA8,Int.toNat (qCAr x_7)%qCA8,Int.toNat (qCAr x_6)%qCA8,Int.toNat (qCAr x_5)%qCA8,Int.toNat (qCAr x_4)%qCA8,Int.toNat (qCAr x_3)%qCA8,Int.toNat (qCAr x_2)%qCA8,Int.toNat (qCAr x_1)%qCA8,Int.toNat (qCAr x)%qCA8]=v))/\((qCAv n)=(11:Int)->qCAo<=wr IntKind.u32 (Zb0 n)/\wr IntKind.u32 (Zb0 n)+qCAd<=qCA5/\∀(x:Nat),smT[Int.toNat (Znr n)]? =some x->qCAo<=wr IntKind.u32 (qCAl n)/\wr IntKind.u32 (qCAl n)+qCAd<=qCA5/\∀(x_1:Nat),smT[Int.toNat (Znz n)]? =some x_1->qCAo<=wr IntKind.u32 (Zb1 n)/\wr IntKind.u32 (Zb1 n)+qCAd<=qCA5/\∀(x_2:Nat),smT[Int.toNat (Zns n)]? =some x_2->qCAo<=wr IntKind.u32 (qCAh n)/\wr IntKind.u32 (qCAh n)+qCAd<=qCA5/\∀(x_3:Nat),smT[Int.toNat (Zn0 n)]? =some x_3->qCAo<=wr IntKind.u32 (Zb2 n)/\wr IntKind.u32 (Zb2 n)+qCAd<=qCA5/\∀(x_4:Nat),smT[Int.toNat (Znt n)]? =some x_4->qCAo<=wr IntKind.u32 (qCAi n)/\wr IntKind.u32 (qCAi n)+qCAd<=qCA5/\∀(x_5:Nat),smT[Int.toNat (Zn1 n)]? =some x_5->qCAo<=wr IntKind.u32 (Zb3 n)/\wr IntKind.u32 (Zb3 n)+qCAd<=qCA5/\∀(x_6:Nat),smT[Int.toNat (Znu n)]? =some x_6->qCAo<=wr IntKind.u32 (qCAa n)/\wr IntKind.u32 (qCAa n)+qCAd<=qCA5/\∀(x_7:Nat),smT[Int.toNat (Zn2 n)]? =some x_7->qCAo<=wr IntKind.u32 (Znf n)/\wr IntKind.u32 (Znf n)+qCAd<=qCA5/\∀(x_8:Nat),smT[Int.toNat (wr IntKind.u32 (Znf n))]? =some x_8->qCAo<=wr IntKind.u32 (Zk3 n)/\wr IntKind.u32 (Zk3 n)+qCAd<=qCA5/\∀(x_9:Nat),smT[Int.toNat (wr IntKind.u32 (Zk3 n))]? =some x_9->(decide (Zx n)=true-> [Int.toNat X7%qCA8,Int.toNat (Z5z n)%qCA8,Int.toNat (qCAr x_9)%qCA8,Int.toNat (qCAr x_8)%qCA8,Int.toNat (qCAr x_7)%qCA8,Int.toNat (qCAr x_6)%qCA8,Int.toNat (qCAr x_5)%qCA8,Int.toNat (qCAr x_4)%qCA8,Int.toNat (qCAr x_3)%qCA8,Int.toNat (qCAr x_2)%qCA8,Int.toNat (qCAr x_1)%qCA8,Int.toNat (qCAr x)%qCA8]=v)/\(decide (Zx n)=false-> [Int.toNat (Z5z n)%qCA8,Int.toNat (qCAr x_9)%qCA8,Int.toNat (qCAr x_8)%qCA8,Int.toNat (qCAr x_7)%qCA8,Int.toNat (qCAr x_6)%qCA8,Int.toNat (qCAr x_5)%qCA8,Int.toNat (qCAr x_4)%qCA8,Int.toNat (qCAr x_3)%qCA8,Int.toNat (qCAr x_2)%qCA8,Int.toNat (qCAr x_1)%qCA8,Int.toNat (qCAr x)%qCA8]=v))/\((qCAv n)=(12:Int)->qCAo<=wr IntKind.u32 (Zb0 n)/\wr IntKind.u32 (Zb0 n)+qCAd<=qCA5/\∀(x:Nat),smT[Int.toNat (Znr n)]? =some x->qCAo<=wr IntKind.u32 (qCAl n)/\wr IntKind.u32 (qCAl n)+qCAd<=qCA5/\∀(x_1:Nat),smT[Int.toNat (Znz n)]? =some x_1->qCAo<=wr IntKind.u32 (Zb1 n)/\wr IntKind.u32 (Zb1 n)+qCAd<=qCA5/\∀(x_2:Nat),smT[Int.toNat (Zns n)]? =some x_2->qCAo<=wr IntKind.u32 (qCAh n)/\wr IntKind.u32 (qCAh n)+qCAd<=qCA5/\∀(x_3:Nat),smT[Int.toNat (Zn0 n)]? =some x_3->qCAo<=wr IntKind.u32 (Zb2 n)/\wr IntKind.u32 (Zb2 n)+qCAd<=qCA5/\∀(x_4:Nat),smT[Int.toNat (Znt n)]? =some x_4->qCAo<=wr IntKind.u32 (qCAi n)/\wr IntKind.u32 (qCAi n)+qCAd<=qCA5/\∀(x_5:Nat),smT[Int.toNat (Zn1 n)]? =some x_5->qCAo<=wr IntKind.u32 (Zb3 n)/\wr IntKind.u32 (Zb3 n)+qCAd<=qCA5/\∀(x_6:Nat),smT[Int.toNat (Znu n)]? =some x_6->qCAo<=wr IntKind.u32 (qCAa n)/\wr IntKind.u32 (qCAa n)+qCAd<=qCA5/\∀(x_7:Nat),smT[Int.toNat (Zn2 n)]? =some x_7->qCAo<=wr
IntKind.u32 (Znl n)/\wr IntKind.u32 (Znl n)+qCAd<=qCA5/\∀(x_8:Nat),smT[Int.toNat (wr IntKind.u32 (Znl n))]? =some x_8->qCAo<=wr IntKind.u32 (qCAy n)/\wr IntKind.u32 (qCAy n)+qCAd<=qCA5/\∀(x_9:Nat),smT[Int.toNat (wr IntKind.u32 (qCAy n))]? =some x_9->qCAo<=wr IntKind.u32 (Znm n)/\wr IntKind.u32 (Znm n)+qCAd<=qCA5/\∀(x_10:Nat),smT[Int.toNat (wr IntKind.u32 (Znm n))]? =some x_10->qCAo<=wr IntKind.u32 (qCAu n)/\wr IntKind.u32 (qCAu n)+qCAd<=qCA5/\∀(x_11:Nat),smT[Int.toNat (wr IntKind.u32 (qCAu n))]? =some x_11->(decide (Zx n)=true-> [Int.toNat X7%qCA8,Int.toNat (qCAr x_11)%qCA8,Int.toNat (qCAr x_10)%qCA8,Int.toNat (qCAr x_9)%qCA8,Int.toNat (qCAr x_8)%qCA8,Int.toNat (qCAr x_7)%qCA8,Int.toNat (qCAr x_6)%qCA8,Int.toNat (qCAr x_5)%qCA8,Int.toNat (qCAr x_4)%qCA8,Int.toNat (qCAr x_3)%qCA8,Int.toNat (qCAr x_2)%qCA8,Int.toNat (qCAr x_1)%qCA8,Int.toNat (qCAr x)%qCA8]=v)/\(decide (Zx n)=false-> [Int.toNat (qCAr x_11)%qCA8,Int.toNat (qCAr x_10)%qCA8,Int.toNat (qCAr x_9)%qCA8,Int.toNat (qCAr x_8)%qCA8,Int.toNat (qCAr x_7)%qCA8,Int.toNat (qCAr x_6)%qCA8,Int.toNat (qCAr x_5)%qCA8,Int.toNat (qCAr x_4)%qCA8,Int.toNat (qCAr x_3)%qCA8,Int.toNat (qCAr x_2)%qCA8,Int.toNat (qCAr x_1)%qCA8,Int.toNat (qCAr x)%qCA8]=v))/\((qCAv n)=(13:Int)->qCAo<=wr IntKind.u32 (Zb0 n)/\wr IntKind.u32 (Zb0 n)+qCAd<=qCA5/\∀(x:Nat),smT[Int.toNat (Znr n)]? =some x->qCAo<=wr IntKind.u32 (qCAl n)/\wr IntKind.u32 (qCAl n)+qCAd<=qCA5/\∀(x_1:Nat),smT[Int.toNat (Znz n)]? =some x_1->qCAo<=wr IntKind.u32 (Zb1 n)/\wr IntKind.u32 (Zb1 n)+qCAd<=qCA5/\∀(x_2:Nat),smT[Int.toNat (Zns n)]? =some x_2->qCAo<=wr IntKind.u32 (qCAh n)/\wr IntKind.u32 (qCAh n)+qCAd<=qCA5/\∀(x_3:Nat),smT[Int.toNat (Zn0 n)]? =some x_3->qCAo<=wr IntKind.u32 (Zb2 n)/\wr IntKind.u32 (Zb2 n)+qCAd<=qCA5/\∀(x_4:Nat),smT[Int.toNat (Znt n)]? =some x_4->qCAo<=wr IntKind.u32 (qCAi n)/\wr IntKind.u32 (qCAi n)+qCAd<=qCA5/\∀(x_5:Nat),smT[Int.toNat (Zn1 n)]? =some x_5->qCAo<=wr IntKind.u32 (Zb3 n)/\wr IntKind.u32 (Zb3 n)+qCAd<=qCA5/\∀(x_6:Nat),smT[Int.toNat (Znu n)]? =some x_6->qCAo<=wr IntKind.u32 (qCAa n)/\wr IntKind.u32 (qCAa n)+qCAd<=qCA5/\∀(x_7:Nat),smT[Int.toNat (Zn2 n)]? =some x_7->qCAo<=wr IntKind.u32 (Znl n)/\wr IntKind.u32 (Znl n)+qCAd<=qCA5/\∀(x_8:Nat),smT[Int.toNat (wr IntKind.u32 (Znl n))]? =some x_8->qCAo<=wr IntKind.u32 (qCAy n)/\wr IntKind.u32 (qCAy n)+qCAd<=qCA5/\∀(x_9:Nat),smT[Int.toNat (wr IntKind.u32 (qCAy n))]? =some x_9->qCAo<=wr IntKind.u32 (Znm n)/\wr IntKind.u32 (Znm n)+qCAd<=qCA5/\∀(x_10:Nat),smT[Int.toNat (wr IntKind.u32 (Znm n))]? =some x_10->qCAo<=wr IntKind.u32 (qCAu n)/\wr IntKind.u32 (qCAu n)+qCAd<=qCA5/\∀(x_11:Nat),smT[Int.toNat (wr IntKind.u32 (qCAu n))]? =some x_11->(decide (Zx n)=true-> [Int.toNat X7%qCA8,Int.toNat (Z50 n)%qCA8,Int.toNat (qCAr x_11)%qCA8,Int.toNat (qCAr x_10)%qCA8,Int.toNat (qCAr x_9)%qCA8,Int.toNat (qCAr x_8)%qCA8,Int.toNat (qCAr x_7)%qCA8,Int.toNat (qCAr x_6)%qCA8,Int.toNat (qCAr x_5)%qCA8,Int.toNat (qCAr x_4)%qCA8,Int.toNat (qCAr x_3)%qCA8,Int.toNat (qCAr x_2)%qCA8,Int.toNat (qCAr x_1)%qCA8,Int.toNat (qCAr x)%qCA8]=v)/\(decide (Zx n)=false-> [Int.toNat (Z50 n)%qCA8,Int.toNat (qCAr x_11)%qCA8,Int.toNat (qCAr x_10)%qCA8,Int.toNat (qCAr x_9)%qCA8,Int.toNat (qCAr x_8)%qCA8,Int.toNat (qCAr x_7)%qCA8,Int.toNat (qCAr x_6)%qCA8,Int.toNat (qCAr x_5)%qCA8,Int.toNat (qCAr x_4)%qCA8,Int.toNat (qCAr x_3)%qCA8,Int.toNat (qCAr x_2)%qCA8,Int.toNat (qCAr x_1)%qCA8,Int.toNat (qCAr x)%qCA8]=v))/\True))):=by kernel_rfl
end
section
open Go
theorem Z8y:∀(k u:Nat),u<10^(k+1)->Lib.nDigits u<=k+1
 |0,u,h=>by rw [Lib.nDigits_small (by simpa using h)];exact Nat.le_refl _
 |k+1,u,h=>by
  by_cases h1:u<10
  · rw [Lib.nDigits_small h1];omega
  · rw [Lib.nDigits_big h1]
    rw [Nat.pow_succ] at h
    have:=Z8y k (u/10) (by omega)
    omega
theorem Zws {u:Int} {k:Res thy->Prop}:∀{l:List Int},ndK u k l->∀j∈l,(Lib.nDigits u.toNat:Int)=j->k (Zd [] (.int true .i64 j))
 | [],_,j,hj,_=>by cases hj
 |x::r,h,j,hj,e=>by
  rcases List.mem_cons.1 hj with rfl|hj
  · exact h.1 e
  · exact Zws h.2 j hj e
theorem in13 (d:Nat) (h1:1<=d) (h2:d<=13):(d:Int)∈ [(1:Int),2,3,4,5,6,7,8,9,10,11,12,13]:=by
 have:d=1\/d=2\/d=3\/d=4\/d=5\/d=6\/d=7\/d=8\/d=9\/d=10\/d=11\/d=12\/d=13:=by omega
 rcases this with rfl|rfl|rfl|rfl|rfl|rfl|rfl|rfl|rfl|rfl|rfl|rfl|rfl<;>decide
theorem Z8z:SumOk E 165 Snd:=by
 have hS:SumOk E 165 (Vq (dA1 dU64) (fun x=>1<=x.1/\x.1<10000000000000) (fun x=>Lib.nDigits x.1.toNat) fun (y:Nat)=> .int true .i64 y):=Z4 E_ok (Zc rfl) fun x h=>by
  have:=Z3z x.1.toNat (by omega) (by omega)
  rw [show ((x.1.toNat:Nat):Int)=x.1 by omega] at this
  intro g w vals hI hd
  refine (this g w vals hI hd).mono ?_
  rintro en w' ⟨u,he,g',h1,h2,h3⟩
  cases h3
  exact ⟨_,he,g',h1,h2,.int _ _ _⟩
 refine ⟨hS.good,fun args h i k hD hk=> ?_⟩
 unfold Snd at hk
 split at hk
 case h_2=>exact hk.elim
 rename_i l u
 obtain ⟨⟨h1,h2⟩,hk⟩:=hk
 refine hS.ok _ h i k hD ⟨⟨h1,h2⟩,fun y hy=> ?_⟩
 subst hy
 have hn:=Z8y 12 u.toNat (by show u.toNat<10000000000000;omega)
 have hp:=Lib.nDigits_pos u.toNat
 refine Zws hk _ (in13 _ hp hn) rfl
theorem Zwt:SumOk E 164 Z20:=Z4 E_ok (Zc rfl) fun x h=>by
 have:=Zrc x.1.toNat (by omega)
 rw [show ((x.1.toNat:Nat):Int)=x.1 by omega] at this
 have e:Lib.itoa x.1=Lib.decDigits x.1.toNat:=by unfold Lib.itoa;rw [if_neg (by omega)]
 rw [e]
 exact this
theorem Z80:FnsOk E Fit:=Zb (Zb F0_ok Z8z) Zwt
def smV (i:Nat):Nat:=if i%2=0 then 48+i/2/10 else 48+i/2%10
theorem Z5c:∀i,i<200->smT[i]? =some (smV i):=by decide+kernel
theorem Z5d:smT.length=200:=by decide+kernel
theorem Z81 {e:Int} {P:Nat->Prop} (h0:0<=e) (h1:e<200) (h:P (smV e.toNat)):(0:Int)<=e/\e+(1:Int)<=(↑(List.length smT):Int)/\∀(x:Nat),smT[Int.toNat e]? =some x->P x:=by
 refine ⟨h0,by rw [Z5d];omega,fun x hx=> ?_⟩
 rw [Z5c _ (by omega)] at hx
 cases hx
 exact h
theorem smE {x:Int} (h0:0<=x) (h1:x<100):smV (x*2).toNat%(256:Nat)=48+x.toNat/10:=by
 have:smV (x*2).toNat=48+x.toNat/10:=by
  unfold smV
  rw [if_pos (by omega)]
  congr 2
  omega
 rw [this]
 omega
theorem smO {x:Int} (h0:0<=x) (h1:x<100):smV (x*2+1).toNat%(256:Nat)=48+x.toNat%10:=by
 have:smV (x*2+1).toNat=48+x.toNat%10:=by
  unfold smV
  rw [if_neg (by omega)]
  congr 2
  omega
 rw [this]
 omega
theorem wu64 (x:Int):wr .u64 x=x%18446744073709551616:=rfl
theorem wu32 (x:Int):wr .u32 x=x%4294967296:=rfl
theorem wu8 (x:Int):wr .u8 x=x%256:=rfl
def dgN (u j:Nat):Nat:=48+u/10^j%10
theorem Z0s (u k:Nat) (h:Lib.nDigits u=k):(Lib.decDigits u).map UInt8.toNat=(List.range k).map fun t=>dgN u (k-1-t):=by
 rw [Lib.decDigits_eq,List.map_map,h]
 refine List.map_congr_left fun t _=> ?_
 show (Lib.dg u (k-1-t)).toNat=_
 unfold Lib.dg dgN
 rw [UInt8.toNat_ofNat']
 omega
set_option maxHeartbeats 4000000 in
theorem Zwu (u:Nat) (hu:u<10000000000000):PureC E 117 [.int false .i64 (u:Int)] (.str false (decN u)):=by
 refine Za E_ok (Zg E_ok Z80 2000) ?_
 rw [Zxl]; delta qCAo qCA6 qCAd Zx qCAz X7 qCA8 U9 qCA3 qCAc Zng qCA5 qCAw qCAr Z5t Zcn qCAm Zco qCAj Z52 Z5u Znh qCAq Z5s Z53 Z5p Zbw Znn qCAk Znv Zbx Zno qCAf Znw Zby Znp qCAg Znx Zbz Znq qCA9 Zny Z5r Znd Zk1 Z5v Zni qCAx Znj qCAs Z5w qCAv Z51 Zne Zk2 Z5x Zcp qCAp Zcq qCAn Z5y Znk qCAt Z5q Zb0 Znr qCAl Znz Zb1 Zns qCAh Zn0 Zb2 Znt qCAi Zn1 Zb3 Znu qCAa Zn2 Z5o Znf Zk3 Z5z Znl qCAy Znm qCAu Z50 qCA7 qCA4 Znc qCA2 qCAe qCAb qCA1 Zk0
 have hdec:decN (u:Int)=(Lib.decDigits u).map UInt8.toNat:=by
  unfold decN Lib.itoa
  rw [if_neg (by omega)]
  rfl
 by_cases hs:u<100
 · refine ⟨fun b=>b=true,⟨fun _=>⟨fun _=>rfl,fun h=> ?_⟩,fun h=> ?_⟩,fun _=>⟨⟨by omega,by omega⟩,fun y hy=>hy⟩,fun h=>by cases h⟩
   · exact absurd h (by simp;omega)
   · exact absurd h (by simp)
 refine ⟨fun b=>b=false,⟨fun _=>⟨fun h=> ?_,fun _=>rfl⟩,fun _=>rfl⟩,fun h=>(by cases h),fun _=>⟨fun h=> ?_,fun _=> ?_⟩⟩
 · exact absurd h (by simp;omega)
 · exact absurd h (by simp)
 have e64:wr .u64 (u:Int)=u:=by rw [wu64];omega
 have hneg:decide ((u:Int)<0)=false:=by simp
 simp only [e64,hneg,Bool.false_eq_true,false_implies,true_implies,true_and,Int.toNat_natCast,and_true]
 rw [hdec]
 have hp:=Lib.lt_pow_nDigits u
 refine ⟨⟨by omega,by omega⟩,?_⟩
 repeat' apply And.intro
 all_goals
  intro hnd
  have hnd:=Int.ofNat.inj hnd
  rw [Z0s u _ hnd]
  rw [hnd] at hp
  simp only [Nat.reducePow] at hp
  clear hnd hdec e64 hneg
  simp (disch:=omega) only [wu64,wu32,wu8,Int.tmod_eq_emod_of_nonneg,Int.tdiv_eq_ediv_of_nonneg]
  simp (disch:=omega) only [Int.emod_eq_of_lt]
  repeat' (first|(refine Z81 ?_ ?_ ?_)|omega)
  all_goals try simp only [List.range,List.range.loop,List.map_cons,List.map_nil,dgN,List.cons.injEq,and_true,Nat.reduceSub,Nat.reducePow]
  all_goals (repeat' apply And.intro)
  all_goals try simp (disch:=omega) only [smE,smO]
  all_goals first|trivial|omega
end
section
open Go.RowKit
section
variable {Y : Thy} {E : Eng Y}
def celS (E:Eng Y) (th:Y.Th) (st:Option (List (Y.dom th)×Nat)) (c:Nat):SV Y:=
 match st with
 |some p=> .sl c 0 p.1.length (E.w th) none
 |none=> .val (.slice none 0 0)
def hpP (E:Eng Y) (th:Y.Th) (st:Option (List (Y.dom th)×Nat)):Hp Y:=fun b=>
 match Nat.beq b 0 with
 |true=>some (.raw [celS E th st 1] 0 none)
 |false=>(match Nat.beq b 1 with
  |true=>(match st with|some p=>some (.rows th p.1 p.2)|none=>none)
  |false=>none)
def fzO {α:Type} (st:Option (α×Nat)):Nat:=match st with|some p=>p.2|none=>0
def mdO {α:Type} (st:Option (α×Nat)) (b c:Nat):List Nat:=match st with|some _=> [b,c]|none=> [b]
def prnR (E:Eng Y) (th:Y.Th) (st:Option (List (Y.dom th)×Nat)) (b c i:Nat) (l':List (Y.dom th)):Res Y:=
 ⟨.tup [],1,mdO st b c,fun x=>match Nat.beq x b with|true=>some (.raw [.sl i 0 l'.length (E.w th) none] 0 none)|false=>at1 i (some (.rows th l' (fzO st))) x,none⟩
def PrnC (E:Eng Y) (f:Nat) (th:Y.Th) (args:List (SV Y)) (st:Option (List (Y.dom th)×Nat)) (l':List (Y.dom th)):Prop:=
 ∀(b c:Nat) (h:Hp Y) (i:Nat) (tg:Option Y.Th),h b=some (.raw [celS E th st c] 0 tg)->(∀p,st=some p->h c=some (.rows th p.1 p.2)/\b≠c)->Ub E f (.ptr b 0::args) h i (prnR E th st b c i l')
def prnK (E:Eng Y) (th:Y.Th) (st:Option (List (Y.dom th)×Nat)) (l':List (Y.dom th)) (r:Res Y):Prop:=
 match r.v,patch (hpP E th st) 2 r 0 with
 | .tup [],some (.raw [.sl c 0 n w none] 0 _)=>
  (match Nat.ble 1 c&&Nat.beq w (E.w th),patch (hpP E th st) 2 r c with
  |true,some (.rows th' L fz')=>Zam L fun L=>L=l'/\n=l'.length/\fz'=fzO st
  |_,_=>False)
 |_,_=>False
theorem Yay (th:Y.Th) (st:Option (List (Y.dom th)×Nat)):hpP E th st 0=some (.raw [celS E th st 1] 0 none):=rfl
theorem Uh {th:Y.Th} {st:Option (List (Y.dom th)×Nat)} {x:Nat} {y:Blk Y} (h:hpP E th st x=some y):(x=0/\y= .raw [celS E th st 1] 0 none)\/(x=1/\∃p,st=some p/\y= .rows th p.1 p.2):=by
 match x,h with
 |0,h=>rw [Yay] at h;cases h;exact .inl ⟨rfl,rfl⟩
 |1,h=>
  cases st with
  |none=>cases h
  |some p=>
   have h:some (Blk.rows th p.1 p.2:Blk Y)=some y:=h
   cases h
   exact .inr ⟨rfl,p,rfl,rfl⟩
 |x+2,h=>cases h
theorem Z44 (th:Y.Th) (st:Option (List (Y.dom th)×Nat)):DomLt (hpP E th st) 2:=fun b hb=>by
 obtain ⟨y,hy⟩:=Option.ne_none_iff_exists'.1 hb
 rcases Uh hy with ⟨rfl,_⟩|⟨rfl,_⟩<;>omega
def σP {α:Type} (st:Option α) (σ:Pl) (b c:Nat):Pl:=fun x=>
 match Nat.beq x 0 with
 |true=>σ b
 |false=>(match Nat.beq x 1 with
  |true=>(match st with|some _=>σ c|none=>none)
  |false=>none)
theorem σP_cases {α:Type} {st:Option α} {σ:Pl} {b c x:Nat} {q:Nat×Nat} (h:σP st σ b c x=some q):(x=0/\σ b=some q)\/(x=1/\(∃p,st=some p)/\σ c=some q):=by
 match x,h with
 |0,h=>exact .inl ⟨rfl,h⟩
 |1,h=>
  cases st with
  |none=>cases h
  |some p=>exact .inr ⟨rfl,⟨p,rfl⟩,h⟩
 |x+2,h=>cases h
theorem mdO_mem {α:Type} {st:Option (α×Nat)} {b c x:Nat}:x∈mdO st b c↔x=b\/(x=c/\∃p,st=some p):=by
 cases st with
 |none=>simp [mdO]
 |some p=>simp [mdO]
open Classical in
theorem Zc2 (hE:EngOk E) {call:Nat->List (SV Y)->Hp Y->Nat->(Res Y->Prop)->Prop} (hcall:Ve E call) {f:Nat} {th:Y.Th} {args:List (SV Y)} {st:Option (List (Y.dom th)×Nat)} {l':List (Y.dom th)} (ha:nidL 0 args=true)
 (hk:call f (.ptr 0 0::args) (hpP E th st) 2 (prnK E th st l')):PrnC E f th args st l':=by
 intro b c h i tg hb hc
 obtain ⟨r,hr,hR,htri⟩:=hcall f _ _ _ _ (Z44 th st) hk
 have hmods:∀x∈r.mods,x=0\/(x=1/\∃p,st=some p):=by
  intro x hx
  obtain ⟨y,hy⟩:=Option.ne_none_iff_exists'.1 (hR x hx)
  rcases Uh hy with ⟨h1,_⟩|⟨h1,p,h2,_⟩
  · exact .inl h1
  · exact .inr ⟨h1,p,h2⟩
 unfold prnK at hr
 split at hr
 case h_2=>exact hr.elim
 rename_i c' n' w' tg' hv hp0
 split at hr
 case h_2=>exact hr.elim
 rename_i th' L fz' hc1 hpc
 obtain ⟨e,hr⟩:=Xd hr
 subst e
 obtain ⟨rfl,rfl,rfl⟩:l'=L/\n'=l'.length/\fz'=fzO st:=⟨hr.1.symm,hr.2⟩
 rw [Bool.and_eq_true,Nat.ble_eq] at hc1
 obtain ⟨hc1,hw⟩:=hc1
 have hw:=Nat.eq_of_beq_eq_true hw
 subst hw
 replace htri:Ub E f (.ptr 0 0::args) (hpP E th' st) 2 r:=htri.resolve_right (by rintro ⟨p,hp,_⟩;rw [hv] at hp;cases hp)
 intro B σ g W vals hh hrd hI hB hfree hd
 obtain rfl:hh=h:=funext fun b=>hrd b trivial
 obtain ⟨rb,zb,hσb,hbo⟩:=hI.blk b _ hb
 have hbn:hh b≠none:=by rw [hb];simp
 have F0:σP st σ b c 0=σ b:=rfl
 have F1:∀p,st=some p->σP st σ b c 1=σ c:=by rintro p rfl;rfl
 have bc:∀p,st=some p->b≠c:=fun p hp=>(hc p hp).2
 have cn:∀p,st=some p->hh c≠none:=fun p hp=>by rw [(hc p hp).1];simp
 have reg:∀p q z z',st=some p->σ b=some (q,z)->σ c=some (q,z')->False:=fun p q z z' hp h1 h2=>bc p hp (hI.inj b c q z z' hbn (cn p hp) h1 h2)
 have hI1:Inv E B (σP st σ b c) (hpP E th' st) g W:=by
  refine ⟨hI.gc,hI.gm,fun x y hx=> ?_,fun x x' r z z' h1 h2 h3 h4=> ?_,fun x r' z' hs=> ?_,fun x y r' z' o v hx hs hv=> ?_,fun x y r' z' hx hs=> ?_,hI.glob⟩
  · rcases Uh hx with ⟨rfl,rfl⟩|⟨rfl,p,hp,rfl⟩
    · refine ⟨rb,zb,hσb,?_⟩
      obtain ⟨arr,e,k1,k2,k3,k4,k5⟩:=hbo
      refine ⟨arr,e,k1,k2,k3,fun j sv hj=> ?_,trivial⟩
      cases j with
      |succ j=>cases hj
      |zero=>
       have hj:some (celS E th' st 1)=some sv:=hj
       cases hj
       obtain ⟨v,m1,m2⟩:=k4 0 _ (show ([celS E th' st c]:List (SV Y))[0]? =some _ from rfl)
       refine ⟨v,m1,?_⟩
       cases st with
       |none=>exact Z0 hE m2 (fun b p hb=>by omega) (show nid 0 (celS E th' none 1)=true from rfl)
       |some p=>
        obtain ⟨r1,z1,c1,rfl,k1,k2,k3,k4,k5⟩:=Zac (show Den E σ g (.sl c 0 p.1.length (E.w th') none) v from m2)
        exact .sl (E:=E) (b:=1) k1 k2 k3 k4 k5
    · obtain ⟨r1,z1,k1,arr,e,k2,k3,k4,k5,k6⟩:=hI.blk c _ (hc p hp).1
      refine ⟨r1,z1,(F1 p hp).trans k1,arr,e,k2,k3,k4,fun j sv hj=> ?_,k6⟩
      obtain ⟨v,m1,m2⟩:=k5 j sv hj
      have hn:nid 0 sv=true:=by
       obtain ⟨q,p,x,rfl,hp,hq,hs⟩:=Xg hE th' _ hj
       exact Zp (hE.encI _ _ _) hs
      exact ⟨v,m1,Z0 hE m2 (fun b p hb=>by omega) hn⟩
  · rcases σP_cases h3 with ⟨rfl,h3⟩|⟨rfl,⟨p,hp⟩,h3⟩<;>rcases σP_cases h4 with ⟨rfl,h4⟩|⟨rfl,⟨p',hp'⟩,h4⟩
    · rfl
    · exact (reg p' _ _ _ hp' h3 h4).elim
    · exact (reg p _ _ _ hp h4 h3).elim
    · rfl
  · rcases σP_cases hs with ⟨rfl,hs⟩|⟨rfl,_,hs⟩
    · exact hI.base b _ _ hs
    · exact hI.base c _ _ hs
  · rcases Uh hx with ⟨rfl,rfl⟩|⟨rfl,p,hp,rfl⟩
    · have h2:o<0:=hI.fz b _ _ _ o v hb hs hv
      omega
    · rw [F1 p hp] at hs
      exact hI.fz c _ _ _ o v (hc p hp).1 hs hv
  · rcases Uh hx with ⟨rfl,rfl⟩|⟨rfl,p,hp,rfl⟩
    · exact hI.fm b _ _ _ hb hs
    · rw [F1 p hp] at hs
      exact hI.fm c _ _ _ (hc p hp).1 hs
 have hd1:DenL E (σP st σ b c) g (.ptr 0 0::args) vals.toList:=by
  refine ⟨by rw [<-hd.1];rfl,fun j sv u h1 h2=> ?_⟩
  cases j with
  |zero=>
   simp at h1;subst h1
   have:=hd.2 0 _ u rfl h2
   cases this
   rename_i hs
   exact .ptr (E:=E) (b:=0) hs
  |succ j=>
   have h1:args[j]? =some sv:=by simpa using h1
   exact Z0 hE (hd.2 (j+1) sv u (by simpa using h1) h2) (fun b p hb=>by omega) (Zp ha h1)
 refine (htri B _ g W vals _ (fun _ _=>rfl) hI1 hB (fun x h1 h2=>by match x,h1 with|x+2,_=>rfl) hd1).mono ?_
 rintro en w' ⟨u,he,σ',g',hS,hI',hv'⟩
 have hs0:σ' 0=some (rb,zb):=hS.sig 0 _ hσb
 obtain ⟨r1,z1,k1⟩:∃r1 z1,σ' c'=some (r1,z1):=by
  obtain ⟨r1,z1,m1,_⟩:=hI'.blk c' _ hpc
  exact ⟨r1,z1,m1⟩
 have hc0:c'≠0:=by omega
 have hne0:patch (hpP E th' st) 2 r 0≠none:=by rw [hp0];simp
 have hnec:patch (hpP E th' st) 2 r c'≠none:=by rw [hpc];simp
 have hrb:r1≠rb:=by
  rintro rfl
  exact hc0 (hI'.inj c' 0 _ _ _ hnec hne0 k1 hs0)
 have hr1:W.heap.size<=r1\/∃z' p,st=some p/\σ c=some (r1,z'):=by
  cases hs1:σP st σ b c c' with
  |some q=>
   have:=hS.sig c' _ hs1
   rw [k1] at this;cases this
   rcases σP_cases hs1 with ⟨h0,_⟩|⟨_,⟨p,hp⟩,h2⟩
   · exact absurd h0 hc0
   · exact .inr ⟨z1,p,hp,h2⟩
  |none=>
   rcases hS.blk c' r1 z1 hs1 k1 with h1|⟨b',h1,z',h2⟩
   · exact .inl h1
   · rcases σP_cases h2 with ⟨rfl,h3⟩|⟨_,⟨p,hp⟩,h3⟩
     · rw [hσb] at h3;cases h3;exact absurd rfl hrb
     · exact .inr ⟨z',p,hp,h3⟩
 have hheap:∀q,q<W.heap.size->q≠rb->(∀p z,st=some p->σ c≠some (q,z))->w'.heap[q]? =W.heap[q]? :=by
  intro q hq hne hne2
  refine hS.heap q hq fun b' hb' z' hz'=> ?_
  rcases σP_cases hz' with ⟨rfl,h2⟩|⟨_,⟨p,hp⟩,h2⟩
  · rw [hσb] at h2;cases h2;exact hne rfl
  · exact hne2 p z' hp h2
 have hi:σ i=none:=hfree i (Nat.le_refl _) (by show i<i+1;omega)
 have hbi:b≠i:=by rintro rfl;rw [hσb] at hi;cases hi
 have hci:∀p,st=some p->c≠i:=by
  rintro p hp rfl
  obtain ⟨r2,z2,m1,_⟩:=hI.blk c _ (hc p hp).1
  rw [hi] at m1;cases m1
 have hpatch:∀x,patch hh i (prnR E th' st b c i l') x=if x=b then some (.raw [.sl i 0 l'.length (E.w th') none] 0 none) else if x=i then some (.rows th' l' (fzO st)) else if x=c/\(∃p,st=some p) then none else hh x:=by
  intro x
  rw [Zh]
  by_cases e1:x=b
  · subst e1
    rw [if_pos (.inl (mdO_mem.2 (.inl rfl))),if_pos rfl]
    show (match Nat.beq x x with|true=>_|false=>_)=_
    rw [Nat.beq_refl]
  · rw [if_neg e1]
    have hb1:Nat.beq x b=false:=by
     cases e:Nat.beq x b with
     |true=>exact absurd (Nat.eq_of_beq_eq_true e) e1
     |false=>rfl
    have hh1:(prnR E th' st b c i l').h x=at1 i (some (.rows th' l' (fzO st))) x:=by
     show (match Nat.beq x b with|true=>_|false=>_)=_
     rw [hb1]
    by_cases e2:x=i
    · subst e2
      rw [if_pos (.inr ⟨Nat.le_refl _,(by show x<x+1;omega)⟩),if_pos rfl,hh1]
      unfold at1
      rw [Nat.beq_refl]
    · rw [if_neg e2]
      have hat:at1 i (some (.rows th' l' (fzO st):Blk Y)) x=none:=by
       unfold at1
       cases e:Nat.beq x i with
       |true=>exact absurd (Nat.eq_of_beq_eq_true e) e2
       |false=>rfl
      by_cases e3:x=c/\∃p,st=some p
      · rw [if_pos e3,if_pos (.inl (mdO_mem.2 (.inr e3))),hh1,hat]
      · rw [if_neg e3,if_neg]
        rintro (k|k)
        · rcases mdO_mem.1 k with k|k
          · exact e1 k
          · exact e3 k
        · have k:i<=x/\x<i+1:=k
          omega
 have src:∀x y,patch hh i (prnR E th' st b c i l') x=some y->(x=b/\y= .raw [.sl i 0 l'.length (E.w th') none] 0 none)\/(x=i/\y= .rows th' l' (fzO st))\/(x≠i/\x≠b/\(∀p,st=some p->x≠c)/\hh x=some y):=by
  intro x y hy
  rw [hpatch] at hy
  split at hy
  · rename_i e
    cases hy
    exact .inl ⟨e,rfl⟩
  · rename_i e
    split at hy
    · rename_i e2
      cases hy
      exact .inr (.inl ⟨e2,rfl⟩)
    · rename_i e2
      split at hy
      · cases hy
      · rename_i e3
        exact .inr (.inr ⟨e2,e,fun p hp hx=>e3 ⟨hx,p,hp⟩,hy⟩)
 have sgi:(match Nat.beq i i with|true=>σ' c'|false=>σ i)=some (r1,z1):=by rw [Nat.beq_refl];exact k1
 have sgx:∀x,x≠i->(match Nat.beq x i with|true=>σ' c'|false=>σ x)=σ x:=by
  intro x hx
  cases e:Nat.beq x i with
  |true=>exact absurd (Nat.eq_of_beq_eq_true e) hx
  |false=>rfl
 have far:∀x y q z',x≠b->(∀p,st=some p->x≠c)->hh x=some y->σ x=some (q,z')->q<W.heap.size/\q≠rb/\(∀p z,st=some p->σ c≠some (q,z)):=by
  intro x y q z' hx hx2 hy hs
  have hxn:hh x≠none:=by rw [hy];simp
  refine ⟨(hI.base x q z' hs).2,?_,fun p z hp hq=>hx2 p hp (hI.inj x c _ _ _ hxn (cn p hp) hs hq)⟩
  rintro rfl
  exact hx (hI.inj x b _ _ _ hxn hbn hs hσb)
 have far1:∀x y q z',x≠b->(∀p,st=some p->x≠c)->hh x=some y->σ x=some (q,z')->q≠r1:=by
  rintro x y q z' hx hx2 hy hs rfl
  obtain ⟨m1,m2,m3⟩:=far x y q z' hx hx2 hy hs
  rcases hr1 with h1|⟨z2,p,hp,h1⟩
  · omega
  · exact m3 p z2 hp h1
 have far0:rb<W.heap.size:=(hI.base b _ _ hσb).2
 refine ⟨_,he,fun x=>match Nat.beq x i with|true=>σ' c'|false=>σ x,g',⟨fun x p hx=> ?_,fun x p hx=> ?_,hS.gle,fun q o v hv=> ?_,hS.gmnew,fun q hq hne=> ?_,hS.size,hS.os,hS.tape,hS.output,fun x q z' hx hx'=> ?_⟩,?_,?_⟩
 · exact (sgx x (fun e=>by rw [e,hi] at hx;cases hx)).trans hx
 · by_cases e:x=i
   · exact .inr (by show i<=x/\x<i+1;omega)
   · have hx:(match Nat.beq x i with|true=>σ' c'|false=>σ x)=some p:=hx
     rw [sgx x e] at hx
     exact .inl hx
 · rcases hS.gcnew q o v hv with h1|h1|⟨b',h1,z',h2⟩
   · exact .inl h1
   · exact .inr (.inl h1)
   · rcases σP_cases h2 with ⟨rfl,h2⟩|⟨_,hp,h2⟩
     · exact .inr (.inr ⟨b,mdO_mem.2 (.inl rfl),_,h2⟩)
     · exact .inr (.inr ⟨c,mdO_mem.2 (.inr ⟨rfl,hp⟩),_,h2⟩)
 · exact hheap q hq (fun e=>hne b (mdO_mem.2 (.inl rfl)) zb (by rw [hσb,e])) fun p z hp=>hne c (mdO_mem.2 (.inr ⟨rfl,p,hp⟩)) z
 · have hx':(match Nat.beq x i with|true=>σ' c'|false=>σ x)=some (q,z'):=hx'
   by_cases e:x=i
   · subst e
     rw [sgi] at hx';cases hx'
     rcases hr1 with h1|⟨z2,p,hp,h1⟩
     · exact .inl h1
     · exact .inr ⟨c,mdO_mem.2 (.inr ⟨rfl,p,hp⟩),z2,h1⟩
   · rw [sgx x e,hx] at hx';cases hx'
 · refine ⟨hI'.gc,hI'.gm,fun x y hx=> ?_,fun x x' q z1' z2' h1 h2 h3 h4=> ?_,fun x q z' hs=> ?_,fun x y q z' o v hx hs hv=> ?_,fun x y q z' hx hs=> ?_,hI'.glob⟩
   · rcases src x y hx with ⟨rfl,rfl⟩|⟨rfl,rfl⟩|⟨e1,e2,e3,e4⟩
     · refine ⟨rb,zb,(sgx x hbi).trans hσb,?_⟩
       obtain ⟨r2,z2,m1,arr,e,n1,n2,n3,n4,n5⟩:=hI'.blk 0 _ hp0
       rw [hs0] at m1;cases m1
       refine ⟨arr,e,n1,n2,n3,fun j sv hj=> ?_,trivial⟩
       cases j with
       |succ j=>cases hj
       |zero=>
        have hj:some (SV.sl i 0 l'.length (E.w th') none:SV Y)=some sv:=hj
        cases hj
        obtain ⟨v,q1,q2⟩:=n4 0 _ (show ([.sl c' 0 l'.length (E.w th') none]:List (SV Y))[0]? =some _ from rfl)
        refine ⟨v,q1,?_⟩
        obtain ⟨r3,z3,c3,rfl,u1,u2,u3,u4,u5⟩:=Zac (show Den E σ' g' (.sl c' 0 l'.length (E.w th') none) v from q2)
        refine .sl (E:=E) (b:=i) (z:=z3) ?_ u2 u3 u4 u5
        show (match Nat.beq i i with|true=>σ' c'|false=>σ i)=_
        rw [Nat.beq_refl]
        exact u1
     · refine ⟨r1,z1,sgi,?_⟩
       obtain ⟨r2,z2,m1,m2⟩:=hI'.blk c' _ hpc
       rw [k1] at m1;cases m1
       obtain ⟨arr,e,m1,m3,m4,m5,m6⟩:=m2
       refine ⟨arr,e,m1,m3,m4,fun j sv hj=> ?_,m6⟩
       obtain ⟨v,n1,n2⟩:=m5 j sv hj
       have hn:nid 0 sv=true:=by
        obtain ⟨q,p,x,rfl,hp,hq,hs⟩:=Xg hE th' _ hj
        exact Zp (hE.encI _ _ _) hs
       exact ⟨v,n1,Z0 hE n2 (fun b p hb=>by omega) hn⟩
     · obtain ⟨q,z',m1,m2⟩:=hI.blk x y e4
       obtain ⟨m3,m4,m5⟩:=far x y q z' e2 e3 e4 m1
       refine ⟨q,z',(sgx x e1).trans m1,?_⟩
       refine m2.mono (fun x p hx=> ?_) hS.gle (hheap q m3 m4 m5)
       show (match Nat.beq x i with|true=>σ' c'|false=>σ x)=some p
       rw [sgx x (fun e=>by rw [e,hi] at hx;cases hx)]
       exact hx
   · obtain ⟨y,hy⟩:=Option.ne_none_iff_exists'.1 h1
     obtain ⟨y',hy'⟩:=Option.ne_none_iff_exists'.1 h2
     rcases src x y hy with ⟨rfl,rfl⟩|⟨rfl,rfl⟩|⟨e1,e2,e3,e4⟩<;>rcases src x' y' hy' with ⟨rfl,rfl⟩|⟨rfl,rfl⟩|⟨d1,d2,d3,d4⟩
     · rfl
     · rw [sgx x hbi,hσb] at h3;cases h3
       rw [sgi] at h4;cases h4
       exact absurd rfl hrb
     · rw [sgx x hbi,hσb] at h3;cases h3
       rw [sgx x' d1] at h4
       exact absurd rfl (far x' y' _ _ d2 d3 d4 h4).2.1
     · rw [sgi] at h3;cases h3
       rw [sgx x' hbi,hσb] at h4;cases h4
       exact absurd rfl hrb
     · rfl
     · rw [sgi] at h3;cases h3
       rw [sgx x' d1] at h4
       exact absurd rfl (far1 x' y' _ _ d2 d3 d4 h4)
     · rw [sgx x' hbi,hσb] at h4;cases h4
       rw [sgx x e1] at h3
       exact absurd rfl (far x y _ _ e2 e3 e4 h3).2.1
     · rw [sgi] at h4;cases h4
       rw [sgx x e1] at h3
       exact absurd rfl (far1 x y _ _ e2 e3 e4 h3)
     · rw [sgx x e1] at h3
       rw [sgx x' d1] at h4
       exact hI.inj x x' q _ _ (by rw [e4];simp) (by rw [d4];simp) h3 h4
   · by_cases e:x=i
     · subst e
       rw [sgi] at hs;cases hs
       exact hI'.base c' _ _ k1
     · rw [sgx x e] at hs
       exact ⟨(hI.base x q z' hs).1,Nat.lt_of_lt_of_le (hI.base x q z' hs).2 hS.size⟩
   · rcases src x y hx with ⟨rfl,rfl⟩|⟨rfl,rfl⟩|⟨e1,e2,e3,e4⟩
     · rw [sgx x hbi,hσb] at hs;cases hs
       have h2:o<0:=hI'.fz 0 _ _ _ o v hp0 hs0 hv
       omega
     · rw [sgi] at hs;cases hs
       exact hI'.fz c' _ _ _ o v hpc k1 hv
     · rw [sgx x e1] at hs
       obtain ⟨m3,m4,m5⟩:=far x y q z' e2 e3 e4 hs
       rcases hS.gcnew q o v hv with h1|h1|⟨b',h1,z2,h2⟩
       · exact hI.fz x y q z' o v e4 hs h1
       · omega
       · rcases σP_cases h2 with ⟨rfl,h3⟩|⟨_,⟨p,hp⟩,h3⟩
         · rw [hσb] at h3;cases h3;exact absurd rfl m4
         · exact absurd h3 (m5 p z2 hp)
   · rcases src x y hx with ⟨rfl,rfl⟩|⟨rfl,rfl⟩|⟨e1,e2,e3,e4⟩
     · rw [sgx x hbi,hσb] at hs;cases hs
       exact hI'.fm 0 _ _ _ hp0 hs0
     · rw [sgi] at hs;cases hs
       exact hI'.fm c' _ _ _ hpc k1
     · rw [sgx x e1] at hs
       obtain ⟨m3,m4,m5⟩:=far x y q z' e2 e3 e4 hs
       cases hg':g'.obj q with
       |none=>rfl
       |some es=>
        rcases hS.gmnew q es hg' with k|k
        · rw [hI.fm x y q z' e4 hs] at k;cases k
        · omega
 · rw [hv] at hv'
   exact Z0 hE hv' (fun b p hb=>by omega) (show nid 0 (SV.tup ([]:List (SV Y)))=true from rfl)
def sumB (E:Eng Y) (th:Y.Th) {α:Type} (d:DcL E α) (pre:List (Y.dom th)->α->Prop) (f:List (Y.dom th)->α->List (Y.dom th)):Sum Y:=fun args h i k=>
 match args with
 | .ptr b 0::rest=>
  (match h b,d.dec rest with
  |some (.raw [.sl c 0 len w none] 0 _),some x=>
   (match h c,Nat.beq w (E.w th)&& !(Nat.beq b c) with
   |some (.rows th' l fz),true=>Zam l fun l=>(len=l.length/\fz<=l.length/\pre l x)/\∀l',l'=f l x->k (prnR E th (some (l,fz)) b c i l')
   |_,_=>False)
  |some (.raw [.val (.slice none 0 0)] 0 _),some x=>pre [] x/\∀l',l'=f [] x->k (prnR E th none b 0 i l')
  |_,_=>False)
 |_=>False
def Yaz (E:Eng Y) (f:Nat) (th:Y.Th) (args:List (SV Y)) (F:List (Y.dom th)->List (Y.dom th)) (P:List (Y.dom th)->Prop):Prop:=
 (∀l fz,fz<=l.length->P l->PrnC E f th args (some (l,fz)) (F l))/\(P []->PrnC E f th args none (F []))
theorem PrnC.of_dec {α:Type} {d:DcL E α} {f:Nat} {th:Y.Th} {args:List (SV Y)} {x:α} {st:Option (List (Y.dom th)×Nat)} {l':List (Y.dom th)} (hd:d.dec args=some x) (h:PrnC E f th (d.enc x) st l'):PrnC E f th args st l':=by
 obtain ⟨k1,k2,k3⟩:=d.ok _ _ hd
 intro b c hp i tg h1 h2 B σ g w vals hh hrd hI hB hfree hden
 refine h b c hp i tg h1 h2 B σ g w vals hh hrd hI hB hfree ⟨?_,fun j sv' u h5 h6=> ?_⟩
 · rw [<-hden.1,List.length_cons,List.length_cons,k2]
 · cases j with
   |zero=>exact hden.2 0 sv' u h5 h6
   |succ j=>
    obtain ⟨sv,h7,h8⟩:=k3 σ g j sv' (by simpa using h5)
    exact h8 u (hden.2 (j+1) sv u (by simpa using h7) h6)
theorem Zh5 (hE:EngOk E) {th:Y.Th} {α:Type} {f:Nat} (hg:FnGood E.P f) {d:DcL E α} {pre:List (Y.dom th)->α->Prop} {F:List (Y.dom th)->α->List (Y.dom th)} (hp:∀x,Yaz E f th (d.enc x) (fun l=>F l x) (fun l=>pre l x)):SumOk E f (sumB E th d pre F):=by
 refine ⟨hg,fun args h i k hD hk=> ?_⟩
 unfold sumB at hk
 split at hk
 case h_2=>exact hk.elim
 rename_i b rest
 split at hk
 case h_3=>exact hk.elim
 · rename_i c len w tg x hb hx
   split at hk
   case h_2=>exact hk.elim
   rename_i th' l fz hc hw
   rw [Bool.and_eq_true,Bool.not_eq_true'] at hw
   obtain ⟨hw,hbc⟩:=hw
   have hw:=Nat.eq_of_beq_eq_true hw
   have hbc:=nb hbc
   obtain ⟨e,hk2⟩:=Xd hk
   clear hk
   subst e
   subst hw
   obtain ⟨⟨rfl,hfz,hpr⟩,hk3⟩:=hk2
   refine ⟨_,hk3 _ rfl,fun b' hb'=> ?_,.inl (PrnC.of_dec hx ((hp x).1 l fz hfz hpr) b c h i tg hb fun p hp=> ?_)⟩
   · rcases mdO_mem.1 (show b'∈mdO (some (l,fz)) b c from hb') with rfl|⟨rfl,_⟩
     · rw [hb];simp
     · rw [hc];simp
   · cases hp
     exact ⟨hc,hbc⟩
 · rename_i tg x hb hx
   obtain ⟨hpr,hk3⟩:=hk
   refine ⟨_,hk3 _ rfl,fun b' hb'=> ?_,.inl (PrnC.of_dec hx ((hp x).2 hpr) b 0 h i tg hb fun p hp=>by cases hp)⟩
   rcases mdO_mem.1 (show b'∈mdO (none:Option (List (Y.dom th)×Nat)) b 0 from hb') with rfl|⟨_,_,h2⟩
   · rw [hb];simp
   · cases h2
end
end
section
open Go
theorem Zxm {F:Fns thy} (hF:FnsOk E F) {n:Nat} {f:Nat} {th:Th} {args:List (SV thy)} {st:Option (List (thy.dom th)×Nat)} {l':List (thy.dom th)} (ha:nidL 0 args=true) (hk:Zk E F (vc E F n) f (.ptr 0 0::args) (hpP E th st) 2 (prnK E th st l')):PrnC E f th args st l':=
 Zc2 E_ok (Zg E_ok hF n) ha hk
def Aixi:Fr thy->Hp thy->Nat->Ann thy:=fun T h i=>{X:=LX,fr:=fun x=> [(0,T 0),(1,T 1),(7,T 7),(8,.int false .i64 x.k)],bl:=fun x=> [],src:=fun _=> [],md:= [],ih:=i,M:=i+30,meas:=fun x=>x.r}
noncomputable def Fixi:Fns thy:=addL F0 149 2 Aixi E
theorem Z1f (l:List Int) (s:Int) (v:Int):Zk E Fixi (vc E Fixi 400) 149 [.psl Th.dimc l false,.int false .i64 s] hp0 0 (fun r=>ret E (patch hp0 0 r) r.v (.int false .i64 v))=(
∃(R:LX->Prop),(∃(x:LX),R x/\true=true/\((l=l/\(false=true->false=true))/\s=s/\(↑(List.length l):Int)=(↑(List.length l):Int)/\(0:Int)=(↑(LX.k x):Int)/\True)/\True)/\∀(x:LX),R x->(decide ((↑(LX.k x):Int)<(↑(List.length l):Int))=true->(0:Int)<=(↑(LX.k x):Int)/\(↑(LX.k x):Int)+(1:Int)<=(↑(List.length l):Int)/\∀(x_1:Int),l[Int.toNat (↑(LX.k x):Int)]? =some x_1->((s==x_1)=true->(↑(LX.k x):Int)=v)/\((s==x_1)=false->∃(x_2:LX),R x_2/\x_2.2+(1:Nat)<=x.2/\true=true/\((l=l/\(false=true->false=true))/\s=s/\(↑(List.length l):Int)=(↑(List.length l):Int)/\wr IntKind.i64 ((↑(LX.k x):Int)+(1:Int))=(↑(LX.k x_2):Int)/\True)/\True))/\(decide ((↑(LX.k x):Int)<(↑(List.length l):Int))=false->(-1:Int)=v)):=by kernel_rfl
noncomputable def dIs:Dc E (List Int):=(Zrd (E:=E) Th.dimc:Dc E (List (thy.dom Th.dimc)))
noncomputable def Sixi:Sum thy:=Zkr E (fun _=>none) 2 (Vq (dA2 dIs dN) (fun x=>x.1.length<=1000000000) (fun x=>idxI x.2.1 0 x.1) fun y=> .int false .i64 y)
noncomputable def Z9j:Sum thy:=Vq (dA1 dN) (fun x=>0<=x.1/\x.1<10000000000000) (fun x=>decN x.1) fun y=> .str false y
noncomputable def Fpu:Fns thy:=addS (addS (addS F0 42 Zcr) 149 Sixi) 117 Z9j
abbrev qCD4:=(0:Int)
abbrev qCD6:=(↑(4:Nat):Int)
abbrev qCD3:=(Int.toNat qCD6-Int.toNat qCD4)
abbrev qCD1 (a0:Int) (b0:Int) (c0:Int) (d0:Int):=(List.take qCD3 (List.drop (Int.toNat qCD4) [a0,b0,c0,d0]))
abbrev qCD2:=((4:Nat)=(4:Nat)/\qCD4<=qCD4/\qCD4<=qCD6/\qCD6<=qCD6/\(qCD4+(1:Int)<=qCD6\/qCD4=qCD4))
abbrev qCD5:=(↑(List.length (WK.words WK.un)):Int)
theorem Zs3 (l:List (List Nat)) (fz:Nat) (a b c d:Int) (l':List (List Nat)):Zk E Fpu (vc E Fpu 400) 119 [.ptr 0 0,dimA a b c d] (hpP E Th.strs (some (l,fz))) 2 (prnK E Th.strs (some (l,fz)) l')=(
 qCD2/\Int.toNat qCD4+qCD3<=(4:Nat)/\List.length (qCD1 a b c d)<=(1000000000:Nat)/\∀(y:Int),y=idxI (1:Int) (0:Nat) (qCD1 a b c d)->(decide (y>=qCD4)=true->qCD4<=y/\y+(1:Int)<=qCD5/\∀(x:List Nat),(WK.words WK.un)[Int.toNat y]? =some x->(List.length l<=List.length l/\fz<=List.length l/\(List.length l+(1:Nat))*(16:Nat)<=(140737488355328:Nat))/\qCD2/\Int.toNat qCD4+qCD3<=(4:Nat)/\List.length (qCD1 a b c d)<=(1000000000:Nat)/\∀(y:Int),y=idxI (-1:Int) (0:Nat) (qCD1 a b c d)->(decide (y>=qCD4)=true->qCD4<=y/\y+(1:Int)<=qCD5/\∀(x_1:List Nat),(WK.words WK.un)[Int.toNat y]? =some x_1->(List.length l+(1:Nat)<=List.length (List.take (List.length l) l++ [x])/\fz<=List.length l+(1:Nat)/\(List.length l+(1:Nat)+(2:Nat))*(16:Nat)<=(140737488355328:Nat))/\List.take (List.length l+(1:Nat)) (List.take (List.length l) l++ [x])++ [[(112:Nat),(101:Nat),(114:Nat)],x_1]=l'/\List.length l+(1:Nat)+(2:Nat)=List.length l'/\fz=fzO (some (l,fz)))/\(decide (y>=qCD4)=false->List.take (List.length l) l++ [x]=l'/\List.length l+(1:Nat)=List.length l'/\fz=fzO (some (l,fz))))/\(decide (y>=qCD4)=false->qCD2/\Int.toNat qCD4+qCD3<=(4:Nat)/\List.length (qCD1 a b c d)<=(1000000000:Nat)/\∀(y:Int),y=idxI (-1:Int) (0:Nat) (qCD1 a b c d)->(decide (y>=qCD4)=true->qCD4<=y/\y+(1:Int)<=qCD5/\∀(x:List Nat),(WK.words WK.un)[Int.toNat y]? =some x->(List.length l<=List.length l/\fz<=List.length l/\(List.length l+(2:Nat))*(16:Nat)<=(140737488355328:Nat))/\List.take (List.length l) l++ [[(112:Nat),(101:Nat),(114:Nat)],x]=l'/\List.length l+(2:Nat)=List.length l'/\fz=fzO (some (l,fz)))/\(decide (y>=qCD4)=false->l=l'/\List.length l=List.length l'/\fz=fzO (some (l,fz))))):=by kernel_rfl
theorem Zxn {v:Int} {l:List Int}:∀{k:Nat} {x:Int},l[k]? =some x->idxI v k (l.drop k)=if v=x then (k:Int) else idxI v (k+1) (l.drop (k+1)):=by
 intro k x h
 rw [Vn h]
 rfl
theorem Z1g (l:List Int) (s:Int) (hl:l.length<=1000000000):PureC E 149 [.psl Th.dimc l false,.int false .i64 s] (.int false .i64 (idxI s 0 l)):=by
 have hF:FnsOk E Fixi:=Zv E_ok F0_ok _ _ _
 refine Za E_ok (Zg E_ok hF 400) ?_
 rw [Z1f]
 simp only [and_true,true_and,decide_eq_true_eq,decide_eq_false_iff_not,beq_iff_eq,beq_eq_false_iff_ne,imp_self]
 refine ⟨fun x=>x.k<=l.length/\idxI s x.k (l.drop x.k)=idxI s 0 l/\x.r=l.length-x.k,⟨⟨0,l.length,[],0⟩,⟨(by dsimp only;omega),rfl,rfl⟩,rfl⟩,?_⟩
 rintro x ⟨hk,hv,hr⟩
 refine And.intro (fun hq=>⟨by omega,by omega,fun y hy=> ?_⟩) (fun hq=> ?_)
 · have hy:l[x.k]? =some y:=hy
   rw [Zxn hy] at hv
   refine ⟨fun e=> ?_,fun e=> ?_⟩
   · rw [if_pos e] at hv;exact hv
   · rw [if_neg e] at hv
     exact ⟨⟨x.k+1,l.length-(x.k+1),[],0⟩,⟨(by dsimp only;omega),hv,rfl⟩,by show l.length-(x.k+1)+1<=x.r;omega,wr64 (by omega) (by omega)⟩
 · rw [List.drop_eq_nil_of_le (by omega)] at hv
   exact hv
theorem Z54:SumOk E 149 Sixi:=Zez E_ok (Z4 E_ok (Zc rfl) fun x h=>Z1g x.1 x.2.1 h)
theorem Z1h:SumOk E 117 Z9j:=Z4 E_ok (Zc rfl) fun x h=>by
 have:=Zwu x.1.toNat (by omega)
 rw [show ((x.1.toNat:Nat):Int)=x.1 by omega] at this
 exact this
theorem Zqg:FnsOk E Fpu:=Zb (Zb (Zb F0_ok Zcs) Z54) Z1h
theorem Zn3:∀{v:Int} {l:List Int} {k:Nat},idxI v k l<k+l.length
 |v,[],k=>by unfold idxI;simp;omega
 |v,x::l,k=>by
  unfold idxI
  split
  · simp;omega
  · have:=Zn3 (v:=v) (l:=l) (k:=k+1)
    simp at this⊢;omega
theorem Zqh {y:Int} (h0:0<=y) {x:List Nat} (hx:(WK.words WK.un)[Int.toNat y]? =some x):WK.un.words.getD y.toNat []=x:=by
 simp [List.getD,hx]
theorem Z1i (l:List (List Nat)) (fz:Nat) (a b c d:Int) (hf:fz<=l.length) (hl:l.length+8<=1000000000):PrnC E 119 Th.strs [dimA a b c d] (some (l,fz)) (l++txU [a,b,c,d]):=by
 refine Zxm Zqg (n:=400) rfl ?_
 rw [Zs3];delta qCD4 qCD6 qCD3 qCD1 qCD2 qCD5
 have i1:=Zn3 (v:=1) (l:= [a,b,c,d]) (k:=0)
 have i2:=Zn3 (v:= -1) (l:= [a,b,c,d]) (k:=0)
 have L4:(WK.words WK.un).length=4:=rfl
 have l4:(List.length [a,b,c,d]:Int)=4:=rfl
 have e:List.take (Int.toNat (↑(4:Nat):Int)-Int.toNat (0:Int)) (List.drop (Int.toNat (0:Int)) [a,b,c,d])= [a,b,c,d]:=rfl
 rw [e]
 clear e
 refine ⟨by decide,by decide,by show 4<=1000000000;decide,fun y hy=>⟨fun h=> ?_,fun h=> ?_⟩⟩
 · have h:0<=y:=by simpa using h
   rw [<-hy] at i1
   refine ⟨h,by rw [L4];omega,fun x hx=>⟨⟨Nat.le_refl _,hf,by omega⟩,by decide,by decide,by show 4<=1000000000;decide,fun z hz=>⟨fun h2=> ?_,fun h2=> ?_⟩⟩⟩
   · have h2:0<=z:=by simpa using h2
     rw [<-hz] at i2
     refine ⟨h2,by rw [L4];omega,fun x2 hx2=>⟨⟨by simp,by omega,by omega⟩,?_⟩⟩
     have:txU [a,b,c,d]= [x,sPer,x2]:=by
      unfold txU
      rw [<-hy,<-hz,if_pos h,if_pos h2,Zqh h hx,Zqh h2 hx2]
      rfl
     rw [this,List.take_length]
     have e2:List.take (l.length+1) (l++ [x])=l++ [x]:=List.take_of_length_le (by simp)
     rw [e2]
     simp [sPer,fzO]
   · have h2:¬0<=z:=by simpa using h2
     have:txU [a,b,c,d]= [x]:=by
      unfold txU
      rw [<-hy,<-hz,if_pos h,if_neg h2,Zqh h hx]
      rfl
     rw [this]
     simp [fzO]
 · have h:¬0<=y:=by simpa using h
   refine ⟨by decide,by decide,by show 4<=1000000000;decide,fun z hz=>⟨fun h2=> ?_,fun h2=> ?_⟩⟩
   · have h2:0<=z:=by simpa using h2
     rw [<-hz] at i2
     refine ⟨h2,by rw [L4];omega,fun x2 hx2=>⟨⟨Nat.le_refl _,hf,by omega⟩,?_⟩⟩
     have:txU [a,b,c,d]= [sPer,x2]:=by
      unfold txU
      rw [<-hy,<-hz,if_neg h,if_pos h2,Zqh h2 hx2]
      rfl
     rw [this]
     simp [sPer,fzO]
   · have h2:¬0<=z:=by simpa using h2
     have:txU [a,b,c,d]= []:=by
      unfold txU
      rw [<-hy,<-hz,if_neg h,if_neg h2]
      rfl
     rw [this]
     simp [fzO]
noncomputable def Sunp:Sum thy:=sumB E Th.strs dDim (fun l x=>1<=l.length/\l.length+8<=1000000000) fun (l:List (List Nat)) x=>l++txU [x.1.getD 0 0,x.1.getD 1 0,x.1.getD 2 0,x.1.getD 3 0]
theorem Z55:SumOk E 119 Sunp:=Zh5 E_ok (Zc rfl) fun x=>⟨fun l fz hf h=>Z1i l fz _ _ _ _ hf h.2,fun h=>absurd h.1 (by decide)⟩
noncomputable def Sxp (m:Nat):Sum thy:=sumB E Th.strs dExp (fun l x=>x.1.sz<m/\Ye x.1=true/\1<=l.length/\l.length+8*x.1.sz+8<=1000000000) fun (l:List (List Nat)) x=>l++txX x.1
theorem Zn4 (n:Int) (v:Int):Zk E F0 (vc E F0 400) 121 [.int false .i64 n] hp0 0 (fun r=>ret E (patch hp0 0 r) r.v (.int false .i64 v))=(
((n==(3:Int))=true->(1:Int)=v)/\((n==(3:Int))=false->((n==(4:Int))=true->(1:Int)=v)/\((n==(4:Int))=false->((n==(5:Int))=true->(2:Int)=v)/\((n==(5:Int))=false->(3:Int)=v)))):=by kernel_rfl
noncomputable def Zxo:Sum thy:=Vq (dA1 dN) (fun _=>True) (fun x=>tightF x.1) fun y=> .int false .i64 y
noncomputable def Fop' (m:Nat):Fns thy:=addS (addS F0 121 Zxo) 79 (Sxp m)
abbrev qCD7 (a0:Ex):=(Ex.mk (Ex.op a0) (Ex.n a0) (Ex.d0 a0) (Ex.d1 a0) (Ex.d2 a0) (Ex.d3 a0) (Ex.l a0))
abbrev qCD8 (a0:List (List Nat)):=(List.take (List.length a0) a0++ [[(40:Nat)]])
theorem Zs4 (m:Nat) (l:List (List Nat)) (fz:Nat) (x:Ex) (n:Int) (l':List (List Nat)):Zk E (Fop' m) (vc E (Fop' m) 400) 120 [.ptr 0 0,exA x,.int false .i64 n] (hpP E Th.strs (some (l,fz))) 2 (prnK E Th.strs (some (l,fz)) l')=(
 True/\∀(y:Int),y=tightF (Ex.op x)->(decide (y>=n)=true->(List.length l=List.length l/\fz<=List.length l/\Ex.sz (qCD7 x)+(1:Nat)<=m/\Ye (qCD7 x)=true/\(1:Nat)<=List.length l/\List.length l+(8:Nat)*Ex.sz (qCD7 x)+(8:Nat)<=(1000000000:Nat))/\∀(l'_1:List (List Nat)),l'_1=l++txX (qCD7 x)->l'_1=l'/\List.length l'_1=List.length l'/\fzO (some (l,fz))=fzO (some (l,fz)))/\(decide (y>=n)=false->(List.length l<=List.length l/\fz<=List.length l/\(List.length l+(1:Nat))*(16:Nat)<=(140737488355328:Nat))/\(List.length l+(1:Nat)=List.length (qCD8 l)/\fz<=List.length (qCD8 l)/\Ex.sz (qCD7 x)+(1:Nat)<=m/\Ye (qCD7 x)=true/\(1:Nat)<=List.length (qCD8 l)/\List.length (qCD8 l)+(8:Nat)*Ex.sz (qCD7 x)+(8:Nat)<=(1000000000:Nat))/\∀(l'_1:List (List Nat)),l'_1=List.take (List.length l) l++ [[(40:Nat)]]++txX (qCD7 x)->(List.length l'_1<=List.length l'_1/\fzO (some (List.take (List.length l) l++ [[(40:Nat)]],fz))<=List.length l'_1/\(List.length l'_1+(1:Nat))*(16:Nat)<=(140737488355328:Nat))/\List.take (List.length l'_1) l'_1++ [[(41:Nat)]]=l'/\List.length l'_1+(1:Nat)=List.length l'/\fzO (some (List.take (List.length l) l++ [[(40:Nat)]],fz))=fzO (some (l,fz)))):=by kernel_rfl
noncomputable def Z9k (m:Nat):Sum thy:=sumB E Th.strs Z9f (fun l x=>x.1.sz<m/\Ye x.1=true/\1<=l.length/\l.length+8*x.1.sz+10<=1000000000) fun (l:List (List Nat)) x=>l++par x.1.op x.2.1 (txX x.1)
noncomputable def Fxp' (m:Nat):Fns thy:=addS (addS (addS (addS Fpu 119 Sunp) 121 Zxo) 79 (Sxp m)) 120 (Z9k m)
theorem Zs5 (n:Int):PureC E 121 [.int false .i64 n] (.int false .i64 (tightF n)):=by
 refine Za E_ok (Zg E_ok F0_ok 400) ?_
 rw [Zn4]
 unfold tightF
 refine ⟨fun h=> ?_,fun h=>⟨fun h2=> ?_,fun h2=>⟨fun h3=> ?_,fun h3=> ?_⟩⟩⟩
 all_goals simp at*
 all_goals simp [*]
theorem Zk4:SumOk E 121 Zxo:=Z4 E_ok (Zc rfl) fun x _=>Zs5 x.1
def PxOk (m:Nat):Prop:=∀x:Ex,x.sz<m->Ye x=true->∀(l:List (List Nat)) (fz:Nat),fz<=l.length->1<=l.length->l.length+8*x.sz+8<=1000000000->PrnC E 79 Th.strs [exA x] (some (l,fz)) (l++txX x)
theorem Zxp {m:Nat} (h:PxOk m):SumOk E 79 (Sxp m):=Zh5 E_ok (Zc rfl) fun x=>⟨fun l fz hf hp=>h x.1 hp.1 hp.2.1 l fz hf hp.2.2.1 hp.2.2.2,fun hp=>absurd hp.2.2.1 (by decide)⟩
theorem Z56 {m:Nat} (h:PxOk m):FnsOk E (Fop' m):=Zb (Zb F0_ok Zk4) (Zxp h)
mutual
theorem Y3:∀(x:Ex),(txX x).length+2<=8*x.sz
 | .mk op n a b c d l=>by
  have h:=Zxq l
  have hs:∀ss:List (List Nat),(txS (txL l) ss).length+0<=8*Ex.szL l:=fun ss=>Zxr (txL l) ss (8*Ex.szL l) h
  have hU:(txU [a,b,c,d]).length<=3:=by
   unfold txU
   rw [List.length_append]
   split<;>split<;>simp
  have hp:∀op least t,(par op least t).length<=t.length+2:=by
   intro op least t
   unfold par
   split
   · omega
   · simp
  have h2:=Z1j (txL l) _ h
  rw [txX,Ex.sz]
  unfold txN
  split
  · rw [List.length_cons];omega
  · split
    · simp;omega
    · split
      · have:=hs [Zbs,Z3,Z3,Zy]
        rw [List.length_cons,List.length_cons]
        omega
      · split
        · rw [List.length_append,List.length_cons]
          have a1:=hp ((l.map Ex.op).getD 0 0) (tightF op) ((txL l).getD 0 [])
          have a2:=hp ((l.map Ex.op).getD 1 0) (tightF op+1) ((txL l).getD 1 [])
          omega
        · have:=hs [Z3,Zy]
          rw [List.length_cons,List.length_cons]
          omega
theorem Zxq:∀(l:List Ex),((txL l).map fun t=>t.length+2).sum<=8*Ex.szL l
 | []=>by simp [txL]
 |x::r=>by
  have h1:=Y3 x
  have h2:=Zxq r
  rw [txL,Ex.szL,List.map_cons,List.sum_cons]
  omega
theorem Zxr:∀(ts:List (List (List Nat))) (ss:List (List Nat)) (b:Nat),(ts.map fun t=>t.length+2).sum<=b->(txS ts ss).length+0<=b
 | [],_,_,h=>by simp [txS]
 |t::r,[],_,h=>by simp [txS]
 |t::r,s::ss,b,h=>by
  rw [List.map_cons,List.sum_cons] at h
  have:=Zxr r ss (b-(t.length+2)) (by omega)
  rw [txS,List.length_append,List.length_cons]
  omega
theorem Z1j:∀(ts:List (List (List Nat))) (b:Nat),(ts.map fun t=>t.length+2).sum<=b->(ts.getD 0 []).length+(ts.getD 1 []).length<=b
 | [],_,_=>by simp
 | [t],_,h=>by simp at h⊢;omega
 |t::u::r,_,h=>by simp at h⊢;omega
end
theorem Z1k {m:Nat} (hm:PxOk m) (l:List (List Nat)) (fz:Nat) (x:Ex) (n:Int) (hx:x.sz<m) (hxf:Ye x=true) (hf:fz<=l.length) (h1:1<=l.length) (hl:l.length+8*x.sz+10<=1000000000):PrnC E 120 Th.strs [exA x,.int false .i64 n] (some (l,fz)) (l++par x.op n (txX x)):=by
 refine Zxm (Z56 hm) (n:=400) rfl ?_
 rw [Zs4];delta qCD7 qCD8
 have ht:=Y3 x
 simp only [fzO,List.take_length,Ex.eta,forall_eq,decide_eq_true_eq,decide_eq_false_iff_not,true_and,and_true]
 refine ⟨fun h=>⟨⟨hf,hx,hxf,h1,by omega⟩,?_⟩,fun h=>⟨⟨Nat.le_refl _,hf,by omega⟩,⟨by simp,by simp;omega,hx,hxf,by simp,by simp;omega⟩,⟨Nat.le_refl _,by simp;omega,by simp;omega⟩,?_⟩⟩
 · have:par x.op n (txX x)=txX x:=by unfold par;rw [if_pos h]
   rw [this]
   exact ⟨rfl,rfl⟩
 · have:par x.op n (txX x)=Y9::(txX x++ [Zy]):=by unfold par;rw [if_neg h]
   rw [this]
   simp [Y9,Zy]
   omega
theorem Z1l {m:Nat} (h:PxOk m):SumOk E 120 (Z9k m):=Zh5 E_ok (Zc rfl) fun x=>⟨fun l fz hf hp=>Z1k h l fz x.1 x.2.1 hp.1 hp.2.1 hf hp.2.2.1 hp.2.2.2,fun hp=>absurd hp.2.2.1 (by decide)⟩
theorem Z57 {m:Nat} (h:PxOk m):FnsOk E (Fxp' m):=Zb (Zb (Zb (Zb Zqg Z55) Zk4) (Zxp h)) (Z1l h)
end
section
open Go
def dD (u:Nat):List Nat:=(Lib.decDigits u).map UInt8.toNat
theorem Zbq {u:Nat} (h:u<10):dD u= [48+u]:=by
 unfold dD
 rw [Lib.decDigits,dif_pos h]
 have:(UInt8.ofNat (48+u)).toNat=48+u:=by
  rw [UInt8.toNat_ofNat']
  omega
 simp only [List.map_cons,List.map_nil,this]
theorem Zkq {u:Nat} (h:¬u<10):dD u=dD (u/10)++ [48+u%10]:=by
 unfold dD
 rw [Lib.decDigits,dif_neg h]
 have:(UInt8.ofNat (48+u%10)).toNat=48+u%10:=by
  rw [UInt8.toNat_ofNat']
  omega
 rw [List.map_append]
 simp only [List.map_cons,List.map_nil,this]
theorem Zwq {n:Int} (h:0<=n):decN n=dD n.toNat:=by
 unfold decN dD Lib.itoa
 rw [if_neg (by omega)]
theorem Zp6:∀{a b:List Nat} {n m:Int},numL n a=(m,0)->numL n (a++b)=numL m b
 | [],b,n,m,h=>by
  unfold numL at h
  cases h
  rfl
 |c::r,b,n,m,h=>by
  unfold numL at h
  rw [List.cons_append]
  unfold numL
  split at h
  · cases h
  · rename_i hn
    rw [if_neg hn,Zp6 h]
    cases b<;>rfl
theorem Z0q (u:Nat):dD u≠ []:=by
 by_cases h:u<10
 · rw [Zbq h];simp
 · rw [Zkq h];simp
theorem Z8v:∀(u:Nat),u<=1099511627776->numL 0 (dD u)=((u:Int),0):=by
 intro u
 induction u using Nat.strongRecOn with
 |_ u ih=>
  intro hu
  by_cases h:u<10
  · rw [Zbq h]
    unfold numL
    rw [if_neg (by omega)]
    unfold numL
    congr 1
    omega
  · rw [Zkq h,Zp6 (ih (u/10) (by omega) (by omega))]
    unfold numL
    rw [if_neg (by omega)]
    unfold numL
    congr 1
    omega
theorem Z8w:∀(u:Nat),∀c∈dD u,isD (c:Int)=true:=by
 intro u
 induction u using Nat.strongRecOn with
 |_ u ih=>
  have one:∀k:Nat,k<10->isD ((48+k:Nat):Int)=true:=by
   intro k hk
   unfold isD
   simp
   omega
  by_cases h:u<10
  · rw [Zbq h]
    intro c hc
    rw [List.mem_singleton] at hc
    subst hc
    exact one u h
  · rw [Zkq h]
    intro c hc
    rcases List.mem_append.1 hc with hc|hc
    · exact ih (u/10) (by omega) c hc
    · rw [List.mem_singleton] at hc
      subst hc
      exact one _ (by omega)
theorem Z5a:∀(u:Nat),1<(dD u).length->(dD u).head?≠some 48:=by
 intro u
 induction u using Nat.strongRecOn with
 |_ u ih=>
  by_cases h:u<10
  · rw [Zbq h]
    intro hl
    simp at hl
  · rw [Zkq h]
    intro _
    have e:(dD (u/10)++ [48+u%10]).head? =(dD (u/10)).head? :=by
     cases hd:dD (u/10) with
     |nil=>exact absurd hd (Z0q _)
     |cons x r=>rfl
    rw [e]
    by_cases h2:u/10<10
    · rw [Zbq h2]
      intro k
      injection k with k
      omega
    · refine ih (u/10) (by omega) ?_
      rw [Zkq h2,List.length_append]
      have:=Z0q (u/10/10)
      cases hd:dD (u/10/10) with
      |nil=>exact absurd hd this
      |cons x r=>simp
theorem Zmu {n:Int} (h0:0<=n) (h1:n<=1099511627776):tokP (decN n)=(⟨2,decN n,n,0⟩,0):=by
 rw [Zwq h0]
 have hne:=Z0q n.toNat
 have hd:=Z8w n.toNat
 have hn:=Z8v n.toNat (by omega)
 have hh:=Z5a n.toNat
 have hc:((n.toNat:Nat):Int)=n:=by omega
 generalize dD n.toNat=w at*
 cases w with
 |nil=>exact absurd rfl hne
 |cons c r=>
  rw [Yo]
  have hdc:=hd c (by simp)
  have hl:isL (c:Int)=false:=by
   unfold isD at hdc
   unfold isL
   simp at hdc⊢
   omega
  rw [if_neg (by rw [hl];decide),if_pos hdc,Wl hd,List.take_length]
  have:numb (c::r)=(n,0):=by
   unfold numb
   rw [if_neg (fun k=>hh k.1 k.2),hn,hc]
  rw [this]
theorem Zdo {n:Int} (h0:0<=n) (h1:n<=1099511627776):TokW (decN n):=by
 refine ⟨by rw [Zmu h0 h1],by rw [Zmu h0 h1],?_⟩
 rw [Zwq h0]
 exact Z0q _
theorem Zwr {n:Int} (h0:0<=n) (h1:n<=1099511627776):tkS (decN n)=⟨2,decN n,n,0⟩:=by
 unfold tkS
 rw [Zmu h0 h1]
 rfl
theorem Ya0 {c:Nat} (h:wb c=true):isLD (c:Int)=true:=by
 unfold wb at h
 unfold isLD isL isD
 simp at h⊢
 omega
theorem Zia {s:List Nat} (h:W3 s=true):tokP s=(⟨1,s,0,0⟩,0):=by
 unfold W3 at h
 rw [Bool.and_eq_true,Bool.and_eq_true,decide_eq_true_eq] at h
 obtain ⟨⟨h1,h2⟩,h3⟩:=h
 cases s with
 |nil=>cases h2
 |cons c r=>
  have hc:isL (c:Int)=true:=by
   unfold lowF at h2
   unfold isL
   simp at h2⊢
   omega
  rw [Yo,if_pos hc,Wl fun c hc=>Ya0 (List.all_eq_true.1 h3 c hc),if_neg (by omega),List.take_length]
theorem Zey {s:List Nat} (h:W3 s=true):TokW s:=by
 refine ⟨by rw [Zia h],by rw [Zia h],?_⟩
 rintro rfl
 simp [W3,lowF] at h
theorem Zib {s:List Nat} (h:W3 s=true):tkS s=⟨1,s,0,0⟩:=by
 unfold tkS
 rw [Zia h]
 rfl
theorem Z0r:∀k:WK,∀w∈k.words,W3 w=true:=by
 intro k
 cases k<;>decide
theorem Zp7 {k:WK} {i:Nat} (h:i<k.words.length):k.words.getD i []∈k.words:=by
 have:k.words.getD i []=k.words[i]:=by simp [List.getD,h]
 rw [this]
 exact List.getElem_mem h
theorem Zic {k:WK} {i:Nat} (h:i<k.words.length):W3 (k.words.getD i [])=true:=Z0r k _ (Zp7 h)
theorem Z5b {k:WK} {i:Nat} (h:i<k.words.length):tkS (k.words.getD i [])=⟨1,k.words.getD i [],0,0⟩:=Zib (Zic h)
theorem Z8x:∀k:WK,∀i,i<k.words.length->idxS (k.words.getD i []) 0 k.words=i:=by
 intro k
 cases k<;>decide
theorem Zc5 {k:WK} {i:Nat} (h:i<k.words.length) (r:List Tok):chz k.words (tkS (k.words.getD i [])::r)=i:=by
 rw [Z5b h]
 show (if (1:Int)=1 then idxS (k.words.getD i []) 0 k.words else-1)=i
 rw [if_pos rfl,Z8x k i h]
def Fl0 (r:List Tok):Prop:=¬0<=chz WK.un.words r/\isW sPer r=false
end
section
open Go
theorem Zct {o:List Tok->Int×List Tok} {pf:PE} (ho:∀l,(o l).2.length<=l.length) (hp:Shr pf):∀(k k':Nat) (x:Ex) (op:Int) (l:List Tok) (e:Int),l.length<k->l.length<k'->Yw o pf k x op l e=Yw o pf k' x op l e
 |0,_,_,_,_,_,h,_=>by omega
 |_+1,0,_,_,_,_,_,h=>by omega
 |k+1,k'+1,x,op,l,e,h,h'=>by
  unfold Yw
  split
  · rfl
  · cases hq:pf l e with
    |error er=>rfl
    |ok y=>
     have h1:=hp _ _ _ _ hq
     have h2:=ho y.2.1
     exact Zct ho hp k k' _ _ _ _ (by omega) (by omega)
def pRx (o:List Tok->Int×List Tok) (pf:PE) (x:Ex) (op:Int) (l:List Tok) (e:Int):PR Ex:=Yw o pf (l.length+1) x op l e
theorem Z22 {o:List Tok->Int×List Tok} {pf:PE} (ho:∀l,(o l).2.length<=l.length) (hp:Shr pf) (x:Ex) (op:Int) (l:List Tok) (e:Int):
 pRx o pf x op l e=if op=0 then .ok (x,l,e,()) else match pf l e with
  | .error er=> .error er
  | .ok (y,z)=>pRx o pf (.mk op 0 0 0 0 0 [x,y]) (o z.1).1 (o z.1).2 z.2.1:=by
 unfold pRx
 rw [Yw]
 split
 · rfl
 · cases hq:pf l e with
   |error er=>rfl
   |ok y=>
    have h1:=hp _ _ _ _ hq
    have h2:=ho y.2.1
    exact Zct ho hp _ _ _ _ _ _ (by omega) (by omega)
theorem Zqj (l:List Tok):(op1 l).2.length<=l.length:=Zlk l
theorem Zqk (l:List Tok):(op2 l).2.length<=l.length:=Zll l
def Agr (n:Nat) (p q:PE):Prop:=∀l e,l.length<n->p l e=q l e
theorem Zql {n:Nat} {p q:PE} (hp:Shr p) (h:Agr n p q):∀(ss:List (List Nat)) (acc:List Ex) (l:List Tok) (e:Int),l.length<n->pOpL p ss acc l e=pOpL q ss acc l e
 | [],_,_,_,_=>rfl
 |s::r,acc,l,e,hl=>by
  unfold pOpL
  rw [<-h l e hl]
  cases hq:p l e with
  |error er=>rfl
  |ok y=>
   have h1:=hp _ _ _ _ hq
   dsimp only
   split
   · refine Zql hp h r _ _ _ ?_
     rw [List.length_tail]
     omega
   · rfl
theorem Zqm {n:Nat} {p q:PE} (hp:Shr p) (h:Agr n p q) (op:Int) (ss:List (List Nat)) (l:List Tok) (e:Int) (hl:l.length<n+1):pOps p op ss l e=pOps q op ss l e:=by
 unfold pOps
 split
 · rename_i hw
   have:=Zr hw
   rw [Zql hp h ss [] l.tail e (by omega)]
 · rfl
theorem Zla {n:Nat} {p q:PE} (hp:Shr p) (h:Agr n p q) (l:List Tok) (e:Int) (hl:l.length<n+1):Uj p l e=Uj q l e:=by
 unfold Uj
 split
 · rename_i hw
   have:=Zr hw
   rw [h l.tail e (by omega)]
 · split
   · rename_i hw
     have:=Zr hw
     rw [Zqm hp h _ _ l.tail e (by omega)]
   · cases hc:Zo WK.ca.words l e with
     |error er=>rfl
     |ok y=>
      obtain ⟨y0,y1⟩:=y
      have:y1.1.length<=l.length:=by
       rcases Y7 hc with ⟨_,_,rfl⟩|⟨_,_,rfl⟩
       · show l.tail.length<=l.length
         rw [List.length_tail]
         omega
       · exact Nat.le_refl _
      dsimp only
      split
      · exact Zqm hp h _ _ _ _ (by omega)
      · rfl
theorem Zqn {n:Nat} {p q:PE} (hp:Shr p) (h:Agr n p q):Agr (n+1) (pFac p) (pFac q):=by
 intro l e hl
 unfold pFac
 split
 · exact Zla hp h _ _ hl
 · split
   · rfl
   · exact Zla hp h _ _ hl
theorem Zlb {n:Nat} {o:List Tok->Int×List Tok} (ho:∀l,(o l).2.length<=l.length) {p q:PE} (hp:Shr p) (h:Agr n p q):∀(k:Nat) (x:Ex) (op:Int) (l:List Tok) (e:Int),l.length<n->Yw o p k x op l e=Yw o q k x op l e
 |0,_,_,_,_,_=>rfl
 |k+1,x,op,l,e,hl=>by
  unfold Yw
  split
  · rfl
  · rw [<-h l e hl]
    cases hq:p l e with
    |error er=>rfl
    |ok y=>
     have h1:=hp _ _ _ _ hq
     have h2:=ho y.2.1
     exact Zlb ho hp h k _ _ _ _ (by omega)
theorem Ziv {n:Nat} {o:List Tok->Int×List Tok} (ho:∀l,(o l).2.length<=l.length) {p q:PE} (hp:Shr p) (h:Agr n p q):Agr n (pCh o p) (pCh o q):=by
 intro l e hl
 unfold pCh
 rw [<-h l e hl]
 cases hq:p l e with
 |error er=>rfl
 |ok y=>
  have h1:=hp _ _ _ _ hq
  have h2:=ho y.2.1
  exact Zlb ho hp h _ _ _ _ _ (by omega)
theorem Z23 (n:Nat):Shr (pE n):=(Vr n).shr
theorem Ziw {pe:PE} (h:Bnd pe):Shr (pFac pe):=(Wq h).shr
theorem Z24:∀(n m:Nat),n<=m->Agr n (pE n) (pE m)
 |0,m,_=>fun l e hl=>by omega
 |n+1,m+1,h=>by
  have ih:=Z24 n m (by omega)
  unfold pE
  refine Ziv Zqk (Zae Zb9 (Wq (Vr n))).shr ?_
  exact Ziv Zqj (Ziw (Vr n)) (Zqn (Z23 n) ih)
theorem Z25 (n:Nat):Agr n (pE n) pX:=by
 intro l e hl
 unfold pX
 exact (Z24 (l.length+1) n (by omega) l e (Nat.lt_succ_self _)).symm
def pf:PE:=pFac pX
def pt:PE:=pCh op1 pf
theorem Ya5 (l:List Tok) (e:Int):pX l e=pCh op2 pt l e:=by
 show pE (l.length+1) l e=_
 rw [pE]
 refine Ziv (n:=l.length+1) Zqk (Zae Zb9 (Wq (Vr _))).shr ?_ l e (Nat.lt_succ_self _)
 exact Ziv Zqj (Ziw (Vr _)) (Zqn (Z23 _) (Z25 _))
theorem pf_bnd:Bnd pf:=Wq Zow
theorem pt_bnd:Bnd pt:=Zae Zb9 pf_bnd
theorem Z9n:Shr pf:=pf_bnd.shr
theorem Z9o:Shr pt:=pt_bnd.shr
theorem Ya6 (l:List Tok) (e:Int):pt l e=match pf l e with
 | .error er=> .error er
 | .ok (y,z)=>pRx op1 pf y (op1 z.1).1 (op1 z.1).2 z.2.1:=rfl
theorem Z6a (x:Ex) (op:Int) (l:List Tok) (e:Int):pRx op1 pf x op l e=if op=0 then .ok (x,l,e,()) else match pf l e with
 | .error er=> .error er
 | .ok (y,z)=>pRx op1 pf (.mk op 0 0 0 0 0 [x,y]) (op1 z.1).1 (op1 z.1).2 z.2.1:=Z22 Zqj Z9n x op l e
theorem Z6b (x:Ex) (op:Int) (l:List Tok) (e:Int):pRx op2 pt x op l e=if op=0 then .ok (x,l,e,()) else match pt l e with
 | .error er=> .error er
 | .ok (y,z)=>pRx op2 pt (.mk op 0 0 0 0 0 [x,y]) (op2 z.1).1 (op2 z.1).2 z.2.1:=Z22 Zqk Z9o x op l e
theorem Z9p (l:List Tok) (e:Int):pX l e=match pt l e with
 | .error er=> .error er
 | .ok (y,z)=>pRx op2 pt y (op2 z.1).1 (op2 z.1).2 z.2.1:=Ya5 l e
abbrev TS (ws:List (List Nat)):List Tok:=ws.map tkS
def d0:List Int:= [0,0,0,0]
theorem Ya7 {r:List Tok} (h:Fl0 r) (e:Int):Xj r e= .ok (d0,r,e,()):=by
 unfold Xj Zo
 rw [if_neg h.1]
 dsimp only
 rw [if_neg (by rw [h.2];decide)]
 rfl
theorem Ya8 {i:Nat} (hi:i<4) {r:List Tok} (h:isW sPer r=false) (e:Int):Xj (tkS (WK.un.words.getD i [])::r) e= .ok (incD d0 i,r,e,()):=by
 unfold Xj Zo
 rw [Zc5 (k:= .un) hi,if_pos (by omega)]
 dsimp only [List.tail_cons]
 rw [if_neg (by rw [h];decide)]
 rfl
theorem Z26 {s w:List Nat} (hw:W3 w=true) (r:List Tok):isW s (tkS w::r)=(w==s):=by
 rw [Zib hw]
 rfl
theorem Z6c (r:List Tok):¬0<=chz WK.un.words (tkS sPer::r):=by
 have:chz WK.un.words (tkS sPer::r)= -1:=rfl
 omega
theorem Zxz (r:List Tok):isW sPer (tkS sPer::r)=true:=rfl
theorem Ya9 {j:Nat} (hj:j<4) (r:List Tok) (e:Int):Xj (tkS sPer::tkS (WK.un.words.getD j [])::r) e= .ok (decD d0 j,r,e,()):=by
 unfold Xj Zo
 rw [if_neg (Z6c _)]
 dsimp only [List.tail_cons]
 rw [if_pos (Zxz _)]
 unfold Yd
 rw [Zc5 (k:= .un) hj,if_pos (by omega)]
 rfl
theorem Yba {i j:Nat} (hi:i<4) (hj:j<4) (r:List Tok) (e:Int):Xj (tkS (WK.un.words.getD i [])::tkS sPer::tkS (WK.un.words.getD j [])::r) e= .ok (decD (incD d0 i) j,r,e,()):=by
 unfold Xj Zo
 rw [Zc5 (k:= .un) hi,if_pos (by omega)]
 dsimp only [List.tail_cons]
 rw [if_pos (Zxz _)]
 unfold Yd
 rw [Zc5 (k:= .un) hj,if_pos (by omega)]
 rfl
theorem Z1r {a b c d:Int} (h:Zah [a,b,c,d]=true):in1 a=true/\in1 b=true/\in1 c=true/\in1 d=true:=by
 rw [Ztr] at h
 rw [Bool.and_eq_true] at h
 simpa using h.1
theorem Zb4 {a:Int} (h:in1 a=true):a= -1\/a=0\/a=1:=by
 unfold in1 at h
 simp at h
 omega
def UnF (u:List Int):Prop:=(u=d0/\txU u= [])\/(∃i,i<4/\u=incD d0 (i:Nat)/\txU u= [WK.un.words.getD i []])\/(∃j,j<4/\u=decD d0 (j:Nat)/\txU u= [sPer,WK.un.words.getD j []])\/(∃i,i<4/\∃j,j<4/\u=decD (incD d0 (i:Nat)) (j:Nat)/\txU u= [WK.un.words.getD i [],sPer,WK.un.words.getD j []])
instance (u:List Int):Decidable (UnF u):=by unfold UnF;infer_instance
theorem unF {a b c d:Int} (h:Zah [a,b,c,d]=true):UnF [a,b,c,d]:=by
 obtain ⟨ha,hb,hc,hd⟩:=Z1r h
 revert h
 rcases Zb4 ha with rfl|rfl|rfl<;>rcases Zb4 hb with rfl|rfl|rfl<;>rcases Zb4 hc with rfl|rfl|rfl<;>rcases Zb4 hd with rfl|rfl|rfl
 all_goals (clear ha hb hc hd;decide)
theorem Zx0 {a b c d:Int} (h:Zah [a,b,c,d]=true) {r:List Tok} (hr:Fl0 r) (e:Int):Xj (TS (txU [a,b,c,d])++r) e= .ok ([a,b,c,d],r,e,()):=by
 rcases unF h with ⟨h1,h2⟩|⟨i,hi,h1,h2⟩|⟨j,hj,h1,h2⟩|⟨i,hi,j,hj,h1,h2⟩
 · rw [h2,h1]
   exact Ya7 hr e
 · rw [h2,h1]
   exact Ya8 hi hr.2 e
 · rw [h2,h1]
   exact Ya9 hj r e
 · rw [h2,h1]
   exact Yba hi hj r e
def Fl1 (r:List Tok):Prop:=Fl0 r/\isW sMul r=false
def Fl2 (r:List Tok):Prop:=Fl1 r/\isW Zag r=false/\isW W6 r=false
theorem Z27 {r:List Tok} (h:isW sMul r=false):op1 r=(0,r):=by unfold op1;rw [if_neg (by rw [h];decide)]
theorem Z9q {r:List Tok} (h:Fl2 r):op2 r=(0,r):=by unfold op2;rw [if_neg (by rw [h.2.1];decide),if_neg (by rw [h.2.2];decide)]
theorem Z9r {w:List Nat} {r:List Tok} (h:(tkS w).kind=3):∀ws:List (List Nat),chz ws (tkS w::r)= -1:=by
 intro ws
 show (if (tkS w).kind=1 then _ else-1)=_
 rw [if_neg (by rw [h];decide)]
theorem Za5 {w:List Nat} (r:List Tok) (h:(tkS w).kind=3) (h2:isW sPer (tkS w::r)=false):Fl0 (tkS w::r):=⟨by rw [Z9r h];decide,h2⟩
theorem Zb5 (r:List Tok):Fl2 (tkS Zy::r):=⟨⟨Za5 r rfl rfl,rfl⟩,rfl,rfl⟩
theorem Zfi (r:List Tok):Fl2 (tkS Z3::r):=⟨⟨Za5 r rfl rfl,rfl⟩,rfl,rfl⟩
theorem Z1s (r:List Tok):Fl2 (tkS Zbs::r):=⟨⟨Za5 r rfl rfl,rfl⟩,rfl,rfl⟩
theorem Z1t (r:List Tok):Fl2 (tkS Ze5::r):=⟨⟨Za5 r rfl rfl,rfl⟩,rfl,rfl⟩
theorem Z6d (r:List Tok):Fl0 (tkS sMul::r):=Za5 r rfl rfl
theorem Z1u (r:List Tok):Fl1 (tkS Zag::r):=⟨Za5 r rfl rfl,rfl⟩
theorem Zx1 (r:List Tok):Fl1 (tkS W6::r):=⟨Za5 r rfl rfl,rfl⟩
structure Rdb (x:Ex):Prop where
 fac:3<=tightF x.op->∀r e,Fl0 r->pf (TS (txX x)++r) e= .ok (x,r,e,())
 term:2<=tightF x.op->∀r e,Fl0 r->pt (TS (txX x)++r) e=pRx op1 pf x (op1 r).1 (op1 r).2 e
 expr:∀r e,Fl1 r->pX (TS (txX x)++r) e=pRx op2 pt x (op2 r).1 (op2 r).2 e
theorem Rdb.all {x:Ex} (h:Rdb x) {r:List Tok} (hr:Fl2 r) (e:Int):pX (TS (txX x)++r) e= .ok (x,r,e,()):=by
 rw [h.expr r e hr.1,Z9q hr,Z6b,if_pos rfl]
theorem Zx2 {l:List Tok} {e:Int} {x:Ex} {r:List Tok} (h:pX l e= .ok (x,tkS Zy::r,e,())):pf (tkS Y9::l) e= .ok (x,r,e,()):=by
 have:pf (tkS Y9::l) e=(match pX l e with
  | .error er=> .error er
  | .ok (x,y)=>if isW Zy y.1 then .ok (x,y.1.tail,y.2.1,()) else .error (hdT y.2.1 y.1,160)):=rfl
 rw [this,h]
 rfl
theorem Zfj (w:List Nat) (ws:List (List Nat)):TS (w::ws)=tkS w::TS ws:=rfl
theorem Zlc (a b:List (List Nat)):TS (a++b)=TS a++TS b:=List.map_append
theorem Rdb.par3 {x:Ex} (h:Rdb x) {r:List Tok} (hr:Fl0 r) (e:Int):pf (TS (par x.op 3 (txX x))++r) e= .ok (x,r,e,()):=by
 unfold par
 split
 · exact h.fac (by assumption) r e hr
 · have e1:TS (Y9::(txX x++ [Zy]))++r=tkS Y9::(TS (txX x)++tkS Zy::r):=by simp
   rw [e1]
   exact Zx2 (h.all (Zb5 r) e)
theorem Zqo {l r:List Tok} {e:Int} {x:Ex} (h:pf l e= .ok (x,r,e,())):pt l e=pRx op1 pf x (op1 r).1 (op1 r).2 e:=by rw [Ya6,h]
theorem Rdb.par2 {x:Ex} (h:Rdb x) {r:List Tok} (hr:Fl0 r) (e:Int):pt (TS (par x.op 2 (txX x))++r) e=pRx op1 pf x (op1 r).1 (op1 r).2 e:=by
 unfold par
 split
 · exact h.term (by assumption) r e hr
 · have e1:TS (Y9::(txX x++ [Zy]))++r=tkS Y9::(TS (txX x)++tkS Zy::r):=by simp
   rw [e1]
   exact Zqo (Zx2 (h.all (Zb5 r) e))
theorem Zx3 (op:Int):1<=tightF op:=by unfold tightF;split<;>(try split)<;>decide
theorem Rdb.par1 {x:Ex} (h:Rdb x) {r:List Tok} (hr:Fl1 r) (e:Int):pX (TS (par x.op 1 (txX x))++r) e=pRx op2 pt x (op2 r).1 (op2 r).2 e:=by
 unfold par
 rw [if_pos (Zx3 _)]
 exact h.expr r e hr
theorem Zfk {x:Ex} (hf:3<=tightF x.op->∀r e,Fl0 r->pf (TS (txX x)++r) e= .ok (x,r,e,())) (ht:∀r e,Fl0 r->pt (TS (txX x)++r) e=pRx op1 pf x (op1 r).1 (op1 r).2 e):Rdb x:=
 ⟨hf,fun _=>ht,fun r e hr=>by rw [Z9p,ht r e hr.1,Z27 hr.2,Z6a,if_pos rfl]⟩
theorem U3 {x:Ex} (h:∀r e,Fl0 r->pf (TS (txX x)++r) e= .ok (x,r,e,())):Rdb x:=
 Zfk (fun _=>h) fun r e hr=>Zqo (h r e hr)
theorem Zqp {e:Int}:∀{xs:List Ex} {ss:List (List Nat)} {acc:List Ex} {r:List Tok},xs.length=ss.length->(∀x∈xs,Rdb x)->(∀s∈ss,(∀r,Fl2 (tkS s::r))/\∀r,isW s (tkS s::r)=true)->pOpL pX ss acc (TS (txS (txL xs) ss)++r) e= .ok (acc++xs,r,e,())
 | [],[],acc,r,_,_,_=>by simp [pOpL,txL,txS]
 |x::xs,s::ss,acc,r,hl,hx,hs=>by
  have e1:TS (txS (txL (x::xs)) (s::ss))++r=TS (txX x)++tkS s::(TS (txS (txL xs) ss)++r):=by simp [txL,txS]
  rw [e1]
  unfold pOpL
  rw [(hx x (by simp)).all ((hs s (by simp)).1 _) e]
  dsimp only
  rw [if_pos ((hs s (by simp)).2 _),List.tail_cons,Zqp (by simpa using hl) (fun x h=>hx x (by simp [h])) (fun s h=>hs s (by simp [h]))]
  rw [List.append_assoc]
  rfl
theorem sg4:∀s∈ [Zbs,Z3,Z3,Zy],(∀r,Fl2 (tkS s::r))/\∀r,isW s (tkS s::r)=true:=by
 intro s hs
 simp only [List.mem_cons,List.not_mem_nil,or_false] at hs
 rcases hs with rfl|rfl|rfl|rfl
 · exact ⟨Z1s,fun _=>rfl⟩
 · exact ⟨Zfi,fun _=>rfl⟩
 · exact ⟨Zfi,fun _=>rfl⟩
 · exact ⟨Zb5,fun _=>rfl⟩
theorem sg2:∀s∈ [Z3,Zy],(∀r,Fl2 (tkS s::r))/\∀r,isW s (tkS s::r)=true:=by
 intro s hs
 simp only [List.mem_cons,List.not_mem_nil,or_false] at hs
 rcases hs with rfl|rfl
 · exact ⟨Zfi,fun _=>rfl⟩
 · exact ⟨Zb5,fun _=>rfl⟩
theorem Zqq {op:Int} {xs:List Ex} {ss:List (List Nat)} {r:List Tok} {e:Int} (hl:xs.length=ss.length) (hx:∀x∈xs,Rdb x) (hs:∀s∈ss,(∀r,Fl2 (tkS s::r))/\∀r,isW s (tkS s::r)=true):
 pOps pX op ss (tkS Y9::(TS (txS (txL xs) ss)++r)) e= .ok (.mk op 0 0 0 0 0 xs,r,e,()):=by
 unfold pOps
 rw [if_pos (show isW Y9 (tkS Y9::(TS (txS (txL xs) ss)++r))=true from rfl),List.tail_cons,Zqp hl hx hs]
 rfl
theorem Z28:∀k:WK,∀w∈k.words,(w==Y9)=false/\(w==sIf)=false:=by intro k;cases k<;>decide
theorem Ybb:∀w∈WK.at_.words,idxS w 0 WK.ca.words= -1:=by decide
theorem Zx4 {k:WK} {i:Nat} (h:i<k.words.length) (r:List Tok) (e:Int):pf (tkS (k.words.getD i [])::r) e=(match Zo WK.ca.words (tkS (k.words.getD i [])::r) e with
 | .error er=> .error er
 | .ok (k,y)=>
  if k.2.1 then pOps pX (6+k.1) [Z3,Zy] y.1 y.2.1
  else match Yd WK.at_.words y.1 y.2.1 with
   | .error er=> .error er
   | .ok (a,z)=> .ok (.mk 2 a 0 0 0 0 [],z)):=by
 have h1:=Z26 (s:=Y9) (Zic h) r
 have h2:=Z26 (s:=sIf) (Zic h) r
 rw [(Z28 k _ (Zp7 h)).1] at h1
 rw [(Z28 k _ (Zp7 h)).2] at h2
 show (if (tkS (k.words.getD i [])).kind=2 then _ else Uj pX (tkS (k.words.getD i [])::r) e)=_
 rw [if_neg (by rw [Z5b h];show ¬(1:Int)=2;decide)]
 unfold Uj
 rw [if_neg (by rw [h1];decide),if_neg (by rw [h2];decide)]
 rfl
theorem Zcu {op n:Int} {u:List Int} {k:Nat} (h:Zjh op n u k=true):1<=op/\op<=11/\0<=n/\n<=Zy6 op/\k=Zt1 op/\Zah u=true/\(op=1\/u= [0,0,0,0]):=by
 unfold Zjh at h
 simp only [Bool.and_eq_true,Bool.or_eq_true,decide_eq_true_eq] at h
 obtain ⟨⟨⟨⟨⟨⟨h1,h2⟩,h3⟩,h4⟩,h5⟩,h6⟩,h7⟩:=h
 exact ⟨h1,h2,h3,h4,h5,h6,h7⟩
theorem len2 {α:Type} {l:List α} (h:l.length=2):∃a b,l= [a,b]:=by
 match l,h with
 | [a,b],_=>exact ⟨a,b,rfl⟩
theorem rdb:∀(x:Ex),Ye x=true->Rdb x:=by
 suffices H:∀(m:Nat) (x:Ex),x.sz<=m->Ye x=true->Rdb x from fun x=>H _ x (Nat.le_refl _)
 intro m
 induction m with
 |zero=>intro x h;have:=x.sz_pos;omega
 |succ m ih=>
  intro x hm hf
  rw [Zdd,Bool.and_eq_true] at hf
  obtain ⟨hh,hl⟩:=hf
  have hkid:∀y∈x.l,Rdb y:=fun y hy=>ih y (by have:=Ex.sz_mem hy;omega) (formL_iff.1 hl y hy)
  obtain ⟨op,n,a,b,c,d,l⟩:=x
  simp only [Ex.op,Ex.n,Ex.u,Ex.d0,Ex.d1,Ex.d2,Ex.d3,Ex.l] at hh hkid
  obtain ⟨h1,h2,h3,h4,h5,h6,h7⟩:=Zcu hh
  clear hm hl hh
  have htx:txX (.mk op n a b c d l)=txN op n [a,b,c,d] (l.map Ex.op) (txL l):=by rw [txX]
  by_cases q1:op=1
  · subst q1
    have hl:l= []:=List.eq_nil_of_length_eq_zero (by rw [h5];rfl)
    subst hl
    refine U3 fun r e hr=> ?_
    rw [htx]
    unfold txN
    rw [if_pos rfl,Zfj,List.cons_append,Zwr h3 h4]
    show (match Xj (TS (txU [a,b,c,d])++r) e with
     | .error er=>_
     | .ok (d,y)=>_)=_
    rw [Zx0 h6 hr e]
    rfl
  have hu:a=0/\b=0/\c=0/\d=0:=by
   rcases h7 with h7|h7
   · exact absurd h7 q1
   · simpa using h7
  obtain ⟨rfl,rfl,rfl,rfl⟩:=hu
  by_cases q2:op=2
  · subst q2
    have hl:l= []:=List.eq_nil_of_length_eq_zero (by rw [h5];rfl)
    subst hl
    have hn:n.toNat<WK.at_.words.length:=by
     have:n<=15:=h4
     show n.toNat<16
     omega
    refine U3 fun r e hr=> ?_
    rw [htx]
    unfold txN
    rw [if_neg q1,if_pos rfl]
    show pf (tkS (WK.at_.words.getD n.toNat [])::r) e=_
    rw [Zx4 hn]
    have hc:¬0<=chz WK.ca.words (tkS (WK.at_.words.getD n.toNat [])::r):=by
     rw [Z5b hn]
     show ¬0<=(if (1:Int)=1 then idxS (WK.at_.words.getD n.toNat []) 0 WK.ca.words else-1)
     rw [if_pos rfl,Ybb _ (Zp7 hn)]
     decide
    unfold Zo
    rw [if_neg hc]
    dsimp only
    rw [if_neg (by decide)]
    unfold Yd
    rw [Zc5 hn,if_pos (by omega)]
    dsimp only [List.tail_cons]
    rw [show ((n.toNat:Nat):Int)=n by omega]
  have hn0:n=0:=by
   unfold Zy6 at h4
   rw [if_neg q1,if_neg q2] at h4
   omega
  subst hn0
  by_cases q3:op=11
  · subst q3
    have hl:l.length=4:=h5
    refine U3 fun r e hr=> ?_
    rw [htx]
    unfold txN
    rw [if_neg q1,if_neg q2,if_pos rfl]
    have e1:TS (sIf::Y9::txS (txL l) [Zbs,Z3,Z3,Zy])++r=tkS sIf::tkS Y9::(TS (txS (txL l) [Zbs,Z3,Z3,Zy])++r):=rfl
    rw [e1]
    show pOps pX 11 [Zbs,Z3,Z3,Zy] (tkS Y9::(TS (txS (txL l) [Zbs,Z3,Z3,Zy])++r)) e=_
    exact Zqq (by rw [hl];rfl) hkid sg4
  have hl2:l.length=2:=by
   rw [h5]
   unfold Zt1
   rw [if_neg (by omega),if_neg q3]
  by_cases q4:op=3\/op=4\/op=5
  · obtain ⟨x,y,rfl⟩:=len2 hl2
    have hx:=hkid x (by simp)
    have hy:=hkid y (by simp)
    have htx:txX (.mk op 0 0 0 0 0 [x,y])=par x.op (tightF op) (txX x)++sgnO op::par y.op (tightF op+1) (txX y):=by
     rw [htx]
     unfold txN
     rw [if_neg q1,if_neg q2,if_neg q3,if_pos q4]
     rfl
    by_cases q5:op=5
    · subst q5
      refine Zfk (fun h=>absurd h (by show ¬3<=tightF 5;decide)) fun r e hr=> ?_
      rw [htx,Zlc,List.append_assoc]
      show pt (TS (par x.op 2 (txX x))++tkS sMul::(TS (par y.op 3 (txX y))++r)) e=_
      rw [hx.par2 (Z6d _) e]
      show pRx op1 pf x 5 (TS (par y.op 3 (txX y))++r) e=_
      rw [Z6a,if_neg (by decide),hy.par3 hr e]
    · have q6:op=3\/op=4:=by omega
      have ht:tightF op=1:=by unfold tightF;rw [if_pos q6]
      refine ⟨fun h=>absurd h (by show ¬3<=tightF op;rw [ht];decide),fun h=>absurd h (by show ¬2<=tightF op;rw [ht];decide),fun r e hr=> ?_⟩
      rw [htx,Zlc,List.append_assoc,ht]
      have hy2:pt (TS (par y.op 2 (txX y))++r) e= .ok (y,r,e,()):=by rw [hy.par2 hr.1 e,Z27 hr.2,Z6a,if_pos rfl]
      rcases q6 with rfl|rfl
      · show pX (TS (par x.op 1 (txX x))++tkS Zag::(TS (par y.op 2 (txX y))++r)) e=_
        rw [hx.par1 (Z1u _) e]
        show pRx op2 pt x 3 (TS (par y.op 2 (txX y))++r) e=_
        rw [Z6b,if_neg (by decide),hy2]
      · show pX (TS (par x.op 1 (txX x))++tkS W6::(TS (par y.op 2 (txX y))++r)) e=_
        rw [hx.par1 (Zx1 _) e]
        show pRx op2 pt x 4 (TS (par y.op 2 (txX y))++r) e=_
        rw [Z6b,if_neg (by decide),hy2]
  · have hk:(op-6).toNat<WK.ca.words.length:=by
     show (op-6).toNat<5
     omega
    refine U3 fun r e hr=> ?_
    rw [htx]
    unfold txN
    rw [if_neg q1,if_neg q2,if_neg q3,if_neg q4]
    have e1:TS (WK.ca.words.getD (op-6).toNat []::Y9::txS (txL l) [Z3,Zy])++r=tkS (WK.ca.words.getD (op-6).toNat [])::tkS Y9::(TS (txS (txL l) [Z3,Zy])++r):=rfl
    rw [e1,Zx4 hk]
    unfold Zo
    rw [Zc5 hk,if_pos (by omega)]
    dsimp only [List.tail_cons]
    rw [if_pos rfl,Zqq (by rw [hl2];rfl) hkid sg2]
    rw [show (6:Int)+(((op-6).toNat:Nat):Int)=op by omega]
end
section
open Go
abbrev qCG5 (a0:List (List Nat)):=(List.length a0)
abbrev qCGc:=(0:Int)
abbrev qCGl (a0:List (List Nat)):=(List.take (qCG5 a0) a0++ [[(45:Nat)]])
abbrev qCG8:=(1:Nat)
abbrev qCGj:=(8:Nat)
abbrev qCGb:=(1:Int)
abbrev qCGq:=(16:Nat)
abbrev qCGa:=(140737488355328:Nat)
abbrev qCGi (a0:List (List Nat)):=(List.length a0+qCG8)
abbrev qCGf (a0:List (List Nat)) (b0:List (List Nat)) (c0:Nat):=(List.length a0<=List.length a0/\fzO (some (b0,c0))<=List.length a0/\(qCGi a0)*qCGq<=qCGa)
abbrev qCG9 (a0:Ex):=(↑(List.length (Ex.l a0)):Int)
abbrev qCGm (a0:List (List Nat)):=(List.take (qCG5 a0) a0++ [[(42:Nat)]])
abbrev qCGe:=(1000000000:Nat)
abbrev qCG2 (a0:Ex):=(Ex.mk (Ex.op a0) (Ex.n a0) (Ex.d0 a0) (Ex.d1 a0) (Ex.d2 a0) (Ex.d3 a0) (Ex.l a0))
abbrev qCGg (a0:Ex):=(Ex.op a0-(3:Int))
abbrev qCG1 (a0:Ex) (b0:List (List Nat)) (c0:List (List Nat)) (d0:Nat) (e0:Nat) (f0:List (List Nat)):=((wr IntKind.i64 (qCGg a0)==(↑(0:Nat):Int))=false->((wr IntKind.i64 (qCGg a0)==(↑((0:Nat)+qCG8):Int))=true->(qCGf b0 c0 d0)/\qCGc<=qCGb/\qCGb+qCGb<=(qCG9 a0)/\∀(x_2:Ex),(Ex.l a0)[Int.toNat qCGb]? =some x_2->True/\∀(y:Int),y=tightF (Ex.op a0)->(List.length b0+qCG8=List.length (qCGl b0)/\fzO (some (c0,d0))<=List.length (qCGl b0)/\Ex.sz (qCG2 x_2)+qCG8<=e0/\Ye (qCG2 x_2)=true/\qCG8<=List.length (qCGl b0)/\List.length (qCGl b0)+qCGj*Ex.sz (qCG2 x_2)+(10:Nat)<=qCGe)/\∀(l'_2:List (List Nat)),l'_2=List.take (qCG5 b0) b0++ [[(45:Nat)]]++par (Ex.op (qCG2 x_2)) (wr IntKind.i64 (y+qCGb)) (txX (qCG2 x_2))->l'_2=f0/\List.length l'_2=List.length f0/\fzO (some (List.take (qCG5 b0) b0++ [[(45:Nat)]],fzO (some (c0,d0))))=fzO (some (c0,d0)))/\((wr IntKind.i64 (qCGg a0)==(↑((0:Nat)+qCG8):Int))=false->((wr IntKind.i64 (qCGg a0)==(↑((0:Nat)+qCG8+qCG8):Int))=true->(qCGf b0 c0 d0)/\qCGc<=qCGb/\qCGb+qCGb<=(qCG9 a0)/\∀(x_2:Ex),(Ex.l a0)[Int.toNat qCGb]? =some x_2->True/\∀(y:Int),y=tightF (Ex.op a0)->(List.length b0+qCG8=List.length (qCGm b0)/\fzO (some (c0,d0))<=List.length (qCGm b0)/\Ex.sz (qCG2 x_2)+qCG8<=e0/\Ye (qCG2 x_2)=true/\qCG8<=List.length (qCGm b0)/\List.length (qCGm b0)+qCGj*Ex.sz (qCG2 x_2)+(10:Nat)<=qCGe)/\∀(l'_2:List (List Nat)),l'_2=List.take (qCG5 b0) b0++ [[(42:Nat)]]++par (Ex.op (qCG2 x_2)) (wr IntKind.i64 (y+qCGb)) (txX (qCG2 x_2))->l'_2=f0/\List.length l'_2=List.length f0/\fzO (some (List.take (qCG5 b0) b0++ [[(42:Nat)]],fzO (some (c0,d0))))=fzO (some (c0,d0)))/\((wr IntKind.i64 (qCGg a0)==(↑((0:Nat)+qCG8+qCG8):Int))=false->True)))
abbrev qCGn (a0:List (List Nat)):=(List.take (qCG5 a0) a0++ [[(43:Nat)]])
abbrev qCG3 (a0:Ex) (b0:List (List Nat)) (c0:List (List Nat)) (d0:Nat) (e0:Nat) (f0:List (List Nat)):=((wr IntKind.i64 (qCGg a0)==(↑(0:Nat):Int))=true->(qCGf b0 c0 d0)/\qCGc<=qCGb/\qCGb+qCGb<=(qCG9 a0)/\∀(x_2:Ex),(Ex.l a0)[Int.toNat qCGb]? =some x_2->True/\∀(y:Int),y=tightF (Ex.op a0)->(List.length b0+qCG8=List.length (qCGn b0)/\fzO (some (c0,d0))<=List.length (qCGn b0)/\Ex.sz (qCG2 x_2)+qCG8<=e0/\Ye (qCG2 x_2)=true/\qCG8<=List.length (qCGn b0)/\List.length (qCGn b0)+qCGj*Ex.sz (qCG2 x_2)+(10:Nat)<=qCGe)/\∀(l'_2:List (List Nat)),l'_2=List.take (qCG5 b0) b0++ [[(43:Nat)]]++par (Ex.op (qCG2 x_2)) (wr IntKind.i64 (y+qCGb)) (txX (qCG2 x_2))->l'_2=f0/\List.length l'_2=List.length f0/\fzO (some (List.take (qCG5 b0) b0++ [[(43:Nat)]],fzO (some (c0,d0))))=fzO (some (c0,d0)))
abbrev qCGo:=(40:Nat)
abbrev qCGh (a0:List (List Nat)) (b0:Nat):=(some (List.take (qCG5 a0) a0++ [[(105:Nat),(102:Nat)],[qCGo]],b0))
abbrev qCG4 (a0:List (List Nat)) (b0:List (List Nat)) (c0:Nat):=(some (List.take (qCG5 a0) a0++ [[(60:Nat)]],fzO (qCGh b0 c0)))
abbrev qCGp:=(44:Nat)
abbrev qCG6 (a0:List (List Nat)):=(List.take (qCG5 a0) a0++ [[qCGp]])
abbrev qCG7 (a0:List (List Nat)) (b0:Nat) (c0:Ex) (d0:Nat):=(List.length a0=List.length a0/\b0<=List.length a0/\Ex.sz (qCG2 c0)+qCG8<=d0/\Ye (qCG2 c0)=true/\qCG8<=List.length a0/\List.length a0+qCGj*Ex.sz (qCG2 c0)+(10:Nat)<=qCGe)
abbrev qCGd (a0:List (List Nat)):=(List.take (qCG5 a0) a0++ [[(105:Nat),(102:Nat)],[qCGo]])
abbrev qCGk (a0:List (List Nat)):=(List.take (qCG5 a0) a0++ [[(60:Nat)]])
abbrev qCGr (a0:List (List Nat)) (b0:List (List Nat)) (c0:List (List Nat)) (d0:Nat):=(some (List.take (qCG5 a0) a0++ [[qCGp]],fzO (qCG4 b0 c0 d0)))
theorem Zq6 (m:Nat) (l:List (List Nat)) (fz:Nat) (x:Ex) (l':List (List Nat)):Zk E Fpu (vc E (Fxp' m) 400) 79 [.ptr 0 0,exA x] (hpP E Th.strs (some (l,fz))) 2 (prnK E Th.strs (some (l,fz)) l')=(
 ((Ex.op x==qCGb)=true->(qCGc<=Ex.n x/\Ex.n x+qCGb<=(10000000000000:Int))/\∀(y:List Nat),y=decN (Ex.n x)->(List.length l<=List.length l/\fz<=List.length l/\(qCGi l)*qCGq<=qCGa)/\(List.length l+qCG8=List.length (List.take (qCG5 l) l++ [y])/\fz<=List.length (List.take (qCG5 l) l++ [y])/\qCG8<=List.length (List.take (qCG5 l) l++ [y])/\List.length (List.take (qCG5 l) l++ [y])+qCGj<=qCGe)/\∀(l'_1:List (List Nat)),l'_1=List.take (qCG5 l) l++ [y]++txU [Ex.d0 x,Ex.d1 x,Ex.d2 x,Ex.d3 x]->l'_1=l'/\List.length l'_1=List.length l'/\fzO (some (List.take (qCG5 l) l++ [y],fz))=fzO (some (l,fz)))/\((Ex.op x==qCGb)=false->((Ex.op x==(2:Int))=true->qCGc<=Ex.n x/\Ex.n x+qCGb<=(↑(List.length (WK.words WK.at_)):Int)/\∀(x_1:List Nat),(WK.words WK.at_)[Int.toNat (Ex.n x)]? =some x_1->(List.length l<=List.length l/\fz<=List.length l/\(qCGi l)*qCGq<=qCGa)/\List.take (qCG5 l) l++ [x_1]=l'/\List.length l+qCG8=List.length l'/\fz=fzO (some (l,fz)))/\((Ex.op x==(2:Int))=false->((Ex.op x==(11:Int))=true->(List.length l<=List.length l/\fz<=List.length l/\(List.length l+(2:Nat))*qCGq<=qCGa)/\qCGc<=qCGc/\qCGc+qCGb<=(qCG9 x)/\∀(x_1:Ex),(Ex.l x)[Int.toNat qCGc]? =some x_1->(List.length l+(2:Nat)=List.length (qCGd l)/\fz<=List.length (qCGd l)/\Ex.sz (qCG2 x_1)+qCG8<=m/\Ye (qCG2 x_1)=true/\qCG8<=List.length (qCGd l)/\List.length (qCGd l)+qCGj*Ex.sz (qCG2 x_1)+qCGj<=qCGe)/\∀(l'_1:List (List Nat)),l'_1=List.take (qCG5 l) l++ [[(105:Nat),(102:Nat)],[qCGo]]++txX (qCG2 x_1)->(List.length l'_1<=List.length l'_1/\fzO (qCGh l fz)<=List.length l'_1/\(qCGi l'_1)*qCGq<=qCGa)/\qCGc<=qCGb/\qCGb+qCGb<=(qCG9 x)/\∀(x_2:Ex),(Ex.l x)[Int.toNat qCGb]? =some x_2->(List.length l'_1+qCG8=List.length (qCGk l'_1)/\fzO (qCGh l fz)<=List.length (qCGk l'_1)/\Ex.sz (qCG2 x_2)+qCG8<=m/\Ye (qCG2 x_2)=true/\qCG8<=List.length (qCGk l'_1)/\List.length (qCGk l'_1)+qCGj*Ex.sz (qCG2 x_2)+qCGj<=qCGe)/\∀(l'_2:List (List Nat)),l'_2=List.take (qCG5 l'_1) l'_1++ [[(60:Nat)]]++txX (qCG2 x_2)->(List.length l'_2<=List.length l'_2/\fzO (qCG4 l'_1 l fz)<=List.length l'_2/\(qCGi l'_2)*qCGq<=qCGa)/\qCGc<=(2:Int)/\(2:Int)+qCGb<=(qCG9 x)/\∀(x_3:Ex),(Ex.l x)[Int.toNat (2:Int)]? =some x_3->(List.length l'_2+qCG8=List.length (qCG6 l'_2)/\fzO (qCG4 l'_1 l fz)<=List.length (qCG6 l'_2)/\Ex.sz (qCG2 x_3)+qCG8<=m/\Ye (qCG2 x_3)=true/\qCG8<=List.length (qCG6 l'_2)/\List.length (qCG6 l'_2)+qCGj*Ex.sz (qCG2 x_3)+qCGj<=qCGe)/\∀(l'_3:List (List Nat)),l'_3=List.take (qCG5 l'_2) l'_2++ [[qCGp]]++txX (qCG2 x_3)->(List.length l'_3<=List.length l'_3/\fzO (qCGr l'_2 l'_1 l fz)<=List.length l'_3/\(qCGi l'_3)*qCGq<=qCGa)/\qCGc<=(3:Int)/\(3:Int)+qCGb<=(qCG9 x)/\∀(x_4:Ex),(Ex.l x)[Int.toNat (3:Int)]? =some x_4->(List.length l'_3+qCG8=List.length (qCG6 l'_3)/\fzO (qCGr l'_2 l'_1 l fz)<=List.length (qCG6 l'_3)/\Ex.sz (qCG2 x_4)+qCG8<=m/\Ye (qCG2 x_4)=true/\qCG8<=List.length (qCG6 l'_3)/\List.length (qCG6 l'_3)+qCGj*Ex.sz (qCG2 x_4)+qCGj<=qCGe)/\∀(l'_4:List (List Nat)),l'_4=List.take (qCG5 l'_3) l'_3++ [[qCGp]]++txX (qCG2 x_4)->(List.length l'_4<=List.length l'_4/\fzO (some (List.take (qCG5 l'_3) l'_3++ [[qCGp]],fzO (qCGr l'_2 l'_1 l fz)))<=List.length l'_4/\(qCGi l'_4)*qCGq<=qCGa)/\List.take (qCG5 l'_4) l'_4++ [[(41:Nat)]]=l'/\List.length l'_4+qCG8=List.length l'/\fzO (some (List.take (qCG5 l'_3) l'_3++ [[qCGp]],fzO (qCGr l'_2 l'_1 l fz)))=fzO (some (l,fz)))/\((Ex.op x==(11:Int))=false->((Ex.op x==(3:Int))=true->qCGc<=qCGc/\qCGc+qCGb<=(qCG9 x)/\∀(x_1:Ex),(Ex.l x)[Int.toNat qCGc]? =some x_1->True/\∀(y:Int),y=tightF (Ex.op x)->(qCG7 l fz x_1 m)/\∀(l'_1:List (List Nat)),l'_1=l++par (Ex.op (qCG2
x_1)) y (txX (qCG2 x_1))->qCGc<=wr IntKind.i64 (qCGg x)/\wr IntKind.i64 (qCGg x)+qCGb<=(↑(3:Nat):Int)/\(qCG3 x l'_1 l fz m l')/\(qCG1 x l'_1 l fz m l'))/\((Ex.op x==(3:Int))=false->((Ex.op x==(4:Int))=true->qCGc<=qCGc/\qCGc+qCGb<=(qCG9 x)/\∀(x_1:Ex),(Ex.l x)[Int.toNat qCGc]? =some x_1->True/\∀(y:Int),y=tightF (Ex.op x)->(qCG7 l fz x_1 m)/\∀(l'_1:List (List Nat)),l'_1=l++par (Ex.op (qCG2 x_1)) y (txX (qCG2 x_1))->qCGc<=wr IntKind.i64 (qCGg x)/\wr IntKind.i64 (qCGg x)+qCGb<=(↑(3:Nat):Int)/\(qCG3 x l'_1 l fz m l')/\(qCG1 x l'_1 l fz m l'))/\((Ex.op x==(4:Int))=false->((Ex.op x==(5:Int))=true->qCGc<=qCGc/\qCGc+qCGb<=(qCG9 x)/\∀(x_1:Ex),(Ex.l x)[Int.toNat qCGc]? =some x_1->True/\∀(y:Int),y=tightF (Ex.op x)->(qCG7 l fz x_1 m)/\∀(l'_1:List (List Nat)),l'_1=l++par (Ex.op (qCG2 x_1)) y (txX (qCG2 x_1))->qCGc<=wr IntKind.i64 (qCGg x)/\wr IntKind.i64 (qCGg x)+qCGb<=(↑(3:Nat):Int)/\(qCG3 x l'_1 l fz m l')/\(qCG1 x l'_1 l fz m l'))/\((Ex.op x==(5:Int))=false->qCGc<=wr IntKind.i64 (Ex.op x-(6:Int))/\wr IntKind.i64 (Ex.op x-(6:Int))+qCGb<=(↑(List.length (WK.words WK.ca)):Int)/\∀(x_1:List Nat),(WK.words WK.ca)[Int.toNat (wr IntKind.i64 (Ex.op x-(6:Int)))]? =some x_1->(List.length l<=List.length l/\fz<=List.length l/\(List.length l+(2:Nat))*qCGq<=qCGa)/\qCGc<=qCGc/\qCGc+qCGb<=(qCG9 x)/\∀(x_2:Ex),(Ex.l x)[Int.toNat qCGc]? =some x_2->(List.length l+(2:Nat)=List.length (List.take (qCG5 l) l++ [x_1,[qCGo]])/\fz<=List.length (List.take (qCG5 l) l++ [x_1,[qCGo]])/\Ex.sz (qCG2 x_2)+qCG8<=m/\Ye (qCG2 x_2)=true/\qCG8<=List.length (List.take (qCG5 l) l++ [x_1,[qCGo]])/\List.length (List.take (qCG5 l) l++ [x_1,[qCGo]])+qCGj*Ex.sz (qCG2 x_2)+qCGj<=qCGe)/\∀(l'_1:List (List Nat)),l'_1=List.take (qCG5 l) l++ [x_1,[qCGo]]++txX (qCG2 x_2)->(List.length l'_1<=List.length l'_1/\fzO (some (List.take (qCG5 l) l++ [x_1,[qCGo]],fz))<=List.length l'_1/\(qCGi l'_1)*qCGq<=qCGa)/\qCGc<=qCGb/\qCGb+qCGb<=(qCG9 x)/\∀(x_3:Ex),(Ex.l x)[Int.toNat qCGb]? =some x_3->(List.length l'_1+qCG8=List.length (qCG6 l'_1)/\fzO (some (List.take (qCG5 l) l++ [x_1,[qCGo]],fz))<=List.length (qCG6 l'_1)/\Ex.sz (qCG2 x_3)+qCG8<=m/\Ye (qCG2 x_3)=true/\qCG8<=List.length (qCG6 l'_1)/\List.length (qCG6 l'_1)+qCGj*Ex.sz (qCG2 x_3)+qCGj<=qCGe)/\∀(l'_2:List (List Nat)),l'_2=List.take (qCG5 l'_1) l'_1++ [[qCGp]]++txX (qCG2 x_3)->(List.length l'_2<=List.length l'_2/\fzO (some (List.take (qCG5 l'_1) l'_1++ [[qCGp]],fzO (some (List.take (qCG5 l) l++ [x_1,[qCGo]],fz))))<=List.length l'_2/\(qCGi l'_2)*qCGq<=qCGa)/\List.take (qCG5 l'_2) l'_2++ [[(41:Nat)]]=l'/\List.length l'_2+qCG8=List.length l'/\fzO (some (List.take (qCG5 l'_1) l'_1++ [[qCGp]],fzO (some (List.take (qCG5 l) l++ [x_1,[qCGo]],fz))))=fzO (some (l,fz))))))))):=by kernel_rfl
theorem Z98 (op n a b c d:Int) (l:List Ex):Ex.op (.mk op n a b c d l)=op:=rfl
theorem n_mk (op n a b c d:Int) (l:List Ex):Ex.n (.mk op n a b c d l)=n:=rfl
theorem Z99 (op n a b c d:Int) (l:List Ex):Ex.d0 (.mk op n a b c d l)=a:=rfl
theorem Yaa (op n a b c d:Int) (l:List Ex):Ex.d1 (.mk op n a b c d l)=b:=rfl
theorem Yab (op n a b c d:Int) (l:List Ex):Ex.d2 (.mk op n a b c d l)=c:=rfl
theorem Yac (op n a b c d:Int) (l:List Ex):Ex.d3 (.mk op n a b c d l)=d:=rfl
theorem l_mk (op n a b c d:Int) (l:List Ex):Ex.l (.mk op n a b c d l)=l:=rfl
theorem u_mk (op n a b c d:Int) (l:List Ex):Ex.u (.mk op n a b c d l)= [a,b,c,d]:=rfl
theorem len4 {α:Type} {l:List α} (h:l.length=4):∃a b c d,l= [a,b,c,d]:=by
 match l,h with
 | [a,b,c,d],_=>exact ⟨a,b,c,d,rfl⟩
theorem Zlm (op least:Int) (t:List (List Nat)):(par op least t).length<=t.length+2:=by
 unfold par
 split
 · omega
 · simp
theorem Zo1:∀m,PxOk m
 |0=>fun x h=>by omega
 |m+1=>by
  intro x hx hf l fz hfz h1 hl
  have hm:=Zo1 m
  refine Zc2 E_ok (Xv E_ok Zqg fun f N c=>(Zh2 E_ok (Z57 hm) 400 f N c).1) rfl ?_
  show Zk E Fpu (vc E (Fxp' m) 400) 79 [.ptr 0 0,exA x] (hpP E Th.strs (some (l,fz))) 2 (prnK E Th.strs (some (l,fz)) (l++txX x))
  rw [Zq6];delta qCG5 qCGc qCGl qCG8 qCGj qCGb qCGq qCGa qCGi qCGf qCG9 qCGm qCGe qCG2 qCGg qCG1 qCGn qCG3 qCGo qCGh qCG4 qCGp qCG6 qCG7 qCGd qCGk qCGr
  simp only [fzO,List.take_length,Ex.eta,forall_eq,beq_iff_eq,beq_eq_false_iff_ne,ne_eq]
  rw [Zdd,Bool.and_eq_true] at hf
  obtain ⟨hh,hfl⟩:=hf
  have hkf:∀y∈x.l,Ye y=true:=formL_iff.1 hfl
  rw [Ex.sz_eq] at hx hl
  obtain ⟨op,n,a,b,c,d,xs⟩:=x
  simp only [Z98,n_mk,Z99,Yaa,Yab,Yac,l_mk,u_mk] at*
  obtain ⟨g1,g2,g3,g4,g5,g6,g7⟩:=Zcu hh
  have htx:txX (.mk op n a b c d xs)=txN op n [a,b,c,d] (xs.map Ex.op) (txL xs):=by rw [txX]
  rw [htx]
  clear hh hfl htx
  have w0:wr .i64 0=0:=by decide
  have w1:wr .i64 1=1:=by decide
  have w2:wr .i64 2=2:=by decide
  have w3:wr .i64 3=3:=by decide
  have t3:tightF 3=1:=rfl
  have t4:tightF 4=1:=rfl
  have t5:tightF 5=2:=rfl
  refine ⟨fun q1=> ?_,fun q1=>⟨fun q2=> ?_,fun q2=>⟨fun q3=> ?_,fun q3=>⟨fun q4=> ?_,fun q4=>⟨fun q5=> ?_,fun q5=>⟨fun q6=> ?_,fun q6=> ?_⟩⟩⟩⟩⟩⟩
  · subst q1
    have h4:n<=1099511627776:=g4
    refine ⟨⟨g3,by omega⟩,⟨Nat.le_refl _,hfz,by omega⟩,⟨by simp,by simp;omega,by simp,by simp;omega⟩,?_⟩
    simp [txN]
  · subst q2
    have h4:n<=15:=g4
    have L:WK.at_.words.length=16:=rfl
    refine ⟨g3,by rw [L];omega,fun w hw=>⟨⟨Nat.le_refl _,hfz,by omega⟩,?_⟩⟩
    have:WK.at_.words.getD n.toNat []=w:=by simp [List.getD,hw]
    unfold txN
    rw [if_neg (by decide),if_pos rfl,this]
    simp
  · subst q3
    obtain ⟨x1,x2,x3,x4,rfl⟩:=len4 (show xs.length=4 from g5)
    have s:x1.sz+(x2.sz+(x3.sz+(x4.sz+0)))+1<m+1:=hx
    have s':l.length+8*(x1.sz+(x2.sz+(x3.sz+(x4.sz+0)))+1)+8<=1000000000:=hl
    have p1:=Y3 x1
    have p2:=Y3 x2
    have p3:=Y3 x3
    have p4:=Y3 x4
    have f1:=hkf x1 (by simp)
    have f2:=hkf x2 (by simp)
    have f3:=hkf x3 (by simp)
    have f4:=hkf x4 (by simp)
    simp [f1,f2,f3,f4,txN,txS,txL,sIf,Y9,Zbs,Z3,Zy]
    omega
  · subst q4
    obtain ⟨x1,x2,rfl⟩:=len2 (show xs.length=2 from g5)
    have s:x1.sz+(x2.sz+0)+1<m+1:=hx
    have s':l.length+8*(x1.sz+(x2.sz+0)+1)+8<=1000000000:=hl
    have p1:=Y3 x1
    have p2:=Y3 x2
    have f1:=hkf x1 (by simp)
    have f2:=hkf x2 (by simp)
    have r1:=Zlm x1.op 1 (txX x1)
    simp [w0,w1,w2,w3,t3,f1,f2,txN,txL,sgnO,Zag]
    omega
  · subst q5
    obtain ⟨x1,x2,rfl⟩:=len2 (show xs.length=2 from g5)
    have s:x1.sz+(x2.sz+0)+1<m+1:=hx
    have s':l.length+8*(x1.sz+(x2.sz+0)+1)+8<=1000000000:=hl
    have p1:=Y3 x1
    have p2:=Y3 x2
    have f1:=hkf x1 (by simp)
    have f2:=hkf x2 (by simp)
    have r1:=Zlm x1.op 1 (txX x1)
    simp [w0,w1,w2,w3,t4,f1,f2,txN,txL,sgnO,W6]
    omega
  · subst q6
    obtain ⟨x1,x2,rfl⟩:=len2 (show xs.length=2 from g5)
    have s:x1.sz+(x2.sz+0)+1<m+1:=hx
    have s':l.length+8*(x1.sz+(x2.sz+0)+1)+8<=1000000000:=hl
    have p1:=Y3 x1
    have p2:=Y3 x2
    have f1:=hkf x1 (by simp)
    have f2:=hkf x2 (by simp)
    have r1:=Zlm x1.op 2 (txX x1)
    simp [w0,w1,w2,w3,t5,f1,f2,txN,txL,sgnO,sMul]
    omega
  · have L:WK.ca.words.length=5:=rfl
    obtain ⟨x1,x2,rfl⟩:=len2 (show xs.length=2 by rw [g5];unfold Zt1;rw [if_neg (by omega),if_neg (by omega)])
    have s:x1.sz+(x2.sz+0)+1<m+1:=hx
    have s':l.length+8*(x1.sz+(x2.sz+0)+1)+8<=1000000000:=hl
    have p1:=Y3 x1
    have p2:=Y3 x2
    have f1:=hkf x1 (by simp)
    have f2:=hkf x2 (by simp)
    have wo:wr .i64 (op-6)=op-6:=wr64 (by omega) (by omega)
    simp only [wo]
    refine ⟨by omega,by rw [L];omega,fun w hw=> ?_⟩
    have e:WK.ca.words.getD (op-6).toNat []=w:=by simp [List.getD,hw]
    have q7:¬(op=3\/op=4\/op=5):=by omega
    unfold txN
    rw [if_neg q1,if_neg q2,if_neg q3,if_neg q7,e]
    simp [f1,f2,txS,txL,Y9,Z3,Zy]
    omega
end
section
open Go
def CsOk:List (List Nat)->List Cls->Prop
 |_,[]=>True
 |seen,c::r=>Wm c=true/\resF c.name=false/\c.name∉seen/\c.when_.length<=8/\Z1 c.pay<=24/\CsOk (c.name::seen) r
def Z47 (m:List (List Nat×Bool)) (seen:List (List Nat)):Prop:=∀a,(Yy m a).getD false=decide (a∈seen)
theorem Zwo {m:List (List Nat×Bool)} {seen:List (List Nat)} (h:Z47 m seen) (a:List Nat):Z47 (putS m a true) (a::seen):=by
 intro b
 rw [Zfp]
 by_cases e:a=b
 · rw [if_pos e]
   subst e
   simp
 · rw [if_neg e,h b]
   simp [Ne.symm e]
theorem Zp3:∀(cs:List Cls) (a b:Bool) (m:List (List Nat×Bool)) (seen:List (List Nat)),Z47 m seen->(goC a b m cs=0↔a=false/\b=false/\CsOk seen cs)
 | [],a,b,m,seen,hm=>by
  unfold goC CsOk
  cases a<;>cases b<;>decide
 |c::r,a,b,m,seen,hm=>by
  rw [Zg1]
  unfold CsOk
  by_cases hc:Wm c=true
  · rw [if_pos hc,Zp3 r _ _ _ _ (Zwo hm c.name),hm c.name]
    simp only [Bool.or_eq_false_iff,decide_eq_false_iff_not]
    constructor
    · rintro ⟨⟨⟨h1,h2⟩,h3⟩,⟨⟨h4,h5⟩,h6⟩,h7⟩
      exact ⟨h1,h4,hc,h2,h3,by omega,by omega,h7⟩
    · rintro ⟨h1,h4,_,h2,h3,h5,h6,h7⟩
      exact ⟨⟨⟨h1,h2⟩,h3⟩,⟨⟨h4,by omega⟩,by omega⟩,h7⟩
  · rw [if_neg hc]
    constructor
    · intro h
      cases h
    · rintro ⟨_,_,h,_⟩
      exact absurd h hc
theorem Zax (t:Tar):Y1 t=0↔W3 t.name=true/\1<=t.for_/\t.for_<=6/\resF t.name=false/\t.clauses.length<=64/\CsOk [] t.clauses:=by
 unfold Y1
 split
 · rename_i h
   rw [Zp3 _ _ _ _ [] (fun a=>by simp [Yy])]
   rw [decide_eq_false_iff_not]
   constructor
   · rintro ⟨h1,h2,h3⟩
     exact ⟨h.1,h.2.1,h.2.2,h1,by omega,h3⟩
   · rintro ⟨_,_,_,h1,h2,h3⟩
     exact ⟨h1,by omega,h3⟩
 · rename_i h
   constructor
   · intro k
     cases k
   · rintro ⟨h1,h2,h3,_⟩
     exact absurd ⟨h1,h2,h3⟩ h
theorem Zew (i:Nat) (w:Tst) (r:List Tst):txTs i (w::r)=(if i=0 then Zfr else sAnd)::(txW w++txTs (i+1) r):=rfl
theorem Zh8 {n:Int} (h0:0<=n) (h1:n<=1099511627776) (r:List Tok) (e:Int):pInt (tkS (decN n)::r) e= .ok (n,r,e,()):=by
 rw [Zwr h0 h1]
 rfl
theorem Ui {w:Tst} (h:Ya w=true):0<=w.attr/\w.attr<16/\0<=w.low/\w.low<=1099511627776/\0<=w.high/\w.high<=1099511627776:=of_decide_eq_true h
theorem Z0n (w:Tst):(⟨w.attr,w.low,w.high⟩:Tst)=w:=rfl
theorem Zkl {w:Tst} (h:Ya w=true) {n:Int} (hn:n≠8) (r:List Tok) (e:Int):Wp n (TS (txW w)++r) e= .ok (w,r,e,()):=by
 obtain ⟨a0,a1,l0,l1,h0,h1⟩:=Ui h
 have hk:w.attr.toNat<WK.at_.words.length:=by show w.attr.toNat<16;omega
 unfold txW
 rw [Zfj,List.cons_append]
 unfold Wp Yd
 rw [Zc5 hk,if_pos (by omega)]
 dsimp only [List.tail_cons]
 rw [if_neg hn,show ((w.attr.toNat:Nat):Int)=w.attr by omega]
 by_cases hq:w.low=w.high
 · rw [if_pos hq]
   have e1:TS [sIs,decN w.low]++r=tkS sIs::tkS (decN w.low)::r:=rfl
   rw [e1,if_pos (show isW sIs (tkS sIs::tkS (decN w.low)::r)=true from rfl),List.tail_cons,Zh8 l0 l1]
   dsimp only
   conv=>rhs;rw [<-Z0n w,<-hq]
 · rw [if_neg hq]
   have e1:TS [sIn,decN w.low,Zb8,decN w.high]++r=tkS sIn::tkS (decN w.low)::tkS Zb8::tkS (decN w.high)::r:=rfl
   rw [e1,if_neg (show ¬isW sIs (tkS sIn::tkS (decN w.low)::tkS Zb8::tkS (decN w.high)::r)=true from Bool.false_ne_true),
    if_pos (show isW sIn (tkS sIn::tkS (decN w.low)::tkS Zb8::tkS (decN w.high)::r)=true from rfl),List.tail_cons,Zh8 l0 l1]
   dsimp only
   rw [if_pos (show isW Zb8 (tkS Zb8::tkS (decN w.high)::r)=true from rfl),List.tail_cons,Zh8 h0 h1]
theorem Zh9 (k:Nat) (ts:List Tst) (l:List Tok) (e:Int):pTs k false ts l e= .ok (ts,l,e,()):=by
 cases k with
 |zero=>rfl
 |succ k=>unfold pTs;rw [if_neg Bool.false_ne_true]
theorem Zgl {e:Int} {r:List Tok} (hr:isW [97,110,100] r=false):∀(ws:List Tst) (i k:Nat) (ts:List Tst),1<=i->(∀w∈ws,Ya w=true)->ws.length<k->ts.length+ws.length<=8->
 pTs k (isW [97,110,100] (TS (txTs i ws)++r)) ts (if isW [97,110,100] (TS (txTs i ws)++r) then (TS (txTs i ws)++r).tail else TS (txTs i ws)++r) e= .ok (ts++ws,r,e,())
 | [],i,k,ts,hi,hw,hk,hl=>by
  have e1:TS (txTs i [])++r=r:=rfl
  rw [e1,hr,if_neg Bool.false_ne_true,Zh9,List.append_nil]
 |w::ws,i,0,ts,hi,hw,hk,hl=>by simp at hk
 |w::ws,i,k+1,ts,hi,hw,hk,hl=>by
  have e1:TS (txTs i (w::ws))++r=tkS sAnd::(TS (txW w)++(TS (txTs (i+1) ws)++r)):=by
   rw [Zew,if_neg (by omega),Zfj,Zlc,List.cons_append,List.append_assoc]
  have e2:isW [97,110,100] (tkS sAnd::(TS (txW w)++(TS (txTs (i+1) ws)++r)))=true:=rfl
  rw [e1,e2,if_pos rfl,List.tail_cons]
  unfold pTs
  rw [if_pos rfl,Zkl (hw w (by simp)) (by simp at hl;omega)]
  dsimp only
  rw [Zgl hr ws (i+1) k (ts++ [w]) (by omega) (fun w h=>hw w (by simp [h])) (by simpa using hk) (by simp at hl⊢;omega)]
  rw [List.append_assoc]
  rfl
theorem Zms {e:Int} {r:List Tok} (hr:isW [97,110,100] r=false) (hr2:isW [119,104,101,110] r=false) (ws:List Tst) (hw:∀w∈ws,Ya w=true) (hl:ws.length<=8):
 pTs 10 (isW [119,104,101,110] (TS (txTs 0 ws)++r)) [] (if isW [119,104,101,110] (TS (txTs 0 ws)++r) then (TS (txTs 0 ws)++r).tail else TS (txTs 0 ws)++r) e= .ok (ws,r,e,()):=by
 cases ws with
 |nil=>
  have e1:TS (txTs 0 [])++r=r:=rfl
  rw [e1,hr2,if_neg Bool.false_ne_true,Zh9]
 |cons w ws=>
  have e1:TS (txTs 0 (w::ws))++r=tkS Zfr::(TS (txW w)++(TS (txTs 1 ws)++r)):=by
   rw [Zew,if_pos rfl,Zfj,Zlc,List.cons_append,List.append_assoc]
  have e2:isW [119,104,101,110] (tkS Zfr::(TS (txW w)++(TS (txTs 1 ws)++r)))=true:=rfl
  rw [e1,e2,if_pos rfl,List.tail_cons]
  unfold pTs
  rw [if_pos rfl,Zkl (hw w (by simp)) (by simp)]
  dsimp only
  rw [Zgl hr ws 1 9 _ (Nat.le_refl _) (fun w h=>hw w (by simp [h])) (by simp at hl;omega) (by simp at hl⊢;omega)]
  rfl
theorem Zex (c:Cls) (r:List Cls):txCs (c::r)=txC c++txCs r:=rfl
theorem Zkm {s:List Nat} (h:W3 s=true) (hr:resF s=false) (r:List Tok) (e:Int):Vw (tkS s::r) e= .ok (s,r,e,()):=by
 rw [Zib h]
 show (if (1:Int)=1 then (if s∈resW then (.error (0,161):PR (List Nat)) else .ok (s,r,e,())) else .error (0,160))=_
 rw [if_pos rfl,if_neg (of_decide_eq_false hr)]
theorem Zay {c:Cls} (h:Wm c=true):W3 c.name=true/\Ye c.pay=true/\∀w∈c.when_,Ya w=true:=by
 unfold Wm at h
 rw [Bool.and_eq_true,Bool.and_eq_true] at h
 exact ⟨h.1.1,h.1.2,List.all_eq_true.1 h.2⟩
theorem Zmt {c:Cls} {bs:List Cls} (h1:Wm c=true) (h2:resF c.name=false) (h3:bs.any (fun b=>b.name==c.name)=false) (h4:c.when_.length<=8) (h5:Z1 c.pay<=24) (r:List Tok) (e:Int):
 Z8 bs (TS (c.name::(txTs 0 c.when_++sPay::(txX c.pay++ [Ze5])))++r) e= .ok (c,r,e,()):=by
 obtain ⟨k1,k2,k3⟩:=Zay h1
 have e1:TS (c.name::(txTs 0 c.when_++sPay::(txX c.pay++ [Ze5])))++r=tkS c.name::(TS (txTs 0 c.when_)++tkS sPay::(TS (txX c.pay)++tkS Ze5::r)):=by simp
 rw [e1]
 unfold Z8
 rw [Zkm k1 h2]
 dsimp only
 rw [if_neg (by rw [h3];decide),Zms (r:=tkS sPay::(TS (txX c.pay)++tkS Ze5::r)) rfl rfl _ k3 h4]
 unfold pAft pPay
 dsimp only
 rw [if_pos (show isW [112,97,121] (tkS sPay::(TS (txX c.pay)++tkS Ze5::r))=true from rfl),List.tail_cons,(rdb c.pay k2).all (Z1t r) e]
 dsimp only
 rw [if_neg (by omega),if_pos (show isW [59] (tkS Ze5::r)=true from rfl)]
 rfl
theorem any_name {bs:List Cls} {a:List Nat}:bs.any (fun b=>b.name==a)=false↔a∉bs.map Cls.name:=by
 rw [List.any_eq_false]
 simp only [List.mem_map,not_exists,not_and]
 constructor
 · intro h b hb e
   exact h b hb (by rw [e];exact beq_self_eq_true a)
 · intro h b hb e
   exact h b hb (eq_of_beq e)
theorem CsOk.congr:∀{cs:List Cls} {s s':List (List Nat)},(∀a,a∈s↔a∈s')->CsOk s cs->CsOk s' cs
 | [],_,_,_,_=>trivial
 |c::r,s,s',h,⟨h1,h2,h3,h4,h5,h6⟩=>⟨h1,h2,fun k=>h3 ((h _).2 k),h4,h5,CsOk.congr (fun a=>by simp [h a]) h6⟩
theorem Zc3 {e:Int} {r:List Tok} (hr:isW [99,108,97,117,115,101] r=false):∀(cs bs:List Cls) (k:Nat),CsOk (bs.map Cls.name) cs->cs.length<k->bs.length+cs.length<=64->
 pCls k bs (TS (txCs cs)++r) e= .ok (bs++cs,r,e,())
 | [],bs,0,_,hk,_=>by simp at hk
 | [],bs,k+1,_,_,_=>by
  have e1:TS (txCs [])++r=r:=rfl
  unfold pCls
  rw [e1,hr,if_neg Bool.false_ne_true,List.append_nil]
 |c::cs,bs,0,_,hk,_=>by simp at hk
 |c::cs,bs,k+1,h,hk,hl=>by
  obtain ⟨h1,h2,h3,h4,h5,h6⟩:=h
  have e1:TS (txCs (c::cs))++r=tkS Xr::(TS (c.name::(txTs 0 c.when_++sPay::(txX c.pay++ [Ze5])))++(TS (txCs cs)++r)):=by
   rw [Zex]
   unfold txC
   rw [Zlc,Zfj,List.append_assoc,List.cons_append]
  rw [e1]
  unfold pCls
  rw [if_pos (show isW [99,108,97,117,115,101] (tkS Xr::_)=true from rfl),if_neg (by simp at hl;omega),List.tail_cons,Zmt h1 h2 (any_name.2 h3) h4 h5]
  dsimp only
  rw [Zc3 hr cs (bs++ [c]) k (CsOk.congr (fun a=>by simp [or_comm]) h6) (by simpa using hk) (by simp at hl⊢;omega)]
  rw [List.append_assoc]
  rfl
theorem Zp4 {t:Tar} (h:Y1 t=0) (e:Int):pTar (TS (Yv t)) e= .ok (t,[],e,()):=by
 obtain ⟨h1,h2,h3,h4,h5,h6⟩:=(Zax t).1 h
 have e1:TS (Yv t)=tkS Ze6::tkS t.name::tkS sFor::tkS (WK.ki.words.getD (t.for_-1).toNat [])::tkS sLb::(TS (txCs t.clauses)++ [tkS sRb]):=by
  unfold Yv
  simp
 have hk:(t.for_-1).toNat<WK.ki.words.length:=by show (t.for_-1).toNat<6;omega
 rw [e1]
 unfold pTar
 rw [if_pos (show isW [116,97,114,105,102,102] (tkS Ze6::_)=true from rfl),List.tail_cons,Zkm h1 h4]
 dsimp only
 rw [if_pos (show isW [102,111,114] (tkS sFor::_)=true from rfl),List.tail_cons]
 unfold Yd
 rw [Zc5 hk,if_pos (by omega)]
 dsimp only
 rw [List.tail_cons,if_pos (show isW [123] (tkS sLb::_)=true from rfl),List.tail_cons]
 have hlen:∀cs:List Cls,cs.length<=(txCs cs).length:=by
  intro cs
  induction cs with
  |nil=>exact Nat.le_refl _
  |cons c r ih=>
   rw [Zex]
   unfold txC
   simp
   omega
 rw [Zc3 (r:= [tkS sRb]) rfl t.clauses [] _ h6 (by have:=hlen t.clauses;simp;omega) (by simpa using h5)]
 unfold pEnd
 dsimp only
 rw [if_pos (show isW [125] [tkS sRb]=true from rfl),if_neg (by simp)]
 have:wr .i64 (1+(((t.for_-1).toNat:Nat):Int))=t.for_:=by
  rw [wr64 (by omega) (by omega)]
  omega
 rw [this]
 rfl
end
section
open Go
abbrev PP (β:Type):=List Tok->Int->PR β
section
variable {α β : Type}
def Okp (rel:β->β->Prop) (p:PP β) (l:List Tok) (y:β) (k:Nat):Prop:=
 k<=l.length/\∀(l':List Tok) (m:Nat) (f:Int),l'.map sT=(l.map sT).take m->
  (k<=m->p l' f= .ok (y,l'.drop k,f,()))/\(m<k->p l' f= .error (f,160)\/∃y',rel y' y/\p l' f= .ok (y',[],f,()))
def ErrS (p:PP β) (l:List Tok) (e:Int) (er:Int×Int):Prop:=∃(j:Nat) (c:Int),er=(hdT e (l.drop j),c)/\(c=2\/c=160\/c=161)/\∀(l':List Tok) (f:Int),l'.map sT=l.map sT->p l' f= .error (hdT f (l'.drop j),c)
def Gd (rel:β->β->Prop) (p:PP β):Prop:=∀l e,(∀y x,p l e= .ok (y,x)->∃k,x=(l.drop k,e,())/\Okp rel p l y k)/\∀er,p l e= .error er->ErrS p l e er
theorem ErrS.hd {p:PP β} {l:List Tok} {e:Int} {c:Int} (hc:c=2\/c=160\/c=161) (h:∀(l':List Tok) (f:Int),l'.map sT=l.map sT->p l' f= .error (hdT f l',c)):ErrS p l e (hdT e l,c):=⟨0,c,rfl,hc,h⟩
theorem Zbl {l l':List Tok} (h:l'.map sT=l.map sT):l'.map sT=(l.map sT).take l.length:=by rw [h,List.take_of_length_le (by simp)]
theorem Gd.mono {rel rel':β->β->Prop} {p:PP β} (h:Gd rel p) (hr:∀a b,rel a b->rel' a b):Gd rel' p:=by
 intro l e
 refine ⟨fun y x hy=> ?_,(h l e).2⟩
 obtain ⟨k,h1,h2,h3⟩:=(h l e).1 y x hy
 refine ⟨k,h1,h2,fun l' m f hl=>⟨(h3 l' m f hl).1,fun hm=>((h3 l' m f hl).2 hm).imp id ?_⟩⟩
 rintro ⟨y',h4,h5⟩
 exact ⟨y',hr _ _ h4,h5⟩
def pR (y:β):PP β:=fun l e=> .ok (y,l,e,())
def pSyn:PP β:=fun l e=> .error (hdT e l,160)
theorem Vl {l':List Tok} {m:Nat} (h:l'.map sT=(([]:List Tok).map sT).take m):l'= []:=by
 rw [List.map_nil,List.take_nil] at h
 exact List.map_eq_nil_iff.1 h
theorem gd_R (rel:β->β->Prop) (y:β):Gd rel (pR y):=by
 intro l e
 refine ⟨fun z x h=> ?_,fun er h=>by cases h⟩
 unfold pR at h
 cases h
 refine ⟨0,rfl,Nat.zero_le _,fun l' m f _=>⟨fun _=>rfl,fun h=>by omega⟩⟩
theorem Vs (rel:β->β->Prop):Gd rel (pSyn:PP β):=by
 intro l e
 refine ⟨fun z x h=>(by cases h),fun er h=> ?_⟩
 unfold pSyn at h
 cases h
 exact .hd (by simp) fun l' f _=>rfl
def pBc (p:PP α) (c:α->Bool) (code:Int) (q:α->PP β):PP β:=fun l e=>
 match p l e with
 | .error er=> .error er
 | .ok (y,x)=>if c y then .error (hdT e l,code) else q y x.1 x.2.1
def pB (p:PP α) (q:α->PP β):PP β:=fun l e=>
 match p l e with
 | .error er=> .error er
 | .ok (y,x)=>q y x.1 x.2.1
theorem Zu8 {l':List Tok} {l:List Tok} {m k:Nat} (h:l'.map sT=(l.map sT).take m):(l'.drop k).map sT=((l.drop k).map sT).take (m-k):=by
 rw [List.map_drop,h,List.map_drop,List.drop_take]
theorem Zzt {rel:α->α->Prop} {rel':β->β->Prop} {p:PP α} {c:α->Bool} {code:Int} {q:α->PP β} (hp:Gd rel p) (hq:∀y,Gd rel' (q y)) (hcode:code=2\/code=160\/code=161) (hc:∀y y',rel y' y->c y=false->c y'=false)
 (h0:∀y y' l e z x,rel y' y->q y l e= .ok (z,x)->∀f,q y' [] f= .error (f,160)\/∃z',rel' z' z/\q y' [] f= .ok (z',[],f,())):Gd rel' (pBc p c code q):=by
 intro l e
 have E:∀l e,pBc p c code q l e=match p l e with| .error er=> .error er| .ok (y,x)=>if c y then .error (hdT e l,code) else q y x.1 x.2.1:=fun _ _=>rfl
 rw [E]
 cases h:p l e with
 |error er=>
  refine ⟨fun z x h=>(by cases h),fun er' h'=> ?_⟩
  cases h'
  obtain ⟨j,c0,h1,h2,h3⟩:=(hp l e).2 er h
  exact ⟨j,c0,h1,h2,fun l' f hl=>by rw [E,h3 l' f hl]⟩
 |ok y=>
  obtain ⟨y,x⟩:=y
  obtain ⟨k1,rfl,h1,h2⟩:=(hp l e).1 y x h
  dsimp only
  cases hcy:c y with
  |true=>
   refine ⟨fun z x h=>(by cases h),fun er' h'=> ?_⟩
   cases h'
   refine .hd hcode fun l' f hl=> ?_
   rw [E,(h2 l' l.length f (Zbl hl)).1 h1]
   dsimp only
   rw [hcy,if_pos rfl]
  |false=>
   rw [if_neg Bool.false_ne_true]
   refine ⟨fun z x2 hz=> ?_,fun er' h'=> ?_⟩
   rotate_left
   · obtain ⟨j,c0,h3,h4,h5⟩:=(hq y _ _).2 er' h'
     refine ⟨k1+j,c0,by rw [h3,List.drop_drop],h4,fun l' f hl=> ?_⟩
     rw [E,(h2 l' l.length f (Zbl hl)).1 h1]
     dsimp only
     rw [hcy,if_neg Bool.false_ne_true,h5 (l'.drop k1) f (by rw [List.map_drop,hl,List.map_drop]),List.drop_drop]
   obtain ⟨k2,rfl,h3,h4⟩:=(hq y _ _).1 z x2 hz
   rw [List.length_drop] at h3
   refine ⟨k1+k2,by rw [List.drop_drop],by omega,fun l' m f hl=> ?_⟩
   have hd:=Zu8 (k:=k1) hl
   rw [E]
   refine ⟨fun hm=> ?_,fun hm=> ?_⟩
   · rw [(h2 l' m f hl).1 (by omega)]
     dsimp only
     rw [hcy,if_neg Bool.false_ne_true,(h4 _ _ f hd).1 (by omega),List.drop_drop]
   · by_cases hk:k1<=m
     · rw [(h2 l' m f hl).1 hk]
       dsimp only
       rw [hcy,if_neg Bool.false_ne_true]
       exact (h4 _ _ f hd).2 (by omega)
     · rcases (h2 l' m f hl).2 (by omega) with h5|⟨y',h5,h6⟩
       · rw [h5]
         exact .inl rfl
       · rw [h6]
         dsimp only
         rw [hc y y' h5 hcy,if_neg Bool.false_ne_true]
         exact h0 y y' _ _ z _ h5 hz f
theorem Yao (p:PP α) (q:α->PP β):pB p q=pBc p (fun _=>false) 2 q:=by
 funext l e
 unfold pB pBc
 cases p l e with
 |error er=>rfl
 |ok y=>rfl
theorem gd_b {rel:α->α->Prop} {rel':β->β->Prop} {p:PP α} {q:α->PP β} (hp:Gd rel p) (hq:∀y,Gd rel' (q y))
 (h0:∀y y' l e z x,rel y' y->q y l e= .ok (z,x)->∀f,q y' [] f= .error (f,160)\/∃z',rel' z' z/\q y' [] f= .ok (z',[],f,())):Gd rel' (pB p q):=by
 rw [Yao]
 exact Zzt hp hq (by simp) (fun _ _ _ _=>rfl) h0
def pIf (s:List Nat) (A B:PP β):PP β:=fun l e=>if isW s l then A l.tail e else B l e
theorem Wg {t t':Tok} (h:sT t'=sT t):t'.kind=t.kind/\t'.text=t.text/\t'.n=t.n:=by
 unfold sT atT at h
 injection h with h1 h2 h3 h4
 exact ⟨h1,h2,h3⟩
theorem Zj2 {s:List Nat} {t t':Tok} {r r':List Tok} (h:sT t'=sT t):isW s (t'::r')=isW s (t::r):=by
 obtain ⟨h1,h2,_⟩:=Wg h
 show (!(t'.kind==2)&&t'.text==s)=(!(t.kind==2)&&t.text==s)
 rw [h1,h2]
theorem Y5 {l' l:List Tok} {m:Nat} (h:l'.map sT=(l.map sT).take m):(l'= []/\(m=0\/l= []))\/∃t' r' t r m',l'=t'::r'/\l=t::r/\m=m'+1/\sT t'=sT t/\r'.map sT=(r.map sT).take m':=by
 cases m with
 |zero=>
  rw [List.take_zero] at h
  exact .inl ⟨List.map_eq_nil_iff.1 h,.inl rfl⟩
 |succ m=>
  cases l with
  |nil=>exact .inl ⟨Vl h,.inr rfl⟩
  |cons t r=>
   cases l' with
   |nil=>simp at h
   |cons t' r'=>
    rw [List.map_cons,List.map_cons,List.take_succ_cons] at h
    injection h with h1 h2
    exact .inr ⟨t',r',t,r,m,rfl,rfl,rfl,h1,h2⟩
theorem Vv {rel:β->β->Prop} {s:List Nat} {A B:PP β} (hA:Gd rel A) (hB:Gd rel B) (h0:∀l e y x,A l e= .ok (y,x)->∀f,B [] f= .error (f,160)\/∃y',rel y' y/\B [] f= .ok (y',[],f,())):Gd rel (pIf s A B):=by
 intro l e
 have E:∀l e,pIf s A B l e=if isW s l then A l.tail e else B l e:=fun _ _=>rfl
 rw [E]
 cases hw:isW s l with
 |true=>
  rw [if_pos rfl]
  cases l with
  |nil=>cases hw
  |cons t r=>
   refine ⟨fun y x hy=> ?_,fun er h=> ?_⟩
   rotate_left
   · obtain ⟨j,c0,h3,h4,h5⟩:=(hA r e).2 er h
     refine ⟨j+1,c0,h3,h4,fun l' f hl=> ?_⟩
     rcases Y5 (Zbl hl) with ⟨rfl,h6⟩|⟨t',r',t2,r2,m',rfl,h6,h7,h8,h9⟩
     · simp at hl
     · cases h6
       rw [E,Zj2 (r':=r') (r:=r) h8,hw,if_pos rfl]
       refine h5 r' f ?_
       simpa using (List.cons.inj hl).2
   obtain ⟨k,rfl,h1,h2⟩:=(hA r e).1 y x hy
   refine ⟨k+1,rfl,by simpa using h1,fun l' m f hl=> ?_⟩
   rw [E]
   rcases Y5 hl with ⟨rfl,h3⟩|⟨t',r',t2,r2,m',rfl,h3,rfl,h4,h5⟩
   · have hm:m=0:=by
      rcases h3 with h3|h3
      · exact h3
      · cases h3
     subst hm
     refine ⟨fun h=>by omega,fun _=> ?_⟩
     rw [show isW s []=false from rfl,if_neg Bool.false_ne_true]
     exact h0 _ _ _ _ hy f
   · cases h3
     rw [Zj2 (r':=r') (r:=r) h4,hw,if_pos rfl]
     exact ⟨fun hm=>(h2 r' m' f h5).1 (by omega),fun hm=>(h2 r' m' f h5).2 (by omega)⟩
 |false=>
  rw [if_neg Bool.false_ne_true]
  have nW:∀(l':List Tok) (m:Nat),l'.map sT=(l.map sT).take m->isW s l'=false:=by
   intro l' m hl
   rcases Y5 hl with ⟨rfl,_⟩|⟨t',r',t,r,m',rfl,rfl,rfl,h4,h5⟩
   · rfl
   · rw [Zj2 (r:=r) h4]
     exact hw
  refine ⟨fun y x hy=> ?_,fun er h=> ?_⟩
  rotate_left
  · obtain ⟨j,c0,h3,h4,h5⟩:=(hB l e).2 er h
    refine ⟨j,c0,h3,h4,fun l' f hl=> ?_⟩
    rw [E,nW l' l.length (Zbl hl),if_neg Bool.false_ne_true]
    exact h5 l' f hl
  obtain ⟨k,rfl,h1,h2⟩:=(hB l e).1 y x hy
  refine ⟨k,rfl,h1,fun l' m f hl=> ?_⟩
  rw [E]
  have:=nW l' m hl
  rw [this,if_neg Bool.false_ne_true]
  exact h2 l' m f hl
def pOne (c:Tok->Bool) (v:Tok->β):PP β:=fun l e=>
 match l with
 | []=> .error (e,160)
 |t::r=>if c (sT t) then .ok (v (sT t),r,e,()) else .error (t.at_,160)
theorem Z2j (rel:β->β->Prop) (c:Tok->Bool) (v:Tok->β):Gd rel (pOne c v):=by
 intro l e
 cases l with
 |nil=>
  refine ⟨fun y x hy=>(by cases hy),fun er h=> ?_⟩
  cases h
  refine .hd (by simp) fun l' f hl=> ?_
  have:l'= []:=Vl (m:=0) (by simpa using hl)
  subst this
  rfl
 |cons t r=>
  have E:∀t r e,pOne c v (t::r) e=if c (sT t) then .ok (v (sT t),r,e,()) else .error (t.at_,160):=fun _ _ _=>rfl
  rw [E]
  cases hc:c (sT t) with
  |false=>
   rw [if_neg Bool.false_ne_true]
   refine ⟨fun y x hy=>(by cases hy),fun er h=> ?_⟩
   cases h
   refine .hd (l:=t::r) (by simp) fun l' f hl=> ?_
   cases l' with
   |nil=>simp at hl
   |cons t' r'=>
    have h1:sT t'=sT t:=(List.cons.inj hl).1
    rw [E,h1,hc,if_neg Bool.false_ne_true]
    rfl
  |true=>
   rw [if_pos rfl]
   refine ⟨fun y x hy=> ?_,fun er h=>(by cases h)⟩
   cases hy
   refine ⟨1,rfl,by simp,fun l' m f hl=> ?_⟩
   rcases Y5 hl with ⟨rfl,h3⟩|⟨t',r',t2,r2,m',rfl,h3,rfl,h4,h5⟩
   · have hm:m=0:=by
      rcases h3 with h3|h3
      · exact h3
      · cases h3
     subst hm
     exact ⟨fun h=>by omega,fun _=> .inl rfl⟩
   · cases h3
     rw [E,h4,hc,if_pos rfl]
     exact ⟨fun _=>rfl,fun h=>by omega⟩
def pOpt (c:Tok->Bool) (v:Tok->β) (z:β):PP β:=fun l e=>
 match l with
 | []=> .ok (z,[],e,())
 |t::r=>if c (sT t) then .ok (v (sT t),r,e,()) else .ok (z,t::r,e,())
theorem Zu9 (c:Tok->Bool) (v:Tok->β) (z:β):Gd (fun a _=>a=z) (pOpt c v z):=by
 intro l e
 cases l with
 |nil=>
  refine ⟨fun y x hy=> ?_,fun er h=>(by cases h)⟩
  cases hy
  refine ⟨0,rfl,Nat.zero_le _,fun l' m f hl=>⟨fun _=> ?_,fun h=>by omega⟩⟩
  have:l'= []:=Vl hl
  subst this
  rfl
 |cons t r=>
  have E:∀t r e,pOpt c v z (t::r) e=if c (sT t) then .ok (v (sT t),r,e,()) else .ok (z,t::r,e,()):=fun _ _ _=>rfl
  rw [E]
  cases hc:c (sT t) with
  |false=>
   rw [if_neg Bool.false_ne_true]
   refine ⟨fun y x hy=> ?_,fun er h=>(by cases h)⟩
   cases hy
   refine ⟨0,rfl,Nat.zero_le _,fun l' m f hl=>⟨fun _=> ?_,fun h=>by omega⟩⟩
   rcases Y5 hl with ⟨rfl,_⟩|⟨t',r',t2,r2,m',rfl,h3,rfl,h4,h5⟩
   · rfl
   · cases h3
     rw [E,h4,hc,if_neg Bool.false_ne_true]
     rfl
  |true=>
   rw [if_pos rfl]
   refine ⟨fun y x hy=> ?_,fun er h=>(by cases h)⟩
   cases hy
   refine ⟨1,rfl,by simp,fun l' m f hl=> ?_⟩
   rcases Y5 hl with ⟨rfl,h3⟩|⟨t',r',t2,r2,m',rfl,h3,rfl,h4,h5⟩
   · have hm:m=0:=by
      rcases h3 with h3|h3
      · exact h3
      · cases h3
     subst hm
     exact ⟨fun h=>by omega,fun _=> .inr ⟨z,rfl,rfl⟩⟩
   · cases h3
     rw [E,h4,hc,if_pos rfl]
     exact ⟨fun _=>rfl,fun h=>by omega⟩
end
abbrev NoR {β:Type}:β->β->Prop:=fun _ _=>False
abbrev AnyR {β:Type}:β->β->Prop:=fun _ _=>True
abbrev NeR:Ex->Ex->Prop:=fun a b=>Z1 a<=Z1 b
theorem Zzu:pInt=pOne (fun t=>t.kind=2) (fun t=>t.n):=by
 funext l e
 cases l with
 |nil=>rfl
 |cons t r=>
  show (if t.kind=2 then _ else _)=(if decide (t.kind=2)=true then _ else _)
  by_cases h:t.kind=2
  · rw [if_pos h,if_pos (decide_eq_true h)]
    rfl
  · rw [if_neg h,if_neg (by simpa using h)]
theorem Zva (ws:List (List Nat)):Yd ws=pOne (fun t=>decide (0<=chz ws [t])) (fun t=>chz ws [t]):=by
 funext l e
 cases l with
 |nil=>rfl
 |cons t r=>
  have h1:chz ws (t::r)=chz ws [sT t]:=rfl
  unfold Yd pOne
  dsimp only
  rw [h1]
  by_cases h:0<=chz ws [sT t]
  · rw [if_pos h,if_pos (decide_eq_true h)]
    rfl
  · rw [if_neg h,if_neg (by simpa using h)]
    rfl
theorem Zl8 (ws:List (List Nat)):Zo ws=pOpt (fun t=>decide (0<=chz ws [t])) (fun t=>(chz ws [t],true,())) (0,false,()):=by
 funext l e
 cases l with
 |nil=>rfl
 |cons t r=>
  have h1:chz ws (t::r)=chz ws [sT t]:=rfl
  unfold Zo pOpt
  dsimp only
  rw [h1]
  by_cases h:0<=chz ws [sT t]
  · rw [if_pos h,if_pos (decide_eq_true h)]
    rfl
  · rw [if_neg h,if_neg (by simpa using h)]
theorem Zvb:Gd NoR pInt:=by rw [Zzu];exact Z2j _ _ _
theorem Zhw (ws:List (List Nat)):Gd NoR (Yd ws):=by rw [Zva];exact Z2j _ _ _
theorem Zj3 (ws:List (List Nat)):Gd (fun a _=>a=(0,false,())) (Zo ws):=by rw [Zl8];exact Zu9 _ _ _
theorem Uv (t:Tok) (r:List Tok) (e:Int):Vw (t::r) e=if t.kind=1 then (if t.text∈resW then .error (t.at_,161) else .ok (t.text,r,e,())) else .error (t.at_,160):=rfl
theorem Zvc:Gd NoR Vw:=by
 intro l e
 cases l with
 |nil=>
  refine ⟨fun y x hy=>(by cases hy),fun er h=> ?_⟩
  cases h
  refine .hd (l:= []) (by simp) fun l' f hl=> ?_
  have:l'= []:=Vl (m:=0) (by simpa using hl)
  subst this
  rfl
 |cons t r=>
  have sim:∀(l':List Tok),l'.map sT=(t::r).map sT->∃t' r',l'=t'::r'/\t'.kind=t.kind/\t'.text=t.text:=by
   intro l' hl
   cases l' with
   |nil=>simp at hl
   |cons t' r'=>
    obtain ⟨g1,g2,_⟩:=Wg (List.cons.inj hl).1
    exact ⟨t',r',rfl,g1,g2⟩
  rw [Uv]
  split
  · rename_i hk
    split
    · rename_i hr
      refine ⟨fun y x hy=>(by cases hy),fun er h=> ?_⟩
      cases h
      refine .hd (l:=t::r) (by simp) fun l' f hl=> ?_
      obtain ⟨t',r',rfl,g1,g2⟩:=sim l' hl
      rw [Uv,g1,g2,if_pos hk,if_pos hr]
      rfl
    · rename_i hr
      refine ⟨fun y x hy=> ?_,fun er h=>(by cases h)⟩
      cases hy
      refine ⟨1,rfl,by simp,fun l' m f hl=> ?_⟩
      rcases Y5 hl with ⟨rfl,h3⟩|⟨t',r',t2,r2,m',rfl,h3,rfl,h4,h5⟩
      · have hm:m=0:=by
         rcases h3 with h3|h3
         · exact h3
         · cases h3
        subst hm
        exact ⟨fun h=>by omega,fun _=> .inl rfl⟩
      · cases h3
        obtain ⟨g1,g2,_⟩:=Wg h4
        refine ⟨fun _=> ?_,fun h=>by omega⟩
        rw [Uv,g1,g2,if_pos hk,if_neg hr]
        rfl
  · rename_i hk
    refine ⟨fun y x hy=>(by cases hy),fun er h=> ?_⟩
    cases h
    refine .hd (l:=t::r) (by simp) fun l' f hl=> ?_
    obtain ⟨t',r',rfl,g1,g2⟩:=sim l' hl
    rw [Uv,g1,if_neg hk]
    rfl
theorem Z4k:Xj=pB (Zo WK.un.words) fun y=>pIf sPer (pB (Yd WK.un.words) fun j=>pR (decD (if y.2.1 then incD [0,0,0,0] y.1 else [0,0,0,0]) j)) (pR (if y.2.1 then incD [0,0,0,0] y.1 else [0,0,0,0])):=by
 funext l e
 unfold Xj pB pIf
 cases Zo WK.un.words l e with
 |error er=>rfl
 |ok y=>
  dsimp only
  split
  · cases Yd WK.un.words y.2.1.tail y.2.2.1 with
    |error er=>rfl
    |ok z=>rfl
  · rfl
theorem Z4l:Gd AnyR Xj:=by
 rw [Z4k]
 refine gd_b (Zj3 _) (fun y=>Vv (gd_b (Zhw _) (fun j=>gd_R _ _) (fun _ _ _ _ _ _ h=>h.elim)) (gd_R _ _) fun l e y x _ f=> .inr ⟨_,trivial,rfl⟩) ?_
 intro y y' l e z x _ _ f
 exact .inr ⟨_,trivial,rfl⟩
theorem Z4m (n:Int):Wp n=pBc (Yd WK.at_.words) (fun _=>decide (n=8)) 2 fun a=>pIf sIs (pB pInt fun m=>pR ⟨a,m,m⟩) (pIf sIn (pB pInt fun m=>pIf Zb8 (pB pInt fun k=>pR ⟨a,m,k⟩) pSyn) pSyn):=by
 funext l e
 unfold Wp pBc pIf pB
 cases Yd WK.at_.words l e with
 |error er=>rfl
 |ok y=>
  dsimp only
  by_cases hn:n=8
  · rw [if_pos hn,if_pos (decide_eq_true hn)]
  · rw [if_neg hn,if_neg (show ¬decide (n=8)=true by simpa using hn)]
    split
    · cases pInt y.2.1.tail y.2.2.1 with
      |error er=>rfl
      |ok z=>rfl
    · split
      · cases pInt y.2.1.tail y.2.2.1 with
        |error er=>rfl
        |ok z=>
         dsimp only
         split
         · cases pInt z.2.1.tail z.2.2.1 with
           |error er=>rfl
           |ok u=>rfl
         · rfl
      · rfl
theorem Z4n (n:Int):Gd NoR (Wp n):=by
 rw [Z4m]
 refine Zzt (Zhw _) (fun a=> ?_) (by simp) (fun _ _ h=>h.elim) (fun _ _ _ _ _ _ h=>h.elim)
 refine Vv (gd_b Zvb (fun m=>gd_R _ _) (fun _ _ _ _ _ _ h=>h.elim)) (Vv (gd_b Zvb (fun m=> ?_) (fun _ _ _ _ _ _ h=>h.elim)) (Vs _) fun _ _ _ _ _ f=> .inl rfl) fun _ _ _ _ _ f=> .inl rfl
 exact Vv (gd_b Zvb (fun k=>gd_R _ _) (fun _ _ _ _ _ _ h=>h.elim)) (Vs _) fun _ _ _ _ _ f=> .inl rfl
theorem Yap (k:Nat) (ts:List Tst):pTs (k+1) true ts=pB (Wp ts.length) fun t=>pIf [97,110,100] (pTs k true (ts++ [t])) (pTs k false (ts++ [t])):=by
 funext l e
 unfold pB pIf
 rw [pTs,if_pos rfl]
 cases Wp ts.length l e with
 |error er=>rfl
 |ok y=>
  dsimp only
  cases isW [97,110,100] y.2.1<;>rfl
theorem Z4o (k:Nat) (ts:List Tst):pTs k false ts=pR ts:=by
 funext l e
 exact Zh9 k ts l e
theorem Z4p:∀(k:Nat) (more:Bool) (ts:List Tst),Gd AnyR (pTs k more ts)
 |0,more,ts=>gd_R _ ts
 |k+1,false,ts=>by rw [Z4o];exact gd_R _ _
 |k+1,true,ts=>by
  rw [Yap]
  refine gd_b (Z4n _) (fun t=>Vv (Z4p k true _) (Z4p k false _) fun _ _ _ _ _ f=> .inr ⟨ts++ [t],trivial,by rw [Z4o];rfl⟩) (fun _ _ _ _ _ _ h=>h.elim)
theorem Z74 (pe:PE) (s:List Nat) (r:List (List Nat)) (acc:List Ex):pOpL pe (s::r) acc=pB pe fun x=>pIf s (pOpL pe r (acc++ [x])) pSyn:=by
 funext l e
 rw [pOpL]
 unfold pB pIf pSyn
 cases pe l e with
 |error er=>rfl
 |ok y=>rfl
theorem Z2k {pe:PE} (h:Gd NeR pe):∀(ss:List (List Nat)) (acc:List Ex),Gd NoR (pOpL pe ss acc)
 | [],acc=>gd_R _ acc
 |s::r,acc=>by
  rw [Z74]
  exact gd_b h (fun x=>Vv (Z2k h r _) (Vs _) fun _ _ _ _ _ f=> .inl rfl) fun _ _ _ _ _ _ _ _ f=> .inl rfl
theorem Z75 (pe:PE) (op:Int) (ss:List (List Nat)):pOps pe op ss=pIf Y9 (pB (pOpL pe ss []) fun xs=>pR (.mk op 0 0 0 0 0 xs)) pSyn:=by
 funext l e
 unfold pOps pIf pB pSyn
 split
 · cases pOpL pe ss [] l.tail e with
   |error er=>rfl
   |ok y=>rfl
 · rfl
theorem Z2l {pe:PE} (h:Gd NeR pe) (op:Int) (ss:List (List Nat)):Gd NoR (pOps pe op ss):=by
 rw [Z75]
 exact Vv (gd_b (Z2k h ss []) (fun xs=>gd_R _ _) (fun _ _ _ _ _ _ h=>h.elim)) (Vs _) fun _ _ _ _ _ f=> .inl rfl
theorem Z4q (pe:PE):Uj pe=pIf Y9 (pB pe fun x=>pIf Zy (pR x) pSyn) (pIf sIf (pOps pe 11 [Zbs,Z3,Z3,Zy]) (pB (Zo WK.ca.words) fun k=>if k.2.1 then pOps pe (6+k.1) [Z3,Zy] else pB (Yd WK.at_.words) fun a=>pR (.mk 2 a 0 0 0 0 []))):=by
 funext l e
 unfold Uj pIf pB pSyn
 split
 · cases pe l.tail e with
   |error er=>rfl
   |ok y=>rfl
 · split
   · rfl
   · cases Zo WK.ca.words l e with
     |error er=>rfl
     |ok y=>
      dsimp only
      cases y.1.2.1 with
      |true=>rfl
      |false=>
       rw [if_neg Bool.false_ne_true,if_neg Bool.false_ne_true]
       cases Yd WK.at_.words y.2.1 y.2.2.1 with
       |error er=>rfl
       |ok z=>rfl
theorem Z4r {pe:PE} (h:Gd NeR pe):Gd NoR (Uj pe):=by
 rw [Z4q]
 refine Vv (gd_b h (fun x=>Vv (gd_R _ _) (Vs _) fun _ _ _ _ _ f=> .inl rfl) fun _ _ _ _ _ _ _ _ f=> .inl rfl) (Vv (Z2l h _ _) (gd_b (Zj3 _) (fun k=> ?_) ?_) fun _ _ _ _ _ f=> .inl rfl) fun _ _ _ _ _ f=> .inl rfl
 · split
   · exact Z2l h _ _
   · exact gd_b (Zhw _) (fun a=>gd_R _ _) (fun _ _ _ _ _ _ h=>h.elim)
 · rintro y y' l e z x rfl _ f
   exact .inl rfl
theorem Z76 {pe:PE} (h:Gd NeR pe):Gd NeR (pFac pe):=by
 have h2:=(Z4r h).mono (rel':=NeR) fun _ _ h=>h.elim
 intro l e
 cases l with
 |nil=>
  obtain ⟨g1,g2⟩:=h2 [] e
  refine ⟨fun y x hy=> ?_,fun er h=> ?_⟩
  rotate_left
  · obtain ⟨j,c0,h3,h4,h5⟩:=g2 er h
    refine ⟨j,c0,h3,h4,fun l' f hl=> ?_⟩
    have e1:l'= []:=Vl (m:=0) (by simpa using hl)
    subst e1
    exact h5 [] f rfl
  obtain ⟨k,hx,hk,ho⟩:=g1 y x hy
  refine ⟨k,hx,hk,fun l' m f hl=> ?_⟩
  have e1:l'= []:=Vl hl
  have:=ho l' m f hl
  subst e1
  exact this
 |cons t r=>
  have key:∀(t:Tok) (r:List Tok) (e:Int),pFac pe (t::r) e=if t.kind=2 then pB Xj (fun d=>pR (.mk 1 t.n (d.getD 0 0) (d.getD 1 0) (d.getD 2 0) (d.getD 3 0) [])) r e else Uj pe (t::r) e:=by
   intro t r e
   show (if t.kind=2 then _ else _)=_
   split
   · unfold pB
     cases Xj r e with
     |error er=>rfl
     |ok y=>rfl
   · rfl
  rw [key]
  by_cases hk:t.kind=2
  · rw [if_pos hk]
    have hg:Gd NeR (pB Xj fun d=>pR (.mk 1 t.n (d.getD 0 0) (d.getD 1 0) (d.getD 2 0) (d.getD 3 0) [])):=by
     refine gd_b Z4l (fun d=>gd_R _ _) ?_
     intro y y' l e z x _ hz f
     unfold pR at hz
     cases hz
     exact .inr ⟨.mk 1 t.n (y'.getD 0 0) (y'.getD 1 0) (y'.getD 2 0) (y'.getD 3 0) [],by show Z1 _<=Z1 _;simp [Z1],rfl⟩
    refine ⟨fun y x hy=> ?_,fun er h=> ?_⟩
    rotate_left
    · obtain ⟨j,c0,h3,h4,h5⟩:=(hg r e).2 er h
      refine ⟨j+1,c0,h3,h4,fun l' f hl=> ?_⟩
      cases l' with
      |nil=>simp at hl
      |cons t' r'=>
       obtain ⟨g1,_,g3⟩:=Wg (List.cons.inj hl).1
       rw [key,g1,g3,if_pos hk]
       exact h5 r' f (List.cons.inj hl).2
    obtain ⟨k,rfl,h1,h2⟩:=(hg r e).1 y x hy
    refine ⟨k+1,rfl,by simpa using h1,fun l' m f hl=> ?_⟩
    rcases Y5 hl with ⟨rfl,h3⟩|⟨t',r',t2,r2,m',rfl,h3,rfl,h4,h5⟩
    · have hm:m=0:=by
       rcases h3 with h3|h3
       · exact h3
       · cases h3
      subst hm
      exact ⟨fun h=>by omega,fun _=> .inl rfl⟩
    · cases h3
      obtain ⟨g1,_,g3⟩:=Wg h4
      rw [key,g1,g3,if_pos hk]
      exact ⟨fun hm=>(h2 r' m' f h5).1 (by omega),fun hm=>(h2 r' m' f h5).2 (by omega)⟩
  · rw [if_neg hk]
    obtain ⟨g1,g2⟩:=h2 (t::r) e
    refine ⟨fun y x hy=> ?_,fun er h=> ?_⟩
    rotate_left
    · obtain ⟨j,c0,h3,h4,h5⟩:=g2 er h
      refine ⟨j,c0,h3,h4,fun l' f hl=> ?_⟩
      cases l' with
      |nil=>simp at hl
      |cons t' r'=>
       obtain ⟨q1,_,_⟩:=Wg (List.cons.inj hl).1
       rw [key,q1,if_neg hk]
       exact h5 _ f hl
    obtain ⟨k,hx,hk',ho⟩:=g1 y x hy
    refine ⟨k,hx,hk',fun l' m f hl=> ?_⟩
    have:=ho l' m f hl
    rcases Y5 hl with ⟨rfl,h3⟩|⟨t',r',t2,r2,m',rfl,h3,rfl,h4,h5⟩
    · exact this
    · cases h3
      obtain ⟨q1,_,_⟩:=Wg h4
      rw [key,q1,if_neg hk]
      exact this
theorem Zzv:pOp op1=pOpt (fun t=>isW sMul [t]) (fun _=>5) 0:=by
 funext l e
 cases l with
 |nil=>rfl
 |cons t r=>
  unfold pOp pOpt op1
  dsimp only
  rw [show isW sMul (t::r)=isW sMul [sT t] from rfl]
  split<;>rfl
theorem Zzw:pOp op2=pOpt (fun t=>isW Zag [t]||isW W6 [t]) (fun t=>if isW Zag [t] then 3 else 4) 0:=by
 funext l e
 cases l with
 |nil=>rfl
 |cons t r=>
  unfold pOp pOpt op2
  dsimp only
  rw [show isW Zag (t::r)=isW Zag [sT t] from rfl,show isW W6 (t::r)=isW W6 [sT t] from rfl]
  by_cases h1:isW Zag [sT t]=true
  · simp [h1]
  · by_cases h2:isW W6 [sT t]=true
    · simp [h1,h2]
    · simp [h1,h2]
theorem Z77:Gd (fun a _=>a=0) (pOp op1):=by rw [Zzv];exact Zu9 _ _ _
theorem Z78:Gd (fun a _=>a=0) (pOp op2):=by rw [Zzw];exact Zu9 _ _ _
theorem Z79 (op:Int) (x y:Ex):Z1 (.mk op 0 0 0 0 0 [x,y])=max (Z1 x) (Z1 y)+1:=by simp [Z1,Zc8]
theorem Zvd (o:List Tok->Int×List Tok) (pf:PE) (k:Nat) (x:Ex) (op:Int):Yw o pf (k+1) x op=if op=0 then pR x else pB pf fun y=>pB (pOp o) fun op'=>Yw o pf k (.mk op 0 0 0 0 0 [x,y]) op':=by
 funext l e
 rw [Yw]
 split
 · rfl
 · unfold pB pOp
   cases pf l e with
   |error er=>rfl
   |ok y=>rfl
theorem Zhx (o:List Tok->Int×List Tok) (pf:PE) (k:Nat) (x:Ex):Yw o pf k x 0=pR x:=by
 cases k with
 |zero=>rfl
 |succ k=>rw [Zvd,if_pos rfl]
theorem Uc {o:List Tok->Int×List Tok} {pf:PE}:∀{k:Nat} {x:Ex} {op:Int} {l:List Tok} {e:Int} {z:Ex} {y:PX},Yw o pf k x op l e= .ok (z,y)->Z1 x<=Z1 z
 |0,x,op,l,e,z,y,h=>by
  unfold Yw at h
  cases h
  exact Nat.le_refl _
 |k+1,x,op,l,e,z,y,h=>by
  unfold Yw at h
  split at h
  · cases h
    exact Nat.le_refl _
  · split at h
    · cases h
    · have:=Uc h
      rw [Z79] at this
      omega
theorem b_ok {α β:Type} {p:PP α} {q:α->PP β} {l:List Tok} {e:Int} {z:β×PX} (h:pB p q l e= .ok z):∃y x,p l e= .ok (y,x)/\q y x.1 x.2.1= .ok z:=by
 unfold pB at h
 split at h
 · cases h
 · exact ⟨_,_,by assumption,h⟩
theorem Zve {o:List Tok->Int×List Tok} (ho:Gd (fun a _=>a=0) (pOp o)) (ho0:o []=(0,[])) {pf:PE} (h:Gd NeR pf):∀(k:Nat) (x:Ex) (op:Int),Gd NeR (Yw o pf k x op)
 |0,x,op=>gd_R _ x
 |k+1,x,op=>by
  rw [Zvd]
  split
  · exact gd_R _ _
  · refine gd_b h (fun y=>gd_b ho (fun op'=>Zve ho ho0 h k _ op') ?_) ?_
    · rintro op1 op2 l e z x2 rfl hz f
      rw [Zhx]
      exact .inr ⟨_,Uc hz,rfl⟩
    · intro y y' l e z x2 hy hz f
      obtain ⟨op',x3,_,hz⟩:=b_ok hz
      have h1:=Uc hz
      refine .inr ⟨.mk op 0 0 0 0 0 [x,y'],?_,?_⟩
      · have hy:Z1 y'<=Z1 y:=hy
        show Z1 _<=Z1 z
        rw [Z79] at h1⊢
        omega
      · unfold pB pOp
        rw [ho0]
        dsimp only
        rw [Zhx]
        rfl
def pChN (o:List Tok->Int×List Tok) (pf:PE) (N:Nat):PE:=pB pf fun y=>pB (pOp o) fun op=>Yw o pf N y op
theorem Z8a {o:List Tok->Int×List Tok} (ho:Gd (fun a _=>a=0) (pOp o)) (ho0:o []=(0,[])) {pf:PE} (h:Gd NeR pf) (N:Nat):Gd NeR (pChN o pf N):=by
 unfold pChN
 refine gd_b h (fun y=>gd_b ho (fun op=>Zve ho ho0 h N y op) ?_) ?_
 · rintro op1 op2 l e z x2 rfl hz f
   rw [Zhx]
   exact .inr ⟨_,Uc hz,rfl⟩
 · intro y y' l e z x2 hy hz f
   obtain ⟨op',x3,_,hz⟩:=b_ok hz
   have h1:=Uc hz
   refine .inr ⟨y',Nat.le_trans hy h1,?_⟩
   unfold pB pOp
   rw [ho0]
   dsimp only
   rw [Zhx]
   rfl
theorem Yaq {o:List Tok->Int×List Tok} (ho:∀l,(o l).2.length<=l.length) {pf:PE} (hp:Shr pf) {N:Nat} {l:List Tok} (hl:l.length<N) (e:Int):pCh o pf l e=pChN o pf N l e:=by
 unfold pCh pChN pB pOp
 cases hq:pf l e with
 |error er=>rfl
 |ok y=>
  have h1:=hp _ _ _ _ hq
  have h2:=ho y.2.1
  exact Zct ho hp _ _ _ _ _ _ (by omega) (by omega)
theorem Z4s {β:Type} {rel:β->β->Prop} {p:PP β} (q:Nat->PP β) (hq:∀N,Gd rel (q N)) (h:∀N l e,l.length<N->p l e=q N l e):Gd rel p:=by
 intro l e
 have h1:=h (l.length+1) l e (Nat.lt_succ_self _)
 rw [h1]
 refine ⟨fun y x hy=> ?_,fun er h'=> ?_⟩
 rotate_left
 · obtain ⟨j,c0,h3,h4,h5⟩:=(hq _ l e).2 er h'
   refine ⟨j,c0,h3,h4,fun l' f hl=> ?_⟩
   have hlen:=congrArg List.length hl
   rw [List.length_map,List.length_map] at hlen
   rw [h (l.length+1) l' f (by omega)]
   exact h5 l' f hl
 obtain ⟨k,hx,hk,ho⟩:=(hq _ l e).1 y x hy
 refine ⟨k,hx,hk,fun l' m f hl=> ?_⟩
 have hlen:l'.length<=l.length:=by
  have:=congrArg List.length hl
  rw [List.length_map,List.length_take,List.length_map] at this
  omega
 rw [h (l.length+1) l' f (by omega)]
 exact ho l' m f hl
theorem Z8b {o:List Tok->Int×List Tok} (hle:∀l,(o l).2.length<=l.length) (ho:Gd (fun a _=>a=0) (pOp o)) (ho0:o []=(0,[])) {pf:PE} (hp:Shr pf) (h:Gd NeR pf):Gd NeR (pCh o pf):=
 Z4s (pChN o pf) (Z8a ho ho0 h) fun N l e hl=>Yaq hle hp hl e
theorem gd_E:∀n,Gd NeR (pE n)
 |0=>Vs _
 |n+1=>by
  unfold pE
  exact Z8b Zqk Z78 rfl (Zae Zb9 (Wq (Vr n))).shr (Z8b Zqj Z77 rfl (Ziw (Vr n)) (Z76 (gd_E n)))
theorem gd_X:Gd NeR pX:=Z4s pE gd_E fun N l e hl=>(Z25 N l e hl).symm
theorem Z8c (nm:List Nat) (ts:List Tst):pPay nm ts=pIf [112,97,121] (pBc pX (fun x=>decide (24<Z1 x)) 2 fun x=>pIf [59] (pR ⟨nm,ts,x⟩) pSyn) pSyn:=by
 funext l e
 unfold pPay pIf pBc pSyn
 split
 · cases pX l.tail e with
   |error er=>rfl
   |ok y=>
    dsimp only
    by_cases h:24<Z1 y.1
    · rw [if_pos h,if_pos (decide_eq_true h)]
    · rw [if_neg h,if_neg (show ¬decide (24<Z1 y.1)=true by simpa using h)]
      rfl
 · rfl
theorem Z2m (nm:List Nat) (ts:List Tst):Gd NoR (pPay nm ts):=by
 rw [Z8c]
 refine Vv (Zzt gd_X (fun x=>Vv (gd_R _ _) (Vs _) fun _ _ _ _ _ f=> .inl rfl) (by simp) ?_ fun _ _ _ _ _ _ _ _ f=> .inl rfl) (Vs _) fun _ _ _ _ _ f=> .inl rfl
 intro y y' h hc
 have h:Z1 y'<=Z1 y:=h
 rw [decide_eq_false_iff_not] at hc⊢
 omega
theorem Zvf (bs:List Cls):Z8 bs=pBc Vw (fun nm=>bs.any fun b=>b.name==nm) 161 fun nm=>pIf [119,104,101,110] (pB (pTs 10 true []) fun ts=>pPay nm ts) (pPay nm []):=by
 funext l e
 unfold Z8 pBc pIf pB
 cases Vw l e with
 |error er=>rfl
 |ok y=>
  dsimp only
  by_cases hb:(bs.any fun b=>b.name==y.1)=true
  · rw [if_pos hb,if_pos hb]
  · rw [if_neg hb,if_neg hb]
    by_cases hw:isW [119,104,101,110] y.2.1=true
    · rw [if_pos hw,if_pos hw,hw]
      unfold pAft
      cases pTs 10 true [] y.2.1.tail y.2.2.1 with
      |error er=>rfl
      |ok z=>rfl
    · rw [if_neg hw,if_neg hw]
      rw [Bool.not_eq_true] at hw
      rw [hw,Z4o]
      rfl
theorem Zvg (nm:List Nat) (ts:List Tst) (f:Int):pPay nm ts [] f= .error (f,160):=rfl
theorem Zvh (bs:List Cls):Gd NoR (Z8 bs):=by
 rw [Zvf]
 refine Zzt Zvc (fun nm=>Vv (gd_b (Z4p _ _ _) (fun ts=>Z2m _ _) fun _ _ _ _ _ _ _ _ f=> .inl (Zvg _ _ _)) (Z2m _ _) fun _ _ _ _ _ f=> .inl (Zvg _ _ _)) (by simp) (fun _ _ h=>h.elim) (fun _ _ _ _ _ _ h=>h.elim)
theorem Z8d (k:Nat) (cs:List Cls) (h:cs.length≠64):pCls (k+1) cs=pIf [99,108,97,117,115,101] (pB (Z8 cs) fun c=>pCls k (cs++ [c])) (pR cs):=by
 funext l e
 rw [pCls]
 unfold pIf pB
 split
 · cases Z8 cs l.tail e with
   |error er=>rfl
   |ok y=>rfl
 · rfl
theorem Z2n:∀(k:Nat) (cs:List Cls),Gd AnyR (pCls k cs)
 |0,cs=>gd_R _ cs
 |k+1,cs=>by
  by_cases h:cs.length=64
  · intro l e
    rw [pCls,if_pos h]
    cases hw:isW [99,108,97,117,115,101] l with
    |true=>
     rw [if_pos rfl]
     refine ⟨fun y x h=>(by cases h),fun er h'=> ?_⟩
     cases h'
     refine .hd (by simp) fun l' f hl=> ?_
     have:isW [99,108,97,117,115,101] l'=true:=by
      cases l' with
      |nil=>
       cases l with
       |nil=>cases hw
       |cons t r=>simp at hl
      |cons t' r'=>
       cases l with
       |nil=>simp at hl
       |cons t r=>
        rw [Zj2 (r:=r) (List.cons.inj hl).1]
        exact hw
     rw [pCls,if_pos h,this,if_pos rfl]
    |false=>
     rw [if_neg Bool.false_ne_true]
     refine ⟨fun y x hy=> ?_,fun er h=>(by cases h)⟩
     cases hy
     refine ⟨0,rfl,Nat.zero_le _,fun l' m f hl=>⟨fun _=> ?_,fun h=>by omega⟩⟩
     have:isW [99,108,97,117,115,101] l'=false:=by
      rcases Y5 hl with ⟨rfl,_⟩|⟨t',r',t,r,m',rfl,rfl,rfl,h4,h5⟩
      · rfl
      · rw [Zj2 (r:=r) h4]
        exact hw
     rw [pCls,this,if_neg Bool.false_ne_true]
     rfl
  · rw [Z8d k cs h]
    refine Vv (gd_b (Zvh cs) (fun c=>Z2n k _) (fun _ _ _ _ _ _ h=>h.elim)) (gd_R _ _) fun _ _ _ _ _ f=> .inr ⟨cs,trivial,rfl⟩
theorem Zj4:∀(k k':Nat) (cs:List Cls) (l:List Tok) (e:Int),l.length<k->l.length<k'->pCls k cs l e=pCls k' cs l e
 |0,_,_,_,_,h,_=>by omega
 |_+1,0,_,_,_,_,h=>by omega
 |k+1,k'+1,cs,l,e,h,h'=>by
  unfold pCls
  split
  · rename_i hw
    split
    · rfl
    · have h1:=Zr hw
      cases hq:Z8 cs l.tail e with
      |error er=>rfl
      |ok y=>
       have h2:=Za1 hq
       exact Zj4 k k' _ _ _ (by omega) (by omega)
  · rfl
def pEof (t:Tar):PP Tar:=fun l e=>if 0<l.length then .error (hdT e l,160) else .ok (t,l,e,())
theorem Z8e (t:Tar):Gd NoR (pEof t):=by
 intro l e
 unfold pEof
 split
 · rename_i h0
   refine ⟨fun y x h=>(by cases h),fun er h=> ?_⟩
   cases h
   refine .hd (by simp) fun l' f hl=> ?_
   have hlen:=congrArg List.length hl
   rw [List.length_map,List.length_map] at hlen
   show (if 0<l'.length then _ else _)=_
   rw [if_pos (by omega)]
 · rename_i hl
   have:l= []:=List.eq_nil_of_length_eq_zero (by omega)
   subst this
   refine ⟨fun y x hy=> ?_,fun er h=>(by cases h)⟩
   cases hy
   refine ⟨0,rfl,Nat.zero_le _,fun l' m f hl=>⟨fun _=> ?_,fun h=>by omega⟩⟩
   have:l'= []:=Vl hl
   subst this
   rfl
def Zvi (N:Nat):PP Tar:=pIf [116,97,114,105,102,102] (pB Vw fun nm=>pIf [102,111,114] (pB (Yd WK.ki.words) fun k=>pIf [123] (pB (pCls N []) fun cs=>pIf [125] (pEof ⟨nm,wr .i64 (1+k),cs⟩) pSyn) pSyn) pSyn) pSyn
theorem Z4t (N:Nat):Gd NoR (Zvi N):=by
 unfold Zvi
 refine Vv (gd_b Zvc (fun nm=>Vv (gd_b (Zhw _) (fun k=>Vv (gd_b (Z2n _ _) (fun cs=>Vv (Z8e _) (Vs _) fun _ _ _ _ _ f=> .inl rfl) ?_) (Vs _) fun _ _ _ _ _ f=> .inl rfl) (fun _ _ _ _ _ _ h=>h.elim)) (Vs _) fun _ _ _ _ _ f=> .inl rfl) (fun _ _ _ _ _ _ h=>h.elim)) (Vs _) fun _ _ _ _ _ f=> .inl rfl
 exact fun _ _ _ _ _ _ _ _ f=> .inl rfl
theorem Z2o (N:Nat) (l:List Tok) (e:Int) (h:l.length<N):pTar l e=Zvi N l e:=by
 unfold pTar Zvi pIf pB pSyn
 split
 · rename_i hw
   have h1:=Zr hw
   cases hn:Vw l.tail e with
   |error er=>rfl
   |ok y=>
    have h2:=Zbm hn
    dsimp only
    split
    · rename_i hw2
      have h3:=Zr hw2
      cases hm:Yd WK.ki.words y.2.1.tail y.2.2.1 with
      |error er=>rfl
      |ok z=>
       obtain ⟨_,_,hz⟩:=U4 hm
       have h4:z.2.1.length<=y.2.1.tail.length:=by
        rw [hz]
        show y.2.1.tail.tail.length<=_
        rw [List.length_tail (l:=y.2.1.tail)]
        omega
       dsimp only
       split
       · rename_i hw3
         have h5:=Zr hw3
         rw [Zj4 (z.2.1.tail.length+1) N [] z.2.1.tail z.2.2.1 (by omega) (by omega)]
         cases pCls N [] z.2.1.tail z.2.2.1 with
         |error er=>rfl
         |ok u=>rfl
       · rfl
    · rfl
 · rfl
theorem Z8f:Gd NoR pTar:=Z4s Zvi Z4t Z2o
end
section
open Go
def TkG (t:Tok):Prop:=TokW t.text/\sT t=tkS t.text/\(t.kind=1->W3 t.text=true)/\(t.kind=2->0<=t.n/\t.n<=1099511627776)
def LxOk (l:List Tok):Prop:=∀t∈l,TkG t
theorem LxOk.drop {l:List Tok} (h:LxOk l) (k:Nat):LxOk (l.drop k):=fun t ht=>h t (List.mem_of_mem_drop ht)
theorem LxOk.tail {l:List Tok} (h:LxOk l):LxOk l.tail:=fun t ht=>h t (List.mem_of_mem_tail ht)
section
variable {α β : Type}
end
theorem Zjc (s:List (List Nat)) (c:Cls) (r:List Cls):CsOk s (c::r)=(Wm c=true/\resF c.name=false/\c.name∉s/\c.when_.length<=8/\Z1 c.pay<=24/\CsOk (c.name::s) r):=rfl
end
section
open Go
def En {β:Type} (p:PP β):Prop:=∀l e y x,p l e= .ok (y,x)->x.1= []
theorem Zpf {β:Type}:En (pSyn:PP β):=fun l e y x h=>by cases h
theorem en_b {α β:Type} {p:PP α} {q:α->PP β} (hq:∀y,En (q y)):En (pB p q):=fun l e y x h=>by
 obtain ⟨y1,x1,_,h2⟩:=b_ok h
 exact hq y1 _ _ _ _ h2
theorem Zzh {β:Type} {s:List Nat} {A B:PP β} (hA:En A) (hB:En B):En (pIf s A B):=fun l e y x h=>by
 unfold pIf at h
 split at h
 · exact hA _ _ _ _ h
 · exact hB _ _ _ _ h
theorem Z7p (t:Tar):En (pEof t):=fun l e y x h=>by
 unfold pEof at h
 split at h
 · cases h
 · rename_i hl
   cases h
   exact List.eq_nil_of_length_eq_zero (Nat.le_zero.1 (Nat.le_of_not_lt hl))
theorem Z7q:En pTar:=fun l e y x h=>by
 rw [Z2o _ l e (Nat.lt_succ_self _)] at h
 exact Zzh (en_b fun nm=>Zzh (en_b fun k=>Zzh (en_b fun cs=>Zzh (Z7p _) Zpf) Zpf) Zpf) Zpf l e y x h
theorem Zur {l:List Tok} {e:Int} {t:Tar} {x:PX} (h:pTar l e= .ok (t,x)):(∀l' f,l'.map sT=l.map sT->pTar l' f= .ok (t,[],f,()))/\∀l' m f,m<l.length->l'.map sT=(l.map sT).take m->pTar l' f= .error (f,160):=by
 have hn:=Z7q l e t x h
 obtain ⟨k,rfl,hk,ho⟩:=(Z8f l e).1 t x h
 have hk2:l.length<=k:=by
  have:=congrArg List.length hn
  rw [List.length_drop] at this
  simp at this
  omega
 have hk3:k=l.length:=by omega
 subst hk3
 refine ⟨fun l' f hl=> ?_,fun l' m f hm hl=> ?_⟩
 · have hlen:=congrArg List.length hl
   rw [List.length_map,List.length_map] at hlen
   rw [(ho l' l.length f (Zbl hl)).1 (Nat.le_refl _),List.drop_eq_nil_of_le (by omega)]
 · rcases (ho l' m f hl).2 hm with h|⟨y',h,_⟩
   · exact h
   · exact h.elim
def AllW (ws:List (List Nat)):Prop:=∀w∈ws,TokW w
theorem Wt {a b:List (List Nat)} (h1:AllW a) (h2:AllW b):AllW (a++b):=fun w hw=>(List.mem_append.1 hw).elim (h1 w) (h2 w)
theorem Ze {w:List Nat} {b:List (List Nat)} (h1:TokW w) (h2:AllW b):AllW (w::b):=fun x hx=>(List.mem_cons.1 hx).elim (fun e=>e▸h1) (h2 x)
theorem Z6:AllW []:=fun w hw=>by cases hw
theorem tw {w:List Nat} (h1:(tokP w).2=0) (h2:(tokP w).1.text=w) (h3:w≠ []):TokW w:=⟨h1,h2,h3⟩
theorem Zlz:TokW Y9:=tw rfl rfl (by decide)
theorem Zhq:TokW Zy:=tw rfl rfl (by decide)
theorem Zhr:TokW Z3:=tw rfl rfl (by decide)
theorem Z4a:TokW Zbs:=tw rfl rfl (by decide)
theorem Z4b:TokW Ze5:=tw rfl rfl (by decide)
theorem Z4c:TokW Zag:=tw rfl rfl (by decide)
theorem Zzi:TokW W6:=tw rfl rfl (by decide)
theorem Z7r:TokW sMul:=tw rfl rfl (by decide)
theorem Z4d:TokW Zb8:=tw rfl rfl (by decide)
theorem Yaj:TokW sLb:=tw rfl rfl (by decide)
theorem Yak:TokW sRb:=tw rfl rfl (by decide)
theorem Yal:TokW sIf:=tw rfl rfl (by decide)
theorem Z2h:TokW sPer:=tw rfl rfl (by decide)
theorem Yam:TokW sIs:=tw rfl rfl (by decide)
theorem Yan:TokW sIn:=tw rfl rfl (by decide)
theorem Z7s:TokW sPay:=tw rfl rfl (by decide)
theorem Z7t:TokW sFor:=tw rfl rfl (by decide)
theorem Zus:TokW Ze6:=tw rfl rfl (by decide)
theorem Zut:TokW Xr:=tw rfl rfl (by decide)
theorem Z4e:TokW Zfr:=tw rfl rfl (by decide)
theorem Z7u:TokW sAnd:=tw rfl rfl (by decide)
theorem Zjx {k:WK} {i:Nat} (h:i<k.words.length):TokW (k.words.getD i []):=Zey (Zic h)
theorem Z7v {a b c d:Int} (h:Zah [a,b,c,d]=true):AllW (txU [a,b,c,d]):=by
 rcases unF h with ⟨_,h2⟩|⟨i,hi,_,h2⟩|⟨j,hj,_,h2⟩|⟨i,hi,j,hj,_,h2⟩
 · rw [h2];exact Z6
 · rw [h2];exact Ze (Zjx (k:= .un) hi) Z6
 · rw [h2];exact Ze Z2h (Ze (Zjx (k:= .un) hj) Z6)
 · rw [h2];exact Ze (Zjx (k:= .un) hi) (Ze Z2h (Ze (Zjx (k:= .un) hj) Z6))
theorem Zpg {op least:Int} {t:List (List Nat)} (h:AllW t):AllW (par op least t):=by
 unfold par
 split
 · exact h
 · exact Ze Zlz (Wt h (Ze Zhq Z6))
theorem Zuu:∀{ts:List (List (List Nat))} {ss:List (List Nat)},(∀t∈ts,AllW t)->AllW ss->AllW (txS ts ss)
 | [],_,_,_=>by unfold txS;exact Z6
 |t::r,[],_,_=>by unfold txS;exact Z6
 |t::r,s::ss,h1,h2=>by
  unfold txS
  exact Wt (h1 t (by simp)) (Ze (h2 s (by simp)) (Zuu (fun t ht=>h1 t (by simp [ht])) fun w hw=>h2 w (by simp [hw])))
theorem Zuv:∀{l:List Ex} {t:List (List Nat)},t∈txL l->∃x∈l,t=txX x
 | [],t,h=>by cases h
 |x::r,t,h=>by
  unfold txL at h
  rcases List.mem_cons.1 h with rfl|h
  · exact ⟨x,by simp,rfl⟩
  · obtain ⟨y,hy,e⟩:=Zuv h
    exact ⟨y,by simp [hy],e⟩
theorem Z7w:∀(x:Ex),Ye x=true->AllW (txX x):=by
 suffices H:∀(m:Nat) (x:Ex),x.sz<=m->Ye x=true->AllW (txX x) from fun x=>H _ x (Nat.le_refl _)
 intro m
 induction m with
 |zero=>intro x h;have:=x.sz_pos;omega
 |succ m ih=>
  intro x hm hf
  rw [Zdd,Bool.and_eq_true] at hf
  obtain ⟨hh,hl⟩:=hf
  have hkid:∀y∈x.l,AllW (txX y):=fun y hy=>ih y (by have:=Ex.sz_mem hy;omega) (formL_iff.1 hl y hy)
  obtain ⟨op,n,a,b,c,d,l⟩:=x
  simp only [Ex.op,Ex.n,Ex.u,Ex.d0,Ex.d1,Ex.d2,Ex.d3,Ex.l] at hh hkid
  obtain ⟨h1,h2,h3,h4,h5,h6,h7⟩:=Zcu hh
  have hts:∀t∈txL l,AllW t:=by
   intro t ht
   obtain ⟨x,hx,rfl⟩:=Zuv ht
   exact hkid x hx
  have hget:∀i,AllW ((txL l).getD i []):=by
   intro i
   by_cases hi:i<(txL l).length
   · have:(txL l).getD i []=(txL l)[i]:=by simp [List.getD,hi]
     rw [this]
     exact hts _ (List.getElem_mem hi)
   · have:(txL l).getD i []= []:=by simp [List.getD,hi]
     rw [this]
     exact Z6
  rw [txX]
  unfold txN
  split
  · rename_i q
    subst q
    exact Ze (Zdo h3 h4) (Z7v h6)
  · split
    · rename_i q
      subst q
      have:n<=15:=h4
      exact Ze (Zjx (k:= .at_) (show n.toNat<16 by omega)) Z6
    · split
      · exact Ze Yal (Ze Zlz (Zuu hts (Ze Z4a (Ze Zhr (Ze Zhr (Ze Zhq Z6))))))
      · split
        · refine Wt (Zpg (hget 0)) (Ze ?_ (Zpg (hget 1)))
          unfold sgnO
          split
          · exact Z4c
          · split
            · exact Zzi
            · exact Z7r
        · exact Ze (Zjx (k:= .ca) (show (op-6).toNat<5 by omega)) (Ze Zlz (Zuu hts (Ze Zhr (Ze Zhq Z6))))
theorem Z7x {w:Tst} (h:Ya w=true):AllW (txW w):=by
 obtain ⟨a0,a1,l0,l1,h0,h1⟩:=Ui h
 unfold txW
 refine Ze (Zjx (k:= .at_) (show w.attr.toNat<16 by omega)) ?_
 split
 · exact Ze Yam (Ze (Zdo l0 l1) Z6)
 · exact Ze Yan (Ze (Zdo l0 l1) (Ze Z4d (Ze (Zdo h0 h1) Z6)))
theorem Zuw:∀{ws:List Tst} (i:Nat),(∀w∈ws,Ya w=true)->AllW (txTs i ws)
 | [],_,_=>Z6
 |w::r,i,h=>by
  rw [Zew]
  refine Ze ?_ (Wt (Z7x (h w (by simp))) (Zuw _ fun w hw=>h w (by simp [hw])))
  split
  · exact Z4e
  · exact Z7u
theorem Z7y {c:Cls} (h:Wm c=true):AllW (txC c):=by
 obtain ⟨k1,k2,k3⟩:=Zay h
 exact Ze Zut (Ze (Zey k1) (Wt (Zuw _ k3) (Ze Z7s (Wt (Z7w _ k2) (Ze Z4b Z6)))))
theorem Zux:∀{cs:List Cls} {s:List (List Nat)},CsOk s cs->AllW (txCs cs)
 | [],_,_=>Z6
 |c::r,s,h=>by
  rw [Zjc] at h
  rw [Zex]
  exact Wt (Z7y h.1) (Zux h.2.2.2.2.2)
theorem Zdg {t:Tar} (h:Y1 t=0):AllW (Yv t):=by
 obtain ⟨h1,h2,h3,h4,h5,h6⟩:=(Zax t).1 h
 exact Ze Zus (Ze (Zey h1) (Ze Z7t (Ze (Zjx (k:= .ki) (show (t.for_-1).toNat<6 by omega)) (Ze Yaj (Wt (Zux h6) (Ze Yak Z6))))))
theorem Z7z (ws:List (List Nat)):(TS ws).map sT=TS ws:=by
 rw [List.map_map]
 rfl
theorem Zph {s:List Nat} {l:List Tok} (h:Lx s 0 l) (hs:s.length<=2000):X9 s=outT (pTar l s.length):=by
 unfold X9
 rw [Zkv h hs,if_neg (by simp)]
theorem Zl0 {s:List Nat} {l:List Tok} (h:Lx s 0 l) (hs:s.length<=2000) {l0:List Tok} {e:Int} {t:Tar} {x:PX} (ht:pTar l0 e= .ok (t,x)) (hl:l.map sT=l0.map sT):X9 s=(t,0,0):=by
 rw [Zph h hs,(Zur ht).1 l s.length hl]
 rfl
theorem Zl1 {t:Tar} (h:Y1 t=0) (hs:(Yf (Yv t)).length<=2000):X9 (Yf (Yv t))=(t,0,0):=by
 refine Zl0 (Zmz 0 (Zdg h)) hs (Zp4 h 0) ?_
 rw [Zw1,Z7z]
theorem Zgf {t:Tar} (h:Y1 t≠0):Wk t=([],Y1 t):=by
 unfold Wk
 rw [if_pos h]
theorem Zuy {t:Tar} (h:(Wk t).2=0):Y1 t=0/\(Yf (Yv t)).length<=2000/\Wk t=(Yf (Yv t),0):=by
 unfold Wk at h⊢
 split at h
 · rename_i hc
   exact absurd h hc
 · rename_i hc
   split at h
   · cases h
   · rename_i hl
     rw [if_neg hc,if_neg hl]
     exact ⟨by simpa using hc,by omega,rfl⟩
theorem Zei {t:Tar} (h:Y1 t=0):((Wk t).2=0/\(Yf (Yv t)).length<=2000/\(Wk t).1=Yf (Yv t))\/(Wk t=([],2)):=by
 unfold Wk
 rw [if_neg (by simpa using h)]
 split
 · exact .inr rfl
 · rename_i hl
   exact .inl ⟨rfl,by omega,rfl⟩
theorem Zpi:∀{ws:List (List Nat)} (p:Nat),AllW ws->(tkA p ws).map Tok.text=ws
 | [],_,_=>rfl
 |w::r,p,h=>by
  show (tokP w).1.text::(tkA (p+w.length+1) r).map Tok.text=w::r
  rw [(h w (by simp)).2.1,Zpi _ fun x hx=>h x (by simp [hx])]
theorem Zrr (w:List Nat) (r:List (List Nat)):Zbu (w::r)=w++32::Zbu r:=rfl
theorem Zjy:∀(ws:List (List Nat)) (n:Nat) (p:Nat) (t:Tok),(tkA p ws)[n]? =some t->t.at_=p+(Zbu (ws.take n)).length
 | [],n,p,t,h=>by cases h
 |w::r,0,p,t,h=>by
  have h:some (atT p (tokP w).1)=some t:=h
  cases h
  show (p:Int)=p+((Zbu []).length:Int)
  simp [Zbu]
 |w::r,n+1,p,t,h=>by
  have h:(tkA (p+w.length+1) r)[n]? =some t:=h
  rw [Zjy r n _ t h]
  rw [List.take_succ_cons,Zrr,List.length_append,List.length_cons]
  omega
theorem Zar:∀(ws:List (List Nat)) (n:Nat),n<ws.length->Yf ws=Zbu (ws.take n)++Yf (ws.drop n)
 | [],n,h=>by cases h
 |w::r,0,h=>rfl
 |w::r,n+1,h=>by
  have h:n<r.length:=by simpa using h
  have hr:r≠ []:=by rintro rfl;cases h
  rw [Zck hr,List.take_succ_cons,List.drop_succ_cons,Zar r n h]
  show _=(w++32::Zbu (r.take n))++_
  rw [List.append_assoc,List.cons_append]
theorem Zl2 {t:Tar} (h:Y1 t=0) (hs:(Yf (Yv t)).length<=2000) {n:Nat} (hn:n<(Yv t).length):X9 (Zbu ((Yv t).take n))=(zT,((Zbu ((Yv t).take n)).length:Int),160):=by
 have h1:=Zar _ n hn
 have hlen:(Zbu ((Yv t).take n)).length<=2000:=by
  rw [h1,List.length_append] at hs
  omega
 have hw:AllW ((Yv t).take n):=fun w hw=>Zdg h w (List.mem_of_mem_take hw)
 rw [Zph (Zp9 0 hw) hlen,(Zur (Zp4 h 0)).2 _ n _ (by simpa using hn) ?_]
 · rfl
 · rw [Zw1,Z7z,List.map_take]
end
section
open Go
structure PcX where
 k:Nat
 r:Nat
 L:List (List Nat)
 fz:Nat
def cOfP (h:Hp thy) (v:SV thy):Nat:=match h (bOf v) with|some (.raw (.sl c _ _ _ _::_) _ _)=>c|_=>0
noncomputable def Apc:Fr thy->Hp thy->Nat->Ann thy:=fun T h i=>{X:=PcX,fr:=fun x=> [(0,T 0),(3,T 3),(12,T 12),(13,T 13),(14,.int false .i64 x.k)],bl:=fun x=>(bOf (T 0),.raw [.sl i 0 x.L.length 1 none] 0 none)::(i,.rows Th.strs x.L x.fz)::blkP h (T 3),src:=fun x=> [(i,1000)],md:= [bOf (T 0),cOfP h (T 0)],ih:=i+1,M:=i+60,meas:=fun x=>x.r}
noncomputable def Fpc:Fns thy:=addL (addS Fpu 79 (Sxp 1000000000)) 43 3 Apc E
def clA (c:Cls):SV thy:= .agg (encF false .clauses c)
abbrev qCLv (a0:Cls):=(Cls.pay a0)
abbrev qCLl (a0:Cls):=(Cls.when_ a0=Cls.when_ a0/\(false=true->false=true))
abbrev qCL1 (a0:Cls):=(Cls.name a0=Cls.name a0/\(qCLl a0)/\Ex.op (qCLv a0)=Ex.op (qCLv a0)/\Ex.n (qCLv a0)=Ex.n (qCLv a0)/\Ex.d0 (qCLv a0)=Ex.d0 (qCLv a0)/\Ex.d1 (qCLv a0)=Ex.d1 (qCLv a0)/\Ex.d2 (qCLv a0)=Ex.d2 (qCLv a0)/\Ex.d3 (qCLv a0)=Ex.d3 (qCLv a0)/\(Ex.l (qCLv a0)=Ex.l (qCLv a0)/\(false=true->false=true))/\True)
abbrev qCLe (a0:Cls):=(↑(List.length (Cls.when_ a0)):Int)
abbrev qCLj:=(0:Nat)
abbrev qCLr:=(1:Int)
abbrev qCLh (a0:PcX):=(↑(PcX.k a0):Int)
abbrev qCL2 (a0:Cls) (b0:PcX) (c0:PcX):=(qCLj=qCLj/\qCLj=qCLj/\(qCLl a0)/\(qCLe a0)=(qCLe a0)/\wr IntKind.i64 ((qCLh b0)+qCLr)=(qCLh c0)/\True)
abbrev qCLu (a0:PcX):=(List.length (PcX.L a0))
abbrev qCL3 (a0:PcX) (b0:List Nat):=(List.take (qCLu a0) (PcX.L a0)++ [[(119:Nat),(104:Nat),(101:Nat),(110:Nat)],b0])
abbrev qCL4 (a0:PcX) (b0:List Nat):=(List.take (qCLu a0) (PcX.L a0)++ [[(97:Nat),(110:Nat),(100:Nat)],b0])
abbrev qCL5:=(1:Nat)
abbrev qCL6 (a0:Cls):=(Ex.mk (Ex.op (qCLv a0)) (Ex.n (qCLv a0)) (Ex.d0 (qCLv a0)) (Ex.d1 (qCLv a0)) (Ex.d2 (qCLv a0)) (Ex.d3 (qCLv a0)) (Ex.l (qCLv a0)))
abbrev qCLc:=(2:Nat)
abbrev qCL7 (a0:PcX):=(List.length (PcX.L a0)+qCLc+qCL5)
abbrev qCL8 (a0:PcX):=(List.length (PcX.L a0)+qCLc)
abbrev qCL9:=(140737488355328:Nat)
abbrev qCLa (a0:PcX):=(List.length (PcX.L a0)+qCLc+qCL5+qCL5)
abbrev qCLb (a0:PcX):=(List.take (qCLu a0) (PcX.L a0)++ [[(112:Nat),(97:Nat),(121:Nat)]])
abbrev qCLd (a0:Tst):=((0:Int)<=Tst.low a0/\Tst.low a0+qCLr<=(10000000000000:Int))
abbrev qCLf (a0:PcX) (b0:List Nat):=(List.take (qCL8 a0) (qCL3 a0 b0)++ [[(105:Nat),(110:Nat)]])
abbrev qCLg (a0:PcX) (b0:List Nat):=(List.take (qCL8 a0) (qCL4 a0 b0)++ [[(105:Nat),(110:Nat)]])
abbrev qCLi (a0:PcX):=(List.length (PcX.L a0)+qCLc+qCL5+qCL5+qCL5)
abbrev qCLk:=(16:Nat)
abbrev qCLm (a0:PcX):=(some (List.take (qCLu a0) (PcX.L a0)++ [[(112:Nat),(97:Nat),(121:Nat)]],PcX.fz a0))
abbrev qCLn (a0:PcX):=(List.length (PcX.L a0)<=List.length (PcX.L a0)/\PcX.fz a0<=List.length (PcX.L a0)/\(qCL8 a0)*qCLk<=qCL9)
abbrev qCLo (a0:PcX) (b0:PcX):=((qCLj=qCLj/\List.length (PcX.L a0)+qCLc+qCL5+qCL5+qCL5+qCL5=List.length (PcX.L b0)/\True)/\True)
abbrev qCLp (a0:PcX) (b0:List Nat):=(List.length (PcX.L a0)+qCLc<=List.length (qCL3 a0 b0)/\PcX.fz a0<=List.length (PcX.L a0)+qCLc/\(qCL7 a0)*qCLk<=qCL9)
abbrev qCLq (a0:PcX) (b0:List Nat):=(List.length (PcX.L a0)+qCLc<=List.length (qCL4 a0 b0)/\PcX.fz a0<=List.length (PcX.L a0)+qCLc/\(qCL7 a0)*qCLk<=qCL9)
abbrev qCLs (a0:PcX) (b0:PcX):=((qCLj=qCLj/\List.length (PcX.L a0)+qCLc+qCL5+qCL5=List.length (PcX.L b0)/\True)/\True)
abbrev qCLt (a0:Tst):=((0:Int)<=Tst.high a0/\Tst.high a0+qCLr<=(10000000000000:Int))
theorem Zyl (l:List (List Nat)) (fz:Nat) (c:Cls) (l':List (List Nat)):Zk E Fpc (vc E Fpc 400) 43 [.ptr 0 0,clA c] (hpP E Th.strs (some (l,fz))) 2 (prnK E Th.strs (some (l,fz)) l')=(
 (List.length l<=List.length l/\fz<=List.length l/\(List.length l+qCLc)*qCLk<=qCL9)/\∃(R:PcX->Prop),(∃(x:PcX),R x/\true=true/\(qCLj=qCLj/\qCLj=qCLj/\(qCLl c)/\(qCLe c)=(qCLe c)/\(0:Int)=(qCLh x)/\True)/\((qCLj=qCLj/\List.length l+qCLc=List.length (PcX.L x)/\True)/\True)/\(List.take (List.length l) l++ [[(99:Nat),(108:Nat),(97:Nat),(117:Nat),(115:Nat),(101:Nat)],Cls.name c]=PcX.L x/\fz=PcX.fz x)/\(qCL1 c)/\True)/\∀(x:PcX),R x->(decide ((qCLh x)<(qCLe c))=true->(0:Int)<=(qCLh x)/\(qCLh x)+qCLr<=(qCLe c)/\∀(x_1:Tst),(Cls.when_ c)[Int.toNat (qCLh x)]? =some x_1->(0:Int)<=mm2 false (qCLh x) qCLr/\mm2 false (qCLh x) qCLr+qCLr<=(↑qCLc:Int)/\((mm2 false (qCLh x) qCLr==(↑qCLj:Int))=true->(0:Int)<=Tst.attr x_1/\Tst.attr x_1+qCLr<=(↑(List.length (WK.words WK.at_)):Int)/\∀(x_2:List Nat),(WK.words WK.at_)[Int.toNat (Tst.attr x_1)]? =some x_2->(qCLn x)/\((Tst.low x_1==Tst.high x_1)=true->(qCLp x x_2)/\(qCLd x_1)/\∀(y:List Nat),y=decN (Tst.low x_1)->(List.length (PcX.L x)+qCLc+qCL5<=List.length (List.take (qCL8 x) (qCL3 x x_2)++ [[(105:Nat),(115:Nat)]])/\PcX.fz x<=List.length (PcX.L x)+qCLc+qCL5/\(qCLa x)*qCLk<=qCL9)/\∃(x_3:PcX),R x_3/\x_3.2+qCL5<=x.2/\true=true/\(qCL2 c x x_3)/\(qCLs x x_3)/\(List.take (qCL7 x) (List.take (qCL8 x) (qCL3 x x_2)++ [[(105:Nat),(115:Nat)]])++ [y]=PcX.L x_3/\PcX.fz x=PcX.fz x_3)/\(qCL1 c)/\True)/\((Tst.low x_1==Tst.high x_1)=false->(qCLp x x_2)/\(qCLd x_1)/\∀(y:List Nat),y=decN (Tst.low x_1)->(List.length (PcX.L x)+qCLc+qCL5<=List.length (qCLf x x_2)/\PcX.fz x<=List.length (PcX.L x)+qCLc+qCL5/\(qCLa x)*qCLk<=qCL9)/\(List.length (PcX.L x)+qCLc+qCL5+qCL5<=List.length (List.take (qCL7 x) (qCLf x x_2)++ [y])/\PcX.fz x<=List.length (PcX.L x)+qCLc+qCL5+qCL5/\(qCLi x)*qCLk<=qCL9)/\(qCLt x_1)/\∀(y_1:List Nat),y_1=decN (Tst.high x_1)->(List.length (PcX.L x)+qCLc+qCL5+qCL5+qCL5<=List.length (List.take (qCLa x) (List.take (qCL7 x) (qCLf x x_2)++ [y])++ [[(46:Nat),(46:Nat)]])/\PcX.fz x<=List.length (PcX.L x)+qCLc+qCL5+qCL5+qCL5/\(List.length (PcX.L x)+qCLc+qCL5+qCL5+qCL5+qCL5)*qCLk<=qCL9)/\∃(x_3:PcX),R x_3/\x_3.2+qCL5<=x.2/\true=true/\(qCL2 c x x_3)/\(qCLo x x_3)/\(List.take (qCLi x) (List.take (qCLa x) (List.take (qCL7 x) (qCLf x x_2)++ [y])++ [[(46:Nat),(46:Nat)]])++ [y_1]=PcX.L x_3/\PcX.fz x=PcX.fz x_3)/\(qCL1 c)/\True))/\((mm2 false (qCLh x) qCLr==(↑qCLj:Int))=false->((mm2 false (qCLh x) qCLr==(↑(qCLj+qCL5):Int))=true->(0:Int)<=Tst.attr x_1/\Tst.attr x_1+qCLr<=(↑(List.length (WK.words WK.at_)):Int)/\∀(x_2:List Nat),(WK.words WK.at_)[Int.toNat (Tst.attr x_1)]? =some x_2->(qCLn x)/\((Tst.low x_1==Tst.high x_1)=true->(qCLq x x_2)/\(qCLd x_1)/\∀(y:List Nat),y=decN (Tst.low x_1)->(List.length (PcX.L x)+qCLc+qCL5<=List.length (List.take (qCL8 x) (qCL4 x x_2)++ [[(105:Nat),(115:Nat)]])/\PcX.fz x<=List.length (PcX.L x)+qCLc+qCL5/\(qCLa x)*qCLk<=qCL9)/\∃(x_3:PcX),R x_3/\x_3.2+qCL5<=x.2/\true=true/\(qCL2 c x x_3)/\(qCLs x x_3)/\(List.take (qCL7 x) (List.take (qCL8 x) (qCL4 x x_2)++ [[(105:Nat),(115:Nat)]])++ [y]=PcX.L x_3/\PcX.fz x=PcX.fz x_3)/\(qCL1 c)/\True)/\((Tst.low x_1==Tst.high x_1)=false->(qCLq x x_2)/\(qCLd x_1)/\∀(y:List Nat),y=decN (Tst.low x_1)->(List.length (PcX.L x)+qCLc+qCL5<=List.length (qCLg x x_2)/\PcX.fz x<=List.length (PcX.L x)+qCLc+qCL5/\(qCLa x)*qCLk<=qCL9)/\(List.length (PcX.L x)+qCLc+qCL5+qCL5<=List.length (List.take (qCL7 x) (qCLg x x_2)++ [y])/\PcX.fz x<=List.length (PcX.L x)+qCLc+qCL5+qCL5/\(qCLi x)*qCLk<=qCL9)/\(qCLt x_1)/\∀(y_1:List Nat),y_1=decN (Tst.high x_1)->(List.length (PcX.L x)+qCLc+qCL5+qCL5+qCL5<=
List.length (List.take (qCLa x) (List.take (qCL7 x) (qCLg x x_2)++ [y])++ [[(46:Nat),(46:Nat)]])/\PcX.fz x<=List.length (PcX.L x)+qCLc+qCL5+qCL5+qCL5/\(List.length (PcX.L x)+qCLc+qCL5+qCL5+qCL5+qCL5)*qCLk<=qCL9)/\∃(x_3:PcX),R x_3/\x_3.2+qCL5<=x.2/\true=true/\(qCL2 c x x_3)/\(qCLo x x_3)/\(List.take (qCLi x) (List.take (qCLa x) (List.take (qCL7 x) (qCLg x x_2)++ [y])++ [[(46:Nat),(46:Nat)]])++ [y_1]=PcX.L x_3/\PcX.fz x=PcX.fz x_3)/\(qCL1 c)/\True))/\((mm2 false (qCLh x) qCLr==(↑(qCLj+qCL5):Int))=false->True)))/\(decide ((qCLh x)<(qCLe c))=false->(List.length (PcX.L x)<=List.length (PcX.L x)/\PcX.fz x<=List.length (PcX.L x)/\(List.length (PcX.L x)+qCL5)*qCLk<=qCL9)/\(List.length (PcX.L x)+qCL5=List.length (qCLb x)/\PcX.fz x<=List.length (qCLb x)/\Ex.sz (qCL6 c)+qCL5<=(1000000000:Nat)/\Ye (qCL6 c)=true/\qCL5<=List.length (qCLb x)/\List.length (qCLb x)+(8:Nat)*Ex.sz (qCL6 c)+(8:Nat)<=(1000000000:Nat))/\∀(l'_1:List (List Nat)),l'_1=List.take (qCLu x) (PcX.L x)++ [[(112:Nat),(97:Nat),(121:Nat)]]++txX (qCL6 c)->(List.length l'_1<=List.length l'_1/\fzO (qCLm x)<=List.length l'_1/\(List.length l'_1+qCL5)*qCLk<=qCL9)/\List.take (List.length l'_1) l'_1++ [[(59:Nat)]]=l'/\List.length l'_1+qCL5=List.length l'/\fzO (qCLm x)=fzO (some (l,fz)))):=by kernel_rfl
theorem Zlh:∀(a:List Tst) (i:Nat) (w:Tst),txTs i (a++ [w])=txTs i a++((if a.length+i=0 then Zfr else sAnd)::txW w)
 | [],i,w=>by simp [txTs]
 |x::r,i,w=>by
  rw [List.cons_append]
  simp only [txTs]
  rw [Zlh r (i+1) w]
  have e:(r.length+(i+1)=0)=((x::r).length+i=0):=by simp
  simp only [e,List.append_assoc,List.cons_append]
theorem Z60 (w:Tst):(txW w).length<=5:=by
 unfold txW
 split<;>simp
theorem Ziz:∀(l:List Tst) (i:Nat),(txTs i l).length<=6*l.length
 | [],_=>by simp [txTs]
 |w::r,i=>by
  have:=Ziz r (i+1)
  have:=Z60 w
  simp [txTs]
  omega
def PclP (l:List (List Nat)) (c:Cls):Prop:=Wm c=true/\c.pay.sz<1000000000/\1<=l.length/\l.length+8*c.pay.sz+6*c.when_.length+20<=1000000000
theorem Z91:FnsOk E Fpc:=Zv E_ok (Zb Zqg (Zxp (Zo1 1000000000))) _ _ _
theorem Z61 (c:Cls) (l:List (List Nat)) (fz:Nat) (hf:fz<=l.length) (h:PclP l c):PrnC E 43 Th.strs [clA c] (some (l,fz)) (l++txC c):=by
 refine Zxm Z91 (n:=400) rfl ?_
 rw [Zyl];delta qCLv qCLl qCL1 qCLe qCLj qCLr qCLh qCL2 qCLu qCL3 qCL4 qCL5 qCL6 qCLc qCL7 qCL8 qCL9 qCLa qCLb qCLd qCLf qCLg qCLi qCLk qCLm qCLn qCLo qCLp qCLq qCLs qCLt
 obtain ⟨h1,h2,h3,h4⟩:=h
 obtain ⟨-,g2,g3⟩:=Zay h1
 have L:WK.at_.words.length=16:=rfl
 simp only [fzO,List.take_length,Ex.eta,forall_eq,beq_iff_eq,beq_eq_false_iff_ne,ne_eq,and_true,true_and,imp_self,decide_eq_true_eq,decide_eq_false_iff_not]
 refine ⟨⟨Nat.le_refl _,hf,by omega⟩,fun x=>x.k<=c.when_.length/\x.fz=fz/\x.L=l++ [Xr,c.name]++txTs 0 (c.when_.take x.k)/\x.r=c.when_.length-x.k,⟨⟨0,c.when_.length,l++ [Xr,c.name],fz⟩,⟨by dsimp only;omega,rfl,by simp [txTs],rfl⟩,by simp,by simp,by simp [Xr]⟩,?_⟩
 rintro ⟨k,r,Lx,fx⟩ ⟨k1,k2,k3,k4⟩
 simp only at k1 k2 k3 k4⊢
 subst k2 k4
 have tl:=Ziz (c.when_.take k) 0
 have tl2:(c.when_.take k).length<=c.when_.length:=by simp;omega
 have hL:Lx.length=l.length+2+(txTs 0 (c.when_.take k)).length:=by rw [k3];simp;omega
 refine And.intro (fun hq=>⟨by omega,by omega,fun w hw=> ?_⟩) (fun hq=> ?_)
 · have hw:c.when_[k]? =some w:=hw
   have hq:k<c.when_.length:=by omega
   obtain ⟨t1,t2,t3,t4,t5,t6⟩:=Ui (g3 w (List.mem_of_getElem? hw))
   have ek:c.when_.take (k+1)=c.when_.take k++ [w]:=by rw [List.take_add_one,hw];rfl
   have tw:(c.when_.take k).length=k:=by simp;omega
   have hm:(0:Int)<=mm2 false (↑k:Int) (1:Int)/\mm2 false (↑k:Int) (1:Int)+1<=2:=by
    rw [Yk];omega
   have st:txTs 0 (c.when_.take (k+1))=txTs 0 (c.when_.take k)++((if k=0 then Zfr else sAnd)::txW w):=by rw [ek,Zlh,tw,Nat.add_zero]
   have wx:∀x2,WK.at_.words[w.attr.toNat]? =some x2->txW w=x2::(if w.low=w.high then [sIs,decN w.low] else [sIn,decN w.low,Zb8,decN w.high]):=by
    intro x2 h
    unfold txW
    rw [List.getD_eq_getElem?_getD,h]
    rfl
   have E1:∀s x2,(if k=0 then Zfr else sAnd)=s->WK.at_.words[w.attr.toNat]? =some x2->w.low=w.high->Lx++ [s,x2]++ [[105,115]]++ [decN w.low]=l++ [Xr,c.name]++txTs 0 (c.when_.take (k+1)):=by
    intro s x2 hs h e
    rw [k3,st,hs,wx x2 h,if_pos e]
    simp [sIs]
   have E2:∀s x2,(if k=0 then Zfr else sAnd)=s->WK.at_.words[w.attr.toNat]? =some x2->¬w.low=w.high->Lx++ [s,x2]++ [[105,110]]++ [decN w.low]++ [[46,46]]++ [decN w.high]=l++ [Xr,c.name]++txTs 0 (c.when_.take (k+1)):=by
    intro s x2 hs h e
    rw [k3,st,hs,wx x2 h,if_neg e]
    simp [sIn,Zb8]
   have T1:∀a b,List.take (Lx.length+2) (Lx++ [a,b])=Lx++ [a,b]:=fun a b=>List.take_of_length_le (by simp)
   have T2:∀a b c,List.take (Lx.length+2+1) (Lx++ [a,b]++ [c])=Lx++ [a,b]++ [c]:=fun a b c=>List.take_of_length_le (by simp)
   have T3:∀a b c d,List.take (Lx.length+2+1+1) (Lx++ [a,b]++ [c]++ [d])=Lx++ [a,b]++ [c]++ [d]:=fun a b c d=>List.take_of_length_le (by simp)
   have T4:∀a b c d e,List.take (Lx.length+2+1+1+1) (Lx++ [a,b]++ [c]++ [d]++ [e])=Lx++ [a,b]++ [c]++ [d]++ [e]:=fun a b c d e=>List.take_of_length_le (by simp)
   have wk:wr IntKind.i64 ((k:Int)+1)=((k+1:Nat):Int):=(wr64 (by omega) (by omega)).trans (by omega)
   simp only [T1,T2,T3,T4]
   have m0:(mm2 false (k:Int) 1=((0:Nat):Int))=(k=0):=by rw [Yk];exact propext (by omega)
   have go:∀s x2,(if k=0 then Zfr else sAnd)=s->WK.at_.words[w.attr.toNat]? =some x2->
    (w.low=w.high->∃x_3:PcX,(x_3.k<=c.when_.length/\x_3.fz=fx/\x_3.L=l++ [Xr,c.name]++txTs 0 (List.take x_3.k c.when_)/\x_3.r=c.when_.length-x_3.k)/\x_3.r+1<=c.when_.length-k/\wr IntKind.i64 ((k:Int)+1)=(x_3.k:Int)/\Lx.length+2+1+1=x_3.L.length/\Lx++ [s,x2]++ [[105,115]]++ [decN w.low]=x_3.L/\fx=x_3.fz)/\
    (¬w.low=w.high->∃x_3:PcX,(x_3.k<=c.when_.length/\x_3.fz=fx/\x_3.L=l++ [Xr,c.name]++txTs 0 (List.take x_3.k c.when_)/\x_3.r=c.when_.length-x_3.k)/\x_3.r+1<=c.when_.length-k/\wr IntKind.i64 ((k:Int)+1)=(x_3.k:Int)/\Lx.length+2+1+1+1+1=x_3.L.length/\Lx++ [s,x2]++ [[105,110]]++ [decN w.low]++ [[46,46]]++ [decN w.high]=x_3.L/\fx=x_3.fz):=by
    intro s x2 hs h
    refine And.intro (fun e=> ?_) (fun e=> ?_)
    · have:=E1 s x2 hs h e
      have h2:=congrArg List.length this
      refine ⟨⟨k+1,c.when_.length-(k+1),l++ [Xr,c.name]++txTs 0 (c.when_.take (k+1)),fx⟩,⟨hq,rfl,rfl,rfl⟩,(by dsimp only;omega),wk,?_,this,rfl⟩
      dsimp only
      rw [<-h2]
      simp
    · have:=E2 s x2 hs h e
      have h2:=congrArg List.length this
      refine ⟨⟨k+1,c.when_.length-(k+1),l++ [Xr,c.name]++txTs 0 (c.when_.take (k+1)),fx⟩,⟨hq,rfl,rfl,rfl⟩,(by dsimp only;omega),wk,?_,this,rfl⟩
      dsimp only
      rw [<-h2]
      simp
   rw [m0]
   refine ⟨hm.1,hm.2,fun h0=>⟨t1,by rw [L];omega,fun x2 hx2=> ?_⟩,fun h0=>⟨fun h1=>⟨t1,by rw [L];omega,fun x2 hx2=> ?_⟩,fun _=>trivial⟩⟩
   · obtain ⟨g1,g2⟩:=go [119,104,101,110] x2 (by rw [if_pos h0];rfl) hx2
     refine ⟨⟨Nat.le_refl _,by omega,by omega⟩,fun e=> ?_,fun e=> ?_⟩
     · exact ⟨⟨by simp,by omega,by omega⟩,⟨t3,by omega⟩,⟨by simp,by omega,by omega⟩,g1 e⟩
     · exact ⟨⟨by simp,by omega,by omega⟩,⟨t3,by omega⟩,⟨by simp,by omega,by omega⟩,⟨by simp,by omega,by omega⟩,⟨t5,by omega⟩,⟨by simp,by omega,by omega⟩,g2 e⟩
   · obtain ⟨g1,g2⟩:=go [97,110,100] x2 (by rw [if_neg h0];rfl) hx2
     refine ⟨⟨Nat.le_refl _,by omega,by omega⟩,fun e=> ?_,fun e=> ?_⟩
     · exact ⟨⟨by simp,by omega,by omega⟩,⟨t3,by omega⟩,⟨by simp,by omega,by omega⟩,g1 e⟩
     · exact ⟨⟨by simp,by omega,by omega⟩,⟨t3,by omega⟩,⟨by simp,by omega,by omega⟩,⟨by simp,by omega,by omega⟩,⟨t5,by omega⟩,⟨by simp,by omega,by omega⟩,g2 e⟩
 · have ek:k=c.when_.length:=by omega
   have tx:=Y3 c.pay
   have e1:Lx++ [[112,97,121]]++txX c.pay++ [[59]]=l++txC c:=by
    rw [k3,ek,List.take_length]
    unfold txC
    simp [sPay,Ze5]
   have e2:=congrArg List.length e1
   simp only [List.length_append,List.length_cons,List.length_nil] at e2⊢
   exact ⟨⟨Nat.le_refl _,by omega,by omega⟩,⟨trivial,by omega,by omega,g2,by omega,by omega⟩,⟨Nat.le_refl _,by omega,by omega⟩,e1,by omega,trivial⟩
end
section
open Go
noncomputable def dCl1:DcL E (Cls×Unit):= .cons dCl .nil
noncomputable def Spc:Sum thy:=sumB E Th.strs dCl1 (fun l x=>PclP l x.1) fun (l:List (List Nat)) x=>l++txC x.1
theorem Z62:SumOk E 43 Spc:=Zh5 E_ok (Zc rfl) fun x=>⟨fun l fz hf hp=>Z61 x.1 l fz hf hp,fun hp=>absurd hp.2.2.1 (by decide)⟩
noncomputable def Z93:DcL E (List (List Nat)×List Nat×Unit):= .cons (Zrd (E:=E) Th.strs:Dc E (List (thy.dom Th.strs))) (.cons dS .nil)
noncomputable def Z3e:Sum thy:=Zkr E (fun _=>none) 10 (Vq Z93 (fun x=>(x.2.1= [32]/\x.1.length<=1000000000)/\(Yf x.1).length<=1000000000) (fun x=>Yf x.1) fun y=> .str false y)
noncomputable def Apr:Fr thy->Hp thy->Nat->Ann thy:=fun T h i=>{X:=PcX,fr:=fun x=> [(1,T 1),(5,T 5),(28,T 28),(29,T 29),(30,.int false .i64 x.k)],bl:=fun x=>(bOf (T 5),.raw [.sl i 0 x.L.length 1 none] 0 none)::(i,.rows Th.strs x.L x.fz)::blkP h (T 1),src:=fun x=> [(i,1005)],md:= [bOf (T 5),cOfP h (T 5)],ih:=i+1,M:=i+60,meas:=fun x=>x.r}
noncomputable def Fpr:Fns thy:=addL (addS (addS (addS (addS F0 42 Zcr) 44 Z3e) 17 Z3c) 43 Spc) 15 7 Apr E
abbrev qCM1 (a0:Cls):=(Ex.mk (Ex.op (Cls.pay a0)) (Ex.n (Cls.pay a0)) (Ex.d0 (Cls.pay a0)) (Ex.d1 (Cls.pay a0)) (Ex.d2 (Cls.pay a0)) (Ex.d3 (Cls.pay a0)) (Ex.l (Cls.pay a0)))
abbrev qCM5:=(0:Nat)
abbrev qCM2 (a0:PcX):=(List.take (List.length (PcX.L a0)+(1:Nat)) (List.drop qCM5 (List.take (List.length (PcX.L a0)) (PcX.L a0)++ [[(125:Nat)]])))
abbrev qCM3 (a0:Tar):=(↑(List.length (Tar.clauses a0)):Int)
abbrev qCM4 (a0:Tar):=(Tar.clauses a0=Tar.clauses a0/\(false=true->false=true))
abbrev qCM6 (a0:PcX):=(↑(PcX.k a0):Int)
theorem Zq0 (t:Tar) (s:List Nat) (e:Int):Zk E Fpr (vc E Fpr 400) 15 [.agg (encF false .tariffs t)] hp0 0 (fun r=>ret E (patch hp0 0 r) r.v (.tup [.str false s,.int false .i64 e]))=(
 ((∀(c:Cls),c∈Tar.clauses t->Ex.sz (Cls.pay c)+(1:Nat)<=(1000000000000:Nat)/\List.length (Cls.when_ c)+(1:Nat)<=(1000000000000:Nat))/\List.length (Tar.clauses t)+(1:Nat)<=(1000000000000:Nat))/\((Y1 t !=(0:Int))=true-> []=s/\Y1 t=e/\True)/\((Y1 t !=(0:Int))=false->(0:Int)<=wr IntKind.i64 (Tar.for_ t-(1:Int))/\wr IntKind.i64 (Tar.for_ t-(1:Int))+(1:Int)<=(↑(List.length (WK.words WK.ki)):Int)/\∀(x:List Nat),(WK.words WK.ki)[Int.toNat (wr IntKind.i64 (Tar.for_ t-(1:Int)))]? =some x->∃(R:PcX->Prop),(∃(x_1:PcX),R x_1/\true=true/\(qCM5=qCM5/\qCM5=qCM5/\(qCM4 t)/\(qCM3 t)=(qCM3 t)/\(0:Int)=(qCM6 x_1)/\True)/\((qCM5=qCM5/\(5:Nat)=List.length (PcX.L x_1)/\True)/\True)/\([[(116:Nat),(97:Nat),(114:Nat),(105:Nat),(102:Nat),(102:Nat)],Tar.name t,[(102:Nat),(111:Nat),(114:Nat)],x,[(123:Nat)]]=PcX.L x_1/\qCM5=PcX.fz x_1)/\(Tar.name t=Tar.name t/\Tar.for_ t=Tar.for_ t/\(qCM4 t)/\True)/\True)/\∀(x:PcX),R x->(decide ((qCM6 x)<(qCM3 t))=true->(0:Int)<=(qCM6 x)/\(qCM6 x)+(1:Int)<=(qCM3 t)/\∀(x_1:Cls),(Tar.clauses t)[Int.toNat (qCM6 x)]? =some x_1->(List.length (PcX.L x)=List.length (PcX.L x)/\PcX.fz x<=List.length (PcX.L x)/\Wm (Cls.mk (Cls.name x_1) (Cls.when_ x_1) (qCM1 x_1))=true/\Ex.sz (qCM1 x_1)+(1:Nat)<=(1000000000:Nat)/\(1:Nat)<=List.length (PcX.L x)/\List.length (PcX.L x)+(8:Nat)*Ex.sz (qCM1 x_1)+(6:Nat)*List.length (Cls.when_ x_1)+(20:Nat)<=(1000000000:Nat))/\∀(l':List (List Nat)),l'=PcX.L x++txC (Cls.mk (Cls.name x_1) (Cls.when_ x_1) (qCM1 x_1))->∃(x_2:PcX),R x_2/\x_2.2+(1:Nat)<=x.2/\true=true/\(qCM5=qCM5/\qCM5=qCM5/\(qCM4 t)/\(qCM3 t)=(qCM3 t)/\wr IntKind.i64 ((qCM6 x)+(1:Int))=(qCM6 x_2)/\True)/\((qCM5=qCM5/\List.length l'=List.length (PcX.L x_2)/\True)/\True)/\(l'=PcX.L x_2/\fzO (some (PcX.L x,PcX.fz x))=PcX.fz x_2)/\(Tar.name t=Tar.name t/\Tar.for_ t=Tar.for_ t/\(qCM4 t)/\True)/\True)/\(decide ((qCM6 x)<(qCM3 t))=false->(List.length (PcX.L x)<=List.length (PcX.L x)/\PcX.fz x<=List.length (PcX.L x)/\(List.length (PcX.L x)+(1:Nat))*(16:Nat)<=(140737488355328:Nat))/\qCM5+(List.length (PcX.L x)+(1:Nat))<=List.length (List.take (List.length (PcX.L x)) (PcX.L x)++ [[(125:Nat)]])/\(([(32:Nat)]= [(32:Nat)]/\List.length (qCM2 x)<=(1000000000:Nat))/\List.length (Yf (qCM2 x))<=(1000000000:Nat))/\∀(y:List Nat),y=Yf (qCM2 x)->(decide ((↑(List.length y):Int)>(2000:Int))=true-> []=s/\(2:Int)=e/\True)/\(decide ((↑(List.length y):Int)>(2000:Int))=false->y=s/\(0:Int)=e/\True)))):=by kernel_rfl
theorem Zom:∀{s:List Nat} {n m:Int},1<=n->n<=1099511627776->(∀c∈s,isD c=true)->numL n s=(m,0)->n*10^s.length<=1099511627776
 | [],n,m,_,hn,_,_=>by simpa using hn
 |c::r,n,m,h1,hn,hd,h=>by
  unfold numL at h
  split at h
  · cases h
  · rename_i hq
    have hc:=hd c (by simp)
    unfold isD at hc
    simp only [Bool.and_eq_true,decide_eq_true_eq] at hc
    have:=Zom (by omega) (by omega) (fun c hc=>hd c (by simp [hc])) h
    have hle:n*10<=10*n+((c:Int)-48):=by omega
    have hp:(0:Int)<=10^r.length:=Int.le_of_lt (Int.pow_pos (by decide))
    have h3:=Int.mul_le_mul_of_nonneg_right hle hp
    rw [List.length_cons,Int.pow_succ,Int.mul_comm (10^r.length) 10,<-Int.mul_assoc]
    omega
theorem Zym {s:List Nat} (hd:∀c∈s,isD c=true) (h:(numb s).2=0):s.length<=32:=by
 match s,hd,h with
 | [],_,_=>simp
 |c::r,hd,h=>
  unfold numb at h
  split at h
  · cases h
  · rename_i hq
    cases r with
    |nil=>simp
    |cons d r=>
     have hc:c≠48:=fun e=>hq ⟨by simp,by rw [e];rfl⟩
     have hcd:=hd c (by simp)
     unfold isD at hcd
     simp only [Bool.and_eq_true,decide_eq_true_eq] at hcd
     unfold numL at h
     rw [if_neg (by omega)] at h
     have h2:numL (10*0+((c:Int)-48)) (d::r)=((numL (10*0+((c:Int)-48)) (d::r)).1,0):=Prod.ext rfl h
     have:=Zom (by omega) (by omega) (fun c hc=>hd c (by simp [hc])) h2
     have hp:(0:Int)<=10^(d::r).length:=Int.le_of_lt (Int.pow_pos (by decide))
     have h3:1*(10:Int)^(d::r).length<=(10*0+((c:Int)-48))*10^(d::r).length:=Int.mul_le_mul_of_nonneg_right (by omega) hp
     rcases Nat.lt_or_ge (d::r).length 13 with hl|hl
     · simp at hl⊢;omega
     · have h4:(10:Nat)^13<=10^(d::r).length:=Nat.pow_le_pow_right (by decide) hl
       have h5:((10^(d::r).length:Nat):Int)=(10:Int)^(d::r).length:=by norm_cast
       have h6:((10^13:Nat):Int)<=((10^(d::r).length:Nat):Int):=Int.ofNat_le.2 h4
       rw [h5] at h6
       have h7:((10^13:Nat):Int)=10000000000000:=rfl
       omega
theorem Z3f {c:Nat} {w:List Nat} (h:sgnW c=some w):w.length<=2:=by
 unfold sgnW at h
 repeat (split at h; · cases h;decide)
 cases h
theorem TokW.len {w:List Nat} (h:TokW w):w.length<=32:=by
 obtain ⟨h1,h2,h3⟩:=h
 obtain ⟨c,r,rfl⟩:=List.exists_cons_of_ne_nil h3
 rw [Yo] at h1 h2
 split at h1
 · rename_i hl
   rw [if_pos hl] at h2
   split at h1
   · cases h1
   · rename_i hq
     rw [if_neg hq] at h2
     have h2:=congrArg List.length h2
     rw [List.length_take] at h2
     omega
 · rename_i hl
   rw [if_neg hl] at h2
   split at h1
   · rename_i hd
     rw [if_pos hd] at h2
     have h2:(c::r).take (spn isD (c::r))=c::r:=h2
     have h1:(numb ((c::r).take (spn isD (c::r)))).2=0:=h1
     rw [h2] at h1
     exact Zym (fun x hx=>by rw [<-h2] at hx;exact Zhy hx) h1
   · rename_i hd
     rw [if_neg hd] at h2
     split at h1
     · rename_i w hw
       rw [hw] at h2
       unfold tokS at h1 h2
       split at h1
       · rename_i hq
         dsimp only at h2
         rw [if_pos hq] at h2
         have h2:w=c::r:=h2
         rw [<-h2]
         have:=Z3f hw
         omega
       · cases h1
     · cases h1
theorem Zi0:∀{ws:List (List Nat)} {m:Nat},(∀w∈ws,w.length<=m)->(Yf ws).length<=(m+1)*ws.length
 | [],m,_=>by simp [Yf]
 | [w],m,h=>by
  have:=h w (by simp)
  simp only [Yf,List.length_cons,List.length_nil]
  omega
 |w::x::r,m,h=>by
  have ih:=Zi0 (ws:=x::r) (m:=m) (fun y hy=>h y (by simp at hy⊢;exact .inr hy))
  have:=h w (by simp)
  rw [Zck (by simp),List.length_append,List.length_cons]
  have e:(m+1)*(w::x::r).length=(m+1)*(x::r).length+(m+1):=by rw [List.length_cons,Nat.mul_add,Nat.mul_one]
  omega
theorem Z3g (c:Cls):(txC c).length<=8*c.pay.sz+6*c.when_.length+4:=by
 have h1:=Y3 c.pay
 have h2:=Ziz c.when_ 0
 unfold txC
 simp only [List.length_cons,List.length_append,List.length_nil]
 omega
theorem Zi1:∀(a:List Cls) (c:Cls),txCs (a++ [c])=txCs a++txC c
 | [],c=>by simp [txCs]
 |x::r,c=>by rw [List.cons_append];simp only [txCs];rw [Zi1 r c,List.append_assoc]
theorem Zon:∀{cs:List Cls} {m:Nat},(∀c∈cs,c.pay.sz<=m/\c.when_.length<=8)->(txCs cs).length<=(8*m+52)*cs.length
 | [],m,_=>by simp [txCs]
 |c::r,m,h=>by
  have ih:=Zon (cs:=r) (m:=m) (fun x hx=>h x (by simp [hx]))
  have h1:=h c (by simp)
  have h2:=Z3g c
  have e:(8*m+52)*(c::r).length=(8*m+52)*r.length+(8*m+52):=by rw [List.length_cons,Nat.mul_add,Nat.mul_one]
  rw [txCs,List.length_append]
  omega
theorem Zoo:∀{cs:List Cls} {s:List (List Nat)},CsOk s cs->∀c∈cs,Wm c=true/\c.when_.length<=8
 |c::r,s,h,x,hx=>by
  rw [Zjc] at h
  rcases List.mem_cons.1 hx with rfl|hx
  · exact ⟨h.1,h.2.2.2.1⟩
  · exact Zoo h.2.2.2.2.2 x hx
def SmT (t:Tar):Prop:=(∀c∈t.clauses,c.pay.sz<=10000/\c.when_.length<1000000000)/\t.clauses.length<1000000000
theorem Zop:SumOk E 44 Z3e:=Zez E_ok (Z4 E_ok (Zc rfl) fun x h=>by
 have:=Zkd x.1 h.1.2 h.2
 rw [<-h.1.1] at this
 exact this)
theorem Z63:FnsOk E Fpr:=Zv E_ok (Zb (Zb (Zb (Zb F0_ok Zcs) Zop) Zya) Z62) _ _ _
theorem Zq1 (t:Tar) (h:SmT t):PureC E 15 [.agg (encF false .tariffs t)] (.tup [.str false (Wk t).1,.int false .i64 (Wk t).2]):=by
 refine Za E_ok (Zg E_ok Z63 400) ?_
 rw [Zq0];delta qCM1 qCM5 qCM2 qCM3 qCM4 qCM6
 obtain ⟨h1,h2⟩:=h
 have L:WK.ki.words.length=6:=rfl
 simp only [bne_iff_ne,bne_eq_false_iff_eq,fzO,List.take_length,Cls.eta,Ex.eta,forall_eq,beq_iff_eq,beq_eq_false_iff_ne,ne_eq,and_true,true_and,imp_self,decide_eq_true_eq,decide_eq_false_iff_not]
 refine ⟨⟨fun c hc=>⟨by have:=(h1 c hc).1;omega,by have:=(h1 c hc).2;omega⟩,by omega⟩,fun hn=> ?_,fun hz=> ?_⟩
 · rw [Zgf hn];exact ⟨rfl,rfl⟩
 · obtain ⟨c1,c2,c3,c4,c5,c6⟩:=(Zax t).1 hz
   have hw:wr IntKind.i64 (t.for_-1)=t.for_-1:=wr64 (by omega) (by omega)
   rw [hw]
   refine ⟨by omega,by rw [L];omega,fun x hx=> ?_⟩
   have hall:=Zoo c6
   have hm:∀c∈t.clauses,c.pay.sz<=10000/\c.when_.length<=8:=fun c hc=>⟨(h1 c hc).1,(hall c hc).2⟩
   have hlen:∀k,(txCs (t.clauses.take k)).length<=80052*64:=fun k=>by
    have a:=Zon (cs:=t.clauses.take k) (m:=10000) (fun c hc=>hm c (List.mem_of_mem_take hc))
    have b:(t.clauses.take k).length<=64:=by rw [List.length_take];omega
    have e:(8*10000+52)*(t.clauses.take k).length<=(8*10000+52)*64:=Nat.mul_le_mul_left _ b
    omega
   have hx5:WK.ki.words.getD (t.for_-1).toNat []=x:=by rw [List.getD_eq_getElem?_getD,hx];rfl
   refine ⟨fun y=>y.k<=t.clauses.length/\y.fz=0/\y.L= [[116,97,114,105,102,102],t.name,[102,111,114],x,[123]]++txCs (t.clauses.take y.k)/\y.r=t.clauses.length-y.k,⟨⟨0,t.clauses.length,[[116,97,114,105,102,102],t.name,[102,111,114],x,[123]],0⟩,⟨(by dsimp only;omega),rfl,by simp [txCs],rfl⟩,rfl,rfl,rfl,rfl⟩,?_⟩
   rintro ⟨k,r,Lx,fx⟩ ⟨k1,k2,k3,k4⟩
   simp only at k1 k2 k3 k4⊢
   subst k2 k4
   have hL:Lx.length=5+(txCs (t.clauses.take k)).length:=by rw [k3];simp;omega
   have hlk:=hlen k
   refine And.intro (fun hq=>⟨by omega,by omega,fun c hc=> ?_⟩) (fun hq=> ?_)
   · have hc:t.clauses[k]? =some c:=hc
     have hq:k<t.clauses.length:=by omega
     have hcm:=List.mem_of_getElem? hc
     have b1:=hm c hcm
     have b2:=hall c hcm
     have e:Lx++txC c= [[116,97,114,105,102,102],t.name,[102,111,114],x,[123]]++txCs (t.clauses.take (k+1)):=by
      have ek:t.clauses.take (k+1)=t.clauses.take k++ [c]:=by rw [List.take_add_one,hc];rfl
      rw [k3,ek,Zi1,List.append_assoc]
     refine ⟨⟨by omega,b2.1,by omega,by omega,by omega⟩,⟨k+1,t.clauses.length-(k+1),Lx++txC c,0⟩,⟨hq,rfl,e,rfl⟩,(by dsimp only;omega),(wr64 (by omega) (by omega)).trans (by dsimp only;omega),rfl,rfl,rfl⟩
   · have ek:k=t.clauses.length:=by omega
     have e:Lx++ [[125]]=Yv t:=by
      rw [k3,ek,List.take_length]
      unfold Yv
      rw [hx5]
      simp [Ze6,sFor,sLb,sRb]
     have e1:List.take (Lx.length+1) (List.drop 0 (Lx++ [[125]]))=Yv t:=by
      rw [List.drop_zero,List.take_of_length_le (by simp),e]
     rw [e1]
     have e2:(Yv t).length=Lx.length+1:=by rw [<-e];simp
     have hj:=Zi0 (ws:=Yv t) (m:=32) (fun w hw=>(Zdg hz w hw).len)
     unfold Wk
     rw [if_neg (by rw [hz];simp)]
     refine ⟨⟨Nat.le_refl _,by omega,by omega⟩,by rw [List.length_append];simp,⟨by omega,by omega⟩,fun h=> ?_,fun h=> ?_⟩
     · rw [if_pos (by omega)];exact ⟨rfl,rfl⟩
     · rw [if_neg (by omega)];exact ⟨rfl,rfl⟩
end
section
open Go
mutual
def szW:Int->Ex->Int
 |n,.mk _ _ _ _ _ _ l=>if n>60\/(l.length:Int)>400 then 401 else szWL (n+1) 1 l
def szWL:Int->Int->List Ex->Int
 |_,a,[]=>a
 |n,a,x::r=>if a<=400 then szWL n (a+szW n x) r else a
end
theorem Z3a (n:Int) (x:Ex):szW n x=if n>60\/(x.l.length:Int)>400 then 401 else szWL (n+1) 1 x.l:=by cases x;rw [szW];rfl
noncomputable def Sszw (m:Nat):Sum thy:=Vq Z9f (fun x=>62<=x.2.1+m/\1<=x.2.1/\x.2.1<=61) (fun x=>szW x.2.1 x.1) fun y=> .int false .i64 y
noncomputable def Aszw:Fr thy->Hp thy->Nat->Ann thy:=fun T h i=>{X:=DX,fr:=fun x=> [(1,T 1),(2,T 2),(5,.int false .i64 x.j),(6,.int false .i64 x.k)],bl:=fun x=>blkP h (T 2),src:=fun _=> [],md:= [],ih:=i,M:=i+30,meas:=fun x=>x.r}
noncomputable def Fszw (m:Nat):Fns thy:=addL (addS F0 20 (Sszw m)) 20 5 Aszw E
abbrev qCN1 (a0:Ex):=(Ex.op a0=Ex.op a0/\Ex.n a0=Ex.n a0/\Ex.d0 a0=Ex.d0 a0/\Ex.d1 a0=Ex.d1 a0/\Ex.d2 a0=Ex.d2 a0/\Ex.d3 a0=Ex.d3 a0/\(Ex.l a0=Ex.l a0/\(false=true->false=true))/\True)
abbrev qCN2 (a0:Ex):=(↑(List.length (Ex.l a0)):Int)
abbrev qCN3 (a0:DX):=(↑(DX.k a0):Int)
theorem Z1w (m:Nat) (x:Ex) (n:Int) (v:Int):Zk E F0 (vc E (Fszw m) 400) 20 [exA x,.int false .i64 n] hp0 0 (fun r=>ret E (patch hp0 0 r) r.v (.int false .i64 v))=(
 ∃(Q:Bool->Prop),((decide (n>(60:Int))=true->Q true)/\(decide (n>(60:Int))=false->(decide ((qCN2 x)>(400:Int))=true->Q true)/\(decide ((qCN2 x)>(400:Int))=false->Q false)))/\(Q true->(401:Int)=v)/\(Q false->∃(R:DX->Prop),(∃(x_1:DX),R x_1/\true=true/\(n=n/\(0:Nat)=(0:Nat)/\(1:Int)=DX.j x_1/\(0:Int)=(qCN3 x_1)/\True)/\(qCN1 x)/\True)/\∀(x_1:DX),R x_1->∃(Q:Bool->Prop),((decide ((qCN3 x_1)<(qCN2 x))=true->(decide (DX.j x_1<=(400:Int))=true->Q true)/\(decide (DX.j x_1<=(400:Int))=false->Q false))/\(decide ((qCN3 x_1)<(qCN2 x))=false->Q false))/\(Q true->(0:Int)<=(qCN3 x_1)/\(qCN3 x_1)+(1:Int)<=(qCN2 x)/\∀(x_2:Ex),(Ex.l x)[Int.toNat (qCN3 x_1)]? =some x_2->((62:Int)<=wr IntKind.i64 (n+(1:Int))+(↑m:Int)/\(1:Int)<=wr IntKind.i64 (n+(1:Int))/\wr IntKind.i64 (n+(1:Int))<=(61:Int))/\∀(y:Int),y=szW (wr IntKind.i64 (n+(1:Int))) (Ex.mk (Ex.op x_2) (Ex.n x_2) (Ex.d0 x_2) (Ex.d1 x_2) (Ex.d2 x_2) (Ex.d3 x_2) (Ex.l x_2))->∃(x_3:DX),R x_3/\x_3.2+(1:Nat)<=x_1.2/\true=true/\(n=n/\(0:Nat)=(0:Nat)/\wr IntKind.i64 (DX.j x_1+y)=DX.j x_3/\wr IntKind.i64 ((qCN3 x_1)+(1:Int))=(qCN3 x_3)/\True)/\(qCN1 x)/\True)/\(Q false->DX.j x_1=v))):=by kernel_rfl
noncomputable def Afw:Fr thy->Hp thy->Nat->Ann thy:=fun T h i=>{X:=DX,fr:=fun x=> [(1,T 1),(3,.int false .i64 x.j),(4,.int false .i64 x.k)],bl:=fun x=>blkP h (T 1),src:=fun _=> [],md:= [],ih:=i,M:=i+40,meas:=fun x=>x.r}
noncomputable def Ffw:Fns thy:=addL (addS F0 20 (Sszw 61)) 14 5 Afw E
abbrev qCN4 (a0:Tar):=(↑(List.length (Tar.clauses a0)):Int)
abbrev qCN5 (a0:DX):=(↑(DX.k a0):Int)
abbrev qCN6 (a0:Tar):=(Tar.name a0=Tar.name a0/\Tar.for_ a0=Tar.for_ a0/\(Tar.clauses a0=Tar.clauses a0/\(false=true->false=true))/\True)
theorem Z6f (t:Tar) (v:Bool):Zk E Ffw (vc E Ffw 400) 14 [.agg (encF false .tariffs t)] hp0 0 (fun r=>ret E (patch hp0 0 r) r.v (.bool false v))=(
 (decide ((qCN4 t)>(80:Int))=true->false=v)/\(decide ((qCN4 t)>(80:Int))=false->∃(R:DX->Prop),(∃(x:DX),R x/\true=true/\((0:Nat)=(0:Nat)/\(0:Int)=DX.j x/\(0:Int)=(qCN5 x)/\True)/\(qCN6 t)/\True)/\∀(x:DX),R x->(decide ((qCN5 x)<(qCN4 t))=true->(0:Int)<=(qCN5 x)/\(qCN5 x)+(1:Int)<=(qCN4 t)/\∀(x_1:Cls),(Tar.clauses t)[Int.toNat (qCN5 x)]? =some x_1->(decide ((↑(List.length (Cls.when_ x_1)):Int)>(400:Int))=true->false=v)/\(decide ((↑(List.length (Cls.when_ x_1)):Int)>(400:Int))=false->(0:Int)<=(qCN5 x)/\(qCN5 x)+(1:Int)<=(qCN4 t)/\∀(x_2:Cls),(Tar.clauses t)[Int.toNat (qCN5 x)]? =some x_2->(0:Int)<=(qCN5 x)/\(qCN5 x)+(1:Int)<=(qCN4 t)/\∀(x_3:Cls),(Tar.clauses t)[Int.toNat (qCN5 x)]? =some x_3->((62:Int)<=(1:Int)+(↑(61:Nat):Int)/\(1:Int)<=(1:Int)/\(1:Int)<=(61:Int))/\∀(y:Int),y=szW (1:Int) (Ex.mk (Ex.op (Cls.pay x_3)) (Ex.n (Cls.pay x_3)) (Ex.d0 (Cls.pay x_3)) (Ex.d1 (Cls.pay x_3)) (Ex.d2 (Cls.pay x_3)) (Ex.d3 (Cls.pay x_3)) (Ex.l (Cls.pay x_3)))->∃(x_4:DX),R x_4/\x_4.2+(1:Nat)<=x.2/\true=true/\((0:Nat)=(0:Nat)/\wr IntKind.i64 (wr IntKind.i64 (DX.j x+(↑(List.length (Cls.when_ x_2)):Int))+y)=DX.j x_4/\wr IntKind.i64 ((qCN5 x)+(1:Int))=(qCN5 x_4)/\True)/\(qCN6 t)/\True))/\(decide ((qCN5 x)<(qCN4 t))=false->(decide (DX.j x<=(400:Int))=true->true=v)/\(decide (DX.j x<=(400:Int))=false->false=v)))):=by kernel_rfl
structure TtX where
 k:Nat
 r:Nat
 L:List (List Nat)
def Atx:Fr thy->Hp thy->Nat->Ann thy:=fun T h i=>{X:=TtX,fr:=fun x=> [(3,T 3),(9,T 9),(10,T 10),(11,.int false .i64 x.k)],bl:=fun x=> [(bOf (T 3),.rows Th.strs x.L 0)],src:=fun _=> [],md:= [bOf (T 3)],ih:=i,M:=i+30,meas:=fun x=>x.r}
noncomputable def Ftx:Fns thy:=addL (addS F0 44 Z3e) 27 3 Atx E
abbrev qCN7 (a0:List Tok):=(↑(List.length a0):Int)
abbrev qCN8 (a0:TtX):=(↑(TtX.k a0):Int)
abbrev qCN9:=(0:Nat)
abbrev qCNa (a0:List Tok):=(qCN9=qCN9/\Int.toNat (qCN7 a0)=Int.toNat (qCN7 a0)/\Int.toNat (qCN7 a0)=Int.toNat (qCN7 a0))
abbrev qCNb (a0:List Tok) (b0:TtX):=(List.take (Int.toNat (qCN7 a0)) (List.drop qCN9 (TtX.L b0)))
theorem Z6g (l:List Tok) (v:List Nat):Zk E Ftx (vc E Ftx 400) 27 [.psl Th.toks l false] hp0 0 (fun r=>ret E (patch hp0 0 r) r.v (.str false v))=(
 (0:Int)<=(qCN7 l)/\(qCN7 l)<=(qCN7 l)/\(↑(16:Nat):Int)*(qCN7 l)<=(281474976710656:Int)/\∃(R:TtX->Prop),(∃(x:TtX),R x/\true=true/\((qCNa l)/\(l=l/\(false=true->false=true))/\(qCN7 l)=(qCN7 l)/\(0:Int)=(qCN8 x)/\True)/\(List.replicate (Int.toNat (qCN7 l)) (toL (ByteArray.mk #[]))=TtX.L x/\qCN9=qCN9)/\True)/\∀(x:TtX),R x->(decide ((qCN8 x)<(qCN7 l))=true->(0:Int)<=(qCN8 x)/\(qCN8 x)+(1:Int)<=(qCN7 l)/\∀(x_1:Tok),l[Int.toNat (qCN8 x)]? =some x_1->((0:Int)<=(qCN8 x)/\(qCN8 x)+(1:Int)<=(↑(Int.toNat (qCN7 l)):Int))/\qCN9<=qCN9+Int.toNat (qCN8 x)/\qCN9+Int.toNat (qCN8 x)+(1:Nat)<=List.length (TtX.L x)/\∀(x_2:List Nat),(TtX.L x)[qCN9+Int.toNat (qCN8 x)]? =some x_2->∃(x_3:TtX),R x_3/\x_3.2+(1:Nat)<=x.2/\true=true/\((qCNa l)/\(l=l/\(false=true->false=true))/\(qCN7 l)=(qCN7 l)/\wr IntKind.i64 ((qCN8 x)+(1:Int))=(qCN8 x_3)/\True)/\(List.set (TtX.L x) (qCN9+Int.toNat (qCN8 x)) (Tok.text x_1)=TtX.L x_3/\qCN9=qCN9)/\True)/\(decide ((qCN8 x)<(qCN7 l))=false->qCN9+Int.toNat (qCN7 l)<=List.length (TtX.L x)/\(([(32:Nat)]= [(32:Nat)]/\List.length (qCNb l x)<=(1000000000:Nat))/\List.length (Yf (qCNb l x))<=(1000000000:Nat))/\∀(y:List Nat),y=Yf (qCNb l x)->y=v)):=by kernel_rfl
mutual
theorem Zfn:∀(n:Int) (x:Ex),1<=szW n x
 |n,.mk _ _ _ _ _ _ l=>by
  rw [szW]
  split
  · decide
  · exact Zoi (n+1) 1 l
theorem Zoi:∀(n a:Int) (l:List Ex),a<=szWL n a l
 |n,a,[]=>by rw [szWL];omega
 |n,a,x::r=>by
  rw [szWL]
  split
  · have:=Zfn n x
    have:=Zoi n (a+szW n x) r
    omega
  · omega
end
mutual
theorem Zoj:∀(n:Int) (x:Ex),n<=61->szW n x<=401+400*(61-n)
 |n,.mk _ _ _ _ _ _ l,hn=>by
  rw [szW]
  split
  · omega
  · have:=Zqt (n+1) 1 l (by omega) (by omega)
    omega
theorem Zqt:∀(n a:Int) (l:List Ex),n<=61->a<=801+400*(61-n)->szWL n a l<=801+400*(61-n)
 |n,a,[],_,h=>by rw [szWL];omega
 |n,a,x::r,hn,h=>by
  rw [szWL]
  split
  · have:=Zoj n x hn
    exact Zqt n (a+szW n x) r hn (by omega)
  · omega
end
mutual
theorem Z3b:∀(n:Int) (x:Ex),szW n x<=400->szW n x=(x.sz:Int)
 |n,.mk _ _ _ _ _ _ l,h=>by
  rw [szW] at h⊢
  split at h
  · omega
  · rename_i hq
    rw [if_neg hq,Zx6 (n+1) 1 l (by decide) h,Ex.sz]
    omega
theorem Zx6:∀(n a:Int) (l:List Ex),0<=a->szWL n a l<=400->szWL n a l=a+(Ex.szL l:Int)
 |n,a,[],_,_=>by rw [szWL,Ex.szL];omega
 |n,a,x::r,ha,h=>by
  rw [szWL] at h⊢
  split at h
  · rename_i hq
    have h1:=Zfn n x
    have h2:=Zoi n (a+szW n x) r
    have h3:=Z3b n x (by omega)
    rw [if_pos hq,Zx6 n (a+szW n x) r (by omega) h,Ex.szL]
    omega
  · rename_i hq
    omega
end
theorem Zld {n a:Int} {l:List Ex} {k:Nat} {y:Ex} (h:l[k]? =some y):szWL n a (l.drop k)=if a<=400 then szWL n (a+szW n y) (l.drop (k+1)) else a:=by rw [Vn h,szWL]
theorem Z6h:∀(m:Nat) (n:Int) (x:Ex),62<=n+m->1<=n->n<=61->PureC E 20 [exA x,.int false .i64 n] (.int false .i64 (szW n x)):=by
 intro m
 induction m with
 |zero=>intro n x h;omega
 |succ m ih=>
  intro n x hm h1 h61
  have hF:FnsOk E (Fszw m):=Zv E_ok (Zb F0_ok (Z4 E_ok (Zc (f:=20) rfl) fun x h=>ih x.2.1 x.1 h.1 h.2.1 h.2.2)) _ _ _
  refine Za E_ok (Xv E_ok F0_ok fun f N c=>(Zh2 E_ok hF 400 f N c).1) ?_
  rw [Z1w];delta qCN1 qCN2 qCN3
  simp only [Z5,Zw,Xw,Xx,Xy,beq_iff_eq,bne_iff_ne,beq_eq_false_iff_ne,bne_eq_false_iff_eq,decide_eq_true_eq,decide_eq_false_iff_not,Bool.or_eq_true,Bool.or_eq_false_iff,Bool.not_eq_true',Bool.not_eq_false',Bool.and_eq_true,Bool.and_true,Bool.true_and,Bool.and_eq_false_iff,beq_self_eq_true,Yt,Yk,ne_eq,and_true,true_and,Bool.true_eq_false,Bool.false_eq_true,false_or,or_false,true_implies,imp_self,Int.ofNat_eq_natCast,not_true_eq_false,not_false_eq_true,Decidable.not_not,Ex.eta,forall_eq]
  by_cases h:n>60\/(x.l.length:Int)>400
  · exact ⟨fun b=>b=true,⟨fun _=>rfl,fun h1=>⟨fun _=>rfl,fun h2=>absurd h (by omega)⟩⟩,fun _=>by rw [Z3a,if_pos h],fun h=>by simp at h⟩
  · refine ⟨fun b=>b=false,⟨fun h1=>absurd h (by omega),fun _=>⟨fun h2=>absurd h (by omega),fun _=>rfl⟩⟩,fun h=>by simp at h,fun _=> ?_⟩
    rw [Z3a,if_neg h]
    refine ⟨fun y=>y.k<=x.l.length/\1<=y.j/\y.j<=801+400*(60-n)/\szWL (n+1) y.j (x.l.drop y.k)=szWL (n+1) 1 x.l/\y.r=x.l.length-y.k,⟨⟨0,x.l.length,[],[],0,0,0,1⟩,⟨(by dsimp only;omega),(by dsimp only;omega),(by dsimp only;omega),rfl,rfl⟩,rfl,rfl⟩,?_⟩
    rintro ⟨k,r,D,H,nn,mm,fz,j⟩ ⟨k1,k2,k3,k4,k5⟩
    simp only at k1 k2 k3 k4 k5⊢
    have hw:wr IntKind.i64 (n+1)=n+1:=wr64 (by omega) (by omega)
    rw [hw]
    refine ⟨fun b=>b=true↔(k<x.l.length/\j<=400),⟨fun h3=>⟨fun h4=>by simp;omega,fun h4=>by simp;omega⟩,fun h3=>by simp;omega⟩,fun hq=> ?_,fun hq=> ?_⟩
    · have hq:=hq.1 rfl
      refine ⟨by omega,by omega,fun z hz=> ?_⟩
      have hz:x.l[k]? =some z:=hz
      have b1:=Zfn (n+1) z
      have b2:=Zoj (n+1) z (by omega)
      rw [Zld hz,if_pos hq.2] at k4
      refine ⟨⟨by omega,by omega,by omega⟩,⟨k+1,x.l.length-(k+1),[],[],0,0,0,j+szW (n+1) z⟩,⟨(by dsimp only;omega),(by dsimp only;omega),(by dsimp only;omega),k4,rfl⟩,(by dsimp only;omega),wr64 (by omega) (by omega),(wr64 (by omega) (by omega)).trans (by dsimp only;omega)⟩
    · have hq:¬(k<x.l.length/\j<=400):=fun h=>by have:=hq.2 h;simp at this
      rcases Nat.lt_or_ge k x.l.length with hk|hk
      · rw [Zld (List.getElem?_eq_getElem hk),if_neg (by omega)] at k4
        exact k4
      · rw [Wv hk,szWL] at k4
        exact k4
def Zfo:Int->List Cls->Bool
 |a,[]=>decide (a<=400)
 |a,c::r=>if (c.when_.length:Int)>400 then false else Zfo (a+c.when_.length+szW 1 c.pay) r
def fewT (t:Tar):Bool:=if (t.clauses.length:Int)>80 then false else Zfo 0 t.clauses
theorem Ztf {a:Int} {l:List Cls} {k:Nat} {c:Cls} (h:l[k]? =some c):Zfo a (l.drop k)=if (c.when_.length:Int)>400 then false else Zfo (a+c.when_.length+szW 1 c.pay) (l.drop (k+1)):=by rw [Vn h,Zfo]
theorem Zqu:∀{l:List Cls} {a:Int},0<=a->Zfo a l=true->a<=400/\∀c∈l,c.pay.sz<=400/\c.when_.length<=400
 | [],a,_,h=>by simpa [Zfo] using h
 |c::r,a,ha,h=>by
  rw [Zfo] at h
  split at h
  · cases h
  · have p:=Zfn 1 c.pay
    obtain ⟨h1,h2⟩:=Zqu (by omega) h
    have h3:=Z3b 1 c.pay (by omega)
    refine ⟨by omega,fun x hx=> ?_⟩
    rcases List.mem_cons.1 hx with rfl|hx
    · exact ⟨by omega,by omega⟩
    · exact h2 x hx
theorem Z6i {t:Tar} (h:fewT t=true):(∀c∈t.clauses,c.pay.sz<=400/\c.when_.length<=400)/\t.clauses.length<=80:=by
 unfold fewT at h
 split at h
 · cases h
 · exact ⟨(Zqu (by decide) h).2,by omega⟩
theorem Z9s {t:Tar} (h:fewT t=true):SmT t:=by
 obtain ⟨h1,h2⟩:=Z6i h
 exact ⟨fun c hc=>⟨by have:=(h1 c hc).1;omega,by have:=(h1 c hc).2;omega⟩,by omega⟩
theorem SmT.one {t:Tar} (h:SmT t):SmT1 t:=⟨fun c hc=>⟨by have:=(h.1 c hc).1;omega,(h.1 c hc).2⟩,h.2⟩
theorem Z6j (t:Tar):PureC E 14 [.agg (encF false .tariffs t)] (.bool false (fewT t)):=by
 have hF:FnsOk E Ffw:=Zv E_ok (Zb F0_ok (Z4 E_ok (Zc (f:=20) rfl) fun x h=>Z6h 61 x.2.1 x.1 h.1 h.2.1 h.2.2)) _ _ _
 refine Za E_ok (Zg E_ok hF 400) ?_
 rw [Z6f];delta qCN4 qCN5 qCN6
 simp only [Z5,Zw,Xw,Xx,Xy,beq_iff_eq,bne_iff_ne,beq_eq_false_iff_ne,bne_eq_false_iff_eq,decide_eq_true_eq,decide_eq_false_iff_not,Bool.or_eq_true,Bool.or_eq_false_iff,Bool.not_eq_true',Bool.not_eq_false',Bool.and_eq_true,Bool.and_true,Bool.true_and,Bool.and_eq_false_iff,beq_self_eq_true,Yt,Yk,ne_eq,and_true,true_and,Bool.true_eq_false,Bool.false_eq_true,false_or,or_false,true_implies,imp_self,Int.ofNat_eq_natCast,not_true_eq_false,not_false_eq_true,Decidable.not_not,Ex.eta,forall_eq]
 unfold fewT
 refine ⟨fun h=>by rw [if_pos h],fun h=> ?_⟩
 rw [if_neg h]
 refine ⟨fun y=>y.k<=t.clauses.length/\0<=y.j/\y.j<=30000*y.k/\Zfo y.j (t.clauses.drop y.k)=Zfo 0 t.clauses/\y.r=t.clauses.length-y.k,⟨⟨0,t.clauses.length,[],[],0,0,0,0⟩,⟨(by dsimp only;omega),(by dsimp only;omega),(by dsimp only;omega),rfl,rfl⟩,rfl,rfl⟩,?_⟩
 rintro ⟨k,r,D,H,nn,mm,fz,j⟩ ⟨k1,k2,k3,k4,k5⟩
 simp only at k1 k2 k3 k4 k5⊢
 refine And.intro (fun hq=>⟨by omega,by omega,fun c hc=> ?_⟩) (fun hq=> ?_)
 · have hc:t.clauses[k]? =some c:=hc
   rw [Ztf hc] at k4
   refine ⟨fun h2=> ?_,fun h2=>⟨by omega,by omega,fun c2 hc2=> ?_⟩⟩
   · rw [if_pos h2] at k4;exact k4
   · have hc2:t.clauses[k]? =some c2:=hc2
     rw [hc] at hc2;cases hc2
     refine ⟨by omega,by omega,fun c3 hc3=> ?_⟩
     have hc3:t.clauses[k]? =some c3:=hc3
     rw [hc] at hc3;cases hc3
     have b1:=Zfn 1 c.pay
     have b2:=Zoj 1 c.pay (by decide)
     rw [if_neg h2] at k4
     rw [wr64 (n:=j+(c.when_.length:Int)) (by omega) (by omega)]
     exact ⟨⟨by decide,by decide,by decide⟩,⟨k+1,t.clauses.length-(k+1),[],[],0,0,0,j+c.when_.length+szW 1 c.pay⟩,⟨(by dsimp only;omega),(by dsimp only;omega),(by dsimp only;omega),k4,rfl⟩,(by dsimp only;omega),wr64 (by omega) (by omega),(wr64 (by omega) (by omega)).trans (by dsimp only;omega)⟩
 · rw [Wv (by omega),Zfo] at k4
   rw [<-k4]
   exact ⟨fun h=>by simpa using h,fun h=>by simpa using h⟩
theorem Z6k (l:List Tok) (h1:l.length<=1000000000) (h2:(Yf (l.map Tok.text)).length<=1000000000):PureC E 27 [.psl Th.toks l false] (.str false (Yf (l.map Tok.text))):=by
 have hF:FnsOk E Ftx:=Zv E_ok (Zb F0_ok Zop) _ _ _
 refine Za E_ok (Zg E_ok hF 400) ?_
 rw [Z6g];delta qCN7 qCN8 qCN9 qCNa qCNb
 simp only [Z5,Zw,Xw,Xx,Xy,beq_iff_eq,bne_iff_ne,beq_eq_false_iff_ne,bne_eq_false_iff_eq,decide_eq_true_eq,decide_eq_false_iff_not,Bool.or_eq_true,Bool.or_eq_false_iff,Bool.not_eq_true',Bool.not_eq_false',Bool.and_eq_true,Bool.and_true,Bool.true_and,Bool.and_eq_false_iff,beq_self_eq_true,Yt,Yk,ne_eq,and_true,true_and,Bool.true_eq_false,Bool.false_eq_true,false_or,or_false,true_implies,imp_self,Int.ofNat_eq_natCast,not_true_eq_false,not_false_eq_true,Decidable.not_not,Int.toNat_natCast,Nat.zero_add,List.drop_zero,forall_eq]
 refine ⟨by omega,by omega,by omega,fun y=>y.k<=l.length/\y.L=(l.take y.k).map Tok.text++List.replicate (l.length-y.k) []/\y.r=l.length-y.k,⟨⟨0,l.length,List.replicate l.length []⟩,⟨(by dsimp only;omega),rfl,rfl⟩,rfl,rfl⟩,?_⟩
 rintro ⟨k,r,L⟩ ⟨k1,k2,k3⟩
 simp only at k1 k2 k3⊢
 have hL:L.length=l.length:=by rw [k2];simp;omega
 refine And.intro (fun hq=>⟨by omega,by omega,fun z hz=>⟨⟨by omega,by omega⟩,by omega,by omega,fun y hy=> ?_⟩⟩) (fun hq=> ?_)
 · have hq:k<l.length:=by omega
   have hz:l[k]? =some z:=hz
   refine ⟨⟨k+1,l.length-(k+1),L.set k z.text⟩,⟨hq,?_,rfl⟩,(by dsimp only;omega),(wr64 (by omega) (by omega)).trans (by dsimp only;omega),rfl⟩
   have e1:((l.take k).map Tok.text).length=k:=by simp;omega
   have e2:l.length-k=(l.length-(k+1))+1:=by omega
   show L.set k z.text=(l.take (k+1)).map Tok.text++List.replicate (l.length-(k+1)) []
   rw [k2,List.take_add_one,hz,e2,List.replicate_succ,List.set_append_right _ _ (by omega),e1,Nat.sub_self]
   simp
 · have ek:k=l.length:=by omega
   have e:L=l.map Tok.text:=by rw [k2,ek];simp
   rw [List.take_of_length_le (by omega),e]
   refine ⟨by rw [List.length_map];exact Nat.le_refl _,⟨by rw [List.length_map];exact h1,h2⟩,rfl⟩
end
section
open Go
noncomputable def Z31:DcL E (Tar×Unit):= .cons (dR .tariffs) .nil
noncomputable def Yae:DcL E (Tar×Tar×Unit):= .cons (dR .tariffs) (.cons (dR .tariffs) .nil)
def Z7d:List (SV thy)->Option (SV thy)
 | []=>some (.bool true true)
 |_=>none
noncomputable def Z7e:Sum thy:=sumO Z7d
noncomputable def Sfew:Sum thy:=Ztg E (fun _=>none) 10 Z31 (fun _=>True) (fun x=>fewT x.1) fun y=> .bool false y
noncomputable def Srs:Sum thy:=Ztg E (fun _=>none) 10 Yae (fun x=>SmT1 x.1) (fun x=>eqE x.1 x.2.1) fun y=> .bool false y
noncomputable def Z7f:Sum thy:=Vq (dA1 dS) (fun _=>True) (fun x=>X9 x.1) fun y=>parV false y
noncomputable def Z7g:Sum thy:=Ztg E (fun _=>none) 10 Z31 (fun x=>SmT x.1) (fun x=>Wk x.1) fun y=> .tup [.str false y.1,.int false .i64 y.2]
noncomputable def Schk:Sum thy:=Ztg E (fun _=>none) 10 Z31 (fun x=>SmT x.1) (fun x=>Y1 x.1) fun y=> .int false .i64 y
noncomputable def Yaf:Sum thy:=Vq (dA1 Z9m) (fun x=>x.1.length<=1000000000/\(Yf (x.1.map Tok.text)).length<=1000000000) (fun x=>Yf (x.1.map Tok.text)) fun y=> .str false y
theorem SmT.chk {t:Tar} (h:SmT t):PureC E 17 [.agg (encF false .tariffs t)] (.int false .i64 (Y1 t)):=
 Zf6 t (fun c hc=>⟨by have:=(h.1 c hc).1;omega,by have:=(h.1 c hc).2;omega⟩) (by have:=h.2;omega)
noncomputable def Flw:Fns thy:=Zw3 (addS (addS (addS (addS (addS (addS (addS (addS (addS F0 10 Z7e) 14 Sfew) 13 Srs) 19 Srs) 11 Z7f) 15 Z7g) 17 Schk) 25 Zm3) 27 Yaf)
theorem Zy4:SumOk E 10 Z7e:=Zee E_ok (Zc rfl) fun args v h=>by
 unfold Z7d at h
 split at h
 · cases h;exact Zw6
 · cases h
theorem Z2d:FnsOk E Flw:=Zkw (Zb (Zb (Zb (Zb (Zb (Zb (Zb (Zb (Zb F0_ok Zy4) (Zb7 E_ok (Zc rfl) fun x _=>Z6j x.1)) (Zb7 E_ok (Zc rfl) fun x h=>Z6t x.1 x.2.1 h)) (Zb7 E_ok (Zc rfl) fun x h=>Z11 x.1 x.2.1 h)) (Z4 E_ok (Zc rfl) fun x _=>Zgs x.1)) (Zb7 E_ok (Zc rfl) fun x h=>Zq1 x.1 h)) (Zb7 E_ok (Zc rfl) fun x h=>SmT.chk h)) Zgr) (Z4 E_ok (Zc rfl) fun x h=>Z6k x.1 h.1 h.2))
abbrev qCO4:=(1000000000:Nat)
abbrev qCO1 (a0:Tar):=((∀(c:Cls),c∈Tar.clauses a0->Ex.sz (Cls.pay c)+(1:Nat)<=qCO4/\List.length (Cls.when_ c)+(1:Nat)<=qCO4)/\List.length (Tar.clauses a0)+(1:Nat)<=qCO4)
abbrev qCO2 (a0:Tar):=((∀(c:Cls),c∈Tar.clauses a0->Ex.sz (Cls.pay c)<=(10000:Nat)/\List.length (Cls.when_ c)+(1:Nat)<=qCO4)/\List.length (Tar.clauses a0)+(1:Nat)<=qCO4)
abbrev qCO3 (a0:List Nat×Int):=(Prod.fst a0==toL (ByteArray.mk #[]))
theorem Z32 (t:Tar) (v:Bool):Zk E Flw (vc E Flw 400) 5 [.agg (encF false .tariffs t)] hp0 0 (fun r=>ret E (patch hp0 0 r) r.v (.bool false v))=(
 True/\∀(y:Bool),y=fewT t->((!y)=true->true=v)/\((!y)=false->(qCO2 t)/\∀(y:Int),y=Y1 t->(qCO2 t)/\∀(y_1:List Nat×Int),y_1=Wk t->((y !=(0:Int))=true->((Prod.snd y_1==y)=true->((qCO3 y_1)=true->true=v)/\((qCO3 y_1)=false->false=v))/\((Prod.snd y_1==y)=false->false=v))/\((y !=(0:Int))=false->((Prod.snd y_1 !=(0:Int))=true->((Prod.snd y_1==(2:Int))=true->((qCO3 y_1)=true->true=v)/\((qCO3 y_1)=false->false=v))/\((Prod.snd y_1==(2:Int))=false->false=v))/\((Prod.snd y_1 !=(0:Int))=false->True/\∀(y:Tar×Int×Int),y=X9 (Prod.fst y_1)->((Prod.snd (Prod.snd y)==(0:Int))=true->((Prod.fst (Prod.snd y)==(0:Int))=true->(qCO1 t)/\∀(y_2:Bool),y_2=eqE t (Prod.fst y)->(y_2=true->(qCO1 t)/\∀(y_3:Bool),y_3=eqE t (Prod.fst y)->(y_3=true->(decide ((↑(List.length (Prod.fst y_1)):Int)<=(2000:Int))=true->true=v)/\(decide ((↑(List.length (Prod.fst y_1)):Int)<=(2000:Int))=false->false=v))/\(y_3=false->false=v))/\(y_2=false->false=v))/\((Prod.fst (Prod.snd y)==(0:Int))=false->false=v))/\((Prod.snd (Prod.snd y)==(0:Int))=false->false=v))))):=by kernel_rfl
abbrev qCO6:=(1000000000:Nat)
abbrev qCO5 (a0:Tar):=((∀(c:Cls),c∈Tar.clauses a0->Ex.sz (Cls.pay c)<=(10000:Nat)/\List.length (Cls.when_ c)+(1:Nat)<=qCO6)/\List.length (Tar.clauses a0)+(1:Nat)<=qCO6)
abbrev qCO7:=(0:Int)
theorem Z33 (t:Tar) (n:Int) (v:Bool):Zk E Flw (vc E Flw 400) 9 [.agg (encF false .tariffs t),.int false .i64 n] hp0 0 (fun r=>ret E (patch hp0 0 r) r.v (.bool false v))=(
 True/\∀(y:Bool),y=fewT t->((!y)=true->true=v)/\((!y)=false->(qCO5 t)/\∀(y:List Nat×Int),y=Wk t->((Prod.snd y !=qCO7)=true->(qCO5 t)/\∀(y_1:Int),y_1=Y1 t->((y_1 !=qCO7)=true->true=v)/\((y_1 !=qCO7)=false->((Prod.snd y==(2:Int))=true->true=v)/\((Prod.snd y==(2:Int))=false->false=v)))/\((Prod.snd y !=qCO7)=false->True/\∀(y_1:List Tok×Int×Int),y_1=Yn (Prod.fst y)->((Prod.snd (Prod.snd y_1) !=qCO7)=true->false=v)/\((Prod.snd (Prod.snd y_1) !=qCO7)=false->((Prod.fst (Prod.snd y_1) !=qCO7)=true->false=v)/\((Prod.fst (Prod.snd y_1) !=qCO7)=false->(List.length (Prod.fst y_1)<=qCO6/\List.length (Yf (List.map Tok.text (Prod.fst y_1)))<=qCO6)/\∀(y_2:List Nat),y_2=Yf (List.map Tok.text (Prod.fst y_1))->((!y_2==Prod.fst y)=true->false=v)/\((!y_2==Prod.fst y)=false->∃(Q:Bool->Prop),((decide (n<qCO7)=true->Q true)/\(decide (n<qCO7)=false->(decide (n>=(↑(List.length (Prod.fst y_1)):Int))=true->Q true)/\(decide (n>=(↑(List.length (Prod.fst y_1)):Int))=false->Q false)))/\(Q true->true=v)/\(Q false->qCO7<=n/\n+(1:Int)<=(↑(List.length (Prod.fst y_1)):Int)/\∀(x:Tok),(Prod.fst y_1)[Int.toNat n]? =some x->(qCO7<=Tok.at_ x/\Tok.at_ x<=(↑(List.length (Prod.fst y)):Int))/\True/\∀(y_3:Tar×Int×Int),y_3=X9 (List.take (Int.toNat (Tok.at_ x)) (Prod.fst y))->((Prod.snd (Prod.snd y_3)==(160:Int))=true->((Prod.fst (Prod.snd y_3)==(↑(List.length (List.take (Int.toNat (Tok.at_ x)) (Prod.fst y))):Int))=true->((∀(c:Cls),c∈Tar.clauses (Prod.fst y_3)->Ex.sz (Cls.pay c)+(1:Nat)<=qCO6/\List.length (Cls.when_ c)+(1:Nat)<=qCO6)/\List.length (Tar.clauses (Prod.fst y_3))+(1:Nat)<=qCO6)/\∀(y:Bool),y=eqE (Prod.fst y_3) (Tar.mk [] qCO7 [])->y=v)/\((Prod.fst (Prod.snd y_3)==(↑(List.length (List.take (Int.toNat (Tok.at_ x)) (Prod.fst y))):Int))=false->false=v))/\((Prod.snd (Prod.snd y_3)==(160:Int))=false->false=v)))))))):=by kernel_rfl
theorem Yag:SmT1 zT:=by
 refine And.intro (fun c hc=> ?_) ?_
 · cases hc
 · decide
theorem Yah (t:Tar):PureC E 5 [.agg (encF false .tariffs t)] (.bool false true):=by
 refine Za E_ok (Zg E_ok Z2d 400) ?_
 rw [Z32];delta qCO4 qCO1 qCO2 qCO3
 simp only [Z5,Zw,Xw,Xx,Xy,beq_iff_eq,bne_iff_ne,beq_eq_false_iff_ne,bne_eq_false_iff_eq,decide_eq_true_eq,decide_eq_false_iff_not,Bool.or_eq_true,Bool.or_eq_false_iff,Bool.not_eq_true',Bool.not_eq_false',Bool.and_eq_true,Bool.and_true,Bool.true_and,Bool.and_eq_false_iff,beq_self_eq_true,Yt,Yk,ne_eq,and_true,true_and,Bool.true_eq_false,Bool.false_eq_true,false_or,or_false,true_implies,imp_self,Int.ofNat_eq_natCast,not_true_eq_false,not_false_eq_true,Decidable.not_not,Cls.eta,forall_eq,eqE_iff,eqE_no]
 refine ⟨fun _=>trivial,fun hf=> ?_⟩
 have hs:=Z9s hf
 refine ⟨hs,hs,fun hc=> ?_,fun hc=> ?_⟩
 · rw [Zgf hc]
   exact ⟨fun _=>⟨fun _=>trivial,fun h=>absurd rfl h⟩,fun h=>absurd rfl h⟩
 · rcases Zei hc with ⟨h1,h2,h3⟩|h1
   · rw [h3,Zl1 hc h2]
     exact ⟨fun h=>absurd h1 h,fun _=>⟨fun _=>⟨fun _=>⟨hs.one,fun _=>⟨hs.one,fun _=>⟨fun _=>trivial,fun h=>absurd (by omega) h⟩,fun h=>absurd rfl h⟩,fun h=>absurd rfl h⟩,fun h=>absurd rfl h⟩,fun h=>absurd rfl h⟩⟩
   · rw [h1]
     exact ⟨fun _=>⟨fun _=>⟨fun _=>trivial,fun h=>absurd rfl h⟩,fun h=>absurd rfl h⟩,fun h=>by cases h⟩
theorem Z34 (t:Tar) (n:Int):PureC E 9 [.agg (encF false .tariffs t),.int false .i64 n] (.bool false true):=by
 refine Za E_ok (Zg E_ok Z2d 400) ?_
 rw [Z33];delta qCO6 qCO5 qCO7
 simp only [Z5,Zw,Xw,Xx,Xy,beq_iff_eq,bne_iff_ne,beq_eq_false_iff_ne,bne_eq_false_iff_eq,decide_eq_true_eq,decide_eq_false_iff_not,Bool.or_eq_true,Bool.or_eq_false_iff,Bool.not_eq_true',Bool.not_eq_false',Bool.and_eq_true,Bool.and_true,Bool.true_and,Bool.and_eq_false_iff,beq_self_eq_true,Yt,Yk,ne_eq,and_true,true_and,Bool.true_eq_false,Bool.false_eq_true,false_or,or_false,true_implies,imp_self,Int.ofNat_eq_natCast,not_true_eq_false,not_false_eq_true,Decidable.not_not,Cls.eta,forall_eq,eqE_iff,eqE_no]
 refine ⟨fun _=>trivial,fun hf=> ?_⟩
 have hs:=Z9s hf
 refine ⟨hs,fun he=>⟨hs,fun _=>trivial,fun hc=>⟨fun _=>trivial,fun h2=> ?_⟩⟩,fun he=> ?_⟩
 · rcases Zei hc with ⟨h1,_⟩|h1
   · exact he h1
   · exact h2 (by rw [h1])
 · obtain ⟨hc,hl,hp⟩:=Zuy he
   have hw:=Zdg hc
   have ht:Yn (Yf (Yv t))=(tkA 0 (Yv t),0,0):=Zkv (Zmz 0 hw) hl
   have hlen:=Ze7 (Yf (Yv t))
   rw [ht] at hlen
   have hlen:(tkA 0 (Yv t)).length<=2000:=hlen
   rw [hp]
   dsimp only
   rw [ht]
   dsimp only
   rw [Zpi 0 hw]
   refine ⟨fun h=>absurd rfl h,fun _=>⟨fun h=>absurd rfl h,fun _=>⟨⟨by omega,by omega⟩,fun h=>absurd rfl h,fun _=> ?_⟩⟩⟩
   refine ⟨fun b=>b=true↔(n<0\/n>=(tkA 0 (Yv t)).length),⟨fun h=>by simp;exact .inl h,fun h=>⟨fun h2=>by simp;exact .inr h2,fun h2=>by simp;omega⟩⟩,fun _=>trivial,fun hq=> ?_⟩
   have hq:¬(n<0\/n>=(tkA 0 (Yv t)).length):=fun h=>by have:=hq.2 h;cases this
   refine ⟨by omega,by omega,fun x hx=> ?_⟩
   have hn:n.toNat<(Yv t).length:=by rw [Zw2] at hq;omega
   have ha:=Zjy (Yv t) n.toNat 0 x hx
   have hsp:=Zar (Yv t) n.toNat hn
   have hat:x.at_=((Zbu ((Yv t).take n.toNat)).length:Int):=by rw [ha];omega
   have htk:List.take x.at_.toNat (Yf (Yv t))=Zbu ((Yv t).take n.toNat):=by
    rw [hat,Int.toNat_natCast,hsp,List.take_left]
   have hjl:=congrArg List.length hsp
   rw [List.length_append] at hjl
   rw [htk,Zl2 hc hl hn]
   exact ⟨⟨by omega,by omega⟩,fun _=>⟨fun _=>⟨Yag,rfl⟩,fun h=>absurd rfl h⟩,fun h=>absurd rfl h⟩
end
end Go.Proofs.YtbepgmadijomjaaGreatDoor
