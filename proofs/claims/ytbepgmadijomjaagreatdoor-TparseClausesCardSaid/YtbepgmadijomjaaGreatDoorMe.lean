/- Merged texts: TpIa, TpIb, EngZM, TpQ, TpPb, TpPc, TpR, TpPd, TpPe, TpPf, TpPg, TpS, TpT, TpW, TpX, TpZ0. -/
import Derived.Test.YtbepgmadijomjaaGreatDoorMd
namespace Go.Proofs.YtbepgmadijomjaaGreatDoor
set_option linter.unusedVariables false
set_option linter.unusedSimpArgs false
set_option linter.unnecessarySimpa false
set_option maxRecDepth 100000
section
open Go
def ndK (u:Int) (k:Res thy->Prop):List Int->Prop
 | []=>True
 |j::r=>((Lib.nDigits u.toNat:Int)=j->k (Zd [] (.int true .i64 j)))/\ndK u k r
noncomputable def Snd:Sum thy:=fun args _ _ k=>
 match args with
 | [.int _ .u64 u]=>(1<=u/\u<10000000000000)/\ndK u k [1,2,3,4,5,6,7,8,9,10,11,12,13]
 |_=>False
noncomputable def Z4z:Sum thy:=V6 (dA1 dN) (fun x=>0<=x.1/\x.1<100) (fun x=>(Lib.itoa x.1).map UInt8.toNat) fun y=> .str false y
noncomputable def Fit:Fns thy:=addS (addS F0 165 Snd) 164 Z4z
def smT:List Nat:=
 toL (ByteArray.mk (List.toArray (List.append (List.append [(48:UInt8),(48:UInt8),(48:UInt8),(49:UInt8),(48:UInt8),(50:UInt8),(48:UInt8),(51:UInt8),(48:
 UInt8),(52:UInt8),(48:UInt8),(53:UInt8),(48:UInt8),(54:UInt8),(48:UInt8),(55:UInt8),(48:UInt8),(56:UInt8),(48:UInt8),(57:UInt8),(49:UInt8),(48
 :UInt8),(49:UInt8),(49:UInt8),(49:UInt8),(50:UInt8),(49:UInt8),(51:UInt8),(49:UInt8),(52:UInt8),(49:UInt8),(53:UInt8),(49:UInt8),(54:UInt8),
 (49:UInt8),(55:UInt8),(49:UInt8),(56:UInt8),(49:UInt8),(57:UInt8),(50:UInt8),(48:UInt8),(50:UInt8),(49:UInt8),(50:UInt8),(50:UInt8),(50:
 UInt8),(51:UInt8),(50:UInt8),(52:UInt8)] [(50:UInt8),(53:UInt8),(50:UInt8),(54:UInt8),(50:UInt8),(55:UInt8),(50:UInt8),(56:UInt8),(50:UInt8),(57
 :UInt8),(51:UInt8),(48:UInt8),(51:UInt8),(49:UInt8),(51:UInt8),(50:UInt8),(51:UInt8),(51:UInt8),(51:UInt8),(52:UInt8),(51:UInt8),(53:UInt8),
 (51:UInt8),(54:UInt8),(51:UInt8),(55:UInt8),(51:UInt8),(56:UInt8),(51:UInt8),(57:UInt8),(52:UInt8),(48:UInt8),(52:UInt8),(49:UInt8),(52:
 UInt8),(50:UInt8),(52:UInt8),(51:UInt8),(52:UInt8),(52:UInt8),(52:UInt8),(53:UInt8),(52:UInt8),(54:UInt8),(52:UInt8),(55:UInt8),(52:UInt8),(56
 :UInt8),(52:UInt8),(57:UInt8)]) (List.append [(53:UInt8),(48:UInt8),(53:UInt8),(49:UInt8),(53:UInt8),(50:UInt8),(53:UInt8),(51:UInt8),(53:UInt8),
 (52:UInt8),(53:UInt8),(53:UInt8),(53:UInt8),(54:UInt8),(53:UInt8),(55:UInt8),(53:UInt8),(56:UInt8),(53:UInt8),(57:UInt8),(54:UInt8),(48:
 UInt8),(54:UInt8),(49:UInt8),(54:UInt8),(50:UInt8),(54:UInt8),(51:UInt8),(54:UInt8),(52:UInt8),(54:UInt8),(53:UInt8),(54:UInt8),(54:UInt8),(54
 :UInt8),(55:UInt8),(54:UInt8),(56:UInt8),(54:UInt8),(57:UInt8),(55:UInt8),(48:UInt8),(55:UInt8),(49:UInt8),(55:UInt8),(50:UInt8),(55:UInt8),
 (51:UInt8),(55:UInt8),(52:UInt8)] [(55:UInt8),(53:UInt8),(55:UInt8),(54:UInt8),(55:UInt8),(55:UInt8),(55:UInt8),(56:UInt8),(55:UInt8),(57:
 UInt8),(56:UInt8),(48:UInt8),(56:UInt8),(49:UInt8),(56:UInt8),(50:UInt8),(56:UInt8),(51:UInt8),(56:UInt8),(52:UInt8),(56:UInt8),(53:UInt8),(56
 :UInt8),(54:UInt8),(56:UInt8),(55:UInt8),(56:UInt8),(56:UInt8),(56:UInt8),(57:UInt8),(57:UInt8),(48:UInt8),(57:UInt8),(49:UInt8),(57:UInt8),
 (50:UInt8),(57:UInt8),(51:UInt8),(57:UInt8),(52:UInt8),(57:UInt8),(53:UInt8),(57:UInt8),(54:UInt8),(57:UInt8),(55:UInt8),(57:UInt8),(56:
 UInt8),(57:UInt8),(57:UInt8)]))))
abbrev qCAo:=(0:Int)
abbrev qCA3 (a0:Int):=(wr IntKind.u64 (qCAo-wr IntKind.u64 a0))
abbrev Zoh:=(100000000:Int)
abbrev qCA1 (a0:Int):=(wr IntKind.u32 (Int.tmod (qCA3 a0) Zoh))
abbrev qCA2 (a0:Int):=(wr IntKind.u32 (Int.tmod (wr IntKind.u64 a0) Zoh))
abbrev qCA4:=(10000:Int)
abbrev qCA5:=(↑(List.length smT):Int)
abbrev qCA6:=(100:Int)
abbrev qCA7 (a0:Int):=(wr IntKind.u32 (wr IntKind.u64 (Int.tdiv (wr IntKind.u64 a0) Zoh)))
abbrev qCA8:=(256:Nat)
abbrev qCAc:=(2:Int)
abbrev qCA9 (a0:Int):=(wr IntKind.u32 (Int.tdiv (wr IntKind.u32 (Int.tdiv (qCA1 a0) qCA4)) qCA6)*qCAc)
abbrev qCAa (a0:Int):=(wr IntKind.u32 (Int.tdiv (wr IntKind.u32 (Int.tdiv (qCA2 a0) qCA4)) qCA6)*qCAc)
abbrev qCAb (a0:Int):=(wr IntKind.u32 (wr IntKind.u64 (Int.tdiv (qCA3 a0) Zoh)))
abbrev qCAd:=(1:Int)
abbrev qCAe (a0:Int):=(wr IntKind.u32 (wr IntKind.u64 a0))
abbrev qCAf (a0:Int):=(wr IntKind.u32 (Int.tdiv (Int.tmod (qCA1 a0) qCA4) qCA6)*qCAc)
abbrev qCAg (a0:Int):=(Int.tmod (wr IntKind.u32 (Int.tdiv (qCA1 a0) qCA4)) qCA6*qCAc)
abbrev qCAh (a0:Int):=(wr IntKind.u32 (Int.tdiv (Int.tmod (qCA2 a0) qCA4) qCA6)*qCAc)
abbrev qCAi (a0:Int):=(Int.tmod (wr IntKind.u32 (Int.tdiv (qCA2 a0) qCA4)) qCA6*qCAc)
abbrev Zlx (a0:Int):=(wr IntKind.u32 (qCA3 a0))
abbrev qCAj (a0:Int):=(wr IntKind.u32 (Int.tdiv (Int.tmod (Zlx a0) qCA4) qCA6)*qCAc)
abbrev qCAk (a0:Int):=(Int.tmod (Int.tmod (qCA1 a0) qCA4) qCA6*qCAc)
abbrev qCAl (a0:Int):=(Int.tmod (Int.tmod (qCA2 a0) qCA4) qCA6*qCAc)
abbrev qCAm (a0:Int):=(Int.tmod (Int.tmod (Zlx a0) qCA4) qCA6*qCAc)
abbrev qCAn (a0:Int):=(wr IntKind.u32 (Int.tdiv (Int.tmod (qCAe a0) qCA4) qCA6)*qCAc)
abbrev qCAp (a0:Int):=(Int.tmod (Int.tmod (qCAe a0) qCA4) qCA6*qCAc)
abbrev qCAq (a0:Int):=(Int.tmod (wr IntKind.u32 (Int.tdiv (Zlx a0) qCA4)) qCA6*qCAc)
abbrev qCAr (a0:Nat):=(↑a0:Int)
abbrev qCAs (a0:Int):=(wr IntKind.u32 (Int.tdiv (Int.tmod (qCAb a0) qCA4) qCA6)*qCAc)
abbrev qCAt (a0:Int):=(Int.tmod (wr IntKind.u32 (Int.tdiv (qCAe a0) qCA4)) qCA6*qCAc)
abbrev qCAu (a0:Int):=(wr IntKind.u32 (Int.tdiv (Int.tmod (qCA7 a0) qCA4) qCA6)*qCAc)
abbrev qCAv (a0:Int):=(↑(Lib.nDigits (Int.toNat (wr IntKind.u64 a0))):Int)
abbrev qCAw (a0:Int):=(Int.tmod (Zlx a0) qCA6*qCAc)
abbrev qCAx (a0:Int):=(Int.tmod (Int.tmod (qCAb a0) qCA4) qCA6*qCAc)
abbrev qCAy (a0:Int):=(Int.tmod (Int.tmod (qCA7 a0) qCA4) qCA6*qCAc)
abbrev qCAz (a0:Int):=(↑(Lib.nDigits (Int.toNat (qCA3 a0))):Int)
abbrev Zcj (a0:Int):=(wr IntKind.u32 (qCAk a0)+qCAd)
abbrev Zck (a0:Int):=(wr IntKind.u32 (qCAf a0)+qCAd)
abbrev Zcl (a0:Int):=(wr IntKind.u32 (qCAg a0)+qCAd)
abbrev Zcm (a0:Int):=(wr IntKind.u32 (qCA9 a0)+qCAd)
abbrev Zcn (a0:Int):=(wr IntKind.u32 (qCAl a0)+qCAd)
abbrev Zco (a0:Int):=(wr IntKind.u32 (qCAh a0)+qCAd)
abbrev Zcp (a0:Int):=(wr IntKind.u32 (qCAi a0)+qCAd)
abbrev Zcq (a0:Int):=(wr IntKind.u32 (qCAa a0)+qCAd)
abbrev Zc8 (a0:Int):=(wr IntKind.u32 (qCAm a0)+qCAd)
abbrev Zc9 (a0:Int):=(wr IntKind.u32 (qCAj a0)+qCAd)
abbrev Zda (a0:Int):=(wr IntKind.u32 (qCAp a0)+qCAd)
abbrev Zdb (a0:Int):=(wr IntKind.u32 (qCAn a0)+qCAd)
abbrev Zly (a0:Int):=(Int.tmod (qCAb a0) qCA6*qCAc)
abbrev Zlz (a0:Int):=(Int.tmod (qCAe a0) qCA6*qCAc)
abbrev Zl0 (a0:Int):=(Int.tmod (qCA7 a0) qCA6*qCAc)
abbrev Zaw:=(48:Int)
abbrev Wh:=(45:Int)
abbrev Zoi (a0:Int):=(wr IntKind.u32 (Zly a0)+qCAd)
abbrev Zoj (a0:Int):=(wr IntKind.u32 (Zlz a0)+qCAd)
abbrev Zok (a0:Int):=(wr IntKind.u32 (Zl0 a0)+qCAd)
abbrev Zol (a0:Int):=(wr IntKind.u32 (qCAw a0)+qCAd)
abbrev Zom (a0:Int):=(wr IntKind.u32 (qCAq a0)+qCAd)
abbrev Zon (a0:Int):=(wr IntKind.u32 (qCAx a0)+qCAd)
abbrev Zoo (a0:Int):=(wr IntKind.u32 (qCAs a0)+qCAd)
abbrev Zop (a0:Int):=(wr IntKind.u32 (qCAt a0)+qCAd)
abbrev Zoq (a0:Int):=(wr IntKind.u32 (qCAy a0)+qCAd)
abbrev Zor (a0:Int):=(wr IntKind.u32 (qCAu a0)+qCAd)
abbrev Z7w (a0:Int):=(wr IntKind.u8 (wr IntKind.u32 (Zaw+wr IntKind.u32 (wr IntKind.u64 (Int.tdiv (wr IntKind.u64 a0) Zoh)))))
abbrev Z7x (a0:Int):=(wr IntKind.u8 (wr IntKind.u32 (Zaw+wr IntKind.u32 (Int.tdiv (wr IntKind.u32 (Int.tdiv (Zlx a0) qCA4)) qCA6))))
abbrev Z7y (a0:Int):=(wr IntKind.u8 (wr IntKind.u32 (Zaw+wr IntKind.u32 (Int.tdiv (wr IntKind.u32 (Int.tdiv (qCAe a0) qCA4)) qCA6))))
abbrev Z4 (a0:Int):=(a0<qCAo)
abbrev Z7z (a0:Int):=(wr IntKind.u8 (wr IntKind.u32 (Zaw+wr IntKind.u32 (wr IntKind.u64 (Int.tdiv (qCA3 a0) Zoh)))))
abbrev Zos (a0:Int):=(wr IntKind.u32 (Zcj a0))
abbrev Zot (a0:Int):=(wr IntKind.u32 (Zck a0))
abbrev Zou (a0:Int):=(wr IntKind.u32 (Zcl a0))
abbrev Zov (a0:Int):=(wr IntKind.u32 (Zcm a0))
abbrev Zow (a0:Int):=(wr IntKind.u32 (Zcn a0))
abbrev Zox (a0:Int):=(wr IntKind.u32 (Zco a0))
abbrev Zoy (a0:Int):=(wr IntKind.u32 (Zcp a0))
abbrev Zoz (a0:Int):=(wr IntKind.u32 (Zcq a0))
abbrev Z70 (a0:Int) (b0:Nat) (c0:Nat) (d0:Nat) (e0:Nat) (f0:Nat) (g0:Nat) (h0:List Nat):=(decide (Z4 a0)=true-> [Int.toNat Wh%qCA8,Int.toNat (qCAr b0)%qCA8,Int.toNat (qCAr c0)%qCA8,Int.toNat (qCAr d0)%qCA8,Int.toNat (qCAr e0)%qCA8,Int.toNat (qCAr f0)%qCA8,Int.toNat (qCAr g0)%qCA8]=h0)
abbrev Zo0 (a0:Int):=(wr IntKind.u32 (qCAk a0))
abbrev Zo1 (a0:Int):=(wr IntKind.u32 (qCAf a0))
abbrev Zo2 (a0:Int):=(wr IntKind.u32 (qCAg a0))
abbrev Zo3 (a0:Int):=(wr IntKind.u32 (qCA9 a0))
abbrev Zo4 (a0:Int):=(wr IntKind.u32 (qCAl a0))
abbrev Zo5 (a0:Int):=(wr IntKind.u32 (qCAh a0))
abbrev Zo6 (a0:Int):=(wr IntKind.u32 (qCAi a0))
abbrev Zo7 (a0:Int):=(wr IntKind.u32 (qCAa a0))
abbrev Z71 (a0:Int):=(wr IntKind.u8 (wr IntKind.u32 (Zaw+wr IntKind.u32 (Int.tdiv (Zlx a0) qCA6))))
abbrev Z72 (a0:Int):=(wr IntKind.u8 (wr IntKind.u32 (Zaw+wr IntKind.u32 (Int.tdiv (Zlx a0) qCA4))))
abbrev Z73 (a0:Int):=(wr IntKind.u8 (wr IntKind.u32 (Zaw+wr IntKind.u32 (Int.tdiv (qCAb a0) qCA6))))
abbrev Z74 (a0:Int):=(wr IntKind.u8 (wr IntKind.u32 (Zaw+wr IntKind.u32 (Int.tdiv (qCAb a0) qCA4))))
abbrev Z75 (a0:Int):=(wr IntKind.u8 (wr IntKind.u32 (Zaw+wr IntKind.u32 (Int.tdiv (qCAe a0) qCA6))))
abbrev Z76 (a0:Int):=(wr IntKind.u8 (wr IntKind.u32 (Zaw+wr IntKind.u32 (Int.tdiv (qCAe a0) qCA4))))
abbrev Z77 (a0:Int):=(wr IntKind.u8 (wr IntKind.u32 (Zaw+wr IntKind.u32 (Int.tdiv (qCA7 a0) qCA6))))
abbrev Z78 (a0:Int):=(wr IntKind.u8 (wr IntKind.u32 (Zaw+wr IntKind.u32 (Int.tdiv (qCA7 a0) qCA4))))
abbrev Z79 (a0:Int):=(wr IntKind.u8 (wr IntKind.u32 (Zaw+wr IntKind.u32 (wr IntKind.u64 a0))))
abbrev Z8a (a0:Int) (b0:Nat) (c0:Nat) (d0:Nat) (e0:Nat) (f0:List Nat):=(decide (Z4 a0)=true-> [Int.toNat Wh%qCA8,Int.toNat (qCAr b0)%qCA8,Int.toNat (qCAr c0)%qCA8,Int.toNat (qCAr d0)%qCA8,Int.toNat (qCAr e0)%qCA8]=f0)
abbrev Z8b (a0:Int) (b0:Nat) (c0:Nat) (d0:Nat) (e0:Nat) (f0:Nat) (g0:Nat) (h0:List Nat):=(decide (Z4 a0)=false-> [Int.toNat (qCAr b0)%qCA8,Int.toNat (qCAr c0)%qCA8,Int.toNat (qCAr d0)%qCA8,Int.toNat (qCAr e0)%qCA8,Int.toNat (qCAr f0)%qCA8,Int.toNat (qCAr g0)%qCA8]=h0)
theorem Zzb (n:Int) (v:List Nat):Zl E Fit (vc E Fit 2000) 117 [.int false .i64 n] hp0 0 (fun r=>ret E (patch hp0 0 r) r.v (.str false v))=(
 ∃(Q:Bool->Prop),((decide (qCAo<=n)=true->(decide (n<qCA6)=true->Q true)/\(decide (n<qCA6)=false->Q false))/\(decide (qCAo<=n)=false->Q false))/\(Q true->(qCAo<=n/\n+qCAd<=qCA6)/\∀(y:List Nat),y=List.map UInt8.toNat (Lib.itoa n)->y=v)/\(Q false->(decide (Z4 n)=true->(qCAd<=wr IntKind.u64 (qCAo-wr IntKind.u64 n)/\wr IntKind.u64 (qCAo-wr IntKind.u64 n)+qCAd<=(10000000000000:Int))/\((qCAz n)=qCAd->(decide (Z4 n)=true-> [Int.toNat Wh%qCA8,Int.toNat (wr IntKind.u8 (wr IntKind.u32 (Zaw+wr IntKind.u32 (qCA3 n))))%qCA8]=v)/\(decide (Z4 n)=false-> [Int.toNat (wr IntKind.u8 (wr IntKind.u32 (Zaw+wr IntKind.u32 (qCA3 n))))%qCA8]=v))/\((qCAz n)=qCAc->qCAo<=wr IntKind.u32 (Zol n)/\wr IntKind.u32 (Zol n)+qCAd<=qCA5/\∀(x:Nat),smT[Int.toNat (wr IntKind.u32 (Zol n))]? =some x->qCAo<=wr IntKind.u32 (qCAw n)/\wr IntKind.u32 (qCAw n)+qCAd<=qCA5/\∀(x_1:Nat),smT[Int.toNat (wr IntKind.u32 (qCAw n))]? =some x_1->(decide (Z4 n)=true-> [Int.toNat Wh%qCA8,Int.toNat (qCAr x_1)%qCA8,Int.toNat (qCAr x)%qCA8]=v)/\(decide (Z4 n)=false-> [Int.toNat (qCAr x_1)%qCA8,Int.toNat (qCAr x)%qCA8]=v))/\((qCAz n)=(3:Int)->qCAo<=wr IntKind.u32 (Zol n)/\wr IntKind.u32 (Zol n)+qCAd<=qCA5/\∀(x:Nat),smT[Int.toNat (wr IntKind.u32 (Zol n))]? =some x->qCAo<=wr IntKind.u32 (qCAw n)/\wr IntKind.u32 (qCAw n)+qCAd<=qCA5/\∀(x_1:Nat),smT[Int.toNat (wr IntKind.u32 (qCAw n))]? =some x_1->(decide (Z4 n)=true-> [Int.toNat Wh%qCA8,Int.toNat (Z71 n)%qCA8,Int.toNat (qCAr x_1)%qCA8,Int.toNat (qCAr x)%qCA8]=v)/\(decide (Z4 n)=false-> [Int.toNat (Z71 n)%qCA8,Int.toNat (qCAr x_1)%qCA8,Int.toNat (qCAr x)%qCA8]=v))/\((qCAz n)=(4:Int)->qCAo<=wr IntKind.u32 (Zc8 n)/\wr IntKind.u32 (Zc8 n)+qCAd<=qCA5/\∀(x:Nat),smT[Int.toNat (wr IntKind.u32 (Zc8 n))]? =some x->qCAo<=wr IntKind.u32 (qCAm n)/\wr IntKind.u32 (qCAm n)+qCAd<=qCA5/\∀(x_1:Nat),smT[Int.toNat (wr IntKind.u32 (qCAm n))]? =some x_1->qCAo<=wr IntKind.u32 (Zc9 n)/\wr IntKind.u32 (Zc9 n)+qCAd<=qCA5/\∀(x_2:Nat),smT[Int.toNat (wr IntKind.u32 (Zc9 n))]? =some x_2->qCAo<=wr IntKind.u32 (qCAj n)/\wr IntKind.u32 (qCAj n)+qCAd<=qCA5/\∀(x_3:Nat),smT[Int.toNat (wr IntKind.u32 (qCAj n))]? =some x_3->(Z8a n x_3 x_2 x_1 x v)/\(decide (Z4 n)=false-> [Int.toNat (qCAr x_3)%qCA8,Int.toNat (qCAr x_2)%qCA8,Int.toNat (qCAr x_1)%qCA8,Int.toNat (qCAr x)%qCA8]=v))/\((qCAz n)=(5:Int)->qCAo<=wr IntKind.u32 (Zc8 n)/\wr IntKind.u32 (Zc8 n)+qCAd<=qCA5/\∀(x:Nat),smT[Int.toNat (wr IntKind.u32 (Zc8 n))]? =some x->qCAo<=wr IntKind.u32 (qCAm n)/\wr IntKind.u32 (qCAm n)+qCAd<=qCA5/\∀(x_1:Nat),smT[Int.toNat (wr IntKind.u32 (qCAm n))]? =some x_1->qCAo<=wr IntKind.u32 (Zc9 n)/\wr IntKind.u32 (Zc9 n)+qCAd<=qCA5/\∀(x_2:Nat),smT[Int.toNat (wr IntKind.u32 (Zc9 n))]? =some x_2->qCAo<=wr IntKind.u32 (qCAj n)/\wr IntKind.u32 (qCAj n)+qCAd<=qCA5/\∀(x_3:Nat),smT[Int.toNat (wr IntKind.u32 (qCAj n))]? =some x_3->(decide (Z4 n)=true-> [Int.toNat Wh%qCA8,Int.toNat (Z72 n)%qCA8,Int.toNat (qCAr x_3)%qCA8,Int.toNat (qCAr x_2)%qCA8,Int.toNat (qCAr x_1)%qCA8,Int.toNat (qCAr x)%qCA8]=v)/\(decide (Z4 n)=false-> [Int.toNat (Z72 n)%qCA8,Int.toNat (qCAr x_3)%qCA8,Int.toNat (qCAr x_2)%qCA8,Int.toNat (qCAr x_1)%qCA8,Int.toNat (qCAr x)%qCA8]=v))/\((qCAz n)=(6:Int)->qCAo<=wr IntKind.u32 (Zc8 n)/\wr IntKind.u32 (Zc8 n)+qCAd<=qCA5/\∀(x:Nat),smT[Int.toNat (wr IntKind.u32 (Zc8 n))]? =some x->qCAo<=wr IntKind.u32 (qCAm n)/\wr IntKind.u32 (qCAm n)+qCAd<=qCA5/\∀(x_1:Nat),smT[Int.toNat (wr IntKind.u32 (qCAm n))]? =some x_1->qCAo<=wr IntKind.u32 (Zc9 n)/\wr IntKind.u32 (Zc9 n)+qCAd<=qCA5/\∀(x_2:Nat),smT[Int.toNat (wr IntKind.u32
(Zc9 n))]? =some x_2->qCAo<=wr IntKind.u32 (qCAj n)/\wr IntKind.u32 (qCAj n)+qCAd<=qCA5/\∀(x_3:Nat),smT[Int.toNat (wr IntKind.u32 (qCAj n))]? =some x_3->qCAo<=wr IntKind.u32 (Zom n)/\wr IntKind.u32 (Zom n)+qCAd<=qCA5/\∀(x_4:Nat),smT[Int.toNat (wr IntKind.u32 (Zom n))]? =some x_4->qCAo<=wr IntKind.u32 (qCAq n)/\wr IntKind.u32 (qCAq n)+qCAd<=qCA5/\∀(x_5:Nat),smT[Int.toNat (wr IntKind.u32 (qCAq n))]? =some x_5->(Z70 n x_5 x_4 x_3 x_2 x_1 x v)/\(Z8b n x_5 x_4 x_3 x_2 x_1 x v))/\((qCAz n)=(7:Int)->qCAo<=wr IntKind.u32 (Zc8 n)/\wr IntKind.u32 (Zc8 n)+qCAd<=qCA5/\∀(x:Nat),smT[Int.toNat (wr IntKind.u32 (Zc8 n))]? =some x->qCAo<=wr IntKind.u32 (qCAm n)/\wr IntKind.u32 (qCAm n)+qCAd<=qCA5/\∀(x_1:Nat),smT[Int.toNat (wr IntKind.u32 (qCAm n))]? =some x_1->qCAo<=wr IntKind.u32 (Zc9 n)/\wr IntKind.u32 (Zc9 n)+qCAd<=qCA5/\∀(x_2:Nat),smT[Int.toNat (wr IntKind.u32 (Zc9 n))]? =some x_2->qCAo<=wr IntKind.u32 (qCAj n)/\wr IntKind.u32 (qCAj n)+qCAd<=qCA5/\∀(x_3:Nat),smT[Int.toNat (wr IntKind.u32 (qCAj n))]? =some x_3->qCAo<=wr IntKind.u32 (Zom n)/\wr IntKind.u32 (Zom n)+qCAd<=qCA5/\∀(x_4:Nat),smT[Int.toNat (wr IntKind.u32 (Zom n))]? =some x_4->qCAo<=wr IntKind.u32 (qCAq n)/\wr IntKind.u32 (qCAq n)+qCAd<=qCA5/\∀(x_5:Nat),smT[Int.toNat (wr IntKind.u32 (qCAq n))]? =some x_5->(decide (Z4 n)=true-> [Int.toNat Wh%qCA8,Int.toNat (Z7x n)%qCA8,Int.toNat (qCAr x_5)%qCA8,Int.toNat (qCAr x_4)%qCA8,Int.toNat (qCAr x_3)%qCA8,Int.toNat (qCAr x_2)%qCA8,Int.toNat (qCAr x_1)%qCA8,Int.toNat (qCAr x)%qCA8]=v)/\(decide (Z4 n)=false-> [Int.toNat (Z7x n)%qCA8,Int.toNat (qCAr x_5)%qCA8,Int.toNat (qCAr x_4)%qCA8,Int.toNat (qCAr x_3)%qCA8,Int.toNat (qCAr x_2)%qCA8,Int.toNat (qCAr x_1)%qCA8,Int.toNat (qCAr x)%qCA8]=v))/\((qCAz n)=(8:Int)->qCAo<=wr IntKind.u32 (Zcj n)/\wr IntKind.u32 (Zcj n)+qCAd<=qCA5/\∀(x:Nat),smT[Int.toNat (Zos n)]? =some x->qCAo<=wr IntKind.u32 (qCAk n)/\wr IntKind.u32 (qCAk n)+qCAd<=qCA5/\∀(x_1:Nat),smT[Int.toNat (Zo0 n)]? =some x_1->qCAo<=wr IntKind.u32 (Zck n)/\wr IntKind.u32 (Zck n)+qCAd<=qCA5/\∀(x_2:Nat),smT[Int.toNat (Zot n)]? =some x_2->qCAo<=wr IntKind.u32 (qCAf n)/\wr IntKind.u32 (qCAf n)+qCAd<=qCA5/\∀(x_3:Nat),smT[Int.toNat (Zo1 n)]? =some x_3->qCAo<=wr IntKind.u32 (Zcl n)/\wr IntKind.u32 (Zcl n)+qCAd<=qCA5/\∀(x_4:Nat),smT[Int.toNat (Zou n)]? =some x_4->qCAo<=wr IntKind.u32 (qCAg n)/\wr IntKind.u32 (qCAg n)+qCAd<=qCA5/\∀(x_5:Nat),smT[Int.toNat (Zo2 n)]? =some x_5->qCAo<=wr IntKind.u32 (Zcm n)/\wr IntKind.u32 (Zcm n)+qCAd<=qCA5/\∀(x_6:Nat),smT[Int.toNat (Zov n)]? =some x_6->qCAo<=wr IntKind.u32 (qCA9 n)/\wr IntKind.u32 (qCA9 n)+qCAd<=qCA5/\∀(x_7:Nat),smT[Int.toNat (Zo3 n)]? =some x_7->(decide (Z4 n)=true-> [Int.toNat Wh%qCA8,Int.toNat (qCAr x_7)%qCA8,Int.toNat (qCAr x_6)%qCA8,Int.toNat (qCAr x_5)%qCA8,Int.toNat (qCAr x_4)%qCA8,Int.toNat (qCAr x_3)%qCA8,Int.toNat (qCAr x_2)%qCA8,Int.toNat (qCAr x_1)%qCA8,Int.toNat (qCAr x)%qCA8]=v)/\(decide (Z4 n)=false-> [Int.toNat (qCAr x_7)%qCA8,Int.toNat (qCAr x_6)%qCA8,Int.toNat (qCAr x_5)%qCA8,Int.toNat (qCAr x_4)%qCA8,Int.toNat (qCAr x_3)%qCA8,Int.toNat (qCAr x_2)%qCA8,Int.toNat (qCAr x_1)%qCA8,Int.toNat (qCAr x)%qCA8]=v))/\((qCAz n)=(9:Int)->qCAo<=wr IntKind.u32 (Zcj n)/\wr IntKind.u32 (Zcj n)+qCAd<=qCA5/\∀(x:Nat),smT[Int.toNat (Zos n)]? =some x->qCAo<=wr IntKind.u32 (qCAk n)/\wr IntKind.u32 (qCAk n)+qCAd<=qCA5/\∀(x_1:Nat),smT[Int.toNat (Zo0 n)]? =some x_1->qCAo<=wr IntKind.u32 (Zck n)/\wr IntKind.u32 (Zck n)+qCAd<=qCA5/\∀(x_2:Nat),smT[Int.toNat (Zot n)]? =some x_2->qCAo<=wr IntKind.u32 (qCAf n)/\wr IntKind.u32 (qCAf n)+qCAd<=qCA5/\∀(x_3:
Nat),smT[Int.toNat (Zo1 n)]? =some x_3->qCAo<=wr IntKind.u32 (Zcl n)/\wr IntKind.u32 (Zcl n)+qCAd<=qCA5/\∀(x_4:Nat),smT[Int.toNat (Zou n)]? =some x_4->qCAo<=wr IntKind.u32 (qCAg n)/\wr IntKind.u32 (qCAg n)+qCAd<=qCA5/\∀(x_5:Nat),smT[Int.toNat (Zo2 n)]? =some x_5->qCAo<=wr IntKind.u32 (Zcm n)/\wr IntKind.u32 (Zcm n)+qCAd<=qCA5/\∀(x_6:Nat),smT[Int.toNat (Zov n)]? =some x_6->qCAo<=wr IntKind.u32 (qCA9 n)/\wr IntKind.u32 (qCA9 n)+qCAd<=qCA5/\∀(x_7:Nat),smT[Int.toNat (Zo3 n)]? =some x_7->(decide (Z4 n)=true-> [Int.toNat Wh%qCA8,Int.toNat (Z7z n)%qCA8,Int.toNat (qCAr x_7)%qCA8,Int.toNat (qCAr x_6)%qCA8,Int.toNat (qCAr x_5)%qCA8,Int.toNat (qCAr x_4)%qCA8,Int.toNat (qCAr x_3)%qCA8,Int.toNat (qCAr x_2)%qCA8,Int.toNat (qCAr x_1)%qCA8,Int.toNat (qCAr x)%qCA8]=v)/\(decide (Z4 n)=false-> [Int.toNat (Z7z n)%qCA8,Int.toNat (qCAr x_7)%qCA8,Int.toNat (qCAr x_6)%qCA8,Int.toNat (qCAr x_5)%qCA8,Int.toNat (qCAr x_4)%qCA8,Int.toNat (qCAr x_3)%qCA8,Int.toNat (qCAr x_2)%qCA8,Int.toNat (qCAr x_1)%qCA8,Int.toNat (qCAr x)%qCA8]=v))/\((qCAz n)=(10:Int)->qCAo<=wr IntKind.u32 (Zcj n)/\wr IntKind.u32 (Zcj n)+qCAd<=qCA5/\∀(x:Nat),smT[Int.toNat (Zos n)]? =some x->qCAo<=wr IntKind.u32 (qCAk n)/\wr IntKind.u32 (qCAk n)+qCAd<=qCA5/\∀(x_1:Nat),smT[Int.toNat (Zo0 n)]? =some x_1->qCAo<=wr IntKind.u32 (Zck n)/\wr IntKind.u32 (Zck n)+qCAd<=qCA5/\∀(x_2:Nat),smT[Int.toNat (Zot n)]? =some x_2->qCAo<=wr IntKind.u32 (qCAf n)/\wr IntKind.u32 (qCAf n)+qCAd<=qCA5/\∀(x_3:Nat),smT[Int.toNat (Zo1 n)]? =some x_3->qCAo<=wr IntKind.u32 (Zcl n)/\wr IntKind.u32 (Zcl n)+qCAd<=qCA5/\∀(x_4:Nat),smT[Int.toNat (Zou n)]? =some x_4->qCAo<=wr IntKind.u32 (qCAg n)/\wr IntKind.u32 (qCAg n)+qCAd<=qCA5/\∀(x_5:Nat),smT[Int.toNat (Zo2 n)]? =some x_5->qCAo<=wr IntKind.u32 (Zcm n)/\wr IntKind.u32 (Zcm n)+qCAd<=qCA5/\∀(x_6:Nat),smT[Int.toNat (Zov n)]? =some x_6->qCAo<=wr IntKind.u32 (qCA9 n)/\wr IntKind.u32 (qCA9 n)+qCAd<=qCA5/\∀(x_7:Nat),smT[Int.toNat (Zo3 n)]? =some x_7->qCAo<=wr IntKind.u32 (Zoi n)/\wr IntKind.u32 (Zoi n)+qCAd<=qCA5/\∀(x_8:Nat),smT[Int.toNat (wr IntKind.u32 (Zoi n))]? =some x_8->qCAo<=wr IntKind.u32 (Zly n)/\wr IntKind.u32 (Zly n)+qCAd<=qCA5/\∀(x_9:Nat),smT[Int.toNat (wr IntKind.u32 (Zly n))]? =some x_9->(decide (Z4 n)=true-> [Int.toNat Wh%qCA8,Int.toNat (qCAr x_9)%qCA8,Int.toNat (qCAr x_8)%qCA8,Int.toNat (qCAr x_7)%qCA8,Int.toNat (qCAr x_6)%qCA8,Int.toNat (qCAr x_5)%qCA8,Int.toNat (qCAr x_4)%qCA8,Int.toNat (qCAr x_3)%qCA8,Int.toNat (qCAr x_2)%qCA8,Int.toNat (qCAr x_1)%qCA8,Int.toNat (qCAr x)%qCA8]=v)/\(decide (Z4 n)=false-> [Int.toNat (qCAr x_9)%qCA8,Int.toNat (qCAr x_8)%qCA8,Int.toNat (qCAr x_7)%qCA8,Int.toNat (qCAr x_6)%qCA8,Int.toNat (qCAr x_5)%qCA8,Int.toNat (qCAr x_4)%qCA8,Int.toNat (qCAr x_3)%qCA8,Int.toNat (qCAr x_2)%qCA8,Int.toNat (qCAr x_1)%qCA8,Int.toNat (qCAr x)%qCA8]=v))/\((qCAz n)=(11:Int)->qCAo<=wr IntKind.u32 (Zcj n)/\wr IntKind.u32 (Zcj n)+qCAd<=qCA5/\∀(x:Nat),smT[Int.toNat (Zos n)]? =some x->qCAo<=wr IntKind.u32 (qCAk n)/\wr IntKind.u32 (qCAk n)+qCAd<=qCA5/\∀(x_1:Nat),smT[Int.toNat (Zo0 n)]? =some x_1->qCAo<=wr IntKind.u32 (Zck n)/\wr IntKind.u32 (Zck n)+qCAd<=qCA5/\∀(x_2:Nat),smT[Int.toNat (Zot n)]? =some x_2->qCAo<=wr IntKind.u32 (qCAf n)/\wr IntKind.u32 (qCAf n)+qCAd<=qCA5/\∀(x_3:Nat),smT[Int.toNat (Zo1 n)]? =some x_3->qCAo<=wr IntKind.u32 (Zcl n)/\wr IntKind.u32 (Zcl n)+qCAd<=qCA5/\∀(x_4:Nat),smT[Int.toNat (Zou n)]? =some x_4->qCAo<=wr IntKind.u32 (qCAg n)/\wr IntKind.u32 (qCAg n)+qCAd<=qCA5/\∀(x_5:Nat),smT[Int.toNat (Zo2 n)]? =some x_5->qCAo<=wr IntKind.u32 (Zcm n)/\
wr IntKind.u32 (Zcm n)+qCAd<=qCA5/\∀(x_6:Nat),smT[Int.toNat (Zov n)]? =some x_6->qCAo<=wr IntKind.u32 (qCA9 n)/\wr IntKind.u32 (qCA9 n)+qCAd<=qCA5/\∀(x_7:Nat),smT[Int.toNat (Zo3 n)]? =some x_7->qCAo<=wr IntKind.u32 (Zoi n)/\wr IntKind.u32 (Zoi n)+qCAd<=qCA5/\∀(x_8:Nat),smT[Int.toNat (wr IntKind.u32 (Zoi n))]? =some x_8->qCAo<=wr IntKind.u32 (Zly n)/\wr IntKind.u32 (Zly n)+qCAd<=qCA5/\∀(x_9:Nat),smT[Int.toNat (wr IntKind.u32 (Zly n))]? =some x_9->(decide (Z4 n)=true-> [Int.toNat Wh%qCA8,Int.toNat (Z73 n)%qCA8,Int.toNat (qCAr x_9)%qCA8,Int.toNat (qCAr x_8)%qCA8,Int.toNat (qCAr x_7)%qCA8,Int.toNat (qCAr x_6)%qCA8,Int.toNat (qCAr x_5)%qCA8,Int.toNat (qCAr x_4)%qCA8,Int.toNat (qCAr x_3)%qCA8,Int.toNat (qCAr x_2)%qCA8,Int.toNat (qCAr x_1)%qCA8,Int.toNat (qCAr x)%qCA8]=v)/\(decide (Z4 n)=false-> [Int.toNat (Z73 n)%qCA8,Int.toNat (qCAr x_9)%qCA8,Int.toNat (qCAr x_8)%qCA8,Int.toNat (qCAr x_7)%qCA8,Int.toNat (qCAr x_6)%qCA8,Int.toNat (qCAr x_5)%qCA8,Int.toNat (qCAr x_4)%qCA8,Int.toNat (qCAr x_3)%qCA8,Int.toNat (qCAr x_2)%qCA8,Int.toNat (qCAr x_1)%qCA8,Int.toNat (qCAr x)%qCA8]=v))/\((qCAz n)=(12:Int)->qCAo<=wr IntKind.u32 (Zcj n)/\wr IntKind.u32 (Zcj n)+qCAd<=qCA5/\∀(x:Nat),smT[Int.toNat (Zos n)]? =some x->qCAo<=wr IntKind.u32 (qCAk n)/\wr IntKind.u32 (qCAk n)+qCAd<=qCA5/\∀(x_1:Nat),smT[Int.toNat (Zo0 n)]? =some x_1->qCAo<=wr IntKind.u32 (Zck n)/\wr IntKind.u32 (Zck n)+qCAd<=qCA5/\∀(x_2:Nat),smT[Int.toNat (Zot n)]? =some x_2->qCAo<=wr IntKind.u32 (qCAf n)/\wr IntKind.u32 (qCAf n)+qCAd<=qCA5/\∀(x_3:Nat),smT[Int.toNat (Zo1 n)]? =some x_3->qCAo<=wr IntKind.u32 (Zcl n)/\wr IntKind.u32 (Zcl n)+qCAd<=qCA5/\∀(x_4:Nat),smT[Int.toNat (Zou n)]? =some x_4->qCAo<=wr IntKind.u32 (qCAg n)/\wr IntKind.u32 (qCAg n)+qCAd<=qCA5/\∀(x_5:Nat),smT[Int.toNat (Zo2 n)]? =some x_5->qCAo<=wr IntKind.u32 (Zcm n)/\wr IntKind.u32 (Zcm n)+qCAd<=qCA5/\∀(x_6:Nat),smT[Int.toNat (Zov n)]? =some x_6->qCAo<=wr IntKind.u32 (qCA9 n)/\wr IntKind.u32 (qCA9 n)+qCAd<=qCA5/\∀(x_7:Nat),smT[Int.toNat (Zo3 n)]? =some x_7->qCAo<=wr IntKind.u32 (Zon n)/\wr IntKind.u32 (Zon n)+qCAd<=qCA5/\∀(x_8:Nat),smT[Int.toNat (wr IntKind.u32 (Zon n))]? =some x_8->qCAo<=wr IntKind.u32 (qCAx n)/\wr IntKind.u32 (qCAx n)+qCAd<=qCA5/\∀(x_9:Nat),smT[Int.toNat (wr IntKind.u32 (qCAx n))]? =some x_9->qCAo<=wr IntKind.u32 (Zoo n)/\wr IntKind.u32 (Zoo n)+qCAd<=qCA5/\∀(x_10:Nat),smT[Int.toNat (wr IntKind.u32 (Zoo n))]? =some x_10->qCAo<=wr IntKind.u32 (qCAs n)/\wr IntKind.u32 (qCAs n)+qCAd<=qCA5/\∀(x_11:Nat),smT[Int.toNat (wr IntKind.u32 (qCAs n))]? =some x_11->(decide (Z4 n)=true-> [Int.toNat Wh%qCA8,Int.toNat (qCAr x_11)%qCA8,Int.toNat (qCAr x_10)%qCA8,Int.toNat (qCAr x_9)%qCA8,Int.toNat (qCAr x_8)%qCA8,Int.toNat (qCAr x_7)%qCA8,Int.toNat (qCAr x_6)%qCA8,Int.toNat (qCAr x_5)%qCA8,Int.toNat (qCAr x_4)%qCA8,Int.toNat (qCAr x_3)%qCA8,Int.toNat (qCAr x_2)%qCA8,Int.toNat (qCAr x_1)%qCA8,Int.toNat (qCAr x)%qCA8]=v)/\(decide (Z4 n)=false-> [Int.toNat (qCAr x_11)%qCA8,Int.toNat (qCAr x_10)%qCA8,Int.toNat (qCAr x_9)%qCA8,Int.toNat (qCAr x_8)%qCA8,Int.toNat (qCAr x_7)%qCA8,Int.toNat (qCAr x_6)%qCA8,Int.toNat (qCAr x_5)%qCA8,Int.toNat (qCAr x_4)%qCA8,Int.toNat (qCAr x_3)%qCA8,Int.toNat (qCAr x_2)%qCA8,Int.toNat (qCAr x_1)%qCA8,Int.toNat (qCAr x)%qCA8]=v))/\((qCAz n)=(13:Int)->qCAo<=wr IntKind.u32 (Zcj n)/\wr IntKind.u32 (Zcj n)+qCAd<=qCA5/\∀(x:Nat),smT[Int.toNat (Zos n)]? =some x->qCAo<=wr IntKind.u32 (qCAk n)/\wr IntKind.u32 (qCAk n)+qCAd<=qCA5/\∀(x_1:Nat),smT[Int.toNat (Zo0 n)]? =some x_1->qCAo<=wr IntKind.u32 (Zck n)/\wr IntKind.u32 (Zck n)+
qCAd<=qCA5/\∀(x_2:Nat),smT[Int.toNat (Zot n)]? =some x_2->qCAo<=wr IntKind.u32 (qCAf n)/\wr IntKind.u32 (qCAf n)+qCAd<=qCA5/\∀(x_3:Nat),smT[Int.toNat (Zo1 n)]? =some x_3->qCAo<=wr IntKind.u32 (Zcl n)/\wr IntKind.u32 (Zcl n)+qCAd<=qCA5/\∀(x_4:Nat),smT[Int.toNat (Zou n)]? =some x_4->qCAo<=wr IntKind.u32 (qCAg n)/\wr IntKind.u32 (qCAg n)+qCAd<=qCA5/\∀(x_5:Nat),smT[Int.toNat (Zo2 n)]? =some x_5->qCAo<=wr IntKind.u32 (Zcm n)/\wr IntKind.u32 (Zcm n)+qCAd<=qCA5/\∀(x_6:Nat),smT[Int.toNat (Zov n)]? =some x_6->qCAo<=wr IntKind.u32 (qCA9 n)/\wr IntKind.u32 (qCA9 n)+qCAd<=qCA5/\∀(x_7:Nat),smT[Int.toNat (Zo3 n)]? =some x_7->qCAo<=wr IntKind.u32 (Zon n)/\wr IntKind.u32 (Zon n)+qCAd<=qCA5/\∀(x_8:Nat),smT[Int.toNat (wr IntKind.u32 (Zon n))]? =some x_8->qCAo<=wr IntKind.u32 (qCAx n)/\wr IntKind.u32 (qCAx n)+qCAd<=qCA5/\∀(x_9:Nat),smT[Int.toNat (wr IntKind.u32 (qCAx n))]? =some x_9->qCAo<=wr IntKind.u32 (Zoo n)/\wr IntKind.u32 (Zoo n)+qCAd<=qCA5/\∀(x_10:Nat),smT[Int.toNat (wr IntKind.u32 (Zoo n))]? =some x_10->qCAo<=wr IntKind.u32 (qCAs n)/\wr IntKind.u32 (qCAs n)+qCAd<=qCA5/\∀(x_11:Nat),smT[Int.toNat (wr IntKind.u32 (qCAs n))]? =some x_11->(decide (Z4 n)=true-> [Int.toNat Wh%qCA8,Int.toNat (Z74 n)%qCA8,Int.toNat (qCAr x_11)%qCA8,Int.toNat (qCAr x_10)%qCA8,Int.toNat (qCAr x_9)%qCA8,Int.toNat (qCAr x_8)%qCA8,Int.toNat (qCAr x_7)%qCA8,Int.toNat (qCAr x_6)%qCA8,Int.toNat (qCAr x_5)%qCA8,Int.toNat (qCAr x_4)%qCA8,Int.toNat (qCAr x_3)%qCA8,Int.toNat (qCAr x_2)%qCA8,Int.toNat (qCAr x_1)%qCA8,Int.toNat (qCAr x)%qCA8]=v)/\(decide (Z4 n)=false-> [Int.toNat (Z74 n)%qCA8,Int.toNat (qCAr x_11)%qCA8,Int.toNat (qCAr x_10)%qCA8,Int.toNat (qCAr x_9)%qCA8,Int.toNat (qCAr x_8)%qCA8,Int.toNat (qCAr x_7)%qCA8,Int.toNat (qCAr x_6)%qCA8,Int.toNat (qCAr x_5)%qCA8,Int.toNat (qCAr x_4)%qCA8,Int.toNat (qCAr x_3)%qCA8,Int.toNat (qCAr x_2)%qCA8,Int.toNat (qCAr x_1)%qCA8,Int.toNat (qCAr x)%qCA8]=v))/\True)/\(decide (Z4 n)=false->(qCAd<=wr IntKind.u64 n/\wr IntKind.u64 n+qCAd<=(10000000000000:Int))/\((qCAv n)=qCAd->(decide (Z4 n)=true-> [Int.toNat Wh%qCA8,Int.toNat (Z79 n)%qCA8]=v)/\(decide (Z4 n)=false-> [Int.toNat (Z79 n)%qCA8]=v))/\((qCAv n)=qCAc->qCAo<=wr IntKind.u32 (Zoj n)/\wr IntKind.u32 (Zoj n)+qCAd<=qCA5/\∀(x:Nat),smT[Int.toNat (wr IntKind.u32 (Zoj n))]? =some x->qCAo<=wr IntKind.u32 (Zlz n)/\wr IntKind.u32 (Zlz n)+qCAd<=qCA5/\∀(x_1:Nat),smT[Int.toNat (wr IntKind.u32 (Zlz n))]? =some x_1->(decide (Z4 n)=true-> [Int.toNat Wh%qCA8,Int.toNat (qCAr x_1)%qCA8,Int.toNat (qCAr x)%qCA8]=v)/\(decide (Z4 n)=false-> [Int.toNat (qCAr x_1)%qCA8,Int.toNat (qCAr x)%qCA8]=v))/\((qCAv n)=(3:Int)->qCAo<=wr IntKind.u32 (Zoj n)/\wr IntKind.u32 (Zoj n)+qCAd<=qCA5/\∀(x:Nat),smT[Int.toNat (wr IntKind.u32 (Zoj n))]? =some x->qCAo<=wr IntKind.u32 (Zlz n)/\wr IntKind.u32 (Zlz n)+qCAd<=qCA5/\∀(x_1:Nat),smT[Int.toNat (wr IntKind.u32 (Zlz n))]? =some x_1->(decide (Z4 n)=true-> [Int.toNat Wh%qCA8,Int.toNat (Z75 n)%qCA8,Int.toNat (qCAr x_1)%qCA8,Int.toNat (qCAr x)%qCA8]=v)/\(decide (Z4 n)=false-> [Int.toNat (Z75 n)%qCA8,Int.toNat (qCAr x_1)%qCA8,Int.toNat (qCAr x)%qCA8]=v))/\((qCAv n)=(4:Int)->qCAo<=wr IntKind.u32 (Zda n)/\wr IntKind.u32 (Zda n)+qCAd<=qCA5/\∀(x:Nat),smT[Int.toNat (wr IntKind.u32 (Zda n))]? =some x->qCAo<=wr IntKind.u32 (qCAp n)/\wr IntKind.u32 (qCAp n)+qCAd<=qCA5/\∀(x_1:Nat),smT[Int.toNat (wr IntKind.u32 (qCAp n))]? =some x_1->qCAo<=wr IntKind.u32 (Zdb n)/\wr IntKind.u32 (Zdb n)+qCAd<=qCA5/\∀(x_2:Nat),smT[Int.toNat (wr IntKind.u32 (Zdb n))]? =some x_2->qCAo<=wr IntKind.u32 (qCAn n)
/\wr IntKind.u32 (qCAn n)+qCAd<=qCA5/\∀(x_3:Nat),smT[Int.toNat (wr IntKind.u32 (qCAn n))]? =some x_3->(Z8a n x_3 x_2 x_1 x v)/\(decide (Z4 n)=false-> [Int.toNat (qCAr x_3)%qCA8,Int.toNat (qCAr x_2)%qCA8,Int.toNat (qCAr x_1)%qCA8,Int.toNat (qCAr x)%qCA8]=v))/\((qCAv n)=(5:Int)->qCAo<=wr IntKind.u32 (Zda n)/\wr IntKind.u32 (Zda n)+qCAd<=qCA5/\∀(x:Nat),smT[Int.toNat (wr IntKind.u32 (Zda n))]? =some x->qCAo<=wr IntKind.u32 (qCAp n)/\wr IntKind.u32 (qCAp n)+qCAd<=qCA5/\∀(x_1:Nat),smT[Int.toNat (wr IntKind.u32 (qCAp n))]? =some x_1->qCAo<=wr IntKind.u32 (Zdb n)/\wr IntKind.u32 (Zdb n)+qCAd<=qCA5/\∀(x_2:Nat),smT[Int.toNat (wr IntKind.u32 (Zdb n))]? =some x_2->qCAo<=wr IntKind.u32 (qCAn n)/\wr IntKind.u32 (qCAn n)+qCAd<=qCA5/\∀(x_3:Nat),smT[Int.toNat (wr IntKind.u32 (qCAn n))]? =some x_3->(decide (Z4 n)=true-> [Int.toNat Wh%qCA8,Int.toNat (Z76 n)%qCA8,Int.toNat (qCAr x_3)%qCA8,Int.toNat (qCAr x_2)%qCA8,Int.toNat (qCAr x_1)%qCA8,Int.toNat (qCAr x)%qCA8]=v)/\(decide (Z4 n)=false-> [Int.toNat (Z76 n)%qCA8,Int.toNat (qCAr x_3)%qCA8,Int.toNat (qCAr x_2)%qCA8,Int.toNat (qCAr x_1)%qCA8,Int.toNat (qCAr x)%qCA8]=v))/\((qCAv n)=(6:Int)->qCAo<=wr IntKind.u32 (Zda n)/\wr IntKind.u32 (Zda n)+qCAd<=qCA5/\∀(x:Nat),smT[Int.toNat (wr IntKind.u32 (Zda n))]? =some x->qCAo<=wr IntKind.u32 (qCAp n)/\wr IntKind.u32 (qCAp n)+qCAd<=qCA5/\∀(x_1:Nat),smT[Int.toNat (wr IntKind.u32 (qCAp n))]? =some x_1->qCAo<=wr IntKind.u32 (Zdb n)/\wr IntKind.u32 (Zdb n)+qCAd<=qCA5/\∀(x_2:Nat),smT[Int.toNat (wr IntKind.u32 (Zdb n))]? =some x_2->qCAo<=wr IntKind.u32 (qCAn n)/\wr IntKind.u32 (qCAn n)+qCAd<=qCA5/\∀(x_3:Nat),smT[Int.toNat (wr IntKind.u32 (qCAn n))]? =some x_3->qCAo<=wr IntKind.u32 (Zop n)/\wr IntKind.u32 (Zop n)+qCAd<=qCA5/\∀(x_4:Nat),smT[Int.toNat (wr IntKind.u32 (Zop n))]? =some x_4->qCAo<=wr IntKind.u32 (qCAt n)/\wr IntKind.u32 (qCAt n)+qCAd<=qCA5/\∀(x_5:Nat),smT[Int.toNat (wr IntKind.u32 (qCAt n))]? =some x_5->(Z70 n x_5 x_4 x_3 x_2 x_1 x v)/\(Z8b n x_5 x_4 x_3 x_2 x_1 x v))/\((qCAv n)=(7:Int)->qCAo<=wr IntKind.u32 (Zda n)/\wr IntKind.u32 (Zda n)+qCAd<=qCA5/\∀(x:Nat),smT[Int.toNat (wr IntKind.u32 (Zda n))]? =some x->qCAo<=wr IntKind.u32 (qCAp n)/\wr IntKind.u32 (qCAp n)+qCAd<=qCA5/\∀(x_1:Nat),smT[Int.toNat (wr IntKind.u32 (qCAp n))]? =some x_1->qCAo<=wr IntKind.u32 (Zdb n)/\wr IntKind.u32 (Zdb n)+qCAd<=qCA5/\∀(x_2:Nat),smT[Int.toNat (wr IntKind.u32 (Zdb n))]? =some x_2->qCAo<=wr IntKind.u32 (qCAn n)/\wr IntKind.u32 (qCAn n)+qCAd<=qCA5/\∀(x_3:Nat),smT[Int.toNat (wr IntKind.u32 (qCAn n))]? =some x_3->qCAo<=wr IntKind.u32 (Zop n)/\wr IntKind.u32 (Zop n)+qCAd<=qCA5/\∀(x_4:Nat),smT[Int.toNat (wr IntKind.u32 (Zop n))]? =some x_4->qCAo<=wr IntKind.u32 (qCAt n)/\wr IntKind.u32 (qCAt n)+qCAd<=qCA5/\∀(x_5:Nat),smT[Int.toNat (wr IntKind.u32 (qCAt n))]? =some x_5->(decide (Z4 n)=true-> [Int.toNat Wh%qCA8,Int.toNat (Z7y n)%qCA8,Int.toNat (qCAr x_5)%qCA8,Int.toNat (qCAr x_4)%qCA8,Int.toNat (qCAr x_3)%qCA8,Int.toNat (qCAr x_2)%qCA8,Int.toNat (qCAr x_1)%qCA8,Int.toNat (qCAr x)%qCA8]=v)/\(decide (Z4 n)=false-> [Int.toNat (Z7y n)%qCA8,Int.toNat (qCAr x_5)%qCA8,Int.toNat (qCAr x_4)%qCA8,Int.toNat (qCAr x_3)%qCA8,Int.toNat (qCAr x_2)%qCA8,Int.toNat (qCAr x_1)%qCA8,Int.toNat (qCAr x)%qCA8]=v))/\((qCAv n)=(8:Int)->qCAo<=wr IntKind.u32 (Zcn n)/\wr IntKind.u32 (Zcn n)+qCAd<=qCA5/\∀(x:Nat),smT[Int.toNat (Zow n)]? =some x->qCAo<=wr IntKind.u32 (qCAl n)/\wr IntKind.u32 (qCAl n)+qCAd<=qCA5/\∀(x_1:Nat),smT[Int.toNat (Zo4 n)]? =some x_1->qCAo<=wr IntKind.u32 (Zco n)/\wr IntKind.u32 (Zco n)+qCAd<=qCA5/\∀(x_2:Nat),smT[Int.toNat (Zox
n)]? =some x_2->qCAo<=wr IntKind.u32 (qCAh n)/\wr IntKind.u32 (qCAh n)+qCAd<=qCA5/\∀(x_3:Nat),smT[Int.toNat (Zo5 n)]? =some x_3->qCAo<=wr IntKind.u32 (Zcp n)/\wr IntKind.u32 (Zcp n)+qCAd<=qCA5/\∀(x_4:Nat),smT[Int.toNat (Zoy n)]? =some x_4->qCAo<=wr IntKind.u32 (qCAi n)/\wr IntKind.u32 (qCAi n)+qCAd<=qCA5/\∀(x_5:Nat),smT[Int.toNat (Zo6 n)]? =some x_5->qCAo<=wr IntKind.u32 (Zcq n)/\wr IntKind.u32 (Zcq n)+qCAd<=qCA5/\∀(x_6:Nat),smT[Int.toNat (Zoz n)]? =some x_6->qCAo<=wr IntKind.u32 (qCAa n)/\wr IntKind.u32 (qCAa n)+qCAd<=qCA5/\∀(x_7:Nat),smT[Int.toNat (Zo7 n)]? =some x_7->(decide (Z4 n)=true-> [Int.toNat Wh%qCA8,Int.toNat (qCAr x_7)%qCA8,Int.toNat (qCAr x_6)%qCA8,Int.toNat (qCAr x_5)%qCA8,Int.toNat (qCAr x_4)%qCA8,Int.toNat (qCAr x_3)%qCA8,Int.toNat (qCAr x_2)%qCA8,Int.toNat (qCAr x_1)%qCA8,Int.toNat (qCAr x)%qCA8]=v)/\(decide (Z4 n)=false-> [Int.toNat (qCAr x_7)%qCA8,Int.toNat (qCAr x_6)%qCA8,Int.toNat (qCAr x_5)%qCA8,Int.toNat (qCAr x_4)%qCA8,Int.toNat (qCAr x_3)%qCA8,Int.toNat (qCAr x_2)%qCA8,Int.toNat (qCAr x_1)%qCA8,Int.toNat (qCAr x)%qCA8]=v))/\((qCAv n)=(9:Int)->qCAo<=wr IntKind.u32 (Zcn n)/\wr IntKind.u32 (Zcn n)+qCAd<=qCA5/\∀(x:Nat),smT[Int.toNat (Zow n)]? =some x->qCAo<=wr IntKind.u32 (qCAl n)/\wr IntKind.u32 (qCAl n)+qCAd<=qCA5/\∀(x_1:Nat),smT[Int.toNat (Zo4 n)]? =some x_1->qCAo<=wr IntKind.u32 (Zco n)/\wr IntKind.u32 (Zco n)+qCAd<=qCA5/\∀(x_2:Nat),smT[Int.toNat (Zox n)]? =some x_2->qCAo<=wr IntKind.u32 (qCAh n)/\wr IntKind.u32 (qCAh n)+qCAd<=qCA5/\∀(x_3:Nat),smT[Int.toNat (Zo5 n)]? =some x_3->qCAo<=wr IntKind.u32 (Zcp n)/\wr IntKind.u32 (Zcp n)+qCAd<=qCA5/\∀(x_4:Nat),smT[Int.toNat (Zoy n)]? =some x_4->qCAo<=wr IntKind.u32 (qCAi n)/\wr IntKind.u32 (qCAi n)+qCAd<=qCA5/\∀(x_5:Nat),smT[Int.toNat (Zo6 n)]? =some x_5->qCAo<=wr IntKind.u32 (Zcq n)/\wr IntKind.u32 (Zcq n)+qCAd<=qCA5/\∀(x_6:Nat),smT[Int.toNat (Zoz n)]? =some x_6->qCAo<=wr IntKind.u32 (qCAa n)/\wr IntKind.u32 (qCAa n)+qCAd<=qCA5/\∀(x_7:Nat),smT[Int.toNat (Zo7 n)]? =some x_7->(decide (Z4 n)=true-> [Int.toNat Wh%qCA8,Int.toNat (Z7w n)%qCA8,Int.toNat (qCAr x_7)%qCA8,Int.toNat (qCAr x_6)%qCA8,Int.toNat (qCAr x_5)%qCA8,Int.toNat (qCAr x_4)%qCA8,Int.toNat (qCAr x_3)%qCA8,Int.toNat (qCAr x_2)%qCA8,Int.toNat (qCAr x_1)%qCA8,Int.toNat (qCAr x)%qCA8]=v)/\(decide (Z4 n)=false-> [Int.toNat (Z7w n)%qCA8,Int.toNat (qCAr x_7)%qCA8,Int.toNat (qCAr x_6)%qCA8,Int.toNat (qCAr x_5)%qCA8,Int.toNat (qCAr x_4)%qCA8,Int.toNat (qCAr x_3)%qCA8,Int.toNat (qCAr x_2)%qCA8,Int.toNat (qCAr x_1)%qCA8,Int.toNat (qCAr x)%qCA8]=v))/\((qCAv n)=(10:Int)->qCAo<=wr IntKind.u32 (Zcn n)/\wr IntKind.u32 (Zcn n)+qCAd<=qCA5/\∀(x:Nat),smT[Int.toNat (Zow n)]? =some x->qCAo<=wr IntKind.u32 (qCAl n)/\wr IntKind.u32 (qCAl n)+qCAd<=qCA5/\∀(x_1:Nat),smT[Int.toNat (Zo4 n)]? =some x_1->qCAo<=wr IntKind.u32 (Zco n)/\wr IntKind.u32 (Zco n)+qCAd<=qCA5/\∀(x_2:Nat),smT[Int.toNat (Zox n)]? =some x_2->qCAo<=wr IntKind.u32 (qCAh n)/\wr IntKind.u32 (qCAh n)+qCAd<=qCA5/\∀(x_3:Nat),smT[Int.toNat (Zo5 n)]? =some x_3->qCAo<=wr IntKind.u32 (Zcp n)/\wr IntKind.u32 (Zcp n)+qCAd<=qCA5/\∀(x_4:Nat),smT[Int.toNat (Zoy n)]? =some x_4->qCAo<=wr IntKind.u32 (qCAi n)/\wr IntKind.u32 (qCAi n)+qCAd<=qCA5/\∀(x_5:Nat),smT[Int.toNat (Zo6 n)]? =some x_5->qCAo<=wr IntKind.u32 (Zcq n)/\wr IntKind.u32 (Zcq n)+qCAd<=qCA5/\∀(x_6:Nat),smT[Int.toNat (Zoz n)]? =some x_6->qCAo<=wr IntKind.u32 (qCAa n)/\wr IntKind.u32 (qCAa n)+qCAd<=qCA5/\∀(x_7:Nat),smT[Int.toNat (Zo7 n)]? =some x_7->qCAo<=wr IntKind.u32 (Zok n)/\wr IntKind.u32 (Zok n)+qCAd<=qCA5/\∀(x_8:
Nat),smT[Int.toNat (wr IntKind.u32 (Zok n))]? =some x_8->qCAo<=wr IntKind.u32 (Zl0 n)/\wr IntKind.u32 (Zl0 n)+qCAd<=qCA5/\∀(x_9:Nat),smT[Int.toNat (wr IntKind.u32 (Zl0 n))]? =some x_9->(decide (Z4 n)=true-> [Int.toNat Wh%qCA8,Int.toNat (qCAr x_9)%qCA8,Int.toNat (qCAr x_8)%qCA8,Int.toNat (qCAr x_7)%qCA8,Int.toNat (qCAr x_6)%qCA8,Int.toNat (qCAr x_5)%qCA8,Int.toNat (qCAr x_4)%qCA8,Int.toNat (qCAr x_3)%qCA8,Int.toNat (qCAr x_2)%qCA8,Int.toNat (qCAr x_1)%qCA8,Int.toNat (qCAr x)%qCA8]=v)/\(decide (Z4 n)=false-> [Int.toNat (qCAr x_9)%qCA8,Int.toNat (qCAr x_8)%qCA8,Int.toNat (qCAr x_7)%qCA8,Int.toNat (qCAr x_6)%qCA8,Int.toNat (qCAr x_5)%qCA8,Int.toNat (qCAr x_4)%qCA8,Int.toNat (qCAr x_3)%qCA8,Int.toNat (qCAr x_2)%qCA8,Int.toNat (qCAr x_1)%qCA8,Int.toNat (qCAr x)%qCA8]=v))/\((qCAv n)=(11:Int)->qCAo<=wr IntKind.u32 (Zcn n)/\wr IntKind.u32 (Zcn n)+qCAd<=qCA5/\∀(x:Nat),smT[Int.toNat (Zow n)]? =some x->qCAo<=wr IntKind.u32 (qCAl n)/\wr IntKind.u32 (qCAl n)+qCAd<=qCA5/\∀(x_1:Nat),smT[Int.toNat (Zo4 n)]? =some x_1->qCAo<=wr IntKind.u32 (Zco n)/\wr IntKind.u32 (Zco n)+qCAd<=qCA5/\∀(x_2:Nat),smT[Int.toNat (Zox n)]? =some x_2->qCAo<=wr IntKind.u32 (qCAh n)/\wr IntKind.u32 (qCAh n)+qCAd<=qCA5/\∀(x_3:Nat),smT[Int.toNat (Zo5 n)]? =some x_3->qCAo<=wr IntKind.u32 (Zcp n)/\wr IntKind.u32 (Zcp n)+qCAd<=qCA5/\∀(x_4:Nat),smT[Int.toNat (Zoy n)]? =some x_4->qCAo<=wr IntKind.u32 (qCAi n)/\wr IntKind.u32 (qCAi n)+qCAd<=qCA5/\∀(x_5:Nat),smT[Int.toNat (Zo6 n)]? =some x_5->qCAo<=wr IntKind.u32 (Zcq n)/\wr IntKind.u32 (Zcq n)+qCAd<=qCA5/\∀(x_6:Nat),smT[Int.toNat (Zoz n)]? =some x_6->qCAo<=wr IntKind.u32 (qCAa n)/\wr IntKind.u32 (qCAa n)+qCAd<=qCA5/\∀(x_7:Nat),smT[Int.toNat (Zo7 n)]? =some x_7->qCAo<=wr IntKind.u32 (Zok n)/\wr IntKind.u32 (Zok n)+qCAd<=qCA5/\∀(x_8:Nat),smT[Int.toNat (wr IntKind.u32 (Zok n))]? =some x_8->qCAo<=wr IntKind.u32 (Zl0 n)/\wr IntKind.u32 (Zl0 n)+qCAd<=qCA5/\∀(x_9:Nat),smT[Int.toNat (wr IntKind.u32 (Zl0 n))]? =some x_9->(decide (Z4 n)=true-> [Int.toNat Wh%qCA8,Int.toNat (Z77 n)%qCA8,Int.toNat (qCAr x_9)%qCA8,Int.toNat (qCAr x_8)%qCA8,Int.toNat (qCAr x_7)%qCA8,Int.toNat (qCAr x_6)%qCA8,Int.toNat (qCAr x_5)%qCA8,Int.toNat (qCAr x_4)%qCA8,Int.toNat (qCAr x_3)%qCA8,Int.toNat (qCAr x_2)%qCA8,Int.toNat (qCAr x_1)%qCA8,Int.toNat (qCAr x)%qCA8]=v)/\(decide (Z4 n)=false-> [Int.toNat (Z77 n)%qCA8,Int.toNat (qCAr x_9)%qCA8,Int.toNat (qCAr x_8)%qCA8,Int.toNat (qCAr x_7)%qCA8,Int.toNat (qCAr x_6)%qCA8,Int.toNat (qCAr x_5)%qCA8,Int.toNat (qCAr x_4)%qCA8,Int.toNat (qCAr x_3)%qCA8,Int.toNat (qCAr x_2)%qCA8,Int.toNat (qCAr x_1)%qCA8,Int.toNat (qCAr x)%qCA8]=v))/\((qCAv n)=(12:Int)->qCAo<=wr IntKind.u32 (Zcn n)/\wr IntKind.u32 (Zcn n)+qCAd<=qCA5/\∀(x:Nat),smT[Int.toNat (Zow n)]? =some x->qCAo<=wr IntKind.u32 (qCAl n)/\wr IntKind.u32 (qCAl n)+qCAd<=qCA5/\∀(x_1:Nat),smT[Int.toNat (Zo4 n)]? =some x_1->qCAo<=wr IntKind.u32 (Zco n)/\wr IntKind.u32 (Zco n)+qCAd<=qCA5/\∀(x_2:Nat),smT[Int.toNat (Zox n)]? =some x_2->qCAo<=wr IntKind.u32 (qCAh n)/\wr IntKind.u32 (qCAh n)+qCAd<=qCA5/\∀(x_3:Nat),smT[Int.toNat (Zo5 n)]? =some x_3->qCAo<=wr IntKind.u32 (Zcp n)/\wr IntKind.u32 (Zcp n)+qCAd<=qCA5/\∀(x_4:Nat),smT[Int.toNat (Zoy n)]? =some x_4->qCAo<=wr IntKind.u32 (qCAi n)/\wr IntKind.u32 (qCAi n)+qCAd<=qCA5/\∀(x_5:Nat),smT[Int.toNat (Zo6 n)]? =some x_5->qCAo<=wr IntKind.u32 (Zcq n)/\wr IntKind.u32 (Zcq n)+qCAd<=qCA5/\∀(x_6:Nat),smT[Int.toNat (Zoz n)]? =some x_6->qCAo<=wr IntKind.u32 (qCAa n)/\wr IntKind.u32 (qCAa n)+qCAd<=qCA5/\∀(x_7:Nat),smT[Int.toNat (Zo7 n)]? =some x_7->qCAo<=wr
IntKind.u32 (Zoq n)/\wr IntKind.u32 (Zoq n)+qCAd<=qCA5/\∀(x_8:Nat),smT[Int.toNat (wr IntKind.u32 (Zoq n))]? =some x_8->qCAo<=wr IntKind.u32 (qCAy n)/\wr IntKind.u32 (qCAy n)+qCAd<=qCA5/\∀(x_9:Nat),smT[Int.toNat (wr IntKind.u32 (qCAy n))]? =some x_9->qCAo<=wr IntKind.u32 (Zor n)/\wr IntKind.u32 (Zor n)+qCAd<=qCA5/\∀(x_10:Nat),smT[Int.toNat (wr IntKind.u32 (Zor n))]? =some x_10->qCAo<=wr IntKind.u32 (qCAu n)/\wr IntKind.u32 (qCAu n)+qCAd<=qCA5/\∀(x_11:Nat),smT[Int.toNat (wr IntKind.u32 (qCAu n))]? =some x_11->(decide (Z4 n)=true-> [Int.toNat Wh%qCA8,Int.toNat (qCAr x_11)%qCA8,Int.toNat (qCAr x_10)%qCA8,Int.toNat (qCAr x_9)%qCA8,Int.toNat (qCAr x_8)%qCA8,Int.toNat (qCAr x_7)%qCA8,Int.toNat (qCAr x_6)%qCA8,Int.toNat (qCAr x_5)%qCA8,Int.toNat (qCAr x_4)%qCA8,Int.toNat (qCAr x_3)%qCA8,Int.toNat (qCAr x_2)%qCA8,Int.toNat (qCAr x_1)%qCA8,Int.toNat (qCAr x)%qCA8]=v)/\(decide (Z4 n)=false-> [Int.toNat (qCAr x_11)%qCA8,Int.toNat (qCAr x_10)%qCA8,Int.toNat (qCAr x_9)%qCA8,Int.toNat (qCAr x_8)%qCA8,Int.toNat (qCAr x_7)%qCA8,Int.toNat (qCAr x_6)%qCA8,Int.toNat (qCAr x_5)%qCA8,Int.toNat (qCAr x_4)%qCA8,Int.toNat (qCAr x_3)%qCA8,Int.toNat (qCAr x_2)%qCA8,Int.toNat (qCAr x_1)%qCA8,Int.toNat (qCAr x)%qCA8]=v))/\((qCAv n)=(13:Int)->qCAo<=wr IntKind.u32 (Zcn n)/\wr IntKind.u32 (Zcn n)+qCAd<=qCA5/\∀(x:Nat),smT[Int.toNat (Zow n)]? =some x->qCAo<=wr IntKind.u32 (qCAl n)/\wr IntKind.u32 (qCAl n)+qCAd<=qCA5/\∀(x_1:Nat),smT[Int.toNat (Zo4 n)]? =some x_1->qCAo<=wr IntKind.u32 (Zco n)/\wr IntKind.u32 (Zco n)+qCAd<=qCA5/\∀(x_2:Nat),smT[Int.toNat (Zox n)]? =some x_2->qCAo<=wr IntKind.u32 (qCAh n)/\wr IntKind.u32 (qCAh n)+qCAd<=qCA5/\∀(x_3:Nat),smT[Int.toNat (Zo5 n)]? =some x_3->qCAo<=wr IntKind.u32 (Zcp n)/\wr IntKind.u32 (Zcp n)+qCAd<=qCA5/\∀(x_4:Nat),smT[Int.toNat (Zoy n)]? =some x_4->qCAo<=wr IntKind.u32 (qCAi n)/\wr IntKind.u32 (qCAi n)+qCAd<=qCA5/\∀(x_5:Nat),smT[Int.toNat (Zo6 n)]? =some x_5->qCAo<=wr IntKind.u32 (Zcq n)/\wr IntKind.u32 (Zcq n)+qCAd<=qCA5/\∀(x_6:Nat),smT[Int.toNat (Zoz n)]? =some x_6->qCAo<=wr IntKind.u32 (qCAa n)/\wr IntKind.u32 (qCAa n)+qCAd<=qCA5/\∀(x_7:Nat),smT[Int.toNat (Zo7 n)]? =some x_7->qCAo<=wr IntKind.u32 (Zoq n)/\wr IntKind.u32 (Zoq n)+qCAd<=qCA5/\∀(x_8:Nat),smT[Int.toNat (wr IntKind.u32 (Zoq n))]? =some x_8->qCAo<=wr IntKind.u32 (qCAy n)/\wr IntKind.u32 (qCAy n)+qCAd<=qCA5/\∀(x_9:Nat),smT[Int.toNat (wr IntKind.u32 (qCAy n))]? =some x_9->qCAo<=wr IntKind.u32 (Zor n)/\wr IntKind.u32 (Zor n)+qCAd<=qCA5/\∀(x_10:Nat),smT[Int.toNat (wr IntKind.u32 (Zor n))]? =some x_10->qCAo<=wr IntKind.u32 (qCAu n)/\wr IntKind.u32 (qCAu n)+qCAd<=qCA5/\∀(x_11:Nat),smT[Int.toNat (wr IntKind.u32 (qCAu n))]? =some x_11->(decide (Z4 n)=true-> [Int.toNat Wh%qCA8,Int.toNat (Z78 n)%qCA8,Int.toNat (qCAr x_11)%qCA8,Int.toNat (qCAr x_10)%qCA8,Int.toNat (qCAr x_9)%qCA8,Int.toNat (qCAr x_8)%qCA8,Int.toNat (qCAr x_7)%qCA8,Int.toNat (qCAr x_6)%qCA8,Int.toNat (qCAr x_5)%qCA8,Int.toNat (qCAr x_4)%qCA8,Int.toNat (qCAr x_3)%qCA8,Int.toNat (qCAr x_2)%qCA8,Int.toNat (qCAr x_1)%qCA8,Int.toNat (qCAr x)%qCA8]=v)/\(decide (Z4 n)=false-> [Int.toNat (Z78 n)%qCA8,Int.toNat (qCAr x_11)%qCA8,Int.toNat (qCAr x_10)%qCA8,Int.toNat (qCAr x_9)%qCA8,Int.toNat (qCAr x_8)%qCA8,Int.toNat (qCAr x_7)%qCA8,Int.toNat (qCAr x_6)%qCA8,Int.toNat (qCAr x_5)%qCA8,Int.toNat (qCAr x_4)%qCA8,Int.toNat (qCAr x_3)%qCA8,Int.toNat (qCAr x_2)%qCA8,Int.toNat (qCAr x_1)%qCA8,Int.toNat (qCAr x)%qCA8]=v))/\True))):=by kernel_rfl
end
section
open Go
theorem Ybi:∀(k u:Nat),u<10^(k+1)->Lib.nDigits u<=k+1
 |0,u,h=>by rw [Lib.nDigits_small (by simpa using h)];exact Nat.le_refl _
 |k+1,u,h=>by
  by_cases h1:u<10
  · rw [Lib.nDigits_small h1];omega
  · rw [Lib.nDigits_big h1]
    rw [Nat.pow_succ] at h
    have:=Ybi k (u/10) (by omega)
    omega
theorem Zyk {u:Int} {k:Res thy->Prop}:∀{l:List Int},ndK u k l->∀j∈l,(Lib.nDigits u.toNat:Int)=j->k (Zd [] (.int true .i64 j))
 | [],_,j,hj,_=>by cases hj
 |x::r,h,j,hj,e=>by
  rcases List.mem_cons.1 hj with rfl|hj
  · exact h.1 e
  · exact Zyk h.2 j hj e
theorem in13 (d:Nat) (h1:1<=d) (h2:d<=13):(d:Int)∈ [(1:Int),2,3,4,5,6,7,8,9,10,11,12,13]:=by
 have:d=1\/d=2\/d=3\/d=4\/d=5\/d=6\/d=7\/d=8\/d=9\/d=10\/d=11\/d=12\/d=13:=by omega
 rcases this with rfl|rfl|rfl|rfl|rfl|rfl|rfl|rfl|rfl|rfl|rfl|rfl|rfl<;>decide
theorem Ybj:SumOk E 165 Snd:=by
 have hS:SumOk E 165 (V6 (dA1 dU64) (fun x=>1<=x.1/\x.1<10000000000000) (fun x=>Lib.nDigits x.1.toNat) fun (y:Nat)=> .int true .i64 y):=Yg E_ok (Zc rfl) fun x h=>by
  have:=Z55 x.1.toNat (by omega) (by omega)
  rw [show ((x.1.toNat:Nat):Int)=x.1 by omega] at this
  intro g w vals hI hd
  refine (this g w vals hI hd).mono ?_
  rintro en w' ⟨u,he,g',h1,h2,h3⟩
  cases h3
  exact ⟨_,he,g',h1,h2,.int _ _ _⟩
 refine ⟨hS.good,fun args h i k hD hk=> ?_⟩
 unfold Snd at hk
 split at hk
 case h_2=>exact hk.elim
 rename_i l u
 obtain ⟨⟨h1,h2⟩,hk⟩:=hk
 refine hS.ok _ h i k hD ⟨⟨h1,h2⟩,fun y hy=> ?_⟩
 subst hy
 have hn:=Ybi 12 u.toNat (by show u.toNat<10000000000000;omega)
 have hp:=Lib.nDigits_pos u.toNat
 refine Zyk hk _ (in13 _ hp hn) rfl
theorem Zyl:SumOk E 164 Z4z:=Yg E_ok (Zc rfl) fun x h=>by
 have:=Zsk x.1.toNat (by omega)
 rw [show ((x.1.toNat:Nat):Int)=x.1 by omega] at this
 have e:Lib.itoa x.1=Lib.decDigits x.1.toNat:=by unfold Lib.itoa;rw [if_neg (by omega)]
 rw [e]
 exact this
theorem Ybk:FnsOk E Fit:=Zb (Zb F0_ok Ybj) Zyl
def smV (i:Nat):Nat:=if i%2=0 then 48+i/2/10 else 48+i/2%10
theorem Z7k:∀i,i<200->smT[i]? =some (smV i):=by decide+kernel
theorem Z7l:smT.length=200:=by decide+kernel
theorem Ybl {e:Int} {P:Nat->Prop} (h0:0<=e) (h1:e<200) (h:P (smV e.toNat)):(0:Int)<=e/\e+(1:Int)<=(↑(List.length smT):Int)/\∀(x:Nat),smT[Int.toNat e]? =some x->P x:=by
 refine ⟨h0,by rw [Z7l];omega,fun x hx=> ?_⟩
 rw [Z7k _ (by omega)] at hx
 cases hx
 exact h
theorem smE {x:Int} (h0:0<=x) (h1:x<100):smV (x*2).toNat%(256:Nat)=48+x.toNat/10:=by
 have:smV (x*2).toNat=48+x.toNat/10:=by
  unfold smV
  rw [if_pos (by omega)]
  congr 2
  omega
 rw [this]
 omega
theorem smO {x:Int} (h0:0<=x) (h1:x<100):smV (x*2+1).toNat%(256:Nat)=48+x.toNat%10:=by
 have:smV (x*2+1).toNat=48+x.toNat%10:=by
  unfold smV
  rw [if_neg (by omega)]
  congr 2
  omega
 rw [this]
 omega
theorem wu64 (x:Int):wr .u64 x=x%18446744073709551616:=rfl
theorem wu32 (x:Int):wr .u32 x=x%4294967296:=rfl
theorem wu8 (x:Int):wr .u8 x=x%256:=rfl
def dgN (u j:Nat):Nat:=48+u/10^j%10
theorem Z2h (u k:Nat) (h:Lib.nDigits u=k):(Lib.decDigits u).map UInt8.toNat=(List.range k).map fun t=>dgN u (k-1-t):=by
 rw [Lib.decDigits_eq,List.map_map,h]
 refine List.map_congr_left fun t _=> ?_
 show (Lib.dg u (k-1-t)).toNat=_
 unfold Lib.dg dgN
 rw [UInt8.toNat_ofNat']
 omega
set_option maxHeartbeats 4000000 in
theorem Zym (u:Nat) (hu:u<10000000000000):PureC E 117 [.int false .i64 (u:Int)] (.str false (decN u)):=by
 refine Za E_ok (Zh E_ok Ybk 2000) ?_
 rw [Zzb]; delta qCAo qCA6 qCAd Z4 qCAz Wh qCA8 Zaw qCA3 qCAc Zol qCA5 qCAw qCAr Z71 Zc8 qCAm Zc9 qCAj Z8a Z72 Zom qCAq Z70 Z8b Z7x Zcj Zos qCAk Zo0 Zck Zot qCAf Zo1 Zcl Zou qCAg Zo2 Zcm Zov qCA9 Zo3 Z7z Zoi Zly Z73 Zon qCAx Zoo qCAs Z74 qCAv Z79 Zoj Zlz Z75 Zda qCAp Zdb qCAn Z76 Zop qCAt Z7y Zcn Zow qCAl Zo4 Zco Zox qCAh Zo5 Zcp Zoy qCAi Zo6 Zcq Zoz qCAa Zo7 Z7w Zok Zl0 Z77 Zoq qCAy Zor qCAu Z78 qCA7 qCA4 Zoh qCA2 qCAe qCAb qCA1 Zlx
 have hdec:decN (u:Int)=(Lib.decDigits u).map UInt8.toNat:=by
  unfold decN Lib.itoa
  rw [if_neg (by omega)]
  rfl
 by_cases hs:u<100
 · refine ⟨fun b=>b=true,⟨fun _=>⟨fun _=>rfl,fun h=> ?_⟩,fun h=> ?_⟩,fun _=>⟨⟨by omega,by omega⟩,fun y hy=>hy⟩,fun h=>by cases h⟩
   · exact absurd h (by simp;omega)
   · exact absurd h (by simp)
 refine ⟨fun b=>b=false,⟨fun _=>⟨fun h=> ?_,fun _=>rfl⟩,fun _=>rfl⟩,fun h=>(by cases h),fun _=>⟨fun h=> ?_,fun _=> ?_⟩⟩
 · exact absurd h (by simp;omega)
 · exact absurd h (by simp)
 have e64:wr .u64 (u:Int)=u:=by rw [wu64];omega
 have hneg:decide ((u:Int)<0)=false:=by simp
 simp only [e64,hneg,Bool.false_eq_true,false_implies,true_implies,true_and,Int.toNat_natCast,and_true]
 rw [hdec]
 have hp:=Lib.lt_pow_nDigits u
 refine ⟨⟨by omega,by omega⟩,?_⟩
 repeat' apply And.intro
 all_goals
  intro hnd
  have hnd:=Int.ofNat.inj hnd
  rw [Z2h u _ hnd]
  rw [hnd] at hp
  simp only [Nat.reducePow] at hp
  clear hnd hdec e64 hneg
  simp (disch:=omega) only [wu64,wu32,wu8,Int.tmod_eq_emod_of_nonneg,Int.tdiv_eq_ediv_of_nonneg]
  simp (disch:=omega) only [Int.emod_eq_of_lt]
  repeat' (first|(refine Ybl ?_ ?_ ?_)|omega)
  all_goals try simp only [List.range,List.range.loop,List.map_cons,List.map_nil,dgN,List.cons.injEq,and_true,Nat.reduceSub,Nat.reducePow]
  all_goals (repeat' apply And.intro)
  all_goals try simp (disch:=omega) only [smE,smO]
  all_goals first|trivial|omega
end
section
open Go.RowKit
section
variable {Y : Thy} {E : Eng Y}
def celS (E:Eng Y) (th:Y.Th) (st:Option (List (Y.dom th)×Nat)) (c:Nat):SV Y:=
 match st with
 |some p=> .sl c 0 p.1.length (E.w th) none
 |none=> .val (.slice none 0 0)
def hpP (E:Eng Y) (th:Y.Th) (st:Option (List (Y.dom th)×Nat)):Hp Y:=fun b=>
 match Nat.beq b 0 with
 |true=>some (.raw [celS E th st 1] 0 none)
 |false=>(match Nat.beq b 1 with
  |true=>(match st with|some p=>some (.rows th p.1 p.2)|none=>none)
  |false=>none)
def fzO {α:Type} (st:Option (α×Nat)):Nat:=match st with|some p=>p.2|none=>0
def mdO {α:Type} (st:Option (α×Nat)) (b c:Nat):List Nat:=match st with|some _=> [b,c]|none=> [b]
def prnR (E:Eng Y) (th:Y.Th) (st:Option (List (Y.dom th)×Nat)) (b c i:Nat) (l':List (Y.dom th)):Res Y:=
 ⟨.tup [],1,mdO st b c,fun x=>match Nat.beq x b with|true=>some (.raw [.sl i 0 l'.length (E.w th) none] 0 none)|false=>at1 i (some (.rows th l' (fzO st))) x,none⟩
def PrnC (E:Eng Y) (f:Nat) (th:Y.Th) (args:List (SV Y)) (st:Option (List (Y.dom th)×Nat)) (l':List (Y.dom th)):Prop:=
 ∀(b c:Nat) (h:Hp Y) (i:Nat) (tg:Option Y.Th),h b=some (.raw [celS E th st c] 0 tg)->(∀p,st=some p->h c=some (.rows th p.1 p.2)/\b≠c)->Uw E f (.ptr b 0::args) h i (prnR E th st b c i l')
def prnK (E:Eng Y) (th:Y.Th) (st:Option (List (Y.dom th)×Nat)) (l':List (Y.dom th)) (r:Res Y):Prop:=
 match r.v,patch (hpP E th st) 2 r 0 with
 | .tup [],some (.raw [.sl c 0 n w none] 0 _)=>
  (match Nat.ble 1 c&&Nat.beq w (E.w th),patch (hpP E th st) 2 r c with
  |true,some (.rows th' L fz')=>Za7 L fun L=>L=l'/\n=l'.length/\fz'=fzO st
  |_,_=>False)
 |_,_=>False
theorem Yde (th:Y.Th) (st:Option (List (Y.dom th)×Nat)):hpP E th st 0=some (.raw [celS E th st 1] 0 none):=rfl
theorem U2 {th:Y.Th} {st:Option (List (Y.dom th)×Nat)} {x:Nat} {y:Blk Y} (h:hpP E th st x=some y):(x=0/\y= .raw [celS E th st 1] 0 none)\/(x=1/\∃p,st=some p/\y= .rows th p.1 p.2):=by
 match x,h with
 |0,h=>rw [Yde] at h;cases h;exact .inl ⟨rfl,rfl⟩
 |1,h=>
  cases st with
  |none=>cases h
  |some p=>
   have h:some (Blk.rows th p.1 p.2:Blk Y)=some y:=h
   cases h
   exact .inr ⟨rfl,p,rfl,rfl⟩
 |x+2,h=>cases h
theorem Z66 (th:Y.Th) (st:Option (List (Y.dom th)×Nat)):DomLt (hpP E th st) 2:=fun b hb=>by
 obtain ⟨y,hy⟩:=Option.ne_none_iff_exists'.1 hb
 rcases U2 hy with ⟨rfl,_⟩|⟨rfl,_⟩<;>omega
def σP {α:Type} (st:Option α) (σ:Pl) (b c:Nat):Pl:=fun x=>
 match Nat.beq x 0 with
 |true=>σ b
 |false=>(match Nat.beq x 1 with
  |true=>(match st with|some _=>σ c|none=>none)
  |false=>none)
theorem σP_cases {α:Type} {st:Option α} {σ:Pl} {b c x:Nat} {q:Nat×Nat} (h:σP st σ b c x=some q):(x=0/\σ b=some q)\/(x=1/\(∃p,st=some p)/\σ c=some q):=by
 match x,h with
 |0,h=>exact .inl ⟨rfl,h⟩
 |1,h=>
  cases st with
  |none=>cases h
  |some p=>exact .inr ⟨rfl,⟨p,rfl⟩,h⟩
 |x+2,h=>cases h
theorem mdO_mem {α:Type} {st:Option (α×Nat)} {b c x:Nat}:x∈mdO st b c↔x=b\/(x=c/\∃p,st=some p):=by
 cases st with
 |none=>simp [mdO]
 |some p=>simp [mdO]
open Classical in
theorem Zdo (hE:EngOk E) {call:Nat->List (SV Y)->Hp Y->Nat->(Res Y->Prop)->Prop} (hcall:Vq E call) {f:Nat} {th:Y.Th} {args:List (SV Y)} {st:Option (List (Y.dom th)×Nat)} {l':List (Y.dom th)} (ha:nidL 0 args=true)
 (hk:call f (.ptr 0 0::args) (hpP E th st) 2 (prnK E th st l')):PrnC E f th args st l':=by
 intro b c h i tg hb hc
 obtain ⟨r,hr,hR,htri⟩:=hcall f _ _ _ _ (Z66 th st) hk
 have hmods:∀x∈r.mods,x=0\/(x=1/\∃p,st=some p):=by
  intro x hx
  obtain ⟨y,hy⟩:=Option.ne_none_iff_exists'.1 (hR x hx)
  rcases U2 hy with ⟨h1,_⟩|⟨h1,p,h2,_⟩
  · exact .inl h1
  · exact .inr ⟨h1,p,h2⟩
 unfold prnK at hr
 split at hr
 case h_2=>exact hr.elim
 rename_i c' n' w' tg' hv hp0
 split at hr
 case h_2=>exact hr.elim
 rename_i th' L fz' hc1 hpc
 obtain ⟨e,hr⟩:=Xm hr
 subst e
 obtain ⟨rfl,rfl,rfl⟩:l'=L/\n'=l'.length/\fz'=fzO st:=⟨hr.1.symm,hr.2⟩
 rw [Bool.and_eq_true,Nat.ble_eq] at hc1
 obtain ⟨hc1,hw⟩:=hc1
 have hw:=Nat.eq_of_beq_eq_true hw
 subst hw
 replace htri:Uw E f (.ptr 0 0::args) (hpP E th' st) 2 r:=htri.resolve_right (by rintro ⟨p,hp,_⟩;rw [hv] at hp;cases hp)
 intro B σ g W vals hh hrd hI hB hfree hd
 obtain rfl:hh=h:=funext fun b=>hrd b trivial
 obtain ⟨rb,zb,hσb,hbo⟩:=hI.blk b _ hb
 have hbn:hh b≠none:=by rw [hb];simp
 have F0:σP st σ b c 0=σ b:=rfl
 have F1:∀p,st=some p->σP st σ b c 1=σ c:=by rintro p rfl;rfl
 have bc:∀p,st=some p->b≠c:=fun p hp=>(hc p hp).2
 have cn:∀p,st=some p->hh c≠none:=fun p hp=>by rw [(hc p hp).1];simp
 have reg:∀p q z z',st=some p->σ b=some (q,z)->σ c=some (q,z')->False:=fun p q z z' hp h1 h2=>bc p hp (hI.inj b c q z z' hbn (cn p hp) h1 h2)
 have hI1:Inv E B (σP st σ b c) (hpP E th' st) g W:=by
  refine ⟨hI.gc,hI.gm,fun x y hx=> ?_,fun x x' r z z' h1 h2 h3 h4=> ?_,fun x r' z' hs=> ?_,fun x y r' z' o v hx hs hv=> ?_,fun x y r' z' hx hs=> ?_,hI.glob⟩
  · rcases U2 hx with ⟨rfl,rfl⟩|⟨rfl,p,hp,rfl⟩
    · refine ⟨rb,zb,hσb,?_⟩
      obtain ⟨arr,e,k1,k2,k3,k4,k5⟩:=hbo
      refine ⟨arr,e,k1,k2,k3,fun j sv hj=> ?_,trivial⟩
      cases j with
      |succ j=>cases hj
      |zero=>
       have hj:some (celS E th' st 1)=some sv:=hj
       cases hj
       obtain ⟨v,m1,m2⟩:=k4 0 _ (show ([celS E th' st c]:List (SV Y))[0]? =some _ from rfl)
       refine ⟨v,m1,?_⟩
       cases st with
       |none=>exact Z7 hE m2 (fun b p hb=>by omega) (show nid 0 (celS E th' none 1)=true from rfl)
       |some p=>
        obtain ⟨r1,z1,c1,rfl,k1,k2,k3,k4,k5⟩:=Zaz (show Den E σ g (.sl c 0 p.1.length (E.w th') none) v from m2)
        exact .sl (E:=E) (b:=1) k1 k2 k3 k4 k5
    · obtain ⟨r1,z1,k1,arr,e,k2,k3,k4,k5,k6⟩:=hI.blk c _ (hc p hp).1
      refine ⟨r1,z1,(F1 p hp).trans k1,arr,e,k2,k3,k4,fun j sv hj=> ?_,k6⟩
      obtain ⟨v,m1,m2⟩:=k5 j sv hj
      have hn:nid 0 sv=true:=by
       obtain ⟨q,p,x,rfl,hp,hq,hs⟩:=Xq hE th' _ hj
       exact Zr (hE.encI _ _ _) hs
      exact ⟨v,m1,Z7 hE m2 (fun b p hb=>by omega) hn⟩
  · rcases σP_cases h3 with ⟨rfl,h3⟩|⟨rfl,⟨p,hp⟩,h3⟩<;>rcases σP_cases h4 with ⟨rfl,h4⟩|⟨rfl,⟨p',hp'⟩,h4⟩
    · rfl
    · exact (reg p' _ _ _ hp' h3 h4).elim
    · exact (reg p _ _ _ hp h4 h3).elim
    · rfl
  · rcases σP_cases hs with ⟨rfl,hs⟩|⟨rfl,_,hs⟩
    · exact hI.base b _ _ hs
    · exact hI.base c _ _ hs
  · rcases U2 hx with ⟨rfl,rfl⟩|⟨rfl,p,hp,rfl⟩
    · have h2:o<0:=hI.fz b _ _ _ o v hb hs hv
      omega
    · rw [F1 p hp] at hs
      exact hI.fz c _ _ _ o v (hc p hp).1 hs hv
  · rcases U2 hx with ⟨rfl,rfl⟩|⟨rfl,p,hp,rfl⟩
    · exact hI.fm b _ _ _ hb hs
    · rw [F1 p hp] at hs
      exact hI.fm c _ _ _ (hc p hp).1 hs
 have hd1:DenL E (σP st σ b c) g (.ptr 0 0::args) vals.toList:=by
  refine ⟨by rw [<-hd.1];rfl,fun j sv u h1 h2=> ?_⟩
  cases j with
  |zero=>
   simp at h1;subst h1
   have:=hd.2 0 _ u rfl h2
   cases this
   rename_i hs
   exact .ptr (E:=E) (b:=0) hs
  |succ j=>
   have h1:args[j]? =some sv:=by simpa using h1
   exact Z7 hE (hd.2 (j+1) sv u (by simpa using h1) h2) (fun b p hb=>by omega) (Zr ha h1)
 refine (htri B _ g W vals _ (fun _ _=>rfl) hI1 hB (fun x h1 h2=>by match x,h1 with|x+2,_=>rfl) hd1).mono ?_
 rintro en w' ⟨u,he,σ',g',hS,hI',hv'⟩
 have hs0:σ' 0=some (rb,zb):=hS.sig 0 _ hσb
 obtain ⟨r1,z1,k1⟩:∃r1 z1,σ' c'=some (r1,z1):=by
  obtain ⟨r1,z1,m1,_⟩:=hI'.blk c' _ hpc
  exact ⟨r1,z1,m1⟩
 have hc0:c'≠0:=by omega
 have hne0:patch (hpP E th' st) 2 r 0≠none:=by rw [hp0];simp
 have hnec:patch (hpP E th' st) 2 r c'≠none:=by rw [hpc];simp
 have hrb:r1≠rb:=by
  rintro rfl
  exact hc0 (hI'.inj c' 0 _ _ _ hnec hne0 k1 hs0)
 have hr1:W.heap.size<=r1\/∃z' p,st=some p/\σ c=some (r1,z'):=by
  cases hs1:σP st σ b c c' with
  |some q=>
   have:=hS.sig c' _ hs1
   rw [k1] at this;cases this
   rcases σP_cases hs1 with ⟨h0,_⟩|⟨_,⟨p,hp⟩,h2⟩
   · exact absurd h0 hc0
   · exact .inr ⟨z1,p,hp,h2⟩
  |none=>
   rcases hS.blk c' r1 z1 hs1 k1 with h1|⟨b',h1,z',h2⟩
   · exact .inl h1
   · rcases σP_cases h2 with ⟨rfl,h3⟩|⟨_,⟨p,hp⟩,h3⟩
     · rw [hσb] at h3;cases h3;exact absurd rfl hrb
     · exact .inr ⟨z',p,hp,h3⟩
 have hheap:∀q,q<W.heap.size->q≠rb->(∀p z,st=some p->σ c≠some (q,z))->w'.heap[q]? =W.heap[q]? :=by
  intro q hq hne hne2
  refine hS.heap q hq fun b' hb' z' hz'=> ?_
  rcases σP_cases hz' with ⟨rfl,h2⟩|⟨_,⟨p,hp⟩,h2⟩
  · rw [hσb] at h2;cases h2;exact hne rfl
  · exact hne2 p z' hp h2
 have hi:σ i=none:=hfree i (Nat.le_refl _) (by show i<i+1;omega)
 have hbi:b≠i:=by rintro rfl;rw [hσb] at hi;cases hi
 have hci:∀p,st=some p->c≠i:=by
  rintro p hp rfl
  obtain ⟨r2,z2,m1,_⟩:=hI.blk c _ (hc p hp).1
  rw [hi] at m1;cases m1
 have hpatch:∀x,patch hh i (prnR E th' st b c i l') x=if x=b then some (.raw [.sl i 0 l'.length (E.w th') none] 0 none) else if x=i then some (.rows th' l' (fzO st)) else if x=c/\(∃p,st=some p) then none else hh x:=by
  intro x
  rw [Zi]
  by_cases e1:x=b
  · subst e1
    rw [if_pos (.inl (mdO_mem.2 (.inl rfl))),if_pos rfl]
    show (match Nat.beq x x with|true=>_|false=>_)=_
    rw [Nat.beq_refl]
  · rw [if_neg e1]
    have hb1:Nat.beq x b=false:=by
     cases e:Nat.beq x b with
     |true=>exact absurd (Nat.eq_of_beq_eq_true e) e1
     |false=>rfl
    have hh1:(prnR E th' st b c i l').h x=at1 i (some (.rows th' l' (fzO st))) x:=by
     show (match Nat.beq x b with|true=>_|false=>_)=_
     rw [hb1]
    by_cases e2:x=i
    · subst e2
      rw [if_pos (.inr ⟨Nat.le_refl _,(by show x<x+1;omega)⟩),if_pos rfl,hh1]
      unfold at1
      rw [Nat.beq_refl]
    · rw [if_neg e2]
      have hat:at1 i (some (.rows th' l' (fzO st):Blk Y)) x=none:=by
       unfold at1
       cases e:Nat.beq x i with
       |true=>exact absurd (Nat.eq_of_beq_eq_true e) e2
       |false=>rfl
      by_cases e3:x=c/\∃p,st=some p
      · rw [if_pos e3,if_pos (.inl (mdO_mem.2 (.inr e3))),hh1,hat]
      · rw [if_neg e3,if_neg]
        rintro (k|k)
        · rcases mdO_mem.1 k with k|k
          · exact e1 k
          · exact e3 k
        · have k:i<=x/\x<i+1:=k
          omega
 have src:∀x y,patch hh i (prnR E th' st b c i l') x=some y->(x=b/\y= .raw [.sl i 0 l'.length (E.w th') none] 0 none)\/(x=i/\y= .rows th' l' (fzO st))\/(x≠i/\x≠b/\(∀p,st=some p->x≠c)/\hh x=some y):=by
  intro x y hy
  rw [hpatch] at hy
  split at hy
  · rename_i e
    cases hy
    exact .inl ⟨e,rfl⟩
  · rename_i e
    split at hy
    · rename_i e2
      cases hy
      exact .inr (.inl ⟨e2,rfl⟩)
    · rename_i e2
      split at hy
      · cases hy
      · rename_i e3
        exact .inr (.inr ⟨e2,e,fun p hp hx=>e3 ⟨hx,p,hp⟩,hy⟩)
 have sgi:(match Nat.beq i i with|true=>σ' c'|false=>σ i)=some (r1,z1):=by rw [Nat.beq_refl];exact k1
 have sgx:∀x,x≠i->(match Nat.beq x i with|true=>σ' c'|false=>σ x)=σ x:=by
  intro x hx
  cases e:Nat.beq x i with
  |true=>exact absurd (Nat.eq_of_beq_eq_true e) hx
  |false=>rfl
 have far:∀x y q z',x≠b->(∀p,st=some p->x≠c)->hh x=some y->σ x=some (q,z')->q<W.heap.size/\q≠rb/\(∀p z,st=some p->σ c≠some (q,z)):=by
  intro x y q z' hx hx2 hy hs
  have hxn:hh x≠none:=by rw [hy];simp
  refine ⟨(hI.base x q z' hs).2,?_,fun p z hp hq=>hx2 p hp (hI.inj x c _ _ _ hxn (cn p hp) hs hq)⟩
  rintro rfl
  exact hx (hI.inj x b _ _ _ hxn hbn hs hσb)
 have far1:∀x y q z',x≠b->(∀p,st=some p->x≠c)->hh x=some y->σ x=some (q,z')->q≠r1:=by
  rintro x y q z' hx hx2 hy hs rfl
  obtain ⟨m1,m2,m3⟩:=far x y q z' hx hx2 hy hs
  rcases hr1 with h1|⟨z2,p,hp,h1⟩
  · omega
  · exact m3 p z2 hp h1
 have far0:rb<W.heap.size:=(hI.base b _ _ hσb).2
 refine ⟨_,he,fun x=>match Nat.beq x i with|true=>σ' c'|false=>σ x,g',⟨fun x p hx=> ?_,fun x p hx=> ?_,hS.gle,fun q o v hv=> ?_,hS.gmnew,fun q hq hne=> ?_,hS.size,hS.os,hS.tape,hS.output,fun x q z' hx hx'=> ?_⟩,?_,?_⟩
 · exact (sgx x (fun e=>by rw [e,hi] at hx;cases hx)).trans hx
 · by_cases e:x=i
   · exact .inr (by show i<=x/\x<i+1;omega)
   · have hx:(match Nat.beq x i with|true=>σ' c'|false=>σ x)=some p:=hx
     rw [sgx x e] at hx
     exact .inl hx
 · rcases hS.gcnew q o v hv with h1|h1|⟨b',h1,z',h2⟩
   · exact .inl h1
   · exact .inr (.inl h1)
   · rcases σP_cases h2 with ⟨rfl,h2⟩|⟨_,hp,h2⟩
     · exact .inr (.inr ⟨b,mdO_mem.2 (.inl rfl),_,h2⟩)
     · exact .inr (.inr ⟨c,mdO_mem.2 (.inr ⟨rfl,hp⟩),_,h2⟩)
 · exact hheap q hq (fun e=>hne b (mdO_mem.2 (.inl rfl)) zb (by rw [hσb,e])) fun p z hp=>hne c (mdO_mem.2 (.inr ⟨rfl,p,hp⟩)) z
 · have hx':(match Nat.beq x i with|true=>σ' c'|false=>σ x)=some (q,z'):=hx'
   by_cases e:x=i
   · subst e
     rw [sgi] at hx';cases hx'
     rcases hr1 with h1|⟨z2,p,hp,h1⟩
     · exact .inl h1
     · exact .inr ⟨c,mdO_mem.2 (.inr ⟨rfl,p,hp⟩),z2,h1⟩
   · rw [sgx x e,hx] at hx';cases hx'
 · refine ⟨hI'.gc,hI'.gm,fun x y hx=> ?_,fun x x' q z1' z2' h1 h2 h3 h4=> ?_,fun x q z' hs=> ?_,fun x y q z' o v hx hs hv=> ?_,fun x y q z' hx hs=> ?_,hI'.glob⟩
   · rcases src x y hx with ⟨rfl,rfl⟩|⟨rfl,rfl⟩|⟨e1,e2,e3,e4⟩
     · refine ⟨rb,zb,(sgx x hbi).trans hσb,?_⟩
       obtain ⟨r2,z2,m1,arr,e,n1,n2,n3,n4,n5⟩:=hI'.blk 0 _ hp0
       rw [hs0] at m1;cases m1
       refine ⟨arr,e,n1,n2,n3,fun j sv hj=> ?_,trivial⟩
       cases j with
       |succ j=>cases hj
       |zero=>
        have hj:some (SV.sl i 0 l'.length (E.w th') none:SV Y)=some sv:=hj
        cases hj
        obtain ⟨v,q1,q2⟩:=n4 0 _ (show ([.sl c' 0 l'.length (E.w th') none]:List (SV Y))[0]? =some _ from rfl)
        refine ⟨v,q1,?_⟩
        obtain ⟨r3,z3,c3,rfl,u1,u2,u3,u4,u5⟩:=Zaz (show Den E σ' g' (.sl c' 0 l'.length (E.w th') none) v from q2)
        refine .sl (E:=E) (b:=i) (z:=z3) ?_ u2 u3 u4 u5
        show (match Nat.beq i i with|true=>σ' c'|false=>σ i)=_
        rw [Nat.beq_refl]
        exact u1
     · refine ⟨r1,z1,sgi,?_⟩
       obtain ⟨r2,z2,m1,m2⟩:=hI'.blk c' _ hpc
       rw [k1] at m1;cases m1
       obtain ⟨arr,e,m1,m3,m4,m5,m6⟩:=m2
       refine ⟨arr,e,m1,m3,m4,fun j sv hj=> ?_,m6⟩
       obtain ⟨v,n1,n2⟩:=m5 j sv hj
       have hn:nid 0 sv=true:=by
        obtain ⟨q,p,x,rfl,hp,hq,hs⟩:=Xq hE th' _ hj
        exact Zr (hE.encI _ _ _) hs
       exact ⟨v,n1,Z7 hE n2 (fun b p hb=>by omega) hn⟩
     · obtain ⟨q,z',m1,m2⟩:=hI.blk x y e4
       obtain ⟨m3,m4,m5⟩:=far x y q z' e2 e3 e4 m1
       refine ⟨q,z',(sgx x e1).trans m1,?_⟩
       refine m2.mono (fun x p hx=> ?_) hS.gle (hheap q m3 m4 m5)
       show (match Nat.beq x i with|true=>σ' c'|false=>σ x)=some p
       rw [sgx x (fun e=>by rw [e,hi] at hx;cases hx)]
       exact hx
   · obtain ⟨y,hy⟩:=Option.ne_none_iff_exists'.1 h1
     obtain ⟨y',hy'⟩:=Option.ne_none_iff_exists'.1 h2
     rcases src x y hy with ⟨rfl,rfl⟩|⟨rfl,rfl⟩|⟨e1,e2,e3,e4⟩<;>rcases src x' y' hy' with ⟨rfl,rfl⟩|⟨rfl,rfl⟩|⟨d1,d2,d3,d4⟩
     · rfl
     · rw [sgx x hbi,hσb] at h3;cases h3
       rw [sgi] at h4;cases h4
       exact absurd rfl hrb
     · rw [sgx x hbi,hσb] at h3;cases h3
       rw [sgx x' d1] at h4
       exact absurd rfl (far x' y' _ _ d2 d3 d4 h4).2.1
     · rw [sgi] at h3;cases h3
       rw [sgx x' hbi,hσb] at h4;cases h4
       exact absurd rfl hrb
     · rfl
     · rw [sgi] at h3;cases h3
       rw [sgx x' d1] at h4
       exact absurd rfl (far1 x' y' _ _ d2 d3 d4 h4)
     · rw [sgx x' hbi,hσb] at h4;cases h4
       rw [sgx x e1] at h3
       exact absurd rfl (far x y _ _ e2 e3 e4 h3).2.1
     · rw [sgi] at h4;cases h4
       rw [sgx x e1] at h3
       exact absurd rfl (far1 x y _ _ e2 e3 e4 h3)
     · rw [sgx x e1] at h3
       rw [sgx x' d1] at h4
       exact hI.inj x x' q _ _ (by rw [e4];simp) (by rw [d4];simp) h3 h4
   · by_cases e:x=i
     · subst e
       rw [sgi] at hs;cases hs
       exact hI'.base c' _ _ k1
     · rw [sgx x e] at hs
       exact ⟨(hI.base x q z' hs).1,Nat.lt_of_lt_of_le (hI.base x q z' hs).2 hS.size⟩
   · rcases src x y hx with ⟨rfl,rfl⟩|⟨rfl,rfl⟩|⟨e1,e2,e3,e4⟩
     · rw [sgx x hbi,hσb] at hs;cases hs
       have h2:o<0:=hI'.fz 0 _ _ _ o v hp0 hs0 hv
       omega
     · rw [sgi] at hs;cases hs
       exact hI'.fz c' _ _ _ o v hpc k1 hv
     · rw [sgx x e1] at hs
       obtain ⟨m3,m4,m5⟩:=far x y q z' e2 e3 e4 hs
       rcases hS.gcnew q o v hv with h1|h1|⟨b',h1,z2,h2⟩
       · exact hI.fz x y q z' o v e4 hs h1
       · omega
       · rcases σP_cases h2 with ⟨rfl,h3⟩|⟨_,⟨p,hp⟩,h3⟩
         · rw [hσb] at h3;cases h3;exact absurd rfl m4
         · exact absurd h3 (m5 p z2 hp)
   · rcases src x y hx with ⟨rfl,rfl⟩|⟨rfl,rfl⟩|⟨e1,e2,e3,e4⟩
     · rw [sgx x hbi,hσb] at hs;cases hs
       exact hI'.fm 0 _ _ _ hp0 hs0
     · rw [sgi] at hs;cases hs
       exact hI'.fm c' _ _ _ hpc k1
     · rw [sgx x e1] at hs
       obtain ⟨m3,m4,m5⟩:=far x y q z' e2 e3 e4 hs
       cases hg':g'.obj q with
       |none=>rfl
       |some es=>
        rcases hS.gmnew q es hg' with k|k
        · rw [hI.fm x y q z' e4 hs] at k;cases k
        · omega
 · rw [hv] at hv'
   exact Z7 hE hv' (fun b p hb=>by omega) (show nid 0 (SV.tup ([]:List (SV Y)))=true from rfl)
def sumB (E:Eng Y) (th:Y.Th) {α:Type} (d:DcL E α) (pre:List (Y.dom th)->α->Prop) (f:List (Y.dom th)->α->List (Y.dom th)):Sum Y:=fun args h i k=>
 match args with
 | .ptr b 0::rest=>
  (match h b,d.dec rest with
  |some (.raw [.sl c 0 len w none] 0 _),some x=>
   (match h c,Nat.beq w (E.w th)&& !(Nat.beq b c) with
   |some (.rows th' l fz),true=>Za7 l fun l=>(len=l.length/\fz<=l.length/\pre l x)/\∀l',l'=f l x->k (prnR E th (some (l,fz)) b c i l')
   |_,_=>False)
  |some (.raw [.val (.slice none 0 0)] 0 _),some x=>pre [] x/\∀l',l'=f [] x->k (prnR E th none b 0 i l')
  |_,_=>False)
 |_=>False
def Ydf (E:Eng Y) (f:Nat) (th:Y.Th) (args:List (SV Y)) (F:List (Y.dom th)->List (Y.dom th)) (P:List (Y.dom th)->Prop):Prop:=
 (∀l fz,fz<=l.length->P l->PrnC E f th args (some (l,fz)) (F l))/\(P []->PrnC E f th args none (F []))
theorem PrnC.of_dec {α:Type} {d:DcL E α} {f:Nat} {th:Y.Th} {args:List (SV Y)} {x:α} {st:Option (List (Y.dom th)×Nat)} {l':List (Y.dom th)} (hd:d.dec args=some x) (h:PrnC E f th (d.enc x) st l'):PrnC E f th args st l':=by
 obtain ⟨k1,k2,k3⟩:=d.ok _ _ hd
 intro b c hp i tg h1 h2 B σ g w vals hh hrd hI hB hfree hden
 refine h b c hp i tg h1 h2 B σ g w vals hh hrd hI hB hfree ⟨?_,fun j sv' u h5 h6=> ?_⟩
 · rw [<-hden.1,List.length_cons,List.length_cons,k2]
 · cases j with
   |zero=>exact hden.2 0 sv' u h5 h6
   |succ j=>
    obtain ⟨sv,h7,h8⟩:=k3 σ g j sv' (by simpa using h5)
    exact h8 u (hden.2 (j+1) sv u (by simpa using h7) h6)
theorem Zix (hE:EngOk E) {th:Y.Th} {α:Type} {f:Nat} (hg:FnGood E.P f) {d:DcL E α} {pre:List (Y.dom th)->α->Prop} {F:List (Y.dom th)->α->List (Y.dom th)} (hp:∀x,Ydf E f th (d.enc x) (fun l=>F l x) (fun l=>pre l x)):SumOk E f (sumB E th d pre F):=by
 refine ⟨hg,fun args h i k hD hk=> ?_⟩
 unfold sumB at hk
 split at hk
 case h_2=>exact hk.elim
 rename_i b rest
 split at hk
 case h_3=>exact hk.elim
 · rename_i c len w tg x hb hx
   split at hk
   case h_2=>exact hk.elim
   rename_i th' l fz hc hw
   rw [Bool.and_eq_true,Bool.not_eq_true'] at hw
   obtain ⟨hw,hbc⟩:=hw
   have hw:=Nat.eq_of_beq_eq_true hw
   have hbc:=nb hbc
   obtain ⟨e,hk2⟩:=Xm hk
   clear hk
   subst e
   subst hw
   obtain ⟨⟨rfl,hfz,hpr⟩,hk3⟩:=hk2
   refine ⟨_,hk3 _ rfl,fun b' hb'=> ?_,.inl (PrnC.of_dec hx ((hp x).1 l fz hfz hpr) b c h i tg hb fun p hp=> ?_)⟩
   · rcases mdO_mem.1 (show b'∈mdO (some (l,fz)) b c from hb') with rfl|⟨rfl,_⟩
     · rw [hb];simp
     · rw [hc];simp
   · cases hp
     exact ⟨hc,hbc⟩
 · rename_i tg x hb hx
   obtain ⟨hpr,hk3⟩:=hk
   refine ⟨_,hk3 _ rfl,fun b' hb'=> ?_,.inl (PrnC.of_dec hx ((hp x).2 hpr) b 0 h i tg hb fun p hp=>by cases hp)⟩
   rcases mdO_mem.1 (show b'∈mdO (none:Option (List (Y.dom th)×Nat)) b 0 from hb') with rfl|⟨_,_,h2⟩
   · rw [hb];simp
   · cases h2
end
end
section
open Go
theorem Zzc {F:Fns thy} (hF:FnsOk E F) {n:Nat} {f:Nat} {th:Th} {args:List (SV thy)} {st:Option (List (thy.dom th)×Nat)} {l':List (thy.dom th)} (ha:nidL 0 args=true) (hk:Zl E F (vc E F n) f (.ptr 0 0::args) (hpP E th st) 2 (prnK E th st l')):PrnC E f th args st l':=
 Zdo E_ok (Zh E_ok hF n) ha hk
def Aixi:Fr thy->Hp thy->Nat->Ann thy:=fun T h i=>{X:=LX,fr:=fun x=> [(0,T 0),(1,T 1),(7,T 7),(8,.int false .i64 x.k)],bl:=fun x=> [],src:=fun _=> [],md:= [],ih:=i,M:=i+30,meas:=fun x=>x.r}
noncomputable def Fixi:Fns thy:=addL F0 149 2 Aixi E
theorem Z24 (l:List Int) (s:Int) (v:Int):Zl E Fixi (vc E Fixi 400) 149 [.psl Th.dimc l false,.int false .i64 s] hp0 0 (fun r=>ret E (patch hp0 0 r) r.v (.int false .i64 v))=(
∃(R:LX->Prop),(∃(x:LX),R x/\true=true/\((l=l/\(false=true->false=true))/\s=s/\(↑(List.length l):Int)=(↑(List.length l):Int)/\(0:Int)=(↑(LX.k x):Int)/\True)/\True)/\∀(x:LX),R x->(decide ((↑(LX.k x):Int)<(↑(List.length l):Int))=true->(0:Int)<=(↑(LX.k x):Int)/\(↑(LX.k x):Int)+(1:Int)<=(↑(List.length l):Int)/\∀(x_1:Int),l[Int.toNat (↑(LX.k x):Int)]? =some x_1->((s==x_1)=true->(↑(LX.k x):Int)=v)/\((s==x_1)=false->∃(x_2:LX),R x_2/\x_2.2+(1:Nat)<=x.2/\true=true/\((l=l/\(false=true->false=true))/\s=s/\(↑(List.length l):Int)=(↑(List.length l):Int)/\wr IntKind.i64 ((↑(LX.k x):Int)+(1:Int))=(↑(LX.k x_2):Int)/\True)/\True))/\(decide ((↑(LX.k x):Int)<(↑(List.length l):Int))=false->(-1:Int)=v)):=by kernel_rfl
noncomputable def dIs:Dc E (List Int):=(Zsl (E:=E) Th.dimc:Dc E (List (thy.dom Th.dimc)))
noncomputable def Sixi:Sum thy:=Zlo E (fun _=>none) 2 (V6 (dA2 dIs dN) (fun x=>x.1.length<=1000000000) (fun x=>idxI x.2.1 0 x.1) fun y=> .int false .i64 y)
noncomputable def Yb1:Sum thy:=V6 (dA1 dN) (fun x=>0<=x.1/\x.1<10000000000000) (fun x=>decN x.1) fun y=> .str false y
noncomputable def Fpu:Fns thy:=addS (addS (addS F0 42 Zdc) 149 Sixi) 117 Yb1
abbrev qCD4:=(0:Int)
abbrev qCD6:=(↑(4:Nat):Int)
abbrev qCD3:=(Int.toNat qCD6-Int.toNat qCD4)
abbrev qCD1 (a0:Int) (b0:Int) (c0:Int) (d0:Int):=(List.take qCD3 (List.drop (Int.toNat qCD4) [a0,b0,c0,d0]))
abbrev qCD2:=((4:Nat)=(4:Nat)/\qCD4<=qCD4/\qCD4<=qCD6/\qCD6<=qCD6/\(qCD4+(1:Int)<=qCD6\/qCD4=qCD4))
abbrev qCD5:=(↑(List.length (WK.words WK.un)):Int)
theorem Zuj (l:List (List Nat)) (fz:Nat) (a b c d:Int) (l':List (List Nat)):Zl E Fpu (vc E Fpu 400) 119 [.ptr 0 0,dimA a b c d] (hpP E Th.strs (some (l,fz))) 2 (prnK E Th.strs (some (l,fz)) l')=(
 qCD2/\Int.toNat qCD4+qCD3<=(4:Nat)/\List.length (qCD1 a b c d)<=(1000000000:Nat)/\∀(y:Int),y=idxI (1:Int) (0:Nat) (qCD1 a b c d)->(decide (y>=qCD4)=true->qCD4<=y/\y+(1:Int)<=qCD5/\∀(x:List Nat),(WK.words WK.un)[Int.toNat y]? =some x->(List.length l<=List.length l/\fz<=List.length l/\(List.length l+(1:Nat))*(16:Nat)<=(140737488355328:Nat))/\qCD2/\Int.toNat qCD4+qCD3<=(4:Nat)/\List.length (qCD1 a b c d)<=(1000000000:Nat)/\∀(y:Int),y=idxI (-1:Int) (0:Nat) (qCD1 a b c d)->(decide (y>=qCD4)=true->qCD4<=y/\y+(1:Int)<=qCD5/\∀(x_1:List Nat),(WK.words WK.un)[Int.toNat y]? =some x_1->(List.length l+(1:Nat)<=List.length (List.take (List.length l) l++ [x])/\fz<=List.length l+(1:Nat)/\(List.length l+(1:Nat)+(2:Nat))*(16:Nat)<=(140737488355328:Nat))/\List.take (List.length l+(1:Nat)) (List.take (List.length l) l++ [x])++ [[(112:Nat),(101:Nat),(114:Nat)],x_1]=l'/\List.length l+(1:Nat)+(2:Nat)=List.length l'/\fz=fzO (some (l,fz)))/\(decide (y>=qCD4)=false->List.take (List.length l) l++ [x]=l'/\List.length l+(1:Nat)=List.length l'/\fz=fzO (some (l,fz))))/\(decide (y>=qCD4)=false->qCD2/\Int.toNat qCD4+qCD3<=(4:Nat)/\List.length (qCD1 a b c d)<=(1000000000:Nat)/\∀(y:Int),y=idxI (-1:Int) (0:Nat) (qCD1 a b c d)->(decide (y>=qCD4)=true->qCD4<=y/\y+(1:Int)<=qCD5/\∀(x:List Nat),(WK.words WK.un)[Int.toNat y]? =some x->(List.length l<=List.length l/\fz<=List.length l/\(List.length l+(2:Nat))*(16:Nat)<=(140737488355328:Nat))/\List.take (List.length l) l++ [[(112:Nat),(101:Nat),(114:Nat)],x]=l'/\List.length l+(2:Nat)=List.length l'/\fz=fzO (some (l,fz)))/\(decide (y>=qCD4)=false->l=l'/\List.length l=List.length l'/\fz=fzO (some (l,fz))))):=by kernel_rfl
theorem Zzd {v:Int} {l:List Int}:∀{k:Nat} {x:Int},l[k]? =some x->idxI v k (l.drop k)=if v=x then (k:Int) else idxI v (k+1) (l.drop (k+1)):=by
 intro k x h
 rw [V3 h]
 rfl
theorem Z25 (l:List Int) (s:Int) (hl:l.length<=1000000000):PureC E 149 [.psl Th.dimc l false,.int false .i64 s] (.int false .i64 (idxI s 0 l)):=by
 have hF:FnsOk E Fixi:=Zy E_ok F0_ok _ _ _
 refine Za E_ok (Zh E_ok hF 400) ?_
 rw [Z24]
 simp only [and_true,true_and,decide_eq_true_eq,decide_eq_false_iff_not,beq_iff_eq,beq_eq_false_iff_ne,imp_self]
 refine ⟨fun x=>x.k<=l.length/\idxI s x.k (l.drop x.k)=idxI s 0 l/\x.r=l.length-x.k,⟨⟨0,l.length,[],0⟩,⟨(by dsimp only;omega),rfl,rfl⟩,rfl⟩,?_⟩
 rintro x ⟨hk,hv,hr⟩
 refine And.intro (fun hq=>⟨by omega,by omega,fun y hy=> ?_⟩) (fun hq=> ?_)
 · have hy:l[x.k]? =some y:=hy
   rw [Zzd hy] at hv
   refine ⟨fun e=> ?_,fun e=> ?_⟩
   · rw [if_pos e] at hv;exact hv
   · rw [if_neg e] at hv
     exact ⟨⟨x.k+1,l.length-(x.k+1),[],0⟩,⟨(by dsimp only;omega),hv,rfl⟩,by show l.length-(x.k+1)+1<=x.r;omega,wr64 (by omega) (by omega)⟩
 · rw [List.drop_eq_nil_of_le (by omega)] at hv
   exact hv
theorem Z8c:SumOk E 149 Sixi:=Zfr E_ok (Yg E_ok (Zc rfl) fun x h=>Z25 x.1 x.2.1 h)
theorem Z26:SumOk E 117 Yb1:=Yg E_ok (Zc rfl) fun x h=>by
 have:=Zym x.1.toNat (by omega)
 rw [show ((x.1.toNat:Nat):Int)=x.1 by omega] at this
 exact this
theorem Zrq:FnsOk E Fpu:=Zb (Zb (Zb F0_ok Zdd) Z8c) Z26
theorem Zo8:∀{v:Int} {l:List Int} {k:Nat},idxI v k l<k+l.length
 |v,[],k=>by unfold idxI;simp;omega
 |v,x::l,k=>by
  unfold idxI
  split
  · simp;omega
  · have:=Zo8 (v:=v) (l:=l) (k:=k+1)
    simp at this⊢;omega
theorem Zrr {y:Int} (h0:0<=y) {x:List Nat} (hx:(WK.words WK.un)[Int.toNat y]? =some x):WK.un.words.getD y.toNat []=x:=by
 simp [List.getD,hx]
theorem Z27 (l:List (List Nat)) (fz:Nat) (a b c d:Int) (hf:fz<=l.length) (hl:l.length+8<=1000000000):PrnC E 119 Th.strs [dimA a b c d] (some (l,fz)) (l++txU [a,b,c,d]):=by
 refine Zzc Zrq (n:=400) rfl ?_
 rw [Zuj];delta qCD4 qCD6 qCD3 qCD1 qCD2 qCD5
 have i1:=Zo8 (v:=1) (l:= [a,b,c,d]) (k:=0)
 have i2:=Zo8 (v:= -1) (l:= [a,b,c,d]) (k:=0)
 have L4:(WK.words WK.un).length=4:=rfl
 have l4:(List.length [a,b,c,d]:Int)=4:=rfl
 have e:List.take (Int.toNat (↑(4:Nat):Int)-Int.toNat (0:Int)) (List.drop (Int.toNat (0:Int)) [a,b,c,d])= [a,b,c,d]:=rfl
 rw [e]
 clear e
 refine ⟨by decide,by decide,by show 4<=1000000000;decide,fun y hy=>⟨fun h=> ?_,fun h=> ?_⟩⟩
 · have h:0<=y:=by simpa using h
   rw [<-hy] at i1
   refine ⟨h,by rw [L4];omega,fun x hx=>⟨⟨Nat.le_refl _,hf,by omega⟩,by decide,by decide,by show 4<=1000000000;decide,fun z hz=>⟨fun h2=> ?_,fun h2=> ?_⟩⟩⟩
   · have h2:0<=z:=by simpa using h2
     rw [<-hz] at i2
     refine ⟨h2,by rw [L4];omega,fun x2 hx2=>⟨⟨by simp,by omega,by omega⟩,?_⟩⟩
     have:txU [a,b,c,d]= [x,sPer,x2]:=by
      unfold txU
      rw [<-hy,<-hz,if_pos h,if_pos h2,Zrr h hx,Zrr h2 hx2]
      rfl
     rw [this,List.take_length]
     have e2:List.take (l.length+1) (l++ [x])=l++ [x]:=List.take_of_length_le (by simp)
     rw [e2]
     simp [sPer,fzO]
   · have h2:¬0<=z:=by simpa using h2
     have:txU [a,b,c,d]= [x]:=by
      unfold txU
      rw [<-hy,<-hz,if_pos h,if_neg h2,Zrr h hx]
      rfl
     rw [this]
     simp [fzO]
 · have h:¬0<=y:=by simpa using h
   refine ⟨by decide,by decide,by show 4<=1000000000;decide,fun z hz=>⟨fun h2=> ?_,fun h2=> ?_⟩⟩
   · have h2:0<=z:=by simpa using h2
     rw [<-hz] at i2
     refine ⟨h2,by rw [L4];omega,fun x2 hx2=>⟨⟨Nat.le_refl _,hf,by omega⟩,?_⟩⟩
     have:txU [a,b,c,d]= [sPer,x2]:=by
      unfold txU
      rw [<-hy,<-hz,if_neg h,if_pos h2,Zrr h2 hx2]
      rfl
     rw [this]
     simp [sPer,fzO]
   · have h2:¬0<=z:=by simpa using h2
     have:txU [a,b,c,d]= []:=by
      unfold txU
      rw [<-hy,<-hz,if_neg h,if_neg h2]
      rfl
     rw [this]
     simp [fzO]
noncomputable def Sunp:Sum thy:=sumB E Th.strs dDim (fun l x=>1<=l.length/\l.length+8<=1000000000) fun (l:List (List Nat)) x=>l++txU [x.1.getD 0 0,x.1.getD 1 0,x.1.getD 2 0,x.1.getD 3 0]
theorem Z8d:SumOk E 119 Sunp:=Zix E_ok (Zc rfl) fun x=>⟨fun l fz hf h=>Z27 l fz _ _ _ _ hf h.2,fun h=>absurd h.1 (by decide)⟩
noncomputable def Sxp (m:Nat):Sum thy:=sumB E Th.strs dExp (fun l x=>x.1.sz<m/\Z9 x.1=true/\1<=l.length/\l.length+8*x.1.sz+8<=1000000000) fun (l:List (List Nat)) x=>l++txX x.1
theorem Zo9 (n:Int) (v:Int):Zl E F0 (vc E F0 400) 121 [.int false .i64 n] hp0 0 (fun r=>ret E (patch hp0 0 r) r.v (.int false .i64 v))=(
((n==(3:Int))=true->(1:Int)=v)/\((n==(3:Int))=false->((n==(4:Int))=true->(1:Int)=v)/\((n==(4:Int))=false->((n==(5:Int))=true->(2:Int)=v)/\((n==(5:Int))=false->(3:Int)=v)))):=by kernel_rfl
noncomputable def Zze:Sum thy:=V6 (dA1 dN) (fun _=>True) (fun x=>tightF x.1) fun y=> .int false .i64 y
noncomputable def Fop' (m:Nat):Fns thy:=addS (addS F0 121 Zze) 79 (Sxp m)
abbrev qCD7 (a0:Ex):=(Ex.mk (Ex.op a0) (Ex.n a0) (Ex.d0 a0) (Ex.d1 a0) (Ex.d2 a0) (Ex.d3 a0) (Ex.l a0))
abbrev qCD8 (a0:List (List Nat)):=(List.take (List.length a0) a0++ [[(40:Nat)]])
theorem Zuk (m:Nat) (l:List (List Nat)) (fz:Nat) (x:Ex) (n:Int) (l':List (List Nat)):Zl E (Fop' m) (vc E (Fop' m) 400) 120 [.ptr 0 0,exA x,.int false .i64 n] (hpP E Th.strs (some (l,fz))) 2 (prnK E Th.strs (some (l,fz)) l')=(
 True/\∀(y:Int),y=tightF (Ex.op x)->(decide (y>=n)=true->(List.length l=List.length l/\fz<=List.length l/\Ex.sz (qCD7 x)+(1:Nat)<=m/\Z9 (qCD7 x)=true/\(1:Nat)<=List.length l/\List.length l+(8:Nat)*Ex.sz (qCD7 x)+(8:Nat)<=(1000000000:Nat))/\∀(l'_1:List (List Nat)),l'_1=l++txX (qCD7 x)->l'_1=l'/\List.length l'_1=List.length l'/\fzO (some (l,fz))=fzO (some (l,fz)))/\(decide (y>=n)=false->(List.length l<=List.length l/\fz<=List.length l/\(List.length l+(1:Nat))*(16:Nat)<=(140737488355328:Nat))/\(List.length l+(1:Nat)=List.length (qCD8 l)/\fz<=List.length (qCD8 l)/\Ex.sz (qCD7 x)+(1:Nat)<=m/\Z9 (qCD7 x)=true/\(1:Nat)<=List.length (qCD8 l)/\List.length (qCD8 l)+(8:Nat)*Ex.sz (qCD7 x)+(8:Nat)<=(1000000000:Nat))/\∀(l'_1:List (List Nat)),l'_1=List.take (List.length l) l++ [[(40:Nat)]]++txX (qCD7 x)->(List.length l'_1<=List.length l'_1/\fzO (some (List.take (List.length l) l++ [[(40:Nat)]],fz))<=List.length l'_1/\(List.length l'_1+(1:Nat))*(16:Nat)<=(140737488355328:Nat))/\List.take (List.length l'_1) l'_1++ [[(41:Nat)]]=l'/\List.length l'_1+(1:Nat)=List.length l'/\fzO (some (List.take (List.length l) l++ [[(40:Nat)]],fz))=fzO (some (l,fz)))):=by kernel_rfl
noncomputable def Yb2 (m:Nat):Sum thy:=sumB E Th.strs Ybx (fun l x=>x.1.sz<m/\Z9 x.1=true/\1<=l.length/\l.length+8*x.1.sz+10<=1000000000) fun (l:List (List Nat)) x=>l++par x.1.op x.2.1 (txX x.1)
noncomputable def Fxp' (m:Nat):Fns thy:=addS (addS (addS (addS Fpu 119 Sunp) 121 Zze) 79 (Sxp m)) 120 (Yb2 m)
theorem Zul (n:Int):PureC E 121 [.int false .i64 n] (.int false .i64 (tightF n)):=by
 refine Za E_ok (Zh E_ok F0_ok 400) ?_
 rw [Zo9]
 unfold tightF
 refine ⟨fun h=> ?_,fun h=>⟨fun h2=> ?_,fun h2=>⟨fun h3=> ?_,fun h3=> ?_⟩⟩⟩
 all_goals simp at*
 all_goals simp [*]
theorem Zl1:SumOk E 121 Zze:=Yg E_ok (Zc rfl) fun x _=>Zul x.1
def PxOk (m:Nat):Prop:=∀x:Ex,x.sz<m->Z9 x=true->∀(l:List (List Nat)) (fz:Nat),fz<=l.length->1<=l.length->l.length+8*x.sz+8<=1000000000->PrnC E 79 Th.strs [exA x] (some (l,fz)) (l++txX x)
theorem Zzf {m:Nat} (h:PxOk m):SumOk E 79 (Sxp m):=Zix E_ok (Zc rfl) fun x=>⟨fun l fz hf hp=>h x.1 hp.1 hp.2.1 l fz hf hp.2.2.1 hp.2.2.2,fun hp=>absurd hp.2.2.1 (by decide)⟩
theorem Z8e {m:Nat} (h:PxOk m):FnsOk E (Fop' m):=Zb (Zb F0_ok Zl1) (Zzf h)
mutual
theorem Y9:∀(x:Ex),(txX x).length+2<=8*x.sz
 | .mk op n a b c d l=>by
  have h:=Zzg l
  have hs:∀ss:List (List Nat),(txS (txL l) ss).length+0<=8*Ex.szL l:=fun ss=>Zzh (txL l) ss (8*Ex.szL l) h
  have hU:(txU [a,b,c,d]).length<=3:=by
   unfold txU
   rw [List.length_append]
   split<;>split<;>simp
  have hp:∀op least t,(par op least t).length<=t.length+2:=by
   intro op least t
   unfold par
   split
   · omega
   · simp
  have h2:=Z28 (txL l) _ h
  rw [txX,Ex.sz]
  unfold txN
  split
  · rw [List.length_cons];omega
  · split
    · simp;omega
    · split
      · have:=hs [Zbh,Yb,Yb,Z3]
        rw [List.length_cons,List.length_cons]
        omega
      · split
        · rw [List.length_append,List.length_cons]
          have a1:=hp ((l.map Ex.op).getD 0 0) (tightF op) ((txL l).getD 0 [])
          have a2:=hp ((l.map Ex.op).getD 1 0) (tightF op+1) ((txL l).getD 1 [])
          omega
        · have:=hs [Yb,Z3]
          rw [List.length_cons,List.length_cons]
          omega
theorem Zzg:∀(l:List Ex),((txL l).map fun t=>t.length+2).sum<=8*Ex.szL l
 | []=>by simp [txL]
 |x::r=>by
  have h1:=Y9 x
  have h2:=Zzg r
  rw [txL,Ex.szL,List.map_cons,List.sum_cons]
  omega
theorem Zzh:∀(ts:List (List (List Nat))) (ss:List (List Nat)) (b:Nat),(ts.map fun t=>t.length+2).sum<=b->(txS ts ss).length+0<=b
 | [],_,_,h=>by simp [txS]
 |t::r,[],_,h=>by simp [txS]
 |t::r,s::ss,b,h=>by
  rw [List.map_cons,List.sum_cons] at h
  have:=Zzh r ss (b-(t.length+2)) (by omega)
  rw [txS,List.length_append,List.length_cons]
  omega
theorem Z28:∀(ts:List (List (List Nat))) (b:Nat),(ts.map fun t=>t.length+2).sum<=b->(ts.getD 0 []).length+(ts.getD 1 []).length<=b
 | [],_,_=>by simp
 | [t],_,h=>by simp at h⊢;omega
 |t::u::r,_,h=>by simp at h⊢;omega
end
theorem Z29 {m:Nat} (hm:PxOk m) (l:List (List Nat)) (fz:Nat) (x:Ex) (n:Int) (hx:x.sz<m) (hxf:Z9 x=true) (hf:fz<=l.length) (h1:1<=l.length) (hl:l.length+8*x.sz+10<=1000000000):PrnC E 120 Th.strs [exA x,.int false .i64 n] (some (l,fz)) (l++par x.op n (txX x)):=by
 refine Zzc (Z8e hm) (n:=400) rfl ?_
 rw [Zuk];delta qCD7 qCD8
 have ht:=Y9 x
 simp only [fzO,List.take_length,Ex.eta,forall_eq,decide_eq_true_eq,decide_eq_false_iff_not,true_and,and_true]
 refine ⟨fun h=>⟨⟨hf,hx,hxf,h1,by omega⟩,?_⟩,fun h=>⟨⟨Nat.le_refl _,hf,by omega⟩,⟨by simp,by simp;omega,hx,hxf,by simp,by simp;omega⟩,⟨Nat.le_refl _,by simp;omega,by simp;omega⟩,?_⟩⟩
 · have:par x.op n (txX x)=txX x:=by unfold par;rw [if_pos h]
   rw [this]
   exact ⟨rfl,rfl⟩
 · have:par x.op n (txX x)=Xc::(txX x++ [Z3]):=by unfold par;rw [if_neg h]
   rw [this]
   simp [Xc,Z3]
   omega
theorem Z3a {m:Nat} (h:PxOk m):SumOk E 120 (Yb2 m):=Zix E_ok (Zc rfl) fun x=>⟨fun l fz hf hp=>Z29 h l fz x.1 x.2.1 hp.1 hp.2.1 hf hp.2.2.1 hp.2.2.2,fun hp=>absurd hp.2.2.1 (by decide)⟩
theorem Z8f {m:Nat} (h:PxOk m):FnsOk E (Fxp' m):=Zb (Zb (Zb (Zb Zrq Z8d) Zl1) (Zzf h)) (Z3a h)
end
section
open Go
def dD (u:Nat):List Nat:=(Lib.decDigits u).map UInt8.toNat
theorem Zcd {u:Nat} (h:u<10):dD u= [48+u]:=by
 unfold dD
 rw [Lib.decDigits,dif_pos h]
 have:(UInt8.ofNat (48+u)).toNat=48+u:=by
  rw [UInt8.toNat_ofNat']
  omega
 simp only [List.map_cons,List.map_nil,this]
theorem Zlm {u:Nat} (h:¬u<10):dD u=dD (u/10)++ [48+u%10]:=by
 unfold dD
 rw [Lib.decDigits,dif_neg h]
 have:(UInt8.ofNat (48+u%10)).toNat=48+u%10:=by
  rw [UInt8.toNat_ofNat']
  omega
 rw [List.map_append]
 simp only [List.map_cons,List.map_nil,this]
theorem Znx {n:Int} (h:0<=n):decN n=dD n.toNat:=by
 unfold decN dD Lib.itoa
 rw [if_neg (by omega)]
theorem Zri:∀{a b:List Nat} {n m:Int},numL n a=(m,0)->numL n (a++b)=numL m b
 | [],b,n,m,h=>by
  unfold numL at h
  cases h
  rfl
 |c::r,b,n,m,h=>by
  unfold numL at h
  rw [List.cons_append]
  unfold numL
  split at h
  · cases h
  · rename_i hn
    rw [if_neg hn,Zri h]
    cases b<;>rfl
theorem Z2f (u:Nat):dD u≠ []:=by
 by_cases h:u<10
 · rw [Zcd h];simp
 · rw [Zlm h];simp
theorem Ybg:∀(u:Nat),u<=1099511627776->numL 0 (dD u)=((u:Int),0):=by
 intro u
 induction u using Nat.strongRecOn with
 |_ u ih=>
  intro hu
  by_cases h:u<10
  · rw [Zcd h]
    unfold numL
    rw [if_neg (by omega)]
    unfold numL
    congr 1
    omega
  · rw [Zlm h,Zri (ih (u/10) (by omega) (by omega))]
    unfold numL
    rw [if_neg (by omega)]
    unfold numL
    congr 1
    omega
theorem Z4v:∀(u:Nat),∀c∈dD u,isD (c:Int)=true:=by
 intro u
 induction u using Nat.strongRecOn with
 |_ u ih=>
  have one:∀k:Nat,k<10->isD ((48+k:Nat):Int)=true:=by
   intro k hk
   unfold isD
   simp
   omega
  by_cases h:u<10
  · rw [Zcd h]
    intro c hc
    rw [List.mem_singleton] at hc
    subst hc
    exact one u h
  · rw [Zlm h]
    intro c hc
    rcases List.mem_append.1 hc with hc|hc
    · exact ih (u/10) (by omega) c hc
    · rw [List.mem_singleton] at hc
      subst hc
      exact one _ (by omega)
theorem Z7i:∀(u:Nat),1<(dD u).length->(dD u).head?≠some 48:=by
 intro u
 induction u using Nat.strongRecOn with
 |_ u ih=>
  by_cases h:u<10
  · rw [Zcd h]
    intro hl
    simp at hl
  · rw [Zlm h]
    intro _
    have e:(dD (u/10)++ [48+u%10]).head? =(dD (u/10)).head? :=by
     cases hd:dD (u/10) with
     |nil=>exact absurd hd (Z2f _)
     |cons x r=>rfl
    rw [e]
    by_cases h2:u/10<10
    · rw [Zcd h2]
      intro k
      injection k with k
      omega
    · refine ih (u/10) (by omega) ?_
      rw [Zlm h2,List.length_append]
      have:=Z2f (u/10/10)
      cases hd:dD (u/10/10) with
      |nil=>exact absurd hd this
      |cons x r=>simp
theorem Zny {n:Int} (h0:0<=n) (h1:n<=1099511627776):tokP (decN n)=(⟨2,decN n,n,0⟩,0):=by
 rw [Znx h0]
 have hne:=Z2f n.toNat
 have hd:=Z4v n.toNat
 have hn:=Ybg n.toNat (by omega)
 have hh:=Z7i n.toNat
 have hc:((n.toNat:Nat):Int)=n:=by omega
 generalize dD n.toNat=w at*
 cases w with
 |nil=>exact absurd rfl hne
 |cons c r=>
  rw [Ye]
  have hdc:=hd c (by simp)
  have hl:isL (c:Int)=false:=by
   unfold isD at hdc
   unfold isL
   simp at hdc⊢
   omega
  rw [if_neg (by rw [hl];decide),if_pos hdc,X3 hd,List.take_length]
  have:numb (c::r)=(n,0):=by
   unfold numb
   rw [if_neg (fun k=>hh k.1 k.2),hn,hc]
  rw [this]
theorem Zeb {n:Int} (h0:0<=n) (h1:n<=1099511627776):TokW (decN n):=by
 refine ⟨by rw [Zny h0 h1],by rw [Zny h0 h1],?_⟩
 rw [Znx h0]
 exact Z2f _
theorem Zyj {n:Int} (h0:0<=n) (h1:n<=1099511627776):tkS (decN n)=⟨2,decN n,n,0⟩:=by
 unfold tkS
 rw [Zny h0 h1]
 rfl
theorem Ydp {c:Nat} (h:wb c=true):isLD (c:Int)=true:=by
 unfold wb at h
 unfold isLD isL isD
 simp at h⊢
 omega
theorem Zec {s:List Nat} (h:Xn s=true):tokP s=(⟨1,s,0,0⟩,0):=by
 unfold Xn at h
 rw [Bool.and_eq_true,Bool.and_eq_true,decide_eq_true_eq] at h
 obtain ⟨⟨h1,h2⟩,h3⟩:=h
 cases s with
 |nil=>cases h2
 |cons c r=>
  have hc:isL (c:Int)=true:=by
   unfold lowF at h2
   unfold isL
   simp at h2⊢
   omega
  rw [Ye,if_pos hc,X3 fun c hc=>Ydp (List.all_eq_true.1 h3 c hc),if_neg (by omega),List.take_length]
theorem U4 {s:List Nat} (h:Xn s=true):TokW s:=by
 refine ⟨by rw [Zec h],by rw [Zec h],?_⟩
 rintro rfl
 simp [Xn,lowF] at h
theorem Zed {s:List Nat} (h:Xn s=true):tkS s=⟨1,s,0,0⟩:=by
 unfold tkS
 rw [Zec h]
 rfl
theorem Z2g:∀k:WK,∀w∈k.words,Xn w=true:=by
 intro k
 cases k<;>decide
theorem Zln {k:WK} {i:Nat} (h:i<k.words.length):k.words.getD i []∈k.words:=by
 have:k.words.getD i []=k.words[i]:=by simp [List.getD,h]
 rw [this]
 exact List.getElem_mem h
theorem Zi5 {k:WK} {i:Nat} (h:i<k.words.length):Xn (k.words.getD i [])=true:=Z2g k _ (Zln h)
theorem Z7j {k:WK} {i:Nat} (h:i<k.words.length):tkS (k.words.getD i [])=⟨1,k.words.getD i [],0,0⟩:=Zed (Zi5 h)
theorem Ybh:∀k:WK,∀i,i<k.words.length->idxS (k.words.getD i []) 0 k.words=i:=by
 intro k
 cases k<;>decide
theorem Zce {k:WK} {i:Nat} (h:i<k.words.length) (r:List Tok):chz k.words (tkS (k.words.getD i [])::r)=i:=by
 rw [Z7j h]
 show (if (1:Int)=1 then idxS (k.words.getD i []) 0 k.words else-1)=i
 rw [if_pos rfl,Ybh k i h]
def Fl0 (r:List Tok):Prop:=¬0<=chz WK.un.words r/\isW sPer r=false
end
section
open Go
theorem Zde {o:List Tok->Int×List Tok} {pf:PE} (ho:∀l,(o l).2.length<=l.length) (hp:Shr pf):∀(k k':Nat) (x:Ex) (op:Int) (l:List Tok) (e:Int),l.length<k->l.length<k'->Y0 o pf k x op l e=Y0 o pf k' x op l e
 |0,_,_,_,_,_,h,_=>by omega
 |_+1,0,_,_,_,_,_,h=>by omega
 |k+1,k'+1,x,op,l,e,h,h'=>by
  unfold Y0
  split
  · rfl
  · cases hq:pf l e with
    |error er=>rfl
    |ok y=>
     have h1:=hp _ _ _ _ hq
     have h2:=ho y.2.1
     exact Zde ho hp k k' _ _ _ _ (by omega) (by omega)
def pRx (o:List Tok->Int×List Tok) (pf:PE) (x:Ex) (op:Int) (l:List Tok) (e:Int):PR Ex:=Y0 o pf (l.length+1) x op l e
theorem Z41 {o:List Tok->Int×List Tok} {pf:PE} (ho:∀l,(o l).2.length<=l.length) (hp:Shr pf) (x:Ex) (op:Int) (l:List Tok) (e:Int):
 pRx o pf x op l e=if op=0 then .ok (x,l,e,()) else match pf l e with
  | .error er=> .error er
  | .ok (y,z)=>pRx o pf (.mk op 0 0 0 0 0 [x,y]) (o z.1).1 (o z.1).2 z.2.1:=by
 unfold pRx
 rw [Y0]
 split
 · rfl
 · cases hq:pf l e with
   |error er=>rfl
   |ok y=>
    have h1:=hp _ _ _ _ hq
    have h2:=ho y.2.1
    exact Zde ho hp _ _ _ _ _ _ (by omega) (by omega)
theorem Zl7 (l:List Tok):(op1 l).2.length<=l.length:=Zmi l
theorem Zl8 (l:List Tok):(op2 l).2.length<=l.length:=Zmj l
def Agr (n:Nat) (p q:PE):Prop:=∀l e,l.length<n->p l e=q l e
theorem Zrt {n:Nat} {p q:PE} (hp:Shr p) (h:Agr n p q):∀(ss:List (List Nat)) (acc:List Ex) (l:List Tok) (e:Int),l.length<n->pOpL p ss acc l e=pOpL q ss acc l e
 | [],_,_,_,_=>rfl
 |s::r,acc,l,e,hl=>by
  unfold pOpL
  rw [<-h l e hl]
  cases hq:p l e with
  |error er=>rfl
  |ok y=>
   have h1:=hp _ _ _ _ hq
   dsimp only
   split
   · refine Zrt hp h r _ _ _ ?_
     rw [List.length_tail]
     omega
   · rfl
theorem Zru {n:Nat} {p q:PE} (hp:Shr p) (h:Agr n p q) (op:Int) (ss:List (List Nat)) (l:List Tok) (e:Int) (hl:l.length<n+1):pOps p op ss l e=pOps q op ss l e:=by
 unfold pOps
 split
 · rename_i hw
   have:=Zm hw
   rw [Zrt hp h ss [] l.tail e (by omega)]
 · rfl
theorem Zl9 {n:Nat} {p q:PE} (hp:Shr p) (h:Agr n p q) (l:List Tok) (e:Int) (hl:l.length<n+1):V1 p l e=V1 q l e:=by
 unfold V1
 split
 · rename_i hw
   have:=Zm hw
   rw [h l.tail e (by omega)]
 · split
   · rename_i hw
     have:=Zm hw
     rw [Zru hp h _ _ l.tail e (by omega)]
   · cases hc:Zq WK.ca.words l e with
     |error er=>rfl
     |ok y=>
      obtain ⟨y0,y1⟩:=y
      have:y1.1.length<=l.length:=by
       rcases Xg hc with ⟨_,_,rfl⟩|⟨_,_,rfl⟩
       · show l.tail.length<=l.length
         rw [List.length_tail]
         omega
       · exact Nat.le_refl _
      dsimp only
      split
      · exact Zru hp h _ _ _ _ (by omega)
      · rfl
theorem Zrv {n:Nat} {p q:PE} (hp:Shr p) (h:Agr n p q):Agr (n+1) (pFac p) (pFac q):=by
 intro l e hl
 unfold pFac
 split
 · exact Zl9 hp h _ _ hl
 · split
   · rfl
   · exact Zl9 hp h _ _ hl
theorem Zma {n:Nat} {o:List Tok->Int×List Tok} (ho:∀l,(o l).2.length<=l.length) {p q:PE} (hp:Shr p) (h:Agr n p q):∀(k:Nat) (x:Ex) (op:Int) (l:List Tok) (e:Int),l.length<n->Y0 o p k x op l e=Y0 o q k x op l e
 |0,_,_,_,_,_=>rfl
 |k+1,x,op,l,e,hl=>by
  unfold Y0
  split
  · rfl
  · rw [<-h l e hl]
    cases hq:p l e with
    |error er=>rfl
    |ok y=>
     have h1:=hp _ _ _ _ hq
     have h2:=ho y.2.1
     exact Zma ho hp h k _ _ _ _ (by omega)
theorem Zjp {n:Nat} {o:List Tok->Int×List Tok} (ho:∀l,(o l).2.length<=l.length) {p q:PE} (hp:Shr p) (h:Agr n p q):Agr n (pCh o p) (pCh o q):=by
 intro l e hl
 unfold pCh
 rw [<-h l e hl]
 cases hq:p l e with
 |error er=>rfl
 |ok y=>
  have h1:=hp _ _ _ _ hq
  have h2:=ho y.2.1
  exact Zma ho hp h _ _ _ _ _ (by omega)
theorem Z42 (n:Nat):Shr (pE n):=(W2 n).shr
theorem Zeg {pe:PE} (h:Bnd pe):Shr (pFac pe):=(Wm h).shr
theorem Z43:∀(n m:Nat),n<=m->Agr n (pE n) (pE m)
 |0,m,_=>fun l e hl=>by omega
 |n+1,m+1,h=>by
  have ih:=Z43 n m (by omega)
  unfold pE
  refine Zjp Zl8 (Ui Za1 (Wm (W2 n))).shr ?_
  exact Zjp Zl7 (Zeg (W2 n)) (Zrv (Z42 n) ih)
theorem Z44 (n:Nat):Agr n (pE n) pX:=by
 intro l e hl
 unfold pX
 exact (Z43 (l.length+1) n (by omega) l e (Nat.lt_succ_self _)).symm
def pf:PE:=pFac pX
def pt:PE:=pCh op1 pf
theorem Ydw (l:List Tok) (e:Int):pX l e=pCh op2 pt l e:=by
 show pE (l.length+1) l e=_
 rw [pE]
 refine Zjp (n:=l.length+1) Zl8 (Ui Za1 (Wm (W2 _))).shr ?_ l e (Nat.lt_succ_self _)
 exact Zjp Zl7 (Zeg (W2 _)) (Zrv (Z42 _) (Z44 _))
theorem pf_bnd:Bnd pf:=Wm Zj1
theorem pt_bnd:Bnd pt:=Ui Za1 pf_bnd
theorem Yb5:Shr pf:=pf_bnd.shr
theorem Yb6:Shr pt:=pt_bnd.shr
theorem Ydx (l:List Tok) (e:Int):pt l e=match pf l e with
 | .error er=> .error er
 | .ok (y,z)=>pRx op1 pf y (op1 z.1).1 (op1 z.1).2 z.2.1:=rfl
theorem Z8i (x:Ex) (op:Int) (l:List Tok) (e:Int):pRx op1 pf x op l e=if op=0 then .ok (x,l,e,()) else match pf l e with
 | .error er=> .error er
 | .ok (y,z)=>pRx op1 pf (.mk op 0 0 0 0 0 [x,y]) (op1 z.1).1 (op1 z.1).2 z.2.1:=Z41 Zl7 Yb5 x op l e
theorem Z8j (x:Ex) (op:Int) (l:List Tok) (e:Int):pRx op2 pt x op l e=if op=0 then .ok (x,l,e,()) else match pt l e with
 | .error er=> .error er
 | .ok (y,z)=>pRx op2 pt (.mk op 0 0 0 0 0 [x,y]) (op2 z.1).1 (op2 z.1).2 z.2.1:=Z41 Zl8 Yb6 x op l e
theorem Yb7 (l:List Tok) (e:Int):pX l e=match pt l e with
 | .error er=> .error er
 | .ok (y,z)=>pRx op2 pt y (op2 z.1).1 (op2 z.1).2 z.2.1:=Ydw l e
abbrev TS (ws:List (List Nat)):List Tok:=ws.map tkS
def d0:List Int:= [0,0,0,0]
theorem Ydy {r:List Tok} (h:Fl0 r) (e:Int):Xd r e= .ok (d0,r,e,()):=by
 unfold Xd Zq
 rw [if_neg h.1]
 dsimp only
 rw [if_neg (by rw [h.2];decide)]
 rfl
theorem Ydz {i:Nat} (hi:i<4) {r:List Tok} (h:isW sPer r=false) (e:Int):Xd (tkS (WK.un.words.getD i [])::r) e= .ok (incD d0 i,r,e,()):=by
 unfold Xd Zq
 rw [Zce (k:= .un) hi,if_pos (by omega)]
 dsimp only [List.tail_cons]
 rw [if_neg (by rw [h];decide)]
 rfl
theorem Z45 {s w:List Nat} (hw:Xn w=true) (r:List Tok):isW s (tkS w::r)=(w==s):=by
 rw [Zed hw]
 rfl
theorem Z8k (r:List Tok):¬0<=chz WK.un.words (tkS sPer::r):=by
 have:chz WK.un.words (tkS sPer::r)= -1:=rfl
 omega
theorem Zzp (r:List Tok):isW sPer (tkS sPer::r)=true:=rfl
theorem Yd0 {j:Nat} (hj:j<4) (r:List Tok) (e:Int):Xd (tkS sPer::tkS (WK.un.words.getD j [])::r) e= .ok (decD d0 j,r,e,()):=by
 unfold Xd Zq
 rw [if_neg (Z8k _)]
 dsimp only [List.tail_cons]
 rw [if_pos (Zzp _)]
 unfold Yk
 rw [Zce (k:= .un) hj,if_pos (by omega)]
 rfl
theorem Yd1 {i j:Nat} (hi:i<4) (hj:j<4) (r:List Tok) (e:Int):Xd (tkS (WK.un.words.getD i [])::tkS sPer::tkS (WK.un.words.getD j [])::r) e= .ok (decD (incD d0 i) j,r,e,()):=by
 unfold Xd Zq
 rw [Zce (k:= .un) hi,if_pos (by omega)]
 dsimp only [List.tail_cons]
 rw [if_pos (Zzp _)]
 unfold Yk
 rw [Zce (k:= .un) hj,if_pos (by omega)]
 rfl
theorem Z3g {a b c d:Int} (h:Uc [a,b,c,d]=true):in1 a=true/\in1 b=true/\in1 c=true/\in1 d=true:=by
 rw [Zu7] at h
 rw [Bool.and_eq_true] at h
 simpa using h.1
theorem Zcr {a:Int} (h:in1 a=true):a= -1\/a=0\/a=1:=by
 unfold in1 at h
 simp at h
 omega
def UnF (u:List Int):Prop:=(u=d0/\txU u= [])\/(∃i,i<4/\u=incD d0 (i:Nat)/\txU u= [WK.un.words.getD i []])\/(∃j,j<4/\u=decD d0 (j:Nat)/\txU u= [sPer,WK.un.words.getD j []])\/(∃i,i<4/\∃j,j<4/\u=decD (incD d0 (i:Nat)) (j:Nat)/\txU u= [WK.un.words.getD i [],sPer,WK.un.words.getD j []])
instance (u:List Int):Decidable (UnF u):=by unfold UnF;infer_instance
theorem unF {a b c d:Int} (h:Uc [a,b,c,d]=true):UnF [a,b,c,d]:=by
 obtain ⟨ha,hb,hc,hd⟩:=Z3g h
 revert h
 rcases Zcr ha with rfl|rfl|rfl<;>rcases Zcr hb with rfl|rfl|rfl<;>rcases Zcr hc with rfl|rfl|rfl<;>rcases Zcr hd with rfl|rfl|rfl
 all_goals (clear ha hb hc hd;decide)
theorem Zzq {a b c d:Int} (h:Uc [a,b,c,d]=true) {r:List Tok} (hr:Fl0 r) (e:Int):Xd (TS (txU [a,b,c,d])++r) e= .ok ([a,b,c,d],r,e,()):=by
 rcases unF h with ⟨h1,h2⟩|⟨i,hi,h1,h2⟩|⟨j,hj,h1,h2⟩|⟨i,hi,j,hj,h1,h2⟩
 · rw [h2,h1]
   exact Ydy hr e
 · rw [h2,h1]
   exact Ydz hi hr.2 e
 · rw [h2,h1]
   exact Yd0 hj r e
 · rw [h2,h1]
   exact Yd1 hi hj r e
def Fl1 (r:List Tok):Prop:=Fl0 r/\isW sMul r=false
def Fl2 (r:List Tok):Prop:=Fl1 r/\isW Zar r=false/\isW W3 r=false
theorem Z46 {r:List Tok} (h:isW sMul r=false):op1 r=(0,r):=by unfold op1;rw [if_neg (by rw [h];decide)]
theorem Yb8 {r:List Tok} (h:Fl2 r):op2 r=(0,r):=by unfold op2;rw [if_neg (by rw [h.2.1];decide),if_neg (by rw [h.2.2];decide)]
theorem Yb9 {w:List Nat} {r:List Tok} (h:(tkS w).kind=3):∀ws:List (List Nat),chz ws (tkS w::r)= -1:=by
 intro ws
 show (if (tkS w).kind=1 then _ else-1)=_
 rw [if_neg (by rw [h];decide)]
theorem Zbo {w:List Nat} (r:List Tok) (h:(tkS w).kind=3) (h2:isW sPer (tkS w::r)=false):Fl0 (tkS w::r):=⟨by rw [Yb9 h];decide,h2⟩
theorem Zcs (r:List Tok):Fl2 (tkS Z3::r):=⟨⟨Zbo r rfl rfl,rfl⟩,rfl,rfl⟩
theorem Zf7 (r:List Tok):Fl2 (tkS Yb::r):=⟨⟨Zbo r rfl rfl,rfl⟩,rfl,rfl⟩
theorem Z3h (r:List Tok):Fl2 (tkS Zbh::r):=⟨⟨Zbo r rfl rfl,rfl⟩,rfl,rfl⟩
theorem Z3i (r:List Tok):Fl2 (tkS Zch::r):=⟨⟨Zbo r rfl rfl,rfl⟩,rfl,rfl⟩
theorem Z8l (r:List Tok):Fl0 (tkS sMul::r):=Zbo r rfl rfl
theorem Z3j (r:List Tok):Fl1 (tkS Zar::r):=⟨Zbo r rfl rfl,rfl⟩
theorem Zzr (r:List Tok):Fl1 (tkS W3::r):=⟨Zbo r rfl rfl,rfl⟩
structure Rdb (x:Ex):Prop where
 fac:3<=tightF x.op->∀r e,Fl0 r->pf (TS (txX x)++r) e= .ok (x,r,e,())
 term:2<=tightF x.op->∀r e,Fl0 r->pt (TS (txX x)++r) e=pRx op1 pf x (op1 r).1 (op1 r).2 e
 expr:∀r e,Fl1 r->pX (TS (txX x)++r) e=pRx op2 pt x (op2 r).1 (op2 r).2 e
theorem Rdb.all {x:Ex} (h:Rdb x) {r:List Tok} (hr:Fl2 r) (e:Int):pX (TS (txX x)++r) e= .ok (x,r,e,()):=by
 rw [h.expr r e hr.1,Yb8 hr,Z8j,if_pos rfl]
theorem Zzs {l:List Tok} {e:Int} {x:Ex} {r:List Tok} (h:pX l e= .ok (x,tkS Z3::r,e,())):pf (tkS Xc::l) e= .ok (x,r,e,()):=by
 have:pf (tkS Xc::l) e=(match pX l e with
  | .error er=> .error er
  | .ok (x,y)=>if isW Z3 y.1 then .ok (x,y.1.tail,y.2.1,()) else .error (hdT y.2.1 y.1,160)):=rfl
 rw [this,h]
 rfl
theorem Zdf (w:List Nat) (ws:List (List Nat)):TS (w::ws)=tkS w::TS ws:=rfl
theorem Zhl (a b:List (List Nat)):TS (a++b)=TS a++TS b:=List.map_append
theorem Rdb.par3 {x:Ex} (h:Rdb x) {r:List Tok} (hr:Fl0 r) (e:Int):pf (TS (par x.op 3 (txX x))++r) e= .ok (x,r,e,()):=by
 unfold par
 split
 · exact h.fac (by assumption) r e hr
 · have e1:TS (Xc::(txX x++ [Z3]))++r=tkS Xc::(TS (txX x)++tkS Z3::r):=by simp
   rw [e1]
   exact Zzs (h.all (Zcs r) e)
theorem Zrw {l r:List Tok} {e:Int} {x:Ex} (h:pf l e= .ok (x,r,e,())):pt l e=pRx op1 pf x (op1 r).1 (op1 r).2 e:=by rw [Ydx,h]
theorem Rdb.par2 {x:Ex} (h:Rdb x) {r:List Tok} (hr:Fl0 r) (e:Int):pt (TS (par x.op 2 (txX x))++r) e=pRx op1 pf x (op1 r).1 (op1 r).2 e:=by
 unfold par
 split
 · exact h.term (by assumption) r e hr
 · have e1:TS (Xc::(txX x++ [Z3]))++r=tkS Xc::(TS (txX x)++tkS Z3::r):=by simp
   rw [e1]
   exact Zrw (Zzs (h.all (Zcs r) e))
theorem Zzt (op:Int):1<=tightF op:=by unfold tightF;split<;>(try split)<;>decide
theorem Rdb.par1 {x:Ex} (h:Rdb x) {r:List Tok} (hr:Fl1 r) (e:Int):pX (TS (par x.op 1 (txX x))++r) e=pRx op2 pt x (op2 r).1 (op2 r).2 e:=by
 unfold par
 rw [if_pos (Zzt _)]
 exact h.expr r e hr
theorem Zf8 {x:Ex} (hf:3<=tightF x.op->∀r e,Fl0 r->pf (TS (txX x)++r) e= .ok (x,r,e,())) (ht:∀r e,Fl0 r->pt (TS (txX x)++r) e=pRx op1 pf x (op1 r).1 (op1 r).2 e):Rdb x:=
 ⟨hf,fun _=>ht,fun r e hr=>by rw [Yb7,ht r e hr.1,Z46 hr.2,Z8i,if_pos rfl]⟩
theorem Zap {x:Ex} (h:∀r e,Fl0 r->pf (TS (txX x)++r) e= .ok (x,r,e,())):Rdb x:=
 Zf8 (fun _=>h) fun r e hr=>Zrw (h r e hr)
theorem Zrx {e:Int}:∀{xs:List Ex} {ss:List (List Nat)} {acc:List Ex} {r:List Tok},xs.length=ss.length->(∀x∈xs,Rdb x)->(∀s∈ss,(∀r,Fl2 (tkS s::r))/\∀r,isW s (tkS s::r)=true)->pOpL pX ss acc (TS (txS (txL xs) ss)++r) e= .ok (acc++xs,r,e,())
 | [],[],acc,r,_,_,_=>by simp [pOpL,txL,txS]
 |x::xs,s::ss,acc,r,hl,hx,hs=>by
  have e1:TS (txS (txL (x::xs)) (s::ss))++r=TS (txX x)++tkS s::(TS (txS (txL xs) ss)++r):=by simp [txL,txS]
  rw [e1]
  unfold pOpL
  rw [(hx x (by simp)).all ((hs s (by simp)).1 _) e]
  dsimp only
  rw [if_pos ((hs s (by simp)).2 _),List.tail_cons,Zrx (by simpa using hl) (fun x h=>hx x (by simp [h])) (fun s h=>hs s (by simp [h]))]
  rw [List.append_assoc]
  rfl
theorem sg4:∀s∈ [Zbh,Yb,Yb,Z3],(∀r,Fl2 (tkS s::r))/\∀r,isW s (tkS s::r)=true:=by
 intro s hs
 simp only [List.mem_cons,List.not_mem_nil,or_false] at hs
 rcases hs with rfl|rfl|rfl|rfl
 · exact ⟨Z3h,fun _=>rfl⟩
 · exact ⟨Zf7,fun _=>rfl⟩
 · exact ⟨Zf7,fun _=>rfl⟩
 · exact ⟨Zcs,fun _=>rfl⟩
theorem sg2:∀s∈ [Yb,Z3],(∀r,Fl2 (tkS s::r))/\∀r,isW s (tkS s::r)=true:=by
 intro s hs
 simp only [List.mem_cons,List.not_mem_nil,or_false] at hs
 rcases hs with rfl|rfl
 · exact ⟨Zf7,fun _=>rfl⟩
 · exact ⟨Zcs,fun _=>rfl⟩
theorem Zry {op:Int} {xs:List Ex} {ss:List (List Nat)} {r:List Tok} {e:Int} (hl:xs.length=ss.length) (hx:∀x∈xs,Rdb x) (hs:∀s∈ss,(∀r,Fl2 (tkS s::r))/\∀r,isW s (tkS s::r)=true):
 pOps pX op ss (tkS Xc::(TS (txS (txL xs) ss)++r)) e= .ok (.mk op 0 0 0 0 0 xs,r,e,()):=by
 unfold pOps
 rw [if_pos (show isW Xc (tkS Xc::(TS (txS (txL xs) ss)++r))=true from rfl),List.tail_cons,Zrx hl hx hs]
 rfl
theorem Z47:∀k:WK,∀w∈k.words,(w==Xc)=false/\(w==sIf)=false:=by intro k;cases k<;>decide
theorem Yd2:∀w∈WK.at_.words,idxS w 0 WK.ca.words= -1:=by decide
theorem Zzu {k:WK} {i:Nat} (h:i<k.words.length) (r:List Tok) (e:Int):pf (tkS (k.words.getD i [])::r) e=(match Zq WK.ca.words (tkS (k.words.getD i [])::r) e with
 | .error er=> .error er
 | .ok (k,y)=>
  if k.2.1 then pOps pX (6+k.1) [Yb,Z3] y.1 y.2.1
  else match Yk WK.at_.words y.1 y.2.1 with
   | .error er=> .error er
   | .ok (a,z)=> .ok (.mk 2 a 0 0 0 0 [],z)):=by
 have h1:=Z45 (s:=Xc) (Zi5 h) r
 have h2:=Z45 (s:=sIf) (Zi5 h) r
 rw [(Z47 k _ (Zln h)).1] at h1
 rw [(Z47 k _ (Zln h)).2] at h2
 show (if (tkS (k.words.getD i [])).kind=2 then _ else V1 pX (tkS (k.words.getD i [])::r) e)=_
 rw [if_neg (by rw [Z7j h];show ¬(1:Int)=2;decide)]
 unfold V1
 rw [if_neg (by rw [h1];decide),if_neg (by rw [h2];decide)]
 rfl
theorem Zaq {op n:Int} {u:List Int} {k:Nat} (h:Zdi op n u k=true):1<=op/\op<=11/\0<=n/\n<=Zsn op/\k=Zmp op/\Uc u=true/\(op=1\/u= [0,0,0,0]):=by
 unfold Zdi at h
 simp only [Bool.and_eq_true,Bool.or_eq_true,decide_eq_true_eq] at h
 obtain ⟨⟨⟨⟨⟨⟨h1,h2⟩,h3⟩,h4⟩,h5⟩,h6⟩,h7⟩:=h
 exact ⟨h1,h2,h3,h4,h5,h6,h7⟩
theorem len2 {α:Type} {l:List α} (h:l.length=2):∃a b,l= [a,b]:=by
 match l,h with
 | [a,b],_=>exact ⟨a,b,rfl⟩
theorem rdb:∀(x:Ex),Z9 x=true->Rdb x:=by
 suffices H:∀(m:Nat) (x:Ex),x.sz<=m->Z9 x=true->Rdb x from fun x=>H _ x (Nat.le_refl _)
 intro m
 induction m with
 |zero=>intro x h;have:=x.sz_pos;omega
 |succ m ih=>
  intro x hm hf
  rw [Zac,Bool.and_eq_true] at hf
  obtain ⟨hh,hl⟩:=hf
  have hkid:∀y∈x.l,Rdb y:=fun y hy=>ih y (by have:=Ex.sz_mem hy;omega) (formL_iff.1 hl y hy)
  obtain ⟨op,n,a,b,c,d,l⟩:=x
  simp only [Ex.op,Ex.n,Ex.u,Ex.d0,Ex.d1,Ex.d2,Ex.d3,Ex.l] at hh hkid
  obtain ⟨h1,h2,h3,h4,h5,h6,h7⟩:=Zaq hh
  clear hm hl hh
  have htx:txX (.mk op n a b c d l)=txN op n [a,b,c,d] (l.map Ex.op) (txL l):=by rw [txX]
  by_cases q1:op=1
  · subst q1
    have hl:l= []:=List.eq_nil_of_length_eq_zero (by rw [h5];rfl)
    subst hl
    refine Zap fun r e hr=> ?_
    rw [htx]
    unfold txN
    rw [if_pos rfl,Zdf,List.cons_append,Zyj h3 h4]
    show (match Xd (TS (txU [a,b,c,d])++r) e with
     | .error er=>_
     | .ok (d,y)=>_)=_
    rw [Zzq h6 hr e]
    rfl
  have hu:a=0/\b=0/\c=0/\d=0:=by
   rcases h7 with h7|h7
   · exact absurd h7 q1
   · simpa using h7
  obtain ⟨rfl,rfl,rfl,rfl⟩:=hu
  by_cases q2:op=2
  · subst q2
    have hl:l= []:=List.eq_nil_of_length_eq_zero (by rw [h5];rfl)
    subst hl
    have hn:n.toNat<WK.at_.words.length:=by
     have:n<=15:=h4
     show n.toNat<16
     omega
    refine Zap fun r e hr=> ?_
    rw [htx]
    unfold txN
    rw [if_neg q1,if_pos rfl]
    show pf (tkS (WK.at_.words.getD n.toNat [])::r) e=_
    rw [Zzu hn]
    have hc:¬0<=chz WK.ca.words (tkS (WK.at_.words.getD n.toNat [])::r):=by
     rw [Z7j hn]
     show ¬0<=(if (1:Int)=1 then idxS (WK.at_.words.getD n.toNat []) 0 WK.ca.words else-1)
     rw [if_pos rfl,Yd2 _ (Zln hn)]
     decide
    unfold Zq
    rw [if_neg hc]
    dsimp only
    rw [if_neg (by decide)]
    unfold Yk
    rw [Zce hn,if_pos (by omega)]
    dsimp only [List.tail_cons]
    rw [show ((n.toNat:Nat):Int)=n by omega]
  have hn0:n=0:=by
   unfold Zsn at h4
   rw [if_neg q1,if_neg q2] at h4
   omega
  subst hn0
  by_cases q3:op=11
  · subst q3
    have hl:l.length=4:=h5
    refine Zap fun r e hr=> ?_
    rw [htx]
    unfold txN
    rw [if_neg q1,if_neg q2,if_pos rfl]
    have e1:TS (sIf::Xc::txS (txL l) [Zbh,Yb,Yb,Z3])++r=tkS sIf::tkS Xc::(TS (txS (txL l) [Zbh,Yb,Yb,Z3])++r):=rfl
    rw [e1]
    show pOps pX 11 [Zbh,Yb,Yb,Z3] (tkS Xc::(TS (txS (txL l) [Zbh,Yb,Yb,Z3])++r)) e=_
    exact Zry (by rw [hl];rfl) hkid sg4
  have hl2:l.length=2:=by
   rw [h5]
   unfold Zmp
   rw [if_neg (by omega),if_neg q3]
  by_cases q4:op=3\/op=4\/op=5
  · obtain ⟨x,y,rfl⟩:=len2 hl2
    have hx:=hkid x (by simp)
    have hy:=hkid y (by simp)
    have htx:txX (.mk op 0 0 0 0 0 [x,y])=par x.op (tightF op) (txX x)++sgnO op::par y.op (tightF op+1) (txX y):=by
     rw [htx]
     unfold txN
     rw [if_neg q1,if_neg q2,if_neg q3,if_pos q4]
     rfl
    by_cases q5:op=5
    · subst q5
      refine Zf8 (fun h=>absurd h (by show ¬3<=tightF 5;decide)) fun r e hr=> ?_
      rw [htx,Zhl,List.append_assoc]
      show pt (TS (par x.op 2 (txX x))++tkS sMul::(TS (par y.op 3 (txX y))++r)) e=_
      rw [hx.par2 (Z8l _) e]
      show pRx op1 pf x 5 (TS (par y.op 3 (txX y))++r) e=_
      rw [Z8i,if_neg (by decide),hy.par3 hr e]
    · have q6:op=3\/op=4:=by omega
      have ht:tightF op=1:=by unfold tightF;rw [if_pos q6]
      refine ⟨fun h=>absurd h (by show ¬3<=tightF op;rw [ht];decide),fun h=>absurd h (by show ¬2<=tightF op;rw [ht];decide),fun r e hr=> ?_⟩
      rw [htx,Zhl,List.append_assoc,ht]
      have hy2:pt (TS (par y.op 2 (txX y))++r) e= .ok (y,r,e,()):=by rw [hy.par2 hr.1 e,Z46 hr.2,Z8i,if_pos rfl]
      rcases q6 with rfl|rfl
      · show pX (TS (par x.op 1 (txX x))++tkS Zar::(TS (par y.op 2 (txX y))++r)) e=_
        rw [hx.par1 (Z3j _) e]
        show pRx op2 pt x 3 (TS (par y.op 2 (txX y))++r) e=_
        rw [Z8j,if_neg (by decide),hy2]
      · show pX (TS (par x.op 1 (txX x))++tkS W3::(TS (par y.op 2 (txX y))++r)) e=_
        rw [hx.par1 (Zzr _) e]
        show pRx op2 pt x 4 (TS (par y.op 2 (txX y))++r) e=_
        rw [Z8j,if_neg (by decide),hy2]
  · have hk:(op-6).toNat<WK.ca.words.length:=by
     show (op-6).toNat<5
     omega
    refine Zap fun r e hr=> ?_
    rw [htx]
    unfold txN
    rw [if_neg q1,if_neg q2,if_neg q3,if_neg q4]
    have e1:TS (WK.ca.words.getD (op-6).toNat []::Xc::txS (txL l) [Yb,Z3])++r=tkS (WK.ca.words.getD (op-6).toNat [])::tkS Xc::(TS (txS (txL l) [Yb,Z3])++r):=rfl
    rw [e1,Zzu hk]
    unfold Zq
    rw [Zce hk,if_pos (by omega)]
    dsimp only [List.tail_cons]
    rw [if_pos rfl,Zry (by rw [hl2];rfl) hkid sg2]
    rw [show (6:Int)+(((op-6).toNat:Nat):Int)=op by omega]
end
section
open Go
abbrev qCG5 (a0:List (List Nat)):=(List.length a0)
abbrev qCGc:=(0:Int)
abbrev qCGl (a0:List (List Nat)):=(List.take (qCG5 a0) a0++ [[(45:Nat)]])
abbrev qCG8:=(1:Nat)
abbrev qCGj:=(8:Nat)
abbrev qCGb:=(1:Int)
abbrev qCGq:=(16:Nat)
abbrev qCGa:=(140737488355328:Nat)
abbrev qCGi (a0:List (List Nat)):=(List.length a0+qCG8)
abbrev qCGf (a0:List (List Nat)) (b0:List (List Nat)) (c0:Nat):=(List.length a0<=List.length a0/\fzO (some (b0,c0))<=List.length a0/\(qCGi a0)*qCGq<=qCGa)
abbrev qCG9 (a0:Ex):=(↑(List.length (Ex.l a0)):Int)
abbrev qCGm (a0:List (List Nat)):=(List.take (qCG5 a0) a0++ [[(42:Nat)]])
abbrev qCGe:=(1000000000:Nat)
abbrev qCG2 (a0:Ex):=(Ex.mk (Ex.op a0) (Ex.n a0) (Ex.d0 a0) (Ex.d1 a0) (Ex.d2 a0) (Ex.d3 a0) (Ex.l a0))
abbrev qCGg (a0:Ex):=(Ex.op a0-(3:Int))
abbrev qCG1 (a0:Ex) (b0:List (List Nat)) (c0:List (List Nat)) (d0:Nat) (e0:Nat) (f0:List (List Nat)):=((wr IntKind.i64 (qCGg a0)==(↑(0:Nat):Int))=false->((wr IntKind.i64 (qCGg a0)==(↑((0:Nat)+qCG8):Int))=true->(qCGf b0 c0 d0)/\qCGc<=qCGb/\qCGb+qCGb<=(qCG9 a0)/\∀(x_2:Ex),(Ex.l a0)[Int.toNat qCGb]? =some x_2->True/\∀(y:Int),y=tightF (Ex.op a0)->(List.length b0+qCG8=List.length (qCGl b0)/\fzO (some (c0,d0))<=List.length (qCGl b0)/\Ex.sz (qCG2 x_2)+qCG8<=e0/\Z9 (qCG2 x_2)=true/\qCG8<=List.length (qCGl b0)/\List.length (qCGl b0)+qCGj*Ex.sz (qCG2 x_2)+(10:Nat)<=qCGe)/\∀(l'_2:List (List Nat)),l'_2=List.take (qCG5 b0) b0++ [[(45:Nat)]]++par (Ex.op (qCG2 x_2)) (wr IntKind.i64 (y+qCGb)) (txX (qCG2 x_2))->l'_2=f0/\List.length l'_2=List.length f0/\fzO (some (List.take (qCG5 b0) b0++ [[(45:Nat)]],fzO (some (c0,d0))))=fzO (some (c0,d0)))/\((wr IntKind.i64 (qCGg a0)==(↑((0:Nat)+qCG8):Int))=false->((wr IntKind.i64 (qCGg a0)==(↑((0:Nat)+qCG8+qCG8):Int))=true->(qCGf b0 c0 d0)/\qCGc<=qCGb/\qCGb+qCGb<=(qCG9 a0)/\∀(x_2:Ex),(Ex.l a0)[Int.toNat qCGb]? =some x_2->True/\∀(y:Int),y=tightF (Ex.op a0)->(List.length b0+qCG8=List.length (qCGm b0)/\fzO (some (c0,d0))<=List.length (qCGm b0)/\Ex.sz (qCG2 x_2)+qCG8<=e0/\Z9 (qCG2 x_2)=true/\qCG8<=List.length (qCGm b0)/\List.length (qCGm b0)+qCGj*Ex.sz (qCG2 x_2)+(10:Nat)<=qCGe)/\∀(l'_2:List (List Nat)),l'_2=List.take (qCG5 b0) b0++ [[(42:Nat)]]++par (Ex.op (qCG2 x_2)) (wr IntKind.i64 (y+qCGb)) (txX (qCG2 x_2))->l'_2=f0/\List.length l'_2=List.length f0/\fzO (some (List.take (qCG5 b0) b0++ [[(42:Nat)]],fzO (some (c0,d0))))=fzO (some (c0,d0)))/\((wr IntKind.i64 (qCGg a0)==(↑((0:Nat)+qCG8+qCG8):Int))=false->True)))
abbrev qCGn (a0:List (List Nat)):=(List.take (qCG5 a0) a0++ [[(43:Nat)]])
abbrev qCG3 (a0:Ex) (b0:List (List Nat)) (c0:List (List Nat)) (d0:Nat) (e0:Nat) (f0:List (List Nat)):=((wr IntKind.i64 (qCGg a0)==(↑(0:Nat):Int))=true->(qCGf b0 c0 d0)/\qCGc<=qCGb/\qCGb+qCGb<=(qCG9 a0)/\∀(x_2:Ex),(Ex.l a0)[Int.toNat qCGb]? =some x_2->True/\∀(y:Int),y=tightF (Ex.op a0)->(List.length b0+qCG8=List.length (qCGn b0)/\fzO (some (c0,d0))<=List.length (qCGn b0)/\Ex.sz (qCG2 x_2)+qCG8<=e0/\Z9 (qCG2 x_2)=true/\qCG8<=List.length (qCGn b0)/\List.length (qCGn b0)+qCGj*Ex.sz (qCG2 x_2)+(10:Nat)<=qCGe)/\∀(l'_2:List (List Nat)),l'_2=List.take (qCG5 b0) b0++ [[(43:Nat)]]++par (Ex.op (qCG2 x_2)) (wr IntKind.i64 (y+qCGb)) (txX (qCG2 x_2))->l'_2=f0/\List.length l'_2=List.length f0/\fzO (some (List.take (qCG5 b0) b0++ [[(43:Nat)]],fzO (some (c0,d0))))=fzO (some (c0,d0)))
abbrev qCGo:=(40:Nat)
abbrev qCGh (a0:List (List Nat)) (b0:Nat):=(some (List.take (qCG5 a0) a0++ [[(105:Nat),(102:Nat)],[qCGo]],b0))
abbrev qCG4 (a0:List (List Nat)) (b0:List (List Nat)) (c0:Nat):=(some (List.take (qCG5 a0) a0++ [[(60:Nat)]],fzO (qCGh b0 c0)))
abbrev qCGp:=(44:Nat)
abbrev qCG6 (a0:List (List Nat)):=(List.take (qCG5 a0) a0++ [[qCGp]])
abbrev qCG7 (a0:List (List Nat)) (b0:Nat) (c0:Ex) (d0:Nat):=(List.length a0=List.length a0/\b0<=List.length a0/\Ex.sz (qCG2 c0)+qCG8<=d0/\Z9 (qCG2 c0)=true/\qCG8<=List.length a0/\List.length a0+qCGj*Ex.sz (qCG2 c0)+(10:Nat)<=qCGe)
abbrev qCGd (a0:List (List Nat)):=(List.take (qCG5 a0) a0++ [[(105:Nat),(102:Nat)],[qCGo]])
abbrev qCGk (a0:List (List Nat)):=(List.take (qCG5 a0) a0++ [[(60:Nat)]])
abbrev qCGr (a0:List (List Nat)) (b0:List (List Nat)) (c0:List (List Nat)) (d0:Nat):=(some (List.take (qCG5 a0) a0++ [[qCGp]],fzO (qCG4 b0 c0 d0)))
theorem Zse (m:Nat) (l:List (List Nat)) (fz:Nat) (x:Ex) (l':List (List Nat)):Zl E Fpu (vc E (Fxp' m) 400) 79 [.ptr 0 0,exA x] (hpP E Th.strs (some (l,fz))) 2 (prnK E Th.strs (some (l,fz)) l')=(
 ((Ex.op x==qCGb)=true->(qCGc<=Ex.n x/\Ex.n x+qCGb<=(10000000000000:Int))/\∀(y:List Nat),y=decN (Ex.n x)->(List.length l<=List.length l/\fz<=List.length l/\(qCGi l)*qCGq<=qCGa)/\(List.length l+qCG8=List.length (List.take (qCG5 l) l++ [y])/\fz<=List.length (List.take (qCG5 l) l++ [y])/\qCG8<=List.length (List.take (qCG5 l) l++ [y])/\List.length (List.take (qCG5 l) l++ [y])+qCGj<=qCGe)/\∀(l'_1:List (List Nat)),l'_1=List.take (qCG5 l) l++ [y]++txU [Ex.d0 x,Ex.d1 x,Ex.d2 x,Ex.d3 x]->l'_1=l'/\List.length l'_1=List.length l'/\fzO (some (List.take (qCG5 l) l++ [y],fz))=fzO (some (l,fz)))/\((Ex.op x==qCGb)=false->((Ex.op x==(2:Int))=true->qCGc<=Ex.n x/\Ex.n x+qCGb<=(↑(List.length (WK.words WK.at_)):Int)/\∀(x_1:List Nat),(WK.words WK.at_)[Int.toNat (Ex.n x)]? =some x_1->(List.length l<=List.length l/\fz<=List.length l/\(qCGi l)*qCGq<=qCGa)/\List.take (qCG5 l) l++ [x_1]=l'/\List.length l+qCG8=List.length l'/\fz=fzO (some (l,fz)))/\((Ex.op x==(2:Int))=false->((Ex.op x==(11:Int))=true->(List.length l<=List.length l/\fz<=List.length l/\(List.length l+(2:Nat))*qCGq<=qCGa)/\qCGc<=qCGc/\qCGc+qCGb<=(qCG9 x)/\∀(x_1:Ex),(Ex.l x)[Int.toNat qCGc]? =some x_1->(List.length l+(2:Nat)=List.length (qCGd l)/\fz<=List.length (qCGd l)/\Ex.sz (qCG2 x_1)+qCG8<=m/\Z9 (qCG2 x_1)=true/\qCG8<=List.length (qCGd l)/\List.length (qCGd l)+qCGj*Ex.sz (qCG2 x_1)+qCGj<=qCGe)/\∀(l'_1:List (List Nat)),l'_1=List.take (qCG5 l) l++ [[(105:Nat),(102:Nat)],[qCGo]]++txX (qCG2 x_1)->(List.length l'_1<=List.length l'_1/\fzO (qCGh l fz)<=List.length l'_1/\(qCGi l'_1)*qCGq<=qCGa)/\qCGc<=qCGb/\qCGb+qCGb<=(qCG9 x)/\∀(x_2:Ex),(Ex.l x)[Int.toNat qCGb]? =some x_2->(List.length l'_1+qCG8=List.length (qCGk l'_1)/\fzO (qCGh l fz)<=List.length (qCGk l'_1)/\Ex.sz (qCG2 x_2)+qCG8<=m/\Z9 (qCG2 x_2)=true/\qCG8<=List.length (qCGk l'_1)/\List.length (qCGk l'_1)+qCGj*Ex.sz (qCG2 x_2)+qCGj<=qCGe)/\∀(l'_2:List (List Nat)),l'_2=List.take (qCG5 l'_1) l'_1++ [[(60:Nat)]]++txX (qCG2 x_2)->(List.length l'_2<=List.length l'_2/\fzO (qCG4 l'_1 l fz)<=List.length l'_2/\(qCGi l'_2)*qCGq<=qCGa)/\qCGc<=(2:Int)/\(2:Int)+qCGb<=(qCG9 x)/\∀(x_3:Ex),(Ex.l x)[Int.toNat (2:Int)]? =some x_3->(List.length l'_2+qCG8=List.length (qCG6 l'_2)/\fzO (qCG4 l'_1 l fz)<=List.length (qCG6 l'_2)/\Ex.sz (qCG2 x_3)+qCG8<=m/\Z9 (qCG2 x_3)=true/\qCG8<=List.length (qCG6 l'_2)/\List.length (qCG6 l'_2)+qCGj*Ex.sz (qCG2 x_3)+qCGj<=qCGe)/\∀(l'_3:List (List Nat)),l'_3=List.take (qCG5 l'_2) l'_2++ [[qCGp]]++txX (qCG2 x_3)->(List.length l'_3<=List.length l'_3/\fzO (qCGr l'_2 l'_1 l fz)<=List.length l'_3/\(qCGi l'_3)*qCGq<=qCGa)/\qCGc<=(3:Int)/\(3:Int)+qCGb<=(qCG9 x)/\∀(x_4:Ex),(Ex.l x)[Int.toNat (3:Int)]? =some x_4->(List.length l'_3+qCG8=List.length (qCG6 l'_3)/\fzO (qCGr l'_2 l'_1 l fz)<=List.length (qCG6 l'_3)/\Ex.sz (qCG2 x_4)+qCG8<=m/\Z9 (qCG2 x_4)=true/\qCG8<=List.length (qCG6 l'_3)/\List.length (qCG6 l'_3)+qCGj*Ex.sz (qCG2 x_4)+qCGj<=qCGe)/\∀(l'_4:List (List Nat)),l'_4=List.take (qCG5 l'_3) l'_3++ [[qCGp]]++txX (qCG2 x_4)->(List.length l'_4<=List.length l'_4/\fzO (some (List.take (qCG5 l'_3) l'_3++ [[qCGp]],fzO (qCGr l'_2 l'_1 l fz)))<=List.length l'_4/\(qCGi l'_4)*qCGq<=qCGa)/\List.take (qCG5 l'_4) l'_4++ [[(41:Nat)]]=l'/\List.length l'_4+qCG8=List.length l'/\fzO (some (List.take (qCG5 l'_3) l'_3++ [[qCGp]],fzO (qCGr l'_2 l'_1 l fz)))=fzO (some (l,fz)))/\((Ex.op x==(11:Int))=false->((Ex.op x==(3:Int))=true->qCGc<=qCGc/\qCGc+qCGb<=(qCG9 x)/\∀(x_1:Ex),(Ex.l x)[Int.toNat qCGc]? =some x_1->True/\∀(y:Int),y=tightF (Ex.op x)->(qCG7 l fz x_1 m)/\∀(l'_1:List (List Nat)),l'_1=l++par (Ex.op (qCG2
x_1)) y (txX (qCG2 x_1))->qCGc<=wr IntKind.i64 (qCGg x)/\wr IntKind.i64 (qCGg x)+qCGb<=(↑(3:Nat):Int)/\(qCG3 x l'_1 l fz m l')/\(qCG1 x l'_1 l fz m l'))/\((Ex.op x==(3:Int))=false->((Ex.op x==(4:Int))=true->qCGc<=qCGc/\qCGc+qCGb<=(qCG9 x)/\∀(x_1:Ex),(Ex.l x)[Int.toNat qCGc]? =some x_1->True/\∀(y:Int),y=tightF (Ex.op x)->(qCG7 l fz x_1 m)/\∀(l'_1:List (List Nat)),l'_1=l++par (Ex.op (qCG2 x_1)) y (txX (qCG2 x_1))->qCGc<=wr IntKind.i64 (qCGg x)/\wr IntKind.i64 (qCGg x)+qCGb<=(↑(3:Nat):Int)/\(qCG3 x l'_1 l fz m l')/\(qCG1 x l'_1 l fz m l'))/\((Ex.op x==(4:Int))=false->((Ex.op x==(5:Int))=true->qCGc<=qCGc/\qCGc+qCGb<=(qCG9 x)/\∀(x_1:Ex),(Ex.l x)[Int.toNat qCGc]? =some x_1->True/\∀(y:Int),y=tightF (Ex.op x)->(qCG7 l fz x_1 m)/\∀(l'_1:List (List Nat)),l'_1=l++par (Ex.op (qCG2 x_1)) y (txX (qCG2 x_1))->qCGc<=wr IntKind.i64 (qCGg x)/\wr IntKind.i64 (qCGg x)+qCGb<=(↑(3:Nat):Int)/\(qCG3 x l'_1 l fz m l')/\(qCG1 x l'_1 l fz m l'))/\((Ex.op x==(5:Int))=false->qCGc<=wr IntKind.i64 (Ex.op x-(6:Int))/\wr IntKind.i64 (Ex.op x-(6:Int))+qCGb<=(↑(List.length (WK.words WK.ca)):Int)/\∀(x_1:List Nat),(WK.words WK.ca)[Int.toNat (wr IntKind.i64 (Ex.op x-(6:Int)))]? =some x_1->(List.length l<=List.length l/\fz<=List.length l/\(List.length l+(2:Nat))*qCGq<=qCGa)/\qCGc<=qCGc/\qCGc+qCGb<=(qCG9 x)/\∀(x_2:Ex),(Ex.l x)[Int.toNat qCGc]? =some x_2->(List.length l+(2:Nat)=List.length (List.take (qCG5 l) l++ [x_1,[qCGo]])/\fz<=List.length (List.take (qCG5 l) l++ [x_1,[qCGo]])/\Ex.sz (qCG2 x_2)+qCG8<=m/\Z9 (qCG2 x_2)=true/\qCG8<=List.length (List.take (qCG5 l) l++ [x_1,[qCGo]])/\List.length (List.take (qCG5 l) l++ [x_1,[qCGo]])+qCGj*Ex.sz (qCG2 x_2)+qCGj<=qCGe)/\∀(l'_1:List (List Nat)),l'_1=List.take (qCG5 l) l++ [x_1,[qCGo]]++txX (qCG2 x_2)->(List.length l'_1<=List.length l'_1/\fzO (some (List.take (qCG5 l) l++ [x_1,[qCGo]],fz))<=List.length l'_1/\(qCGi l'_1)*qCGq<=qCGa)/\qCGc<=qCGb/\qCGb+qCGb<=(qCG9 x)/\∀(x_3:Ex),(Ex.l x)[Int.toNat qCGb]? =some x_3->(List.length l'_1+qCG8=List.length (qCG6 l'_1)/\fzO (some (List.take (qCG5 l) l++ [x_1,[qCGo]],fz))<=List.length (qCG6 l'_1)/\Ex.sz (qCG2 x_3)+qCG8<=m/\Z9 (qCG2 x_3)=true/\qCG8<=List.length (qCG6 l'_1)/\List.length (qCG6 l'_1)+qCGj*Ex.sz (qCG2 x_3)+qCGj<=qCGe)/\∀(l'_2:List (List Nat)),l'_2=List.take (qCG5 l'_1) l'_1++ [[qCGp]]++txX (qCG2 x_3)->(List.length l'_2<=List.length l'_2/\fzO (some (List.take (qCG5 l'_1) l'_1++ [[qCGp]],fzO (some (List.take (qCG5 l) l++ [x_1,[qCGo]],fz))))<=List.length l'_2/\(qCGi l'_2)*qCGq<=qCGa)/\List.take (qCG5 l'_2) l'_2++ [[(41:Nat)]]=l'/\List.length l'_2+qCG8=List.length l'/\fzO (some (List.take (qCG5 l'_1) l'_1++ [[qCGp]],fzO (some (List.take (qCG5 l) l++ [x_1,[qCGo]],fz))))=fzO (some (l,fz))))))))):=by kernel_rfl
theorem Ycr (op n a b c d:Int) (l:List Ex):Ex.op (.mk op n a b c d l)=op:=rfl
theorem n_mk (op n a b c d:Int) (l:List Ex):Ex.n (.mk op n a b c d l)=n:=rfl
theorem Ycs (op n a b c d:Int) (l:List Ex):Ex.d0 (.mk op n a b c d l)=a:=rfl
theorem Yct (op n a b c d:Int) (l:List Ex):Ex.d1 (.mk op n a b c d l)=b:=rfl
theorem Ycu (op n a b c d:Int) (l:List Ex):Ex.d2 (.mk op n a b c d l)=c:=rfl
theorem Ycv (op n a b c d:Int) (l:List Ex):Ex.d3 (.mk op n a b c d l)=d:=rfl
theorem l_mk (op n a b c d:Int) (l:List Ex):Ex.l (.mk op n a b c d l)=l:=rfl
theorem u_mk (op n a b c d:Int) (l:List Ex):Ex.u (.mk op n a b c d l)= [a,b,c,d]:=rfl
theorem len4 {α:Type} {l:List α} (h:l.length=4):∃a b c d,l= [a,b,c,d]:=by
 match l,h with
 | [a,b,c,d],_=>exact ⟨a,b,c,d,rfl⟩
theorem Zml (op least:Int) (t:List (List Nat)):(par op least t).length<=t.length+2:=by
 unfold par
 split
 · omega
 · simp
theorem Zp5:∀m,PxOk m
 |0=>fun x h=>by omega
 |m+1=>by
  intro x hx hf l fz hfz h1 hl
  have hm:=Zp5 m
  refine Zdo E_ok (X7 E_ok Zrq fun f N c=>(Ziu E_ok (Z8f hm) 400 f N c).1) rfl ?_
  show Zl E Fpu (vc E (Fxp' m) 400) 79 [.ptr 0 0,exA x] (hpP E Th.strs (some (l,fz))) 2 (prnK E Th.strs (some (l,fz)) (l++txX x))
  rw [Zse];delta qCG5 qCGc qCGl qCG8 qCGj qCGb qCGq qCGa qCGi qCGf qCG9 qCGm qCGe qCG2 qCGg qCG1 qCGn qCG3 qCGo qCGh qCG4 qCGp qCG6 qCG7 qCGd qCGk qCGr
  simp only [fzO,List.take_length,Ex.eta,forall_eq,beq_iff_eq,beq_eq_false_iff_ne,ne_eq]
  rw [Zac,Bool.and_eq_true] at hf
  obtain ⟨hh,hfl⟩:=hf
  have hkf:∀y∈x.l,Z9 y=true:=formL_iff.1 hfl
  rw [Ex.sz_eq] at hx hl
  obtain ⟨op,n,a,b,c,d,xs⟩:=x
  simp only [Ycr,n_mk,Ycs,Yct,Ycu,Ycv,l_mk,u_mk] at*
  obtain ⟨g1,g2,g3,g4,g5,g6,g7⟩:=Zaq hh
  have htx:txX (.mk op n a b c d xs)=txN op n [a,b,c,d] (xs.map Ex.op) (txL xs):=by rw [txX]
  rw [htx]
  clear hh hfl htx
  have w0:wr .i64 0=0:=by decide
  have w1:wr .i64 1=1:=by decide
  have w2:wr .i64 2=2:=by decide
  have w3:wr .i64 3=3:=by decide
  have t3:tightF 3=1:=rfl
  have t4:tightF 4=1:=rfl
  have t5:tightF 5=2:=rfl
  refine ⟨fun q1=> ?_,fun q1=>⟨fun q2=> ?_,fun q2=>⟨fun q3=> ?_,fun q3=>⟨fun q4=> ?_,fun q4=>⟨fun q5=> ?_,fun q5=>⟨fun q6=> ?_,fun q6=> ?_⟩⟩⟩⟩⟩⟩
  · subst q1
    have h4:n<=1099511627776:=g4
    refine ⟨⟨g3,by omega⟩,⟨Nat.le_refl _,hfz,by omega⟩,⟨by simp,by simp;omega,by simp,by simp;omega⟩,?_⟩
    simp [txN]
  · subst q2
    have h4:n<=15:=g4
    have L:WK.at_.words.length=16:=rfl
    refine ⟨g3,by rw [L];omega,fun w hw=>⟨⟨Nat.le_refl _,hfz,by omega⟩,?_⟩⟩
    have:WK.at_.words.getD n.toNat []=w:=by simp [List.getD,hw]
    unfold txN
    rw [if_neg (by decide),if_pos rfl,this]
    simp
  · subst q3
    obtain ⟨x1,x2,x3,x4,rfl⟩:=len4 (show xs.length=4 from g5)
    have s:x1.sz+(x2.sz+(x3.sz+(x4.sz+0)))+1<m+1:=hx
    have s':l.length+8*(x1.sz+(x2.sz+(x3.sz+(x4.sz+0)))+1)+8<=1000000000:=hl
    have p1:=Y9 x1
    have p2:=Y9 x2
    have p3:=Y9 x3
    have p4:=Y9 x4
    have f1:=hkf x1 (by simp)
    have f2:=hkf x2 (by simp)
    have f3:=hkf x3 (by simp)
    have f4:=hkf x4 (by simp)
    simp [f1,f2,f3,f4,txN,txS,txL,sIf,Xc,Zbh,Yb,Z3]
    omega
  · subst q4
    obtain ⟨x1,x2,rfl⟩:=len2 (show xs.length=2 from g5)
    have s:x1.sz+(x2.sz+0)+1<m+1:=hx
    have s':l.length+8*(x1.sz+(x2.sz+0)+1)+8<=1000000000:=hl
    have p1:=Y9 x1
    have p2:=Y9 x2
    have f1:=hkf x1 (by simp)
    have f2:=hkf x2 (by simp)
    have r1:=Zml x1.op 1 (txX x1)
    simp [w0,w1,w2,w3,t3,f1,f2,txN,txL,sgnO,Zar]
    omega
  · subst q5
    obtain ⟨x1,x2,rfl⟩:=len2 (show xs.length=2 from g5)
    have s:x1.sz+(x2.sz+0)+1<m+1:=hx
    have s':l.length+8*(x1.sz+(x2.sz+0)+1)+8<=1000000000:=hl
    have p1:=Y9 x1
    have p2:=Y9 x2
    have f1:=hkf x1 (by simp)
    have f2:=hkf x2 (by simp)
    have r1:=Zml x1.op 1 (txX x1)
    simp [w0,w1,w2,w3,t4,f1,f2,txN,txL,sgnO,W3]
    omega
  · subst q6
    obtain ⟨x1,x2,rfl⟩:=len2 (show xs.length=2 from g5)
    have s:x1.sz+(x2.sz+0)+1<m+1:=hx
    have s':l.length+8*(x1.sz+(x2.sz+0)+1)+8<=1000000000:=hl
    have p1:=Y9 x1
    have p2:=Y9 x2
    have f1:=hkf x1 (by simp)
    have f2:=hkf x2 (by simp)
    have r1:=Zml x1.op 2 (txX x1)
    simp [w0,w1,w2,w3,t5,f1,f2,txN,txL,sgnO,sMul]
    omega
  · have L:WK.ca.words.length=5:=rfl
    obtain ⟨x1,x2,rfl⟩:=len2 (show xs.length=2 by rw [g5];unfold Zmp;rw [if_neg (by omega),if_neg (by omega)])
    have s:x1.sz+(x2.sz+0)+1<m+1:=hx
    have s':l.length+8*(x1.sz+(x2.sz+0)+1)+8<=1000000000:=hl
    have p1:=Y9 x1
    have p2:=Y9 x2
    have f1:=hkf x1 (by simp)
    have f2:=hkf x2 (by simp)
    have wo:wr .i64 (op-6)=op-6:=wr64 (by omega) (by omega)
    simp only [wo]
    refine ⟨by omega,by rw [L];omega,fun w hw=> ?_⟩
    have e:WK.ca.words.getD (op-6).toNat []=w:=by simp [List.getD,hw]
    have q7:¬(op=3\/op=4\/op=5):=by omega
    unfold txN
    rw [if_neg q1,if_neg q2,if_neg q3,if_neg q7,e]
    simp [f1,f2,txS,txL,Xc,Yb,Z3]
    omega
end
section
open Go
def CsOk:List (List Nat)->List Cls->Prop
 |_,[]=>True
 |seen,c::r=>X8 c=true/\resF c.name=false/\c.name∉seen/\c.when_.length<=8/\Zz c.pay<=24/\CsOk (c.name::seen) r
def Z7f (m:List (List Nat×Bool)) (seen:List (List Nat)):Prop:=∀a,(Y3 m a).getD false=decide (a∈seen)
theorem Zyh {m:List (List Nat×Bool)} {seen:List (List Nat)} (h:Z7f m seen) (a:List Nat):Z7f (putS m a true) (a::seen):=by
 intro b
 rw [Zgd]
 by_cases e:a=b
 · rw [if_pos e]
   subst e
   simp
 · rw [if_neg e,h b]
   simp [Ne.symm e]
theorem Zrg:∀(cs:List Cls) (a b:Bool) (m:List (List Nat×Bool)) (seen:List (List Nat)),Z7f m seen->(goC a b m cs=0↔a=false/\b=false/\CsOk seen cs)
 | [],a,b,m,seen,hm=>by
  unfold goC CsOk
  cases a<;>cases b<;>decide
 |c::r,a,b,m,seen,hm=>by
  rw [Zhr]
  unfold CsOk
  by_cases hc:X8 c=true
  · rw [if_pos hc,Zrg r _ _ _ _ (Zyh hm c.name),hm c.name]
    simp only [Bool.or_eq_false_iff,decide_eq_false_iff_not]
    constructor
    · rintro ⟨⟨⟨h1,h2⟩,h3⟩,⟨⟨h4,h5⟩,h6⟩,h7⟩
      exact ⟨h1,h4,hc,h2,h3,by omega,by omega,h7⟩
    · rintro ⟨h1,h4,_,h2,h3,h5,h6,h7⟩
      exact ⟨⟨⟨h1,h2⟩,h3⟩,⟨⟨h4,by omega⟩,by omega⟩,h7⟩
  · rw [if_neg hc]
    constructor
    · intro h
      cases h
    · rintro ⟨_,_,h,_⟩
      exact absurd h hc
theorem Yf (t:Tar):Yh t=0↔Xn t.name=true/\1<=t.for_/\t.for_<=6/\resF t.name=false/\t.clauses.length<=64/\CsOk [] t.clauses:=by
 unfold Yh
 split
 · rename_i h
   rw [Zrg _ _ _ _ [] (fun a=>by simp [Y3])]
   rw [decide_eq_false_iff_not]
   constructor
   · rintro ⟨h1,h2,h3⟩
     exact ⟨h.1,h.2.1,h.2.2,h1,by omega,h3⟩
   · rintro ⟨_,_,_,h1,h2,h3⟩
     exact ⟨h1,by omega,h3⟩
 · rename_i h
   constructor
   · intro k
     cases k
   · rintro ⟨h1,h2,h3,_⟩
     exact absurd ⟨h1,h2,h3⟩ h
theorem Zcb (i:Nat) (w:Tst) (r:List Tst):txTs i (w::r)=(if i=0 then Zdw else sAnd)::(txW w++txTs (i+1) r):=rfl
theorem Zi3 {n:Int} (h0:0<=n) (h1:n<=1099511627776) (r:List Tok) (e:Int):pInt (tkS (decN n)::r) e= .ok (n,r,e,()):=by
 rw [Zyj h0 h1]
 rfl
theorem W7 {w:Tst} (h:Z5 w=true):0<=w.attr/\w.attr<16/\0<=w.low/\w.low<=1099511627776/\0<=w.high/\w.high<=1099511627776:=of_decide_eq_true h
theorem Z2b (w:Tst):(⟨w.attr,w.low,w.high⟩:Tst)=w:=rfl
theorem Zli {w:Tst} (h:Z5 w=true) {n:Int} (hn:n≠8) (r:List Tok) (e:Int):Wy n (TS (txW w)++r) e= .ok (w,r,e,()):=by
 obtain ⟨a0,a1,l0,l1,h0,h1⟩:=W7 h
 have hk:w.attr.toNat<WK.at_.words.length:=by show w.attr.toNat<16;omega
 unfold txW
 rw [Zdf,List.cons_append]
 unfold Wy Yk
 rw [Zce hk,if_pos (by omega)]
 dsimp only [List.tail_cons]
 rw [if_neg hn,show ((w.attr.toNat:Nat):Int)=w.attr by omega]
 by_cases hq:w.low=w.high
 · rw [if_pos hq]
   have e1:TS [sIs,decN w.low]++r=tkS sIs::tkS (decN w.low)::r:=rfl
   rw [e1,if_pos (show isW sIs (tkS sIs::tkS (decN w.low)::r)=true from rfl),List.tail_cons,Zi3 l0 l1]
   dsimp only
   conv=>rhs;rw [<-Z2b w,<-hq]
 · rw [if_neg hq]
   have e1:TS [sIn,decN w.low,Zbp,decN w.high]++r=tkS sIn::tkS (decN w.low)::tkS Zbp::tkS (decN w.high)::r:=rfl
   rw [e1,if_neg (show ¬isW sIs (tkS sIn::tkS (decN w.low)::tkS Zbp::tkS (decN w.high)::r)=true from Bool.false_ne_true),
    if_pos (show isW sIn (tkS sIn::tkS (decN w.low)::tkS Zbp::tkS (decN w.high)::r)=true from rfl),List.tail_cons,Zi3 l0 l1]
   dsimp only
   rw [if_pos (show isW Zbp (tkS Zbp::tkS (decN w.high)::r)=true from rfl),List.tail_cons,Zi3 h0 h1]
theorem Zi4 (k:Nat) (ts:List Tst) (l:List Tok) (e:Int):pTs k false ts l e= .ok (ts,l,e,()):=by
 cases k with
 |zero=>rfl
 |succ k=>unfold pTs;rw [if_neg Bool.false_ne_true]
theorem Zg8 {e:Int} {r:List Tok} (hr:isW [97,110,100] r=false):∀(ws:List Tst) (i k:Nat) (ts:List Tst),1<=i->(∀w∈ws,Z5 w=true)->ws.length<k->ts.length+ws.length<=8->
 pTs k (isW [97,110,100] (TS (txTs i ws)++r)) ts (if isW [97,110,100] (TS (txTs i ws)++r) then (TS (txTs i ws)++r).tail else TS (txTs i ws)++r) e= .ok (ts++ws,r,e,())
 | [],i,k,ts,hi,hw,hk,hl=>by
  have e1:TS (txTs i [])++r=r:=rfl
  rw [e1,hr,if_neg Bool.false_ne_true,Zi4,List.append_nil]
 |w::ws,i,0,ts,hi,hw,hk,hl=>by simp at hk
 |w::ws,i,k+1,ts,hi,hw,hk,hl=>by
  have e1:TS (txTs i (w::ws))++r=tkS sAnd::(TS (txW w)++(TS (txTs (i+1) ws)++r)):=by
   rw [Zcb,if_neg (by omega),Zdf,Zhl,List.cons_append,List.append_assoc]
  have e2:isW [97,110,100] (tkS sAnd::(TS (txW w)++(TS (txTs (i+1) ws)++r)))=true:=rfl
  rw [e1,e2,if_pos rfl,List.tail_cons]
  unfold pTs
  rw [if_pos rfl,Zli (hw w (by simp)) (by simp at hl;omega)]
  dsimp only
  rw [Zg8 hr ws (i+1) k (ts++ [w]) (by omega) (fun w h=>hw w (by simp [h])) (by simpa using hk) (by simp at hl⊢;omega)]
  rw [List.append_assoc]
  rfl
theorem Znw {e:Int} {r:List Tok} (hr:isW [97,110,100] r=false) (hr2:isW [119,104,101,110] r=false) (ws:List Tst) (hw:∀w∈ws,Z5 w=true) (hl:ws.length<=8):
 pTs 10 (isW [119,104,101,110] (TS (txTs 0 ws)++r)) [] (if isW [119,104,101,110] (TS (txTs 0 ws)++r) then (TS (txTs 0 ws)++r).tail else TS (txTs 0 ws)++r) e= .ok (ws,r,e,()):=by
 cases ws with
 |nil=>
  have e1:TS (txTs 0 [])++r=r:=rfl
  rw [e1,hr2,if_neg Bool.false_ne_true,Zi4]
 |cons w ws=>
  have e1:TS (txTs 0 (w::ws))++r=tkS Zdw::(TS (txW w)++(TS (txTs 1 ws)++r)):=by
   rw [Zcb,if_pos rfl,Zdf,Zhl,List.cons_append,List.append_assoc]
  have e2:isW [119,104,101,110] (tkS Zdw::(TS (txW w)++(TS (txTs 1 ws)++r)))=true:=rfl
  rw [e1,e2,if_pos rfl,List.tail_cons]
  unfold pTs
  rw [if_pos rfl,Zli (hw w (by simp)) (by simp)]
  dsimp only
  rw [Zg8 hr ws 1 9 _ (Nat.le_refl _) (fun w h=>hw w (by simp [h])) (by simp at hl;omega) (by simp at hl⊢;omega)]
  rfl
theorem Ya (c:Cls) (r:List Cls):txCs (c::r)=txC c++txCs r:=rfl
theorem Zfp {s:List Nat} (h:Xn s=true) (hr:resF s=false) (r:List Tok) (e:Int):Vt (tkS s::r) e= .ok (s,r,e,()):=by
 rw [Zed h]
 show (if (1:Int)=1 then (if s∈resW then (.error (0,161):PR (List Nat)) else .ok (s,r,e,())) else .error (0,160))=_
 rw [if_pos rfl,if_neg (of_decide_eq_false hr)]
theorem Xy {c:Cls} (h:X8 c=true):Xn c.name=true/\Z9 c.pay=true/\∀w∈c.when_,Z5 w=true:=by
 unfold X8 at h
 rw [Bool.and_eq_true,Bool.and_eq_true] at h
 exact ⟨h.1.1,h.1.2,List.all_eq_true.1 h.2⟩
theorem Zfq {c:Cls} {bs:List Cls} (h1:X8 c=true) (h2:resF c.name=false) (h3:bs.any (fun b=>b.name==c.name)=false) (h4:c.when_.length<=8) (h5:Zz c.pay<=24) (r:List Tok) (e:Int):
 Z2 bs (TS (c.name::(txTs 0 c.when_++sPay::(txX c.pay++ [Zch])))++r) e= .ok (c,r,e,()):=by
 obtain ⟨k1,k2,k3⟩:=Xy h1
 have e1:TS (c.name::(txTs 0 c.when_++sPay::(txX c.pay++ [Zch])))++r=tkS c.name::(TS (txTs 0 c.when_)++tkS sPay::(TS (txX c.pay)++tkS Zch::r)):=by simp
 rw [e1]
 unfold Z2
 rw [Zfp k1 h2]
 dsimp only
 rw [if_neg (by rw [h3];decide),Znw (r:=tkS sPay::(TS (txX c.pay)++tkS Zch::r)) rfl rfl _ k3 h4]
 unfold pAft pPay
 dsimp only
 rw [if_pos (show isW [112,97,121] (tkS sPay::(TS (txX c.pay)++tkS Zch::r))=true from rfl),List.tail_cons,(rdb c.pay k2).all (Z3i r) e]
 dsimp only
 rw [if_neg (by omega),if_pos (show isW [59] (tkS Zch::r)=true from rfl)]
 rfl
theorem any_name {bs:List Cls} {a:List Nat}:bs.any (fun b=>b.name==a)=false↔a∉bs.map Cls.name:=by
 rw [List.any_eq_false]
 simp only [List.mem_map,not_exists,not_and]
 constructor
 · intro h b hb e
   exact h b hb (by rw [e];exact beq_self_eq_true a)
 · intro h b hb e
   exact h b hb (eq_of_beq e)
theorem CsOk.congr:∀{cs:List Cls} {s s':List (List Nat)},(∀a,a∈s↔a∈s')->CsOk s cs->CsOk s' cs
 | [],_,_,_,_=>trivial
 |c::r,s,s',h,⟨h1,h2,h3,h4,h5,h6⟩=>⟨h1,h2,fun k=>h3 ((h _).2 k),h4,h5,CsOk.congr (fun a=>by simp [h a]) h6⟩
theorem Zdp {e:Int} {r:List Tok} (hr:isW [99,108,97,117,115,101] r=false):∀(cs bs:List Cls) (k:Nat),CsOk (bs.map Cls.name) cs->cs.length<k->bs.length+cs.length<=64->
 pCls k bs (TS (txCs cs)++r) e= .ok (bs++cs,r,e,())
 | [],bs,0,_,hk,_=>by simp at hk
 | [],bs,k+1,_,_,_=>by
  have e1:TS (txCs [])++r=r:=rfl
  unfold pCls
  rw [e1,hr,if_neg Bool.false_ne_true,List.append_nil]
 |c::cs,bs,0,_,hk,_=>by simp at hk
 |c::cs,bs,k+1,h,hk,hl=>by
  obtain ⟨h1,h2,h3,h4,h5,h6⟩:=h
  have e1:TS (txCs (c::cs))++r=tkS sClause::(TS (c.name::(txTs 0 c.when_++sPay::(txX c.pay++ [Zch])))++(TS (txCs cs)++r)):=by
   rw [Ya]
   unfold txC
   rw [Zhl,Zdf,List.append_assoc,List.cons_append]
  rw [e1]
  unfold pCls
  rw [if_pos (show isW [99,108,97,117,115,101] (tkS sClause::_)=true from rfl),if_neg (by simp at hl;omega),List.tail_cons,Zfq h1 h2 (any_name.2 h3) h4 h5]
  dsimp only
  rw [Zdp hr cs (bs++ [c]) k (CsOk.congr (fun a=>by simp [or_comm]) h6) (by simpa using hk) (by simp at hl⊢;omega)]
  rw [List.append_assoc]
  rfl
theorem Z2c {t:Tar} (h:Yh t=0) (e:Int):pTar (TS (Zw t)) e= .ok (t,[],e,()):=by
 obtain ⟨h1,h2,h3,h4,h5,h6⟩:=(Yf t).1 h
 have e1:TS (Zw t)=tkS sTariff::tkS t.name::tkS sFor::tkS (WK.ki.words.getD (t.for_-1).toNat [])::tkS sLb::(TS (txCs t.clauses)++ [tkS sRb]):=by
  unfold Zw
  simp
 have hk:(t.for_-1).toNat<WK.ki.words.length:=by show (t.for_-1).toNat<6;omega
 rw [e1]
 unfold pTar
 rw [if_pos (show isW [116,97,114,105,102,102] (tkS sTariff::_)=true from rfl),List.tail_cons,Zfp h1 h4]
 dsimp only
 rw [if_pos (show isW [102,111,114] (tkS sFor::_)=true from rfl),List.tail_cons]
 unfold Yk
 rw [Zce hk,if_pos (by omega)]
 dsimp only
 rw [List.tail_cons,if_pos (show isW [123] (tkS sLb::_)=true from rfl),List.tail_cons]
 have hlen:∀cs:List Cls,cs.length<=(txCs cs).length:=by
  intro cs
  induction cs with
  |nil=>exact Nat.le_refl _
  |cons c r ih=>
   rw [Ya]
   unfold txC
   simp
   omega
 rw [Zdp (r:= [tkS sRb]) rfl t.clauses [] _ h6 (by have:=hlen t.clauses;simp;omega) (by simpa using h5)]
 unfold pEnd
 dsimp only
 rw [if_pos (show isW [125] [tkS sRb]=true from rfl),if_neg (by simp)]
 have:wr .i64 (1+(((t.for_-1).toNat:Nat):Int))=t.for_:=by
  rw [wr64 (by omega) (by omega)]
  omega
 rw [this]
 rfl
end
section
open Go
abbrev PP (β:Type):=List Tok->Int->PR β
def Yal (l:List Tok) (e:Int) (er:Int×Int):Prop:=(er.1=e\/∃t∈l,t.at_=er.1)/\(er.2=2\/er.2=160\/er.2=161)
section
variable {α β : Type}
def Okp (rel:β->β->Prop) (p:PP β) (l:List Tok) (y:β) (k:Nat):Prop:=
 k<=l.length/\∀(l':List Tok) (m:Nat) (f:Int),l'.map sT=(l.map sT).take m->
  (k<=m->p l' f= .ok (y,l'.drop k,f,()))/\(m<k->p l' f= .error (f,160)\/∃y',rel y' y/\p l' f= .ok (y',[],f,()))
def ErrS (p:PP β) (l:List Tok) (e:Int) (er:Int×Int):Prop:=∃(j:Nat) (c:Int),er=(hdT e (l.drop j),c)/\(c=2\/c=160\/c=161)/\∀(l':List Tok) (f:Int),l'.map sT=l.map sT->p l' f= .error (hdT f (l'.drop j),c)
def Gd (rel:β->β->Prop) (p:PP β):Prop:=∀l e,(∀y x,p l e= .ok (y,x)->∃k,x=(l.drop k,e,())/\Okp rel p l y k)/\∀er,p l e= .error er->ErrS p l e er
theorem Yam (l:List Tok) (e:Int):hdT e l=e\/∃t∈l,t.at_=hdT e l:=by
 cases l with
 |nil=>exact .inl rfl
 |cons t r=>exact .inr ⟨t,by simp,rfl⟩
theorem ErrS.at {p:PP β} {l:List Tok} {e:Int} {er:Int×Int} (h:ErrS p l e er):Yal l e er:=by
 obtain ⟨j,c,rfl,hc,_⟩:=h
 refine ⟨(Yam (l.drop j) e).imp id ?_,hc⟩
 rintro ⟨t,ht,h⟩
 exact ⟨t,List.mem_of_mem_drop ht,h⟩
theorem ErrS.hd {p:PP β} {l:List Tok} {e:Int} {c:Int} (hc:c=2\/c=160\/c=161) (h:∀(l':List Tok) (f:Int),l'.map sT=l.map sT->p l' f= .error (hdT f l',c)):ErrS p l e (hdT e l,c):=⟨0,c,rfl,hc,h⟩
theorem Zb6 {l l':List Tok} (h:l'.map sT=l.map sT):l'.map sT=(l.map sT).take l.length:=by rw [h,List.take_of_length_le (by simp)]
theorem Gd.mono {rel rel':β->β->Prop} {p:PP β} (h:Gd rel p) (hr:∀a b,rel a b->rel' a b):Gd rel' p:=by
 intro l e
 refine ⟨fun y x hy=> ?_,(h l e).2⟩
 obtain ⟨k,h1,h2,h3⟩:=(h l e).1 y x hy
 refine ⟨k,h1,h2,fun l' m f hl=>⟨(h3 l' m f hl).1,fun hm=>((h3 l' m f hl).2 hm).imp id ?_⟩⟩
 rintro ⟨y',h4,h5⟩
 exact ⟨y',hr _ _ h4,h5⟩
def pR (y:β):PP β:=fun l e=> .ok (y,l,e,())
def pSyn:PP β:=fun l e=> .error (hdT e l,160)
theorem Vz {l':List Tok} {m:Nat} (h:l'.map sT=(([]:List Tok).map sT).take m):l'= []:=by
 rw [List.map_nil,List.take_nil] at h
 exact List.map_eq_nil_iff.1 h
theorem gd_R (rel:β->β->Prop) (y:β):Gd rel (pR y):=by
 intro l e
 refine ⟨fun z x h=> ?_,fun er h=>by cases h⟩
 unfold pR at h
 cases h
 refine ⟨0,rfl,Nat.zero_le _,fun l' m f _=>⟨fun _=>rfl,fun h=>by omega⟩⟩
theorem V9 (rel:β->β->Prop):Gd rel (pSyn:PP β):=by
 intro l e
 refine ⟨fun z x h=>(by cases h),fun er h=> ?_⟩
 unfold pSyn at h
 cases h
 exact .hd (by simp) fun l' f _=>rfl
def pBc (p:PP α) (c:α->Bool) (code:Int) (q:α->PP β):PP β:=fun l e=>
 match p l e with
 | .error er=> .error er
 | .ok (y,x)=>if c y then .error (hdT e l,code) else q y x.1 x.2.1
def pB (p:PP α) (q:α->PP β):PP β:=fun l e=>
 match p l e with
 | .error er=> .error er
 | .ok (y,x)=>q y x.1 x.2.1
theorem Zww {l':List Tok} {l:List Tok} {m k:Nat} (h:l'.map sT=(l.map sT).take m):(l'.drop k).map sT=((l.drop k).map sT).take (m-k):=by
 rw [List.map_drop,h,List.map_drop,List.drop_take]
theorem Z1j {rel:α->α->Prop} {rel':β->β->Prop} {p:PP α} {c:α->Bool} {code:Int} {q:α->PP β} (hp:Gd rel p) (hq:∀y,Gd rel' (q y)) (hcode:code=2\/code=160\/code=161) (hc:∀y y',rel y' y->c y=false->c y'=false)
 (h0:∀y y' l e z x,rel y' y->q y l e= .ok (z,x)->∀f,q y' [] f= .error (f,160)\/∃z',rel' z' z/\q y' [] f= .ok (z',[],f,())):Gd rel' (pBc p c code q):=by
 intro l e
 have E:∀l e,pBc p c code q l e=match p l e with| .error er=> .error er| .ok (y,x)=>if c y then .error (hdT e l,code) else q y x.1 x.2.1:=fun _ _=>rfl
 rw [E]
 cases h:p l e with
 |error er=>
  refine ⟨fun z x h=>(by cases h),fun er' h'=> ?_⟩
  cases h'
  obtain ⟨j,c0,h1,h2,h3⟩:=(hp l e).2 er h
  exact ⟨j,c0,h1,h2,fun l' f hl=>by rw [E,h3 l' f hl]⟩
 |ok y=>
  obtain ⟨y,x⟩:=y
  obtain ⟨k1,rfl,h1,h2⟩:=(hp l e).1 y x h
  dsimp only
  cases hcy:c y with
  |true=>
   refine ⟨fun z x h=>(by cases h),fun er' h'=> ?_⟩
   cases h'
   refine .hd hcode fun l' f hl=> ?_
   rw [E,(h2 l' l.length f (Zb6 hl)).1 h1]
   dsimp only
   rw [hcy,if_pos rfl]
  |false=>
   rw [if_neg Bool.false_ne_true]
   refine ⟨fun z x2 hz=> ?_,fun er' h'=> ?_⟩
   rotate_left
   · obtain ⟨j,c0,h3,h4,h5⟩:=(hq y _ _).2 er' h'
     refine ⟨k1+j,c0,by rw [h3,List.drop_drop],h4,fun l' f hl=> ?_⟩
     rw [E,(h2 l' l.length f (Zb6 hl)).1 h1]
     dsimp only
     rw [hcy,if_neg Bool.false_ne_true,h5 (l'.drop k1) f (by rw [List.map_drop,hl,List.map_drop]),List.drop_drop]
   obtain ⟨k2,rfl,h3,h4⟩:=(hq y _ _).1 z x2 hz
   rw [List.length_drop] at h3
   refine ⟨k1+k2,by rw [List.drop_drop],by omega,fun l' m f hl=> ?_⟩
   have hd:=Zww (k:=k1) hl
   rw [E]
   refine ⟨fun hm=> ?_,fun hm=> ?_⟩
   · rw [(h2 l' m f hl).1 (by omega)]
     dsimp only
     rw [hcy,if_neg Bool.false_ne_true,(h4 _ _ f hd).1 (by omega),List.drop_drop]
   · by_cases hk:k1<=m
     · rw [(h2 l' m f hl).1 hk]
       dsimp only
       rw [hcy,if_neg Bool.false_ne_true]
       exact (h4 _ _ f hd).2 (by omega)
     · rcases (h2 l' m f hl).2 (by omega) with h5|⟨y',h5,h6⟩
       · rw [h5]
         exact .inl rfl
       · rw [h6]
         dsimp only
         rw [hc y y' h5 hcy,if_neg Bool.false_ne_true]
         exact h0 y y' _ _ z _ h5 hz f
theorem Yc6 (p:PP α) (q:α->PP β):pB p q=pBc p (fun _=>false) 2 q:=by
 funext l e
 unfold pB pBc
 cases p l e with
 |error er=>rfl
 |ok y=>rfl
theorem gd_b {rel:α->α->Prop} {rel':β->β->Prop} {p:PP α} {q:α->PP β} (hp:Gd rel p) (hq:∀y,Gd rel' (q y))
 (h0:∀y y' l e z x,rel y' y->q y l e= .ok (z,x)->∀f,q y' [] f= .error (f,160)\/∃z',rel' z' z/\q y' [] f= .ok (z',[],f,())):Gd rel' (pB p q):=by
 rw [Yc6]
 exact Z1j hp hq (by simp) (fun _ _ _ _=>rfl) h0
def pIf (s:List Nat) (A B:PP β):PP β:=fun l e=>if isW s l then A l.tail e else B l e
theorem Wu {t t':Tok} (h:sT t'=sT t):t'.kind=t.kind/\t'.text=t.text/\t'.n=t.n:=by
 unfold sT atT at h
 injection h with h1 h2 h3 h4
 exact ⟨h1,h2,h3⟩
theorem Zku {s:List Nat} {t t':Tok} {r r':List Tok} (h:sT t'=sT t):isW s (t'::r')=isW s (t::r):=by
 obtain ⟨h1,h2,_⟩:=Wu h
 show (!(t'.kind==2)&&t'.text==s)=(!(t.kind==2)&&t.text==s)
 rw [h1,h2]
theorem Xb {l' l:List Tok} {m:Nat} (h:l'.map sT=(l.map sT).take m):(l'= []/\(m=0\/l= []))\/∃t' r' t r m',l'=t'::r'/\l=t::r/\m=m'+1/\sT t'=sT t/\r'.map sT=(r.map sT).take m':=by
 cases m with
 |zero=>
  rw [List.take_zero] at h
  exact .inl ⟨List.map_eq_nil_iff.1 h,.inl rfl⟩
 |succ m=>
  cases l with
  |nil=>exact .inl ⟨Vz h,.inr rfl⟩
  |cons t r=>
   cases l' with
   |nil=>simp at h
   |cons t' r'=>
    rw [List.map_cons,List.map_cons,List.take_succ_cons] at h
    injection h with h1 h2
    exact .inr ⟨t',r',t,r,m,rfl,rfl,rfl,h1,h2⟩
theorem Ue {rel:β->β->Prop} {s:List Nat} {A B:PP β} (hA:Gd rel A) (hB:Gd rel B) (h0:∀l e y x,A l e= .ok (y,x)->∀f,B [] f= .error (f,160)\/∃y',rel y' y/\B [] f= .ok (y',[],f,())):Gd rel (pIf s A B):=by
 intro l e
 have E:∀l e,pIf s A B l e=if isW s l then A l.tail e else B l e:=fun _ _=>rfl
 rw [E]
 cases hw:isW s l with
 |true=>
  rw [if_pos rfl]
  cases l with
  |nil=>cases hw
  |cons t r=>
   refine ⟨fun y x hy=> ?_,fun er h=> ?_⟩
   rotate_left
   · obtain ⟨j,c0,h3,h4,h5⟩:=(hA r e).2 er h
     refine ⟨j+1,c0,h3,h4,fun l' f hl=> ?_⟩
     rcases Xb (Zb6 hl) with ⟨rfl,h6⟩|⟨t',r',t2,r2,m',rfl,h6,h7,h8,h9⟩
     · simp at hl
     · cases h6
       rw [E,Zku (r':=r') (r:=r) h8,hw,if_pos rfl]
       refine h5 r' f ?_
       simpa using (List.cons.inj hl).2
   obtain ⟨k,rfl,h1,h2⟩:=(hA r e).1 y x hy
   refine ⟨k+1,rfl,by simpa using h1,fun l' m f hl=> ?_⟩
   rw [E]
   rcases Xb hl with ⟨rfl,h3⟩|⟨t',r',t2,r2,m',rfl,h3,rfl,h4,h5⟩
   · have hm:m=0:=by
      rcases h3 with h3|h3
      · exact h3
      · cases h3
     subst hm
     refine ⟨fun h=>by omega,fun _=> ?_⟩
     rw [show isW s []=false from rfl,if_neg Bool.false_ne_true]
     exact h0 _ _ _ _ hy f
   · cases h3
     rw [Zku (r':=r') (r:=r) h4,hw,if_pos rfl]
     exact ⟨fun hm=>(h2 r' m' f h5).1 (by omega),fun hm=>(h2 r' m' f h5).2 (by omega)⟩
 |false=>
  rw [if_neg Bool.false_ne_true]
  have nW:∀(l':List Tok) (m:Nat),l'.map sT=(l.map sT).take m->isW s l'=false:=by
   intro l' m hl
   rcases Xb hl with ⟨rfl,_⟩|⟨t',r',t,r,m',rfl,rfl,rfl,h4,h5⟩
   · rfl
   · rw [Zku (r:=r) h4]
     exact hw
  refine ⟨fun y x hy=> ?_,fun er h=> ?_⟩
  rotate_left
  · obtain ⟨j,c0,h3,h4,h5⟩:=(hB l e).2 er h
    refine ⟨j,c0,h3,h4,fun l' f hl=> ?_⟩
    rw [E,nW l' l.length (Zb6 hl),if_neg Bool.false_ne_true]
    exact h5 l' f hl
  obtain ⟨k,rfl,h1,h2⟩:=(hB l e).1 y x hy
  refine ⟨k,rfl,h1,fun l' m f hl=> ?_⟩
  rw [E]
  have:=nW l' m hl
  rw [this,if_neg Bool.false_ne_true]
  exact h2 l' m f hl
def pOne (c:Tok->Bool) (v:Tok->β):PP β:=fun l e=>
 match l with
 | []=> .error (e,160)
 |t::r=>if c (sT t) then .ok (v (sT t),r,e,()) else .error (t.at_,160)
theorem Z4c (rel:β->β->Prop) (c:Tok->Bool) (v:Tok->β):Gd rel (pOne c v):=by
 intro l e
 cases l with
 |nil=>
  refine ⟨fun y x hy=>(by cases hy),fun er h=> ?_⟩
  cases h
  refine .hd (by simp) fun l' f hl=> ?_
  have:l'= []:=Vz (m:=0) (by simpa using hl)
  subst this
  rfl
 |cons t r=>
  have E:∀t r e,pOne c v (t::r) e=if c (sT t) then .ok (v (sT t),r,e,()) else .error (t.at_,160):=fun _ _ _=>rfl
  rw [E]
  cases hc:c (sT t) with
  |false=>
   rw [if_neg Bool.false_ne_true]
   refine ⟨fun y x hy=>(by cases hy),fun er h=> ?_⟩
   cases h
   refine .hd (l:=t::r) (by simp) fun l' f hl=> ?_
   cases l' with
   |nil=>simp at hl
   |cons t' r'=>
    have h1:sT t'=sT t:=(List.cons.inj hl).1
    rw [E,h1,hc,if_neg Bool.false_ne_true]
    rfl
  |true=>
   rw [if_pos rfl]
   refine ⟨fun y x hy=> ?_,fun er h=>(by cases h)⟩
   cases hy
   refine ⟨1,rfl,by simp,fun l' m f hl=> ?_⟩
   rcases Xb hl with ⟨rfl,h3⟩|⟨t',r',t2,r2,m',rfl,h3,rfl,h4,h5⟩
   · have hm:m=0:=by
      rcases h3 with h3|h3
      · exact h3
      · cases h3
     subst hm
     exact ⟨fun h=>by omega,fun _=> .inl rfl⟩
   · cases h3
     rw [E,h4,hc,if_pos rfl]
     exact ⟨fun _=>rfl,fun h=>by omega⟩
def pOpt (c:Tok->Bool) (v:Tok->β) (z:β):PP β:=fun l e=>
 match l with
 | []=> .ok (z,[],e,())
 |t::r=>if c (sT t) then .ok (v (sT t),r,e,()) else .ok (z,t::r,e,())
theorem Zwx (c:Tok->Bool) (v:Tok->β) (z:β):Gd (fun a _=>a=z) (pOpt c v z):=by
 intro l e
 cases l with
 |nil=>
  refine ⟨fun y x hy=> ?_,fun er h=>(by cases h)⟩
  cases hy
  refine ⟨0,rfl,Nat.zero_le _,fun l' m f hl=>⟨fun _=> ?_,fun h=>by omega⟩⟩
  have:l'= []:=Vz hl
  subst this
  rfl
 |cons t r=>
  have E:∀t r e,pOpt c v z (t::r) e=if c (sT t) then .ok (v (sT t),r,e,()) else .ok (z,t::r,e,()):=fun _ _ _=>rfl
  rw [E]
  cases hc:c (sT t) with
  |false=>
   rw [if_neg Bool.false_ne_true]
   refine ⟨fun y x hy=> ?_,fun er h=>(by cases h)⟩
   cases hy
   refine ⟨0,rfl,Nat.zero_le _,fun l' m f hl=>⟨fun _=> ?_,fun h=>by omega⟩⟩
   rcases Xb hl with ⟨rfl,_⟩|⟨t',r',t2,r2,m',rfl,h3,rfl,h4,h5⟩
   · rfl
   · cases h3
     rw [E,h4,hc,if_neg Bool.false_ne_true]
     rfl
  |true=>
   rw [if_pos rfl]
   refine ⟨fun y x hy=> ?_,fun er h=>(by cases h)⟩
   cases hy
   refine ⟨1,rfl,by simp,fun l' m f hl=> ?_⟩
   rcases Xb hl with ⟨rfl,h3⟩|⟨t',r',t2,r2,m',rfl,h3,rfl,h4,h5⟩
   · have hm:m=0:=by
      rcases h3 with h3|h3
      · exact h3
      · cases h3
     subst hm
     exact ⟨fun h=>by omega,fun _=> .inr ⟨z,rfl,rfl⟩⟩
   · cases h3
     rw [E,h4,hc,if_pos rfl]
     exact ⟨fun _=>rfl,fun h=>by omega⟩
end
abbrev NoR {β:Type}:β->β->Prop:=fun _ _=>False
abbrev AnyR {β:Type}:β->β->Prop:=fun _ _=>True
abbrev NeR:Ex->Ex->Prop:=fun a b=>Zz a<=Zz b
theorem Zqo:pInt=pOne (fun t=>t.kind=2) (fun t=>t.n):=by
 funext l e
 cases l with
 |nil=>rfl
 |cons t r=>
  show (if t.kind=2 then _ else _)=(if decide (t.kind=2)=true then _ else _)
  by_cases h:t.kind=2
  · rw [if_pos h,if_pos (decide_eq_true h)]
    rfl
  · rw [if_neg h,if_neg (by simpa using h)]
theorem Zkv (ws:List (List Nat)):Yk ws=pOne (fun t=>decide (0<=chz ws [t])) (fun t=>chz ws [t]):=by
 funext l e
 cases l with
 |nil=>rfl
 |cons t r=>
  have h1:chz ws (t::r)=chz ws [sT t]:=rfl
  unfold Yk pOne
  dsimp only
  rw [h1]
  by_cases h:0<=chz ws [sT t]
  · rw [if_pos h,if_pos (decide_eq_true h)]
    rfl
  · rw [if_neg h,if_neg (by simpa using h)]
    rfl
theorem Zfd (ws:List (List Nat)):Zq ws=pOpt (fun t=>decide (0<=chz ws [t])) (fun t=>(chz ws [t],true,())) (0,false,()):=by
 funext l e
 cases l with
 |nil=>rfl
 |cons t r=>
  have h1:chz ws (t::r)=chz ws [sT t]:=rfl
  unfold Zq pOpt
  dsimp only
  rw [h1]
  by_cases h:0<=chz ws [sT t]
  · rw [if_pos h,if_pos (decide_eq_true h)]
    rfl
  · rw [if_neg h,if_neg (by simpa using h)]
theorem Zwy:Gd NoR pInt:=by rw [Zqo];exact Z4c _ _ _
theorem Zip (ws:List (List Nat)):Gd NoR (Yk ws):=by rw [Zkv];exact Z4c _ _ _
theorem Zkw (ws:List (List Nat)):Gd (fun a _=>a=(0,false,())) (Zq ws):=by rw [Zfd];exact Zwx _ _ _
theorem Zah (t:Tok) (r:List Tok) (e:Int):Vt (t::r) e=if t.kind=1 then (if t.text∈resW then .error (t.at_,161) else .ok (t.text,r,e,())) else .error (t.at_,160):=rfl
theorem Zwz:Gd NoR Vt:=by
 intro l e
 cases l with
 |nil=>
  refine ⟨fun y x hy=>(by cases hy),fun er h=> ?_⟩
  cases h
  refine .hd (l:= []) (by simp) fun l' f hl=> ?_
  have:l'= []:=Vz (m:=0) (by simpa using hl)
  subst this
  rfl
 |cons t r=>
  have sim:∀(l':List Tok),l'.map sT=(t::r).map sT->∃t' r',l'=t'::r'/\t'.kind=t.kind/\t'.text=t.text:=by
   intro l' hl
   cases l' with
   |nil=>simp at hl
   |cons t' r'=>
    obtain ⟨g1,g2,_⟩:=Wu (List.cons.inj hl).1
    exact ⟨t',r',rfl,g1,g2⟩
  rw [Zah]
  split
  · rename_i hk
    split
    · rename_i hr
      refine ⟨fun y x hy=>(by cases hy),fun er h=> ?_⟩
      cases h
      refine .hd (l:=t::r) (by simp) fun l' f hl=> ?_
      obtain ⟨t',r',rfl,g1,g2⟩:=sim l' hl
      rw [Zah,g1,g2,if_pos hk,if_pos hr]
      rfl
    · rename_i hr
      refine ⟨fun y x hy=> ?_,fun er h=>(by cases h)⟩
      cases hy
      refine ⟨1,rfl,by simp,fun l' m f hl=> ?_⟩
      rcases Xb hl with ⟨rfl,h3⟩|⟨t',r',t2,r2,m',rfl,h3,rfl,h4,h5⟩
      · have hm:m=0:=by
         rcases h3 with h3|h3
         · exact h3
         · cases h3
        subst hm
        exact ⟨fun h=>by omega,fun _=> .inl rfl⟩
      · cases h3
        obtain ⟨g1,g2,_⟩:=Wu h4
        refine ⟨fun _=> ?_,fun h=>by omega⟩
        rw [Zah,g1,g2,if_pos hk,if_neg hr]
        rfl
  · rename_i hk
    refine ⟨fun y x hy=>(by cases hy),fun er h=> ?_⟩
    cases h
    refine .hd (l:=t::r) (by simp) fun l' f hl=> ?_
    obtain ⟨t',r',rfl,g1,g2⟩:=sim l' hl
    rw [Zah,g1,if_neg hk]
    rfl
theorem Zw0:Xd=pB (Zq WK.un.words) fun y=>pIf sPer (pB (Yk WK.un.words) fun j=>pR (decD (if y.2.1 then incD [0,0,0,0] y.1 else [0,0,0,0]) j)) (pR (if y.2.1 then incD [0,0,0,0] y.1 else [0,0,0,0])):=by
 funext l e
 unfold Xd pB pIf
 cases Zq WK.un.words l e with
 |error er=>rfl
 |ok y=>
  dsimp only
  split
  · cases Yk WK.un.words y.2.1.tail y.2.2.1 with
    |error er=>rfl
    |ok z=>rfl
  · rfl
theorem Z6q:Gd AnyR Xd:=by
 rw [Zw0]
 refine gd_b (Zkw _) (fun y=>Ue (gd_b (Zip _) (fun j=>gd_R _ _) (fun _ _ _ _ _ _ h=>h.elim)) (gd_R _ _) fun l e y x _ f=> .inr ⟨_,trivial,rfl⟩) ?_
 intro y y' l e z x _ _ f
 exact .inr ⟨_,trivial,rfl⟩
theorem Zw1 (n:Int):Wy n=pBc (Yk WK.at_.words) (fun _=>decide (n=8)) 2 fun a=>pIf sIs (pB pInt fun m=>pR ⟨a,m,m⟩) (pIf sIn (pB pInt fun m=>pIf Zbp (pB pInt fun k=>pR ⟨a,m,k⟩) pSyn) pSyn):=by
 funext l e
 unfold Wy pBc pIf pB
 cases Yk WK.at_.words l e with
 |error er=>rfl
 |ok y=>
  dsimp only
  by_cases hn:n=8
  · rw [if_pos hn,if_pos (decide_eq_true hn)]
  · rw [if_neg hn,if_neg (show ¬decide (n=8)=true by simpa using hn)]
    split
    · cases pInt y.2.1.tail y.2.2.1 with
      |error er=>rfl
      |ok z=>rfl
    · split
      · cases pInt y.2.1.tail y.2.2.1 with
        |error er=>rfl
        |ok z=>
         dsimp only
         split
         · cases pInt z.2.1.tail z.2.2.1 with
           |error er=>rfl
           |ok u=>rfl
         · rfl
      · rfl
theorem Z6r (n:Int):Gd NoR (Wy n):=by
 rw [Zw1]
 refine Z1j (Zip _) (fun a=> ?_) (by simp) (fun _ _ h=>h.elim) (fun _ _ _ _ _ _ h=>h.elim)
 refine Ue (gd_b Zwy (fun m=>gd_R _ _) (fun _ _ _ _ _ _ h=>h.elim)) (Ue (gd_b Zwy (fun m=> ?_) (fun _ _ _ _ _ _ h=>h.elim)) (V9 _) fun _ _ _ _ _ f=> .inl rfl) fun _ _ _ _ _ f=> .inl rfl
 exact Ue (gd_b Zwy (fun k=>gd_R _ _) (fun _ _ _ _ _ _ h=>h.elim)) (V9 _) fun _ _ _ _ _ f=> .inl rfl
theorem Yan (k:Nat) (ts:List Tst):pTs (k+1) true ts=pB (Wy ts.length) fun t=>pIf [97,110,100] (pTs k true (ts++ [t])) (pTs k false (ts++ [t])):=by
 funext l e
 unfold pB pIf
 rw [pTs,if_pos rfl]
 cases Wy ts.length l e with
 |error er=>rfl
 |ok y=>
  dsimp only
  cases isW [97,110,100] y.2.1<;>rfl
theorem Z1k (k:Nat) (ts:List Tst):pTs k false ts=pR ts:=by
 funext l e
 exact Zi4 k ts l e
theorem Z6s:∀(k:Nat) (more:Bool) (ts:List Tst),Gd AnyR (pTs k more ts)
 |0,more,ts=>gd_R _ ts
 |k+1,false,ts=>by rw [Z1k];exact gd_R _ _
 |k+1,true,ts=>by
  rw [Yan]
  refine gd_b (Z6r _) (fun t=>Ue (Z6s k true _) (Z6s k false _) fun _ _ _ _ _ f=> .inr ⟨ts++ [t],trivial,by rw [Z1k];rfl⟩) (fun _ _ _ _ _ _ h=>h.elim)
theorem Z4d (pe:PE) (s:List Nat) (r:List (List Nat)) (acc:List Ex):pOpL pe (s::r) acc=pB pe fun x=>pIf s (pOpL pe r (acc++ [x])) pSyn:=by
 funext l e
 rw [pOpL]
 unfold pB pIf pSyn
 cases pe l e with
 |error er=>rfl
 |ok y=>rfl
theorem Z4e {pe:PE} (h:Gd NeR pe):∀(ss:List (List Nat)) (acc:List Ex),Gd NoR (pOpL pe ss acc)
 | [],acc=>gd_R _ acc
 |s::r,acc=>by
  rw [Z4d]
  exact gd_b h (fun x=>Ue (Z4e h r _) (V9 _) fun _ _ _ _ _ f=> .inl rfl) fun _ _ _ _ _ _ _ _ f=> .inl rfl
theorem Z4f (pe:PE) (op:Int) (ss:List (List Nat)):pOps pe op ss=pIf Xc (pB (pOpL pe ss []) fun xs=>pR (.mk op 0 0 0 0 0 xs)) pSyn:=by
 funext l e
 unfold pOps pIf pB pSyn
 split
 · cases pOpL pe ss [] l.tail e with
   |error er=>rfl
   |ok y=>rfl
 · rfl
theorem Z4g {pe:PE} (h:Gd NeR pe) (op:Int) (ss:List (List Nat)):Gd NoR (pOps pe op ss):=by
 rw [Z4f]
 exact Ue (gd_b (Z4e h ss []) (fun xs=>gd_R _ _) (fun _ _ _ _ _ _ h=>h.elim)) (V9 _) fun _ _ _ _ _ f=> .inl rfl
theorem Zw2 (pe:PE):V1 pe=pIf Xc (pB pe fun x=>pIf Z3 (pR x) pSyn) (pIf sIf (pOps pe 11 [Zbh,Yb,Yb,Z3]) (pB (Zq WK.ca.words) fun k=>if k.2.1 then pOps pe (6+k.1) [Yb,Z3] else pB (Yk WK.at_.words) fun a=>pR (.mk 2 a 0 0 0 0 []))):=by
 funext l e
 unfold V1 pIf pB pSyn
 split
 · cases pe l.tail e with
   |error er=>rfl
   |ok y=>rfl
 · split
   · rfl
   · cases Zq WK.ca.words l e with
     |error er=>rfl
     |ok y=>
      dsimp only
      cases y.1.2.1 with
      |true=>rfl
      |false=>
       rw [if_neg Bool.false_ne_true,if_neg Bool.false_ne_true]
       cases Yk WK.at_.words y.2.1 y.2.2.1 with
       |error er=>rfl
       |ok z=>rfl
theorem Z6t {pe:PE} (h:Gd NeR pe):Gd NoR (V1 pe):=by
 rw [Zw2]
 refine Ue (gd_b h (fun x=>Ue (gd_R _ _) (V9 _) fun _ _ _ _ _ f=> .inl rfl) fun _ _ _ _ _ _ _ _ f=> .inl rfl) (Ue (Z4g h _ _) (gd_b (Zkw _) (fun k=> ?_) ?_) fun _ _ _ _ _ f=> .inl rfl) fun _ _ _ _ _ f=> .inl rfl
 · split
   · exact Z4g h _ _
   · exact gd_b (Zip _) (fun a=>gd_R _ _) (fun _ _ _ _ _ _ h=>h.elim)
 · rintro y y' l e z x rfl _ f
   exact .inl rfl
theorem Yao {pe:PE} (h:Gd NeR pe):Gd NeR (pFac pe):=by
 have h2:=(Z6t h).mono (rel':=NeR) fun _ _ h=>h.elim
 intro l e
 cases l with
 |nil=>
  obtain ⟨g1,g2⟩:=h2 [] e
  refine ⟨fun y x hy=> ?_,fun er h=> ?_⟩
  rotate_left
  · obtain ⟨j,c0,h3,h4,h5⟩:=g2 er h
    refine ⟨j,c0,h3,h4,fun l' f hl=> ?_⟩
    have e1:l'= []:=Vz (m:=0) (by simpa using hl)
    subst e1
    exact h5 [] f rfl
  obtain ⟨k,hx,hk,ho⟩:=g1 y x hy
  refine ⟨k,hx,hk,fun l' m f hl=> ?_⟩
  have e1:l'= []:=Vz hl
  have:=ho l' m f hl
  subst e1
  exact this
 |cons t r=>
  have key:∀(t:Tok) (r:List Tok) (e:Int),pFac pe (t::r) e=if t.kind=2 then pB Xd (fun d=>pR (.mk 1 t.n (d.getD 0 0) (d.getD 1 0) (d.getD 2 0) (d.getD 3 0) [])) r e else V1 pe (t::r) e:=by
   intro t r e
   show (if t.kind=2 then _ else _)=_
   split
   · unfold pB
     cases Xd r e with
     |error er=>rfl
     |ok y=>rfl
   · rfl
  rw [key]
  by_cases hk:t.kind=2
  · rw [if_pos hk]
    have hg:Gd NeR (pB Xd fun d=>pR (.mk 1 t.n (d.getD 0 0) (d.getD 1 0) (d.getD 2 0) (d.getD 3 0) [])):=by
     refine gd_b Z6q (fun d=>gd_R _ _) ?_
     intro y y' l e z x _ hz f
     unfold pR at hz
     cases hz
     exact .inr ⟨.mk 1 t.n (y'.getD 0 0) (y'.getD 1 0) (y'.getD 2 0) (y'.getD 3 0) [],by show Zz _<=Zz _;simp [Zz],rfl⟩
    refine ⟨fun y x hy=> ?_,fun er h=> ?_⟩
    rotate_left
    · obtain ⟨j,c0,h3,h4,h5⟩:=(hg r e).2 er h
      refine ⟨j+1,c0,h3,h4,fun l' f hl=> ?_⟩
      cases l' with
      |nil=>simp at hl
      |cons t' r'=>
       obtain ⟨g1,_,g3⟩:=Wu (List.cons.inj hl).1
       rw [key,g1,g3,if_pos hk]
       exact h5 r' f (List.cons.inj hl).2
    obtain ⟨k,rfl,h1,h2⟩:=(hg r e).1 y x hy
    refine ⟨k+1,rfl,by simpa using h1,fun l' m f hl=> ?_⟩
    rcases Xb hl with ⟨rfl,h3⟩|⟨t',r',t2,r2,m',rfl,h3,rfl,h4,h5⟩
    · have hm:m=0:=by
       rcases h3 with h3|h3
       · exact h3
       · cases h3
      subst hm
      exact ⟨fun h=>by omega,fun _=> .inl rfl⟩
    · cases h3
      obtain ⟨g1,_,g3⟩:=Wu h4
      rw [key,g1,g3,if_pos hk]
      exact ⟨fun hm=>(h2 r' m' f h5).1 (by omega),fun hm=>(h2 r' m' f h5).2 (by omega)⟩
  · rw [if_neg hk]
    obtain ⟨g1,g2⟩:=h2 (t::r) e
    refine ⟨fun y x hy=> ?_,fun er h=> ?_⟩
    rotate_left
    · obtain ⟨j,c0,h3,h4,h5⟩:=g2 er h
      refine ⟨j,c0,h3,h4,fun l' f hl=> ?_⟩
      cases l' with
      |nil=>simp at hl
      |cons t' r'=>
       obtain ⟨q1,_,_⟩:=Wu (List.cons.inj hl).1
       rw [key,q1,if_neg hk]
       exact h5 _ f hl
    obtain ⟨k,hx,hk',ho⟩:=g1 y x hy
    refine ⟨k,hx,hk',fun l' m f hl=> ?_⟩
    have:=ho l' m f hl
    rcases Xb hl with ⟨rfl,h3⟩|⟨t',r',t2,r2,m',rfl,h3,rfl,h4,h5⟩
    · exact this
    · cases h3
      obtain ⟨q1,_,_⟩:=Wu h4
      rw [key,q1,if_neg hk]
      exact this
theorem Zqp:pOp op1=pOpt (fun t=>isW sMul [t]) (fun _=>5) 0:=by
 funext l e
 cases l with
 |nil=>rfl
 |cons t r=>
  unfold pOp pOpt op1
  dsimp only
  rw [show isW sMul (t::r)=isW sMul [sT t] from rfl]
  split<;>rfl
theorem Zqq:pOp op2=pOpt (fun t=>isW Zar [t]||isW W3 [t]) (fun t=>if isW Zar [t] then 3 else 4) 0:=by
 funext l e
 cases l with
 |nil=>rfl
 |cons t r=>
  unfold pOp pOpt op2
  dsimp only
  rw [show isW Zar (t::r)=isW Zar [sT t] from rfl,show isW W3 (t::r)=isW W3 [sT t] from rfl]
  by_cases h1:isW Zar [sT t]=true
  · simp [h1]
  · by_cases h2:isW W3 [sT t]=true
    · simp [h1,h2]
    · simp [h1,h2]
theorem Yap:Gd (fun a _=>a=0) (pOp op1):=by rw [Zqp];exact Zwx _ _ _
theorem Yaq:Gd (fun a _=>a=0) (pOp op2):=by rw [Zqq];exact Zwx _ _ _
theorem Yar (op:Int) (x y:Ex):Zz (.mk op 0 0 0 0 0 [x,y])=max (Zz x) (Zz y)+1:=by simp [Zz,Zdt]
theorem Zna (o:List Tok->Int×List Tok) (pf:PE) (k:Nat) (x:Ex) (op:Int):Y0 o pf (k+1) x op=if op=0 then pR x else pB pf fun y=>pB (pOp o) fun op'=>Y0 o pf k (.mk op 0 0 0 0 0 [x,y]) op':=by
 funext l e
 rw [Y0]
 split
 · rfl
 · unfold pB pOp
   cases pf l e with
   |error er=>rfl
   |ok y=>rfl
theorem Ziq (o:List Tok->Int×List Tok) (pf:PE) (k:Nat) (x:Ex):Y0 o pf k x 0=pR x:=by
 cases k with
 |zero=>rfl
 |succ k=>rw [Zna,if_pos rfl]
theorem Ux {o:List Tok->Int×List Tok} {pf:PE}:∀{k:Nat} {x:Ex} {op:Int} {l:List Tok} {e:Int} {z:Ex} {y:PX},Y0 o pf k x op l e= .ok (z,y)->Zz x<=Zz z
 |0,x,op,l,e,z,y,h=>by
  unfold Y0 at h
  cases h
  exact Nat.le_refl _
 |k+1,x,op,l,e,z,y,h=>by
  unfold Y0 at h
  split at h
  · cases h
    exact Nat.le_refl _
  · split at h
    · cases h
    · have:=Ux h
      rw [Yar] at this
      omega
theorem b_ok {α β:Type} {p:PP α} {q:α->PP β} {l:List Tok} {e:Int} {z:β×PX} (h:pB p q l e= .ok z):∃y x,p l e= .ok (y,x)/\q y x.1 x.2.1= .ok z:=by
 unfold pB at h
 split at h
 · cases h
 · exact ⟨_,_,by assumption,h⟩
theorem Zw3 {o:List Tok->Int×List Tok} (ho:Gd (fun a _=>a=0) (pOp o)) (ho0:o []=(0,[])) {pf:PE} (h:Gd NeR pf):∀(k:Nat) (x:Ex) (op:Int),Gd NeR (Y0 o pf k x op)
 |0,x,op=>gd_R _ x
 |k+1,x,op=>by
  rw [Zna]
  split
  · exact gd_R _ _
  · refine gd_b h (fun y=>gd_b ho (fun op'=>Zw3 ho ho0 h k _ op') ?_) ?_
    · rintro op1 op2 l e z x2 rfl hz f
      rw [Ziq]
      exact .inr ⟨_,Ux hz,rfl⟩
    · intro y y' l e z x2 hy hz f
      obtain ⟨op',x3,_,hz⟩:=b_ok hz
      have h1:=Ux hz
      refine .inr ⟨.mk op 0 0 0 0 0 [x,y'],?_,?_⟩
      · have hy:Zz y'<=Zz y:=hy
        show Zz _<=Zz z
        rw [Yar] at h1⊢
        omega
      · unfold pB pOp
        rw [ho0]
        dsimp only
        rw [Ziq]
        rfl
def pChN (o:List Tok->Int×List Tok) (pf:PE) (N:Nat):PE:=pB pf fun y=>pB (pOp o) fun op=>Y0 o pf N y op
theorem Yas {o:List Tok->Int×List Tok} (ho:Gd (fun a _=>a=0) (pOp o)) (ho0:o []=(0,[])) {pf:PE} (h:Gd NeR pf) (N:Nat):Gd NeR (pChN o pf N):=by
 unfold pChN
 refine gd_b h (fun y=>gd_b ho (fun op=>Zw3 ho ho0 h N y op) ?_) ?_
 · rintro op1 op2 l e z x2 rfl hz f
   rw [Ziq]
   exact .inr ⟨_,Ux hz,rfl⟩
 · intro y y' l e z x2 hy hz f
   obtain ⟨op',x3,_,hz⟩:=b_ok hz
   have h1:=Ux hz
   refine .inr ⟨y',Nat.le_trans hy h1,?_⟩
   unfold pB pOp
   rw [ho0]
   dsimp only
   rw [Ziq]
   rfl
theorem Yat {o:List Tok->Int×List Tok} (ho:∀l,(o l).2.length<=l.length) {pf:PE} (hp:Shr pf) {N:Nat} {l:List Tok} (hl:l.length<N) (e:Int):pCh o pf l e=pChN o pf N l e:=by
 unfold pCh pChN pB pOp
 cases hq:pf l e with
 |error er=>rfl
 |ok y=>
  have h1:=hp _ _ _ _ hq
  have h2:=ho y.2.1
  exact Zde ho hp _ _ _ _ _ _ (by omega) (by omega)
theorem Z6u {β:Type} {rel:β->β->Prop} {p:PP β} (q:Nat->PP β) (hq:∀N,Gd rel (q N)) (h:∀N l e,l.length<N->p l e=q N l e):Gd rel p:=by
 intro l e
 have h1:=h (l.length+1) l e (Nat.lt_succ_self _)
 rw [h1]
 refine ⟨fun y x hy=> ?_,fun er h'=> ?_⟩
 rotate_left
 · obtain ⟨j,c0,h3,h4,h5⟩:=(hq _ l e).2 er h'
   refine ⟨j,c0,h3,h4,fun l' f hl=> ?_⟩
   have hlen:=congrArg List.length hl
   rw [List.length_map,List.length_map] at hlen
   rw [h (l.length+1) l' f (by omega)]
   exact h5 l' f hl
 obtain ⟨k,hx,hk,ho⟩:=(hq _ l e).1 y x hy
 refine ⟨k,hx,hk,fun l' m f hl=> ?_⟩
 have hlen:l'.length<=l.length:=by
  have:=congrArg List.length hl
  rw [List.length_map,List.length_take,List.length_map] at this
  omega
 rw [h (l.length+1) l' f (by omega)]
 exact ho l' m f hl
theorem Yau {o:List Tok->Int×List Tok} (hle:∀l,(o l).2.length<=l.length) (ho:Gd (fun a _=>a=0) (pOp o)) (ho0:o []=(0,[])) {pf:PE} (hp:Shr pf) (h:Gd NeR pf):Gd NeR (pCh o pf):=
 Z6u (pChN o pf) (Yas ho ho0 h) fun N l e hl=>Yat hle hp hl e
theorem gd_E:∀n,Gd NeR (pE n)
 |0=>V9 _
 |n+1=>by
  unfold pE
  exact Yau Zl8 Yaq rfl (Ui Za1 (Wm (W2 n))).shr (Yau Zl7 Yap rfl (Zeg (W2 n)) (Yao (gd_E n)))
theorem gd_X:Gd NeR pX:=Z6u pE gd_E fun N l e hl=>(Z44 N l e hl).symm
theorem Z4h (nm:List Nat) (ts:List Tst):pPay nm ts=pIf [112,97,121] (pBc pX (fun x=>decide (24<Zz x)) 2 fun x=>pIf [59] (pR ⟨nm,ts,x⟩) pSyn) pSyn:=by
 funext l e
 unfold pPay pIf pBc pSyn
 split
 · cases pX l.tail e with
   |error er=>rfl
   |ok y=>
    dsimp only
    by_cases h:24<Zz y.1
    · rw [if_pos h,if_pos (decide_eq_true h)]
    · rw [if_neg h,if_neg (show ¬decide (24<Zz y.1)=true by simpa using h)]
      rfl
 · rfl
theorem Z4i (nm:List Nat) (ts:List Tst):Gd NoR (pPay nm ts):=by
 rw [Z4h]
 refine Ue (Z1j gd_X (fun x=>Ue (gd_R _ _) (V9 _) fun _ _ _ _ _ f=> .inl rfl) (by simp) ?_ fun _ _ _ _ _ _ _ _ f=> .inl rfl) (V9 _) fun _ _ _ _ _ f=> .inl rfl
 intro y y' h hc
 have h:Zz y'<=Zz y:=h
 rw [decide_eq_false_iff_not] at hc⊢
 omega
theorem Zkx (bs:List Cls):Z2 bs=pBc Vt (fun nm=>bs.any fun b=>b.name==nm) 161 fun nm=>pIf [119,104,101,110] (pB (pTs 10 true []) fun ts=>pPay nm ts) (pPay nm []):=by
 funext l e
 unfold Z2 pBc pIf pB
 cases Vt l e with
 |error er=>rfl
 |ok y=>
  dsimp only
  by_cases hb:(bs.any fun b=>b.name==y.1)=true
  · rw [if_pos hb,if_pos hb]
  · rw [if_neg hb,if_neg hb]
    by_cases hw:isW [119,104,101,110] y.2.1=true
    · rw [if_pos hw,if_pos hw,hw]
      unfold pAft
      cases pTs 10 true [] y.2.1.tail y.2.2.1 with
      |error er=>rfl
      |ok z=>rfl
    · rw [if_neg hw,if_neg hw]
      rw [Bool.not_eq_true] at hw
      rw [hw,Z1k]
      rfl
theorem Zw4 (nm:List Nat) (ts:List Tst) (f:Int):pPay nm ts [] f= .error (f,160):=rfl
theorem Zw5 (bs:List Cls):Gd NoR (Z2 bs):=by
 rw [Zkx]
 refine Z1j Zwz (fun nm=>Ue (gd_b (Z6s _ _ _) (fun ts=>Z4i _ _) fun _ _ _ _ _ _ _ _ f=> .inl (Zw4 _ _ _)) (Z4i _ _) fun _ _ _ _ _ f=> .inl (Zw4 _ _ _)) (by simp) (fun _ _ h=>h.elim) (fun _ _ _ _ _ _ h=>h.elim)
theorem Z4j (k:Nat) (cs:List Cls) (h:cs.length≠64):pCls (k+1) cs=pIf [99,108,97,117,115,101] (pB (Z2 cs) fun c=>pCls k (cs++ [c])) (pR cs):=by
 funext l e
 rw [pCls]
 unfold pIf pB
 split
 · cases Z2 cs l.tail e with
   |error er=>rfl
   |ok y=>rfl
 · rfl
theorem Z4k:∀(k:Nat) (cs:List Cls),Gd AnyR (pCls k cs)
 |0,cs=>gd_R _ cs
 |k+1,cs=>by
  by_cases h:cs.length=64
  · intro l e
    rw [pCls,if_pos h]
    cases hw:isW [99,108,97,117,115,101] l with
    |true=>
     rw [if_pos rfl]
     refine ⟨fun y x h=>(by cases h),fun er h'=> ?_⟩
     cases h'
     refine .hd (by simp) fun l' f hl=> ?_
     have:isW [99,108,97,117,115,101] l'=true:=by
      cases l' with
      |nil=>
       cases l with
       |nil=>cases hw
       |cons t r=>simp at hl
      |cons t' r'=>
       cases l with
       |nil=>simp at hl
       |cons t r=>
        rw [Zku (r:=r) (List.cons.inj hl).1]
        exact hw
     rw [pCls,if_pos h,this,if_pos rfl]
    |false=>
     rw [if_neg Bool.false_ne_true]
     refine ⟨fun y x hy=> ?_,fun er h=>(by cases h)⟩
     cases hy
     refine ⟨0,rfl,Nat.zero_le _,fun l' m f hl=>⟨fun _=> ?_,fun h=>by omega⟩⟩
     have:isW [99,108,97,117,115,101] l'=false:=by
      rcases Xb hl with ⟨rfl,_⟩|⟨t',r',t,r,m',rfl,rfl,rfl,h4,h5⟩
      · rfl
      · rw [Zku (r:=r) h4]
        exact hw
     rw [pCls,this,if_neg Bool.false_ne_true]
     rfl
  · rw [Z4j k cs h]
    refine Ue (gd_b (Zw5 cs) (fun c=>Z4k k _) (fun _ _ _ _ _ _ h=>h.elim)) (gd_R _ _) fun _ _ _ _ _ f=> .inr ⟨cs,trivial,rfl⟩
theorem Zky:∀(k k':Nat) (cs:List Cls) (l:List Tok) (e:Int),l.length<k->l.length<k'->pCls k cs l e=pCls k' cs l e
 |0,_,_,_,_,h,_=>by omega
 |_+1,0,_,_,_,_,h=>by omega
 |k+1,k'+1,cs,l,e,h,h'=>by
  unfold pCls
  split
  · rename_i hw
    split
    · rfl
    · have h1:=Zm hw
      cases hq:Z2 cs l.tail e with
      |error er=>rfl
      |ok y=>
       have h2:=V2 hq
       exact Zky k k' _ _ _ (by omega) (by omega)
  · rfl
def pEof (t:Tar):PP Tar:=fun l e=>if 0<l.length then .error (hdT e l,160) else .ok (t,l,e,())
theorem Yav (t:Tar):Gd NoR (pEof t):=by
 intro l e
 unfold pEof
 split
 · rename_i h0
   refine ⟨fun y x h=>(by cases h),fun er h=> ?_⟩
   cases h
   refine .hd (by simp) fun l' f hl=> ?_
   have hlen:=congrArg List.length hl
   rw [List.length_map,List.length_map] at hlen
   show (if 0<l'.length then _ else _)=_
   rw [if_pos (by omega)]
 · rename_i hl
   have:l= []:=List.eq_nil_of_length_eq_zero (by omega)
   subst this
   refine ⟨fun y x hy=> ?_,fun er h=>(by cases h)⟩
   cases hy
   refine ⟨0,rfl,Nat.zero_le _,fun l' m f hl=>⟨fun _=> ?_,fun h=>by omega⟩⟩
   have:l'= []:=Vz hl
   subst this
   rfl
def Zs4 (N:Nat):PP Tar:=pIf [116,97,114,105,102,102] (pB Vt fun nm=>pIf [102,111,114] (pB (Yk WK.ki.words) fun k=>pIf [123] (pB (pCls N []) fun cs=>pIf [125] (pEof ⟨nm,wr .i64 (1+k),cs⟩) pSyn) pSyn) pSyn) pSyn
theorem Z6v (N:Nat):Gd NoR (Zs4 N):=by
 unfold Zs4
 refine Ue (gd_b Zwz (fun nm=>Ue (gd_b (Zip _) (fun k=>Ue (gd_b (Z4k _ _) (fun cs=>Ue (Yav _) (V9 _) fun _ _ _ _ _ f=> .inl rfl) ?_) (V9 _) fun _ _ _ _ _ f=> .inl rfl) (fun _ _ _ _ _ _ h=>h.elim)) (V9 _) fun _ _ _ _ _ f=> .inl rfl) (fun _ _ _ _ _ _ h=>h.elim)) (V9 _) fun _ _ _ _ _ f=> .inl rfl
 exact fun _ _ _ _ _ _ _ _ f=> .inl rfl
theorem Zw6 (N:Nat) (l:List Tok) (e:Int) (h:l.length<N):pTar l e=Zs4 N l e:=by
 unfold pTar Zs4 pIf pB pSyn
 split
 · rename_i hw
   have h1:=Zm hw
   cases hn:Vt l.tail e with
   |error er=>rfl
   |ok y=>
    have h2:=Vr hn
    dsimp only
    split
    · rename_i hw2
      have h3:=Zm hw2
      cases hm:Yk WK.ki.words y.2.1.tail y.2.2.1 with
      |error er=>rfl
      |ok z=>
       obtain ⟨_,_,hz⟩:=V7 hm
       have h4:z.2.1.length<=y.2.1.tail.length:=by
        rw [hz]
        show y.2.1.tail.tail.length<=_
        rw [List.length_tail (l:=y.2.1.tail)]
        omega
       dsimp only
       split
       · rename_i hw3
         have h5:=Zm hw3
         rw [Zky (z.2.1.tail.length+1) N [] z.2.1.tail z.2.2.1 (by omega) (by omega)]
         cases pCls N [] z.2.1.tail z.2.2.1 with
         |error er=>rfl
         |ok u=>rfl
       · rfl
    · rfl
 · rfl
theorem Zw7:Gd NoR pTar:=Z6u Zs4 Z6v Zw6
end
section
open Go
def TkG (t:Tok):Prop:=TokW t.text/\sT t=tkS t.text/\(t.kind=1->Xn t.text=true)/\(t.kind=2->0<=t.n/\t.n<=1099511627776)
def LxOk (l:List Tok):Prop:=∀t∈l,TkG t
theorem Ycp {c:Nat} (h:isLD (c:Int)=true):wb c=true:=by
 unfold isLD isL isD at h
 unfold wb
 simp at h⊢
 omega
theorem Uj {f:Int->Bool} (s:List Nat):∀c∈s.take (spn f s),f c=true:=fun c hc=>Zfi hc
theorem Zp4 {f:Int->Bool} (s:List Nat):spn f (s.take (spn f s))=(s.take (spn f s)).length:=X3 (Uj s)
theorem Zvb:∀{s:List Nat} {n m:Int},0<=n->n<=1099511627776->(∀c∈s,isD c=true)->numL n s=(m,0)->0<=m/\m<=1099511627776
 | [],n,m,h0,h1,_,h=>by
  unfold numL at h
  cases h
  exact ⟨h0,h1⟩
 |c::r,n,m,h0,h1,hd,h=>by
  unfold numL at h
  have hc:=hd c (by simp)
  unfold isD at hc
  simp at hc
  split at h
  · cases h
  · exact Zvb (by omega) (by omega) (fun c hc=>hd c (by simp [hc])) h
theorem Zvc {s:List Nat} (h:(tokP s).2=0):tokP (tokP s).1.text=tokP s/\(tokP s).1.text≠ []/\((tokP s).1.kind=1->Xn (tokP s).1.text=true)/\((tokP s).1.kind=2->0<=(tokP s).1.n/\(tokP s).1.n<=1099511627776):=by
 cases s with
 |nil=>cases h
 |cons c r=>
  rw [Ye] at h⊢
  have go:∀f:Int->Bool,f c=true->∃r',(c::r).take (spn f (c::r))=c::r':=by
   intro f hf
   unfold spn
   rw [if_pos hf,List.take_succ_cons]
   exact ⟨_,rfl⟩
  split at h
  · rename_i hl
    rw [if_pos hl]
    split at h
    · cases h
    · rename_i hn
      rw [if_neg hn]
      obtain ⟨r',hr⟩:=go isLD (by unfold isLD;rw [hl];rfl)
      have hall:=Uj (f:=isLD) (c::r)
      have hspn:=Zp4 (f:=isLD) (c::r)
      have hlen:((c::r).take (spn isLD (c::r))).length<=32:=by rw [List.length_take];omega
      rw [hr] at hall hspn hlen⊢
      have hw:Xn (c::r')=true:=by
       unfold Xn
       rw [Bool.and_eq_true,Bool.and_eq_true,decide_eq_true_eq]
       refine ⟨⟨hlen,?_⟩,List.all_eq_true.2 fun c hc=>Ycp (hall c hc)⟩
       unfold isL at hl
       unfold lowF
       simp at hl⊢
       omega
      refine ⟨Zec hw,by simp,fun _=>hw,fun h=>by cases h⟩
  · rename_i hl
    rw [if_neg hl]
    split at h
    · rename_i hd
      rw [if_pos hd]
      obtain ⟨r',hr⟩:=go isD hd
      have hall:=Uj (f:=isD) (c::r)
      have hspn:=Zp4 (f:=isD) (c::r)
      rw [hr] at hall hspn h⊢
      refine ⟨?_,by simp,(fun h=>by cases h),fun _=> ?_⟩
      · show tokP (c::r')=_
        rw [Ye,if_neg hl,if_pos hd,hspn,List.take_length]
      · have h:(numb (c::r')).2=0:=h
        show 0<=(numb (c::r')).1/\(numb (c::r')).1<=1099511627776
        unfold numb at h⊢
        split at h
        · cases h
        · rename_i hn
          rw [if_neg hn]
          exact Zvb (s:=c::r') (n:=0) (by decide) (by decide) hall (Prod.ext rfl h)
    · rename_i hd
      rw [if_neg hd]
      split at h
      · rename_i w hw
        unfold tokS at h
        split at h
        · rename_i ht
          have e1:tokS (c::r) w=(⟨3,w,0,0⟩,0):=by unfold tokS;rw [if_pos ht]
          rw [e1]
          cases w with
          |nil=>exact absurd (Zqv hw) (by decide)
          |cons c' w'=>
           rw [List.length_cons,List.take_succ_cons] at ht
           injection ht with h1 h2
           subst h1
           refine ⟨?_,by simp,(fun h=>by cases h),fun h=>by cases h⟩
           show tokP (c::w')=_
           rw [Ye,if_neg hl,if_neg hd,hw]
           show tokS (c::w') (c::w')=_
           unfold tokS
           rw [if_pos List.take_length]
        · cases h
      · cases h
theorem Z9i {s:List Nat} (h:(tokP s).2=0) (p:Int):TkG ⟨(tokP s).1.kind,(tokP s).1.text,(tokP s).1.n,p⟩:=by
 obtain ⟨h1,h2,h3,h4⟩:=Zvc h
 refine ⟨⟨by rw [h1];exact h,by rw [h1],h2⟩,?_,h3,h4⟩
 show sT _=tkS (tokP s).1.text
 unfold tkS
 rw [h1]
 rfl
theorem Zhz:∀{k:Nat} {s:List Nat} {p:Nat} {ts:List Tok},LxOk ts->LxOk (tksL k s p ts).1
 |0,s,p,ts,h=>h
 |k+1,s,p,ts,h=>by
  unfold tksL
  split
  · exact h
  · split
    · exact Zhz h
    · split
      · split
        · exact h
        · exact Zhz h
      · split
        · exact fun t ht=>by cases ht
        · rename_i h3
          have h3:(tokP (s.drop p)).2=0:=by simpa using h3
          refine Zhz fun t ht=> ?_
          rcases List.mem_append.1 ht with ht|ht
          · exact h t ht
          · rw [List.mem_singleton] at ht
            subst ht
            exact Z9i h3 p
theorem Zsd (s:List Nat):LxOk (Zt s).1:=by
 unfold Zt
 split
 · exact fun t ht=>by cases ht
 · exact Zhz fun t ht=>by cases ht
theorem LxOk.drop {l:List Tok} (h:LxOk l) (k:Nat):LxOk (l.drop k):=fun t ht=>h t (List.mem_of_mem_drop ht)
theorem LxOk.tail {l:List Tok} (h:LxOk l):LxOk l.tail:=fun t ht=>h t (List.mem_of_mem_tail ht)
section
variable {α β : Type}
def Vl (P:β->Prop) (p:PP β):Prop:=∀l e y x,LxOk l->p l e= .ok (y,x)->P y/\LxOk x.1
theorem vl_R {P:β->Prop} {y:β} (h:P y):Vl P (pR y):=by
 intro l e z x hl hz
 cases hz
 exact ⟨h,hl⟩
theorem V8 (P:β->Prop):Vl P pSyn:=by
 intro l e z x hl hz
 cases hz
theorem vl_b {P:α->Prop} {Q:β->Prop} {p:PP α} {q:α->PP β} (hp:Vl P p) (hq:∀y,P y->Vl Q (q y)):Vl Q (pB p q):=by
 intro l e z x hl hz
 obtain ⟨y,x1,h1,h2⟩:=b_ok hz
 obtain ⟨k1,k2⟩:=hp l e y x1 hl h1
 exact hq y k1 _ _ z x k2 h2
theorem Ycq {p:PP α} {c:α->Bool} {code:Int} {q:α->PP β} {l:List Tok} {e:Int} {z:β×PX} (h:pBc p c code q l e= .ok z):∃y x,p l e= .ok (y,x)/\c y=false/\q y x.1 x.2.1= .ok z:=by
 unfold pBc at h
 split at h
 · cases h
 · split at h
   · cases h
   · rename_i h1 h2
     exact ⟨_,_,h1,by simpa using h2,h⟩
theorem Z5y {P:α->Prop} {Q:β->Prop} {p:PP α} {c:α->Bool} {code:Int} {q:α->PP β} (hp:Vl P p) (hq:∀y,P y->c y=false->Vl Q (q y)):Vl Q (pBc p c code q):=by
 intro l e z x hl hz
 obtain ⟨y,x1,h1,h2,h3⟩:=Ycq hz
 obtain ⟨k1,k2⟩:=hp l e y x1 hl h1
 exact hq y k1 h2 _ _ z x k2 h3
theorem Ub {P:β->Prop} {s:List Nat} {A B:PP β} (hA:Vl P A) (hB:Vl P B):Vl P (pIf s A B):=by
 intro l e z x hl hz
 unfold pIf at hz
 split at hz
 · exact hA _ _ z x hl.tail hz
 · exact hB _ _ z x hl hz
theorem Z3z {P:β->Prop} {c:Tok->Bool} {v:Tok->β} (h:∀t,TkG t->c (sT t)=true->P (v (sT t))):Vl P (pOne c v):=by
 intro l e z x hl hz
 cases l with
 |nil=>cases hz
 |cons t r=>
  have hz:(if c (sT t) then .ok (v (sT t),r,e,()) else .error (t.at_,160):PR β)=_:=hz
  split at hz
  · rename_i hc
    cases hz
    exact ⟨h t (hl t (by simp)) hc,fun t ht=>hl t (by simp [ht])⟩
  · cases hz
theorem Zvd {P:β->Prop} {c:Tok->Bool} {v:Tok->β} {z0:β} (h:∀t,TkG t->c (sT t)=true->P (v (sT t))) (h0:P z0):Vl P (pOpt c v z0):=by
 intro l e z x hl hz
 cases l with
 |nil=>
  cases hz
  exact ⟨h0,hl⟩
 |cons t r=>
  have hz:(if c (sT t) then .ok (v (sT t),r,e,()) else .ok (z0,t::r,e,()):PR β)=_:=hz
  split at hz
  · rename_i hc
    cases hz
    exact ⟨h t (hl t (by simp)) hc,fun t ht=>hl t (by simp [ht])⟩
  · cases hz
    exact ⟨h0,hl⟩
theorem Vl.mono {P Q:β->Prop} {p:PP β} (h:Vl P p) (hq:∀y,P y->Q y):Vl Q p:=fun l e y x hl hy=>⟨hq y (h l e y x hl hy).1,(h l e y x hl hy).2⟩
end
theorem Zve:Vl (fun n=>0<=n/\n<=1099511627776) pInt:=by
 rw [Zqo]
 exact Z3z fun t ht hc=>ht.2.2.2 (of_decide_eq_true hc)
theorem Zh0 {ws:List (List Nat)} (h:0<ws.length):Vl (fun n=>0<=n/\n<(ws.length:Int)) (Yk ws):=by
 rw [Zkv]
 exact Z3z fun t ht hc=>⟨of_decide_eq_true hc,Zho h⟩
theorem Zj6 {ws:List (List Nat)} (h:0<ws.length):Vl (fun y=>(y.2.1=true->0<=y.1/\y.1<(ws.length:Int))) (Zq ws):=by
 rw [Zfd]
 exact Zvd (fun t ht hc _=>⟨of_decide_eq_true hc,(show chz ws [sT t]<(ws.length:Int) from Zho h)⟩) (fun h=>by cases h)
theorem Zvf:Vl (fun s=>Xn s=true/\resF s=false) Vt:=by
 intro l e z x hl hz
 cases l with
 |nil=>cases hz
 |cons t r=>
  have hz:(if t.kind=1 then (if t.text∈resW then .error (t.at_,161) else .ok (t.text,r,e,())) else .error (t.at_,160):PR (List Nat))=_:=hz
  split at hz
  · rename_i hk
    split at hz
    · cases hz
    · rename_i hr
      cases hz
      exact ⟨⟨(hl t (by simp)).2.2.1 hk,decide_eq_false hr⟩,fun t ht=>hl t (by simp [ht])⟩
  · cases hz
def UnG (d:List Int):Prop:=Uc d=true/\∃a b c e,d= [a,b,c,e]
theorem Z9j:UnG d0:=⟨by decide,_,_,_,_,rfl⟩
theorem unG1 {i:Int} (h:0<=i/\i<4):UnG (incD d0 i):=by
 rcases four h.1 h.2 with rfl|rfl|rfl|rfl
 all_goals exact ⟨by decide,_,_,_,_,rfl⟩
theorem unG2 {j:Int} (h:0<=j/\j<4):UnG (decD d0 j):=by
 rcases four h.1 h.2 with rfl|rfl|rfl|rfl
 all_goals exact ⟨by decide,_,_,_,_,rfl⟩
theorem unG3 {i j:Int} (h:0<=i/\i<4) (h':0<=j/\j<4):UnG (decD (incD d0 i) j):=by
 rcases four h.1 h.2 with rfl|rfl|rfl|rfl<;>rcases four h'.1 h'.2 with rfl|rfl|rfl|rfl
 all_goals exact ⟨by decide,_,_,_,_,rfl⟩
theorem Z5z:Vl UnG Xd:=by
 rw [Zw0]
 refine vl_b (Zj6 (ws:=WK.un.words) (by decide)) fun y hy=>Ub (vl_b (Zh0 (ws:=WK.un.words) (by decide)) fun j hj=>vl_R ?_) (vl_R ?_)
 · have hj:0<=j/\j<4:=hj
   split
   · exact unG3 (by have:=hy (by assumption);exact this) hj
   · exact unG2 hj
 · split
   · exact unG1 (by have:=hy (by assumption);exact this)
   · exact Z9j
theorem Z50 (n:Int):Vl (fun w=>Z5 w=true/\n≠8) (Wy n):=by
 rw [Zw1]
 refine Z5y (Zh0 (ws:=WK.at_.words) (by decide)) fun a ha hn=> ?_
 have ha:0<=a/\a<16:=ha
 have hn:n≠8:=by simpa using hn
 refine Ub (vl_b Zve fun m hm=>vl_R ⟨decide_eq_true ⟨ha.1,ha.2,hm.1,hm.2,hm.1,hm.2⟩,hn⟩) (Ub (vl_b Zve fun m hm=>Ub (vl_b Zve fun k hk=>vl_R ⟨decide_eq_true ⟨ha.1,ha.2,hm.1,hm.2,hk.1,hk.2⟩,hn⟩) (V8 _)) (V8 _))
theorem Z51:∀(k:Nat) (more:Bool) (ts:List Tst),ts.length<=8->(∀w∈ts,Z5 w=true)->Vl (fun ws=>ws.length<=8/\∀w∈ws,Z5 w=true) (pTs k more ts)
 |0,more,ts,h1,h2=>vl_R (y:=ts) ⟨h1,h2⟩
 |k+1,false,ts,h1,h2=>by rw [Z1k];exact vl_R ⟨h1,h2⟩
 |k+1,true,ts,h1,h2=>by
  rw [Yan]
  refine vl_b (Z50 _) fun t ht=> ?_
  have h3:(ts++ [t]).length<=8:=by
   have:=ht.2
   rw [List.length_append]
   simp
   omega
  have h4:∀w∈ts++ [t],Z5 w=true:=by
   intro w hw
   rcases List.mem_append.1 hw with hw|hw
   · exact h2 w hw
   · rw [List.mem_singleton] at hw
     subst hw
     exact ht.1
  exact Ub (Z51 k true _ h3 h4) (Z51 k false _ h3 h4)
theorem Zh1 {op n:Int} {a b c d:Int} {l:List Ex} (h:Zdi op n [a,b,c,d] l.length=true) (hl:∀x∈l,Z9 x=true):Z9 (.mk op n a b c d l)=true:=by
 rw [Zac,Bool.and_eq_true]
 exact ⟨h,formL_iff.2 hl⟩
theorem Zmk {op n:Int} {u:List Int} {k:Nat} (h1:1<=op) (h2:op<=11) (h3:0<=n) (h4:n<=Zsn op) (h5:k=Zmp op) (h6:Uc u=true) (h7:op=1\/u= [0,0,0,0]):Zdi op n u k=true:=by
 unfold Zdi
 simp only [Bool.and_eq_true,Bool.or_eq_true,decide_eq_true_eq]
 exact ⟨⟨⟨⟨⟨⟨h1,h2⟩,h3⟩,h4⟩,h5⟩,h6⟩,h7⟩
theorem Zvg {op:Int} {l:List Ex} (h1:3<=op) (h2:op<=11) (h3:l.length=if op=11 then 4 else 2) (hl:∀x∈l,Z9 x=true):Z9 (.mk op 0 0 0 0 0 l)=true:=by
 refine Zh1 (Zmk (by omega) h2 (Int.le_refl _) ?_ ?_ (by decide) (.inr rfl)) hl
 · unfold Zsn
   rw [if_neg (by omega),if_neg (by omega)]
   exact Int.le_refl _
 · unfold Zmp
   rw [if_neg (by omega)]
   exact h3
def FxV (x:Ex):Prop:=Z9 x=true
theorem Z30 {pe:PE} (h:Vl FxV pe):∀(ss:List (List Nat)) (acc:List Ex),(∀x∈acc,Z9 x=true)->Vl (fun xs=>xs.length=acc.length+ss.length/\∀x∈xs,Z9 x=true) (pOpL pe ss acc)
 | [],acc,ha=>vl_R (y:=acc) ⟨rfl,ha⟩
 |s::r,acc,ha=>by
  rw [Z4d]
  refine vl_b h fun x hx=>Ub ((Z30 h r (acc++ [x]) ?_).mono fun xs hxs=>⟨?_,hxs.2⟩) (V8 _)
  · intro z hz
    rcases List.mem_append.1 hz with hz|hz
    · exact ha z hz
    · rw [List.mem_singleton] at hz
      subst hz
      exact hx
  · rw [hxs.1,List.length_append,List.length_cons]
    simp
    omega
theorem Z31 {pe:PE} (h:Vl FxV pe) {op:Int} {ss:List (List Nat)} (h1:3<=op) (h2:op<=11) (h3:ss.length=if op=11 then 4 else 2):Vl FxV (pOps pe op ss):=by
 rw [Z4f]
 refine Ub (vl_b (Z30 h ss [] fun x hx=>by cases hx) fun xs hxs=>vl_R (Zvg h1 h2 ?_ hxs.2)) (V8 _)
 rw [hxs.1,<-h3]
 simp
theorem Zvh {pe:PE} (h:Vl FxV pe):Vl FxV (V1 pe):=by
 rw [Zw2]
 refine Ub (vl_b h fun x hx=>Ub (vl_R hx) (V8 _)) (Ub (Z31 h (by decide) (by decide) rfl) (vl_b (Zj6 (ws:=WK.ca.words) (by decide)) fun k hk=> ?_))
 split
 · have hk:0<=k.1/\k.1<5:=hk (by assumption)
   refine Z31 h (by omega) (by omega) ?_
   rw [if_neg (by omega)]
   rfl
 · refine vl_b (Zh0 (ws:=WK.at_.words) (by decide)) fun a ha=>vl_R ?_
   have ha:0<=a/\a<16:=ha
   refine Zh1 (Zmk (by decide) (by decide) ha.1 ?_ rfl (by decide) (.inr rfl)) (fun x hx=>by cases hx)
   show a<=15
   omega
theorem Z9k {pe:PE} (h:Vl FxV pe):Vl FxV (pFac pe):=by
 intro l e y x hl hy
 cases l with
 |nil=>exact Zvh h _ _ _ _ hl hy
 |cons t r=>
  have hy:(if t.kind=2 then (match Xd r e with
   | .error er=> .error er
   | .ok (d,y)=> .ok (.mk 1 t.n (d.getD 0 0) (d.getD 1 0) (d.getD 2 0) (d.getD 3 0) [],y):PR Ex) else V1 pe (t::r) e)=_:=hy
  split at hy
  · rename_i hk
    split at hy
    · cases hy
    · rename_i d z hd
      cases hy
      obtain ⟨⟨g1,a,b,c,f,g2⟩,g3⟩:=Z5z r e d _ (fun t ht=>hl t (by simp [ht])) hd
      subst g2
      refine ⟨Zh1 (Zmk (by decide) (by decide) ?_ ?_ rfl g1 (.inl rfl)) (fun x hx=>by cases hx),g3⟩
      · exact ((hl t (by simp)).2.2.2 hk).1
      · exact ((hl t (by simp)).2.2.2 hk).2
  · exact Zvh h _ _ _ _ hl hy
theorem Zvi {o:List Tok->Int×List Tok} {pf:PE} (ho:Vl (fun op=>op=0\/3<=op/\op<=5) (pOp o)) (h:Vl FxV pf):∀(k:Nat) (x:Ex) (op:Int),FxV x->(op=0\/3<=op/\op<=5)->Vl FxV (Y0 o pf k x op)
 |0,x,op,hx,_=>vl_R (y:=x) hx
 |k+1,x,op,hx,hop=>by
  rw [Zna]
  split
  · exact vl_R hx
  · rename_i hz
    refine vl_b h fun y hy=>vl_b ho fun op' hop'=>Zvi ho h k _ op' (Zvg (by omega) (by omega) ?_ ?_) hop'
    · rw [if_neg (by omega)]
      rfl
    · intro z hz
      rcases List.mem_cons.1 hz with rfl|hz
      · exact hx
      · rw [List.mem_singleton] at hz
        subst hz
        exact hy
theorem Z9l {o:List Tok->Int×List Tok} (hle:∀l,(o l).2.length<=l.length) {pf:PE} (hp:Shr pf) (ho:Vl (fun op=>op=0\/3<=op/\op<=5) (pOp o)) (h:Vl FxV pf):Vl FxV (pCh o pf):=by
 intro l e y x hl hy
 rw [Yat hle hp (Nat.lt_succ_self l.length) e] at hy
 exact vl_b h (fun y hy=>vl_b ho fun op hop=>Zvi ho h _ y op hy hop) l e y x hl hy
theorem Z9m:Vl (fun op=>op=0\/3<=op/\op<=5) (pOp op1):=by
 rw [Zqp]
 exact Zvd (fun t _ _=> .inr (by decide)) (.inl rfl)
theorem Z9n:Vl (fun op=>op=0\/3<=op/\op<=5) (pOp op2):=by
 rw [Zqq]
 refine Zvd (fun t _ _=> .inr ?_) (.inl rfl)
 split<;>decide
theorem vl_E:∀n,Vl FxV (pE n)
 |0=>V8 _
 |n+1=>by
  unfold pE
  exact Z9l Zl8 (Ui Za1 (Wm (W2 n))).shr Z9n (Z9l Zl7 (Zeg (W2 n)) Z9m (Z9k (vl_E n)))
theorem vl_X:Vl FxV pX:=fun l e y x hl hy=>vl_E _ l e y x hl hy
theorem Z32 {nm:List Nat} {ts:List Tst} (h1:Xn nm=true) (h2:∀w∈ts,Z5 w=true):Vl (fun c=>X8 c=true/\c.name=nm/\c.when_=ts/\Zz c.pay<=24) (pPay nm ts):=by
 rw [Z4h]
 refine Ub (Z5y vl_X fun x hx hc=>Ub (vl_R ⟨?_,rfl,rfl,?_⟩) (V8 _)) (V8 _)
 · unfold X8
   rw [h1,show Z9 x=true from hx,List.all_eq_true.2 h2]
   rfl
 · show Zz x<=24
   have:¬24<Zz x:=by simpa using hc
   omega
def ClG (bs:List Cls) (c:Cls):Prop:=X8 c=true/\resF c.name=false/\c.name∉bs.map Cls.name/\c.when_.length<=8/\Zz c.pay<=24
theorem Zvj (bs:List Cls):Vl (ClG bs) (Z2 bs):=by
 rw [Zkx]
 refine Z5y Zvf fun nm hn hc=> ?_
 have hc:=any_name.1 hc
 refine Ub (vl_b (Z51 10 true [] (Nat.zero_le _) (fun w hw=>by cases hw)) fun ts hts=>(Z32 hn.1 hts.2).mono ?_) ((Z32 hn.1 (fun w hw=>by cases hw)).mono ?_)
 · rintro c ⟨g1,g2,g3,g4⟩
   subst g2
   subst g3
   exact ⟨g1,hn.2,hc,hts.1,g4⟩
 · rintro c ⟨g1,g2,g3,g4⟩
   subst g2
   refine ⟨g1,hn.2,hc,?_,g4⟩
   rw [g3]
   exact Nat.zero_le _
theorem Xi (s:List (List Nat)) (c:Cls) (r:List Cls):CsOk s (c::r)=(X8 c=true/\resF c.name=false/\c.name∉s/\c.when_.length<=8/\Zz c.pay<=24/\CsOk (c.name::s) r):=rfl
theorem Zbt:∀{a b:List Cls} {s:List (List Nat)},CsOk s (a++b)↔CsOk s a/\CsOk ((a.map Cls.name).reverse++s) b
 | [],b,s=>by
  rw [List.nil_append,List.map_nil,List.reverse_nil,List.nil_append]
  exact ⟨fun h=>⟨trivial,h⟩,fun h=>h.2⟩
 |c::a,b,s=>by
  rw [List.cons_append,Xi,Xi,Zbt,List.map_cons,List.reverse_cons,List.append_assoc]
  constructor
  · rintro ⟨h1,h2,h3,h4,h5,h6,h7⟩
    exact ⟨⟨h1,h2,h3,h4,h5,h6⟩,h7⟩
  · rintro ⟨⟨h1,h2,h3,h4,h5,h6⟩,h7⟩
    exact ⟨h1,h2,h3,h4,h5,h6,h7⟩
theorem Zvk {cs:List Cls} {c:Cls} (h:CsOk [] cs) (hc:ClG cs c):CsOk [] (cs++ [c]):=by
 rw [Zbt]
 rw [Xi]
 refine ⟨h,hc.1,hc.2.1,?_,hc.2.2.2.1,hc.2.2.2.2,trivial⟩
 have:=hc.2.2.1
 simpa using this
theorem Z33:∀(k:Nat) (cs:List Cls),CsOk [] cs->cs.length<=64->Vl (fun cs=>CsOk [] cs/\cs.length<=64) (pCls k cs)
 |0,cs,h1,h2=>vl_R (y:=cs) ⟨h1,h2⟩
 |k+1,cs,h1,h2=>by
  by_cases h:cs.length=64
  · intro l e y x hl hy
    rw [pCls,if_pos h] at hy
    split at hy
    · cases hy
    · cases hy
      exact ⟨⟨h1,h2⟩,hl⟩
  · rw [Z4j k cs h]
    refine Ub (vl_b (Zvj cs) fun c hc=>Z33 k _ (Zvk h1 hc) ?_) (vl_R ⟨h1,h2⟩)
    rw [List.length_append]
    simp
    omega
theorem Z52 (N:Nat):Vl (fun t=>Yh t=0) (Zs4 N):=by
 refine Ub (vl_b Zvf fun nm hn=>Ub (vl_b (Zh0 (ws:=WK.ki.words) (by decide)) fun k hk=>Ub (vl_b (Z33 _ [] trivial (by decide)) fun cs hcs=>Ub ?_ (V8 _)) (V8 _)) (V8 _)) (V8 _)
 intro l e y x hl hy
 unfold pEof at hy
 split at hy
 · cases hy
 · cases hy
   have hk:0<=k/\k<6:=hk
   refine ⟨(Yf _).2 ⟨hn.1,?_,?_,hn.2,hcs.2,hcs.1⟩,hl⟩
   · show 1<=wr .i64 (1+k)
     rw [wr64 (by omega) (by omega)]
     omega
   · show wr .i64 (1+k)<=6
     rw [wr64 (by omega) (by omega)]
     omega
theorem Z9o:Vl (fun t=>Yh t=0) pTar:=by
 intro l e y x hl hy
 rw [Zw6 _ l e (Nat.lt_succ_self _)] at hy
 exact Z52 _ l e y x hl hy
end
section
open Go
def En {β:Type} (p:PP β):Prop:=∀l e y x,p l e= .ok (y,x)->x.1= []
theorem Zqj {β:Type}:En (pSyn:PP β):=fun l e y x h=>by cases h
theorem en_b {α β:Type} {p:PP α} {q:α->PP β} (hq:∀y,En (q y)):En (pB p q):=fun l e y x h=>by
 obtain ⟨y1,x1,_,h2⟩:=b_ok h
 exact hq y1 _ _ _ _ h2
theorem Z07 {β:Type} {s:List Nat} {A B:PP β} (hA:En A) (hB:En B):En (pIf s A B):=fun l e y x h=>by
 unfold pIf at h
 split at h
 · exact hA _ _ _ _ h
 · exact hB _ _ _ _ h
theorem Z96 (t:Tar):En (pEof t):=fun l e y x h=>by
 unfold pEof at h
 split at h
 · cases h
 · rename_i hl
   cases h
   exact List.eq_nil_of_length_eq_zero (Nat.le_zero.1 (Nat.le_of_not_lt hl))
theorem Z97:En pTar:=fun l e y x h=>by
 rw [Zw6 _ l e (Nat.lt_succ_self _)] at h
 exact Z07 (en_b fun nm=>Z07 (en_b fun k=>Z07 (en_b fun cs=>Z07 (Z96 _) Zqj) Zqj) Zqj) Zqj l e y x h
theorem Z6f {l:List Tok} {e:Int} {t:Tar} {x:PX} (h:pTar l e= .ok (t,x)):(∀l' f,l'.map sT=l.map sT->pTar l' f= .ok (t,[],f,()))/\∀l' m f,m<l.length->l'.map sT=(l.map sT).take m->pTar l' f= .error (f,160):=by
 have hn:=Z97 l e t x h
 obtain ⟨k,rfl,hk,ho⟩:=(Zw7 l e).1 t x h
 have hk2:l.length<=k:=by
  have:=congrArg List.length hn
  rw [List.length_drop] at this
  simp at this
  omega
 have hk3:k=l.length:=by omega
 subst hk3
 refine ⟨fun l' f hl=> ?_,fun l' m f hm hl=> ?_⟩
 · have hlen:=congrArg List.length hl
   rw [List.length_map,List.length_map] at hlen
   rw [(ho l' l.length f (Zb6 hl)).1 (Nat.le_refl _),List.drop_eq_nil_of_le (by omega)]
 · rcases (ho l' m f hl).2 hm with h|⟨y',h,_⟩
   · exact h
   · exact h.elim
def AllW (ws:List (List Nat)):Prop:=∀w∈ws,TokW w
theorem W5 {a b:List (List Nat)} (h1:AllW a) (h2:AllW b):AllW (a++b):=fun w hw=>(List.mem_append.1 hw).elim (h1 w) (h2 w)
theorem Ze {w:List Nat} {b:List (List Nat)} (h1:TokW w) (h2:AllW b):AllW (w::b):=fun x hx=>(List.mem_cons.1 hx).elim (fun e=>e▸h1) (h2 x)
theorem Yi:AllW []:=fun w hw=>by cases hw
theorem tw {w:List Nat} (h1:(tokP w).2=0) (h2:(tokP w).1.text=w) (h3:w≠ []):TokW w:=⟨h1,h2,h3⟩
theorem Zmz:TokW Xc:=tw rfl rfl (by decide)
theorem Zij:TokW Z3:=tw rfl rfl (by decide)
theorem Zik:TokW Yb:=tw rfl rfl (by decide)
theorem Z6g:TokW Zbh:=tw rfl rfl (by decide)
theorem Z6h:TokW Zch:=tw rfl rfl (by decide)
theorem Z6i:TokW Zar:=tw rfl rfl (by decide)
theorem Z08:TokW W3:=tw rfl rfl (by decide)
theorem Z98:TokW sMul:=tw rfl rfl (by decide)
theorem Z6j:TokW Zbp:=tw rfl rfl (by decide)
theorem Yc1:TokW sLb:=tw rfl rfl (by decide)
theorem Yc2:TokW sRb:=tw rfl rfl (by decide)
theorem Yc3:TokW sIf:=tw rfl rfl (by decide)
theorem Z4a:TokW sPer:=tw rfl rfl (by decide)
theorem Yc4:TokW sIs:=tw rfl rfl (by decide)
theorem Yc5:TokW sIn:=tw rfl rfl (by decide)
theorem Z99:TokW sPay:=tw rfl rfl (by decide)
theorem Yaa:TokW sFor:=tw rfl rfl (by decide)
theorem Zwh:TokW sTariff:=tw rfl rfl (by decide)
theorem Zwi:TokW sClause:=tw rfl rfl (by decide)
theorem Z6k:TokW Zdw:=tw rfl rfl (by decide)
theorem Yab:TokW sAnd:=tw rfl rfl (by decide)
theorem Zkq {k:WK} {i:Nat} (h:i<k.words.length):TokW (k.words.getD i []):=U4 (Zi5 h)
theorem Yac {a b c d:Int} (h:Uc [a,b,c,d]=true):AllW (txU [a,b,c,d]):=by
 rcases unF h with ⟨_,h2⟩|⟨i,hi,_,h2⟩|⟨j,hj,_,h2⟩|⟨i,hi,j,hj,_,h2⟩
 · rw [h2];exact Yi
 · rw [h2];exact Ze (Zkq (k:= .un) hi) Yi
 · rw [h2];exact Ze Z4a (Ze (Zkq (k:= .un) hj) Yi)
 · rw [h2];exact Ze (Zkq (k:= .un) hi) (Ze Z4a (Ze (Zkq (k:= .un) hj) Yi))
theorem Zqk {op least:Int} {t:List (List Nat)} (h:AllW t):AllW (par op least t):=by
 unfold par
 split
 · exact h
 · exact Ze Zmz (W5 h (Ze Zij Yi))
theorem Zwj:∀{ts:List (List (List Nat))} {ss:List (List Nat)},(∀t∈ts,AllW t)->AllW ss->AllW (txS ts ss)
 | [],_,_,_=>by unfold txS;exact Yi
 |t::r,[],_,_=>by unfold txS;exact Yi
 |t::r,s::ss,h1,h2=>by
  unfold txS
  exact W5 (h1 t (by simp)) (Ze (h2 s (by simp)) (Zwj (fun t ht=>h1 t (by simp [ht])) fun w hw=>h2 w (by simp [hw])))
theorem Zm0:∀{l:List Ex} {t:List (List Nat)},t∈txL l->∃x∈l,t=txX x
 | [],t,h=>by cases h
 |x::r,t,h=>by
  unfold txL at h
  rcases List.mem_cons.1 h with rfl|h
  · exact ⟨x,by simp,rfl⟩
  · obtain ⟨y,hy,e⟩:=Zm0 h
    exact ⟨y,by simp [hy],e⟩
theorem Yad:∀(x:Ex),Z9 x=true->AllW (txX x):=by
 suffices H:∀(m:Nat) (x:Ex),x.sz<=m->Z9 x=true->AllW (txX x) from fun x=>H _ x (Nat.le_refl _)
 intro m
 induction m with
 |zero=>intro x h;have:=x.sz_pos;omega
 |succ m ih=>
  intro x hm hf
  rw [Zac,Bool.and_eq_true] at hf
  obtain ⟨hh,hl⟩:=hf
  have hkid:∀y∈x.l,AllW (txX y):=fun y hy=>ih y (by have:=Ex.sz_mem hy;omega) (formL_iff.1 hl y hy)
  obtain ⟨op,n,a,b,c,d,l⟩:=x
  simp only [Ex.op,Ex.n,Ex.u,Ex.d0,Ex.d1,Ex.d2,Ex.d3,Ex.l] at hh hkid
  obtain ⟨h1,h2,h3,h4,h5,h6,h7⟩:=Zaq hh
  have hts:∀t∈txL l,AllW t:=by
   intro t ht
   obtain ⟨x,hx,rfl⟩:=Zm0 ht
   exact hkid x hx
  have hget:∀i,AllW ((txL l).getD i []):=by
   intro i
   by_cases hi:i<(txL l).length
   · have:(txL l).getD i []=(txL l)[i]:=by simp [List.getD,hi]
     rw [this]
     exact hts _ (List.getElem_mem hi)
   · have:(txL l).getD i []= []:=by simp [List.getD,hi]
     rw [this]
     exact Yi
  rw [txX]
  unfold txN
  split
  · rename_i q
    subst q
    exact Ze (Zeb h3 h4) (Yac h6)
  · split
    · rename_i q
      subst q
      have:n<=15:=h4
      exact Ze (Zkq (k:= .at_) (show n.toNat<16 by omega)) Yi
    · split
      · exact Ze Yc3 (Ze Zmz (Zwj hts (Ze Z6g (Ze Zik (Ze Zik (Ze Zij Yi))))))
      · split
        · refine W5 (Zqk (hget 0)) (Ze ?_ (Zqk (hget 1)))
          unfold sgnO
          split
          · exact Z6i
          · split
            · exact Z08
            · exact Z98
        · exact Ze (Zkq (k:= .ca) (show (op-6).toNat<5 by omega)) (Ze Zmz (Zwj hts (Ze Zik (Ze Zij Yi))))
theorem Yae {w:Tst} (h:Z5 w=true):AllW (txW w):=by
 obtain ⟨a0,a1,l0,l1,h0,h1⟩:=W7 h
 unfold txW
 refine Ze (Zkq (k:= .at_) (show w.attr.toNat<16 by omega)) ?_
 split
 · exact Ze Yc4 (Ze (Zeb l0 l1) Yi)
 · exact Ze Yc5 (Ze (Zeb l0 l1) (Ze Z6j (Ze (Zeb h0 h1) Yi)))
theorem Zwk:∀{ws:List Tst} (i:Nat),(∀w∈ws,Z5 w=true)->AllW (txTs i ws)
 | [],_,_=>Yi
 |w::r,i,h=>by
  rw [Zcb]
  refine Ze ?_ (W5 (Yae (h w (by simp))) (Zwk _ fun w hw=>h w (by simp [hw])))
  split
  · exact Z6k
  · exact Yab
theorem Yaf {c:Cls} (h:X8 c=true):AllW (txC c):=by
 obtain ⟨k1,k2,k3⟩:=Xy h
 exact Ze Zwi (Ze (U4 k1) (W5 (Zwk _ k3) (Ze Z99 (W5 (Yad _ k2) (Ze Z6h Yi)))))
theorem Zwl:∀{cs:List Cls} {s:List (List Nat)},CsOk s cs->AllW (txCs cs)
 | [],_,_=>Yi
 |c::r,s,h=>by
  rw [Xi] at h
  rw [Ya]
  exact W5 (Yaf h.1) (Zwl h.2.2.2.2.2)
theorem Zd1 {t:Tar} (h:Yh t=0):AllW (Zw t):=by
 obtain ⟨h1,h2,h3,h4,h5,h6⟩:=(Yf t).1 h
 exact Ze Zwh (Ze (U4 h1) (Ze Yaa (Ze (Zkq (k:= .ki) (show (t.for_-1).toNat<6 by omega)) (Ze Yc1 (W5 (Zwl h6) (Ze Yc2 Yi))))))
theorem Yag (ws:List (List Nat)):(TS ws).map sT=TS ws:=by
 rw [List.map_map]
 rfl
theorem Zql {s:List Nat} {l:List Tok} (h:Lx s 0 l) (hs:s.length<=2000):Yc s=outT (pTar l s.length):=by
 unfold Yc
 rw [Zls h hs,if_neg (by simp)]
theorem Zm1 {s:List Nat} {l:List Tok} (h:Lx s 0 l) (hs:s.length<=2000) {l0:List Tok} {e:Int} {t:Tar} {x:PX} (ht:pTar l0 e= .ok (t,x)) (hl:l.map sT=l0.map sT):Yc s=(t,0,0):=by
 rw [Zql h hs,(Z6f ht).1 l s.length hl]
 rfl
theorem Zm2 {t:Tar} (h:Yh t=0) (hs:(Z0 (Zw t)).length<=2000):Yc (Z0 (Zw t))=(t,0,0):=by
 refine Zm1 (Zja 0 (Zd1 h)) hs (Z2c h 0) ?_
 rw [Zyt,Yag]
theorem Zs1 {t:Tar} (h:Yh t≠0):W8 t=([],Yh t):=by
 unfold W8
 rw [if_pos h]
theorem Zwm {t:Tar} (h:(W8 t).2=0):Yh t=0/\(Z0 (Zw t)).length<=2000/\W8 t=(Z0 (Zw t),0):=by
 unfold W8 at h⊢
 split at h
 · rename_i hc
   exact absurd h hc
 · rename_i hc
   split at h
   · cases h
   · rename_i hl
     rw [if_neg hc,if_neg hl]
     exact ⟨by simpa using hc,by omega,rfl⟩
theorem Zm3 {t:Tar} (h:Yh t=0):((W8 t).2=0/\(Z0 (Zw t)).length<=2000/\(W8 t).1=Z0 (Zw t))\/(W8 t=([],2)):=by
 unfold W8
 rw [if_neg (by simpa using h)]
 split
 · exact .inr rfl
 · rename_i hl
   exact .inl ⟨rfl,by omega,rfl⟩
theorem Zm4 (s:List Nat):((Zt s).2.2≠0/\Yc s=(zT,(Zt s).2.1,(Zt s).2.2))\/
 ((Zt s).2.2=0/\∃er,Yal (Zt s).1 s.length er/\Yc s=(zT,er.1,er.2))\/
 ((Zt s).2.2=0/\∃t x,pTar (Zt s).1 s.length= .ok (t,x)/\Yh t=0/\Yc s=(t,0,0)):=by
 by_cases h:(Zt s).2.2=0
 · have hp:Yc s=outT (pTar (Zt s).1 s.length):=by
    unfold Yc
    rw [if_neg (by simpa using h)]
   rw [hp]
   cases hq:pTar (Zt s).1 s.length with
   |error er=>exact .inr (.inl ⟨h,er,((Zw7 _ _).2 er hq).at,rfl⟩)
   |ok y=>
    obtain ⟨t,x⟩:=y
    exact .inr (.inr ⟨h,t,x,rfl,(Z9o _ _ _ _ (Zsd s) hq).1,rfl⟩)
 · refine .inl ⟨h,?_⟩
   unfold Yc
   rw [if_pos h]
theorem Zqm:∀{ws:List (List Nat)} (p:Nat),AllW ws->(tkA p ws).map Tok.text=ws
 | [],_,_=>rfl
 |w::r,p,h=>by
  show (tokP w).1.text::(tkA (p+w.length+1) r).map Tok.text=w::r
  rw [(h w (by simp)).2.1,Zqm _ fun x hx=>h x (by simp [hx])]
theorem Xv (w:List Nat) (r:List (List Nat)):Z1 (w::r)=w++32::Z1 r:=rfl
theorem Ze8:∀(ws:List (List Nat)) (n:Nat) (p:Nat) (t:Tok),(tkA p ws)[n]? =some t->t.at_=p+(Z1 (ws.take n)).length
 | [],n,p,t,h=>by cases h
 |w::r,0,p,t,h=>by
  have h:some (atT p (tokP w).1)=some t:=h
  cases h
  show (p:Int)=p+((Z1 []).length:Int)
  simp [Z1]
 |w::r,n+1,p,t,h=>by
  have h:(tkA (p+w.length+1) r)[n]? =some t:=h
  rw [Ze8 r n _ t h]
  rw [List.take_succ_cons,Xv,List.length_append,List.length_cons]
  omega
end
section
open Go
structure PcX where
 k:Nat
 r:Nat
 L:List (List Nat)
 fz:Nat
def cOfP (h:Hp thy) (v:SV thy):Nat:=match h (bOf v) with|some (.raw (.sl c _ _ _ _::_) _ _)=>c|_=>0
noncomputable def Apc:Fr thy->Hp thy->Nat->Ann thy:=fun T h i=>{X:=PcX,fr:=fun x=> [(0,T 0),(3,T 3),(12,T 12),(13,T 13),(14,.int false .i64 x.k)],bl:=fun x=>(bOf (T 0),.raw [.sl i 0 x.L.length 1 none] 0 none)::(i,.rows Th.strs x.L x.fz)::blkP h (T 3),src:=fun x=> [(i,1000)],md:= [bOf (T 0),cOfP h (T 0)],ih:=i+1,M:=i+60,meas:=fun x=>x.r}
noncomputable def Fpc:Fns thy:=addL (addS Fpu 79 (Sxp 1000000000)) 43 3 Apc E
def clA (c:Cls):SV thy:= .agg (encF false .clauses c)
abbrev qCLv (a0:Cls):=(Cls.pay a0)
abbrev qCLl (a0:Cls):=(Cls.when_ a0=Cls.when_ a0/\(false=true->false=true))
abbrev qCL1 (a0:Cls):=(Cls.name a0=Cls.name a0/\(qCLl a0)/\Ex.op (qCLv a0)=Ex.op (qCLv a0)/\Ex.n (qCLv a0)=Ex.n (qCLv a0)/\Ex.d0 (qCLv a0)=Ex.d0 (qCLv a0)/\Ex.d1 (qCLv a0)=Ex.d1 (qCLv a0)/\Ex.d2 (qCLv a0)=Ex.d2 (qCLv a0)/\Ex.d3 (qCLv a0)=Ex.d3 (qCLv a0)/\(Ex.l (qCLv a0)=Ex.l (qCLv a0)/\(false=true->false=true))/\True)
abbrev qCLe (a0:Cls):=(↑(List.length (Cls.when_ a0)):Int)
abbrev qCLj:=(0:Nat)
abbrev qCLr:=(1:Int)
abbrev qCLh (a0:PcX):=(↑(PcX.k a0):Int)
abbrev qCL2 (a0:Cls) (b0:PcX) (c0:PcX):=(qCLj=qCLj/\qCLj=qCLj/\(qCLl a0)/\(qCLe a0)=(qCLe a0)/\wr IntKind.i64 ((qCLh b0)+qCLr)=(qCLh c0)/\True)
abbrev qCLu (a0:PcX):=(List.length (PcX.L a0))
abbrev qCL3 (a0:PcX) (b0:List Nat):=(List.take (qCLu a0) (PcX.L a0)++ [[(119:Nat),(104:Nat),(101:Nat),(110:Nat)],b0])
abbrev qCL4 (a0:PcX) (b0:List Nat):=(List.take (qCLu a0) (PcX.L a0)++ [[(97:Nat),(110:Nat),(100:Nat)],b0])
abbrev qCL5:=(1:Nat)
abbrev qCL6 (a0:Cls):=(Ex.mk (Ex.op (qCLv a0)) (Ex.n (qCLv a0)) (Ex.d0 (qCLv a0)) (Ex.d1 (qCLv a0)) (Ex.d2 (qCLv a0)) (Ex.d3 (qCLv a0)) (Ex.l (qCLv a0)))
abbrev qCLc:=(2:Nat)
abbrev qCL7 (a0:PcX):=(List.length (PcX.L a0)+qCLc+qCL5)
abbrev qCL8 (a0:PcX):=(List.length (PcX.L a0)+qCLc)
abbrev qCL9:=(140737488355328:Nat)
abbrev qCLa (a0:PcX):=(List.length (PcX.L a0)+qCLc+qCL5+qCL5)
abbrev qCLb (a0:PcX):=(List.take (qCLu a0) (PcX.L a0)++ [[(112:Nat),(97:Nat),(121:Nat)]])
abbrev qCLd (a0:Tst):=((0:Int)<=Tst.low a0/\Tst.low a0+qCLr<=(10000000000000:Int))
abbrev qCLf (a0:PcX) (b0:List Nat):=(List.take (qCL8 a0) (qCL3 a0 b0)++ [[(105:Nat),(110:Nat)]])
abbrev qCLg (a0:PcX) (b0:List Nat):=(List.take (qCL8 a0) (qCL4 a0 b0)++ [[(105:Nat),(110:Nat)]])
abbrev qCLi (a0:PcX):=(List.length (PcX.L a0)+qCLc+qCL5+qCL5+qCL5)
abbrev qCLk:=(16:Nat)
abbrev qCLm (a0:PcX):=(some (List.take (qCLu a0) (PcX.L a0)++ [[(112:Nat),(97:Nat),(121:Nat)]],PcX.fz a0))
abbrev qCLn (a0:PcX):=(List.length (PcX.L a0)<=List.length (PcX.L a0)/\PcX.fz a0<=List.length (PcX.L a0)/\(qCL8 a0)*qCLk<=qCL9)
abbrev qCLo (a0:PcX) (b0:PcX):=((qCLj=qCLj/\List.length (PcX.L a0)+qCLc+qCL5+qCL5+qCL5+qCL5=List.length (PcX.L b0)/\True)/\True)
abbrev qCLp (a0:PcX) (b0:List Nat):=(List.length (PcX.L a0)+qCLc<=List.length (qCL3 a0 b0)/\PcX.fz a0<=List.length (PcX.L a0)+qCLc/\(qCL7 a0)*qCLk<=qCL9)
abbrev qCLq (a0:PcX) (b0:List Nat):=(List.length (PcX.L a0)+qCLc<=List.length (qCL4 a0 b0)/\PcX.fz a0<=List.length (PcX.L a0)+qCLc/\(qCL7 a0)*qCLk<=qCL9)
abbrev qCLs (a0:PcX) (b0:PcX):=((qCLj=qCLj/\List.length (PcX.L a0)+qCLc+qCL5+qCL5=List.length (PcX.L b0)/\True)/\True)
abbrev qCLt (a0:Tst):=((0:Int)<=Tst.high a0/\Tst.high a0+qCLr<=(10000000000000:Int))
theorem Z0b (l:List (List Nat)) (fz:Nat) (c:Cls) (l':List (List Nat)):Zl E Fpc (vc E Fpc 400) 43 [.ptr 0 0,clA c] (hpP E Th.strs (some (l,fz))) 2 (prnK E Th.strs (some (l,fz)) l')=(
 (List.length l<=List.length l/\fz<=List.length l/\(List.length l+qCLc)*qCLk<=qCL9)/\∃(R:PcX->Prop),(∃(x:PcX),R x/\true=true/\(qCLj=qCLj/\qCLj=qCLj/\(qCLl c)/\(qCLe c)=(qCLe c)/\(0:Int)=(qCLh x)/\True)/\((qCLj=qCLj/\List.length l+qCLc=List.length (PcX.L x)/\True)/\True)/\(List.take (List.length l) l++ [[(99:Nat),(108:Nat),(97:Nat),(117:Nat),(115:Nat),(101:Nat)],Cls.name c]=PcX.L x/\fz=PcX.fz x)/\(qCL1 c)/\True)/\∀(x:PcX),R x->(decide ((qCLh x)<(qCLe c))=true->(0:Int)<=(qCLh x)/\(qCLh x)+qCLr<=(qCLe c)/\∀(x_1:Tst),(Cls.when_ c)[Int.toNat (qCLh x)]? =some x_1->(0:Int)<=mm2 false (qCLh x) qCLr/\mm2 false (qCLh x) qCLr+qCLr<=(↑qCLc:Int)/\((mm2 false (qCLh x) qCLr==(↑qCLj:Int))=true->(0:Int)<=Tst.attr x_1/\Tst.attr x_1+qCLr<=(↑(List.length (WK.words WK.at_)):Int)/\∀(x_2:List Nat),(WK.words WK.at_)[Int.toNat (Tst.attr x_1)]? =some x_2->(qCLn x)/\((Tst.low x_1==Tst.high x_1)=true->(qCLp x x_2)/\(qCLd x_1)/\∀(y:List Nat),y=decN (Tst.low x_1)->(List.length (PcX.L x)+qCLc+qCL5<=List.length (List.take (qCL8 x) (qCL3 x x_2)++ [[(105:Nat),(115:Nat)]])/\PcX.fz x<=List.length (PcX.L x)+qCLc+qCL5/\(qCLa x)*qCLk<=qCL9)/\∃(x_3:PcX),R x_3/\x_3.2+qCL5<=x.2/\true=true/\(qCL2 c x x_3)/\(qCLs x x_3)/\(List.take (qCL7 x) (List.take (qCL8 x) (qCL3 x x_2)++ [[(105:Nat),(115:Nat)]])++ [y]=PcX.L x_3/\PcX.fz x=PcX.fz x_3)/\(qCL1 c)/\True)/\((Tst.low x_1==Tst.high x_1)=false->(qCLp x x_2)/\(qCLd x_1)/\∀(y:List Nat),y=decN (Tst.low x_1)->(List.length (PcX.L x)+qCLc+qCL5<=List.length (qCLf x x_2)/\PcX.fz x<=List.length (PcX.L x)+qCLc+qCL5/\(qCLa x)*qCLk<=qCL9)/\(List.length (PcX.L x)+qCLc+qCL5+qCL5<=List.length (List.take (qCL7 x) (qCLf x x_2)++ [y])/\PcX.fz x<=List.length (PcX.L x)+qCLc+qCL5+qCL5/\(qCLi x)*qCLk<=qCL9)/\(qCLt x_1)/\∀(y_1:List Nat),y_1=decN (Tst.high x_1)->(List.length (PcX.L x)+qCLc+qCL5+qCL5+qCL5<=List.length (List.take (qCLa x) (List.take (qCL7 x) (qCLf x x_2)++ [y])++ [[(46:Nat),(46:Nat)]])/\PcX.fz x<=List.length (PcX.L x)+qCLc+qCL5+qCL5+qCL5/\(List.length (PcX.L x)+qCLc+qCL5+qCL5+qCL5+qCL5)*qCLk<=qCL9)/\∃(x_3:PcX),R x_3/\x_3.2+qCL5<=x.2/\true=true/\(qCL2 c x x_3)/\(qCLo x x_3)/\(List.take (qCLi x) (List.take (qCLa x) (List.take (qCL7 x) (qCLf x x_2)++ [y])++ [[(46:Nat),(46:Nat)]])++ [y_1]=PcX.L x_3/\PcX.fz x=PcX.fz x_3)/\(qCL1 c)/\True))/\((mm2 false (qCLh x) qCLr==(↑qCLj:Int))=false->((mm2 false (qCLh x) qCLr==(↑(qCLj+qCL5):Int))=true->(0:Int)<=Tst.attr x_1/\Tst.attr x_1+qCLr<=(↑(List.length (WK.words WK.at_)):Int)/\∀(x_2:List Nat),(WK.words WK.at_)[Int.toNat (Tst.attr x_1)]? =some x_2->(qCLn x)/\((Tst.low x_1==Tst.high x_1)=true->(qCLq x x_2)/\(qCLd x_1)/\∀(y:List Nat),y=decN (Tst.low x_1)->(List.length (PcX.L x)+qCLc+qCL5<=List.length (List.take (qCL8 x) (qCL4 x x_2)++ [[(105:Nat),(115:Nat)]])/\PcX.fz x<=List.length (PcX.L x)+qCLc+qCL5/\(qCLa x)*qCLk<=qCL9)/\∃(x_3:PcX),R x_3/\x_3.2+qCL5<=x.2/\true=true/\(qCL2 c x x_3)/\(qCLs x x_3)/\(List.take (qCL7 x) (List.take (qCL8 x) (qCL4 x x_2)++ [[(105:Nat),(115:Nat)]])++ [y]=PcX.L x_3/\PcX.fz x=PcX.fz x_3)/\(qCL1 c)/\True)/\((Tst.low x_1==Tst.high x_1)=false->(qCLq x x_2)/\(qCLd x_1)/\∀(y:List Nat),y=decN (Tst.low x_1)->(List.length (PcX.L x)+qCLc+qCL5<=List.length (qCLg x x_2)/\PcX.fz x<=List.length (PcX.L x)+qCLc+qCL5/\(qCLa x)*qCLk<=qCL9)/\(List.length (PcX.L x)+qCLc+qCL5+qCL5<=List.length (List.take (qCL7 x) (qCLg x x_2)++ [y])/\PcX.fz x<=List.length (PcX.L x)+qCLc+qCL5+qCL5/\(qCLi x)*qCLk<=qCL9)/\(qCLt x_1)/\∀(y_1:List Nat),y_1=decN (Tst.high x_1)->(List.length (PcX.L x)+qCLc+qCL5+qCL5+qCL5<=
List.length (List.take (qCLa x) (List.take (qCL7 x) (qCLg x x_2)++ [y])++ [[(46:Nat),(46:Nat)]])/\PcX.fz x<=List.length (PcX.L x)+qCLc+qCL5+qCL5+qCL5/\(List.length (PcX.L x)+qCLc+qCL5+qCL5+qCL5+qCL5)*qCLk<=qCL9)/\∃(x_3:PcX),R x_3/\x_3.2+qCL5<=x.2/\true=true/\(qCL2 c x x_3)/\(qCLo x x_3)/\(List.take (qCLi x) (List.take (qCLa x) (List.take (qCL7 x) (qCLg x x_2)++ [y])++ [[(46:Nat),(46:Nat)]])++ [y_1]=PcX.L x_3/\PcX.fz x=PcX.fz x_3)/\(qCL1 c)/\True))/\((mm2 false (qCLh x) qCLr==(↑(qCLj+qCL5):Int))=false->True)))/\(decide ((qCLh x)<(qCLe c))=false->(List.length (PcX.L x)<=List.length (PcX.L x)/\PcX.fz x<=List.length (PcX.L x)/\(List.length (PcX.L x)+qCL5)*qCLk<=qCL9)/\(List.length (PcX.L x)+qCL5=List.length (qCLb x)/\PcX.fz x<=List.length (qCLb x)/\Ex.sz (qCL6 c)+qCL5<=(1000000000:Nat)/\Z9 (qCL6 c)=true/\qCL5<=List.length (qCLb x)/\List.length (qCLb x)+(8:Nat)*Ex.sz (qCL6 c)+(8:Nat)<=(1000000000:Nat))/\∀(l'_1:List (List Nat)),l'_1=List.take (qCLu x) (PcX.L x)++ [[(112:Nat),(97:Nat),(121:Nat)]]++txX (qCL6 c)->(List.length l'_1<=List.length l'_1/\fzO (qCLm x)<=List.length l'_1/\(List.length l'_1+qCL5)*qCLk<=qCL9)/\List.take (List.length l'_1) l'_1++ [[(59:Nat)]]=l'/\List.length l'_1+qCL5=List.length l'/\fzO (qCLm x)=fzO (some (l,fz)))):=by kernel_rfl
theorem Zmf:∀(a:List Tst) (i:Nat) (w:Tst),txTs i (a++ [w])=txTs i a++((if a.length+i=0 then Zdw else sAnd)::txW w)
 | [],i,w=>by simp [txTs]
 |x::r,i,w=>by
  rw [List.cons_append]
  simp only [txTs]
  rw [Zmf r (i+1) w]
  have e:(r.length+(i+1)=0)=((x::r).length+i=0):=by simp
  simp only [e,List.append_assoc,List.cons_append]
theorem Z88 (w:Tst):(txW w).length<=5:=by
 unfold txW
 split<;>simp
theorem Zjs:∀(l:List Tst) (i:Nat),(txTs i l).length<=6*l.length
 | [],_=>by simp [txTs]
 |w::r,i=>by
  have:=Zjs r (i+1)
  have:=Z88 w
  simp [txTs]
  omega
def PclP (l:List (List Nat)) (c:Cls):Prop:=X8 c=true/\c.pay.sz<1000000000/\1<=l.length/\l.length+8*c.pay.sz+6*c.when_.length+20<=1000000000
theorem Yci:FnsOk E Fpc:=Zy E_ok (Zb Zrq (Zzf (Zp5 1000000000))) _ _ _
theorem Z89 (c:Cls) (l:List (List Nat)) (fz:Nat) (hf:fz<=l.length) (h:PclP l c):PrnC E 43 Th.strs [clA c] (some (l,fz)) (l++txC c):=by
 refine Zzc Yci (n:=400) rfl ?_
 rw [Z0b];delta qCLv qCLl qCL1 qCLe qCLj qCLr qCLh qCL2 qCLu qCL3 qCL4 qCL5 qCL6 qCLc qCL7 qCL8 qCL9 qCLa qCLb qCLd qCLf qCLg qCLi qCLk qCLm qCLn qCLo qCLp qCLq qCLs qCLt
 obtain ⟨h1,h2,h3,h4⟩:=h
 obtain ⟨-,g2,g3⟩:=Xy h1
 have L:WK.at_.words.length=16:=rfl
 simp only [fzO,List.take_length,Ex.eta,forall_eq,beq_iff_eq,beq_eq_false_iff_ne,ne_eq,and_true,true_and,imp_self,decide_eq_true_eq,decide_eq_false_iff_not]
 refine ⟨⟨Nat.le_refl _,hf,by omega⟩,fun x=>x.k<=c.when_.length/\x.fz=fz/\x.L=l++ [sClause,c.name]++txTs 0 (c.when_.take x.k)/\x.r=c.when_.length-x.k,⟨⟨0,c.when_.length,l++ [sClause,c.name],fz⟩,⟨by dsimp only;omega,rfl,by simp [txTs],rfl⟩,by simp,by simp,by simp [sClause]⟩,?_⟩
 rintro ⟨k,r,Lx,fx⟩ ⟨k1,k2,k3,k4⟩
 simp only at k1 k2 k3 k4⊢
 subst k2 k4
 have tl:=Zjs (c.when_.take k) 0
 have tl2:(c.when_.take k).length<=c.when_.length:=by simp;omega
 have hL:Lx.length=l.length+2+(txTs 0 (c.when_.take k)).length:=by rw [k3];simp;omega
 refine And.intro (fun hq=>⟨by omega,by omega,fun w hw=> ?_⟩) (fun hq=> ?_)
 · have hw:c.when_[k]? =some w:=hw
   have hq:k<c.when_.length:=by omega
   obtain ⟨t1,t2,t3,t4,t5,t6⟩:=W7 (g3 w (List.mem_of_getElem? hw))
   have ek:c.when_.take (k+1)=c.when_.take k++ [w]:=by rw [List.take_add_one,hw];rfl
   have tw:(c.when_.take k).length=k:=by simp;omega
   have hm:(0:Int)<=mm2 false (↑k:Int) (1:Int)/\mm2 false (↑k:Int) (1:Int)+1<=2:=by
    rw [Yx];omega
   have st:txTs 0 (c.when_.take (k+1))=txTs 0 (c.when_.take k)++((if k=0 then Zdw else sAnd)::txW w):=by rw [ek,Zmf,tw,Nat.add_zero]
   have wx:∀x2,WK.at_.words[w.attr.toNat]? =some x2->txW w=x2::(if w.low=w.high then [sIs,decN w.low] else [sIn,decN w.low,Zbp,decN w.high]):=by
    intro x2 h
    unfold txW
    rw [List.getD_eq_getElem?_getD,h]
    rfl
   have E1:∀s x2,(if k=0 then Zdw else sAnd)=s->WK.at_.words[w.attr.toNat]? =some x2->w.low=w.high->Lx++ [s,x2]++ [[105,115]]++ [decN w.low]=l++ [sClause,c.name]++txTs 0 (c.when_.take (k+1)):=by
    intro s x2 hs h e
    rw [k3,st,hs,wx x2 h,if_pos e]
    simp [sIs]
   have E2:∀s x2,(if k=0 then Zdw else sAnd)=s->WK.at_.words[w.attr.toNat]? =some x2->¬w.low=w.high->Lx++ [s,x2]++ [[105,110]]++ [decN w.low]++ [[46,46]]++ [decN w.high]=l++ [sClause,c.name]++txTs 0 (c.when_.take (k+1)):=by
    intro s x2 hs h e
    rw [k3,st,hs,wx x2 h,if_neg e]
    simp [sIn,Zbp]
   have T1:∀a b,List.take (Lx.length+2) (Lx++ [a,b])=Lx++ [a,b]:=fun a b=>List.take_of_length_le (by simp)
   have T2:∀a b c,List.take (Lx.length+2+1) (Lx++ [a,b]++ [c])=Lx++ [a,b]++ [c]:=fun a b c=>List.take_of_length_le (by simp)
   have T3:∀a b c d,List.take (Lx.length+2+1+1) (Lx++ [a,b]++ [c]++ [d])=Lx++ [a,b]++ [c]++ [d]:=fun a b c d=>List.take_of_length_le (by simp)
   have T4:∀a b c d e,List.take (Lx.length+2+1+1+1) (Lx++ [a,b]++ [c]++ [d]++ [e])=Lx++ [a,b]++ [c]++ [d]++ [e]:=fun a b c d e=>List.take_of_length_le (by simp)
   have wk:wr IntKind.i64 ((k:Int)+1)=((k+1:Nat):Int):=(wr64 (by omega) (by omega)).trans (by omega)
   simp only [T1,T2,T3,T4]
   have m0:(mm2 false (k:Int) 1=((0:Nat):Int))=(k=0):=by rw [Yx];exact propext (by omega)
   have go:∀s x2,(if k=0 then Zdw else sAnd)=s->WK.at_.words[w.attr.toNat]? =some x2->
    (w.low=w.high->∃x_3:PcX,(x_3.k<=c.when_.length/\x_3.fz=fx/\x_3.L=l++ [sClause,c.name]++txTs 0 (List.take x_3.k c.when_)/\x_3.r=c.when_.length-x_3.k)/\x_3.r+1<=c.when_.length-k/\wr IntKind.i64 ((k:Int)+1)=(x_3.k:Int)/\Lx.length+2+1+1=x_3.L.length/\Lx++ [s,x2]++ [[105,115]]++ [decN w.low]=x_3.L/\fx=x_3.fz)/\
    (¬w.low=w.high->∃x_3:PcX,(x_3.k<=c.when_.length/\x_3.fz=fx/\x_3.L=l++ [sClause,c.name]++txTs 0 (List.take x_3.k c.when_)/\x_3.r=c.when_.length-x_3.k)/\x_3.r+1<=c.when_.length-k/\wr IntKind.i64 ((k:Int)+1)=(x_3.k:Int)/\Lx.length+2+1+1+1+1=x_3.L.length/\Lx++ [s,x2]++ [[105,110]]++ [decN w.low]++ [[46,46]]++ [decN w.high]=x_3.L/\fx=x_3.fz):=by
    intro s x2 hs h
    refine And.intro (fun e=> ?_) (fun e=> ?_)
    · have:=E1 s x2 hs h e
      have h2:=congrArg List.length this
      refine ⟨⟨k+1,c.when_.length-(k+1),l++ [sClause,c.name]++txTs 0 (c.when_.take (k+1)),fx⟩,⟨hq,rfl,rfl,rfl⟩,(by dsimp only;omega),wk,?_,this,rfl⟩
      dsimp only
      rw [<-h2]
      simp
    · have:=E2 s x2 hs h e
      have h2:=congrArg List.length this
      refine ⟨⟨k+1,c.when_.length-(k+1),l++ [sClause,c.name]++txTs 0 (c.when_.take (k+1)),fx⟩,⟨hq,rfl,rfl,rfl⟩,(by dsimp only;omega),wk,?_,this,rfl⟩
      dsimp only
      rw [<-h2]
      simp
   rw [m0]
   refine ⟨hm.1,hm.2,fun h0=>⟨t1,by rw [L];omega,fun x2 hx2=> ?_⟩,fun h0=>⟨fun h1=>⟨t1,by rw [L];omega,fun x2 hx2=> ?_⟩,fun _=>trivial⟩⟩
   · obtain ⟨g1,g2⟩:=go [119,104,101,110] x2 (by rw [if_pos h0];rfl) hx2
     refine ⟨⟨Nat.le_refl _,by omega,by omega⟩,fun e=> ?_,fun e=> ?_⟩
     · exact ⟨⟨by simp,by omega,by omega⟩,⟨t3,by omega⟩,⟨by simp,by omega,by omega⟩,g1 e⟩
     · exact ⟨⟨by simp,by omega,by omega⟩,⟨t3,by omega⟩,⟨by simp,by omega,by omega⟩,⟨by simp,by omega,by omega⟩,⟨t5,by omega⟩,⟨by simp,by omega,by omega⟩,g2 e⟩
   · obtain ⟨g1,g2⟩:=go [97,110,100] x2 (by rw [if_neg h0];rfl) hx2
     refine ⟨⟨Nat.le_refl _,by omega,by omega⟩,fun e=> ?_,fun e=> ?_⟩
     · exact ⟨⟨by simp,by omega,by omega⟩,⟨t3,by omega⟩,⟨by simp,by omega,by omega⟩,g1 e⟩
     · exact ⟨⟨by simp,by omega,by omega⟩,⟨t3,by omega⟩,⟨by simp,by omega,by omega⟩,⟨by simp,by omega,by omega⟩,⟨t5,by omega⟩,⟨by simp,by omega,by omega⟩,g2 e⟩
 · have ek:k=c.when_.length:=by omega
   have tx:=Y9 c.pay
   have e1:Lx++ [[112,97,121]]++txX c.pay++ [[59]]=l++txC c:=by
    rw [k3,ek,List.take_length]
    unfold txC
    simp [sPay,Zch]
   have e2:=congrArg List.length e1
   simp only [List.length_append,List.length_cons,List.length_nil] at e2⊢
   exact ⟨⟨Nat.le_refl _,by omega,by omega⟩,⟨trivial,by omega,by omega,g2,by omega,by omega⟩,⟨Nat.le_refl _,by omega,by omega⟩,e1,by omega,trivial⟩
end
section
open Go
noncomputable def dCl1:DcL E (Cls×Unit):= .cons dCl .nil
noncomputable def Spc:Sum thy:=sumB E Th.strs dCl1 (fun l x=>PclP l x.1) fun (l:List (List Nat)) x=>l++txC x.1
theorem Z9a:SumOk E 43 Spc:=Zix E_ok (Zc rfl) fun x=>⟨fun l fz hf hp=>Z89 x.1 l fz hf hp,fun hp=>absurd hp.2.2.1 (by decide)⟩
noncomputable def Yck:DcL E (List (List Nat)×List Nat×Unit):= .cons (Zsl (E:=E) Th.strs:Dc E (List (thy.dom Th.strs))) (.cons dS .nil)
noncomputable def Z5d:Sum thy:=Zlo E (fun _=>none) 10 (V6 Yck (fun x=>(x.2.1= [32]/\x.1.length<=1000000000)/\(Z0 x.1).length<=1000000000) (fun x=>Z0 x.1) fun y=> .str false y)
noncomputable def Apr:Fr thy->Hp thy->Nat->Ann thy:=fun T h i=>{X:=PcX,fr:=fun x=> [(1,T 1),(5,T 5),(28,T 28),(29,T 29),(30,.int false .i64 x.k)],bl:=fun x=>(bOf (T 5),.raw [.sl i 0 x.L.length 1 none] 0 none)::(i,.rows Th.strs x.L x.fz)::blkP h (T 1),src:=fun x=> [(i,1005)],md:= [bOf (T 5),cOfP h (T 5)],ih:=i+1,M:=i+60,meas:=fun x=>x.r}
noncomputable def Fpr:Fns thy:=addL (addS (addS (addS (addS F0 42 Zdc) 44 Z5d) 17 Z5b) 43 Spc) 15 7 Apr E
abbrev qCM1 (a0:Cls):=(Ex.mk (Ex.op (Cls.pay a0)) (Ex.n (Cls.pay a0)) (Ex.d0 (Cls.pay a0)) (Ex.d1 (Cls.pay a0)) (Ex.d2 (Cls.pay a0)) (Ex.d3 (Cls.pay a0)) (Ex.l (Cls.pay a0)))
abbrev qCM5:=(0:Nat)
abbrev qCM2 (a0:PcX):=(List.take (List.length (PcX.L a0)+(1:Nat)) (List.drop qCM5 (List.take (List.length (PcX.L a0)) (PcX.L a0)++ [[(125:Nat)]])))
abbrev qCM3 (a0:Tar):=(↑(List.length (Tar.clauses a0)):Int)
abbrev qCM4 (a0:Tar):=(Tar.clauses a0=Tar.clauses a0/\(false=true->false=true))
abbrev qCM6 (a0:PcX):=(↑(PcX.k a0):Int)
theorem Zr7 (t:Tar) (s:List Nat) (e:Int):Zl E Fpr (vc E Fpr 400) 15 [.agg (encF false .tariffs t)] hp0 0 (fun r=>ret E (patch hp0 0 r) r.v (.tup [.str false s,.int false .i64 e]))=(
 ((∀(c:Cls),c∈Tar.clauses t->Ex.sz (Cls.pay c)+(1:Nat)<=(1000000000000:Nat)/\List.length (Cls.when_ c)+(1:Nat)<=(1000000000000:Nat))/\List.length (Tar.clauses t)+(1:Nat)<=(1000000000000:Nat))/\((Yh t !=(0:Int))=true-> []=s/\Yh t=e/\True)/\((Yh t !=(0:Int))=false->(0:Int)<=wr IntKind.i64 (Tar.for_ t-(1:Int))/\wr IntKind.i64 (Tar.for_ t-(1:Int))+(1:Int)<=(↑(List.length (WK.words WK.ki)):Int)/\∀(x:List Nat),(WK.words WK.ki)[Int.toNat (wr IntKind.i64 (Tar.for_ t-(1:Int)))]? =some x->∃(R:PcX->Prop),(∃(x_1:PcX),R x_1/\true=true/\(qCM5=qCM5/\qCM5=qCM5/\(qCM4 t)/\(qCM3 t)=(qCM3 t)/\(0:Int)=(qCM6 x_1)/\True)/\((qCM5=qCM5/\(5:Nat)=List.length (PcX.L x_1)/\True)/\True)/\([[(116:Nat),(97:Nat),(114:Nat),(105:Nat),(102:Nat),(102:Nat)],Tar.name t,[(102:Nat),(111:Nat),(114:Nat)],x,[(123:Nat)]]=PcX.L x_1/\qCM5=PcX.fz x_1)/\(Tar.name t=Tar.name t/\Tar.for_ t=Tar.for_ t/\(qCM4 t)/\True)/\True)/\∀(x:PcX),R x->(decide ((qCM6 x)<(qCM3 t))=true->(0:Int)<=(qCM6 x)/\(qCM6 x)+(1:Int)<=(qCM3 t)/\∀(x_1:Cls),(Tar.clauses t)[Int.toNat (qCM6 x)]? =some x_1->(List.length (PcX.L x)=List.length (PcX.L x)/\PcX.fz x<=List.length (PcX.L x)/\X8 (Cls.mk (Cls.name x_1) (Cls.when_ x_1) (qCM1 x_1))=true/\Ex.sz (qCM1 x_1)+(1:Nat)<=(1000000000:Nat)/\(1:Nat)<=List.length (PcX.L x)/\List.length (PcX.L x)+(8:Nat)*Ex.sz (qCM1 x_1)+(6:Nat)*List.length (Cls.when_ x_1)+(20:Nat)<=(1000000000:Nat))/\∀(l':List (List Nat)),l'=PcX.L x++txC (Cls.mk (Cls.name x_1) (Cls.when_ x_1) (qCM1 x_1))->∃(x_2:PcX),R x_2/\x_2.2+(1:Nat)<=x.2/\true=true/\(qCM5=qCM5/\qCM5=qCM5/\(qCM4 t)/\(qCM3 t)=(qCM3 t)/\wr IntKind.i64 ((qCM6 x)+(1:Int))=(qCM6 x_2)/\True)/\((qCM5=qCM5/\List.length l'=List.length (PcX.L x_2)/\True)/\True)/\(l'=PcX.L x_2/\fzO (some (PcX.L x,PcX.fz x))=PcX.fz x_2)/\(Tar.name t=Tar.name t/\Tar.for_ t=Tar.for_ t/\(qCM4 t)/\True)/\True)/\(decide ((qCM6 x)<(qCM3 t))=false->(List.length (PcX.L x)<=List.length (PcX.L x)/\PcX.fz x<=List.length (PcX.L x)/\(List.length (PcX.L x)+(1:Nat))*(16:Nat)<=(140737488355328:Nat))/\qCM5+(List.length (PcX.L x)+(1:Nat))<=List.length (List.take (List.length (PcX.L x)) (PcX.L x)++ [[(125:Nat)]])/\(([(32:Nat)]= [(32:Nat)]/\List.length (qCM2 x)<=(1000000000:Nat))/\List.length (Z0 (qCM2 x))<=(1000000000:Nat))/\∀(y:List Nat),y=Z0 (qCM2 x)->(decide ((↑(List.length y):Int)>(2000:Int))=true-> []=s/\(2:Int)=e/\True)/\(decide ((↑(List.length y):Int)>(2000:Int))=false->y=s/\(0:Int)=e/\True)))):=by kernel_rfl
theorem Zpr:∀{s:List Nat} {n m:Int},1<=n->n<=1099511627776->(∀c∈s,isD c=true)->numL n s=(m,0)->n*10^s.length<=1099511627776
 | [],n,m,_,hn,_,_=>by simpa using hn
 |c::r,n,m,h1,hn,hd,h=>by
  unfold numL at h
  split at h
  · cases h
  · rename_i hq
    have hc:=hd c (by simp)
    unfold isD at hc
    simp only [Bool.and_eq_true,decide_eq_true_eq] at hc
    have:=Zpr (by omega) (by omega) (fun c hc=>hd c (by simp [hc])) h
    have hle:n*10<=10*n+((c:Int)-48):=by omega
    have hp:(0:Int)<=10^r.length:=Int.le_of_lt (Int.pow_pos (by decide))
    have h3:=Int.mul_le_mul_of_nonneg_right hle hp
    rw [List.length_cons,Int.pow_succ,Int.mul_comm (10^r.length) 10,<-Int.mul_assoc]
    omega
theorem Z0c {s:List Nat} (hd:∀c∈s,isD c=true) (h:(numb s).2=0):s.length<=32:=by
 match s,hd,h with
 | [],_,_=>simp
 |c::r,hd,h=>
  unfold numb at h
  split at h
  · cases h
  · rename_i hq
    cases r with
    |nil=>simp
    |cons d r=>
     have hc:c≠48:=fun e=>hq ⟨by simp,by rw [e];rfl⟩
     have hcd:=hd c (by simp)
     unfold isD at hcd
     simp only [Bool.and_eq_true,decide_eq_true_eq] at hcd
     unfold numL at h
     rw [if_neg (by omega)] at h
     have h2:numL (10*0+((c:Int)-48)) (d::r)=((numL (10*0+((c:Int)-48)) (d::r)).1,0):=Prod.ext rfl h
     have:=Zpr (by omega) (by omega) (fun c hc=>hd c (by simp [hc])) h2
     have hp:(0:Int)<=10^(d::r).length:=Int.le_of_lt (Int.pow_pos (by decide))
     have h3:1*(10:Int)^(d::r).length<=(10*0+((c:Int)-48))*10^(d::r).length:=Int.mul_le_mul_of_nonneg_right (by omega) hp
     rcases Nat.lt_or_ge (d::r).length 13 with hl|hl
     · simp at hl⊢;omega
     · have h4:(10:Nat)^13<=10^(d::r).length:=Nat.pow_le_pow_right (by decide) hl
       have h5:((10^(d::r).length:Nat):Int)=(10:Int)^(d::r).length:=by norm_cast
       have h6:((10^13:Nat):Int)<=((10^(d::r).length:Nat):Int):=Int.ofNat_le.2 h4
       rw [h5] at h6
       have h7:((10^13:Nat):Int)=10000000000000:=rfl
       omega
theorem Z5e {c:Nat} {w:List Nat} (h:sgnW c=some w):w.length<=2:=by
 unfold sgnW at h
 repeat (split at h; · cases h;decide)
 cases h
theorem TokW.len {w:List Nat} (h:TokW w):w.length<=32:=by
 obtain ⟨h1,h2,h3⟩:=h
 obtain ⟨c,r,rfl⟩:=List.exists_cons_of_ne_nil h3
 rw [Ye] at h1 h2
 split at h1
 · rename_i hl
   rw [if_pos hl] at h2
   split at h1
   · cases h1
   · rename_i hq
     rw [if_neg hq] at h2
     have h2:=congrArg List.length h2
     rw [List.length_take] at h2
     omega
 · rename_i hl
   rw [if_neg hl] at h2
   split at h1
   · rename_i hd
     rw [if_pos hd] at h2
     have h2:(c::r).take (spn isD (c::r))=c::r:=h2
     have h1:(numb ((c::r).take (spn isD (c::r)))).2=0:=h1
     rw [h2] at h1
     exact Z0c (fun x hx=>by rw [<-h2] at hx;exact Zfi hx) h1
   · rename_i hd
     rw [if_neg hd] at h2
     split at h1
     · rename_i w hw
       rw [hw] at h2
       unfold tokS at h1 h2
       split at h1
       · rename_i hq
         dsimp only at h2
         rw [if_pos hq] at h2
         have h2:w=c::r:=h2
         rw [<-h2]
         have:=Z5e hw
         omega
       · cases h1
     · cases h1
theorem Zjt:∀{ws:List (List Nat)} {m:Nat},(∀w∈ws,w.length<=m)->(Z0 ws).length<=(m+1)*ws.length
 | [],m,_=>by simp [Z0]
 | [w],m,h=>by
  have:=h w (by simp)
  simp only [Z0,List.length_cons,List.length_nil]
  omega
 |w::x::r,m,h=>by
  have ih:=Zjt (ws:=x::r) (m:=m) (fun y hy=>h y (by simp at hy⊢;exact .inr hy))
  have:=h w (by simp)
  rw [X2 (by simp),List.length_append,List.length_cons]
  have e:(m+1)*(w::x::r).length=(m+1)*(x::r).length+(m+1):=by rw [List.length_cons,Nat.mul_add,Nat.mul_one]
  omega
theorem Z5f (c:Cls):(txC c).length<=8*c.pay.sz+6*c.when_.length+4:=by
 have h1:=Y9 c.pay
 have h2:=Zjs c.when_ 0
 unfold txC
 simp only [List.length_cons,List.length_append,List.length_nil]
 omega
theorem Zju:∀(a:List Cls) (c:Cls),txCs (a++ [c])=txCs a++txC c
 | [],c=>by simp [txCs]
 |x::r,c=>by rw [List.cons_append];simp only [txCs];rw [Zju r c,List.append_assoc]
theorem Zps:∀{cs:List Cls} {m:Nat},(∀c∈cs,c.pay.sz<=m/\c.when_.length<=8)->(txCs cs).length<=(8*m+52)*cs.length
 | [],m,_=>by simp [txCs]
 |c::r,m,h=>by
  have ih:=Zps (cs:=r) (m:=m) (fun x hx=>h x (by simp [hx]))
  have h1:=h c (by simp)
  have h2:=Z5f c
  have e:(8*m+52)*(c::r).length=(8*m+52)*r.length+(8*m+52):=by rw [List.length_cons,Nat.mul_add,Nat.mul_one]
  rw [txCs,List.length_append]
  omega
theorem Zhp:∀{cs:List Cls} {s:List (List Nat)},CsOk s cs->∀c∈cs,X8 c=true/\c.when_.length<=8
 |c::r,s,h,x,hx=>by
  rw [Xi] at h
  rcases List.mem_cons.1 hx with rfl|hx
  · exact ⟨h.1,h.2.2.2.1⟩
  · exact Zhp h.2.2.2.2.2 x hx
def SmT (t:Tar):Prop:=(∀c∈t.clauses,c.pay.sz<=10000/\c.when_.length<1000000000)/\t.clauses.length<1000000000
theorem Zpt:SumOk E 44 Z5d:=Zfr E_ok (Yg E_ok (Zc rfl) fun x h=>by
 have:=Zk8 x.1 h.1.2 h.2
 rw [<-h.1.1] at this
 exact this)
theorem Z9b:FnsOk E Fpr:=Zy E_ok (Zb (Zb (Zb (Zb F0_ok Zdd) Zpt) Zz0) Z9a) _ _ _
theorem Zr8 (t:Tar) (h:SmT t):PureC E 15 [.agg (encF false .tariffs t)] (.tup [.str false (W8 t).1,.int false .i64 (W8 t).2]):=by
 refine Za E_ok (Zh E_ok Z9b 400) ?_
 rw [Zr7];delta qCM1 qCM5 qCM2 qCM3 qCM4 qCM6
 obtain ⟨h1,h2⟩:=h
 have L:WK.ki.words.length=6:=rfl
 simp only [bne_iff_ne,bne_eq_false_iff_eq,fzO,List.take_length,Cls.eta,Ex.eta,forall_eq,beq_iff_eq,beq_eq_false_iff_ne,ne_eq,and_true,true_and,imp_self,decide_eq_true_eq,decide_eq_false_iff_not]
 refine ⟨⟨fun c hc=>⟨by have:=(h1 c hc).1;omega,by have:=(h1 c hc).2;omega⟩,by omega⟩,fun hn=> ?_,fun hz=> ?_⟩
 · rw [Zs1 hn];exact ⟨rfl,rfl⟩
 · obtain ⟨c1,c2,c3,c4,c5,c6⟩:=(Yf t).1 hz
   have hw:wr IntKind.i64 (t.for_-1)=t.for_-1:=wr64 (by omega) (by omega)
   rw [hw]
   refine ⟨by omega,by rw [L];omega,fun x hx=> ?_⟩
   have hall:=Zhp c6
   have hm:∀c∈t.clauses,c.pay.sz<=10000/\c.when_.length<=8:=fun c hc=>⟨(h1 c hc).1,(hall c hc).2⟩
   have hlen:∀k,(txCs (t.clauses.take k)).length<=80052*64:=fun k=>by
    have a:=Zps (cs:=t.clauses.take k) (m:=10000) (fun c hc=>hm c (List.mem_of_mem_take hc))
    have b:(t.clauses.take k).length<=64:=by rw [List.length_take];omega
    have e:(8*10000+52)*(t.clauses.take k).length<=(8*10000+52)*64:=Nat.mul_le_mul_left _ b
    omega
   have hx5:WK.ki.words.getD (t.for_-1).toNat []=x:=by rw [List.getD_eq_getElem?_getD,hx];rfl
   refine ⟨fun y=>y.k<=t.clauses.length/\y.fz=0/\y.L= [[116,97,114,105,102,102],t.name,[102,111,114],x,[123]]++txCs (t.clauses.take y.k)/\y.r=t.clauses.length-y.k,⟨⟨0,t.clauses.length,[[116,97,114,105,102,102],t.name,[102,111,114],x,[123]],0⟩,⟨(by dsimp only;omega),rfl,by simp [txCs],rfl⟩,rfl,rfl,rfl,rfl⟩,?_⟩
   rintro ⟨k,r,Lx,fx⟩ ⟨k1,k2,k3,k4⟩
   simp only at k1 k2 k3 k4⊢
   subst k2 k4
   have hL:Lx.length=5+(txCs (t.clauses.take k)).length:=by rw [k3];simp;omega
   have hlk:=hlen k
   refine And.intro (fun hq=>⟨by omega,by omega,fun c hc=> ?_⟩) (fun hq=> ?_)
   · have hc:t.clauses[k]? =some c:=hc
     have hq:k<t.clauses.length:=by omega
     have hcm:=List.mem_of_getElem? hc
     have b1:=hm c hcm
     have b2:=hall c hcm
     have e:Lx++txC c= [[116,97,114,105,102,102],t.name,[102,111,114],x,[123]]++txCs (t.clauses.take (k+1)):=by
      have ek:t.clauses.take (k+1)=t.clauses.take k++ [c]:=by rw [List.take_add_one,hc];rfl
      rw [k3,ek,Zju,List.append_assoc]
     refine ⟨⟨by omega,b2.1,by omega,by omega,by omega⟩,⟨k+1,t.clauses.length-(k+1),Lx++txC c,0⟩,⟨hq,rfl,e,rfl⟩,(by dsimp only;omega),(wr64 (by omega) (by omega)).trans (by dsimp only;omega),rfl,rfl,rfl⟩
   · have ek:k=t.clauses.length:=by omega
     have e:Lx++ [[125]]=Zw t:=by
      rw [k3,ek,List.take_length]
      unfold Zw
      rw [hx5]
      simp [sTariff,sFor,sLb,sRb]
     have e1:List.take (Lx.length+1) (List.drop 0 (Lx++ [[125]]))=Zw t:=by
      rw [List.drop_zero,List.take_of_length_le (by simp),e]
     rw [e1]
     have e2:(Zw t).length=Lx.length+1:=by rw [<-e];simp
     have hj:=Zjt (ws:=Zw t) (m:=32) (fun w hw=>(Zd1 hz w hw).len)
     unfold W8
     rw [if_neg (by rw [hz];simp)]
     refine ⟨⟨Nat.le_refl _,by omega,by omega⟩,by rw [List.length_append];simp,⟨by omega,by omega⟩,fun h=> ?_,fun h=> ?_⟩
     · rw [if_pos (by omega)];exact ⟨rfl,rfl⟩
     · rw [if_neg (by omega)];exact ⟨rfl,rfl⟩
end
section
open Go
mutual
def szW:Int->Ex->Int
 |n,.mk _ _ _ _ _ _ l=>if n>60\/(l.length:Int)>400 then 401 else szWL (n+1) 1 l
def szWL:Int->Int->List Ex->Int
 |_,a,[]=>a
 |n,a,x::r=>if a<=400 then szWL n (a+szW n x) r else a
end
theorem Z49 (n:Int) (x:Ex):szW n x=if n>60\/(x.l.length:Int)>400 then 401 else szWL (n+1) 1 x.l:=by cases x;rw [szW];rfl
noncomputable def Sszw (m:Nat):Sum thy:=V6 Ybx (fun x=>62<=x.2.1+m/\1<=x.2.1/\x.2.1<=61) (fun x=>szW x.2.1 x.1) fun y=> .int false .i64 y
noncomputable def Aszw:Fr thy->Hp thy->Nat->Ann thy:=fun T h i=>{X:=DX,fr:=fun x=> [(1,T 1),(2,T 2),(5,.int false .i64 x.j),(6,.int false .i64 x.k)],bl:=fun x=>blkP h (T 2),src:=fun _=> [],md:= [],ih:=i,M:=i+30,meas:=fun x=>x.r}
noncomputable def Fszw (m:Nat):Fns thy:=addL (addS F0 20 (Sszw m)) 20 5 Aszw E
abbrev qCN1 (a0:Ex):=(Ex.op a0=Ex.op a0/\Ex.n a0=Ex.n a0/\Ex.d0 a0=Ex.d0 a0/\Ex.d1 a0=Ex.d1 a0/\Ex.d2 a0=Ex.d2 a0/\Ex.d3 a0=Ex.d3 a0/\(Ex.l a0=Ex.l a0/\(false=true->false=true))/\True)
abbrev qCN2 (a0:Ex):=(↑(List.length (Ex.l a0)):Int)
abbrev qCN3 (a0:DX):=(↑(DX.k a0):Int)
theorem Z3l (m:Nat) (x:Ex) (n:Int) (v:Int):Zl E F0 (vc E (Fszw m) 400) 20 [exA x,.int false .i64 n] hp0 0 (fun r=>ret E (patch hp0 0 r) r.v (.int false .i64 v))=(
 ∃(Q:Bool->Prop),((decide (n>(60:Int))=true->Q true)/\(decide (n>(60:Int))=false->(decide ((qCN2 x)>(400:Int))=true->Q true)/\(decide ((qCN2 x)>(400:Int))=false->Q false)))/\(Q true->(401:Int)=v)/\(Q false->∃(R:DX->Prop),(∃(x_1:DX),R x_1/\true=true/\(n=n/\(0:Nat)=(0:Nat)/\(1:Int)=DX.j x_1/\(0:Int)=(qCN3 x_1)/\True)/\(qCN1 x)/\True)/\∀(x_1:DX),R x_1->∃(Q:Bool->Prop),((decide ((qCN3 x_1)<(qCN2 x))=true->(decide (DX.j x_1<=(400:Int))=true->Q true)/\(decide (DX.j x_1<=(400:Int))=false->Q false))/\(decide ((qCN3 x_1)<(qCN2 x))=false->Q false))/\(Q true->(0:Int)<=(qCN3 x_1)/\(qCN3 x_1)+(1:Int)<=(qCN2 x)/\∀(x_2:Ex),(Ex.l x)[Int.toNat (qCN3 x_1)]? =some x_2->((62:Int)<=wr IntKind.i64 (n+(1:Int))+(↑m:Int)/\(1:Int)<=wr IntKind.i64 (n+(1:Int))/\wr IntKind.i64 (n+(1:Int))<=(61:Int))/\∀(y:Int),y=szW (wr IntKind.i64 (n+(1:Int))) (Ex.mk (Ex.op x_2) (Ex.n x_2) (Ex.d0 x_2) (Ex.d1 x_2) (Ex.d2 x_2) (Ex.d3 x_2) (Ex.l x_2))->∃(x_3:DX),R x_3/\x_3.2+(1:Nat)<=x_1.2/\true=true/\(n=n/\(0:Nat)=(0:Nat)/\wr IntKind.i64 (DX.j x_1+y)=DX.j x_3/\wr IntKind.i64 ((qCN3 x_1)+(1:Int))=(qCN3 x_3)/\True)/\(qCN1 x)/\True)/\(Q false->DX.j x_1=v))):=by kernel_rfl
noncomputable def Afw:Fr thy->Hp thy->Nat->Ann thy:=fun T h i=>{X:=DX,fr:=fun x=> [(1,T 1),(3,.int false .i64 x.j),(4,.int false .i64 x.k)],bl:=fun x=>blkP h (T 1),src:=fun _=> [],md:= [],ih:=i,M:=i+40,meas:=fun x=>x.r}
noncomputable def Ffw:Fns thy:=addL (addS F0 20 (Sszw 61)) 14 5 Afw E
abbrev qCN4 (a0:Tar):=(↑(List.length (Tar.clauses a0)):Int)
abbrev qCN5 (a0:DX):=(↑(DX.k a0):Int)
abbrev qCN6 (a0:Tar):=(Tar.name a0=Tar.name a0/\Tar.for_ a0=Tar.for_ a0/\(Tar.clauses a0=Tar.clauses a0/\(false=true->false=true))/\True)
theorem Z8n (t:Tar) (v:Bool):Zl E Ffw (vc E Ffw 400) 14 [.agg (encF false .tariffs t)] hp0 0 (fun r=>ret E (patch hp0 0 r) r.v (.bool false v))=(
 (decide ((qCN4 t)>(80:Int))=true->false=v)/\(decide ((qCN4 t)>(80:Int))=false->∃(R:DX->Prop),(∃(x:DX),R x/\true=true/\((0:Nat)=(0:Nat)/\(0:Int)=DX.j x/\(0:Int)=(qCN5 x)/\True)/\(qCN6 t)/\True)/\∀(x:DX),R x->(decide ((qCN5 x)<(qCN4 t))=true->(0:Int)<=(qCN5 x)/\(qCN5 x)+(1:Int)<=(qCN4 t)/\∀(x_1:Cls),(Tar.clauses t)[Int.toNat (qCN5 x)]? =some x_1->(decide ((↑(List.length (Cls.when_ x_1)):Int)>(400:Int))=true->false=v)/\(decide ((↑(List.length (Cls.when_ x_1)):Int)>(400:Int))=false->(0:Int)<=(qCN5 x)/\(qCN5 x)+(1:Int)<=(qCN4 t)/\∀(x_2:Cls),(Tar.clauses t)[Int.toNat (qCN5 x)]? =some x_2->(0:Int)<=(qCN5 x)/\(qCN5 x)+(1:Int)<=(qCN4 t)/\∀(x_3:Cls),(Tar.clauses t)[Int.toNat (qCN5 x)]? =some x_3->((62:Int)<=(1:Int)+(↑(61:Nat):Int)/\(1:Int)<=(1:Int)/\(1:Int)<=(61:Int))/\∀(y:Int),y=szW (1:Int) (Ex.mk (Ex.op (Cls.pay x_3)) (Ex.n (Cls.pay x_3)) (Ex.d0 (Cls.pay x_3)) (Ex.d1 (Cls.pay x_3)) (Ex.d2 (Cls.pay x_3)) (Ex.d3 (Cls.pay x_3)) (Ex.l (Cls.pay x_3)))->∃(x_4:DX),R x_4/\x_4.2+(1:Nat)<=x.2/\true=true/\((0:Nat)=(0:Nat)/\wr IntKind.i64 (wr IntKind.i64 (DX.j x+(↑(List.length (Cls.when_ x_2)):Int))+y)=DX.j x_4/\wr IntKind.i64 ((qCN5 x)+(1:Int))=(qCN5 x_4)/\True)/\(qCN6 t)/\True))/\(decide ((qCN5 x)<(qCN4 t))=false->(decide (DX.j x<=(400:Int))=true->true=v)/\(decide (DX.j x<=(400:Int))=false->false=v)))):=by kernel_rfl
structure TtX where
 k:Nat
 r:Nat
 L:List (List Nat)
def Atx:Fr thy->Hp thy->Nat->Ann thy:=fun T h i=>{X:=TtX,fr:=fun x=> [(3,T 3),(9,T 9),(10,T 10),(11,.int false .i64 x.k)],bl:=fun x=> [(bOf (T 3),.rows Th.strs x.L 0)],src:=fun _=> [],md:= [bOf (T 3)],ih:=i,M:=i+30,meas:=fun x=>x.r}
noncomputable def Ftx:Fns thy:=addL (addS F0 44 Z5d) 27 3 Atx E
abbrev qCN7 (a0:List Tok):=(↑(List.length a0):Int)
abbrev qCN8 (a0:TtX):=(↑(TtX.k a0):Int)
abbrev qCN9:=(0:Nat)
abbrev qCNa (a0:List Tok):=(qCN9=qCN9/\Int.toNat (qCN7 a0)=Int.toNat (qCN7 a0)/\Int.toNat (qCN7 a0)=Int.toNat (qCN7 a0))
abbrev qCNb (a0:List Tok) (b0:TtX):=(List.take (Int.toNat (qCN7 a0)) (List.drop qCN9 (TtX.L b0)))
theorem Z8o (l:List Tok) (v:List Nat):Zl E Ftx (vc E Ftx 400) 27 [.psl Th.toks l false] hp0 0 (fun r=>ret E (patch hp0 0 r) r.v (.str false v))=(
 (0:Int)<=(qCN7 l)/\(qCN7 l)<=(qCN7 l)/\(↑(16:Nat):Int)*(qCN7 l)<=(281474976710656:Int)/\∃(R:TtX->Prop),(∃(x:TtX),R x/\true=true/\((qCNa l)/\(l=l/\(false=true->false=true))/\(qCN7 l)=(qCN7 l)/\(0:Int)=(qCN8 x)/\True)/\(List.replicate (Int.toNat (qCN7 l)) (toL (ByteArray.mk #[]))=TtX.L x/\qCN9=qCN9)/\True)/\∀(x:TtX),R x->(decide ((qCN8 x)<(qCN7 l))=true->(0:Int)<=(qCN8 x)/\(qCN8 x)+(1:Int)<=(qCN7 l)/\∀(x_1:Tok),l[Int.toNat (qCN8 x)]? =some x_1->((0:Int)<=(qCN8 x)/\(qCN8 x)+(1:Int)<=(↑(Int.toNat (qCN7 l)):Int))/\qCN9<=qCN9+Int.toNat (qCN8 x)/\qCN9+Int.toNat (qCN8 x)+(1:Nat)<=List.length (TtX.L x)/\∀(x_2:List Nat),(TtX.L x)[qCN9+Int.toNat (qCN8 x)]? =some x_2->∃(x_3:TtX),R x_3/\x_3.2+(1:Nat)<=x.2/\true=true/\((qCNa l)/\(l=l/\(false=true->false=true))/\(qCN7 l)=(qCN7 l)/\wr IntKind.i64 ((qCN8 x)+(1:Int))=(qCN8 x_3)/\True)/\(List.set (TtX.L x) (qCN9+Int.toNat (qCN8 x)) (Tok.text x_1)=TtX.L x_3/\qCN9=qCN9)/\True)/\(decide ((qCN8 x)<(qCN7 l))=false->qCN9+Int.toNat (qCN7 l)<=List.length (TtX.L x)/\(([(32:Nat)]= [(32:Nat)]/\List.length (qCNb l x)<=(1000000000:Nat))/\List.length (Z0 (qCNb l x))<=(1000000000:Nat))/\∀(y:List Nat),y=Z0 (qCNb l x)->y=v)):=by kernel_rfl
mutual
theorem Zgb:∀(n:Int) (x:Ex),1<=szW n x
 |n,.mk _ _ _ _ _ _ l=>by
  rw [szW]
  split
  · decide
  · exact Zpn (n+1) 1 l
theorem Zpn:∀(n a:Int) (l:List Ex),a<=szWL n a l
 |n,a,[]=>by rw [szWL];omega
 |n,a,x::r=>by
  rw [szWL]
  split
  · have:=Zgb n x
    have:=Zpn n (a+szW n x) r
    omega
  · omega
end
mutual
theorem Zpo:∀(n:Int) (x:Ex),n<=61->szW n x<=401+400*(61-n)
 |n,.mk _ _ _ _ _ _ l,hn=>by
  rw [szW]
  split
  · omega
  · have:=Zr1 (n+1) 1 l (by omega) (by omega)
    omega
theorem Zr1:∀(n a:Int) (l:List Ex),n<=61->a<=801+400*(61-n)->szWL n a l<=801+400*(61-n)
 |n,a,[],_,h=>by rw [szWL];omega
 |n,a,x::r,hn,h=>by
  rw [szWL]
  split
  · have:=Zpo n x hn
    exact Zr1 n (a+szW n x) r hn (by omega)
  · omega
end
mutual
theorem Z5a:∀(n:Int) (x:Ex),szW n x<=400->szW n x=(x.sz:Int)
 |n,.mk _ _ _ _ _ _ l,h=>by
  rw [szW] at h⊢
  split at h
  · omega
  · rename_i hq
    rw [if_neg hq,Zzw (n+1) 1 l (by decide) h,Ex.sz]
    omega
theorem Zzw:∀(n a:Int) (l:List Ex),0<=a->szWL n a l<=400->szWL n a l=a+(Ex.szL l:Int)
 |n,a,[],_,_=>by rw [szWL,Ex.szL];omega
 |n,a,x::r,ha,h=>by
  rw [szWL] at h⊢
  split at h
  · rename_i hq
    have h1:=Zgb n x
    have h2:=Zpn n (a+szW n x) r
    have h3:=Z5a n x (by omega)
    rw [if_pos hq,Zzw n (a+szW n x) r (by omega) h,Ex.szL]
    omega
  · rename_i hq
    omega
end
theorem Zmb {n a:Int} {l:List Ex} {k:Nat} {y:Ex} (h:l[k]? =some y):szWL n a (l.drop k)=if a<=400 then szWL n (a+szW n y) (l.drop (k+1)) else a:=by rw [V3 h,szWL]
theorem Z8p:∀(m:Nat) (n:Int) (x:Ex),62<=n+m->1<=n->n<=61->PureC E 20 [exA x,.int false .i64 n] (.int false .i64 (szW n x)):=by
 intro m
 induction m with
 |zero=>intro n x h;omega
 |succ m ih=>
  intro n x hm h1 h61
  have hF:FnsOk E (Fszw m):=Zy E_ok (Zb F0_ok (Yg E_ok (Zc (f:=20) rfl) fun x h=>ih x.2.1 x.1 h.1 h.2.1 h.2.2)) _ _ _
  refine Za E_ok (X7 E_ok F0_ok fun f N c=>(Ziu E_ok hF 400 f N c).1) ?_
  rw [Z3l];delta qCN1 qCN2 qCN3
  simp only [Ym,Z8,Wi,Wj,Wk,beq_iff_eq,bne_iff_ne,beq_eq_false_iff_ne,bne_eq_false_iff_eq,decide_eq_true_eq,decide_eq_false_iff_not,Bool.or_eq_true,Bool.or_eq_false_iff,Bool.not_eq_true',Bool.not_eq_false',Bool.and_eq_true,Bool.and_true,Bool.true_and,Bool.and_eq_false_iff,beq_self_eq_true,Y6,Yx,ne_eq,and_true,true_and,Bool.true_eq_false,Bool.false_eq_true,false_or,or_false,true_implies,imp_self,Int.ofNat_eq_natCast,not_true_eq_false,not_false_eq_true,Decidable.not_not,Ex.eta,forall_eq]
  by_cases h:n>60\/(x.l.length:Int)>400
  · exact ⟨fun b=>b=true,⟨fun _=>rfl,fun h1=>⟨fun _=>rfl,fun h2=>absurd h (by omega)⟩⟩,fun _=>by rw [Z49,if_pos h],fun h=>by simp at h⟩
  · refine ⟨fun b=>b=false,⟨fun h1=>absurd h (by omega),fun _=>⟨fun h2=>absurd h (by omega),fun _=>rfl⟩⟩,fun h=>by simp at h,fun _=> ?_⟩
    rw [Z49,if_neg h]
    refine ⟨fun y=>y.k<=x.l.length/\1<=y.j/\y.j<=801+400*(60-n)/\szWL (n+1) y.j (x.l.drop y.k)=szWL (n+1) 1 x.l/\y.r=x.l.length-y.k,⟨⟨0,x.l.length,[],[],0,0,0,1⟩,⟨(by dsimp only;omega),(by dsimp only;omega),(by dsimp only;omega),rfl,rfl⟩,rfl,rfl⟩,?_⟩
    rintro ⟨k,r,D,H,nn,mm,fz,j⟩ ⟨k1,k2,k3,k4,k5⟩
    simp only at k1 k2 k3 k4 k5⊢
    have hw:wr IntKind.i64 (n+1)=n+1:=wr64 (by omega) (by omega)
    rw [hw]
    refine ⟨fun b=>b=true↔(k<x.l.length/\j<=400),⟨fun h3=>⟨fun h4=>by simp;omega,fun h4=>by simp;omega⟩,fun h3=>by simp;omega⟩,fun hq=> ?_,fun hq=> ?_⟩
    · have hq:=hq.1 rfl
      refine ⟨by omega,by omega,fun z hz=> ?_⟩
      have hz:x.l[k]? =some z:=hz
      have b1:=Zgb (n+1) z
      have b2:=Zpo (n+1) z (by omega)
      rw [Zmb hz,if_pos hq.2] at k4
      refine ⟨⟨by omega,by omega,by omega⟩,⟨k+1,x.l.length-(k+1),[],[],0,0,0,j+szW (n+1) z⟩,⟨(by dsimp only;omega),(by dsimp only;omega),(by dsimp only;omega),k4,rfl⟩,(by dsimp only;omega),wr64 (by omega) (by omega),(wr64 (by omega) (by omega)).trans (by dsimp only;omega)⟩
    · have hq:¬(k<x.l.length/\j<=400):=fun h=>by have:=hq.2 h;simp at this
      rcases Nat.lt_or_ge k x.l.length with hk|hk
      · rw [Zmb (List.getElem?_eq_getElem hk),if_neg (by omega)] at k4
        exact k4
      · rw [W9 hk,szWL] at k4
        exact k4
def Zgc:Int->List Cls->Bool
 |a,[]=>decide (a<=400)
 |a,c::r=>if (c.when_.length:Int)>400 then false else Zgc (a+c.when_.length+szW 1 c.pay) r
def fewT (t:Tar):Bool:=if (t.clauses.length:Int)>80 then false else Zgc 0 t.clauses
theorem Zuv {a:Int} {l:List Cls} {k:Nat} {c:Cls} (h:l[k]? =some c):Zgc a (l.drop k)=if (c.when_.length:Int)>400 then false else Zgc (a+c.when_.length+szW 1 c.pay) (l.drop (k+1)):=by rw [V3 h,Zgc]
theorem Zr2:∀{l:List Cls} {a:Int},0<=a->Zgc a l=true->a<=400/\∀c∈l,c.pay.sz<=400/\c.when_.length<=400
 | [],a,_,h=>by simpa [Zgc] using h
 |c::r,a,ha,h=>by
  rw [Zgc] at h
  split at h
  · cases h
  · have p:=Zgb 1 c.pay
    obtain ⟨h1,h2⟩:=Zr2 (by omega) h
    have h3:=Z5a 1 c.pay (by omega)
    refine ⟨by omega,fun x hx=> ?_⟩
    rcases List.mem_cons.1 hx with rfl|hx
    · exact ⟨by omega,by omega⟩
    · exact h2 x hx
theorem Z8q {t:Tar} (h:fewT t=true):(∀c∈t.clauses,c.pay.sz<=400/\c.when_.length<=400)/\t.clauses.length<=80:=by
 unfold fewT at h
 split at h
 · cases h
 · exact ⟨(Zr2 (by decide) h).2,by omega⟩
theorem Yd3 {t:Tar} (h:fewT t=true):SmT t:=by
 obtain ⟨h1,h2⟩:=Z8q h
 exact ⟨fun c hc=>⟨by have:=(h1 c hc).1;omega,by have:=(h1 c hc).2;omega⟩,by omega⟩
theorem SmT.one {t:Tar} (h:SmT t):SmT1 t:=⟨fun c hc=>⟨by have:=(h.1 c hc).1;omega,(h.1 c hc).2⟩,h.2⟩
theorem Z8r (t:Tar):PureC E 14 [.agg (encF false .tariffs t)] (.bool false (fewT t)):=by
 have hF:FnsOk E Ffw:=Zy E_ok (Zb F0_ok (Yg E_ok (Zc (f:=20) rfl) fun x h=>Z8p 61 x.2.1 x.1 h.1 h.2.1 h.2.2)) _ _ _
 refine Za E_ok (Zh E_ok hF 400) ?_
 rw [Z8n];delta qCN4 qCN5 qCN6
 simp only [Ym,Z8,Wi,Wj,Wk,beq_iff_eq,bne_iff_ne,beq_eq_false_iff_ne,bne_eq_false_iff_eq,decide_eq_true_eq,decide_eq_false_iff_not,Bool.or_eq_true,Bool.or_eq_false_iff,Bool.not_eq_true',Bool.not_eq_false',Bool.and_eq_true,Bool.and_true,Bool.true_and,Bool.and_eq_false_iff,beq_self_eq_true,Y6,Yx,ne_eq,and_true,true_and,Bool.true_eq_false,Bool.false_eq_true,false_or,or_false,true_implies,imp_self,Int.ofNat_eq_natCast,not_true_eq_false,not_false_eq_true,Decidable.not_not,Ex.eta,forall_eq]
 unfold fewT
 refine ⟨fun h=>by rw [if_pos h],fun h=> ?_⟩
 rw [if_neg h]
 refine ⟨fun y=>y.k<=t.clauses.length/\0<=y.j/\y.j<=30000*y.k/\Zgc y.j (t.clauses.drop y.k)=Zgc 0 t.clauses/\y.r=t.clauses.length-y.k,⟨⟨0,t.clauses.length,[],[],0,0,0,0⟩,⟨(by dsimp only;omega),(by dsimp only;omega),(by dsimp only;omega),rfl,rfl⟩,rfl,rfl⟩,?_⟩
 rintro ⟨k,r,D,H,nn,mm,fz,j⟩ ⟨k1,k2,k3,k4,k5⟩
 simp only at k1 k2 k3 k4 k5⊢
 refine And.intro (fun hq=>⟨by omega,by omega,fun c hc=> ?_⟩) (fun hq=> ?_)
 · have hc:t.clauses[k]? =some c:=hc
   rw [Zuv hc] at k4
   refine ⟨fun h2=> ?_,fun h2=>⟨by omega,by omega,fun c2 hc2=> ?_⟩⟩
   · rw [if_pos h2] at k4;exact k4
   · have hc2:t.clauses[k]? =some c2:=hc2
     rw [hc] at hc2;cases hc2
     refine ⟨by omega,by omega,fun c3 hc3=> ?_⟩
     have hc3:t.clauses[k]? =some c3:=hc3
     rw [hc] at hc3;cases hc3
     have b1:=Zgb 1 c.pay
     have b2:=Zpo 1 c.pay (by decide)
     rw [if_neg h2] at k4
     rw [wr64 (n:=j+(c.when_.length:Int)) (by omega) (by omega)]
     exact ⟨⟨by decide,by decide,by decide⟩,⟨k+1,t.clauses.length-(k+1),[],[],0,0,0,j+c.when_.length+szW 1 c.pay⟩,⟨(by dsimp only;omega),(by dsimp only;omega),(by dsimp only;omega),k4,rfl⟩,(by dsimp only;omega),wr64 (by omega) (by omega),(wr64 (by omega) (by omega)).trans (by dsimp only;omega)⟩
 · rw [W9 (by omega),Zgc] at k4
   rw [<-k4]
   exact ⟨fun h=>by simpa using h,fun h=>by simpa using h⟩
theorem Z8s (l:List Tok) (h1:l.length<=1000000000) (h2:(Z0 (l.map Tok.text)).length<=1000000000):PureC E 27 [.psl Th.toks l false] (.str false (Z0 (l.map Tok.text))):=by
 have hF:FnsOk E Ftx:=Zy E_ok (Zb F0_ok Zpt) _ _ _
 refine Za E_ok (Zh E_ok hF 400) ?_
 rw [Z8o];delta qCN7 qCN8 qCN9 qCNa qCNb
 simp only [Ym,Z8,Wi,Wj,Wk,beq_iff_eq,bne_iff_ne,beq_eq_false_iff_ne,bne_eq_false_iff_eq,decide_eq_true_eq,decide_eq_false_iff_not,Bool.or_eq_true,Bool.or_eq_false_iff,Bool.not_eq_true',Bool.not_eq_false',Bool.and_eq_true,Bool.and_true,Bool.true_and,Bool.and_eq_false_iff,beq_self_eq_true,Y6,Yx,ne_eq,and_true,true_and,Bool.true_eq_false,Bool.false_eq_true,false_or,or_false,true_implies,imp_self,Int.ofNat_eq_natCast,not_true_eq_false,not_false_eq_true,Decidable.not_not,Int.toNat_natCast,Nat.zero_add,List.drop_zero,forall_eq]
 refine ⟨by omega,by omega,by omega,fun y=>y.k<=l.length/\y.L=(l.take y.k).map Tok.text++List.replicate (l.length-y.k) []/\y.r=l.length-y.k,⟨⟨0,l.length,List.replicate l.length []⟩,⟨(by dsimp only;omega),rfl,rfl⟩,rfl,rfl⟩,?_⟩
 rintro ⟨k,r,L⟩ ⟨k1,k2,k3⟩
 simp only at k1 k2 k3⊢
 have hL:L.length=l.length:=by rw [k2];simp;omega
 refine And.intro (fun hq=>⟨by omega,by omega,fun z hz=>⟨⟨by omega,by omega⟩,by omega,by omega,fun y hy=> ?_⟩⟩) (fun hq=> ?_)
 · have hq:k<l.length:=by omega
   have hz:l[k]? =some z:=hz
   refine ⟨⟨k+1,l.length-(k+1),L.set k z.text⟩,⟨hq,?_,rfl⟩,(by dsimp only;omega),(wr64 (by omega) (by omega)).trans (by dsimp only;omega),rfl⟩
   have e1:((l.take k).map Tok.text).length=k:=by simp;omega
   have e2:l.length-k=(l.length-(k+1))+1:=by omega
   show L.set k z.text=(l.take (k+1)).map Tok.text++List.replicate (l.length-(k+1)) []
   rw [k2,List.take_add_one,hz,e2,List.replicate_succ,List.set_append_right _ _ (by omega),e1,Nat.sub_self]
   simp
 · have ek:k=l.length:=by omega
   have e:L=l.map Tok.text:=by rw [k2,ek];simp
   rw [List.take_of_length_le (by omega),e]
   refine ⟨by rw [List.length_map];exact Nat.le_refl _,⟨by rw [List.length_map];exact h1,h2⟩,rfl⟩
end
section
open Go
noncomputable def Z57:DcL E (Tar×Unit):= .cons (dR .tariffs) .nil
noncomputable def Ycx:DcL E (Tar×Tar×Unit):= .cons (dR .tariffs) (.cons (dR .tariffs) .nil)
def Z9t:List (SV thy)->Option (SV thy)
 | []=>some (.bool true true)
 |_=>none
noncomputable def Z9u:Sum thy:=sumO Z9t
noncomputable def Sfew:Sum thy:=Zuw E (fun _=>none) 10 Z57 (fun _=>True) (fun x=>fewT x.1) fun y=> .bool false y
noncomputable def Srs:Sum thy:=Zuw E (fun _=>none) 10 Ycx (fun x=>SmT1 x.1) (fun x=>eqE x.1 x.2.1) fun y=> .bool false y
noncomputable def Z9v:Sum thy:=V6 (dA1 dS) (fun _=>True) (fun x=>Yc x.1) fun y=>parV false y
noncomputable def Z9w:Sum thy:=Zuw E (fun _=>none) 10 Z57 (fun x=>SmT x.1) (fun x=>W8 x.1) fun y=> .tup [.str false y.1,.int false .i64 y.2]
noncomputable def Schk:Sum thy:=Zuw E (fun _=>none) 10 Z57 (fun x=>SmT x.1) (fun x=>Yh x.1) fun y=> .int false .i64 y
noncomputable def Ycy:Sum thy:=V6 (dA1 Yb4) (fun x=>x.1.length<=1000000000/\(Z0 (x.1.map Tok.text)).length<=1000000000) (fun x=>Z0 (x.1.map Tok.text)) fun y=> .str false y
theorem SmT.chk {t:Tar} (h:SmT t):PureC E 17 [.agg (encF false .tariffs t)] (.int false .i64 (Yh t)):=
 Zgt t (fun c hc=>⟨by have:=(h.1 c hc).1;omega,by have:=(h.1 c hc).2;omega⟩) (by have:=h.2;omega)
noncomputable def Flw:Fns thy:=Zyu (addS (addS (addS (addS (addS (addS (addS (addS (addS F0 10 Z9u) 14 Sfew) 13 Srs) 19 Srs) 11 Z9v) 15 Z9w) 17 Schk) 25 Zn7) 27 Ycy)
theorem Z0u:SumOk E 10 Z9u:=Ze4 E_ok (Zc rfl) fun args v h=>by
 unfold Z9t at h
 split at h
 · cases h;exact Zyx
 · cases h
theorem Z9x:FnsOk E Flw:=Zlt (Zb (Zb (Zb (Zb (Zb (Zb (Zb (Zb (Zb F0_ok Z0u) (Zcu E_ok (Zc rfl) fun x _=>Z8r x.1)) (Zcu E_ok (Zc rfl) fun x h=>Z81 x.1 x.2.1 h)) (Zcu E_ok (Zc rfl) fun x h=>Z3q x.1 x.2.1 h)) (Yg E_ok (Zc rfl) fun x _=>Zhf x.1)) (Zcu E_ok (Zc rfl) fun x h=>Zr8 x.1 h)) (Zcu E_ok (Zc rfl) fun x h=>SmT.chk h)) Zhe) (Yg E_ok (Zc rfl) fun x h=>Z8s x.1 h.1 h.2))
theorem Z58 {nm:List Nat} {ts:List Tst} {l:List Tok} {e:Int} {c:Cls} {x:PX} (h:pPay nm ts l e= .ok (c,x)):c.pay.sz<=2*l.length:=by
 unfold pPay at h
 split at h
 · rename_i hw
   have hl:=Zm hw
   split at h
   · cases h
   · rename_i y z hx
     have:=Zj1 _ _ _ _ hx
     split at h
     · cases h
     · split at h
       · cases h
         show y.sz<=_
         omega
       · cases h
 · cases h
theorem Zsm {bs:List Cls} {l:List Tok} {e:Int} {c:Cls} {x:PX} (h:Z2 bs l e= .ok (c,x)):c.pay.sz<=2*l.length:=by
 unfold Z2 at h
 split at h
 · cases h
 · rename_i nm y hn
   have h1:=Vr hn
   split at h
   · cases h
   · unfold pAft at h
     split at h
     · cases h
     · rename_i ts z hts
       have h2:=Zn8 hts
       have h3:=Z58 h
       have h4:=Zqy (s:= [119,104,101,110]) (l:=y.1)
       omega
theorem Zvr {M:Nat}:∀{k:Nat} {cs cs':List Cls} {l:List Tok} {e:Int} {x:PX},(∀c∈cs,c.pay.sz<=2*M)->l.length<=M->pCls k cs l e= .ok (cs',x)->∀c∈cs',c.pay.sz<=2*M
 |0,cs,cs',l,e,x,hc,_,h=>by cases h;exact hc
 |k+1,cs,cs',l,e,x,hc,hl,h=>by
  unfold pCls at h
  split at h
  · rename_i hw
    have hwl:=Zm hw
    split at h
    · cases h
    · split at h
      · cases h
      · rename_i c y hcl
        have h1:=Zsm hcl
        have h2:=V2 hcl
        refine Zvr (cs:=cs++ [c]) (fun d hd=> ?_) (by omega) h
        rcases List.mem_append.1 hd with hd|hd
        · exact hc d hd
        · rw [List.mem_singleton.1 hd];omega
  · cases h;exact hc
theorem Z59 {l:List Tok} {e:Int} {t:Tar} {x:PX} (h:pTar l e= .ok (t,x)):∀c∈t.clauses,c.pay.sz<=2*l.length:=by
 unfold pTar at h
 split at h
 · rename_i hw
   have h1:=Zm hw
   split at h
   · cases h
   · rename_i nm y hn
     have h2:=Vr hn
     split at h
     · rename_i hw2
       have h3:=Zm hw2
       split at h
       · cases h
       · rename_i k z hm
         have h4:=V7 hm
         split at h
         · rename_i hw3
           have h5:=Zm hw3
           unfold pEnd at h
           split at h
           · cases h
           · rename_i cs w hcs
             split at h
             · split at h
               · cases h
               · cases h
                 have h6:z.1.length<=y.1.length:=by rw [h4.2.2];simp;omega
                 exact Zvr (M:=l.length) (fun c hc=>by cases hc) (by omega) hcs
             · cases h
         · cases h
     · cases h
 · cases h
theorem Z0v (s:List Nat):SmT (Yc s).1:=by
 have h0:SmT zT:=by
  refine And.intro (fun c hc=> ?_) ?_
  · cases hc
  · decide
 rcases Zm4 s with ⟨_,h⟩|⟨_,er,_,h⟩|⟨_,t,x,h1,h2,h3⟩
 · rw [h];exact h0
 · rw [h];exact h0
 · rw [h3]
   have hl:=Zbk s
   have hc:=(Yf t).1 h2
   have ha:=Zhp hc.2.2.2.2.2
   have hz:=Z59 h1
   exact ⟨fun c hcc=>⟨by have:=hz c hcc;omega,by have:=(ha c hcc).2;omega⟩,by have:=hc.2.2.2.2.1;show t.clauses.length<_;omega⟩
theorem Ycz:SmT1 zT:=by
 refine And.intro (fun c hc=> ?_) ?_
 · cases hc
 · decide
end
section
open Go
def NoC (ws:List (List Nat)):Prop:=∀w∈ws,w≠sClause
theorem Zc4 {a b:List (List Nat)} (h1:NoC a) (h2:NoC b):NoC (a++b):=fun w hw=>(List.mem_append.1 hw).elim (h1 w) (h2 w)
theorem Zg {w:List Nat} {b:List (List Nat)} (h1:w≠sClause) (h2:NoC b):NoC (w::b):=fun x hx=>(List.mem_cons.1 hx).elim (fun e=>e▸h1) (h2 x)
theorem Y8:NoC []:=fun w hw=>by cases hw
theorem Znu:Xc≠sClause:=by decide
theorem Zi0:Z3≠sClause:=by decide
theorem Zi1:Yb≠sClause:=by decide
theorem Z69:Zbh≠sClause:=by decide
theorem Z7a:Zar≠sClause:=by decide
theorem Z2a:W3≠sClause:=by decide
theorem Yba:sMul≠sClause:=by decide
theorem Z7b:Zbp≠sClause:=by decide
theorem Ydg:sIf≠sClause:=by decide
theorem Z4t:sPer≠sClause:=by decide
theorem Ydh:sIs≠sClause:=by decide
theorem Ydi:sIn≠sClause:=by decide
theorem Z7c:Zdw≠sClause:=by decide
theorem Ybb:sAnd≠sClause:=by decide
theorem Z7d:Zch≠sClause:=by decide
theorem Ybc:sPay≠sClause:=by decide
theorem Ybd:sFor≠sClause:=by decide
theorem Zyb:sTariff≠sClause:=by decide
theorem Ydj:sLb≠sClause:=by decide
theorem Zlg {k:WK} {i:Nat} (h:i<k.words.length):k.words.getD i []≠sClause:=by
 have:∀k:WK,∀w∈k.words,w≠sClause:=by intro k;cases k<;>decide
 exact this k _ (Zln h)
theorem Zrc {n:Int} (h0:0<=n) (h1:n<=1099511627776):decN n≠sClause:=by
 rw [Znx h0]
 intro e
 have:=Z4v n.toNat 99 (by rw [e];simp [sClause])
 revert this
 decide
theorem Zyc {s:List Nat} (h:resF s=false):s≠sClause:=by
 rintro rfl
 revert h
 decide
theorem Ydk {a b c d:Int} (h:Uc [a,b,c,d]=true):NoC (txU [a,b,c,d]):=by
 rcases unF h with ⟨_,h2⟩|⟨i,hi,_,h2⟩|⟨j,hj,_,h2⟩|⟨i,hi,j,hj,_,h2⟩
 · rw [h2];exact Y8
 · rw [h2];exact Zg (Zlg (k:= .un) hi) Y8
 · rw [h2];exact Zg Z4t (Zg (Zlg (k:= .un) hj) Y8)
 · rw [h2];exact Zg (Zlg (k:= .un) hi) (Zg Z4t (Zg (Zlg (k:= .un) hj) Y8))
theorem Zyd {op least:Int} {t:List (List Nat)} (h:NoC t):NoC (par op least t):=by
 unfold par
 split
 · exact h
 · exact Zg Znu (Zc4 h (Zg Zi0 Y8))
theorem Z7e:∀{ts:List (List (List Nat))} {ss:List (List Nat)},(∀t∈ts,NoC t)->NoC ss->NoC (txS ts ss)
 | [],_,_,_=>by unfold txS;exact Y8
 |t::r,[],_,_=>by unfold txS;exact Y8
 |t::r,s::ss,h1,h2=>by
  unfold txS
  exact Zc4 (h1 t (by simp)) (Zg (h2 s (by simp)) (Z7e (fun t ht=>h1 t (by simp [ht])) fun w hw=>h2 w (by simp [hw])))
theorem Ydl:∀(x:Ex),Z9 x=true->NoC (txX x):=by
 suffices H:∀(m:Nat) (x:Ex),x.sz<=m->Z9 x=true->NoC (txX x) from fun x=>H _ x (Nat.le_refl _)
 intro m
 induction m with
 |zero=>intro x h;have:=x.sz_pos;omega
 |succ m ih=>
  intro x hm hf
  rw [Zac,Bool.and_eq_true] at hf
  obtain ⟨hh,hl⟩:=hf
  have hkid:∀y∈x.l,NoC (txX y):=fun y hy=>ih y (by have:=Ex.sz_mem hy;omega) (formL_iff.1 hl y hy)
  obtain ⟨op,n,a,b,c,d,l⟩:=x
  simp only [Ex.op,Ex.n,Ex.u,Ex.d0,Ex.d1,Ex.d2,Ex.d3,Ex.l] at hh hkid
  obtain ⟨h1,h2,h3,h4,h5,h6,h7⟩:=Zaq hh
  have hts:∀t∈txL l,NoC t:=by
   intro t ht
   obtain ⟨x,hx,rfl⟩:=Zm0 ht
   exact hkid x hx
  have hget:∀i,NoC ((txL l).getD i []):=by
   intro i
   by_cases hi:i<(txL l).length
   · have:(txL l).getD i []=(txL l)[i]:=by simp [List.getD,hi]
     rw [this]
     exact hts _ (List.getElem_mem hi)
   · have:(txL l).getD i []= []:=by simp [List.getD,hi]
     rw [this]
     exact Y8
  rw [txX]
  unfold txN
  split
  · rename_i q
    subst q
    exact Zg (Zrc h3 h4) (Ydk h6)
  · split
    · rename_i q
      subst q
      have:n<=15:=h4
      exact Zg (Zlg (k:= .at_) (show n.toNat<16 by omega)) Y8
    · split
      · exact Zg Ydg (Zg Znu (Z7e hts (Zg Z69 (Zg Zi1 (Zg Zi1 (Zg Zi0 Y8))))))
      · split
        · refine Zc4 (Zyd (hget 0)) (Zg ?_ (Zyd (hget 1)))
          unfold sgnO
          split
          · exact Z7a
          · split
            · exact Z2a
            · exact Yba
        · exact Zg (Zlg (k:= .ca) (show (op-6).toNat<5 by omega)) (Zg Znu (Z7e hts (Zg Zi1 (Zg Zi0 Y8))))
theorem Ydm {w:Tst} (h:Z5 w=true):NoC (txW w):=by
 obtain ⟨a0,a1,l0,l1,h0,h1⟩:=W7 h
 unfold txW
 refine Zg (Zlg (k:= .at_) (show w.attr.toNat<16 by omega)) ?_
 split
 · exact Zg Ydh (Zg (Zrc l0 l1) Y8)
 · exact Zg Ydi (Zg (Zrc l0 l1) (Zg Z7b (Zg (Zrc h0 h1) Y8)))
theorem Z4u:∀{ws:List Tst} (i:Nat),(∀w∈ws,Z5 w=true)->NoC (txTs i ws)
 | [],_,_=>Y8
 |w::r,i,h=>by
  rw [Zcb]
  refine Zg ?_ (Zc4 (Ydm (h w (by simp))) (Z4u _ fun w hw=>h w (by simp [hw])))
  split
  · exact Z7c
  · exact Ybb
def txC1 (c:Cls):List (List Nat):=c.name::(txTs 0 c.when_++sPay::(txX c.pay++ [Zch]))
theorem Ztr (c:Cls):txC c=sClause::txC1 c:=rfl
theorem Ydn {c:Cls} (h:X8 c=true) (hr:resF c.name=false):NoC (txC1 c):=by
 obtain ⟨k1,k2,k3⟩:=Xy h
 exact Zg (Zyc hr) (Zc4 (Z4u _ k3) (Zg Ybc (Zc4 (Ydl _ k2) (Zg Z7d Y8))))
theorem Zrd:∀{cs:List Cls} {s:List (List Nat)},CsOk s cs->∀(j:Nat) (w:List Nat),(txCs cs)[j]? =some w->(w=sClause↔∃q,q<cs.length/\j=(txCs (cs.take q)).length)
 | [],_,_,j,w,h=>by cases h
 |c::r,s,h,j,w,hw=>by
  rw [Xi] at h
  rw [Ya] at hw
  have hT:=Ydn h.1 h.2.1
  by_cases hj:j<(txC c).length
  · rw [List.getElem?_append_left hj,Ztr] at hw
    cases j with
    |zero=>
     cases hw
     exact ⟨fun _=>⟨0,by simp,rfl⟩,fun _=>rfl⟩
    |succ j=>
     have hw:(txC1 c)[j]? =some w:=hw
     refine ⟨fun e=>absurd e (hT w (List.mem_of_getElem? hw)),?_⟩
     rintro ⟨q,_,hq⟩
     cases q with
     |zero=>simp [txCs] at hq
     |succ q=>
      rw [List.take_succ_cons,Ya,List.length_append] at hq
      omega
  · rw [List.getElem?_append_right (by omega)] at hw
    rw [Zrd h.2.2.2.2.2 _ w hw]
    constructor
    · rintro ⟨q,h1,h2⟩
      refine ⟨q+1,by simpa using h1,?_⟩
      rw [List.take_succ_cons,Ya,List.length_append]
      omega
    · rintro ⟨q,h1,h2⟩
      cases q with
      |zero=>
       have:(txC c).length=(txC1 c).length+1:=by rw [Ztr,List.length_cons]
       simp [txCs] at h2
       omega
      |succ q=>
       refine ⟨q,by simpa using h1,?_⟩
       rw [List.take_succ_cons,Ya,List.length_append] at h2
       omega
def hdW (t:Tar):List (List Nat):= [sTariff,t.name,sFor,WK.ki.words.getD (t.for_-1).toNat [],sLb]
theorem Zd9 (t:Tar):Zw t=hdW t++(txCs t.clauses++ [sRb]):=rfl
def mkP (t:Tar) (q:Nat):Nat:=5+(txCs (t.clauses.take q)).length
theorem Zre {t:Tar} {q q':Nat} (h:q<q') (hq:q'<=t.clauses.length):mkP t q<mkP t q':=by
 unfold mkP
 have e:t.clauses.take q'=t.clauses.take q++(t.clauses.take q').drop q:=by
  have:=(List.take_append_drop q (t.clauses.take q')).symm
  rw [List.take_take,Nat.min_eq_left (by omega)] at this
  exact this
 have hne:(t.clauses.take q').drop q≠ []:=by
  intro e2
  have:=congrArg List.length e2
  simp at this
  omega
 obtain ⟨c,r,e3⟩:=List.exists_cons_of_ne_nil hne
 have ha:∀a b,txCs (a++b)=txCs a++txCs b:=by
  intro a b
  induction a with
  |nil=>rfl
  |cons x a ih=>rw [List.cons_append,Ya,Ya,ih,List.append_assoc]
 rw [e,ha,e3,Ya,Ztr]
 simp
theorem Zye (t:Tar):mkP t t.clauses.length+1=(Zw t).length:=by
 unfold mkP
 rw [List.take_length,Zd9]
 simp [hdW]
 omega
theorem Ydo {t:Tar} (h:Yh t=0) {j:Nat} {w:List Nat} (hw:(Zw t)[j]? =some w):(w=sClause\/j+1=(Zw t).length)↔∃q,q<=t.clauses.length/\mkP t q=j:=by
 obtain ⟨h1,h2,h3,h4,h5,h6⟩:=(Yf t).1 h
 have hH:NoC (hdW t):=Zg Zyb (Zg (Zyc h4) (Zg Ybd (Zg (Zlg (k:= .ki) (show (t.for_-1).toNat<6 by omega)) (Zg Ydj Y8))))
 have h5':(hdW t).length=5:=rfl
 have hall:=Zye t
 have hjl:j<(Zw t).length:=(List.getElem?_eq_some_iff.1 hw).1
 have hc:(txCs t.clauses).length+5=mkP t t.clauses.length:=by unfold mkP;rw [List.take_length];omega
 rw [Zd9] at hw
 by_cases hj:j<5
 · rw [List.getElem?_append_left (by omega)] at hw
   refine ⟨fun e=> ?_,?_⟩
   · rcases e with e|e
     · exact absurd e (hH w (List.mem_of_getElem? hw))
     · omega
   · rintro ⟨q,_,hq⟩
     unfold mkP at hq
     omega
 · rw [List.getElem?_append_right (by omega),h5'] at hw
   by_cases hj2:j-5<(txCs t.clauses).length
   · rw [List.getElem?_append_left hj2] at hw
     have hm:=Zrd h6 _ _ hw
     constructor
     · rintro (e|e)
       · obtain ⟨q,q1,q2⟩:=hm.1 e
         clear hm
         exact ⟨q,by omega,by unfold mkP;omega⟩
       · omega
     · rintro ⟨q,q1,q2⟩
       have e2:j-5=(txCs (t.clauses.take q)).length:=by clear hm;unfold mkP at q2;omega
       refine .inl (hm.2 ⟨q,?_,e2⟩)
       clear hm
       rcases Nat.lt_or_ge q t.clauses.length with h|h
       · exact h
       · have:q=t.clauses.length:=by omega
         subst this
         omega
   · exact ⟨fun _=>⟨t.clauses.length,Nat.le_refl _,by omega⟩,fun _=> .inr (by omega)⟩
theorem Xf:∀{a b:List (List Nat)},b≠ []->Z0 (a++b)=Z1 a++Z0 b
 | [],b,h=>rfl
 |w::a,b,h=>by
  rw [List.cons_append,X2 (by simp [h]),Xf h,Xv]
  simp
theorem Zg7 {t:Tar} (h:Yh t=0):∀d∈t.clauses,Xn d.name=true:=by
 obtain ⟨h1,h2,h3,h4,h5,h6⟩:=(Yf t).1 h
 have hall:∀{cs:List Cls} {s:List (List Nat)},CsOk s cs->∀c∈cs,Xn c.name=true:=by
  intro cs
  induction cs with
  |nil=>intro s _ c hc;cases hc
  |cons a r ih=>
   intro s hs c hc
   rw [Xi] at hs
   rcases List.mem_cons.1 hc with rfl|hc
   · exact (Xy hs.1).1
   · exact ih hs.2.2.2.2.2 c hc
 exact hall h6
theorem CsOk.sub:∀{cs:List Cls} {s s':List (List Nat)},(∀a,a∈s'->a∈s)->CsOk s cs->CsOk s' cs
 | [],_,_,_,_=>trivial
 |c::r,s,s',h,⟨h1,h2,h3,h4,h5,h6⟩=>⟨h1,h2,fun k=>h3 (h _ k),h4,h5,CsOk.sub (fun a ha=>by
  rcases List.mem_cons.1 ha with e|e
  · rw [e];simp
  · exact List.mem_cons.2 (.inr (h a e))) h6⟩
def Zlh (t:Tar) (k:Nat):Tar:=⟨t.name,t.for_,t.clauses.take k++t.clauses.drop (k+1)⟩
theorem Zi2 {α:Type} {l:List α} {k:Nat} {c:α} (h:l[k]? =some c):l=l.take k++c::l.drop (k+1):=by
 have hk:=(List.getElem?_eq_some_iff.1 h).1
 have e:=(List.getElem?_eq_some_iff.1 h).2
 have:=(List.take_append_drop k l).symm
 rw [List.drop_eq_getElem_cons hk,e] at this
 exact this
theorem Zea:∀(a b:List Cls),txCs (a++b)=txCs a++txCs b
 | [],b=>rfl
 |x::a,b=>by rw [List.cons_append,Ya,Ya,Zea a b,List.append_assoc]
theorem Zts {t:Tar} (h:Yh t=0) {k:Nat} {c:Cls} (hk:t.clauses[k]? =some c):Yh (Zlh t k)=0:=by
 obtain ⟨h1,h2,h3,h4,h5,h6⟩:=(Yf t).1 h
 refine (Yf _).2 ⟨h1,h2,h3,h4,?_,?_⟩
 · have:=congrArg List.length (Zi2 hk)
   rw [List.length_append,List.length_cons] at this
   show (t.clauses.take k++t.clauses.drop (k+1)).length<=64
   rw [List.length_append]
   omega
 · rw [Zi2 hk] at h6
   rw [Zbt,Xi] at h6
   show CsOk [] (t.clauses.take k++t.clauses.drop (k+1))
   rw [Zbt]
   exact ⟨h6.1,CsOk.sub (fun a ha=>by simp at ha⊢;exact .inr ha) h6.2.2.2.2.2.2⟩
def preC (t:Tar) (k:Nat):List (List Nat):=hdW t++txCs (t.clauses.take k)
def Uf (t:Tar) (k:Nat):List (List Nat):=txCs (t.clauses.drop (k+1))++ [sRb]
theorem U3 {t:Tar} {k:Nat} {c:Cls} (hk:t.clauses[k]? =some c):Zw t=preC t k++(txC c++Uf t k):=by
 rw [Zd9,preC,Uf]
 conv=>lhs;rw [Zi2 hk]
 rw [Zea,Ya]
 simp
theorem Ztt (t:Tar) (k:Nat):Zw (Zlh t k)=preC t k++Uf t k:=by
 rw [Zd9,preC,Uf]
 show hdW t++(txCs (t.clauses.take k++t.clauses.drop (k+1))++ [sRb])=_
 rw [Zea]
 simp
theorem Zrf (t:Tar) (k:Nat):(preC t k).length=mkP t k:=by
 unfold preC mkP
 rw [List.length_append]
 rfl
theorem Ztu (a:List Cls) (c:Cls):txCs (a++ [c])=txCs a++txC c:=by
 rw [Zea,Ya]
 show txCs a++(txC c++ [])=_
 rw [List.append_nil]
theorem Zyf {t:Tar} {k:Nat} {c:Cls} (hk:t.clauses[k]? =some c):(preC t k++txC c).length=mkP t (k+1):=by
 unfold mkP
 rw [List.take_add_one,hk,List.length_append,Zrf]
 show mkP t k+_=5+(txCs (t.clauses.take k++ [c])).length
 rw [Ztu,List.length_append,mkP]
 omega
theorem Zb9 (t:Tar) (k:Nat):Uf t k≠ []:=by simp [Uf]
theorem Ybe {t:Tar} {k:Nat} {c:Cls} (hk:t.clauses[k]? =some c):Z0 (Zw t)=Z1 (preC t k)++(Z1 (txC c)++Z0 (Uf t k)):=by
 rw [U3 hk,Xf (by simp [Zb9]),Xf (Zb9 t k)]
theorem Ztv {t:Tar} (h:Yh t=0) (hs:(Z0 (Zw t)).length<=2000) {k:Nat} {c:Cls} (hk:t.clauses[k]? =some c):Yc (Z1 (preC t k)++Z0 (Uf t k))=(Zlh t k,0,0):=by
 have e:Z1 (preC t k)++Z0 (Uf t k)=Z0 (Zw (Zlh t k)):=by rw [Ztt,Xf (Zb9 t k)]
 rw [e]
 refine Zm2 (Zts h hk) ?_
 rw [<-e]
 rw [Ybe hk] at hs
 simp only [List.length_append] at hs⊢
 omega
theorem Zca {e:Int} {r:List Tok}:∀(cs bs:List Cls) (j:Nat),CsOk (bs.map Cls.name) cs->bs.length+cs.length<=64->
 pCls (cs.length+j) bs (TS (txCs cs)++r) e=pCls j (bs++cs) r e
 | [],bs,j,_,_=>by
  have e1:TS (txCs [])++r=r:=rfl
  rw [e1,List.append_nil,List.length_nil,Nat.zero_add]
 |c::cs,bs,j,h,hl=>by
  obtain ⟨h1,h2,h3,h4,h5,h6⟩:=h
  have e1:TS (txCs (c::cs))++r=tkS sClause::(TS (c.name::(txTs 0 c.when_++sPay::(txX c.pay++ [Zch])))++(TS (txCs cs)++r)):=by
   rw [Ya]
   unfold txC
   rw [Zhl,Zdf,List.append_assoc,List.cons_append]
  have e2:(c::cs).length+j=(cs.length+j)+1:=by rw [List.length_cons];omega
  rw [e1,e2]
  rw [pCls]
  rw [if_pos (show isW [99,108,97,117,115,101] (tkS sClause::_)=true from rfl),if_neg (by simp at hl;omega),List.tail_cons,Zfq h1 h2 (any_name.2 h3) h4 h5]
  dsimp only
  rw [Zca cs (bs++ [c]) j (CsOk.congr (fun a=>by simp [or_comm]) h6) (by simp at hl⊢;omega)]
  rw [List.append_assoc]
  rfl
def spT (s:List Nat):Tok:=⟨1,s,0,77777⟩
theorem Zyg {t:Tar} (h:Yh t=0) {i k:Nat} {d:Cls} (hi:t.clauses[i]? =some d) (hik:i<k) (hk:k<t.clauses.length) (R:List Tok):pTar (TS (preC t k)++tkS sClause::spT d.name::R) 0= .error (77777,161):=by
 obtain ⟨h1,h2,h3,h4,h5,h6⟩:=(Yf t).1 h
 have e1:TS (preC t k)++tkS sClause::spT d.name::R=tkS sTariff::tkS t.name::tkS sFor::tkS (WK.ki.words.getD (t.for_-1).toNat [])::tkS sLb::(TS (txCs (t.clauses.take k))++tkS sClause::spT d.name::R):=by
  unfold preC hdW
  simp
 have hkk:(t.for_-1).toNat<WK.ki.words.length:=by show (t.for_-1).toNat<6;omega
 have hall:∀{cs:List Cls} {s:List (List Nat)},CsOk s cs->∀c∈cs,Xn c.name=true/\resF c.name=false:=by
  intro cs
  induction cs with
  |nil=>intro s _ c hc;cases hc
  |cons a r ih=>
   intro s hs c hc
   rw [Xi] at hs
   rcases List.mem_cons.1 hc with rfl|hc
   · exact ⟨(Xy hs.1).1,hs.2.1⟩
   · exact ih hs.2.2.2.2.2 c hc
 obtain ⟨w1,w2⟩:=hall h6 d (List.mem_of_getElem? hi)
 rw [e1]
 unfold pTar
 rw [if_pos (show isW [116,97,114,105,102,102] (tkS sTariff::_)=true from rfl),List.tail_cons,Zfp h1 h4]
 dsimp only
 rw [if_pos (show isW [102,111,114] (tkS sFor::_)=true from rfl),List.tail_cons]
 unfold Yk
 rw [Zce hkk,if_pos (by omega)]
 dsimp only
 rw [List.tail_cons,if_pos (show isW [123] (tkS sLb::_)=true from rfl),List.tail_cons]
 have hlen:∀cs:List Cls,cs.length<=(txCs cs).length:=by
  intro cs
  induction cs with
  |nil=>exact Nat.le_refl _
  |cons c r ih=>
   rw [Ya]
   unfold txC
   simp
   omega
 have htk:(t.clauses.take k).length=k:=by rw [List.length_take];omega
 obtain ⟨j,hj⟩:∃j,(TS (txCs (t.clauses.take k))++tkS sClause::spT d.name::R).length+1=(t.clauses.take k).length+(j+1):=by
  refine ⟨(TS (txCs (t.clauses.take k))++tkS sClause::spT d.name::R).length-k,?_⟩
  have:=hlen (t.clauses.take k)
  rw [htk] at this⊢
  simp only [List.length_append,List.length_cons,List.length_map,TS] at this⊢
  omega
 have h6':CsOk (([]:List Cls).map Cls.name) (t.clauses.take k):=by
  have:=(List.take_append_drop k t.clauses).symm
  rw [this,Zbt] at h6
  exact h6.1
 rw [hj,Zca (t.clauses.take k) [] (j+1) h6' (by rw [htk];simp;omega),List.nil_append,pCls]
 rw [if_pos (show isW [99,108,97,117,115,101] (tkS sClause::_)=true from rfl),if_neg (by rw [htk];omega),List.tail_cons]
 have hn:Vt (spT d.name::R) 0= .ok (d.name,R,0,()):=by
  show (if (1:Int)=1 then (if d.name∈resW then (.error (77777,161):PR (List Nat)) else .ok (d.name,R,0,())) else .error (77777,160))=_
  rw [if_pos rfl,if_neg (of_decide_eq_false w2)]
 have hany:(t.clauses.take k).any (fun b=>b.name==d.name)=true:=by
  rw [List.any_eq_true]
  refine ⟨d,?_,beq_self_eq_true _⟩
  have:(t.clauses.take k)[i]? =some d:=by rw [List.getElem?_take,if_pos hik,hi]
  exact List.mem_of_getElem? this
 have hc:Z2 (t.clauses.take k) (spT d.name::R) 0= .error (77777,161):=by
  unfold Z2
  rw [hn]
  dsimp only
  rw [if_pos hany]
  rfl
 rw [hc]
 rfl
theorem Zfo:∀(a b:List (List Nat)),Z1 (a++b)=Z1 a++Z1 b
 | [],b=>rfl
 |w::a,b=>by rw [List.cons_append,Xv,Xv,Zfo a b];simp
theorem Znv {t:Tar} (h:Yh t=0) {i k:Nat} {c d:Cls} (hi:t.clauses[i]? =some d) (hik:i<k) (hk:t.clauses[k]? =some c) (hs:(Z0 (Zw t)).length<=1968) {R:List (List Nat)} (hR:txC1 c++Uf t k=c.name::R):
 Yc (Z1 (preC t k)++Z0 (sClause::d.name::R))=(zT,((Z1 (preC t k)).length:Int)+7,161):=by
 have hw:=Zd1 h
 rw [U3 hk,Ztr] at hw
 have hall:=Zg7 h
 have e0:preC t k++(sClause::txC1 c++Uf t k)=preC t k++(sClause::c.name::R):=by rw [List.cons_append,hR]
 rw [e0] at hw
 have hwd:TokW d.name:=U4 (hall d (List.mem_of_getElem? hi))
 have hw2:AllW (preC t k++(sClause::d.name::R)):=fun w hw'=>by
  rcases List.mem_append.1 hw' with q|q
  · exact hw w (List.mem_append.2 (.inl q))
  · rcases List.mem_cons.1 q with q|q
    · exact hw w (by rw [q];simp)
    · rcases List.mem_cons.1 q with q|q
      · rw [q];exact hwd
      · exact hw w (by simp [q])
 have e1:Z1 (preC t k)++Z0 (sClause::d.name::R)=Z0 (preC t k++(sClause::d.name::R)):=(Xf (by simp)).symm
 have hRn:R≠ []:=by
  rintro rfl
  have:=congrArg List.length hR
  simp [txC1,Uf] at this
 have hlen:(Z0 (preC t k++(sClause::d.name::R))).length<=2000:=by
  have l1:=Xf (a:=preC t k) (b:=sClause::d.name::R) (by simp)
  have l2:Z0 (Zw t)=Z1 (preC t k)++Z0 (sClause::c.name::R):=by
   rw [U3 hk,Ztr,e0,Xf (by simp)]
  rw [l2] at hs
  rw [l1]
  have:=hwd.len
  rw [X2 (by simp),X2 hRn] at hs⊢
  simp only [List.length_append,List.length_cons] at hs⊢
  omega
 rw [e1,Zql (Zja 0 hw2) hlen]
 have hE:=Zyg h hi hik ((List.getElem?_eq_some_iff.1 hk).1) (TS R)
 obtain ⟨j,c0,g1,g2,g3⟩:=(Zw7 _ _).2 _ hE
 have gc:c0=161:=(congrArg Prod.snd g1).symm
 have gj:hdT 0 ((TS (preC t k)++tkS sClause::spT d.name::TS R).drop j)=77777:=(congrArg Prod.fst g1).symm
 have hjj:j=(preC t k).length+1:=by
  have at0:∀ws:List (List Nat),∀x∈TS ws,x.at_=0:=by
   intro ws x hx
   obtain ⟨w,_,rfl⟩:=List.mem_map.1 hx
   rfl
  cases hq:(TS (preC t k)++tkS sClause::spT d.name::TS R).drop j with
  |nil=>rw [hq] at gj;cases gj
  |cons x y=>
   rw [hq] at gj
   have hx:(TS (preC t k)++tkS sClause::spT d.name::TS R)[j]? =some x:=by
    have:=congrArg (fun l=>l[0]?) hq
    simpa using this
   have hxa:x.at_=77777:=gj
   have hTl:(TS (preC t k)).length=(preC t k).length:=by simp [TS]
   rcases Nat.lt_trichotomy j ((preC t k).length+1) with q|q|q
   · exfalso
     rcases Nat.lt_or_ge j (preC t k).length with q2|q2
     · rw [List.getElem?_append_left (by omega)] at hx
       have:=at0 _ x (List.mem_of_getElem? hx)
       omega
     · have:j=(TS (preC t k)).length:=by omega
       rw [this,List.getElem?_append_right (Nat.le_refl _),Nat.sub_self] at hx
       cases hx
       cases hxa
   · exact q
   · exfalso
     obtain ⟨m,rfl⟩:∃m,j=(TS (preC t k)).length+(m+2):=⟨j-(preC t k).length-2,by omega⟩
     rw [List.getElem?_append_right (by omega)] at hx
     have e3:(TS (preC t k)).length+(m+2)-(TS (preC t k)).length=m+2:=by omega
     rw [e3] at hx
     have hx:(TS R)[m]? =some x:=hx
     have:=at0 _ x (List.mem_of_getElem? hx)
     omega
 have hmap:(tkA 0 (preC t k++(sClause::d.name::R))).map sT=(TS (preC t k)++tkS sClause::spT d.name::TS R).map sT:=by
  rw [Zyt]
  have e4:∀ws:List (List Nat),(TS ws).map sT=ws.map tkS:=fun ws=>by rw [Yag]
  rw [List.map_append,List.map_append,e4,List.map_cons,List.map_cons,List.map_cons,List.map_cons,e4]
  have e5:sT (spT d.name)=tkS d.name:=by rw [Zed (hall d (List.mem_of_getElem? hi))];rfl
  rw [e5]
  rfl
 rw [g3 _ _ hmap,gc]
 show (zT,_,_)=_
 have hl2:(preC t k).length+1<(tkA 0 (preC t k++(sClause::d.name::R))).length:=by
  rw [Zn3];simp
 obtain ⟨x,hx⟩:∃x,(tkA 0 (preC t k++(sClause::d.name::R)))[(preC t k).length+1]? =some x:=⟨_,List.getElem?_eq_getElem hl2⟩
 have hxa:=Ze8 _ _ _ _ hx
 have e6:(preC t k++(sClause::d.name::R)).take ((preC t k).length+1)=preC t k++ [sClause]:=by
  rw [List.take_append,Nat.add_sub_cancel_left,List.take_of_length_le (Nat.le_succ _)]
  rfl
 rw [e6,Zfo,List.length_append] at hxa
 have e7:(Z1 [sClause]).length=7:=rfl
 have e8:hdT ((Z0 (preC t k++(sClause::d.name::R))).length:Int) ((tkA 0 (preC t k++(sClause::d.name::R))).drop j)=x.at_:=by
  rw [hjj,List.drop_eq_getElem_cons hl2,(List.getElem?_eq_some_iff.1 hx).2]
  rfl
 rw [e8,hxa,e7]
 simp
end
end Go.Proofs.YtbepgmadijomjaaGreatDoor
