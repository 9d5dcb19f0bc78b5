/- Merged texts: TpIa, TpIb, TcL, TcK. -/
import Derived.Test.YtpmkapclhlmbbaaGreatDoorMe
namespace Go.Proofs.YtpmkapclhlmbbaaGreatDoor
set_option linter.unusedVariables false
set_option linter.unusedSimpArgs false
set_option linter.unnecessarySimpa false
set_option maxRecDepth 100000
section
open Go
def ndK (u:Int) (k:Res thy->Prop):List Int->Prop
 | []=>True
 |j::r=>((Lib.nDigits u.toNat:Int)=j->k (quiet [] (.int true .i64 j)))/\ndK u k r
noncomputable def Snd:Sum thy:=fun args _ _ k=>
 match args with
 | [.int _ .u64 u]=>(1<=u/\u<10000000000000)/\ndK u k [1,2,3,4,5,6,7,8,9,10,11,12,13]
 |_=>False
noncomputable def Z1n:Sum thy:=Zcc (dA1 dN) (fun x=>0<=x.1/\x.1<100) (fun x=>(Lib.itoa x.1).map UInt8.toNat) fun y=> .str false y
noncomputable def Fit:Fns thy:=addS (addS F0 177 Snd) 176 Z1n
def smT:List Nat:=
 toL (ByteArray.mk (List.toArray (List.append (List.append [(48:UInt8),(48:UInt8),(48:UInt8),(49:UInt8),(48:UInt8),(50:UInt8),(48:UInt8),(51:UInt8),(48:
 UInt8),(52:UInt8),(48:UInt8),(53:UInt8),(48:UInt8),(54:UInt8),(48:UInt8),(55:UInt8),(48:UInt8),(56:UInt8),(48:UInt8),(57:UInt8),(49:UInt8),(48
 :UInt8),(49:UInt8),(49:UInt8),(49:UInt8),(50:UInt8),(49:UInt8),(51:UInt8),(49:UInt8),(52:UInt8),(49:UInt8),(53:UInt8),(49:UInt8),(54:UInt8),
 (49:UInt8),(55:UInt8),(49:UInt8),(56:UInt8),(49:UInt8),(57:UInt8),(50:UInt8),(48:UInt8),(50:UInt8),(49:UInt8),(50:UInt8),(50:UInt8),(50:
 UInt8),(51:UInt8),(50:UInt8),(52:UInt8)] [(50:UInt8),(53:UInt8),(50:UInt8),(54:UInt8),(50:UInt8),(55:UInt8),(50:UInt8),(56:UInt8),(50:UInt8),(57
 :UInt8),(51:UInt8),(48:UInt8),(51:UInt8),(49:UInt8),(51:UInt8),(50:UInt8),(51:UInt8),(51:UInt8),(51:UInt8),(52:UInt8),(51:UInt8),(53:UInt8),
 (51:UInt8),(54:UInt8),(51:UInt8),(55:UInt8),(51:UInt8),(56:UInt8),(51:UInt8),(57:UInt8),(52:UInt8),(48:UInt8),(52:UInt8),(49:UInt8),(52:
 UInt8),(50:UInt8),(52:UInt8),(51:UInt8),(52:UInt8),(52:UInt8),(52:UInt8),(53:UInt8),(52:UInt8),(54:UInt8),(52:UInt8),(55:UInt8),(52:UInt8),(56
 :UInt8),(52:UInt8),(57:UInt8)]) (List.append [(53:UInt8),(48:UInt8),(53:UInt8),(49:UInt8),(53:UInt8),(50:UInt8),(53:UInt8),(51:UInt8),(53:UInt8),
 (52:UInt8),(53:UInt8),(53:UInt8),(53:UInt8),(54:UInt8),(53:UInt8),(55:UInt8),(53:UInt8),(56:UInt8),(53:UInt8),(57:UInt8),(54:UInt8),(48:
 UInt8),(54:UInt8),(49:UInt8),(54:UInt8),(50:UInt8),(54:UInt8),(51:UInt8),(54:UInt8),(52:UInt8),(54:UInt8),(53:UInt8),(54:UInt8),(54:UInt8),(54
 :UInt8),(55:UInt8),(54:UInt8),(56:UInt8),(54:UInt8),(57:UInt8),(55:UInt8),(48:UInt8),(55:UInt8),(49:UInt8),(55:UInt8),(50:UInt8),(55:UInt8),
 (51:UInt8),(55:UInt8),(52:UInt8)] [(55:UInt8),(53:UInt8),(55:UInt8),(54:UInt8),(55:UInt8),(55:UInt8),(55:UInt8),(56:UInt8),(55:UInt8),(57:
 UInt8),(56:UInt8),(48:UInt8),(56:UInt8),(49:UInt8),(56:UInt8),(50:UInt8),(56:UInt8),(51:UInt8),(56:UInt8),(52:UInt8),(56:UInt8),(53:UInt8),(56
 :UInt8),(54:UInt8),(56:UInt8),(55:UInt8),(56:UInt8),(56:UInt8),(56:UInt8),(57:UInt8),(57:UInt8),(48:UInt8),(57:UInt8),(49:UInt8),(57:UInt8),
 (50:UInt8),(57:UInt8),(51:UInt8),(57:UInt8),(52:UInt8),(57:UInt8),(53:UInt8),(57:UInt8),(54:UInt8),(57:UInt8),(55:UInt8),(57:UInt8),(56:
 UInt8),(57:UInt8),(57:UInt8)]))))
abbrev qCQo:=(0:Int)
abbrev qCQ3 (a0:Int):=(wr IntKind.u64 (qCQo-wr IntKind.u64 a0))
abbrev Zl6:=(100000000:Int)
abbrev qCQ1 (a0:Int):=(wr IntKind.u32 (Int.tmod (qCQ3 a0) Zl6))
abbrev qCQ2 (a0:Int):=(wr IntKind.u32 (Int.tmod (wr IntKind.u64 a0) Zl6))
abbrev qCQ4:=(10000:Int)
abbrev qCQ5:=(↑(List.length smT):Int)
abbrev qCQ6:=(100:Int)
abbrev qCQ7 (a0:Int):=(wr IntKind.u32 (wr IntKind.u64 (Int.tdiv (wr IntKind.u64 a0) Zl6)))
abbrev qCQ8:=(256:Nat)
abbrev qCQc:=(2:Int)
abbrev qCQ9 (a0:Int):=(wr IntKind.u32 (Int.tdiv (wr IntKind.u32 (Int.tdiv (qCQ1 a0) qCQ4)) qCQ6)*qCQc)
abbrev qCQa (a0:Int):=(wr IntKind.u32 (Int.tdiv (wr IntKind.u32 (Int.tdiv (qCQ2 a0) qCQ4)) qCQ6)*qCQc)
abbrev qCQb (a0:Int):=(wr IntKind.u32 (wr IntKind.u64 (Int.tdiv (qCQ3 a0) Zl6)))
abbrev qCQd:=(1:Int)
abbrev qCQe (a0:Int):=(wr IntKind.u32 (wr IntKind.u64 a0))
abbrev qCQf (a0:Int):=(wr IntKind.u32 (Int.tdiv (Int.tmod (qCQ1 a0) qCQ4) qCQ6)*qCQc)
abbrev qCQg (a0:Int):=(Int.tmod (wr IntKind.u32 (Int.tdiv (qCQ1 a0) qCQ4)) qCQ6*qCQc)
abbrev qCQh (a0:Int):=(wr IntKind.u32 (Int.tdiv (Int.tmod (qCQ2 a0) qCQ4) qCQ6)*qCQc)
abbrev qCQi (a0:Int):=(Int.tmod (wr IntKind.u32 (Int.tdiv (qCQ2 a0) qCQ4)) qCQ6*qCQc)
abbrev Zjn (a0:Int):=(wr IntKind.u32 (qCQ3 a0))
abbrev qCQj (a0:Int):=(wr IntKind.u32 (Int.tdiv (Int.tmod (Zjn a0) qCQ4) qCQ6)*qCQc)
abbrev qCQk (a0:Int):=(Int.tmod (Int.tmod (qCQ1 a0) qCQ4) qCQ6*qCQc)
abbrev qCQl (a0:Int):=(Int.tmod (Int.tmod (qCQ2 a0) qCQ4) qCQ6*qCQc)
abbrev qCQm (a0:Int):=(Int.tmod (Int.tmod (Zjn a0) qCQ4) qCQ6*qCQc)
abbrev qCQn (a0:Int):=(wr IntKind.u32 (Int.tdiv (Int.tmod (qCQe a0) qCQ4) qCQ6)*qCQc)
abbrev qCQp (a0:Int):=(Int.tmod (Int.tmod (qCQe a0) qCQ4) qCQ6*qCQc)
abbrev qCQq (a0:Int):=(Int.tmod (wr IntKind.u32 (Int.tdiv (Zjn a0) qCQ4)) qCQ6*qCQc)
abbrev qCQr (a0:Nat):=(↑a0:Int)
abbrev qCQs (a0:Int):=(wr IntKind.u32 (Int.tdiv (Int.tmod (qCQb a0) qCQ4) qCQ6)*qCQc)
abbrev qCQt (a0:Int):=(Int.tmod (wr IntKind.u32 (Int.tdiv (qCQe a0) qCQ4)) qCQ6*qCQc)
abbrev qCQu (a0:Int):=(wr IntKind.u32 (Int.tdiv (Int.tmod (qCQ7 a0) qCQ4) qCQ6)*qCQc)
abbrev qCQv (a0:Int):=(↑(Lib.nDigits (Int.toNat (wr IntKind.u64 a0))):Int)
abbrev qCQw (a0:Int):=(Int.tmod (Zjn a0) qCQ6*qCQc)
abbrev qCQx (a0:Int):=(Int.tmod (Int.tmod (qCQb a0) qCQ4) qCQ6*qCQc)
abbrev qCQy (a0:Int):=(Int.tmod (Int.tmod (qCQ7 a0) qCQ4) qCQ6*qCQc)
abbrev qCQz (a0:Int):=(↑(Lib.nDigits (Int.toNat (qCQ3 a0))):Int)
abbrev Za6 (a0:Int):=(wr IntKind.u32 (qCQk a0)+qCQd)
abbrev Za7 (a0:Int):=(wr IntKind.u32 (qCQf a0)+qCQd)
abbrev Za8 (a0:Int):=(wr IntKind.u32 (qCQg a0)+qCQd)
abbrev Za9 (a0:Int):=(wr IntKind.u32 (qCQ9 a0)+qCQd)
abbrev Zba (a0:Int):=(wr IntKind.u32 (qCQl a0)+qCQd)
abbrev Zbb (a0:Int):=(wr IntKind.u32 (qCQh a0)+qCQd)
abbrev Zbc (a0:Int):=(wr IntKind.u32 (qCQi a0)+qCQd)
abbrev Zbd (a0:Int):=(wr IntKind.u32 (qCQa a0)+qCQd)
abbrev Zb1 (a0:Int):=(wr IntKind.u32 (qCQm a0)+qCQd)
abbrev Zb2 (a0:Int):=(wr IntKind.u32 (qCQj a0)+qCQd)
abbrev Zb3 (a0:Int):=(wr IntKind.u32 (qCQp a0)+qCQd)
abbrev Zb4 (a0:Int):=(wr IntKind.u32 (qCQn a0)+qCQd)
abbrev Zjo (a0:Int):=(Int.tmod (qCQb a0) qCQ6*qCQc)
abbrev Zjp (a0:Int):=(Int.tmod (qCQe a0) qCQ6*qCQc)
abbrev Zjq (a0:Int):=(Int.tmod (qCQ7 a0) qCQ6*qCQc)
abbrev Ux:=(48:Int)
abbrev Xu:=(45:Int)
abbrev Zl7 (a0:Int):=(wr IntKind.u32 (Zjo a0)+qCQd)
abbrev Zl8 (a0:Int):=(wr IntKind.u32 (Zjp a0)+qCQd)
abbrev Zl9 (a0:Int):=(wr IntKind.u32 (Zjq a0)+qCQd)
abbrev Zma (a0:Int):=(wr IntKind.u32 (qCQw a0)+qCQd)
abbrev Zmb (a0:Int):=(wr IntKind.u32 (qCQq a0)+qCQd)
abbrev Zmc (a0:Int):=(wr IntKind.u32 (qCQx a0)+qCQd)
abbrev Zmd (a0:Int):=(wr IntKind.u32 (qCQs a0)+qCQd)
abbrev Zme (a0:Int):=(wr IntKind.u32 (qCQt a0)+qCQd)
abbrev Zmf (a0:Int):=(wr IntKind.u32 (qCQy a0)+qCQd)
abbrev Zmg (a0:Int):=(wr IntKind.u32 (qCQu a0)+qCQd)
abbrev Z28 (a0:Int):=(wr IntKind.u8 (wr IntKind.u32 (Ux+wr IntKind.u32 (wr IntKind.u64 (Int.tdiv (wr IntKind.u64 a0) Zl6)))))
abbrev Z29 (a0:Int):=(wr IntKind.u8 (wr IntKind.u32 (Ux+wr IntKind.u32 (Int.tdiv (wr IntKind.u32 (Int.tdiv (Zjn a0) qCQ4)) qCQ6))))
abbrev Z3a (a0:Int):=(wr IntKind.u8 (wr IntKind.u32 (Ux+wr IntKind.u32 (Int.tdiv (wr IntKind.u32 (Int.tdiv (qCQe a0) qCQ4)) qCQ6))))
abbrev Zu (a0:Int):=(a0<qCQo)
abbrev Z3b (a0:Int):=(wr IntKind.u8 (wr IntKind.u32 (Ux+wr IntKind.u32 (wr IntKind.u64 (Int.tdiv (qCQ3 a0) Zl6)))))
abbrev Zmh (a0:Int):=(wr IntKind.u32 (Za6 a0))
abbrev Zmi (a0:Int):=(wr IntKind.u32 (Za7 a0))
abbrev Zmj (a0:Int):=(wr IntKind.u32 (Za8 a0))
abbrev Zmk (a0:Int):=(wr IntKind.u32 (Za9 a0))
abbrev Zml (a0:Int):=(wr IntKind.u32 (Zba a0))
abbrev Zmm (a0:Int):=(wr IntKind.u32 (Zbb a0))
abbrev Zmn (a0:Int):=(wr IntKind.u32 (Zbc a0))
abbrev Zmo (a0:Int):=(wr IntKind.u32 (Zbd a0))
abbrev Z3c (a0:Int) (b0:Nat) (c0:Nat) (d0:Nat) (e0:Nat) (f0:Nat) (g0:Nat) (h0:List Nat):=(decide (Zu a0)=true-> [Int.toNat Xu%qCQ8,Int.toNat (qCQr b0)%qCQ8,Int.toNat (qCQr c0)%qCQ8,Int.toNat (qCQr d0)%qCQ8,Int.toNat (qCQr e0)%qCQ8,Int.toNat (qCQr f0)%qCQ8,Int.toNat (qCQr g0)%qCQ8]=h0)
abbrev Zmp (a0:Int):=(wr IntKind.u32 (qCQk a0))
abbrev Zmq (a0:Int):=(wr IntKind.u32 (qCQf a0))
abbrev Zmr (a0:Int):=(wr IntKind.u32 (qCQg a0))
abbrev Zms (a0:Int):=(wr IntKind.u32 (qCQ9 a0))
abbrev Zmt (a0:Int):=(wr IntKind.u32 (qCQl a0))
abbrev Zmu (a0:Int):=(wr IntKind.u32 (qCQh a0))
abbrev Zmv (a0:Int):=(wr IntKind.u32 (qCQi a0))
abbrev Zmw (a0:Int):=(wr IntKind.u32 (qCQa a0))
abbrev Z3d (a0:Int):=(wr IntKind.u8 (wr IntKind.u32 (Ux+wr IntKind.u32 (Int.tdiv (Zjn a0) qCQ6))))
abbrev Z3e (a0:Int):=(wr IntKind.u8 (wr IntKind.u32 (Ux+wr IntKind.u32 (Int.tdiv (Zjn a0) qCQ4))))
abbrev Z3f (a0:Int):=(wr IntKind.u8 (wr IntKind.u32 (Ux+wr IntKind.u32 (Int.tdiv (qCQb a0) qCQ6))))
abbrev Z3g (a0:Int):=(wr IntKind.u8 (wr IntKind.u32 (Ux+wr IntKind.u32 (Int.tdiv (qCQb a0) qCQ4))))
abbrev Z3h (a0:Int):=(wr IntKind.u8 (wr IntKind.u32 (Ux+wr IntKind.u32 (Int.tdiv (qCQe a0) qCQ6))))
abbrev Z3i (a0:Int):=(wr IntKind.u8 (wr IntKind.u32 (Ux+wr IntKind.u32 (Int.tdiv (qCQe a0) qCQ4))))
abbrev Z3j (a0:Int):=(wr IntKind.u8 (wr IntKind.u32 (Ux+wr IntKind.u32 (Int.tdiv (qCQ7 a0) qCQ6))))
abbrev Z3k (a0:Int):=(wr IntKind.u8 (wr IntKind.u32 (Ux+wr IntKind.u32 (Int.tdiv (qCQ7 a0) qCQ4))))
abbrev Z3l (a0:Int):=(wr IntKind.u8 (wr IntKind.u32 (Ux+wr IntKind.u32 (wr IntKind.u64 a0))))
abbrev Z3m (a0:Int) (b0:Nat) (c0:Nat) (d0:Nat) (e0:Nat) (f0:List Nat):=(decide (Zu a0)=true-> [Int.toNat Xu%qCQ8,Int.toNat (qCQr b0)%qCQ8,Int.toNat (qCQr c0)%qCQ8,Int.toNat (qCQr d0)%qCQ8,Int.toNat (qCQr e0)%qCQ8]=f0)
abbrev Z3n (a0:Int) (b0:Nat) (c0:Nat) (d0:Nat) (e0:Nat) (f0:Nat) (g0:Nat) (h0:List Nat):=(decide (Zu a0)=false-> [Int.toNat (qCQr b0)%qCQ8,Int.toNat (qCQr c0)%qCQ8,Int.toNat (qCQr d0)%qCQ8,Int.toNat (qCQr e0)%qCQ8,Int.toNat (qCQr f0)%qCQ8,Int.toNat (qCQr g0)%qCQ8]=h0)
theorem Zu6 (n:Int) (v:List Nat):Zi E Fit (vc E Fit 2000) 68 [.int false .i64 n] hp0 0 (fun r=>ret E (patch hp0 0 r) r.v (.str false v))=(
 ∃(Q:Bool->Prop),((decide (qCQo<=n)=true->(decide (n<qCQ6)=true->Q true)/\(decide (n<qCQ6)=false->Q false))/\(decide (qCQo<=n)=false->Q false))/\(Q true->(qCQo<=n/\n+qCQd<=qCQ6)/\∀(y:List Nat),y=List.map UInt8.toNat (Lib.itoa n)->y=v)/\(Q false->(decide (Zu n)=true->(qCQd<=wr IntKind.u64 (qCQo-wr IntKind.u64 n)/\wr IntKind.u64 (qCQo-wr IntKind.u64 n)+qCQd<=(10000000000000:Int))/\((qCQz n)=qCQd->(decide (Zu n)=true-> [Int.toNat Xu%qCQ8,Int.toNat (wr IntKind.u8 (wr IntKind.u32 (Ux+wr IntKind.u32 (qCQ3 n))))%qCQ8]=v)/\(decide (Zu n)=false-> [Int.toNat (wr IntKind.u8 (wr IntKind.u32 (Ux+wr IntKind.u32 (qCQ3 n))))%qCQ8]=v))/\((qCQz n)=qCQc->qCQo<=wr IntKind.u32 (Zma n)/\wr IntKind.u32 (Zma n)+qCQd<=qCQ5/\∀(x:Nat),smT[Int.toNat (wr IntKind.u32 (Zma n))]? =some x->qCQo<=wr IntKind.u32 (qCQw n)/\wr IntKind.u32 (qCQw n)+qCQd<=qCQ5/\∀(x_1:Nat),smT[Int.toNat (wr IntKind.u32 (qCQw n))]? =some x_1->(decide (Zu n)=true-> [Int.toNat Xu%qCQ8,Int.toNat (qCQr x_1)%qCQ8,Int.toNat (qCQr x)%qCQ8]=v)/\(decide (Zu n)=false-> [Int.toNat (qCQr x_1)%qCQ8,Int.toNat (qCQr x)%qCQ8]=v))/\((qCQz n)=(3:Int)->qCQo<=wr IntKind.u32 (Zma n)/\wr IntKind.u32 (Zma n)+qCQd<=qCQ5/\∀(x:Nat),smT[Int.toNat (wr IntKind.u32 (Zma n))]? =some x->qCQo<=wr IntKind.u32 (qCQw n)/\wr IntKind.u32 (qCQw n)+qCQd<=qCQ5/\∀(x_1:Nat),smT[Int.toNat (wr IntKind.u32 (qCQw n))]? =some x_1->(decide (Zu n)=true-> [Int.toNat Xu%qCQ8,Int.toNat (Z3d n)%qCQ8,Int.toNat (qCQr x_1)%qCQ8,Int.toNat (qCQr x)%qCQ8]=v)/\(decide (Zu n)=false-> [Int.toNat (Z3d n)%qCQ8,Int.toNat (qCQr x_1)%qCQ8,Int.toNat (qCQr x)%qCQ8]=v))/\((qCQz n)=(4:Int)->qCQo<=wr IntKind.u32 (Zb1 n)/\wr IntKind.u32 (Zb1 n)+qCQd<=qCQ5/\∀(x:Nat),smT[Int.toNat (wr IntKind.u32 (Zb1 n))]? =some x->qCQo<=wr IntKind.u32 (qCQm n)/\wr IntKind.u32 (qCQm n)+qCQd<=qCQ5/\∀(x_1:Nat),smT[Int.toNat (wr IntKind.u32 (qCQm n))]? =some x_1->qCQo<=wr IntKind.u32 (Zb2 n)/\wr IntKind.u32 (Zb2 n)+qCQd<=qCQ5/\∀(x_2:Nat),smT[Int.toNat (wr IntKind.u32 (Zb2 n))]? =some x_2->qCQo<=wr IntKind.u32 (qCQj n)/\wr IntKind.u32 (qCQj n)+qCQd<=qCQ5/\∀(x_3:Nat),smT[Int.toNat (wr IntKind.u32 (qCQj n))]? =some x_3->(Z3m n x_3 x_2 x_1 x v)/\(decide (Zu n)=false-> [Int.toNat (qCQr x_3)%qCQ8,Int.toNat (qCQr x_2)%qCQ8,Int.toNat (qCQr x_1)%qCQ8,Int.toNat (qCQr x)%qCQ8]=v))/\((qCQz n)=(5:Int)->qCQo<=wr IntKind.u32 (Zb1 n)/\wr IntKind.u32 (Zb1 n)+qCQd<=qCQ5/\∀(x:Nat),smT[Int.toNat (wr IntKind.u32 (Zb1 n))]? =some x->qCQo<=wr IntKind.u32 (qCQm n)/\wr IntKind.u32 (qCQm n)+qCQd<=qCQ5/\∀(x_1:Nat),smT[Int.toNat (wr IntKind.u32 (qCQm n))]? =some x_1->qCQo<=wr IntKind.u32 (Zb2 n)/\wr IntKind.u32 (Zb2 n)+qCQd<=qCQ5/\∀(x_2:Nat),smT[Int.toNat (wr IntKind.u32 (Zb2 n))]? =some x_2->qCQo<=wr IntKind.u32 (qCQj n)/\wr IntKind.u32 (qCQj n)+qCQd<=qCQ5/\∀(x_3:Nat),smT[Int.toNat (wr IntKind.u32 (qCQj n))]? =some x_3->(decide (Zu n)=true-> [Int.toNat Xu%qCQ8,Int.toNat (Z3e n)%qCQ8,Int.toNat (qCQr x_3)%qCQ8,Int.toNat (qCQr x_2)%qCQ8,Int.toNat (qCQr x_1)%qCQ8,Int.toNat (qCQr x)%qCQ8]=v)/\(decide (Zu n)=false-> [Int.toNat (Z3e n)%qCQ8,Int.toNat (qCQr x_3)%qCQ8,Int.toNat (qCQr x_2)%qCQ8,Int.toNat (qCQr x_1)%qCQ8,Int.toNat (qCQr x)%qCQ8]=v))/\((qCQz n)=(6:Int)->qCQo<=wr IntKind.u32 (Zb1 n)/\wr IntKind.u32 (Zb1 n)+qCQd<=qCQ5/\∀(x:Nat),smT[Int.toNat (wr IntKind.u32 (Zb1 n))]? =some x->qCQo<=wr IntKind.u32 (qCQm n)/\wr IntKind.u32 (qCQm n)+qCQd<=qCQ5/\∀(x_1:Nat),smT[Int.toNat (wr IntKind.u32 (qCQm n))]? =some x_1->qCQo<=wr IntKind.u32 (Zb2 n)/\wr IntKind.u32 (Zb2 n)+qCQd<=qCQ5/\∀(x_2:Nat),smT[Int.toNat (wr IntKind.u32
(Zb2 n))]? =some x_2->qCQo<=wr IntKind.u32 (qCQj n)/\wr IntKind.u32 (qCQj n)+qCQd<=qCQ5/\∀(x_3:Nat),smT[Int.toNat (wr IntKind.u32 (qCQj n))]? =some x_3->qCQo<=wr IntKind.u32 (Zmb n)/\wr IntKind.u32 (Zmb n)+qCQd<=qCQ5/\∀(x_4:Nat),smT[Int.toNat (wr IntKind.u32 (Zmb n))]? =some x_4->qCQo<=wr IntKind.u32 (qCQq n)/\wr IntKind.u32 (qCQq n)+qCQd<=qCQ5/\∀(x_5:Nat),smT[Int.toNat (wr IntKind.u32 (qCQq n))]? =some x_5->(Z3c n x_5 x_4 x_3 x_2 x_1 x v)/\(Z3n n x_5 x_4 x_3 x_2 x_1 x v))/\((qCQz n)=(7:Int)->qCQo<=wr IntKind.u32 (Zb1 n)/\wr IntKind.u32 (Zb1 n)+qCQd<=qCQ5/\∀(x:Nat),smT[Int.toNat (wr IntKind.u32 (Zb1 n))]? =some x->qCQo<=wr IntKind.u32 (qCQm n)/\wr IntKind.u32 (qCQm n)+qCQd<=qCQ5/\∀(x_1:Nat),smT[Int.toNat (wr IntKind.u32 (qCQm n))]? =some x_1->qCQo<=wr IntKind.u32 (Zb2 n)/\wr IntKind.u32 (Zb2 n)+qCQd<=qCQ5/\∀(x_2:Nat),smT[Int.toNat (wr IntKind.u32 (Zb2 n))]? =some x_2->qCQo<=wr IntKind.u32 (qCQj n)/\wr IntKind.u32 (qCQj n)+qCQd<=qCQ5/\∀(x_3:Nat),smT[Int.toNat (wr IntKind.u32 (qCQj n))]? =some x_3->qCQo<=wr IntKind.u32 (Zmb n)/\wr IntKind.u32 (Zmb n)+qCQd<=qCQ5/\∀(x_4:Nat),smT[Int.toNat (wr IntKind.u32 (Zmb n))]? =some x_4->qCQo<=wr IntKind.u32 (qCQq n)/\wr IntKind.u32 (qCQq n)+qCQd<=qCQ5/\∀(x_5:Nat),smT[Int.toNat (wr IntKind.u32 (qCQq n))]? =some x_5->(decide (Zu n)=true-> [Int.toNat Xu%qCQ8,Int.toNat (Z29 n)%qCQ8,Int.toNat (qCQr x_5)%qCQ8,Int.toNat (qCQr x_4)%qCQ8,Int.toNat (qCQr x_3)%qCQ8,Int.toNat (qCQr x_2)%qCQ8,Int.toNat (qCQr x_1)%qCQ8,Int.toNat (qCQr x)%qCQ8]=v)/\(decide (Zu n)=false-> [Int.toNat (Z29 n)%qCQ8,Int.toNat (qCQr x_5)%qCQ8,Int.toNat (qCQr x_4)%qCQ8,Int.toNat (qCQr x_3)%qCQ8,Int.toNat (qCQr x_2)%qCQ8,Int.toNat (qCQr x_1)%qCQ8,Int.toNat (qCQr x)%qCQ8]=v))/\((qCQz n)=(8:Int)->qCQo<=wr IntKind.u32 (Za6 n)/\wr IntKind.u32 (Za6 n)+qCQd<=qCQ5/\∀(x:Nat),smT[Int.toNat (Zmh n)]? =some x->qCQo<=wr IntKind.u32 (qCQk n)/\wr IntKind.u32 (qCQk n)+qCQd<=qCQ5/\∀(x_1:Nat),smT[Int.toNat (Zmp n)]? =some x_1->qCQo<=wr IntKind.u32 (Za7 n)/\wr IntKind.u32 (Za7 n)+qCQd<=qCQ5/\∀(x_2:Nat),smT[Int.toNat (Zmi n)]? =some x_2->qCQo<=wr IntKind.u32 (qCQf n)/\wr IntKind.u32 (qCQf n)+qCQd<=qCQ5/\∀(x_3:Nat),smT[Int.toNat (Zmq n)]? =some x_3->qCQo<=wr IntKind.u32 (Za8 n)/\wr IntKind.u32 (Za8 n)+qCQd<=qCQ5/\∀(x_4:Nat),smT[Int.toNat (Zmj n)]? =some x_4->qCQo<=wr IntKind.u32 (qCQg n)/\wr IntKind.u32 (qCQg n)+qCQd<=qCQ5/\∀(x_5:Nat),smT[Int.toNat (Zmr n)]? =some x_5->qCQo<=wr IntKind.u32 (Za9 n)/\wr IntKind.u32 (Za9 n)+qCQd<=qCQ5/\∀(x_6:Nat),smT[Int.toNat (Zmk n)]? =some x_6->qCQo<=wr IntKind.u32 (qCQ9 n)/\wr IntKind.u32 (qCQ9 n)+qCQd<=qCQ5/\∀(x_7:Nat),smT[Int.toNat (Zms n)]? =some x_7->(decide (Zu n)=true-> [Int.toNat Xu%qCQ8,Int.toNat (qCQr x_7)%qCQ8,Int.toNat (qCQr x_6)%qCQ8,Int.toNat (qCQr x_5)%qCQ8,Int.toNat (qCQr x_4)%qCQ8,Int.toNat (qCQr x_3)%qCQ8,Int.toNat (qCQr x_2)%qCQ8,Int.toNat (qCQr x_1)%qCQ8,Int.toNat (qCQr x)%qCQ8]=v)/\(decide (Zu n)=false-> [Int.toNat (qCQr x_7)%qCQ8,Int.toNat (qCQr x_6)%qCQ8,Int.toNat (qCQr x_5)%qCQ8,Int.toNat (qCQr x_4)%qCQ8,Int.toNat (qCQr x_3)%qCQ8,Int.toNat (qCQr x_2)%qCQ8,Int.toNat (qCQr x_1)%qCQ8,Int.toNat (qCQr x)%qCQ8]=v))/\((qCQz n)=(9:Int)->qCQo<=wr IntKind.u32 (Za6 n)/\wr IntKind.u32 (Za6 n)+qCQd<=qCQ5/\∀(x:Nat),smT[Int.toNat (Zmh n)]? =some x->qCQo<=wr IntKind.u32 (qCQk n)/\wr IntKind.u32 (qCQk n)+qCQd<=qCQ5/\∀(x_1:Nat),smT[Int.toNat (Zmp n)]? =some x_1->qCQo<=wr IntKind.u32 (Za7 n)/\wr IntKind.u32 (Za7 n)+qCQd<=qCQ5/\∀(x_2:Nat),smT[Int.toNat (Zmi n)]? =some x_2->qCQo<=wr IntKind.u32 (qCQf n)/\wr IntKind.u32 (qCQf n)+qCQd<=qCQ5/\∀(x_3:
Nat),smT[Int.toNat (Zmq n)]? =some x_3->qCQo<=wr IntKind.u32 (Za8 n)/\wr IntKind.u32 (Za8 n)+qCQd<=qCQ5/\∀(x_4:Nat),smT[Int.toNat (Zmj n)]? =some x_4->qCQo<=wr IntKind.u32 (qCQg n)/\wr IntKind.u32 (qCQg n)+qCQd<=qCQ5/\∀(x_5:Nat),smT[Int.toNat (Zmr n)]? =some x_5->qCQo<=wr IntKind.u32 (Za9 n)/\wr IntKind.u32 (Za9 n)+qCQd<=qCQ5/\∀(x_6:Nat),smT[Int.toNat (Zmk n)]? =some x_6->qCQo<=wr IntKind.u32 (qCQ9 n)/\wr IntKind.u32 (qCQ9 n)+qCQd<=qCQ5/\∀(x_7:Nat),smT[Int.toNat (Zms n)]? =some x_7->(decide (Zu n)=true-> [Int.toNat Xu%qCQ8,Int.toNat (Z3b n)%qCQ8,Int.toNat (qCQr x_7)%qCQ8,Int.toNat (qCQr x_6)%qCQ8,Int.toNat (qCQr x_5)%qCQ8,Int.toNat (qCQr x_4)%qCQ8,Int.toNat (qCQr x_3)%qCQ8,Int.toNat (qCQr x_2)%qCQ8,Int.toNat (qCQr x_1)%qCQ8,Int.toNat (qCQr x)%qCQ8]=v)/\(decide (Zu n)=false-> [Int.toNat (Z3b n)%qCQ8,Int.toNat (qCQr x_7)%qCQ8,Int.toNat (qCQr x_6)%qCQ8,Int.toNat (qCQr x_5)%qCQ8,Int.toNat (qCQr x_4)%qCQ8,Int.toNat (qCQr x_3)%qCQ8,Int.toNat (qCQr x_2)%qCQ8,Int.toNat (qCQr x_1)%qCQ8,Int.toNat (qCQr x)%qCQ8]=v))/\((qCQz n)=(10:Int)->qCQo<=wr IntKind.u32 (Za6 n)/\wr IntKind.u32 (Za6 n)+qCQd<=qCQ5/\∀(x:Nat),smT[Int.toNat (Zmh n)]? =some x->qCQo<=wr IntKind.u32 (qCQk n)/\wr IntKind.u32 (qCQk n)+qCQd<=qCQ5/\∀(x_1:Nat),smT[Int.toNat (Zmp n)]? =some x_1->qCQo<=wr IntKind.u32 (Za7 n)/\wr IntKind.u32 (Za7 n)+qCQd<=qCQ5/\∀(x_2:Nat),smT[Int.toNat (Zmi n)]? =some x_2->qCQo<=wr IntKind.u32 (qCQf n)/\wr IntKind.u32 (qCQf n)+qCQd<=qCQ5/\∀(x_3:Nat),smT[Int.toNat (Zmq n)]? =some x_3->qCQo<=wr IntKind.u32 (Za8 n)/\wr IntKind.u32 (Za8 n)+qCQd<=qCQ5/\∀(x_4:Nat),smT[Int.toNat (Zmj n)]? =some x_4->qCQo<=wr IntKind.u32 (qCQg n)/\wr IntKind.u32 (qCQg n)+qCQd<=qCQ5/\∀(x_5:Nat),smT[Int.toNat (Zmr n)]? =some x_5->qCQo<=wr IntKind.u32 (Za9 n)/\wr IntKind.u32 (Za9 n)+qCQd<=qCQ5/\∀(x_6:Nat),smT[Int.toNat (Zmk n)]? =some x_6->qCQo<=wr IntKind.u32 (qCQ9 n)/\wr IntKind.u32 (qCQ9 n)+qCQd<=qCQ5/\∀(x_7:Nat),smT[Int.toNat (Zms n)]? =some x_7->qCQo<=wr IntKind.u32 (Zl7 n)/\wr IntKind.u32 (Zl7 n)+qCQd<=qCQ5/\∀(x_8:Nat),smT[Int.toNat (wr IntKind.u32 (Zl7 n))]? =some x_8->qCQo<=wr IntKind.u32 (Zjo n)/\wr IntKind.u32 (Zjo n)+qCQd<=qCQ5/\∀(x_9:Nat),smT[Int.toNat (wr IntKind.u32 (Zjo n))]? =some x_9->(decide (Zu n)=true-> [Int.toNat Xu%qCQ8,Int.toNat (qCQr x_9)%qCQ8,Int.toNat (qCQr x_8)%qCQ8,Int.toNat (qCQr x_7)%qCQ8,Int.toNat (qCQr x_6)%qCQ8,Int.toNat (qCQr x_5)%qCQ8,Int.toNat (qCQr x_4)%qCQ8,Int.toNat (qCQr x_3)%qCQ8,Int.toNat (qCQr x_2)%qCQ8,Int.toNat (qCQr x_1)%qCQ8,Int.toNat (qCQr x)%qCQ8]=v)/\(decide (Zu n)=false-> [Int.toNat (qCQr x_9)%qCQ8,Int.toNat (qCQr x_8)%qCQ8,Int.toNat (qCQr x_7)%qCQ8,Int.toNat (qCQr x_6)%qCQ8,Int.toNat (qCQr x_5)%qCQ8,Int.toNat (qCQr x_4)%qCQ8,Int.toNat (qCQr x_3)%qCQ8,Int.toNat (qCQr x_2)%qCQ8,Int.toNat (qCQr x_1)%qCQ8,Int.toNat (qCQr x)%qCQ8]=v))/\((qCQz n)=(11:Int)->qCQo<=wr IntKind.u32 (Za6 n)/\wr IntKind.u32 (Za6 n)+qCQd<=qCQ5/\∀(x:Nat),smT[Int.toNat (Zmh n)]? =some x->qCQo<=wr IntKind.u32 (qCQk n)/\wr IntKind.u32 (qCQk n)+qCQd<=qCQ5/\∀(x_1:Nat),smT[Int.toNat (Zmp n)]? =some x_1->qCQo<=wr IntKind.u32 (Za7 n)/\wr IntKind.u32 (Za7 n)+qCQd<=qCQ5/\∀(x_2:Nat),smT[Int.toNat (Zmi n)]? =some x_2->qCQo<=wr IntKind.u32 (qCQf n)/\wr IntKind.u32 (qCQf n)+qCQd<=qCQ5/\∀(x_3:Nat),smT[Int.toNat (Zmq n)]? =some x_3->qCQo<=wr IntKind.u32 (Za8 n)/\wr IntKind.u32 (Za8 n)+qCQd<=qCQ5/\∀(x_4:Nat),smT[Int.toNat (Zmj n)]? =some x_4->qCQo<=wr IntKind.u32 (qCQg n)/\wr IntKind.u32 (qCQg n)+qCQd<=qCQ5/\∀(x_5:Nat),smT[Int.toNat (Zmr n)]? =some x_5->qCQo<=wr IntKind.u32 (Za9 n)/\
wr IntKind.u32 (Za9 n)+qCQd<=qCQ5/\∀(x_6:Nat),smT[Int.toNat (Zmk n)]? =some x_6->qCQo<=wr IntKind.u32 (qCQ9 n)/\wr IntKind.u32 (qCQ9 n)+qCQd<=qCQ5/\∀(x_7:Nat),smT[Int.toNat (Zms n)]? =some x_7->qCQo<=wr IntKind.u32 (Zl7 n)/\wr IntKind.u32 (Zl7 n)+qCQd<=qCQ5/\∀(x_8:Nat),smT[Int.toNat (wr IntKind.u32 (Zl7 n))]? =some x_8->qCQo<=wr IntKind.u32 (Zjo n)/\wr IntKind.u32 (Zjo n)+qCQd<=qCQ5/\∀(x_9:Nat),smT[Int.toNat (wr IntKind.u32 (Zjo n))]? =some x_9->(decide (Zu n)=true-> [Int.toNat Xu%qCQ8,Int.toNat (Z3f n)%qCQ8,Int.toNat (qCQr x_9)%qCQ8,Int.toNat (qCQr x_8)%qCQ8,Int.toNat (qCQr x_7)%qCQ8,Int.toNat (qCQr x_6)%qCQ8,Int.toNat (qCQr x_5)%qCQ8,Int.toNat (qCQr x_4)%qCQ8,Int.toNat (qCQr x_3)%qCQ8,Int.toNat (qCQr x_2)%qCQ8,Int.toNat (qCQr x_1)%qCQ8,Int.toNat (qCQr x)%qCQ8]=v)/\(decide (Zu n)=false-> [Int.toNat (Z3f n)%qCQ8,Int.toNat (qCQr x_9)%qCQ8,Int.toNat (qCQr x_8)%qCQ8,Int.toNat (qCQr x_7)%qCQ8,Int.toNat (qCQr x_6)%qCQ8,Int.toNat (qCQr x_5)%qCQ8,Int.toNat (qCQr x_4)%qCQ8,Int.toNat (qCQr x_3)%qCQ8,Int.toNat (qCQr x_2)%qCQ8,Int.toNat (qCQr x_1)%qCQ8,Int.toNat (qCQr x)%qCQ8]=v))/\((qCQz n)=(12:Int)->qCQo<=wr IntKind.u32 (Za6 n)/\wr IntKind.u32 (Za6 n)+qCQd<=qCQ5/\∀(x:Nat),smT[Int.toNat (Zmh n)]? =some x->qCQo<=wr IntKind.u32 (qCQk n)/\wr IntKind.u32 (qCQk n)+qCQd<=qCQ5/\∀(x_1:Nat),smT[Int.toNat (Zmp n)]? =some x_1->qCQo<=wr IntKind.u32 (Za7 n)/\wr IntKind.u32 (Za7 n)+qCQd<=qCQ5/\∀(x_2:Nat),smT[Int.toNat (Zmi n)]? =some x_2->qCQo<=wr IntKind.u32 (qCQf n)/\wr IntKind.u32 (qCQf n)+qCQd<=qCQ5/\∀(x_3:Nat),smT[Int.toNat (Zmq n)]? =some x_3->qCQo<=wr IntKind.u32 (Za8 n)/\wr IntKind.u32 (Za8 n)+qCQd<=qCQ5/\∀(x_4:Nat),smT[Int.toNat (Zmj n)]? =some x_4->qCQo<=wr IntKind.u32 (qCQg n)/\wr IntKind.u32 (qCQg n)+qCQd<=qCQ5/\∀(x_5:Nat),smT[Int.toNat (Zmr n)]? =some x_5->qCQo<=wr IntKind.u32 (Za9 n)/\wr IntKind.u32 (Za9 n)+qCQd<=qCQ5/\∀(x_6:Nat),smT[Int.toNat (Zmk n)]? =some x_6->qCQo<=wr IntKind.u32 (qCQ9 n)/\wr IntKind.u32 (qCQ9 n)+qCQd<=qCQ5/\∀(x_7:Nat),smT[Int.toNat (Zms n)]? =some x_7->qCQo<=wr IntKind.u32 (Zmc n)/\wr IntKind.u32 (Zmc n)+qCQd<=qCQ5/\∀(x_8:Nat),smT[Int.toNat (wr IntKind.u32 (Zmc n))]? =some x_8->qCQo<=wr IntKind.u32 (qCQx n)/\wr IntKind.u32 (qCQx n)+qCQd<=qCQ5/\∀(x_9:Nat),smT[Int.toNat (wr IntKind.u32 (qCQx n))]? =some x_9->qCQo<=wr IntKind.u32 (Zmd n)/\wr IntKind.u32 (Zmd n)+qCQd<=qCQ5/\∀(x_10:Nat),smT[Int.toNat (wr IntKind.u32 (Zmd n))]? =some x_10->qCQo<=wr IntKind.u32 (qCQs n)/\wr IntKind.u32 (qCQs n)+qCQd<=qCQ5/\∀(x_11:Nat),smT[Int.toNat (wr IntKind.u32 (qCQs n))]? =some x_11->(decide (Zu n)=true-> [Int.toNat Xu%qCQ8,Int.toNat (qCQr x_11)%qCQ8,Int.toNat (qCQr x_10)%qCQ8,Int.toNat (qCQr x_9)%qCQ8,Int.toNat (qCQr x_8)%qCQ8,Int.toNat (qCQr x_7)%qCQ8,Int.toNat (qCQr x_6)%qCQ8,Int.toNat (qCQr x_5)%qCQ8,Int.toNat (qCQr x_4)%qCQ8,Int.toNat (qCQr x_3)%qCQ8,Int.toNat (qCQr x_2)%qCQ8,Int.toNat (qCQr x_1)%qCQ8,Int.toNat (qCQr x)%qCQ8]=v)/\(decide (Zu n)=false-> [Int.toNat (qCQr x_11)%qCQ8,Int.toNat (qCQr x_10)%qCQ8,Int.toNat (qCQr x_9)%qCQ8,Int.toNat (qCQr x_8)%qCQ8,Int.toNat (qCQr x_7)%qCQ8,Int.toNat (qCQr x_6)%qCQ8,Int.toNat (qCQr x_5)%qCQ8,Int.toNat (qCQr x_4)%qCQ8,Int.toNat (qCQr x_3)%qCQ8,Int.toNat (qCQr x_2)%qCQ8,Int.toNat (qCQr x_1)%qCQ8,Int.toNat (qCQr x)%qCQ8]=v))/\((qCQz n)=(13:Int)->qCQo<=wr IntKind.u32 (Za6 n)/\wr IntKind.u32 (Za6 n)+qCQd<=qCQ5/\∀(x:Nat),smT[Int.toNat (Zmh n)]? =some x->qCQo<=wr IntKind.u32 (qCQk n)/\wr IntKind.u32 (qCQk n)+qCQd<=qCQ5/\∀(x_1:Nat),smT[Int.toNat (Zmp n)]? =some x_1->qCQo<=wr IntKind.u32 (Za7 n)/\wr IntKind.u32 (Za7 n)+
qCQd<=qCQ5/\∀(x_2:Nat),smT[Int.toNat (Zmi n)]? =some x_2->qCQo<=wr IntKind.u32 (qCQf n)/\wr IntKind.u32 (qCQf n)+qCQd<=qCQ5/\∀(x_3:Nat),smT[Int.toNat (Zmq n)]? =some x_3->qCQo<=wr IntKind.u32 (Za8 n)/\wr IntKind.u32 (Za8 n)+qCQd<=qCQ5/\∀(x_4:Nat),smT[Int.toNat (Zmj n)]? =some x_4->qCQo<=wr IntKind.u32 (qCQg n)/\wr IntKind.u32 (qCQg n)+qCQd<=qCQ5/\∀(x_5:Nat),smT[Int.toNat (Zmr n)]? =some x_5->qCQo<=wr IntKind.u32 (Za9 n)/\wr IntKind.u32 (Za9 n)+qCQd<=qCQ5/\∀(x_6:Nat),smT[Int.toNat (Zmk n)]? =some x_6->qCQo<=wr IntKind.u32 (qCQ9 n)/\wr IntKind.u32 (qCQ9 n)+qCQd<=qCQ5/\∀(x_7:Nat),smT[Int.toNat (Zms n)]? =some x_7->qCQo<=wr IntKind.u32 (Zmc n)/\wr IntKind.u32 (Zmc n)+qCQd<=qCQ5/\∀(x_8:Nat),smT[Int.toNat (wr IntKind.u32 (Zmc n))]? =some x_8->qCQo<=wr IntKind.u32 (qCQx n)/\wr IntKind.u32 (qCQx n)+qCQd<=qCQ5/\∀(x_9:Nat),smT[Int.toNat (wr IntKind.u32 (qCQx n))]? =some x_9->qCQo<=wr IntKind.u32 (Zmd n)/\wr IntKind.u32 (Zmd n)+qCQd<=qCQ5/\∀(x_10:Nat),smT[Int.toNat (wr IntKind.u32 (Zmd n))]? =some x_10->qCQo<=wr IntKind.u32 (qCQs n)/\wr IntKind.u32 (qCQs n)+qCQd<=qCQ5/\∀(x_11:Nat),smT[Int.toNat (wr IntKind.u32 (qCQs n))]? =some x_11->(decide (Zu n)=true-> [Int.toNat Xu%qCQ8,Int.toNat (Z3g n)%qCQ8,Int.toNat (qCQr x_11)%qCQ8,Int.toNat (qCQr x_10)%qCQ8,Int.toNat (qCQr x_9)%qCQ8,Int.toNat (qCQr x_8)%qCQ8,Int.toNat (qCQr x_7)%qCQ8,Int.toNat (qCQr x_6)%qCQ8,Int.toNat (qCQr x_5)%qCQ8,Int.toNat (qCQr x_4)%qCQ8,Int.toNat (qCQr x_3)%qCQ8,Int.toNat (qCQr x_2)%qCQ8,Int.toNat (qCQr x_1)%qCQ8,Int.toNat (qCQr x)%qCQ8]=v)/\(decide (Zu n)=false-> [Int.toNat (Z3g n)%qCQ8,Int.toNat (qCQr x_11)%qCQ8,Int.toNat (qCQr x_10)%qCQ8,Int.toNat (qCQr x_9)%qCQ8,Int.toNat (qCQr x_8)%qCQ8,Int.toNat (qCQr x_7)%qCQ8,Int.toNat (qCQr x_6)%qCQ8,Int.toNat (qCQr x_5)%qCQ8,Int.toNat (qCQr x_4)%qCQ8,Int.toNat (qCQr x_3)%qCQ8,Int.toNat (qCQr x_2)%qCQ8,Int.toNat (qCQr x_1)%qCQ8,Int.toNat (qCQr x)%qCQ8]=v))/\True)/\(decide (Zu n)=false->(qCQd<=wr IntKind.u64 n/\wr IntKind.u64 n+qCQd<=(10000000000000:Int))/\((qCQv n)=qCQd->(decide (Zu n)=true-> [Int.toNat Xu%qCQ8,Int.toNat (Z3l n)%qCQ8]=v)/\(decide (Zu n)=false-> [Int.toNat (Z3l n)%qCQ8]=v))/\((qCQv n)=qCQc->qCQo<=wr IntKind.u32 (Zl8 n)/\wr IntKind.u32 (Zl8 n)+qCQd<=qCQ5/\∀(x:Nat),smT[Int.toNat (wr IntKind.u32 (Zl8 n))]? =some x->qCQo<=wr IntKind.u32 (Zjp n)/\wr IntKind.u32 (Zjp n)+qCQd<=qCQ5/\∀(x_1:Nat),smT[Int.toNat (wr IntKind.u32 (Zjp n))]? =some x_1->(decide (Zu n)=true-> [Int.toNat Xu%qCQ8,Int.toNat (qCQr x_1)%qCQ8,Int.toNat (qCQr x)%qCQ8]=v)/\(decide (Zu n)=false-> [Int.toNat (qCQr x_1)%qCQ8,Int.toNat (qCQr x)%qCQ8]=v))/\((qCQv n)=(3:Int)->qCQo<=wr IntKind.u32 (Zl8 n)/\wr IntKind.u32 (Zl8 n)+qCQd<=qCQ5/\∀(x:Nat),smT[Int.toNat (wr IntKind.u32 (Zl8 n))]? =some x->qCQo<=wr IntKind.u32 (Zjp n)/\wr IntKind.u32 (Zjp n)+qCQd<=qCQ5/\∀(x_1:Nat),smT[Int.toNat (wr IntKind.u32 (Zjp n))]? =some x_1->(decide (Zu n)=true-> [Int.toNat Xu%qCQ8,Int.toNat (Z3h n)%qCQ8,Int.toNat (qCQr x_1)%qCQ8,Int.toNat (qCQr x)%qCQ8]=v)/\(decide (Zu n)=false-> [Int.toNat (Z3h n)%qCQ8,Int.toNat (qCQr x_1)%qCQ8,Int.toNat (qCQr x)%qCQ8]=v))/\((qCQv n)=(4:Int)->qCQo<=wr IntKind.u32 (Zb3 n)/\wr IntKind.u32 (Zb3 n)+qCQd<=qCQ5/\∀(x:Nat),smT[Int.toNat (wr IntKind.u32 (Zb3 n))]? =some x->qCQo<=wr IntKind.u32 (qCQp n)/\wr IntKind.u32 (qCQp n)+qCQd<=qCQ5/\∀(x_1:Nat),smT[Int.toNat (wr IntKind.u32 (qCQp n))]? =some x_1->qCQo<=wr IntKind.u32 (Zb4 n)/\wr IntKind.u32 (Zb4 n)+qCQd<=qCQ5/\∀(x_2:Nat),smT[Int.toNat (wr IntKind.u32 (Zb4 n))]? =some x_2->qCQo<=wr IntKind.u32 (qCQn n)
/\wr IntKind.u32 (qCQn n)+qCQd<=qCQ5/\∀(x_3:Nat),smT[Int.toNat (wr IntKind.u32 (qCQn n))]? =some x_3->(Z3m n x_3 x_2 x_1 x v)/\(decide (Zu n)=false-> [Int.toNat (qCQr x_3)%qCQ8,Int.toNat (qCQr x_2)%qCQ8,Int.toNat (qCQr x_1)%qCQ8,Int.toNat (qCQr x)%qCQ8]=v))/\((qCQv n)=(5:Int)->qCQo<=wr IntKind.u32 (Zb3 n)/\wr IntKind.u32 (Zb3 n)+qCQd<=qCQ5/\∀(x:Nat),smT[Int.toNat (wr IntKind.u32 (Zb3 n))]? =some x->qCQo<=wr IntKind.u32 (qCQp n)/\wr IntKind.u32 (qCQp n)+qCQd<=qCQ5/\∀(x_1:Nat),smT[Int.toNat (wr IntKind.u32 (qCQp n))]? =some x_1->qCQo<=wr IntKind.u32 (Zb4 n)/\wr IntKind.u32 (Zb4 n)+qCQd<=qCQ5/\∀(x_2:Nat),smT[Int.toNat (wr IntKind.u32 (Zb4 n))]? =some x_2->qCQo<=wr IntKind.u32 (qCQn n)/\wr IntKind.u32 (qCQn n)+qCQd<=qCQ5/\∀(x_3:Nat),smT[Int.toNat (wr IntKind.u32 (qCQn n))]? =some x_3->(decide (Zu n)=true-> [Int.toNat Xu%qCQ8,Int.toNat (Z3i n)%qCQ8,Int.toNat (qCQr x_3)%qCQ8,Int.toNat (qCQr x_2)%qCQ8,Int.toNat (qCQr x_1)%qCQ8,Int.toNat (qCQr x)%qCQ8]=v)/\(decide (Zu n)=false-> [Int.toNat (Z3i n)%qCQ8,Int.toNat (qCQr x_3)%qCQ8,Int.toNat (qCQr x_2)%qCQ8,Int.toNat (qCQr x_1)%qCQ8,Int.toNat (qCQr x)%qCQ8]=v))/\((qCQv n)=(6:Int)->qCQo<=wr IntKind.u32 (Zb3 n)/\wr IntKind.u32 (Zb3 n)+qCQd<=qCQ5/\∀(x:Nat),smT[Int.toNat (wr IntKind.u32 (Zb3 n))]? =some x->qCQo<=wr IntKind.u32 (qCQp n)/\wr IntKind.u32 (qCQp n)+qCQd<=qCQ5/\∀(x_1:Nat),smT[Int.toNat (wr IntKind.u32 (qCQp n))]? =some x_1->qCQo<=wr IntKind.u32 (Zb4 n)/\wr IntKind.u32 (Zb4 n)+qCQd<=qCQ5/\∀(x_2:Nat),smT[Int.toNat (wr IntKind.u32 (Zb4 n))]? =some x_2->qCQo<=wr IntKind.u32 (qCQn n)/\wr IntKind.u32 (qCQn n)+qCQd<=qCQ5/\∀(x_3:Nat),smT[Int.toNat (wr IntKind.u32 (qCQn n))]? =some x_3->qCQo<=wr IntKind.u32 (Zme n)/\wr IntKind.u32 (Zme n)+qCQd<=qCQ5/\∀(x_4:Nat),smT[Int.toNat (wr IntKind.u32 (Zme n))]? =some x_4->qCQo<=wr IntKind.u32 (qCQt n)/\wr IntKind.u32 (qCQt n)+qCQd<=qCQ5/\∀(x_5:Nat),smT[Int.toNat (wr IntKind.u32 (qCQt n))]? =some x_5->(Z3c n x_5 x_4 x_3 x_2 x_1 x v)/\(Z3n n x_5 x_4 x_3 x_2 x_1 x v))/\((qCQv n)=(7:Int)->qCQo<=wr IntKind.u32 (Zb3 n)/\wr IntKind.u32 (Zb3 n)+qCQd<=qCQ5/\∀(x:Nat),smT[Int.toNat (wr IntKind.u32 (Zb3 n))]? =some x->qCQo<=wr IntKind.u32 (qCQp n)/\wr IntKind.u32 (qCQp n)+qCQd<=qCQ5/\∀(x_1:Nat),smT[Int.toNat (wr IntKind.u32 (qCQp n))]? =some x_1->qCQo<=wr IntKind.u32 (Zb4 n)/\wr IntKind.u32 (Zb4 n)+qCQd<=qCQ5/\∀(x_2:Nat),smT[Int.toNat (wr IntKind.u32 (Zb4 n))]? =some x_2->qCQo<=wr IntKind.u32 (qCQn n)/\wr IntKind.u32 (qCQn n)+qCQd<=qCQ5/\∀(x_3:Nat),smT[Int.toNat (wr IntKind.u32 (qCQn n))]? =some x_3->qCQo<=wr IntKind.u32 (Zme n)/\wr IntKind.u32 (Zme n)+qCQd<=qCQ5/\∀(x_4:Nat),smT[Int.toNat (wr IntKind.u32 (Zme n))]? =some x_4->qCQo<=wr IntKind.u32 (qCQt n)/\wr IntKind.u32 (qCQt n)+qCQd<=qCQ5/\∀(x_5:Nat),smT[Int.toNat (wr IntKind.u32 (qCQt n))]? =some x_5->(decide (Zu n)=true-> [Int.toNat Xu%qCQ8,Int.toNat (Z3a n)%qCQ8,Int.toNat (qCQr x_5)%qCQ8,Int.toNat (qCQr x_4)%qCQ8,Int.toNat (qCQr x_3)%qCQ8,Int.toNat (qCQr x_2)%qCQ8,Int.toNat (qCQr x_1)%qCQ8,Int.toNat (qCQr x)%qCQ8]=v)/\(decide (Zu n)=false-> [Int.toNat (Z3a n)%qCQ8,Int.toNat (qCQr x_5)%qCQ8,Int.toNat (qCQr x_4)%qCQ8,Int.toNat (qCQr x_3)%qCQ8,Int.toNat (qCQr x_2)%qCQ8,Int.toNat (qCQr x_1)%qCQ8,Int.toNat (qCQr x)%qCQ8]=v))/\((qCQv n)=(8:Int)->qCQo<=wr IntKind.u32 (Zba n)/\wr IntKind.u32 (Zba n)+qCQd<=qCQ5/\∀(x:Nat),smT[Int.toNat (Zml n)]? =some x->qCQo<=wr IntKind.u32 (qCQl n)/\wr IntKind.u32 (qCQl n)+qCQd<=qCQ5/\∀(x_1:Nat),smT[Int.toNat (Zmt n)]? =some x_1->qCQo<=wr IntKind.u32 (Zbb n)/\wr IntKind.u32 (Zbb n)+qCQd<=qCQ5/\∀(x_2:Nat),smT[Int.toNat (Zmm
n)]? =some x_2->qCQo<=wr IntKind.u32 (qCQh n)/\wr IntKind.u32 (qCQh n)+qCQd<=qCQ5/\∀(x_3:Nat),smT[Int.toNat (Zmu n)]? =some x_3->qCQo<=wr IntKind.u32 (Zbc n)/\wr IntKind.u32 (Zbc n)+qCQd<=qCQ5/\∀(x_4:Nat),smT[Int.toNat (Zmn n)]? =some x_4->qCQo<=wr IntKind.u32 (qCQi n)/\wr IntKind.u32 (qCQi n)+qCQd<=qCQ5/\∀(x_5:Nat),smT[Int.toNat (Zmv n)]? =some x_5->qCQo<=wr IntKind.u32 (Zbd n)/\wr IntKind.u32 (Zbd n)+qCQd<=qCQ5/\∀(x_6:Nat),smT[Int.toNat (Zmo n)]? =some x_6->qCQo<=wr IntKind.u32 (qCQa n)/\wr IntKind.u32 (qCQa n)+qCQd<=qCQ5/\∀(x_7:Nat),smT[Int.toNat (Zmw n)]? =some x_7->(decide (Zu n)=true-> [Int.toNat Xu%qCQ8,Int.toNat (qCQr x_7)%qCQ8,Int.toNat (qCQr x_6)%qCQ8,Int.toNat (qCQr x_5)%qCQ8,Int.toNat (qCQr x_4)%qCQ8,Int.toNat (qCQr x_3)%qCQ8,Int.toNat (qCQr x_2)%qCQ8,Int.toNat (qCQr x_1)%qCQ8,Int.toNat (qCQr x)%qCQ8]=v)/\(decide (Zu n)=false-> [Int.toNat (qCQr x_7)%qCQ8,Int.toNat (qCQr x_6)%qCQ8,Int.toNat (qCQr x_5)%qCQ8,Int.toNat (qCQr x_4)%qCQ8,Int.toNat (qCQr x_3)%qCQ8,Int.toNat (qCQr x_2)%qCQ8,Int.toNat (qCQr x_1)%qCQ8,Int.toNat (qCQr x)%qCQ8]=v))/\((qCQv n)=(9:Int)->qCQo<=wr IntKind.u32 (Zba n)/\wr IntKind.u32 (Zba n)+qCQd<=qCQ5/\∀(x:Nat),smT[Int.toNat (Zml n)]? =some x->qCQo<=wr IntKind.u32 (qCQl n)/\wr IntKind.u32 (qCQl n)+qCQd<=qCQ5/\∀(x_1:Nat),smT[Int.toNat (Zmt n)]? =some x_1->qCQo<=wr IntKind.u32 (Zbb n)/\wr IntKind.u32 (Zbb n)+qCQd<=qCQ5/\∀(x_2:Nat),smT[Int.toNat (Zmm n)]? =some x_2->qCQo<=wr IntKind.u32 (qCQh n)/\wr IntKind.u32 (qCQh n)+qCQd<=qCQ5/\∀(x_3:Nat),smT[Int.toNat (Zmu n)]? =some x_3->qCQo<=wr IntKind.u32 (Zbc n)/\wr IntKind.u32 (Zbc n)+qCQd<=qCQ5/\∀(x_4:Nat),smT[Int.toNat (Zmn n)]? =some x_4->qCQo<=wr IntKind.u32 (qCQi n)/\wr IntKind.u32 (qCQi n)+qCQd<=qCQ5/\∀(x_5:Nat),smT[Int.toNat (Zmv n)]? =some x_5->qCQo<=wr IntKind.u32 (Zbd n)/\wr IntKind.u32 (Zbd n)+qCQd<=qCQ5/\∀(x_6:Nat),smT[Int.toNat (Zmo n)]? =some x_6->qCQo<=wr IntKind.u32 (qCQa n)/\wr IntKind.u32 (qCQa n)+qCQd<=qCQ5/\∀(x_7:Nat),smT[Int.toNat (Zmw n)]? =some x_7->(decide (Zu n)=true-> [Int.toNat Xu%qCQ8,Int.toNat (Z28 n)%qCQ8,Int.toNat (qCQr x_7)%qCQ8,Int.toNat (qCQr x_6)%qCQ8,Int.toNat (qCQr x_5)%qCQ8,Int.toNat (qCQr x_4)%qCQ8,Int.toNat (qCQr x_3)%qCQ8,Int.toNat (qCQr x_2)%qCQ8,Int.toNat (qCQr x_1)%qCQ8,Int.toNat (qCQr x)%qCQ8]=v)/\(decide (Zu n)=false-> [Int.toNat (Z28 n)%qCQ8,Int.toNat (qCQr x_7)%qCQ8,Int.toNat (qCQr x_6)%qCQ8,Int.toNat (qCQr x_5)%qCQ8,Int.toNat (qCQr x_4)%qCQ8,Int.toNat (qCQr x_3)%qCQ8,Int.toNat (qCQr x_2)%qCQ8,Int.toNat (qCQr x_1)%qCQ8,Int.toNat (qCQr x)%qCQ8]=v))/\((qCQv n)=(10:Int)->qCQo<=wr IntKind.u32 (Zba n)/\wr IntKind.u32 (Zba n)+qCQd<=qCQ5/\∀(x:Nat),smT[Int.toNat (Zml n)]? =some x->qCQo<=wr IntKind.u32 (qCQl n)/\wr IntKind.u32 (qCQl n)+qCQd<=qCQ5/\∀(x_1:Nat),smT[Int.toNat (Zmt n)]? =some x_1->qCQo<=wr IntKind.u32 (Zbb n)/\wr IntKind.u32 (Zbb n)+qCQd<=qCQ5/\∀(x_2:Nat),smT[Int.toNat (Zmm n)]? =some x_2->qCQo<=wr IntKind.u32 (qCQh n)/\wr IntKind.u32 (qCQh n)+qCQd<=qCQ5/\∀(x_3:Nat),smT[Int.toNat (Zmu n)]? =some x_3->qCQo<=wr IntKind.u32 (Zbc n)/\wr IntKind.u32 (Zbc n)+qCQd<=qCQ5/\∀(x_4:Nat),smT[Int.toNat (Zmn n)]? =some x_4->qCQo<=wr IntKind.u32 (qCQi n)/\wr IntKind.u32 (qCQi n)+qCQd<=qCQ5/\∀(x_5:Nat),smT[Int.toNat (Zmv n)]? =some x_5->qCQo<=wr IntKind.u32 (Zbd n)/\wr IntKind.u32 (Zbd n)+qCQd<=qCQ5/\∀(x_6:Nat),smT[Int.toNat (Zmo n)]? =some x_6->qCQo<=wr IntKind.u32 (qCQa n)/\wr IntKind.u32 (qCQa n)+qCQd<=qCQ5/\∀(x_7:Nat),smT[Int.toNat (Zmw n)]? =some x_7->qCQo<=wr IntKind.u32 (Zl9 n)/\wr IntKind.u32 (Zl9 n)+qCQd<=qCQ5/\∀(x_8:
Nat),smT[Int.toNat (wr IntKind.u32 (Zl9 n))]? =some x_8->qCQo<=wr IntKind.u32 (Zjq n)/\wr IntKind.u32 (Zjq n)+qCQd<=qCQ5/\∀(x_9:Nat),smT[Int.toNat (wr IntKind.u32 (Zjq n))]? =some x_9->(decide (Zu n)=true-> [Int.toNat Xu%qCQ8,Int.toNat (qCQr x_9)%qCQ8,Int.toNat (qCQr x_8)%qCQ8,Int.toNat (qCQr x_7)%qCQ8,Int.toNat (qCQr x_6)%qCQ8,Int.toNat (qCQr x_5)%qCQ8,Int.toNat (qCQr x_4)%qCQ8,Int.toNat (qCQr x_3)%qCQ8,Int.toNat (qCQr x_2)%qCQ8,Int.toNat (qCQr x_1)%qCQ8,Int.toNat (qCQr x)%qCQ8]=v)/\(decide (Zu n)=false-> [Int.toNat (qCQr x_9)%qCQ8,Int.toNat (qCQr x_8)%qCQ8,Int.toNat (qCQr x_7)%qCQ8,Int.toNat (qCQr x_6)%qCQ8,Int.toNat (qCQr x_5)%qCQ8,Int.toNat (qCQr x_4)%qCQ8,Int.toNat (qCQr x_3)%qCQ8,Int.toNat (qCQr x_2)%qCQ8,Int.toNat (qCQr x_1)%qCQ8,Int.toNat (qCQr x)%qCQ8]=v))/\((qCQv n)=(11:Int)->qCQo<=wr IntKind.u32 (Zba n)/\wr IntKind.u32 (Zba n)+qCQd<=qCQ5/\∀(x:Nat),smT[Int.toNat (Zml n)]? =some x->qCQo<=wr IntKind.u32 (qCQl n)/\wr IntKind.u32 (qCQl n)+qCQd<=qCQ5/\∀(x_1:Nat),smT[Int.toNat (Zmt n)]? =some x_1->qCQo<=wr IntKind.u32 (Zbb n)/\wr IntKind.u32 (Zbb n)+qCQd<=qCQ5/\∀(x_2:Nat),smT[Int.toNat (Zmm n)]? =some x_2->qCQo<=wr IntKind.u32 (qCQh n)/\wr IntKind.u32 (qCQh n)+qCQd<=qCQ5/\∀(x_3:Nat),smT[Int.toNat (Zmu n)]? =some x_3->qCQo<=wr IntKind.u32 (Zbc n)/\wr IntKind.u32 (Zbc n)+qCQd<=qCQ5/\∀(x_4:Nat),smT[Int.toNat (Zmn n)]? =some x_4->qCQo<=wr IntKind.u32 (qCQi n)/\wr IntKind.u32 (qCQi n)+qCQd<=qCQ5/\∀(x_5:Nat),smT[Int.toNat (Zmv n)]? =some x_5->qCQo<=wr IntKind.u32 (Zbd n)/\wr IntKind.u32 (Zbd n)+qCQd<=qCQ5/\∀(x_6:Nat),smT[Int.toNat (Zmo n)]? =some x_6->qCQo<=wr IntKind.u32 (qCQa n)/\wr IntKind.u32 (qCQa n)+qCQd<=qCQ5/\∀(x_7:Nat),smT[Int.toNat (Zmw n)]? =some x_7->qCQo<=wr IntKind.u32 (Zl9 n)/\wr IntKind.u32 (Zl9 n)+qCQd<=qCQ5/\∀(x_8:Nat),smT[Int.toNat (wr IntKind.u32 (Zl9 n))]? =some x_8->qCQo<=wr IntKind.u32 (Zjq n)/\wr IntKind.u32 (Zjq n)+qCQd<=qCQ5/\∀(x_9:Nat),smT[Int.toNat (wr IntKind.u32 (Zjq n))]? =some x_9->(decide (Zu n)=true-> [Int.toNat Xu%qCQ8,Int.toNat (Z3j n)%qCQ8,Int.toNat (qCQr x_9)%qCQ8,Int.toNat (qCQr x_8)%qCQ8,Int.toNat (qCQr x_7)%qCQ8,Int.toNat (qCQr x_6)%qCQ8,Int.toNat (qCQr x_5)%qCQ8,Int.toNat (qCQr x_4)%qCQ8,Int.toNat (qCQr x_3)%qCQ8,Int.toNat (qCQr x_2)%qCQ8,Int.toNat (qCQr x_1)%qCQ8,Int.toNat (qCQr x)%qCQ8]=v)/\(decide (Zu n)=false-> [Int.toNat (Z3j n)%qCQ8,Int.toNat (qCQr x_9)%qCQ8,Int.toNat (qCQr x_8)%qCQ8,Int.toNat (qCQr x_7)%qCQ8,Int.toNat (qCQr x_6)%qCQ8,Int.toNat (qCQr x_5)%qCQ8,Int.toNat (qCQr x_4)%qCQ8,Int.toNat (qCQr x_3)%qCQ8,Int.toNat (qCQr x_2)%qCQ8,Int.toNat (qCQr x_1)%qCQ8,Int.toNat (qCQr x)%qCQ8]=v))/\((qCQv n)=(12:Int)->qCQo<=wr IntKind.u32 (Zba n)/\wr IntKind.u32 (Zba n)+qCQd<=qCQ5/\∀(x:Nat),smT[Int.toNat (Zml n)]? =some x->qCQo<=wr IntKind.u32 (qCQl n)/\wr IntKind.u32 (qCQl n)+qCQd<=qCQ5/\∀(x_1:Nat),smT[Int.toNat (Zmt n)]? =some x_1->qCQo<=wr IntKind.u32 (Zbb n)/\wr IntKind.u32 (Zbb n)+qCQd<=qCQ5/\∀(x_2:Nat),smT[Int.toNat (Zmm n)]? =some x_2->qCQo<=wr IntKind.u32 (qCQh n)/\wr IntKind.u32 (qCQh n)+qCQd<=qCQ5/\∀(x_3:Nat),smT[Int.toNat (Zmu n)]? =some x_3->qCQo<=wr IntKind.u32 (Zbc n)/\wr IntKind.u32 (Zbc n)+qCQd<=qCQ5/\∀(x_4:Nat),smT[Int.toNat (Zmn n)]? =some x_4->qCQo<=wr IntKind.u32 (qCQi n)/\wr IntKind.u32 (qCQi n)+qCQd<=qCQ5/\∀(x_5:Nat),smT[Int.toNat (Zmv n)]? =some x_5->qCQo<=wr IntKind.u32 (Zbd n)/\wr IntKind.u32 (Zbd n)+qCQd<=qCQ5/\∀(x_6:Nat),smT[Int.toNat (Zmo n)]? =some x_6->qCQo<=wr IntKind.u32 (qCQa n)/\wr IntKind.u32 (qCQa n)+qCQd<=qCQ5/\∀(x_7:Nat),smT[Int.toNat (Zmw n)]? =some x_7->qCQo<=wr
IntKind.u32 (Zmf n)/\wr IntKind.u32 (Zmf n)+qCQd<=qCQ5/\∀(x_8:Nat),smT[Int.toNat (wr IntKind.u32 (Zmf n))]? =some x_8->qCQo<=wr IntKind.u32 (qCQy n)/\wr IntKind.u32 (qCQy n)+qCQd<=qCQ5/\∀(x_9:Nat),smT[Int.toNat (wr IntKind.u32 (qCQy n))]? =some x_9->qCQo<=wr IntKind.u32 (Zmg n)/\wr IntKind.u32 (Zmg n)+qCQd<=qCQ5/\∀(x_10:Nat),smT[Int.toNat (wr IntKind.u32 (Zmg n))]? =some x_10->qCQo<=wr IntKind.u32 (qCQu n)/\wr IntKind.u32 (qCQu n)+qCQd<=qCQ5/\∀(x_11:Nat),smT[Int.toNat (wr IntKind.u32 (qCQu n))]? =some x_11->(decide (Zu n)=true-> [Int.toNat Xu%qCQ8,Int.toNat (qCQr x_11)%qCQ8,Int.toNat (qCQr x_10)%qCQ8,Int.toNat (qCQr x_9)%qCQ8,Int.toNat (qCQr x_8)%qCQ8,Int.toNat (qCQr x_7)%qCQ8,Int.toNat (qCQr x_6)%qCQ8,Int.toNat (qCQr x_5)%qCQ8,Int.toNat (qCQr x_4)%qCQ8,Int.toNat (qCQr x_3)%qCQ8,Int.toNat (qCQr x_2)%qCQ8,Int.toNat (qCQr x_1)%qCQ8,Int.toNat (qCQr x)%qCQ8]=v)/\(decide (Zu n)=false-> [Int.toNat (qCQr x_11)%qCQ8,Int.toNat (qCQr x_10)%qCQ8,Int.toNat (qCQr x_9)%qCQ8,Int.toNat (qCQr x_8)%qCQ8,Int.toNat (qCQr x_7)%qCQ8,Int.toNat (qCQr x_6)%qCQ8,Int.toNat (qCQr x_5)%qCQ8,Int.toNat (qCQr x_4)%qCQ8,Int.toNat (qCQr x_3)%qCQ8,Int.toNat (qCQr x_2)%qCQ8,Int.toNat (qCQr x_1)%qCQ8,Int.toNat (qCQr x)%qCQ8]=v))/\((qCQv n)=(13:Int)->qCQo<=wr IntKind.u32 (Zba n)/\wr IntKind.u32 (Zba n)+qCQd<=qCQ5/\∀(x:Nat),smT[Int.toNat (Zml n)]? =some x->qCQo<=wr IntKind.u32 (qCQl n)/\wr IntKind.u32 (qCQl n)+qCQd<=qCQ5/\∀(x_1:Nat),smT[Int.toNat (Zmt n)]? =some x_1->qCQo<=wr IntKind.u32 (Zbb n)/\wr IntKind.u32 (Zbb n)+qCQd<=qCQ5/\∀(x_2:Nat),smT[Int.toNat (Zmm n)]? =some x_2->qCQo<=wr IntKind.u32 (qCQh n)/\wr IntKind.u32 (qCQh n)+qCQd<=qCQ5/\∀(x_3:Nat),smT[Int.toNat (Zmu n)]? =some x_3->qCQo<=wr IntKind.u32 (Zbc n)/\wr IntKind.u32 (Zbc n)+qCQd<=qCQ5/\∀(x_4:Nat),smT[Int.toNat (Zmn n)]? =some x_4->qCQo<=wr IntKind.u32 (qCQi n)/\wr IntKind.u32 (qCQi n)+qCQd<=qCQ5/\∀(x_5:Nat),smT[Int.toNat (Zmv n)]? =some x_5->qCQo<=wr IntKind.u32 (Zbd n)/\wr IntKind.u32 (Zbd n)+qCQd<=qCQ5/\∀(x_6:Nat),smT[Int.toNat (Zmo n)]? =some x_6->qCQo<=wr IntKind.u32 (qCQa n)/\wr IntKind.u32 (qCQa n)+qCQd<=qCQ5/\∀(x_7:Nat),smT[Int.toNat (Zmw n)]? =some x_7->qCQo<=wr IntKind.u32 (Zmf n)/\wr IntKind.u32 (Zmf n)+qCQd<=qCQ5/\∀(x_8:Nat),smT[Int.toNat (wr IntKind.u32 (Zmf n))]? =some x_8->qCQo<=wr IntKind.u32 (qCQy n)/\wr IntKind.u32 (qCQy n)+qCQd<=qCQ5/\∀(x_9:Nat),smT[Int.toNat (wr IntKind.u32 (qCQy n))]? =some x_9->qCQo<=wr IntKind.u32 (Zmg n)/\wr IntKind.u32 (Zmg n)+qCQd<=qCQ5/\∀(x_10:Nat),smT[Int.toNat (wr IntKind.u32 (Zmg n))]? =some x_10->qCQo<=wr IntKind.u32 (qCQu n)/\wr IntKind.u32 (qCQu n)+qCQd<=qCQ5/\∀(x_11:Nat),smT[Int.toNat (wr IntKind.u32 (qCQu n))]? =some x_11->(decide (Zu n)=true-> [Int.toNat Xu%qCQ8,Int.toNat (Z3k n)%qCQ8,Int.toNat (qCQr x_11)%qCQ8,Int.toNat (qCQr x_10)%qCQ8,Int.toNat (qCQr x_9)%qCQ8,Int.toNat (qCQr x_8)%qCQ8,Int.toNat (qCQr x_7)%qCQ8,Int.toNat (qCQr x_6)%qCQ8,Int.toNat (qCQr x_5)%qCQ8,Int.toNat (qCQr x_4)%qCQ8,Int.toNat (qCQr x_3)%qCQ8,Int.toNat (qCQr x_2)%qCQ8,Int.toNat (qCQr x_1)%qCQ8,Int.toNat (qCQr x)%qCQ8]=v)/\(decide (Zu n)=false-> [Int.toNat (Z3k n)%qCQ8,Int.toNat (qCQr x_11)%qCQ8,Int.toNat (qCQr x_10)%qCQ8,Int.toNat (qCQr x_9)%qCQ8,Int.toNat (qCQr x_8)%qCQ8,Int.toNat (qCQr x_7)%qCQ8,Int.toNat (qCQr x_6)%qCQ8,Int.toNat (qCQr x_5)%qCQ8,Int.toNat (qCQr x_4)%qCQ8,Int.toNat (qCQr x_3)%qCQ8,Int.toNat (qCQr x_2)%qCQ8,Int.toNat (qCQr x_1)%qCQ8,Int.toNat (qCQr x)%qCQ8]=v))/\True))):=by kernel_rfl
end
section
open Go
theorem Z42:∀(k u:Nat),u<10^(k+1)->Lib.nDigits u<=k+1
 |0,u,h=>by rw [Lib.nDigits_small (by simpa using h)];exact Nat.le_refl _
 |k+1,u,h=>by
  by_cases h1:u<10
  · rw [Lib.nDigits_small h1];omega
  · rw [Lib.nDigits_big h1]
    rw [Nat.pow_succ] at h
    have:=Z42 k (u/10) (by omega)
    omega
theorem Zta {u:Int} {k:Res thy->Prop}:∀{l:List Int},ndK u k l->∀j∈l,(Lib.nDigits u.toNat:Int)=j->k (quiet [] (.int true .i64 j))
 | [],_,j,hj,_=>by cases hj
 |x::r,h,j,hj,e=>by
  rcases List.mem_cons.1 hj with rfl|hj
  · exact h.1 e
  · exact Zta h.2 j hj e
theorem in13 (d:Nat) (h1:1<=d) (h2:d<=13):(d:Int)∈ [(1:Int),2,3,4,5,6,7,8,9,10,11,12,13]:=by
 have:d=1\/d=2\/d=3\/d=4\/d=5\/d=6\/d=7\/d=8\/d=9\/d=10\/d=11\/d=12\/d=13:=by omega
 rcases this with rfl|rfl|rfl|rfl|rfl|rfl|rfl|rfl|rfl|rfl|rfl|rfl|rfl<;>decide
theorem Z43:SumOk E 177 Snd:=by
 have hS:SumOk E 177 (Zcc (dA1 dU64) (fun x=>1<=x.1/\x.1<10000000000000) (fun x=>Lib.nDigits x.1.toNat) fun (y:Nat)=> .int true .i64 y):=Xd E_ok (Zd rfl) fun x h=>by
  have:=Z4s x.1.toNat (by omega) (by omega)
  rw [show ((x.1.toNat:Nat):Int)=x.1 by omega] at this
  intro g w vals hI hd
  refine (this g w vals hI hd).mono ?_
  rintro en w' ⟨u,he,g',h1,h2,h3⟩
  cases h3
  exact ⟨_,he,g',h1,h2,.int _ _ _⟩
 refine ⟨hS.good,fun args h i k hD hk=> ?_⟩
 unfold Snd at hk
 split at hk
 case h_2=>exact hk.elim
 rename_i l u
 obtain ⟨⟨h1,h2⟩,hk⟩:=hk
 refine hS.ok _ h i k hD ⟨⟨h1,h2⟩,fun y hy=> ?_⟩
 subst hy
 have hn:=Z42 12 u.toNat (by show u.toNat<10000000000000;omega)
 have hp:=Lib.nDigits_pos u.toNat
 refine Zta hk _ (in13 _ hp hn) rfl
theorem Ztb:SumOk E 176 Z1n:=Xd E_ok (Zd rfl) fun x h=>by
 have:=Zsv x.1.toNat (by omega)
 rw [show ((x.1.toNat:Nat):Int)=x.1 by omega] at this
 have e:Lib.itoa x.1=Lib.decDigits x.1.toNat:=by unfold Lib.itoa;rw [if_neg (by omega)]
 rw [e]
 exact this
theorem Z44:FnsOk E Fit:=Zc (Zc F0_ok Z43) Ztb
def smV (i:Nat):Nat:=if i%2=0 then 48+i/2/10 else 48+i/2%10
theorem Z13:∀i,i<200->smT[i]? =some (smV i):=by decide+kernel
theorem Z14:smT.length=200:=by decide+kernel
theorem Z45 {e:Int} {P:Nat->Prop} (h0:0<=e) (h1:e<200) (h:P (smV e.toNat)):(0:Int)<=e/\e+(1:Int)<=(↑(List.length smT):Int)/\∀(x:Nat),smT[Int.toNat e]? =some x->P x:=by
 refine ⟨h0,by rw [Z14];omega,fun x hx=> ?_⟩
 rw [Z13 _ (by omega)] at hx
 cases hx
 exact h
theorem smE {x:Int} (h0:0<=x) (h1:x<100):smV (x*2).toNat%(256:Nat)=48+x.toNat/10:=by
 have:smV (x*2).toNat=48+x.toNat/10:=by
  unfold smV
  rw [if_pos (by omega)]
  congr 2
  omega
 rw [this]
 omega
theorem smO {x:Int} (h0:0<=x) (h1:x<100):smV (x*2+1).toNat%(256:Nat)=48+x.toNat%10:=by
 have:smV (x*2+1).toNat=48+x.toNat%10:=by
  unfold smV
  rw [if_neg (by omega)]
  congr 2
  omega
 rw [this]
 omega
theorem wu64 (x:Int):wr .u64 x=x%18446744073709551616:=rfl
theorem wu32 (x:Int):wr .u32 x=x%4294967296:=rfl
theorem wu8 (x:Int):wr .u8 x=x%256:=rfl
def dgN (u j:Nat):Nat:=48+u/10^j%10
theorem Zxp (u k:Nat) (h:Lib.nDigits u=k):(Lib.decDigits u).map UInt8.toNat=(List.range k).map fun t=>dgN u (k-1-t):=by
 rw [Lib.decDigits_eq,List.map_map,h]
 refine List.map_congr_left fun t _=> ?_
 show (Lib.dg u (k-1-t)).toNat=_
 unfold Lib.dg dgN
 rw [UInt8.toNat_ofNat']
 omega
set_option maxHeartbeats 4000000 in
theorem Ztc (u:Nat) (hu:u<10000000000000):PureC E 68 [.int false .i64 (u:Int)] (.str false (decN u)):=by
 refine Za E_ok (Ze E_ok Z44 2000) ?_
 rw [Zu6]; delta qCQo qCQ6 qCQd Zu qCQz Xu qCQ8 Ux qCQ3 qCQc Zma qCQ5 qCQw qCQr Z3d Zb1 qCQm Zb2 qCQj Z3m Z3e Zmb qCQq Z3c Z3n Z29 Za6 Zmh qCQk Zmp Za7 Zmi qCQf Zmq Za8 Zmj qCQg Zmr Za9 Zmk qCQ9 Zms Z3b Zl7 Zjo Z3f Zmc qCQx Zmd qCQs Z3g qCQv Z3l Zl8 Zjp Z3h Zb3 qCQp Zb4 qCQn Z3i Zme qCQt Z3a Zba Zml qCQl Zmt Zbb Zmm qCQh Zmu Zbc Zmn qCQi Zmv Zbd Zmo qCQa Zmw Z28 Zl9 Zjq Z3j Zmf qCQy Zmg qCQu Z3k qCQ7 qCQ4 Zl6 qCQ2 qCQe qCQb qCQ1 Zjn
 have hdec:decN (u:Int)=(Lib.decDigits u).map UInt8.toNat:=by
  unfold decN Lib.itoa
  rw [if_neg (by omega)]
  rfl
 by_cases hs:u<100
 · refine ⟨fun b=>b=true,⟨fun _=>⟨fun _=>rfl,fun h=> ?_⟩,fun h=> ?_⟩,fun _=>⟨⟨by omega,by omega⟩,fun y hy=>hy⟩,fun h=>by cases h⟩
   · exact absurd h (by simp;omega)
   · exact absurd h (by simp)
 refine ⟨fun b=>b=false,⟨fun _=>⟨fun h=> ?_,fun _=>rfl⟩,fun _=>rfl⟩,fun h=>(by cases h),fun _=>⟨fun h=> ?_,fun _=> ?_⟩⟩
 · exact absurd h (by simp;omega)
 · exact absurd h (by simp)
 have e64:wr .u64 (u:Int)=u:=by rw [wu64];omega
 have hneg:decide ((u:Int)<0)=false:=by simp
 simp only [e64,hneg,Bool.false_eq_true,false_implies,true_implies,true_and,Int.toNat_natCast,and_true]
 rw [hdec]
 have hp:=Lib.lt_pow_nDigits u
 refine ⟨⟨by omega,by omega⟩,?_⟩
 repeat' apply And.intro
 all_goals
  intro hnd
  have hnd:=Int.ofNat.inj hnd
  rw [Zxp u _ hnd]
  rw [hnd] at hp
  simp only [Nat.reducePow] at hp
  clear hnd hdec e64 hneg
  simp (disch:=omega) only [wu64,wu32,wu8,Int.tmod_eq_emod_of_nonneg,Int.tdiv_eq_ediv_of_nonneg]
  simp (disch:=omega) only [Int.emod_eq_of_lt]
  repeat' (first|(refine Z45 ?_ ?_ ?_)|omega)
  all_goals try simp only [List.range,List.range.loop,List.map_cons,List.map_nil,dgN,List.cons.injEq,and_true,Nat.reduceSub,Nat.reducePow]
  all_goals (repeat' apply And.intro)
  all_goals try simp (disch:=omega) only [smE,smO]
  all_goals first|trivial|omega
end
section
open Go
def parC (l:Bool) (y:Tar×Int×Int):SV thy:= .tup [.agg [.str l y.1.name,.int l .i64 y.1.for_,.psl Th.clauses y.1.clauses false],.int l .i64 y.2.1,.int l .i64 y.2.2]
def exsC:List (List Nat×(Tar×Int×Int)):= [
 ([116,97,114,105,102,102,32,97,32,102,111,114,32,108,111,115,115,32,123,32,32,125],(⟨[97],5,[]⟩,0,0)),
 ([116,97,114,105,102,102,32,97,32,102,111,114,32,108,111,115,115,32,123,32,99,108,97,117,115,101,32,98,32,119,104,101,110,32,99,108,97,115,115,32,105,110,32,49,46,46,51,32,112,97,121,32,53,32,42,32,107,109,59,32,125],(⟨[97],5,[⟨[98],[⟨4,1,3⟩],.mk 5 0 0 0 0 0 [.mk 1 5 0 0 0 0 [],.mk 2 6 0 0 0 0 []]⟩]⟩,0,0)),
 ([116,97,114,105,102,102,32,97,32,102,111,114,32,108,111,115,115,32,123,32,99,108,97,117,115,101,32,98,32,112,97,121,32,105,102,32,40,107,109,32,60,32,57,44,32,49,44,32,50,41,59,32,125],(⟨[97],5,[⟨[98],[],.mk 11 0 0 0 0 0 [.mk 2 6 0 0 0 0 [],.mk 1 9 0 0 0 0 [],.mk 1 1 0 0 0 0 [],.mk 1 2 0 0 0 0 []]⟩]⟩,0,0))
]
def Zyp (s:List Nat):List (List Nat×(Tar×Int×Int))->Option (SV thy)
 | []=>none
 |p::r=>match eqL s p.1 with|true=>some (parC true p.2)|false=>Zyp s r
def Zd2:List (SV thy)->Option (SV thy)
 | [.str _ s]=>Zyp s exsC
 |_=>none
theorem Z2r:∀p∈exsC,Zcd p.1=p.2:=by
 unfold exsC
 simp only [List.forall_mem_cons]
 exact ⟨by kernel_rfl,by kernel_rfl,by kernel_rfl,fun _ h=>nomatch h⟩
def okTC (t:Tar):Bool:=(t.clauses.all fun c=>Nat.blt c.pay.sz 10000&&Nat.blt c.when_.length 10000)&&Nat.blt t.clauses.length 10000
noncomputable def Zlt (args:List (SV thy)):Option (SV thy):=
 match dTarC.dec (args.map unfl) with
 |some (t,_)=>(match okTC t with|true=>some (.tup [.psl Th.ins (Zn t).1 false,.int true .i64 (Zn t).2])|false=>none)
 |none=>none
def Zuj:List (SV thy)->Option (SV thy)
 | [.val (.slice none 0 0)]=>some (.tup [.int true .i64 (verF []).1,.int true .i64 (verF []).2])
 | [.psl .ins c _]=>some (.tup [.int true .i64 (verF c).1,.int true .i64 (verF c).2])
 |_=>none
def okCC (c:List Ins):Bool:=c.all fun x=>decide (x.n<10000000000000/\x.m<10000000000000)
def Zlu:List (SV thy)->Option (SV thy)
 | [.psl .ins c _]=>(match okCC c with|true=>some (.tup [.str true (Zay c).1,.int true .i64 (Zay c).2])|false=>none)
 |_=>none
def Zuk:List (SV thy)->Option (SV thy)
 | [.str _ s,.str _ [b]]=>some (.int true .i64 (cntN s b))
 |_=>none
def Zlv:List (SV thy)->Option (SV thy)
 | [.str _ s]=>(match Nat.ble s.length 1000,Lib.atoiAll (mkS s).data.toList with|true,.ok v=>some (.tup [.int true .i64 v,.val .nilIface])|_,_=>none)
 |_=>none
def gthC:List (SV thy)->Option Th:=fun _=>some Th.ins
noncomputable def Z2s:Fns thy:=Zdq (addS (addS (addS (addS (addS (addS F0 51 (sumO Zd2)) 10 (Zfr EL gthC 20 (sumO Zlt))) 14 (Zfr EL gthC 20 (sumO Zuj))) 15 (Zfr EL gthC 20 (sumO Zlu))) 41 (sumO Zuk)) 45 (sumO Zlv))
theorem Zq4 (v:Bool):Zi EL Z2s (vc EL Z2s 4000) 8 [] hp0 0 (fun r=>ret EL (patch hp0 0 r) r.v (.bool true v))=(
true=v):=by kernel_rfl
theorem X1 {E':Eng thy} {f:FuncId} {args:List (SV thy)} {v v':SV thy} (h:PureC E' f args v) (hv:∀σ g u,Den E' σ g v u->Den E' σ g v' u):PureC E' f args v':=by
 intro g w vals hI hd
 refine (h g w vals hI hd).mono ?_
 rintro en w' ⟨u,he,g',hS,hI',hu⟩
 exact ⟨u,he,g',hS,hI',hv _ _ _ hu⟩
theorem Zyq {E':Eng thy} {σ:Pl} {g:GH} {cs cs':List (SV thy)} {u:Value} (h:Den E' σ g (.agg cs) u) (hl:cs'.length=cs.length) (hm:∀(j:Nat) sv',cs'[j]? =some sv'->∃sv,cs[j]? =some sv/\∀u,Den E' σ g sv u->Den E' σ g sv' u):Den E' σ g (.agg cs') u:=by
 cases h with
 |agg c hs hc hd=>
  refine .agg c (hs.trans hl.symm) (fun j hj=>hc j (by omega)) fun j sv' hj=> ?_
  obtain ⟨sv,h1,h2⟩:=hm j sv' hj
  exact h2 _ (hd j sv h1)
theorem Za0 {E':Eng thy} {σ:Pl} {g:GH} {cs cs':List (SV thy)} {u:Value} (h:Den E' σ g (.tup cs) u) (hl:cs'.length=cs.length) (hm:∀(j:Nat) sv',cs'[j]? =some sv'->∃sv,cs[j]? =some sv/\∀u,Den E' σ g sv u->Den E' σ g sv' u):Den E' σ g (.tup cs') u:=by
 cases h with
 |tup c hs hc hd=>
  refine .tup c (hs.trans hl.symm) (fun j hj=>hc j (by omega)) fun j sv' hj=> ?_
  obtain ⟨sv,h1,h2⟩:=hm j sv' hj
  exact h2 _ (hd j sv h1)
theorem Zyr {E':Eng thy} {σ:Pl} {g:GH} {y:Tar×Int×Int} {u:Value} (h:Den E' σ g (parC false y) u):Den E' σ g (parC true y) u:=by
 refine Za0 h rfl fun j sv' hj=> ?_
 match j,hj with
 |0,hj=>
  cases hj
  refine ⟨_,rfl,fun u hu=>Zyq hu rfl fun j sv' hj=> ?_⟩
  match j,hj with
  |0,hj=>cases hj;exact ⟨_,rfl,fun u hu=>by cases hu;exact .str _ ‹_›⟩
  |1,hj=>cases hj;exact ⟨_,rfl,fun u hu=>by cases hu;exact .int _ _ _⟩
  |2,hj=>cases hj;exact ⟨_,rfl,fun u hu=>hu⟩
 |1,hj=>cases hj;exact ⟨_,rfl,fun u hu=>by cases hu;exact .int _ _ _⟩
 |2,hj=>cases hj;exact ⟨_,rfl,fun u hu=>by cases hu;exact .int _ _ _⟩
theorem Zop {s:List Nat} {v:SV thy}:∀{l:List (List Nat×(Tar×Int×Int))},Zyp s l=some v->∃p∈l,s=p.1/\v=parC true p.2
 | [],h=>by cases h
 |p::r,h=>by
  unfold Zyp at h
  split at h
  · rename_i he
    cases h
    exact ⟨p,by simp,Zp6 he,rfl⟩
  · obtain ⟨q,h1,h2⟩:=Zop h
    exact ⟨q,by simp [h1],h2⟩
theorem Zi8 (args:List (SV thy)) (v:SV thy) (h:Zd2 args=some v):PureC EL 51 args v:=by
 unfold Zd2 at h
 split at h
 · rename_i l s
   obtain ⟨p,h1,rfl,rfl⟩:=Zop h
   refine PureC.fl ?_
   refine X1 (v:=parC false p.2) (PureC.like Zix Ziy (fun _ _ h=>h) ?_) fun σ g u=>Zyr
   have:=Zqi p.1
   rw [Z2r p h1] at this
   exact this
 · cases h
theorem Z2t {t:Tar} (h:okTC t=true):SmK t:=by
 simp only [okTC,Bool.and_eq_true,List.all_eq_true] at h
 exact ⟨fun c hc=>⟨by have:=Zy (h.1 c hc).1;omega,by have:=Zy (h.1 c hc).2;omega⟩,by have:=Zy h.2;omega⟩
theorem Zq5 (args:List (SV thy)) (v:SV thy) (h:Zlt args=some v):PureC EL 10 args v:=by
 unfold Zlt at h
 split at h
 · rename_i t _ hd
   split at h
   · rename_i ht
     cases h
     refine PureC.fl (X1 (v:= .tup [.psl Th.ins (Zn t).1 false,.int false .i64 (Zn t).2]) (PureC.like Zix Ziy (fun _ _ h=>h) (PureC.of_dec hd (Zce t (Z2t ht)))) fun σ g u hu=> ?_)
     refine Za0 hu rfl fun j sv' hj=> ?_
     match j,hj with
     |0,hj=>cases hj;exact ⟨_,rfl,fun u hu=>hu⟩
     |1,hj=>cases hj;exact ⟨_,rfl,fun u hu=>by cases hu;exact .int _ _ _⟩
   · cases h
 · cases h
theorem Zys {E':Eng thy} {σ:Pl} {g:GH} {u:Value} (h:Den E' σ g (.val (.slice none 0 0):SV thy) u):Den E' σ g (.psl Th.ins [] false) u:=by
 cases h
 exact .psl (fun _ _=>undef) (Nat.le_refl _) (by unfold maxLen;omega) (fun h=>by cases h) (fun _=>rfl) (fun h=>absurd h (by simp)) (fun i x hx=>by simp at hx)
theorem Zoq {E':Eng thy} {σ:Pl} {g:GH} {c:List Ins} {f:Bool} {u:Value} (h:Den E' σ g (.psl Th.ins c f) u):Den E' σ g (.psl Th.ins c false) u:=by
 obtain ⟨base,k,cv,rfl,hl,hm,hf,hn,hb,hd⟩:=Xv h
 exact .psl cv hl hm (fun h=>by cases h) hn hb hd
theorem Zd3 {f:FuncId} {a b:SV thy} {v:SV thy} (h:PureC EL f [b] v) (hab:∀σ g u,Den EL σ g a u->Den EL σ g b u):PureC EL f [a] v:=by
 intro g w vals hI hd
 refine h g w vals hI ⟨hd.1,fun j sv u h1 h2=> ?_⟩
 match j,h1 with
 |0,h1=>cases h1;exact hab _ _ _ (hd.2 0 _ u rfl h2)
theorem Zi9 (c:List Ins):PureC EL 14 [.psl .ins c false] (.tup [.int true .i64 (verF c).1,.int true .i64 (verF c).2]):=by
 refine X1 (v:= .tup [.int false .i64 (verF c).1,.int false .i64 (verF c).2]) (PureC.like Zix Ziy (fun _ _ h=>h) (Zcj c)) fun σ g u hu=> ?_
 refine Za0 hu rfl fun j sv' hj=> ?_
 match j,hj with
 |0,hj=>cases hj;exact ⟨_,rfl,fun u hu=>by cases hu;exact .int _ _ _⟩
 |1,hj=>cases hj;exact ⟨_,rfl,fun u hu=>by cases hu;exact .int _ _ _⟩
theorem Zul (args:List (SV thy)) (v:SV thy) (h:Zuj args=some v):PureC EL 14 args v:=by
 unfold Zuj at h
 split at h
 · cases h
   exact Zd3 (Zi9 []) fun σ g u=>Zys
 · rename_i c f
   cases h
   exact Zd3 (Zi9 c) fun σ g u=>Zoq
 · cases h
theorem Zum:SumOk E 68 (Sita 10000000000000):=Xd E_ok (Zd rfl) fun x h=>by
 have:=Ztc x.1.toNat (by omega)
 rw [show ((x.1.toNat:Nat):Int)=x.1 by omega] at this
 exact this
theorem Zq6 (args:List (SV thy)) (v:SV thy) (h:Zlu args=some v):PureC EL 15 args v:=by
 unfold Zlu at h
 split at h
 · rename_i c f
   split at h
   · rename_i hc
     cases h
     have hc:∀x∈c,x.n<10000000000000/\x.m<10000000000000:=fun x hx=>of_decide_eq_true (List.all_eq_true.1 hc x hx)
     refine Zd3 (b:= .psl Th.ins c false) ?_ fun σ g u=>Zoq
     refine X1 (v:= .tup [.str false (Zay c).1,.int false .i64 (Zay c).2]) (PureC.like Zix Ziy (fun _ _ h=>h) (Zvc c (fun x hx hf=>Ztf Zum hf (hc x hx).1 (hc x hx).2) fun x hx hf=>Zxs hf)) fun σ g u hu=> ?_
     refine Za0 hu rfl fun j sv' hj=> ?_
     match j,hj with
     |0,hj=>cases hj;exact ⟨_,rfl,fun u hu=>by cases hu;exact .str _ ‹_›⟩
     |1,hj=>cases hj;exact ⟨_,rfl,fun u hu=>by cases hu;exact .int _ _ _⟩
   · cases h
 · cases h
theorem Zun (args:List (SV thy)) (v:SV thy) (h:Zuk args=some v):PureC EL 41 args v:=by
 unfold Zuk at h
 split at h
 · rename_i l s l2 b
   cases h
   refine PureC.fl (X1 (v:= .int false .i64 (cntN s b)) (PureC.like Zix Ziy (fun _ _ h=>h) (Zzz s b)) fun σ g u hu=> ?_)
   cases hu;exact .int _ _ _
 · cases h
theorem Zq7 (args:List (SV thy)) (v:SV thy) (h:Zlv args=some v):PureC EL 45 args v:=by
 unfold Zlv at h
 split at h
 · rename_i l s
   split at h
   · rename_i n hl hv
     cases h
     rw [Nat.ble_eq] at hl
     refine PureC.fl (X1 (v:= .tup [.int false .i64 n,.val .nilIface]) (PureC.like Zix Ziy (fun _ _ h=>h) (Zv6 s n (by omega) hv)) fun σ g u hu=> ?_)
     refine Za0 hu rfl fun j sv' hj=> ?_
     match j,hj with
     |0,hj=>cases hj;exact ⟨_,rfl,fun u hu=>by cases hu;exact .int _ _ _⟩
     |1,hj=>cases hj;exact ⟨_,rfl,fun u hu=>hu⟩
   · cases h
 · cases h
theorem Zor:FnsOk EL Z2s:=Ui (Zc (Zc (Zc (Zc (Zc (Zc Zt9 (Vm U7 (Zd rfl) Zi8)) (Zat U7 (Vm U7 (Zd rfl) Zq5))) (Zat U7 (Vm U7 (Zd rfl) Zul))) (Zat U7 (Vm U7 (Zd rfl) Zq6))) (Vm U7 (Zd rfl) Zun)) (Vm U7 (Zd rfl) Zq7))
theorem Zq8:PureC E 8 [] (.bool true true):=by
 refine PureC.like Ziy Zix (fun _ _ h=>h) (Za U7 (Y3 U7 Zor fun f N c=>(Zff U7 Zor 4000 f N c).1) ?_)
 rw [Zq4]
theorem Zuo:SumOk E 8 Zi0:=Vm E_ok (Zd rfl) fun args v h=>by
 unfold Z5h at h
 split at h
 · cases h;exact Zq8
 · cases h
end
section
open Go
def AfcC:Fr thy->Hp thy->Nat->Ann thy:=fun T h i=>{X:=FwX,fr:=fun x=> [(2,T 2),(6,T 6),(8,T 8),(10,.int false .i64 x.k)],bl:=fun x=>blkP h (T 2),src:=fun _=> [],md:= [],ih:=i,M:=i+40,meas:=fun x=>x.r}
noncomputable def FfcC:Fns thy:=Zdq (addL FlC 6 15 AfcC E)
theorem Z3p (hs:SumOk E 8 Zi0):FnsOk E FfcC:=Ui (Z0 E_ok (Z5j hs) _ _ _)
abbrev qCV9:=(false=true->false=true)
abbrev qCVc (a0:Tar):=(Tar.name a0=Tar.name a0/\Tar.for_ a0=Tar.for_ a0/\(Tar.clauses a0=Tar.clauses a0/\qCV9)/\True)
abbrev qCVe:=(1:Nat)
abbrev qCV4 (a0:List Ins×Int):=(↑(List.length (Prod.fst a0)):Int)
abbrev qCVh (a0:List Ins×Int):=(Prod.fst a0=Prod.fst a0/\qCV9)
abbrev qCVa (a0:FwX):=(↑(FwX.k a0):Int)
abbrev qCVf:=(0:Int)
abbrev qCV8:=(0:Nat)
abbrev qCVg (a0:Ins) (b0:Ins):=(!(Ins.op a0==Ins.op b0&&(Ins.n a0==Ins.n b0&&(Ins.m a0==Ins.m b0&&true))))
abbrev qCV1 (a0:List Ins×Int) (b0:List Ins×Int) (c0:Bool) (d0:Tar):=((Prod.snd a0 !=qCVf)=false->∃(Q:Bool->Prop),(((Prod.snd b0 !=qCVf)=true->Q true)/\((Prod.snd b0 !=qCVf)=false->(((qCV4 b0)==qCVf)=true->Q true)/\(((qCV4 b0)==qCVf)=false->(decide ((qCV4 a0)<=(qCV4 b0))=true->Q true)/\(decide ((qCV4 a0)<=(qCV4 b0))=false->Q false))))/\(Q true->false=c0)/\(Q false->∃(R:FwX->Prop),(∃(x:FwX),R x/\true=true/\(qCV8=qCV8/\(qCVh b0)/\(qCVh a0)/\qCVf=(qCVa x)/\True)/\(qCVc d0)/\True)/\∀(x:FwX),R x->(decide (wr IntKind.i64 ((qCVa x)+(1:Int))<(qCV4 b0))=true->qCVf<=(qCVa x)/\(qCVa x)+(1:Int)<=(qCV4 b0)/\∀(x_1:Ins),(Prod.fst b0)[Int.toNat (qCVa x)]? =some x_1->qCVf<=(qCVa x)/\(qCVa x)+(1:Int)<=(qCV4 a0)/\∀(x_2:Ins),(Prod.fst a0)[Int.toNat (qCVa x)]? =some x_2->((qCVg x_1 x_2)=true->false=c0)/\((qCVg x_1 x_2)=false->∃(x_3:FwX),R x_3/\x_3.2+qCVe<=x.2/\true=true/\(qCV8=qCV8/\(qCVh b0)/\(qCVh a0)/\wr IntKind.i64 ((qCVa x)+(1:Int))=(qCVa x_3)/\True)/\(qCVc d0)/\True))/\(decide (wr IntKind.i64 ((qCVa x)+(1:Int))<(qCV4 b0))=false->qCVf<=wr IntKind.i64 ((qCV4 a0)-(2:Int))/\wr IntKind.i64 ((qCV4 a0)-(2:Int))+(1:Int)<=(qCV4 a0)/\∀(x:Ins),(Prod.fst a0)[Int.toNat (wr IntKind.i64 ((qCV4 a0)-(2:Int)))]? =some x->((Ins.op x==(15:Int))=true->((Ins.n x==(↑(List.length (Tar.clauses d0)):Int))=true->true=c0)/\((Ins.n x==(↑(List.length (Tar.clauses d0)):Int))=false->false=c0))/\((Ins.op x==(15:Int))=false->false=c0))))
abbrev qCV2 (a0:Cls):=(Ex.mk (Ex.op (Cls.pay a0)) (Ex.n (Cls.pay a0)) (Ex.d0 (Cls.pay a0)) (Ex.d1 (Cls.pay a0)) (Ex.d2 (Cls.pay a0)) (Ex.d3 (Cls.pay a0)) (Ex.l (Cls.pay a0)))
abbrev qCV3 (a0:Tar) (b0:Cls):=(List.take (qCV8+List.length (Tar.clauses a0)) ([]++Tar.clauses a0)++ [Cls.mk (Cls.name b0) (Cls.when_ b0) (qCV2 b0)])
abbrev qCV5 (a0:Tar):=(qCV8+List.length (Tar.clauses a0)+qCVe)
abbrev qCV6 (a0:Cls):=([]++ [Cls.mk (Cls.name a0) (Cls.when_ a0) (qCV2 a0)])
abbrev qCVd:=(1000000000:Nat)
abbrev qCV7 (a0:Tar):=((∀(c:Cls),c∈Tar.clauses a0->Ex.sz (Cls.pay c)<=(10000:Nat)/\List.length (Cls.when_ c)+qCVe<=qCVd)/\List.length (Tar.clauses a0)+qCVe<=qCVd)
abbrev qCVb (a0:Cls):=(List.take (qCV8+qCVe) (List.drop qCV8 (qCV6 a0)))
theorem Zu9 (t:Tar) (x:Cls) (v:Bool):Zi E FfcC (vc E FfcC 400) 6 [.agg (encF false .tariffs t),.agg (encF false .clauses x)] hp0 0 (fun r=>ret E (patch hp0 0 r) r.v (.bool false v))=(
 (Tar.clauses t= []->qCV8+(qCV8+qCVe)<=List.length (qCV6 x)/\True/\∀(y:Bool),y=Zdp (Tar.mk (Tar.name t) (Tar.for_ t) (qCVb x))->((!y)=true->true=v)/\((!y)=false->(qCV7 t)/\∀(y:List Ins×Int),y=Zn t->qCV8+(qCV8+qCVe)<=List.length (qCV6 x)/\((∀(c:Cls),c∈List.take (qCV8+qCVe) (List.drop qCV8 (qCV6 x))->Ex.sz (Cls.pay c)<=(10000:Nat)/\List.length (Cls.when_ c)+qCVe<=qCVd)/\List.length (qCVb x)+qCVe<=qCVd)/\∀(y_1:List Ins×Int),y_1=Zn (Tar.mk (Tar.name t) (Tar.for_ t) (qCVb x))->((Prod.snd y_1 !=qCVf)=true->true=v)/\(qCV1 y_1 y v t)))/\(Tar.clauses t≠ []->(qCV8+qCVe<=qCV8+List.length (Tar.clauses t)/\(qCV8+List.length (Tar.clauses t))*(112:Nat)<=(140737488355328:Nat))/\(qCV8+List.length (Tar.clauses t)<=List.length ([]++Tar.clauses t)/\qCV8<=qCV8+List.length (Tar.clauses t)/\(qCV5 t)*(112:Nat)<=(140737488355328:Nat))/\qCV8+(qCV5 t)<=List.length (qCV3 t x)/\True/\∀(y:Bool),y=Zdp (Tar.mk (Tar.name t) (Tar.for_ t) (List.take (qCV5 t) (List.drop qCV8 (qCV3 t x))))->((!y)=true->true=v)/\((!y)=false->(qCV7 t)/\∀(y:List Ins×Int),y=Zn t->qCV8+(qCV5 t)<=List.length (qCV3 t x)/\((∀(c:Cls),c∈List.take (qCV5 t) (List.drop qCV8 (qCV3 t x))->Ex.sz (Cls.pay c)<=(10000:Nat)/\List.length (Cls.when_ c)+qCVe<=qCVd)/\List.length (List.take (qCV5 t) (List.drop qCV8 (qCV3 t x)))+qCVe<=qCVd)/\∀(y_1:List Ins×Int),y_1=Zn (Tar.mk (Tar.name t) (Tar.for_ t) (List.take (qCV5 t) (List.drop qCV8 (qCV3 t x))))->((Prod.snd y_1 !=qCVf)=true->true=v)/\(qCV1 y_1 y v t)))):=by kernel_rfl
def Zva (t:Tar) (L:List Cls) (N:Nat) (M:List Cls) (v:Bool):Prop:=
 ∀(y:Bool),y=Zdp (Tar.mk (Tar.name t) (Tar.for_ t) L)->((!y)=true->true=v)/\((!y)=false->((∀(c:Cls),c∈Tar.clauses t->Ex.sz (Cls.pay c)<=(10000:Nat)/\
 List.length (Cls.when_ c)+(1:Nat)<=(1000000000:Nat))/\List.length (Tar.clauses t)+(1:Nat)<=(1000000000:Nat))/\∀(y:List Ins×Int),y=Zn t->N<=
 List.length M/\((∀(c:Cls),c∈L->Ex.sz (Cls.pay c)<=(10000:Nat)/\List.length (Cls.when_ c)+(1:Nat)<=(1000000000:Nat))/\List.length L+(1:Nat)<=(1000000000:
 Nat))/\∀(y_1:List Ins×Int),y_1=Zn (Tar.mk (Tar.name t) (Tar.for_ t) L)->((Prod.snd y_1 !=(0:Int))=true->true=v)/\((Prod.snd y_1 !=(0:Int))=false->∃
 (Q:Bool->Prop),(((Prod.snd y !=(0:Int))=true->Q true)/\((Prod.snd y !=(0:Int))=false->(((↑(List.length (Prod.fst y)):Int)==(0:Int))=true->Q true)/\
 (((↑(List.length (Prod.fst y)):Int)==(0:Int))=false->(decide ((↑(List.length (Prod.fst y_1)):Int)<=(↑(List.length (Prod.fst y)):Int))=true->Q true)/\(decide
 ((↑(List.length (Prod.fst y_1)):Int)<=(↑(List.length (Prod.fst y)):Int))=false->Q false))))/\(Q true->false=v)/\(Q false->∃(R:FwX->Prop),(∃(x:FwX),R x/\true
 =true/\((0:Nat)=(0:Nat)/\(Prod.fst y=Prod.fst y/\(false=true->false=true))/\(Prod.fst y_1=Prod.fst y_1/\(false=true->false=true))/\(0:Int)=(↑(FwX.k
 x):Int)/\True)/\(Tar.name t=Tar.name t/\Tar.for_ t=Tar.for_ t/\(Tar.clauses t=Tar.clauses t/\(false=true->false=true))/\True)/\True)/\∀(x:FwX),R x->
 (decide (wr IntKind.i64 ((↑(FwX.k x):Int)+(1:Int))<(↑(List.length (Prod.fst y)):Int))=true->(0:Int)<=(↑(FwX.k x):Int)/\(↑(FwX.k x):Int)+(1:Int)<=
 (↑(List.length (Prod.fst y)):Int)/\∀(x_1:Ins),(Prod.fst y)[Int.toNat (↑(FwX.k x):Int)]? =some x_1->(0:Int)<=(↑(FwX.k x):Int)/\(↑(FwX.k x):Int)+(1:Int)<=
 (↑(List.length (Prod.fst y_1)):Int)/\∀(x_2:Ins),(Prod.fst y_1)[Int.toNat (↑(FwX.k x):Int)]? =some x_2->((!(Ins.op x_1==Ins.op x_2&&(Ins.n x_1==Ins.n x_2&&(Ins.m
 x_1==Ins.m x_2&&true))))=true->false=v)/\((!(Ins.op x_1==Ins.op x_2&&(Ins.n x_1==Ins.n x_2&&(Ins.m x_1==Ins.m x_2&&true))))=false->∃(x_3:FwX),R x_3/\
 x_3.2+(1:Nat)<=x.2/\true=true/\((0:Nat)=(0:Nat)/\(Prod.fst y=Prod.fst y/\(false=true->false=true))/\(Prod.fst y_1=Prod.fst y_1/\(false=true->false=
 true))/\wr IntKind.i64 ((↑(FwX.k x):Int)+(1:Int))=(↑(FwX.k x_3):Int)/\True)/\(Tar.name t=Tar.name t/\Tar.for_ t=Tar.for_ t/\(Tar.clauses t=Tar.clauses t/\
 (false=true->false=true))/\True)/\True))/\(decide (wr IntKind.i64 ((↑(FwX.k x):Int)+(1:Int))<(↑(List.length (Prod.fst y)):Int))=false->(0:Int)<=wr
 IntKind.i64 ((↑(List.length (Prod.fst y_1)):Int)-(2:Int))/\wr IntKind.i64 ((↑(List.length (Prod.fst y_1)):Int)-(2:Int))+(1:Int)<=(↑(List.length (Prod.fst y_1)):
 Int)/\∀(x:Ins),(Prod.fst y_1)[Int.toNat (wr IntKind.i64 ((↑(List.length (Prod.fst y_1)):Int)-(2:Int)))]? =some x->((Ins.op x==(15:Int))=true->((Ins.n x==
 (↑(List.length (Tar.clauses t)):Int))=true->true=v)/\((Ins.n x==(↑(List.length (Tar.clauses t)):Int))=false->false=v))/\((Ins.op x==(15:Int))=false->false
 =v)))))
theorem Zo4 {x:Cls}:∀{l:List Cls} {seen:List (List Nat)},CsOk seen (l++ [x])->CsOk seen l
 | [],_,_=>trivial
 |c::r,seen,h=>by
  obtain ⟨h1,h2,h3,h4,h5,h6⟩:=h
  exact ⟨h1,h2,h3,h4,h5,Zo4 h6⟩
theorem Zrl {t:Tar} {x:Cls} (h:Yz (addC t x)=0):Yz t=0:=by
 obtain ⟨h1,h2,h3,h4,h5,h6⟩:=(Zag _).1 h
 refine (Zag _).2 ⟨h1,h2,h3,h4,?_,Zo4 h6⟩
 have h5:(t.clauses++ [x]).length<=64:=h5
 rw [List.length_append] at h5
 omega
theorem Zf2 {t:Tar} {x:Cls} {L M:List Cls} {N:Nat} (hL:L=t.clauses++ [x]) (hN:N<=M.length):Zva t L N M true:=by
 unfold Zva
 intro y hy
 refine ⟨fun _=>rfl,fun q=> ?_⟩
 have hu:Tar.mk (Tar.name t) (Tar.for_ t) L=addC t x:=by rw [hL];rfl
 rw [hu] at hy
 have hf:FewP (addC t x):=few20_iff.1 (by rw [<-hy];simpa using q)
 have hsm:=Z2i hf
 have hsub:∀c∈t.clauses,c∈(addC t x).clauses:=fun c hc=>List.mem_append_left _ hc
 have hlen:(addC t x).clauses.length=t.clauses.length+1:=by
  show (t.clauses++ [x]).length=_
  simp
 have hl2:=hsm.2
 rw [hlen] at hl2
 refine ⟨⟨fun c hc=>hsm.1 c (hsub c hc),by omega⟩,fun y1 hy1=>⟨hN,⟨fun c hc=>hsm.1 c (by rw [hL] at hc;exact hc),by rw [hL];have:=hlen;simp at this⊢;omega⟩,fun y2 hy2=>⟨fun _=>rfl,fun e=> ?_⟩⟩⟩
 rw [hu] at hy2
 have e2:y2.2=0:=by simpa using e
 rcases Zyd (addC t x) with ⟨h0,h⟩|⟨_,h⟩|⟨h0,hg,h⟩
 · rw [hy2,h] at e2;exact absurd e2 h0
 · rw [hy2,h] at e2;cases e2
 · have hc0:=Zrl h0
   obtain ⟨c1,c2,_⟩:=Zv8 h0
   have cf:∀c∈t.clauses++ [x],Zo c.pay=true:=fun c hc=>(c1 c hc).1
   have hd:=Zvu cf
   obtain ⟨p,q1,q2⟩:=Z32 (t:=t) (x:=x)
   have hl1:(cdT t).length=(cdCs t.clauses 0 0).length+1:=by rw [q1];simp
   have hl2:(cdT (addC t x)).length=(cdCs t.clauses 0 0).length+(p.length+2):=by rw [q2];simp
   have hg':¬(4096<(cdT (addC t x)).length\/64<dCs (t.clauses++ [x])):=hg
   have hc:Zn t=(cdT t,0):=by
    unfold Zn
    rw [if_pos hc0,if_neg (by omega)]
   have z1:y1.1=cdT t:=by rw [hy1,hc]
   have z2:y2.1=cdT (addC t x):=by rw [hy2,h]
   have z3:y1.2=0:=by rw [hy1,hc]
   rw [z1,z2,z3]
   generalize hC:cdCs t.clauses 0 0=C at q1 q2 hl1 hl2
   have big:C.length+(p.length+2)<=4096:=by omega
   refine ⟨fun b=>b=false,⟨fun k=>by simp at k,fun _=>⟨fun k=> ?_,fun _=>⟨fun k=> ?_,fun _=>rfl⟩⟩⟩,fun k=>(by cases k),fun _=> ?_⟩
   · have k:(↑(cdT t).length:Int)=0:=by simpa using k
     omega
   · have k:=of_decide_eq_true k
     omega
   · refine ⟨fun z=>z.k<=C.length/\z.r=C.length-z.k,⟨⟨0,C.length⟩,⟨Nat.zero_le _,rfl⟩,by simp⟩,?_⟩
     rintro ⟨k,r⟩ ⟨k1,k2⟩
     simp only at k1 k2⊢
     have wk:wr .i64 ((↑k:Int)+1)=↑(k+1):=(wr64 (by omega) (by omega)).trans (by omega)
     have wl:wr .i64 ((↑(cdT (addC t x)).length:Int)-2)=↑(C.length+p.length):=(wr64 (by omega) (by omega)).trans (by omega)
     rw [wk,wl]
     refine ⟨fun g=>⟨by omega,by have:=of_decide_eq_true g;omega,fun a ha=>⟨by omega,by have:=of_decide_eq_true g;omega,fun b hb=> ?_⟩⟩,fun g=>⟨by omega,by omega,fun a ha=> ?_⟩⟩
     · have g:=of_decide_eq_true g
       have hk:k<C.length:=by omega
       rw [Int.toNat_natCast,q1,List.getElem?_append_left hk] at ha
       rw [Int.toNat_natCast,q2,List.getElem?_append_left hk,ha] at hb
       obtain rfl:=Option.some.inj hb
       refine ⟨fun n=> ?_,fun _=>⟨⟨k+1,C.length-(k+1)⟩,⟨hk,rfl⟩,(by show C.length-(k+1)+1<=r;omega),by simp⟩⟩
       simp at n
     · rw [Int.toNat_natCast,q2,List.getElem?_append_right (by omega),List.getElem?_append_right (by omega)] at ha
       rw [show C.length+p.length-C.length-p.length=0 by omega] at ha
       obtain rfl:=Option.some.inj ha
       exact ⟨fun _=>⟨fun _=>by trivial,fun n=>absurd n (by simp [iNN])⟩,fun n=>absurd n (by simp [iNN])⟩
set_option maxHeartbeats 1000000 in
theorem Zzb (hs:SumOk E 8 Zi0) (t:Tar) (x:Cls) (hb:(t.clauses.length+1)*112<=140737488355328):PureC E 6 [.agg (encF false .tariffs t),.agg (encF false .clauses x)] (.bool false true):=by
 refine Za E_ok (Ze E_ok (Z3p hs) 400) ?_
 rw [Zu9];delta qCV9 qCVc qCVe qCV4 qCVh qCVa qCVf qCV8 qCVg qCV1 qCV2 qCV3 qCV5 qCV6 qCVd qCV7 qCVb
 rw [Ex.eta]
 refine And.intro (fun h0=> ?_) (fun h0=> ?_)
 · refine And.intro (by simp) (And.intro trivial ?_)
   refine Zf2 (t:=t) (x:=x) ?_ ?_
   · rw [h0];rfl
   · simp
 · have:=List.length_pos_iff.2 h0
   refine And.intro ?_ (And.intro ?_ (And.intro ?_ (And.intro ?_ ?_)))
   · refine And.intro ?_ ?_
     · rw [Nat.zero_add,Nat.zero_add];exact this
     · rw [Nat.zero_add];exact Nat.le_trans (Nat.mul_le_mul_right _ (Nat.le_succ _)) hb
   · refine And.intro ?_ (And.intro ?_ ?_)
     · rw [Nat.zero_add];exact Nat.le_refl _
     · exact Nat.zero_le _
     · rw [Nat.zero_add];exact hb
   · simp
   · trivial
   refine Zf2 (t:=t) (x:=x) ?_ ?_
   · simp only [Nat.zero_add,List.drop_zero,List.nil_append,List.take_length]
     exact List.take_of_length_le (by simp)
   · simp
end
end Go.Proofs.YtpmkapclhlmbbaaGreatDoor
