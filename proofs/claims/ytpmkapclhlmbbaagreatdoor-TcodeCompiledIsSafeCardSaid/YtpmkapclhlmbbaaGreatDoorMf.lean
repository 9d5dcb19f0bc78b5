/- Merged texts: TpIa, TpIb, TcL. -/
import Derived.Test.YtpmkapclhlmbbaaGreatDoorMe
namespace Go.Proofs.YtpmkapclhlmbbaaGreatDoor
set_option linter.unusedVariables false
set_option linter.unusedSimpArgs false
set_option linter.unnecessarySimpa false
set_option maxRecDepth 100000
section
open Go
def ndK (u:Int) (k:Res thy->Prop):List Int->Prop
 | []=>True
 |j::r=>((Lib.nDigits u.toNat:Int)=j->k (quiet [] (.int true .i64 j)))/\ndK u k r
noncomputable def Snd:Sum thy:=fun args _ _ k=>
 match args with
 | [.int _ .u64 u]=>(1<=u/\u<10000000000000)/\ndK u k [1,2,3,4,5,6,7,8,9,10,11,12,13]
 |_=>False
noncomputable def Z1l:Sum thy:=Zce (dA1 dN) (fun x=>0<=x.1/\x.1<100) (fun x=>(Lib.itoa x.1).map UInt8.toNat) fun y=> .str false y
noncomputable def Fit:Fns thy:=addS (addS F0 177 Snd) 176 Z1l
def smT:List Nat:=
 toL (ByteArray.mk (List.toArray (List.append (List.append [(48:UInt8),(48:UInt8),(48:UInt8),(49:UInt8),(48:UInt8),(50:UInt8),(48:UInt8),(51:UInt8),(48:
 UInt8),(52:UInt8),(48:UInt8),(53:UInt8),(48:UInt8),(54:UInt8),(48:UInt8),(55:UInt8),(48:UInt8),(56:UInt8),(48:UInt8),(57:UInt8),(49:UInt8),(48
 :UInt8),(49:UInt8),(49:UInt8),(49:UInt8),(50:UInt8),(49:UInt8),(51:UInt8),(49:UInt8),(52:UInt8),(49:UInt8),(53:UInt8),(49:UInt8),(54:UInt8),
 (49:UInt8),(55:UInt8),(49:UInt8),(56:UInt8),(49:UInt8),(57:UInt8),(50:UInt8),(48:UInt8),(50:UInt8),(49:UInt8),(50:UInt8),(50:UInt8),(50:
 UInt8),(51:UInt8),(50:UInt8),(52:UInt8)] [(50:UInt8),(53:UInt8),(50:UInt8),(54:UInt8),(50:UInt8),(55:UInt8),(50:UInt8),(56:UInt8),(50:UInt8),(57
 :UInt8),(51:UInt8),(48:UInt8),(51:UInt8),(49:UInt8),(51:UInt8),(50:UInt8),(51:UInt8),(51:UInt8),(51:UInt8),(52:UInt8),(51:UInt8),(53:UInt8),
 (51:UInt8),(54:UInt8),(51:UInt8),(55:UInt8),(51:UInt8),(56:UInt8),(51:UInt8),(57:UInt8),(52:UInt8),(48:UInt8),(52:UInt8),(49:UInt8),(52:
 UInt8),(50:UInt8),(52:UInt8),(51:UInt8),(52:UInt8),(52:UInt8),(52:UInt8),(53:UInt8),(52:UInt8),(54:UInt8),(52:UInt8),(55:UInt8),(52:UInt8),(56
 :UInt8),(52:UInt8),(57:UInt8)]) (List.append [(53:UInt8),(48:UInt8),(53:UInt8),(49:UInt8),(53:UInt8),(50:UInt8),(53:UInt8),(51:UInt8),(53:UInt8),
 (52:UInt8),(53:UInt8),(53:UInt8),(53:UInt8),(54:UInt8),(53:UInt8),(55:UInt8),(53:UInt8),(56:UInt8),(53:UInt8),(57:UInt8),(54:UInt8),(48:
 UInt8),(54:UInt8),(49:UInt8),(54:UInt8),(50:UInt8),(54:UInt8),(51:UInt8),(54:UInt8),(52:UInt8),(54:UInt8),(53:UInt8),(54:UInt8),(54:UInt8),(54
 :UInt8),(55:UInt8),(54:UInt8),(56:UInt8),(54:UInt8),(57:UInt8),(55:UInt8),(48:UInt8),(55:UInt8),(49:UInt8),(55:UInt8),(50:UInt8),(55:UInt8),
 (51:UInt8),(55:UInt8),(52:UInt8)] [(55:UInt8),(53:UInt8),(55:UInt8),(54:UInt8),(55:UInt8),(55:UInt8),(55:UInt8),(56:UInt8),(55:UInt8),(57:
 UInt8),(56:UInt8),(48:UInt8),(56:UInt8),(49:UInt8),(56:UInt8),(50:UInt8),(56:UInt8),(51:UInt8),(56:UInt8),(52:UInt8),(56:UInt8),(53:UInt8),(56
 :UInt8),(54:UInt8),(56:UInt8),(55:UInt8),(56:UInt8),(56:UInt8),(56:UInt8),(57:UInt8),(57:UInt8),(48:UInt8),(57:UInt8),(49:UInt8),(57:UInt8),
 (50:UInt8),(57:UInt8),(51:UInt8),(57:UInt8),(52:UInt8),(57:UInt8),(53:UInt8),(57:UInt8),(54:UInt8),(57:UInt8),(55:UInt8),(57:UInt8),(56:
 UInt8),(57:UInt8),(57:UInt8)]))))
abbrev qCQo:=(0:Int)
abbrev qCQ3 (a0:Int):=(wr IntKind.u64 (qCQo-wr IntKind.u64 a0))
abbrev Zl9:=(100000000:Int)
abbrev qCQ1 (a0:Int):=(wr IntKind.u32 (Int.tmod (qCQ3 a0) Zl9))
abbrev qCQ2 (a0:Int):=(wr IntKind.u32 (Int.tmod (wr IntKind.u64 a0) Zl9))
abbrev qCQ4:=(10000:Int)
abbrev qCQ5:=(↑(List.length smT):Int)
abbrev qCQ6:=(100:Int)
abbrev qCQ7 (a0:Int):=(wr IntKind.u32 (wr IntKind.u64 (Int.tdiv (wr IntKind.u64 a0) Zl9)))
abbrev qCQ8:=(256:Nat)
abbrev qCQc:=(2:Int)
abbrev qCQ9 (a0:Int):=(wr IntKind.u32 (Int.tdiv (wr IntKind.u32 (Int.tdiv (qCQ1 a0) qCQ4)) qCQ6)*qCQc)
abbrev qCQa (a0:Int):=(wr IntKind.u32 (Int.tdiv (wr IntKind.u32 (Int.tdiv (qCQ2 a0) qCQ4)) qCQ6)*qCQc)
abbrev qCQb (a0:Int):=(wr IntKind.u32 (wr IntKind.u64 (Int.tdiv (qCQ3 a0) Zl9)))
abbrev qCQd:=(1:Int)
abbrev qCQe (a0:Int):=(wr IntKind.u32 (wr IntKind.u64 a0))
abbrev qCQf (a0:Int):=(wr IntKind.u32 (Int.tdiv (Int.tmod (qCQ1 a0) qCQ4) qCQ6)*qCQc)
abbrev qCQg (a0:Int):=(Int.tmod (wr IntKind.u32 (Int.tdiv (qCQ1 a0) qCQ4)) qCQ6*qCQc)
abbrev qCQh (a0:Int):=(wr IntKind.u32 (Int.tdiv (Int.tmod (qCQ2 a0) qCQ4) qCQ6)*qCQc)
abbrev qCQi (a0:Int):=(Int.tmod (wr IntKind.u32 (Int.tdiv (qCQ2 a0) qCQ4)) qCQ6*qCQc)
abbrev Zjl (a0:Int):=(wr IntKind.u32 (qCQ3 a0))
abbrev qCQj (a0:Int):=(wr IntKind.u32 (Int.tdiv (Int.tmod (Zjl a0) qCQ4) qCQ6)*qCQc)
abbrev qCQk (a0:Int):=(Int.tmod (Int.tmod (qCQ1 a0) qCQ4) qCQ6*qCQc)
abbrev qCQl (a0:Int):=(Int.tmod (Int.tmod (qCQ2 a0) qCQ4) qCQ6*qCQc)
abbrev qCQm (a0:Int):=(Int.tmod (Int.tmod (Zjl a0) qCQ4) qCQ6*qCQc)
abbrev qCQn (a0:Int):=(wr IntKind.u32 (Int.tdiv (Int.tmod (qCQe a0) qCQ4) qCQ6)*qCQc)
abbrev qCQp (a0:Int):=(Int.tmod (Int.tmod (qCQe a0) qCQ4) qCQ6*qCQc)
abbrev qCQq (a0:Int):=(Int.tmod (wr IntKind.u32 (Int.tdiv (Zjl a0) qCQ4)) qCQ6*qCQc)
abbrev qCQr (a0:Nat):=(↑a0:Int)
abbrev qCQs (a0:Int):=(wr IntKind.u32 (Int.tdiv (Int.tmod (qCQb a0) qCQ4) qCQ6)*qCQc)
abbrev qCQt (a0:Int):=(Int.tmod (wr IntKind.u32 (Int.tdiv (qCQe a0) qCQ4)) qCQ6*qCQc)
abbrev qCQu (a0:Int):=(wr IntKind.u32 (Int.tdiv (Int.tmod (qCQ7 a0) qCQ4) qCQ6)*qCQc)
abbrev qCQv (a0:Int):=(↑(Lib.nDigits (Int.toNat (wr IntKind.u64 a0))):Int)
abbrev qCQw (a0:Int):=(Int.tmod (Zjl a0) qCQ6*qCQc)
abbrev qCQx (a0:Int):=(Int.tmod (Int.tmod (qCQb a0) qCQ4) qCQ6*qCQc)
abbrev qCQy (a0:Int):=(Int.tmod (Int.tmod (qCQ7 a0) qCQ4) qCQ6*qCQc)
abbrev qCQz (a0:Int):=(↑(Lib.nDigits (Int.toNat (qCQ3 a0))):Int)
abbrev Za8 (a0:Int):=(wr IntKind.u32 (qCQk a0)+qCQd)
abbrev Za9 (a0:Int):=(wr IntKind.u32 (qCQf a0)+qCQd)
abbrev Zba (a0:Int):=(wr IntKind.u32 (qCQg a0)+qCQd)
abbrev Zbb (a0:Int):=(wr IntKind.u32 (qCQ9 a0)+qCQd)
abbrev Zbc (a0:Int):=(wr IntKind.u32 (qCQl a0)+qCQd)
abbrev Zbd (a0:Int):=(wr IntKind.u32 (qCQh a0)+qCQd)
abbrev Zbe (a0:Int):=(wr IntKind.u32 (qCQi a0)+qCQd)
abbrev Zbf (a0:Int):=(wr IntKind.u32 (qCQa a0)+qCQd)
abbrev Zb3 (a0:Int):=(wr IntKind.u32 (qCQm a0)+qCQd)
abbrev Zb4 (a0:Int):=(wr IntKind.u32 (qCQj a0)+qCQd)
abbrev Zb5 (a0:Int):=(wr IntKind.u32 (qCQp a0)+qCQd)
abbrev Zb6 (a0:Int):=(wr IntKind.u32 (qCQn a0)+qCQd)
abbrev Zjm (a0:Int):=(Int.tmod (qCQb a0) qCQ6*qCQc)
abbrev Zjn (a0:Int):=(Int.tmod (qCQe a0) qCQ6*qCQc)
abbrev Zjo (a0:Int):=(Int.tmod (qCQ7 a0) qCQ6*qCQc)
abbrev Uz:=(48:Int)
abbrev Xv:=(45:Int)
abbrev Zma (a0:Int):=(wr IntKind.u32 (Zjm a0)+qCQd)
abbrev Zmb (a0:Int):=(wr IntKind.u32 (Zjn a0)+qCQd)
abbrev Zmc (a0:Int):=(wr IntKind.u32 (Zjo a0)+qCQd)
abbrev Zmd (a0:Int):=(wr IntKind.u32 (qCQw a0)+qCQd)
abbrev Zme (a0:Int):=(wr IntKind.u32 (qCQq a0)+qCQd)
abbrev Zmf (a0:Int):=(wr IntKind.u32 (qCQx a0)+qCQd)
abbrev Zmg (a0:Int):=(wr IntKind.u32 (qCQs a0)+qCQd)
abbrev Zmh (a0:Int):=(wr IntKind.u32 (qCQt a0)+qCQd)
abbrev Zmi (a0:Int):=(wr IntKind.u32 (qCQy a0)+qCQd)
abbrev Zmj (a0:Int):=(wr IntKind.u32 (qCQu a0)+qCQd)
abbrev Z3a (a0:Int):=(wr IntKind.u8 (wr IntKind.u32 (Uz+wr IntKind.u32 (wr IntKind.u64 (Int.tdiv (wr IntKind.u64 a0) Zl9)))))
abbrev Z3b (a0:Int):=(wr IntKind.u8 (wr IntKind.u32 (Uz+wr IntKind.u32 (Int.tdiv (wr IntKind.u32 (Int.tdiv (Zjl a0) qCQ4)) qCQ6))))
abbrev Z3c (a0:Int):=(wr IntKind.u8 (wr IntKind.u32 (Uz+wr IntKind.u32 (Int.tdiv (wr IntKind.u32 (Int.tdiv (qCQe a0) qCQ4)) qCQ6))))
abbrev Zt (a0:Int):=(a0<qCQo)
abbrev Z3d (a0:Int):=(wr IntKind.u8 (wr IntKind.u32 (Uz+wr IntKind.u32 (wr IntKind.u64 (Int.tdiv (qCQ3 a0) Zl9)))))
abbrev Zmk (a0:Int):=(wr IntKind.u32 (Za8 a0))
abbrev Zml (a0:Int):=(wr IntKind.u32 (Za9 a0))
abbrev Zmm (a0:Int):=(wr IntKind.u32 (Zba a0))
abbrev Zmn (a0:Int):=(wr IntKind.u32 (Zbb a0))
abbrev Zmo (a0:Int):=(wr IntKind.u32 (Zbc a0))
abbrev Zmp (a0:Int):=(wr IntKind.u32 (Zbd a0))
abbrev Zmq (a0:Int):=(wr IntKind.u32 (Zbe a0))
abbrev Zmr (a0:Int):=(wr IntKind.u32 (Zbf a0))
abbrev Z3e (a0:Int) (b0:Nat) (c0:Nat) (d0:Nat) (e0:Nat) (f0:Nat) (g0:Nat) (h0:List Nat):=(decide (Zt a0)=true-> [Int.toNat Xv%qCQ8,Int.toNat (qCQr b0)%qCQ8,Int.toNat (qCQr c0)%qCQ8,Int.toNat (qCQr d0)%qCQ8,Int.toNat (qCQr e0)%qCQ8,Int.toNat (qCQr f0)%qCQ8,Int.toNat (qCQr g0)%qCQ8]=h0)
abbrev Zms (a0:Int):=(wr IntKind.u32 (qCQk a0))
abbrev Zmt (a0:Int):=(wr IntKind.u32 (qCQf a0))
abbrev Zmu (a0:Int):=(wr IntKind.u32 (qCQg a0))
abbrev Zmv (a0:Int):=(wr IntKind.u32 (qCQ9 a0))
abbrev Zmw (a0:Int):=(wr IntKind.u32 (qCQl a0))
abbrev Zmx (a0:Int):=(wr IntKind.u32 (qCQh a0))
abbrev Zmy (a0:Int):=(wr IntKind.u32 (qCQi a0))
abbrev Zmz (a0:Int):=(wr IntKind.u32 (qCQa a0))
abbrev Z3f (a0:Int):=(wr IntKind.u8 (wr IntKind.u32 (Uz+wr IntKind.u32 (Int.tdiv (Zjl a0) qCQ6))))
abbrev Z3g (a0:Int):=(wr IntKind.u8 (wr IntKind.u32 (Uz+wr IntKind.u32 (Int.tdiv (Zjl a0) qCQ4))))
abbrev Z3h (a0:Int):=(wr IntKind.u8 (wr IntKind.u32 (Uz+wr IntKind.u32 (Int.tdiv (qCQb a0) qCQ6))))
abbrev Z3i (a0:Int):=(wr IntKind.u8 (wr IntKind.u32 (Uz+wr IntKind.u32 (Int.tdiv (qCQb a0) qCQ4))))
abbrev Z3j (a0:Int):=(wr IntKind.u8 (wr IntKind.u32 (Uz+wr IntKind.u32 (Int.tdiv (qCQe a0) qCQ6))))
abbrev Z3k (a0:Int):=(wr IntKind.u8 (wr IntKind.u32 (Uz+wr IntKind.u32 (Int.tdiv (qCQe a0) qCQ4))))
abbrev Z3l (a0:Int):=(wr IntKind.u8 (wr IntKind.u32 (Uz+wr IntKind.u32 (Int.tdiv (qCQ7 a0) qCQ6))))
abbrev Z3m (a0:Int):=(wr IntKind.u8 (wr IntKind.u32 (Uz+wr IntKind.u32 (Int.tdiv (qCQ7 a0) qCQ4))))
abbrev Z3n (a0:Int):=(wr IntKind.u8 (wr IntKind.u32 (Uz+wr IntKind.u32 (wr IntKind.u64 a0))))
abbrev Z3o (a0:Int) (b0:Nat) (c0:Nat) (d0:Nat) (e0:Nat) (f0:List Nat):=(decide (Zt a0)=true-> [Int.toNat Xv%qCQ8,Int.toNat (qCQr b0)%qCQ8,Int.toNat (qCQr c0)%qCQ8,Int.toNat (qCQr d0)%qCQ8,Int.toNat (qCQr e0)%qCQ8]=f0)
abbrev Z3p (a0:Int) (b0:Nat) (c0:Nat) (d0:Nat) (e0:Nat) (f0:Nat) (g0:Nat) (h0:List Nat):=(decide (Zt a0)=false-> [Int.toNat (qCQr b0)%qCQ8,Int.toNat (qCQr c0)%qCQ8,Int.toNat (qCQr d0)%qCQ8,Int.toNat (qCQr e0)%qCQ8,Int.toNat (qCQr f0)%qCQ8,Int.toNat (qCQr g0)%qCQ8]=h0)
theorem Zvb (n:Int) (v:List Nat):Zi E Fit (vc E Fit 2000) 68 [.int false .i64 n] hp0 0 (fun r=>ret E (patch hp0 0 r) r.v (.str false v))=(
 ∃(Q:Bool->Prop),((decide (qCQo<=n)=true->(decide (n<qCQ6)=true->Q true)/\(decide (n<qCQ6)=false->Q false))/\(decide (qCQo<=n)=false->Q false))/\(Q true->(qCQo<=n/\n+qCQd<=qCQ6)/\∀(y:List Nat),y=List.map UInt8.toNat (Lib.itoa n)->y=v)/\(Q false->(decide (Zt n)=true->(qCQd<=wr IntKind.u64 (qCQo-wr IntKind.u64 n)/\wr IntKind.u64 (qCQo-wr IntKind.u64 n)+qCQd<=(10000000000000:Int))/\((qCQz n)=qCQd->(decide (Zt n)=true-> [Int.toNat Xv%qCQ8,Int.toNat (wr IntKind.u8 (wr IntKind.u32 (Uz+wr IntKind.u32 (qCQ3 n))))%qCQ8]=v)/\(decide (Zt n)=false-> [Int.toNat (wr IntKind.u8 (wr IntKind.u32 (Uz+wr IntKind.u32 (qCQ3 n))))%qCQ8]=v))/\((qCQz n)=qCQc->qCQo<=wr IntKind.u32 (Zmd n)/\wr IntKind.u32 (Zmd n)+qCQd<=qCQ5/\∀(x:Nat),smT[Int.toNat (wr IntKind.u32 (Zmd n))]? =some x->qCQo<=wr IntKind.u32 (qCQw n)/\wr IntKind.u32 (qCQw n)+qCQd<=qCQ5/\∀(x_1:Nat),smT[Int.toNat (wr IntKind.u32 (qCQw n))]? =some x_1->(decide (Zt n)=true-> [Int.toNat Xv%qCQ8,Int.toNat (qCQr x_1)%qCQ8,Int.toNat (qCQr x)%qCQ8]=v)/\(decide (Zt n)=false-> [Int.toNat (qCQr x_1)%qCQ8,Int.toNat (qCQr x)%qCQ8]=v))/\((qCQz n)=(3:Int)->qCQo<=wr IntKind.u32 (Zmd n)/\wr IntKind.u32 (Zmd n)+qCQd<=qCQ5/\∀(x:Nat),smT[Int.toNat (wr IntKind.u32 (Zmd n))]? =some x->qCQo<=wr IntKind.u32 (qCQw n)/\wr IntKind.u32 (qCQw n)+qCQd<=qCQ5/\∀(x_1:Nat),smT[Int.toNat (wr IntKind.u32 (qCQw n))]? =some x_1->(decide (Zt n)=true-> [Int.toNat Xv%qCQ8,Int.toNat (Z3f n)%qCQ8,Int.toNat (qCQr x_1)%qCQ8,Int.toNat (qCQr x)%qCQ8]=v)/\(decide (Zt n)=false-> [Int.toNat (Z3f n)%qCQ8,Int.toNat (qCQr x_1)%qCQ8,Int.toNat (qCQr x)%qCQ8]=v))/\((qCQz n)=(4:Int)->qCQo<=wr IntKind.u32 (Zb3 n)/\wr IntKind.u32 (Zb3 n)+qCQd<=qCQ5/\∀(x:Nat),smT[Int.toNat (wr IntKind.u32 (Zb3 n))]? =some x->qCQo<=wr IntKind.u32 (qCQm n)/\wr IntKind.u32 (qCQm n)+qCQd<=qCQ5/\∀(x_1:Nat),smT[Int.toNat (wr IntKind.u32 (qCQm n))]? =some x_1->qCQo<=wr IntKind.u32 (Zb4 n)/\wr IntKind.u32 (Zb4 n)+qCQd<=qCQ5/\∀(x_2:Nat),smT[Int.toNat (wr IntKind.u32 (Zb4 n))]? =some x_2->qCQo<=wr IntKind.u32 (qCQj n)/\wr IntKind.u32 (qCQj n)+qCQd<=qCQ5/\∀(x_3:Nat),smT[Int.toNat (wr IntKind.u32 (qCQj n))]? =some x_3->(Z3o n x_3 x_2 x_1 x v)/\(decide (Zt n)=false-> [Int.toNat (qCQr x_3)%qCQ8,Int.toNat (qCQr x_2)%qCQ8,Int.toNat (qCQr x_1)%qCQ8,Int.toNat (qCQr x)%qCQ8]=v))/\((qCQz n)=(5:Int)->qCQo<=wr IntKind.u32 (Zb3 n)/\wr IntKind.u32 (Zb3 n)+qCQd<=qCQ5/\∀(x:Nat),smT[Int.toNat (wr IntKind.u32 (Zb3 n))]? =some x->qCQo<=wr IntKind.u32 (qCQm n)/\wr IntKind.u32 (qCQm n)+qCQd<=qCQ5/\∀(x_1:Nat),smT[Int.toNat (wr IntKind.u32 (qCQm n))]? =some x_1->qCQo<=wr IntKind.u32 (Zb4 n)/\wr IntKind.u32 (Zb4 n)+qCQd<=qCQ5/\∀(x_2:Nat),smT[Int.toNat (wr IntKind.u32 (Zb4 n))]? =some x_2->qCQo<=wr IntKind.u32 (qCQj n)/\wr IntKind.u32 (qCQj n)+qCQd<=qCQ5/\∀(x_3:Nat),smT[Int.toNat (wr IntKind.u32 (qCQj n))]? =some x_3->(decide (Zt n)=true-> [Int.toNat Xv%qCQ8,Int.toNat (Z3g n)%qCQ8,Int.toNat (qCQr x_3)%qCQ8,Int.toNat (qCQr x_2)%qCQ8,Int.toNat (qCQr x_1)%qCQ8,Int.toNat (qCQr x)%qCQ8]=v)/\(decide (Zt n)=false-> [Int.toNat (Z3g n)%qCQ8,Int.toNat (qCQr x_3)%qCQ8,Int.toNat (qCQr x_2)%qCQ8,Int.toNat (qCQr x_1)%qCQ8,Int.toNat (qCQr x)%qCQ8]=v))/\((qCQz n)=(6:Int)->qCQo<=wr IntKind.u32 (Zb3 n)/\wr IntKind.u32 (Zb3 n)+qCQd<=qCQ5/\∀(x:Nat),smT[Int.toNat (wr IntKind.u32 (Zb3 n))]? =some x->qCQo<=wr IntKind.u32 (qCQm n)/\wr IntKind.u32 (qCQm n)+qCQd<=qCQ5/\∀(x_1:Nat),smT[Int.toNat (wr IntKind.u32 (qCQm n))]? =some x_1->qCQo<=wr IntKind.u32 (Zb4 n)/\wr IntKind.u32 (Zb4 n)+qCQd<=qCQ5/\∀(x_2:Nat),smT[Int.toNat (wr IntKind.u32
(Zb4 n))]? =some x_2->qCQo<=wr IntKind.u32 (qCQj n)/\wr IntKind.u32 (qCQj n)+qCQd<=qCQ5/\∀(x_3:Nat),smT[Int.toNat (wr IntKind.u32 (qCQj n))]? =some x_3->qCQo<=wr IntKind.u32 (Zme n)/\wr IntKind.u32 (Zme n)+qCQd<=qCQ5/\∀(x_4:Nat),smT[Int.toNat (wr IntKind.u32 (Zme n))]? =some x_4->qCQo<=wr IntKind.u32 (qCQq n)/\wr IntKind.u32 (qCQq n)+qCQd<=qCQ5/\∀(x_5:Nat),smT[Int.toNat (wr IntKind.u32 (qCQq n))]? =some x_5->(Z3e n x_5 x_4 x_3 x_2 x_1 x v)/\(Z3p n x_5 x_4 x_3 x_2 x_1 x v))/\((qCQz n)=(7:Int)->qCQo<=wr IntKind.u32 (Zb3 n)/\wr IntKind.u32 (Zb3 n)+qCQd<=qCQ5/\∀(x:Nat),smT[Int.toNat (wr IntKind.u32 (Zb3 n))]? =some x->qCQo<=wr IntKind.u32 (qCQm n)/\wr IntKind.u32 (qCQm n)+qCQd<=qCQ5/\∀(x_1:Nat),smT[Int.toNat (wr IntKind.u32 (qCQm n))]? =some x_1->qCQo<=wr IntKind.u32 (Zb4 n)/\wr IntKind.u32 (Zb4 n)+qCQd<=qCQ5/\∀(x_2:Nat),smT[Int.toNat (wr IntKind.u32 (Zb4 n))]? =some x_2->qCQo<=wr IntKind.u32 (qCQj n)/\wr IntKind.u32 (qCQj n)+qCQd<=qCQ5/\∀(x_3:Nat),smT[Int.toNat (wr IntKind.u32 (qCQj n))]? =some x_3->qCQo<=wr IntKind.u32 (Zme n)/\wr IntKind.u32 (Zme n)+qCQd<=qCQ5/\∀(x_4:Nat),smT[Int.toNat (wr IntKind.u32 (Zme n))]? =some x_4->qCQo<=wr IntKind.u32 (qCQq n)/\wr IntKind.u32 (qCQq n)+qCQd<=qCQ5/\∀(x_5:Nat),smT[Int.toNat (wr IntKind.u32 (qCQq n))]? =some x_5->(decide (Zt n)=true-> [Int.toNat Xv%qCQ8,Int.toNat (Z3b n)%qCQ8,Int.toNat (qCQr x_5)%qCQ8,Int.toNat (qCQr x_4)%qCQ8,Int.toNat (qCQr x_3)%qCQ8,Int.toNat (qCQr x_2)%qCQ8,Int.toNat (qCQr x_1)%qCQ8,Int.toNat (qCQr x)%qCQ8]=v)/\(decide (Zt n)=false-> [Int.toNat (Z3b n)%qCQ8,Int.toNat (qCQr x_5)%qCQ8,Int.toNat (qCQr x_4)%qCQ8,Int.toNat (qCQr x_3)%qCQ8,Int.toNat (qCQr x_2)%qCQ8,Int.toNat (qCQr x_1)%qCQ8,Int.toNat (qCQr x)%qCQ8]=v))/\((qCQz n)=(8:Int)->qCQo<=wr IntKind.u32 (Za8 n)/\wr IntKind.u32 (Za8 n)+qCQd<=qCQ5/\∀(x:Nat),smT[Int.toNat (Zmk n)]? =some x->qCQo<=wr IntKind.u32 (qCQk n)/\wr IntKind.u32 (qCQk n)+qCQd<=qCQ5/\∀(x_1:Nat),smT[Int.toNat (Zms n)]? =some x_1->qCQo<=wr IntKind.u32 (Za9 n)/\wr IntKind.u32 (Za9 n)+qCQd<=qCQ5/\∀(x_2:Nat),smT[Int.toNat (Zml n)]? =some x_2->qCQo<=wr IntKind.u32 (qCQf n)/\wr IntKind.u32 (qCQf n)+qCQd<=qCQ5/\∀(x_3:Nat),smT[Int.toNat (Zmt n)]? =some x_3->qCQo<=wr IntKind.u32 (Zba n)/\wr IntKind.u32 (Zba n)+qCQd<=qCQ5/\∀(x_4:Nat),smT[Int.toNat (Zmm n)]? =some x_4->qCQo<=wr IntKind.u32 (qCQg n)/\wr IntKind.u32 (qCQg n)+qCQd<=qCQ5/\∀(x_5:Nat),smT[Int.toNat (Zmu n)]? =some x_5->qCQo<=wr IntKind.u32 (Zbb n)/\wr IntKind.u32 (Zbb n)+qCQd<=qCQ5/\∀(x_6:Nat),smT[Int.toNat (Zmn n)]? =some x_6->qCQo<=wr IntKind.u32 (qCQ9 n)/\wr IntKind.u32 (qCQ9 n)+qCQd<=qCQ5/\∀(x_7:Nat),smT[Int.toNat (Zmv n)]? =some x_7->(decide (Zt n)=true-> [Int.toNat Xv%qCQ8,Int.toNat (qCQr x_7)%qCQ8,Int.toNat (qCQr x_6)%qCQ8,Int.toNat (qCQr x_5)%qCQ8,Int.toNat (qCQr x_4)%qCQ8,Int.toNat (qCQr x_3)%qCQ8,Int.toNat (qCQr x_2)%qCQ8,Int.toNat (qCQr x_1)%qCQ8,Int.toNat (qCQr x)%qCQ8]=v)/\(decide (Zt n)=false-> [Int.toNat (qCQr x_7)%qCQ8,Int.toNat (qCQr x_6)%qCQ8,Int.toNat (qCQr x_5)%qCQ8,Int.toNat (qCQr x_4)%qCQ8,Int.toNat (qCQr x_3)%qCQ8,Int.toNat (qCQr x_2)%qCQ8,Int.toNat (qCQr x_1)%qCQ8,Int.toNat (qCQr x)%qCQ8]=v))/\((qCQz n)=(9:Int)->qCQo<=wr IntKind.u32 (Za8 n)/\wr IntKind.u32 (Za8 n)+qCQd<=qCQ5/\∀(x:Nat),smT[Int.toNat (Zmk n)]? =some x->qCQo<=wr IntKind.u32 (qCQk n)/\wr IntKind.u32 (qCQk n)+qCQd<=qCQ5/\∀(x_1:Nat),smT[Int.toNat (Zms n)]? =some x_1->qCQo<=wr IntKind.u32 (Za9 n)/\wr IntKind.u32 (Za9 n)+qCQd<=qCQ5/\∀(x_2:Nat),smT[Int.toNat (Zml n)]? =some x_2->qCQo<=wr IntKind.u32 (qCQf n)/\wr IntKind.u32 (qCQf n)+qCQd<=qCQ5/\∀(x_3:
Nat),smT[Int.toNat (Zmt n)]? =some x_3->qCQo<=wr IntKind.u32 (Zba n)/\wr IntKind.u32 (Zba n)+qCQd<=qCQ5/\∀(x_4:Nat),smT[Int.toNat (Zmm n)]? =some x_4->qCQo<=wr IntKind.u32 (qCQg n)/\wr IntKind.u32 (qCQg n)+qCQd<=qCQ5/\∀(x_5:Nat),smT[Int.toNat (Zmu n)]? =some x_5->qCQo<=wr IntKind.u32 (Zbb n)/\wr IntKind.u32 (Zbb n)+qCQd<=qCQ5/\∀(x_6:Nat),smT[Int.toNat (Zmn n)]? =some x_6->qCQo<=wr IntKind.u32 (qCQ9 n)/\wr IntKind.u32 (qCQ9 n)+qCQd<=qCQ5/\∀(x_7:Nat),smT[Int.toNat (Zmv n)]? =some x_7->(decide (Zt n)=true-> [Int.toNat Xv%qCQ8,Int.toNat (Z3d n)%qCQ8,Int.toNat (qCQr x_7)%qCQ8,Int.toNat (qCQr x_6)%qCQ8,Int.toNat (qCQr x_5)%qCQ8,Int.toNat (qCQr x_4)%qCQ8,Int.toNat (qCQr x_3)%qCQ8,Int.toNat (qCQr x_2)%qCQ8,Int.toNat (qCQr x_1)%qCQ8,Int.toNat (qCQr x)%qCQ8]=v)/\(decide (Zt n)=false-> [Int.toNat (Z3d n)%qCQ8,Int.toNat (qCQr x_7)%qCQ8,Int.toNat (qCQr x_6)%qCQ8,Int.toNat (qCQr x_5)%qCQ8,Int.toNat (qCQr x_4)%qCQ8,Int.toNat (qCQr x_3)%qCQ8,Int.toNat (qCQr x_2)%qCQ8,Int.toNat (qCQr x_1)%qCQ8,Int.toNat (qCQr x)%qCQ8]=v))/\((qCQz n)=(10:Int)->qCQo<=wr IntKind.u32 (Za8 n)/\wr IntKind.u32 (Za8 n)+qCQd<=qCQ5/\∀(x:Nat),smT[Int.toNat (Zmk n)]? =some x->qCQo<=wr IntKind.u32 (qCQk n)/\wr IntKind.u32 (qCQk n)+qCQd<=qCQ5/\∀(x_1:Nat),smT[Int.toNat (Zms n)]? =some x_1->qCQo<=wr IntKind.u32 (Za9 n)/\wr IntKind.u32 (Za9 n)+qCQd<=qCQ5/\∀(x_2:Nat),smT[Int.toNat (Zml n)]? =some x_2->qCQo<=wr IntKind.u32 (qCQf n)/\wr IntKind.u32 (qCQf n)+qCQd<=qCQ5/\∀(x_3:Nat),smT[Int.toNat (Zmt n)]? =some x_3->qCQo<=wr IntKind.u32 (Zba n)/\wr IntKind.u32 (Zba n)+qCQd<=qCQ5/\∀(x_4:Nat),smT[Int.toNat (Zmm n)]? =some x_4->qCQo<=wr IntKind.u32 (qCQg n)/\wr IntKind.u32 (qCQg n)+qCQd<=qCQ5/\∀(x_5:Nat),smT[Int.toNat (Zmu n)]? =some x_5->qCQo<=wr IntKind.u32 (Zbb n)/\wr IntKind.u32 (Zbb n)+qCQd<=qCQ5/\∀(x_6:Nat),smT[Int.toNat (Zmn n)]? =some x_6->qCQo<=wr IntKind.u32 (qCQ9 n)/\wr IntKind.u32 (qCQ9 n)+qCQd<=qCQ5/\∀(x_7:Nat),smT[Int.toNat (Zmv n)]? =some x_7->qCQo<=wr IntKind.u32 (Zma n)/\wr IntKind.u32 (Zma n)+qCQd<=qCQ5/\∀(x_8:Nat),smT[Int.toNat (wr IntKind.u32 (Zma n))]? =some x_8->qCQo<=wr IntKind.u32 (Zjm n)/\wr IntKind.u32 (Zjm n)+qCQd<=qCQ5/\∀(x_9:Nat),smT[Int.toNat (wr IntKind.u32 (Zjm n))]? =some x_9->(decide (Zt n)=true-> [Int.toNat Xv%qCQ8,Int.toNat (qCQr x_9)%qCQ8,Int.toNat (qCQr x_8)%qCQ8,Int.toNat (qCQr x_7)%qCQ8,Int.toNat (qCQr x_6)%qCQ8,Int.toNat (qCQr x_5)%qCQ8,Int.toNat (qCQr x_4)%qCQ8,Int.toNat (qCQr x_3)%qCQ8,Int.toNat (qCQr x_2)%qCQ8,Int.toNat (qCQr x_1)%qCQ8,Int.toNat (qCQr x)%qCQ8]=v)/\(decide (Zt n)=false-> [Int.toNat (qCQr x_9)%qCQ8,Int.toNat (qCQr x_8)%qCQ8,Int.toNat (qCQr x_7)%qCQ8,Int.toNat (qCQr x_6)%qCQ8,Int.toNat (qCQr x_5)%qCQ8,Int.toNat (qCQr x_4)%qCQ8,Int.toNat (qCQr x_3)%qCQ8,Int.toNat (qCQr x_2)%qCQ8,Int.toNat (qCQr x_1)%qCQ8,Int.toNat (qCQr x)%qCQ8]=v))/\((qCQz n)=(11:Int)->qCQo<=wr IntKind.u32 (Za8 n)/\wr IntKind.u32 (Za8 n)+qCQd<=qCQ5/\∀(x:Nat),smT[Int.toNat (Zmk n)]? =some x->qCQo<=wr IntKind.u32 (qCQk n)/\wr IntKind.u32 (qCQk n)+qCQd<=qCQ5/\∀(x_1:Nat),smT[Int.toNat (Zms n)]? =some x_1->qCQo<=wr IntKind.u32 (Za9 n)/\wr IntKind.u32 (Za9 n)+qCQd<=qCQ5/\∀(x_2:Nat),smT[Int.toNat (Zml n)]? =some x_2->qCQo<=wr IntKind.u32 (qCQf n)/\wr IntKind.u32 (qCQf n)+qCQd<=qCQ5/\∀(x_3:Nat),smT[Int.toNat (Zmt n)]? =some x_3->qCQo<=wr IntKind.u32 (Zba n)/\wr IntKind.u32 (Zba n)+qCQd<=qCQ5/\∀(x_4:Nat),smT[Int.toNat (Zmm n)]? =some x_4->qCQo<=wr IntKind.u32 (qCQg n)/\wr IntKind.u32 (qCQg n)+qCQd<=qCQ5/\∀(x_5:Nat),smT[Int.toNat (Zmu n)]? =some x_5->qCQo<=wr IntKind.u32 (Zbb n)/\
wr IntKind.u32 (Zbb n)+qCQd<=qCQ5/\∀(x_6:Nat),smT[Int.toNat (Zmn n)]? =some x_6->qCQo<=wr IntKind.u32 (qCQ9 n)/\wr IntKind.u32 (qCQ9 n)+qCQd<=qCQ5/\∀(x_7:Nat),smT[Int.toNat (Zmv n)]? =some x_7->qCQo<=wr IntKind.u32 (Zma n)/\wr IntKind.u32 (Zma n)+qCQd<=qCQ5/\∀(x_8:Nat),smT[Int.toNat (wr IntKind.u32 (Zma n))]? =some x_8->qCQo<=wr IntKind.u32 (Zjm n)/\wr IntKind.u32 (Zjm n)+qCQd<=qCQ5/\∀(x_9:Nat),smT[Int.toNat (wr IntKind.u32 (Zjm n))]? =some x_9->(decide (Zt n)=true-> [Int.toNat Xv%qCQ8,Int.toNat (Z3h n)%qCQ8,Int.toNat (qCQr x_9)%qCQ8,Int.toNat (qCQr x_8)%qCQ8,Int.toNat (qCQr x_7)%qCQ8,Int.toNat (qCQr x_6)%qCQ8,Int.toNat (qCQr x_5)%qCQ8,Int.toNat (qCQr x_4)%qCQ8,Int.toNat (qCQr x_3)%qCQ8,Int.toNat (qCQr x_2)%qCQ8,Int.toNat (qCQr x_1)%qCQ8,Int.toNat (qCQr x)%qCQ8]=v)/\(decide (Zt n)=false-> [Int.toNat (Z3h n)%qCQ8,Int.toNat (qCQr x_9)%qCQ8,Int.toNat (qCQr x_8)%qCQ8,Int.toNat (qCQr x_7)%qCQ8,Int.toNat (qCQr x_6)%qCQ8,Int.toNat (qCQr x_5)%qCQ8,Int.toNat (qCQr x_4)%qCQ8,Int.toNat (qCQr x_3)%qCQ8,Int.toNat (qCQr x_2)%qCQ8,Int.toNat (qCQr x_1)%qCQ8,Int.toNat (qCQr x)%qCQ8]=v))/\((qCQz n)=(12:Int)->qCQo<=wr IntKind.u32 (Za8 n)/\wr IntKind.u32 (Za8 n)+qCQd<=qCQ5/\∀(x:Nat),smT[Int.toNat (Zmk n)]? =some x->qCQo<=wr IntKind.u32 (qCQk n)/\wr IntKind.u32 (qCQk n)+qCQd<=qCQ5/\∀(x_1:Nat),smT[Int.toNat (Zms n)]? =some x_1->qCQo<=wr IntKind.u32 (Za9 n)/\wr IntKind.u32 (Za9 n)+qCQd<=qCQ5/\∀(x_2:Nat),smT[Int.toNat (Zml n)]? =some x_2->qCQo<=wr IntKind.u32 (qCQf n)/\wr IntKind.u32 (qCQf n)+qCQd<=qCQ5/\∀(x_3:Nat),smT[Int.toNat (Zmt n)]? =some x_3->qCQo<=wr IntKind.u32 (Zba n)/\wr IntKind.u32 (Zba n)+qCQd<=qCQ5/\∀(x_4:Nat),smT[Int.toNat (Zmm n)]? =some x_4->qCQo<=wr IntKind.u32 (qCQg n)/\wr IntKind.u32 (qCQg n)+qCQd<=qCQ5/\∀(x_5:Nat),smT[Int.toNat (Zmu n)]? =some x_5->qCQo<=wr IntKind.u32 (Zbb n)/\wr IntKind.u32 (Zbb n)+qCQd<=qCQ5/\∀(x_6:Nat),smT[Int.toNat (Zmn n)]? =some x_6->qCQo<=wr IntKind.u32 (qCQ9 n)/\wr IntKind.u32 (qCQ9 n)+qCQd<=qCQ5/\∀(x_7:Nat),smT[Int.toNat (Zmv n)]? =some x_7->qCQo<=wr IntKind.u32 (Zmf n)/\wr IntKind.u32 (Zmf n)+qCQd<=qCQ5/\∀(x_8:Nat),smT[Int.toNat (wr IntKind.u32 (Zmf n))]? =some x_8->qCQo<=wr IntKind.u32 (qCQx n)/\wr IntKind.u32 (qCQx n)+qCQd<=qCQ5/\∀(x_9:Nat),smT[Int.toNat (wr IntKind.u32 (qCQx n))]? =some x_9->qCQo<=wr IntKind.u32 (Zmg n)/\wr IntKind.u32 (Zmg n)+qCQd<=qCQ5/\∀(x_10:Nat),smT[Int.toNat (wr IntKind.u32 (Zmg n))]? =some x_10->qCQo<=wr IntKind.u32 (qCQs n)/\wr IntKind.u32 (qCQs n)+qCQd<=qCQ5/\∀(x_11:Nat),smT[Int.toNat (wr IntKind.u32 (qCQs n))]? =some x_11->(decide (Zt n)=true-> [Int.toNat Xv%qCQ8,Int.toNat (qCQr x_11)%qCQ8,Int.toNat (qCQr x_10)%qCQ8,Int.toNat (qCQr x_9)%qCQ8,Int.toNat (qCQr x_8)%qCQ8,Int.toNat (qCQr x_7)%qCQ8,Int.toNat (qCQr x_6)%qCQ8,Int.toNat (qCQr x_5)%qCQ8,Int.toNat (qCQr x_4)%qCQ8,Int.toNat (qCQr x_3)%qCQ8,Int.toNat (qCQr x_2)%qCQ8,Int.toNat (qCQr x_1)%qCQ8,Int.toNat (qCQr x)%qCQ8]=v)/\(decide (Zt n)=false-> [Int.toNat (qCQr x_11)%qCQ8,Int.toNat (qCQr x_10)%qCQ8,Int.toNat (qCQr x_9)%qCQ8,Int.toNat (qCQr x_8)%qCQ8,Int.toNat (qCQr x_7)%qCQ8,Int.toNat (qCQr x_6)%qCQ8,Int.toNat (qCQr x_5)%qCQ8,Int.toNat (qCQr x_4)%qCQ8,Int.toNat (qCQr x_3)%qCQ8,Int.toNat (qCQr x_2)%qCQ8,Int.toNat (qCQr x_1)%qCQ8,Int.toNat (qCQr x)%qCQ8]=v))/\((qCQz n)=(13:Int)->qCQo<=wr IntKind.u32 (Za8 n)/\wr IntKind.u32 (Za8 n)+qCQd<=qCQ5/\∀(x:Nat),smT[Int.toNat (Zmk n)]? =some x->qCQo<=wr IntKind.u32 (qCQk n)/\wr IntKind.u32 (qCQk n)+qCQd<=qCQ5/\∀(x_1:Nat),smT[Int.toNat (Zms n)]? =some x_1->qCQo<=wr IntKind.u32 (Za9 n)/\wr IntKind.u32 (Za9 n)+
qCQd<=qCQ5/\∀(x_2:Nat),smT[Int.toNat (Zml n)]? =some x_2->qCQo<=wr IntKind.u32 (qCQf n)/\wr IntKind.u32 (qCQf n)+qCQd<=qCQ5/\∀(x_3:Nat),smT[Int.toNat (Zmt n)]? =some x_3->qCQo<=wr IntKind.u32 (Zba n)/\wr IntKind.u32 (Zba n)+qCQd<=qCQ5/\∀(x_4:Nat),smT[Int.toNat (Zmm n)]? =some x_4->qCQo<=wr IntKind.u32 (qCQg n)/\wr IntKind.u32 (qCQg n)+qCQd<=qCQ5/\∀(x_5:Nat),smT[Int.toNat (Zmu n)]? =some x_5->qCQo<=wr IntKind.u32 (Zbb n)/\wr IntKind.u32 (Zbb n)+qCQd<=qCQ5/\∀(x_6:Nat),smT[Int.toNat (Zmn n)]? =some x_6->qCQo<=wr IntKind.u32 (qCQ9 n)/\wr IntKind.u32 (qCQ9 n)+qCQd<=qCQ5/\∀(x_7:Nat),smT[Int.toNat (Zmv n)]? =some x_7->qCQo<=wr IntKind.u32 (Zmf n)/\wr IntKind.u32 (Zmf n)+qCQd<=qCQ5/\∀(x_8:Nat),smT[Int.toNat (wr IntKind.u32 (Zmf n))]? =some x_8->qCQo<=wr IntKind.u32 (qCQx n)/\wr IntKind.u32 (qCQx n)+qCQd<=qCQ5/\∀(x_9:Nat),smT[Int.toNat (wr IntKind.u32 (qCQx n))]? =some x_9->qCQo<=wr IntKind.u32 (Zmg n)/\wr IntKind.u32 (Zmg n)+qCQd<=qCQ5/\∀(x_10:Nat),smT[Int.toNat (wr IntKind.u32 (Zmg n))]? =some x_10->qCQo<=wr IntKind.u32 (qCQs n)/\wr IntKind.u32 (qCQs n)+qCQd<=qCQ5/\∀(x_11:Nat),smT[Int.toNat (wr IntKind.u32 (qCQs n))]? =some x_11->(decide (Zt n)=true-> [Int.toNat Xv%qCQ8,Int.toNat (Z3i n)%qCQ8,Int.toNat (qCQr x_11)%qCQ8,Int.toNat (qCQr x_10)%qCQ8,Int.toNat (qCQr x_9)%qCQ8,Int.toNat (qCQr x_8)%qCQ8,Int.toNat (qCQr x_7)%qCQ8,Int.toNat (qCQr x_6)%qCQ8,Int.toNat (qCQr x_5)%qCQ8,Int.toNat (qCQr x_4)%qCQ8,Int.toNat (qCQr x_3)%qCQ8,Int.toNat (qCQr x_2)%qCQ8,Int.toNat (qCQr x_1)%qCQ8,Int.toNat (qCQr x)%qCQ8]=v)/\(decide (Zt n)=false-> [Int.toNat (Z3i n)%qCQ8,Int.toNat (qCQr x_11)%qCQ8,Int.toNat (qCQr x_10)%qCQ8,Int.toNat (qCQr x_9)%qCQ8,Int.toNat (qCQr x_8)%qCQ8,Int.toNat (qCQr x_7)%qCQ8,Int.toNat (qCQr x_6)%qCQ8,Int.toNat (qCQr x_5)%qCQ8,Int.toNat (qCQr x_4)%qCQ8,Int.toNat (qCQr x_3)%qCQ8,Int.toNat (qCQr x_2)%qCQ8,Int.toNat (qCQr x_1)%qCQ8,Int.toNat (qCQr x)%qCQ8]=v))/\True)/\(decide (Zt n)=false->(qCQd<=wr IntKind.u64 n/\wr IntKind.u64 n+qCQd<=(10000000000000:Int))/\((qCQv n)=qCQd->(decide (Zt n)=true-> [Int.toNat Xv%qCQ8,Int.toNat (Z3n n)%qCQ8]=v)/\(decide (Zt n)=false-> [Int.toNat (Z3n n)%qCQ8]=v))/\((qCQv n)=qCQc->qCQo<=wr IntKind.u32 (Zmb n)/\wr IntKind.u32 (Zmb n)+qCQd<=qCQ5/\∀(x:Nat),smT[Int.toNat (wr IntKind.u32 (Zmb n))]? =some x->qCQo<=wr IntKind.u32 (Zjn n)/\wr IntKind.u32 (Zjn n)+qCQd<=qCQ5/\∀(x_1:Nat),smT[Int.toNat (wr IntKind.u32 (Zjn n))]? =some x_1->(decide (Zt n)=true-> [Int.toNat Xv%qCQ8,Int.toNat (qCQr x_1)%qCQ8,Int.toNat (qCQr x)%qCQ8]=v)/\(decide (Zt n)=false-> [Int.toNat (qCQr x_1)%qCQ8,Int.toNat (qCQr x)%qCQ8]=v))/\((qCQv n)=(3:Int)->qCQo<=wr IntKind.u32 (Zmb n)/\wr IntKind.u32 (Zmb n)+qCQd<=qCQ5/\∀(x:Nat),smT[Int.toNat (wr IntKind.u32 (Zmb n))]? =some x->qCQo<=wr IntKind.u32 (Zjn n)/\wr IntKind.u32 (Zjn n)+qCQd<=qCQ5/\∀(x_1:Nat),smT[Int.toNat (wr IntKind.u32 (Zjn n))]? =some x_1->(decide (Zt n)=true-> [Int.toNat Xv%qCQ8,Int.toNat (Z3j n)%qCQ8,Int.toNat (qCQr x_1)%qCQ8,Int.toNat (qCQr x)%qCQ8]=v)/\(decide (Zt n)=false-> [Int.toNat (Z3j n)%qCQ8,Int.toNat (qCQr x_1)%qCQ8,Int.toNat (qCQr x)%qCQ8]=v))/\((qCQv n)=(4:Int)->qCQo<=wr IntKind.u32 (Zb5 n)/\wr IntKind.u32 (Zb5 n)+qCQd<=qCQ5/\∀(x:Nat),smT[Int.toNat (wr IntKind.u32 (Zb5 n))]? =some x->qCQo<=wr IntKind.u32 (qCQp n)/\wr IntKind.u32 (qCQp n)+qCQd<=qCQ5/\∀(x_1:Nat),smT[Int.toNat (wr IntKind.u32 (qCQp n))]? =some x_1->qCQo<=wr IntKind.u32 (Zb6 n)/\wr IntKind.u32 (Zb6 n)+qCQd<=qCQ5/\∀(x_2:Nat),smT[Int.toNat (wr IntKind.u32 (Zb6 n))]? =some x_2->qCQo<=wr IntKind.u32 (qCQn n)
/\wr IntKind.u32 (qCQn n)+qCQd<=qCQ5/\∀(x_3:Nat),smT[Int.toNat (wr IntKind.u32 (qCQn n))]? =some x_3->(Z3o n x_3 x_2 x_1 x v)/\(decide (Zt n)=false-> [Int.toNat (qCQr x_3)%qCQ8,Int.toNat (qCQr x_2)%qCQ8,Int.toNat (qCQr x_1)%qCQ8,Int.toNat (qCQr x)%qCQ8]=v))/\((qCQv n)=(5:Int)->qCQo<=wr IntKind.u32 (Zb5 n)/\wr IntKind.u32 (Zb5 n)+qCQd<=qCQ5/\∀(x:Nat),smT[Int.toNat (wr IntKind.u32 (Zb5 n))]? =some x->qCQo<=wr IntKind.u32 (qCQp n)/\wr IntKind.u32 (qCQp n)+qCQd<=qCQ5/\∀(x_1:Nat),smT[Int.toNat (wr IntKind.u32 (qCQp n))]? =some x_1->qCQo<=wr IntKind.u32 (Zb6 n)/\wr IntKind.u32 (Zb6 n)+qCQd<=qCQ5/\∀(x_2:Nat),smT[Int.toNat (wr IntKind.u32 (Zb6 n))]? =some x_2->qCQo<=wr IntKind.u32 (qCQn n)/\wr IntKind.u32 (qCQn n)+qCQd<=qCQ5/\∀(x_3:Nat),smT[Int.toNat (wr IntKind.u32 (qCQn n))]? =some x_3->(decide (Zt n)=true-> [Int.toNat Xv%qCQ8,Int.toNat (Z3k n)%qCQ8,Int.toNat (qCQr x_3)%qCQ8,Int.toNat (qCQr x_2)%qCQ8,Int.toNat (qCQr x_1)%qCQ8,Int.toNat (qCQr x)%qCQ8]=v)/\(decide (Zt n)=false-> [Int.toNat (Z3k n)%qCQ8,Int.toNat (qCQr x_3)%qCQ8,Int.toNat (qCQr x_2)%qCQ8,Int.toNat (qCQr x_1)%qCQ8,Int.toNat (qCQr x)%qCQ8]=v))/\((qCQv n)=(6:Int)->qCQo<=wr IntKind.u32 (Zb5 n)/\wr IntKind.u32 (Zb5 n)+qCQd<=qCQ5/\∀(x:Nat),smT[Int.toNat (wr IntKind.u32 (Zb5 n))]? =some x->qCQo<=wr IntKind.u32 (qCQp n)/\wr IntKind.u32 (qCQp n)+qCQd<=qCQ5/\∀(x_1:Nat),smT[Int.toNat (wr IntKind.u32 (qCQp n))]? =some x_1->qCQo<=wr IntKind.u32 (Zb6 n)/\wr IntKind.u32 (Zb6 n)+qCQd<=qCQ5/\∀(x_2:Nat),smT[Int.toNat (wr IntKind.u32 (Zb6 n))]? =some x_2->qCQo<=wr IntKind.u32 (qCQn n)/\wr IntKind.u32 (qCQn n)+qCQd<=qCQ5/\∀(x_3:Nat),smT[Int.toNat (wr IntKind.u32 (qCQn n))]? =some x_3->qCQo<=wr IntKind.u32 (Zmh n)/\wr IntKind.u32 (Zmh n)+qCQd<=qCQ5/\∀(x_4:Nat),smT[Int.toNat (wr IntKind.u32 (Zmh n))]? =some x_4->qCQo<=wr IntKind.u32 (qCQt n)/\wr IntKind.u32 (qCQt n)+qCQd<=qCQ5/\∀(x_5:Nat),smT[Int.toNat (wr IntKind.u32 (qCQt n))]? =some x_5->(Z3e n x_5 x_4 x_3 x_2 x_1 x v)/\(Z3p n x_5 x_4 x_3 x_2 x_1 x v))/\((qCQv n)=(7:Int)->qCQo<=wr IntKind.u32 (Zb5 n)/\wr IntKind.u32 (Zb5 n)+qCQd<=qCQ5/\∀(x:Nat),smT[Int.toNat (wr IntKind.u32 (Zb5 n))]? =some x->qCQo<=wr IntKind.u32 (qCQp n)/\wr IntKind.u32 (qCQp n)+qCQd<=qCQ5/\∀(x_1:Nat),smT[Int.toNat (wr IntKind.u32 (qCQp n))]? =some x_1->qCQo<=wr IntKind.u32 (Zb6 n)/\wr IntKind.u32 (Zb6 n)+qCQd<=qCQ5/\∀(x_2:Nat),smT[Int.toNat (wr IntKind.u32 (Zb6 n))]? =some x_2->qCQo<=wr IntKind.u32 (qCQn n)/\wr IntKind.u32 (qCQn n)+qCQd<=qCQ5/\∀(x_3:Nat),smT[Int.toNat (wr IntKind.u32 (qCQn n))]? =some x_3->qCQo<=wr IntKind.u32 (Zmh n)/\wr IntKind.u32 (Zmh n)+qCQd<=qCQ5/\∀(x_4:Nat),smT[Int.toNat (wr IntKind.u32 (Zmh n))]? =some x_4->qCQo<=wr IntKind.u32 (qCQt n)/\wr IntKind.u32 (qCQt n)+qCQd<=qCQ5/\∀(x_5:Nat),smT[Int.toNat (wr IntKind.u32 (qCQt n))]? =some x_5->(decide (Zt n)=true-> [Int.toNat Xv%qCQ8,Int.toNat (Z3c n)%qCQ8,Int.toNat (qCQr x_5)%qCQ8,Int.toNat (qCQr x_4)%qCQ8,Int.toNat (qCQr x_3)%qCQ8,Int.toNat (qCQr x_2)%qCQ8,Int.toNat (qCQr x_1)%qCQ8,Int.toNat (qCQr x)%qCQ8]=v)/\(decide (Zt n)=false-> [Int.toNat (Z3c n)%qCQ8,Int.toNat (qCQr x_5)%qCQ8,Int.toNat (qCQr x_4)%qCQ8,Int.toNat (qCQr x_3)%qCQ8,Int.toNat (qCQr x_2)%qCQ8,Int.toNat (qCQr x_1)%qCQ8,Int.toNat (qCQr x)%qCQ8]=v))/\((qCQv n)=(8:Int)->qCQo<=wr IntKind.u32 (Zbc n)/\wr IntKind.u32 (Zbc n)+qCQd<=qCQ5/\∀(x:Nat),smT[Int.toNat (Zmo n)]? =some x->qCQo<=wr IntKind.u32 (qCQl n)/\wr IntKind.u32 (qCQl n)+qCQd<=qCQ5/\∀(x_1:Nat),smT[Int.toNat (Zmw n)]? =some x_1->qCQo<=wr IntKind.u32 (Zbd n)/\wr IntKind.u32 (Zbd n)+qCQd<=qCQ5/\∀(x_2:Nat),smT[Int.toNat (Zmp
n)]? =some x_2->qCQo<=wr IntKind.u32 (qCQh n)/\wr IntKind.u32 (qCQh n)+qCQd<=qCQ5/\∀(x_3:Nat),smT[Int.toNat (Zmx n)]? =some x_3->qCQo<=wr IntKind.u32 (Zbe n)/\wr IntKind.u32 (Zbe n)+qCQd<=qCQ5/\∀(x_4:Nat),smT[Int.toNat (Zmq n)]? =some x_4->qCQo<=wr IntKind.u32 (qCQi n)/\wr IntKind.u32 (qCQi n)+qCQd<=qCQ5/\∀(x_5:Nat),smT[Int.toNat (Zmy n)]? =some x_5->qCQo<=wr IntKind.u32 (Zbf n)/\wr IntKind.u32 (Zbf n)+qCQd<=qCQ5/\∀(x_6:Nat),smT[Int.toNat (Zmr n)]? =some x_6->qCQo<=wr IntKind.u32 (qCQa n)/\wr IntKind.u32 (qCQa n)+qCQd<=qCQ5/\∀(x_7:Nat),smT[Int.toNat (Zmz n)]? =some x_7->(decide (Zt n)=true-> [Int.toNat Xv%qCQ8,Int.toNat (qCQr x_7)%qCQ8,Int.toNat (qCQr x_6)%qCQ8,Int.toNat (qCQr x_5)%qCQ8,Int.toNat (qCQr x_4)%qCQ8,Int.toNat (qCQr x_3)%qCQ8,Int.toNat (qCQr x_2)%qCQ8,Int.toNat (qCQr x_1)%qCQ8,Int.toNat (qCQr x)%qCQ8]=v)/\(decide (Zt n)=false-> [Int.toNat (qCQr x_7)%qCQ8,Int.toNat (qCQr x_6)%qCQ8,Int.toNat (qCQr x_5)%qCQ8,Int.toNat (qCQr x_4)%qCQ8,Int.toNat (qCQr x_3)%qCQ8,Int.toNat (qCQr x_2)%qCQ8,Int.toNat (qCQr x_1)%qCQ8,Int.toNat (qCQr x)%qCQ8]=v))/\((qCQv n)=(9:Int)->qCQo<=wr IntKind.u32 (Zbc n)/\wr IntKind.u32 (Zbc n)+qCQd<=qCQ5/\∀(x:Nat),smT[Int.toNat (Zmo n)]? =some x->qCQo<=wr IntKind.u32 (qCQl n)/\wr IntKind.u32 (qCQl n)+qCQd<=qCQ5/\∀(x_1:Nat),smT[Int.toNat (Zmw n)]? =some x_1->qCQo<=wr IntKind.u32 (Zbd n)/\wr IntKind.u32 (Zbd n)+qCQd<=qCQ5/\∀(x_2:Nat),smT[Int.toNat (Zmp n)]? =some x_2->qCQo<=wr IntKind.u32 (qCQh n)/\wr IntKind.u32 (qCQh n)+qCQd<=qCQ5/\∀(x_3:Nat),smT[Int.toNat (Zmx n)]? =some x_3->qCQo<=wr IntKind.u32 (Zbe n)/\wr IntKind.u32 (Zbe n)+qCQd<=qCQ5/\∀(x_4:Nat),smT[Int.toNat (Zmq n)]? =some x_4->qCQo<=wr IntKind.u32 (qCQi n)/\wr IntKind.u32 (qCQi n)+qCQd<=qCQ5/\∀(x_5:Nat),smT[Int.toNat (Zmy n)]? =some x_5->qCQo<=wr IntKind.u32 (Zbf n)/\wr IntKind.u32 (Zbf n)+qCQd<=qCQ5/\∀(x_6:Nat),smT[Int.toNat (Zmr n)]? =some x_6->qCQo<=wr IntKind.u32 (qCQa n)/\wr IntKind.u32 (qCQa n)+qCQd<=qCQ5/\∀(x_7:Nat),smT[Int.toNat (Zmz n)]? =some x_7->(decide (Zt n)=true-> [Int.toNat Xv%qCQ8,Int.toNat (Z3a n)%qCQ8,Int.toNat (qCQr x_7)%qCQ8,Int.toNat (qCQr x_6)%qCQ8,Int.toNat (qCQr x_5)%qCQ8,Int.toNat (qCQr x_4)%qCQ8,Int.toNat (qCQr x_3)%qCQ8,Int.toNat (qCQr x_2)%qCQ8,Int.toNat (qCQr x_1)%qCQ8,Int.toNat (qCQr x)%qCQ8]=v)/\(decide (Zt n)=false-> [Int.toNat (Z3a n)%qCQ8,Int.toNat (qCQr x_7)%qCQ8,Int.toNat (qCQr x_6)%qCQ8,Int.toNat (qCQr x_5)%qCQ8,Int.toNat (qCQr x_4)%qCQ8,Int.toNat (qCQr x_3)%qCQ8,Int.toNat (qCQr x_2)%qCQ8,Int.toNat (qCQr x_1)%qCQ8,Int.toNat (qCQr x)%qCQ8]=v))/\((qCQv n)=(10:Int)->qCQo<=wr IntKind.u32 (Zbc n)/\wr IntKind.u32 (Zbc n)+qCQd<=qCQ5/\∀(x:Nat),smT[Int.toNat (Zmo n)]? =some x->qCQo<=wr IntKind.u32 (qCQl n)/\wr IntKind.u32 (qCQl n)+qCQd<=qCQ5/\∀(x_1:Nat),smT[Int.toNat (Zmw n)]? =some x_1->qCQo<=wr IntKind.u32 (Zbd n)/\wr IntKind.u32 (Zbd n)+qCQd<=qCQ5/\∀(x_2:Nat),smT[Int.toNat (Zmp n)]? =some x_2->qCQo<=wr IntKind.u32 (qCQh n)/\wr IntKind.u32 (qCQh n)+qCQd<=qCQ5/\∀(x_3:Nat),smT[Int.toNat (Zmx n)]? =some x_3->qCQo<=wr IntKind.u32 (Zbe n)/\wr IntKind.u32 (Zbe n)+qCQd<=qCQ5/\∀(x_4:Nat),smT[Int.toNat (Zmq n)]? =some x_4->qCQo<=wr IntKind.u32 (qCQi n)/\wr IntKind.u32 (qCQi n)+qCQd<=qCQ5/\∀(x_5:Nat),smT[Int.toNat (Zmy n)]? =some x_5->qCQo<=wr IntKind.u32 (Zbf n)/\wr IntKind.u32 (Zbf n)+qCQd<=qCQ5/\∀(x_6:Nat),smT[Int.toNat (Zmr n)]? =some x_6->qCQo<=wr IntKind.u32 (qCQa n)/\wr IntKind.u32 (qCQa n)+qCQd<=qCQ5/\∀(x_7:Nat),smT[Int.toNat (Zmz n)]? =some x_7->qCQo<=wr IntKind.u32 (Zmc n)/\wr IntKind.u32 (Zmc n)+qCQd<=qCQ5/\∀(x_8:
Nat),smT[Int.toNat (wr IntKind.u32 (Zmc n))]? =some x_8->qCQo<=wr IntKind.u32 (Zjo n)/\wr IntKind.u32 (Zjo n)+qCQd<=qCQ5/\∀(x_9:Nat),smT[Int.toNat (wr IntKind.u32 (Zjo n))]? =some x_9->(decide (Zt n)=true-> [Int.toNat Xv%qCQ8,Int.toNat (qCQr x_9)%qCQ8,Int.toNat (qCQr x_8)%qCQ8,Int.toNat (qCQr x_7)%qCQ8,Int.toNat (qCQr x_6)%qCQ8,Int.toNat (qCQr x_5)%qCQ8,Int.toNat (qCQr x_4)%qCQ8,Int.toNat (qCQr x_3)%qCQ8,Int.toNat (qCQr x_2)%qCQ8,Int.toNat (qCQr x_1)%qCQ8,Int.toNat (qCQr x)%qCQ8]=v)/\(decide (Zt n)=false-> [Int.toNat (qCQr x_9)%qCQ8,Int.toNat (qCQr x_8)%qCQ8,Int.toNat (qCQr x_7)%qCQ8,Int.toNat (qCQr x_6)%qCQ8,Int.toNat (qCQr x_5)%qCQ8,Int.toNat (qCQr x_4)%qCQ8,Int.toNat (qCQr x_3)%qCQ8,Int.toNat (qCQr x_2)%qCQ8,Int.toNat (qCQr x_1)%qCQ8,Int.toNat (qCQr x)%qCQ8]=v))/\((qCQv n)=(11:Int)->qCQo<=wr IntKind.u32 (Zbc n)/\wr IntKind.u32 (Zbc n)+qCQd<=qCQ5/\∀(x:Nat),smT[Int.toNat (Zmo n)]? =some x->qCQo<=wr IntKind.u32 (qCQl n)/\wr IntKind.u32 (qCQl n)+qCQd<=qCQ5/\∀(x_1:Nat),smT[Int.toNat (Zmw n)]? =some x_1->qCQo<=wr IntKind.u32 (Zbd n)/\wr IntKind.u32 (Zbd n)+qCQd<=qCQ5/\∀(x_2:Nat),smT[Int.toNat (Zmp n)]? =some x_2->qCQo<=wr IntKind.u32 (qCQh n)/\wr IntKind.u32 (qCQh n)+qCQd<=qCQ5/\∀(x_3:Nat),smT[Int.toNat (Zmx n)]? =some x_3->qCQo<=wr IntKind.u32 (Zbe n)/\wr IntKind.u32 (Zbe n)+qCQd<=qCQ5/\∀(x_4:Nat),smT[Int.toNat (Zmq n)]? =some x_4->qCQo<=wr IntKind.u32 (qCQi n)/\wr IntKind.u32 (qCQi n)+qCQd<=qCQ5/\∀(x_5:Nat),smT[Int.toNat (Zmy n)]? =some x_5->qCQo<=wr IntKind.u32 (Zbf n)/\wr IntKind.u32 (Zbf n)+qCQd<=qCQ5/\∀(x_6:Nat),smT[Int.toNat (Zmr n)]? =some x_6->qCQo<=wr IntKind.u32 (qCQa n)/\wr IntKind.u32 (qCQa n)+qCQd<=qCQ5/\∀(x_7:Nat),smT[Int.toNat (Zmz n)]? =some x_7->qCQo<=wr IntKind.u32 (Zmc n)/\wr IntKind.u32 (Zmc n)+qCQd<=qCQ5/\∀(x_8:Nat),smT[Int.toNat (wr IntKind.u32 (Zmc n))]? =some x_8->qCQo<=wr IntKind.u32 (Zjo n)/\wr IntKind.u32 (Zjo n)+qCQd<=qCQ5/\∀(x_9:Nat),smT[Int.toNat (wr IntKind.u32 (Zjo n))]? =some x_9->(decide (Zt n)=true-> [Int.toNat Xv%qCQ8,Int.toNat (Z3l n)%qCQ8,Int.toNat (qCQr x_9)%qCQ8,Int.toNat (qCQr x_8)%qCQ8,Int.toNat (qCQr x_7)%qCQ8,Int.toNat (qCQr x_6)%qCQ8,Int.toNat (qCQr x_5)%qCQ8,Int.toNat (qCQr x_4)%qCQ8,Int.toNat (qCQr x_3)%qCQ8,Int.toNat (qCQr x_2)%qCQ8,Int.toNat (qCQr x_1)%qCQ8,Int.toNat (qCQr x)%qCQ8]=v)/\(decide (Zt n)=false-> [Int.toNat (Z3l n)%qCQ8,Int.toNat (qCQr x_9)%qCQ8,Int.toNat (qCQr x_8)%qCQ8,Int.toNat (qCQr x_7)%qCQ8,Int.toNat (qCQr x_6)%qCQ8,Int.toNat (qCQr x_5)%qCQ8,Int.toNat (qCQr x_4)%qCQ8,Int.toNat (qCQr x_3)%qCQ8,Int.toNat (qCQr x_2)%qCQ8,Int.toNat (qCQr x_1)%qCQ8,Int.toNat (qCQr x)%qCQ8]=v))/\((qCQv n)=(12:Int)->qCQo<=wr IntKind.u32 (Zbc n)/\wr IntKind.u32 (Zbc n)+qCQd<=qCQ5/\∀(x:Nat),smT[Int.toNat (Zmo n)]? =some x->qCQo<=wr IntKind.u32 (qCQl n)/\wr IntKind.u32 (qCQl n)+qCQd<=qCQ5/\∀(x_1:Nat),smT[Int.toNat (Zmw n)]? =some x_1->qCQo<=wr IntKind.u32 (Zbd n)/\wr IntKind.u32 (Zbd n)+qCQd<=qCQ5/\∀(x_2:Nat),smT[Int.toNat (Zmp n)]? =some x_2->qCQo<=wr IntKind.u32 (qCQh n)/\wr IntKind.u32 (qCQh n)+qCQd<=qCQ5/\∀(x_3:Nat),smT[Int.toNat (Zmx n)]? =some x_3->qCQo<=wr IntKind.u32 (Zbe n)/\wr IntKind.u32 (Zbe n)+qCQd<=qCQ5/\∀(x_4:Nat),smT[Int.toNat (Zmq n)]? =some x_4->qCQo<=wr IntKind.u32 (qCQi n)/\wr IntKind.u32 (qCQi n)+qCQd<=qCQ5/\∀(x_5:Nat),smT[Int.toNat (Zmy n)]? =some x_5->qCQo<=wr IntKind.u32 (Zbf n)/\wr IntKind.u32 (Zbf n)+qCQd<=qCQ5/\∀(x_6:Nat),smT[Int.toNat (Zmr n)]? =some x_6->qCQo<=wr IntKind.u32 (qCQa n)/\wr IntKind.u32 (qCQa n)+qCQd<=qCQ5/\∀(x_7:Nat),smT[Int.toNat (Zmz n)]? =some x_7->qCQo<=wr
IntKind.u32 (Zmi n)/\wr IntKind.u32 (Zmi n)+qCQd<=qCQ5/\∀(x_8:Nat),smT[Int.toNat (wr IntKind.u32 (Zmi n))]? =some x_8->qCQo<=wr IntKind.u32 (qCQy n)/\wr IntKind.u32 (qCQy n)+qCQd<=qCQ5/\∀(x_9:Nat),smT[Int.toNat (wr IntKind.u32 (qCQy n))]? =some x_9->qCQo<=wr IntKind.u32 (Zmj n)/\wr IntKind.u32 (Zmj n)+qCQd<=qCQ5/\∀(x_10:Nat),smT[Int.toNat (wr IntKind.u32 (Zmj n))]? =some x_10->qCQo<=wr IntKind.u32 (qCQu n)/\wr IntKind.u32 (qCQu n)+qCQd<=qCQ5/\∀(x_11:Nat),smT[Int.toNat (wr IntKind.u32 (qCQu n))]? =some x_11->(decide (Zt n)=true-> [Int.toNat Xv%qCQ8,Int.toNat (qCQr x_11)%qCQ8,Int.toNat (qCQr x_10)%qCQ8,Int.toNat (qCQr x_9)%qCQ8,Int.toNat (qCQr x_8)%qCQ8,Int.toNat (qCQr x_7)%qCQ8,Int.toNat (qCQr x_6)%qCQ8,Int.toNat (qCQr x_5)%qCQ8,Int.toNat (qCQr x_4)%qCQ8,Int.toNat (qCQr x_3)%qCQ8,Int.toNat (qCQr x_2)%qCQ8,Int.toNat (qCQr x_1)%qCQ8,Int.toNat (qCQr x)%qCQ8]=v)/\(decide (Zt n)=false-> [Int.toNat (qCQr x_11)%qCQ8,Int.toNat (qCQr x_10)%qCQ8,Int.toNat (qCQr x_9)%qCQ8,Int.toNat (qCQr x_8)%qCQ8,Int.toNat (qCQr x_7)%qCQ8,Int.toNat (qCQr x_6)%qCQ8,Int.toNat (qCQr x_5)%qCQ8,Int.toNat (qCQr x_4)%qCQ8,Int.toNat (qCQr x_3)%qCQ8,Int.toNat (qCQr x_2)%qCQ8,Int.toNat (qCQr x_1)%qCQ8,Int.toNat (qCQr x)%qCQ8]=v))/\((qCQv n)=(13:Int)->qCQo<=wr IntKind.u32 (Zbc n)/\wr IntKind.u32 (Zbc n)+qCQd<=qCQ5/\∀(x:Nat),smT[Int.toNat (Zmo n)]? =some x->qCQo<=wr IntKind.u32 (qCQl n)/\wr IntKind.u32 (qCQl n)+qCQd<=qCQ5/\∀(x_1:Nat),smT[Int.toNat (Zmw n)]? =some x_1->qCQo<=wr IntKind.u32 (Zbd n)/\wr IntKind.u32 (Zbd n)+qCQd<=qCQ5/\∀(x_2:Nat),smT[Int.toNat (Zmp n)]? =some x_2->qCQo<=wr IntKind.u32 (qCQh n)/\wr IntKind.u32 (qCQh n)+qCQd<=qCQ5/\∀(x_3:Nat),smT[Int.toNat (Zmx n)]? =some x_3->qCQo<=wr IntKind.u32 (Zbe n)/\wr IntKind.u32 (Zbe n)+qCQd<=qCQ5/\∀(x_4:Nat),smT[Int.toNat (Zmq n)]? =some x_4->qCQo<=wr IntKind.u32 (qCQi n)/\wr IntKind.u32 (qCQi n)+qCQd<=qCQ5/\∀(x_5:Nat),smT[Int.toNat (Zmy n)]? =some x_5->qCQo<=wr IntKind.u32 (Zbf n)/\wr IntKind.u32 (Zbf n)+qCQd<=qCQ5/\∀(x_6:Nat),smT[Int.toNat (Zmr n)]? =some x_6->qCQo<=wr IntKind.u32 (qCQa n)/\wr IntKind.u32 (qCQa n)+qCQd<=qCQ5/\∀(x_7:Nat),smT[Int.toNat (Zmz n)]? =some x_7->qCQo<=wr IntKind.u32 (Zmi n)/\wr IntKind.u32 (Zmi n)+qCQd<=qCQ5/\∀(x_8:Nat),smT[Int.toNat (wr IntKind.u32 (Zmi n))]? =some x_8->qCQo<=wr IntKind.u32 (qCQy n)/\wr IntKind.u32 (qCQy n)+qCQd<=qCQ5/\∀(x_9:Nat),smT[Int.toNat (wr IntKind.u32 (qCQy n))]? =some x_9->qCQo<=wr IntKind.u32 (Zmj n)/\wr IntKind.u32 (Zmj n)+qCQd<=qCQ5/\∀(x_10:Nat),smT[Int.toNat (wr IntKind.u32 (Zmj n))]? =some x_10->qCQo<=wr IntKind.u32 (qCQu n)/\wr IntKind.u32 (qCQu n)+qCQd<=qCQ5/\∀(x_11:Nat),smT[Int.toNat (wr IntKind.u32 (qCQu n))]? =some x_11->(decide (Zt n)=true-> [Int.toNat Xv%qCQ8,Int.toNat (Z3m n)%qCQ8,Int.toNat (qCQr x_11)%qCQ8,Int.toNat (qCQr x_10)%qCQ8,Int.toNat (qCQr x_9)%qCQ8,Int.toNat (qCQr x_8)%qCQ8,Int.toNat (qCQr x_7)%qCQ8,Int.toNat (qCQr x_6)%qCQ8,Int.toNat (qCQr x_5)%qCQ8,Int.toNat (qCQr x_4)%qCQ8,Int.toNat (qCQr x_3)%qCQ8,Int.toNat (qCQr x_2)%qCQ8,Int.toNat (qCQr x_1)%qCQ8,Int.toNat (qCQr x)%qCQ8]=v)/\(decide (Zt n)=false-> [Int.toNat (Z3m n)%qCQ8,Int.toNat (qCQr x_11)%qCQ8,Int.toNat (qCQr x_10)%qCQ8,Int.toNat (qCQr x_9)%qCQ8,Int.toNat (qCQr x_8)%qCQ8,Int.toNat (qCQr x_7)%qCQ8,Int.toNat (qCQr x_6)%qCQ8,Int.toNat (qCQr x_5)%qCQ8,Int.toNat (qCQr x_4)%qCQ8,Int.toNat (qCQr x_3)%qCQ8,Int.toNat (qCQr x_2)%qCQ8,Int.toNat (qCQr x_1)%qCQ8,Int.toNat (qCQr x)%qCQ8]=v))/\True))):=by kernel_rfl
end
section
open Go
theorem Z42:∀(k u:Nat),u<10^(k+1)->Lib.nDigits u<=k+1
 |0,u,h=>by rw [Lib.nDigits_small (by simpa using h)];exact Nat.le_refl _
 |k+1,u,h=>by
  by_cases h1:u<10
  · rw [Lib.nDigits_small h1];omega
  · rw [Lib.nDigits_big h1]
    rw [Nat.pow_succ] at h
    have:=Z42 k (u/10) (by omega)
    omega
theorem Ztd {u:Int} {k:Res thy->Prop}:∀{l:List Int},ndK u k l->∀j∈l,(Lib.nDigits u.toNat:Int)=j->k (quiet [] (.int true .i64 j))
 | [],_,j,hj,_=>by cases hj
 |x::r,h,j,hj,e=>by
  rcases List.mem_cons.1 hj with rfl|hj
  · exact h.1 e
  · exact Ztd h.2 j hj e
theorem in13 (d:Nat) (h1:1<=d) (h2:d<=13):(d:Int)∈ [(1:Int),2,3,4,5,6,7,8,9,10,11,12,13]:=by
 have:d=1\/d=2\/d=3\/d=4\/d=5\/d=6\/d=7\/d=8\/d=9\/d=10\/d=11\/d=12\/d=13:=by omega
 rcases this with rfl|rfl|rfl|rfl|rfl|rfl|rfl|rfl|rfl|rfl|rfl|rfl|rfl<;>decide
theorem Z43:SumOk E 177 Snd:=by
 have hS:SumOk E 177 (Zce (dA1 dU64) (fun x=>1<=x.1/\x.1<10000000000000) (fun x=>Lib.nDigits x.1.toNat) fun (y:Nat)=> .int true .i64 y):=Xe E_ok (Zd rfl) fun x h=>by
  have:=Z4s x.1.toNat (by omega) (by omega)
  rw [show ((x.1.toNat:Nat):Int)=x.1 by omega] at this
  intro g w vals hI hd
  refine (this g w vals hI hd).mono ?_
  rintro en w' ⟨u,he,g',h1,h2,h3⟩
  cases h3
  exact ⟨_,he,g',h1,h2,.int _ _ _⟩
 refine ⟨hS.good,fun args h i k hD hk=> ?_⟩
 unfold Snd at hk
 split at hk
 case h_2=>exact hk.elim
 rename_i l u
 obtain ⟨⟨h1,h2⟩,hk⟩:=hk
 refine hS.ok _ h i k hD ⟨⟨h1,h2⟩,fun y hy=> ?_⟩
 subst hy
 have hn:=Z42 12 u.toNat (by show u.toNat<10000000000000;omega)
 have hp:=Lib.nDigits_pos u.toNat
 refine Ztd hk _ (in13 _ hp hn) rfl
theorem Zte:SumOk E 176 Z1l:=Xe E_ok (Zd rfl) fun x h=>by
 have:=Zsy x.1.toNat (by omega)
 rw [show ((x.1.toNat:Nat):Int)=x.1 by omega] at this
 have e:Lib.itoa x.1=Lib.decDigits x.1.toNat:=by unfold Lib.itoa;rw [if_neg (by omega)]
 rw [e]
 exact this
theorem Z44:FnsOk E Fit:=Zc (Zc F0_ok Z43) Zte
def smV (i:Nat):Nat:=if i%2=0 then 48+i/2/10 else 48+i/2%10
theorem Z13:∀i,i<200->smT[i]? =some (smV i):=by decide+kernel
theorem Z14:smT.length=200:=by decide+kernel
theorem Z45 {e:Int} {P:Nat->Prop} (h0:0<=e) (h1:e<200) (h:P (smV e.toNat)):(0:Int)<=e/\e+(1:Int)<=(↑(List.length smT):Int)/\∀(x:Nat),smT[Int.toNat e]? =some x->P x:=by
 refine ⟨h0,by rw [Z14];omega,fun x hx=> ?_⟩
 rw [Z13 _ (by omega)] at hx
 cases hx
 exact h
theorem smE {x:Int} (h0:0<=x) (h1:x<100):smV (x*2).toNat%(256:Nat)=48+x.toNat/10:=by
 have:smV (x*2).toNat=48+x.toNat/10:=by
  unfold smV
  rw [if_pos (by omega)]
  congr 2
  omega
 rw [this]
 omega
theorem smO {x:Int} (h0:0<=x) (h1:x<100):smV (x*2+1).toNat%(256:Nat)=48+x.toNat%10:=by
 have:smV (x*2+1).toNat=48+x.toNat%10:=by
  unfold smV
  rw [if_neg (by omega)]
  congr 2
  omega
 rw [this]
 omega
theorem wu64 (x:Int):wr .u64 x=x%18446744073709551616:=rfl
theorem wu32 (x:Int):wr .u32 x=x%4294967296:=rfl
theorem wu8 (x:Int):wr .u8 x=x%256:=rfl
def dgN (u j:Nat):Nat:=48+u/10^j%10
theorem Zxq (u k:Nat) (h:Lib.nDigits u=k):(Lib.decDigits u).map UInt8.toNat=(List.range k).map fun t=>dgN u (k-1-t):=by
 rw [Lib.decDigits_eq,List.map_map,h]
 refine List.map_congr_left fun t _=> ?_
 show (Lib.dg u (k-1-t)).toNat=_
 unfold Lib.dg dgN
 rw [UInt8.toNat_ofNat']
 omega
set_option maxHeartbeats 4000000 in
theorem Ztf (u:Nat) (hu:u<10000000000000):PureC E 68 [.int false .i64 (u:Int)] (.str false (decN u)):=by
 refine Za E_ok (Ze E_ok Z44 2000) ?_
 rw [Zvb]; delta qCQo qCQ6 qCQd Zt qCQz Xv qCQ8 Uz qCQ3 qCQc Zmd qCQ5 qCQw qCQr Z3f Zb3 qCQm Zb4 qCQj Z3o Z3g Zme qCQq Z3e Z3p Z3b Za8 Zmk qCQk Zms Za9 Zml qCQf Zmt Zba Zmm qCQg Zmu Zbb Zmn qCQ9 Zmv Z3d Zma Zjm Z3h Zmf qCQx Zmg qCQs Z3i qCQv Z3n Zmb Zjn Z3j Zb5 qCQp Zb6 qCQn Z3k Zmh qCQt Z3c Zbc Zmo qCQl Zmw Zbd Zmp qCQh Zmx Zbe Zmq qCQi Zmy Zbf Zmr qCQa Zmz Z3a Zmc Zjo Z3l Zmi qCQy Zmj qCQu Z3m qCQ7 qCQ4 Zl9 qCQ2 qCQe qCQb qCQ1 Zjl
 have hdec:decN (u:Int)=(Lib.decDigits u).map UInt8.toNat:=by
  unfold decN Lib.itoa
  rw [if_neg (by omega)]
  rfl
 by_cases hs:u<100
 · refine ⟨fun b=>b=true,⟨fun _=>⟨fun _=>rfl,fun h=> ?_⟩,fun h=> ?_⟩,fun _=>⟨⟨by omega,by omega⟩,fun y hy=>hy⟩,fun h=>by cases h⟩
   · exact absurd h (by simp;omega)
   · exact absurd h (by simp)
 refine ⟨fun b=>b=false,⟨fun _=>⟨fun h=> ?_,fun _=>rfl⟩,fun _=>rfl⟩,fun h=>(by cases h),fun _=>⟨fun h=> ?_,fun _=> ?_⟩⟩
 · exact absurd h (by simp;omega)
 · exact absurd h (by simp)
 have e64:wr .u64 (u:Int)=u:=by rw [wu64];omega
 have hneg:decide ((u:Int)<0)=false:=by simp
 simp only [e64,hneg,Bool.false_eq_true,false_implies,true_implies,true_and,Int.toNat_natCast,and_true]
 rw [hdec]
 have hp:=Lib.lt_pow_nDigits u
 refine ⟨⟨by omega,by omega⟩,?_⟩
 repeat' apply And.intro
 all_goals
  intro hnd
  have hnd:=Int.ofNat.inj hnd
  rw [Zxq u _ hnd]
  rw [hnd] at hp
  simp only [Nat.reducePow] at hp
  clear hnd hdec e64 hneg
  simp (disch:=omega) only [wu64,wu32,wu8,Int.tmod_eq_emod_of_nonneg,Int.tdiv_eq_ediv_of_nonneg]
  simp (disch:=omega) only [Int.emod_eq_of_lt]
  repeat' (first|(refine Z45 ?_ ?_ ?_)|omega)
  all_goals try simp only [List.range,List.range.loop,List.map_cons,List.map_nil,dgN,List.cons.injEq,and_true,Nat.reduceSub,Nat.reducePow]
  all_goals (repeat' apply And.intro)
  all_goals try simp (disch:=omega) only [smE,smO]
  all_goals first|trivial|omega
end
section
open Go
def parC (l:Bool) (y:Tar×Int×Int):SV thy:= .tup [.agg [.str l y.1.name,.int l .i64 y.1.for_,.psl Th.clauses y.1.clauses false],.int l .i64 y.2.1,.int l .i64 y.2.2]
def exsC:List (List Nat×(Tar×Int×Int)):= [
 ([116,97,114,105,102,102,32,97,32,102,111,114,32,108,111,115,115,32,123,32,32,125],(⟨[97],5,[]⟩,0,0)),
 ([116,97,114,105,102,102,32,97,32,102,111,114,32,108,111,115,115,32,123,32,99,108,97,117,115,101,32,98,32,119,104,101,110,32,99,108,97,115,115,32,105,110,32,49,46,46,51,32,112,97,121,32,53,32,42,32,107,109,59,32,125],(⟨[97],5,[⟨[98],[⟨4,1,3⟩],.mk 5 0 0 0 0 0 [.mk 1 5 0 0 0 0 [],.mk 2 6 0 0 0 0 []]⟩]⟩,0,0)),
 ([116,97,114,105,102,102,32,97,32,102,111,114,32,108,111,115,115,32,123,32,99,108,97,117,115,101,32,98,32,112,97,121,32,105,102,32,40,107,109,32,60,32,57,44,32,49,44,32,50,41,59,32,125],(⟨[97],5,[⟨[98],[],.mk 11 0 0 0 0 0 [.mk 2 6 0 0 0 0 [],.mk 1 9 0 0 0 0 [],.mk 1 1 0 0 0 0 [],.mk 1 2 0 0 0 0 []]⟩]⟩,0,0))
]
def Zyp (s:List Nat):List (List Nat×(Tar×Int×Int))->Option (SV thy)
 | []=>none
 |p::r=>match eqL s p.1 with|true=>some (parC true p.2)|false=>Zyp s r
def Zd1:List (SV thy)->Option (SV thy)
 | [.str _ s]=>Zyp s exsC
 |_=>none
theorem Z2t:∀p∈exsC,Zcf p.1=p.2:=by
 unfold exsC
 simp only [List.forall_mem_cons]
 exact ⟨by kernel_rfl,by kernel_rfl,by kernel_rfl,fun _ h=>nomatch h⟩
def okTC (t:Tar):Bool:=(t.clauses.all fun c=>Nat.blt c.pay.sz 10000&&Nat.blt c.when_.length 10000)&&Nat.blt t.clauses.length 10000
noncomputable def Zlw (args:List (SV thy)):Option (SV thy):=
 match dTarC.dec (args.map unfl) with
 |some (t,_)=>(match okTC t with|true=>some (.tup [.psl Th.ins (Zx t).1 false,.int true .i64 (Zx t).2])|false=>none)
 |none=>none
def Zuo:List (SV thy)->Option (SV thy)
 | [.val (.slice none 0 0)]=>some (.tup [.int true .i64 (verF []).1,.int true .i64 (verF []).2])
 | [.psl .ins c _]=>some (.tup [.int true .i64 (verF c).1,.int true .i64 (verF c).2])
 |_=>none
def okCC (c:List Ins):Bool:=c.all fun x=>decide (x.n<10000000000000/\x.m<10000000000000)
def Zlx:List (SV thy)->Option (SV thy)
 | [.psl .ins c _]=>(match okCC c with|true=>some (.tup [.str true (Za0 c).1,.int true .i64 (Za0 c).2])|false=>none)
 |_=>none
def Zup:List (SV thy)->Option (SV thy)
 | [.str _ s,.str _ [b]]=>some (.int true .i64 (cntN s b))
 |_=>none
def Zly:List (SV thy)->Option (SV thy)
 | [.str _ s]=>(match Nat.ble s.length 1000,Lib.atoiAll (mkS s).data.toList with|true,.ok v=>some (.tup [.int true .i64 v,.val .nilIface])|_,_=>none)
 |_=>none
def gthC:List (SV thy)->Option Th:=fun _=>some Th.ins
noncomputable def Z2u:Fns thy:=Zdp (addS (addS (addS (addS (addS (addS F0 51 (sumO Zd1)) 10 (Zfq EL gthC 20 (sumO Zlw))) 14 (Zfq EL gthC 20 (sumO Zuo))) 15 (Zfq EL gthC 20 (sumO Zlx))) 41 (sumO Zup)) 45 (sumO Zly))
theorem Zq7 (v:Bool):Zi EL Z2u (vc EL Z2u 4000) 8 [] hp0 0 (fun r=>ret EL (patch hp0 0 r) r.v (.bool true v))=(
true=v):=by kernel_rfl
theorem X1 {E':Eng thy} {f:FuncId} {args:List (SV thy)} {v v':SV thy} (h:PureC E' f args v) (hv:∀σ g u,Den E' σ g v u->Den E' σ g v' u):PureC E' f args v':=by
 intro g w vals hI hd
 refine (h g w vals hI hd).mono ?_
 rintro en w' ⟨u,he,g',hS,hI',hu⟩
 exact ⟨u,he,g',hS,hI',hv _ _ _ hu⟩
theorem Zyq {E':Eng thy} {σ:Pl} {g:GH} {cs cs':List (SV thy)} {u:Value} (h:Den E' σ g (.agg cs) u) (hl:cs'.length=cs.length) (hm:∀(j:Nat) sv',cs'[j]? =some sv'->∃sv,cs[j]? =some sv/\∀u,Den E' σ g sv u->Den E' σ g sv' u):Den E' σ g (.agg cs') u:=by
 cases h with
 |agg c hs hc hd=>
  refine .agg c (hs.trans hl.symm) (fun j hj=>hc j (by omega)) fun j sv' hj=> ?_
  obtain ⟨sv,h1,h2⟩:=hm j sv' hj
  exact h2 _ (hd j sv h1)
theorem Za2 {E':Eng thy} {σ:Pl} {g:GH} {cs cs':List (SV thy)} {u:Value} (h:Den E' σ g (.tup cs) u) (hl:cs'.length=cs.length) (hm:∀(j:Nat) sv',cs'[j]? =some sv'->∃sv,cs[j]? =some sv/\∀u,Den E' σ g sv u->Den E' σ g sv' u):Den E' σ g (.tup cs') u:=by
 cases h with
 |tup c hs hc hd=>
  refine .tup c (hs.trans hl.symm) (fun j hj=>hc j (by omega)) fun j sv' hj=> ?_
  obtain ⟨sv,h1,h2⟩:=hm j sv' hj
  exact h2 _ (hd j sv h1)
theorem Zyr {E':Eng thy} {σ:Pl} {g:GH} {y:Tar×Int×Int} {u:Value} (h:Den E' σ g (parC false y) u):Den E' σ g (parC true y) u:=by
 refine Za2 h rfl fun j sv' hj=> ?_
 match j,hj with
 |0,hj=>
  cases hj
  refine ⟨_,rfl,fun u hu=>Zyq hu rfl fun j sv' hj=> ?_⟩
  match j,hj with
  |0,hj=>cases hj;exact ⟨_,rfl,fun u hu=>by cases hu;exact .str _ ‹_›⟩
  |1,hj=>cases hj;exact ⟨_,rfl,fun u hu=>by cases hu;exact .int _ _ _⟩
  |2,hj=>cases hj;exact ⟨_,rfl,fun u hu=>hu⟩
 |1,hj=>cases hj;exact ⟨_,rfl,fun u hu=>by cases hu;exact .int _ _ _⟩
 |2,hj=>cases hj;exact ⟨_,rfl,fun u hu=>by cases hu;exact .int _ _ _⟩
theorem Zot {s:List Nat} {v:SV thy}:∀{l:List (List Nat×(Tar×Int×Int))},Zyp s l=some v->∃p∈l,s=p.1/\v=parC true p.2
 | [],h=>by cases h
 |p::r,h=>by
  unfold Zyp at h
  split at h
  · rename_i he
    cases h
    exact ⟨p,by simp,Zqb he,rfl⟩
  · obtain ⟨q,h1,h2⟩:=Zot h
    exact ⟨q,by simp [h1],h2⟩
theorem Zi6 (args:List (SV thy)) (v:SV thy) (h:Zd1 args=some v):PureC EL 51 args v:=by
 unfold Zd1 at h
 split at h
 · rename_i l s
   obtain ⟨p,h1,rfl,rfl⟩:=Zot h
   refine PureC.fl ?_
   refine X1 (v:=parC false p.2) (PureC.like Ziu Ziv (fun _ _ h=>h) ?_) fun σ g u=>Zyr
   have:=Zqn p.1
   rw [Z2t p h1] at this
   exact this
 · cases h
theorem Z2v {t:Tar} (h:okTC t=true):SmK t:=by
 simp only [okTC,Bool.and_eq_true,List.all_eq_true] at h
 exact ⟨fun c hc=>⟨by have:=Zy (h.1 c hc).1;omega,by have:=Zy (h.1 c hc).2;omega⟩,by have:=Zy h.2;omega⟩
theorem Zq8 (args:List (SV thy)) (v:SV thy) (h:Zlw args=some v):PureC EL 10 args v:=by
 unfold Zlw at h
 split at h
 · rename_i t _ hd
   split at h
   · rename_i ht
     cases h
     refine PureC.fl (X1 (v:= .tup [.psl Th.ins (Zx t).1 false,.int false .i64 (Zx t).2]) (PureC.like Ziu Ziv (fun _ _ h=>h) (PureC.of_dec hd (Zcg t (Z2v ht)))) fun σ g u hu=> ?_)
     refine Za2 hu rfl fun j sv' hj=> ?_
     match j,hj with
     |0,hj=>cases hj;exact ⟨_,rfl,fun u hu=>hu⟩
     |1,hj=>cases hj;exact ⟨_,rfl,fun u hu=>by cases hu;exact .int _ _ _⟩
   · cases h
 · cases h
theorem Zys {E':Eng thy} {σ:Pl} {g:GH} {u:Value} (h:Den E' σ g (.val (.slice none 0 0):SV thy) u):Den E' σ g (.psl Th.ins [] false) u:=by
 cases h
 exact .psl (fun _ _=>undef) (Nat.le_refl _) (by unfold maxLen;omega) (fun h=>by cases h) (fun _=>rfl) (fun h=>absurd h (by simp)) (fun i x hx=>by simp at hx)
theorem Zou {E':Eng thy} {σ:Pl} {g:GH} {c:List Ins} {f:Bool} {u:Value} (h:Den E' σ g (.psl Th.ins c f) u):Den E' σ g (.psl Th.ins c false) u:=by
 obtain ⟨base,k,cv,rfl,hl,hm,hf,hn,hb,hd⟩:=X7 h
 exact .psl cv hl hm (fun h=>by cases h) hn hb hd
theorem Zd2 {f:FuncId} {a b:SV thy} {v:SV thy} (h:PureC EL f [b] v) (hab:∀σ g u,Den EL σ g a u->Den EL σ g b u):PureC EL f [a] v:=by
 intro g w vals hI hd
 refine h g w vals hI ⟨hd.1,fun j sv u h1 h2=> ?_⟩
 match j,h1 with
 |0,h1=>cases h1;exact hab _ _ _ (hd.2 0 _ u rfl h2)
theorem Zi7 (c:List Ins):PureC EL 14 [.psl .ins c false] (.tup [.int true .i64 (verF c).1,.int true .i64 (verF c).2]):=by
 refine X1 (v:= .tup [.int false .i64 (verF c).1,.int false .i64 (verF c).2]) (PureC.like Ziu Ziv (fun _ _ h=>h) (Zck c)) fun σ g u hu=> ?_
 refine Za2 hu rfl fun j sv' hj=> ?_
 match j,hj with
 |0,hj=>cases hj;exact ⟨_,rfl,fun u hu=>by cases hu;exact .int _ _ _⟩
 |1,hj=>cases hj;exact ⟨_,rfl,fun u hu=>by cases hu;exact .int _ _ _⟩
theorem Zuq (args:List (SV thy)) (v:SV thy) (h:Zuo args=some v):PureC EL 14 args v:=by
 unfold Zuo at h
 split at h
 · cases h
   exact Zd2 (Zi7 []) fun σ g u=>Zys
 · rename_i c f
   cases h
   exact Zd2 (Zi7 c) fun σ g u=>Zou
 · cases h
theorem Zur:SumOk E 68 (Sita 10000000000000):=Xe E_ok (Zd rfl) fun x h=>by
 have:=Ztf x.1.toNat (by omega)
 rw [show ((x.1.toNat:Nat):Int)=x.1 by omega] at this
 exact this
theorem Zq9 (args:List (SV thy)) (v:SV thy) (h:Zlx args=some v):PureC EL 15 args v:=by
 unfold Zlx at h
 split at h
 · rename_i c f
   split at h
   · rename_i hc
     cases h
     have hc:∀x∈c,x.n<10000000000000/\x.m<10000000000000:=fun x hx=>of_decide_eq_true (List.all_eq_true.1 hc x hx)
     refine Zd2 (b:= .psl Th.ins c false) ?_ fun σ g u=>Zou
     refine X1 (v:= .tup [.str false (Za0 c).1,.int false .i64 (Za0 c).2]) (PureC.like Ziu Ziv (fun _ _ h=>h) (Zvf c (fun x hx hf=>Zti Zur hf (hc x hx).1 (hc x hx).2) fun x hx hf=>Zxt hf)) fun σ g u hu=> ?_
     refine Za2 hu rfl fun j sv' hj=> ?_
     match j,hj with
     |0,hj=>cases hj;exact ⟨_,rfl,fun u hu=>by cases hu;exact .str _ ‹_›⟩
     |1,hj=>cases hj;exact ⟨_,rfl,fun u hu=>by cases hu;exact .int _ _ _⟩
   · cases h
 · cases h
theorem Zus (args:List (SV thy)) (v:SV thy) (h:Zup args=some v):PureC EL 41 args v:=by
 unfold Zup at h
 split at h
 · rename_i l s l2 b
   cases h
   refine PureC.fl (X1 (v:= .int false .i64 (cntN s b)) (PureC.like Ziu Ziv (fun _ _ h=>h) (Zzx s b)) fun σ g u hu=> ?_)
   cases hu;exact .int _ _ _
 · cases h
theorem Zra (args:List (SV thy)) (v:SV thy) (h:Zly args=some v):PureC EL 45 args v:=by
 unfold Zly at h
 split at h
 · rename_i l s
   split at h
   · rename_i n hl hv
     cases h
     rw [Nat.ble_eq] at hl
     refine PureC.fl (X1 (v:= .tup [.int false .i64 n,.val .nilIface]) (PureC.like Ziu Ziv (fun _ _ h=>h) (Zv8 s n (by omega) hv)) fun σ g u hu=> ?_)
     refine Za2 hu rfl fun j sv' hj=> ?_
     match j,hj with
     |0,hj=>cases hj;exact ⟨_,rfl,fun u hu=>by cases hu;exact .int _ _ _⟩
     |1,hj=>cases hj;exact ⟨_,rfl,fun u hu=>hu⟩
   · cases h
 · cases h
theorem Zov:FnsOk EL Z2u:=Uj (Zc (Zc (Zc (Zc (Zc (Zc Zud (Vn U9 (Zd rfl) Zi6)) (Zav U9 (Vn U9 (Zd rfl) Zq8))) (Zav U9 (Vn U9 (Zd rfl) Zuq))) (Zav U9 (Vn U9 (Zd rfl) Zq9))) (Vn U9 (Zd rfl) Zus)) (Vn U9 (Zd rfl) Zra))
theorem Zrb:PureC E 8 [] (.bool true true):=by
 refine PureC.like Ziv Ziu (fun _ _ h=>h) (Za U9 (Y4 U9 Zov fun f N c=>(Zfe U9 Zov 4000 f N c).1) ?_)
 rw [Zq7]
theorem Zut:SumOk E 8 Zix:=Vn E_ok (Zd rfl) fun args v h=>by
 unfold Z5h at h
 split at h
 · cases h;exact Zrb
 · cases h
end
end Go.Proofs.YtpmkapclhlmbbaaGreatDoor
