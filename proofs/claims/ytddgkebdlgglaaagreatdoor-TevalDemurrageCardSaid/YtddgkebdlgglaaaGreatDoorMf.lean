/- Merged texts: TpIa, TpIb, EngZM, TpQ, TpPb, TpPc, TpR, TpPd, TpPe, TpPf, TpPg, TpS, TpT, TuE, TuF, TuG. -/
import Derived.Test.YtddgkebdlgglaaaGreatDoorMe
namespace Go.Proofs.YtddgkebdlgglaaaGreatDoor
set_option linter.unusedVariables false
set_option linter.unusedSimpArgs false
set_option linter.unnecessarySimpa false
set_option maxRecDepth 100000
section
open Go
def ndK (u:Int) (k:Res thy->Prop):List Int->Prop
 | []=>True
 |j::r=>((Lib.nDigits u.toNat:Int)=j->k (quiet [] (.int true .i64 j)))/\ndK u k r
noncomputable def Snd:Sum thy:=fun args _ _ k=>
 match args with
 | [.int _ .u64 u]=>(1<=u/\u<10000000000000)/\ndK u k [1,2,3,4,5,6,7,8,9,10,11,12,13]
 |_=>False
noncomputable def Z3k:Sum thy:=Zal (dA1 dN) (fun x=>0<=x.1/\x.1<100) (fun x=>(Lib.itoa x.1).map UInt8.toNat) fun y=> .str false y
noncomputable def Fit:Fns thy:=addS (addS F0 115 Snd) 114 Z3k
def smT:List Nat:=
 toL (ByteArray.mk (List.toArray (List.append (List.append [(48:UInt8),(48:UInt8),(48:UInt8),(49:UInt8),(48:UInt8),(50:UInt8),(48:UInt8),(51:UInt8),(48:
 UInt8),(52:UInt8),(48:UInt8),(53:UInt8),(48:UInt8),(54:UInt8),(48:UInt8),(55:UInt8),(48:UInt8),(56:UInt8),(48:UInt8),(57:UInt8),(49:UInt8),(48
 :UInt8),(49:UInt8),(49:UInt8),(49:UInt8),(50:UInt8),(49:UInt8),(51:UInt8),(49:UInt8),(52:UInt8),(49:UInt8),(53:UInt8),(49:UInt8),(54:UInt8),
 (49:UInt8),(55:UInt8),(49:UInt8),(56:UInt8),(49:UInt8),(57:UInt8),(50:UInt8),(48:UInt8),(50:UInt8),(49:UInt8),(50:UInt8),(50:UInt8),(50:
 UInt8),(51:UInt8),(50:UInt8),(52:UInt8)] [(50:UInt8),(53:UInt8),(50:UInt8),(54:UInt8),(50:UInt8),(55:UInt8),(50:UInt8),(56:UInt8),(50:UInt8),(57
 :UInt8),(51:UInt8),(48:UInt8),(51:UInt8),(49:UInt8),(51:UInt8),(50:UInt8),(51:UInt8),(51:UInt8),(51:UInt8),(52:UInt8),(51:UInt8),(53:UInt8),
 (51:UInt8),(54:UInt8),(51:UInt8),(55:UInt8),(51:UInt8),(56:UInt8),(51:UInt8),(57:UInt8),(52:UInt8),(48:UInt8),(52:UInt8),(49:UInt8),(52:
 UInt8),(50:UInt8),(52:UInt8),(51:UInt8),(52:UInt8),(52:UInt8),(52:UInt8),(53:UInt8),(52:UInt8),(54:UInt8),(52:UInt8),(55:UInt8),(52:UInt8),(56
 :UInt8),(52:UInt8),(57:UInt8)]) (List.append [(53:UInt8),(48:UInt8),(53:UInt8),(49:UInt8),(53:UInt8),(50:UInt8),(53:UInt8),(51:UInt8),(53:UInt8),
 (52:UInt8),(53:UInt8),(53:UInt8),(53:UInt8),(54:UInt8),(53:UInt8),(55:UInt8),(53:UInt8),(56:UInt8),(53:UInt8),(57:UInt8),(54:UInt8),(48:
 UInt8),(54:UInt8),(49:UInt8),(54:UInt8),(50:UInt8),(54:UInt8),(51:UInt8),(54:UInt8),(52:UInt8),(54:UInt8),(53:UInt8),(54:UInt8),(54:UInt8),(54
 :UInt8),(55:UInt8),(54:UInt8),(56:UInt8),(54:UInt8),(57:UInt8),(55:UInt8),(48:UInt8),(55:UInt8),(49:UInt8),(55:UInt8),(50:UInt8),(55:UInt8),
 (51:UInt8),(55:UInt8),(52:UInt8)] [(55:UInt8),(53:UInt8),(55:UInt8),(54:UInt8),(55:UInt8),(55:UInt8),(55:UInt8),(56:UInt8),(55:UInt8),(57:
 UInt8),(56:UInt8),(48:UInt8),(56:UInt8),(49:UInt8),(56:UInt8),(50:UInt8),(56:UInt8),(51:UInt8),(56:UInt8),(52:UInt8),(56:UInt8),(53:UInt8),(56
 :UInt8),(54:UInt8),(56:UInt8),(55:UInt8),(56:UInt8),(56:UInt8),(56:UInt8),(57:UInt8),(57:UInt8),(48:UInt8),(57:UInt8),(49:UInt8),(57:UInt8),
 (50:UInt8),(57:UInt8),(51:UInt8),(57:UInt8),(52:UInt8),(57:UInt8),(53:UInt8),(57:UInt8),(54:UInt8),(57:UInt8),(55:UInt8),(57:UInt8),(56:
 UInt8),(57:UInt8),(57:UInt8)]))))
abbrev qCHo:=(0:Int)
abbrev qCH3 (a0:Int):=(wr IntKind.u64 (qCHo-wr IntKind.u64 a0))
abbrev Zna:=(100000000:Int)
abbrev qCH1 (a0:Int):=(wr IntKind.u32 (Int.tmod (qCH3 a0) Zna))
abbrev qCH2 (a0:Int):=(wr IntKind.u32 (Int.tmod (wr IntKind.u64 a0) Zna))
abbrev qCH4:=(10000:Int)
abbrev qCH5:=(↑(List.length smT):Int)
abbrev qCH6:=(100:Int)
abbrev qCH7 (a0:Int):=(wr IntKind.u32 (wr IntKind.u64 (Int.tdiv (wr IntKind.u64 a0) Zna)))
abbrev qCH8:=(256:Nat)
abbrev qCHc:=(2:Int)
abbrev qCH9 (a0:Int):=(wr IntKind.u32 (Int.tdiv (wr IntKind.u32 (Int.tdiv (qCH1 a0) qCH4)) qCH6)*qCHc)
abbrev qCHa (a0:Int):=(wr IntKind.u32 (Int.tdiv (wr IntKind.u32 (Int.tdiv (qCH2 a0) qCH4)) qCH6)*qCHc)
abbrev qCHb (a0:Int):=(wr IntKind.u32 (wr IntKind.u64 (Int.tdiv (qCH3 a0) Zna)))
abbrev qCHd:=(1:Int)
abbrev qCHe (a0:Int):=(wr IntKind.u32 (wr IntKind.u64 a0))
abbrev qCHf (a0:Int):=(wr IntKind.u32 (Int.tdiv (Int.tmod (qCH1 a0) qCH4) qCH6)*qCHc)
abbrev qCHg (a0:Int):=(Int.tmod (wr IntKind.u32 (Int.tdiv (qCH1 a0) qCH4)) qCH6*qCHc)
abbrev qCHh (a0:Int):=(wr IntKind.u32 (Int.tdiv (Int.tmod (qCH2 a0) qCH4) qCH6)*qCHc)
abbrev qCHi (a0:Int):=(Int.tmod (wr IntKind.u32 (Int.tdiv (qCH2 a0) qCH4)) qCH6*qCHc)
abbrev Zky (a0:Int):=(wr IntKind.u32 (qCH3 a0))
abbrev qCHj (a0:Int):=(wr IntKind.u32 (Int.tdiv (Int.tmod (Zky a0) qCH4) qCH6)*qCHc)
abbrev qCHk (a0:Int):=(Int.tmod (Int.tmod (qCH1 a0) qCH4) qCH6*qCHc)
abbrev qCHl (a0:Int):=(Int.tmod (Int.tmod (qCH2 a0) qCH4) qCH6*qCHc)
abbrev qCHm (a0:Int):=(Int.tmod (Int.tmod (Zky a0) qCH4) qCH6*qCHc)
abbrev qCHn (a0:Int):=(wr IntKind.u32 (Int.tdiv (Int.tmod (qCHe a0) qCH4) qCH6)*qCHc)
abbrev qCHp (a0:Int):=(Int.tmod (Int.tmod (qCHe a0) qCH4) qCH6*qCHc)
abbrev qCHq (a0:Int):=(Int.tmod (wr IntKind.u32 (Int.tdiv (Zky a0) qCH4)) qCH6*qCHc)
abbrev qCHr (a0:Nat):=(↑a0:Int)
abbrev qCHs (a0:Int):=(wr IntKind.u32 (Int.tdiv (Int.tmod (qCHb a0) qCH4) qCH6)*qCHc)
abbrev qCHt (a0:Int):=(Int.tmod (wr IntKind.u32 (Int.tdiv (qCHe a0) qCH4)) qCH6*qCHc)
abbrev qCHu (a0:Int):=(wr IntKind.u32 (Int.tdiv (Int.tmod (qCH7 a0) qCH4) qCH6)*qCHc)
abbrev qCHv (a0:Int):=(↑(Lib.nDigits (Int.toNat (wr IntKind.u64 a0))):Int)
abbrev qCHw (a0:Int):=(Int.tmod (Zky a0) qCH6*qCHc)
abbrev qCHx (a0:Int):=(Int.tmod (Int.tmod (qCHb a0) qCH4) qCH6*qCHc)
abbrev qCHy (a0:Int):=(Int.tmod (Int.tmod (qCH7 a0) qCH4) qCH6*qCHc)
abbrev qCHz (a0:Int):=(↑(Lib.nDigits (Int.toNat (qCH3 a0))):Int)
abbrev Zb4 (a0:Int):=(wr IntKind.u32 (qCHk a0)+qCHd)
abbrev Zb5 (a0:Int):=(wr IntKind.u32 (qCHf a0)+qCHd)
abbrev Zb6 (a0:Int):=(wr IntKind.u32 (qCHg a0)+qCHd)
abbrev Zb7 (a0:Int):=(wr IntKind.u32 (qCH9 a0)+qCHd)
abbrev Zb8 (a0:Int):=(wr IntKind.u32 (qCHl a0)+qCHd)
abbrev Zb9 (a0:Int):=(wr IntKind.u32 (qCHh a0)+qCHd)
abbrev Zca (a0:Int):=(wr IntKind.u32 (qCHi a0)+qCHd)
abbrev Zcb (a0:Int):=(wr IntKind.u32 (qCHa a0)+qCHd)
abbrev Zcz (a0:Int):=(wr IntKind.u32 (qCHm a0)+qCHd)
abbrev Zc0 (a0:Int):=(wr IntKind.u32 (qCHj a0)+qCHd)
abbrev Zc1 (a0:Int):=(wr IntKind.u32 (qCHp a0)+qCHd)
abbrev Zc2 (a0:Int):=(wr IntKind.u32 (qCHn a0)+qCHd)
abbrev Zkz (a0:Int):=(Int.tmod (qCHb a0) qCH6*qCHc)
abbrev Zk0 (a0:Int):=(Int.tmod (qCHe a0) qCH6*qCHc)
abbrev Zk1 (a0:Int):=(Int.tmod (qCH7 a0) qCH6*qCHc)
abbrev Zan:=(48:Int)
abbrev X0:=(45:Int)
abbrev Znb (a0:Int):=(wr IntKind.u32 (Zkz a0)+qCHd)
abbrev Znc (a0:Int):=(wr IntKind.u32 (Zk0 a0)+qCHd)
abbrev Znd (a0:Int):=(wr IntKind.u32 (Zk1 a0)+qCHd)
abbrev Zne (a0:Int):=(wr IntKind.u32 (qCHw a0)+qCHd)
abbrev Znf (a0:Int):=(wr IntKind.u32 (qCHq a0)+qCHd)
abbrev Zng (a0:Int):=(wr IntKind.u32 (qCHx a0)+qCHd)
abbrev Znh (a0:Int):=(wr IntKind.u32 (qCHs a0)+qCHd)
abbrev Zni (a0:Int):=(wr IntKind.u32 (qCHt a0)+qCHd)
abbrev Znj (a0:Int):=(wr IntKind.u32 (qCHy a0)+qCHd)
abbrev Znk (a0:Int):=(wr IntKind.u32 (qCHu a0)+qCHd)
abbrev Z59 (a0:Int):=(wr IntKind.u8 (wr IntKind.u32 (Zan+wr IntKind.u32 (wr IntKind.u64 (Int.tdiv (wr IntKind.u64 a0) Zna)))))
abbrev Z6a (a0:Int):=(wr IntKind.u8 (wr IntKind.u32 (Zan+wr IntKind.u32 (Int.tdiv (wr IntKind.u32 (Int.tdiv (Zky a0) qCH4)) qCH6))))
abbrev Z6b (a0:Int):=(wr IntKind.u8 (wr IntKind.u32 (Zan+wr IntKind.u32 (Int.tdiv (wr IntKind.u32 (Int.tdiv (qCHe a0) qCH4)) qCH6))))
abbrev Zs (a0:Int):=(a0<qCHo)
abbrev Z6c (a0:Int):=(wr IntKind.u8 (wr IntKind.u32 (Zan+wr IntKind.u32 (wr IntKind.u64 (Int.tdiv (qCH3 a0) Zna)))))
abbrev Znl (a0:Int):=(wr IntKind.u32 (Zb4 a0))
abbrev Znm (a0:Int):=(wr IntKind.u32 (Zb5 a0))
abbrev Znn (a0:Int):=(wr IntKind.u32 (Zb6 a0))
abbrev Zno (a0:Int):=(wr IntKind.u32 (Zb7 a0))
abbrev Znp (a0:Int):=(wr IntKind.u32 (Zb8 a0))
abbrev Znq (a0:Int):=(wr IntKind.u32 (Zb9 a0))
abbrev Znr (a0:Int):=(wr IntKind.u32 (Zca a0))
abbrev Zns (a0:Int):=(wr IntKind.u32 (Zcb a0))
abbrev Z6d (a0:Int) (b0:Nat) (c0:Nat) (d0:Nat) (e0:Nat) (f0:Nat) (g0:Nat) (h0:List Nat):=(decide (Zs a0)=true-> [Int.toNat X0%qCH8,Int.toNat (qCHr b0)%qCH8,Int.toNat (qCHr c0)%qCH8,Int.toNat (qCHr d0)%qCH8,Int.toNat (qCHr e0)%qCH8,Int.toNat (qCHr f0)%qCH8,Int.toNat (qCHr g0)%qCH8]=h0)
abbrev Znt (a0:Int):=(wr IntKind.u32 (qCHk a0))
abbrev Znu (a0:Int):=(wr IntKind.u32 (qCHf a0))
abbrev Znv (a0:Int):=(wr IntKind.u32 (qCHg a0))
abbrev Znw (a0:Int):=(wr IntKind.u32 (qCH9 a0))
abbrev Znx (a0:Int):=(wr IntKind.u32 (qCHl a0))
abbrev Zny (a0:Int):=(wr IntKind.u32 (qCHh a0))
abbrev Znz (a0:Int):=(wr IntKind.u32 (qCHi a0))
abbrev Zn0 (a0:Int):=(wr IntKind.u32 (qCHa a0))
abbrev Z6e (a0:Int):=(wr IntKind.u8 (wr IntKind.u32 (Zan+wr IntKind.u32 (Int.tdiv (Zky a0) qCH6))))
abbrev Z6f (a0:Int):=(wr IntKind.u8 (wr IntKind.u32 (Zan+wr IntKind.u32 (Int.tdiv (Zky a0) qCH4))))
abbrev Z6g (a0:Int):=(wr IntKind.u8 (wr IntKind.u32 (Zan+wr IntKind.u32 (Int.tdiv (qCHb a0) qCH6))))
abbrev Z6h (a0:Int):=(wr IntKind.u8 (wr IntKind.u32 (Zan+wr IntKind.u32 (Int.tdiv (qCHb a0) qCH4))))
abbrev Z6i (a0:Int):=(wr IntKind.u8 (wr IntKind.u32 (Zan+wr IntKind.u32 (Int.tdiv (qCHe a0) qCH6))))
abbrev Z6j (a0:Int):=(wr IntKind.u8 (wr IntKind.u32 (Zan+wr IntKind.u32 (Int.tdiv (qCHe a0) qCH4))))
abbrev Z6k (a0:Int):=(wr IntKind.u8 (wr IntKind.u32 (Zan+wr IntKind.u32 (Int.tdiv (qCH7 a0) qCH6))))
abbrev Z6l (a0:Int):=(wr IntKind.u8 (wr IntKind.u32 (Zan+wr IntKind.u32 (Int.tdiv (qCH7 a0) qCH4))))
abbrev Z6m (a0:Int):=(wr IntKind.u8 (wr IntKind.u32 (Zan+wr IntKind.u32 (wr IntKind.u64 a0))))
abbrev Z6n (a0:Int) (b0:Nat) (c0:Nat) (d0:Nat) (e0:Nat) (f0:List Nat):=(decide (Zs a0)=true-> [Int.toNat X0%qCH8,Int.toNat (qCHr b0)%qCH8,Int.toNat (qCHr c0)%qCH8,Int.toNat (qCHr d0)%qCH8,Int.toNat (qCHr e0)%qCH8]=f0)
abbrev Z6o (a0:Int) (b0:Nat) (c0:Nat) (d0:Nat) (e0:Nat) (f0:Nat) (g0:Nat) (h0:List Nat):=(decide (Zs a0)=false-> [Int.toNat (qCHr b0)%qCH8,Int.toNat (qCHr c0)%qCH8,Int.toNat (qCHr d0)%qCH8,Int.toNat (qCHr e0)%qCH8,Int.toNat (qCHr f0)%qCH8,Int.toNat (qCHr g0)%qCH8]=h0)
theorem Zw1 (n:Int) (v:List Nat):Zj E Fit (vc E Fit 2000) 14 [.int false .i64 n] hp0 0 (fun r=>ret E (patch hp0 0 r) r.v (.str false v))=(
 ∃(Q:Bool->Prop),((decide (qCHo<=n)=true->(decide (n<qCH6)=true->Q true)/\(decide (n<qCH6)=false->Q false))/\(decide (qCHo<=n)=false->Q false))/\(Q true->(qCHo<=n/\n+qCHd<=qCH6)/\∀(y:List Nat),y=List.map UInt8.toNat (Lib.itoa n)->y=v)/\(Q false->(decide (Zs n)=true->(qCHd<=wr IntKind.u64 (qCHo-wr IntKind.u64 n)/\wr IntKind.u64 (qCHo-wr IntKind.u64 n)+qCHd<=(10000000000000:Int))/\((qCHz n)=qCHd->(decide (Zs n)=true-> [Int.toNat X0%qCH8,Int.toNat (wr IntKind.u8 (wr IntKind.u32 (Zan+wr IntKind.u32 (qCH3 n))))%qCH8]=v)/\(decide (Zs n)=false-> [Int.toNat (wr IntKind.u8 (wr IntKind.u32 (Zan+wr IntKind.u32 (qCH3 n))))%qCH8]=v))/\((qCHz n)=qCHc->qCHo<=wr IntKind.u32 (Zne n)/\wr IntKind.u32 (Zne n)+qCHd<=qCH5/\∀(x:Nat),smT[Int.toNat (wr IntKind.u32 (Zne n))]? =some x->qCHo<=wr IntKind.u32 (qCHw n)/\wr IntKind.u32 (qCHw n)+qCHd<=qCH5/\∀(x_1:Nat),smT[Int.toNat (wr IntKind.u32 (qCHw n))]? =some x_1->(decide (Zs n)=true-> [Int.toNat X0%qCH8,Int.toNat (qCHr x_1)%qCH8,Int.toNat (qCHr x)%qCH8]=v)/\(decide (Zs n)=false-> [Int.toNat (qCHr x_1)%qCH8,Int.toNat (qCHr x)%qCH8]=v))/\((qCHz n)=(3:Int)->qCHo<=wr IntKind.u32 (Zne n)/\wr IntKind.u32 (Zne n)+qCHd<=qCH5/\∀(x:Nat),smT[Int.toNat (wr IntKind.u32 (Zne n))]? =some x->qCHo<=wr IntKind.u32 (qCHw n)/\wr IntKind.u32 (qCHw n)+qCHd<=qCH5/\∀(x_1:Nat),smT[Int.toNat (wr IntKind.u32 (qCHw n))]? =some x_1->(decide (Zs n)=true-> [Int.toNat X0%qCH8,Int.toNat (Z6e n)%qCH8,Int.toNat (qCHr x_1)%qCH8,Int.toNat (qCHr x)%qCH8]=v)/\(decide (Zs n)=false-> [Int.toNat (Z6e n)%qCH8,Int.toNat (qCHr x_1)%qCH8,Int.toNat (qCHr x)%qCH8]=v))/\((qCHz n)=(4:Int)->qCHo<=wr IntKind.u32 (Zcz n)/\wr IntKind.u32 (Zcz n)+qCHd<=qCH5/\∀(x:Nat),smT[Int.toNat (wr IntKind.u32 (Zcz n))]? =some x->qCHo<=wr IntKind.u32 (qCHm n)/\wr IntKind.u32 (qCHm n)+qCHd<=qCH5/\∀(x_1:Nat),smT[Int.toNat (wr IntKind.u32 (qCHm n))]? =some x_1->qCHo<=wr IntKind.u32 (Zc0 n)/\wr IntKind.u32 (Zc0 n)+qCHd<=qCH5/\∀(x_2:Nat),smT[Int.toNat (wr IntKind.u32 (Zc0 n))]? =some x_2->qCHo<=wr IntKind.u32 (qCHj n)/\wr IntKind.u32 (qCHj n)+qCHd<=qCH5/\∀(x_3:Nat),smT[Int.toNat (wr IntKind.u32 (qCHj n))]? =some x_3->(Z6n n x_3 x_2 x_1 x v)/\(decide (Zs n)=false-> [Int.toNat (qCHr x_3)%qCH8,Int.toNat (qCHr x_2)%qCH8,Int.toNat (qCHr x_1)%qCH8,Int.toNat (qCHr x)%qCH8]=v))/\((qCHz n)=(5:Int)->qCHo<=wr IntKind.u32 (Zcz n)/\wr IntKind.u32 (Zcz n)+qCHd<=qCH5/\∀(x:Nat),smT[Int.toNat (wr IntKind.u32 (Zcz n))]? =some x->qCHo<=wr IntKind.u32 (qCHm n)/\wr IntKind.u32 (qCHm n)+qCHd<=qCH5/\∀(x_1:Nat),smT[Int.toNat (wr IntKind.u32 (qCHm n))]? =some x_1->qCHo<=wr IntKind.u32 (Zc0 n)/\wr IntKind.u32 (Zc0 n)+qCHd<=qCH5/\∀(x_2:Nat),smT[Int.toNat (wr IntKind.u32 (Zc0 n))]? =some x_2->qCHo<=wr IntKind.u32 (qCHj n)/\wr IntKind.u32 (qCHj n)+qCHd<=qCH5/\∀(x_3:Nat),smT[Int.toNat (wr IntKind.u32 (qCHj n))]? =some x_3->(decide (Zs n)=true-> [Int.toNat X0%qCH8,Int.toNat (Z6f n)%qCH8,Int.toNat (qCHr x_3)%qCH8,Int.toNat (qCHr x_2)%qCH8,Int.toNat (qCHr x_1)%qCH8,Int.toNat (qCHr x)%qCH8]=v)/\(decide (Zs n)=false-> [Int.toNat (Z6f n)%qCH8,Int.toNat (qCHr x_3)%qCH8,Int.toNat (qCHr x_2)%qCH8,Int.toNat (qCHr x_1)%qCH8,Int.toNat (qCHr x)%qCH8]=v))/\((qCHz n)=(6:Int)->qCHo<=wr IntKind.u32 (Zcz n)/\wr IntKind.u32 (Zcz n)+qCHd<=qCH5/\∀(x:Nat),smT[Int.toNat (wr IntKind.u32 (Zcz n))]? =some x->qCHo<=wr IntKind.u32 (qCHm n)/\wr IntKind.u32 (qCHm n)+qCHd<=qCH5/\∀(x_1:Nat),smT[Int.toNat (wr IntKind.u32 (qCHm n))]? =some x_1->qCHo<=wr IntKind.u32 (Zc0 n)/\wr IntKind.u32 (Zc0 n)+qCHd<=qCH5/\∀(x_2:Nat),smT[Int.toNat (wr IntKind.u32
(Zc0 n))]? =some x_2->qCHo<=wr IntKind.u32 (qCHj n)/\wr IntKind.u32 (qCHj n)+qCHd<=qCH5/\∀(x_3:Nat),smT[Int.toNat (wr IntKind.u32 (qCHj n))]? =some x_3->qCHo<=wr IntKind.u32 (Znf n)/\wr IntKind.u32 (Znf n)+qCHd<=qCH5/\∀(x_4:Nat),smT[Int.toNat (wr IntKind.u32 (Znf n))]? =some x_4->qCHo<=wr IntKind.u32 (qCHq n)/\wr IntKind.u32 (qCHq n)+qCHd<=qCH5/\∀(x_5:Nat),smT[Int.toNat (wr IntKind.u32 (qCHq n))]? =some x_5->(Z6d n x_5 x_4 x_3 x_2 x_1 x v)/\(Z6o n x_5 x_4 x_3 x_2 x_1 x v))/\((qCHz n)=(7:Int)->qCHo<=wr IntKind.u32 (Zcz n)/\wr IntKind.u32 (Zcz n)+qCHd<=qCH5/\∀(x:Nat),smT[Int.toNat (wr IntKind.u32 (Zcz n))]? =some x->qCHo<=wr IntKind.u32 (qCHm n)/\wr IntKind.u32 (qCHm n)+qCHd<=qCH5/\∀(x_1:Nat),smT[Int.toNat (wr IntKind.u32 (qCHm n))]? =some x_1->qCHo<=wr IntKind.u32 (Zc0 n)/\wr IntKind.u32 (Zc0 n)+qCHd<=qCH5/\∀(x_2:Nat),smT[Int.toNat (wr IntKind.u32 (Zc0 n))]? =some x_2->qCHo<=wr IntKind.u32 (qCHj n)/\wr IntKind.u32 (qCHj n)+qCHd<=qCH5/\∀(x_3:Nat),smT[Int.toNat (wr IntKind.u32 (qCHj n))]? =some x_3->qCHo<=wr IntKind.u32 (Znf n)/\wr IntKind.u32 (Znf n)+qCHd<=qCH5/\∀(x_4:Nat),smT[Int.toNat (wr IntKind.u32 (Znf n))]? =some x_4->qCHo<=wr IntKind.u32 (qCHq n)/\wr IntKind.u32 (qCHq n)+qCHd<=qCH5/\∀(x_5:Nat),smT[Int.toNat (wr IntKind.u32 (qCHq n))]? =some x_5->(decide (Zs n)=true-> [Int.toNat X0%qCH8,Int.toNat (Z6a n)%qCH8,Int.toNat (qCHr x_5)%qCH8,Int.toNat (qCHr x_4)%qCH8,Int.toNat (qCHr x_3)%qCH8,Int.toNat (qCHr x_2)%qCH8,Int.toNat (qCHr x_1)%qCH8,Int.toNat (qCHr x)%qCH8]=v)/\(decide (Zs n)=false-> [Int.toNat (Z6a n)%qCH8,Int.toNat (qCHr x_5)%qCH8,Int.toNat (qCHr x_4)%qCH8,Int.toNat (qCHr x_3)%qCH8,Int.toNat (qCHr x_2)%qCH8,Int.toNat (qCHr x_1)%qCH8,Int.toNat (qCHr x)%qCH8]=v))/\((qCHz n)=(8:Int)->qCHo<=wr IntKind.u32 (Zb4 n)/\wr IntKind.u32 (Zb4 n)+qCHd<=qCH5/\∀(x:Nat),smT[Int.toNat (Znl n)]? =some x->qCHo<=wr IntKind.u32 (qCHk n)/\wr IntKind.u32 (qCHk n)+qCHd<=qCH5/\∀(x_1:Nat),smT[Int.toNat (Znt n)]? =some x_1->qCHo<=wr IntKind.u32 (Zb5 n)/\wr IntKind.u32 (Zb5 n)+qCHd<=qCH5/\∀(x_2:Nat),smT[Int.toNat (Znm n)]? =some x_2->qCHo<=wr IntKind.u32 (qCHf n)/\wr IntKind.u32 (qCHf n)+qCHd<=qCH5/\∀(x_3:Nat),smT[Int.toNat (Znu n)]? =some x_3->qCHo<=wr IntKind.u32 (Zb6 n)/\wr IntKind.u32 (Zb6 n)+qCHd<=qCH5/\∀(x_4:Nat),smT[Int.toNat (Znn n)]? =some x_4->qCHo<=wr IntKind.u32 (qCHg n)/\wr IntKind.u32 (qCHg n)+qCHd<=qCH5/\∀(x_5:Nat),smT[Int.toNat (Znv n)]? =some x_5->qCHo<=wr IntKind.u32 (Zb7 n)/\wr IntKind.u32 (Zb7 n)+qCHd<=qCH5/\∀(x_6:Nat),smT[Int.toNat (Zno n)]? =some x_6->qCHo<=wr IntKind.u32 (qCH9 n)/\wr IntKind.u32 (qCH9 n)+qCHd<=qCH5/\∀(x_7:Nat),smT[Int.toNat (Znw n)]? =some x_7->(decide (Zs n)=true-> [Int.toNat X0%qCH8,Int.toNat (qCHr x_7)%qCH8,Int.toNat (qCHr x_6)%qCH8,Int.toNat (qCHr x_5)%qCH8,Int.toNat (qCHr x_4)%qCH8,Int.toNat (qCHr x_3)%qCH8,Int.toNat (qCHr x_2)%qCH8,Int.toNat (qCHr x_1)%qCH8,Int.toNat (qCHr x)%qCH8]=v)/\(decide (Zs n)=false-> [Int.toNat (qCHr x_7)%qCH8,Int.toNat (qCHr x_6)%qCH8,Int.toNat (qCHr x_5)%qCH8,Int.toNat (qCHr x_4)%qCH8,Int.toNat (qCHr x_3)%qCH8,Int.toNat (qCHr x_2)%qCH8,Int.toNat (qCHr x_1)%qCH8,Int.toNat (qCHr x)%qCH8]=v))/\((qCHz n)=(9:Int)->qCHo<=wr IntKind.u32 (Zb4 n)/\wr IntKind.u32 (Zb4 n)+qCHd<=qCH5/\∀(x:Nat),smT[Int.toNat (Znl n)]? =some x->qCHo<=wr IntKind.u32 (qCHk n)/\wr IntKind.u32 (qCHk n)+qCHd<=qCH5/\∀(x_1:Nat),smT[Int.toNat (Znt n)]? =some x_1->qCHo<=wr IntKind.u32 (Zb5 n)/\wr IntKind.u32 (Zb5 n)+qCHd<=qCH5/\∀(x_2:Nat),smT[Int.toNat (Znm n)]? =some x_2->qCHo<=wr IntKind.u32 (qCHf n)/\wr IntKind.u32 (qCHf n)+qCHd<=qCH5/\∀(x_3:
Nat),smT[Int.toNat (Znu n)]? =some x_3->qCHo<=wr IntKind.u32 (Zb6 n)/\wr IntKind.u32 (Zb6 n)+qCHd<=qCH5/\∀(x_4:Nat),smT[Int.toNat (Znn n)]? =some x_4->qCHo<=wr IntKind.u32 (qCHg n)/\wr IntKind.u32 (qCHg n)+qCHd<=qCH5/\∀(x_5:Nat),smT[Int.toNat (Znv n)]? =some x_5->qCHo<=wr IntKind.u32 (Zb7 n)/\wr IntKind.u32 (Zb7 n)+qCHd<=qCH5/\∀(x_6:Nat),smT[Int.toNat (Zno n)]? =some x_6->qCHo<=wr IntKind.u32 (qCH9 n)/\wr IntKind.u32 (qCH9 n)+qCHd<=qCH5/\∀(x_7:Nat),smT[Int.toNat (Znw n)]? =some x_7->(decide (Zs n)=true-> [Int.toNat X0%qCH8,Int.toNat (Z6c n)%qCH8,Int.toNat (qCHr x_7)%qCH8,Int.toNat (qCHr x_6)%qCH8,Int.toNat (qCHr x_5)%qCH8,Int.toNat (qCHr x_4)%qCH8,Int.toNat (qCHr x_3)%qCH8,Int.toNat (qCHr x_2)%qCH8,Int.toNat (qCHr x_1)%qCH8,Int.toNat (qCHr x)%qCH8]=v)/\(decide (Zs n)=false-> [Int.toNat (Z6c n)%qCH8,Int.toNat (qCHr x_7)%qCH8,Int.toNat (qCHr x_6)%qCH8,Int.toNat (qCHr x_5)%qCH8,Int.toNat (qCHr x_4)%qCH8,Int.toNat (qCHr x_3)%qCH8,Int.toNat (qCHr x_2)%qCH8,Int.toNat (qCHr x_1)%qCH8,Int.toNat (qCHr x)%qCH8]=v))/\((qCHz n)=(10:Int)->qCHo<=wr IntKind.u32 (Zb4 n)/\wr IntKind.u32 (Zb4 n)+qCHd<=qCH5/\∀(x:Nat),smT[Int.toNat (Znl n)]? =some x->qCHo<=wr IntKind.u32 (qCHk n)/\wr IntKind.u32 (qCHk n)+qCHd<=qCH5/\∀(x_1:Nat),smT[Int.toNat (Znt n)]? =some x_1->qCHo<=wr IntKind.u32 (Zb5 n)/\wr IntKind.u32 (Zb5 n)+qCHd<=qCH5/\∀(x_2:Nat),smT[Int.toNat (Znm n)]? =some x_2->qCHo<=wr IntKind.u32 (qCHf n)/\wr IntKind.u32 (qCHf n)+qCHd<=qCH5/\∀(x_3:Nat),smT[Int.toNat (Znu n)]? =some x_3->qCHo<=wr IntKind.u32 (Zb6 n)/\wr IntKind.u32 (Zb6 n)+qCHd<=qCH5/\∀(x_4:Nat),smT[Int.toNat (Znn n)]? =some x_4->qCHo<=wr IntKind.u32 (qCHg n)/\wr IntKind.u32 (qCHg n)+qCHd<=qCH5/\∀(x_5:Nat),smT[Int.toNat (Znv n)]? =some x_5->qCHo<=wr IntKind.u32 (Zb7 n)/\wr IntKind.u32 (Zb7 n)+qCHd<=qCH5/\∀(x_6:Nat),smT[Int.toNat (Zno n)]? =some x_6->qCHo<=wr IntKind.u32 (qCH9 n)/\wr IntKind.u32 (qCH9 n)+qCHd<=qCH5/\∀(x_7:Nat),smT[Int.toNat (Znw n)]? =some x_7->qCHo<=wr IntKind.u32 (Znb n)/\wr IntKind.u32 (Znb n)+qCHd<=qCH5/\∀(x_8:Nat),smT[Int.toNat (wr IntKind.u32 (Znb n))]? =some x_8->qCHo<=wr IntKind.u32 (Zkz n)/\wr IntKind.u32 (Zkz n)+qCHd<=qCH5/\∀(x_9:Nat),smT[Int.toNat (wr IntKind.u32 (Zkz n))]? =some x_9->(decide (Zs n)=true-> [Int.toNat X0%qCH8,Int.toNat (qCHr x_9)%qCH8,Int.toNat (qCHr x_8)%qCH8,Int.toNat (qCHr x_7)%qCH8,Int.toNat (qCHr x_6)%qCH8,Int.toNat (qCHr x_5)%qCH8,Int.toNat (qCHr x_4)%qCH8,Int.toNat (qCHr x_3)%qCH8,Int.toNat (qCHr x_2)%qCH8,Int.toNat (qCHr x_1)%qCH8,Int.toNat (qCHr x)%qCH8]=v)/\(decide (Zs n)=false-> [Int.toNat (qCHr x_9)%qCH8,Int.toNat (qCHr x_8)%qCH8,Int.toNat (qCHr x_7)%qCH8,Int.toNat (qCHr x_6)%qCH8,Int.toNat (qCHr x_5)%qCH8,Int.toNat (qCHr x_4)%qCH8,Int.toNat (qCHr x_3)%qCH8,Int.toNat (qCHr x_2)%qCH8,Int.toNat (qCHr x_1)%qCH8,Int.toNat (qCHr x)%qCH8]=v))/\((qCHz n)=(11:Int)->qCHo<=wr IntKind.u32 (Zb4 n)/\wr IntKind.u32 (Zb4 n)+qCHd<=qCH5/\∀(x:Nat),smT[Int.toNat (Znl n)]? =some x->qCHo<=wr IntKind.u32 (qCHk n)/\wr IntKind.u32 (qCHk n)+qCHd<=qCH5/\∀(x_1:Nat),smT[Int.toNat (Znt n)]? =some x_1->qCHo<=wr IntKind.u32 (Zb5 n)/\wr IntKind.u32 (Zb5 n)+qCHd<=qCH5/\∀(x_2:Nat),smT[Int.toNat (Znm n)]? =some x_2->qCHo<=wr IntKind.u32 (qCHf n)/\wr IntKind.u32 (qCHf n)+qCHd<=qCH5/\∀(x_3:Nat),smT[Int.toNat (Znu n)]? =some x_3->qCHo<=wr IntKind.u32 (Zb6 n)/\wr IntKind.u32 (Zb6 n)+qCHd<=qCH5/\∀(x_4:Nat),smT[Int.toNat (Znn n)]? =some x_4->qCHo<=wr IntKind.u32 (qCHg n)/\wr IntKind.u32 (qCHg n)+qCHd<=qCH5/\∀(x_5:Nat),smT[Int.toNat (Znv n)]? =some x_5->qCHo<=wr IntKind.u32 (Zb7 n)/\
wr IntKind.u32 (Zb7 n)+qCHd<=qCH5/\∀(x_6:Nat),smT[Int.toNat (Zno n)]? =some x_6->qCHo<=wr IntKind.u32 (qCH9 n)/\wr IntKind.u32 (qCH9 n)+qCHd<=qCH5/\∀(x_7:Nat),smT[Int.toNat (Znw n)]? =some x_7->qCHo<=wr IntKind.u32 (Znb n)/\wr IntKind.u32 (Znb n)+qCHd<=qCH5/\∀(x_8:Nat),smT[Int.toNat (wr IntKind.u32 (Znb n))]? =some x_8->qCHo<=wr IntKind.u32 (Zkz n)/\wr IntKind.u32 (Zkz n)+qCHd<=qCH5/\∀(x_9:Nat),smT[Int.toNat (wr IntKind.u32 (Zkz n))]? =some x_9->(decide (Zs n)=true-> [Int.toNat X0%qCH8,Int.toNat (Z6g n)%qCH8,Int.toNat (qCHr x_9)%qCH8,Int.toNat (qCHr x_8)%qCH8,Int.toNat (qCHr x_7)%qCH8,Int.toNat (qCHr x_6)%qCH8,Int.toNat (qCHr x_5)%qCH8,Int.toNat (qCHr x_4)%qCH8,Int.toNat (qCHr x_3)%qCH8,Int.toNat (qCHr x_2)%qCH8,Int.toNat (qCHr x_1)%qCH8,Int.toNat (qCHr x)%qCH8]=v)/\(decide (Zs n)=false-> [Int.toNat (Z6g n)%qCH8,Int.toNat (qCHr x_9)%qCH8,Int.toNat (qCHr x_8)%qCH8,Int.toNat (qCHr x_7)%qCH8,Int.toNat (qCHr x_6)%qCH8,Int.toNat (qCHr x_5)%qCH8,Int.toNat (qCHr x_4)%qCH8,Int.toNat (qCHr x_3)%qCH8,Int.toNat (qCHr x_2)%qCH8,Int.toNat (qCHr x_1)%qCH8,Int.toNat (qCHr x)%qCH8]=v))/\((qCHz n)=(12:Int)->qCHo<=wr IntKind.u32 (Zb4 n)/\wr IntKind.u32 (Zb4 n)+qCHd<=qCH5/\∀(x:Nat),smT[Int.toNat (Znl n)]? =some x->qCHo<=wr IntKind.u32 (qCHk n)/\wr IntKind.u32 (qCHk n)+qCHd<=qCH5/\∀(x_1:Nat),smT[Int.toNat (Znt n)]? =some x_1->qCHo<=wr IntKind.u32 (Zb5 n)/\wr IntKind.u32 (Zb5 n)+qCHd<=qCH5/\∀(x_2:Nat),smT[Int.toNat (Znm n)]? =some x_2->qCHo<=wr IntKind.u32 (qCHf n)/\wr IntKind.u32 (qCHf n)+qCHd<=qCH5/\∀(x_3:Nat),smT[Int.toNat (Znu n)]? =some x_3->qCHo<=wr IntKind.u32 (Zb6 n)/\wr IntKind.u32 (Zb6 n)+qCHd<=qCH5/\∀(x_4:Nat),smT[Int.toNat (Znn n)]? =some x_4->qCHo<=wr IntKind.u32 (qCHg n)/\wr IntKind.u32 (qCHg n)+qCHd<=qCH5/\∀(x_5:Nat),smT[Int.toNat (Znv n)]? =some x_5->qCHo<=wr IntKind.u32 (Zb7 n)/\wr IntKind.u32 (Zb7 n)+qCHd<=qCH5/\∀(x_6:Nat),smT[Int.toNat (Zno n)]? =some x_6->qCHo<=wr IntKind.u32 (qCH9 n)/\wr IntKind.u32 (qCH9 n)+qCHd<=qCH5/\∀(x_7:Nat),smT[Int.toNat (Znw n)]? =some x_7->qCHo<=wr IntKind.u32 (Zng n)/\wr IntKind.u32 (Zng n)+qCHd<=qCH5/\∀(x_8:Nat),smT[Int.toNat (wr IntKind.u32 (Zng n))]? =some x_8->qCHo<=wr IntKind.u32 (qCHx n)/\wr IntKind.u32 (qCHx n)+qCHd<=qCH5/\∀(x_9:Nat),smT[Int.toNat (wr IntKind.u32 (qCHx n))]? =some x_9->qCHo<=wr IntKind.u32 (Znh n)/\wr IntKind.u32 (Znh n)+qCHd<=qCH5/\∀(x_10:Nat),smT[Int.toNat (wr IntKind.u32 (Znh n))]? =some x_10->qCHo<=wr IntKind.u32 (qCHs n)/\wr IntKind.u32 (qCHs n)+qCHd<=qCH5/\∀(x_11:Nat),smT[Int.toNat (wr IntKind.u32 (qCHs n))]? =some x_11->(decide (Zs n)=true-> [Int.toNat X0%qCH8,Int.toNat (qCHr x_11)%qCH8,Int.toNat (qCHr x_10)%qCH8,Int.toNat (qCHr x_9)%qCH8,Int.toNat (qCHr x_8)%qCH8,Int.toNat (qCHr x_7)%qCH8,Int.toNat (qCHr x_6)%qCH8,Int.toNat (qCHr x_5)%qCH8,Int.toNat (qCHr x_4)%qCH8,Int.toNat (qCHr x_3)%qCH8,Int.toNat (qCHr x_2)%qCH8,Int.toNat (qCHr x_1)%qCH8,Int.toNat (qCHr x)%qCH8]=v)/\(decide (Zs n)=false-> [Int.toNat (qCHr x_11)%qCH8,Int.toNat (qCHr x_10)%qCH8,Int.toNat (qCHr x_9)%qCH8,Int.toNat (qCHr x_8)%qCH8,Int.toNat (qCHr x_7)%qCH8,Int.toNat (qCHr x_6)%qCH8,Int.toNat (qCHr x_5)%qCH8,Int.toNat (qCHr x_4)%qCH8,Int.toNat (qCHr x_3)%qCH8,Int.toNat (qCHr x_2)%qCH8,Int.toNat (qCHr x_1)%qCH8,Int.toNat (qCHr x)%qCH8]=v))/\((qCHz n)=(13:Int)->qCHo<=wr IntKind.u32 (Zb4 n)/\wr IntKind.u32 (Zb4 n)+qCHd<=qCH5/\∀(x:Nat),smT[Int.toNat (Znl n)]? =some x->qCHo<=wr IntKind.u32 (qCHk n)/\wr IntKind.u32 (qCHk n)+qCHd<=qCH5/\∀(x_1:Nat),smT[Int.toNat (Znt n)]? =some x_1->qCHo<=wr IntKind.u32 (Zb5 n)/\wr IntKind.u32 (Zb5 n)+
qCHd<=qCH5/\∀(x_2:Nat),smT[Int.toNat (Znm n)]? =some x_2->qCHo<=wr IntKind.u32 (qCHf n)/\wr IntKind.u32 (qCHf n)+qCHd<=qCH5/\∀(x_3:Nat),smT[Int.toNat (Znu n)]? =some x_3->qCHo<=wr IntKind.u32 (Zb6 n)/\wr IntKind.u32 (Zb6 n)+qCHd<=qCH5/\∀(x_4:Nat),smT[Int.toNat (Znn n)]? =some x_4->qCHo<=wr IntKind.u32 (qCHg n)/\wr IntKind.u32 (qCHg n)+qCHd<=qCH5/\∀(x_5:Nat),smT[Int.toNat (Znv n)]? =some x_5->qCHo<=wr IntKind.u32 (Zb7 n)/\wr IntKind.u32 (Zb7 n)+qCHd<=qCH5/\∀(x_6:Nat),smT[Int.toNat (Zno n)]? =some x_6->qCHo<=wr IntKind.u32 (qCH9 n)/\wr IntKind.u32 (qCH9 n)+qCHd<=qCH5/\∀(x_7:Nat),smT[Int.toNat (Znw n)]? =some x_7->qCHo<=wr IntKind.u32 (Zng n)/\wr IntKind.u32 (Zng n)+qCHd<=qCH5/\∀(x_8:Nat),smT[Int.toNat (wr IntKind.u32 (Zng n))]? =some x_8->qCHo<=wr IntKind.u32 (qCHx n)/\wr IntKind.u32 (qCHx n)+qCHd<=qCH5/\∀(x_9:Nat),smT[Int.toNat (wr IntKind.u32 (qCHx n))]? =some x_9->qCHo<=wr IntKind.u32 (Znh n)/\wr IntKind.u32 (Znh n)+qCHd<=qCH5/\∀(x_10:Nat),smT[Int.toNat (wr IntKind.u32 (Znh n))]? =some x_10->qCHo<=wr IntKind.u32 (qCHs n)/\wr IntKind.u32 (qCHs n)+qCHd<=qCH5/\∀(x_11:Nat),smT[Int.toNat (wr IntKind.u32 (qCHs n))]? =some x_11->(decide (Zs n)=true-> [Int.toNat X0%qCH8,Int.toNat (Z6h n)%qCH8,Int.toNat (qCHr x_11)%qCH8,Int.toNat (qCHr x_10)%qCH8,Int.toNat (qCHr x_9)%qCH8,Int.toNat (qCHr x_8)%qCH8,Int.toNat (qCHr x_7)%qCH8,Int.toNat (qCHr x_6)%qCH8,Int.toNat (qCHr x_5)%qCH8,Int.toNat (qCHr x_4)%qCH8,Int.toNat (qCHr x_3)%qCH8,Int.toNat (qCHr x_2)%qCH8,Int.toNat (qCHr x_1)%qCH8,Int.toNat (qCHr x)%qCH8]=v)/\(decide (Zs n)=false-> [Int.toNat (Z6h n)%qCH8,Int.toNat (qCHr x_11)%qCH8,Int.toNat (qCHr x_10)%qCH8,Int.toNat (qCHr x_9)%qCH8,Int.toNat (qCHr x_8)%qCH8,Int.toNat (qCHr x_7)%qCH8,Int.toNat (qCHr x_6)%qCH8,Int.toNat (qCHr x_5)%qCH8,Int.toNat (qCHr x_4)%qCH8,Int.toNat (qCHr x_3)%qCH8,Int.toNat (qCHr x_2)%qCH8,Int.toNat (qCHr x_1)%qCH8,Int.toNat (qCHr x)%qCH8]=v))/\True)/\(decide (Zs n)=false->(qCHd<=wr IntKind.u64 n/\wr IntKind.u64 n+qCHd<=(10000000000000:Int))/\((qCHv n)=qCHd->(decide (Zs n)=true-> [Int.toNat X0%qCH8,Int.toNat (Z6m n)%qCH8]=v)/\(decide (Zs n)=false-> [Int.toNat (Z6m n)%qCH8]=v))/\((qCHv n)=qCHc->qCHo<=wr IntKind.u32 (Znc n)/\wr IntKind.u32 (Znc n)+qCHd<=qCH5/\∀(x:Nat),smT[Int.toNat (wr IntKind.u32 (Znc n))]? =some x->qCHo<=wr IntKind.u32 (Zk0 n)/\wr IntKind.u32 (Zk0 n)+qCHd<=qCH5/\∀(x_1:Nat),smT[Int.toNat (wr IntKind.u32 (Zk0 n))]? =some x_1->(decide (Zs n)=true-> [Int.toNat X0%qCH8,Int.toNat (qCHr x_1)%qCH8,Int.toNat (qCHr x)%qCH8]=v)/\(decide (Zs n)=false-> [Int.toNat (qCHr x_1)%qCH8,Int.toNat (qCHr x)%qCH8]=v))/\((qCHv n)=(3:Int)->qCHo<=wr IntKind.u32 (Znc n)/\wr IntKind.u32 (Znc n)+qCHd<=qCH5/\∀(x:Nat),smT[Int.toNat (wr IntKind.u32 (Znc n))]? =some x->qCHo<=wr IntKind.u32 (Zk0 n)/\wr IntKind.u32 (Zk0 n)+qCHd<=qCH5/\∀(x_1:Nat),smT[Int.toNat (wr IntKind.u32 (Zk0 n))]? =some x_1->(decide (Zs n)=true-> [Int.toNat X0%qCH8,Int.toNat (Z6i n)%qCH8,Int.toNat (qCHr x_1)%qCH8,Int.toNat (qCHr x)%qCH8]=v)/\(decide (Zs n)=false-> [Int.toNat (Z6i n)%qCH8,Int.toNat (qCHr x_1)%qCH8,Int.toNat (qCHr x)%qCH8]=v))/\((qCHv n)=(4:Int)->qCHo<=wr IntKind.u32 (Zc1 n)/\wr IntKind.u32 (Zc1 n)+qCHd<=qCH5/\∀(x:Nat),smT[Int.toNat (wr IntKind.u32 (Zc1 n))]? =some x->qCHo<=wr IntKind.u32 (qCHp n)/\wr IntKind.u32 (qCHp n)+qCHd<=qCH5/\∀(x_1:Nat),smT[Int.toNat (wr IntKind.u32 (qCHp n))]? =some x_1->qCHo<=wr IntKind.u32 (Zc2 n)/\wr IntKind.u32 (Zc2 n)+qCHd<=qCH5/\∀(x_2:Nat),smT[Int.toNat (wr IntKind.u32 (Zc2 n))]? =some x_2->qCHo<=wr IntKind.u32 (qCHn n)
/\wr IntKind.u32 (qCHn n)+qCHd<=qCH5/\∀(x_3:Nat),smT[Int.toNat (wr IntKind.u32 (qCHn n))]? =some x_3->(Z6n n x_3 x_2 x_1 x v)/\(decide (Zs n)=false-> [Int.toNat (qCHr x_3)%qCH8,Int.toNat (qCHr x_2)%qCH8,Int.toNat (qCHr x_1)%qCH8,Int.toNat (qCHr x)%qCH8]=v))/\((qCHv n)=(5:Int)->qCHo<=wr IntKind.u32 (Zc1 n)/\wr IntKind.u32 (Zc1 n)+qCHd<=qCH5/\∀(x:Nat),smT[Int.toNat (wr IntKind.u32 (Zc1 n))]? =some x->qCHo<=wr IntKind.u32 (qCHp n)/\wr IntKind.u32 (qCHp n)+qCHd<=qCH5/\∀(x_1:Nat),smT[Int.toNat (wr IntKind.u32 (qCHp n))]? =some x_1->qCHo<=wr IntKind.u32 (Zc2 n)/\wr IntKind.u32 (Zc2 n)+qCHd<=qCH5/\∀(x_2:Nat),smT[Int.toNat (wr IntKind.u32 (Zc2 n))]? =some x_2->qCHo<=wr IntKind.u32 (qCHn n)/\wr IntKind.u32 (qCHn n)+qCHd<=qCH5/\∀(x_3:Nat),smT[Int.toNat (wr IntKind.u32 (qCHn n))]? =some x_3->(decide (Zs n)=true-> [Int.toNat X0%qCH8,Int.toNat (Z6j n)%qCH8,Int.toNat (qCHr x_3)%qCH8,Int.toNat (qCHr x_2)%qCH8,Int.toNat (qCHr x_1)%qCH8,Int.toNat (qCHr x)%qCH8]=v)/\(decide (Zs n)=false-> [Int.toNat (Z6j n)%qCH8,Int.toNat (qCHr x_3)%qCH8,Int.toNat (qCHr x_2)%qCH8,Int.toNat (qCHr x_1)%qCH8,Int.toNat (qCHr x)%qCH8]=v))/\((qCHv n)=(6:Int)->qCHo<=wr IntKind.u32 (Zc1 n)/\wr IntKind.u32 (Zc1 n)+qCHd<=qCH5/\∀(x:Nat),smT[Int.toNat (wr IntKind.u32 (Zc1 n))]? =some x->qCHo<=wr IntKind.u32 (qCHp n)/\wr IntKind.u32 (qCHp n)+qCHd<=qCH5/\∀(x_1:Nat),smT[Int.toNat (wr IntKind.u32 (qCHp n))]? =some x_1->qCHo<=wr IntKind.u32 (Zc2 n)/\wr IntKind.u32 (Zc2 n)+qCHd<=qCH5/\∀(x_2:Nat),smT[Int.toNat (wr IntKind.u32 (Zc2 n))]? =some x_2->qCHo<=wr IntKind.u32 (qCHn n)/\wr IntKind.u32 (qCHn n)+qCHd<=qCH5/\∀(x_3:Nat),smT[Int.toNat (wr IntKind.u32 (qCHn n))]? =some x_3->qCHo<=wr IntKind.u32 (Zni n)/\wr IntKind.u32 (Zni n)+qCHd<=qCH5/\∀(x_4:Nat),smT[Int.toNat (wr IntKind.u32 (Zni n))]? =some x_4->qCHo<=wr IntKind.u32 (qCHt n)/\wr IntKind.u32 (qCHt n)+qCHd<=qCH5/\∀(x_5:Nat),smT[Int.toNat (wr IntKind.u32 (qCHt n))]? =some x_5->(Z6d n x_5 x_4 x_3 x_2 x_1 x v)/\(Z6o n x_5 x_4 x_3 x_2 x_1 x v))/\((qCHv n)=(7:Int)->qCHo<=wr IntKind.u32 (Zc1 n)/\wr IntKind.u32 (Zc1 n)+qCHd<=qCH5/\∀(x:Nat),smT[Int.toNat (wr IntKind.u32 (Zc1 n))]? =some x->qCHo<=wr IntKind.u32 (qCHp n)/\wr IntKind.u32 (qCHp n)+qCHd<=qCH5/\∀(x_1:Nat),smT[Int.toNat (wr IntKind.u32 (qCHp n))]? =some x_1->qCHo<=wr IntKind.u32 (Zc2 n)/\wr IntKind.u32 (Zc2 n)+qCHd<=qCH5/\∀(x_2:Nat),smT[Int.toNat (wr IntKind.u32 (Zc2 n))]? =some x_2->qCHo<=wr IntKind.u32 (qCHn n)/\wr IntKind.u32 (qCHn n)+qCHd<=qCH5/\∀(x_3:Nat),smT[Int.toNat (wr IntKind.u32 (qCHn n))]? =some x_3->qCHo<=wr IntKind.u32 (Zni n)/\wr IntKind.u32 (Zni n)+qCHd<=qCH5/\∀(x_4:Nat),smT[Int.toNat (wr IntKind.u32 (Zni n))]? =some x_4->qCHo<=wr IntKind.u32 (qCHt n)/\wr IntKind.u32 (qCHt n)+qCHd<=qCH5/\∀(x_5:Nat),smT[Int.toNat (wr IntKind.u32 (qCHt n))]? =some x_5->(decide (Zs n)=true-> [Int.toNat X0%qCH8,Int.toNat (Z6b n)%qCH8,Int.toNat (qCHr x_5)%qCH8,Int.toNat (qCHr x_4)%qCH8,Int.toNat (qCHr x_3)%qCH8,Int.toNat (qCHr x_2)%qCH8,Int.toNat (qCHr x_1)%qCH8,Int.toNat (qCHr x)%qCH8]=v)/\(decide (Zs n)=false-> [Int.toNat (Z6b n)%qCH8,Int.toNat (qCHr x_5)%qCH8,Int.toNat (qCHr x_4)%qCH8,Int.toNat (qCHr x_3)%qCH8,Int.toNat (qCHr x_2)%qCH8,Int.toNat (qCHr x_1)%qCH8,Int.toNat (qCHr x)%qCH8]=v))/\((qCHv n)=(8:Int)->qCHo<=wr IntKind.u32 (Zb8 n)/\wr IntKind.u32 (Zb8 n)+qCHd<=qCH5/\∀(x:Nat),smT[Int.toNat (Znp n)]? =some x->qCHo<=wr IntKind.u32 (qCHl n)/\wr IntKind.u32 (qCHl n)+qCHd<=qCH5/\∀(x_1:Nat),smT[Int.toNat (Znx n)]? =some x_1->qCHo<=wr IntKind.u32 (Zb9 n)/\wr IntKind.u32 (Zb9 n)+qCHd<=qCH5/\∀(x_2:Nat),smT[Int.toNat (Znq
n)]? =some x_2->qCHo<=wr IntKind.u32 (qCHh n)/\wr IntKind.u32 (qCHh n)+qCHd<=qCH5/\∀(x_3:Nat),smT[Int.toNat (Zny n)]? =some x_3->qCHo<=wr IntKind.u32 (Zca n)/\wr IntKind.u32 (Zca n)+qCHd<=qCH5/\∀(x_4:Nat),smT[Int.toNat (Znr n)]? =some x_4->qCHo<=wr IntKind.u32 (qCHi n)/\wr IntKind.u32 (qCHi n)+qCHd<=qCH5/\∀(x_5:Nat),smT[Int.toNat (Znz n)]? =some x_5->qCHo<=wr IntKind.u32 (Zcb n)/\wr IntKind.u32 (Zcb n)+qCHd<=qCH5/\∀(x_6:Nat),smT[Int.toNat (Zns n)]? =some x_6->qCHo<=wr IntKind.u32 (qCHa n)/\wr IntKind.u32 (qCHa n)+qCHd<=qCH5/\∀(x_7:Nat),smT[Int.toNat (Zn0 n)]? =some x_7->(decide (Zs n)=true-> [Int.toNat X0%qCH8,Int.toNat (qCHr x_7)%qCH8,Int.toNat (qCHr x_6)%qCH8,Int.toNat (qCHr x_5)%qCH8,Int.toNat (qCHr x_4)%qCH8,Int.toNat (qCHr x_3)%qCH8,Int.toNat (qCHr x_2)%qCH8,Int.toNat (qCHr x_1)%qCH8,Int.toNat (qCHr x)%qCH8]=v)/\(decide (Zs n)=false-> [Int.toNat (qCHr x_7)%qCH8,Int.toNat (qCHr x_6)%qCH8,Int.toNat (qCHr x_5)%qCH8,Int.toNat (qCHr x_4)%qCH8,Int.toNat (qCHr x_3)%qCH8,Int.toNat (qCHr x_2)%qCH8,Int.toNat (qCHr x_1)%qCH8,Int.toNat (qCHr x)%qCH8]=v))/\((qCHv n)=(9:Int)->qCHo<=wr IntKind.u32 (Zb8 n)/\wr IntKind.u32 (Zb8 n)+qCHd<=qCH5/\∀(x:Nat),smT[Int.toNat (Znp n)]? =some x->qCHo<=wr IntKind.u32 (qCHl n)/\wr IntKind.u32 (qCHl n)+qCHd<=qCH5/\∀(x_1:Nat),smT[Int.toNat (Znx n)]? =some x_1->qCHo<=wr IntKind.u32 (Zb9 n)/\wr IntKind.u32 (Zb9 n)+qCHd<=qCH5/\∀(x_2:Nat),smT[Int.toNat (Znq n)]? =some x_2->qCHo<=wr IntKind.u32 (qCHh n)/\wr IntKind.u32 (qCHh n)+qCHd<=qCH5/\∀(x_3:Nat),smT[Int.toNat (Zny n)]? =some x_3->qCHo<=wr IntKind.u32 (Zca n)/\wr IntKind.u32 (Zca n)+qCHd<=qCH5/\∀(x_4:Nat),smT[Int.toNat (Znr n)]? =some x_4->qCHo<=wr IntKind.u32 (qCHi n)/\wr IntKind.u32 (qCHi n)+qCHd<=qCH5/\∀(x_5:Nat),smT[Int.toNat (Znz n)]? =some x_5->qCHo<=wr IntKind.u32 (Zcb n)/\wr IntKind.u32 (Zcb n)+qCHd<=qCH5/\∀(x_6:Nat),smT[Int.toNat (Zns n)]? =some x_6->qCHo<=wr IntKind.u32 (qCHa n)/\wr IntKind.u32 (qCHa n)+qCHd<=qCH5/\∀(x_7:Nat),smT[Int.toNat (Zn0 n)]? =some x_7->(decide (Zs n)=true-> [Int.toNat X0%qCH8,Int.toNat (Z59 n)%qCH8,Int.toNat (qCHr x_7)%qCH8,Int.toNat (qCHr x_6)%qCH8,Int.toNat (qCHr x_5)%qCH8,Int.toNat (qCHr x_4)%qCH8,Int.toNat (qCHr x_3)%qCH8,Int.toNat (qCHr x_2)%qCH8,Int.toNat (qCHr x_1)%qCH8,Int.toNat (qCHr x)%qCH8]=v)/\(decide (Zs n)=false-> [Int.toNat (Z59 n)%qCH8,Int.toNat (qCHr x_7)%qCH8,Int.toNat (qCHr x_6)%qCH8,Int.toNat (qCHr x_5)%qCH8,Int.toNat (qCHr x_4)%qCH8,Int.toNat (qCHr x_3)%qCH8,Int.toNat (qCHr x_2)%qCH8,Int.toNat (qCHr x_1)%qCH8,Int.toNat (qCHr x)%qCH8]=v))/\((qCHv n)=(10:Int)->qCHo<=wr IntKind.u32 (Zb8 n)/\wr IntKind.u32 (Zb8 n)+qCHd<=qCH5/\∀(x:Nat),smT[Int.toNat (Znp n)]? =some x->qCHo<=wr IntKind.u32 (qCHl n)/\wr IntKind.u32 (qCHl n)+qCHd<=qCH5/\∀(x_1:Nat),smT[Int.toNat (Znx n)]? =some x_1->qCHo<=wr IntKind.u32 (Zb9 n)/\wr IntKind.u32 (Zb9 n)+qCHd<=qCH5/\∀(x_2:Nat),smT[Int.toNat (Znq n)]? =some x_2->qCHo<=wr IntKind.u32 (qCHh n)/\wr IntKind.u32 (qCHh n)+qCHd<=qCH5/\∀(x_3:Nat),smT[Int.toNat (Zny n)]? =some x_3->qCHo<=wr IntKind.u32 (Zca n)/\wr IntKind.u32 (Zca n)+qCHd<=qCH5/\∀(x_4:Nat),smT[Int.toNat (Znr n)]? =some x_4->qCHo<=wr IntKind.u32 (qCHi n)/\wr IntKind.u32 (qCHi n)+qCHd<=qCH5/\∀(x_5:Nat),smT[Int.toNat (Znz n)]? =some x_5->qCHo<=wr IntKind.u32 (Zcb n)/\wr IntKind.u32 (Zcb n)+qCHd<=qCH5/\∀(x_6:Nat),smT[Int.toNat (Zns n)]? =some x_6->qCHo<=wr IntKind.u32 (qCHa n)/\wr IntKind.u32 (qCHa n)+qCHd<=qCH5/\∀(x_7:Nat),smT[Int.toNat (Zn0 n)]? =some x_7->qCHo<=wr IntKind.u32 (Znd n)/\wr IntKind.u32 (Znd n)+qCHd<=qCH5/\∀(x_8:
Nat),smT[Int.toNat (wr IntKind.u32 (Znd n))]? =some x_8->qCHo<=wr IntKind.u32 (Zk1 n)/\wr IntKind.u32 (Zk1 n)+qCHd<=qCH5/\∀(x_9:Nat),smT[Int.toNat (wr IntKind.u32 (Zk1 n))]? =some x_9->(decide (Zs n)=true-> [Int.toNat X0%qCH8,Int.toNat (qCHr x_9)%qCH8,Int.toNat (qCHr x_8)%qCH8,Int.toNat (qCHr x_7)%qCH8,Int.toNat (qCHr x_6)%qCH8,Int.toNat (qCHr x_5)%qCH8,Int.toNat (qCHr x_4)%qCH8,Int.toNat (qCHr x_3)%qCH8,Int.toNat (qCHr x_2)%qCH8,Int.toNat (qCHr x_1)%qCH8,Int.toNat (qCHr x)%qCH8]=v)/\(decide (Zs n)=false-> [Int.toNat (qCHr x_9)%qCH8,Int.toNat (qCHr x_8)%qCH8,Int.toNat (qCHr x_7)%qCH8,Int.toNat (qCHr x_6)%qCH8,Int.toNat (qCHr x_5)%qCH8,Int.toNat (qCHr x_4)%qCH8,Int.toNat (qCHr x_3)%qCH8,Int.toNat (qCHr x_2)%qCH8,Int.toNat (qCHr x_1)%qCH8,Int.toNat (qCHr x)%qCH8]=v))/\((qCHv n)=(11:Int)->qCHo<=wr IntKind.u32 (Zb8 n)/\wr IntKind.u32 (Zb8 n)+qCHd<=qCH5/\∀(x:Nat),smT[Int.toNat (Znp n)]? =some x->qCHo<=wr IntKind.u32 (qCHl n)/\wr IntKind.u32 (qCHl n)+qCHd<=qCH5/\∀(x_1:Nat),smT[Int.toNat (Znx n)]? =some x_1->qCHo<=wr IntKind.u32 (Zb9 n)/\wr IntKind.u32 (Zb9 n)+qCHd<=qCH5/\∀(x_2:Nat),smT[Int.toNat (Znq n)]? =some x_2->qCHo<=wr IntKind.u32 (qCHh n)/\wr IntKind.u32 (qCHh n)+qCHd<=qCH5/\∀(x_3:Nat),smT[Int.toNat (Zny n)]? =some x_3->qCHo<=wr IntKind.u32 (Zca n)/\wr IntKind.u32 (Zca n)+qCHd<=qCH5/\∀(x_4:Nat),smT[Int.toNat (Znr n)]? =some x_4->qCHo<=wr IntKind.u32 (qCHi n)/\wr IntKind.u32 (qCHi n)+qCHd<=qCH5/\∀(x_5:Nat),smT[Int.toNat (Znz n)]? =some x_5->qCHo<=wr IntKind.u32 (Zcb n)/\wr IntKind.u32 (Zcb n)+qCHd<=qCH5/\∀(x_6:Nat),smT[Int.toNat (Zns n)]? =some x_6->qCHo<=wr IntKind.u32 (qCHa n)/\wr IntKind.u32 (qCHa n)+qCHd<=qCH5/\∀(x_7:Nat),smT[Int.toNat (Zn0 n)]? =some x_7->qCHo<=wr IntKind.u32 (Znd n)/\wr IntKind.u32 (Znd n)+qCHd<=qCH5/\∀(x_8:Nat),smT[Int.toNat (wr IntKind.u32 (Znd n))]? =some x_8->qCHo<=wr IntKind.u32 (Zk1 n)/\wr IntKind.u32 (Zk1 n)+qCHd<=qCH5/\∀(x_9:Nat),smT[Int.toNat (wr IntKind.u32 (Zk1 n))]? =some x_9->(decide (Zs n)=true-> [Int.toNat X0%qCH8,Int.toNat (Z6k n)%qCH8,Int.toNat (qCHr x_9)%qCH8,Int.toNat (qCHr x_8)%qCH8,Int.toNat (qCHr x_7)%qCH8,Int.toNat (qCHr x_6)%qCH8,Int.toNat (qCHr x_5)%qCH8,Int.toNat (qCHr x_4)%qCH8,Int.toNat (qCHr x_3)%qCH8,Int.toNat (qCHr x_2)%qCH8,Int.toNat (qCHr x_1)%qCH8,Int.toNat (qCHr x)%qCH8]=v)/\(decide (Zs n)=false-> [Int.toNat (Z6k n)%qCH8,Int.toNat (qCHr x_9)%qCH8,Int.toNat (qCHr x_8)%qCH8,Int.toNat (qCHr x_7)%qCH8,Int.toNat (qCHr x_6)%qCH8,Int.toNat (qCHr x_5)%qCH8,Int.toNat (qCHr x_4)%qCH8,Int.toNat (qCHr x_3)%qCH8,Int.toNat (qCHr x_2)%qCH8,Int.toNat (qCHr x_1)%qCH8,Int.toNat (qCHr x)%qCH8]=v))/\((qCHv n)=(12:Int)->qCHo<=wr IntKind.u32 (Zb8 n)/\wr IntKind.u32 (Zb8 n)+qCHd<=qCH5/\∀(x:Nat),smT[Int.toNat (Znp n)]? =some x->qCHo<=wr IntKind.u32 (qCHl n)/\wr IntKind.u32 (qCHl n)+qCHd<=qCH5/\∀(x_1:Nat),smT[Int.toNat (Znx n)]? =some x_1->qCHo<=wr IntKind.u32 (Zb9 n)/\wr IntKind.u32 (Zb9 n)+qCHd<=qCH5/\∀(x_2:Nat),smT[Int.toNat (Znq n)]? =some x_2->qCHo<=wr IntKind.u32 (qCHh n)/\wr IntKind.u32 (qCHh n)+qCHd<=qCH5/\∀(x_3:Nat),smT[Int.toNat (Zny n)]? =some x_3->qCHo<=wr IntKind.u32 (Zca n)/\wr IntKind.u32 (Zca n)+qCHd<=qCH5/\∀(x_4:Nat),smT[Int.toNat (Znr n)]? =some x_4->qCHo<=wr IntKind.u32 (qCHi n)/\wr IntKind.u32 (qCHi n)+qCHd<=qCH5/\∀(x_5:Nat),smT[Int.toNat (Znz n)]? =some x_5->qCHo<=wr IntKind.u32 (Zcb n)/\wr IntKind.u32 (Zcb n)+qCHd<=qCH5/\∀(x_6:Nat),smT[Int.toNat (Zns n)]? =some x_6->qCHo<=wr IntKind.u32 (qCHa n)/\wr IntKind.u32 (qCHa n)+qCHd<=qCH5/\∀(x_7:Nat),smT[Int.toNat (Zn0 n)]? =some x_7->qCHo<=wr
IntKind.u32 (Znj n)/\wr IntKind.u32 (Znj n)+qCHd<=qCH5/\∀(x_8:Nat),smT[Int.toNat (wr IntKind.u32 (Znj n))]? =some x_8->qCHo<=wr IntKind.u32 (qCHy n)/\wr IntKind.u32 (qCHy n)+qCHd<=qCH5/\∀(x_9:Nat),smT[Int.toNat (wr IntKind.u32 (qCHy n))]? =some x_9->qCHo<=wr IntKind.u32 (Znk n)/\wr IntKind.u32 (Znk n)+qCHd<=qCH5/\∀(x_10:Nat),smT[Int.toNat (wr IntKind.u32 (Znk n))]? =some x_10->qCHo<=wr IntKind.u32 (qCHu n)/\wr IntKind.u32 (qCHu n)+qCHd<=qCH5/\∀(x_11:Nat),smT[Int.toNat (wr IntKind.u32 (qCHu n))]? =some x_11->(decide (Zs n)=true-> [Int.toNat X0%qCH8,Int.toNat (qCHr x_11)%qCH8,Int.toNat (qCHr x_10)%qCH8,Int.toNat (qCHr x_9)%qCH8,Int.toNat (qCHr x_8)%qCH8,Int.toNat (qCHr x_7)%qCH8,Int.toNat (qCHr x_6)%qCH8,Int.toNat (qCHr x_5)%qCH8,Int.toNat (qCHr x_4)%qCH8,Int.toNat (qCHr x_3)%qCH8,Int.toNat (qCHr x_2)%qCH8,Int.toNat (qCHr x_1)%qCH8,Int.toNat (qCHr x)%qCH8]=v)/\(decide (Zs n)=false-> [Int.toNat (qCHr x_11)%qCH8,Int.toNat (qCHr x_10)%qCH8,Int.toNat (qCHr x_9)%qCH8,Int.toNat (qCHr x_8)%qCH8,Int.toNat (qCHr x_7)%qCH8,Int.toNat (qCHr x_6)%qCH8,Int.toNat (qCHr x_5)%qCH8,Int.toNat (qCHr x_4)%qCH8,Int.toNat (qCHr x_3)%qCH8,Int.toNat (qCHr x_2)%qCH8,Int.toNat (qCHr x_1)%qCH8,Int.toNat (qCHr x)%qCH8]=v))/\((qCHv n)=(13:Int)->qCHo<=wr IntKind.u32 (Zb8 n)/\wr IntKind.u32 (Zb8 n)+qCHd<=qCH5/\∀(x:Nat),smT[Int.toNat (Znp n)]? =some x->qCHo<=wr IntKind.u32 (qCHl n)/\wr IntKind.u32 (qCHl n)+qCHd<=qCH5/\∀(x_1:Nat),smT[Int.toNat (Znx n)]? =some x_1->qCHo<=wr IntKind.u32 (Zb9 n)/\wr IntKind.u32 (Zb9 n)+qCHd<=qCH5/\∀(x_2:Nat),smT[Int.toNat (Znq n)]? =some x_2->qCHo<=wr IntKind.u32 (qCHh n)/\wr IntKind.u32 (qCHh n)+qCHd<=qCH5/\∀(x_3:Nat),smT[Int.toNat (Zny n)]? =some x_3->qCHo<=wr IntKind.u32 (Zca n)/\wr IntKind.u32 (Zca n)+qCHd<=qCH5/\∀(x_4:Nat),smT[Int.toNat (Znr n)]? =some x_4->qCHo<=wr IntKind.u32 (qCHi n)/\wr IntKind.u32 (qCHi n)+qCHd<=qCH5/\∀(x_5:Nat),smT[Int.toNat (Znz n)]? =some x_5->qCHo<=wr IntKind.u32 (Zcb n)/\wr IntKind.u32 (Zcb n)+qCHd<=qCH5/\∀(x_6:Nat),smT[Int.toNat (Zns n)]? =some x_6->qCHo<=wr IntKind.u32 (qCHa n)/\wr IntKind.u32 (qCHa n)+qCHd<=qCH5/\∀(x_7:Nat),smT[Int.toNat (Zn0 n)]? =some x_7->qCHo<=wr IntKind.u32 (Znj n)/\wr IntKind.u32 (Znj n)+qCHd<=qCH5/\∀(x_8:Nat),smT[Int.toNat (wr IntKind.u32 (Znj n))]? =some x_8->qCHo<=wr IntKind.u32 (qCHy n)/\wr IntKind.u32 (qCHy n)+qCHd<=qCH5/\∀(x_9:Nat),smT[Int.toNat (wr IntKind.u32 (qCHy n))]? =some x_9->qCHo<=wr IntKind.u32 (Znk n)/\wr IntKind.u32 (Znk n)+qCHd<=qCH5/\∀(x_10:Nat),smT[Int.toNat (wr IntKind.u32 (Znk n))]? =some x_10->qCHo<=wr IntKind.u32 (qCHu n)/\wr IntKind.u32 (qCHu n)+qCHd<=qCH5/\∀(x_11:Nat),smT[Int.toNat (wr IntKind.u32 (qCHu n))]? =some x_11->(decide (Zs n)=true-> [Int.toNat X0%qCH8,Int.toNat (Z6l n)%qCH8,Int.toNat (qCHr x_11)%qCH8,Int.toNat (qCHr x_10)%qCH8,Int.toNat (qCHr x_9)%qCH8,Int.toNat (qCHr x_8)%qCH8,Int.toNat (qCHr x_7)%qCH8,Int.toNat (qCHr x_6)%qCH8,Int.toNat (qCHr x_5)%qCH8,Int.toNat (qCHr x_4)%qCH8,Int.toNat (qCHr x_3)%qCH8,Int.toNat (qCHr x_2)%qCH8,Int.toNat (qCHr x_1)%qCH8,Int.toNat (qCHr x)%qCH8]=v)/\(decide (Zs n)=false-> [Int.toNat (Z6l n)%qCH8,Int.toNat (qCHr x_11)%qCH8,Int.toNat (qCHr x_10)%qCH8,Int.toNat (qCHr x_9)%qCH8,Int.toNat (qCHr x_8)%qCH8,Int.toNat (qCHr x_7)%qCH8,Int.toNat (qCHr x_6)%qCH8,Int.toNat (qCHr x_5)%qCH8,Int.toNat (qCHr x_4)%qCH8,Int.toNat (qCHr x_3)%qCH8,Int.toNat (qCHr x_2)%qCH8,Int.toNat (qCHr x_1)%qCH8,Int.toNat (qCHr x)%qCH8]=v))/\True))):=by kernel_rfl
end
section
open Go
theorem Z9h:∀(k u:Nat),u<10^(k+1)->Lib.nDigits u<=k+1
 |0,u,h=>by rw [Lib.nDigits_small (by simpa using h)];exact Nat.le_refl _
 |k+1,u,h=>by
  by_cases h1:u<10
  · rw [Lib.nDigits_small h1];omega
  · rw [Lib.nDigits_big h1]
    rw [Nat.pow_succ] at h
    have:=Z9h k (u/10) (by omega)
    omega
theorem Zwx {u:Int} {k:Res thy->Prop}:∀{l:List Int},ndK u k l->∀j∈l,(Lib.nDigits u.toNat:Int)=j->k (quiet [] (.int true .i64 j))
 | [],_,j,hj,_=>by cases hj
 |x::r,h,j,hj,e=>by
  rcases List.mem_cons.1 hj with rfl|hj
  · exact h.1 e
  · exact Zwx h.2 j hj e
theorem in13 (d:Nat) (h1:1<=d) (h2:d<=13):(d:Int)∈ [(1:Int),2,3,4,5,6,7,8,9,10,11,12,13]:=by
 have:d=1\/d=2\/d=3\/d=4\/d=5\/d=6\/d=7\/d=8\/d=9\/d=10\/d=11\/d=12\/d=13:=by omega
 rcases this with rfl|rfl|rfl|rfl|rfl|rfl|rfl|rfl|rfl|rfl|rfl|rfl|rfl<;>decide
theorem Z9i:SumOk E 115 Snd:=by
 have hS:SumOk E 115 (Zal (dA1 dU64) (fun x=>1<=x.1/\x.1<10000000000000) (fun x=>Lib.nDigits x.1.toNat) fun (y:Nat)=> .int true .i64 y):=Yj E_ok (Zc rfl) fun x h=>by
  have:=Z58 x.1.toNat (by omega) (by omega)
  rw [show ((x.1.toNat:Nat):Int)=x.1 by omega] at this
  intro g w vals hI hd
  refine (this g w vals hI hd).mono ?_
  rintro en w' ⟨u,he,g',h1,h2,h3⟩
  cases h3
  exact ⟨_,he,g',h1,h2,.int _ _ _⟩
 refine ⟨hS.good,fun args h i k hD hk=> ?_⟩
 unfold Snd at hk
 split at hk
 case h_2=>exact hk.elim
 rename_i l u
 obtain ⟨⟨h1,h2⟩,hk⟩:=hk
 refine hS.ok _ h i k hD ⟨⟨h1,h2⟩,fun y hy=> ?_⟩
 subst hy
 have hn:=Z9h 12 u.toNat (by show u.toNat<10000000000000;omega)
 have hp:=Lib.nDigits_pos u.toNat
 refine Zwx hk _ (in13 _ hp hn) rfl
theorem Zwy:SumOk E 114 Z3k:=Yj E_ok (Zc rfl) fun x h=>by
 have:=Zsi x.1.toNat (by omega)
 rw [show ((x.1.toNat:Nat):Int)=x.1 by omega] at this
 have e:Lib.itoa x.1=Lib.decDigits x.1.toNat:=by unfold Lib.itoa;rw [if_neg (by omega)]
 rw [e]
 exact this
theorem Z9j:FnsOk E Fit:=Zd (Zd F0_ok Z9i) Zwy
def smV (i:Nat):Nat:=if i%2=0 then 48+i/2/10 else 48+i/2%10
theorem Z54:∀i,i<200->smT[i]? =some (smV i):=by decide+kernel
theorem Z55:smT.length=200:=by decide+kernel
theorem Z9k {e:Int} {P:Nat->Prop} (h0:0<=e) (h1:e<200) (h:P (smV e.toNat)):(0:Int)<=e/\e+(1:Int)<=(↑(List.length smT):Int)/\∀(x:Nat),smT[Int.toNat e]? =some x->P x:=by
 refine ⟨h0,by rw [Z55];omega,fun x hx=> ?_⟩
 rw [Z54 _ (by omega)] at hx
 cases hx
 exact h
theorem smE {x:Int} (h0:0<=x) (h1:x<100):smV (x*2).toNat%(256:Nat)=48+x.toNat/10:=by
 have:smV (x*2).toNat=48+x.toNat/10:=by
  unfold smV
  rw [if_pos (by omega)]
  congr 2
  omega
 rw [this]
 omega
theorem smO {x:Int} (h0:0<=x) (h1:x<100):smV (x*2+1).toNat%(256:Nat)=48+x.toNat%10:=by
 have:smV (x*2+1).toNat=48+x.toNat%10:=by
  unfold smV
  rw [if_neg (by omega)]
  congr 2
  omega
 rw [this]
 omega
theorem wu64 (x:Int):wr .u64 x=x%18446744073709551616:=rfl
theorem wu32 (x:Int):wr .u32 x=x%4294967296:=rfl
theorem wu8 (x:Int):wr .u8 x=x%256:=rfl
def dgN (u j:Nat):Nat:=48+u/10^j%10
theorem Z03 (u k:Nat) (h:Lib.nDigits u=k):(Lib.decDigits u).map UInt8.toNat=(List.range k).map fun t=>dgN u (k-1-t):=by
 rw [Lib.decDigits_eq,List.map_map,h]
 refine List.map_congr_left fun t _=> ?_
 show (Lib.dg u (k-1-t)).toNat=_
 unfold Lib.dg dgN
 rw [UInt8.toNat_ofNat']
 omega
set_option maxHeartbeats 4000000 in
theorem Zwz (u:Nat) (hu:u<10000000000000):PureC E 14 [.int false .i64 (u:Int)] (.str false (decN u)):=by
 refine Zb E_ok (Zh E_ok Z9j 2000) ?_
 rw [Zw1]; delta qCHo qCH6 qCHd Zs qCHz X0 qCH8 Zan qCH3 qCHc Zne qCH5 qCHw qCHr Z6e Zcz qCHm Zc0 qCHj Z6n Z6f Znf qCHq Z6d Z6o Z6a Zb4 Znl qCHk Znt Zb5 Znm qCHf Znu Zb6 Znn qCHg Znv Zb7 Zno qCH9 Znw Z6c Znb Zkz Z6g Zng qCHx Znh qCHs Z6h qCHv Z6m Znc Zk0 Z6i Zc1 qCHp Zc2 qCHn Z6j Zni qCHt Z6b Zb8 Znp qCHl Znx Zb9 Znq qCHh Zny Zca Znr qCHi Znz Zcb Zns qCHa Zn0 Z59 Znd Zk1 Z6k Znj qCHy Znk qCHu Z6l qCH7 qCH4 Zna qCH2 qCHe qCHb qCH1 Zky
 have hdec:decN (u:Int)=(Lib.decDigits u).map UInt8.toNat:=by
  unfold decN Lib.itoa
  rw [if_neg (by omega)]
  rfl
 by_cases hs:u<100
 · refine ⟨fun b=>b=true,⟨fun _=>⟨fun _=>rfl,fun h=> ?_⟩,fun h=> ?_⟩,fun _=>⟨⟨by omega,by omega⟩,fun y hy=>hy⟩,fun h=>by cases h⟩
   · exact absurd h (by simp;omega)
   · exact absurd h (by simp)
 refine ⟨fun b=>b=false,⟨fun _=>⟨fun h=> ?_,fun _=>rfl⟩,fun _=>rfl⟩,fun h=>(by cases h),fun _=>⟨fun h=> ?_,fun _=> ?_⟩⟩
 · exact absurd h (by simp;omega)
 · exact absurd h (by simp)
 have e64:wr .u64 (u:Int)=u:=by rw [wu64];omega
 have hneg:decide ((u:Int)<0)=false:=by simp
 simp only [e64,hneg,Bool.false_eq_true,false_implies,true_implies,true_and,Int.toNat_natCast,and_true]
 rw [hdec]
 have hp:=Lib.lt_pow_nDigits u
 refine ⟨⟨by omega,by omega⟩,?_⟩
 repeat' apply And.intro
 all_goals
  intro hnd
  have hnd:=Int.ofNat.inj hnd
  rw [Z03 u _ hnd]
  rw [hnd] at hp
  simp only [Nat.reducePow] at hp
  clear hnd hdec e64 hneg
  simp (disch:=omega) only [wu64,wu32,wu8,Int.tmod_eq_emod_of_nonneg,Int.tdiv_eq_ediv_of_nonneg]
  simp (disch:=omega) only [Int.emod_eq_of_lt]
  repeat' (first|(refine Z9k ?_ ?_ ?_)|omega)
  all_goals try simp only [List.range,List.range.loop,List.map_cons,List.map_nil,dgN,List.cons.injEq,and_true,Nat.reduceSub,Nat.reducePow]
  all_goals (repeat' apply And.intro)
  all_goals try simp (disch:=omega) only [smE,smO]
  all_goals first|trivial|omega
end
section
open Go.RowKit
section
variable {Y : Thy} {E : Eng Y}
open Classical in
end
end
section
open Go
noncomputable def Z91:Sum thy:=Zal (dA1 dN) (fun x=>0<=x.1/\x.1<10000000000000) (fun x=>decN x.1) fun y=> .str false y
theorem Z1h:SumOk E 14 Z91:=Yj E_ok (Zc rfl) fun x h=>by
 have:=Zwz x.1.toNat (by omega)
 rw [show ((x.1.toNat:Nat):Int)=x.1 by omega] at this
 exact this
end
section
open Go
def dD (u:Nat):List Nat:=(Lib.decDigits u).map UInt8.toNat
theorem Zbz {u:Nat} (h:u<10):dD u= [48+u]:=by
 unfold dD
 rw [Lib.decDigits,dif_pos h]
 have:(UInt8.ofNat (48+u)).toNat=48+u:=by
  rw [UInt8.toNat_ofNat']
  omega
 simp only [List.map_cons,List.map_nil,this]
theorem Zks {u:Nat} (h:¬u<10):dD u=dD (u/10)++ [48+u%10]:=by
 unfold dD
 rw [Lib.decDigits,dif_neg h]
 have:(UInt8.ofNat (48+u%10)).toNat=48+u%10:=by
  rw [UInt8.toNat_ofNat']
  omega
 rw [List.map_append]
 simp only [List.map_cons,List.map_nil,this]
theorem Zws {n:Int} (h:0<=n):decN n=dD n.toNat:=by
 unfold decN dD Lib.itoa
 rw [if_neg (by omega)]
theorem Zp9:∀{a b:List Nat} {n m:Int},numL n a=(m,0)->numL n (a++b)=numL m b
 | [],b,n,m,h=>by
  unfold numL at h
  cases h
  rfl
 |c::r,b,n,m,h=>by
  unfold numL at h
  rw [List.cons_append]
  unfold numL
  split at h
  · cases h
  · rename_i hn
    rw [if_neg hn,Zp9 h]
    cases b<;>rfl
theorem Z0w (u:Nat):dD u≠ []:=by
 by_cases h:u<10
 · rw [Zbz h];simp
 · rw [Zks h];simp
theorem Z9f:∀(u:Nat),u<=1099511627776->numL 0 (dD u)=((u:Int),0):=by
 intro u
 induction u using Nat.strongRecOn with
 |_ u ih=>
  intro hu
  by_cases h:u<10
  · rw [Zbz h]
    unfold numL
    rw [if_neg (by omega)]
    unfold numL
    congr 1
    omega
  · rw [Zks h,Zp9 (ih (u/10) (by omega) (by omega))]
    unfold numL
    rw [if_neg (by omega)]
    unfold numL
    congr 1
    omega
theorem Z9g:∀(u:Nat),∀c∈dD u,isD (c:Int)=true:=by
 intro u
 induction u using Nat.strongRecOn with
 |_ u ih=>
  have one:∀k:Nat,k<10->isD ((48+k:Nat):Int)=true:=by
   intro k hk
   unfold isD
   simp
   omega
  by_cases h:u<10
  · rw [Zbz h]
    intro c hc
    rw [List.mem_singleton] at hc
    subst hc
    exact one u h
  · rw [Zks h]
    intro c hc
    rcases List.mem_append.1 hc with hc|hc
    · exact ih (u/10) (by omega) c hc
    · rw [List.mem_singleton] at hc
      subst hc
      exact one _ (by omega)
theorem Z5y:∀(u:Nat),1<(dD u).length->(dD u).head?≠some 48:=by
 intro u
 induction u using Nat.strongRecOn with
 |_ u ih=>
  by_cases h:u<10
  · rw [Zbz h]
    intro hl
    simp at hl
  · rw [Zks h]
    intro _
    have e:(dD (u/10)++ [48+u%10]).head? =(dD (u/10)).head? :=by
     cases hd:dD (u/10) with
     |nil=>exact absurd hd (Z0w _)
     |cons x r=>rfl
    rw [e]
    by_cases h2:u/10<10
    · rw [Zbz h2]
      intro k
      injection k with k
      omega
    · refine ih (u/10) (by omega) ?_
      rw [Zks h2,List.length_append]
      have:=Z0w (u/10/10)
      cases hd:dD (u/10/10) with
      |nil=>exact absurd hd this
      |cons x r=>simp
theorem Zm2 {n:Int} (h0:0<=n) (h1:n<=1099511627776):tokP (decN n)=(⟨2,decN n,n,0⟩,0):=by
 rw [Zws h0]
 have hne:=Z0w n.toNat
 have hd:=Z9g n.toNat
 have hn:=Z9f n.toNat (by omega)
 have hh:=Z5y n.toNat
 have hc:((n.toNat:Nat):Int)=n:=by omega
 generalize dD n.toNat=w at*
 cases w with
 |nil=>exact absurd rfl hne
 |cons c r=>
  rw [Yo]
  have hdc:=hd c (by simp)
  have hl:isL (c:Int)=false:=by
   unfold isD at hdc
   unfold isL
   simp at hdc⊢
   omega
  rw [if_neg (by rw [hl];decide),if_pos hdc,Vt hd,List.take_length]
  have:numb (c::r)=(n,0):=by
   unfold numb
   rw [if_neg (fun k=>hh k.1 k.2),hn,hc]
  rw [this]
theorem Zqa {n:Int} (h0:0<=n) (h1:n<=1099511627776):TokW (decN n):=by
 refine ⟨by rw [Zm2 h0 h1],by rw [Zm2 h0 h1],?_⟩
 rw [Zws h0]
 exact Z0w _
theorem Zm3 {n:Int} (h0:0<=n) (h1:n<=1099511627776):tkS (decN n)=⟨2,decN n,n,0⟩:=by
 unfold tkS
 rw [Zm2 h0 h1]
 rfl
def Fl0 (r:List Tok):Prop:=¬0<=chz WK.un.words r/\isW sPer r=false
end
section
open Go
theorem Zcu {o:List Tok->Int×List Tok} {pf:PE} (ho:∀l,(o l).2.length<=l.length) (hp:Shr pf):∀(k k':Nat) (x:Ex) (op:Int) (l:List Tok) (e:Int),l.length<k->l.length<k'->Yu o pf k x op l e=Yu o pf k' x op l e
 |0,_,_,_,_,_,h,_=>by omega
 |_+1,0,_,_,_,_,_,h=>by omega
 |k+1,k'+1,x,op,l,e,h,h'=>by
  unfold Yu
  split
  · rfl
  · cases hq:pf l e with
    |error er=>rfl
    |ok y=>
     have h1:=hp _ _ _ _ hq
     have h2:=ho y.2.1
     exact Zcu ho hp k k' _ _ _ _ (by omega) (by omega)
def pRx (o:List Tok->Int×List Tok) (pf:PE) (x:Ex) (op:Int) (l:List Tok) (e:Int):PR Ex:=Yu o pf (l.length+1) x op l e
theorem Z8c {o:List Tok->Int×List Tok} {pf:PE} (ho:∀l,(o l).2.length<=l.length) (hp:Shr pf) (x:Ex) (op:Int) (l:List Tok) (e:Int):
 pRx o pf x op l e=if op=0 then .ok (x,l,e,()) else match pf l e with
  | .error er=> .error er
  | .ok (y,z)=>pRx o pf (.mk op 0 0 0 0 0 [x,y]) (o z.1).1 (o z.1).2 z.2.1:=by
 unfold pRx
 rw [Yu]
 split
 · rfl
 · cases hq:pf l e with
   |error er=>rfl
   |ok y=>
    have h1:=hp _ _ _ _ hq
    have h2:=ho y.2.1
    exact Zcu ho hp _ _ _ _ _ _ (by omega) (by omega)
theorem Z26 (l:List Tok):(op1 l).2.length<=l.length:=Zn2 l
theorem Zu4 (l:List Tok):(op2 l).2.length<=l.length:=Zn3 l
def Agr (n:Nat) (p q:PE):Prop:=∀l e,l.length<n->p l e=q l e
theorem Zpq {n:Nat} {p q:PE} (hp:Shr p) (h:Agr n p q):∀(ss:List (List Nat)) (acc:List Ex) (l:List Tok) (e:Int),l.length<n->pOpL p ss acc l e=pOpL q ss acc l e
 | [],_,_,_,_=>rfl
 |s::r,acc,l,e,hl=>by
  unfold pOpL
  rw [<-h l e hl]
  cases hq:p l e with
  |error er=>rfl
  |ok y=>
   have h1:=hp _ _ _ _ hq
   dsimp only
   split
   · refine Zpq hp h r _ _ _ ?_
     rw [List.length_tail]
     omega
   · rfl
theorem Zpr {n:Nat} {p q:PE} (hp:Shr p) (h:Agr n p q) (op:Int) (ss:List (List Nat)) (l:List Tok) (e:Int) (hl:l.length<n+1):pOps p op ss l e=pOps q op ss l e:=by
 unfold pOps
 split
 · rename_i hw
   have:=Zm hw
   rw [Zpq hp h ss [] l.tail e (by omega)]
 · rfl
theorem Zj7 {n:Nat} {p q:PE} (hp:Shr p) (h:Agr n p q) (l:List Tok) (e:Int) (hl:l.length<n+1):Za7 p l e=Za7 q l e:=by
 unfold Za7
 split
 · rename_i hw
   have:=Zm hw
   rw [h l.tail e (by omega)]
 · split
   · rename_i hw
     have:=Zm hw
     rw [Zpr hp h _ _ l.tail e (by omega)]
   · cases hc:Zw WK.ca.words l e with
     |error er=>rfl
     |ok y=>
      obtain ⟨y0,y1⟩:=y
      have:y1.1.length<=l.length:=by
       rcases Y5 hc with ⟨_,_,rfl⟩|⟨_,_,rfl⟩
       · show l.tail.length<=l.length
         rw [List.length_tail]
         omega
       · exact Nat.le_refl _
      dsimp only
      split
      · exact Zpr hp h _ _ _ _ (by omega)
      · rfl
theorem Zzt {n:Nat} {p q:PE} (hp:Shr p) (h:Agr n p q):Agr (n+1) (pFac p) (pFac q):=by
 intro l e hl
 unfold pFac
 split
 · exact Zj7 hp h _ _ hl
 · split
   · rfl
   · exact Zj7 hp h _ _ hl
theorem Zj8 {n:Nat} {o:List Tok->Int×List Tok} (ho:∀l,(o l).2.length<=l.length) {p q:PE} (hp:Shr p) (h:Agr n p q):∀(k:Nat) (x:Ex) (op:Int) (l:List Tok) (e:Int),l.length<n->Yu o p k x op l e=Yu o q k x op l e
 |0,_,_,_,_,_=>rfl
 |k+1,x,op,l,e,hl=>by
  unfold Yu
  split
  · rfl
  · rw [<-h l e hl]
    cases hq:p l e with
    |error er=>rfl
    |ok y=>
     have h1:=hp _ _ _ _ hq
     have h2:=ho y.2.1
     exact Zj8 ho hp h k _ _ _ _ (by omega)
theorem Zu5 {n:Nat} {o:List Tok->Int×List Tok} (ho:∀l,(o l).2.length<=l.length) {p q:PE} (hp:Shr p) (h:Agr n p q):Agr n (pCh o p) (pCh o q):=by
 intro l e hl
 unfold pCh
 rw [<-h l e hl]
 cases hq:p l e with
 |error er=>rfl
 |ok y=>
  have h1:=hp _ _ _ _ hq
  have h2:=ho y.2.1
  exact Zj8 ho hp h _ _ _ _ _ (by omega)
theorem Z8d (n:Nat):Shr (pE n):=(Zaq n).shr
theorem Zps {pe:PE} (h:Bnd pe):Shr (pFac pe):=(Vq h).shr
theorem Z27:∀(n m:Nat),n<=m->Agr n (pE n) (pE m)
 |0,m,_=>fun l e hl=>by omega
 |n+1,m+1,h=>by
  have ih:=Z27 n m (by omega)
  unfold pE
  refine Zu5 Zu4 (Zc3 Zff (Vq (Zaq n))).shr ?_
  exact Zu5 Z26 (Zps (Zaq n)) (Zzt (Z8d n) ih)
theorem Z8e (n:Nat):Agr n (pE n) pX:=by
 intro l e hl
 unfold pX
 exact (Z27 (l.length+1) n (by omega) l e (Nat.lt_succ_self _)).symm
def pf:PE:=pFac pX
def pt:PE:=pCh op1 pf
theorem Z8f:Bnd pf:=Vq Zqh
theorem pt_bnd:Bnd pt:=Zc3 Zff Z8f
theorem Z8g:Shr pt:=pt_bnd.shr
theorem Yat (x:Ex) (op:Int) (l:List Tok) (e:Int):pRx op2 pt x op l e=if op=0 then .ok (x,l,e,()) else match pt l e with
 | .error er=> .error er
 | .ok (y,z)=>pRx op2 pt (.mk op 0 0 0 0 0 [x,y]) (op2 z.1).1 (op2 z.1).2 z.2.1:=Z8c Zu4 Z8g x op l e
abbrev TS (ws:List (List Nat)):List Tok:=ws.map tkS
def d0:List Int:= [0,0,0,0]
def UnF (u:List Int):Prop:=(u=d0/\txU u= [])\/(∃i,i<4/\u=incD d0 (i:Nat)/\txU u= [WK.un.words.getD i []])\/(∃j,j<4/\u=decD d0 (j:Nat)/\txU u= [sPer,WK.un.words.getD j []])\/(∃i,i<4/\∃j,j<4/\u=decD (incD d0 (i:Nat)) (j:Nat)/\txU u= [WK.un.words.getD i [],sPer,WK.un.words.getD j []])
instance (u:List Int):Decidable (UnF u):=by unfold UnF;infer_instance
def Fl1 (r:List Tok):Prop:=Fl0 r/\isW sMul r=false
def Fl2 (r:List Tok):Prop:=Fl1 r/\isW Zfe r=false/\isW Zcc r=false
theorem Z8h {r:List Tok} (h:Fl2 r):op2 r=(0,r):=by unfold op2;rw [if_neg (by rw [h.2.1];decide),if_neg (by rw [h.2.2];decide)]
structure Rdb (x:Ex):Prop where
 fac:3<=tightF x.op->∀r e,Fl0 r->pf (TS (txX x)++r) e= .ok (x,r,e,())
 term:2<=tightF x.op->∀r e,Fl0 r->pt (TS (txX x)++r) e=pRx op1 pf x (op1 r).1 (op1 r).2 e
 expr:∀r e,Fl1 r->pX (TS (txX x)++r) e=pRx op2 pt x (op2 r).1 (op2 r).2 e
theorem Rdb.all {x:Ex} (h:Rdb x) {r:List Tok} (hr:Fl2 r) (e:Int):pX (TS (txX x)++r) e= .ok (x,r,e,()):=by
 rw [h.expr r e hr.1,Z8h hr,Yat,if_pos rfl]
end
section
open Go
end
section
open Go
def CsOk:List (List Nat)->List Cls->Prop
 |_,[]=>True
 |seen,c::r=>V1 c=true/\resF c.name=false/\c.name∉seen/\c.when_.length<=8/\Zx c.pay<=24/\CsOk (c.name::seen) r
def Z5x (m:List (List Nat×Bool)) (seen:List (List Nat)):Prop:=∀a,(Yt m a).getD false=decide (a∈seen)
theorem Zwi {m:List (List Nat×Bool)} {seen:List (List Nat)} (h:Z5x m seen) (a:List Nat):Z5x (putS m a true) (a::seen):=by
 intro b
 rw [Ze6]
 by_cases e:a=b
 · rw [if_pos e]
   subst e
   simp
 · rw [if_neg e,h b]
   simp [Ne.symm e]
theorem Zp6:∀(cs:List Cls) (a b:Bool) (m:List (List Nat×Bool)) (seen:List (List Nat)),Z5x m seen->(goC a b m cs=0↔a=false/\b=false/\CsOk seen cs)
 | [],a,b,m,seen,hm=>by
  unfold goC CsOk
  cases a<;>cases b<;>decide
 |c::r,a,b,m,seen,hm=>by
  rw [Zdy]
  unfold CsOk
  by_cases hc:V1 c=true
  · rw [if_pos hc,Zp6 r _ _ _ _ (Zwi hm c.name),hm c.name]
    simp only [Bool.or_eq_false_iff,decide_eq_false_iff_not]
    constructor
    · rintro ⟨⟨⟨h1,h2⟩,h3⟩,⟨⟨h4,h5⟩,h6⟩,h7⟩
      exact ⟨h1,h4,hc,h2,h3,by omega,by omega,h7⟩
    · rintro ⟨h1,h4,_,h2,h3,h5,h6,h7⟩
      exact ⟨⟨⟨h1,h2⟩,h3⟩,⟨⟨h4,by omega⟩,by omega⟩,h7⟩
  · rw [if_neg hc]
    constructor
    · intro h
      cases h
    · rintro ⟨_,_,h,_⟩
      exact absurd h hc
theorem Zm0 (t:Tar):W8 t=0↔Zfn t.name=true/\1<=t.for_/\t.for_<=6/\resF t.name=false/\t.clauses.length<=64/\CsOk [] t.clauses:=by
 unfold W8
 split
 · rename_i h
   rw [Zp6 _ _ _ _ [] (fun a=>by simp [Yt])]
   rw [decide_eq_false_iff_not]
   constructor
   · rintro ⟨h1,h2,h3⟩
     exact ⟨h.1,h.2.1,h.2.2,h1,by omega,h3⟩
   · rintro ⟨_,_,_,h1,h2,h3⟩
     exact ⟨h1,by omega,h3⟩
 · rename_i h
   constructor
   · intro k
     cases k
   · rintro ⟨h1,h2,h3,_⟩
     exact absurd ⟨h1,h2,h3⟩ h
theorem Z0u (k:Nat) (ts:List Tst) (l:List Tok) (e:Int):pTs k false ts l e= .ok (ts,l,e,()):=by
 cases k with
 |zero=>rfl
 |succ k=>unfold pTs;rw [if_neg Bool.false_ne_true]
end
section
open Go
abbrev PP (β:Type):=List Tok->Int->PR β
section
variable {α β : Type}
def Okp (rel:β->β->Prop) (p:PP β) (l:List Tok) (y:β) (k:Nat):Prop:=
 k<=l.length/\∀(l':List Tok) (m:Nat) (f:Int),l'.map sT=(l.map sT).take m->
  (k<=m->p l' f= .ok (y,l'.drop k,f,()))/\(m<k->p l' f= .error (f,160)\/∃y',rel y' y/\p l' f= .ok (y',[],f,()))
def ErrS (p:PP β) (l:List Tok) (e:Int) (er:Int×Int):Prop:=∃(j:Nat) (c:Int),er=(hdT e (l.drop j),c)/\(c=2\/c=160\/c=161)/\∀(l':List Tok) (f:Int),l'.map sT=l.map sT->p l' f= .error (hdT f (l'.drop j),c)
def Gd (rel:β->β->Prop) (p:PP β):Prop:=∀l e,(∀y x,p l e= .ok (y,x)->∃k,x=(l.drop k,e,())/\Okp rel p l y k)/\∀er,p l e= .error er->ErrS p l e er
theorem ErrS.hd {p:PP β} {l:List Tok} {e:Int} {c:Int} (hc:c=2\/c=160\/c=161) (h:∀(l':List Tok) (f:Int),l'.map sT=l.map sT->p l' f= .error (hdT f l',c)):ErrS p l e (hdT e l,c):=⟨0,c,rfl,hc,h⟩
theorem Zbs {l l':List Tok} (h:l'.map sT=l.map sT):l'.map sT=(l.map sT).take l.length:=by rw [h,List.take_of_length_le (by simp)]
theorem Gd.mono {rel rel':β->β->Prop} {p:PP β} (h:Gd rel p) (hr:∀a b,rel a b->rel' a b):Gd rel' p:=by
 intro l e
 refine ⟨fun y x hy=> ?_,(h l e).2⟩
 obtain ⟨k,h1,h2,h3⟩:=(h l e).1 y x hy
 refine ⟨k,h1,h2,fun l' m f hl=>⟨(h3 l' m f hl).1,fun hm=>((h3 l' m f hl).2 hm).imp id ?_⟩⟩
 rintro ⟨y',h4,h5⟩
 exact ⟨y',hr _ _ h4,h5⟩
def pR (y:β):PP β:=fun l e=> .ok (y,l,e,())
def pSyn:PP β:=fun l e=> .error (hdT e l,160)
theorem Vi {l':List Tok} {m:Nat} (h:l'.map sT=(([]:List Tok).map sT).take m):l'= []:=by
 rw [List.map_nil,List.take_nil] at h
 exact List.map_eq_nil_iff.1 h
theorem gd_R (rel:β->β->Prop) (y:β):Gd rel (pR y):=by
 intro l e
 refine ⟨fun z x h=> ?_,fun er h=>by cases h⟩
 unfold pR at h
 cases h
 refine ⟨0,rfl,Nat.zero_le _,fun l' m f _=>⟨fun _=>rfl,fun h=>by omega⟩⟩
theorem Vy (rel:β->β->Prop):Gd rel (pSyn:PP β):=by
 intro l e
 refine ⟨fun z x h=>(by cases h),fun er h=> ?_⟩
 unfold pSyn at h
 cases h
 exact .hd (by simp) fun l' f _=>rfl
def pBc (p:PP α) (c:α->Bool) (code:Int) (q:α->PP β):PP β:=fun l e=>
 match p l e with
 | .error er=> .error er
 | .ok (y,x)=>if c y then .error (hdT e l,code) else q y x.1 x.2.1
def pB (p:PP α) (q:α->PP β):PP β:=fun l e=>
 match p l e with
 | .error er=> .error er
 | .ok (y,x)=>q y x.1 x.2.1
theorem Zvc {l':List Tok} {l:List Tok} {m k:Nat} (h:l'.map sT=(l.map sT).take m):(l'.drop k).map sT=((l.drop k).map sT).take (m-k):=by
 rw [List.map_drop,h,List.map_drop,List.drop_take]
theorem Zz4 {rel:α->α->Prop} {rel':β->β->Prop} {p:PP α} {c:α->Bool} {code:Int} {q:α->PP β} (hp:Gd rel p) (hq:∀y,Gd rel' (q y)) (hcode:code=2\/code=160\/code=161) (hc:∀y y',rel y' y->c y=false->c y'=false)
 (h0:∀y y' l e z x,rel y' y->q y l e= .ok (z,x)->∀f,q y' [] f= .error (f,160)\/∃z',rel' z' z/\q y' [] f= .ok (z',[],f,())):Gd rel' (pBc p c code q):=by
 intro l e
 have E:∀l e,pBc p c code q l e=match p l e with| .error er=> .error er| .ok (y,x)=>if c y then .error (hdT e l,code) else q y x.1 x.2.1:=fun _ _=>rfl
 rw [E]
 cases h:p l e with
 |error er=>
  refine ⟨fun z x h=>(by cases h),fun er' h'=> ?_⟩
  cases h'
  obtain ⟨j,c0,h1,h2,h3⟩:=(hp l e).2 er h
  exact ⟨j,c0,h1,h2,fun l' f hl=>by rw [E,h3 l' f hl]⟩
 |ok y=>
  obtain ⟨y,x⟩:=y
  obtain ⟨k1,rfl,h1,h2⟩:=(hp l e).1 y x h
  dsimp only
  cases hcy:c y with
  |true=>
   refine ⟨fun z x h=>(by cases h),fun er' h'=> ?_⟩
   cases h'
   refine .hd hcode fun l' f hl=> ?_
   rw [E,(h2 l' l.length f (Zbs hl)).1 h1]
   dsimp only
   rw [hcy,if_pos rfl]
  |false=>
   rw [if_neg Bool.false_ne_true]
   refine ⟨fun z x2 hz=> ?_,fun er' h'=> ?_⟩
   rotate_left
   · obtain ⟨j,c0,h3,h4,h5⟩:=(hq y _ _).2 er' h'
     refine ⟨k1+j,c0,by rw [h3,List.drop_drop],h4,fun l' f hl=> ?_⟩
     rw [E,(h2 l' l.length f (Zbs hl)).1 h1]
     dsimp only
     rw [hcy,if_neg Bool.false_ne_true,h5 (l'.drop k1) f (by rw [List.map_drop,hl,List.map_drop]),List.drop_drop]
   obtain ⟨k2,rfl,h3,h4⟩:=(hq y _ _).1 z x2 hz
   rw [List.length_drop] at h3
   refine ⟨k1+k2,by rw [List.drop_drop],by omega,fun l' m f hl=> ?_⟩
   have hd:=Zvc (k:=k1) hl
   rw [E]
   refine ⟨fun hm=> ?_,fun hm=> ?_⟩
   · rw [(h2 l' m f hl).1 (by omega)]
     dsimp only
     rw [hcy,if_neg Bool.false_ne_true,(h4 _ _ f hd).1 (by omega),List.drop_drop]
   · by_cases hk:k1<=m
     · rw [(h2 l' m f hl).1 hk]
       dsimp only
       rw [hcy,if_neg Bool.false_ne_true]
       exact (h4 _ _ f hd).2 (by omega)
     · rcases (h2 l' m f hl).2 (by omega) with h5|⟨y',h5,h6⟩
       · rw [h5]
         exact .inl rfl
       · rw [h6]
         dsimp only
         rw [hc y y' h5 hcy,if_neg Bool.false_ne_true]
         exact h0 y y' _ _ z _ h5 hz f
theorem Yaw (p:PP α) (q:α->PP β):pB p q=pBc p (fun _=>false) 2 q:=by
 funext l e
 unfold pB pBc
 cases p l e with
 |error er=>rfl
 |ok y=>rfl
theorem gd_b {rel:α->α->Prop} {rel':β->β->Prop} {p:PP α} {q:α->PP β} (hp:Gd rel p) (hq:∀y,Gd rel' (q y))
 (h0:∀y y' l e z x,rel y' y->q y l e= .ok (z,x)->∀f,q y' [] f= .error (f,160)\/∃z',rel' z' z/\q y' [] f= .ok (z',[],f,())):Gd rel' (pB p q):=by
 rw [Yaw]
 exact Zz4 hp hq (by simp) (fun _ _ _ _=>rfl) h0
def pIf (s:List Nat) (A B:PP β):PP β:=fun l e=>if isW s l then A l.tail e else B l e
theorem We {t t':Tok} (h:sT t'=sT t):t'.kind=t.kind/\t'.text=t.text/\t'.n=t.n:=by
 unfold sT atT at h
 injection h with h1 h2 h3 h4
 exact ⟨h1,h2,h3⟩
theorem Zj9 {s:List Nat} {t t':Tok} {r r':List Tok} (h:sT t'=sT t):isW s (t'::r')=isW s (t::r):=by
 obtain ⟨h1,h2,_⟩:=We h
 show (!(t'.kind==2)&&t'.text==s)=(!(t.kind==2)&&t.text==s)
 rw [h1,h2]
theorem Yz {l' l:List Tok} {m:Nat} (h:l'.map sT=(l.map sT).take m):(l'= []/\(m=0\/l= []))\/∃t' r' t r m',l'=t'::r'/\l=t::r/\m=m'+1/\sT t'=sT t/\r'.map sT=(r.map sT).take m':=by
 cases m with
 |zero=>
  rw [List.take_zero] at h
  exact .inl ⟨List.map_eq_nil_iff.1 h,.inl rfl⟩
 |succ m=>
  cases l with
  |nil=>exact .inl ⟨Vi h,.inr rfl⟩
  |cons t r=>
   cases l' with
   |nil=>simp at h
   |cons t' r'=>
    rw [List.map_cons,List.map_cons,List.take_succ_cons] at h
    injection h with h1 h2
    exact .inr ⟨t',r',t,r,m,rfl,rfl,rfl,h1,h2⟩
theorem V2 {rel:β->β->Prop} {s:List Nat} {A B:PP β} (hA:Gd rel A) (hB:Gd rel B) (h0:∀l e y x,A l e= .ok (y,x)->∀f,B [] f= .error (f,160)\/∃y',rel y' y/\B [] f= .ok (y',[],f,())):Gd rel (pIf s A B):=by
 intro l e
 have E:∀l e,pIf s A B l e=if isW s l then A l.tail e else B l e:=fun _ _=>rfl
 rw [E]
 cases hw:isW s l with
 |true=>
  rw [if_pos rfl]
  cases l with
  |nil=>cases hw
  |cons t r=>
   refine ⟨fun y x hy=> ?_,fun er h=> ?_⟩
   rotate_left
   · obtain ⟨j,c0,h3,h4,h5⟩:=(hA r e).2 er h
     refine ⟨j+1,c0,h3,h4,fun l' f hl=> ?_⟩
     rcases Yz (Zbs hl) with ⟨rfl,h6⟩|⟨t',r',t2,r2,m',rfl,h6,h7,h8,h9⟩
     · simp at hl
     · cases h6
       rw [E,Zj9 (r':=r') (r:=r) h8,hw,if_pos rfl]
       refine h5 r' f ?_
       simpa using (List.cons.inj hl).2
   obtain ⟨k,rfl,h1,h2⟩:=(hA r e).1 y x hy
   refine ⟨k+1,rfl,by simpa using h1,fun l' m f hl=> ?_⟩
   rw [E]
   rcases Yz hl with ⟨rfl,h3⟩|⟨t',r',t2,r2,m',rfl,h3,rfl,h4,h5⟩
   · have hm:m=0:=by
      rcases h3 with h3|h3
      · exact h3
      · cases h3
     subst hm
     refine ⟨fun h=>by omega,fun _=> ?_⟩
     rw [show isW s []=false from rfl,if_neg Bool.false_ne_true]
     exact h0 _ _ _ _ hy f
   · cases h3
     rw [Zj9 (r':=r') (r:=r) h4,hw,if_pos rfl]
     exact ⟨fun hm=>(h2 r' m' f h5).1 (by omega),fun hm=>(h2 r' m' f h5).2 (by omega)⟩
 |false=>
  rw [if_neg Bool.false_ne_true]
  have nW:∀(l':List Tok) (m:Nat),l'.map sT=(l.map sT).take m->isW s l'=false:=by
   intro l' m hl
   rcases Yz hl with ⟨rfl,_⟩|⟨t',r',t,r,m',rfl,rfl,rfl,h4,h5⟩
   · rfl
   · rw [Zj9 (r:=r) h4]
     exact hw
  refine ⟨fun y x hy=> ?_,fun er h=> ?_⟩
  rotate_left
  · obtain ⟨j,c0,h3,h4,h5⟩:=(hB l e).2 er h
    refine ⟨j,c0,h3,h4,fun l' f hl=> ?_⟩
    rw [E,nW l' l.length (Zbs hl),if_neg Bool.false_ne_true]
    exact h5 l' f hl
  obtain ⟨k,rfl,h1,h2⟩:=(hB l e).1 y x hy
  refine ⟨k,rfl,h1,fun l' m f hl=> ?_⟩
  rw [E]
  have:=nW l' m hl
  rw [this,if_neg Bool.false_ne_true]
  exact h2 l' m f hl
def pOne (c:Tok->Bool) (v:Tok->β):PP β:=fun l e=>
 match l with
 | []=> .error (e,160)
 |t::r=>if c (sT t) then .ok (v (sT t),r,e,()) else .error (t.at_,160)
theorem Z28 (rel:β->β->Prop) (c:Tok->Bool) (v:Tok->β):Gd rel (pOne c v):=by
 intro l e
 cases l with
 |nil=>
  refine ⟨fun y x hy=>(by cases hy),fun er h=> ?_⟩
  cases h
  refine .hd (by simp) fun l' f hl=> ?_
  have:l'= []:=Vi (m:=0) (by simpa using hl)
  subst this
  rfl
 |cons t r=>
  have E:∀t r e,pOne c v (t::r) e=if c (sT t) then .ok (v (sT t),r,e,()) else .error (t.at_,160):=fun _ _ _=>rfl
  rw [E]
  cases hc:c (sT t) with
  |false=>
   rw [if_neg Bool.false_ne_true]
   refine ⟨fun y x hy=>(by cases hy),fun er h=> ?_⟩
   cases h
   refine .hd (l:=t::r) (by simp) fun l' f hl=> ?_
   cases l' with
   |nil=>simp at hl
   |cons t' r'=>
    have h1:sT t'=sT t:=(List.cons.inj hl).1
    rw [E,h1,hc,if_neg Bool.false_ne_true]
    rfl
  |true=>
   rw [if_pos rfl]
   refine ⟨fun y x hy=> ?_,fun er h=>(by cases h)⟩
   cases hy
   refine ⟨1,rfl,by simp,fun l' m f hl=> ?_⟩
   rcases Yz hl with ⟨rfl,h3⟩|⟨t',r',t2,r2,m',rfl,h3,rfl,h4,h5⟩
   · have hm:m=0:=by
      rcases h3 with h3|h3
      · exact h3
      · cases h3
     subst hm
     exact ⟨fun h=>by omega,fun _=> .inl rfl⟩
   · cases h3
     rw [E,h4,hc,if_pos rfl]
     exact ⟨fun _=>rfl,fun h=>by omega⟩
def pOpt (c:Tok->Bool) (v:Tok->β) (z:β):PP β:=fun l e=>
 match l with
 | []=> .ok (z,[],e,())
 |t::r=>if c (sT t) then .ok (v (sT t),r,e,()) else .ok (z,t::r,e,())
theorem Zvd (c:Tok->Bool) (v:Tok->β) (z:β):Gd (fun a _=>a=z) (pOpt c v z):=by
 intro l e
 cases l with
 |nil=>
  refine ⟨fun y x hy=> ?_,fun er h=>(by cases h)⟩
  cases hy
  refine ⟨0,rfl,Nat.zero_le _,fun l' m f hl=>⟨fun _=> ?_,fun h=>by omega⟩⟩
  have:l'= []:=Vi hl
  subst this
  rfl
 |cons t r=>
  have E:∀t r e,pOpt c v z (t::r) e=if c (sT t) then .ok (v (sT t),r,e,()) else .ok (z,t::r,e,()):=fun _ _ _=>rfl
  rw [E]
  cases hc:c (sT t) with
  |false=>
   rw [if_neg Bool.false_ne_true]
   refine ⟨fun y x hy=> ?_,fun er h=>(by cases h)⟩
   cases hy
   refine ⟨0,rfl,Nat.zero_le _,fun l' m f hl=>⟨fun _=> ?_,fun h=>by omega⟩⟩
   rcases Yz hl with ⟨rfl,_⟩|⟨t',r',t2,r2,m',rfl,h3,rfl,h4,h5⟩
   · rfl
   · cases h3
     rw [E,h4,hc,if_neg Bool.false_ne_true]
     rfl
  |true=>
   rw [if_pos rfl]
   refine ⟨fun y x hy=> ?_,fun er h=>(by cases h)⟩
   cases hy
   refine ⟨1,rfl,by simp,fun l' m f hl=> ?_⟩
   rcases Yz hl with ⟨rfl,h3⟩|⟨t',r',t2,r2,m',rfl,h3,rfl,h4,h5⟩
   · have hm:m=0:=by
      rcases h3 with h3|h3
      · exact h3
      · cases h3
     subst hm
     exact ⟨fun h=>by omega,fun _=> .inr ⟨z,rfl,rfl⟩⟩
   · cases h3
     rw [E,h4,hc,if_pos rfl]
     exact ⟨fun _=>rfl,fun h=>by omega⟩
end
abbrev NoR {β:Type}:β->β->Prop:=fun _ _=>False
abbrev AnyR {β:Type}:β->β->Prop:=fun _ _=>True
abbrev NeR:Ex->Ex->Prop:=fun a b=>Zx a<=Zx b
theorem Zz5:pInt=pOne (fun t=>t.kind=2) (fun t=>t.n):=by
 funext l e
 cases l with
 |nil=>rfl
 |cons t r=>
  show (if t.kind=2 then _ else _)=(if decide (t.kind=2)=true then _ else _)
  by_cases h:t.kind=2
  · rw [if_pos h,if_pos (decide_eq_true h)]
    rfl
  · rw [if_neg h,if_neg (by simpa using h)]
theorem Zve (ws:List (List Nat)):Yl ws=pOne (fun t=>decide (0<=chz ws [t])) (fun t=>chz ws [t]):=by
 funext l e
 cases l with
 |nil=>rfl
 |cons t r=>
  have h1:chz ws (t::r)=chz ws [sT t]:=rfl
  unfold Yl pOne
  dsimp only
  rw [h1]
  by_cases h:0<=chz ws [sT t]
  · rw [if_pos h,if_pos (decide_eq_true h)]
    rfl
  · rw [if_neg h,if_neg (by simpa using h)]
    rfl
theorem Zml (ws:List (List Nat)):Zw ws=pOpt (fun t=>decide (0<=chz ws [t])) (fun t=>(chz ws [t],true,())) (0,false,()):=by
 funext l e
 cases l with
 |nil=>rfl
 |cons t r=>
  have h1:chz ws (t::r)=chz ws [sT t]:=rfl
  unfold Zw pOpt
  dsimp only
  rw [h1]
  by_cases h:0<=chz ws [sT t]
  · rw [if_pos h,if_pos (decide_eq_true h)]
    rfl
  · rw [if_neg h,if_neg (by simpa using h)]
theorem Zvf:Gd NoR pInt:=by rw [Zz5];exact Z28 _ _ _
theorem Zh9 (ws:List (List Nat)):Gd NoR (Yl ws):=by rw [Zve];exact Z28 _ _ _
theorem Zka (ws:List (List Nat)):Gd (fun a _=>a=(0,false,())) (Zw ws):=by rw [Zml];exact Zvd _ _ _
theorem Zac (t:Tok) (r:List Tok) (e:Int):Uk (t::r) e=if t.kind=1 then (if t.text∈resW then .error (t.at_,161) else .ok (t.text,r,e,())) else .error (t.at_,160):=rfl
theorem Zvg:Gd NoR Uk:=by
 intro l e
 cases l with
 |nil=>
  refine ⟨fun y x hy=>(by cases hy),fun er h=> ?_⟩
  cases h
  refine .hd (l:= []) (by simp) fun l' f hl=> ?_
  have:l'= []:=Vi (m:=0) (by simpa using hl)
  subst this
  rfl
 |cons t r=>
  have sim:∀(l':List Tok),l'.map sT=(t::r).map sT->∃t' r',l'=t'::r'/\t'.kind=t.kind/\t'.text=t.text:=by
   intro l' hl
   cases l' with
   |nil=>simp at hl
   |cons t' r'=>
    obtain ⟨g1,g2,_⟩:=We (List.cons.inj hl).1
    exact ⟨t',r',rfl,g1,g2⟩
  rw [Zac]
  split
  · rename_i hk
    split
    · rename_i hr
      refine ⟨fun y x hy=>(by cases hy),fun er h=> ?_⟩
      cases h
      refine .hd (l:=t::r) (by simp) fun l' f hl=> ?_
      obtain ⟨t',r',rfl,g1,g2⟩:=sim l' hl
      rw [Zac,g1,g2,if_pos hk,if_pos hr]
      rfl
    · rename_i hr
      refine ⟨fun y x hy=> ?_,fun er h=>(by cases h)⟩
      cases hy
      refine ⟨1,rfl,by simp,fun l' m f hl=> ?_⟩
      rcases Yz hl with ⟨rfl,h3⟩|⟨t',r',t2,r2,m',rfl,h3,rfl,h4,h5⟩
      · have hm:m=0:=by
         rcases h3 with h3|h3
         · exact h3
         · cases h3
        subst hm
        exact ⟨fun h=>by omega,fun _=> .inl rfl⟩
      · cases h3
        obtain ⟨g1,g2,_⟩:=We h4
        refine ⟨fun _=> ?_,fun h=>by omega⟩
        rw [Zac,g1,g2,if_pos hk,if_neg hr]
        rfl
  · rename_i hk
    refine ⟨fun y x hy=>(by cases hy),fun er h=> ?_⟩
    cases h
    refine .hd (l:=t::r) (by simp) fun l' f hl=> ?_
    obtain ⟨t',r',rfl,g1,g2⟩:=sim l' hl
    rw [Zac,g1,if_neg hk]
    rfl
theorem Z45:Vh=pB (Zw WK.un.words) fun y=>pIf sPer (pB (Yl WK.un.words) fun j=>pR (decD (if y.2.1 then incD [0,0,0,0] y.1 else [0,0,0,0]) j)) (pR (if y.2.1 then incD [0,0,0,0] y.1 else [0,0,0,0])):=by
 funext l e
 unfold Vh pB pIf
 cases Zw WK.un.words l e with
 |error er=>rfl
 |ok y=>
  dsimp only
  split
  · cases Yl WK.un.words y.2.1.tail y.2.2.1 with
    |error er=>rfl
    |ok z=>rfl
  · rfl
theorem Z46:Gd AnyR Vh:=by
 rw [Z45]
 refine gd_b (Zka _) (fun y=>V2 (gd_b (Zh9 _) (fun j=>gd_R _ _) (fun _ _ _ _ _ _ h=>h.elim)) (gd_R _ _) fun l e y x _ f=> .inr ⟨_,trivial,rfl⟩) ?_
 intro y y' l e z x _ _ f
 exact .inr ⟨_,trivial,rfl⟩
theorem Z47 (n:Int):W9 n=pBc (Yl WK.at_.words) (fun _=>decide (n=8)) 2 fun a=>pIf sIs (pB pInt fun m=>pR ⟨a,m,m⟩) (pIf sIn (pB pInt fun m=>pIf Zzy (pB pInt fun k=>pR ⟨a,m,k⟩) pSyn) pSyn):=by
 funext l e
 unfold W9 pBc pIf pB
 cases Yl WK.at_.words l e with
 |error er=>rfl
 |ok y=>
  dsimp only
  by_cases hn:n=8
  · rw [if_pos hn,if_pos (decide_eq_true hn)]
  · rw [if_neg hn,if_neg (show ¬decide (n=8)=true by simpa using hn)]
    split
    · cases pInt y.2.1.tail y.2.2.1 with
      |error er=>rfl
      |ok z=>rfl
    · split
      · cases pInt y.2.1.tail y.2.2.1 with
        |error er=>rfl
        |ok z=>
         dsimp only
         split
         · cases pInt z.2.1.tail z.2.2.1 with
           |error er=>rfl
           |ok u=>rfl
         · rfl
      · rfl
theorem Z48 (n:Int):Gd NoR (W9 n):=by
 rw [Z47]
 refine Zz4 (Zh9 _) (fun a=> ?_) (by simp) (fun _ _ h=>h.elim) (fun _ _ _ _ _ _ h=>h.elim)
 refine V2 (gd_b Zvf (fun m=>gd_R _ _) (fun _ _ _ _ _ _ h=>h.elim)) (V2 (gd_b Zvf (fun m=> ?_) (fun _ _ _ _ _ _ h=>h.elim)) (Vy _) fun _ _ _ _ _ f=> .inl rfl) fun _ _ _ _ _ f=> .inl rfl
 exact V2 (gd_b Zvf (fun k=>gd_R _ _) (fun _ _ _ _ _ _ h=>h.elim)) (Vy _) fun _ _ _ _ _ f=> .inl rfl
theorem Yax (k:Nat) (ts:List Tst):pTs (k+1) true ts=pB (W9 ts.length) fun t=>pIf [97,110,100] (pTs k true (ts++ [t])) (pTs k false (ts++ [t])):=by
 funext l e
 unfold pB pIf
 rw [pTs,if_pos rfl]
 cases W9 ts.length l e with
 |error er=>rfl
 |ok y=>
  dsimp only
  cases isW [97,110,100] y.2.1<;>rfl
theorem Z49 (k:Nat) (ts:List Tst):pTs k false ts=pR ts:=by
 funext l e
 exact Z0u k ts l e
theorem Z5a:∀(k:Nat) (more:Bool) (ts:List Tst),Gd AnyR (pTs k more ts)
 |0,more,ts=>gd_R _ ts
 |k+1,false,ts=>by rw [Z49];exact gd_R _ _
 |k+1,true,ts=>by
  rw [Yax]
  refine gd_b (Z48 _) (fun t=>V2 (Z5a k true _) (Z5a k false _) fun _ _ _ _ _ f=> .inr ⟨ts++ [t],trivial,by rw [Z49];rfl⟩) (fun _ _ _ _ _ _ h=>h.elim)
theorem Z8o (pe:PE) (s:List Nat) (r:List (List Nat)) (acc:List Ex):pOpL pe (s::r) acc=pB pe fun x=>pIf s (pOpL pe r (acc++ [x])) pSyn:=by
 funext l e
 rw [pOpL]
 unfold pB pIf pSyn
 cases pe l e with
 |error er=>rfl
 |ok y=>rfl
theorem Z29 {pe:PE} (h:Gd NeR pe):∀(ss:List (List Nat)) (acc:List Ex),Gd NoR (pOpL pe ss acc)
 | [],acc=>gd_R _ acc
 |s::r,acc=>by
  rw [Z8o]
  exact gd_b h (fun x=>V2 (Z29 h r _) (Vy _) fun _ _ _ _ _ f=> .inl rfl) fun _ _ _ _ _ _ _ _ f=> .inl rfl
theorem Z8p (pe:PE) (op:Int) (ss:List (List Nat)):pOps pe op ss=pIf Zit (pB (pOpL pe ss []) fun xs=>pR (.mk op 0 0 0 0 0 xs)) pSyn:=by
 funext l e
 unfold pOps pIf pB pSyn
 split
 · cases pOpL pe ss [] l.tail e with
   |error er=>rfl
   |ok y=>rfl
 · rfl
theorem Z3a {pe:PE} (h:Gd NeR pe) (op:Int) (ss:List (List Nat)):Gd NoR (pOps pe op ss):=by
 rw [Z8p]
 exact V2 (gd_b (Z29 h ss []) (fun xs=>gd_R _ _) (fun _ _ _ _ _ _ h=>h.elim)) (Vy _) fun _ _ _ _ _ f=> .inl rfl
theorem Z5b (pe:PE):Za7 pe=pIf Zit (pB pe fun x=>pIf Ut (pR x) pSyn) (pIf sIf (pOps pe 11 [Zxb,Uu,Uu,Ut]) (pB (Zw WK.ca.words) fun k=>if k.2.1 then pOps pe (6+k.1) [Uu,Ut] else pB (Yl WK.at_.words) fun a=>pR (.mk 2 a 0 0 0 0 []))):=by
 funext l e
 unfold Za7 pIf pB pSyn
 split
 · cases pe l.tail e with
   |error er=>rfl
   |ok y=>rfl
 · split
   · rfl
   · cases Zw WK.ca.words l e with
     |error er=>rfl
     |ok y=>
      dsimp only
      cases y.1.2.1 with
      |true=>rfl
      |false=>
       rw [if_neg Bool.false_ne_true,if_neg Bool.false_ne_true]
       cases Yl WK.at_.words y.2.1 y.2.2.1 with
       |error er=>rfl
       |ok z=>rfl
theorem Z5c {pe:PE} (h:Gd NeR pe):Gd NoR (Za7 pe):=by
 rw [Z5b]
 refine V2 (gd_b h (fun x=>V2 (gd_R _ _) (Vy _) fun _ _ _ _ _ f=> .inl rfl) fun _ _ _ _ _ _ _ _ f=> .inl rfl) (V2 (Z3a h _ _) (gd_b (Zka _) (fun k=> ?_) ?_) fun _ _ _ _ _ f=> .inl rfl) fun _ _ _ _ _ f=> .inl rfl
 · split
   · exact Z3a h _ _
   · exact gd_b (Zh9 _) (fun a=>gd_R _ _) (fun _ _ _ _ _ _ h=>h.elim)
 · rintro y y' l e z x rfl _ f
   exact .inl rfl
theorem Z8q {pe:PE} (h:Gd NeR pe):Gd NeR (pFac pe):=by
 have h2:=(Z5c h).mono (rel':=NeR) fun _ _ h=>h.elim
 intro l e
 cases l with
 |nil=>
  obtain ⟨g1,g2⟩:=h2 [] e
  refine ⟨fun y x hy=> ?_,fun er h=> ?_⟩
  rotate_left
  · obtain ⟨j,c0,h3,h4,h5⟩:=g2 er h
    refine ⟨j,c0,h3,h4,fun l' f hl=> ?_⟩
    have e1:l'= []:=Vi (m:=0) (by simpa using hl)
    subst e1
    exact h5 [] f rfl
  obtain ⟨k,hx,hk,ho⟩:=g1 y x hy
  refine ⟨k,hx,hk,fun l' m f hl=> ?_⟩
  have e1:l'= []:=Vi hl
  have:=ho l' m f hl
  subst e1
  exact this
 |cons t r=>
  have key:∀(t:Tok) (r:List Tok) (e:Int),pFac pe (t::r) e=if t.kind=2 then pB Vh (fun d=>pR (.mk 1 t.n (d.getD 0 0) (d.getD 1 0) (d.getD 2 0) (d.getD 3 0) [])) r e else Za7 pe (t::r) e:=by
   intro t r e
   show (if t.kind=2 then _ else _)=_
   split
   · unfold pB
     cases Vh r e with
     |error er=>rfl
     |ok y=>rfl
   · rfl
  rw [key]
  by_cases hk:t.kind=2
  · rw [if_pos hk]
    have hg:Gd NeR (pB Vh fun d=>pR (.mk 1 t.n (d.getD 0 0) (d.getD 1 0) (d.getD 2 0) (d.getD 3 0) [])):=by
     refine gd_b Z46 (fun d=>gd_R _ _) ?_
     intro y y' l e z x _ hz f
     unfold pR at hz
     cases hz
     exact .inr ⟨.mk 1 t.n (y'.getD 0 0) (y'.getD 1 0) (y'.getD 2 0) (y'.getD 3 0) [],by show Zx _<=Zx _;simp [Zx],rfl⟩
    refine ⟨fun y x hy=> ?_,fun er h=> ?_⟩
    rotate_left
    · obtain ⟨j,c0,h3,h4,h5⟩:=(hg r e).2 er h
      refine ⟨j+1,c0,h3,h4,fun l' f hl=> ?_⟩
      cases l' with
      |nil=>simp at hl
      |cons t' r'=>
       obtain ⟨g1,_,g3⟩:=We (List.cons.inj hl).1
       rw [key,g1,g3,if_pos hk]
       exact h5 r' f (List.cons.inj hl).2
    obtain ⟨k,rfl,h1,h2⟩:=(hg r e).1 y x hy
    refine ⟨k+1,rfl,by simpa using h1,fun l' m f hl=> ?_⟩
    rcases Yz hl with ⟨rfl,h3⟩|⟨t',r',t2,r2,m',rfl,h3,rfl,h4,h5⟩
    · have hm:m=0:=by
       rcases h3 with h3|h3
       · exact h3
       · cases h3
      subst hm
      exact ⟨fun h=>by omega,fun _=> .inl rfl⟩
    · cases h3
      obtain ⟨g1,_,g3⟩:=We h4
      rw [key,g1,g3,if_pos hk]
      exact ⟨fun hm=>(h2 r' m' f h5).1 (by omega),fun hm=>(h2 r' m' f h5).2 (by omega)⟩
  · rw [if_neg hk]
    obtain ⟨g1,g2⟩:=h2 (t::r) e
    refine ⟨fun y x hy=> ?_,fun er h=> ?_⟩
    rotate_left
    · obtain ⟨j,c0,h3,h4,h5⟩:=g2 er h
      refine ⟨j,c0,h3,h4,fun l' f hl=> ?_⟩
      cases l' with
      |nil=>simp at hl
      |cons t' r'=>
       obtain ⟨q1,_,_⟩:=We (List.cons.inj hl).1
       rw [key,q1,if_neg hk]
       exact h5 _ f hl
    obtain ⟨k,hx,hk',ho⟩:=g1 y x hy
    refine ⟨k,hx,hk',fun l' m f hl=> ?_⟩
    have:=ho l' m f hl
    rcases Yz hl with ⟨rfl,h3⟩|⟨t',r',t2,r2,m',rfl,h3,rfl,h4,h5⟩
    · exact this
    · cases h3
      obtain ⟨q1,_,_⟩:=We h4
      rw [key,q1,if_neg hk]
      exact this
theorem Zz6:pOp op1=pOpt (fun t=>isW sMul [t]) (fun _=>5) 0:=by
 funext l e
 cases l with
 |nil=>rfl
 |cons t r=>
  unfold pOp pOpt op1
  dsimp only
  rw [show isW sMul (t::r)=isW sMul [sT t] from rfl]
  split<;>rfl
theorem Zz7:pOp op2=pOpt (fun t=>isW Zfe [t]||isW Zcc [t]) (fun t=>if isW Zfe [t] then 3 else 4) 0:=by
 funext l e
 cases l with
 |nil=>rfl
 |cons t r=>
  unfold pOp pOpt op2
  dsimp only
  rw [show isW Zfe (t::r)=isW Zfe [sT t] from rfl,show isW Zcc (t::r)=isW Zcc [sT t] from rfl]
  by_cases h1:isW Zfe [sT t]=true
  · simp [h1]
  · by_cases h2:isW Zcc [sT t]=true
    · simp [h1,h2]
    · simp [h1,h2]
theorem Z8r:Gd (fun a _=>a=0) (pOp op1):=by rw [Zz6];exact Zvd _ _ _
theorem Z8s:Gd (fun a _=>a=0) (pOp op2):=by rw [Zz7];exact Zvd _ _ _
theorem Z8t (op:Int) (x y:Ex):Zx (.mk op 0 0 0 0 0 [x,y])=max (Zx x) (Zx y)+1:=by simp [Zx,Zdt]
theorem Zvh (o:List Tok->Int×List Tok) (pf:PE) (k:Nat) (x:Ex) (op:Int):Yu o pf (k+1) x op=if op=0 then pR x else pB pf fun y=>pB (pOp o) fun op'=>Yu o pf k (.mk op 0 0 0 0 0 [x,y]) op':=by
 funext l e
 rw [Yu]
 split
 · rfl
 · unfold pB pOp
   cases pf l e with
   |error er=>rfl
   |ok y=>rfl
theorem Zia (o:List Tok->Int×List Tok) (pf:PE) (k:Nat) (x:Ex):Yu o pf k x 0=pR x:=by
 cases k with
 |zero=>rfl
 |succ k=>rw [Zvh,if_pos rfl]
theorem Uh {o:List Tok->Int×List Tok} {pf:PE}:∀{k:Nat} {x:Ex} {op:Int} {l:List Tok} {e:Int} {z:Ex} {y:PX},Yu o pf k x op l e= .ok (z,y)->Zx x<=Zx z
 |0,x,op,l,e,z,y,h=>by
  unfold Yu at h
  cases h
  exact Nat.le_refl _
 |k+1,x,op,l,e,z,y,h=>by
  unfold Yu at h
  split at h
  · cases h
    exact Nat.le_refl _
  · split at h
    · cases h
    · have:=Uh h
      rw [Z8t] at this
      omega
theorem b_ok {α β:Type} {p:PP α} {q:α->PP β} {l:List Tok} {e:Int} {z:β×PX} (h:pB p q l e= .ok z):∃y x,p l e= .ok (y,x)/\q y x.1 x.2.1= .ok z:=by
 unfold pB at h
 split at h
 · cases h
 · exact ⟨_,_,by assumption,h⟩
theorem Zvi {o:List Tok->Int×List Tok} (ho:Gd (fun a _=>a=0) (pOp o)) (ho0:o []=(0,[])) {pf:PE} (h:Gd NeR pf):∀(k:Nat) (x:Ex) (op:Int),Gd NeR (Yu o pf k x op)
 |0,x,op=>gd_R _ x
 |k+1,x,op=>by
  rw [Zvh]
  split
  · exact gd_R _ _
  · refine gd_b h (fun y=>gd_b ho (fun op'=>Zvi ho ho0 h k _ op') ?_) ?_
    · rintro op1 op2 l e z x2 rfl hz f
      rw [Zia]
      exact .inr ⟨_,Uh hz,rfl⟩
    · intro y y' l e z x2 hy hz f
      obtain ⟨op',x3,_,hz⟩:=b_ok hz
      have h1:=Uh hz
      refine .inr ⟨.mk op 0 0 0 0 0 [x,y'],?_,?_⟩
      · have hy:Zx y'<=Zx y:=hy
        show Zx _<=Zx z
        rw [Z8t] at h1⊢
        omega
      · unfold pB pOp
        rw [ho0]
        dsimp only
        rw [Zia]
        rfl
def pChN (o:List Tok->Int×List Tok) (pf:PE) (N:Nat):PE:=pB pf fun y=>pB (pOp o) fun op=>Yu o pf N y op
theorem Z8u {o:List Tok->Int×List Tok} (ho:Gd (fun a _=>a=0) (pOp o)) (ho0:o []=(0,[])) {pf:PE} (h:Gd NeR pf) (N:Nat):Gd NeR (pChN o pf N):=by
 unfold pChN
 refine gd_b h (fun y=>gd_b ho (fun op=>Zvi ho ho0 h N y op) ?_) ?_
 · rintro op1 op2 l e z x2 rfl hz f
   rw [Zia]
   exact .inr ⟨_,Uh hz,rfl⟩
 · intro y y' l e z x2 hy hz f
   obtain ⟨op',x3,_,hz⟩:=b_ok hz
   have h1:=Uh hz
   refine .inr ⟨y',Nat.le_trans hy h1,?_⟩
   unfold pB pOp
   rw [ho0]
   dsimp only
   rw [Zia]
   rfl
theorem Yay {o:List Tok->Int×List Tok} (ho:∀l,(o l).2.length<=l.length) {pf:PE} (hp:Shr pf) {N:Nat} {l:List Tok} (hl:l.length<N) (e:Int):pCh o pf l e=pChN o pf N l e:=by
 unfold pCh pChN pB pOp
 cases hq:pf l e with
 |error er=>rfl
 |ok y=>
  have h1:=hp _ _ _ _ hq
  have h2:=ho y.2.1
  exact Zcu ho hp _ _ _ _ _ _ (by omega) (by omega)
theorem Z5d {β:Type} {rel:β->β->Prop} {p:PP β} (q:Nat->PP β) (hq:∀N,Gd rel (q N)) (h:∀N l e,l.length<N->p l e=q N l e):Gd rel p:=by
 intro l e
 have h1:=h (l.length+1) l e (Nat.lt_succ_self _)
 rw [h1]
 refine ⟨fun y x hy=> ?_,fun er h'=> ?_⟩
 rotate_left
 · obtain ⟨j,c0,h3,h4,h5⟩:=(hq _ l e).2 er h'
   refine ⟨j,c0,h3,h4,fun l' f hl=> ?_⟩
   have hlen:=congrArg List.length hl
   rw [List.length_map,List.length_map] at hlen
   rw [h (l.length+1) l' f (by omega)]
   exact h5 l' f hl
 obtain ⟨k,hx,hk,ho⟩:=(hq _ l e).1 y x hy
 refine ⟨k,hx,hk,fun l' m f hl=> ?_⟩
 have hlen:l'.length<=l.length:=by
  have:=congrArg List.length hl
  rw [List.length_map,List.length_take,List.length_map] at this
  omega
 rw [h (l.length+1) l' f (by omega)]
 exact ho l' m f hl
theorem Z8v {o:List Tok->Int×List Tok} (hle:∀l,(o l).2.length<=l.length) (ho:Gd (fun a _=>a=0) (pOp o)) (ho0:o []=(0,[])) {pf:PE} (hp:Shr pf) (h:Gd NeR pf):Gd NeR (pCh o pf):=
 Z5d (pChN o pf) (Z8u ho ho0 h) fun N l e hl=>Yay hle hp hl e
theorem gd_E:∀n,Gd NeR (pE n)
 |0=>Vy _
 |n+1=>by
  unfold pE
  exact Z8v Zu4 Z8s rfl (Zc3 Zff (Vq (Zaq n))).shr (Z8v Z26 Z8r rfl (Zps (Zaq n)) (Z8q (gd_E n)))
theorem gd_X:Gd NeR pX:=Z5d pE gd_E fun N l e hl=>(Z8e N l e hl).symm
theorem Z8w (nm:List Nat) (ts:List Tst):pPay nm ts=pIf [112,97,121] (pBc pX (fun x=>decide (24<Zx x)) 2 fun x=>pIf [59] (pR ⟨nm,ts,x⟩) pSyn) pSyn:=by
 funext l e
 unfold pPay pIf pBc pSyn
 split
 · cases pX l.tail e with
   |error er=>rfl
   |ok y=>
    dsimp only
    by_cases h:24<Zx y.1
    · rw [if_pos h,if_pos (decide_eq_true h)]
    · rw [if_neg h,if_neg (show ¬decide (24<Zx y.1)=true by simpa using h)]
      rfl
 · rfl
theorem Z3b (nm:List Nat) (ts:List Tst):Gd NoR (pPay nm ts):=by
 rw [Z8w]
 refine V2 (Zz4 gd_X (fun x=>V2 (gd_R _ _) (Vy _) fun _ _ _ _ _ f=> .inl rfl) (by simp) ?_ fun _ _ _ _ _ _ _ _ f=> .inl rfl) (Vy _) fun _ _ _ _ _ f=> .inl rfl
 intro y y' h hc
 have h:Zx y'<=Zx y:=h
 rw [decide_eq_false_iff_not] at hc⊢
 omega
theorem Zvj (bs:List Cls):Z9 bs=pBc Uk (fun nm=>bs.any fun b=>b.name==nm) 161 fun nm=>pIf [119,104,101,110] (pB (pTs 10 true []) fun ts=>pPay nm ts) (pPay nm []):=by
 funext l e
 unfold Z9 pBc pIf pB
 cases Uk l e with
 |error er=>rfl
 |ok y=>
  dsimp only
  by_cases hb:(bs.any fun b=>b.name==y.1)=true
  · rw [if_pos hb,if_pos hb]
  · rw [if_neg hb,if_neg hb]
    by_cases hw:isW [119,104,101,110] y.2.1=true
    · rw [if_pos hw,if_pos hw,hw]
      unfold pAft
      cases pTs 10 true [] y.2.1.tail y.2.2.1 with
      |error er=>rfl
      |ok z=>rfl
    · rw [if_neg hw,if_neg hw]
      rw [Bool.not_eq_true] at hw
      rw [hw,Z49]
      rfl
theorem Zvk (nm:List Nat) (ts:List Tst) (f:Int):pPay nm ts [] f= .error (f,160):=rfl
theorem Zvl (bs:List Cls):Gd NoR (Z9 bs):=by
 rw [Zvj]
 refine Zz4 Zvg (fun nm=>V2 (gd_b (Z5a _ _ _) (fun ts=>Z3b _ _) fun _ _ _ _ _ _ _ _ f=> .inl (Zvk _ _ _)) (Z3b _ _) fun _ _ _ _ _ f=> .inl (Zvk _ _ _)) (by simp) (fun _ _ h=>h.elim) (fun _ _ _ _ _ _ h=>h.elim)
theorem Z8x (k:Nat) (cs:List Cls) (h:cs.length≠64):pCls (k+1) cs=pIf [99,108,97,117,115,101] (pB (Z9 cs) fun c=>pCls k (cs++ [c])) (pR cs):=by
 funext l e
 rw [pCls]
 unfold pIf pB
 split
 · cases Z9 cs l.tail e with
   |error er=>rfl
   |ok y=>rfl
 · rfl
theorem Z3c:∀(k:Nat) (cs:List Cls),Gd AnyR (pCls k cs)
 |0,cs=>gd_R _ cs
 |k+1,cs=>by
  by_cases h:cs.length=64
  · intro l e
    rw [pCls,if_pos h]
    cases hw:isW [99,108,97,117,115,101] l with
    |true=>
     rw [if_pos rfl]
     refine ⟨fun y x h=>(by cases h),fun er h'=> ?_⟩
     cases h'
     refine .hd (by simp) fun l' f hl=> ?_
     have:isW [99,108,97,117,115,101] l'=true:=by
      cases l' with
      |nil=>
       cases l with
       |nil=>cases hw
       |cons t r=>simp at hl
      |cons t' r'=>
       cases l with
       |nil=>simp at hl
       |cons t r=>
        rw [Zj9 (r:=r) (List.cons.inj hl).1]
        exact hw
     rw [pCls,if_pos h,this,if_pos rfl]
    |false=>
     rw [if_neg Bool.false_ne_true]
     refine ⟨fun y x hy=> ?_,fun er h=>(by cases h)⟩
     cases hy
     refine ⟨0,rfl,Nat.zero_le _,fun l' m f hl=>⟨fun _=> ?_,fun h=>by omega⟩⟩
     have:isW [99,108,97,117,115,101] l'=false:=by
      rcases Yz hl with ⟨rfl,_⟩|⟨t',r',t,r,m',rfl,rfl,rfl,h4,h5⟩
      · rfl
      · rw [Zj9 (r:=r) h4]
        exact hw
     rw [pCls,this,if_neg Bool.false_ne_true]
     rfl
  · rw [Z8x k cs h]
    refine V2 (gd_b (Zvl cs) (fun c=>Z3c k _) (fun _ _ _ _ _ _ h=>h.elim)) (gd_R _ _) fun _ _ _ _ _ f=> .inr ⟨cs,trivial,rfl⟩
theorem Zkb:∀(k k':Nat) (cs:List Cls) (l:List Tok) (e:Int),l.length<k->l.length<k'->pCls k cs l e=pCls k' cs l e
 |0,_,_,_,_,h,_=>by omega
 |_+1,0,_,_,_,_,h=>by omega
 |k+1,k'+1,cs,l,e,h,h'=>by
  unfold pCls
  split
  · rename_i hw
    split
    · rfl
    · have h1:=Zm hw
      cases hq:Z9 cs l.tail e with
      |error er=>rfl
      |ok y=>
       have h2:=Za9 hq
       exact Zkb k k' _ _ _ (by omega) (by omega)
  · rfl
def pEof (t:Tar):PP Tar:=fun l e=>if 0<l.length then .error (hdT e l,160) else .ok (t,l,e,())
theorem Z8y (t:Tar):Gd NoR (pEof t):=by
 intro l e
 unfold pEof
 split
 · rename_i h0
   refine ⟨fun y x h=>(by cases h),fun er h=> ?_⟩
   cases h
   refine .hd (by simp) fun l' f hl=> ?_
   have hlen:=congrArg List.length hl
   rw [List.length_map,List.length_map] at hlen
   show (if 0<l'.length then _ else _)=_
   rw [if_pos (by omega)]
 · rename_i hl
   have:l= []:=List.eq_nil_of_length_eq_zero (by omega)
   subst this
   refine ⟨fun y x hy=> ?_,fun er h=>(by cases h)⟩
   cases hy
   refine ⟨0,rfl,Nat.zero_le _,fun l' m f hl=>⟨fun _=> ?_,fun h=>by omega⟩⟩
   have:l'= []:=Vi hl
   subst this
   rfl
def Zvm (N:Nat):PP Tar:=pIf [116,97,114,105,102,102] (pB Uk fun nm=>pIf [102,111,114] (pB (Yl WK.ki.words) fun k=>pIf [123] (pB (pCls N []) fun cs=>pIf [125] (pEof ⟨nm,wr .i64 (1+k),cs⟩) pSyn) pSyn) pSyn) pSyn
theorem Z5e (N:Nat):Gd NoR (Zvm N):=by
 unfold Zvm
 refine V2 (gd_b Zvg (fun nm=>V2 (gd_b (Zh9 _) (fun k=>V2 (gd_b (Z3c _ _) (fun cs=>V2 (Z8y _) (Vy _) fun _ _ _ _ _ f=> .inl rfl) ?_) (Vy _) fun _ _ _ _ _ f=> .inl rfl) (fun _ _ _ _ _ _ h=>h.elim)) (Vy _) fun _ _ _ _ _ f=> .inl rfl) (fun _ _ _ _ _ _ h=>h.elim)) (Vy _) fun _ _ _ _ _ f=> .inl rfl
 exact fun _ _ _ _ _ _ _ _ f=> .inl rfl
theorem Z3d (N:Nat) (l:List Tok) (e:Int) (h:l.length<N):pTar l e=Zvm N l e:=by
 unfold pTar Zvm pIf pB pSyn
 split
 · rename_i hw
   have h1:=Zm hw
   cases hn:Uk l.tail e with
   |error er=>rfl
   |ok y=>
    have h2:=Zbu hn
    dsimp only
    split
    · rename_i hw2
      have h3:=Zm hw2
      cases hm:Yl WK.ki.words y.2.1.tail y.2.2.1 with
      |error er=>rfl
      |ok z=>
       obtain ⟨_,_,hz⟩:=Zab hm
       have h4:z.2.1.length<=y.2.1.tail.length:=by
        rw [hz]
        show y.2.1.tail.tail.length<=_
        rw [List.length_tail (l:=y.2.1.tail)]
        omega
       dsimp only
       split
       · rename_i hw3
         have h5:=Zm hw3
         rw [Zkb (z.2.1.tail.length+1) N [] z.2.1.tail z.2.2.1 (by omega) (by omega)]
         cases pCls N [] z.2.1.tail z.2.2.1 with
         |error er=>rfl
         |ok u=>rfl
       · rfl
    · rfl
 · rfl
theorem Z8z:Gd NoR pTar:=Z5d Zvm Z5e Z3d
end
section
open Go
def TkG (t:Tok):Prop:=TokW t.text/\sT t=tkS t.text/\(t.kind=1->Zfn t.text=true)/\(t.kind=2->0<=t.n/\t.n<=1099511627776)
def LxOk (l:List Tok):Prop:=∀t∈l,TkG t
theorem LxOk.drop {l:List Tok} (h:LxOk l) (k:Nat):LxOk (l.drop k):=fun t ht=>h t (List.mem_of_mem_drop ht)
theorem LxOk.tail {l:List Tok} (h:LxOk l):LxOk l.tail:=fun t ht=>h t (List.mem_of_mem_tail ht)
section
variable {α β : Type}
def Vl (P:β->Prop) (p:PP β):Prop:=∀l e y x,LxOk l->p l e= .ok (y,x)->P y/\LxOk x.1
theorem Vl.mono {P Q:β->Prop} {p:PP β} (h:Vl P p) (hq:∀y,P y->Q y):Vl Q p:=fun l e y x hl hy=>⟨hq y (h l e y x hl hy).1,(h l e y x hl hy).2⟩
end
theorem Zqo {op n:Int} {a b c d:Int} {l:List Ex} (h:Zcm op n [a,b,c,d] l.length=true) (hl:∀x∈l,Yh x=true):Yh (.mk op n a b c d l)=true:=by
 rw [Zq4,Bool.and_eq_true]
 exact ⟨h,formL_iff.2 hl⟩
theorem Z6v {op n:Int} {u:List Int} {k:Nat} (h1:1<=op) (h2:op<=11) (h3:0<=n) (h4:n<=Z2g op) (h5:k=Zlm op) (h6:Zc9 u=true) (h7:op=1\/u= [0,0,0,0]):Zcm op n u k=true:=by
 unfold Zcm
 simp only [Bool.and_eq_true,Bool.or_eq_true,decide_eq_true_eq]
 exact ⟨⟨⟨⟨⟨⟨h1,h2⟩,h3⟩,h4⟩,h5⟩,h6⟩,h7⟩
theorem Z6w {op:Int} {l:List Ex} (h1:3<=op) (h2:op<=11) (h3:l.length=if op=11 then 4 else 2) (hl:∀x∈l,Yh x=true):Yh (.mk op 0 0 0 0 0 l)=true:=by
 refine Zqo (Z6v (by omega) h2 (Int.le_refl _) ?_ ?_ (by decide) (.inr rfl)) hl
 · unfold Z2g
   rw [if_neg (by omega),if_neg (by omega)]
   exact Int.le_refl _
 · unfold Zlm
   rw [if_neg (by omega)]
   exact h3
end
section
open Go
def En {β:Type} (p:PP β):Prop:=∀l e y x,p l e= .ok (y,x)->x.1= []
theorem Zpv {β:Type}:En (pSyn:PP β):=fun l e y x h=>by cases h
theorem en_b {α β:Type} {p:PP α} {q:α->PP β} (hq:∀y,En (q y)):En (pB p q):=fun l e y x h=>by
 obtain ⟨y1,x1,_,h2⟩:=b_ok h
 exact hq y1 _ _ _ _ h2
theorem Zz1 {β:Type} {s:List Nat} {A B:PP β} (hA:En A) (hB:En B):En (pIf s A B):=fun l e y x h=>by
 unfold pIf at h
 split at h
 · exact hA _ _ _ _ h
 · exact hB _ _ _ _ h
theorem Z8l (t:Tar):En (pEof t):=fun l e y x h=>by
 unfold pEof at h
 split at h
 · cases h
 · rename_i hl
   cases h
   exact List.eq_nil_of_length_eq_zero (Nat.le_zero.1 (Nat.le_of_not_lt hl))
theorem Z8m:En pTar:=fun l e y x h=>by
 rw [Z3d _ l e (Nat.lt_succ_self _)] at h
 exact Zz1 (en_b fun nm=>Zz1 (en_b fun k=>Zz1 (en_b fun cs=>Zz1 (Z8l _) Zpv) Zpv) Zpv) Zpv l e y x h
theorem Z44 {l:List Tok} {e:Int} {t:Tar} {x:PX} (h:pTar l e= .ok (t,x)):(∀l' f,l'.map sT=l.map sT->pTar l' f= .ok (t,[],f,()))/\∀l' m f,m<l.length->l'.map sT=(l.map sT).take m->pTar l' f= .error (f,160):=by
 have hn:=Z8m l e t x h
 obtain ⟨k,rfl,hk,ho⟩:=(Z8z l e).1 t x h
 have hk2:l.length<=k:=by
  have:=congrArg List.length hn
  rw [List.length_drop] at this
  simp at this
  omega
 have hk3:k=l.length:=by omega
 subst hk3
 refine ⟨fun l' f hl=> ?_,fun l' m f hm hl=> ?_⟩
 · have hlen:=congrArg List.length hl
   rw [List.length_map,List.length_map] at hlen
   rw [(ho l' l.length f (Zbs hl)).1 (Nat.le_refl _),List.drop_eq_nil_of_le (by omega)]
 · rcases (ho l' m f hl).2 hm with h|⟨y',h,_⟩
   · exact h
   · exact h.elim
theorem Yav (ws:List (List Nat)):(TS ws).map sT=TS ws:=by
 rw [List.map_map]
 rfl
theorem Zz2 {s:List Nat} {l:List Tok} (h:Lx s 0 l) (hs:s.length<=2000):Vd s=outT (pTar l s.length):=by
 unfold Vd
 rw [Zxh h hs,if_neg (by simp)]
theorem Zmk {s:List Nat} {l:List Tok} (h:Lx s 0 l) (hs:s.length<=2000) {l0:List Tok} {e:Int} {t:Tar} {x:PX} (ht:pTar l0 e= .ok (t,x)) (hl:l.map sT=l0.map sT):Vd s=(t,0,0):=by
 rw [Zz2 h hs,(Z44 ht).1 l s.length hl]
 rfl
end
section
open Go
end
section
open Go
theorem Zq6:∀{s:List Nat} {n m:Int},1<=n->n<=1099511627776->(∀c∈s,isD c=true)->numL n s=(m,0)->n*10^s.length<=1099511627776
 | [],n,m,_,hn,_,_=>by simpa using hn
 |c::r,n,m,h1,hn,hd,h=>by
  unfold numL at h
  split at h
  · cases h
  · rename_i hq
    have hc:=hd c (by simp)
    unfold isD at hc
    simp only [Bool.and_eq_true,decide_eq_true_eq] at hc
    have:=Zq6 (by omega) (by omega) (fun c hc=>hd c (by simp [hc])) h
    have hle:n*10<=10*n+((c:Int)-48):=by omega
    have hp:(0:Int)<=10^r.length:=Int.le_of_lt (Int.pow_pos (by decide))
    have h3:=Int.mul_le_mul_of_nonneg_right hle hp
    rw [List.length_cons,Int.pow_succ,Int.mul_comm (10^r.length) 10,<-Int.mul_assoc]
    omega
theorem Z2u {s:List Nat} (hd:∀c∈s,isD c=true) (h:(numb s).2=0):s.length<=32:=by
 match s,hd,h with
 | [],_,_=>simp
 |c::r,hd,h=>
  unfold numb at h
  split at h
  · cases h
  · rename_i hq
    cases r with
    |nil=>simp
    |cons d r=>
     have hc:c≠48:=fun e=>hq ⟨by simp,by rw [e];rfl⟩
     have hcd:=hd c (by simp)
     unfold isD at hcd
     simp only [Bool.and_eq_true,decide_eq_true_eq] at hcd
     unfold numL at h
     rw [if_neg (by omega)] at h
     have h2:numL (10*0+((c:Int)-48)) (d::r)=((numL (10*0+((c:Int)-48)) (d::r)).1,0):=Prod.ext rfl h
     have:=Zq6 (by omega) (by omega) (fun c hc=>hd c (by simp [hc])) h2
     have hp:(0:Int)<=10^(d::r).length:=Int.le_of_lt (Int.pow_pos (by decide))
     have h3:1*(10:Int)^(d::r).length<=(10*0+((c:Int)-48))*10^(d::r).length:=Int.mul_le_mul_of_nonneg_right (by omega) hp
     rcases Nat.lt_or_ge (d::r).length 13 with hl|hl
     · simp at hl⊢;omega
     · have h4:(10:Nat)^13<=10^(d::r).length:=Nat.pow_le_pow_right (by decide) hl
       have h5:((10^(d::r).length:Nat):Int)=(10:Int)^(d::r).length:=by norm_cast
       have h6:((10^13:Nat):Int)<=((10^(d::r).length:Nat):Int):=Int.ofNat_le.2 h4
       rw [h5] at h6
       have h7:((10^13:Nat):Int)=10000000000000:=rfl
       omega
theorem Z7o {c:Nat} {w:List Nat} (h:sgnW c=some w):w.length<=2:=by
 unfold sgnW at h
 repeat (split at h; · cases h;decide)
 cases h
theorem TokW.len {w:List Nat} (h:TokW w):w.length<=32:=by
 obtain ⟨h1,h2,h3⟩:=h
 obtain ⟨c,r,rfl⟩:=List.exists_cons_of_ne_nil h3
 rw [Yo] at h1 h2
 split at h1
 · rename_i hl
   rw [if_pos hl] at h2
   split at h1
   · cases h1
   · rename_i hq
     rw [if_neg hq] at h2
     have h2:=congrArg List.length h2
     rw [List.length_take] at h2
     omega
 · rename_i hl
   rw [if_neg hl] at h2
   split at h1
   · rename_i hd
     rw [if_pos hd] at h2
     have h2:(c::r).take (spn isD (c::r))=c::r:=h2
     have h1:(numb ((c::r).take (spn isD (c::r)))).2=0:=h1
     rw [h2] at h1
     exact Z2u (fun x hx=>by rw [<-h2] at hx;exact Zi2 hx) h1
   · rename_i hd
     rw [if_neg hd] at h2
     split at h1
     · rename_i w hw
       rw [hw] at h2
       unfold tokS at h1 h2
       split at h1
       · rename_i hq
         dsimp only at h2
         rw [if_pos hq] at h2
         have h2:w=c::r:=h2
         rw [<-h2]
         have:=Z7o hw
         omega
       · cases h1
     · cases h1
end
section
open Go
noncomputable def Z68:Sum thy:=sumP (DcL.nil:DcL E Unit) (fun _=>True) fun _=> .bool true true
noncomputable def Ybb:Sum thy:=Zal (dA1 dS) (fun _=>True) (fun x=>Vd x.1) fun y=>parV false y
noncomputable def Z98:Sum thy:=Zal dTE (fun x=>x.2.1.v.length=16/\Z7b x.1) (fun x=>amtF x.1 x.2.1) amtV
theorem Z1x:SumOk E 13 Z98:=Yj E_ok (Zc (f:=13) rfl) fun x h=>by
 show PureC E _ [.agg (encF false .tariffs x.1),dEv.enc x.2.1] _
 rw [Ziy h.1]
 exact Zfs _ _ h.1 h.2
end
section
open Go
def LxW (s:List Nat) (ws:List (List Nat)):Prop:=∀p,∃l,Lx s p l/\l.map sT=TS ws
theorem Zuv {w s:List Nat} {ws:List (List Nat)} (hw:TokW w) (hs:SepL w s) (h:LxW s ws):LxW (w++s) (w::ws):=fun p=>by
 obtain ⟨l,h1,h2⟩:=h (p+w.length)
 refine ⟨_,.tok w s p l hw hs h1,?_⟩
 rw [List.map_cons,h2];rfl
theorem Zuw {c:Nat} {s:List Nat} {ws:List (List Nat)} (hc:blk c=true) (h:LxW s ws):LxW (c::s) ws:=fun p=>by
 obtain ⟨l,h1,h2⟩:=h (p+1)
 exact ⟨_,.blank c s p l hc h1,h2⟩
theorem Ug {s t:List Nat} {ws us:List (List Nat)} (h:LxW s ws) (h2:LxW t us) (hs:SepL s t):LxW (s++t) (ws++us):=fun p=>by
 obtain ⟨l,a1,a2⟩:=h p
 obtain ⟨m,b1,b2⟩:=h2 (p+s.length)
 refine ⟨_,Z9y a1 b1 hs,?_⟩
 rw [List.map_append,a2,b2,TS,TS,TS,List.map_append]
def tokB (w:List Nat):Bool:=(decide ((tokP w).2=0)&&((tokP w).1.text==w))&& !(w== [])
def sepB (s t:List Nat):Bool:=(match s.getLast? with|some c=> !(isLD c)|none=>true)||(match t.head? with|some c=> !(isLD c)|none=>true)
def lxB:Nat->List Nat->List (List Nat)->Bool
 |_,[],ws=>ws== []
 |0,_::_,_=>false
 |k+1,c::s,ws=>if blk c then lxB k s ws else match ws with
  | []=>false
  |w::r=>((w==(c::s).take w.length)&&tokB w)&&(sepB w ((c::s).drop w.length)&&lxB k ((c::s).drop w.length) r)
theorem Z4k {s t:List Nat} (h:sepB s t=true):SepL s t:=by
 unfold sepB at h
 rw [Bool.or_eq_true] at h
 rcases h with h|h
 · refine .inl fun c hc=> ?_
   rw [hc] at h
   simpa using h
 · refine .inr fun c hc=> ?_
   rw [hc] at h
   simpa using h
theorem Zes:∀{k:Nat} {s:List Nat} {ws:List (List Nat)},lxB k s ws=true->LxW s ws
 |k,[],ws,h=>by
  have h:ws= []:=by cases k<;>simpa [lxB] using h
  subst h
  exact fun p=>⟨[],.nil p,rfl⟩
 |0,c::s,ws,h=>by cases h
 |k+1,c::s,ws,h=>by
  unfold lxB at h
  split at h
  · rename_i hc
    exact Zuw hc (Zes h)
  · cases ws with
    |nil=>cases h
    |cons w r=>
     simp only [Bool.and_eq_true,beq_iff_eq,tokB,decide_eq_true_eq,Bool.not_eq_true',beq_eq_false_iff_ne] at h
     obtain ⟨⟨h1,⟨h2,h3⟩,h4⟩,h5,h6⟩:=h
     have e:c::s=w++(c::s).drop w.length:=by
      conv=>lhs;rw [<-List.take_append_drop w.length (c::s),<-h1]
     rw [e]
     exact Zuv ⟨h2,h3,h4⟩ (Z4k h5) (Zes h6)
def dmA:List Nat:= [116,97,114,105,102,102,32,121,97,114,100,32,102,111,114,32,100,101,109,117,114,114,97,103,101,32,123,32,99,108,97,117,115,101,32,102,114,101,101,116,105,109,101,32,119,104,101,110,32,109,105,110,117,116,101,115,32,105,110,32,48,46,46]
def dmB:List Nat:= [32,112,97,121,32,48,32,109,111,110,101,121,59,32,99,108,97,117,115,101,32,108,97,116,101,32,112,97,121,32,109,105,110,40,117,112,40,109,105,110,117,116,101,115,32,45,32]
def dmC:List Nat:= [32,109,105,110,117,116,101,44,32,49,52,52,48,32,109,105,110,117,116,101,41,32,42,32]
def dmD:List Nat:= [32,109,111,110,101,121,44,32]
def dmG:List Nat:= [32,109,111,110,101,121,41,59,32,125]
def dwA:List (List Nat):= [[116,97,114,105,102,102],[121,97,114,100],[102,111,114],[100,101,109,117,114,114,97,103,101],[123],[99,108,97,117,115,101],[102,114,101,101,116,105,109,101],[119,104,101,110],[109,105,110,117,116,101,115],[105,110],[48],[46,46]]
def dwB:List (List Nat):= [[112,97,121],[48],[109,111,110,101,121],[59],[99,108,97,117,115,101],[108,97,116,101],[112,97,121],[109,105,110],[40],[117,112],[40],[109,105,110,117,116,101,115],[45]]
def dwC:List (List Nat):= [[109,105,110,117,116,101],[44],[49,52,52,48],[109,105,110,117,116,101],[41],[42]]
def dwD:List (List Nat):= [[109,111,110,101,121],[44]]
def dwG:List (List Nat):= [[109,111,110,101,121],[41],[59],[125]]
def demS (f p m:Int):List Nat:=dmA++decN f++dmB++decN f++dmC++decN p++dmD++decN m++dmG
def eN (n d0 d1:Int):Ex:= .mk 1 n d0 d1 0 0 []
def demT (f p m:Int):Tar:=⟨[121,97,114,100],2,[⟨[102,114,101,101,116,105,109,101],[⟨7,0,f⟩],eN 0 1 0⟩,⟨[108,97,116,101],[],.mk 6 0 0 0 0 0 [.mk 5 0 0 0 0 0 [.mk 9 0 0 0 0 0 [.mk 4 0 0 0 0 0 [.mk 2 7 0 0 0 0 [],eN f 0 1],eN 1440 0 1],eN p 1 0],eN m 1 0]⟩]⟩
theorem Z4l (sf sp sm:List Nat) (f p m e:Int):pTar (TS dwA++⟨2,sf,f,0⟩::(TS dwB++⟨2,sf,f,0⟩::(TS dwC++⟨2,sp,p,0⟩::(TS dwD++⟨2,sm,m,0⟩::TS dwG)))) e= .ok (demT f p m,[],e,()):=by kernel_rfl
def Nm (n:Int):Prop:=0<=n/\n<=1099511627776
theorem Zhy {n:Int} (h:Nm n):LxW (decN n) [decN n]:=by
 have:=Zuv (s:= []) (ws:= []) (Zqa h.1 h.2) (.inr fun c hc=>by cases hc) (fun p=>⟨[],.nil p,rfl⟩)
 rw [List.append_nil] at this
 exact this
theorem Zct {n:Int} (h:Nm n):(decN n).length<=32:=TokW.len (Zqa h.1 h.2)
theorem Zux {f p m:Int} (hf:Nm f) (hp:Nm p) (hm:Nm m):Vd (demS f p m)=(demT f p m,0,0):=by
 have sl:∀(s t:List Nat) (c:Nat),s.getLast? =some c->isLD c=false->SepL s t:=fun s t c h1 h2=> .inl fun d hd=>by rw [h1] at hd;cases hd;exact h2
 have sr:∀(s t:List Nat) (c:Nat),t.head? =some c->isLD c=false->SepL s t:=fun s t c h1 h2=> .inr fun d hd=>by rw [h1] at hd;cases hd;exact h2
 have gl:∀(a b:List Nat) (c:Nat),b.getLast? =some c->(a++b).getLast? =some c:=fun a b c h=>by rw [List.getLast?_append,h];rfl
 have k1:=Ug (Zes (k:=200) (s:=dmA) (ws:=dwA) (by kernel_rfl)) (Zhy hf) (sl _ _ 46 rfl rfl)
 have k2:=Ug k1 (Zes (k:=200) (s:=dmB) (ws:=dwB) (by kernel_rfl)) (sr _ _ 32 rfl rfl)
 have k3:=Ug k2 (Zhy hf) (sl _ _ 32 (gl _ _ _ rfl) rfl)
 have k4:=Ug k3 (Zes (k:=200) (s:=dmC) (ws:=dwC) (by kernel_rfl)) (sr _ _ 32 rfl rfl)
 have k5:=Ug k4 (Zhy hp) (sl _ _ 32 (gl _ _ _ rfl) rfl)
 have k6:=Ug k5 (Zes (k:=200) (s:=dmD) (ws:=dwD) (by kernel_rfl)) (sr _ _ 32 rfl rfl)
 have k7:=Ug k6 (Zhy hm) (sl _ _ 32 (gl _ _ _ rfl) rfl)
 have k8:=Ug k7 (Zes (k:=200) (s:=dmG) (ws:=dwG) (by kernel_rfl)) (sr _ _ 32 rfl rfl)
 obtain ⟨l,h1,h2⟩:=k8 0
 have hlen:(demS f p m).length<=2000:=by
  have:=Zct hf
  have:=Zct hp
  have:=Zct hm
  unfold demS
  simp only [List.length_append]
  have:dmA.length=63:=rfl
  have:dmB.length=47:=rfl
  have:dmC.length=24:=rfl
  have:dmD.length=8:=rfl
  have:dmG.length=10:=rfl
  omega
 refine Zmk h1 hlen (Z4l (decN f) (decN p) (decN m) f p m 0) ?_
 rw [h2]
 simp only [TS,List.map_append,List.map_cons,List.map_nil,List.append_assoc,List.cons_append,List.nil_append,Zm3 hf.1 hf.2,Zm3 hp.1 hp.2,Zm3 hm.1 hm.2]
 have:=fun ws=>Yav ws
 simp only [TS] at this
 rw [this,this,this,this,this]
 rfl
end
section
open Go
noncomputable def Fdm:Fns thy:=Zuj (addS (addS (addS (addS (addS F0 11 Z68) 14 Z91) 8 Stck) 10 Ybb) 13 Z98)
theorem Z8a:FnsOk E Fdm:=Zju (Zd (Zd (Zd (Zd (Zd F0_ok (Yg E_ok (Zc rfl) fun _ _=>Zof)) Z1h) Z4h) (Yj E_ok (Zc rfl) fun x _=>Zss x.1)) Z1x)
abbrev qDU2 (a0:Int):=(Int.tmod (wr IntKind.u64 a0) (1099511627776:Int))
abbrev qDU7 (a0:Int):=(Int.tmod (wr IntKind.u64 a0) (1000001:Int))
abbrev qDU5 (a0:Int):=(Int.tmod (wr IntKind.u64 a0) (20001:Int))
abbrev qDU1 (a0:Int) (b0:Int) (c0:Int):=(wr IntKind.i64 (Int.tdiv (wr IntKind.i64 (wr IntKind.i64 (wr IntKind.i64 (qDU2 a0)-wr IntKind.i64 (qDU5 b0))+(1439:Int))) (1440:Int))*wr IntKind.i64 (qDU7 c0))
abbrev qDU3:=(0:Int)
abbrev qDU4:=(9223372036854775807:Nat)
abbrev qDU6 (a0:Int):=(evOf ((128:Int),qDU3,qDU3,qDU3,qDU3,qDU3,qDU3,qDU3,wr IntKind.i64 (qDU2 a0),qDU3,qDU3,qDU3,qDU3,qDU3,qDU3,qDU3,qDU3,()))
abbrev qDU8:=(-9223372036854775808:Int)
abbrev qDU9:=(9223372036854775807:Int)
theorem Z4q (a b c d:Int) (v:Bool):Zj E Fdm (vc E Fdm 800) 5 [.int false .i64 a,.int false .i64 b,.int false .i64 c,.int false .i64 d] hp0 0 (fun r=>ret E (patch hp0 0 r) r.v (.bool false v))=(
 True/\(qDU3<=wr IntKind.i64 (qDU5 a)/\wr IntKind.i64 (qDU5 a)+(1:Int)<=(10000000000000:Int))/\∀(y:List Nat),y=decN (wr IntKind.i64 (qDU5 a))->List.length (dmA)+List.length y<=qDU4/\List.length (dmA++y)+List.length (dmB)<=qDU4/\List.length (dmA++y++dmB)+List.length y<=qDU4/\List.length (dmA++y++dmB++y)+List.length (dmC)<=qDU4/\(qDU3<=wr IntKind.i64 (qDU7 b)/\wr IntKind.i64 (qDU7 b)+(1:Int)<=(10000000000000:Int))/\∀(y_1:List Nat),y_1=decN (wr IntKind.i64 (qDU7 b))->List.length (dmA++y++dmB++y++dmC)+List.length y_1<=qDU4/\List.length (dmA++y++dmB++y++dmC++y_1)+List.length (dmD)<=qDU4/\(qDU3<=wr IntKind.i64 (qDU2 c)/\wr IntKind.i64 (qDU2 c)+(1:Int)<=(10000000000000:Int))/\∀(y_2:List Nat),y_2=decN (wr IntKind.i64 (qDU2 c))->List.length (dmA++y++dmB++y++dmC++y_1++dmD)+List.length y_2<=qDU4/\List.length (dmA++y++dmB++y++dmC++y_1++dmD++y_2)+List.length (dmG)<=qDU4/\True/\∀(y_3:Tar×Int×Int),y_3=Vd (dmA++y++dmB++y++dmC++y_1++dmD++y_2++dmG)->((Prod.snd (Prod.snd y_3) !=qDU3)=true->false=v)/\((Prod.snd (Prod.snd y_3) !=qDU3)=false->((∀(c:Cls),c∈Tar.clauses (Prod.fst y_3)->Ex.sz (Cls.pay c)+(1:Nat)<=(1000000000:Nat)/\List.length (Cls.when_ c)+(1:Nat)<=(1000000000000:Nat))/\List.length (Tar.clauses (Prod.fst y_3))+(1:Nat)<=(1000000000000:Nat))/\∀(y:Int×Int),y=chkP (Prod.fst y_3)->(List.length (Ev.v (qDU6 d))=(16:Nat)/\∀(c:Cls),c∈Tar.clauses (Prod.fst y_3)->∀(w:Tst),w∈Cls.when_ c->(qDU8<=Tst.attr w/\Tst.attr w<=qDU9)/\(qDU8<=Tst.low w/\Tst.low w<=qDU9)/\qDU8<=Tst.high w/\Tst.high w<=qDU9)/\∀(y_4:Int×Int×Int),y_4=amtF (Prod.fst y_3) (qDU6 d)->((Prod.snd y !=qDU3)=true->false=v)/\((Prod.snd y !=qDU3)=false->(decide (wr IntKind.i64 (qDU2 d)<=wr IntKind.i64 (qDU5 a))=true->((Prod.snd (Prod.snd y_4)==qDU3)=true->((Prod.fst y_4==qDU3)=true->((Prod.fst (Prod.snd y_4)==qDU3)=true->true=v)/\((Prod.fst (Prod.snd y_4)==qDU3)=false->false=v))/\((Prod.fst y_4==qDU3)=false->false=v))/\((Prod.snd (Prod.snd y_4)==qDU3)=false->false=v))/\(decide (wr IntKind.i64 (qDU2 d)<=wr IntKind.i64 (qDU5 a))=false->(decide (wr IntKind.i64 (qDU1 d a b)>(9007199254740992:Int))=true->((Prod.snd (Prod.snd y_4)==(3:Int))=true->true=v)/\((Prod.snd (Prod.snd y_4)==(3:Int))=false->false=v))/\(decide (wr IntKind.i64 (qDU1 d a b)>(9007199254740992:Int))=false->((Prod.snd (Prod.snd y_4)==qDU3)=true->((Prod.fst y_4==mm2 false (wr IntKind.i64 (qDU1 d a b)) (wr IntKind.i64 (qDU2 c)))=true->((Prod.fst (Prod.snd y_4)==(1:Int))=true->true=v)/\((Prod.fst (Prod.snd y_4)==(1:Int))=false->false=v))/\((Prod.fst y_4==mm2 false (wr IntKind.i64 (qDU1 d a b)) (wr IntKind.i64 (qDU2 c)))=false->false=v))/\((Prod.snd (Prod.snd y_4)==qDU3)=false->false=v)))))):=by kernel_rfl
theorem fo_i (d:Nat) {n:Int} (h:0<=n/\n<=1099511627776) (a b:Int):Xt (d+1) (eN n a b)=true:=by
 show (decide _&&_)=true
 simp [eN,Ex.op,Ex.n,Ex.l,opsF,h.1,h.2]
theorem fo_b (d:Nat) (op:Int) (h1:3<=op) (h2:op<=10) {x y:Ex} (hx:Xt d x=true) (hy:Xt d y=true):Xt (d+1) (.mk op 0 0 0 0 0 [x,y])=true:=by
 have ho:opsF op=2:=by
  unfold opsF
  rw [if_neg (by omega),if_neg (by omega),if_neg (by omega)]
 show (decide (((2:Nat):Int)=opsF op)&&(if op=1 then _ else if op=2 then _ else (Xt d x&&(Xt d y&&true))))=true
 rw [ho,if_neg (by omega),if_neg (by omega),hx,hy];rfl
theorem ev_i (d:Nat) (n a b:Int) (x:Ev):Zz (d+1) (eN n a b) x=(n,0):=rfl
theorem ev_b (d:Nat) (op:Int) (h1:3<=op) (h2:op<=10) {y z:Ex} {x:Ev} {a b:Int} (hy:Zz d y x=(a,0)) (hz:Zz d z x=(b,0)):Zz (d+1) (.mk op 0 0 0 0 0 [y,z]) x=Ul op a b:=by
 show (if op=1 then _ else if op=2 then _ else (if (Zz d y x).2≠0 then ((0:Int),(Zz d y x).2) else if (Zz d z x).2≠0 then (0,(Zz d z x).2) else if op≠11 then Ul op (Zz d y x).1 (Zz d z x).1 else _))=_
 rw [if_neg (by omega),if_neg (by omega),hy,hz,if_neg (fun h=>h rfl),if_neg (fun h=>h rfl),if_pos (by omega)]
def Zgr (f p m:Int):Ex:= .mk 6 0 0 0 0 0 [.mk 5 0 0 0 0 0 [.mk 9 0 0 0 0 0 [.mk 4 0 0 0 0 0 [.mk 2 7 0 0 0 0 [],eN f 0 1],eN 1440 0 1],eN p 1 0],eN m 1 0]
theorem Z4r {f p m n:Int} (hf:0<=f/\f<=20000) (hp:0<=p/\p<=1000000) (hm:0<=m/\m<1099511627776) (hn:0<=n/\n<1099511627776) (hfn:f<n) {x:Ev} (hx:Wf x 7=(n,0)):
 Va (Zgr f p m) x=(min ((n-f+1439)/1440*p) m,0):=by
 have hform:Xt 24 (Zgr f p m)=true:=by
  refine fo_b 23 6 (by decide) (by decide) (fo_b 22 5 (by decide) (by decide) (fo_b 21 9 (by decide) (by decide) (fo_b 20 4 (by decide) (by decide) ?_ (fo_i 19 (by omega) _ _)) (fo_i 20 (by decide) _ _)) (fo_i 21 (by omega) _ _)) (fo_i 22 (by omega) _ _)
  decide
 unfold Va
 rw [if_pos hform]
 have e0:Zz 20 (.mk 2 7 0 0 0 0 []) x=(n,0):=hx
 have r1:inR n=true:=inR_iff.2 (by omega)
 have r2:inR f=true:=inR_iff.2 (by omega)
 have r3:inR (n-f)=true:=inR_iff.2 (by omega)
 have r4:inR 1440=true:=rfl
 have r5:inR p=true:=inR_iff.2 (by omega)
 have e1:=ev_b 20 4 (by decide) (by decide) e0 (ev_i 19 f 0 1 x)
 have a1:Ul 4 n f=(n-f,0):=by
  show subF n f=_
  unfold subF rngF
  rw [r1,r2,r3];rfl
 rw [a1] at e1
 have e2:=ev_b 21 9 (by decide) (by decide) e1 (ev_i 20 1440 0 1 x)
 have a2:Ul 9 (n-f) 1440=((n-f+1439)/1440,0):=by
  show divF (n-f) 1440 9=_
  unfold divF
  rw [r3,r4]
  show (-(-(n-f)/1440),(0:Int))=_
  congr 1
  omega
 rw [a2] at e2
 have hd0:0<=(n-f+1439)/1440:=by omega
 have hd1:(n-f+1439)/1440<=763549742:=by omega
 generalize (n-f+1439)/1440=d at e2 hd0 hd1⊢
 have r6:inR d=true:=inR_iff.2 (by omega)
 have hdp:0<=d*p/\d*p<=763549742*1000000:=⟨Int.mul_nonneg hd0 hp.1,Int.mul_le_mul hd1 hp.2 hp.1 (by decide)⟩
 have r7:inR (d*p)=true:=inR_iff.2 (by omega)
 have e3:=ev_b 22 5 (by decide) (by decide) e2 (ev_i 21 p 1 0 x)
 have a3:Ul 5 d p=(d*p,0):=by
  show mulF d p=_
  unfold mulF rngF
  rw [r6,r5,r7];rfl
 rw [a3] at e3
 exact ev_b 23 6 (by decide) (by decide) e3 (ev_i 22 m 1 0 x)
def dmE (n:Int):Ev:=evOf (128,0,0,0,0,0,0,0,n,0,0,0,0,0,0,0,0,())
theorem Z4s {f p m n:Int} (hf:0<=f/\f<=20000) (hp:0<=p/\p<=1000000) (hm:0<=m/\m<1099511627776) (hn:0<=n/\n<1099511627776):
 amtF (demT f p m) (dmE n)=if n<=f then (0,0,0) else (min ((n-f+1439)/1440*p) m,1,0):=by
 have hx:Wf (dmE n) 7=(n,0):=by
  show (if (!(bitF 128 7))=true then _ else if inR n=true then (n,(0:Int)) else _)=_
  rw [if_neg (by decide),if_pos (inR_iff.2 (by omega))]
 have hh:Z3 (dmE n) [⟨7,0,f⟩]=if n<0\/f<n then (false,0) else (true,0):=by
  show (if (7:Int)<0\/16<=(7:Int) then _ else if (Wf (dmE n) 7).2≠0 then _ else if (Wf (dmE n) 7).1<0\/f<(Wf (dmE n) 7).1 then (false,(0:Int)) else _)=_
  rw [if_neg (by decide),hx,if_neg (fun h=>h rfl)]
  rfl
 show (if (Z3 (dmE n) [⟨7,0,f⟩]).2≠0 then _ else if (Z3 (dmE n) [⟨7,0,f⟩]).1=false then (if (Z3 (dmE n) []).2≠0 then _ else if (Z3 (dmE n) []).1=false then _ else if (Va (Zgr f p m) (dmE n)).2≠0 then _ else ((Va (Zgr f p m) (dmE n)).1,(1:Int),(0:Int))) else if (Va (eN 0 1 0) (dmE n)).2≠0 then _ else ((Va (eN 0 1 0) (dmE n)).1,(0:Int),(0:Int)))=_
 by_cases h:n<=f
 · have h1:Z3 (dmE n) [⟨7,0,f⟩]=(true,0):=by rw [hh,if_neg (by omega)]
   rw [h1,if_pos h];rfl
 · have h1:Z3 (dmE n) [⟨7,0,f⟩]=(false,0):=by rw [hh,if_pos (by omega)]
   rw [h1,if_neg h,Z4r hf hp hm hn (by omega) hx];rfl
theorem Z4t {f p m:Int} (hf:0<=f/\f<=20000) (hp:0<=p/\p<=1000000) (hm:0<=m/\m<1099511627776):(chkP (demT f p m)).2=0:=by
 have hi:∀n a b:Int,0<=n/\n<=1099511627776->Zc9 [a,b,0,0]=true->Yh (eN n a b)=true:=fun n a b h hw=>by
  refine Zqo ?_ (fun x hx=>by cases hx)
  unfold Zcm
  simp only [Bool.and_eq_true,Bool.or_eq_true,decide_eq_true_eq]
  exact ⟨⟨⟨⟨⟨⟨by decide,by decide⟩,h.1⟩,h.2⟩,rfl⟩,hw⟩,.inl trivial⟩
 have hb:∀(op:Int) (x y:Ex),3<=op->op<=10->Yh x=true->Yh y=true->Yh (.mk op 0 0 0 0 0 [x,y])=true:=fun op x y h1 h2 hx hy=>by
  refine Z6w h1 (by omega) (by rw [if_neg (by omega)];rfl) (fun z hz=> ?_)
  rcases List.mem_cons.1 hz with rfl|hz
  · exact hx
  · rw [List.mem_singleton.1 hz];exact hy
 have hpay:Yh (Zgr f p m)=true:=hb 6 _ _ (by decide) (by decide) (hb 5 _ _ (by decide) (by decide) (hb 9 _ _ (by decide) (by decide) (hb 4 _ _ (by decide) (by decide) (by decide) (hi f 0 1 (by omega) (by decide))) (hi 1440 0 1 (by decide) (by decide))) (hi p 1 0 (by omega) (by decide))) (hi m 1 0 (by omega) (by decide))
 have hc:W8 (demT f p m)=0:=by
  refine (Zm0 _).2 ⟨by kernel_rfl,show (1:Int)<=2 by decide,show (2:Int)<=6 by decide,by kernel_rfl,show 2<=64 by decide,?_⟩
  refine ⟨?_,by kernel_rfl,by simp,by show 1<=8;decide,by show 1<=24;decide,?_,by kernel_rfl,show ([108,97,116,101]:List Nat)∉ [[102,114,101,101,116,105,109,101]] by decide,by show 0<=8;decide,by show 5<=24;decide,trivial⟩
  · unfold V1
    simp only [Bool.and_eq_true,List.all_eq_true]
    refine ⟨⟨by kernel_rfl,hi 0 1 0 (by decide) (by decide)⟩,fun w hw=> ?_⟩
    rw [List.mem_singleton.1 hw]
    unfold Yy
    simp only [decide_eq_true_eq]
    omega
  · unfold V1
    simp only [Bool.and_eq_true,List.all_eq_true]
    exact ⟨⟨by kernel_rfl,hpay⟩,fun w hw=>by cases hw⟩
 unfold chkP
 rw [if_pos hc]
 show (goU 0 [⟨_,_,eN 0 1 0⟩,⟨_,_,Zgr f p m⟩]).2=0
 unfold goU
 rw [if_pos (by kernel_rfl)]
 unfold goU
 rw [if_pos (by kernel_rfl)]
 rfl
theorem md (x k:Int) (h1:0<k) (h2:k<=1099511627776):∃y,wr .i64 (Int.tmod (wr .u64 x) k)=y/\0<=y/\y<k:=by
 have h0:0<=wr .u64 x:=by simp only [wr,IntKind.wrap_u64];omega
 have a:=Int.tmod_nonneg k h0
 have b:=Int.tmod_lt_of_pos (wr .u64 x) h1
 exact ⟨_,wr64 (by omega) (by omega),a,b⟩
theorem Z4u (a b c d:Int):PureC E 5 [.int false .i64 a,.int false .i64 b,.int false .i64 c,.int false .i64 d] (.bool false true):=by
 refine Zb E_ok (Zh E_ok Z8a 800) ?_
 rw [Z4q];delta qDU2 qDU7 qDU5 qDU1 qDU3 qDU4 qDU6 qDU8 qDU9
 obtain ⟨f,ef,hf0,hf1⟩:=md a 20001 (by decide) (by decide)
 obtain ⟨p,ep,hp0,hp1⟩:=md b 1000001 (by decide) (by decide)
 obtain ⟨m,em,hm0,hm1⟩:=md c 1099511627776 (by decide) (by decide)
 obtain ⟨n,en,hn0,hn1⟩:=md d 1099511627776 (by decide) (by decide)
 rw [ef,ep,em,en]
 simp only [true_and,and_true,bne_iff_ne,bne_eq_false_iff_eq,beq_iff_eq,beq_eq_false_iff_ne,ne_eq,decide_eq_true_eq,decide_eq_false_iff_not,List.length_append,Bool.true_eq_false,Bool.false_eq_true]
 have A:dmA.length=63:=rfl
 have B:dmB.length=47:=rfl
 have C:dmC.length=24:=rfl
 have D:dmD.length=8:=rfl
 have G:dmG.length=10:=rfl
 have nf:Nm f:=And.intro hf0 (by omega)
 have np:Nm p:=And.intro hp0 (by omega)
 have nm:Nm m:=And.intro hm0 (by omega)
 refine ⟨⟨by omega,by omega⟩,fun y hy=> ?_⟩
 have ly:y.length<=32:=by rw [hy];exact Zct nf
 refine ⟨by omega,by omega,by omega,by omega,⟨by omega,by omega⟩,fun y1 hy1=> ?_⟩
 have ly1:y1.length<=32:=by rw [hy1];exact Zct np
 refine ⟨by omega,by omega,⟨by omega,by omega⟩,fun y2 hy2=> ?_⟩
 have ly2:y2.length<=32:=by rw [hy2];exact Zct nm
 refine ⟨by omega,by omega,fun z hz=> ?_⟩
 have ez:z=(demT f p m,0,0):=by
  rw [hz,hy,hy1,hy2]
  exact Zux nf np nm
 have hF:0<=f/\f<=20000:=⟨hf0,by omega⟩
 have hP:0<=p/\p<=1000000:=⟨hp0,by omega⟩
 have hM:0<=m/\m<1099511627776:=⟨hm0,hm1⟩
 have hN:0<=n/\n<1099511627776:=⟨hn0,hn1⟩
 have hk:=Z4t hF hP hM
 have ha:=Z4s hF hP hM hN
 subst ez
 refine ⟨fun h=>absurd rfl h,fun _=>⟨?_,fun u hu=>⟨⟨rfl,?_⟩,fun w hw=>⟨fun h=>absurd (by rw [hu];exact hk) h,fun _=> ?_⟩⟩⟩⟩
 · refine And.intro (fun c hc=> ?_) (by show 2+1<=_;omega)
   rcases List.mem_cons.1 hc with rfl|hc
   · exact And.intro (by show 1+1<=_;omega) (by show 1+1<=_;omega)
   · rw [List.mem_singleton.1 hc];exact And.intro (by show 9+1<=_;omega) (by show 0+1<=_;omega)
 · intro c hc w hw
   rcases List.mem_cons.1 hc with rfl|hc
   · rw [List.mem_singleton.1 hw];dsimp only;omega
   · rw [List.mem_singleton.1 hc] at hw;cases hw
 · have hw:w=if n<=f then (0,0,0) else (min ((n-f+1439)/1440*p) m,1,0):=hw.trans ha
   refine ⟨fun h=> ?_,fun h=> ?_⟩
   · rw [hw,if_pos h]
     exact ⟨fun _=>⟨fun _=>⟨fun _=>trivial,fun h=>absurd rfl h⟩,fun h=>absurd rfl h⟩,fun h=>absurd rfl h⟩
   · have e1:wr .i64 (wr .i64 (n-f)+1439)=n-f+1439:=by rw [wr64 (n:=n-f) (by omega) (by omega),wr64 (by omega) (by omega)]
     have e2:wr .i64 (Int.tdiv (n-f+1439) 1440)=(n-f+1439)/1440:=by
      rw [Int.tdiv_eq_ediv_of_nonneg (by omega),wr64 (by omega) (by omega)]
     rw [e1,e2]
     have hd0:0<=(n-f+1439)/1440:=by omega
     have hd1:(n-f+1439)/1440<=763549742:=by omega
     generalize (n-f+1439)/1440=q at hw hd0 hd1⊢
     have hdp:0<=q*p/\q*p<=763549742*1000000:=⟨Int.mul_nonneg hd0 hp0,Int.mul_le_mul hd1 hP.2 hp0 (by decide)⟩
     have e3:wr .i64 (q*p)=q*p:=wr64 (by omega) (by omega)
     rw [e3,hw,if_neg h]
     refine ⟨fun h=>absurd h (by omega),fun _=>⟨fun _=>⟨fun _=>⟨fun _=>trivial,fun h=>absurd rfl h⟩,fun h=>absurd (Y4 _ _).symm h⟩,fun h=>absurd rfl h⟩⟩
end
end Go.Proofs.YtddgkebdlgglaaaGreatDoor
