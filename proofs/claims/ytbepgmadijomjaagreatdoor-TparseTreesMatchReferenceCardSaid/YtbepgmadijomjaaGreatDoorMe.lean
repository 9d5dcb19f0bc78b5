/- Merged texts: TpIa, TpIb, EngZM, TpQ, TpPb, TpPc, TpR, TpPd, TpPe, TpPf, TpPg, TpS, TpT, TpW, TpX, TpK, TpKb, TpO, TpOh, EngZN, TpOi, TtV, TtWt. -/
import Derived.Test.YtbepgmadijomjaaGreatDoorMd
namespace Go.Proofs.YtbepgmadijomjaaGreatDoor
set_option linter.unusedVariables false
set_option linter.unusedSimpArgs false
set_option linter.unnecessarySimpa false
set_option maxRecDepth 100000
section
open Go
def ndK (u:Int) (k:Res thy->Prop):List Int->Prop
 | []=>True
 |j::r=>((Lib.nDigits u.toNat:Int)=j->k (Zd [] (.int true .i64 j)))/\ndK u k r
noncomputable def Snd:Sum thy:=fun args _ _ k=>
 match args with
 | [.int _ .u64 u]=>(1<=u/\u<10000000000000)/\ndK u k [1,2,3,4,5,6,7,8,9,10,11,12,13]
 |_=>False
noncomputable def Z3p:Sum thy:=Vo (dA1 dN) (fun x=>0<=x.1/\x.1<100) (fun x=>(Lib.itoa x.1).map UInt8.toNat) fun y=> .str false y
noncomputable def Fit:Fns thy:=addS (addS F0 165 Snd) 164 Z3p
def smT:List Nat:=
 toL (ByteArray.mk (List.toArray (List.append (List.append [(48:UInt8),(48:UInt8),(48:UInt8),(49:UInt8),(48:UInt8),(50:UInt8),(48:UInt8),(51:UInt8),(48:
 UInt8),(52:UInt8),(48:UInt8),(53:UInt8),(48:UInt8),(54:UInt8),(48:UInt8),(55:UInt8),(48:UInt8),(56:UInt8),(48:UInt8),(57:UInt8),(49:UInt8),(48
 :UInt8),(49:UInt8),(49:UInt8),(49:UInt8),(50:UInt8),(49:UInt8),(51:UInt8),(49:UInt8),(52:UInt8),(49:UInt8),(53:UInt8),(49:UInt8),(54:UInt8),
 (49:UInt8),(55:UInt8),(49:UInt8),(56:UInt8),(49:UInt8),(57:UInt8),(50:UInt8),(48:UInt8),(50:UInt8),(49:UInt8),(50:UInt8),(50:UInt8),(50:
 UInt8),(51:UInt8),(50:UInt8),(52:UInt8)] [(50:UInt8),(53:UInt8),(50:UInt8),(54:UInt8),(50:UInt8),(55:UInt8),(50:UInt8),(56:UInt8),(50:UInt8),(57
 :UInt8),(51:UInt8),(48:UInt8),(51:UInt8),(49:UInt8),(51:UInt8),(50:UInt8),(51:UInt8),(51:UInt8),(51:UInt8),(52:UInt8),(51:UInt8),(53:UInt8),
 (51:UInt8),(54:UInt8),(51:UInt8),(55:UInt8),(51:UInt8),(56:UInt8),(51:UInt8),(57:UInt8),(52:UInt8),(48:UInt8),(52:UInt8),(49:UInt8),(52:
 UInt8),(50:UInt8),(52:UInt8),(51:UInt8),(52:UInt8),(52:UInt8),(52:UInt8),(53:UInt8),(52:UInt8),(54:UInt8),(52:UInt8),(55:UInt8),(52:UInt8),(56
 :UInt8),(52:UInt8),(57:UInt8)]) (List.append [(53:UInt8),(48:UInt8),(53:UInt8),(49:UInt8),(53:UInt8),(50:UInt8),(53:UInt8),(51:UInt8),(53:UInt8),
 (52:UInt8),(53:UInt8),(53:UInt8),(53:UInt8),(54:UInt8),(53:UInt8),(55:UInt8),(53:UInt8),(56:UInt8),(53:UInt8),(57:UInt8),(54:UInt8),(48:
 UInt8),(54:UInt8),(49:UInt8),(54:UInt8),(50:UInt8),(54:UInt8),(51:UInt8),(54:UInt8),(52:UInt8),(54:UInt8),(53:UInt8),(54:UInt8),(54:UInt8),(54
 :UInt8),(55:UInt8),(54:UInt8),(56:UInt8),(54:UInt8),(57:UInt8),(55:UInt8),(48:UInt8),(55:UInt8),(49:UInt8),(55:UInt8),(50:UInt8),(55:UInt8),
 (51:UInt8),(55:UInt8),(52:UInt8)] [(55:UInt8),(53:UInt8),(55:UInt8),(54:UInt8),(55:UInt8),(55:UInt8),(55:UInt8),(56:UInt8),(55:UInt8),(57:
 UInt8),(56:UInt8),(48:UInt8),(56:UInt8),(49:UInt8),(56:UInt8),(50:UInt8),(56:UInt8),(51:UInt8),(56:UInt8),(52:UInt8),(56:UInt8),(53:UInt8),(56
 :UInt8),(54:UInt8),(56:UInt8),(55:UInt8),(56:UInt8),(56:UInt8),(56:UInt8),(57:UInt8),(57:UInt8),(48:UInt8),(57:UInt8),(49:UInt8),(57:UInt8),
 (50:UInt8),(57:UInt8),(51:UInt8),(57:UInt8),(52:UInt8),(57:UInt8),(53:UInt8),(57:UInt8),(54:UInt8),(57:UInt8),(55:UInt8),(57:UInt8),(56:
 UInt8),(57:UInt8),(57:UInt8)]))))
abbrev qCAo:=(0:Int)
abbrev qCA3 (a0:Int):=(wr IntKind.u64 (qCAo-wr IntKind.u64 a0))
abbrev Zm0:=(100000000:Int)
abbrev qCA1 (a0:Int):=(wr IntKind.u32 (Int.tmod (qCA3 a0) Zm0))
abbrev qCA2 (a0:Int):=(wr IntKind.u32 (Int.tmod (wr IntKind.u64 a0) Zm0))
abbrev qCA4:=(10000:Int)
abbrev qCA5:=(↑(List.length smT):Int)
abbrev qCA6:=(100:Int)
abbrev qCA7 (a0:Int):=(wr IntKind.u32 (wr IntKind.u64 (Int.tdiv (wr IntKind.u64 a0) Zm0)))
abbrev qCA8:=(256:Nat)
abbrev qCAc:=(2:Int)
abbrev qCA9 (a0:Int):=(wr IntKind.u32 (Int.tdiv (wr IntKind.u32 (Int.tdiv (qCA1 a0) qCA4)) qCA6)*qCAc)
abbrev qCAa (a0:Int):=(wr IntKind.u32 (Int.tdiv (wr IntKind.u32 (Int.tdiv (qCA2 a0) qCA4)) qCA6)*qCAc)
abbrev qCAb (a0:Int):=(wr IntKind.u32 (wr IntKind.u64 (Int.tdiv (qCA3 a0) Zm0)))
abbrev qCAd:=(1:Int)
abbrev qCAe (a0:Int):=(wr IntKind.u32 (wr IntKind.u64 a0))
abbrev qCAf (a0:Int):=(wr IntKind.u32 (Int.tdiv (Int.tmod (qCA1 a0) qCA4) qCA6)*qCAc)
abbrev qCAg (a0:Int):=(Int.tmod (wr IntKind.u32 (Int.tdiv (qCA1 a0) qCA4)) qCA6*qCAc)
abbrev qCAh (a0:Int):=(wr IntKind.u32 (Int.tdiv (Int.tmod (qCA2 a0) qCA4) qCA6)*qCAc)
abbrev qCAi (a0:Int):=(Int.tmod (wr IntKind.u32 (Int.tdiv (qCA2 a0) qCA4)) qCA6*qCAc)
abbrev Zkp (a0:Int):=(wr IntKind.u32 (qCA3 a0))
abbrev qCAj (a0:Int):=(wr IntKind.u32 (Int.tdiv (Int.tmod (Zkp a0) qCA4) qCA6)*qCAc)
abbrev qCAk (a0:Int):=(Int.tmod (Int.tmod (qCA1 a0) qCA4) qCA6*qCAc)
abbrev qCAl (a0:Int):=(Int.tmod (Int.tmod (qCA2 a0) qCA4) qCA6*qCAc)
abbrev qCAm (a0:Int):=(Int.tmod (Int.tmod (Zkp a0) qCA4) qCA6*qCAc)
abbrev qCAn (a0:Int):=(wr IntKind.u32 (Int.tdiv (Int.tmod (qCAe a0) qCA4) qCA6)*qCAc)
abbrev qCAp (a0:Int):=(Int.tmod (Int.tmod (qCAe a0) qCA4) qCA6*qCAc)
abbrev qCAq (a0:Int):=(Int.tmod (wr IntKind.u32 (Int.tdiv (Zkp a0) qCA4)) qCA6*qCAc)
abbrev qCAr (a0:Nat):=(↑a0:Int)
abbrev qCAs (a0:Int):=(wr IntKind.u32 (Int.tdiv (Int.tmod (qCAb a0) qCA4) qCA6)*qCAc)
abbrev qCAt (a0:Int):=(Int.tmod (wr IntKind.u32 (Int.tdiv (qCAe a0) qCA4)) qCA6*qCAc)
abbrev qCAu (a0:Int):=(wr IntKind.u32 (Int.tdiv (Int.tmod (qCA7 a0) qCA4) qCA6)*qCAc)
abbrev qCAv (a0:Int):=(↑(Lib.nDigits (Int.toNat (wr IntKind.u64 a0))):Int)
abbrev qCAw (a0:Int):=(Int.tmod (Zkp a0) qCA6*qCAc)
abbrev qCAx (a0:Int):=(Int.tmod (Int.tmod (qCAb a0) qCA4) qCA6*qCAc)
abbrev qCAy (a0:Int):=(Int.tmod (Int.tmod (qCA7 a0) qCA4) qCA6*qCAc)
abbrev qCAz (a0:Int):=(↑(Lib.nDigits (Int.toNat (qCA3 a0))):Int)
abbrev Zbm (a0:Int):=(wr IntKind.u32 (qCAk a0)+qCAd)
abbrev Zbn (a0:Int):=(wr IntKind.u32 (qCAf a0)+qCAd)
abbrev Zbo (a0:Int):=(wr IntKind.u32 (qCAg a0)+qCAd)
abbrev Zbp (a0:Int):=(wr IntKind.u32 (qCA9 a0)+qCAd)
abbrev Zbq (a0:Int):=(wr IntKind.u32 (qCAl a0)+qCAd)
abbrev Zbr (a0:Int):=(wr IntKind.u32 (qCAh a0)+qCAd)
abbrev Zbs (a0:Int):=(wr IntKind.u32 (qCAi a0)+qCAd)
abbrev Zbt (a0:Int):=(wr IntKind.u32 (qCAa a0)+qCAd)
abbrev Zcb (a0:Int):=(wr IntKind.u32 (qCAm a0)+qCAd)
abbrev Zcc (a0:Int):=(wr IntKind.u32 (qCAj a0)+qCAd)
abbrev Zcd (a0:Int):=(wr IntKind.u32 (qCAp a0)+qCAd)
abbrev Zce (a0:Int):=(wr IntKind.u32 (qCAn a0)+qCAd)
abbrev Zkq (a0:Int):=(Int.tmod (qCAb a0) qCA6*qCAc)
abbrev Zkr (a0:Int):=(Int.tmod (qCAe a0) qCA6*qCAc)
abbrev Zks (a0:Int):=(Int.tmod (qCA7 a0) qCA6*qCAc)
abbrev U4:=(48:Int)
abbrev X8:=(45:Int)
abbrev Zm1 (a0:Int):=(wr IntKind.u32 (Zkq a0)+qCAd)
abbrev Zm2 (a0:Int):=(wr IntKind.u32 (Zkr a0)+qCAd)
abbrev Zm3 (a0:Int):=(wr IntKind.u32 (Zks a0)+qCAd)
abbrev Zm4 (a0:Int):=(wr IntKind.u32 (qCAw a0)+qCAd)
abbrev Zm5 (a0:Int):=(wr IntKind.u32 (qCAq a0)+qCAd)
abbrev Zm6 (a0:Int):=(wr IntKind.u32 (qCAx a0)+qCAd)
abbrev Zm7 (a0:Int):=(wr IntKind.u32 (qCAs a0)+qCAd)
abbrev Zm8 (a0:Int):=(wr IntKind.u32 (qCAt a0)+qCAd)
abbrev Zm9 (a0:Int):=(wr IntKind.u32 (qCAy a0)+qCAd)
abbrev Zna (a0:Int):=(wr IntKind.u32 (qCAu a0)+qCAd)
abbrev Z6a (a0:Int):=(wr IntKind.u8 (wr IntKind.u32 (U4+wr IntKind.u32 (wr IntKind.u64 (Int.tdiv (wr IntKind.u64 a0) Zm0)))))
abbrev Z6b (a0:Int):=(wr IntKind.u8 (wr IntKind.u32 (U4+wr IntKind.u32 (Int.tdiv (wr IntKind.u32 (Int.tdiv (Zkp a0) qCA4)) qCA6))))
abbrev Z6c (a0:Int):=(wr IntKind.u8 (wr IntKind.u32 (U4+wr IntKind.u32 (Int.tdiv (wr IntKind.u32 (Int.tdiv (qCAe a0) qCA4)) qCA6))))
abbrev Z0 (a0:Int):=(a0<qCAo)
abbrev Z6d (a0:Int):=(wr IntKind.u8 (wr IntKind.u32 (U4+wr IntKind.u32 (wr IntKind.u64 (Int.tdiv (qCA3 a0) Zm0)))))
abbrev Znb (a0:Int):=(wr IntKind.u32 (Zbm a0))
abbrev Znc (a0:Int):=(wr IntKind.u32 (Zbn a0))
abbrev Znd (a0:Int):=(wr IntKind.u32 (Zbo a0))
abbrev Zne (a0:Int):=(wr IntKind.u32 (Zbp a0))
abbrev Znf (a0:Int):=(wr IntKind.u32 (Zbq a0))
abbrev Zng (a0:Int):=(wr IntKind.u32 (Zbr a0))
abbrev Znh (a0:Int):=(wr IntKind.u32 (Zbs a0))
abbrev Zni (a0:Int):=(wr IntKind.u32 (Zbt a0))
abbrev Z6e (a0:Int) (b0:Nat) (c0:Nat) (d0:Nat) (e0:Nat) (f0:Nat) (g0:Nat) (h0:List Nat):=(decide (Z0 a0)=true-> [Int.toNat X8%qCA8,Int.toNat (qCAr b0)%qCA8,Int.toNat (qCAr c0)%qCA8,Int.toNat (qCAr d0)%qCA8,Int.toNat (qCAr e0)%qCA8,Int.toNat (qCAr f0)%qCA8,Int.toNat (qCAr g0)%qCA8]=h0)
abbrev Znj (a0:Int):=(wr IntKind.u32 (qCAk a0))
abbrev Znk (a0:Int):=(wr IntKind.u32 (qCAf a0))
abbrev Znl (a0:Int):=(wr IntKind.u32 (qCAg a0))
abbrev Znm (a0:Int):=(wr IntKind.u32 (qCA9 a0))
abbrev Znn (a0:Int):=(wr IntKind.u32 (qCAl a0))
abbrev Zno (a0:Int):=(wr IntKind.u32 (qCAh a0))
abbrev Znp (a0:Int):=(wr IntKind.u32 (qCAi a0))
abbrev Znq (a0:Int):=(wr IntKind.u32 (qCAa a0))
abbrev Z6f (a0:Int):=(wr IntKind.u8 (wr IntKind.u32 (U4+wr IntKind.u32 (Int.tdiv (Zkp a0) qCA6))))
abbrev Z6g (a0:Int):=(wr IntKind.u8 (wr IntKind.u32 (U4+wr IntKind.u32 (Int.tdiv (Zkp a0) qCA4))))
abbrev Z6h (a0:Int):=(wr IntKind.u8 (wr IntKind.u32 (U4+wr IntKind.u32 (Int.tdiv (qCAb a0) qCA6))))
abbrev Z6i (a0:Int):=(wr IntKind.u8 (wr IntKind.u32 (U4+wr IntKind.u32 (Int.tdiv (qCAb a0) qCA4))))
abbrev Z6j (a0:Int):=(wr IntKind.u8 (wr IntKind.u32 (U4+wr IntKind.u32 (Int.tdiv (qCAe a0) qCA6))))
abbrev Z6k (a0:Int):=(wr IntKind.u8 (wr IntKind.u32 (U4+wr IntKind.u32 (Int.tdiv (qCAe a0) qCA4))))
abbrev Z6l (a0:Int):=(wr IntKind.u8 (wr IntKind.u32 (U4+wr IntKind.u32 (Int.tdiv (qCA7 a0) qCA6))))
abbrev Z6m (a0:Int):=(wr IntKind.u8 (wr IntKind.u32 (U4+wr IntKind.u32 (Int.tdiv (qCA7 a0) qCA4))))
abbrev Z6n (a0:Int):=(wr IntKind.u8 (wr IntKind.u32 (U4+wr IntKind.u32 (wr IntKind.u64 a0))))
abbrev Z6o (a0:Int) (b0:Nat) (c0:Nat) (d0:Nat) (e0:Nat) (f0:List Nat):=(decide (Z0 a0)=true-> [Int.toNat X8%qCA8,Int.toNat (qCAr b0)%qCA8,Int.toNat (qCAr c0)%qCA8,Int.toNat (qCAr d0)%qCA8,Int.toNat (qCAr e0)%qCA8]=f0)
abbrev Z6p (a0:Int) (b0:Nat) (c0:Nat) (d0:Nat) (e0:Nat) (f0:Nat) (g0:Nat) (h0:List Nat):=(decide (Z0 a0)=false-> [Int.toNat (qCAr b0)%qCA8,Int.toNat (qCAr c0)%qCA8,Int.toNat (qCAr d0)%qCA8,Int.toNat (qCAr e0)%qCA8,Int.toNat (qCAr f0)%qCA8,Int.toNat (qCAr g0)%qCA8]=h0)
theorem Zx4 (n:Int) (v:List Nat):Zh E Fit (vc E Fit 2000) 117 [.int false .i64 n] hp0 0 (fun r=>ret E (patch hp0 0 r) r.v (.str false v))=(
 ∃(Q:Bool->Prop),((decide (qCAo<=n)=true->(decide (n<qCA6)=true->Q true)/\(decide (n<qCA6)=false->Q false))/\(decide (qCAo<=n)=false->Q false))/\(Q true->(qCAo<=n/\n+qCAd<=qCA6)/\∀(y:List Nat),y=List.map UInt8.toNat (Lib.itoa n)->y=v)/\(Q false->(decide (Z0 n)=true->(qCAd<=wr IntKind.u64 (qCAo-wr IntKind.u64 n)/\wr IntKind.u64 (qCAo-wr IntKind.u64 n)+qCAd<=(10000000000000:Int))/\((qCAz n)=qCAd->(decide (Z0 n)=true-> [Int.toNat X8%qCA8,Int.toNat (wr IntKind.u8 (wr IntKind.u32 (U4+wr IntKind.u32 (qCA3 n))))%qCA8]=v)/\(decide (Z0 n)=false-> [Int.toNat (wr IntKind.u8 (wr IntKind.u32 (U4+wr IntKind.u32 (qCA3 n))))%qCA8]=v))/\((qCAz n)=qCAc->qCAo<=wr IntKind.u32 (Zm4 n)/\wr IntKind.u32 (Zm4 n)+qCAd<=qCA5/\∀(x:Nat),smT[Int.toNat (wr IntKind.u32 (Zm4 n))]? =some x->qCAo<=wr IntKind.u32 (qCAw n)/\wr IntKind.u32 (qCAw n)+qCAd<=qCA5/\∀(x_1:Nat),smT[Int.toNat (wr IntKind.u32 (qCAw n))]? =some x_1->(decide (Z0 n)=true-> [Int.toNat X8%qCA8,Int.toNat (qCAr x_1)%qCA8,Int.toNat (qCAr x)%qCA8]=v)/\(decide (Z0 n)=false-> [Int.toNat (qCAr x_1)%qCA8,Int.toNat (qCAr x)%qCA8]=v))/\((qCAz n)=(3:Int)->qCAo<=wr IntKind.u32 (Zm4 n)/\wr IntKind.u32 (Zm4 n)+qCAd<=qCA5/\∀(x:Nat),smT[Int.toNat (wr IntKind.u32 (Zm4 n))]? =some x->qCAo<=wr IntKind.u32 (qCAw n)/\wr IntKind.u32 (qCAw n)+qCAd<=qCA5/\∀(x_1:Nat),smT[Int.toNat (wr IntKind.u32 (qCAw n))]? =some x_1->(decide (Z0 n)=true-> [Int.toNat X8%qCA8,Int.toNat (Z6f n)%qCA8,Int.toNat (qCAr x_1)%qCA8,Int.toNat (qCAr x)%qCA8]=v)/\(decide (Z0 n)=false-> [Int.toNat (Z6f n)%qCA8,Int.toNat (qCAr x_1)%qCA8,Int.toNat (qCAr x)%qCA8]=v))/\((qCAz n)=(4:Int)->qCAo<=wr IntKind.u32 (Zcb n)/\wr IntKind.u32 (Zcb n)+qCAd<=qCA5/\∀(x:Nat),smT[Int.toNat (wr IntKind.u32 (Zcb n))]? =some x->qCAo<=wr IntKind.u32 (qCAm n)/\wr IntKind.u32 (qCAm n)+qCAd<=qCA5/\∀(x_1:Nat),smT[Int.toNat (wr IntKind.u32 (qCAm n))]? =some x_1->qCAo<=wr IntKind.u32 (Zcc n)/\wr IntKind.u32 (Zcc n)+qCAd<=qCA5/\∀(x_2:Nat),smT[Int.toNat (wr IntKind.u32 (Zcc n))]? =some x_2->qCAo<=wr IntKind.u32 (qCAj n)/\wr IntKind.u32 (qCAj n)+qCAd<=qCA5/\∀(x_3:Nat),smT[Int.toNat (wr IntKind.u32 (qCAj n))]? =some x_3->(Z6o n x_3 x_2 x_1 x v)/\(decide (Z0 n)=false-> [Int.toNat (qCAr x_3)%qCA8,Int.toNat (qCAr x_2)%qCA8,Int.toNat (qCAr x_1)%qCA8,Int.toNat (qCAr x)%qCA8]=v))/\((qCAz n)=(5:Int)->qCAo<=wr IntKind.u32 (Zcb n)/\wr IntKind.u32 (Zcb n)+qCAd<=qCA5/\∀(x:Nat),smT[Int.toNat (wr IntKind.u32 (Zcb n))]? =some x->qCAo<=wr IntKind.u32 (qCAm n)/\wr IntKind.u32 (qCAm n)+qCAd<=qCA5/\∀(x_1:Nat),smT[Int.toNat (wr IntKind.u32 (qCAm n))]? =some x_1->qCAo<=wr IntKind.u32 (Zcc n)/\wr IntKind.u32 (Zcc n)+qCAd<=qCA5/\∀(x_2:Nat),smT[Int.toNat (wr IntKind.u32 (Zcc n))]? =some x_2->qCAo<=wr IntKind.u32 (qCAj n)/\wr IntKind.u32 (qCAj n)+qCAd<=qCA5/\∀(x_3:Nat),smT[Int.toNat (wr IntKind.u32 (qCAj n))]? =some x_3->(decide (Z0 n)=true-> [Int.toNat X8%qCA8,Int.toNat (Z6g n)%qCA8,Int.toNat (qCAr x_3)%qCA8,Int.toNat (qCAr x_2)%qCA8,Int.toNat (qCAr x_1)%qCA8,Int.toNat (qCAr x)%qCA8]=v)/\(decide (Z0 n)=false-> [Int.toNat (Z6g n)%qCA8,Int.toNat (qCAr x_3)%qCA8,Int.toNat (qCAr x_2)%qCA8,Int.toNat (qCAr x_1)%qCA8,Int.toNat (qCAr x)%qCA8]=v))/\((qCAz n)=(6:Int)->qCAo<=wr IntKind.u32 (Zcb n)/\wr IntKind.u32 (Zcb n)+qCAd<=qCA5/\∀(x:Nat),smT[Int.toNat (wr IntKind.u32 (Zcb n))]? =some x->qCAo<=wr IntKind.u32 (qCAm n)/\wr IntKind.u32 (qCAm n)+qCAd<=qCA5/\∀(x_1:Nat),smT[Int.toNat (wr IntKind.u32 (qCAm n))]? =some x_1->qCAo<=wr IntKind.u32 (Zcc n)/\wr IntKind.u32 (Zcc n)+qCAd<=qCA5/\∀(x_2:Nat),smT[Int.toNat (wr IntKind.u32
(Zcc n))]? =some x_2->qCAo<=wr IntKind.u32 (qCAj n)/\wr IntKind.u32 (qCAj n)+qCAd<=qCA5/\∀(x_3:Nat),smT[Int.toNat (wr IntKind.u32 (qCAj n))]? =some x_3->qCAo<=wr IntKind.u32 (Zm5 n)/\wr IntKind.u32 (Zm5 n)+qCAd<=qCA5/\∀(x_4:Nat),smT[Int.toNat (wr IntKind.u32 (Zm5 n))]? =some x_4->qCAo<=wr IntKind.u32 (qCAq n)/\wr IntKind.u32 (qCAq n)+qCAd<=qCA5/\∀(x_5:Nat),smT[Int.toNat (wr IntKind.u32 (qCAq n))]? =some x_5->(Z6e n x_5 x_4 x_3 x_2 x_1 x v)/\(Z6p n x_5 x_4 x_3 x_2 x_1 x v))/\((qCAz n)=(7:Int)->qCAo<=wr IntKind.u32 (Zcb n)/\wr IntKind.u32 (Zcb n)+qCAd<=qCA5/\∀(x:Nat),smT[Int.toNat (wr IntKind.u32 (Zcb n))]? =some x->qCAo<=wr IntKind.u32 (qCAm n)/\wr IntKind.u32 (qCAm n)+qCAd<=qCA5/\∀(x_1:Nat),smT[Int.toNat (wr IntKind.u32 (qCAm n))]? =some x_1->qCAo<=wr IntKind.u32 (Zcc n)/\wr IntKind.u32 (Zcc n)+qCAd<=qCA5/\∀(x_2:Nat),smT[Int.toNat (wr IntKind.u32 (Zcc n))]? =some x_2->qCAo<=wr IntKind.u32 (qCAj n)/\wr IntKind.u32 (qCAj n)+qCAd<=qCA5/\∀(x_3:Nat),smT[Int.toNat (wr IntKind.u32 (qCAj n))]? =some x_3->qCAo<=wr IntKind.u32 (Zm5 n)/\wr IntKind.u32 (Zm5 n)+qCAd<=qCA5/\∀(x_4:Nat),smT[Int.toNat (wr IntKind.u32 (Zm5 n))]? =some x_4->qCAo<=wr IntKind.u32 (qCAq n)/\wr IntKind.u32 (qCAq n)+qCAd<=qCA5/\∀(x_5:Nat),smT[Int.toNat (wr IntKind.u32 (qCAq n))]? =some x_5->(decide (Z0 n)=true-> [Int.toNat X8%qCA8,Int.toNat (Z6b n)%qCA8,Int.toNat (qCAr x_5)%qCA8,Int.toNat (qCAr x_4)%qCA8,Int.toNat (qCAr x_3)%qCA8,Int.toNat (qCAr x_2)%qCA8,Int.toNat (qCAr x_1)%qCA8,Int.toNat (qCAr x)%qCA8]=v)/\(decide (Z0 n)=false-> [Int.toNat (Z6b n)%qCA8,Int.toNat (qCAr x_5)%qCA8,Int.toNat (qCAr x_4)%qCA8,Int.toNat (qCAr x_3)%qCA8,Int.toNat (qCAr x_2)%qCA8,Int.toNat (qCAr x_1)%qCA8,Int.toNat (qCAr x)%qCA8]=v))/\((qCAz n)=(8:Int)->qCAo<=wr IntKind.u32 (Zbm n)/\wr IntKind.u32 (Zbm n)+qCAd<=qCA5/\∀(x:Nat),smT[Int.toNat (Znb n)]? =some x->qCAo<=wr IntKind.u32 (qCAk n)/\wr IntKind.u32 (qCAk n)+qCAd<=qCA5/\∀(x_1:Nat),smT[Int.toNat (Znj n)]? =some x_1->qCAo<=wr IntKind.u32 (Zbn n)/\wr IntKind.u32 (Zbn n)+qCAd<=qCA5/\∀(x_2:Nat),smT[Int.toNat (Znc n)]? =some x_2->qCAo<=wr IntKind.u32 (qCAf n)/\wr IntKind.u32 (qCAf n)+qCAd<=qCA5/\∀(x_3:Nat),smT[Int.toNat (Znk n)]? =some x_3->qCAo<=wr IntKind.u32 (Zbo n)/\wr IntKind.u32 (Zbo n)+qCAd<=qCA5/\∀(x_4:Nat),smT[Int.toNat (Znd n)]? =some x_4->qCAo<=wr IntKind.u32 (qCAg n)/\wr IntKind.u32 (qCAg n)+qCAd<=qCA5/\∀(x_5:Nat),smT[Int.toNat (Znl n)]? =some x_5->qCAo<=wr IntKind.u32 (Zbp n)/\wr IntKind.u32 (Zbp n)+qCAd<=qCA5/\∀(x_6:Nat),smT[Int.toNat (Zne n)]? =some x_6->qCAo<=wr IntKind.u32 (qCA9 n)/\wr IntKind.u32 (qCA9 n)+qCAd<=qCA5/\∀(x_7:Nat),smT[Int.toNat (Znm n)]? =some x_7->(decide (Z0 n)=true-> [Int.toNat X8%qCA8,Int.toNat (qCAr x_7)%qCA8,Int.toNat (qCAr x_6)%qCA8,Int.toNat (qCAr x_5)%qCA8,Int.toNat (qCAr x_4)%qCA8,Int.toNat (qCAr x_3)%qCA8,Int.toNat (qCAr x_2)%qCA8,Int.toNat (qCAr x_1)%qCA8,Int.toNat (qCAr x)%qCA8]=v)/\(decide (Z0 n)=false-> [Int.toNat (qCAr x_7)%qCA8,Int.toNat (qCAr x_6)%qCA8,Int.toNat (qCAr x_5)%qCA8,Int.toNat (qCAr x_4)%qCA8,Int.toNat (qCAr x_3)%qCA8,Int.toNat (qCAr x_2)%qCA8,Int.toNat (qCAr x_1)%qCA8,Int.toNat (qCAr x)%qCA8]=v))/\((qCAz n)=(9:Int)->qCAo<=wr IntKind.u32 (Zbm n)/\wr IntKind.u32 (Zbm n)+qCAd<=qCA5/\∀(x:Nat),smT[Int.toNat (Znb n)]? =some x->qCAo<=wr IntKind.u32 (qCAk n)/\wr IntKind.u32 (qCAk n)+qCAd<=qCA5/\∀(x_1:Nat),smT[Int.toNat (Znj n)]? =some x_1->qCAo<=wr IntKind.u32 (Zbn n)/\wr IntKind.u32 (Zbn n)+qCAd<=qCA5/\∀(x_2:Nat),smT[Int.toNat (Znc n)]? =some x_2->qCAo<=wr IntKind.u32 (qCAf n)/\wr IntKind.u32 (qCAf n)+qCAd<=qCA5/\∀(x_3:
Nat),smT[Int.toNat (Znk n)]? =some x_3->qCAo<=wr IntKind.u32 (Zbo n)/\wr IntKind.u32 (Zbo n)+qCAd<=qCA5/\∀(x_4:Nat),smT[Int.toNat (Znd n)]? =some x_4->qCAo<=wr IntKind.u32 (qCAg n)/\wr IntKind.u32 (qCAg n)+qCAd<=qCA5/\∀(x_5:Nat),smT[Int.toNat (Znl n)]? =some x_5->qCAo<=wr IntKind.u32 (Zbp n)/\wr IntKind.u32 (Zbp n)+qCAd<=qCA5/\∀(x_6:Nat),smT[Int.toNat (Zne n)]? =some x_6->qCAo<=wr IntKind.u32 (qCA9 n)/\wr IntKind.u32 (qCA9 n)+qCAd<=qCA5/\∀(x_7:Nat),smT[Int.toNat (Znm n)]? =some x_7->(decide (Z0 n)=true-> [Int.toNat X8%qCA8,Int.toNat (Z6d n)%qCA8,Int.toNat (qCAr x_7)%qCA8,Int.toNat (qCAr x_6)%qCA8,Int.toNat (qCAr x_5)%qCA8,Int.toNat (qCAr x_4)%qCA8,Int.toNat (qCAr x_3)%qCA8,Int.toNat (qCAr x_2)%qCA8,Int.toNat (qCAr x_1)%qCA8,Int.toNat (qCAr x)%qCA8]=v)/\(decide (Z0 n)=false-> [Int.toNat (Z6d n)%qCA8,Int.toNat (qCAr x_7)%qCA8,Int.toNat (qCAr x_6)%qCA8,Int.toNat (qCAr x_5)%qCA8,Int.toNat (qCAr x_4)%qCA8,Int.toNat (qCAr x_3)%qCA8,Int.toNat (qCAr x_2)%qCA8,Int.toNat (qCAr x_1)%qCA8,Int.toNat (qCAr x)%qCA8]=v))/\((qCAz n)=(10:Int)->qCAo<=wr IntKind.u32 (Zbm n)/\wr IntKind.u32 (Zbm n)+qCAd<=qCA5/\∀(x:Nat),smT[Int.toNat (Znb n)]? =some x->qCAo<=wr IntKind.u32 (qCAk n)/\wr IntKind.u32 (qCAk n)+qCAd<=qCA5/\∀(x_1:Nat),smT[Int.toNat (Znj n)]? =some x_1->qCAo<=wr IntKind.u32 (Zbn n)/\wr IntKind.u32 (Zbn n)+qCAd<=qCA5/\∀(x_2:Nat),smT[Int.toNat (Znc n)]? =some x_2->qCAo<=wr IntKind.u32 (qCAf n)/\wr IntKind.u32 (qCAf n)+qCAd<=qCA5/\∀(x_3:Nat),smT[Int.toNat (Znk n)]? =some x_3->qCAo<=wr IntKind.u32 (Zbo n)/\wr IntKind.u32 (Zbo n)+qCAd<=qCA5/\∀(x_4:Nat),smT[Int.toNat (Znd n)]? =some x_4->qCAo<=wr IntKind.u32 (qCAg n)/\wr IntKind.u32 (qCAg n)+qCAd<=qCA5/\∀(x_5:Nat),smT[Int.toNat (Znl n)]? =some x_5->qCAo<=wr IntKind.u32 (Zbp n)/\wr IntKind.u32 (Zbp n)+qCAd<=qCA5/\∀(x_6:Nat),smT[Int.toNat (Zne n)]? =some x_6->qCAo<=wr IntKind.u32 (qCA9 n)/\wr IntKind.u32 (qCA9 n)+qCAd<=qCA5/\∀(x_7:Nat),smT[Int.toNat (Znm n)]? =some x_7->qCAo<=wr IntKind.u32 (Zm1 n)/\wr IntKind.u32 (Zm1 n)+qCAd<=qCA5/\∀(x_8:Nat),smT[Int.toNat (wr IntKind.u32 (Zm1 n))]? =some x_8->qCAo<=wr IntKind.u32 (Zkq n)/\wr IntKind.u32 (Zkq n)+qCAd<=qCA5/\∀(x_9:Nat),smT[Int.toNat (wr IntKind.u32 (Zkq n))]? =some x_9->(decide (Z0 n)=true-> [Int.toNat X8%qCA8,Int.toNat (qCAr x_9)%qCA8,Int.toNat (qCAr x_8)%qCA8,Int.toNat (qCAr x_7)%qCA8,Int.toNat (qCAr x_6)%qCA8,Int.toNat (qCAr x_5)%qCA8,Int.toNat (qCAr x_4)%qCA8,Int.toNat (qCAr x_3)%qCA8,Int.toNat (qCAr x_2)%qCA8,Int.toNat (qCAr x_1)%qCA8,Int.toNat (qCAr x)%qCA8]=v)/\(decide (Z0 n)=false-> [Int.toNat (qCAr x_9)%qCA8,Int.toNat (qCAr x_8)%qCA8,Int.toNat (qCAr x_7)%qCA8,Int.toNat (qCAr x_6)%qCA8,Int.toNat (qCAr x_5)%qCA8,Int.toNat (qCAr x_4)%qCA8,Int.toNat (qCAr x_3)%qCA8,Int.toNat (qCAr x_2)%qCA8,Int.toNat (qCAr x_1)%qCA8,Int.toNat (qCAr x)%qCA8]=v))/\((qCAz n)=(11:Int)->qCAo<=wr IntKind.u32 (Zbm n)/\wr IntKind.u32 (Zbm n)+qCAd<=qCA5/\∀(x:Nat),smT[Int.toNat (Znb n)]? =some x->qCAo<=wr IntKind.u32 (qCAk n)/\wr IntKind.u32 (qCAk n)+qCAd<=qCA5/\∀(x_1:Nat),smT[Int.toNat (Znj n)]? =some x_1->qCAo<=wr IntKind.u32 (Zbn n)/\wr IntKind.u32 (Zbn n)+qCAd<=qCA5/\∀(x_2:Nat),smT[Int.toNat (Znc n)]? =some x_2->qCAo<=wr IntKind.u32 (qCAf n)/\wr IntKind.u32 (qCAf n)+qCAd<=qCA5/\∀(x_3:Nat),smT[Int.toNat (Znk n)]? =some x_3->qCAo<=wr IntKind.u32 (Zbo n)/\wr IntKind.u32 (Zbo n)+qCAd<=qCA5/\∀(x_4:Nat),smT[Int.toNat (Znd n)]? =some x_4->qCAo<=wr IntKind.u32 (qCAg n)/\wr IntKind.u32 (qCAg n)+qCAd<=qCA5/\∀(x_5:Nat),smT[Int.toNat (Znl n)]? =some x_5->qCAo<=wr IntKind.u32 (Zbp n)/\
wr IntKind.u32 (Zbp n)+qCAd<=qCA5/\∀(x_6:Nat),smT[Int.toNat (Zne n)]? =some x_6->qCAo<=wr IntKind.u32 (qCA9 n)/\wr IntKind.u32 (qCA9 n)+qCAd<=qCA5/\∀(x_7:Nat),smT[Int.toNat (Znm n)]? =some x_7->qCAo<=wr IntKind.u32 (Zm1 n)/\wr IntKind.u32 (Zm1 n)+qCAd<=qCA5/\∀(x_8:Nat),smT[Int.toNat (wr IntKind.u32 (Zm1 n))]? =some x_8->qCAo<=wr IntKind.u32 (Zkq n)/\wr IntKind.u32 (Zkq n)+qCAd<=qCA5/\∀(x_9:Nat),smT[Int.toNat (wr IntKind.u32 (Zkq n))]? =some x_9->(decide (Z0 n)=true-> [Int.toNat X8%qCA8,Int.toNat (Z6h n)%qCA8,Int.toNat (qCAr x_9)%qCA8,Int.toNat (qCAr x_8)%qCA8,Int.toNat (qCAr x_7)%qCA8,Int.toNat (qCAr x_6)%qCA8,Int.toNat (qCAr x_5)%qCA8,Int.toNat (qCAr x_4)%qCA8,Int.toNat (qCAr x_3)%qCA8,Int.toNat (qCAr x_2)%qCA8,Int.toNat (qCAr x_1)%qCA8,Int.toNat (qCAr x)%qCA8]=v)/\(decide (Z0 n)=false-> [Int.toNat (Z6h n)%qCA8,Int.toNat (qCAr x_9)%qCA8,Int.toNat (qCAr x_8)%qCA8,Int.toNat (qCAr x_7)%qCA8,Int.toNat (qCAr x_6)%qCA8,Int.toNat (qCAr x_5)%qCA8,Int.toNat (qCAr x_4)%qCA8,Int.toNat (qCAr x_3)%qCA8,Int.toNat (qCAr x_2)%qCA8,Int.toNat (qCAr x_1)%qCA8,Int.toNat (qCAr x)%qCA8]=v))/\((qCAz n)=(12:Int)->qCAo<=wr IntKind.u32 (Zbm n)/\wr IntKind.u32 (Zbm n)+qCAd<=qCA5/\∀(x:Nat),smT[Int.toNat (Znb n)]? =some x->qCAo<=wr IntKind.u32 (qCAk n)/\wr IntKind.u32 (qCAk n)+qCAd<=qCA5/\∀(x_1:Nat),smT[Int.toNat (Znj n)]? =some x_1->qCAo<=wr IntKind.u32 (Zbn n)/\wr IntKind.u32 (Zbn n)+qCAd<=qCA5/\∀(x_2:Nat),smT[Int.toNat (Znc n)]? =some x_2->qCAo<=wr IntKind.u32 (qCAf n)/\wr IntKind.u32 (qCAf n)+qCAd<=qCA5/\∀(x_3:Nat),smT[Int.toNat (Znk n)]? =some x_3->qCAo<=wr IntKind.u32 (Zbo n)/\wr IntKind.u32 (Zbo n)+qCAd<=qCA5/\∀(x_4:Nat),smT[Int.toNat (Znd n)]? =some x_4->qCAo<=wr IntKind.u32 (qCAg n)/\wr IntKind.u32 (qCAg n)+qCAd<=qCA5/\∀(x_5:Nat),smT[Int.toNat (Znl n)]? =some x_5->qCAo<=wr IntKind.u32 (Zbp n)/\wr IntKind.u32 (Zbp n)+qCAd<=qCA5/\∀(x_6:Nat),smT[Int.toNat (Zne n)]? =some x_6->qCAo<=wr IntKind.u32 (qCA9 n)/\wr IntKind.u32 (qCA9 n)+qCAd<=qCA5/\∀(x_7:Nat),smT[Int.toNat (Znm n)]? =some x_7->qCAo<=wr IntKind.u32 (Zm6 n)/\wr IntKind.u32 (Zm6 n)+qCAd<=qCA5/\∀(x_8:Nat),smT[Int.toNat (wr IntKind.u32 (Zm6 n))]? =some x_8->qCAo<=wr IntKind.u32 (qCAx n)/\wr IntKind.u32 (qCAx n)+qCAd<=qCA5/\∀(x_9:Nat),smT[Int.toNat (wr IntKind.u32 (qCAx n))]? =some x_9->qCAo<=wr IntKind.u32 (Zm7 n)/\wr IntKind.u32 (Zm7 n)+qCAd<=qCA5/\∀(x_10:Nat),smT[Int.toNat (wr IntKind.u32 (Zm7 n))]? =some x_10->qCAo<=wr IntKind.u32 (qCAs n)/\wr IntKind.u32 (qCAs n)+qCAd<=qCA5/\∀(x_11:Nat),smT[Int.toNat (wr IntKind.u32 (qCAs n))]? =some x_11->(decide (Z0 n)=true-> [Int.toNat X8%qCA8,Int.toNat (qCAr x_11)%qCA8,Int.toNat (qCAr x_10)%qCA8,Int.toNat (qCAr x_9)%qCA8,Int.toNat (qCAr x_8)%qCA8,Int.toNat (qCAr x_7)%qCA8,Int.toNat (qCAr x_6)%qCA8,Int.toNat (qCAr x_5)%qCA8,Int.toNat (qCAr x_4)%qCA8,Int.toNat (qCAr x_3)%qCA8,Int.toNat (qCAr x_2)%qCA8,Int.toNat (qCAr x_1)%qCA8,Int.toNat (qCAr x)%qCA8]=v)/\(decide (Z0 n)=false-> [Int.toNat (qCAr x_11)%qCA8,Int.toNat (qCAr x_10)%qCA8,Int.toNat (qCAr x_9)%qCA8,Int.toNat (qCAr x_8)%qCA8,Int.toNat (qCAr x_7)%qCA8,Int.toNat (qCAr x_6)%qCA8,Int.toNat (qCAr x_5)%qCA8,Int.toNat (qCAr x_4)%qCA8,Int.toNat (qCAr x_3)%qCA8,Int.toNat (qCAr x_2)%qCA8,Int.toNat (qCAr x_1)%qCA8,Int.toNat (qCAr x)%qCA8]=v))/\((qCAz n)=(13:Int)->qCAo<=wr IntKind.u32 (Zbm n)/\wr IntKind.u32 (Zbm n)+qCAd<=qCA5/\∀(x:Nat),smT[Int.toNat (Znb n)]? =some x->qCAo<=wr IntKind.u32 (qCAk n)/\wr IntKind.u32 (qCAk n)+qCAd<=qCA5/\∀(x_1:Nat),smT[Int.toNat (Znj n)]? =some x_1->qCAo<=wr IntKind.u32 (Zbn n)/\wr IntKind.u32 (Zbn n)+
qCAd<=qCA5/\∀(x_2:Nat),smT[Int.toNat (Znc n)]? =some x_2->qCAo<=wr IntKind.u32 (qCAf n)/\wr IntKind.u32 (qCAf n)+qCAd<=qCA5/\∀(x_3:Nat),smT[Int.toNat (Znk n)]? =some x_3->qCAo<=wr IntKind.u32 (Zbo n)/\wr IntKind.u32 (Zbo n)+qCAd<=qCA5/\∀(x_4:Nat),smT[Int.toNat (Znd n)]? =some x_4->qCAo<=wr IntKind.u32 (qCAg n)/\wr IntKind.u32 (qCAg n)+qCAd<=qCA5/\∀(x_5:Nat),smT[Int.toNat (Znl n)]? =some x_5->qCAo<=wr IntKind.u32 (Zbp n)/\wr IntKind.u32 (Zbp n)+qCAd<=qCA5/\∀(x_6:Nat),smT[Int.toNat (Zne n)]? =some x_6->qCAo<=wr IntKind.u32 (qCA9 n)/\wr IntKind.u32 (qCA9 n)+qCAd<=qCA5/\∀(x_7:Nat),smT[Int.toNat (Znm n)]? =some x_7->qCAo<=wr IntKind.u32 (Zm6 n)/\wr IntKind.u32 (Zm6 n)+qCAd<=qCA5/\∀(x_8:Nat),smT[Int.toNat (wr IntKind.u32 (Zm6 n))]? =some x_8->qCAo<=wr IntKind.u32 (qCAx n)/\wr IntKind.u32 (qCAx n)+qCAd<=qCA5/\∀(x_9:Nat),smT[Int.toNat (wr IntKind.u32 (qCAx n))]? =some x_9->qCAo<=wr IntKind.u32 (Zm7 n)/\wr IntKind.u32 (Zm7 n)+qCAd<=qCA5/\∀(x_10:Nat),smT[Int.toNat (wr IntKind.u32 (Zm7 n))]? =some x_10->qCAo<=wr IntKind.u32 (qCAs n)/\wr IntKind.u32 (qCAs n)+qCAd<=qCA5/\∀(x_11:Nat),smT[Int.toNat (wr IntKind.u32 (qCAs n))]? =some x_11->(decide (Z0 n)=true-> [Int.toNat X8%qCA8,Int.toNat (Z6i n)%qCA8,Int.toNat (qCAr x_11)%qCA8,Int.toNat (qCAr x_10)%qCA8,Int.toNat (qCAr x_9)%qCA8,Int.toNat (qCAr x_8)%qCA8,Int.toNat (qCAr x_7)%qCA8,Int.toNat (qCAr x_6)%qCA8,Int.toNat (qCAr x_5)%qCA8,Int.toNat (qCAr x_4)%qCA8,Int.toNat (qCAr x_3)%qCA8,Int.toNat (qCAr x_2)%qCA8,Int.toNat (qCAr x_1)%qCA8,Int.toNat (qCAr x)%qCA8]=v)/\(decide (Z0 n)=false-> [Int.toNat (Z6i n)%qCA8,Int.toNat (qCAr x_11)%qCA8,Int.toNat (qCAr x_10)%qCA8,Int.toNat (qCAr x_9)%qCA8,Int.toNat (qCAr x_8)%qCA8,Int.toNat (qCAr x_7)%qCA8,Int.toNat (qCAr x_6)%qCA8,Int.toNat (qCAr x_5)%qCA8,Int.toNat (qCAr x_4)%qCA8,Int.toNat (qCAr x_3)%qCA8,Int.toNat (qCAr x_2)%qCA8,Int.toNat (qCAr x_1)%qCA8,Int.toNat (qCAr x)%qCA8]=v))/\True)/\(decide (Z0 n)=false->(qCAd<=wr IntKind.u64 n/\wr IntKind.u64 n+qCAd<=(10000000000000:Int))/\((qCAv n)=qCAd->(decide (Z0 n)=true-> [Int.toNat X8%qCA8,Int.toNat (Z6n n)%qCA8]=v)/\(decide (Z0 n)=false-> [Int.toNat (Z6n n)%qCA8]=v))/\((qCAv n)=qCAc->qCAo<=wr IntKind.u32 (Zm2 n)/\wr IntKind.u32 (Zm2 n)+qCAd<=qCA5/\∀(x:Nat),smT[Int.toNat (wr IntKind.u32 (Zm2 n))]? =some x->qCAo<=wr IntKind.u32 (Zkr n)/\wr IntKind.u32 (Zkr n)+qCAd<=qCA5/\∀(x_1:Nat),smT[Int.toNat (wr IntKind.u32 (Zkr n))]? =some x_1->(decide (Z0 n)=true-> [Int.toNat X8%qCA8,Int.toNat (qCAr x_1)%qCA8,Int.toNat (qCAr x)%qCA8]=v)/\(decide (Z0 n)=false-> [Int.toNat (qCAr x_1)%qCA8,Int.toNat (qCAr x)%qCA8]=v))/\((qCAv n)=(3:Int)->qCAo<=wr IntKind.u32 (Zm2 n)/\wr IntKind.u32 (Zm2 n)+qCAd<=qCA5/\∀(x:Nat),smT[Int.toNat (wr IntKind.u32 (Zm2 n))]? =some x->qCAo<=wr IntKind.u32 (Zkr n)/\wr IntKind.u32 (Zkr n)+qCAd<=qCA5/\∀(x_1:Nat),smT[Int.toNat (wr IntKind.u32 (Zkr n))]? =some x_1->(decide (Z0 n)=true-> [Int.toNat X8%qCA8,Int.toNat (Z6j n)%qCA8,Int.toNat (qCAr x_1)%qCA8,Int.toNat (qCAr x)%qCA8]=v)/\(decide (Z0 n)=false-> [Int.toNat (Z6j n)%qCA8,Int.toNat (qCAr x_1)%qCA8,Int.toNat (qCAr x)%qCA8]=v))/\((qCAv n)=(4:Int)->qCAo<=wr IntKind.u32 (Zcd n)/\wr IntKind.u32 (Zcd n)+qCAd<=qCA5/\∀(x:Nat),smT[Int.toNat (wr IntKind.u32 (Zcd n))]? =some x->qCAo<=wr IntKind.u32 (qCAp n)/\wr IntKind.u32 (qCAp n)+qCAd<=qCA5/\∀(x_1:Nat),smT[Int.toNat (wr IntKind.u32 (qCAp n))]? =some x_1->qCAo<=wr IntKind.u32 (Zce n)/\wr IntKind.u32 (Zce n)+qCAd<=qCA5/\∀(x_2:Nat),smT[Int.toNat (wr IntKind.u32 (Zce n))]? =some x_2->qCAo<=wr IntKind.u32 (qCAn n)
/\wr IntKind.u32 (qCAn n)+qCAd<=qCA5/\∀(x_3:Nat),smT[Int.toNat (wr IntKind.u32 (qCAn n))]? =some x_3->(Z6o n x_3 x_2 x_1 x v)/\(decide (Z0 n)=false-> [Int.toNat (qCAr x_3)%qCA8,Int.toNat (qCAr x_2)%qCA8,Int.toNat (qCAr x_1)%qCA8,Int.toNat (qCAr x)%qCA8]=v))/\((qCAv n)=(5:Int)->qCAo<=wr IntKind.u32 (Zcd n)/\wr IntKind.u32 (Zcd n)+qCAd<=qCA5/\∀(x:Nat),smT[Int.toNat (wr IntKind.u32 (Zcd n))]? =some x->qCAo<=wr IntKind.u32 (qCAp n)/\wr IntKind.u32 (qCAp n)+qCAd<=qCA5/\∀(x_1:Nat),smT[Int.toNat (wr IntKind.u32 (qCAp n))]? =some x_1->qCAo<=wr IntKind.u32 (Zce n)/\wr IntKind.u32 (Zce n)+qCAd<=qCA5/\∀(x_2:Nat),smT[Int.toNat (wr IntKind.u32 (Zce n))]? =some x_2->qCAo<=wr IntKind.u32 (qCAn n)/\wr IntKind.u32 (qCAn n)+qCAd<=qCA5/\∀(x_3:Nat),smT[Int.toNat (wr IntKind.u32 (qCAn n))]? =some x_3->(decide (Z0 n)=true-> [Int.toNat X8%qCA8,Int.toNat (Z6k n)%qCA8,Int.toNat (qCAr x_3)%qCA8,Int.toNat (qCAr x_2)%qCA8,Int.toNat (qCAr x_1)%qCA8,Int.toNat (qCAr x)%qCA8]=v)/\(decide (Z0 n)=false-> [Int.toNat (Z6k n)%qCA8,Int.toNat (qCAr x_3)%qCA8,Int.toNat (qCAr x_2)%qCA8,Int.toNat (qCAr x_1)%qCA8,Int.toNat (qCAr x)%qCA8]=v))/\((qCAv n)=(6:Int)->qCAo<=wr IntKind.u32 (Zcd n)/\wr IntKind.u32 (Zcd n)+qCAd<=qCA5/\∀(x:Nat),smT[Int.toNat (wr IntKind.u32 (Zcd n))]? =some x->qCAo<=wr IntKind.u32 (qCAp n)/\wr IntKind.u32 (qCAp n)+qCAd<=qCA5/\∀(x_1:Nat),smT[Int.toNat (wr IntKind.u32 (qCAp n))]? =some x_1->qCAo<=wr IntKind.u32 (Zce n)/\wr IntKind.u32 (Zce n)+qCAd<=qCA5/\∀(x_2:Nat),smT[Int.toNat (wr IntKind.u32 (Zce n))]? =some x_2->qCAo<=wr IntKind.u32 (qCAn n)/\wr IntKind.u32 (qCAn n)+qCAd<=qCA5/\∀(x_3:Nat),smT[Int.toNat (wr IntKind.u32 (qCAn n))]? =some x_3->qCAo<=wr IntKind.u32 (Zm8 n)/\wr IntKind.u32 (Zm8 n)+qCAd<=qCA5/\∀(x_4:Nat),smT[Int.toNat (wr IntKind.u32 (Zm8 n))]? =some x_4->qCAo<=wr IntKind.u32 (qCAt n)/\wr IntKind.u32 (qCAt n)+qCAd<=qCA5/\∀(x_5:Nat),smT[Int.toNat (wr IntKind.u32 (qCAt n))]? =some x_5->(Z6e n x_5 x_4 x_3 x_2 x_1 x v)/\(Z6p n x_5 x_4 x_3 x_2 x_1 x v))/\((qCAv n)=(7:Int)->qCAo<=wr IntKind.u32 (Zcd n)/\wr IntKind.u32 (Zcd n)+qCAd<=qCA5/\∀(x:Nat),smT[Int.toNat (wr IntKind.u32 (Zcd n))]? =some x->qCAo<=wr IntKind.u32 (qCAp n)/\wr IntKind.u32 (qCAp n)+qCAd<=qCA5/\∀(x_1:Nat),smT[Int.toNat (wr IntKind.u32 (qCAp n))]? =some x_1->qCAo<=wr IntKind.u32 (Zce n)/\wr IntKind.u32 (Zce n)+qCAd<=qCA5/\∀(x_2:Nat),smT[Int.toNat (wr IntKind.u32 (Zce n))]? =some x_2->qCAo<=wr IntKind.u32 (qCAn n)/\wr IntKind.u32 (qCAn n)+qCAd<=qCA5/\∀(x_3:Nat),smT[Int.toNat (wr IntKind.u32 (qCAn n))]? =some x_3->qCAo<=wr IntKind.u32 (Zm8 n)/\wr IntKind.u32 (Zm8 n)+qCAd<=qCA5/\∀(x_4:Nat),smT[Int.toNat (wr IntKind.u32 (Zm8 n))]? =some x_4->qCAo<=wr IntKind.u32 (qCAt n)/\wr IntKind.u32 (qCAt n)+qCAd<=qCA5/\∀(x_5:Nat),smT[Int.toNat (wr IntKind.u32 (qCAt n))]? =some x_5->(decide (Z0 n)=true-> [Int.toNat X8%qCA8,Int.toNat (Z6c n)%qCA8,Int.toNat (qCAr x_5)%qCA8,Int.toNat (qCAr x_4)%qCA8,Int.toNat (qCAr x_3)%qCA8,Int.toNat (qCAr x_2)%qCA8,Int.toNat (qCAr x_1)%qCA8,Int.toNat (qCAr x)%qCA8]=v)/\(decide (Z0 n)=false-> [Int.toNat (Z6c n)%qCA8,Int.toNat (qCAr x_5)%qCA8,Int.toNat (qCAr x_4)%qCA8,Int.toNat (qCAr x_3)%qCA8,Int.toNat (qCAr x_2)%qCA8,Int.toNat (qCAr x_1)%qCA8,Int.toNat (qCAr x)%qCA8]=v))/\((qCAv n)=(8:Int)->qCAo<=wr IntKind.u32 (Zbq n)/\wr IntKind.u32 (Zbq n)+qCAd<=qCA5/\∀(x:Nat),smT[Int.toNat (Znf n)]? =some x->qCAo<=wr IntKind.u32 (qCAl n)/\wr IntKind.u32 (qCAl n)+qCAd<=qCA5/\∀(x_1:Nat),smT[Int.toNat (Znn n)]? =some x_1->qCAo<=wr IntKind.u32 (Zbr n)/\wr IntKind.u32 (Zbr n)+qCAd<=qCA5/\∀(x_2:Nat),smT[Int.toNat (Zng
n)]? =some x_2->qCAo<=wr IntKind.u32 (qCAh n)/\wr IntKind.u32 (qCAh n)+qCAd<=qCA5/\∀(x_3:Nat),smT[Int.toNat (Zno n)]? =some x_3->qCAo<=wr IntKind.u32 (Zbs n)/\wr IntKind.u32 (Zbs n)+qCAd<=qCA5/\∀(x_4:Nat),smT[Int.toNat (Znh n)]? =some x_4->qCAo<=wr IntKind.u32 (qCAi n)/\wr IntKind.u32 (qCAi n)+qCAd<=qCA5/\∀(x_5:Nat),smT[Int.toNat (Znp n)]? =some x_5->qCAo<=wr IntKind.u32 (Zbt n)/\wr IntKind.u32 (Zbt n)+qCAd<=qCA5/\∀(x_6:Nat),smT[Int.toNat (Zni n)]? =some x_6->qCAo<=wr IntKind.u32 (qCAa n)/\wr IntKind.u32 (qCAa n)+qCAd<=qCA5/\∀(x_7:Nat),smT[Int.toNat (Znq n)]? =some x_7->(decide (Z0 n)=true-> [Int.toNat X8%qCA8,Int.toNat (qCAr x_7)%qCA8,Int.toNat (qCAr x_6)%qCA8,Int.toNat (qCAr x_5)%qCA8,Int.toNat (qCAr x_4)%qCA8,Int.toNat (qCAr x_3)%qCA8,Int.toNat (qCAr x_2)%qCA8,Int.toNat (qCAr x_1)%qCA8,Int.toNat (qCAr x)%qCA8]=v)/\(decide (Z0 n)=false-> [Int.toNat (qCAr x_7)%qCA8,Int.toNat (qCAr x_6)%qCA8,Int.toNat (qCAr x_5)%qCA8,Int.toNat (qCAr x_4)%qCA8,Int.toNat (qCAr x_3)%qCA8,Int.toNat (qCAr x_2)%qCA8,Int.toNat (qCAr x_1)%qCA8,Int.toNat (qCAr x)%qCA8]=v))/\((qCAv n)=(9:Int)->qCAo<=wr IntKind.u32 (Zbq n)/\wr IntKind.u32 (Zbq n)+qCAd<=qCA5/\∀(x:Nat),smT[Int.toNat (Znf n)]? =some x->qCAo<=wr IntKind.u32 (qCAl n)/\wr IntKind.u32 (qCAl n)+qCAd<=qCA5/\∀(x_1:Nat),smT[Int.toNat (Znn n)]? =some x_1->qCAo<=wr IntKind.u32 (Zbr n)/\wr IntKind.u32 (Zbr n)+qCAd<=qCA5/\∀(x_2:Nat),smT[Int.toNat (Zng n)]? =some x_2->qCAo<=wr IntKind.u32 (qCAh n)/\wr IntKind.u32 (qCAh n)+qCAd<=qCA5/\∀(x_3:Nat),smT[Int.toNat (Zno n)]? =some x_3->qCAo<=wr IntKind.u32 (Zbs n)/\wr IntKind.u32 (Zbs n)+qCAd<=qCA5/\∀(x_4:Nat),smT[Int.toNat (Znh n)]? =some x_4->qCAo<=wr IntKind.u32 (qCAi n)/\wr IntKind.u32 (qCAi n)+qCAd<=qCA5/\∀(x_5:Nat),smT[Int.toNat (Znp n)]? =some x_5->qCAo<=wr IntKind.u32 (Zbt n)/\wr IntKind.u32 (Zbt n)+qCAd<=qCA5/\∀(x_6:Nat),smT[Int.toNat (Zni n)]? =some x_6->qCAo<=wr IntKind.u32 (qCAa n)/\wr IntKind.u32 (qCAa n)+qCAd<=qCA5/\∀(x_7:Nat),smT[Int.toNat (Znq n)]? =some x_7->(decide (Z0 n)=true-> [Int.toNat X8%qCA8,Int.toNat (Z6a n)%qCA8,Int.toNat (qCAr x_7)%qCA8,Int.toNat (qCAr x_6)%qCA8,Int.toNat (qCAr x_5)%qCA8,Int.toNat (qCAr x_4)%qCA8,Int.toNat (qCAr x_3)%qCA8,Int.toNat (qCAr x_2)%qCA8,Int.toNat (qCAr x_1)%qCA8,Int.toNat (qCAr x)%qCA8]=v)/\(decide (Z0 n)=false-> [Int.toNat (Z6a n)%qCA8,Int.toNat (qCAr x_7)%qCA8,Int.toNat (qCAr x_6)%qCA8,Int.toNat (qCAr x_5)%qCA8,Int.toNat (qCAr x_4)%qCA8,Int.toNat (qCAr x_3)%qCA8,Int.toNat (qCAr x_2)%qCA8,Int.toNat (qCAr x_1)%qCA8,Int.toNat (qCAr x)%qCA8]=v))/\((qCAv n)=(10:Int)->qCAo<=wr IntKind.u32 (Zbq n)/\wr IntKind.u32 (Zbq n)+qCAd<=qCA5/\∀(x:Nat),smT[Int.toNat (Znf n)]? =some x->qCAo<=wr IntKind.u32 (qCAl n)/\wr IntKind.u32 (qCAl n)+qCAd<=qCA5/\∀(x_1:Nat),smT[Int.toNat (Znn n)]? =some x_1->qCAo<=wr IntKind.u32 (Zbr n)/\wr IntKind.u32 (Zbr n)+qCAd<=qCA5/\∀(x_2:Nat),smT[Int.toNat (Zng n)]? =some x_2->qCAo<=wr IntKind.u32 (qCAh n)/\wr IntKind.u32 (qCAh n)+qCAd<=qCA5/\∀(x_3:Nat),smT[Int.toNat (Zno n)]? =some x_3->qCAo<=wr IntKind.u32 (Zbs n)/\wr IntKind.u32 (Zbs n)+qCAd<=qCA5/\∀(x_4:Nat),smT[Int.toNat (Znh n)]? =some x_4->qCAo<=wr IntKind.u32 (qCAi n)/\wr IntKind.u32 (qCAi n)+qCAd<=qCA5/\∀(x_5:Nat),smT[Int.toNat (Znp n)]? =some x_5->qCAo<=wr IntKind.u32 (Zbt n)/\wr IntKind.u32 (Zbt n)+qCAd<=qCA5/\∀(x_6:Nat),smT[Int.toNat (Zni n)]? =some x_6->qCAo<=wr IntKind.u32 (qCAa n)/\wr IntKind.u32 (qCAa n)+qCAd<=qCA5/\∀(x_7:Nat),smT[Int.toNat (Znq n)]? =some x_7->qCAo<=wr IntKind.u32 (Zm3 n)/\wr IntKind.u32 (Zm3 n)+qCAd<=qCA5/\∀(x_8:
Nat),smT[Int.toNat (wr IntKind.u32 (Zm3 n))]? =some x_8->qCAo<=wr IntKind.u32 (Zks n)/\wr IntKind.u32 (Zks n)+qCAd<=qCA5/\∀(x_9:Nat),smT[Int.toNat (wr IntKind.u32 (Zks n))]? =some x_9->(decide (Z0 n)=true-> [Int.toNat X8%qCA8,Int.toNat (qCAr x_9)%qCA8,Int.toNat (qCAr x_8)%qCA8,Int.toNat (qCAr x_7)%qCA8,Int.toNat (qCAr x_6)%qCA8,Int.toNat (qCAr x_5)%qCA8,Int.toNat (qCAr x_4)%qCA8,Int.toNat (qCAr x_3)%qCA8,Int.toNat (qCAr x_2)%qCA8,Int.toNat (qCAr x_1)%qCA8,Int.toNat (qCAr x)%qCA8]=v)/\(decide (Z0 n)=false-> [Int.toNat (qCAr x_9)%qCA8,Int.toNat (qCAr x_8)%qCA8,Int.toNat (qCAr x_7)%qCA8,Int.toNat (qCAr x_6)%qCA8,Int.toNat (qCAr x_5)%qCA8,Int.toNat (qCAr x_4)%qCA8,Int.toNat (qCAr x_3)%qCA8,Int.toNat (qCAr x_2)%qCA8,Int.toNat (qCAr x_1)%qCA8,Int.toNat (qCAr x)%qCA8]=v))/\((qCAv n)=(11:Int)->qCAo<=wr IntKind.u32 (Zbq n)/\wr IntKind.u32 (Zbq n)+qCAd<=qCA5/\∀(x:Nat),smT[Int.toNat (Znf n)]? =some x->qCAo<=wr IntKind.u32 (qCAl n)/\wr IntKind.u32 (qCAl n)+qCAd<=qCA5/\∀(x_1:Nat),smT[Int.toNat (Znn n)]? =some x_1->qCAo<=wr IntKind.u32 (Zbr n)/\wr IntKind.u32 (Zbr n)+qCAd<=qCA5/\∀(x_2:Nat),smT[Int.toNat (Zng n)]? =some x_2->qCAo<=wr IntKind.u32 (qCAh n)/\wr IntKind.u32 (qCAh n)+qCAd<=qCA5/\∀(x_3:Nat),smT[Int.toNat (Zno n)]? =some x_3->qCAo<=wr IntKind.u32 (Zbs n)/\wr IntKind.u32 (Zbs n)+qCAd<=qCA5/\∀(x_4:Nat),smT[Int.toNat (Znh n)]? =some x_4->qCAo<=wr IntKind.u32 (qCAi n)/\wr IntKind.u32 (qCAi n)+qCAd<=qCA5/\∀(x_5:Nat),smT[Int.toNat (Znp n)]? =some x_5->qCAo<=wr IntKind.u32 (Zbt n)/\wr IntKind.u32 (Zbt n)+qCAd<=qCA5/\∀(x_6:Nat),smT[Int.toNat (Zni n)]? =some x_6->qCAo<=wr IntKind.u32 (qCAa n)/\wr IntKind.u32 (qCAa n)+qCAd<=qCA5/\∀(x_7:Nat),smT[Int.toNat (Znq n)]? =some x_7->qCAo<=wr IntKind.u32 (Zm3 n)/\wr IntKind.u32 (Zm3 n)+qCAd<=qCA5/\∀(x_8:Nat),smT[Int.toNat (wr IntKind.u32 (Zm3 n))]? =some x_8->qCAo<=wr IntKind.u32 (Zks n)/\wr IntKind.u32 (Zks n)+qCAd<=qCA5/\∀(x_9:Nat),smT[Int.toNat (wr IntKind.u32 (Zks n))]? =some x_9->(decide (Z0 n)=true-> [Int.toNat X8%qCA8,Int.toNat (Z6l n)%qCA8,Int.toNat (qCAr x_9)%qCA8,Int.toNat (qCAr x_8)%qCA8,Int.toNat (qCAr x_7)%qCA8,Int.toNat (qCAr x_6)%qCA8,Int.toNat (qCAr x_5)%qCA8,Int.toNat (qCAr x_4)%qCA8,Int.toNat (qCAr x_3)%qCA8,Int.toNat (qCAr x_2)%qCA8,Int.toNat (qCAr x_1)%qCA8,Int.toNat (qCAr x)%qCA8]=v)/\(decide (Z0 n)=false-> [Int.toNat (Z6l n)%qCA8,Int.toNat (qCAr x_9)%qCA8,Int.toNat (qCAr x_8)%qCA8,Int.toNat (qCAr x_7)%qCA8,Int.toNat (qCAr x_6)%qCA8,Int.toNat (qCAr x_5)%qCA8,Int.toNat (qCAr x_4)%qCA8,Int.toNat (qCAr x_3)%qCA8,Int.toNat (qCAr x_2)%qCA8,Int.toNat (qCAr x_1)%qCA8,Int.toNat (qCAr x)%qCA8]=v))/\((qCAv n)=(12:Int)->qCAo<=wr IntKind.u32 (Zbq n)/\wr IntKind.u32 (Zbq n)+qCAd<=qCA5/\∀(x:Nat),smT[Int.toNat (Znf n)]? =some x->qCAo<=wr IntKind.u32 (qCAl n)/\wr IntKind.u32 (qCAl n)+qCAd<=qCA5/\∀(x_1:Nat),smT[Int.toNat (Znn n)]? =some x_1->qCAo<=wr IntKind.u32 (Zbr n)/\wr IntKind.u32 (Zbr n)+qCAd<=qCA5/\∀(x_2:Nat),smT[Int.toNat (Zng n)]? =some x_2->qCAo<=wr IntKind.u32 (qCAh n)/\wr IntKind.u32 (qCAh n)+qCAd<=qCA5/\∀(x_3:Nat),smT[Int.toNat (Zno n)]? =some x_3->qCAo<=wr IntKind.u32 (Zbs n)/\wr IntKind.u32 (Zbs n)+qCAd<=qCA5/\∀(x_4:Nat),smT[Int.toNat (Znh n)]? =some x_4->qCAo<=wr IntKind.u32 (qCAi n)/\wr IntKind.u32 (qCAi n)+qCAd<=qCA5/\∀(x_5:Nat),smT[Int.toNat (Znp n)]? =some x_5->qCAo<=wr IntKind.u32 (Zbt n)/\wr IntKind.u32 (Zbt n)+qCAd<=qCA5/\∀(x_6:Nat),smT[Int.toNat (Zni n)]? =some x_6->qCAo<=wr IntKind.u32 (qCAa n)/\wr IntKind.u32 (qCAa n)+qCAd<=qCA5/\∀(x_7:Nat),smT[Int.toNat (Znq n)]? =some x_7->qCAo<=wr
IntKind.u32 (Zm9 n)/\wr IntKind.u32 (Zm9 n)+qCAd<=qCA5/\∀(x_8:Nat),smT[Int.toNat (wr IntKind.u32 (Zm9 n))]? =some x_8->qCAo<=wr IntKind.u32 (qCAy n)/\wr IntKind.u32 (qCAy n)+qCAd<=qCA5/\∀(x_9:Nat),smT[Int.toNat (wr IntKind.u32 (qCAy n))]? =some x_9->qCAo<=wr IntKind.u32 (Zna n)/\wr IntKind.u32 (Zna n)+qCAd<=qCA5/\∀(x_10:Nat),smT[Int.toNat (wr IntKind.u32 (Zna n))]? =some x_10->qCAo<=wr IntKind.u32 (qCAu n)/\wr IntKind.u32 (qCAu n)+qCAd<=qCA5/\∀(x_11:Nat),smT[Int.toNat (wr IntKind.u32 (qCAu n))]? =some x_11->(decide (Z0 n)=true-> [Int.toNat X8%qCA8,Int.toNat (qCAr x_11)%qCA8,Int.toNat (qCAr x_10)%qCA8,Int.toNat (qCAr x_9)%qCA8,Int.toNat (qCAr x_8)%qCA8,Int.toNat (qCAr x_7)%qCA8,Int.toNat (qCAr x_6)%qCA8,Int.toNat (qCAr x_5)%qCA8,Int.toNat (qCAr x_4)%qCA8,Int.toNat (qCAr x_3)%qCA8,Int.toNat (qCAr x_2)%qCA8,Int.toNat (qCAr x_1)%qCA8,Int.toNat (qCAr x)%qCA8]=v)/\(decide (Z0 n)=false-> [Int.toNat (qCAr x_11)%qCA8,Int.toNat (qCAr x_10)%qCA8,Int.toNat (qCAr x_9)%qCA8,Int.toNat (qCAr x_8)%qCA8,Int.toNat (qCAr x_7)%qCA8,Int.toNat (qCAr x_6)%qCA8,Int.toNat (qCAr x_5)%qCA8,Int.toNat (qCAr x_4)%qCA8,Int.toNat (qCAr x_3)%qCA8,Int.toNat (qCAr x_2)%qCA8,Int.toNat (qCAr x_1)%qCA8,Int.toNat (qCAr x)%qCA8]=v))/\((qCAv n)=(13:Int)->qCAo<=wr IntKind.u32 (Zbq n)/\wr IntKind.u32 (Zbq n)+qCAd<=qCA5/\∀(x:Nat),smT[Int.toNat (Znf n)]? =some x->qCAo<=wr IntKind.u32 (qCAl n)/\wr IntKind.u32 (qCAl n)+qCAd<=qCA5/\∀(x_1:Nat),smT[Int.toNat (Znn n)]? =some x_1->qCAo<=wr IntKind.u32 (Zbr n)/\wr IntKind.u32 (Zbr n)+qCAd<=qCA5/\∀(x_2:Nat),smT[Int.toNat (Zng n)]? =some x_2->qCAo<=wr IntKind.u32 (qCAh n)/\wr IntKind.u32 (qCAh n)+qCAd<=qCA5/\∀(x_3:Nat),smT[Int.toNat (Zno n)]? =some x_3->qCAo<=wr IntKind.u32 (Zbs n)/\wr IntKind.u32 (Zbs n)+qCAd<=qCA5/\∀(x_4:Nat),smT[Int.toNat (Znh n)]? =some x_4->qCAo<=wr IntKind.u32 (qCAi n)/\wr IntKind.u32 (qCAi n)+qCAd<=qCA5/\∀(x_5:Nat),smT[Int.toNat (Znp n)]? =some x_5->qCAo<=wr IntKind.u32 (Zbt n)/\wr IntKind.u32 (Zbt n)+qCAd<=qCA5/\∀(x_6:Nat),smT[Int.toNat (Zni n)]? =some x_6->qCAo<=wr IntKind.u32 (qCAa n)/\wr IntKind.u32 (qCAa n)+qCAd<=qCA5/\∀(x_7:Nat),smT[Int.toNat (Znq n)]? =some x_7->qCAo<=wr IntKind.u32 (Zm9 n)/\wr IntKind.u32 (Zm9 n)+qCAd<=qCA5/\∀(x_8:Nat),smT[Int.toNat (wr IntKind.u32 (Zm9 n))]? =some x_8->qCAo<=wr IntKind.u32 (qCAy n)/\wr IntKind.u32 (qCAy n)+qCAd<=qCA5/\∀(x_9:Nat),smT[Int.toNat (wr IntKind.u32 (qCAy n))]? =some x_9->qCAo<=wr IntKind.u32 (Zna n)/\wr IntKind.u32 (Zna n)+qCAd<=qCA5/\∀(x_10:Nat),smT[Int.toNat (wr IntKind.u32 (Zna n))]? =some x_10->qCAo<=wr IntKind.u32 (qCAu n)/\wr IntKind.u32 (qCAu n)+qCAd<=qCA5/\∀(x_11:Nat),smT[Int.toNat (wr IntKind.u32 (qCAu n))]? =some x_11->(decide (Z0 n)=true-> [Int.toNat X8%qCA8,Int.toNat (Z6m n)%qCA8,Int.toNat (qCAr x_11)%qCA8,Int.toNat (qCAr x_10)%qCA8,Int.toNat (qCAr x_9)%qCA8,Int.toNat (qCAr x_8)%qCA8,Int.toNat (qCAr x_7)%qCA8,Int.toNat (qCAr x_6)%qCA8,Int.toNat (qCAr x_5)%qCA8,Int.toNat (qCAr x_4)%qCA8,Int.toNat (qCAr x_3)%qCA8,Int.toNat (qCAr x_2)%qCA8,Int.toNat (qCAr x_1)%qCA8,Int.toNat (qCAr x)%qCA8]=v)/\(decide (Z0 n)=false-> [Int.toNat (Z6m n)%qCA8,Int.toNat (qCAr x_11)%qCA8,Int.toNat (qCAr x_10)%qCA8,Int.toNat (qCAr x_9)%qCA8,Int.toNat (qCAr x_8)%qCA8,Int.toNat (qCAr x_7)%qCA8,Int.toNat (qCAr x_6)%qCA8,Int.toNat (qCAr x_5)%qCA8,Int.toNat (qCAr x_4)%qCA8,Int.toNat (qCAr x_3)%qCA8,Int.toNat (qCAr x_2)%qCA8,Int.toNat (qCAr x_1)%qCA8,Int.toNat (qCAr x)%qCA8]=v))/\True))):=by kernel_rfl
end
section
open Go
theorem Z9h:∀(k u:Nat),u<10^(k+1)->Lib.nDigits u<=k+1
 |0,u,h=>by rw [Lib.nDigits_small (by simpa using h)];exact Nat.le_refl _
 |k+1,u,h=>by
  by_cases h1:u<10
  · rw [Lib.nDigits_small h1];omega
  · rw [Lib.nDigits_big h1]
    rw [Nat.pow_succ] at h
    have:=Z9h k (u/10) (by omega)
    omega
theorem Zxf {u:Int} {k:Res thy->Prop}:∀{l:List Int},ndK u k l->∀j∈l,(Lib.nDigits u.toNat:Int)=j->k (Zd [] (.int true .i64 j))
 | [],_,j,hj,_=>by cases hj
 |x::r,h,j,hj,e=>by
  rcases List.mem_cons.1 hj with rfl|hj
  · exact h.1 e
  · exact Zxf h.2 j hj e
theorem in13 (d:Nat) (h1:1<=d) (h2:d<=13):(d:Int)∈ [(1:Int),2,3,4,5,6,7,8,9,10,11,12,13]:=by
 have:d=1\/d=2\/d=3\/d=4\/d=5\/d=6\/d=7\/d=8\/d=9\/d=10\/d=11\/d=12\/d=13:=by omega
 rcases this with rfl|rfl|rfl|rfl|rfl|rfl|rfl|rfl|rfl|rfl|rfl|rfl|rfl<;>decide
theorem Z9i:SumOk E 165 Snd:=by
 have hS:SumOk E 165 (Vo (dA1 dU64) (fun x=>1<=x.1/\x.1<10000000000000) (fun x=>Lib.nDigits x.1.toNat) fun (y:Nat)=> .int true .i64 y):=Z5 E_ok (Zc rfl) fun x h=>by
  have:=Z4n x.1.toNat (by omega) (by omega)
  rw [show ((x.1.toNat:Nat):Int)=x.1 by omega] at this
  intro g w vals hI hd
  refine (this g w vals hI hd).mono ?_
  rintro en w' ⟨u,he,g',h1,h2,h3⟩
  cases h3
  exact ⟨_,he,g',h1,h2,.int _ _ _⟩
 refine ⟨hS.good,fun args h i k hD hk=> ?_⟩
 unfold Snd at hk
 split at hk
 case h_2=>exact hk.elim
 rename_i l u
 obtain ⟨⟨h1,h2⟩,hk⟩:=hk
 refine hS.ok _ h i k hD ⟨⟨h1,h2⟩,fun y hy=> ?_⟩
 subst hy
 have hn:=Z9h 12 u.toNat (by show u.toNat<10000000000000;omega)
 have hp:=Lib.nDigits_pos u.toNat
 refine Zxf hk _ (in13 _ hp hn) rfl
theorem Zxg:SumOk E 164 Z3p:=Z5 E_ok (Zc rfl) fun x h=>by
 have:=Zqu x.1.toNat (by omega)
 rw [show ((x.1.toNat:Nat):Int)=x.1 by omega] at this
 have e:Lib.itoa x.1=Lib.decDigits x.1.toNat:=by unfold Lib.itoa;rw [if_neg (by omega)]
 rw [e]
 exact this
theorem Z9j:FnsOk E Fit:=Za (Za F0_ok Z9i) Zxg
def smV (i:Nat):Nat:=if i%2=0 then 48+i/2/10 else 48+i/2%10
theorem Z5y:∀i,i<200->smT[i]? =some (smV i):=by decide+kernel
theorem Z5z:smT.length=200:=by decide+kernel
theorem Z9k {e:Int} {P:Nat->Prop} (h0:0<=e) (h1:e<200) (h:P (smV e.toNat)):(0:Int)<=e/\e+(1:Int)<=(↑(List.length smT):Int)/\∀(x:Nat),smT[Int.toNat e]? =some x->P x:=by
 refine ⟨h0,by rw [Z5z];omega,fun x hx=> ?_⟩
 rw [Z5y _ (by omega)] at hx
 cases hx
 exact h
theorem smE {x:Int} (h0:0<=x) (h1:x<100):smV (x*2).toNat%(256:Nat)=48+x.toNat/10:=by
 have:smV (x*2).toNat=48+x.toNat/10:=by
  unfold smV
  rw [if_pos (by omega)]
  congr 2
  omega
 rw [this]
 omega
theorem smO {x:Int} (h0:0<=x) (h1:x<100):smV (x*2+1).toNat%(256:Nat)=48+x.toNat%10:=by
 have:smV (x*2+1).toNat=48+x.toNat%10:=by
  unfold smV
  rw [if_neg (by omega)]
  congr 2
  omega
 rw [this]
 omega
theorem wu64 (x:Int):wr .u64 x=x%18446744073709551616:=rfl
theorem wu32 (x:Int):wr .u32 x=x%4294967296:=rfl
theorem wu8 (x:Int):wr .u8 x=x%256:=rfl
def dgN (u j:Nat):Nat:=48+u/10^j%10
theorem Z1i (u k:Nat) (h:Lib.nDigits u=k):(Lib.decDigits u).map UInt8.toNat=(List.range k).map fun t=>dgN u (k-1-t):=by
 rw [Lib.decDigits_eq,List.map_map,h]
 refine List.map_congr_left fun t _=> ?_
 show (Lib.dg u (k-1-t)).toNat=_
 unfold Lib.dg dgN
 rw [UInt8.toNat_ofNat']
 omega
set_option maxHeartbeats 4000000 in
theorem Zxh (u:Nat) (hu:u<10000000000000):PureC E 117 [.int false .i64 (u:Int)] (.str false (decN u)):=by
 refine Zb E_ok (Ze E_ok Z9j 2000) ?_
 rw [Zx4]; delta qCAo qCA6 qCAd Z0 qCAz X8 qCA8 U4 qCA3 qCAc Zm4 qCA5 qCAw qCAr Z6f Zcb qCAm Zcc qCAj Z6o Z6g Zm5 qCAq Z6e Z6p Z6b Zbm Znb qCAk Znj Zbn Znc qCAf Znk Zbo Znd qCAg Znl Zbp Zne qCA9 Znm Z6d Zm1 Zkq Z6h Zm6 qCAx Zm7 qCAs Z6i qCAv Z6n Zm2 Zkr Z6j Zcd qCAp Zce qCAn Z6k Zm8 qCAt Z6c Zbq Znf qCAl Znn Zbr Zng qCAh Zno Zbs Znh qCAi Znp Zbt Zni qCAa Znq Z6a Zm3 Zks Z6l Zm9 qCAy Zna qCAu Z6m qCA7 qCA4 Zm0 qCA2 qCAe qCAb qCA1 Zkp
 have hdec:decN (u:Int)=(Lib.decDigits u).map UInt8.toNat:=by
  unfold decN Lib.itoa
  rw [if_neg (by omega)]
  rfl
 by_cases hs:u<100
 · refine ⟨fun b=>b=true,⟨fun _=>⟨fun _=>rfl,fun h=> ?_⟩,fun h=> ?_⟩,fun _=>⟨⟨by omega,by omega⟩,fun y hy=>hy⟩,fun h=>by cases h⟩
   · exact absurd h (by simp;omega)
   · exact absurd h (by simp)
 refine ⟨fun b=>b=false,⟨fun _=>⟨fun h=> ?_,fun _=>rfl⟩,fun _=>rfl⟩,fun h=>(by cases h),fun _=>⟨fun h=> ?_,fun _=> ?_⟩⟩
 · exact absurd h (by simp;omega)
 · exact absurd h (by simp)
 have e64:wr .u64 (u:Int)=u:=by rw [wu64];omega
 have hneg:decide ((u:Int)<0)=false:=by simp
 simp only [e64,hneg,Bool.false_eq_true,false_implies,true_implies,true_and,Int.toNat_natCast,and_true]
 rw [hdec]
 have hp:=Lib.lt_pow_nDigits u
 refine ⟨⟨by omega,by omega⟩,?_⟩
 repeat' apply And.intro
 all_goals
  intro hnd
  have hnd:=Int.ofNat.inj hnd
  rw [Z1i u _ hnd]
  rw [hnd] at hp
  simp only [Nat.reducePow] at hp
  clear hnd hdec e64 hneg
  simp (disch:=omega) only [wu64,wu32,wu8,Int.tmod_eq_emod_of_nonneg,Int.tdiv_eq_ediv_of_nonneg]
  simp (disch:=omega) only [Int.emod_eq_of_lt]
  repeat' (first|(refine Z9k ?_ ?_ ?_)|omega)
  all_goals try simp only [List.range,List.range.loop,List.map_cons,List.map_nil,dgN,List.cons.injEq,and_true,Nat.reduceSub,Nat.reducePow]
  all_goals (repeat' apply And.intro)
  all_goals try simp (disch:=omega) only [smE,smO]
  all_goals first|trivial|omega
end
section
open Go.RowKit
section
variable {Y : Thy} {E : Eng Y}
def celS (E:Eng Y) (th:Y.Th) (st:Option (List (Y.dom th)×Nat)) (c:Nat):SV Y:=
 match st with
 |some p=> .sl c 0 p.1.length (E.w th) none
 |none=> .val (.slice none 0 0)
def hpP (E:Eng Y) (th:Y.Th) (st:Option (List (Y.dom th)×Nat)):Hp Y:=fun b=>
 match Nat.beq b 0 with
 |true=>some (.raw [celS E th st 1] 0 none)
 |false=>(match Nat.beq b 1 with
  |true=>(match st with|some p=>some (.rows th p.1 p.2)|none=>none)
  |false=>none)
def fzO {α:Type} (st:Option (α×Nat)):Nat:=match st with|some p=>p.2|none=>0
def mdO {α:Type} (st:Option (α×Nat)) (b c:Nat):List Nat:=match st with|some _=> [b,c]|none=> [b]
def prnR (E:Eng Y) (th:Y.Th) (st:Option (List (Y.dom th)×Nat)) (b c i:Nat) (l':List (Y.dom th)):Res Y:=
 ⟨.tup [],1,mdO st b c,fun x=>match Nat.beq x b with|true=>some (.raw [.sl i 0 l'.length (E.w th) none] 0 none)|false=>at1 i (some (.rows th l' (fzO st))) x,none⟩
def PrnC (E:Eng Y) (f:Nat) (th:Y.Th) (args:List (SV Y)) (st:Option (List (Y.dom th)×Nat)) (l':List (Y.dom th)):Prop:=
 ∀(b c:Nat) (h:Hp Y) (i:Nat) (tg:Option Y.Th),h b=some (.raw [celS E th st c] 0 tg)->(∀p,st=some p->h c=some (.rows th p.1 p.2)/\b≠c)->Vi E f (.ptr b 0::args) h i (prnR E th st b c i l')
def prnK (E:Eng Y) (th:Y.Th) (st:Option (List (Y.dom th)×Nat)) (l':List (Y.dom th)) (r:Res Y):Prop:=
 match r.v,patch (hpP E th st) 2 r 0 with
 | .tup [],some (.raw [.sl c 0 n w none] 0 _)=>
  (match Nat.ble 1 c&&Nat.beq w (E.w th),patch (hpP E th st) 2 r c with
  |true,some (.rows th' L fz')=>Vz L fun L=>L=l'/\n=l'.length/\fz'=fzO st
  |_,_=>False)
 |_,_=>False
theorem Ya4 (th:Y.Th) (st:Option (List (Y.dom th)×Nat)):hpP E th st 0=some (.raw [celS E th st 1] 0 none):=rfl
theorem Uc {th:Y.Th} {st:Option (List (Y.dom th)×Nat)} {x:Nat} {y:Blk Y} (h:hpP E th st x=some y):(x=0/\y= .raw [celS E th st 1] 0 none)\/(x=1/\∃p,st=some p/\y= .rows th p.1 p.2):=by
 match x,h with
 |0,h=>rw [Ya4] at h;cases h;exact .inl ⟨rfl,rfl⟩
 |1,h=>
  cases st with
  |none=>cases h
  |some p=>
   have h:some (Blk.rows th p.1 p.2:Blk Y)=some y:=h
   cases h
   exact .inr ⟨rfl,p,rfl,rfl⟩
 |x+2,h=>cases h
theorem Z5o (th:Y.Th) (st:Option (List (Y.dom th)×Nat)):DomLt (hpP E th st) 2:=fun b hb=>by
 obtain ⟨y,hy⟩:=Option.ne_none_iff_exists'.1 hb
 rcases Uc hy with ⟨rfl,_⟩|⟨rfl,_⟩<;>omega
def σP {α:Type} (st:Option α) (σ:Pl) (b c:Nat):Pl:=fun x=>
 match Nat.beq x 0 with
 |true=>σ b
 |false=>(match Nat.beq x 1 with
  |true=>(match st with|some _=>σ c|none=>none)
  |false=>none)
theorem σP_cases {α:Type} {st:Option α} {σ:Pl} {b c x:Nat} {q:Nat×Nat} (h:σP st σ b c x=some q):(x=0/\σ b=some q)\/(x=1/\(∃p,st=some p)/\σ c=some q):=by
 match x,h with
 |0,h=>exact .inl ⟨rfl,h⟩
 |1,h=>
  cases st with
  |none=>cases h
  |some p=>exact .inr ⟨rfl,⟨p,rfl⟩,h⟩
 |x+2,h=>cases h
theorem mdO_mem {α:Type} {st:Option (α×Nat)} {b c x:Nat}:x∈mdO st b c↔x=b\/(x=c/\∃p,st=some p):=by
 cases st with
 |none=>simp [mdO]
 |some p=>simp [mdO]
open Classical in
theorem Zcq (hE:EngOk E) {call:Nat->List (SV Y)->Hp Y->Nat->(Res Y->Prop)->Prop} (hcall:Wq E call) {f:Nat} {th:Y.Th} {args:List (SV Y)} {st:Option (List (Y.dom th)×Nat)} {l':List (Y.dom th)} (ha:nidL 0 args=true)
 (hk:call f (.ptr 0 0::args) (hpP E th st) 2 (prnK E th st l')):PrnC E f th args st l':=by
 intro b c h i tg hb hc
 obtain ⟨r,hr,hR,htri⟩:=hcall f _ _ _ _ (Z5o th st) hk
 have hmods:∀x∈r.mods,x=0\/(x=1/\∃p,st=some p):=by
  intro x hx
  obtain ⟨y,hy⟩:=Option.ne_none_iff_exists'.1 (hR x hx)
  rcases Uc hy with ⟨h1,_⟩|⟨h1,p,h2,_⟩
  · exact .inl h1
  · exact .inr ⟨h1,p,h2⟩
 unfold prnK at hr
 split at hr
 case h_2=>exact hr.elim
 rename_i c' n' w' tg' hv hp0
 split at hr
 case h_2=>exact hr.elim
 rename_i th' L fz' hc1 hpc
 obtain ⟨e,hr⟩:=Yw hr
 subst e
 obtain ⟨rfl,rfl,rfl⟩:l'=L/\n'=l'.length/\fz'=fzO st:=⟨hr.1.symm,hr.2⟩
 rw [Bool.and_eq_true,Nat.ble_eq] at hc1
 obtain ⟨hc1,hw⟩:=hc1
 have hw:=Nat.eq_of_beq_eq_true hw
 subst hw
 replace htri:Vi E f (.ptr 0 0::args) (hpP E th' st) 2 r:=htri.resolve_right (by rintro ⟨p,hp,_⟩;rw [hv] at hp;cases hp)
 intro B σ g W vals hh hrd hI hB hfree hd
 obtain rfl:hh=h:=funext fun b=>hrd b trivial
 obtain ⟨rb,zb,hσb,hbo⟩:=hI.blk b _ hb
 have hbn:hh b≠none:=by rw [hb];simp
 have F0:σP st σ b c 0=σ b:=rfl
 have F1:∀p,st=some p->σP st σ b c 1=σ c:=by rintro p rfl;rfl
 have bc:∀p,st=some p->b≠c:=fun p hp=>(hc p hp).2
 have cn:∀p,st=some p->hh c≠none:=fun p hp=>by rw [(hc p hp).1];simp
 have reg:∀p q z z',st=some p->σ b=some (q,z)->σ c=some (q,z')->False:=fun p q z z' hp h1 h2=>bc p hp (hI.inj b c q z z' hbn (cn p hp) h1 h2)
 have hI1:Inv E B (σP st σ b c) (hpP E th' st) g W:=by
  refine ⟨hI.gc,hI.gm,fun x y hx=> ?_,fun x x' r z z' h1 h2 h3 h4=> ?_,fun x r' z' hs=> ?_,fun x y r' z' o v hx hs hv=> ?_,fun x y r' z' hx hs=> ?_,hI.glob⟩
  · rcases Uc hx with ⟨rfl,rfl⟩|⟨rfl,p,hp,rfl⟩
    · refine ⟨rb,zb,hσb,?_⟩
      obtain ⟨arr,e,k1,k2,k3,k4,k5⟩:=hbo
      refine ⟨arr,e,k1,k2,k3,fun j sv hj=> ?_,trivial⟩
      cases j with
      |succ j=>cases hj
      |zero=>
       have hj:some (celS E th' st 1)=some sv:=hj
       cases hj
       obtain ⟨v,m1,m2⟩:=k4 0 _ (show ([celS E th' st c]:List (SV Y))[0]? =some _ from rfl)
       refine ⟨v,m1,?_⟩
       cases st with
       |none=>exact Zy hE m2 (fun b p hb=>by omega) (show nid 0 (celS E th' none 1)=true from rfl)
       |some p=>
        obtain ⟨r1,z1,c1,rfl,k1,k2,k3,k4,k5⟩:=Vp (show Den E σ g (.sl c 0 p.1.length (E.w th') none) v from m2)
        exact .sl (E:=E) (b:=1) k1 k2 k3 k4 k5
    · obtain ⟨r1,z1,k1,arr,e,k2,k3,k4,k5,k6⟩:=hI.blk c _ (hc p hp).1
      refine ⟨r1,z1,(F1 p hp).trans k1,arr,e,k2,k3,k4,fun j sv hj=> ?_,k6⟩
      obtain ⟨v,m1,m2⟩:=k5 j sv hj
      have hn:nid 0 sv=true:=by
       obtain ⟨q,p,x,rfl,hp,hq,hs⟩:=Xh hE th' _ hj
       exact Zo (hE.encI _ _ _) hs
      exact ⟨v,m1,Zy hE m2 (fun b p hb=>by omega) hn⟩
  · rcases σP_cases h3 with ⟨rfl,h3⟩|⟨rfl,⟨p,hp⟩,h3⟩<;>rcases σP_cases h4 with ⟨rfl,h4⟩|⟨rfl,⟨p',hp'⟩,h4⟩
    · rfl
    · exact (reg p' _ _ _ hp' h3 h4).elim
    · exact (reg p _ _ _ hp h4 h3).elim
    · rfl
  · rcases σP_cases hs with ⟨rfl,hs⟩|⟨rfl,_,hs⟩
    · exact hI.base b _ _ hs
    · exact hI.base c _ _ hs
  · rcases Uc hx with ⟨rfl,rfl⟩|⟨rfl,p,hp,rfl⟩
    · have h2:o<0:=hI.fz b _ _ _ o v hb hs hv
      omega
    · rw [F1 p hp] at hs
      exact hI.fz c _ _ _ o v (hc p hp).1 hs hv
  · rcases Uc hx with ⟨rfl,rfl⟩|⟨rfl,p,hp,rfl⟩
    · exact hI.fm b _ _ _ hb hs
    · rw [F1 p hp] at hs
      exact hI.fm c _ _ _ (hc p hp).1 hs
 have hd1:DenL E (σP st σ b c) g (.ptr 0 0::args) vals.toList:=by
  refine ⟨by rw [<-hd.1];rfl,fun j sv u h1 h2=> ?_⟩
  cases j with
  |zero=>
   simp at h1;subst h1
   have:=hd.2 0 _ u rfl h2
   cases this
   rename_i hs
   exact .ptr (E:=E) (b:=0) hs
  |succ j=>
   have h1:args[j]? =some sv:=by simpa using h1
   exact Zy hE (hd.2 (j+1) sv u (by simpa using h1) h2) (fun b p hb=>by omega) (Zo ha h1)
 refine (htri B _ g W vals _ (fun _ _=>rfl) hI1 hB (fun x h1 h2=>by match x,h1 with|x+2,_=>rfl) hd1).mono ?_
 rintro en w' ⟨u,he,σ',g',hS,hI',hv'⟩
 have hs0:σ' 0=some (rb,zb):=hS.sig 0 _ hσb
 obtain ⟨r1,z1,k1⟩:∃r1 z1,σ' c'=some (r1,z1):=by
  obtain ⟨r1,z1,m1,_⟩:=hI'.blk c' _ hpc
  exact ⟨r1,z1,m1⟩
 have hc0:c'≠0:=by omega
 have hne0:patch (hpP E th' st) 2 r 0≠none:=by rw [hp0];simp
 have hnec:patch (hpP E th' st) 2 r c'≠none:=by rw [hpc];simp
 have hrb:r1≠rb:=by
  rintro rfl
  exact hc0 (hI'.inj c' 0 _ _ _ hnec hne0 k1 hs0)
 have hr1:W.heap.size<=r1\/∃z' p,st=some p/\σ c=some (r1,z'):=by
  cases hs1:σP st σ b c c' with
  |some q=>
   have:=hS.sig c' _ hs1
   rw [k1] at this;cases this
   rcases σP_cases hs1 with ⟨h0,_⟩|⟨_,⟨p,hp⟩,h2⟩
   · exact absurd h0 hc0
   · exact .inr ⟨z1,p,hp,h2⟩
  |none=>
   rcases hS.blk c' r1 z1 hs1 k1 with h1|⟨b',h1,z',h2⟩
   · exact .inl h1
   · rcases σP_cases h2 with ⟨rfl,h3⟩|⟨_,⟨p,hp⟩,h3⟩
     · rw [hσb] at h3;cases h3;exact absurd rfl hrb
     · exact .inr ⟨z',p,hp,h3⟩
 have hheap:∀q,q<W.heap.size->q≠rb->(∀p z,st=some p->σ c≠some (q,z))->w'.heap[q]? =W.heap[q]? :=by
  intro q hq hne hne2
  refine hS.heap q hq fun b' hb' z' hz'=> ?_
  rcases σP_cases hz' with ⟨rfl,h2⟩|⟨_,⟨p,hp⟩,h2⟩
  · rw [hσb] at h2;cases h2;exact hne rfl
  · exact hne2 p z' hp h2
 have hi:σ i=none:=hfree i (Nat.le_refl _) (by show i<i+1;omega)
 have hbi:b≠i:=by rintro rfl;rw [hσb] at hi;cases hi
 have hci:∀p,st=some p->c≠i:=by
  rintro p hp rfl
  obtain ⟨r2,z2,m1,_⟩:=hI.blk c _ (hc p hp).1
  rw [hi] at m1;cases m1
 have hpatch:∀x,patch hh i (prnR E th' st b c i l') x=if x=b then some (.raw [.sl i 0 l'.length (E.w th') none] 0 none) else if x=i then some (.rows th' l' (fzO st)) else if x=c/\(∃p,st=some p) then none else hh x:=by
  intro x
  rw [Zi]
  by_cases e1:x=b
  · subst e1
    rw [if_pos (.inl (mdO_mem.2 (.inl rfl))),if_pos rfl]
    show (match Nat.beq x x with|true=>_|false=>_)=_
    rw [Nat.beq_refl]
  · rw [if_neg e1]
    have hb1:Nat.beq x b=false:=by
     cases e:Nat.beq x b with
     |true=>exact absurd (Nat.eq_of_beq_eq_true e) e1
     |false=>rfl
    have hh1:(prnR E th' st b c i l').h x=at1 i (some (.rows th' l' (fzO st))) x:=by
     show (match Nat.beq x b with|true=>_|false=>_)=_
     rw [hb1]
    by_cases e2:x=i
    · subst e2
      rw [if_pos (.inr ⟨Nat.le_refl _,(by show x<x+1;omega)⟩),if_pos rfl,hh1]
      unfold at1
      rw [Nat.beq_refl]
    · rw [if_neg e2]
      have hat:at1 i (some (.rows th' l' (fzO st):Blk Y)) x=none:=by
       unfold at1
       cases e:Nat.beq x i with
       |true=>exact absurd (Nat.eq_of_beq_eq_true e) e2
       |false=>rfl
      by_cases e3:x=c/\∃p,st=some p
      · rw [if_pos e3,if_pos (.inl (mdO_mem.2 (.inr e3))),hh1,hat]
      · rw [if_neg e3,if_neg]
        rintro (k|k)
        · rcases mdO_mem.1 k with k|k
          · exact e1 k
          · exact e3 k
        · have k:i<=x/\x<i+1:=k
          omega
 have src:∀x y,patch hh i (prnR E th' st b c i l') x=some y->(x=b/\y= .raw [.sl i 0 l'.length (E.w th') none] 0 none)\/(x=i/\y= .rows th' l' (fzO st))\/(x≠i/\x≠b/\(∀p,st=some p->x≠c)/\hh x=some y):=by
  intro x y hy
  rw [hpatch] at hy
  split at hy
  · rename_i e
    cases hy
    exact .inl ⟨e,rfl⟩
  · rename_i e
    split at hy
    · rename_i e2
      cases hy
      exact .inr (.inl ⟨e2,rfl⟩)
    · rename_i e2
      split at hy
      · cases hy
      · rename_i e3
        exact .inr (.inr ⟨e2,e,fun p hp hx=>e3 ⟨hx,p,hp⟩,hy⟩)
 have sgi:(match Nat.beq i i with|true=>σ' c'|false=>σ i)=some (r1,z1):=by rw [Nat.beq_refl];exact k1
 have sgx:∀x,x≠i->(match Nat.beq x i with|true=>σ' c'|false=>σ x)=σ x:=by
  intro x hx
  cases e:Nat.beq x i with
  |true=>exact absurd (Nat.eq_of_beq_eq_true e) hx
  |false=>rfl
 have far:∀x y q z',x≠b->(∀p,st=some p->x≠c)->hh x=some y->σ x=some (q,z')->q<W.heap.size/\q≠rb/\(∀p z,st=some p->σ c≠some (q,z)):=by
  intro x y q z' hx hx2 hy hs
  have hxn:hh x≠none:=by rw [hy];simp
  refine ⟨(hI.base x q z' hs).2,?_,fun p z hp hq=>hx2 p hp (hI.inj x c _ _ _ hxn (cn p hp) hs hq)⟩
  rintro rfl
  exact hx (hI.inj x b _ _ _ hxn hbn hs hσb)
 have far1:∀x y q z',x≠b->(∀p,st=some p->x≠c)->hh x=some y->σ x=some (q,z')->q≠r1:=by
  rintro x y q z' hx hx2 hy hs rfl
  obtain ⟨m1,m2,m3⟩:=far x y q z' hx hx2 hy hs
  rcases hr1 with h1|⟨z2,p,hp,h1⟩
  · omega
  · exact m3 p z2 hp h1
 have far0:rb<W.heap.size:=(hI.base b _ _ hσb).2
 refine ⟨_,he,fun x=>match Nat.beq x i with|true=>σ' c'|false=>σ x,g',⟨fun x p hx=> ?_,fun x p hx=> ?_,hS.gle,fun q o v hv=> ?_,hS.gmnew,fun q hq hne=> ?_,hS.size,hS.os,hS.tape,hS.output,fun x q z' hx hx'=> ?_⟩,?_,?_⟩
 · exact (sgx x (fun e=>by rw [e,hi] at hx;cases hx)).trans hx
 · by_cases e:x=i
   · exact .inr (by show i<=x/\x<i+1;omega)
   · have hx:(match Nat.beq x i with|true=>σ' c'|false=>σ x)=some p:=hx
     rw [sgx x e] at hx
     exact .inl hx
 · rcases hS.gcnew q o v hv with h1|h1|⟨b',h1,z',h2⟩
   · exact .inl h1
   · exact .inr (.inl h1)
   · rcases σP_cases h2 with ⟨rfl,h2⟩|⟨_,hp,h2⟩
     · exact .inr (.inr ⟨b,mdO_mem.2 (.inl rfl),_,h2⟩)
     · exact .inr (.inr ⟨c,mdO_mem.2 (.inr ⟨rfl,hp⟩),_,h2⟩)
 · exact hheap q hq (fun e=>hne b (mdO_mem.2 (.inl rfl)) zb (by rw [hσb,e])) fun p z hp=>hne c (mdO_mem.2 (.inr ⟨rfl,p,hp⟩)) z
 · have hx':(match Nat.beq x i with|true=>σ' c'|false=>σ x)=some (q,z'):=hx'
   by_cases e:x=i
   · subst e
     rw [sgi] at hx';cases hx'
     rcases hr1 with h1|⟨z2,p,hp,h1⟩
     · exact .inl h1
     · exact .inr ⟨c,mdO_mem.2 (.inr ⟨rfl,p,hp⟩),z2,h1⟩
   · rw [sgx x e,hx] at hx';cases hx'
 · refine ⟨hI'.gc,hI'.gm,fun x y hx=> ?_,fun x x' q z1' z2' h1 h2 h3 h4=> ?_,fun x q z' hs=> ?_,fun x y q z' o v hx hs hv=> ?_,fun x y q z' hx hs=> ?_,hI'.glob⟩
   · rcases src x y hx with ⟨rfl,rfl⟩|⟨rfl,rfl⟩|⟨e1,e2,e3,e4⟩
     · refine ⟨rb,zb,(sgx x hbi).trans hσb,?_⟩
       obtain ⟨r2,z2,m1,arr,e,n1,n2,n3,n4,n5⟩:=hI'.blk 0 _ hp0
       rw [hs0] at m1;cases m1
       refine ⟨arr,e,n1,n2,n3,fun j sv hj=> ?_,trivial⟩
       cases j with
       |succ j=>cases hj
       |zero=>
        have hj:some (SV.sl i 0 l'.length (E.w th') none:SV Y)=some sv:=hj
        cases hj
        obtain ⟨v,q1,q2⟩:=n4 0 _ (show ([.sl c' 0 l'.length (E.w th') none]:List (SV Y))[0]? =some _ from rfl)
        refine ⟨v,q1,?_⟩
        obtain ⟨r3,z3,c3,rfl,u1,u2,u3,u4,u5⟩:=Vp (show Den E σ' g' (.sl c' 0 l'.length (E.w th') none) v from q2)
        refine .sl (E:=E) (b:=i) (z:=z3) ?_ u2 u3 u4 u5
        show (match Nat.beq i i with|true=>σ' c'|false=>σ i)=_
        rw [Nat.beq_refl]
        exact u1
     · refine ⟨r1,z1,sgi,?_⟩
       obtain ⟨r2,z2,m1,m2⟩:=hI'.blk c' _ hpc
       rw [k1] at m1;cases m1
       obtain ⟨arr,e,m1,m3,m4,m5,m6⟩:=m2
       refine ⟨arr,e,m1,m3,m4,fun j sv hj=> ?_,m6⟩
       obtain ⟨v,n1,n2⟩:=m5 j sv hj
       have hn:nid 0 sv=true:=by
        obtain ⟨q,p,x,rfl,hp,hq,hs⟩:=Xh hE th' _ hj
        exact Zo (hE.encI _ _ _) hs
       exact ⟨v,n1,Zy hE n2 (fun b p hb=>by omega) hn⟩
     · obtain ⟨q,z',m1,m2⟩:=hI.blk x y e4
       obtain ⟨m3,m4,m5⟩:=far x y q z' e2 e3 e4 m1
       refine ⟨q,z',(sgx x e1).trans m1,?_⟩
       refine m2.mono (fun x p hx=> ?_) hS.gle (hheap q m3 m4 m5)
       show (match Nat.beq x i with|true=>σ' c'|false=>σ x)=some p
       rw [sgx x (fun e=>by rw [e,hi] at hx;cases hx)]
       exact hx
   · obtain ⟨y,hy⟩:=Option.ne_none_iff_exists'.1 h1
     obtain ⟨y',hy'⟩:=Option.ne_none_iff_exists'.1 h2
     rcases src x y hy with ⟨rfl,rfl⟩|⟨rfl,rfl⟩|⟨e1,e2,e3,e4⟩<;>rcases src x' y' hy' with ⟨rfl,rfl⟩|⟨rfl,rfl⟩|⟨d1,d2,d3,d4⟩
     · rfl
     · rw [sgx x hbi,hσb] at h3;cases h3
       rw [sgi] at h4;cases h4
       exact absurd rfl hrb
     · rw [sgx x hbi,hσb] at h3;cases h3
       rw [sgx x' d1] at h4
       exact absurd rfl (far x' y' _ _ d2 d3 d4 h4).2.1
     · rw [sgi] at h3;cases h3
       rw [sgx x' hbi,hσb] at h4;cases h4
       exact absurd rfl hrb
     · rfl
     · rw [sgi] at h3;cases h3
       rw [sgx x' d1] at h4
       exact absurd rfl (far1 x' y' _ _ d2 d3 d4 h4)
     · rw [sgx x' hbi,hσb] at h4;cases h4
       rw [sgx x e1] at h3
       exact absurd rfl (far x y _ _ e2 e3 e4 h3).2.1
     · rw [sgi] at h4;cases h4
       rw [sgx x e1] at h3
       exact absurd rfl (far1 x y _ _ e2 e3 e4 h3)
     · rw [sgx x e1] at h3
       rw [sgx x' d1] at h4
       exact hI.inj x x' q _ _ (by rw [e4];simp) (by rw [d4];simp) h3 h4
   · by_cases e:x=i
     · subst e
       rw [sgi] at hs;cases hs
       exact hI'.base c' _ _ k1
     · rw [sgx x e] at hs
       exact ⟨(hI.base x q z' hs).1,Nat.lt_of_lt_of_le (hI.base x q z' hs).2 hS.size⟩
   · rcases src x y hx with ⟨rfl,rfl⟩|⟨rfl,rfl⟩|⟨e1,e2,e3,e4⟩
     · rw [sgx x hbi,hσb] at hs;cases hs
       have h2:o<0:=hI'.fz 0 _ _ _ o v hp0 hs0 hv
       omega
     · rw [sgi] at hs;cases hs
       exact hI'.fz c' _ _ _ o v hpc k1 hv
     · rw [sgx x e1] at hs
       obtain ⟨m3,m4,m5⟩:=far x y q z' e2 e3 e4 hs
       rcases hS.gcnew q o v hv with h1|h1|⟨b',h1,z2,h2⟩
       · exact hI.fz x y q z' o v e4 hs h1
       · omega
       · rcases σP_cases h2 with ⟨rfl,h3⟩|⟨_,⟨p,hp⟩,h3⟩
         · rw [hσb] at h3;cases h3;exact absurd rfl m4
         · exact absurd h3 (m5 p z2 hp)
   · rcases src x y hx with ⟨rfl,rfl⟩|⟨rfl,rfl⟩|⟨e1,e2,e3,e4⟩
     · rw [sgx x hbi,hσb] at hs;cases hs
       exact hI'.fm 0 _ _ _ hp0 hs0
     · rw [sgi] at hs;cases hs
       exact hI'.fm c' _ _ _ hpc k1
     · rw [sgx x e1] at hs
       obtain ⟨m3,m4,m5⟩:=far x y q z' e2 e3 e4 hs
       cases hg':g'.obj q with
       |none=>rfl
       |some es=>
        rcases hS.gmnew q es hg' with k|k
        · rw [hI.fm x y q z' e4 hs] at k;cases k
        · omega
 · rw [hv] at hv'
   exact Zy hE hv' (fun b p hb=>by omega) (show nid 0 (SV.tup ([]:List (SV Y)))=true from rfl)
def sumB (E:Eng Y) (th:Y.Th) {α:Type} (d:DcL E α) (pre:List (Y.dom th)->α->Prop) (f:List (Y.dom th)->α->List (Y.dom th)):Sum Y:=fun args h i k=>
 match args with
 | .ptr b 0::rest=>
  (match h b,d.dec rest with
  |some (.raw [.sl c 0 len w none] 0 _),some x=>
   (match h c,Nat.beq w (E.w th)&& !(Nat.beq b c) with
   |some (.rows th' l fz),true=>Vz l fun l=>(len=l.length/\fz<=l.length/\pre l x)/\∀l',l'=f l x->k (prnR E th (some (l,fz)) b c i l')
   |_,_=>False)
  |some (.raw [.val (.slice none 0 0)] 0 _),some x=>pre [] x/\∀l',l'=f [] x->k (prnR E th none b 0 i l')
  |_,_=>False)
 |_=>False
def Ya5 (E:Eng Y) (f:Nat) (th:Y.Th) (args:List (SV Y)) (F:List (Y.dom th)->List (Y.dom th)) (P:List (Y.dom th)->Prop):Prop:=
 (∀l fz,fz<=l.length->P l->PrnC E f th args (some (l,fz)) (F l))/\(P []->PrnC E f th args none (F []))
theorem PrnC.of_dec {α:Type} {d:DcL E α} {f:Nat} {th:Y.Th} {args:List (SV Y)} {x:α} {st:Option (List (Y.dom th)×Nat)} {l':List (Y.dom th)} (hd:d.dec args=some x) (h:PrnC E f th (d.enc x) st l'):PrnC E f th args st l':=by
 obtain ⟨k1,k2,k3⟩:=d.ok _ _ hd
 intro b c hp i tg h1 h2 B σ g w vals hh hrd hI hB hfree hden
 refine h b c hp i tg h1 h2 B σ g w vals hh hrd hI hB hfree ⟨?_,fun j sv' u h5 h6=> ?_⟩
 · rw [<-hden.1,List.length_cons,List.length_cons,k2]
 · cases j with
   |zero=>exact hden.2 0 sv' u h5 h6
   |succ j=>
    obtain ⟨sv,h7,h8⟩:=k3 σ g j sv' (by simpa using h5)
    exact h8 u (hden.2 (j+1) sv u (by simpa using h7) h6)
theorem Zhx (hE:EngOk E) {th:Y.Th} {α:Type} {f:Nat} (hg:FnGood E.P f) {d:DcL E α} {pre:List (Y.dom th)->α->Prop} {F:List (Y.dom th)->α->List (Y.dom th)} (hp:∀x,Ya5 E f th (d.enc x) (fun l=>F l x) (fun l=>pre l x)):SumOk E f (sumB E th d pre F):=by
 refine ⟨hg,fun args h i k hD hk=> ?_⟩
 unfold sumB at hk
 split at hk
 case h_2=>exact hk.elim
 rename_i b rest
 split at hk
 case h_3=>exact hk.elim
 · rename_i c len w tg x hb hx
   split at hk
   case h_2=>exact hk.elim
   rename_i th' l fz hc hw
   rw [Bool.and_eq_true,Bool.not_eq_true'] at hw
   obtain ⟨hw,hbc⟩:=hw
   have hw:=Nat.eq_of_beq_eq_true hw
   have hbc:=nb hbc
   obtain ⟨e,hk2⟩:=Yw hk
   clear hk
   subst e
   subst hw
   obtain ⟨⟨rfl,hfz,hpr⟩,hk3⟩:=hk2
   refine ⟨_,hk3 _ rfl,fun b' hb'=> ?_,.inl (PrnC.of_dec hx ((hp x).1 l fz hfz hpr) b c h i tg hb fun p hp=> ?_)⟩
   · rcases mdO_mem.1 (show b'∈mdO (some (l,fz)) b c from hb') with rfl|⟨rfl,_⟩
     · rw [hb];simp
     · rw [hc];simp
   · cases hp
     exact ⟨hc,hbc⟩
 · rename_i tg x hb hx
   obtain ⟨hpr,hk3⟩:=hk
   refine ⟨_,hk3 _ rfl,fun b' hb'=> ?_,.inl (PrnC.of_dec hx ((hp x).2 hpr) b 0 h i tg hb fun p hp=>by cases hp)⟩
   rcases mdO_mem.1 (show b'∈mdO (none:Option (List (Y.dom th)×Nat)) b 0 from hb') with rfl|⟨_,_,h2⟩
   · rw [hb];simp
   · cases h2
end
end
section
open Go
theorem Zx5 {F:Fns thy} (hF:FnsOk E F) {n:Nat} {f:Nat} {th:Th} {args:List (SV thy)} {st:Option (List (thy.dom th)×Nat)} {l':List (thy.dom th)} (ha:nidL 0 args=true) (hk:Zh E F (vc E F n) f (.ptr 0 0::args) (hpP E th st) 2 (prnK E th st l')):PrnC E f th args st l':=
 Zcq E_ok (Ze E_ok hF n) ha hk
def Aixi:Fr thy->Hp thy->Nat->Ann thy:=fun T h i=>{X:=LX,fr:=fun x=> [(0,T 0),(1,T 1),(7,T 7),(8,.int false .i64 x.k)],bl:=fun x=> [],src:=fun _=> [],md:= [],ih:=i,M:=i+30,meas:=fun x=>x.r}
noncomputable def Fixi:Fns thy:=addL F0 149 2 Aixi E
theorem Z13 (l:List Int) (s:Int) (v:Int):Zh E Fixi (vc E Fixi 400) 149 [.psl Th.dimc l false,.int false .i64 s] hp0 0 (fun r=>ret E (patch hp0 0 r) r.v (.int false .i64 v))=(
∃(R:LX->Prop),(∃(x:LX),R x/\true=true/\((l=l/\(false=true->false=true))/\s=s/\(↑(List.length l):Int)=(↑(List.length l):Int)/\(0:Int)=(↑(LX.k x):Int)/\True)/\True)/\∀(x:LX),R x->(decide ((↑(LX.k x):Int)<(↑(List.length l):Int))=true->(0:Int)<=(↑(LX.k x):Int)/\(↑(LX.k x):Int)+(1:Int)<=(↑(List.length l):Int)/\∀(x_1:Int),l[Int.toNat (↑(LX.k x):Int)]? =some x_1->((s==x_1)=true->(↑(LX.k x):Int)=v)/\((s==x_1)=false->∃(x_2:LX),R x_2/\x_2.2+(1:Nat)<=x.2/\true=true/\((l=l/\(false=true->false=true))/\s=s/\(↑(List.length l):Int)=(↑(List.length l):Int)/\wr IntKind.i64 ((↑(LX.k x):Int)+(1:Int))=(↑(LX.k x_2):Int)/\True)/\True))/\(decide ((↑(LX.k x):Int)<(↑(List.length l):Int))=false->(-1:Int)=v)):=by kernel_rfl
noncomputable def dIs:Dc E (List Int):=(Zlf (E:=E) Th.dimc:Dc E (List (thy.dom Th.dimc)))
noncomputable def Sixi:Sum thy:=Zgb E (fun _=>none) 2 (Vo (dA2 dIs dN) (fun x=>x.1.length<=1000000000) (fun x=>idxI x.2.1 0 x.1) fun y=> .int false .i64 y)
noncomputable def Z9x:Sum thy:=Vo (dA1 dN) (fun x=>0<=x.1/\x.1<10000000000000) (fun x=>decN x.1) fun y=> .str false y
noncomputable def Fpu:Fns thy:=addS (addS (addS F0 42 Zcf) 149 Sixi) 117 Z9x
abbrev qCD4:=(0:Int)
abbrev qCD6:=(↑(4:Nat):Int)
abbrev qCD3:=(Int.toNat qCD6-Int.toNat qCD4)
abbrev qCD1 (a0:Int) (b0:Int) (c0:Int) (d0:Int):=(List.take qCD3 (List.drop (Int.toNat qCD4) [a0,b0,c0,d0]))
abbrev qCD2:=((4:Nat)=(4:Nat)/\qCD4<=qCD4/\qCD4<=qCD6/\qCD6<=qCD6/\(qCD4+(1:Int)<=qCD6\/qCD4=qCD4))
abbrev qCD5:=(↑(List.length (WK.words WK.un)):Int)
theorem Zsl (l:List (List Nat)) (fz:Nat) (a b c d:Int) (l':List (List Nat)):Zh E Fpu (vc E Fpu 400) 119 [.ptr 0 0,dimA a b c d] (hpP E Th.strs (some (l,fz))) 2 (prnK E Th.strs (some (l,fz)) l')=(
 qCD2/\Int.toNat qCD4+qCD3<=(4:Nat)/\List.length (qCD1 a b c d)<=(1000000000:Nat)/\∀(y:Int),y=idxI (1:Int) (0:Nat) (qCD1 a b c d)->(decide (y>=qCD4)=true->qCD4<=y/\y+(1:Int)<=qCD5/\∀(x:List Nat),(WK.words WK.un)[Int.toNat y]? =some x->(List.length l<=List.length l/\fz<=List.length l/\(List.length l+(1:Nat))*(16:Nat)<=(140737488355328:Nat))/\qCD2/\Int.toNat qCD4+qCD3<=(4:Nat)/\List.length (qCD1 a b c d)<=(1000000000:Nat)/\∀(y:Int),y=idxI (-1:Int) (0:Nat) (qCD1 a b c d)->(decide (y>=qCD4)=true->qCD4<=y/\y+(1:Int)<=qCD5/\∀(x_1:List Nat),(WK.words WK.un)[Int.toNat y]? =some x_1->(List.length l+(1:Nat)<=List.length (List.take (List.length l) l++ [x])/\fz<=List.length l+(1:Nat)/\(List.length l+(1:Nat)+(2:Nat))*(16:Nat)<=(140737488355328:Nat))/\List.take (List.length l+(1:Nat)) (List.take (List.length l) l++ [x])++ [[(112:Nat),(101:Nat),(114:Nat)],x_1]=l'/\List.length l+(1:Nat)+(2:Nat)=List.length l'/\fz=fzO (some (l,fz)))/\(decide (y>=qCD4)=false->List.take (List.length l) l++ [x]=l'/\List.length l+(1:Nat)=List.length l'/\fz=fzO (some (l,fz))))/\(decide (y>=qCD4)=false->qCD2/\Int.toNat qCD4+qCD3<=(4:Nat)/\List.length (qCD1 a b c d)<=(1000000000:Nat)/\∀(y:Int),y=idxI (-1:Int) (0:Nat) (qCD1 a b c d)->(decide (y>=qCD4)=true->qCD4<=y/\y+(1:Int)<=qCD5/\∀(x:List Nat),(WK.words WK.un)[Int.toNat y]? =some x->(List.length l<=List.length l/\fz<=List.length l/\(List.length l+(2:Nat))*(16:Nat)<=(140737488355328:Nat))/\List.take (List.length l) l++ [[(112:Nat),(101:Nat),(114:Nat)],x]=l'/\List.length l+(2:Nat)=List.length l'/\fz=fzO (some (l,fz)))/\(decide (y>=qCD4)=false->l=l'/\List.length l=List.length l'/\fz=fzO (some (l,fz))))):=by kernel_rfl
theorem Zx6 {v:Int} {l:List Int}:∀{k:Nat} {x:Int},l[k]? =some x->idxI v k (l.drop k)=if v=x then (k:Int) else idxI v (k+1) (l.drop (k+1)):=by
 intro k x h
 rw [Xw h]
 rfl
theorem Z14 (l:List Int) (s:Int) (hl:l.length<=1000000000):PureC E 149 [.psl Th.dimc l false,.int false .i64 s] (.int false .i64 (idxI s 0 l)):=by
 have hF:FnsOk E Fixi:=Zl E_ok F0_ok _ _ _
 refine Zb E_ok (Ze E_ok hF 400) ?_
 rw [Z13]
 simp only [and_true,true_and,decide_eq_true_eq,decide_eq_false_iff_not,beq_iff_eq,beq_eq_false_iff_ne,imp_self]
 refine ⟨fun x=>x.k<=l.length/\idxI s x.k (l.drop x.k)=idxI s 0 l/\x.r=l.length-x.k,⟨⟨0,l.length,[],0⟩,⟨(by dsimp only;omega),rfl,rfl⟩,rfl⟩,?_⟩
 rintro x ⟨hk,hv,hr⟩
 refine And.intro (fun hq=>⟨by omega,by omega,fun y hy=> ?_⟩) (fun hq=> ?_)
 · have hy:l[x.k]? =some y:=hy
   rw [Zx6 hy] at hv
   refine ⟨fun e=> ?_,fun e=> ?_⟩
   · rw [if_pos e] at hv;exact hv
   · rw [if_neg e] at hv
     exact ⟨⟨x.k+1,l.length-(x.k+1),[],0⟩,⟨(by dsimp only;omega),hv,rfl⟩,by show l.length-(x.k+1)+1<=x.r;omega,wr64 (by omega) (by omega)⟩
 · rw [List.drop_eq_nil_of_le (by omega)] at hv
   exact hv
theorem Z6q:SumOk E 149 Sixi:=Zbi E_ok (Z5 E_ok (Zc rfl) fun x h=>Z14 x.1 x.2.1 h)
theorem Z15:SumOk E 117 Z9x:=Z5 E_ok (Zc rfl) fun x h=>by
 have:=Zxh x.1.toNat (by omega)
 rw [show ((x.1.toNat:Nat):Int)=x.1 by omega] at this
 exact this
theorem Zp4:FnsOk E Fpu:=Za (Za (Za F0_ok Zcg) Z6q) Z15
theorem Znr:∀{v:Int} {l:List Int} {k:Nat},idxI v k l<k+l.length
 |v,[],k=>by unfold idxI;simp;omega
 |v,x::l,k=>by
  unfold idxI
  split
  · simp;omega
  · have:=Znr (v:=v) (l:=l) (k:=k+1)
    simp at this⊢;omega
theorem Zp5 {y:Int} (h0:0<=y) {x:List Nat} (hx:(WK.words WK.un)[Int.toNat y]? =some x):WK.un.words.getD y.toNat []=x:=by
 simp [List.getD,hx]
theorem Z16 (l:List (List Nat)) (fz:Nat) (a b c d:Int) (hf:fz<=l.length) (hl:l.length+8<=1000000000):PrnC E 119 Th.strs [dimA a b c d] (some (l,fz)) (l++txU [a,b,c,d]):=by
 refine Zx5 Zp4 (n:=400) rfl ?_
 rw [Zsl];delta qCD4 qCD6 qCD3 qCD1 qCD2 qCD5
 have i1:=Znr (v:=1) (l:= [a,b,c,d]) (k:=0)
 have i2:=Znr (v:= -1) (l:= [a,b,c,d]) (k:=0)
 have L4:(WK.words WK.un).length=4:=rfl
 have l4:(List.length [a,b,c,d]:Int)=4:=rfl
 have e:List.take (Int.toNat (↑(4:Nat):Int)-Int.toNat (0:Int)) (List.drop (Int.toNat (0:Int)) [a,b,c,d])= [a,b,c,d]:=rfl
 rw [e]
 clear e
 refine ⟨by decide,by decide,by show 4<=1000000000;decide,fun y hy=>⟨fun h=> ?_,fun h=> ?_⟩⟩
 · have h:0<=y:=by simpa using h
   rw [<-hy] at i1
   refine ⟨h,by rw [L4];omega,fun x hx=>⟨⟨Nat.le_refl _,hf,by omega⟩,by decide,by decide,by show 4<=1000000000;decide,fun z hz=>⟨fun h2=> ?_,fun h2=> ?_⟩⟩⟩
   · have h2:0<=z:=by simpa using h2
     rw [<-hz] at i2
     refine ⟨h2,by rw [L4];omega,fun x2 hx2=>⟨⟨by simp,by omega,by omega⟩,?_⟩⟩
     have:txU [a,b,c,d]= [x,sPer,x2]:=by
      unfold txU
      rw [<-hy,<-hz,if_pos h,if_pos h2,Zp5 h hx,Zp5 h2 hx2]
      rfl
     rw [this,List.take_length]
     have e2:List.take (l.length+1) (l++ [x])=l++ [x]:=List.take_of_length_le (by simp)
     rw [e2]
     simp [sPer,fzO]
   · have h2:¬0<=z:=by simpa using h2
     have:txU [a,b,c,d]= [x]:=by
      unfold txU
      rw [<-hy,<-hz,if_pos h,if_neg h2,Zp5 h hx]
      rfl
     rw [this]
     simp [fzO]
 · have h:¬0<=y:=by simpa using h
   refine ⟨by decide,by decide,by show 4<=1000000000;decide,fun z hz=>⟨fun h2=> ?_,fun h2=> ?_⟩⟩
   · have h2:0<=z:=by simpa using h2
     rw [<-hz] at i2
     refine ⟨h2,by rw [L4];omega,fun x2 hx2=>⟨⟨Nat.le_refl _,hf,by omega⟩,?_⟩⟩
     have:txU [a,b,c,d]= [sPer,x2]:=by
      unfold txU
      rw [<-hy,<-hz,if_neg h,if_pos h2,Zp5 h2 hx2]
      rfl
     rw [this]
     simp [sPer,fzO]
   · have h2:¬0<=z:=by simpa using h2
     have:txU [a,b,c,d]= []:=by
      unfold txU
      rw [<-hy,<-hz,if_neg h,if_neg h2]
      rfl
     rw [this]
     simp [fzO]
noncomputable def Sunp:Sum thy:=sumB E Th.strs dDim (fun l x=>1<=l.length/\l.length+8<=1000000000) fun (l:List (List Nat)) x=>l++txU [x.1.getD 0 0,x.1.getD 1 0,x.1.getD 2 0,x.1.getD 3 0]
theorem Z6r:SumOk E 119 Sunp:=Zhx E_ok (Zc rfl) fun x=>⟨fun l fz hf h=>Z16 l fz _ _ _ _ hf h.2,fun h=>absurd h.1 (by decide)⟩
noncomputable def Sxp (m:Nat):Sum thy:=sumB E Th.strs dExp (fun l x=>x.1.sz<m/\Zs x.1=true/\1<=l.length/\l.length+8*x.1.sz+8<=1000000000) fun (l:List (List Nat)) x=>l++txX x.1
theorem Zns (n:Int) (v:Int):Zh E F0 (vc E F0 400) 121 [.int false .i64 n] hp0 0 (fun r=>ret E (patch hp0 0 r) r.v (.int false .i64 v))=(
((n==(3:Int))=true->(1:Int)=v)/\((n==(3:Int))=false->((n==(4:Int))=true->(1:Int)=v)/\((n==(4:Int))=false->((n==(5:Int))=true->(2:Int)=v)/\((n==(5:Int))=false->(3:Int)=v)))):=by kernel_rfl
noncomputable def Zx7:Sum thy:=Vo (dA1 dN) (fun _=>True) (fun x=>Zz x.1) fun y=> .int false .i64 y
noncomputable def Fop' (m:Nat):Fns thy:=addS (addS F0 121 Zx7) 79 (Sxp m)
abbrev qCD7 (a0:Ex):=(Ex.mk (Ex.op a0) (Ex.n a0) (Ex.d0 a0) (Ex.d1 a0) (Ex.d2 a0) (Ex.d3 a0) (Ex.l a0))
abbrev qCD8 (a0:List (List Nat)):=(List.take (List.length a0) a0++ [[(40:Nat)]])
theorem Zsm (m:Nat) (l:List (List Nat)) (fz:Nat) (x:Ex) (n:Int) (l':List (List Nat)):Zh E (Fop' m) (vc E (Fop' m) 400) 120 [.ptr 0 0,exA x,.int false .i64 n] (hpP E Th.strs (some (l,fz))) 2 (prnK E Th.strs (some (l,fz)) l')=(
 True/\∀(y:Int),y=Zz (Ex.op x)->(decide (y>=n)=true->(List.length l=List.length l/\fz<=List.length l/\Ex.sz (qCD7 x)+(1:Nat)<=m/\Zs (qCD7 x)=true/\(1:Nat)<=List.length l/\List.length l+(8:Nat)*Ex.sz (qCD7 x)+(8:Nat)<=(1000000000:Nat))/\∀(l'_1:List (List Nat)),l'_1=l++txX (qCD7 x)->l'_1=l'/\List.length l'_1=List.length l'/\fzO (some (l,fz))=fzO (some (l,fz)))/\(decide (y>=n)=false->(List.length l<=List.length l/\fz<=List.length l/\(List.length l+(1:Nat))*(16:Nat)<=(140737488355328:Nat))/\(List.length l+(1:Nat)=List.length (qCD8 l)/\fz<=List.length (qCD8 l)/\Ex.sz (qCD7 x)+(1:Nat)<=m/\Zs (qCD7 x)=true/\(1:Nat)<=List.length (qCD8 l)/\List.length (qCD8 l)+(8:Nat)*Ex.sz (qCD7 x)+(8:Nat)<=(1000000000:Nat))/\∀(l'_1:List (List Nat)),l'_1=List.take (List.length l) l++ [[(40:Nat)]]++txX (qCD7 x)->(List.length l'_1<=List.length l'_1/\fzO (some (List.take (List.length l) l++ [[(40:Nat)]],fz))<=List.length l'_1/\(List.length l'_1+(1:Nat))*(16:Nat)<=(140737488355328:Nat))/\List.take (List.length l'_1) l'_1++ [[(41:Nat)]]=l'/\List.length l'_1+(1:Nat)=List.length l'/\fzO (some (List.take (List.length l) l++ [[(40:Nat)]],fz))=fzO (some (l,fz)))):=by kernel_rfl
noncomputable def Z9y (m:Nat):Sum thy:=sumB E Th.strs Z9t (fun l x=>x.1.sz<m/\Zs x.1=true/\1<=l.length/\l.length+8*x.1.sz+10<=1000000000) fun (l:List (List Nat)) x=>l++par x.1.op x.2.1 (txX x.1)
noncomputable def Fxp' (m:Nat):Fns thy:=addS (addS (addS (addS Fpu 119 Sunp) 121 Zx7) 79 (Sxp m)) 120 (Z9y m)
theorem Zsn (n:Int):PureC E 121 [.int false .i64 n] (.int false .i64 (Zz n)):=by
 refine Zb E_ok (Ze E_ok F0_ok 400) ?_
 rw [Zns]
 unfold Zz
 refine ⟨fun h=> ?_,fun h=>⟨fun h2=> ?_,fun h2=>⟨fun h3=> ?_,fun h3=> ?_⟩⟩⟩
 all_goals simp at*
 all_goals simp [*]
theorem Zkt:SumOk E 121 Zx7:=Z5 E_ok (Zc rfl) fun x _=>Zsn x.1
def PxOk (m:Nat):Prop:=∀x:Ex,x.sz<m->Zs x=true->∀(l:List (List Nat)) (fz:Nat),fz<=l.length->1<=l.length->l.length+8*x.sz+8<=1000000000->PrnC E 79 Th.strs [exA x] (some (l,fz)) (l++txX x)
theorem Zx8 {m:Nat} (h:PxOk m):SumOk E 79 (Sxp m):=Zhx E_ok (Zc rfl) fun x=>⟨fun l fz hf hp=>h x.1 hp.1 hp.2.1 l fz hf hp.2.2.1 hp.2.2.2,fun hp=>absurd hp.2.2.1 (by decide)⟩
theorem Z6s {m:Nat} (h:PxOk m):FnsOk E (Fop' m):=Za (Za F0_ok Zkt) (Zx8 h)
mutual
theorem Yk:∀(x:Ex),(txX x).length+2<=8*x.sz
 | .mk op n a b c d l=>by
  have h:=Zx9 l
  have hs:∀ss:List (List Nat),(txS (txL l) ss).length+0<=8*Ex.szL l:=fun ss=>Zya (txL l) ss (8*Ex.szL l) h
  have hU:(txU [a,b,c,d]).length<=3:=by
   unfold txU
   rw [List.length_append]
   split<;>split<;>simp
  have hp:∀op least t,(par op least t).length<=t.length+2:=by
   intro op least t
   unfold par
   split
   · omega
   · simp
  have h2:=Z17 (txL l) _ h
  rw [txX,Ex.sz]
  unfold txN
  split
  · rw [List.length_cons];omega
  · split
    · simp;omega
    · split
      · have:=hs [Zh1,Y8,Y8,Xg]
        rw [List.length_cons,List.length_cons]
        omega
      · split
        · rw [List.length_append,List.length_cons]
          have a1:=hp ((l.map Ex.op).getD 0 0) (Zz op) ((txL l).getD 0 [])
          have a2:=hp ((l.map Ex.op).getD 1 0) (Zz op+1) ((txL l).getD 1 [])
          omega
        · have:=hs [Y8,Xg]
          rw [List.length_cons,List.length_cons]
          omega
theorem Zx9:∀(l:List Ex),((txL l).map fun t=>t.length+2).sum<=8*Ex.szL l
 | []=>by simp [txL]
 |x::r=>by
  have h1:=Yk x
  have h2:=Zx9 r
  rw [txL,Ex.szL,List.map_cons,List.sum_cons]
  omega
theorem Zya:∀(ts:List (List (List Nat))) (ss:List (List Nat)) (b:Nat),(ts.map fun t=>t.length+2).sum<=b->(txS ts ss).length+0<=b
 | [],_,_,h=>by simp [txS]
 |t::r,[],_,h=>by simp [txS]
 |t::r,s::ss,b,h=>by
  rw [List.map_cons,List.sum_cons] at h
  have:=Zya r ss (b-(t.length+2)) (by omega)
  rw [txS,List.length_append,List.length_cons]
  omega
theorem Z17:∀(ts:List (List (List Nat))) (b:Nat),(ts.map fun t=>t.length+2).sum<=b->(ts.getD 0 []).length+(ts.getD 1 []).length<=b
 | [],_,_=>by simp
 | [t],_,h=>by simp at h⊢;omega
 |t::u::r,_,h=>by simp at h⊢;omega
end
theorem Z18 {m:Nat} (hm:PxOk m) (l:List (List Nat)) (fz:Nat) (x:Ex) (n:Int) (hx:x.sz<m) (hxf:Zs x=true) (hf:fz<=l.length) (h1:1<=l.length) (hl:l.length+8*x.sz+10<=1000000000):PrnC E 120 Th.strs [exA x,.int false .i64 n] (some (l,fz)) (l++par x.op n (txX x)):=by
 refine Zx5 (Z6s hm) (n:=400) rfl ?_
 rw [Zsm];delta qCD7 qCD8
 have ht:=Yk x
 simp only [fzO,List.take_length,Ex.eta,forall_eq,decide_eq_true_eq,decide_eq_false_iff_not,true_and,and_true]
 refine ⟨fun h=>⟨⟨hf,hx,hxf,h1,by omega⟩,?_⟩,fun h=>⟨⟨Nat.le_refl _,hf,by omega⟩,⟨by simp,by simp;omega,hx,hxf,by simp,by simp;omega⟩,⟨Nat.le_refl _,by simp;omega,by simp;omega⟩,?_⟩⟩
 · have:par x.op n (txX x)=txX x:=by unfold par;rw [if_pos h]
   rw [this]
   exact ⟨rfl,rfl⟩
 · have:par x.op n (txX x)=U3::(txX x++ [Xg]):=by unfold par;rw [if_neg h]
   rw [this]
   simp [U3,Xg]
   omega
theorem Z19 {m:Nat} (h:PxOk m):SumOk E 120 (Z9y m):=Zhx E_ok (Zc rfl) fun x=>⟨fun l fz hf hp=>Z18 h l fz x.1 x.2.1 hp.1 hp.2.1 hf hp.2.2.1 hp.2.2.2,fun hp=>absurd hp.2.2.1 (by decide)⟩
theorem Z6t {m:Nat} (h:PxOk m):FnsOk E (Fxp' m):=Za (Za (Za (Za Zp4 Z6r) Zkt) (Zx8 h)) (Z19 h)
end
section
open Go
def dD (u:Nat):List Nat:=(Lib.decDigits u).map UInt8.toNat
theorem Zbg {u:Nat} (h:u<10):dD u= [48+u]:=by
 unfold dD
 rw [Lib.decDigits,dif_pos h]
 have:(UInt8.ofNat (48+u)).toNat=48+u:=by
  rw [UInt8.toNat_ofNat']
  omega
 simp only [List.map_cons,List.map_nil,this]
theorem Zkg {u:Nat} (h:¬u<10):dD u=dD (u/10)++ [48+u%10]:=by
 unfold dD
 rw [Lib.decDigits,dif_neg h]
 have:(UInt8.ofNat (48+u%10)).toNat=48+u%10:=by
  rw [UInt8.toNat_ofNat']
  omega
 rw [List.map_append]
 simp only [List.map_cons,List.map_nil,this]
theorem Zxd {n:Int} (h:0<=n):decN n=dD n.toNat:=by
 unfold decN dD Lib.itoa
 rw [if_neg (by omega)]
theorem Zpw:∀{a b:List Nat} {n m:Int},numL n a=(m,0)->numL n (a++b)=numL m b
 | [],b,n,m,h=>by
  unfold numL at h
  cases h
  rfl
 |c::r,b,n,m,h=>by
  unfold numL at h
  rw [List.cons_append]
  unfold numL
  split at h
  · cases h
  · rename_i hn
    rw [if_neg hn,Zpw h]
    cases b<;>rfl
theorem Z1g (u:Nat):dD u≠ []:=by
 by_cases h:u<10
 · rw [Zbg h];simp
 · rw [Zkg h];simp
theorem Z9e:∀(u:Nat),u<=1099511627776->numL 0 (dD u)=((u:Int),0):=by
 intro u
 induction u using Nat.strongRecOn with
 |_ u ih=>
  intro hu
  by_cases h:u<10
  · rw [Zbg h]
    unfold numL
    rw [if_neg (by omega)]
    unfold numL
    congr 1
    omega
  · rw [Zkg h,Zpw (ih (u/10) (by omega) (by omega))]
    unfold numL
    rw [if_neg (by omega)]
    unfold numL
    congr 1
    omega
theorem Z9f:∀(u:Nat),∀c∈dD u,isD (c:Int)=true:=by
 intro u
 induction u using Nat.strongRecOn with
 |_ u ih=>
  have one:∀k:Nat,k<10->isD ((48+k:Nat):Int)=true:=by
   intro k hk
   unfold isD
   simp
   omega
  by_cases h:u<10
  · rw [Zbg h]
    intro c hc
    rw [List.mem_singleton] at hc
    subst hc
    exact one u h
  · rw [Zkg h]
    intro c hc
    rcases List.mem_append.1 hc with hc|hc
    · exact ih (u/10) (by omega) c hc
    · rw [List.mem_singleton] at hc
      subst hc
      exact one _ (by omega)
theorem Z5w:∀(u:Nat),1<(dD u).length->(dD u).head?≠some 48:=by
 intro u
 induction u using Nat.strongRecOn with
 |_ u ih=>
  by_cases h:u<10
  · rw [Zbg h]
    intro hl
    simp at hl
  · rw [Zkg h]
    intro _
    have e:(dD (u/10)++ [48+u%10]).head? =(dD (u/10)).head? :=by
     cases hd:dD (u/10) with
     |nil=>exact absurd hd (Z1g _)
     |cons x r=>rfl
    rw [e]
    by_cases h2:u/10<10
    · rw [Zbg h2]
      intro k
      injection k with k
      omega
    · refine ih (u/10) (by omega) ?_
      rw [Zkg h2,List.length_append]
      have:=Z1g (u/10/10)
      cases hd:dD (u/10/10) with
      |nil=>exact absurd hd this
      |cons x r=>simp
theorem Zxe {n:Int} (h0:0<=n) (h1:n<=1099511627776):tokP (decN n)=(⟨2,decN n,n,0⟩,0):=by
 rw [Zxd h0]
 have hne:=Z1g n.toNat
 have hd:=Z9f n.toNat
 have hn:=Z9e n.toNat (by omega)
 have hh:=Z5w n.toNat
 have hc:((n.toNat:Nat):Int)=n:=by omega
 generalize dD n.toNat=w at*
 cases w with
 |nil=>exact absurd rfl hne
 |cons c r=>
  rw [X0]
  have hdc:=hd c (by simp)
  have hl:isL (c:Int)=false:=by
   unfold isD at hdc
   unfold isL
   simp at hdc⊢
   omega
  rw [if_neg (by rw [hl];decide),if_pos hdc,Zaq hd,List.take_length]
  have:numb (c::r)=(n,0):=by
   unfold numb
   rw [if_neg (fun k=>hh k.1 k.2),hn,hc]
  rw [this]
theorem Zdb {n:Int} (h0:0<=n) (h1:n<=1099511627776):TokW (decN n):=by
 refine ⟨by rw [Zxe h0 h1],by rw [Zxe h0 h1],?_⟩
 rw [Zxd h0]
 exact Z1g _
theorem Ya6 {c:Nat} (h:wb c=true):isLD (c:Int)=true:=by
 unfold wb at h
 unfold isLD isL isD
 simp at h⊢
 omega
theorem Zpx {s:List Nat} (h:Yy s=true):tokP s=(⟨1,s,0,0⟩,0):=by
 unfold Yy at h
 rw [Bool.and_eq_true,Bool.and_eq_true,decide_eq_true_eq] at h
 obtain ⟨⟨h1,h2⟩,h3⟩:=h
 cases s with
 |nil=>cases h2
 |cons c r=>
  have hc:isL (c:Int)=true:=by
   unfold lowF at h2
   unfold isL
   simp at h2⊢
   omega
  rw [X0,if_pos hc,Zaq fun c hc=>Ya6 (List.all_eq_true.1 h3 c hc),if_neg (by omega),List.take_length]
theorem Zeo {s:List Nat} (h:Yy s=true):TokW s:=by
 refine ⟨by rw [Zpx h],by rw [Zpx h],?_⟩
 rintro rfl
 simp [Yy,lowF] at h
theorem Z1h:∀k:WK,∀w∈k.words,Yy w=true:=by
 intro k
 cases k<;>decide
theorem Z9g {k:WK} {i:Nat} (h:i<k.words.length):k.words.getD i []∈k.words:=by
 have:k.words.getD i []=k.words[i]:=by simp [List.getD,h]
 rw [this]
 exact List.getElem_mem h
theorem Z5x {k:WK} {i:Nat} (h:i<k.words.length):Yy (k.words.getD i [])=true:=Z1h k _ (Z9g h)
end
section
open Go
def d0:List Int:= [0,0,0,0]
theorem Zp8 {a b c d:Int} (h:Vr [a,b,c,d]=true):in1 a=true/\in1 b=true/\in1 c=true/\in1 d=true:=by
 rw [Zi0] at h
 rw [Bool.and_eq_true] at h
 simpa using h.1
theorem X5 {a:Int} (h:in1 a=true):a= -1\/a=0\/a=1:=by
 unfold in1 at h
 simp at h
 omega
def UnF (u:List Int):Prop:=(u=d0/\txU u= [])\/(∃i,i<4/\u=incD d0 (i:Nat)/\txU u= [WK.un.words.getD i []])\/(∃j,j<4/\u=decD d0 (j:Nat)/\txU u= [sPer,WK.un.words.getD j []])\/(∃i,i<4/\∃j,j<4/\u=decD (incD d0 (i:Nat)) (j:Nat)/\txU u= [WK.un.words.getD i [],sPer,WK.un.words.getD j []])
instance (u:List Int):Decidable (UnF u):=by unfold UnF;infer_instance
theorem unF {a b c d:Int} (h:Vr [a,b,c,d]=true):UnF [a,b,c,d]:=by
 obtain ⟨ha,hb,hc,hd⟩:=Zp8 h
 revert h
 rcases X5 ha with rfl|rfl|rfl<;>rcases X5 hb with rfl|rfl|rfl<;>rcases X5 hc with rfl|rfl|rfl<;>rcases X5 hd with rfl|rfl|rfl
 all_goals (clear ha hb hc hd;decide)
theorem Zch {op n:Int} {u:List Int} {k:Nat} (h:Zi9 op n u k=true):1<=op/\op<=11/\0<=n/\n<=Z4o op/\k=Zcv op/\Vr u=true/\(op=1\/u= [0,0,0,0]):=by
 unfold Zi9 at h
 simp only [Bool.and_eq_true,Bool.or_eq_true,decide_eq_true_eq] at h
 obtain ⟨⟨⟨⟨⟨⟨h1,h2⟩,h3⟩,h4⟩,h5⟩,h6⟩,h7⟩:=h
 exact ⟨h1,h2,h3,h4,h5,h6,h7⟩
theorem len2 {α:Type} {l:List α} (h:l.length=2):∃a b,l= [a,b]:=by
 match l,h with
 | [a,b],_=>exact ⟨a,b,rfl⟩
end
section
open Go
abbrev qCGj:=(8:Nat)
abbrev qCG8:=(1:Nat)
abbrev qCGc:=(0:Int)
abbrev qCG5 (a0:List (List Nat)):=(List.length a0)
abbrev qCGe:=(1000000000:Nat)
abbrev qCGg (a0:Ex):=(Ex.op a0-(3:Int))
abbrev qCG2 (a0:Ex):=(Ex.mk (Ex.op a0) (Ex.n a0) (Ex.d0 a0) (Ex.d1 a0) (Ex.d2 a0) (Ex.d3 a0) (Ex.l a0))
abbrev qCGl (a0:List (List Nat)):=(List.take (qCG5 a0) a0++ [[(45:Nat)]])
abbrev qCGa:=(140737488355328:Nat)
abbrev qCGi (a0:List (List Nat)):=(List.length a0+qCG8)
abbrev qCGq:=(16:Nat)
abbrev qCGf (a0:List (List Nat)) (b0:List (List Nat)) (c0:Nat):=(List.length a0<=List.length a0/\fzO (some (b0,c0))<=List.length a0/\(qCGi a0)*qCGq<=qCGa)
abbrev qCGb:=(1:Int)
abbrev qCG9 (a0:Ex):=(↑(List.length (Ex.l a0)):Int)
abbrev qCGm (a0:List (List Nat)):=(List.take (qCG5 a0) a0++ [[(42:Nat)]])
abbrev qCG1 (a0:Ex) (b0:List (List Nat)) (c0:List (List Nat)) (d0:Nat) (e0:Nat) (f0:List (List Nat)):=((wr IntKind.i64 (qCGg a0)==(↑(0:Nat):Int))=false->((wr IntKind.i64 (qCGg a0)==(↑((0:Nat)+qCG8):Int))=true->(qCGf b0 c0 d0)/\qCGc<=qCGb/\qCGb+qCGb<=(qCG9 a0)/\∀(x_2:Ex),(Ex.l a0)[Int.toNat qCGb]? =some x_2->True/\∀(y:Int),y=Zz (Ex.op a0)->(List.length b0+qCG8=List.length (qCGl b0)/\fzO (some (c0,d0))<=List.length (qCGl b0)/\Ex.sz (qCG2 x_2)+qCG8<=e0/\Zs (qCG2 x_2)=true/\qCG8<=List.length (qCGl b0)/\List.length (qCGl b0)+qCGj*Ex.sz (qCG2 x_2)+(10:Nat)<=qCGe)/\∀(l'_2:List (List Nat)),l'_2=List.take (qCG5 b0) b0++ [[(45:Nat)]]++par (Ex.op (qCG2 x_2)) (wr IntKind.i64 (y+qCGb)) (txX (qCG2 x_2))->l'_2=f0/\List.length l'_2=List.length f0/\fzO (some (List.take (qCG5 b0) b0++ [[(45:Nat)]],fzO (some (c0,d0))))=fzO (some (c0,d0)))/\((wr IntKind.i64 (qCGg a0)==(↑((0:Nat)+qCG8):Int))=false->((wr IntKind.i64 (qCGg a0)==(↑((0:Nat)+qCG8+qCG8):Int))=true->(qCGf b0 c0 d0)/\qCGc<=qCGb/\qCGb+qCGb<=(qCG9 a0)/\∀(x_2:Ex),(Ex.l a0)[Int.toNat qCGb]? =some x_2->True/\∀(y:Int),y=Zz (Ex.op a0)->(List.length b0+qCG8=List.length (qCGm b0)/\fzO (some (c0,d0))<=List.length (qCGm b0)/\Ex.sz (qCG2 x_2)+qCG8<=e0/\Zs (qCG2 x_2)=true/\qCG8<=List.length (qCGm b0)/\List.length (qCGm b0)+qCGj*Ex.sz (qCG2 x_2)+(10:Nat)<=qCGe)/\∀(l'_2:List (List Nat)),l'_2=List.take (qCG5 b0) b0++ [[(42:Nat)]]++par (Ex.op (qCG2 x_2)) (wr IntKind.i64 (y+qCGb)) (txX (qCG2 x_2))->l'_2=f0/\List.length l'_2=List.length f0/\fzO (some (List.take (qCG5 b0) b0++ [[(42:Nat)]],fzO (some (c0,d0))))=fzO (some (c0,d0)))/\((wr IntKind.i64 (qCGg a0)==(↑((0:Nat)+qCG8+qCG8):Int))=false->True)))
abbrev qCGn (a0:List (List Nat)):=(List.take (qCG5 a0) a0++ [[(43:Nat)]])
abbrev qCG3 (a0:Ex) (b0:List (List Nat)) (c0:List (List Nat)) (d0:Nat) (e0:Nat) (f0:List (List Nat)):=((wr IntKind.i64 (qCGg a0)==(↑(0:Nat):Int))=true->(qCGf b0 c0 d0)/\qCGc<=qCGb/\qCGb+qCGb<=(qCG9 a0)/\∀(x_2:Ex),(Ex.l a0)[Int.toNat qCGb]? =some x_2->True/\∀(y:Int),y=Zz (Ex.op a0)->(List.length b0+qCG8=List.length (qCGn b0)/\fzO (some (c0,d0))<=List.length (qCGn b0)/\Ex.sz (qCG2 x_2)+qCG8<=e0/\Zs (qCG2 x_2)=true/\qCG8<=List.length (qCGn b0)/\List.length (qCGn b0)+qCGj*Ex.sz (qCG2 x_2)+(10:Nat)<=qCGe)/\∀(l'_2:List (List Nat)),l'_2=List.take (qCG5 b0) b0++ [[(43:Nat)]]++par (Ex.op (qCG2 x_2)) (wr IntKind.i64 (y+qCGb)) (txX (qCG2 x_2))->l'_2=f0/\List.length l'_2=List.length f0/\fzO (some (List.take (qCG5 b0) b0++ [[(43:Nat)]],fzO (some (c0,d0))))=fzO (some (c0,d0)))
abbrev qCGo:=(40:Nat)
abbrev qCGh (a0:List (List Nat)) (b0:Nat):=(some (List.take (qCG5 a0) a0++ [[(105:Nat),(102:Nat)],[qCGo]],b0))
abbrev qCG4 (a0:List (List Nat)) (b0:List (List Nat)) (c0:Nat):=(some (List.take (qCG5 a0) a0++ [[(60:Nat)]],fzO (qCGh b0 c0)))
abbrev qCGp:=(44:Nat)
abbrev qCG6 (a0:List (List Nat)):=(List.take (qCG5 a0) a0++ [[qCGp]])
abbrev qCG7 (a0:List (List Nat)) (b0:Nat) (c0:Ex) (d0:Nat):=(List.length a0=List.length a0/\b0<=List.length a0/\Ex.sz (qCG2 c0)+qCG8<=d0/\Zs (qCG2 c0)=true/\qCG8<=List.length a0/\List.length a0+qCGj*Ex.sz (qCG2 c0)+(10:Nat)<=qCGe)
abbrev qCGd (a0:List (List Nat)):=(List.take (qCG5 a0) a0++ [[(105:Nat),(102:Nat)],[qCGo]])
abbrev qCGk (a0:List (List Nat)):=(List.take (qCG5 a0) a0++ [[(60:Nat)]])
abbrev qCGr (a0:List (List Nat)) (b0:List (List Nat)) (c0:List (List Nat)) (d0:Nat):=(some (List.take (qCG5 a0) a0++ [[qCGp]],fzO (qCG4 b0 c0 d0)))
theorem Zqo (m:Nat) (l:List (List Nat)) (fz:Nat) (x:Ex) (l':List (List Nat)):Zh E Fpu (vc E (Fxp' m) 400) 79 [.ptr 0 0,exA x] (hpP E Th.strs (some (l,fz))) 2 (prnK E Th.strs (some (l,fz)) l')=(
 ((Ex.op x==qCGb)=true->(qCGc<=Ex.n x/\Ex.n x+qCGb<=(10000000000000:Int))/\∀(y:List Nat),y=decN (Ex.n x)->(List.length l<=List.length l/\fz<=List.length l/\(qCGi l)*qCGq<=qCGa)/\(List.length l+qCG8=List.length (List.take (qCG5 l) l++ [y])/\fz<=List.length (List.take (qCG5 l) l++ [y])/\qCG8<=List.length (List.take (qCG5 l) l++ [y])/\List.length (List.take (qCG5 l) l++ [y])+qCGj<=qCGe)/\∀(l'_1:List (List Nat)),l'_1=List.take (qCG5 l) l++ [y]++txU [Ex.d0 x,Ex.d1 x,Ex.d2 x,Ex.d3 x]->l'_1=l'/\List.length l'_1=List.length l'/\fzO (some (List.take (qCG5 l) l++ [y],fz))=fzO (some (l,fz)))/\((Ex.op x==qCGb)=false->((Ex.op x==(2:Int))=true->qCGc<=Ex.n x/\Ex.n x+qCGb<=(↑(List.length (WK.words WK.at_)):Int)/\∀(x_1:List Nat),(WK.words WK.at_)[Int.toNat (Ex.n x)]? =some x_1->(List.length l<=List.length l/\fz<=List.length l/\(qCGi l)*qCGq<=qCGa)/\List.take (qCG5 l) l++ [x_1]=l'/\List.length l+qCG8=List.length l'/\fz=fzO (some (l,fz)))/\((Ex.op x==(2:Int))=false->((Ex.op x==(11:Int))=true->(List.length l<=List.length l/\fz<=List.length l/\(List.length l+(2:Nat))*qCGq<=qCGa)/\qCGc<=qCGc/\qCGc+qCGb<=(qCG9 x)/\∀(x_1:Ex),(Ex.l x)[Int.toNat qCGc]? =some x_1->(List.length l+(2:Nat)=List.length (qCGd l)/\fz<=List.length (qCGd l)/\Ex.sz (qCG2 x_1)+qCG8<=m/\Zs (qCG2 x_1)=true/\qCG8<=List.length (qCGd l)/\List.length (qCGd l)+qCGj*Ex.sz (qCG2 x_1)+qCGj<=qCGe)/\∀(l'_1:List (List Nat)),l'_1=List.take (qCG5 l) l++ [[(105:Nat),(102:Nat)],[qCGo]]++txX (qCG2 x_1)->(List.length l'_1<=List.length l'_1/\fzO (qCGh l fz)<=List.length l'_1/\(qCGi l'_1)*qCGq<=qCGa)/\qCGc<=qCGb/\qCGb+qCGb<=(qCG9 x)/\∀(x_2:Ex),(Ex.l x)[Int.toNat qCGb]? =some x_2->(List.length l'_1+qCG8=List.length (qCGk l'_1)/\fzO (qCGh l fz)<=List.length (qCGk l'_1)/\Ex.sz (qCG2 x_2)+qCG8<=m/\Zs (qCG2 x_2)=true/\qCG8<=List.length (qCGk l'_1)/\List.length (qCGk l'_1)+qCGj*Ex.sz (qCG2 x_2)+qCGj<=qCGe)/\∀(l'_2:List (List Nat)),l'_2=List.take (qCG5 l'_1) l'_1++ [[(60:Nat)]]++txX (qCG2 x_2)->(List.length l'_2<=List.length l'_2/\fzO (qCG4 l'_1 l fz)<=List.length l'_2/\(qCGi l'_2)*qCGq<=qCGa)/\qCGc<=(2:Int)/\(2:Int)+qCGb<=(qCG9 x)/\∀(x_3:Ex),(Ex.l x)[Int.toNat (2:Int)]? =some x_3->(List.length l'_2+qCG8=List.length (qCG6 l'_2)/\fzO (qCG4 l'_1 l fz)<=List.length (qCG6 l'_2)/\Ex.sz (qCG2 x_3)+qCG8<=m/\Zs (qCG2 x_3)=true/\qCG8<=List.length (qCG6 l'_2)/\List.length (qCG6 l'_2)+qCGj*Ex.sz (qCG2 x_3)+qCGj<=qCGe)/\∀(l'_3:List (List Nat)),l'_3=List.take (qCG5 l'_2) l'_2++ [[qCGp]]++txX (qCG2 x_3)->(List.length l'_3<=List.length l'_3/\fzO (qCGr l'_2 l'_1 l fz)<=List.length l'_3/\(qCGi l'_3)*qCGq<=qCGa)/\qCGc<=(3:Int)/\(3:Int)+qCGb<=(qCG9 x)/\∀(x_4:Ex),(Ex.l x)[Int.toNat (3:Int)]? =some x_4->(List.length l'_3+qCG8=List.length (qCG6 l'_3)/\fzO (qCGr l'_2 l'_1 l fz)<=List.length (qCG6 l'_3)/\Ex.sz (qCG2 x_4)+qCG8<=m/\Zs (qCG2 x_4)=true/\qCG8<=List.length (qCG6 l'_3)/\List.length (qCG6 l'_3)+qCGj*Ex.sz (qCG2 x_4)+qCGj<=qCGe)/\∀(l'_4:List (List Nat)),l'_4=List.take (qCG5 l'_3) l'_3++ [[qCGp]]++txX (qCG2 x_4)->(List.length l'_4<=List.length l'_4/\fzO (some (List.take (qCG5 l'_3) l'_3++ [[qCGp]],fzO (qCGr l'_2 l'_1 l fz)))<=List.length l'_4/\(qCGi l'_4)*qCGq<=qCGa)/\List.take (qCG5 l'_4) l'_4++ [[(41:Nat)]]=l'/\List.length l'_4+qCG8=List.length l'/\fzO (some (List.take (qCG5 l'_3) l'_3++ [[qCGp]],fzO (qCGr l'_2 l'_1 l fz)))=fzO (some (l,fz)))/\((Ex.op x==(11:Int))=false->((Ex.op x==(3:Int))=true->qCGc<=qCGc/\qCGc+qCGb<=(qCG9 x)/\∀(x_1:Ex),(Ex.l x)[Int.toNat qCGc]? =some x_1->True/\∀(y:Int),y=Zz (Ex.op x)->(qCG7 l fz x_1 m)/\∀(l'_1:List (List Nat)),l'_1=l++par (Ex.op (qCG2
x_1)) y (txX (qCG2 x_1))->qCGc<=wr IntKind.i64 (qCGg x)/\wr IntKind.i64 (qCGg x)+qCGb<=(↑(3:Nat):Int)/\(qCG3 x l'_1 l fz m l')/\(qCG1 x l'_1 l fz m l'))/\((Ex.op x==(3:Int))=false->((Ex.op x==(4:Int))=true->qCGc<=qCGc/\qCGc+qCGb<=(qCG9 x)/\∀(x_1:Ex),(Ex.l x)[Int.toNat qCGc]? =some x_1->True/\∀(y:Int),y=Zz (Ex.op x)->(qCG7 l fz x_1 m)/\∀(l'_1:List (List Nat)),l'_1=l++par (Ex.op (qCG2 x_1)) y (txX (qCG2 x_1))->qCGc<=wr IntKind.i64 (qCGg x)/\wr IntKind.i64 (qCGg x)+qCGb<=(↑(3:Nat):Int)/\(qCG3 x l'_1 l fz m l')/\(qCG1 x l'_1 l fz m l'))/\((Ex.op x==(4:Int))=false->((Ex.op x==(5:Int))=true->qCGc<=qCGc/\qCGc+qCGb<=(qCG9 x)/\∀(x_1:Ex),(Ex.l x)[Int.toNat qCGc]? =some x_1->True/\∀(y:Int),y=Zz (Ex.op x)->(qCG7 l fz x_1 m)/\∀(l'_1:List (List Nat)),l'_1=l++par (Ex.op (qCG2 x_1)) y (txX (qCG2 x_1))->qCGc<=wr IntKind.i64 (qCGg x)/\wr IntKind.i64 (qCGg x)+qCGb<=(↑(3:Nat):Int)/\(qCG3 x l'_1 l fz m l')/\(qCG1 x l'_1 l fz m l'))/\((Ex.op x==(5:Int))=false->qCGc<=wr IntKind.i64 (Ex.op x-(6:Int))/\wr IntKind.i64 (Ex.op x-(6:Int))+qCGb<=(↑(List.length (WK.words WK.ca)):Int)/\∀(x_1:List Nat),(WK.words WK.ca)[Int.toNat (wr IntKind.i64 (Ex.op x-(6:Int)))]? =some x_1->(List.length l<=List.length l/\fz<=List.length l/\(List.length l+(2:Nat))*qCGq<=qCGa)/\qCGc<=qCGc/\qCGc+qCGb<=(qCG9 x)/\∀(x_2:Ex),(Ex.l x)[Int.toNat qCGc]? =some x_2->(List.length l+(2:Nat)=List.length (List.take (qCG5 l) l++ [x_1,[qCGo]])/\fz<=List.length (List.take (qCG5 l) l++ [x_1,[qCGo]])/\Ex.sz (qCG2 x_2)+qCG8<=m/\Zs (qCG2 x_2)=true/\qCG8<=List.length (List.take (qCG5 l) l++ [x_1,[qCGo]])/\List.length (List.take (qCG5 l) l++ [x_1,[qCGo]])+qCGj*Ex.sz (qCG2 x_2)+qCGj<=qCGe)/\∀(l'_1:List (List Nat)),l'_1=List.take (qCG5 l) l++ [x_1,[qCGo]]++txX (qCG2 x_2)->(List.length l'_1<=List.length l'_1/\fzO (some (List.take (qCG5 l) l++ [x_1,[qCGo]],fz))<=List.length l'_1/\(qCGi l'_1)*qCGq<=qCGa)/\qCGc<=qCGb/\qCGb+qCGb<=(qCG9 x)/\∀(x_3:Ex),(Ex.l x)[Int.toNat qCGb]? =some x_3->(List.length l'_1+qCG8=List.length (qCG6 l'_1)/\fzO (some (List.take (qCG5 l) l++ [x_1,[qCGo]],fz))<=List.length (qCG6 l'_1)/\Ex.sz (qCG2 x_3)+qCG8<=m/\Zs (qCG2 x_3)=true/\qCG8<=List.length (qCG6 l'_1)/\List.length (qCG6 l'_1)+qCGj*Ex.sz (qCG2 x_3)+qCGj<=qCGe)/\∀(l'_2:List (List Nat)),l'_2=List.take (qCG5 l'_1) l'_1++ [[qCGp]]++txX (qCG2 x_3)->(List.length l'_2<=List.length l'_2/\fzO (some (List.take (qCG5 l'_1) l'_1++ [[qCGp]],fzO (some (List.take (qCG5 l) l++ [x_1,[qCGo]],fz))))<=List.length l'_2/\(qCGi l'_2)*qCGq<=qCGa)/\List.take (qCG5 l'_2) l'_2++ [[(41:Nat)]]=l'/\List.length l'_2+qCG8=List.length l'/\fzO (some (List.take (qCG5 l'_1) l'_1++ [[qCGp]],fzO (some (List.take (qCG5 l) l++ [x_1,[qCGo]],fz))))=fzO (some (l,fz))))))))):=by kernel_rfl
theorem Yaj (op n a b c d:Int) (l:List Ex):Ex.op (.mk op n a b c d l)=op:=rfl
theorem n_mk (op n a b c d:Int) (l:List Ex):Ex.n (.mk op n a b c d l)=n:=rfl
theorem Yak (op n a b c d:Int) (l:List Ex):Ex.d0 (.mk op n a b c d l)=a:=rfl
theorem Yal (op n a b c d:Int) (l:List Ex):Ex.d1 (.mk op n a b c d l)=b:=rfl
theorem Yam (op n a b c d:Int) (l:List Ex):Ex.d2 (.mk op n a b c d l)=c:=rfl
theorem Yan (op n a b c d:Int) (l:List Ex):Ex.d3 (.mk op n a b c d l)=d:=rfl
theorem l_mk (op n a b c d:Int) (l:List Ex):Ex.l (.mk op n a b c d l)=l:=rfl
theorem u_mk (op n a b c d:Int) (l:List Ex):Ex.u (.mk op n a b c d l)= [a,b,c,d]:=rfl
theorem len4 {α:Type} {l:List α} (h:l.length=4):∃a b c d,l= [a,b,c,d]:=by
 match l,h with
 | [a,b,c,d],_=>exact ⟨a,b,c,d,rfl⟩
theorem Zlb (op least:Int) (t:List (List Nat)):(par op least t).length<=t.length+2:=by
 unfold par
 split
 · omega
 · simp
theorem Zop:∀m,PxOk m
 |0=>fun x h=>by omega
 |m+1=>by
  intro x hx hf l fz hfz h1 hl
  have hm:=Zop m
  refine Zcq E_ok (Yr E_ok Zp4 fun f N c=>(Zb2 E_ok (Z6t hm) 400 f N c).1) rfl ?_
  show Zh E Fpu (vc E (Fxp' m) 400) 79 [.ptr 0 0,exA x] (hpP E Th.strs (some (l,fz))) 2 (prnK E Th.strs (some (l,fz)) (l++txX x))
  rw [Zqo];delta qCGj qCG8 qCGc qCG5 qCGe qCGg qCG2 qCGl qCGa qCGi qCGq qCGf qCGb qCG9 qCGm qCG1 qCGn qCG3 qCGo qCGh qCG4 qCGp qCG6 qCG7 qCGd qCGk qCGr
  simp only [fzO,List.take_length,Ex.eta,forall_eq,beq_iff_eq,beq_eq_false_iff_ne,ne_eq]
  rw [Zc2,Bool.and_eq_true] at hf
  obtain ⟨hh,hfl⟩:=hf
  have hkf:∀y∈x.l,Zs y=true:=formL_iff.1 hfl
  rw [Ex.sz_eq] at hx hl
  obtain ⟨op,n,a,b,c,d,xs⟩:=x
  simp only [Yaj,n_mk,Yak,Yal,Yam,Yan,l_mk,u_mk] at*
  obtain ⟨g1,g2,g3,g4,g5,g6,g7⟩:=Zch hh
  have htx:txX (.mk op n a b c d xs)=txN op n [a,b,c,d] (xs.map Ex.op) (txL xs):=by rw [txX]
  rw [htx]
  clear hh hfl htx
  have w0:wr .i64 0=0:=by decide
  have w1:wr .i64 1=1:=by decide
  have w2:wr .i64 2=2:=by decide
  have w3:wr .i64 3=3:=by decide
  have t3:Zz 3=1:=rfl
  have t4:Zz 4=1:=rfl
  have t5:Zz 5=2:=rfl
  refine ⟨fun q1=> ?_,fun q1=>⟨fun q2=> ?_,fun q2=>⟨fun q3=> ?_,fun q3=>⟨fun q4=> ?_,fun q4=>⟨fun q5=> ?_,fun q5=>⟨fun q6=> ?_,fun q6=> ?_⟩⟩⟩⟩⟩⟩
  · subst q1
    have h4:n<=1099511627776:=g4
    refine ⟨⟨g3,by omega⟩,⟨Nat.le_refl _,hfz,by omega⟩,⟨by simp,by simp;omega,by simp,by simp;omega⟩,?_⟩
    simp [txN]
  · subst q2
    have h4:n<=15:=g4
    have L:WK.at_.words.length=16:=rfl
    refine ⟨g3,by rw [L];omega,fun w hw=>⟨⟨Nat.le_refl _,hfz,by omega⟩,?_⟩⟩
    have:WK.at_.words.getD n.toNat []=w:=by simp [List.getD,hw]
    unfold txN
    rw [if_neg (by decide),if_pos rfl,this]
    simp
  · subst q3
    obtain ⟨x1,x2,x3,x4,rfl⟩:=len4 (show xs.length=4 from g5)
    have s:x1.sz+(x2.sz+(x3.sz+(x4.sz+0)))+1<m+1:=hx
    have s':l.length+8*(x1.sz+(x2.sz+(x3.sz+(x4.sz+0)))+1)+8<=1000000000:=hl
    have p1:=Yk x1
    have p2:=Yk x2
    have p3:=Yk x3
    have p4:=Yk x4
    have f1:=hkf x1 (by simp)
    have f2:=hkf x2 (by simp)
    have f3:=hkf x3 (by simp)
    have f4:=hkf x4 (by simp)
    simp [f1,f2,f3,f4,txN,txS,txL,sIf,U3,Zh1,Y8,Xg]
    omega
  · subst q4
    obtain ⟨x1,x2,rfl⟩:=len2 (show xs.length=2 from g5)
    have s:x1.sz+(x2.sz+0)+1<m+1:=hx
    have s':l.length+8*(x1.sz+(x2.sz+0)+1)+8<=1000000000:=hl
    have p1:=Yk x1
    have p2:=Yk x2
    have f1:=hkf x1 (by simp)
    have f2:=hkf x2 (by simp)
    have r1:=Zlb x1.op 1 (txX x1)
    simp [w0,w1,w2,w3,t3,f1,f2,txN,txL,sgnO,Zla]
    omega
  · subst q5
    obtain ⟨x1,x2,rfl⟩:=len2 (show xs.length=2 from g5)
    have s:x1.sz+(x2.sz+0)+1<m+1:=hx
    have s':l.length+8*(x1.sz+(x2.sz+0)+1)+8<=1000000000:=hl
    have p1:=Yk x1
    have p2:=Yk x2
    have f1:=hkf x1 (by simp)
    have f2:=hkf x2 (by simp)
    have r1:=Zlb x1.op 1 (txX x1)
    simp [w0,w1,w2,w3,t4,f1,f2,txN,txL,sgnO,Zfu]
    omega
  · subst q6
    obtain ⟨x1,x2,rfl⟩:=len2 (show xs.length=2 from g5)
    have s:x1.sz+(x2.sz+0)+1<m+1:=hx
    have s':l.length+8*(x1.sz+(x2.sz+0)+1)+8<=1000000000:=hl
    have p1:=Yk x1
    have p2:=Yk x2
    have f1:=hkf x1 (by simp)
    have f2:=hkf x2 (by simp)
    have r1:=Zlb x1.op 2 (txX x1)
    simp [w0,w1,w2,w3,t5,f1,f2,txN,txL,sgnO,sMul]
    omega
  · have L:WK.ca.words.length=5:=rfl
    obtain ⟨x1,x2,rfl⟩:=len2 (show xs.length=2 by rw [g5];unfold Zcv;rw [if_neg (by omega),if_neg (by omega)])
    have s:x1.sz+(x2.sz+0)+1<m+1:=hx
    have s':l.length+8*(x1.sz+(x2.sz+0)+1)+8<=1000000000:=hl
    have p1:=Yk x1
    have p2:=Yk x2
    have f1:=hkf x1 (by simp)
    have f2:=hkf x2 (by simp)
    have wo:wr .i64 (op-6)=op-6:=wr64 (by omega) (by omega)
    simp only [wo]
    refine ⟨by omega,by rw [L];omega,fun w hw=> ?_⟩
    have e:WK.ca.words.getD (op-6).toNat []=w:=by simp [List.getD,hw]
    have q7:¬(op=3\/op=4\/op=5):=by omega
    unfold txN
    rw [if_neg q1,if_neg q2,if_neg q3,if_neg q7,e]
    simp [f1,f2,txS,txL,U3,Y8,Xg]
    omega
end
section
open Go
def CsOk:List (List Nat)->List Cls->Prop
 |_,[]=>True
 |seen,c::r=>Yh c=true/\resF c.name=false/\c.name∉seen/\c.when_.length<=8/\Yb c.pay<=24/\CsOk (c.name::seen) r
def Z5t (m:List (List Nat×Bool)) (seen:List (List Nat)):Prop:=∀a,(Yl m a).getD false=decide (a∈seen)
theorem Zxa {m:List (List Nat×Bool)} {seen:List (List Nat)} (h:Z5t m seen) (a:List Nat):Z5t (putS m a true) (a::seen):=by
 intro b
 rw [Zbv]
 by_cases e:a=b
 · rw [if_pos e]
   subst e
   simp
 · rw [if_neg e,h b]
   simp [Ne.symm e]
theorem Zpu:∀(cs:List Cls) (a b:Bool) (m:List (List Nat×Bool)) (seen:List (List Nat)),Z5t m seen->(goC a b m cs=0↔a=false/\b=false/\CsOk seen cs)
 | [],a,b,m,seen,hm=>by
  unfold goC CsOk
  cases a<;>cases b<;>decide
 |c::r,a,b,m,seen,hm=>by
  rw [Ui]
  unfold CsOk
  by_cases hc:Yh c=true
  · rw [if_pos hc,Zpu r _ _ _ _ (Zxa hm c.name),hm c.name]
    simp only [Bool.or_eq_false_iff,decide_eq_false_iff_not]
    constructor
    · rintro ⟨⟨⟨h1,h2⟩,h3⟩,⟨⟨h4,h5⟩,h6⟩,h7⟩
      exact ⟨h1,h4,hc,h2,h3,by omega,by omega,h7⟩
    · rintro ⟨h1,h4,_,h2,h3,h5,h6,h7⟩
      exact ⟨⟨⟨h1,h2⟩,h3⟩,⟨⟨h4,by omega⟩,by omega⟩,h7⟩
  · rw [if_neg hc]
    constructor
    · intro h
      cases h
    · rintro ⟨_,_,h,_⟩
      exact absurd h hc
theorem Zan (t:Tar):Yq t=0↔Yy t.name=true/\1<=t.for_/\t.for_<=6/\resF t.name=false/\t.clauses.length<=64/\CsOk [] t.clauses:=by
 unfold Yq
 split
 · rename_i h
   rw [Zpu _ _ _ _ [] (fun a=>by simp [Yl])]
   rw [decide_eq_false_iff_not]
   constructor
   · rintro ⟨h1,h2,h3⟩
     exact ⟨h.1,h.2.1,h.2.2,h1,by omega,h3⟩
   · rintro ⟨_,_,_,h1,h2,h3⟩
     exact ⟨h1,by omega,h3⟩
 · rename_i h
   constructor
   · intro k
     cases k
   · rintro ⟨h1,h2,h3,_⟩
     exact absurd ⟨h1,h2,h3⟩ h
theorem Zkc (i:Nat) (w:Tst) (r:List Tst):txTs i (w::r)=(if i=0 then Zcz else sAnd)::(txW w++txTs (i+1) r):=rfl
theorem Zcr {w:Tst} (h:Z6 w=true):0<=w.attr/\w.attr<16/\0<=w.low/\w.low<=1099511627776/\0<=w.high/\w.high<=1099511627776:=of_decide_eq_true h
theorem Zxb (c:Cls) (r:List Cls):txCs (c::r)=txC c++txCs r:=rfl
theorem Zen {c:Cls} (h:Yh c=true):Yy c.name=true/\Zs c.pay=true/\∀w∈c.when_,Z6 w=true:=by
 unfold Yh at h
 rw [Bool.and_eq_true,Bool.and_eq_true] at h
 exact ⟨h.1.1,h.1.2,List.all_eq_true.1 h.2⟩
end
section
open Go
section
variable {α β : Type}
end
end
section
open Go
def TkG (t:Tok):Prop:=TokW t.text/\sT t=tkS t.text/\(t.kind=1->Yy t.text=true)/\(t.kind=2->0<=t.n/\t.n<=1099511627776)
def LxOk (l:List Tok):Prop:=∀t∈l,TkG t
theorem LxOk.drop {l:List Tok} (h:LxOk l) (k:Nat):LxOk (l.drop k):=fun t ht=>h t (List.mem_of_mem_drop ht)
theorem LxOk.tail {l:List Tok} (h:LxOk l):LxOk l.tail:=fun t ht=>h t (List.mem_of_mem_tail ht)
section
variable {α β : Type}
end
theorem Zi4 (s:List (List Nat)) (c:Cls) (r:List Cls):CsOk s (c::r)=(Yh c=true/\resF c.name=false/\c.name∉s/\c.when_.length<=8/\Yb c.pay<=24/\CsOk (c.name::s) r):=rfl
end
section
open Go
def AllW (ws:List (List Nat)):Prop:=∀w∈ws,TokW w
theorem Wp {a b:List (List Nat)} (h1:AllW a) (h2:AllW b):AllW (a++b):=fun w hw=>(List.mem_append.1 hw).elim (h1 w) (h2 w)
theorem Zf {w:List Nat} {b:List (List Nat)} (h1:TokW w) (h2:AllW b):AllW (w::b):=fun x hx=>(List.mem_cons.1 hx).elim (fun e=>e▸h1) (h2 x)
theorem Z8:AllW []:=fun w hw=>by cases hw
theorem tw {w:List Nat} (h1:(tokP w).2=0) (h2:(tokP w).1.text=w) (h3:w≠ []):TokW w:=⟨h1,h2,h3⟩
theorem Zlt:TokW U3:=tw rfl rfl (by decide)
theorem Zhm:TokW Xg:=tw rfl rfl (by decide)
theorem Zhn:TokW Y8:=tw rfl rfl (by decide)
theorem Z44:TokW Zh1:=tw rfl rfl (by decide)
theorem Z45:TokW Z1p:=tw rfl rfl (by decide)
theorem Z46:TokW Zla:=tw rfl rfl (by decide)
theorem Zz8:TokW Zfu:=tw rfl rfl (by decide)
theorem Z8h:TokW sMul:=tw rfl rfl (by decide)
theorem Z47:TokW Zfr:=tw rfl rfl (by decide)
theorem Yat:TokW sLb:=tw rfl rfl (by decide)
theorem Yau:TokW sRb:=tw rfl rfl (by decide)
theorem Yav:TokW sIf:=tw rfl rfl (by decide)
theorem Z3c:TokW sPer:=tw rfl rfl (by decide)
theorem Yaw:TokW sIs:=tw rfl rfl (by decide)
theorem Yax:TokW sIn:=tw rfl rfl (by decide)
theorem Z8i:TokW sPay:=tw rfl rfl (by decide)
theorem Z8j:TokW sFor:=tw rfl rfl (by decide)
theorem Zvd:TokW Zh5:=tw rfl rfl (by decide)
theorem Zve:TokW Yp:=tw rfl rfl (by decide)
theorem Z48:TokW Zcz:=tw rfl rfl (by decide)
theorem Z8k:TokW sAnd:=tw rfl rfl (by decide)
theorem Zjr {k:WK} {i:Nat} (h:i<k.words.length):TokW (k.words.getD i []):=Zeo (Z5x h)
theorem Z8l {a b c d:Int} (h:Vr [a,b,c,d]=true):AllW (txU [a,b,c,d]):=by
 rcases unF h with ⟨_,h2⟩|⟨i,hi,_,h2⟩|⟨j,hj,_,h2⟩|⟨i,hi,j,hj,_,h2⟩
 · rw [h2];exact Z8
 · rw [h2];exact Zf (Zjr (k:= .un) hi) Z8
 · rw [h2];exact Zf Z3c (Zf (Zjr (k:= .un) hj) Z8)
 · rw [h2];exact Zf (Zjr (k:= .un) hi) (Zf Z3c (Zf (Zjr (k:= .un) hj) Z8))
theorem Zo6 {op least:Int} {t:List (List Nat)} (h:AllW t):AllW (par op least t):=by
 unfold par
 split
 · exact h
 · exact Zf Zlt (Wp h (Zf Zhm Z8))
theorem Zvf:∀{ts:List (List (List Nat))} {ss:List (List Nat)},(∀t∈ts,AllW t)->AllW ss->AllW (txS ts ss)
 | [],_,_,_=>by unfold txS;exact Z8
 |t::r,[],_,_=>by unfold txS;exact Z8
 |t::r,s::ss,h1,h2=>by
  unfold txS
  exact Wp (h1 t (by simp)) (Zf (h2 s (by simp)) (Zvf (fun t ht=>h1 t (by simp [ht])) fun w hw=>h2 w (by simp [hw])))
theorem Zvg:∀{l:List Ex} {t:List (List Nat)},t∈txL l->∃x∈l,t=txX x
 | [],t,h=>by cases h
 |x::r,t,h=>by
  unfold txL at h
  rcases List.mem_cons.1 h with rfl|h
  · exact ⟨x,by simp,rfl⟩
  · obtain ⟨y,hy,e⟩:=Zvg h
    exact ⟨y,by simp [hy],e⟩
theorem Z8m:∀(x:Ex),Zs x=true->AllW (txX x):=by
 suffices H:∀(m:Nat) (x:Ex),x.sz<=m->Zs x=true->AllW (txX x) from fun x=>H _ x (Nat.le_refl _)
 intro m
 induction m with
 |zero=>intro x h;have:=x.sz_pos;omega
 |succ m ih=>
  intro x hm hf
  rw [Zc2,Bool.and_eq_true] at hf
  obtain ⟨hh,hl⟩:=hf
  have hkid:∀y∈x.l,AllW (txX y):=fun y hy=>ih y (by have:=Ex.sz_mem hy;omega) (formL_iff.1 hl y hy)
  obtain ⟨op,n,a,b,c,d,l⟩:=x
  simp only [Ex.op,Ex.n,Ex.u,Ex.d0,Ex.d1,Ex.d2,Ex.d3,Ex.l] at hh hkid
  obtain ⟨h1,h2,h3,h4,h5,h6,h7⟩:=Zch hh
  have hts:∀t∈txL l,AllW t:=by
   intro t ht
   obtain ⟨x,hx,rfl⟩:=Zvg ht
   exact hkid x hx
  have hget:∀i,AllW ((txL l).getD i []):=by
   intro i
   by_cases hi:i<(txL l).length
   · have:(txL l).getD i []=(txL l)[i]:=by simp [List.getD,hi]
     rw [this]
     exact hts _ (List.getElem_mem hi)
   · have:(txL l).getD i []= []:=by simp [List.getD,hi]
     rw [this]
     exact Z8
  rw [txX]
  unfold txN
  split
  · rename_i q
    subst q
    exact Zf (Zdb h3 h4) (Z8l h6)
  · split
    · rename_i q
      subst q
      have:n<=15:=h4
      exact Zf (Zjr (k:= .at_) (show n.toNat<16 by omega)) Z8
    · split
      · exact Zf Yav (Zf Zlt (Zvf hts (Zf Z44 (Zf Zhn (Zf Zhn (Zf Zhm Z8))))))
      · split
        · refine Wp (Zo6 (hget 0)) (Zf ?_ (Zo6 (hget 1)))
          unfold sgnO
          split
          · exact Z46
          · split
            · exact Zz8
            · exact Z8h
        · exact Zf (Zjr (k:= .ca) (show (op-6).toNat<5 by omega)) (Zf Zlt (Zvf hts (Zf Zhn (Zf Zhm Z8))))
theorem Z8n {w:Tst} (h:Z6 w=true):AllW (txW w):=by
 obtain ⟨a0,a1,l0,l1,h0,h1⟩:=Zcr h
 unfold txW
 refine Zf (Zjr (k:= .at_) (show w.attr.toNat<16 by omega)) ?_
 split
 · exact Zf Yaw (Zf (Zdb l0 l1) Z8)
 · exact Zf Yax (Zf (Zdb l0 l1) (Zf Z47 (Zf (Zdb h0 h1) Z8)))
theorem Zvh:∀{ws:List Tst} (i:Nat),(∀w∈ws,Z6 w=true)->AllW (txTs i ws)
 | [],_,_=>Z8
 |w::r,i,h=>by
  rw [Zkc]
  refine Zf ?_ (Wp (Z8n (h w (by simp))) (Zvh _ fun w hw=>h w (by simp [hw])))
  split
  · exact Z48
  · exact Z8k
theorem Z8o {c:Cls} (h:Yh c=true):AllW (txC c):=by
 obtain ⟨k1,k2,k3⟩:=Zen h
 exact Zf Zve (Zf (Zeo k1) (Wp (Zvh _ k3) (Zf Z8i (Wp (Z8m _ k2) (Zf Z45 Z8)))))
theorem Zvi:∀{cs:List Cls} {s:List (List Nat)},CsOk s cs->AllW (txCs cs)
 | [],_,_=>Z8
 |c::r,s,h=>by
  rw [Zi4] at h
  rw [Zxb]
  exact Wp (Z8o h.1) (Zvi h.2.2.2.2.2)
theorem Zo7 {t:Tar} (h:Yq t=0):AllW (Zb8 t):=by
 obtain ⟨h1,h2,h3,h4,h5,h6⟩:=(Zan t).1 h
 exact Zf Zvd (Zf (Zeo h1) (Zf Z8j (Zf (Zjr (k:= .ki) (show (t.for_-1).toNat<6 by omega)) (Zf Yat (Wp (Zvi h6) (Zf Yau Z8))))))
theorem Zf3 {t:Tar} (h:Yq t≠0):Vd t=([],Yq t):=by
 unfold Vd
 rw [if_pos h]
end
section
open Go
structure PcX where
 k:Nat
 r:Nat
 L:List (List Nat)
 fz:Nat
def cOfP (h:Hp thy) (v:SV thy):Nat:=match h (bOf v) with|some (.raw (.sl c _ _ _ _::_) _ _)=>c|_=>0
noncomputable def Apc:Fr thy->Hp thy->Nat->Ann thy:=fun T h i=>{X:=PcX,fr:=fun x=> [(0,T 0),(3,T 3),(12,T 12),(13,T 13),(14,.int false .i64 x.k)],bl:=fun x=>(bOf (T 0),.raw [.sl i 0 x.L.length 1 none] 0 none)::(i,.rows Th.strs x.L x.fz)::blkP h (T 3),src:=fun x=> [(i,1000)],md:= [bOf (T 0),cOfP h (T 0)],ih:=i+1,M:=i+60,meas:=fun x=>x.r}
noncomputable def Fpc:Fns thy:=addL (addS Fpu 79 (Sxp 1000000000)) 43 3 Apc E
def clA (c:Cls):SV thy:= .agg (encF false .clauses c)
abbrev qCLl (a0:Cls):=(Cls.when_ a0=Cls.when_ a0/\(false=true->false=true))
abbrev qCLv (a0:Cls):=(Cls.pay a0)
abbrev qCL1 (a0:Cls):=(Cls.name a0=Cls.name a0/\(qCLl a0)/\Ex.op (qCLv a0)=Ex.op (qCLv a0)/\Ex.n (qCLv a0)=Ex.n (qCLv a0)/\Ex.d0 (qCLv a0)=Ex.d0 (qCLv a0)/\Ex.d1 (qCLv a0)=Ex.d1 (qCLv a0)/\Ex.d2 (qCLv a0)=Ex.d2 (qCLv a0)/\Ex.d3 (qCLv a0)=Ex.d3 (qCLv a0)/\(Ex.l (qCLv a0)=Ex.l (qCLv a0)/\(false=true->false=true))/\True)
abbrev qCLh (a0:PcX):=(↑(PcX.k a0):Int)
abbrev qCLj:=(0:Nat)
abbrev qCLe (a0:Cls):=(↑(List.length (Cls.when_ a0)):Int)
abbrev qCLr:=(1:Int)
abbrev qCL2 (a0:Cls) (b0:PcX) (c0:PcX):=(qCLj=qCLj/\qCLj=qCLj/\(qCLl a0)/\(qCLe a0)=(qCLe a0)/\wr IntKind.i64 ((qCLh b0)+qCLr)=(qCLh c0)/\True)
abbrev qCLu (a0:PcX):=(List.length (PcX.L a0))
abbrev qCL3 (a0:PcX) (b0:List Nat):=(List.take (qCLu a0) (PcX.L a0)++ [[(119:Nat),(104:Nat),(101:Nat),(110:Nat)],b0])
abbrev qCL4 (a0:PcX) (b0:List Nat):=(List.take (qCLu a0) (PcX.L a0)++ [[(97:Nat),(110:Nat),(100:Nat)],b0])
abbrev qCL5:=(1:Nat)
abbrev qCL6 (a0:Cls):=(Ex.mk (Ex.op (qCLv a0)) (Ex.n (qCLv a0)) (Ex.d0 (qCLv a0)) (Ex.d1 (qCLv a0)) (Ex.d2 (qCLv a0)) (Ex.d3 (qCLv a0)) (Ex.l (qCLv a0)))
abbrev qCLc:=(2:Nat)
abbrev qCL7 (a0:PcX):=(List.length (PcX.L a0)+qCLc+qCL5)
abbrev qCL8 (a0:PcX):=(List.length (PcX.L a0)+qCLc)
abbrev qCL9:=(140737488355328:Nat)
abbrev qCLa (a0:PcX):=(List.length (PcX.L a0)+qCLc+qCL5+qCL5)
abbrev qCLb (a0:PcX):=(List.take (qCLu a0) (PcX.L a0)++ [[(112:Nat),(97:Nat),(121:Nat)]])
abbrev qCLd (a0:Tst):=((0:Int)<=Tst.low a0/\Tst.low a0+qCLr<=(10000000000000:Int))
abbrev qCLf (a0:PcX) (b0:List Nat):=(List.take (qCL8 a0) (qCL3 a0 b0)++ [[(105:Nat),(110:Nat)]])
abbrev qCLg (a0:PcX) (b0:List Nat):=(List.take (qCL8 a0) (qCL4 a0 b0)++ [[(105:Nat),(110:Nat)]])
abbrev qCLi (a0:PcX):=(List.length (PcX.L a0)+qCLc+qCL5+qCL5+qCL5)
abbrev qCLk:=(16:Nat)
abbrev qCLm (a0:PcX):=(some (List.take (qCLu a0) (PcX.L a0)++ [[(112:Nat),(97:Nat),(121:Nat)]],PcX.fz a0))
abbrev qCLn (a0:PcX):=(List.length (PcX.L a0)<=List.length (PcX.L a0)/\PcX.fz a0<=List.length (PcX.L a0)/\(qCL8 a0)*qCLk<=qCL9)
abbrev qCLo (a0:PcX) (b0:PcX):=((qCLj=qCLj/\List.length (PcX.L a0)+qCLc+qCL5+qCL5+qCL5+qCL5=List.length (PcX.L b0)/\True)/\True)
abbrev qCLp (a0:PcX) (b0:List Nat):=(List.length (PcX.L a0)+qCLc<=List.length (qCL3 a0 b0)/\PcX.fz a0<=List.length (PcX.L a0)+qCLc/\(qCL7 a0)*qCLk<=qCL9)
abbrev qCLq (a0:PcX) (b0:List Nat):=(List.length (PcX.L a0)+qCLc<=List.length (qCL4 a0 b0)/\PcX.fz a0<=List.length (PcX.L a0)+qCLc/\(qCL7 a0)*qCLk<=qCL9)
abbrev qCLs (a0:PcX) (b0:PcX):=((qCLj=qCLj/\List.length (PcX.L a0)+qCLc+qCL5+qCL5=List.length (PcX.L b0)/\True)/\True)
abbrev qCLt (a0:Tst):=((0:Int)<=Tst.high a0/\Tst.high a0+qCLr<=(10000000000000:Int))
theorem Zy5 (l:List (List Nat)) (fz:Nat) (c:Cls) (l':List (List Nat)):Zh E Fpc (vc E Fpc 400) 43 [.ptr 0 0,clA c] (hpP E Th.strs (some (l,fz))) 2 (prnK E Th.strs (some (l,fz)) l')=(
 (List.length l<=List.length l/\fz<=List.length l/\(List.length l+qCLc)*qCLk<=qCL9)/\∃(R:PcX->Prop),(∃(x:PcX),R x/\true=true/\(qCLj=qCLj/\qCLj=qCLj/\(qCLl c)/\(qCLe c)=(qCLe c)/\(0:Int)=(qCLh x)/\True)/\((qCLj=qCLj/\List.length l+qCLc=List.length (PcX.L x)/\True)/\True)/\(List.take (List.length l) l++ [[(99:Nat),(108:Nat),(97:Nat),(117:Nat),(115:Nat),(101:Nat)],Cls.name c]=PcX.L x/\fz=PcX.fz x)/\(qCL1 c)/\True)/\∀(x:PcX),R x->(decide ((qCLh x)<(qCLe c))=true->(0:Int)<=(qCLh x)/\(qCLh x)+qCLr<=(qCLe c)/\∀(x_1:Tst),(Cls.when_ c)[Int.toNat (qCLh x)]? =some x_1->(0:Int)<=mm2 false (qCLh x) qCLr/\mm2 false (qCLh x) qCLr+qCLr<=(↑qCLc:Int)/\((mm2 false (qCLh x) qCLr==(↑qCLj:Int))=true->(0:Int)<=Tst.attr x_1/\Tst.attr x_1+qCLr<=(↑(List.length (WK.words WK.at_)):Int)/\∀(x_2:List Nat),(WK.words WK.at_)[Int.toNat (Tst.attr x_1)]? =some x_2->(qCLn x)/\((Tst.low x_1==Tst.high x_1)=true->(qCLp x x_2)/\(qCLd x_1)/\∀(y:List Nat),y=decN (Tst.low x_1)->(List.length (PcX.L x)+qCLc+qCL5<=List.length (List.take (qCL8 x) (qCL3 x x_2)++ [[(105:Nat),(115:Nat)]])/\PcX.fz x<=List.length (PcX.L x)+qCLc+qCL5/\(qCLa x)*qCLk<=qCL9)/\∃(x_3:PcX),R x_3/\x_3.2+qCL5<=x.2/\true=true/\(qCL2 c x x_3)/\(qCLs x x_3)/\(List.take (qCL7 x) (List.take (qCL8 x) (qCL3 x x_2)++ [[(105:Nat),(115:Nat)]])++ [y]=PcX.L x_3/\PcX.fz x=PcX.fz x_3)/\(qCL1 c)/\True)/\((Tst.low x_1==Tst.high x_1)=false->(qCLp x x_2)/\(qCLd x_1)/\∀(y:List Nat),y=decN (Tst.low x_1)->(List.length (PcX.L x)+qCLc+qCL5<=List.length (qCLf x x_2)/\PcX.fz x<=List.length (PcX.L x)+qCLc+qCL5/\(qCLa x)*qCLk<=qCL9)/\(List.length (PcX.L x)+qCLc+qCL5+qCL5<=List.length (List.take (qCL7 x) (qCLf x x_2)++ [y])/\PcX.fz x<=List.length (PcX.L x)+qCLc+qCL5+qCL5/\(qCLi x)*qCLk<=qCL9)/\(qCLt x_1)/\∀(y_1:List Nat),y_1=decN (Tst.high x_1)->(List.length (PcX.L x)+qCLc+qCL5+qCL5+qCL5<=List.length (List.take (qCLa x) (List.take (qCL7 x) (qCLf x x_2)++ [y])++ [[(46:Nat),(46:Nat)]])/\PcX.fz x<=List.length (PcX.L x)+qCLc+qCL5+qCL5+qCL5/\(List.length (PcX.L x)+qCLc+qCL5+qCL5+qCL5+qCL5)*qCLk<=qCL9)/\∃(x_3:PcX),R x_3/\x_3.2+qCL5<=x.2/\true=true/\(qCL2 c x x_3)/\(qCLo x x_3)/\(List.take (qCLi x) (List.take (qCLa x) (List.take (qCL7 x) (qCLf x x_2)++ [y])++ [[(46:Nat),(46:Nat)]])++ [y_1]=PcX.L x_3/\PcX.fz x=PcX.fz x_3)/\(qCL1 c)/\True))/\((mm2 false (qCLh x) qCLr==(↑qCLj:Int))=false->((mm2 false (qCLh x) qCLr==(↑(qCLj+qCL5):Int))=true->(0:Int)<=Tst.attr x_1/\Tst.attr x_1+qCLr<=(↑(List.length (WK.words WK.at_)):Int)/\∀(x_2:List Nat),(WK.words WK.at_)[Int.toNat (Tst.attr x_1)]? =some x_2->(qCLn x)/\((Tst.low x_1==Tst.high x_1)=true->(qCLq x x_2)/\(qCLd x_1)/\∀(y:List Nat),y=decN (Tst.low x_1)->(List.length (PcX.L x)+qCLc+qCL5<=List.length (List.take (qCL8 x) (qCL4 x x_2)++ [[(105:Nat),(115:Nat)]])/\PcX.fz x<=List.length (PcX.L x)+qCLc+qCL5/\(qCLa x)*qCLk<=qCL9)/\∃(x_3:PcX),R x_3/\x_3.2+qCL5<=x.2/\true=true/\(qCL2 c x x_3)/\(qCLs x x_3)/\(List.take (qCL7 x) (List.take (qCL8 x) (qCL4 x x_2)++ [[(105:Nat),(115:Nat)]])++ [y]=PcX.L x_3/\PcX.fz x=PcX.fz x_3)/\(qCL1 c)/\True)/\((Tst.low x_1==Tst.high x_1)=false->(qCLq x x_2)/\(qCLd x_1)/\∀(y:List Nat),y=decN (Tst.low x_1)->(List.length (PcX.L x)+qCLc+qCL5<=List.length (qCLg x x_2)/\PcX.fz x<=List.length (PcX.L x)+qCLc+qCL5/\(qCLa x)*qCLk<=qCL9)/\(List.length (PcX.L x)+qCLc+qCL5+qCL5<=List.length (List.take (qCL7 x) (qCLg x x_2)++ [y])/\PcX.fz x<=List.length (PcX.L x)+qCLc+qCL5+qCL5/\(qCLi x)*qCLk<=qCL9)/\(qCLt x_1)/\∀(y_1:List Nat),y_1=decN (Tst.high x_1)->(List.length (PcX.L x)+qCLc+qCL5+qCL5+qCL5<=
List.length (List.take (qCLa x) (List.take (qCL7 x) (qCLg x x_2)++ [y])++ [[(46:Nat),(46:Nat)]])/\PcX.fz x<=List.length (PcX.L x)+qCLc+qCL5+qCL5+qCL5/\(List.length (PcX.L x)+qCLc+qCL5+qCL5+qCL5+qCL5)*qCLk<=qCL9)/\∃(x_3:PcX),R x_3/\x_3.2+qCL5<=x.2/\true=true/\(qCL2 c x x_3)/\(qCLo x x_3)/\(List.take (qCLi x) (List.take (qCLa x) (List.take (qCL7 x) (qCLg x x_2)++ [y])++ [[(46:Nat),(46:Nat)]])++ [y_1]=PcX.L x_3/\PcX.fz x=PcX.fz x_3)/\(qCL1 c)/\True))/\((mm2 false (qCLh x) qCLr==(↑(qCLj+qCL5):Int))=false->True)))/\(decide ((qCLh x)<(qCLe c))=false->(List.length (PcX.L x)<=List.length (PcX.L x)/\PcX.fz x<=List.length (PcX.L x)/\(List.length (PcX.L x)+qCL5)*qCLk<=qCL9)/\(List.length (PcX.L x)+qCL5=List.length (qCLb x)/\PcX.fz x<=List.length (qCLb x)/\Ex.sz (qCL6 c)+qCL5<=(1000000000:Nat)/\Zs (qCL6 c)=true/\qCL5<=List.length (qCLb x)/\List.length (qCLb x)+(8:Nat)*Ex.sz (qCL6 c)+(8:Nat)<=(1000000000:Nat))/\∀(l'_1:List (List Nat)),l'_1=List.take (qCLu x) (PcX.L x)++ [[(112:Nat),(97:Nat),(121:Nat)]]++txX (qCL6 c)->(List.length l'_1<=List.length l'_1/\fzO (qCLm x)<=List.length l'_1/\(List.length l'_1+qCL5)*qCLk<=qCL9)/\List.take (List.length l'_1) l'_1++ [[(59:Nat)]]=l'/\List.length l'_1+qCL5=List.length l'/\fzO (qCLm x)=fzO (some (l,fz)))):=by kernel_rfl
theorem Zk4:∀(a:List Tst) (i:Nat) (w:Tst),txTs i (a++ [w])=txTs i a++((if a.length+i=0 then Zcz else sAnd)::txW w)
 | [],i,w=>by simp [txTs]
 |x::r,i,w=>by
  rw [List.cons_append]
  simp only [txTs]
  rw [Zk4 r (i+1) w]
  have e:(r.length+(i+1)=0)=((x::r).length+i=0):=by simp
  simp only [e,List.append_assoc,List.cons_append]
theorem Z7p (w:Tst):(txW w).length<=5:=by
 unfold txW
 split<;>simp
theorem Zin:∀(l:List Tst) (i:Nat),(txTs i l).length<=6*l.length
 | [],_=>by simp [txTs]
 |w::r,i=>by
  have:=Zin r (i+1)
  have:=Z7p w
  simp [txTs]
  omega
def PclP (l:List (List Nat)) (c:Cls):Prop:=Yh c=true/\c.pay.sz<1000000000/\1<=l.length/\l.length+8*c.pay.sz+6*c.when_.length+20<=1000000000
theorem Yac:FnsOk E Fpc:=Zl E_ok (Za Zp4 (Zx8 (Zop 1000000000))) _ _ _
theorem Z7q (c:Cls) (l:List (List Nat)) (fz:Nat) (hf:fz<=l.length) (h:PclP l c):PrnC E 43 Th.strs [clA c] (some (l,fz)) (l++txC c):=by
 refine Zx5 Yac (n:=400) rfl ?_
 rw [Zy5];delta qCLl qCLv qCL1 qCLh qCLj qCLe qCLr qCL2 qCLu qCL3 qCL4 qCL5 qCL6 qCLc qCL7 qCL8 qCL9 qCLa qCLb qCLd qCLf qCLg qCLi qCLk qCLm qCLn qCLo qCLp qCLq qCLs qCLt
 obtain ⟨h1,h2,h3,h4⟩:=h
 obtain ⟨-,g2,g3⟩:=Zen h1
 have L:WK.at_.words.length=16:=rfl
 simp only [fzO,List.take_length,Ex.eta,forall_eq,beq_iff_eq,beq_eq_false_iff_ne,ne_eq,and_true,true_and,imp_self,decide_eq_true_eq,decide_eq_false_iff_not]
 refine ⟨⟨Nat.le_refl _,hf,by omega⟩,fun x=>x.k<=c.when_.length/\x.fz=fz/\x.L=l++ [Yp,c.name]++txTs 0 (c.when_.take x.k)/\x.r=c.when_.length-x.k,⟨⟨0,c.when_.length,l++ [Yp,c.name],fz⟩,⟨by dsimp only;omega,rfl,by simp [txTs],rfl⟩,by simp,by simp,by simp [Yp]⟩,?_⟩
 rintro ⟨k,r,Lx,fx⟩ ⟨k1,k2,k3,k4⟩
 simp only at k1 k2 k3 k4⊢
 subst k2 k4
 have tl:=Zin (c.when_.take k) 0
 have tl2:(c.when_.take k).length<=c.when_.length:=by simp;omega
 have hL:Lx.length=l.length+2+(txTs 0 (c.when_.take k)).length:=by rw [k3];simp;omega
 refine And.intro (fun hq=>⟨by omega,by omega,fun w hw=> ?_⟩) (fun hq=> ?_)
 · have hw:c.when_[k]? =some w:=hw
   have hq:k<c.when_.length:=by omega
   obtain ⟨t1,t2,t3,t4,t5,t6⟩:=Zcr (g3 w (List.mem_of_getElem? hw))
   have ek:c.when_.take (k+1)=c.when_.take k++ [w]:=by rw [List.take_add_one,hw];rfl
   have tw:(c.when_.take k).length=k:=by simp;omega
   have hm:(0:Int)<=mm2 false (↑k:Int) (1:Int)/\mm2 false (↑k:Int) (1:Int)+1<=2:=by
    rw [Z2];omega
   have st:txTs 0 (c.when_.take (k+1))=txTs 0 (c.when_.take k)++((if k=0 then Zcz else sAnd)::txW w):=by rw [ek,Zk4,tw,Nat.add_zero]
   have wx:∀x2,WK.at_.words[w.attr.toNat]? =some x2->txW w=x2::(if w.low=w.high then [sIs,decN w.low] else [sIn,decN w.low,Zfr,decN w.high]):=by
    intro x2 h
    unfold txW
    rw [List.getD_eq_getElem?_getD,h]
    rfl
   have E1:∀s x2,(if k=0 then Zcz else sAnd)=s->WK.at_.words[w.attr.toNat]? =some x2->w.low=w.high->Lx++ [s,x2]++ [[105,115]]++ [decN w.low]=l++ [Yp,c.name]++txTs 0 (c.when_.take (k+1)):=by
    intro s x2 hs h e
    rw [k3,st,hs,wx x2 h,if_pos e]
    simp [sIs]
   have E2:∀s x2,(if k=0 then Zcz else sAnd)=s->WK.at_.words[w.attr.toNat]? =some x2->¬w.low=w.high->Lx++ [s,x2]++ [[105,110]]++ [decN w.low]++ [[46,46]]++ [decN w.high]=l++ [Yp,c.name]++txTs 0 (c.when_.take (k+1)):=by
    intro s x2 hs h e
    rw [k3,st,hs,wx x2 h,if_neg e]
    simp [sIn,Zfr]
   have T1:∀a b,List.take (Lx.length+2) (Lx++ [a,b])=Lx++ [a,b]:=fun a b=>List.take_of_length_le (by simp)
   have T2:∀a b c,List.take (Lx.length+2+1) (Lx++ [a,b]++ [c])=Lx++ [a,b]++ [c]:=fun a b c=>List.take_of_length_le (by simp)
   have T3:∀a b c d,List.take (Lx.length+2+1+1) (Lx++ [a,b]++ [c]++ [d])=Lx++ [a,b]++ [c]++ [d]:=fun a b c d=>List.take_of_length_le (by simp)
   have T4:∀a b c d e,List.take (Lx.length+2+1+1+1) (Lx++ [a,b]++ [c]++ [d]++ [e])=Lx++ [a,b]++ [c]++ [d]++ [e]:=fun a b c d e=>List.take_of_length_le (by simp)
   have wk:wr IntKind.i64 ((k:Int)+1)=((k+1:Nat):Int):=(wr64 (by omega) (by omega)).trans (by omega)
   simp only [T1,T2,T3,T4]
   have m0:(mm2 false (k:Int) 1=((0:Nat):Int))=(k=0):=by rw [Z2];exact propext (by omega)
   have go:∀s x2,(if k=0 then Zcz else sAnd)=s->WK.at_.words[w.attr.toNat]? =some x2->
    (w.low=w.high->∃x_3:PcX,(x_3.k<=c.when_.length/\x_3.fz=fx/\x_3.L=l++ [Yp,c.name]++txTs 0 (List.take x_3.k c.when_)/\x_3.r=c.when_.length-x_3.k)/\x_3.r+1<=c.when_.length-k/\wr IntKind.i64 ((k:Int)+1)=(x_3.k:Int)/\Lx.length+2+1+1=x_3.L.length/\Lx++ [s,x2]++ [[105,115]]++ [decN w.low]=x_3.L/\fx=x_3.fz)/\
    (¬w.low=w.high->∃x_3:PcX,(x_3.k<=c.when_.length/\x_3.fz=fx/\x_3.L=l++ [Yp,c.name]++txTs 0 (List.take x_3.k c.when_)/\x_3.r=c.when_.length-x_3.k)/\x_3.r+1<=c.when_.length-k/\wr IntKind.i64 ((k:Int)+1)=(x_3.k:Int)/\Lx.length+2+1+1+1+1=x_3.L.length/\Lx++ [s,x2]++ [[105,110]]++ [decN w.low]++ [[46,46]]++ [decN w.high]=x_3.L/\fx=x_3.fz):=by
    intro s x2 hs h
    refine And.intro (fun e=> ?_) (fun e=> ?_)
    · have:=E1 s x2 hs h e
      have h2:=congrArg List.length this
      refine ⟨⟨k+1,c.when_.length-(k+1),l++ [Yp,c.name]++txTs 0 (c.when_.take (k+1)),fx⟩,⟨hq,rfl,rfl,rfl⟩,(by dsimp only;omega),wk,?_,this,rfl⟩
      dsimp only
      rw [<-h2]
      simp
    · have:=E2 s x2 hs h e
      have h2:=congrArg List.length this
      refine ⟨⟨k+1,c.when_.length-(k+1),l++ [Yp,c.name]++txTs 0 (c.when_.take (k+1)),fx⟩,⟨hq,rfl,rfl,rfl⟩,(by dsimp only;omega),wk,?_,this,rfl⟩
      dsimp only
      rw [<-h2]
      simp
   rw [m0]
   refine ⟨hm.1,hm.2,fun h0=>⟨t1,by rw [L];omega,fun x2 hx2=> ?_⟩,fun h0=>⟨fun h1=>⟨t1,by rw [L];omega,fun x2 hx2=> ?_⟩,fun _=>trivial⟩⟩
   · obtain ⟨g1,g2⟩:=go [119,104,101,110] x2 (by rw [if_pos h0];rfl) hx2
     refine ⟨⟨Nat.le_refl _,by omega,by omega⟩,fun e=> ?_,fun e=> ?_⟩
     · exact ⟨⟨by simp,by omega,by omega⟩,⟨t3,by omega⟩,⟨by simp,by omega,by omega⟩,g1 e⟩
     · exact ⟨⟨by simp,by omega,by omega⟩,⟨t3,by omega⟩,⟨by simp,by omega,by omega⟩,⟨by simp,by omega,by omega⟩,⟨t5,by omega⟩,⟨by simp,by omega,by omega⟩,g2 e⟩
   · obtain ⟨g1,g2⟩:=go [97,110,100] x2 (by rw [if_neg h0];rfl) hx2
     refine ⟨⟨Nat.le_refl _,by omega,by omega⟩,fun e=> ?_,fun e=> ?_⟩
     · exact ⟨⟨by simp,by omega,by omega⟩,⟨t3,by omega⟩,⟨by simp,by omega,by omega⟩,g1 e⟩
     · exact ⟨⟨by simp,by omega,by omega⟩,⟨t3,by omega⟩,⟨by simp,by omega,by omega⟩,⟨by simp,by omega,by omega⟩,⟨t5,by omega⟩,⟨by simp,by omega,by omega⟩,g2 e⟩
 · have ek:k=c.when_.length:=by omega
   have tx:=Yk c.pay
   have e1:Lx++ [[112,97,121]]++txX c.pay++ [[59]]=l++txC c:=by
    rw [k3,ek,List.take_length]
    unfold txC
    simp [sPay,Z1p]
   have e2:=congrArg List.length e1
   simp only [List.length_append,List.length_cons,List.length_nil] at e2⊢
   exact ⟨⟨Nat.le_refl _,by omega,by omega⟩,⟨trivial,by omega,by omega,g2,by omega,by omega⟩,⟨Nat.le_refl _,by omega,by omega⟩,e1,by omega,trivial⟩
end
section
open Go
noncomputable def dCl1:DcL E (Cls×Unit):= .cons dCl .nil
noncomputable def Spc:Sum thy:=sumB E Th.strs dCl1 (fun l x=>PclP l x.1) fun (l:List (List Nat)) x=>l++txC x.1
theorem Z7r:SumOk E 43 Spc:=Zhx E_ok (Zc rfl) fun x=>⟨fun l fz hf hp=>Z7q x.1 l fz hf hp,fun hp=>absurd hp.2.2.1 (by decide)⟩
noncomputable def Yae:DcL E (List (List Nat)×List Nat×Unit):= .cons (Zlf (E:=E) Th.strs:Dc E (List (thy.dom Th.strs))) (.cons dS .nil)
noncomputable def Z3y:Sum thy:=Zgb E (fun _=>none) 10 (Vo Yae (fun x=>(x.2.1= [32]/\x.1.length<=1000000000)/\(Y4 x.1).length<=1000000000) (fun x=>Y4 x.1) fun y=> .str false y)
noncomputable def Apr:Fr thy->Hp thy->Nat->Ann thy:=fun T h i=>{X:=PcX,fr:=fun x=> [(1,T 1),(5,T 5),(28,T 28),(29,T 29),(30,.int false .i64 x.k)],bl:=fun x=>(bOf (T 5),.raw [.sl i 0 x.L.length 1 none] 0 none)::(i,.rows Th.strs x.L x.fz)::blkP h (T 1),src:=fun x=> [(i,1005)],md:= [bOf (T 5),cOfP h (T 5)],ih:=i+1,M:=i+60,meas:=fun x=>x.r}
noncomputable def Fpr:Fns thy:=addL (addS (addS (addS (addS F0 42 Zcf) 44 Z3y) 17 Z3u) 43 Spc) 15 7 Apr E
abbrev qCM1 (a0:Cls):=(Ex.mk (Ex.op (Cls.pay a0)) (Ex.n (Cls.pay a0)) (Ex.d0 (Cls.pay a0)) (Ex.d1 (Cls.pay a0)) (Ex.d2 (Cls.pay a0)) (Ex.d3 (Cls.pay a0)) (Ex.l (Cls.pay a0)))
abbrev qCM5:=(0:Nat)
abbrev qCM2 (a0:PcX):=(List.take (List.length (PcX.L a0)+(1:Nat)) (List.drop qCM5 (List.take (List.length (PcX.L a0)) (PcX.L a0)++ [[(125:Nat)]])))
abbrev qCM3 (a0:Tar):=(↑(List.length (Tar.clauses a0)):Int)
abbrev qCM4 (a0:Tar):=(Tar.clauses a0=Tar.clauses a0/\(false=true->false=true))
abbrev qCM6 (a0:PcX):=(↑(PcX.k a0):Int)
theorem Zqi (t:Tar) (s:List Nat) (e:Int):Zh E Fpr (vc E Fpr 400) 15 [.agg (encF false .tariffs t)] hp0 0 (fun r=>ret E (patch hp0 0 r) r.v (.tup [.str false s,.int false .i64 e]))=(
 ((∀(c:Cls),c∈Tar.clauses t->Ex.sz (Cls.pay c)+(1:Nat)<=(1000000000000:Nat)/\List.length (Cls.when_ c)+(1:Nat)<=(1000000000000:Nat))/\List.length (Tar.clauses t)+(1:Nat)<=(1000000000000:Nat))/\((Yq t !=(0:Int))=true-> []=s/\Yq t=e/\True)/\((Yq t !=(0:Int))=false->(0:Int)<=wr IntKind.i64 (Tar.for_ t-(1:Int))/\wr IntKind.i64 (Tar.for_ t-(1:Int))+(1:Int)<=(↑(List.length (WK.words WK.ki)):Int)/\∀(x:List Nat),(WK.words WK.ki)[Int.toNat (wr IntKind.i64 (Tar.for_ t-(1:Int)))]? =some x->∃(R:PcX->Prop),(∃(x_1:PcX),R x_1/\true=true/\(qCM5=qCM5/\qCM5=qCM5/\(qCM4 t)/\(qCM3 t)=(qCM3 t)/\(0:Int)=(qCM6 x_1)/\True)/\((qCM5=qCM5/\(5:Nat)=List.length (PcX.L x_1)/\True)/\True)/\([[(116:Nat),(97:Nat),(114:Nat),(105:Nat),(102:Nat),(102:Nat)],Tar.name t,[(102:Nat),(111:Nat),(114:Nat)],x,[(123:Nat)]]=PcX.L x_1/\qCM5=PcX.fz x_1)/\(Tar.name t=Tar.name t/\Tar.for_ t=Tar.for_ t/\(qCM4 t)/\True)/\True)/\∀(x:PcX),R x->(decide ((qCM6 x)<(qCM3 t))=true->(0:Int)<=(qCM6 x)/\(qCM6 x)+(1:Int)<=(qCM3 t)/\∀(x_1:Cls),(Tar.clauses t)[Int.toNat (qCM6 x)]? =some x_1->(List.length (PcX.L x)=List.length (PcX.L x)/\PcX.fz x<=List.length (PcX.L x)/\Yh (Cls.mk (Cls.name x_1) (Cls.when_ x_1) (qCM1 x_1))=true/\Ex.sz (qCM1 x_1)+(1:Nat)<=(1000000000:Nat)/\(1:Nat)<=List.length (PcX.L x)/\List.length (PcX.L x)+(8:Nat)*Ex.sz (qCM1 x_1)+(6:Nat)*List.length (Cls.when_ x_1)+(20:Nat)<=(1000000000:Nat))/\∀(l':List (List Nat)),l'=PcX.L x++txC (Cls.mk (Cls.name x_1) (Cls.when_ x_1) (qCM1 x_1))->∃(x_2:PcX),R x_2/\x_2.2+(1:Nat)<=x.2/\true=true/\(qCM5=qCM5/\qCM5=qCM5/\(qCM4 t)/\(qCM3 t)=(qCM3 t)/\wr IntKind.i64 ((qCM6 x)+(1:Int))=(qCM6 x_2)/\True)/\((qCM5=qCM5/\List.length l'=List.length (PcX.L x_2)/\True)/\True)/\(l'=PcX.L x_2/\fzO (some (PcX.L x,PcX.fz x))=PcX.fz x_2)/\(Tar.name t=Tar.name t/\Tar.for_ t=Tar.for_ t/\(qCM4 t)/\True)/\True)/\(decide ((qCM6 x)<(qCM3 t))=false->(List.length (PcX.L x)<=List.length (PcX.L x)/\PcX.fz x<=List.length (PcX.L x)/\(List.length (PcX.L x)+(1:Nat))*(16:Nat)<=(140737488355328:Nat))/\qCM5+(List.length (PcX.L x)+(1:Nat))<=List.length (List.take (List.length (PcX.L x)) (PcX.L x)++ [[(125:Nat)]])/\(([(32:Nat)]= [(32:Nat)]/\List.length (qCM2 x)<=(1000000000:Nat))/\List.length (Y4 (qCM2 x))<=(1000000000:Nat))/\∀(y:List Nat),y=Y4 (qCM2 x)->(decide ((↑(List.length y):Int)>(2000:Int))=true-> []=s/\(2:Int)=e/\True)/\(decide ((↑(List.length y):Int)>(2000:Int))=false->y=s/\(0:Int)=e/\True)))):=by kernel_rfl
theorem Zoa:∀{s:List Nat} {n m:Int},1<=n->n<=1099511627776->(∀c∈s,isD c=true)->numL n s=(m,0)->n*10^s.length<=1099511627776
 | [],n,m,_,hn,_,_=>by simpa using hn
 |c::r,n,m,h1,hn,hd,h=>by
  unfold numL at h
  split at h
  · cases h
  · rename_i hq
    have hc:=hd c (by simp)
    unfold isD at hc
    simp only [Bool.and_eq_true,decide_eq_true_eq] at hc
    have:=Zoa (by omega) (by omega) (fun c hc=>hd c (by simp [hc])) h
    have hle:n*10<=10*n+((c:Int)-48):=by omega
    have hp:(0:Int)<=10^r.length:=Int.le_of_lt (Int.pow_pos (by decide))
    have h3:=Int.mul_le_mul_of_nonneg_right hle hp
    rw [List.length_cons,Int.pow_succ,Int.mul_comm (10^r.length) 10,<-Int.mul_assoc]
    omega
theorem Zy6 {s:List Nat} (hd:∀c∈s,isD c=true) (h:(numb s).2=0):s.length<=32:=by
 match s,hd,h with
 | [],_,_=>simp
 |c::r,hd,h=>
  unfold numb at h
  split at h
  · cases h
  · rename_i hq
    cases r with
    |nil=>simp
    |cons d r=>
     have hc:c≠48:=fun e=>hq ⟨by simp,by rw [e];rfl⟩
     have hcd:=hd c (by simp)
     unfold isD at hcd
     simp only [Bool.and_eq_true,decide_eq_true_eq] at hcd
     unfold numL at h
     rw [if_neg (by omega)] at h
     have h2:numL (10*0+((c:Int)-48)) (d::r)=((numL (10*0+((c:Int)-48)) (d::r)).1,0):=Prod.ext rfl h
     have:=Zoa (by omega) (by omega) (fun c hc=>hd c (by simp [hc])) h2
     have hp:(0:Int)<=10^(d::r).length:=Int.le_of_lt (Int.pow_pos (by decide))
     have h3:1*(10:Int)^(d::r).length<=(10*0+((c:Int)-48))*10^(d::r).length:=Int.mul_le_mul_of_nonneg_right (by omega) hp
     rcases Nat.lt_or_ge (d::r).length 13 with hl|hl
     · simp at hl⊢;omega
     · have h4:(10:Nat)^13<=10^(d::r).length:=Nat.pow_le_pow_right (by decide) hl
       have h5:((10^(d::r).length:Nat):Int)=(10:Int)^(d::r).length:=by norm_cast
       have h6:((10^13:Nat):Int)<=((10^(d::r).length:Nat):Int):=Int.ofNat_le.2 h4
       rw [h5] at h6
       have h7:((10^13:Nat):Int)=10000000000000:=rfl
       omega
theorem Z3z {c:Nat} {w:List Nat} (h:sgnW c=some w):w.length<=2:=by
 unfold sgnW at h
 repeat (split at h; · cases h;decide)
 cases h
theorem TokW.len {w:List Nat} (h:TokW w):w.length<=32:=by
 obtain ⟨h1,h2,h3⟩:=h
 obtain ⟨c,r,rfl⟩:=List.exists_cons_of_ne_nil h3
 rw [X0] at h1 h2
 split at h1
 · rename_i hl
   rw [if_pos hl] at h2
   split at h1
   · cases h1
   · rename_i hq
     rw [if_neg hq] at h2
     have h2:=congrArg List.length h2
     rw [List.length_take] at h2
     omega
 · rename_i hl
   rw [if_neg hl] at h2
   split at h1
   · rename_i hd
     rw [if_pos hd] at h2
     have h2:(c::r).take (spn isD (c::r))=c::r:=h2
     have h1:(numb ((c::r).take (spn isD (c::r)))).2=0:=h1
     rw [h2] at h1
     exact Zy6 (fun x hx=>by rw [<-h2] at hx;exact Zl5 hx) h1
   · rename_i hd
     rw [if_neg hd] at h2
     split at h1
     · rename_i w hw
       rw [hw] at h2
       unfold tokS at h1 h2
       split at h1
       · rename_i hq
         dsimp only at h2
         rw [if_pos hq] at h2
         have h2:w=c::r:=h2
         rw [<-h2]
         have:=Z3z hw
         omega
       · cases h1
     · cases h1
theorem Zde:∀{ws:List (List Nat)} {m:Nat},(∀w∈ws,w.length<=m)->(Y4 ws).length<=(m+1)*ws.length
 | [],m,_=>by simp [Y4]
 | [w],m,h=>by
  have:=h w (by simp)
  simp only [Y4,List.length_cons,List.length_nil]
  omega
 |w::x::r,m,h=>by
  have ih:=Zde (ws:=x::r) (m:=m) (fun y hy=>h y (by simp at hy⊢;exact .inr hy))
  have:=h w (by simp)
  rw [Uw (by simp),List.length_append,List.length_cons]
  have e:(m+1)*(w::x::r).length=(m+1)*(x::r).length+(m+1):=by rw [List.length_cons,Nat.mul_add,Nat.mul_one]
  omega
theorem Z30 (c:Cls):(txC c).length<=8*c.pay.sz+6*c.when_.length+4:=by
 have h1:=Yk c.pay
 have h2:=Zin c.when_ 0
 unfold txC
 simp only [List.length_cons,List.length_append,List.length_nil]
 omega
theorem Zdf:∀(a:List Cls) (c:Cls),txCs (a++ [c])=txCs a++txC c
 | [],c=>by simp [txCs]
 |x::r,c=>by rw [List.cons_append];simp only [txCs];rw [Zdf r c,List.append_assoc]
theorem Zgq:∀{cs:List Cls} {m:Nat},(∀c∈cs,c.pay.sz<=m/\c.when_.length<=8)->(txCs cs).length<=(8*m+52)*cs.length
 | [],m,_=>by simp [txCs]
 |c::r,m,h=>by
  have ih:=Zgq (cs:=r) (m:=m) (fun x hx=>h x (by simp [hx]))
  have h1:=h c (by simp)
  have h2:=Z30 c
  have e:(8*m+52)*(c::r).length=(8*m+52)*r.length+(8*m+52):=by rw [List.length_cons,Nat.mul_add,Nat.mul_one]
  rw [txCs,List.length_append]
  omega
theorem Zgr:∀{cs:List Cls} {s:List (List Nat)},CsOk s cs->∀c∈cs,Yh c=true/\c.when_.length<=8
 |c::r,s,h,x,hx=>by
  rw [Zi4] at h
  rcases List.mem_cons.1 hx with rfl|hx
  · exact ⟨h.1,h.2.2.2.1⟩
  · exact Zgr h.2.2.2.2.2 x hx
def SmT (t:Tar):Prop:=(∀c∈t.clauses,c.pay.sz<=10000/\c.when_.length<1000000000)/\t.clauses.length<1000000000
theorem Zob:SumOk E 44 Z3y:=Zbi E_ok (Z5 E_ok (Zc rfl) fun x h=>by
 have:=Zj4 x.1 h.1.2 h.2
 rw [<-h.1.1] at this
 exact this)
theorem Z7s:FnsOk E Fpr:=Zl E_ok (Za (Za (Za (Za F0_ok Zcg) Zob) Zyr) Z7r) _ _ _
theorem Zqj (t:Tar) (h:SmT t):PureC E 15 [.agg (encF false .tariffs t)] (.tup [.str false (Vd t).1,.int false .i64 (Vd t).2]):=by
 refine Zb E_ok (Ze E_ok Z7s 400) ?_
 rw [Zqi];delta qCM1 qCM5 qCM2 qCM3 qCM4 qCM6
 obtain ⟨h1,h2⟩:=h
 have L:WK.ki.words.length=6:=rfl
 simp only [bne_iff_ne,bne_eq_false_iff_eq,fzO,List.take_length,Cls.eta,Ex.eta,forall_eq,beq_iff_eq,beq_eq_false_iff_ne,ne_eq,and_true,true_and,imp_self,decide_eq_true_eq,decide_eq_false_iff_not]
 refine ⟨⟨fun c hc=>⟨by have:=(h1 c hc).1;omega,by have:=(h1 c hc).2;omega⟩,by omega⟩,fun hn=> ?_,fun hz=> ?_⟩
 · rw [Zf3 hn];exact ⟨rfl,rfl⟩
 · obtain ⟨c1,c2,c3,c4,c5,c6⟩:=(Zan t).1 hz
   have hw:wr IntKind.i64 (t.for_-1)=t.for_-1:=wr64 (by omega) (by omega)
   rw [hw]
   refine ⟨by omega,by rw [L];omega,fun x hx=> ?_⟩
   have hall:=Zgr c6
   have hm:∀c∈t.clauses,c.pay.sz<=10000/\c.when_.length<=8:=fun c hc=>⟨(h1 c hc).1,(hall c hc).2⟩
   have hlen:∀k,(txCs (t.clauses.take k)).length<=80052*64:=fun k=>by
    have a:=Zgq (cs:=t.clauses.take k) (m:=10000) (fun c hc=>hm c (List.mem_of_mem_take hc))
    have b:(t.clauses.take k).length<=64:=by rw [List.length_take];omega
    have e:(8*10000+52)*(t.clauses.take k).length<=(8*10000+52)*64:=Nat.mul_le_mul_left _ b
    omega
   have hx5:WK.ki.words.getD (t.for_-1).toNat []=x:=by rw [List.getD_eq_getElem?_getD,hx];rfl
   refine ⟨fun y=>y.k<=t.clauses.length/\y.fz=0/\y.L= [[116,97,114,105,102,102],t.name,[102,111,114],x,[123]]++txCs (t.clauses.take y.k)/\y.r=t.clauses.length-y.k,⟨⟨0,t.clauses.length,[[116,97,114,105,102,102],t.name,[102,111,114],x,[123]],0⟩,⟨(by dsimp only;omega),rfl,by simp [txCs],rfl⟩,rfl,rfl,rfl,rfl⟩,?_⟩
   rintro ⟨k,r,Lx,fx⟩ ⟨k1,k2,k3,k4⟩
   simp only at k1 k2 k3 k4⊢
   subst k2 k4
   have hL:Lx.length=5+(txCs (t.clauses.take k)).length:=by rw [k3];simp;omega
   have hlk:=hlen k
   refine And.intro (fun hq=>⟨by omega,by omega,fun c hc=> ?_⟩) (fun hq=> ?_)
   · have hc:t.clauses[k]? =some c:=hc
     have hq:k<t.clauses.length:=by omega
     have hcm:=List.mem_of_getElem? hc
     have b1:=hm c hcm
     have b2:=hall c hcm
     have e:Lx++txC c= [[116,97,114,105,102,102],t.name,[102,111,114],x,[123]]++txCs (t.clauses.take (k+1)):=by
      have ek:t.clauses.take (k+1)=t.clauses.take k++ [c]:=by rw [List.take_add_one,hc];rfl
      rw [k3,ek,Zdf,List.append_assoc]
     refine ⟨⟨by omega,b2.1,by omega,by omega,by omega⟩,⟨k+1,t.clauses.length-(k+1),Lx++txC c,0⟩,⟨hq,rfl,e,rfl⟩,(by dsimp only;omega),(wr64 (by omega) (by omega)).trans (by dsimp only;omega),rfl,rfl,rfl⟩
   · have ek:k=t.clauses.length:=by omega
     have e:Lx++ [[125]]=Zb8 t:=by
      rw [k3,ek,List.take_length]
      unfold Zb8
      rw [hx5]
      simp [Zh5,sFor,sLb,sRb]
     have e1:List.take (Lx.length+1) (List.drop 0 (Lx++ [[125]]))=Zb8 t:=by
      rw [List.drop_zero,List.take_of_length_le (by simp),e]
     rw [e1]
     have e2:(Zb8 t).length=Lx.length+1:=by rw [<-e];simp
     have hj:=Zde (ws:=Zb8 t) (m:=32) (fun w hw=>(Zo7 hz w hw).len)
     unfold Vd
     rw [if_neg (by rw [hz];simp)]
     refine ⟨⟨Nat.le_refl _,by omega,by omega⟩,by rw [List.length_append];simp,⟨by omega,by omega⟩,fun h=> ?_,fun h=> ?_⟩
     · rw [if_pos (by omega)];exact ⟨rfl,rfl⟩
     · rw [if_neg (by omega)];exact ⟨rfl,rfl⟩
end
section
open Go
mutual
def szW:Int->Ex->Int
 |n,.mk _ _ _ _ _ _ l=>if n>60\/(l.length:Int)>400 then 401 else szWL (n+1) 1 l
def szWL:Int->Int->List Ex->Int
 |_,a,[]=>a
 |n,a,x::r=>if a<=400 then szWL n (a+szW n x) r else a
end
theorem Z3s (n:Int) (x:Ex):szW n x=if n>60\/(x.l.length:Int)>400 then 401 else szWL (n+1) 1 x.l:=by cases x;rw [szW];rfl
noncomputable def Sszw (m:Nat):Sum thy:=Vo Z9t (fun x=>62<=x.2.1+m/\1<=x.2.1/\x.2.1<=61) (fun x=>szW x.2.1 x.1) fun y=> .int false .i64 y
noncomputable def Aszw:Fr thy->Hp thy->Nat->Ann thy:=fun T h i=>{X:=DX,fr:=fun x=> [(1,T 1),(2,T 2),(5,.int false .i64 x.j),(6,.int false .i64 x.k)],bl:=fun x=>blkP h (T 2),src:=fun _=> [],md:= [],ih:=i,M:=i+30,meas:=fun x=>x.r}
noncomputable def Fszw (m:Nat):Fns thy:=addL (addS F0 20 (Sszw m)) 20 5 Aszw E
abbrev qCN1 (a0:Ex):=(Ex.op a0=Ex.op a0/\Ex.n a0=Ex.n a0/\Ex.d0 a0=Ex.d0 a0/\Ex.d1 a0=Ex.d1 a0/\Ex.d2 a0=Ex.d2 a0/\Ex.d3 a0=Ex.d3 a0/\(Ex.l a0=Ex.l a0/\(false=true->false=true))/\True)
abbrev qCN2 (a0:Ex):=(↑(List.length (Ex.l a0)):Int)
abbrev qCN3 (a0:DX):=(↑(DX.k a0):Int)
theorem Z2l (m:Nat) (x:Ex) (n:Int) (v:Int):Zh E F0 (vc E (Fszw m) 400) 20 [exA x,.int false .i64 n] hp0 0 (fun r=>ret E (patch hp0 0 r) r.v (.int false .i64 v))=(
 ∃(Q:Bool->Prop),((decide (n>(60:Int))=true->Q true)/\(decide (n>(60:Int))=false->(decide ((qCN2 x)>(400:Int))=true->Q true)/\(decide ((qCN2 x)>(400:Int))=false->Q false)))/\(Q true->(401:Int)=v)/\(Q false->∃(R:DX->Prop),(∃(x_1:DX),R x_1/\true=true/\(n=n/\(0:Nat)=(0:Nat)/\(1:Int)=DX.j x_1/\(0:Int)=(qCN3 x_1)/\True)/\(qCN1 x)/\True)/\∀(x_1:DX),R x_1->∃(Q:Bool->Prop),((decide ((qCN3 x_1)<(qCN2 x))=true->(decide (DX.j x_1<=(400:Int))=true->Q true)/\(decide (DX.j x_1<=(400:Int))=false->Q false))/\(decide ((qCN3 x_1)<(qCN2 x))=false->Q false))/\(Q true->(0:Int)<=(qCN3 x_1)/\(qCN3 x_1)+(1:Int)<=(qCN2 x)/\∀(x_2:Ex),(Ex.l x)[Int.toNat (qCN3 x_1)]? =some x_2->((62:Int)<=wr IntKind.i64 (n+(1:Int))+(↑m:Int)/\(1:Int)<=wr IntKind.i64 (n+(1:Int))/\wr IntKind.i64 (n+(1:Int))<=(61:Int))/\∀(y:Int),y=szW (wr IntKind.i64 (n+(1:Int))) (Ex.mk (Ex.op x_2) (Ex.n x_2) (Ex.d0 x_2) (Ex.d1 x_2) (Ex.d2 x_2) (Ex.d3 x_2) (Ex.l x_2))->∃(x_3:DX),R x_3/\x_3.2+(1:Nat)<=x_1.2/\true=true/\(n=n/\(0:Nat)=(0:Nat)/\wr IntKind.i64 (DX.j x_1+y)=DX.j x_3/\wr IntKind.i64 ((qCN3 x_1)+(1:Int))=(qCN3 x_3)/\True)/\(qCN1 x)/\True)/\(Q false->DX.j x_1=v))):=by kernel_rfl
noncomputable def Afw:Fr thy->Hp thy->Nat->Ann thy:=fun T h i=>{X:=DX,fr:=fun x=> [(1,T 1),(3,.int false .i64 x.j),(4,.int false .i64 x.k)],bl:=fun x=>blkP h (T 1),src:=fun _=> [],md:= [],ih:=i,M:=i+40,meas:=fun x=>x.r}
noncomputable def Ffw:Fns thy:=addL (addS F0 20 (Sszw 61)) 14 5 Afw E
abbrev qCN4 (a0:Tar):=(↑(List.length (Tar.clauses a0)):Int)
abbrev qCN5 (a0:DX):=(↑(DX.k a0):Int)
abbrev qCN6 (a0:Tar):=(Tar.name a0=Tar.name a0/\Tar.for_ a0=Tar.for_ a0/\(Tar.clauses a0=Tar.clauses a0/\(false=true->false=true))/\True)
theorem Z62 (t:Tar) (v:Bool):Zh E Ffw (vc E Ffw 400) 14 [.agg (encF false .tariffs t)] hp0 0 (fun r=>ret E (patch hp0 0 r) r.v (.bool false v))=(
 (decide ((qCN4 t)>(80:Int))=true->false=v)/\(decide ((qCN4 t)>(80:Int))=false->∃(R:DX->Prop),(∃(x:DX),R x/\true=true/\((0:Nat)=(0:Nat)/\(0:Int)=DX.j x/\(0:Int)=(qCN5 x)/\True)/\(qCN6 t)/\True)/\∀(x:DX),R x->(decide ((qCN5 x)<(qCN4 t))=true->(0:Int)<=(qCN5 x)/\(qCN5 x)+(1:Int)<=(qCN4 t)/\∀(x_1:Cls),(Tar.clauses t)[Int.toNat (qCN5 x)]? =some x_1->(decide ((↑(List.length (Cls.when_ x_1)):Int)>(400:Int))=true->false=v)/\(decide ((↑(List.length (Cls.when_ x_1)):Int)>(400:Int))=false->(0:Int)<=(qCN5 x)/\(qCN5 x)+(1:Int)<=(qCN4 t)/\∀(x_2:Cls),(Tar.clauses t)[Int.toNat (qCN5 x)]? =some x_2->(0:Int)<=(qCN5 x)/\(qCN5 x)+(1:Int)<=(qCN4 t)/\∀(x_3:Cls),(Tar.clauses t)[Int.toNat (qCN5 x)]? =some x_3->((62:Int)<=(1:Int)+(↑(61:Nat):Int)/\(1:Int)<=(1:Int)/\(1:Int)<=(61:Int))/\∀(y:Int),y=szW (1:Int) (Ex.mk (Ex.op (Cls.pay x_3)) (Ex.n (Cls.pay x_3)) (Ex.d0 (Cls.pay x_3)) (Ex.d1 (Cls.pay x_3)) (Ex.d2 (Cls.pay x_3)) (Ex.d3 (Cls.pay x_3)) (Ex.l (Cls.pay x_3)))->∃(x_4:DX),R x_4/\x_4.2+(1:Nat)<=x.2/\true=true/\((0:Nat)=(0:Nat)/\wr IntKind.i64 (wr IntKind.i64 (DX.j x+(↑(List.length (Cls.when_ x_2)):Int))+y)=DX.j x_4/\wr IntKind.i64 ((qCN5 x)+(1:Int))=(qCN5 x_4)/\True)/\(qCN6 t)/\True))/\(decide ((qCN5 x)<(qCN4 t))=false->(decide (DX.j x<=(400:Int))=true->true=v)/\(decide (DX.j x<=(400:Int))=false->false=v)))):=by kernel_rfl
structure TtX where
 k:Nat
 r:Nat
 L:List (List Nat)
def Atx:Fr thy->Hp thy->Nat->Ann thy:=fun T h i=>{X:=TtX,fr:=fun x=> [(3,T 3),(9,T 9),(10,T 10),(11,.int false .i64 x.k)],bl:=fun x=> [(bOf (T 3),.rows Th.strs x.L 0)],src:=fun _=> [],md:= [bOf (T 3)],ih:=i,M:=i+30,meas:=fun x=>x.r}
noncomputable def Ftx:Fns thy:=addL (addS F0 44 Z3y) 27 3 Atx E
abbrev qCN7 (a0:List Tok):=(↑(List.length a0):Int)
abbrev qCN8 (a0:TtX):=(↑(TtX.k a0):Int)
abbrev qCN9:=(0:Nat)
abbrev qCNa (a0:List Tok):=(qCN9=qCN9/\Int.toNat (qCN7 a0)=Int.toNat (qCN7 a0)/\Int.toNat (qCN7 a0)=Int.toNat (qCN7 a0))
abbrev qCNb (a0:List Tok) (b0:TtX):=(List.take (Int.toNat (qCN7 a0)) (List.drop qCN9 (TtX.L b0)))
theorem Z63 (l:List Tok) (v:List Nat):Zh E Ftx (vc E Ftx 400) 27 [.psl Th.toks l false] hp0 0 (fun r=>ret E (patch hp0 0 r) r.v (.str false v))=(
 (0:Int)<=(qCN7 l)/\(qCN7 l)<=(qCN7 l)/\(↑(16:Nat):Int)*(qCN7 l)<=(281474976710656:Int)/\∃(R:TtX->Prop),(∃(x:TtX),R x/\true=true/\((qCNa l)/\(l=l/\(false=true->false=true))/\(qCN7 l)=(qCN7 l)/\(0:Int)=(qCN8 x)/\True)/\(List.replicate (Int.toNat (qCN7 l)) (toL (ByteArray.mk #[]))=TtX.L x/\qCN9=qCN9)/\True)/\∀(x:TtX),R x->(decide ((qCN8 x)<(qCN7 l))=true->(0:Int)<=(qCN8 x)/\(qCN8 x)+(1:Int)<=(qCN7 l)/\∀(x_1:Tok),l[Int.toNat (qCN8 x)]? =some x_1->((0:Int)<=(qCN8 x)/\(qCN8 x)+(1:Int)<=(↑(Int.toNat (qCN7 l)):Int))/\qCN9<=qCN9+Int.toNat (qCN8 x)/\qCN9+Int.toNat (qCN8 x)+(1:Nat)<=List.length (TtX.L x)/\∀(x_2:List Nat),(TtX.L x)[qCN9+Int.toNat (qCN8 x)]? =some x_2->∃(x_3:TtX),R x_3/\x_3.2+(1:Nat)<=x.2/\true=true/\((qCNa l)/\(l=l/\(false=true->false=true))/\(qCN7 l)=(qCN7 l)/\wr IntKind.i64 ((qCN8 x)+(1:Int))=(qCN8 x_3)/\True)/\(List.set (TtX.L x) (qCN9+Int.toNat (qCN8 x)) (Tok.text x_1)=TtX.L x_3/\qCN9=qCN9)/\True)/\(decide ((qCN8 x)<(qCN7 l))=false->qCN9+Int.toNat (qCN7 l)<=List.length (TtX.L x)/\(([(32:Nat)]= [(32:Nat)]/\List.length (qCNb l x)<=(1000000000:Nat))/\List.length (Y4 (qCNb l x))<=(1000000000:Nat))/\∀(y:List Nat),y=Y4 (qCNb l x)->y=v)):=by kernel_rfl
mutual
theorem Zfa:∀(n:Int) (x:Ex),1<=szW n x
 |n,.mk _ _ _ _ _ _ l=>by
  rw [szW]
  split
  · decide
  · exact Zn6 (n+1) 1 l
theorem Zn6:∀(n a:Int) (l:List Ex),a<=szWL n a l
 |n,a,[]=>by rw [szWL];omega
 |n,a,x::r=>by
  rw [szWL]
  split
  · have:=Zfa n x
    have:=Zn6 n (a+szW n x) r
    omega
  · omega
end
mutual
theorem Zn7:∀(n:Int) (x:Ex),n<=61->szW n x<=401+400*(61-n)
 |n,.mk _ _ _ _ _ _ l,hn=>by
  rw [szW]
  split
  · omega
  · have:=Zqb (n+1) 1 l (by omega) (by omega)
    omega
theorem Zqb:∀(n a:Int) (l:List Ex),n<=61->a<=801+400*(61-n)->szWL n a l<=801+400*(61-n)
 |n,a,[],_,h=>by rw [szWL];omega
 |n,a,x::r,hn,h=>by
  rw [szWL]
  split
  · have:=Zn7 n x hn
    exact Zqb n (a+szW n x) r hn (by omega)
  · omega
end
mutual
theorem Z3t:∀(n:Int) (x:Ex),szW n x<=400->szW n x=(x.sz:Int)
 |n,.mk _ _ _ _ _ _ l,h=>by
  rw [szW] at h⊢
  split at h
  · omega
  · rename_i hq
    rw [if_neg hq,Zyn (n+1) 1 l (by decide) h,Ex.sz]
    omega
theorem Zyn:∀(n a:Int) (l:List Ex),0<=a->szWL n a l<=400->szWL n a l=a+(Ex.szL l:Int)
 |n,a,[],_,_=>by rw [szWL,Ex.szL];omega
 |n,a,x::r,ha,h=>by
  rw [szWL] at h⊢
  split at h
  · rename_i hq
    have h1:=Zfa n x
    have h2:=Zn6 n (a+szW n x) r
    have h3:=Z3t n x (by omega)
    rw [if_pos hq,Zyn n (a+szW n x) r (by omega) h,Ex.szL]
    omega
  · rename_i hq
    omega
end
theorem Zkz {n a:Int} {l:List Ex} {k:Nat} {y:Ex} (h:l[k]? =some y):szWL n a (l.drop k)=if a<=400 then szWL n (a+szW n y) (l.drop (k+1)) else a:=by rw [Xw h,szWL]
theorem Z64:∀(m:Nat) (n:Int) (x:Ex),62<=n+m->1<=n->n<=61->PureC E 20 [exA x,.int false .i64 n] (.int false .i64 (szW n x)):=by
 intro m
 induction m with
 |zero=>intro n x h;omega
 |succ m ih=>
  intro n x hm h1 h61
  have hF:FnsOk E (Fszw m):=Zl E_ok (Za F0_ok (Z5 E_ok (Zc (f:=20) rfl) fun x h=>ih x.2.1 x.1 h.1 h.2.1 h.2.2)) _ _ _
  refine Zb E_ok (Yr E_ok F0_ok fun f N c=>(Zb2 E_ok hF 400 f N c).1) ?_
  rw [Z2l];delta qCN1 qCN2 qCN3
  simp only [Zx,Zq,Y0,Y1,Y2,beq_iff_eq,bne_iff_ne,beq_eq_false_iff_ne,bne_eq_false_iff_eq,decide_eq_true_eq,decide_eq_false_iff_not,Bool.or_eq_true,Bool.or_eq_false_iff,Bool.not_eq_true',Bool.not_eq_false',Bool.and_eq_true,Bool.and_true,Bool.true_and,Bool.and_eq_false_iff,beq_self_eq_true,Z7,Z2,ne_eq,and_true,true_and,Bool.true_eq_false,Bool.false_eq_true,false_or,or_false,true_implies,imp_self,Int.ofNat_eq_natCast,not_true_eq_false,not_false_eq_true,Decidable.not_not,Ex.eta,forall_eq]
  by_cases h:n>60\/(x.l.length:Int)>400
  · exact ⟨fun b=>b=true,⟨fun _=>rfl,fun h1=>⟨fun _=>rfl,fun h2=>absurd h (by omega)⟩⟩,fun _=>by rw [Z3s,if_pos h],fun h=>by simp at h⟩
  · refine ⟨fun b=>b=false,⟨fun h1=>absurd h (by omega),fun _=>⟨fun h2=>absurd h (by omega),fun _=>rfl⟩⟩,fun h=>by simp at h,fun _=> ?_⟩
    rw [Z3s,if_neg h]
    refine ⟨fun y=>y.k<=x.l.length/\1<=y.j/\y.j<=801+400*(60-n)/\szWL (n+1) y.j (x.l.drop y.k)=szWL (n+1) 1 x.l/\y.r=x.l.length-y.k,⟨⟨0,x.l.length,[],[],0,0,0,1⟩,⟨(by dsimp only;omega),(by dsimp only;omega),(by dsimp only;omega),rfl,rfl⟩,rfl,rfl⟩,?_⟩
    rintro ⟨k,r,D,H,nn,mm,fz,j⟩ ⟨k1,k2,k3,k4,k5⟩
    simp only at k1 k2 k3 k4 k5⊢
    have hw:wr IntKind.i64 (n+1)=n+1:=wr64 (by omega) (by omega)
    rw [hw]
    refine ⟨fun b=>b=true↔(k<x.l.length/\j<=400),⟨fun h3=>⟨fun h4=>by simp;omega,fun h4=>by simp;omega⟩,fun h3=>by simp;omega⟩,fun hq=> ?_,fun hq=> ?_⟩
    · have hq:=hq.1 rfl
      refine ⟨by omega,by omega,fun z hz=> ?_⟩
      have hz:x.l[k]? =some z:=hz
      have b1:=Zfa (n+1) z
      have b2:=Zn7 (n+1) z (by omega)
      rw [Zkz hz,if_pos hq.2] at k4
      refine ⟨⟨by omega,by omega,by omega⟩,⟨k+1,x.l.length-(k+1),[],[],0,0,0,j+szW (n+1) z⟩,⟨(by dsimp only;omega),(by dsimp only;omega),(by dsimp only;omega),k4,rfl⟩,(by dsimp only;omega),wr64 (by omega) (by omega),(wr64 (by omega) (by omega)).trans (by dsimp only;omega)⟩
    · have hq:¬(k<x.l.length/\j<=400):=fun h=>by have:=hq.2 h;simp at this
      rcases Nat.lt_or_ge k x.l.length with hk|hk
      · rw [Zkz (List.getElem?_eq_getElem hk),if_neg (by omega)] at k4
        exact k4
      · rw [Xx hk,szWL] at k4
        exact k4
def Zfb:Int->List Cls->Bool
 |a,[]=>decide (a<=400)
 |a,c::r=>if (c.when_.length:Int)>400 then false else Zfb (a+c.when_.length+szW 1 c.pay) r
def fewT (t:Tar):Bool:=if (t.clauses.length:Int)>80 then false else Zfb 0 t.clauses
theorem Zsx {a:Int} {l:List Cls} {k:Nat} {c:Cls} (h:l[k]? =some c):Zfb a (l.drop k)=if (c.when_.length:Int)>400 then false else Zfb (a+c.when_.length+szW 1 c.pay) (l.drop (k+1)):=by rw [Xw h,Zfb]
theorem Zqc:∀{l:List Cls} {a:Int},0<=a->Zfb a l=true->a<=400/\∀c∈l,c.pay.sz<=400/\c.when_.length<=400
 | [],a,_,h=>by simpa [Zfb] using h
 |c::r,a,ha,h=>by
  rw [Zfb] at h
  split at h
  · cases h
  · have p:=Zfa 1 c.pay
    obtain ⟨h1,h2⟩:=Zqc (by omega) h
    have h3:=Z3t 1 c.pay (by omega)
    refine ⟨by omega,fun x hx=> ?_⟩
    rcases List.mem_cons.1 hx with rfl|hx
    · exact ⟨by omega,by omega⟩
    · exact h2 x hx
theorem Z65 {t:Tar} (h:fewT t=true):(∀c∈t.clauses,c.pay.sz<=400/\c.when_.length<=400)/\t.clauses.length<=80:=by
 unfold fewT at h
 split at h
 · cases h
 · exact ⟨(Zqc (by decide) h).2,by omega⟩
theorem Ybd {t:Tar} (h:fewT t=true):SmT t:=by
 obtain ⟨h1,h2⟩:=Z65 h
 exact ⟨fun c hc=>⟨by have:=(h1 c hc).1;omega,by have:=(h1 c hc).2;omega⟩,by omega⟩
theorem SmT.one {t:Tar} (h:SmT t):SmT1 t:=⟨fun c hc=>⟨by have:=(h.1 c hc).1;omega,(h.1 c hc).2⟩,h.2⟩
theorem Z66 (t:Tar):PureC E 14 [.agg (encF false .tariffs t)] (.bool false (fewT t)):=by
 have hF:FnsOk E Ffw:=Zl E_ok (Za F0_ok (Z5 E_ok (Zc (f:=20) rfl) fun x h=>Z64 61 x.2.1 x.1 h.1 h.2.1 h.2.2)) _ _ _
 refine Zb E_ok (Ze E_ok hF 400) ?_
 rw [Z62];delta qCN4 qCN5 qCN6
 simp only [Zx,Zq,Y0,Y1,Y2,beq_iff_eq,bne_iff_ne,beq_eq_false_iff_ne,bne_eq_false_iff_eq,decide_eq_true_eq,decide_eq_false_iff_not,Bool.or_eq_true,Bool.or_eq_false_iff,Bool.not_eq_true',Bool.not_eq_false',Bool.and_eq_true,Bool.and_true,Bool.true_and,Bool.and_eq_false_iff,beq_self_eq_true,Z7,Z2,ne_eq,and_true,true_and,Bool.true_eq_false,Bool.false_eq_true,false_or,or_false,true_implies,imp_self,Int.ofNat_eq_natCast,not_true_eq_false,not_false_eq_true,Decidable.not_not,Ex.eta,forall_eq]
 unfold fewT
 refine ⟨fun h=>by rw [if_pos h],fun h=> ?_⟩
 rw [if_neg h]
 refine ⟨fun y=>y.k<=t.clauses.length/\0<=y.j/\y.j<=30000*y.k/\Zfb y.j (t.clauses.drop y.k)=Zfb 0 t.clauses/\y.r=t.clauses.length-y.k,⟨⟨0,t.clauses.length,[],[],0,0,0,0⟩,⟨(by dsimp only;omega),(by dsimp only;omega),(by dsimp only;omega),rfl,rfl⟩,rfl,rfl⟩,?_⟩
 rintro ⟨k,r,D,H,nn,mm,fz,j⟩ ⟨k1,k2,k3,k4,k5⟩
 simp only at k1 k2 k3 k4 k5⊢
 refine And.intro (fun hq=>⟨by omega,by omega,fun c hc=> ?_⟩) (fun hq=> ?_)
 · have hc:t.clauses[k]? =some c:=hc
   rw [Zsx hc] at k4
   refine ⟨fun h2=> ?_,fun h2=>⟨by omega,by omega,fun c2 hc2=> ?_⟩⟩
   · rw [if_pos h2] at k4;exact k4
   · have hc2:t.clauses[k]? =some c2:=hc2
     rw [hc] at hc2;cases hc2
     refine ⟨by omega,by omega,fun c3 hc3=> ?_⟩
     have hc3:t.clauses[k]? =some c3:=hc3
     rw [hc] at hc3;cases hc3
     have b1:=Zfa 1 c.pay
     have b2:=Zn7 1 c.pay (by decide)
     rw [if_neg h2] at k4
     rw [wr64 (n:=j+(c.when_.length:Int)) (by omega) (by omega)]
     exact ⟨⟨by decide,by decide,by decide⟩,⟨k+1,t.clauses.length-(k+1),[],[],0,0,0,j+c.when_.length+szW 1 c.pay⟩,⟨(by dsimp only;omega),(by dsimp only;omega),(by dsimp only;omega),k4,rfl⟩,(by dsimp only;omega),wr64 (by omega) (by omega),(wr64 (by omega) (by omega)).trans (by dsimp only;omega)⟩
 · rw [Xx (by omega),Zfb] at k4
   rw [<-k4]
   exact ⟨fun h=>by simpa using h,fun h=>by simpa using h⟩
theorem Z67 (l:List Tok) (h1:l.length<=1000000000) (h2:(Y4 (l.map Tok.text)).length<=1000000000):PureC E 27 [.psl Th.toks l false] (.str false (Y4 (l.map Tok.text))):=by
 have hF:FnsOk E Ftx:=Zl E_ok (Za F0_ok Zob) _ _ _
 refine Zb E_ok (Ze E_ok hF 400) ?_
 rw [Z63];delta qCN7 qCN8 qCN9 qCNa qCNb
 simp only [Zx,Zq,Y0,Y1,Y2,beq_iff_eq,bne_iff_ne,beq_eq_false_iff_ne,bne_eq_false_iff_eq,decide_eq_true_eq,decide_eq_false_iff_not,Bool.or_eq_true,Bool.or_eq_false_iff,Bool.not_eq_true',Bool.not_eq_false',Bool.and_eq_true,Bool.and_true,Bool.true_and,Bool.and_eq_false_iff,beq_self_eq_true,Z7,Z2,ne_eq,and_true,true_and,Bool.true_eq_false,Bool.false_eq_true,false_or,or_false,true_implies,imp_self,Int.ofNat_eq_natCast,not_true_eq_false,not_false_eq_true,Decidable.not_not,Int.toNat_natCast,Nat.zero_add,List.drop_zero,forall_eq]
 refine ⟨by omega,by omega,by omega,fun y=>y.k<=l.length/\y.L=(l.take y.k).map Tok.text++List.replicate (l.length-y.k) []/\y.r=l.length-y.k,⟨⟨0,l.length,List.replicate l.length []⟩,⟨(by dsimp only;omega),rfl,rfl⟩,rfl,rfl⟩,?_⟩
 rintro ⟨k,r,L⟩ ⟨k1,k2,k3⟩
 simp only at k1 k2 k3⊢
 have hL:L.length=l.length:=by rw [k2];simp;omega
 refine And.intro (fun hq=>⟨by omega,by omega,fun z hz=>⟨⟨by omega,by omega⟩,by omega,by omega,fun y hy=> ?_⟩⟩) (fun hq=> ?_)
 · have hq:k<l.length:=by omega
   have hz:l[k]? =some z:=hz
   refine ⟨⟨k+1,l.length-(k+1),L.set k z.text⟩,⟨hq,?_,rfl⟩,(by dsimp only;omega),(wr64 (by omega) (by omega)).trans (by dsimp only;omega),rfl⟩
   have e1:((l.take k).map Tok.text).length=k:=by simp;omega
   have e2:l.length-k=(l.length-(k+1))+1:=by omega
   show L.set k z.text=(l.take (k+1)).map Tok.text++List.replicate (l.length-(k+1)) []
   rw [k2,List.take_add_one,hz,e2,List.replicate_succ,List.set_append_right _ _ (by omega),e1,Nat.sub_self]
   simp
 · have ek:k=l.length:=by omega
   have e:L=l.map Tok.text:=by rw [k2,ek];simp
   rw [List.take_of_length_le (by omega),e]
   refine ⟨by rw [List.length_map];exact Nat.le_refl _,⟨by rw [List.length_map];exact h1,h2⟩,rfl⟩
end
section
open Go
noncomputable def Ztn:DcL E (Tar×Unit):= .cons (dR .tariffs) .nil
noncomputable def Yap:DcL E (Tar×Tar×Unit):= .cons (dR .tariffs) (.cons (dR .tariffs) .nil)
def Z73:List (SV thy)->Option (SV thy)
 | []=>some (.bool true true)
 |_=>none
noncomputable def Z74:Sum thy:=sumO Z73
noncomputable def Sfew:Sum thy:=Zk2 E (fun _=>none) 10 Ztn (fun _=>True) (fun x=>fewT x.1) fun y=> .bool false y
noncomputable def Srs:Sum thy:=Zk2 E (fun _=>none) 10 Yap (fun x=>SmT1 x.1) (fun x=>eqE x.1 x.2.1) fun y=> .bool false y
noncomputable def Z75:Sum thy:=Vo (dA1 dS) (fun _=>True) (fun x=>Zbk x.1) fun y=>parV false y
noncomputable def Z76:Sum thy:=Zk2 E (fun _=>none) 10 Ztn (fun x=>SmT x.1) (fun x=>Vd x.1) fun y=> .tup [.str false y.1,.int false .i64 y.2]
noncomputable def Schk:Sum thy:=Zk2 E (fun _=>none) 10 Ztn (fun x=>SmT x.1) (fun x=>Yq x.1) fun y=> .int false .i64 y
noncomputable def Yaq:Sum thy:=Vo (dA1 Z90) (fun x=>x.1.length<=1000000000/\(Y4 (x.1.map Tok.text)).length<=1000000000) (fun x=>Y4 (x.1.map Tok.text)) fun y=> .str false y
theorem SmT.chk {t:Tar} (h:SmT t):PureC E 17 [.agg (encF false .tariffs t)] (.int false .i64 (Yq t)):=
 Zfs t (fun c hc=>⟨by have:=(h.1 c hc).1;omega,by have:=(h.1 c hc).2;omega⟩) (by have:=h.2;omega)
noncomputable def Flw:Fns thy:=Zpy (addS (addS (addS (addS (addS (addS (addS (addS (addS F0 10 Z74) 14 Sfew) 13 Srs) 19 Srs) 11 Z75) 15 Z76) 17 Schk) 25 Zmq) 27 Yaq)
theorem Zzp:SumOk E 10 Z74:=Zd3 E_ok (Zc rfl) fun args v h=>by
 unfold Z73 at h
 split at h
 · cases h;exact Zxp
 · cases h
theorem Z77:FnsOk E Flw:=Zeu (Za (Za (Za (Za (Za (Za (Za (Za (Za F0_ok Zzp) (Vn E_ok (Zc rfl) fun x _=>Z66 x.1)) (Vn E_ok (Zc rfl) fun x h=>Z7g x.1 x.2.1 h)) (Vn E_ok (Zc rfl) fun x h=>Z2r x.1 x.2.1 h)) (Z5 E_ok (Zc rfl) fun x _=>Zgg x.1)) (Vn E_ok (Zc rfl) fun x h=>Zqj x.1 h)) (Vn E_ok (Zc rfl) fun x h=>SmT.chk h)) Zgf) (Z5 E_ok (Zc rfl) fun x h=>Z67 x.1 h.1 h.2))
end
section
open Go
end
section
open Go
end
section
open Go
structure RS where
 l:List Tok
 ed:Int
 p:Int
 e:Int
 wh:Int
def RS.ok (r:RS):Prop:=0<=r.p/\r.p<=r.l.length/\r.l.length<=2000
def RS.tk (r:RS):Option Tok:=if r.e=0 then r.l[r.p.toNat]? else none
def RS.adv (r:RS):RS:={r with p:=r.p+1}
def RS.here (r:RS):Int:=match r.l[r.p.toNat]? with|some t=>t.at_|none=>r.ed
def RS.fail (r:RS) (c w:Int):RS:=if r.e=0 then {r with e:=c,wh:=w} else r
def RS.is (r:RS) (s:List Nat):Bool:=match r.tk with|some t=>decide (t.kind≠2/\t.text=s)|none=>false
def RS.kind (r:RS) (k:Int):Bool:=match r.tk with|some t=>decide (t.kind=k)|none=>false
def RS.take (r:RS) (s:List Nat):Bool×RS:=if r.is s then (true,r.adv) else (false,r)
def RS.int (r:RS):Int×RS:=if r.kind 2 then ((r.l.getD r.p.toNat z0).n,r.adv) else (0,r.fail 160 r.here)
theorem Zwx:Zh EL F0 (vc EL F0 400) 83 [] hp0 0 (fun r=>ret EL (patch hp0 0 r) r.v (.psl .strs (WK.words .at_) false))=(WK.words .at_=WK.words .at_):=by kernel_rfl
theorem Zwy:Zh EL F0 (vc EL F0 400) 45 [] hp0 0 (fun r=>ret EL (patch hp0 0 r) r.v (.psl .strs ([]::WK.words .ki) false))=(([]::WK.words .ki)=([]::WK.words .ki)):=by kernel_rfl
theorem Zwz:Zh EL F0 (vc EL F0 400) 152 [] hp0 0 (fun r=>ret EL (patch hp0 0 r) r.v (.psl .strs (WK.words .un) false))=(WK.words .un=WK.words .un):=by kernel_rfl
theorem Zw0:Zh EL F0 (vc EL F0 400) 129 [] hp0 0 (fun r=>ret EL (patch hp0 0 r) r.v (.psl .strs (WK.words .ca) false))=(WK.words .ca=WK.words .ca):=by kernel_rfl
theorem Zw1:PureC E 83 [] (.psl .strs (WK.words .at_) false):=Wu (n:=400) (by rw [Zwx])
theorem Zw2:PureC E 45 [] (.psl .strs ([]::WK.words .ki) false):=Wu (n:=400) (by rw [Zwy])
theorem Zw3:PureC E 152 [] (.psl .strs (WK.words .un) false):=Wu (n:=400) (by rw [Zwz])
theorem Zw4:PureC E 129 [] (.psl .strs (WK.words .ca) false):=Wu (n:=400) (by rw [Zw0])
noncomputable def Z5r:Sum thy:=sumP (E:=E) .nil (fun _=>True) fun _=> .psl .strs (WK.words .at_) false
noncomputable def Z88:Sum thy:=sumP (E:=E) .nil (fun _=>True) fun _=> .psl .strs ([]::WK.words .ki) false
noncomputable def Z89:Sum thy:=sumP (E:=E) .nil (fun _=>True) fun _=> .psl .strs (WK.words .un) false
noncomputable def Z9a:Sum thy:=sumP (E:=E) .nil (fun _=>True) fun _=> .psl .strs (WK.words .ca) false
theorem Zpt:SumOk E 83 Z5r:=Zm E_ok (Zc (f:=83) rfl) fun _ _=>Zw1
theorem Z1a:SumOk E 45 Z88:=Zm E_ok (Zc (f:=45) rfl) fun _ _=>Zw2
theorem Z1b:SumOk E 152 Z89:=Zm E_ok (Zc (f:=152) rfl) fun _ _=>Zw3
theorem Z1c:SumOk E 129 Z9a:=Zm E_ok (Zc (f:=129) rfl) fun _ _=>Zw4
noncomputable def Z9b:Dc E (List (List Nat)):=(Zlf (E:=E) Th.strs:Dc E (List (thy.dom Th.strs)))
def RS.name (r:RS):List Nat×RS:=if r.kind 1 then (if (r.l.getD r.p.toNat z0).text∈resW then ([],r.fail 161 r.here) else ((r.l.getD r.p.toNat z0).text,r.adv)) else ([],r.fail 160 r.here)
theorem w2 {r:RS} (h:r.ok):wr .i64 (wr .i64 (r.p+1)-1)=r.p:=by
 obtain ⟨h3,h4,h5⟩:=h
 rw [show wr .i64 (r.p+1)=r.p+1 from wr64 (by omega) (by omega),wr64 (by omega) (by omega)]
 omega
end
section
open Go
noncomputable def Yaf (m:Int):Sum thy:=sumP (dA1 dN) (fun x=>0<=x.1/\x.1<m) fun x=> .str false (decN x.1)
noncomputable def Z7t (m:Int):Fns thy:=addS F0 84 (Yaf m)
theorem Zsy (m:Int) (n:Int) (v:List Nat):Zh E F0 (vc E (Z7t m) 400) 84 [.int false .i64 n] hp0 0 (fun r=>ret E (patch hp0 0 r) r.v (.str false v))=(
(decide (n<(10:Int))=true-> [Int.toNat (wr IntKind.u8 (wr IntKind.i64 ((48:Int)+n)))%(256:Nat)]=v)/\(decide (n<(10:Int))=false->((0:Int)<=wr IntKind.i64 (Int.tdiv n (10:Int))/\wr IntKind.i64 (Int.tdiv n (10:Int))+(1:Int)<=m)/\List.length (decN (wr IntKind.i64 (Int.tdiv n (10:Int))))+(1:Nat)<=(9223372036854775807:Nat)/\decN (wr IntKind.i64 (Int.tdiv n (10:Int)))++ [Int.toNat (wr IntKind.u8 (wr IntKind.i64 ((48:Int)+Int.tmod n (10:Int))))%(256:Nat)]=v)):=by kernel_rfl
theorem Zio (u:Nat) (h:¬u<10):decN (u:Int)=decN ((u/10:Nat):Int)++ [48+u%10]:=by
 have e:∀w:Nat,decN (w:Int)=(Lib.decDigits w).map UInt8.toNat:=fun w=>by
  unfold decN Lib.itoa
  rw [if_neg (by omega)]
  rfl
 rw [e,e]
 conv=>lhs;rw [Lib.decDigits,dif_neg h]
 rw [List.map_append]
 congr 1
 show [(UInt8.ofNat (48+u%10)).toNat]=_
 rw [UInt8.toNat_ofNat']
 congr 1
 omega
theorem Zoc (u:Nat) (h:u<10):decN (u:Int)= [48+u]:=by
 have e:decN (u:Int)=(Lib.decDigits u).map UInt8.toNat:=by
  unfold decN Lib.itoa
  rw [if_neg (by omega)]
  rfl
 rw [e,Lib.decDigits,dif_pos h]
 show [(UInt8.ofNat (48+u)).toNat]=_
 rw [UInt8.toNat_ofNat']
 congr 1
 omega
theorem Zod:∀(m u:Nat),u<m->(decN (u:Int)).length<=u+1
 |0,u,h=>by omega
 |m+1,u,h=>by
  by_cases h10:u<10
  · rw [Zoc u h10];simp
  · rw [Zio u h10,List.length_append]
    have:=Zod m (u/10) (by omega)
    show (decN ((u/10:Nat):Int)).length+1<=u+1
    omega
theorem Zy7:∀(m:Nat),m<=10000000000000->∀(u:Nat),u<m->PureC E 84 [.int false .i64 (u:Int)] (.str false (decN (u:Int))):=by
 intro m
 induction m with
 |zero=>intro _ u h;omega
 |succ m ih=>
  intro hm u hu
  have hF:FnsOk E (Z7t m):=Za F0_ok (Zm E_ok (Zc (f:=84) rfl) fun x h=>by
   obtain ⟨n,_⟩:=x
   obtain ⟨h0,h1⟩:=h
   obtain ⟨w,rfl⟩:=Int.eq_ofNat_of_zero_le h0
   exact ih (by omega) w (by have:(w:Int)<m:=h1;omega))
  refine Zb E_ok (Yr E_ok F0_ok fun f N c=>(Zb2 E_ok hF 400 f N c).1) ?_
  rw [Zsy]
  have e1:Int.tdiv (u:Int) 10=((u/10:Nat):Int):=rfl
  have e2:Int.tmod (u:Int) 10=((u%10:Nat):Int):=rfl
  rw [e1,e2]
  have w1:wr .i64 ((u/10:Nat):Int)=((u/10:Nat):Int):=wr64 (by omega) (by omega)
  have w2:wr .i64 ((48:Int)+((u%10:Nat):Int))=48+((u%10:Nat):Int):=wr64 (by omega) (by omega)
  have w3:∀x:Nat,x<10->Int.toNat (wr .u8 ((48:Int)+(x:Int)))%256=48+x:=fun x hx=>by
   simp only [wr,IntKind.wrap_u8];omega
  rw [w1,w2,w3 _ (by omega)]
  refine ⟨fun h=> ?_,fun h=> ?_⟩
  · have h:(u:Int)<10:=of_decide_eq_true h
    rw [show wr .i64 ((48:Int)+(u:Int))=48+(u:Int) from wr64 (by omega) (by omega),w3 u (by omega)]
    exact (Zoc u (by omega)).symm
  · have h:¬(u:Int)<10:=of_decide_eq_false h
    have:=Zod (u/10+1) (u/10) (by omega)
    exact ⟨⟨by omega,by omega⟩,by omega,(Zio u (by omega)).symm⟩
noncomputable def Srnb:Sum thy:=sumP (dA1 dN) (fun x=>0<=x.1/\x.1<10000000000000) fun x=> .str false (decN x.1)
theorem Zsz:SumOk E 84 Srnb:=Zm E_ok (Zc (f:=84) rfl) fun x h=>by
 obtain ⟨n,_⟩:=x
 obtain ⟨h0,h1⟩:=h
 obtain ⟨w,rfl⟩:=Int.eq_ofNat_of_zero_le h0
 exact Zy7 _ (Nat.le_refl _) w (by have:(w:Int)<10000000000000:=h1;omega)
structure UR where
 o:List (List Nat)
 k:Nat
 r:Nat
noncomputable def Aur1:Fr thy->Hp thy->Nat->Ann thy:=fun T h i=>{X:=UR,fr:=fun x=> [(1,T 1),(3,.sl i 0 x.o.length 1 none),(4,.int false .i64 x.k)],bl:=fun x=>blkP h (T 1)++ [(i,.rows Th.strs x.o 0)],src:=fun x=> [(i,3)],md:= [bOf (T 3)],ih:=i+1,M:=i+60,meas:=fun x=>x.r}
noncomputable def Aur2:Fr thy->Hp thy->Nat->Ann thy:=fun T h i=>{X:=UR,fr:=fun x=> [(1,T 1),(3,.sl i 0 x.o.length 1 none),(5,.int false .i64 x.k)],bl:=fun x=>blkP h (T 1)++ [(i,.rows Th.strs x.o 0)],src:=fun x=> [(i,3)],md:= [bOf (T 3)],ih:=i+1,M:=i+60,meas:=fun x=>x.r}
noncomputable def Frun:Fns thy:=addL (addL (addS F0 152 Z89) 125 3 Aur1 E) 125 8 Aur2 E
theorem Z31:FnsOk E Frun:=Zl E_ok (Zl E_ok (Za F0_ok Z1b) _ _ _) _ _ _
abbrev qCS1:=(0:Nat)
abbrev qCS2 (a0:UR):=(↑(UR.k a0):Int)
abbrev qCS3 (a0:UR) (b0:UR):=(qCS1=qCS1/\(qCS1=qCS1/\List.length (UR.o a0)=List.length (UR.o b0)/\True)/\wr IntKind.i64 ((qCS2 a0)+(1:Int))=(qCS2 b0)/\True)
abbrev qCS4 (a0:Int) (b0:Int) (c0:Int) (d0:Int):=([a0,b0,c0,d0]= [a0,b0,c0,d0]/\qCS1=qCS1)
theorem Zy8 (a b c d:Int) (v:List (List Nat)):Zh E Frun (vc E Frun 400) 125 [.agg [.int false .i64 a,.int false .i64 b,.int false .i64 c,.int false .i64 d]] hp0 0 (fun r=>ret E (patch hp0 0 r) r.v (.psl Th.strs v false))=(
 ∃(R:UR->Prop),(∃(x:UR),R x/\true=true/\(qCS1=qCS1/\(qCS1=qCS1/\qCS1=List.length (UR.o x)/\True)/\(0:Int)=(qCS2 x)/\True)/\(qCS4 a b c d)/\ []=UR.o x/\True)/\∀(x:UR),R x->(decide ((qCS2 x)<(4:Int))=true->((0:Int)<=(qCS2 x)/\(qCS2 x)+(1:Int)<=(↑(4:Nat):Int))/\Int.toNat (qCS2 x)+(1:Nat)<=(4:Nat)/\∀(x_1:Int),[a,b,c,d][Int.toNat (qCS2 x)]? =some x_1->((x_1==(1:Int))=true->True/\(0:Int)<=(qCS2 x)/\(qCS2 x)+(1:Int)<=(↑(List.length (WK.words WK.un)):Int)/\∀(x_2:List Nat),(WK.words WK.un)[Int.toNat (qCS2 x)]? =some x_2->(List.length (UR.o x)<=List.length (UR.o x)/\qCS1<=List.length (UR.o x)/\(List.length (UR.o x)+(1:Nat))*(16:Nat)<=(140737488355328:Nat))/\∃(x_3:UR),R x_3/\x_3.3+(1:Nat)<=x.3/\true=true/\(qCS1=qCS1/\(qCS1=qCS1/\List.length (UR.o x)+(1:Nat)=List.length (UR.o x_3)/\True)/\wr IntKind.i64 ((qCS2 x)+(1:Int))=(qCS2 x_3)/\True)/\(qCS4 a b c d)/\(List.take (List.length (UR.o x)) (UR.o x)++ [x_2]=UR.o x_3/\qCS1=qCS1)/\True)/\((x_1==(1:Int))=false->∃(x_2:UR),R x_2/\x_2.3+(1:Nat)<=x.3/\true=true/\(qCS3 x x_2)/\(qCS4 a b c d)/\(UR.o x=UR.o x_2/\qCS1=qCS1)/\True))/\(decide ((qCS2 x)<(4:Int))=false->∃(R:UR->Prop),(∃(x_1:UR),R x_1/\true=true/\(qCS1=qCS1/\(qCS1=qCS1/\List.length (UR.o x)=List.length (UR.o x_1)/\True)/\(0:Int)=(qCS2 x_1)/\True)/\(qCS4 a b c d)/\(UR.o x=UR.o x_1/\qCS1=qCS1)/\True)/\∀(x:UR),R x->(decide ((qCS2 x)<(4:Int))=true->((0:Int)<=(qCS2 x)/\(qCS2 x)+(1:Int)<=(↑(4:Nat):Int))/\Int.toNat (qCS2 x)+(1:Nat)<=(4:Nat)/\∀(x_1:Int),[a,b,c,d][Int.toNat (qCS2 x)]? =some x_1->((x_1==(-1:Int))=true->True/\(0:Int)<=(qCS2 x)/\(qCS2 x)+(1:Int)<=(↑(List.length (WK.words WK.un)):Int)/\∀(x_2:List Nat),(WK.words WK.un)[Int.toNat (qCS2 x)]? =some x_2->(List.length (UR.o x)<=List.length (UR.o x)/\qCS1<=List.length (UR.o x)/\(List.length (UR.o x)+(2:Nat))*(16:Nat)<=(140737488355328:Nat))/\∃(x_3:UR),R x_3/\x_3.3+(1:Nat)<=x.3/\true=true/\(qCS1=qCS1/\(qCS1=qCS1/\List.length (UR.o x)+(2:Nat)=List.length (UR.o x_3)/\True)/\wr IntKind.i64 ((qCS2 x)+(1:Int))=(qCS2 x_3)/\True)/\(qCS4 a b c d)/\(List.take (List.length (UR.o x)) (UR.o x)++ [[(112:Nat),(101:Nat),(114:Nat)],x_2]=UR.o x_3/\qCS1=qCS1)/\True)/\((x_1==(-1:Int))=false->∃(x_2:UR),R x_2/\x_2.3+(1:Nat)<=x.3/\true=true/\(qCS3 x x_2)/\(qCS4 a b c d)/\(UR.o x=UR.o x_2/\qCS1=qCS1)/\True))/\(decide ((qCS2 x)<(4:Int))=false->qCS1+List.length (UR.o x)<=List.length (UR.o x)/\List.take (List.length (UR.o x)) (UR.o x)=v))):=by kernel_rfl
def upL:List Int->List (List Nat)->List (List Nat)
 |x::d,w::ws=>(if x=1 then [w] else [])++upL d ws
 |_,_=> []
def dnL:List Int->List (List Nat)->List (List Nat)
 |x::d,w::ws=>(if x= -1 then [sPer,w] else [])++dnL d ws
 |_,_=> []
theorem Zk5 {α:Type} {l:List α} {k:Nat} {c:α} (h:l[k]? =some c):l.drop k=c::l.drop (k+1):=by
 have hlt:=(List.getElem?_eq_some_iff.1 h).1
 have hc:l[k]=c:=(List.getElem?_eq_some_iff.1 h).2
 rw [List.drop_eq_getElem_cons hlt,hc]
theorem run_pure (a b c d:Int):PureC E 125 [.agg [.int false .i64 a,.int false .i64 b,.int false .i64 c,.int false .i64 d]] (.psl Th.strs (upL [a,b,c,d] WK.un.words++dnL [a,b,c,d] WK.un.words) false):=by
 refine Zb E_ok (Ze E_ok Z31 400) ?_
 rw [Zy8];delta qCS1 qCS2 qCS3 qCS4
 have u4:WK.un.words.length=4:=rfl
 generalize hD: [a,b,c,d]=D
 have d4:D.length=4:=by rw [<-hD];rfl
 refine ⟨fun x=>x.o++upL (D.drop x.k) (WK.un.words.drop x.k)=upL D WK.un.words/\x.k<=4/\x.r=4-x.k/\x.o.length<=x.k,⟨⟨[],0,4⟩,⟨rfl,Nat.zero_le _,rfl,Nat.zero_le _⟩,by repeat' (first|exact rfl|exact trivial|exact fun h=>h|apply And.intro)⟩,?_⟩
 rintro ⟨o,k,r⟩ ⟨h1,h2,h3,h4⟩
 have h1:o++upL (D.drop k) (WK.un.words.drop k)=upL D WK.un.words:=h1
 have h2:k<=4:=h2
 have h3:r=4-k:=h3
 have h4:o.length<=k:=h4
 have w:k<4->wr .i64 ((k:Int)+1)=((k+1:Nat):Int):=fun h=>by rw [wr64 (by omega) (by omega)];omega
 refine ⟨fun hq=> ?_,fun hq=> ?_⟩
 · have hq:(k:Int)<4:=of_decide_eq_true hq
   have w:=w (by omega)
   refine ⟨⟨by omega,by show (k:Int)+1<=((4:Nat):Int);omega⟩,by show k+1<=4;omega,fun x hx=> ?_⟩
   have hx:D[k]? =some x:=hx
   have hw:WK.un.words[k]? =some (WK.un.words[k]'(by rw [u4];omega)):=List.getElem?_eq_getElem _
   rw [Zk5 hx,Zk5 hw] at h1
   have h1:o++((if x=1 then [WK.un.words[k]'(by rw [u4];omega)] else [])++upL (D.drop (k+1)) (WK.un.words.drop (k+1)))=upL D WK.un.words:=h1
   refine ⟨fun e=>⟨trivial,by omega,by rw [u4];show (k:Int)+1<=((4:Nat):Int);omega,fun y hy=>⟨⟨Nat.le_refl _,Nat.zero_le _,by show (o.length+1)*16<=_;omega⟩,?_⟩⟩,fun e=> ?_⟩
   · have hy:WK.un.words[k]? =some y:=hy
     rw [hw] at hy
     cases hy
     rw [if_pos (eq_of_beq e),<-List.append_assoc] at h1
     refine ⟨⟨o++ [WK.un.words[k]'(by rw [u4];omega)],k+1,r-1⟩,⟨h1,by show k+1<=4;omega,by show r-1=4-(k+1);omega,by show (o++_).length<=k+1;rw [List.length_append];show o.length+1<=k+1;omega⟩,by show r-1+1<=r;omega,?_⟩
     repeat' (first|exact rfl|exact w|exact trivial|exact fun h=>h|exact congrArg (· ++_) List.take_length|(rw [List.length_append];rfl)|apply And.intro)
   · rw [if_neg (fun e2=>by rw [e2] at e;cases e),List.nil_append] at h1
     refine ⟨⟨o,k+1,r-1⟩,⟨h1,by show k+1<=4;omega,by show r-1=4-(k+1);omega,by show o.length<=k+1;omega⟩,by show r-1+1<=r;omega,?_⟩
     repeat' (first|exact rfl|exact w|exact trivial|exact fun h=>h|exact congrArg (· ++_) List.take_length|(rw [List.length_append];rfl)|apply And.intro)
 · have hq:¬(k:Int)<4:=of_decide_eq_false hq
   have hk:k=4:=by omega
   subst hk
   have ho:o=upL D WK.un.words:=by
    rw [<-h1,List.drop_eq_nil_of_le (by omega)]
    show o=o++ []
    rw [List.append_nil]
   have h8:o.length<=4:=h4
   clear h1 h2 h3 h4 w hq
   refine ⟨fun x=>x.o++dnL (D.drop x.k) (WK.un.words.drop x.k)=upL D WK.un.words++dnL D WK.un.words/\x.k<=4/\x.r=4-x.k/\x.o.length<=4+2*x.k,⟨⟨o,0,4⟩,⟨by rw [<-ho];rfl,Nat.zero_le _,rfl,h8⟩,by repeat' (first|exact rfl|exact trivial|exact fun h=>h|apply And.intro)⟩,?_⟩
   clear ho h8
   rintro ⟨o,k,r⟩ ⟨h1,h2,h3,h4⟩
   have h1:o++dnL (D.drop k) (WK.un.words.drop k)=upL D WK.un.words++dnL D WK.un.words:=h1
   have h2:k<=4:=h2
   have h3:r=4-k:=h3
   have h4:o.length<=4+2*k:=h4
   have w:k<4->wr .i64 ((k:Int)+1)=((k+1:Nat):Int):=fun h=>by rw [wr64 (by omega) (by omega)];omega
   refine ⟨fun hq=> ?_,fun hq=> ?_⟩
   · have hq:(k:Int)<4:=of_decide_eq_true hq
     have w:=w (by omega)
     refine ⟨⟨by omega,by show (k:Int)+1<=((4:Nat):Int);omega⟩,by show k+1<=4;omega,fun x hx=> ?_⟩
     have hx:D[k]? =some x:=hx
     have hw:WK.un.words[k]? =some (WK.un.words[k]'(by rw [u4];omega)):=List.getElem?_eq_getElem _
     rw [Zk5 hx,Zk5 hw] at h1
     have h1:o++((if x= -1 then [sPer,WK.un.words[k]'(by rw [u4];omega)] else [])++dnL (D.drop (k+1)) (WK.un.words.drop (k+1)))=upL D WK.un.words++dnL D WK.un.words:=h1
     refine ⟨fun e=>⟨trivial,by omega,by rw [u4];show (k:Int)+1<=((4:Nat):Int);omega,fun y hy=>⟨⟨Nat.le_refl _,Nat.zero_le _,by show (o.length+2)*16<=_;omega⟩,?_⟩⟩,fun e=> ?_⟩
     · have hy:WK.un.words[k]? =some y:=hy
       rw [hw] at hy
       cases hy
       rw [if_pos (eq_of_beq e),<-List.append_assoc] at h1
       refine ⟨⟨o++ [sPer,WK.un.words[k]'(by rw [u4];omega)],k+1,r-1⟩,⟨h1,by show k+1<=4;omega,by show r-1=4-(k+1);omega,by show (o++_).length<=4+2*(k+1);rw [List.length_append];show o.length+2<=4+2*(k+1);omega⟩,by show r-1+1<=r;omega,?_⟩
       repeat' (first|exact rfl|exact w|exact trivial|exact fun h=>h|exact congrArg (· ++_) List.take_length|(rw [List.length_append];rfl)|apply And.intro)
     · rw [if_neg (fun e2=>by rw [e2] at e;cases e),List.nil_append] at h1
       refine ⟨⟨o,k+1,r-1⟩,⟨h1,by show k+1<=4;omega,by show r-1=4-(k+1);omega,by show o.length<=4+2*(k+1);omega⟩,by show r-1+1<=r;omega,?_⟩
       repeat' (first|exact rfl|exact w|exact trivial|exact fun h=>h|exact congrArg (· ++_) List.take_length|(rw [List.length_append];rfl)|apply And.intro)
   · have hq:¬(k:Int)<4:=of_decide_eq_false hq
     have hk:k=4:=by omega
     subst hk
     have ho:o=upL D WK.un.words++dnL D WK.un.words:=by
      rw [<-h1,List.drop_eq_nil_of_le (by omega)]
      show o=o++ []
      rw [List.append_nil]
     subst ho
     repeat' (first|exact rfl|exact trivial|exact fun h=>h|exact List.take_length|(show 0+_<=_;omega)|apply And.intro)
noncomputable def Srun:Sum thy:=sumP (dA1 (dDm:Dc E (List Int))) (fun x=>x.1.length=4) fun x=> .psl Th.strs (upL x.1 WK.un.words++dnL x.1 WK.un.words) false
end
section
open Go Go.RowKit
section
variable {Y : Thy} {E : Eng Y}
def oneR (th:Y.Th) (l:List (Y.dom th)):Hp Y:=fun b=>match Nat.beq b 0 with|true=>some (.rows th l 0)|false=>none
def FreshC (E:Eng Y) (f:FuncId) (args:List (SV Y)) (th:Y.Th) (wd:Nat) (l:List (Y.dom th)):Prop:=
 ∀(g:GH) (w:World) (vals:Array Value),Inv E w.heap.size σ0 hp0 g w->DenL E σ0 g args vals.toList->
  Calls E.P f vals w fun en w'=>∃u,en= .returned u/\∃g' rr z,Stp 0 0 [] σ0 g w σ0 g' w'/\Inv E w.heap.size (σ1 (rr,z)) (oneR th l) g' w'/\Den E (σ1 (rr,z)) g' (.sl 0 0 l.length wd none) u
def Zj2 (i:Nat) (th:Y.Th) (wd:Nat) (l:List (Y.dom th)):Res Y:=⟨.sl i 0 l.length wd none,1,[],at1 i (some (.rows th l 0)),none⟩
def Zei (E:Eng Y) (th:Y.Th) (wd:Nat) (l:List (Y.dom th)) (r:Res Y):Prop:=
 match r.v with
 | .sl b 0 n wd' _=>Nat.beq wd' wd=true/\(match patch hp0 0 r b with
  |some (.rows th' l' 0)=>Vz (th:=th) l' fun l''=>n=l''.length/\l''=l
  |some (.raw cs 0 (some th'))=>(match E.dec th' cs with
   |some x=>Vz (th:=th) [x] fun l''=>n=1/\l''=l
   |none=>False)
  |_=>False)
 |_=>False
theorem Zbb {th:Y.Th} {l:List (Y.dom th)} {b:Nat} {x:Blk Y} (h:oneR th l b=some x):b=0/\x= .rows th l 0:=by
 unfold oneR at h
 split at h
 · rename_i e
   cases h
   exact ⟨Nat.eq_of_beq_eq_true e,rfl⟩
 · cases h
theorem Zpg (hE:EngOk E) {σ σ':Pl} {g:GH} {w:World} {r z:Nat} {th:Y.Th} {l:List (Y.dom th)} {fz:Nat} (hn:∀x∈l,nidL 0 (E.enc th x)=true) (h:BlkOk E σ g w r z (.rows th l fz)):BlkOk E σ' g w r z (.rows th l fz):=by
 obtain ⟨arr,e,h1,h2,h3,h4,h5⟩:=h
 refine ⟨arr,e,h1,h2,h3,fun j sv hj=> ?_,h5⟩
 obtain ⟨v,h6,h7⟩:=h4 j sv hj
 refine ⟨v,h6,Zy hE (i:=0) h7 (fun b p hb=>by omega) ?_⟩
 have hm:sv∈l.flatMap (E.enc th):=List.mem_of_getElem? hj
 obtain ⟨x,hx,hs⟩:=List.mem_flatMap.1 hm
 obtain ⟨k,hk⟩:=List.getElem?_of_mem hs
 exact Zo (hn x hx) hk
theorem Z04 (hE:EngOk E) {σ:Pl} {g:GH} {w:World} {r z:Nat} {th:Y.Th} {cs:List (SV Y)} {x:Y.dom th} (hx:E.dec th cs=some x) (hl:(E.enc th x).length=E.w th) (h:BlkOk E σ g w r z (.raw cs 0 (some th))):BlkOk E σ g w r z (.rows th [x] 0):=by
 obtain ⟨arr,e,h1,h2,h3,h4,h5⟩:=h
 obtain ⟨k1,k2⟩:=hE.dec th cs x hx
 have ec:(Blk.rows th [x] 0).cells E=E.enc th x:=by
  show [x].flatMap (E.enc th)=_
  simp
 have h3:cs.length<=z:=h3
 refine ⟨arr,e,h1,h2,by rw [ec];omega,fun j sv hj=> ?_,h5⟩
 rw [ec] at hj
 have hlt:=(List.getElem?_eq_some_iff.1 hj).1
 have hc:cs[j]? =some (cs[j]'(by omega)):=List.getElem?_eq_getElem _
 obtain ⟨v,h6,h7⟩:=h4 j _ hc
 exact ⟨v,h6,k2 σ g j _ sv v hc hj h7⟩
theorem Zrs (hE:EngOk E) {th:Y.Th} {wd:Nat} {l:List (Y.dom th)} {r:Res Y} (hl:∀x∈l,(E.enc th x).length=E.w th) (hr:Zei E th wd l r):∃b cap x,r.v= .sl b 0 l.length wd cap/\patch hp0 0 r b=some x/\x.fzc E=0/\∀σ g w q z,BlkOk E σ g w q z x->BlkOk E σ g w q z (.rows th l 0):=by
 unfold Zei at hr
 split at hr
 case h_2=>exact hr.elim
 rename_i b n wd' cap hv
 obtain ⟨hw,hr⟩:=hr
 have hw:=Nat.eq_of_beq_eq_true hw
 subst hw
 split at hr
 case h_3=>exact hr.elim
 · rename_i th' l' hb
   obtain ⟨e,hl1,hl2⟩:=Yw hr
   subst e
   have hl2:l'=l:=hl2
   have hl1:n=l'.length:=hl1
   subst hl2
   subst hl1
   exact ⟨b,cap,_,hv,hb,by show 0*E.w th'=0;omega,fun _ _ _ _ _ h=>h⟩
 · rename_i cs th' hb
   split at hr
   case h_2=>exact hr.elim
   rename_i x hx
   obtain ⟨e,hl1,hl2⟩:=Yw hr
   subst e
   have hl2: [x]=l:=hl2
   have hl1:n=1:=hl1
   subst hl2
   subst hl1
   exact ⟨b,cap,_,hv,hb,rfl,fun _ _ _ _ _ h=>Z04 hE hx (hl x (by simp)) h⟩
theorem Wa (hE:EngOk E) {call:Nat->List (SV Y)->Hp Y->Nat->(Res Y->Prop)->Prop} (hcall:Wq E call) {f:Nat} {args:List (SV Y)} {th:Y.Th} {wd:Nat} {l:List (Y.dom th)} (hn:∀x∈l,nidL 0 (E.enc th x)=true) (hl:∀x∈l,(E.enc th x).length=E.w th) (hk:call f args hp0 0 (Zei E th wd l)):FreshC E f args th wd l:=by
 obtain ⟨r,hr,hR,htri⟩:=hcall f args hp0 0 _ (fun b hb=>absurd rfl hb) hk
 obtain ⟨b,cap,blk,hv,hb,hfz,hcv⟩:=Zrs hE hl hr
 have htri':=htri.tri (by rw [hv];rfl)
 intro g w vals hI hd
 refine (htri' w.heap.size σ0 g w vals hp0 (fun _ _=>rfl) hI (Nat.le_refl _) (fun _ _ _=>rfl) hd).mono ?_
 rintro en w' ⟨u,he,σ',g',hS,hI',hv'⟩
 rw [hv] at hv'
 obtain ⟨rr,z,h1,h2⟩:=hI'.blk b _ hb
 obtain ⟨rr2,z2,c,hu,h3,h4,h5,h6,h7⟩:=Vp hv'
 rw [h1] at h3
 cases h3
 have hbs:=hI'.base b rr z h1
 refine ⟨u,he,g',rr,z,⟨.refl _,fun b p h=> .inl h,hS.gle,fun q o v hv=> ?_,hS.gmnew,fun q hq _=>hS.heap q hq (fun b hb z h=>by cases h),hS.size,hS.os,hS.tape,hS.output,fun b q z h1 h2=>by cases h2⟩,⟨hI'.gc,hI'.gm,fun b' x hx=> ?_,fun b1 b2 r z z' h1 h2 _ _=> ?_,fun b' r z' hs=> ?_,fun b' x r z' o v hx hs hg=> ?_,fun b' x r z' hx hs=> ?_,hI'.glob⟩,?_⟩
 · rcases hS.gcnew q o v hv with h|h|⟨b',h,z',h'⟩
   · exact .inl h
   · exact .inr (.inl h)
   · cases h'
 · obtain ⟨rfl,rfl⟩:=Zbb hx
   exact ⟨rr,z,rfl,Zpg hE hn (hcv _ _ _ _ _ h2)⟩
 · have a1:b1=0:=by
    cases hx:oneR th l b1 with
    |none=>exact absurd hx h1
    |some x=>exact (Zbb hx).1
   have a2:b2=0:=by
    cases hx:oneR th l b2 with
    |none=>exact absurd hx h2
    |some x=>exact (Zbb hx).1
   rw [a1,a2]
 · obtain ⟨_,e⟩:=σ1_some hs
   cases e
   exact hbs
 · obtain ⟨_,e⟩:=σ1_some hs
   cases e
   obtain ⟨_,rfl⟩:=Zbb hx
   have:=hI'.fz b _ rr z o v hb h1 hg
   rw [hfz] at this
   exact absurd this (Nat.not_lt_zero _)
 · obtain ⟨_,e⟩:=σ1_some hs
   cases e
   exact hI'.fm b _ rr z hb h1
 · rw [hu]
   exact .sl rfl h4 h5 h6 (fun m h=>by cases h)
theorem FreshC.of_dec {f:Nat} {α:Type} {d:DcL E α} {th:Y.Th} {wd:Nat} {l:List (Y.dom th)} {args:List (SV Y)} {x:α} (hx:d.dec args=some x) (hp:FreshC E f (d.enc x) th wd l):FreshC E f args th wd l:=by
 intro g w vals hI hd
 obtain ⟨k1,k2,k3⟩:=d.ok _ _ hx
 refine hp g w vals hI ⟨by rw [<-k2];exact hd.1,fun j sv u h1 h2=> ?_⟩
 obtain ⟨sv0,h3,h4⟩:=k3 σ0 g j sv h1
 exact h4 u (hd.2 j sv0 u h3 h2)
theorem Wt (h:Hp Y) (i:Nat) (th:Y.Th) (wd:Nat) (l:List (Y.dom th)) (b:Nat):patch h i (Zj2 i th wd l) b=if b=i then some (.rows th l 0) else h b:=by
 show (match memB b []||(Nat.ble i b&&Nat.blt b (i+1)) with|true=>at1 i (some (Blk.rows th l 0)) b|false=>h b)=_
 by_cases e:b=i
 · subst e
   have h1:Nat.ble b b=true:=Nat.ble_self_eq_true b
   have h2:Nat.blt b (b+1)=true:=by unfold Nat.blt;exact Nat.ble_self_eq_true (b+1)
   rw [if_pos rfl,h1,h2]
   show at1 b (some (Blk.rows th l 0)) b=_
   unfold at1
   rw [Nat.beq_refl]
 · have h1:(Nat.ble i b&&Nat.blt b (i+1))=false:=by
    cases h2:Nat.ble i b with
    |false=>rfl
    |true=>
     cases h3:Nat.blt b (i+1) with
     |false=>rfl
     |true=>
      have h2:=Nat.le_of_ble_eq_true h2
      have h3:b+1<=i+1:=Nat.le_of_ble_eq_true h3
      omega
   rw [if_neg e,h1]
   rfl
theorem FreshC.tri (hE:EngOk E) {f:FuncId} {args:List (SV Y)} {th:Y.Th} {wd:Nat} {l:List (Y.dom th)} (hp:FreshC E f args th wd l) (hn:∀x∈l,nidL 0 (E.enc th x)=true) (ha:nidL 0 args=true) (h:Hp Y) (i:Nat) (hD:DomLt h i):ROk h (Zj2 i th wd l)/\Vi E f args h i (Zj2 i th wd l):=by
 refine ⟨fun b hb=>by simp [Zj2] at hb,?_⟩
 intro B σ g w vals hh hhh hI hB hfree hd
 have hd0:DenL E σ0 g args vals.toList:=⟨hd.1,fun j sv u h1 h2=>Zy hE (i:=0) (hd.2 j sv u h1 h2) (fun b p hb=>by omega) (Zo ha h1)⟩
 refine (hp g w vals (Zol hI) hd0).mono ?_
 rintro en w' ⟨u,he,g',rr,z,hS,hI',hv⟩
 have hheap:∀r,r<w.heap.size->w'.heap[r]? =w.heap[r]? :=fun r hr=>hS.heap r hr (by simp)
 have hfi:σ i=none:=hfree i (Nat.le_refl _) (by show i<i+1;omega)
 have hbs:=hI'.base 0 rr z rfl
 let σ2:Pl:=fun b=>match Nat.beq b i with|true=>some (rr,z)|false=>σ b
 have s2i:σ2 i=some (rr,z):=by show (match Nat.beq i i with|true=>some (rr,z)|false=>σ i)=_;rw [Nat.beq_refl]
 have s2n:∀b,b≠i->σ2 b=σ b:=fun b hb=>by
  show (match Nat.beq b i with|true=>some (rr,z)|false=>σ b)=_
  rw [show Nat.beq b i=false from by cases hx:Nat.beq b i with|false=>rfl|true=>exact absurd (Nat.eq_of_beq_eq_true hx) hb]
 have hle:Pl.le σ σ2:=fun b p hb=>by
  by_cases e:b=i
  · subst e;rw [hfi] at hb;cases hb
  · rw [s2n b e];exact hb
 refine ⟨u,he,σ2,g',⟨hle,fun b p hb=> ?_,hS.gle,fun r o v hv=> ?_,hS.gmnew,fun r hr _=>hheap r hr,hS.size,hS.os,hS.tape,hS.output,fun b r z' h1 h2=> ?_⟩,⟨hI'.gc,hI'.gm,fun b x hx=> ?_,fun b1 b2 r z1 z2 h1 h2 h3 h4=> ?_,fun b r z' hs=> ?_,fun b x r z' o v hx hs hg=> ?_,fun b x r z' hx hs=> ?_,hI'.glob⟩,?_⟩
 · by_cases e:b=i
   · exact .inr ⟨by omega,by show b<i+1;omega⟩
   · rw [s2n b e] at hb
     exact .inl hb
 · rcases hS.gcnew r o v hv with h1|h1|⟨b,h1,_⟩
   · exact .inl h1
   · exact .inr (.inl h1)
   · simp at h1
 · by_cases e:b=i
   · subst e
     rw [s2i] at h2
     cases h2
     exact .inl hbs.1
   · rw [s2n b e,h1] at h2
     cases h2
 · rw [Wt] at hx
   by_cases e:b=i
   · subst e
     rw [if_pos rfl] at hx
     cases hx
     obtain ⟨r0,z0,h1,h2⟩:=hI'.blk 0 (.rows th l 0) rfl
     have h1:some (rr,z)=some (r0,z0):=h1
     cases h1
     exact ⟨rr,z,s2i,Zpg hE hn h2⟩
   · rw [if_neg e] at hx
     obtain ⟨r,z0,h1,h2⟩:=hI.blk b x hx
     exact ⟨r,z0,by rw [s2n b e];exact h1,h2.mono hle hS.gle (hheap r (hI.base b r z0 h1).2)⟩
 · rw [Wt] at h1 h2
   by_cases e1:b1=i
   · by_cases e2:b2=i
     · rw [e1,e2]
     · rw [e1,s2i] at h3
       rw [s2n b2 e2] at h4
       cases h3
       have:=(hI.base b2 rr z2 h4).2
       have:=hbs.1
       omega
   · by_cases e2:b2=i
     · rw [e2,s2i] at h4
       rw [s2n b1 e1] at h3
       cases h4
       have:=(hI.base b1 rr z1 h3).2
       have:=hbs.1
       omega
     · rw [if_neg e1] at h1
       rw [if_neg e2] at h2
       rw [s2n b1 e1] at h3
       rw [s2n b2 e2] at h4
       exact hI.inj b1 b2 r z1 z2 h1 h2 h3 h4
 · by_cases e:b=i
   · rw [e,s2i] at hs
     cases hs
     exact ⟨Nat.le_trans hB hbs.1,hbs.2⟩
   · rw [s2n b e] at hs
     exact ⟨(hI.base b r z' hs).1,Nat.lt_of_lt_of_le (hI.base b r z' hs).2 hS.size⟩
 · rw [Wt] at hx
   by_cases e:b=i
   · subst e
     rw [if_pos rfl] at hx
     cases hx
     rw [s2i] at hs
     cases hs
     exact hI'.fz 0 (.rows th l 0) rr z o v rfl rfl hg
   · rw [if_neg e] at hx
     rw [s2n b e] at hs
     rcases hS.gcnew r o v hg with h1|h1|⟨b',h1,_⟩
     · exact hI.fz b x r z' o v hx hs h1
     · have:=(hI.base b r z' hs).2;omega
     · simp at h1
 · rw [Wt] at hx
   by_cases e:b=i
   · subst e
     rw [if_pos rfl] at hx
     cases hx
     rw [s2i] at hs
     cases hs
     exact hI'.fm 0 (.rows th l 0) rr z rfl rfl
   · rw [if_neg e] at hx
     rw [s2n b e] at hs
     cases hg:g'.obj r with
     |none=>rfl
     |some es=>
      rcases hS.gmnew r es hg with h1|h1
      · rw [hI.fm b x r z' hx hs] at h1;cases h1
      · have:=(hI.base b r z' hs).2;omega
 · obtain ⟨rr2,z2,c,hu,h3,h4,h5,h6,h7⟩:=Vp hv
   have h3:some (rr,z)=some (rr2,z2):=h3
   cases h3
   rw [hu]
   exact .sl s2i h4 h5 h6 h7
noncomputable def Zmc {α:Type} (d:DcL E α) (th:Y.Th) (wd:Nat) (pre:α->Prop) (fn:α->List (Y.dom th)):Sum Y:=fun args h i k=>
 match d.dec args with
 |some x=>pre x/\∀y:List (Y.dom th),y=fn x->k (Zj2 i th wd y)
 |none=>False
theorem Zbc (hE:EngOk E) {α:Type} {f:Nat} (hg:FnGood E.P f) {d:DcL E α} {th:Y.Th} {wd:Nat} {pre:α->Prop} {fn:α->List (Y.dom th)} (hn:∀x:Y.dom th,nidL 0 (E.enc th x)=true) (hp:∀x,pre x->FreshC E f (d.enc x) th wd (fn x)):SumOk E f (Zmc d th wd pre fn):=by
 refine ⟨hg,fun args h i k hD hk=> ?_⟩
 unfold Zmc at hk
 split at hk
 · rename_i x hx
   obtain ⟨hpp,hk⟩:=hk
   have ht:=(FreshC.of_dec hx (hp x hpp)).tri hE (fun y _=>hn y) (d.ok _ _ hx).1 h i hD
   exact ⟨_,hk _ rfl,ht.1,.inl ht.2⟩
 · exact hk.elim
end
end
section
open Go
theorem Zyi (n:Int) (v:Int):Zh E F0 (vc E F0 400) 127 [.int false .i64 n] hp0 0 (fun r=>ret E (patch hp0 0 r) r.v (.int false .i64 v))=(
∃(Q:Bool->Prop),(((n==(3:Int))=true->Q true)/\((n==(3:Int))=false->((n==(4:Int))=true->Q true)/\((n==(4:Int))=false->Q false)))/\(Q true->(1:Int)=v)/\(Q false->((n==(5:Int))=true->(2:Int)=v)/\((n==(5:Int))=false->(3:Int)=v))):=by kernel_rfl
theorem Zyj (n:Int):PureC E 127 [.int false .i64 n] (.int false .i64 (Zz n)):=by
 refine Zb E_ok (Ze E_ok F0_ok 400) ?_
 rw [Zyi]
 unfold Zz
 by_cases h3:n=3
 · subst h3
   exact ⟨fun b=>b=true,⟨fun _=>rfl,fun h=>by cases h⟩,fun _=>rfl,fun h=>by cases h⟩
 · have e3:(n==3)=false:=beq_eq_false_iff_ne.2 h3
   by_cases h4:n=4
   · subst h4
     exact ⟨fun b=>b=true,⟨fun _=>rfl,fun _=>⟨fun _=>rfl,fun h=>by cases h⟩⟩,fun _=>rfl,fun h=>by cases h⟩
   · have e4:(n==4)=false:=beq_eq_false_iff_ne.2 h4
     refine ⟨fun b=>b=false,⟨(fun h=>by rw [e3] at h;cases h),fun _=>⟨(fun h=>by rw [e4] at h;cases h),fun _=>rfl⟩⟩,(fun h=>by cases h),fun _=>⟨fun h=> ?_,fun h=> ?_⟩⟩
     · have h5:n=5:=eq_of_beq h
       rw [if_neg (by omega),if_pos h5]
     · have h5:n≠5:=beq_eq_false_iff_ne.1 h
       rw [if_neg (by omega),if_neg h5]
noncomputable def Z6w:Sum thy:=sumP (dA1 dN) (fun _=>True) fun x=> .int false .i64 (Zz x.1)
theorem Zp7:SumOk E 127 Z6w:=Zm E_ok (Zc (f:=127) rfl) fun x _=>Zyj x.1
theorem Wd:∀x:thy.dom Th.strs,nidL 0 (E.enc Th.strs x)=true:=fun _=>rfl
noncomputable def Srtx (m:Nat):Sum thy:=Zmc dExp Th.strs 1 (fun x=>x.1.sz<m/\Zs x.1=true) fun x=>(txX x.1:List (List Nat))
noncomputable def Frop (m:Nat):Fns thy:=addS (addS F0 85 (Srtx m)) 127 Z6w
abbrev qCU1 (a0:List (List Nat)):=(List.take (List.length a0) a0)
abbrev qCU2 (a0:Ex):=(Ex.mk (Ex.op a0) (Ex.n a0) (Ex.d0 a0) (Ex.d1 a0) (Ex.d2 a0) (Ex.d3 a0) (Ex.l a0))
abbrev qCU3:=(1:Nat)
abbrev qCU4 (a0:List (List Nat)):=([[(40:Nat)]]++List.take (List.length a0) a0)
theorem Z2f (m:Nat) (x:Ex) (a:Int) (v:List (List Nat)):Zh E (Frop m) (vc E (Frop m) 400) 128 [exA x,.int false .i64 a] hp0 0 (Zei E Th.strs 1 v)=(
 (Ex.sz (qCU2 x)+qCU3<=m/\Zs (qCU2 x)=true)/\∀(y:List (List Nat)),y=txX (qCU2 x)->True/\(decide (Zz (Ex.op x)>=a)=true->true=true/\List.length y=List.length y/\y=v)/\(decide (Zz (Ex.op x)>=a)=false->(0:Nat)+List.length y<=List.length y/\(List.take (List.length y) y= []->true=true/\qCU3+qCU3=List.length ([[(40:Nat)]]++ [[(41:Nat)]])/\ [[(40:Nat)]]++ [[(41:Nat)]]=v)/\(List.take (List.length y) y≠ []->(qCU3+qCU3<=qCU3+List.length (qCU1 y)/\(qCU3+List.length (qCU1 y))*(16:Nat)<=(140737488355328:Nat))/\(qCU3+List.length (qCU1 y)<=List.length (qCU4 y)/\(0:Nat)<=qCU3+List.length (qCU1 y)/\(qCU3+List.length (qCU1 y)+qCU3)*(16:Nat)<=(140737488355328:Nat))/\true=true/\qCU3+List.length (qCU1 y)+qCU3=List.length (List.take (qCU3+List.length (qCU1 y)) (qCU4 y)++ [[(41:Nat)]])/\List.take (qCU3+List.length (qCU1 y)) (qCU4 y)++ [[(41:Nat)]]=v))):=by kernel_rfl
theorem Zyk {m:Nat} (hF:FnsOk E (Frop m)) (x:Ex) (a:Int) (hx:x.sz<m) (hf:Zs x=true) (hb:x.sz<=1000000000):FreshC E 128 [exA x,.int false .i64 a] Th.strs 1 (par x.op a (txX x):List (List Nat)):=by
 refine Wa E_ok (Ze E_ok hF 400) (fun y _=>Wd y) (fun y _=>E_ok.enc _ y) ?_
 rw [Z2f];delta qCU1 qCU2 qCU3 qCU4
 simp only [Ex.eta]
 have hl:=Yk x
 refine ⟨⟨hx,hf⟩,fun y e=>⟨trivial,fun h=> ?_,fun h=> ?_⟩⟩
 · subst e
   have h:Zz x.op>=a:=of_decide_eq_true h
   exact ⟨trivial,trivial,(if_pos h).symm⟩
 · have h:¬Zz x.op>=a:=of_decide_eq_false h
   have hp:par x.op a (txX x)= [40]::(txX x++ [[41]]):=if_neg h
   rw [hp]
   rw [<-e] at hl⊢
   simp only [List.take_length]
   refine ⟨by omega,fun h0=> ?_,fun h0=>⟨⟨?_,by omega⟩,⟨?_,Nat.zero_le _,by omega⟩,trivial,?_,?_⟩⟩
   · rw [h0]
     exact ⟨trivial,rfl,rfl⟩
   · have:0<y.length:=List.length_pos_iff.2 h0
     omega
   · simp;omega
   · simp;omega
   · have e1:([[40]]++y).length=1+y.length:=by simp;omega
     rw [<-e1,List.take_length]
     rfl
noncomputable def dExN:DcL E (Ex×Int×Unit):= .cons (dR .exprs) (.cons dN .nil)
noncomputable def Srop (m:Nat):Sum thy:=Zmc dExN Th.strs 1 (fun x=>x.1.sz<m/\Zs x.1=true/\x.1.sz<=1000000000) fun x=>(par x.1.op x.2.1 (txX x.1):List (List Nat))
noncomputable def dBet:DcL E (List (List Nat)×List Ex×List (List Nat)×Unit):= .cons Z9b (.cons Z7y (.cons Z9b .nil))
noncomputable def Aub:Fr thy->Hp thy->Nat->Ann thy:=fun T h i=>{X:=UR,fr:=fun x=> [(1,T 1),(2,T 2),(7,.sl i 0 x.o.length 1 none),(8,.int false .i64 x.k)],bl:=fun x=> [(i,.rows Th.strs x.o 0)],src:=fun x=> [(i,7)],md:= [bOf (T 7)],ih:=i+1,M:=i+60,meas:=fun x=>x.r}
noncomputable def Frbe (m:Nat):Fns thy:=addL (addS F0 85 (Srtx m)) 126 3 Aub E
abbrev qCU8 (a0:UR):=(↑(UR.k a0):Int)
abbrev qCU6:=(false=true->false=true)
abbrev qCU9:=(0:Nat)
abbrev qCUb:=(140737488355328:Nat)
abbrev qCUa (a0:List (List Nat)):=(List.take (List.length a0) a0)
abbrev qCU7 (a0:Ex):=(Ex.mk (Ex.op a0) (Ex.n a0) (Ex.d0 a0) (Ex.d1 a0) (Ex.d2 a0) (Ex.d3 a0) (Ex.l a0))
abbrev qCU5 (a0:UR) (b0:List Ex) (c0:Nat) (d0:List (List Nat)) (e0:UR->Prop):=(decide ((qCU8 a0)<(↑(List.length b0):Int))=true->(0:Int)<=(qCU8 a0)/\(qCU8 a0)+(1:Int)<=(↑(List.length b0):Int)/\∀(x_1:Ex),b0[Int.toNat (qCU8 a0)]? =some x_1->(Ex.sz (qCU7 x_1)+(1:Nat)<=c0/\Zs (qCU7 x_1)=true)/\∀(y:List (List Nat)),y=txX (qCU7 x_1)->qCU9+List.length y<=List.length y/\(List.take (List.length y) y= []->(0:Int)<=(qCU8 a0)/\(qCU8 a0)+(1:Int)<=(↑(List.length d0):Int)/\∀(x_2:List Nat),d0[Int.toNat (qCU8 a0)]? =some x_2->(List.length (UR.o a0)<=List.length (UR.o a0)/\qCU9<=List.length (UR.o a0)/\(List.length (UR.o a0)+(1:Nat))*(16:Nat)<=qCUb)/\∃(x_3:UR),e0 x_3/\x_3.3+(1:Nat)<=a0.3/\true=true/\((b0=b0/\qCU6)/\(d0=d0/\qCU6)/\(qCU9=qCU9/\List.length (UR.o a0)+(1:Nat)=List.length (UR.o x_3)/\True)/\wr IntKind.i64 ((qCU8 a0)+(1:Int))=(qCU8 x_3)/\True)/\(List.take (List.length (UR.o a0)) (UR.o a0)++ [x_2]=UR.o x_3/\qCU9=qCU9)/\True)/\(List.take (List.length y) y≠ []->(List.length (UR.o a0)<=List.length (UR.o a0)/\qCU9<=List.length (UR.o a0)/\(List.length (UR.o a0)+List.length (qCUa y))*(16:Nat)<=qCUb)/\(0:Int)<=(qCU8 a0)/\(qCU8 a0)+(1:Int)<=(↑(List.length d0):Int)/\∀(x_2:List Nat),d0[Int.toNat (qCU8 a0)]? =some x_2->(List.length (UR.o a0)+List.length (qCUa y)<=List.length (List.take (List.length (UR.o a0)) (UR.o a0)++List.take (List.length y) y)/\qCU9<=List.length (UR.o a0)+List.length (qCUa y)/\(List.length (UR.o a0)+List.length (qCUa y)+(1:Nat))*(16:Nat)<=qCUb)/\∃(x_3:UR),e0 x_3/\x_3.3+(1:Nat)<=a0.3/\true=true/\((b0=b0/\qCU6)/\(d0=d0/\qCU6)/\(qCU9=qCU9/\List.length (UR.o a0)+List.length (qCUa y)+(1:Nat)=List.length (UR.o x_3)/\True)/\wr IntKind.i64 ((qCU8 a0)+(1:Int))=(qCU8 x_3)/\True)/\(List.take (List.length (UR.o a0)+List.length (qCUa y)) (List.take (List.length (UR.o a0)) (UR.o a0)++List.take (List.length y) y)++ [x_2]=UR.o x_3/\qCU9=qCU9)/\True))
abbrev qCUc (a0:UR) (b0:List Ex) (c0:List (List Nat)):=(decide ((qCU8 a0)<(↑(List.length b0):Int))=false->true=true/\List.length (UR.o a0)=List.length (UR.o a0)/\UR.o a0=c0)
theorem Z2g (m:Nat) (a:List (List Nat)) (l:List Ex) (s:List (List Nat)) (v:List (List Nat)):Zh E (Frbe m) (vc E (Frbe m) 400) 126 [.psl Th.strs a false,.psl Th.exprs l false,.psl Th.strs s false] hp0 0 (Zei E Th.strs 1 v)=(
 (a= []->∃(R:UR->Prop),(∃(x:UR),R x/\true=true/\((l=l/\qCU6)/\(s=s/\qCU6)/\(qCU9=qCU9/\qCU9=List.length (UR.o x)/\True)/\(0:Int)=(qCU8 x)/\True)/\ []=UR.o x/\True)/\∀(x:UR),R x->(qCU5 x l m s R)/\(qCUc x l v))/\(a≠ []->(qCU9+(1:Nat)<=qCU9+List.length a/\(qCU9+List.length a)*(16:Nat)<=qCUb)/\∃(R:UR->Prop),(∃(x:UR),R x/\true=true/\((l=l/\qCU6)/\(s=s/\qCU6)/\(qCU9=qCU9/\qCU9+List.length a=List.length (UR.o x)/\True)/\(0:Int)=(qCU8 x)/\True)/\([]++a=UR.o x/\qCU9=qCU9)/\True)/\∀(x:UR),R x->(qCU5 x l m s R)/\(qCUc x l v))):=by kernel_rfl
theorem Z2h {l:List Ex} {s:List (List Nat)} {k:Nat} {x:Ex} {c:List Nat} (h:l[k]? =some x) (hc:s[k]? =some c):txS (txL (l.drop k)) (s.drop k)=txX x++c::txS (txL (l.drop (k+1))) (s.drop (k+1)):=by
 rw [Zk5 h,Zk5 hc];rfl
theorem Zyl {m:Nat} (hF:FnsOk E (Frbe m)) (a:List (List Nat)) (l:List Ex) (s:List (List Nat)) (hx:∀x∈l,x.sz+1<=m/\Zs x=true) (hs:l.length<=s.length) (hl:l.length<=1000000000) (hv:(a++txS (txL l) s).length<=8000000000):
 FreshC E 126 [.psl Th.strs a false,.psl Th.exprs l false,.psl Th.strs s false] Th.strs 1 (a++txS (txL l) s:List (List Nat)):=by
 refine Wa E_ok (Ze E_ok hF 400) (fun y _=>Wd y) (fun y _=>E_ok.enc _ y) ?_
 rw [Z2g];delta qCU8 qCU6 qCU9 qCUb qCUa qCU7 qCU5 qCUc
 simp only [Ex.eta,List.take_length,Nat.zero_add,Nat.le_refl,true_and,and_true,List.nil_append,implies_true,Nat.zero_le,decide_eq_true_eq,decide_eq_false_iff_not]
 have F1:(false=true->false=true):=fun h=>h
 have ha16:a.length<=8000000000:=by rw [List.length_append] at hv;omega
 generalize hV:a++txS (txL l) s=V at*
 let R:UR->Prop:=fun x=>x.o++txS (txL (l.drop x.k)) (s.drop x.k)=V/\x.k<=l.length/\x.r=l.length-x.k
 have w0:R ⟨a,0,l.length⟩:=⟨hV,Nat.zero_le _,rfl⟩
 refine (fun loop=>And.intro (fun ha=>⟨R,⟨_,w0,⟨F1,F1,by rw [ha];rfl,rfl⟩,ha.symm⟩,loop⟩) (fun ha=>⟨⟨List.length_pos_iff.2 ha,by omega⟩,R,⟨_,w0,⟨F1,F1,rfl,rfl⟩,rfl⟩,loop⟩)) ?_
 rintro ⟨o,k,r⟩ ⟨h1,h2,h3⟩
 have h1:o++txS (txL (l.drop k)) (s.drop k)=V:=h1
 have h2:k<=l.length:=h2
 have h3:r=l.length-k:=h3
 simp only
 refine ⟨fun hk=>⟨by omega,by omega,fun x hx'=> ?_⟩,fun hk=> ?_⟩
 · have hx':l[k]? =some x:=hx'
   refine ⟨hx x (List.mem_of_getElem? hx'),fun y hy=> ?_⟩
   have w:wr .i64 ((k:Int)+1)=((k+1:Nat):Int):=by rw [wr64 (by omega) (by omega)];omega
   have step:∀c,s[k]? =some c->o++(y++c::txS (txL (l.drop (k+1))) (s.drop (k+1)))=V:=fun c hc=>by rw [hy,<-Z2h hx' hc];exact h1
   have lens:∀c,s[k]? =some c->o.length+y.length+1<=8000000000:=fun c hc=>by
    have:=congrArg List.length (step c hc)
    simp only [List.length_append,List.length_cons] at this
    omega
   refine ⟨fun h0=>⟨by omega,by omega,fun c hc=> ?_⟩,fun h0=> ?_⟩
   · have hc:s[k]? =some c:=hc
     have hl':=lens c hc
     refine ⟨by omega,⟨o++ [c],k+1,l.length-(k+1)⟩,⟨?_,by show k+1<=_;omega,rfl⟩,by show l.length-(k+1)+1<=r;omega,⟨F1,F1,by simp,w⟩,rfl⟩
     have:=step c hc
     rw [h0] at this
     show (o++ [c])++_=V
     rw [<-this,List.append_assoc];rfl
   · have hc:s[k]? =some (s[k]'(by omega)):=List.getElem?_eq_getElem _
     have hl':=lens _ hc
     refine ⟨by omega,by omega,by omega,fun c hc=> ?_⟩
     have hc:s[k]? =some c:=hc
     refine ⟨⟨by simp,by omega⟩,⟨(o++y)++ [c],k+1,l.length-(k+1)⟩,⟨?_,by show k+1<=_;omega,rfl⟩,by show l.length-(k+1)+1<=r;omega,⟨F1,F1,by simp;omega,w⟩,by rw [List.take_of_length_le (by simp)]⟩
     have:=step c hc
     show ((o++y)++ [c])++_=V
     rw [<-this,List.append_assoc,List.append_assoc];rfl
 · have hk:k=l.length:=by omega
   rw [hk,List.drop_length] at h1
   rw [<-h1]
   show o=o++txS [] _
   rw [txS,List.append_nil]
   all_goals nofun
noncomputable def Srbe (m:Nat):Sum thy:=Zgb E (fun _=>some Th.strs) 20 (Zmc dBet Th.strs 1 (fun x=>(∀y∈x.2.1,y.sz+1<=m/\Zs y=true)/\x.2.1.length<=x.2.2.1.length/\x.2.1.length<=1000000000/\(x.1++txS (txL x.2.1) x.2.2.1).length<=8000000000) fun x=>(x.1++txS (txL x.2.1) x.2.2.1:List (List Nat)))
noncomputable def Frtx (m:Nat):Fns thy:=addS (addS (addS (addS (addS (addS (addS F0 127 Z6w) 128 (Srop m)) 84 Srnb) 125 Srun) 83 Z5r) 129 Z9a) 126 (Srbe m)
abbrev qCUo:=(0:Int)
abbrev qCUk (a0:List (List Nat)):=(List.length a0)
abbrev qCUe (a0:Ex):=(Ex.mk (Ex.op a0) (Ex.n a0) (Ex.d0 a0) (Ex.d1 a0) (Ex.d2 a0) (Ex.d3 a0) (Ex.l a0))
abbrev qCUl:=(1:Nat)
abbrev qCUi (a0:Ex) (b0:Nat):=(Ex.sz (qCUe a0)+qCUl<=b0/\Zs (qCUe a0)=true/\Ex.sz (qCUe a0)<=(1000000000:Nat))
abbrev qCUu (a0:List (List Nat)):=(List.length a0+qCUl)
abbrev qCUw (a0:List (List Nat)):=(List.take (qCUk a0) a0)
abbrev qCUp:=(140737488355328:Nat)
abbrev qCUn (a0:Ex):=(↑(List.length (Ex.l a0)):Int)
abbrev qCUq (a0:List (List Nat)):=(List.take (qCUk a0) a0++ [[(45:Nat)]])
abbrev qCUm:=(1:Int)
abbrev qCUv (a0:Ex):=(wr IntKind.i64 (Zz (Ex.op a0)+qCUm))
abbrev qCUj (a0:List (List Nat)):=(List.length a0<=List.length a0/\(0:Nat)<=List.length a0/\(qCUu a0)*(16:Nat)<=qCUp)
abbrev qCUd (a0:Ex) (b0:Nat) (c0:List (List Nat)):=((Ex.op a0==(4:Int))=true->qCUo<=qCUo/\qCUo+qCUm<=(qCUn a0)/\∀(x_1:Ex),(Ex.l a0)[Int.toNat qCUo]? =some x_1->(qCUi x_1 b0)/\∀(y:List (List Nat)),y=par (Ex.op (qCUe x_1)) (Zz (Ex.op a0)) (txX (qCUe x_1))->(qCUj y)/\qCUo<=qCUm/\qCUm+qCUm<=(qCUn a0)/\∀(x_2:Ex),(Ex.l a0)[Int.toNat qCUm]? =some x_2->(qCUi x_2 b0)/\∀(y_1:List (List Nat)),y_1=par (Ex.op (qCUe x_2)) (qCUv a0) (txX (qCUe x_2))->(0:Nat)+List.length y_1<=List.length y_1/\(List.take (qCUk y_1) y_1= []->true=true/\List.length y+qCUl=List.length (qCUq y)/\List.take (qCUk y) y++ [[(45:Nat)]]=c0)/\(List.take (qCUk y_1) y_1≠ []->(List.length y+qCUl<=List.length (qCUq y)/\(0:Nat)<=List.length y+qCUl/\(List.length y+qCUl+List.length (qCUw y_1))*(16:Nat)<=qCUp)/\true=true/\List.length y+qCUl+List.length (qCUw y_1)=List.length (List.take (qCUu y) (qCUq y)++List.take (qCUk y_1) y_1)/\List.take (qCUu y) (qCUq y)++List.take (qCUk y_1) y_1=c0))
abbrev qCUr (a0:List (List Nat)):=(List.take (qCUk a0) a0++ [[(42:Nat)]])
abbrev qCUf (a0:Ex) (b0:Nat) (c0:List (List Nat)):=((Ex.op a0==(3:Int))=false->(qCUd a0 b0 c0)/\((Ex.op a0==(4:Int))=false->qCUo<=qCUo/\qCUo+qCUm<=(qCUn a0)/\∀(x_1:Ex),(Ex.l a0)[Int.toNat qCUo]? =some x_1->(qCUi x_1 b0)/\∀(y:List (List Nat)),y=par (Ex.op (qCUe x_1)) (Zz (Ex.op a0)) (txX (qCUe x_1))->(qCUj y)/\qCUo<=qCUm/\qCUm+qCUm<=(qCUn a0)/\∀(x_2:Ex),(Ex.l a0)[Int.toNat qCUm]? =some x_2->(qCUi x_2 b0)/\∀(y_1:List (List Nat)),y_1=par (Ex.op (qCUe x_2)) (qCUv a0) (txX (qCUe x_2))->(0:Nat)+List.length y_1<=List.length y_1/\(List.take (qCUk y_1) y_1= []->true=true/\List.length y+qCUl=List.length (qCUr y)/\List.take (qCUk y) y++ [[(42:Nat)]]=c0)/\(List.take (qCUk y_1) y_1≠ []->(List.length y+qCUl<=List.length (qCUr y)/\(0:Nat)<=List.length y+qCUl/\(List.length y+qCUl+List.length (qCUw y_1))*(16:Nat)<=qCUp)/\true=true/\List.length y+qCUl+List.length (qCUw y_1)=List.length (List.take (qCUu y) (qCUr y)++List.take (qCUk y_1) y_1)/\List.take (qCUu y) (qCUr y)++List.take (qCUk y_1) y_1=c0)))
abbrev qCUs (a0:List (List Nat)):=(List.take (qCUk a0) a0++ [[(43:Nat)]])
abbrev qCUg (a0:Ex) (b0:Nat) (c0:List (List Nat)):=((Ex.op a0==(3:Int))=true->(qCUd a0 b0 c0)/\((Ex.op a0==(4:Int))=false->qCUo<=qCUo/\qCUo+qCUm<=(qCUn a0)/\∀(x_1:Ex),(Ex.l a0)[Int.toNat qCUo]? =some x_1->(qCUi x_1 b0)/\∀(y:List (List Nat)),y=par (Ex.op (qCUe x_1)) (Zz (Ex.op a0)) (txX (qCUe x_1))->(qCUj y)/\qCUo<=qCUm/\qCUm+qCUm<=(qCUn a0)/\∀(x_2:Ex),(Ex.l a0)[Int.toNat qCUm]? =some x_2->(qCUi x_2 b0)/\∀(y_1:List (List Nat)),y_1=par (Ex.op (qCUe x_2)) (qCUv a0) (txX (qCUe x_2))->(0:Nat)+List.length y_1<=List.length y_1/\(List.take (qCUk y_1) y_1= []->true=true/\List.length y+qCUl=List.length (qCUs y)/\List.take (qCUk y) y++ [[(43:Nat)]]=c0)/\(List.take (qCUk y_1) y_1≠ []->(List.length y+qCUl<=List.length (qCUs y)/\(0:Nat)<=List.length y+qCUl/\(List.length y+qCUl+List.length (qCUw y_1))*(16:Nat)<=qCUp)/\true=true/\List.length y+qCUl+List.length (qCUw y_1)=List.length (List.take (qCUu y) (qCUs y)++List.take (qCUk y_1) y_1)/\List.take (qCUu y) (qCUs y)++List.take (qCUk y_1) y_1=c0)))
abbrev qCUt:=(WK.words WK.un)
abbrev qCUh (a0:Ex):=(upL [Ex.d0 a0,Ex.d1 a0,Ex.d2 a0,Ex.d3 a0] qCUt++dnL [Ex.d0 a0,Ex.d1 a0,Ex.d2 a0,Ex.d3 a0] qCUt)
theorem Z2i (m:Nat) (x:Ex) (v:List (List Nat)):Zh E F0 (vc E (Frtx m) 400) 85 [exA x] hp0 0 (Zei E Th.strs 1 v)=(
 ((Ex.op x==qCUm)=true->(qCUo<=Ex.n x/\Ex.n x+qCUm<=(10000000000000:Int))/\(4:Nat)=(4:Nat)/\(upL [Ex.d0 x,Ex.d1 x,Ex.d2 x,Ex.d3 x] qCUt++dnL [Ex.d0 x,Ex.d1 x,Ex.d2 x,Ex.d3 x] qCUt= []->true=true/\qCUl=qCUl/\ [decN (Ex.n x)]=v)/\(upL [Ex.d0 x,Ex.d1 x,Ex.d2 x,Ex.d3 x] qCUt++dnL [Ex.d0 x,Ex.d1 x,Ex.d2 x,Ex.d3 x] qCUt≠ []->(qCUl+qCUl<=qCUl+List.length (qCUh x)/\(qCUl+List.length (qCUh x))*(16:Nat)<=qCUp)/\true=true/\qCUl+List.length (qCUh x)=List.length ([decN (Ex.n x)]++(qCUh x))/\ [decN (Ex.n x)]++(qCUh x)=v))/\((Ex.op x==qCUm)=false->((Ex.op x==(2:Int))=true->True/\qCUo<=Ex.n x/\Ex.n x+qCUm<=(↑(List.length (WK.words WK.at_)):Int)/\∀(x_1:List Nat),(WK.words WK.at_)[Int.toNat (Ex.n x)]? =some x_1->true=true/\qCUl=qCUl/\ [x_1]=v)/\((Ex.op x==(2:Int))=false->((Ex.op x==(11:Int))=true->((∀(y:Ex),y∈Ex.l x->Ex.sz y+qCUl<=m/\Zs y=true)/\List.length (Ex.l x)<=(4:Nat)/\List.length (Ex.l x)<=(1000000000:Nat)/\List.length ([[(105:Nat),(102:Nat)],[(40:Nat)]]++txS (txL (Ex.l x)) [[(60:Nat)],[(44:Nat)],[(44:Nat)],[(41:Nat)]])<=(8000000000:Nat))/\∀(y:List (List Nat)),y= [[(105:Nat),(102:Nat)],[(40:Nat)]]++txS (txL (Ex.l x)) [[(60:Nat)],[(44:Nat)],[(44:Nat)],[(41:Nat)]]->true=true/\List.length y=List.length y/\y=v)/\((Ex.op x==(11:Int))=false->((Ex.op x==(3:Int))=true->True/\(qCUg x m v)/\(qCUf x m v))/\((Ex.op x==(3:Int))=false->((Ex.op x==(4:Int))=true->True/\(qCUg x m v)/\(qCUf x m v))/\((Ex.op x==(4:Int))=false->((Ex.op x==(5:Int))=true->True/\(qCUg x m v)/\(qCUf x m v))/\((Ex.op x==(5:Int))=false->True/\qCUo<=wr IntKind.i64 (Ex.op x-(6:Int))/\wr IntKind.i64 (Ex.op x-(6:Int))+qCUm<=(↑(List.length (WK.words WK.ca)):Int)/\∀(x_1:List Nat),(WK.words WK.ca)[Int.toNat (wr IntKind.i64 (Ex.op x-(6:Int)))]? =some x_1->((∀(y:Ex),y∈Ex.l x->Ex.sz y+qCUl<=m/\Zs y=true)/\List.length (Ex.l x)<=(2:Nat)/\List.length (Ex.l x)<=(1000000000:Nat)/\List.length ([x_1,[(40:Nat)]]++txS (txL (Ex.l x)) [[(44:Nat)],[(41:Nat)]])<=(8000000000:Nat))/\∀(y:List (List Nat)),y= [x_1,[(40:Nat)]]++txS (txL (Ex.l x)) [[(44:Nat)],[(41:Nat)]]->true=true/\List.length y=List.length y/\y=v))))))):=by kernel_rfl
theorem Z91 {a b c d:Int} (h:Vr [a,b,c,d]=true):upL [a,b,c,d] WK.un.words++dnL [a,b,c,d] WK.un.words=txU [a,b,c,d]:=by
 obtain ⟨ha,hb,hc,hd⟩:=Zp8 h
 revert h
 rcases X5 ha with rfl|rfl|rfl<;>rcases X5 hb with rfl|rfl|rfl<;>rcases X5 hc with rfl|rfl|rfl<;>rcases X5 hd with rfl|rfl|rfl
 all_goals (clear ha hb hc hd;decide)
theorem Z6x:SumOk E 125 Srun:=Zm E_ok (Zc (f:=125) rfl) fun x h=>by
 obtain ⟨l,_⟩:=x
 match l,h with
 | [a,b,c,d],_=>exact run_pure a b c d
theorem Z6y {m:Nat} (hm:m<=1000000000) (ih:∀x:Ex,x.sz<m->Zs x=true->FreshC E 85 [exA x] Th.strs 1 (txX x:List (List Nat))):SumOk E 85 (Srtx m):=
 Zbc E_ok (Zc (f:=85) rfl) Wd fun x h=>ih x.1 h.1 h.2
theorem Z6z {m:Nat} (hm:m<=1000000000) (ih:∀x:Ex,x.sz<m->Zs x=true->FreshC E 85 [exA x] Th.strs 1 (txX x:List (List Nat))):FnsOk E (Frtx m):=by
 have h1:=Z6y hm ih
 have h2:FnsOk E (Frop m):=Za (Za F0_ok h1) Zp7
 have h3:FnsOk E (Frbe m):=Zl E_ok (Za F0_ok h1) _ _ _
 refine Za (Za (Za (Za (Za (Za (Za F0_ok Zp7) ?_) Zsz) Z6x) Zpt) Z1c) (Zbi E_ok ?_)
 · exact Zbc E_ok (Zc (f:=128) rfl) Wd fun x h=>Zyk h2 x.1 x.2.1 h.1 h.2.1 h.2.2
 · exact Zbc E_ok (Zc (f:=126) rfl) Wd fun x h=>Zyl h3 x.1 x.2.1 x.2.2.1 h.1 h.2.1 h.2.2.1 h.2.2.2
theorem Ze7 {m:Nat} {op:Int} {sg:List Nat} {x y:Ex} {T:List (List Nat)} (hx:x.sz+1<=m/\Zs x=true) (hy:y.sz+1<=m/\Zs y=true) (hm:m<=1000000000)
 (hT:T=par x.op (Zz op) (txX x)++sg::par y.op (Zz op+1) (txX y)) (hw:wr .i64 (Zz op+1)=Zz op+1) (hB:T.length<=8000000000):
 (0:Int)<=0/\(0:Int)+1<=([x,y].length:Nat)/\∀x1:Ex,[x,y][Int.toNat 0]? =some x1->(x1.sz+1<=m/\Zs x1=true/\x1.sz<=1000000000)/\∀y1:List (List Nat),y1=par x1.op (Zz op) (txX x1)->
  (y1.length+1)*16<=140737488355328/\(0:Int)<=1/\(1:Int)+1<=([x,y].length:Nat)/\∀x2:Ex,[x,y][Int.toNat 1]? =some x2->(x2.sz+1<=m/\Zs x2=true/\x2.sz<=1000000000)/\
   ∀y2:List (List Nat),y2=par x2.op (wr .i64 (Zz op+1)) (txX x2)->(y2= []->y1.length+1=(y1++ [sg]).length/\y1++ [sg]=T)/\
    (y2≠ []->(y1.length+1<=(y1++ [sg]).length/\(y1.length+1+y2.length)*16<=140737488355328)/\y1.length+1+y2.length=(List.take (y1.length+1) (y1++ [sg])++y2).length/\List.take (y1.length+1) (y1++ [sg])++y2=T):=by
 refine ⟨by omega,by show (0:Int)+1<=2;omega,fun x1 e1=> ?_⟩
 cases e1
 refine ⟨⟨hx.1,hx.2,by omega⟩,fun y1 e1=> ?_⟩
 have hl:=congrArg List.length hT
 rw [<-e1,List.length_append,List.length_cons] at hl
 refine ⟨by omega,by omega,by show (1:Int)+1<=2;omega,fun x2 e2=> ?_⟩
 cases e2
 refine ⟨⟨hy.1,hy.2,by omega⟩,fun y2 e2=> ?_⟩
 rw [hw] at e2
 rw [<-e2] at hl
 rw [<-e1,<-e2] at hT
 have e3:List.take (y1.length+1) (y1++ [sg])=y1++ [sg]:=List.take_of_length_le (by simp)
 rw [e3]
 refine ⟨fun h0=>⟨by simp,by rw [hT,h0]⟩,fun h0=>⟨⟨by simp,by omega⟩,by simp;omega,by rw [hT,List.append_assoc];rfl⟩⟩
theorem Z60:∀(m:Nat),m<=1000000000->∀(x:Ex),x.sz<m->Zs x=true->FreshC E 85 [exA x] Th.strs 1 (txX x:List (List Nat)):=by
 intro m
 induction m with
 |zero=>intro _ x h;omega
 |succ m ih=>
  intro hm x hx hf
  have hF:=Z6z (m:=m) (by omega) (ih (by omega))
  refine Wa E_ok (Yr E_ok F0_ok fun f N c=>(Zb2 E_ok hF 400 f N c).1) (fun y _=>Wd y) (fun y _=>E_ok.enc _ y) ?_
  have htl:=Yk x
  rw [Z2i];delta qCUo qCUk qCUe qCUl qCUi qCUu qCUw qCUp qCUn qCUq qCUm qCUv qCUj qCUd qCUr qCUf qCUs qCUg qCUt qCUh
  simp only [Ex.eta,List.take_length,Nat.zero_add,Nat.le_refl,true_and,and_true,List.nil_append,implies_true,Nat.zero_le]
  rw [Zc2,Bool.and_eq_true] at hf
  obtain ⟨hh,hl⟩:=hf
  have hkid:∀y∈x.l,y.sz+1<=m/\Zs y=true:=fun y hy=>⟨by have:=Ex.sz_mem hy;omega,formL_iff.1 hl y hy⟩
  obtain ⟨op,n,a,b,c,d,l⟩:=x
  simp only [Ex.op,Ex.n,Ex.u,Ex.d0,Ex.d1,Ex.d2,Ex.d3,Ex.l] at hh hkid⊢
  obtain ⟨h1,h2,h3,h4,h5,h6,h7⟩:=Zch hh
  clear hl hh
  have htx:txX (.mk op n a b c d l)=txN op n [a,b,c,d] (l.map Ex.op) (txL l):=by rw [txX]
  rw [htx] at htl⊢
  by_cases q1:op=1
  · subst q1
    have ht:txN 1 n [a,b,c,d] (l.map Ex.op) (txL l)=decN n::txU [a,b,c,d]:=if_pos rfl
    rw [ht] at htl⊢
    rw [Z91 h6]
    have hn:n<=1099511627776:=h4
    refine ⟨fun _=>⟨⟨h3,by omega⟩,fun h0=> ?_,fun h0=> ?_⟩,fun h=>absurd h (by decide)⟩
    · rw [h0]
    · have:=List.length_pos_iff.2 h0
      rw [List.length_cons] at htl
      exact ⟨⟨by omega,by omega⟩,by simp;omega,rfl⟩
  refine ⟨fun h=>absurd (eq_of_beq h) q1,fun _=> ?_⟩
  by_cases q2:op=2
  · subst q2
    have hn:n<=15:=h4
    have ht:txN 2 n [a,b,c,d] (l.map Ex.op) (txL l)= [WK.at_.words.getD n.toNat []]:=rfl
    rw [ht]
    refine ⟨fun _=>⟨h3,by show n+1<=16;omega,fun y hy=> ?_⟩,fun h=>absurd h (by decide)⟩
    rw [List.getD_eq_getElem?_getD,hy];rfl
  refine ⟨fun h=>absurd (eq_of_beq h) q2,fun _=> ?_⟩
  by_cases q3:op=11
  · subst q3
    have ht:txN 11 n [a,b,c,d] (l.map Ex.op) (txL l)=sIf::U3::txS (txL l) [Zh1,Y8,Y8,Xg]:=rfl
    rw [ht] at htl⊢
    have hl4:l.length=4:=h5
    refine ⟨fun _=>⟨⟨hkid,by omega,by omega,?_⟩,fun y hy=>hy⟩,fun h=>absurd h (by decide)⟩
    show (sIf::U3::txS (txL l) [Zh1,Y8,Y8,Xg]).length<=_
    omega
  refine ⟨fun h=>absurd (eq_of_beq h) q3,fun _=> ?_⟩
  have hl2:l.length=2:=by
   rw [h5]
   unfold Zcv
   rw [if_neg (by omega),if_neg q3]
  by_cases q4:op=3\/op=4\/op=5
  · obtain ⟨x,y,rfl⟩:=len2 hl2
    have hk1:=hkid x (by simp)
    have hk2:=hkid y (by simp)
    rcases q4 with rfl|rfl|rfl
    · simp only [Int.reduceBEq,reduceCtorEq,true_imp_iff,false_imp_iff,true_and,and_true,Bool.true_eq_false,Bool.false_eq_true]
      exact Ze7 hk1 hk2 (by omega) rfl (by decide) (by omega)
    · simp only [Int.reduceBEq,reduceCtorEq,true_imp_iff,false_imp_iff,true_and,and_true,Bool.true_eq_false,Bool.false_eq_true]
      exact Ze7 hk1 hk2 (by omega) rfl (by decide) (by omega)
    · simp only [Int.reduceBEq,reduceCtorEq,true_imp_iff,false_imp_iff,true_and,and_true,Bool.true_eq_false,Bool.false_eq_true]
      exact Ze7 hk1 hk2 (by omega) rfl (by decide) (by omega)
  · have h345:op≠3/\op≠4/\op≠5:=⟨fun h=>q4 (.inl h),fun h=>q4 (.inr (.inl h)),fun h=>q4 (.inr (.inr h))⟩
    have e3:(op==(3:Int))=false:=beq_eq_false_iff_ne.2 h345.1
    have e4:(op==(4:Int))=false:=beq_eq_false_iff_ne.2 h345.2.1
    have e5:(op==(5:Int))=false:=beq_eq_false_iff_ne.2 h345.2.2
    simp only [e3,e4,e5,reduceCtorEq,true_imp_iff,false_imp_iff,true_and,and_true,Bool.true_eq_false,Bool.false_eq_true]
    have hw:wr .i64 (op-6)=op-6:=wr64 (by omega) (by omega)
    have ht:txN op n [a,b,c,d] (l.map Ex.op) (txL l)=WK.ca.words.getD (op-6).toNat []::U3::txS (txL l) [Y8,Xg]:=by
     unfold txN
     rw [if_neg q1,if_neg q2,if_neg q3,if_neg q4]
    rw [hw]
    refine ⟨by omega,by show op-6+1<=5;omega,fun w hwd=> ?_⟩
    have hg:WK.ca.words.getD (op-6).toNat []=w:=by rw [List.getD_eq_getElem?_getD,hwd];rfl
    rw [ht,hg] at htl⊢
    exact ⟨⟨hkid,by omega,by omega,by show (w::U3::txS (txL l) [Y8,Xg]).length<=_;omega⟩,fun y hy=>hy⟩
noncomputable def Z92:Sum thy:=Zmc dExp Th.strs 1 (fun x=>x.1.sz<1000000000/\Zs x.1=true) fun x=>(txX x.1:List (List Nat))
theorem Z2j:SumOk E 85 Z92:=Zbc E_ok (Zc (f:=85) rfl) Wd fun x h=>Z60 1000000000 (Nat.le_refl _) x.1 h.1 h.2
end
section
open Go
structure KX where
 k:Nat
 r:Nat
def Zo5 (t:Tar):Prop:=(∀c∈t.clauses,c.pay.sz<1000000000/\c.when_.length<1000000000000)/\t.clauses.length<1000000000000
noncomputable def dTar:DcL E (Tar×Unit):= .cons (dR .tariffs) .nil
noncomputable def Aw16:Fr thy->Hp thy->Nat->Ann thy:=fun T h i=>{X:=KX,fr:=fun x=> [(0,T 0),(3,.int false .i64 x.k)],bl:=fun x=> [],src:=fun _=> [],md:= [],ih:=i,M:=i+20,meas:=fun x=>x.r}
noncomputable def Fw16:Fns thy:=addL F0 90 4 Aw16 E
theorem Z4z:FnsOk E Fw16:=Zl E_ok F0_ok _ _ _
abbrev qCV1 (a0:List Nat):=(↑(List.length a0):Int)
abbrev qCV2 (a0:KX):=(↑(KX.k a0):Int)
abbrev qCV3:=(0:Int)
abbrev qCV4:=(1:Int)
theorem Zz3 (s:List Nat) (v:Bool):Zh E Fw16 (vc E Fw16 400) 90 [.str false s] hp0 0 (fun r=>ret E (patch hp0 0 r) r.v (.bool false v))=(
 ∃(Q:Bool->Prop),((decide ((qCV1 s)<qCV4)=true->Q true)/\(decide ((qCV1 s)<qCV4)=false->(decide ((qCV1 s)>(32:Int))=true->Q true)/\(decide ((qCV1 s)>(32:Int))=false->qCV3<=qCV3/\qCV3+qCV4<=(qCV1 s)/\∀(x:Nat),s[Int.toNat qCV3]? =some x->(decide ((↑x:Int)<(97:Int))=true->Q true)/\(decide ((↑x:Int)<(97:Int))=false->qCV3<=qCV3/\qCV3+qCV4<=(qCV1 s)/\∀(x:Nat),s[Int.toNat qCV3]? =some x->(decide ((↑x:Int)>(122:Int))=true->Q true)/\(decide ((↑x:Int)>(122:Int))=false->Q false)))))/\(Q true->false=v)/\(Q false->∃(R:KX->Prop),(∃(x:KX),R x/\true=true/\(s=s/\qCV3=(qCV2 x)/\True)/\True)/\∀(x:KX),R x->(decide ((qCV2 x)<(qCV1 s))=true->∃(Q:Bool->Prop),(qCV3<=(qCV2 x)/\(qCV2 x)+qCV4<=(qCV1 s)/\∀(x_1:Nat),s[Int.toNat (qCV2 x)]? =some x_1->(decide ((↑x_1:Int)<(97:Int))=true->qCV3<=(qCV2 x)/\(qCV2 x)+qCV4<=(qCV1 s)/\∀(x_2:Nat),s[Int.toNat (qCV2 x)]? =some x_2->(decide ((↑x_2:Int)<(48:Int))=true->Q true)/\(decide ((↑x_2:Int)<(48:Int))=false->qCV3<=(qCV2 x)/\(qCV2 x)+qCV4<=(qCV1 s)/\∀(x_3:Nat),s[Int.toNat (qCV2 x)]? =some x_3->(decide ((↑x_3:Int)>(57:Int))=true->Q true)/\(decide ((↑x_3:Int)>(57:Int))=false->Q false)))/\(decide ((↑x_1:Int)<(97:Int))=false->qCV3<=(qCV2 x)/\(qCV2 x)+qCV4<=(qCV1 s)/\∀(x_2:Nat),s[Int.toNat (qCV2 x)]? =some x_2->(decide ((↑x_2:Int)>(122:Int))=true->qCV3<=(qCV2 x)/\(qCV2 x)+qCV4<=(qCV1 s)/\∀(x_3:Nat),s[Int.toNat (qCV2 x)]? =some x_3->(decide ((↑x_3:Int)<(48:Int))=true->Q true)/\(decide ((↑x_3:Int)<(48:Int))=false->qCV3<=(qCV2 x)/\(qCV2 x)+qCV4<=(qCV1 s)/\∀(x_4:Nat),s[Int.toNat (qCV2 x)]? =some x_4->(decide ((↑x_4:Int)>(57:Int))=true->Q true)/\(decide ((↑x_4:Int)>(57:Int))=false->Q false)))/\(decide ((↑x_2:Int)>(122:Int))=false->Q false)))/\(Q true->false=v)/\(Q false->∃(x_1:KX),R x_1/\x_1.2+(1:Nat)<=x.2/\true=true/\(s=s/\wr IntKind.i64 ((qCV2 x)+qCV4)=(qCV2 x_1)/\True)/\True))/\(decide ((qCV2 x)<(qCV1 s))=false->true=v))):=by kernel_rfl
theorem Zz4 (s:List Nat):PureC E 90 [.str false s] (.bool false (Yy s)):=by
 refine Zb E_ok (Ze E_ok Z4z 400) ?_
 rw [Zz3];delta qCV1 qCV2 qCV3 qCV4
 simp only [Zx,Zq,Y0,Y1,Y2,beq_iff_eq,bne_iff_ne,beq_eq_false_iff_ne,bne_eq_false_iff_eq,decide_eq_true_eq,decide_eq_false_iff_not,Bool.or_eq_true,Bool.or_eq_false_iff,Bool.not_eq_true',Bool.not_eq_false',Bool.and_eq_true,Bool.and_true,Bool.true_and,Bool.and_eq_false_iff,beq_self_eq_true,Z7,Z2,ne_eq,and_true,true_and,Bool.true_eq_false,Bool.false_eq_true,false_or,or_false,true_implies,imp_self,Int.ofNat_eq_natCast,not_true_eq_false,not_false_eq_true,Decidable.not_not,List.getElem?_cons_zero,List.getElem?_cons_succ,Option.some.injEq,forall_eq',forall_eq,List.set_cons_zero,List.set_cons_succ,List.length_cons,List.length_nil,List.getD_cons_zero,List.getD_cons_succ,tn0,tn1,tn2,tn3,Int.le_refl,Nat.le_refl,Nat.reduceAdd,Int.reduceAdd,Int.reduceLE,Nat.reduceLeDiff,cn4,cn16]
 have hwb:∀c,wb c=true↔(97<=c/\c<=122)\/(48<=c/\c<=57):=fun c=>by simp [wb]
 have hlow:∀c,s[0]? =some c->(lowF s=true↔97<=c/\c<=122):=fun c hc=>by
  cases s with
  |nil=>simp at hc
  |cons c' r=>
   obtain rfl:c'=c:=by simpa using hc
   simp [lowF]
 have hnil:s.length<1->lowF s=false:=fun h=>by
  cases s with
  |nil=>rfl
  |cons c r=>simp at h
 have bad:¬(s.length<=32/\lowF s=true)->false=Yy s:=fun h=>by
  cases hb:Yy s with
  |false=>rfl
  |true=>exfalso;simp only [Yy,Bool.and_eq_true,decide_eq_true_eq] at hb;exact h hb.1
 refine ⟨fun b=>b=true↔¬(s.length<=32/\lowF s=true),And.intro (fun h=>⟨fun _ hh=>(by rw [hnil (by omega)] at hh;exact absurd hh.2 (by decide)),fun _=>rfl⟩) (fun h=>And.intro (fun h'=>⟨fun _ hh=>(by omega),fun _=>rfl⟩) (fun h'=>⟨by omega,fun c hc=>And.intro (fun h3=>⟨fun _ hh=>(by have:=(hlow c hc).1 hh.2;omega),fun _=>rfl⟩) (fun h3=>⟨by omega,fun c2 hc2=>And.intro (fun h4=>⟨fun _ hh=>(by have:=(hlow c2 hc2).1 hh.2;omega),fun _=>rfl⟩) (fun h4=>⟨fun h=>(by cases h),fun hh=>absurd ⟨by omega,(hlow c2 hc2).2 (And.intro (by have:c=c2:=Option.some.inj (hc.symm.trans hc2);omega) (by omega))⟩ hh⟩)⟩)⟩)),fun h=>bad (h.1 rfl),fun h=> ?_⟩
 have hh:s.length<=32/\lowF s=true:=Decidable.byContradiction fun hn=>by have:=h.2 hn;cases this
 have hf:Yy s=(s.drop 0).all wb:=by simp [Yy,hh.1,hh.2]
 refine ⟨fun x=>x.k+x.r=s.length/\Yy s=(s.drop x.k).all wb,⟨⟨0,s.length⟩,⟨Nat.zero_add _,hf⟩,rfl⟩,fun x hx=>⟨fun hk=> ?_,fun hk=>by rw [hx.2,List.drop_of_length_le (by omega)];rfl⟩⟩
 obtain ⟨c,hc⟩:∃c,s[x.k]? =some c:=⟨s[x.k]'(by omega),List.getElem?_eq_getElem _⟩
 have hd:(s.drop x.k).all wb=(wb c&&(s.drop (x.k+1)).all wb):=by rw [Xw hc,List.all_cons]
 have wF:¬((97<=c/\c<=122)\/(48<=c/\c<=57))->wb c= !true:=fun h=>Bool.eq_false_iff.2 fun hw=>h ((hwb c).1 hw)
 have wT:(97<=c/\c<=122)\/(48<=c/\c<=57)->wb c= !false:=fun h=>(hwb c).2 h
 simp only [Int.toNat_natCast,hc,Option.some.injEq,forall_eq']
 refine ⟨fun b=>wb c= !b,⟨by omega,by omega,And.intro (fun h1=>⟨by omega,by omega,And.intro (fun h2=>wF (by omega)) (fun h2=>⟨by omega,by omega,And.intro (fun h3=>wF (by omega)) (fun h3=>wT (by omega))⟩)⟩) (fun h1=>⟨by omega,by omega,And.intro (fun h2=>⟨by omega,by omega,And.intro (fun h3=>wF (by omega)) (fun h3=>⟨by omega,by omega,And.intro (fun h4=>wF (by omega)) (fun h4=>wT (by omega))⟩)⟩) (fun h2=>wT (by omega))⟩)⟩,fun hq=> ?_,fun hq=>⟨⟨x.k+1,x.r-1⟩,⟨by dsimp only;omega,?_⟩,by dsimp only;omega,?_⟩⟩
 · rw [hx.2,hd,hq];rfl
 · rw [hx.2,hd,hq];rfl
 · dsimp only
   exact (wr64 (by omega) (by omega)).trans (by omega)
noncomputable def Sw16:Sum thy:=sumP (dA1 dS) (fun _=>True) fun x=> .bool false (Yy x.1)
noncomputable def SF16:Sum thy:=sumP dExp (fun x=>x.1.sz<1000000000000) fun x=> .bool false (Zs x.1)
noncomputable def At16:Fr thy->Hp thy->Nat->Ann thy:=fun T h i=>{X:=KX,fr:=fun x=> [(1,T 1),(3,.int false .i64 x.k)],bl:=fun x=>blkP h (T 1),src:=fun _=> [],md:= [],ih:=i,M:=i+40,meas:=fun x=>x.r}
noncomputable def Yas:Fr thy->Hp thy->Nat->Ann thy:=fun T h i=>{X:=KX,fr:=fun x=> [(1,T 1),(3,T 3),(4,T 4),(5,.int false .i64 x.k)],bl:=fun x=>blkP h (T 1)++blkP h (T 4),src:=fun _=> [],md:= [],ih:=i,M:=i+30,meas:=fun x=>x.r}
noncomputable def Ft16:Fns thy:=addL (addL (addS (addS F0 90 Sw16) 91 SF16) 51 4 At16 E) 51 10 Yas E
abbrev qCVb:=(false=true->false=true)
abbrev qCVe (a0:Cls):=(Cls.pay a0)
abbrev qCV5 (a0:Cls):=(Cls.name a0=Cls.name a0/\(Cls.when_ a0=Cls.when_ a0/\qCVb)/\Ex.op (qCVe a0)=Ex.op (qCVe a0)/\Ex.n (qCVe a0)=Ex.n (qCVe a0)/\Ex.d0 (qCVe a0)=Ex.d0 (qCVe a0)/\Ex.d1 (qCVe a0)=Ex.d1 (qCVe a0)/\Ex.d2 (qCVe a0)=Ex.d2 (qCVe a0)/\Ex.d3 (qCVe a0)=Ex.d3 (qCVe a0)/\(Ex.l (qCVe a0)=Ex.l (qCVe a0)/\qCVb)/\True)
abbrev qCV6 (a0:Tar):=(Tar.name a0=Tar.name a0/\Tar.for_ a0=Tar.for_ a0/\(Tar.clauses a0=Tar.clauses a0/\qCVb)/\True)
abbrev qCV7 (a0:Cls):=(Ex.mk (Ex.op (qCVe a0)) (Ex.n (qCVe a0)) (Ex.d0 (qCVe a0)) (Ex.d1 (qCVe a0)) (Ex.d2 (qCVe a0)) (Ex.d3 (qCVe a0)) (Ex.l (qCVe a0)))
abbrev qCV8 (a0:KX):=(↑(KX.k a0):Int)
abbrev qCV9:=(0:Nat)
abbrev qCVa:=(1099511627776:Int)
abbrev qCVc:=(0:Int)
abbrev qCVd (a0:Tar):=(↑(List.length (Tar.clauses a0)):Int)
theorem Zz5 (t:Tar) (v:Bool):Zh E Ft16 (vc E Ft16 400) 51 [tarA t] hp0 0 (fun r=>ret E (patch hp0 0 r) r.v (.bool false v))=(
 True/\((!Yy (Tar.name t))=true->false=v)/\((!Yy (Tar.name t))=false->(decide (Tar.for_ t<(1:Int))=true->false=v)/\(decide (Tar.for_ t<(1:Int))=false->(decide (Tar.for_ t>(6:Int))=true->false=v)/\(decide (Tar.for_ t>(6:Int))=false->∃(R:KX->Prop),(∃(x:KX),R x/\true=true/\(qCV9=qCV9/\qCVc=(qCV8 x)/\True)/\(qCV6 t)/\True)/\∀(x:KX),R x->(decide ((qCV8 x)<(qCVd t))=true->qCVc<=(qCV8 x)/\(qCV8 x)+(1:Int)<=(qCVd t)/\∀(x_1:Cls),(Tar.clauses t)[Int.toNat (qCV8 x)]? =some x_1->True/\((!Yy (Cls.name x_1))=true->false=v)/\((!Yy (Cls.name x_1))=false->Ex.sz (qCV7 x_1)+(1:Nat)<=(1000000000000:Nat)/\((!Zs (qCV7 x_1))=true->false=v)/\((!Zs (qCV7 x_1))=false->∃(R_1:KX->Prop),(∃(x_2:KX),R_1 x_2/\true=true/\(qCV9=qCV9/\(qCV8 x)=(qCV8 x)/\qCV9=qCV9/\qCVc=(qCV8 x_2)/\True)/\(qCV6 t)/\(qCV5 x_1)/\True)/\∀(x_2:KX),R_1 x_2->(decide ((qCV8 x_2)<(↑(List.length (Cls.when_ x_1)):Int))=true->qCVc<=(qCV8 x_2)/\(qCV8 x_2)+(1:Int)<=(↑(List.length (Cls.when_ x_1)):Int)/\∀(x_3:Tst),(Cls.when_ x_1)[Int.toNat (qCV8 x_2)]? =some x_3->∃(Q:Bool->Prop),((decide (Tst.attr x_3<qCVc)=true->Q true)/\(decide (Tst.attr x_3<qCVc)=false->(decide (Tst.attr x_3>=(16:Int))=true->Q true)/\(decide (Tst.attr x_3>=(16:Int))=false->(decide (Tst.low x_3<qCVc)=true->Q true)/\(decide (Tst.low x_3<qCVc)=false->(decide (Tst.low x_3>qCVa)=true->Q true)/\(decide (Tst.low x_3>qCVa)=false->(decide (Tst.high x_3<qCVc)=true->Q true)/\(decide (Tst.high x_3<qCVc)=false->(decide (Tst.high x_3>qCVa)=true->Q true)/\(decide (Tst.high x_3>qCVa)=false->Q false)))))))/\(Q true->false=v)/\(Q false->∃(x_4:KX),R_1 x_4/\x_4.2+(1:Nat)<=x_2.2/\true=true/\(qCV9=qCV9/\(qCV8 x)=(qCV8 x)/\qCV9=qCV9/\wr IntKind.i64 ((qCV8 x_2)+(1:Int))=(qCV8 x_4)/\True)/\(qCV6 t)/\(qCV5 x_1)/\True))/\(decide ((qCV8 x_2)<(↑(List.length (Cls.when_ x_1)):Int))=false->∃(x_3:KX),R x_3/\x_3.2+(1:Nat)<=x.2/\true=true/\(qCV9=qCV9/\wr IntKind.i64 ((qCV8 x)+(1:Int))=(qCV8 x_3)/\True)/\(qCV6 t)/\True))))/\(decide ((qCV8 x)<(qCVd t))=false->true=v))))):=by kernel_rfl
theorem Z40:SumOk E 90 Sw16:=Zm E_ok (Zc (f:=90) rfl) fun x h=>Zz4 _
theorem Z41:SumOk E 91 SF16:=Zm E_ok (Zc (f:=91) rfl) fun x h=>Zry _ (Nat.le_refl _) _ h
theorem Z42:FnsOk E Ft16:=Zl E_ok (Zl E_ok (Za (Za F0_ok Z40) Z41) _ _ _) _ _ _
def tarF (t:Tar):Bool:=Yy t.name&&decide (1<=t.for_/\t.for_<=6)&&t.clauses.all Yh
theorem Zz6 (t:Tar) (hsz:∀c∈t.clauses,c.pay.sz<1000000000/\c.when_.length<1000000000000) (hl:t.clauses.length<1000000000000):PureC E 51 [tarA t] (.bool false (tarF t)):=by
 refine Zb E_ok (Ze E_ok Z42 400) ?_
 rw [Zz5];delta qCVb qCVe qCV5 qCV6 qCV7 qCV8 qCV9 qCVa qCVc qCVd
 simp only [Zx,Zq,Y0,Y1,Y2,beq_iff_eq,bne_iff_ne,beq_eq_false_iff_ne,bne_eq_false_iff_eq,decide_eq_true_eq,decide_eq_false_iff_not,Bool.or_eq_true,Bool.or_eq_false_iff,Bool.not_eq_true',Bool.not_eq_false',Bool.and_eq_true,Bool.and_true,Bool.true_and,Bool.and_eq_false_iff,beq_self_eq_true,Z7,Z2,ne_eq,and_true,true_and,Bool.true_eq_false,Bool.false_eq_true,false_or,or_false,true_implies,imp_self,Int.ofNat_eq_natCast,not_true_eq_false,not_false_eq_true,Decidable.not_not,List.getElem?_cons_zero,List.getElem?_cons_succ,Option.some.injEq,forall_eq',forall_eq,List.set_cons_zero,List.set_cons_succ,List.length_cons,List.length_nil,List.getD_cons_zero,List.getD_cons_succ,tn0,tn1,tn2,tn3,Int.le_refl,Nat.le_refl,Nat.reduceAdd,Int.reduceAdd,Int.reduceLE,Nat.reduceLeDiff,cn4,cn16,Ex.eta]
 have e0:tarF t=(Yy t.name&&decide (1<=t.for_/\t.for_<=6)&&t.clauses.all Yh):=rfl
 have bad:¬(1<=t.for_/\t.for_<=6)->false=tarF t:=fun h=>by rw [e0,decide_eq_false h,Bool.and_false,Bool.false_and]
 refine And.intro (fun h=>by rw [e0,h];rfl) (fun h1=>And.intro (fun h=>bad (by omega)) (fun h2=>And.intro (fun h=>bad (by omega)) (fun h3=> ?_)))
 have hf:tarF t=(t.clauses.drop 0).all Yh:=by rw [e0,h1,decide_eq_true (show 1<=t.for_/\t.for_<=6 by omega)];rfl
 refine ⟨fun x=>x.k+x.r=t.clauses.length/\tarF t=(t.clauses.drop x.k).all Yh,⟨⟨0,t.clauses.length⟩,⟨Nat.zero_add _,hf⟩,rfl⟩,fun x hx=>⟨fun hk=>⟨by omega,by omega,fun c hc=> ?_⟩,fun hk=>by rw [hx.2,List.drop_of_length_le (by omega)];rfl⟩⟩
 rw [Int.toNat_natCast] at hc
 have hs:=hsz c (List.mem_of_getElem? hc)
 have hd:(t.clauses.drop x.k).all Yh=(Yh c&&(t.clauses.drop (x.k+1)).all Yh):=by rw [Xw hc,List.all_cons]
 have ec:Yh c=(Yy c.name&&Zs c.pay&&c.when_.all Z6):=rfl
 refine And.intro (fun h=>by rw [hx.2,hd,ec,h];rfl) (fun h4=>And.intro (by omega) (And.intro (fun h=>by rw [hx.2,hd,ec,h,Bool.and_false];rfl) (fun h5=> ?_)))
 refine ⟨fun y=>y.k+y.r=c.when_.length/\tarF t=((c.when_.drop y.k).all Z6&&(t.clauses.drop (x.k+1)).all Yh),⟨⟨0,c.when_.length⟩,⟨Nat.zero_add _,by rw [hx.2,hd,ec,h4,h5];rfl⟩,rfl⟩,fun y hy=>⟨fun hk2=>⟨by omega,by omega,fun w hw=> ?_⟩,fun hk2=>⟨⟨x.k+1,x.r-1⟩,⟨by dsimp only;omega,by rw [hy.2,List.drop_of_length_le (by omega)];rfl⟩,by dsimp only;omega,?_⟩⟩⟩
 · rw [Int.toNat_natCast] at hw
   have hwd:=Zgt hw
   have wF:¬(0<=w.attr/\w.attr<16/\0<=w.low/\w.low<=1099511627776/\0<=w.high/\w.high<=1099511627776)->Z6 w= !true:=fun h=>decide_eq_false h
   have wT:(0<=w.attr/\w.attr<16/\0<=w.low/\w.low<=1099511627776/\0<=w.high/\w.high<=1099511627776)->Z6 w= !false:=fun h=>decide_eq_true h
   refine ⟨fun b=>Z6 w= !b,And.intro (fun h=>wF (by omega)) (fun a1=>And.intro (fun h=>wF (by omega)) (fun a2=>And.intro (fun h=>wF (by omega)) (fun a3=>And.intro (fun h=>wF (by omega)) (fun a4=>And.intro (fun h=>wF (by omega)) (fun a5=>And.intro (fun h=>wF (by omega)) (fun a6=>wT (by omega))))))),fun hq=> ?_,fun hq=>⟨⟨y.k+1,y.r-1⟩,⟨by dsimp only;omega,?_⟩,by dsimp only;omega,?_⟩⟩
   · rw [hy.2,hwd,hq];rfl
   · rw [hy.2,hwd,hq];rfl
   · dsimp only
     exact (wr64 (by omega) (by omega)).trans (by omega)
 · dsimp only
   exact (wr64 (by omega) (by omega)).trans (by omega)
noncomputable def Z8g (m:Nat):Sum thy:=sumP dExp (fun x=>x.1.sz<m) fun x=> .int false .i64 (Yb x.1:Int)
noncomputable def An16:Fr thy->Hp thy->Nat->Ann thy:=fun T h i=>{X:=DX,fr:=fun x=> [(1,T 1),(3,.int false .i64 x.j),(4,.int false .i64 x.k)],bl:=fun x=>blkP h (T 1),src:=fun _=> [],md:= [],ih:=i,M:=i+40,meas:=fun x=>x.r}
noncomputable def Fn16 (m:Nat):Fns thy:=addL (addS F0 21 (Z8g m)) 21 3 An16 E
theorem Zz7 (m:Nat) (x:Ex) (v:Int):Zh E F0 (vc E (Fn16 m) 400) 21 [exA x] hp0 0 (fun r=>ret E (patch hp0 0 r) r.v (.int false .i64 v))=(
∃(R:DX->Prop),(∃(x_1:DX),R x_1/\true=true/\((0:Nat)=(0:Nat)/\(0:Int)=DX.j x_1/\(0:Int)=(↑(DX.k x_1):Int)/\True)/\(Ex.op x=Ex.op x/\Ex.n x=Ex.n x/\Ex.d0 x=Ex.d0 x/\Ex.d1 x=Ex.d1 x/\Ex.d2 x=Ex.d2 x/\Ex.d3 x=Ex.d3 x/\(Ex.l x=Ex.l x/\(false=true->false=true))/\True)/\True)/\∀(x_1:DX),R x_1->(decide ((↑(DX.k x_1):Int)<(↑(List.length (Ex.l x)):Int))=true->(0:Int)<=(↑(DX.k x_1):Int)/\(↑(DX.k x_1):Int)+(1:Int)<=(↑(List.length (Ex.l x)):Int)/\∀(x_2:Ex),(Ex.l x)[Int.toNat (↑(DX.k x_1):Int)]? =some x_2->Ex.sz (Ex.mk (Ex.op x_2) (Ex.n x_2) (Ex.d0 x_2) (Ex.d1 x_2) (Ex.d2 x_2) (Ex.d3 x_2) (Ex.l x_2))+(1:Nat)<=m/\∃(x_3:DX),R x_3/\x_3.2+(1:Nat)<=x_1.2/\true=true/\((0:Nat)=(0:Nat)/\mm2 true (DX.j x_1) (↑(Yb (Ex.mk (Ex.op x_2) (Ex.n x_2) (Ex.d0 x_2) (Ex.d1 x_2) (Ex.d2 x_2) (Ex.d3 x_2) (Ex.l x_2))):Int)=DX.j x_3/\wr IntKind.i64 ((↑(DX.k x_1):Int)+(1:Int))=(↑(DX.k x_3):Int)/\True)/\(Ex.op x=Ex.op x/\Ex.n x=Ex.n x/\Ex.d0 x=Ex.d0 x/\Ex.d1 x=Ex.d1 x/\Ex.d2 x=Ex.d2 x/\Ex.d3 x=Ex.d3 x/\(Ex.l x=Ex.l x/\(false=true->false=true))/\True)/\True)/\(decide ((↑(DX.k x_1):Int)<(↑(List.length (Ex.l x)):Int))=false->wr IntKind.i64 (DX.j x_1+(1:Int))=v)):=by kernel_rfl
theorem Z43:∀(m:Nat) (x:Ex),x.sz<=m->m<=1000000000000->PureC E 21 [exA x] (.int false .i64 (Yb x:Int)):=by
 intro m
 induction m with
 |zero=>intro x h;have:=x.sz_pos;omega
 |succ m ih=>
  intro x hm hb
  have hF:FnsOk E (Fn16 (m+1)):=Zl E_ok (Za F0_ok (Zm E_ok (Zc (f:=21) rfl) fun x h=>ih x.1 (by omega) (by omega))) _ _ _
  refine Zb E_ok (Yr E_ok F0_ok fun f N c=>(Zb2 E_ok hF 400 f N c).1) ?_
  rw [Zz7]
  simp only [Zx,Zq,Y0,Y1,Y2,beq_iff_eq,bne_iff_ne,beq_eq_false_iff_ne,bne_eq_false_iff_eq,decide_eq_true_eq,decide_eq_false_iff_not,Bool.or_eq_true,Bool.or_eq_false_iff,Bool.not_eq_true',Bool.not_eq_false',Bool.and_eq_true,Bool.and_true,Bool.true_and,Bool.and_eq_false_iff,beq_self_eq_true,Z7,Z2,ne_eq,and_true,true_and,Bool.true_eq_false,Bool.false_eq_true,false_or,or_false,true_implies,imp_self,Int.ofNat_eq_natCast,not_true_eq_false,not_false_eq_true,Decidable.not_not,List.getElem?_cons_zero,List.getElem?_cons_succ,Option.some.injEq,forall_eq',forall_eq,List.set_cons_zero,List.set_cons_succ,List.length_cons,List.length_nil,List.getD_cons_zero,List.getD_cons_succ,tn0,tn1,tn2,tn3,Int.le_refl,Nat.le_refl,Nat.reduceAdd,Int.reduceAdd,Int.reduceLE,Nat.reduceLeDiff,cn4,cn16,Ex.eta]
  have hsz:=x.sz_eq
  have hlen:=Ex.szL_len x.l
  have hnx:=Zor x
  have hns:=Zg6 x
  refine ⟨fun y=>y.k<=x.l.length/\0<=y.j/\max y.j (Zaz (x.l.drop y.k):Int)=(Zaz x.l:Int)/\y.r=x.l.length-y.k,⟨⟨0,x.l.length,[],[],0,0,0,0⟩,⟨(by dsimp only;omega),(by dsimp only;omega),by dsimp only;rw [List.drop_zero];omega,rfl⟩,rfl,rfl⟩,?_⟩
  rintro y ⟨hk,hj1,hv,hr⟩
  refine And.intro (fun hq=> ?_) (fun hq=> ?_)
  · refine ⟨by omega,by omega,fun z hz=> ?_⟩
    have hz:x.l[y.k]? =some z:=hz
    have hzs:=Ex.sz_mem (List.mem_of_getElem? hz)
    rw [Zgh hz] at hv
    rw [wr64 (n:=(y.k:Int)+1) (by omega) (by omega)]
    exact ⟨by omega,⟨y.k+1,x.l.length-(y.k+1),[],[],0,0,0,max y.j (Yb z:Int)⟩,⟨(by dsimp only;omega),(by dsimp only;omega),(by dsimp only;omega),rfl⟩,by show x.l.length-(y.k+1)+1<=y.r;omega,rfl,rfl⟩
  · rw [Xx (by omega)] at hv
    simp only [Zaz] at hv
    rw [wr64 (by omega) (by omega)]
    omega
end
section
open Go
structure C16X where
 k:Nat
 r:Nat
 d:Bool
 W:List (List Nat)
noncomputable def Aix:Fr thy->Hp thy->Nat->Ann thy:=fun T h i=>{X:=KX,fr:=fun x=> [(0,T 0),(1,T 1),(5,.int false .i64 x.k)],bl:=fun x=>blkS h (T 0),src:=fun _=> [],md:= [],ih:=i,M:=i+30,meas:=fun x=>x.r}
noncomputable def Ac16:Fr thy->Hp thy->Nat->Ann thy:=fun T h i=>{X:=C16X,fr:=fun x=> [(1,T 1),(3,.sl i 0 x.W.length 1 none),(4,.bool false x.d),(5,.int false .i64 x.k)],bl:=fun x=>blkP h (T 1)++blkA h (T 3) i Th.strs x.W,src:=fun _=> [(i,3)],md:= [bOf (T 3)],ih:=i+1,M:=i+80,meas:=fun x=>x.r}
noncomputable def St16:Sum thy:=sumP dTar (fun x=>Zo5 x.1) fun x=> .bool false (tarF x.1)
theorem Z4u:SumOk E 51 St16:=Zm E_ok (Zc (f:=51) rfl) fun x h=>Zz6 _ h.1 h.2
noncomputable def Sn16:Sum thy:=sumP dExp (fun x=>x.1.sz<1000000000000) fun x=> .int false .i64 (Yb x.1:Int)
theorem Z4v:SumOk E 21 Sn16:=Zm E_ok (Zc (f:=21) rfl) fun x h=>Z43 _ _ (Nat.le_refl _) (Nat.le_of_lt h)
noncomputable def Fc16:Fns thy:=addL (addL (addS (addS F0 51 St16) 21 Sn16) 53 2 Aix E) 18 8 Ac16 E
theorem Z4w:FnsOk E Fc16:=Zl E_ok (Zl E_ok (Za (Za F0_ok Z4u) Z4v) _ _ _) _ _ _
abbrev qCWh:=(116:UInt8)
abbrev qCWk:=(115:UInt8)
abbrev qCWl:=(112:UInt8)
abbrev qCWb:=(114:UInt8)
abbrev qCWf:=(97:UInt8)
abbrev Zt7:=(ByteArray.mk #[qCWl,qCWf,qCWb,qCWh,qCWk])
abbrev qCWc:=(105:UInt8)
abbrev qCWd:=(110:UInt8)
abbrev qCWa:=(101:UInt8)
abbrev qCWr:=(109:UInt8)
abbrev Zt8:=(ByteArray.mk #[qCWr,qCWc,qCWd,(117:UInt8),qCWh,qCWa,qCWk])
abbrev Zt9:=(ByteArray.mk #[qCWl,qCWf,(121:UInt8)])
abbrev qCWo:=(104:UInt8)
abbrev Zua:=(ByteArray.mk #[qCWk,qCWo,qCWc,qCWl,qCWl,qCWa,qCWb])
abbrev Zlo:=(102:UInt8)
abbrev qCWy:=(ByteArray.mk #[qCWh,qCWf,qCWb,qCWc,Zlo,Zlo])
abbrev qCWs:=(119:UInt8)
abbrev Zub:=(ByteArray.mk #[qCWs,qCWo,qCWa,qCWd])
abbrev Zjm:=(103:UInt8)
abbrev qCWj:=(111:UInt8)
abbrev qCWw:=(ByteArray.mk #[qCWs,qCWj,qCWb,(107:UInt8),qCWc,qCWd,Zjm])
abbrev Zuc:=(ByteArray.mk #[qCWc,qCWk])
abbrev Zlp:=(108:UInt8)
abbrev Zud:=(ByteArray.mk #[qCWo,qCWf,Zlp,Zlo])
abbrev qCWu:=(ByteArray.mk #[(99:UInt8),Zlp,qCWf,(117:UInt8),qCWk,qCWa])
abbrev Zue:=(ByteArray.mk #[(99:UInt8),qCWj,qCWk,qCWh])
abbrev Zuf:=(ByteArray.mk #[(107:UInt8),qCWr])
abbrev Zug:=(ByteArray.mk #[qCWl,qCWa,qCWb])
abbrev Zuh:=(ByteArray.mk #[qCWr,qCWf,(120:UInt8)])
abbrev Zui:=(ByteArray.mk #[Zlo,qCWj,qCWb])
abbrev Zuj:=(ByteArray.mk #[qCWr,qCWc,qCWd])
abbrev Zuk:=(ByteArray.mk #[qCWo,qCWc,qCWb,qCWa])
abbrev Zul:=(ByteArray.mk #[qCWj,qCWs,qCWd,qCWa,qCWb])
abbrev Zum:=(ByteArray.mk #[qCWr,qCWc,qCWd,(117:UInt8),qCWh,qCWa])
abbrev Zun:=(ByteArray.mk #[(100:UInt8),qCWj,qCWs,qCWd])
abbrev qCWx:=(ByteArray.mk #[Zlo,qCWb,qCWa,qCWc,Zjm,qCWo,qCWh])
abbrev Zuo:=(ByteArray.mk #[qCWc,Zlo])
abbrev Zup:=(ByteArray.mk #[Zlp,qCWj,qCWk,qCWk])
abbrev Zuq:=(ByteArray.mk #[qCWh,(121:UInt8),qCWl,qCWa])
abbrev Zur:=(ByteArray.mk #[qCWr,qCWj,qCWd,qCWh,qCWo])
abbrev Zus:=(ByteArray.mk #[qCWr,qCWj,qCWd,qCWa,(121:UInt8)])
abbrev Zut:=(ByteArray.mk #[(99:UInt8),qCWj,(100:UInt8),qCWa])
abbrev Zuu:=(ByteArray.mk #[(98:UInt8),qCWa,Zjm,qCWc,qCWd])
abbrev Zuv:=(ByteArray.mk #[qCWl,qCWf,qCWb,qCWh])
abbrev qCWv:=(ByteArray.mk #[qCWb,qCWf,qCWc,Zlp,qCWs,qCWf,(121:UInt8)])
abbrev Zuw:=(ByteArray.mk #[qCWs,qCWj,qCWb,qCWh,qCWo])
abbrev qCWq:=(ByteArray.mk #[(99:UInt8),Zlp,qCWa,qCWf,qCWd,qCWc,qCWd,Zjm])
abbrev Zux:=(ByteArray.mk #[qCWb,qCWa,qCWl,qCWf,qCWc,qCWb])
abbrev qCWn:=(0:Nat)
abbrev Zuy:=(ByteArray.mk #[qCWc,qCWd])
abbrev qCWm:=(ByteArray.mk #[(100:UInt8),qCWa,qCWr,(117:UInt8),qCWb,qCWb,qCWf,Zjm,qCWa])
abbrev Zuz:=(ByteArray.mk #[(107:UInt8),Zjm])
abbrev Zu0:=(ByteArray.mk #[qCWs,qCWa,qCWc,Zjm,qCWo,qCWh])
abbrev Zu1:=(ByteArray.mk #[qCWf,qCWd,(100:UInt8)])
abbrev Zu2:=(ByteArray.mk #[(117:UInt8),qCWl])
abbrev Zu3:=(ByteArray.mk #[(99:UInt8),Zlp,qCWf,qCWk,qCWk])
abbrev qCW1 (a0:C16X):=([toL qCWy,toL Zui,toL qCWu,toL Zub,toL Zu1,toL Zuy,toL Zuc,toL Zt9,toL Zuj,toL Zuh,toL Zun,toL Zu2,toL Zud,toL Zuo,toL Zus,toL Zum,toL Zug,toL Zuz,toL Zuq,toL Zul,toL qCWv,toL Zua,toL Zu3,toL Zu0,toL Zuf,toL Zt8,toL qCWw,toL Zut,toL Zuw,toL Zue,toL Zur,toL Zuu,toL Zt7,toL Zuv,toL Zuk,toL qCWm,toL qCWx,toL Zux,toL Zup,toL qCWq]=C16X.W a0/\qCWn=qCWn)
abbrev qCW7 (a0:Cls):=(Ex.mk (Ex.op (Cls.pay a0)) (Ex.n (Cls.pay a0)) (Ex.d0 (Cls.pay a0)) (Ex.d1 (Cls.pay a0)) (Ex.d2 (Cls.pay a0)) (Ex.d3 (Cls.pay a0)) (Ex.l (Cls.pay a0)))
abbrev Zlq (a0:C16X):=(↑(List.length (C16X.W a0)):Int)
abbrev Zcw:=(1:Int)
abbrev Xb:=(1:Nat)
abbrev U0 (a0:C16X):=(↑(C16X.k a0):Int)
abbrev qCW5 (a0:C16X) (b0:C16X):=(qCWn=qCWn/\(qCWn=qCWn/\List.length (C16X.W a0)+Xb=List.length (C16X.W b0)/\True)/\true=C16X.d b0/\wr IntKind.i64 ((U0 a0)+Zcw)=(U0 b0)/\True)
abbrev qCW6 (a0:Tar):=(Tar.name a0=Tar.name a0/\Tar.for_ a0=Tar.for_ a0/\(Tar.clauses a0=Tar.clauses a0/\(false=true->false=true))/\True)
abbrev Zq4:=(1000000000000:Nat)
abbrev qCWp (a0:KX):=(↑(KX.k a0):Int)
abbrev qCWg (a0:C16X) (b0:C16X):=(qCWn=qCWn/\(qCWn=qCWn/\List.length (C16X.W a0)+Xb=List.length (C16X.W b0)/\True)/\false=C16X.d b0/\wr IntKind.i64 ((U0 a0)+Zcw)=(U0 b0)/\True)
abbrev qCW8 (a0:C16X) (b0:Cls) (c0:C16X):=(List.take (List.length (C16X.W a0)) (C16X.W a0)++ [Cls.name b0]=C16X.W c0/\qCWn=qCWn)
abbrev Zlr (a0:Cls):=((↑(Yb (qCW7 a0)):Int)>(24:Int))
abbrev U1:=(0:Int)
abbrev qCWz (a0:Cls):=((↑(List.length (Cls.when_ a0)):Int)>(8:Int))
abbrev Zu4 (a0:C16X):=(C16X.W a0=C16X.W a0/\qCWn=qCWn)
abbrev qCWt (a0:Tar):=(↑(List.length (Tar.clauses a0)):Int)
abbrev Zzw (a0:KX) (b0:Int):=(decide ((qCWp a0)>=U1)=true->(161:Int)=b0)
abbrev qCW9 (a0:C16X) (b0:Cls) (c0:C16X->Prop) (d0:Tar):=(C16X.d a0=false->(decide (qCWz b0)=true->∃(x_4:C16X),c0 x_4/\x_4.2+Xb<=a0.2/\true=true/\(qCW5 a0 x_4)/\(qCW6 d0)/\(qCW8 a0 b0 x_4)/\True)/\(decide (qCWz b0)=false->Ex.sz (qCW7 b0)+Xb<=Zq4/\(decide (Zlr b0)=true->∃(x_4:C16X),c0 x_4/\x_4.2+Xb<=a0.2/\true=true/\(qCW5 a0 x_4)/\(qCW6 d0)/\(qCW8 a0 b0 x_4)/\True)/\(decide (Zlr b0)=false->∃(x_4:C16X),c0 x_4/\x_4.2+Xb<=a0.2/\true=true/\(qCWg a0 x_4)/\(qCW6 d0)/\(qCW8 a0 b0 x_4)/\True)))
abbrev Zu5 (a0:C16X):=(qCWn=qCWn/\List.length (C16X.W a0)=List.length (C16X.W a0)/\True)
abbrev qCWe (a0:C16X):=(List.length (C16X.W a0)<=List.length (C16X.W a0)/\qCWn<=List.length (C16X.W a0)/\(List.length (C16X.W a0)+Xb)*(16:Nat)<=(140737488355328:Nat))
abbrev qCW2 (a0:C16X) (b0:Tar) (c0:Int) (d0:C16X->Prop):=(decide ((U0 a0)<(qCWt b0))=true->U1<=(U0 a0)/\(U0 a0)+Zcw<=(qCWt b0)/\∀(x_2:Cls),(Tar.clauses b0)[Int.toNat (U0 a0)]? =some x_2->∃(R_1:KX->Prop),(∃(x_3:KX),R_1 x_3/\true=true/\((Zu5 a0)/\Cls.name x_2=Cls.name x_2/\U1=(qCWp x_3)/\True)/\(Zu4 a0)/\True)/\∀(x_3:KX),R_1 x_3->(decide ((qCWp x_3)<(Zlq a0))=true->(U1<=(qCWp x_3)/\(qCWp x_3)+Zcw<=(Zlq a0))/\qCWn+Int.toNat (qCWp x_3)+Xb<=List.length (C16X.W a0)/\∀(x_4:List Nat),(C16X.W a0)[qCWn+Int.toNat (qCWp x_3)]? =some x_4->((x_4==Cls.name x_2)=true->(Zzw x_3 c0)/\(decide ((qCWp x_3)>=U1)=false->(qCWe a0)/\(C16X.d a0=true->∃(x_5:C16X),d0 x_5/\x_5.2+Xb<=a0.2/\true=true/\(qCW5 a0 x_5)/\(qCW6 b0)/\(qCW8 a0 x_2 x_5)/\True)/\(C16X.d a0=false->(decide (qCWz x_2)=true->∃(x_5:C16X),d0 x_5/\x_5.2+Xb<=a0.2/\true=true/\(qCW5 a0 x_5)/\(qCW6 b0)/\(qCW8 a0 x_2 x_5)/\True)/\(decide (qCWz x_2)=false->Ex.sz (qCW7 x_2)+Xb<=Zq4/\(decide (Zlr x_2)=true->∃(x_5:C16X),d0 x_5/\x_5.2+Xb<=a0.2/\true=true/\(qCW5 a0 x_5)/\(qCW6 b0)/\(qCW8 a0 x_2 x_5)/\True)/\(decide (Zlr x_2)=false->∃(x_5:C16X),d0 x_5/\x_5.2+Xb<=a0.2/\true=true/\(qCWg a0 x_5)/\(qCW6 b0)/\(qCW8 a0 x_2 x_5)/\True)))))/\((x_4==Cls.name x_2)=false->∃(x_5:KX),R_1 x_5/\x_5.2+Xb<=x_3.2/\true=true/\((Zu5 a0)/\Cls.name x_2=Cls.name x_2/\wr IntKind.i64 ((qCWp x_3)+Zcw)=(qCWp x_5)/\True)/\(Zu4 a0)/\True))/\(decide ((qCWp x_3)<(Zlq a0))=false->(qCWe a0)/\(C16X.d a0=true->∃(x_4:C16X),d0 x_4/\x_4.2+Xb<=a0.2/\true=true/\(qCW5 a0 x_4)/\(qCW6 b0)/\(qCW8 a0 x_2 x_4)/\True)/\(qCW9 a0 x_2 d0 b0)))
abbrev qCW3 (a0:C16X) (b0:Tar) (c0:Int) (d0:C16X->Prop):=(decide ((U0 a0)<(qCWt b0))=true->U1<=(U0 a0)/\(U0 a0)+Zcw<=(qCWt b0)/\∀(x_1:Cls),(Tar.clauses b0)[Int.toNat (U0 a0)]? =some x_1->∃(R_1:KX->Prop),(∃(x_2:KX),R_1 x_2/\true=true/\((Zu5 a0)/\Cls.name x_1=Cls.name x_1/\U1=(qCWp x_2)/\True)/\(Zu4 a0)/\True)/\∀(x_2:KX),R_1 x_2->(decide ((qCWp x_2)<(Zlq a0))=true->(U1<=(qCWp x_2)/\(qCWp x_2)+Zcw<=(Zlq a0))/\qCWn+Int.toNat (qCWp x_2)+Xb<=List.length (C16X.W a0)/\∀(x_3:List Nat),(C16X.W a0)[qCWn+Int.toNat (qCWp x_2)]? =some x_3->((x_3==Cls.name x_1)=true->(Zzw x_2 c0)/\(decide ((qCWp x_2)>=U1)=false->(qCWe a0)/\(C16X.d a0=true->∃(x_4:C16X),d0 x_4/\x_4.2+Xb<=a0.2/\true=true/\(qCW5 a0 x_4)/\(qCW6 b0)/\(qCW8 a0 x_1 x_4)/\True)/\(qCW9 a0 x_1 d0 b0)))/\((x_3==Cls.name x_1)=false->∃(x_4:KX),R_1 x_4/\x_4.2+Xb<=x_2.2/\true=true/\((Zu5 a0)/\Cls.name x_1=Cls.name x_1/\wr IntKind.i64 ((qCWp x_2)+Zcw)=(qCWp x_4)/\True)/\(Zu4 a0)/\True))/\(decide ((qCWp x_2)<(Zlq a0))=false->(qCWe a0)/\(C16X.d a0=true->∃(x_3:C16X),d0 x_3/\x_3.2+Xb<=a0.2/\true=true/\(qCW5 a0 x_3)/\(qCW6 b0)/\(qCW8 a0 x_1 x_3)/\True)/\(C16X.d a0=false->(decide (qCWz x_1)=true->∃(x_3:C16X),d0 x_3/\x_3.2+Xb<=a0.2/\true=true/\(qCW5 a0 x_3)/\(qCW6 b0)/\(qCW8 a0 x_1 x_3)/\True)/\(decide (qCWz x_1)=false->Ex.sz (qCW7 x_1)+Xb<=Zq4/\(decide (Zlr x_1)=true->∃(x_3:C16X),d0 x_3/\x_3.2+Xb<=a0.2/\true=true/\(qCW5 a0 x_3)/\(qCW6 b0)/\(qCW8 a0 x_1 x_3)/\True)/\(decide (Zlr x_1)=false->∃(x_3:C16X),d0 x_3/\x_3.2+Xb<=a0.2/\true=true/\(qCWg a0 x_3)/\(qCW6 b0)/\(qCW8 a0 x_1 x_3)/\True)))))
abbrev qCW4:=([toL qCWy,toL Zui,toL qCWu,toL Zub,toL Zu1,toL Zuy,toL Zuc,toL Zt9,toL Zuj,toL Zuh,toL Zun,toL Zu2,toL Zud,toL Zuo,toL Zus,toL Zum,toL Zug,toL Zuz,toL Zuq,toL Zul,toL qCWv,toL Zua,toL Zu3,toL Zu0,toL Zuf,toL Zt8,toL qCWw,toL Zut,toL Zuw,toL Zue,toL Zur,toL Zuu,toL Zt7,toL Zuv,toL Zuk,toL qCWm,toL qCWx,toL Zux,toL Zup,toL qCWq]= [toL qCWy,toL Zui,toL qCWu,toL Zub,toL Zu1,toL Zuy,toL Zuc,toL Zt9,toL Zuj,toL Zuh,toL Zun,toL Zu2,toL Zud,toL Zuo,toL Zus,toL Zum,toL Zug,toL Zuz,toL Zuq,toL Zul,toL qCWv,toL Zua,toL Zu3,toL Zu0,toL Zuf,toL Zt8,toL qCWw,toL Zut,toL Zuw,toL Zue,toL Zur,toL Zuu,toL Zt7,toL Zuv,toL Zuk,toL qCWm,toL qCWx,toL Zux,toL Zup,toL qCWq]/\qCWn=qCWn)
abbrev qCWi (a0:C16X) (b0:Tar) (c0:Int):=(decide ((U0 a0)<(qCWt b0))=false->(C16X.d a0=true->(2:Int)=c0)/\(C16X.d a0=false->U1=c0))
abbrev Zag:=(40:Nat)
abbrev Z4x (a0:C16X->Prop) (b0:Tar):=(∃(x:C16X),a0 x/\true=true/\(qCWn=qCWn/\(qCWn=qCWn/\Zag=List.length (C16X.W x)/\True)/\false=C16X.d x/\U1=(U0 x)/\True)/\(qCW6 b0)/\(qCW1 x)/\True)
abbrev Z4y (a0:C16X->Prop) (b0:Tar):=(∃(x:C16X),a0 x/\true=true/\(qCWn=qCWn/\(qCWn=qCWn/\Zag=List.length (C16X.W x)/\True)/\true=C16X.d x/\U1=(U0 x)/\True)/\(qCW6 b0)/\(qCW1 x)/\True)
theorem Zzx (t:Tar) (v:Int):Zh E Fc16 (vc E Fc16 400) 18 [tarA t] hp0 0 (fun r=>ret E (patch hp0 0 r) r.v (.int false .i64 v))=(
 ((∀(c:Cls),c∈Tar.clauses t->Ex.sz (Cls.pay c)+Xb<=(1000000000:Nat)/\List.length (Cls.when_ c)+Xb<=Zq4)/\List.length (Tar.clauses t)+Xb<=Zq4)/\((!tarF t)=true->Zcw=v)/\((!tarF t)=false->∃(R:KX->Prop),(∃(x:KX),R x/\true=true/\((qCWn=qCWn/\Zag=Zag/\Zag=Zag)/\Tar.name t=Tar.name t/\U1=(qCWp x)/\True)/\qCW4/\True)/\∀(x:KX),R x->(decide ((qCWp x)<(↑Zag:Int))=true->(U1<=(qCWp x)/\(qCWp x)+Zcw<=(↑Zag:Int))/\qCWn+Int.toNat (qCWp x)+Xb<=Zag/\∀(x_1:List Nat),[toL qCWy,toL Zui,toL qCWu,toL Zub,toL Zu1,toL Zuy,toL Zuc,toL Zt9,toL Zuj,toL Zuh,toL Zun,toL Zu2,toL Zud,toL Zuo,toL Zus,toL Zum,toL Zug,toL Zuz,toL Zuq,toL Zul,toL qCWv,toL Zua,toL Zu3,toL Zu0,toL Zuf,toL Zt8,toL qCWw,toL Zut,toL Zuw,toL Zue,toL Zur,toL Zuu,toL Zt7,toL Zuv,toL Zuk,toL qCWm,toL qCWx,toL Zux,toL Zup,toL qCWq][qCWn+Int.toNat (qCWp x)]? =some x_1->((x_1==Tar.name t)=true->(Zzw x v)/\(decide ((qCWp x)>=U1)=false->(decide ((qCWt t)>(64:Int))=true->∃(R:C16X->Prop),(Z4y R t)/\∀(x:C16X),R x->(qCW2 x t v R)/\(qCWi x t v))/\(decide ((qCWt t)>(64:Int))=false->∃(R:C16X->Prop),(Z4x R t)/\∀(x:C16X),R x->(qCW2 x t v R)/\(qCWi x t v))))/\((x_1==Tar.name t)=false->∃(x_2:KX),R x_2/\x_2.2+Xb<=x.2/\true=true/\((qCWn=qCWn/\Zag=Zag/\Zag=Zag)/\Tar.name t=Tar.name t/\wr IntKind.i64 ((qCWp x)+Zcw)=(qCWp x_2)/\True)/\qCW4/\True))/\(decide ((qCWp x)<(↑Zag:Int))=false->(decide ((qCWt t)>(64:Int))=true->∃(R:C16X->Prop),(Z4y R t)/\∀(x:C16X),R x->(qCW3 x t v R)/\(qCWi x t v))/\(decide ((qCWt t)>(64:Int))=false->∃(R:C16X->Prop),(Z4x R t)/\∀(x:C16X),R x->(qCW3 x t v R)/\(qCWi x t v))))):=by kernel_rfl
theorem Zzy: [toL (ByteArray.mk #[(116:UInt8),(97:UInt8),(114:UInt8),(105:UInt8),(102:UInt8),(102:UInt8)]),toL (ByteArray.mk #[(102:UInt8),(111:UInt8),(114:UInt8)]),toL (ByteArray.mk #[(99:UInt8),(108:UInt8),(97:UInt8),(117:UInt8),(115:UInt8),(101:UInt8)]),toL (ByteArray.mk #[(119:UInt8),(104:UInt8),(101:UInt8),(110:UInt8)]),toL (ByteArray.mk #[(97:UInt8),(110:UInt8),(100:UInt8)]),toL (ByteArray.mk #[(105:UInt8),(110:UInt8)]),toL (ByteArray.mk #[(105:UInt8),(115:UInt8)]),toL (ByteArray.mk #[(112:UInt8),(97:UInt8),(121:UInt8)]),toL (ByteArray.mk #[(109:UInt8),(105:UInt8),(110:UInt8)]),toL (ByteArray.mk #[(109:UInt8),(97:UInt8),(120:UInt8)]),toL (ByteArray.mk #[(100:UInt8),(111:UInt8),(119:UInt8),(110:UInt8)]),toL (ByteArray.mk #[(117:UInt8),(112:UInt8)]),toL (ByteArray.mk #[(104:UInt8),(97:UInt8),(108:UInt8),(102:UInt8)]),toL (ByteArray.mk #[(105:UInt8),(102:UInt8)]),toL (ByteArray.mk #[(109:UInt8),(111:UInt8),(110:UInt8),(101:UInt8),(121:UInt8)]),toL (ByteArray.mk #[(109:UInt8),(105:UInt8),(110:UInt8),(117:UInt8),(116:UInt8),(101:UInt8)]),toL (ByteArray.mk #[(112:UInt8),(101:UInt8),(114:UInt8)]),toL (ByteArray.mk #[(107:UInt8),(103:UInt8)]),toL (ByteArray.mk #[(116:UInt8),(121:UInt8),(112:UInt8),(101:UInt8)]),toL (ByteArray.mk #[(111:UInt8),(119:UInt8),(110:UInt8),(101:UInt8),(114:UInt8)]),toL (ByteArray.mk #[(114:UInt8),(97:UInt8),(105:UInt8),(108:UInt8),(119:UInt8),(97:UInt8),(121:UInt8)]),toL (ByteArray.mk #[(115:UInt8),(104:UInt8),(105:UInt8),(112:UInt8),(112:UInt8),(101:UInt8),(114:UInt8)]),toL (ByteArray.mk #[(99:UInt8),(108:UInt8),(97:UInt8),(115:UInt8),(115:UInt8)]),toL (ByteArray.mk #[(119:UInt8),(101:UInt8),(105:UInt8),(103:UInt8),(104:UInt8),(116:UInt8)]),toL (ByteArray.mk #[(107:UInt8),(109:UInt8)]),toL (ByteArray.mk #[(109:UInt8),(105:UInt8),(110:UInt8),(117:UInt8),(116:UInt8),(101:UInt8),(115:UInt8)]),toL (ByteArray.mk #[(119:UInt8),(111:UInt8),(114:UInt8),(107:UInt8),(105:UInt8),(110:UInt8),(103:UInt8)]),toL (ByteArray.mk #[(99:UInt8),(111:UInt8),(100:UInt8),(101:UInt8)]),toL (ByteArray.mk #[(119:UInt8),(111:UInt8),(114:UInt8),(116:UInt8),(104:UInt8)]),toL (ByteArray.mk #[(99:UInt8),(111:UInt8),(115:UInt8),(116:UInt8)]),toL (ByteArray.mk #[(109:UInt8),(111:UInt8),(110:UInt8),(116:UInt8),(104:UInt8)]),toL (ByteArray.mk #[(98:UInt8),(101:UInt8),(103:UInt8),(105:UInt8),(110:UInt8)]),toL (ByteArray.mk #[(112:UInt8),(97:UInt8),(114:UInt8),(116:UInt8),(115:UInt8)]),toL (ByteArray.mk #[(112:UInt8),(97:UInt8),(114:UInt8),(116:UInt8)]),toL (ByteArray.mk #[(104:UInt8),(105:UInt8),(114:UInt8),(101:UInt8)]),toL (ByteArray.mk #[(100:UInt8),(101:UInt8),(109:UInt8),(117:UInt8),(114:UInt8),(114:UInt8),(97:UInt8),(103:UInt8),(101:UInt8)]),toL (ByteArray.mk #[(102:UInt8),(114:UInt8),(101:UInt8),(105:UInt8),(103:UInt8),(104:UInt8),(116:UInt8)]),toL (ByteArray.mk #[(114:UInt8),(101:UInt8),(112:UInt8),(97:UInt8),(105:UInt8),(114:UInt8)]),toL (ByteArray.mk #[(108:UInt8),(111:UInt8),(115:UInt8),(115:UInt8)]),toL (ByteArray.mk #[(99:UInt8),(108:UInt8),(101:UInt8),(97:UInt8),(110:UInt8),(105:UInt8),(110:UInt8),(103:UInt8)])]=resW:=by decide+kernel
def go16:Bool->List (List Nat)->List Cls->Int
 |d,_,[]=>if d=true then 2 else 0
 |d,W,c::r=>if c.name∈W then 161 else go16 (d||decide (8<c.when_.length)||decide (24<Yb c.pay)) (W++ [c.name]) r
def Zjn (t:Tar):Int:=if tarF t=true then (if t.name∈resW then 161 else go16 (decide (64<t.clauses.length)) resW t.clauses) else 1
theorem Zhj:∀(l:List Cls) (b:Bool) (m:List (List Nat×Bool)),l.all Yh=true->goC true b m l=161
 | [],_,_,_=>rfl
 |c::r,b,m,h=>by
  rw [List.all_cons,Bool.and_eq_true] at h
  rw [Ui,if_pos h.1,Bool.true_or,Bool.true_or]
  exact Zhj r _ _ h.2
theorem Z3b:∀(l:List Cls) (b:Bool) (m:List (List Nat×Bool)) (W:List (List Nat)),l.all Yh=true->(∀s,s∈W↔s∈resW\/Yl m s=some true)->goC false b m l=go16 b W l
 | [],b,m,W,_,_=>by rw [goC,go16,if_neg (by decide)]
 |c::r,b,m,W,h,hW=>by
  rw [List.all_cons,Bool.and_eq_true] at h
  rw [Ui,if_pos h.1,go16]
  by_cases hc:c.name∈W
  · rw [if_pos hc]
    have:(false||resF c.name||(Yl m c.name).getD false)=true:=by
     rcases (hW _).1 hc with h1|h1
     · rw [show resF c.name=true from decide_eq_true h1];simp
     · rw [h1];simp
    rw [this]
    exact Zhj r _ _ h.2
  · rw [if_neg hc]
    have h1:¬c.name∈resW:=fun h=>hc ((hW _).2 (.inl h))
    have h2:(Yl m c.name).getD false=false:=by
     cases hl:Yl m c.name with
     |none=>rfl
     |some v=>
      cases v with
      |false=>rfl
      |true=>exact absurd ((hW _).2 (.inr hl)) hc
    rw [show resF c.name=false from decide_eq_false h1,h2]
    refine Z3b r _ _ _ h.2 fun s=> ?_
    rw [Zbv,List.mem_append,hW s,List.mem_singleton]
    by_cases e:c.name=s
    · rw [if_pos e];exact ⟨fun _=> .inr rfl,fun _=> .inr e.symm⟩
    · rw [if_neg e];exact ⟨fun h=>h.elim id fun h=>absurd h.symm e,.inl⟩
theorem Zu6:∀(l:List Cls) (a b:Bool) (m:List (List Nat×Bool)),l.all Yh=false->goC a b m l=1
 | [],_,_,_,h=>by cases h
 |c::r,a,b,m,h=>by
  rw [Ui]
  by_cases hc:Yh c=true
  · rw [List.all_cons,hc,Bool.true_and] at h
    rw [if_pos hc];exact Zu6 r _ _ _ h
  · rw [if_neg hc]
theorem Zo1 (t:Tar):Zjn t=Yq t:=by
 unfold Zjn Yq tarF
 by_cases h:Yy t.name=true/\1<=t.for_/\t.for_<=6
 · rw [if_pos h,h.1,decide_eq_true h.2,Bool.true_and,Bool.true_and]
   cases ha:t.clauses.all Yh with
   |false=>rw [if_neg (by decide),Zu6 _ _ _ _ ha]
   |true=>
    rw [if_pos rfl]
    by_cases hr:t.name∈resW
    · rw [if_pos hr,show resF t.name=true from decide_eq_true hr,Zhj _ _ _ ha]
    · rw [if_neg hr,show resF t.name=false from decide_eq_false hr]
      exact (Z3b _ _ _ _ ha fun s=>⟨.inl,fun h=>h.elim id fun h=>by cases h⟩).symm
 · rw [if_neg h,if_neg]
   intro h'
   simp only [Bool.and_eq_true,decide_eq_true_eq] at h'
   exact h ⟨h'.1.1,h'.1.2⟩
theorem Zo2 (t:Tar) (hs:Zo5 t):PureC E 18 [tarA t] (.int false .i64 (Zjn t)):=by
 refine Zb E_ok (Ze E_ok Z4w 400) ?_
 rw [Zzx];delta qCWh qCWk qCWl qCWb qCWf Zt7 qCWc qCWd qCWa qCWr Zt8 Zt9 qCWo Zua Zlo qCWy qCWs Zub Zjm qCWj qCWw Zuc Zlp Zud qCWu Zue Zuf Zug Zuh Zui Zuj Zuk Zul Zum Zun qCWx Zuo Zup Zuq Zur Zus Zut Zuu Zuv qCWv Zuw qCWq Zux qCWn Zuy qCWm Zuz Zu0 Zu1 Zu2 Zu3 qCW1 qCW7 Zlq Zcw Xb U0 qCW5 qCW6 Zq4 qCWp qCWg qCW8 Zlr U1 qCWz Zu4 qCWt Zzw qCW9 Zu5 qCWe qCW2 qCW3 qCW4 qCWi Zag Z4x Z4y
 rw [Zzy]
 simp only [Zx,Zq,Y0,Y1,Y2,beq_iff_eq,bne_iff_ne,beq_eq_false_iff_ne,bne_eq_false_iff_eq,decide_eq_true_eq,decide_eq_false_iff_not,Bool.or_eq_true,Bool.or_eq_false_iff,Bool.not_eq_true',Bool.not_eq_false',Bool.and_eq_true,Bool.and_true,Bool.true_and,Bool.and_eq_false_iff,beq_self_eq_true,Z7,Z2,ne_eq,and_true,true_and,Bool.true_eq_false,Bool.false_eq_true,false_or,or_false,true_implies,imp_self,Int.ofNat_eq_natCast,not_true_eq_false,not_false_eq_true,Decidable.not_not,List.getElem?_cons_zero,List.getElem?_cons_succ,Option.some.injEq,forall_eq',forall_eq,List.set_cons_zero,List.set_cons_succ,List.length_cons,List.length_nil,List.getD_cons_zero,List.getD_cons_succ,tn0,tn1,tn2,tn3,Int.le_refl,Nat.le_refl,Nat.reduceAdd,Int.reduceAdd,Int.reduceLE,Nat.reduceLeDiff,cn4,cn16,Ex.eta,List.take_succ_cons,List.take_zero,List.take_length,reduceCtorEq,Nat.zero_add,false_implies]
 refine ⟨⟨fun c hc=>And.intro (by have:=(hs.1 c hc).1;omega) (by have:=(hs.1 c hc).2;omega),by have:=hs.2;omega⟩,fun h=>by unfold Zjn;rw [h];rfl,fun hf=> ?_⟩
 have e1:t.name∈resW->Zjn t=161:=fun h=>by unfold Zjn;rw [if_pos hf,if_pos h]
 have e2:¬t.name∈resW->Zjn t=go16 (decide (64<t.clauses.length)) resW t.clauses:=fun h=>by unfold Zjn;rw [if_pos hf,if_neg h]
 have r40:resW.length=40:=by decide
 have bs:=hs.2
 refine ⟨fun z=>z.k+z.r=40/\∀i,i<z.k->∀y,resW[i]? =some y->y≠t.name,⟨⟨0,40⟩,⟨rfl,fun i h=>absurd h (Nat.not_lt_zero _)⟩,rfl⟩,fun z hz=>⟨fun hk=>⟨And.intro (by omega) (by omega),by omega,fun y hy=>⟨fun hyn=>⟨fun _=>(e1 (by rw [<-hyn];exact List.mem_of_getElem? hy)).symm,fun h=>absurd (by omega) h⟩,fun hyn=>⟨⟨z.k+1,z.r-1⟩,⟨by dsimp only;omega,fun i hi y' hy'=> ?_⟩,by dsimp only;omega,?_⟩⟩⟩,fun hk=> ?_⟩⟩
 · rw [Int.toNat_natCast] at hy
   rcases Nat.lt_succ_iff_lt_or_eq.1 hi with h|h
   · exact hz.2 i h y' hy'
   · rw [h,hy] at hy';cases hy';exact hyn
 · dsimp only
   exact (wr64 (by omega) (by omega)).trans (by omega)
 have hnn:¬t.name∈resW:=fun h=>by
  obtain ⟨i,hi⟩:=List.mem_iff_getElem?.1 h
  exact hz.2 i (by have:=(List.getElem?_eq_some_iff.1 hi).1;omega) _ hi rfl
 rw [e2 hnn]
 clear e1 e2 hz hk
 generalize hV:go16 (decide (64<t.clauses.length)) resW t.clauses=V
 refine And.intro (fun h64=>⟨fun z=>z.k+z.r=t.clauses.length/\z.W.length=40+z.k/\V=go16 z.d z.W (t.clauses.drop z.k),⟨⟨0,t.clauses.length,true,resW⟩,⟨Nat.zero_add _,r40,by rw [<-hV,decide_eq_true (show 64<t.clauses.length by omega)];rfl⟩,⟨r40.symm,rfl,rfl⟩,rfl⟩,fun z hz=> ?_⟩)
  (fun h64=>⟨fun z=>z.k+z.r=t.clauses.length/\z.W.length=40+z.k/\V=go16 z.d z.W (t.clauses.drop z.k),⟨⟨0,t.clauses.length,false,resW⟩,⟨Nat.zero_add _,r40,by rw [<-hV,decide_eq_false (show ¬64<t.clauses.length by omega)];rfl⟩,⟨r40.symm,rfl,rfl⟩,rfl⟩,fun z hz=> ?_⟩)
 all_goals
  obtain ⟨hz1,hz2,hz3⟩:=hz
  refine And.intro (fun hk=>⟨by omega,by omega,fun c hc=> ?_⟩) (fun hk=> ?_)
  · rw [Int.toNat_natCast] at hc
    have hcs:=hs.1 c (List.mem_of_getElem? hc)
    have hd:go16 z.d z.W (t.clauses.drop z.k)=if c.name∈z.W then 161 else go16 (z.d||decide (8<c.when_.length)||decide (24<Yb c.pay)) (z.W++ [c.name]) (t.clauses.drop (z.k+1)):=by rw [Xw hc,go16]
    refine ⟨fun y=>y.k+y.r=z.W.length/\∀i,i<y.k->∀s,z.W[i]? =some s->s≠c.name,⟨⟨0,z.W.length⟩,⟨Nat.zero_add _,fun i h=>absurd h (Nat.not_lt_zero _)⟩,rfl⟩,fun y hy=>And.intro (fun hk2=>⟨And.intro (by omega) (by omega),by omega,fun s hs'=>And.intro (fun hsn=>And.intro (fun _=> ?_) (fun h=>absurd (by omega) h)) (fun hsn=>⟨⟨y.k+1,y.r-1⟩,⟨by dsimp only;omega,fun i hi s' hs2=> ?_⟩,by dsimp only;omega,?_⟩)⟩) (fun hk2=> ?_)⟩
    · rw [hz3,hd,if_pos (by rw [<-hsn];exact List.mem_of_getElem? hs')]
    · rw [Int.toNat_natCast] at hs'
      rcases Nat.lt_succ_iff_lt_or_eq.1 hi with h|h
      · exact hy.2 i h s' hs2
      · rw [h,hs'] at hs2;cases hs2;exact hsn
    · dsimp only
      exact (wr64 (by omega) (by omega)).trans (by omega)
    have hnin:¬c.name∈z.W:=fun h=>by
     obtain ⟨i,hi⟩:=List.mem_iff_getElem?.1 h
     exact hy.2 i (by have:=(List.getElem?_eq_some_iff.1 hi).1;omega) _ hi rfl
    rw [if_neg hnin] at hd
    have step:∀b,(z.d||decide (8<c.when_.length)||decide (24<Yb c.pay))=b->∃x5:C16X,(x5.k+x5.r=t.clauses.length/\x5.W.length=40+x5.k/\V=go16 x5.d x5.W (t.clauses.drop x5.k))/\x5.r+1<=z.r/\(z.W.length+1=x5.W.length/\b=x5.d/\wr IntKind.i64 ((z.k:Int)+1)=(x5.k:Int))/\z.W++ [c.name]=x5.W:=fun b hb=>by
     refine ⟨⟨z.k+1,z.r-1,b,z.W++ [c.name]⟩,⟨by dsimp only;omega,by dsimp only;rw [List.length_append,hz2,List.length_singleton,Nat.add_assoc],by rw [hz3,hd,hb]⟩,by dsimp only;omega,⟨by rw [List.length_append,List.length_singleton],rfl,?_⟩,rfl⟩
     dsimp only
     exact (wr64 (by omega) (by omega)).trans (by omega)
    refine And.intro (And.intro (by omega) (by omega)) (And.intro (fun hdt=>step true (by rw [hdt];simp)) (fun hdf=>And.intro (fun h8=>step true (by rw [hdf,decide_eq_true (show 8<c.when_.length by omega)];simp)) (fun h8=>And.intro (by omega) (And.intro (fun h24=>step true (by rw [decide_eq_true (show 24<Yb c.pay by omega)];simp)) (fun h24=>step false (by rw [hdf,decide_eq_false (show ¬8<c.when_.length by omega),decide_eq_false (show ¬24<Yb c.pay by omega)];rfl))))))
  · rw [List.drop_of_length_le (by omega)] at hz3
    refine And.intro (fun h=> ?_) (fun h=> ?_)
    · rw [hz3,h];rfl
    · rw [hz3,h];rfl
end
end Go.Proofs.YtbepgmadijomjaaGreatDoor
