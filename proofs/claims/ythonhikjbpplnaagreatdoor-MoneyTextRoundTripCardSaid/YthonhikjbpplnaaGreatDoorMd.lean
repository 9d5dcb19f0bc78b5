/- Merged texts: MnD, MnE, MnP, MnF, MnT, MnU, TpJ0, MnV, MnW, MnX. -/
import Derived.Lib.ItoaNum
import Derived.Lib.Strings
import Derived.Lib.Walk
import Derived.Lib.ConvBytes
import Derived.Lib.Hide
import Derived.WalkKit
import Derived.BigCall
import Derived.BigGuard
import Derived.Test.YthonhikjbpplnaaGreatDoorMc
noncomputable section
namespace Go.Proofs.YthonhikjbpplnaaGreatDoor
set_option linter.unusedVariables false
set_option linter.unusedSimpArgs false
set_option linter.unnecessarySimpa false
set_option maxRecDepth 100000
section
open Go
def dU:Dc E Int:=dInt .u64
def Zje (p:Int×Int):SV thy:= .tup [.int false .u64 p.1,.int false .u64 p.2]
def len8L:List Nat:=
 toL (ByteArray.mk (List.toArray (List.append (List.append [(0:UInt8),(1:UInt8),(2:UInt8),(2:UInt8),(3:UInt8),(3:UInt8),(3:UInt8),(3:UInt8),(4:UInt8),(4:
 UInt8),(4:UInt8),(4:UInt8),(4:UInt8),(4:UInt8),(4:UInt8),(4:UInt8),(5:UInt8),(5:UInt8),(5:UInt8),(5:UInt8),(5:UInt8),(5:UInt8),(5:UInt8),(5
 :UInt8),(5:UInt8),(5:UInt8),(5:UInt8),(5:UInt8),(5:UInt8),(5:UInt8),(5:UInt8),(5:UInt8),(6:UInt8),(6:UInt8),(6:UInt8),(6:UInt8),(6:UInt8),
 (6:UInt8),(6:UInt8),(6:UInt8),(6:UInt8),(6:UInt8),(6:UInt8),(6:UInt8),(6:UInt8),(6:UInt8),(6:UInt8),(6:UInt8),(6:UInt8),(6:UInt8),(6:
 UInt8),(6:UInt8),(6:UInt8),(6:UInt8),(6:UInt8),(6:UInt8),(6:UInt8),(6:UInt8),(6:UInt8),(6:UInt8),(6:UInt8),(6:UInt8),(6:UInt8),(6:UInt8)] [(7
 :UInt8),(7:UInt8),(7:UInt8),(7:UInt8),(7:UInt8),(7:UInt8),(7:UInt8),(7:UInt8),(7:UInt8),(7:UInt8),(7:UInt8),(7:UInt8),(7:UInt8),(7:UInt8),
 (7:UInt8),(7:UInt8),(7:UInt8),(7:UInt8),(7:UInt8),(7:UInt8),(7:UInt8),(7:UInt8),(7:UInt8),(7:UInt8),(7:UInt8),(7:UInt8),(7:UInt8),(7:
 UInt8),(7:UInt8),(7:UInt8),(7:UInt8),(7:UInt8),(7:UInt8),(7:UInt8),(7:UInt8),(7:UInt8),(7:UInt8),(7:UInt8),(7:UInt8),(7:UInt8),(7:UInt8),(7
 :UInt8),(7:UInt8),(7:UInt8),(7:UInt8),(7:UInt8),(7:UInt8),(7:UInt8),(7:UInt8),(7:UInt8),(7:UInt8),(7:UInt8),(7:UInt8),(7:UInt8),(7:UInt8),
 (7:UInt8),(7:UInt8),(7:UInt8),(7:UInt8),(7:UInt8),(7:UInt8),(7:UInt8),(7:UInt8),(7:UInt8)]) (List.append [(8:UInt8),(8:UInt8),(8:UInt8),(8:
 UInt8),(8:UInt8),(8:UInt8),(8:UInt8),(8:UInt8),(8:UInt8),(8:UInt8),(8:UInt8),(8:UInt8),(8:UInt8),(8:UInt8),(8:UInt8),(8:UInt8),(8:UInt8),(8
 :UInt8),(8:UInt8),(8:UInt8),(8:UInt8),(8:UInt8),(8:UInt8),(8:UInt8),(8:UInt8),(8:UInt8),(8:UInt8),(8:UInt8),(8:UInt8),(8:UInt8),(8:UInt8),
 (8:UInt8),(8:UInt8),(8:UInt8),(8:UInt8),(8:UInt8),(8:UInt8),(8:UInt8),(8:UInt8),(8:UInt8),(8:UInt8),(8:UInt8),(8:UInt8),(8:UInt8),(8:
 UInt8),(8:UInt8),(8:UInt8),(8:UInt8),(8:UInt8),(8:UInt8),(8:UInt8),(8:UInt8),(8:UInt8),(8:UInt8),(8:UInt8),(8:UInt8),(8:UInt8),(8:UInt8),(8
 :UInt8),(8:UInt8),(8:UInt8),(8:UInt8),(8:UInt8),(8:UInt8)] [(8:UInt8),(8:UInt8),(8:UInt8),(8:UInt8),(8:UInt8),(8:UInt8),(8:UInt8),(8:UInt8),
 (8:UInt8),(8:UInt8),(8:UInt8),(8:UInt8),(8:UInt8),(8:UInt8),(8:UInt8),(8:UInt8),(8:UInt8),(8:UInt8),(8:UInt8),(8:UInt8),(8:UInt8),(8:
 UInt8),(8:UInt8),(8:UInt8),(8:UInt8),(8:UInt8),(8:UInt8),(8:UInt8),(8:UInt8),(8:UInt8),(8:UInt8),(8:UInt8),(8:UInt8),(8:UInt8),(8:UInt8),(8
 :UInt8),(8:UInt8),(8:UInt8),(8:UInt8),(8:UInt8),(8:UInt8),(8:UInt8),(8:UInt8),(8:UInt8),(8:UInt8),(8:UInt8),(8:UInt8),(8:UInt8),(8:UInt8),
 (8:UInt8),(8:UInt8),(8:UInt8),(8:UInt8),(8:UInt8),(8:UInt8),(8:UInt8),(8:UInt8),(8:UInt8),(8:UInt8),(8:UInt8),(8:UInt8),(8:UInt8),(8:
 UInt8),(8:UInt8)]))))
abbrev qBJ8:=(IntKind.bits IntKind.u64)
abbrev qBJ1:=((2:Int)^min (Int.toNat (32:Int)) qBJ8)
abbrev qBJ2:=((2:Int)^min (Int.toNat (16:Int)) qBJ8)
abbrev qBJ3:=((2:Int)^min (Int.toNat (8:Int)) qBJ8)
abbrev qBJ4:=(↑(List.length len8L):Int)
abbrev qBJ6 (a0:Int):=(Int.fdiv a0 qBJ1)
abbrev qBJ5 (a0:Int):=(Int.fdiv (qBJ6 a0) qBJ2)
abbrev qBJ7:=(256:Int)
theorem Zn9 (x:Int) (q:Int):Yl E F6 (vc E F6 400) 66 [.int false .u64 x] hp0 0 (fun r=>ret E (patch hp0 0 r) r.v (.int false .i64 q))=(
 (decide (x>=(4294967296:Int))=true->(decide (Int.fdiv x qBJ1>=(65536:Int))=true->(decide (Int.fdiv (qBJ6 x) qBJ2>=qBJ7)=true->(0:Int)<=wr IntKind.u8 (Int.fdiv (qBJ5 x) qBJ3)/\wr IntKind.u8 (Int.fdiv (qBJ5 x) qBJ3)+(1:Int)<=qBJ4/\∀(x_1:Nat),len8L[Int.toNat (wr IntKind.u8 (Int.fdiv (qBJ5 x) qBJ3))]? =some x_1->wr IntKind.i64 ((56:Int)+wr IntKind.i64 (↑x_1:Int))=q)/\(decide (Int.fdiv (qBJ6 x) qBJ2>=qBJ7)=false->(0:Int)<=wr IntKind.u8 (qBJ5 x)/\wr IntKind.u8 (qBJ5 x)+(1:Int)<=qBJ4/\∀(x_1:Nat),len8L[Int.toNat (wr IntKind.u8 (qBJ5 x))]? =some x_1->wr IntKind.i64 ((48:Int)+wr IntKind.i64 (↑x_1:Int))=q))/\(decide (Int.fdiv x qBJ1>=(65536:Int))=false->(decide (Int.fdiv x qBJ1>=qBJ7)=true->(0:Int)<=wr IntKind.u8 (Int.fdiv (qBJ6 x) qBJ3)/\wr IntKind.u8 (Int.fdiv (qBJ6 x) qBJ3)+(1:Int)<=qBJ4/\∀(x_1:Nat),len8L[Int.toNat (wr IntKind.u8 (Int.fdiv (qBJ6 x) qBJ3))]? =some x_1->wr IntKind.i64 ((40:Int)+wr IntKind.i64 (↑x_1:Int))=q)/\(decide (Int.fdiv x qBJ1>=qBJ7)=false->(0:Int)<=wr IntKind.u8 (qBJ6 x)/\wr IntKind.u8 (qBJ6 x)+(1:Int)<=qBJ4/\∀(x_1:Nat),len8L[Int.toNat (wr IntKind.u8 (qBJ6 x))]? =some x_1->wr IntKind.i64 ((32:Int)+wr IntKind.i64 (↑x_1:Int))=q)))/\(decide (x>=(4294967296:Int))=false->(decide (x>=(65536:Int))=true->(decide (Int.fdiv x qBJ2>=qBJ7)=true->(0:Int)<=wr IntKind.u8 (Int.fdiv (Int.fdiv x qBJ2) qBJ3)/\wr IntKind.u8 (Int.fdiv (Int.fdiv x qBJ2) qBJ3)+(1:Int)<=qBJ4/\∀(x_1:Nat),len8L[Int.toNat (wr IntKind.u8 (Int.fdiv (Int.fdiv x qBJ2) qBJ3))]? =some x_1->wr IntKind.i64 ((24:Int)+wr IntKind.i64 (↑x_1:Int))=q)/\(decide (Int.fdiv x qBJ2>=qBJ7)=false->(0:Int)<=wr IntKind.u8 (Int.fdiv x qBJ2)/\wr IntKind.u8 (Int.fdiv x qBJ2)+(1:Int)<=qBJ4/\∀(x_1:Nat),len8L[Int.toNat (wr IntKind.u8 (Int.fdiv x qBJ2))]? =some x_1->wr IntKind.i64 ((16:Int)+wr IntKind.i64 (↑x_1:Int))=q))/\(decide (x>=(65536:Int))=false->(decide (x>=qBJ7)=true->(0:Int)<=wr IntKind.u8 (Int.fdiv x qBJ3)/\wr IntKind.u8 (Int.fdiv x qBJ3)+(1:Int)<=qBJ4/\∀(x_1:Nat),len8L[Int.toNat (wr IntKind.u8 (Int.fdiv x qBJ3))]? =some x_1->wr IntKind.i64 ((8:Int)+wr IntKind.i64 (↑x_1:Int))=q)/\(decide (x>=qBJ7)=false->(0:Int)<=wr IntKind.u8 x/\wr IntKind.u8 x+(1:Int)<=qBJ4/\∀(x_1:Nat),len8L[Int.toNat (wr IntKind.u8 x)]? =some x_1->wr IntKind.i64 ((0:Int)+wr IntKind.i64 (↑x_1:Int))=q)))):=by kernel_rfl
theorem Zjf (x y:Int) (p:Int×Int):Yl E F6 (vc E F6 400) 27 [.int false .u64 x,.int false .u64 y] hp0 0 (fun r=>ret E (patch hp0 0 r) r.v (Zje p))=(
wr IntKind.u64 (wr IntKind.u64 (wr IntKind.u64 (Int.fdiv x ((2:Int)^min (Int.toNat (32:Int)) (IntKind.bits IntKind.u64))*Int.fdiv y ((2:Int)^min (Int.toNat (32:Int)) (IntKind.bits IntKind.u64)))+Int.fdiv (wr IntKind.u64 (wr IntKind.u64 (Int.fdiv x ((2:Int)^min (Int.toNat (32:Int)) (IntKind.bits IntKind.u64))*Zc BinOp.and IntKind.u64 y (4294967295:Int))+Int.fdiv (wr IntKind.u64 (Zc BinOp.and IntKind.u64 x (4294967295:Int)*Zc BinOp.and IntKind.u64 y (4294967295:Int))) ((2:Int)^min (Int.toNat (32:Int)) (IntKind.bits IntKind.u64)))) ((2:Int)^min (Int.toNat (32:Int)) (IntKind.bits IntKind.u64)))+Int.fdiv (wr IntKind.u64 (Zc BinOp.and IntKind.u64 (wr IntKind.u64 (wr IntKind.u64 (Int.fdiv x ((2:Int)^min (Int.toNat (32:Int)) (IntKind.bits IntKind.u64))*Zc BinOp.and IntKind.u64 y (4294967295:Int))+Int.fdiv (wr IntKind.u64 (Zc BinOp.and IntKind.u64 x (4294967295:Int)*Zc BinOp.and IntKind.u64 y (4294967295:Int))) ((2:Int)^min (Int.toNat (32:Int)) (IntKind.bits IntKind.u64)))) (4294967295:Int)+wr IntKind.u64 (Zc BinOp.and IntKind.u64 x (4294967295:Int)*Int.fdiv y ((2:Int)^min (Int.toNat (32:Int)) (IntKind.bits IntKind.u64))))) ((2:Int)^min (Int.toNat (32:Int)) (IntKind.bits IntKind.u64)))=Prod.fst p/\wr IntKind.u64 (x*y)=Prod.snd p/\True):=by kernel_rfl
theorem Zq3 (x:Int):Int.fdiv x ((2:Int)^min (Int.toNat (32:Int)) (IntKind.bits IntKind.u64))=x/4294967296:=Int.fdiv_eq_ediv_of_nonneg _ (by decide)
theorem Zte (x:Int):Int.fdiv x ((2:Int)^min (Int.toNat (16:Int)) (IntKind.bits IntKind.u64))=x/65536:=Int.fdiv_eq_ediv_of_nonneg _ (by decide)
theorem shr8 (x:Int):Int.fdiv x ((2:Int)^min (Int.toNat (8:Int)) (IntKind.bits IntKind.u64))=x/256:=Int.fdiv_eq_ediv_of_nonneg _ (by decide)
theorem wu8 (n:Int) (h:0<=n) (h2:n<256):wr .u8 n=n:=by
 show IntKind.wrap .u8 n=n
 simp [IntKind.wrap,IntKind.bits,IntKind.signed];omega
def blen (n:Nat):Nat:=if n=0 then 0 else n.log2+1
set_option maxRecDepth 100000 in
theorem Zoa:∀k,k<256->len8L[k]? =some (blen k):=by decide+kernel
theorem Zob:len8L.length=256:=by decide+kernel
theorem Zjg {n k:Nat} (c:Nat) (h:n/2^c=k) (hk:k≠0):blen n=c+blen k:=by
 have hp:0<2^c:=Nat.two_pow_pos c
 have hn:n≠0:=by rintro rfl;simp at h;exact hk h.symm
 unfold blen
 rw [if_neg hn,if_neg hk]
 have:n.log2=k.log2+c:=by
  rw [Nat.log2_eq_iff hn]
  have h1:=Nat.log2_self_le hk
  have h2:k<2^(k.log2+1):=(Nat.log2_lt hk).1 (Nat.lt_succ_self _)
  refine ⟨?_,?_⟩
  · rw [Nat.pow_add]
    rw [<-h] at h1⊢
    exact (Nat.le_div_iff_mul_le hp).1 h1
  · rw [show k.log2+c+1=k.log2+1+c by omega,Nat.pow_add]
    rw [<-h] at h2⊢
    exact (Nat.div_lt_iff_lt_mul hp).1 h2
 omega
theorem Zlu {n b:Nat} (h:n<2^b):blen n<=b:=by
 unfold blen
 split
 · omega
 · rename_i hn
   have:=(Nat.log2_lt hn).2 h
   omega
theorem Zoc {k y:Nat} (hk:k<256) (h:len8L[k]? =some y):y=blen k:=by
 rw [Zoa k hk] at h;exact (Option.some.inj h).symm
theorem Zod {n k y c:Nat} (hc:n/2^c=k) (hk:k<256) (hk0:k≠0\/c=0) (hy:len8L[k]? =some y) (hcb:c<=56):wr .i64 ((c:Int)+wr .i64 (y:Int))=blen n:=by
 have hy:=Zoc hk hy
 subst hy
 have hb:blen k<=8:=Zlu hk
 rw [wr64 (n:=(blen k:Int)) (by omega) (by omega),wr64 (by omega) (by omega)]
 rcases hk0 with h|rfl
 · rw [Zjg c hc h];simp
 · rw [Nat.pow_zero,Nat.div_one] at hc;rw [hc];simp
theorem Zoe (n:Nat) (h:n<18446744073709551616):PureC E 66 [.int false .u64 (n:Int)] (.int false .i64 (blen n)):=by
 refine Ze E_ok (Zn E_ok Zrr 400) ?_
 rw [Zn9];delta qBJ8 qBJ1 qBJ2 qBJ3 qBJ4 qBJ6 qBJ5 qBJ7
 simp only [Zq3,Zte,shr8,Zob,decide_eq_true_eq,decide_eq_false_iff_not]
 have leaf:∀(c k:Nat) (K:Int),K=(k:Int)->n/2^c=k->k<256->(k≠0\/c=0)->c<=56->∀C:Int,C=(c:Int)->(0:Int)<=wr .u8 K/\wr .u8 K+1<=((256:Nat):Int)/\∀y:Nat,len8L[Int.toNat (wr .u8 K)]? =some y->wr .i64 (C+wr .i64 (y:Int))=(blen n:Int):=by
  intro c k K hK hc hk hk0 hcb C hC
  subst hK hC
  rw [wu8 _ (by omega) (by omega)]
  exact ⟨by omega,by omega,fun y hy=>Zod hc hk hk0 hy hcb⟩
 refine ⟨fun h1=>⟨fun h2=>⟨fun h3=> ?_,fun h3=> ?_⟩,fun h2=>⟨fun h3=> ?_,fun h3=> ?_⟩⟩,fun h1=>⟨fun h2=>⟨fun h3=> ?_,fun h3=> ?_⟩,fun h2=>⟨fun h3=> ?_,fun h3=> ?_⟩⟩⟩
 · exact leaf 56 (n/2^56) _ (by omega) rfl (by omega) (.inl (by omega)) (by omega) _ rfl
 · exact leaf 48 (n/2^48) _ (by omega) rfl (by omega) (.inl (by omega)) (by omega) _ rfl
 · exact leaf 40 (n/2^40) _ (by omega) rfl (by omega) (.inl (by omega)) (by omega) _ rfl
 · exact leaf 32 (n/2^32) _ (by omega) rfl (by omega) (.inl (by omega)) (by omega) _ rfl
 · exact leaf 24 (n/2^24) _ (by omega) rfl (by omega) (.inl (by omega)) (by omega) _ rfl
 · exact leaf 16 (n/2^16) _ (by omega) rfl (by omega) (.inl (by omega)) (by omega) _ rfl
 · exact leaf 8 (n/2^8) _ (by omega) rfl (by omega) (.inl (by omega)) (by omega) _ rfl
 · exact leaf 0 n _ (by omega) (by simp) (by omega) (.inr rfl) (by omega) _ rfl
theorem Zlv (a:Nat) (ha:a<18446744073709551616):Zc .and .u64 (a:Int) (4294967295:Int)=((a%4294967296:Nat):Int):=Zsg a ha
theorem wrN (n:Nat) (h:n<18446744073709551616):wr .u64 (n:Int)=n:=by rw [wu64];omega
theorem Zbb {a b:Nat} (ha:a<4294967296) (hb:b<4294967296):a*b<=18446744065119617025:=by
 have:=Nat.mul_le_mul (Nat.le_of_lt_succ (show a<4294967295+1 by omega)) (Nat.le_of_lt_succ (show b<4294967295+1 by omega))
 omega
theorem Zjh (x y:Nat) (hx:x<18446744073709551616) (hy:y<18446744073709551616):PureC E 27 [.int false .u64 (x:Int),.int false .u64 (y:Int)] (Zje (((x*y/18446744073709551616:Nat):Int),((x*y%18446744073709551616:Nat):Int))):=by
 refine Ze E_ok (Zn E_ok Zrr 400) ?_
 rw [Zjf]
 simp only [Zq3,Zlv x hx,Zlv y hy,show (x:Int)/4294967296=((x/4294967296:Nat):Int) by omega,show (y:Int)/4294967296=((y/4294967296:Nat):Int) by omega,<-Int.natCast_mul]
 have hm:=Zlk x y
 have b11:=Zbb (a:=x/4294967296) (b:=y/4294967296) (by omega) (by omega)
 have b10:=Zbb (a:=x/4294967296) (b:=y%4294967296) (by omega) (by omega)
 have b01:=Zbb (a:=x%4294967296) (b:=y/4294967296) (by omega) (by omega)
 have b00:=Zbb (a:=x%4294967296) (b:=y%4294967296) (by omega) (by omega)
 generalize x/4294967296*(y/4294967296)=p11 at*
 generalize x/4294967296*(y%4294967296)=p10 at*
 generalize x%4294967296*(y/4294967296)=p01 at*
 generalize x%4294967296*(y%4294967296)=p00 at*
 rw [hm]
 have e1:wr .u64 (p10:Int)=(p10:Int):=wrN _ (by omega)
 have e2:wr .u64 (p00:Int)=(p00:Int):=wrN _ (by omega)
 have e3:wr .u64 (p01:Int)=(p01:Int):=wrN _ (by omega)
 have e4:wr .u64 (p11:Int)=(p11:Int):=wrN _ (by omega)
 simp only [e1,e2,e3,e4]
 have e5:wr .u64 ((p10:Int)+(p00:Int)/4294967296)=((p10+p00/4294967296:Nat):Int):=by rw [wu64];omega
 simp only [e5]
 rw [Zlv _ (by omega)]
 refine ⟨?_,?_,trivial⟩
 · simp only [wu64];omega
 · simp only [wu64];omega
def Slen:Sum thy:=Wa (dL1 dU) (fun x=>0<=x.1/\x.1<18446744073709551616) (fun x=>blen x.1.toNat) fun y=> .int false .i64 (y:Nat)
def Smul:Sum thy:=Wa (dL2 dU dU) (fun x=>(0<=x.1/\x.1<18446744073709551616)/\0<=x.2.1/\x.2.1<18446744073709551616) (fun x=>(((x.1.toNat*x.2.1.toNat/18446744073709551616:Nat):Int),((x.1.toNat*x.2.1.toNat%18446744073709551616:Nat):Int))) Zje
structure QX where
 q:Int
 r:Int
 n:Nat
def Ad1:Fr thy->Hp thy->Nat->Ann thy:=fun T h i=>{X:=QX,fr:=fun x=> [(2,T 2),(8,T 8),(9,T 9),(10,T 10),(11,T 11),(13,T 13),(14,T 14),(15,.int false .u64 x.q),(16,.int false .u64 x.r)],bl:=fun x=> [],src:=fun _=> [],md:= [],ih:=i,M:=i+40,meas:=fun x=>x.n}
def Ad2:Fr thy->Hp thy->Nat->Ann thy:=fun T h i=>{X:=QX,fr:=fun x=> [(2,T 2),(8,T 8),(9,T 9),(10,T 10),(14,T 14),(15,T 15),(17,T 17),(18,.int false .u64 x.q),(16,.int false .u64 x.r)],bl:=fun x=> [],src:=fun _=> [],md:= [],ih:=i,M:=i+40,meas:=fun x=>x.n}
def F7:Fns thy:=addL (addL (addS (addS F6 66 Slen) 27 Smul) 28 17 Ad1 E) 28 24 Ad2 E
theorem Zsm:FnsOk E F7:=by
 refine Zgp E_ok (Zgp E_ok (Zu (Zu Zrr ?_) ?_) _ _ _) _ _ _
 · exact Zy E_ok (Zr (f:=66) rfl) fun x h=>by
    obtain ⟨n,_⟩:=x
    obtain ⟨h1,h2⟩:=h
    obtain ⟨n,rfl⟩:=Int.eq_ofNat_of_zero_le h1
    exact Zoe n (by omega)
 · exact Zy E_ok (Zr (f:=27) rfl) fun x h=>by
    obtain ⟨n,m,_⟩:=x
    obtain ⟨⟨h1,h2⟩,h3,h4⟩:=h
    obtain ⟨n,rfl⟩:=Int.eq_ofNat_of_zero_le h1
    obtain ⟨m,rfl⟩:=Int.eq_ofNat_of_zero_le h3
    exact Zjh n m (by omega) (by dsimp only at h4;omega)
abbrev qBJd (a0:Nat):=(wr IntKind.i64 ((64:Int)-(↑a0:Int)))
abbrev qBJp:=(IntKind.bits IntKind.u64)
abbrev qBJ9 (a0:Int) (b0:Nat):=(a0*(2:Int)^min (Int.toNat (wr IntKind.u64 (qBJd b0))) qBJp)
abbrev qBJj:=(4294967296:Int)
abbrev qBJe (a0:Int) (b0:Nat):=(Int.fdiv a0 ((2:Int)^min (Int.toNat (wr IntKind.u64 ((64:Int)-wr IntKind.u64 (qBJd b0)))) qBJp))
abbrev qBJc (a0:Int) (b0:Nat):=(wr IntKind.u64 (qBJ9 a0 b0))
abbrev qBJb:=((2:Int)^min (Int.toNat (32:Int)) qBJp)
abbrev qBJa (a0:Int) (b0:Nat) (c0:Int):=(wr IntKind.u64 (Zc BinOp.or IntKind.u64 (qBJc a0 b0) (qBJe c0 b0)*qBJj)+Int.fdiv (qBJc c0 b0) qBJb)
abbrev qBJm (a0:QX):=(QX.q a0-(1:Int))
abbrev qBJf (a0:Int) (b0:Nat) (c0:Int) (d0:QX) (e0:Int):=(wr IntKind.u64 (qBJa a0 b0 c0)-wr IntKind.u64 (wr IntKind.u64 (qBJm d0)*wr IntKind.u64 (qBJ9 e0 b0)))
abbrev qBJi:=(4294967295:Int)
abbrev qBJg (a0:QX) (b0:Int) (c0:Nat) (d0:Int):=(wr IntKind.u64 (QX.q a0*Zc BinOp.and IntKind.u64 (qBJc b0 c0) qBJi)>wr IntKind.u64 (wr IntKind.u64 (qBJj*QX.r a0)+Zc BinOp.and IntKind.u64 (qBJc d0 c0) qBJi))
abbrev qBJh (a0:Int) (b0:Nat) (c0:Int) (d0:QX) (e0:Int):=(wr IntKind.u64 (qBJa a0 b0 c0)-wr IntKind.u64 (QX.q d0*wr IntKind.u64 (qBJ9 e0 b0)))
abbrev qBJk (a0:Nat):=((2:Int)^min (Int.toNat (wr IntKind.u64 (qBJd a0))) qBJp)
abbrev qBJl (a0:QX) (b0:Int) (c0:Nat):=(wr IntKind.u64 (QX.r a0+Int.fdiv (qBJc b0 c0) qBJb)>=qBJj)
abbrev qBJn:=(0:Int)
abbrev qBJo (a0:QX) (b0:Int) (c0:Nat) (d0:Int):=(wr IntKind.u64 (QX.q a0*Zc BinOp.and IntKind.u64 (qBJc b0 c0) qBJi)>wr IntKind.u64 (wr IntKind.u64 (qBJj*QX.r a0)+Int.fdiv (qBJc d0 c0) qBJb))
abbrev qBJq (a0:QX) (b0:Bool->Prop) (c0:Int) (d0:Nat) (e0:Int):=((decide (QX.q a0>=qBJj)=true->b0 true)/\(decide (QX.q a0>=qBJj)=false->(decide (qBJg a0 c0 d0 e0)=true->b0 true)/\(decide (qBJg a0 c0 d0 e0)=false->b0 false)))
abbrev qBJr (a0:Int) (b0:Nat):=(Int.fdiv (qBJc a0 b0) qBJb)
theorem Zji (hi lo y:Int) (p:Int×Int):Yl E F7 (vc E F7 400) 28 [.int false .u64 hi,.int false .u64 lo,.int false .u64 y] hp0 0 (fun r=>ret E (patch hp0 0 r) r.v (Zje p))=(
 ((y==qBJn)=true->False)/\((y==qBJn)=false->(decide (y<=hi)=true->False)/\(decide (y<=hi)=false->((hi==qBJn)=true->(y=qBJn->False)/\(y=qBJn->False)/\wr IntKind.u64 (Int.tdiv lo y)=Prod.fst p/\Int.tmod lo y=Prod.snd p/\True)/\((hi==qBJn)=false->(qBJn<=y/\y+(1:Int)<=(18446744073709551616:Int))/\∀(y_1:Nat),y_1=blen (Int.toNat y)->qBJn<=wr IntKind.u64 (qBJd y_1)/\qBJn<=wr IntKind.u64 (qBJd y_1)/\qBJn<=wr IntKind.u64 ((64:Int)-wr IntKind.u64 (qBJd y_1))/\qBJn<=wr IntKind.u64 (qBJd y_1)/\(Int.fdiv (qBJc y y_1) qBJb=qBJn->False)/\∃(R:QX->Prop),(∃(x:QX),R x/\true=true/\(wr IntKind.u64 (qBJ9 y y_1)=wr IntKind.u64 (qBJ9 y y_1)/\wr IntKind.u64 (qBJd y_1)=wr IntKind.u64 (qBJd y_1)/\Int.fdiv (qBJc y y_1) qBJb=Int.fdiv (qBJc y y_1) qBJb/\Zc BinOp.and IntKind.u64 (qBJc y y_1) qBJi=Zc BinOp.and IntKind.u64 (qBJc y y_1) qBJi/\Zc BinOp.or IntKind.u64 (qBJc hi y_1) (qBJe lo y_1)=Zc BinOp.or IntKind.u64 (qBJc hi y_1) (qBJe lo y_1)/\Int.fdiv (qBJc lo y_1) qBJb=Int.fdiv (qBJc lo y_1) qBJb/\Zc BinOp.and IntKind.u64 (qBJc lo y_1) qBJi=Zc BinOp.and IntKind.u64 (qBJc lo y_1) qBJi/\wr IntKind.u64 (Int.tdiv (Zc BinOp.or IntKind.u64 (qBJc hi y_1) (qBJe lo y_1)) (qBJr y y_1))=QX.q x/\wr IntKind.u64 (Zc BinOp.or IntKind.u64 (qBJc hi y_1) (qBJe lo y_1)-wr IntKind.u64 (wr IntKind.u64 (Int.tdiv (Zc BinOp.or IntKind.u64 (qBJc hi y_1) (qBJe lo y_1)) (qBJr y y_1))*Int.fdiv (qBJc y y_1) qBJb))=QX.r x/\True)/\True)/\∀(x:QX),R x->∃(Q:Bool->Prop),((decide (QX.q x>=qBJj)=true->Q true)/\(decide (QX.q x>=qBJj)=false->(decide (qBJo x y y_1 lo)=true->Q true)/\(decide (qBJo x y y_1 lo)=false->Q false)))/\(Q true->(decide (qBJl x y y_1)=true->(Int.fdiv (qBJc y y_1) qBJb=qBJn->False)/\∃(R:QX->Prop),(∃(x_1:QX),R x_1/\true=true/\(wr IntKind.u64 (qBJ9 y y_1)=wr IntKind.u64 (qBJ9 y y_1)/\wr IntKind.u64 (qBJd y_1)=wr IntKind.u64 (qBJd y_1)/\Int.fdiv (qBJc y y_1) qBJb=Int.fdiv (qBJc y y_1) qBJb/\Zc BinOp.and IntKind.u64 (qBJc y y_1) qBJi=Zc BinOp.and IntKind.u64 (qBJc y y_1) qBJi/\Zc BinOp.and IntKind.u64 (qBJc lo y_1) qBJi=Zc BinOp.and IntKind.u64 (qBJc lo y_1) qBJi/\wr IntKind.u64 (qBJm x)=wr IntKind.u64 (qBJm x)/\wr IntKind.u64 (qBJf hi y_1 lo x y)=wr IntKind.u64 (qBJf hi y_1 lo x y)/\wr IntKind.u64 (Int.tdiv (wr IntKind.u64 (qBJf hi y_1 lo x y)) (qBJr y y_1))=QX.q x_1/\wr IntKind.u64 (wr IntKind.u64 (qBJf hi y_1 lo x y)-wr IntKind.u64 (wr IntKind.u64 (Int.tdiv (wr IntKind.u64 (qBJf hi y_1 lo x y)) (qBJr y y_1))*Int.fdiv (qBJc y y_1) qBJb))=QX.r x_1/\True)/\True)/\∀(x_1:QX),R x_1->∃(Q:Bool->Prop),(qBJq x_1 Q y y_1 lo)/\(Q true->(decide (qBJl x_1 y y_1)=true->qBJn<=wr IntKind.u64 (qBJd y_1)/\wr IntKind.u64 (wr IntKind.u64 (wr IntKind.u64 (qBJm x)*qBJj)+wr IntKind.u64 (qBJm x_1))=Prod.fst p/\Int.fdiv (wr IntKind.u64 (wr IntKind.u64 (wr IntKind.u64 (wr IntKind.u64 (qBJf hi y_1 lo x y)*qBJj)+Zc BinOp.and IntKind.u64 (qBJc lo y_1) qBJi)-wr IntKind.u64 (wr IntKind.u64 (qBJm x_1)*wr IntKind.u64 (qBJ9 y y_1)))) (qBJk y_1)=Prod.snd p/\True)/\(decide (qBJl x_1 y y_1)=false->∃(x':QX),R x'/\x'.3+(1:Nat)<=x_1.3/\true=true/\(wr IntKind.u64 (qBJ9 y y_1)=wr IntKind.u64 (qBJ9 y y_1)/\wr IntKind.u64 (qBJd y_1)=wr IntKind.u64 (qBJd y_1)/\Int.fdiv (qBJc y y_1) qBJb=Int.fdiv (qBJc y y_1) qBJb/\Zc BinOp.and IntKind.u64 (qBJc y y_1) qBJi=Zc BinOp.and IntKind.u64 (qBJc y y_1) qBJi/\Zc BinOp.and IntKind.u64 (qBJc lo y_1) qBJi=Zc BinOp.and IntKind.u64 (qBJc lo y_1) qBJi/\wr IntKind.u64 (qBJm x)=wr IntKind.u64 (qBJm x)/\wr IntKind.u64 (qBJf hi y_1 lo x y)=wr IntKind.u64 (qBJf hi y_1 lo x y)/\wr IntKind.u64 (qBJm x_1)=QX.q x'/\wr IntKind.u64 (QX.r x_1+Int.fdiv (qBJc y y_1) qBJb)=QX.r x'/\True)/\True))/\(Q false->qBJn<=wr IntKind.u64 (qBJd y_1)/\wr
IntKind.u64 (wr IntKind.u64 (wr IntKind.u64 (qBJm x)*qBJj)+QX.q x_1)=Prod.fst p/\Int.fdiv (wr IntKind.u64 (wr IntKind.u64 (wr IntKind.u64 (wr IntKind.u64 (qBJf hi y_1 lo x y)*qBJj)+Zc BinOp.and IntKind.u64 (qBJc lo y_1) qBJi)-wr IntKind.u64 (QX.q x_1*wr IntKind.u64 (qBJ9 y y_1)))) (qBJk y_1)=Prod.snd p/\True))/\(decide (qBJl x y y_1)=false->∃(x':QX),R x'/\x'.3+(1:Nat)<=x.3/\true=true/\(wr IntKind.u64 (qBJ9 y y_1)=wr IntKind.u64 (qBJ9 y y_1)/\wr IntKind.u64 (qBJd y_1)=wr IntKind.u64 (qBJd y_1)/\Int.fdiv (qBJc y y_1) qBJb=Int.fdiv (qBJc y y_1) qBJb/\Zc BinOp.and IntKind.u64 (qBJc y y_1) qBJi=Zc BinOp.and IntKind.u64 (qBJc y y_1) qBJi/\Zc BinOp.or IntKind.u64 (qBJc hi y_1) (qBJe lo y_1)=Zc BinOp.or IntKind.u64 (qBJc hi y_1) (qBJe lo y_1)/\Int.fdiv (qBJc lo y_1) qBJb=Int.fdiv (qBJc lo y_1) qBJb/\Zc BinOp.and IntKind.u64 (qBJc lo y_1) qBJi=Zc BinOp.and IntKind.u64 (qBJc lo y_1) qBJi/\wr IntKind.u64 (qBJm x)=QX.q x'/\wr IntKind.u64 (QX.r x+Int.fdiv (qBJc y y_1) qBJb)=QX.r x'/\True)/\True))/\(Q false->(Int.fdiv (qBJc y y_1) qBJb=qBJn->False)/\∃(R:QX->Prop),(∃(x_1:QX),R x_1/\true=true/\(wr IntKind.u64 (qBJ9 y y_1)=wr IntKind.u64 (qBJ9 y y_1)/\wr IntKind.u64 (qBJd y_1)=wr IntKind.u64 (qBJd y_1)/\Int.fdiv (qBJc y y_1) qBJb=Int.fdiv (qBJc y y_1) qBJb/\Zc BinOp.and IntKind.u64 (qBJc y y_1) qBJi=Zc BinOp.and IntKind.u64 (qBJc y y_1) qBJi/\Zc BinOp.and IntKind.u64 (qBJc lo y_1) qBJi=Zc BinOp.and IntKind.u64 (qBJc lo y_1) qBJi/\QX.q x=QX.q x/\wr IntKind.u64 (qBJh hi y_1 lo x y)=wr IntKind.u64 (qBJh hi y_1 lo x y)/\wr IntKind.u64 (Int.tdiv (wr IntKind.u64 (qBJh hi y_1 lo x y)) (qBJr y y_1))=QX.q x_1/\wr IntKind.u64 (wr IntKind.u64 (qBJh hi y_1 lo x y)-wr IntKind.u64 (wr IntKind.u64 (Int.tdiv (wr IntKind.u64 (qBJh hi y_1 lo x y)) (qBJr y y_1))*Int.fdiv (qBJc y y_1) qBJb))=QX.r x_1/\True)/\True)/\∀(x_1:QX),R x_1->∃(Q:Bool->Prop),(qBJq x_1 Q y y_1 lo)/\(Q true->(decide (qBJl x_1 y y_1)=true->qBJn<=wr IntKind.u64 (qBJd y_1)/\wr IntKind.u64 (wr IntKind.u64 (QX.q x*qBJj)+wr IntKind.u64 (qBJm x_1))=Prod.fst p/\Int.fdiv (wr IntKind.u64 (wr IntKind.u64 (wr IntKind.u64 (wr IntKind.u64 (qBJh hi y_1 lo x y)*qBJj)+Zc BinOp.and IntKind.u64 (qBJc lo y_1) qBJi)-wr IntKind.u64 (wr IntKind.u64 (qBJm x_1)*wr IntKind.u64 (qBJ9 y y_1)))) (qBJk y_1)=Prod.snd p/\True)/\(decide (qBJl x_1 y y_1)=false->∃(x':QX),R x'/\x'.3+(1:Nat)<=x_1.3/\true=true/\(wr IntKind.u64 (qBJ9 y y_1)=wr IntKind.u64 (qBJ9 y y_1)/\wr IntKind.u64 (qBJd y_1)=wr IntKind.u64 (qBJd y_1)/\Int.fdiv (qBJc y y_1) qBJb=Int.fdiv (qBJc y y_1) qBJb/\Zc BinOp.and IntKind.u64 (qBJc y y_1) qBJi=Zc BinOp.and IntKind.u64 (qBJc y y_1) qBJi/\Zc BinOp.and IntKind.u64 (qBJc lo y_1) qBJi=Zc BinOp.and IntKind.u64 (qBJc lo y_1) qBJi/\QX.q x=QX.q x/\wr IntKind.u64 (qBJh hi y_1 lo x y)=wr IntKind.u64 (qBJh hi y_1 lo x y)/\wr IntKind.u64 (qBJm x_1)=QX.q x'/\wr IntKind.u64 (QX.r x_1+Int.fdiv (qBJc y y_1) qBJb)=QX.r x'/\True)/\True))/\(Q false->qBJn<=wr IntKind.u64 (qBJd y_1)/\wr IntKind.u64 (wr IntKind.u64 (QX.q x*qBJj)+QX.q x_1)=Prod.fst p/\Int.fdiv (wr IntKind.u64 (wr IntKind.u64 (wr IntKind.u64 (wr IntKind.u64 (qBJh hi y_1 lo x y)*qBJj)+Zc BinOp.and IntKind.u64 (qBJc lo y_1) qBJi)-wr IntKind.u64 (QX.q x_1*wr IntKind.u64 (qBJ9 y y_1)))) (qBJk y_1)=Prod.snd p/\True)))))):=by kernel_rfl
theorem Zof {Y y1 y0 u d q r Q:Nat} (hY:Y=y1*4294967296+y0) (hu:u<Y) (hd:d<4294967296) (hQ:Q=(u*4294967296+d)/Y) (hqr:q*y1+r=u) (h:4294967296<=q\/4294967296*r+d<q*y0):Q<q:=by
 have hp:0<Y:=by omega
 rw [hQ]
 rcases h with h|h
 · refine Nat.lt_of_lt_of_le ?_ h
   rw [Nat.div_lt_iff_lt_mul hp]
   have:=Nat.mul_le_mul_right 4294967296 (show u+1<=Y by omega)
   rw [Nat.mul_comm 4294967296 Y];omega
 · rw [Nat.div_lt_iff_lt_mul hp,hY,Nat.mul_add,<-Nat.mul_assoc,<-hqr,Nat.add_mul]
   omega
theorem Zlw {Y y1 y0 u d q r Q:Nat} (hY:Y=y1*4294967296+y0) (hu:u<Y) (hQ:Q=(u*4294967296+d)/Y) (hqr:q*y1+r=u) (h:q*y0<=4294967296*r+d) (hge:Q<=q):q=Q:=by
 have hp:0<Y:=by omega
 refine Nat.le_antisymm ?_ hge
 rw [hQ,Nat.le_div_iff_mul_le hp,hY,Nat.mul_add,<-Nat.mul_assoc,<-hqr,Nat.add_mul]
 omega
theorem Zlx {Y y1 y0 u d q r Q:Nat} (hY:Y=y1*4294967296+y0) (hy0:y0<4294967296) (hy1:0<y1) (hu:u<Y) (hQ:Q=(u*4294967296+d)/Y) (hqr:q*y1+r=u) (hlt:Q<q) (hr:4294967296<=r+y1):q-1=Q:=by
 have h1:(q-1)*y1+(r+y1)=u:=by
  obtain ⟨p,rfl⟩:∃p,q=p+1:=⟨q-1,by omega⟩
  rw [Nat.add_sub_cancel];rw [Nat.add_mul] at hqr;omega
 refine Zlw hY hu hQ h1 ?_ (by omega)
 have h2:(q-1)*y1<4294967296*y1:=by omega
 have h3:q-1<4294967296:=Nat.lt_of_mul_lt_mul_right h2
 have h4:=Nat.mul_le_mul (show q-1<=4294967296 by omega) (show y0<=r+y1 by omega)
 omega
theorem Zly {Y y1 y0 u d Q:Nat} (hY:Y=y1*4294967296+y0) (hy1:0<y1) (hd:d<4294967296) (hQ:Q=(u*4294967296+d)/Y):Q<=u/y1:=by
 have hp:0<Y:=by omega
 rw [Nat.le_div_iff_mul_le hy1]
 have h1:Q*Y<=u*4294967296+d:=by rw [hQ];exact Nat.div_mul_le_self _ _
 rw [hY,Nat.mul_add,<-Nat.mul_assoc] at h1
 omega
theorem Zpu {Y u d:Nat} (hu:u<Y) (hd:d<4294967296):(u*4294967296+d)/Y<4294967296:=by
 have hp:0<Y:=by omega
 rw [Nat.div_lt_iff_lt_mul hp]
 have:=Nat.mul_le_mul_right 4294967296 (show u+1<=Y by omega)
 rw [Nat.mul_comm 4294967296 Y];omega
theorem Zjj {Y v d0:Nat} (hY:0<Y):
 v/Y*4294967296+(v%Y*4294967296+d0)/Y=(v*4294967296+d0)/Y/\(v%Y*4294967296+d0)%Y=(v*4294967296+d0)%Y:=by
 have e:v*4294967296+d0=(v%Y*4294967296+d0)+Y*(v/Y*4294967296):=by
  have h:=Nat.mod_add_div v Y
  conv=>lhs;rw [<-h,Nat.add_mul,Nat.mul_assoc]
  exact Nat.add_right_comm _ _ _
 rw [e,Nat.add_mul_div_left _ _ hY,Nat.add_mul_mod_self_left]
 exact ⟨Nat.add_comm _ _,rfl⟩
theorem Zsn {a b s:Nat} (hb:b<2^s):a*2^s|||b=a*2^s+b:=by
 rw [Nat.mul_comm,Nat.two_pow_add_eq_or_of_lt hb]
theorem or64 {a b s:Nat} (hb:b<2^s) (h:a*2^s+b<18446744073709551616):Zc .or .u64 ((a*2^s:Nat):Int) (b:Int)=((a*2^s+b:Nat):Int):=by
 show IntKind.u64.wrap ((BitVec.ofInt 64 ((a*2^s:Nat):Int)|||BitVec.ofInt 64 (b:Int)).toNat:Int)=_
 rw [BitVec.ofInt_natCast,BitVec.ofInt_natCast,BitVec.toNat_or,BitVec.toNat_ofNat,BitVec.toNat_ofNat,Nat.mod_eq_of_lt (by omega),Nat.mod_eq_of_lt (by omega),Zsn hb,IntKind.wrap_u64]
 omega
theorem Zgg {n:Nat} (h:n≠0):2^(blen n-1)<=n/\n<2^blen n/\0<blen n:=by
 unfold blen
 rw [if_neg h,Nat.add_sub_cancel]
 exact ⟨Nat.log2_self_le h,(Nat.log2_lt h).1 (Nat.lt_succ_self _),Nat.succ_pos _⟩
theorem Zpv {Y u d Q:Nat} (hYlt:Y<18446744073709551616) (hu:u<Y) (hd:d<4294967296) (hQ:Q=(u*4294967296+d)/Y):
 wr .u64 (wr .u64 (wr .u64 ((u:Int)*4294967296)+(d:Int))-wr .u64 ((Q:Int)*(Y:Int)))=(((u*4294967296+d)%Y:Nat):Int):=by
 have h:=Nat.mod_add_div (u*4294967296+d) Y
 have hm:(u*4294967296+d)%Y<Y:=Nat.mod_lt _ (by omega)
 rw [<-hQ,Nat.mul_comm Y Q] at h
 generalize (u*4294967296+d)%Y=m at*
 rw [<-Int.natCast_mul]
 generalize Q*Y=P at*
 simp only [wu64]
 omega
abbrev Zq4 (y1 y0 d q0 r0:Int) (K:Int->Prop):Prop:=
 ∃R:QX->Prop,(∃x:QX,R x/\True/\(True/\True/\True/\True/\True/\True/\True/\q0=x.q/\r0=x.r/\True)/\True)/\
  ∀x:QX,R x->∃Q:Bool->Prop,((decide (x.q>=4294967296)=true->Q true)/\(decide (x.q>=4294967296)=false->
   (decide (wr .u64 (x.q*y0)>wr .u64 (wr .u64 (4294967296*x.r)+d))=true->Q true)/\(decide (wr .u64 (x.q*y0)>wr .u64 (wr .u64 (4294967296*x.r)+d))=false->Q false)))/\
   (Q true->(decide (wr .u64 (x.r+y1)>=4294967296)=true->K (wr .u64 (x.q-1)))/\(decide (wr .u64 (x.r+y1)>=4294967296)=false->∃x':QX,R x'/\x'.n+1<=x.n/\True/\(True/\True/\True/\True/\True/\True/\True/\wr .u64 (x.q-1)=x'.q/\wr .u64 (x.r+y1)=x'.r/\True)/\True))/\
   (Q false->K x.q)
theorem Zhq {Y y1 y0 u d Q:Nat} (hY:Y=y1*4294967296+y0) (hYlt:Y<18446744073709551616) (hy0:y0<4294967296) (hy1:2147483648<=y1) (hu:u<Y) (hd:d<4294967296) (hQ:Q=(u*4294967296+d)/Y) {K:Int->Prop} (hK:K (Q:Int)):
 Zq4 (y1:Int) (y0:Int) (d:Int) (wr .u64 ((u:Int).tdiv (y1:Int))) (wr .u64 ((u:Int)-wr .u64 (wr .u64 ((u:Int).tdiv (y1:Int))*(y1:Int)))) K:=by
 have hy1p:0<y1:=by omega
 have hy1lt:y1<4294967296:=by omega
 have i1:wr .u64 ((u:Int).tdiv (y1:Int))=((u/y1:Nat):Int):=by
  rw [Int.tdiv_eq_ediv_of_nonneg (by omega),<-Int.natCast_ediv]
  exact wrN _ (Nat.lt_of_le_of_lt (Nat.div_le_self _ _) (by omega))
 have hmd:=Nat.mod_add_div u y1
 have hml:u%y1<y1:=Nat.mod_lt _ hy1p
 have i2:wr .u64 ((u:Int)-wr .u64 (((u/y1:Nat):Int)*(y1:Int)))=((u%y1:Nat):Int):=by
  rw [Nat.mul_comm] at hmd
  rw [<-Int.natCast_mul]
  generalize u/y1*y1=P at*
  generalize u%y1=m at*
  simp only [wu64]
  omega
 rw [i1,i2]
 refine ⟨fun x=>∃q r:Nat,x=⟨q,r,q⟩/\r<4294967296/\q*y1+r=u/\Q<=q,⟨⟨_,_,u/y1⟩,⟨u/y1,u%y1,rfl,by omega,by rw [Nat.mul_comm];omega,Zly hY hy1p hd hQ⟩,trivial,⟨trivial,trivial,trivial,trivial,trivial,trivial,trivial,rfl,rfl,trivial⟩,trivial⟩,?_⟩
 rintro _ ⟨q,r,rfl,hr,hqr,hge⟩
 dsimp only
 have w1:wr .u64 ((r:Int)+(y1:Int))=((r+y1:Nat):Int):=by rw [wu64];omega
 have w2:wr .u64 (wr .u64 (4294967296*(r:Int))+(d:Int))=((4294967296*r+d:Nat):Int):=by simp only [wu64];omega
 have w3:q<4294967296->wr .u64 ((q:Int)*(y0:Int))=((q*y0:Nat):Int):=fun h=>by
  rw [<-Int.natCast_mul];exact wrN _ (by have:=Zbb h hy0;omega)
 rw [w1,w2]
 refine ⟨fun b=>b=decide (4294967296<=q\/4294967296*r+d<q*y0),⟨fun h=> ?_,fun h=>⟨fun h'=> ?_,fun h'=> ?_⟩⟩,fun hq=> ?_,fun hq=> ?_⟩
 · simp only [decide_eq_true_eq] at h;exact (decide_eq_true (.inl (by omega))).symm
 · simp only [decide_eq_false_iff_not] at h
   rw [w3 (by omega)] at h'
   simp only [decide_eq_true_eq] at h'
   exact (decide_eq_true (.inr (by omega))).symm
 · simp only [decide_eq_false_iff_not] at h
   rw [w3 (by omega)] at h'
   simp only [decide_eq_false_iff_not] at h'
   exact (decide_eq_false (by omega)).symm
 · have hlt:=Zof hY hu hd hQ hqr (of_decide_eq_true hq.symm)
   have w4:wr .u64 ((q:Int)-1)=((q-1:Nat):Int):=by
    have:q<=u:=by
     have:=Nat.le_mul_of_pos_right q hy1p
     omega
    rw [wu64];omega
   rw [w4]
   refine ⟨fun h=> ?_,fun h=> ?_⟩
   · simp only [decide_eq_true_eq] at h
     rw [Zlx hY hy0 hy1p hu hQ hqr hlt (by omega)]
     exact hK
   · simp only [decide_eq_false_iff_not] at h
     refine ⟨⟨_,_,q-1⟩,⟨q-1,r+y1,rfl,by omega,?_,by omega⟩,by dsimp only;omega,trivial,⟨trivial,trivial,trivial,trivial,trivial,trivial,trivial,rfl,rfl,trivial⟩,trivial⟩
     obtain ⟨p,rfl⟩:∃p,q=p+1:=⟨q-1,by omega⟩
     rw [Nat.add_mul] at hqr
     rw [Nat.add_sub_cancel]
     omega
 · have hn:=of_decide_eq_false hq.symm
   have e:q=Q:=Zlw hY hu hQ hqr (by omega) hge
   rw [e];exact hK
theorem Zjk (hi lo y:Nat) (hy:y<18446744073709551616) (hl:lo<18446744073709551616) (hh:hi<y):PureC E 28 [.int false .u64 (hi:Int),.int false .u64 (lo:Int),.int false .u64 (y:Int)] (Zje ((((hi*18446744073709551616+lo)/y:Nat):Int),(((hi*18446744073709551616+lo)%y:Nat):Int))):=by
 refine Ze E_ok (Zn E_ok Zsm 400) ?_
 rw [Zji];delta qBJd qBJp qBJ9 qBJj qBJe qBJc qBJb qBJa qBJm qBJf qBJi qBJg qBJh qBJk qBJl qBJn qBJo qBJq qBJr
 refine ⟨fun h=>by simp at h;omega,fun _=>⟨fun h=>by simp at h;omega,fun _=>⟨fun h=> ?_,fun h=>⟨⟨by omega,by omega⟩,fun y1 hy1=> ?_⟩⟩⟩⟩
 · have h0:hi=0:=by simp at h;exact h
   subst h0
   rw [Nat.zero_mul,Nat.zero_add]
   refine ⟨fun h=>by omega,fun h=>by omega,?_,?_,trivial⟩
   · rw [Int.tdiv_eq_ediv_of_nonneg (by omega),<-Int.natCast_ediv]
     exact wrN _ (Nat.lt_of_le_of_lt (Nat.div_le_self _ _) (by omega))
   · rw [Int.tmod_eq_emod_of_nonneg (by omega)];simp
 obtain ⟨S,hS⟩:∃S,S=64-blen y:=⟨_,rfl⟩
 obtain ⟨b1,b2,b3⟩:=Zgg (n:=y) (by omega)
 have b4:blen y<=64:=Zlu (b:=64) (by omega)
 rw [Int.toNat_natCast] at hy1
 subst hy1
 have hS64:S<64:=by omega
 have hSY:S+blen y=64:=by omega
 obtain ⟨Y,hY⟩:∃Y,Y=y*2^S:=⟨_,rfl⟩
 have hpS:0<2^S:=Nat.two_pow_pos S
 have hYlt:Y<18446744073709551616:=by
  have:y*2^S<2^blen y*2^S:=Nat.mul_lt_mul_of_pos_right b2 hpS
  rw [<-Nat.pow_add,Nat.add_comm,hSY] at this
  rw [hY];exact this
 have hYge:9223372036854775808<=Y:=by
  have:2^(blen y-1)*2^S<=y*2^S:=Nat.mul_le_mul_right _ b1
  rw [<-Nat.pow_add,show blen y-1+S=63 by omega] at this
  rw [hY];exact this
 have e1:wr .u64 (wr .i64 ((64:Int)-((blen y:Nat):Int)))=(S:Int):=by
  rw [wr64 (by omega) (by omega),wu64];omega
 have hmin:min S (IntKind.bits IntKind.u64)=S:=Nat.min_eq_left (by show S<=64;omega)
 have hmin2:min (64-S) (IntKind.bits IntKind.u64)=64-S:=Nat.min_eq_left (by show 64-S<=64;omega)
 have e2:wr .u64 ((y:Int)*(2:Int)^S)=(Y:Int):=by
  have:(y:Int)*(2:Int)^S=((y*2^S:Nat):Int):=by simp
  rw [this,<-hY];exact wrN _ hYlt
 have e3:wr .u64 ((64:Int)-(S:Int))=((64-S:Nat):Int):=by rw [wu64];omega
 obtain ⟨a,ha⟩:∃a,a=lo/2^(64-S):=⟨_,rfl⟩
 have halt:a<2^S:=by
  rw [ha,Nat.div_lt_iff_lt_mul (Nat.two_pow_pos _),<-Nat.pow_add,show S+(64-S)=64 by omega];exact hl
 obtain ⟨u,hu⟩:∃u,u=hi*2^S+a:=⟨_,rfl⟩
 have hult:u<Y:=by
  have:(hi+1)*2^S<=y*2^S:=Nat.mul_le_mul_right _ (by omega)
  rw [Nat.add_mul,<-hY] at this
  omega
 have e4:wr .u64 ((hi:Int)*(2:Int)^S)=((hi*2^S:Nat):Int):=by
  have:(hi:Int)*(2:Int)^S=((hi*2^S:Nat):Int):=by simp
  rw [this];exact wrN _ (by omega)
 have e5:Int.fdiv (lo:Int) ((2:Int)^(64-S))=(a:Int):=by
  rw [Int.fdiv_eq_ediv_of_nonneg _ (Int.le_of_lt (Int.pow_pos (by decide))),ha];simp
 have e6:Zc .or .u64 ((hi*2^S:Nat):Int) (a:Int)=(u:Int):=by rw [hu];exact or64 halt (by omega)
 obtain ⟨t,ht⟩:∃t,t=lo*2^S%18446744073709551616:=⟨_,rfl⟩
 have htlt:t<18446744073709551616:=by rw [ht];exact Nat.mod_lt _ (by decide)
 have e7:wr .u64 ((lo:Int)*(2:Int)^S)=(t:Int):=by
  have:(lo:Int)*(2:Int)^S=((lo*2^S:Nat):Int):=by simp
  rw [this,wu64,ht];omega
 obtain ⟨d1,hd1⟩:∃d,d=t/4294967296:=⟨_,rfl⟩
 obtain ⟨d0,hd0⟩:∃d,d=t%4294967296:=⟨_,rfl⟩
 obtain ⟨y1,hy1⟩:∃d,d=Y/4294967296:=⟨_,rfl⟩
 obtain ⟨y0,hy0⟩:∃d,d=Y%4294967296:=⟨_,rfl⟩
 have e8:(Y:Int)/4294967296=(y1:Int):=by omega
 have e9:Zc .and .u64 (Y:Int) (4294967295:Int)=(y0:Int):=by rw [Zlv _ hYlt,hy0]
 have e10:(t:Int)/4294967296=(d1:Int):=by omega
 have e11:Zc .and .u64 (t:Int) (4294967295:Int)=(d0:Int):=by rw [Zlv _ htlt,hd0]
 simp only [e1,Int.toNat_natCast,hmin,e2,e3,hmin2,e4,e5,e6,e7,Zq3,e8,e9,e10,e11]
 have hYe:Y=y1*4294967296+y0:=by omega
 have f1:y0<4294967296:=by omega
 have f2:2147483648<=y1:=by omega
 have f3:d1<4294967296:=by omega
 have f4:d0<4294967296:=by omega
 have hd:t=d1*4294967296+d0:=by omega
 show (0:Int)<=S/\(0:Int)<=S/\(0:Int)<=((64-S:Nat):Int)/\(0:Int)<=S/\((y1:Int)=0->False)/\
  Zq4 (y1:Int) (y0:Int) (d1:Int) (wr .u64 ((u:Int).tdiv (y1:Int))) (wr .u64 ((u:Int)-wr .u64 (wr .u64 ((u:Int).tdiv (y1:Int))*(y1:Int)))) fun q1=>((y1:Int)=0->False)/\
   Zq4 (y1:Int) (y0:Int) (d0:Int) (wr .u64 ((wr .u64 (wr .u64 (wr .u64 ((u:Int)*4294967296)+(d1:Int))-wr .u64 (q1*(Y:Int)))).tdiv (y1:Int))) (wr .u64 (wr .u64 (wr .u64 (wr .u64 ((u:Int)*4294967296)+(d1:Int))-wr .u64 (q1*(Y:Int)))-wr .u64 (wr .u64 ((wr .u64 (wr .u64 (wr .u64 ((u:Int)*4294967296)+(d1:Int))-wr .u64 (q1*(Y:Int)))).tdiv (y1:Int))*(y1:Int)))) fun q0=>
    (0:Int)<=S/\wr .u64 (wr .u64 (q1*4294967296)+q0)=(((hi*18446744073709551616+lo)/y:Nat):Int)/\
     (wr .u64 (wr .u64 (wr .u64 (wr .u64 (wr .u64 (wr .u64 ((u:Int)*4294967296)+(d1:Int))-wr .u64 (q1*(Y:Int)))*4294967296)+(d0:Int))-wr .u64 (q0*(Y:Int)))).fdiv (2^S)=(((hi*18446744073709551616+lo)%y:Nat):Int)/\True
 refine ⟨by omega,by omega,by omega,by omega,fun h=>by omega,Zhq hYe hYlt f1 f2 hult f3 rfl ⟨fun h=>by omega,?_⟩⟩
 obtain ⟨v,hv⟩:∃v,v=u*4294967296+d1:=⟨_,rfl⟩
 rw [Zpv hYlt hult f3 rfl,<-hv]
 have hpY:0<Y:=by omega
 have hv2:v%Y<Y:=Nat.mod_lt _ hpY
 have hN:v*4294967296+d0=(hi*18446744073709551616+lo)*2^S:=by
  have k1:lo*2^S/18446744073709551616=a:=by
   have:(18446744073709551616:Nat)=2^(64-S)*2^S:=by rw [<-Nat.pow_add,show 64-S+S=64 by omega]
   rw [this,Nat.mul_div_mul_right _ _ hpS,ha]
  have k2:=Nat.mod_add_div (lo*2^S) 18446744073709551616
  rw [k1,<-ht] at k2
  rw [Nat.add_mul,Nat.mul_right_comm hi]
  omega
 obtain ⟨t1,t2⟩:=Zjj (Y:=Y) (v:=v) (d0:=d0) hpY
 rw [hN] at t1 t2
 have t1:v/Y*4294967296+(v%Y*4294967296+d0)/Y=(hi*18446744073709551616+lo)/y:=by rw [t1,hY,Nat.mul_div_mul_right _ _ hpS]
 have t2:(v%Y*4294967296+d0)%Y=(hi*18446744073709551616+lo)%y*2^S:=by rw [t2,hY,Nat.mul_mod_mul_right]
 refine Zhq hYe hYlt f1 f2 hv2 f4 rfl ⟨by omega,?_,?_,trivial⟩
 · have q1:v/Y<4294967296:=by rw [hv];exact Zpu hult f3
   have q0:(v%Y*4294967296+d0)/Y<4294967296:=Zpu hv2 f4
   rw [<-t1]
   clear t1 t2 hN
   generalize (v%Y*4294967296+d0)/Y=x0 at q0⊢
   generalize v/Y=x1 at q1⊢
   simp only [wu64];omega
 · rw [Zpv hYlt hv2 f4 rfl,t2]
   rw [Int.fdiv_eq_ediv_of_nonneg _ (Int.le_of_lt (Int.pow_pos (by decide)))]
   have:((2:Int)^S)=((2^S:Nat):Int):=by simp
   rw [this,<-Int.natCast_ediv,Nat.mul_div_cancel _ hpS]
end
section
open Go
def Zr4:Sum thy:=Wa (dL3 dU dU dU) (fun x=>(0<=x.1/\x.1<x.2.2.1)/\(0<=x.2.1/\x.2.1<18446744073709551616)/\x.2.2.1<18446744073709551616)
 (fun x=>((((x.1.toNat*18446744073709551616+x.2.1.toNat)/x.2.2.1.toNat:Nat):Int),(((x.1.toNat*18446744073709551616+x.2.1.toNat)%x.2.2.1.toNat:Nat):Int))) Zje
def F8:Fns thy:=addS F7 28 Zr4
theorem Zr5:FnsOk E F8:=Zu Zsm (Zy E_ok (Zr (f:=28) rfl) fun x h=>by
 obtain ⟨a,b,c,_⟩:=x
 obtain ⟨⟨h1,h2⟩,⟨h3,h4⟩,h5⟩:=h
 dsimp only at h1 h2 h3 h4 h5
 obtain ⟨a,rfl⟩:=Int.eq_ofNat_of_zero_le h1
 obtain ⟨b,rfl⟩:=Int.eq_ofNat_of_zero_le h3
 obtain ⟨c,rfl⟩:=Int.eq_ofNat_of_zero_le (show 0<=c by omega)
 exact Zjk a b c (by omega) (by omega) (by omega))
abbrev qBK1:=(0:Int)
abbrev qBK2:=(18446744073709551616:Int)
abbrev qBK3:=(18446744073709551616:Nat)
abbrev qBK4:=(1:Int)
theorem Zi1 (w s t l f:Int) (p:Int×Int):Yl E F8 (vc E F8 400) 11 [.int false .i64 w,.int false .i64 s,.int false .i64 t,.int false .i64 l,.int false .i64 f] hp0 0 (fun r=>ret E (patch hp0 0 r) r.v (Zg5 p))=(
 (decide (w<qBK1)=true->qBK1=Prod.fst p/\qBK4=Prod.snd p/\True)/\(decide (w<qBK1)=false->∃(Q:Bool->Prop),((decide (w<(-9007199254740992:Int))=true->Q true)/\(decide (w<(-9007199254740992:Int))=false->(decide (w>(9007199254740992:Int))=true->Q true)/\(decide (w>(9007199254740992:Int))=false->Q false)))/\(Q true->qBK1=Prod.fst p/\qBK4=Prod.snd p/\True)/\(Q false->(decide (mm2 false s t<qBK1)=true->qBK1=Prod.fst p/\qBK4=Prod.snd p/\True)/\(decide (mm2 false s t<qBK1)=false->(decide (mm2 true (mm2 true s t) l>(1073741824:Int))=true->qBK1=Prod.fst p/\qBK4=Prod.snd p/\True)/\(decide (mm2 true (mm2 true s t) l>(1073741824:Int))=false->(decide (l<qBK4)=true->qBK1=Prod.fst p/\qBK4=Prod.snd p/\True)/\(decide (l<qBK4)=false->(decide (f<qBK1)=true->qBK1=Prod.fst p/\qBK4=Prod.snd p/\True)/\(decide (f<qBK1)=false->(decide (f>(100:Int))=true->qBK1=Prod.fst p/\qBK4=Prod.snd p/\True)/\(decide (f>(100:Int))=false->(decide (wr IntKind.i64 (t-s)<=qBK1)=true->w=Prod.fst p/\qBK1=Prod.snd p/\True)/\(decide (wr IntKind.i64 (t-s)<=qBK1)=false->(decide (wr IntKind.i64 (t-s)>=l)=true->wr IntKind.i64 (Int.tdiv (wr IntKind.i64 (wr IntKind.i64 (w*f)+(99:Int))) (100:Int))=Prod.fst p/\qBK1=Prod.snd p/\True)/\(decide (wr IntKind.i64 (t-s)>=l)=false->((qBK1<=wr IntKind.u64 w/\wr IntKind.u64 w+qBK4<=qBK2)/\qBK1<=wr IntKind.u64 (wr IntKind.i64 (t-s))/\wr IntKind.u64 (wr IntKind.i64 (t-s))+qBK4<=qBK2)/\∀(y:Int×Int),y=((↑(Int.toNat (wr IntKind.u64 w)*Int.toNat (wr IntKind.u64 (wr IntKind.i64 (t-s)))/qBK3):Int),(↑(Int.toNat (wr IntKind.u64 w)*Int.toNat (wr IntKind.u64 (wr IntKind.i64 (t-s)))%qBK3):Int))->((qBK1<=Prod.fst y/\Prod.fst y+qBK4<=wr IntKind.u64 l)/\(qBK1<=Prod.snd y/\Prod.snd y+qBK4<=qBK2)/\wr IntKind.u64 l+qBK4<=qBK2)/\∀(y_1:Int×Int),y_1=((↑((Int.toNat (Prod.fst y)*qBK3+Int.toNat (Prod.snd y))/Int.toNat (wr IntKind.u64 l)):Int),(↑((Int.toNat (Prod.fst y)*qBK3+Int.toNat (Prod.snd y))%Int.toNat (wr IntKind.u64 l)):Int))->mm2 true (wr IntKind.i64 (Int.tdiv (wr IntKind.i64 (wr IntKind.i64 (w*f)+(99:Int))) (100:Int))) (wr IntKind.i64 (w-wr IntKind.i64 (Prod.fst y_1)))=Prod.fst p/\qBK1=Prod.snd p/\True)))))))))):=by kernel_rfl
def Yg (w s t l f:Int):Prop:=0<=w/\w<=9007199254740992/\0<=s/\s<=1073741824/\0<=t/\t<=1073741824/\1<=l/\l<=1073741824/\0<=f/\f<=100
instance (w s t l f:Int):Decidable (Yg w s t l f):=by unfold Yg;infer_instance
def Zk0 (w f:Int):Int:=(w*f+99)/100
def Zce (w s t l f:Int):Int×Int:=if Yg w s t l f then (if t<=s then (w,0) else if l<=t-s then (Zk0 w f,0) else (max (Zk0 w f) (w-w*(t-s)/l),0)) else (0,1)
theorem Zi2 {a b A B:Int} (h0:0<=a) (h1:a<=A) (h2:0<=b) (h3:b<=B):0<=a*b/\a*b<=A*B:=
 ⟨Int.mul_nonneg h0 h2,Int.le_trans (Int.mul_le_mul_of_nonneg_right h1 h2) (Int.mul_le_mul_of_nonneg_left h3 (by omega))⟩
theorem Znv {w f:Int} (h0:0<=w) (h1:w<=9007199254740992) (h2:0<=f) (h3:f<=100):wr .i64 (Int.tdiv (wr .i64 (wr .i64 (w*f)+99)) 100)=Zk0 w f:=by
 have:=Zi2 h0 h1 h2 h3
 rw [wr64 (n:=w*f) (by omega) (by omega),wr64 (n:=w*f+99) (by omega) (by omega),Int.tdiv_eq_ediv_of_nonneg (by omega),wr64 (by omega) (by omega)]
 rfl
theorem Zqg {w a l:Int} (h0:0<=w) (ha:0<=a) (hl:0<l) (hal:a<=l):0<=w*a/l/\w*a/l<=w:=by
 refine ⟨Int.ediv_nonneg (Int.mul_nonneg h0 ha) (by omega),?_⟩
 have:w*a<=w*l:=Int.mul_le_mul_of_nonneg_left hal h0
 exact Int.ediv_le_of_le_mul hl this
theorem Zi3 (w s t l f:Int):PureC E 11 [.int false .i64 w,.int false .i64 s,.int false .i64 t,.int false .i64 l,.int false .i64 f] (Zg5 (Zce w s t l f)):=by
 refine Ze E_ok (Zn E_ok Zr5 400) ?_
 rw [Zi1];delta qBK1 qBK2 qBK3 qBK4
 simp only [Zre,Zrf,decide_eq_true_eq,decide_eq_false_iff_not]
 have bad:¬Yg w s t l f->(0:Int)=(Zce w s t l f).1/\(1:Int)=(Zce w s t l f).2/\True:=fun h=>by unfold Zce;rw [if_neg h];exact ⟨rfl,rfl,trivial⟩
 refine ⟨fun h=>bad ?_,fun h0=>⟨fun q=>q=decide (9007199254740992<w),?_,fun hq=>bad ?_,fun hq=>⟨fun h=>bad ?_,fun h1=>⟨fun h=>bad ?_,fun h2=>⟨fun h=>bad ?_,fun h3=>⟨fun h=>bad ?_,fun h4=>⟨fun h=>bad ?_,fun h5=> ?_⟩⟩⟩⟩⟩⟩⟩
 · unfold Yg;omega
 · refine And.intro (fun h=>by omega) (fun h=>And.intro (fun h=>(decide_eq_true (by omega)).symm) (fun h=>(decide_eq_false (by omega)).symm))
 · have:=of_decide_eq_true hq.symm
   unfold Yg;omega
 · unfold Yg;omega
 · unfold Yg;omega
 · unfold Yg;omega
 · unfold Yg;omega
 · unfold Yg;omega
 have hw:=of_decide_eq_false hq.symm
 have ok:Yg w s t l f:=by unfold Yg;omega
 obtain ⟨k1,k2,k3,k4,k5,k6,k7,k8,k9,k10⟩:=ok
 have ok:Yg w s t l f:=by unfold Yg;omega
 have e:wr .i64 (t-s)=t-s:=wr64 (by omega) (by omega)
 rw [e,Znv k1 k2 k9 k10]
 unfold Zce
 rw [if_pos ok]
 refine ⟨fun h=> ?_,fun h6=>⟨fun h=> ?_,fun h7=> ?_⟩⟩
 · rw [if_pos (by omega)];exact ⟨rfl,rfl,trivial⟩
 · rw [if_neg (by omega),if_pos (by omega)];exact ⟨rfl,rfl,trivial⟩
 rw [if_neg (by omega),if_neg (by omega)]
 have ew:wr .u64 w=w:=by rw [wu64];omega
 have et:wr .u64 (t-s)=t-s:=by rw [wu64];omega
 have el:wr .u64 l=l:=by rw [wu64];omega
 rw [ew,et,el]
 obtain ⟨W,rfl⟩:=Int.eq_ofNat_of_zero_le k1
 obtain ⟨A,hA⟩:=Int.eq_ofNat_of_zero_le (show 0<=t-s by omega)
 obtain ⟨L,rfl⟩:=Int.eq_ofNat_of_zero_le (show 0<=l by omega)
 rw [hA]
 simp only [Int.toNat_natCast]
 refine ⟨⟨⟨by omega,by omega⟩,by omega,by omega⟩,fun y hy=> ?_⟩
 subst hy
 simp only [Int.toNat_natCast]
 have hp:=Nat.mod_add_div (W*A) 18446744073709551616
 have hml:W*A%18446744073709551616<18446744073709551616:=Nat.mod_lt _ (by decide)
 have hb:W*A<=9007199254740992*1073741824:=Nat.mul_le_mul (by omega) (by omega)
 have hWA:W*A<=W*L:=Nat.mul_le_mul_left _ (by omega)
 have hWL:W*A<=9007199254740992*L:=Nat.le_trans hWA (Nat.mul_le_mul_right _ (by omega))
 refine ⟨⟨⟨by omega,by omega⟩,⟨by omega,by omega⟩,by omega⟩,fun y hy=> ?_⟩
 subst hy
 have e2:W*A/18446744073709551616*18446744073709551616+W*A%18446744073709551616=W*A:=by omega
 dsimp only
 rw [e2]
 have hq:=Zqg (w:=(W:Int)) (a:=(A:Int)) (l:=(L:Int)) (by omega) (by omega) (by omega) (by omega)
 have e3:((W*A/L:Nat):Int)=(W:Int)*(A:Int)/(L:Int):=by simp
 rw [e3]
 have e4:wr .i64 ((W:Int)*(A:Int)/(L:Int))=(W:Int)*(A:Int)/(L:Int):=wr64 (by omega) (by omega)
 rw [e4,wr64 (n:=(W:Int)-_) (by omega) (by omega)]
 refine ⟨?_,?_,trivial⟩<;>first|rfl|trivial
def Zr6:Sum thy:=Wa (.cons dI (.cons dI (dL3 dI dI dI))) (fun _=>True) (fun x=>Zce x.1 x.2.1 x.2.2.1 x.2.2.2.1 x.2.2.2.2.1) Zg5
def F9:Fns thy:=addS F8 11 Zr6
theorem Zr7:FnsOk E F9:=Zu Zr5 (Zy E_ok (Zr (f:=11) rfl) fun x _=>Zi3 x.1 x.2.1 x.2.2.1 x.2.2.2.1 x.2.2.2.2.1)
end
section
open Go
def numL (s:List Nat):Nat:=s.foldl (fun n c=>n*10+(c-48)) 0
def dlM (u:Nat):Nat->List Nat
 |0=> []
 |k+1=>dlM (u/10) k++ [48+u%10]
theorem Zej (l:List Nat) (c:Nat):numL (l++ [c])=numL l*10+(c-48):=by
 unfold numL
 rw [List.foldl_append]
 rfl
theorem Xu:∀(k u:Nat),(dlM u k).length=k
 |0,_=>rfl
 |k+1,u=>by
  show (dlM (u/10) k++ [_]).length=_
  rw [List.length_append,Xu k]
  rfl
theorem Zdc:∀(k u:Nat),∀c∈dlM u k,48<=c/\c<=57
 |0,u,c,h=>by cases h
 |k+1,u,c,h=>by
  rcases List.mem_append.1 h with h|h
  · exact Zdc k _ c h
  · have:=List.mem_singleton.1 h
    omega
theorem Zdd:∀(k u:Nat),numL (dlM u k)=u%10^k
 |0,u=>by rw [Nat.pow_zero,Nat.mod_one];rfl
 |k+1,u=>by
  show numL (dlM (u/10) k++ [_])=_
  rw [Zej,Zdd k,Nat.pow_succ,Nat.mul_comm (10^k) 10,Nat.mod_mul]
  generalize u/10%10^k=t
  omega
theorem Za0:∀r:List Nat,(∀c∈r,48<=c/\c<=57)->dlM (numL r.reverse) r.length=r.reverse
 | [],_=>rfl
 |c::r,h=>by
  have hc:=h c (by simp)
  have ih:=Za0 r fun x hx=>h x (by simp [hx])
  rw [List.reverse_cons,Zej,List.length_cons]
  show dlM ((numL r.reverse*10+(c-48))/10) r.length++ [48+(numL r.reverse*10+(c-48))%10]=_
  rw [show (numL r.reverse*10+(c-48))/10=numL r.reverse by omega,show 48+(numL r.reverse*10+(c-48))%10=c by omega,ih]
theorem Zf6 (l:List Nat) (h:∀c∈l,48<=c/\c<=57):dlM (numL l) l.length=l:=by
 have:=Za0 l.reverse fun c hc=>h c (List.mem_reverse.1 hc)
 rwa [List.reverse_reverse,List.length_reverse] at this
theorem Zk3 (l:List Nat) (h:∀c∈l,48<=c/\c<=57):numL l<10^l.length:=by
 have e:=Zdd l.length (numL l)
 rw [Zf6 l h] at e
 rw [e]
 exact Nat.mod_lt _ (Nat.pos_of_ne_zero (by simp))
theorem Za1:∀(l:List Nat) (n:Nat),l.foldl (fun n c=>n*10+(c-48)) n=n*10^l.length+numL l
 | [],n=>by simp [numL]
 |c::r,n=>by
  have e:numL (c::r)=(0*10+(c-48))*10^r.length+numL r:=Za1 r _
  show r.foldl _ (n*10+(c-48))=_
  rw [Za1 r,e,List.length_cons,Nat.pow_succ,Nat.zero_mul,Nat.zero_add,Nat.add_mul,Nat.add_assoc,Nat.mul_assoc,Nat.mul_comm 10 (10^r.length)]
theorem Za2 (c:Nat) (r:List Nat):numL (c::r)=(c-48)*10^r.length+numL r:=by
 have e:numL (c::r)=(0*10+(c-48))*10^r.length+numL r:=Za1 r _
 rw [e,Nat.zero_mul,Nat.zero_add]
theorem Znx:∀(k u:Nat),u<10^(k+1)->Lib.nDigits u<=k+1
 |0,u,h=>by rw [Lib.nDigits_small (by simpa using h)];exact Nat.le_refl _
 |k+1,u,h=>by
  by_cases h1:u<10
  · rw [Lib.nDigits_small h1];omega
  · rw [Lib.nDigits_big h1]
    rw [Nat.pow_succ] at h
    have:=Znx k (u/10) (by omega)
    omega
def kF (u:Nat):Nat:=max 3 (Lib.nDigits u)
theorem kF3 (u:Nat):3<=kF u:=Nat.le_max_left _ _
theorem Zr9 (u:Nat):u<10^kF u:=Nat.lt_of_lt_of_le (Lib.lt_pow_nDigits u) (Nat.pow_le_pow_right (by decide) (Nat.le_max_right _ _))
theorem Zs9 {l:List Nat} (h:∀c∈l,48<=c/\c<=57) (hl:3<=l.length) (hh:l.head? =some 48->l.length<=3):kF (numL l)=l.length:=by
 have hlt:=Zk3 l h
 cases l with
 |nil=>cases hl
 |cons c r=>
  rw [List.length_cons] at*
  have hle:=Znx r.length _ hlt
  unfold kF
  by_cases hc:c=48
  · have:=hh (by rw [hc];rfl)
    omega
  · have hc2:=h c (by simp)
    have hge:10^r.length<=numL (c::r):=by
     rw [Za2]
     have:1*10^r.length<=(c-48)*10^r.length:=Nat.mul_le_mul_right _ (by omega)
     omega
    rw [Lib.nDigits_unique r.length _ hge hlt]
    omega
theorem Zqj {u c:Nat} {r:List Nat} (h:dlM u (kF u)=c::r) (hk:3<kF u):c≠48:=by
 rintro rfl
 have hn:=Zdd (kF u) u
 rw [h,Nat.mod_eq_of_lt (Zr9 u),Za2,Nat.sub_self,Nat.zero_mul,Nat.zero_add] at hn
 have hlen:=Xu (kF u) u
 rw [h,List.length_cons] at hlen
 have hd:∀c∈r,48<=c/\c<=57:=fun x hx=>Zdc (kF u) u x (by rw [h];simp [hx])
 have hlt:=Zk3 r hd
 rw [hn] at hlt
 obtain ⟨m,hm⟩:∃m,r.length=m+1:=⟨r.length-1,by omega⟩
 rw [hm] at hlt
 have:=Znx m u hlt
 unfold kF at*
 omega
theorem Zek:∀(l:List Nat),(∀c∈l,c=48)->numL l=0
 | [],_=>rfl
 |c::r,h=>by
  rw [Za2,h c (by simp),Zek r fun x hx=>h x (by simp [hx])]
  simp
theorem Zde:∀(k:Nat),∀c∈dlM 0 k,c=48
 |0,c,h=>by cases h
 |k+1,c,h=>by
  rcases List.mem_append.1 h with h|h
  · exact Zde k c h
  · exact List.mem_singleton.1 h
def Uf (u:Nat):List Nat:=(dlM u (kF u)).take (kF u-2)++46::(dlM u (kF u)).drop (kF u-2)
def U8 (a:Int):List Nat:=(if a<0 then [45] else [])++Uf a.natAbs
def cutP:List Nat->List Nat×List Nat×Bool
 | []=>([],[],false)
 |c::r=>if c=46 then ([],r,true) else (c::(cutP r).1,(cutP r).2.1,(cutP r).2.2)
theorem Za3:∀(p q:List Nat),46∉p->cutP (p++46::q)=(p,q,true)
 | [],q,_=>by show (if (46:Nat)=46 then _ else _)=_;rw [if_pos rfl]
 |c::p,q,h=>by
  have h1:c≠46:=fun e=>h (by simp [e])
  have h2:46∉p:=fun e=>h (by simp [e])
  show (if c=46 then _ else (c::(cutP (p++46::q)).1,(cutP (p++46::q)).2.1,(cutP (p++46::q)).2.2))=_
  rw [if_neg h1,Za3 p q h2]
theorem Zk4:∀(s:List Nat),46∉s->cutP s=(s,[],false)
 | [],_=>rfl
 |c::r,h=>by
  have h1:c≠46:=fun e=>h (by simp [e])
  have h2:46∉r:=fun e=>h (by simp [e])
  show (if c=46 then _ else _)=_
  rw [if_neg h1,Zk4 r h2]
theorem Zk5:∀(s:List Nat),(cutP s).2.2=true->s=(cutP s).1++46::(cutP s).2.1
 | [],h=>by cases h
 |c::r,h=>by
  unfold cutP at h⊢
  split
  · rename_i hc;rw [hc];rfl
  · rename_i hc
    rw [if_neg hc] at h
    show c::r=c::((cutP r).1++46::(cutP r).2.1)
    rw [<-Zk5 r h]
def digB (c:Nat):Bool:=decide (48<=c)&&decide (c<=57)
theorem digB_all {l:List Nat}:l.all digB=true↔∀c∈l,48<=c/\c<=57:=by
 rw [List.all_eq_true]
 constructor
 · intro h c hc
   have:=h c hc
   unfold digB at this
   rw [Bool.and_eq_true,decide_eq_true_eq,decide_eq_true_eq] at this
   exact this
 · intro h c hc
   unfold digB
   rw [Bool.and_eq_true,decide_eq_true_eq,decide_eq_true_eq]
   exact h c hc
def okF (neg:Bool) (W C:List Nat):Prop:=C.length=2/\W≠ []/\(W.head? =some 48->W.length<=1)/\(W++C).all digB=true/\(neg=true->∃c∈W++C,c≠48)
open Classical in
def Zo (neg:Bool) (s:List Nat):Int×Int:=
 if (cutP s).2.2=true/\okF neg (cutP s).1 (cutP s).2.1 then
  (if numL ((cutP s).1++(cutP s).2.1)<=9007199254740992 then ((if neg=true then-(numL ((cutP s).1++(cutP s).2.1):Int) else numL ((cutP s).1++(cutP s).2.1)),0) else (0,3))
 else (0,4)
def Y0 (s:List Nat):Int×Int:=if s.head? =some 45 then Zo true s.tail else Zo false s
theorem Zcg (neg:Bool) (u:Nat) (hn:neg=true->u≠0):Zo neg (Uf u)=if u<=9007199254740992 then ((if neg=true then-(u:Int) else u),0) else (0,3):=by
 have hdig:=Zdc (kF u) u
 have hlen:=Xu (kF u) u
 have hk:=kF3 u
 have hnum:=Zdd (kF u) u
 rw [Nat.mod_eq_of_lt (Zr9 u)] at hnum
 have hhd:∀c r,dlM u (kF u)=c::r->3<kF u->c≠48:=fun c r h1 h2=>Zqj h1 h2
 have hW:46∉(dlM u (kF u)).take (kF u-2):=fun hm=>by
  have:=hdig 46 (List.mem_of_mem_take hm)
  omega
 unfold Zo Uf
 rw [Za3 _ _ hW]
 generalize dlM u (kF u)=D at*
 generalize kF u=k at*
 have hD:D.take (k-2)++D.drop (k-2)=D:=List.take_append_drop _ _
 have hok:okF neg (D.take (k-2)) (D.drop (k-2)):=by
  refine ⟨?_,?_,fun h=> ?_,?_,fun h=> ?_⟩
  · rw [List.length_drop];omega
  · intro h
    have:=congrArg List.length h
    rw [List.length_take,List.length_nil] at this
    omega
  · rw [List.length_take]
    cases D with
    |nil=>simp at hlen;omega
    |cons c r=>
     have hc:c=48:=by
      obtain ⟨m,hm⟩:∃m,k-2=m+1:=⟨k-3,by omega⟩
      rw [hm,List.take_succ_cons] at h
      exact Option.some.inj h
     by_cases h3:3<k
     · exact absurd hc (hhd c r rfl h3)
     · omega
  · rw [hD,digB_all];exact hdig
  · rw [hD]
    refine Classical.byContradiction fun hno=>hn h ?_
    rw [<-hnum]
    exact Zek D fun c hc=>Classical.byContradiction fun h=>hno ⟨c,hc,h⟩
 rw [if_pos ⟨rfl,hok⟩]
 show (if numL (D.take (k-2)++D.drop (k-2))<=_ then _ else _)=_
 rw [hD,hnum]
theorem Zk6 (u:Nat):(Uf u).head?≠some 45:=by
 have hdig:=Zdc (kF u) u
 have hlen:=Xu (kF u) u
 have hk:=kF3 u
 unfold Uf
 generalize dlM u (kF u)=D at*
 generalize kF u=k at*
 cases D with
 |nil=>simp at hlen;omega
 |cons c r=>
  obtain ⟨m,hm⟩:∃m,k-2=m+1:=⟨k-3,by omega⟩
  rw [hm,List.take_succ_cons]
  intro h
  have h:some c=some 45:=h
  have:=hdig c (by simp)
  cases h
  omega
theorem Zi4 (a:Int):Y0 (U8 a)=if a.natAbs<=9007199254740992 then (a,0) else (0,3):=by
 unfold Y0 U8
 by_cases ha:a<0
 · rw [if_pos ha]
   refine (if_pos rfl).trans ?_
   show Zo true (Uf a.natAbs)=_
   rw [Zcg _ _ fun _=>by omega,if_pos rfl,show-(a.natAbs:Int)=a by omega]
 · rw [if_neg ha,List.nil_append,if_neg (Zk6 _),Zcg _ _ fun h=>(by cases h),if_neg (show ¬false=true by decide),show (a.natAbs:Int)=a by omega]
theorem Zhg {neg:Bool} {s:List Nat} {c:Int} (h:Zo neg s=(c,0)):c.natAbs<=9007199254740992/\Uf c.natAbs=s/\(neg=true->c<0)/\(neg=false->0<=c):=by
 unfold Zo at h
 split at h
 case isFalse=>cases h
 rename_i hc
 obtain ⟨h1,h2,h3,h4,h5,h6⟩:=hc
 have hs:=Zk5 s h1
 generalize (cutP s).1=W at*
 generalize (cutP s).2.1=C at*
 split at h
 case isFalse=>cases h
 rename_i hle
 have h5:=digB_all.1 h5
 have hlen:(W++C).length=W.length+2:=by rw [List.length_append,h2]
 have hW:1<=W.length:=by cases W with|nil=>exact absurd rfl h3|cons c r=>simp
 have hk:kF (numL (W++C))=(W++C).length:=by
  refine Zs9 h5 (by omega) fun hh=> ?_
  cases W with
  |nil=>exact absurd rfl h3
  |cons c r=>
   have:=h4 hh
   omega
 have habs:c.natAbs=numL (W++C):=by
  have h:=congrArg Prod.fst h
  simp only at h
  rw [<-h]
  split<;>omega
 have hz:neg=true->numL (W++C)≠0:=by
  intro hn e
  obtain ⟨x,hx,hx2⟩:=h6 hn
  have:=Zf6 _ h5
  rw [e] at this
  rw [<-this] at hx
  exact hx2 (Zde _ x hx)
 refine ⟨by omega,?_,fun hn=> ?_,fun hn=> ?_⟩
 · unfold Uf
   rw [habs,hk,Zf6 _ h5,hlen,Nat.add_sub_cancel,List.take_left,List.drop_left]
   exact hs.symm
 · have h:=congrArg Prod.fst h
   simp only at h
   rw [if_pos hn] at h
   have:=hz hn
   omega
 · have h:=congrArg Prod.fst h
   simp only at h
   rw [if_neg (by rw [hn];decide)] at h
   omega
theorem Zi5 {s:List Nat} {c:Int} (h:Y0 s=(c,0)):c.natAbs<=9007199254740992/\U8 c=s:=by
 unfold Y0 at h
 unfold U8
 split at h
 · rename_i hh
   obtain ⟨h1,h2,h3,h4⟩:=Zhg h
   refine ⟨h1,?_⟩
   rw [if_pos (h3 rfl),h2]
   cases s with
   |nil=>cases hh
   |cons x r=>cases hh;rfl
 · obtain ⟨h1,h2,h3,h4⟩:=Zhg h
   refine ⟨h1,?_⟩
   rw [if_neg (by have:=h4 rfl;omega),h2]
   rfl
theorem Zk7 (s:List Nat):(Y0 s).2=0\/((Y0 s).1=0/\((Y0 s).2=4\/(Y0 s).2=3)):=by
 have hR:∀neg s,(Zo neg s).2=0\/((Zo neg s).1=0/\((Zo neg s).2=4\/(Zo neg s).2=3)):=by
  intro neg s
  unfold Zo
  split
  · split
    · exact .inl rfl
    · exact .inr ⟨rfl,.inr rfl⟩
  · exact .inr ⟨rfl,.inl rfl⟩
 unfold Y0
 split<;>exact hR _ _
end
section
open Go
def ndZ (u:Int) (k:Res thy->Prop):List Int->Prop
 | []=>True
 |j::r=>((Lib.nDigits u.toNat:Int)=j->k (quiet [] (.int true .i64 j)))/\ndZ u k r
def SndZ:Sum thy:=fun args _ _ k=>
 match args with
 | [.int _ .u64 u]=>(1<=u/\u<10000000000000000000)/\ndZ u k [1,2,3,4,5,6,7,8,9,10,11,12,13,14,15,16,17,18,19]
 |_=>False
def SsmZ:Sum thy:=Wa (dA1 dN) (fun x=>0<=x.1/\x.1<100) (fun x=>(Lib.decDigits x.1.toNat).map UInt8.toNat) fun y=> .str false y
def FitZ:Fns thy:=addS (addS F0 82 SndZ) 81 SsmZ
def smZ:List Nat:= [48,48,48,49,48,50,48,51,48,52,48,53,48,54,48,55,48,56,48,57,49,48,49,49,49,50,49,51,49,52,49,53,49,54,49,55,49,56,49,57,50,48,50,49,50,50,50,51,50,52,50,53,50,54,50,55,50,56,50,57,51,48,51,49,51,50,51,51,51,52,51,53,51,54,51,55,51,56,51,57,52,48,52,49,52,50,52,51,52,52,52,53,52,54,52,55,52,56,52,57,53,48,53,49,53,50,53,51,53,52,53,53,53,54,53,55,53,56,53,57,54,48,54,49,54,50,54,51,54,52,54,53,54,54,54,55,54,56,54,57,55,48,55,49,55,50,55,51,55,52,55,53,55,54,55,55,55,56,55,57,56,48,56,49,56,50,56,51,56,52,56,53,56,54,56,55,56,56,56,57,57,48,57,49,57,50,57,51,57,52,57,53,57,54,57,55,57,56,57,57]
def pZ (b:Int) (K:Nat->Nat->Prop):Prop:=0<=wr .u32 (b+1)/\wr .u32 (b+1)+1<=(smZ.length:Int)/\∀x:Nat,smZ[(wr .u32 (b+1)).toNat]? =some x->0<=b/\b+1<=(smZ.length:Int)/\∀y:Nat,smZ[b.toNat]? =some y->K (Int.toNat (x:Int)%256) (Int.toNat (y:Int)%256)
def e8Z (u:Int) (L:List Nat) (K:List Nat->Prop):Prop:=
 pZ (wr .u32 (Int.tmod (Int.tmod (wr .u32 (Int.tmod u 100000000)) 10000) 100*2)) fun a b=>
 pZ (wr .u32 (wr .u32 (Int.tdiv (Int.tmod (wr .u32 (Int.tmod u 100000000)) 10000) 100)*2)) fun c d=>
 pZ (wr .u32 (Int.tmod (wr .u32 (Int.tdiv (wr .u32 (Int.tmod u 100000000)) 10000)) 100*2)) fun e f=>
 pZ (wr .u32 (wr .u32 (Int.tdiv (wr .u32 (Int.tdiv (wr .u32 (Int.tmod u 100000000)) 10000)) 100)*2)) fun g h=>K (h::g::f::e::d::c::b::a::L)
def e4Z (v:Int) (L:List Nat) (K:List Nat->Prop):Prop:=
 pZ (wr .u32 (Int.tmod (Int.tmod v 10000) 100*2)) fun a b=>
 pZ (wr .u32 (wr .u32 (Int.tdiv (Int.tmod v 10000) 100)*2)) fun c d=>K (d::c::b::a::L)
def e2Z (v:Int) (L:List Nat) (K:List Nat->Prop):Prop:=pZ (wr .u32 (Int.tmod v 100*2)) fun a b=>K (b::a::L)
def e1Z (v:Int) (L:List Nat) (K:List Nat->Prop):Prop:=K (Int.toNat (wr .u8 (wr .u32 (48+v)))%256::L)
def loZ:Nat->Int->List Nat->(List Nat->Prop)->Prop
 |0,_,L,K=>K L
 |1,v,L,K=>e1Z v L K
 |2,v,L,K=>e2Z v L K
 |3,v,L,K=>e2Z v L fun L=>e1Z (wr .u32 (Int.tdiv v 100)) L K
 |4,v,L,K=>e4Z v L K
 |5,v,L,K=>e4Z v L fun L=>e1Z (wr .u32 (Int.tdiv v 10000)) L K
 |6,v,L,K=>e4Z v L fun L=>e2Z (wr .u32 (Int.tdiv v 10000)) L K
 |7,v,L,K=>e4Z v L fun L=>e2Z (wr .u32 (Int.tdiv v 10000)) L fun L=>e1Z (wr .u32 (Int.tdiv (wr .u32 (Int.tdiv v 10000)) 100)) L K
 |_,_,_,_=>False
def hiM (j:Nat) (u:Int) (L:List Nat) (K:List Nat->Prop):Prop:=
 if j<8 then loZ j (wr .u32 u) L K
 else e8Z u L fun L=>if j<16 then loZ (j-8) (wr .u32 (wr .u64 (Int.tdiv u 100000000))) L K
  else e8Z (wr .u64 (Int.tdiv u 100000000)) L fun L=>loZ (j-16) (wr .u32 (wr .u64 (Int.tdiv (wr .u64 (Int.tdiv u 100000000)) 100000000))) L K
def allM (u:Int) (v:List Nat):List Nat->Prop
 | []=>True
 |j::r=>((Lib.nDigits u.toNat:Int)=j->hiM j u [] fun L=>L=v)/\allM u v r
theorem Zny (u:Int) (v:List Nat):Yl E FitZ (vc E FitZ 2000) 37 [.int false .u64 u,.int true .i64 10] hp0 0 (fun r=>ret E (patch hp0 0 r) r.v (.str false v))=(
 (decide (u<100)=true->(0<=wr .i64 u/\wr .i64 u+1<=100)/\∀(y:List Nat),y=(Lib.decDigits (wr .i64 u).toNat).map UInt8.toNat->y=v)/\(decide (u<100)=false->(1<=u/\u+1<=10000000000000000000)/\allM u v [1,2,3,4,5,6,7,8,9,10,11,12,13,14,15,16,17,18,19])):=by kernel_rfl
theorem Zk8 {u:Int} {k:Res thy->Prop}:∀{l:List Int},ndZ u k l->∀j∈l,(Lib.nDigits u.toNat:Int)=j->k (quiet [] (.int true .i64 j))
 | [],_,j,hj,_=>by cases hj
 |x::r,h,j,hj,e=>by
  rcases List.mem_cons.1 hj with rfl|hj
  · exact h.1 e
  · exact Zk8 h.2 j hj e
theorem Zk9:∀(k u:Nat),u<10^(k+1)->Lib.nDigits u<=k+1
 |0,u,h=>by rw [Lib.nDigits_small (by simpa using h)];exact Nat.le_refl _
 |k+1,u,h=>by
  by_cases h1:u<10
  · rw [Lib.nDigits_small h1];omega
  · rw [Lib.nDigits_big h1]
    rw [Nat.pow_succ] at h
    have:=Zk9 k (u/10) (by omega)
    omega
theorem in19 (d:Nat) (h1:1<=d) (h2:d<=19):(d:Int)∈ [(1:Int),2,3,4,5,6,7,8,9,10,11,12,13,14,15,16,17,18,19]:=by
 have:d=1\/d=2\/d=3\/d=4\/d=5\/d=6\/d=7\/d=8\/d=9\/d=10\/d=11\/d=12\/d=13\/d=14\/d=15\/d=16\/d=17\/d=18\/d=19:=by omega
 rcases this with rfl|rfl|rfl|rfl|rfl|rfl|rfl|rfl|rfl|rfl|rfl|rfl|rfl|rfl|rfl|rfl|rfl|rfl|rfl<;>decide
theorem Zqk:SumOk E 82 SndZ:=by
 have hS:SumOk E 82 (Wa (dA1 dU64) (fun x=>1<=x.1/\x.1<10000000000000000000) (fun x=>Lib.nDigits x.1.toNat) fun (y:Nat)=> .int true .i64 y):=Zy E_ok (Zr rfl) fun x h=>by
  have:=Zq2 x.1.toNat (by omega) (by omega)
  rw [show ((x.1.toNat:Nat):Int)=x.1 by omega] at this
  intro g w vals hI hd
  refine (this g w vals hI hd).mono ?_
  rintro en w' ⟨u,he,g',h1,h2,h3⟩
  cases h3
  exact ⟨_,he,g',h1,h2,.int _ _ _⟩
 refine ⟨hS.good,fun args h i k hD hk=> ?_⟩
 unfold SndZ at hk
 split at hk
 case h_2=>exact hk.elim
 rename_i l u
 obtain ⟨⟨h1,h2⟩,hk⟩:=hk
 refine hS.ok _ h i k hD ⟨⟨h1,h2⟩,fun y hy=> ?_⟩
 subst hy
 have hn:=Zk9 18 u.toNat (by show u.toNat<10000000000000000000;omega)
 have hp:=Lib.nDigits_pos u.toNat
 refine Zk8 hk _ (in19 _ hp hn) rfl
theorem Zql:SumOk E 81 SsmZ:=Zy E_ok (Zr rfl) fun x h=>by
 have:=Zjd x.1.toNat (by omega)
 rw [show ((x.1.toNat:Nat):Int)=x.1 by omega] at this
 exact this
theorem Zqm:FnsOk E FitZ:=Zu (Zu F0_ok Zqk) Zql
def smVZ (i:Nat):Nat:=if i%2=0 then 48+i/2/10 else 48+i/2%10
theorem Zla:∀i,i<200->smZ[i]? =some (smVZ i):=by decide+kernel
theorem Zqn:smZ.length=200:=by decide+kernel
theorem Zta (x:Int):wr .u64 x=x%18446744073709551616:=rfl
theorem U9 (x:Int):wr .u32 x=x%4294967296:=rfl
theorem wuZ8 (x:Int):wr .u8 x=x%256:=rfl
theorem Zf7 {m:Nat} (hm:m<100) {b:Int} (hb:b=((m*2:Nat):Int)) {K:Nat->Nat->Prop} (h:K (48+m%10) (48+m/10)):pZ b K:=by
 have e1:wr .u32 (b+1)=((m*2+1:Nat):Int):=by rw [U9];omega
 unfold pZ
 rw [e1,Zqn,Int.toNat_natCast]
 refine ⟨by omega,by omega,fun x hx=>⟨by omega,by omega,fun y hy=> ?_⟩⟩
 rw [Zla _ (by omega)] at hx
 rw [hb,Int.toNat_natCast,Zla _ (by omega)] at hy
 cases hx
 cases hy
 rw [Int.toNat_natCast,Int.toNat_natCast]
 have a1:smVZ (m*2+1)%256=48+m%10:=by unfold smVZ;rw [if_neg (by omega)];omega
 have a2:smVZ (m*2)%256=48+m/10:=by unfold smVZ;rw [if_pos (by omega)];omega
 rw [a1,a2]
 exact h
def dgZ (u j:Nat):Nat:=48+u/10^j%10
theorem Zpq (u:Nat) {L:List Nat} {K:List Nat->Prop} (h:K (dgZ u 7::dgZ u 6::dgZ u 5::dgZ u 4::dgZ u 3::dgZ u 2::dgZ u 1::dgZ u 0::L)):e8Z (u:Int) L K:=by
 refine Zf7 (m:=u%100000000%10000%100) (by omega) (by simp (disch:=omega) only [U9,Int.tmod_eq_emod_of_nonneg,Int.tdiv_eq_ediv_of_nonneg];omega) ?_
 refine Zf7 (m:=u%100000000%10000/100) (by omega) (by simp (disch:=omega) only [U9,Int.tmod_eq_emod_of_nonneg,Int.tdiv_eq_ediv_of_nonneg];omega) ?_
 refine Zf7 (m:=u%100000000/10000%100) (by omega) (by simp (disch:=omega) only [U9,Int.tmod_eq_emod_of_nonneg,Int.tdiv_eq_ediv_of_nonneg];omega) ?_
 refine Zf7 (m:=u%100000000/10000/100) (by omega) (by simp (disch:=omega) only [U9,Int.tmod_eq_emod_of_nonneg,Int.tdiv_eq_ediv_of_nonneg];omega) ?_
 refine Eq.mp (congrArg K ?_) h
 simp only [dgZ,List.cons.injEq,and_true,Nat.reducePow]
 repeat' apply And.intro
 all_goals omega
theorem Zhh (v:Nat) {L:List Nat} {K:List Nat->Prop} (h:K (dgZ v 3::dgZ v 2::dgZ v 1::dgZ v 0::L)):e4Z (v:Int) L K:=by
 refine Zf7 (m:=v%10000%100) (by omega) (by simp (disch:=omega) only [U9,Int.tmod_eq_emod_of_nonneg,Int.tdiv_eq_ediv_of_nonneg];omega) ?_
 refine Zf7 (m:=v%10000/100) (by omega) (by simp (disch:=omega) only [U9,Int.tmod_eq_emod_of_nonneg,Int.tdiv_eq_ediv_of_nonneg];omega) ?_
 refine Eq.mp (congrArg K ?_) h
 simp only [dgZ,List.cons.injEq,and_true,Nat.reducePow]
 repeat' apply And.intro
 all_goals omega
theorem Zhi (v:Nat) {L:List Nat} {K:List Nat->Prop} (h:K (dgZ v 1::dgZ v 0::L)):e2Z (v:Int) L K:=by
 refine Zf7 (m:=v%100) (by omega) (by simp (disch:=omega) only [U9,Int.tmod_eq_emod_of_nonneg,Int.tdiv_eq_ediv_of_nonneg];omega) ?_
 refine Eq.mp (congrArg K ?_) h
 simp only [dgZ,List.cons.injEq,and_true,Nat.reducePow]
 repeat' apply And.intro
 all_goals omega
theorem Zhj (v:Nat) (hv:v<10) {L:List Nat} {K:List Nat->Prop} (h:K (dgZ v 0::L)):e1Z (v:Int) L K:=by
 have e:Int.toNat (wr .u8 (wr .u32 (48+(v:Int))))%256=dgZ v 0:=by unfold dgZ;rw [wuZ8,U9];simp only [Nat.reducePow];omega
 unfold e1Z
 rw [e]
 exact h
theorem q2Z (v:Nat) (hv:v<10000):wr .u32 (Int.tdiv (v:Int) 100)=((v/100:Nat):Int):=by simp (disch:=omega) only [U9,Int.tdiv_eq_ediv_of_nonneg];omega
theorem q4Z (v:Nat) (hv:v<4294967296):wr .u32 (Int.tdiv (v:Int) 10000)=((v/10000:Nat):Int):=by simp (disch:=omega) only [U9,Int.tdiv_eq_ediv_of_nonneg];omega
def dlZ (u j:Nat):List Nat:=(List.range j).map fun t=>dgZ u (j-1-t)
theorem Zlb:∀(j:Nat),j<=7->∀(v:Nat),v<10^j->∀{L:List Nat} {K:List Nat->Prop},K (dlZ v j++L)->loZ j (v:Int) L K
 |0,_,v,_,L,K,h=>h
 |1,_,v,hv,L,K,h=>Zhj v (by simpa using hv) h
 |2,_,v,_,L,K,h=>Zhi v h
 |3,_,v,hv,L,K,h=>by
  show e2Z (v:Int) L fun L=>e1Z (wr .u32 (Int.tdiv (v:Int) 100)) L K
  refine Zhi v ?_
  rw [q2Z v (by simp only [Nat.reducePow] at hv;omega)]
  refine Zhj _ (by simp only [Nat.reducePow] at hv;omega) (Eq.mp (congrArg K ?_) h)
  simp only [dlZ,dgZ,List.range,List.range.loop,List.map_cons,List.map_nil,List.cons_append,List.nil_append,List.cons.injEq,and_true,Nat.reduceSub,Nat.reducePow]
  repeat' apply And.intro
  all_goals omega
 |4,_,v,_,L,K,h=>Zhh v h
 |5,_,v,hv,L,K,h=>by
  show e4Z (v:Int) L fun L=>e1Z (wr .u32 (Int.tdiv (v:Int) 10000)) L K
  refine Zhh v ?_
  rw [q4Z v (by simp only [Nat.reducePow] at hv;omega)]
  refine Zhj _ (by simp only [Nat.reducePow] at hv;omega) (Eq.mp (congrArg K ?_) h)
  simp only [dlZ,dgZ,List.range,List.range.loop,List.map_cons,List.map_nil,List.cons_append,List.nil_append,List.cons.injEq,and_true,Nat.reduceSub,Nat.reducePow]
  repeat' apply And.intro
  all_goals omega
 |6,_,v,hv,L,K,h=>by
  show e4Z (v:Int) L fun L=>e2Z (wr .u32 (Int.tdiv (v:Int) 10000)) L K
  refine Zhh v ?_
  rw [q4Z v (by simp only [Nat.reducePow] at hv;omega)]
  refine Zhi _ (Eq.mp (congrArg K ?_) h)
  simp only [dlZ,dgZ,List.range,List.range.loop,List.map_cons,List.map_nil,List.cons_append,List.nil_append,List.cons.injEq,and_true,Nat.reduceSub,Nat.reducePow]
  repeat' apply And.intro
  all_goals omega
 |7,_,v,hv,L,K,h=>by
  show e4Z (v:Int) L fun L=>e2Z (wr .u32 (Int.tdiv (v:Int) 10000)) L fun L=>e1Z (wr .u32 (Int.tdiv (wr .u32 (Int.tdiv (v:Int) 10000)) 100)) L K
  refine Zhh v ?_
  rw [q4Z v (by simp only [Nat.reducePow] at hv;omega)]
  refine Zhi _ ?_
  rw [q2Z _ (by simp only [Nat.reducePow] at hv;omega)]
  refine Zhj _ (by simp only [Nat.reducePow] at hv;omega) (Eq.mp (congrArg K ?_) h)
  simp only [dlZ,dgZ,List.range,List.range.loop,List.map_cons,List.map_nil,List.cons_append,List.nil_append,List.cons.injEq,and_true,Nat.reduceSub,Nat.reducePow]
  repeat' apply And.intro
  all_goals omega
 |j+8,hj,_,_,_,_,_=>by omega
theorem Zsa (u j:Nat):dlZ u (j+8)=dlZ (u/100000000) j++ [dgZ u 7,dgZ u 6,dgZ u 5,dgZ u 4,dgZ u 3,dgZ u 2,dgZ u 1,dgZ u 0]:=by
 unfold dlZ
 rw [List.range_add,List.map_append]
 congr 1
 · refine List.map_congr_left fun t ht=> ?_
   have ht:=List.mem_range.1 ht
   unfold dgZ
   rw [Nat.div_div_eq_div_mul,show (100000000:Nat)=10^8 by decide,<-Nat.pow_add,show 8+(j-1-t)=j+8-1-t by omega]
 · simp only [List.range,List.range.loop,List.map_cons,List.map_nil]
   rw [show j+8-1-(j+0)=7 by omega,show j+8-1-(j+1)=6 by omega,show j+8-1-(j+2)=5 by omega,show j+8-1-(j+3)=4 by omega,show j+8-1-(j+4)=3 by omega,show j+8-1-(j+5)=2 by omega,show j+8-1-(j+6)=1 by omega,show j+8-1-(j+7)=0 by omega]
theorem Zsb (j u:Nat) (hj:j<=19) (hu:u<10^j) (hu2:u<18446744073709551616) {K:List Nat->Prop} (h:K (dlZ u j)):hiM j (u:Int) [] K:=by
 unfold hiM
 have e64:∀u:Nat,u<18446744073709551616->wr .u64 (Int.tdiv (u:Int) 100000000)=((u/100000000:Nat):Int):=fun u hu2=>by simp (disch:=omega) only [Zta,Int.tdiv_eq_ediv_of_nonneg];omega
 have e32:∀u:Nat,u<10000000->wr .u32 (u:Int)=u:=fun u hu=>by rw [U9];omega
 split
 · rename_i h8
   have h7:u<10000000:=Nat.lt_of_lt_of_le hu (Nat.pow_le_pow_right (by decide) (by omega:j<=7))
   rw [e32 u h7]
   exact Zlb j (by omega) u hu (by rw [List.append_nil];exact h)
 · rename_i h8
   obtain ⟨k,rfl⟩:∃k,j=k+8:=⟨j-8,by omega⟩
   have hd:u/100000000<10^k:=by
    rw [Nat.pow_add] at hu
    exact Nat.div_lt_of_lt_mul (by rw [Nat.mul_comm];exact hu)
   rw [Zsa] at h
   refine Zpq u ?_
   rw [e64 u hu2]
   split
   · rename_i h16
     rw [Nat.add_sub_cancel]
     have h7:u/100000000<10000000:=Nat.lt_of_lt_of_le hd (Nat.pow_le_pow_right (by decide) (by omega:k<=7))
     rw [e32 _ h7]
     exact Zlb k (by omega) _ hd h
   · obtain ⟨m,rfl⟩:∃m,k=m+8:=⟨k-8,by omega⟩
     have hd2:u/100000000/100000000<10^m:=by
      rw [Nat.pow_add] at hd
      exact Nat.div_lt_of_lt_mul (by rw [Nat.mul_comm];exact hd)
     rw [Zsa,List.append_assoc] at h
     refine Zpq (u/100000000) ?_
     have h7:u/100000000/100000000<10000000:=Nat.lt_of_lt_of_le hd2 (Nat.pow_le_pow_right (by decide) (by omega:m<=7))
     rw [e64 _ (by omega),e32 _ h7,show m+8+8-16=m by omega]
     exact Zlb m (by omega) _ hd2 h
theorem Zel (u k:Nat) (h:Lib.nDigits u=k):(Lib.decDigits u).map UInt8.toNat=dlZ u k:=by
 rw [Lib.decDigits_eq,List.map_map,h]
 refine List.map_congr_left fun t _=> ?_
 show (Lib.dg u (k-1-t)).toNat=_
 unfold Lib.dg dgZ
 rw [UInt8.toNat_ofNat']
 omega
theorem Zlc {u:Int} {v:List Nat}:∀{l:List Nat},(∀j∈l,Lib.nDigits u.toNat=j->hiM j u [] fun L=>L=v)->allM u v l
 | [],_=>trivial
 |j::r,h=>⟨fun e=>h j List.mem_cons_self (Int.ofNat.inj e),Zlc fun i hi=>h i (List.mem_cons_of_mem _ hi)⟩
theorem Zqo (u:Nat) (hu:u<10000000000000000000):PureC E 37 [.int false .u64 (u:Int),.int true .i64 10] (.str false ((Lib.decDigits u).map UInt8.toNat)):=by
 refine Ze E_ok (Zn E_ok Zqm 2000) ?_
 rw [Zny]
 refine ⟨fun h=> ?_,fun h=>⟨?_,Zlc fun j _ hj=> ?_⟩⟩
 · have h:=of_decide_eq_true h
   have e:wr .i64 (u:Int)=u:=wr64 (by omega) (by omega)
   rw [e]
   exact ⟨⟨by omega,by omega⟩,fun y hy=>hy⟩
 · have h:=of_decide_eq_false h
   exact ⟨by omega,by omega⟩
 · rw [Int.toNat_natCast] at hj
   have hp:=Lib.lt_pow_nDigits u
   have hle:=Zk9 18 u hu
   rw [hj] at hp hle
   exact Zsb j u hle hp (by omega) (Zel u j hj).symm
theorem Zsc:∀(k u:Nat),dlZ u k=dlM u k
 |0,u=>rfl
 |k+1,u=>by
  show dlZ u (k+1)=dlM (u/10) k++ [48+u%10]
  rw [<-Zsc k (u/10)]
  unfold dlZ
  rw [List.range_succ,List.map_append]
  congr 1
  · refine List.map_congr_left fun t ht=> ?_
    have ht:=List.mem_range.1 ht
    unfold dgZ
    rw [Nat.div_div_eq_div_mul,show (10:Nat)*10^(k-1-t)=10^(k+1-1-t) by rw [Nat.mul_comm,<-Nat.pow_succ];congr 1;omega]
  · simp [dgZ]
def Sfu:Sum thy:=Wa (dL2 dU64 dN) (fun x=>x.2.1=10/\0<=x.1/\x.1<10000000000000000000) (fun x=>dlM x.1.toNat (Lib.nDigits x.1.toNat)) fun y=> .str false y
theorem Zsd:SumOk E 37 Sfu:=Zy E_ok (Zr (f:=37) rfl) fun x h=>by
 obtain ⟨u,b,_⟩:=x
 obtain ⟨rfl,h1,h2⟩:b=10/\0<=u/\u<10000000000000000000:=h
 have:=Zqo u.toNat (by omega)
 rw [show ((u.toNat:Nat):Int)=u by omega,Zel _ _ rfl,Zsc] at this
 intro g w vals hI hd
 refine this g w vals hI ⟨hd.1,fun j sv v k1 k2=> ?_⟩
 match j,k1 with
 |0,k1=>exact hd.2 0 _ v (by exact k1) k2
 |1,k1=>
  cases k1
  have:=hd.2 1 _ v rfl k2
  cases this
  exact .int _ _ _
end
section
open Go Go.RowKit
theorem Zmc (s:List Nat) (a b:List Nat) (f:Bool):Yl E F0 (vc E F0 400) 33 [.str false s,.str true [46]] hp0 0 (fun r=>ret E (patch hp0 0 r) r.v (.tup [.str false a,.str false b,.bool false f]))=(
(([(46:Nat)]==s)=true->((0:Int)<=(0:Int)/\(0:Int)<=(↑(List.length s):Int))/\((0:Int)<=(1:Int)/\(1:Int)<=(↑(List.length s):Int))/\List.take (Int.toNat (0:Int)) s=a/\List.drop (Int.toNat (1:Int)) s=b/\true=f/\True)/\(([(46:Nat)]==s)=false->(decide (idxL (Int.toNat (46:Int)%(256:Nat)) (0:Nat) s>=(0:Int))=true->((0:Int)<=idxL (Int.toNat (46:Int)%(256:Nat)) (0:Nat) s/\idxL (Int.toNat (46:Int)%(256:Nat)) (0:Nat) s<=(↑(List.length s):Int))/\((0:Int)<=wr IntKind.i64 (idxL (Int.toNat (46:Int)%(256:Nat)) (0:Nat) s+(1:Int))/\wr IntKind.i64 (idxL (Int.toNat (46:Int)%(256:Nat)) (0:Nat) s+(1:Int))<=(↑(List.length s):Int))/\List.take (Int.toNat (idxL (Int.toNat (46:Int)%(256:Nat)) (0:Nat) s)) s=a/\List.drop (Int.toNat (wr IntKind.i64 (idxL (Int.toNat (46:Int)%(256:Nat)) (0:Nat) s+(1:Int)))) s=b/\true=f/\True)/\(decide (idxL (Int.toNat (46:Int)%(256:Nat)) (0:Nat) s>=(0:Int))=false->s=a/\ []=b/\false=f/\True))):=by kernel_rfl
theorem Zmd (s:List Nat) (a:List Nat) (f:Bool):Yl E F0 (vc E F0 400) 32 [.str false s,.str true [45]] hp0 0 (fun r=>ret E (patch hp0 0 r) r.v (.tup [.str false a,.bool false f]))=(
(decide ((↑(List.length s):Int)>=(1:Int))=true->((0:Int)<=(1:Int)/\(1:Int)<=(↑(List.length s):Int))/\((List.take (Int.toNat (1:Int)) s== [(45:Nat)])=true->((0:Int)<=(1:Int)/\(1:Int)<=(↑(List.length s):Int))/\List.drop (Int.toNat (1:Int)) s=a/\true=f/\True)/\((List.take (Int.toNat (1:Int)) s== [(45:Nat)])=false->s=a/\false=f/\True))/\(decide ((↑(List.length s):Int)>=(1:Int))=false->s=a/\false=f/\True)):=by kernel_rfl
theorem Zme (v:List Nat):Yl E F0 (vc E F0 400) 38 [.str true [48],.int true .i64 1] hp0 0 (fun r=>ret E (patch hp0 0 r) r.v (.str false v))=(
[(48:Nat)]=v):=by kernel_rfl
theorem Zmf (v:List Nat):Yl E F0 (vc E F0 400) 38 [.str true [48],.int true .i64 2] hp0 0 (fun r=>ret E (patch hp0 0 r) r.v (.str false v))=(
∃(Q:Bool->Prop),Q false/\(Q true->False)/\(Q false-> [(48:Nat),(48:Nat)]=v)):=by kernel_rfl
end
section
open Go Go.RowKit
def W3 (n:Nat) (l:List UInt8):Nat:=l.foldl (fun n c=>n*10+(c.toNat-48)) n
theorem Zhp:∀(l:List UInt8) (n:Nat),n<=W3 n l
 | [],n=>Nat.le_refl _
 |c::r,n=>by
  have:=Zhp r (n*10+(c.toNat-48))
  show n<=W3 (n*10+(c.toNat-48)) r
  omega
theorem Zev:∀(l:List UInt8) (n:Nat),W3 n l=(l.map UInt8.toNat).foldl (fun n c=>n*10+(c-48)) n
 | [],n=>rfl
 |c::r,n=>Zev r _
def puR (m:Nat):Value:=if m<=9223372036854775807 then .tuple #[.int .u64 m,.nilIface] else .tuple #[.int .u64 9223372036854775807,.iface 103 (.int .i64 1)]
theorem Zlq {n:Nat} {l:List UInt8} (h:9223372036854775807<n):puR (W3 n l)= .tuple #[.int .u64 9223372036854775807,.iface 103 (.int .i64 1)]:=by
 have:=Zhp l n
 unfold puR
 rw [if_neg (by omega)]
set_option maxHeartbeats 32000000 in
set_option maxRecDepth 100000 in
theorem Zqz (t:ByteArray) (hne:t.size≠0) (hmax:t.size<=9223372036854775806) (hdg:∀c∈t.data.toList,48<=c.toNat/\c.toNat<=57) (w:World):
 Calls Tryz.prog 57 #[.string t,.int .i64 10,.int .i64 63] w fun e w'=>e= .returned (puR (W3 0 t.data.toList))/\w'=Lib.bytesWorld w 5 t:=by
 have hemp:t.toList.isEmpty=false:=by
  rw [<-decide_eq_emptyBytes]
  exact decide_eq_false (fun h=>hne (by rw [h];rfl))
 have hcv:=Lib.run_convert_string_bytes (P:=Tryz.prog) w 9 69 5 t (u:= .string) Tryz.underlying9 Tryz.underlying69 Tryz.underlying5
 have hB:∀j,j<t.size->(Lib.bytesWorld w 5 t).cell? ⟨w.heap.size,j,none⟩=some (.int .u8 (t.data.toList.getD j 0).toNat):=fun j hj=>Lib.bytesWorld_cell w 5 t j hj
 obtain ⟨W1,hW1⟩:∃W1,W1=Lib.bytesWorld w 5 t:=⟨_,rfl⟩
 rw [<-hW1] at hcv hB⊢
 clear hW1
 obtain ⟨bs,hL⟩:∃bs,bs=t.data.toList:=⟨_,rfl⟩
 have hLn:bs.length=t.size:=by rw [hL,Lib.size_eq]
 rw [<-hL] at hB hdg⊢
 clear hL
 have hmv:IntKind.u64.wrap (IntKind.u64.wrap 9223372036854775808-1)=9223372036854775807:=by
  rw [IntKind.wrap_u64,IntKind.wrap_u64]
  decide
 go_enter Tryz.func57,Tryz.ntmps57
 go_wp2
 go_loop [12,13,101] (fun vu vn vi=>∃(k n:Nat) (a:Int),vu= .bool false/\vn= .int .u64 a/\vi= .int .i64 k/\k<=t.size/\Hid (a=(n:Int)/\n<=9223372036854775807/\W3 0 bs=W3 n (bs.drop k)))
  (fun _ _ vi=>t.size-(intOf vi).toNat)
 case atStart=>exact ⟨0,0,0,rfl,rfl,rfl,by omega,rfl,by omega,rfl⟩
 case round=>
  obtain ⟨k,n,a,rfl,rfl,rfl,hk,hh⟩:=hrel
  obtain ⟨ha,hn,hG⟩:=hh.out
  clear hh
  have a0:0<=a:=by omega
  have a1:a<=9223372036854775807:=by omega
  by_cases hkn:k<t.size
  · have hc:=hB k hkn
    have hdrop:bs.drop k=bs[k]'(by omega)::bs.drop (k+1):=List.drop_eq_getElem_cons (by omega)
    have hget:bs.getD k 0=bs[k]'(by omega):=by simp [List.getD,gB9 (show k<bs.length by omega)]
    have hcd:=hdg (bs[k]'(by omega)) (List.getElem_mem _)
    rw [hdrop] at hG
    rw [hget] at hc
    generalize bs[k]'(by omega)=c at hc hG hcd
    obtain ⟨hd0,hd1⟩:=hcd
    have hc256:c.toNat<256:=c.toNat_lt
    clear hB hdrop hget
    have hF:W3 n (c::bs.drop (k+1))=W3 (n*10+(c.toNat-48)) (bs.drop (k+1)):=rfl
    rw [hF] at hG
    clear hF
    by_cases hcut:1844674407370955162<=n
    · have hR:puR (W3 0 bs)= .tuple #[.int .u64 9223372036854775807,.iface 103 (.int .i64 1)]:=by rw [hG];exact Zlq (by omega)
      have icut:1844674407370955162<=a:=by omega
      clear hG ha hn hcut
      go_wp2
      go_ret2
      exact ⟨by first|rfl|(rw [hR]),rfl⟩
    · have icut:a<1844674407370955162:=by omega
      by_cases hov:9223372036854775807<n*10+(c.toNat-48)
      · have hR:puR (W3 0 bs)= .tuple #[.int .u64 9223372036854775807,.iface 103 (.int .i64 1)]:=by rw [hG];exact Zlq hov
        have iov:9223372036854775807<a*10+((c.toNat:Int)-48):=by omega
        clear hG ha hn hcut hov
        by_cases hw:a*10+((c.toNat:Int)-48)<18446744073709551616
        · have hw2:IntKind.u64.wrap (a*10+((c.toNat:Int)-48))=a*10+((c.toNat:Int)-48):=by rw [IntKind.wrap_u64];omega
          go_wp2
          go_ret2
          exact ⟨by first|rfl|(rw [hR]),rfl⟩
        · have hw2:IntKind.u64.wrap (a*10+((c.toNat:Int)-48))=a*10+((c.toNat:Int)-48)-18446744073709551616:=by rw [IntKind.wrap_u64];omega
          go_wp2
          go_ret2
          exact ⟨by first|rfl|(rw [hR]),rfl⟩
      · have HN:Hid (a*10+((c.toNat:Int)-48)=((n*10+(c.toNat-48):Nat):Int)/\n*10+(c.toNat-48)<=9223372036854775807/\W3 0 bs=W3 (n*10+(c.toNat-48)) (bs.drop (k+1))):=⟨by omega,by omega,hG⟩
        have iov:a*10+((c.toNat:Int)-48)<=9223372036854775807:=by omega
        clear hG ha hn hcut hov
        go_wp2
        refine ⟨⟨k+1,n*10+(c.toNat-48),a*10+((c.toNat:Int)-48),rfl,(by first|rfl|(congr 1;omega)),(by first|rfl|(congr 1;omega)),by omega,HN⟩,by simp [intOf];omega⟩
  · have hkk:k=t.size:=by omega
    subst hkk
    have hF:W3 n (bs.drop t.size)=n:=by rw [List.drop_eq_nil_of_le (by omega)];rfl
    rw [hF] at hG
    have hR:puR (W3 0 bs)= .tuple #[.int .u64 n,.nilIface]:=by rw [hG];unfold puR;rw [if_pos hn]
    subst ha
    clear hG hF hn
    go_wp2
    go_ret2
    exact ⟨by first|rfl|(rw [hR]),rfl⟩
end
section
open Go
theorem Ux {f:FuncId} {args:List (SV thy)} {v:SV thy} (h:∀(g:GH) (w:World) (vals:Array Value),Inv E w.heap.size σ0 hp0 g w->DenL E σ0 g args vals.toList->Calls E.P f vals w fun en w'=>∃u,en= .returned u/\Den E σ0 g v u/\Ext w w'):PureC E f args v:=by
 intro g w vals hI hd
 refine (h g w vals hI hd).mono ?_
 rintro en w' ⟨u,he,hv,hx⟩
 refine ⟨u,he,g,⟨.refl _,fun b p h=> .inl h,.refl _,fun _ _ _ h=> .inl h,fun _ _ h=> .inl h,fun r hr _=>hx.block hr,hx.size,hx.os,hx.tape,hx.output,fun b r z h1 h2=>by cases h2⟩,?_,hv⟩
 refine ⟨fun r o u hu=>hx.cell (hI.gc r o u hu),fun r es hu=> ?_,(fun b x hx=>by cases hx),fun b b' r z z' h1=>absurd rfl h1,(fun b r z hs=>by cases hs),(fun b x r z o v hx=>by cases hx),(fun b x r z hx=>by cases hx),hI.glob⟩
 obtain ⟨c,hc⟩:=hI.gm r es hu
 have hr:r<w.heap.size:=by
  rcases Nat.lt_or_ge r w.heap.size with h|h
  · exact h
  · rw [Array.getElem?_eq_none h] at hc;cases hc
 exact ⟨c,by rw [hx.block hr];exact hc⟩
end
section
open Go Go.RowKit
def ds10:List Nat:= [48,49,50,51,52,53,54,55,56,57]
def Zaa (k s:List Nat):List Nat:=(Lib.trimS (mkS s).data.toList (mkS k).data.toList).map UInt8.toNat
theorem Zco {k:List Nat} (hk:(mkS k).data.toList.all (fun b=>decide (b.toNat<128))=true) (hk2:k.length<4294967281) (s:List Nat) (hs:s.length<=9223372036854775807):PureC E 34 [.str false s,.str false k] (.str false (Zaa k s)):=by
 refine X2 fun g w vals hd=> ?_
 obtain ⟨u,v,rfl,hu,hv⟩:=Ztd hd
 cases hu;cases hv
 rename_i b hb c hc
 subst hb
 have hc':c=mkS k:=by rw [<-hc,Zba]
 subst hc'
 have hs':b.size<=9223372036854775807:=by rw [<-Y9];exact hs
 have hk':(mkS k).size<4294967281:=by rw [<-Y9,hc];exact hk2
 refine (Any.strings_Trim_laid Tryz.lays160 (by kernel_rfl) b (mkS k) w hs' hk' (ascii_of_all hk)).mono ?_
 rintro e w' ⟨rfl,hw⟩
 refine ⟨_,rfl,?_,hw⟩
 unfold Zaa
 rw [Zba]
 exact Zn7
theorem dwM_nil {α:Type} {p:α->Bool}:∀{l:List α},l.dropWhile p= []↔∀x∈l,p x=true
 | []=>by simp
 |x::l=>by
  rw [List.dropWhile_cons]
  cases hp:p x with
  |true=>simp [hp,dwM_nil (l:=l)]
  |false=>simp [hp]
theorem Zhw {α:Type} {p:α->Bool}:∀{l:List α} {b:α} {r:List α},l.dropWhile p=b::r->p b=false
 | [],b,r,h=>by simp at h
 |x::l,b,r,h=>by
  rw [List.dropWhile_cons] at h
  cases hp:p x with
  |true=>rw [hp] at h;exact Zhw h
  |false=>rw [hp] at h;simp at h;rw [<-h.1];exact hp
theorem Zmg (l cs:List UInt8):Lib.trimS l cs= []↔∀b∈l,cs.contains b=true:=by
 unfold Lib.trimS Lib.trimLeftS Lib.trimRightS
 rw [dwM_nil]
 constructor
 · intro h
   cases hd:l.reverse.dropWhile (cs.contains ·) with
   |nil=>
    rw [dwM_nil] at hd
    exact fun b hb=>hd b (List.mem_reverse.2 hb)
   |cons b r=>
    exfalso
    have h1:=h b (by rw [hd];simp)
    have h2:=Zhw hd
    rw [h1] at h2
    cases h2
 · intro h b hb
   rw [dwM_nil.2 (fun b hb=>h b (List.mem_reverse.1 hb))] at hb
   simp at hb
theorem Ze2 {s k:List Nat} {p:Nat->Bool} (hs:Byt s) (hp:∀n,n<256->(mkS k).data.toList.contains (UInt8.ofNat n)=p n):Zaa k s= []↔∀c∈s,p c=true:=by
 unfold Zaa
 rw [List.map_eq_nil_iff,Zmg]
 have e:s=(mkS s).data.toList.map UInt8.toNat:=(show toL (mkS s)=s from hs).symm
 constructor
 · intro h c hc
   rw [e] at hc
   obtain ⟨b,hb,rfl⟩:=List.mem_map.1 hc
   rw [<-hp _ b.toNat_lt]
   have:=h b hb
   rwa [show UInt8.ofNat b.toNat=b from UInt8.ofNat_toNat]
 · intro h b hb
   have:=h b.toNat (by rw [e];exact List.mem_map_of_mem hb)
   rw [<-hp _ b.toNat_lt] at this
   rwa [show UInt8.ofNat b.toNat=b from UInt8.ofNat_toNat] at this
theorem Ze3 {s:List Nat} (hs:Byt s):Zaa ds10 s= []↔s.all digB=true:=by
 rw [Ze2 (p:=digB) hs (by decide+kernel),List.all_eq_true]
theorem Ze4 {s:List Nat} (hs:Byt s):Zaa [48] s= []↔∀c∈s,c=48:=by
 rw [Ze2 (p:=fun n=>n==48) hs (by decide+kernel)]
 simp
def Zpz:Sum thy:=Wa (dA2 dS dS) (fun x=>(x.2.1=ds10\/x.2.1= [48])/\x.1.length<=9223372036854775807) (fun x=>Zaa x.2.1 x.1) fun y=> .str false y
theorem Zmh:SumOk E 34 Zpz:=Zy E_ok (Zr (f:=34) rfl) fun x h=>by
 obtain ⟨s,k,_⟩:=x
 obtain ⟨h1,h2⟩:(k=ds10\/k= [48])/\s.length<=9223372036854775807:=h
 rcases h1 with rfl|rfl
 · exact Zco (k:=ds10) (by decide) (by decide) s h2
 · exact Zco (k:= [48]) (by decide) (by decide) s h2
theorem Zgn (b:Nat):∀(s:List Nat) (k:Nat),(idxL b k s= -1/\b∉s)\/∃p q,s=p++b::q/\b∉p/\idxL b k s=((k+p.length:Nat):Int)
 | [],k=> .inl ⟨rfl,by simp⟩
 |c::r,k=>by
  unfold idxL
  cases hb:Nat.beq c b with
  |true=>
   have e:=gC9 hb
   subst e
   exact .inr ⟨[],r,rfl,by simp,by simp⟩
  |false=>
   have e:c≠b:=fun e=>by subst e;rw [Nat.beq_refl] at hb;cases hb
   rcases Zgn b r (k+1) with ⟨h1,h2⟩|⟨p,q,h1,h2,h3⟩
   · exact .inl ⟨h1,by simp;exact ⟨fun h=>e h.symm,h2⟩⟩
   · refine .inr ⟨c::p,q,by rw [h1];rfl,by simp;exact ⟨fun h=>e h.symm,h2⟩,?_⟩
     show idxL b (k+1) r=_
     rw [h3];simp;omega
theorem Zmi (s:List Nat) (hs:s.length<=9223372036854775806):PureC E 33 [.str false s,.str true [46]] (.tup [.str false (cutP s).1,.str false (cutP s).2.1,.bool false (cutP s).2.2]):=by
 refine Ze E_ok (Zn E_ok F0_ok 400) ?_
 rw [Zmc]
 rw [show Int.toNat (46:Int)%256=46 from rfl]
 refine ⟨fun h=> ?_,fun h=>⟨fun h2=> ?_,fun h2=> ?_⟩⟩
 · have h:s= [46]:=by simpa using (beq_iff_eq.1 h).symm
   subst h
   exact ⟨⟨by decide,by decide⟩,⟨by decide,by decide⟩,rfl,rfl,rfl,trivial⟩
 · have h2:=of_decide_eq_true h2
   rcases Zgn 46 s 0 with ⟨h3,_⟩|⟨p,q,h3,h4,h5⟩
   · rw [h3] at h2;exact absurd h2 (by decide)
   · rw [h5,Nat.zero_add]
     have hl:s.length=p.length+q.length+1:=by rw [h3];simp;omega
     rw [wr64 (by omega) (by omega)]
     refine ⟨⟨by omega,by omega⟩,⟨by omega,by omega⟩,?_,?_,?_,trivial⟩
     · rw [Int.toNat_natCast,h3,Za3 p q h4];simp
     · rw [show ((p.length:Int)+1).toNat=p.length+1 by omega,h3,Za3 p q h4];simp
     · rw [h3,Za3 p q h4]
 · have h2:=of_decide_eq_false h2
   rcases Zgn 46 s 0 with ⟨h3,h4⟩|⟨p,q,h3,h4,h5⟩
   · rw [Zk4 s h4];exact ⟨rfl,rfl,rfl,trivial⟩
   · rw [h5] at h2;omega
def Zsr:Sum thy:=Wa (dA2 dS (dKs [46])) (fun x=>x.1.length<=9223372036854775806) (fun x=>cutP x.1) fun y=> .tup [.str false y.1,.str false y.2.1,.bool false y.2.2]
theorem Zov:SumOk E 33 Zsr:=Zy E_ok (Zr (f:=33) rfl) fun x h=>Zmi x.1 h
def Zbg (s:List Nat):List Nat×Bool:=if s.head? =some 45 then (s.tail,true) else (s,false)
theorem Zmj (s:List Nat):PureC E 32 [.str false s,.str true [45]] (.tup [.str false (Zbg s).1,.bool false (Zbg s).2]):=by
 refine Ze E_ok (Zn E_ok F0_ok 400) ?_
 rw [Zmd]
 unfold Zbg
 cases s with
 |nil=>exact ⟨fun h=>(by simp at h),fun _=>⟨rfl,rfl,trivial⟩⟩
 |cons c r=>
  refine ⟨fun _=>⟨⟨by decide,by simp;omega⟩,fun h=> ?_,fun h=> ?_⟩,fun h=>(by simp at h;omega)⟩
  · have h:c=45:=by simpa using h
    subst h
    exact ⟨⟨by decide,by simp;omega⟩,rfl,rfl,trivial⟩
  · have h:c≠45:=by simpa using h
    rw [if_neg (by simpa using h)]
    exact ⟨rfl,rfl,trivial⟩
def Zss:Sum thy:=Wa (dA2 dS (dKs [45])) (fun x=>True) (fun x=>Zbg x.1) fun y=> .tup [.str false y.1,.bool false y.2]
theorem Zow:SumOk E 32 Zss:=Zy E_ok (Zr (f:=32) rfl) fun x h=>Zmj x.1
theorem Zhx {g:GH} {s:List Nat} {n:Int} {vals:Array Value} (hd:DenL E σ0 g [.str true s,.int false .i64 n] vals.toList):DenL E σ0 g [.str true s,.int true .i64 n] vals.toList:=by
 refine ⟨hd.1,fun j sv v k1 k2=> ?_⟩
 match j,k1 with
 |0,k1=>exact hd.2 0 _ v (by exact k1) k2
 |1,k1=>
  cases k1
  have:=hd.2 1 _ v rfl k2
  cases this
  exact .int _ _ _
theorem Zox (n:Int) (hn:n=1\/n=2):PureC E 38 [.str true [48],.int false .i64 n] (.str false (List.replicate n.toNat 48)):=by
 rcases hn with rfl|rfl
 · intro g w vals hI hd
   exact (Ze (E:=E) (args:= [.str true [48],.int true .i64 1]) (v:= .str false [48]) E_ok (Zn E_ok F0_ok 400) (by rw [Zme])) g w vals hI (Zhx hd)
 · intro g w vals hI hd
   exact (Ze (E:=E) (args:= [.str true [48],.int true .i64 2]) (v:= .str false [48,48]) E_ok (Zn E_ok F0_ok 400) (by rw [Zmf];exact ⟨fun b=>b=false,rfl,fun h=>(by cases h),fun _=>rfl⟩)) g w vals hI (Zhx hd)
def Zst:Sum thy:=Wa (dA2 (dKs [48]) dN) (fun x=>x.2.1=1\/x.2.1=2) (fun x=>List.replicate x.2.1.toNat 48) fun y=> .str false y
theorem Zoy:SumOk E 38 Zst:=Zy E_ok (Zr (f:=38) rfl) fun x h=>Zox x.2.1 h
theorem Ztm {g:GH} {m:Nat} (h:m<=9223372036854775807):Den E σ0 g (.tup [.int false .u64 (m:Int),.val .nilIface]) (puR m):=by
 unfold puR
 rw [if_pos h]
 refine .tup (fun j=>(#[Value.int .u64 m,.nilIface].getD j undef)) rfl (fun j hj=> ?_) (fun j sv hj=> ?_)
 · match j,hj with
   |0,_=>rfl
   |1,_=>rfl
 · match j,hj with
   |0,hj=>cases hj;exact .int _ _ _
   |1,hj=>cases hj;exact .val _
theorem Ztn {g:GH} {m:Nat} (h:9223372036854775807<m):Den E σ0 g (.tup [.int false .u64 9223372036854775807,.iface 103 (.int true .i64 1)]) (puR m):=by
 unfold puR
 rw [if_neg (by omega)]
 refine .tup (fun j=>(#[Value.int .u64 9223372036854775807,.iface 103 (.int .i64 1)].getD j undef)) rfl (fun j hj=> ?_) (fun j sv hj=> ?_)
 · match j,hj with
   |0,_=>rfl
   |1,_=>rfl
 · match j,hj with
   |0,hj=>cases hj;exact .int _ _ _
   |1,hj=>cases hj;exact .iface (.int _ _ _)
theorem Zsu {g:GH} {a b c:SV thy} {vals:Array Value} (h:DenL E σ0 g [a,b,c] vals.toList):∃u v z,vals= #[u,v,z]/\Den E σ0 g a u/\Den E σ0 g b v/\Den E σ0 g c z:=by
 obtain ⟨h1,h2⟩:=h
 rcases vals with ⟨l⟩
 match l,h1 with
 | [u,v,z],_=>exact ⟨u,v,z,rfl,h2 0 _ _ rfl rfl,h2 1 _ _ rfl rfl,h2 2 _ _ rfl rfl⟩
theorem Zmk {s:List Nat} (hne:s≠ []) (hs:s.length<=9223372036854775806) (hd:s.all digB=true):(numL s<=9223372036854775807->PureC E 57 [.str false s,.int false .i64 10,.int false .i64 63] (.tup [.int false .u64 (numL s:Int),.val .nilIface]))/\
 (9223372036854775807<numL s->PureC E 57 [.str false s,.int false .i64 10,.int false .i64 63] (.tup [.int false .u64 9223372036854775807,.iface 103 (.int true .i64 1)])):=by
 have key:∀(v:SV thy),(∀g:GH,Den E σ0 g v (puR (numL s)))->PureC E 57 [.str false s,.int false .i64 10,.int false .i64 63] v:=by
  intro v hv
  refine Ux fun g w vals hI hd'=> ?_
  obtain ⟨u,u2,u3,rfl,h1,h2,h3⟩:=Zsu hd'
  cases h2;cases h3;cases h1
  rename_i b hb
  have hz:b.size=s.length:=by rw [<-hb,Y9]
  have hl:0<s.length:=List.length_pos_iff.2 hne
  have hmap:b.data.toList.map UInt8.toNat=s:=hb
  have hn:W3 0 b.data.toList=numL s:=by rw [Zev,hmap];rfl
  refine (Zqz b (by omega) (by omega) (fun c hc=> ?_) w).mono ?_
  · have:=digB_all.1 hd c.toNat (by rw [<-hmap];exact List.mem_map_of_mem hc)
    exact this
  · rintro e w' ⟨rfl,rfl⟩
    rw [hn]
    exact ⟨_,rfl,hv g,Lib.bytesWorld_below _ _ _⟩
 exact ⟨fun h=>key _ fun g=>Ztm h,fun h=>key _ fun g=>Ztn h⟩
def dPu:DcL E (List Nat×Int×Int×Unit):=dA3 dS dN dN
def Spu1:Sum thy:=sumP dPu (fun x=>(x.1≠ []/\x.1.length<=9223372036854775806/\x.1.all digB=true/\x.2.1=10/\x.2.2.1=63)/\numL x.1<=9223372036854775807) fun x=> .tup [.int false .u64 (numL x.1:Int),.val .nilIface]
def Spu2:Sum thy:=sumP dPu (fun x=>(x.1≠ []/\x.1.length<=9223372036854775806/\x.1.all digB=true/\x.2.1=10/\x.2.2.1=63)/\9223372036854775807<numL x.1) fun x=> .tup [.int false .u64 9223372036854775807,.iface 103 (.int true .i64 1)]
theorem Spu1_ok:SumOk E 57 Spu1:=Ul E_ok (Zr (f:=57) rfl) fun x h=>by
 obtain ⟨s,a,b,_⟩:=x
 obtain ⟨⟨h1,h2,h3,rfl,rfl⟩,h6⟩:(s≠ []/\s.length<=9223372036854775806/\s.all digB=true/\a=10/\b=63)/\numL s<=9223372036854775807:=h
 exact (Zmk h1 h2 h3).1 h6
theorem Spu2_ok:SumOk E 57 Spu2:=Ul E_ok (Zr (f:=57) rfl) fun x h=>by
 obtain ⟨s,a,b,_⟩:=x
 obtain ⟨⟨h1,h2,h3,rfl,rfl⟩,h6⟩:(s≠ []/\s.length<=9223372036854775806/\s.all digB=true/\a=10/\b=63)/\9223372036854775807<numL s:=h
 exact (Zmk h1 h2 h3).2 h6
def Spu:Sum thy:=fun args h i k=>match dPu.dec args with
 |some x=>(x.1≠ []/\x.1.length<=9223372036854775806/\x.1.all digB=true/\x.2.1=10/\x.2.2.1=63)/\∀y,y=numL x.1->(y<=9223372036854775807->k (quiet [] (.tup [.int false .u64 (y:Int),.val .nilIface])))/\(9223372036854775807<y->k (quiet [] (.tup [.int false .u64 9223372036854775807,.iface 103 (.int true .i64 1)])))
 |none=>False
theorem Zsv:SumOk E 57 Spu:=by
 refine ⟨Spu1_ok.good,fun args h i k hD hk=> ?_⟩
 unfold Spu at hk
 split at hk
 case h_2=>exact hk.elim
 rename_i x e
 obtain ⟨h1,hk⟩:=hk
 obtain ⟨k1,k2⟩:=hk _ rfl
 by_cases hb:numL x.1<=9223372036854775807
 · refine Spu1_ok.ok args h i k hD ?_
   unfold Spu1 sumP
   rw [e]
   exact ⟨⟨h1,hb⟩,k1 hb⟩
 · refine Spu2_ok.ok args h i k hD ?_
   unfold Spu2 sumP
   rw [e]
   exact ⟨⟨h1,by omega⟩,k2 (by omega)⟩
theorem Zjs {g:GH} {w:World} (hI:Inv E w.heap.size σ0 hp0 g w) {n:Nat} {t:TypeId} (hn:Zc3 n=some (.iface t .unk)):∃u,w.cell? ⟨n,0,none⟩=some (.iface t u):=by
 obtain ⟨v,h1,h2⟩:=hI.glob n _ hn 0 _ rfl
 cases h2
 exact ⟨_,hI.gc _ _ _ h1⟩
theorem strM {g:GH} {s:List Nat} {v:Value} (h:Den E σ0 g (.str false s) v):∃b,v= .string b/\toL b=s:=by
 cases h
 rename_i b hb
 exact ⟨b,rfl,hb⟩
theorem Zsw {g:GH} {t:TypeId} {n:Int} {v:Value} (h:Den E σ0 g (.iface t (.int true .i64 n)) v):v= .iface t (.int .i64 n):=by
 cases h with
 |iface h=>cases h;rfl
theorem Zoz (fn s:List Nat) (b z:Int) (hs:s.length<=281474976710656):PureC E 58 [.str false fn,.str false s,.int false .i64 b,.int false .i64 z,.iface 103 (.int true .i64 1)] (.iface 106 .unk):=by
 refine Ux fun g w vals hI hd=> ?_
 obtain ⟨h1,h2⟩:=hd
 rcases vals with ⟨l⟩
 match l,h1 with
 | [v0,v1,v2,v3,v4],_=>
  have a0:=h2 0 _ _ rfl rfl
  have a1:=h2 1 _ _ rfl rfl
  have a2:=h2 2 _ _ rfl rfl
  have a3:=h2 3 _ _ rfl rfl
  have a4:=h2 4 _ _ rfl rfl
  obtain ⟨x0,rfl,hx0⟩:=strM a0
  obtain ⟨x1,rfl,hx1⟩:=strM a1
  cases a2;cases a3
  obtain ⟨u,hu⟩:=Zjs hI (n:=4) (t:=136) rfl
  obtain rfl:=Zsw a4
  have hz:x1.size=s.length:=by rw [<-hx1,Y9]
  refine (Any.strconv_toError_range Tryz.lays245 x0 x1 b z _ w (by omega) hu (.inr ⟨_,_,rfl⟩)).mono ?_
  rintro en w' ⟨N,rfl,_,_,hb⟩
  exact ⟨_,rfl,.iface (.unk _),hb⟩
def dErr:Dc E Unit where
 dec v:=match v with| .iface t (.int true .i64 (.ofNat 1))=>(match Nat.beq t 103 with|true=>some ()|false=>none)|_=>none
 enc _:= .iface 103 (.int true .i64 1)
 ok v a h:=by
  split at h
  · split at h
    · rename_i e
      obtain rfl:=gC9 e
      exact ⟨rfl,rfl,fun _ _ _ h=>h⟩
    · cases h
  · cases h
def Zsx:Sum thy:=sumP (.cons dS (.cons dS (dA3 dN dN dErr))) (fun x=>x.2.1.length<=281474976710656) fun x=> .iface 106 .unk
theorem Zo0:SumOk E 58 Zsx:=Ul E_ok (Zr (f:=58) rfl) fun x h=>Zoz x.1 x.2.1 x.2.2.1 x.2.2.2.1 h
def Ftx:Fns thy:=addS (addS F9 37 Sfu) 38 Zst
theorem Zp0:FnsOk E Ftx:=Zu (Zu Zr7 Zsd) Zoy
def FpaM:Fns thy:=addS (addS (addS (addS (addS Ftx 34 Zpz) 33 Zsr) 32 Zss) 57 Spu) 58 Zsx
theorem Zrc:FnsOk E FpaM:=Zu (Zu (Zu (Zu (Zu Zp0 Zmh) Zov) Zow) Zsv) Zo0
abbrev qBQ7:=(9223372036854775807:Nat)
abbrev qBQ9:=(ByteArray.mk #[(45:UInt8)])
abbrev qBQ6 (a0:List Nat):=(↑(List.length a0):Int)
abbrev qBQ5:=(ByteArray.mk #[(46:UInt8)])
abbrev qBQb:=(0:Int)
abbrev qBQ8 (a0:List Nat) (b0:List Nat):=(qBQb<=wr IntKind.i64 ((↑(List.length (a0++b0)):Int)-(2:Int))/\wr IntKind.i64 ((↑(List.length (a0++b0)):Int)-(2:Int))<=(↑(List.length (a0++b0)):Int))
abbrev qBQ3 (a0:List Nat) (b0:List Nat):=(Int.toNat (wr IntKind.i64 ((↑(List.length (a0++b0)):Int)-(2:Int))))
abbrev qBQ1 (a0:List Nat) (b0:Int) (c0:List Nat):=(decide ((qBQ6 a0)<(3:Int))=true->(wr IntKind.i64 ((3:Int)-(qBQ6 a0))=(1:Int)\/wr IntKind.i64 ((3:Int)-(qBQ6 a0))=(2:Int))/\∀(y_1:List Nat),y_1=List.replicate (Int.toNat (wr IntKind.i64 ((3:Int)-(qBQ6 a0)))) (48:Nat)->List.length y_1+List.length a0<=qBQ7/\(qBQ8 y_1 a0)/\List.length (List.take (qBQ3 y_1 a0) (y_1++a0))+List.length (toL qBQ5)<=qBQ7/\(qBQ8 y_1 a0)/\List.length (List.take (qBQ3 y_1 a0) (y_1++a0)++toL qBQ5)+List.length (List.drop (qBQ3 y_1 a0) (y_1++a0))<=qBQ7/\(decide (b0<qBQb)=true->List.length (toL qBQ9)+List.length (List.take (qBQ3 y_1 a0) (y_1++a0)++toL qBQ5++List.drop (qBQ3 y_1 a0) (y_1++a0))<=qBQ7/\toL qBQ9++(List.take (qBQ3 y_1 a0) (y_1++a0)++toL qBQ5++List.drop (qBQ3 y_1 a0) (y_1++a0))=c0)/\(decide (b0<qBQb)=false->List.take (qBQ3 y_1 a0) (y_1++a0)++toL qBQ5++List.drop (qBQ3 y_1 a0) (y_1++a0)=c0))
abbrev qBQa (a0:List Nat):=(qBQb<=wr IntKind.i64 ((qBQ6 a0)-(2:Int))/\wr IntKind.i64 ((qBQ6 a0)-(2:Int))<=(qBQ6 a0))
abbrev qBQ4 (a0:List Nat):=(Int.toNat (wr IntKind.i64 ((qBQ6 a0)-(2:Int))))
abbrev qBQ2 (a0:List Nat) (b0:Int) (c0:List Nat):=(decide ((qBQ6 a0)<(3:Int))=false->(qBQa a0)/\List.length (List.take (qBQ4 a0) a0)+List.length (toL qBQ5)<=qBQ7/\(qBQa a0)/\List.length (List.take (qBQ4 a0) a0++toL qBQ5)+List.length (List.drop (qBQ4 a0) a0)<=qBQ7/\(decide (b0<qBQb)=true->List.length (toL qBQ9)+List.length (List.take (qBQ4 a0) a0++toL qBQ5++List.drop (qBQ4 a0) a0)<=qBQ7/\toL qBQ9++(List.take (qBQ4 a0) a0++toL qBQ5++List.drop (qBQ4 a0) a0)=c0)/\(decide (b0<qBQb)=false->List.take (qBQ4 a0) a0++toL qBQ5++List.drop (qBQ4 a0) a0=c0))
theorem Zjt (a:Int) (v:List Nat):Yl E Ftx (vc E Ftx 400) 14 [.int false .i64 a] hp0 0 (fun r=>ret E (patch hp0 0 r) r.v (.str false v))=(
 (decide (a<qBQb)=true->((10:Int)=(10:Int)/\qBQb<=wr IntKind.u64 (qBQb-wr IntKind.u64 a)/\wr IntKind.u64 (qBQb-wr IntKind.u64 a)+(1:Int)<=(10000000000000000000:Int))/\∀(y:List Nat),y=dlM (Int.toNat (wr IntKind.u64 (qBQb-wr IntKind.u64 a))) (Lib.nDigits (Int.toNat (wr IntKind.u64 (qBQb-wr IntKind.u64 a))))->(qBQ1 y a v)/\(qBQ2 y a v))/\(decide (a<qBQb)=false->((10:Int)=(10:Int)/\qBQb<=wr IntKind.u64 a/\wr IntKind.u64 a+(1:Int)<=(10000000000000000000:Int))/\∀(y:List Nat),y=dlM (Int.toNat (wr IntKind.u64 a)) (Lib.nDigits (Int.toNat (wr IntKind.u64 a)))->(qBQ1 y a v)/\(qBQ2 y a v))):=by kernel_rfl
abbrev qBQl:=(48:Nat)
abbrev qBQj:=(0:Int)
abbrev qBQi:=(9223372036854775807:Nat)
abbrev qBQe (a0:List Nat×List Nat×Bool):=(Prod.fst a0++Prod.fst (Prod.snd a0))
abbrev qBQg (a0:Nat) (b0:List Nat×List Nat×Bool) (c0:Int) (d0:Int) (e0:List Nat×Bool):=(qBQi<a0->List.length (qBQe b0)<=(281474976710656:Nat)/\∃(Q:Bool->Prop),Q true/\(Q true->qBQj=c0/\(3:Int)=d0/\True)/\(Q false->(Prod.snd e0=true->wr IntKind.i64 (qBQj-wr IntKind.i64 (9223372036854775807:Int))=c0/\qBQj=d0/\True)/\(Prod.snd e0=false->wr IntKind.i64 (9223372036854775807:Int)=c0/\qBQj=d0/\True)))
abbrev qBQd (a0:Nat) (b0:Int) (c0:Int) (d0:List Nat×Bool):=(a0<=qBQi->∃(Q:Bool->Prop),((decide ((↑a0:Int)>(9007199254740992:Int))=true->Q true)/\(decide ((↑a0:Int)>(9007199254740992:Int))=false->Q false))/\(Q true->qBQj=b0/\(3:Int)=c0/\True)/\(Q false->(Prod.snd d0=true->wr IntKind.i64 (qBQj-wr IntKind.i64 (↑a0:Int))=b0/\qBQj=c0/\True)/\(Prod.snd d0=false->wr IntKind.i64 (↑a0:Int)=b0/\qBQj=c0/\True)))
abbrev qBQh (a0:List Nat×List Nat×Bool):=((Prod.fst a0++Prod.fst (Prod.snd a0)= []->False)/\List.length (qBQe a0)<=(9223372036854775806:Nat)/\List.all (qBQe a0) digB=true/\(10:Int)=(10:Int)/\(63:Int)=(63:Int))
abbrev qBQk:=(ByteArray.mk #[])
abbrev qBQc (a0:List Nat) (b0:List Nat×Bool) (c0:List Nat×List Nat×Bool) (d0:Int) (e0:Int):=((!a0==toL qBQk)=false->(Prod.snd b0=true->(([qBQl]=ds10\/ [qBQl]= [qBQl])/\List.length (qBQe c0)<=qBQi)/\∀(y_3:List Nat),y_3=Zaa [qBQl] (qBQe c0)->((y_3==toL qBQk)=true->qBQj=d0/\(4:Int)=e0/\True)/\((y_3==toL qBQk)=false->(qBQh c0)/\∀(y_4:Nat),y_4=numL (qBQe c0)->(qBQd y_4 d0 e0 b0)/\(qBQg y_4 c0 d0 e0 b0)))/\(Prod.snd b0=false->(qBQh c0)/\∀(y_3:Nat),y_3=numL (qBQe c0)->(qBQd y_3 d0 e0 b0)/\(qBQg y_3 c0 d0 e0 b0)))
abbrev qBQf (a0:List Nat×List Nat×Bool):=(([qBQl,(49:Nat),(50:Nat),(51:Nat),(52:Nat),(53:Nat),(54:Nat),(55:Nat),(56:Nat),(57:Nat)]=ds10\/ [qBQl,(49:Nat),(50:Nat),(51:Nat),(52:Nat),(53:Nat),(54:Nat),(55:Nat),(56:Nat),(57:Nat)]= [qBQl])/\List.length (qBQe a0)<=qBQi)
theorem Zgo (s:List Nat) (z e:Int):Yl E FpaM (vc E FpaM 400) 9 [.str false s] hp0 0 (fun r=>ret E (patch hp0 0 r) r.v (.tup [.int false .i64 z,.int false .i64 e]))=(
 True/\∀(y:List Nat×Bool),y=Zbg s->List.length (Prod.fst y)<=(9223372036854775806:Nat)/\∀(y_1:List Nat×List Nat×Bool),y_1=cutP (Prod.fst y)->List.length (Prod.fst y_1)+List.length (Prod.fst (Prod.snd y_1))<=qBQi/\((!Prod.snd (Prod.snd y_1))=true->qBQj=z/\(4:Int)=e/\True)/\((!Prod.snd (Prod.snd y_1))=false->(((↑(List.length (Prod.fst (Prod.snd y_1))):Int) !=(2:Int))=true->qBQj=z/\(4:Int)=e/\True)/\(((↑(List.length (Prod.fst (Prod.snd y_1))):Int) !=(2:Int))=false->((Prod.fst y_1==toL qBQk)=true->qBQj=z/\(4:Int)=e/\True)/\((Prod.fst y_1==toL qBQk)=false->qBQj<=qBQj/\qBQj+(1:Int)<=(↑(List.length (Prod.fst y_1)):Int)/\∀(x:Nat),(Prod.fst y_1)[Int.toNat qBQj]? =some x->(((↑x:Int)==(48:Int))=true->(decide ((↑(List.length (Prod.fst y_1)):Int)>(1:Int))=true->qBQj=z/\(4:Int)=e/\True)/\(decide ((↑(List.length (Prod.fst y_1)):Int)>(1:Int))=false->(qBQf y_1)/\∀(y_2:List Nat),y_2=Zaa [qBQl,(49:Nat),(50:Nat),(51:Nat),(52:Nat),(53:Nat),(54:Nat),(55:Nat),(56:Nat),(57:Nat)] (qBQe y_1)->((!y_2==toL qBQk)=true->qBQj=z/\(4:Int)=e/\True)/\(qBQc y_2 y y_1 z e)))/\(((↑x:Int)==(48:Int))=false->(qBQf y_1)/\∀(y_2:List Nat),y_2=Zaa [qBQl,(49:Nat),(50:Nat),(51:Nat),(52:Nat),(53:Nat),(54:Nat),(55:Nat),(56:Nat),(57:Nat)] (qBQe y_1)->((!y_2==toL qBQk)=true->qBQj=z/\(4:Int)=e/\True)/\(qBQc y_2 y y_1 z e)))))):=by kernel_rfl
end
section
open Go Go.RowKit
theorem Ztb:toL (ByteArray.mk #[(46:UInt8)])= [46]:=rfl
theorem Ztc:toL (ByteArray.mk #[(45:UInt8)])= [45]:=rfl
theorem Zlf:∀(k j u:Nat),u<10^k->dlM u (j+k)=List.replicate j 48++dlM u k
 |0,j,u,h=>by
  have h:u=0:=by simpa using h
  subst h
  rw [Nat.add_zero]
  show dlM 0 j=List.replicate j 48++ []
  rw [List.append_nil]
  exact List.eq_replicate_iff.2 ⟨Xu j 0,Zde j⟩
 |k+1,j,u,h=>by
  show dlM (u/10) (j+k)++ [48+u%10]=List.replicate j 48++(dlM (u/10) k++ [48+u%10])
  rw [Zlf k j (u/10) (by rw [Nat.pow_succ] at h;omega),List.append_assoc]
theorem Zlg (u:Nat):(Lib.nDigits u<3->List.replicate (3-Lib.nDigits u) 48++dlM u (Lib.nDigits u)=dlM u (kF u))/\(3<=Lib.nDigits u->dlM u (Lib.nDigits u)=dlM u (kF u)):=by
 constructor
 · intro h
   rw [<-Zlf _ _ u (Lib.lt_pow_nDigits u)]
   congr 1
   unfold kF
   omega
 · intro h
   congr 1
   unfold kF
   omega
theorem Zqp {u:Nat} {D:List Nat} (h:D=dlM u (kF u)):D.take (D.length-2)++ [46]++D.drop (D.length-2)=Uf u:=by
 subst h
 unfold Uf
 rw [Xu,List.append_assoc]
 rfl
theorem Zsf (a:Int) (h1: -9223372036854775808<=a) (h2:a<=9223372036854775807):(a<0->wr .u64 (0-wr .u64 a)=(a.natAbs:Int))/\(0<=a->wr .u64 a=(a.natAbs:Int)):=by
 constructor
 · intro h;rw [wu64,wu64];omega
 · intro h;rw [wu64];omega
theorem nd19 (u:Nat) (h:u<=9223372036854775808):Lib.nDigits u<=19:=Znx 18 u (by show u<10000000000000000000;omega)
theorem Zi8 (a:Int) (h1: -9223372036854775808<=a) (h2:a<=9223372036854775807):PureC E 14 [.int false .i64 a] (.str false (U8 a)):=by
 refine Ze E_ok (Zn E_ok Zp0 400) ?_
 rw [Zjt]; delta qBQb qBQ1 qBQ2 qBQ6 qBQa qBQ4 qBQ5 qBQ7 qBQ9 qBQ8 qBQ3
 obtain ⟨e1,e2⟩:=Zsf a h1 h2
 have hu:a.natAbs<=9223372036854775808:=by omega
 have hnd:=nd19 _ hu
 have hnp:=Lib.nDigits_pos a.natAbs
 obtain ⟨t1,t2⟩:=Zlg a.natAbs
 have hlen:=Xu (Lib.nDigits a.natAbs) a.natAbs
 have hk:=Xu (kF a.natAbs) a.natAbs
 have hk3:=kF3 a.natAbs
 have hkm:kF a.natAbs<=19:=by unfold kF;omega
 unfold U8
 simp only [Ztb,Ztc]
 have wk:∀z:Int,-9223372036854775808<=z->z<=9223372036854775807->wr .i64 z=z:=fun z h1 h2=>wr64 h1 h2
 have main:∀y:List Nat,y=dlM a.natAbs (Lib.nDigits a.natAbs)->∀v:List Nat,v=(if a<0 then [45] else [])++Uf a.natAbs->
  ∀D:List Nat,D=dlM a.natAbs (kF a.natAbs)->(0<=wr .i64 ((D.length:Int)-2)/\wr .i64 ((D.length:Int)-2)<=D.length)/\D.length<=19/\(wr .i64 ((D.length:Int)-2)).toNat=D.length-2/\D.take (D.length-2)++ [46]++D.drop (D.length-2)=Uf a.natAbs:=by
  intro y hy v hv D hD
  have hDl:D.length=kF a.natAbs:=by rw [hD,hk]
  rw [wk _ (by omega) (by omega)]
  exact ⟨⟨by omega,by omega⟩,by omega,by omega,Zqp hD⟩
 refine ⟨fun hs=> ?_,fun hs=> ?_⟩
 · have hs:a<0:=of_decide_eq_true hs
   rw [e1 hs,Int.toNat_natCast]
   refine ⟨⟨trivial,by omega,by omega⟩,fun y hy=> ?_⟩
   have hyl:y.length=Lib.nDigits a.natAbs:=by rw [hy,hlen]
   refine ⟨fun h3=> ?_,fun h3=> ?_⟩
   · have h3:=of_decide_eq_true h3
     rw [wk _ (by omega) (by omega)]
     refine ⟨by omega,fun z hz=> ?_⟩
     have hD:z++y=dlM a.natAbs (kF a.natAbs):=by
      rw [hz,hy,hlen,show ((3:Int)-(Lib.nDigits a.natAbs:Int)).toNat=3-Lib.nDigits a.natAbs by omega]
      exact t1 (by omega)
     obtain ⟨m1,m2,m3,m4⟩:=main y hy _ rfl (z++y) hD
     have hzl:z.length+y.length<=19:=by rw [<-List.length_append];exact m2
     rw [m3,m4]
     refine ⟨by omega,m1,?_,m1,?_,fun _=>⟨?_,?_⟩,fun h=> ?_⟩
     · rw [List.length_take];simp;omega
     · simp;omega
     · rw [<-m4];simp;omega
     · rw [if_pos hs]
     · exact absurd hs (of_decide_eq_false h)
   · have h3:=of_decide_eq_false h3
     have hD:y=dlM a.natAbs (kF a.natAbs):=by rw [hy];exact t2 (by omega)
     obtain ⟨m1,m2,m3,m4⟩:=main y hy _ rfl y hD
     rw [m3,m4]
     refine ⟨m1,?_,m1,?_,fun _=>⟨?_,?_⟩,fun h=> ?_⟩
     · rw [List.length_take];simp;omega
     · simp;omega
     · rw [<-m4];simp;omega
     · rw [if_pos hs]
     · exact absurd hs (of_decide_eq_false h)
 · have hs:¬a<0:=of_decide_eq_false hs
   rw [e2 (by omega),Int.toNat_natCast]
   refine ⟨⟨trivial,by omega,by omega⟩,fun y hy=> ?_⟩
   have hyl:y.length=Lib.nDigits a.natAbs:=by rw [hy,hlen]
   refine ⟨fun h3=> ?_,fun h3=> ?_⟩
   · have h3:=of_decide_eq_true h3
     rw [wk _ (by omega) (by omega)]
     refine ⟨by omega,fun z hz=> ?_⟩
     have hD:z++y=dlM a.natAbs (kF a.natAbs):=by
      rw [hz,hy,hlen,show ((3:Int)-(Lib.nDigits a.natAbs:Int)).toNat=3-Lib.nDigits a.natAbs by omega]
      exact t1 (by omega)
     obtain ⟨m1,m2,m3,m4⟩:=main y hy _ rfl (z++y) hD
     have hzl:z.length+y.length<=19:=by rw [<-List.length_append];exact m2
     rw [m3,m4]
     refine ⟨by omega,m1,?_,m1,?_,fun h=> ?_,fun _=> ?_⟩
     · rw [List.length_take];simp;omega
     · simp;omega
     · exact absurd (of_decide_eq_true h) hs
     · rw [if_neg hs,List.nil_append]
   · have h3:=of_decide_eq_false h3
     have hD:y=dlM a.natAbs (kF a.natAbs):=by rw [hy];exact t2 (by omega)
     obtain ⟨m1,m2,m3,m4⟩:=main y hy _ rfl y hD
     rw [m3,m4]
     refine ⟨m1,?_,m1,?_,fun h=> ?_,fun _=> ?_⟩
     · rw [List.length_take];simp;omega
     · simp;omega
     · exact absurd (of_decide_eq_true h) hs
     · rw [if_neg hs,List.nil_append]
end
section
open Go Go.RowKit
theorem Zr2 {s:List Nat} (h:∀c∈s,c<256):Byt s:=by
 show toL (mkS s)=s
 unfold toL mkS
 rw [List.toList_toArray,List.map_map]
 conv=>rhs;rw [<-List.map_id s]
 refine List.map_congr_left fun c hc=> ?_
 have:=h c hc
 show (UInt8.ofNat c).toNat=c
 rw [UInt8.toNat_ofNat']
 omega
theorem Zf0 (s:List Nat):Y0 s=Zo (Zbg s).2 (Zbg s).1:=by
 unfold Y0 Zbg
 split<;>rfl
theorem Znq (s:List Nat):(Zbg s).1.length<=s.length/\∀c∈(Zbg s).1,c∈s:=by
 unfold Zbg
 split
 · exact ⟨by rw [List.length_tail];omega,fun c hc=>List.mem_of_mem_tail hc⟩
 · exact ⟨Nat.le_refl _,fun c hc=>hc⟩
theorem Zkp:∀(s:List Nat),(cutP s).1.length+(cutP s).2.1.length<=s.length/\∀c∈(cutP s).1++(cutP s).2.1,c∈s
 | []=>⟨Nat.le_refl _,fun c hc=>by cases hc⟩
 |x::r=>by
  obtain ⟨h1,h2⟩:=Zkp r
  unfold cutP
  split
  · exact ⟨by simp,fun c hc=>List.mem_cons_of_mem _ (by simpa using hc)⟩
  · refine ⟨by rw [List.length_cons,List.length_cons];show (cutP r).1.length+1+(cutP r).2.1.length<=_;omega,fun c hc=> ?_⟩
    have hc:c∈x::((cutP r).1++(cutP r).2.1):=hc
    rcases List.mem_cons.1 hc with rfl|hc
    · exact List.mem_cons_self
    · exact List.mem_cons_of_mem _ (h2 c hc)
theorem Zf1 (s:List Nat) (hl:s.length<=140737488355328):PureC E 9 [.str false s] (.tup [.int false .i64 (Y0 s).1,.int false .i64 (Y0 s).2]):=by
 refine Zn6 (j:=0) rfl fun hB=> ?_
 refine Ze E_ok (Zn E_ok Zrc 400) ?_
 rw [Zgo]; delta qBQi qBQj qBQk qBQf qBQl qBQe qBQc qBQh qBQd qBQg
 rw [Zf0]
 obtain ⟨l1,b1⟩:=Znq s
 refine ⟨trivial,fun y hy=>⟨by rw [hy];omega,fun c hc=> ?_⟩⟩
 rw [<-hy] at l1 b1⊢
 obtain ⟨l2,b2⟩:=Zkp y.1
 rw [<-hc] at l2 b2
 have hBD:Byt (c.1++c.2.1):=Zr2 fun x hx=>Zsj hB x (b1 x (b2 x hx))
 have hlD:(c.1++c.2.1).length<=140737488355328:=by rw [List.length_append];omega
 have err:¬(c.2.2=true/\okF y.2 c.1 c.2.1)->(0:Int)=(Zo y.2 y.1).1/\(4:Int)=(Zo y.2 y.1).2/\True:=by
  intro h
  unfold Zo
  rw [<-hc,if_neg h]
  exact ⟨rfl,rfl,trivial⟩
 have good:c.2.2=true->okF y.2 c.1 c.2.1->Zo y.2 y.1=(if numL (c.1++c.2.1)<=9007199254740992 then ((if y.2=true then-(numL (c.1++c.2.1):Int) else numL (c.1++c.2.1)),0) else (0,3)):=by
  intro h1 h2
  unfold Zo
  rw [<-hc,if_pos ⟨h1,h2⟩]
 have num:c.2.2=true->okF y.2 c.1 c.2.1->(((c.1++c.2.1= []->False)/\(c.1++c.2.1).length<=9223372036854775806/\(c.1++c.2.1).all digB=true/\(10:Int)=10/\(63:Int)=63)/\∀(n:Nat),n=numL (c.1++c.2.1)->
  (n<=9223372036854775807->∃(Q:Bool->Prop),((decide ((n:Int)>9007199254740992)=true->Q true)/\(decide ((n:Int)>9007199254740992)=false->Q false))/\(Q true->(0:Int)=(Zo y.2 y.1).1/\(3:Int)=(Zo y.2 y.1).2/\True)/\
   (Q false->(y.2=true->wr .i64 (0-wr .i64 (n:Int))=(Zo y.2 y.1).1/\(0:Int)=(Zo y.2 y.1).2/\True)/\(y.2=false->wr .i64 (n:Int)=(Zo y.2 y.1).1/\(0:Int)=(Zo y.2 y.1).2/\True)))/\
  (9223372036854775807<n->(c.1++c.2.1).length<=281474976710656/\∃(Q:Bool->Prop),Q true/\(Q true->(0:Int)=(Zo y.2 y.1).1/\(3:Int)=(Zo y.2 y.1).2/\True)/\
   (Q false->(y.2=true->wr .i64 (0-wr .i64 9223372036854775807)=(Zo y.2 y.1).1/\(0:Int)=(Zo y.2 y.1).2/\True)/\(y.2=false->wr .i64 9223372036854775807=(Zo y.2 y.1).1/\(0:Int)=(Zo y.2 y.1).2/\True)))):=by
  intro h1 h2
  rw [good h1 h2]
  obtain ⟨k1,k2,k3,k4,k5⟩:=h2
  refine ⟨⟨fun h=>k2 (List.append_eq_nil_iff.1 h).1,by omega,k4,rfl,rfl⟩,fun n hn=>⟨fun hle=>⟨fun b=>b=decide ((n:Int)>9007199254740992),⟨fun h=>h.symm,fun h=>h.symm⟩,fun q=> ?_,fun q=>⟨fun hneg=> ?_,fun hneg=> ?_⟩⟩,fun hgt=>⟨by omega,fun b=>b=true,rfl,fun _=> ?_,fun h=>by cases h⟩⟩⟩
  · have q:=of_decide_eq_true q.symm
    rw [<-hn,if_neg (by omega)]
    exact ⟨rfl,rfl,trivial⟩
  · have q:=of_decide_eq_false q.symm
    have e1:wr .i64 (n:Int)=n:=wr64 (by omega) (by omega)
    have e2:wr .i64 (0-(n:Int))= -n:=by rw [wr64 (by omega) (by omega)];omega
    rw [<-hn,if_pos (by omega),if_pos hneg,e1,e2]
    exact ⟨rfl,rfl,trivial⟩
  · have q:=of_decide_eq_false q.symm
    have e1:wr .i64 (n:Int)=n:=wr64 (by omega) (by omega)
    rw [<-hn,if_pos (by omega),if_neg (by rw [hneg];decide),e1]
    exact ⟨rfl,rfl,trivial⟩
  · rw [<-hn,if_neg (by omega)]
    exact ⟨rfl,rfl,trivial⟩
 refine ⟨by omega,fun h1=>err fun h=> ?_,fun h1=>⟨fun h2=>err fun h=> ?_,fun h2=>⟨fun h3=>err fun h=> ?_,fun h3=>⟨Int.le_refl _,?_,fun x hx=>⟨fun h4=>⟨fun h5=>err fun h=> ?_,fun h5=> ?_⟩,fun h4=> ?_⟩⟩⟩⟩⟩
 · rw [h.1] at h1;cases h1
 · have:=h.2.1
   rw [this] at h2
   simp at h2
 · exact h.2.2.1 (beq_iff_eq.1 h3)
 · have h3:c.1≠ []:=beq_eq_false_iff_ne.1 h3
   have:=List.length_pos_iff.2 h3
   omega
 · have h4:x=48:=by have:=beq_iff_eq.1 h4;omega
   have hx:c.1[0]? =some x:=hx
   have h5:=of_decide_eq_true h5
   have:=h.2.2.2.1 (by rw [List.head?_eq_getElem?,hx,h4])
   omega
 all_goals
  have g1:c.2.2=true:=by cases e:c.2.2 with|true=>rfl|false=>rw [e] at h1;cases h1
  have g2:c.2.1.length=2:=by
   have:=bne_eq_false_iff_eq.1 h2
   omega
  have g3:c.1≠ []:=beq_eq_false_iff_ne.1 h3
  have hx:c.1[0]? =some x:=hx
  have g4:c.1.head? =some 48->c.1.length<=1:=by
   intro hh
   rw [List.head?_eq_getElem?,hx] at hh
   have hh:=Option.some.inj hh
   first
    |exact absurd (by rw [hh];rfl:((x:Int)==48)=true) (by rw [h4];decide)
    |(have:=of_decide_eq_false h5;omega)
  refine ⟨⟨.inl rfl,by omega⟩,fun t ht=>⟨fun h6=>err fun h=> ?_,fun h6=>⟨fun hneg=>⟨⟨.inr rfl,by omega⟩,fun t2 ht2=>⟨fun h7=>err fun h=> ?_,fun h7=> ?_⟩⟩,fun hneg=> ?_⟩⟩⟩
  · have:=(Ze3 hBD).2 h.2.2.2.2.1
    have ht:t=Zaa ds10 (c.1++c.2.1):=ht
    rw [ht,this] at h6
    cases h6
  · have h7:t2= []:=beq_iff_eq.1 h7
    obtain ⟨x,hx1,hx2⟩:=h.2.2.2.2.2 hneg
    exact hx2 ((Ze4 hBD).1 (ht2.symm.trans h7) x hx1)
  all_goals
   have g5:(c.1++c.2.1).all digB=true:=by
    refine (Ze3 hBD).1 ?_
    have ht:t=Zaa ds10 (c.1++c.2.1):=ht
    rw [<-ht]
    have h6:(!(t== []))=false:=h6
    simpa using h6
  · refine num g1 ⟨g2,g3,g4,g5,fun _=> ?_⟩
    have h7:t2≠ []:=beq_eq_false_iff_ne.1 h7
    refine Classical.byContradiction fun hno=>h7 (ht2.trans ((Ze4 hBD).2 fun x hx=>Classical.byContradiction fun h=>hno ⟨x,hx,h⟩))
  · exact num g1 ⟨g2,g3,g4,g5,fun h=>by rw [hneg] at h;cases h⟩
def Zpo:Sum thy:=Wa (dA1 dN) (fun x=> -9223372036854775808<=x.1/\x.1<=9223372036854775807) (fun x=>U8 x.1) fun y=> .str false y
theorem Zkq:SumOk E 14 Zpo:=Zy E_ok (Zr (f:=14) rfl) fun x h=>Zi8 x.1 h.1 h.2
def Zkr:Sum thy:=Wa (dA1 dS) (fun x=>x.1.length<=140737488355328) (fun x=>Y0 x.1) Zg5
theorem Ziz:SumOk E 9 Zkr:=Zy E_ok (Zr (f:=9) rfl) fun x h=>Zf1 x.1 h
def Ftr:Fns thy:=addS (addS F9 14 Zpo) 9 Zkr
theorem Zr3:FnsOk E Ftr:=Zu (Zu Zr7 Zkq) Ziz
abbrev qBS1 (a0:Int×Int) (b0:List Nat) (c0:Bool):=((Prod.snd a0 !=(0:Int))=false->True/\(inR (Prod.fst a0)=true->((-9223372036854775808:Int)<=Prod.fst a0/\Prod.fst a0<=(9223372036854775807:Int))/\∀(y_2:List Nat),y_2=U8 (Prod.fst a0)->((y_2==b0)=true->true=c0)/\((y_2==b0)=false->false=c0))/\(inR (Prod.fst a0)=false->false=c0))
abbrev qBS2 (a0:Int×Int) (b0:Bool):=((Prod.snd a0 !=(0:Int))=true->((Prod.fst a0==(0:Int))=true->((Prod.snd a0==(4:Int))=true->true=b0)/\((Prod.snd a0==(4:Int))=false->((Prod.snd a0==(3:Int))=true->true=b0)/\((Prod.snd a0==(3:Int))=false->false=b0)))/\((Prod.fst a0==(0:Int))=false->false=b0))
abbrev qBS3 (a0:Int) (b0:Int×Int) (c0:Bool) (d0:Int×Int) (e0:List Nat):=((!inR a0)=true->((Prod.snd b0 !=(3:Int))=true->false=c0)/\((Prod.snd b0 !=(3:Int))=false->((Prod.fst b0 !=(0:Int))=true->false=c0)/\((Prod.fst b0 !=(0:Int))=false->(qBS2 d0 c0)/\(qBS1 d0 e0 c0))))
theorem Znr (a:Int) (s:List Nat) (b:Bool):Yl E Ftr (vc E Ftr 400) 5 [.int false .i64 a,.str false s] hp0 0 (fun r=>ret E (patch hp0 0 r) r.v (.bool false b))=(
 True/\((!true)=true->false=b)/\((!true)=false->((-9223372036854775808:Int)<=a/\a<=(9223372036854775807:Int))/\∀(y:List Nat),y=U8 a->List.length y<=(140737488355328:Nat)/\∀(y_1:Int×Int),y_1=Y0 y->List.length s<=(140737488355328:Nat)/\∀(y:Int×Int),y=Y0 s->True/\(inR a=true->((Prod.snd y_1 !=(0:Int))=true->false=b)/\((Prod.snd y_1 !=(0:Int))=false->((Prod.fst y_1 !=a)=true->false=b)/\((Prod.fst y_1 !=a)=false->True/\(qBS3 a y_1 b y s)/\((!inR a)=false->(qBS2 y b)/\(qBS1 y s b)))))/\(inR a=false->True/\(qBS3 a y_1 b y s)/\((!inR a)=false->(qBS2 y b)/\(qBS1 y s b))))):=by kernel_rfl
theorem Zks (a:Int) (h1: -9223372036854775808<=a) (h2:a<=9223372036854775807):(U8 a).length<=140737488355328:=by
 have hnd:=nd19 a.natAbs (by omega)
 have hk:kF a.natAbs<=19:=by unfold kF;omega
 unfold U8 Uf
 rw [List.length_append,List.length_append,List.length_cons,List.length_take,List.length_drop,Xu]
 split<;>simp<;>omega
theorem Zf2 (a:Int):inR a=true↔a.natAbs<=9007199254740992:=by
 unfold inR
 simp only [Bool.and_eq_true,decide_eq_true_eq]
 omega
theorem Zns (a:Int) (s:List Nat) (h1: -9223372036854775808<=a) (h2:a<=9223372036854775807) (hl:s.length<=140737488355328):PureC E 5 [.int false .i64 a,.str false s] (.bool false true):=by
 refine Ze E_ok (Zn E_ok Zr3 400) ?_
 rw [Znr];delta qBS1 qBS2 qBS3
 refine ⟨trivial,fun h=>(by cases h),fun _=>⟨⟨h1,h2⟩,fun t ht=>⟨by rw [ht];exact Zks a h1 h2,fun p hp=>⟨hl,fun q hq=>⟨trivial,?_⟩⟩⟩⟩⟩
 have tail:((q.2 !=0)=true->((q.1==0)=true->((q.2==4)=true->true=true)/\((q.2==4)=false->((q.2==3)=true->true=true)/\((q.2==3)=false->false=true)))/\((q.1==0)=false->false=true))/\
  ((q.2 !=0)=false->True/\(inR q.1=true->(-9223372036854775808<=q.1/\q.1<=9223372036854775807)/\∀(z:List Nat),z=U8 q.1->((z==s)=true->true=true)/\((z==s)=false->false=true))/\(inR q.1=false->false=true)):=by
  have he:=Zk7 s
  rw [<-hq] at he
  refine ⟨fun k1=> ?_,fun k1=> ?_⟩
  · have k1:q.2≠0:=by simpa using k1
    rcases he with he|⟨he,he2⟩
    · exact absurd he k1
    · refine ⟨fun _=>⟨fun _=>rfl,fun k4=>⟨fun _=>rfl,fun k3=> ?_⟩⟩,fun k2=> ?_⟩
      · have k4:q.2≠4:=by simpa using k4
        have k3:q.2≠3:=by simpa using k3
        rcases he2 with h|h
        · exact absurd h k4
        · exact absurd h k3
      · have k2:q.1≠0:=by simpa using k2
        exact absurd he k2
  · have k1:q.2=0:=by simpa using k1
    have hq2:Y0 s=(q.1,0):=by rw [<-hq,<-k1]
    obtain ⟨g1,g2⟩:=Zi5 hq2
    refine ⟨trivial,fun _=>⟨by omega,fun z hz=>⟨fun _=>rfl,fun k3=> ?_⟩⟩,fun k2=> ?_⟩
    · rw [hz,g2] at k3
      simp at k3
    · have:=(Zf2 q.1).2 g1
      rw [this] at k2
      cases k2
 have hpv:=Zi4 a
 rw [<-ht,<-hp] at hpv
 by_cases hr:a.natAbs<=9007199254740992
 · have hra:=(Zf2 a).2 hr
   rw [if_pos hr] at hpv
   refine ⟨fun _=>⟨fun k=> ?_,fun _=>⟨fun k=> ?_,fun _=>⟨trivial,fun k=> ?_,fun _=>tail⟩⟩⟩,fun k=> ?_⟩
   · rw [hpv] at k;simp at k
   · rw [hpv] at k;simp at k
   · rw [hra] at k;cases k
   · rw [hra] at k;cases k
 · have hra:inR a=false:=by
    cases e:inR a with
    |false=>rfl
    |true=>exact absurd ((Zf2 a).1 e) hr
   rw [if_neg hr] at hpv
   refine ⟨fun k=> ?_,fun _=>⟨trivial,fun _=>⟨fun k=> ?_,fun _=>⟨fun k=> ?_,fun _=>tail⟩⟩,fun k=> ?_⟩⟩
   · rw [hra] at k;cases k
   · rw [hpv] at k;simp at k
   · rw [hpv] at k;simp at k
   · rw [hra] at k;cases k
end
end Go.Proofs.YthonhikjbpplnaaGreatDoor
end
