/- Merged texts: TcC, Expr, Size, Region, EvalR, MapFn, EvalT, EvalU, EvalV, EvalW, TpJ0, TuA, Tariff, Holds, Amount, TuB, TcQ, TvMp, TvNp, TvL, TcE, TcV, EngZK, EngZL, TcF, TuS, TvMq. -/
import Derived.Deep.MidRow
import Derived.Test.YtpepmaehafjfbaaDoorProg
import Derived.Deep.QuietTactic
import Derived.BigQuiet
import Derived.StillTailTactics
import Derived.Deep.RegionHeld
import Derived.Defers
import Derived.Recover
import Derived.LaidEql
import Derived.Test.YtpepmaehafjfbaaDoorMd
noncomputable section
namespace Go.Proofs.YtpepmaehafjfbaaDoor
set_option linter.unusedVariables false
set_option linter.unusedSimpArgs false
set_option linter.unnecessarySimpa false
set_option maxRecDepth 100000
section
open Go
def Scx (m:Nat):Sum thy:=sumB E Th.ins dExp (fun (l:List Ins) x=>x.1.sz<m/\Zo x.1=true/\l.length+(cdX x.1 l.length).length<=1000000000) fun (l:List Ins) x=>l++cdX x.1 l.length
def Fcx (m:Nat):Fns thy:=addS F0 (26) (Scx m)
abbrev qCH1 (a0:Ex):=(Ex.mk (Ex.op a0) (Ex.n a0) (Ex.d0 a0) (Ex.d1 a0) (Ex.d2 a0) (Ex.d3 a0) (Ex.l a0))
abbrev qCHb:=(1:Nat)
abbrev qCH2 (a0:List Ins):=(List.length a0+qCHb)
abbrev qCH3 (a0:List Ins):=(List.length a0)
abbrev qCH4 (a0:List Ins) (b0:List Ins) (c0:Nat) (d0:Ex) (e0:Nat):=(List.length a0=List.length a0/\fzO (some (b0,c0))<=List.length a0/\Ex.sz (qCH1 d0)+qCHb<=e0/\Zo (qCH1 d0)=true/\List.length a0+List.length (cdX (qCH1 d0) (qCH3 a0))<=(1000000000:Nat))
abbrev qCH5:=(0:Int)
abbrev qCH6 (a0:Ex):=(↑(List.length (Ex.l a0)):Int)
abbrev qCH7 (a0:List Ins) (b0:Nat) (c0:Ex) (d0:Nat):=(List.length a0=List.length a0/\b0<=List.length a0/\Ex.sz (qCH1 c0)+qCHb<=d0/\Zo (qCH1 c0)=true/\List.length a0+List.length (cdX (qCH1 c0) (qCH3 a0))<=(1000000000:Nat))
abbrev qCH8 (a0:List Ins) (b0:List Ins) (c0:Nat):=(some (a0,fzO (some (b0,c0))))
abbrev qCH9:=(140737488355328:Nat)
abbrev qCHa:=(1:Int)
theorem Zvn (m:Nat) (l:List Ins) (fz:Nat) (x:Ex) (l':List Ins):Zw E F0 (vc E (Fcx m) 400) 26 [.ptr 0 0,exA x] (hpP E Th.ins (some (l,fz))) 2 (prnK E Th.ins (some (l,fz)) l')=(
 ((Ex.op x==qCHa)=true->(List.length l<=List.length l/\fz<=List.length l/\(qCH2 l)*(24:Nat)<=qCH9)/\∀(l'_1:List Ins),l'_1=List.take (qCH3 l) l++ [Ins.mk qCHa (Ex.n x) qCH5]->l'_1=l'/\List.length l+qCHb=List.length l'/\fz=fzO (some (l,fz)))/\((Ex.op x==qCHa)=false->((Ex.op x==(2:Int))=true->(List.length l<=List.length l/\fz<=List.length l/\(qCH2 l)*(24:Nat)<=qCH9)/\∀(l'_1:List Ins),l'_1=List.take (qCH3 l) l++ [Ins.mk (2:Int) (Ex.n x) qCH5]->l'_1=l'/\List.length l+qCHb=List.length l'/\fz=fzO (some (l,fz)))/\((Ex.op x==(2:Int))=false->((Ex.op x==(11:Int))=true->qCH5<=qCH5/\qCH5+qCHa<=(qCH6 x)/\∀(x_1:Ex),(Ex.l x)[Int.toNat qCH5]? =some x_1->(qCH7 l fz x_1 m)/\∀(l'_1:List Ins),l'_1=l++cdX (qCH1 x_1) (qCH3 l)->qCH5<=qCHa/\qCHa+qCHa<=(qCH6 x)/\∀(x_2:Ex),(Ex.l x)[Int.toNat qCHa]? =some x_2->(qCH4 l'_1 l fz x_2 m)/\∀(l'_2:List Ins),l'_2=l'_1++cdX (qCH1 x_2) (qCH3 l'_1)->(List.length l'_2<=List.length l'_2/\fzO (qCH8 l'_1 l fz)<=List.length l'_2/\(qCH2 l'_2)*(24:Nat)<=qCH9)/\∀(l'_3:List Ins),l'_3=List.take (qCH3 l'_2) l'_2++ [Ins.mk (11:Int) qCH5 qCH5]->(List.length l'_2+qCHb<=List.length l'_3/\fzO (qCH8 l'_1 l fz)<=List.length l'_2+qCHb/\(List.length l'_2+qCHb+qCHb)*(24:Nat)<=qCH9)/\∀(l'_4:List Ins),l'_4=List.take (qCH2 l'_2) l'_3++ [Ins.mk (13:Int) qCH5 qCH5]->qCH5<=(2:Int)/\(2:Int)+qCHa<=(qCH6 x)/\∀(x_3:Ex),(Ex.l x)[Int.toNat (2:Int)]? =some x_3->(List.length l'_2+qCHb+qCHb=List.length l'_4/\fzO (qCH8 l'_1 l fz)<=List.length l'_4/\Ex.sz (qCH1 x_3)+qCHb<=m/\Zo (qCH1 x_3)=true/\List.length l'_4+List.length (cdX (qCH1 x_3) (qCH3 l'_4))<=(1000000000:Nat))/\∀(l'_5:List Ins),l'_5=l'_4++cdX (qCH1 x_3) (qCH3 l'_4)->(List.length l'_5<=List.length l'_5/\fzO (some (l'_4,fzO (qCH8 l'_1 l fz)))<=List.length l'_5/\(qCH2 l'_5)*(24:Nat)<=qCH9)/\∀(l'_6:List Ins),l'_6=List.take (qCH3 l'_5) l'_5++ [Ins.mk (14:Int) qCH5 qCH5]->(qCH5<=(↑(qCH2 l'_2):Int)/\(↑(qCH2 l'_2):Int)+qCHa<=(↑(qCH2 l'_5):Int))/\fzO (some (l'_4,fzO (qCH8 l'_1 l fz)))<=(0:Nat)+Int.toNat (↑(qCH2 l'_2):Int)/\(0:Nat)+Int.toNat (↑(qCH2 l'_2):Int)+qCHb<=List.length l'_6/\∀(x_4:Ins),l'_6[(0:Nat)+Int.toNat (↑(qCH2 l'_2):Int)]? =some x_4->∀(l'_7:List Ins),l'_7=List.set l'_6 ((0:Nat)+Int.toNat (↑(qCH2 l'_2):Int)) (Ins.mk (Ins.op x_4) (↑(qCH2 l'_5):Int) (Ins.m x_4))->qCH5<=(3:Int)/\(3:Int)+qCHa<=(qCH6 x)/\∀(x_5:Ex),(Ex.l x)[Int.toNat (3:Int)]? =some x_5->(List.length l'_5+qCHb=List.length l'_7/\fzO (some (l'_4,fzO (qCH8 l'_1 l fz)))<=List.length l'_7/\Ex.sz (qCH1 x_5)+qCHb<=m/\Zo (qCH1 x_5)=true/\List.length l'_7+List.length (cdX (qCH1 x_5) (qCH3 l'_7))<=(1000000000:Nat))/\∀(l'_8:List Ins),l'_8=l'_7++cdX (qCH1 x_5) (qCH3 l'_7)->(qCH5<=(↑(qCH3 l'_5):Int)/\(↑(qCH3 l'_5):Int)+qCHa<=(↑(qCH3 l'_8):Int))/\fzO (some (l'_7,fzO (some (l'_4,fzO (qCH8 l'_1 l fz)))))<=(0:Nat)+Int.toNat (↑(qCH3 l'_5):Int)/\(0:Nat)+Int.toNat (↑(qCH3 l'_5):Int)+qCHb<=List.length l'_8/\∀(x:Ins),l'_8[(0:Nat)+Int.toNat (↑(qCH3 l'_5):Int)]? =some x->∀(l'_9:List Ins),l'_9=List.set l'_8 ((0:Nat)+Int.toNat (↑(qCH3 l'_5):Int)) (Ins.mk (Ins.op x) (↑(qCH3 l'_8):Int) (Ins.m x))->l'_9=l'/\List.length l'_8=List.length l'/\fzO (some (l'_7,fzO (some (l'_4,fzO (qCH8 l'_1 l fz)))))=fzO (some (l,fz)))/\((Ex.op x==(11:Int))=false->qCH5<=qCH5/\qCH5+qCHa<=(qCH6 x)/\∀(x_1:Ex),(Ex.l x)[Int.toNat qCH5]? =some x_1->(qCH7 l fz x_1 m)/\∀(l'_1:List Ins),l'_1=l++cdX (qCH1 x_1) (qCH3 l)->qCH5<=qCHa/\qCHa+qCHa<=(qCH6 x)/\∀(x_2:Ex),(Ex.l x)[Int.toNat qCHa]? =some x_2->(qCH4 l'_1 l fz x_2 m)/\∀(l'_2:List Ins),l'_2=l'_1++cdX (qCH1 x_2) (qCH3 l'_1)->(List.length l'_2<=List.length
l'_2/\fzO (qCH8 l'_1 l fz)<=List.length l'_2/\(qCH2 l'_2)*(24:Nat)<=qCH9)/\∀(l'_3:List Ins),l'_3=List.take (qCH3 l'_2) l'_2++ [Ins.mk (wr IntKind.i64 (wr IntKind.i64 ((3:Int)+Ex.op x)-(3:Int))) qCH5 qCH5]->l'_3=l'/\List.length l'_2+qCHb=List.length l'/\fzO (qCH8 l'_1 l fz)=fzO (some (l,fz)))))):=by kernel_rfl
abbrev qCHc (a0:Ex):=(Ex.mk (Ex.op a0) (Ex.n a0) (Ex.d0 a0) (Ex.d1 a0) (Ex.d2 a0) (Ex.d3 a0) (Ex.l a0))
abbrev qCHd:=(none:Option (List Ins×Nat))
abbrev qCHm:=(1:Nat)
abbrev qCHe (a0:List Ins):=(List.length a0+qCHm)
abbrev qCHi (a0:List Ins):=(List.length a0)
abbrev qCHf (a0:List Ins) (b0:Ex) (c0:Nat):=(List.length a0=List.length a0/\fzO qCHd<=List.length a0/\Ex.sz (qCHc b0)+qCHm<=c0/\Zo (qCHc b0)=true/\List.length a0+List.length (cdX (qCHc b0) (qCHi a0))<=(1000000000:Nat))
abbrev qCHg:=(0:Int)
abbrev qCHh (a0:Ex):=(↑(List.length (Ex.l a0)):Int)
abbrev qCHo:=(0:Nat)
abbrev qCHj (a0:Ex) (b0:Nat):=(Ex.sz (qCHc a0)+qCHm<=b0/\Zo (qCHc a0)=true/\qCHo+List.length (cdX (qCHc a0) qCHo)<=(1000000000:Nat))
abbrev qCHk (a0:List Ins):=(some (a0,fzO qCHd))
abbrev qCHl:=(1:Int)
abbrev qCHn (a0:List Ins) (b0:List Ins):=(List.length a0<=List.length a0/\fzO (qCHk b0)<=List.length a0/\(qCHe a0)*(24:Nat)<=(140737488355328:Nat))
theorem Zvo (m:Nat) (x:Ex) (l':List Ins):Zw E F0 (vc E (Fcx m) 400) 26 [.ptr 0 0,exA x] (hpP E Th.ins none) 2 (prnK E Th.ins none l')=(
 ((Ex.op x==qCHl)=true-> [Ins.mk qCHl (Ex.n x) qCHg]=l'/\qCHm=List.length l'/\qCHo=fzO qCHd)/\((Ex.op x==qCHl)=false->((Ex.op x==(2:Int))=true-> [Ins.mk (2:Int) (Ex.n x) qCHg]=l'/\qCHm=List.length l'/\qCHo=fzO qCHd)/\((Ex.op x==(2:Int))=false->((Ex.op x==(11:Int))=true->qCHg<=qCHg/\qCHg+qCHl<=(qCHh x)/\∀(x_1:Ex),(Ex.l x)[Int.toNat qCHg]? =some x_1->(qCHj x_1 m)/\∀(l'_1:List Ins),l'_1= []++cdX (qCHc x_1) qCHo->qCHg<=qCHl/\qCHl+qCHl<=(qCHh x)/\∀(x_2:Ex),(Ex.l x)[Int.toNat qCHl]? =some x_2->(qCHf l'_1 x_2 m)/\∀(l'_2:List Ins),l'_2=l'_1++cdX (qCHc x_2) (qCHi l'_1)->(qCHn l'_2 l'_1)/\∀(l'_3:List Ins),l'_3=List.take (qCHi l'_2) l'_2++ [Ins.mk (11:Int) qCHg qCHg]->(List.length l'_2+qCHm<=List.length l'_3/\fzO (qCHk l'_1)<=List.length l'_2+qCHm/\(List.length l'_2+qCHm+qCHm)*(24:Nat)<=(140737488355328:Nat))/\∀(l'_4:List Ins),l'_4=List.take (qCHe l'_2) l'_3++ [Ins.mk (13:Int) qCHg qCHg]->qCHg<=(2:Int)/\(2:Int)+qCHl<=(qCHh x)/\∀(x_3:Ex),(Ex.l x)[Int.toNat (2:Int)]? =some x_3->(List.length l'_2+qCHm+qCHm=List.length l'_4/\fzO (qCHk l'_1)<=List.length l'_4/\Ex.sz (qCHc x_3)+qCHm<=m/\Zo (qCHc x_3)=true/\List.length l'_4+List.length (cdX (qCHc x_3) (qCHi l'_4))<=(1000000000:Nat))/\∀(l'_5:List Ins),l'_5=l'_4++cdX (qCHc x_3) (qCHi l'_4)->(List.length l'_5<=List.length l'_5/\fzO (some (l'_4,fzO (qCHk l'_1)))<=List.length l'_5/\(qCHe l'_5)*(24:Nat)<=(140737488355328:Nat))/\∀(l'_6:List Ins),l'_6=List.take (qCHi l'_5) l'_5++ [Ins.mk (14:Int) qCHg qCHg]->(qCHg<=(↑(qCHe l'_2):Int)/\(↑(qCHe l'_2):Int)+qCHl<=(↑(qCHe l'_5):Int))/\fzO (some (l'_4,fzO (qCHk l'_1)))<=qCHo+Int.toNat (↑(qCHe l'_2):Int)/\qCHo+Int.toNat (↑(qCHe l'_2):Int)+qCHm<=List.length l'_6/\∀(x_4:Ins),l'_6[qCHo+Int.toNat (↑(qCHe l'_2):Int)]? =some x_4->∀(l'_7:List Ins),l'_7=List.set l'_6 (qCHo+Int.toNat (↑(qCHe l'_2):Int)) (Ins.mk (Ins.op x_4) (↑(qCHe l'_5):Int) (Ins.m x_4))->qCHg<=(3:Int)/\(3:Int)+qCHl<=(qCHh x)/\∀(x_5:Ex),(Ex.l x)[Int.toNat (3:Int)]? =some x_5->(List.length l'_5+qCHm=List.length l'_7/\fzO (some (l'_4,fzO (qCHk l'_1)))<=List.length l'_7/\Ex.sz (qCHc x_5)+qCHm<=m/\Zo (qCHc x_5)=true/\List.length l'_7+List.length (cdX (qCHc x_5) (qCHi l'_7))<=(1000000000:Nat))/\∀(l'_8:List Ins),l'_8=l'_7++cdX (qCHc x_5) (qCHi l'_7)->(qCHg<=(↑(qCHi l'_5):Int)/\(↑(qCHi l'_5):Int)+qCHl<=(↑(qCHi l'_8):Int))/\fzO (some (l'_7,fzO (some (l'_4,fzO (qCHk l'_1)))))<=qCHo+Int.toNat (↑(qCHi l'_5):Int)/\qCHo+Int.toNat (↑(qCHi l'_5):Int)+qCHm<=List.length l'_8/\∀(x:Ins),l'_8[qCHo+Int.toNat (↑(qCHi l'_5):Int)]? =some x->∀(l'_9:List Ins),l'_9=List.set l'_8 (qCHo+Int.toNat (↑(qCHi l'_5):Int)) (Ins.mk (Ins.op x) (↑(qCHi l'_8):Int) (Ins.m x))->l'_9=l'/\List.length l'_8=List.length l'/\fzO (some (l'_7,fzO (some (l'_4,fzO (qCHk l'_1)))))=fzO qCHd)/\((Ex.op x==(11:Int))=false->qCHg<=qCHg/\qCHg+qCHl<=(qCHh x)/\∀(x_1:Ex),(Ex.l x)[Int.toNat qCHg]? =some x_1->(qCHj x_1 m)/\∀(l'_1:List Ins),l'_1= []++cdX (qCHc x_1) qCHo->qCHg<=qCHl/\qCHl+qCHl<=(qCHh x)/\∀(x_2:Ex),(Ex.l x)[Int.toNat qCHl]? =some x_2->(qCHf l'_1 x_2 m)/\∀(l'_2:List Ins),l'_2=l'_1++cdX (qCHc x_2) (qCHi l'_1)->(qCHn l'_2 l'_1)/\∀(l'_3:List Ins),l'_3=List.take (qCHi l'_2) l'_2++ [Ins.mk (wr IntKind.i64 (wr IntKind.i64 ((3:Int)+Ex.op x)-(3:Int))) qCHg qCHg]->l'_3=l'/\List.length l'_2+qCHm=List.length l'/\fzO (qCHk l'_1)=fzO qCHd)))):=by kernel_rfl
theorem Zd2 (op n a b c d:Int) (l:List Ex):Ex.op (.mk op n a b c d l)=op:=rfl
theorem Z0x (op n a b c d:Int) (l:List Ex):Ex.n (.mk op n a b c d l)=n:=rfl
theorem Zr7 (op n a b c d:Int) (l:List Ex):Ex.l (.mk op n a b c d l)=l:=rfl
theorem Zkx {α:Type} {A r:List α} {a x:α} {k:Nat} (hk:k=A.length) (h:(A++a::r)[k]? =some x):x=a:=by
 subst hk
 simpa using h.symm
theorem Zky {α:Type} {A r:List α} {a b:α} {k:Nat} (hk:k=A.length):(A++a::r).set k b=A++b::r:=by
 subst hk
 simp
theorem Z0y {n a b c d:Int} {x y z w:Ex} {l l1 l2 l3 l4 l5 l6 l7 l8 l9:List Ins} {i4 i8:Ins} (e1:l1=l++cdX x l.length) (e2:l2=l1++cdX y l1.length) (e3:l3=l2.take l2.length++ [iOp 11])
 (e4:l4=l3.take (l2.length+1)++ [iOp 13]) (e5:l5=l4++cdX z l4.length) (e6:l6=l5.take l5.length++ [iOp 14]) (g4:l6[l2.length+1]? =some i4) (e7:l7=l6.set (l2.length+1) (Ins.mk i4.op (↑(l5.length+1):Int) i4.m))
 (e8:l8=l7++cdX w l7.length) (g8:l8[l5.length]? =some i8) (e9:l9=l8.set l5.length (Ins.mk i8.op (↑l8.length:Int) i8.m)):
 l9=l++cdX (.mk 11 n a b c d [x,y,z,w]) l.length/\l8.length=(l++cdX (.mk 11 n a b c d [x,y,z,w]) l.length).length:=by
 have n1:l1.length=l.length+(cdX x l.length).length:=by rw [e1,List.length_append]
 have n2:l2.length=l1.length+(cdX y l1.length).length:=by rw [e2,List.length_append]
 have e3:l3=l2++ [iOp 11]:=by rw [e3,List.take_length]
 have n3:l3.length=l2.length+1:=by rw [e3];simp
 have e4:l4=l3++ [iOp 13]:=by rw [e4,<-n3,List.take_length]
 have n4:l4.length=l2.length+2:=by rw [e4];simp [n3]
 have n5:l5.length=l4.length+(cdX z l4.length).length:=by rw [e5,List.length_append]
 have e6:l6=l3++iOp 13::(cdX z l4.length++ [iOp 14]):=by rw [e6,List.take_length,e5,e4];simp
 have h4:i4=iOp 13:=Zkx n3.symm (e6▸g4)
 subst h4
 have e7:l7=l3++iNN 13 (↑(l5.length+1):Int)::(cdX z l4.length++ [iOp 14]):=by rw [e7,e6,Zky n3.symm];rfl
 have n7:l7.length=l5.length+1:=by rw [e7];simp;omega
 have e7':l7=(l3++iNN 13 (↑(l5.length+1):Int)::cdX z l4.length)++ [iOp 14]:=by rw [e7];simp
 have nB:l5.length=(l3++iNN 13 (↑(l5.length+1):Int)::cdX z l4.length).length:=by simp;omega
 generalize hB:l3++iNN 13 (↑(l5.length+1):Int)::cdX z l4.length=B at e7' nB
 have e8':l8=B++iOp 14::cdX w l7.length:=by rw [e8];conv=>{lhs;lhs;rw [e7']};simp
 have h8:i8=iOp 14:=Zkx nB (e8'▸g8)
 subst h8
 have n8:l8.length=l7.length+(cdX w l7.length).length:=by rw [e8,List.length_append]
 have e9:l9=B++iNN 14 (↑l8.length:Int)::cdX w l7.length:=by
  have hs:=Zky (b:=iNN 14 (↑l8.length:Int)) (r:=cdX w l7.length) (a:=iOp 14) nB
  rw [<-e8'] at hs
  exact e9.trans hs
 have n9:l9.length=l8.length:=by rw [e9,e8'];simp
 have fin:l9=l++cdX (.mk 11 n a b c d [x,y,z,w]) l.length:=by
  have e2':l2=l++(cdX x l.length++cdX y l1.length):=by
   have:l1++cdX y l1.length=l++(cdX x l.length++cdX y l1.length):=by
    conv=>{lhs;lhs;rw [e1]}
    rw [List.append_assoc]
   exact e2.trans this
  rw [Zka (p:=l4.length) (q:=l7.length) (by rw [n4,n2,n1]) (by rw [n7,n5]),<-n1,e9,<-hB,e3,e2',<-n8,<-n7]
  simp [List.append_assoc]
 exact ⟨fin,by rw [<-fin,n9]⟩
theorem Zxj {n a b c d:Int} {x y z w:Ex} {o p q:Nat} (hp:p=o+(cdX x o).length+(cdX y (o+(cdX x o).length)).length+2) (hq:q=p+(cdX z p).length+1):
 o+(cdX (.mk 11 n a b c d [x,y,z,w]) o).length=q+(cdX w q).length:=by
 rw [Zka hp hq]
 simp
 omega
def CxOk (m:Nat):Prop:=∀x:Ex×Unit,Zyn E 26 Th.ins (dExp.enc x) (fun (l:List Ins)=>l++cdX x.1 l.length) (fun (l:List Ins)=>x.1.sz<m/\Zo x.1=true/\l.length+(cdX x.1 l.length).length<=1000000000)
theorem Zxk {m:Nat} (h:CxOk m):SumOk E 26 (Scx m):=Zqw E_ok (Zk rfl) h
theorem Zxl {m:Nat} (h:CxOk m):FnsOk E (Fcx m):=Zh F0_ok (Zxk h)
theorem bf {a b:Int} (h:a≠b):(a==b)=false:=by simp [h]
theorem Z0z {m:Nat} {l:List Ins} {fz:Nat} {x:Ex} (hf:fz<=l.length) (hs:x.sz<m+1) (hx:Zo x=true) (hl:l.length+(cdX x l.length).length<=1000000000):
 Zw E F0 (vc E (Fcx m) 400) 26 [.ptr 0 0,exA x] (hpP E Th.ins (some (l,fz))) 2 (prnK E Th.ins (some (l,fz)) (l++cdX x l.length)):=by
 rw [Zvn];delta qCH1 qCHb qCH2 qCH3 qCH4 qCH5 qCH6 qCH7 qCH8 qCH9 qCHa
 simp only [Ex.eta]
 rcases Y8 hx with ⟨op,n,a,b,c,d,rfl,ho⟩|⟨op,n,a,b,c,d,y,z,rfl,h3,h10,fy,fz'⟩|⟨n,a,b,c,d,y,z,u,v,rfl,fy,fz',fu,fv⟩
 · rw [Zj8 ho] at hl⊢
   simp only [Zd2,Z0x,List.take_length,fzO]
   have hl:l.length+1<=1000000000:=hl
   have key:∀k:Int,op=k->(l.length<=l.length/\fz<=l.length/\(l.length+1)*24<=140737488355328)/\∀l'_1:List Ins,l'_1=l++ [Ins.mk k n 0]->l'_1=l++ [iNN op n]/\l.length+1=(l++ [iNN op n]).length/\True:=by
    rintro k rfl
    refine ⟨⟨Nat.le_refl _,hf,by omega⟩,?_⟩
    rintro l1 rfl
    exact ⟨rfl,by simp,trivial⟩
   rcases ho with rfl|rfl
   · exact ⟨fun _=>key 1 rfl,fun q=>by simp at q⟩
   · exact ⟨fun q=>by simp at q,fun _=>⟨fun _=>key 2 rfl,fun q=>by simp at q⟩⟩
 · rw [sz_2] at hs
   rw [Zj9 h3 h10] at hl⊢
   simp only [Zd2,Zr7]
   refine ⟨fun q=>absurd q (by rw [bf (by omega)];simp),fun _=>⟨fun q=>absurd q (by rw [bf (by omega)];simp),fun _=>⟨fun q=>absurd q (by rw [bf (by omega)];simp),fun _=> ?_⟩⟩⟩
   simp only [List.length_append,List.length_cons,List.length_nil] at hl
   refine ⟨by decide,by simp,fun x1 g1=> ?_⟩
   obtain rfl:y=x1:=by simpa using g1
   refine ⟨⟨trivial,hf,by omega,fy,by omega⟩,fun l1 e1=>⟨by decide,by simp,fun x2 g2=> ?_⟩⟩
   obtain rfl:z=x2:=by simpa using g2
   have n1:l1.length=l.length+(cdX y l.length).length:=by rw [e1,List.length_append]
   rw [<-n1] at hl⊢
   have w1:fz<=l1.length:=by omega
   refine ⟨⟨trivial,w1,by omega,fz',by omega⟩,fun l2 e2=> ?_⟩
   have n2:l2.length=l1.length+(cdX z l1.length).length:=by rw [e2,List.length_append]
   have w2:fz<=l2.length:=by omega
   refine ⟨⟨Nat.le_refl _,w2,by omega⟩,fun l3 e3=> ?_⟩
   have wo:wr .i64 (wr .i64 (3+op)-3)=op:=by rw [wr64 (n:=3+op) (by omega) (by omega),wr64 (by omega) (by omega)];omega
   rw [wo,List.take_length] at e3
   have fin:l3=l++(cdX y l.length++cdX z l1.length++ [iOp op]):=by rw [e3,e2];conv=>{lhs;lhs;lhs;rw [e1]};simp [iOp]
   exact ⟨fin,by rw [<-fin,e3];simp,rfl⟩
 · rw [sz_4] at hs
   simp only [Zd2,Zr7]
   refine ⟨fun q=>absurd q (by decide),fun _=>⟨fun q=>absurd q (by decide),fun _=>⟨fun _=> ?_,fun q=>absurd q (by decide)⟩⟩⟩
   rw [Zxj rfl rfl] at hl
   refine ⟨by decide,by simp,fun x1 g1=> ?_⟩
   obtain rfl:y=x1:=by simpa using g1
   have hb:l.length+(cdX y l.length).length<=1000000000:=by omega
   refine ⟨⟨trivial,hf,by omega,fy,hb⟩,fun l1 e1=>⟨by decide,by simp,fun x2 g2=> ?_⟩⟩
   obtain rfl:z=x2:=by simpa using g2
   have n1:l1.length=l.length+(cdX y l.length).length:=by rw [e1,List.length_append]
   rw [<-n1] at hl
   have w1:fz<=l1.length:=by omega
   refine ⟨⟨trivial,w1,by omega,fz',by omega⟩,fun l2 e2=> ?_⟩
   have n2:l2.length=l1.length+(cdX z l1.length).length:=by rw [e2,List.length_append]
   rw [<-n2] at hl
   have w2:fz<=l2.length:=by omega
   refine ⟨⟨Nat.le_refl _,w2,by omega⟩,fun l3 e3=> ?_⟩
   have n3:l3.length=l2.length+1:=by rw [e3];simp
   refine ⟨⟨by omega,Nat.le_succ_of_le w2,by omega⟩,fun l4 e4=>⟨by decide,by simp,fun x3 g3=> ?_⟩⟩
   obtain rfl:u=x3:=by simpa using g3
   have n4:l4.length=l2.length+2:=by rw [e4];simp;omega
   rw [<-n4] at hl
   have w4:fz<=l4.length:=by omega
   refine ⟨⟨n4.symm,w4,by omega,fu,by omega⟩,fun l5 e5=> ?_⟩
   have n5:l5.length=l4.length+(cdX u l4.length).length:=by rw [e5,List.length_append]
   rw [<-n5] at hl
   have w5:fz<=l5.length:=by omega
   refine ⟨⟨Nat.le_refl _,w5,by omega⟩,fun l6 e6=>⟨⟨by omega,by omega⟩,?_⟩⟩
   have n6:l6.length=l5.length+1:=by rw [e6];simp
   have t1:(0:Nat)+Int.toNat (↑(l2.length+1):Int)=l2.length+1:=by omega
   have t2:(0:Nat)+Int.toNat (↑l5.length:Int)=l5.length:=by omega
   simp only [t1,t2]
   refine ⟨(by omega:fz<=l2.length+1),by omega,fun i4 g4 l7 e7=>⟨by decide,by simp,fun x4 gx=> ?_⟩⟩
   obtain rfl:v=x4:=by simpa using gx
   have n7:l7.length=l5.length+1:=by rw [e7,List.length_set,n6]
   rw [<-n7] at hl
   have w7:fz<=l7.length:=by omega
   refine ⟨⟨n7.symm,w7,by omega,fv,by omega⟩,fun l8 e8=> ?_⟩
   have n8:l8.length=l7.length+(cdX v l7.length).length:=by rw [e8,List.length_append]
   refine ⟨⟨by omega,by omega⟩,w5,by omega,fun i8 g8 l9 e9=> ?_⟩
   obtain ⟨r1,r2⟩:=Z0y (n:=n) (a:=a) (b:=b) (c:=c) (d:=d) e1 e2 e3 e4 e5 e6 g4 e7 e8 g8 e9
   exact ⟨r1,r2,rfl⟩
theorem Z00 {m:Nat} {x:Ex} (hs:x.sz<m+1) (hx:Zo x=true) (hl:([]:List Ins).length+(cdX x ([]:List Ins).length).length<=1000000000):
 Zw E F0 (vc E (Fcx m) 400) 26 [.ptr 0 0,exA x] (hpP E Th.ins none) 2 (prnK E Th.ins none (([]:List Ins)++cdX x ([]:List Ins).length)):=by
 rw [Zvo];delta qCHc qCHd qCHm qCHe qCHi qCHf qCHg qCHh qCHo qCHj qCHk qCHl qCHn
 simp only [Ex.eta]
 rcases Y8 hx with ⟨op,n,a,b,c,d,rfl,ho⟩|⟨op,n,a,b,c,d,y,z,rfl,h3,h10,fy,fz'⟩|⟨n,a,b,c,d,y,z,u,v,rfl,fy,fz',fu,fv⟩
 · rw [Zj8 ho] at hl⊢
   simp only [Zd2,Z0x]
   rcases ho with rfl|rfl
   · exact ⟨fun _=>⟨rfl,rfl,rfl⟩,fun q=>by simp at q⟩
   · exact ⟨fun q=>by simp at q,fun _=>⟨fun _=>⟨rfl,rfl,rfl⟩,fun q=>by simp at q⟩⟩
 · rw [sz_2] at hs
   rw [Zj9 h3 h10] at hl⊢
   simp only [Zd2,Zr7]
   refine ⟨fun q=>absurd q (by rw [bf (by omega)];simp),fun _=>⟨fun q=>absurd q (by rw [bf (by omega)];simp),fun _=>⟨fun q=>absurd q (by rw [bf (by omega)];simp),fun _=> ?_⟩⟩⟩
   simp only [List.length_append,List.length_cons,List.length_nil] at hl
   refine ⟨by decide,by simp,fun x1 g1=> ?_⟩
   obtain rfl:y=x1:=by simpa using g1
   refine ⟨⟨by omega,fy,by omega⟩,fun l1 e1=>⟨by decide,by simp,fun x2 g2=> ?_⟩⟩
   obtain rfl:z=x2:=by simpa using g2
   have n1:l1.length=([]:List Ins).length+(cdX y ([]:List Ins).length).length:=by rw [e1,List.length_append];rfl
   rw [<-List.length_nil (α:=Ins),<-n1] at hl
   rw [<-n1]
   have w1:0<=l1.length:=by omega
   refine ⟨⟨trivial,w1,by omega,fz',by omega⟩,fun l2 e2=> ?_⟩
   have n2:l2.length=l1.length+(cdX z l1.length).length:=by rw [e2,List.length_append]
   have w2:0<=l2.length:=by omega
   refine ⟨⟨Nat.le_refl _,w2,by omega⟩,fun l3 e3=> ?_⟩
   have wo:wr .i64 (wr .i64 (3+op)-3)=op:=by rw [wr64 (n:=3+op) (by omega) (by omega),wr64 (by omega) (by omega)];omega
   rw [wo,List.take_length] at e3
   have fin:l3=([]:List Ins)++(cdX y ([]:List Ins).length++cdX z l1.length++ [iOp op]):=by rw [e3,e2];conv=>{lhs;lhs;lhs;rw [e1]};simp [iOp]
   exact ⟨fin,by rw [<-fin,e3];simp,rfl⟩
 · rw [sz_4] at hs
   simp only [Zd2,Zr7]
   refine ⟨fun q=>absurd q (by decide),fun _=>⟨fun q=>absurd q (by decide),fun _=>⟨fun _=> ?_,fun q=>absurd q (by decide)⟩⟩⟩
   rw [Zxj rfl rfl] at hl
   refine ⟨by decide,by simp,fun x1 g1=> ?_⟩
   obtain rfl:y=x1:=by simpa using g1
   have hb:([]:List Ins).length+(cdX y ([]:List Ins).length).length<=1000000000:=by omega
   refine ⟨⟨by omega,fy,hb⟩,fun l1 e1=>⟨by decide,by simp,fun x2 g2=> ?_⟩⟩
   obtain rfl:z=x2:=by simpa using g2
   have n1:l1.length=([]:List Ins).length+(cdX y ([]:List Ins).length).length:=by rw [e1,List.length_append];rfl
   rw [<-n1] at hl
   have w1:0<=l1.length:=by omega
   refine ⟨⟨trivial,w1,by omega,fz',by omega⟩,fun l2 e2=> ?_⟩
   have n2:l2.length=l1.length+(cdX z l1.length).length:=by rw [e2,List.length_append]
   rw [<-n2] at hl
   have w2:0<=l2.length:=by omega
   refine ⟨⟨Nat.le_refl _,w2,by omega⟩,fun l3 e3=> ?_⟩
   have n3:l3.length=l2.length+1:=by rw [e3];simp
   refine ⟨⟨by omega,Nat.le_succ_of_le w2,by omega⟩,fun l4 e4=>⟨by decide,by simp,fun x3 g3=> ?_⟩⟩
   obtain rfl:u=x3:=by simpa using g3
   have n4:l4.length=l2.length+2:=by rw [e4];simp;omega
   rw [<-n4] at hl
   have w4:0<=l4.length:=by omega
   refine ⟨⟨n4.symm,w4,by omega,fu,by omega⟩,fun l5 e5=> ?_⟩
   have n5:l5.length=l4.length+(cdX u l4.length).length:=by rw [e5,List.length_append]
   rw [<-n5] at hl
   have w5:0<=l5.length:=by omega
   refine ⟨⟨Nat.le_refl _,w5,by omega⟩,fun l6 e6=>⟨⟨by omega,by omega⟩,?_⟩⟩
   have n6:l6.length=l5.length+1:=by rw [e6];simp
   have t1:(0:Nat)+Int.toNat (↑(l2.length+1):Int)=l2.length+1:=by omega
   have t2:(0:Nat)+Int.toNat (↑l5.length:Int)=l5.length:=by omega
   simp only [t1,t2]
   refine ⟨(by omega:0<=l2.length+1),by omega,fun i4 g4 l7 e7=>⟨by decide,by simp,fun x4 gx=> ?_⟩⟩
   obtain rfl:v=x4:=by simpa using gx
   have n7:l7.length=l5.length+1:=by rw [e7,List.length_set,n6]
   rw [<-n7] at hl
   have w7:0<=l7.length:=by omega
   refine ⟨⟨n7.symm,w7,by omega,fv,by omega⟩,fun l8 e8=> ?_⟩
   have n8:l8.length=l7.length+(cdX v l7.length).length:=by rw [e8,List.length_append]
   refine ⟨⟨by omega,by omega⟩,w5,by omega,fun i8 g8 l9 e9=> ?_⟩
   obtain ⟨r1,r2⟩:=Z0y (l:= []) (n:=n) (a:=a) (b:=b) (c:=c) (d:=d) e1 e2 e3 e4 e5 e6 g4 e7 e8 g8 e9
   exact ⟨r1,r2,rfl⟩
theorem Zkz:∀m,CxOk m
 |0=>fun x=>⟨fun l fz hf hp=>absurd hp.1 (by omega),fun hp=>absurd hp.1 (by omega)⟩
 |m+1=>fun x=>⟨fun l fz hf hp=>Wk E_ok (Xs E_ok F0_ok fun f N c=>(Zf2 E_ok (Zxl (Zkz m)) 400 f N c).1) rfl (Z0z hf hp.1 hp.2.1 hp.2.2),
  fun hp=>Wk E_ok (Xs E_ok F0_ok fun f N c=>(Zf2 E_ok (Zxl (Zkz m)) 400 f N c).1) rfl (Z00 hp.1 hp.2.1 hp.2.2)⟩
end
section
open Go.RowKit
theorem Ext.range {w w':World} (h:Ext w w') {b o:Nat} {cs:List Value} (hr:w.rangeAt b o cs):w'.rangeAt b o cs:=
 fun j v hv=>h.cell (hr j v hv)
def I64 (x:Int):Prop:=True
def SlIn {α:Type} (w:World) (k:Nat) (R:List Value->α->Prop) (sv:Value) (l:List α):Prop:=
 ∃A cap,sv= .slice A l.length cap/\l.length<=cap/\cap<=9223372036854775807/\
  (0<l.length->∃b o,A=some ⟨b,o,none⟩/\b<w.heap.size/\∀i x,l[i]? =some x->∃cs,cs.length=k/\w.rangeAt b (o+i*k) cs/\R cs x)
theorem SlIn.mono {α:Type} {w w':World} {k:Nat} {R R':List Value->α->Prop} {sv:Value} {l:List α} (h:SlIn w k R sv l) (hx:Ext w w') (hR:∀cs x,x∈l->R cs x->R' cs x):SlIn w' k R' sv l:=by
 obtain ⟨A,cap,rfl,h1,h2,h3⟩:=h
 refine ⟨A,cap,rfl,h1,h2,fun h0=> ?_⟩
 obtain ⟨b,o,rfl,hb,h4⟩:=h3 h0
 refine ⟨b,o,rfl,Nat.lt_of_lt_of_le hb hx.size,fun i x hi=> ?_⟩
 obtain ⟨cs,hl,hr,hR1⟩:=h4 i x hi
 exact ⟨cs,hl,hx.range hr,hR cs x (List.mem_of_getElem? hi) hR1⟩
def exT0:Ex:= .mk 0 0 0 0 0 0 []
def ExIn (w:World):Nat->List Value->Ex->Prop
 |0,_,_=>False
 |d+1,cs,.mk op n u0 u1 u2 u3 l=>∃sv,cs= [.int .i64 op,.int .i64 n,.int .i64 u0,.int .i64 u1,.int .i64 u2,.int .i64 u3,sv]/\
  I64 op/\I64 n/\I64 u0/\I64 u1/\I64 u2/\I64 u3/\SlIn w 7 (ExIn w d) sv l
theorem ExIn.ext {w w':World} (hx:Ext w w'):∀{d:Nat} {cs:List Value} {e:Ex},ExIn w d cs e->ExIn w' d cs e:=by
 intro d
 induction d with
 |zero=>intro cs e h;exact h.elim
 |succ d ih=>
  intro cs e h
  cases e with
  |mk op n u0 u1 u2 u3 l=>
   obtain ⟨sv,hcs,h0,h1,h2,h3,h4,h5,hs⟩:=h
   exact ⟨sv,hcs,h0,h1,h2,h3,h4,h5,hs.mono hx fun cs x _ hR=>ih hR⟩
theorem ExIn.len {w:World} {d:Nat} {cs:List Value} {e:Ex} (h:ExIn w d cs e):cs.length=7:=by
 cases d with
 |zero=>exact h.elim
 |succ d=>cases e with|mk op n u0 u1 u2 u3 l=>obtain ⟨sv,rfl,_⟩:=h;rfl
def ExR (w:World) (cs:List Value) (e:Ex):Prop:=∃d,ExIn w d cs e
theorem ExR.ext {w w':World} (hx:Ext w w') {cs:List Value} {e:Ex} (h:ExR w cs e):ExR w' cs e:=h.elim fun d h=>⟨d,h.ext hx⟩
theorem ExIn.open_ {w:World} {d:Nat} {cs:List Value} {e:Ex} (h:ExIn w d cs e):
 ∃A cap u0 u1 u2 u3,cs= [.int .i64 e.op,.int .i64 e.n,.int .i64 u0,.int .i64 u1,.int .i64 u2,.int .i64 u3,.slice A e.l.length cap]/\I64 e.op/\I64 e.n/\e.l.length<=9223372036854775807/\e.l.length<=cap/\
  (0<e.l.length->∃b o,A=some ⟨b,o,none⟩/\b<w.heap.size/\∀i x,e.l[i]? =some x->∃cs,cs.length=7/\w.rangeAt b (o+i*7) cs/\ExIn w (d-1) cs x):=by
 cases d with
 |zero=>exact h.elim
 |succ d=>
  cases e with
  |mk op n u0 u1 u2 u3 l=>
   obtain ⟨sv,rfl,h0,h1,h2,h3,h4,h5,A,cap,rfl,h6,h7,hs⟩:=h
   exact ⟨A,cap,u0,u1,u2,u3,rfl,h0,h1,Nat.le_trans h6 h7,h6,hs⟩
def Za6 (g:Ex->Nat->Nat):List Ex->Nat->Nat->Nat
 | [],n,_=>n
 |x::xs,n,limit=>if n<limit then Za6 g xs (n+g x (limit-n)) limit else n
def Zbo:Nat->Ex->Nat->Nat
 |0,_,_=>1
 |f+1,e,limit=>Za6 (Zbo f) e.l 1 limit
theorem Zvq {g:Ex->Nat->Nat} (limit:Nat):∀(l:List Ex) (n:Nat),(∀x m,1<=m->m<limit->g x m<=m)->1<=n->n<=limit->Za6 g l n limit<=limit:=by
 intro l
 induction l with
 |nil=>intro n _ _ h;exact h
 |cons x xs ih=>
  intro n hg h1 hn
  simp only [Za6]
  split
  · have:=hg x (limit-n) (by omega) (by omega)
    exact ih _ hg (by omega) (by omega)
  · exact hn
theorem Zph {g:Ex->Nat->Nat} {n limit:Nat} (l:List Ex) (h:¬n<limit):Za6 g l n limit=n:=by
 cases l with
 |nil=>rfl
 |cons x xs=>simp only [Za6,if_neg h]
theorem Zvr:∀(f:Nat) (e:Ex) (limit:Nat),1<=limit->Zbo f e limit<=limit:=by
 intro f
 induction f with
 |zero=>intro e limit h;exact h
 |succ f ih=>intro e limit h;exact Zvq limit _ _ (fun x m hm _=>ih x m hm) (Nat.le_refl _) h
def opsF (op:Int):Int:=if op<1\/11<op then-1 else if op<=2 then 0 else if op=11 then 4 else 2
def Wv:Nat->Ex->Bool
 |0,_=>false
 |d+1,e=>decide ((e.l.length:Int)=opsF e.op)&&
  (if e.op=1 then decide (0<=e.n)&&decide (e.n<=1099511627776) else if e.op=2 then decide (0<=e.n)&&decide (e.n<16) else e.l.all (Wv d))
theorem Zpi {d:Nat} {e:Ex} (h:Wv (d+1) e=true) (h1:¬e.op=1) (h2:¬e.op=2):
 3<=e.op/\e.op<=11/\(e.op=11->e.l.length=4)/\(e.op≠11->e.l.length=2)/\∀i,i<e.l.length->Wv d (e.l.getD i exT0)=true:=by
 simp only [Wv,if_neg h1,if_neg h2,Bool.and_eq_true,decide_eq_true_eq,List.all_eq_true] at h
 obtain ⟨hl,ha⟩:=h
 unfold opsF at hl
 have hr:3<=e.op/\e.op<=11:=by
  refine ⟨?_,?_⟩<;>(split at hl<;>omega)
 rw [if_neg (by omega),if_neg (by omega)] at hl
 refine ⟨hr.1,hr.2,fun h=> ?_,fun h=> ?_,fun i hi=>ha _ ?_⟩
 · rw [if_pos h] at hl;omega
 · rw [if_neg h] at hl;omega
 · simp only [List.getD,gB9 hi,Option.getD_some];exact List.getElem_mem _
theorem Zpj {d:Nat} {e:Ex} (h:Wv (d+1) e=true) (h1:e.op=2):e.l= []/\0<=e.n/\e.n<16:=by
 have h2:¬e.op=1:=by omega
 simp only [Wv,if_pos h1,if_neg h2,Bool.and_eq_true,decide_eq_true_eq] at h
 rw [h1] at h
 exact ⟨List.eq_nil_of_length_eq_zero (by have:=h.1;unfold opsF at this;simpa using this),h.2⟩
structure Ev where
 has:Int
 v:List Int
def Ev.cells (x:Ev):List Value:= .int .i64 x.has::x.v.map (Value.int .i64)
def Ev.ok (x:Ev):Prop:=x.v.length=16/\I64 x.has/\∀y∈x.v,I64 y
def bitF (n:Int) (a:Nat):Bool:=decide ((n/2^a)%2=1)
def Z8 (x:Ev) (a:Nat):Int×Int:=if !bitF x.has a then (0,181) else if inR (x.v.getD a 0) then (x.v.getD a 0,0) else (0,3)
def Za7 (op a b:Int):Int×Int:=
 if op=3 then addF a b else if op=4 then subF a b else if op=5 then mulF a b else if op=6 then (min a b,0) else if op=7 then (max a b,0) else divF a b op
def Zd:Nat->Ex->Ev->Int×Int
 |0,_,_=>(0,0)
 |d+1,e,x=>
  if e.op=1 then (e.n,0) else if e.op=2 then Z8 x e.n.toNat else
  let a:=Zd d (e.l.getD 0 exT0) x
  if a.2≠0 then (0,a.2) else
  let b:=Zd d (e.l.getD 1 exT0) x
  if b.2≠0 then (0,b.2) else
  if e.op≠11 then Za7 e.op a.1 b.1 else
  if a.1<b.1 then Zd d (e.l.getD 2 exT0) x else Zd d (e.l.getD 3 exT0) x
theorem Zza {c:Prop} [Decidable c] {p q:Int×Int} (hp:p.2≠0->p.1=0) (hq:q.2≠0->q.1=0):(if c then p else q).2≠0->(if c then p else q).1=0:=by
 split
 · exact hp
 · exact hq
theorem Zpk (op a b:Int):(Za7 op a b).2≠0->(Za7 op a b).1=0:=by
 unfold Za7 addF subF mulF divF
 repeat' refine Zza ?_ ?_
 all_goals first|exact rngF_errX _|simp
theorem Zr8 (x:Ev) (a:Nat) (h:(Z8 x a).2≠0):(Z8 x a).1=0:=by
 unfold Z8 at h⊢;repeat' split at h
 all_goals simp_all
theorem Zd4:∀(d:Nat) (e:Ex) (x:Ev),(Zd d e x).2≠0->(Zd d e x).1=0
 |0,_,_,h=>absurd rfl h
 |d+1,e,x,h=>by
  have i0:=Zd4 d (e.l.getD 2 exT0) x
  have i1:=Zd4 d (e.l.getD 3 exT0) x
  unfold Zd at h⊢
  by_cases h1:e.op=1
  · simp only [if_pos h1] at h;exact absurd rfl h
  · by_cases h2:e.op=2
    · simp only [if_neg h1,if_pos h2] at h⊢;exact Zr8 _ _ h
    · simp only [if_neg h1,if_neg h2] at h⊢
      by_cases h3:(Zd d (e.l.getD 0 exT0) x).2≠0
      · rw [if_pos h3]
      · rw [if_neg h3] at h⊢
        by_cases h4:(Zd d (e.l.getD 1 exT0) x).2≠0
        · rw [if_pos h4]
        · rw [if_neg h4] at h⊢
          by_cases h5:e.op≠11
          · rw [if_pos h5] at h⊢;exact Zpk _ _ _ h
          · rw [if_neg h5] at h⊢
            split at h
            · rw [if_pos ‹_›];exact i0 h
            · rw [if_neg ‹_›];exact i1 h
def Zaf (e:Ex) (x:Ev):Int×Int:=if Wv 24 e then Zd 24 e x else (0,1)
end
section
open Go.RowKit
theorem Y2:(Tryd.prog.info? 35).map (·.size)=some 7:=by kernel_rfl
set_option maxHeartbeats 1000000 in
theorem Z11 (f:Nat):∀(limit:Nat) (d:Nat) (cs:List Value) (e:Ex) (w:World),1<=limit->limit<=f->limit<=100000->ExIn w d cs e->
 Calls Tryd.prog 5 #[.agg cs.toArray,.int .i64 limit] w fun en w'=>en= .returned (.int .i64 (Zbo (f+1) e limit))/\Ext w w':=by
 induction f with
 |zero=>intro limit d cs e w h1 h2;omega
 |succ f ih=>
  intro limit d cs e w h1 h2 h3 he
  have ih':=Lib.hid ih
  clear ih
  have hfin:Zbo (f+1+1) e limit=Za6 (Zbo (f+1)) e.l 1 limit:=rfl
  rw [hfin]
  clear hfin
  obtain ⟨A,cap,u0,u1,u2,u3,rfl,_,_,hlen,hcap,hel⟩:=he.open_
  generalize e.l=l at*
  generalize hn:l.length=n at*
  have HN:=Lib.hid hn
  have HEL:=Lib.hid hel
  clear hn hel he
  go_enter Tryd.func5,Tryd.ntmps5
  go_wp2_with fail
  generalize hw0:w.alloc _=w0
  have hx0:Ext w w0:=by rw [<-hw0];exact (Ext.refl _).alloc _
  have hc0:w0.cell? ⟨w.heap.size,6,none⟩=some (.slice A n cap):=by rw [<-hw0];simp [go_sem]
  clear hw0
  go_loopw [5,6] (fun n5 i wr=>∃k q:Nat,k<=n/\i= .int .i64 k/\n5= .int .i64 q/\1<=q/\q<=limit/\Hid (Za6 (Zbo (f+1)) (l.drop k) q limit=Za6 (Zbo (f+1)) l 1 limit)/\Ext w0 wr) (fun _ i _=>n-(intOf i).toNat)
  case atStart=>exact ⟨0,1,Nat.zero_le _,rfl,rfl,Nat.le_refl _,h1,rfl,Ext.refl _⟩
  case round=>
   obtain ⟨k,q,hk,rfl,rfl,hq1,hq2,HR,hx⟩:=hrel
   have hc:=hx.cell hc0
   by_cases hlt:k<n
   · by_cases hql:q<limit
     · obtain ⟨b,o,rfl,hb,hi⟩:=HEL.out (by omega)
       have hlk:k<l.length:=by rw [HN.out];exact hlt
       obtain ⟨cs1,hl1,hr1,hE1⟩:=hi k l[k] (gB9 hlk)
       have hE2:=(hE1.ext hx0).ext hx
       have hr2:=hx.range (hx0.range hr1)
       have HL1:=Lib.hid hl1
       have hsz:=Zvr (f+1) l[k] (limit-q) (by omega)
       have hstep:Za6 (Zbo (f+1)) (l.drop k) q limit=Za6 (Zbo (f+1)) (l.drop (k+1)) (q+Zbo (f+1) l[k] (limit-q)) limit:=by
        rw [List.drop_eq_getElem_cons hlk]
        simp only [Za6,if_pos hql]
       have hcall:=Lib.hid (ih'.out (limit-q) _ cs1 l[k] _ (by omega) (by omega) (by omega) hE2)
       have hcast:((limit-q:Nat):Int)=(limit:Int)-q:=by omega
       rw [hcast] at hcall
       have HC:=hcall
       have HS:=Lib.hid hstep
       clear hstep hcall hcast hi hr1 hE1 hE2 hl1
       generalize Zbo (f+1) l[k] (limit-q)=m at*
       go_wp2_with (refine wpList_load_mid rfl 35 _ rfl b (o+k*7) rfl cs1 _ hr2 Tryd.underlying35 rfl (by rw [HL1.out];exact Y2) ?_)
       refine HC.out.mono ?_
       rintro e1 w1 ⟨rfl,hx1⟩
       go_wp2_with fail
       go_roundw
       case rel=>exact ⟨k+1,q+m,by omega,by go_num,by go_num,by omega,by omega,HS.out.symm.trans HR.out,hx.trans hx1⟩
       case measure=>simp [intOf];omega
     · have hst:Za6 (Zbo (f+1)) (l.drop k) q limit=q:=Zph _ hql
       rw [hst] at HR
       clear hst
       go_wp2_with fail
       go_ret
       exact ⟨Vd (by rw [HR.out]),hx0.trans hx⟩
   · have hst:Za6 (Zbo (f+1)) (l.drop k) q limit=q:=by
      rw [List.drop_of_length_le (by rw [HN.out];omega)];rfl
     rw [hst] at HR
     clear hst
     go_wp2_with fail
     go_ret
     exact ⟨Vd (by rw [HR.out]),hx0.trans hx⟩
set_option maxHeartbeats 400000 in
theorem Zvs (op:Int) (w:World):Calls Tryd.prog 64 #[.int .i64 op] w fun en w'=>en= .returned (.int .i64 (opsF op))/\w=w':=by
 by_cases h1:op<1
 · go_enter Tryd.func64,Tryd.ntmps64
   go_wp2_with fail
   go_ret
   exact ⟨Vd (by unfold opsF;rw [if_pos (by omega)]),rfl⟩
 · by_cases h2:11<op
   · go_enter Tryd.func64,Tryd.ntmps64
     go_wp2_with fail
     go_ret
     exact ⟨Vd (by unfold opsF;rw [if_pos (by omega)]),rfl⟩
   · have h3:op=1\/op=2\/op=3\/op=4\/op=5\/op=6\/op=7\/op=8\/op=9\/op=10\/op=11:=by omega
     clear h1 h2
     rcases h3 with rfl|rfl|rfl|rfl|rfl|rfl|rfl|rfl|rfl|rfl|rfl
     all_goals
      go_enter Tryd.func64,Tryd.ntmps64
      go_wp2_with fail
      go_ret
      exact ⟨Vd (by decide),rfl⟩
theorem Zzb (op:Int): -1<=opsF op/\opsF op<=4:=by unfold opsF;(repeat' split)<;>omega
set_option maxHeartbeats 1000000 in
theorem Ziw (dn:Nat):∀(d:Nat) (cs:List Value) (e:Ex) (w:World),dn<=1000->ExIn w d cs e->
 Calls Tryd.prog 37 #[.agg cs.toArray,.int .i64 dn] w fun en w'=>en= .returned (.bool (Wv dn e))/\Ext w w':=by
 induction dn with
 |zero=>
  intro d cs e w h3 he
  obtain ⟨A,cap,u0,u1,u2,u3,rfl,_,_,hlen,hcap,hel⟩:=he.open_
  clear hel he
  go_enter Tryd.func37,Tryd.ntmps37
  go_wp2_with fail
  go_quiet (fail)
  go_wp2_with fail
  go_ret
  exact ⟨X6 rfl,((Ext.refl _).alloc _).drewN _⟩
 |succ dn ih=>
  intro d cs e w h3 he
  have ih':=Lib.hid ih
  clear ih
  rw [show ((dn+1:Nat):Int)=(dn:Int)+1 from by omega]
  have hfin:Wv (dn+1) e=(decide ((e.l.length:Int)=opsF e.op)&&
   (if e.op=1 then decide (0<=e.n)&&decide (e.n<=1099511627776) else if e.op=2 then decide (0<=e.n)&&decide (e.n<16) else e.l.all (Wv dn))):=rfl
  have HF:=Lib.hid hfin
  clear hfin
  generalize Wv (dn+1) e=r at*
  obtain ⟨A,cap,u0,u1,u2,u3,rfl,_,_,hlen,hcap,hel⟩:=he.open_
  generalize e.l=l at*
  generalize e.op=op at*
  generalize e.n=nn at*
  generalize hn:l.length=n at*
  have HN:=Lib.hid hn
  have HEL:=Lib.hid hel
  have hops:=Zzb op
  have ho:=fun w=>Zvs op w
  generalize opsF op=q at*
  have HO:=Lib.hid ho
  clear hn hel he ho
  by_cases hnq:(n:Int)=q
  · have hb:((n:Int) !=q)=false:=by rw [bne_eq_false_iff_eq];exact hnq
    have HD:=Lib.hid hnq
    clear hnq
    by_cases h1:op=1
    · subst h1
      go_enter Tryd.func37,Tryd.ntmps37
      go_wp2_with fail
      go_quiet ((go_at_call 64;exact Calls.quiet_of_same ((HO.out _).mono fun _ _ h=>⟨h.1,h.2.symm⟩)))
      go_wp2_with fail
      all_goals go_ret
      all_goals exact ⟨X6 (by rw [HF.out,Bool.eq_iff_iff];simp [HD.out];try omega),((Ext.refl _).alloc _).drewN _⟩
    · by_cases h2:op=2
      · subst h2
        go_enter Tryd.func37,Tryd.ntmps37
        go_wp2_with fail
        go_quiet ((go_at_call 64;exact Calls.quiet_of_same ((HO.out _).mono fun _ _ h=>⟨h.1,h.2.symm⟩)))
        go_wp2_with fail
        all_goals go_ret
        all_goals exact ⟨X6 (by rw [HF.out,Bool.eq_iff_iff];simp [HD.out];try omega),((Ext.refl _).alloc _).drewN _⟩
      · have e0:((dn:Int)+1==0)=false:=by rw [beq_eq_false_iff_ne];omega
        have e1:(op==1)=false:=by simpa using h1
        have e2:(op==2)=false:=by simpa using h2
        have HF2:=Lib.hid (show r=l.all (Wv dn) by rw [HF.out];simp [HD.out,h1,h2])
        clear HF h1 h2
        go_enter Tryd.func37,Tryd.ntmps37
        go_wp2_with fail
        go_quiet ((go_at_call 64;exact Calls.quiet_of_same ((HO.out _).mono fun _ _ h=>⟨h.1,h.2.symm⟩)))
        go_wp2_with fail
        generalize hw0:World.drewN _ _=w0
        have hx0:Ext w w0:=by rw [<-hw0];exact ((Ext.refl _).alloc _).drewN _
        clear hw0
        go_loopw [43] (fun i wr=>∃k:Nat,k<=n/\i= .int .i64 k/\Hid ((l.take k).all (Wv dn)=true)/\Ext w0 wr) (fun i _=>n-(intOf i).toNat)
        case atStart=>exact ⟨0,Nat.zero_le _,rfl,rfl,Ext.refl _⟩
        case round=>
         obtain ⟨k,hk,rfl,HR,hx⟩:=hrel
         by_cases hlt:k<n
         · obtain ⟨b,o,rfl,hb,hi⟩:=HEL.out (by omega)
           have hlk:k<l.length:=by rw [HN.out];exact hlt
           obtain ⟨cs1,hl1,hr1,hE1⟩:=hi k l[k] (gB9 hlk)
           have hE2:=(hE1.ext hx0).ext hx
           have hr2:=hx.range (hx0.range hr1)
           have HL1:=Lib.hid hl1
           have hts:l.take (k+1)=l.take k++ [l[k]]:=List.take_succ_eq_append_getElem hlk
           have hm:l[k]∈l:=List.getElem_mem _
           have HT:=Lib.hid hts
           have HM:=Lib.hid hm
           generalize l[k]=x at*
           obtain ⟨A1,cap1,v0,v1,v2,v3,rfl,_⟩:=hE2.open_
           have hcall:=fun (W:World) (h:Ext wr W)=>ih'.out _ _ x W (by omega) (hE2.ext h)
           cases hfx:Wv dn x
           · rw [hfx] at hcall
             have HC:=Lib.hid hcall
             have HX:=Lib.hid hfx
             clear hcall hi hr1 hE1 hE2 hl1 hts hm hfx
             go_wp2_with (refine wpList_load_mid rfl 35 _ rfl b (o+k*7) rfl _ _ hr2 Tryd.underlying35 rfl Y2 ?_)
             refine (HC.out _ ((Ext.refl _).alloc _)).mono ?_
             rintro e1 w1 ⟨rfl,hx1⟩
             go_wp2_with fail
             go_ret
             refine ⟨X6 ?_,(hx0.trans hx).trans (((Ext.refl _).alloc _).trans hx1)⟩
             rw [HF2.out,eq_comm,List.all_eq_false]
             exact ⟨x,HM.out,by simp [HX.out]⟩
           · rw [hfx] at hcall
             have HC:=Lib.hid hcall
             have HX:=Lib.hid hfx
             clear hcall hi hr1 hE1 hE2 hl1 hts hm hfx
             go_wp2_with (refine wpList_load_mid rfl 35 _ rfl b (o+k*7) rfl _ _ hr2 Tryd.underlying35 rfl Y2 ?_)
             refine (HC.out _ ((Ext.refl _).alloc _)).mono ?_
             rintro e1 w1 ⟨rfl,hx1⟩
             go_wp2_with fail
             go_roundw
             case rel=>exact ⟨k+1,by omega,by go_num,(by rw [HT.out,List.all_append,HR.out];simp [HX.out]:(l.take (k+1)).all (Wv dn)=true),hx.trans (((Ext.refl _).alloc _).trans hx1)⟩
             case measure=>simp [intOf];omega
         · have hkn:l.length<=k:=by rw [HN.out];omega
           have HK:=Lib.hid hkn
           clear hkn
           go_wp2_with fail
           go_ret
           exact ⟨X6 (by rw [HF2.out,<-HR.out,List.take_of_length_le HK.out]),hx0.trans hx⟩
  · have hb:((n:Int) !=q)=true:=by rw [bne_iff_ne];exact hnq
    have HD:=Lib.hid hnq
    clear hnq
    go_enter Tryd.func37,Tryd.ntmps37
    go_wp2_with fail
    go_quiet ((go_at_call 64;exact Calls.quiet_of_same ((HO.out _).mono fun _ _ h=>⟨h.1,h.2.symm⟩)))
    go_wp2_with fail
    go_ret
    exact ⟨X6 (by rw [HF.out];simp [HD.out]),((Ext.refl _).alloc _).drewN _⟩
end
section
open Go.RowKit
section
variable {P:Program} {ops:Array Oper} {Q:Exit->Act->World->Prop} {S:World->Prop}
def ordB (ops:Array Oper):List (Nat×Bool)->Array Bool->Bool
 | [],listed=>(Region.ready .any ops listed).isEmpty
 |(i,true)::r,listed=>(Region.ready .any ops listed).contains i&&Region.free .any ops listed i&&ordB ops r (listed.setIfInBounds i true)
 |(i,false)::r,listed=>decide (Region.ready .any ops listed= [i])&&ordB ops r (listed.setIfInBounds i true)
def Zkb (P:Program) (ops:Array Oper) (Q:Exit->Act->World->Prop) (S:World->Prop):List (Nat×Bool)->Act->World->Prop
 | [],a,w=>Q .normal a w
 |(i,true)::r,a,w=>∃o v,ops[i]? =some o/\YieldsIf P ops S o v a/\Zkb P ops Q S r (a.put o.dst v) w
 |(i,false)::r,a,w=>∃o,ops[i]? =some o/\Region.wanted o (yielded ops a.tmps)=true/\o.wp P a w (fun a' w'=>S w'/\Zkb P ops Q S r a' w') Q
theorem W8 (hsel:Region.noSelect ops=true):
 ∀(ord:List (Nat×Bool)) (listed:Array Bool) (a:Act) (w:World),(∀p∈ord,p.2=true->∀o,ops[p.1]? =some o->∀c a w v,Q (.panic c) (a.put o.dst v) w->Q (.panic c) a w)->
  ordB ops ord listed=true->S w->Zkb P ops Q S ord a w->wpAnyH P .any ops Q S ord.length listed a w
 | [],listed,a,w,hQ,hB,hS,h=>wpAnyH_done (by simpa [ordB] using hB) h 0
 |(i,true)::r,listed,a,w,hQ,hB,hS,h=>by
  simp only [ordB,Bool.and_eq_true] at hB
  obtain ⟨o,v,ho,hy,h⟩:=h
  exact wpAnyH_take ho hsel hB.1.2 hB.1.1 (fun c a w hq=>hQ (i,true) (by simp) rfl o ho c a w _ hq) hy hS (W8 hsel r _ _ _ (fun p hp=>hQ p (by simp [hp])) hB.2 hS h)
 |(i,false)::r,listed,a,w,hQ,hB,hS,h=>by
  simp only [ordB,Bool.and_eq_true,decide_eq_true_eq] at hB
  obtain ⟨o,ho,hw,h⟩:=h
  refine wpAnyH_all hB.1 (by simp) fun j hj=> ?_
  obtain rfl:j=i:=by simpa using hj
  unfold wpOp
  simp only [ho,hw,if_true]
  refine .inl (Oper.wp_mono ?_ h)
  intro a' w' ⟨hS',h'⟩
  exact ⟨hS',W8 hsel r _ _ _ (fun p hp=>hQ p (by simp [hp])) hB.2 hS' h'⟩
theorem Uv {id:Nat} {a:Act} {w:World} {l:List Oper} (ord:List (Nat×Bool)) (S:World->Prop) (hm:P.follows .mixedOrders=true)
 (hB:(Region.noSelect l.toArray&&decide (ord.length=l.length)&&ordB l.toArray ord (Array.replicate l.toArray.size false))=true)
 (hQ:∀p∈ord,p.2=true->∀o,l.toArray[p.1]? =some o->∀c a w v,Q (.panic c) (a.put o.dst v) w->Q (.panic c) a w) (hS:S w.drew) (h:Zkb P l.toArray Q S ord a w.drew):(Code.region id l.toArray true).wp P Q a w:=by
 simp only [Bool.and_eq_true,decide_eq_true_eq] at hB
 refine wp_region_held_drew (S:=S) hm hS fun hS=> ?_
 have:=W8 (Q:=Q) hB.1.1 ord _ a w.drew hQ hB.2 hS h
 rw [hB.1.2] at this
 simpa using this
theorem Zf9 {id:Nat} {a:Act} {w:World} {l:List Oper} (ord:List (Nat×Bool)) (S:World->Prop) (hm:P.follows .mixedOrders=true)
 (hB:(Region.noSelect l.toArray&&decide (ord.length=l.length)&&ordB l.toArray ord (Array.replicate l.toArray.size false))=true)
 (hQ:∀c a w d v,Q (.panic c) (a.put d v) w->Q (.panic c) a w) (hS:S w.drew) (h:Zkb P l.toArray Q S ord a w.drew):(Code.region id l.toArray true).wp P Q a w:=
 Uv ord S hm hB (fun _ _ _ _ _ c a w v hq=>hQ c a w _ v hq) hS h
theorem Zga {o:Oper} {a:Act} {v:Value} (h:Region.wanted o (yielded ops a.tmps)=true) (hr:∀w,S w->(execOp a.eval o).run P w= .ok (.value v) w):YieldsIf P ops S o v a:= .inl ⟨h,hr⟩
end
end
section
open Go.RowKit
theorem X7:(Tryd.prog.info? 27).map (·.size)=some 17:=by kernel_rfl
theorem Ev.cell (x:Ev) (hx:x.ok) (a:Nat) (ha:a<16):x.cells[1+a]? =some (.int .i64 (x.v.getD a 0)):=by
 have h:a<x.v.length:=by rw [hx.1];exact ha
 rw [Nat.add_comm]
 simp [Ev.cells,h]
theorem ExIn.nth {w:World} {d:Nat} {cs:List Value} {e:Ex} (h:ExIn w d cs e) (i:Nat) (hi:i<e.l.length):
 ∃b o cap u0 u1 u2 u3 cs',cs= [.int .i64 e.op,.int .i64 e.n,.int .i64 u0,.int .i64 u1,.int .i64 u2,.int .i64 u3,.slice (some ⟨b,o,none⟩) e.l.length cap]/\e.l.length<=cap/\
  b<w.heap.size/\cs'.length=7/\w.rangeAt b (o+i*7) cs'/\ExIn w (d-1) cs' (e.l.getD i exT0):=by
 obtain ⟨A,cap,u0,u1,u2,u3,rfl,_,_,_,hc,hel⟩:=h.open_
 obtain ⟨b,o,rfl,hb,hi'⟩:=hel (by omega)
 obtain ⟨cs',h1,h2,h3⟩:=hi' i e.l[i] (gB9 hi)
 exact ⟨b,o,cap,u0,u1,u2,u3,cs',rfl,hc,hb,h1,h2,by simpa [List.getD,hi] using h3⟩
end
section
open Go.RowKit
section
variable {P:Program} {ops:Array Oper} {Q:Exit->Act->World->Prop} {a:Act} {rest:List Oper} {o:Oper}
theorem Vj (b:Bool) (n kt:Nat) (k:Int) (w:World) (hkt:P.underlying kt=some (.int .i64)):(Instr.checkKey b (n+1) kt (.int .i64 k)).run P w= .ok () w:=by
 unfold Instr.checkKey
 rw [Sem.run_bind,run_underlying hkt w]
 rfl
theorem V1 (kt:Nat) (k:Int) (es:List MapEntry) (res:Option (Nat×Value)) (w:World) (hkt:P.underlying kt=some (.int .i64)) (hf:Instr.findNow (.int .i64) (.int .i64 k) es 0=some res):
 (Instr.findKey kt (.int .i64 k) es).run P w= .ok res w:=by
 unfold Instr.findKey
 rw [Sem.run_bind,run_underlying hkt w]
 simp only [Result.andThen_ok,hf]
 rfl
theorem Uy (w:World) (r:Nat) (es:Array MapEntry) (c:Nat) (hg:w.heap[r]? =some (.map es c)):(getObj r).run P w= .ok (.map es c) w:=by
 simp [getObj,Sem.run,hg]
theorem Zd3 (w1:World) (T kt et:TypeId) (es:Array MapEntry) (c:Nat) (k:Int) (v:Value) (r:Nat) (hr:r=w1.heap.size) (hT:P.underlying T=some (.map kt et)) (hkt:P.underlying kt=some (.int .i64))
 (hf:Instr.findNow (.int .i64) (.int .i64 k) es.toList 0=some none):
 (Instr.mapUpdate T (.map (some r)) (.int .i64 k) v).run P (w1.alloc (.map es c))= .ok () (w1.alloc (.map (es.push ⟨.int .i64 k,v,c⟩) (c+1))):=by
 subst hr
 have hg:(w1.alloc (.map es c)).heap[w1.heap.size]? =some (.map es c):=heap_alloc_new w1 _
 have hs:({(w1.alloc (.map es c)) with heap:=(w1.alloc (.map es c)).heap.setIfInBounds w1.heap.size (.map (es.push ⟨.int .i64 k,v,c⟩) (c+1))}:World)=w1.alloc (.map (es.push ⟨.int .i64 k,v,c⟩) (c+1)):=by
  have he:(w1.alloc (.map es c)).heap.setIfInBounds w1.heap.size (.map (es.push ⟨.int .i64 k,v,c⟩) (c+1))=(w1.alloc (.map (es.push ⟨.int .i64 k,v,c⟩) (c+1))).heap:=by
   apply Array.ext_getElem?
   intro i
   show ((w1.heap.push _).setIfInBounds _ _)[i]? =(w1.heap.push _)[i]?
   rw [Array.getElem?_setIfInBounds,Array.getElem?_push,Array.getElem?_push]
   by_cases hi:w1.heap.size=i
   · subst hi;simp
   · rw [if_neg hi,if_neg (by omega),if_neg (by omega)]
  rw [he]
  rfl
 unfold Instr.mapUpdate
 rw [Sem.run_bind,run_underlying hT]
 simp only [Result.andThen_ok]
 rw [Sem.run_bind,Uy _ _ _ _ hg]
 simp only [Result.andThen_ok]
 rw [Sem.run_bind,Vj false 9999 kt k _ hkt]
 simp only [Result.andThen_ok]
 rw [Sem.run_bind,V1 kt k _ none _ hkt hf]
 simp only [Result.andThen_ok]
 rw [<-hs]
 simp only [setObj,Sem.run,hg]
theorem Za5 (hgd:o.guard=none) (T:TypeId) (m kx vx:Operand) (ho:o.op= .insert T m kx vx) (w1:World) (kt et:TypeId) (es:Array MapEntry) (c:Nat) (k:Int) (v:Value) (r:Nat)
 (hm:a.eval m= .map (some r)) (hr:r=w1.heap.size) (hk:a.eval kx= .int .i64 k) (hv:a.eval vx=v) (hT:P.underlying T=some (.map kt et)) (hkt:P.underlying kt=some (.int .i64))
 (hf:Instr.findNow (.int .i64) (.int .i64 k) es.toList 0=some none)
 (h:wpList P ops Q rest (a.put o.dst undef) (w1.alloc (.map (es.push ⟨.int .i64 k,v,c⟩) (c+1)))):wpList P ops Q (o::rest) a (w1.alloc (.map es c)):=
 wpList_plain hgd fun K hK=>by
  unfold Oper.wp execOp
  simp only [ho,hm,hk,hv,Sem.run_bind,Zd3 w1 T kt et es c k v r hr hT hkt hf,Result.andThen_ok,Sem.run_pure]
  exact hK _ _ h
theorem Zgy (w:World) (T kt et:TypeId) (es:Array MapEntry) (c:Nat) (k:Int) (v:Value) (i r:Nat) (hT:P.underlying T=some (.map kt et)) (hkt:P.underlying kt=some (.int .i64))
 (hg:w.heap[r]? =some (.map es c)) (hf:Instr.findNow (.int .i64) (.int .i64 k) es.toList 0=some (some (i,v))):
 (Instr.lookup T (.map (some r)) (.int .i64 k) false).run P w= .ok v w:=by
 unfold Instr.lookup
 rw [Sem.run_bind,run_underlying hT]
 simp only [Result.andThen_ok]
 rw [Sem.run_bind,Uy _ _ _ _ hg]
 simp only [Result.andThen_ok]
 rw [Sem.run_bind]
 simp only [Sem.run_pure,Result.andThen_ok]
 rw [Sem.run_bind,Vj _ 9999 kt k _ hkt]
 simp only [Result.andThen_ok]
 rw [Sem.run_bind,V1 kt k _ _ _ hkt hf]
 rfl
theorem Zpg {W:World} (hw:Region.wanted o (yielded ops a.tmps)=true) (T:TypeId) (m kx:Operand) (ho:o.op= .lookup T m kx false) (kt et:TypeId) (es:Array MapEntry) (c:Nat) (k:Int) (v:Value) (i r:Nat)
 (hm:a.eval m= .map (some r)) (hk:a.eval kx= .int .i64 k) (hT:P.underlying T=some (.map kt et)) (hkt:P.underlying kt=some (.int .i64))
 (hg:W.heap[r]? =some (.map es c)) (hr:r<W.heap.size) (hf:Instr.findNow (.int .i64) (.int .i64 k) es.toList 0=some (some (i,v))):YieldsIf P ops (Ext W) o v a:=
 .inl ⟨hw,fun w h=>by
  unfold execOp
  simp only [ho,hm,hk,Sem.run_bind,Zgy w T kt et es c k v i r hT hkt ((h.block hr).trans hg) hf,Result.andThen_ok,Sem.run_pure]⟩
end
end
section
open Go.RowKit
def Zv3 (X:Nat):Array MapEntry:= #[⟨.int .i64 3,.func (.func 55) #[.pointer (some ⟨X,0,none⟩)] #[],0⟩,⟨.int .i64 4,.func (.func 56) #[.pointer (some ⟨X,0,none⟩)] #[],1⟩,⟨.int .i64 5,.func (.func 57) #[.pointer (some ⟨X,0,none⟩)] #[],2⟩,⟨.int .i64 6,.func (.func 58) #[.pointer (some ⟨X,0,none⟩)] #[],3⟩,⟨.int .i64 7,.func (.func 59) #[.pointer (some ⟨X,0,none⟩)] #[],4⟩,⟨.int .i64 8,.func (.func 60) #[.pointer (some ⟨X,0,none⟩)] #[],5⟩,⟨.int .i64 9,.func (.func 61) #[.pointer (some ⟨X,0,none⟩)] #[],6⟩,⟨.int .i64 10,.func (.func 62) #[.pointer (some ⟨X,0,none⟩)] #[],7⟩,⟨.int .i64 11,.func (.func 63) #[.pointer (some ⟨X,0,none⟩)] #[],8⟩]
def EvAt (w:World) (X:Nat) (x:Ev):Prop:=∃M,w.heap[X]? =some (.cells (x.cells++ [Value.map (some M)]).toArray 106 (0,0))/\w.heap[M]? =some (.map (Zv3 X) 9)
theorem EvAt.ext {w w':World} (hx:Ext w w') {X:Nat} {x:Ev} (h:EvAt w X x):EvAt w' X x:=by
 obtain ⟨M,h1,h2⟩:=h
 have lt:∀{k:Nat} {o:Obj},w.heap[k]? =some o->k<w.heap.size:=fun {k o} h=>by
  rcases Nat.lt_or_ge k w.heap.size with h'|h'
  · exact h'
  · rw [Array.getElem?_eq_none h'] at h;cases h
 exact ⟨M,(hx.block (lt h1)).trans h1,(hx.block (lt h2)).trans h2⟩
theorem Z05 (w:World) (A B C:Obj):(((w.alloc A).alloc B).alloc C).heap[w.heap.size+1]? =some B/\(((w.alloc A).alloc B).alloc C).heap[w.heap.size+1+1]? =some C:=by
 constructor
 · show (((w.heap.push A).push B).push C)[w.heap.size+1]? =_
   rw [Array.getElem?_push,if_neg (by simp),Array.getElem?_push,if_pos (by simp)]
 · show (((w.heap.push A).push B).push C)[w.heap.size+1+1]? =_
   rw [Array.getElem?_push,if_pos (by simp)]
theorem Zln (cs:List Value):∀(k:Nat) (A:Array Value),k+cs.length<=A.size->
 (cs.zipIdx k).foldl (fun cs x=>cs.setIfInBounds x.2 x.1) A=(A.toList.take k++cs++A.toList.drop (k+cs.length)).toArray:=by
 induction cs with
 |nil=>intro k A _;simp
 |cons c cs ih=>
  intro k A h
  simp only [List.length_cons] at h
  rw [List.zipIdx_cons,List.foldl_cons,ih (k+1) _ (by simp;omega)]
  have hk:k<A.toList.length:=by simp;omega
  congr 1
  simp only [Array.toList_setIfInBounds,List.length_cons]
  rw [List.take_succ_eq_append_getElem (by simpa using hk),List.take_set_of_le (by omega),List.getElem_set_self,List.drop_set_of_lt (by omega)]
  simp [Nat.add_assoc,Nat.add_comm 1]
set_option maxHeartbeats 1000000 in
theorem Zja (x:Ev) (w:World) (hx:x.ok):
 Calls Tryd.prog 35 #[.agg x.cells.toArray] w fun en w'=>en= .returned (.pointer (some ⟨w.heap.size+1,0,none⟩))/\Ext w w'/\EvAt w' (w.heap.size+1) x:=by
 have hmm:= @run_makeMap Tryd.prog
 have hmf:∀(fn:Fn) (first cap:Array Value) (w:World),(Instr.makeFunc fn first cap).run Tryd.prog w= .ok (.func fn first cap) w:=fun _ _ _ _=>rfl
 have hxl:x.cells.length=17:=by simp [Ev.cells,hx.1]
 have hxr:(w.alloc (.cells x.cells.toArray 27)).rangeAt (w.heap.size) 0 x.cells:=by
  intro j v hv;simp [go_sem,hv]
 generalize hcs:x.cells=cs at*
 have HCS:=Lib.hid hcs
 clear hcs
 have hfold:cs.zipIdx.foldl (fun cs x=>cs.setIfInBounds x.2 x.1) #[Value.int .i64 0,.int .i64 0,.int .i64 0,.int .i64 0,.int .i64 0,.int .i64 0,.int .i64 0,.int .i64 0,.int .i64 0,.int .i64 0,.int .i64 0,.int .i64 0,.int .i64 0,.int .i64 0,.int .i64 0,.int .i64 0,.int .i64 0,Value.map none]=(cs++ [Value.map none]).toArray:=by
  have:=Zln cs 0 #[Value.int .i64 0,.int .i64 0,.int .i64 0,.int .i64 0,.int .i64 0,.int .i64 0,.int .i64 0,.int .i64 0,.int .i64 0,.int .i64 0,.int .i64 0,.int .i64 0,.int .i64 0,.int .i64 0,.int .i64 0,.int .i64 0,.int .i64 0,Value.map none] (by rw [hxl];decide)
  rw [this,hxl]
  rfl
 go_enter Tryd.func35,Tryd.ntmps35
 go_wp2_with (first
  |(refine wpList_load_mid rfl 27 _ rfl (w.heap.size) 0 rfl cs _ hxr Tryd.underlying27 rfl (by rw [hxl];exact X7) ?_)
  |(refine Za5 rfl 104 _ _ _ rfl _ _ _ _ _ _ _ _ rfl (by simp) rfl rfl Tryd.underlying104 Tryd.underlying3 rfl ?_))
 go_ret
 refine ⟨rfl,(((Ext.refl _).alloc _).alloc _).alloc _,w.heap.size+1+1,?_,?_⟩
 · rw [HCS.out]
   exact (Z05 w _ _ _).1
 · exact (Z05 w _ _ _).2
def Zsw (e:Int):Value:= .iface 103 (.agg #[.int .i64 e])
def Zb9 (e:Int):List PanicEntry:= [{v:=Zsw e,recovered:=false}]
def Outc (r:Int×Int) (en:Ending):Prop:=(r.2=0/\en= .returned (.int .i64 r.1))\/(r.2≠0/\en= .panicked (Zb9 r.2))
set_option maxHeartbeats 1000000 in
theorem Zhd (n:Int) (w:World):Calls Tryd.prog 78 #[.int .i64 n,.int .i64 0] w fun en w'=>en= .returned (.int .i64 n)/\w=w':=by
 go_enter Tryd.func78,Tryd.ntmps78
 go_wp2_with fail
 go_ret
 exact ⟨rfl,rfl⟩
set_option maxHeartbeats 1000000 in
theorem Zcs (n e:Int) (he:(e !=0)=true) (w:World):Calls Tryd.prog 78 #[.int .i64 n,.int .i64 e] w fun en w'=>en= .panicked (Zb9 e)/\w=w':=by
 go_enter Tryd.func78,Tryd.ntmps78
 go_wp2_with fail
 exact ⟨rfl,rfl,rfl⟩
theorem EvAt.cell0 {w:World} {X:Nat} {x:Ev} (h:EvAt w X x):w.cell? ⟨X,0,none⟩=some (.int .i64 x.has):=by
 obtain ⟨M,h1,h2⟩:=h
 rw [cell_of_row w X 0 _ _ _ h1];rfl
theorem EvAt.cell {w:World} {X:Nat} {x:Ev} (h:EvAt w X x) (hx:x.ok) (a:Nat) (ha:a<16):w.cell? ⟨X,1+a,none⟩=some (.int .i64 (x.v.getD a 0)):=by
 obtain ⟨M,h1,h2⟩:=h
 have h3:=x.cell hx a ha
 have hl:1+a<x.cells.length:=(gA9.1 h3).1
 rw [cell_of_row w X (1+a) _ _ _ h1,List.getElem?_toArray,List.getElem?_append_left hl]
 exact h3
theorem EvAt.frame {w:World} {X:Nat} {x:Ev} (h:EvAt w X x) (hx:x.ok):∃M,w.cell? ⟨X,17,none⟩=some (.map (some M))/\w.heap[M]? =some (.map (Zv3 X) 9):=by
 obtain ⟨M,h1,h2⟩:=h
 refine ⟨M,?_,h2⟩
 have hl:x.cells.length=17:=by simp [Ev.cells,hx.1]
 rw [cell_of_row w X 17 _ _ _ h1]
 simp [hl]
set_option maxHeartbeats 1000000 in
theorem Zsx (a:Int) (X:Nat) (w:World) (ha:a<0\/16<=a):
 Calls Tryd.prog 36 #[.pointer (some ⟨X,0,none⟩),.int .i64 a] w fun en w'=>en= .panicked (Zb9 1)/\w=w':=by
 rcases ha with h|h
 all_goals
  go_enter Tryd.func36,Tryd.ntmps36
  go_wp2_with fail
  exact ⟨rfl,rfl,rfl⟩
set_option maxHeartbeats 1000000 in
theorem Znh (x:Ev) (n X:Nat) (w:World) (hx:x.ok) (hX:EvAt w X x) (hn:n<16):
 Calls Tryd.prog 36 #[.pointer (some ⟨X,0,none⟩),.int .i64 n] w fun en w'=>Outc (Z8 x n) en/\Ext w w':=by
 have h0:=hX.cell0
 have h1:=hX.cell hx n hn
 generalize hy:x.v.getD n 0=y at*
 have hL:Z8 x n=if !bitF x.has n then (0,181) else if inR y then (y,0) else (0,3):=by unfold Z8;rw [hy]
 generalize Z8 x n=r at*
 have HL:=Lib.hid hL
 have hi1:(0:Int)<=(n:Int):=by omega
 have hi2:(n:Int)<16:=by omega
 clear hL hy hX
 have hbit:(bits .and .i64 x.has (wrap64 (2^n))==0)= !bitF x.has n:=by
  have hp:(2:Nat)^n<=2^15:=Nat.pow_le_pow_right (by omega) (by omega)
  have e:wrap64 ((2:Int)^n)=((2^n:Nat):Int):=by
   have:((2:Int)^n)=((2^n:Nat):Int):=by simp
   rw [this]
   generalize (2:Nat)^n=t at*
   exact IntWalk.wrap64_in _ ⟨by omega,by omega⟩
  rw [e,Ztd x.has n (by omega),bitF,Bool.eq_iff_iff]
  have:((2:Int)^n)=((2^n:Nat):Int):=by simp
  rw [this]
  simp only [Bool.not_eq_true',decide_eq_true_eq,decide_eq_false_iff_not]
  omega
 have hd1:decide ((n:Int)<0)=false:=by simp
 have hd2:decide (16<=(n:Int))=false:=by simp;omega
 cases hb:bitF x.has n
 · rw [hb] at hbit HL
   have HB:=Lib.hid hbit
   clear hbit hb
   go_enter Tryd.func36,Tryd.ntmps36
   go_wp2_with fail
   go_quiet (fail)
   rw [HB.out]
   go_wp2_with fail
   exact ⟨rfl,.inr ⟨by rw [HL.out];simp,by rw [HL.out];rfl⟩,(Ext.refl _).drewN _⟩
 · rw [hb] at hbit HL
   have HB:=Lib.hid hbit
   clear hbit hb
   have hy3:y< -9007199254740992\/9007199254740992<y\/(-9007199254740992<=y/\y<=9007199254740992):=by omega
   rcases hy3 with h|h|⟨g1,g2⟩
   · have hi:inR y=false:=inR_not.2 (by omega)
     rw [hi] at HL
     clear hi
     go_enter Tryd.func36,Tryd.ntmps36
     go_wp2_with fail
     go_quiet (fail)
     rw [HB.out]
     go_wp2_with fail
     exact ⟨rfl,.inr ⟨by rw [HL.out];simp,by rw [HL.out];rfl⟩,(Ext.refl _).drewN _⟩
   · have hi:inR y=false:=inR_not.2 (by omega)
     rw [hi] at HL
     clear hi
     go_enter Tryd.func36,Tryd.ntmps36
     go_wp2_with fail
     go_quiet (fail)
     rw [HB.out]
     go_wp2_with fail
     exact ⟨rfl,.inr ⟨by rw [HL.out];simp,by rw [HL.out];rfl⟩,(Ext.refl _).drewN _⟩
   · have hi:inR y=true:=inR_iff.2 ⟨g1,g2⟩
     rw [hi] at HL
     clear hi
     go_enter Tryd.func36,Tryd.ntmps36
     go_wp2_with fail
     go_quiet (fail)
     rw [HB.out]
     go_wp2_with fail
     go_ret
     exact ⟨.inl ⟨by rw [HL.out];rfl,by rw [HL.out];rfl⟩,(Ext.refl _).drewN _⟩
end
section
open Go.RowKit
def Zch (p q:Int×Int) (en:Ending):Prop:=
 (p.2≠0/\en= .panicked (Zb9 p.2))\/(p.2=0/\q.2≠0/\en= .panicked (Zb9 q.2))\/(p.2=0/\q.2=0/\en= .returned (.tuple #[.int .i64 p.1,.int .i64 q.1]))
def comb (p q:Int×Int) (f:Int->Int->Int×Int):Int×Int:=if p.2≠0 then (0,p.2) else if q.2≠0 then (0,q.2) else f p.1 q.1
theorem Zft {p q:Int×Int} {f:Int->Int->Int×Int} (h:p.2≠0):comb p q f=(0,p.2):=if_pos h
theorem Zfu {p q:Int×Int} {f:Int->Int->Int×Int} (h:p.2=0) (h':q.2≠0):comb p q f=(0,q.2):=by
 unfold comb;rw [if_neg (by simpa using h),if_pos h']
theorem Zbu {p q:Int×Int} {f:Int->Int->Int×Int} (h:p.2=0) (h':q.2=0):comb p q f=f p.1 q.1:=by
 unfold comb;rw [if_neg (by simpa using h),if_neg (by simpa using h')]
set_option maxHeartbeats 1000000 in
theorem Zv9 (X b o n cap:Nat) (c0 c1:List Value) (p q:Int×Int) (w:World) (hn:2<=n) (hl0:Hid (c0.length=7)) (hl1:Hid (c1.length=7))
 (hr0:w.rangeAt b o c0) (hr1:w.rangeAt b (o+7) c1)
 (h0:Hid (∀W,Ext w W->Calls Tryd.prog 38 #[.pointer (some ⟨X,0,none⟩),.agg c0.toArray] W fun en w'=>Outc p en/\Ext W w'))
 (h1:Hid (∀W,Ext w W->Calls Tryd.prog 38 #[.pointer (some ⟨X,0,none⟩),.agg c1.toArray] W fun en w'=>Outc q en/\Ext W w')):
 Calls Tryd.prog 80 #[.pointer (some ⟨X,0,none⟩),.slice (some ⟨b,o,none⟩) n cap] w fun en w'=>Zch p q en/\Ext w w':=by
 have hn0:0<n:=by omega
 have hn1:(1:Int)<(n:Int):=by omega
 go_enter Tryd.func80,Tryd.ntmps80
 go_wp2_with (refine wpList_load_mid rfl 35 _ rfl b o rfl c0 _ hr0 Tryd.underlying35 rfl (by rw [hl0.out];exact Y2) ?_)
 refine (h0.out _ (Ext.refl _)).mono ?_
 rintro e1 w1 ⟨⟨hz,rfl⟩|⟨hz,rfl⟩,hx1⟩
 · have HZ:=Lib.hid hz
   clear hz
   have hr2:=hx1.range hr1
   go_wp2_with (refine wpList_load_mid rfl 35 _ rfl b (o+7) rfl c1 _ hr2 Tryd.underlying35 rfl (by rw [hl1.out];exact Y2) ?_)
   refine (h1.out _ hx1).mono ?_
   rintro e2 w2 ⟨⟨hz,rfl⟩|⟨hz,rfl⟩,hx2⟩
   · have HY:=Lib.hid hz
     clear hz
     go_wp2_with fail
     go_ret2
     exact ⟨.inr (.inr ⟨HZ.out,HY.out,rfl⟩),hx1.trans hx2⟩
   · have HY:=Lib.hid hz
     clear hz
     go_wp2_with fail
     exact ⟨rfl,.inr (.inl ⟨HZ.out,HY.out,rfl⟩),hx1.trans hx2⟩
 · have HZ:=Lib.hid hz
   clear hz
   go_wp2_with fail
   exact ⟨rfl,.inl ⟨HZ.out,rfl⟩,hx1⟩
set_option maxHeartbeats 1000000 in
theorem Zwa (X b o n cap:Nat) (p q:Int×Int) (w:World)
 (hb:Hid (∀W,Ext w W->Calls Tryd.prog 80 #[.pointer (some ⟨X,0,none⟩),.slice (some ⟨b,o,none⟩) n cap] W fun en w'=>Zch p q en/\Ext W w')):
 Calls Tryd.prog 55 #[.pointer (some ⟨X,0,none⟩),.slice (some ⟨b,o,none⟩) n cap] w fun en w'=>Outc (comb p q addF) en/\Ext w w':=by
 obtain ⟨r,hr⟩:∃r,comb p q addF=r:=⟨_,rfl⟩
 rw [hr]
 have HR:=Lib.hid hr
 clear hr
 go_enter Tryd.func55,Tryd.ntmps55
 go_wp2_with fail
 refine (hb.out _ (Ext.refl _)).mono ?_
 rintro e1 w1 ⟨⟨h1,rfl⟩|⟨h1,h2,rfl⟩|⟨h1,h2,rfl⟩,hx1⟩
 · have H1:=Lib.hid h1
   clear h1
   go_wp2_with fail
   exact ⟨rfl,.inr (by rw [<-HR.out,Zft H1.out];exact ⟨H1.out,rfl⟩),hx1⟩
 · have H1:=Lib.hid h1
   have H2:=Lib.hid h2
   clear h1 h2
   go_wp2_with fail
   exact ⟨rfl,.inr (by rw [<-HR.out,Zfu H1.out H2.out];exact ⟨H2.out,rfl⟩),hx1⟩
 · have H1:=Lib.hid h1
   have H2:=Lib.hid h2
   have hr:r=addF p.1 q.1:=by rw [<-HR.out,Zbu H1.out H2.out]
   have HR2:=Lib.hid hr
   clear h1 h2 hr HR
   go_wp2_with fail
   refine (Zr0 _ _ _).mono ?_
   rw [<-HR2.out]
   rintro e2 w2 ⟨rfl,hx2⟩
   go_wp2_with fail
   by_cases hz:r.2=0
   · rw [hz]
     refine (Zhd _ _).mono ?_
     have HZ:=Lib.hid hz
     clear hz
     rintro e3 w3 ⟨rfl,rfl⟩
     go_wp2_with fail
     go_ret
     exact ⟨.inl ⟨HZ.out,rfl⟩,hx1.trans hx2⟩
   · refine (Zcs _ _ (by rw [bne_iff_ne];exact hz) _).mono ?_
     have HZ:=Lib.hid hz
     clear hz
     rintro e3 w3 ⟨rfl,rfl⟩
     go_wp2_with fail
     exact ⟨rfl,.inr ⟨HZ.out,rfl⟩,hx1.trans hx2⟩
set_option maxHeartbeats 1000000 in
theorem Zwb (X b o n cap:Nat) (p q:Int×Int) (w:World)
 (hb:Hid (∀W,Ext w W->Calls Tryd.prog 80 #[.pointer (some ⟨X,0,none⟩),.slice (some ⟨b,o,none⟩) n cap] W fun en w'=>Zch p q en/\Ext W w')):
 Calls Tryd.prog 56 #[.pointer (some ⟨X,0,none⟩),.slice (some ⟨b,o,none⟩) n cap] w fun en w'=>Outc (comb p q subF) en/\Ext w w':=by
 obtain ⟨r,hr⟩:∃r,comb p q subF=r:=⟨_,rfl⟩
 rw [hr]
 have HR:=Lib.hid hr
 clear hr
 go_enter Tryd.func56,Tryd.ntmps56
 go_wp2_with fail
 refine (hb.out _ (Ext.refl _)).mono ?_
 rintro e1 w1 ⟨⟨h1,rfl⟩|⟨h1,h2,rfl⟩|⟨h1,h2,rfl⟩,hx1⟩
 · have H1:=Lib.hid h1
   clear h1
   go_wp2_with fail
   exact ⟨rfl,.inr (by rw [<-HR.out,Zft H1.out];exact ⟨H1.out,rfl⟩),hx1⟩
 · have H1:=Lib.hid h1
   have H2:=Lib.hid h2
   clear h1 h2
   go_wp2_with fail
   exact ⟨rfl,.inr (by rw [<-HR.out,Zfu H1.out H2.out];exact ⟨H2.out,rfl⟩),hx1⟩
 · have H1:=Lib.hid h1
   have H2:=Lib.hid h2
   have hr:r=subF p.1 q.1:=by rw [<-HR.out,Zbu H1.out H2.out]
   have HR2:=Lib.hid hr
   clear h1 h2 hr HR
   go_wp2_with fail
   refine (Zr1 _ _ _).mono ?_
   rw [<-HR2.out]
   rintro e2 w2 ⟨rfl,hx2⟩
   go_wp2_with fail
   by_cases hz:r.2=0
   · rw [hz]
     refine (Zhd _ _).mono ?_
     have HZ:=Lib.hid hz
     clear hz
     rintro e3 w3 ⟨rfl,rfl⟩
     go_wp2_with fail
     go_ret
     exact ⟨.inl ⟨HZ.out,rfl⟩,hx1.trans hx2⟩
   · refine (Zcs _ _ (by rw [bne_iff_ne];exact hz) _).mono ?_
     have HZ:=Lib.hid hz
     clear hz
     rintro e3 w3 ⟨rfl,rfl⟩
     go_wp2_with fail
     exact ⟨rfl,.inr ⟨HZ.out,rfl⟩,hx1.trans hx2⟩
set_option maxHeartbeats 1000000 in
theorem Zwc (X b o n cap:Nat) (p q:Int×Int) (w:World)
 (hb:Hid (∀W,Ext w W->Calls Tryd.prog 80 #[.pointer (some ⟨X,0,none⟩),.slice (some ⟨b,o,none⟩) n cap] W fun en w'=>Zch p q en/\Ext W w')):
 Calls Tryd.prog 57 #[.pointer (some ⟨X,0,none⟩),.slice (some ⟨b,o,none⟩) n cap] w fun en w'=>Outc (comb p q mulF) en/\Ext w w':=by
 obtain ⟨r,hr⟩:∃r,comb p q mulF=r:=⟨_,rfl⟩
 rw [hr]
 have HR:=Lib.hid hr
 clear hr
 go_enter Tryd.func57,Tryd.ntmps57
 go_wp2_with fail
 refine (hb.out _ (Ext.refl _)).mono ?_
 rintro e1 w1 ⟨⟨h1,rfl⟩|⟨h1,h2,rfl⟩|⟨h1,h2,rfl⟩,hx1⟩
 · have H1:=Lib.hid h1
   clear h1
   go_wp2_with fail
   exact ⟨rfl,.inr (by rw [<-HR.out,Zft H1.out];exact ⟨H1.out,rfl⟩),hx1⟩
 · have H1:=Lib.hid h1
   have H2:=Lib.hid h2
   clear h1 h2
   go_wp2_with fail
   exact ⟨rfl,.inr (by rw [<-HR.out,Zfu H1.out H2.out];exact ⟨H2.out,rfl⟩),hx1⟩
 · have H1:=Lib.hid h1
   have H2:=Lib.hid h2
   have hr:r=mulF p.1 q.1:=by rw [<-HR.out,Zbu H1.out H2.out]
   have HR2:=Lib.hid hr
   clear h1 h2 hr HR
   go_wp2_with fail
   refine (Zr3 _ _ _).mono ?_
   rw [<-HR2.out]
   rintro e2 w2 ⟨rfl,hx2⟩
   go_wp2_with fail
   by_cases hz:r.2=0
   · rw [hz]
     refine (Zhd _ _).mono ?_
     have HZ:=Lib.hid hz
     clear hz
     rintro e3 w3 ⟨rfl,rfl⟩
     go_wp2_with fail
     go_ret
     exact ⟨.inl ⟨HZ.out,rfl⟩,hx1.trans hx2⟩
   · refine (Zcs _ _ (by rw [bne_iff_ne];exact hz) _).mono ?_
     have HZ:=Lib.hid hz
     clear hz
     rintro e3 w3 ⟨rfl,rfl⟩
     go_wp2_with fail
     exact ⟨rfl,.inr ⟨HZ.out,rfl⟩,hx1.trans hx2⟩
set_option maxHeartbeats 1000000 in
theorem Zpx (X b o n cap:Nat) (p q:Int×Int) (w:World)
 (hb:Hid (∀W,Ext w W->Calls Tryd.prog 80 #[.pointer (some ⟨X,0,none⟩),.slice (some ⟨b,o,none⟩) n cap] W fun en w'=>Zch p q en/\Ext W w')):
 Calls Tryd.prog 58 #[.pointer (some ⟨X,0,none⟩),.slice (some ⟨b,o,none⟩) n cap] w fun en w'=>Outc (comb p q fun a b=>(min a b,0)) en/\Ext w w':=by
 obtain ⟨r,hr⟩:∃r,comb p q (fun a b=>(min a b,0))=r:=⟨_,rfl⟩
 rw [hr]
 have HR:=Lib.hid hr
 clear hr
 go_enter Tryd.func58,Tryd.ntmps58
 go_wp2_with fail
 refine (hb.out _ (Ext.refl _)).mono ?_
 rintro e1 w1 ⟨⟨h1,rfl⟩|⟨h1,h2,rfl⟩|⟨h1,h2,rfl⟩,hx1⟩
 · have H1:=Lib.hid h1
   clear h1
   go_wp2_with fail
   exact ⟨rfl,.inr (by rw [<-HR.out,Zft H1.out];exact ⟨H1.out,rfl⟩),hx1⟩
 · have H1:=Lib.hid h1
   have H2:=Lib.hid h2
   clear h1 h2
   go_wp2_with fail
   exact ⟨rfl,.inr (by rw [<-HR.out,Zfu H1.out H2.out];exact ⟨H2.out,rfl⟩),hx1⟩
 · have H1:=Lib.hid h1
   have H2:=Lib.hid h2
   have hr:r=(min p.1 q.1,0):=by rw [<-HR.out,Zbu H1.out H2.out]
   have HR2:=Lib.hid hr
   clear h1 h2 hr HR
   go_wp2_with fail
   all_goals go_ret
   all_goals exact ⟨.inl ⟨by rw [HR2.out],by rw [HR2.out];exact Vd (by omega)⟩,hx1⟩
set_option maxHeartbeats 1000000 in
theorem Zhe (X b o n cap:Nat) (p q:Int×Int) (w:World)
 (hb:Hid (∀W,Ext w W->Calls Tryd.prog 80 #[.pointer (some ⟨X,0,none⟩),.slice (some ⟨b,o,none⟩) n cap] W fun en w'=>Zch p q en/\Ext W w')):
 Calls Tryd.prog 59 #[.pointer (some ⟨X,0,none⟩),.slice (some ⟨b,o,none⟩) n cap] w fun en w'=>Outc (comb p q fun a b=>(max a b,0)) en/\Ext w w':=by
 obtain ⟨r,hr⟩:∃r,comb p q (fun a b=>(max a b,0))=r:=⟨_,rfl⟩
 rw [hr]
 have HR:=Lib.hid hr
 clear hr
 go_enter Tryd.func59,Tryd.ntmps59
 go_wp2_with fail
 refine (hb.out _ (Ext.refl _)).mono ?_
 rintro e1 w1 ⟨⟨h1,rfl⟩|⟨h1,h2,rfl⟩|⟨h1,h2,rfl⟩,hx1⟩
 · have H1:=Lib.hid h1
   clear h1
   go_wp2_with fail
   exact ⟨rfl,.inr (by rw [<-HR.out,Zft H1.out];exact ⟨H1.out,rfl⟩),hx1⟩
 · have H1:=Lib.hid h1
   have H2:=Lib.hid h2
   clear h1 h2
   go_wp2_with fail
   exact ⟨rfl,.inr (by rw [<-HR.out,Zfu H1.out H2.out];exact ⟨H2.out,rfl⟩),hx1⟩
 · have H1:=Lib.hid h1
   have H2:=Lib.hid h2
   have hr:r=(max p.1 q.1,0):=by rw [<-HR.out,Zbu H1.out H2.out]
   have HR2:=Lib.hid hr
   clear h1 h2 hr HR
   go_wp2_with fail
   all_goals go_ret
   all_goals exact ⟨.inl ⟨by rw [HR2.out],by rw [HR2.out];exact Vd (by omega)⟩,hx1⟩
set_option maxHeartbeats 1000000 in
theorem Zak (X b o n cap:Nat) (p q:Int×Int) (m:Int) (w:World)
 (hb:Hid (∀W,Ext w W->Calls Tryd.prog 80 #[.pointer (some ⟨X,0,none⟩),.slice (some ⟨b,o,none⟩) n cap] W fun en w'=>Zch p q en/\Ext W w')):
 Calls Tryd.prog 83 #[.pointer (some ⟨X,0,none⟩),.slice (some ⟨b,o,none⟩) n cap,.int .i64 m] w fun en w'=>Outc (comb p q fun a b=>divF a b m) en/\Ext w w':=by
 obtain ⟨r,hr⟩:∃r,comb p q (fun a b=>divF a b m)=r:=⟨_,rfl⟩
 rw [hr]
 have HR:=Lib.hid hr
 clear hr
 go_enter Tryd.func83,Tryd.ntmps83
 go_wp2_with fail
 refine (hb.out _ (Ext.refl _)).mono ?_
 rintro e1 w1 ⟨⟨h1,rfl⟩|⟨h1,h2,rfl⟩|⟨h1,h2,rfl⟩,hx1⟩
 · have H1:=Lib.hid h1
   clear h1
   go_wp2_with fail
   exact ⟨rfl,.inr (by rw [<-HR.out,Zft H1.out];exact ⟨H1.out,rfl⟩),hx1⟩
 · have H1:=Lib.hid h1
   have H2:=Lib.hid h2
   clear h1 h2
   go_wp2_with fail
   exact ⟨rfl,.inr (by rw [<-HR.out,Zfu H1.out H2.out];exact ⟨H2.out,rfl⟩),hx1⟩
 · have H1:=Lib.hid h1
   have H2:=Lib.hid h2
   have hr:r=divF p.1 q.1 m:=by rw [<-HR.out,Zbu H1.out H2.out]
   have HR2:=Lib.hid hr
   clear h1 h2 hr HR
   go_wp2_with fail
   refine (Zr4 _ _ _ _).mono ?_
   rw [<-HR2.out]
   rintro e2 w2 ⟨rfl,hx2⟩
   go_wp2_with fail
   by_cases hz:r.2=0
   · rw [hz]
     refine (Zhd _ _).mono ?_
     have HZ:=Lib.hid hz
     clear hz
     rintro e3 w3 ⟨rfl,rfl⟩
     go_wp2_with fail
     go_ret
     exact ⟨.inl ⟨HZ.out,rfl⟩,hx1.trans hx2⟩
   · refine (Zcs _ _ (by rw [bne_iff_ne];exact hz) _).mono ?_
     have HZ:=Lib.hid hz
     clear hz
     rintro e3 w3 ⟨rfl,rfl⟩
     go_wp2_with fail
     exact ⟨rfl,.inr ⟨HZ.out,rfl⟩,hx1.trans hx2⟩
set_option maxHeartbeats 1000000 in
theorem Zs2 (X b o n cap:Nat) (p q:Int×Int) (w:World)
 (hb:Hid (∀W,Ext w W->Calls Tryd.prog 80 #[.pointer (some ⟨X,0,none⟩),.slice (some ⟨b,o,none⟩) n cap] W fun en w'=>Zch p q en/\Ext W w')):
 Calls Tryd.prog 60 #[.pointer (some ⟨X,0,none⟩),.slice (some ⟨b,o,none⟩) n cap] w fun en w'=>Outc (comb p q fun a b=>divF a b 8) en/\Ext w w':=by
 obtain ⟨r,hr⟩:∃r,comb p q (fun a b=>divF a b 8)=r:=⟨_,rfl⟩
 have hd:=Zak X b o n cap p q 8 w hb
 rw [hr] at hd⊢
 have HD:=Lib.hid hd
 clear hr hd
 go_enter Tryd.func60,Tryd.ntmps60
 go_wp2_with fail
 refine HD.out.mono ?_
 rintro e1 w1 ⟨⟨h1,rfl⟩|⟨h1,rfl⟩,hx1⟩
 · have H1:=Lib.hid h1
   clear h1
   go_wp2_with fail
   go_ret
   exact ⟨.inl ⟨H1.out,rfl⟩,hx1⟩
 · have H1:=Lib.hid h1
   clear h1
   go_wp2_with fail
   exact ⟨rfl,.inr ⟨H1.out,rfl⟩,hx1⟩
set_option maxHeartbeats 1000000 in
theorem Zzl (X b o n cap:Nat) (p q:Int×Int) (w:World)
 (hb:Hid (∀W,Ext w W->Calls Tryd.prog 80 #[.pointer (some ⟨X,0,none⟩),.slice (some ⟨b,o,none⟩) n cap] W fun en w'=>Zch p q en/\Ext W w')):
 Calls Tryd.prog 61 #[.pointer (some ⟨X,0,none⟩),.slice (some ⟨b,o,none⟩) n cap] w fun en w'=>Outc (comb p q fun a b=>divF a b 9) en/\Ext w w':=by
 obtain ⟨r,hr⟩:∃r,comb p q (fun a b=>divF a b 9)=r:=⟨_,rfl⟩
 have hd:=Zak X b o n cap p q 9 w hb
 rw [hr] at hd⊢
 have HD:=Lib.hid hd
 clear hr hd
 go_enter Tryd.func61,Tryd.ntmps61
 go_wp2_with fail
 refine HD.out.mono ?_
 rintro e1 w1 ⟨⟨h1,rfl⟩|⟨h1,rfl⟩,hx1⟩
 · have H1:=Lib.hid h1
   clear h1
   go_wp2_with fail
   go_ret
   exact ⟨.inl ⟨H1.out,rfl⟩,hx1⟩
 · have H1:=Lib.hid h1
   clear h1
   go_wp2_with fail
   exact ⟨rfl,.inr ⟨H1.out,rfl⟩,hx1⟩
set_option maxHeartbeats 1000000 in
theorem Zs3 (X b o n cap:Nat) (p q:Int×Int) (w:World)
 (hb:Hid (∀W,Ext w W->Calls Tryd.prog 80 #[.pointer (some ⟨X,0,none⟩),.slice (some ⟨b,o,none⟩) n cap] W fun en w'=>Zch p q en/\Ext W w')):
 Calls Tryd.prog 62 #[.pointer (some ⟨X,0,none⟩),.slice (some ⟨b,o,none⟩) n cap] w fun en w'=>Outc (comb p q fun a b=>divF a b 10) en/\Ext w w':=by
 obtain ⟨r,hr⟩:∃r,comb p q (fun a b=>divF a b 10)=r:=⟨_,rfl⟩
 have hd:=Zak X b o n cap p q 10 w hb
 rw [hr] at hd⊢
 have HD:=Lib.hid hd
 clear hr hd
 go_enter Tryd.func62,Tryd.ntmps62
 go_wp2_with fail
 refine HD.out.mono ?_
 rintro e1 w1 ⟨⟨h1,rfl⟩|⟨h1,rfl⟩,hx1⟩
 · have H1:=Lib.hid h1
   clear h1
   go_wp2_with fail
   go_ret
   exact ⟨.inl ⟨H1.out,rfl⟩,hx1⟩
 · have H1:=Lib.hid h1
   clear h1
   go_wp2_with fail
   exact ⟨rfl,.inr ⟨H1.out,rfl⟩,hx1⟩
set_option maxHeartbeats 1000000 in
theorem Zlp (X b o n cap:Nat) (p q p2 p3:Int×Int) (c2 c3:List Value) (w:World) (hn:4<=n) (hl2:Hid (c2.length=7)) (hl3:Hid (c3.length=7))
 (hr2:w.rangeAt b (o+14) c2) (hr3:w.rangeAt b (o+21) c3)
 (hb:Hid (∀W,Ext w W->Calls Tryd.prog 80 #[.pointer (some ⟨X,0,none⟩),.slice (some ⟨b,o,none⟩) n cap] W fun en w'=>Zch p q en/\Ext W w'))
 (h2:Hid (∀W,Ext w W->Calls Tryd.prog 38 #[.pointer (some ⟨X,0,none⟩),.agg c2.toArray] W fun en w'=>Outc p2 en/\Ext W w'))
 (h3:Hid (∀W,Ext w W->Calls Tryd.prog 38 #[.pointer (some ⟨X,0,none⟩),.agg c3.toArray] W fun en w'=>Outc p3 en/\Ext W w')):
 Calls Tryd.prog 63 #[.pointer (some ⟨X,0,none⟩),.slice (some ⟨b,o,none⟩) n cap] w fun en w'=>
  Outc (if p.2≠0 then (0,p.2) else if q.2≠0 then (0,q.2) else if p.1<q.1 then p2 else p3) en/\Ext w w':=by
 obtain ⟨r,hr⟩:∃r,(if p.2≠0 then (0,p.2) else if q.2≠0 then (0,q.2) else if p.1<q.1 then p2 else p3)=r:=⟨_,rfl⟩
 rw [hr]
 have HR:=Lib.hid hr
 clear hr
 have hn2:(2:Int)<(n:Int):=by omega
 have hn3:(3:Int)<(n:Int):=by omega
 go_enter Tryd.func63,Tryd.ntmps63
 go_wp2_with fail
 refine (hb.out _ (Ext.refl _)).mono ?_
 rintro e1 w1 ⟨⟨h1,rfl⟩|⟨h1,h1',rfl⟩|⟨h1,h1',rfl⟩,hx1⟩
 · have H1:=Lib.hid h1
   clear h1
   go_wp2_with fail
   exact ⟨rfl,.inr (by rw [<-HR.out,if_pos H1.out];exact ⟨H1.out,rfl⟩),hx1⟩
 · have H1:=Lib.hid h1
   have H2:=Lib.hid h1'
   clear h1 h1'
   go_wp2_with fail
   exact ⟨rfl,.inr (by rw [<-HR.out,if_neg (by simpa using H1.out),if_pos H2.out];exact ⟨H2.out,rfl⟩),hx1⟩
 · have hr:r=if p.1<q.1 then p2 else p3:=by rw [<-HR.out,if_neg (by simpa using h1),if_neg (by simpa using h1')]
   replace hr2:=hx1.range hr2
   replace hr3:=hx1.range hr3
   obtain ⟨p1,pe⟩:=p
   obtain ⟨q1,qe⟩:=q
   by_cases hlt:p1<q1
   · rw [if_pos hlt] at hr
     subst hr
     clear h1 h1' HR
     go_wp2_with (refine wpList_load_mid rfl 35 _ rfl b (o+14) rfl c2 _ hr2 Tryd.underlying35 rfl (by rw [hl2.out];exact Y2) ?_)
     refine (h2.out _ hx1).mono ?_
     rintro e2 w2 ⟨⟨hz,rfl⟩|⟨hz,rfl⟩,hx2⟩
     · have HZ:=Lib.hid hz
       clear hz
       go_wp2_with fail
       go_ret
       exact ⟨.inl ⟨HZ.out,rfl⟩,hx1.trans hx2⟩
     · have HZ:=Lib.hid hz
       clear hz
       go_wp2_with fail
       exact ⟨rfl,.inr ⟨HZ.out,rfl⟩,hx1.trans hx2⟩
   · rw [if_neg hlt] at hr
     subst hr
     clear h1 h1' HR
     go_wp2_with (refine wpList_load_mid rfl 35 _ rfl b (o+21) rfl c3 _ hr3 Tryd.underlying35 rfl (by rw [hl3.out];exact Y2) ?_)
     refine (h3.out _ hx1).mono ?_
     rintro e2 w2 ⟨⟨hz,rfl⟩|⟨hz,rfl⟩,hx2⟩
     · have HZ:=Lib.hid hz
       clear hz
       go_wp2_with fail
       go_ret
       exact ⟨.inl ⟨HZ.out,rfl⟩,hx1.trans hx2⟩
     · have HZ:=Lib.hid hz
       clear hz
       go_wp2_with fail
       exact ⟨rfl,.inr ⟨HZ.out,rfl⟩,hx1.trans hx2⟩
end
section
open Go.RowKit
theorem EvAt.frame2 {w:World} {X:Nat} {x:Ev} (h:EvAt w X x) (hx:x.ok):∃M,w.cell? ⟨X,17,none⟩=some (.map (some M))/\w.heap[M]? =some (.map (Zv3 X) 9)/\M<w.heap.size:=by
 obtain ⟨M,h1,h2⟩:=h.frame hx
 refine ⟨M,h1,h2,?_⟩
 rcases Nat.lt_or_ge M w.heap.size with h'|h'
 · exact h'
 · rw [Array.getElem?_eq_none h'] at h2;cases h2
set_option maxHeartbeats 4000000 in
theorem Zqx (x:Ev) (hx:x.ok) (dn:Nat):∀(d:Nat) (cs:List Value) (e:Ex) (X:Nat) (w:World),Wv dn e=true->ExIn w d cs e->EvAt w X x->
 Calls Tryd.prog 38 #[.pointer (some ⟨X,0,none⟩),.agg cs.toArray] w fun en w'=>Outc (Zd dn e x) en/\Ext w w':=by
 induction dn with
 |zero=>intro d cs e X w h;cases h
 |succ dn ih=>
  intro d cs e X w hf he hX
  have hev:Zd (dn+1) e x=if e.op=1 then (e.n,0) else if e.op=2 then Z8 x e.n.toNat else
   if (Zd dn (e.l.getD 0 exT0) x).2≠0 then (0,(Zd dn (e.l.getD 0 exT0) x).2) else if (Zd dn (e.l.getD 1 exT0) x).2≠0 then (0,(Zd dn (e.l.getD 1 exT0) x).2) else
   if e.op≠11 then Za7 e.op (Zd dn (e.l.getD 0 exT0) x).1 (Zd dn (e.l.getD 1 exT0) x).1 else
   if (Zd dn (e.l.getD 0 exT0) x).1<(Zd dn (e.l.getD 1 exT0) x).1 then Zd dn (e.l.getD 2 exT0) x else Zd dn (e.l.getD 3 exT0) x:=rfl
  generalize Zd (dn+1) e x=r at*
  have HV:=Lib.hid hev
  clear hev
  have hxl:x.cells.length=17:=by simp [Ev.cells,hx.1]
  by_cases h1:e.op=1
  · obtain ⟨A,cap,u0,u1,u2,u3,rfl,_⟩:=he.open_
    have hv:=HV.out
    rw [if_pos h1] at hv
    have HV:=Lib.hid hv
    rw [h1]
    clear hv h1 he ih hX
    go_enter Tryd.func38,Tryd.ntmps38
    go_wp2_with fail
    go_ret
    exact ⟨.inl ⟨by rw [HV.out],by rw [HV.out];rfl⟩,(Ext.refl _).alloc _⟩
  by_cases h2:e.op=2
  · obtain ⟨A,cap,u0,u1,u2,u3,rfl,_⟩:=he.open_
    have hv:=HV.out
    rw [if_neg h1,if_pos h2] at hv
    have hn:=(Zpj hf h2).2
    obtain ⟨n,hn2⟩:=Int.eq_ofNat_of_zero_le hn.1
    rw [h2]
    rw [hn2] at hv hn⊢
    rw [Int.toNat_natCast] at hv
    have HV:=Lib.hid hv
    have hn3:n<16:=by omega
    have hld:=fun (W:World) (h:Ext w W)=>Znh x n X W hx (hX.ext h) hn3
    have HLD:=Lib.hid hld
    clear hv h1 h2 he ih hn2 hn hX hld
    go_enter Tryd.func38,Tryd.ntmps38
    go_wp2_with fail
    refine (HLD.out _ ((Ext.refl _).alloc _)).mono ?_
    rw [<-HV.out]
    rintro e1 w1 ⟨⟨hz,rfl⟩|⟨hz,rfl⟩,hx1⟩
    · have HZ:=Lib.hid hz
      clear hz
      go_wp2_with fail
      go_ret
      exact ⟨.inl ⟨HZ.out,rfl⟩,((Ext.refl _).alloc _).trans hx1⟩
    · have HZ:=Lib.hid hz
      clear hz
      go_wp2_with fail
      exact ⟨rfl,.inr ⟨HZ.out,rfl⟩,((Ext.refl _).alloc _).trans hx1⟩
  obtain ⟨hop3,hop11,hl4,hl2,hfs⟩:=Zpi hf h1 h2
  have hlen:2<=e.l.length:=by
   by_cases h:e.op=11
   · have:=hl4 h;omega
   · have:=hl2 h;omega
  obtain ⟨b,o,cap,u0,u1,u2,u3,c0,rfl,hcap,hb,hl0,hr0,hE0⟩:=he.nth 0 (by omega)
  obtain ⟨b',o',cap',_,_,_,_,c1,hcs,_,hb1,hl1,hr1,hE1⟩:=he.nth 1 (by omega)
  simp only [List.cons.injEq,Value.int.injEq,Value.slice.injEq,Option.some.injEq,Addr.mk.injEq,true_and,and_true] at hcs
  obtain ⟨_,_,_,_,⟨rfl,rfl⟩,rfl⟩:=hcs
  rw [Nat.zero_mul,Nat.add_zero] at hr0
  rw [Nat.one_mul] at hr1
  have hv:=HV.out
  clear HV
  rw [if_neg h1,if_neg h2] at hv
  have HL0:=Lib.hid hl0
  have HL1:=Lib.hid hl1
  have HC0:Hid (∀W,Ext w W->Calls Tryd.prog 38 #[.pointer (some ⟨X,0,none⟩),.agg c0.toArray] W fun en w'=>Outc (Zd dn (e.l.getD 0 exT0) x) en/\Ext W w'):=
   Lib.hid fun W h=>ih _ _ _ X W (hfs 0 (by omega)) (hE0.ext h) (hX.ext h)
  have HC1:Hid (∀W,Ext w W->Calls Tryd.prog 38 #[.pointer (some ⟨X,0,none⟩),.agg c1.toArray] W fun en w'=>Outc (Zd dn (e.l.getD 1 exT0) x) en/\Ext W w'):=
   Lib.hid fun W h=>ih _ _ _ X W (hfs 1 (by omega)) (hE1.ext h) (hX.ext h)
  have hboth:Hid (∀W,Ext w W->∀W',Ext W W'->Calls Tryd.prog 80 #[.pointer (some ⟨X,0,none⟩),.slice (some ⟨b,o,none⟩) e.l.length cap] W' fun en w'=>
   Zch (Zd dn (e.l.getD 0 exT0) x) (Zd dn (e.l.getD 1 exT0) x) en/\Ext W' w'):=
   Lib.hid fun W h W' h'=>Zv9 X b o _ cap c0 c1 _ _ W' hlen HL0 HL1 ((h.trans h').range hr0) ((h.trans h').range hr1)
    (Lib.hid fun V hV=>HC0.out V ((h.trans h').trans hV)) (Lib.hid fun V hV=>HC1.out V ((h.trans h').trans hV))
  have hdone:∀(fn:Nat) (i:Nat),(∀args W,(callFunc fn args).run Tryd.prog W= .ok (.enter fn args) W)->(∀W,Ext w W->Calls Tryd.prog fn #[.pointer (some ⟨X,0,none⟩),.slice (some ⟨b,o,none⟩) e.l.length cap] W fun en w'=>Outc r en/\Ext W w')->
   Instr.findNow (.int .i64) (.int .i64 e.op) (Zv3 X).toList 0=some (some (i,.func (.func fn) #[.pointer (some ⟨X,0,none⟩)] #[]))->
   Calls Tryd.prog 38 #[.pointer (some ⟨X,0,none⟩),.agg [.int .i64 e.op,.int .i64 e.n,.int .i64 u0,.int .i64 u1,.int .i64 u2,.int .i64 u3,.slice (some ⟨b,o,none⟩) e.l.length cap].toArray] w fun en w'=>Outc r en/\Ext w w':=by
   intro fn i hcf hcall hfind
   obtain ⟨M,hM1,hM2,hM3⟩:=hX.frame2 hx
   have g1:(e.op==1)=false:=by simpa using h1
   have g2:(e.op==2)=false:=by simpa using h2
   have HF:=Lib.hid hfind
   have HCL:=Lib.hid hcall
   have HM2:=Lib.hid hM2
   clear hv hfind hcall hboth HC0 HC1 HL0 HL1 hr0 hr1 hE0 hE1 hl0 hl1 hfs ih he hX hl2 hl4 hM2 hf h1 h2
   generalize e.op=op at*
   generalize e.n=nn at*
   generalize e.l.length=n at*
   go_enter Tryd.func38,Tryd.ntmps38
   go_wp2_with fail
   generalize hw0:World.alloc _ _=w0
   have hx0:Ext w w0:=by rw [<-hw0];exact (Ext.refl _).alloc _
   have hc6:w0.cell? ⟨w.heap.size,6,none⟩=some (.slice (some ⟨b,o,none⟩) n cap):=by rw [<-hw0];simp [go_sem]
   have hc0:w0.cell? ⟨w.heap.size,0,none⟩=some (.int .i64 op):=by rw [<-hw0];simp [go_sem]
   have hc17:=hx0.cell hM1
   clear hw0
   refine Zf9 [(0,true),(1,true),(2,true),(3,true),(4,true),(5,true),(6,true),(7,true),(8,true),(9,false),(10,true)] (Ext w0) (by kernel_rfl) (by kernel_rfl) (by intro c a w d v h;cases d<;>exact h) (Ext.refl _).drew ?_
   repeat
    (refine ⟨_,?_,rfl,Zga (by rfl) (fun w' hS=> ?_),?_⟩
     rotate_left
     · (have g0:=hS.cell hc0;have g6:=hS.cell hc6;have g17:=hS.cell hc17;go_simp;rfl)
     try simp only [Act.put,List.getElem_toArray,List.getElem_cons_zero,List.getElem_cons_succ,List.setIfInBounds_toArray,List.set_cons_zero,List.set_cons_succ])
   refine ⟨_,_,rfl,Zpg (by rfl) _ _ _ rfl _ _ _ _ _ _ _ _ rfl rfl Tryd.underlying104 Tryd.underlying3 ((hx0.block hM3).trans HM2.out) (Nat.lt_of_lt_of_le hM3 hx0.size) HF.out,?_⟩
   try simp only [Act.put,List.getElem_toArray,List.getElem_cons_zero,List.getElem_cons_succ,List.setIfInBounds_toArray,List.set_cons_zero,List.set_cons_succ]
   repeat
    (refine ⟨_,?_,rfl,Zga (by rfl) (fun w' hS=> ?_),?_⟩
     rotate_left
     · (have g0:=hS.cell hc0;have g6:=hS.cell hc6;have g17:=hS.cell hc17;go_simp;rfl)
     try simp only [Act.put,List.getElem_toArray,List.getElem_cons_zero,List.getElem_cons_succ,List.setIfInBounds_toArray,List.set_cons_zero,List.set_cons_succ])
   refine ⟨_,rfl,by rfl,?_⟩
   try simp only [List.getElem_toArray,List.getElem_cons_zero,List.getElem_cons_succ]
   go_step
   refine (HCL.out _ hx0.drew).mono ?_
   rintro e1 w1 ⟨⟨hz,rfl⟩|⟨hz,rfl⟩,hx1⟩
   · have HZ:=Lib.hid hz
     clear hz
     refine ⟨(Ext.refl _).drew.trans hx1,?_⟩
     try simp only [Act.put,List.getElem_toArray,List.getElem_cons_zero,List.getElem_cons_succ,List.setIfInBounds_toArray,List.set_cons_zero,List.set_cons_succ]
     repeat
      (refine ⟨_,?_,rfl,Zga (by rfl) (fun w' hS=> ?_),?_⟩
       rotate_left
       · (go_simp;rfl)
       try simp only [Act.put,List.getElem_toArray,List.getElem_cons_zero,List.getElem_cons_succ,List.setIfInBounds_toArray,List.set_cons_zero,List.set_cons_succ])
     simp only [Zkb]
     go_wp2_with fail
     go_ret
     exact ⟨.inl ⟨HZ.out,rfl⟩,hx0.trans ((Ext.refl _).drew.trans hx1)⟩
   · have HZ:=Lib.hid hz
     clear hz
     go_wp2_with fail
     exact ⟨rfl,.inr ⟨HZ.out,rfl⟩,hx0.trans ((Ext.refl _).drew.trans hx1)⟩
  have hn11:∀f:Int->Int->Int×Int,e.op≠11->(∀a b,Za7 e.op a b=f a b)->r=comb (Zd dn (e.l.getD 0 exT0) x) (Zd dn (e.l.getD 1 exT0) x) f:=by
   intro f h hf
   rw [hv,if_pos h,hf]
   rfl
  have hop:e.op=3\/e.op=4\/e.op=5\/e.op=6\/e.op=7\/e.op=8\/e.op=9\/e.op=10\/e.op=11:=by omega
  rcases hop with h|h|h|h|h|h|h|h|h
  · refine hdone 55 0 (fun args W=>by simp [go_sem]) (fun W hW=> ?_) (by rw [h];rfl)
    rw [hn11 (addF) (by omega) (fun a b=>by rw [h];rfl)]
    exact Zwa X b o _ cap _ _ W (Lib.hid fun W' h'=>hboth.out W hW W' h')
  · refine hdone 56 1 (fun args W=>by simp [go_sem]) (fun W hW=> ?_) (by rw [h];rfl)
    rw [hn11 (subF) (by omega) (fun a b=>by rw [h];rfl)]
    exact Zwb X b o _ cap _ _ W (Lib.hid fun W' h'=>hboth.out W hW W' h')
  · refine hdone 57 2 (fun args W=>by simp [go_sem]) (fun W hW=> ?_) (by rw [h];rfl)
    rw [hn11 (mulF) (by omega) (fun a b=>by rw [h];rfl)]
    exact Zwc X b o _ cap _ _ W (Lib.hid fun W' h'=>hboth.out W hW W' h')
  · refine hdone 58 3 (fun args W=>by simp [go_sem]) (fun W hW=> ?_) (by rw [h];rfl)
    rw [hn11 (fun a b=>(min a b,0)) (by omega) (fun a b=>by rw [h];rfl)]
    exact Zpx X b o _ cap _ _ W (Lib.hid fun W' h'=>hboth.out W hW W' h')
  · refine hdone 59 4 (fun args W=>by simp [go_sem]) (fun W hW=> ?_) (by rw [h];rfl)
    rw [hn11 (fun a b=>(max a b,0)) (by omega) (fun a b=>by rw [h];rfl)]
    exact Zhe X b o _ cap _ _ W (Lib.hid fun W' h'=>hboth.out W hW W' h')
  · refine hdone 60 5 (fun args W=>by simp [go_sem]) (fun W hW=> ?_) (by rw [h];rfl)
    rw [hn11 (fun a b=>divF a b 8) (by omega) (fun a b=>by rw [h];rfl)]
    exact Zs2 X b o _ cap _ _ W (Lib.hid fun W' h'=>hboth.out W hW W' h')
  · refine hdone 61 6 (fun args W=>by simp [go_sem]) (fun W hW=> ?_) (by rw [h];rfl)
    rw [hn11 (fun a b=>divF a b 9) (by omega) (fun a b=>by rw [h];rfl)]
    exact Zzl X b o _ cap _ _ W (Lib.hid fun W' h'=>hboth.out W hW W' h')
  · refine hdone 62 7 (fun args W=>by simp [go_sem]) (fun W hW=> ?_) (by rw [h];rfl)
    rw [hn11 (fun a b=>divF a b 10) (by omega) (fun a b=>by rw [h];rfl)]
    exact Zs3 X b o _ cap _ _ W (Lib.hid fun W' h'=>hboth.out W hW W' h')
  · obtain ⟨b',o',cap',_,_,_,_,c2,hcs,_,_,hl2',hr2,hE2⟩:=he.nth 2 (by omega)
    simp only [List.cons.injEq,Value.int.injEq,Value.slice.injEq,Option.some.injEq,Addr.mk.injEq,true_and,and_true] at hcs
    obtain ⟨_,_,_,_,⟨rfl,rfl⟩,rfl⟩:=hcs
    obtain ⟨b',o',cap',_,_,_,_,c3,hcs,_,_,hl3',hr3,hE3⟩:=he.nth 3 (by omega)
    simp only [List.cons.injEq,Value.int.injEq,Value.slice.injEq,Option.some.injEq,Addr.mk.injEq,true_and,and_true] at hcs
    obtain ⟨_,_,_,_,⟨rfl,rfl⟩,rfl⟩:=hcs
    simp only [Nat.reduceMul] at hr2 hr3
    refine hdone 63 8 (fun args W=>by simp [go_sem]) (fun W hW=> ?_) (by rw [h];rfl)
    rw [hv,if_neg (show ¬(e.op≠11) from fun hh=>hh h)]
    exact Zlp X b o _ cap _ _ _ _ c2 c3 W (by omega) (Lib.hid hl2') (Lib.hid hl3') (hW.range hr2) (hW.range hr3) (Lib.hid fun W' h'=>hboth.out W hW W' h')
     (Lib.hid fun W' h'=>ih _ _ _ X W' (hfs 2 (by omega)) (hE2.ext (hW.trans h')) (hX.ext (hW.trans h'))) (Lib.hid fun W' h'=>ih _ _ _ X W' (hfs 3 (by omega)) (hE3.ext (hW.trans h')) (hX.ext (hW.trans h')))
end
section
open Go.RowKit
set_option maxHeartbeats 1000000 in
theorem Vg (p:Addr) (w:World):
 CallsD Tryd.prog 34 #[.pointer (some p)] .returning w fun en u' w'=>en= .returned (.tuple #[])/\u'= .returning/\w=w':=by
 refine callsD_of_wpS Tryd.func34 rfl fun c₀ cs hu=> ?_
 apply wpS_seq
 apply wpS_region
 simp [wpOpsS,go_sem,recoverD,hu,Tryd.ntmps34,Exit.thenS]
 simp only [List.size_toArray,List.length_cons,List.length_nil,Nat.reduceAdd,Nat.reduceSub,Array.replicate_succ,Array.replicate_zero,List.push_toArray,List.append_toArray,List.nil_append,List.cons_append,List.setIfInBounds_toArray,List.set_cons_zero,List.set_cons_succ]
 refine wpS_of_wp ?_
 go_wp2_with fail
 exact ⟨rfl,.returning,by cases c₀;simp_all,_,results_none rfl _ _ _,rfl,rfl,rfl⟩
theorem Zji (v:Value) (w:World):(Instr.typeAssert (.iface 103 v) 20 103 true).run Tryd.prog w= .ok (.tuple #[v,.bool true]) w:=by kernel_rfl
set_option maxHeartbeats 1000000 in
theorem V8 (p:Addr) (x e:Int) (w:World) (hc:w.cell? p=some (.int .i64 x)) (hz:w.frozen? p=false) (hb:p.block<w.heap.size):
 CallsD Tryd.prog 34 #[.pointer (some p)] (.panicking (Zb9 e)) w fun en u' w'=>en= .returned (.tuple #[])/\u'= .panicking [{v:=Zsw e,recovered:=true}]/\
  w'=(w.alloc (.cells #[.int .i64 e] 103)).setCell p (.int .i64 e):=by
 refine callsD_of_wpS Tryd.func34 rfl fun c₀ cs hu=> ?_
 unfold Zb9 at hu
 apply wpS_seq
 apply wpS_region
 simp [wpOpsS,go_sem,recoverD,hu,Tryd.ntmps34,Exit.thenS]
 simp only [List.size_toArray,List.length_cons,List.length_nil,Nat.reduceAdd,Nat.reduceSub,Array.replicate_succ,Array.replicate_zero,List.push_toArray,List.append_toArray,List.nil_append,List.cons_append,List.setIfInBounds_toArray,List.set_cons_zero,List.set_cons_succ]
 refine wpS_of_wp ?_
 unfold Zsw
 have hta:=Zji
 have hc':∀o,(w.alloc o).cell? p=some (.int .i64 x):=fun o=>by rw [World.cell?_alloc_lt w o p hb];exact hc
 have hz':∀o,(w.alloc o).frozen? p=false:=fun o=>by rw [World.frozen?_alloc_old w o p (by omega)];exact hz
 go_wp2_with fail
 exact ⟨rfl,_,rfl,_,results_none rfl _ _ _,rfl,rfl,rfl⟩
theorem V9 {P:Program} {fn:Func} {t t':Array Value} {R:Ending->World->Prop} (h:∀w,(results fn t).run P w=(results fn t').run P w):
 ∀(ds:List Deferred) (u:FrameMode) (w:World),Leaves P fn t R ds u w->Leaves P fn t' R ds u w
 | [],.returning,w,⟨v,hv,hR⟩=>⟨v,(h w).symm.trans hv,hR⟩
 | [],.panicking _,w,hh=>hh
 | [],.run,_,hh=>hh.elim
 |d::ds,u,w,⟨h1,fv,cap,f,args,h2,h3,h4⟩=>⟨h1,fv,cap,f,args,h2,h3,h4.mono fun e u' w' hh=>by
  cases e with
  |returned v=>exact V9 h ds _ _ hh
  |panicked c=>exact V9 h ds _ _ hh
  |outgrown=>exact hh⟩
theorem Zep {P:Program} {fn:Func} {R:Ending->World->Prop} {c:List PanicEntry} {a:Act} {d:Option Tmp} {v:Value} {w:World}
 (h:∀W,(results fn (a.put d v).tmps).run P W=(results fn a.tmps).run P W) (hq:bodyPostD P fn R (.panic c) (a.put d v) w):bodyPostD P fn R (.panic c) a w:=by
 have:(a.put d v).defers=a.defers:=by cases d<;>rfl
 refine V9 h _ _ _ ?_
 rw [<-this]
 exact hq
set_option maxHeartbeats 1000000 in
theorem Zwm (x:Ev) (d:Nat) (cs:List Value) (e:Ex) (w:World) (he:ExIn w d cs e) (hf:Wv 24 e=false):
 Calls Tryd.prog 20 #[.agg cs.toArray,.agg x.cells.toArray] w fun en w'=>en= .returned (.tuple #[.int .i64 0,.int .i64 1])/\Ext w w':=by
 have hfm:=fun (W:World) (h:Ext w W)=>Ziw 24 d cs e W (by omega) (he.ext h)
 rw [hf] at hfm
 have HF:=Lib.hid hfm
 obtain ⟨A,cap,u0,u1,u2,u3,rfl,_⟩:=he.open_
 clear hfm he
 go_enter_defers Tryd.func20,Tryd.ntmps20
 go_wp2_with fail
 refine (HF.out _ ((((Ext.refl _).alloc _).alloc _).alloc _)).mono ?_
 rintro e1 w1 ⟨rfl,hx1⟩
 have hx:=((((Ext.refl w).alloc _).alloc _).alloc _).trans hx1
 have hc5:=hx1.cell (p:=⟨w.heap.size+1+1,0,none⟩) (v:= .int .i64 0) (by simp [go_sem])
 have hz5:=hx1.frozen_eq (p:=⟨w.heap.size+1+1,0,none⟩) (by simp)
 have hz5':w1.frozen? ⟨w.heap.size+1+1,0,none⟩=false:=by rw [hz5];simp [go_sem]
 clear hx1 hz5
 go_wp2_with fail
 have hsame:(w1.setCell ⟨w.heap.size+1+1,0,none⟩ (.int .i64 1)).cell? ⟨w.heap.size+1+1,0,none⟩=some (.int .i64 1):=World.cell?_setCell_same' _ _ _ (by rw [hc5];rfl)
 exact ⟨.tuple #[.int .i64 0,.int .i64 1],by simp [results,Tryd.results20,go_sem,hsame],rfl,hx.setCell (by simp;omega) _⟩
set_option maxHeartbeats 2000000 in
theorem Ztn (x:Ev) (hxo:x.ok) (d:Nat) (cs:List Value) (e:Ex) (w:World) (he:ExIn w d cs e) (hf:Wv 24 e=true):
 Calls Tryd.prog 20 #[.agg cs.toArray,.agg x.cells.toArray] w fun en w'=>en= .returned (.tuple #[.int .i64 (if (Zd 24 e x).2=0 then (Zd 24 e x).1 else 0),.int .i64 (Zd 24 e x).2])/\Ext w w':=by
 have hfm:=fun (W:World) (h:Ext w W)=>Ziw 24 d cs e W (by omega) (he.ext h)
 rw [hf] at hfm
 have HF:=Lib.hid hfm
 have hev:=fun (X:Nat) (W:World) (h:Ext w W) (hX:EvAt W X x)=>Zqx x hxo 24 d cs e X W hf (he.ext h) hX
 have HEV:=Lib.hid hev
 have hl7:=he.len
 have hxl:x.cells.length=17:=by simp [Ev.cells,hxo.1]
 have HL7:=Lib.hid hl7
 have HXL:=Lib.hid hxl
 obtain ⟨r,hr⟩:∃r,Zd 24 e x=r:=⟨_,rfl⟩
 rw [hr] at HEV⊢
 clear hfm hev hr hl7 hxl
 obtain ⟨A,cap,u0,u1,u2,u3,rfl,_⟩:=he.open_
 clear he
 go_enter_defers Tryd.func20,Tryd.ntmps20
 go_wp2_with fail
 refine (HF.out _ ((((Ext.refl _).alloc _).alloc _).alloc _)).mono ?_
 rintro e1 w1 ⟨rfl,hx1⟩
 have hx:=((((Ext.refl w).alloc _).alloc _).alloc _).trans hx1
 have hc5:=hx1.cell (p:=⟨w.heap.size+1+1,0,none⟩) (v:= .int .i64 0) (by simp [go_sem])
 have hz5:=hx1.frozen_eq (p:=⟨w.heap.size+1+1,0,none⟩) (by simp)
 have hz5':w1.frozen? ⟨w.heap.size+1+1,0,none⟩=false:=by rw [hz5];simp [go_sem]
 have hsz:=hx1.size
 simp at hsz
 have hr3:w1.rangeAt (w.heap.size+1) 0 x.cells:=hx1.range (by intro j v hv;simp [go_sem,hv])
 have hr2:w1.rangeAt (w.heap.size) 0 [.int .i64 e.op,.int .i64 e.n,.int .i64 u0,.int .i64 u1,.int .i64 u2,.int .i64 u3,.slice A e.l.length cap]:=hx1.range (by intro j v hv;simp [go_sem] at hv⊢;exact hv)
 clear hx1 hz5
 go_wp2_with fail
 refine Uv [(0,true),(2,true),(1,false),(3,false),(4,false),(5,false)] (Below (w.heap.size+2) w1) (by kernel_rfl) (by kernel_rfl) ?_ (Below.refl _ _).drew ?_
 · intro p hp hp2 o ho c a w' v hq
   have hcase:o.dst=some 9\/o.dst=some 11:=by
    simp only [List.mem_cons,List.not_mem_nil,or_false] at hp
    rcases hp with rfl|rfl|rfl|rfl|rfl|rfl
    · simp at ho;subst ho;exact .inl rfl
    · simp at ho;subst ho;exact .inr rfl
    all_goals cases hp2
   have hres:∀(k:Nat) (W:World),k≠4->k≠5->(results Tryd.f20 (a.tmps.setIfInBounds k v)).run Tryd.prog W=(results Tryd.f20 a.tmps).run Tryd.prog W:=by
    intro k W h4 h5
    have e:∀j,j≠k->(a.tmps.setIfInBounds k v)[j]? =a.tmps[j]? :=fun j hj=>by
     simp only [Array.getElem?_setIfInBounds,if_neg (Ne.symm hj)]
    simp only [results,Tryd.results20,List.size_toArray]
    simp [e 4 (Ne.symm h4),e 5 (Ne.symm h5)]
   refine Zep (P:=Tryd.prog) (fn:=Tryd.f20) (d:=o.dst) (v:=v) ?_ hq
   intro W
   rcases hcase with h|h<;>rw [h]
   · exact hres 9 W (by omega) (by omega)
   · exact hres 11 W (by omega) (by omega)
 refine ⟨_,_,rfl,yieldsIf_load_mid (by rfl) _ _ rfl (w.heap.size+1) _ rfl x.cells _ (fun W h j v hv=>(h.cell (by simp)).trans (hr3 j v hv)) Tryd.underlying27 rfl (by rw [HXL.out];exact X7),?_⟩
 try simp only [Act.put,List.getElem_toArray,List.getElem_cons_zero,List.getElem_cons_succ,List.setIfInBounds_toArray,List.set_cons_zero,List.set_cons_succ]
 refine ⟨_,_,rfl,yieldsIf_load_mid (by rfl) _ _ rfl (w.heap.size) _ rfl _ _ (fun W h j v hv=>(h.cell (by simp)).trans (hr2 j v hv)) Tryd.underlying35 rfl Y2,?_⟩
 try simp only [Act.put,List.getElem_toArray,List.getElem_cons_zero,List.getElem_cons_succ,List.setIfInBounds_toArray,List.set_cons_zero,List.set_cons_succ]
 refine ⟨_,rfl,by rfl,?_⟩
 try simp only [List.getElem_toArray,List.getElem_cons_zero,List.getElem_cons_succ]
 go_step
 refine (Zja x _ hxo).mono ?_
 rintro e1 w2 ⟨rfl,hx2,hX⟩
 have hx12:Ext w1 w2:=(Ext.refl _).drew.trans hx2
 refine ⟨Below.mono hx12 (by omega),?_⟩
 try simp only [Act.put,List.getElem_toArray,List.getElem_cons_zero,List.getElem_cons_succ,List.setIfInBounds_toArray,List.set_cons_zero,List.set_cons_succ]
 have hcall:=HEV.out _ _ (hx.trans hx12) hX
 have HCALL:=Lib.hid hcall
 clear hcall hX hx2
 generalize w1.drew.heap.size+1=X at*
 refine ⟨_,rfl,by rfl,?_⟩
 try simp only [List.getElem_toArray,List.getElem_cons_zero,List.getElem_cons_succ]
 go_step
 refine HCALL.out.mono ?_
 rintro e1 w3 ⟨⟨hz,rfl⟩|⟨hz,rfl⟩,hx3⟩
 · have HZ:=Lib.hid hz
   clear hz
   have hx13:=hx12.trans hx3
   have hc5':=hx13.cell hc5
   have hz5'':w3.frozen? ⟨w.heap.size+1+1,0,none⟩=false:=by rw [hx13.frozen_eq (by simp;omega)];exact hz5'
   refine ⟨Below.mono hx13 (by omega),?_⟩
   try simp only [Act.put,List.getElem_toArray,List.getElem_cons_zero,List.getElem_cons_succ,List.setIfInBounds_toArray,List.set_cons_zero,List.set_cons_succ]
   refine ⟨_,rfl,by rfl,?_⟩
   try simp only [List.getElem_toArray,List.getElem_cons_zero,List.getElem_cons_succ]
   go_step
   refine ⟨Below.mono hx13 (by omega),?_⟩
   try simp only [Act.put,List.getElem_toArray,List.getElem_cons_zero,List.getElem_cons_succ,List.setIfInBounds_toArray,List.set_cons_zero,List.set_cons_succ]
   refine ⟨_,rfl,by rfl,?_⟩
   try simp only [List.getElem_toArray,List.getElem_cons_zero,List.getElem_cons_succ]
   go_step
   refine ⟨(Below.mono hx13 (by omega)).setCell (by simp) _,?_⟩
   try simp only [Act.put,List.getElem_toArray,List.getElem_cons_zero,List.getElem_cons_succ,List.setIfInBounds_toArray,List.set_cons_zero,List.set_cons_succ]
   simp only [Zkb]
   go_wp2_with fail
   have hsame:(w3.setCell ⟨w.heap.size+1+1,0,none⟩ (.int .i64 0)).cell? ⟨w.heap.size+1+1,0,none⟩=some (.int .i64 0):=World.cell?_setCell_same' _ _ _ (by rw [hc5'];rfl)
   refine leaves_cons (f:=34) (args:= #[.pointer (some ⟨w.heap.size+1+1,0,none⟩)]) (by simp) (by simp [go_sem]) ((Vg _ _).mono ?_)
   rintro en u' w'' ⟨rfl,rfl,rfl⟩
   exact ⟨.tuple #[.int .i64 r.1,.int .i64 0],by simp [results,Tryd.results20,go_sem,hsame],Zv (by first|rfl|rw [if_pos HZ.out]) (by first|rfl|exact HZ.out.symm),(hx.trans hx13).setCell (by simp;omega) _⟩
 · have HZ:=Lib.hid hz
   clear hz
   have hx13:=hx12.trans hx3
   have hc5':=hx13.cell hc5
   have hz5'':w3.frozen? ⟨w.heap.size+1+1,0,none⟩=false:=by rw [hx13.frozen_eq (by simp;omega)];exact hz5'
   go_wp2_with fail
   have hlt:w.heap.size+1+1<w3.heap.size:=by have:=hx13.size;omega
   refine leaves_cons (f:=34) (args:= #[.pointer (some ⟨w.heap.size+1+1,0,none⟩)]) (by simp) (by simp [go_sem]) ((V8 _ 0 r.2 _ hc5' hz5'' hlt).mono ?_)
   rintro en u' w'' ⟨rfl,rfl,rfl⟩
   have hsame:((w3.alloc (.cells #[.int .i64 r.2] 103)).setCell ⟨w.heap.size+1+1,0,none⟩ (.int .i64 r.2)).cell? ⟨w.heap.size+1+1,0,none⟩=some (.int .i64 r.2):=
    World.cell?_setCell_same' _ _ _ (by rw [World.cell?_alloc_lt w3 _ _ hlt,hc5'];rfl)
   simp only [settle,List.dropWhile]
   exact ⟨.tuple #[.int .i64 0,.int .i64 r.2],by simp [results,Tryd.results20,go_sem,hsame],Zv (by first|rfl|rw [if_neg HZ.out]) rfl,((hx.trans hx13).alloc _).setCell (by simp;omega) _⟩
theorem Zto (x:Ev) (hx:x.ok) (d:Nat) (cs:List Value) (e:Ex) (w:World) (he:ExIn w d cs e):
 Calls Tryd.prog 20 #[.agg cs.toArray,.agg x.cells.toArray] w fun en w'=>en= .returned (.tuple #[.int .i64 (Zaf e x).1,.int .i64 (Zaf e x).2])/\Ext w w':=by
 unfold Zaf
 cases hf:Wv 24 e
 · simpa using Zwm x d cs e w he hf
 · simp only [if_true]
   refine (Ztn x hx d cs e w he hf).mono fun en w' ⟨h1,h2⟩=>⟨?_,h2⟩
   rw [h1]
   by_cases hz:(Zd 24 e x).2=0
   · rw [if_pos hz]
   · rw [if_neg hz,Zd4 24 e x hz]
end
section
open Go
theorem Ziv {f:FuncId} {args:List (SV thy)} {v:SV thy} (h:∀(g:GH) (w:World) (vals:Array Value),Inv E w.heap.size σ0 hp0 g w->DenL E σ0 g args vals.toList->Calls E.P f vals w fun en w'=>∃u,en= .returned u/\Den E σ0 g v u/\Ext w w'):PureC E f args v:=by
 intro g w vals hI hd
 refine (h g w vals hI hd).mono ?_
 rintro en w' ⟨u,he,hv,hx⟩
 refine ⟨u,he,g,⟨.refl _,fun b p h=> .inl h,.refl _,fun _ _ _ h=> .inl h,fun _ _ h=> .inl h,fun r hr _=>hx.block hr,hx.size,hx.os,hx.tape,hx.output,fun b r z h1 h2=>by cases h2⟩,?_,hv⟩
 refine ⟨fun r o u hu=>hx.cell (hI.gc r o u hu),fun r es hu=> ?_,(fun b x hx=>by cases hx),fun b b' r z z' h1=>absurd rfl h1,(fun b r z hs=>by cases hs),(fun b x r z o v hx=>by cases hx),(fun b x r z hx=>by cases hx),hI.glob⟩
 obtain ⟨c,hc⟩:=hI.gm r es hu
 have hr:r<w.heap.size:=by
  rcases Nat.lt_or_ge r w.heap.size with h|h
  · exact h
  · rw [Array.getElem?_eq_none h] at hc;cases hc
 exact ⟨c,by rw [hx.block hr];exact hc⟩
end
section
open Go
theorem Zzp {arr:Array Value} {c:Nat->Value} {n:Nat} (hs:arr.size=n) (hc:∀j,j<n->arr[j]? =some (c j)):arr=((List.range n).map c).toArray:=by
 apply Array.ext'
 apply List.ext_getElem?
 intro j
 rw [Array.getElem?_toList]
 by_cases hj:j<n
 · rw [hc j hj,List.getElem?_map,List.getElem?_range hj];rfl
 · rw [Array.getElem?_eq_none (by omega),List.getElem?_eq_none (by simp;omega)]
theorem Zci {σ:Pl} {g:GH} {l:Bool} {k:IntKind} {n:Int} {u:Value} (h:Den E σ g (.int l k n) u):u= .int k n:=by cases h;rfl
theorem Z1g {g:GH} {w:World} (hI:Inv E w.heap.size σ0 hp0 g w):∀(n:Nat) (x:Ex),x.sz<=n->∀(c:Nat->Value),(∀(j:Nat) sv,(encF false .exprs x)[j]? =some sv->Den E σ0 g sv (c j))->ExIn w n [c 0,c 1,c 2,c 3,c 4,c 5,c 6] x
 |0,x,hx,_,_=>by have:=Ex.sz_pos x;omega
 |n+1,.mk op m a b d e l,hx,c,h=>by
  have e0:=Zci (h 0 _ rfl)
  have e1:=Zci (h 1 _ rfl)
  have e2:=Zci (h 2 _ rfl)
  have e3:=Zci (h 3 _ rfl)
  have e4:=Zci (h 4 _ rfl)
  have e5:=Zci (h 5 _ rfl)
  obtain ⟨base,cc,cv,h6,hl,hm,hf,hn,hb,hd⟩:=Wc (h 6 _ rfl)
  have hl:l.length<=cc:=hl
  refine ⟨.slice base l.length cc,?_,trivial,trivial,trivial,trivial,trivial,trivial,base,cc,rfl,hl,by unfold maxLen at hm;omega,fun h0=> ?_⟩
  · rw [e0,e1,e2,e3,e4,e5,h6];rfl
  · obtain ⟨r,o,hbase,hcell⟩:=hb h0
    refine ⟨r,o,hbase,?_,fun i x hi=>⟨[cv i 0,cv i 1,cv i 2,cv i 3,cv i 4,cv i 5,cv i 6],rfl,?_,?_⟩⟩
    · exact block_lt_of_cell (hI.gc _ _ _ (hcell 0 _ (gB9 h0) 0 (show (0:Nat)<7 by decide)))
    · intro j v hv
      have hj:j<7:=(gA9.1 hv).1
      have:=hI.gc _ _ _ (hcell i x hi j hj)
      have ev:cv i j=v:=by
       match j,hj,hv with
       |0,_,hv=>cases hv;rfl
       |1,_,hv=>cases hv;rfl
       |2,_,hv=>cases hv;rfl
       |3,_,hv=>cases hv;rfl
       |4,_,hv=>cases hv;rfl
       |5,_,hv=>cases hv;rfl
       |6,_,hv=>cases hv;rfl
      rw [<-ev]
      exact this
    · have hz:x.sz<Ex.sz (.mk op m a b d e l):=Ex.sz_mem (List.mem_of_getElem? hi)
      exact Z1g hI n x (by omega) (cv i) (hd i x hi)
def evA (x:Ev):SV thy:= .agg (.int false .i64 x.has::x.v.map (.int false .i64))
end
section
open Go.RowKit
structure Tso where
 a:Int
 lo:Int
 hi:Int
structure Cl where
 name:ByteArray
 tests:List Tso
 pay:Ex
structure Tf where
 name:ByteArray
 kind:Int
 cls:List Cl
def I64r (x:Int):Prop:= -9223372036854775808<=x/\x<=9223372036854775807
def Z0g (cs:List Value) (t:Tso):Prop:=cs= [.int .i64 t.a,.int .i64 t.lo,.int .i64 t.hi]/\I64r t.a/\I64r t.lo/\I64r t.hi
def ClIn (w:World) (cs:List Value) (c:Cl):Prop:=∃sv ps,cs= .string c.name::sv::ps/\SlIn w 3 Z0g sv c.tests/\ExR w ps c.pay
def TfIn (w:World) (cs:List Value) (t:Tf):Prop:=∃sv,cs= [.string t.name,.int .i64 t.kind,sv]/\I64 t.kind/\SlIn w 9 (ClIn w) sv t.cls
theorem ClIn.ext {w w':World} (hx:Ext w w') {cs:List Value} {c:Cl} (h:ClIn w cs c):ClIn w' cs c:=by
 obtain ⟨sv,ps,hcs,hs,he⟩:=h
 exact ⟨sv,ps,hcs,hs.mono hx fun _ _ _ h=>h,he.ext hx⟩
theorem TfIn.ext {w w':World} (hx:Ext w w') {cs:List Value} {t:Tf} (h:TfIn w cs t):TfIn w' cs t:=by
 obtain ⟨sv,hcs,hk,hs⟩:=h
 exact ⟨sv,hcs,hk,hs.mono hx fun _ _ _ h=>h.ext hx⟩
def Z6 (x:Ev):List Tso->Bool×Int
 | []=>(true,0)
 |t::ts=>if t.a<0\/16<=t.a then (false,1) else if (Z8 x t.a.toNat).2≠0 then (false,(Z8 x t.a.toNat).2) else
  if (Z8 x t.a.toNat).1<t.lo\/t.hi<(Z8 x t.a.toNat).1 then (false,0) else Z6 x ts
def Y5 (x:Ev):List Cl->Nat->Int×Int×Int
 | [],_=>(0,0,180)
 |c::cs,k=>if (Z6 x c.tests).2≠0 then (0,0,(Z6 x c.tests).2) else if (Z6 x c.tests).1=false then Y5 x cs (k+1) else
  if (Zaf c.pay x).2≠0 then (0,0,(Zaf c.pay x).2) else ((Zaf c.pay x).1,k,0)
theorem SlIn.open_ {α:Type} {w:World} {k:Nat} {R:List Value->α->Prop} {sv:Value} {l:List α} (h:SlIn w k R sv l):
 ∃A cap,sv= .slice A l.length cap/\l.length<=9223372036854775807/\l.length<=cap/\
  Hid (∀i x,l[i]? =some x->∃b o cs,A=some ⟨b,o,none⟩/\b<w.heap.size/\cs.length=k/\w.rangeAt b (o+i*k) cs/\R cs x):=by
 obtain ⟨A,cap,rfl,h1,h2,h3⟩:=h
 refine ⟨A,cap,rfl,by omega,h1,fun i x hi=> ?_⟩
 have hlt:i<l.length:=(gA9.1 hi).1
 obtain ⟨b,o,rfl,hb,h4⟩:=h3 (by omega)
 obtain ⟨cs,hl,hr,hR⟩:=h4 i x hi
 exact ⟨b,o,cs,rfl,hb,hl,hr,hR⟩
end
section
open Go.RowKit
theorem Zcv:(Tryd.prog.info? 74).map (·.size)=some 3:=by kernel_rfl
theorem Zju (x:Ev) (l:List Tso) (k:Nat) (h:k<l.length):Z6 x (l.drop k)=if l[k].a<0\/16<=l[k].a then (false,1) else if (Z8 x l[k].a.toNat).2≠0 then (false,(Z8 x l[k].a.toNat).2) else
 if (Z8 x l[k].a.toNat).1<l[k].lo\/l[k].hi<(Z8 x l[k].a.toNat).1 then (false,0) else Z6 x (l.drop (k+1)):=by
 rw [List.drop_eq_getElem_cons h];rfl
set_option maxHeartbeats 2000000 in
theorem Zn4 (x:Ev) (hx:x.ok) (cs:List Value) (c:Cl) (w:World) (hc:ClIn w cs c):
 Calls Tryd.prog 19 #[.agg cs.toArray,.agg x.cells.toArray] w fun en w'=>en= .returned (.tuple #[.bool (Z6 x c.tests).1,.int .i64 (Z6 x c.tests).2])/\Ext w w':=by
 have HXL:=Lib.hid (show x.cells.length=17 by simp [Ev.cells,hx.1])
 obtain ⟨sv,ps,rfl,hs,d,he⟩:=hc
 obtain ⟨A0,cap0,u0,u1,u2,u3,rfl,_⟩:=he.open_
 obtain ⟨A,cap,rfl,hlen,hcap,HEL⟩:=hs.open_
 obtain ⟨r,hr⟩:∃r,Z6 x c.tests=r:=⟨_,rfl⟩
 rw [hr]
 have HR:=Lib.hid hr
 clear hr he hs
 generalize c.tests=l at*
 generalize hn:l.length=n at*
 have HN:=Lib.hid hn
 clear hn
 have hr30:∀o,(((w.alloc o).alloc (.cells x.cells.toArray 27)).alloc (.cells #[.int .i64 0] 40)).rangeAt (w.heap.size+1) 0 x.cells:=by
  intro o j v hv;simp [go_sem,hv]
 have HR3:=Lib.hid hr30
 clear hr30
 go_enter_defers Tryd.func19,Tryd.ntmps19
 go_wp2_with (refine wpList_load_mid rfl 27 _ rfl (w.heap.size+1) 0 rfl x.cells _ (HR3.out _) Tryd.underlying27 rfl (by rw [HXL.out];exact X7) ?_)
 refine (Zja x _ hx).mono ?_
 rintro e1 w1 ⟨rfl,hx1,hX⟩
 have hx0:=((((Ext.refl w).alloc _).alloc _).alloc _).trans hx1
 have hc1:=hx1.cell (p:=⟨w.heap.size,1,none⟩) (v:= .slice A n cap) (by simp [go_sem])
 have hc5:=hx1.cell (p:=⟨w.heap.size+1+1,0,none⟩) (v:= .int .i64 0) (by simp [go_sem])
 have hz5:=hx1.frozen_eq (p:=⟨w.heap.size+1+1,0,none⟩) (by simp)
 have hz5':w1.frozen? ⟨w.heap.size+1+1,0,none⟩=false:=by rw [hz5];simp [go_sem]
 have hsz:=hx1.size
 simp at hsz
 generalize hXe:World.heap _=Hp at hX
 generalize Hp.size+1=X at hX
 clear hx1 hz5 HR3 hXe
 go_wp2_with fail
 go_loopw [4,15] (fun b4 i wr=>∃k:Nat,k<=n/\b4= .bool false/\i= .int .i64 k/\Hid (Z6 x (l.drop k)=r)/\Ext w1 wr) (fun _ i _=>n-(intOf i).toNat)
 case atStart=>exact ⟨0,Nat.zero_le _,rfl,rfl,HR.out,Ext.refl _⟩
 case round=>
  obtain ⟨k,hk,rfl,rfl,HK,hxr⟩:=hrel
  by_cases hlt:k<n
  · have hlk:k<l.length:=by rw [HN.out];exact hlt
    obtain ⟨b,o,cs1,rfl,hb,hl1,hr1,rfl,i1,i2,i3⟩:=HEL.out k l[k] (gB9 hlk)
    have hrr:=hxr.range (hx0.range hr1)
    have hst:=Zju x l k hlk
    rw [HK.out] at hst
    have hta:I64r l[k].a:=i1
    have hX2:=fun o=>hX.ext (hxr.alloc o)
    have HX2:=Lib.hid hX2
    generalize l[k].a=ta at*
    generalize l[k].lo=lo at*
    generalize l[k].hi=hi at*
    have HS:=Lib.hid hst
    clear hst hr1 HK hl1 hlk i1 i2 i3 hX2
    by_cases h1:ta<0\/16<=ta
    · have HS2:=Lib.hid (show r=(false,1) by rw [HS.out,if_pos h1])
      clear HS
      have hld:∀W,Calls Tryd.prog 36 #[.pointer (some ⟨X,0,none⟩),.int .i64 ta] W fun en w'=>en= .panicked (Zb9 1)/\Ext W w':=
       fun W=>(Zsx ta X W h1).mono fun _ _ h=>⟨h.1,h.2▸Ext.refl _⟩
      have HLO:=Lib.hid hld
      clear hld
      go_wp2_with (refine wpList_load_mid rfl 74 _ rfl b (o+k*3) rfl _ _ hrr Tryd.underlying74 rfl Zcv ?_)
      refine (HLO.out _).mono ?_
      rintro e1 w2 ⟨rfl,hx2⟩
      have hx12:Ext w1 w2:=(hxr.alloc _).trans hx2
      clear hx2
      have g5:=Ext.cell (hx12) hc5
      have gz:World.frozen? w2 ⟨w.heap.size+1+1,0,none⟩=false:=by rw [Ext.frozen_eq (hx12) (by simp;omega)];exact hz5'
      have glt:w.heap.size+1+1<(w2).heap.size:=by have:=Ext.size (hx12);omega
      go_wp2_with fail
      refine leaves_cons (f:=34) (args:= #[.pointer (some ⟨w.heap.size+1+1,0,none⟩)]) (by simp) (by simp [go_sem]) ((V8 _ 0 1 _ g5 gz glt).mono ?_)
      rintro en u' w'' ⟨rfl,rfl,rfl⟩
      have hsame:((World.alloc w2 (.cells #[.int .i64 1] 103)).setCell ⟨w.heap.size+1+1,0,none⟩ (.int .i64 1)).cell? ⟨w.heap.size+1+1,0,none⟩=some (.int .i64 1):=
       World.cell?_setCell_same' _ _ _ (by rw [World.cell?_alloc_lt w2 _ _ glt,g5];rfl)
      simp only [settle,List.dropWhile]
      exact ⟨.tuple #[.bool false,.int .i64 1],by simp [results,Tryd.results19,go_sem,hsame],Zjc (by rw [HS2.out]) (by rw [HS2.out]),Ext.setCell (Ext.alloc (hx0.trans hx12) _) (by simp;omega) _⟩
    · have hs:=HS.out
      rw [if_neg h1] at hs
      obtain ⟨a,rfl⟩:=Int.eq_ofNat_of_zero_le (show 0<=ta by omega)
      rw [Int.toNat_natCast] at hs
      have ha:a<16:=by omega
      have hload:=fun o=>Znh x a X _ hx (HX2.out o) ha
      generalize Z8 x a=q at*
      have HLO:=Lib.hid hload
      obtain ⟨q1,q2⟩:=q
      clear HS hload h1 ha
      by_cases hq:q2=0
      · subst hq
        rw [if_neg (by simp)] at hs
        have hq3:q1<lo\/hi<q1\/(lo<=q1/\q1<=hi):=by omega
        have hs2:(q1<lo\/hi<q1->r=(false,0))/\(lo<=q1/\q1<=hi->r=Z6 x (l.drop (k+1))):=
         ⟨fun h=>by rw [hs,if_pos h],fun h=>by rw [hs,if_neg (by omega)]⟩
        have HS2:=Lib.hid hs2
        clear hs hs2
        go_wp2_with (refine wpList_load_mid rfl 74 _ rfl b (o+k*3) rfl _ _ hrr Tryd.underlying74 rfl Zcv ?_)
        refine (HLO.out _).mono ?_
        rintro e1 w2 ⟨⟨_,rfl⟩|⟨h0,rfl⟩,hx2⟩
        · have c1:=hx2.cell (p:=⟨wr.heap.size,1,none⟩) (v:= .int .i64 lo) (by simp [go_sem])
          have c2:=hx2.cell (p:=⟨wr.heap.size,2,none⟩) (v:= .int .i64 hi) (by simp [go_sem])
          have hx12:Ext w1 w2:=(hxr.alloc _).trans hx2
          clear hx2
          have g5:=Ext.cell (hx12) hc5
          have gz:World.frozen? w2 ⟨w.heap.size+1+1,0,none⟩=false:=by rw [Ext.frozen_eq (hx12) (by simp;omega)];exact hz5'
          have glt:w.heap.size+1+1<(w2).heap.size:=by have:=Ext.size (hx12);omega
          rcases hq3 with h1|h1|⟨h1,h2⟩
          · have HS3:=Lib.hid (HS2.out.1 (.inl h1))
            go_wp2_with fail
            have hsame:(World.setCell w2 ⟨w.heap.size+1+1,0,none⟩ (.int .i64 0)).cell? ⟨w.heap.size+1+1,0,none⟩=some (.int .i64 0):=World.cell?_setCell_same' _ _ _ (by rw [g5];rfl)
            refine leaves_cons (f:=34) (args:= #[.pointer (some ⟨w.heap.size+1+1,0,none⟩)]) (by simp) (by simp [go_sem]) ((Vg _ _).mono ?_)
            rintro en u' w'' ⟨rfl,rfl,rfl⟩
            exact ⟨.tuple #[.bool false,.int .i64 0],by simp [results,Tryd.results19,go_sem,hsame],Zjc (by rw [HS3.out]) (by rw [HS3.out]),Ext.setCell (hx0.trans hx12) (by simp;omega) _⟩
          · have HS3:=Lib.hid (HS2.out.1 (.inr h1))
            by_cases h0:q1<lo
            all_goals
             go_wp2_with fail
             have hsame:(World.setCell w2 ⟨w.heap.size+1+1,0,none⟩ (.int .i64 0)).cell? ⟨w.heap.size+1+1,0,none⟩=some (.int .i64 0):=World.cell?_setCell_same' _ _ _ (by rw [g5];rfl)
             refine leaves_cons (f:=34) (args:= #[.pointer (some ⟨w.heap.size+1+1,0,none⟩)]) (by simp) (by simp [go_sem]) ((Vg _ _).mono ?_)
             rintro en u' w'' ⟨rfl,rfl,rfl⟩
             exact ⟨.tuple #[.bool false,.int .i64 0],by simp [results,Tryd.results19,go_sem,hsame],Zjc (by rw [HS3.out]) (by rw [HS3.out]),Ext.setCell (hx0.trans hx12) (by simp;omega) _⟩
          · have HS3:=Lib.hid (HS2.out.2 ⟨h1,h2⟩)
            go_wp2_with fail
            go_roundw
            case rel=>exact ⟨k+1,by omega,rfl,by go_num,HS3.out.symm,hx12⟩
            case measure=>simp [intOf];omega
        · exact absurd rfl h0
      · have HS2:=Lib.hid (show r=(false,q2) by rw [hs,if_pos hq])
        have HQ:=Lib.hid hq
        clear hs hq
        go_wp2_with (refine wpList_load_mid rfl 74 _ rfl b (o+k*3) rfl _ _ hrr Tryd.underlying74 rfl Zcv ?_)
        refine (HLO.out _).mono ?_
        rintro e1 w2 ⟨⟨h0,rfl⟩|⟨h0,rfl⟩,hx2⟩
        · exact absurd h0 HQ.out
        · have hx12:Ext w1 w2:=(hxr.alloc _).trans hx2
          clear hx2 h0
          have g5:=Ext.cell (hx12) hc5
          have gz:World.frozen? w2 ⟨w.heap.size+1+1,0,none⟩=false:=by rw [Ext.frozen_eq (hx12) (by simp;omega)];exact hz5'
          have glt:w.heap.size+1+1<(w2).heap.size:=by have:=Ext.size (hx12);omega
          go_wp2_with fail
          refine leaves_cons (f:=34) (args:= #[.pointer (some ⟨w.heap.size+1+1,0,none⟩)]) (by simp) (by simp [go_sem]) ((V8 _ 0 q2 _ g5 gz glt).mono ?_)
          rintro en u' w'' ⟨rfl,rfl,rfl⟩
          have hsame:((World.alloc w2 (.cells #[.int .i64 q2] 103)).setCell ⟨w.heap.size+1+1,0,none⟩ (.int .i64 q2)).cell? ⟨w.heap.size+1+1,0,none⟩=some (.int .i64 q2):=
           World.cell?_setCell_same' _ _ _ (by rw [World.cell?_alloc_lt w2 _ _ glt,g5];rfl)
          simp only [settle,List.dropWhile]
          exact ⟨.tuple #[.bool false,.int .i64 q2],by simp [results,Tryd.results19,go_sem,hsame],Zjc (by rw [HS2.out]) (by rw [HS2.out]),Ext.setCell (Ext.alloc (hx0.trans hx12) _) (by simp;omega) _⟩
  · have HS2:=Lib.hid (show r=(true,0) by rw [<-HK.out,List.drop_of_length_le (by rw [HN.out];omega)];rfl)
    clear HK
    have g5:=Ext.cell (hxr) hc5
    have gz:World.frozen? wr ⟨w.heap.size+1+1,0,none⟩=false:=by rw [Ext.frozen_eq (hxr) (by simp;omega)];exact hz5'
    have glt:w.heap.size+1+1<(wr).heap.size:=by have:=Ext.size (hxr);omega
    go_wp2_with fail
    have hsame:(World.setCell wr ⟨w.heap.size+1+1,0,none⟩ (.int .i64 0)).cell? ⟨w.heap.size+1+1,0,none⟩=some (.int .i64 0):=World.cell?_setCell_same' _ _ _ (by rw [g5];rfl)
    refine leaves_cons (f:=34) (args:= #[.pointer (some ⟨w.heap.size+1+1,0,none⟩)]) (by simp) (by simp [go_sem]) ((Vg _ _).mono ?_)
    rintro en u' w'' ⟨rfl,rfl,rfl⟩
    exact ⟨.tuple #[.bool true,.int .i64 0],by simp [results,Tryd.results19,go_sem,hsame],Zjc (by rw [HS2.out]) (by rw [HS2.out]),Ext.setCell (hx0.trans hxr) (by simp;omega) _⟩
end
section
open Go.RowKit
theorem Vh:(Tryd.prog.info? 37).map (·.size)=some 9:=by kernel_rfl
theorem Zjk (x:Ev) (l:List Cl) (k:Nat) (h:k<l.length):Y5 x (l.drop k) k=
 if (Z6 x l[k].tests).2≠0 then (0,0,(Z6 x l[k].tests).2) else if (Z6 x l[k].tests).1=false then Y5 x (l.drop (k+1)) (k+1) else
  if (Zaf l[k].pay x).2≠0 then (0,0,(Zaf l[k].pay x).2) else ((Zaf l[k].pay x).1,k,0):=by
 rw [List.drop_eq_getElem_cons h];rfl
theorem Zct {r:Int×Int×Int} {a b c:Int} (h:r=(a,b,c)):Ending.returned (.tuple #[.int .i64 a,.int .i64 b,.int .i64 c])= .returned (.tuple #[.int .i64 r.1,.int .i64 r.2.1,.int .i64 r.2.2]):=by rw [h]
set_option maxHeartbeats 2000000 in
theorem Zl3 (x:Ev) (hx:x.ok) (cs:List Value) (t:Tf) (w:World) (ht:TfIn w cs t):
 Calls Tryd.prog 9 #[.agg cs.toArray,.agg x.cells.toArray] w fun en w'=>en= .returned (.tuple #[.int .i64 (Y5 x t.cls 0).1,.int .i64 (Y5 x t.cls 0).2.1,.int .i64 (Y5 x t.cls 0).2.2])/\Ext w w':=by
 have HXL:=Lib.hid (show x.cells.length=17 by simp [Ev.cells,hx.1])
 obtain ⟨sv,rfl,_,hs⟩:=ht
 obtain ⟨A,cap,rfl,hlen,hcap,HEL⟩:=hs.open_
 obtain ⟨r,hr⟩:∃r,Y5 x t.cls 0=r:=⟨_,rfl⟩
 rw [hr]
 have HR:=Lib.hid hr
 clear hr hs
 generalize t.cls=l at*
 generalize hn:l.length=n at*
 have HN:=Lib.hid hn
 clear hn
 go_enter Tryd.func9,Tryd.ntmps9
 go_wp2_with fail
 generalize hw0:World.alloc _ _=w0
 have hx0:Ext w w0:=by rw [<-hw0];exact ((Ext.refl _).alloc _).alloc _
 have hr3:w0.rangeAt (w.heap.size+1) 0 x.cells:=by rw [<-hw0];intro j v hv;simp [go_sem,hv]
 clear hw0
 go_loopw [14] (fun i wr=>∃k:Nat,k<=n/\i= .int .i64 k/\Hid (Y5 x (l.drop k) k=r)/\Ext w0 wr) (fun i _=>n-(intOf i).toNat)
 case atStart=>exact ⟨0,Nat.zero_le _,rfl,HR.out,Ext.refl _⟩
 case round=>
  obtain ⟨k,hk,rfl,HK,hxr⟩:=hrel
  by_cases hlt:k<n
  · have hlk:k<l.length:=by rw [HN.out];exact hlt
    obtain ⟨b,o,cs1,rfl,hb,hl1,hr1,hcl⟩:=HEL.out k l[k] (gB9 hlk)
    have hrr:=hxr.range (hx0.range hr1)
    have hst:=Zjk x l k hlk
    rw [HK.out] at hst
    have HS:=Lib.hid hst
    clear hst hr1 HK hl1
    generalize l[k]=c at*
    clear hlk
    have hcl2:=(hcl.ext hx0).ext hxr
    have hcl2':=hcl2
    obtain ⟨sv,ps,rfl,hsl,d,hE⟩:=hcl2'
    obtain ⟨A0,cap0,u0,u1,u2,u3,rfl,_⟩:=hE.open_
    obtain ⟨A1,cap1,rfl,_⟩:=hsl.open_
    have HH:=Lib.hid fun o=>Zn4 x hx _ c _ (hcl2.ext ((Ext.refl wr).alloc o))
    have HEV:=Lib.hid fun (W:World) (h:Ext wr W)=>Zto x hx d _ c.pay W (hE.ext h)
    have HRX:=Lib.hid fun o=>((hxr.alloc o).range hr3)
    clear hcl hcl2 hsl hE hb
    generalize Zaf c.pay x=p at*
    generalize Z6 x c.tests=q at*
    obtain ⟨p1,p2⟩:=p
    obtain ⟨q1,q2⟩:=q
    have hs:=HS.out
    clear HS
    by_cases hq:q2=0
    · subst hq
      rw [if_neg (by simp)] at hs
      have HS:=Lib.hid hs
      clear hs
      cases q1
      · have HS2:=Lib.hid (show r=Y5 x (l.drop (k+1)) (k+1) by rw [HS.out];rfl)
        clear HS
        go_wp2_with (first
         |(refine wpList_load_mid rfl 37 _ rfl b (o+k*9) rfl _ _ hrr Tryd.underlying37 rfl Vh ?_)
         |(refine wpList_load_mid rfl 27 _ rfl (w.heap.size+1) 0 rfl x.cells _ (HRX.out _) Tryd.underlying27 rfl (by rw [HXL.out];exact X7) ?_))
        refine (HH.out _).mono ?_
        rintro e1 w2 ⟨rfl,hx2⟩
        go_wp2_with fail
        go_roundw
        case rel=>exact ⟨k+1,by omega,by go_num,HS2.out.symm,(hxr.alloc _).trans hx2⟩
        case measure=>simp [intOf];omega
      · have HS2:=Lib.hid (show r=if p2≠0 then (0,0,p2) else (p1,(k:Int),0) by rw [HS.out];rfl)
        clear HS
        by_cases hp:p2=0
        · subst hp
          have HS3:=Lib.hid (show r=(p1,(k:Int),0) by rw [HS2.out];rfl)
          clear HS2
          go_wp2_with (first
           |(refine wpList_load_mid rfl 37 _ rfl b (o+k*9) rfl _ _ hrr Tryd.underlying37 rfl Vh ?_)
           |(refine wpList_load_mid rfl 27 _ rfl (w.heap.size+1) 0 rfl x.cells _ (HRX.out _) Tryd.underlying27 rfl (by rw [HXL.out];exact X7) ?_))
          refine (HH.out _).mono ?_
          rintro e1 w2 ⟨rfl,hx2⟩
          have hrx2:=hx2.range (HRX.out _)
          have hrp:w2.rangeAt wr.heap.size 2 [.int .i64 c.pay.op,.int .i64 c.pay.n,.int .i64 u0,.int .i64 u1,.int .i64 u2,.int .i64 u3,.slice A0 c.pay.l.length cap0]:=
           hx2.range (by intro j v hv;simp [go_sem] at hv⊢;simpa [Nat.add_comm 2 j] using hv)
          have hxx:=((Ext.refl wr).alloc _).trans hx2
          clear hx2
          go_wp2_with (first
           |(refine wpList_load_mid rfl 35 _ rfl wr.heap.size 2 rfl _ _ hrp Tryd.underlying35 rfl Y2 ?_)
           |(refine wpList_load_mid rfl 27 _ rfl (w.heap.size+1) 0 rfl x.cells _ hrx2 Tryd.underlying27 rfl (by rw [HXL.out];exact X7) ?_))
          refine (HEV.out _ hxx).mono ?_
          rintro e2 w3 ⟨rfl,hx3⟩
          go_wp2_with fail
          go_ret3
          exact ⟨Zct HS3.out,(hx0.trans hxr).trans (hxx.trans hx3)⟩
        · have hp':(p2 !=0)=true:=by rw [bne_iff_ne];exact hp
          have HS3:=Lib.hid (show r=(0,0,p2) by rw [HS2.out,if_pos hp])
          clear HS2 hp
          go_wp2_with (first
           |(refine wpList_load_mid rfl 37 _ rfl b (o+k*9) rfl _ _ hrr Tryd.underlying37 rfl Vh ?_)
           |(refine wpList_load_mid rfl 27 _ rfl (w.heap.size+1) 0 rfl x.cells _ (HRX.out _) Tryd.underlying27 rfl (by rw [HXL.out];exact X7) ?_))
          refine (HH.out _).mono ?_
          rintro e1 w2 ⟨rfl,hx2⟩
          have hrx2:=hx2.range (HRX.out _)
          have hrp:w2.rangeAt wr.heap.size 2 [.int .i64 c.pay.op,.int .i64 c.pay.n,.int .i64 u0,.int .i64 u1,.int .i64 u2,.int .i64 u3,.slice A0 c.pay.l.length cap0]:=
           hx2.range (by intro j v hv;simp [go_sem] at hv⊢;simpa [Nat.add_comm 2 j] using hv)
          have hxx:=((Ext.refl wr).alloc _).trans hx2
          clear hx2
          go_wp2_with (first
           |(refine wpList_load_mid rfl 35 _ rfl wr.heap.size 2 rfl _ _ hrp Tryd.underlying35 rfl Y2 ?_)
           |(refine wpList_load_mid rfl 27 _ rfl (w.heap.size+1) 0 rfl x.cells _ hrx2 Tryd.underlying27 rfl (by rw [HXL.out];exact X7) ?_))
          refine (HEV.out _ hxx).mono ?_
          rintro e2 w3 ⟨rfl,hx3⟩
          go_wp2_with fail
          go_ret3
          exact ⟨Zct HS3.out,(hx0.trans hxr).trans (hxx.trans hx3)⟩
    · have hq':(q2 !=0)=true:=by rw [bne_iff_ne];exact hq
      have HS3:=Lib.hid (show r=(0,0,q2) by rw [hs,if_pos hq])
      clear hs hq
      go_wp2_with (first
       |(refine wpList_load_mid rfl 37 _ rfl b (o+k*9) rfl _ _ hrr Tryd.underlying37 rfl Vh ?_)
       |(refine wpList_load_mid rfl 27 _ rfl (w.heap.size+1) 0 rfl x.cells _ (HRX.out _) Tryd.underlying27 rfl (by rw [HXL.out];exact X7) ?_))
      refine (HH.out _).mono ?_
      rintro e1 w2 ⟨rfl,hx2⟩
      go_wp2_with fail
      go_ret3
      exact ⟨Zct HS3.out,(hx0.trans hxr).trans (((Ext.refl wr).alloc _).trans hx2)⟩
  · have HS2:=Lib.hid (show r=(0,0,180) by rw [<-HK.out,List.drop_of_length_le (by rw [HN.out];omega)];rfl)
    clear HK
    go_wp2_with fail
    go_ret3
    exact ⟨Zct HS2.out,hx0.trans hxr⟩
end
section
open Go
theorem Z1r {g:GH} {w:World} (hI:Inv E w.heap.size σ0 hp0 g w) {β:Type} {th:Th} {l:List (domT th)} {full:Bool} {u:Value} (f:domT th->β) (R:List Value->β->Prop) (h:Den E σ0 g (.psl th l full) u) (hw:0<wT th) (hlen:∀x,(encF false th x).length=wT th)
 (hR:∀x∈l,∀c:Nat->Value,(∀(j:Nat) sv,(encF false th x)[j]? =some sv->Den E σ0 g sv (c j))->R ((List.range (wT th)).map c) (f x)):SlIn w (wT th) R u (l.map f):=by
 obtain ⟨base,cc,cv,rfl,hl,hm,hf,hn,hb,hd⟩:=Wc h
 have hl:l.length<=cc:=hl
 have ee:∀x,E.enc th x=encF false th x:=fun _=>rfl
 have ew:E.w th=wT th:=rfl
 refine ⟨base,cc,by rw [List.length_map],by rw [List.length_map];exact hl,by unfold maxLen at hm;omega,fun h0=> ?_⟩
 rw [List.length_map] at h0
 obtain ⟨r,o,hbase,hcell⟩:=hb h0
 refine ⟨r,o,hbase,?_,fun i x hi=> ?_⟩
 · exact block_lt_of_cell (hI.gc _ _ _ (hcell 0 _ (gB9 h0) 0 (by rw [ee,hlen];exact hw)))
 · rw [List.getElem?_map] at hi
   cases hx:l[i]? with
   |none=>rw [hx] at hi;cases hi
   |some y=>
    rw [hx] at hi
    cases hi
    refine ⟨(List.range (wT th)).map (cv i),by simp,fun j v hv=> ?_,hR y (List.mem_of_getElem? hx) _ (hd i y hx)⟩
    have hj:j<wT th:=by have:=(gA9.1 hv).1;simpa using this
    rw [List.getElem?_map,List.getElem?_range hj] at hv
    cases hv
    have:=hI.gc _ _ _ (hcell i y hx j (by rw [ee,hlen];exact hj))
    rw [ew] at this
    exact this
def toTs (w:Tst):Tso:=⟨w.attr,w.low,w.high⟩
def toCl (c:Cls):Cl:=⟨mkS c.name,c.when_.map toTs,c.pay⟩
def toTf (t:Tar):Tf:=⟨mkS t.name,t.for_,t.clauses.map toCl⟩
def Tst.In (w:Tst):Prop:=I64r w.attr/\I64r w.low/\I64r w.high
theorem Z1s {σ:Pl} {g:GH} {l:Bool} {s:List Nat} {u:Value} (h:Den E σ g (.str l s) u):u= .string (mkS s):=by
 cases h
 rename_i b hb
 rw [<-hb,Zbw]
theorem Z2z {g:GH} {w:World} (hI:Inv E w.heap.size σ0 hp0 g w) (c:Cls) (hc:∀t∈c.when_,t.In) (v:Nat->Value) (h:∀(j:Nat) sv,(encF false .clauses c)[j]? =some sv->Den E σ0 g sv (v j)):ClIn w ((List.range 9).map v) (toCl c):=by
 refine ⟨v 1,[v 2,v 3,v 4,v 5,v 6,v 7,v 8],?_,?_,c.pay.sz,?_⟩
 · show v 0::_=_
   rw [Z1s (h 0 _ rfl)];rfl
 · refine Z1r hI (th:= .tests) toTs Z0g (h 1 _ rfl) (by decide) (fun _=>rfl) fun x hx d hd=> ?_
   refine ⟨?_,hc x hx⟩
   show [d 0,d 1,d 2]=_
   rw [Zci (hd 0 _ rfl),Zci (hd 1 _ rfl),Zci (hd 2 _ rfl)];rfl
 · refine Z1g hI _ c.pay (Nat.le_refl _) (fun j=>v (j+2)) fun j sv hj=>h (j+2) sv ?_
   rw [<-hj];rfl
def Zwo (t:Tar):Prop:=∀c∈t.clauses,∀w∈c.when_,w.In
theorem Z20 {g:GH} {w:World} (hI:Inv E w.heap.size σ0 hp0 g w) (t:Tar) (ht:Zwo t) (v:Nat->Value) (h:∀(j:Nat) sv,(encF false .tariffs t)[j]? =some sv->Den E σ0 g sv (v j)):TfIn w [v 0,v 1,v 2] (toTf t):=by
 refine ⟨v 2,?_,trivial,?_⟩
 · rw [Z1s (h 0 _ rfl),Zci (h 1 _ rfl)];rfl
 · exact Z1r hI (th:= .clauses) toCl (ClIn w) (h 2 _ rfl) (by decide) (fun _=>rfl) fun x hx d hd=>Z2z hI x (ht x hx) d hd
theorem Z1t {g:GH} {x:Ev} (hx:x.v.length=16) {v:Value} (hv:Den E σ0 g (evA x) v):v= .agg x.cells.toArray:=by
 obtain ⟨arr',c',rfl,hs',hc',hd'⟩:=Zx hv
 congr 1
 obtain ⟨has,v⟩:=x
 have hx:v.length=16:=hx
 apply Array.ext'
 apply List.ext_getElem?
 intro j
 have hs':arr'.size=17:=by rw [hs'];simp [hx]
 rw [Array.getElem?_toList]
 by_cases hj:j<17
 · rw [hc' j (by simp [hx];omega)]
   cases j with
   |zero=>rw [Zci (hd' 0 _ rfl)];rfl
   |succ j=>
    have hv:v[j]? =some (v[j]'(by omega)):=gB9 _
    have:=hd' (j+1) (.int false .i64 (v[j]'(by omega))) (by rw [List.getElem?_cons_succ,List.getElem?_map,hv];rfl)
    rw [Zci this]
    show _=(Value.int .i64 has::v.map (Value.int .i64))[j+1]?
    rw [List.getElem?_cons_succ,List.getElem?_map,hv];rfl
 · rw [Array.getElem?_eq_none (by omega),List.getElem?_eq_none (by simp [Ev.cells,hx];omega)]
theorem Zwp {σ:Pl} {g:GH} {a b c:Int}:Den E σ g (.tup [.int false .i64 a,.int false .i64 b,.int false .i64 c]) (.tuple #[.int .i64 a,.int .i64 b,.int .i64 c]):=by
 refine .tup (fun j=>match j with|0=> .int .i64 a|1=> .int .i64 b|_=> .int .i64 c) rfl (fun j hj=> ?_) (fun j sv hj=> ?_)
 · match j,hj with
   |0,_=>rfl
   |1,_=>rfl
   |2,_=>rfl
 · match j,hj with
   |0,hj=>cases hj;exact .int _ _ _
   |1,hj=>cases hj;exact .int _ _ _
   |2,hj=>cases hj;exact .int _ _ _
def amtF (t:Tar) (x:Ev):Int×Int×Int:=Y5 x (t.clauses.map toCl) 0
def amtV (y:Int×Int×Int):SV thy:= .tup [.int false .i64 y.1,.int false .i64 y.2.1,.int false .i64 y.2.2]
theorem Zl0 (t:Tar) (x:Ev) (hx:x.v.length=16) (ht:Zwo t):PureC E 9 [.agg (encF false .tariffs t),evA x] (amtV (amtF t x)):=by
 refine Ziv fun g w vals hI hd=> ?_
 obtain ⟨u,v,rfl,hu,hv⟩:=Zz8 hd
 obtain ⟨arr,c,rfl,hs,hc,hdu⟩:=Zx hu
 have ha:=Zzp hs hc
 rw [Z1t hx hv,ha]
 refine (Zl3 x ⟨hx,trivial,fun _ _=>trivial⟩ _ (toTf t) w (Z20 hI t ht c hdu)).mono ?_
 rintro en w' ⟨rfl,hx⟩
 exact ⟨_,rfl,Zwp,hx⟩
end
section
open Go
def W7 (x:Ins) (v:Ev) (a b:Int):Int×Int:=
 if x.op=1 then (x.n,0) else if x.op=2 then Z8 v x.n.toNat else if x.op=12 then (if x.n<=b/\b<=x.m then 1 else 0,0) else binF x.op a b
structure Oc where
 a:Int
 c:Int
 e:Int
 s:Bool
 m:Int
def ocX (m:Int):Oc:=⟨0,0,0,false,m⟩
def exS (x:Ins) (v:Ev) (i:Nat) (s:List Int) (m:Int) (K:Nat->List Int->Int->Oc):Oc:=
 let p:=(eff x.op).1.toNat
 if s.length<p then ocX m else
 let b:=if 0<p then s.getD (s.length-1) 0 else 0
 let a:=if 1<p then s.getD (s.length-2) 0 else 0
 let s1:=s.take (s.length-p)
 if x.op=15 then ⟨b,x.n,0,s1.length==0,m⟩
 else if x.op=16 then ⟨0,0,180,s1.length==0,m⟩
 else if 0<(eff x.op).2/\(W7 x v a b).2≠0 then ⟨0,0,(W7 x v a b).2,true,m⟩
 else
  let s2:=if 0<(eff x.op).2 then s1++ [(W7 x v a b).1] else s1
  let m2:=max m s2.length
  if x.op=14\/(x.op=13/\b=0) then (if x.n<=i then ocX m2 else K x.n.toNat s2 m2) else K (i+1) s2 m2
def exF (C:List Ins) (v:Ev):Nat->Nat->List Int->Int->Oc
 |0,_,_,m=>ocX m
 |f+1,i,s,m=>match C[i]? with
  |none=>ocX m
  |some x=>exS x v i s m (exF C v f)
def Goes (C:List Ins) (v:Ev) (i:Nat) (s:List Int) (j:Nat) (s':List Int):Prop:=∀f m,C.length<=f+i->∃f' m',C.length<=f'+j/\exF C v f i s m=exF C v f' j s' m'
def Ends (C:List Ins) (v:Ev) (i:Nat) (s:List Int) (a c e:Int):Prop:=∀f m,C.length<=f+i->∃m',exF C v f i s m=⟨a,c,e,true,m'⟩
theorem Goes.refl {C:List Ins} {v:Ev} {i:Nat} {s:List Int}:Goes C v i s i s:=fun f m h=>⟨f,m,h,rfl⟩
theorem Goes.trans {C:List Ins} {v:Ev} {i j k:Nat} {s t u:List Int} (h1:Goes C v i s j t) (h2:Goes C v j t k u):Goes C v i s k u:=fun f m h=>by
 obtain ⟨f',m',h',e⟩:=h1 f m h
 obtain ⟨f2,m2,h3,e2⟩:=h2 f' m' h'
 exact ⟨f2,m2,h3,e.trans e2⟩
theorem Goes.ends {C:List Ins} {v:Ev} {i j:Nat} {s t:List Int} {a c e:Int} (h1:Goes C v i s j t) (h2:Ends C v j t a c e):Ends C v i s a c e:=fun f m h=>by
 obtain ⟨f',m',h',e1⟩:=h1 f m h
 obtain ⟨m2,e2⟩:=h2 f' m' h'
 exact ⟨m2,e1.trans e2⟩
theorem Z0d {C:List Ins} {v:Ev} {i:Nat} {s:List Int} {x:Ins} (hx:C[i]? =some x) {f:Nat} (hf:C.length<=f+i) (m:Int):∃g,f=g+1/\exF C v f i s m=exS x v i s m (exF C v g):=by
 have hi:i<C.length:=(gA9.1 hx).1
 obtain ⟨g,rfl⟩:∃g,f=g+1:=⟨f-1,by omega⟩
 refine ⟨g,rfl,?_⟩
 show (match C[i]? with|none=>ocX m|some x=>exS x v i s m (exF C v g))=_
 rw [hx]
theorem Zop {C:List Ins} {v:Ev} {i j:Nat} {s t:List Int} {x:Ins} (hx:C[i]? =some x) (hj:i<j) (h:∀m K,∃m',exS x v i s m K=K j t m'):Goes C v i s j t:=fun f m hf=>by
 obtain ⟨g,rfl,e⟩:=Z0d (s:=s) hx hf m
 obtain ⟨m',e2⟩:=h m (exF C v g)
 exact ⟨g,m',by omega,e.trans e2⟩
theorem Zuw {C:List Ins} {v:Ev} {i:Nat} {s:List Int} {x:Ins} {a c e:Int} (hx:C[i]? =some x) (h:∀m K,∃m',exS x v i s m K=⟨a,c,e,true,m'⟩):Ends C v i s a c e:=fun f m hf=>by
 obtain ⟨g,rfl,e1⟩:=Z0d (s:=s) hx hf m
 obtain ⟨m',e2⟩:=h m (exF C v g)
 exact ⟨m',e1.trans e2⟩
theorem Zye {C:List Ins} {v:Ev} {i:Nat} {s:List Int} {n:Int} (hx:C[i]? =some (iNN 1 n)):Goes C v i s (i+1) (s++ [n]):=
 Zop hx (Nat.lt_succ_self _) fun m K=>⟨max m (s++ [n]).length,by simp [exS,iNN,eff,W7]⟩
theorem Zqt {C:List Ins} {v:Ev} {i:Nat} {s:List Int} {n:Int} (hx:C[i]? =some (iNN 2 n)) (h:(Z8 v n.toNat).2=0):Goes C v i s (i+1) (s++ [(Z8 v n.toNat).1]):=
 Zop hx (Nat.lt_succ_self _) fun m K=>⟨max m (s++ [(Z8 v n.toNat).1]).length,by simp [exS,iNN,eff,W7,h]⟩
theorem Zme {C:List Ins} {v:Ev} {i:Nat} {s:List Int} {n:Int} (hx:C[i]? =some (iNN 2 n)) (h:(Z8 v n.toNat).2≠0):Ends C v i s 0 0 (Z8 v n.toNat).2:=
 Zuw hx fun m K=>⟨m,by simp [exS,iNN,eff,W7,h]⟩
theorem Zyf {op:Int} (h1:3<=op) (h2:op<=11):eff op=(2,1):=by
 unfold eff
 rw [if_neg (by omega),if_neg (by omega),if_neg (by omega),if_neg (by omega)]
theorem Zux {op a b:Int} {v:Ev} (h1:3<=op) (h2:op<=11):W7 (iOp op) v a b=binF op a b:=by
 unfold W7 iOp
 rw [if_neg (by show op≠1;omega),if_neg (by show op≠2;omega),if_neg (by show op≠12;omega)]
theorem Zyg {s:List Int} {a b:Int}:(s++ [a,b]).getD ((s++ [a,b]).length-1) 0=b/\(s++ [a,b]).getD ((s++ [a,b]).length-2) 0=a/\(s++ [a,b]).take ((s++ [a,b]).length-2)=s:=by
 have e:(s++ [a,b]).length=s.length+2:=by simp
 rw [e]
 refine ⟨?_,?_,?_⟩
 · rw [List.getD_eq_getElem?_getD,List.getElem?_append_right (by omega)]
   rw [show s.length+2-1-s.length=1 by omega];rfl
 · rw [List.getD_eq_getElem?_getD,List.getElem?_append_right (by omega)]
   rw [show s.length+2-2-s.length=0 by omega];rfl
 · rw [show s.length+2-2=s.length by omega,List.take_left]
theorem Zw8 {v:Ev} {i:Nat} {s:List Int} {op a b:Int} {m:Int} {K:Nat->List Int->Int->Oc} (h1:3<=op) (h2:op<=11):
 exS (iOp op) v i (s++ [a,b]) m K=if (binF op a b).2≠0 then ⟨0,0,(binF op a b).2,true,m⟩ else K (i+1) (s++ [(binF op a b).1]) (max m (s++ [(binF op a b).1]).length):=by
 obtain ⟨t1,t2,t3⟩:=Zyg (s:=s) (a:=a) (b:=b)
 have he:eff op=(2,1):=Zyf h1 h2
 have o:(iOp op).op=op:=rfl
 have z2:(2:Int).toNat=2:=rfl
 have pb:=Zux (v:=v) (a:=a) (b:=b) h1 h2
 have n15:op≠15:=by omega
 have n16:op≠16:=by omega
 have n14:op≠14:=by omega
 have n13:op≠13:=by omega
 unfold exS
 simp only [o,he,z2,t1,t2,t3]
 by_cases h:(binF op a b).2=0
 · simp [pb,n15,n16,n14,n13,h]
   intro k;omega
 · simp [pb,n15,n16,h]
   intro k;omega
theorem Zw9 {C:List Ins} {v:Ev} {i:Nat} {s:List Int} {op a b:Int} (h1:3<=op) (h2:op<=11) (hx:C[i]? =some (iOp op)) (h:(binF op a b).2=0):Goes C v i (s++ [a,b]) (i+1) (s++ [(binF op a b).1]):=
 Zop hx (Nat.lt_succ_self _) fun m K=>⟨_,by rw [Zw8 h1 h2,if_neg (fun k=>k h)]⟩
theorem Zyh {C:List Ins} {v:Ev} {i:Nat} {s:List Int} {op a b:Int} (h1:3<=op) (h2:op<=11) (hx:C[i]? =some (iOp op)) (h:(binF op a b).2≠0):Ends C v i (s++ [a,b]) 0 0 (binF op a b).2:=
 Zuw hx fun m K=>⟨_,by rw [Zw8 h1 h2,if_pos h]⟩
theorem Zqu {s:List Int} {b:Int}:(s++ [b]).getD ((s++ [b]).length-1) 0=b/\(s++ [b]).take ((s++ [b]).length-1)=s:=by
 have e:(s++ [b]).length=s.length+1:=by simp
 rw [e]
 refine ⟨?_,?_⟩
 · rw [List.getD_eq_getElem?_getD,List.getElem?_append_right (by omega)]
   rw [show s.length+1-1-s.length=0 by omega];rfl
 · rw [show s.length+1-1=s.length by omega,List.take_left]
theorem Zuy {C:List Ins} {v:Ev} {i:Nat} {s:List Int} {l h b:Int} (hx:C[i]? =some ⟨12,l,h⟩):Goes C v i (s++ [b]) (i+1) (s++ [if l<=b/\b<=h then 1 else 0]):=
 Zop hx (Nat.lt_succ_self _) fun m K=>by
  obtain ⟨t1,t2⟩:=Zqu (s:=s) (b:=b)
  refine ⟨max m (s++ [if l<=b/\b<=h then 1 else 0]).length,?_⟩
  unfold exS
  have he:eff (12:Int)=(1,1):=by decide
  simp only [he,Int.toNat_one,t1,t2]
  simp [W7]
theorem Zqv {C:List Ins} {v:Ev} {i:Nat} {s:List Int} {q:Nat} {b:Int} (hx:C[i]? =some (iNN 13 q)) (hq:i<q):Goes C v i (s++ [b]) (if b=0 then q else i+1) s:=
 Zop hx (by split<;>omega) fun m K=>by
  obtain ⟨t1,t2⟩:=Zqu (s:=s) (b:=b)
  refine ⟨max m s.length,?_⟩
  unfold exS
  have he:eff (13:Int)=(1,0):=by decide
  simp only [iNN,he,Int.toNat_one,t1,t2]
  have hq2:¬(q:Int)<=(i:Int):=by omega
  have hq3:¬q<=i:=by omega
  by_cases h:b=0
  · simp [h,hq2,hq3]
  · simp [h]
theorem Zyi {C:List Ins} {v:Ev} {i:Nat} {s:List Int} {q:Nat} (hx:C[i]? =some (iNN 14 q)) (hq:i<q):Goes C v i s q s:=
 Zop hx hq fun m K=>by
  refine ⟨max m s.length,?_⟩
  unfold exS
  have he:eff (14:Int)=(0,0):=by decide
  simp only [iNN,he,Int.toNat_zero,Nat.sub_zero,List.take_length]
  have hq2:¬(q:Int)<=(i:Int):=by omega
  have hq3:¬q<=i:=by omega
  simp [hq2,hq3]
theorem Zyj {C:List Ins} {v:Ev} {i:Nat} {k:Int} {b:Int} (hx:C[i]? =some (iNN 15 k)):Ends C v i [b] b k 0:=
 Zuw hx fun m K=>⟨m,by simp [exS,iNN,eff]⟩
theorem Zuz {C:List Ins} {v:Ev} {i:Nat} (hx:C[i]? =some (iOp 16)):Ends C v i [] 0 0 180:=
 Zuw hx fun m K=>⟨m,by simp [exS,iOp,eff]⟩
theorem Ws {A P B C:List Ins} (hC:C=A++P++B) {k:Nat} {x:Ins} (hx:P[k]? =some x) {i:Nat} (hi:i=A.length+k):C[i]? =some x:=by
 subst hC hi
 have hk:k<P.length:=(gA9.1 hx).1
 rw [List.append_assoc,List.getElem?_append_right (by omega),Nat.add_sub_cancel_left,List.getElem?_append_left hk,hx]
theorem Zhz:∀{l:List Ex} {y:Ex},y∈l->Y0 y<=Zbl l
 |z::r,y,hy=>by
  unfold Zbl
  rcases List.mem_cons.1 hy with rfl|h
  · omega
  · have:=Zhz h
    omega
theorem Zmf:∀{d:Nat} {x:Ex},Zo x=true->Y0 x<=d->Wv d x=true
 |0,x,_,hn=>by rw [Uh] at hn;omega
 |d+1,x,hf,hn=>by
  obtain ⟨ha,hl⟩:=Zh0 hf
  obtain ⟨hn0,hn1⟩:=Zs6 hf
  unfold Wv
  rw [Bool.and_eq_true]
  refine ⟨?_,?_⟩
  · rw [decide_eq_true_eq]
    unfold opsF
    obtain ⟨a1,a2,a3⟩:=ha
    rw [if_neg (by omega),a3]
    by_cases q:x.op=1\/x.op=2
    · rw [if_pos q,if_pos (by omega)];rfl
    · have h2:¬x.op<=2:=by omega
      rw [if_neg q,if_neg h2]
      by_cases h11:x.op=11
      · rw [if_pos h11,if_pos h11];rfl
      · rw [if_neg h11,if_neg h11];rfl
  · by_cases q1:x.op=1
    · rw [if_pos q1]
      unfold Zpa at hn1
      rw [if_pos q1] at hn1
      simp [hn0,hn1]
    · rw [if_neg q1]
      by_cases q2:x.op=2
      · rw [if_pos q2]
        unfold Zpa at hn1
        rw [if_neg q1,if_pos q2] at hn1
        simp [hn0];omega
      · rw [if_neg q2,List.all_eq_true]
        intro y hy
        refine Zmf (hl y hy) ?_
        rw [Uh] at hn
        have:=Zhz hy
        omega
theorem Zj7 (d:Nat) (e:Ex) (x:Ev):Zd (d+1) e x=if e.op=1 then (e.n,0) else if e.op=2 then Z8 x e.n.toNat else
 if (Zd d (e.l.getD 0 exT0) x).2≠0 then (0,(Zd d (e.l.getD 0 exT0) x).2) else if (Zd d (e.l.getD 1 exT0) x).2≠0 then (0,(Zd d (e.l.getD 1 exT0) x).2) else
 if e.op≠11 then Za7 e.op (Zd d (e.l.getD 0 exT0) x).1 (Zd d (e.l.getD 1 exT0) x).1 else
 if (Zd d (e.l.getD 0 exT0) x).1<(Zd d (e.l.getD 1 exT0) x).1 then Zd d (e.l.getD 2 exT0) x else Zd d (e.l.getD 3 exT0) x:=rfl
theorem Zyk {d:Nat} {op n a b c e:Int} {y z:Ex} {v:Ev} (h3:3<=op) (h10:op<=10):Zd (d+1) (.mk op n a b c e [y,z]) v=
 if (Zd d y v).2≠0 then (0,(Zd d y v).2) else if (Zd d z v).2≠0 then (0,(Zd d z v).2) else binF op (Zd d y v).1 (Zd d z v).1:=by
 have e1:¬op=1:=by omega
 have e2:¬op=2:=by omega
 have e3:op≠11:=by omega
 have eb:∀p q,Za7 op p q=binF op p q:=fun p q=>by
  unfold Za7 binF
  by_cases q3:op=3
  · rw [if_pos q3,if_pos q3]
  by_cases q4:op=4
  · rw [if_neg q3,if_pos q4,if_neg q3,if_pos q4]
  by_cases q5:op=5
  · rw [if_neg q3,if_neg q4,if_pos q5,if_neg q3,if_neg q4,if_pos q5]
  by_cases q6:op=6
  · rw [if_neg q3,if_neg q4,if_neg q5,if_pos q6,if_neg q3,if_neg q4,if_neg q5,if_pos q6]
  by_cases q7:op=7
  · rw [if_neg q3,if_neg q4,if_neg q5,if_neg q6,if_pos q7,if_neg q3,if_neg q4,if_neg q5,if_neg q6,if_pos q7]
  rw [if_neg q3,if_neg q4,if_neg q5,if_neg q6,if_neg q7,if_neg q3,if_neg q4,if_neg q5,if_neg q6,if_neg q7]
  have:op=8\/op=9\/op=10:=by omega
  rcases this with rfl|rfl|rfl
  · rw [if_pos rfl]
  · rw [if_neg (by decide),if_pos rfl]
  · rw [if_neg (by decide),if_neg (by decide),if_pos rfl]
 rw [Zj7]
 simp only [Zd2,Zr7,List.getD_cons_zero,List.getD_cons_succ]
 rw [if_neg e1,if_neg e2,if_pos e3,eb]
theorem Zyl {d:Nat} {n a b c e:Int} {y z u w:Ex} {v:Ev}:Zd (d+1) (.mk 11 n a b c e [y,z,u,w]) v=
 if (Zd d y v).2≠0 then (0,(Zd d y v).2) else if (Zd d z v).2≠0 then (0,(Zd d z v).2) else if (Zd d y v).1<(Zd d z v).1 then Zd d u v else Zd d w v:=by
 rw [Zj7]
 refine (if_neg (by decide:¬(11:Int)=1)).trans ((if_neg (by decide:¬(11:Int)=2)).trans ?_)
 show (if (Zd d y v).2≠0 then (0,(Zd d y v).2) else if (Zd d z v).2≠0 then (0,(Zd d z v).2) else if (11:Int)≠11 then _ else if (Zd d y v).1<(Zd d z v).1 then Zd d u v else Zd d w v)=_
 rw [if_neg (fun h:(11:Int)≠11=>h rfl)]
def ExX (x:Ex) (v:Ev) (d:Nat):Prop:=∀(C A B:List Ins) (o:Nat),C=A++cdX x o++B->A.length=o->∀s,
 ((Zd d x v).2=0->Goes C v o s (o+(cdX x o).length) (s++ [(Zd d x v).1]))/\((Zd d x v).2≠0->Ends C v o s 0 0 (Zd d x v).2)
theorem ex_X (v:Ev):∀(d:Nat) (x:Ex),Zo x=true->Y0 x<=d->ExX x v d
 |0,x,_,hn=>by rw [Uh] at hn;omega
 |d+1,x,hf,hn=>by
  intro C A B o hC hA s
  rcases Y8 hf with ⟨op,n,a,b,c,e,rfl,ho⟩|⟨op,n,a,b,c,e,y,z,rfl,h3,h10,fy,fz⟩|⟨n,a,b,c,e,y,z,u,w,rfl,fy,fz,fu,fw⟩
  · rw [Zj8 ho] at hC⊢
    have hx:C[o]? =some (iNN op n):=Ws hC (k:=0) rfl (by omega)
    rcases ho with rfl|rfl
    · have ev:Zd (d+1) (.mk 1 n a b c e []) v=(n,0):=rfl
      rw [ev]
      exact ⟨fun _=>Zye hx,fun h=>absurd rfl h⟩
    · have ev:Zd (d+1) (.mk 2 n a b c e []) v=Z8 v n.toNat:=by
       rw [Zj7]
       exact (if_neg (by decide:¬(2:Int)=1)).trans (if_pos rfl)
      rw [ev]
      exact ⟨fun h=>Zqt hx h,fun h=>Zme hx h⟩
  · have ny:Y0 y<=d/\Y0 z<=d:=by
     rw [Uh] at hn
     have hn:max (Y0 y) (max (Y0 z) 0)+1<=d+1:=hn
     omega
    rw [Zj9 h3 h10] at hC⊢
    rw [Zyk h3 h10]
    have iy:=ex_X v d y fy ny.1 C A (cdX z (o+(cdX y o).length)++ [iOp op]++B) o (by rw [hC];simp) hA s
    have iz:=ex_X v d z fz ny.2 C (A++cdX y o) ([iOp op]++B) (o+(cdX y o).length) (by rw [hC];simp) (by simp [hA])
    generalize hP:(cdX y o).length=P at hC iz iy⊢
    generalize hQ:(cdX z (o+P)).length=Q at hC iz⊢
    have hx:C[o+P+Q]? =some (iOp op):=Ws (A:=A++cdX y o++cdX z (o+P)) (P:= [iOp op]) (B:=B) (by rw [hC];simp) (k:=0) rfl (by simp [hA,hP,hQ];omega)
    have hlen:o+(cdX y o++cdX z (o+P)++ [iOp op]).length=o+P+Q+1:=by simp [hP,hQ];omega
    rw [hlen]
    by_cases e1:(Zd d y v).2=0
    · rw [if_neg (fun k=>k e1)]
      have g1:=iy.1 e1
      have iz:=iz (s++ [(Zd d y v).1])
      by_cases e2:(Zd d z v).2=0
      · rw [if_neg (fun k=>k e2)]
        have g2:=iz.1 e2
        rw [List.append_assoc] at g2
        exact ⟨fun h=>(g1.trans g2).trans (Zw9 h3 (by omega) hx h),fun h=>(g1.trans g2).ends (Zyh h3 (by omega) hx h)⟩
      · rw [if_pos e2]
        exact ⟨fun h=>absurd h e2,fun _=>g1.ends (iz.2 e2)⟩
    · rw [if_pos e1]
      exact ⟨fun h=>absurd h e1,fun _=>iy.2 e1⟩
  · have ny:Y0 y<=d/\Y0 z<=d/\Y0 u<=d/\Y0 w<=d:=by
     rw [Uh] at hn
     have hn:max (Y0 y) (max (Y0 z) (max (Y0 u) (max (Y0 w) 0)))+1<=d+1:=hn
     omega
    generalize hp:o+(cdX y o).length+(cdX z (o+(cdX y o).length)).length+2=p
    generalize hq:p+(cdX u p).length+1=q
    have hcd:=Zka (n:=n) (a:=a) (b:=b) (c:=c) (d:=e) (x:=y) (y:=z) (z:=u) (w:=w) (o:=o) hp.symm hq.symm
    rw [hcd] at hC⊢
    rw [Zyl]
    have iy:=ex_X v d y fy ny.1 C A (cdX z (o+(cdX y o).length)++iOp 11::iNN 13 q::(cdX u p++iNN 14 (q+(cdX w q).length:Nat)::cdX w q)++B) o (by rw [hC];simp) hA s
    have iz:=ex_X v d z fz ny.2.1 C (A++cdX y o) (iOp 11::iNN 13 q::(cdX u p++iNN 14 (q+(cdX w q).length:Nat)::cdX w q)++B) (o+(cdX y o).length) (by rw [hC];simp) (by simp [hA])
    have iu:=ex_X v d u fu ny.2.2.1 C (A++cdX y o++cdX z (o+(cdX y o).length)++ [iOp 11,iNN 13 q]) (iNN 14 (q+(cdX w q).length:Nat)::cdX w q++B) p (by rw [hC];simp) (by simp [hA];omega) s
    have iw:=ex_X v d w fw ny.2.2.2 C (A++cdX y o++cdX z (o+(cdX y o).length)++ [iOp 11,iNN 13 q]++cdX u p++ [iNN 14 (q+(cdX w q).length:Nat)]) B q (by rw [hC];simp) (by simp [hA];omega) s
    have x11:C[o+(cdX y o).length+(cdX z (o+(cdX y o).length)).length]? =some (iOp 11):=Ws (A:=A++cdX y o++cdX z (o+(cdX y o).length)) (P:=iOp 11::iNN 13 q::(cdX u p++iNN 14 (q+(cdX w q).length:Nat)::cdX w q)) (B:=B) (by rw [hC];simp) (k:=0) rfl (by simp [hA];omega)
    have x13:C[o+(cdX y o).length+(cdX z (o+(cdX y o).length)).length+1]? =some (iNN 13 q):=Ws (A:=A++cdX y o++cdX z (o+(cdX y o).length)) (P:=iOp 11::iNN 13 q::(cdX u p++iNN 14 (q+(cdX w q).length:Nat)::cdX w q)) (B:=B) (by rw [hC];simp) (k:=1) rfl (by simp [hA];omega)
    have x14:C[p+(cdX u p).length]? =some (iNN 14 (q+(cdX w q).length:Nat)):=Ws (A:=A++cdX y o++cdX z (o+(cdX y o).length)++ [iOp 11,iNN 13 q]++cdX u p) (P:=iNN 14 (q+(cdX w q).length:Nat)::cdX w q) (B:=B) (by rw [hC];simp) (k:=0) rfl (by simp [hA];omega)
    generalize hP:(cdX y o).length=P at*
    generalize hQ:(cdX z (o+P)).length=Q at*
    generalize hU:(cdX u p).length=U at*
    generalize hW:(cdX w q).length=W at*
    have hlen:o+(cdX y o++cdX z (o+P)++iOp 11::iNN 13 ↑q::(cdX u p++iNN 14 ↑(q+W)::cdX w q)).length=q+W:=by simp [hP,hQ,hU,hW];omega
    rw [hlen]
    clear hC hcd
    by_cases e1:(Zd d y v).2=0
    · rw [if_neg (fun k=>k e1)]
      have g1:=iy.1 e1
      have iz:=iz (s++ [(Zd d y v).1])
      by_cases e2:(Zd d z v).2=0
      · rw [if_neg (fun k=>k e2)]
        have g2:=iz.1 e2
        rw [List.append_assoc] at g2
        have b0:∀a b,binF 11 a b=(if a<b then 1 else 0,0):=fun a b=>by
         unfold binF
         simp
        have g3:=Zw9 (C:=C) (v:=v) (s:=s) (a:=(Zd d y v).1) (b:=(Zd d z v).1) (by decide) (by decide) x11 (by rw [b0])
        rw [b0] at g3
        have g4:=Zqv (v:=v) (s:=s) (b:=if (Zd d y v).1<(Zd d z v).1 then 1 else 0) x13 (by omega)
        have g5:=((g1.trans g2).trans g3).trans g4
        by_cases lt:(Zd d y v).1<(Zd d z v).1
        · rw [if_pos lt] at g5⊢
          rw [if_neg (by decide),show o+P+Q+1+1=p by omega] at g5
          exact ⟨fun h=>(g5.trans (iu.1 h)).trans (Zyi x14 (by omega)),fun h=>g5.ends (iu.2 h)⟩
        · rw [if_neg lt] at g5⊢
          rw [if_pos rfl] at g5
          exact ⟨fun h=>g5.trans (iw.1 h),fun h=>g5.ends (iw.2 h)⟩
      · rw [if_pos e2]
        exact ⟨fun h=>absurd h e2,fun _=>g1.ends (iz.2 e2)⟩
    · rw [if_pos e1]
      exact ⟨fun h=>absurd h e1,fun _=>iy.2 e1⟩
theorem Z0e (v:Ev):∀(ws:List Tst),(∀w∈ws,Ya w=true)->∀(C A B:List Ins) (o n:Nat),C=A++cdTs n ws++B->A.length=o->o+3*ws.length<n->
 ((Z6 v (ws.map toTs)).2≠0->Ends C v o [] 0 0 (Z6 v (ws.map toTs)).2)/\((Z6 v (ws.map toTs)).2=0->(Z6 v (ws.map toTs)).1=true->Goes C v o [] (o+3*ws.length) [])/\
 ((Z6 v (ws.map toTs)).2=0->(Z6 v (ws.map toTs)).1=false->Goes C v o [] n [])
 | [],_,C,A,B,o,n,hC,hA,hn=>⟨fun h=>absurd rfl h,fun _ _=>Goes.refl,fun _ h=>by cases h⟩
 |w::r,hw,C,A,B,o,n,hC,hA,hn=>by
  have hk:=of_decide_eq_true (hw w (.head _))
  have eh:Z6 v ((w::r).map toTs)=if (Z8 v w.attr.toNat).2≠0 then (false,(Z8 v w.attr.toNat).2) else if (Z8 v w.attr.toNat).1<w.low\/w.high<(Z8 v w.attr.toNat).1 then (false,0) else Z6 v (r.map toTs):=by
   show (if w.attr<0\/16<=w.attr then (false,(1:Int)) else _)=_
   rw [if_neg (by omega)]
   rfl
  rw [eh]
  have hC':C=A++(iNN 2 w.attr::⟨12,w.low,w.high⟩::iNN 13 n::cdTs n r)++B:=hC
  have x0:C[o]? =some (iNN 2 w.attr):=Ws hC' (k:=0) rfl (by omega)
  have x1:C[o+1]? =some ⟨12,w.low,w.high⟩:=Ws hC' (k:=1) rfl (by omega)
  have x2:C[o+1+1]? =some (iNN 13 n):=Ws hC' (k:=2) rfl (by omega)
  have ih:=Z0e v r (fun x hx=>hw x (.tail _ hx)) C (A++ [iNN 2 w.attr,⟨12,w.low,w.high⟩,iNN 13 n]) B (o+1+1+1) n (by rw [hC'];simp) (by simp [hA]) (by simp at hn;omega)
  have el:o+1+1+1+3*r.length=o+3*(w::r).length:=by simp;omega
  rw [el] at ih
  by_cases e1:(Z8 v w.attr.toNat).2=0
  · rw [if_neg (fun k=>k e1)]
    have g1:=Zqt (s:= []) x0 e1
    have g2:=g1.trans (Zuy (s:= []) x1)
    have g3:=g2.trans (Zqv (s:= []) x2 (by simp at hn;omega))
    by_cases e2:(Z8 v w.attr.toNat).1<w.low\/w.high<(Z8 v w.attr.toNat).1
    · rw [if_pos e2]
      have hr:(if w.low<=(Z8 v w.attr.toNat).1/\(Z8 v w.attr.toNat).1<=w.high then (1:Int) else 0)=0:=if_neg (by omega)
      rw [hr,if_pos rfl] at g3
      exact ⟨fun h=>absurd rfl h,fun _ h=>(by cases h),fun _ _=>g3⟩
    · rw [if_neg e2]
      have hr:(if w.low<=(Z8 v w.attr.toNat).1/\(Z8 v w.attr.toNat).1<=w.high then (1:Int) else 0)=1:=if_pos (by omega)
      rw [hr,if_neg (by decide)] at g3
      exact ⟨fun h=>g3.ends (ih.1 h),fun h h2=>g3.trans (ih.2.1 h h2),fun h h2=>g3.trans (ih.2.2 h h2)⟩
  · rw [if_pos e1]
    exact ⟨fun _=>Zme (s:= []) x0 e1,fun h=>absurd h e1,fun h=>absurd h e1⟩
theorem Z0f (v:Ev):∀(l:List Cls),(∀c∈l,Zo c.pay=true/\Y0 c.pay<=24/\∀w∈c.when_,Ya w=true)->∀(C A:List Ins) (i o:Nat),C=A++cdCs l i o++ [iOp 16]->A.length=o->
 Ends C v o [] (Y5 v (l.map toCl) i).1 (Y5 v (l.map toCl) i).2.1 (Y5 v (l.map toCl) i).2.2
 | [],_,C,A,i,o,hC,hA=>Zuz (Ws (A:=A) (P:= [iOp 16]) (B:= []) (by rw [hC];simp [cdCs]) (k:=0) rfl (by omega))
 |c::r,hc,C,A,i,o,hC,hA=>by
  obtain ⟨c1,c2,c3⟩:=hc c (.head _)
  have hC:C=A++(cdC c i o++cdCs r (i+1) (o+(cdC c i o).length))++ [iOp 16]:=hC
  have ih:=Z0f v r (fun x hx=>hc x (.tail _ hx)) C (A++cdC c i o) (i+1) (o+(cdC c i o).length) (by rw [hC];simp) (by simp [hA])
  have ea:Y5 v ((c::r).map toCl) i=if (Z6 v (c.when_.map toTs)).2≠0 then (0,0,(Z6 v (c.when_.map toTs)).2) else if (Z6 v (c.when_.map toTs)).1=false then Y5 v (r.map toCl) (i+1) else
   if (Zaf c.pay v).2≠0 then (0,0,(Zaf c.pay v).2) else ((Zaf c.pay v).1,i,0):=rfl
  rw [ea]
  have hE:Zaf c.pay v=Zd 24 c.pay v:=by unfold Zaf;rw [if_pos (Zmf c1 c2)]
  rw [hE]
  have hl:=Zls c i o
  generalize hn:o+3*c.when_.length+(cdX c.pay (o+3*c.when_.length)).length+1=n
  have eC:cdC c i o=cdTs n c.when_++cdX c.pay (o+3*c.when_.length)++ [iNN 15 i]:=by
   unfold cdC
   simp only [hn]
  have en:o+(cdC c i o).length=n:=by rw [hl];omega
  rw [en] at hC ih
  rw [eC] at hC
  have t:=Z0e v c.when_ c3 C A (cdX c.pay (o+3*c.when_.length)++ [iNN 15 i]++cdCs r (i+1) n++ [iOp 16]) o n (by rw [hC];simp) hA (by omega)
  have x:=ex_X v 24 c.pay c1 c2 C (A++cdTs n c.when_) ([iNN 15 i]++cdCs r (i+1) n++ [iOp 16]) (o+3*c.when_.length) (by rw [hC];simp) (by simp [hA,Yu]) []
  have hp:C[o+3*c.when_.length+(cdX c.pay (o+3*c.when_.length)).length]? =some (iNN 15 i):=Ws (A:=A++cdTs n c.when_++cdX c.pay (o+3*c.when_.length)) (P:= [iNN 15 i]) (B:=cdCs r (i+1) n++ [iOp 16]) (by rw [hC];simp) (k:=0) rfl (by simp [hA,Yu];omega)
  by_cases e1:(Z6 v (c.when_.map toTs)).2=0
  · rw [if_neg (fun k=>k e1)]
    cases e2:(Z6 v (c.when_.map toTs)).1 with
    |false=>exact (t.2.2 e1 e2).ends ih
    |true=>
     rw [if_neg (by decide)]
     have g:=t.2.1 e1 e2
     by_cases e3:(Zd 24 c.pay v).2=0
     · rw [if_neg (fun k=>k e3)]
       exact (g.trans (x.1 e3)).ends (Zyj hp)
     · rw [if_pos e3]
       exact g.ends (x.2 e3)
  · rw [if_pos e1]
    exact t.1 e1
theorem ex_T {t:Tar} (h:Xh t=0) (v:Ev):∃m,exF (cdT t) v (cdT t).length 0 [] 0=⟨(amtF t v).1,(amtF t v).2.1,(amtF t v).2.2,true,m⟩:=by
 obtain ⟨-,-,-,-,-,c6⟩:=(Zeh t).1 h
 obtain ⟨c1,_,_⟩:=Zek h
 have hn:∀{cs:List Cls} {s:List (List Nat)},CsOk s cs->∀c∈cs,Y0 c.pay<=24:=by
  intro cs
  induction cs with
  |nil=>intro s _ c hc;cases hc
  |cons d r ih=>
   intro s hs c hc
   obtain ⟨_,_,_,_,h5,h6⟩:=hs
   rcases List.mem_cons.1 hc with rfl|hc
   · exact h5
   · exact ih h6 c hc
 exact Z0f v t.clauses (fun c hc=>⟨(c1 c hc).1,hn c6 c hc,(c1 c hc).2⟩) (cdT t) [] 0 0 (by unfold cdT;simp) rfl _ _ (Nat.le_refl _)
end
section
open Go
def evE (v:Env):Ev:=⟨v.has,v.v⟩
def exR2 (x:Ins) (v:Ev) (i:Nat) (s1:List Int) (a b:Int) (m:Int) (K:Nat->List Int->Int->Oc):Oc:=
 if x.op=15 then ⟨b,x.n,0,s1.length==0,m⟩
 else if x.op=16 then ⟨0,0,180,s1.length==0,m⟩
 else if 0<(eff x.op).2/\(W7 x v a b).2≠0 then ⟨0,0,(W7 x v a b).2,true,m⟩
 else
  let s2:=if 0<(eff x.op).2 then s1++ [(W7 x v a b).1] else s1
  let m2:=max m s2.length
  if x.op=14\/(x.op=13/\b=0) then (if x.n<=i then ocX m2 else K x.n.toNat s2 m2) else K (i+1) s2 m2
theorem Zca {x:Ins} {v:Ev} {i:Nat} {s:List Int} {m:Int} {K:Nat->List Int->Int->Oc} {a b:Int} {p:Nat} (hp:(eff x.op).1.toNat=p) (h:¬s.length<p) (hb:b=if 0<p then s.getD (s.length-1) 0 else 0) (ha:a=if 1<p then s.getD (s.length-2) 0 else 0):
 exS x v i s m K=exR2 x v i (s.take (s.length-p)) a b m K:=by
 subst hp;subst ha;subst hb
 exact if_neg h
def Like (x:Ins) (v:Env) (s:St) (m:Int) (K:Nat->List Int->Int->Oc):Prop:=
 ((Zb x v s 0).2≠0/\∃sf,exS x (evE v) s.pc.toNat s.stack m K=⟨0,0,(Zb x v s 0).2,sf,m⟩)\/
 ((Zb x v s 0).2=0/\(Zb x v s 0).1.status=0/\∃m',exS x (evE v) s.pc.toNat s.stack m K=K (Zb x v s 0).1.pc.toNat (Zb x v s 0).1.stack m')\/
 ((Zb x v s 0).2=0/\(Zb x v s 0).1.status=1/\(Zb x v s 0).1.stack=s.stack/\0<s.stack.length/\∃sf,exS x (evE v) s.pc.toNat s.stack m K=⟨s.stack.getD (s.stack.length-1) 0,(Zb x v s 0).1.clause,0,sf,m⟩)
theorem Zs9 {x:Ins} {v:Env} {s:St} (hf:formedF x=true) (h1:(eff x.op).1<=s.stack.length) (h2:s.stack.length-(eff x.op).1+(eff x.op).2<=64) (hs:s.status=0) (hpc:0<=s.pc) (hn:∀n∈nextF s.pc x,s.pc<n) (m:Int) (K:Nat->List Int->Int->Oc):Like x v s m K:=by
 have hnd:=Ziz hf
 have hop:1<=x.op/\x.op<=16:=by
  unfold formedF at hf
  repeat' split at hf
  all_goals simp only [decide_eq_true_eq] at hf
  all_goals omega
 have hpk:(s.pc+1).toNat=s.pc.toNat+1:=by omega
 unfold Like
 have hge:¬((s.stack.length:Int)<Wo x.op):=by rw [hnd];omega
 by_cases e1:x.op=1
 · have ef:eff x.op=(0,1):=by rw [e1];rfl
   rw [ef] at h1 h2
   have ee:Zb x v s 0=(s.pops 0 [x.n],0):=by
    unfold Zb
    rw [if_neg hge,if_pos e1,if_neg (by simp at h2;omega)]
   rw [ee,Zca (p:=0) (a:=0) (b:=0) (by rw [ef];rfl) (by omega) rfl rfl]
   refine .inr (.inl ⟨rfl,hs,max m ((s.stack.take (s.stack.length-0)++ [x.n]).length:Nat),?_⟩)
   unfold exR2
   have ep:W7 x (evE v) 0 0=(x.n,0):=if_pos e1
   rw [if_neg (by omega),if_neg (by omega),ep,if_neg (by simp)]
   simp only [ef,if_pos (show (0:Int)<1 by decide)]
   rw [if_neg (by omega)]
   show K (s.pc.toNat+1) _ _=K (s.pc+1).toNat _ _
   rw [hpk]
   rfl
 by_cases e2:x.op=2
 · have ef:eff x.op=(0,1):=by rw [e2];rfl
   rw [ef] at h1 h2
   have en:Zb x v s 0=if (v.has/2^x.n.toNat)%2=0 then (s,181) else if v.v.getD x.n.toNat 0< -9007199254740992\/9007199254740992<v.v.getD x.n.toNat 0 then (s,3) else (s.pops 0 [v.v.getD x.n.toNat 0],0):=by
    unfold Zb
    rw [if_neg hge,if_neg e1,if_pos e2,if_neg (by simp at h2;omega)]
   have ep:W7 x (evE v) 0 0=Z8 (evE v) x.n.toNat:=by unfold W7;rw [if_neg e1,if_pos e2]
   rw [Zca (p:=0) (a:=0) (b:=0) (by rw [ef];rfl) (by omega) rfl rfl]
   have eb:(if (v.has/2^x.n.toNat)%2=0 then Z8 (evE v) x.n.toNat=(0,181) else if v.v.getD x.n.toNat 0< -9007199254740992\/9007199254740992<v.v.getD x.n.toNat 0 then Z8 (evE v) x.n.toNat=(0,3) else Z8 (evE v) x.n.toNat=(v.v.getD x.n.toNat 0,0)):=by
    unfold Z8 bitF inR evE
    repeat' split
    all_goals first|rfl|(simp only [] at*;simp_all;try omega)
   unfold exR2
   rw [if_neg (by omega),if_neg (by omega),ep]
   simp only [ef,if_pos (show (0:Int)<1 by decide)]
   rw [en]
   by_cases b1:(v.has/2^x.n.toNat)%2=0
   · rw [if_pos b1] at eb
     rw [eb]
     rw [if_pos b1]
     refine .inl ⟨by simp,true,?_⟩
     simp
   · rw [if_neg b1] at eb
     rw [if_neg b1]
     by_cases b2:v.v.getD x.n.toNat 0< -9007199254740992\/9007199254740992<v.v.getD x.n.toNat 0
     · rw [if_pos b2] at eb
       rw [eb,if_pos b2]
       refine .inl ⟨by simp,true,?_⟩
       simp
     · rw [if_neg b2] at eb
       rw [eb,if_neg b2]
       refine .inr (.inl ⟨rfl,hs,max m ((s.stack.take (s.stack.length-0)++ [v.v.getD x.n.toNat 0]).length:Nat),?_⟩)
       rw [if_neg (by simp),if_neg (by omega)]
       show K (s.pc.toNat+1) _ _=K (s.pc+1).toNat _ _
       rw [hpk]
       rfl
 by_cases e12:x.op=12
 · have ef:eff x.op=(1,1):=by rw [e12];rfl
   rw [ef] at h1 h2
   have h1:(1:Int)<=s.stack.length:=h1
   have en:Zb x v s 0=(s.pops 1 [if x.n<=topF s.stack 0/\topF s.stack 0<=x.m then 1 else 0],0):=by
    unfold Zb
    rw [if_neg hge,if_neg e1,if_neg e2,if_pos e12]
   have ep:∀b,W7 x (evE v) 0 b=(if x.n<=b/\b<=x.m then 1 else 0,0):=fun b=>by unfold W7;rw [if_neg e1,if_neg e2,if_pos e12]
   rw [en,Zca (p:=1) (a:=0) (b:=s.stack.getD (s.stack.length-1) 0) (by rw [ef];rfl) (by omega) rfl rfl]
   refine .inr (.inl ⟨rfl,hs,max m ((s.stack.take (s.stack.length-1)++ [if x.n<=topF s.stack 0/\topF s.stack 0<=x.m then 1 else 0]).length:Nat),?_⟩)
   unfold exR2
   rw [if_neg (by omega),if_neg (by omega),ep,if_neg (by simp)]
   simp only [ef,if_pos (show (0:Int)<1 by decide)]
   rw [if_neg (by omega)]
   show K (s.pc.toNat+1) _ _=K (s.pc+1).toNat _ _
   rw [hpk]
   rfl
 by_cases e13:x.op=13
 · have ef:eff x.op=(1,0):=by rw [e13];rfl
   rw [ef] at h1 h2
   have h1:(1:Int)<=s.stack.length:=h1
   have en:Zb x v s 0=({s.pops 1 [] with pc:=if topF s.stack 0=0 then x.n else s.pc+1},0):=by
    unfold Zb
    rw [if_neg hge,if_neg e1,if_neg e2,if_neg e12,if_pos e13]
   have hnx:s.pc<x.n:=hn _ (by unfold nextF;rw [if_neg (by omega),if_neg (by omega),if_pos e13];simp)
   rw [en,Zca (p:=1) (a:=0) (b:=s.stack.getD (s.stack.length-1) 0) (by rw [ef];rfl) (by omega) rfl rfl]
   refine .inr (.inl ⟨rfl,hs,max m ((s.stack.take (s.stack.length-1)).length:Nat),?_⟩)
   unfold exR2
   rw [if_neg (by omega),if_neg (by omega),if_neg (by rw [ef];simp)]
   simp only [ef,if_neg (show ¬(0:Int)<0 by decide)]
   have et:topF s.stack 0=s.stack.getD (s.stack.length-1) 0:=rfl
   have es:(s.pops 1 []).stack=s.stack.take (s.stack.length-1):=List.append_nil _
   show _=K (if topF s.stack 0=0 then x.n else s.pc+1).toNat (s.pops 1 []).stack _
   rw [es,et]
   by_cases hz:s.stack.getD (s.stack.length-1) 0=0
   · rw [if_pos (.inr ⟨e13,hz⟩),if_pos hz,if_neg (by omega)]
   · rw [if_neg (by omega),if_neg hz,hpk]
 by_cases e14:x.op=14
 · have ef:eff x.op=(0,0):=by rw [e14];rfl
   have en:Zb x v s 0=({s with pc:=x.n},0):=by
    unfold Zb
    rw [if_neg hge,if_neg e1,if_neg e2,if_neg e12,if_neg e13,if_pos e14]
   have hnx:s.pc<x.n:=hn _ (by unfold nextF;rw [if_neg (by omega),if_pos e14];simp)
   rw [en,Zca (p:=0) (a:=0) (b:=0) (by rw [ef];rfl) (by omega) rfl rfl]
   refine .inr (.inl ⟨rfl,hs,max m (s.stack.length:Nat),?_⟩)
   unfold exR2
   rw [if_neg (by omega),if_neg (by omega),if_neg (by rw [ef];simp)]
   simp only [ef,if_neg (show ¬(0:Int)<0 by decide)]
   rw [if_pos (.inl e14),if_neg (by omega),Nat.sub_zero,List.take_length]
 by_cases e15:x.op=15
 · have ef:eff x.op=(1,0):=by rw [e15];rfl
   rw [ef] at h1
   have h1:(1:Int)<=s.stack.length:=h1
   have en:Zb x v s 0=({s with status:=1,clause:=x.n},0):=by
    unfold Zb
    rw [if_neg hge,if_neg e1,if_neg e2,if_neg e12,if_neg e13,if_neg e14,if_pos e15]
   rw [en,Zca (p:=1) (a:=0) (b:=s.stack.getD (s.stack.length-1) 0) (by rw [ef];rfl) (by omega) rfl rfl]
   refine .inr (.inr ⟨rfl,rfl,rfl,by omega,(s.stack.take (s.stack.length-1)).length==0,?_⟩)
   unfold exR2
   rw [if_pos e15]
 by_cases e16:x.op=16
 · have ef:eff x.op=(0,0):=by rw [e16];rfl
   have en:Zb x v s 0=(s,180):=by
    unfold Zb
    rw [if_neg hge,if_neg e1,if_neg e2,if_neg e12,if_neg e13,if_neg e14,if_neg e15,if_pos e16]
   rw [en,Zca (p:=0) (a:=0) (b:=0) (by rw [ef];rfl) (by omega) rfl rfl]
   refine .inl ⟨by simp,(s.stack.take (s.stack.length-0)).length==0,?_⟩
   unfold exR2
   rw [if_neg e15,if_pos e16]
 have ef:eff x.op=(2,1):=by unfold eff;rw [if_neg (by omega),if_neg (by omega),if_neg (by omega),if_neg (by omega)]
 rw [ef] at h1
 have h1:(2:Int)<=s.stack.length:=h1
 have en:Zb x v s 0=if (binF x.op (topF s.stack 1) (topF s.stack 0)).2≠0 then (s,(binF x.op (topF s.stack 1) (topF s.stack 0)).2) else (s.pops 2 [(binF x.op (topF s.stack 1) (topF s.stack 0)).1],0):=by
  unfold Zb
  rw [if_neg hge,if_neg e1,if_neg e2,if_neg e12,if_neg e13,if_neg e14,if_neg e15,if_neg e16]
 have ep:∀a b,W7 x (evE v) a b=binF x.op a b:=fun a b=>by unfold W7;rw [if_neg e1,if_neg e2,if_neg e12]
 have et0:topF s.stack 0=s.stack.getD (s.stack.length-1) 0:=rfl
 have et1:topF s.stack 1=s.stack.getD (s.stack.length-2) 0:=by unfold topF;rw [show s.stack.length-1-1=s.stack.length-2 by omega]
 rw [en,et0,et1,Zca (p:=2) (a:=s.stack.getD (s.stack.length-2) 0) (b:=s.stack.getD (s.stack.length-1) 0) (by rw [ef];rfl) (by omega) rfl rfl]
 unfold exR2
 rw [if_neg e15,if_neg e16,ep]
 generalize binF x.op (s.stack.getD (s.stack.length-2) 0) (s.stack.getD (s.stack.length-1) 0)=y
 simp only [ef,if_pos (show (0:Int)<1 by decide)]
 by_cases hy:y.2=0
 · rw [if_neg (by simp [hy])]
   refine .inr (.inl ⟨rfl,hs,max m ((s.stack.take (s.stack.length-2)++ [y.1]).length:Nat),?_⟩)
   rw [if_neg (by simp [hy]),if_neg (by omega)]
   show K (s.pc.toNat+1) _ _=K (s.pc+1).toNat _ _
   rw [hpk]
   rfl
 · rw [if_pos hy]
   refine .inl ⟨hy,true,?_⟩
   rw [if_pos ⟨by decide,hy⟩]
theorem Znp {c:List Ins} {D:List Int} {v:Env} (hc:Safe c D):∀(f:Nat) (s:St) (m:Int) (o:Oc),Good c D s->s.fuel=f->c.length<=f+s.pc.toNat->exF c (evE v) f s.pc.toNat s.stack m=o->Ww (itF c v (f+1) s)=(o.a,o.c,o.e)
 |0,s,m,o,hg,_,hl,_=>by have:=hg.lt;have:=hg.pc;omega
 |f+1,s,m,o,hg,hfu,hl,ho=>by
  have hk:s.pc.toNat<c.length:=by have:=hg.lt;have:=hg.pc;omega
  obtain ⟨x,hx⟩:∃x,c[s.pc.toNat]? =some x:=⟨c[s.pc.toNat],by simp [hk]⟩
  obtain ⟨a1,a2,a3,a4,a5,a6⟩:=hc.ok s.pc.toNat _ _ hx hg.dep (by omega)
  have hfo:=hc.formed _ _ hx
  have hpp:((s.pc.toNat:Nat):Int)=s.pc:=by have:=hg.pc;omega
  rw [hpp] at a6
  have e1:exF c (evE v) (f+1) s.pc.toNat s.stack m=exS x (evE v) s.pc.toNat s.stack m (exF c (evE v) f):=by
   show (match c[s.pc.toNat]? with|none=>ocX m|some y=>exS y (evE v) s.pc.toNat s.stack m (exF c (evE v) f))=_
   rw [hx]
  rw [e1] at ho
  have hfz:¬s.fuel=0:=by omega
  have hadv:advF c v s 0=if (Zb x v s 0).2=0 then {(Zb x v s 0).1 with fuel:=s.fuel-1} else {s with fuel:=s.fuel-1,status:=10+(Zb x v s 0).2}:=by
   have e:=Zbp x v s 0 (s.fuel-1)
   unfold advF
   rw [if_neg hfz,hx]
   dsimp only
   rw [e]
  have hit:itF c v (f+1+1) s=itF c v (f+1) (advF c v s 0):=by
   show (if s.status=0 then itF c v (f+1) (advF c v s 0) else s)=_
   rw [if_pos hg.status]
  have hL:=Zs9 (v:=v) hfo a1 a5 hg.status hg.pc (fun n hn=>(a6 n hn).1) m (exF c (evE v) f)
  obtain ⟨-,p2⟩:=Zi0 (v:=v) hfo a1 a5 hg.status
  have hG:=Zg2 (v:=v) hc hg (by omega)
  rw [hit]
  rcases hL with ⟨h1,sf,h2⟩|⟨h1,h2,m',h3⟩|⟨h1,h2,h3,h4,sf,h5⟩
  · rw [hadv,if_neg h1,Uk (by have:=p2 h1;show 10+(Zb x v s 0).2≠0;omega)]
    rw [h2] at ho
    subst ho
    have hr:=p2 h1
    unfold Ww
    rw [if_neg (by intro k;have k:=k.1;have k:10+(Zb x v s 0).2=1:=k;omega),if_pos (by show 10<10+(Zb x v s 0).2;omega)]
    show (0,0,Go.IntKind.i64.wrap (10+(Zb x v s 0).2-10))=_
    rw [show 10+(Zb x v s 0).2-10=(Zb x v s 0).2 by omega]
    generalize (Zb x v s 0).2=e at hr
    rcases hr with rfl|rfl|rfl|rfl|rfl<;>rfl
  · rw [hadv,if_pos h1] at hG⊢
    obtain ⟨g1,g2⟩:=hG.1 h2
    rw [h3] at ho
    refine Znp hc f _ m' o g1 ?_ ?_ ho
    · show s.fuel-1=f;omega
    · show c.length<=f+(Zb x v s 0).1.pc.toNat
      have g2:s.pc<(Zb x v s 0).1.pc:=g2
      have:=hg.pc
      omega
  · rw [hadv,if_pos h1,Uk (by show (Zb x v s 0).1.status≠0;omega)]
    rw [h5] at ho
    subst ho
    unfold Ww
    rw [if_pos ⟨h2,by show 0<(Zb x v s 0).1.stack.length;rw [h3];exact h4⟩]
    show ((Zb x v s 0).1.stack.getD ((Zb x v s 0).1.stack.length-1) 0,_,_)=_
    rw [h3]
theorem Z2s {t:Tar} (h:Xh t=0) (hv:¬(4096<(cdT t).length\/64<dCs t.clauses)) (v:Env):(runF (cdT t) v (cdT t).length).2=0/\Ww (runF (cdT t) v (cdT t).length).1=((amtF t (evE v)).1,(amtF t (evE v)).2.1,(amtF t (evE v)).2.2):=by
 obtain ⟨c1,c2,_⟩:=Zek h
 have hver:(verF (cdT t)).2=0:=by rw [Znl c1 c2,if_neg hv]
 obtain ⟨D,hc⟩:=Zd6 hver
 have hlen:=hc.short
 obtain ⟨m,hm⟩:=ex_T h (evE v)
 have hst:(Wf ((cdT t).length:Int)).2=0:=by unfold Wf;rw [if_neg (by omega)]
 have hr:runF (cdT t) v (cdT t).length=(itF (cdT t) v ((cdT t).length+1) (St.start ((cdT t).length:Int)),0):=by
  unfold runF
  rw [if_neg (by rw [hver];simp),if_neg (by rw [hst];simp),Int.toNat_natCast]
 rw [hr]
 refine ⟨rfl,?_⟩
 exact Znp (v:=v) hc (cdT t).length _ 0 _ (Zbq hc (Int.natCast_nonneg _)) rfl (Nat.le_add_right _ _) hm
end
section
open Go
theorem Zvp (x:Ins) (v:Env) (s:St) (b:Int):(Zb x v s b).1.stack.length<=s.stack.length+1:=by
 unfold Zb
 dsimp only [St.pops]
 repeat' split
 all_goals simp
 all_goals omega
theorem Zy8 (c:List Ins) (v:Env) (s:St) (b:Int):(advF c v s b).stack.length<=s.stack.length+1:=by
 unfold advF
 split
 · show s.stack.length<=_;omega
 · split
   · omega
   · rename_i x hx
     split
     · exact Zvp x v {s with fuel:=s.fuel-1} b
     · show s.stack.length<=_;omega
theorem Zxm {c:List Ins} {D:List Int} {v:Env} (hc:Safe c D):∀(N:Nat) (s:St),Good c D s->(itF c v N s).stack.length<=65
 |0,s,hg=>by have:=hg.small hc;show s.stack.length<=65;omega
 |N+1,s,hg=>by
  have hs:=hg.small hc
  have hl:=Zy8 c v s 0
  have e:itF c v (N+1) s=itF c v N (advF c v s 0):=by simp [itF,hg.status]
  rw [e]
  by_cases h0:s.fuel=0
  · rw [Uk (by rw [Znd h0];show (220:Int)≠0;omega)];omega
  · have hf:=hg.fuel
    obtain ⟨p1,p2,p3,p4⟩:=Zg2 (v:=v) hc hg (by omega)
    by_cases hz:(advF c v s 0).status=0
    · exact Zxm hc N _ (p1 hz).1
    · rw [Uk hz];omega
theorem Zy9 {c:List Ins} {v:Env} {k:Int}:(runF c v k).1.stack.length<=65:=by
 unfold runF
 split
 · show [].length<=65;simp
 · rename_i hv
   obtain ⟨D,hD⟩:=Zd6 (c:=c) (by simpa using hv)
   split
   · show [].length<=65;simp
   · rename_i hs
     have hk:0<=k:=by
      unfold Wf at hs
      split at hs
      · simp at hs
      · omega
     exact Zxm hD _ _ (Zbq hD hk)
end
section
open Go
theorem Zt2:Zw EL F0 (vc EL F0 2000) 4 [] hp0 0 (fun r=>ret EL (patch hp0 0 r) r.v (.bool false true))=(true=true):=by kernel_rfl
theorem Zt3:PureC E 4 [] (.bool false true):=by
 refine Zut (n:=2000) ?_
 rw [Zt2]
end
section
open Go
def clB (c:Cls):SV thy:= .agg (encF false .clauses c)
def FclC:Fns thy:={addS F0 (26) (Scx 1000000000) with dfl:=20}
def Zwe (l':List Ins) (n F F1:Nat):List Nat->List Ins->Prop
 | [],L=>L=l'/\n=l'.length/\F=F1
 |p::r,L=>((0:Int)<=(↑p:Int)/\(↑p:Int)+1<=(↑n:Int))/\F<=0+Int.toNat (↑p:Int)/\0+Int.toNat (↑p:Int)+1<=L.length/\∀x:Ins,L[0+Int.toNat (↑p:Int)]? =some x->∀L':List Ins,L'=L.set (0+Int.toNat (↑p:Int)) (Ins.mk x.op (↑n:Int) x.m)->Zwe l' n F F1 r L'
def clX (c:Cls):Ex:=Ex.mk (Ex.op c.pay) (Ex.n c.pay) (Ex.d0 c.pay) (Ex.d1 c.pay) (Ex.d2 c.pay) (Ex.d3 c.pay) (Ex.l c.pay)
def Zzq (c:Cls) (k:Int) (l':List Ins) (F F1:Nat) (ps:List Nat) (L1:List Ins):Prop:=
 (L1.length<=L1.length/\F<=L1.length/\(L1.length+1)*24<=140737488355328)/\∀L2:List Ins,L2=L1.take L1.length++ [Ins.mk 15 k 0]->Zwe l' (L1.length+1) F F1 ps L2
def Zs7 (c:Cls) (k:Int) (l':List Ins) (fz F1:Nat) (ps:List Nat) (L:List Ins) (n:Nat):Prop:=
 (n=L.length/\fz<=L.length/\(clX c).sz+1<=1000000000/\Zo (clX c)=true/\L.length+(cdX (clX c) L.length).length<=1000000000)/\∀L1:List Ins,L1=L++cdX (clX c) L.length->Zzq c k l' (fzO (some (L,fz))) F1 ps L1
def Zzr (x:Tst) (fz:Nat) (L1:List Ins) (n:Nat) (K:List Ins->Prop):Prop:=
 (n<=L1.length/\fz<=n/\(n+1)*24<=140737488355328)/\∀L2:List Ins,L2=L1.take n++ [Ins.mk 12 x.low x.high]->(n+1<=L2.length/\fz<=n+1/\(n+1+1)*24<=140737488355328)/\∀L3:List Ins,L3=L2.take (n+1)++ [Ins.mk 13 0 0]->K L3
def Zwf (c:Cls) (k:Int) (l':List Ins) (fz F1:Nat):Nat->Nat->List Nat->List Ins->Nat->Prop
 |0,j,ps,L,n=>(decide ((↑j:Int)<(↑c.when_.length:Int))=true->(0:Int)<=(↑j:Int)/\(↑j:Int)+1<=(↑c.when_.length:Int)/\∀x:Tst,c.when_[Int.toNat (↑j:Int)]? =some x->(n<=L.length/\fz<=n/\(n+1)*24<=140737488355328)/\∀L1:List Ins,L1=L.take n++ [Ins.mk 2 x.attr 0]->False)/\(decide ((↑j:Int)<(↑c.when_.length:Int))=false->Zs7 c k l' fz F1 ps L n)
 |f+1,j,ps,L,n=>(decide ((↑j:Int)<(↑c.when_.length:Int))=true->(0:Int)<=(↑j:Int)/\(↑j:Int)+1<=(↑c.when_.length:Int)/\∀x:Tst,c.when_[Int.toNat (↑j:Int)]? =some x->(n<=L.length/\fz<=n/\(n+1)*24<=140737488355328)/\∀L1:List Ins,L1=L.take n++ [Ins.mk 2 x.attr 0]->
  Zzr x fz L1 (n+1) fun L3=>Zwf c k l' fz F1 f (j+1) ((n+1+1)::ps) L3 (n+1+1+1))/\(decide ((↑j:Int)<(↑c.when_.length:Int))=false->Zs7 c k l' fz F1 ps L n)
theorem Zwg (l:List Ins) (fz:Nat) (c:Cls) (k:Int) (l':List Ins):Zw E FclC (vc E FclC 400) 15 [.ptr 0 0,clB c,.int false .i64 k] (hpP E Th.ins (some (l,fz))) 2 (prnK E Th.ins (some (l,fz)) l')=
 Zwf c k l' fz (fzO (some (l,fz))) 8 0 [] l l.length:=by kernel_rfl
theorem Zwh (c:Cls) (k:Int) (l':List Ins):Zw E FclC (vc E FclC 400) 15 [.ptr 0 0,clB c,.int false .i64 k] (hpP E Th.ins none) 2 (prnK E Th.ins none l')=
 ((decide ((0:Int)<(↑c.when_.length:Int))=true->(0:Int)<=0/\(0:Int)+1<=(↑c.when_.length:Int)/\∀x:Tst,c.when_[Int.toNat 0]? =some x->Zzr x 0 [Ins.mk 2 x.attr 0] 1 fun L3=>Zwf c k l' 0 (fzO (none:Option (List Ins×Nat))) 7 1 [1+1] L3 (1+1+1))/\
  (decide ((0:Int)<(↑c.when_.length:Int))=false->((clX c).sz+1<=1000000000/\Zo (clX c)=true/\0+(cdX (clX c) 0).length<=1000000000)/\∀L1:List Ins,L1= []++cdX (clX c) 0->Zzq c k l' (fzO (none:Option (List Ins×Nat))) (fzO (none:Option (List Ins×Nat))) [] L1)):=by kernel_rfl
theorem Z1h (c:Cls):clX c=c.pay:=Ex.eta c.pay
theorem Zhf (e:Nat):∀a b:List Tst,cdTs e (a++b)=cdTs e a++cdTs e b
 | [],_=>rfl
 |x::r,b=>by simp [cdTs,Zhf e r b]
def psOf (o:Nat):Nat->List Nat
 |0=> []
 |j+1=>(o+3*j+2)::psOf o j
theorem Znm {l r:List Ins} {ws:List Tst} {n F:Nat} (hF:F<=l.length) (hn:n=(l++cdTs n ws++r).length):∀(i:Nat) (L:List Ins),i<=ws.length->L=l++(cdTs 0 (ws.take i)++cdTs n (ws.drop i))++r->Zwe (l++cdTs n ws++r) n F F (psOf l.length i) L
 |0,L,_,h=>⟨by rw [h];simp [cdTs],hn,rfl⟩
 |i+1,L,hi,h=>by
  have hi':i<ws.length:=hi
  have hw:ws[i]? =some ws[i]:=gB9 hi'
  have et:ws.take (i+1)=ws.take i++ [ws[i]]:=by rw [List.take_add_one,hw];rfl
  have ed:ws.drop i=ws[i]::ws.drop (i+1):=List.drop_eq_getElem_cons hi'
  have tl:(cdTs 0 (ws.take i)).length=3*i:=by rw [Yu,List.length_take];omega
  have nl:n=l.length+3*ws.length+r.length:=by rw [hn];simp [Yu];omega
  have hp:0+Int.toNat (↑(l.length+3*i+2):Int)=l.length+3*i+2:=by omega
  have hA:l.length+3*i+2=(l++cdTs 0 (ws.take i)++ [iNN 2 ws[i].attr,⟨12,ws[i].low,ws[i].high⟩]).length:=by simp [tl];omega
  have hL:L=(l++cdTs 0 (ws.take i)++ [iNN 2 ws[i].attr,⟨12,ws[i].low,ws[i].high⟩])++iNN 13 0::(cdTs n (ws.drop (i+1))++r):=by
   rw [h,et,Zhf];simp [cdTs]
  unfold psOf Zwe
  rw [hp]
  refine ⟨by omega,by omega,by rw [hL];simp [tl];omega,fun x hx L' e=> ?_⟩
  obtain rfl:x=iNN 13 0:=Zkx hA (hL▸hx)
  refine Znm hF hn i L' (by omega) ?_
  rw [e,hL,Zky hA,ed]
  simp [cdTs,iNN]
theorem Znn {c:Cls} {k:Nat} {l L:List Ins} {fz n:Nat} (hf:fz<=l.length) (hs:c.pay.sz+1<=1000000000) (hx:Zo c.pay=true) (hl:l.length+(cdC c k l.length).length<=1000000000) (hL:L=l++cdTs 0 c.when_) (hn:n=L.length):
 Zs7 c ↑k (l++cdC c k l.length) fz fz (psOf l.length c.when_.length) L n:=by
 have nL:L.length=l.length+3*c.when_.length:=by rw [hL];simp [Yu]
 have cl:(cdC c k l.length).length=3*c.when_.length+(cdX c.pay (l.length+3*c.when_.length)).length+1:=by unfold cdC;simp [Yu];omega
 unfold Zs7
 rw [Z1h]
 refine ⟨⟨hn,by omega,hs,hx,by rw [nL];omega⟩,fun L1 e1=> ?_⟩
 have n1:L1.length=L.length+(cdX c.pay L.length).length:=by rw [e1];simp
 rw [nL] at n1 e1
 have hf2:fzO (some (L,fz))=fz:=rfl
 unfold Zzq
 rw [hf2]
 refine ⟨⟨Nat.le_refl _,by omega,by omega⟩,fun L2 e2=> ?_⟩
 have et:l++cdC c k l.length=l++cdTs (L1.length+1) c.when_++(cdX c.pay (l.length+3*c.when_.length)++ [iNN 15 k]):=by
  unfold cdC
  rw [n1]
  simp
 rw [et]
 refine Znm hf ?_ c.when_.length L2 (Nat.le_refl _) ?_
 · simp [Yu];omega
 · rw [e2,List.take_length,e1,hL]
   simp [cdTs,iNN]
theorem Zno {x:Tst} {fz n:Nat} {L A:List Ins} {K:List Ins->Prop} (hL:L=A++ [iNN 2 x.attr]) (hn:n=L.length) (hf:fz<=n) (hb:n<=1000000000) (hk:K (A++cdTs 0 [x])):Zzr x fz L n K:=by
 subst hn
 refine ⟨⟨Nat.le_refl _,hf,by omega⟩,fun L2 e2=> ?_⟩
 rw [List.take_length] at e2
 have n2:L2.length=L.length+1:=by rw [e2];simp
 refine ⟨⟨by omega,by omega,by omega⟩,fun L3 e3=> ?_⟩
 rw [<-n2,List.take_length,e2,hL] at e3
 have:A++cdTs 0 [x]=L3:=by rw [e3];simp [cdTs,iNN]
 exact this▸hk
theorem Zhg {c:Cls} {k:Nat} {l:List Ins} {fz:Nat} (hf:fz<=l.length) (hs:c.pay.sz+1<=1000000000) (hx:Zo c.pay=true) (hl:l.length+(cdC c k l.length).length<=1000000000) (h8:c.when_.length<=8):
 ∀(f j n:Nat) (L:List Ins),f+j=8->j<=c.when_.length->L=l++cdTs 0 (c.when_.take j)->n=L.length->Zwf c ↑k (l++cdC c k l.length) fz fz f j (psOf l.length j) L n
 |f,j,n,L,hfj,hj,hL,hn=>by
  have tl:(cdTs 0 (c.when_.take j)).length=3*j:=by rw [Yu,List.length_take];omega
  have nL:L.length=l.length+3*j:=by rw [hL];simp [tl]
  have cl:(cdC c k l.length).length=3*c.when_.length+(cdX c.pay (l.length+3*c.when_.length)).length+1:=by unfold cdC;simp [Yu];omega
  have hend:decide ((↑j:Int)<(↑c.when_.length:Int))=false->Zs7 c ↑k (l++cdC c k l.length) fz fz (psOf l.length j) L n:=by
   intro q
   have q:=of_decide_eq_false q
   obtain rfl:j=c.when_.length:=by omega
   exact Znn hf hs hx hl (by rw [hL,List.take_length]) hn
  match f with
  |0=>exact ⟨fun q=>by have q:=of_decide_eq_true q;omega,hend⟩
  |f+1=>
   refine ⟨fun q=> ?_,hend⟩
   have q:=of_decide_eq_true q
   refine ⟨by omega,by omega,fun x gx=>⟨⟨by omega,by omega,by omega⟩,fun L1 e1=> ?_⟩⟩
   have gx:c.when_[j]? =some x:=gx
   rw [hn,List.take_length] at e1
   have n1:L1.length=L.length+1:=by rw [e1];simp
   refine Zno (A:=L) e1 (by omega) (by omega) (by omega) ?_
   have ep:(n+1+1)::psOf l.length j=psOf l.length (j+1):=by
    rw [hn,nL];rfl
   rw [ep]
   refine Zhg hf hs hx hl h8 f (j+1) (n+1+1+1) _ (by omega) (by omega) ?_ ?_
   · rw [List.take_add_one,gx,Zhf,<-List.append_assoc,<-hL];rfl
   · simp [cdTs,hn]
theorem Z1i {c:Cls} {k:Nat} (hs:c.pay.sz+1<=1000000000) (hx:Zo c.pay=true) (hl:([]:List Ins).length+(cdC c k ([]:List Ins).length).length<=1000000000) (h8:c.when_.length<=8):
 Zw E FclC (vc E FclC 400) 15 [.ptr 0 0,clB c,.int false .i64 (↑k:Int)] (hpP E Th.ins none) 2 (prnK E Th.ins none (([]:List Ins)++cdC c k ([]:List Ins).length)):=by
 rw [Zwh]
 have r:=Zhg (l:= []) (fz:=0) (Nat.le_refl _) hs hx hl h8
 refine ⟨fun q=> ?_,fun q=> ?_⟩
 · have q:=of_decide_eq_true q
   refine ⟨by omega,by omega,fun x gx=>Zno (A:= []) rfl rfl (by omega) (by omega) ?_⟩
   have gx:c.when_[0]? =some x:=gx
   refine r 7 1 3 _ rfl (by omega) ?_ rfl
   rw [List.take_add_one,gx];rfl
 · have q:=of_decide_eq_false q
   have w0:c.when_= []:=List.length_eq_zero_iff.1 (by omega)
   obtain ⟨⟨-,-,a1,a2,a3⟩,a4⟩:=Znn (l:= []) (L:= []) (n:=0) (fz:=0) (k:=k) (Nat.le_refl _) hs hx hl (by rw [w0];rfl) rfl
   rw [w0] at a4
   exact ⟨⟨a1,a2,a3⟩,a4⟩
theorem Zhh:FnsOk E FclC:=by
 have h:=Zh (F0_ok) (Zxk (Zkz 1000000000))
 exact ⟨h.sumG,h.fnG,h.sum,h.fn,h.loop⟩
def ClP (c:Cls) (k:Nat) (l:List Ins):Prop:=c.pay.sz+1<=1000000000/\Zo c.pay=true/\l.length+(cdC c k l.length).length<=1000000000/\c.when_.length<=8
theorem Z1j {c:Cls} {k:Nat} {l:List Ins} {fz:Nat} (hf:fz<=l.length) (hp:ClP c k l):
 Zw E FclC (vc E FclC 400) 15 [.ptr 0 0,clB c,.int false .i64 (↑k:Int)] (hpP E Th.ins (some (l,fz))) 2 (prnK E Th.ins (some (l,fz)) (l++cdC c k l.length)):=by
 rw [Zwg]
 exact Zhg hf hp.1 hp.2.1 hp.2.2.1 hp.2.2.2 8 0 _ l rfl (Nat.zero_le _) (by simp [cdTs]) rfl
theorem Z1k (c:Cls) (k:Nat):Zyn E 15 Th.ins [clB c,.int false .i64 (↑k:Int)] (fun (l:List Ins)=>l++cdC c k l.length) (fun (l:List Ins)=>ClP c k l):=
 ⟨fun l fz hf hp=>Wk E_ok (Xs E_ok Zhh fun f N c=>(Zf2 E_ok Zhh 400 f N c).1) rfl (Z1j hf hp),
  fun hp=>Wk E_ok (Xs E_ok Zhh fun f N c=>(Zf2 E_ok Zhh 400 f N c).1) rfl (Z1i hp.1 hp.2.1 hp.2.2.1 hp.2.2.2)⟩
end
section
open Go
def dIV:Dc E Int:=dInt .i64
def Z2d:DcL E (Int×Int×Int×Unit):= .cons dIV (.cons dIV (.cons dIV .nil))
abbrev qDC4 (a0:Int) (b0:Int) (c0:Bool):=(decide (mm2 false a0 b0>=0)=false->false=c0)
abbrev qDC3 (a0:Int) (b0:Int) (c0:Bool):=(decide (mm2 false a0 b0>=0)=true->(decide (mm2 true a0 b0<=9007199254740992)=true->true=c0)/\(decide (mm2 true a0 b0<=9007199254740992)=false->false=c0))
abbrev qDC1 (a0:Int) (b0:Int) (c0:Int) (d0:Bool):=((a0==a0&&(0==0&&(b0==0&&true)))=true->(qDC3 c0 b0 d0)/\(qDC4 c0 b0 d0))
abbrev qDC2 (a0:Int) (b0:Int) (c0:Bool):=((a0==a0&&(0==0&&(b0==0&&true)))=false->false=c0)
theorem Zij (op n m:Int) (b:Bool):Zw E F0 (vc E F0 400) 30 [.agg [.int false .i64 op,.int false .i64 n,.int false .i64 m]] hp0 0 (fun r=>ret E (patch hp0 0 r) r.v (.bool false b))=(
 ∃(Q:Bool->Prop),((decide (op<1)=true->Q true)/\(decide (op<1)=false->(decide (op>=17)=true->Q true)/\(decide (op>=17)=false->Q false)))/\(Q true->false=b)/\(Q false->((op==1)=true->(qDC1 op m n b)/\(qDC2 op m b))/\((op==1)=false->((op==13)=true->(qDC1 op m n b)/\(qDC2 op m b))/\((op==13)=false->((op==14)=true->(qDC1 op m n b)/\(qDC2 op m b))/\((op==14)=false->((op==15)=true->(qDC1 op m n b)/\(qDC2 op m b))/\((op==15)=false->((op==2)=true->((op==op&&(0==0&&(m==0&&true)))=true->(decide (mm2 false n m>=0)=true->(decide (mm2 true n m<=15)=true->true=b)/\(decide (mm2 true n m<=15)=false->false=b))/\(qDC4 n m b))/\(qDC2 op m b))/\((op==2)=false->((op==12)=true->((op==op&&(0==0&&(0==0&&true)))=true->(qDC3 n m b)/\(qDC4 n m b))/\((op==op&&(0==0&&(0==0&&true)))=false->false=b))/\((op==12)=false->((op==op&&(n==0&&(m==0&&true)))=true->(decide (mm2 false n m>=0)=true->(decide (mm2 true n m<=0)=true->true=b)/\(decide (mm2 true n m<=0)=false->false=b))/\(qDC4 n m b))/\((op==op&&(n==0&&(m==0&&true)))=false->false=b))))))))):=by kernel_rfl
theorem Zik (op:Int) (p q:Int):Zw E F0 (vc E F0 400) 32 [.int false .i64 op] hp0 0 (fun r=>ret E (patch hp0 0 r) r.v (.tup [.int false .i64 p,.int false .i64 q]))=(
((op==1)=true->0=p/\1=q/\True)/\((op==1)=false->((op==2)=true->0=p/\1=q/\True)/\((op==2)=false->((op==12)=true->1=p/\1=q/\True)/\((op==12)=false->((op==13)=true->1=p/\0=q/\True)/\((op==13)=false->((op==15)=true->1=p/\0=q/\True)/\((op==15)=false->((op==14)=true->0=p/\0=q/\True)/\((op==14)=false->((op==16)=true->0=p/\0=q/\True)/\((op==16)=false->2=p/\1=q/\True)))))))):=by kernel_rfl
theorem Zil (x:Ins):PureC E 30 [.agg [.int false .i64 x.op,.int false .i64 x.n,.int false .i64 x.m]] (.bool false (formedF x)):=by
 refine Zc E_ok (Zn E_ok F0_ok 400) ?_
 rw [Zij];delta qDC4 qDC3 qDC1 qDC2
 repeat' (first|exact Zk6 _|apply Zsf|apply Zsg|(refine And.intro ?_ ?_)|(intro h))
 all_goals (try simp only [Z4,Zt,Xx,Xy,Xz,Bool.or_eq_true,Bool.or_eq_false_iff,Bool.not_eq_true',Bool.not_eq_false',beq_iff_eq,bne_iff_ne,beq_eq_false_iff_ne,decide_eq_true_eq,decide_eq_false_iff_not,Bool.and_eq_true,Bool.and_true,Bool.true_and,Bool.and_eq_false_iff,beq_self_eq_true,Z0,Yc,ne_eq,and_true,true_and,Bool.true_eq_false,Bool.false_eq_true,false_or,or_false,true_implies,Int.ofNat_eq_natCast] at*)
 all_goals (try unfold formedF)
 all_goals (repeat' split)
 all_goals first|contradiction|omega|(symm;simp only [decide_eq_true_eq,decide_eq_false_iff_not];omega)
theorem Zim (op:Int):PureC E 32 [.int false .i64 op] (.tup [.int false .i64 (eff op).1,.int false .i64 (eff op).2]):=by
 refine Zc E_ok (Zn E_ok F0_ok 400) ?_
 rw [Zik]
 simp only [beq_iff_eq,bne_iff_ne,beq_eq_false_iff_ne,decide_eq_true_eq,decide_eq_false_iff_not,Bool.and_eq_true,Bool.and_true,Bool.true_and,Bool.and_eq_false_iff,beq_self_eq_true,Z0,Yc,ne_eq,and_true,true_and,Bool.true_eq_false,Bool.false_eq_true,false_or,or_false,true_implies,Int.ofNat_eq_natCast]
 repeat' (first|(refine And.intro ?_ ?_)|(intro h))
 all_goals (unfold eff;repeat' split)
 all_goals first|contradiction|omega|rfl
def Z2e:Dc E Ins:= .map (dAgg Z2d) (fun x=>⟨x.1,x.2.1,x.2.2.1⟩) (fun x=>(x.op,x.n,x.m,())) (fun _=>rfl)
def Z0s:Dc E (List Ins):=(Zse (E:=E) Th.ins:Dc E (List (thy.dom Th.ins)))
def dL1V {α:Type} (d:Dc E α):DcL E (α×Unit):= .cons d .nil
def dL2V {α β:Type} (d:Dc E α) (e:Dc E β):DcL E (α×β×Unit):= .cons d (dL1V e)
def Zvk:Sum thy:=sumP (dL1V Z2e) (fun _=>True) fun x=> .bool false (formedF x.1)
def Z2f:Sum thy:=sumP (dL1V dIV) (fun _=>True) fun x=> .tup [.int false .i64 (eff x.1).1,.int false .i64 (eff x.1).2]
def F2V:Fns thy:=addS (addS F0 30 Zvk) 32 Z2f
theorem Z0t:FnsOk E F2V:=by
 refine Zh (Zh F0_ok ?_) ?_
 · exact Zs E_ok (Zk (f:=30) rfl) fun x _=>Zil x.1
 · exact Zs E_ok (Zk (f:=32) rfl) fun x _=>Zim x.1
def A48V:Fr thy->Hp thy->Nat->Ann thy:=fun T h i=>{X:=LX,fr:=fun x=> [(0,T 0),(1,T 1),(7,T 7),(8,.int false .i64 x.k)],bl:=fun _=> [],src:=fun _=> [],md:= [],ih:=i,M:=i+30,meas:=fun x=>x.r}
def A32V:Fr thy->Hp thy->Nat->Ann thy:=fun T h i=>{X:=LX,fr:=fun x=> [(7,T 7),(8,.int false .i64 x.k)],bl:=fun x=> [(bOf (T 7),.rows .ints x.D 0)],src:=fun _=> [],md:= [bOf (T 7)],ih:=i,M:=i+30,meas:=fun x=>x.r}
def A9V:Fr thy->Hp thy->Nat->Ann thy:=fun T h i=>{X:=LX,fr:=fun x=> [(0,T 0),(2,.int false .i64 x.m),(4,T 4),(30,T 30),(31,T 31),(32,.int false .i64 x.k)],bl:=fun x=> [(bOf (T 4),.rows .ints x.D 0)],src:=fun _=> [],md:= [bOf (T 4)],ih:=i,M:=i+60,meas:=fun x=>x.r}
def A9nV:Fr thy->Hp thy->Nat->Ann thy:=fun T h i=>{X:=LX,fr:=fun x=> [(0,T 0),(2,T 2),(4,T 4),(5,T 5),(10,T 10),(30,T 30),(31,T 31),(32,T 32),(110,T 110),(111,T 111),(112,.int false .i64 x.k)],bl:=fun x=>(bOf (T 4),.rows .ints x.D 0)::blkS h (T 110),src:=fun _=> [],md:= [bOf (T 4)],ih:=i,M:=i+20,meas:=fun x=>x.r}
def F3V:Fns thy:=addL (addL (addL (addL F2V 43 2 A48V E) 31 8 A32V E) 17 8 A9V E) 17 23 A9nV E
theorem Zru:FnsOk E F3V:=Yn E_ok (Yn E_ok (Yn E_ok (Yn E_ok Z0t _ _ _) _ _ _) _ _ _) _ _ _
theorem Zdx {y:Int} (h0:0<=y) (h:y<4294967296):Yb .and .u64 y 4294967295=y:=by
 obtain ⟨n,rfl⟩:=Int.eq_ofNat_of_zero_le h0
 have h':n<4294967296:=by omega
 have e:(BitVec.ofInt 64 (n:Int)&&&BitVec.ofInt 64 4294967295).toNat=n:=by
  rw [BitVec.toNat_and]
  have e1:(BitVec.ofInt 64 (n:Int)).toNat=n:=by
   rw [BitVec.toNat_ofInt];omega
  have e2:(BitVec.ofInt 64 4294967295).toNat=2^32-1:=by decide
  rw [e1,e2,Nat.and_two_pow_sub_one_eq_mod]
  omega
 show IntKind.u64.wrap ((BitVec.ofInt 64 (n:Int)&&&BitVec.ofInt 64 4294967295).toNat:Int)=n
 rw [e,IntKind.wrap_u64]
 omega
theorem Zrv {n:Int} (h1:0<=n) (h2:n<18446744073709551616):wr .u64 n=n:=by simp only [wr,IntKind.wrap_u64];omega
theorem Zey {α:Type} {f:α->Bool} {l:List α} {k:Nat} {x:α} (h:l[k]? =some x):(l.take (k+1)).all f=((l.take k).all f&&f x):=by
 obtain ⟨hk,rfl⟩:=gA9.1 h
 rw [List.take_succ_eq_append_getElem hk,List.all_append,List.all_cons,List.all_nil,Bool.and_true]
theorem Zin {α:Type} {f:α->Bool} {l:List α} {k:Nat} {x:α} (h:l[k]? =some x) (hf:f x=false):l.all f=false:=by
 rw [Bool.eq_false_iff]
 intro hh
 have:=(List.all_eq_true.1 hh) x (List.mem_of_getElem? h)
 rw [hf] at this;cases this
abbrev qDC5:=(2^min (Int.toNat 32) (IntKind.bits IntKind.u64))
abbrev qDC6 (a0:Int) (b0:Int):=(wr IntKind.u64 (wr IntKind.u64 (Int.fdiv a0 qDC5*Yb BinOp.and IntKind.u64 b0 4294967295)+Int.fdiv (wr IntKind.u64 (Yb BinOp.and IntKind.u64 a0 4294967295*Yb BinOp.and IntKind.u64 b0 4294967295)) qDC5))
theorem Zo6 (x y:Int) (p q:Int):Zw E F3V (vc E F3V 400) 45 [.int false .u64 x,.int false .u64 y] hp0 0 (fun r=>ret E (patch hp0 0 r) r.v (.tup [.int false .u64 p,.int false .u64 q]))=(
 wr IntKind.u64 (wr IntKind.u64 (wr IntKind.u64 (Int.fdiv x qDC5*Int.fdiv y qDC5)+Int.fdiv (qDC6 x y) qDC5)+Int.fdiv (wr IntKind.u64 (Yb BinOp.and IntKind.u64 (qDC6 x y) 4294967295+wr IntKind.u64 (Yb BinOp.and IntKind.u64 x 4294967295*Int.fdiv y qDC5))) qDC5)=p/\wr IntKind.u64 (x*y)=q/\True):=by kernel_rfl
abbrev qDC7 (a0:List Ins):=(↑(List.length a0):Int)
abbrev qDC8 (a0:LX):=(↑(LX.k a0):Int)
theorem Zez (c:List Ins) (b:Bool):Zw E F3V (vc E F3V 400) 28 [.psl .ins c false,.fn (.func 29) [] []] hp0 0 (fun r=>ret E (patch hp0 0 r) r.v (.bool false b))=(
 ∃(R:LX->Prop),(∃(x:LX),R x/\true=true/\((c=c/\(false=true->false=true))/\(Fn.func 29=Fn.func 29/\True/\True)/\(qDC7 c)=(qDC7 c)/\0=(qDC8 x)/\True)/\True)/\∀(x:LX),R x->(decide ((qDC8 x)<(qDC7 c))=true->0<=(qDC8 x)/\(qDC8 x)+1<=(qDC7 c)/\∀(x_1:Ins),c[Int.toNat (qDC8 x)]? =some x_1->True/\((!formedF x_1)=true->(decide ((qDC8 x)>=0)=true->true=b)/\(decide ((qDC8 x)>=0)=false->false=b))/\((!formedF x_1)=false->∃(x':LX),R x'/\x'.2+1<=x.2/\true=true/\((c=c/\(false=true->false=true))/\(Fn.func 29=Fn.func 29/\True/\True)/\(qDC7 c)=(qDC7 c)/\wr IntKind.i64 ((qDC8 x)+1)=(qDC8 x')/\True)/\True))/\(decide ((qDC8 x)<(qDC7 c))=false->false=b)):=by kernel_rfl
theorem Zo7 (y:Int) (h0:0<=y) (h1:y<4294967296):PureC E 45 [.int false .u64 1,.int false .u64 y] (.tup [.int false .u64 0,.int false .u64 y]):=by
 refine Zc E_ok (Zn E_ok Zru 400) ?_
 rw [Zo6];delta qDC5 qDC6
 have e1:Int.fdiv y (2^min (Int.toNat 32) (IntKind.bits IntKind.u64))=0:=by
  show y.fdiv 4294967296=0
  rw [Int.fdiv_eq_ediv_of_nonneg _ (by omega)];omega
 have e2:Int.fdiv 1 (2^min (Int.toNat 32) (IntKind.bits IntKind.u64))=0:=by decide
 have e3:Yb .and .u64 1 4294967295=1:=Zdx (by omega) (by omega)
 have e4:=Zdx h0 h1
 have e5:Int.fdiv 0 (2^min (Int.toNat 32) (IntKind.bits IntKind.u64))=0:=by decide
 have e6:wr .u64 0=0:=by decide
 have e7:wr .u64 y=y:=Zrv h0 (by omega)
 have e8:Yb .and .u64 0 4294967295=0:=Zdx (by omega) (by omega)
 have d1:Int.fdiv y ((2^min (Int.toNat 32) (IntKind.bits IntKind.u64):Nat):Int)=0:=e1
 have d2:Int.fdiv 1 ((2^min (Int.toNat 32) (IntKind.bits IntKind.u64):Nat):Int)=0:=e2
 have d5:Int.fdiv 0 ((2^min (Int.toNat 32) (IntKind.bits IntKind.u64):Nat):Int)=0:=e5
 simp only [e1,e2,e3,e4,e5,e6,e7,e8,d1,d2,d5,Int.zero_mul,Int.one_mul,Int.mul_zero,Int.zero_add,Int.add_zero,and_self]
theorem Ze0 (c:List Ins) (hc:c.length<=4096):PureC E 28 [.psl .ins c false,.fn (.func 29) [] []] (.bool false (!c.all formedF)):=by
 refine Zc E_ok (Zn E_ok Zru 400) ?_
 rw [Zez];delta qDC7 qDC8
 refine ⟨fun x=>x.k+x.r=c.length/\(c.take x.k).all formedF=true,⟨⟨0,c.length,[],0⟩,by simp,by simp⟩,fun x hR=> ?_⟩
 obtain ⟨h1,h2⟩:=hR
 simp only [Z4,Zt,Xx,Xy,Xz,beq_iff_eq,bne_iff_ne,beq_eq_false_iff_ne,bne_eq_false_iff_eq,decide_eq_true_eq,decide_eq_false_iff_not,Bool.or_eq_true,Bool.or_eq_false_iff,Bool.not_eq_true',Bool.not_eq_false',Bool.and_eq_true,Bool.and_true,Bool.true_and,Bool.and_eq_false_iff,beq_self_eq_true,Z0,Yc,ne_eq,and_true,true_and,Bool.true_eq_false,Bool.false_eq_true,false_or,or_false,true_implies,Int.ofNat_eq_natCast,not_true_eq_false,not_false_eq_true,Decidable.not_not]
 refine ⟨fun hlt=>⟨by omega,by omega,fun y hy=>⟨fun hf=>⟨fun _=> ?_,fun h=>by omega⟩,fun hf=> ?_⟩⟩,fun hge=> ?_⟩
 · rw [Int.toNat_natCast] at hy
   rw [Zin hy hf];rfl
 · rw [Int.toNat_natCast] at hy
   refine ⟨⟨x.k+1,x.r-1,[],0⟩,⟨by show x.k+1+(x.r-1)=_;omega,by show (c.take (x.k+1)).all formedF=true;rw [Zey hy,h2,hf];rfl⟩,by show x.r-1+1<=x.r;omega,?_⟩
   rw [wr64 (by omega) (by omega)]
   simp
 · rw [List.take_of_length_le (by omega)] at h2
   rw [h2];rfl
def dFnV (f:Nat):Dc E Unit where
 dec v:=match v with| .fn (.func g) [] []=>(match Nat.beq g f with|true=>some ()|false=>none)|_=>none
 enc _:= .fn (.func f) [] []
 ok v a h:=by
  split at h
  · split at h
    · rename_i e
      rw [gC9 e]
      exact ⟨rfl,rfl,fun σ g u hd=>hd⟩
    · cases h
  · cases h
def Zo8:Sum thy:=sumP (dL2V Z0s (dFnV 29)) (fun x=>x.1.length<=4096) fun x=> .bool false (!x.1.all formedF)
def Z0u:Sum thy:=sumP (dL2V (dInt .u64) (dInt .u64)) (fun x=>x.1=1/\0<=x.2.1/\x.2.1<4294967296) fun x=> .tup [.int false .u64 0,.int false .u64 x.2.1]
def F4V:Fns thy:=addS (addS F3V 28 Zo8) 45 Z0u
theorem Z0v:FnsOk E F4V:=by
 refine Zh (Zh Zru ?_) ?_
 · exact Zs E_ok (Zk (f:=28) rfl) fun x h=>Ze0 x.1 h
 · refine Zs E_ok (Zk (f:=45) rfl) fun x h=> ?_
   obtain ⟨x,y,u⟩:=x
   obtain ⟨rfl,h1,h2⟩:=h
   exact Zo7 y h1 h2
abbrev qDCf (a0:List Ins):=(↑(List.length a0):Int)
abbrev Zo9 (a0:List Ins):=(wr IntKind.u64 (qDCf a0))
abbrev qDC9 (a0:List Ins):=(wr IntKind.i64 (Zo9 a0))
abbrev qDCa (a0:Int) (b0:Ins):=(wr IntKind.i64 (a0-Prod.fst (eff (Ins.op b0)))+Prod.snd (eff (Ins.op b0)))
abbrev qDCd (a0:LX):=(↑(LX.k a0):Int)
abbrev qDCh:=(0:Nat)
abbrev qDCu:=(1:Nat)
abbrev qDCk:=(0:Int)
abbrev qDCz (a0:List Ins):=(Int.toNat (qDC9 a0))
abbrev qDCm (a0:List Ins):=(↑(qDCz a0):Int)
abbrev qDCv:=(1:Int)
abbrev qDCy (a0:Int) (b0:List Ins):=(qDCk<=a0/\a0+qDCv<=(qDCm b0))
abbrev qDCb (a0:Int) (b0:LX) (c0:Bool->Prop) (d0:List Ins) (e0:LX) (f0:Int) (g0:Ins):=((decide (a0<=(qDCd b0))=true->c0 true)/\(decide (a0<=(qDCd b0))=false->(decide (a0>=(qDCf d0))=true->c0 true)/\(decide (a0>=(qDCf d0))=false->(qDCy a0 d0)/\qDCh+Int.toNat a0+qDCu<=List.length (LX.D e0)/\∀(b0:Int),(LX.D e0)[qDCh+Int.toNat a0]? =some b0->(decide (b0>=qDCk)=true->(qDCy a0 d0)/\qDCh+Int.toNat a0+qDCu<=List.length (LX.D e0)/\∀(b0:Int),(LX.D e0)[qDCh+Int.toNat a0]? =some b0->((b0 !=wr IntKind.i64 (qDCa f0 g0))=true->c0 true)/\((b0 !=wr IntKind.i64 (qDCa f0 g0))=false->c0 false))/\(decide (b0>=qDCk)=false->c0 false))))
abbrev qDCc (a0:List Ins):=(qDCh=qDCh/\Int.toNat (qDC9 a0)=Int.toNat (qDC9 a0)/\Int.toNat (qDC9 a0)=Int.toNat (qDC9 a0))
abbrev qDCe (a0:List Ins):=(a0=a0/\(false=true->false=true))
abbrev qDCg (a0:LX):=((qDCd a0)+qDCv)
abbrev qDCl (a0:Int) (b0:Ins):=(wr IntKind.i64 (qDCa a0 b0))
abbrev qDCr (a0:LX) (b0:Int):=(mm2 true (LX.m a0) b0)
abbrev qDCi (a0:List Ins) (b0:LX) (c0:Int) (d0:Ins) (e0:LX):=((qDCe a0)/\mm2 true (qDCr b0 c0) (qDCl c0 d0)=LX.m e0/\(qDCc a0)/\(qDCe a0)/\(qDCf a0)=(qDCf a0)/\wr IntKind.i64 (qDCg b0)=(qDCd e0)/\True)
abbrev qDCj (a0:Ins) (b0:LX):=(↑(List.length [Ins.n a0]+List.length [wr IntKind.i64 (qDCg b0)]):Int)
abbrev qDCn (a0:LX):=(↑(List.length [wr IntKind.i64 (qDCg a0)]):Int)
abbrev qDCo (a0:Ins) (b0:Bool->Prop):=(((Ins.op a0 !=(14:Int))=true->((Ins.op a0 !=(15:Int))=true->((Ins.op a0 !=(16:Int))=true->b0 true)/\((Ins.op a0 !=(16:Int))=false->b0 false))/\((Ins.op a0 !=(15:Int))=false->b0 false))/\((Ins.op a0 !=(14:Int))=false->b0 false))
abbrev qDCp (a0:Ins):=(List.length [Ins.n a0])
abbrev qDCq (a0:LX) (b0:LX):=(LX.D a0=LX.D b0/\qDCh=qDCh)
abbrev qDCs (a0:Ins) (b0:LX):=(qDCh=qDCh/\List.length [Ins.n a0]+List.length [wr IntKind.i64 (qDCg b0)]=List.length [Ins.n a0]+List.length [wr IntKind.i64 (qDCg b0)]/\True)
abbrev qDCt (a0:Ins) (b0:LX):=(List.take (qDCp a0) [Ins.n a0]++ [wr IntKind.i64 (qDCg b0)]=List.take (qDCp a0) [Ins.n a0]++ [wr IntKind.i64 (qDCg b0)]/\qDCh=qDCh)
abbrev qDCw (a0:LX):=(qDCh=qDCh/\List.length [wr IntKind.i64 (qDCg a0)]=List.length [wr IntKind.i64 (qDCg a0)]/\True)
abbrev qDCx (a0:List Ins) (b0:LX):=(Int.toNat (qDC9 a0)-Int.toNat (qDCd b0))
abbrev Zvl (a0:LX):=(List.take (Int.toNat (qDCd a0)) (LX.D a0))
abbrev Zy4 (a0:Ins):=(qDCh=qDCh/\List.length [Ins.n a0]=List.length [Ins.n a0]/\True)
abbrev Zy5 (a0:LX):=([wr IntKind.i64 (qDCg a0)]= [wr IntKind.i64 (qDCg a0)]/\qDCh=qDCh)
theorem Zio (c:List Ins) (p q:Int):Zw E F4V (vc E F4V 400) 17 [.psl .ins c false] hp0 0 (fun r=>ret E (patch hp0 0 r) r.v (.tup [.int false .i64 p,.int false .i64 q]))=(
 (decide ((qDCf c)>(4096:Int))=true->qDCk=p/\(2:Int)=q/\True)/\(decide ((qDCf c)>(4096:Int))=false->(((qDCf c)==qDCk)=true->qDCk=p/\(200:Int)=q/\True)/\(((qDCf c)==qDCk)=false->List.length c<=(4096:Nat)/\((!List.all c formedF)=true->qDCk=p/\(200:Int)=q/\True)/\((!List.all c formedF)=false->(decide ((qDCf c)<qDCk)=true->False)/\(decide ((qDCf c)<qDCk)=false->(qDCv=qDCv/\qDCk<=wr IntKind.u64 (qDCf c)/\wr IntKind.u64 (qDCf c)+qDCv<=(4294967296:Int))/\∃(Q:Bool->Prop),((decide (qDCk>qDCk)=true->Q true)/\(decide (qDCk>qDCk)=false->(decide (wr IntKind.u64 (qDCf c)>(9223372036854775807:Int))=true->Q true)/\(decide (wr IntKind.u64 (qDCf c)>(9223372036854775807:Int))=false->Q false)))/\(Q true->False)/\(Q false->qDCk<=wr IntKind.i64 (Zo9 c)/\wr IntKind.i64 (Zo9 c)<=wr IntKind.i64 (Zo9 c)/\(↑(8:Nat):Int)*wr IntKind.i64 (Zo9 c)<=(281474976710656:Int)/\(qDCh<=qDCh/\qDCh+Int.toNat (qDC9 c)<=List.length (List.replicate (qDCz c) qDCk))/\∃(R:LX->Prop),(∃(x:LX),R x/\true=true/\((qDCc c)/\(↑(min (List.length [(-1:Int)]) (qDCz c)):Int)=(qDCd x)/\True)/\(List.take qDCh (List.replicate (qDCz c) qDCk)++List.take (qDCz c) [(-1:Int)]++List.drop (qDCh+min (List.length [(-1:Int)]) (qDCz c)) (List.replicate (qDCz c) qDCk)=LX.D x/\qDCh=qDCh)/\True)/\∀(x:LX),R x->(decide ((qDCd x)<(qDCm c))=true->(qDCk<=(qDCd x)/\(qDCd x)<=(qDCm c))/\(decide ((qDCd x)<(qDCm c))=true->(qDCk<=(qDCd x)/\(qDCd x)<=(qDCm c))/\qDCh+Int.toNat (qDCd x)<=List.length (LX.D x)/\(qDCh<=qDCh+Int.toNat (qDCd x)/\qDCh+Int.toNat (qDCd x)+(qDCx c x)<=List.length (LX.D x))/\∃(x':LX),R x'/\x'.2+qDCu<=x.2/\true=true/\((qDCc c)/\wr IntKind.i64 ((qDCd x)+(↑(min (List.length (Zvl x)) (qDCx c x)):Int))=(qDCd x')/\True)/\(List.take (qDCh+Int.toNat (qDCd x)) (LX.D x)++List.take (qDCx c x) (Zvl x)++List.drop (qDCh+Int.toNat (qDCd x)+min (List.length (Zvl x)) (qDCx c x)) (LX.D x)=LX.D x'/\qDCh=qDCh)/\True)/\(decide ((qDCd x)<(qDCm c))=false->(qDCk<=(qDCd x)/\(qDCd x)<=(qDCm c))/\False))/\(decide ((qDCd x)<(qDCm c))=false->(qDCk<=qDCk/\qDCk+qDCv<=(qDCm c))/\qDCh<=qDCh+Int.toNat qDCk/\qDCh+Int.toNat qDCk+qDCu<=List.length (LX.D x)/\∀(x_1:Int),(LX.D x)[qDCh+Int.toNat qDCk]? =some x_1->∃(R:LX->Prop),(∃(x_2:LX),R x_2/\true=true/\((qDCe c)/\qDCk=LX.m x_2/\(qDCc c)/\(qDCe c)/\(qDCf c)=(qDCf c)/\qDCk=(qDCd x_2)/\True)/\(List.set (LX.D x) (qDCh+Int.toNat qDCk) qDCk=LX.D x_2/\qDCh=qDCh)/\True)/\∀(x:LX),R x->(decide ((qDCd x)<(qDCf c))=true->qDCk<=(qDCd x)/\(qDCd x)+qDCv<=(qDCf c)/\∀(x_2:Ins),c[Int.toNat (qDCd x)]? =some x_2->(qDCk<=(qDCd x)/\(qDCd x)+qDCv<=(qDCm c))/\qDCh+Int.toNat (qDCd x)+qDCu<=List.length (LX.D x)/\∀(x_3:Int),(LX.D x)[qDCh+Int.toNat (qDCd x)]? =some x_3->(decide (x_3<qDCk)=true->∃(x':LX),R x'/\x'.2+qDCu<=x.2/\true=true/\((qDCe c)/\LX.m x=LX.m x'/\(qDCc c)/\(qDCe c)/\(qDCf c)=(qDCf c)/\wr IntKind.i64 (qDCg x)=(qDCd x')/\True)/\(qDCq x x')/\True)/\(decide (x_3<qDCk)=false->True/\∃(Q:Bool->Prop),((decide (x_3<Prod.fst (eff (Ins.op x_2)))=true->Q true)/\(decide (x_3<Prod.fst (eff (Ins.op x_2)))=false->((Ins.op x_2==(15:Int))=true->((x_3 !=qDCv)=true->Q true)/\((x_3 !=qDCv)=false->((Ins.op x_2==(16:Int))=true->((x_3 !=qDCk)=true->Q true)/\((x_3 !=qDCk)=false->Q false))/\((Ins.op x_2==(16:Int))=false->Q false)))/\((Ins.op x_2==(15:Int))=false->((Ins.op x_2==(16:Int))=true->((x_3 !=qDCk)=true->Q true)/\((x_3 !=qDCk)=false->Q false))/\((Ins.op x_2==(16:Int))=false->Q false))))/\(Q true->qDCk=p/\(200:Int)=q/\True)/\(Q false->∃(Q:Bool->Prop),(((Ins.op x_2==(13:Int))=true->Q
true)/\((Ins.op x_2==(13:Int))=false->((Ins.op x_2==(14:Int))=true->Q true)/\((Ins.op x_2==(14:Int))=false->Q false)))/\(Q true->∃(Q:Bool->Prop),(qDCo x_2 Q)/\(Q true->(List.length [Ins.n x_2]<=List.length [Ins.n x_2]/\qDCh<=List.length [Ins.n x_2]/\(List.length [Ins.n x_2]+List.length [wr IntKind.i64 (qDCg x)])*(8:Nat)<=(140737488355328:Nat))/\∃(R_1:LX->Prop),(∃(x_4:LX),R_1 x_4/\true=true/\((qDCe c)/\mm2 true (qDCr x x_3) (qDCl x_3 x_2)=mm2 true (qDCr x x_3) (qDCl x_3 x_2)/\(qDCc c)/\(qDCd x)=(qDCd x)/\wr IntKind.i64 (qDCa x_3 x_2)=wr IntKind.i64 (qDCa x_3 x_2)/\(qDCe c)/\(qDCf c)=(qDCf c)/\(qDCd x)=(qDCd x)/\(qDCs x_2 x)/\(qDCj x_2 x)=(qDCj x_2 x)/\qDCk=(qDCd x_4)/\True)/\(qDCq x x_4)/\(qDCt x_2 x)/\True)/\∀(x_4:LX),R_1 x_4->(decide ((qDCd x_4)<(qDCj x_2 x))=true->(qDCk<=(qDCd x_4)/\(qDCd x_4)+qDCv<=(qDCj x_2 x))/\qDCh+Int.toNat (qDCd x_4)+qDCu<=List.length (List.take (qDCp x_2) [Ins.n x_2]++ [wr IntKind.i64 (qDCg x)])/\∀(x_5:Int),(List.take (qDCp x_2) [Ins.n x_2]++ [wr IntKind.i64 (qDCg x)])[qDCh+Int.toNat (qDCd x_4)]? =some x_5->∃(Q:Bool->Prop),(qDCb x_5 x Q c x_4 x_3 x_2)/\(Q true->qDCk=p/\(200:Int)=q/\True)/\(Q false->(qDCy x_5 c)/\qDCh<=qDCh+Int.toNat x_5/\qDCh+Int.toNat x_5+qDCu<=List.length (LX.D x_4)/\∀(x_6:Int),(LX.D x_4)[qDCh+Int.toNat x_5]? =some x_6->∃(x':LX),R_1 x'/\x'.2+qDCu<=x_4.2/\true=true/\((qDCe c)/\mm2 true (qDCr x x_3) (qDCl x_3 x_2)=mm2 true (qDCr x x_3) (qDCl x_3 x_2)/\(qDCc c)/\(qDCd x)=(qDCd x)/\wr IntKind.i64 (qDCa x_3 x_2)=wr IntKind.i64 (qDCa x_3 x_2)/\(qDCe c)/\(qDCf c)=(qDCf c)/\(qDCd x)=(qDCd x)/\(qDCs x_2 x)/\(qDCj x_2 x)=(qDCj x_2 x)/\wr IntKind.i64 (qDCg x_4)=(qDCd x')/\True)/\(List.set (LX.D x_4) (qDCh+Int.toNat x_5) (qDCl x_3 x_2)=LX.D x'/\qDCh=qDCh)/\(qDCt x_2 x)/\True))/\(decide ((qDCd x_4)<(qDCj x_2 x))=false->∃(x':LX),R x'/\x'.2+qDCu<=x.2/\true=true/\(qDCi c x x_3 x_2 x')/\(qDCq x_4 x')/\True))/\(Q false->∃(R_1:LX->Prop),(∃(x_4:LX),R_1 x_4/\true=true/\((qDCe c)/\mm2 true (qDCr x x_3) (qDCl x_3 x_2)=mm2 true (qDCr x x_3) (qDCl x_3 x_2)/\(qDCc c)/\(qDCd x)=(qDCd x)/\wr IntKind.i64 (qDCa x_3 x_2)=wr IntKind.i64 (qDCa x_3 x_2)/\(qDCe c)/\(qDCf c)=(qDCf c)/\(qDCd x)=(qDCd x)/\(Zy4 x_2)/\(↑(qDCp x_2):Int)=(↑(qDCp x_2):Int)/\qDCk=(qDCd x_4)/\True)/\(qDCq x x_4)/\([Ins.n x_2]= [Ins.n x_2]/\qDCh=qDCh)/\True)/\∀(x_4:LX),R_1 x_4->(decide ((qDCd x_4)<(↑(qDCp x_2):Int))=true->(qDCk<=(qDCd x_4)/\(qDCd x_4)+qDCv<=(↑(qDCp x_2):Int))/\qDCh+Int.toNat (qDCd x_4)+qDCu<=List.length [Ins.n x_2]/\∀(x_5:Int),[Ins.n x_2][qDCh+Int.toNat (qDCd x_4)]? =some x_5->∃(Q:Bool->Prop),(qDCb x_5 x Q c x_4 x_3 x_2)/\(Q true->qDCk=p/\(200:Int)=q/\True)/\(Q false->(qDCy x_5 c)/\qDCh<=qDCh+Int.toNat x_5/\qDCh+Int.toNat x_5+qDCu<=List.length (LX.D x_4)/\∀(x_6:Int),(LX.D x_4)[qDCh+Int.toNat x_5]? =some x_6->∃(x':LX),R_1 x'/\x'.2+qDCu<=x_4.2/\true=true/\((qDCe c)/\mm2 true (qDCr x x_3) (qDCl x_3 x_2)=mm2 true (qDCr x x_3) (qDCl x_3 x_2)/\(qDCc c)/\(qDCd x)=(qDCd x)/\wr IntKind.i64 (qDCa x_3 x_2)=wr IntKind.i64 (qDCa x_3 x_2)/\(qDCe c)/\(qDCf c)=(qDCf c)/\(qDCd x)=(qDCd x)/\(Zy4 x_2)/\(↑(qDCp x_2):Int)=(↑(qDCp x_2):Int)/\wr IntKind.i64 (qDCg x_4)=(qDCd x')/\True)/\(List.set (LX.D x_4) (qDCh+Int.toNat x_5) (qDCl x_3 x_2)=LX.D x'/\qDCh=qDCh)/\([Ins.n x_2]= [Ins.n x_2]/\qDCh=qDCh)/\True))/\(decide ((qDCd x_4)<(↑(qDCp x_2):Int))=false->∃(x':LX),R x'/\x'.2+qDCu<=x.2/\true=true/\(qDCi c x x_3 x_2 x')/\(qDCq x_4 x')/\True)))/\(Q false->∃(Q:Bool->Prop),(qDCo x_2 Q)/\(Q true->∃(R_1:LX->Prop),(∃(x_4:LX),R_1 x_4/\true=true/\((qDCe c)/\mm2 true (qDCr x x_3) (qDCl x_3 x_2)=mm2 true (qDCr x x_3)
(qDCl x_3 x_2)/\(qDCc c)/\(qDCd x)=(qDCd x)/\wr IntKind.i64 (qDCa x_3 x_2)=wr IntKind.i64 (qDCa x_3 x_2)/\(qDCe c)/\(qDCf c)=(qDCf c)/\(qDCd x)=(qDCd x)/\(qDCw x)/\(qDCn x)=(qDCn x)/\qDCk=(qDCd x_4)/\True)/\(qDCq x x_4)/\(Zy5 x)/\True)/\∀(x_4:LX),R_1 x_4->(decide ((qDCd x_4)<(qDCn x))=true->(qDCk<=(qDCd x_4)/\(qDCd x_4)+qDCv<=(qDCn x))/\qDCh+Int.toNat (qDCd x_4)+qDCu<=List.length [wr IntKind.i64 (qDCg x)]/\∀(x_5:Int),[wr IntKind.i64 (qDCg x)][qDCh+Int.toNat (qDCd x_4)]? =some x_5->∃(Q:Bool->Prop),(qDCb x_5 x Q c x_4 x_3 x_2)/\(Q true->qDCk=p/\(200:Int)=q/\True)/\(Q false->(qDCy x_5 c)/\qDCh<=qDCh+Int.toNat x_5/\qDCh+Int.toNat x_5+qDCu<=List.length (LX.D x_4)/\∀(x_6:Int),(LX.D x_4)[qDCh+Int.toNat x_5]? =some x_6->∃(x':LX),R_1 x'/\x'.2+qDCu<=x_4.2/\true=true/\((qDCe c)/\mm2 true (qDCr x x_3) (qDCl x_3 x_2)=mm2 true (qDCr x x_3) (qDCl x_3 x_2)/\(qDCc c)/\(qDCd x)=(qDCd x)/\wr IntKind.i64 (qDCa x_3 x_2)=wr IntKind.i64 (qDCa x_3 x_2)/\(qDCe c)/\(qDCf c)=(qDCf c)/\(qDCd x)=(qDCd x)/\(qDCw x)/\(qDCn x)=(qDCn x)/\wr IntKind.i64 (qDCg x_4)=(qDCd x')/\True)/\(List.set (LX.D x_4) (qDCh+Int.toNat x_5) (qDCl x_3 x_2)=LX.D x'/\qDCh=qDCh)/\(Zy5 x)/\True))/\(decide ((qDCd x_4)<(qDCn x))=false->∃(x':LX),R x'/\x'.2+qDCu<=x.2/\true=true/\(qDCi c x x_3 x_2 x')/\(qDCq x_4 x')/\True))/\(Q false->∃(R_1:LX->Prop),(∃(x_4:LX),R_1 x_4/\true=true/\((qDCe c)/\mm2 true (qDCr x x_3) (qDCl x_3 x_2)=mm2 true (qDCr x x_3) (qDCl x_3 x_2)/\(qDCc c)/\(qDCd x)=(qDCd x)/\wr IntKind.i64 (qDCa x_3 x_2)=wr IntKind.i64 (qDCa x_3 x_2)/\(qDCe c)/\(qDCf c)=(qDCf c)/\(qDCd x)=(qDCd x)/\Value.slice none qDCh qDCh=Value.slice none qDCh qDCh/\qDCk=qDCk/\qDCk=(qDCd x_4)/\True)/\(qDCq x x_4)/\True)/\∀(x_4:LX),R_1 x_4->(decide ((qDCd x_4)<qDCk)=true->False)/\(decide ((qDCd x_4)<qDCk)=false->∃(x':LX),R x'/\x'.2+qDCu<=x.2/\true=true/\(qDCi c x x_3 x_2 x')/\(qDCq x_4 x')/\True))))))/\(decide ((qDCd x)<(qDCf c))=false->(decide (LX.m x>(64:Int))=true->qDCk=p/\(2:Int)=q/\True)/\(decide (LX.m x>(64:Int))=false->LX.m x=p/\qDCk=q/\True))))))))):=by kernel_rfl
theorem Zrw {n k:Nat} (h1:1<=k) (h2:k<n) {D:List Int} (hD:D=List.replicate k (-1)++List.replicate (n-k) 0):
 List.take k D++List.take (n-k) (List.take k D)++List.drop (k+min (List.take k D).length (n-k)) D=List.replicate (k+min k (n-k)) (-1)++List.replicate (n-(k+min k (n-k))) 0:=by
 subst hD
 have e1:List.take k (List.replicate k (-1:Int)++List.replicate (n-k) 0)=List.replicate k (-1):=List.take_left' (by simp)
 rw [e1,List.length_replicate,List.take_replicate]
 have e2:List.drop (k+min k (n-k)) (List.replicate k (-1:Int)++List.replicate (n-k) 0)=List.drop (min k (n-k)) (List.replicate (n-k) 0):=by
  rw [List.drop_append,List.length_replicate,List.drop_eq_nil_of_le (by simp),show k+min k (n-k)-k=min k (n-k) by omega,List.nil_append]
 rw [e2,List.drop_replicate,List.replicate_append_replicate,Nat.min_comm (n-k) k,show n-k-min k (n-k)=n-(k+min k (n-k)) by omega]
structure RVV (c:List Ins) (x:LX):Prop where
 kr:x.k+x.r=c.length
 len:x.D.length=c.length
 lo:∀d∈x.D,-1<=d/\d<=x.k
 run:fromF c.length (c.drop x.k) x.k x.D x.m=fromF c.length c 0 (deps c) 0
structure RNV (c:List Ins) (x:LX) (after:Int) (ns:List Int) (y:LX):Prop where
 kr:y.k+y.r=ns.length
 len:y.D.length=c.length
 lo:∀d∈y.D,-1<=d/\d<=x.k+1
 run:setF c.length x.k after (ns.drop y.k) y.D=setF c.length x.k after ns x.D
theorem Zy6 (op:Int):0<=(eff op).1/\(eff op).1<=2/\0<=(eff op).2/\(eff op).2<=1:=by
 unfold eff
 repeat' split
 all_goals simp
theorem Zad {D:List Int} {j:Nat} {a lo hi:Int} (h:∀d∈D,lo<=d/\d<=hi) (h2:lo<=a/\a<=hi):∀d∈D.set j a,lo<=d/\d<=hi:=by
 intro d hd
 rcases List.mem_or_eq_of_mem_set hd with h3|h3
 · exact h d h3
 · subst h3;exact h2
theorem Zip (c:List Ins):PureC E 17 [.psl .ins c false] (.tup [.int false .i64 (verF c).1,.int false .i64 (verF c).2]):=by
 refine Zc E_ok (Zn E_ok Z0v 400) ?_
 rw [Zio];delta qDCf Zo9 qDC9 qDCa qDCd qDCh qDCu qDCk qDCz qDCm qDCv qDCy qDCb qDCc qDCe qDCg qDCl qDCr qDCi qDCj qDCn qDCo qDCp qDCq qDCs qDCt qDCw qDCx Zvl Zy4 Zy5
 have s1:4096<c.length->verF c=(0,2):=fun h=>by unfold verF;rw [if_pos h]
 have s2:c.length=0->verF c=(0,200):=fun h=>by unfold verF;rw [if_neg (by omega),if_pos (.inl h)]
 have s3:c.length<=4096->c.all formedF=false->verF c=(0,200):=fun h h2=>by unfold verF;rw [if_neg (by omega),if_pos (.inr h2)]
 have s4:c.length<=4096->c.length≠0->c.all formedF=true->verF c=endF (fromF c.length c 0 (deps c) 0):=fun h h2 h3=>by unfold verF;rw [if_neg (by omega),if_neg (by simp [h2,h3])]
 generalize verF c=V at*
 simp only [Z4,Zt,Xx,Xy,Xz,beq_iff_eq,bne_iff_ne,beq_eq_false_iff_ne,bne_eq_false_iff_eq,decide_eq_true_eq,decide_eq_false_iff_not,Bool.or_eq_true,Bool.or_eq_false_iff,Bool.not_eq_true',Bool.not_eq_false',Bool.and_eq_true,Bool.and_true,Bool.true_and,Bool.and_eq_false_iff,beq_self_eq_true,Z0,Yc,ne_eq,and_true,true_and,Bool.true_eq_false,Bool.false_eq_true,false_or,or_false,true_implies,Int.ofNat_eq_natCast,not_true_eq_false,not_false_eq_true,Decidable.not_not,gt_iff_lt,ge_iff_le]
 refine ⟨fun h=> ?_,fun h=>⟨fun h2=> ?_,fun h2=>⟨by omega,fun h3=> ?_,fun h3=>⟨fun h4=>by omega,fun h4=> ?_⟩⟩⟩⟩
 · rw [s1 (by omega)];simp
 · rw [s2 (by omega)];simp
 · rw [s3 (by omega) (by simpa using h3)];simp
 have hn:c.length<=4096:=by omega
 rw [s4 hn (by omega) h3]
 clear s1 s2 s3 s4 V h4 h
 have eU:wr .u64 (c.length:Int)=c.length:=Zrv (by omega) (by omega)
 have eI:wr .i64 (c.length:Int)=c.length:=wr64 (by omega) (by omega)
 simp only [eU,eI,Int.toNat_natCast,Nat.zero_add,Int.toNat_zero]
 refine ⟨by omega,?_⟩
 refine ⟨fun b=>b=false,⟨fun h=>by omega,fun _=>⟨fun h=>by omega,fun _=>rfl⟩⟩,fun h=>by simp at h,fun _=> ?_⟩
 refine ⟨by omega,Int.le_refl _,by omega,by simp,?_⟩
 refine ⟨fun x=>1<=x.k/\x.k+x.r=c.length/\x.D=List.replicate x.k (-1)++List.replicate (c.length-x.k) 0,⟨⟨1,c.length-1,List.replicate 1 (-1)++List.replicate (c.length-1) 0,0⟩,⟨Nat.le_refl _,by show 1+(c.length-1)=_;omega,rfl⟩,?_⟩,fun x hx=> ?_⟩
 · have e:min ([-1]:List Int).length c.length=1:=by simp;omega
   rw [e]
   refine ⟨by simp,?_⟩
   have e2:List.take c.length [(-1:Int)]= [-1]:=List.take_of_length_le (by simp;omega)
   rw [e2]
   simp
 obtain ⟨hk1,hkr,hD⟩:=hx
 have hDl:x.D.length=c.length:=by rw [hD];simp;omega
 refine ⟨fun hlt=>⟨by omega,fun _=>⟨by omega,by omega,by omega,?_⟩,fun h=>absurd hlt h⟩,fun hge=> ?_⟩
 · have e:=Zrw hk1 (by omega:x.k<c.length) hD
   have e3:(List.take x.k x.D).length=x.k:=by rw [List.length_take];omega
   rw [e3] at e⊢
   refine ⟨⟨x.k+min x.k (c.length-x.k),c.length-(x.k+min x.k (c.length-x.k)),_,0⟩,⟨by show 1<=x.k+_;omega,by show x.k+min x.k (c.length-x.k)+(c.length-(x.k+min x.k (c.length-x.k)))=_;omega,rfl⟩,by show c.length-(x.k+min x.k (c.length-x.k))+1<=x.r;omega,?_,e⟩
   rw [wr64 (by omega) (by omega)]
   show _=((x.k+min x.k (c.length-x.k):Nat):Int)
   omega
 have hkn:x.k=c.length:=by omega
 have hD:x.D=List.replicate c.length (-1):=by rw [hD,hkn,Nat.sub_self];simp
 clear hk1 hkr hge
 refine ⟨by omega,by omega,by omega,fun z hz=> ?_⟩
 rw [hD] at hDl⊢
 clear hz hD hkn
 refine ⟨RVV c,⟨⟨0,c.length,deps c,0⟩,⟨by show 0+c.length=_;omega,by simp [deps],?_,by simp⟩,by simp [deps]⟩,fun x hR=> ?_⟩
 · intro d hd
   rcases List.mem_or_eq_of_mem_set hd with h|h
   · rw [List.mem_replicate] at h;show-1<=d/\d<=0;omega
   · show-1<=d/\d<=0;omega
 have hlen:=hR.len
 refine ⟨fun hlt=>⟨by omega,by omega,fun x2 hx2=>⟨by omega,by omega,fun x3 hx3=> ?_⟩⟩,fun hge=> ?_⟩
 · have hb:=hR.lo x3 (List.mem_of_getElem? hx3)
   have he:=Zy6 x2.op
   have hkr:=hR.kr
   have hget:x.D.getD x.k 0=x3:=by simp [List.getD_eq_getElem?_getD,hx3]
   have hdrop:c.drop x.k=x2::c.drop (x.k+1):=by
    obtain ⟨h1,rfl⟩:=gA9.1 hx2
    exact List.drop_eq_getElem_cons h1
   have hrun:=hR.run
   rw [hdrop] at hrun
   simp only [fromF] at hrun
   have hfo:formedF x2=true:=List.all_eq_true.1 h3 x2 (List.mem_of_getElem? hx2)
   have eK:wr .i64 ((x.k:Int)+1)=x.k+1:=wr64 (by omega) (by omega)
   have eA:wr .i64 (wr .i64 (x3-(eff x2.op).1)+(eff x2.op).2)=x3-(eff x2.op).1+(eff x2.op).2:=by
    have e0:wr .i64 (x3-(eff x2.op).1)=x3-(eff x2.op).1:=wr64 (by omega) (by omega)
    rw [e0];exact wr64 (by omega) (by omega)
   simp only [eK,eA,Z0]
   refine ⟨fun hneg=> ?_,fun hneg=> ?_⟩
   · have hsome:rndF c.length x.k x2 x.D x.m=some (x.D,x.m):=by unfold rndF;rw [hget,if_pos hneg]
     rw [hsome] at hrun
     exact ⟨⟨x.k+1,x.r-1,x.D,x.m⟩,⟨by show x.k+1+(x.r-1)=_;omega,hlen,fun d hd=>by have:=hR.lo d hd;show-1<=d/\d<=((x.k+1:Nat):Int);omega,hrun⟩,by show x.r-1+1<=x.r;omega,by simp⟩
   refine ⟨fun b=>(b=true↔(x3<(eff x2.op).1\/(x2.op=15/\x3≠1)\/(x2.op=16/\x3≠0))),?_,fun hQ=> ?_,fun hQ=> ?_⟩
   · repeat' (first|(refine And.intro ?_ ?_)|(intro h))
     all_goals simp
     all_goals omega
   · have hQ:=hQ.1 rfl
     have hnone:rndF c.length x.k x2 x.D x.m=none:=by unfold rndF;rw [hget,if_neg hneg,if_pos hQ]
     rw [hnone] at hrun
     rw [<-hrun]
     simp [endF]
   · have hbad:¬(x3<(eff x2.op).1\/(x2.op=15/\x3≠1)\/(x2.op=16/\x3≠0)):=fun h=>absurd (hQ.2 h) (by simp)
     clear hQ
     refine ⟨fun b=>(b=true↔(x2.op=13\/x2.op=14)),?_,fun hQ=> ?_,fun hQ=> ?_⟩
     · repeat' (first|(refine And.intro ?_ ?_)|(intro h))
       all_goals simp
       all_goals omega
     · have hQ:=hQ.1 rfl
       refine ⟨fun b=>(b=true↔(x2.op≠14/\x2.op≠15/\x2.op≠16)),?_,fun hQ2=> ?_,fun hQ2=> ?_⟩
       · repeat' (first|(refine And.intro ?_ ?_)|(intro h))
         all_goals simp
         all_goals omega
       · have hQ2:=hQ2.1 rfl
         have hnx:nextF x.k x2= [x2.n,(x.k:Int)+1]:=by unfold nextF;rw [if_neg (by omega),if_neg (by omega),if_pos (by omega)]
         simp only [List.length_cons,List.length_nil,Nat.zero_add,List.take_succ_cons,List.take_zero,List.cons_append,List.nil_append]
         refine ⟨by omega,?_⟩
         refine ⟨RNV c x (x3-(eff x2.op).1+(eff x2.op).2) [x2.n,(x.k:Int)+1],⟨⟨0,2,x.D,0⟩,⟨rfl,hR.len,fun d hd=>⟨(hR.lo d hd).1,by have:=(hR.lo d hd).2;omega⟩,rfl⟩,by simp⟩,fun y hy=>⟨fun hlt=> ?_,fun hge=> ?_⟩⟩
         · have hyk:y.k<([x2.n,(x.k:Int)+1]).length:=by simp only [List.length_cons,List.length_nil];omega
           refine ⟨by omega,by first|omega|(simp only [List.length_cons,List.length_nil];omega),fun n hy5=> ?_⟩
           have hns:([x2.n,(x.k:Int)+1]).drop y.k=n::([x2.n,(x.k:Int)+1]).drop (y.k+1):=by
            obtain ⟨h1,rfl⟩:=gA9.1 hy5
            exact List.drop_eq_getElem_cons h1
           have hset:=hy.run
           rw [hns] at hset
           generalize hS:setF c.length x.k (x3-(eff x2.op).1+(eff x2.op).2) [x2.n,(x.k:Int)+1] x.D=SF at hset
           simp only [setF] at hset
           refine ⟨fun b=>(b=true↔(n<=x.k\/(c.length:Int)<=n\/(0<=y.D.getD n.toNat 0/\y.D.getD n.toNat 0≠x3-(eff x2.op).1+(eff x2.op).2))),?_,fun hQ=> ?_,fun hQ=> ?_⟩
           · refine ⟨fun h=>by simp [h],fun h=>⟨fun h'=>by simp [h'],fun h'=>⟨by omega,by rw [hy.len];omega,fun z hz=> ?_⟩⟩⟩
             have hg:y.D.getD n.toNat 0=z:=by simp [List.getD_eq_getElem?_getD,hz]
             rw [hg]
             refine ⟨fun h0=>⟨by omega,by rw [hy.len];omega,fun z2 hz2=> ?_⟩,fun h0=>by simp;omega⟩
             rw [hz] at hz2;cases hz2
             exact ⟨fun h1=>by simp;omega,fun h1=>by simp;omega⟩
           · have hQ:=hQ.1 rfl
             rw [if_pos hQ] at hset
             have hnone:rndF c.length x.k x2 x.D x.m=none:=by
              unfold rndF
              rw [hget,if_neg hneg,if_neg hbad,hnx,hS,<-hset]
             rw [hnone] at hrun
             rw [<-hrun]
             simp [endF]
           · have hQ:¬(n<=x.k\/(c.length:Int)<=n\/(0<=y.D.getD n.toNat 0/\y.D.getD n.toNat 0≠x3-(eff x2.op).1+(eff x2.op).2)):=fun h=>by simp at hQ;exact absurd h (by simpa using hQ)
             rw [if_neg hQ] at hset
             refine ⟨by omega,Nat.zero_le _,by rw [hy.len];omega,fun z hz=> ?_⟩
             refine ⟨⟨y.k+1,y.r-1,y.D.set n.toNat (x3-(eff x2.op).1+(eff x2.op).2),0⟩,⟨by have:=hy.kr;show y.k+1+(y.r-1)=_;omega,by simp [hy.len],Zad hy.lo (by omega),hset.trans hS.symm⟩,by have:=hy.kr;show y.r-1+1<=y.r;omega,?_⟩
             rw [wr64 (by omega) (by omega)]
             simp
         · have hyk:([x2.n,(x.k:Int)+1]).drop y.k= []:=List.drop_eq_nil_of_le (by simp only [List.length_cons,List.length_nil];omega)
           have hset:=hy.run
           rw [hyk] at hset
           generalize hS:setF c.length x.k (x3-(eff x2.op).1+(eff x2.op).2) [x2.n,(x.k:Int)+1] x.D=SF at hset
           simp only [setF] at hset
           have hsome:rndF c.length x.k x2 x.D x.m=some (y.D,max (max x.m x3) (x3-(eff x2.op).1+(eff x2.op).2)):=by
            unfold rndF
            rw [hget,if_neg hneg,if_neg hbad,hnx,hS,<-hset]
           rw [hsome] at hrun
           refine ⟨⟨x.k+1,x.r-1,y.D,_⟩,⟨by have:=hR.kr;show x.k+1+(x.r-1)=_;omega,hy.len,fun d hd=>by have:=hy.lo d hd;show-1<=d/\d<=((x.k+1:Nat):Int);omega,hrun⟩,by have:=hR.kr;show x.r-1+1<=x.r;omega,?_⟩
           simp
       · have hQ2:¬(x2.op≠14/\x2.op≠15/\x2.op≠16):=fun h=>absurd (hQ2.2 h) (by simp)
         have hnx:nextF x.k x2= [x2.n]:=by unfold nextF;rw [if_neg (by omega),if_pos (by omega)]
         simp only [List.length_cons,List.length_nil,Nat.zero_add]
         refine ⟨RNV c x (x3-(eff x2.op).1+(eff x2.op).2) [x2.n],⟨⟨0,1,x.D,0⟩,⟨rfl,hR.len,fun d hd=>⟨(hR.lo d hd).1,by have:=(hR.lo d hd).2;omega⟩,rfl⟩,by simp⟩,fun y hy=>⟨fun hlt=> ?_,fun hge=> ?_⟩⟩
         · have hyk:y.k<([x2.n]).length:=by simp only [List.length_cons,List.length_nil];omega
           refine ⟨by omega,by first|omega|(simp only [List.length_cons,List.length_nil];omega),fun n hy5=> ?_⟩
           have hns:([x2.n]).drop y.k=n::([x2.n]).drop (y.k+1):=by
            obtain ⟨h1,rfl⟩:=gA9.1 hy5
            exact List.drop_eq_getElem_cons h1
           have hset:=hy.run
           rw [hns] at hset
           generalize hS:setF c.length x.k (x3-(eff x2.op).1+(eff x2.op).2) [x2.n] x.D=SF at hset
           simp only [setF] at hset
           refine ⟨fun b=>(b=true↔(n<=x.k\/(c.length:Int)<=n\/(0<=y.D.getD n.toNat 0/\y.D.getD n.toNat 0≠x3-(eff x2.op).1+(eff x2.op).2))),?_,fun hQ=> ?_,fun hQ=> ?_⟩
           · refine ⟨fun h=>by simp [h],fun h=>⟨fun h'=>by simp [h'],fun h'=>⟨by omega,by rw [hy.len];omega,fun z hz=> ?_⟩⟩⟩
             have hg:y.D.getD n.toNat 0=z:=by simp [List.getD_eq_getElem?_getD,hz]
             rw [hg]
             refine ⟨fun h0=>⟨by omega,by rw [hy.len];omega,fun z2 hz2=> ?_⟩,fun h0=>by simp;omega⟩
             rw [hz] at hz2;cases hz2
             exact ⟨fun h1=>by simp;omega,fun h1=>by simp;omega⟩
           · have hQ:=hQ.1 rfl
             rw [if_pos hQ] at hset
             have hnone:rndF c.length x.k x2 x.D x.m=none:=by
              unfold rndF
              rw [hget,if_neg hneg,if_neg hbad,hnx,hS,<-hset]
             rw [hnone] at hrun
             rw [<-hrun]
             simp [endF]
           · have hQ:¬(n<=x.k\/(c.length:Int)<=n\/(0<=y.D.getD n.toNat 0/\y.D.getD n.toNat 0≠x3-(eff x2.op).1+(eff x2.op).2)):=fun h=>by simp at hQ;exact absurd h (by simpa using hQ)
             rw [if_neg hQ] at hset
             refine ⟨by omega,Nat.zero_le _,by rw [hy.len];omega,fun z hz=> ?_⟩
             refine ⟨⟨y.k+1,y.r-1,y.D.set n.toNat (x3-(eff x2.op).1+(eff x2.op).2),0⟩,⟨by have:=hy.kr;show y.k+1+(y.r-1)=_;omega,by simp [hy.len],Zad hy.lo (by omega),hset.trans hS.symm⟩,by have:=hy.kr;show y.r-1+1<=y.r;omega,?_⟩
             rw [wr64 (by omega) (by omega)]
             simp
         · have hyk:([x2.n]).drop y.k= []:=List.drop_eq_nil_of_le (by simp only [List.length_cons,List.length_nil];omega)
           have hset:=hy.run
           rw [hyk] at hset
           generalize hS:setF c.length x.k (x3-(eff x2.op).1+(eff x2.op).2) [x2.n] x.D=SF at hset
           simp only [setF] at hset
           have hsome:rndF c.length x.k x2 x.D x.m=some (y.D,max (max x.m x3) (x3-(eff x2.op).1+(eff x2.op).2)):=by
            unfold rndF
            rw [hget,if_neg hneg,if_neg hbad,hnx,hS,<-hset]
           rw [hsome] at hrun
           refine ⟨⟨x.k+1,x.r-1,y.D,_⟩,⟨by have:=hR.kr;show x.k+1+(x.r-1)=_;omega,hy.len,fun d hd=>by have:=hy.lo d hd;show-1<=d/\d<=((x.k+1:Nat):Int);omega,hrun⟩,by have:=hR.kr;show x.r-1+1<=x.r;omega,?_⟩
           simp
     · have hQ:¬(x2.op=13\/x2.op=14):=fun h=>absurd (hQ.2 h) (by simp)
       refine ⟨fun b=>(b=true↔(x2.op≠14/\x2.op≠15/\x2.op≠16)),?_,fun hQ2=> ?_,fun hQ2=> ?_⟩
       · repeat' (first|(refine And.intro ?_ ?_)|(intro h))
         all_goals simp
         all_goals omega
       · have hQ2:=hQ2.1 rfl
         have hnx:nextF x.k x2= [(x.k:Int)+1]:=by unfold nextF;rw [if_neg (by omega),if_neg (by omega),if_neg (by omega)]
         simp only [List.length_cons,List.length_nil,Nat.zero_add]
         refine ⟨RNV c x (x3-(eff x2.op).1+(eff x2.op).2) [(x.k:Int)+1],⟨⟨0,1,x.D,0⟩,⟨rfl,hR.len,fun d hd=>⟨(hR.lo d hd).1,by have:=(hR.lo d hd).2;omega⟩,rfl⟩,by simp⟩,fun y hy=>⟨fun hlt=> ?_,fun hge=> ?_⟩⟩
         · have hyk:y.k<([(x.k:Int)+1]).length:=by simp only [List.length_cons,List.length_nil];omega
           refine ⟨by omega,by first|omega|(simp only [List.length_cons,List.length_nil];omega),fun n hy5=> ?_⟩
           have hns:([(x.k:Int)+1]).drop y.k=n::([(x.k:Int)+1]).drop (y.k+1):=by
            obtain ⟨h1,rfl⟩:=gA9.1 hy5
            exact List.drop_eq_getElem_cons h1
           have hset:=hy.run
           rw [hns] at hset
           generalize hS:setF c.length x.k (x3-(eff x2.op).1+(eff x2.op).2) [(x.k:Int)+1] x.D=SF at hset
           simp only [setF] at hset
           refine ⟨fun b=>(b=true↔(n<=x.k\/(c.length:Int)<=n\/(0<=y.D.getD n.toNat 0/\y.D.getD n.toNat 0≠x3-(eff x2.op).1+(eff x2.op).2))),?_,fun hQ=> ?_,fun hQ=> ?_⟩
           · refine ⟨fun h=>by simp [h],fun h=>⟨fun h'=>by simp [h'],fun h'=>⟨by omega,by rw [hy.len];omega,fun z hz=> ?_⟩⟩⟩
             have hg:y.D.getD n.toNat 0=z:=by simp [List.getD_eq_getElem?_getD,hz]
             rw [hg]
             refine ⟨fun h0=>⟨by omega,by rw [hy.len];omega,fun z2 hz2=> ?_⟩,fun h0=>by simp;omega⟩
             rw [hz] at hz2;cases hz2
             exact ⟨fun h1=>by simp;omega,fun h1=>by simp;omega⟩
           · have hQ:=hQ.1 rfl
             rw [if_pos hQ] at hset
             have hnone:rndF c.length x.k x2 x.D x.m=none:=by
              unfold rndF
              rw [hget,if_neg hneg,if_neg hbad,hnx,hS,<-hset]
             rw [hnone] at hrun
             rw [<-hrun]
             simp [endF]
           · have hQ:¬(n<=x.k\/(c.length:Int)<=n\/(0<=y.D.getD n.toNat 0/\y.D.getD n.toNat 0≠x3-(eff x2.op).1+(eff x2.op).2)):=fun h=>by simp at hQ;exact absurd h (by simpa using hQ)
             rw [if_neg hQ] at hset
             refine ⟨by omega,Nat.zero_le _,by rw [hy.len];omega,fun z hz=> ?_⟩
             refine ⟨⟨y.k+1,y.r-1,y.D.set n.toNat (x3-(eff x2.op).1+(eff x2.op).2),0⟩,⟨by have:=hy.kr;show y.k+1+(y.r-1)=_;omega,by simp [hy.len],Zad hy.lo (by omega),hset.trans hS.symm⟩,by have:=hy.kr;show y.r-1+1<=y.r;omega,?_⟩
             rw [wr64 (by omega) (by omega)]
             simp
         · have hyk:([(x.k:Int)+1]).drop y.k= []:=List.drop_eq_nil_of_le (by simp only [List.length_cons,List.length_nil];omega)
           have hset:=hy.run
           rw [hyk] at hset
           generalize hS:setF c.length x.k (x3-(eff x2.op).1+(eff x2.op).2) [(x.k:Int)+1] x.D=SF at hset
           simp only [setF] at hset
           have hsome:rndF c.length x.k x2 x.D x.m=some (y.D,max (max x.m x3) (x3-(eff x2.op).1+(eff x2.op).2)):=by
            unfold rndF
            rw [hget,if_neg hneg,if_neg hbad,hnx,hS,<-hset]
           rw [hsome] at hrun
           refine ⟨⟨x.k+1,x.r-1,y.D,_⟩,⟨by have:=hR.kr;show x.k+1+(x.r-1)=_;omega,hy.len,fun d hd=>by have:=hy.lo d hd;show-1<=d/\d<=((x.k+1:Nat):Int);omega,hrun⟩,by have:=hR.kr;show x.r-1+1<=x.r;omega,?_⟩
           simp
       · have hQ2:¬(x2.op≠14/\x2.op≠15/\x2.op≠16):=fun h=>absurd (hQ2.2 h) (by simp)
         have hnx:nextF x.k x2= []:=by unfold nextF;rw [if_pos (by omega)]
         have hsome:rndF c.length x.k x2 x.D x.m=some (x.D,max (max x.m x3) (x3-(eff x2.op).1+(eff x2.op).2)):=by
          unfold rndF
          rw [hget,if_neg hneg,if_neg hbad,hnx]
          rfl
         rw [hsome] at hrun
         refine ⟨fun y=>y.D=x.D,⟨⟨0,0,x.D,0⟩,rfl,by simp⟩,fun y hy=>⟨fun h=>by omega,fun _=> ?_⟩⟩
         refine ⟨⟨x.k+1,x.r-1,x.D,_⟩,⟨by show x.k+1+(x.r-1)=_;omega,hlen,fun d hd=>by have:=hR.lo d hd;show-1<=d/\d<=((x.k+1:Nat):Int);omega,hrun⟩,by show x.r-1+1<=x.r;omega,?_⟩
         simp [hy]
 · have hrun:=hR.run
   rw [List.drop_eq_nil_of_le (by omega)] at hrun
   simp only [fromF] at hrun
   rw [<-hrun]
   refine ⟨fun h=> ?_,fun h=> ?_⟩
   · simp [endF,h]
   · simp [endF,h]
end
section
open Go.RowKit
section
variable {Y:Thy} {E:Eng Y}
def σ2 (p q:Nat×Nat):Pl:=fun b=>match Nat.beq b 0 with|true=>some p|false=>(match Nat.beq b 1 with|true=>some q|false=>none)
section
variable {X α β ε:Type}
end
end
end
section
open Go.RowKit
section
variable {Y:Thy} {E:Eng Y}
def frzH (h:Hp Y) (bs:List Nat):Hp Y:=fun b=>match memB b bs with|true=>frzB (h b)|false=>h b
theorem Zi1 {h:Hp Y} {bs:List Nat} {b:Nat} (hb:frzH h bs b≠none):h b≠none:=by
 intro e
 apply hb
 unfold frzH
 rw [e]
 cases memB b bs<;>rfl
theorem Zvu {h:Hp Y} {bs:List Nat} {b:Nat} (hb:b∉bs):frzH h bs b=h b:=by
 unfold frzH
 cases hm:memB b bs with
 |true=>exact absurd (memB_iff.1 hm) hb
 |false=>rfl
theorem Zfq (h:Hp Y) (bs:List Nat) (i:Nat) (r:Res Y):patch h i ⟨r.v,r.n,bs++r.mods,patch (frzH h bs) i r,none⟩=patch (frzH h bs) i r:=by
 funext b
 rw [Zj]
 by_cases c:b∈bs++r.mods\/(i<=b/\b<i+r.n)
 · rw [if_pos c]
 · rw [if_neg c,Zj]
   have c1:b∉bs:=fun h=>c (.inl (List.mem_append_left _ h))
   rw [if_neg (fun h=>c (h.elim (fun h=> .inl (List.mem_append_right _ h)) .inr)),Zvu c1]
theorem Zsb {h:Hp Y} {bs:List Nat} {i n:Nat} {mods:List Nat} {σ σ':Pl} {g g':GH} {w w':World} {B:Nat} (hI:Inv E B σ h g w) (hS:Stp i n mods σ (frzG E h σ bs g w) w σ' g' w'):Stp i n (bs++mods) σ g w σ' g' w':=by
 refine ⟨hS.sig,hS.snew,(Vy hI).trans hS.gle,fun r o v hv=> ?_,hS.gmnew,fun r hr hx=>hS.heap r hr fun b hb=>hx b (List.mem_append_right _ hb),hS.size,hS.os,hS.tape,hS.output,fun b r z h1 h2=> ?_⟩
 · rcases hS.gcnew r o v hv with h1|h1|⟨b,hb,h1⟩
   · rcases Vx h1 with ⟨_,b,hb,z,x,h2,_⟩|h2
     · exact .inr (.inr ⟨b,List.mem_append_left _ hb,z,h2⟩)
     · exact .inl h2
   · exact .inr (.inl h1)
   · exact .inr (.inr ⟨b,List.mem_append_right _ hb,h1⟩)
 · rcases hS.blk b r z h1 h2 with h3|⟨b',hb',h3⟩
   · exact .inl h3
   · exact .inr ⟨b',List.mem_append_right _ hb',h3⟩
def Zsc (E:Eng Y) (gth:List (SV Y)->Option Y.Th) (n:Nat) (S:Sum Y):Sum Y:=fun args h i k=>
 frzL (frzK E gth h n) args fun rest' bs=>S rest' (frzH h bs) i fun r=>W9 (bs++r.mods) fun m=>k ⟨r.v,r.n,m,patch (frzH h bs) i r,none⟩
theorem Zsd (hE:EngOk E) {gth:List (SV Y)->Option Y.Th} {n:Nat} {f:Nat} {S:Sum Y} (hS:SumOk E f S):SumOk E f (Zsc E gth n S):=by
 refine ⟨hS.good,fun args h i k hD hk=> ?_⟩
 unfold Zsc at hk
 obtain ⟨rest',bs,hk,o⟩:=Zac (Zkt hE n) hk
 obtain ⟨r,hk,hR,htri⟩:=hS.ok rest' (frzH h bs) i _ (fun b hb=>hD b (Zi1 hb)) hk
 rw [Xo] at hk
 have args2:∀(B:Nat) (σ:Pl) (g:GH) (w:World) (vals:List Value),Inv E B σ h g w->DenL E σ g args vals->DenL E σ (frzG E h σ bs g w) rest' vals:=by
  intro B σ g w vals hI hd
  have hle:=Vy (bs:=bs) hI
  refine ⟨by rw [<-hd.1];exact o.len,fun j sv' u h1 h2=> ?_⟩
  have hjl:j<args.length:=by rw [<-o.len];exact (gA9.1 h1).1
  exact (o.den h σ g w B _ (fun _ _=>rfl) hI hle Zdv j _ sv' u (gB9 hjl) h1 (hd.2 j _ u (gB9 hjl) h2)).mono (fun b p h=>by cases h) (.refl _)
 refine ⟨_,hk,fun b hb=> ?_,?_⟩
 · have hb:b∈bs++r.mods:=hb
   rcases List.mem_append.1 hb with h1|h1
   · obtain ⟨y,hy,_⟩:=o.blk b h1
     rw [hy];simp
   · exact Zi1 (hR b h1)
 rcases htri with ht|⟨p,hp,ht⟩
 · refine .inl ?_
   intro B σ g w vals hh hrd hI hB hfree hd
   obtain rfl:hh=h:=funext fun b=>hrd b trivial
   refine (ht B σ _ w vals (frzH hh bs) (fun _ _=>rfl) (Zku hE o.blk hI) hB hfree (args2 B σ g w _ hI hd)).mono ?_
   rintro en w' ⟨u,he,σ',g',hst,hI',hv⟩
   refine ⟨u,he,σ',g',Zsb hI hst,?_,hv⟩
   rw [Zfq]
   exact hI'
 · refine .inr ⟨p,hp,fun B σ g w vals hI hB hfree hd=> ?_⟩
   refine (ht B σ _ w vals (Zku hE o.blk hI) hB hfree (args2 B σ g w _ hI hd)).mono ?_
   rintro en w' ⟨he,σ',g',hst,hI'⟩
   refine ⟨he,σ',g',Zsb hI hst,?_⟩
   rw [Zfq]
   exact hI'
end
end
section
open Go
def dClk:DcL E (Cls×Int×Unit):= .cons (dR .clauses:Dc E (thy.dom Th.clauses)) (.cons (dInt .i64) .nil)
def Scl:Sum thy:=sumB E Th.ins dClk (fun (l:List Ins) x=>ClP x.1 x.2.1.toNat l/\0<=x.2.1) fun (l:List Ins) x=>l++cdC x.1 x.2.1.toNat l.length
theorem Z1c:SumOk E 15 Scl:=Zqw E_ok (Zk rfl) fun x=>by
 have h:=Z1k x.1 x.2.1.toNat
 refine ⟨fun l fz hf hp=> ?_,fun hp=> ?_⟩
 · have:=h.1 l fz hf hp.1
   rw [Int.toNat_of_nonneg hp.2] at this
   exact this
 · have:=h.2 hp.1
   rw [Int.toNat_of_nonneg hp.2] at this
   exact this
def Z1d:Dc E (List Ins):=(Zse (E:=E) Th.ins:Dc E (List (thy.dom Th.ins)))
def Z1e:Sum thy:=Zsc E (fun _=>none) 10 (sumP (dA1 Z1d) (fun _=>True) fun x=> .tup [.int false .i64 (verF x.1).1,.int false .i64 (verF x.1).2])
theorem Zwd:SumOk E 17 Z1e:=Zsd E_ok (Zs E_ok (Zk (f:=17) rfl) fun x _=>Zip x.1)
structure CpX where
 k:Nat
 r:Nat
 L:List Ins
def Acp:Fr thy->Hp thy->Nat->Ann thy:=fun T h i=>{X:=Bool×CpX,fr:=fun x=> [(4,T 4),(13,T 13),(14,T 14),(15,.int false .i64 x.2.k)],bl:=fun x=>(bOf (T 4),.raw [match x.1 with|true=> .sl i 0 x.2.L.length 3 none|false=> .val (.slice none 0 0)] 0 none)::(match x.1 with|true=> [(i,.rows Th.ins x.2.L 0)]|false=> []),src:=fun x=>(match x.1 with|true=> [(i,1004)]|false=> []),md:= [bOf (T 4)],ih:=i+1,M:=i+60,meas:=fun x=>x.2.r,ex:=ex2,al:=al2,exOk:=Z1x,alOk:=Z1y}
def Zlt (F:Fns thy):Fns thy:={F with defs:=fun _=>false}
theorem Zfw {E':Eng thy} {F:Fns thy} (h:FnsOk E' F):FnsOk E' (Zlt F):=⟨h.sumG,h.fnG,h.sum,h.fn,h.loop⟩
def Fcp:Fns thy:=Zlt (addL (addS (addS (addS F0 15 Scl) 14 Zxp) 17 Z1e) 6 6 Acp E)
abbrev qDF1 (a0:Cls):=(Ex.mk (Ex.op (Cls.pay a0)) (Ex.n (Cls.pay a0)) (Ex.d0 (Cls.pay a0)) (Ex.d1 (Cls.pay a0)) (Ex.d2 (Cls.pay a0)) (Ex.d3 (Cls.pay a0)) (Ex.l (Cls.pay a0)))
abbrev qDF4 (a0:CpX):=(↑(CpX.k a0):Int)
abbrev qDF5:=(0:Nat)
abbrev qDF3 (a0:Tar):=(↑(List.length (Tar.clauses a0)):Int)
abbrev qDF2 (a0:Tar) (b0:CpX) (c0:CpX):=(qDF5=qDF5/\(Tar.clauses a0=Tar.clauses a0/\(false=true->false=true))/\(qDF3 a0)=(qDF3 a0)/\wr IntKind.i64 ((qDF4 b0)+(1:Int))=(qDF4 c0)/\True)
abbrev qDFa:=(1:Nat)
abbrev qDF6 (a0:CpX):=(List.length (CpX.L a0)+qDFa)
abbrev qDF9:=(0:Int)
abbrev qDF7:=(Prod.snd (verF (List.take qDFa (List.drop qDF5 [Ins.mk (16:Int) qDF9 qDF9]))) !=qDF9)
abbrev qDF8 (a0:Cls):=(Cls.mk (Cls.name a0) (Cls.when_ a0) (qDF1 a0))
theorem Zjd (t:Tar) (l:List Ins) (e:Int):Zw E Fcp (vc E Fcp 400) 6 [.agg (encF false .tariffs t)] hp0 0 (fun r=>ret E (patch hp0 0 r) r.v (.tup [.psl Th.ins l false,.int false .i64 e]))=(
 ((∀(c:Cls),c∈Tar.clauses t->Ex.sz (Cls.pay c)+qDFa<=(1000000000000:Nat)/\List.length (Cls.when_ c)+qDFa<=(1000000000000:Nat))/\List.length (Tar.clauses t)+qDFa<=(1000000000000:Nat))/\((Xh t !=qDF9)=true->l= []/\Xh t=e/\True)/\((Xh t !=qDF9)=false->∃(R:Bool×CpX->Prop),((∃(y:CpX),R (false,y)/\true=true/\(qDF5=qDF5/\(Tar.clauses t=Tar.clauses t/\(false=true->false=true))/\(qDF3 t)=(qDF3 t)/\qDF9=(qDF4 y)/\True)/\(Value.slice none qDF5 qDF5=Value.slice none qDF5 qDF5/\True)/\True)\/∃(y:CpX),R (true,y)/\true=true/\False)/\(∀(y:CpX),R (false,y)->(decide ((qDF4 y)<(qDF3 t))=true->qDF9<=(qDF4 y)/\(qDF4 y)+(1:Int)<=(qDF3 t)/\∀(x:Cls),(Tar.clauses t)[Int.toNat (qDF4 y)]? =some x->((Ex.sz (qDF1 x)+qDFa<=(1000000000:Nat)/\Zo (qDF1 x)=true/\qDF5+List.length (cdC (qDF8 x) (Int.toNat (qDF4 y)) qDF5)<=(1000000000:Nat)/\List.length (Cls.when_ x)<=(8:Nat))/\qDF9<=(qDF4 y))/\∀(l':List Ins),l'= []++cdC (qDF8 x) (Int.toNat (qDF4 y)) qDF5->(∃(y_1:CpX),R (false,y_1)/\y_1.2+qDFa<=y.2/\true=true/\(qDF2 t y y_1)/\(False/\True)/\True)\/∃(y_1:CpX),R (true,y_1)/\y_1.2+qDFa<=y.2/\true=true/\(qDF2 t y y_1)/\((qDF5=qDF5/\List.length l'=List.length (CpX.L y_1)/\True)/\True)/\(l'=CpX.L y_1/\fzO (none:Option (List Ins×Nat))=qDF5)/\True)/\(decide ((qDF4 y)<(qDF3 t))=false->qDF5+qDFa<=qDFa/\True/\(qDF7=true->l= []/\(2:Int)=e/\True)/\(qDF7=false->(qDF5+qDFa<=qDFa/\List.take qDFa [Ins.mk (16:Int) qDF9 qDF9]=l)/\qDF9=e/\True)))/\∀(y:CpX),R (true,y)->(decide ((qDF4 y)<(qDF3 t))=true->qDF9<=(qDF4 y)/\(qDF4 y)+(1:Int)<=(qDF3 t)/\∀(x:Cls),(Tar.clauses t)[Int.toNat (qDF4 y)]? =some x->(List.length (CpX.L y)=List.length (CpX.L y)/\qDF5<=List.length (CpX.L y)/\(Ex.sz (qDF1 x)+qDFa<=(1000000000:Nat)/\Zo (qDF1 x)=true/\List.length (CpX.L y)+List.length (cdC (qDF8 x) (Int.toNat (qDF4 y)) (List.length (CpX.L y)))<=(1000000000:Nat)/\List.length (Cls.when_ x)<=(8:Nat))/\qDF9<=(qDF4 y))/\∀(l':List Ins),l'=CpX.L y++cdC (qDF8 x) (Int.toNat (qDF4 y)) (List.length (CpX.L y))->(∃(y_1:CpX),R (false,y_1)/\y_1.2+qDFa<=y.2/\true=true/\(qDF2 t y y_1)/\(False/\True)/\True)\/∃(y_1:CpX),R (true,y_1)/\y_1.2+qDFa<=y.2/\true=true/\(qDF2 t y y_1)/\((qDF5=qDF5/\List.length l'=List.length (CpX.L y_1)/\True)/\True)/\(l'=CpX.L y_1/\fzO (some (CpX.L y,qDF5))=qDF5)/\True)/\(decide ((qDF4 y)<(qDF3 t))=false->(List.length (CpX.L y)<=List.length (CpX.L y)/\qDF5<=List.length (CpX.L y)/\(qDF6 y)*(24:Nat)<=(140737488355328:Nat))/\∀(l':List Ins),l'=List.take (List.length (CpX.L y)) (CpX.L y)++ [Ins.mk (16:Int) qDF9 qDF9]->qDF5+(qDF6 y)<=List.length l'/\True/\((Prod.snd (verF (List.take (qDF6 y) (List.drop qDF5 l'))) !=qDF9)=true->l= []/\(2:Int)=e/\True)/\((Prod.snd (verF (List.take (qDF6 y) (List.drop qDF5 l'))) !=qDF9)=false->(qDF5+(qDF6 y)<=List.length l'/\List.take (qDF6 y) l'=l)/\qDF9=e/\True)))):=by kernel_rfl
theorem Z1f:FnsOk E Fcp:=Zfw (Yn E_ok (Zh (Zh (Zh F0_ok Z1c) Zsy) Zwd) _ _ _)
theorem Zje (t:Tar) (h:SmK t):PureC E 6 [.agg (encF false .tariffs t)] (.tup [.psl Th.ins (Yh t).1 false,.int false .i64 (Yh t).2]):=by
 refine Zc E_ok (Zn E_ok Z1f 400) ?_
 rw [Zjd];delta qDF1 qDF4 qDF5 qDF3 qDF2 qDFa qDF6 qDF9 qDF7 qDF8
 obtain ⟨h1,h2⟩:=h
 simp only [Cls.eta,Ex.eta]
 refine ⟨⟨fun c hc=>⟨by have:=(h1 c hc).1;omega,by have:=(h1 c hc).2;omega⟩,by omega⟩,fun hn=> ?_,fun hz=> ?_⟩
 · have hn:Xh t≠0:=by simpa using hn
   unfold Yh
   rw [if_neg hn]
   exact ⟨rfl,rfl,trivial⟩
 · have hz:Xh t=0:=by simpa using hz
   obtain ⟨c1,c2,c3⟩:=Zek hz
   have hall:∀c∈t.clauses,Zo c.pay=true/\c.pay.sz<=10000/\c.when_.length<=8:=fun c hc=>⟨(c1 c hc).1,(h1 c hc).1,c3 c hc⟩
   have hlen:∀k,(cdCs (t.clauses.take k) 0 0).length<=30025*64:=fun k=>by
    have a:=Znr (k:=0) (o:=0) (fun c hc=>hall c (List.mem_of_mem_take hc):∀c∈t.clauses.take k,_)
    have b:(t.clauses.take k).length<=64:=by rw [List.length_take];omega
    have e:(3*10000+25)*(t.clauses.take k).length<=(3*10000+25)*64:=Nat.mul_le_mul_left _ b
    omega
   have hstep:∀k c,t.clauses[k]? =some c->cdCs (t.clauses.take (k+1)) 0 0=cdCs (t.clauses.take k) 0 0++cdC c k (cdCs (t.clauses.take k) 0 0).length:=fun k c hc=>by
    have ek:t.clauses.take (k+1)=t.clauses.take k++ [c]:=by rw [List.take_add_one,hc];rfl
    have hk:k<t.clauses.length:=(gA9.1 hc).1
    have el:0+(t.clauses.take k).length=k:=by rw [List.length_take];omega
    rw [ek,Znq,el,Nat.zero_add]
   have vr:=Znl c1 c2
   have f1:((verF (cdT t)).2 !=0)=true->(Yh t).1= []/\(2:Int)=(Yh t).2/\True:=by
    intro q
    rw [vr] at q
    unfold Yh
    rw [if_pos hz]
    by_cases g:4096<(cdT t).length\/64<dCs t.clauses
    · rw [if_pos g];exact ⟨rfl,rfl,trivial⟩
    · rw [if_neg g] at q;simp at q
   have f2:((verF (cdT t)).2 !=0)=false->cdT t=(Yh t).1/\(0:Int)=(Yh t).2:=by
    intro q
    rw [vr] at q
    unfold Yh
    rw [if_pos hz]
    by_cases g:4096<(cdT t).length\/64<dCs t.clauses
    · rw [if_pos g] at q;simp at q
    · rw [if_neg g];exact ⟨rfl,rfl⟩
   refine ⟨fun y=>y.2.k<=t.clauses.length/\y.2.L=cdCs (t.clauses.take y.2.k) 0 0/\y.2.r=t.clauses.length-y.2.k/\(y.1=false->y.2.k=0),.inl ⟨⟨0,t.clauses.length,[]⟩,⟨Nat.zero_le _,rfl,rfl,fun _=>rfl⟩,by simp⟩,?_,?_⟩
   · rintro ⟨k,r,L⟩ ⟨k1,k2,k3,k4⟩
     simp only at k1 k2 k3 k4⊢
     obtain rfl:=k4 trivial
     refine ⟨fun q=>⟨by omega,by have:=of_decide_eq_true q;omega,fun c hc=> ?_⟩,fun q=> ?_⟩
     · have q:=of_decide_eq_true q
       have hc:t.clauses[0]? =some c:=hc
       have hm:=hall c (List.mem_of_getElem? hc)
       have hs:=hstep 0 c hc
       have hl:=hlen (0+1)
       rw [hs] at hl
       have e0:cdCs (t.clauses.take 0) 0 0= []:=rfl
       rw [e0] at hs hl
       have hl:(cdC c 0 0).length<=30025*64:=by simpa using hl
       refine ⟨⟨⟨by omega,hm.1,?_,hm.2.2⟩,by omega⟩,fun l' el=> .inr ⟨⟨1,t.clauses.length-1,l'⟩,⟨by dsimp only;omega,by rw [el];exact hs.symm,rfl,fun e=>by cases e⟩,(by show t.clauses.length-1+1<=r;omega),?_⟩⟩
       · show 0+(cdC c 0 0).length<=1000000000
         omega
       · have w1:wr .i64 (1:Int)=1:=by decide
         simp [w1,fzO]
     · have q:=of_decide_eq_false q
       have n0:t.clauses= []:=List.length_eq_zero_iff.1 (by omega)
       have e:List.take 1 (List.drop 0 [Ins.mk (16:Int) 0 0])=cdT t:=by unfold cdT;rw [n0];rfl
       have e':List.take 1 [Ins.mk (16:Int) 0 0]=cdT t:=e
       rw [e,e']
       exact ⟨by omega,trivial,f1,fun q=>⟨⟨by omega,(f2 q).1⟩,(f2 q).2,trivial⟩⟩
   · rintro ⟨k,r,L⟩ ⟨k1,k2,k3,k4⟩
     simp only at k1 k2 k3 k4⊢
     have hlk:=hlen k
     rw [<-k2] at hlk
     refine ⟨fun q=>⟨by omega,by have:=of_decide_eq_true q;omega,fun c hc=> ?_⟩,fun q=> ?_⟩
     · have q:=of_decide_eq_true q
       have hc:t.clauses[k]? =some c:=hc
       have hm:=hall c (List.mem_of_getElem? hc)
       have hs:=hstep k c hc
       have hl:=hlen (k+1)
       rw [hs,<-k2,List.length_append] at hl
       rw [<-k2] at hs
       have tk:Int.toNat (↑k:Int)=k:=by omega
       rw [tk]
       refine ⟨⟨by simp,Nat.zero_le _,⟨by omega,hm.1,by omega,hm.2.2⟩,by omega⟩,fun l' el=> .inr ⟨⟨k+1,t.clauses.length-(k+1),l'⟩,⟨by dsimp only;omega,by rw [el];exact hs.symm,rfl,fun e=>by cases e⟩,(by show t.clauses.length-(k+1)+1<=r;omega),?_⟩⟩
       have w1:wr .i64 ((↑k:Int)+1)=↑(k+1):=(wr64 (by omega) (by omega)).trans (by omega)
       simp [w1,fzO]
     · have q:=of_decide_eq_false q
       obtain rfl:k=t.clauses.length:=by omega
       refine ⟨⟨Nat.le_refl _,Nat.zero_le _,by omega⟩,fun l' el=> ?_⟩
       rw [List.take_length] at el
       have e:l'=cdT t:=by rw [el,k2,List.take_length];rfl
       have nl:l'.length=L.length+1:=by rw [el];simp
       have e2:List.take (L.length+1) (List.drop 0 l')=cdT t:=by rw [List.drop_zero,<-nl,List.take_length,e]
       have e3:List.take (L.length+1) l'=cdT t:=e2
       rw [e2,e3]
       exact ⟨by omega,trivial,f1,fun q=>⟨⟨by omega,(f2 q).1⟩,(f2 q).2,trivial⟩⟩
end
section
open Go
def Z2x (m:Nat):Sum thy:=sumP Z1a (fun x=>x.1.sz<m/\1<=x.2.1/\x.2.1<=100000) fun x=> .int false .i64 (min (x.1.sz:Int) x.2.1)
def Z2y:Fr thy->Hp thy->Nat->Ann thy:=fun T h i=>{X:=DX,fr:=fun x=> [(1,T 1),(2,T 2),(5,.int false .i64 x.j),(6,.int false .i64 x.k)],bl:=fun x=>blkP h (T 2),src:=fun _=> [],md:= [],ih:=i,M:=i+30,meas:=fun x=>x.r}
def Z1q (m:Nat):Fns thy:=addL (addS F0 5 (Z2x m)) 5 3 Z2y E
abbrev qDG1 (a0:Ex):=(Ex.op a0=Ex.op a0/\Ex.n a0=Ex.n a0/\Ex.d0 a0=Ex.d0 a0/\Ex.d1 a0=Ex.d1 a0/\Ex.d2 a0=Ex.d2 a0/\Ex.d3 a0=Ex.d3 a0/\(Ex.l a0=Ex.l a0/\(false=true->false=true))/\True)
abbrev qDG2 (a0:Ex):=(Ex.mk (Ex.op a0) (Ex.n a0) (Ex.d0 a0) (Ex.d1 a0) (Ex.d2 a0) (Ex.d3 a0) (Ex.l a0))
abbrev qDG3 (a0:DX):=(↑(DX.k a0):Int)
theorem Ztp (m:Nat) (x:Ex) (lim:Int) (v:Int):Zw E F0 (vc E (Z1q m) 400) 5 [exA x,.int false .i64 lim] hp0 0 (fun r=>ret E (patch hp0 0 r) r.v (.int false .i64 v))=(
 ∃(R:DX->Prop),(∃(x_1:DX),R x_1/\true=true/\(lim=lim/\(0:Nat)=(0:Nat)/\(1:Int)=DX.j x_1/\(0:Int)=(qDG3 x_1)/\True)/\(qDG1 x)/\True)/\∀(x_1:DX),R x_1->∃(Q:Bool->Prop),((decide ((qDG3 x_1)<(↑(List.length (Ex.l x)):Int))=true->(decide (DX.j x_1<lim)=true->Q true)/\(decide (DX.j x_1<lim)=false->Q false))/\(decide ((qDG3 x_1)<(↑(List.length (Ex.l x)):Int))=false->Q false))/\(Q true->(0:Int)<=(qDG3 x_1)/\(qDG3 x_1)+(1:Int)<=(↑(List.length (Ex.l x)):Int)/\∀(x_2:Ex),(Ex.l x)[Int.toNat (qDG3 x_1)]? =some x_2->(Ex.sz (qDG2 x_2)+(1:Nat)<=m/\(1:Int)<=wr IntKind.i64 (lim-DX.j x_1)/\wr IntKind.i64 (lim-DX.j x_1)<=(100000:Int))/\∃(x_3:DX),R x_3/\x_3.2+(1:Nat)<=x_1.2/\true=true/\(lim=lim/\(0:Nat)=(0:Nat)/\wr IntKind.i64 (DX.j x_1+min (↑(Ex.sz (qDG2 x_2)):Int) (wr IntKind.i64 (lim-DX.j x_1)))=DX.j x_3/\wr IntKind.i64 ((qDG3 x_1)+(1:Int))=(qDG3 x_3)/\True)/\(qDG1 x)/\True)/\(Q false->DX.j x_1=v)):=by kernel_rfl
theorem Zwn:∀(m:Nat) (x:Ex) (lim:Int),x.sz<=m->1<=lim->lim<=100000->PureC E 5 [exA x,.int false .i64 lim] (.int false .i64 (min (x.sz:Int) lim)):=by
 intro m
 induction m with
 |zero=>intro x lim h;have:=x.sz_pos;omega
 |succ m ih=>
  intro x lim hm h1 h2
  have hF:FnsOk E (Z1q (m+1)):=Yn E_ok (Zh F0_ok (Zs E_ok (Zk (f:=5) rfl) fun x h=>ih x.1 x.2.1 (by have:=h.1;omega) h.2.1 h.2.2)) _ _ _
  refine Zc E_ok (Xs E_ok F0_ok fun f N c=>(Zf2 E_ok hF 400 f N c).1) ?_
  rw [Ztp];delta qDG1 qDG2 qDG3
  simp only [Z4,Zt,Xx,Xy,Xz,beq_iff_eq,bne_iff_ne,beq_eq_false_iff_ne,bne_eq_false_iff_eq,decide_eq_true_eq,decide_eq_false_iff_not,Bool.or_eq_true,Bool.or_eq_false_iff,Bool.not_eq_true',Bool.not_eq_false',Bool.and_eq_true,Bool.and_true,Bool.true_and,Bool.and_eq_false_iff,beq_self_eq_true,Z0,Yc,ne_eq,and_true,true_and,Bool.true_eq_false,Bool.false_eq_true,false_or,or_false,true_implies,imp_self,Int.ofNat_eq_natCast,not_true_eq_false,not_false_eq_true,Decidable.not_not,Ex.eta]
  have hsz:=x.sz_eq
  have hlen:=Ex.szL_len x.l
  refine ⟨fun y=>y.k<=x.l.length/\(y.k:Int)+1<=y.j/\y.j<=lim/\min (y.j+(Ex.szL (x.l.drop y.k):Int)) lim=min (x.sz:Int) lim/\y.r=x.l.length-y.k,⟨⟨0,x.l.length,[],[],0,0,0,1⟩,⟨(by dsimp only;omega),(by dsimp only;omega),h1,by dsimp only;rw [List.drop_zero];omega,rfl⟩,rfl,rfl⟩,?_⟩
  rintro y ⟨hk,hj1,hj2,hv,hr⟩
  refine ⟨fun b=>b=true↔(y.k<x.l.length/\y.j<lim),⟨fun h3=>⟨fun h4=>by simp;omega,fun h4=>by simp;omega⟩,fun h3=>by simp;omega⟩,fun hq=> ?_,fun hq=> ?_⟩
  · have hq:=hq.1 rfl
    refine ⟨by omega,by omega,fun z hz=> ?_⟩
    have hz:x.l[y.k]? =some z:=hz
    have hzs:=Ex.sz_mem (List.mem_of_getElem? hz)
    rw [Za9 hz,Ex.szL] at hv
    have hzp:=z.sz_pos
    rw [wr64 (n:=lim-y.j) (by omega) (by omega),wr64 (n:=(y.k:Int)+1) (by omega) (by omega),wr64 (n:=y.j+min (z.sz:Int) (lim-y.j)) (by omega) (by omega)]
    exact ⟨⟨by omega,by omega,by omega⟩,⟨y.k+1,x.l.length-(y.k+1),[],[],0,0,0,y.j+min (z.sz:Int) (lim-y.j)⟩,⟨(by dsimp only;omega),(by dsimp only;omega),(by dsimp only;omega),(by dsimp only;omega),rfl⟩,by show x.l.length-(y.k+1)+1<=y.r;omega,rfl,rfl⟩
  · have hq:¬(y.k<x.l.length/\y.j<lim):=fun h=>by have:=hq.2 h;simp at this
    by_cases h3:y.j<lim
    · rw [Vc (by omega)] at hv
      simp only [Ex.szL] at hv
      omega
    · have:=Int.le_antisymm hj2 (by omega)
      omega
def SszT:Sum thy:=sumP Z1a (fun x=>1<=x.2.1/\x.2.1<=100000) fun x=> .int false .i64 (min (x.1.sz:Int) x.2.1)
theorem Zzz:SumOk E 5 SszT:=Zs E_ok (Zk (f:=5) rfl) fun x h=>Zwn _ x.1 x.2.1 (Nat.le_refl _) h.1 h.2
end
section
open Go
def dTEm:DcL E (Tar×Env×Unit):= .cons (dR .tariffs) (.cons dEnv .nil)
def Z06:Sum thy:=Zov E (fun _=>none) 10 dTEm (fun x=>Zwo x.1) (fun x=>amtF x.1 (evE x.2.1)) amtV
theorem Zv4:SumOk E 9 Z06:=Zco E_ok (Zk rfl) fun x h=>by
 obtain ⟨t,v,_⟩:=x
 exact Zl0 t (evE v) rfl h
def Z07:Sum thy:=Zov E (fun _=>none) 10 (.cons (dR .tariffs) .nil:DcL E (Tar×Unit)) (fun x=>SmK x.1) (fun x=>Yh x.1) fun y=> .tup [.psl Th.ins y.1 false,.int false .i64 y.2]
def Z2k:Sum thy:=Zov E (fun _=>none) 10 (dL3 Zug dEnv dI) (fun _=>True) (fun x=>runF x.1 x.2.1 x.2.2.1) fun y=> .tup [stV y.1,.int false .i64 y.2]
def Z2l:Sum thy:=Zov E (fun _=>none) 10 (dL1 dSt) (fun x=>x.1.stack.length<=1000000) (fun x=>Ww x.1) fun y=> .tup [.int false .i64 y.1,.int false .i64 y.2.1,.int false .i64 y.2.2]
def AmqM:Fr thy->Hp thy->Nat->Ann thy:=fun T h i=>{X:=LX,fr:=fun x=> [(2,T 2),(3,T 3),(5,.int false .i64 x.k)],bl:=fun x=>blkP h (T 2)++blkP h (T 3),src:=fun _=> [],md:= [],ih:=i,M:=i+40,meas:=fun x=>x.r}
def Fmq:Fns thy:=Zlt (addL (addS (addS (addS (addS (addS (addS F0 4 (sumP (DcL.nil:DcL E Unit) (fun _=>True) fun _=> .bool false true)) 5 SszT) 6 Z07) 7 Z2k) 8 Z2l) 9 Z06) 3 6 AmqM E)
theorem Z08:FnsOk E Fmq:=Zfw (Yn E_ok (Zh (Zh (Zh (Zh (Zh (Zh F0_ok (Zs E_ok (Zk rfl) fun x _=>Zt3)) Zzz) (Zco E_ok (Zk rfl) fun x h=>Zje x.1 h)) (Zco E_ok (Zk rfl) fun x _=>run_pure x.1 x.2.1 x.2.2.1)) (Zco E_ok (Zk rfl) fun x h=>Zkc x.1 h)) Zv4) _ _ _)
abbrev qDH1 (a0:Env):=(Env.has a0=Env.has a0/\Env.v0 a0=Env.v0 a0/\Env.v1 a0=Env.v1 a0/\Env.v2 a0=Env.v2 a0/\Env.v3 a0=Env.v3 a0/\Env.v4 a0=Env.v4 a0/\Env.v5 a0=Env.v5 a0/\Env.v6 a0=Env.v6 a0/\Env.v7 a0=Env.v7 a0/\Env.v8 a0=Env.v8 a0/\Env.v9 a0=Env.v9 a0/\Env.v10 a0=Env.v10 a0/\Env.v11 a0=Env.v11 a0/\Env.v12 a0=Env.v12 a0/\Env.v13 a0=Env.v13 a0/\Env.v14 a0=Env.v14 a0/\Env.v15 a0=Env.v15 a0/\True)
abbrev qDH2 (a0:Cls):=(min (↑(Ex.sz (Ex.mk (Ex.op (Cls.pay a0)) (Ex.n (Cls.pay a0)) (Ex.d0 (Cls.pay a0)) (Ex.d1 (Cls.pay a0)) (Ex.d2 (Cls.pay a0)) (Ex.d3 (Cls.pay a0)) (Ex.l (Cls.pay a0)))):Int) (200:Int)>=(200:Int))
abbrev qDH3 (a0:Tar):=(↑(List.length (Tar.clauses a0)):Int)
abbrev qDH4 (a0:Tar):=(Tar.name a0=Tar.name a0/\Tar.for_ a0=Tar.for_ a0/\(Tar.clauses a0=Tar.clauses a0/\(false=true->false=true))/\True)
abbrev qDH5 (a0:LX):=(↑(LX.k a0):Int)
abbrev qDH6:=(-9223372036854775808:Int)
abbrev qDH7:=(9223372036854775807:Int)
theorem Zv5 (t:Tar) (v:Env) (b:Bool):Zw E Fmq (vc E Fmq 400) 3 [.agg (encF false .tariffs t),envV v] hp0 0 (fun r=>ret E (patch hp0 0 r) r.v (.bool false b))=(
 True/\((!true)=true->false=b)/\((!true)=false->(decide ((qDH3 t)>(20:Int))=true->true=b)/\(decide ((qDH3 t)>(20:Int))=false->∃(R:LX->Prop),(∃(x:LX),R x/\true=true/\((0:Nat)=(0:Nat)/\(0:Nat)=(0:Nat)/\(0:Int)=(qDH5 x)/\True)/\(qDH4 t)/\(qDH1 v)/\True)/\∀(x:LX),R x->(decide ((qDH5 x)<(qDH3 t))=true->(0:Int)<=(qDH5 x)/\(qDH5 x)+(1:Int)<=(qDH3 t)/\∀(x_1:Cls),(Tar.clauses t)[Int.toNat (qDH5 x)]? =some x_1->((1:Int)<=(200:Int)/\(200:Int)<=(100000:Int))/\(decide (qDH2 x_1)=true->true=b)/\(decide (qDH2 x_1)=false->(0:Int)<=(qDH5 x)/\(qDH5 x)+(1:Int)<=(qDH3 t)/\∀(x_2:Cls),(Tar.clauses t)[Int.toNat (qDH5 x)]? =some x_2->(decide ((↑(List.length (Cls.when_ x_2)):Int)>(8:Int))=true->true=b)/\(decide ((↑(List.length (Cls.when_ x_2)):Int)>(8:Int))=false->∃(x_3:LX),R x_3/\x_3.2+(1:Nat)<=x.2/\true=true/\((0:Nat)=(0:Nat)/\(0:Nat)=(0:Nat)/\wr IntKind.i64 ((qDH5 x)+(1:Int))=(qDH5 x_3)/\True)/\(qDH4 t)/\(qDH1 v)/\True)))/\(decide ((qDH5 x)<(qDH3 t))=false->((∀(c:Cls),c∈Tar.clauses t->Ex.sz (Cls.pay c)<=(10000:Nat)/\List.length (Cls.when_ c)+(1:Nat)<=(1000000000:Nat))/\List.length (Tar.clauses t)+(1:Nat)<=(1000000000:Nat))/\∀(y:List Ins×Int),y=Yh t->∃(Q:Bool->Prop),(((Prod.snd y !=(0:Int))=true->Q true)/\((Prod.snd y !=(0:Int))=false->(decide ((↑(List.length (Prod.fst y)):Int)>(32768:Int))=true->Q true)/\(decide ((↑(List.length (Prod.fst y)):Int)>(32768:Int))=false->Q false)))/\(Q true->((Prod.snd y !=(0:Int))=true->true=b)/\((Prod.snd y !=(0:Int))=false->false=b))/\(Q false->True/\∀(y_1:St×Int),y_1=runF (Prod.fst y) v (↑(List.length (Prod.fst y)):Int)->List.length (St.stack (Prod.fst y_1))<=(1000000:Nat)/\∀(y:Int×Int×Int),y=Ww (Prod.fst y_1)->(∀(c:Cls),c∈Tar.clauses t->∀(w:Tst),w∈Cls.when_ c->(qDH6<=Tst.attr w/\Tst.attr w<=qDH7)/\(qDH6<=Tst.low w/\Tst.low w<=qDH7)/\qDH6<=Tst.high w/\Tst.high w<=qDH7)/\∀(y_2:Int×Int×Int),y_2=amtF t (evE v)->((Prod.snd y_1==(0:Int))=true->((Prod.fst y==Prod.fst y_2)=true->((Prod.fst (Prod.snd y)==Prod.fst (Prod.snd y_2))=true->((Prod.snd (Prod.snd y)==Prod.snd (Prod.snd y_2))=true->true=b)/\((Prod.snd (Prod.snd y)==Prod.snd (Prod.snd y_2))=false->false=b))/\((Prod.fst (Prod.snd y)==Prod.fst (Prod.snd y_2))=false->false=b))/\((Prod.fst y==Prod.fst y_2)=false->false=b))/\((Prod.snd y_1==(0:Int))=false->false=b)))))):=by kernel_rfl
theorem Zzi {t:Tar} (h:Xh t=0):Zwo t:=by
 obtain ⟨c1,_,_⟩:=Zek h
 intro c hc w hw
 have:=(c1 c hc).2 w hw
 unfold Ya at this
 have:=of_decide_eq_true this
 unfold Tst.In I64r
 omega
theorem pC_M (t:Tar):((Yh t).2≠0/\(Yh t).1= [])\/(Xh t=0/\¬(4096<(cdT t).length\/64<dCs t.clauses)/\Yh t=(cdT t,0)):=by
 unfold Yh
 by_cases h:Xh t=0
 · rw [if_pos h]
   by_cases g:4096<(cdT t).length\/64<dCs t.clauses
   · rw [if_pos g];exact .inl ⟨by decide,rfl⟩
   · rw [if_neg g];exact .inr ⟨h,g,rfl⟩
 · rw [if_neg h];exact .inl ⟨h,rfl⟩
theorem Zjb (t:Tar) (v:Env):PureC E 3 [.agg (encF false .tariffs t),envV v] (.bool false true):=by
 refine Zc E_ok (Zn E_ok Z08 400) ?_
 rw [Zv5];delta qDH1 qDH2 qDH3 qDH4 qDH5 qDH6 qDH7
 refine ⟨trivial,fun h=>(by cases h),fun _=>⟨fun _=>rfl,fun hn=> ?_⟩⟩
 have hn:=of_decide_eq_false hn
 refine ⟨fun x=>x.k+x.r=t.clauses.length/\∀c∈t.clauses.take x.k,c.pay.sz<200/\c.when_.length<=8,⟨⟨0,t.clauses.length,[],0⟩,⟨Nat.zero_add _,fun c hc=>by simp at hc⟩,by simp⟩,fun x hx=>⟨fun hk=> ?_,fun hk=> ?_⟩⟩
 · obtain ⟨k,r,D,m⟩:=x
   obtain ⟨x1,x2⟩:=hx
   have x1:k+r=t.clauses.length:=x1
   have hk:(k:Int)<(t.clauses.length:Int):=of_decide_eq_true hk
   refine ⟨by omega,(by show (k:Int)+1<=_;omega),fun c hc=>⟨⟨by decide,by decide⟩,fun _=>rfl,fun h1=>⟨by omega,(by show (k:Int)+1<=_;omega),fun d hd=>⟨fun _=>rfl,fun h2=> ?_⟩⟩⟩⟩
   have hc:t.clauses[k]? =some c:=hc
   have hd:t.clauses[k]? =some d:=hd
   rw [hc] at hd
   cases hd
   have h1:=of_decide_eq_false h1
   rw [Ex.eta] at h1
   have h2:=of_decide_eq_false h2
   have w1:wr .i64 ((↑k:Int)+1)=↑(k+1):=(wr64 (by omega) (by omega)).trans (by omega)
   refine ⟨⟨k+1,r-1,[],0⟩,⟨(by show k+1+(r-1)=_;omega),fun d hd=> ?_⟩,(by show r-1+1<=r;omega),by simp [w1]⟩
   have ek:t.clauses.take (k+1)=t.clauses.take k++ [c]:=by rw [List.take_add_one,hc];rfl
   have hd:d∈t.clauses.take (k+1):=hd
   rw [ek,List.mem_append,List.mem_singleton] at hd
   rcases hd with hd|rfl
   · exact x2 d hd
   · exact ⟨by omega,by omega⟩
 · obtain ⟨k,r,D,m⟩:=x
   obtain ⟨x1,x2⟩:=hx
   have x1:k+r=t.clauses.length:=x1
   have hk:¬(k:Int)<(t.clauses.length:Int):=of_decide_eq_false hk
   obtain rfl:k=t.clauses.length:=by omega
   have x2:∀c∈t.clauses.take t.clauses.length,c.pay.sz<200/\c.when_.length<=8:=x2
   rw [List.take_length] at x2
   refine ⟨⟨fun c hc=>⟨by have:=(x2 c hc).1;omega,by have:=(x2 c hc).2;omega⟩,by omega⟩,fun y hy=> ?_⟩
   rcases pC_M t with ⟨p1,p2⟩|⟨p1,p2,p3⟩
   · rw [<-hy] at p1 p2
     refine ⟨fun q=>q=true,⟨fun _=>rfl,fun a=>absurd (by simpa using a) p1⟩,fun _=>⟨fun _=>rfl,fun a=>absurd (by simpa using a) p1⟩,fun q=>(by cases q)⟩
   · have hy:y=(cdT t,0):=by rw [hy,p3]
     subst hy
     obtain ⟨c1,c2,c3⟩:=Zek p1
     have hlen:(cdT t).length<=4096:=by omega
     refine ⟨fun q=>q=false,⟨fun a=>by simp at a,fun _=>⟨fun a=> ?_,fun _=>rfl⟩⟩,fun q=>(by cases q),fun _=>⟨trivial,fun y1 h1=> ?_⟩⟩
     · have a:((cdT t).length:Int)>32768:=of_decide_eq_true a
       omega
     · have h1:y1=runF (cdT t) v (cdT t).length:=h1
       obtain ⟨r1,r2⟩:=Z2s p1 p2 v
       refine ⟨by rw [h1];have:=Zy9 (c:=cdT t) (v:=v) (k:=(cdT t).length);omega,fun z hz=>⟨Zzi p1,fun a ha=> ?_⟩⟩
       rw [h1] at hz
       rw [r2] at hz
       rw [h1,r1,hz,ha]
       exact ⟨fun _=>⟨fun _=>⟨fun _=>⟨fun _=>rfl,fun h=>by simp at h⟩,fun h=>by simp at h⟩,fun h=>by simp at h⟩,fun h=>by cases h⟩
end
end Go.Proofs.YtpepmaehafjfbaaDoor
end
