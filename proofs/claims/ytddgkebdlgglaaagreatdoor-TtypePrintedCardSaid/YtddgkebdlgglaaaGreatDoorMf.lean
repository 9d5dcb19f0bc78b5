/- Merged texts: TpR, TpPd, TpPe, TpPf, TpPg, TpS, TpJ, TpT, TtZ. -/
import Derived.Test.YtddgkebdlgglaaaGreatDoorMe
namespace Go.Proofs.YtddgkebdlgglaaaGreatDoor
set_option linter.unusedVariables false
set_option linter.unusedSimpArgs false
set_option linter.unnecessarySimpa false
set_option maxRecDepth 100000
section
open Go
abbrev qCNe:=(1000000000:Nat)
abbrev qCNb:=(1:Int)
abbrev qCN8:=(1:Nat)
abbrev qCN5 (a0:List (List Nat)):=(List.length a0)
abbrev qCNl (a0:List (List Nat)):=(List.take (qCN5 a0) a0++ [[(45:Nat)]])
abbrev qCNc:=(0:Int)
abbrev qCNm (a0:List (List Nat)):=(List.take (qCN5 a0) a0++ [[(42:Nat)]])
abbrev qCNg (a0:Ex):=(Ex.op a0-(3:Int))
abbrev qCN2 (a0:Ex):=(Ex.mk (Ex.op a0) (Ex.n a0) (Ex.d0 a0) (Ex.d1 a0) (Ex.d2 a0) (Ex.d3 a0) (Ex.l a0))
abbrev qCNa:=(140737488355328:Nat)
abbrev qCNi (a0:List (List Nat)):=(List.length a0+qCN8)
abbrev qCNq:=(16:Nat)
abbrev qCNf (a0:List (List Nat)) (b0:List (List Nat)) (c0:Nat):=(List.length a0<=List.length a0/\fzO (some (b0,c0))<=List.length a0/\(qCNi a0)*qCNq<=qCNa)
abbrev qCN9 (a0:Ex):=(↑(List.length (Ex.l a0)):Int)
abbrev qCNj:=(8:Nat)
abbrev qCN1 (a0:Ex) (b0:List (List Nat)) (c0:List (List Nat)) (d0:Nat) (e0:Nat) (f0:List (List Nat)):=((wr IntKind.i64 (qCNg a0)==(↑(0:Nat):Int))=false->((wr IntKind.i64 (qCNg a0)==(↑((0:Nat)+qCN8):Int))=true->(qCNf b0 c0 d0)/\qCNc<=qCNb/\qCNb+qCNb<=(qCN9 a0)/\∀(x_2:Ex),(Ex.l a0)[Int.toNat qCNb]? =some x_2->True/\∀(y:Int),y=tightF (Ex.op a0)->(List.length b0+qCN8=List.length (qCNl b0)/\fzO (some (c0,d0))<=List.length (qCNl b0)/\Ex.sz (qCN2 x_2)+qCN8<=e0/\Zz (qCN2 x_2)=true/\qCN8<=List.length (qCNl b0)/\List.length (qCNl b0)+qCNj*Ex.sz (qCN2 x_2)+(10:Nat)<=qCNe)/\∀(l'_2:List (List Nat)),l'_2=List.take (qCN5 b0) b0++ [[(45:Nat)]]++par (Ex.op (qCN2 x_2)) (wr IntKind.i64 (y+qCNb)) (txX (qCN2 x_2))->l'_2=f0/\List.length l'_2=List.length f0/\fzO (some (List.take (qCN5 b0) b0++ [[(45:Nat)]],fzO (some (c0,d0))))=fzO (some (c0,d0)))/\((wr IntKind.i64 (qCNg a0)==(↑((0:Nat)+qCN8):Int))=false->((wr IntKind.i64 (qCNg a0)==(↑((0:Nat)+qCN8+qCN8):Int))=true->(qCNf b0 c0 d0)/\qCNc<=qCNb/\qCNb+qCNb<=(qCN9 a0)/\∀(x_2:Ex),(Ex.l a0)[Int.toNat qCNb]? =some x_2->True/\∀(y:Int),y=tightF (Ex.op a0)->(List.length b0+qCN8=List.length (qCNm b0)/\fzO (some (c0,d0))<=List.length (qCNm b0)/\Ex.sz (qCN2 x_2)+qCN8<=e0/\Zz (qCN2 x_2)=true/\qCN8<=List.length (qCNm b0)/\List.length (qCNm b0)+qCNj*Ex.sz (qCN2 x_2)+(10:Nat)<=qCNe)/\∀(l'_2:List (List Nat)),l'_2=List.take (qCN5 b0) b0++ [[(42:Nat)]]++par (Ex.op (qCN2 x_2)) (wr IntKind.i64 (y+qCNb)) (txX (qCN2 x_2))->l'_2=f0/\List.length l'_2=List.length f0/\fzO (some (List.take (qCN5 b0) b0++ [[(42:Nat)]],fzO (some (c0,d0))))=fzO (some (c0,d0)))/\((wr IntKind.i64 (qCNg a0)==(↑((0:Nat)+qCN8+qCN8):Int))=false->True)))
abbrev qCNn (a0:List (List Nat)):=(List.take (qCN5 a0) a0++ [[(43:Nat)]])
abbrev qCN3 (a0:Ex) (b0:List (List Nat)) (c0:List (List Nat)) (d0:Nat) (e0:Nat) (f0:List (List Nat)):=((wr IntKind.i64 (qCNg a0)==(↑(0:Nat):Int))=true->(qCNf b0 c0 d0)/\qCNc<=qCNb/\qCNb+qCNb<=(qCN9 a0)/\∀(x_2:Ex),(Ex.l a0)[Int.toNat qCNb]? =some x_2->True/\∀(y:Int),y=tightF (Ex.op a0)->(List.length b0+qCN8=List.length (qCNn b0)/\fzO (some (c0,d0))<=List.length (qCNn b0)/\Ex.sz (qCN2 x_2)+qCN8<=e0/\Zz (qCN2 x_2)=true/\qCN8<=List.length (qCNn b0)/\List.length (qCNn b0)+qCNj*Ex.sz (qCN2 x_2)+(10:Nat)<=qCNe)/\∀(l'_2:List (List Nat)),l'_2=List.take (qCN5 b0) b0++ [[(43:Nat)]]++par (Ex.op (qCN2 x_2)) (wr IntKind.i64 (y+qCNb)) (txX (qCN2 x_2))->l'_2=f0/\List.length l'_2=List.length f0/\fzO (some (List.take (qCN5 b0) b0++ [[(43:Nat)]],fzO (some (c0,d0))))=fzO (some (c0,d0)))
abbrev qCNo:=(40:Nat)
abbrev qCNh (a0:List (List Nat)) (b0:Nat):=(some (List.take (qCN5 a0) a0++ [[(105:Nat),(102:Nat)],[qCNo]],b0))
abbrev qCN4 (a0:List (List Nat)) (b0:List (List Nat)) (c0:Nat):=(some (List.take (qCN5 a0) a0++ [[(60:Nat)]],fzO (qCNh b0 c0)))
abbrev qCNp:=(44:Nat)
abbrev qCN6 (a0:List (List Nat)):=(List.take (qCN5 a0) a0++ [[qCNp]])
abbrev qCN7 (a0:List (List Nat)) (b0:Nat) (c0:Ex) (d0:Nat):=(List.length a0=List.length a0/\b0<=List.length a0/\Ex.sz (qCN2 c0)+qCN8<=d0/\Zz (qCN2 c0)=true/\qCN8<=List.length a0/\List.length a0+qCNj*Ex.sz (qCN2 c0)+(10:Nat)<=qCNe)
abbrev qCNd (a0:List (List Nat)):=(List.take (qCN5 a0) a0++ [[(105:Nat),(102:Nat)],[qCNo]])
abbrev qCNk (a0:List (List Nat)):=(List.take (qCN5 a0) a0++ [[(60:Nat)]])
abbrev qCNr (a0:List (List Nat)) (b0:List (List Nat)) (c0:List (List Nat)) (d0:Nat):=(some (List.take (qCN5 a0) a0++ [[qCNp]],fzO (qCN4 b0 c0 d0)))
theorem Zso (m:Nat) (l:List (List Nat)) (fz:Nat) (x:Ex) (l':List (List Nat)):Zg E Fpu (vc E (Fxp' m) 400) 58 [.ptr 0 0,exA x] (hpP E Th.strs (some (l,fz))) 2 (prnK E Th.strs (some (l,fz)) l')=(
 ((Ex.op x==qCNb)=true->(qCNc<=Ex.n x/\Ex.n x+qCNb<=(10000000000000:Int))/\∀(y:List Nat),y=decN (Ex.n x)->(List.length l<=List.length l/\fz<=List.length l/\(qCNi l)*qCNq<=qCNa)/\(List.length l+qCN8=List.length (List.take (qCN5 l) l++ [y])/\fz<=List.length (List.take (qCN5 l) l++ [y])/\qCN8<=List.length (List.take (qCN5 l) l++ [y])/\List.length (List.take (qCN5 l) l++ [y])+qCNj<=qCNe)/\∀(l'_1:List (List Nat)),l'_1=List.take (qCN5 l) l++ [y]++txU [Ex.d0 x,Ex.d1 x,Ex.d2 x,Ex.d3 x]->l'_1=l'/\List.length l'_1=List.length l'/\fzO (some (List.take (qCN5 l) l++ [y],fz))=fzO (some (l,fz)))/\((Ex.op x==qCNb)=false->((Ex.op x==(2:Int))=true->qCNc<=Ex.n x/\Ex.n x+qCNb<=(↑(List.length (WK.words WK.at_)):Int)/\∀(x_1:List Nat),(WK.words WK.at_)[Int.toNat (Ex.n x)]? =some x_1->(List.length l<=List.length l/\fz<=List.length l/\(qCNi l)*qCNq<=qCNa)/\List.take (qCN5 l) l++ [x_1]=l'/\List.length l+qCN8=List.length l'/\fz=fzO (some (l,fz)))/\((Ex.op x==(2:Int))=false->((Ex.op x==(11:Int))=true->(List.length l<=List.length l/\fz<=List.length l/\(List.length l+(2:Nat))*qCNq<=qCNa)/\qCNc<=qCNc/\qCNc+qCNb<=(qCN9 x)/\∀(x_1:Ex),(Ex.l x)[Int.toNat qCNc]? =some x_1->(List.length l+(2:Nat)=List.length (qCNd l)/\fz<=List.length (qCNd l)/\Ex.sz (qCN2 x_1)+qCN8<=m/\Zz (qCN2 x_1)=true/\qCN8<=List.length (qCNd l)/\List.length (qCNd l)+qCNj*Ex.sz (qCN2 x_1)+qCNj<=qCNe)/\∀(l'_1:List (List Nat)),l'_1=List.take (qCN5 l) l++ [[(105:Nat),(102:Nat)],[qCNo]]++txX (qCN2 x_1)->(List.length l'_1<=List.length l'_1/\fzO (qCNh l fz)<=List.length l'_1/\(qCNi l'_1)*qCNq<=qCNa)/\qCNc<=qCNb/\qCNb+qCNb<=(qCN9 x)/\∀(x_2:Ex),(Ex.l x)[Int.toNat qCNb]? =some x_2->(List.length l'_1+qCN8=List.length (qCNk l'_1)/\fzO (qCNh l fz)<=List.length (qCNk l'_1)/\Ex.sz (qCN2 x_2)+qCN8<=m/\Zz (qCN2 x_2)=true/\qCN8<=List.length (qCNk l'_1)/\List.length (qCNk l'_1)+qCNj*Ex.sz (qCN2 x_2)+qCNj<=qCNe)/\∀(l'_2:List (List Nat)),l'_2=List.take (qCN5 l'_1) l'_1++ [[(60:Nat)]]++txX (qCN2 x_2)->(List.length l'_2<=List.length l'_2/\fzO (qCN4 l'_1 l fz)<=List.length l'_2/\(qCNi l'_2)*qCNq<=qCNa)/\qCNc<=(2:Int)/\(2:Int)+qCNb<=(qCN9 x)/\∀(x_3:Ex),(Ex.l x)[Int.toNat (2:Int)]? =some x_3->(List.length l'_2+qCN8=List.length (qCN6 l'_2)/\fzO (qCN4 l'_1 l fz)<=List.length (qCN6 l'_2)/\Ex.sz (qCN2 x_3)+qCN8<=m/\Zz (qCN2 x_3)=true/\qCN8<=List.length (qCN6 l'_2)/\List.length (qCN6 l'_2)+qCNj*Ex.sz (qCN2 x_3)+qCNj<=qCNe)/\∀(l'_3:List (List Nat)),l'_3=List.take (qCN5 l'_2) l'_2++ [[qCNp]]++txX (qCN2 x_3)->(List.length l'_3<=List.length l'_3/\fzO (qCNr l'_2 l'_1 l fz)<=List.length l'_3/\(qCNi l'_3)*qCNq<=qCNa)/\qCNc<=(3:Int)/\(3:Int)+qCNb<=(qCN9 x)/\∀(x_4:Ex),(Ex.l x)[Int.toNat (3:Int)]? =some x_4->(List.length l'_3+qCN8=List.length (qCN6 l'_3)/\fzO (qCNr l'_2 l'_1 l fz)<=List.length (qCN6 l'_3)/\Ex.sz (qCN2 x_4)+qCN8<=m/\Zz (qCN2 x_4)=true/\qCN8<=List.length (qCN6 l'_3)/\List.length (qCN6 l'_3)+qCNj*Ex.sz (qCN2 x_4)+qCNj<=qCNe)/\∀(l'_4:List (List Nat)),l'_4=List.take (qCN5 l'_3) l'_3++ [[qCNp]]++txX (qCN2 x_4)->(List.length l'_4<=List.length l'_4/\fzO (some (List.take (qCN5 l'_3) l'_3++ [[qCNp]],fzO (qCNr l'_2 l'_1 l fz)))<=List.length l'_4/\(qCNi l'_4)*qCNq<=qCNa)/\List.take (qCN5 l'_4) l'_4++ [[(41:Nat)]]=l'/\List.length l'_4+qCN8=List.length l'/\fzO (some (List.take (qCN5 l'_3) l'_3++ [[qCNp]],fzO (qCNr l'_2 l'_1 l fz)))=fzO (some (l,fz)))/\((Ex.op x==(11:Int))=false->((Ex.op x==(3:Int))=true->qCNc<=qCNc/\qCNc+qCNb<=(qCN9 x)/\∀(x_1:Ex),(Ex.l x)[Int.toNat qCNc]? =some x_1->True/\∀(y:Int),y=tightF (Ex.op x)->(qCN7 l fz x_1 m)/\∀(l'_1:List (List Nat)),l'_1=l++par (Ex.op (qCN2
x_1)) y (txX (qCN2 x_1))->qCNc<=wr IntKind.i64 (qCNg x)/\wr IntKind.i64 (qCNg x)+qCNb<=(↑(3:Nat):Int)/\(qCN3 x l'_1 l fz m l')/\(qCN1 x l'_1 l fz m l'))/\((Ex.op x==(3:Int))=false->((Ex.op x==(4:Int))=true->qCNc<=qCNc/\qCNc+qCNb<=(qCN9 x)/\∀(x_1:Ex),(Ex.l x)[Int.toNat qCNc]? =some x_1->True/\∀(y:Int),y=tightF (Ex.op x)->(qCN7 l fz x_1 m)/\∀(l'_1:List (List Nat)),l'_1=l++par (Ex.op (qCN2 x_1)) y (txX (qCN2 x_1))->qCNc<=wr IntKind.i64 (qCNg x)/\wr IntKind.i64 (qCNg x)+qCNb<=(↑(3:Nat):Int)/\(qCN3 x l'_1 l fz m l')/\(qCN1 x l'_1 l fz m l'))/\((Ex.op x==(4:Int))=false->((Ex.op x==(5:Int))=true->qCNc<=qCNc/\qCNc+qCNb<=(qCN9 x)/\∀(x_1:Ex),(Ex.l x)[Int.toNat qCNc]? =some x_1->True/\∀(y:Int),y=tightF (Ex.op x)->(qCN7 l fz x_1 m)/\∀(l'_1:List (List Nat)),l'_1=l++par (Ex.op (qCN2 x_1)) y (txX (qCN2 x_1))->qCNc<=wr IntKind.i64 (qCNg x)/\wr IntKind.i64 (qCNg x)+qCNb<=(↑(3:Nat):Int)/\(qCN3 x l'_1 l fz m l')/\(qCN1 x l'_1 l fz m l'))/\((Ex.op x==(5:Int))=false->qCNc<=wr IntKind.i64 (Ex.op x-(6:Int))/\wr IntKind.i64 (Ex.op x-(6:Int))+qCNb<=(↑(List.length (WK.words WK.ca)):Int)/\∀(x_1:List Nat),(WK.words WK.ca)[Int.toNat (wr IntKind.i64 (Ex.op x-(6:Int)))]? =some x_1->(List.length l<=List.length l/\fz<=List.length l/\(List.length l+(2:Nat))*qCNq<=qCNa)/\qCNc<=qCNc/\qCNc+qCNb<=(qCN9 x)/\∀(x_2:Ex),(Ex.l x)[Int.toNat qCNc]? =some x_2->(List.length l+(2:Nat)=List.length (List.take (qCN5 l) l++ [x_1,[qCNo]])/\fz<=List.length (List.take (qCN5 l) l++ [x_1,[qCNo]])/\Ex.sz (qCN2 x_2)+qCN8<=m/\Zz (qCN2 x_2)=true/\qCN8<=List.length (List.take (qCN5 l) l++ [x_1,[qCNo]])/\List.length (List.take (qCN5 l) l++ [x_1,[qCNo]])+qCNj*Ex.sz (qCN2 x_2)+qCNj<=qCNe)/\∀(l'_1:List (List Nat)),l'_1=List.take (qCN5 l) l++ [x_1,[qCNo]]++txX (qCN2 x_2)->(List.length l'_1<=List.length l'_1/\fzO (some (List.take (qCN5 l) l++ [x_1,[qCNo]],fz))<=List.length l'_1/\(qCNi l'_1)*qCNq<=qCNa)/\qCNc<=qCNb/\qCNb+qCNb<=(qCN9 x)/\∀(x_3:Ex),(Ex.l x)[Int.toNat qCNb]? =some x_3->(List.length l'_1+qCN8=List.length (qCN6 l'_1)/\fzO (some (List.take (qCN5 l) l++ [x_1,[qCNo]],fz))<=List.length (qCN6 l'_1)/\Ex.sz (qCN2 x_3)+qCN8<=m/\Zz (qCN2 x_3)=true/\qCN8<=List.length (qCN6 l'_1)/\List.length (qCN6 l'_1)+qCNj*Ex.sz (qCN2 x_3)+qCNj<=qCNe)/\∀(l'_2:List (List Nat)),l'_2=List.take (qCN5 l'_1) l'_1++ [[qCNp]]++txX (qCN2 x_3)->(List.length l'_2<=List.length l'_2/\fzO (some (List.take (qCN5 l'_1) l'_1++ [[qCNp]],fzO (some (List.take (qCN5 l) l++ [x_1,[qCNo]],fz))))<=List.length l'_2/\(qCNi l'_2)*qCNq<=qCNa)/\List.take (qCN5 l'_2) l'_2++ [[(41:Nat)]]=l'/\List.length l'_2+qCN8=List.length l'/\fzO (some (List.take (qCN5 l'_1) l'_1++ [[qCNp]],fzO (some (List.take (qCN5 l) l++ [x_1,[qCNo]],fz))))=fzO (some (l,fz))))))))):=by kernel_rfl
theorem Ycr (op n a b c d:Int) (l:List Ex):Ex.op (.mk op n a b c d l)=op:=rfl
theorem n_mk (op n a b c d:Int) (l:List Ex):Ex.n (.mk op n a b c d l)=n:=rfl
theorem Ycs (op n a b c d:Int) (l:List Ex):Ex.d0 (.mk op n a b c d l)=a:=rfl
theorem Yct (op n a b c d:Int) (l:List Ex):Ex.d1 (.mk op n a b c d l)=b:=rfl
theorem Ycu (op n a b c d:Int) (l:List Ex):Ex.d2 (.mk op n a b c d l)=c:=rfl
theorem Ycv (op n a b c d:Int) (l:List Ex):Ex.d3 (.mk op n a b c d l)=d:=rfl
theorem l_mk (op n a b c d:Int) (l:List Ex):Ex.l (.mk op n a b c d l)=l:=rfl
theorem u_mk (op n a b c d:Int) (l:List Ex):Ex.u (.mk op n a b c d l)= [a,b,c,d]:=rfl
theorem len4 {α:Type} {l:List α} (h:l.length=4):∃a b c d,l= [a,b,c,d]:=by
 match l,h with
 | [a,b,c,d],_=>exact ⟨a,b,c,d,rfl⟩
theorem Znb (op least:Int) (t:List (List Nat)):(par op least t).length<=t.length+2:=by
 unfold par
 split
 · omega
 · simp
theorem Zqq:∀m,PxOk m
 |0=>fun x h=>by omega
 |m+1=>by
  intro x hx hf l fz hfz h1 hl
  have hm:=Zqq m
  refine Zdg E_ok (Yv E_ok Zq9 fun f N c=>(Zdm E_ok (Z7y hm) 400 f N c).1) rfl ?_
  show Zg E Fpu (vc E (Fxp' m) 400) 58 [.ptr 0 0,exA x] (hpP E Th.strs (some (l,fz))) 2 (prnK E Th.strs (some (l,fz)) (l++txX x))
  rw [Zso];delta qCNe qCNb qCN8 qCN5 qCNl qCNc qCNm qCNg qCN2 qCNa qCNi qCNq qCNf qCN9 qCNj qCN1 qCNn qCN3 qCNo qCNh qCN4 qCNp qCN6 qCN7 qCNd qCNk qCNr
  simp only [fzO,List.take_length,Ex.eta,forall_eq,beq_iff_eq,beq_eq_false_iff_ne,ne_eq]
  rw [Zd6,Bool.and_eq_true] at hf
  obtain ⟨hh,hfl⟩:=hf
  have hkf:∀y∈x.l,Zz y=true:=formL_iff.1 hfl
  rw [Ex.sz_eq] at hx hl
  obtain ⟨op,n,a,b,c,d,xs⟩:=x
  simp only [Ycr,n_mk,Ycs,Yct,Ycu,Ycv,l_mk,u_mk] at*
  obtain ⟨g1,g2,g3,g4,g5,g6,g7⟩:=Zcs hh
  have htx:txX (.mk op n a b c d xs)=txN op n [a,b,c,d] (xs.map Ex.op) (txL xs):=by rw [txX]
  rw [htx]
  clear hh hfl htx
  have w0:wr .i64 0=0:=by decide
  have w1:wr .i64 1=1:=by decide
  have w2:wr .i64 2=2:=by decide
  have w3:wr .i64 3=3:=by decide
  have t3:tightF 3=1:=rfl
  have t4:tightF 4=1:=rfl
  have t5:tightF 5=2:=rfl
  refine ⟨fun q1=> ?_,fun q1=>⟨fun q2=> ?_,fun q2=>⟨fun q3=> ?_,fun q3=>⟨fun q4=> ?_,fun q4=>⟨fun q5=> ?_,fun q5=>⟨fun q6=> ?_,fun q6=> ?_⟩⟩⟩⟩⟩⟩
  · subst q1
    have h4:n<=1099511627776:=g4
    refine ⟨⟨g3,by omega⟩,⟨Nat.le_refl _,hfz,by omega⟩,⟨by simp,by simp;omega,by simp,by simp;omega⟩,?_⟩
    simp [txN]
  · subst q2
    have h4:n<=15:=g4
    have L:WK.at_.words.length=16:=rfl
    refine ⟨g3,by rw [L];omega,fun w hw=>⟨⟨Nat.le_refl _,hfz,by omega⟩,?_⟩⟩
    have:WK.at_.words.getD n.toNat []=w:=by simp [List.getD,hw]
    unfold txN
    rw [if_neg (by decide),if_pos rfl,this]
    simp
  · subst q3
    obtain ⟨x1,x2,x3,x4,rfl⟩:=len4 (show xs.length=4 from g5)
    have s:x1.sz+(x2.sz+(x3.sz+(x4.sz+0)))+1<m+1:=hx
    have s':l.length+8*(x1.sz+(x2.sz+(x3.sz+(x4.sz+0)))+1)+8<=1000000000:=hl
    have p1:=Y3 x1
    have p2:=Y3 x2
    have p3:=Y3 x3
    have p4:=Y3 x4
    have f1:=hkf x1 (by simp)
    have f2:=hkf x2 (by simp)
    have f3:=hkf x3 (by simp)
    have f4:=hkf x4 (by simp)
    simp [f1,f2,f3,f4,txN,txS,txL,sIf,Xb,Zcd,Z0,Zx]
    omega
  · subst q4
    obtain ⟨x1,x2,rfl⟩:=len2 (show xs.length=2 from g5)
    have s:x1.sz+(x2.sz+0)+1<m+1:=hx
    have s':l.length+8*(x1.sz+(x2.sz+0)+1)+8<=1000000000:=hl
    have p1:=Y3 x1
    have p2:=Y3 x2
    have f1:=hkf x1 (by simp)
    have f2:=hkf x2 (by simp)
    have r1:=Znb x1.op 1 (txX x1)
    simp [w0,w1,w2,w3,t3,f1,f2,txN,txL,sgnO,Za5]
    omega
  · subst q5
    obtain ⟨x1,x2,rfl⟩:=len2 (show xs.length=2 from g5)
    have s:x1.sz+(x2.sz+0)+1<m+1:=hx
    have s':l.length+8*(x1.sz+(x2.sz+0)+1)+8<=1000000000:=hl
    have p1:=Y3 x1
    have p2:=Y3 x2
    have f1:=hkf x1 (by simp)
    have f2:=hkf x2 (by simp)
    have r1:=Znb x1.op 1 (txX x1)
    simp [w0,w1,w2,w3,t4,f1,f2,txN,txL,sgnO,Vm]
    omega
  · subst q6
    obtain ⟨x1,x2,rfl⟩:=len2 (show xs.length=2 from g5)
    have s:x1.sz+(x2.sz+0)+1<m+1:=hx
    have s':l.length+8*(x1.sz+(x2.sz+0)+1)+8<=1000000000:=hl
    have p1:=Y3 x1
    have p2:=Y3 x2
    have f1:=hkf x1 (by simp)
    have f2:=hkf x2 (by simp)
    have r1:=Znb x1.op 2 (txX x1)
    simp [w0,w1,w2,w3,t5,f1,f2,txN,txL,sgnO,sMul]
    omega
  · have L:WK.ca.words.length=5:=rfl
    obtain ⟨x1,x2,rfl⟩:=len2 (show xs.length=2 by rw [g5];unfold Zjk;rw [if_neg (by omega),if_neg (by omega)])
    have s:x1.sz+(x2.sz+0)+1<m+1:=hx
    have s':l.length+8*(x1.sz+(x2.sz+0)+1)+8<=1000000000:=hl
    have p1:=Y3 x1
    have p2:=Y3 x2
    have f1:=hkf x1 (by simp)
    have f2:=hkf x2 (by simp)
    have wo:wr .i64 (op-6)=op-6:=wr64 (by omega) (by omega)
    simp only [wo]
    refine ⟨by omega,by rw [L];omega,fun w hw=> ?_⟩
    have e:WK.ca.words.getD (op-6).toNat []=w:=by simp [List.getD,hw]
    have q7:¬(op=3\/op=4\/op=5):=by omega
    unfold txN
    rw [if_neg q1,if_neg q2,if_neg q3,if_neg q7,e]
    simp [f1,f2,txS,txL,Xb,Z0,Zx]
    omega
end
section
open Go
def CsOk:List (List Nat)->List Cls->Prop
 |_,[]=>True
 |seen,c::r=>Wa c=true/\resF c.name=false/\c.name∉seen/\c.when_.length<=8/\Zy c.pay<=24/\CsOk (c.name::seen) r
def Z6u (m:List (List Nat×Bool)) (seen:List (List Nat)):Prop:=∀a,(Yu m a).getD false=decide (a∈seen)
theorem Zw0 {m:List (List Nat×Bool)} {seen:List (List Nat)} (h:Z6u m seen) (a:List Nat):Z6u (putS m a true) (a::seen):=by
 intro b
 rw [Ze7]
 by_cases e:a=b
 · rw [if_pos e]
   subst e
   simp
 · rw [if_neg e,h b]
   simp [Ne.symm e]
theorem Zqn:∀(cs:List Cls) (a b:Bool) (m:List (List Nat×Bool)) (seen:List (List Nat)),Z6u m seen->(goC a b m cs=0↔a=false/\b=false/\CsOk seen cs)
 | [],a,b,m,seen,hm=>by
  unfold goC CsOk
  cases a<;>cases b<;>decide
 |c::r,a,b,m,seen,hm=>by
  rw [Zdt]
  unfold CsOk
  by_cases hc:Wa c=true
  · rw [if_pos hc,Zqn r _ _ _ _ (Zw0 hm c.name),hm c.name]
    simp only [Bool.or_eq_false_iff,decide_eq_false_iff_not]
    constructor
    · rintro ⟨⟨⟨h1,h2⟩,h3⟩,⟨⟨h4,h5⟩,h6⟩,h7⟩
      exact ⟨h1,h4,hc,h2,h3,by omega,by omega,h7⟩
    · rintro ⟨h1,h4,_,h2,h3,h5,h6,h7⟩
      exact ⟨⟨⟨h1,h2⟩,h3⟩,⟨⟨h4,by omega⟩,by omega⟩,h7⟩
  · rw [if_neg hc]
    constructor
    · intro h
      cases h
    · rintro ⟨_,_,h,_⟩
      exact absurd h hc
theorem Za1 (t:Tar):Z7 t=0↔Vb t.name=true/\1<=t.for_/\t.for_<=6/\resF t.name=false/\t.clauses.length<=64/\CsOk [] t.clauses:=by
 unfold Z7
 split
 · rename_i h
   rw [Zqn _ _ _ _ [] (fun a=>by simp [Yu])]
   rw [decide_eq_false_iff_not]
   constructor
   · rintro ⟨h1,h2,h3⟩
     exact ⟨h.1,h.2.1,h.2.2,h1,by omega,h3⟩
   · rintro ⟨_,_,_,h1,h2,h3⟩
     exact ⟨h1,by omega,h3⟩
 · rename_i h
   constructor
   · intro k
     cases k
   · rintro ⟨h1,h2,h3,_⟩
     exact absurd ⟨h1,h2,h3⟩ h
theorem Ze3 (i:Nat) (w:Tst) (r:List Tst):txTs i (w::r)=(if i=0 then Zey else sAnd)::(txW w++txTs (i+1) r):=rfl
theorem Zil {n:Int} (h0:0<=n) (h1:n<=1099511627776) (r:List Tok) (e:Int):pInt (tkS (decN n)::r) e= .ok (n,r,e,()):=by
 rw [Zxc h0 h1]
 rfl
theorem Ui {w:Tst} (h:Z6 w=true):0<=w.attr/\w.attr<16/\0<=w.low/\w.low<=1099511627776/\0<=w.high/\w.high<=1099511627776:=of_decide_eq_true h
theorem Z1m (w:Tst):(⟨w.attr,w.low,w.high⟩:Tst)=w:=rfl
theorem Zkv {w:Tst} (h:Z6 w=true) {n:Int} (hn:n≠8) (r:List Tok) (e:Int):Wq n (TS (txW w)++r) e= .ok (w,r,e,()):=by
 obtain ⟨a0,a1,l0,l1,h0,h1⟩:=Ui h
 have hk:w.attr.toNat<WK.at_.words.length:=by show w.attr.toNat<16;omega
 unfold txW
 rw [Zew,List.cons_append]
 unfold Wq Z9
 rw [Zdd hk,if_pos (by omega)]
 dsimp only [List.tail_cons]
 rw [if_neg hn,show ((w.attr.toNat:Nat):Int)=w.attr by omega]
 by_cases hq:w.low=w.high
 · rw [if_pos hq]
   have e1:TS [sIs,decN w.low]++r=tkS sIs::tkS (decN w.low)::r:=rfl
   rw [e1,if_pos (show isW sIs (tkS sIs::tkS (decN w.low)::r)=true from rfl),List.tail_cons,Zil l0 l1]
   dsimp only
   conv=>rhs;rw [<-Z1m w,<-hq]
 · rw [if_neg hq]
   have e1:TS [sIn,decN w.low,Zbs,decN w.high]++r=tkS sIn::tkS (decN w.low)::tkS Zbs::tkS (decN w.high)::r:=rfl
   rw [e1,if_neg (show ¬isW sIs (tkS sIn::tkS (decN w.low)::tkS Zbs::tkS (decN w.high)::r)=true from Bool.false_ne_true),
    if_pos (show isW sIn (tkS sIn::tkS (decN w.low)::tkS Zbs::tkS (decN w.high)::r)=true from rfl),List.tail_cons,Zil l0 l1]
   dsimp only
   rw [if_pos (show isW Zbs (tkS Zbs::tkS (decN w.high)::r)=true from rfl),List.tail_cons,Zil h0 h1]
theorem Zim (k:Nat) (ts:List Tst) (l:List Tok) (e:Int):pTs k false ts l e= .ok (ts,l,e,()):=by
 cases k with
 |zero=>rfl
 |succ k=>unfold pTs;rw [if_neg Bool.false_ne_true]
theorem Zgz {e:Int} {r:List Tok} (hr:isW [97,110,100] r=false):∀(ws:List Tst) (i k:Nat) (ts:List Tst),1<=i->(∀w∈ws,Z6 w=true)->ws.length<k->ts.length+ws.length<=8->
 pTs k (isW [97,110,100] (TS (txTs i ws)++r)) ts (if isW [97,110,100] (TS (txTs i ws)++r) then (TS (txTs i ws)++r).tail else TS (txTs i ws)++r) e= .ok (ts++ws,r,e,())
 | [],i,k,ts,hi,hw,hk,hl=>by
  have e1:TS (txTs i [])++r=r:=rfl
  rw [e1,hr,if_neg Bool.false_ne_true,Zim,List.append_nil]
 |w::ws,i,0,ts,hi,hw,hk,hl=>by simp at hk
 |w::ws,i,k+1,ts,hi,hw,hk,hl=>by
  have e1:TS (txTs i (w::ws))++r=tkS sAnd::(TS (txW w)++(TS (txTs (i+1) ws)++r)):=by
   rw [Ze3,if_neg (by omega),Zew,Zkf,List.cons_append,List.append_assoc]
  have e2:isW [97,110,100] (tkS sAnd::(TS (txW w)++(TS (txTs (i+1) ws)++r)))=true:=rfl
  rw [e1,e2,if_pos rfl,List.tail_cons]
  unfold pTs
  rw [if_pos rfl,Zkv (hw w (by simp)) (by simp at hl;omega)]
  dsimp only
  rw [Zgz hr ws (i+1) k (ts++ [w]) (by omega) (fun w h=>hw w (by simp [h])) (by simpa using hk) (by simp at hl⊢;omega)]
  rw [List.append_assoc]
  rfl
theorem Zm9 {e:Int} {r:List Tok} (hr:isW [97,110,100] r=false) (hr2:isW [119,104,101,110] r=false) (ws:List Tst) (hw:∀w∈ws,Z6 w=true) (hl:ws.length<=8):
 pTs 10 (isW [119,104,101,110] (TS (txTs 0 ws)++r)) [] (if isW [119,104,101,110] (TS (txTs 0 ws)++r) then (TS (txTs 0 ws)++r).tail else TS (txTs 0 ws)++r) e= .ok (ws,r,e,()):=by
 cases ws with
 |nil=>
  have e1:TS (txTs 0 [])++r=r:=rfl
  rw [e1,hr2,if_neg Bool.false_ne_true,Zim]
 |cons w ws=>
  have e1:TS (txTs 0 (w::ws))++r=tkS Zey::(TS (txW w)++(TS (txTs 1 ws)++r)):=by
   rw [Ze3,if_pos rfl,Zew,Zkf,List.cons_append,List.append_assoc]
  have e2:isW [119,104,101,110] (tkS Zey::(TS (txW w)++(TS (txTs 1 ws)++r)))=true:=rfl
  rw [e1,e2,if_pos rfl,List.tail_cons]
  unfold pTs
  rw [if_pos rfl,Zkv (hw w (by simp)) (by simp)]
  dsimp only
  rw [Zgz hr ws 1 9 _ (Nat.le_refl _) (fun w h=>hw w (by simp [h])) (by simp at hl;omega) (by simp at hl⊢;omega)]
  rfl
theorem Ze4 (c:Cls) (r:List Cls):txCs (c::r)=txC c++txCs r:=rfl
theorem Zkw {s:List Nat} (h:Vb s=true) (hr:resF s=false) (r:List Tok) (e:Int):V5 (tkS s::r) e= .ok (s,r,e,()):=by
 rw [Zir h]
 show (if (1:Int)=1 then (if s∈resW then (.error (0,161):PR (List Nat)) else .ok (s,r,e,())) else .error (0,160))=_
 rw [if_pos rfl,if_neg (of_decide_eq_false hr)]
theorem Za2 {c:Cls} (h:Wa c=true):Vb c.name=true/\Zz c.pay=true/\∀w∈c.when_,Z6 w=true:=by
 unfold Wa at h
 rw [Bool.and_eq_true,Bool.and_eq_true] at h
 exact ⟨h.1.1,h.1.2,List.all_eq_true.1 h.2⟩
theorem Zna {c:Cls} {bs:List Cls} (h1:Wa c=true) (h2:resF c.name=false) (h3:bs.any (fun b=>b.name==c.name)=false) (h4:c.when_.length<=8) (h5:Zy c.pay<=24) (r:List Tok) (e:Int):
 Z3 bs (TS (c.name::(txTs 0 c.when_++sPay::(txX c.pay++ [Zfo])))++r) e= .ok (c,r,e,()):=by
 obtain ⟨k1,k2,k3⟩:=Za2 h1
 have e1:TS (c.name::(txTs 0 c.when_++sPay::(txX c.pay++ [Zfo])))++r=tkS c.name::(TS (txTs 0 c.when_)++tkS sPay::(TS (txX c.pay)++tkS Zfo::r)):=by simp
 rw [e1]
 unfold Z3
 rw [Zkw k1 h2]
 dsimp only
 rw [if_neg (by rw [h3];decide),Zm9 (r:=tkS sPay::(TS (txX c.pay)++tkS Zfo::r)) rfl rfl _ k3 h4]
 unfold pAft pPay
 dsimp only
 rw [if_pos (show isW [112,97,121] (tkS sPay::(TS (txX c.pay)++tkS Zfo::r))=true from rfl),List.tail_cons,(rdb c.pay k2).all (Z0o r) e]
 dsimp only
 rw [if_neg (by omega),if_pos (show isW [59] (tkS Zfo::r)=true from rfl)]
 rfl
theorem any_name {bs:List Cls} {a:List Nat}:bs.any (fun b=>b.name==a)=false↔a∉bs.map Cls.name:=by
 rw [List.any_eq_false]
 simp only [List.mem_map,not_exists,not_and]
 constructor
 · intro h b hb e
   exact h b hb (by rw [e];exact beq_self_eq_true a)
 · intro h b hb e
   exact h b hb (eq_of_beq e)
theorem CsOk.congr:∀{cs:List Cls} {s s':List (List Nat)},(∀a,a∈s↔a∈s')->CsOk s cs->CsOk s' cs
 | [],_,_,_,_=>trivial
 |c::r,s,s',h,⟨h1,h2,h3,h4,h5,h6⟩=>⟨h1,h2,fun k=>h3 ((h _).2 k),h4,h5,CsOk.congr (fun a=>by simp [h a]) h6⟩
theorem Zdc {e:Int} {r:List Tok} (hr:isW [99,108,97,117,115,101] r=false):∀(cs bs:List Cls) (k:Nat),CsOk (bs.map Cls.name) cs->cs.length<k->bs.length+cs.length<=64->
 pCls k bs (TS (txCs cs)++r) e= .ok (bs++cs,r,e,())
 | [],bs,0,_,hk,_=>by simp at hk
 | [],bs,k+1,_,_,_=>by
  have e1:TS (txCs [])++r=r:=rfl
  unfold pCls
  rw [e1,hr,if_neg Bool.false_ne_true,List.append_nil]
 |c::cs,bs,0,_,hk,_=>by simp at hk
 |c::cs,bs,k+1,h,hk,hl=>by
  obtain ⟨h1,h2,h3,h4,h5,h6⟩:=h
  have e1:TS (txCs (c::cs))++r=tkS Xu::(TS (c.name::(txTs 0 c.when_++sPay::(txX c.pay++ [Zfo])))++(TS (txCs cs)++r)):=by
   rw [Ze4]
   unfold txC
   rw [Zkf,Zew,List.append_assoc,List.cons_append]
  rw [e1]
  unfold pCls
  rw [if_pos (show isW [99,108,97,117,115,101] (tkS Xu::_)=true from rfl),if_neg (by simp at hl;omega),List.tail_cons,Zna h1 h2 (any_name.2 h3) h4 h5]
  dsimp only
  rw [Zdc hr cs (bs++ [c]) k (CsOk.congr (fun a=>by simp [or_comm]) h6) (by simpa using hk) (by simp at hl⊢;omega)]
  rw [List.append_assoc]
  rfl
theorem Z1n {t:Tar} (h:Z7 t=0) (e:Int):pTar (TS (Uq t)) e= .ok (t,[],e,()):=by
 obtain ⟨h1,h2,h3,h4,h5,h6⟩:=(Za1 t).1 h
 have e1:TS (Uq t)=tkS Zfp::tkS t.name::tkS sFor::tkS (WK.ki.words.getD (t.for_-1).toNat [])::tkS sLb::(TS (txCs t.clauses)++ [tkS sRb]):=by
  unfold Uq
  simp
 have hk:(t.for_-1).toNat<WK.ki.words.length:=by show (t.for_-1).toNat<6;omega
 rw [e1]
 unfold pTar
 rw [if_pos (show isW [116,97,114,105,102,102] (tkS Zfp::_)=true from rfl),List.tail_cons,Zkw h1 h4]
 dsimp only
 rw [if_pos (show isW [102,111,114] (tkS sFor::_)=true from rfl),List.tail_cons]
 unfold Z9
 rw [Zdd hk,if_pos (by omega)]
 dsimp only
 rw [List.tail_cons,if_pos (show isW [123] (tkS sLb::_)=true from rfl),List.tail_cons]
 have hlen:∀cs:List Cls,cs.length<=(txCs cs).length:=by
  intro cs
  induction cs with
  |nil=>exact Nat.le_refl _
  |cons c r ih=>
   rw [Ze4]
   unfold txC
   simp
   omega
 rw [Zdc (r:= [tkS sRb]) rfl t.clauses [] _ h6 (by have:=hlen t.clauses;simp;omega) (by simpa using h5)]
 unfold pEnd
 dsimp only
 rw [if_pos (show isW [125] [tkS sRb]=true from rfl),if_neg (by simp)]
 have:wr .i64 (1+(((t.for_-1).toNat:Nat):Int))=t.for_:=by
  rw [wr64 (by omega) (by omega)]
  omega
 rw [this]
 rfl
end
section
open Go
abbrev PP (β:Type):=List Tok->Int->PR β
section
variable {α β : Type}
def Okp (rel:β->β->Prop) (p:PP β) (l:List Tok) (y:β) (k:Nat):Prop:=
 k<=l.length/\∀(l':List Tok) (m:Nat) (f:Int),l'.map sT=(l.map sT).take m->
  (k<=m->p l' f= .ok (y,l'.drop k,f,()))/\(m<k->p l' f= .error (f,160)\/∃y',rel y' y/\p l' f= .ok (y',[],f,()))
def ErrS (p:PP β) (l:List Tok) (e:Int) (er:Int×Int):Prop:=∃(j:Nat) (c:Int),er=(hdT e (l.drop j),c)/\(c=2\/c=160\/c=161)/\∀(l':List Tok) (f:Int),l'.map sT=l.map sT->p l' f= .error (hdT f (l'.drop j),c)
def Gd (rel:β->β->Prop) (p:PP β):Prop:=∀l e,(∀y x,p l e= .ok (y,x)->∃k,x=(l.drop k,e,())/\Okp rel p l y k)/\∀er,p l e= .error er->ErrS p l e er
theorem ErrS.hd {p:PP β} {l:List Tok} {e:Int} {c:Int} (hc:c=2\/c=160\/c=161) (h:∀(l':List Tok) (f:Int),l'.map sT=l.map sT->p l' f= .error (hdT f l',c)):ErrS p l e (hdT e l,c):=⟨0,c,rfl,hc,h⟩
theorem Zbt {l l':List Tok} (h:l'.map sT=l.map sT):l'.map sT=(l.map sT).take l.length:=by rw [h,List.take_of_length_le (by simp)]
theorem Gd.mono {rel rel':β->β->Prop} {p:PP β} (h:Gd rel p) (hr:∀a b,rel a b->rel' a b):Gd rel' p:=by
 intro l e
 refine ⟨fun y x hy=> ?_,(h l e).2⟩
 obtain ⟨k,h1,h2,h3⟩:=(h l e).1 y x hy
 refine ⟨k,h1,h2,fun l' m f hl=>⟨(h3 l' m f hl).1,fun hm=>((h3 l' m f hl).2 hm).imp id ?_⟩⟩
 rintro ⟨y',h4,h5⟩
 exact ⟨y',hr _ _ h4,h5⟩
def pR (y:β):PP β:=fun l e=> .ok (y,l,e,())
def pSyn:PP β:=fun l e=> .error (hdT e l,160)
theorem Vq {l':List Tok} {m:Nat} (h:l'.map sT=(([]:List Tok).map sT).take m):l'= []:=by
 rw [List.map_nil,List.take_nil] at h
 exact List.map_eq_nil_iff.1 h
theorem gd_R (rel:β->β->Prop) (y:β):Gd rel (pR y):=by
 intro l e
 refine ⟨fun z x h=> ?_,fun er h=>by cases h⟩
 unfold pR at h
 cases h
 refine ⟨0,rfl,Nat.zero_le _,fun l' m f _=>⟨fun _=>rfl,fun h=>by omega⟩⟩
theorem V0 (rel:β->β->Prop):Gd rel (pSyn:PP β):=by
 intro l e
 refine ⟨fun z x h=>(by cases h),fun er h=> ?_⟩
 unfold pSyn at h
 cases h
 exact .hd (by simp) fun l' f _=>rfl
def pBc (p:PP α) (c:α->Bool) (code:Int) (q:α->PP β):PP β:=fun l e=>
 match p l e with
 | .error er=> .error er
 | .ok (y,x)=>if c y then .error (hdT e l,code) else q y x.1 x.2.1
def pB (p:PP α) (q:α->PP β):PP β:=fun l e=>
 match p l e with
 | .error er=> .error er
 | .ok (y,x)=>q y x.1 x.2.1
theorem Zv0 {l':List Tok} {l:List Tok} {m k:Nat} (h:l'.map sT=(l.map sT).take m):(l'.drop k).map sT=((l.drop k).map sT).take (m-k):=by
 rw [List.map_drop,h,List.map_drop,List.drop_take]
theorem Z00 {rel:α->α->Prop} {rel':β->β->Prop} {p:PP α} {c:α->Bool} {code:Int} {q:α->PP β} (hp:Gd rel p) (hq:∀y,Gd rel' (q y)) (hcode:code=2\/code=160\/code=161) (hc:∀y y',rel y' y->c y=false->c y'=false)
 (h0:∀y y' l e z x,rel y' y->q y l e= .ok (z,x)->∀f,q y' [] f= .error (f,160)\/∃z',rel' z' z/\q y' [] f= .ok (z',[],f,())):Gd rel' (pBc p c code q):=by
 intro l e
 have E:∀l e,pBc p c code q l e=match p l e with| .error er=> .error er| .ok (y,x)=>if c y then .error (hdT e l,code) else q y x.1 x.2.1:=fun _ _=>rfl
 rw [E]
 cases h:p l e with
 |error er=>
  refine ⟨fun z x h=>(by cases h),fun er' h'=> ?_⟩
  cases h'
  obtain ⟨j,c0,h1,h2,h3⟩:=(hp l e).2 er h
  exact ⟨j,c0,h1,h2,fun l' f hl=>by rw [E,h3 l' f hl]⟩
 |ok y=>
  obtain ⟨y,x⟩:=y
  obtain ⟨k1,rfl,h1,h2⟩:=(hp l e).1 y x h
  dsimp only
  cases hcy:c y with
  |true=>
   refine ⟨fun z x h=>(by cases h),fun er' h'=> ?_⟩
   cases h'
   refine .hd hcode fun l' f hl=> ?_
   rw [E,(h2 l' l.length f (Zbt hl)).1 h1]
   dsimp only
   rw [hcy,if_pos rfl]
  |false=>
   rw [if_neg Bool.false_ne_true]
   refine ⟨fun z x2 hz=> ?_,fun er' h'=> ?_⟩
   rotate_left
   · obtain ⟨j,c0,h3,h4,h5⟩:=(hq y _ _).2 er' h'
     refine ⟨k1+j,c0,by rw [h3,List.drop_drop],h4,fun l' f hl=> ?_⟩
     rw [E,(h2 l' l.length f (Zbt hl)).1 h1]
     dsimp only
     rw [hcy,if_neg Bool.false_ne_true,h5 (l'.drop k1) f (by rw [List.map_drop,hl,List.map_drop]),List.drop_drop]
   obtain ⟨k2,rfl,h3,h4⟩:=(hq y _ _).1 z x2 hz
   rw [List.length_drop] at h3
   refine ⟨k1+k2,by rw [List.drop_drop],by omega,fun l' m f hl=> ?_⟩
   have hd:=Zv0 (k:=k1) hl
   rw [E]
   refine ⟨fun hm=> ?_,fun hm=> ?_⟩
   · rw [(h2 l' m f hl).1 (by omega)]
     dsimp only
     rw [hcy,if_neg Bool.false_ne_true,(h4 _ _ f hd).1 (by omega),List.drop_drop]
   · by_cases hk:k1<=m
     · rw [(h2 l' m f hl).1 hk]
       dsimp only
       rw [hcy,if_neg Bool.false_ne_true]
       exact (h4 _ _ f hd).2 (by omega)
     · rcases (h2 l' m f hl).2 (by omega) with h5|⟨y',h5,h6⟩
       · rw [h5]
         exact .inl rfl
       · rw [h6]
         dsimp only
         rw [hc y y' h5 hcy,if_neg Bool.false_ne_true]
         exact h0 y y' _ _ z _ h5 hz f
theorem Ycf (p:PP α) (q:α->PP β):pB p q=pBc p (fun _=>false) 2 q:=by
 funext l e
 unfold pB pBc
 cases p l e with
 |error er=>rfl
 |ok y=>rfl
theorem gd_b {rel:α->α->Prop} {rel':β->β->Prop} {p:PP α} {q:α->PP β} (hp:Gd rel p) (hq:∀y,Gd rel' (q y))
 (h0:∀y y' l e z x,rel y' y->q y l e= .ok (z,x)->∀f,q y' [] f= .error (f,160)\/∃z',rel' z' z/\q y' [] f= .ok (z',[],f,())):Gd rel' (pB p q):=by
 rw [Ycf]
 exact Z00 hp hq (by simp) (fun _ _ _ _=>rfl) h0
def pIf (s:List Nat) (A B:PP β):PP β:=fun l e=>if isW s l then A l.tail e else B l e
theorem Wi {t t':Tok} (h:sT t'=sT t):t'.kind=t.kind/\t'.text=t.text/\t'.n=t.n:=by
 unfold sT atT at h
 injection h with h1 h2 h3 h4
 exact ⟨h1,h2,h3⟩
theorem Zkh {s:List Nat} {t t':Tok} {r r':List Tok} (h:sT t'=sT t):isW s (t'::r')=isW s (t::r):=by
 obtain ⟨h1,h2,_⟩:=Wi h
 show (!(t'.kind==2)&&t'.text==s)=(!(t.kind==2)&&t.text==s)
 rw [h1,h2]
theorem Y4 {l' l:List Tok} {m:Nat} (h:l'.map sT=(l.map sT).take m):(l'= []/\(m=0\/l= []))\/∃t' r' t r m',l'=t'::r'/\l=t::r/\m=m'+1/\sT t'=sT t/\r'.map sT=(r.map sT).take m':=by
 cases m with
 |zero=>
  rw [List.take_zero] at h
  exact .inl ⟨List.map_eq_nil_iff.1 h,.inl rfl⟩
 |succ m=>
  cases l with
  |nil=>exact .inl ⟨Vq h,.inr rfl⟩
  |cons t r=>
   cases l' with
   |nil=>simp at h
   |cons t' r'=>
    rw [List.map_cons,List.map_cons,List.take_succ_cons] at h
    injection h with h1 h2
    exact .inr ⟨t',r',t,r,m,rfl,rfl,rfl,h1,h2⟩
theorem V4 {rel:β->β->Prop} {s:List Nat} {A B:PP β} (hA:Gd rel A) (hB:Gd rel B) (h0:∀l e y x,A l e= .ok (y,x)->∀f,B [] f= .error (f,160)\/∃y',rel y' y/\B [] f= .ok (y',[],f,())):Gd rel (pIf s A B):=by
 intro l e
 have E:∀l e,pIf s A B l e=if isW s l then A l.tail e else B l e:=fun _ _=>rfl
 rw [E]
 cases hw:isW s l with
 |true=>
  rw [if_pos rfl]
  cases l with
  |nil=>cases hw
  |cons t r=>
   refine ⟨fun y x hy=> ?_,fun er h=> ?_⟩
   rotate_left
   · obtain ⟨j,c0,h3,h4,h5⟩:=(hA r e).2 er h
     refine ⟨j+1,c0,h3,h4,fun l' f hl=> ?_⟩
     rcases Y4 (Zbt hl) with ⟨rfl,h6⟩|⟨t',r',t2,r2,m',rfl,h6,h7,h8,h9⟩
     · simp at hl
     · cases h6
       rw [E,Zkh (r':=r') (r:=r) h8,hw,if_pos rfl]
       refine h5 r' f ?_
       simpa using (List.cons.inj hl).2
   obtain ⟨k,rfl,h1,h2⟩:=(hA r e).1 y x hy
   refine ⟨k+1,rfl,by simpa using h1,fun l' m f hl=> ?_⟩
   rw [E]
   rcases Y4 hl with ⟨rfl,h3⟩|⟨t',r',t2,r2,m',rfl,h3,rfl,h4,h5⟩
   · have hm:m=0:=by
      rcases h3 with h3|h3
      · exact h3
      · cases h3
     subst hm
     refine ⟨fun h=>by omega,fun _=> ?_⟩
     rw [show isW s []=false from rfl,if_neg Bool.false_ne_true]
     exact h0 _ _ _ _ hy f
   · cases h3
     rw [Zkh (r':=r') (r:=r) h4,hw,if_pos rfl]
     exact ⟨fun hm=>(h2 r' m' f h5).1 (by omega),fun hm=>(h2 r' m' f h5).2 (by omega)⟩
 |false=>
  rw [if_neg Bool.false_ne_true]
  have nW:∀(l':List Tok) (m:Nat),l'.map sT=(l.map sT).take m->isW s l'=false:=by
   intro l' m hl
   rcases Y4 hl with ⟨rfl,_⟩|⟨t',r',t,r,m',rfl,rfl,rfl,h4,h5⟩
   · rfl
   · rw [Zkh (r:=r) h4]
     exact hw
  refine ⟨fun y x hy=> ?_,fun er h=> ?_⟩
  rotate_left
  · obtain ⟨j,c0,h3,h4,h5⟩:=(hB l e).2 er h
    refine ⟨j,c0,h3,h4,fun l' f hl=> ?_⟩
    rw [E,nW l' l.length (Zbt hl),if_neg Bool.false_ne_true]
    exact h5 l' f hl
  obtain ⟨k,rfl,h1,h2⟩:=(hB l e).1 y x hy
  refine ⟨k,rfl,h1,fun l' m f hl=> ?_⟩
  rw [E]
  have:=nW l' m hl
  rw [this,if_neg Bool.false_ne_true]
  exact h2 l' m f hl
def pOne (c:Tok->Bool) (v:Tok->β):PP β:=fun l e=>
 match l with
 | []=> .error (e,160)
 |t::r=>if c (sT t) then .ok (v (sT t),r,e,()) else .error (t.at_,160)
theorem Z4d (rel:β->β->Prop) (c:Tok->Bool) (v:Tok->β):Gd rel (pOne c v):=by
 intro l e
 cases l with
 |nil=>
  refine ⟨fun y x hy=>(by cases hy),fun er h=> ?_⟩
  cases h
  refine .hd (by simp) fun l' f hl=> ?_
  have:l'= []:=Vq (m:=0) (by simpa using hl)
  subst this
  rfl
 |cons t r=>
  have E:∀t r e,pOne c v (t::r) e=if c (sT t) then .ok (v (sT t),r,e,()) else .error (t.at_,160):=fun _ _ _=>rfl
  rw [E]
  cases hc:c (sT t) with
  |false=>
   rw [if_neg Bool.false_ne_true]
   refine ⟨fun y x hy=>(by cases hy),fun er h=> ?_⟩
   cases h
   refine .hd (l:=t::r) (by simp) fun l' f hl=> ?_
   cases l' with
   |nil=>simp at hl
   |cons t' r'=>
    have h1:sT t'=sT t:=(List.cons.inj hl).1
    rw [E,h1,hc,if_neg Bool.false_ne_true]
    rfl
  |true=>
   rw [if_pos rfl]
   refine ⟨fun y x hy=> ?_,fun er h=>(by cases h)⟩
   cases hy
   refine ⟨1,rfl,by simp,fun l' m f hl=> ?_⟩
   rcases Y4 hl with ⟨rfl,h3⟩|⟨t',r',t2,r2,m',rfl,h3,rfl,h4,h5⟩
   · have hm:m=0:=by
      rcases h3 with h3|h3
      · exact h3
      · cases h3
     subst hm
     exact ⟨fun h=>by omega,fun _=> .inl rfl⟩
   · cases h3
     rw [E,h4,hc,if_pos rfl]
     exact ⟨fun _=>rfl,fun h=>by omega⟩
def pOpt (c:Tok->Bool) (v:Tok->β) (z:β):PP β:=fun l e=>
 match l with
 | []=> .ok (z,[],e,())
 |t::r=>if c (sT t) then .ok (v (sT t),r,e,()) else .ok (z,t::r,e,())
theorem Zv1 (c:Tok->Bool) (v:Tok->β) (z:β):Gd (fun a _=>a=z) (pOpt c v z):=by
 intro l e
 cases l with
 |nil=>
  refine ⟨fun y x hy=> ?_,fun er h=>(by cases h)⟩
  cases hy
  refine ⟨0,rfl,Nat.zero_le _,fun l' m f hl=>⟨fun _=> ?_,fun h=>by omega⟩⟩
  have:l'= []:=Vq hl
  subst this
  rfl
 |cons t r=>
  have E:∀t r e,pOpt c v z (t::r) e=if c (sT t) then .ok (v (sT t),r,e,()) else .ok (z,t::r,e,()):=fun _ _ _=>rfl
  rw [E]
  cases hc:c (sT t) with
  |false=>
   rw [if_neg Bool.false_ne_true]
   refine ⟨fun y x hy=> ?_,fun er h=>(by cases h)⟩
   cases hy
   refine ⟨0,rfl,Nat.zero_le _,fun l' m f hl=>⟨fun _=> ?_,fun h=>by omega⟩⟩
   rcases Y4 hl with ⟨rfl,_⟩|⟨t',r',t2,r2,m',rfl,h3,rfl,h4,h5⟩
   · rfl
   · cases h3
     rw [E,h4,hc,if_neg Bool.false_ne_true]
     rfl
  |true=>
   rw [if_pos rfl]
   refine ⟨fun y x hy=> ?_,fun er h=>(by cases h)⟩
   cases hy
   refine ⟨1,rfl,by simp,fun l' m f hl=> ?_⟩
   rcases Y4 hl with ⟨rfl,h3⟩|⟨t',r',t2,r2,m',rfl,h3,rfl,h4,h5⟩
   · have hm:m=0:=by
      rcases h3 with h3|h3
      · exact h3
      · cases h3
     subst hm
     exact ⟨fun h=>by omega,fun _=> .inr ⟨z,rfl,rfl⟩⟩
   · cases h3
     rw [E,h4,hc,if_pos rfl]
     exact ⟨fun _=>rfl,fun h=>by omega⟩
end
abbrev NoR {β:Type}:β->β->Prop:=fun _ _=>False
abbrev AnyR {β:Type}:β->β->Prop:=fun _ _=>True
abbrev NeR:Ex->Ex->Prop:=fun a b=>Zy a<=Zy b
theorem Z01:pInt=pOne (fun t=>t.kind=2) (fun t=>t.n):=by
 funext l e
 cases l with
 |nil=>rfl
 |cons t r=>
  show (if t.kind=2 then _ else _)=(if decide (t.kind=2)=true then _ else _)
  by_cases h:t.kind=2
  · rw [if_pos h,if_pos (decide_eq_true h)]
    rfl
  · rw [if_neg h,if_neg (by simpa using h)]
theorem Zv2 (ws:List (List Nat)):Z9 ws=pOne (fun t=>decide (0<=chz ws [t])) (fun t=>chz ws [t]):=by
 funext l e
 cases l with
 |nil=>rfl
 |cons t r=>
  have h1:chz ws (t::r)=chz ws [sT t]:=rfl
  unfold Z9 pOne
  dsimp only
  rw [h1]
  by_cases h:0<=chz ws [sT t]
  · rw [if_pos h,if_pos (decide_eq_true h)]
    rfl
  · rw [if_neg h,if_neg (by simpa using h)]
    rfl
theorem Zmv (ws:List (List Nat)):Zn ws=pOpt (fun t=>decide (0<=chz ws [t])) (fun t=>(chz ws [t],true,())) (0,false,()):=by
 funext l e
 cases l with
 |nil=>rfl
 |cons t r=>
  have h1:chz ws (t::r)=chz ws [sT t]:=rfl
  unfold Zn pOpt
  dsimp only
  rw [h1]
  by_cases h:0<=chz ws [sT t]
  · rw [if_pos h,if_pos (decide_eq_true h)]
    rfl
  · rw [if_neg h,if_neg (by simpa using h)]
theorem Zv3:Gd NoR pInt:=by rw [Z01];exact Z4d _ _ _
theorem Zid (ws:List (List Nat)):Gd NoR (Z9 ws):=by rw [Zv2];exact Z4d _ _ _
theorem Zki (ws:List (List Nat)):Gd (fun a _=>a=(0,false,())) (Zn ws):=by rw [Zmv];exact Zv1 _ _ _
theorem U8 (t:Tok) (r:List Tok) (e:Int):V5 (t::r) e=if t.kind=1 then (if t.text∈resW then .error (t.at_,161) else .ok (t.text,r,e,())) else .error (t.at_,160):=rfl
theorem Zv4:Gd NoR V5:=by
 intro l e
 cases l with
 |nil=>
  refine ⟨fun y x hy=>(by cases hy),fun er h=> ?_⟩
  cases h
  refine .hd (l:= []) (by simp) fun l' f hl=> ?_
  have:l'= []:=Vq (m:=0) (by simpa using hl)
  subst this
  rfl
 |cons t r=>
  have sim:∀(l':List Tok),l'.map sT=(t::r).map sT->∃t' r',l'=t'::r'/\t'.kind=t.kind/\t'.text=t.text:=by
   intro l' hl
   cases l' with
   |nil=>simp at hl
   |cons t' r'=>
    obtain ⟨g1,g2,_⟩:=Wi (List.cons.inj hl).1
    exact ⟨t',r',rfl,g1,g2⟩
  rw [U8]
  split
  · rename_i hk
    split
    · rename_i hr
      refine ⟨fun y x hy=>(by cases hy),fun er h=> ?_⟩
      cases h
      refine .hd (l:=t::r) (by simp) fun l' f hl=> ?_
      obtain ⟨t',r',rfl,g1,g2⟩:=sim l' hl
      rw [U8,g1,g2,if_pos hk,if_pos hr]
      rfl
    · rename_i hr
      refine ⟨fun y x hy=> ?_,fun er h=>(by cases h)⟩
      cases hy
      refine ⟨1,rfl,by simp,fun l' m f hl=> ?_⟩
      rcases Y4 hl with ⟨rfl,h3⟩|⟨t',r',t2,r2,m',rfl,h3,rfl,h4,h5⟩
      · have hm:m=0:=by
         rcases h3 with h3|h3
         · exact h3
         · cases h3
        subst hm
        exact ⟨fun h=>by omega,fun _=> .inl rfl⟩
      · cases h3
        obtain ⟨g1,g2,_⟩:=Wi h4
        refine ⟨fun _=> ?_,fun h=>by omega⟩
        rw [U8,g1,g2,if_pos hk,if_neg hr]
        rfl
  · rename_i hk
    refine ⟨fun y x hy=>(by cases hy),fun er h=> ?_⟩
    cases h
    refine .hd (l:=t::r) (by simp) fun l' f hl=> ?_
    obtain ⟨t',r',rfl,g1,g2⟩:=sim l' hl
    rw [U8,g1,if_neg hk]
    rfl
theorem Z58:Xf=pB (Zn WK.un.words) fun y=>pIf sPer (pB (Z9 WK.un.words) fun j=>pR (decD (if y.2.1 then incD [0,0,0,0] y.1 else [0,0,0,0]) j)) (pR (if y.2.1 then incD [0,0,0,0] y.1 else [0,0,0,0])):=by
 funext l e
 unfold Xf pB pIf
 cases Zn WK.un.words l e with
 |error er=>rfl
 |ok y=>
  dsimp only
  split
  · cases Z9 WK.un.words y.2.1.tail y.2.2.1 with
    |error er=>rfl
    |ok z=>rfl
  · rfl
theorem Z59:Gd AnyR Xf:=by
 rw [Z58]
 refine gd_b (Zki _) (fun y=>V4 (gd_b (Zid _) (fun j=>gd_R _ _) (fun _ _ _ _ _ _ h=>h.elim)) (gd_R _ _) fun l e y x _ f=> .inr ⟨_,trivial,rfl⟩) ?_
 intro y y' l e z x _ _ f
 exact .inr ⟨_,trivial,rfl⟩
theorem Z6a (n:Int):Wq n=pBc (Z9 WK.at_.words) (fun _=>decide (n=8)) 2 fun a=>pIf sIs (pB pInt fun m=>pR ⟨a,m,m⟩) (pIf sIn (pB pInt fun m=>pIf Zbs (pB pInt fun k=>pR ⟨a,m,k⟩) pSyn) pSyn):=by
 funext l e
 unfold Wq pBc pIf pB
 cases Z9 WK.at_.words l e with
 |error er=>rfl
 |ok y=>
  dsimp only
  by_cases hn:n=8
  · rw [if_pos hn,if_pos (decide_eq_true hn)]
  · rw [if_neg hn,if_neg (show ¬decide (n=8)=true by simpa using hn)]
    split
    · cases pInt y.2.1.tail y.2.2.1 with
      |error er=>rfl
      |ok z=>rfl
    · split
      · cases pInt y.2.1.tail y.2.2.1 with
        |error er=>rfl
        |ok z=>
         dsimp only
         split
         · cases pInt z.2.1.tail z.2.2.1 with
           |error er=>rfl
           |ok u=>rfl
         · rfl
      · rfl
theorem Z6b (n:Int):Gd NoR (Wq n):=by
 rw [Z6a]
 refine Z00 (Zid _) (fun a=> ?_) (by simp) (fun _ _ h=>h.elim) (fun _ _ _ _ _ _ h=>h.elim)
 refine V4 (gd_b Zv3 (fun m=>gd_R _ _) (fun _ _ _ _ _ _ h=>h.elim)) (V4 (gd_b Zv3 (fun m=> ?_) (fun _ _ _ _ _ _ h=>h.elim)) (V0 _) fun _ _ _ _ _ f=> .inl rfl) fun _ _ _ _ _ f=> .inl rfl
 exact V4 (gd_b Zv3 (fun k=>gd_R _ _) (fun _ _ _ _ _ _ h=>h.elim)) (V0 _) fun _ _ _ _ _ f=> .inl rfl
theorem Ycg (k:Nat) (ts:List Tst):pTs (k+1) true ts=pB (Wq ts.length) fun t=>pIf [97,110,100] (pTs k true (ts++ [t])) (pTs k false (ts++ [t])):=by
 funext l e
 unfold pB pIf
 rw [pTs,if_pos rfl]
 cases Wq ts.length l e with
 |error er=>rfl
 |ok y=>
  dsimp only
  cases isW [97,110,100] y.2.1<;>rfl
theorem Z6c (k:Nat) (ts:List Tst):pTs k false ts=pR ts:=by
 funext l e
 exact Zim k ts l e
theorem Z6d:∀(k:Nat) (more:Bool) (ts:List Tst),Gd AnyR (pTs k more ts)
 |0,more,ts=>gd_R _ ts
 |k+1,false,ts=>by rw [Z6c];exact gd_R _ _
 |k+1,true,ts=>by
  rw [Ycg]
  refine gd_b (Z6b _) (fun t=>V4 (Z6d k true _) (Z6d k false _) fun _ _ _ _ _ f=> .inr ⟨ts++ [t],trivial,by rw [Z6c];rfl⟩) (fun _ _ _ _ _ _ h=>h.elim)
theorem Z9x (pe:PE) (s:List Nat) (r:List (List Nat)) (acc:List Ex):pOpL pe (s::r) acc=pB pe fun x=>pIf s (pOpL pe r (acc++ [x])) pSyn:=by
 funext l e
 rw [pOpL]
 unfold pB pIf pSyn
 cases pe l e with
 |error er=>rfl
 |ok y=>rfl
theorem Z4e {pe:PE} (h:Gd NeR pe):∀(ss:List (List Nat)) (acc:List Ex),Gd NoR (pOpL pe ss acc)
 | [],acc=>gd_R _ acc
 |s::r,acc=>by
  rw [Z9x]
  exact gd_b h (fun x=>V4 (Z4e h r _) (V0 _) fun _ _ _ _ _ f=> .inl rfl) fun _ _ _ _ _ _ _ _ f=> .inl rfl
theorem Z9y (pe:PE) (op:Int) (ss:List (List Nat)):pOps pe op ss=pIf Xb (pB (pOpL pe ss []) fun xs=>pR (.mk op 0 0 0 0 0 xs)) pSyn:=by
 funext l e
 unfold pOps pIf pB pSyn
 split
 · cases pOpL pe ss [] l.tail e with
   |error er=>rfl
   |ok y=>rfl
 · rfl
theorem Z4f {pe:PE} (h:Gd NeR pe) (op:Int) (ss:List (List Nat)):Gd NoR (pOps pe op ss):=by
 rw [Z9y]
 exact V4 (gd_b (Z4e h ss []) (fun xs=>gd_R _ _) (fun _ _ _ _ _ _ h=>h.elim)) (V0 _) fun _ _ _ _ _ f=> .inl rfl
theorem Z6e (pe:PE):Up pe=pIf Xb (pB pe fun x=>pIf Zx (pR x) pSyn) (pIf sIf (pOps pe 11 [Zcd,Z0,Z0,Zx]) (pB (Zn WK.ca.words) fun k=>if k.2.1 then pOps pe (6+k.1) [Z0,Zx] else pB (Z9 WK.at_.words) fun a=>pR (.mk 2 a 0 0 0 0 []))):=by
 funext l e
 unfold Up pIf pB pSyn
 split
 · cases pe l.tail e with
   |error er=>rfl
   |ok y=>rfl
 · split
   · rfl
   · cases Zn WK.ca.words l e with
     |error er=>rfl
     |ok y=>
      dsimp only
      cases y.1.2.1 with
      |true=>rfl
      |false=>
       rw [if_neg Bool.false_ne_true,if_neg Bool.false_ne_true]
       cases Z9 WK.at_.words y.2.1 y.2.2.1 with
       |error er=>rfl
       |ok z=>rfl
theorem Z6f {pe:PE} (h:Gd NeR pe):Gd NoR (Up pe):=by
 rw [Z6e]
 refine V4 (gd_b h (fun x=>V4 (gd_R _ _) (V0 _) fun _ _ _ _ _ f=> .inl rfl) fun _ _ _ _ _ _ _ _ f=> .inl rfl) (V4 (Z4f h _ _) (gd_b (Zki _) (fun k=> ?_) ?_) fun _ _ _ _ _ f=> .inl rfl) fun _ _ _ _ _ f=> .inl rfl
 · split
   · exact Z4f h _ _
   · exact gd_b (Zid _) (fun a=>gd_R _ _) (fun _ _ _ _ _ _ h=>h.elim)
 · rintro y y' l e z x rfl _ f
   exact .inl rfl
theorem Z9z {pe:PE} (h:Gd NeR pe):Gd NeR (pFac pe):=by
 have h2:=(Z6f h).mono (rel':=NeR) fun _ _ h=>h.elim
 intro l e
 cases l with
 |nil=>
  obtain ⟨g1,g2⟩:=h2 [] e
  refine ⟨fun y x hy=> ?_,fun er h=> ?_⟩
  rotate_left
  · obtain ⟨j,c0,h3,h4,h5⟩:=g2 er h
    refine ⟨j,c0,h3,h4,fun l' f hl=> ?_⟩
    have e1:l'= []:=Vq (m:=0) (by simpa using hl)
    subst e1
    exact h5 [] f rfl
  obtain ⟨k,hx,hk,ho⟩:=g1 y x hy
  refine ⟨k,hx,hk,fun l' m f hl=> ?_⟩
  have e1:l'= []:=Vq hl
  have:=ho l' m f hl
  subst e1
  exact this
 |cons t r=>
  have key:∀(t:Tok) (r:List Tok) (e:Int),pFac pe (t::r) e=if t.kind=2 then pB Xf (fun d=>pR (.mk 1 t.n (d.getD 0 0) (d.getD 1 0) (d.getD 2 0) (d.getD 3 0) [])) r e else Up pe (t::r) e:=by
   intro t r e
   show (if t.kind=2 then _ else _)=_
   split
   · unfold pB
     cases Xf r e with
     |error er=>rfl
     |ok y=>rfl
   · rfl
  rw [key]
  by_cases hk:t.kind=2
  · rw [if_pos hk]
    have hg:Gd NeR (pB Xf fun d=>pR (.mk 1 t.n (d.getD 0 0) (d.getD 1 0) (d.getD 2 0) (d.getD 3 0) [])):=by
     refine gd_b Z59 (fun d=>gd_R _ _) ?_
     intro y y' l e z x _ hz f
     unfold pR at hz
     cases hz
     exact .inr ⟨.mk 1 t.n (y'.getD 0 0) (y'.getD 1 0) (y'.getD 2 0) (y'.getD 3 0) [],by show Zy _<=Zy _;simp [Zy],rfl⟩
    refine ⟨fun y x hy=> ?_,fun er h=> ?_⟩
    rotate_left
    · obtain ⟨j,c0,h3,h4,h5⟩:=(hg r e).2 er h
      refine ⟨j+1,c0,h3,h4,fun l' f hl=> ?_⟩
      cases l' with
      |nil=>simp at hl
      |cons t' r'=>
       obtain ⟨g1,_,g3⟩:=Wi (List.cons.inj hl).1
       rw [key,g1,g3,if_pos hk]
       exact h5 r' f (List.cons.inj hl).2
    obtain ⟨k,rfl,h1,h2⟩:=(hg r e).1 y x hy
    refine ⟨k+1,rfl,by simpa using h1,fun l' m f hl=> ?_⟩
    rcases Y4 hl with ⟨rfl,h3⟩|⟨t',r',t2,r2,m',rfl,h3,rfl,h4,h5⟩
    · have hm:m=0:=by
       rcases h3 with h3|h3
       · exact h3
       · cases h3
      subst hm
      exact ⟨fun h=>by omega,fun _=> .inl rfl⟩
    · cases h3
      obtain ⟨g1,_,g3⟩:=Wi h4
      rw [key,g1,g3,if_pos hk]
      exact ⟨fun hm=>(h2 r' m' f h5).1 (by omega),fun hm=>(h2 r' m' f h5).2 (by omega)⟩
  · rw [if_neg hk]
    obtain ⟨g1,g2⟩:=h2 (t::r) e
    refine ⟨fun y x hy=> ?_,fun er h=> ?_⟩
    rotate_left
    · obtain ⟨j,c0,h3,h4,h5⟩:=g2 er h
      refine ⟨j,c0,h3,h4,fun l' f hl=> ?_⟩
      cases l' with
      |nil=>simp at hl
      |cons t' r'=>
       obtain ⟨q1,_,_⟩:=Wi (List.cons.inj hl).1
       rw [key,q1,if_neg hk]
       exact h5 _ f hl
    obtain ⟨k,hx,hk',ho⟩:=g1 y x hy
    refine ⟨k,hx,hk',fun l' m f hl=> ?_⟩
    have:=ho l' m f hl
    rcases Y4 hl with ⟨rfl,h3⟩|⟨t',r',t2,r2,m',rfl,h3,rfl,h4,h5⟩
    · exact this
    · cases h3
      obtain ⟨q1,_,_⟩:=Wi h4
      rw [key,q1,if_neg hk]
      exact this
theorem Z02:pOp op1=pOpt (fun t=>isW sMul [t]) (fun _=>5) 0:=by
 funext l e
 cases l with
 |nil=>rfl
 |cons t r=>
  unfold pOp pOpt op1
  dsimp only
  rw [show isW sMul (t::r)=isW sMul [sT t] from rfl]
  split<;>rfl
theorem Z03:pOp op2=pOpt (fun t=>isW Za5 [t]||isW Vm [t]) (fun t=>if isW Za5 [t] then 3 else 4) 0:=by
 funext l e
 cases l with
 |nil=>rfl
 |cons t r=>
  unfold pOp pOpt op2
  dsimp only
  rw [show isW Za5 (t::r)=isW Za5 [sT t] from rfl,show isW Vm (t::r)=isW Vm [sT t] from rfl]
  by_cases h1:isW Za5 [sT t]=true
  · simp [h1]
  · by_cases h2:isW Vm [sT t]=true
    · simp [h1,h2]
    · simp [h1,h2]
theorem Z90:Gd (fun a _=>a=0) (pOp op1):=by rw [Z02];exact Zv1 _ _ _
theorem Z91:Gd (fun a _=>a=0) (pOp op2):=by rw [Z03];exact Zv1 _ _ _
theorem Z92 (op:Int) (x y:Ex):Zy (.mk op 0 0 0 0 0 [x,y])=max (Zy x) (Zy y)+1:=by simp [Zy,Zdp]
theorem Zv5 (o:List Tok->Int×List Tok) (pf:PE) (k:Nat) (x:Ex) (op:Int):Yw o pf (k+1) x op=if op=0 then pR x else pB pf fun y=>pB (pOp o) fun op'=>Yw o pf k (.mk op 0 0 0 0 0 [x,y]) op':=by
 funext l e
 rw [Yw]
 split
 · rfl
 · unfold pB pOp
   cases pf l e with
   |error er=>rfl
   |ok y=>rfl
theorem Zie (o:List Tok->Int×List Tok) (pf:PE) (k:Nat) (x:Ex):Yw o pf k x 0=pR x:=by
 cases k with
 |zero=>rfl
 |succ k=>rw [Zv5,if_pos rfl]
theorem Uh {o:List Tok->Int×List Tok} {pf:PE}:∀{k:Nat} {x:Ex} {op:Int} {l:List Tok} {e:Int} {z:Ex} {y:PX},Yw o pf k x op l e= .ok (z,y)->Zy x<=Zy z
 |0,x,op,l,e,z,y,h=>by
  unfold Yw at h
  cases h
  exact Nat.le_refl _
 |k+1,x,op,l,e,z,y,h=>by
  unfold Yw at h
  split at h
  · cases h
    exact Nat.le_refl _
  · split at h
    · cases h
    · have:=Uh h
      rw [Z92] at this
      omega
theorem b_ok {α β:Type} {p:PP α} {q:α->PP β} {l:List Tok} {e:Int} {z:β×PX} (h:pB p q l e= .ok z):∃y x,p l e= .ok (y,x)/\q y x.1 x.2.1= .ok z:=by
 unfold pB at h
 split at h
 · cases h
 · exact ⟨_,_,by assumption,h⟩
theorem Zv6 {o:List Tok->Int×List Tok} (ho:Gd (fun a _=>a=0) (pOp o)) (ho0:o []=(0,[])) {pf:PE} (h:Gd NeR pf):∀(k:Nat) (x:Ex) (op:Int),Gd NeR (Yw o pf k x op)
 |0,x,op=>gd_R _ x
 |k+1,x,op=>by
  rw [Zv5]
  split
  · exact gd_R _ _
  · refine gd_b h (fun y=>gd_b ho (fun op'=>Zv6 ho ho0 h k _ op') ?_) ?_
    · rintro op1 op2 l e z x2 rfl hz f
      rw [Zie]
      exact .inr ⟨_,Uh hz,rfl⟩
    · intro y y' l e z x2 hy hz f
      obtain ⟨op',x3,_,hz⟩:=b_ok hz
      have h1:=Uh hz
      refine .inr ⟨.mk op 0 0 0 0 0 [x,y'],?_,?_⟩
      · have hy:Zy y'<=Zy y:=hy
        show Zy _<=Zy z
        rw [Z92] at h1⊢
        omega
      · unfold pB pOp
        rw [ho0]
        dsimp only
        rw [Zie]
        rfl
def pChN (o:List Tok->Int×List Tok) (pf:PE) (N:Nat):PE:=pB pf fun y=>pB (pOp o) fun op=>Yw o pf N y op
theorem Z93 {o:List Tok->Int×List Tok} (ho:Gd (fun a _=>a=0) (pOp o)) (ho0:o []=(0,[])) {pf:PE} (h:Gd NeR pf) (N:Nat):Gd NeR (pChN o pf N):=by
 unfold pChN
 refine gd_b h (fun y=>gd_b ho (fun op=>Zv6 ho ho0 h N y op) ?_) ?_
 · rintro op1 op2 l e z x2 rfl hz f
   rw [Zie]
   exact .inr ⟨_,Uh hz,rfl⟩
 · intro y y' l e z x2 hy hz f
   obtain ⟨op',x3,_,hz⟩:=b_ok hz
   have h1:=Uh hz
   refine .inr ⟨y',Nat.le_trans hy h1,?_⟩
   unfold pB pOp
   rw [ho0]
   dsimp only
   rw [Zie]
   rfl
theorem Ych {o:List Tok->Int×List Tok} (ho:∀l,(o l).2.length<=l.length) {pf:PE} (hp:Shr pf) {N:Nat} {l:List Tok} (hl:l.length<N) (e:Int):pCh o pf l e=pChN o pf N l e:=by
 unfold pCh pChN pB pOp
 cases hq:pf l e with
 |error er=>rfl
 |ok y=>
  have h1:=hp _ _ _ _ hq
  have h2:=ho y.2.1
  exact Zcr ho hp _ _ _ _ _ _ (by omega) (by omega)
theorem Z6g {β:Type} {rel:β->β->Prop} {p:PP β} (q:Nat->PP β) (hq:∀N,Gd rel (q N)) (h:∀N l e,l.length<N->p l e=q N l e):Gd rel p:=by
 intro l e
 have h1:=h (l.length+1) l e (Nat.lt_succ_self _)
 rw [h1]
 refine ⟨fun y x hy=> ?_,fun er h'=> ?_⟩
 rotate_left
 · obtain ⟨j,c0,h3,h4,h5⟩:=(hq _ l e).2 er h'
   refine ⟨j,c0,h3,h4,fun l' f hl=> ?_⟩
   have hlen:=congrArg List.length hl
   rw [List.length_map,List.length_map] at hlen
   rw [h (l.length+1) l' f (by omega)]
   exact h5 l' f hl
 obtain ⟨k,hx,hk,ho⟩:=(hq _ l e).1 y x hy
 refine ⟨k,hx,hk,fun l' m f hl=> ?_⟩
 have hlen:l'.length<=l.length:=by
  have:=congrArg List.length hl
  rw [List.length_map,List.length_take,List.length_map] at this
  omega
 rw [h (l.length+1) l' f (by omega)]
 exact ho l' m f hl
theorem Z94 {o:List Tok->Int×List Tok} (hle:∀l,(o l).2.length<=l.length) (ho:Gd (fun a _=>a=0) (pOp o)) (ho0:o []=(0,[])) {pf:PE} (hp:Shr pf) (h:Gd NeR pf):Gd NeR (pCh o pf):=
 Z6g (pChN o pf) (Z93 ho ho0 h) fun N l e hl=>Ych hle hp hl e
theorem gd_E:∀n,Gd NeR (pE n)
 |0=>V0 _
 |n+1=>by
  unfold pE
  exact Z94 Zp1 Z91 rfl (Za6 Zcz (W0 (V2 n))).shr (Z94 Zp0 Z90 rfl (Zia (V2 n)) (Z9z (gd_E n)))
theorem gd_X:Gd NeR pX:=Z6g pE gd_E fun N l e hl=>(Z38 N l e hl).symm
theorem Z95 (nm:List Nat) (ts:List Tst):pPay nm ts=pIf [112,97,121] (pBc pX (fun x=>decide (24<Zy x)) 2 fun x=>pIf [59] (pR ⟨nm,ts,x⟩) pSyn) pSyn:=by
 funext l e
 unfold pPay pIf pBc pSyn
 split
 · cases pX l.tail e with
   |error er=>rfl
   |ok y=>
    dsimp only
    by_cases h:24<Zy y.1
    · rw [if_pos h,if_pos (decide_eq_true h)]
    · rw [if_neg h,if_neg (show ¬decide (24<Zy y.1)=true by simpa using h)]
      rfl
 · rfl
theorem Z4g (nm:List Nat) (ts:List Tst):Gd NoR (pPay nm ts):=by
 rw [Z95]
 refine V4 (Z00 gd_X (fun x=>V4 (gd_R _ _) (V0 _) fun _ _ _ _ _ f=> .inl rfl) (by simp) ?_ fun _ _ _ _ _ _ _ _ f=> .inl rfl) (V0 _) fun _ _ _ _ _ f=> .inl rfl
 intro y y' h hc
 have h:Zy y'<=Zy y:=h
 rw [decide_eq_false_iff_not] at hc⊢
 omega
theorem Zv7 (bs:List Cls):Z3 bs=pBc V5 (fun nm=>bs.any fun b=>b.name==nm) 161 fun nm=>pIf [119,104,101,110] (pB (pTs 10 true []) fun ts=>pPay nm ts) (pPay nm []):=by
 funext l e
 unfold Z3 pBc pIf pB
 cases V5 l e with
 |error er=>rfl
 |ok y=>
  dsimp only
  by_cases hb:(bs.any fun b=>b.name==y.1)=true
  · rw [if_pos hb,if_pos hb]
  · rw [if_neg hb,if_neg hb]
    by_cases hw:isW [119,104,101,110] y.2.1=true
    · rw [if_pos hw,if_pos hw,hw]
      unfold pAft
      cases pTs 10 true [] y.2.1.tail y.2.2.1 with
      |error er=>rfl
      |ok z=>rfl
    · rw [if_neg hw,if_neg hw]
      rw [Bool.not_eq_true] at hw
      rw [hw,Z6c]
      rfl
theorem Zv8 (nm:List Nat) (ts:List Tst) (f:Int):pPay nm ts [] f= .error (f,160):=rfl
theorem Zv9 (bs:List Cls):Gd NoR (Z3 bs):=by
 rw [Zv7]
 refine Z00 Zv4 (fun nm=>V4 (gd_b (Z6d _ _ _) (fun ts=>Z4g _ _) fun _ _ _ _ _ _ _ _ f=> .inl (Zv8 _ _ _)) (Z4g _ _) fun _ _ _ _ _ f=> .inl (Zv8 _ _ _)) (by simp) (fun _ _ h=>h.elim) (fun _ _ _ _ _ _ h=>h.elim)
theorem Z96 (k:Nat) (cs:List Cls) (h:cs.length≠64):pCls (k+1) cs=pIf [99,108,97,117,115,101] (pB (Z3 cs) fun c=>pCls k (cs++ [c])) (pR cs):=by
 funext l e
 rw [pCls]
 unfold pIf pB
 split
 · cases Z3 cs l.tail e with
   |error er=>rfl
   |ok y=>rfl
 · rfl
theorem Z4h:∀(k:Nat) (cs:List Cls),Gd AnyR (pCls k cs)
 |0,cs=>gd_R _ cs
 |k+1,cs=>by
  by_cases h:cs.length=64
  · intro l e
    rw [pCls,if_pos h]
    cases hw:isW [99,108,97,117,115,101] l with
    |true=>
     rw [if_pos rfl]
     refine ⟨fun y x h=>(by cases h),fun er h'=> ?_⟩
     cases h'
     refine .hd (by simp) fun l' f hl=> ?_
     have:isW [99,108,97,117,115,101] l'=true:=by
      cases l' with
      |nil=>
       cases l with
       |nil=>cases hw
       |cons t r=>simp at hl
      |cons t' r'=>
       cases l with
       |nil=>simp at hl
       |cons t r=>
        rw [Zkh (r:=r) (List.cons.inj hl).1]
        exact hw
     rw [pCls,if_pos h,this,if_pos rfl]
    |false=>
     rw [if_neg Bool.false_ne_true]
     refine ⟨fun y x hy=> ?_,fun er h=>(by cases h)⟩
     cases hy
     refine ⟨0,rfl,Nat.zero_le _,fun l' m f hl=>⟨fun _=> ?_,fun h=>by omega⟩⟩
     have:isW [99,108,97,117,115,101] l'=false:=by
      rcases Y4 hl with ⟨rfl,_⟩|⟨t',r',t,r,m',rfl,rfl,rfl,h4,h5⟩
      · rfl
      · rw [Zkh (r:=r) h4]
        exact hw
     rw [pCls,this,if_neg Bool.false_ne_true]
     rfl
  · rw [Z96 k cs h]
    refine V4 (gd_b (Zv9 cs) (fun c=>Z4h k _) (fun _ _ _ _ _ _ h=>h.elim)) (gd_R _ _) fun _ _ _ _ _ f=> .inr ⟨cs,trivial,rfl⟩
theorem Zkj:∀(k k':Nat) (cs:List Cls) (l:List Tok) (e:Int),l.length<k->l.length<k'->pCls k cs l e=pCls k' cs l e
 |0,_,_,_,_,h,_=>by omega
 |_+1,0,_,_,_,_,h=>by omega
 |k+1,k'+1,cs,l,e,h,h'=>by
  unfold pCls
  split
  · rename_i hw
    split
    · rfl
    · have h1:=Zp hw
      cases hq:Z3 cs l.tail e with
      |error er=>rfl
      |ok y=>
       have h2:=Za9 hq
       exact Zkj k k' _ _ _ (by omega) (by omega)
  · rfl
def pEof (t:Tar):PP Tar:=fun l e=>if 0<l.length then .error (hdT e l,160) else .ok (t,l,e,())
theorem Z97 (t:Tar):Gd NoR (pEof t):=by
 intro l e
 unfold pEof
 split
 · rename_i h0
   refine ⟨fun y x h=>(by cases h),fun er h=> ?_⟩
   cases h
   refine .hd (by simp) fun l' f hl=> ?_
   have hlen:=congrArg List.length hl
   rw [List.length_map,List.length_map] at hlen
   show (if 0<l'.length then _ else _)=_
   rw [if_pos (by omega)]
 · rename_i hl
   have:l= []:=List.eq_nil_of_length_eq_zero (by omega)
   subst this
   refine ⟨fun y x hy=> ?_,fun er h=>(by cases h)⟩
   cases hy
   refine ⟨0,rfl,Nat.zero_le _,fun l' m f hl=>⟨fun _=> ?_,fun h=>by omega⟩⟩
   have:l'= []:=Vq hl
   subst this
   rfl
def Zwa (N:Nat):PP Tar:=pIf [116,97,114,105,102,102] (pB V5 fun nm=>pIf [102,111,114] (pB (Z9 WK.ki.words) fun k=>pIf [123] (pB (pCls N []) fun cs=>pIf [125] (pEof ⟨nm,wr .i64 (1+k),cs⟩) pSyn) pSyn) pSyn) pSyn
theorem Z6h (N:Nat):Gd NoR (Zwa N):=by
 unfold Zwa
 refine V4 (gd_b Zv4 (fun nm=>V4 (gd_b (Zid _) (fun k=>V4 (gd_b (Z4h _ _) (fun cs=>V4 (Z97 _) (V0 _) fun _ _ _ _ _ f=> .inl rfl) ?_) (V0 _) fun _ _ _ _ _ f=> .inl rfl) (fun _ _ _ _ _ _ h=>h.elim)) (V0 _) fun _ _ _ _ _ f=> .inl rfl) (fun _ _ _ _ _ _ h=>h.elim)) (V0 _) fun _ _ _ _ _ f=> .inl rfl
 exact fun _ _ _ _ _ _ _ _ f=> .inl rfl
theorem Z4i (N:Nat) (l:List Tok) (e:Int) (h:l.length<N):pTar l e=Zwa N l e:=by
 unfold pTar Zwa pIf pB pSyn
 split
 · rename_i hw
   have h1:=Zp hw
   cases hn:V5 l.tail e with
   |error er=>rfl
   |ok y=>
    have h2:=Zbv hn
    dsimp only
    split
    · rename_i hw2
      have h3:=Zp hw2
      cases hm:Z9 WK.ki.words y.2.1.tail y.2.2.1 with
      |error er=>rfl
      |ok z=>
       obtain ⟨_,_,hz⟩:=U7 hm
       have h4:z.2.1.length<=y.2.1.tail.length:=by
        rw [hz]
        show y.2.1.tail.tail.length<=_
        rw [List.length_tail (l:=y.2.1.tail)]
        omega
       dsimp only
       split
       · rename_i hw3
         have h5:=Zp hw3
         rw [Zkj (z.2.1.tail.length+1) N [] z.2.1.tail z.2.2.1 (by omega) (by omega)]
         cases pCls N [] z.2.1.tail z.2.2.1 with
         |error er=>rfl
         |ok u=>rfl
       · rfl
    · rfl
 · rfl
theorem Z98:Gd NoR pTar:=Z6g Zwa Z6h Z4i
end
section
open Go
def TkG (t:Tok):Prop:=TokW t.text/\sT t=tkS t.text/\(t.kind=1->Vb t.text=true)/\(t.kind=2->0<=t.n/\t.n<=1099511627776)
def LxOk (l:List Tok):Prop:=∀t∈l,TkG t
theorem LxOk.drop {l:List Tok} (h:LxOk l) (k:Nat):LxOk (l.drop k):=fun t ht=>h t (List.mem_of_mem_drop ht)
theorem LxOk.tail {l:List Tok} (h:LxOk l):LxOk l.tail:=fun t ht=>h t (List.mem_of_mem_tail ht)
section
variable {α β : Type}
end
theorem Zli (s:List (List Nat)) (c:Cls) (r:List Cls):CsOk s (c::r)=(Wa c=true/\resF c.name=false/\c.name∉s/\c.when_.length<=8/\Zy c.pay<=24/\CsOk (c.name::s) r):=rfl
end
section
open Go
def En {β:Type} (p:PP β):Prop:=∀l e y x,p l e= .ok (y,x)->x.1= []
theorem Zqa {β:Type}:En (pSyn:PP β):=fun l e y x h=>by cases h
theorem en_b {α β:Type} {p:PP α} {q:α->PP β} (hq:∀y,En (q y)):En (pB p q):=fun l e y x h=>by
 obtain ⟨y1,x1,_,h2⟩:=b_ok h
 exact hq y1 _ _ _ _ h2
theorem Z0w {β:Type} {s:List Nat} {A B:PP β} (hA:En A) (hB:En B):En (pIf s A B):=fun l e y x h=>by
 unfold pIf at h
 split at h
 · exact hA _ _ _ _ h
 · exact hB _ _ _ _ h
theorem Z9l (t:Tar):En (pEof t):=fun l e y x h=>by
 unfold pEof at h
 split at h
 · cases h
 · rename_i hl
   cases h
   exact List.eq_nil_of_length_eq_zero (Nat.le_zero.1 (Nat.le_of_not_lt hl))
theorem Z9m:En pTar:=fun l e y x h=>by
 rw [Z4i _ l e (Nat.lt_succ_self _)] at h
 exact Z0w (en_b fun nm=>Z0w (en_b fun k=>Z0w (en_b fun cs=>Z0w (Z9l _) Zqa) Zqa) Zqa) Zqa l e y x h
theorem Z52 {l:List Tok} {e:Int} {t:Tar} {x:PX} (h:pTar l e= .ok (t,x)):(∀l' f,l'.map sT=l.map sT->pTar l' f= .ok (t,[],f,()))/\∀l' m f,m<l.length->l'.map sT=(l.map sT).take m->pTar l' f= .error (f,160):=by
 have hn:=Z9m l e t x h
 obtain ⟨k,rfl,hk,ho⟩:=(Z98 l e).1 t x h
 have hk2:l.length<=k:=by
  have:=congrArg List.length hn
  rw [List.length_drop] at this
  simp at this
  omega
 have hk3:k=l.length:=by omega
 subst hk3
 refine ⟨fun l' f hl=> ?_,fun l' m f hm hl=> ?_⟩
 · have hlen:=congrArg List.length hl
   rw [List.length_map,List.length_map] at hlen
   rw [(ho l' l.length f (Zbt hl)).1 (Nat.le_refl _),List.drop_eq_nil_of_le (by omega)]
 · rcases (ho l' m f hl).2 hm with h|⟨y',h,_⟩
   · exact h
   · exact h.elim
def AllW (ws:List (List Nat)):Prop:=∀w∈ws,TokW w
theorem Wy {a b:List (List Nat)} (h1:AllW a) (h2:AllW b):AllW (a++b):=fun w hw=>(List.mem_append.1 hw).elim (h1 w) (h2 w)
theorem Ze {w:List Nat} {b:List (List Nat)} (h1:TokW w) (h2:AllW b):AllW (w::b):=fun x hx=>(List.mem_cons.1 hx).elim (fun e=>e▸h1) (h2 x)
theorem Z1:AllW []:=fun w hw=>by cases hw
theorem tw {w:List Nat} (h1:(tokP w).2=0) (h2:(tokP w).1.text=w) (h3:w≠ []):TokW w:=⟨h1,h2,h3⟩
theorem Zmr:TokW Xb:=tw rfl rfl (by decide)
theorem Zib:TokW Zx:=tw rfl rfl (by decide)
theorem Zic:TokW Z0:=tw rfl rfl (by decide)
theorem Z53:TokW Zcd:=tw rfl rfl (by decide)
theorem Z54:TokW Zfo:=tw rfl rfl (by decide)
theorem Z55:TokW Za5:=tw rfl rfl (by decide)
theorem Z0x:TokW Vm:=tw rfl rfl (by decide)
theorem Z9n:TokW sMul:=tw rfl rfl (by decide)
theorem Z56:TokW Zbs:=tw rfl rfl (by decide)
theorem Yb9:TokW sLb:=tw rfl rfl (by decide)
theorem Yca:TokW sRb:=tw rfl rfl (by decide)
theorem Ycb:TokW sIf:=tw rfl rfl (by decide)
theorem Z4c:TokW sPer:=tw rfl rfl (by decide)
theorem Ycc:TokW sIs:=tw rfl rfl (by decide)
theorem Ycd:TokW sIn:=tw rfl rfl (by decide)
theorem Z9o:TokW sPay:=tw rfl rfl (by decide)
theorem Z9p:TokW sFor:=tw rfl rfl (by decide)
theorem Zvt:TokW Zfp:=tw rfl rfl (by decide)
theorem Zvu:TokW Xu:=tw rfl rfl (by decide)
theorem Z57:TokW Zey:=tw rfl rfl (by decide)
theorem Z9q:TokW sAnd:=tw rfl rfl (by decide)
theorem Zkg {k:WK} {i:Nat} (h:i<k.words.length):TokW (k.words.getD i []):=Ze9 (Zis h)
theorem Z9r {a b c d:Int} (h:Zaj [a,b,c,d]=true):AllW (txU [a,b,c,d]):=by
 rcases unF h with ⟨_,h2⟩|⟨i,hi,_,h2⟩|⟨j,hj,_,h2⟩|⟨i,hi,j,hj,_,h2⟩
 · rw [h2];exact Z1
 · rw [h2];exact Ze (Zkg (k:= .un) hi) Z1
 · rw [h2];exact Ze Z4c (Ze (Zkg (k:= .un) hj) Z1)
 · rw [h2];exact Ze (Zkg (k:= .un) hi) (Ze Z4c (Ze (Zkg (k:= .un) hj) Z1))
theorem Zqb {op least:Int} {t:List (List Nat)} (h:AllW t):AllW (par op least t):=by
 unfold par
 split
 · exact h
 · exact Ze Zmr (Wy h (Ze Zib Z1))
theorem Zvv:∀{ts:List (List (List Nat))} {ss:List (List Nat)},(∀t∈ts,AllW t)->AllW ss->AllW (txS ts ss)
 | [],_,_,_=>by unfold txS;exact Z1
 |t::r,[],_,_=>by unfold txS;exact Z1
 |t::r,s::ss,h1,h2=>by
  unfold txS
  exact Wy (h1 t (by simp)) (Ze (h2 s (by simp)) (Zvv (fun t ht=>h1 t (by simp [ht])) fun w hw=>h2 w (by simp [hw])))
theorem Zvw:∀{l:List Ex} {t:List (List Nat)},t∈txL l->∃x∈l,t=txX x
 | [],t,h=>by cases h
 |x::r,t,h=>by
  unfold txL at h
  rcases List.mem_cons.1 h with rfl|h
  · exact ⟨x,by simp,rfl⟩
  · obtain ⟨y,hy,e⟩:=Zvw h
    exact ⟨y,by simp [hy],e⟩
theorem Z9s:∀(x:Ex),Zz x=true->AllW (txX x):=by
 suffices H:∀(m:Nat) (x:Ex),x.sz<=m->Zz x=true->AllW (txX x) from fun x=>H _ x (Nat.le_refl _)
 intro m
 induction m with
 |zero=>intro x h;have:=x.sz_pos;omega
 |succ m ih=>
  intro x hm hf
  rw [Zd6,Bool.and_eq_true] at hf
  obtain ⟨hh,hl⟩:=hf
  have hkid:∀y∈x.l,AllW (txX y):=fun y hy=>ih y (by have:=Ex.sz_mem hy;omega) (formL_iff.1 hl y hy)
  obtain ⟨op,n,a,b,c,d,l⟩:=x
  simp only [Ex.op,Ex.n,Ex.u,Ex.d0,Ex.d1,Ex.d2,Ex.d3,Ex.l] at hh hkid
  obtain ⟨h1,h2,h3,h4,h5,h6,h7⟩:=Zcs hh
  have hts:∀t∈txL l,AllW t:=by
   intro t ht
   obtain ⟨x,hx,rfl⟩:=Zvw ht
   exact hkid x hx
  have hget:∀i,AllW ((txL l).getD i []):=by
   intro i
   by_cases hi:i<(txL l).length
   · have:(txL l).getD i []=(txL l)[i]:=by simp [List.getD,hi]
     rw [this]
     exact hts _ (List.getElem_mem hi)
   · have:(txL l).getD i []= []:=by simp [List.getD,hi]
     rw [this]
     exact Z1
  rw [txX]
  unfold txN
  split
  · rename_i q
    subst q
    exact Ze (Zdw h3 h4) (Z9r h6)
  · split
    · rename_i q
      subst q
      have:n<=15:=h4
      exact Ze (Zkg (k:= .at_) (show n.toNat<16 by omega)) Z1
    · split
      · exact Ze Ycb (Ze Zmr (Zvv hts (Ze Z53 (Ze Zic (Ze Zic (Ze Zib Z1))))))
      · split
        · refine Wy (Zqb (hget 0)) (Ze ?_ (Zqb (hget 1)))
          unfold sgnO
          split
          · exact Z55
          · split
            · exact Z0x
            · exact Z9n
        · exact Ze (Zkg (k:= .ca) (show (op-6).toNat<5 by omega)) (Ze Zmr (Zvv hts (Ze Zic (Ze Zib Z1))))
theorem Z9t {w:Tst} (h:Z6 w=true):AllW (txW w):=by
 obtain ⟨a0,a1,l0,l1,h0,h1⟩:=Ui h
 unfold txW
 refine Ze (Zkg (k:= .at_) (show w.attr.toNat<16 by omega)) ?_
 split
 · exact Ze Ycc (Ze (Zdw l0 l1) Z1)
 · exact Ze Ycd (Ze (Zdw l0 l1) (Ze Z56 (Ze (Zdw h0 h1) Z1)))
theorem Zvx:∀{ws:List Tst} (i:Nat),(∀w∈ws,Z6 w=true)->AllW (txTs i ws)
 | [],_,_=>Z1
 |w::r,i,h=>by
  rw [Ze3]
  refine Ze ?_ (Wy (Z9t (h w (by simp))) (Zvx _ fun w hw=>h w (by simp [hw])))
  split
  · exact Z57
  · exact Z9q
theorem Z9u {c:Cls} (h:Wa c=true):AllW (txC c):=by
 obtain ⟨k1,k2,k3⟩:=Za2 h
 exact Ze Zvu (Ze (Ze9 k1) (Wy (Zvx _ k3) (Ze Z9o (Wy (Z9s _ k2) (Ze Z54 Z1)))))
theorem Zvy:∀{cs:List Cls} {s:List (List Nat)},CsOk s cs->AllW (txCs cs)
 | [],_,_=>Z1
 |c::r,s,h=>by
  rw [Zli] at h
  rw [Ze4]
  exact Wy (Z9u h.1) (Zvy h.2.2.2.2.2)
theorem Zqc {t:Tar} (h:Z7 t=0):AllW (Uq t):=by
 obtain ⟨h1,h2,h3,h4,h5,h6⟩:=(Za1 t).1 h
 exact Ze Zvt (Ze (Ze9 h1) (Ze Z9p (Ze (Zkg (k:= .ki) (show (t.for_-1).toNat<6 by omega)) (Ze Yb9 (Wy (Zvy h6) (Ze Yca Z1))))))
theorem Yce (ws:List (List Nat)):(TS ws).map sT=TS ws:=by
 rw [List.map_map]
 rfl
theorem Z0y {s:List Nat} {l:List Tok} (h:Lx s 0 l) (hs:s.length<=2000):Vn s=outT (pTar l s.length):=by
 unfold Vn
 rw [Zx3 h hs,if_neg (by simp)]
theorem Zms {s:List Nat} {l:List Tok} (h:Lx s 0 l) (hs:s.length<=2000) {l0:List Tok} {e:Int} {t:Tar} {x:PX} (ht:pTar l0 e= .ok (t,x)) (hl:l.map sT=l0.map sT):Vn s=(t,0,0):=by
 rw [Z0y h hs,(Z52 ht).1 l s.length hl]
 rfl
theorem Zmt {t:Tar} (h:Z7 t=0) (hs:(Wm (Uq t)).length<=2000):Vn (Wm (Uq t))=(t,0,0):=by
 refine Zms (Zx4 0 (Zqc h)) hs (Z1n h 0) ?_
 rw [Z4r,Yce]
theorem Zgv {t:Tar} (h:Z7 t≠0):W5 t=([],Z7 t):=by
 unfold W5
 rw [if_pos h]
theorem Z9v {t:Tar} (h:(W5 t).2=0):Z7 t=0/\(Wm (Uq t)).length<=2000/\W5 t=(Wm (Uq t),0):=by
 unfold W5 at h⊢
 split at h
 · rename_i hc
   exact absurd h hc
 · rename_i hc
   split at h
   · cases h
   · rename_i hl
     rw [if_neg hc,if_neg hl]
     exact ⟨by simpa using hc,by omega,rfl⟩
theorem Zmu {t:Tar} (h:Z7 t=0):((W5 t).2=0/\(Wm (Uq t)).length<=2000/\(W5 t).1=Wm (Uq t))\/(W5 t=([],2)):=by
 unfold W5
 rw [if_neg (by simpa using h)]
 split
 · exact .inr rfl
 · rename_i hl
   exact .inl ⟨rfl,by omega,rfl⟩
end
section
open Go
structure PcX where
 k:Nat
 r:Nat
 L:List (List Nat)
 fz:Nat
def cOfP (h:Hp thy) (v:SV thy):Nat:=match h (bOf v) with|some (.raw (.sl c _ _ _ _::_) _ _)=>c|_=>0
noncomputable def Apc:Fr thy->Hp thy->Nat->Ann thy:=fun T h i=>{X:=PcX,fr:=fun x=> [(0,T 0),(3,T 3),(12,T 12),(13,T 13),(14,.int false .i64 x.k)],bl:=fun x=>(bOf (T 0),.raw [.sl i 0 x.L.length 1 none] 0 none)::(i,.rows Th.strs x.L x.fz)::blkP h (T 3),src:=fun x=> [(i,1000)],md:= [bOf (T 0),cOfP h (T 0)],ih:=i+1,M:=i+60,meas:=fun x=>x.r}
noncomputable def Fpc:Fns thy:=addL (addS Fpu 58 (Sxp 1000000000)) 25 3 Apc E
def clA (c:Cls):SV thy:= .agg (encF false .clauses c)
abbrev qCSv (a0:Cls):=(Cls.pay a0)
abbrev qCSl (a0:Cls):=(Cls.when_ a0=Cls.when_ a0/\(false=true->false=true))
abbrev qCS1 (a0:Cls):=(Cls.name a0=Cls.name a0/\(qCSl a0)/\Ex.op (qCSv a0)=Ex.op (qCSv a0)/\Ex.n (qCSv a0)=Ex.n (qCSv a0)/\Ex.d0 (qCSv a0)=Ex.d0 (qCSv a0)/\Ex.d1 (qCSv a0)=Ex.d1 (qCSv a0)/\Ex.d2 (qCSv a0)=Ex.d2 (qCSv a0)/\Ex.d3 (qCSv a0)=Ex.d3 (qCSv a0)/\(Ex.l (qCSv a0)=Ex.l (qCSv a0)/\(false=true->false=true))/\True)
abbrev qCSr:=(1:Int)
abbrev qCSj:=(0:Nat)
abbrev qCSh (a0:PcX):=(↑(PcX.k a0):Int)
abbrev qCSe (a0:Cls):=(↑(List.length (Cls.when_ a0)):Int)
abbrev qCS2 (a0:Cls) (b0:PcX) (c0:PcX):=(qCSj=qCSj/\qCSj=qCSj/\(qCSl a0)/\(qCSe a0)=(qCSe a0)/\wr IntKind.i64 ((qCSh b0)+qCSr)=(qCSh c0)/\True)
abbrev qCSu (a0:PcX):=(List.length (PcX.L a0))
abbrev qCS3 (a0:PcX) (b0:List Nat):=(List.take (qCSu a0) (PcX.L a0)++ [[(119:Nat),(104:Nat),(101:Nat),(110:Nat)],b0])
abbrev qCS4 (a0:PcX) (b0:List Nat):=(List.take (qCSu a0) (PcX.L a0)++ [[(97:Nat),(110:Nat),(100:Nat)],b0])
abbrev qCS5:=(1:Nat)
abbrev qCS6 (a0:Cls):=(Ex.mk (Ex.op (qCSv a0)) (Ex.n (qCSv a0)) (Ex.d0 (qCSv a0)) (Ex.d1 (qCSv a0)) (Ex.d2 (qCSv a0)) (Ex.d3 (qCSv a0)) (Ex.l (qCSv a0)))
abbrev qCSc:=(2:Nat)
abbrev qCS7 (a0:PcX):=(List.length (PcX.L a0)+qCSc+qCS5)
abbrev qCS8 (a0:PcX):=(List.length (PcX.L a0)+qCSc)
abbrev qCS9:=(140737488355328:Nat)
abbrev qCSa (a0:PcX):=(List.length (PcX.L a0)+qCSc+qCS5+qCS5)
abbrev qCSb (a0:PcX):=(List.take (qCSu a0) (PcX.L a0)++ [[(112:Nat),(97:Nat),(121:Nat)]])
abbrev qCSd (a0:Tst):=((0:Int)<=Tst.low a0/\Tst.low a0+qCSr<=(10000000000000:Int))
abbrev qCSf (a0:PcX) (b0:List Nat):=(List.take (qCS8 a0) (qCS3 a0 b0)++ [[(105:Nat),(110:Nat)]])
abbrev qCSg (a0:PcX) (b0:List Nat):=(List.take (qCS8 a0) (qCS4 a0 b0)++ [[(105:Nat),(110:Nat)]])
abbrev qCSi (a0:PcX):=(List.length (PcX.L a0)+qCSc+qCS5+qCS5+qCS5)
abbrev qCSk:=(16:Nat)
abbrev qCSm (a0:PcX):=(some (List.take (qCSu a0) (PcX.L a0)++ [[(112:Nat),(97:Nat),(121:Nat)]],PcX.fz a0))
abbrev qCSn (a0:PcX):=(List.length (PcX.L a0)<=List.length (PcX.L a0)/\PcX.fz a0<=List.length (PcX.L a0)/\(qCS8 a0)*qCSk<=qCS9)
abbrev qCSo (a0:PcX) (b0:PcX):=((qCSj=qCSj/\List.length (PcX.L a0)+qCSc+qCS5+qCS5+qCS5+qCS5=List.length (PcX.L b0)/\True)/\True)
abbrev qCSp (a0:PcX) (b0:List Nat):=(List.length (PcX.L a0)+qCSc<=List.length (qCS3 a0 b0)/\PcX.fz a0<=List.length (PcX.L a0)+qCSc/\(qCS7 a0)*qCSk<=qCS9)
abbrev qCSq (a0:PcX) (b0:List Nat):=(List.length (PcX.L a0)+qCSc<=List.length (qCS4 a0 b0)/\PcX.fz a0<=List.length (PcX.L a0)+qCSc/\(qCS7 a0)*qCSk<=qCS9)
abbrev qCSs (a0:PcX) (b0:PcX):=((qCSj=qCSj/\List.length (PcX.L a0)+qCSc+qCS5+qCS5=List.length (PcX.L b0)/\True)/\True)
abbrev qCSt (a0:Tst):=((0:Int)<=Tst.high a0/\Tst.high a0+qCSr<=(10000000000000:Int))
theorem Zzc (l:List (List Nat)) (fz:Nat) (c:Cls) (l':List (List Nat)):Zg E Fpc (vc E Fpc 400) 25 [.ptr 0 0,clA c] (hpP E Th.strs (some (l,fz))) 2 (prnK E Th.strs (some (l,fz)) l')=(
 (List.length l<=List.length l/\fz<=List.length l/\(List.length l+qCSc)*qCSk<=qCS9)/\∃(R:PcX->Prop),(∃(x:PcX),R x/\true=true/\(qCSj=qCSj/\qCSj=qCSj/\(qCSl c)/\(qCSe c)=(qCSe c)/\(0:Int)=(qCSh x)/\True)/\((qCSj=qCSj/\List.length l+qCSc=List.length (PcX.L x)/\True)/\True)/\(List.take (List.length l) l++ [[(99:Nat),(108:Nat),(97:Nat),(117:Nat),(115:Nat),(101:Nat)],Cls.name c]=PcX.L x/\fz=PcX.fz x)/\(qCS1 c)/\True)/\∀(x:PcX),R x->(decide ((qCSh x)<(qCSe c))=true->(0:Int)<=(qCSh x)/\(qCSh x)+qCSr<=(qCSe c)/\∀(x_1:Tst),(Cls.when_ c)[Int.toNat (qCSh x)]? =some x_1->(0:Int)<=mm2 false (qCSh x) qCSr/\mm2 false (qCSh x) qCSr+qCSr<=(↑qCSc:Int)/\((mm2 false (qCSh x) qCSr==(↑qCSj:Int))=true->(0:Int)<=Tst.attr x_1/\Tst.attr x_1+qCSr<=(↑(List.length (WK.words WK.at_)):Int)/\∀(x_2:List Nat),(WK.words WK.at_)[Int.toNat (Tst.attr x_1)]? =some x_2->(qCSn x)/\((Tst.low x_1==Tst.high x_1)=true->(qCSp x x_2)/\(qCSd x_1)/\∀(y:List Nat),y=decN (Tst.low x_1)->(List.length (PcX.L x)+qCSc+qCS5<=List.length (List.take (qCS8 x) (qCS3 x x_2)++ [[(105:Nat),(115:Nat)]])/\PcX.fz x<=List.length (PcX.L x)+qCSc+qCS5/\(qCSa x)*qCSk<=qCS9)/\∃(x_3:PcX),R x_3/\x_3.2+qCS5<=x.2/\true=true/\(qCS2 c x x_3)/\(qCSs x x_3)/\(List.take (qCS7 x) (List.take (qCS8 x) (qCS3 x x_2)++ [[(105:Nat),(115:Nat)]])++ [y]=PcX.L x_3/\PcX.fz x=PcX.fz x_3)/\(qCS1 c)/\True)/\((Tst.low x_1==Tst.high x_1)=false->(qCSp x x_2)/\(qCSd x_1)/\∀(y:List Nat),y=decN (Tst.low x_1)->(List.length (PcX.L x)+qCSc+qCS5<=List.length (qCSf x x_2)/\PcX.fz x<=List.length (PcX.L x)+qCSc+qCS5/\(qCSa x)*qCSk<=qCS9)/\(List.length (PcX.L x)+qCSc+qCS5+qCS5<=List.length (List.take (qCS7 x) (qCSf x x_2)++ [y])/\PcX.fz x<=List.length (PcX.L x)+qCSc+qCS5+qCS5/\(qCSi x)*qCSk<=qCS9)/\(qCSt x_1)/\∀(y_1:List Nat),y_1=decN (Tst.high x_1)->(List.length (PcX.L x)+qCSc+qCS5+qCS5+qCS5<=List.length (List.take (qCSa x) (List.take (qCS7 x) (qCSf x x_2)++ [y])++ [[(46:Nat),(46:Nat)]])/\PcX.fz x<=List.length (PcX.L x)+qCSc+qCS5+qCS5+qCS5/\(List.length (PcX.L x)+qCSc+qCS5+qCS5+qCS5+qCS5)*qCSk<=qCS9)/\∃(x_3:PcX),R x_3/\x_3.2+qCS5<=x.2/\true=true/\(qCS2 c x x_3)/\(qCSo x x_3)/\(List.take (qCSi x) (List.take (qCSa x) (List.take (qCS7 x) (qCSf x x_2)++ [y])++ [[(46:Nat),(46:Nat)]])++ [y_1]=PcX.L x_3/\PcX.fz x=PcX.fz x_3)/\(qCS1 c)/\True))/\((mm2 false (qCSh x) qCSr==(↑qCSj:Int))=false->((mm2 false (qCSh x) qCSr==(↑(qCSj+qCS5):Int))=true->(0:Int)<=Tst.attr x_1/\Tst.attr x_1+qCSr<=(↑(List.length (WK.words WK.at_)):Int)/\∀(x_2:List Nat),(WK.words WK.at_)[Int.toNat (Tst.attr x_1)]? =some x_2->(qCSn x)/\((Tst.low x_1==Tst.high x_1)=true->(qCSq x x_2)/\(qCSd x_1)/\∀(y:List Nat),y=decN (Tst.low x_1)->(List.length (PcX.L x)+qCSc+qCS5<=List.length (List.take (qCS8 x) (qCS4 x x_2)++ [[(105:Nat),(115:Nat)]])/\PcX.fz x<=List.length (PcX.L x)+qCSc+qCS5/\(qCSa x)*qCSk<=qCS9)/\∃(x_3:PcX),R x_3/\x_3.2+qCS5<=x.2/\true=true/\(qCS2 c x x_3)/\(qCSs x x_3)/\(List.take (qCS7 x) (List.take (qCS8 x) (qCS4 x x_2)++ [[(105:Nat),(115:Nat)]])++ [y]=PcX.L x_3/\PcX.fz x=PcX.fz x_3)/\(qCS1 c)/\True)/\((Tst.low x_1==Tst.high x_1)=false->(qCSq x x_2)/\(qCSd x_1)/\∀(y:List Nat),y=decN (Tst.low x_1)->(List.length (PcX.L x)+qCSc+qCS5<=List.length (qCSg x x_2)/\PcX.fz x<=List.length (PcX.L x)+qCSc+qCS5/\(qCSa x)*qCSk<=qCS9)/\(List.length (PcX.L x)+qCSc+qCS5+qCS5<=List.length (List.take (qCS7 x) (qCSg x x_2)++ [y])/\PcX.fz x<=List.length (PcX.L x)+qCSc+qCS5+qCS5/\(qCSi x)*qCSk<=qCS9)/\(qCSt x_1)/\∀(y_1:List Nat),y_1=decN (Tst.high x_1)->(List.length (PcX.L x)+qCSc+qCS5+qCS5+qCS5<=
List.length (List.take (qCSa x) (List.take (qCS7 x) (qCSg x x_2)++ [y])++ [[(46:Nat),(46:Nat)]])/\PcX.fz x<=List.length (PcX.L x)+qCSc+qCS5+qCS5+qCS5/\(List.length (PcX.L x)+qCSc+qCS5+qCS5+qCS5+qCS5)*qCSk<=qCS9)/\∃(x_3:PcX),R x_3/\x_3.2+qCS5<=x.2/\true=true/\(qCS2 c x x_3)/\(qCSo x x_3)/\(List.take (qCSi x) (List.take (qCSa x) (List.take (qCS7 x) (qCSg x x_2)++ [y])++ [[(46:Nat),(46:Nat)]])++ [y_1]=PcX.L x_3/\PcX.fz x=PcX.fz x_3)/\(qCS1 c)/\True))/\((mm2 false (qCSh x) qCSr==(↑(qCSj+qCS5):Int))=false->True)))/\(decide ((qCSh x)<(qCSe c))=false->(List.length (PcX.L x)<=List.length (PcX.L x)/\PcX.fz x<=List.length (PcX.L x)/\(List.length (PcX.L x)+qCS5)*qCSk<=qCS9)/\(List.length (PcX.L x)+qCS5=List.length (qCSb x)/\PcX.fz x<=List.length (qCSb x)/\Ex.sz (qCS6 c)+qCS5<=(1000000000:Nat)/\Zz (qCS6 c)=true/\qCS5<=List.length (qCSb x)/\List.length (qCSb x)+(8:Nat)*Ex.sz (qCS6 c)+(8:Nat)<=(1000000000:Nat))/\∀(l'_1:List (List Nat)),l'_1=List.take (qCSu x) (PcX.L x)++ [[(112:Nat),(97:Nat),(121:Nat)]]++txX (qCS6 c)->(List.length l'_1<=List.length l'_1/\fzO (qCSm x)<=List.length l'_1/\(List.length l'_1+qCS5)*qCSk<=qCS9)/\List.take (List.length l'_1) l'_1++ [[(59:Nat)]]=l'/\List.length l'_1+qCS5=List.length l'/\fzO (qCSm x)=fzO (some (l,fz)))):=by kernel_rfl
theorem Zlo:∀(a:List Tst) (i:Nat) (w:Tst),txTs i (a++ [w])=txTs i a++((if a.length+i=0 then Zey else sAnd)::txW w)
 | [],i,w=>by simp [txTs]
 |x::r,i,w=>by
  rw [List.cons_append]
  simp only [txTs]
  rw [Zlo r (i+1) w]
  have e:(r.length+(i+1)=0)=((x::r).length+i=0):=by simp
  simp only [e,List.append_assoc,List.cons_append]
theorem Z8h (w:Tst):(txW w).length<=5:=by
 unfold txW
 split<;>simp
theorem Zja:∀(l:List Tst) (i:Nat),(txTs i l).length<=6*l.length
 | [],_=>by simp [txTs]
 |w::r,i=>by
  have:=Zja r (i+1)
  have:=Z8h w
  simp [txTs]
  omega
def PclP (l:List (List Nat)) (c:Cls):Prop:=Wa c=true/\c.pay.sz<1000000000/\1<=l.length/\l.length+8*c.pay.sz+6*c.when_.length+20<=1000000000
theorem Ybp:FnsOk E Fpc:=Yc E_ok (Zb Zq9 (Zye (Zqq 1000000000))) _ _ _
theorem Z8i (c:Cls) (l:List (List Nat)) (fz:Nat) (hf:fz<=l.length) (h:PclP l c):PrnC E 25 Th.strs [clA c] (some (l,fz)) (l++txC c):=by
 refine Zyb Ybp (n:=400) rfl ?_
 rw [Zzc];delta qCSv qCSl qCS1 qCSr qCSj qCSh qCSe qCS2 qCSu qCS3 qCS4 qCS5 qCS6 qCSc qCS7 qCS8 qCS9 qCSa qCSb qCSd qCSf qCSg qCSi qCSk qCSm qCSn qCSo qCSp qCSq qCSs qCSt
 obtain ⟨h1,h2,h3,h4⟩:=h
 obtain ⟨-,g2,g3⟩:=Za2 h1
 have L:WK.at_.words.length=16:=rfl
 simp only [fzO,List.take_length,Ex.eta,forall_eq,beq_iff_eq,beq_eq_false_iff_ne,ne_eq,and_true,true_and,imp_self,decide_eq_true_eq,decide_eq_false_iff_not]
 refine ⟨⟨Nat.le_refl _,hf,by omega⟩,fun x=>x.k<=c.when_.length/\x.fz=fz/\x.L=l++ [Xu,c.name]++txTs 0 (c.when_.take x.k)/\x.r=c.when_.length-x.k,⟨⟨0,c.when_.length,l++ [Xu,c.name],fz⟩,⟨by dsimp only;omega,rfl,by simp [txTs],rfl⟩,by simp,by simp,by simp [Xu]⟩,?_⟩
 rintro ⟨k,r,Lx,fx⟩ ⟨k1,k2,k3,k4⟩
 simp only at k1 k2 k3 k4⊢
 subst k2 k4
 have tl:=Zja (c.when_.take k) 0
 have tl2:(c.when_.take k).length<=c.when_.length:=by simp;omega
 have hL:Lx.length=l.length+2+(txTs 0 (c.when_.take k)).length:=by rw [k3];simp;omega
 refine And.intro (fun hq=>⟨by omega,by omega,fun w hw=> ?_⟩) (fun hq=> ?_)
 · have hw:c.when_[k]? =some w:=hw
   have hq:k<c.when_.length:=by omega
   obtain ⟨t1,t2,t3,t4,t5,t6⟩:=Ui (g3 w (List.mem_of_getElem? hw))
   have ek:c.when_.take (k+1)=c.when_.take k++ [w]:=by rw [List.take_add_one,hw];rfl
   have tw:(c.when_.take k).length=k:=by simp;omega
   have hm:(0:Int)<=mm2 false (↑k:Int) (1:Int)/\mm2 false (↑k:Int) (1:Int)+1<=2:=by
    rw [Y2];omega
   have st:txTs 0 (c.when_.take (k+1))=txTs 0 (c.when_.take k)++((if k=0 then Zey else sAnd)::txW w):=by rw [ek,Zlo,tw,Nat.add_zero]
   have wx:∀x2,WK.at_.words[w.attr.toNat]? =some x2->txW w=x2::(if w.low=w.high then [sIs,decN w.low] else [sIn,decN w.low,Zbs,decN w.high]):=by
    intro x2 h
    unfold txW
    rw [List.getD_eq_getElem?_getD,h]
    rfl
   have E1:∀s x2,(if k=0 then Zey else sAnd)=s->WK.at_.words[w.attr.toNat]? =some x2->w.low=w.high->Lx++ [s,x2]++ [[105,115]]++ [decN w.low]=l++ [Xu,c.name]++txTs 0 (c.when_.take (k+1)):=by
    intro s x2 hs h e
    rw [k3,st,hs,wx x2 h,if_pos e]
    simp [sIs]
   have E2:∀s x2,(if k=0 then Zey else sAnd)=s->WK.at_.words[w.attr.toNat]? =some x2->¬w.low=w.high->Lx++ [s,x2]++ [[105,110]]++ [decN w.low]++ [[46,46]]++ [decN w.high]=l++ [Xu,c.name]++txTs 0 (c.when_.take (k+1)):=by
    intro s x2 hs h e
    rw [k3,st,hs,wx x2 h,if_neg e]
    simp [sIn,Zbs]
   have T1:∀a b,List.take (Lx.length+2) (Lx++ [a,b])=Lx++ [a,b]:=fun a b=>List.take_of_length_le (by simp)
   have T2:∀a b c,List.take (Lx.length+2+1) (Lx++ [a,b]++ [c])=Lx++ [a,b]++ [c]:=fun a b c=>List.take_of_length_le (by simp)
   have T3:∀a b c d,List.take (Lx.length+2+1+1) (Lx++ [a,b]++ [c]++ [d])=Lx++ [a,b]++ [c]++ [d]:=fun a b c d=>List.take_of_length_le (by simp)
   have T4:∀a b c d e,List.take (Lx.length+2+1+1+1) (Lx++ [a,b]++ [c]++ [d]++ [e])=Lx++ [a,b]++ [c]++ [d]++ [e]:=fun a b c d e=>List.take_of_length_le (by simp)
   have wk:wr IntKind.i64 ((k:Int)+1)=((k+1:Nat):Int):=(wr64 (by omega) (by omega)).trans (by omega)
   simp only [T1,T2,T3,T4]
   have m0:(mm2 false (k:Int) 1=((0:Nat):Int))=(k=0):=by rw [Y2];exact propext (by omega)
   have go:∀s x2,(if k=0 then Zey else sAnd)=s->WK.at_.words[w.attr.toNat]? =some x2->
    (w.low=w.high->∃x_3:PcX,(x_3.k<=c.when_.length/\x_3.fz=fx/\x_3.L=l++ [Xu,c.name]++txTs 0 (List.take x_3.k c.when_)/\x_3.r=c.when_.length-x_3.k)/\x_3.r+1<=c.when_.length-k/\wr IntKind.i64 ((k:Int)+1)=(x_3.k:Int)/\Lx.length+2+1+1=x_3.L.length/\Lx++ [s,x2]++ [[105,115]]++ [decN w.low]=x_3.L/\fx=x_3.fz)/\
    (¬w.low=w.high->∃x_3:PcX,(x_3.k<=c.when_.length/\x_3.fz=fx/\x_3.L=l++ [Xu,c.name]++txTs 0 (List.take x_3.k c.when_)/\x_3.r=c.when_.length-x_3.k)/\x_3.r+1<=c.when_.length-k/\wr IntKind.i64 ((k:Int)+1)=(x_3.k:Int)/\Lx.length+2+1+1+1+1=x_3.L.length/\Lx++ [s,x2]++ [[105,110]]++ [decN w.low]++ [[46,46]]++ [decN w.high]=x_3.L/\fx=x_3.fz):=by
    intro s x2 hs h
    refine And.intro (fun e=> ?_) (fun e=> ?_)
    · have:=E1 s x2 hs h e
      have h2:=congrArg List.length this
      refine ⟨⟨k+1,c.when_.length-(k+1),l++ [Xu,c.name]++txTs 0 (c.when_.take (k+1)),fx⟩,⟨hq,rfl,rfl,rfl⟩,(by dsimp only;omega),wk,?_,this,rfl⟩
      dsimp only
      rw [<-h2]
      simp
    · have:=E2 s x2 hs h e
      have h2:=congrArg List.length this
      refine ⟨⟨k+1,c.when_.length-(k+1),l++ [Xu,c.name]++txTs 0 (c.when_.take (k+1)),fx⟩,⟨hq,rfl,rfl,rfl⟩,(by dsimp only;omega),wk,?_,this,rfl⟩
      dsimp only
      rw [<-h2]
      simp
   rw [m0]
   refine ⟨hm.1,hm.2,fun h0=>⟨t1,by rw [L];omega,fun x2 hx2=> ?_⟩,fun h0=>⟨fun h1=>⟨t1,by rw [L];omega,fun x2 hx2=> ?_⟩,fun _=>trivial⟩⟩
   · obtain ⟨g1,g2⟩:=go [119,104,101,110] x2 (by rw [if_pos h0];rfl) hx2
     refine ⟨⟨Nat.le_refl _,by omega,by omega⟩,fun e=> ?_,fun e=> ?_⟩
     · exact ⟨⟨by simp,by omega,by omega⟩,⟨t3,by omega⟩,⟨by simp,by omega,by omega⟩,g1 e⟩
     · exact ⟨⟨by simp,by omega,by omega⟩,⟨t3,by omega⟩,⟨by simp,by omega,by omega⟩,⟨by simp,by omega,by omega⟩,⟨t5,by omega⟩,⟨by simp,by omega,by omega⟩,g2 e⟩
   · obtain ⟨g1,g2⟩:=go [97,110,100] x2 (by rw [if_neg h0];rfl) hx2
     refine ⟨⟨Nat.le_refl _,by omega,by omega⟩,fun e=> ?_,fun e=> ?_⟩
     · exact ⟨⟨by simp,by omega,by omega⟩,⟨t3,by omega⟩,⟨by simp,by omega,by omega⟩,g1 e⟩
     · exact ⟨⟨by simp,by omega,by omega⟩,⟨t3,by omega⟩,⟨by simp,by omega,by omega⟩,⟨by simp,by omega,by omega⟩,⟨t5,by omega⟩,⟨by simp,by omega,by omega⟩,g2 e⟩
 · have ek:k=c.when_.length:=by omega
   have tx:=Y3 c.pay
   have e1:Lx++ [[112,97,121]]++txX c.pay++ [[59]]=l++txC c:=by
    rw [k3,ek,List.take_length]
    unfold txC
    simp [sPay,Zfo]
   have e2:=congrArg List.length e1
   simp only [List.length_append,List.length_cons,List.length_nil] at e2⊢
   exact ⟨⟨Nat.le_refl _,by omega,by omega⟩,⟨trivial,by omega,by omega,g2,by omega,by omega⟩,⟨Nat.le_refl _,by omega,by omega⟩,e1,by omega,trivial⟩
end
section
open Go
theorem Zj0 {f:FuncId} {args:List (SV thy)} {v:SV thy} (h:∀(g:GH) (w:World) (vals:Array Value),Inv E w.heap.size σ0 hp0 g w->DenL E σ0 g args vals.toList->Calls E.P f vals w fun en w'=>∃u,en= .returned u/\Den E σ0 g v u/\Ext w w'):PureC E f args v:=by
 intro g w vals hI hd
 refine (h g w vals hI hd).mono ?_
 rintro en w' ⟨u,he,hv,hx⟩
 refine ⟨u,he,g,⟨.refl _,fun b p h=> .inl h,.refl _,fun _ _ _ h=> .inl h,fun _ _ h=> .inl h,fun r hr _=>hx.block hr,hx.size,hx.os,hx.tape,hx.output,fun b r z h1 h2=>by cases h2⟩,?_,hv⟩
 refine ⟨fun r o u hu=>hx.cell (hI.gc r o u hu),fun r es hu=> ?_,(fun b x hx=>by cases hx),fun b b' r z z' h1=>absurd rfl h1,(fun b r z hs=>by cases hs),(fun b x r z o v hx=>by cases hx),(fun b x r z hx=>by cases hx),hI.glob⟩
 obtain ⟨c,hc⟩:=hI.gm r es hu
 have hr:r<w.heap.size:=by
  rcases Nat.lt_or_ge r w.heap.size with h|h
  · exact h
  · rw [Array.getElem?_eq_none h] at hc;cases hc
 exact ⟨c,by rw [hx.block hr];exact hc⟩
theorem Z84:Builder.Extra Tryz.prog Tryz.lays156_ren where
 sizeBuilder:=by kernel_rfl
 liesBuilder:=by kernel_rfl
 t5:=Tryz.underlying5
 a5:=Tryz.isAgg5
 z5:=Tryz.sizeOf5
 v5:=Tryz.zeroValue5
 infoByte:=by kernel_rfl
 cellsByte:=by kernel_rfl
 sizeByte:=by kernel_rfl
 neB5:=by decide
theorem Zpp:∀{l:List (List Nat)},(∀y∈l,toL (mkS y)=y)->(Lib.join ((l.map mkS).map (·.data.toList)) (mkS [32]).data.toList).map UInt8.toNat=Wm l
 | [],_=>rfl
 | [x],h=>by
  rw [List.map_cons,List.map_nil,List.map_cons,List.map_nil,Lib.join_one]
  exact h x (by simp)
 |x::y::r,h=>by
  have ih:=Zpp (l:=y::r) (fun z hz=>h z (by simp at hz⊢;exact .inr hz))
  have hx:=h x (by simp)
  rw [Zha (by simp),<-ih]
  rw [List.map_cons,List.map_cons,Lib.join_cons,List.map_cons,List.map_cons,Lib.join_cons,List.map_append]
  unfold Lib.joinTail
  rw [List.map_cons,List.flatten_cons]
  have e:((mkS x).data.toList).map UInt8.toNat=x:=hx
  rw [e]
  have e2:(mkS [32]).data.toList= [32]:=rfl
  rw [e2]
  simp only [List.map_append,List.map_cons,List.map_nil,List.append_assoc]
  rfl
theorem Zu1 (l:List (List Nat)) (h1:l.length<=1000000000) (h2:(Wm l).length<=1000000000):PureC E 26 [.psl Th.strs l false,.str false [32]] (.str false (Wm l)):=by
 refine Zj0 fun g w vals hI hd=> ?_
 obtain ⟨u,v,rfl,hu,hv⟩:=Yag hd
 cases hv
 rename_i sep hsep
 have hs:sep=mkS [32]:=by rw [<-hsep,Za4]
 subst hs
 obtain ⟨base,c,cv,rfl,hl,hm,hf,hn,hb,hdd⟩:=Vc hu
 rcases Nat.eq_zero_or_pos l.length with h0|h0
 · have e:l= []:=List.length_eq_zero_iff.1 h0
   subst e
   refine (Any.strings_Join_none Tryz.lays156 Z84 base c (mkS [32]) w).mono ?_
   rintro e w' ⟨rfl,rfl⟩
   exact ⟨_,rfl,.str _ rfl,Go.RowKit.Below.refl _ _⟩
 · obtain ⟨r,o,rfl,hc⟩:=hb h0
   have W1:E.w Th.strs=1:=rfl
   have key:∀i x,l[i]? =some x->w.cell? ⟨r,o+i,none⟩=some (.string (mkS x))/\toL (mkS x)=x:=by
    intro i x hx
    have a1:=hc i x hx 0 (by show 0<1;decide)
    have a2:=hdd i x hx 0 (.str false x) rfl
    rw [W1,Nat.mul_one,Nat.add_zero] at a1
    have a3:=hI.gc _ _ _ a1
    generalize hq:cv i 0=q at a2 a3
    cases a2
    rename_i b hb
    subst hb
    rw [Za4]
    exact ⟨a3,rfl⟩
   have hall:∀y∈l,toL (mkS y)=y:=fun y hy=>by
    obtain ⟨i,hi,rfl⟩:=List.getElem_of_mem hy
    exact (key i _ (List.getElem?_eq_getElem hi)).2
   have hr:r<w.heap.size:=by
    have:=(key 0 _ (List.getElem?_eq_getElem h0)).1
    rcases Nat.lt_or_ge r w.heap.size with h|h
    · exact h
    · unfold World.cell? at this
      simp only at this
      rw [Array.getElem?_eq_none h] at this
      cases this
   have hj:=Zpp hall
   have:=Any.strings_Join Tryz.lays156 Z84 r o c (l.map mkS) (mkS [32]) w (fun j x hx=>by
    rw [List.getElem?_map] at hx
    obtain ⟨y,hy,rfl⟩:=Option.map_eq_some_iff.1 hx
    exact (key j y hy).1) hr (by rw [List.length_map];omega) (by rw [List.length_map];exact hl) (by
    rw [<-hj,List.length_map] at h2
    omega)
   rw [List.length_map] at this
   refine Calls.mono this ?_
   rintro e w' ⟨rfl,hw⟩
   refine ⟨_,rfl,.str _ ?_,hw⟩
   unfold toL
   exact hj
end
section
open Go
noncomputable def dCl1:DcL E (Cls×Unit):= .cons dCl .nil
noncomputable def Spc:Sum thy:=sumB E Th.strs dCl1 (fun l x=>PclP l x.1) fun (l:List (List Nat)) x=>l++txC x.1
theorem Ybw:SumOk E 25 Spc:=Zi9 E_ok (Zd rfl) fun x=>⟨fun l fz hf hp=>Z8i x.1 l fz hf hp,fun hp=>absurd hp.2.2.1 (by decide)⟩
noncomputable def Ydb:DcL E (List (List Nat)×List Nat×Unit):= .cons (Zog (E:=E) Th.strs:Dc E (List (thy.dom Th.strs))) (.cons dS .nil)
noncomputable def Ybx:Sum thy:=Zpz E (fun _=>none) 10 (V8 Ydb (fun x=>(x.2.1= [32]/\x.1.length<=1000000000)/\(Wm x.1).length<=1000000000) (fun x=>Wm x.1) fun y=> .str false y)
noncomputable def Apr:Fr thy->Hp thy->Nat->Ann thy:=fun T h i=>{X:=PcX,fr:=fun x=> [(1,T 1),(5,T 5),(28,T 28),(29,T 29),(30,.int false .i64 x.k)],bl:=fun x=>(bOf (T 5),.raw [.sl i 0 x.L.length 1 none] 0 none)::(i,.rows Th.strs x.L x.fz)::blkP h (T 1),src:=fun x=> [(i,1005)],md:= [bOf (T 5),cOfP h (T 5)],ih:=i+1,M:=i+60,meas:=fun x=>x.r}
noncomputable def Fpr:Fns thy:=addL (addS (addS (addS (addS F0 24 Zjm) 26 Ybx) 20 Zx5) 25 Spc) 9 7 Apr E
abbrev qCU1 (a0:Cls):=(Ex.mk (Ex.op (Cls.pay a0)) (Ex.n (Cls.pay a0)) (Ex.d0 (Cls.pay a0)) (Ex.d1 (Cls.pay a0)) (Ex.d2 (Cls.pay a0)) (Ex.d3 (Cls.pay a0)) (Ex.l (Cls.pay a0)))
abbrev qCU5:=(0:Nat)
abbrev qCU2 (a0:PcX):=(List.take (List.length (PcX.L a0)+(1:Nat)) (List.drop qCU5 (List.take (List.length (PcX.L a0)) (PcX.L a0)++ [[(125:Nat)]])))
abbrev qCU3 (a0:Tar):=(↑(List.length (Tar.clauses a0)):Int)
abbrev qCU4 (a0:Tar):=(Tar.clauses a0=Tar.clauses a0/\(false=true->false=true))
abbrev qCU6 (a0:PcX):=(↑(PcX.k a0):Int)
theorem Zt6 (t:Tar) (s:List Nat) (e:Int):Zg E Fpr (vc E Fpr 400) 9 [.agg (encF false .tariffs t)] hp0 0 (fun r=>ret E (patch hp0 0 r) r.v (.tup [.str false s,.int false .i64 e]))=(
 ((∀(c:Cls),c∈Tar.clauses t->Ex.sz (Cls.pay c)+(1:Nat)<=(1000000000000:Nat)/\List.length (Cls.when_ c)+(1:Nat)<=(1000000000000:Nat))/\List.length (Tar.clauses t)+(1:Nat)<=(1000000000000:Nat))/\((Z7 t !=(0:Int))=true-> []=s/\Z7 t=e/\True)/\((Z7 t !=(0:Int))=false->(0:Int)<=wr IntKind.i64 (Tar.for_ t-(1:Int))/\wr IntKind.i64 (Tar.for_ t-(1:Int))+(1:Int)<=(↑(List.length (WK.words WK.ki)):Int)/\∀(x:List Nat),(WK.words WK.ki)[Int.toNat (wr IntKind.i64 (Tar.for_ t-(1:Int)))]? =some x->∃(R:PcX->Prop),(∃(x_1:PcX),R x_1/\true=true/\(qCU5=qCU5/\qCU5=qCU5/\(qCU4 t)/\(qCU3 t)=(qCU3 t)/\(0:Int)=(qCU6 x_1)/\True)/\((qCU5=qCU5/\(5:Nat)=List.length (PcX.L x_1)/\True)/\True)/\([[(116:Nat),(97:Nat),(114:Nat),(105:Nat),(102:Nat),(102:Nat)],Tar.name t,[(102:Nat),(111:Nat),(114:Nat)],x,[(123:Nat)]]=PcX.L x_1/\qCU5=PcX.fz x_1)/\(Tar.name t=Tar.name t/\Tar.for_ t=Tar.for_ t/\(qCU4 t)/\True)/\True)/\∀(x:PcX),R x->(decide ((qCU6 x)<(qCU3 t))=true->(0:Int)<=(qCU6 x)/\(qCU6 x)+(1:Int)<=(qCU3 t)/\∀(x_1:Cls),(Tar.clauses t)[Int.toNat (qCU6 x)]? =some x_1->(List.length (PcX.L x)=List.length (PcX.L x)/\PcX.fz x<=List.length (PcX.L x)/\Wa (Cls.mk (Cls.name x_1) (Cls.when_ x_1) (qCU1 x_1))=true/\Ex.sz (qCU1 x_1)+(1:Nat)<=(1000000000:Nat)/\(1:Nat)<=List.length (PcX.L x)/\List.length (PcX.L x)+(8:Nat)*Ex.sz (qCU1 x_1)+(6:Nat)*List.length (Cls.when_ x_1)+(20:Nat)<=(1000000000:Nat))/\∀(l':List (List Nat)),l'=PcX.L x++txC (Cls.mk (Cls.name x_1) (Cls.when_ x_1) (qCU1 x_1))->∃(x_2:PcX),R x_2/\x_2.2+(1:Nat)<=x.2/\true=true/\(qCU5=qCU5/\qCU5=qCU5/\(qCU4 t)/\(qCU3 t)=(qCU3 t)/\wr IntKind.i64 ((qCU6 x)+(1:Int))=(qCU6 x_2)/\True)/\((qCU5=qCU5/\List.length l'=List.length (PcX.L x_2)/\True)/\True)/\(l'=PcX.L x_2/\fzO (some (PcX.L x,PcX.fz x))=PcX.fz x_2)/\(Tar.name t=Tar.name t/\Tar.for_ t=Tar.for_ t/\(qCU4 t)/\True)/\True)/\(decide ((qCU6 x)<(qCU3 t))=false->(List.length (PcX.L x)<=List.length (PcX.L x)/\PcX.fz x<=List.length (PcX.L x)/\(List.length (PcX.L x)+(1:Nat))*(16:Nat)<=(140737488355328:Nat))/\qCU5+(List.length (PcX.L x)+(1:Nat))<=List.length (List.take (List.length (PcX.L x)) (PcX.L x)++ [[(125:Nat)]])/\(([(32:Nat)]= [(32:Nat)]/\List.length (qCU2 x)<=(1000000000:Nat))/\List.length (Wm (qCU2 x))<=(1000000000:Nat))/\∀(y:List Nat),y=Wm (qCU2 x)->(decide ((↑(List.length y):Int)>(2000:Int))=true-> []=s/\(2:Int)=e/\True)/\(decide ((↑(List.length y):Int)>(2000:Int))=false->y=s/\(0:Int)=e/\True)))):=by kernel_rfl
theorem Zrq:∀{s:List Nat} {n m:Int},1<=n->n<=1099511627776->(∀c∈s,isD c=true)->numL n s=(m,0)->n*10^s.length<=1099511627776
 | [],n,m,_,hn,_,_=>by simpa using hn
 |c::r,n,m,h1,hn,hd,h=>by
  unfold numL at h
  split at h
  · cases h
  · rename_i hq
    have hc:=hd c (by simp)
    unfold isD at hc
    simp only [Bool.and_eq_true,decide_eq_true_eq] at hc
    have:=Zrq (by omega) (by omega) (fun c hc=>hd c (by simp [hc])) h
    have hle:n*10<=10*n+((c:Int)-48):=by omega
    have hp:(0:Int)<=10^r.length:=Int.le_of_lt (Int.pow_pos (by decide))
    have h3:=Int.mul_le_mul_of_nonneg_right hle hp
    rw [List.length_cons,Int.pow_succ,Int.mul_comm (10^r.length) 10,<-Int.mul_assoc]
    omega
theorem Z3s {s:List Nat} (hd:∀c∈s,isD c=true) (h:(numb s).2=0):s.length<=32:=by
 match s,hd,h with
 | [],_,_=>simp
 |c::r,hd,h=>
  unfold numb at h
  split at h
  · cases h
  · rename_i hq
    cases r with
    |nil=>simp
    |cons d r=>
     have hc:c≠48:=fun e=>hq ⟨by simp,by rw [e];rfl⟩
     have hcd:=hd c (by simp)
     unfold isD at hcd
     simp only [Bool.and_eq_true,decide_eq_true_eq] at hcd
     unfold numL at h
     rw [if_neg (by omega)] at h
     have h2:numL (10*0+((c:Int)-48)) (d::r)=((numL (10*0+((c:Int)-48)) (d::r)).1,0):=Prod.ext rfl h
     have:=Zrq (by omega) (by omega) (fun c hc=>hd c (by simp [hc])) h2
     have hp:(0:Int)<=10^(d::r).length:=Int.le_of_lt (Int.pow_pos (by decide))
     have h3:1*(10:Int)^(d::r).length<=(10*0+((c:Int)-48))*10^(d::r).length:=Int.mul_le_mul_of_nonneg_right (by omega) hp
     rcases Nat.lt_or_ge (d::r).length 13 with hl|hl
     · simp at hl⊢;omega
     · have h4:(10:Nat)^13<=10^(d::r).length:=Nat.pow_le_pow_right (by decide) hl
       have h5:((10^(d::r).length:Nat):Int)=(10:Int)^(d::r).length:=by norm_cast
       have h6:((10^13:Nat):Int)<=((10^(d::r).length:Nat):Int):=Int.ofNat_le.2 h4
       rw [h5] at h6
       have h7:((10^13:Nat):Int)=10000000000000:=rfl
       omega
theorem Z8t {c:Nat} {w:List Nat} (h:sgnW c=some w):w.length<=2:=by
 unfold sgnW at h
 repeat (split at h; · cases h;decide)
 cases h
theorem TokW.len {w:List Nat} (h:TokW w):w.length<=32:=by
 obtain ⟨h1,h2,h3⟩:=h
 obtain ⟨c,r,rfl⟩:=List.exists_cons_of_ne_nil h3
 rw [Yi] at h1 h2
 split at h1
 · rename_i hl
   rw [if_pos hl] at h2
   split at h1
   · cases h1
   · rename_i hq
     rw [if_neg hq] at h2
     have h2:=congrArg List.length h2
     rw [List.length_take] at h2
     omega
 · rename_i hl
   rw [if_neg hl] at h2
   split at h1
   · rename_i hd
     rw [if_pos hd] at h2
     have h2:(c::r).take (spn isD (c::r))=c::r:=h2
     have h1:(numb ((c::r).take (spn isD (c::r)))).2=0:=h1
     rw [h2] at h1
     exact Z3s (fun x hx=>by rw [<-h2] at hx;exact Zi8 hx) h1
   · rename_i hd
     rw [if_neg hd] at h2
     split at h1
     · rename_i w hw
       rw [hw] at h2
       unfold tokS at h1 h2
       split at h1
       · rename_i hq
         dsimp only at h2
         rw [if_pos hq] at h2
         have h2:w=c::r:=h2
         rw [<-h2]
         have:=Z8t hw
         omega
       · cases h1
     · cases h1
theorem Zlz:∀{ws:List (List Nat)} {m:Nat},(∀w∈ws,w.length<=m)->(Wm ws).length<=(m+1)*ws.length
 | [],m,_=>by simp [Wm]
 | [w],m,h=>by
  have:=h w (by simp)
  simp only [Wm,List.length_cons,List.length_nil]
  omega
 |w::x::r,m,h=>by
  have ih:=Zlz (ws:=x::r) (m:=m) (fun y hy=>h y (by simp at hy⊢;exact .inr hy))
  have:=h w (by simp)
  rw [Zha (by simp),List.length_append,List.length_cons]
  have e:(m+1)*(w::x::r).length=(m+1)*(x::r).length+(m+1):=by rw [List.length_cons,Nat.mul_add,Nat.mul_one]
  omega
theorem Z8u (c:Cls):(txC c).length<=8*c.pay.sz+6*c.when_.length+4:=by
 have h1:=Y3 c.pay
 have h2:=Zja c.when_ 0
 unfold txC
 simp only [List.length_cons,List.length_append,List.length_nil]
 omega
theorem Zl0:∀(a:List Cls) (c:Cls),txCs (a++ [c])=txCs a++txC c
 | [],c=>by simp [txCs]
 |x::r,c=>by rw [List.cons_append];simp only [txCs];rw [Zl0 r c,List.append_assoc]
theorem Zrr:∀{cs:List Cls} {m:Nat},(∀c∈cs,c.pay.sz<=m/\c.when_.length<=8)->(txCs cs).length<=(8*m+52)*cs.length
 | [],m,_=>by simp [txCs]
 |c::r,m,h=>by
  have ih:=Zrr (cs:=r) (m:=m) (fun x hx=>h x (by simp [hx]))
  have h1:=h c (by simp)
  have h2:=Z8u c
  have e:(8*m+52)*(c::r).length=(8*m+52)*r.length+(8*m+52):=by rw [List.length_cons,Nat.mul_add,Nat.mul_one]
  rw [txCs,List.length_append]
  omega
theorem Zrs:∀{cs:List Cls} {s:List (List Nat)},CsOk s cs->∀c∈cs,Wa c=true/\c.when_.length<=8
 |c::r,s,h,x,hx=>by
  rw [Zli] at h
  rcases List.mem_cons.1 hx with rfl|hx
  · exact ⟨h.1,h.2.2.2.1⟩
  · exact Zrs h.2.2.2.2.2 x hx
def SmT (t:Tar):Prop:=(∀c∈t.clauses,c.pay.sz<=10000/\c.when_.length<1000000000)/\t.clauses.length<1000000000
theorem Z3t:SumOk E 26 Ybx:=Zkc E_ok (Z5 E_ok (Zd rfl) fun x h=>by
 have:=Zu1 x.1 h.1.2 h.2
 rw [<-h.1.1] at this
 exact this)
theorem Yby:FnsOk E Fpr:=Yc E_ok (Zb (Zb (Zb (Zb F0_ok Zc7) Z3t) Zx6) Ybw) _ _ _
theorem Zt7 (t:Tar) (h:SmT t):PureC E 9 [.agg (encF false .tariffs t)] (.tup [.str false (W5 t).1,.int false .i64 (W5 t).2]):=by
 refine Za E_ok (Zi E_ok Yby 400) ?_
 rw [Zt6];delta qCU1 qCU5 qCU2 qCU3 qCU4 qCU6
 obtain ⟨h1,h2⟩:=h
 have L:WK.ki.words.length=6:=rfl
 simp only [bne_iff_ne,bne_eq_false_iff_eq,fzO,List.take_length,Cls.eta,Ex.eta,forall_eq,beq_iff_eq,beq_eq_false_iff_ne,ne_eq,and_true,true_and,imp_self,decide_eq_true_eq,decide_eq_false_iff_not]
 refine ⟨⟨fun c hc=>⟨by have:=(h1 c hc).1;omega,by have:=(h1 c hc).2;omega⟩,by omega⟩,fun hn=> ?_,fun hz=> ?_⟩
 · rw [Zgv hn];exact ⟨rfl,rfl⟩
 · obtain ⟨c1,c2,c3,c4,c5,c6⟩:=(Za1 t).1 hz
   have hw:wr IntKind.i64 (t.for_-1)=t.for_-1:=wr64 (by omega) (by omega)
   rw [hw]
   refine ⟨by omega,by rw [L];omega,fun x hx=> ?_⟩
   have hall:=Zrs c6
   have hm:∀c∈t.clauses,c.pay.sz<=10000/\c.when_.length<=8:=fun c hc=>⟨(h1 c hc).1,(hall c hc).2⟩
   have hlen:∀k,(txCs (t.clauses.take k)).length<=80052*64:=fun k=>by
    have a:=Zrr (cs:=t.clauses.take k) (m:=10000) (fun c hc=>hm c (List.mem_of_mem_take hc))
    have b:(t.clauses.take k).length<=64:=by rw [List.length_take];omega
    have e:(8*10000+52)*(t.clauses.take k).length<=(8*10000+52)*64:=Nat.mul_le_mul_left _ b
    omega
   have hx5:WK.ki.words.getD (t.for_-1).toNat []=x:=by rw [List.getD_eq_getElem?_getD,hx];rfl
   refine ⟨fun y=>y.k<=t.clauses.length/\y.fz=0/\y.L= [[116,97,114,105,102,102],t.name,[102,111,114],x,[123]]++txCs (t.clauses.take y.k)/\y.r=t.clauses.length-y.k,⟨⟨0,t.clauses.length,[[116,97,114,105,102,102],t.name,[102,111,114],x,[123]],0⟩,⟨(by dsimp only;omega),rfl,by simp [txCs],rfl⟩,rfl,rfl,rfl,rfl⟩,?_⟩
   rintro ⟨k,r,Lx,fx⟩ ⟨k1,k2,k3,k4⟩
   simp only at k1 k2 k3 k4⊢
   subst k2 k4
   have hL:Lx.length=5+(txCs (t.clauses.take k)).length:=by rw [k3];simp;omega
   have hlk:=hlen k
   refine And.intro (fun hq=>⟨by omega,by omega,fun c hc=> ?_⟩) (fun hq=> ?_)
   · have hc:t.clauses[k]? =some c:=hc
     have hq:k<t.clauses.length:=by omega
     have hcm:=List.mem_of_getElem? hc
     have b1:=hm c hcm
     have b2:=hall c hcm
     have e:Lx++txC c= [[116,97,114,105,102,102],t.name,[102,111,114],x,[123]]++txCs (t.clauses.take (k+1)):=by
      have ek:t.clauses.take (k+1)=t.clauses.take k++ [c]:=by rw [List.take_add_one,hc];rfl
      rw [k3,ek,Zl0,List.append_assoc]
     refine ⟨⟨by omega,b2.1,by omega,by omega,by omega⟩,⟨k+1,t.clauses.length-(k+1),Lx++txC c,0⟩,⟨hq,rfl,e,rfl⟩,(by dsimp only;omega),(wr64 (by omega) (by omega)).trans (by dsimp only;omega),rfl,rfl,rfl⟩
   · have ek:k=t.clauses.length:=by omega
     have e:Lx++ [[125]]=Uq t:=by
      rw [k3,ek,List.take_length]
      unfold Uq
      rw [hx5]
      simp [Zfp,sFor,sLb,sRb]
     have e1:List.take (Lx.length+1) (List.drop 0 (Lx++ [[125]]))=Uq t:=by
      rw [List.drop_zero,List.take_of_length_le (by simp),e]
     rw [e1]
     have e2:(Uq t).length=Lx.length+1:=by rw [<-e];simp
     have hj:=Zlz (ws:=Uq t) (m:=32) (fun w hw=>(Zqc hz w hw).len)
     unfold W5
     rw [if_neg (by rw [hz];simp)]
     refine ⟨⟨Nat.le_refl _,by omega,by omega⟩,by rw [List.length_append];simp,⟨by omega,by omega⟩,fun h=> ?_,fun h=> ?_⟩
     · rw [if_pos (by omega)];exact ⟨rfl,rfl⟩
     · rw [if_neg (by omega)];exact ⟨rfl,rfl⟩
end
section
open Go
noncomputable def Yc2:Sum thy:=V8 (dA1 dS) (fun _=>True) (fun x=>Vn x.1) fun y=> .tup [.agg [.str false y.1.name,.int false .i64 y.1.for_,.psl Th.clauses y.1.clauses false],.int false .i64 y.2.1,.int false .i64 y.2.2]
noncomputable def Yc3:Sum thy:=Zsn E (fun _=>none) 10 dTar (fun x=>SmT x.1) (fun x=>W5 x.1) fun y=> .tup [.str false y.1,.int false .i64 y.2]
def Zyw (F:Fns thy):Fns thy:=⟨F.sums,F.fns,F.loops,fun _=>false⟩
theorem Zth {E':Eng thy} {F:Fns thy} (h:FnsOk E' F):FnsOk E' (Zyw F):=⟨h.sumG,h.fnG,h.sum,h.fn,h.loop⟩
noncomputable def Fpt:Fns thy:=Zyw (addS (addS (addS (addS (addS F0 6 Yai) 7 Sfew) 8 Stck) 9 Yc3) 10 Yc2)
theorem Ybl:FnsOk E Fpt:=Zth (Zb (Zb (Zb (Zb (Zb F0_ok Z1l) Z5i) Z5j) (Zdv E_ok (Zd rfl) fun x h=>Zt7 x.1 h)) (Z5 E_ok (Zd rfl) fun x _=>Ztb x.1))
abbrev qCV1:=(1000000000000:Nat)
theorem Z76 (t:Tar) (v:Bool):Zg E Fpt (vc E Fpt 400) 3 [tarA t] hp0 0 (fun r=>ret E (patch hp0 0 r) r.v (.bool false v))=(
 True/\((!true)=true->false=v)/\((!true)=false->True/\((!fewF t)=true->true=v)/\((!fewF t)=false->((∀(c:Cls),c∈Tar.clauses t->Ex.sz (Cls.pay c)+(1:Nat)<=(1000000000:Nat)/\List.length (Cls.when_ c)+(1:Nat)<=qCV1)/\List.length (Tar.clauses t)+(1:Nat)<=qCV1)/\∀(y:Int×Int),y=chkP t->((∀(c:Cls),c∈Tar.clauses t->Ex.sz (Cls.pay c)<=(10000:Nat)/\List.length (Cls.when_ c)+(1:Nat)<=(1000000000:Nat))/\List.length (Tar.clauses t)+(1:Nat)<=(1000000000:Nat))/\∀(y_1:List Nat×Int),y_1=W5 t->((Prod.snd y_1 !=(0:Int))=true->((Prod.snd y_1==Prod.snd y)=true->true=v)/\((Prod.snd y_1==Prod.snd y)=false->((Prod.snd y_1==(2:Int))=true->true=v)/\((Prod.snd y_1==(2:Int))=false->false=v)))/\((Prod.snd y_1 !=(0:Int))=false->True/\∀(y_2:Tar×Int×Int),y_2=Vn (Prod.fst y_1)->((∀(c:Cls),c∈Tar.clauses (Prod.fst y_2)->Ex.sz (Cls.pay c)+(1:Nat)<=(1000000000:Nat)/\List.length (Cls.when_ c)+(1:Nat)<=qCV1)/\List.length (Tar.clauses (Prod.fst y_2))+(1:Nat)<=qCV1)/\∀(y_3:Int×Int),y_3=chkP (Prod.fst y_2)->((Prod.snd (Prod.snd y_2)==(0:Int))=true->((Prod.fst y==Prod.fst y_3)=true->((Prod.snd y==Prod.snd y_3)=true->true=v)/\((Prod.snd y==Prod.snd y_3)=false->false=v))/\((Prod.fst y==Prod.fst y_3)=false->false=v))/\((Prod.snd (Prod.snd y_2)==(0:Int))=false->false=v))))):=by kernel_rfl
theorem Z77 (t:Tar):PureC E 3 [tarA t] (.bool false true):=by
 refine Za E_ok (Zi E_ok Ybl 400) ?_
 rw [Z76];delta qCV1
 simp only [true_and,and_true,Bool.not_true,Bool.not_eq_true',Bool.not_eq_false',Bool.true_eq_false,Bool.false_eq_true,false_imp_iff,true_imp_iff,bne_iff_ne,bne_eq_false_iff_eq,beq_iff_eq,beq_eq_false_iff_ne,ne_eq]
 refine ⟨fun _=>trivial,fun hfew=> ?_⟩
 obtain ⟨hsm,hl66,hs60⟩:=Zvb hfew
 have hw12:∀c∈t.clauses,c.when_.length<=12:=fun c hc=>by
  simp only [fewF,Bool.and_eq_true,decide_eq_true_eq,List.all_eq_true] at hfew
  have:=hfew.2 c hc
  simp only [cOk,Bool.and_eq_true,decide_eq_true_eq] at this
  exact this.1.2
 have hS:SmT t:=⟨fun c hc=>⟨by have:=hs60 c hc;omega,by have:=hw12 c hc;omega⟩,by omega⟩
 have hC:(∀(c:Cls),c∈t.clauses->c.pay.sz+1<=1000000000/\c.when_.length+1<=1000000000000)/\t.clauses.length+1<=1000000000000:=⟨fun c hc=>⟨by have:=hs60 c hc;omega,by have:=hw12 c hc;omega⟩,by omega⟩
 refine ⟨hC,fun y hy=>⟨hS,fun z hz=> ?_⟩⟩
 by_cases hc:Z7 t=0
 · rcases Zmu hc with ⟨h1,h2,h3⟩|h1
   · rw [hz]
     refine ⟨fun h=>absurd h1 h,fun _=> ?_⟩
     rw [h3,Zmt hc h2]
     intro u hu
     rw [hu]
     refine ⟨hC,fun v hv=>⟨fun _=>⟨fun _=>⟨fun _=>trivial,fun h=>h (by rw [hy,hv])⟩,fun h=>h (by rw [hy,hv])⟩,fun h=>absurd rfl h⟩⟩
   · rw [hz,h1]
     exact ⟨fun _=>⟨fun _=>trivial,fun _=>⟨fun _=>trivial,fun h=>absurd rfl h⟩⟩,fun h=>by cases h⟩
 · have e:chkP t=(0,Z7 t):=by unfold chkP;rw [if_neg hc]
   rw [hz,Zgv hc,hy,e]
   exact ⟨fun _=>⟨fun _=>trivial,fun h=>absurd rfl h⟩,fun h=>absurd h hc⟩
end
end Go.Proofs.YtddgkebdlgglaaaGreatDoor
