/- Merged texts: TcF, TcH, TcI, TcJ, TcT, TcU, TcW, TcM, TcL, EngZP, TcR, TcS, TtV, TtWt, TcO, TcP. -/
import Derived.Lib.ItoaNum
import Derived.Lib.Split
import Derived.Shelf.Strings.Builder1
import Derived.WalkKit
import Derived.BigCall
import Derived.Deep.Slices
import Derived.Shelf.Strings.Count
import Derived.Shelf.Strconv.AtoiAll
import Derived.Shelf.Strconv.Itoa3
import Derived.Test.YtpmkapclhlmbbaaGreatDoorMe
namespace Go.Proofs.YtpmkapclhlmbbaaGreatDoor
set_option linter.unusedVariables false
set_option linter.unusedSimpArgs false
set_option linter.unnecessarySimpa false
set_option maxRecDepth 100000
section
open Go
noncomputable def dClk:DcL E (Cls×Int×Unit):= .cons (dR .clauses:Dc E (thy.dom Th.clauses)) (.cons (dInt .i64) .nil)
noncomputable def Scl:Sum thy:=sumB E Th.ins dClk (fun (l:List Ins) x=>ClP x.1 x.2.1.toNat l/\0<=x.2.1) fun (l:List Ins) x=>l++cdC x.1 x.2.1.toNat l.length
theorem Z6c:SumOk E 23 Scl:=Ztg E_ok (Zc rfl) fun x=>by
 have h:=Z6l x.1 x.2.1.toNat
 refine ⟨fun l fz hf hp=> ?_,fun hp=> ?_⟩
 · have:=h.1 l fz hf hp.1
   rw [Int.toNat_of_nonneg hp.2] at this
   exact this
 · have:=h.2 hp.1
   rw [Int.toNat_of_nonneg hp.2] at this
   exact this
noncomputable def Z6d:Dc E (List Ins):=(Zp4 (E:=E) Th.ins:Dc E (List (thy.dom Th.ins)))
noncomputable def Zt0:Sum thy:=Zfl E (fun _=>none) 10 (sumP (dA1 Z6d) (fun _=>True) fun x=> .tup [.int false .i64 (verF x.1).1,.int false .i64 (verF x.1).2])
theorem Zn7:SumOk E 14 Zt0:=Vx E_ok (Zp E_ok (Zc (f:=14) rfl) fun x _=>Zch x.1)
structure CpX where
 k:Nat
 r:Nat
 L:List Ins
noncomputable def Acp:Fr thy->Hp thy->Nat->Ann thy:=fun T h i=>{X:=Bool×CpX,fr:=fun x=> [(4,T 4),(13,T 13),(14,T 14),(15,.int false .i64 x.2.k)],bl:=fun x=>(bOf (T 4),.raw [match x.1 with|true=> .sl i 0 x.2.L.length 3 none|false=> .val (.slice none 0 0)] 0 none)::(match x.1 with|true=> [(i,.rows Th.ins x.2.L 0)]|false=> []),src:=fun x=>(match x.1 with|true=> [(i,1004)]|false=> []),md:= [bOf (T 4)],ih:=i+1,M:=i+60,meas:=fun x=>x.2.r,ex:=ex2,al:=al2,exOk:=Zop,alOk:=Zoq}
def Zdn (F:Fns thy):Fns thy:={F with defs:=fun _=>false}
theorem Un {E':Eng thy} {F:Fns thy} (h:FnsOk E' F):FnsOk E' (Zdn F):=⟨h.sumG,h.fnG,h.sum,h.fn,h.loop⟩
noncomputable def Fcp:Fns thy:=Zdn (addL (addS (addS (addS F0 23 Scl) 13 Zxu) 14 Zt0) 10 6 Acp E)
abbrev qCH1 (a0:Cls):=(Ex.mk (Ex.op (Cls.pay a0)) (Ex.n (Cls.pay a0)) (Ex.d0 (Cls.pay a0)) (Ex.d1 (Cls.pay a0)) (Ex.d2 (Cls.pay a0)) (Ex.d3 (Cls.pay a0)) (Ex.l (Cls.pay a0)))
abbrev qCH3 (a0:Tar):=(↑(List.length (Tar.clauses a0)):Int)
abbrev qCH5:=(0:Nat)
abbrev qCH4 (a0:CpX):=(↑(CpX.k a0):Int)
abbrev qCH2 (a0:Tar) (b0:CpX) (c0:CpX):=(qCH5=qCH5/\(Tar.clauses a0=Tar.clauses a0/\(false=true->false=true))/\(qCH3 a0)=(qCH3 a0)/\wr IntKind.i64 ((qCH4 b0)+(1:Int))=(qCH4 c0)/\True)
abbrev qCHa:=(1:Nat)
abbrev qCH6 (a0:CpX):=(List.length (CpX.L a0)+qCHa)
abbrev qCH9:=(0:Int)
abbrev qCH7:=(Prod.snd (verF (List.take qCHa (List.drop qCH5 [Ins.mk (16:Int) qCH9 qCH9]))) !=qCH9)
abbrev qCH8 (a0:Cls):=(Cls.mk (Cls.name a0) (Cls.when_ a0) (qCH1 a0))
theorem Zi4 (t:Tar) (l:List Ins) (e:Int):Zf E Fcp (vc E Fcp 400) 10 [.agg (encF false .tariffs t)] hp0 0 (fun r=>ret E (patch hp0 0 r) r.v (.tup [.psl Th.ins l false,.int false .i64 e]))=(
 ((∀(c:Cls),c∈Tar.clauses t->Ex.sz (Cls.pay c)+qCHa<=(1000000000000:Nat)/\List.length (Cls.when_ c)+qCHa<=(1000000000000:Nat))/\List.length (Tar.clauses t)+qCHa<=(1000000000000:Nat))/\((Ye t !=qCH9)=true->l= []/\Ye t=e/\True)/\((Ye t !=qCH9)=false->∃(R:Bool×CpX->Prop),((∃(y:CpX),R (false,y)/\true=true/\(qCH5=qCH5/\(Tar.clauses t=Tar.clauses t/\(false=true->false=true))/\(qCH3 t)=(qCH3 t)/\qCH9=(qCH4 y)/\True)/\(Value.slice none qCH5 qCH5=Value.slice none qCH5 qCH5/\True)/\True)\/∃(y:CpX),R (true,y)/\true=true/\False)/\(∀(y:CpX),R (false,y)->(decide ((qCH4 y)<(qCH3 t))=true->qCH9<=(qCH4 y)/\(qCH4 y)+(1:Int)<=(qCH3 t)/\∀(x:Cls),(Tar.clauses t)[Int.toNat (qCH4 y)]? =some x->((Ex.sz (qCH1 x)+qCHa<=(1000000000:Nat)/\Zj (qCH1 x)=true/\qCH5+List.length (cdC (qCH8 x) (Int.toNat (qCH4 y)) qCH5)<=(1000000000:Nat)/\List.length (Cls.when_ x)<=(8:Nat))/\qCH9<=(qCH4 y))/\∀(l':List Ins),l'= []++cdC (qCH8 x) (Int.toNat (qCH4 y)) qCH5->(∃(y_1:CpX),R (false,y_1)/\y_1.2+qCHa<=y.2/\true=true/\(qCH2 t y y_1)/\(False/\True)/\True)\/∃(y_1:CpX),R (true,y_1)/\y_1.2+qCHa<=y.2/\true=true/\(qCH2 t y y_1)/\((qCH5=qCH5/\List.length l'=List.length (CpX.L y_1)/\True)/\True)/\(l'=CpX.L y_1/\fzO (none:Option (List Ins×Nat))=qCH5)/\True)/\(decide ((qCH4 y)<(qCH3 t))=false->qCH5+qCHa<=qCHa/\True/\(qCH7=true->l= []/\(2:Int)=e/\True)/\(qCH7=false->(qCH5+qCHa<=qCHa/\List.take qCHa [Ins.mk (16:Int) qCH9 qCH9]=l)/\qCH9=e/\True)))/\∀(y:CpX),R (true,y)->(decide ((qCH4 y)<(qCH3 t))=true->qCH9<=(qCH4 y)/\(qCH4 y)+(1:Int)<=(qCH3 t)/\∀(x:Cls),(Tar.clauses t)[Int.toNat (qCH4 y)]? =some x->(List.length (CpX.L y)=List.length (CpX.L y)/\qCH5<=List.length (CpX.L y)/\(Ex.sz (qCH1 x)+qCHa<=(1000000000:Nat)/\Zj (qCH1 x)=true/\List.length (CpX.L y)+List.length (cdC (qCH8 x) (Int.toNat (qCH4 y)) (List.length (CpX.L y)))<=(1000000000:Nat)/\List.length (Cls.when_ x)<=(8:Nat))/\qCH9<=(qCH4 y))/\∀(l':List Ins),l'=CpX.L y++cdC (qCH8 x) (Int.toNat (qCH4 y)) (List.length (CpX.L y))->(∃(y_1:CpX),R (false,y_1)/\y_1.2+qCHa<=y.2/\true=true/\(qCH2 t y y_1)/\(False/\True)/\True)\/∃(y_1:CpX),R (true,y_1)/\y_1.2+qCHa<=y.2/\true=true/\(qCH2 t y y_1)/\((qCH5=qCH5/\List.length l'=List.length (CpX.L y_1)/\True)/\True)/\(l'=CpX.L y_1/\fzO (some (CpX.L y,qCH5))=qCH5)/\True)/\(decide ((qCH4 y)<(qCH3 t))=false->(List.length (CpX.L y)<=List.length (CpX.L y)/\qCH5<=List.length (CpX.L y)/\(qCH6 y)*(24:Nat)<=(140737488355328:Nat))/\∀(l':List Ins),l'=List.take (List.length (CpX.L y)) (CpX.L y)++ [Ins.mk (16:Int) qCH9 qCH9]->qCH5+(qCH6 y)<=List.length l'/\True/\((Prod.snd (verF (List.take (qCH6 y) (List.drop qCH5 l'))) !=qCH9)=true->l= []/\(2:Int)=e/\True)/\((Prod.snd (verF (List.take (qCH6 y) (List.drop qCH5 l'))) !=qCH9)=false->(qCH5+(qCH6 y)<=List.length l'/\List.take (qCH6 y) l'=l)/\qCH9=e/\True)))):=by kernel_rfl
theorem Z6e:FnsOk E Fcp:=Un (Zl E_ok (Zb (Zb (Zb F0_ok Z6c) Zky) Zn7) _ _ _)
theorem Zcb (t:Tar) (h:SmK t):PureC E 10 [.agg (encF false .tariffs t)] (.tup [.psl Th.ins (Zk t).1 false,.int false .i64 (Zk t).2]):=by
 refine Za E_ok (Ze E_ok Z6e 400) ?_
 rw [Zi4];delta qCH1 qCH3 qCH5 qCH4 qCH2 qCHa qCH6 qCH9 qCH7 qCH8
 obtain ⟨h1,h2⟩:=h
 simp only [Cls.eta,Ex.eta]
 refine ⟨⟨fun c hc=>⟨by have:=(h1 c hc).1;omega,by have:=(h1 c hc).2;omega⟩,by omega⟩,fun hn=> ?_,fun hz=> ?_⟩
 · have hn:Ye t≠0:=by simpa using hn
   unfold Zk
   rw [if_neg hn]
   exact ⟨rfl,rfl,trivial⟩
 · have hz:Ye t=0:=by simpa using hz
   obtain ⟨c1,c2,c3⟩:=Zw7 hz
   have hall:∀c∈t.clauses,Zj c.pay=true/\c.pay.sz<=10000/\c.when_.length<=8:=fun c hc=>⟨(c1 c hc).1,(h1 c hc).1,c3 c hc⟩
   have hlen:∀k,(cdCs (t.clauses.take k) 0 0).length<=30025*64:=fun k=>by
    have a:=Zhv (k:=0) (o:=0) (fun c hc=>hall c (List.mem_of_mem_take hc):∀c∈t.clauses.take k,_)
    have b:(t.clauses.take k).length<=64:=by rw [List.length_take];omega
    have e:(3*10000+25)*(t.clauses.take k).length<=(3*10000+25)*64:=Nat.mul_le_mul_left _ b
    omega
   have hstep:∀k c,t.clauses[k]? =some c->cdCs (t.clauses.take (k+1)) 0 0=cdCs (t.clauses.take k) 0 0++cdC c k (cdCs (t.clauses.take k) 0 0).length:=fun k c hc=>by
    have ek:t.clauses.take (k+1)=t.clauses.take k++ [c]:=by rw [List.take_add_one,hc];rfl
    have hk:k<t.clauses.length:=(List.getElem?_eq_some_iff.1 hc).1
    have el:0+(t.clauses.take k).length=k:=by rw [List.length_take];omega
    rw [ek,Zhj,el,Nat.zero_add]
   have vr:=Zok c1 c2
   have f1:((verF (cdT t)).2 !=0)=true->(Zk t).1= []/\(2:Int)=(Zk t).2/\True:=by
    intro q
    rw [vr] at q
    unfold Zk
    rw [if_pos hz]
    by_cases g:4096<(cdT t).length\/64<dCs t.clauses
    · rw [if_pos g];exact ⟨rfl,rfl,trivial⟩
    · rw [if_neg g] at q;simp at q
   have f2:((verF (cdT t)).2 !=0)=false->cdT t=(Zk t).1/\(0:Int)=(Zk t).2:=by
    intro q
    rw [vr] at q
    unfold Zk
    rw [if_pos hz]
    by_cases g:4096<(cdT t).length\/64<dCs t.clauses
    · rw [if_pos g] at q;simp at q
    · rw [if_neg g];exact ⟨rfl,rfl⟩
   refine ⟨fun y=>y.2.k<=t.clauses.length/\y.2.L=cdCs (t.clauses.take y.2.k) 0 0/\y.2.r=t.clauses.length-y.2.k/\(y.1=false->y.2.k=0),.inl ⟨⟨0,t.clauses.length,[]⟩,⟨Nat.zero_le _,rfl,rfl,fun _=>rfl⟩,by simp⟩,?_,?_⟩
   · rintro ⟨k,r,L⟩ ⟨k1,k2,k3,k4⟩
     simp only at k1 k2 k3 k4⊢
     obtain rfl:=k4 trivial
     refine ⟨fun q=>⟨by omega,by have:=of_decide_eq_true q;omega,fun c hc=> ?_⟩,fun q=> ?_⟩
     · have q:=of_decide_eq_true q
       have hc:t.clauses[0]? =some c:=hc
       have hm:=hall c (List.mem_of_getElem? hc)
       have hs:=hstep 0 c hc
       have hl:=hlen (0+1)
       rw [hs] at hl
       have e0:cdCs (t.clauses.take 0) 0 0= []:=rfl
       rw [e0] at hs hl
       have hl:(cdC c 0 0).length<=30025*64:=by simpa using hl
       refine ⟨⟨⟨by omega,hm.1,?_,hm.2.2⟩,by omega⟩,fun l' el=> .inr ⟨⟨1,t.clauses.length-1,l'⟩,⟨by dsimp only;omega,by rw [el];exact hs.symm,rfl,fun e=>by cases e⟩,(by show t.clauses.length-1+1<=r;omega),?_⟩⟩
       · show 0+(cdC c 0 0).length<=1000000000
         omega
       · have w1:wr .i64 (1:Int)=1:=by decide
         simp [w1,fzO]
     · have q:=of_decide_eq_false q
       have n0:t.clauses= []:=List.length_eq_zero_iff.1 (by omega)
       have e:List.take 1 (List.drop 0 [Ins.mk (16:Int) 0 0])=cdT t:=by unfold cdT;rw [n0];rfl
       have e':List.take 1 [Ins.mk (16:Int) 0 0]=cdT t:=e
       rw [e,e']
       exact ⟨by omega,trivial,f1,fun q=>⟨⟨by omega,(f2 q).1⟩,(f2 q).2,trivial⟩⟩
   · rintro ⟨k,r,L⟩ ⟨k1,k2,k3,k4⟩
     simp only at k1 k2 k3 k4⊢
     have hlk:=hlen k
     rw [<-k2] at hlk
     refine ⟨fun q=>⟨by omega,by have:=of_decide_eq_true q;omega,fun c hc=> ?_⟩,fun q=> ?_⟩
     · have q:=of_decide_eq_true q
       have hc:t.clauses[k]? =some c:=hc
       have hm:=hall c (List.mem_of_getElem? hc)
       have hs:=hstep k c hc
       have hl:=hlen (k+1)
       rw [hs,<-k2,List.length_append] at hl
       rw [<-k2] at hs
       have tk:Int.toNat (↑k:Int)=k:=by omega
       rw [tk]
       refine ⟨⟨by simp,Nat.zero_le _,⟨by omega,hm.1,by omega,hm.2.2⟩,by omega⟩,fun l' el=> .inr ⟨⟨k+1,t.clauses.length-(k+1),l'⟩,⟨by dsimp only;omega,by rw [el];exact hs.symm,rfl,fun e=>by cases e⟩,(by show t.clauses.length-(k+1)+1<=r;omega),?_⟩⟩
       have w1:wr .i64 ((↑k:Int)+1)=↑(k+1):=(wr64 (by omega) (by omega)).trans (by omega)
       simp [w1,fzO]
     · have q:=of_decide_eq_false q
       obtain rfl:k=t.clauses.length:=by omega
       refine ⟨⟨Nat.le_refl _,Nat.zero_le _,by omega⟩,fun l' el=> ?_⟩
       rw [List.take_length] at el
       have e:l'=cdT t:=by rw [el,k2,List.take_length];rfl
       have nl:l'.length=L.length+1:=by rw [el];simp
       have e2:List.take (L.length+1) (List.drop 0 l')=cdT t:=by rw [List.drop_zero,<-nl,List.take_length,e]
       have e3:List.take (L.length+1) l'=cdT t:=e2
       rw [e2,e3]
       exact ⟨by omega,trivial,f1,fun q=>⟨⟨by omega,(f2 q).1⟩,(f2 q).2,trivial⟩⟩
end
section
open Go
def Ars:Fr thy->Hp thy->Nat->Ann thy:=fun T h i=>{X:=LX,fr:=fun x=> [(0,T 0),(1,T 1),(5,.int false .i64 x.k)],bl:=fun _=> [],src:=fun _=> [],md:= [],ih:=i,M:=i+30,meas:=fun x=>x.r}
noncomputable def Frs:Fns thy:=addL F0 12 4 Ars E
theorem Z7f:FnsOk E Frs:=Zl E_ok F0_ok _ _ _
theorem Zr9 (a b:List Ins) (v:Bool):Zf E Frs (vc E Frs 400) 12 [.psl .ins a false,.psl .ins b false] hp0 0 (fun r=>ret E (patch hp0 0 r) r.v (.bool false v))=(
(((↑(List.length a):Int) !=(↑(List.length b):Int))=true->false=v)/\(((↑(List.length a):Int) !=(↑(List.length b):Int))=false->∃(R:LX->Prop),(∃(x:LX),R x/\true=true/\((a=a/\(false=true->false=true))/\(b=b/\(false=true->false=true))/\(0:Int)=(↑(LX.k x):Int)/\True)/\True)/\∀(x:LX),R x->(decide ((↑(LX.k x):Int)<(↑(List.length a):Int))=true->(0:Int)<=(↑(LX.k x):Int)/\(↑(LX.k x):Int)+(1:Int)<=(↑(List.length a):Int)/\∀(x_1:Ins),a[Int.toNat (↑(LX.k x):Int)]? =some x_1->(0:Int)<=(↑(LX.k x):Int)/\(↑(LX.k x):Int)+(1:Int)<=(↑(List.length b):Int)/\∀(x_2:Ins),b[Int.toNat (↑(LX.k x):Int)]? =some x_2->((!(Ins.op x_1==Ins.op x_2&&(Ins.n x_1==Ins.n x_2&&(Ins.m x_1==Ins.m x_2&&true))))=true->false=v)/\((!(Ins.op x_1==Ins.op x_2&&(Ins.n x_1==Ins.n x_2&&(Ins.m x_1==Ins.m x_2&&true))))=false->∃(x_3:LX),R x_3/\x_3.2+(1:Nat)<=x.2/\true=true/\((a=a/\(false=true->false=true))/\(b=b/\(false=true->false=true))/\wr IntKind.i64 ((↑(LX.k x):Int)+(1:Int))=(↑(LX.k x_3):Int)/\True)/\True))/\(decide ((↑(LX.k x):Int)<(↑(List.length a):Int))=false->true=v))):=by kernel_rfl
open Classical in
noncomputable def Zm2 (a b:List Ins):Bool:=decide (a=b)
theorem Zxb {a b:List Ins} (h:a=b):true=Zm2 a b:=by unfold Zm2;simp [h]
theorem Zxc {a b:List Ins} (h:a≠b):false=Zm2 a b:=by unfold Zm2;simp [h]
theorem Zsa (a b:List Ins) (h:a.length<=1000000000):PureC E 12 [.psl .ins a false,.psl .ins b false] (.bool false (Zm2 a b)):=by
 refine Za E_ok (Ze E_ok Z7f 400) ?_
 rw [Zr9]
 refine ⟨fun q=> ?_,fun q=> ?_⟩
 · exact Zxc fun e=>by rw [e] at q;simp at q
 · have q:(↑a.length:Int)=↑b.length:=by simpa using q
   refine ⟨fun x=>x.k<=a.length/\x.r=a.length-x.k/\∀j,j<x.k->a[j]? =b[j]?,⟨⟨0,a.length,[],0⟩,⟨Nat.zero_le _,rfl,fun j hj=>absurd hj (Nat.not_lt_zero _)⟩,by simp⟩,?_⟩
   rintro ⟨k,r,D,m⟩ ⟨k1,k2,k3⟩
   simp only at k1 k2 k3⊢
   refine ⟨fun g=> ?_,fun g=> ?_⟩
   · have g:=of_decide_eq_true g
     refine ⟨by omega,by omega,fun x hx=>⟨by omega,by omega,fun y hy=>⟨fun n=> ?_,fun n=> ?_⟩⟩⟩
     · have hx:a[k]? =some x:=hx
       have hy:b[k]? =some y:=hy
       refine Zxc fun e=> ?_
       rw [e,hy] at hx
       cases hx
       simp at n
     · have hx:a[k]? =some x:=hx
       have hy:b[k]? =some y:=hy
       have e:x=y:=by
        obtain ⟨a1,a2,a3⟩:=x
        obtain ⟨b1,b2,b3⟩:=y
        simp only [Bool.not_eq_false',Bool.and_eq_true,beq_iff_eq,Bool.and_true] at n
        obtain ⟨rfl,rfl,rfl⟩:=n
        rfl
       have w1:wr .i64 ((↑k:Int)+1)=↑(k+1):=(wr64 (by omega) (by omega)).trans (by omega)
       refine ⟨⟨k+1,a.length-(k+1),[],0⟩,⟨by dsimp only;omega,rfl,fun j hj=> ?_⟩,(by show a.length-(k+1)+1<=r;omega),by simp [w1]⟩
       have hj:j<k+1:=hj
       by_cases c:j=k
       · rw [c,hx,hy,e]
       · exact k3 j (by omega)
   · have g:=of_decide_eq_false g
     refine Zxb (List.ext_getElem? fun j=> ?_)
     by_cases c:j<k
     · exact k3 j c
     · rw [List.getElem?_eq_none (by omega),List.getElem?_eq_none (by omega)]
end
section
open Go
structure FwX where
 k:Nat
 r:Nat
def Z77:Fr thy->Hp thy->Nat->Ann thy:=fun T h i=>{X:=FwX,fr:=fun x=> [(1,T 1),(3,.int false .i64 x.k)],bl:=fun x=>blkP h (T 1),src:=fun _=> [],md:= [],ih:=i,M:=i+40,meas:=fun x=>x.r}
noncomputable def Z2j:Sum thy:=sumP Z60 (fun x=>1<=x.2.1/\x.2.1<=1000) fun x=> .int false .i64 (min (x.1.sz:Int) x.2.1)
theorem Ztx:SumOk E 22 Z2j:=Zp E_ok (Zc (f:=22) rfl) fun x h=>Z0i _ _ _ (Nat.le_refl _) h.1 h.2
noncomputable def Z3u:Fns thy:=addL (addS F0 22 Z2j) 9 4 Z77 E
theorem Zza:FnsOk E Z3u:=Zl E_ok (Zb F0_ok Ztx) _ _ _
abbrev qCJ1 (a0:Cls):=(min (↑(Ex.sz (Ex.mk (Ex.op (Cls.pay a0)) (Ex.n (Cls.pay a0)) (Ex.d0 (Cls.pay a0)) (Ex.d1 (Cls.pay a0)) (Ex.d2 (Cls.pay a0)) (Ex.d3 (Cls.pay a0)) (Ex.l (Cls.pay a0)))):Int) (81:Int)>(80:Int))
abbrev qCJ2 (a0:Tar):=(↑(List.length (Tar.clauses a0)):Int)
abbrev qCJ3 (a0:Tar):=(Tar.name a0=Tar.name a0/\Tar.for_ a0=Tar.for_ a0/\(Tar.clauses a0=Tar.clauses a0/\(false=true->false=true))/\True)
abbrev qCJ4 (a0:FwX):=(↑(FwX.k a0):Int)
theorem Zqb (t:Tar) (v:Bool):Zf E Z3u (vc E Z3u 400) 9 [.agg (encF false .tariffs t)] hp0 0 (fun r=>ret E (patch hp0 0 r) r.v (.bool false v))=(
 ∃(Q:Bool->Prop),((decide ((qCJ2 t)>(66:Int))=true->Q true)/\(decide ((qCJ2 t)>(66:Int))=false->(decide ((↑(List.length (Tar.name t)):Int)>(100:Int))=true->Q true)/\(decide ((↑(List.length (Tar.name t)):Int)>(100:Int))=false->Q false)))/\(Q true->false=v)/\(Q false->∃(R:FwX->Prop),(∃(x:FwX),R x/\true=true/\((0:Nat)=(0:Nat)/\(0:Int)=(qCJ4 x)/\True)/\(qCJ3 t)/\True)/\∀(x:FwX),R x->(decide ((qCJ4 x)<(qCJ2 t))=true->(0:Int)<=(qCJ4 x)/\(qCJ4 x)+(1:Int)<=(qCJ2 t)/\∀(x_1:Cls),(Tar.clauses t)[Int.toNat (qCJ4 x)]? =some x_1->(decide ((↑(List.length (Cls.name x_1)):Int)>(100:Int))=true->false=v)/\(decide ((↑(List.length (Cls.name x_1)):Int)>(100:Int))=false->(decide ((↑(List.length (Cls.when_ x_1)):Int)>(12:Int))=true->false=v)/\(decide ((↑(List.length (Cls.when_ x_1)):Int)>(12:Int))=false->((1:Int)<=(81:Int)/\(81:Int)<=(1000:Int))/\(decide (qCJ1 x_1)=true->false=v)/\(decide (qCJ1 x_1)=false->∃(x_2:FwX),R x_2/\x_2.2+(1:Nat)<=x.2/\true=true/\((0:Nat)=(0:Nat)/\wr IntKind.i64 ((qCJ4 x)+(1:Int))=(qCJ4 x_2)/\True)/\(qCJ3 t)/\True))))/\(decide ((qCJ4 x)<(qCJ2 t))=false->true=v))):=by kernel_rfl
def FewP (t:Tar):Prop:=t.clauses.length<=66/\t.name.length<=100/\∀c∈t.clauses,c.name.length<=100/\c.when_.length<=12/\c.pay.sz<=80
open Classical in
noncomputable def Zgt (t:Tar):Bool:=decide (FewP t)
theorem Z3v {t:Tar} (h:FewP t):true=Zgt t:=by unfold Zgt;simp [h]
theorem Zgu {t:Tar} (h:¬FewP t):false=Zgt t:=by unfold Zgt;simp [h]
theorem few20_iff {t:Tar}:Zgt t=true↔FewP t:=by unfold Zgt;simp
theorem Z3w {t:Tar} (h:FewP t):SmK t:=⟨fun c hc=>⟨by have:=(h.2.2 c hc).2.2;omega,by have:=(h.2.2 c hc).2.1;omega⟩,by have:=h.1;omega⟩
theorem Zqc (t:Tar):PureC E 9 [.agg (encF false .tariffs t)] (.bool false (Zgt t)):=by
 refine Za E_ok (Ze E_ok Zza 400) ?_
 rw [Zqb];delta qCJ1 qCJ2 qCJ3 qCJ4
 simp only [Ex.eta]
 refine ⟨fun b=>b=true↔¬(t.clauses.length<=66/\t.name.length<=100),⟨fun q=> ?_,fun q=>⟨fun q2=> ?_,fun q2=> ?_⟩⟩,fun q=> ?_,fun q=> ?_⟩
 · have q:=of_decide_eq_true q
   simp only [true_iff]
   omega
 · have q2:=of_decide_eq_true q2
   simp only [true_iff]
   omega
 · have q:=of_decide_eq_false q
   have q2:=of_decide_eq_false q2
   simp only [Bool.false_eq_true,false_iff,Classical.not_not]
   omega
 · have q:=q.1 rfl
   exact Zgu fun h=>q ⟨h.1,h.2.1⟩
 · have q:t.clauses.length<=66/\t.name.length<=100:=by simpa using q
   refine ⟨fun x=>x.k<=t.clauses.length/\x.r=t.clauses.length-x.k/\∀c∈t.clauses.take x.k,c.name.length<=100/\c.when_.length<=12/\c.pay.sz<=80,⟨⟨0,t.clauses.length⟩,⟨Nat.zero_le _,rfl,fun c hc=>by simp at hc⟩,by simp⟩,?_⟩
   rintro ⟨k,r⟩ ⟨k1,k2,k3⟩
   simp only at k1 k2 k3⊢
   refine ⟨fun g=>⟨by omega,by have:=of_decide_eq_true g;omega,fun c hc=> ?_⟩,fun g=> ?_⟩
   · have g:=of_decide_eq_true g
     have hc:t.clauses[k]? =some c:=hc
     have hm:=List.mem_of_getElem? hc
     refine ⟨fun n=> ?_,fun n=>⟨fun n2=> ?_,fun n2=>⟨by omega,fun n3=> ?_,fun n3=> ?_⟩⟩⟩
     · have n:=of_decide_eq_true n
       exact Zgu fun h=>by have:=(h.2.2 c hm).1;omega
     · have n2:=of_decide_eq_true n2
       exact Zgu fun h=>by have:=(h.2.2 c hm).2.1;omega
     · have n3:=of_decide_eq_true n3
       exact Zgu fun h=>by have:=(h.2.2 c hm).2.2;omega
     · have n:=of_decide_eq_false n
       have n2:=of_decide_eq_false n2
       have n3:=of_decide_eq_false n3
       have w1:wr .i64 ((↑k:Int)+1)=↑(k+1):=(wr64 (by omega) (by omega)).trans (by omega)
       refine ⟨⟨k+1,t.clauses.length-(k+1)⟩,⟨by dsimp only;omega,rfl,fun d hd=> ?_⟩,(by show t.clauses.length-(k+1)+1<=r;omega),by simp [w1]⟩
       have ek:t.clauses.take (k+1)=t.clauses.take k++ [c]:=by rw [List.take_add_one,hc];rfl
       have hd:d∈t.clauses.take (k+1):=hd
       rw [ek,List.mem_append,List.mem_singleton] at hd
       rcases hd with hd|rfl
       · exact k3 d hd
       · exact ⟨by omega,by omega,by omega⟩
   · have g:=of_decide_eq_false g
     obtain rfl:k=t.clauses.length:=by omega
     rw [List.take_length] at k3
     exact Z3v ⟨q.1,q.2,k3⟩
end
section
open Go
noncomputable def dTarC:DcL E (Tar×Unit):= .cons (dR .tariffs) .nil
def Z6g:List (SV thy)->Option (SV thy)
 | []=>some (.bool true true)
 |_=>none
noncomputable def Zi8:Sum thy:=sumO Z6g
noncomputable def Z8a:Sum thy:=Z2f E (fun _=>none) 10 dTarC (fun _=>True) (fun x=>Zgt x.1) fun y=> .bool false y
noncomputable def Z2q:Sum thy:=Z2f E (fun _=>none) 10 dTarC (fun x=>SmK x.1) (fun x=>Zk x.1) fun y=> .tup [.psl Th.ins y.1 false,.int false .i64 y.2]
noncomputable def FlC:Fns thy:=Zdn (addS (addS (addS (addS (addS F0 8 Zi8) 9 Z8a) 10 Z2q) 13 Zxu) 14 Zt0)
theorem Z6h (hs:SumOk E 8 Zi8):FnsOk E FlC:=Un (Zb (Zb (Zb (Zb (Zb F0_ok hs) (Zip E_ok (Zc rfl) fun x _=>Zqc x.1)) (Zip E_ok (Zc rfl) fun x h=>Zcb x.1 h)) Zky) Zn7)
theorem Zzi (t:Tar):(Ye t≠0/\Zk t=([],Ye t))\/(Ye t=0/\Zk t=([],2))\/(Ye t=0/\¬(4096<(cdT t).length\/64<dCs t.clauses)/\Zk t=(cdT t,0)):=by
 unfold Zk
 by_cases h:Ye t=0
 · rw [if_pos h]
   by_cases g:4096<(cdT t).length\/64<dCs t.clauses
   · rw [if_pos g];exact .inr (.inl ⟨h,rfl⟩)
   · rw [if_neg g];exact .inr (.inr ⟨h,g,rfl⟩)
 · rw [if_neg h];exact .inl ⟨h,rfl⟩
end
section
open Go
def dcI (n:Int):List Nat:=(Lib.itoa n).map UInt8.toNat
def nmsL:List (List Nat):= [[],[112,117,115,104],[108,111,97,100],[97,100,100],[115,117,98],[109,117,108],[109,105,110],[109,97,120],[100,111,119,110],[117,112],[104,97,108,102],[108,101,115,115],[114,97,110,103,101],[122,101,114,111],[106,117,109,112],[112,97,121],[110,111,110,101]]
def argK (op:Int):Nat:=if op=12 then 2 else if op=1\/op=13\/op=14\/op=15\/op=2 then 1 else 0
def argL (n m:Int):Nat->List Nat
 |0=> []
 |1=>32::dcI n
 |_=>32::dcI n++32::dcI m
def Zbz (x:Ins):List Nat:=nmsL.getD x.op.toNat []++argL x.n x.m (argK x.op)
def Zqo (c:List Ins):List Nat:=c.flatMap fun x=>Zbz x++ [10]
def Za5 (c:List Ins):List Nat×Int:=if 4096<c.length then ([],2) else if c.all formedF then (Zqo c,0) else ([],200)
end
section
open Go Go.RowKit
open Go.Shelf
def Zd7:Go.Shelf.Ren:=⟨fun|166=>37|240=>67|276=>104|n=>n,fun|20=>20|70=>79|9=>9|3=>3|75=>84|0=>0|72=>82|37=>80|4=>4|164=>157|80=>89|5=>5|n=>n,fun|n=>n⟩
theorem Z4o:Go.Proofs.Lays.n166 Tryz.prog Zd7:={
 mixed:=by kernel_rfl
 f166:=Tryz.func37.trans (congrArg some (by kernel_rfl))
 f240:=Tryz.func67.trans (congrArg some (by kernel_rfl))
 f276:=Tryz.func104.trans (congrArg some (by kernel_rfl))
 t0:=Tryz.underlying0
 a0:=Tryz.isAgg0
 z0:=Tryz.sizeOf0
 v0:=Tryz.zeroValue0
 t3:=Tryz.underlying3
 a3:=Tryz.isAgg3
 z3:=Tryz.sizeOf3
 v3:=Tryz.zeroValue3
 t4:=Tryz.underlying4
 a4:=Tryz.isAgg4
 z4:=Tryz.sizeOf4
 v4:=Tryz.zeroValue4
 t9:=Tryz.underlying9
 a9:=Tryz.isAgg9
 z9:=Tryz.sizeOf9
 v9:=Tryz.zeroValue9
 t20:=Tryz.underlying20
 a20:=Tryz.isAgg20
 z20:=Tryz.sizeOf20
 v20:=Tryz.zeroValue20
 t37:=Tryz.underlying80
 a37:=Tryz.isAgg80
 z37:=Tryz.sizeOf80
 v37:=Tryz.zeroValue80
 t70:=Tryz.underlying79
 a70:=Tryz.isAgg79
 z70:=Tryz.sizeOf79
 v70:=Tryz.zeroValue79
 t72:=Tryz.underlying82
 a72:=Tryz.isAgg82
 z72:=Tryz.sizeOf82
 v72:=Tryz.zeroValue82
 t75:=Tryz.underlying84
 a75:=Tryz.isAgg84
 z75:=Tryz.sizeOf84
 v75:=Tryz.zeroValue84
 t164:=Tryz.underlying157
 a164:=Tryz.isAgg157
 z164:=Tryz.sizeOf157
 v164:=Tryz.zeroValue157}
def Zd8:Go.Shelf.Ren:=⟨fun|167=>39|240=>67|276=>104|n=>n,fun|20=>20|70=>79|5=>5|75=>84|0=>0|72=>82|37=>80|4=>4|164=>157|80=>89|9=>9|n=>n,fun|n=>n⟩
theorem Z4p:Go.Proofs.Lays.n167 Tryz.prog Zd8:={
 mixed:=by kernel_rfl
 f167:=Tryz.func39.trans (congrArg some (by kernel_rfl))
 f240:=Tryz.func67.trans (congrArg some (by kernel_rfl))
 f276:=Tryz.func104.trans (congrArg some (by kernel_rfl))
 t0:=Tryz.underlying0
 a0:=Tryz.isAgg0
 z0:=Tryz.sizeOf0
 v0:=Tryz.zeroValue0
 t4:=Tryz.underlying4
 a4:=Tryz.isAgg4
 z4:=Tryz.sizeOf4
 v4:=Tryz.zeroValue4
 t5:=Tryz.underlying5
 a5:=Tryz.isAgg5
 z5:=Tryz.sizeOf5
 v5:=Tryz.zeroValue5
 t9:=Tryz.underlying9
 a9:=Tryz.isAgg9
 z9:=Tryz.sizeOf9
 v9:=Tryz.zeroValue9
 t20:=Tryz.underlying20
 a20:=Tryz.isAgg20
 z20:=Tryz.sizeOf20
 v20:=Tryz.zeroValue20
 t37:=Tryz.underlying80
 a37:=Tryz.isAgg80
 z37:=Tryz.sizeOf80
 v37:=Tryz.zeroValue80
 t70:=Tryz.underlying79
 a70:=Tryz.isAgg79
 z70:=Tryz.sizeOf79
 v70:=Tryz.zeroValue79
 t72:=Tryz.underlying82
 a72:=Tryz.isAgg82
 z72:=Tryz.sizeOf82
 v72:=Tryz.zeroValue82
 t75:=Tryz.underlying84
 a75:=Tryz.isAgg84
 z75:=Tryz.sizeOf84
 v75:=Tryz.zeroValue84
 t164:=Tryz.underlying157
 a164:=Tryz.isAgg157
 z164:=Tryz.sizeOf157
 v164:=Tryz.zeroValue157}
theorem Z8n:Builder.Extra Tryz.prog Zd7 where
 sizeBuilder:=by kernel_rfl
 liesBuilder:=by kernel_rfl
 t5:=Tryz.underlying5
 a5:=Tryz.isAgg5
 z5:=Tryz.sizeOf5
 v5:=Tryz.zeroValue5
 infoByte:=by kernel_rfl
 cellsByte:=by kernel_rfl
 sizeByte:=by kernel_rfl
 neB5:=by decide
theorem Z8o:Builder.Extra Tryz.prog Zd8 where
 sizeBuilder:=by kernel_rfl
 liesBuilder:=by kernel_rfl
 t5:=Tryz.underlying5
 a5:=Tryz.isAgg5
 z5:=Tryz.sizeOf5
 v5:=Tryz.zeroValue5
 infoByte:=by kernel_rfl
 cellsByte:=by kernel_rfl
 sizeByte:=by kernel_rfl
 neB5:=by decide
theorem Z8p:Builder.Extra Tryz.prog Tryz.lays169_ren where
 sizeBuilder:=by kernel_rfl
 liesBuilder:=by kernel_rfl
 t5:=Tryz.underlying5
 a5:=Tryz.isAgg5
 z5:=Tryz.sizeOf5
 v5:=Tryz.zeroValue5
 infoByte:=by kernel_rfl
 cellsByte:=by kernel_rfl
 sizeByte:=by kernel_rfl
 neB5:=by decide
def TB:TypeId:=82
def TU:TypeId:=5
theorem bdWs (B b:Nat) (bs:List Value) (s:ByteArray) (w:World) (h:Lib.IsBuilder TB TU B b bs w) (hlen:bs.length+s.size<=140737488355328) (hBw:B<=w.heap.size):
 Calls Tryz.prog 37 #[.pointer (some ⟨b,0,none⟩),.string s] w fun e w'=>e= .returned (.tuple #[.int .i64 s.size,.nilIface])/\Lib.BuilderAt TB TU B b (.pointer (some ⟨b,0,none⟩)) (bs++Lib.strCells s) w'/\Below B w w':=
 Any.Builder_WriteString Z4o Z8n B b bs s w h hlen hBw
theorem bdWb (B b:Nat) (bs:List Value) (c:Int) (w:World) (h:Lib.IsBuilder TB TU B b bs w) (hlen:bs.length+1<=140737488355328) (hBw:B<=w.heap.size):
 Calls Tryz.prog 39 #[.pointer (some ⟨b,0,none⟩),.int .u8 c] w fun e w'=>e= .returned .nilIface/\Lib.BuilderAt TB TU B b (.pointer (some ⟨b,0,none⟩)) (bs++ [.int .u8 c]) w'/\Below B w w':=
 Any.Builder_WriteByte Z4p Z8o B b bs c w h hlen hBw
theorem bdS (B b:Nat) (l:List UInt8) (w:World) (h:Lib.IsBuilder TB TU B b (Lib.byteCells l) w) (hBw:B<=w.heap.size):
 Calls Tryz.prog 40 #[.pointer (some ⟨b,0,none⟩)] w fun e w'=>e= .returned (.string ⟨l.toArray⟩)/\Below B w w':=
 Any.Builder_String_any Tryz.lays169 Z8p B b l w h hBw
theorem Zfv {B b:Nat} {p:Value} {bs:List Value} {W W':World} (h:Lib.BuilderAt TB TU B b p bs W) (hb:Below W.heap.size W W'):Lib.BuilderAt TB TU B b p bs W':=by
 have hlt:=h.lt
 obtain ⟨hB,v,hv,hown,hne⟩:=h
 exact ⟨hB,v,(hb.block b hlt).trans hv,hown.kept (row:=none) ⟨hb.os,hb.tape,hb.output,hb.size,fun k hk _=>hb.block k hk⟩ (Classical.em _),hne⟩
theorem Zox {B b:Nat} {bs:List Value} {W W':World} (h:Lib.IsBuilder TB TU B b bs W) (hb:Below W.heap.size W W'):Lib.IsBuilder TB TU B b bs W':=
 h.elim (fun x=> .inl (Zfv x hb)) (fun x=> .inr (Zfv x hb))
theorem Zfw {f:FuncId} {args:List (SV thy)} {v:SV thy} (h:PureC E f args v) {g:GH} {w wr:World} {vals:Array Value} (hI:Inv E w.heap.size σ0 hp0 g w) (hb:Below w.heap.size w wr) (hd:DenL E σ0 g args vals.toList):
 Calls Tryz.prog f vals wr fun en w'=>∃u g',en= .returned u/\Den E σ0 g' v u/\Below wr.heap.size wr w':=by
 have hI':Inv E wr.heap.size σ0 hp0 g wr:=by
  refine ⟨fun r o u hu=>hb.cell (World.block_lt_of_cell? _ _ (hI.gc r o u hu))|>.trans (hI.gc r o u hu),fun r es hu=> ?_,(fun b x hx=>by cases hx),fun b b' r z z' h1=>absurd rfl h1,(fun b r z hs=>by cases hs),(fun b x r z o v hx=>by cases hx),(fun b x r z hx=>by cases hx),hI.glob⟩
  obtain ⟨c,hc⟩:=hI.gm r es hu
  have hr:r<w.heap.size:=by
   rcases Nat.lt_or_ge r w.heap.size with h|h
   · exact h
   · rw [Array.getElem?_eq_none h] at hc;cases hc
  exact ⟨c,by rw [hb.block r hr];exact hc⟩
 refine Calls.mono (h g wr vals hI' hd) ?_
 rintro en w' ⟨u,he,g',hS,_,hv⟩
 exact ⟨u,g',he,hv,⟨hS.os,hS.tape,hS.output,hS.size,fun r hr=>hS.heap r hr fun b hb=>by cases hb⟩⟩
theorem Wl {f:FuncId} {args:List (SV thy)} {v:SV thy} (h:∀(g:GH) (w:World) (vals:Array Value),Inv E w.heap.size σ0 hp0 g w->DenL E σ0 g args vals.toList->Calls E.P f vals w fun en w'=>∃u,en= .returned u/\Den E σ0 g v u/\Ext w w'):PureC E f args v:=by
 intro g w vals hI hd
 refine (h g w vals hI hd).mono ?_
 rintro en w' ⟨u,he,hv,hx⟩
 refine ⟨u,he,g,⟨.refl _,fun b p h=> .inl h,.refl _,fun _ _ _ h=> .inl h,fun _ _ h=> .inl h,fun r hr _=>hx.block hr,hx.size,hx.os,hx.tape,hx.output,fun b r z h1 h2=>by cases h2⟩,?_,hv⟩
 refine ⟨fun r o u hu=>hx.cell (hI.gc r o u hu),fun r es hu=> ?_,(fun b x hx=>by cases hx),fun b b' r z z' h1=>absurd rfl h1,(fun b r z hs=>by cases hs),(fun b x r z o v hx=>by cases hx),(fun b x r z hx=>by cases hx),hI.glob⟩
 obtain ⟨c,hc⟩:=hI.gm r es hu
 have hr:r<w.heap.size:=by
  rcases Nat.lt_or_ge r w.heap.size with h|h
  · exact h
  · rw [Array.getElem?_eq_none h] at hc;cases hc
 exact ⟨c,by rw [hx.block hr];exact hc⟩
theorem Zrd {c:List Ins} {k:Nat} {x:Ins} (h:c[k]? =some x):Zqo (c.take (k+1))=Zqo (c.take k)++(Zbz x++ [10]):=by
 unfold Zqo
 rw [List.take_add_one,h,List.flatMap_append]
 simp
theorem Zu7 {c:List Ins} {k:Nat} {x:Ins} (h:c[k]? =some x):(c.take (k+1)).all formedF=((c.take k).all formedF&&formedF x):=by
 rw [List.take_add_one,h,List.all_append]
 simp
set_option maxHeartbeats 4000000 in
theorem Zu8 (c:List Ins) (hln:∀x∈c,formedF x=true->PureC E 38 [.agg [.int false .i64 x.op,.int false .i64 x.n,.int false .i64 x.m]] (.str false (Zbz x))) (hlb:∀x∈c,formedF x=true->(Zbz x).length<=1000):
 PureC E 15 [.psl .ins c false] (.tup [.str false (Za5 c).1,.int false .i64 (Za5 c).2]):=by
 refine Wl fun g w vals hI hd=> ?_
 obtain ⟨u,rfl,hu⟩:=Z5y hd
 obtain ⟨base,cap,cv,rfl,hl,hm,hf,hn,hb,hdd⟩:=Wc hu
 have cells:∀k x,c[k]? =some x->∃r o,base=some ⟨r,o,none⟩/\w.cell? ⟨r,o+k*3,none⟩=some (.int .i64 x.op)/\w.cell? ⟨r,o+k*3+1,none⟩=some (.int .i64 x.n)/\w.cell? ⟨r,o+k*3+2,none⟩=some (.int .i64 x.m):=by
  intro k x hx
  have hk:0<c.length:=Nat.lt_of_le_of_lt (Nat.zero_le _) (List.getElem?_eq_some_iff.1 hx).1
  obtain ⟨r,o,rfl,hc⟩:=hb hk
  have hc:=hc k x hx
  have hd:=hdd k x hx
  have W3:E.w Th.ins=3:=rfl
  rw [W3] at hc
  have c0:=hI.gc _ _ _ (hc 0 (by show 0<3;decide))
  have c1:=hI.gc _ _ _ (hc 1 (by show 1<3;decide))
  have c2:=hI.gc _ _ _ (hc 2 (by show 2<3;decide))
  have d0:=hd 0 (.int false .i64 x.op) rfl
  have d1:=hd 1 (.int false .i64 x.n) rfl
  have d2:=hd 2 (.int false .i64 x.m) rfl
  refine ⟨r,o,rfl,?_,?_,?_⟩
  · rw [Nat.add_zero] at c0;rw [c0];generalize cv k 0=q at d0;cases d0;rfl
  · rw [c1];generalize cv k 1=q at d1;cases d1;rfl
  · rw [c2];generalize cv k 2=q at d2;cases d2;rfl
 have dx:∀x:Ins,DenL E σ0 g [.agg [.int false .i64 x.op,.int false .i64 x.n,.int false .i64 x.m]] [Value.agg #[.int .i64 x.op,.int .i64 x.n,.int .i64 x.m]]:=fun x=>by
  refine ⟨rfl,fun j sv v h1 h2=> ?_⟩
  match j,h1,h2 with
  |0,h1,h2=>
   cases h1;cases h2
   refine .agg (fun j=>(#[Value.int .i64 x.op,.int .i64 x.n,.int .i64 x.m].getD j undef)) rfl (fun j hj=> ?_) (fun j sv hj=> ?_)
   · match j,hj with
     |0,_=>rfl
     |1,_=>rfl
     |2,_=>rfl
   · match j,hj with
     |0,hj=>cases hj;exact .int _ _ _
     |1,hj=>cases hj;exact .int _ _ _
     |2,hj=>cases hj;exact .int _ _ _
 have hfm:∀(x:Ins) (wr:World),Below w.heap.size w wr->Calls Tryz.prog 34 #[.agg #[.int .i64 x.op,.int .i64 x.n,.int .i64 x.m]] wr fun en w'=>en= .returned (.bool (formedF x))/\Below wr.heap.size wr w':=fun x wr hbw=>by
  refine (Zfw (Zce x) hI hbw (dx x)).mono ?_
  rintro en w' ⟨u,g',rfl,hv,hb⟩
  cases hv
  exact ⟨rfl,hb⟩
 have hln2:∀(x:Ins) (wr:World),x∈c->formedF x=true->Below w.heap.size w wr->Calls Tryz.prog 38 #[.agg #[.int .i64 x.op,.int .i64 x.n,.int .i64 x.m]] wr fun en w'=>∃s:ByteArray,toL s=Zbz x/\en= .returned (.string s)/\Below wr.heap.size wr w':=fun x wr hx hf hbw=>by
  refine (Zfw (hln x hx hf) hI hbw (dx x)).mono ?_
  rintro en w' ⟨u,g',rfl,hv,hb⟩
  cases hv
  rename_i b hb2
  exact ⟨b,hb2,rfl,hb⟩
 suffices H:Calls Tryz.prog 15 #[.slice base c.length cap] w fun en w'=>∃s:ByteArray,toL s=(Za5 c).1/\en= .returned (.tuple #[.string s,.int .i64 (Za5 c).2])/\Below w.heap.size w w' by
  refine Calls.mono H ?_
  rintro en w' ⟨s,hs,rfl,hb⟩
  refine ⟨_,rfl,?_,hb⟩
  refine .tup (fun j=>(#[Value.string s,.int .i64 (Za5 c).2].getD j undef)) rfl (fun j hj=> ?_) (fun j sv hj=> ?_)
  · match j,hj with
    |0,_=>rfl
    |1,_=>rfl
  · match j,hj with
    |0,hj=>cases hj;exact .str _ hs
    |1,hj=>cases hj;exact .int _ _ _
 clear hd hu hln
 by_cases hbig:4096<c.length
 · have et:Za5 c=([],2):=if_pos hbig
   have hq:decide ((c.length:Int)>4096)=true:=decide_eq_true (by omega)
   go_enter Tryz.func15,Tryz.ntmps15
   go_wp2
   go_ret2
   exact ⟨.empty,by first|rfl|(rw [et];rfl),by first|rfl|(rw [et];rfl),Below.refl _ _⟩
 · have hq:decide ((c.length:Int)>4096)=false:=decide_eq_false (by omega)
   go_enter Tryz.func15,Tryz.ntmps15
   go_wp2
   go_loopw [12] (fun iv wr=>∃(k:Nat) (acc:List UInt8),iv= .int .i64 k/\k<=c.length/\(c.take k).all formedF=true/\acc.map UInt8.toNat=Zqo (c.take k)/\acc.length<=1001*k/\Lib.IsBuilder TB TU w.heap.size w.heap.size (Lib.byteCells acc) wr/\Below w.heap.size w wr) (fun iv _=>c.length-(Lib.intOf iv).toNat)
   case atStart=>exact ⟨0,[],rfl,Nat.zero_le _,rfl,rfl,Nat.zero_le _,Lib.fresh_isBuilder TB TU w,(Below.refl _ w).alloc (Nat.le_refl _) _⟩
   case round=>
    obtain ⟨k,acc,rfl,hk,hall,hacc,hlen,hI2,hbw⟩:=hrel
    by_cases hlt:k<c.length
    · have hq2:decide ((k:Int)<(c.length:Int))=true:=decide_eq_true (by omega)
      obtain ⟨x,hx⟩:∃x,c[k]? =some x:=⟨_,List.getElem?_eq_getElem hlt⟩
      obtain ⟨r,o,rfl,h0,h1,h2⟩:=cells k x hx
      have hr:=World.block_lt_of_cell? _ _ h0
      have e0:=(hbw.cell (p:=⟨r,o+k*3,none⟩) hr).trans h0
      have e1:=(hbw.cell (p:=⟨r,o+k*3+1,none⟩) hr).trans h1
      have e2:=(hbw.cell (p:=⟨r,o+k*3+2,none⟩) hr).trans h2
      have hmem:x∈c:=List.mem_of_getElem? hx
      cases hfx:formedF x with
      |false=>
       have et:Za5 c=([],200):=by
        unfold Za5
        rw [if_neg hbig,if_neg]
        intro h
        have:=List.all_eq_true.1 h x hmem
        rw [hfx] at this
        cases this
       go_wp2_with (go_at_call 34;refine (hfm x _ (hbw.alloc hbw.size _)).mono ?_;rintro e W1 ⟨rfl,b1⟩;rw [hfx])
       go_ret2
       exact ⟨.empty,by first|rfl|(rw [et];rfl),by first|rfl|(rw [et];rfl),(hbw.alloc hbw.size _).trans (b1.mono (by have:=hbw.size;simp;omega))⟩
      |true=>
       go_wp2_with (first|(go_at_call 34;refine (hfm x _ (hbw.alloc hbw.size _)).mono ?_;rintro e W1 ⟨rfl,b1⟩;rw [hfx];refine Hid.out ?_))
       refine Lib.hid ?_
       have s1:w.heap.size<=wr.heap.size:=hbw.size
       have B1:Below w.heap.size w W1:=(hbw.alloc hbw.size _).trans (b1.mono (by simp;omega))
       have I1:=Zox hI2 (((Below.refl wr.heap.size wr).alloc (Nat.le_refl _) _).trans (b1.mono (by simp)))
       have cN:∀(j:Nat) (u:Value),(#[Value.int .i64 x.op,.int .i64 x.n,.int .i64 x.m])[j]? =some u->W1.cell? ⟨wr.heap.size,j,none⟩=some u:=by
        intro j u hj
        have hb:=b1.cell (p:=⟨wr.heap.size,j,none⟩) (by simp)
        rw [hb,World.cell?_alloc_new]
        exact hj
       have f0:=cN 0 _ rfl
       have f1:=cN 1 _ rfl
       have f2:=cN 2 _ rfl
       clear cN
       go_wp2_with (first|(go_at_call 38;refine (hln2 x _ hmem hfx B1).mono ?_;rintro e W2 ⟨sl,hsl,rfl,b2⟩;refine Hid.out ?_))
       refine Lib.hid ?_
       have B2:Below w.heap.size w W2:=B1.trans (b2.mono B1.size)
       have I2:=Zox I1 b2
       have ls:sl.size<=1000:=by rw [<-Vj,hsl];exact hlb x hmem hfx
       have lb:=Lib.byteCells_length acc
       have lb2:=Lib.strCells_length sl
       go_wp2_with (first|(go_at_call 37;refine (bdWs w.heap.size w.heap.size _ sl _ I2 (by omega) B2.size).mono ?_;rintro e W3 ⟨rfl,h3,b3⟩;refine Hid.out ?_))
       refine Lib.hid ?_
       have I3:Lib.IsBuilder TB TU w.heap.size w.heap.size (Lib.byteCells acc++Lib.strCells sl) W3:=Or.inr h3
       go_wp2_with (first|(go_at_call 39;refine (bdWb w.heap.size w.heap.size _ 10 _ I3 (by rw [List.length_append];omega) (B2.trans b3).size).mono ?_;rintro e W4 ⟨rfl,h4,b4⟩))
       go_roundw
       case rel=>
        refine ⟨k+1,acc++(sl.data.toList++ [10]),by simp,hlt,?_,?_,?_,?_,(B2.trans b3).trans b4⟩
        · rw [Zu7 hx,hall,hfx];rfl
        · rw [Zrd hx,List.map_append,hacc,List.map_append]
          have:sl.data.toList.map UInt8.toNat=Zbz x:=hsl
          rw [this];rfl
        · have:sl.data.toList.length=sl.size:=by rw [Array.length_toList];rfl
          simp only [List.length_append,List.length_cons,List.length_nil,this]
          omega
        · have e:Lib.byteCells (acc++(sl.data.toList++ [10]))=(Lib.byteCells acc++Lib.strCells sl)++ [.int .u8 10]:=by
           rw [Lib.strCells_eq,Lib.byteCells_append,Lib.byteCells_append,List.append_assoc];rfl
          rw [e]
          exact Or.inr h4
       case measure=>
        simp only [Lib.intOf]
        omega
    · have hq2:decide ((k:Int)<(c.length:Int))=false:=decide_eq_false (by omega)
      obtain rfl:k=c.length:=by omega
      rw [List.take_length] at hall hacc
      have et:Za5 c=(Zqo c,0):=by
       unfold Za5
       rw [if_neg hbig,if_pos hall]
      go_wp2_with (go_at_call 40;refine (bdS w.heap.size w.heap.size acc wr hI2 hbw.size).mono ?_;rintro e W1 ⟨rfl,b1⟩)
      go_ret2
      exact ⟨⟨acc.toArray⟩,by first|exact hacc|(rw [et];exact hacc),by first|rfl|(rw [et];rfl),hbw.trans b1⟩
end
section
open Go
noncomputable def Sita (B:Int):Sum thy:=Ziq (dL1V dIV) (fun x=>0<=x.1/\x.1<B) (fun x=>dcI x.1) fun y=> .str false y
noncomputable def Fln (B:Int):Fns thy:=addS F0 68 (Sita B)
abbrev qCO1:=(ByteArray.mk #[(32:UInt8)])
abbrev qCO2:=(9223372036854775807:Nat)
abbrev qCO3 (a0:Int) (b0:Int):=((0:Int)<=a0/\a0+(1:Int)<=b0)
abbrev qCO4 (a0:List Nat):=(toL qCO1++a0)
theorem Zs4 (B op n m:Int) (v:List Nat):Zf E (Fln B) (vc E (Fln B) 400) 38 [.agg [.int false .i64 op,.int false .i64 n,.int false .i64 m]] hp0 0 (fun r=>ret E (patch hp0 0 r) r.v (.str false v))=(
 (0:Int)<=op/\op+(1:Int)<=(↑(17:Nat):Int)/\∀(x:List Nat),[[],[(112:Nat),(117:Nat),(115:Nat),(104:Nat)],[(108:Nat),(111:Nat),(97:Nat),(100:Nat)],[(97:Nat),(100:Nat),(100:Nat)],[(115:Nat),(117:Nat),(98:Nat)],[(109:Nat),(117:Nat),(108:Nat)],[(109:Nat),(105:Nat),(110:Nat)],[(109:Nat),(97:Nat),(120:Nat)],[(100:Nat),(111:Nat),(119:Nat),(110:Nat)],[(117:Nat),(112:Nat)],[(104:Nat),(97:Nat),(108:Nat),(102:Nat)],[(108:Nat),(101:Nat),(115:Nat),(115:Nat)],[(114:Nat),(97:Nat),(110:Nat),(103:Nat),(101:Nat)],[(122:Nat),(101:Nat),(114:Nat),(111:Nat)],[(106:Nat),(117:Nat),(109:Nat),(112:Nat)],[(112:Nat),(97:Nat),(121:Nat)],[(110:Nat),(111:Nat),(110:Nat),(101:Nat)]][Int.toNat op]? =some x->((op==(1:Int))=true->(qCO3 n B)/\∀(y:List Nat),y=dcI n->List.length (toL qCO1)+List.length y<=qCO2/\List.length x+List.length (qCO4 y)<=qCO2/\x++(qCO4 y)=v)/\((op==(1:Int))=false->((op==(13:Int))=true->(qCO3 n B)/\∀(y:List Nat),y=dcI n->List.length (toL qCO1)+List.length y<=qCO2/\List.length x+List.length (qCO4 y)<=qCO2/\x++(qCO4 y)=v)/\((op==(13:Int))=false->((op==(14:Int))=true->(qCO3 n B)/\∀(y:List Nat),y=dcI n->List.length (toL qCO1)+List.length y<=qCO2/\List.length x+List.length (qCO4 y)<=qCO2/\x++(qCO4 y)=v)/\((op==(14:Int))=false->((op==(15:Int))=true->(qCO3 n B)/\∀(y:List Nat),y=dcI n->List.length (toL qCO1)+List.length y<=qCO2/\List.length x+List.length (qCO4 y)<=qCO2/\x++(qCO4 y)=v)/\((op==(15:Int))=false->((op==(2:Int))=true->(qCO3 n B)/\∀(y:List Nat),y=dcI n->List.length (toL qCO1)+List.length y<=qCO2/\List.length x+List.length (qCO4 y)<=qCO2/\x++(qCO4 y)=v)/\((op==(2:Int))=false->((op==(12:Int))=true->(qCO3 n B)/\∀(y:List Nat),y=dcI n->List.length (toL qCO1)+List.length y<=qCO2/\List.length x+List.length (qCO4 y)<=qCO2/\(qCO3 m B)/\∀(y_1:List Nat),y_1=dcI m->List.length (toL qCO1)+List.length y_1<=qCO2/\List.length (x++(qCO4 y))+List.length (qCO4 y_1)<=qCO2/\x++(qCO4 y)++(qCO4 y_1)=v)/\((op==(12:Int))=false->x=v))))))):=by kernel_rfl
theorem Z2h:∀(k u:Nat),u<10^(k+1)->Lib.nDigits u<=k+1
 |0,u,h=>by rw [Lib.nDigits_small (by simpa using h)];exact Nat.le_refl _
 |k+1,u,h=>by
  by_cases h1:u<10
  · rw [Lib.nDigits_small h1];omega
  · rw [Lib.nDigits_big h1]
    rw [Nat.pow_succ] at h
    have:=Z2h k (u/10) (by omega)
    omega
theorem Zgp {n:Int} (h0:0<=n) (h1:n<=9007199254740992):(dcI n).length<=16:=by
 obtain ⟨u,rfl⟩:∃u:Nat,n=u:=⟨n.toNat,by omega⟩
 unfold dcI
 unfold Lib.itoa
 rw [if_neg (by omega),List.length_map,Lib.decDigits_length]
 exact Z2h 15 u (by omega)
theorem Z3g:∀s∈nmsL,s.length<=5:=by decide
theorem Zs5 {op:Int} (h0:0<=op) (h1:op<=16) {x:List Nat} (h:nmsL[op.toNat]? =some x):nmsL.getD op.toNat []=x/\x.length<=5:=by
 refine ⟨by rw [List.getD_eq_getElem?_getD,h];rfl,Z3g x (List.mem_of_getElem? h)⟩
theorem Ziw {x:Ins} (h:formedF x=true):1<=x.op/\x.op<=16:=by
 unfold formedF at h
 split at h
 · omega
 · split at h
   · omega
   · split at h
     · omega
     · have:=of_decide_eq_true h
       omega
theorem Znw {x:Ins} (h:formedF x=true):0<=x.n/\x.n<=9007199254740992/\0<=x.m/\x.m<=9007199254740992:=by
 unfold formedF at h
 split at h
 · have:=of_decide_eq_true h;omega
 · split at h
   · have:=of_decide_eq_true h;omega
   · split at h
     · have:=of_decide_eq_true h;omega
     · have:=of_decide_eq_true h;omega
theorem Zys {x:Ins} (h:formedF x=true):(Zbz x).length<=1000:=by
 obtain ⟨h1,h2⟩:=Ziw h
 obtain ⟨n0,n1,m0,m1⟩:=Znw h
 have hn:=Zgp n0 n1
 have hm:=Zgp m0 m1
 have hk:x.op.toNat<nmsL.length:=by show x.op.toNat<17;omega
 have hx:=(Zs5 (by omega) h2 (List.getElem?_eq_getElem hk))
 unfold Zbz
 rw [hx.1]
 rw [List.length_append]
 have:=hx.2
 have:(argL x.n x.m (argK x.op)).length<=40:=by
  unfold argL
  split
  · simp
  · simp;omega
  · simp;omega
 omega
theorem Zs6 {B:Int} (hB:SumOk E 68 (Sita B)) {x:Ins} (h:formedF x=true) (hn:x.n<B) (hm:x.m<B):PureC E 38 [.agg [.int false .i64 x.op,.int false .i64 x.n,.int false .i64 x.m]] (.str false (Zbz x)):=by
 refine Za E_ok (Ze E_ok (Zb F0_ok hB) 400) ?_
 show Zf E (Fln B) (vc E (Fln B) 400) _ _ _ _ _
 rw [Zs4];delta qCO1 qCO2 qCO3 qCO4
 obtain ⟨h1,h2⟩:=Ziw h
 obtain ⟨n0,n1,m0,m1⟩:=Znw h
 have ln:=Zgp n0 n1
 have lm:=Zgp m0 m1
 have l32:List.length (toL (ByteArray.mk #[(32:UInt8)]))=1:=rfl
 refine ⟨by omega,by show x.op+1<=17;omega,fun s hs=> ?_⟩
 obtain ⟨e,ls⟩:=Zs5 (by omega) h2 hs
 have one:argK x.op=1->(0<=x.n/\x.n+1<=B)/\∀y,y=dcI x.n->List.length (toL (ByteArray.mk #[(32:UInt8)]))+List.length y<=9223372036854775807/\List.length s+List.length (toL (ByteArray.mk #[(32:UInt8)])++y)<=9223372036854775807/\s++(toL (ByteArray.mk #[(32:UInt8)])++y)=Zbz x:=by
  intro ha
  refine ⟨⟨n0,by omega⟩,?_⟩
  rintro y rfl
  refine ⟨by omega,by rw [List.length_append];omega,?_⟩
  unfold Zbz
  rw [ha,e];rfl
 have ak:∀k:Int,(x.op==k)=true->x.op=k:=fun k q=>by simpa using q
 have nk:∀k:Int,(x.op==k)=false->x.op≠k:=fun k q=>by simpa using q
 refine ⟨fun q=>one (by rw [ak _ q];rfl),fun q1=>⟨fun q=>one (by rw [ak _ q];rfl),fun q2=>⟨fun q=>one (by rw [ak _ q];rfl),fun q3=>⟨fun q=>one (by rw [ak _ q];rfl),fun q4=>⟨fun q=>one (by rw [ak _ q];rfl),fun q5=>⟨fun q=> ?_,fun q6=> ?_⟩⟩⟩⟩⟩⟩
 · refine ⟨⟨n0,by omega⟩,?_⟩
   rintro y rfl
   refine ⟨by omega,by rw [List.length_append];omega,⟨m0,by omega⟩,?_⟩
   rintro z rfl
   refine ⟨by omega,by simp only [List.length_append];omega,?_⟩
   unfold Zbz
   rw [show argK x.op=2 by rw [ak _ q];rfl,e,List.append_assoc];rfl
 · have a1:=nk _ q1
   have a2:=nk _ q2
   have a3:=nk _ q3
   have a4:=nk _ q4
   have a5:=nk _ q5
   have a6:=nk _ q6
   unfold Zbz
   rw [show argK x.op=0 by unfold argK;rw [if_neg a6,if_neg (by omega)],e]
   simp [argL]
end
section
open Go Go.RowKit
def cntN (s:List Nat) (b:Nat):Nat:=Lib.countByte (mkS s).data.toList (UInt8.ofNat b)
theorem Z09 (s:List Nat) (b:Nat):PureC E 41 [.str false s,.str false [b]] (.int false .i64 (cntN s b)):=by
 refine Wl fun g w vals hI hd=> ?_
 obtain ⟨u,v,rfl,hu,hv⟩:=Z7w hd
 cases hu
 rename_i x hx
 cases hv
 rename_i y hy
 have ex:x=mkS s:=by rw [<-hx,V4]
 have ey:y=⟨#[UInt8.ofNat b]⟩:=by rw [<-V4 y,hy];rfl
 subst ex ey
 refine (Any.strings_Count_one Tryz.lays138 (mkS s) (UInt8.ofNat b) w).mono ?_
 rintro e w' ⟨rfl,rfl⟩
 exact ⟨_,rfl,.int _ _ _,Below.refl _ _⟩
theorem Zr1 (w:World) (e:TypeId) (t:ByteArray):Below w.heap.size w (Lib.bytesWorld w e t):=Lib.bytesWorld_below _ _ _
theorem Zw3 (s:List Nat) (v:Int) (hl:s.length<=1000000) (h:Lib.atoiAll (mkS s).data.toList= .ok v):PureC E 45 [.str false s] (.tup [.int false .i64 v,.val .nilIface]):=by
 refine Wl fun g w vals hI hd=> ?_
 obtain ⟨u,rfl,hu⟩:=Z5y hd
 cases hu
 rename_i x hx
 have ex:x=mkS s:=by rw [<-hx,V4]
 subst ex
 have hz:(mkS s).size<=1000000:=by rw [<-Vj,hx];exact hl
 refine (Any.strconv_Atoi_ok Tryz.lays172 (mkS s) (by omega) v h w).mono ?_
 rintro e w' ⟨rfl,hw⟩
 refine ⟨_,rfl,?_,?_⟩
 · refine .tup (fun j=>(#[Value.int .i64 v,.nilIface].getD j undef)) rfl (fun j hj=> ?_) (fun j sv hj=> ?_)
   · match j,hj with
     |0,_=>rfl
     |1,_=>rfl
   · match j,hj with
     |0,hj=>cases hj;exact .int _ _ _
     |1,hj=>cases hj;exact .val _
 · rcases hw with rfl|⟨t,rfl⟩
   · exact Below.refl _ _
   · exact Zr1 _ _ _
theorem Zr2 (i:Nat) (hi:i<100):PureC E 68 [.int false .i64 (i:Int)] (.str false (dcI i)):=by
 refine Wl fun g w vals hI hd=> ?_
 obtain ⟨u,rfl,hu⟩:=Z5y hd
 cases hu
 refine (Any.strconv_Itoa_small Tryz.lays171 i hi w).mono ?_
 rintro e w' ⟨rfl,rfl⟩
 refine ⟨_,rfl,.str _ ?_,Below.refl _ _⟩
 unfold dcI Lib.itoa
 rw [if_neg (by omega)]
 rfl
theorem Zr3:SumOk E 68 (Sita 100):=Vo E_ok (Zc rfl) fun x h=>by
 have:=Zr2 x.1.toNat (by omega)
 rw [show ((x.1.toNat:Nat):Int)=x.1 by omega] at this
 exact this
end
section
open Go
def parC (l:Bool) (y:Tar×Int×Int):SV thy:= .tup [.agg [.str l y.1.name,.int l .i64 y.1.for_,.psl Th.clauses y.1.clauses false],.int l .i64 y.2.1,.int l .i64 y.2.2]
def exsC:List (List Nat×(Tar×Int×Int)):= [
 ([116,97,114,105,102,102,32,97,32,102,111,114,32,108,111,115,115,32,123,32,32,125],(⟨[97],5,[]⟩,0,0)),
 ([116,97,114,105,102,102,32,97,32,102,111,114,32,108,111,115,115,32,123,32,99,108,97,117,115,101,32,98,32,119,104,101,110,32,99,108,97,115,115,32,105,110,32,49,46,46,51,32,112,97,121,32,53,32,42,32,107,109,59,32,125],(⟨[97],5,[⟨[98],[⟨4,1,3⟩],.mk 5 0 0 0 0 0 [.mk 1 5 0 0 0 0 [],.mk 2 6 0 0 0 0 []]⟩]⟩,0,0)),
 ([116,97,114,105,102,102,32,97,32,102,111,114,32,108,111,115,115,32,123,32,99,108,97,117,115,101,32,98,32,112,97,121,32,105,102,32,40,107,109,32,60,32,57,44,32,49,44,32,50,41,59,32,125],(⟨[97],5,[⟨[98],[],.mk 11 0 0 0 0 0 [.mk 2 6 0 0 0 0 [],.mk 1 9 0 0 0 0 [],.mk 1 1 0 0 0 0 [],.mk 1 2 0 0 0 0 []]⟩]⟩,0,0))
]
def Zzw (s:List Nat):List (List Nat×(Tar×Int×Int))->Option (SV thy)
 | []=>none
 |p::r=>match eqL s p.1 with|true=>some (parC true p.2)|false=>Zzw s r
def Zdz:List (SV thy)->Option (SV thy)
 | [.str _ s]=>Zzw s exsC
 |_=>none
theorem Z34:∀p∈exsC,Zca p.1=p.2:=by
 unfold exsC
 simp only [List.forall_mem_cons]
 exact ⟨by kernel_rfl,by kernel_rfl,by kernel_rfl,fun _ h=>nomatch h⟩
def okTC (t:Tar):Bool:=(t.clauses.all fun c=>Nat.blt c.pay.sz 10000&&Nat.blt c.when_.length 10000)&&Nat.blt t.clauses.length 10000
noncomputable def Zl5 (args:List (SV thy)):Option (SV thy):=
 match dTarC.dec (args.map unfl) with
 |some (t,_)=>(match okTC t with|true=>some (.tup [.psl Th.ins (Zk t).1 false,.int true .i64 (Zk t).2])|false=>none)
 |none=>none
def Zuc:List (SV thy)->Option (SV thy)
 | [.val (.slice none 0 0)]=>some (.tup [.int true .i64 (verF []).1,.int true .i64 (verF []).2])
 | [.psl .ins c _]=>some (.tup [.int true .i64 (verF c).1,.int true .i64 (verF c).2])
 |_=>none
def okCC (c:List Ins):Bool:=c.all fun x=>decide (x.n<100/\x.m<100)
def Zl6:List (SV thy)->Option (SV thy)
 | [.psl .ins c _]=>(match okCC c with|true=>some (.tup [.str true (Za5 c).1,.int true .i64 (Za5 c).2])|false=>none)
 |_=>none
def Zud:List (SV thy)->Option (SV thy)
 | [.str _ s,.str _ [b]]=>some (.int true .i64 (cntN s b))
 |_=>none
def Zl7:List (SV thy)->Option (SV thy)
 | [.str _ s]=>(match Nat.ble s.length 1000,Lib.atoiAll (mkS s).data.toList with|true,.ok v=>some (.tup [.int true .i64 v,.val .nilIface])|_,_=>none)
 |_=>none
def gthC:List (SV thy)->Option Th:=fun _=>some Th.ins
noncomputable def Z35:Fns thy:=Zdn (addS (addS (addS (addS (addS (addS F0 51 (sumO Zdz)) 10 (Zfl EL gthC 20 (sumO Zl5))) 14 (Zfl EL gthC 20 (sumO Zuc))) 15 (Zfl EL gthC 20 (sumO Zl6))) 41 (sumO Zud)) 45 (sumO Zl7))
theorem Zqs (v:Bool):Zf EL Z35 (vc EL Z35 4000) 8 [] hp0 0 (fun r=>ret EL (patch hp0 0 r) r.v (.bool true v))=(
true=v):=by kernel_rfl
theorem X5 {E':Eng thy} {f:FuncId} {args:List (SV thy)} {v v':SV thy} (h:PureC E' f args v) (hv:∀σ g u,Den E' σ g v u->Den E' σ g v' u):PureC E' f args v':=by
 intro g w vals hI hd
 refine (h g w vals hI hd).mono ?_
 rintro en w' ⟨u,he,g',hS,hI',hu⟩
 exact ⟨u,he,g',hS,hI',hv _ _ _ hu⟩
theorem Zzx {E':Eng thy} {σ:Pl} {g:GH} {cs cs':List (SV thy)} {u:Value} (h:Den E' σ g (.agg cs) u) (hl:cs'.length=cs.length) (hm:∀(j:Nat) sv',cs'[j]? =some sv'->∃sv,cs[j]? =some sv/\∀u,Den E' σ g sv u->Den E' σ g sv' u):Den E' σ g (.agg cs') u:=by
 cases h with
 |agg c hs hc hd=>
  refine .agg c (hs.trans hl.symm) (fun j hj=>hc j (by omega)) fun j sv' hj=> ?_
  obtain ⟨sv,h1,h2⟩:=hm j sv' hj
  exact h2 _ (hd j sv h1)
theorem Za7 {E':Eng thy} {σ:Pl} {g:GH} {cs cs':List (SV thy)} {u:Value} (h:Den E' σ g (.tup cs) u) (hl:cs'.length=cs.length) (hm:∀(j:Nat) sv',cs'[j]? =some sv'->∃sv,cs[j]? =some sv/\∀u,Den E' σ g sv u->Den E' σ g sv' u):Den E' σ g (.tup cs') u:=by
 cases h with
 |tup c hs hc hd=>
  refine .tup c (hs.trans hl.symm) (fun j hj=>hc j (by omega)) fun j sv' hj=> ?_
  obtain ⟨sv,h1,h2⟩:=hm j sv' hj
  exact h2 _ (hd j sv h1)
theorem Zzy {E':Eng thy} {σ:Pl} {g:GH} {y:Tar×Int×Int} {u:Value} (h:Den E' σ g (parC false y) u):Den E' σ g (parC true y) u:=by
 refine Za7 h rfl fun j sv' hj=> ?_
 match j,hj with
 |0,hj=>
  cases hj
  refine ⟨_,rfl,fun u hu=>Zzx hu rfl fun j sv' hj=> ?_⟩
  match j,hj with
  |0,hj=>cases hj;exact ⟨_,rfl,fun u hu=>by cases hu;exact .str _ ‹_›⟩
  |1,hj=>cases hj;exact ⟨_,rfl,fun u hu=>by cases hu;exact .int _ _ _⟩
  |2,hj=>cases hj;exact ⟨_,rfl,fun u hu=>hu⟩
 |1,hj=>cases hj;exact ⟨_,rfl,fun u hu=>by cases hu;exact .int _ _ _⟩
 |2,hj=>cases hj;exact ⟨_,rfl,fun u hu=>by cases hu;exact .int _ _ _⟩
theorem Zog {s:List Nat} {v:SV thy}:∀{l:List (List Nat×(Tar×Int×Int))},Zzw s l=some v->∃p∈l,s=p.1/\v=parC true p.2
 | [],h=>by cases h
 |p::r,h=>by
  unfold Zzw at h
  split at h
  · rename_i he
    cases h
    exact ⟨p,by simp,Zpx he,rfl⟩
  · obtain ⟨q,h1,h2⟩:=Zog h
    exact ⟨q,by simp [h1],h2⟩
theorem Zjh (args:List (SV thy)) (v:SV thy) (h:Zdz args=some v):PureC EL 51 args v:=by
 unfold Zdz at h
 split at h
 · rename_i l s
   obtain ⟨p,h1,rfl,rfl⟩:=Zog h
   refine PureC.fl ?_
   refine X5 (v:=parC false p.2) (PureC.like Zi5 Zi6 (fun _ _ h=>h) ?_) fun σ g u=>Zzy
   have:=Zp8 p.1
   rw [Z34 p h1] at this
   exact this
 · cases h
theorem Z36 {t:Tar} (h:okTC t=true):SmK t:=by
 simp only [okTC,Bool.and_eq_true,List.all_eq_true] at h
 exact ⟨fun c hc=>⟨by have:=Z1 (h.1 c hc).1;omega,by have:=Z1 (h.1 c hc).2;omega⟩,by have:=Z1 h.2;omega⟩
theorem Zqt (args:List (SV thy)) (v:SV thy) (h:Zl5 args=some v):PureC EL 10 args v:=by
 unfold Zl5 at h
 split at h
 · rename_i t _ hd
   split at h
   · rename_i ht
     cases h
     refine PureC.fl (X5 (v:= .tup [.psl Th.ins (Zk t).1 false,.int false .i64 (Zk t).2]) (PureC.like Zi5 Zi6 (fun _ _ h=>h) (PureC.of_dec hd (Zcb t (Z36 ht)))) fun σ g u hu=> ?_)
     refine Za7 hu rfl fun j sv' hj=> ?_
     match j,hj with
     |0,hj=>cases hj;exact ⟨_,rfl,fun u hu=>hu⟩
     |1,hj=>cases hj;exact ⟨_,rfl,fun u hu=>by cases hu;exact .int _ _ _⟩
   · cases h
 · cases h
theorem Zzz {E':Eng thy} {σ:Pl} {g:GH} {u:Value} (h:Den E' σ g (.val (.slice none 0 0):SV thy) u):Den E' σ g (.psl Th.ins [] false) u:=by
 cases h
 exact .psl (fun _ _=>undef) (Nat.le_refl _) (by unfold maxLen;omega) (fun h=>by cases h) (fun _=>rfl) (fun h=>absurd h (by simp)) (fun i x hx=>by simp at hx)
theorem Zoh {E':Eng thy} {σ:Pl} {g:GH} {c:List Ins} {f:Bool} {u:Value} (h:Den E' σ g (.psl Th.ins c f) u):Den E' σ g (.psl Th.ins c false) u:=by
 obtain ⟨base,k,cv,rfl,hl,hm,hf,hn,hb,hd⟩:=Wc h
 exact .psl cv hl hm (fun h=>by cases h) hn hb hd
theorem Zd0 {f:FuncId} {a b:SV thy} {v:SV thy} (h:PureC EL f [b] v) (hab:∀σ g u,Den EL σ g a u->Den EL σ g b u):PureC EL f [a] v:=by
 intro g w vals hI hd
 refine h g w vals hI ⟨hd.1,fun j sv u h1 h2=> ?_⟩
 match j,h1 with
 |0,h1=>cases h1;exact hab _ _ _ (hd.2 0 _ u rfl h2)
theorem Zji (c:List Ins):PureC EL 14 [.psl .ins c false] (.tup [.int true .i64 (verF c).1,.int true .i64 (verF c).2]):=by
 refine X5 (v:= .tup [.int false .i64 (verF c).1,.int false .i64 (verF c).2]) (PureC.like Zi5 Zi6 (fun _ _ h=>h) (Zch c)) fun σ g u hu=> ?_
 refine Za7 hu rfl fun j sv' hj=> ?_
 match j,hj with
 |0,hj=>cases hj;exact ⟨_,rfl,fun u hu=>by cases hu;exact .int _ _ _⟩
 |1,hj=>cases hj;exact ⟨_,rfl,fun u hu=>by cases hu;exact .int _ _ _⟩
theorem Zue (args:List (SV thy)) (v:SV thy) (h:Zuc args=some v):PureC EL 14 args v:=by
 unfold Zuc at h
 split at h
 · cases h
   exact Zd0 (Zji []) fun σ g u=>Zzz
 · rename_i c f
   cases h
   exact Zd0 (Zji c) fun σ g u=>Zoh
 · cases h
theorem Zqu (args:List (SV thy)) (v:SV thy) (h:Zl6 args=some v):PureC EL 15 args v:=by
 unfold Zl6 at h
 split at h
 · rename_i c f
   split at h
   · rename_i hc
     cases h
     have hc:∀x∈c,x.n<100/\x.m<100:=fun x hx=>of_decide_eq_true (List.all_eq_true.1 hc x hx)
     refine Zd0 (b:= .psl Th.ins c false) ?_ fun σ g u=>Zoh
     refine X5 (v:= .tup [.str false (Za5 c).1,.int false .i64 (Za5 c).2]) (PureC.like Zi5 Zi6 (fun _ _ h=>h) (Zu8 c (fun x hx hf=>Zs6 Zr3 hf (hc x hx).1 (hc x hx).2) fun x hx hf=>Zys hf)) fun σ g u hu=> ?_
     refine Za7 hu rfl fun j sv' hj=> ?_
     match j,hj with
     |0,hj=>cases hj;exact ⟨_,rfl,fun u hu=>by cases hu;exact .str _ ‹_›⟩
     |1,hj=>cases hj;exact ⟨_,rfl,fun u hu=>by cases hu;exact .int _ _ _⟩
   · cases h
 · cases h
theorem Zuf (args:List (SV thy)) (v:SV thy) (h:Zud args=some v):PureC EL 41 args v:=by
 unfold Zud at h
 split at h
 · rename_i l s l2 b
   cases h
   refine PureC.fl (X5 (v:= .int false .i64 (cntN s b)) (PureC.like Zi5 Zi6 (fun _ _ h=>h) (Z09 s b)) fun σ g u hu=> ?_)
   cases hu;exact .int _ _ _
 · cases h
theorem Zqv (args:List (SV thy)) (v:SV thy) (h:Zl7 args=some v):PureC EL 45 args v:=by
 unfold Zl7 at h
 split at h
 · rename_i l s
   split at h
   · rename_i n hl hv
     cases h
     rw [Nat.ble_eq] at hl
     refine PureC.fl (X5 (v:= .tup [.int false .i64 n,.val .nilIface]) (PureC.like Zi5 Zi6 (fun _ _ h=>h) (Zw3 s n (by omega) hv)) fun σ g u hu=> ?_)
     refine Za7 hu rfl fun j sv' hj=> ?_
     match j,hj with
     |0,hj=>cases hj;exact ⟨_,rfl,fun u hu=>by cases hu;exact .int _ _ _⟩
     |1,hj=>cases hj;exact ⟨_,rfl,fun u hu=>hu⟩
   · cases h
 · cases h
theorem Zoi:FnsOk EL Z35:=Un (Zb (Zb (Zb (Zb (Zb (Zb Zt1 (Vt Zaf (Zc rfl) Zjh)) (Vx Zaf (Vt Zaf (Zc rfl) Zqt))) (Vx Zaf (Vt Zaf (Zc rfl) Zue))) (Vx Zaf (Vt Zaf (Zc rfl) Zqu))) (Vt Zaf (Zc rfl) Zuf)) (Vt Zaf (Zc rfl) Zqv))
theorem Zqw:PureC E 8 [] (.bool true true):=by
 refine PureC.like Zi6 Zi5 (fun _ _ h=>h) (Za Zaf (Yf Zaf Zoi fun f N c=>(Zay Zaf Zoi 4000 f N c).1) ?_)
 rw [Zqs]
theorem Zug:SumOk E 8 Zi8:=Vt E_ok (Zc rfl) fun args v h=>by
 unfold Z6g at h
 split at h
 · cases h;exact Zqw
 · cases h
end
section
open Go.RowKit
section
variable {Y : Thy} {E : Eng Y}
def grwR (E:Eng Y) (th:Y.Th) (b i fz:Nat) (l':List (Y.dom th)):Res Y:=⟨.sl i 0 l'.length (E.w th) none,1,[b],at1 i (some (.rows th l' fz)),some [b]⟩
def grwK (E:Eng Y) (th:Y.Th) (fz:Nat) (l':List (Y.dom th)) (r:Res Y):Prop:=
 match r.v with
 | .sl c 0 n w none=>
  (match Nat.ble 1 c&&Nat.beq w (E.w th),r.h c with
  |true,some (.rows th' L fz')=>V7 L fun L=>L=l'/\n=l'.length/\fz'=fz
  |_,_=>False)
 |_=>False
def GrwC (E:Eng Y) (f:Nat) (th:Y.Th) (args:List (SV Y)) (l:List (Y.dom th)) (fz:Nat) (l':List (Y.dom th)):Prop:=
 ∀(b:Nat) (h:Hp Y) (i:Nat),h b=some (.rows th l fz)->Vm E f (.sl b 0 l.length (E.w th) none::args) h i (grwR E th b i fz l')
theorem Zcm (hE:EngOk E) {call:Nat->List (SV Y)->Hp Y->Nat->(Res Y->Prop)->Prop} (hcall:Ws E call) {f:Nat} {th:Y.Th} {args:List (SV Y)} {l:List (Y.dom th)} {fz:Nat} {l':List (Y.dom th)} (ha:nidL 0 args=true)
 (hk:call f (.sl 0 0 l.length (E.w th) none::args) (hp1 th l fz) 1 (grwK E th fz l')):GrwC E f th args l fz l':=by
 intro b h i hb
 have hdom:DomLt (hp1 th l fz) 1:=by
  intro b hb
  cases b with
  |zero=>omega
  |succ b=>exact absurd rfl hb
 obtain ⟨r,hr,hR,htri⟩:=hcall f _ _ _ _ hdom hk
 have hmods:∀b∈r.mods,b=0:=by
  intro b hb
  cases b with
  |zero=>rfl
  |succ b=>exact absurd rfl (hR _ hb)
 obtain ⟨v,n,mods,rh,rd⟩:=r
 unfold grwK at hr
 split at hr
 case h_2=>exact hr.elim
 rename_i c n' w' hv
 have hv:v= .sl c 0 n' w' none:=hv
 subst hv
 replace htri:=htri.resolve_right (by rintro ⟨p,hp,_⟩;cases hp)
 split at hr
 case h_2=>exact hr.elim
 rename_i th' L fz' hc hrc
 have hrc:rh c=some (.rows th' L fz'):=hrc
 obtain ⟨e,hr⟩:=Yw hr
 subst e
 obtain ⟨rfl,rfl,rfl⟩:L=l'/\n'=l'.length/\fz'=fz:=hr
 rw [Bool.and_eq_true,Nat.ble_eq] at hc
 obtain ⟨hc1,hw⟩:=hc
 have hw:=Nat.eq_of_beq_eq_true hw
 subst hw
 intro B σ g W vals hh hrd hI hB hfree hd
 have hhb:hh b=some (.rows th' l fz'):=(hrd b (show b∈ [b] by simp)).trans hb
 obtain ⟨r,z,hσ,hbo⟩:=hI.blk b _ hhb
 have hI1:Inv E B (fun x=>match x with|0=>some (r,z)|_=>none) (hp1 th' l fz') g W:=by
  refine ⟨hI.gc,hI.gm,fun x y hx=> ?_,fun x x' r z z' h1 h2 _ _=> ?_,fun x r' z' hs=> ?_,fun x y r' z' o v hx hs hv=> ?_,fun x y r' z' hx hs=> ?_,hI.glob⟩
  · cases x with
    |succ x=>cases hx
    |zero=>
     cases hx
     refine ⟨r,z,rfl,?_⟩
     obtain ⟨arr,e,k1,k2,k3,k4,k5⟩:=hbo
     refine ⟨arr,e,k1,k2,k3,fun j sv hj=> ?_,k5⟩
     obtain ⟨v,m1,m2⟩:=k4 j sv hj
     have hn:nid 0 sv=true:=by
      obtain ⟨q,p,x,rfl,hp,hq,hs⟩:=Yo hE th' _ hj
      exact Zo (hE.encI _ _ _) hs
     exact ⟨v,m1,Zu hE m2 (fun b p hb=>by omega) hn⟩
  · cases x with
    |succ x=>exact absurd rfl h1
    |zero=>cases x' with
     |zero=>rfl
     |succ x'=>exact absurd rfl h2
  · cases x with
    |zero=>cases hs;exact hI.base b _ _ hσ
    |succ x=>cases hs
  · cases x with
    |zero=>cases hs;cases hx;exact hI.fz b _ _ _ o v hhb hσ hv
    |succ x=>cases hx
  · cases x with
    |zero=>cases hs;cases hx;exact hI.fm b _ _ _ hhb hσ
    |succ x=>cases hx
 have hd1:DenL E (fun x=>match x with|0=>some (r,z)|_=>none) g (.sl 0 0 l.length (E.w th') none::args) vals.toList:=by
  refine ⟨by rw [<-hd.1];rfl,fun j sv u h1 h2=> ?_⟩
  cases j with
  |zero=>
   simp at h1;subst h1
   have:=hd.2 0 _ u rfl h2
   obtain ⟨r',z',c',rfl,k1,k2,k3,k4,k5⟩:=Wb this
   rw [hσ] at k1;cases k1
   exact .sl (E:=E) (b:=0) rfl k2 k3 k4 k5
  |succ j=>
   have h1:args[j]? =some sv:=by simpa using h1
   exact Zu hE (hd.2 (j+1) sv u (by simpa using h1) h2) (fun b p hb=>by omega) (Zo ha h1)
 refine (htri B _ g W vals _ (fun _ _=>rfl) hI1 hB (fun x h1 h2=>by cases x with|zero=>omega|succ x=>rfl) hd1).mono ?_
 rintro en w' ⟨u,he,σ1,g',hS,hI',hv⟩
 have hS:Stp 1 n mods _ g W σ1 g' w':=hS
 obtain ⟨r1,z1,c1,rfl,k1,k2,k3,k4,k5⟩:=Wb (show Den E σ1 g' (.sl c 0 L.length (E.w th') none) u from hv)
 have hcn:1<=c/\c<1+n:=by
  rcases hS.snew c _ k1 with h1|h1
  · exfalso
    cases c with
    |zero=>omega
    |succ c=>cases h1
  · exact h1
 have hpc:patch (hp1 th' l fz') 1 ⟨.sl c 0 L.length (E.w th') none,n,mods,rh,rd⟩ c=some (.rows th' L fz'):=by
  show (match memB c mods||(Nat.ble 1 c&&Nat.blt c (1+n)) with|true=>rh c|false=>_)=_
  rw [show Nat.ble 1 c=true from Nat.ble_eq.mpr hcn.1,show Nat.blt c (1+n)=true from (Nat.blt_eq).mpr hcn.2,Bool.and_true,Bool.or_true]
  exact hrc
 have hr1:W.heap.size<=r1\/r1=r:=by
  have hn:∀c,1<=c->(fun x=>match x with|0=>some (r,z)|_=>none:Pl) c=none:=by
   intro c hc
   cases c with
   |zero=>omega
   |succ c=>rfl
  rcases hS.blk c r1 z1 (hn c hcn.1) k1 with h1|⟨b',h1,z',h2⟩
  · exact .inl h1
  · obtain rfl:=hmods b' h1
    cases h2
    exact .inr rfl
 have hheap:∀q,q<W.heap.size->q≠r->w'.heap[q]? =W.heap[q]? :=by
  intro q hq hne
  refine hS.heap q hq fun b' hb' z' hz'=> ?_
  obtain rfl:=hmods b' hb'
  cases hz'
  exact hne rfl
 have hi:σ i=none:=hfree i (Nat.le_refl _) (by show i<i+1;omega)
 have hbi:b≠i:=by rintro rfl;rw [hσ] at hi;cases hi
 refine ⟨_,he,fun x=>match Nat.beq x i with|true=>σ1 c|false=>σ x,g',⟨fun x p hx=> ?_,fun x p hx=> ?_,hS.gle,fun q o v hv=> ?_,hS.gmnew,fun q hq hne=> ?_,hS.size,hS.os,hS.tape,hS.output,fun x q z' hx hx'=> ?_⟩,?_,?_⟩
 · show (match Nat.beq x i with|true=>σ1 c|false=>σ x)=some p
   split
   · rename_i e
     rw [Nat.eq_of_beq_eq_true e,hi] at hx;cases hx
   · exact hx
 · have hx:(match Nat.beq x i with|true=>σ1 c|false=>σ x)=some p:=hx
   split at hx
   · rename_i e
     have:=Nat.eq_of_beq_eq_true e
     exact .inr (by show i<=x/\x<i+1;omega)
   · exact .inl hx
 · rcases hS.gcnew q o v hv with h1|h1|⟨b',h1,z',h2⟩
   · exact .inl h1
   · exact .inr (.inl h1)
   · obtain rfl:=hmods b' h1
     cases h2
     exact .inr (.inr ⟨b,by show b∈ [b];simp,_,hσ⟩)
 · exact hheap q hq fun e=>hne b (by show b∈ [b];simp) z (by rw [hσ,e])
 · have hx':(match Nat.beq x i with|true=>σ1 c|false=>σ x)=some (q,z'):=hx'
   split at hx'
   · rw [k1] at hx';cases hx'
     rcases hr1 with h1|rfl
     · exact .inl h1
     · exact .inr ⟨b,by show b∈ [b];simp,z,hσ⟩
   · rw [hx] at hx';cases hx'
 · have hpatch:∀x,patch hh i (grwR E th' b i fz' L) x=match Nat.beq x i with|true=>some (.rows th' L fz')|false=>(match Nat.beq x b with|true=>none|false=>hh x):=by
    intro x
    show (match memB x [b]||(Nat.ble i x&&Nat.blt x (i+1)) with|true=>at1 i (some (.rows th' L fz')) x|false=>hh x)=_
    cases e:Nat.beq x i with
    |true=>
     obtain rfl:=Nat.eq_of_beq_eq_true e
     rw [show Nat.ble x x=true from Nat.ble_eq.mpr (Nat.le_refl _),show Nat.blt x (x+1)=true from (Nat.blt_eq).mpr (by omega),Bool.and_true,Bool.or_true]
     unfold at1
     rw [e]
    |false=>
     have hne:x≠i:=nb e
     have e2:(Nat.ble i x&&Nat.blt x (i+1))=false:=by
      cases h1:Nat.ble i x with
      |false=>rfl
      |true=>
       rw [Nat.ble_eq] at h1
       cases h2:Nat.blt x (i+1) with
       |false=>rfl
       |true=>rw [Nat.blt_eq] at h2;omega
     rw [e2,Bool.or_false]
     unfold memB memB
     cases e3:Nat.beq x b with
     |true=>unfold at1;rw [e]
     |false=>rfl
   have src:∀x y,patch hh i (grwR E th' b i fz' L) x=some y->(x=i/\y= .rows th' L fz')\/(x≠i/\x≠b/\hh x=some y):=by
    intro x y hy
    rw [hpatch] at hy
    split at hy
    · rename_i e
      cases hy
      exact .inl ⟨Nat.eq_of_beq_eq_true e,rfl⟩
    · rename_i e
      split at hy
      · cases hy
      · rename_i e2
        exact .inr ⟨nb e,nb e2,hy⟩
   have sgi:(match Nat.beq i i with|true=>σ1 c|false=>σ i)=some (r1,z1):=by rw [Nat.beq_refl];exact k1
   have sgx:∀x,x≠i->(match Nat.beq x i with|true=>σ1 c|false=>σ x)=σ x:=by
    intro x hx
    cases e:Nat.beq x i with
    |true=>exact absurd (Nat.eq_of_beq_eq_true e) hx
    |false=>rfl
   have far:∀x y q z',x≠b->hh x=some y->σ x=some (q,z')->q<W.heap.size/\q≠r:=by
    intro x y q z' hx hy hs
    refine ⟨(hI.base x q z' hs).2,?_⟩
    rintro rfl
    exact hx (hI.inj x b _ _ _ (by rw [hy];simp) (by rw [hhb];simp) hs hσ)
   refine ⟨hI'.gc,hI'.gm,fun x y hx=> ?_,fun x x' q z1' z2' h1 h2 h3 h4=> ?_,fun x q z' hs=> ?_,fun x y q z' o v hx hs hv=> ?_,fun x y q z' hx hs=> ?_,hI'.glob⟩
   · rcases src x y hx with ⟨rfl,rfl⟩|⟨e1,e2,e3⟩
     · refine ⟨r1,z1,sgi,?_⟩
       obtain ⟨r2,z2,m1,m2⟩:=hI'.blk c _ hpc
       rw [k1] at m1;cases m1
       obtain ⟨arr,e,m1,m3,m4,m5,m6⟩:=m2
       refine ⟨arr,e,m1,m3,m4,fun j sv hj=> ?_,m6⟩
       obtain ⟨v,n1,n2⟩:=m5 j sv hj
       have hn:nid 0 sv=true:=by
        obtain ⟨q,p,x,rfl,hp,hq,hs⟩:=Yo hE th' _ hj
        exact Zo (hE.encI _ _ _) hs
       exact ⟨v,n1,Zu hE n2 (fun b p hb=>by omega) hn⟩
     · obtain ⟨q,z',m1,m2⟩:=hI.blk x y e3
       obtain ⟨m3,m4⟩:=far x y q z' e2 e3 m1
       refine ⟨q,z',(sgx x e1).trans m1,?_⟩
       refine m2.mono (fun x p hx=> ?_) hS.gle (hheap q m3 m4)
       show (match Nat.beq x i with|true=>σ1 c|false=>σ x)=some p
       rw [sgx x (fun e=>by rw [e,hi] at hx;cases hx)]
       exact hx
   · obtain ⟨y,hy⟩:=Option.ne_none_iff_exists'.1 h1
     obtain ⟨y',hy'⟩:=Option.ne_none_iff_exists'.1 h2
     rcases src x y hy with ⟨rfl,rfl⟩|⟨e1,e2,e3⟩<;>rcases src x' y' hy' with ⟨rfl,rfl⟩|⟨d1,d2,d3⟩
     · rfl
     · rw [sgi] at h3;cases h3
       rw [sgx x' d1] at h4
       obtain ⟨m3,m4⟩:=far x' y' _ _ d2 d3 h4
       rcases hr1 with h|h
       · omega
       · exact absurd h m4
     · rw [sgi] at h4;cases h4
       rw [sgx x e1] at h3
       obtain ⟨m3,m4⟩:=far x y _ _ e2 e3 h3
       rcases hr1 with h|h
       · omega
       · exact absurd h m4
     · rw [sgx x e1] at h3
       rw [sgx x' d1] at h4
       exact hI.inj x x' q _ _ (by rw [e3];simp) (by rw [d3];simp) h3 h4
   · by_cases e:x=i
     · subst e
       rw [sgi] at hs;cases hs
       exact hI'.base c _ _ k1
     · rw [sgx x e] at hs
       exact ⟨(hI.base x q z' hs).1,Nat.lt_of_lt_of_le (hI.base x q z' hs).2 hS.size⟩
   · rcases src x y hx with ⟨rfl,rfl⟩|⟨e1,e2,e3⟩
     · rw [sgi] at hs;cases hs
       exact hI'.fz c _ _ _ o v hpc k1 hv
     · rw [sgx x e1] at hs
       obtain ⟨m3,m4⟩:=far x y q z' e2 e3 hs
       rcases hS.gcnew q o v hv with h1|h1|⟨b',h1,z2,h2⟩
       · exact hI.fz x y q z' o v e3 hs h1
       · omega
       · obtain rfl:=hmods b' h1
         cases h2
         exact absurd rfl m4
   · rcases src x y hx with ⟨rfl,rfl⟩|⟨e1,e2,e3⟩
     · rw [sgi] at hs;cases hs
       exact hI'.fm c _ _ _ hpc k1
     · rw [sgx x e1] at hs
       obtain ⟨m3,m4⟩:=far x y q z' e2 e3 hs
       cases hg':g'.obj q with
       |none=>rfl
       |some es=>
        rcases hS.gmnew q es hg' with k|k
        · rw [hI.fm x y q z' e3 hs] at k;cases k
        · omega
 · refine .sl (E:=E) (b:=i) (z:=z1) ?_ k2 k3 k4 k5
   show (match Nat.beq i i with|true=>σ1 c|false=>σ i)=_
   rw [Nat.beq_refl]
   exact k1
def Z1c (E:Eng Y) (th:Y.Th) {α:Type} (d:DcL E α) (pre:List (Y.dom th)->α->Prop) (f:List (Y.dom th)->α->List (Y.dom th)):Sum Y:=fun args h i k=>
 match args with
 | .sl b 0 len w none::rest=>
  (match h b,d.dec rest,Nat.beq w (E.w th) with
  |some (.rows th' l fz),some x,true=>V7 l fun l=>(len=l.length/\fz<=l.length/\pre l x)/\∀l',l'=f l x->k (grwR E th b i fz l')
  |_,_,_=>False)
 |_=>False
theorem GrwC.of_dec {α:Type} {d:DcL E α} {f:Nat} {th:Y.Th} {args:List (SV Y)} {x:α} {l l':List (Y.dom th)} {fz:Nat} (hd:d.dec args=some x) (h:GrwC E f th (d.enc x) l fz l'):GrwC E f th args l fz l':=by
 obtain ⟨k1,k2,k3⟩:=d.ok _ _ hd
 intro b hp i h1 B σ g w vals hh hrd hI hB hfree hden
 refine h b hp i h1 B σ g w vals hh hrd hI hB hfree ⟨?_,fun j sv' u h5 h6=> ?_⟩
 · rw [<-hden.1,List.length_cons,List.length_cons,k2]
 · cases j with
   |zero=>exact hden.2 0 sv' u h5 h6
   |succ j=>
    obtain ⟨sv,h7,h8⟩:=k3 σ g j sv' (by simpa using h5)
    exact h8 u (hden.2 (j+1) sv u (by simpa using h7) h6)
def Z7a (E:Eng Y) (f:Nat) (th:Y.Th) (args:List (SV Y)) (F:List (Y.dom th)->List (Y.dom th)) (P:List (Y.dom th)->Prop):Prop:=
 ∀l fz,fz<=l.length->P l->GrwC E f th args l fz (F l)
theorem Zo8 (hE:EngOk E) {th:Y.Th} {α:Type} {f:Nat} (hg:FnGood E.P f) {d:DcL E α} {pre:List (Y.dom th)->α->Prop} {F:List (Y.dom th)->α->List (Y.dom th)} (hp:∀x,Z7a E f th (d.enc x) (fun l=>F l x) (fun l=>pre l x)):SumOk E f (Z1c E th d pre F):=by
 refine ⟨hg,fun args h i k hD hk=> ?_⟩
 unfold Z1c at hk
 split at hk
 · rename_i b len w rest
   split at hk
   · rename_i th' l fz x hb hx hw
     have hw:=Nat.eq_of_beq_eq_true hw
     obtain ⟨e,hk2⟩:=Yw hk
     clear hk
     subst e
     subst hw
     obtain ⟨⟨rfl,h2,h3⟩,hk3⟩:=hk2
     refine ⟨_,hk3 _ rfl,fun b' hb'=> ?_,.inl (GrwC.of_dec hx (hp x l fz h2 h3) b h i hb)⟩
     have hb':b'∈ [b]:=hb'
     rw [List.mem_singleton] at hb'
     rw [hb',hb];simp
   · exact hk.elim
 · exact hk.elim
end
end
section
open Go
noncomputable def Srx (m:Nat):Sum thy:=Z1c E Th.ins dExp (fun (l:List Ins) x=>x.1.sz<m/\Zj x.1=true/\l.length+(cdX x.1 l.length).length<=1000000000) fun (l:List Ins) x=>l++cdX x.1 l.length
noncomputable def Frx (m:Nat):Fns thy:=addS F0 (58) (Srx m)
abbrev qCY1 (a0:Ex):=(Ex.mk (Ex.op a0) (Ex.n a0) (Ex.d0 a0) (Ex.d1 a0) (Ex.d2 a0) (Ex.d3 a0) (Ex.l a0))
abbrev qCY9:=(1:Nat)
abbrev qCY2 (a0:List Ins) (b0:Nat):=(List.length a0<=List.length a0/\b0<=List.length a0/\(List.length a0+qCY9)*(24:Nat)<=(140737488355328:Nat))
abbrev qCY8:=(1:Int)
abbrev qCY3 (a0:List Ins):=((↑(List.length a0+(2:Nat)):Int)-qCY8)
abbrev qCY4 (a0:List Ins):=((↑(List.length a0+qCY9):Int)-qCY8)
abbrev qCY7 (a0:List Ins):=(List.length a0)
abbrev qCY5 (a0:List Ins) (b0:Nat) (c0:Ex) (d0:Nat):=(List.length a0=List.length a0/\b0<=List.length a0/\Ex.sz (qCY1 c0)+qCY9<=d0/\Zj (qCY1 c0)=true/\List.length a0+List.length (cdX (qCY1 c0) (qCY7 a0))<=(1000000000:Nat))
abbrev qCY6:=(0:Int)
abbrev qCYa (a0:Ex):=(↑(List.length (Ex.l a0)):Int)
theorem Z0z (m:Nat) (l:List Ins) (fz:Nat) (x:Ex) (l':List Ins):Zf E F0 (vc E (Frx m) 400) 58 [.sl 0 0 l.length (E.w Th.ins) none,exA x] (hp1 Th.ins l fz) 1 (grwK E Th.ins fz l')=(
 ((Ex.op x==qCY8)=true->(qCY2 l fz)/\∀(l'_1:List Ins),l'_1=List.take (qCY7 l) l++ [Ins.mk qCY8 (Ex.n x) qCY6]->l'_1=l'/\List.length l+qCY9=List.length l'/\fz=fz)/\((Ex.op x==qCY8)=false->((Ex.op x==(2:Int))=true->(qCY2 l fz)/\∀(l'_1:List Ins),l'_1=List.take (qCY7 l) l++ [Ins.mk (2:Int) (Ex.n x) qCY6]->l'_1=l'/\List.length l+qCY9=List.length l'/\fz=fz)/\((Ex.op x==(2:Int))=false->qCY6<=qCY6/\qCY6+qCY8<=(qCYa x)/\∀(x_1:Ex),(Ex.l x)[Int.toNat qCY6]? =some x_1->(qCY5 l fz x_1 m)/\∀(l'_1:List Ins),l'_1=l++cdX (qCY1 x_1) (qCY7 l)->qCY6<=qCY8/\qCY8+qCY8<=(qCYa x)/\∀(x_2:Ex),(Ex.l x)[Int.toNat qCY8]? =some x_2->(qCY5 l'_1 fz x_2 m)/\∀(l'_2:List Ins),l'_2=l'_1++cdX (qCY1 x_2) (qCY7 l'_1)->((Ex.op x !=(11:Int))=true->(qCY2 l'_2 fz)/\∀(l'_3:List Ins),l'_3=List.take (qCY7 l'_2) l'_2++ [Ins.mk (Ex.op x) qCY6 qCY6]->l'_3=l'/\List.length l'_2+qCY9=List.length l'/\fz=fz)/\((Ex.op x !=(11:Int))=false->(List.length l'_2<=List.length l'_2/\fz<=List.length l'_2/\(List.length l'_2+(2:Nat))*(24:Nat)<=(140737488355328:Nat))/\∀(l'_3:List Ins),l'_3=List.take (qCY7 l'_2) l'_2++ [Ins.mk (11:Int) qCY6 qCY6,Ins.mk (13:Int) qCY6 qCY6]->qCY6<=(2:Int)/\(2:Int)+qCY8<=(qCYa x)/\∀(x_3:Ex),(Ex.l x)[Int.toNat (2:Int)]? =some x_3->(List.length l'_2+(2:Nat)=List.length l'_3/\fz<=List.length l'_3/\Ex.sz (qCY1 x_3)+qCY9<=m/\Zj (qCY1 x_3)=true/\List.length l'_3+List.length (cdX (qCY1 x_3) (qCY7 l'_3))<=(1000000000:Nat))/\∀(l'_4:List Ins),l'_4=l'_3++cdX (qCY1 x_3) (qCY7 l'_3)->(qCY2 l'_4 fz)/\∀(l'_5:List Ins),l'_5=List.take (qCY7 l'_4) l'_4++ [Ins.mk (14:Int) qCY6 qCY6]->(qCY6<=wr IntKind.i64 (qCY3 l'_2)/\wr IntKind.i64 (qCY3 l'_2)+qCY8<=(↑(List.length l'_4+qCY9):Int))/\fz<=(0:Nat)+Int.toNat (wr IntKind.i64 (qCY3 l'_2))/\(0:Nat)+Int.toNat (wr IntKind.i64 (qCY3 l'_2))+qCY9<=List.length l'_5/\∀(x_4:Ins),l'_5[(0:Nat)+Int.toNat (wr IntKind.i64 (qCY3 l'_2))]? =some x_4->∀(l'_6:List Ins),l'_6=List.set l'_5 ((0:Nat)+Int.toNat (wr IntKind.i64 (qCY3 l'_2))) (Ins.mk (Ins.op x_4) (↑(List.length l'_4+qCY9):Int) (Ins.m x_4))->qCY6<=(3:Int)/\(3:Int)+qCY8<=(qCYa x)/\∀(x_5:Ex),(Ex.l x)[Int.toNat (3:Int)]? =some x_5->(List.length l'_4+qCY9=List.length l'_6/\fz<=List.length l'_6/\Ex.sz (qCY1 x_5)+qCY9<=m/\Zj (qCY1 x_5)=true/\List.length l'_6+List.length (cdX (qCY1 x_5) (qCY7 l'_6))<=(1000000000:Nat))/\∀(l'_7:List Ins),l'_7=l'_6++cdX (qCY1 x_5) (qCY7 l'_6)->(qCY6<=wr IntKind.i64 (qCY4 l'_4)/\wr IntKind.i64 (qCY4 l'_4)+qCY8<=(↑(qCY7 l'_7):Int))/\fz<=(0:Nat)+Int.toNat (wr IntKind.i64 (qCY4 l'_4))/\(0:Nat)+Int.toNat (wr IntKind.i64 (qCY4 l'_4))+qCY9<=List.length l'_7/\∀(x:Ins),l'_7[(0:Nat)+Int.toNat (wr IntKind.i64 (qCY4 l'_4))]? =some x->∀(l'_8:List Ins),l'_8=List.set l'_7 ((0:Nat)+Int.toNat (wr IntKind.i64 (qCY4 l'_4))) (Ins.mk (Ins.op x) (↑(qCY7 l'_7):Int) (Ins.m x))->l'_8=l'/\List.length l'_7=List.length l'/\fz=fz)))):=by kernel_rfl
theorem Z66 {m:Nat} {l:List Ins} {fz:Nat} {x:Ex} (hf:fz<=l.length) (hs:x.sz<m+1) (hx:Zj x=true) (hl:l.length+(cdX x l.length).length<=1000000000):
 Zf E F0 (vc E (Frx m) 400) 58 [.sl 0 0 l.length (E.w Th.ins) none,exA x] (hp1 Th.ins l fz) 1 (grwK E Th.ins fz (l++cdX x l.length)):=by
 rw [Z0z];delta qCY1 qCY9 qCY2 qCY8 qCY3 qCY4 qCY7 qCY5 qCY6 qCYa
 simp only [Ex.eta]
 rcases Y6 hx with ⟨op,n,a,b,c,d,rfl,ho⟩|⟨op,n,a,b,c,d,y,z,rfl,h3,h10,fy,fz'⟩|⟨n,a,b,c,d,y,z,u,v,rfl,fy,fz',fu,fv⟩
 · rw [Zlz ho] at hl⊢
   simp only [Zbb,Z4h,List.take_length]
   have hl:l.length+1<=1000000000:=hl
   have key:∀k:Int,op=k->(l.length<=l.length/\fz<=l.length/\(l.length+1)*24<=140737488355328)/\∀l'_1:List Ins,l'_1=l++ [Ins.mk k n 0]->l'_1=l++ [iNN op n]/\l.length+1=(l++ [iNN op n]).length/\True:=by
    rintro k rfl
    refine ⟨⟨Nat.le_refl _,hf,by omega⟩,?_⟩
    rintro l1 rfl
    exact ⟨rfl,by simp,trivial⟩
   rcases ho with rfl|rfl
   · exact ⟨fun _=>key 1 rfl,fun q=>by simp at q⟩
   · exact ⟨fun q=>by simp at q,fun _=>⟨fun _=>key 2 rfl,fun q=>by simp at q⟩⟩
 · rw [sz_2] at hs
   rw [Zl0 h3 h10] at hl⊢
   simp only [Zbb,Zqy]
   refine ⟨fun q=>absurd q (by rw [bf (by omega)];simp),fun _=>⟨fun q=>absurd q (by rw [bf (by omega)];simp),fun _=> ?_⟩⟩
   simp only [List.length_append,List.length_cons,List.length_nil] at hl
   refine ⟨by decide,by simp,fun x1 g1=> ?_⟩
   obtain rfl:y=x1:=by simpa using g1
   refine ⟨⟨trivial,hf,by omega,fy,by omega⟩,fun l1 e1=>⟨by decide,by simp,fun x2 g2=> ?_⟩⟩
   obtain rfl:z=x2:=by simpa using g2
   have n1:l1.length=l.length+(cdX y l.length).length:=by rw [e1,List.length_append]
   rw [<-n1] at hl⊢
   have w1:fz<=l1.length:=by omega
   refine ⟨⟨trivial,w1,by omega,fz',by omega⟩,fun l2 e2=>⟨fun _=> ?_,fun q=>absurd q (by simp;omega)⟩⟩
   have n2:l2.length=l1.length+(cdX z l1.length).length:=by rw [e2,List.length_append]
   have w2:fz<=l2.length:=by omega
   refine ⟨⟨Nat.le_refl _,w2,by omega⟩,fun l3 e3=> ?_⟩
   rw [List.take_length] at e3
   have fin:l3=l++(cdX y l.length++cdX z l1.length++ [iOp op]):=by rw [e3,e2];conv=>{lhs;lhs;lhs;rw [e1]};simp [iOp]
   exact ⟨fin,by rw [<-fin,e3];simp,by trivial⟩
 · rw [sz_4] at hs
   simp only [Zbb,Zqy]
   refine ⟨fun q=>absurd q (by decide),fun _=>⟨fun q=>absurd q (by decide),fun _=> ?_⟩⟩
   rw [Zur rfl rfl] at hl
   refine ⟨by decide,by simp,fun x1 g1=> ?_⟩
   obtain rfl:y=x1:=by simpa using g1
   have hb:l.length+(cdX y l.length).length<=1000000000:=by omega
   refine ⟨⟨trivial,hf,by omega,fy,hb⟩,fun l1 e1=>⟨by decide,by simp,fun x2 g2=> ?_⟩⟩
   obtain rfl:z=x2:=by simpa using g2
   have n1:l1.length=l.length+(cdX y l.length).length:=by rw [e1,List.length_append]
   rw [<-n1] at hl
   have w1:fz<=l1.length:=by omega
   refine ⟨⟨trivial,w1,by omega,fz',by omega⟩,fun l2 e2=>⟨fun q=>absurd q (by decide),fun _=> ?_⟩⟩
   have n2:l2.length=l1.length+(cdX z l1.length).length:=by rw [e2,List.length_append]
   rw [<-n2] at hl
   have w2:fz<=l2.length:=by omega
   refine ⟨⟨Nat.le_refl _,w2,by omega⟩,fun l4 e4=>⟨by decide,by simp,fun x3 g3=> ?_⟩⟩
   obtain rfl:u=x3:=by simpa using g3
   obtain ⟨l3,e3⟩:∃l3,l3=l2.take l2.length++ [iOp 11]:=⟨_,rfl⟩
   have n3:l3.length=l2.length+1:=by rw [e3];simp
   have e4':l4=l3.take (l2.length+1)++ [iOp 13]:=by
    have t3:l3.take (l2.length+1)=l3:=by rw [<-n3,List.take_length]
    rw [t3,e4,e3]
    simp [iOp]
   have n4:l4.length=l2.length+2:=by rw [e4];simp
   rw [<-n4] at hl
   have w4:fz<=l4.length:=by omega
   refine ⟨⟨n4.symm,w4,by omega,fu,by omega⟩,fun l5 e5=> ?_⟩
   have n5:l5.length=l4.length+(cdX u l4.length).length:=by rw [e5,List.length_append]
   rw [<-n5] at hl
   have w5:fz<=l5.length:=by omega
   have i1:wr .i64 ((↑(l2.length+2):Int)-1)=↑(l2.length+1):=(wr64 (by omega) (by omega)).trans (by omega)
   have i2:wr .i64 ((↑(l5.length+1):Int)-1)=↑l5.length:=(wr64 (by omega) (by omega)).trans (by omega)
   have t1:(0:Nat)+Int.toNat (↑(l2.length+1):Int)=l2.length+1:=by omega
   have t2:(0:Nat)+Int.toNat (↑l5.length:Int)=l5.length:=by omega
   rw [i1,i2]
   simp only [t1,t2]
   refine ⟨⟨Nat.le_refl _,w5,by omega⟩,fun l6 e6=>⟨⟨by omega,by omega⟩,?_⟩⟩
   have n6:l6.length=l5.length+1:=by rw [e6];simp
   refine ⟨(by omega:fz<=l2.length+1),by omega,fun i4 g4 l7 e7=>⟨by decide,by simp,fun x4 gx=> ?_⟩⟩
   obtain rfl:v=x4:=by simpa using gx
   have n7:l7.length=l5.length+1:=by rw [e7,List.length_set,n6]
   rw [<-n7] at hl
   have w7:fz<=l7.length:=by omega
   refine ⟨⟨n7.symm,w7,by omega,fv,by omega⟩,fun l8 e8=> ?_⟩
   have n8:l8.length=l7.length+(cdX v l7.length).length:=by rw [e8,List.length_append]
   refine ⟨⟨by omega,by omega⟩,w5,by omega,fun i8 g8 l9 e9=> ?_⟩
   obtain ⟨r1,r2⟩:=Z4i (n:=n) (a:=a) (b:=b) (c:=c) (d:=d) e1 e2 e3 e4' e5 e6 g4 e7 e8 g8 e9
   exact ⟨r1,r2,by trivial⟩
def RxOk (m:Nat):Prop:=∀x:Ex×Unit,Z7a E 58 Th.ins (dExp.enc x) (fun (l:List Ins)=>l++cdX x.1 l.length) (fun (l:List Ins)=>x.1.sz<m/\Zj x.1=true/\l.length+(cdX x.1 l.length).length<=1000000000)
theorem Z2y {m:Nat} (h:RxOk m):SumOk E 58 (Srx m):=Zo8 E_ok (Zc rfl) h
theorem Zwn:∀m,RxOk m
 |0=>fun x l fz hf hp=>absurd hp.1 (by omega)
 |m+1=>fun x l fz hf hp=>Zcm E_ok (Yf E_ok F0_ok fun f N c=>(Zay E_ok (Zb F0_ok (Z2y (Zwn m))) 400 f N c).1) rfl (Z66 hf hp.1 hp.2.1 hp.2.2)
end
section
open Go
structure RcX where
 k:Nat
 r:Nat
 L:List Ins
 Z:List Int
 fz:Nat
noncomputable def Arc1:Fr thy->Hp thy->Nat->Ann thy:=fun T h i=>{X:=RcX,fr:=fun x=> [(0,.sl i 0 x.L.length 3 none),(2,T 2),(4,T 4),(7,.sl (i+1) 0 x.Z.length 1 none),(8,.int false .i64 x.k)],bl:=fun x=>(i,.rows Th.ins x.L x.fz)::(i+1,.rows Th.ints x.Z 0)::blkP h (T 4),src:=fun _=> [(i,0),(i+1,7)],md:= [bOf (T 0),bOf (T 7)],ih:=i+2,M:=i+80,meas:=fun x=>x.r}
noncomputable def Arc2:Fr thy->Hp thy->Nat->Ann thy:=fun T h i=>{X:=RcX,fr:=fun x=> [(0,T 0),(7,T 7),(10,.int false .i64 x.k)],bl:=fun x=>(bOf (T 0),.rows Th.ins x.L x.fz)::blkS h (T 7),src:=fun _=> [],md:= [bOf (T 0)],ih:=i,M:=i+40,meas:=fun x=>x.r}
noncomputable def Frc:Fns thy:=addL (addL (addS F0 58 (Srx 1000000000)) 26 3 Arc1 E) 26 11 Arc2 E
abbrev qCZ6 (a0:Cls):=(Cls.pay a0)
abbrev qCZ1 (a0:Cls):=(Ex.mk (Ex.op (qCZ6 a0)) (Ex.n (qCZ6 a0)) (Ex.d0 (qCZ6 a0)) (Ex.d1 (qCZ6 a0)) (Ex.d2 (qCZ6 a0)) (Ex.d3 (qCZ6 a0)) (Ex.l (qCZ6 a0)))
abbrev qCZ2 (a0:Cls):=(Cls.name a0=Cls.name a0/\(Cls.when_ a0=Cls.when_ a0/\(false=true->false=true))/\Ex.op (qCZ6 a0)=Ex.op (qCZ6 a0)/\Ex.n (qCZ6 a0)=Ex.n (qCZ6 a0)/\Ex.d0 (qCZ6 a0)=Ex.d0 (qCZ6 a0)/\Ex.d1 (qCZ6 a0)=Ex.d1 (qCZ6 a0)/\Ex.d2 (qCZ6 a0)=Ex.d2 (qCZ6 a0)/\Ex.d3 (qCZ6 a0)=Ex.d3 (qCZ6 a0)/\(Ex.l (qCZ6 a0)=Ex.l (qCZ6 a0)/\(false=true->false=true))/\True)
abbrev qCZ3:=(0:Nat)
abbrev qCZ4 (a0:RcX):=(↑(RcX.k a0):Int)
abbrev qCZ5:=(1:Nat)
theorem Zzt (l:List Ins) (fz:Nat) (c:Cls) (k:Int) (l':List Ins):Zf E Frc (vc E Frc 400) 26 [.sl 0 0 l.length (E.w Th.ins) none,clB c,.int false .i64 k] (hp1 Th.ins l fz) 1 (grwK E Th.ins fz l')=(
 ∃(R:RcX->Prop),(∃(x:RcX),R x/\true=true/\((qCZ3=qCZ3/\List.length l=List.length (RcX.L x)/\True)/\k=k/\qCZ3=qCZ3/\(qCZ3=qCZ3/\qCZ3=List.length (RcX.Z x)/\True)/\(0:Int)=(qCZ4 x)/\True)/\(l=RcX.L x/\fz=RcX.fz x)/\ []=RcX.Z x/\(qCZ2 c)/\True)/\∀(x:RcX),R x->(decide ((qCZ4 x)<(↑(List.length (Cls.when_ c)):Int))=true->(0:Int)<=(qCZ4 x)/\(qCZ4 x)+(1:Int)<=(↑(List.length (Cls.when_ c)):Int)/\∀(x_1:Tst),(Cls.when_ c)[Int.toNat (qCZ4 x)]? =some x_1->(List.length (RcX.L x)<=List.length (RcX.L x)/\RcX.fz x<=List.length (RcX.L x)/\(List.length (RcX.L x)+(3:Nat))*(24:Nat)<=(140737488355328:Nat))/\∀(l':List Ins),l'=List.take (List.length (RcX.L x)) (RcX.L x)++ [Ins.mk (2:Int) (Tst.attr x_1) (0:Int),Ins.mk (12:Int) (Tst.low x_1) (Tst.high x_1),Ins.mk (13:Int) (0:Int) (0:Int)]->(List.length (RcX.Z x)<=List.length (RcX.Z x)/\qCZ3<=List.length (RcX.Z x)/\(List.length (RcX.Z x)+qCZ5)*(8:Nat)<=(140737488355328:Nat))/\∃(x_2:RcX),R x_2/\x_2.2+qCZ5<=x.2/\true=true/\((qCZ3=qCZ3/\List.length (RcX.L x)+(3:Nat)=List.length (RcX.L x_2)/\True)/\k=k/\qCZ3=qCZ3/\(qCZ3=qCZ3/\List.length (RcX.Z x)+qCZ5=List.length (RcX.Z x_2)/\True)/\wr IntKind.i64 ((qCZ4 x)+(1:Int))=(qCZ4 x_2)/\True)/\(l'=RcX.L x_2/\RcX.fz x=RcX.fz x_2)/\(List.take (List.length (RcX.Z x)) (RcX.Z x)++ [wr IntKind.i64 ((↑(List.length (RcX.L x)+(3:Nat)):Int)-(1:Int))]=RcX.Z x_2/\qCZ3=qCZ3)/\(qCZ2 c)/\True)/\(decide ((qCZ4 x)<(↑(List.length (Cls.when_ c)):Int))=false->(List.length (RcX.L x)=List.length (RcX.L x)/\RcX.fz x<=List.length (RcX.L x)/\Ex.sz (qCZ1 c)+qCZ5<=(1000000000:Nat)/\Zj (qCZ1 c)=true/\List.length (RcX.L x)+List.length (cdX (qCZ1 c) (List.length (RcX.L x)))<=(1000000000:Nat))/\∀(l'_1:List Ins),l'_1=RcX.L x++cdX (qCZ1 c) (List.length (RcX.L x))->(List.length l'_1<=List.length l'_1/\RcX.fz x<=List.length l'_1/\(List.length l'_1+qCZ5)*(24:Nat)<=(140737488355328:Nat))/\∀(l'_2:List Ins),l'_2=List.take (List.length l'_1) l'_1++ [Ins.mk (15:Int) k (0:Int)]->∃(R:RcX->Prop),(∃(x_1:RcX),R x_1/\true=true/\((qCZ3=qCZ3/\List.length l'_1+qCZ5=List.length l'_1+qCZ5/\True)/\(qCZ3=qCZ3/\List.length (RcX.Z x)=List.length (RcX.Z x)/\True)/\(0:Int)=(qCZ4 x_1)/\True)/\(l'_2=RcX.L x_1/\RcX.fz x=RcX.fz x_1)/\(RcX.Z x=RcX.Z x/\qCZ3=qCZ3)/\True)/\∀(x_1:RcX),R x_1->(decide ((qCZ4 x_1)<(↑(List.length (RcX.Z x)):Int))=true->((0:Int)<=(qCZ4 x_1)/\(qCZ4 x_1)+(1:Int)<=(↑(List.length (RcX.Z x)):Int))/\qCZ3+Int.toNat (qCZ4 x_1)+qCZ5<=List.length (RcX.Z x)/\∀(x_2:Int),(RcX.Z x)[qCZ3+Int.toNat (qCZ4 x_1)]? =some x_2->((0:Int)<=x_2/\x_2+(1:Int)<=(↑(List.length l'_1+qCZ5):Int))/\RcX.fz x_1<=qCZ3+Int.toNat x_2/\qCZ3+Int.toNat x_2+qCZ5<=List.length (RcX.L x_1)/\∀(x_3:Ins),(RcX.L x_1)[qCZ3+Int.toNat x_2]? =some x_3->∀(l':List Ins),l'=List.set (RcX.L x_1) (qCZ3+Int.toNat x_2) (Ins.mk (Ins.op x_3) (↑(List.length l'_1+qCZ5):Int) (Ins.m x_3))->∃(x_4:RcX),R x_4/\x_4.2+qCZ5<=x_1.2/\true=true/\((qCZ3=qCZ3/\List.length l'_1+qCZ5=List.length l'_1+qCZ5/\True)/\(qCZ3=qCZ3/\List.length (RcX.Z x)=List.length (RcX.Z x)/\True)/\wr IntKind.i64 ((qCZ4 x_1)+(1:Int))=(qCZ4 x_4)/\True)/\(l'=RcX.L x_4/\RcX.fz x_1=RcX.fz x_4)/\(RcX.Z x=RcX.Z x/\qCZ3=qCZ3)/\True)/\(decide ((qCZ4 x_1)<(↑(List.length (RcX.Z x)):Int))=false->RcX.L x_1=l'/\List.length l'_1+qCZ5=List.length l'/\RcX.fz x_1=fz))):=by kernel_rfl
def zsOf (o k:Nat):List Int:=(List.range k).map fun j=>(↑(o+3*j+2):Int)
theorem Zg4 (o k:Nat):(zsOf o k).length=k:=by simp [zsOf]
theorem Zua (o k:Nat):zsOf o (k+1)=zsOf o k++ [(↑(o+3*k+2):Int)]:=by simp [zsOf,List.range_succ]
theorem Zzu {o n k:Nat} {x:Int} (h:(zsOf o n)[k]? =some x):x=↑(o+3*k+2):=by
 have hk:k<n:=by have:=(List.getElem?_eq_some_iff.1 h).1;rwa [Zg4] at this
 simp only [zsOf,List.getElem?_map,List.getElem?_range hk,Option.map_some,Option.some.injEq] at h
 exact h.symm
theorem Z6o {c:Cls} {k:Nat} {l:List Ins} {fz:Nat} (hf:fz<=l.length) (hs:c.pay.sz+1<=1000000000) (hx:Zj c.pay=true) (hl:l.length+(cdC c k l.length).length<=1000000000):
 Zf E Frc (vc E Frc 400) 26 [.sl 0 0 l.length (E.w Th.ins) none,clB c,.int false .i64 k] (hp1 Th.ins l fz) 1 (grwK E Th.ins fz (l++cdC c k l.length)):=by
 rw [Zzt];delta qCZ6 qCZ1 qCZ2 qCZ3 qCZ4 qCZ5
 have ex:=Ex.eta c.pay
 rw [ex]
 rw [Zl9] at hl
 refine ⟨fun x=>x.k<=c.when_.length/\x.r=c.when_.length-x.k/\x.L=l++cdTs 0 (c.when_.take x.k)/\x.Z=zsOf l.length x.k/\x.fz=fz,⟨⟨0,c.when_.length,l,[],fz⟩,⟨Nat.zero_le _,rfl,by simp [cdTs],rfl,rfl⟩,by simp⟩,?_⟩
 rintro ⟨j,r,L,Z,fz'⟩ ⟨k1,k2,k3,k4,k5⟩
 simp only at k1 k2 k3 k4 k5
 subst k5
 have tj:Int.toNat (↑j:Int)=j:=by omega
 have nL:L.length=l.length+3*j:=by rw [k3,List.length_append,Yp,List.length_take];omega
 have nZ:Z.length=j:=by rw [k4,Zg4]
 show (_->_)/\(_->_)
 simp only [tj]
 refine ⟨fun g=>⟨by omega,by have:=of_decide_eq_true g;omega,fun w hw=> ?_⟩,fun g=> ?_⟩
 · have g:=of_decide_eq_true g
   refine ⟨⟨Nat.le_refl _,by omega,by omega⟩,fun L1 e1=>⟨⟨Nat.le_refl _,Nat.zero_le _,by omega⟩,?_⟩⟩
   have et:c.when_.take (j+1)=c.when_.take j++ [w]:=by rw [List.take_add_one,hw];rfl
   have w1:wr .i64 ((↑(L.length+3):Int)-1)=↑(l.length+3*j+2):=(wr64 (by omega) (by omega)).trans (by omega)
   have w2:wr .i64 ((↑j:Int)+1)=↑(j+1):=(wr64 (by omega) (by omega)).trans (by omega)
   have eL:L1=l++cdTs 0 (c.when_.take (j+1)):=by
    rw [e1,List.take_length,k3,et,Za3,List.append_assoc];rfl
   have nL1:L1.length=L.length+3:=by rw [e1,List.take_length];simp
   refine ⟨⟨j+1,c.when_.length-(j+1),L1,zsOf l.length (j+1),fz'⟩,⟨by dsimp only;omega,rfl,eL,rfl,rfl⟩,(by show c.when_.length-(j+1)+1<=r;omega),?_⟩
   rw [w1,w2,List.take_length,k4,Zua]
   simp [nL1,Zg4,nL]
 · have g:=of_decide_eq_false g
   obtain rfl:j=c.when_.length:=by omega
   rw [List.take_length] at k3
   refine ⟨⟨trivial,by omega,hs,hx,by rw [nL];omega⟩,fun l1 e1=> ?_⟩
   have n1:l1.length=l.length+3*c.when_.length+(cdX c.pay (l.length+3*c.when_.length)).length:=by rw [e1,List.length_append,nL]
   refine ⟨⟨Nat.le_refl _,by omega,by omega⟩,fun l2 e2=> ?_⟩
   rw [List.take_length] at e2
   generalize hn:l1.length+1=n
   have e3:l2=l++cdTs 0 c.when_++(cdX c.pay (l.length+3*c.when_.length)++ [iNN 15 k]):=by
    rw [e2,e1,nL,k3,List.append_assoc];rfl
   have fin:l++cdC c k l.length=l++cdTs n c.when_++(cdX c.pay (l.length+3*c.when_.length)++ [iNN 15 k]):=by
    unfold cdC
    simp only
    rw [show l.length+3*c.when_.length+(cdX c.pay (l.length+3*c.when_.length)).length+1=n by omega]
    simp [List.append_assoc]
   rw [fin]
   generalize hr:cdX c.pay (l.length+3*c.when_.length)++ [iNN 15 k]=R at e3
   have nR:R.length=(cdX c.pay (l.length+3*c.when_.length)).length+1:=by rw [<-hr];simp
   refine ⟨fun x=>x.k<=c.when_.length/\x.r=c.when_.length-x.k/\x.L=l++(cdTs n (c.when_.take x.k)++cdTs 0 (c.when_.drop x.k))++R/\x.fz=fz',⟨⟨0,c.when_.length,l2,[],fz'⟩,⟨Nat.zero_le _,rfl,by rw [e3];simp [cdTs],rfl⟩,by simp⟩,?_⟩
   rintro ⟨i,r2,L2,Z2,fz2⟩ ⟨i1,i2,i3,i4⟩
   simp only at i1 i2 i3 i4
   subst i4
   have ti:0+Int.toNat (↑i:Int)=i:=by omega
   have nL2:L2.length=n:=by
    rw [i3]
    simp only [List.length_append,Yp,List.length_take,List.length_drop,nR]
    omega
   show (_->_)/\(_->_)
   simp only [ti]
   refine ⟨fun g=>⟨⟨by omega,by have:=of_decide_eq_true g;omega⟩,by have:=of_decide_eq_true g;omega,fun z hz=> ?_⟩,fun g=> ?_⟩
   · have g:=of_decide_eq_true g
     have hi:i<c.when_.length:=by omega
     rw [k4] at hz
     obtain rfl:=Zzu hz
     have tz:0+Int.toNat (↑(l.length+3*i+2):Int)=l.length+3*i+2:=by omega
     simp only [tz]
     have hw:c.when_[i]? =some c.when_[i]:=List.getElem?_eq_getElem hi
     have et:c.when_.take (i+1)=c.when_.take i++ [c.when_[i]]:=by rw [List.take_add_one,hw];rfl
     have ed:c.when_.drop i=c.when_[i]::c.when_.drop (i+1):=List.drop_eq_getElem_cons hi
     have tl:(cdTs n (c.when_.take i)).length=3*i:=by rw [Yp,List.length_take];omega
     have hA:l.length+3*i+2=(l++cdTs n (c.when_.take i)++ [iNN 2 c.when_[i].attr,⟨12,c.when_[i].low,c.when_[i].high⟩]).length:=by simp [tl];omega
     have hL:L2=(l++cdTs n (c.when_.take i)++ [iNN 2 c.when_[i].attr,⟨12,c.when_[i].low,c.when_[i].high⟩])++iNN 13 0::(cdTs 0 (c.when_.drop (i+1))++R):=by
      rw [i3,ed];simp [cdTs]
     refine ⟨⟨by omega,by omega⟩,by omega,by omega,fun y hy L3 e4=> ?_⟩
     obtain rfl:y=iNN 13 0:=Zg5 hA (hL▸hy)
     have w2:wr .i64 ((↑i:Int)+1)=↑(i+1):=(wr64 (by omega) (by omega)).trans (by omega)
     refine ⟨⟨i+1,c.when_.length-(i+1),L3,[],fz2⟩,⟨hi,rfl,?_,rfl⟩,(by show c.when_.length-(i+1)+1<=r2;omega),by simp [w2]⟩
     show L3=_
     rw [e4,hL,Zg6 hA,et,Za3]
     simp [cdTs,iNN]
   · have g:=of_decide_eq_false g
     obtain rfl:i=c.when_.length:=by omega
     rw [List.take_length,List.drop_length] at i3
     have e5:L2=l++cdTs n c.when_++R:=by rw [i3];simp [cdTs]
     exact ⟨e5,by rw [<-e5,nL2],by trivial⟩
def RcP (c:Cls) (k:Nat) (l:List Ins):Prop:=c.pay.sz+1<=1000000000/\Zj c.pay=true/\l.length+(cdC c k l.length).length<=1000000000
theorem Z2r:FnsOk E Frc:=Zl E_ok (Zl E_ok (Zb F0_ok (Z2y (Zwn _))) _ _ _) _ _ _
end
section
open Go
structure KX where
 k:Nat
 r:Nat
def Zs7 (t:Tar):Prop:=(∀c∈t.clauses,c.pay.sz<1000000000/\c.when_.length<1000000000000)/\t.clauses.length<1000000000000
noncomputable def dTar:DcL E (Tar×Unit):= .cons (dR .tariffs) .nil
noncomputable def Aw16:Fr thy->Hp thy->Nat->Ann thy:=fun T h i=>{X:=KX,fr:=fun x=> [(0,T 0),(3,.int false .i64 x.k)],bl:=fun x=> [],src:=fun _=> [],md:= [],ih:=i,M:=i+20,meas:=fun x=>x.r}
noncomputable def Fw16:Fns thy:=addL F0 92 4 Aw16 E
theorem Z3h:FnsOk E Fw16:=Zl E_ok F0_ok _ _ _
abbrev qDA1 (a0:List Nat):=(↑(List.length a0):Int)
abbrev qDA2 (a0:KX):=(↑(KX.k a0):Int)
abbrev qDA3:=(0:Int)
abbrev qDA4:=(1:Int)
theorem Zyu (s:List Nat) (v:Bool):Zf E Fw16 (vc E Fw16 400) 92 [.str false s] hp0 0 (fun r=>ret E (patch hp0 0 r) r.v (.bool false v))=(
 ∃(Q:Bool->Prop),((decide ((qDA1 s)<qDA4)=true->Q true)/\(decide ((qDA1 s)<qDA4)=false->(decide ((qDA1 s)>(32:Int))=true->Q true)/\(decide ((qDA1 s)>(32:Int))=false->qDA3<=qDA3/\qDA3+qDA4<=(qDA1 s)/\∀(x:Nat),s[Int.toNat qDA3]? =some x->(decide ((↑x:Int)<(97:Int))=true->Q true)/\(decide ((↑x:Int)<(97:Int))=false->qDA3<=qDA3/\qDA3+qDA4<=(qDA1 s)/\∀(x:Nat),s[Int.toNat qDA3]? =some x->(decide ((↑x:Int)>(122:Int))=true->Q true)/\(decide ((↑x:Int)>(122:Int))=false->Q false)))))/\(Q true->false=v)/\(Q false->∃(R:KX->Prop),(∃(x:KX),R x/\true=true/\(s=s/\qDA3=(qDA2 x)/\True)/\True)/\∀(x:KX),R x->(decide ((qDA2 x)<(qDA1 s))=true->∃(Q:Bool->Prop),(qDA3<=(qDA2 x)/\(qDA2 x)+qDA4<=(qDA1 s)/\∀(x_1:Nat),s[Int.toNat (qDA2 x)]? =some x_1->(decide ((↑x_1:Int)<(97:Int))=true->qDA3<=(qDA2 x)/\(qDA2 x)+qDA4<=(qDA1 s)/\∀(x_2:Nat),s[Int.toNat (qDA2 x)]? =some x_2->(decide ((↑x_2:Int)<(48:Int))=true->Q true)/\(decide ((↑x_2:Int)<(48:Int))=false->qDA3<=(qDA2 x)/\(qDA2 x)+qDA4<=(qDA1 s)/\∀(x_3:Nat),s[Int.toNat (qDA2 x)]? =some x_3->(decide ((↑x_3:Int)>(57:Int))=true->Q true)/\(decide ((↑x_3:Int)>(57:Int))=false->Q false)))/\(decide ((↑x_1:Int)<(97:Int))=false->qDA3<=(qDA2 x)/\(qDA2 x)+qDA4<=(qDA1 s)/\∀(x_2:Nat),s[Int.toNat (qDA2 x)]? =some x_2->(decide ((↑x_2:Int)>(122:Int))=true->qDA3<=(qDA2 x)/\(qDA2 x)+qDA4<=(qDA1 s)/\∀(x_3:Nat),s[Int.toNat (qDA2 x)]? =some x_3->(decide ((↑x_3:Int)<(48:Int))=true->Q true)/\(decide ((↑x_3:Int)<(48:Int))=false->qDA3<=(qDA2 x)/\(qDA2 x)+qDA4<=(qDA1 s)/\∀(x_4:Nat),s[Int.toNat (qDA2 x)]? =some x_4->(decide ((↑x_4:Int)>(57:Int))=true->Q true)/\(decide ((↑x_4:Int)>(57:Int))=false->Q false)))/\(decide ((↑x_2:Int)>(122:Int))=false->Q false)))/\(Q true->false=v)/\(Q false->∃(x_1:KX),R x_1/\x_1.2+(1:Nat)<=x.2/\true=true/\(s=s/\wr IntKind.i64 ((qDA2 x)+qDA4)=(qDA2 x_1)/\True)/\True))/\(decide ((qDA2 x)<(qDA1 s))=false->true=v))):=by kernel_rfl
theorem Zyv (s:List Nat):PureC E 92 [.str false s] (.bool false (Xk s)):=by
 refine Za E_ok (Ze E_ok Z3h 400) ?_
 rw [Zyu];delta qDA1 qDA2 qDA3 qDA4
 simp only [Zz,Zt,Y9,Xa,Xb,beq_iff_eq,bne_iff_ne,beq_eq_false_iff_ne,bne_eq_false_iff_eq,decide_eq_true_eq,decide_eq_false_iff_not,Bool.or_eq_true,Bool.or_eq_false_iff,Bool.not_eq_true',Bool.not_eq_false',Bool.and_eq_true,Bool.and_true,Bool.true_and,Bool.and_eq_false_iff,beq_self_eq_true,Z3,Z4,ne_eq,and_true,true_and,Bool.true_eq_false,Bool.false_eq_true,false_or,or_false,true_implies,imp_self,Int.ofNat_eq_natCast,not_true_eq_false,not_false_eq_true,Decidable.not_not,List.getElem?_cons_zero,List.getElem?_cons_succ,Option.some.injEq,forall_eq',forall_eq,List.set_cons_zero,List.set_cons_succ,List.length_cons,List.length_nil,List.getD_cons_zero,List.getD_cons_succ,tn0,tn1,tn2,tn3,Int.le_refl,Nat.le_refl,Nat.reduceAdd,Int.reduceAdd,Int.reduceLE,Nat.reduceLeDiff,cn4,cn16]
 have hwb:∀c,wb c=true↔(97<=c/\c<=122)\/(48<=c/\c<=57):=fun c=>by simp [wb]
 have hlow:∀c,s[0]? =some c->(lowF s=true↔97<=c/\c<=122):=fun c hc=>by
  cases s with
  |nil=>simp at hc
  |cons c' r=>
   obtain rfl:c'=c:=by simpa using hc
   simp [lowF]
 have hnil:s.length<1->lowF s=false:=fun h=>by
  cases s with
  |nil=>rfl
  |cons c r=>simp at h
 have bad:¬(s.length<=32/\lowF s=true)->false=Xk s:=fun h=>by
  cases hb:Xk s with
  |false=>rfl
  |true=>exfalso;simp only [Xk,Bool.and_eq_true,decide_eq_true_eq] at hb;exact h hb.1
 refine ⟨fun b=>b=true↔¬(s.length<=32/\lowF s=true),And.intro (fun h=>⟨fun _ hh=>(by rw [hnil (by omega)] at hh;exact absurd hh.2 (by decide)),fun _=>rfl⟩) (fun h=>And.intro (fun h'=>⟨fun _ hh=>(by omega),fun _=>rfl⟩) (fun h'=>⟨by omega,fun c hc=>And.intro (fun h3=>⟨fun _ hh=>(by have:=(hlow c hc).1 hh.2;omega),fun _=>rfl⟩) (fun h3=>⟨by omega,fun c2 hc2=>And.intro (fun h4=>⟨fun _ hh=>(by have:=(hlow c2 hc2).1 hh.2;omega),fun _=>rfl⟩) (fun h4=>⟨fun h=>(by cases h),fun hh=>absurd ⟨by omega,(hlow c2 hc2).2 (And.intro (by have:c=c2:=Option.some.inj (hc.symm.trans hc2);omega) (by omega))⟩ hh⟩)⟩)⟩)),fun h=>bad (h.1 rfl),fun h=> ?_⟩
 have hh:s.length<=32/\lowF s=true:=Decidable.byContradiction fun hn=>by have:=h.2 hn;cases this
 have hf:Xk s=(s.drop 0).all wb:=by simp [Xk,hh.1,hh.2]
 refine ⟨fun x=>x.k+x.r=s.length/\Xk s=(s.drop x.k).all wb,⟨⟨0,s.length⟩,⟨Nat.zero_add _,hf⟩,rfl⟩,fun x hx=>⟨fun hk=> ?_,fun hk=>by rw [hx.2,List.drop_of_length_le (by omega)];rfl⟩⟩
 obtain ⟨c,hc⟩:∃c,s[x.k]? =some c:=⟨s[x.k]'(by omega),List.getElem?_eq_getElem _⟩
 have hd:(s.drop x.k).all wb=(wb c&&(s.drop (x.k+1)).all wb):=by rw [Wm hc,List.all_cons]
 have wF:¬((97<=c/\c<=122)\/(48<=c/\c<=57))->wb c= !true:=fun h=>Bool.eq_false_iff.2 fun hw=>h ((hwb c).1 hw)
 have wT:(97<=c/\c<=122)\/(48<=c/\c<=57)->wb c= !false:=fun h=>(hwb c).2 h
 simp only [Int.toNat_natCast,hc,Option.some.injEq,forall_eq']
 refine ⟨fun b=>wb c= !b,⟨by omega,by omega,And.intro (fun h1=>⟨by omega,by omega,And.intro (fun h2=>wF (by omega)) (fun h2=>⟨by omega,by omega,And.intro (fun h3=>wF (by omega)) (fun h3=>wT (by omega))⟩)⟩) (fun h1=>⟨by omega,by omega,And.intro (fun h2=>⟨by omega,by omega,And.intro (fun h3=>wF (by omega)) (fun h3=>⟨by omega,by omega,And.intro (fun h4=>wF (by omega)) (fun h4=>wT (by omega))⟩)⟩) (fun h2=>wT (by omega))⟩)⟩,fun hq=> ?_,fun hq=>⟨⟨x.k+1,x.r-1⟩,⟨by dsimp only;omega,?_⟩,by dsimp only;omega,?_⟩⟩
 · rw [hx.2,hd,hq];rfl
 · rw [hx.2,hd,hq];rfl
 · dsimp only
   exact (wr64 (by omega) (by omega)).trans (by omega)
noncomputable def Sw16:Sum thy:=sumP (dA1 dS) (fun _=>True) fun x=> .bool false (Xk x.1)
noncomputable def SF16:Sum thy:=sumP dExp (fun x=>x.1.sz<1000000000000) fun x=> .bool false (Zj x.1)
noncomputable def At16:Fr thy->Hp thy->Nat->Ann thy:=fun T h i=>{X:=KX,fr:=fun x=> [(1,T 1),(3,.int false .i64 x.k)],bl:=fun x=>blkP h (T 1),src:=fun _=> [],md:= [],ih:=i,M:=i+40,meas:=fun x=>x.r}
noncomputable def Z75:Fr thy->Hp thy->Nat->Ann thy:=fun T h i=>{X:=KX,fr:=fun x=> [(1,T 1),(3,T 3),(4,T 4),(5,.int false .i64 x.k)],bl:=fun x=>blkP h (T 1)++blkP h (T 4),src:=fun _=> [],md:= [],ih:=i,M:=i+30,meas:=fun x=>x.r}
noncomputable def Ft16:Fns thy:=addL (addL (addS (addS F0 92 Sw16) 93 SF16) 54 4 At16 E) 54 10 Z75 E
abbrev qDAb:=(false=true->false=true)
abbrev qDAe (a0:Cls):=(Cls.pay a0)
abbrev qDA5 (a0:Cls):=(Cls.name a0=Cls.name a0/\(Cls.when_ a0=Cls.when_ a0/\qDAb)/\Ex.op (qDAe a0)=Ex.op (qDAe a0)/\Ex.n (qDAe a0)=Ex.n (qDAe a0)/\Ex.d0 (qDAe a0)=Ex.d0 (qDAe a0)/\Ex.d1 (qDAe a0)=Ex.d1 (qDAe a0)/\Ex.d2 (qDAe a0)=Ex.d2 (qDAe a0)/\Ex.d3 (qDAe a0)=Ex.d3 (qDAe a0)/\(Ex.l (qDAe a0)=Ex.l (qDAe a0)/\qDAb)/\True)
abbrev qDA6 (a0:Tar):=(Tar.name a0=Tar.name a0/\Tar.for_ a0=Tar.for_ a0/\(Tar.clauses a0=Tar.clauses a0/\qDAb)/\True)
abbrev qDA7 (a0:Cls):=(Ex.mk (Ex.op (qDAe a0)) (Ex.n (qDAe a0)) (Ex.d0 (qDAe a0)) (Ex.d1 (qDAe a0)) (Ex.d2 (qDAe a0)) (Ex.d3 (qDAe a0)) (Ex.l (qDAe a0)))
abbrev qDA8 (a0:KX):=(↑(KX.k a0):Int)
abbrev qDA9:=(0:Nat)
abbrev qDAa:=(1099511627776:Int)
abbrev qDAc:=(0:Int)
abbrev qDAd (a0:Tar):=(↑(List.length (Tar.clauses a0)):Int)
theorem Zyw (t:Tar) (v:Bool):Zf E Ft16 (vc E Ft16 400) 54 [tarA t] hp0 0 (fun r=>ret E (patch hp0 0 r) r.v (.bool false v))=(
 True/\((!Xk (Tar.name t))=true->false=v)/\((!Xk (Tar.name t))=false->(decide (Tar.for_ t<(1:Int))=true->false=v)/\(decide (Tar.for_ t<(1:Int))=false->(decide (Tar.for_ t>(6:Int))=true->false=v)/\(decide (Tar.for_ t>(6:Int))=false->∃(R:KX->Prop),(∃(x:KX),R x/\true=true/\(qDA9=qDA9/\qDAc=(qDA8 x)/\True)/\(qDA6 t)/\True)/\∀(x:KX),R x->(decide ((qDA8 x)<(qDAd t))=true->qDAc<=(qDA8 x)/\(qDA8 x)+(1:Int)<=(qDAd t)/\∀(x_1:Cls),(Tar.clauses t)[Int.toNat (qDA8 x)]? =some x_1->True/\((!Xk (Cls.name x_1))=true->false=v)/\((!Xk (Cls.name x_1))=false->Ex.sz (qDA7 x_1)+(1:Nat)<=(1000000000000:Nat)/\((!Zj (qDA7 x_1))=true->false=v)/\((!Zj (qDA7 x_1))=false->∃(R_1:KX->Prop),(∃(x_2:KX),R_1 x_2/\true=true/\(qDA9=qDA9/\(qDA8 x)=(qDA8 x)/\qDA9=qDA9/\qDAc=(qDA8 x_2)/\True)/\(qDA6 t)/\(qDA5 x_1)/\True)/\∀(x_2:KX),R_1 x_2->(decide ((qDA8 x_2)<(↑(List.length (Cls.when_ x_1)):Int))=true->qDAc<=(qDA8 x_2)/\(qDA8 x_2)+(1:Int)<=(↑(List.length (Cls.when_ x_1)):Int)/\∀(x_3:Tst),(Cls.when_ x_1)[Int.toNat (qDA8 x_2)]? =some x_3->∃(Q:Bool->Prop),((decide (Tst.attr x_3<qDAc)=true->Q true)/\(decide (Tst.attr x_3<qDAc)=false->(decide (Tst.attr x_3>=(16:Int))=true->Q true)/\(decide (Tst.attr x_3>=(16:Int))=false->(decide (Tst.low x_3<qDAc)=true->Q true)/\(decide (Tst.low x_3<qDAc)=false->(decide (Tst.low x_3>qDAa)=true->Q true)/\(decide (Tst.low x_3>qDAa)=false->(decide (Tst.high x_3<qDAc)=true->Q true)/\(decide (Tst.high x_3<qDAc)=false->(decide (Tst.high x_3>qDAa)=true->Q true)/\(decide (Tst.high x_3>qDAa)=false->Q false)))))))/\(Q true->false=v)/\(Q false->∃(x_4:KX),R_1 x_4/\x_4.2+(1:Nat)<=x_2.2/\true=true/\(qDA9=qDA9/\(qDA8 x)=(qDA8 x)/\qDA9=qDA9/\wr IntKind.i64 ((qDA8 x_2)+(1:Int))=(qDA8 x_4)/\True)/\(qDA6 t)/\(qDA5 x_1)/\True))/\(decide ((qDA8 x_2)<(↑(List.length (Cls.when_ x_1)):Int))=false->∃(x_3:KX),R x_3/\x_3.2+(1:Nat)<=x.2/\true=true/\(qDA9=qDA9/\wr IntKind.i64 ((qDA8 x)+(1:Int))=(qDA8 x_3)/\True)/\(qDA6 t)/\True))))/\(decide ((qDA8 x)<(qDAd t))=false->true=v))))):=by kernel_rfl
theorem Z3i:SumOk E 92 Sw16:=Zp E_ok (Zc (f:=92) rfl) fun x h=>Zyv _
theorem Z3j:SumOk E 93 SF16:=Zp E_ok (Zc (f:=93) rfl) fun x h=>Zrc _ (Nat.le_refl _) _ h
theorem Z3k:FnsOk E Ft16:=Zl E_ok (Zl E_ok (Zb (Zb F0_ok Z3i) Z3j) _ _ _) _ _ _
def tarF (t:Tar):Bool:=Xk t.name&&decide (1<=t.for_/\t.for_<=6)&&t.clauses.all Y4
theorem Zyx (t:Tar) (hsz:∀c∈t.clauses,c.pay.sz<1000000000/\c.when_.length<1000000000000) (hl:t.clauses.length<1000000000000):PureC E 54 [tarA t] (.bool false (tarF t)):=by
 refine Za E_ok (Ze E_ok Z3k 400) ?_
 rw [Zyw];delta qDAb qDAe qDA5 qDA6 qDA7 qDA8 qDA9 qDAa qDAc qDAd
 simp only [Zz,Zt,Y9,Xa,Xb,beq_iff_eq,bne_iff_ne,beq_eq_false_iff_ne,bne_eq_false_iff_eq,decide_eq_true_eq,decide_eq_false_iff_not,Bool.or_eq_true,Bool.or_eq_false_iff,Bool.not_eq_true',Bool.not_eq_false',Bool.and_eq_true,Bool.and_true,Bool.true_and,Bool.and_eq_false_iff,beq_self_eq_true,Z3,Z4,ne_eq,and_true,true_and,Bool.true_eq_false,Bool.false_eq_true,false_or,or_false,true_implies,imp_self,Int.ofNat_eq_natCast,not_true_eq_false,not_false_eq_true,Decidable.not_not,List.getElem?_cons_zero,List.getElem?_cons_succ,Option.some.injEq,forall_eq',forall_eq,List.set_cons_zero,List.set_cons_succ,List.length_cons,List.length_nil,List.getD_cons_zero,List.getD_cons_succ,tn0,tn1,tn2,tn3,Int.le_refl,Nat.le_refl,Nat.reduceAdd,Int.reduceAdd,Int.reduceLE,Nat.reduceLeDiff,cn4,cn16,Ex.eta]
 have e0:tarF t=(Xk t.name&&decide (1<=t.for_/\t.for_<=6)&&t.clauses.all Y4):=rfl
 have bad:¬(1<=t.for_/\t.for_<=6)->false=tarF t:=fun h=>by rw [e0,decide_eq_false h,Bool.and_false,Bool.false_and]
 refine And.intro (fun h=>by rw [e0,h];rfl) (fun h1=>And.intro (fun h=>bad (by omega)) (fun h2=>And.intro (fun h=>bad (by omega)) (fun h3=> ?_)))
 have hf:tarF t=(t.clauses.drop 0).all Y4:=by rw [e0,h1,decide_eq_true (show 1<=t.for_/\t.for_<=6 by omega)];rfl
 refine ⟨fun x=>x.k+x.r=t.clauses.length/\tarF t=(t.clauses.drop x.k).all Y4,⟨⟨0,t.clauses.length⟩,⟨Nat.zero_add _,hf⟩,rfl⟩,fun x hx=>⟨fun hk=>⟨by omega,by omega,fun c hc=> ?_⟩,fun hk=>by rw [hx.2,List.drop_of_length_le (by omega)];rfl⟩⟩
 rw [Int.toNat_natCast] at hc
 have hs:=hsz c (List.mem_of_getElem? hc)
 have hd:(t.clauses.drop x.k).all Y4=(Y4 c&&(t.clauses.drop (x.k+1)).all Y4):=by rw [Wm hc,List.all_cons]
 have ec:Y4 c=(Xk c.name&&Zj c.pay&&c.when_.all Z6):=rfl
 refine And.intro (fun h=>by rw [hx.2,hd,ec,h];rfl) (fun h4=>And.intro (by omega) (And.intro (fun h=>by rw [hx.2,hd,ec,h,Bool.and_false];rfl) (fun h5=> ?_)))
 refine ⟨fun y=>y.k+y.r=c.when_.length/\tarF t=((c.when_.drop y.k).all Z6&&(t.clauses.drop (x.k+1)).all Y4),⟨⟨0,c.when_.length⟩,⟨Nat.zero_add _,by rw [hx.2,hd,ec,h4,h5];rfl⟩,rfl⟩,fun y hy=>⟨fun hk2=>⟨by omega,by omega,fun w hw=> ?_⟩,fun hk2=>⟨⟨x.k+1,x.r-1⟩,⟨by dsimp only;omega,by rw [hy.2,List.drop_of_length_le (by omega)];rfl⟩,by dsimp only;omega,?_⟩⟩⟩
 · rw [Int.toNat_natCast] at hw
   have hwd:=Zhx hw
   have wF:¬(0<=w.attr/\w.attr<16/\0<=w.low/\w.low<=1099511627776/\0<=w.high/\w.high<=1099511627776)->Z6 w= !true:=fun h=>decide_eq_false h
   have wT:(0<=w.attr/\w.attr<16/\0<=w.low/\w.low<=1099511627776/\0<=w.high/\w.high<=1099511627776)->Z6 w= !false:=fun h=>decide_eq_true h
   refine ⟨fun b=>Z6 w= !b,And.intro (fun h=>wF (by omega)) (fun a1=>And.intro (fun h=>wF (by omega)) (fun a2=>And.intro (fun h=>wF (by omega)) (fun a3=>And.intro (fun h=>wF (by omega)) (fun a4=>And.intro (fun h=>wF (by omega)) (fun a5=>And.intro (fun h=>wF (by omega)) (fun a6=>wT (by omega))))))),fun hq=> ?_,fun hq=>⟨⟨y.k+1,y.r-1⟩,⟨by dsimp only;omega,?_⟩,by dsimp only;omega,?_⟩⟩
   · rw [hy.2,hwd,hq];rfl
   · rw [hy.2,hwd,hq];rfl
   · dsimp only
     exact (wr64 (by omega) (by omega)).trans (by omega)
 · dsimp only
   exact (wr64 (by omega) (by omega)).trans (by omega)
noncomputable def Z53 (m:Nat):Sum thy:=sumP dExp (fun x=>x.1.sz<m) fun x=> .int false .i64 (Yc x.1:Int)
noncomputable def An16:Fr thy->Hp thy->Nat->Ann thy:=fun T h i=>{X:=DX,fr:=fun x=> [(1,T 1),(3,.int false .i64 x.j),(4,.int false .i64 x.k)],bl:=fun x=>blkP h (T 1),src:=fun _=> [],md:= [],ih:=i,M:=i+40,meas:=fun x=>x.r}
noncomputable def Fn16 (m:Nat):Fns thy:=addL (addS F0 57 (Z53 m)) 57 3 An16 E
theorem Zyy (m:Nat) (x:Ex) (v:Int):Zf E F0 (vc E (Fn16 m) 400) 57 [exA x] hp0 0 (fun r=>ret E (patch hp0 0 r) r.v (.int false .i64 v))=(
∃(R:DX->Prop),(∃(x_1:DX),R x_1/\true=true/\((0:Nat)=(0:Nat)/\(0:Int)=DX.j x_1/\(0:Int)=(↑(DX.k x_1):Int)/\True)/\(Ex.op x=Ex.op x/\Ex.n x=Ex.n x/\Ex.d0 x=Ex.d0 x/\Ex.d1 x=Ex.d1 x/\Ex.d2 x=Ex.d2 x/\Ex.d3 x=Ex.d3 x/\(Ex.l x=Ex.l x/\(false=true->false=true))/\True)/\True)/\∀(x_1:DX),R x_1->(decide ((↑(DX.k x_1):Int)<(↑(List.length (Ex.l x)):Int))=true->(0:Int)<=(↑(DX.k x_1):Int)/\(↑(DX.k x_1):Int)+(1:Int)<=(↑(List.length (Ex.l x)):Int)/\∀(x_2:Ex),(Ex.l x)[Int.toNat (↑(DX.k x_1):Int)]? =some x_2->Ex.sz (Ex.mk (Ex.op x_2) (Ex.n x_2) (Ex.d0 x_2) (Ex.d1 x_2) (Ex.d2 x_2) (Ex.d3 x_2) (Ex.l x_2))+(1:Nat)<=m/\∃(x_3:DX),R x_3/\x_3.2+(1:Nat)<=x_1.2/\true=true/\((0:Nat)=(0:Nat)/\mm2 true (DX.j x_1) (↑(Yc (Ex.mk (Ex.op x_2) (Ex.n x_2) (Ex.d0 x_2) (Ex.d1 x_2) (Ex.d2 x_2) (Ex.d3 x_2) (Ex.l x_2))):Int)=DX.j x_3/\wr IntKind.i64 ((↑(DX.k x_1):Int)+(1:Int))=(↑(DX.k x_3):Int)/\True)/\(Ex.op x=Ex.op x/\Ex.n x=Ex.n x/\Ex.d0 x=Ex.d0 x/\Ex.d1 x=Ex.d1 x/\Ex.d2 x=Ex.d2 x/\Ex.d3 x=Ex.d3 x/\(Ex.l x=Ex.l x/\(false=true->false=true))/\True)/\True)/\(decide ((↑(DX.k x_1):Int)<(↑(List.length (Ex.l x)):Int))=false->wr IntKind.i64 (DX.j x_1+(1:Int))=v)):=by kernel_rfl
theorem Z3l:∀(m:Nat) (x:Ex),x.sz<=m->m<=1000000000000->PureC E 57 [exA x] (.int false .i64 (Yc x:Int)):=by
 intro m
 induction m with
 |zero=>intro x h;have:=x.sz_pos;omega
 |succ m ih=>
  intro x hm hb
  have hF:FnsOk E (Fn16 (m+1)):=Zl E_ok (Zb F0_ok (Zp E_ok (Zc (f:=57) rfl) fun x h=>ih x.1 (by omega) (by omega))) _ _ _
  refine Za E_ok (Yf E_ok F0_ok fun f N c=>(Zay E_ok hF 400 f N c).1) ?_
  rw [Zyy]
  simp only [Zz,Zt,Y9,Xa,Xb,beq_iff_eq,bne_iff_ne,beq_eq_false_iff_ne,bne_eq_false_iff_eq,decide_eq_true_eq,decide_eq_false_iff_not,Bool.or_eq_true,Bool.or_eq_false_iff,Bool.not_eq_true',Bool.not_eq_false',Bool.and_eq_true,Bool.and_true,Bool.true_and,Bool.and_eq_false_iff,beq_self_eq_true,Z3,Z4,ne_eq,and_true,true_and,Bool.true_eq_false,Bool.false_eq_true,false_or,or_false,true_implies,imp_self,Int.ofNat_eq_natCast,not_true_eq_false,not_false_eq_true,Decidable.not_not,List.getElem?_cons_zero,List.getElem?_cons_succ,Option.some.injEq,forall_eq',forall_eq,List.set_cons_zero,List.set_cons_succ,List.length_cons,List.length_nil,List.getD_cons_zero,List.getD_cons_succ,tn0,tn1,tn2,tn3,Int.le_refl,Nat.le_refl,Nat.reduceAdd,Int.reduceAdd,Int.reduceLE,Nat.reduceLeDiff,cn4,cn16,Ex.eta]
  have hsz:=x.sz_eq
  have hlen:=Ex.szL_len x.l
  have hnx:=Zo5 x
  have hns:=Zht x
  refine ⟨fun y=>y.k<=x.l.length/\0<=y.j/\max y.j (Zbl (x.l.drop y.k):Int)=(Zbl x.l:Int)/\y.r=x.l.length-y.k,⟨⟨0,x.l.length,[],[],0,0,0,0⟩,⟨(by dsimp only;omega),(by dsimp only;omega),by dsimp only;rw [List.drop_zero];omega,rfl⟩,rfl,rfl⟩,?_⟩
  rintro y ⟨hk,hj1,hv,hr⟩
  refine And.intro (fun hq=> ?_) (fun hq=> ?_)
  · refine ⟨by omega,by omega,fun z hz=> ?_⟩
    have hz:x.l[y.k]? =some z:=hz
    have hzs:=Ex.sz_mem (List.mem_of_getElem? hz)
    rw [Zfx hz] at hv
    rw [wr64 (n:=(y.k:Int)+1) (by omega) (by omega)]
    exact ⟨by omega,⟨y.k+1,x.l.length-(y.k+1),[],[],0,0,0,max y.j (Yc z:Int)⟩,⟨(by dsimp only;omega),(by dsimp only;omega),(by dsimp only;omega),rfl⟩,by show x.l.length-(y.k+1)+1<=y.r;omega,rfl,rfl⟩
  · rw [X4 (by omega)] at hv
    simp only [Zbl] at hv
    rw [wr64 (by omega) (by omega)]
    omega
end
section
open Go
structure C16X where
 k:Nat
 r:Nat
 d:Bool
 W:List (List Nat)
noncomputable def Aix:Fr thy->Hp thy->Nat->Ann thy:=fun T h i=>{X:=KX,fr:=fun x=> [(0,T 0),(1,T 1),(5,.int false .i64 x.k)],bl:=fun x=>blkS h (T 0),src:=fun _=> [],md:= [],ih:=i,M:=i+30,meas:=fun x=>x.r}
noncomputable def Ac16:Fr thy->Hp thy->Nat->Ann thy:=fun T h i=>{X:=C16X,fr:=fun x=> [(1,T 1),(3,.sl i 0 x.W.length 1 none),(4,.bool false x.d),(5,.int false .i64 x.k)],bl:=fun x=>blkP h (T 1)++blkA h (T 3) i Th.strs x.W,src:=fun _=> [(i,3)],md:= [bOf (T 3)],ih:=i+1,M:=i+80,meas:=fun x=>x.r}
noncomputable def St16:Sum thy:=sumP dTar (fun x=>Zs7 x.1) fun x=> .bool false (tarF x.1)
theorem Z4u:SumOk E 54 St16:=Zp E_ok (Zc (f:=54) rfl) fun x h=>Zyx _ h.1 h.2
noncomputable def Sn16:Sum thy:=sumP dExp (fun x=>x.1.sz<1000000000000) fun x=> .int false .i64 (Yc x.1:Int)
theorem Z4v:SumOk E 57 Sn16:=Zp E_ok (Zc (f:=57) rfl) fun x h=>Z3l _ _ (Nat.le_refl _) (Nat.le_of_lt h)
noncomputable def Fc16:Fns thy:=addL (addL (addS (addS F0 54 St16) 57 Sn16) 56 2 Aix E) 25 8 Ac16 E
theorem Z4w:FnsOk E Fc16:=Zl E_ok (Zl E_ok (Zb (Zb F0_ok Z4u) Z4v) _ _ _) _ _ _
abbrev qDBa:=(101:UInt8)
abbrev qDBc:=(105:UInt8)
abbrev Zj3:=(103:UInt8)
abbrev qDBd:=(110:UInt8)
abbrev Zvk:=(ByteArray.mk #[(98:UInt8),qDBa,Zj3,qDBc,qDBd])
abbrev qDBf:=(97:UInt8)
abbrev Zvl:=(ByteArray.mk #[qDBf,qDBd,(100:UInt8)])
abbrev Zvm:=(ByteArray.mk #[qDBc,qDBd])
abbrev qDBr:=(109:UInt8)
abbrev Zvn:=(ByteArray.mk #[(107:UInt8),qDBr])
abbrev qDBo:=(104:UInt8)
abbrev qDBs:=(119:UInt8)
abbrev Zvo:=(ByteArray.mk #[qDBs,qDBo,qDBa,qDBd])
abbrev qDBh:=(116:UInt8)
abbrev Zvp:=(ByteArray.mk #[qDBr,qDBc,qDBd,(117:UInt8),qDBh,qDBa])
abbrev qDBb:=(114:UInt8)
abbrev Zvq:=(ByteArray.mk #[qDBo,qDBc,qDBb,qDBa])
abbrev qDBj:=(111:UInt8)
abbrev Zvr:=(ByteArray.mk #[(99:UInt8),qDBj,(100:UInt8),qDBa])
abbrev qDBk:=(115:UInt8)
abbrev Zvs:=(ByteArray.mk #[(99:UInt8),qDBj,qDBk,qDBh])
abbrev qDBl:=(112:UInt8)
abbrev Zvt:=(ByteArray.mk #[(117:UInt8),qDBl])
abbrev Zvu:=(ByteArray.mk #[qDBr,qDBf,(120:UInt8)])
abbrev Zvv:=(ByteArray.mk #[(100:UInt8),qDBj,qDBs,qDBd])
abbrev Zvw:=(ByteArray.mk #[qDBr,qDBj,qDBd,qDBh,qDBo])
abbrev Zvx:=(ByteArray.mk #[qDBr,qDBc,qDBd])
abbrev Zvy:=(ByteArray.mk #[qDBj,qDBs,qDBd,qDBa,qDBb])
abbrev Zvz:=(ByteArray.mk #[qDBc,qDBk])
abbrev qDBw:=(ByteArray.mk #[qDBs,qDBj,qDBb,(107:UInt8),qDBc,qDBd,Zj3])
abbrev Zv0:=(ByteArray.mk #[qDBs,qDBj,qDBb,qDBh,qDBo])
abbrev Zmk:=(108:UInt8)
abbrev Zv1:=(ByteArray.mk #[(99:UInt8),Zmk,qDBf,qDBk,qDBk])
abbrev qDBm:=(ByteArray.mk #[(100:UInt8),qDBa,qDBr,(117:UInt8),qDBb,qDBb,qDBf,Zj3,qDBa])
abbrev Zv2:=(ByteArray.mk #[qDBs,qDBa,qDBc,Zj3,qDBo,qDBh])
abbrev Zv3:=(ByteArray.mk #[qDBk,qDBo,qDBc,qDBl,qDBl,qDBa,qDBb])
abbrev qDBu:=(ByteArray.mk #[(99:UInt8),Zmk,qDBf,(117:UInt8),qDBk,qDBa])
abbrev Zml:=(102:UInt8)
abbrev qDBy:=(ByteArray.mk #[qDBh,qDBf,qDBb,qDBc,Zml,Zml])
abbrev Zv4:=(ByteArray.mk #[qDBl,qDBa,qDBb])
abbrev Zv5:=(ByteArray.mk #[Zmk,qDBj,qDBk,qDBk])
abbrev Zv6:=(ByteArray.mk #[qDBr,qDBc,qDBd,(117:UInt8),qDBh,qDBa,qDBk])
abbrev Zv7:=(ByteArray.mk #[qDBo,qDBf,Zmk,Zml])
abbrev qDBv:=(ByteArray.mk #[qDBb,qDBf,qDBc,Zmk,qDBs,qDBf,(121:UInt8)])
abbrev qDBq:=(ByteArray.mk #[(99:UInt8),Zmk,qDBa,qDBf,qDBd,qDBc,qDBd,Zj3])
abbrev Zv8:=(ByteArray.mk #[Zml,qDBj,qDBb])
abbrev Zv9:=(ByteArray.mk #[qDBh,(121:UInt8),qDBl,qDBa])
abbrev Zwa:=(ByteArray.mk #[qDBr,qDBj,qDBd,qDBa,(121:UInt8)])
abbrev qDBn:=(0:Nat)
abbrev Zwb:=(ByteArray.mk #[(107:UInt8),Zj3])
abbrev Zwc:=(ByteArray.mk #[qDBl,qDBf,(121:UInt8)])
abbrev Zwd:=(ByteArray.mk #[qDBl,qDBf,qDBb,qDBh,qDBk])
abbrev Zwe:=(ByteArray.mk #[qDBl,qDBf,qDBb,qDBh])
abbrev qDBx:=(ByteArray.mk #[Zml,qDBb,qDBa,qDBc,Zj3,qDBo,qDBh])
abbrev Zwf:=(ByteArray.mk #[qDBc,Zml])
abbrev Zwg:=(ByteArray.mk #[qDBb,qDBa,qDBl,qDBf,qDBc,qDBb])
abbrev qDB1 (a0:C16X):=([toL qDBy,toL Zv8,toL qDBu,toL Zvo,toL Zvl,toL Zvm,toL Zvz,toL Zwc,toL Zvx,toL Zvu,toL Zvv,toL Zvt,toL Zv7,toL Zwf,toL Zwa,toL Zvp,toL Zv4,toL Zwb,toL Zv9,toL Zvy,toL qDBv,toL Zv3,toL Zv1,toL Zv2,toL Zvn,toL Zv6,toL qDBw,toL Zvr,toL Zv0,toL Zvs,toL Zvw,toL Zvk,toL Zwd,toL Zwe,toL Zvq,toL qDBm,toL qDBx,toL Zwg,toL Zv5,toL qDBq]=C16X.W a0/\qDBn=qDBn)
abbrev Zwh (a0:C16X):=(C16X.W a0=C16X.W a0/\qDBn=qDBn)
abbrev qDBt (a0:Tar):=(↑(List.length (Tar.clauses a0)):Int)
abbrev qDBz (a0:Cls):=((↑(List.length (Cls.when_ a0)):Int)>(8:Int))
abbrev qDBp (a0:KX):=(↑(KX.k a0):Int)
abbrev qDB7 (a0:Cls):=(Ex.mk (Ex.op (Cls.pay a0)) (Ex.n (Cls.pay a0)) (Ex.d0 (Cls.pay a0)) (Ex.d1 (Cls.pay a0)) (Ex.d2 (Cls.pay a0)) (Ex.d3 (Cls.pay a0)) (Ex.l (Cls.pay a0)))
abbrev Zct:=(1:Int)
abbrev U3 (a0:C16X):=(↑(C16X.k a0):Int)
abbrev Xd:=(1:Nat)
abbrev qDB5 (a0:C16X) (b0:C16X):=(qDBn=qDBn/\(qDBn=qDBn/\List.length (C16X.W a0)+Xd=List.length (C16X.W b0)/\True)/\true=C16X.d b0/\wr IntKind.i64 ((U3 a0)+Zct)=(U3 b0)/\True)
abbrev qDBe (a0:C16X):=(List.length (C16X.W a0)<=List.length (C16X.W a0)/\qDBn<=List.length (C16X.W a0)/\(List.length (C16X.W a0)+Xd)*(16:Nat)<=(140737488355328:Nat))
abbrev U4:=(0:Int)
abbrev Z0q (a0:KX) (b0:Int):=(decide ((qDBp a0)>=U4)=true->(161:Int)=b0)
abbrev qDB6 (a0:Tar):=(Tar.name a0=Tar.name a0/\Tar.for_ a0=Tar.for_ a0/\(Tar.clauses a0=Tar.clauses a0/\(false=true->false=true))/\True)
abbrev qDBg (a0:C16X) (b0:C16X):=(qDBn=qDBn/\(qDBn=qDBn/\List.length (C16X.W a0)+Xd=List.length (C16X.W b0)/\True)/\false=C16X.d b0/\wr IntKind.i64 ((U3 a0)+Zct)=(U3 b0)/\True)
abbrev qDB8 (a0:C16X) (b0:Cls) (c0:C16X):=(List.take (List.length (C16X.W a0)) (C16X.W a0)++ [Cls.name b0]=C16X.W c0/\qDBn=qDBn)
abbrev Zmm (a0:C16X):=(↑(List.length (C16X.W a0)):Int)
abbrev Zre:=(1000000000000:Nat)
abbrev Zmn (a0:Cls):=((↑(Yc (qDB7 a0)):Int)>(24:Int))
abbrev qDB9 (a0:C16X) (b0:Cls) (c0:C16X->Prop) (d0:Tar):=(C16X.d a0=false->(decide (qDBz b0)=true->∃(x_4:C16X),c0 x_4/\x_4.2+Xd<=a0.2/\true=true/\(qDB5 a0 x_4)/\(qDB6 d0)/\(qDB8 a0 b0 x_4)/\True)/\(decide (qDBz b0)=false->Ex.sz (qDB7 b0)+Xd<=Zre/\(decide (Zmn b0)=true->∃(x_4:C16X),c0 x_4/\x_4.2+Xd<=a0.2/\true=true/\(qDB5 a0 x_4)/\(qDB6 d0)/\(qDB8 a0 b0 x_4)/\True)/\(decide (Zmn b0)=false->∃(x_4:C16X),c0 x_4/\x_4.2+Xd<=a0.2/\true=true/\(qDBg a0 x_4)/\(qDB6 d0)/\(qDB8 a0 b0 x_4)/\True)))
abbrev Zwi (a0:C16X):=(qDBn=qDBn/\List.length (C16X.W a0)=List.length (C16X.W a0)/\True)
abbrev qDB2 (a0:C16X) (b0:Tar) (c0:Int) (d0:C16X->Prop):=(decide ((U3 a0)<(qDBt b0))=true->U4<=(U3 a0)/\(U3 a0)+Zct<=(qDBt b0)/\∀(x_2:Cls),(Tar.clauses b0)[Int.toNat (U3 a0)]? =some x_2->∃(R_1:KX->Prop),(∃(x_3:KX),R_1 x_3/\true=true/\((Zwi a0)/\Cls.name x_2=Cls.name x_2/\U4=(qDBp x_3)/\True)/\(Zwh a0)/\True)/\∀(x_3:KX),R_1 x_3->(decide ((qDBp x_3)<(Zmm a0))=true->(U4<=(qDBp x_3)/\(qDBp x_3)+Zct<=(Zmm a0))/\qDBn+Int.toNat (qDBp x_3)+Xd<=List.length (C16X.W a0)/\∀(x_4:List Nat),(C16X.W a0)[qDBn+Int.toNat (qDBp x_3)]? =some x_4->((x_4==Cls.name x_2)=true->(Z0q x_3 c0)/\(decide ((qDBp x_3)>=U4)=false->(qDBe a0)/\(C16X.d a0=true->∃(x_5:C16X),d0 x_5/\x_5.2+Xd<=a0.2/\true=true/\(qDB5 a0 x_5)/\(qDB6 b0)/\(qDB8 a0 x_2 x_5)/\True)/\(C16X.d a0=false->(decide (qDBz x_2)=true->∃(x_5:C16X),d0 x_5/\x_5.2+Xd<=a0.2/\true=true/\(qDB5 a0 x_5)/\(qDB6 b0)/\(qDB8 a0 x_2 x_5)/\True)/\(decide (qDBz x_2)=false->Ex.sz (qDB7 x_2)+Xd<=Zre/\(decide (Zmn x_2)=true->∃(x_5:C16X),d0 x_5/\x_5.2+Xd<=a0.2/\true=true/\(qDB5 a0 x_5)/\(qDB6 b0)/\(qDB8 a0 x_2 x_5)/\True)/\(decide (Zmn x_2)=false->∃(x_5:C16X),d0 x_5/\x_5.2+Xd<=a0.2/\true=true/\(qDBg a0 x_5)/\(qDB6 b0)/\(qDB8 a0 x_2 x_5)/\True)))))/\((x_4==Cls.name x_2)=false->∃(x_5:KX),R_1 x_5/\x_5.2+Xd<=x_3.2/\true=true/\((Zwi a0)/\Cls.name x_2=Cls.name x_2/\wr IntKind.i64 ((qDBp x_3)+Zct)=(qDBp x_5)/\True)/\(Zwh a0)/\True))/\(decide ((qDBp x_3)<(Zmm a0))=false->(qDBe a0)/\(C16X.d a0=true->∃(x_4:C16X),d0 x_4/\x_4.2+Xd<=a0.2/\true=true/\(qDB5 a0 x_4)/\(qDB6 b0)/\(qDB8 a0 x_2 x_4)/\True)/\(qDB9 a0 x_2 d0 b0)))
abbrev qDB3 (a0:C16X) (b0:Tar) (c0:Int) (d0:C16X->Prop):=(decide ((U3 a0)<(qDBt b0))=true->U4<=(U3 a0)/\(U3 a0)+Zct<=(qDBt b0)/\∀(x_1:Cls),(Tar.clauses b0)[Int.toNat (U3 a0)]? =some x_1->∃(R_1:KX->Prop),(∃(x_2:KX),R_1 x_2/\true=true/\((Zwi a0)/\Cls.name x_1=Cls.name x_1/\U4=(qDBp x_2)/\True)/\(Zwh a0)/\True)/\∀(x_2:KX),R_1 x_2->(decide ((qDBp x_2)<(Zmm a0))=true->(U4<=(qDBp x_2)/\(qDBp x_2)+Zct<=(Zmm a0))/\qDBn+Int.toNat (qDBp x_2)+Xd<=List.length (C16X.W a0)/\∀(x_3:List Nat),(C16X.W a0)[qDBn+Int.toNat (qDBp x_2)]? =some x_3->((x_3==Cls.name x_1)=true->(Z0q x_2 c0)/\(decide ((qDBp x_2)>=U4)=false->(qDBe a0)/\(C16X.d a0=true->∃(x_4:C16X),d0 x_4/\x_4.2+Xd<=a0.2/\true=true/\(qDB5 a0 x_4)/\(qDB6 b0)/\(qDB8 a0 x_1 x_4)/\True)/\(qDB9 a0 x_1 d0 b0)))/\((x_3==Cls.name x_1)=false->∃(x_4:KX),R_1 x_4/\x_4.2+Xd<=x_2.2/\true=true/\((Zwi a0)/\Cls.name x_1=Cls.name x_1/\wr IntKind.i64 ((qDBp x_2)+Zct)=(qDBp x_4)/\True)/\(Zwh a0)/\True))/\(decide ((qDBp x_2)<(Zmm a0))=false->(qDBe a0)/\(C16X.d a0=true->∃(x_3:C16X),d0 x_3/\x_3.2+Xd<=a0.2/\true=true/\(qDB5 a0 x_3)/\(qDB6 b0)/\(qDB8 a0 x_1 x_3)/\True)/\(C16X.d a0=false->(decide (qDBz x_1)=true->∃(x_3:C16X),d0 x_3/\x_3.2+Xd<=a0.2/\true=true/\(qDB5 a0 x_3)/\(qDB6 b0)/\(qDB8 a0 x_1 x_3)/\True)/\(decide (qDBz x_1)=false->Ex.sz (qDB7 x_1)+Xd<=Zre/\(decide (Zmn x_1)=true->∃(x_3:C16X),d0 x_3/\x_3.2+Xd<=a0.2/\true=true/\(qDB5 a0 x_3)/\(qDB6 b0)/\(qDB8 a0 x_1 x_3)/\True)/\(decide (Zmn x_1)=false->∃(x_3:C16X),d0 x_3/\x_3.2+Xd<=a0.2/\true=true/\(qDBg a0 x_3)/\(qDB6 b0)/\(qDB8 a0 x_1 x_3)/\True)))))
abbrev qDB4:=([toL qDBy,toL Zv8,toL qDBu,toL Zvo,toL Zvl,toL Zvm,toL Zvz,toL Zwc,toL Zvx,toL Zvu,toL Zvv,toL Zvt,toL Zv7,toL Zwf,toL Zwa,toL Zvp,toL Zv4,toL Zwb,toL Zv9,toL Zvy,toL qDBv,toL Zv3,toL Zv1,toL Zv2,toL Zvn,toL Zv6,toL qDBw,toL Zvr,toL Zv0,toL Zvs,toL Zvw,toL Zvk,toL Zwd,toL Zwe,toL Zvq,toL qDBm,toL qDBx,toL Zwg,toL Zv5,toL qDBq]= [toL qDBy,toL Zv8,toL qDBu,toL Zvo,toL Zvl,toL Zvm,toL Zvz,toL Zwc,toL Zvx,toL Zvu,toL Zvv,toL Zvt,toL Zv7,toL Zwf,toL Zwa,toL Zvp,toL Zv4,toL Zwb,toL Zv9,toL Zvy,toL qDBv,toL Zv3,toL Zv1,toL Zv2,toL Zvn,toL Zv6,toL qDBw,toL Zvr,toL Zv0,toL Zvs,toL Zvw,toL Zvk,toL Zwd,toL Zwe,toL Zvq,toL qDBm,toL qDBx,toL Zwg,toL Zv5,toL qDBq]/\qDBn=qDBn)
abbrev qDBi (a0:C16X) (b0:Tar) (c0:Int):=(decide ((U3 a0)<(qDBt b0))=false->(C16X.d a0=true->(2:Int)=c0)/\(C16X.d a0=false->U4=c0))
abbrev Zak:=(40:Nat)
abbrev Z4x (a0:C16X->Prop) (b0:Tar):=(∃(x:C16X),a0 x/\true=true/\(qDBn=qDBn/\(qDBn=qDBn/\Zak=List.length (C16X.W x)/\True)/\false=C16X.d x/\U4=(U3 x)/\True)/\(qDB6 b0)/\(qDB1 x)/\True)
abbrev Z4y (a0:C16X->Prop) (b0:Tar):=(∃(x:C16X),a0 x/\true=true/\(qDBn=qDBn/\(qDBn=qDBn/\Zak=List.length (C16X.W x)/\True)/\true=C16X.d x/\U4=(U3 x)/\True)/\(qDB6 b0)/\(qDB1 x)/\True)
theorem Z0r (t:Tar) (v:Int):Zf E Fc16 (vc E Fc16 400) 25 [tarA t] hp0 0 (fun r=>ret E (patch hp0 0 r) r.v (.int false .i64 v))=(
 ((∀(c:Cls),c∈Tar.clauses t->Ex.sz (Cls.pay c)+Xd<=(1000000000:Nat)/\List.length (Cls.when_ c)+Xd<=Zre)/\List.length (Tar.clauses t)+Xd<=Zre)/\((!tarF t)=true->Zct=v)/\((!tarF t)=false->∃(R:KX->Prop),(∃(x:KX),R x/\true=true/\((qDBn=qDBn/\Zak=Zak/\Zak=Zak)/\Tar.name t=Tar.name t/\U4=(qDBp x)/\True)/\qDB4/\True)/\∀(x:KX),R x->(decide ((qDBp x)<(↑Zak:Int))=true->(U4<=(qDBp x)/\(qDBp x)+Zct<=(↑Zak:Int))/\qDBn+Int.toNat (qDBp x)+Xd<=Zak/\∀(x_1:List Nat),[toL qDBy,toL Zv8,toL qDBu,toL Zvo,toL Zvl,toL Zvm,toL Zvz,toL Zwc,toL Zvx,toL Zvu,toL Zvv,toL Zvt,toL Zv7,toL Zwf,toL Zwa,toL Zvp,toL Zv4,toL Zwb,toL Zv9,toL Zvy,toL qDBv,toL Zv3,toL Zv1,toL Zv2,toL Zvn,toL Zv6,toL qDBw,toL Zvr,toL Zv0,toL Zvs,toL Zvw,toL Zvk,toL Zwd,toL Zwe,toL Zvq,toL qDBm,toL qDBx,toL Zwg,toL Zv5,toL qDBq][qDBn+Int.toNat (qDBp x)]? =some x_1->((x_1==Tar.name t)=true->(Z0q x v)/\(decide ((qDBp x)>=U4)=false->(decide ((qDBt t)>(64:Int))=true->∃(R:C16X->Prop),(Z4y R t)/\∀(x:C16X),R x->(qDB2 x t v R)/\(qDBi x t v))/\(decide ((qDBt t)>(64:Int))=false->∃(R:C16X->Prop),(Z4x R t)/\∀(x:C16X),R x->(qDB2 x t v R)/\(qDBi x t v))))/\((x_1==Tar.name t)=false->∃(x_2:KX),R x_2/\x_2.2+Xd<=x.2/\true=true/\((qDBn=qDBn/\Zak=Zak/\Zak=Zak)/\Tar.name t=Tar.name t/\wr IntKind.i64 ((qDBp x)+Zct)=(qDBp x_2)/\True)/\qDB4/\True))/\(decide ((qDBp x)<(↑Zak:Int))=false->(decide ((qDBt t)>(64:Int))=true->∃(R:C16X->Prop),(Z4y R t)/\∀(x:C16X),R x->(qDB3 x t v R)/\(qDBi x t v))/\(decide ((qDBt t)>(64:Int))=false->∃(R:C16X->Prop),(Z4x R t)/\∀(x:C16X),R x->(qDB3 x t v R)/\(qDBi x t v))))):=by kernel_rfl
theorem Z0s: [toL (ByteArray.mk #[(116:UInt8),(97:UInt8),(114:UInt8),(105:UInt8),(102:UInt8),(102:UInt8)]),toL (ByteArray.mk #[(102:UInt8),(111:UInt8),(114:UInt8)]),toL (ByteArray.mk #[(99:UInt8),(108:UInt8),(97:UInt8),(117:UInt8),(115:UInt8),(101:UInt8)]),toL (ByteArray.mk #[(119:UInt8),(104:UInt8),(101:UInt8),(110:UInt8)]),toL (ByteArray.mk #[(97:UInt8),(110:UInt8),(100:UInt8)]),toL (ByteArray.mk #[(105:UInt8),(110:UInt8)]),toL (ByteArray.mk #[(105:UInt8),(115:UInt8)]),toL (ByteArray.mk #[(112:UInt8),(97:UInt8),(121:UInt8)]),toL (ByteArray.mk #[(109:UInt8),(105:UInt8),(110:UInt8)]),toL (ByteArray.mk #[(109:UInt8),(97:UInt8),(120:UInt8)]),toL (ByteArray.mk #[(100:UInt8),(111:UInt8),(119:UInt8),(110:UInt8)]),toL (ByteArray.mk #[(117:UInt8),(112:UInt8)]),toL (ByteArray.mk #[(104:UInt8),(97:UInt8),(108:UInt8),(102:UInt8)]),toL (ByteArray.mk #[(105:UInt8),(102:UInt8)]),toL (ByteArray.mk #[(109:UInt8),(111:UInt8),(110:UInt8),(101:UInt8),(121:UInt8)]),toL (ByteArray.mk #[(109:UInt8),(105:UInt8),(110:UInt8),(117:UInt8),(116:UInt8),(101:UInt8)]),toL (ByteArray.mk #[(112:UInt8),(101:UInt8),(114:UInt8)]),toL (ByteArray.mk #[(107:UInt8),(103:UInt8)]),toL (ByteArray.mk #[(116:UInt8),(121:UInt8),(112:UInt8),(101:UInt8)]),toL (ByteArray.mk #[(111:UInt8),(119:UInt8),(110:UInt8),(101:UInt8),(114:UInt8)]),toL (ByteArray.mk #[(114:UInt8),(97:UInt8),(105:UInt8),(108:UInt8),(119:UInt8),(97:UInt8),(121:UInt8)]),toL (ByteArray.mk #[(115:UInt8),(104:UInt8),(105:UInt8),(112:UInt8),(112:UInt8),(101:UInt8),(114:UInt8)]),toL (ByteArray.mk #[(99:UInt8),(108:UInt8),(97:UInt8),(115:UInt8),(115:UInt8)]),toL (ByteArray.mk #[(119:UInt8),(101:UInt8),(105:UInt8),(103:UInt8),(104:UInt8),(116:UInt8)]),toL (ByteArray.mk #[(107:UInt8),(109:UInt8)]),toL (ByteArray.mk #[(109:UInt8),(105:UInt8),(110:UInt8),(117:UInt8),(116:UInt8),(101:UInt8),(115:UInt8)]),toL (ByteArray.mk #[(119:UInt8),(111:UInt8),(114:UInt8),(107:UInt8),(105:UInt8),(110:UInt8),(103:UInt8)]),toL (ByteArray.mk #[(99:UInt8),(111:UInt8),(100:UInt8),(101:UInt8)]),toL (ByteArray.mk #[(119:UInt8),(111:UInt8),(114:UInt8),(116:UInt8),(104:UInt8)]),toL (ByteArray.mk #[(99:UInt8),(111:UInt8),(115:UInt8),(116:UInt8)]),toL (ByteArray.mk #[(109:UInt8),(111:UInt8),(110:UInt8),(116:UInt8),(104:UInt8)]),toL (ByteArray.mk #[(98:UInt8),(101:UInt8),(103:UInt8),(105:UInt8),(110:UInt8)]),toL (ByteArray.mk #[(112:UInt8),(97:UInt8),(114:UInt8),(116:UInt8),(115:UInt8)]),toL (ByteArray.mk #[(112:UInt8),(97:UInt8),(114:UInt8),(116:UInt8)]),toL (ByteArray.mk #[(104:UInt8),(105:UInt8),(114:UInt8),(101:UInt8)]),toL (ByteArray.mk #[(100:UInt8),(101:UInt8),(109:UInt8),(117:UInt8),(114:UInt8),(114:UInt8),(97:UInt8),(103:UInt8),(101:UInt8)]),toL (ByteArray.mk #[(102:UInt8),(114:UInt8),(101:UInt8),(105:UInt8),(103:UInt8),(104:UInt8),(116:UInt8)]),toL (ByteArray.mk #[(114:UInt8),(101:UInt8),(112:UInt8),(97:UInt8),(105:UInt8),(114:UInt8)]),toL (ByteArray.mk #[(108:UInt8),(111:UInt8),(115:UInt8),(115:UInt8)]),toL (ByteArray.mk #[(99:UInt8),(108:UInt8),(101:UInt8),(97:UInt8),(110:UInt8),(105:UInt8),(110:UInt8),(103:UInt8)])]=resW:=by decide+kernel
def go16:Bool->List (List Nat)->List Cls->Int
 |d,_,[]=>if d=true then 2 else 0
 |d,W,c::r=>if c.name∈W then 161 else go16 (d||decide (8<c.when_.length)||decide (24<Yc c.pay)) (W++ [c.name]) r
def Zj4 (t:Tar):Int:=if tarF t=true then (if t.name∈resW then 161 else go16 (decide (64<t.clauses.length)) resW t.clauses) else 1
theorem Zhg:∀(l:List Cls) (b:Bool) (m:List (List Nat×Bool)),l.all Y4=true->goC true b m l=161
 | [],_,_,_=>rfl
 |c::r,b,m,h=>by
  rw [List.all_cons,Bool.and_eq_true] at h
  rw [Uu,if_pos h.1,Bool.true_or,Bool.true_or]
  exact Zhg r _ _ h.2
theorem Z2x:∀(l:List Cls) (b:Bool) (m:List (List Nat×Bool)) (W:List (List Nat)),l.all Y4=true->(∀s,s∈W↔s∈resW\/Yi m s=some true)->goC false b m l=go16 b W l
 | [],b,m,W,_,_=>by rw [goC,go16,if_neg (by decide)]
 |c::r,b,m,W,h,hW=>by
  rw [List.all_cons,Bool.and_eq_true] at h
  rw [Uu,if_pos h.1,go16]
  by_cases hc:c.name∈W
  · rw [if_pos hc]
    have:(false||resF c.name||(Yi m c.name).getD false)=true:=by
     rcases (hW _).1 hc with h1|h1
     · rw [show resF c.name=true from decide_eq_true h1];simp
     · rw [h1];simp
    rw [this]
    exact Zhg r _ _ h.2
  · rw [if_neg hc]
    have h1:¬c.name∈resW:=fun h=>hc ((hW _).2 (.inl h))
    have h2:(Yi m c.name).getD false=false:=by
     cases hl:Yi m c.name with
     |none=>rfl
     |some v=>
      cases v with
      |false=>rfl
      |true=>exact absurd ((hW _).2 (.inr hl)) hc
    rw [show resF c.name=false from decide_eq_false h1,h2]
    refine Z2x r _ _ _ h.2 fun s=> ?_
    rw [Zbu,List.mem_append,hW s,List.mem_singleton]
    by_cases e:c.name=s
    · rw [if_pos e];exact ⟨fun _=> .inr rfl,fun _=> .inr e.symm⟩
    · rw [if_neg e];exact ⟨fun h=>h.elim id fun h=>absurd h.symm e,.inl⟩
theorem Zwj:∀(l:List Cls) (a b:Bool) (m:List (List Nat×Bool)),l.all Y4=false->goC a b m l=1
 | [],_,_,_,h=>by cases h
 |c::r,a,b,m,h=>by
  rw [Uu]
  by_cases hc:Y4 c=true
  · rw [List.all_cons,hc,Bool.true_and] at h
    rw [if_pos hc];exact Zwj r _ _ _ h
  · rw [if_neg hc]
theorem Z0t (t:Tar):Zj4 t=Ye t:=by
 unfold Zj4 Ye tarF
 by_cases h:Xk t.name=true/\1<=t.for_/\t.for_<=6
 · rw [if_pos h,h.1,decide_eq_true h.2,Bool.true_and,Bool.true_and]
   cases ha:t.clauses.all Y4 with
   |false=>rw [if_neg (by decide),Zwj _ _ _ _ ha]
   |true=>
    rw [if_pos rfl]
    by_cases hr:t.name∈resW
    · rw [if_pos hr,show resF t.name=true from decide_eq_true hr,Zhg _ _ _ ha]
    · rw [if_neg hr,show resF t.name=false from decide_eq_false hr]
      exact (Z2x _ _ _ _ ha fun s=>⟨.inl,fun h=>h.elim id fun h=>by cases h⟩).symm
 · rw [if_neg h,if_neg]
   intro h'
   simp only [Bool.and_eq_true,decide_eq_true_eq] at h'
   exact h ⟨h'.1.1,h'.1.2⟩
theorem Z0u (t:Tar) (hs:Zs7 t):PureC E 25 [tarA t] (.int false .i64 (Zj4 t)):=by
 refine Za E_ok (Ze E_ok Z4w 400) ?_
 rw [Z0r];delta qDBa qDBc Zj3 qDBd Zvk qDBf Zvl Zvm qDBr Zvn qDBo qDBs Zvo qDBh Zvp qDBb Zvq qDBj Zvr qDBk Zvs qDBl Zvt Zvu Zvv Zvw Zvx Zvy Zvz qDBw Zv0 Zmk Zv1 qDBm Zv2 Zv3 qDBu Zml qDBy Zv4 Zv5 Zv6 Zv7 qDBv qDBq Zv8 Zv9 Zwa qDBn Zwb Zwc Zwd Zwe qDBx Zwf Zwg qDB1 Zwh qDBt qDBz qDBp qDB7 Zct U3 Xd qDB5 qDBe U4 Z0q qDB6 qDBg qDB8 Zmm Zre Zmn qDB9 Zwi qDB2 qDB3 qDB4 qDBi Zak Z4x Z4y
 rw [Z0s]
 simp only [Zz,Zt,Y9,Xa,Xb,beq_iff_eq,bne_iff_ne,beq_eq_false_iff_ne,bne_eq_false_iff_eq,decide_eq_true_eq,decide_eq_false_iff_not,Bool.or_eq_true,Bool.or_eq_false_iff,Bool.not_eq_true',Bool.not_eq_false',Bool.and_eq_true,Bool.and_true,Bool.true_and,Bool.and_eq_false_iff,beq_self_eq_true,Z3,Z4,ne_eq,and_true,true_and,Bool.true_eq_false,Bool.false_eq_true,false_or,or_false,true_implies,imp_self,Int.ofNat_eq_natCast,not_true_eq_false,not_false_eq_true,Decidable.not_not,List.getElem?_cons_zero,List.getElem?_cons_succ,Option.some.injEq,forall_eq',forall_eq,List.set_cons_zero,List.set_cons_succ,List.length_cons,List.length_nil,List.getD_cons_zero,List.getD_cons_succ,tn0,tn1,tn2,tn3,Int.le_refl,Nat.le_refl,Nat.reduceAdd,Int.reduceAdd,Int.reduceLE,Nat.reduceLeDiff,cn4,cn16,Ex.eta,List.take_succ_cons,List.take_zero,List.take_length,reduceCtorEq,Nat.zero_add,false_implies]
 refine ⟨⟨fun c hc=>And.intro (by have:=(hs.1 c hc).1;omega) (by have:=(hs.1 c hc).2;omega),by have:=hs.2;omega⟩,fun h=>by unfold Zj4;rw [h];rfl,fun hf=> ?_⟩
 have e1:t.name∈resW->Zj4 t=161:=fun h=>by unfold Zj4;rw [if_pos hf,if_pos h]
 have e2:¬t.name∈resW->Zj4 t=go16 (decide (64<t.clauses.length)) resW t.clauses:=fun h=>by unfold Zj4;rw [if_pos hf,if_neg h]
 have r40:resW.length=40:=by decide
 have bs:=hs.2
 refine ⟨fun z=>z.k+z.r=40/\∀i,i<z.k->∀y,resW[i]? =some y->y≠t.name,⟨⟨0,40⟩,⟨rfl,fun i h=>absurd h (Nat.not_lt_zero _)⟩,rfl⟩,fun z hz=>⟨fun hk=>⟨And.intro (by omega) (by omega),by omega,fun y hy=>⟨fun hyn=>⟨fun _=>(e1 (by rw [<-hyn];exact List.mem_of_getElem? hy)).symm,fun h=>absurd (by omega) h⟩,fun hyn=>⟨⟨z.k+1,z.r-1⟩,⟨by dsimp only;omega,fun i hi y' hy'=> ?_⟩,by dsimp only;omega,?_⟩⟩⟩,fun hk=> ?_⟩⟩
 · rw [Int.toNat_natCast] at hy
   rcases Nat.lt_succ_iff_lt_or_eq.1 hi with h|h
   · exact hz.2 i h y' hy'
   · rw [h,hy] at hy';cases hy';exact hyn
 · dsimp only
   exact (wr64 (by omega) (by omega)).trans (by omega)
 have hnn:¬t.name∈resW:=fun h=>by
  obtain ⟨i,hi⟩:=List.mem_iff_getElem?.1 h
  exact hz.2 i (by have:=(List.getElem?_eq_some_iff.1 hi).1;omega) _ hi rfl
 rw [e2 hnn]
 clear e1 e2 hz hk
 generalize hV:go16 (decide (64<t.clauses.length)) resW t.clauses=V
 refine And.intro (fun h64=>⟨fun z=>z.k+z.r=t.clauses.length/\z.W.length=40+z.k/\V=go16 z.d z.W (t.clauses.drop z.k),⟨⟨0,t.clauses.length,true,resW⟩,⟨Nat.zero_add _,r40,by rw [<-hV,decide_eq_true (show 64<t.clauses.length by omega)];rfl⟩,⟨r40.symm,rfl,rfl⟩,rfl⟩,fun z hz=> ?_⟩)
  (fun h64=>⟨fun z=>z.k+z.r=t.clauses.length/\z.W.length=40+z.k/\V=go16 z.d z.W (t.clauses.drop z.k),⟨⟨0,t.clauses.length,false,resW⟩,⟨Nat.zero_add _,r40,by rw [<-hV,decide_eq_false (show ¬64<t.clauses.length by omega)];rfl⟩,⟨r40.symm,rfl,rfl⟩,rfl⟩,fun z hz=> ?_⟩)
 all_goals
  obtain ⟨hz1,hz2,hz3⟩:=hz
  refine And.intro (fun hk=>⟨by omega,by omega,fun c hc=> ?_⟩) (fun hk=> ?_)
  · rw [Int.toNat_natCast] at hc
    have hcs:=hs.1 c (List.mem_of_getElem? hc)
    have hd:go16 z.d z.W (t.clauses.drop z.k)=if c.name∈z.W then 161 else go16 (z.d||decide (8<c.when_.length)||decide (24<Yc c.pay)) (z.W++ [c.name]) (t.clauses.drop (z.k+1)):=by rw [Wm hc,go16]
    refine ⟨fun y=>y.k+y.r=z.W.length/\∀i,i<y.k->∀s,z.W[i]? =some s->s≠c.name,⟨⟨0,z.W.length⟩,⟨Nat.zero_add _,fun i h=>absurd h (Nat.not_lt_zero _)⟩,rfl⟩,fun y hy=>And.intro (fun hk2=>⟨And.intro (by omega) (by omega),by omega,fun s hs'=>And.intro (fun hsn=>And.intro (fun _=> ?_) (fun h=>absurd (by omega) h)) (fun hsn=>⟨⟨y.k+1,y.r-1⟩,⟨by dsimp only;omega,fun i hi s' hs2=> ?_⟩,by dsimp only;omega,?_⟩)⟩) (fun hk2=> ?_)⟩
    · rw [hz3,hd,if_pos (by rw [<-hsn];exact List.mem_of_getElem? hs')]
    · rw [Int.toNat_natCast] at hs'
      rcases Nat.lt_succ_iff_lt_or_eq.1 hi with h|h
      · exact hy.2 i h s' hs2
      · rw [h,hs'] at hs2;cases hs2;exact hsn
    · dsimp only
      exact (wr64 (by omega) (by omega)).trans (by omega)
    have hnin:¬c.name∈z.W:=fun h=>by
     obtain ⟨i,hi⟩:=List.mem_iff_getElem?.1 h
     exact hy.2 i (by have:=(List.getElem?_eq_some_iff.1 hi).1;omega) _ hi rfl
    rw [if_neg hnin] at hd
    have step:∀b,(z.d||decide (8<c.when_.length)||decide (24<Yc c.pay))=b->∃x5:C16X,(x5.k+x5.r=t.clauses.length/\x5.W.length=40+x5.k/\V=go16 x5.d x5.W (t.clauses.drop x5.k))/\x5.r+1<=z.r/\(z.W.length+1=x5.W.length/\b=x5.d/\wr IntKind.i64 ((z.k:Int)+1)=(x5.k:Int))/\z.W++ [c.name]=x5.W:=fun b hb=>by
     refine ⟨⟨z.k+1,z.r-1,b,z.W++ [c.name]⟩,⟨by dsimp only;omega,by dsimp only;rw [List.length_append,hz2,List.length_singleton,Nat.add_assoc],by rw [hz3,hd,hb]⟩,by dsimp only;omega,⟨by rw [List.length_append,List.length_singleton],rfl,?_⟩,rfl⟩
     dsimp only
     exact (wr64 (by omega) (by omega)).trans (by omega)
    refine And.intro (And.intro (by omega) (by omega)) (And.intro (fun hdt=>step true (by rw [hdt];simp)) (fun hdf=>And.intro (fun h8=>step true (by rw [hdf,decide_eq_true (show 8<c.when_.length by omega)];simp)) (fun h8=>And.intro (by omega) (And.intro (fun h24=>step true (by rw [decide_eq_true (show 24<Yc c.pay by omega)];simp)) (fun h24=>step false (by rw [hdf,decide_eq_false (show ¬8<c.when_.length by omega),decide_eq_false (show ¬24<Yc c.pay by omega)];rfl))))))
  · rw [List.drop_of_length_le (by omega)] at hz3
    refine And.intro (fun h=> ?_) (fun h=> ?_)
    · rw [hz3,h];rfl
    · rw [hz3,h];rfl
end
section
open Go
noncomputable def Src:Sum thy:=Z1c E Th.ins dClk (fun (l:List Ins) x=>RcP x.1 x.2.1.toNat l/\0<=x.2.1) fun (l:List Ins) x=>l++cdC x.1 x.2.1.toNat l.length
theorem Z7n:SumOk E 26 Src:=Zo8 E_ok (Zc rfl) fun x l fz hf hp=>by
 obtain ⟨c,n,_⟩:=x
 obtain ⟨⟨h1,h2,h3⟩,h4⟩:=hp
 have h4:0<=n:=h4
 have:=Z6o (fz:=fz) (k:=n.toNat) hf h1 h2 h3
 rw [Int.toNat_of_nonneg h4] at this
 exact Zcm E_ok (Yf E_ok Z2r fun f N c=>(Zay E_ok Z2r 400 f N c).1) rfl this
noncomputable def Z24:Sum thy:=sumP dTar (fun x=>Zs7 x.1) fun x=> .int false .i64 (Ye x.1)
theorem Zxr:SumOk E 25 Z24:=Zp E_ok (Zc (f:=25) rfl) fun x h=>by
 have:=Z0u x.1 h
 rw [Z0t] at this
 exact this
theorem Zxs:SumOk E 27 Zt0:=Vx E_ok (Zp E_ok (Zc (f:=27) rfl) fun x _=>Zhb x.1)
noncomputable def Arcp:Fr thy->Hp thy->Nat->Ann thy:=fun T h i=>{X:=CpX,fr:=fun x=> [(1,T 1),(5,.sl i 0 x.L.length 3 none),(6,.int false .i64 x.k)],bl:=fun x=>(i,.rows Th.ins x.L 0)::blkP h (T 1),src:=fun _=> [(i,5)],md:= [bOf (T 5)],ih:=i+1,M:=i+60,meas:=fun x=>x.r}
noncomputable def Frcp:Fns thy:=addL (addS (addS (addS F0 26 Src) 25 Z24) 27 Zt0) 11 6 Arcp E
abbrev qDC1 (a0:Cls):=(Ex.mk (Ex.op (Cls.pay a0)) (Ex.n (Cls.pay a0)) (Ex.d0 (Cls.pay a0)) (Ex.d1 (Cls.pay a0)) (Ex.d2 (Cls.pay a0)) (Ex.d3 (Cls.pay a0)) (Ex.l (Cls.pay a0)))
abbrev qDC2 (a0:CpX):=(List.length (CpX.L a0)+(1:Nat))
abbrev qDC3 (a0:Tar):=(Tar.name a0=Tar.name a0/\Tar.for_ a0=Tar.for_ a0/\(Tar.clauses a0=Tar.clauses a0/\(false=true->false=true))/\True)
abbrev qDC4 (a0:CpX):=(↑(CpX.k a0):Int)
abbrev qDC5:=(0:Nat)
abbrev qDC6:=(0:Int)
abbrev qDC7 (a0:Tar):=(↑(List.length (Tar.clauses a0)):Int)
theorem Zid (t:Tar) (l:List Ins) (e:Int):Zf E Frcp (vc E Frcp 400) 11 [.agg (encF false .tariffs t)] hp0 0 (fun r=>ret E (patch hp0 0 r) r.v (.tup [.psl Th.ins l false,.int false .i64 e]))=(
 ((∀(c:Cls),c∈Tar.clauses t->Ex.sz (Cls.pay c)+(1:Nat)<=(1000000000:Nat)/\List.length (Cls.when_ c)+(1:Nat)<=(1000000000000:Nat))/\List.length (Tar.clauses t)+(1:Nat)<=(1000000000000:Nat))/\((Ye t !=qDC6)=true->l= []/\Ye t=e/\True)/\((Ye t !=qDC6)=false->∃(R:CpX->Prop),(∃(x:CpX),R x/\true=true/\(qDC5=qDC5/\(qDC5=qDC5/\qDC5=List.length (CpX.L x)/\True)/\qDC6=(qDC4 x)/\True)/\ []=CpX.L x/\(qDC3 t)/\True)/\∀(x:CpX),R x->(decide ((qDC4 x)<(qDC7 t))=true->qDC6<=(qDC4 x)/\(qDC4 x)+(1:Int)<=(qDC7 t)/\∀(x_1:Cls),(Tar.clauses t)[Int.toNat (qDC4 x)]? =some x_1->(List.length (CpX.L x)=List.length (CpX.L x)/\qDC5<=List.length (CpX.L x)/\(Ex.sz (qDC1 x_1)+(1:Nat)<=(1000000000:Nat)/\Zj (qDC1 x_1)=true/\List.length (CpX.L x)+List.length (cdC (Cls.mk (Cls.name x_1) (Cls.when_ x_1) (qDC1 x_1)) (Int.toNat (qDC4 x)) (List.length (CpX.L x)))<=(1000000000:Nat))/\qDC6<=(qDC4 x))/\∀(l':List Ins),l'=CpX.L x++cdC (Cls.mk (Cls.name x_1) (Cls.when_ x_1) (qDC1 x_1)) (Int.toNat (qDC4 x)) (List.length (CpX.L x))->∃(x_2:CpX),R x_2/\x_2.2+(1:Nat)<=x.2/\true=true/\(qDC5=qDC5/\(qDC5=qDC5/\List.length l'=List.length (CpX.L x_2)/\True)/\wr IntKind.i64 ((qDC4 x)+(1:Int))=(qDC4 x_2)/\True)/\(l'=CpX.L x_2/\qDC5=qDC5)/\(qDC3 t)/\True)/\(decide ((qDC4 x)<(qDC7 t))=false->(List.length (CpX.L x)<=List.length (CpX.L x)/\qDC5<=List.length (CpX.L x)/\(qDC2 x)*(24:Nat)<=(140737488355328:Nat))/\∀(l':List Ins),l'=List.take (List.length (CpX.L x)) (CpX.L x)++ [Ins.mk (16:Int) qDC6 qDC6]->qDC5+(qDC2 x)<=List.length l'/\True/\((Prod.snd (verF (List.take (qDC2 x) (List.drop qDC5 l'))) !=qDC6)=true->l= []/\(2:Int)=e/\True)/\((Prod.snd (verF (List.take (qDC2 x) (List.drop qDC5 l'))) !=qDC6)=false->(qDC5+(qDC2 x)<=List.length l'/\List.take (qDC2 x) l'=l)/\qDC6=e/\True)))):=by kernel_rfl
theorem Z5p:FnsOk E Frcp:=Zl E_ok (Zb (Zb (Zb F0_ok Z7n) Zxr) Zxs) _ _ _
theorem Zie (t:Tar) (h:SmK t):PureC E 11 [.agg (encF false .tariffs t)] (.tup [.psl Th.ins (Zk t).1 false,.int false .i64 (Zk t).2]):=by
 refine Za E_ok (Ze E_ok Z5p 400) ?_
 rw [Zid];delta qDC1 qDC2 qDC3 qDC4 qDC5 qDC6 qDC7
 obtain ⟨h1,h2⟩:=h
 simp only [Cls.eta,Ex.eta]
 refine ⟨⟨fun c hc=>⟨by have:=(h1 c hc).1;omega,by have:=(h1 c hc).2;omega⟩,by omega⟩,fun hn=> ?_,fun hz=> ?_⟩
 · have hn:Ye t≠0:=by simpa using hn
   unfold Zk
   rw [if_neg hn]
   exact ⟨rfl,rfl,trivial⟩
 · have hz:Ye t=0:=by simpa using hz
   obtain ⟨c1,c2,c3⟩:=Zw7 hz
   have hall:∀c∈t.clauses,Zj c.pay=true/\c.pay.sz<=10000/\c.when_.length<=8:=fun c hc=>⟨(c1 c hc).1,(h1 c hc).1,c3 c hc⟩
   have hlen:∀k,(cdCs (t.clauses.take k) 0 0).length<=30025*64:=fun k=>by
    have a:=Zhv (k:=0) (o:=0) (fun c hc=>hall c (List.mem_of_mem_take hc):∀c∈t.clauses.take k,_)
    have b:(t.clauses.take k).length<=64:=by rw [List.length_take];omega
    have e:(3*10000+25)*(t.clauses.take k).length<=(3*10000+25)*64:=Nat.mul_le_mul_left _ b
    omega
   have hstep:∀k c,t.clauses[k]? =some c->cdCs (t.clauses.take (k+1)) 0 0=cdCs (t.clauses.take k) 0 0++cdC c k (cdCs (t.clauses.take k) 0 0).length:=fun k c hc=>by
    have ek:t.clauses.take (k+1)=t.clauses.take k++ [c]:=by rw [List.take_add_one,hc];rfl
    have hk:k<t.clauses.length:=(List.getElem?_eq_some_iff.1 hc).1
    have el:0+(t.clauses.take k).length=k:=by rw [List.length_take];omega
    rw [ek,Zhj,el,Nat.zero_add]
   have vr:=Zok c1 c2
   have f1:((verF (cdT t)).2 !=0)=true->(Zk t).1= []/\(2:Int)=(Zk t).2/\True:=by
    intro q
    rw [vr] at q
    unfold Zk
    rw [if_pos hz]
    by_cases g:4096<(cdT t).length\/64<dCs t.clauses
    · rw [if_pos g];exact ⟨rfl,rfl,trivial⟩
    · rw [if_neg g] at q;simp at q
   have f2:((verF (cdT t)).2 !=0)=false->cdT t=(Zk t).1/\(0:Int)=(Zk t).2:=by
    intro q
    rw [vr] at q
    unfold Zk
    rw [if_pos hz]
    by_cases g:4096<(cdT t).length\/64<dCs t.clauses
    · rw [if_pos g] at q;simp at q
    · rw [if_neg g];exact ⟨rfl,rfl⟩
   refine ⟨fun y=>y.k<=t.clauses.length/\y.L=cdCs (t.clauses.take y.k) 0 0/\y.r=t.clauses.length-y.k,⟨⟨0,t.clauses.length,[]⟩,⟨Nat.zero_le _,rfl,rfl⟩,by simp⟩,?_⟩
   rintro ⟨k,r,L⟩ ⟨k1,k2,k3⟩
   simp only at k1 k2 k3⊢
   have hlk:=hlen k
   rw [<-k2] at hlk
   refine ⟨fun q=>⟨by omega,by have:=of_decide_eq_true q;omega,fun c hc=> ?_⟩,fun q=> ?_⟩
   · have q:=of_decide_eq_true q
     have hc:t.clauses[k]? =some c:=hc
     have hm:=hall c (List.mem_of_getElem? hc)
     have hs:=hstep k c hc
     have hl:=hlen (k+1)
     rw [hs,<-k2,List.length_append] at hl
     rw [<-k2] at hs
     have tk:Int.toNat (↑k:Int)=k:=by omega
     rw [tk]
     refine ⟨⟨trivial,Nat.zero_le _,⟨by omega,hm.1,by omega⟩,by omega⟩,fun l' el=>⟨⟨k+1,t.clauses.length-(k+1),l'⟩,⟨by dsimp only;omega,by rw [el];exact hs.symm,rfl⟩,(by show t.clauses.length-(k+1)+1<=r;omega),?_⟩⟩
     have w1:wr .i64 ((↑k:Int)+1)=↑(k+1):=(wr64 (by omega) (by omega)).trans (by omega)
     simp [w1]
   · have q:=of_decide_eq_false q
     obtain rfl:k=t.clauses.length:=by omega
     refine ⟨⟨Nat.le_refl _,Nat.zero_le _,by omega⟩,fun l' el=> ?_⟩
     rw [List.take_length] at el
     have e:l'=cdT t:=by rw [el,k2,List.take_length];rfl
     have nl:l'.length=L.length+1:=by rw [el];simp
     have e2:List.take (L.length+1) (List.drop 0 l')=cdT t:=by rw [List.drop_zero,<-nl,List.take_length,e]
     have e3:List.take (L.length+1) l'=cdT t:=e2
     rw [e2,e3]
     exact ⟨by omega,trivial,f1,fun q=>⟨⟨by omega,(f2 q).1⟩,(f2 q).2,trivial⟩⟩
end
section
open Go
noncomputable def Zw5:Sum thy:=sumP (dL2V Zou Zou) (fun x=>x.1.length<=1000000000) fun x=> .bool false (Zm2 x.1 x.2.1)
theorem Zr4:SumOk E 12 Zw5:=Zp E_ok (Zc (f:=12) rfl) fun x h=>Zsa x.1 x.2.1 h
noncomputable def FcmC:Fns thy:=Zdn (addS (addS FlC 11 Z2q) 12 Zw5)
theorem Z5d (hs:SumOk E 8 Zi8):FnsOk E FcmC:=Un (Zb (Zb (Z6h hs) (Zip E_ok (Zc (f:=11) rfl) fun x h=>Zie x.1 h)) Zr4)
theorem Z1b (t:Tar) (v:Bool):Zf E FcmC (vc E FcmC 400) 3 [.agg (encF false .tariffs t)] hp0 0 (fun r=>ret E (patch hp0 0 r) r.v (.bool false v))=(
True/\∀(y:Bool),y=Zgt t->((!y)=true->true=v)/\((!y)=false->((∀(c:Cls),c∈Tar.clauses t->Ex.sz (Cls.pay c)<=(10000:Nat)/\List.length (Cls.when_ c)+(1:Nat)<=(1000000000:Nat))/\List.length (Tar.clauses t)+(1:Nat)<=(1000000000:Nat))/\∀(y:List Ins×Int),y=Zk t->((∀(c:Cls),c∈Tar.clauses t->Ex.sz (Cls.pay c)<=(10000:Nat)/\List.length (Cls.when_ c)+(1:Nat)<=(1000000000:Nat))/\List.length (Tar.clauses t)+(1:Nat)<=(1000000000:Nat))/\∀(y_1:List Ins×Int),y_1=Zk t->((Prod.snd y==Prod.snd y_1)=true->List.length (Prod.fst y)<=(1000000000:Nat)/\Zm2 (Prod.fst y) (Prod.fst y_1)=v)/\((Prod.snd y==Prod.snd y_1)=false->false=v))):=by kernel_rfl
theorem Zw6 (hs:SumOk E 8 Zi8) (t:Tar):PureC E 3 [.agg (encF false .tariffs t)] (.bool false true):=by
 refine Za E_ok (Ze E_ok (Z5d hs) 400) ?_
 rw [Z1b]
 refine ⟨trivial,fun y hy=>⟨fun _=>rfl,fun q=> ?_⟩⟩
 have hf:FewP t:=few20_iff.1 (by rw [<-hy];simpa using q)
 have hsm:=Z3w hf
 have hS:(∀(c:Cls),c∈t.clauses->Ex.sz c.pay<=10000/\c.when_.length+1<=1000000000)/\t.clauses.length+1<=1000000000:=⟨fun c hc=>⟨(hsm.1 c hc).1,(hsm.1 c hc).2⟩,hsm.2⟩
 refine ⟨hS,fun y1 h1=>⟨hS,fun y2 h2=>⟨fun _=>⟨?_,?_⟩,fun k=> ?_⟩⟩⟩
 · rw [h1]
   rcases Zzi t with ⟨_,h⟩|⟨_,h⟩|⟨_,hg,h⟩<;>rw [h]
   · simp
   · simp
   · show (cdT t).length<=_
     omega
 · rw [h1,h2];exact (Zxb rfl).symm
 · rw [h1,h2] at k;simp at k
end
end Go.Proofs.YtpmkapclhlmbbaaGreatDoor
