/- Merged texts: TpQ, TpPb, TpPc, TpR, TpPd, TpPe, TpPf, TpPg, TpS, TpT, TuE. -/
import Derived.Test.YtddgkebdlgglaaaGreatDoorMe
namespace Go.Proofs.YtddgkebdlgglaaaGreatDoor
set_option linter.unusedVariables false
set_option linter.unusedSimpArgs false
set_option linter.unnecessarySimpa false
set_option maxRecDepth 100000
section
open Go
theorem Zy7 {F:Fns thy} (hF:FnsOk E F) {n:Nat} {f:Nat} {th:Th} {args:List (SV thy)} {st:Option (List (thy.dom th)×Nat)} {l':List (thy.dom th)} (ha:nidL 0 args=true) (hk:Zk E F (vc E F n) f (.ptr 0 0::args) (hpP E th st) 2 (prnK E th st l')):PrnC E f th args st l':=
 Zd1 E_ok (Zi E_ok hF n) ha hk
def Aixi:Fr thy->Hp thy->Nat->Ann thy:=fun T h i=>{X:=LX,fr:=fun x=> [(0,T 0),(1,T 1),(7,T 7),(8,.int false .i64 x.k)],bl:=fun x=> [],src:=fun _=> [],md:= [],ih:=i,M:=i+30,meas:=fun x=>x.r}
noncomputable def Fixi:Fns thy:=addL F0 128 2 Aixi E
theorem Z28 (l:List Int) (s:Int) (v:Int):Zk E Fixi (vc E Fixi 400) 128 [.psl Th.dimc l false,.int false .i64 s] hp0 0 (fun r=>ret E (patch hp0 0 r) r.v (.int false .i64 v))=(
∃(R:LX->Prop),(∃(x:LX),R x/\true=true/\((l=l/\(false=true->false=true))/\s=s/\(↑(List.length l):Int)=(↑(List.length l):Int)/\(0:Int)=(↑(LX.k x):Int)/\True)/\True)/\∀(x:LX),R x->(decide ((↑(LX.k x):Int)<(↑(List.length l):Int))=true->(0:Int)<=(↑(LX.k x):Int)/\(↑(LX.k x):Int)+(1:Int)<=(↑(List.length l):Int)/\∀(x_1:Int),l[Int.toNat (↑(LX.k x):Int)]? =some x_1->((s==x_1)=true->(↑(LX.k x):Int)=v)/\((s==x_1)=false->∃(x_2:LX),R x_2/\x_2.2+(1:Nat)<=x.2/\true=true/\((l=l/\(false=true->false=true))/\s=s/\(↑(List.length l):Int)=(↑(List.length l):Int)/\wr IntKind.i64 ((↑(LX.k x):Int)+(1:Int))=(↑(LX.k x_2):Int)/\True)/\True))/\(decide ((↑(LX.k x):Int)<(↑(List.length l):Int))=false->(-1:Int)=v)):=by kernel_rfl
noncomputable def dIs:Dc E (List Int):=(Ztx (E:=E) Th.dimc:Dc E (List (thy.dom Th.dimc)))
noncomputable def Sixi:Sum thy:=Zff E (fun _=>none) 2 (Ue (dA2 dIs dN) (fun x=>x.1.length<=1000000000) (fun x=>idxI x.2.1 0 x.1) fun y=> .int false .i64 y)
noncomputable def Yb3:Sum thy:=Ue (dA1 dN) (fun x=>0<=x.1/\x.1<10000000000000) (fun x=>decN x.1) fun y=> .str false y
noncomputable def Fpu:Fns thy:=addS (addS (addS F0 24 Zkc) 128 Sixi) 14 Yb3
abbrev qCK4:=(0:Int)
abbrev qCK6:=(↑(4:Nat):Int)
abbrev qCK3:=(Int.toNat qCK6-Int.toNat qCK4)
abbrev qCK1 (a0:Int) (b0:Int) (c0:Int) (d0:Int):=(List.take qCK3 (List.drop (Int.toNat qCK4) [a0,b0,c0,d0]))
abbrev qCK2:=((4:Nat)=(4:Nat)/\qCK4<=qCK4/\qCK4<=qCK6/\qCK6<=qCK6/\(qCK4+(1:Int)<=qCK6\/qCK4=qCK4))
abbrev qCK5:=(↑(List.length (WK.words WK.un)):Int)
theorem Zt7 (l:List (List Nat)) (fz:Nat) (a b c d:Int) (l':List (List Nat)):Zk E Fpu (vc E Fpu 400) 84 [.ptr 0 0,dimA a b c d] (hpP E Th.strs (some (l,fz))) 2 (prnK E Th.strs (some (l,fz)) l')=(
 qCK2/\Int.toNat qCK4+qCK3<=(4:Nat)/\List.length (qCK1 a b c d)<=(1000000000:Nat)/\∀(y:Int),y=idxI (1:Int) (0:Nat) (qCK1 a b c d)->(decide (y>=qCK4)=true->qCK4<=y/\y+(1:Int)<=qCK5/\∀(x:List Nat),(WK.words WK.un)[Int.toNat y]? =some x->(List.length l<=List.length l/\fz<=List.length l/\(List.length l+(1:Nat))*(16:Nat)<=(140737488355328:Nat))/\qCK2/\Int.toNat qCK4+qCK3<=(4:Nat)/\List.length (qCK1 a b c d)<=(1000000000:Nat)/\∀(y:Int),y=idxI (-1:Int) (0:Nat) (qCK1 a b c d)->(decide (y>=qCK4)=true->qCK4<=y/\y+(1:Int)<=qCK5/\∀(x_1:List Nat),(WK.words WK.un)[Int.toNat y]? =some x_1->(List.length l+(1:Nat)<=List.length (List.take (List.length l) l++ [x])/\fz<=List.length l+(1:Nat)/\(List.length l+(1:Nat)+(2:Nat))*(16:Nat)<=(140737488355328:Nat))/\List.take (List.length l+(1:Nat)) (List.take (List.length l) l++ [x])++ [[(112:Nat),(101:Nat),(114:Nat)],x_1]=l'/\List.length l+(1:Nat)+(2:Nat)=List.length l'/\fz=fzO (some (l,fz)))/\(decide (y>=qCK4)=false->List.take (List.length l) l++ [x]=l'/\List.length l+(1:Nat)=List.length l'/\fz=fzO (some (l,fz))))/\(decide (y>=qCK4)=false->qCK2/\Int.toNat qCK4+qCK3<=(4:Nat)/\List.length (qCK1 a b c d)<=(1000000000:Nat)/\∀(y:Int),y=idxI (-1:Int) (0:Nat) (qCK1 a b c d)->(decide (y>=qCK4)=true->qCK4<=y/\y+(1:Int)<=qCK5/\∀(x:List Nat),(WK.words WK.un)[Int.toNat y]? =some x->(List.length l<=List.length l/\fz<=List.length l/\(List.length l+(2:Nat))*(16:Nat)<=(140737488355328:Nat))/\List.take (List.length l) l++ [[(112:Nat),(101:Nat),(114:Nat)],x]=l'/\List.length l+(2:Nat)=List.length l'/\fz=fzO (some (l,fz)))/\(decide (y>=qCK4)=false->l=l'/\List.length l=List.length l'/\fz=fzO (some (l,fz))))):=by kernel_rfl
theorem Zy8 {v:Int} {l:List Int}:∀{k:Nat} {x:Int},l[k]? =some x->idxI v k (l.drop k)=if v=x then (k:Int) else idxI v (k+1) (l.drop (k+1)):=by
 intro k x h
 rw [Vr h]
 rfl
theorem Z29 (l:List Int) (s:Int) (hl:l.length<=1000000000):PureC E 128 [.psl Th.dimc l false,.int false .i64 s] (.int false .i64 (idxI s 0 l)):=by
 have hF:FnsOk E Fixi:=Yc E_ok F0_ok _ _ _
 refine Zc E_ok (Zi E_ok hF 400) ?_
 rw [Z28]
 simp only [and_true,true_and,decide_eq_true_eq,decide_eq_false_iff_not,beq_iff_eq,beq_eq_false_iff_ne,imp_self]
 refine ⟨fun x=>x.k<=l.length/\idxI s x.k (l.drop x.k)=idxI s 0 l/\x.r=l.length-x.k,⟨⟨0,l.length,[],0⟩,⟨(by dsimp only;omega),rfl,rfl⟩,rfl⟩,?_⟩
 rintro x ⟨hk,hv,hr⟩
 refine And.intro (fun hq=>⟨by omega,by omega,fun y hy=> ?_⟩) (fun hq=> ?_)
 · have hy:l[x.k]? =some y:=hy
   rw [Zy8 hy] at hv
   refine ⟨fun e=> ?_,fun e=> ?_⟩
   · rw [if_pos e] at hv;exact hv
   · rw [if_neg e] at hv
     exact ⟨⟨x.k+1,l.length-(x.k+1),[],0⟩,⟨(by dsimp only;omega),hv,rfl⟩,by show l.length-(x.k+1)+1<=x.r;omega,wr64 (by omega) (by omega)⟩
 · rw [List.drop_eq_nil_of_le (by omega)] at hv
   exact hv
theorem Z8t:SumOk E 128 Sixi:=Uo E_ok (Z7 E_ok (Zd rfl) fun x h=>Z29 x.1 x.2.1 h)
theorem Z3a:SumOk E 14 Yb3:=Z7 E_ok (Zd rfl) fun x h=>by
 have:=Zye x.1.toNat (by omega)
 rw [show ((x.1.toNat:Nat):Int)=x.1 by omega] at this
 exact this
theorem Zr6:FnsOk E Fpu:=Zb (Zb (Zb F0_ok Zdn) Z8t) Z3a
theorem Zph:∀{v:Int} {l:List Int} {k:Nat},idxI v k l<k+l.length
 |v,[],k=>by unfold idxI;simp;omega
 |v,x::l,k=>by
  unfold idxI
  split
  · simp;omega
  · have:=Zph (v:=v) (l:=l) (k:=k+1)
    simp at this⊢;omega
theorem Zr7 {y:Int} (h0:0<=y) {x:List Nat} (hx:(WK.words WK.un)[Int.toNat y]? =some x):WK.un.words.getD y.toNat []=x:=by
 simp [List.getD,hx]
theorem Z3b (l:List (List Nat)) (fz:Nat) (a b c d:Int) (hf:fz<=l.length) (hl:l.length+8<=1000000000):PrnC E 84 Th.strs [dimA a b c d] (some (l,fz)) (l++txU [a,b,c,d]):=by
 refine Zy7 Zr6 (n:=400) rfl ?_
 rw [Zt7];delta qCK4 qCK6 qCK3 qCK1 qCK2 qCK5
 have i1:=Zph (v:=1) (l:= [a,b,c,d]) (k:=0)
 have i2:=Zph (v:= -1) (l:= [a,b,c,d]) (k:=0)
 have L4:(WK.words WK.un).length=4:=rfl
 have l4:(List.length [a,b,c,d]:Int)=4:=rfl
 have e:List.take (Int.toNat (↑(4:Nat):Int)-Int.toNat (0:Int)) (List.drop (Int.toNat (0:Int)) [a,b,c,d])= [a,b,c,d]:=rfl
 rw [e]
 clear e
 refine ⟨by decide,by decide,by show 4<=1000000000;decide,fun y hy=>⟨fun h=> ?_,fun h=> ?_⟩⟩
 · have h:0<=y:=by simpa using h
   rw [<-hy] at i1
   refine ⟨h,by rw [L4];omega,fun x hx=>⟨⟨Nat.le_refl _,hf,by omega⟩,by decide,by decide,by show 4<=1000000000;decide,fun z hz=>⟨fun h2=> ?_,fun h2=> ?_⟩⟩⟩
   · have h2:0<=z:=by simpa using h2
     rw [<-hz] at i2
     refine ⟨h2,by rw [L4];omega,fun x2 hx2=>⟨⟨by simp,by omega,by omega⟩,?_⟩⟩
     have:txU [a,b,c,d]= [x,sPer,x2]:=by
      unfold txU
      rw [<-hy,<-hz,if_pos h,if_pos h2,Zr7 h hx,Zr7 h2 hx2]
      rfl
     rw [this,List.take_length]
     have e2:List.take (l.length+1) (l++ [x])=l++ [x]:=List.take_of_length_le (by simp)
     rw [e2]
     simp [sPer,fzO]
   · have h2:¬0<=z:=by simpa using h2
     have:txU [a,b,c,d]= [x]:=by
      unfold txU
      rw [<-hy,<-hz,if_pos h,if_neg h2,Zr7 h hx]
      rfl
     rw [this]
     simp [fzO]
 · have h:¬0<=y:=by simpa using h
   refine ⟨by decide,by decide,by show 4<=1000000000;decide,fun z hz=>⟨fun h2=> ?_,fun h2=> ?_⟩⟩
   · have h2:0<=z:=by simpa using h2
     rw [<-hz] at i2
     refine ⟨h2,by rw [L4];omega,fun x2 hx2=>⟨⟨Nat.le_refl _,hf,by omega⟩,?_⟩⟩
     have:txU [a,b,c,d]= [sPer,x2]:=by
      unfold txU
      rw [<-hy,<-hz,if_neg h,if_pos h2,Zr7 h2 hx2]
      rfl
     rw [this]
     simp [sPer,fzO]
   · have h2:¬0<=z:=by simpa using h2
     have:txU [a,b,c,d]= []:=by
      unfold txU
      rw [<-hy,<-hz,if_neg h,if_neg h2]
      rfl
     rw [this]
     simp [fzO]
noncomputable def Sunp:Sum thy:=sumB E Th.strs dDim (fun l x=>1<=l.length/\l.length+8<=1000000000) fun (l:List (List Nat)) x=>l++txU [x.1.getD 0 0,x.1.getD 1 0,x.1.getD 2 0,x.1.getD 3 0]
theorem Z8u:SumOk E 84 Sunp:=Zjy E_ok (Zd rfl) fun x=>⟨fun l fz hf h=>Z3b l fz _ _ _ _ hf h.2,fun h=>absurd h.1 (by decide)⟩
noncomputable def Sxp (m:Nat):Sum thy:=sumB E Th.strs dExp (fun l x=>x.1.sz<m/\Yd x.1=true/\1<=l.length/\l.length+8*x.1.sz+8<=1000000000) fun (l:List (List Nat)) x=>l++txX x.1
theorem Zpi (n:Int) (v:Int):Zk E F0 (vc E F0 400) 86 [.int false .i64 n] hp0 0 (fun r=>ret E (patch hp0 0 r) r.v (.int false .i64 v))=(
((n==(3:Int))=true->(1:Int)=v)/\((n==(3:Int))=false->((n==(4:Int))=true->(1:Int)=v)/\((n==(4:Int))=false->((n==(5:Int))=true->(2:Int)=v)/\((n==(5:Int))=false->(3:Int)=v)))):=by kernel_rfl
noncomputable def Zy9:Sum thy:=Ue (dA1 dN) (fun _=>True) (fun x=>tightF x.1) fun y=> .int false .i64 y
noncomputable def Fop' (m:Nat):Fns thy:=addS (addS F0 86 Zy9) 58 (Sxp m)
abbrev qCK7 (a0:Ex):=(Ex.mk (Ex.op a0) (Ex.n a0) (Ex.d0 a0) (Ex.d1 a0) (Ex.d2 a0) (Ex.d3 a0) (Ex.l a0))
abbrev qCK8 (a0:List (List Nat)):=(List.take (List.length a0) a0++ [[(40:Nat)]])
theorem Zt8 (m:Nat) (l:List (List Nat)) (fz:Nat) (x:Ex) (n:Int) (l':List (List Nat)):Zk E (Fop' m) (vc E (Fop' m) 400) 85 [.ptr 0 0,exA x,.int false .i64 n] (hpP E Th.strs (some (l,fz))) 2 (prnK E Th.strs (some (l,fz)) l')=(
 True/\∀(y:Int),y=tightF (Ex.op x)->(decide (y>=n)=true->(List.length l=List.length l/\fz<=List.length l/\Ex.sz (qCK7 x)+(1:Nat)<=m/\Yd (qCK7 x)=true/\(1:Nat)<=List.length l/\List.length l+(8:Nat)*Ex.sz (qCK7 x)+(8:Nat)<=(1000000000:Nat))/\∀(l'_1:List (List Nat)),l'_1=l++txX (qCK7 x)->l'_1=l'/\List.length l'_1=List.length l'/\fzO (some (l,fz))=fzO (some (l,fz)))/\(decide (y>=n)=false->(List.length l<=List.length l/\fz<=List.length l/\(List.length l+(1:Nat))*(16:Nat)<=(140737488355328:Nat))/\(List.length l+(1:Nat)=List.length (qCK8 l)/\fz<=List.length (qCK8 l)/\Ex.sz (qCK7 x)+(1:Nat)<=m/\Yd (qCK7 x)=true/\(1:Nat)<=List.length (qCK8 l)/\List.length (qCK8 l)+(8:Nat)*Ex.sz (qCK7 x)+(8:Nat)<=(1000000000:Nat))/\∀(l'_1:List (List Nat)),l'_1=List.take (List.length l) l++ [[(40:Nat)]]++txX (qCK7 x)->(List.length l'_1<=List.length l'_1/\fzO (some (List.take (List.length l) l++ [[(40:Nat)]],fz))<=List.length l'_1/\(List.length l'_1+(1:Nat))*(16:Nat)<=(140737488355328:Nat))/\List.take (List.length l'_1) l'_1++ [[(41:Nat)]]=l'/\List.length l'_1+(1:Nat)=List.length l'/\fzO (some (List.take (List.length l) l++ [[(40:Nat)]],fz))=fzO (some (l,fz)))):=by kernel_rfl
noncomputable def Yb4 (m:Nat):Sum thy:=sumB E Th.strs Z14 (fun l x=>x.1.sz<m/\Yd x.1=true/\1<=l.length/\l.length+8*x.1.sz+10<=1000000000) fun (l:List (List Nat)) x=>l++par x.1.op x.2.1 (txX x.1)
noncomputable def Fxp' (m:Nat):Fns thy:=addS (addS (addS (addS Fpu 84 Sunp) 86 Zy9) 58 (Sxp m)) 85 (Yb4 m)
theorem Zt9 (n:Int):PureC E 86 [.int false .i64 n] (.int false .i64 (tightF n)):=by
 refine Zc E_ok (Zi E_ok F0_ok 400) ?_
 rw [Zpi]
 unfold tightF
 refine ⟨fun h=> ?_,fun h=>⟨fun h2=> ?_,fun h2=>⟨fun h3=> ?_,fun h3=> ?_⟩⟩⟩
 all_goals simp at*
 all_goals simp [*]
theorem Zl7:SumOk E 86 Zy9:=Z7 E_ok (Zd rfl) fun x _=>Zt9 x.1
def PxOk (m:Nat):Prop:=∀x:Ex,x.sz<m->Yd x=true->∀(l:List (List Nat)) (fz:Nat),fz<=l.length->1<=l.length->l.length+8*x.sz+8<=1000000000->PrnC E 58 Th.strs [exA x] (some (l,fz)) (l++txX x)
theorem Zza {m:Nat} (h:PxOk m):SumOk E 58 (Sxp m):=Zjy E_ok (Zd rfl) fun x=>⟨fun l fz hf hp=>h x.1 hp.1 hp.2.1 l fz hf hp.2.2.1 hp.2.2.2,fun hp=>absurd hp.2.2.1 (by decide)⟩
theorem Z8v {m:Nat} (h:PxOk m):FnsOk E (Fop' m):=Zb (Zb F0_ok Zl7) (Zza h)
mutual
theorem Yy:∀(x:Ex),(txX x).length+2<=8*x.sz
 | .mk op n a b c d l=>by
  have h:=Zzb l
  have hs:∀ss:List (List Nat),(txS (txL l) ss).length+0<=8*Ex.szL l:=fun ss=>Zzc (txL l) ss (8*Ex.szL l) h
  have hU:(txU [a,b,c,d]).length<=3:=by
   unfold txU
   rw [List.length_append]
   split<;>split<;>simp
  have hp:∀op least t,(par op least t).length<=t.length+2:=by
   intro op least t
   unfold par
   split
   · omega
   · simp
  have h2:=Z3c (txL l) _ h
  rw [txX,Ex.sz]
  unfold txN
  split
  · rw [List.length_cons];omega
  · split
    · simp;omega
    · split
      · have:=hs [Zcq,Z3,Z3,Zz]
        rw [List.length_cons,List.length_cons]
        omega
      · split
        · rw [List.length_append,List.length_cons]
          have a1:=hp ((l.map Ex.op).getD 0 0) (tightF op) ((txL l).getD 0 [])
          have a2:=hp ((l.map Ex.op).getD 1 0) (tightF op+1) ((txL l).getD 1 [])
          omega
        · have:=hs [Z3,Zz]
          rw [List.length_cons,List.length_cons]
          omega
theorem Zzb:∀(l:List Ex),((txL l).map fun t=>t.length+2).sum<=8*Ex.szL l
 | []=>by simp [txL]
 |x::r=>by
  have h1:=Yy x
  have h2:=Zzb r
  rw [txL,Ex.szL,List.map_cons,List.sum_cons]
  omega
theorem Zzc:∀(ts:List (List (List Nat))) (ss:List (List Nat)) (b:Nat),(ts.map fun t=>t.length+2).sum<=b->(txS ts ss).length+0<=b
 | [],_,_,h=>by simp [txS]
 |t::r,[],_,h=>by simp [txS]
 |t::r,s::ss,b,h=>by
  rw [List.map_cons,List.sum_cons] at h
  have:=Zzc r ss (b-(t.length+2)) (by omega)
  rw [txS,List.length_append,List.length_cons]
  omega
theorem Z3c:∀(ts:List (List (List Nat))) (b:Nat),(ts.map fun t=>t.length+2).sum<=b->(ts.getD 0 []).length+(ts.getD 1 []).length<=b
 | [],_,_=>by simp
 | [t],_,h=>by simp at h⊢;omega
 |t::u::r,_,h=>by simp at h⊢;omega
end
theorem Z3d {m:Nat} (hm:PxOk m) (l:List (List Nat)) (fz:Nat) (x:Ex) (n:Int) (hx:x.sz<m) (hxf:Yd x=true) (hf:fz<=l.length) (h1:1<=l.length) (hl:l.length+8*x.sz+10<=1000000000):PrnC E 85 Th.strs [exA x,.int false .i64 n] (some (l,fz)) (l++par x.op n (txX x)):=by
 refine Zy7 (Z8v hm) (n:=400) rfl ?_
 rw [Zt8];delta qCK7 qCK8
 have ht:=Yy x
 simp only [fzO,List.take_length,Ex.eta,forall_eq,decide_eq_true_eq,decide_eq_false_iff_not,true_and,and_true]
 refine ⟨fun h=>⟨⟨hf,hx,hxf,h1,by omega⟩,?_⟩,fun h=>⟨⟨Nat.le_refl _,hf,by omega⟩,⟨by simp,by simp;omega,hx,hxf,by simp,by simp;omega⟩,⟨Nat.le_refl _,by simp;omega,by simp;omega⟩,?_⟩⟩
 · have:par x.op n (txX x)=txX x:=by unfold par;rw [if_pos h]
   rw [this]
   exact ⟨rfl,rfl⟩
 · have:par x.op n (txX x)=Xa::(txX x++ [Zz]):=by unfold par;rw [if_neg h]
   rw [this]
   simp [Xa,Zz]
   omega
theorem Z3e {m:Nat} (h:PxOk m):SumOk E 85 (Yb4 m):=Zjy E_ok (Zd rfl) fun x=>⟨fun l fz hf hp=>Z3d h l fz x.1 x.2.1 hp.1 hp.2.1 hf hp.2.2.1 hp.2.2.2,fun hp=>absurd hp.2.2.1 (by decide)⟩
theorem Z8w {m:Nat} (h:PxOk m):FnsOk E (Fxp' m):=Zb (Zb (Zb (Zb Zr6 Z8u) Zl7) (Zza h)) (Z3e h)
end
section
open Go
def dD (u:Nat):List Nat:=(Lib.decDigits u).map UInt8.toNat
theorem Zcc {u:Nat} (h:u<10):dD u= [48+u]:=by
 unfold dD
 rw [Lib.decDigits,dif_pos h]
 have:(UInt8.ofNat (48+u)).toNat=48+u:=by
  rw [UInt8.toNat_ofNat']
  omega
 simp only [List.map_cons,List.map_nil,this]
theorem Zlq {u:Nat} (h:¬u<10):dD u=dD (u/10)++ [48+u%10]:=by
 unfold dD
 rw [Lib.decDigits,dif_neg h]
 have:(UInt8.ofNat (48+u%10)).toNat=48+u%10:=by
  rw [UInt8.toNat_ofNat']
  omega
 rw [List.map_append]
 simp only [List.map_cons,List.map_nil,this]
theorem Zx6 {n:Int} (h:0<=n):decN n=dD n.toNat:=by
 unfold decN dD Lib.itoa
 rw [if_neg (by omega)]
theorem Zrm:∀{a b:List Nat} {n m:Int},numL n a=(m,0)->numL n (a++b)=numL m b
 | [],b,n,m,h=>by
  unfold numL at h
  cases h
  rfl
 |c::r,b,n,m,h=>by
  unfold numL at h
  rw [List.cons_append]
  unfold numL
  split at h
  · cases h
  · rename_i hn
    rw [if_neg hn,Zrm h]
    cases b<;>rfl
theorem Z2l (u:Nat):dD u≠ []:=by
 by_cases h:u<10
 · rw [Zcc h];simp
 · rw [Zlq h];simp
theorem Ybg:∀(u:Nat),u<=1099511627776->numL 0 (dD u)=((u:Int),0):=by
 intro u
 induction u using Nat.strongRecOn with
 |_ u ih=>
  intro hu
  by_cases h:u<10
  · rw [Zcc h]
    unfold numL
    rw [if_neg (by omega)]
    unfold numL
    congr 1
    omega
  · rw [Zlq h,Zrm (ih (u/10) (by omega) (by omega))]
    unfold numL
    rw [if_neg (by omega)]
    unfold numL
    congr 1
    omega
theorem Ybh:∀(u:Nat),∀c∈dD u,isD (c:Int)=true:=by
 intro u
 induction u using Nat.strongRecOn with
 |_ u ih=>
  have one:∀k:Nat,k<10->isD ((48+k:Nat):Int)=true:=by
   intro k hk
   unfold isD
   simp
   omega
  by_cases h:u<10
  · rw [Zcc h]
    intro c hc
    rw [List.mem_singleton] at hc
    subst hc
    exact one u h
  · rw [Zlq h]
    intro c hc
    rcases List.mem_append.1 hc with hc|hc
    · exact ih (u/10) (by omega) c hc
    · rw [List.mem_singleton] at hc
      subst hc
      exact one _ (by omega)
theorem Z7v:∀(u:Nat),1<(dD u).length->(dD u).head?≠some 48:=by
 intro u
 induction u using Nat.strongRecOn with
 |_ u ih=>
  by_cases h:u<10
  · rw [Zcc h]
    intro hl
    simp at hl
  · rw [Zlq h]
    intro _
    have e:(dD (u/10)++ [48+u%10]).head? =(dD (u/10)).head? :=by
     cases hd:dD (u/10) with
     |nil=>exact absurd hd (Z2l _)
     |cons x r=>rfl
    rw [e]
    by_cases h2:u/10<10
    · rw [Zcc h2]
      intro k
      injection k with k
      omega
    · refine ih (u/10) (by omega) ?_
      rw [Zlq h2,List.length_append]
      have:=Z2l (u/10/10)
      cases hd:dD (u/10/10) with
      |nil=>exact absurd hd this
      |cons x r=>simp
theorem Zn7 {n:Int} (h0:0<=n) (h1:n<=1099511627776):tokP (decN n)=(⟨2,decN n,n,0⟩,0):=by
 rw [Zx6 h0]
 have hne:=Z2l n.toNat
 have hd:=Ybh n.toNat
 have hn:=Ybg n.toNat (by omega)
 have hh:=Z7v n.toNat
 have hc:((n.toNat:Nat):Int)=n:=by omega
 generalize dD n.toNat=w at*
 cases w with
 |nil=>exact absurd rfl hne
 |cons c r=>
  rw [Yi]
  have hdc:=hd c (by simp)
  have hl:isL (c:Int)=false:=by
   unfold isD at hdc
   unfold isL
   simp at hdc⊢
   omega
  rw [if_neg (by rw [hl];decide),if_pos hdc,Wl hd,List.take_length]
  have:numb (c::r)=(n,0):=by
   unfold numb
   rw [if_neg (fun k=>hh k.1 k.2),hn,hc]
  rw [this]
theorem Zeh {n:Int} (h0:0<=n) (h1:n<=1099511627776):TokW (decN n):=by
 refine ⟨by rw [Zn7 h0 h1],by rw [Zn7 h0 h1],?_⟩
 rw [Zx6 h0]
 exact Z2l _
theorem Zx7 {n:Int} (h0:0<=n) (h1:n<=1099511627776):tkS (decN n)=⟨2,decN n,n,0⟩:=by
 unfold tkS
 rw [Zn7 h0 h1]
 rfl
theorem Ydt {c:Nat} (h:wb c=true):isLD (c:Int)=true:=by
 unfold wb at h
 unfold isLD isL isD
 simp at h⊢
 omega
theorem Zje {s:List Nat} (h:W9 s=true):tokP s=(⟨1,s,0,0⟩,0):=by
 unfold W9 at h
 rw [Bool.and_eq_true,Bool.and_eq_true,decide_eq_true_eq] at h
 obtain ⟨⟨h1,h2⟩,h3⟩:=h
 cases s with
 |nil=>cases h2
 |cons c r=>
  have hc:isL (c:Int)=true:=by
   unfold lowF at h2
   unfold isL
   simp at h2⊢
   omega
  rw [Yi,if_pos hc,Wl fun c hc=>Ydt (List.all_eq_true.1 h3 c hc),if_neg (by omega),List.take_length]
theorem Zfu {s:List Nat} (h:W9 s=true):TokW s:=by
 refine ⟨by rw [Zje h],by rw [Zje h],?_⟩
 rintro rfl
 simp [W9,lowF] at h
theorem Zjf {s:List Nat} (h:W9 s=true):tkS s=⟨1,s,0,0⟩:=by
 unfold tkS
 rw [Zje h]
 rfl
theorem Z2m:∀k:WK,∀w∈k.words,W9 w=true:=by
 intro k
 cases k<;>decide
theorem Zrn {k:WK} {i:Nat} (h:i<k.words.length):k.words.getD i []∈k.words:=by
 have:k.words.getD i []=k.words[i]:=by simp [List.getD,h]
 rw [this]
 exact List.getElem_mem h
theorem Zjg {k:WK} {i:Nat} (h:i<k.words.length):W9 (k.words.getD i [])=true:=Z2m k _ (Zrn h)
theorem Z7w {k:WK} {i:Nat} (h:i<k.words.length):tkS (k.words.getD i [])=⟨1,k.words.getD i [],0,0⟩:=Zjf (Zjg h)
theorem Ybi:∀k:WK,∀i,i<k.words.length->idxS (k.words.getD i []) 0 k.words=i:=by
 intro k
 cases k<;>decide
theorem Zdv {k:WK} {i:Nat} (h:i<k.words.length) (r:List Tok):chz k.words (tkS (k.words.getD i [])::r)=i:=by
 rw [Z7w h]
 show (if (1:Int)=1 then idxS (k.words.getD i []) 0 k.words else-1)=i
 rw [if_pos rfl,Ybi k i h]
def Fl0 (r:List Tok):Prop:=¬0<=chz WK.un.words r/\isW sPer r=false
end
section
open Go
theorem Zc6 {o:List Tok->Int×List Tok} {pf:PE} (ho:∀l,(o l).2.length<=l.length) (hp:Shr pf):∀(k k':Nat) (x:Ex) (op:Int) (l:List Tok) (e:Int),l.length<k->l.length<k'->Yu o pf k x op l e=Yu o pf k' x op l e
 |0,_,_,_,_,_,h,_=>by omega
 |_+1,0,_,_,_,_,_,h=>by omega
 |k+1,k'+1,x,op,l,e,h,h'=>by
  unfold Yu
  split
  · rfl
  · cases hq:pf l e with
    |error er=>rfl
    |ok y=>
     have h1:=hp _ _ _ _ hq
     have h2:=ho y.2.1
     exact Zc6 ho hp k k' _ _ _ _ (by omega) (by omega)
def pRx (o:List Tok->Int×List Tok) (pf:PE) (x:Ex) (op:Int) (l:List Tok) (e:Int):PR Ex:=Yu o pf (l.length+1) x op l e
theorem Z46 {o:List Tok->Int×List Tok} {pf:PE} (ho:∀l,(o l).2.length<=l.length) (hp:Shr pf) (x:Ex) (op:Int) (l:List Tok) (e:Int):
 pRx o pf x op l e=if op=0 then .ok (x,l,e,()) else match pf l e with
  | .error er=> .error er
  | .ok (y,z)=>pRx o pf (.mk op 0 0 0 0 0 [x,y]) (o z.1).1 (o z.1).2 z.2.1:=by
 unfold pRx
 rw [Yu]
 split
 · rfl
 · cases hq:pf l e with
   |error er=>rfl
   |ok y=>
    have h1:=hp _ _ _ _ hq
    have h2:=ho y.2.1
    exact Zc6 ho hp _ _ _ _ _ _ (by omega) (by omega)
theorem Zqy (l:List Tok):(op1 l).2.length<=l.length:=Zo5 l
theorem Zqz (l:List Tok):(op2 l).2.length<=l.length:=Zo6 l
def Agr (n:Nat) (p q:PE):Prop:=∀l e,l.length<n->p l e=q l e
theorem Zq0 {n:Nat} {p q:PE} (hp:Shr p) (h:Agr n p q):∀(ss:List (List Nat)) (acc:List Ex) (l:List Tok) (e:Int),l.length<n->pOpL p ss acc l e=pOpL q ss acc l e
 | [],_,_,_,_=>rfl
 |s::r,acc,l,e,hl=>by
  unfold pOpL
  rw [<-h l e hl]
  cases hq:p l e with
  |error er=>rfl
  |ok y=>
   have h1:=hp _ _ _ _ hq
   dsimp only
   split
   · refine Zq0 hp h r _ _ _ ?_
     rw [List.length_tail]
     omega
   · rfl
theorem Zq1 {n:Nat} {p q:PE} (hp:Shr p) (h:Agr n p q) (op:Int) (ss:List (List Nat)) (l:List Tok) (e:Int) (hl:l.length<n+1):pOps p op ss l e=pOps q op ss l e:=by
 unfold pOps
 split
 · rename_i hw
   have:=Zp hw
   rw [Zq0 hp h ss [] l.tail e (by omega)]
 · rfl
theorem Zk1 {n:Nat} {p q:PE} (hp:Shr p) (h:Agr n p q) (l:List Tok) (e:Int) (hl:l.length<n+1):U1 p l e=U1 q l e:=by
 unfold U1
 split
 · rename_i hw
   have:=Zp hw
   rw [h l.tail e (by omega)]
 · split
   · rename_i hw
     have:=Zp hw
     rw [Zq1 hp h _ _ l.tail e (by omega)]
   · cases hc:Zm WK.ca.words l e with
     |error er=>rfl
     |ok y=>
      obtain ⟨y0,y1⟩:=y
      have:y1.1.length<=l.length:=by
       rcases Y6 hc with ⟨_,_,rfl⟩|⟨_,_,rfl⟩
       · show l.tail.length<=l.length
         rw [List.length_tail]
         omega
       · exact Nat.le_refl _
      dsimp only
      split
      · exact Zq1 hp h _ _ _ _ (by omega)
      · rfl
theorem Zq2 {n:Nat} {p q:PE} (hp:Shr p) (h:Agr n p q):Agr (n+1) (pFac p) (pFac q):=by
 intro l e hl
 unfold pFac
 split
 · exact Zk1 hp h _ _ hl
 · split
   · rfl
   · exact Zk1 hp h _ _ hl
theorem Zk2 {n:Nat} {o:List Tok->Int×List Tok} (ho:∀l,(o l).2.length<=l.length) {p q:PE} (hp:Shr p) (h:Agr n p q):∀(k:Nat) (x:Ex) (op:Int) (l:List Tok) (e:Int),l.length<n->Yu o p k x op l e=Yu o q k x op l e
 |0,_,_,_,_,_=>rfl
 |k+1,x,op,l,e,hl=>by
  unfold Yu
  split
  · rfl
  · rw [<-h l e hl]
    cases hq:p l e with
    |error er=>rfl
    |ok y=>
     have h1:=hp _ _ _ _ hq
     have h2:=ho y.2.1
     exact Zk2 ho hp h k _ _ _ _ (by omega)
theorem Zix {n:Nat} {o:List Tok->Int×List Tok} (ho:∀l,(o l).2.length<=l.length) {p q:PE} (hp:Shr p) (h:Agr n p q):Agr n (pCh o p) (pCh o q):=by
 intro l e hl
 unfold pCh
 rw [<-h l e hl]
 cases hq:p l e with
 |error er=>rfl
 |ok y=>
  have h1:=hp _ _ _ _ hq
  have h2:=ho y.2.1
  exact Zk2 ho hp h _ _ _ _ _ (by omega)
theorem Z47 (n:Nat):Shr (pE n):=(V7 n).shr
theorem Ziy {pe:PE} (h:Bnd pe):Shr (pFac pe):=(Wz h).shr
theorem Z48:∀(n m:Nat),n<=m->Agr n (pE n) (pE m)
 |0,m,_=>fun l e hl=>by omega
 |n+1,m+1,h=>by
  have ih:=Z48 n m (by omega)
  unfold pE
  refine Zix Zqz (Zbi Zdf (Wz (V7 n))).shr ?_
  exact Zix Zqy (Ziy (V7 n)) (Zq2 (Z47 n) ih)
theorem Z49 (n:Nat):Agr n (pE n) pX:=by
 intro l e hl
 unfold pX
 exact (Z48 (l.length+1) n (by omega) l e (Nat.lt_succ_self _)).symm
def pf:PE:=pFac pX
def pt:PE:=pCh op1 pf
theorem Ycz (l:List Tok) (e:Int):pX l e=pCh op2 pt l e:=by
 show pE (l.length+1) l e=_
 rw [pE]
 refine Zix (n:=l.length+1) Zqz (Zbi Zdf (Wz (V7 _))).shr ?_ l e (Nat.lt_succ_self _)
 exact Zix Zqy (Ziy (V7 _)) (Zq2 (Z47 _) (Z49 _))
theorem pf_bnd:Bnd pf:=Wz Zru
theorem pt_bnd:Bnd pt:=Zbi Zdf pf_bnd
theorem Yaa:Shr pf:=pf_bnd.shr
theorem Yab:Shr pt:=pt_bnd.shr
theorem Yc0 (l:List Tok) (e:Int):pt l e=match pf l e with
 | .error er=> .error er
 | .ok (y,z)=>pRx op1 pf y (op1 z.1).1 (op1 z.1).2 z.2.1:=rfl
theorem Z6o (x:Ex) (op:Int) (l:List Tok) (e:Int):pRx op1 pf x op l e=if op=0 then .ok (x,l,e,()) else match pf l e with
 | .error er=> .error er
 | .ok (y,z)=>pRx op1 pf (.mk op 0 0 0 0 0 [x,y]) (op1 z.1).1 (op1 z.1).2 z.2.1:=Z46 Zqy Yaa x op l e
theorem Z6p (x:Ex) (op:Int) (l:List Tok) (e:Int):pRx op2 pt x op l e=if op=0 then .ok (x,l,e,()) else match pt l e with
 | .error er=> .error er
 | .ok (y,z)=>pRx op2 pt (.mk op 0 0 0 0 0 [x,y]) (op2 z.1).1 (op2 z.1).2 z.2.1:=Z46 Zqz Yab x op l e
theorem Yac (l:List Tok) (e:Int):pX l e=match pt l e with
 | .error er=> .error er
 | .ok (y,z)=>pRx op2 pt y (op2 z.1).1 (op2 z.1).2 z.2.1:=Ycz l e
abbrev TS (ws:List (List Nat)):List Tok:=ws.map tkS
def d0:List Int:= [0,0,0,0]
theorem Yc1 {r:List Tok} (h:Fl0 r) (e:Int):Xd r e= .ok (d0,r,e,()):=by
 unfold Xd Zm
 rw [if_neg h.1]
 dsimp only
 rw [if_neg (by rw [h.2];decide)]
 rfl
theorem Yc2 {i:Nat} (hi:i<4) {r:List Tok} (h:isW sPer r=false) (e:Int):Xd (tkS (WK.un.words.getD i [])::r) e= .ok (incD d0 i,r,e,()):=by
 unfold Xd Zm
 rw [Zdv (k:= .un) hi,if_pos (by omega)]
 dsimp only [List.tail_cons]
 rw [if_neg (by rw [h];decide)]
 rfl
theorem Z5a {s w:List Nat} (hw:W9 w=true) (r:List Tok):isW s (tkS w::r)=(w==s):=by
 rw [Zjf hw]
 rfl
theorem Z6q (r:List Tok):¬0<=chz WK.un.words (tkS sPer::r):=by
 have:chz WK.un.words (tkS sPer::r)= -1:=rfl
 omega
theorem Zwg (r:List Tok):isW sPer (tkS sPer::r)=true:=rfl
theorem Yc3 {j:Nat} (hj:j<4) (r:List Tok) (e:Int):Xd (tkS sPer::tkS (WK.un.words.getD j [])::r) e= .ok (decD d0 j,r,e,()):=by
 unfold Xd Zm
 rw [if_neg (Z6q _)]
 dsimp only [List.tail_cons]
 rw [if_pos (Zwg _)]
 unfold Ya
 rw [Zdv (k:= .un) hj,if_pos (by omega)]
 rfl
theorem Yc4 {i j:Nat} (hi:i<4) (hj:j<4) (r:List Tok) (e:Int):Xd (tkS (WK.un.words.getD i [])::tkS sPer::tkS (WK.un.words.getD j [])::r) e= .ok (decD (incD d0 i) j,r,e,()):=by
 unfold Xd Zm
 rw [Zdv (k:= .un) hi,if_pos (by omega)]
 dsimp only [List.tail_cons]
 rw [if_pos (Zwg _)]
 unfold Ya
 rw [Zdv (k:= .un) hj,if_pos (by omega)]
 rfl
theorem Z1d {a b c d:Int} (h:Zbr [a,b,c,d]=true):in1 a=true/\in1 b=true/\in1 c=true/\in1 d=true:=by
 rw [Zxf] at h
 rw [Bool.and_eq_true] at h
 simpa using h.1
theorem Zb3 {a:Int} (h:in1 a=true):a= -1\/a=0\/a=1:=by
 unfold in1 at h
 simp at h
 omega
def UnF (u:List Int):Prop:=(u=d0/\txU u= [])\/(∃i,i<4/\u=incD d0 (i:Nat)/\txU u= [WK.un.words.getD i []])\/(∃j,j<4/\u=decD d0 (j:Nat)/\txU u= [sPer,WK.un.words.getD j []])\/(∃i,i<4/\∃j,j<4/\u=decD (incD d0 (i:Nat)) (j:Nat)/\txU u= [WK.un.words.getD i [],sPer,WK.un.words.getD j []])
instance (u:List Int):Decidable (UnF u):=by unfold UnF;infer_instance
theorem unF {a b c d:Int} (h:Zbr [a,b,c,d]=true):UnF [a,b,c,d]:=by
 obtain ⟨ha,hb,hc,hd⟩:=Z1d h
 revert h
 rcases Zb3 ha with rfl|rfl|rfl<;>rcases Zb3 hb with rfl|rfl|rfl<;>rcases Zb3 hc with rfl|rfl|rfl<;>rcases Zb3 hd with rfl|rfl|rfl
 all_goals (clear ha hb hc hd;decide)
theorem Zwh {a b c d:Int} (h:Zbr [a,b,c,d]=true) {r:List Tok} (hr:Fl0 r) (e:Int):Xd (TS (txU [a,b,c,d])++r) e= .ok ([a,b,c,d],r,e,()):=by
 rcases unF h with ⟨h1,h2⟩|⟨i,hi,h1,h2⟩|⟨j,hj,h1,h2⟩|⟨i,hi,j,hj,h1,h2⟩
 · rw [h2,h1]
   exact Yc1 hr e
 · rw [h2,h1]
   exact Yc2 hi hr.2 e
 · rw [h2,h1]
   exact Yc3 hj r e
 · rw [h2,h1]
   exact Yc4 hi hj r e
def Fl1 (r:List Tok):Prop:=Fl0 r/\isW sMul r=false
def Fl2 (r:List Tok):Prop:=Fl1 r/\isW Zbh r=false/\isW Vi r=false
theorem Z5b {r:List Tok} (h:isW sMul r=false):op1 r=(0,r):=by unfold op1;rw [if_neg (by rw [h];decide)]
theorem Yad {r:List Tok} (h:Fl2 r):op2 r=(0,r):=by unfold op2;rw [if_neg (by rw [h.2.1];decide),if_neg (by rw [h.2.2];decide)]
theorem Yae {w:List Nat} {r:List Tok} (h:(tkS w).kind=3):∀ws:List (List Nat),chz ws (tkS w::r)= -1:=by
 intro ws
 show (if (tkS w).kind=1 then _ else-1)=_
 rw [if_neg (by rw [h];decide)]
theorem Zbe {w:List Nat} (r:List Tok) (h:(tkS w).kind=3) (h2:isW sPer (tkS w::r)=false):Fl0 (tkS w::r):=⟨by rw [Yae h];decide,h2⟩
theorem Zb4 (r:List Tok):Fl2 (tkS Zz::r):=⟨⟨Zbe r rfl rfl,rfl⟩,rfl,rfl⟩
theorem Zfg (r:List Tok):Fl2 (tkS Z3::r):=⟨⟨Zbe r rfl rfl,rfl⟩,rfl,rfl⟩
theorem Z1e (r:List Tok):Fl2 (tkS Zcq::r):=⟨⟨Zbe r rfl rfl,rfl⟩,rfl,rfl⟩
theorem Z1f (r:List Tok):Fl2 (tkS Zf6::r):=⟨⟨Zbe r rfl rfl,rfl⟩,rfl,rfl⟩
theorem Z6r (r:List Tok):Fl0 (tkS sMul::r):=Zbe r rfl rfl
theorem Z1g (r:List Tok):Fl1 (tkS Zbh::r):=⟨Zbe r rfl rfl,rfl⟩
theorem Zwi (r:List Tok):Fl1 (tkS Vi::r):=⟨Zbe r rfl rfl,rfl⟩
structure Rdb (x:Ex):Prop where
 fac:3<=tightF x.op->∀r e,Fl0 r->pf (TS (txX x)++r) e= .ok (x,r,e,())
 term:2<=tightF x.op->∀r e,Fl0 r->pt (TS (txX x)++r) e=pRx op1 pf x (op1 r).1 (op1 r).2 e
 expr:∀r e,Fl1 r->pX (TS (txX x)++r) e=pRx op2 pt x (op2 r).1 (op2 r).2 e
theorem Rdb.all {x:Ex} (h:Rdb x) {r:List Tok} (hr:Fl2 r) (e:Int):pX (TS (txX x)++r) e= .ok (x,r,e,()):=by
 rw [h.expr r e hr.1,Yad hr,Z6p,if_pos rfl]
theorem Zwj {l:List Tok} {e:Int} {x:Ex} {r:List Tok} (h:pX l e= .ok (x,tkS Zz::r,e,())):pf (tkS Xa::l) e= .ok (x,r,e,()):=by
 have:pf (tkS Xa::l) e=(match pX l e with
  | .error er=> .error er
  | .ok (x,y)=>if isW Zz y.1 then .ok (x,y.1.tail,y.2.1,()) else .error (hdT y.2.1 y.1,160)):=rfl
 rw [this,h]
 rfl
theorem Zfh (w:List Nat) (ws:List (List Nat)):TS (w::ws)=tkS w::TS ws:=rfl
theorem Zk3 (a b:List (List Nat)):TS (a++b)=TS a++TS b:=List.map_append
theorem Rdb.par3 {x:Ex} (h:Rdb x) {r:List Tok} (hr:Fl0 r) (e:Int):pf (TS (par x.op 3 (txX x))++r) e= .ok (x,r,e,()):=by
 unfold par
 split
 · exact h.fac (by assumption) r e hr
 · have e1:TS (Xa::(txX x++ [Zz]))++r=tkS Xa::(TS (txX x)++tkS Zz::r):=by simp
   rw [e1]
   exact Zwj (h.all (Zb4 r) e)
theorem Zq3 {l r:List Tok} {e:Int} {x:Ex} (h:pf l e= .ok (x,r,e,())):pt l e=pRx op1 pf x (op1 r).1 (op1 r).2 e:=by rw [Yc0,h]
theorem Rdb.par2 {x:Ex} (h:Rdb x) {r:List Tok} (hr:Fl0 r) (e:Int):pt (TS (par x.op 2 (txX x))++r) e=pRx op1 pf x (op1 r).1 (op1 r).2 e:=by
 unfold par
 split
 · exact h.term (by assumption) r e hr
 · have e1:TS (Xa::(txX x++ [Zz]))++r=tkS Xa::(TS (txX x)++tkS Zz::r):=by simp
   rw [e1]
   exact Zq3 (Zwj (h.all (Zb4 r) e))
theorem Zwk (op:Int):1<=tightF op:=by unfold tightF;split<;>(try split)<;>decide
theorem Rdb.par1 {x:Ex} (h:Rdb x) {r:List Tok} (hr:Fl1 r) (e:Int):pX (TS (par x.op 1 (txX x))++r) e=pRx op2 pt x (op2 r).1 (op2 r).2 e:=by
 unfold par
 rw [if_pos (Zwk _)]
 exact h.expr r e hr
theorem Zfi {x:Ex} (hf:3<=tightF x.op->∀r e,Fl0 r->pf (TS (txX x)++r) e= .ok (x,r,e,())) (ht:∀r e,Fl0 r->pt (TS (txX x)++r) e=pRx op1 pf x (op1 r).1 (op1 r).2 e):Rdb x:=
 ⟨hf,fun _=>ht,fun r e hr=>by rw [Yac,ht r e hr.1,Z5b hr.2,Z6o,if_pos rfl]⟩
theorem Zaj {x:Ex} (h:∀r e,Fl0 r->pf (TS (txX x)++r) e= .ok (x,r,e,())):Rdb x:=
 Zfi (fun _=>h) fun r e hr=>Zq3 (h r e hr)
theorem Zq4 {e:Int}:∀{xs:List Ex} {ss:List (List Nat)} {acc:List Ex} {r:List Tok},xs.length=ss.length->(∀x∈xs,Rdb x)->(∀s∈ss,(∀r,Fl2 (tkS s::r))/\∀r,isW s (tkS s::r)=true)->pOpL pX ss acc (TS (txS (txL xs) ss)++r) e= .ok (acc++xs,r,e,())
 | [],[],acc,r,_,_,_=>by simp [pOpL,txL,txS]
 |x::xs,s::ss,acc,r,hl,hx,hs=>by
  have e1:TS (txS (txL (x::xs)) (s::ss))++r=TS (txX x)++tkS s::(TS (txS (txL xs) ss)++r):=by simp [txL,txS]
  rw [e1]
  unfold pOpL
  rw [(hx x (by simp)).all ((hs s (by simp)).1 _) e]
  dsimp only
  rw [if_pos ((hs s (by simp)).2 _),List.tail_cons,Zq4 (by simpa using hl) (fun x h=>hx x (by simp [h])) (fun s h=>hs s (by simp [h]))]
  rw [List.append_assoc]
  rfl
theorem sg4:∀s∈ [Zcq,Z3,Z3,Zz],(∀r,Fl2 (tkS s::r))/\∀r,isW s (tkS s::r)=true:=by
 intro s hs
 simp only [List.mem_cons,List.not_mem_nil,or_false] at hs
 rcases hs with rfl|rfl|rfl|rfl
 · exact ⟨Z1e,fun _=>rfl⟩
 · exact ⟨Zfg,fun _=>rfl⟩
 · exact ⟨Zfg,fun _=>rfl⟩
 · exact ⟨Zb4,fun _=>rfl⟩
theorem sg2:∀s∈ [Z3,Zz],(∀r,Fl2 (tkS s::r))/\∀r,isW s (tkS s::r)=true:=by
 intro s hs
 simp only [List.mem_cons,List.not_mem_nil,or_false] at hs
 rcases hs with rfl|rfl
 · exact ⟨Zfg,fun _=>rfl⟩
 · exact ⟨Zb4,fun _=>rfl⟩
theorem Zq5 {op:Int} {xs:List Ex} {ss:List (List Nat)} {r:List Tok} {e:Int} (hl:xs.length=ss.length) (hx:∀x∈xs,Rdb x) (hs:∀s∈ss,(∀r,Fl2 (tkS s::r))/\∀r,isW s (tkS s::r)=true):
 pOps pX op ss (tkS Xa::(TS (txS (txL xs) ss)++r)) e= .ok (.mk op 0 0 0 0 0 xs,r,e,()):=by
 unfold pOps
 rw [if_pos (show isW Xa (tkS Xa::(TS (txS (txL xs) ss)++r))=true from rfl),List.tail_cons,Zq4 hl hx hs]
 rfl
theorem Z5c:∀k:WK,∀w∈k.words,(w==Xa)=false/\(w==sIf)=false:=by intro k;cases k<;>decide
theorem Yc5:∀w∈WK.at_.words,idxS w 0 WK.ca.words= -1:=by decide
theorem Zwl {k:WK} {i:Nat} (h:i<k.words.length) (r:List Tok) (e:Int):pf (tkS (k.words.getD i [])::r) e=(match Zm WK.ca.words (tkS (k.words.getD i [])::r) e with
 | .error er=> .error er
 | .ok (k,y)=>
  if k.2.1 then pOps pX (6+k.1) [Z3,Zz] y.1 y.2.1
  else match Ya WK.at_.words y.1 y.2.1 with
   | .error er=> .error er
   | .ok (a,z)=> .ok (.mk 2 a 0 0 0 0 [],z)):=by
 have h1:=Z5a (s:=Xa) (Zjg h) r
 have h2:=Z5a (s:=sIf) (Zjg h) r
 rw [(Z5c k _ (Zrn h)).1] at h1
 rw [(Z5c k _ (Zrn h)).2] at h2
 show (if (tkS (k.words.getD i [])).kind=2 then _ else U1 pX (tkS (k.words.getD i [])::r) e)=_
 rw [if_neg (by rw [Z7w h];show ¬(1:Int)=2;decide)]
 unfold U1
 rw [if_neg (by rw [h1];decide),if_neg (by rw [h2];decide)]
 rfl
theorem Zc7 {op n:Int} {u:List Int} {k:Nat} (h:Zmn op n u k=true):1<=op/\op<=11/\0<=n/\n<=Z4f op/\k=Z0k op/\Zbr u=true/\(op=1\/u= [0,0,0,0]):=by
 unfold Zmn at h
 simp only [Bool.and_eq_true,Bool.or_eq_true,decide_eq_true_eq] at h
 obtain ⟨⟨⟨⟨⟨⟨h1,h2⟩,h3⟩,h4⟩,h5⟩,h6⟩,h7⟩:=h
 exact ⟨h1,h2,h3,h4,h5,h6,h7⟩
theorem len2 {α:Type} {l:List α} (h:l.length=2):∃a b,l= [a,b]:=by
 match l,h with
 | [a,b],_=>exact ⟨a,b,rfl⟩
theorem rdb:∀(x:Ex),Yd x=true->Rdb x:=by
 suffices H:∀(m:Nat) (x:Ex),x.sz<=m->Yd x=true->Rdb x from fun x=>H _ x (Nat.le_refl _)
 intro m
 induction m with
 |zero=>intro x h;have:=x.sz_pos;omega
 |succ m ih=>
  intro x hm hf
  rw [Zer,Bool.and_eq_true] at hf
  obtain ⟨hh,hl⟩:=hf
  have hkid:∀y∈x.l,Rdb y:=fun y hy=>ih y (by have:=Ex.sz_mem hy;omega) (formL_iff.1 hl y hy)
  obtain ⟨op,n,a,b,c,d,l⟩:=x
  simp only [Ex.op,Ex.n,Ex.u,Ex.d0,Ex.d1,Ex.d2,Ex.d3,Ex.l] at hh hkid
  obtain ⟨h1,h2,h3,h4,h5,h6,h7⟩:=Zc7 hh
  clear hm hl hh
  have htx:txX (.mk op n a b c d l)=txN op n [a,b,c,d] (l.map Ex.op) (txL l):=by rw [txX]
  by_cases q1:op=1
  · subst q1
    have hl:l= []:=List.eq_nil_of_length_eq_zero (by rw [h5];rfl)
    subst hl
    refine Zaj fun r e hr=> ?_
    rw [htx]
    unfold txN
    rw [if_pos rfl,Zfh,List.cons_append,Zx7 h3 h4]
    show (match Xd (TS (txU [a,b,c,d])++r) e with
     | .error er=>_
     | .ok (d,y)=>_)=_
    rw [Zwh h6 hr e]
    rfl
  have hu:a=0/\b=0/\c=0/\d=0:=by
   rcases h7 with h7|h7
   · exact absurd h7 q1
   · simpa using h7
  obtain ⟨rfl,rfl,rfl,rfl⟩:=hu
  by_cases q2:op=2
  · subst q2
    have hl:l= []:=List.eq_nil_of_length_eq_zero (by rw [h5];rfl)
    subst hl
    have hn:n.toNat<WK.at_.words.length:=by
     have:n<=15:=h4
     show n.toNat<16
     omega
    refine Zaj fun r e hr=> ?_
    rw [htx]
    unfold txN
    rw [if_neg q1,if_pos rfl]
    show pf (tkS (WK.at_.words.getD n.toNat [])::r) e=_
    rw [Zwl hn]
    have hc:¬0<=chz WK.ca.words (tkS (WK.at_.words.getD n.toNat [])::r):=by
     rw [Z7w hn]
     show ¬0<=(if (1:Int)=1 then idxS (WK.at_.words.getD n.toNat []) 0 WK.ca.words else-1)
     rw [if_pos rfl,Yc5 _ (Zrn hn)]
     decide
    unfold Zm
    rw [if_neg hc]
    dsimp only
    rw [if_neg (by decide)]
    unfold Ya
    rw [Zdv hn,if_pos (by omega)]
    dsimp only [List.tail_cons]
    rw [show ((n.toNat:Nat):Int)=n by omega]
  have hn0:n=0:=by
   unfold Z4f at h4
   rw [if_neg q1,if_neg q2] at h4
   omega
  subst hn0
  by_cases q3:op=11
  · subst q3
    have hl:l.length=4:=h5
    refine Zaj fun r e hr=> ?_
    rw [htx]
    unfold txN
    rw [if_neg q1,if_neg q2,if_pos rfl]
    have e1:TS (sIf::Xa::txS (txL l) [Zcq,Z3,Z3,Zz])++r=tkS sIf::tkS Xa::(TS (txS (txL l) [Zcq,Z3,Z3,Zz])++r):=rfl
    rw [e1]
    show pOps pX 11 [Zcq,Z3,Z3,Zz] (tkS Xa::(TS (txS (txL l) [Zcq,Z3,Z3,Zz])++r)) e=_
    exact Zq5 (by rw [hl];rfl) hkid sg4
  have hl2:l.length=2:=by
   rw [h5]
   unfold Z0k
   rw [if_neg (by omega),if_neg q3]
  by_cases q4:op=3\/op=4\/op=5
  · obtain ⟨x,y,rfl⟩:=len2 hl2
    have hx:=hkid x (by simp)
    have hy:=hkid y (by simp)
    have htx:txX (.mk op 0 0 0 0 0 [x,y])=par x.op (tightF op) (txX x)++sgnO op::par y.op (tightF op+1) (txX y):=by
     rw [htx]
     unfold txN
     rw [if_neg q1,if_neg q2,if_neg q3,if_pos q4]
     rfl
    by_cases q5:op=5
    · subst q5
      refine Zfi (fun h=>absurd h (by show ¬3<=tightF 5;decide)) fun r e hr=> ?_
      rw [htx,Zk3,List.append_assoc]
      show pt (TS (par x.op 2 (txX x))++tkS sMul::(TS (par y.op 3 (txX y))++r)) e=_
      rw [hx.par2 (Z6r _) e]
      show pRx op1 pf x 5 (TS (par y.op 3 (txX y))++r) e=_
      rw [Z6o,if_neg (by decide),hy.par3 hr e]
    · have q6:op=3\/op=4:=by omega
      have ht:tightF op=1:=by unfold tightF;rw [if_pos q6]
      refine ⟨fun h=>absurd h (by show ¬3<=tightF op;rw [ht];decide),fun h=>absurd h (by show ¬2<=tightF op;rw [ht];decide),fun r e hr=> ?_⟩
      rw [htx,Zk3,List.append_assoc,ht]
      have hy2:pt (TS (par y.op 2 (txX y))++r) e= .ok (y,r,e,()):=by rw [hy.par2 hr.1 e,Z5b hr.2,Z6o,if_pos rfl]
      rcases q6 with rfl|rfl
      · show pX (TS (par x.op 1 (txX x))++tkS Zbh::(TS (par y.op 2 (txX y))++r)) e=_
        rw [hx.par1 (Z1g _) e]
        show pRx op2 pt x 3 (TS (par y.op 2 (txX y))++r) e=_
        rw [Z6p,if_neg (by decide),hy2]
      · show pX (TS (par x.op 1 (txX x))++tkS Vi::(TS (par y.op 2 (txX y))++r)) e=_
        rw [hx.par1 (Zwi _) e]
        show pRx op2 pt x 4 (TS (par y.op 2 (txX y))++r) e=_
        rw [Z6p,if_neg (by decide),hy2]
  · have hk:(op-6).toNat<WK.ca.words.length:=by
     show (op-6).toNat<5
     omega
    refine Zaj fun r e hr=> ?_
    rw [htx]
    unfold txN
    rw [if_neg q1,if_neg q2,if_neg q3,if_neg q4]
    have e1:TS (WK.ca.words.getD (op-6).toNat []::Xa::txS (txL l) [Z3,Zz])++r=tkS (WK.ca.words.getD (op-6).toNat [])::tkS Xa::(TS (txS (txL l) [Z3,Zz])++r):=rfl
    rw [e1,Zwl hk]
    unfold Zm
    rw [Zdv hk,if_pos (by omega)]
    dsimp only [List.tail_cons]
    rw [if_pos rfl,Zq5 (by rw [hl2];rfl) hkid sg2]
    rw [show (6:Int)+(((op-6).toNat:Nat):Int)=op by omega]
end
section
open Go
abbrev qCNe:=(1000000000:Nat)
abbrev qCNb:=(1:Int)
abbrev qCN8:=(1:Nat)
abbrev qCN5 (a0:List (List Nat)):=(List.length a0)
abbrev qCNl (a0:List (List Nat)):=(List.take (qCN5 a0) a0++ [[(45:Nat)]])
abbrev qCNc:=(0:Int)
abbrev qCNm (a0:List (List Nat)):=(List.take (qCN5 a0) a0++ [[(42:Nat)]])
abbrev qCNg (a0:Ex):=(Ex.op a0-(3:Int))
abbrev qCN2 (a0:Ex):=(Ex.mk (Ex.op a0) (Ex.n a0) (Ex.d0 a0) (Ex.d1 a0) (Ex.d2 a0) (Ex.d3 a0) (Ex.l a0))
abbrev qCNa:=(140737488355328:Nat)
abbrev qCNi (a0:List (List Nat)):=(List.length a0+qCN8)
abbrev qCNq:=(16:Nat)
abbrev qCNf (a0:List (List Nat)) (b0:List (List Nat)) (c0:Nat):=(List.length a0<=List.length a0/\fzO (some (b0,c0))<=List.length a0/\(qCNi a0)*qCNq<=qCNa)
abbrev qCN9 (a0:Ex):=(↑(List.length (Ex.l a0)):Int)
abbrev qCNj:=(8:Nat)
abbrev qCN1 (a0:Ex) (b0:List (List Nat)) (c0:List (List Nat)) (d0:Nat) (e0:Nat) (f0:List (List Nat)):=((wr IntKind.i64 (qCNg a0)==(↑(0:Nat):Int))=false->((wr IntKind.i64 (qCNg a0)==(↑((0:Nat)+qCN8):Int))=true->(qCNf b0 c0 d0)/\qCNc<=qCNb/\qCNb+qCNb<=(qCN9 a0)/\∀(x_2:Ex),(Ex.l a0)[Int.toNat qCNb]? =some x_2->True/\∀(y:Int),y=tightF (Ex.op a0)->(List.length b0+qCN8=List.length (qCNl b0)/\fzO (some (c0,d0))<=List.length (qCNl b0)/\Ex.sz (qCN2 x_2)+qCN8<=e0/\Yd (qCN2 x_2)=true/\qCN8<=List.length (qCNl b0)/\List.length (qCNl b0)+qCNj*Ex.sz (qCN2 x_2)+(10:Nat)<=qCNe)/\∀(l'_2:List (List Nat)),l'_2=List.take (qCN5 b0) b0++ [[(45:Nat)]]++par (Ex.op (qCN2 x_2)) (wr IntKind.i64 (y+qCNb)) (txX (qCN2 x_2))->l'_2=f0/\List.length l'_2=List.length f0/\fzO (some (List.take (qCN5 b0) b0++ [[(45:Nat)]],fzO (some (c0,d0))))=fzO (some (c0,d0)))/\((wr IntKind.i64 (qCNg a0)==(↑((0:Nat)+qCN8):Int))=false->((wr IntKind.i64 (qCNg a0)==(↑((0:Nat)+qCN8+qCN8):Int))=true->(qCNf b0 c0 d0)/\qCNc<=qCNb/\qCNb+qCNb<=(qCN9 a0)/\∀(x_2:Ex),(Ex.l a0)[Int.toNat qCNb]? =some x_2->True/\∀(y:Int),y=tightF (Ex.op a0)->(List.length b0+qCN8=List.length (qCNm b0)/\fzO (some (c0,d0))<=List.length (qCNm b0)/\Ex.sz (qCN2 x_2)+qCN8<=e0/\Yd (qCN2 x_2)=true/\qCN8<=List.length (qCNm b0)/\List.length (qCNm b0)+qCNj*Ex.sz (qCN2 x_2)+(10:Nat)<=qCNe)/\∀(l'_2:List (List Nat)),l'_2=List.take (qCN5 b0) b0++ [[(42:Nat)]]++par (Ex.op (qCN2 x_2)) (wr IntKind.i64 (y+qCNb)) (txX (qCN2 x_2))->l'_2=f0/\List.length l'_2=List.length f0/\fzO (some (List.take (qCN5 b0) b0++ [[(42:Nat)]],fzO (some (c0,d0))))=fzO (some (c0,d0)))/\((wr IntKind.i64 (qCNg a0)==(↑((0:Nat)+qCN8+qCN8):Int))=false->True)))
abbrev qCNn (a0:List (List Nat)):=(List.take (qCN5 a0) a0++ [[(43:Nat)]])
abbrev qCN3 (a0:Ex) (b0:List (List Nat)) (c0:List (List Nat)) (d0:Nat) (e0:Nat) (f0:List (List Nat)):=((wr IntKind.i64 (qCNg a0)==(↑(0:Nat):Int))=true->(qCNf b0 c0 d0)/\qCNc<=qCNb/\qCNb+qCNb<=(qCN9 a0)/\∀(x_2:Ex),(Ex.l a0)[Int.toNat qCNb]? =some x_2->True/\∀(y:Int),y=tightF (Ex.op a0)->(List.length b0+qCN8=List.length (qCNn b0)/\fzO (some (c0,d0))<=List.length (qCNn b0)/\Ex.sz (qCN2 x_2)+qCN8<=e0/\Yd (qCN2 x_2)=true/\qCN8<=List.length (qCNn b0)/\List.length (qCNn b0)+qCNj*Ex.sz (qCN2 x_2)+(10:Nat)<=qCNe)/\∀(l'_2:List (List Nat)),l'_2=List.take (qCN5 b0) b0++ [[(43:Nat)]]++par (Ex.op (qCN2 x_2)) (wr IntKind.i64 (y+qCNb)) (txX (qCN2 x_2))->l'_2=f0/\List.length l'_2=List.length f0/\fzO (some (List.take (qCN5 b0) b0++ [[(43:Nat)]],fzO (some (c0,d0))))=fzO (some (c0,d0)))
abbrev qCNo:=(40:Nat)
abbrev qCNh (a0:List (List Nat)) (b0:Nat):=(some (List.take (qCN5 a0) a0++ [[(105:Nat),(102:Nat)],[qCNo]],b0))
abbrev qCN4 (a0:List (List Nat)) (b0:List (List Nat)) (c0:Nat):=(some (List.take (qCN5 a0) a0++ [[(60:Nat)]],fzO (qCNh b0 c0)))
abbrev qCNp:=(44:Nat)
abbrev qCN6 (a0:List (List Nat)):=(List.take (qCN5 a0) a0++ [[qCNp]])
abbrev qCN7 (a0:List (List Nat)) (b0:Nat) (c0:Ex) (d0:Nat):=(List.length a0=List.length a0/\b0<=List.length a0/\Ex.sz (qCN2 c0)+qCN8<=d0/\Yd (qCN2 c0)=true/\qCN8<=List.length a0/\List.length a0+qCNj*Ex.sz (qCN2 c0)+(10:Nat)<=qCNe)
abbrev qCNd (a0:List (List Nat)):=(List.take (qCN5 a0) a0++ [[(105:Nat),(102:Nat)],[qCNo]])
abbrev qCNk (a0:List (List Nat)):=(List.take (qCN5 a0) a0++ [[(60:Nat)]])
abbrev qCNr (a0:List (List Nat)) (b0:List (List Nat)) (c0:List (List Nat)) (d0:Nat):=(some (List.take (qCN5 a0) a0++ [[qCNp]],fzO (qCN4 b0 c0 d0)))
theorem Ztm (m:Nat) (l:List (List Nat)) (fz:Nat) (x:Ex) (l':List (List Nat)):Zk E Fpu (vc E (Fxp' m) 400) 58 [.ptr 0 0,exA x] (hpP E Th.strs (some (l,fz))) 2 (prnK E Th.strs (some (l,fz)) l')=(
 ((Ex.op x==qCNb)=true->(qCNc<=Ex.n x/\Ex.n x+qCNb<=(10000000000000:Int))/\∀(y:List Nat),y=decN (Ex.n x)->(List.length l<=List.length l/\fz<=List.length l/\(qCNi l)*qCNq<=qCNa)/\(List.length l+qCN8=List.length (List.take (qCN5 l) l++ [y])/\fz<=List.length (List.take (qCN5 l) l++ [y])/\qCN8<=List.length (List.take (qCN5 l) l++ [y])/\List.length (List.take (qCN5 l) l++ [y])+qCNj<=qCNe)/\∀(l'_1:List (List Nat)),l'_1=List.take (qCN5 l) l++ [y]++txU [Ex.d0 x,Ex.d1 x,Ex.d2 x,Ex.d3 x]->l'_1=l'/\List.length l'_1=List.length l'/\fzO (some (List.take (qCN5 l) l++ [y],fz))=fzO (some (l,fz)))/\((Ex.op x==qCNb)=false->((Ex.op x==(2:Int))=true->qCNc<=Ex.n x/\Ex.n x+qCNb<=(↑(List.length (WK.words WK.at_)):Int)/\∀(x_1:List Nat),(WK.words WK.at_)[Int.toNat (Ex.n x)]? =some x_1->(List.length l<=List.length l/\fz<=List.length l/\(qCNi l)*qCNq<=qCNa)/\List.take (qCN5 l) l++ [x_1]=l'/\List.length l+qCN8=List.length l'/\fz=fzO (some (l,fz)))/\((Ex.op x==(2:Int))=false->((Ex.op x==(11:Int))=true->(List.length l<=List.length l/\fz<=List.length l/\(List.length l+(2:Nat))*qCNq<=qCNa)/\qCNc<=qCNc/\qCNc+qCNb<=(qCN9 x)/\∀(x_1:Ex),(Ex.l x)[Int.toNat qCNc]? =some x_1->(List.length l+(2:Nat)=List.length (qCNd l)/\fz<=List.length (qCNd l)/\Ex.sz (qCN2 x_1)+qCN8<=m/\Yd (qCN2 x_1)=true/\qCN8<=List.length (qCNd l)/\List.length (qCNd l)+qCNj*Ex.sz (qCN2 x_1)+qCNj<=qCNe)/\∀(l'_1:List (List Nat)),l'_1=List.take (qCN5 l) l++ [[(105:Nat),(102:Nat)],[qCNo]]++txX (qCN2 x_1)->(List.length l'_1<=List.length l'_1/\fzO (qCNh l fz)<=List.length l'_1/\(qCNi l'_1)*qCNq<=qCNa)/\qCNc<=qCNb/\qCNb+qCNb<=(qCN9 x)/\∀(x_2:Ex),(Ex.l x)[Int.toNat qCNb]? =some x_2->(List.length l'_1+qCN8=List.length (qCNk l'_1)/\fzO (qCNh l fz)<=List.length (qCNk l'_1)/\Ex.sz (qCN2 x_2)+qCN8<=m/\Yd (qCN2 x_2)=true/\qCN8<=List.length (qCNk l'_1)/\List.length (qCNk l'_1)+qCNj*Ex.sz (qCN2 x_2)+qCNj<=qCNe)/\∀(l'_2:List (List Nat)),l'_2=List.take (qCN5 l'_1) l'_1++ [[(60:Nat)]]++txX (qCN2 x_2)->(List.length l'_2<=List.length l'_2/\fzO (qCN4 l'_1 l fz)<=List.length l'_2/\(qCNi l'_2)*qCNq<=qCNa)/\qCNc<=(2:Int)/\(2:Int)+qCNb<=(qCN9 x)/\∀(x_3:Ex),(Ex.l x)[Int.toNat (2:Int)]? =some x_3->(List.length l'_2+qCN8=List.length (qCN6 l'_2)/\fzO (qCN4 l'_1 l fz)<=List.length (qCN6 l'_2)/\Ex.sz (qCN2 x_3)+qCN8<=m/\Yd (qCN2 x_3)=true/\qCN8<=List.length (qCN6 l'_2)/\List.length (qCN6 l'_2)+qCNj*Ex.sz (qCN2 x_3)+qCNj<=qCNe)/\∀(l'_3:List (List Nat)),l'_3=List.take (qCN5 l'_2) l'_2++ [[qCNp]]++txX (qCN2 x_3)->(List.length l'_3<=List.length l'_3/\fzO (qCNr l'_2 l'_1 l fz)<=List.length l'_3/\(qCNi l'_3)*qCNq<=qCNa)/\qCNc<=(3:Int)/\(3:Int)+qCNb<=(qCN9 x)/\∀(x_4:Ex),(Ex.l x)[Int.toNat (3:Int)]? =some x_4->(List.length l'_3+qCN8=List.length (qCN6 l'_3)/\fzO (qCNr l'_2 l'_1 l fz)<=List.length (qCN6 l'_3)/\Ex.sz (qCN2 x_4)+qCN8<=m/\Yd (qCN2 x_4)=true/\qCN8<=List.length (qCN6 l'_3)/\List.length (qCN6 l'_3)+qCNj*Ex.sz (qCN2 x_4)+qCNj<=qCNe)/\∀(l'_4:List (List Nat)),l'_4=List.take (qCN5 l'_3) l'_3++ [[qCNp]]++txX (qCN2 x_4)->(List.length l'_4<=List.length l'_4/\fzO (some (List.take (qCN5 l'_3) l'_3++ [[qCNp]],fzO (qCNr l'_2 l'_1 l fz)))<=List.length l'_4/\(qCNi l'_4)*qCNq<=qCNa)/\List.take (qCN5 l'_4) l'_4++ [[(41:Nat)]]=l'/\List.length l'_4+qCN8=List.length l'/\fzO (some (List.take (qCN5 l'_3) l'_3++ [[qCNp]],fzO (qCNr l'_2 l'_1 l fz)))=fzO (some (l,fz)))/\((Ex.op x==(11:Int))=false->((Ex.op x==(3:Int))=true->qCNc<=qCNc/\qCNc+qCNb<=(qCN9 x)/\∀(x_1:Ex),(Ex.l x)[Int.toNat qCNc]? =some x_1->True/\∀(y:Int),y=tightF (Ex.op x)->(qCN7 l fz x_1 m)/\∀(l'_1:List (List Nat)),l'_1=l++par (Ex.op (qCN2
x_1)) y (txX (qCN2 x_1))->qCNc<=wr IntKind.i64 (qCNg x)/\wr IntKind.i64 (qCNg x)+qCNb<=(↑(3:Nat):Int)/\(qCN3 x l'_1 l fz m l')/\(qCN1 x l'_1 l fz m l'))/\((Ex.op x==(3:Int))=false->((Ex.op x==(4:Int))=true->qCNc<=qCNc/\qCNc+qCNb<=(qCN9 x)/\∀(x_1:Ex),(Ex.l x)[Int.toNat qCNc]? =some x_1->True/\∀(y:Int),y=tightF (Ex.op x)->(qCN7 l fz x_1 m)/\∀(l'_1:List (List Nat)),l'_1=l++par (Ex.op (qCN2 x_1)) y (txX (qCN2 x_1))->qCNc<=wr IntKind.i64 (qCNg x)/\wr IntKind.i64 (qCNg x)+qCNb<=(↑(3:Nat):Int)/\(qCN3 x l'_1 l fz m l')/\(qCN1 x l'_1 l fz m l'))/\((Ex.op x==(4:Int))=false->((Ex.op x==(5:Int))=true->qCNc<=qCNc/\qCNc+qCNb<=(qCN9 x)/\∀(x_1:Ex),(Ex.l x)[Int.toNat qCNc]? =some x_1->True/\∀(y:Int),y=tightF (Ex.op x)->(qCN7 l fz x_1 m)/\∀(l'_1:List (List Nat)),l'_1=l++par (Ex.op (qCN2 x_1)) y (txX (qCN2 x_1))->qCNc<=wr IntKind.i64 (qCNg x)/\wr IntKind.i64 (qCNg x)+qCNb<=(↑(3:Nat):Int)/\(qCN3 x l'_1 l fz m l')/\(qCN1 x l'_1 l fz m l'))/\((Ex.op x==(5:Int))=false->qCNc<=wr IntKind.i64 (Ex.op x-(6:Int))/\wr IntKind.i64 (Ex.op x-(6:Int))+qCNb<=(↑(List.length (WK.words WK.ca)):Int)/\∀(x_1:List Nat),(WK.words WK.ca)[Int.toNat (wr IntKind.i64 (Ex.op x-(6:Int)))]? =some x_1->(List.length l<=List.length l/\fz<=List.length l/\(List.length l+(2:Nat))*qCNq<=qCNa)/\qCNc<=qCNc/\qCNc+qCNb<=(qCN9 x)/\∀(x_2:Ex),(Ex.l x)[Int.toNat qCNc]? =some x_2->(List.length l+(2:Nat)=List.length (List.take (qCN5 l) l++ [x_1,[qCNo]])/\fz<=List.length (List.take (qCN5 l) l++ [x_1,[qCNo]])/\Ex.sz (qCN2 x_2)+qCN8<=m/\Yd (qCN2 x_2)=true/\qCN8<=List.length (List.take (qCN5 l) l++ [x_1,[qCNo]])/\List.length (List.take (qCN5 l) l++ [x_1,[qCNo]])+qCNj*Ex.sz (qCN2 x_2)+qCNj<=qCNe)/\∀(l'_1:List (List Nat)),l'_1=List.take (qCN5 l) l++ [x_1,[qCNo]]++txX (qCN2 x_2)->(List.length l'_1<=List.length l'_1/\fzO (some (List.take (qCN5 l) l++ [x_1,[qCNo]],fz))<=List.length l'_1/\(qCNi l'_1)*qCNq<=qCNa)/\qCNc<=qCNb/\qCNb+qCNb<=(qCN9 x)/\∀(x_3:Ex),(Ex.l x)[Int.toNat qCNb]? =some x_3->(List.length l'_1+qCN8=List.length (qCN6 l'_1)/\fzO (some (List.take (qCN5 l) l++ [x_1,[qCNo]],fz))<=List.length (qCN6 l'_1)/\Ex.sz (qCN2 x_3)+qCN8<=m/\Yd (qCN2 x_3)=true/\qCN8<=List.length (qCN6 l'_1)/\List.length (qCN6 l'_1)+qCNj*Ex.sz (qCN2 x_3)+qCNj<=qCNe)/\∀(l'_2:List (List Nat)),l'_2=List.take (qCN5 l'_1) l'_1++ [[qCNp]]++txX (qCN2 x_3)->(List.length l'_2<=List.length l'_2/\fzO (some (List.take (qCN5 l'_1) l'_1++ [[qCNp]],fzO (some (List.take (qCN5 l) l++ [x_1,[qCNo]],fz))))<=List.length l'_2/\(qCNi l'_2)*qCNq<=qCNa)/\List.take (qCN5 l'_2) l'_2++ [[(41:Nat)]]=l'/\List.length l'_2+qCN8=List.length l'/\fzO (some (List.take (qCN5 l'_1) l'_1++ [[qCNp]],fzO (some (List.take (qCN5 l) l++ [x_1,[qCNo]],fz))))=fzO (some (l,fz))))))))):=by kernel_rfl
theorem Ydo (op n a b c d:Int) (l:List Ex):Ex.op (.mk op n a b c d l)=op:=rfl
theorem n_mk (op n a b c d:Int) (l:List Ex):Ex.n (.mk op n a b c d l)=n:=rfl
theorem Ydp (op n a b c d:Int) (l:List Ex):Ex.d0 (.mk op n a b c d l)=a:=rfl
theorem Ydq (op n a b c d:Int) (l:List Ex):Ex.d1 (.mk op n a b c d l)=b:=rfl
theorem Ydr (op n a b c d:Int) (l:List Ex):Ex.d2 (.mk op n a b c d l)=c:=rfl
theorem Yds (op n a b c d:Int) (l:List Ex):Ex.d3 (.mk op n a b c d l)=d:=rfl
theorem l_mk (op n a b c d:Int) (l:List Ex):Ex.l (.mk op n a b c d l)=l:=rfl
theorem u_mk (op n a b c d:Int) (l:List Ex):Ex.u (.mk op n a b c d l)= [a,b,c,d]:=rfl
theorem len4 {α:Type} {l:List α} (h:l.length=4):∃a b c d,l= [a,b,c,d]:=by
 match l,h with
 | [a,b,c,d],_=>exact ⟨a,b,c,d,rfl⟩
theorem Zn6 (op least:Int) (t:List (List Nat)):(par op least t).length<=t.length+2:=by
 unfold par
 split
 · omega
 · simp
theorem Zrl:∀m,PxOk m
 |0=>fun x h=>by omega
 |m+1=>by
  intro x hx hf l fz hfz h1 hl
  have hm:=Zrl m
  refine Zd1 E_ok (Wa E_ok Zr6 fun f N c=>(Zks E_ok (Z8w hm) 400 f N c).1) rfl ?_
  show Zk E Fpu (vc E (Fxp' m) 400) 58 [.ptr 0 0,exA x] (hpP E Th.strs (some (l,fz))) 2 (prnK E Th.strs (some (l,fz)) (l++txX x))
  rw [Ztm];delta qCNe qCNb qCN8 qCN5 qCNl qCNc qCNm qCNg qCN2 qCNa qCNi qCNq qCNf qCN9 qCNj qCN1 qCNn qCN3 qCNo qCNh qCN4 qCNp qCN6 qCN7 qCNd qCNk qCNr
  simp only [fzO,List.take_length,Ex.eta,forall_eq,beq_iff_eq,beq_eq_false_iff_ne,ne_eq]
  rw [Zer,Bool.and_eq_true] at hf
  obtain ⟨hh,hfl⟩:=hf
  have hkf:∀y∈x.l,Yd y=true:=formL_iff.1 hfl
  rw [Ex.sz_eq] at hx hl
  obtain ⟨op,n,a,b,c,d,xs⟩:=x
  simp only [Ydo,n_mk,Ydp,Ydq,Ydr,Yds,l_mk,u_mk] at*
  obtain ⟨g1,g2,g3,g4,g5,g6,g7⟩:=Zc7 hh
  have htx:txX (.mk op n a b c d xs)=txN op n [a,b,c,d] (xs.map Ex.op) (txL xs):=by rw [txX]
  rw [htx]
  clear hh hfl htx
  have w0:wr .i64 0=0:=by decide
  have w1:wr .i64 1=1:=by decide
  have w2:wr .i64 2=2:=by decide
  have w3:wr .i64 3=3:=by decide
  have t3:tightF 3=1:=rfl
  have t4:tightF 4=1:=rfl
  have t5:tightF 5=2:=rfl
  refine ⟨fun q1=> ?_,fun q1=>⟨fun q2=> ?_,fun q2=>⟨fun q3=> ?_,fun q3=>⟨fun q4=> ?_,fun q4=>⟨fun q5=> ?_,fun q5=>⟨fun q6=> ?_,fun q6=> ?_⟩⟩⟩⟩⟩⟩
  · subst q1
    have h4:n<=1099511627776:=g4
    refine ⟨⟨g3,by omega⟩,⟨Nat.le_refl _,hfz,by omega⟩,⟨by simp,by simp;omega,by simp,by simp;omega⟩,?_⟩
    simp [txN]
  · subst q2
    have h4:n<=15:=g4
    have L:WK.at_.words.length=16:=rfl
    refine ⟨g3,by rw [L];omega,fun w hw=>⟨⟨Nat.le_refl _,hfz,by omega⟩,?_⟩⟩
    have:WK.at_.words.getD n.toNat []=w:=by simp [List.getD,hw]
    unfold txN
    rw [if_neg (by decide),if_pos rfl,this]
    simp
  · subst q3
    obtain ⟨x1,x2,x3,x4,rfl⟩:=len4 (show xs.length=4 from g5)
    have s:x1.sz+(x2.sz+(x3.sz+(x4.sz+0)))+1<m+1:=hx
    have s':l.length+8*(x1.sz+(x2.sz+(x3.sz+(x4.sz+0)))+1)+8<=1000000000:=hl
    have p1:=Yy x1
    have p2:=Yy x2
    have p3:=Yy x3
    have p4:=Yy x4
    have f1:=hkf x1 (by simp)
    have f2:=hkf x2 (by simp)
    have f3:=hkf x3 (by simp)
    have f4:=hkf x4 (by simp)
    simp [f1,f2,f3,f4,txN,txS,txL,sIf,Xa,Zcq,Z3,Zz]
    omega
  · subst q4
    obtain ⟨x1,x2,rfl⟩:=len2 (show xs.length=2 from g5)
    have s:x1.sz+(x2.sz+0)+1<m+1:=hx
    have s':l.length+8*(x1.sz+(x2.sz+0)+1)+8<=1000000000:=hl
    have p1:=Yy x1
    have p2:=Yy x2
    have f1:=hkf x1 (by simp)
    have f2:=hkf x2 (by simp)
    have r1:=Zn6 x1.op 1 (txX x1)
    simp [w0,w1,w2,w3,t3,f1,f2,txN,txL,sgnO,Zbh]
    omega
  · subst q5
    obtain ⟨x1,x2,rfl⟩:=len2 (show xs.length=2 from g5)
    have s:x1.sz+(x2.sz+0)+1<m+1:=hx
    have s':l.length+8*(x1.sz+(x2.sz+0)+1)+8<=1000000000:=hl
    have p1:=Yy x1
    have p2:=Yy x2
    have f1:=hkf x1 (by simp)
    have f2:=hkf x2 (by simp)
    have r1:=Zn6 x1.op 1 (txX x1)
    simp [w0,w1,w2,w3,t4,f1,f2,txN,txL,sgnO,Vi]
    omega
  · subst q6
    obtain ⟨x1,x2,rfl⟩:=len2 (show xs.length=2 from g5)
    have s:x1.sz+(x2.sz+0)+1<m+1:=hx
    have s':l.length+8*(x1.sz+(x2.sz+0)+1)+8<=1000000000:=hl
    have p1:=Yy x1
    have p2:=Yy x2
    have f1:=hkf x1 (by simp)
    have f2:=hkf x2 (by simp)
    have r1:=Zn6 x1.op 2 (txX x1)
    simp [w0,w1,w2,w3,t5,f1,f2,txN,txL,sgnO,sMul]
    omega
  · have L:WK.ca.words.length=5:=rfl
    obtain ⟨x1,x2,rfl⟩:=len2 (show xs.length=2 by rw [g5];unfold Z0k;rw [if_neg (by omega),if_neg (by omega)])
    have s:x1.sz+(x2.sz+0)+1<m+1:=hx
    have s':l.length+8*(x1.sz+(x2.sz+0)+1)+8<=1000000000:=hl
    have p1:=Yy x1
    have p2:=Yy x2
    have f1:=hkf x1 (by simp)
    have f2:=hkf x2 (by simp)
    have wo:wr .i64 (op-6)=op-6:=wr64 (by omega) (by omega)
    simp only [wo]
    refine ⟨by omega,by rw [L];omega,fun w hw=> ?_⟩
    have e:WK.ca.words.getD (op-6).toNat []=w:=by simp [List.getD,hw]
    have q7:¬(op=3\/op=4\/op=5):=by omega
    unfold txN
    rw [if_neg q1,if_neg q2,if_neg q3,if_neg q7,e]
    simp [f1,f2,txS,txL,Xa,Z3,Zz]
    omega
end
section
open Go
def CsOk:List (List Nat)->List Cls->Prop
 |_,[]=>True
 |seen,c::r=>Wo c=true/\resF c.name=false/\c.name∉seen/\c.when_.length<=8/\Z0 c.pay<=24/\CsOk (c.name::seen) r
def Z7t (m:List (List Nat×Bool)) (seen:List (List Nat)):Prop:=∀a,(Ys m a).getD false=decide (a∈seen)
theorem Zx0 {m:List (List Nat×Bool)} {seen:List (List Nat)} (h:Z7t m seen) (a:List Nat):Z7t (putS m a true) (a::seen):=by
 intro b
 rw [Zfs]
 by_cases e:a=b
 · rw [if_pos e]
   subst e
   simp
 · rw [if_neg e,h b]
   simp [Ne.symm e]
theorem Zri:∀(cs:List Cls) (a b:Bool) (m:List (List Nat×Bool)) (seen:List (List Nat)),Z7t m seen->(goC a b m cs=0↔a=false/\b=false/\CsOk seen cs)
 | [],a,b,m,seen,hm=>by
  unfold goC CsOk
  cases a<;>cases b<;>decide
 |c::r,a,b,m,seen,hm=>by
  rw [Zin]
  unfold CsOk
  by_cases hc:Wo c=true
  · rw [if_pos hc,Zri r _ _ _ _ (Zx0 hm c.name),hm c.name]
    simp only [Bool.or_eq_false_iff,decide_eq_false_iff_not]
    constructor
    · rintro ⟨⟨⟨h1,h2⟩,h3⟩,⟨⟨h4,h5⟩,h6⟩,h7⟩
      exact ⟨h1,h4,hc,h2,h3,by omega,by omega,h7⟩
    · rintro ⟨h1,h4,_,h2,h3,h5,h6,h7⟩
      exact ⟨⟨⟨h1,h2⟩,h3⟩,⟨⟨h4,by omega⟩,by omega⟩,h7⟩
  · rw [if_neg hc]
    constructor
    · intro h
      cases h
    · rintro ⟨_,_,h,_⟩
      exact absurd h hc
theorem Vt (t:Tar):X8 t=0↔W9 t.name=true/\1<=t.for_/\t.for_<=6/\resF t.name=false/\t.clauses.length<=64/\CsOk [] t.clauses:=by
 unfold X8
 split
 · rename_i h
   rw [Zri _ _ _ _ [] (fun a=>by simp [Ys])]
   rw [decide_eq_false_iff_not]
   constructor
   · rintro ⟨h1,h2,h3⟩
     exact ⟨h.1,h.2.1,h.2.2,h1,by omega,h3⟩
   · rintro ⟨_,_,_,h1,h2,h3⟩
     exact ⟨h1,by omega,h3⟩
 · rename_i h
   constructor
   · intro k
     cases k
   · rintro ⟨h1,h2,h3,_⟩
     exact absurd ⟨h1,h2,h3⟩ h
theorem Zfq (i:Nat) (w:Tst) (r:List Tst):txTs i (w::r)=(if i=0 then Zfj else sAnd)::(txW w++txTs (i+1) r):=rfl
theorem Zi9 {n:Int} (h0:0<=n) (h1:n<=1099511627776) (r:List Tok) (e:Int):pInt (tkS (decN n)::r) e= .ok (n,r,e,()):=by
 rw [Zx7 h0 h1]
 rfl
theorem Wy {w:Tst} (h:Z8 w=true):0<=w.attr/\w.attr<16/\0<=w.low/\w.low<=1099511627776/\0<=w.high/\w.high<=1099511627776:=of_decide_eq_true h
theorem Z2h (w:Tst):(⟨w.attr,w.low,w.high⟩:Tst)=w:=rfl
theorem Zll {w:Tst} (h:Z8 w=true) {n:Int} (hn:n≠8) (r:List Tok) (e:Int):Wp n (TS (txW w)++r) e= .ok (w,r,e,()):=by
 obtain ⟨a0,a1,l0,l1,h0,h1⟩:=Wy h
 have hk:w.attr.toNat<WK.at_.words.length:=by show w.attr.toNat<16;omega
 unfold txW
 rw [Zfh,List.cons_append]
 unfold Wp Ya
 rw [Zdv hk,if_pos (by omega)]
 dsimp only [List.tail_cons]
 rw [if_neg hn,show ((w.attr.toNat:Nat):Int)=w.attr by omega]
 by_cases hq:w.low=w.high
 · rw [if_pos hq]
   have e1:TS [sIs,decN w.low]++r=tkS sIs::tkS (decN w.low)::r:=rfl
   rw [e1,if_pos (show isW sIs (tkS sIs::tkS (decN w.low)::r)=true from rfl),List.tail_cons,Zi9 l0 l1]
   dsimp only
   conv=>rhs;rw [<-Z2h w,<-hq]
 · rw [if_neg hq]
   have e1:TS [sIn,decN w.low,Zb5,decN w.high]++r=tkS sIn::tkS (decN w.low)::tkS Zb5::tkS (decN w.high)::r:=rfl
   rw [e1,if_neg (show ¬isW sIs (tkS sIn::tkS (decN w.low)::tkS Zb5::tkS (decN w.high)::r)=true from Bool.false_ne_true),
    if_pos (show isW sIn (tkS sIn::tkS (decN w.low)::tkS Zb5::tkS (decN w.high)::r)=true from rfl),List.tail_cons,Zi9 l0 l1]
   dsimp only
   rw [if_pos (show isW Zb5 (tkS Zb5::tkS (decN w.high)::r)=true from rfl),List.tail_cons,Zi9 h0 h1]
theorem Zja (k:Nat) (ts:List Tst) (l:List Tok) (e:Int):pTs k false ts l e= .ok (ts,l,e,()):=by
 cases k with
 |zero=>rfl
 |succ k=>unfold pTs;rw [if_neg Bool.false_ne_true]
theorem Zhj {e:Int} {r:List Tok} (hr:isW [97,110,100] r=false):∀(ws:List Tst) (i k:Nat) (ts:List Tst),1<=i->(∀w∈ws,Z8 w=true)->ws.length<k->ts.length+ws.length<=8->
 pTs k (isW [97,110,100] (TS (txTs i ws)++r)) ts (if isW [97,110,100] (TS (txTs i ws)++r) then (TS (txTs i ws)++r).tail else TS (txTs i ws)++r) e= .ok (ts++ws,r,e,())
 | [],i,k,ts,hi,hw,hk,hl=>by
  have e1:TS (txTs i [])++r=r:=rfl
  rw [e1,hr,if_neg Bool.false_ne_true,Zja,List.append_nil]
 |w::ws,i,0,ts,hi,hw,hk,hl=>by simp at hk
 |w::ws,i,k+1,ts,hi,hw,hk,hl=>by
  have e1:TS (txTs i (w::ws))++r=tkS sAnd::(TS (txW w)++(TS (txTs (i+1) ws)++r)):=by
   rw [Zfq,if_neg (by omega),Zfh,Zk3,List.cons_append,List.append_assoc]
  have e2:isW [97,110,100] (tkS sAnd::(TS (txW w)++(TS (txTs (i+1) ws)++r)))=true:=rfl
  rw [e1,e2,if_pos rfl,List.tail_cons]
  unfold pTs
  rw [if_pos rfl,Zll (hw w (by simp)) (by simp at hl;omega)]
  dsimp only
  rw [Zhj hr ws (i+1) k (ts++ [w]) (by omega) (fun w h=>hw w (by simp [h])) (by simpa using hk) (by simp at hl⊢;omega)]
  rw [List.append_assoc]
  rfl
theorem Zn4 {e:Int} {r:List Tok} (hr:isW [97,110,100] r=false) (hr2:isW [119,104,101,110] r=false) (ws:List Tst) (hw:∀w∈ws,Z8 w=true) (hl:ws.length<=8):
 pTs 10 (isW [119,104,101,110] (TS (txTs 0 ws)++r)) [] (if isW [119,104,101,110] (TS (txTs 0 ws)++r) then (TS (txTs 0 ws)++r).tail else TS (txTs 0 ws)++r) e= .ok (ws,r,e,()):=by
 cases ws with
 |nil=>
  have e1:TS (txTs 0 [])++r=r:=rfl
  rw [e1,hr2,if_neg Bool.false_ne_true,Zja]
 |cons w ws=>
  have e1:TS (txTs 0 (w::ws))++r=tkS Zfj::(TS (txW w)++(TS (txTs 1 ws)++r)):=by
   rw [Zfq,if_pos rfl,Zfh,Zk3,List.cons_append,List.append_assoc]
  have e2:isW [119,104,101,110] (tkS Zfj::(TS (txW w)++(TS (txTs 1 ws)++r)))=true:=rfl
  rw [e1,e2,if_pos rfl,List.tail_cons]
  unfold pTs
  rw [if_pos rfl,Zll (hw w (by simp)) (by simp)]
  dsimp only
  rw [Zhj hr ws 1 9 _ (Nat.le_refl _) (fun w h=>hw w (by simp [h])) (by simp at hl;omega) (by simp at hl⊢;omega)]
  rfl
theorem Zfr (c:Cls) (r:List Cls):txCs (c::r)=txC c++txCs r:=rfl
theorem Zlm {s:List Nat} (h:W9 s=true) (hr:resF s=false) (r:List Tok) (e:Int):Ua (tkS s::r) e= .ok (s,r,e,()):=by
 rw [Zjf h]
 show (if (1:Int)=1 then (if s∈resW then (.error (0,161):PR (List Nat)) else .ok (s,r,e,())) else .error (0,160))=_
 rw [if_pos rfl,if_neg (of_decide_eq_false hr)]
theorem Vu {c:Cls} (h:Wo c=true):W9 c.name=true/\Yd c.pay=true/\∀w∈c.when_,Z8 w=true:=by
 unfold Wo at h
 rw [Bool.and_eq_true,Bool.and_eq_true] at h
 exact ⟨h.1.1,h.1.2,List.all_eq_true.1 h.2⟩
theorem Zn5 {c:Cls} {bs:List Cls} (h1:Wo c=true) (h2:resF c.name=false) (h3:bs.any (fun b=>b.name==c.name)=false) (h4:c.when_.length<=8) (h5:Z0 c.pay<=24) (r:List Tok) (e:Int):
 Z5 bs (TS (c.name::(txTs 0 c.when_++sPay::(txX c.pay++ [Zf6])))++r) e= .ok (c,r,e,()):=by
 obtain ⟨k1,k2,k3⟩:=Vu h1
 have e1:TS (c.name::(txTs 0 c.when_++sPay::(txX c.pay++ [Zf6])))++r=tkS c.name::(TS (txTs 0 c.when_)++tkS sPay::(TS (txX c.pay)++tkS Zf6::r)):=by simp
 rw [e1]
 unfold Z5
 rw [Zlm k1 h2]
 dsimp only
 rw [if_neg (by rw [h3];decide),Zn4 (r:=tkS sPay::(TS (txX c.pay)++tkS Zf6::r)) rfl rfl _ k3 h4]
 unfold pAft pPay
 dsimp only
 rw [if_pos (show isW [112,97,121] (tkS sPay::(TS (txX c.pay)++tkS Zf6::r))=true from rfl),List.tail_cons,(rdb c.pay k2).all (Z1f r) e]
 dsimp only
 rw [if_neg (by omega),if_pos (show isW [59] (tkS Zf6::r)=true from rfl)]
 rfl
theorem any_name {bs:List Cls} {a:List Nat}:bs.any (fun b=>b.name==a)=false↔a∉bs.map Cls.name:=by
 rw [List.any_eq_false]
 simp only [List.mem_map,not_exists,not_and]
 constructor
 · intro h b hb e
   exact h b hb (by rw [e];exact beq_self_eq_true a)
 · intro h b hb e
   exact h b hb (eq_of_beq e)
theorem CsOk.congr:∀{cs:List Cls} {s s':List (List Nat)},(∀a,a∈s↔a∈s')->CsOk s cs->CsOk s' cs
 | [],_,_,_,_=>trivial
 |c::r,s,s',h,⟨h1,h2,h3,h4,h5,h6⟩=>⟨h1,h2,fun k=>h3 ((h _).2 k),h4,h5,CsOk.congr (fun a=>by simp [h a]) h6⟩
theorem Zdu {e:Int} {r:List Tok} (hr:isW [99,108,97,117,115,101] r=false):∀(cs bs:List Cls) (k:Nat),CsOk (bs.map Cls.name) cs->cs.length<k->bs.length+cs.length<=64->
 pCls k bs (TS (txCs cs)++r) e= .ok (bs++cs,r,e,())
 | [],bs,0,_,hk,_=>by simp at hk
 | [],bs,k+1,_,_,_=>by
  have e1:TS (txCs [])++r=r:=rfl
  unfold pCls
  rw [e1,hr,if_neg Bool.false_ne_true,List.append_nil]
 |c::cs,bs,0,_,hk,_=>by simp at hk
 |c::cs,bs,k+1,h,hk,hl=>by
  obtain ⟨h1,h2,h3,h4,h5,h6⟩:=h
  have e1:TS (txCs (c::cs))++r=tkS Xq::(TS (c.name::(txTs 0 c.when_++sPay::(txX c.pay++ [Zf6])))++(TS (txCs cs)++r)):=by
   rw [Zfr]
   unfold txC
   rw [Zk3,Zfh,List.append_assoc,List.cons_append]
  rw [e1]
  unfold pCls
  rw [if_pos (show isW [99,108,97,117,115,101] (tkS Xq::_)=true from rfl),if_neg (by simp at hl;omega),List.tail_cons,Zn5 h1 h2 (any_name.2 h3) h4 h5]
  dsimp only
  rw [Zdu hr cs (bs++ [c]) k (CsOk.congr (fun a=>by simp [or_comm]) h6) (by simpa using hk) (by simp at hl⊢;omega)]
  rw [List.append_assoc]
  rfl
theorem Z2i {t:Tar} (h:X8 t=0) (e:Int):pTar (TS (Zbl t)) e= .ok (t,[],e,()):=by
 obtain ⟨h1,h2,h3,h4,h5,h6⟩:=(Vt t).1 h
 have e1:TS (Zbl t)=tkS Zf7::tkS t.name::tkS sFor::tkS (WK.ki.words.getD (t.for_-1).toNat [])::tkS sLb::(TS (txCs t.clauses)++ [tkS sRb]):=by
  unfold Zbl
  simp
 have hk:(t.for_-1).toNat<WK.ki.words.length:=by show (t.for_-1).toNat<6;omega
 rw [e1]
 unfold pTar
 rw [if_pos (show isW [116,97,114,105,102,102] (tkS Zf7::_)=true from rfl),List.tail_cons,Zlm h1 h4]
 dsimp only
 rw [if_pos (show isW [102,111,114] (tkS sFor::_)=true from rfl),List.tail_cons]
 unfold Ya
 rw [Zdv hk,if_pos (by omega)]
 dsimp only
 rw [List.tail_cons,if_pos (show isW [123] (tkS sLb::_)=true from rfl),List.tail_cons]
 have hlen:∀cs:List Cls,cs.length<=(txCs cs).length:=by
  intro cs
  induction cs with
  |nil=>exact Nat.le_refl _
  |cons c r ih=>
   rw [Zfr]
   unfold txC
   simp
   omega
 rw [Zdu (r:= [tkS sRb]) rfl t.clauses [] _ h6 (by have:=hlen t.clauses;simp;omega) (by simpa using h5)]
 unfold pEnd
 dsimp only
 rw [if_pos (show isW [125] [tkS sRb]=true from rfl),if_neg (by simp)]
 have:wr .i64 (1+(((t.for_-1).toNat:Nat):Int))=t.for_:=by
  rw [wr64 (by omega) (by omega)]
  omega
 rw [this]
 rfl
end
section
open Go
abbrev PP (β:Type):=List Tok->Int->PR β
section
variable {α β : Type}
def Okp (rel:β->β->Prop) (p:PP β) (l:List Tok) (y:β) (k:Nat):Prop:=
 k<=l.length/\∀(l':List Tok) (m:Nat) (f:Int),l'.map sT=(l.map sT).take m->
  (k<=m->p l' f= .ok (y,l'.drop k,f,()))/\(m<k->p l' f= .error (f,160)\/∃y',rel y' y/\p l' f= .ok (y',[],f,()))
def ErrS (p:PP β) (l:List Tok) (e:Int) (er:Int×Int):Prop:=∃(j:Nat) (c:Int),er=(hdT e (l.drop j),c)/\(c=2\/c=160\/c=161)/\∀(l':List Tok) (f:Int),l'.map sT=l.map sT->p l' f= .error (hdT f (l'.drop j),c)
def Gd (rel:β->β->Prop) (p:PP β):Prop:=∀l e,(∀y x,p l e= .ok (y,x)->∃k,x=(l.drop k,e,())/\Okp rel p l y k)/\∀er,p l e= .error er->ErrS p l e er
theorem ErrS.hd {p:PP β} {l:List Tok} {e:Int} {c:Int} (hc:c=2\/c=160\/c=161) (h:∀(l':List Tok) (f:Int),l'.map sT=l.map sT->p l' f= .error (hdT f l',c)):ErrS p l e (hdT e l,c):=⟨0,c,rfl,hc,h⟩
theorem Zb6 {l l':List Tok} (h:l'.map sT=l.map sT):l'.map sT=(l.map sT).take l.length:=by rw [h,List.take_of_length_le (by simp)]
theorem Gd.mono {rel rel':β->β->Prop} {p:PP β} (h:Gd rel p) (hr:∀a b,rel a b->rel' a b):Gd rel' p:=by
 intro l e
 refine ⟨fun y x hy=> ?_,(h l e).2⟩
 obtain ⟨k,h1,h2,h3⟩:=(h l e).1 y x hy
 refine ⟨k,h1,h2,fun l' m f hl=>⟨(h3 l' m f hl).1,fun hm=>((h3 l' m f hl).2 hm).imp id ?_⟩⟩
 rintro ⟨y',h4,h5⟩
 exact ⟨y',hr _ _ h4,h5⟩
def pR (y:β):PP β:=fun l e=> .ok (y,l,e,())
def pSyn:PP β:=fun l e=> .error (hdT e l,160)
theorem Vo {l':List Tok} {m:Nat} (h:l'.map sT=(([]:List Tok).map sT).take m):l'= []:=by
 rw [List.map_nil,List.take_nil] at h
 exact List.map_eq_nil_iff.1 h
theorem gd_R (rel:β->β->Prop) (y:β):Gd rel (pR y):=by
 intro l e
 refine ⟨fun z x h=> ?_,fun er h=>by cases h⟩
 unfold pR at h
 cases h
 refine ⟨0,rfl,Nat.zero_le _,fun l' m f _=>⟨fun _=>rfl,fun h=>by omega⟩⟩
theorem V5 (rel:β->β->Prop):Gd rel (pSyn:PP β):=by
 intro l e
 refine ⟨fun z x h=>(by cases h),fun er h=> ?_⟩
 unfold pSyn at h
 cases h
 exact .hd (by simp) fun l' f _=>rfl
def pBc (p:PP α) (c:α->Bool) (code:Int) (q:α->PP β):PP β:=fun l e=>
 match p l e with
 | .error er=> .error er
 | .ok (y,x)=>if c y then .error (hdT e l,code) else q y x.1 x.2.1
def pB (p:PP α) (q:α->PP β):PP β:=fun l e=>
 match p l e with
 | .error er=> .error er
 | .ok (y,x)=>q y x.1 x.2.1
theorem Zwy {l':List Tok} {l:List Tok} {m k:Nat} (h:l'.map sT=(l.map sT).take m):(l'.drop k).map sT=((l.drop k).map sT).take (m-k):=by
 rw [List.map_drop,h,List.map_drop,List.drop_take]
theorem Z1q {rel:α->α->Prop} {rel':β->β->Prop} {p:PP α} {c:α->Bool} {code:Int} {q:α->PP β} (hp:Gd rel p) (hq:∀y,Gd rel' (q y)) (hcode:code=2\/code=160\/code=161) (hc:∀y y',rel y' y->c y=false->c y'=false)
 (h0:∀y y' l e z x,rel y' y->q y l e= .ok (z,x)->∀f,q y' [] f= .error (f,160)\/∃z',rel' z' z/\q y' [] f= .ok (z',[],f,())):Gd rel' (pBc p c code q):=by
 intro l e
 have E:∀l e,pBc p c code q l e=match p l e with| .error er=> .error er| .ok (y,x)=>if c y then .error (hdT e l,code) else q y x.1 x.2.1:=fun _ _=>rfl
 rw [E]
 cases h:p l e with
 |error er=>
  refine ⟨fun z x h=>(by cases h),fun er' h'=> ?_⟩
  cases h'
  obtain ⟨j,c0,h1,h2,h3⟩:=(hp l e).2 er h
  exact ⟨j,c0,h1,h2,fun l' f hl=>by rw [E,h3 l' f hl]⟩
 |ok y=>
  obtain ⟨y,x⟩:=y
  obtain ⟨k1,rfl,h1,h2⟩:=(hp l e).1 y x h
  dsimp only
  cases hcy:c y with
  |true=>
   refine ⟨fun z x h=>(by cases h),fun er' h'=> ?_⟩
   cases h'
   refine .hd hcode fun l' f hl=> ?_
   rw [E,(h2 l' l.length f (Zb6 hl)).1 h1]
   dsimp only
   rw [hcy,if_pos rfl]
  |false=>
   rw [if_neg Bool.false_ne_true]
   refine ⟨fun z x2 hz=> ?_,fun er' h'=> ?_⟩
   rotate_left
   · obtain ⟨j,c0,h3,h4,h5⟩:=(hq y _ _).2 er' h'
     refine ⟨k1+j,c0,by rw [h3,List.drop_drop],h4,fun l' f hl=> ?_⟩
     rw [E,(h2 l' l.length f (Zb6 hl)).1 h1]
     dsimp only
     rw [hcy,if_neg Bool.false_ne_true,h5 (l'.drop k1) f (by rw [List.map_drop,hl,List.map_drop]),List.drop_drop]
   obtain ⟨k2,rfl,h3,h4⟩:=(hq y _ _).1 z x2 hz
   rw [List.length_drop] at h3
   refine ⟨k1+k2,by rw [List.drop_drop],by omega,fun l' m f hl=> ?_⟩
   have hd:=Zwy (k:=k1) hl
   rw [E]
   refine ⟨fun hm=> ?_,fun hm=> ?_⟩
   · rw [(h2 l' m f hl).1 (by omega)]
     dsimp only
     rw [hcy,if_neg Bool.false_ne_true,(h4 _ _ f hd).1 (by omega),List.drop_drop]
   · by_cases hk:k1<=m
     · rw [(h2 l' m f hl).1 hk]
       dsimp only
       rw [hcy,if_neg Bool.false_ne_true]
       exact (h4 _ _ f hd).2 (by omega)
     · rcases (h2 l' m f hl).2 (by omega) with h5|⟨y',h5,h6⟩
       · rw [h5]
         exact .inl rfl
       · rw [h6]
         dsimp only
         rw [hc y y' h5 hcy,if_neg Bool.false_ne_true]
         exact h0 y y' _ _ z _ h5 hz f
theorem Ydc (p:PP α) (q:α->PP β):pB p q=pBc p (fun _=>false) 2 q:=by
 funext l e
 unfold pB pBc
 cases p l e with
 |error er=>rfl
 |ok y=>rfl
theorem gd_b {rel:α->α->Prop} {rel':β->β->Prop} {p:PP α} {q:α->PP β} (hp:Gd rel p) (hq:∀y,Gd rel' (q y))
 (h0:∀y y' l e z x,rel y' y->q y l e= .ok (z,x)->∀f,q y' [] f= .error (f,160)\/∃z',rel' z' z/\q y' [] f= .ok (z',[],f,())):Gd rel' (pB p q):=by
 rw [Ydc]
 exact Z1q hp hq (by simp) (fun _ _ _ _=>rfl) h0
def pIf (s:List Nat) (A B:PP β):PP β:=fun l e=>if isW s l then A l.tail e else B l e
theorem Wi {t t':Tok} (h:sT t'=sT t):t'.kind=t.kind/\t'.text=t.text/\t'.n=t.n:=by
 unfold sT atT at h
 injection h with h1 h2 h3 h4
 exact ⟨h1,h2,h3⟩
theorem Zk5 {s:List Nat} {t t':Tok} {r r':List Tok} (h:sT t'=sT t):isW s (t'::r')=isW s (t::r):=by
 obtain ⟨h1,h2,_⟩:=Wi h
 show (!(t'.kind==2)&&t'.text==s)=(!(t.kind==2)&&t.text==s)
 rw [h1,h2]
theorem Y1 {l' l:List Tok} {m:Nat} (h:l'.map sT=(l.map sT).take m):(l'= []/\(m=0\/l= []))\/∃t' r' t r m',l'=t'::r'/\l=t::r/\m=m'+1/\sT t'=sT t/\r'.map sT=(r.map sT).take m':=by
 cases m with
 |zero=>
  rw [List.take_zero] at h
  exact .inl ⟨List.map_eq_nil_iff.1 h,.inl rfl⟩
 |succ m=>
  cases l with
  |nil=>exact .inl ⟨Vo h,.inr rfl⟩
  |cons t r=>
   cases l' with
   |nil=>simp at h
   |cons t' r'=>
    rw [List.map_cons,List.map_cons,List.take_succ_cons] at h
    injection h with h1 h2
    exact .inr ⟨t',r',t,r,m,rfl,rfl,rfl,h1,h2⟩
theorem V9 {rel:β->β->Prop} {s:List Nat} {A B:PP β} (hA:Gd rel A) (hB:Gd rel B) (h0:∀l e y x,A l e= .ok (y,x)->∀f,B [] f= .error (f,160)\/∃y',rel y' y/\B [] f= .ok (y',[],f,())):Gd rel (pIf s A B):=by
 intro l e
 have E:∀l e,pIf s A B l e=if isW s l then A l.tail e else B l e:=fun _ _=>rfl
 rw [E]
 cases hw:isW s l with
 |true=>
  rw [if_pos rfl]
  cases l with
  |nil=>cases hw
  |cons t r=>
   refine ⟨fun y x hy=> ?_,fun er h=> ?_⟩
   rotate_left
   · obtain ⟨j,c0,h3,h4,h5⟩:=(hA r e).2 er h
     refine ⟨j+1,c0,h3,h4,fun l' f hl=> ?_⟩
     rcases Y1 (Zb6 hl) with ⟨rfl,h6⟩|⟨t',r',t2,r2,m',rfl,h6,h7,h8,h9⟩
     · simp at hl
     · cases h6
       rw [E,Zk5 (r':=r') (r:=r) h8,hw,if_pos rfl]
       refine h5 r' f ?_
       simpa using (List.cons.inj hl).2
   obtain ⟨k,rfl,h1,h2⟩:=(hA r e).1 y x hy
   refine ⟨k+1,rfl,by simpa using h1,fun l' m f hl=> ?_⟩
   rw [E]
   rcases Y1 hl with ⟨rfl,h3⟩|⟨t',r',t2,r2,m',rfl,h3,rfl,h4,h5⟩
   · have hm:m=0:=by
      rcases h3 with h3|h3
      · exact h3
      · cases h3
     subst hm
     refine ⟨fun h=>by omega,fun _=> ?_⟩
     rw [show isW s []=false from rfl,if_neg Bool.false_ne_true]
     exact h0 _ _ _ _ hy f
   · cases h3
     rw [Zk5 (r':=r') (r:=r) h4,hw,if_pos rfl]
     exact ⟨fun hm=>(h2 r' m' f h5).1 (by omega),fun hm=>(h2 r' m' f h5).2 (by omega)⟩
 |false=>
  rw [if_neg Bool.false_ne_true]
  have nW:∀(l':List Tok) (m:Nat),l'.map sT=(l.map sT).take m->isW s l'=false:=by
   intro l' m hl
   rcases Y1 hl with ⟨rfl,_⟩|⟨t',r',t,r,m',rfl,rfl,rfl,h4,h5⟩
   · rfl
   · rw [Zk5 (r:=r) h4]
     exact hw
  refine ⟨fun y x hy=> ?_,fun er h=> ?_⟩
  rotate_left
  · obtain ⟨j,c0,h3,h4,h5⟩:=(hB l e).2 er h
    refine ⟨j,c0,h3,h4,fun l' f hl=> ?_⟩
    rw [E,nW l' l.length (Zb6 hl),if_neg Bool.false_ne_true]
    exact h5 l' f hl
  obtain ⟨k,rfl,h1,h2⟩:=(hB l e).1 y x hy
  refine ⟨k,rfl,h1,fun l' m f hl=> ?_⟩
  rw [E]
  have:=nW l' m hl
  rw [this,if_neg Bool.false_ne_true]
  exact h2 l' m f hl
def pOne (c:Tok->Bool) (v:Tok->β):PP β:=fun l e=>
 match l with
 | []=> .error (e,160)
 |t::r=>if c (sT t) then .ok (v (sT t),r,e,()) else .error (t.at_,160)
theorem Z5e (rel:β->β->Prop) (c:Tok->Bool) (v:Tok->β):Gd rel (pOne c v):=by
 intro l e
 cases l with
 |nil=>
  refine ⟨fun y x hy=>(by cases hy),fun er h=> ?_⟩
  cases h
  refine .hd (by simp) fun l' f hl=> ?_
  have:l'= []:=Vo (m:=0) (by simpa using hl)
  subst this
  rfl
 |cons t r=>
  have E:∀t r e,pOne c v (t::r) e=if c (sT t) then .ok (v (sT t),r,e,()) else .error (t.at_,160):=fun _ _ _=>rfl
  rw [E]
  cases hc:c (sT t) with
  |false=>
   rw [if_neg Bool.false_ne_true]
   refine ⟨fun y x hy=>(by cases hy),fun er h=> ?_⟩
   cases h
   refine .hd (l:=t::r) (by simp) fun l' f hl=> ?_
   cases l' with
   |nil=>simp at hl
   |cons t' r'=>
    have h1:sT t'=sT t:=(List.cons.inj hl).1
    rw [E,h1,hc,if_neg Bool.false_ne_true]
    rfl
  |true=>
   rw [if_pos rfl]
   refine ⟨fun y x hy=> ?_,fun er h=>(by cases h)⟩
   cases hy
   refine ⟨1,rfl,by simp,fun l' m f hl=> ?_⟩
   rcases Y1 hl with ⟨rfl,h3⟩|⟨t',r',t2,r2,m',rfl,h3,rfl,h4,h5⟩
   · have hm:m=0:=by
      rcases h3 with h3|h3
      · exact h3
      · cases h3
     subst hm
     exact ⟨fun h=>by omega,fun _=> .inl rfl⟩
   · cases h3
     rw [E,h4,hc,if_pos rfl]
     exact ⟨fun _=>rfl,fun h=>by omega⟩
def pOpt (c:Tok->Bool) (v:Tok->β) (z:β):PP β:=fun l e=>
 match l with
 | []=> .ok (z,[],e,())
 |t::r=>if c (sT t) then .ok (v (sT t),r,e,()) else .ok (z,t::r,e,())
theorem Zwz (c:Tok->Bool) (v:Tok->β) (z:β):Gd (fun a _=>a=z) (pOpt c v z):=by
 intro l e
 cases l with
 |nil=>
  refine ⟨fun y x hy=> ?_,fun er h=>(by cases h)⟩
  cases hy
  refine ⟨0,rfl,Nat.zero_le _,fun l' m f hl=>⟨fun _=> ?_,fun h=>by omega⟩⟩
  have:l'= []:=Vo hl
  subst this
  rfl
 |cons t r=>
  have E:∀t r e,pOpt c v z (t::r) e=if c (sT t) then .ok (v (sT t),r,e,()) else .ok (z,t::r,e,()):=fun _ _ _=>rfl
  rw [E]
  cases hc:c (sT t) with
  |false=>
   rw [if_neg Bool.false_ne_true]
   refine ⟨fun y x hy=> ?_,fun er h=>(by cases h)⟩
   cases hy
   refine ⟨0,rfl,Nat.zero_le _,fun l' m f hl=>⟨fun _=> ?_,fun h=>by omega⟩⟩
   rcases Y1 hl with ⟨rfl,_⟩|⟨t',r',t2,r2,m',rfl,h3,rfl,h4,h5⟩
   · rfl
   · cases h3
     rw [E,h4,hc,if_neg Bool.false_ne_true]
     rfl
  |true=>
   rw [if_pos rfl]
   refine ⟨fun y x hy=> ?_,fun er h=>(by cases h)⟩
   cases hy
   refine ⟨1,rfl,by simp,fun l' m f hl=> ?_⟩
   rcases Y1 hl with ⟨rfl,h3⟩|⟨t',r',t2,r2,m',rfl,h3,rfl,h4,h5⟩
   · have hm:m=0:=by
      rcases h3 with h3|h3
      · exact h3
      · cases h3
     subst hm
     exact ⟨fun h=>by omega,fun _=> .inr ⟨z,rfl,rfl⟩⟩
   · cases h3
     rw [E,h4,hc,if_pos rfl]
     exact ⟨fun _=>rfl,fun h=>by omega⟩
end
abbrev NoR {β:Type}:β->β->Prop:=fun _ _=>False
abbrev AnyR {β:Type}:β->β->Prop:=fun _ _=>True
abbrev NeR:Ex->Ex->Prop:=fun a b=>Z0 a<=Z0 b
theorem Z1r:pInt=pOne (fun t=>t.kind=2) (fun t=>t.n):=by
 funext l e
 cases l with
 |nil=>rfl
 |cons t r=>
  show (if t.kind=2 then _ else _)=(if decide (t.kind=2)=true then _ else _)
  by_cases h:t.kind=2
  · rw [if_pos h,if_pos (decide_eq_true h)]
    rfl
  · rw [if_neg h,if_neg (by simpa using h)]
theorem Zw0 (ws:List (List Nat)):Ya ws=pOne (fun t=>decide (0<=chz ws [t])) (fun t=>chz ws [t]):=by
 funext l e
 cases l with
 |nil=>rfl
 |cons t r=>
  have h1:chz ws (t::r)=chz ws [sT t]:=rfl
  unfold Ya pOne
  dsimp only
  rw [h1]
  by_cases h:0<=chz ws [sT t]
  · rw [if_pos h,if_pos (decide_eq_true h)]
    rfl
  · rw [if_neg h,if_neg (by simpa using h)]
    rfl
theorem Znq (ws:List (List Nat)):Zm ws=pOpt (fun t=>decide (0<=chz ws [t])) (fun t=>(chz ws [t],true,())) (0,false,()):=by
 funext l e
 cases l with
 |nil=>rfl
 |cons t r=>
  have h1:chz ws (t::r)=chz ws [sT t]:=rfl
  unfold Zm pOpt
  dsimp only
  rw [h1]
  by_cases h:0<=chz ws [sT t]
  · rw [if_pos h,if_pos (decide_eq_true h)]
    rfl
  · rw [if_neg h,if_neg (by simpa using h)]
theorem Zw1:Gd NoR pInt:=by rw [Z1r];exact Z5e _ _ _
theorem Zi1 (ws:List (List Nat)):Gd NoR (Ya ws):=by rw [Zw0];exact Z5e _ _ _
theorem Zk6 (ws:List (List Nat)):Gd (fun a _=>a=(0,false,())) (Zm ws):=by rw [Znq];exact Zwz _ _ _
theorem Zal (t:Tok) (r:List Tok) (e:Int):Ua (t::r) e=if t.kind=1 then (if t.text∈resW then .error (t.at_,161) else .ok (t.text,r,e,())) else .error (t.at_,160):=rfl
theorem Zw2:Gd NoR Ua:=by
 intro l e
 cases l with
 |nil=>
  refine ⟨fun y x hy=>(by cases hy),fun er h=> ?_⟩
  cases h
  refine .hd (l:= []) (by simp) fun l' f hl=> ?_
  have:l'= []:=Vo (m:=0) (by simpa using hl)
  subst this
  rfl
 |cons t r=>
  have sim:∀(l':List Tok),l'.map sT=(t::r).map sT->∃t' r',l'=t'::r'/\t'.kind=t.kind/\t'.text=t.text:=by
   intro l' hl
   cases l' with
   |nil=>simp at hl
   |cons t' r'=>
    obtain ⟨g1,g2,_⟩:=Wi (List.cons.inj hl).1
    exact ⟨t',r',rfl,g1,g2⟩
  rw [Zal]
  split
  · rename_i hk
    split
    · rename_i hr
      refine ⟨fun y x hy=>(by cases hy),fun er h=> ?_⟩
      cases h
      refine .hd (l:=t::r) (by simp) fun l' f hl=> ?_
      obtain ⟨t',r',rfl,g1,g2⟩:=sim l' hl
      rw [Zal,g1,g2,if_pos hk,if_pos hr]
      rfl
    · rename_i hr
      refine ⟨fun y x hy=> ?_,fun er h=>(by cases h)⟩
      cases hy
      refine ⟨1,rfl,by simp,fun l' m f hl=> ?_⟩
      rcases Y1 hl with ⟨rfl,h3⟩|⟨t',r',t2,r2,m',rfl,h3,rfl,h4,h5⟩
      · have hm:m=0:=by
         rcases h3 with h3|h3
         · exact h3
         · cases h3
        subst hm
        exact ⟨fun h=>by omega,fun _=> .inl rfl⟩
      · cases h3
        obtain ⟨g1,g2,_⟩:=Wi h4
        refine ⟨fun _=> ?_,fun h=>by omega⟩
        rw [Zal,g1,g2,if_pos hk,if_neg hr]
        rfl
  · rename_i hk
    refine ⟨fun y x hy=>(by cases hy),fun er h=> ?_⟩
    cases h
    refine .hd (l:=t::r) (by simp) fun l' f hl=> ?_
    obtain ⟨t',r',rfl,g1,g2⟩:=sim l' hl
    rw [Zal,g1,if_neg hk]
    rfl
theorem Z64:Xd=pB (Zm WK.un.words) fun y=>pIf sPer (pB (Ya WK.un.words) fun j=>pR (decD (if y.2.1 then incD [0,0,0,0] y.1 else [0,0,0,0]) j)) (pR (if y.2.1 then incD [0,0,0,0] y.1 else [0,0,0,0])):=by
 funext l e
 unfold Xd pB pIf
 cases Zm WK.un.words l e with
 |error er=>rfl
 |ok y=>
  dsimp only
  split
  · cases Ya WK.un.words y.2.1.tail y.2.2.1 with
    |error er=>rfl
    |ok z=>rfl
  · rfl
theorem Z65:Gd AnyR Xd:=by
 rw [Z64]
 refine gd_b (Zk6 _) (fun y=>V9 (gd_b (Zi1 _) (fun j=>gd_R _ _) (fun _ _ _ _ _ _ h=>h.elim)) (gd_R _ _) fun l e y x _ f=> .inr ⟨_,trivial,rfl⟩) ?_
 intro y y' l e z x _ _ f
 exact .inr ⟨_,trivial,rfl⟩
theorem Z66 (n:Int):Wp n=pBc (Ya WK.at_.words) (fun _=>decide (n=8)) 2 fun a=>pIf sIs (pB pInt fun m=>pR ⟨a,m,m⟩) (pIf sIn (pB pInt fun m=>pIf Zb5 (pB pInt fun k=>pR ⟨a,m,k⟩) pSyn) pSyn):=by
 funext l e
 unfold Wp pBc pIf pB
 cases Ya WK.at_.words l e with
 |error er=>rfl
 |ok y=>
  dsimp only
  by_cases hn:n=8
  · rw [if_pos hn,if_pos (decide_eq_true hn)]
  · rw [if_neg hn,if_neg (show ¬decide (n=8)=true by simpa using hn)]
    split
    · cases pInt y.2.1.tail y.2.2.1 with
      |error er=>rfl
      |ok z=>rfl
    · split
      · cases pInt y.2.1.tail y.2.2.1 with
        |error er=>rfl
        |ok z=>
         dsimp only
         split
         · cases pInt z.2.1.tail z.2.2.1 with
           |error er=>rfl
           |ok u=>rfl
         · rfl
      · rfl
theorem Z67 (n:Int):Gd NoR (Wp n):=by
 rw [Z66]
 refine Z1q (Zi1 _) (fun a=> ?_) (by simp) (fun _ _ h=>h.elim) (fun _ _ _ _ _ _ h=>h.elim)
 refine V9 (gd_b Zw1 (fun m=>gd_R _ _) (fun _ _ _ _ _ _ h=>h.elim)) (V9 (gd_b Zw1 (fun m=> ?_) (fun _ _ _ _ _ _ h=>h.elim)) (V5 _) fun _ _ _ _ _ f=> .inl rfl) fun _ _ _ _ _ f=> .inl rfl
 exact V9 (gd_b Zw1 (fun k=>gd_R _ _) (fun _ _ _ _ _ _ h=>h.elim)) (V5 _) fun _ _ _ _ _ f=> .inl rfl
theorem Ydd (k:Nat) (ts:List Tst):pTs (k+1) true ts=pB (Wp ts.length) fun t=>pIf [97,110,100] (pTs k true (ts++ [t])) (pTs k false (ts++ [t])):=by
 funext l e
 unfold pB pIf
 rw [pTs,if_pos rfl]
 cases Wp ts.length l e with
 |error er=>rfl
 |ok y=>
  dsimp only
  cases isW [97,110,100] y.2.1<;>rfl
theorem Z68 (k:Nat) (ts:List Tst):pTs k false ts=pR ts:=by
 funext l e
 exact Zja k ts l e
theorem Z69:∀(k:Nat) (more:Bool) (ts:List Tst),Gd AnyR (pTs k more ts)
 |0,more,ts=>gd_R _ ts
 |k+1,false,ts=>by rw [Z68];exact gd_R _ _
 |k+1,true,ts=>by
  rw [Ydd]
  refine gd_b (Z67 _) (fun t=>V9 (Z69 k true _) (Z69 k false _) fun _ _ _ _ _ f=> .inr ⟨ts++ [t],trivial,by rw [Z68];rfl⟩) (fun _ _ _ _ _ _ h=>h.elim)
theorem Yas (pe:PE) (s:List Nat) (r:List (List Nat)) (acc:List Ex):pOpL pe (s::r) acc=pB pe fun x=>pIf s (pOpL pe r (acc++ [x])) pSyn:=by
 funext l e
 rw [pOpL]
 unfold pB pIf pSyn
 cases pe l e with
 |error er=>rfl
 |ok y=>rfl
theorem Z5f {pe:PE} (h:Gd NeR pe):∀(ss:List (List Nat)) (acc:List Ex),Gd NoR (pOpL pe ss acc)
 | [],acc=>gd_R _ acc
 |s::r,acc=>by
  rw [Yas]
  exact gd_b h (fun x=>V9 (Z5f h r _) (V5 _) fun _ _ _ _ _ f=> .inl rfl) fun _ _ _ _ _ _ _ _ f=> .inl rfl
theorem Yat (pe:PE) (op:Int) (ss:List (List Nat)):pOps pe op ss=pIf Xa (pB (pOpL pe ss []) fun xs=>pR (.mk op 0 0 0 0 0 xs)) pSyn:=by
 funext l e
 unfold pOps pIf pB pSyn
 split
 · cases pOpL pe ss [] l.tail e with
   |error er=>rfl
   |ok y=>rfl
 · rfl
theorem Z5g {pe:PE} (h:Gd NeR pe) (op:Int) (ss:List (List Nat)):Gd NoR (pOps pe op ss):=by
 rw [Yat]
 exact V9 (gd_b (Z5f h ss []) (fun xs=>gd_R _ _) (fun _ _ _ _ _ _ h=>h.elim)) (V5 _) fun _ _ _ _ _ f=> .inl rfl
theorem Z7a (pe:PE):U1 pe=pIf Xa (pB pe fun x=>pIf Zz (pR x) pSyn) (pIf sIf (pOps pe 11 [Zcq,Z3,Z3,Zz]) (pB (Zm WK.ca.words) fun k=>if k.2.1 then pOps pe (6+k.1) [Z3,Zz] else pB (Ya WK.at_.words) fun a=>pR (.mk 2 a 0 0 0 0 []))):=by
 funext l e
 unfold U1 pIf pB pSyn
 split
 · cases pe l.tail e with
   |error er=>rfl
   |ok y=>rfl
 · split
   · rfl
   · cases Zm WK.ca.words l e with
     |error er=>rfl
     |ok y=>
      dsimp only
      cases y.1.2.1 with
      |true=>rfl
      |false=>
       rw [if_neg Bool.false_ne_true,if_neg Bool.false_ne_true]
       cases Ya WK.at_.words y.2.1 y.2.2.1 with
       |error er=>rfl
       |ok z=>rfl
theorem Z7b {pe:PE} (h:Gd NeR pe):Gd NoR (U1 pe):=by
 rw [Z7a]
 refine V9 (gd_b h (fun x=>V9 (gd_R _ _) (V5 _) fun _ _ _ _ _ f=> .inl rfl) fun _ _ _ _ _ _ _ _ f=> .inl rfl) (V9 (Z5g h _ _) (gd_b (Zk6 _) (fun k=> ?_) ?_) fun _ _ _ _ _ f=> .inl rfl) fun _ _ _ _ _ f=> .inl rfl
 · split
   · exact Z5g h _ _
   · exact gd_b (Zi1 _) (fun a=>gd_R _ _) (fun _ _ _ _ _ _ h=>h.elim)
 · rintro y y' l e z x rfl _ f
   exact .inl rfl
theorem Yau {pe:PE} (h:Gd NeR pe):Gd NeR (pFac pe):=by
 have h2:=(Z7b h).mono (rel':=NeR) fun _ _ h=>h.elim
 intro l e
 cases l with
 |nil=>
  obtain ⟨g1,g2⟩:=h2 [] e
  refine ⟨fun y x hy=> ?_,fun er h=> ?_⟩
  rotate_left
  · obtain ⟨j,c0,h3,h4,h5⟩:=g2 er h
    refine ⟨j,c0,h3,h4,fun l' f hl=> ?_⟩
    have e1:l'= []:=Vo (m:=0) (by simpa using hl)
    subst e1
    exact h5 [] f rfl
  obtain ⟨k,hx,hk,ho⟩:=g1 y x hy
  refine ⟨k,hx,hk,fun l' m f hl=> ?_⟩
  have e1:l'= []:=Vo hl
  have:=ho l' m f hl
  subst e1
  exact this
 |cons t r=>
  have key:∀(t:Tok) (r:List Tok) (e:Int),pFac pe (t::r) e=if t.kind=2 then pB Xd (fun d=>pR (.mk 1 t.n (d.getD 0 0) (d.getD 1 0) (d.getD 2 0) (d.getD 3 0) [])) r e else U1 pe (t::r) e:=by
   intro t r e
   show (if t.kind=2 then _ else _)=_
   split
   · unfold pB
     cases Xd r e with
     |error er=>rfl
     |ok y=>rfl
   · rfl
  rw [key]
  by_cases hk:t.kind=2
  · rw [if_pos hk]
    have hg:Gd NeR (pB Xd fun d=>pR (.mk 1 t.n (d.getD 0 0) (d.getD 1 0) (d.getD 2 0) (d.getD 3 0) [])):=by
     refine gd_b Z65 (fun d=>gd_R _ _) ?_
     intro y y' l e z x _ hz f
     unfold pR at hz
     cases hz
     exact .inr ⟨.mk 1 t.n (y'.getD 0 0) (y'.getD 1 0) (y'.getD 2 0) (y'.getD 3 0) [],by show Z0 _<=Z0 _;simp [Z0],rfl⟩
    refine ⟨fun y x hy=> ?_,fun er h=> ?_⟩
    rotate_left
    · obtain ⟨j,c0,h3,h4,h5⟩:=(hg r e).2 er h
      refine ⟨j+1,c0,h3,h4,fun l' f hl=> ?_⟩
      cases l' with
      |nil=>simp at hl
      |cons t' r'=>
       obtain ⟨g1,_,g3⟩:=Wi (List.cons.inj hl).1
       rw [key,g1,g3,if_pos hk]
       exact h5 r' f (List.cons.inj hl).2
    obtain ⟨k,rfl,h1,h2⟩:=(hg r e).1 y x hy
    refine ⟨k+1,rfl,by simpa using h1,fun l' m f hl=> ?_⟩
    rcases Y1 hl with ⟨rfl,h3⟩|⟨t',r',t2,r2,m',rfl,h3,rfl,h4,h5⟩
    · have hm:m=0:=by
       rcases h3 with h3|h3
       · exact h3
       · cases h3
      subst hm
      exact ⟨fun h=>by omega,fun _=> .inl rfl⟩
    · cases h3
      obtain ⟨g1,_,g3⟩:=Wi h4
      rw [key,g1,g3,if_pos hk]
      exact ⟨fun hm=>(h2 r' m' f h5).1 (by omega),fun hm=>(h2 r' m' f h5).2 (by omega)⟩
  · rw [if_neg hk]
    obtain ⟨g1,g2⟩:=h2 (t::r) e
    refine ⟨fun y x hy=> ?_,fun er h=> ?_⟩
    rotate_left
    · obtain ⟨j,c0,h3,h4,h5⟩:=g2 er h
      refine ⟨j,c0,h3,h4,fun l' f hl=> ?_⟩
      cases l' with
      |nil=>simp at hl
      |cons t' r'=>
       obtain ⟨q1,_,_⟩:=Wi (List.cons.inj hl).1
       rw [key,q1,if_neg hk]
       exact h5 _ f hl
    obtain ⟨k,hx,hk',ho⟩:=g1 y x hy
    refine ⟨k,hx,hk',fun l' m f hl=> ?_⟩
    have:=ho l' m f hl
    rcases Y1 hl with ⟨rfl,h3⟩|⟨t',r',t2,r2,m',rfl,h3,rfl,h4,h5⟩
    · exact this
    · cases h3
      obtain ⟨q1,_,_⟩:=Wi h4
      rw [key,q1,if_neg hk]
      exact this
theorem Z1s:pOp op1=pOpt (fun t=>isW sMul [t]) (fun _=>5) 0:=by
 funext l e
 cases l with
 |nil=>rfl
 |cons t r=>
  unfold pOp pOpt op1
  dsimp only
  rw [show isW sMul (t::r)=isW sMul [sT t] from rfl]
  split<;>rfl
theorem Z1t:pOp op2=pOpt (fun t=>isW Zbh [t]||isW Vi [t]) (fun t=>if isW Zbh [t] then 3 else 4) 0:=by
 funext l e
 cases l with
 |nil=>rfl
 |cons t r=>
  unfold pOp pOpt op2
  dsimp only
  rw [show isW Zbh (t::r)=isW Zbh [sT t] from rfl,show isW Vi (t::r)=isW Vi [sT t] from rfl]
  by_cases h1:isW Zbh [sT t]=true
  · simp [h1]
  · by_cases h2:isW Vi [sT t]=true
    · simp [h1,h2]
    · simp [h1,h2]
theorem Yav:Gd (fun a _=>a=0) (pOp op1):=by rw [Z1s];exact Zwz _ _ _
theorem Yaw:Gd (fun a _=>a=0) (pOp op2):=by rw [Z1t];exact Zwz _ _ _
theorem Yax (op:Int) (x y:Ex):Z0 (.mk op 0 0 0 0 0 [x,y])=max (Z0 x) (Z0 y)+1:=by simp [Z0,Zeb]
theorem Zw3 (o:List Tok->Int×List Tok) (pf:PE) (k:Nat) (x:Ex) (op:Int):Yu o pf (k+1) x op=if op=0 then pR x else pB pf fun y=>pB (pOp o) fun op'=>Yu o pf k (.mk op 0 0 0 0 0 [x,y]) op':=by
 funext l e
 rw [Yu]
 split
 · rfl
 · unfold pB pOp
   cases pf l e with
   |error er=>rfl
   |ok y=>rfl
theorem Zi2 (o:List Tok->Int×List Tok) (pf:PE) (k:Nat) (x:Ex):Yu o pf k x 0=pR x:=by
 cases k with
 |zero=>rfl
 |succ k=>rw [Zw3,if_pos rfl]
theorem Up {o:List Tok->Int×List Tok} {pf:PE}:∀{k:Nat} {x:Ex} {op:Int} {l:List Tok} {e:Int} {z:Ex} {y:PX},Yu o pf k x op l e= .ok (z,y)->Z0 x<=Z0 z
 |0,x,op,l,e,z,y,h=>by
  unfold Yu at h
  cases h
  exact Nat.le_refl _
 |k+1,x,op,l,e,z,y,h=>by
  unfold Yu at h
  split at h
  · cases h
    exact Nat.le_refl _
  · split at h
    · cases h
    · have:=Up h
      rw [Yax] at this
      omega
theorem b_ok {α β:Type} {p:PP α} {q:α->PP β} {l:List Tok} {e:Int} {z:β×PX} (h:pB p q l e= .ok z):∃y x,p l e= .ok (y,x)/\q y x.1 x.2.1= .ok z:=by
 unfold pB at h
 split at h
 · cases h
 · exact ⟨_,_,by assumption,h⟩
theorem Zw4 {o:List Tok->Int×List Tok} (ho:Gd (fun a _=>a=0) (pOp o)) (ho0:o []=(0,[])) {pf:PE} (h:Gd NeR pf):∀(k:Nat) (x:Ex) (op:Int),Gd NeR (Yu o pf k x op)
 |0,x,op=>gd_R _ x
 |k+1,x,op=>by
  rw [Zw3]
  split
  · exact gd_R _ _
  · refine gd_b h (fun y=>gd_b ho (fun op'=>Zw4 ho ho0 h k _ op') ?_) ?_
    · rintro op1 op2 l e z x2 rfl hz f
      rw [Zi2]
      exact .inr ⟨_,Up hz,rfl⟩
    · intro y y' l e z x2 hy hz f
      obtain ⟨op',x3,_,hz⟩:=b_ok hz
      have h1:=Up hz
      refine .inr ⟨.mk op 0 0 0 0 0 [x,y'],?_,?_⟩
      · have hy:Z0 y'<=Z0 y:=hy
        show Z0 _<=Z0 z
        rw [Yax] at h1⊢
        omega
      · unfold pB pOp
        rw [ho0]
        dsimp only
        rw [Zi2]
        rfl
def pChN (o:List Tok->Int×List Tok) (pf:PE) (N:Nat):PE:=pB pf fun y=>pB (pOp o) fun op=>Yu o pf N y op
theorem Yay {o:List Tok->Int×List Tok} (ho:Gd (fun a _=>a=0) (pOp o)) (ho0:o []=(0,[])) {pf:PE} (h:Gd NeR pf) (N:Nat):Gd NeR (pChN o pf N):=by
 unfold pChN
 refine gd_b h (fun y=>gd_b ho (fun op=>Zw4 ho ho0 h N y op) ?_) ?_
 · rintro op1 op2 l e z x2 rfl hz f
   rw [Zi2]
   exact .inr ⟨_,Up hz,rfl⟩
 · intro y y' l e z x2 hy hz f
   obtain ⟨op',x3,_,hz⟩:=b_ok hz
   have h1:=Up hz
   refine .inr ⟨y',Nat.le_trans hy h1,?_⟩
   unfold pB pOp
   rw [ho0]
   dsimp only
   rw [Zi2]
   rfl
theorem Yde {o:List Tok->Int×List Tok} (ho:∀l,(o l).2.length<=l.length) {pf:PE} (hp:Shr pf) {N:Nat} {l:List Tok} (hl:l.length<N) (e:Int):pCh o pf l e=pChN o pf N l e:=by
 unfold pCh pChN pB pOp
 cases hq:pf l e with
 |error er=>rfl
 |ok y=>
  have h1:=hp _ _ _ _ hq
  have h2:=ho y.2.1
  exact Zc6 ho hp _ _ _ _ _ _ (by omega) (by omega)
theorem Z7c {β:Type} {rel:β->β->Prop} {p:PP β} (q:Nat->PP β) (hq:∀N,Gd rel (q N)) (h:∀N l e,l.length<N->p l e=q N l e):Gd rel p:=by
 intro l e
 have h1:=h (l.length+1) l e (Nat.lt_succ_self _)
 rw [h1]
 refine ⟨fun y x hy=> ?_,fun er h'=> ?_⟩
 rotate_left
 · obtain ⟨j,c0,h3,h4,h5⟩:=(hq _ l e).2 er h'
   refine ⟨j,c0,h3,h4,fun l' f hl=> ?_⟩
   have hlen:=congrArg List.length hl
   rw [List.length_map,List.length_map] at hlen
   rw [h (l.length+1) l' f (by omega)]
   exact h5 l' f hl
 obtain ⟨k,hx,hk,ho⟩:=(hq _ l e).1 y x hy
 refine ⟨k,hx,hk,fun l' m f hl=> ?_⟩
 have hlen:l'.length<=l.length:=by
  have:=congrArg List.length hl
  rw [List.length_map,List.length_take,List.length_map] at this
  omega
 rw [h (l.length+1) l' f (by omega)]
 exact ho l' m f hl
theorem Yaz {o:List Tok->Int×List Tok} (hle:∀l,(o l).2.length<=l.length) (ho:Gd (fun a _=>a=0) (pOp o)) (ho0:o []=(0,[])) {pf:PE} (hp:Shr pf) (h:Gd NeR pf):Gd NeR (pCh o pf):=
 Z7c (pChN o pf) (Yay ho ho0 h) fun N l e hl=>Yde hle hp hl e
theorem gd_E:∀n,Gd NeR (pE n)
 |0=>V5 _
 |n+1=>by
  unfold pE
  exact Yaz Zqz Yaw rfl (Zbi Zdf (Wz (V7 n))).shr (Yaz Zqy Yav rfl (Ziy (V7 n)) (Yau (gd_E n)))
theorem gd_X:Gd NeR pX:=Z7c pE gd_E fun N l e hl=>(Z49 N l e hl).symm
theorem Ya0 (nm:List Nat) (ts:List Tst):pPay nm ts=pIf [112,97,121] (pBc pX (fun x=>decide (24<Z0 x)) 2 fun x=>pIf [59] (pR ⟨nm,ts,x⟩) pSyn) pSyn:=by
 funext l e
 unfold pPay pIf pBc pSyn
 split
 · cases pX l.tail e with
   |error er=>rfl
   |ok y=>
    dsimp only
    by_cases h:24<Z0 y.1
    · rw [if_pos h,if_pos (decide_eq_true h)]
    · rw [if_neg h,if_neg (show ¬decide (24<Z0 y.1)=true by simpa using h)]
      rfl
 · rfl
theorem Z5h (nm:List Nat) (ts:List Tst):Gd NoR (pPay nm ts):=by
 rw [Ya0]
 refine V9 (Z1q gd_X (fun x=>V9 (gd_R _ _) (V5 _) fun _ _ _ _ _ f=> .inl rfl) (by simp) ?_ fun _ _ _ _ _ _ _ _ f=> .inl rfl) (V5 _) fun _ _ _ _ _ f=> .inl rfl
 intro y y' h hc
 have h:Z0 y'<=Z0 y:=h
 rw [decide_eq_false_iff_not] at hc⊢
 omega
theorem Zw5 (bs:List Cls):Z5 bs=pBc Ua (fun nm=>bs.any fun b=>b.name==nm) 161 fun nm=>pIf [119,104,101,110] (pB (pTs 10 true []) fun ts=>pPay nm ts) (pPay nm []):=by
 funext l e
 unfold Z5 pBc pIf pB
 cases Ua l e with
 |error er=>rfl
 |ok y=>
  dsimp only
  by_cases hb:(bs.any fun b=>b.name==y.1)=true
  · rw [if_pos hb,if_pos hb]
  · rw [if_neg hb,if_neg hb]
    by_cases hw:isW [119,104,101,110] y.2.1=true
    · rw [if_pos hw,if_pos hw,hw]
      unfold pAft
      cases pTs 10 true [] y.2.1.tail y.2.2.1 with
      |error er=>rfl
      |ok z=>rfl
    · rw [if_neg hw,if_neg hw]
      rw [Bool.not_eq_true] at hw
      rw [hw,Z68]
      rfl
theorem Zw6 (nm:List Nat) (ts:List Tst) (f:Int):pPay nm ts [] f= .error (f,160):=rfl
theorem Zw7 (bs:List Cls):Gd NoR (Z5 bs):=by
 rw [Zw5]
 refine Z1q Zw2 (fun nm=>V9 (gd_b (Z69 _ _ _) (fun ts=>Z5h _ _) fun _ _ _ _ _ _ _ _ f=> .inl (Zw6 _ _ _)) (Z5h _ _) fun _ _ _ _ _ f=> .inl (Zw6 _ _ _)) (by simp) (fun _ _ h=>h.elim) (fun _ _ _ _ _ _ h=>h.elim)
theorem Ya1 (k:Nat) (cs:List Cls) (h:cs.length≠64):pCls (k+1) cs=pIf [99,108,97,117,115,101] (pB (Z5 cs) fun c=>pCls k (cs++ [c])) (pR cs):=by
 funext l e
 rw [pCls]
 unfold pIf pB
 split
 · cases Z5 cs l.tail e with
   |error er=>rfl
   |ok y=>rfl
 · rfl
theorem Z5i:∀(k:Nat) (cs:List Cls),Gd AnyR (pCls k cs)
 |0,cs=>gd_R _ cs
 |k+1,cs=>by
  by_cases h:cs.length=64
  · intro l e
    rw [pCls,if_pos h]
    cases hw:isW [99,108,97,117,115,101] l with
    |true=>
     rw [if_pos rfl]
     refine ⟨fun y x h=>(by cases h),fun er h'=> ?_⟩
     cases h'
     refine .hd (by simp) fun l' f hl=> ?_
     have:isW [99,108,97,117,115,101] l'=true:=by
      cases l' with
      |nil=>
       cases l with
       |nil=>cases hw
       |cons t r=>simp at hl
      |cons t' r'=>
       cases l with
       |nil=>simp at hl
       |cons t r=>
        rw [Zk5 (r:=r) (List.cons.inj hl).1]
        exact hw
     rw [pCls,if_pos h,this,if_pos rfl]
    |false=>
     rw [if_neg Bool.false_ne_true]
     refine ⟨fun y x hy=> ?_,fun er h=>(by cases h)⟩
     cases hy
     refine ⟨0,rfl,Nat.zero_le _,fun l' m f hl=>⟨fun _=> ?_,fun h=>by omega⟩⟩
     have:isW [99,108,97,117,115,101] l'=false:=by
      rcases Y1 hl with ⟨rfl,_⟩|⟨t',r',t,r,m',rfl,rfl,rfl,h4,h5⟩
      · rfl
      · rw [Zk5 (r:=r) h4]
        exact hw
     rw [pCls,this,if_neg Bool.false_ne_true]
     rfl
  · rw [Ya1 k cs h]
    refine V9 (gd_b (Zw7 cs) (fun c=>Z5i k _) (fun _ _ _ _ _ _ h=>h.elim)) (gd_R _ _) fun _ _ _ _ _ f=> .inr ⟨cs,trivial,rfl⟩
theorem Zk7:∀(k k':Nat) (cs:List Cls) (l:List Tok) (e:Int),l.length<k->l.length<k'->pCls k cs l e=pCls k' cs l e
 |0,_,_,_,_,h,_=>by omega
 |_+1,0,_,_,_,_,h=>by omega
 |k+1,k'+1,cs,l,e,h,h'=>by
  unfold pCls
  split
  · rename_i hw
    split
    · rfl
    · have h1:=Zp hw
      cases hq:Z5 cs l.tail e with
      |error er=>rfl
      |ok y=>
       have h2:=Zbm hq
       exact Zk7 k k' _ _ _ (by omega) (by omega)
  · rfl
def pEof (t:Tar):PP Tar:=fun l e=>if 0<l.length then .error (hdT e l,160) else .ok (t,l,e,())
theorem Ya2 (t:Tar):Gd NoR (pEof t):=by
 intro l e
 unfold pEof
 split
 · rename_i h0
   refine ⟨fun y x h=>(by cases h),fun er h=> ?_⟩
   cases h
   refine .hd (by simp) fun l' f hl=> ?_
   have hlen:=congrArg List.length hl
   rw [List.length_map,List.length_map] at hlen
   show (if 0<l'.length then _ else _)=_
   rw [if_pos (by omega)]
 · rename_i hl
   have:l= []:=List.eq_nil_of_length_eq_zero (by omega)
   subst this
   refine ⟨fun y x hy=> ?_,fun er h=>(by cases h)⟩
   cases hy
   refine ⟨0,rfl,Nat.zero_le _,fun l' m f hl=>⟨fun _=> ?_,fun h=>by omega⟩⟩
   have:l'= []:=Vo hl
   subst this
   rfl
def Zw8 (N:Nat):PP Tar:=pIf [116,97,114,105,102,102] (pB Ua fun nm=>pIf [102,111,114] (pB (Ya WK.ki.words) fun k=>pIf [123] (pB (pCls N []) fun cs=>pIf [125] (pEof ⟨nm,wr .i64 (1+k),cs⟩) pSyn) pSyn) pSyn) pSyn
theorem Z7d (N:Nat):Gd NoR (Zw8 N):=by
 unfold Zw8
 refine V9 (gd_b Zw2 (fun nm=>V9 (gd_b (Zi1 _) (fun k=>V9 (gd_b (Z5i _ _) (fun cs=>V9 (Ya2 _) (V5 _) fun _ _ _ _ _ f=> .inl rfl) ?_) (V5 _) fun _ _ _ _ _ f=> .inl rfl) (fun _ _ _ _ _ _ h=>h.elim)) (V5 _) fun _ _ _ _ _ f=> .inl rfl) (fun _ _ _ _ _ _ h=>h.elim)) (V5 _) fun _ _ _ _ _ f=> .inl rfl
 exact fun _ _ _ _ _ _ _ _ f=> .inl rfl
theorem Z5j (N:Nat) (l:List Tok) (e:Int) (h:l.length<N):pTar l e=Zw8 N l e:=by
 unfold pTar Zw8 pIf pB pSyn
 split
 · rename_i hw
   have h1:=Zp hw
   cases hn:Ua l.tail e with
   |error er=>rfl
   |ok y=>
    have h2:=Zb7 hn
    dsimp only
    split
    · rename_i hw2
      have h3:=Zp hw2
      cases hm:Ya WK.ki.words y.2.1.tail y.2.2.1 with
      |error er=>rfl
      |ok z=>
       obtain ⟨_,_,hz⟩:=Zak hm
       have h4:z.2.1.length<=y.2.1.tail.length:=by
        rw [hz]
        show y.2.1.tail.tail.length<=_
        rw [List.length_tail (l:=y.2.1.tail)]
        omega
       dsimp only
       split
       · rename_i hw3
         have h5:=Zp hw3
         rw [Zk7 (z.2.1.tail.length+1) N [] z.2.1.tail z.2.2.1 (by omega) (by omega)]
         cases pCls N [] z.2.1.tail z.2.2.1 with
         |error er=>rfl
         |ok u=>rfl
       · rfl
    · rfl
 · rfl
theorem Ya3:Gd NoR pTar:=Z7c Zw8 Z7d Z5j
end
section
open Go
def TkG (t:Tok):Prop:=TokW t.text/\sT t=tkS t.text/\(t.kind=1->W9 t.text=true)/\(t.kind=2->0<=t.n/\t.n<=1099511627776)
def LxOk (l:List Tok):Prop:=∀t∈l,TkG t
theorem LxOk.drop {l:List Tok} (h:LxOk l) (k:Nat):LxOk (l.drop k):=fun t ht=>h t (List.mem_of_mem_drop ht)
theorem LxOk.tail {l:List Tok} (h:LxOk l):LxOk l.tail:=fun t ht=>h t (List.mem_of_mem_tail ht)
section
variable {α β : Type}
def Vl (P:β->Prop) (p:PP β):Prop:=∀l e y x,LxOk l->p l e= .ok (y,x)->P y/\LxOk x.1
theorem Vl.mono {P Q:β->Prop} {p:PP β} (h:Vl P p) (hq:∀y,P y->Q y):Vl Q p:=fun l e y x hl hy=>⟨hq y (h l e y x hl hy).1,(h l e y x hl hy).2⟩
end
theorem Zl6 (s:List (List Nat)) (c:Cls) (r:List Cls):CsOk s (c::r)=(Wo c=true/\resF c.name=false/\c.name∉s/\c.when_.length<=8/\Z0 c.pay<=24/\CsOk (c.name::s) r):=rfl
end
section
open Go
def En {β:Type} (p:PP β):Prop:=∀l e y x,p l e= .ok (y,x)->x.1= []
theorem Zq8 {β:Type}:En (pSyn:PP β):=fun l e y x h=>by cases h
theorem en_b {α β:Type} {p:PP α} {q:α->PP β} (hq:∀y,En (q y)):En (pB p q):=fun l e y x h=>by
 obtain ⟨y1,x1,_,h2⟩:=b_ok h
 exact hq y1 _ _ _ _ h2
theorem Z1n {β:Type} {s:List Nat} {A B:PP β} (hA:En A) (hB:En B):En (pIf s A B):=fun l e y x h=>by
 unfold pIf at h
 split at h
 · exact hA _ _ _ _ h
 · exact hB _ _ _ _ h
theorem Yai (t:Tar):En (pEof t):=fun l e y x h=>by
 unfold pEof at h
 split at h
 · cases h
 · rename_i hl
   cases h
   exact List.eq_nil_of_length_eq_zero (Nat.le_zero.1 (Nat.le_of_not_lt hl))
theorem Yaj:En pTar:=fun l e y x h=>by
 rw [Z5j _ l e (Nat.lt_succ_self _)] at h
 exact Z1n (en_b fun nm=>Z1n (en_b fun k=>Z1n (en_b fun cs=>Z1n (Yai _) Zq8) Zq8) Zq8) Zq8 l e y x h
theorem Z6y {l:List Tok} {e:Int} {t:Tar} {x:PX} (h:pTar l e= .ok (t,x)):(∀l' f,l'.map sT=l.map sT->pTar l' f= .ok (t,[],f,()))/\∀l' m f,m<l.length->l'.map sT=(l.map sT).take m->pTar l' f= .error (f,160):=by
 have hn:=Yaj l e t x h
 obtain ⟨k,rfl,hk,ho⟩:=(Ya3 l e).1 t x h
 have hk2:l.length<=k:=by
  have:=congrArg List.length hn
  rw [List.length_drop] at this
  simp at this
  omega
 have hk3:k=l.length:=by omega
 subst hk3
 refine ⟨fun l' f hl=> ?_,fun l' m f hm hl=> ?_⟩
 · have hlen:=congrArg List.length hl
   rw [List.length_map,List.length_map] at hlen
   rw [(ho l' l.length f (Zb6 hl)).1 (Nat.le_refl _),List.drop_eq_nil_of_le (by omega)]
 · rcases (ho l' m f hl).2 hm with h|⟨y',h,_⟩
   · exact h
   · exact h.elim
def AllW (ws:List (List Nat)):Prop:=∀w∈ws,TokW w
theorem Ww {a b:List (List Nat)} (h1:AllW a) (h2:AllW b):AllW (a++b):=fun w hw=>(List.mem_append.1 hw).elim (h1 w) (h2 w)
theorem Ze {w:List Nat} {b:List (List Nat)} (h1:TokW w) (h2:AllW b):AllW (w::b):=fun x hx=>(List.mem_cons.1 hx).elim (fun e=>e▸h1) (h2 x)
theorem Z4:AllW []:=fun w hw=>by cases hw
theorem tw {w:List Nat} (h1:(tokP w).2=0) (h2:(tokP w).1.text=w) (h3:w≠ []):TokW w:=⟨h1,h2,h3⟩
theorem Znn:TokW Xa:=tw rfl rfl (by decide)
theorem Ziz:TokW Zz:=tw rfl rfl (by decide)
theorem Zi0:TokW Z3:=tw rfl rfl (by decide)
theorem Z6z:TokW Zcq:=tw rfl rfl (by decide)
theorem Z60:TokW Zf6:=tw rfl rfl (by decide)
theorem Z61:TokW Zbh:=tw rfl rfl (by decide)
theorem Z1o:TokW Vi:=tw rfl rfl (by decide)
theorem Yak:TokW sMul:=tw rfl rfl (by decide)
theorem Z62:TokW Zb5:=tw rfl rfl (by decide)
theorem Yc6:TokW sLb:=tw rfl rfl (by decide)
theorem Yc7:TokW sRb:=tw rfl rfl (by decide)
theorem Yc8:TokW sIf:=tw rfl rfl (by decide)
theorem Z5d:TokW sPer:=tw rfl rfl (by decide)
theorem Yc9:TokW sIs:=tw rfl rfl (by decide)
theorem Yda:TokW sIn:=tw rfl rfl (by decide)
theorem Yal:TokW sPay:=tw rfl rfl (by decide)
theorem Yam:TokW sFor:=tw rfl rfl (by decide)
theorem Zwr:TokW Zf7:=tw rfl rfl (by decide)
theorem Zws:TokW Xq:=tw rfl rfl (by decide)
theorem Z63:TokW Zfj:=tw rfl rfl (by decide)
theorem Yan:TokW sAnd:=tw rfl rfl (by decide)
theorem Zk4 {k:WK} {i:Nat} (h:i<k.words.length):TokW (k.words.getD i []):=Zfu (Zjg h)
theorem Yao {a b c d:Int} (h:Zbr [a,b,c,d]=true):AllW (txU [a,b,c,d]):=by
 rcases unF h with ⟨_,h2⟩|⟨i,hi,_,h2⟩|⟨j,hj,_,h2⟩|⟨i,hi,j,hj,_,h2⟩
 · rw [h2];exact Z4
 · rw [h2];exact Ze (Zk4 (k:= .un) hi) Z4
 · rw [h2];exact Ze Z5d (Ze (Zk4 (k:= .un) hj) Z4)
 · rw [h2];exact Ze (Zk4 (k:= .un) hi) (Ze Z5d (Ze (Zk4 (k:= .un) hj) Z4))
theorem Zq9 {op least:Int} {t:List (List Nat)} (h:AllW t):AllW (par op least t):=by
 unfold par
 split
 · exact h
 · exact Ze Znn (Ww h (Ze Ziz Z4))
theorem Zwt:∀{ts:List (List (List Nat))} {ss:List (List Nat)},(∀t∈ts,AllW t)->AllW ss->AllW (txS ts ss)
 | [],_,_,_=>by unfold txS;exact Z4
 |t::r,[],_,_=>by unfold txS;exact Z4
 |t::r,s::ss,h1,h2=>by
  unfold txS
  exact Ww (h1 t (by simp)) (Ze (h2 s (by simp)) (Zwt (fun t ht=>h1 t (by simp [ht])) fun w hw=>h2 w (by simp [hw])))
theorem Zwu:∀{l:List Ex} {t:List (List Nat)},t∈txL l->∃x∈l,t=txX x
 | [],t,h=>by cases h
 |x::r,t,h=>by
  unfold txL at h
  rcases List.mem_cons.1 h with rfl|h
  · exact ⟨x,by simp,rfl⟩
  · obtain ⟨y,hy,e⟩:=Zwu h
    exact ⟨y,by simp [hy],e⟩
theorem Yap:∀(x:Ex),Yd x=true->AllW (txX x):=by
 suffices H:∀(m:Nat) (x:Ex),x.sz<=m->Yd x=true->AllW (txX x) from fun x=>H _ x (Nat.le_refl _)
 intro m
 induction m with
 |zero=>intro x h;have:=x.sz_pos;omega
 |succ m ih=>
  intro x hm hf
  rw [Zer,Bool.and_eq_true] at hf
  obtain ⟨hh,hl⟩:=hf
  have hkid:∀y∈x.l,AllW (txX y):=fun y hy=>ih y (by have:=Ex.sz_mem hy;omega) (formL_iff.1 hl y hy)
  obtain ⟨op,n,a,b,c,d,l⟩:=x
  simp only [Ex.op,Ex.n,Ex.u,Ex.d0,Ex.d1,Ex.d2,Ex.d3,Ex.l] at hh hkid
  obtain ⟨h1,h2,h3,h4,h5,h6,h7⟩:=Zc7 hh
  have hts:∀t∈txL l,AllW t:=by
   intro t ht
   obtain ⟨x,hx,rfl⟩:=Zwu ht
   exact hkid x hx
  have hget:∀i,AllW ((txL l).getD i []):=by
   intro i
   by_cases hi:i<(txL l).length
   · have:(txL l).getD i []=(txL l)[i]:=by simp [List.getD,hi]
     rw [this]
     exact hts _ (List.getElem_mem hi)
   · have:(txL l).getD i []= []:=by simp [List.getD,hi]
     rw [this]
     exact Z4
  rw [txX]
  unfold txN
  split
  · rename_i q
    subst q
    exact Ze (Zeh h3 h4) (Yao h6)
  · split
    · rename_i q
      subst q
      have:n<=15:=h4
      exact Ze (Zk4 (k:= .at_) (show n.toNat<16 by omega)) Z4
    · split
      · exact Ze Yc8 (Ze Znn (Zwt hts (Ze Z6z (Ze Zi0 (Ze Zi0 (Ze Ziz Z4))))))
      · split
        · refine Ww (Zq9 (hget 0)) (Ze ?_ (Zq9 (hget 1)))
          unfold sgnO
          split
          · exact Z61
          · split
            · exact Z1o
            · exact Yak
        · exact Ze (Zk4 (k:= .ca) (show (op-6).toNat<5 by omega)) (Ze Znn (Zwt hts (Ze Zi0 (Ze Ziz Z4))))
theorem Yaq {w:Tst} (h:Z8 w=true):AllW (txW w):=by
 obtain ⟨a0,a1,l0,l1,h0,h1⟩:=Wy h
 unfold txW
 refine Ze (Zk4 (k:= .at_) (show w.attr.toNat<16 by omega)) ?_
 split
 · exact Ze Yc9 (Ze (Zeh l0 l1) Z4)
 · exact Ze Yda (Ze (Zeh l0 l1) (Ze Z62 (Ze (Zeh h0 h1) Z4)))
theorem Zwv:∀{ws:List Tst} (i:Nat),(∀w∈ws,Z8 w=true)->AllW (txTs i ws)
 | [],_,_=>Z4
 |w::r,i,h=>by
  rw [Zfq]
  refine Ze ?_ (Ww (Yaq (h w (by simp))) (Zwv _ fun w hw=>h w (by simp [hw])))
  split
  · exact Z63
  · exact Yan
theorem Yar {c:Cls} (h:Wo c=true):AllW (txC c):=by
 obtain ⟨k1,k2,k3⟩:=Vu h
 exact Ze Zws (Ze (Zfu k1) (Ww (Zwv _ k3) (Ze Yal (Ww (Yap _ k2) (Ze Z60 Z4)))))
theorem Zww:∀{cs:List Cls} {s:List (List Nat)},CsOk s cs->AllW (txCs cs)
 | [],_,_=>Z4
 |c::r,s,h=>by
  rw [Zl6] at h
  rw [Zfr]
  exact Ww (Yar h.1) (Zww h.2.2.2.2.2)
theorem Zra {t:Tar} (h:X8 t=0):AllW (Zbl t):=by
 obtain ⟨h1,h2,h3,h4,h5,h6⟩:=(Vt t).1 h
 exact Ze Zwr (Ze (Zfu h1) (Ze Yam (Ze (Zk4 (k:= .ki) (show (t.for_-1).toNat<6 by omega)) (Ze Yc6 (Ww (Zww h6) (Ze Yc7 Z4))))))
theorem Ydb (ws:List (List Nat)):(TS ws).map sT=TS ws:=by
 rw [List.map_map]
 rfl
theorem Z1p {s:List Nat} {l:List Tok} (h:Lx s 0 l) (hs:s.length<=2000):Vj s=outT (pTar l s.length):=by
 unfold Vj
 rw [Zyz h hs,if_neg (by simp)]
theorem Zno {s:List Nat} {l:List Tok} (h:Lx s 0 l) (hs:s.length<=2000) {l0:List Tok} {e:Int} {t:Tar} {x:PX} (ht:pTar l0 e= .ok (t,x)) (hl:l.map sT=l0.map sT):Vj s=(t,0,0):=by
 rw [Z1p h hs,(Z6y ht).1 l s.length hl]
 rfl
theorem Znp {t:Tar} (h:X8 t=0) (hs:(W8 (Zbl t)).length<=2000):Vj (W8 (Zbl t))=(t,0,0):=by
 refine Zno (Zy0 0 (Zra h)) hs (Z2i h 0) ?_
 rw [Z5q,Ydb]
theorem Zs7 {t:Tar} (h:X8 t≠0):Za0 t=([],X8 t):=by
 unfold Za0
 rw [if_pos h]
theorem Zwx {t:Tar} (h:(Za0 t).2=0):X8 t=0/\(W8 (Zbl t)).length<=2000/\Za0 t=(W8 (Zbl t),0):=by
 unfold Za0 at h⊢
 split at h
 · rename_i hc
   exact absurd h hc
 · rename_i hc
   split at h
   · cases h
   · rename_i hl
     rw [if_neg hc,if_neg hl]
     exact ⟨by simpa using hc,by omega,rfl⟩
end
section
open Go
structure PcX where
 k:Nat
 r:Nat
 L:List (List Nat)
 fz:Nat
def cOfP (h:Hp thy) (v:SV thy):Nat:=match h (bOf v) with|some (.raw (.sl c _ _ _ _::_) _ _)=>c|_=>0
noncomputable def Apc:Fr thy->Hp thy->Nat->Ann thy:=fun T h i=>{X:=PcX,fr:=fun x=> [(0,T 0),(3,T 3),(12,T 12),(13,T 13),(14,.int false .i64 x.k)],bl:=fun x=>(bOf (T 0),.raw [.sl i 0 x.L.length 1 none] 0 none)::(i,.rows Th.strs x.L x.fz)::blkP h (T 3),src:=fun x=> [(i,1000)],md:= [bOf (T 0),cOfP h (T 0)],ih:=i+1,M:=i+60,meas:=fun x=>x.r}
noncomputable def Fpc:Fns thy:=addL (addS Fpu 58 (Sxp 1000000000)) 25 3 Apc E
def clA (c:Cls):SV thy:= .agg (encF false .clauses c)
abbrev qCSv (a0:Cls):=(Cls.pay a0)
abbrev qCSl (a0:Cls):=(Cls.when_ a0=Cls.when_ a0/\(false=true->false=true))
abbrev qCS1 (a0:Cls):=(Cls.name a0=Cls.name a0/\(qCSl a0)/\Ex.op (qCSv a0)=Ex.op (qCSv a0)/\Ex.n (qCSv a0)=Ex.n (qCSv a0)/\Ex.d0 (qCSv a0)=Ex.d0 (qCSv a0)/\Ex.d1 (qCSv a0)=Ex.d1 (qCSv a0)/\Ex.d2 (qCSv a0)=Ex.d2 (qCSv a0)/\Ex.d3 (qCSv a0)=Ex.d3 (qCSv a0)/\(Ex.l (qCSv a0)=Ex.l (qCSv a0)/\(false=true->false=true))/\True)
abbrev qCSr:=(1:Int)
abbrev qCSj:=(0:Nat)
abbrev qCSh (a0:PcX):=(↑(PcX.k a0):Int)
abbrev qCSe (a0:Cls):=(↑(List.length (Cls.when_ a0)):Int)
abbrev qCS2 (a0:Cls) (b0:PcX) (c0:PcX):=(qCSj=qCSj/\qCSj=qCSj/\(qCSl a0)/\(qCSe a0)=(qCSe a0)/\wr IntKind.i64 ((qCSh b0)+qCSr)=(qCSh c0)/\True)
abbrev qCSu (a0:PcX):=(List.length (PcX.L a0))
abbrev qCS3 (a0:PcX) (b0:List Nat):=(List.take (qCSu a0) (PcX.L a0)++ [[(119:Nat),(104:Nat),(101:Nat),(110:Nat)],b0])
abbrev qCS4 (a0:PcX) (b0:List Nat):=(List.take (qCSu a0) (PcX.L a0)++ [[(97:Nat),(110:Nat),(100:Nat)],b0])
abbrev qCS5:=(1:Nat)
abbrev qCS6 (a0:Cls):=(Ex.mk (Ex.op (qCSv a0)) (Ex.n (qCSv a0)) (Ex.d0 (qCSv a0)) (Ex.d1 (qCSv a0)) (Ex.d2 (qCSv a0)) (Ex.d3 (qCSv a0)) (Ex.l (qCSv a0)))
abbrev qCSc:=(2:Nat)
abbrev qCS7 (a0:PcX):=(List.length (PcX.L a0)+qCSc+qCS5)
abbrev qCS8 (a0:PcX):=(List.length (PcX.L a0)+qCSc)
abbrev qCS9:=(140737488355328:Nat)
abbrev qCSa (a0:PcX):=(List.length (PcX.L a0)+qCSc+qCS5+qCS5)
abbrev qCSb (a0:PcX):=(List.take (qCSu a0) (PcX.L a0)++ [[(112:Nat),(97:Nat),(121:Nat)]])
abbrev qCSd (a0:Tst):=((0:Int)<=Tst.low a0/\Tst.low a0+qCSr<=(10000000000000:Int))
abbrev qCSf (a0:PcX) (b0:List Nat):=(List.take (qCS8 a0) (qCS3 a0 b0)++ [[(105:Nat),(110:Nat)]])
abbrev qCSg (a0:PcX) (b0:List Nat):=(List.take (qCS8 a0) (qCS4 a0 b0)++ [[(105:Nat),(110:Nat)]])
abbrev qCSi (a0:PcX):=(List.length (PcX.L a0)+qCSc+qCS5+qCS5+qCS5)
abbrev qCSk:=(16:Nat)
abbrev qCSm (a0:PcX):=(some (List.take (qCSu a0) (PcX.L a0)++ [[(112:Nat),(97:Nat),(121:Nat)]],PcX.fz a0))
abbrev qCSn (a0:PcX):=(List.length (PcX.L a0)<=List.length (PcX.L a0)/\PcX.fz a0<=List.length (PcX.L a0)/\(qCS8 a0)*qCSk<=qCS9)
abbrev qCSo (a0:PcX) (b0:PcX):=((qCSj=qCSj/\List.length (PcX.L a0)+qCSc+qCS5+qCS5+qCS5+qCS5=List.length (PcX.L b0)/\True)/\True)
abbrev qCSp (a0:PcX) (b0:List Nat):=(List.length (PcX.L a0)+qCSc<=List.length (qCS3 a0 b0)/\PcX.fz a0<=List.length (PcX.L a0)+qCSc/\(qCS7 a0)*qCSk<=qCS9)
abbrev qCSq (a0:PcX) (b0:List Nat):=(List.length (PcX.L a0)+qCSc<=List.length (qCS4 a0 b0)/\PcX.fz a0<=List.length (PcX.L a0)+qCSc/\(qCS7 a0)*qCSk<=qCS9)
abbrev qCSs (a0:PcX) (b0:PcX):=((qCSj=qCSj/\List.length (PcX.L a0)+qCSc+qCS5+qCS5=List.length (PcX.L b0)/\True)/\True)
abbrev qCSt (a0:Tst):=((0:Int)<=Tst.high a0/\Tst.high a0+qCSr<=(10000000000000:Int))
theorem Zz7 (l:List (List Nat)) (fz:Nat) (c:Cls) (l':List (List Nat)):Zk E Fpc (vc E Fpc 400) 25 [.ptr 0 0,clA c] (hpP E Th.strs (some (l,fz))) 2 (prnK E Th.strs (some (l,fz)) l')=(
 (List.length l<=List.length l/\fz<=List.length l/\(List.length l+qCSc)*qCSk<=qCS9)/\∃(R:PcX->Prop),(∃(x:PcX),R x/\true=true/\(qCSj=qCSj/\qCSj=qCSj/\(qCSl c)/\(qCSe c)=(qCSe c)/\(0:Int)=(qCSh x)/\True)/\((qCSj=qCSj/\List.length l+qCSc=List.length (PcX.L x)/\True)/\True)/\(List.take (List.length l) l++ [[(99:Nat),(108:Nat),(97:Nat),(117:Nat),(115:Nat),(101:Nat)],Cls.name c]=PcX.L x/\fz=PcX.fz x)/\(qCS1 c)/\True)/\∀(x:PcX),R x->(decide ((qCSh x)<(qCSe c))=true->(0:Int)<=(qCSh x)/\(qCSh x)+qCSr<=(qCSe c)/\∀(x_1:Tst),(Cls.when_ c)[Int.toNat (qCSh x)]? =some x_1->(0:Int)<=mm2 false (qCSh x) qCSr/\mm2 false (qCSh x) qCSr+qCSr<=(↑qCSc:Int)/\((mm2 false (qCSh x) qCSr==(↑qCSj:Int))=true->(0:Int)<=Tst.attr x_1/\Tst.attr x_1+qCSr<=(↑(List.length (WK.words WK.at_)):Int)/\∀(x_2:List Nat),(WK.words WK.at_)[Int.toNat (Tst.attr x_1)]? =some x_2->(qCSn x)/\((Tst.low x_1==Tst.high x_1)=true->(qCSp x x_2)/\(qCSd x_1)/\∀(y:List Nat),y=decN (Tst.low x_1)->(List.length (PcX.L x)+qCSc+qCS5<=List.length (List.take (qCS8 x) (qCS3 x x_2)++ [[(105:Nat),(115:Nat)]])/\PcX.fz x<=List.length (PcX.L x)+qCSc+qCS5/\(qCSa x)*qCSk<=qCS9)/\∃(x_3:PcX),R x_3/\x_3.2+qCS5<=x.2/\true=true/\(qCS2 c x x_3)/\(qCSs x x_3)/\(List.take (qCS7 x) (List.take (qCS8 x) (qCS3 x x_2)++ [[(105:Nat),(115:Nat)]])++ [y]=PcX.L x_3/\PcX.fz x=PcX.fz x_3)/\(qCS1 c)/\True)/\((Tst.low x_1==Tst.high x_1)=false->(qCSp x x_2)/\(qCSd x_1)/\∀(y:List Nat),y=decN (Tst.low x_1)->(List.length (PcX.L x)+qCSc+qCS5<=List.length (qCSf x x_2)/\PcX.fz x<=List.length (PcX.L x)+qCSc+qCS5/\(qCSa x)*qCSk<=qCS9)/\(List.length (PcX.L x)+qCSc+qCS5+qCS5<=List.length (List.take (qCS7 x) (qCSf x x_2)++ [y])/\PcX.fz x<=List.length (PcX.L x)+qCSc+qCS5+qCS5/\(qCSi x)*qCSk<=qCS9)/\(qCSt x_1)/\∀(y_1:List Nat),y_1=decN (Tst.high x_1)->(List.length (PcX.L x)+qCSc+qCS5+qCS5+qCS5<=List.length (List.take (qCSa x) (List.take (qCS7 x) (qCSf x x_2)++ [y])++ [[(46:Nat),(46:Nat)]])/\PcX.fz x<=List.length (PcX.L x)+qCSc+qCS5+qCS5+qCS5/\(List.length (PcX.L x)+qCSc+qCS5+qCS5+qCS5+qCS5)*qCSk<=qCS9)/\∃(x_3:PcX),R x_3/\x_3.2+qCS5<=x.2/\true=true/\(qCS2 c x x_3)/\(qCSo x x_3)/\(List.take (qCSi x) (List.take (qCSa x) (List.take (qCS7 x) (qCSf x x_2)++ [y])++ [[(46:Nat),(46:Nat)]])++ [y_1]=PcX.L x_3/\PcX.fz x=PcX.fz x_3)/\(qCS1 c)/\True))/\((mm2 false (qCSh x) qCSr==(↑qCSj:Int))=false->((mm2 false (qCSh x) qCSr==(↑(qCSj+qCS5):Int))=true->(0:Int)<=Tst.attr x_1/\Tst.attr x_1+qCSr<=(↑(List.length (WK.words WK.at_)):Int)/\∀(x_2:List Nat),(WK.words WK.at_)[Int.toNat (Tst.attr x_1)]? =some x_2->(qCSn x)/\((Tst.low x_1==Tst.high x_1)=true->(qCSq x x_2)/\(qCSd x_1)/\∀(y:List Nat),y=decN (Tst.low x_1)->(List.length (PcX.L x)+qCSc+qCS5<=List.length (List.take (qCS8 x) (qCS4 x x_2)++ [[(105:Nat),(115:Nat)]])/\PcX.fz x<=List.length (PcX.L x)+qCSc+qCS5/\(qCSa x)*qCSk<=qCS9)/\∃(x_3:PcX),R x_3/\x_3.2+qCS5<=x.2/\true=true/\(qCS2 c x x_3)/\(qCSs x x_3)/\(List.take (qCS7 x) (List.take (qCS8 x) (qCS4 x x_2)++ [[(105:Nat),(115:Nat)]])++ [y]=PcX.L x_3/\PcX.fz x=PcX.fz x_3)/\(qCS1 c)/\True)/\((Tst.low x_1==Tst.high x_1)=false->(qCSq x x_2)/\(qCSd x_1)/\∀(y:List Nat),y=decN (Tst.low x_1)->(List.length (PcX.L x)+qCSc+qCS5<=List.length (qCSg x x_2)/\PcX.fz x<=List.length (PcX.L x)+qCSc+qCS5/\(qCSa x)*qCSk<=qCS9)/\(List.length (PcX.L x)+qCSc+qCS5+qCS5<=List.length (List.take (qCS7 x) (qCSg x x_2)++ [y])/\PcX.fz x<=List.length (PcX.L x)+qCSc+qCS5+qCS5/\(qCSi x)*qCSk<=qCS9)/\(qCSt x_1)/\∀(y_1:List Nat),y_1=decN (Tst.high x_1)->(List.length (PcX.L x)+qCSc+qCS5+qCS5+qCS5<=
List.length (List.take (qCSa x) (List.take (qCS7 x) (qCSg x x_2)++ [y])++ [[(46:Nat),(46:Nat)]])/\PcX.fz x<=List.length (PcX.L x)+qCSc+qCS5+qCS5+qCS5/\(List.length (PcX.L x)+qCSc+qCS5+qCS5+qCS5+qCS5)*qCSk<=qCS9)/\∃(x_3:PcX),R x_3/\x_3.2+qCS5<=x.2/\true=true/\(qCS2 c x x_3)/\(qCSo x x_3)/\(List.take (qCSi x) (List.take (qCSa x) (List.take (qCS7 x) (qCSg x x_2)++ [y])++ [[(46:Nat),(46:Nat)]])++ [y_1]=PcX.L x_3/\PcX.fz x=PcX.fz x_3)/\(qCS1 c)/\True))/\((mm2 false (qCSh x) qCSr==(↑(qCSj+qCS5):Int))=false->True)))/\(decide ((qCSh x)<(qCSe c))=false->(List.length (PcX.L x)<=List.length (PcX.L x)/\PcX.fz x<=List.length (PcX.L x)/\(List.length (PcX.L x)+qCS5)*qCSk<=qCS9)/\(List.length (PcX.L x)+qCS5=List.length (qCSb x)/\PcX.fz x<=List.length (qCSb x)/\Ex.sz (qCS6 c)+qCS5<=(1000000000:Nat)/\Yd (qCS6 c)=true/\qCS5<=List.length (qCSb x)/\List.length (qCSb x)+(8:Nat)*Ex.sz (qCS6 c)+(8:Nat)<=(1000000000:Nat))/\∀(l'_1:List (List Nat)),l'_1=List.take (qCSu x) (PcX.L x)++ [[(112:Nat),(97:Nat),(121:Nat)]]++txX (qCS6 c)->(List.length l'_1<=List.length l'_1/\fzO (qCSm x)<=List.length l'_1/\(List.length l'_1+qCS5)*qCSk<=qCS9)/\List.take (List.length l'_1) l'_1++ [[(59:Nat)]]=l'/\List.length l'_1+qCS5=List.length l'/\fzO (qCSm x)=fzO (some (l,fz)))):=by kernel_rfl
theorem Zme:∀(a:List Tst) (i:Nat) (w:Tst),txTs i (a++ [w])=txTs i a++((if a.length+i=0 then Zfj else sAnd)::txW w)
 | [],i,w=>by simp [txTs]
 |x::r,i,w=>by
  rw [List.cons_append]
  simp only [txTs]
  rw [Zme r (i+1) w]
  have e:(r.length+(i+1)=0)=((x::r).length+i=0):=by simp
  simp only [e,List.append_assoc,List.cons_append]
theorem Z9d (w:Tst):(txW w).length<=5:=by
 unfold txW
 split<;>simp
theorem Zjz:∀(l:List Tst) (i:Nat),(txTs i l).length<=6*l.length
 | [],_=>by simp [txTs]
 |w::r,i=>by
  have:=Zjz r (i+1)
  have:=Z9d w
  simp [txTs]
  omega
def PclP (l:List (List Nat)) (c:Cls):Prop:=Wo c=true/\c.pay.sz<1000000000/\1<=l.length/\l.length+8*c.pay.sz+6*c.when_.length+20<=1000000000
theorem Ycd:FnsOk E Fpc:=Yc E_ok (Zb Zr6 (Zza (Zrl 1000000000))) _ _ _
theorem Z9e (c:Cls) (l:List (List Nat)) (fz:Nat) (hf:fz<=l.length) (h:PclP l c):PrnC E 25 Th.strs [clA c] (some (l,fz)) (l++txC c):=by
 refine Zy7 Ycd (n:=400) rfl ?_
 rw [Zz7];delta qCSv qCSl qCS1 qCSr qCSj qCSh qCSe qCS2 qCSu qCS3 qCS4 qCS5 qCS6 qCSc qCS7 qCS8 qCS9 qCSa qCSb qCSd qCSf qCSg qCSi qCSk qCSm qCSn qCSo qCSp qCSq qCSs qCSt
 obtain ⟨h1,h2,h3,h4⟩:=h
 obtain ⟨-,g2,g3⟩:=Vu h1
 have L:WK.at_.words.length=16:=rfl
 simp only [fzO,List.take_length,Ex.eta,forall_eq,beq_iff_eq,beq_eq_false_iff_ne,ne_eq,and_true,true_and,imp_self,decide_eq_true_eq,decide_eq_false_iff_not]
 refine ⟨⟨Nat.le_refl _,hf,by omega⟩,fun x=>x.k<=c.when_.length/\x.fz=fz/\x.L=l++ [Xq,c.name]++txTs 0 (c.when_.take x.k)/\x.r=c.when_.length-x.k,⟨⟨0,c.when_.length,l++ [Xq,c.name],fz⟩,⟨by dsimp only;omega,rfl,by simp [txTs],rfl⟩,by simp,by simp,by simp [Xq]⟩,?_⟩
 rintro ⟨k,r,Lx,fx⟩ ⟨k1,k2,k3,k4⟩
 simp only at k1 k2 k3 k4⊢
 subst k2 k4
 have tl:=Zjz (c.when_.take k) 0
 have tl2:(c.when_.take k).length<=c.when_.length:=by simp;omega
 have hL:Lx.length=l.length+2+(txTs 0 (c.when_.take k)).length:=by rw [k3];simp;omega
 refine And.intro (fun hq=>⟨by omega,by omega,fun w hw=> ?_⟩) (fun hq=> ?_)
 · have hw:c.when_[k]? =some w:=hw
   have hq:k<c.when_.length:=by omega
   obtain ⟨t1,t2,t3,t4,t5,t6⟩:=Wy (g3 w (List.mem_of_getElem? hw))
   have ek:c.when_.take (k+1)=c.when_.take k++ [w]:=by rw [List.take_add_one,hw];rfl
   have tw:(c.when_.take k).length=k:=by simp;omega
   have hm:(0:Int)<=mm2 false (↑k:Int) (1:Int)/\mm2 false (↑k:Int) (1:Int)+1<=2:=by
    rw [W7];omega
   have st:txTs 0 (c.when_.take (k+1))=txTs 0 (c.when_.take k)++((if k=0 then Zfj else sAnd)::txW w):=by rw [ek,Zme,tw,Nat.add_zero]
   have wx:∀x2,WK.at_.words[w.attr.toNat]? =some x2->txW w=x2::(if w.low=w.high then [sIs,decN w.low] else [sIn,decN w.low,Zb5,decN w.high]):=by
    intro x2 h
    unfold txW
    rw [List.getD_eq_getElem?_getD,h]
    rfl
   have E1:∀s x2,(if k=0 then Zfj else sAnd)=s->WK.at_.words[w.attr.toNat]? =some x2->w.low=w.high->Lx++ [s,x2]++ [[105,115]]++ [decN w.low]=l++ [Xq,c.name]++txTs 0 (c.when_.take (k+1)):=by
    intro s x2 hs h e
    rw [k3,st,hs,wx x2 h,if_pos e]
    simp [sIs]
   have E2:∀s x2,(if k=0 then Zfj else sAnd)=s->WK.at_.words[w.attr.toNat]? =some x2->¬w.low=w.high->Lx++ [s,x2]++ [[105,110]]++ [decN w.low]++ [[46,46]]++ [decN w.high]=l++ [Xq,c.name]++txTs 0 (c.when_.take (k+1)):=by
    intro s x2 hs h e
    rw [k3,st,hs,wx x2 h,if_neg e]
    simp [sIn,Zb5]
   have T1:∀a b,List.take (Lx.length+2) (Lx++ [a,b])=Lx++ [a,b]:=fun a b=>List.take_of_length_le (by simp)
   have T2:∀a b c,List.take (Lx.length+2+1) (Lx++ [a,b]++ [c])=Lx++ [a,b]++ [c]:=fun a b c=>List.take_of_length_le (by simp)
   have T3:∀a b c d,List.take (Lx.length+2+1+1) (Lx++ [a,b]++ [c]++ [d])=Lx++ [a,b]++ [c]++ [d]:=fun a b c d=>List.take_of_length_le (by simp)
   have T4:∀a b c d e,List.take (Lx.length+2+1+1+1) (Lx++ [a,b]++ [c]++ [d]++ [e])=Lx++ [a,b]++ [c]++ [d]++ [e]:=fun a b c d e=>List.take_of_length_le (by simp)
   have wk:wr IntKind.i64 ((k:Int)+1)=((k+1:Nat):Int):=(wr64 (by omega) (by omega)).trans (by omega)
   simp only [T1,T2,T3,T4]
   have m0:(mm2 false (k:Int) 1=((0:Nat):Int))=(k=0):=by rw [W7];exact propext (by omega)
   have go:∀s x2,(if k=0 then Zfj else sAnd)=s->WK.at_.words[w.attr.toNat]? =some x2->
    (w.low=w.high->∃x_3:PcX,(x_3.k<=c.when_.length/\x_3.fz=fx/\x_3.L=l++ [Xq,c.name]++txTs 0 (List.take x_3.k c.when_)/\x_3.r=c.when_.length-x_3.k)/\x_3.r+1<=c.when_.length-k/\wr IntKind.i64 ((k:Int)+1)=(x_3.k:Int)/\Lx.length+2+1+1=x_3.L.length/\Lx++ [s,x2]++ [[105,115]]++ [decN w.low]=x_3.L/\fx=x_3.fz)/\
    (¬w.low=w.high->∃x_3:PcX,(x_3.k<=c.when_.length/\x_3.fz=fx/\x_3.L=l++ [Xq,c.name]++txTs 0 (List.take x_3.k c.when_)/\x_3.r=c.when_.length-x_3.k)/\x_3.r+1<=c.when_.length-k/\wr IntKind.i64 ((k:Int)+1)=(x_3.k:Int)/\Lx.length+2+1+1+1+1=x_3.L.length/\Lx++ [s,x2]++ [[105,110]]++ [decN w.low]++ [[46,46]]++ [decN w.high]=x_3.L/\fx=x_3.fz):=by
    intro s x2 hs h
    refine And.intro (fun e=> ?_) (fun e=> ?_)
    · have:=E1 s x2 hs h e
      have h2:=congrArg List.length this
      refine ⟨⟨k+1,c.when_.length-(k+1),l++ [Xq,c.name]++txTs 0 (c.when_.take (k+1)),fx⟩,⟨hq,rfl,rfl,rfl⟩,(by dsimp only;omega),wk,?_,this,rfl⟩
      dsimp only
      rw [<-h2]
      simp
    · have:=E2 s x2 hs h e
      have h2:=congrArg List.length this
      refine ⟨⟨k+1,c.when_.length-(k+1),l++ [Xq,c.name]++txTs 0 (c.when_.take (k+1)),fx⟩,⟨hq,rfl,rfl,rfl⟩,(by dsimp only;omega),wk,?_,this,rfl⟩
      dsimp only
      rw [<-h2]
      simp
   rw [m0]
   refine ⟨hm.1,hm.2,fun h0=>⟨t1,by rw [L];omega,fun x2 hx2=> ?_⟩,fun h0=>⟨fun h1=>⟨t1,by rw [L];omega,fun x2 hx2=> ?_⟩,fun _=>trivial⟩⟩
   · obtain ⟨g1,g2⟩:=go [119,104,101,110] x2 (by rw [if_pos h0];rfl) hx2
     refine ⟨⟨Nat.le_refl _,by omega,by omega⟩,fun e=> ?_,fun e=> ?_⟩
     · exact ⟨⟨by simp,by omega,by omega⟩,⟨t3,by omega⟩,⟨by simp,by omega,by omega⟩,g1 e⟩
     · exact ⟨⟨by simp,by omega,by omega⟩,⟨t3,by omega⟩,⟨by simp,by omega,by omega⟩,⟨by simp,by omega,by omega⟩,⟨t5,by omega⟩,⟨by simp,by omega,by omega⟩,g2 e⟩
   · obtain ⟨g1,g2⟩:=go [97,110,100] x2 (by rw [if_neg h0];rfl) hx2
     refine ⟨⟨Nat.le_refl _,by omega,by omega⟩,fun e=> ?_,fun e=> ?_⟩
     · exact ⟨⟨by simp,by omega,by omega⟩,⟨t3,by omega⟩,⟨by simp,by omega,by omega⟩,g1 e⟩
     · exact ⟨⟨by simp,by omega,by omega⟩,⟨t3,by omega⟩,⟨by simp,by omega,by omega⟩,⟨by simp,by omega,by omega⟩,⟨t5,by omega⟩,⟨by simp,by omega,by omega⟩,g2 e⟩
 · have ek:k=c.when_.length:=by omega
   have tx:=Yy c.pay
   have e1:Lx++ [[112,97,121]]++txX c.pay++ [[59]]=l++txC c:=by
    rw [k3,ek,List.take_length]
    unfold txC
    simp [sPay,Zf6]
   have e2:=congrArg List.length e1
   simp only [List.length_append,List.length_cons,List.length_nil] at e2⊢
   exact ⟨⟨Nat.le_refl _,by omega,by omega⟩,⟨trivial,by omega,by omega,g2,by omega,by omega⟩,⟨Nat.le_refl _,by omega,by omega⟩,e1,by omega,trivial⟩
end
section
open Go
noncomputable def dCl1:DcL E (Cls×Unit):= .cons dCl .nil
noncomputable def Spc:Sum thy:=sumB E Th.strs dCl1 (fun l x=>PclP l x.1) fun (l:List (List Nat)) x=>l++txC x.1
theorem Ycm:SumOk E 25 Spc:=Zjy E_ok (Zd rfl) fun x=>⟨fun l fz hf hp=>Z9e x.1 l fz hf hp,fun hp=>absurd hp.2.2.1 (by decide)⟩
noncomputable def Yef:DcL E (List (List Nat)×List Nat×Unit):= .cons (Ztx (E:=E) Th.strs:Dc E (List (thy.dom Th.strs))) (.cons dS .nil)
noncomputable def Ycn:Sum thy:=Zff E (fun _=>none) 10 (Ue Yef (fun x=>(x.2.1= [32]/\x.1.length<=1000000000)/\(W8 x.1).length<=1000000000) (fun x=>W8 x.1) fun y=> .str false y)
noncomputable def Apr:Fr thy->Hp thy->Nat->Ann thy:=fun T h i=>{X:=PcX,fr:=fun x=> [(1,T 1),(5,T 5),(28,T 28),(29,T 29),(30,.int false .i64 x.k)],bl:=fun x=>(bOf (T 5),.raw [.sl i 0 x.L.length 1 none] 0 none)::(i,.rows Th.strs x.L x.fz)::blkP h (T 1),src:=fun x=> [(i,1005)],md:= [bOf (T 5),cOfP h (T 5)],ih:=i+1,M:=i+60,meas:=fun x=>x.r}
noncomputable def Fpr:Fns thy:=addL (addS (addS (addS (addS F0 24 Zkc) 26 Ycn) 20 Zy1) 25 Spc) 9 7 Apr E
abbrev qCU1 (a0:Cls):=(Ex.mk (Ex.op (Cls.pay a0)) (Ex.n (Cls.pay a0)) (Ex.d0 (Cls.pay a0)) (Ex.d1 (Cls.pay a0)) (Ex.d2 (Cls.pay a0)) (Ex.d3 (Cls.pay a0)) (Ex.l (Cls.pay a0)))
abbrev qCU5:=(0:Nat)
abbrev qCU2 (a0:PcX):=(List.take (List.length (PcX.L a0)+(1:Nat)) (List.drop qCU5 (List.take (List.length (PcX.L a0)) (PcX.L a0)++ [[(125:Nat)]])))
abbrev qCU3 (a0:Tar):=(↑(List.length (Tar.clauses a0)):Int)
abbrev qCU4 (a0:Tar):=(Tar.clauses a0=Tar.clauses a0/\(false=true->false=true))
abbrev qCU6 (a0:PcX):=(↑(PcX.k a0):Int)
theorem Zu4 (t:Tar) (s:List Nat) (e:Int):Zk E Fpr (vc E Fpr 400) 9 [.agg (encF false .tariffs t)] hp0 0 (fun r=>ret E (patch hp0 0 r) r.v (.tup [.str false s,.int false .i64 e]))=(
 ((∀(c:Cls),c∈Tar.clauses t->Ex.sz (Cls.pay c)+(1:Nat)<=(1000000000000:Nat)/\List.length (Cls.when_ c)+(1:Nat)<=(1000000000000:Nat))/\List.length (Tar.clauses t)+(1:Nat)<=(1000000000000:Nat))/\((X8 t !=(0:Int))=true-> []=s/\X8 t=e/\True)/\((X8 t !=(0:Int))=false->(0:Int)<=wr IntKind.i64 (Tar.for_ t-(1:Int))/\wr IntKind.i64 (Tar.for_ t-(1:Int))+(1:Int)<=(↑(List.length (WK.words WK.ki)):Int)/\∀(x:List Nat),(WK.words WK.ki)[Int.toNat (wr IntKind.i64 (Tar.for_ t-(1:Int)))]? =some x->∃(R:PcX->Prop),(∃(x_1:PcX),R x_1/\true=true/\(qCU5=qCU5/\qCU5=qCU5/\(qCU4 t)/\(qCU3 t)=(qCU3 t)/\(0:Int)=(qCU6 x_1)/\True)/\((qCU5=qCU5/\(5:Nat)=List.length (PcX.L x_1)/\True)/\True)/\([[(116:Nat),(97:Nat),(114:Nat),(105:Nat),(102:Nat),(102:Nat)],Tar.name t,[(102:Nat),(111:Nat),(114:Nat)],x,[(123:Nat)]]=PcX.L x_1/\qCU5=PcX.fz x_1)/\(Tar.name t=Tar.name t/\Tar.for_ t=Tar.for_ t/\(qCU4 t)/\True)/\True)/\∀(x:PcX),R x->(decide ((qCU6 x)<(qCU3 t))=true->(0:Int)<=(qCU6 x)/\(qCU6 x)+(1:Int)<=(qCU3 t)/\∀(x_1:Cls),(Tar.clauses t)[Int.toNat (qCU6 x)]? =some x_1->(List.length (PcX.L x)=List.length (PcX.L x)/\PcX.fz x<=List.length (PcX.L x)/\Wo (Cls.mk (Cls.name x_1) (Cls.when_ x_1) (qCU1 x_1))=true/\Ex.sz (qCU1 x_1)+(1:Nat)<=(1000000000:Nat)/\(1:Nat)<=List.length (PcX.L x)/\List.length (PcX.L x)+(8:Nat)*Ex.sz (qCU1 x_1)+(6:Nat)*List.length (Cls.when_ x_1)+(20:Nat)<=(1000000000:Nat))/\∀(l':List (List Nat)),l'=PcX.L x++txC (Cls.mk (Cls.name x_1) (Cls.when_ x_1) (qCU1 x_1))->∃(x_2:PcX),R x_2/\x_2.2+(1:Nat)<=x.2/\true=true/\(qCU5=qCU5/\qCU5=qCU5/\(qCU4 t)/\(qCU3 t)=(qCU3 t)/\wr IntKind.i64 ((qCU6 x)+(1:Int))=(qCU6 x_2)/\True)/\((qCU5=qCU5/\List.length l'=List.length (PcX.L x_2)/\True)/\True)/\(l'=PcX.L x_2/\fzO (some (PcX.L x,PcX.fz x))=PcX.fz x_2)/\(Tar.name t=Tar.name t/\Tar.for_ t=Tar.for_ t/\(qCU4 t)/\True)/\True)/\(decide ((qCU6 x)<(qCU3 t))=false->(List.length (PcX.L x)<=List.length (PcX.L x)/\PcX.fz x<=List.length (PcX.L x)/\(List.length (PcX.L x)+(1:Nat))*(16:Nat)<=(140737488355328:Nat))/\qCU5+(List.length (PcX.L x)+(1:Nat))<=List.length (List.take (List.length (PcX.L x)) (PcX.L x)++ [[(125:Nat)]])/\(([(32:Nat)]= [(32:Nat)]/\List.length (qCU2 x)<=(1000000000:Nat))/\List.length (W8 (qCU2 x))<=(1000000000:Nat))/\∀(y:List Nat),y=W8 (qCU2 x)->(decide ((↑(List.length y):Int)>(2000:Int))=true-> []=s/\(2:Int)=e/\True)/\(decide ((↑(List.length y):Int)>(2000:Int))=false->y=s/\(0:Int)=e/\True)))):=by kernel_rfl
theorem Zsn:∀{s:List Nat} {n m:Int},1<=n->n<=1099511627776->(∀c∈s,isD c=true)->numL n s=(m,0)->n*10^s.length<=1099511627776
 | [],n,m,_,hn,_,_=>by simpa using hn
 |c::r,n,m,h1,hn,hd,h=>by
  unfold numL at h
  split at h
  · cases h
  · rename_i hq
    have hc:=hd c (by simp)
    unfold isD at hc
    simp only [Bool.and_eq_true,decide_eq_true_eq] at hc
    have:=Zsn (by omega) (by omega) (fun c hc=>hd c (by simp [hc])) h
    have hle:n*10<=10*n+((c:Int)-48):=by omega
    have hp:(0:Int)<=10^r.length:=Int.le_of_lt (Int.pow_pos (by decide))
    have h3:=Int.mul_le_mul_of_nonneg_right hle hp
    rw [List.length_cons,Int.pow_succ,Int.mul_comm (10^r.length) 10,<-Int.mul_assoc]
    omega
theorem Z4u {s:List Nat} (hd:∀c∈s,isD c=true) (h:(numb s).2=0):s.length<=32:=by
 match s,hd,h with
 | [],_,_=>simp
 |c::r,hd,h=>
  unfold numb at h
  split at h
  · cases h
  · rename_i hq
    cases r with
    |nil=>simp
    |cons d r=>
     have hc:c≠48:=fun e=>hq ⟨by simp,by rw [e];rfl⟩
     have hcd:=hd c (by simp)
     unfold isD at hcd
     simp only [Bool.and_eq_true,decide_eq_true_eq] at hcd
     unfold numL at h
     rw [if_neg (by omega)] at h
     have h2:numL (10*0+((c:Int)-48)) (d::r)=((numL (10*0+((c:Int)-48)) (d::r)).1,0):=Prod.ext rfl h
     have:=Zsn (by omega) (by omega) (fun c hc=>hd c (by simp [hc])) h2
     have hp:(0:Int)<=10^(d::r).length:=Int.le_of_lt (Int.pow_pos (by decide))
     have h3:1*(10:Int)^(d::r).length<=(10*0+((c:Int)-48))*10^(d::r).length:=Int.mul_le_mul_of_nonneg_right (by omega) hp
     rcases Nat.lt_or_ge (d::r).length 13 with hl|hl
     · simp at hl⊢;omega
     · have h4:(10:Nat)^13<=10^(d::r).length:=Nat.pow_le_pow_right (by decide) hl
       have h5:((10^(d::r).length:Nat):Int)=(10:Int)^(d::r).length:=by norm_cast
       have h6:((10^13:Nat):Int)<=((10^(d::r).length:Nat):Int):=Int.ofNat_le.2 h4
       rw [h5] at h6
       have h7:((10^13:Nat):Int)=10000000000000:=rfl
       omega
theorem Z9o {c:Nat} {w:List Nat} (h:sgnW c=some w):w.length<=2:=by
 unfold sgnW at h
 repeat (split at h; · cases h;decide)
 cases h
theorem TokW.len {w:List Nat} (h:TokW w):w.length<=32:=by
 obtain ⟨h1,h2,h3⟩:=h
 obtain ⟨c,r,rfl⟩:=List.exists_cons_of_ne_nil h3
 rw [Yi] at h1 h2
 split at h1
 · rename_i hl
   rw [if_pos hl] at h2
   split at h1
   · cases h1
   · rename_i hq
     rw [if_neg hq] at h2
     have h2:=congrArg List.length h2
     rw [List.length_take] at h2
     omega
 · rename_i hl
   rw [if_neg hl] at h2
   split at h1
   · rename_i hd
     rw [if_pos hd] at h2
     have h2:(c::r).take (spn isD (c::r))=c::r:=h2
     have h1:(numb ((c::r).take (spn isD (c::r)))).2=0:=h1
     rw [h2] at h1
     exact Z4u (fun x hx=>by rw [<-h2] at hx;exact Zjx hx) h1
   · rename_i hd
     rw [if_neg hd] at h2
     split at h1
     · rename_i w hw
       rw [hw] at h2
       unfold tokS at h1 h2
       split at h1
       · rename_i hq
         dsimp only at h2
         rw [if_pos hq] at h2
         have h2:w=c::r:=h2
         rw [<-h2]
         have:=Z9o hw
         omega
       · cases h1
     · cases h1
theorem Zmq:∀{ws:List (List Nat)} {m:Nat},(∀w∈ws,w.length<=m)->(W8 ws).length<=(m+1)*ws.length
 | [],m,_=>by simp [W8]
 | [w],m,h=>by
  have:=h w (by simp)
  simp only [W8,List.length_cons,List.length_nil]
  omega
 |w::x::r,m,h=>by
  have ih:=Zmq (ws:=x::r) (m:=m) (fun y hy=>h y (by simp at hy⊢;exact .inr hy))
  have:=h w (by simp)
  rw [Zhu (by simp),List.length_append,List.length_cons]
  have e:(m+1)*(w::x::r).length=(m+1)*(x::r).length+(m+1):=by rw [List.length_cons,Nat.mul_add,Nat.mul_one]
  omega
theorem Z9p (c:Cls):(txC c).length<=8*c.pay.sz+6*c.when_.length+4:=by
 have h1:=Yy c.pay
 have h2:=Zjz c.when_ 0
 unfold txC
 simp only [List.length_cons,List.length_append,List.length_nil]
 omega
theorem Zmr:∀(a:List Cls) (c:Cls),txCs (a++ [c])=txCs a++txC c
 | [],c=>by simp [txCs]
 |x::r,c=>by rw [List.cons_append];simp only [txCs];rw [Zmr r c,List.append_assoc]
theorem Zso:∀{cs:List Cls} {m:Nat},(∀c∈cs,c.pay.sz<=m/\c.when_.length<=8)->(txCs cs).length<=(8*m+52)*cs.length
 | [],m,_=>by simp [txCs]
 |c::r,m,h=>by
  have ih:=Zso (cs:=r) (m:=m) (fun x hx=>h x (by simp [hx]))
  have h1:=h c (by simp)
  have h2:=Z9p c
  have e:(8*m+52)*(c::r).length=(8*m+52)*r.length+(8*m+52):=by rw [List.length_cons,Nat.mul_add,Nat.mul_one]
  rw [txCs,List.length_append]
  omega
theorem Zka:∀{cs:List Cls} {s:List (List Nat)},CsOk s cs->∀c∈cs,Wo c=true/\c.when_.length<=8
 |c::r,s,h,x,hx=>by
  rw [Zl6] at h
  rcases List.mem_cons.1 hx with rfl|hx
  · exact ⟨h.1,h.2.2.2.1⟩
  · exact Zka h.2.2.2.2.2 x hx
def SmT (t:Tar):Prop:=(∀c∈t.clauses,c.pay.sz<=10000/\c.when_.length<1000000000)/\t.clauses.length<1000000000
theorem Z4v:SumOk E 26 Ycn:=Uo E_ok (Z7 E_ok (Zd rfl) fun x h=>by
 have:=Zv2 x.1 h.1.2 h.2
 rw [<-h.1.1] at this
 exact this)
theorem Yco:FnsOk E Fpr:=Yc E_ok (Zb (Zb (Zb (Zb F0_ok Zdn) Z4v) Zy2) Ycm) _ _ _
theorem Zu5 (t:Tar) (h:SmT t):PureC E 9 [.agg (encF false .tariffs t)] (.tup [.str false (Za0 t).1,.int false .i64 (Za0 t).2]):=by
 refine Zc E_ok (Zi E_ok Yco 400) ?_
 rw [Zu4];delta qCU1 qCU5 qCU2 qCU3 qCU4 qCU6
 obtain ⟨h1,h2⟩:=h
 have L:WK.ki.words.length=6:=rfl
 simp only [bne_iff_ne,bne_eq_false_iff_eq,fzO,List.take_length,Cls.eta,Ex.eta,forall_eq,beq_iff_eq,beq_eq_false_iff_ne,ne_eq,and_true,true_and,imp_self,decide_eq_true_eq,decide_eq_false_iff_not]
 refine ⟨⟨fun c hc=>⟨by have:=(h1 c hc).1;omega,by have:=(h1 c hc).2;omega⟩,by omega⟩,fun hn=> ?_,fun hz=> ?_⟩
 · rw [Zs7 hn];exact ⟨rfl,rfl⟩
 · obtain ⟨c1,c2,c3,c4,c5,c6⟩:=(Vt t).1 hz
   have hw:wr IntKind.i64 (t.for_-1)=t.for_-1:=wr64 (by omega) (by omega)
   rw [hw]
   refine ⟨by omega,by rw [L];omega,fun x hx=> ?_⟩
   have hall:=Zka c6
   have hm:∀c∈t.clauses,c.pay.sz<=10000/\c.when_.length<=8:=fun c hc=>⟨(h1 c hc).1,(hall c hc).2⟩
   have hlen:∀k,(txCs (t.clauses.take k)).length<=80052*64:=fun k=>by
    have a:=Zso (cs:=t.clauses.take k) (m:=10000) (fun c hc=>hm c (List.mem_of_mem_take hc))
    have b:(t.clauses.take k).length<=64:=by rw [List.length_take];omega
    have e:(8*10000+52)*(t.clauses.take k).length<=(8*10000+52)*64:=Nat.mul_le_mul_left _ b
    omega
   have hx5:WK.ki.words.getD (t.for_-1).toNat []=x:=by rw [List.getD_eq_getElem?_getD,hx];rfl
   refine ⟨fun y=>y.k<=t.clauses.length/\y.fz=0/\y.L= [[116,97,114,105,102,102],t.name,[102,111,114],x,[123]]++txCs (t.clauses.take y.k)/\y.r=t.clauses.length-y.k,⟨⟨0,t.clauses.length,[[116,97,114,105,102,102],t.name,[102,111,114],x,[123]],0⟩,⟨(by dsimp only;omega),rfl,by simp [txCs],rfl⟩,rfl,rfl,rfl,rfl⟩,?_⟩
   rintro ⟨k,r,Lx,fx⟩ ⟨k1,k2,k3,k4⟩
   simp only at k1 k2 k3 k4⊢
   subst k2 k4
   have hL:Lx.length=5+(txCs (t.clauses.take k)).length:=by rw [k3];simp;omega
   have hlk:=hlen k
   refine And.intro (fun hq=>⟨by omega,by omega,fun c hc=> ?_⟩) (fun hq=> ?_)
   · have hc:t.clauses[k]? =some c:=hc
     have hq:k<t.clauses.length:=by omega
     have hcm:=List.mem_of_getElem? hc
     have b1:=hm c hcm
     have b2:=hall c hcm
     have e:Lx++txC c= [[116,97,114,105,102,102],t.name,[102,111,114],x,[123]]++txCs (t.clauses.take (k+1)):=by
      have ek:t.clauses.take (k+1)=t.clauses.take k++ [c]:=by rw [List.take_add_one,hc];rfl
      rw [k3,ek,Zmr,List.append_assoc]
     refine ⟨⟨by omega,b2.1,by omega,by omega,by omega⟩,⟨k+1,t.clauses.length-(k+1),Lx++txC c,0⟩,⟨hq,rfl,e,rfl⟩,(by dsimp only;omega),(wr64 (by omega) (by omega)).trans (by dsimp only;omega),rfl,rfl,rfl⟩
   · have ek:k=t.clauses.length:=by omega
     have e:Lx++ [[125]]=Zbl t:=by
      rw [k3,ek,List.take_length]
      unfold Zbl
      rw [hx5]
      simp [Zf7,sFor,sLb,sRb]
     have e1:List.take (Lx.length+1) (List.drop 0 (Lx++ [[125]]))=Zbl t:=by
      rw [List.drop_zero,List.take_of_length_le (by simp),e]
     rw [e1]
     have e2:(Zbl t).length=Lx.length+1:=by rw [<-e];simp
     have hj:=Zmq (ws:=Zbl t) (m:=32) (fun w hw=>(Zra hz w hw).len)
     unfold Za0
     rw [if_neg (by rw [hz];simp)]
     refine ⟨⟨Nat.le_refl _,by omega,by omega⟩,by rw [List.length_append];simp,⟨by omega,by omega⟩,fun h=> ?_,fun h=> ?_⟩
     · rw [if_pos (by omega)];exact ⟨rfl,rfl⟩
     · rw [if_neg (by omega)];exact ⟨rfl,rfl⟩
end
section
open Go
noncomputable def Z88:Sum thy:=sumP (DcL.nil:DcL E Unit) (fun _=>True) fun _=> .bool true true
noncomputable def Yd6:Sum thy:=sumP dTar (fun _=>True) fun x=> .bool false (Zg0 x.1)
noncomputable def Yd7:Sum thy:=Ue (dA1 dS) (fun _=>True) (fun x=>Vj x.1) fun y=>parV false y
noncomputable def Yd8:Sum thy:=Z7u E (fun _=>none) 10 dTar (fun x=>SmT x.1) (fun x=>Za0 x.1) fun y=> .tup [.str false y.1,.int false .i64 y.2]
noncomputable def Ycb:Sum thy:=Ue dTE (fun x=>x.2.1.v.length=16/\Z3x x.1) (fun x=>amtF x.1 x.2.1) amtV
theorem Z3v:SumOk E 13 Ycb:=Z7 E_ok (Zd (f:=13) rfl) fun x h=>by
 show PureC E _ [.agg (encF false .tariffs x.1),dEv.enc x.2.1] _
 rw [Zjt h.1]
 exact Zgf _ _ h.1 h.2
noncomputable def Fso:Fns thy:=Zv1 (addS (addS (addS (addS (addS F0 11 Z88) 12 Yd6) 9 Yd8) 10 Yd7) 13 Ycb)
theorem Ycc:FnsOk E Fso:=Zkt (Zb (Zb (Zb (Zb (Zb F0_ok (Ym E_ok (Zd rfl) fun _ _=>Zpp)) (Ym E_ok (Zd rfl) fun x _=>Zyp x.1)) (Z2j E_ok (Zd rfl) fun x h=>Zu5 x.1 h)) (Z7 E_ok (Zd rfl) fun x _=>Zt6 x.1)) Z3v)
abbrev qDR1:=(-9223372036854775808:Int)
abbrev qDR2:=(9223372036854775807:Int)
theorem Z89 (t:Tar) (h a0 a1 a2 a3 a4 a5 a6 a7 a8 a9 a10 a11 a12 a13 a14 a15:Int) (v:Bool):Zk E Fso (vc E Fso 400) 4 [tarA t,evA ⟨h,[a0,a1,a2,a3,a4,a5,a6,a7,a8,a9,a10,a11,a12,a13,a14,a15]⟩] hp0 0 (fun r=>ret E (patch hp0 0 r) r.v (.bool false v))=(
 True/\True/\((!Zg0 t)=true->true=v)/\((!Zg0 t)=false->((∀(c:Cls),c∈Tar.clauses t->Ex.sz (Cls.pay c)<=(10000:Nat)/\List.length (Cls.when_ c)+(1:Nat)<=(1000000000:Nat))/\List.length (Tar.clauses t)+(1:Nat)<=(1000000000:Nat))/\∀(y:List Nat×Int),y=Za0 t->((Prod.snd y !=(0:Int))=true->true=v)/\((Prod.snd y !=(0:Int))=false->True/\∀(y_1:Tar×Int×Int),y_1=Vj (Prod.fst y)->∃(Q:Bool->Prop),(((Prod.snd (Prod.snd y_1) !=(0:Int))=true->Q true)/\((Prod.snd (Prod.snd y_1) !=(0:Int))=false->(((↑(List.length (Tar.clauses (Prod.fst y_1))):Int) !=(↑(List.length (Tar.clauses t)):Int))=true->Q true)/\(((↑(List.length (Tar.clauses (Prod.fst y_1))):Int) !=(↑(List.length (Tar.clauses t)):Int))=false->Q false)))/\(Q true->((Prod.snd (Prod.snd y_1)==(2:Int))=true->true=v)/\((Prod.snd (Prod.snd y_1)==(2:Int))=false->false=v))/\(Q false->(List.length (Ev.v (evOf (h,a0,a1,a2,a3,a4,a5,a6,a7,a8,a9,a10,a11,a12,a13,a14,a15,())))=(16:Nat)/\∀(c:Cls),c∈Tar.clauses t->∀(w:Tst),w∈Cls.when_ c->(qDR1<=Tst.attr w/\Tst.attr w<=qDR2)/\(qDR1<=Tst.low w/\Tst.low w<=qDR2)/\qDR1<=Tst.high w/\Tst.high w<=qDR2)/\∀(y:Int×Int×Int),y=amtF t (evOf (h,a0,a1,a2,a3,a4,a5,a6,a7,a8,a9,a10,a11,a12,a13,a14,a15,()))->(List.length (Ev.v (evOf (h,a0,a1,a2,a3,a4,a5,a6,a7,a8,a9,a10,a11,a12,a13,a14,a15,())))=(16:Nat)/\∀(c:Cls),c∈Tar.clauses (Prod.fst y_1)->∀(w:Tst),w∈Cls.when_ c->(qDR1<=Tst.attr w/\Tst.attr w<=qDR2)/\(qDR1<=Tst.low w/\Tst.low w<=qDR2)/\qDR1<=Tst.high w/\Tst.high w<=qDR2)/\∀(y_2:Int×Int×Int),y_2=amtF (Prod.fst y_1) (evOf (h,a0,a1,a2,a3,a4,a5,a6,a7,a8,a9,a10,a11,a12,a13,a14,a15,()))->((Prod.fst y==Prod.fst y_2)=true->((Prod.fst (Prod.snd y)==Prod.fst (Prod.snd y_2))=true->((Prod.snd (Prod.snd y)==Prod.snd (Prod.snd y_2))=true->true=v)/\((Prod.snd (Prod.snd y)==Prod.snd (Prod.snd y_2))=false->false=v))/\((Prod.fst (Prod.snd y)==Prod.fst (Prod.snd y_2))=false->false=v))/\((Prod.fst y==Prod.fst y_2)=false->false=v))))):=by kernel_rfl
theorem Z9a (t:Tar) (x:Ev) (hx:x.v.length=16):PureC E 4 [tarA t,evA x] (.bool false true):=by
 obtain ⟨h,v⟩:=x
 have hx:v.length=16:=hx
 match v,hx with
 | [a0,a1,a2,a3,a4,a5,a6,a7,a8,a9,a10,a11,a12,a13,a14,a15],_=>
 refine Zc E_ok (Zi E_ok Ycc 400) ?_
 rw [Z89];delta qDR1 qDR2
 simp only [true_and,and_true,Bool.not_true,Bool.not_eq_true',Bool.not_eq_false',Bool.true_eq_false,Bool.false_eq_true,false_imp_iff,true_imp_iff,bne_iff_ne,bne_eq_false_iff_eq,beq_iff_eq,beq_eq_false_iff_ne,ne_eq]
 refine ⟨fun _=>trivial,fun hf=> ?_⟩
 obtain ⟨f1,f2⟩:=Z2y hf
 have hS:SmT t:=⟨fun c hc=>And.intro (by have:=(f2 c hc).2;omega) (by have:=(f2 c hc).1;omega),by omega⟩
 refine ⟨hS,fun y hy=>⟨fun _=>trivial,fun h0=>fun u hu=> ?_⟩⟩
 rw [hy] at h0
 obtain ⟨hc,hl,hp⟩:=Zwx h0
 rw [hy,hp,Znp hc hl] at hu
 subst hu
 have hin:Z3x t:=fun c hcc w hw=>by
  have:=(Vu (Zka ((Vt t).1 hc).2.2.2.2.2 c hcc).1).2.2 w hw
  have:=Wy this
  unfold Tst.In I64r
  omega
 refine ⟨fun b=>b=false,⟨fun h=>absurd rfl h,fun _=>⟨fun h=>absurd rfl h,fun _=>rfl⟩⟩,fun h=>(by cases h),fun _=>⟨⟨rfl,hin⟩,fun y1 h1=>⟨⟨rfl,hin⟩,fun y2 h2=> ?_⟩⟩⟩
 rw [h1,h2]
 exact ⟨fun _=>⟨fun _=>⟨fun _=>trivial,fun h=>h rfl⟩,fun h=>h rfl⟩,fun h=>h rfl⟩
end
end Go.Proofs.YtddgkebdlgglaaaGreatDoor
