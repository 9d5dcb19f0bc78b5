/- Merged texts: DvE, DvF, DvG, DvH, DvQ0, DvQ, DvM, DvR, DvS, DvT, DvJ, DvU, DvW, RowDeriveProvesA, RowDeriveProvesB. -/
import Derived.Test.YtnailikggmapcaaGreatDoorMe
noncomputable section
namespace Go.Proofs.YtnailikggmapcaaGreatDoor
set_option linter.unusedVariables false
set_option linter.unusedSimpArgs false
set_option linter.unnecessarySimpa false
set_option maxRecDepth 100000
section
open Go Go.RowKit
/-- a derivation -/
structure Drv where
  code:List Ins
  env:Env
  amount:Int
  err:Int
  leaves:List (List Int)
def drvV (d:Drv):SV thy:=drV d.code d.env d.amount d.err d.leaves
def sn0:Code:=sqA (Ua Tryz.f12)
def sn1:Code:=sqA (sqB (Ua Tryz.f12))
def sn4:Code:=sqA (sqA (sqB (sqB (Ua Tryz.f12))))
def snF:Code:=bkA (sqB (sqA (sqB (sqB (Ua Tryz.f12)))))
def sn9:Code:=sqA (sqB (sqB (sqB (Ua Tryz.f12))))
theorem Z4m:Ua Tryz.f12= .seq sn0 (.seq sn1 (.seq (.seq sn4 (.block 0 (.rangeFunc (.tmp 24) #[25,26] (rfA snF) (rfB snF)))) (.seq sn9 .ret))):=by kernel_rfl
def rsS:List ResultVar:=Tryz.f12.results.toList
def d0B (d:Drv):Blk thy:= .raw (.psl .ins d.code false:: .int false .i64 d.env.has:: .int false .i64 d.env.v0:: .int false .i64 d.env.v1:: .int false .i64 d.env.v2:: .int false .i64 d.env.v3:: .int false .i64 d.env.v4:: .int false .i64 d.env.v5:: .int false .i64 d.env.v6:: .int false .i64 d.env.v7:: .int false .i64 d.env.v8:: .int false .i64 d.env.v9:: .int false .i64 d.env.v10:: .int false .i64 d.env.v11:: .int false .i64 d.env.v12:: .int false .i64 d.env.v13:: .int false .i64 d.env.v14:: .int false .i64 d.env.v15:: .int false .i64 d.amount:: .int false .i64 d.err:: [.psl .digs d.leaves false]) 0 none
def zsB:Blk thy:= .raw [zI,zI,zI,zI,.val (.slice none 0 0)] 0 none
def blS (d:Drv) (i:Int):List (Nat×Blk thy):= [(0,d0B d),(1,.raw [.int false .i64 i] 0 none),(2,zsB),(3,.raw [zI] 0 none),(4,cB d.code),(5,envB d.env)]
def blSH (d:Drv) (i:Int) (s:St):List (Nat×Blk thy):= [(0,d0B d),(1,.raw [.int false .i64 i] 0 none),(2,zsB),(3,.raw [zI] 0 none),(4,cB d.code),(5,envB d.env),(6,sB s)]
def frS:List (Nat×SV thy):= [(2,.ptr 0 0),(3,.ptr 1 0),(4,.ptr 2 0),(5,.ptr 3 0)]
def A0S (d:Drv) (i:Int):Ann thy:={X:=Unit,fr:=fun _=>(24,.fn (.func 50) [] [.ptr 4 0,.ptr 5 0])::frS,bl:=fun _=>blS d i,src:=fun _=> [],md:= [],ih:=6,M:=6,meas:=fun _=>0}
def AHS (d:Drv) (i:Int) (s:St):Ann thy:={X:=Unit,fr:=fun _=>frS,bl:=fun _=>blSH d i s,src:=fun _=> [],md:= [2,3,6],ih:=8,M:=60,meas:=fun _=>0}
--@condg spre | (d : Drv) (i : Int) | vcs FD 400 12 32 [sn0, sn1, sn4] (nthD [drvV d, .int false .i64 i]) hp0 0 [] (fun T h j ms => Ws j 6 (fits E2 (A0S d i) 6 T h ()))
theorem Zt4 (d:Drv) (i:Int):vcs FD 400 12 32 [sn0,sn1,sn4] (nthD [drvV d,.int false .i64 i]) hp0 0 [] (fun T h j ms=>Ws j 6 (fits E2 (A0S d i) 6 T h ()))=(
  True/\∀(y:Int×Int),y=verF (Drv.code d)->((Prod.snd y !=(0:Int))=true->False)/\((Prod.snd y !=(0:Int))=false->((Fn.func (50:Nat)
  =Fn.func (50:FuncId)/\True/\(0:Nat)=(0:Nat)/\(0:Nat)=(0:Nat)/\True)/\(0:Nat)=(0:Nat)/\(0:Nat)=(0:Nat)/\(0:Nat)=(0
  :Nat)/\(0:Nat)=(0:Nat)/\True)/\((Drv.code d=Drv.code d/\(false=true->false=true))/\Env.has (Drv.env d)=Env.has (Drv.env d)/\Env.v0 (Drv.env d)=Env.v0
  (Drv.env d)/\Env.v1 (Drv.env d)=Env.v1 (Drv.env d)/\Env.v2 (Drv.env d)=Env.v2 (Drv.env d)/\Env.v3 (Drv.env d)=Env.v3 (Drv.env d)/\Env.v4 (Drv.env d)=Env.v4 (Drv.env d)
  /\Env.v5 (Drv.env d)=Env.v5 (Drv.env d)/\Env.v6 (Drv.env d)=Env.v6 (Drv.env d)/\Env.v7 (Drv.env d)=Env.v7 (Drv.env d)/\Env.v8 (Drv.env d)=Env.v8 (Drv.env d)/\Env.v9
  (Drv.env d)=Env.v9 (Drv.env d)/\Env.v10 (Drv.env d)=Env.v10 (Drv.env d)/\Env.v11 (Drv.env d)=Env.v11 (Drv.env d)/\Env.v12 (Drv.env d)=Env.v12 (Drv.env d)/\Env.v13
  (Drv.env d)=Env.v13 (Drv.env d)/\Env.v14 (Drv.env d)=Env.v14 (Drv.env d)/\Env.v15 (Drv.env d)=Env.v15 (Drv.env d)/\Drv.amount d=Drv.amount d/\Drv.err d=Drv.err d/\
  (Drv.leaves d=Drv.leaves d/\(false=true->false=true))/\True)/\(i=i/\True)/\((0:Int)=(0:Int)/\(0:Int)=(0:Int)/\(0:Int)=(0:Int)/\(0:Int)=(0:
  Int)/\Value.slice none (0:Nat) (0:Nat)=Value.slice none (0:Nat) (0:Nat)/\True)/\((0:Int)=(0:Int)/\True)/\((Drv.code d=Drv.code d/\(false=true->false=
  true))/\True)/\(Env.has (Drv.env d)=Env.has (Drv.env d)/\Env.v0 (Drv.env d)=Env.v0 (Drv.env d)/\Env.v1 (Drv.env d)=Env.v1 (Drv.env d)/\Env.v2 (Drv.env d)=Env.v2
  (Drv.env d)/\Env.v3 (Drv.env d)=Env.v3 (Drv.env d)/\Env.v4 (Drv.env d)=Env.v4 (Drv.env d)/\Env.v5 (Drv.env d)=Env.v5 (Drv.env d)/\Env.v6 (Drv.env d)=Env.v6 (Drv.env d)
  /\Env.v7 (Drv.env d)=Env.v7 (Drv.env d)/\Env.v8 (Drv.env d)=Env.v8 (Drv.env d)/\Env.v9 (Drv.env d)=Env.v9 (Drv.env d)/\Env.v10 (Drv.env d)=Env.v10 (Drv.env d)/\Env.v11
  (Drv.env d)=Env.v11 (Drv.env d)/\Env.v12 (Drv.env d)=Env.v12 (Drv.env d)/\Env.v13 (Drv.env d)=Env.v13 (Drv.env d)/\Env.v14 (Drv.env d)=Env.v14 (Drv.env d)/\Env.v15
  (Drv.env d)=Env.v15 (Drv.env d)/\True)/\True)
  ):=by kernel_rfl
--@end
--@condg sent | (d : Drv) (i : Int) (l : Nat) (s : St) | vcs FD 400 50 36 [it0, it1] (nthD [.val (.func (.yield l) #[] #[]), .ptr 4 0, .ptr 5 0]) (blOf (blS d i)) 6 [] (fun T h j ms => j ≤ 60 ∧ fits E2 (AHS d i s) 7 (frOf frS) h () ∧ fitF ren7 T (frI l 0))
theorem Zt5 (d:Drv) (i:Int) (l:Nat) (s:St):vcs FD 400 50 36 [it0,it1] (nthD [.val (.func (.yield l) #[] #[]),.ptr 4 0,.ptr 5 0]) (blOf (blS d i)) 6 [] (fun T h j ms=>j<=60/\fits E2 (AHS d i s) 7 (frOf frS) h ()/\fitF ren7 T (frI l 0))=(
  True/\∀(y:St×Int),y=Za4 (wr IntKind.i64 ((↑(List.length (Drv.code d)):Int)+(1:Int)))->(7:Nat)<=(60:Nat)/\(((0:Nat)=(0:Nat)/\(0:Nat)=(0:Nat)/\
  (0:Nat)=(0:Nat)/\(0:Nat)=(0:Nat)/\True)/\((Drv.code d=Drv.code d/\(false=true->false=true))/\Env.has (Drv.env d)=Env.has (Drv.env d)/\Env.v0 (Drv.env d)
  =Env.v0 (Drv.env d)/\Env.v1 (Drv.env d)=Env.v1 (Drv.env d)/\Env.v2 (Drv.env d)=Env.v2 (Drv.env d)/\Env.v3 (Drv.env d)=Env.v3 (Drv.env d)/\Env.v4 (Drv.env d)=Env.v4
  (Drv.env d)/\Env.v5 (Drv.env d)=Env.v5 (Drv.env d)/\Env.v6 (Drv.env d)=Env.v6 (Drv.env d)/\Env.v7 (Drv.env d)=Env.v7 (Drv.env d)/\Env.v8 (Drv.env d)=Env.v8 (Drv.env d)
  /\Env.v9 (Drv.env d)=Env.v9 (Drv.env d)/\Env.v10 (Drv.env d)=Env.v10 (Drv.env d)/\Env.v11 (Drv.env d)=Env.v11 (Drv.env d)/\Env.v12 (Drv.env d)=Env.v12 (Drv.env d)/\
  Env.v13 (Drv.env d)=Env.v13 (Drv.env d)/\Env.v14 (Drv.env d)=Env.v14 (Drv.env d)/\Env.v15 (Drv.env d)=Env.v15 (Drv.env d)/\Drv.amount d=Drv.amount d/\Drv.err d=
  Drv.err d/\(Drv.leaves d=Drv.leaves d/\(false=true->false=true))/\True)/\(i=i/\True)/\((0:Int)=(0:Int)/\(0:Int)=(0:Int)/\(0:Int)=(0:Int)/\(0:
  Int)=(0:Int)/\Value.slice none (0:Nat) (0:Nat)=Value.slice none (0:Nat) (0:Nat)/\True)/\((0:Int)=(0:Int)/\True)/\((Drv.code d=Drv.code d/\(false=true
  ->false=true))/\True)/\(Env.has (Drv.env d)=Env.has (Drv.env d)/\Env.v0 (Drv.env d)=Env.v0 (Drv.env d)/\Env.v1 (Drv.env d)=Env.v1 (Drv.env d)/\Env.v2 (Drv.env d)=
  Env.v2 (Drv.env d)/\Env.v3 (Drv.env d)=Env.v3 (Drv.env d)/\Env.v4 (Drv.env d)=Env.v4 (Drv.env d)/\Env.v5 (Drv.env d)=Env.v5 (Drv.env d)/\Env.v6 (Drv.env d)=Env.v6
  (Drv.env d)/\Env.v7 (Drv.env d)=Env.v7 (Drv.env d)/\Env.v8 (Drv.env d)=Env.v8 (Drv.env d)/\Env.v9 (Drv.env d)=Env.v9 (Drv.env d)/\Env.v10 (Drv.env d)=Env.v10 (Drv.env
  d)/\Env.v11 (Drv.env d)=Env.v11 (Drv.env d)/\Env.v12 (Drv.env d)=Env.v12 (Drv.env d)/\Env.v13 (Drv.env d)=Env.v13 (Drv.env d)/\Env.v14 (Drv.env d)=Env.v14 (Drv.env d)/\
  Env.v15 (Drv.env d)=Env.v15 (Drv.env d)/\True)/\(St.pc (Prod.fst y)=St.pc s/\St.fuel (Prod.fst y)=St.fuel s/\St.status (Prod.fst y)=St.status s/\St.clause (Prod.fst y)
  =St.clause s/\(St.stack (Prod.fst y)=St.stack s/\(false=true->false=true))/\True)/\True)/\Value.func (Fn.yield l) #[] #[]=Value.func (Fn.yield l) #[] #[]/\(0:Nat)
  =(0:Nat)/\(0:Nat)=(0:Nat)/\(0:Nat)=(0:Nat)/\Prod.snd y=(0:Int)/\(0:Int)=(↑(0:Nat):Int)/\True
  ):=by kernel_rfl
--@end
--@condg sit | (d : Drv) (i : Int) (l k k' : Nat) (s s' : St) (PN PE PR : Prop) | itC E2 cD itT o2p o2y o2s (frI l k) 32 (rfA snF) (rfB snF) [25, 26] frS [2, 3, 6] l (blOf (blSH d i s)) (fun T h => PN ∧ fits E2 (AHS d i s') 7 (frOf frS) h () ∧ fitF ren7 T (frI l k')) (fun h => PE ∧ fits E2 (AHS d i s) 7 (frOf frS) h ()) (fun h => PR ∧ finX E2 rsS (.tup [stV s, .int false .i64 0]) (frOf frS) h)
theorem Zxh (d:Drv) (i:Int) (l k k':Nat) (s s':St) (PN PE PR:Prop):itC E2 cD itT o2p o2y o2s (frI l k) 32 (rfA snF) (rfB snF) [25,26] frS [2,3,6] l (blOf (blSH d i s)) (fun T h=>PN/\fits E2 (AHS d i s') 7 (frOf frS) h ()/\fitF ren7 T (frI l k')) (fun h=>PE/\fits E2 (AHS d i s) 7 (frOf frS) h ()) (fun h=>PR/\finX E2 rsS (.tup [stV s,.int false .i64 0]) (frOf frS) h)=(
  Value.func (Fn.yield l) #[] #[]=Value.func (Fn.yield l) #[] #[]/\(((↑k:Int)==i)=true->PR/\(St.pc s=St.pc s/\St.fuel s=St.fuel s/\St.status s=St.status s/\
  St.clause s=St.clause s/\(St.stack s=St.stack s/\(false=true->false=true))/\True)/\(0:Int)=(0:Int)/\True)/\(((↑k:Int)==i)=false->((St.status s==(0:
  Int))=true->True/\∀(y:St×Int),y=V7 (Drv.code d) (Drv.env d) s->PN/\(((0:Nat)=(0:Nat)/\(0:Nat)=(0:Nat)/\(0:Nat)=(0:Nat)/\(0:Nat)=(0:Nat)
  /\True)/\((Drv.code d=Drv.code d/\(false=true->false=true))/\Env.has (Drv.env d)=Env.has (Drv.env d)/\Env.v0 (Drv.env d)=Env.v0 (Drv.env d)/\Env.v1 (Drv.env d)=
  Env.v1 (Drv.env d)/\Env.v2 (Drv.env d)=Env.v2 (Drv.env d)/\Env.v3 (Drv.env d)=Env.v3 (Drv.env d)/\Env.v4 (Drv.env d)=Env.v4 (Drv.env d)/\Env.v5 (Drv.env d)=Env.v5
  (Drv.env d)/\Env.v6 (Drv.env d)=Env.v6 (Drv.env d)/\Env.v7 (Drv.env d)=Env.v7 (Drv.env d)/\Env.v8 (Drv.env d)=Env.v8 (Drv.env d)/\Env.v9 (Drv.env d)=Env.v9 (Drv.env d)
  /\Env.v10 (Drv.env d)=Env.v10 (Drv.env d)/\Env.v11 (Drv.env d)=Env.v11 (Drv.env d)/\Env.v12 (Drv.env d)=Env.v12 (Drv.env d)/\Env.v13 (Drv.env d)=Env.v13 (Drv.env d)/\
  Env.v14 (Drv.env d)=Env.v14 (Drv.env d)/\Env.v15 (Drv.env d)=Env.v15 (Drv.env d)/\Drv.amount d=Drv.amount d/\Drv.err d=Drv.err d/\(Drv.leaves d=Drv.leaves d/\(false
  =true->false=true))/\True)/\(i=i/\True)/\((0:Int)=(0:Int)/\(0:Int)=(0:Int)/\(0:Int)=(0:Int)/\(0:Int)=(0:Int)/\Value.slice none (0:Nat) (0:
  Nat)=Value.slice none (0:Nat) (0:Nat)/\True)/\((0:Int)=(0:Int)/\True)/\((Drv.code d=Drv.code d/\(false=true->false=true))/\True)/\(Env.has (Drv.env d)=
  Env.has (Drv.env d)/\Env.v0 (Drv.env d)=Env.v0 (Drv.env d)/\Env.v1 (Drv.env d)=Env.v1 (Drv.env d)/\Env.v2 (Drv.env d)=Env.v2 (Drv.env d)/\Env.v3 (Drv.env d)=Env.v3
  (Drv.env d)/\Env.v4 (Drv.env d)=Env.v4 (Drv.env d)/\Env.v5 (Drv.env d)=Env.v5 (Drv.env d)/\Env.v6 (Drv.env d)=Env.v6 (Drv.env d)/\Env.v7 (Drv.env d)=Env.v7 (Drv.env d)
  /\Env.v8 (Drv.env d)=Env.v8 (Drv.env d)/\Env.v9 (Drv.env d)=Env.v9 (Drv.env d)/\Env.v10 (Drv.env d)=Env.v10 (Drv.env d)/\Env.v11 (Drv.env d)=Env.v11 (Drv.env d)/\
  Env.v12 (Drv.env d)=Env.v12 (Drv.env d)/\Env.v13 (Drv.env d)=Env.v13 (Drv.env d)/\Env.v14 (Drv.env d)=Env.v14 (Drv.env d)/\Env.v15 (Drv.env d)=Env.v15 (Drv.env d)/\
  True)/\(St.pc (Prod.fst y)=St.pc s'/\St.fuel (Prod.fst y)=St.fuel s'/\St.status (Prod.fst y)=St.status s'/\St.clause (Prod.fst y)=St.clause s'/\(St.stack (Prod.fst y)
  =St.stack s'/\(false=true->false=true))/\True)/\True)/\Value.func (Fn.yield l) #[] #[]=Value.func (Fn.yield l) #[] #[]/\(0:Nat)=(0:Nat)/\(0:Nat)=(0:Nat)/\
  (0:Nat)=(0:Nat)/\Prod.snd y=(0:Int)/\wr IntKind.i64 ((↑k:Int)+(1:Int))=(↑k':Int)/\True)/\((St.status s==(0:Int))=false->PE/\((0:Nat)=(0:Nat)/\
  (0:Nat)=(0:Nat)/\(0:Nat)=(0:Nat)/\(0:Nat)=(0:Nat)/\True)/\((Drv.code d=Drv.code d/\(false=true->false=true))/\Env.has (Drv.env d)=Env.has (Drv.env
  d)/\Env.v0 (Drv.env d)=Env.v0 (Drv.env d)/\Env.v1 (Drv.env d)=Env.v1 (Drv.env d)/\Env.v2 (Drv.env d)=Env.v2 (Drv.env d)/\Env.v3 (Drv.env d)=Env.v3 (Drv.env d)/\Env.v4
  (Drv.env d)=Env.v4 (Drv.env d)/\Env.v5 (Drv.env d)=Env.v5 (Drv.env d)/\Env.v6 (Drv.env d)=Env.v6 (Drv.env d)/\Env.v7 (Drv.env d)=Env.v7 (Drv.env d)/\Env.v8 (Drv.env d)
  =Env.v8 (Drv.env d)/\Env.v9 (Drv.env d)=Env.v9 (Drv.env d)/\Env.v10 (Drv.env d)=Env.v10 (Drv.env d)/\Env.v11 (Drv.env d)=Env.v11 (Drv.env d)/\Env.v12 (Drv.env d)=
  Env.v12 (Drv.env d)/\Env.v13 (Drv.env d)=Env.v13 (Drv.env d)/\Env.v14 (Drv.env d)=Env.v14 (Drv.env d)/\Env.v15 (Drv.env d)=Env.v15 (Drv.env d)/\Drv.amount d=Drv.amount
  d/\Drv.err d=Drv.err d/\(Drv.leaves d=Drv.leaves d/\(false=true->false=true))/\True)/\(i=i/\True)/\((0:Int)=(0:Int)/\(0:Int)=(0:Int)/\(0:Int)=(0
  :Int)/\(0:Int)=(0:Int)/\Value.slice none (0:Nat) (0:Nat)=Value.slice none (0:Nat) (0:Nat)/\True)/\((0:Int)=(0:Int)/\True)/\((Drv.code d=Drv.code d/\
  (false=true->false=true))/\True)/\(Env.has (Drv.env d)=Env.has (Drv.env d)/\Env.v0 (Drv.env d)=Env.v0 (Drv.env d)/\Env.v1 (Drv.env d)=Env.v1 (Drv.env d)/\Env.v2
  (Drv.env d)=Env.v2 (Drv.env d)/\Env.v3 (Drv.env d)=Env.v3 (Drv.env d)/\Env.v4 (Drv.env d)=Env.v4 (Drv.env d)/\Env.v5 (Drv.env d)=Env.v5 (Drv.env d)/\Env.v6 (Drv.env d)
  =Env.v6 (Drv.env d)/\Env.v7 (Drv.env d)=Env.v7 (Drv.env d)/\Env.v8 (Drv.env d)=Env.v8 (Drv.env d)/\Env.v9 (Drv.env d)=Env.v9 (Drv.env d)/\Env.v10 (Drv.env d)=Env.v10
  (Drv.env d)/\Env.v11 (Drv.env d)=Env.v11 (Drv.env d)/\Env.v12 (Drv.env d)=Env.v12 (Drv.env d)/\Env.v13 (Drv.env d)=Env.v13 (Drv.env d)/\Env.v14 (Drv.env d)=Env.v14
  (Drv.env d)/\Env.v15 (Drv.env d)=Env.v15 (Drv.env d)/\True)/\(St.pc s=St.pc s/\St.fuel s=St.fuel s/\St.status s=St.status s/\St.clause s=St.clause s/\(St.stack s=
  St.stack s/\(false=true->false=true))/\True)/\True))
  ):=by kernel_rfl
--@end
--@condg sfin | (d : Drv) (i : Int) (s : St) | vcs FD 400 12 32 [sn9] (frOf frS) (blOf (blSH d i s)) 60 [] (fun T h i ms => finX E2 rsS (.tup [stV .zero, .int false .i64 1]) T h)
theorem Zt6 (d:Drv) (i:Int) (s:St):vcs FD 400 12 32 [sn9] (frOf frS) (blOf (blSH d i s)) 60 [] (fun T h i ms=>finX E2 rsS (.tup [stV .zero,.int false .i64 1]) T h)=(
  ((0:Int)=St.pc St.zero/\(0:Int)=St.fuel St.zero/\(0:Int)=St.status St.zero/\(0:Int)=St.clause St.zero/\St.stack St.zero= []/\True)/\(1:Int)=(1:Int)/\
  True
  ):=by kernel_rfl
--@end
--@condg sno | (d : Drv) (i : Int) | Zr E2 FD (vc E2 FD 400) 12 [drvV d, .int false .i64 i] hp0 0 (fun r => ret E2 (patch hp0 0 r) r.v (.tup [stV .zero, .int false .i64 (verF d.code).2]))
theorem Zxi (d:Drv) (i:Int):Zr E2 FD (vc E2 FD 400) 12 [drvV d,.int false .i64 i] hp0 0 (fun r=>ret E2 (patch hp0 0 r) r.v (.tup [stV .zero,.int false .i64 (verF d.code).2]))=(
  True/\∀(y:Int×Int),y=verF (Drv.code d)->((Prod.snd y !=(0:Int))=true->((0:Int)=St.pc St.zero/\(0:Int)=St.fuel St.zero/\(0:Int)=St.status St.zero/\(0
  :Int)=St.clause St.zero/\St.stack St.zero= []/\True)/\Prod.snd y=Prod.snd (verF (Drv.code d))/\True)/\((Prod.snd y !=(0:Int))=false->False)
  ):=by kernel_rfl
--@end
/-- what State answers -/
def X6 (d:Drv) (i:Int):St×Int:=if (verF d.code).2=0 then (if 0<=i/\i<=dM d.code d.env then (dsk d.code d.env i.toNat,0) else (.zero,1)) else (.zero,(verF d.code).2)
def Z3h (d:Drv) (i:Int) (k:Nat) (h:Hp thy):Prop:=(∀j:Nat,j<k->(j:Int)≠i)/\h=blOf (blSH d i (dsk d.code d.env k))
def KNs (d:Drv) (i:Int) (l k:Nat) (T:Fr thy) (h:Hp thy):Prop:=(k+1<=dM d.code d.env/\∀j:Nat,j<k+1->(j:Int)≠i)/\fits E2 (AHS d i (dsk d.code d.env (k+1))) 7 (frOf frS) h ()/\fitF ren7 T (frI l (k+1))
def KEs (d:Drv) (i:Int) (k:Nat) (h:Hp thy):Prop:=(k=dM d.code d.env/\∀j:Nat,j<k+1->(j:Int)≠i)/\fits E2 (AHS d i (dsk d.code d.env k)) 7 (frOf frS) h ()
def KRs (d:Drv) (i:Int) (k:Nat) (h:Hp thy):Prop:=(k:Int)=i/\finX E2 rsS (.tup [stV (dsk d.code d.env k),.int false .i64 0]) (frOf frS) h
theorem Zno (d:Drv) (i:Int) (s:St):DomLt (blOf (blSH d i s)) 8:=by
  intro j hj
  obtain ⟨x,hx⟩:=Option.ne_none_iff_exists'.1 hj
  have:=Wn hx
  simp [blSH] at this
  omega
theorem Zt7 {d:Drv} (i:Int) (hv:(verF d.code).2=0) (hcl:d.code.length<=4096) (l k:Nat) (hk:k<=dM d.code d.env) (h:Hp thy) (hh:Z3h d i k h):
    DomLt h 8/\itC E2 cD itT o2p o2y o2s (frI l k) 32 (rfA snF) (rfB snF) [25,26] frS [2,3,6] l h (KNs d i l k) (KEs d i k) (KRs d i k):=by
  obtain ⟨d1,d2,d3,d4⟩:=Zg5 (v:=d.env) hv
  have hw:wr .i64 ((k:Int)+1)=((k+1:Nat):Int):=(wr64 (by omega) (by omega)).trans (by omega)
  have hrun:((dsk d.code d.env k).status==0)=true->k+1<=dM d.code d.env:=fun q=>by
    rcases Nat.lt_or_ge k (dM d.code d.env) with h|h
    · exact h
    · obtain rfl:k=dM d.code d.env:=by omega
      exact absurd (by simpa using q) d2
  have hend:((dsk d.code d.env k).status==0)=false->k=dM d.code d.env:=fun q=>by
    rcases Nat.lt_or_ge k (dM d.code d.env) with h|h
    · rw [(d4 k h).1] at q;cases q
    · omega
  obtain ⟨hne,rfl⟩:=hh
  have hne':(((k:Int))==i)=false->∀j:Nat,j<k+1->(j:Int)≠i:=fun q j hj=>by
    rcases Nat.lt_or_ge j k with h|h
    · exact hne j h
    · obtain rfl:j=k:=by omega
      simpa using q
  refine ⟨Zno _ _ _,(Zxh d i l k (k+1) (dsk d.code d.env k) (dsk d.code d.env (k+1)) (k+1<=dM d.code d.env/\∀j:Nat,j<k+1->(j:Int)≠i) (k=dM d.code d.env/\∀j:Nat,j<k+1->(j:Int)≠i) ((k:Int)=i)).mpr ⟨rfl,fun q=> ?_,fun q=>⟨fun q2=>⟨trivial,fun y hy=>⟨⟨hrun q2,hne' q⟩,?_⟩⟩,fun q2=>⟨⟨hend q2,hne' q⟩,?_⟩⟩⟩⟩
  · refine ⟨by simpa using q,?_⟩
    simp
  · rw [(d4 k (hrun q2)).2.1] at hy
    subst hy
    simp
    exact hw
  · simp
theorem Zls {d:Drv} {i:Int} {s:St} {h:Hp thy} (hf:fits E2 (AHS d i s) 7 (frOf frS) h ()) {B:Nat} {σ:Pl} {g:GH} {W:World} {ac:Act} (hI:Inv E2 B σ h g W) (hF:FrOk E2 σ g (frOf frS) ac):
    ∃σ',StpL 7 60 [2,3,6] σ g W σ' g W/\Inv E2 B σ' (blOf (blSH d i s)) g W/\FrOk E2 σ' g (frOf frS) ac/\∀b,8<=b->b<60->σ' b=none:=
  Zc9 Zh (A:=AHS d i s) (x:=()) (by show 7<=8;omega) (by show 8<=60;omega) hf hI hF
theorem Znp {σ σ':Pl} {g:GH} {w:World} (h:StpL 7 60 [2,3,6] σ g w σ' g w):∀b c,ren7 b=some c->σ' b=σ c:=fun b c e=>by
  unfold ren7 at e
  split at e
  · rename_i q
    have:=Nat.le_of_ble_eq_true q
    cases e
    exact h.out b (.inl (by omega))
  · cases e
theorem Zxj:E2.P.funcs[(12:FuncId)]? =some Tryz.f12:=rfl
theorem Zp5:Tryz.f12.body=some (seqs [sn0,sn1] (.seq (.seq sn4 (.block 0 (.rangeFunc (.tmp 24) #[25,26] (rfA snF) (rfB snF)))) (.seq sn9 .ret))):=congrArg some Z4m
theorem Zlt {d:Drv} (i:Int) (hv:(verF d.code).2=0) (hcl:d.code.length<=4096):PureC E2 12 [drvV d,.int false .i64 i] (.tup [stV (X6 d i).1,.int false .i64 (X6 d i).2]):=by
  refine Zfs Zh (cD:=cD) Xo (V0:=fun T h i ms K=>vcs FD 400 50 36 [it0,it1] T h i ms K) (VT:=itT) (fun T h i ms K hD hk=>Zce [it0,it1] 50 36 T h i ms K hD hk) Zyv U2 U3 Wu Zev Z3f Zt0 rfl rfl Z3d (fr:=frI) (fun _ _=>rfl) (A0:=A0S d i) (x0:=()) ⟨rfl,rfl⟩ (frOut:=frS) (md:= [2,3,6]) (m:=dM d.code d.env)
    (K0:=fun l T h=>fits E2 (AHS d i (dsk d.code d.env 0)) 7 (frOf frS) h ()/\fitF ren7 T (frI l 0)) (KN:=KNs d i) (KE:=KEs d i) (KR:=KRs d i) Zxj (b1:=4) (b2:=5) Zp5 (by show (25:Nat)<32;decide) (by show (26:Nat)<32;decide)
    (V:=fun T h i ms K=>vcs FD 400 12 32 [sn0,sn1,sn4] T h i ms K) (V9:=fun T h i ms K=>vcs FD 400 12 32 [sn9] T h i ms K) (fun T h i ms K hD hk=>Zce [sn0,sn1,sn4] 12 32 T h i ms K hD hk) (fun T h i ms K hD hk=>Zce [sn9] 12 32 T h i ms K hD hk) (by show 2<=32;omega) ?_ rfl (by simp [frS]) (headP:=Z3h d i) (Zt7 i hv hcl) ?_ ?_ ?_ ?_ ?_ ?_
  · refine (Zt4 d i).mpr ⟨trivial,fun y hy=>⟨fun q=> ?_,fun q=> ?_⟩⟩
    · subst hy
      exact absurd hv (by simpa using q)
    · simp
  · intro j hj
    obtain ⟨x,hx⟩:=Option.ne_none_iff_exists'.1 hj
    have:=Wn hx
    simp [A0S,blS] at this
    omega
  · refine fun l=>(Zt5 d i l (dsk d.code d.env 0)).mpr ⟨trivial,fun y hy=> ?_⟩
    have hw:wr .i64 ((d.code.length:Int)+1)=(d.code.length:Int)+1:=wr64 (by omega) (by omega)
    rw [hw] at hy
    subst hy
    have hs:Za4 ((d.code.length:Int)+1)=(St.start ((d.code.length:Int)+1),0):=if_neg (by omega)
    rw [hs]
    simp [dsk,itF]
  · rintro a l T h ⟨k1,k2⟩ B σ g W ai hI hF hFo
    obtain ⟨σ',q1,q2,q3,q4⟩:=Zls k1 hI hFo
    exact ⟨σ',_,⟨fun j hj=>absurd hj (Nat.not_lt_zero j),rfl⟩,q1,q2,q3,Ug Zh (Znp q1) hF k2,q4⟩
  · rintro a l k T h hk ⟨⟨k0,kn⟩,k1,k2⟩
    refine ⟨k0,fun B σ g W ai hI hF hFo=> ?_⟩
    obtain ⟨σ',q1,q2,q3,q4⟩:=Zls k1 hI hFo
    exact ⟨σ',_,⟨kn,rfl⟩,q1,q2,q3,Ug Zh (Znp q1) hF k2,q4⟩
  · rintro k h hk ⟨⟨rfl,kn⟩,k1⟩ B σ g W a hI hF hfr
    obtain ⟨σ',q1,q2,q3,q4⟩:=Zls k1 hI hF
    have e:X6 d i=(.zero,1):=by
      unfold X6
      rw [if_pos hv,if_neg]
      rintro ⟨z1,z2⟩
      exact kn i.toNat (by omega) (by omega)
    refine ⟨σ',_,fun b hb=> ?_,?_,q2,q3,fun b hb=>(q1.out b (.inr hb)).trans (hfr b hb)⟩
    · have:=Zno _ _ _ b hb
      omega
    · rw [e]
      exact (Zt6 d i _).mpr (by simp [St.zero])
  · rintro k h hk ⟨rfl,k1⟩
    have e:X6 d (k:Int)=(dsk d.code d.env k,0):=by
      unfold X6
      rw [if_pos hv,if_pos (by omega)]
      rfl
    rw [e]
    exact k1
/-- derive.State -/
theorem Zp6 (d:Drv) (i:Int):PureC E2 12 [drvV d,.int false .i64 i] (.tup [stV (X6 d i).1,.int false .i64 (X6 d i).2]):=by
  by_cases hv:(verF d.code).2=0
  · obtain ⟨D,hc⟩:=V8 hv
    have h4:=hc.short
    exact Zlt i hv (by omega)
  · have e:X6 d i=(.zero,(verF d.code).2):=if_neg hv
    rw [e]
    exact Za Zh Z0t ((Zxi d i).mpr ⟨trivial,fun y hy=>⟨fun _=>by subst hy;simp [St.zero],fun q=>by
      subst hy
      exact hv (by simpa using q)⟩⟩)
end
section
open Go Go.RowKit
section
variable {Y:Thy} {E:Eng Y}
def dMap {α β:Type} (d:Dc E α) (f:α->β) (e:β->SV Y) (he:∀a,e (f a)=d.enc a):Dc E β where
  dec v:=(d.dec v).map f
  enc b:=e b
  ok v b h:=by
    obtain ⟨a,h1,rfl⟩:=Option.map_eq_some_iff.1 h
    rw [he]
    exact d.ok v a h1
end
def evZ:Env:=⟨0,0,0,0,0,0,0,0,0,0,0,0,0,0,0,0,0⟩
/-- what Run answers -/
def drF (c:List Ins) (v:Env):Drv×Int:=if (verF c).2=0 then (⟨c,v,(Zt (dsk c v (dM c v))).1,(Zt (dsk c v (dM c v))).2.2,lvL c v (dM c v+1)⟩,0) else (⟨[],evZ,0,0,[]⟩,(verF c).2)
--@condg noz | (c : List Ins) (v : Env) (z : Drv) | Zr E2 FD (vc E2 FD 400) 8 [.psl .ins c false, envV v] hp0 0 (fun r => ret E2 (patch hp0 0 r) r.v (.tup [drvV z, .int false .i64 (verF c).2]))
theorem Zxq (c:List Ins) (v:Env) (z:Drv):Zr E2 FD (vc E2 FD 400) 8 [.psl .ins c false,envV v] hp0 0 (fun r=>ret E2 (patch hp0 0 r) r.v (.tup [drvV z,.int false .i64 (verF c).2]))=(
  True/\∀(y:Int×Int),y=verF c->((Prod.snd y !=(0:Int))=true->(Drv.code z= []/\(0:Int)=Env.has (Drv.env z)/\(0:Int)=Env.v0 (Drv.env z)/\(0:Int)=Env.v1
  (Drv.env z)/\(0:Int)=Env.v2 (Drv.env z)/\(0:Int)=Env.v3 (Drv.env z)/\(0:Int)=Env.v4 (Drv.env z)/\(0:Int)=Env.v5 (Drv.env z)/\(0:Int)=Env.v6 (Drv.env z)/\
  (0:Int)=Env.v7 (Drv.env z)/\(0:Int)=Env.v8 (Drv.env z)/\(0:Int)=Env.v9 (Drv.env z)/\(0:Int)=Env.v10 (Drv.env z)/\(0:Int)=Env.v11 (Drv.env z)/\(0:Int)=
  Env.v12 (Drv.env z)/\(0:Int)=Env.v13 (Drv.env z)/\(0:Int)=Env.v14 (Drv.env z)/\(0:Int)=Env.v15 (Drv.env z)/\(0:Int)=Drv.amount z/\(0:Int)=Drv.err z/\
  Drv.leaves z= []/\True)/\Prod.snd y=Prod.snd (verF c)/\True)/\((Prod.snd y !=(0:Int))=false->False)
  ):=by kernel_rfl
--@end
/-- derive.Run -/
theorem Zui (c:List Ins) (v:Env):PureC E2 8 [.psl .ins c false,envV v] (.tup [drvV (drF c v).1,.int false .i64 (drF c v).2]):=by
  by_cases hv:(verF c).2=0
  · obtain ⟨D,hc⟩:=V8 hv
    have h4:=hc.short
    have e:drF c v=(⟨c,v,(Zt (dsk c v (dM c v))).1,(Zt (dsk c v (dM c v))).2.2,lvL c v (dM c v+1)⟩,0):=if_pos hv
    rw [e]
    exact Zt2 hv (by omega)
  · have e:drF c v=(⟨[],evZ,0,0,[]⟩,(verF c).2):=if_neg hv
    rw [e]
    exact Za Zh Z0t ((Zxq c v ⟨[],evZ,0,0,[]⟩).mpr ⟨trivial,fun y hy=>⟨fun _=>by subst hy;simp [evZ],fun q=>by
      subst hy
      exact hv (by simpa using q)⟩⟩)
def dI2:Dc E2 Int:=dInt (E:=E2) .i64
def Zqa:Dc E2 (List (List Int)):=(Zk4 (E:=E2) Th.digs:Dc E2 (List (thy.dom Th.digs)))
def Z4s:DcL E2 (List Ins×Int×Int×Int×Int×Int×Int×Int×Int×Int×Int×Int×Int×Int×Int×Int×Int×Int×Int×Int×List (List Int)×Unit):= .cons (Ziq E2) (.cons dI2 (.cons dI2 (.cons dI2 (.cons dI2 (.cons dI2 (.cons dI2 (.cons dI2 (.cons dI2 (.cons dI2 (.cons dI2 (.cons dI2 (.cons dI2 (.cons dI2 (.cons dI2 (.cons dI2 (.cons dI2 (.cons dI2 (.cons dI2 (.cons dI2 (.cons Zqa .nil))))))))))))))))))))
def dDrv:Dc E2 Drv:=dMap (dAgg Z4s) (fun a=>⟨a.1,⟨a.2.1,a.2.2.1,a.2.2.2.1,a.2.2.2.2.1,a.2.2.2.2.2.1,a.2.2.2.2.2.2.1,a.2.2.2.2.2.2.2.1,a.2.2.2.2.2.2.2.2.1,a.2.2.2.2.2.2.2.2.2.1,a.2.2.2.2.2.2.2.2.2.2.1,a.2.2.2.2.2.2.2.2.2.2.2.1,a.2.2.2.2.2.2.2.2.2.2.2.2.1,a.2.2.2.2.2.2.2.2.2.2.2.2.2.1,a.2.2.2.2.2.2.2.2.2.2.2.2.2.2.1,a.2.2.2.2.2.2.2.2.2.2.2.2.2.2.2.1,a.2.2.2.2.2.2.2.2.2.2.2.2.2.2.2.2.1,a.2.2.2.2.2.2.2.2.2.2.2.2.2.2.2.2.2.1⟩,a.2.2.2.2.2.2.2.2.2.2.2.2.2.2.2.2.2.2.1,a.2.2.2.2.2.2.2.2.2.2.2.2.2.2.2.2.2.2.2.1,a.2.2.2.2.2.2.2.2.2.2.2.2.2.2.2.2.2.2.2.2.1⟩) drvV (fun _=>rfl)
def Zxr:Sum thy:=X7 E2 gthV 10 (.cons (Ziq E2) (.cons Zur .nil)) (fun _=>True) (fun x=>drF x.1 x.2.1) fun y=> .tup [drvV y.1,.int false .i64 y.2]
theorem Zhi:SumOk E2 8 Zxr:=Zw Zh (Zi rfl) fun x _=>Zui x.1 x.2.1
def Zl0:Sum thy:=X7 E2 gthV 10 (.cons dDrv (.cons dI2 .nil)) (fun _=>True) (fun x=>X6 x.1 x.2.1) fun y=> .tup [stV y.1,.int false .i64 y.2]
theorem Zfo:SumOk E2 12 Zl0:=Zw Zh (Zi rfl) fun x _=>Zp6 x.1 x.2.1
def ACk:Fr thy->Hp thy->Nat->Ann thy:=fun T h i=>{X:=LX,fr:=fun x=> [(1,T 1),(4,T 4),(39,T 39),(40,T 40),(41,.int false .i64 x.k)],bl:=fun x=>blkP h (T 1)++blkP h (T 4),src:=fun _=> [],md:= [],ih:=i,M:=i+30,meas:=fun x=>x.r}
def FCk:Fns thy:=addL (addS F0 8 Zxr) 10 9 ACk E2
theorem Z3o:FnsOk E2 FCk:=Z3 Zh (Zf X5 Zhi) _ _ _
--@cond check | 10 | E2:FCk | 400 | (d : Drv) (z : Int × Int) | [drvV d] | | .tup [.int false .i64 z.1, .int false .i64 z.2]
theorem Zqb (d:Drv) (z:Int×Int):Zr E2 FCk (vc E2 FCk 400) 10 [drvV d] hp0 0 (fun r=>ret E2 (patch hp0 0 r) r.v (.tup [.int false .i64 z.1,.int false .i64 z.2]))=(
  (((↑(List.length (Drv.code d)):Int)==(0:Int))=true->∃(Q:Bool->Prop),((decide ((↑(List.length (Drv.leaves d)):Int)>(0:Int))=true->Q true)/\(decide
  ((↑(List.length (Drv.leaves d)):Int)>(0:Int))=false->((Drv.amount d !=(0:Int))=true->Q true)/\((Drv.amount d !=(0:Int))=false->((Drv.err d !=(220:Int))=
  true->Q true)/\((Drv.err d !=(220:Int))=false->Q false))))/\(Q true->(0:Int)=Prod.fst z/\(300:Int)=Prod.snd z/\True)/\(Q false->(0:Int)=Prod.fst z/\(0:
  Int)=Prod.snd z/\True))/\(((↑(List.length (Drv.code d)):Int)==(0:Int))=false->True/\∀(y:Drv×Int),y=drF (Drv.code d) (Drv.env d)->((Prod.snd y !=(0:Int))=
  true->(0:Int)=Prod.fst z/\Prod.snd y=Prod.snd z/\True)/\((Prod.snd y !=(0:Int))=false->∃(R:LX->Prop),(∃(x:LX),R x/\true=true/\((0:Nat)=(0:Nat)/\
  (0:Nat)=(0:Nat)/\(Drv.leaves (Prod.fst y)=Drv.leaves (Prod.fst y)/\(false=true->false=true))/\(↑(List.length (Drv.leaves (Prod.fst y))):Int)=(↑(List.length
  (Drv.leaves (Prod.fst y))):Int)/\(0:Int)=(↑(LX.k x):Int)/\True)/\((Drv.code d=Drv.code d/\(false=true->false=true))/\Env.has (Drv.env d)=Env.has (Drv.env d)/\
  Env.v0 (Drv.env d)=Env.v0 (Drv.env d)/\Env.v1 (Drv.env d)=Env.v1 (Drv.env d)/\Env.v2 (Drv.env d)=Env.v2 (Drv.env d)/\Env.v3 (Drv.env d)=Env.v3 (Drv.env d)/\Env.v4
  (Drv.env d)=Env.v4 (Drv.env d)/\Env.v5 (Drv.env d)=Env.v5 (Drv.env d)/\Env.v6 (Drv.env d)=Env.v6 (Drv.env d)/\Env.v7 (Drv.env d)=Env.v7 (Drv.env d)/\Env.v8 (Drv.env d)
  =Env.v8 (Drv.env d)/\Env.v9 (Drv.env d)=Env.v9 (Drv.env d)/\Env.v10 (Drv.env d)=Env.v10 (Drv.env d)/\Env.v11 (Drv.env d)=Env.v11 (Drv.env d)/\Env.v12 (Drv.env d)=
  Env.v12 (Drv.env d)/\Env.v13 (Drv.env d)=Env.v13 (Drv.env d)/\Env.v14 (Drv.env d)=Env.v14 (Drv.env d)/\Env.v15 (Drv.env d)=Env.v15 (Drv.env d)/\Drv.amount d=Drv.amount
  d/\Drv.err d=Drv.err d/\(Drv.leaves d=Drv.leaves d/\(false=true->false=true))/\True)/\((Drv.code (Prod.fst y)=Drv.code (Prod.fst y)/\(false=true->false=true))
  /\Env.has (Drv.env (Prod.fst y))=Env.has (Drv.env (Prod.fst y))/\Env.v0 (Drv.env (Prod.fst y))=Env.v0 (Drv.env (Prod.fst y))/\Env.v1 (Drv.env (Prod.fst y))=Env.v1 (Drv.env
  (Prod.fst y))/\Env.v2 (Drv.env (Prod.fst y))=Env.v2 (Drv.env (Prod.fst y))/\Env.v3 (Drv.env (Prod.fst y))=Env.v3 (Drv.env (Prod.fst y))/\Env.v4 (Drv.env (Prod.fst y))=
  Env.v4 (Drv.env (Prod.fst y))/\Env.v5 (Drv.env (Prod.fst y))=Env.v5 (Drv.env (Prod.fst y))/\Env.v6 (Drv.env (Prod.fst y))=Env.v6 (Drv.env (Prod.fst y))/\Env.v7 (Drv.env
  (Prod.fst y))=Env.v7 (Drv.env (Prod.fst y))/\Env.v8 (Drv.env (Prod.fst y))=Env.v8 (Drv.env (Prod.fst y))/\Env.v9 (Drv.env (Prod.fst y))=Env.v9 (Drv.env (Prod.fst y))/\
  Env.v10 (Drv.env (Prod.fst y))=Env.v10 (Drv.env (Prod.fst y))/\Env.v11 (Drv.env (Prod.fst y))=Env.v11 (Drv.env (Prod.fst y))/\Env.v12 (Drv.env (Prod.fst y))=Env.v12
  (Drv.env (Prod.fst y))/\Env.v13 (Drv.env (Prod.fst y))=Env.v13 (Drv.env (Prod.fst y))/\Env.v14 (Drv.env (Prod.fst y))=Env.v14 (Drv.env (Prod.fst y))/\Env.v15 (Drv.env
  (Prod.fst y))=Env.v15 (Drv.env (Prod.fst y))/\Drv.amount (Prod.fst y)=Drv.amount (Prod.fst y)/\Drv.err (Prod.fst y)=Drv.err (Prod.fst y)/\(Drv.leaves (Prod.fst y)=
  Drv.leaves (Prod.fst y)/\(false=true->false=true))/\True)/\True)/\∀(x:LX),R x->(decide ((↑(LX.k x):Int)<(↑(List.length (Drv.leaves (Prod.fst y))):Int))=true->
  (0:Int)<=(↑(LX.k x):Int)/\(↑(LX.k x):Int)+(1:Int)<=(↑(List.length (Drv.leaves (Prod.fst y))):Int)/\∀(x_1:List Int),(Drv.leaves (Prod.fst y))[Int.toNat (↑(LX.k
  x):Int)]? =some x_1->(decide ((↑(LX.k x):Int)>=(↑(List.length (Drv.leaves d)):Int))=true->(↑(LX.k x):Int)=Prod.fst z/\(300:Int)=Prod.snd z/\True)/\(decide
  ((↑(LX.k x):Int)>=(↑(List.length (Drv.leaves d)):Int))=false->(0:Int)<=(↑(LX.k x):Int)/\(↑(LX.k x):Int)+(1:Int)<=(↑(List.length (Drv.leaves d)):Int)/\∀(x_2
  :List Int),(Drv.leaves d)[Int.toNat (↑(LX.k x):Int)]? =some x_2->∀(v:Bool),v= !(List.getD x_2 (0:Nat) (0:Int)==List.getD x_1 (0:Nat) (0:Int)&&(List.getD x_2
  (1:Nat) (0:Int)==List.getD x_1 (1:Nat) (0:Int)&&(List.getD x_2 (2:Nat) (0:Int)==List.getD x_1 (2:Nat) (0:Int)&&(List.getD x_2 (3:Nat) (0:Int)==
  List.getD x_1 (3:Nat) (0:Int)&&(List.getD x_2 (4:Nat) (0:Int)==List.getD x_1 (4:Nat) (0:Int)&&(List.getD x_2 (5:Nat) (0:Int)==List.getD x_1 (5:Nat) (0:
  Int)&&(List.getD x_2 (6:Nat) (0:Int)==List.getD x_1 (6:Nat) (0:Int)&&(List.getD x_2 (7:Nat) (0:Int)==List.getD x_1 (7:Nat) (0:Int)&&(List.getD x_2 (8:
  Nat) (0:Int)==List.getD x_1 (8:Nat) (0:Int)&&(List.getD x_2 (9:Nat) (0:Int)==List.getD x_1 (9:Nat) (0:Int)&&(List.getD x_2 (10:Nat) (0:Int)==List.getD
  x_1 (10:Nat) (0:Int)&&(List.getD x_2 (11:Nat) (0:Int)==List.getD x_1 (11:Nat) (0:Int)&&(List.getD x_2 (12:Nat) (0:Int)==List.getD x_1 (12:Nat) (0:Int)
  &&(List.getD x_2 (13:Nat) (0:Int)==List.getD x_1 (13:Nat) (0:Int)&&(List.getD x_2 (14:Nat) (0:Int)==List.getD x_1 (14:Nat) (0:Int)&&(List.getD x_2 (15:
  Nat) (0:Int)==List.getD x_1 (15:Nat) (0:Int)&&(List.getD x_2 (16:Nat) (0:Int)==List.getD x_1 (16:Nat) (0:Int)&&(List.getD x_2 (17:Nat) (0:Int)==
  List.getD x_1 (17:Nat) (0:Int)&&(List.getD x_2 (18:Nat) (0:Int)==List.getD x_1 (18:Nat) (0:Int)&&(List.getD x_2 (19:Nat) (0:Int)==List.getD x_1 (19:Nat)
  (0:Int)&&(List.getD x_2 (20:Nat) (0:Int)==List.getD x_1 (20:Nat) (0:Int)&&(List.getD x_2 (21:Nat) (0:Int)==List.getD x_1 (21:Nat) (0:Int)&&(List.getD
  x_2 (22:Nat) (0:Int)==List.getD x_1 (22:Nat) (0:Int)&&(List.getD x_2 (23:Nat) (0:Int)==List.getD x_1 (23:Nat) (0:Int)&&(List.getD x_2 (24:Nat) (0:Int)
  ==List.getD x_1 (24:Nat) (0:Int)&&(List.getD x_2 (25:Nat) (0:Int)==List.getD x_1 (25:Nat) (0:Int)&&(List.getD x_2 (26:Nat) (0:Int)==List.getD x_1 (26:
  Nat) (0:Int)&&(List.getD x_2 (27:Nat) (0:Int)==List.getD x_1 (27:Nat) (0:Int)&&(List.getD x_2 (28:Nat) (0:Int)==List.getD x_1 (28:Nat) (0:Int)&&
  (List.getD x_2 (29:Nat) (0:Int)==List.getD x_1 (29:Nat) (0:Int)&&(List.getD x_2 (30:Nat) (0:Int)==List.getD x_1 (30:Nat) (0:Int)&&(List.getD x_2 (31:Nat)
  (0:Int)==List.getD x_1 (31:Nat) (0:Int)&&true))))))))))))))))))))))))))))))))->(v=true->(↑(LX.k x):Int)=Prod.fst z/\(300:Int)=Prod.snd z/\True)/\(v=false
  ->∃(x_3:LX),R x_3/\x_3.2+(1:Nat)<=x.2/\true=true/\((0:Nat)=(0:Nat)/\(0:Nat)=(0:Nat)/\(Drv.leaves (Prod.fst y)=Drv.leaves (Prod.fst y)/\(false=true
  ->false=true))/\(↑(List.length (Drv.leaves (Prod.fst y))):Int)=(↑(List.length (Drv.leaves (Prod.fst y))):Int)/\wr IntKind.i64 ((↑(LX.k x):Int)+(1:Int))=(↑(LX.k
  x_3):Int)/\True)/\((Drv.code d=Drv.code d/\(false=true->false=true))/\Env.has (Drv.env d)=Env.has (Drv.env d)/\Env.v0 (Drv.env d)=Env.v0 (Drv.env d)/\Env.v1
  (Drv.env d)=Env.v1 (Drv.env d)/\Env.v2 (Drv.env d)=Env.v2 (Drv.env d)/\Env.v3 (Drv.env d)=Env.v3 (Drv.env d)/\Env.v4 (Drv.env d)=Env.v4 (Drv.env d)/\Env.v5 (Drv.env d)
  =Env.v5 (Drv.env d)/\Env.v6 (Drv.env d)=Env.v6 (Drv.env d)/\Env.v7 (Drv.env d)=Env.v7 (Drv.env d)/\Env.v8 (Drv.env d)=Env.v8 (Drv.env d)/\Env.v9 (Drv.env d)=Env.v9
  (Drv.env d)/\Env.v10 (Drv.env d)=Env.v10 (Drv.env d)/\Env.v11 (Drv.env d)=Env.v11 (Drv.env d)/\Env.v12 (Drv.env d)=Env.v12 (Drv.env d)/\Env.v13 (Drv.env d)=Env.v13
  (Drv.env d)/\Env.v14 (Drv.env d)=Env.v14 (Drv.env d)/\Env.v15 (Drv.env d)=Env.v15 (Drv.env d)/\Drv.amount d=Drv.amount d/\Drv.err d=Drv.err d/\(Drv.leaves d=
  Drv.leaves d/\(false=true->false=true))/\True)/\((Drv.code (Prod.fst y)=Drv.code (Prod.fst y)/\(false=true->false=true))/\Env.has (Drv.env (Prod.fst y))=Env.has
  (Drv.env (Prod.fst y))/\Env.v0 (Drv.env (Prod.fst y))=Env.v0 (Drv.env (Prod.fst y))/\Env.v1 (Drv.env (Prod.fst y))=Env.v1 (Drv.env (Prod.fst y))/\Env.v2 (Drv.env (Prod.fst
  y))=Env.v2 (Drv.env (Prod.fst y))/\Env.v3 (Drv.env (Prod.fst y))=Env.v3 (Drv.env (Prod.fst y))/\Env.v4 (Drv.env (Prod.fst y))=Env.v4 (Drv.env (Prod.fst y))/\Env.v5
  (Drv.env (Prod.fst y))=Env.v5 (Drv.env (Prod.fst y))/\Env.v6 (Drv.env (Prod.fst y))=Env.v6 (Drv.env (Prod.fst y))/\Env.v7 (Drv.env (Prod.fst y))=Env.v7 (Drv.env (Prod.fst
  y))/\Env.v8 (Drv.env (Prod.fst y))=Env.v8 (Drv.env (Prod.fst y))/\Env.v9 (Drv.env (Prod.fst y))=Env.v9 (Drv.env (Prod.fst y))/\Env.v10 (Drv.env (Prod.fst y))=Env.v10
  (Drv.env (Prod.fst y))/\Env.v11 (Drv.env (Prod.fst y))=Env.v11 (Drv.env (Prod.fst y))/\Env.v12 (Drv.env (Prod.fst y))=Env.v12 (Drv.env (Prod.fst y))/\Env.v13 (Drv.env
  (Prod.fst y))=Env.v13 (Drv.env (Prod.fst y))/\Env.v14 (Drv.env (Prod.fst y))=Env.v14 (Drv.env (Prod.fst y))/\Env.v15 (Drv.env (Prod.fst y))=Env.v15 (Drv.env (Prod.fst y))/\
  Drv.amount (Prod.fst y)=Drv.amount (Prod.fst y)/\Drv.err (Prod.fst y)=Drv.err (Prod.fst y)/\(Drv.leaves (Prod.fst y)=Drv.leaves (Prod.fst y)/\(false=true->false=
  true))/\True)/\True)))/\(decide ((↑(LX.k x):Int)<(↑(List.length (Drv.leaves (Prod.fst y))):Int))=false->(decide ((↑(List.length (Drv.leaves d)):Int)>(↑(List.length
  (Drv.leaves (Prod.fst y))):Int))=true->(↑(List.length (Drv.leaves (Prod.fst y))):Int)=Prod.fst z/\(300:Int)=Prod.snd z/\True)/\(decide ((↑(List.length (Drv.leaves
  d)):Int)>(↑(List.length (Drv.leaves (Prod.fst y))):Int))=false->((Drv.amount d !=Drv.amount (Prod.fst y))=true->wr IntKind.i64 ((↑(List.length (Drv.leaves (Prod.fst
  y))):Int)-(1:Int))=Prod.fst z/\(300:Int)=Prod.snd z/\True)/\((Drv.amount d !=Drv.amount (Prod.fst y))=false->((Drv.err d !=Drv.err (Prod.fst y))=true->wr
  IntKind.i64 ((↑(List.length (Drv.leaves (Prod.fst y))):Int)-(1:Int))=Prod.fst z/\(300:Int)=Prod.snd z/\True)/\((Drv.err d !=Drv.err (Prod.fst y))=false->(0:
  Int)=Prod.fst z/\(0:Int)=Prod.snd z/\True))))))
  ):=by kernel_rfl
--@end
theorem Zuj (a b:List Int):(List.getD a 0 0==List.getD b 0 0&&(List.getD a 1 0==List.getD b 1 0&&(List.getD a 2 0==List.getD b 2 0&&(List.getD a 3 0==List.getD b 3 0&&(List.getD a 4 0==List.getD b 4 0&&(List.getD a 5 0==List.getD b 5 0&&(List.getD a 6 0==List.getD b 6 0&&(List.getD a 7 0==List.getD b 7 0&&(List.getD a 8 0==List.getD b 8 0&&(List.getD a 9 0==List.getD b 9 0&&(List.getD a 10 0==List.getD b 10 0&&(List.getD a 11 0==List.getD b 11 0&&(List.getD a 12 0==List.getD b 12 0&&(List.getD a 13 0==List.getD b 13 0&&(List.getD a 14 0==List.getD b 14 0&&(List.getD a 15 0==List.getD b 15 0&&(List.getD a 16 0==List.getD b 16 0&&(List.getD a 17 0==List.getD b 17 0&&(List.getD a 18 0==List.getD b 18 0&&(List.getD a 19 0==List.getD b 19 0&&(List.getD a 20 0==List.getD b 20 0&&(List.getD a 21 0==List.getD b 21 0&&(List.getD a 22 0==List.getD b 22 0&&(List.getD a 23 0==List.getD b 23 0&&(List.getD a 24 0==List.getD b 24 0&&(List.getD a 25 0==List.getD b 25 0&&(List.getD a 26 0==List.getD b 26 0&&(List.getD a 27 0==List.getD b 27 0&&(List.getD a 28 0==List.getD b 28 0&&(List.getD a 29 0==List.getD b 29 0&&(List.getD a 30 0==List.getD b 30 0&&(List.getD a 31 0==List.getD b 31 0&&(true)))))))))))))))))))))))))))))))))=decide (n32 a=n32 b):=by
  rw [Bool.eq_iff_iff]
  simp only [n32x,List.cons.injEq,decide_eq_true_eq,Bool.and_eq_true,beq_iff_eq,and_true]
/-- the first of the leaves R that is not in its place in L -/
def Xb:List (List Int)->List (List Int)->Nat->Option Nat
  | [],_,_=>none
  |x::r,[],k=>some k
  |x::r,y::l,k=>if n32 y=n32 x then Xb r l (k+1) else some k
theorem Zjc {R L:List (List Int)} {k:Nat} {x y:List Int} (h1:R[k]? =some x) (h2:L[k]? =some y):Xb (R.drop k) (L.drop k) k=if n32 y=n32 x then Xb (R.drop (k+1)) (L.drop (k+1)) (k+1) else some k:=by
  obtain ⟨a1,e1⟩:=gA9.1 h1
  obtain ⟨a2,e2⟩:=gA9.1 h2
  rw [List.drop_eq_getElem_cons a1,List.drop_eq_getElem_cons a2,e1,e2]
  rfl
theorem Zqc {R L:List (List Int)} {k:Nat} {x:List Int} (h1:R[k]? =some x) (h2:L.length<=k):Xb (R.drop k) (L.drop k) k=some k:=by
  obtain ⟨a1,e1⟩:=gA9.1 h1
  rw [List.drop_eq_getElem_cons a1,List.drop_of_length_le h2]
  rfl
theorem Zxs {R L:List (List Int)} {k:Nat} (h1:R.length<=k):Xb (R.drop k) (L.drop k) k=none:=by
  rw [List.drop_of_length_le h1]
  rfl
/-- what Check answers -/
def Yg (d:Drv):Int×Int:=
  if d.code= [] then (if 0<d.leaves.length\/d.amount≠0\/d.err≠220 then (0,300) else (0,0))
  else if (drF d.code d.env).2≠0 then (0,(drF d.code d.env).2)
  else match Xb (drF d.code d.env).1.leaves d.leaves 0 with
    |some k=>((k:Int),300)
    |none=>if (drF d.code d.env).1.leaves.length<d.leaves.length then (((drF d.code d.env).1.leaves.length:Int),300)
      else if d.amount≠(drF d.code d.env).1.amount\/d.err≠(drF d.code d.env).1.err then (((drF d.code d.env).1.leaves.length:Int)-1,300)
      else (0,0)
theorem Z1i {c:List Ins} {v:Env} (h:(drF c v).2=0):1<=(drF c v).1.leaves.length/\(drF c v).1.leaves.length<=4097/\(drF c v).1.leaves.length<=c.length+1:=by
  by_cases hv:(verF c).2=0
  · obtain ⟨D,hc⟩:=V8 hv
    have h4:=hc.short
    have h5:=(Zg5 (v:=v) hv).1
    unfold drF
    rw [if_pos hv]
    show 1<=(lvL c v (dM c v+1)).length/\(lvL c v (dM c v+1)).length<=4097/\(lvL c v (dM c v+1)).length<=c.length+1
    rw [Zbw]
    omega
  · unfold drF at h
    rw [if_neg hv] at h
    exact absurd h hv
/-- derive.Check -/
theorem Zl1 (d:Drv):PureC E2 10 [drvV d] (.tup [.int false .i64 (Yg d).1,.int false .i64 (Yg d).2]):=by
  refine Za Zh (Zg Zh Z3o 400) ?_
  rw [Zqb d (Yg d)]
  refine ⟨fun h0=> ?_,fun h0=>⟨trivial,fun y hy=>⟨fun h1=> ?_,fun h1=> ?_⟩⟩⟩
  · have hc:d.code= []:=by simpa using h0
    refine ⟨fun b=>b=decide (0<d.leaves.length\/d.amount≠0\/d.err≠220),⟨fun a1=> ?_,fun a1=>⟨fun a2=> ?_,fun a2=>⟨fun a3=> ?_,fun a3=> ?_⟩⟩⟩,fun q=> ?_,fun q=> ?_⟩
    · simp only [decide_eq_true_eq] at a1
      exact (decide_eq_true (.inl (by omega))).symm
    · exact (decide_eq_true (.inr (.inl (by simpa using a2)))).symm
    · exact (decide_eq_true (.inr (.inr (by simpa using a3)))).symm
    · simp only [decide_eq_false_iff_not,bne_eq_false_iff_eq] at a1 a2 a3
      refine (decide_eq_false ?_).symm
      rintro (h|h|h)
      · omega
      · exact h a2
      · exact h a3
    · have e:Yg d=(0,300):=by
        unfold Yg
        rw [if_pos hc,if_pos (of_decide_eq_true q.symm)]
      rw [e]
      exact ⟨rfl,rfl,trivial⟩
    · have e:Yg d=(0,0):=by
        unfold Yg
        rw [if_pos hc,if_neg (of_decide_eq_false q.symm)]
      rw [e]
      exact ⟨rfl,rfl,trivial⟩
  · have hc:d.code≠ []:=by simpa using h0
    subst hy
    have hn:(drF d.code d.env).2≠0:=by simpa using h1
    have e:Yg d=(0,(drF d.code d.env).2):=by
      unfold Yg
      rw [if_neg hc,if_pos hn]
    rw [e]
    exact ⟨rfl,rfl,trivial⟩
  · have hc:d.code≠ []:=by simpa using h0
    have hn:(drF d.code d.env).2=0:=by rw [<-hy];simpa using h1
    obtain ⟨n1,n2,n3⟩:=Z1i hn
    have e0:Yg d=(match Xb (drF d.code d.env).1.leaves d.leaves 0 with
        |some k=>((k:Int),300)
        |none=>if (drF d.code d.env).1.leaves.length<d.leaves.length then (((drF d.code d.env).1.leaves.length:Int),300)
          else if d.amount≠(drF d.code d.env).1.amount\/d.err≠(drF d.code d.env).1.err then (((drF d.code d.env).1.leaves.length:Int)-1,300)
          else (0,0)):=by
      unfold Yg
      rw [if_neg hc,if_neg (by simpa using hn)]
    rw [<-hy] at n1 n2 n3 e0
    rw [e0]
    clear e0 hy
    generalize y.1=r at n1 n2 n3⊢
    refine ⟨fun x=>x.k<=r.leaves.length/\Xb (r.leaves.drop x.k) (d.leaves.drop x.k) x.k=Xb r.leaves d.leaves 0/\x.r=r.leaves.length-x.k,⟨⟨0,r.leaves.length,[],0⟩,⟨Nat.zero_le _,rfl,rfl⟩,by simp⟩,?_⟩
    rintro x ⟨k1,k2,k3⟩
    refine ⟨fun hlt=> ?_,fun hge=> ?_⟩
    · have hlt:x.k<r.leaves.length:=by simpa using hlt
      refine ⟨by omega,by omega,fun x1 hx1=>⟨fun hg=> ?_,fun hg=>⟨by omega,?_,fun x2 hx2 b hb=>⟨fun q=> ?_,fun q=> ?_⟩⟩⟩⟩
      · have hx1:r.leaves[x.k]? =some x1:=hx1
        have hg:d.leaves.length<=x.k:=by simpa using hg
        rw [<-k2,Zqc hx1 hg]
        exact ⟨rfl,rfl,trivial⟩
      · have hg:x.k<d.leaves.length:=by simpa using hg
        omega
      · have hx1:r.leaves[x.k]? =some x1:=hx1
        have hx2:d.leaves[x.k]? =some x2:=hx2
        rw [Zuj] at hb
        rw [<-k2,Zjc hx1 hx2,if_neg]
        · exact ⟨rfl,rfl,trivial⟩
        · intro e
          rw [hb] at q
          simp [e] at q
      · have hx1:r.leaves[x.k]? =some x1:=hx1
        have hx2:d.leaves[x.k]? =some x2:=hx2
        rw [Zuj] at hb
        have e:n32 x2=n32 x1:=by
          rw [hb] at q
          simpa using q
        rw [Zjc hx1 hx2,if_pos e] at k2
        refine ⟨⟨x.k+1,r.leaves.length-(x.k+1),[],0⟩,⟨hlt,k2,rfl⟩,by show r.leaves.length-(x.k+1)+1<=x.r;omega,?_⟩
        simp
        exact (wr64 (by omega) (by omega)).trans (by omega)
    · have hge:r.leaves.length<=x.k:=by simpa using hge
      rw [<-k2,Zxs hge]
      refine ⟨fun a1=> ?_,fun a1=>⟨fun a2=> ?_,fun a2=>⟨fun a3=> ?_,fun a3=> ?_⟩⟩⟩
      · have a1:r.leaves.length<d.leaves.length:=by simpa using a1
        simp only [if_pos a1]
        exact ⟨trivial,trivial,trivial⟩
      · have a1:¬r.leaves.length<d.leaves.length:=by simpa using a1
        have a2:d.amount≠r.amount:=by simpa using a2
        simp only [if_neg a1,if_pos (Or.inl a2:d.amount≠r.amount\/d.err≠r.err)]
        exact ⟨wr64 (by omega) (by omega),trivial,trivial⟩
      · have a1:¬r.leaves.length<d.leaves.length:=by simpa using a1
        have a3:d.err≠r.err:=by simpa using a3
        simp only [if_neg a1,if_pos (Or.inr a3:d.amount≠r.amount\/d.err≠r.err)]
        exact ⟨wr64 (by omega) (by omega),trivial,trivial⟩
      · have a1:¬r.leaves.length<d.leaves.length:=by simpa using a1
        have a2:d.amount=r.amount:=by simpa using a2
        have a3:d.err=r.err:=by simpa using a3
        have hne:¬(d.amount≠r.amount\/d.err≠r.err):=by
          rintro (h|h)
          · exact h a2
          · exact h a3
        simp only [if_neg a1,if_neg hne]
        exact ⟨trivial,trivial,trivial⟩
end
section
open Go Go.RowKit
def Zlv:Sum thy:=X7 E2 gthV 10 (.cons dDrv .nil) (fun _=>True) (fun x=>Yg x.1) fun y=> .tup [.int false .i64 y.1,.int false .i64 y.2]
theorem Zfn:SumOk E2 10 Zlv:=Zw Zh (Zi rfl) fun x _=>Zl1 x.1
def Zt8:Sum thy:=X7 E2 gthV 10 (.cons dSt2 (.cons dSt2 .nil)) (fun x=>x.1.stack.length<=1000000) (fun x=>Ztj x.1 x.2.1) fun y=> .bool false y
theorem Zi9:SumOk E2 14 Zt8:=Zw Zh (Zi rfl) fun x h=>up2 (Zrg x.1 x.2.1 h)
--@cond changed | 23 | E2:F0 | 400 | (d : Drv) (i : Int) | [drvV d, .int false .i64 i] | (z : Drv) | drvV z
theorem Zja (d:Drv) (i:Int) (z:Drv):Zr E2 F0 (vc E2 F0 400) 23 [drvV d,.int false .i64 i] hp0 0 (fun r=>ret E2 (patch hp0 0 r) r.v (drvV z))=(
  (Drv.leaves d= []->(0:Int)<=i/\i+(1:Int)<=(↑(0:Nat):Int)/\True)/\(Drv.leaves d≠ []->((0:Nat)+(1:Nat)<=(0:Nat)+List.length (Drv.leaves d)/\((0:Nat)
  +List.length (Drv.leaves d))*(32:Nat)<=(140737488355328:Nat))/\((0:Int)<=i/\i+(1:Int)<=(↑((0:Nat)+List.length (Drv.leaves d)):Int))/\(0:Nat)+Int.toNat
  i+(1:Nat)<=List.length ([]++Drv.leaves d)/\∀(x:List Int),([]++Drv.leaves d)[(0:Nat)+Int.toNat i]? =some x->((0:Int)<=i/\i+(1:Int)<=(↑((0:Nat)+
  List.length (Drv.leaves d)):Int))/\(0:Nat)<=(0:Nat)+Int.toNat i/\(0:Nat)+Int.toNat i+(1:Nat)<=List.length ([]++Drv.leaves d)/\∀(x_1:List Int),([]++
  Drv.leaves d)[(0:Nat)+Int.toNat i]? =some x_1->(Drv.code d=Drv.code z/\(false=true->false=true))/\Env.has (Drv.env d)=Env.has (Drv.env z)/\Env.v0 (Drv.env d)=
  Env.v0 (Drv.env z)/\Env.v1 (Drv.env d)=Env.v1 (Drv.env z)/\Env.v2 (Drv.env d)=Env.v2 (Drv.env z)/\Env.v3 (Drv.env d)=Env.v3 (Drv.env z)/\Env.v4 (Drv.env d)=Env.v4
  (Drv.env z)/\Env.v5 (Drv.env d)=Env.v5 (Drv.env z)/\Env.v6 (Drv.env d)=Env.v6 (Drv.env z)/\Env.v7 (Drv.env d)=Env.v7 (Drv.env z)/\Env.v8 (Drv.env d)=Env.v8 (Drv.env z)
  /\Env.v9 (Drv.env d)=Env.v9 (Drv.env z)/\Env.v10 (Drv.env d)=Env.v10 (Drv.env z)/\Env.v11 (Drv.env d)=Env.v11 (Drv.env z)/\Env.v12 (Drv.env d)=Env.v12 (Drv.env z)/\
  Env.v13 (Drv.env d)=Env.v13 (Drv.env z)/\Env.v14 (Drv.env d)=Env.v14 (Drv.env z)/\Env.v15 (Drv.env d)=Env.v15 (Drv.env z)/\Drv.amount d=Drv.amount z/\Drv.err d=
  Drv.err z/\((0:Nat)+((0:Nat)+List.length (Drv.leaves d))<=List.length (List.set ([]++Drv.leaves d) ((0:Nat)+Int.toNat i) [Zo BinOp.xor IntKind.u8 (List.getD x
  (0:Nat) (0:Int)) (1:Int),List.getD x_1 (1:Nat) (0:Int),List.getD x_1 (2:Nat) (0:Int),List.getD x_1 (3:Nat) (0:Int),List.getD x_1 (4:Nat) (0:Int),
  List.getD x_1 (5:Nat) (0:Int),List.getD x_1 (6:Nat) (0:Int),List.getD x_1 (7:Nat) (0:Int),List.getD x_1 (8:Nat) (0:Int),List.getD x_1 (9:Nat) (0:Int),
  List.getD x_1 (10:Nat) (0:Int),List.getD x_1 (11:Nat) (0:Int),List.getD x_1 (12:Nat) (0:Int),List.getD x_1 (13:Nat) (0:Int),List.getD x_1 (14:Nat) (0:Int),
  List.getD x_1 (15:Nat) (0:Int),List.getD x_1 (16:Nat) (0:Int),List.getD x_1 (17:Nat) (0:Int),List.getD x_1 (18:Nat) (0:Int),List.getD x_1 (19:Nat) (0:Int),
  List.getD x_1 (20:Nat) (0:Int),List.getD x_1 (21:Nat) (0:Int),List.getD x_1 (22:Nat) (0:Int),List.getD x_1 (23:Nat) (0:Int),List.getD x_1 (24:Nat) (0:Int),
  List.getD x_1 (25:Nat) (0:Int),List.getD x_1 (26:Nat) (0:Int),List.getD x_1 (27:Nat) (0:Int),List.getD x_1 (28:Nat) (0:Int),List.getD x_1 (29:Nat) (0:Int),
  List.getD x_1 (30:Nat) (0:Int),List.getD x_1 (31:Nat) (0:Int)])/\List.take ((0:Nat)+List.length (Drv.leaves d)) (List.set ([]++Drv.leaves d) ((0:Nat)+Int.toNat
  i) [Zo BinOp.xor IntKind.u8 (List.getD x (0:Nat) (0:Int)) (1:Int),List.getD x_1 (1:Nat) (0:Int),List.getD x_1 (2:Nat) (0:Int),List.getD x_1 (3:Nat) (0:
  Int),List.getD x_1 (4:Nat) (0:Int),List.getD x_1 (5:Nat) (0:Int),List.getD x_1 (6:Nat) (0:Int),List.getD x_1 (7:Nat) (0:Int),List.getD x_1 (8:Nat) (0:Int),
  List.getD x_1 (9:Nat) (0:Int),List.getD x_1 (10:Nat) (0:Int),List.getD x_1 (11:Nat) (0:Int),List.getD x_1 (12:Nat) (0:Int),List.getD x_1 (13:Nat) (0:Int),
  List.getD x_1 (14:Nat) (0:Int),List.getD x_1 (15:Nat) (0:Int),List.getD x_1 (16:Nat) (0:Int),List.getD x_1 (17:Nat) (0:Int),List.getD x_1 (18:Nat) (0:Int),
  List.getD x_1 (19:Nat) (0:Int),List.getD x_1 (20:Nat) (0:Int),List.getD x_1 (21:Nat) (0:Int),List.getD x_1 (22:Nat) (0:Int),List.getD x_1 (23:Nat) (0:Int),
  List.getD x_1 (24:Nat) (0:Int),List.getD x_1 (25:Nat) (0:Int),List.getD x_1 (26:Nat) (0:Int),List.getD x_1 (27:Nat) (0:Int),List.getD x_1 (28:Nat) (0:Int),
  List.getD x_1 (29:Nat) (0:Int),List.getD x_1 (30:Nat) (0:Int),List.getD x_1 (31:Nat) (0:Int)])=Drv.leaves z)/\True)
  ):=by kernel_rfl
--@end
--@cond few30 | 9 | E2:F0 | 400 | (c : List Ins) | [.psl .ins c false] | (b : Bool) | .bool false b
theorem Zp8 (c:List Ins) (b:Bool):Zr E2 F0 (vc E2 F0 400) 9 [.psl .ins c false] hp0 0 (fun r=>ret E2 (patch hp0 0 r) r.v (.bool false b))=(
  (decide ((↑(List.length c):Int)<=(40:Int))=true->true=b)/\(decide ((↑(List.length c):Int)<=(40:Int))=false->false=b)
  ):=by kernel_rfl
--@end
def Zb1 (x:List Int):List Int:= [Zo BinOp.xor IntKind.u8 (List.getD x 0 0) 1,List.getD x 1 0,List.getD x 2 0,List.getD x 3 0,List.getD x 4 0,List.getD x 5 0,List.getD x 6 0,List.getD x 7 0,List.getD x 8 0,List.getD x 9 0,List.getD x 10 0,List.getD x 11 0,List.getD x 12 0,List.getD x 13 0,List.getD x 14 0,List.getD x 15 0,List.getD x 16 0,List.getD x 17 0,List.getD x 18 0,List.getD x 19 0,List.getD x 20 0,List.getD x 21 0,List.getD x 22 0,List.getD x 23 0,List.getD x 24 0,List.getD x 25 0,List.getD x 26 0,List.getD x 27 0,List.getD x 28 0,List.getD x 29 0,List.getD x 30 0,List.getD x 31 0]
/-- one leaf is another one -/
def Xa (d:Drv) (i:Int):Drv:={d with leaves:=d.leaves.set i.toNat (Zb1 (d.leaves.getD i.toNat []))}
theorem Zjb (d:Drv) (i:Int) (h0:0<=i) (h1:i<d.leaves.length) (h2:d.leaves.length<=5000):PureC E2 23 [drvV d,.int false .i64 i] (drvV (Xa d i)):=by
  refine Za Zh (Zg Zh X5 400) ?_
  rw [Zja d i (Xa d i)]
  refine ⟨fun e=> ?_,fun _=>⟨⟨by omega,by omega⟩,⟨h0,by omega⟩,by rw [List.nil_append];omega,fun x hx=>⟨⟨h0,by omega⟩,Nat.zero_le _,by rw [List.nil_append];omega,fun x1 hx1=> ?_⟩⟩⟩
  · rw [e] at h1
    exact absurd h1 (by simp;omega)
  · rw [hx] at hx1
    cases hx1
    have e:d.leaves.getD i.toNat []=x:=by
      rw [List.nil_append,Nat.zero_add] at hx
      rw [List.getD_eq_getElem?_getD,hx];rfl
    have ec:(Xa d i).leaves=d.leaves.set i.toNat (Zb1 x):=by rw [<-e];rfl
    rw [ec]
    simp only [Xa,List.nil_append,Nat.zero_add,List.length_set,Nat.le_refl,true_and]
    refine ⟨fun h=>h,?_⟩
    refine ⟨?_,trivial⟩
    have hl:(d.leaves.set i.toNat (Zb1 x)).length=d.leaves.length:=List.length_set
    exact (List.take_of_length_le (by rw [hl];exact Nat.le_refl _):List.take d.leaves.length (d.leaves.set i.toNat (Zb1 x))=_)
theorem Zt9 (c:List Ins):PureC E2 9 [.psl .ins c false] (.bool false (decide (c.length<=40))):=by
  refine Za Zh (Zg Zh X5 400) ?_
  rw [Zp8]
  refine ⟨fun h1=> ?_,fun h1=> ?_⟩
  · exact (decide_eq_true (by simp only [decide_eq_true_eq] at h1;omega)).symm
  · exact (decide_eq_false (by simp only [decide_eq_false_iff_not] at h1;omega)).symm
def Z1f:Sum thy:=X7 E2 gthV 10 (.cons dDrv (.cons dI2 .nil)) (fun x=>0<=x.2.1/\x.2.1<x.1.leaves.length/\x.1.leaves.length<=5000) (fun x=>Xa x.1 x.2.1) drvV
theorem Znq:SumOk E2 23 Z1f:=Zw Zh (Zi rfl) fun x h=>Zjb x.1 x.2.1 h.1 h.2.1 h.2.2
def Z3i:Sum thy:=X7 E2 gthV 10 (.cons (Ziq E2) .nil) (fun _=>True) (fun x=>decide (x.1.length<=40)) fun y=> .bool false y
theorem Zxl:SumOk E2 9 Z3i:=Zw Zh (Zi rfl) fun x _=>Zt9 x.1
def FS0:Fns thy:=addS (addS (addS (addS (addS F0 8 Zxr) 12 Zl0) 10 Zlv) 14 Zt8) 23 Z1f
theorem Z3j:FnsOk E2 FS0:=Zf (Zf (Zf (Zf (Zf X5 Zhi) Zfo) Zfn) Zi9) Znq
--@cond sane30 | 7 | E2:FS0 | 400 | (b : Bool) | [] | | .bool false b
theorem Zlw (b:Bool):Zr E2 FS0 (vc E2 FS0 400) 7 [] hp0 0 (fun r=>ret E2 (patch hp0 0 r) r.v (.bool false b))=(
  True/\∀(y:Drv×Int),y=drF [Ins.mk (2:Int) (6:Int) (0:Int),Ins.mk (1:Int) (7:Int) (0:Int),Ins.mk (5:Int) (0:Int) (0:Int),Ins.mk (15:Int) (0:Int) (0
  :Int)] (Env.mk (64:Int) (0:Int) (0:Int) (0:Int) (0:Int) (0:Int) (0:Int) (30:Int) (0:Int) (0:Int) (0:Int) (0:Int) (0:Int) (0:Int) (0:Int) (0:Int) (0
  :Int))->True/\∀(y_1:Drv×Int),y_1=drF [Ins.mk (2:Int) (6:Int) (0:Int),Ins.mk (1:Int) (7:Int) (0:Int),Ins.mk (5:Int) (0:Int) (0:Int),Ins.mk (15:Int)
  (0:Int) (0:Int)] (Env.mk (0:Int) (0:Int) (0:Int) (0:Int) (0:Int) (0:Int) (0:Int) (0:Int) (0:Int) (0:Int) (0:Int) (0:Int) (0:Int) (0:Int) (0:Int)
  (0:Int) (0:Int))->∃(Q:Bool->Prop),(((Prod.snd y !=(0:Int))=true->Q true)/\((Prod.snd y !=(0:Int))=false->(((↑(List.length (Drv.leaves (Prod.fst y))):Int)
  !=(5:Int))=true->Q true)/\(((↑(List.length (Drv.leaves (Prod.fst y))):Int) !=(5:Int))=false->((Drv.amount (Prod.fst y) !=(210:Int))=true->Q true)/\
  ((Drv.amount (Prod.fst y) !=(210:Int))=false->((Drv.err (Prod.fst y) !=(0:Int))=true->Q true)/\((Drv.err (Prod.fst y) !=(0:Int))=false->((Prod.snd y_1 !=(0:
  Int))=true->Q true)/\((Prod.snd y_1 !=(0:Int))=false->(((↑(List.length (Drv.leaves (Prod.fst y_1))):Int) !=(2:Int))=true->Q true)/\(((↑(List.length (Drv.leaves
  (Prod.fst y_1))):Int) !=(2:Int))=false->((Drv.amount (Prod.fst y_1) !=(0:Int))=true->Q true)/\((Drv.amount (Prod.fst y_1) !=(0:Int))=false->((Drv.err (Prod.fst
  y_1) !=(181:Int))=true->Q true)/\((Drv.err (Prod.fst y_1) !=(181:Int))=false->Q false)))))))))/\(Q true->false=b)/\(Q false->True/\∀(y_2:St×Int),y_2=
  X6 (Prod.fst y) (2:Int)->True/\∀(y_3:St×Int),y_3=X6 (Prod.fst y) (5:Int)->((0:Int)<=(3:Int)/\(3:Int)+(1:Int)<=(↑(List.length (Drv.leaves
  (Prod.fst y))):Int)/\List.length (Drv.leaves (Prod.fst y))<=(5000:Nat))/\∀(y_4:Drv),y_4=Xa (Prod.fst y) (3:Int)->True/\∀(y_5:Int×Int),y_5=Yg y_4
  ->True/\∀(y_6:Int×Int),y_6=Yg (Drv.mk (Drv.code (Prod.fst y)) (Drv.env (Prod.fst y)) (211:Int) (Drv.err (Prod.fst y)) (Drv.leaves (Prod.fst y)))->((0:Int)<=(4:
  Int)/\(4:Int)<=(↑(List.length (Drv.leaves (Prod.fst y))):Int))/\True/\∀(y_7:Int×Int),y_7=Yg (Drv.mk (Drv.code (Prod.fst y)) (Drv.env (Prod.fst y)) (210:Int)
  (0:Int) (List.take (Int.toNat (4:Int)) (Drv.leaves (Prod.fst y))))->((Prod.snd y_2==(0:Int))=true->List.length (St.stack (Prod.fst y_2))<=(1000000:Nat)/\∀(y:
  Bool),y=Ztj (Prod.fst y_2) (St.mk (2:Int) (3:Int) (0:Int) (0:Int) [(30:Int),(7:Int)])->(y=true->((Prod.snd y_3==(1:Int))=true->((Prod.fst y_5==(3:
  Int))=true->((Prod.snd y_5==(300:Int))=true->((Prod.fst y_6==(4:Int))=true->((Prod.snd y_6==(300:Int))=true->((Prod.fst y_7==(4:Int))=true->
  ((Prod.snd y_7==(300:Int))=true->true=b)/\((Prod.snd y_7==(300:Int))=false->false=b))/\((Prod.fst y_7==(4:Int))=false->false=b))/\((Prod.snd y_6==
  (300:Int))=false->false=b))/\((Prod.fst y_6==(4:Int))=false->false=b))/\((Prod.snd y_5==(300:Int))=false->false=b))/\((Prod.fst y_5==(3:Int))=
  false->false=b))/\((Prod.snd y_3==(1:Int))=false->false=b))/\(y=false->false=b))/\((Prod.snd y_2==(0:Int))=false->false=b))
  ):=by kernel_rfl
--@end
def Yt:List Ins:= [⟨2,6,0⟩,⟨1,7,0⟩,⟨5,0,0⟩,⟨15,0,0⟩]
def Xq:Env:=⟨64,0,0,0,0,0,0,30,0,0,0,0,0,0,0,0,0⟩
theorem x30a:(verF Yt).2=0:=by decide+kernel
theorem x30b:dM Yt Xq=4:=by decide+kernel
theorem x30c:dM Yt evZ=1:=by decide+kernel
theorem x30d:Zt (dsk Yt Xq 4)=(210,0,0):=by decide+kernel
theorem x30e:(Zt (dsk Yt evZ 1)).1=0/\(Zt (dsk Yt evZ 1)).2.2=181:=by decide+kernel
theorem x30f:Ztj (dsk Yt Xq 2) ⟨2,3,0,0,[30,7]⟩=true/\(dsk Yt Xq 2).stack.length<=1000000:=by decide+kernel
theorem Zy5:drF Yt Xq=(⟨Yt,Xq,210,0,lvL Yt Xq 5⟩,0):=by
  unfold drF
  rw [if_pos x30a,x30b,x30d]
theorem Z3k:(drF Yt evZ).2=0/\(drF Yt evZ).1.leaves.length=2/\(drF Yt evZ).1.amount=0/\(drF Yt evZ).1.err=181:=by
  unfold drF
  rw [if_pos x30a,x30c]
  exact ⟨rfl,Zbw _ _ _,x30e.1,x30e.2⟩
theorem Z1g (a:Int):Zo .xor .u8 a 1≠a:=by
  intro h
  have hx:∀x:BitVec 8,x^^^1#8≠x:=by decide
  have e:Zo .xor .u8 a 1=((BitVec.ofInt 8 a^^^1#8).toNat:Int):=by
    have hlt:=(BitVec.ofInt 8 a^^^1#8).isLt
    show IntKind.wrap .u8 ((BitVec.ofInt 8 a^^^1#8).toNat:Int)=_
    generalize (BitVec.ofInt 8 a^^^1#8).toNat=n at hlt⊢
    simp only [IntKind.wrap,IntKind.bits,IntKind.signed,Bool.false_and,Bool.false_eq_true,if_false]
    omega
  rw [e] at h
  refine hx (BitVec.ofInt 8 a) ?_
  have:BitVec.ofInt 8 a=BitVec.ofInt 8 ((BitVec.ofInt 8 a^^^1#8).toNat:Int):=congrArg (BitVec.ofInt 8) h.symm
  rw [BitVec.ofInt_natCast,BitVec.ofNat_toNat] at this
  simpa using this.symm
theorem Znr (x:List Int):n32 (Zb1 x)≠n32 x:=by
  intro h
  have h0:=congrArg (fun l=>List.getD l 0 0) h
  exact Z1g (List.getD x 0 0) (by simpa [n32x,Zb1] using h0)
def D30:Drv:=⟨Yt,Xq,210,0,lvL Yt Xq 5⟩
theorem Z4n:X6 D30 2=(dsk Yt Xq 2,0):=by
  unfold X6
  have e:(verF D30.code).2=0:=x30a
  have e2:dM D30.code D30.env=4:=x30b
  rw [if_pos e,e2]
  rfl
theorem Z4o:(X6 D30 5).2=1:=by
  unfold X6
  have e:(verF D30.code).2=0:=x30a
  have e2:dM D30.code D30.env=4:=x30b
  rw [if_pos e,e2]
  rfl
theorem lv30:∃a b c d e,lvL Yt Xq 5= [a,b,c,d,e]:=⟨_,_,_,_,_,rfl⟩
theorem Z1h {d:Drv} (hc:d.code=Yt) (hv:d.env=Xq) {z:Int×Int} (h:(match Xb (lvL Yt Xq 5) d.leaves 0 with
        |some k=>((k:Int),(300:Int))
        |none=>if (lvL Yt Xq 5).length<d.leaves.length then (((lvL Yt Xq 5).length:Int),300)
          else if d.amount≠210\/d.err≠0 then (((lvL Yt Xq 5).length:Int)-1,300)
          else (0,0))=z):Yg d=z:=by
  unfold Yg
  rw [hc,hv,Zy5,if_neg (by decide),if_neg (by simp)]
  exact h
theorem Z4p:Yg (Xa D30 3)=(3,300):=by
  refine Z1h rfl rfl ?_
  have e:(Xa D30 3).leaves=(lvL Yt Xq 5).set 3 (Zb1 ((lvL Yt Xq 5).getD 3 [])):=rfl
  rw [e]
  obtain ⟨a0,a1,a2,a3,a4,hl⟩:=lv30
  rw [hl]
  simp [Xb,Znr]
theorem Z4q:Yg ⟨Yt,Xq,211,0,lvL Yt Xq 5⟩=(4,300):=by
  refine Z1h rfl rfl ?_
  show (match Xb (lvL Yt Xq 5) (lvL Yt Xq 5) 0 with|some k=>_|none=>_)=_
  obtain ⟨a0,a1,a2,a3,a4,hl⟩:=lv30
  rw [hl]
  simp [Xb]
theorem Z4r:Yg ⟨Yt,Xq,210,0,(lvL Yt Xq 5).take 4⟩=(4,300):=by
  refine Z1h rfl rfl ?_
  show (match Xb (lvL Yt Xq 5) ((lvL Yt Xq 5).take 4) 0 with|some k=>_|none=>_)=_
  obtain ⟨a0,a1,a2,a3,a4,hl⟩:=lv30
  rw [hl]
  simp [Xb]
theorem Zp9:PureC E2 7 [] (.bool false true):=by
  refine Za Zh (Zg Zh Z3j 400) ?_
  rw [Zlw true]
  refine ⟨trivial,fun y hy=>⟨trivial,fun y1 hy1=> ?_⟩⟩
  obtain rfl:y=(D30,0):=hy.trans Zy5
  obtain rfl:y1=drF Yt evZ:=hy1
  obtain ⟨z1,z2,z3,z4⟩:=Z3k
  have hlen:D30.leaves.length=5:=Zbw _ _ _
  refine ⟨fun b=>b=false,⟨fun h=>by simp at h,fun _=>⟨fun h=>by simp [hlen] at h,fun _=>⟨fun h=>by simp [D30] at h,fun _=>⟨fun h=>by simp [D30] at h,fun _=>⟨fun h=>by simp [z1] at h,fun _=>⟨fun h=>by simp [z2] at h,fun _=>⟨fun h=>by simp [z3] at h,fun _=>⟨fun h=>by simp [z4] at h,fun _=>rfl⟩⟩⟩⟩⟩⟩⟩⟩,fun h=>(by cases h),fun _=>⟨trivial,fun y2 hy2=>⟨trivial,fun y3 hy3=>⟨⟨by decide,by rw [hlen];decide,by rw [hlen];decide⟩,fun y4 hy4=>⟨trivial,fun y5 hy5=>⟨trivial,fun y6 hy6=>⟨⟨by decide,by rw [hlen];decide⟩,trivial,fun y7 hy7=> ?_⟩⟩⟩⟩⟩⟩⟩
  have hy2:y2=(dsk Yt Xq 2,0):=hy2.trans Z4n
  have hy3:y3.2=1:=by rw [hy3];exact Z4o
  have hy5:y5=(3,300):=by rw [hy5,hy4];exact Z4p
  have hy6:y6=(4,300):=hy6.trans Z4q
  have hy7:y7=(4,300):=hy7.trans Z4r
  subst hy2 hy5 hy6 hy7
  refine ⟨fun _=>⟨x30f.2,fun b hb=> ?_⟩,fun h=>by simp at h⟩
  have hb:b=true:=hb.trans x30f.1
  subst hb
  simp [hy3]
end
section
open Go Go.RowKit
def Zyh:Sum thy:=X7 E2 gthV 10 .nil (fun _=>True) (fun _=>true) fun y=> .bool false y
theorem Zqu:SumOk E2 7 Zyh:=Zw Zh (Zi rfl) fun x _=>Zp9
def FL0:Fns thy:=addS (addS (addS (addS (addS (addS (addS (addS (addS F0 8 Zxr) 12 Zl0) 10 Zlv) 14 Zt8) 7 Zyh) 9 Z3i) 13 Zut) 15 Sdgs) 16 Z3b
theorem Z15:FnsOk E2 FL0:=Zf (Zf (Zf (Zf (Zf (Zf (Zf (Zf (Zf X5 Zhi) Zfo) Zfn) Zi9) Zqu) Zxl) Zjg) Ztx) (Zw Zh (Zi rfl) fun x h=>up2 (Zdf x.1 h))
def DRn (c:List Ins) (v:Env):Drv:=⟨c,v,(Zt (dsk c v (dM c v))).1,(Zt (dsk c v (dM c v))).2.2,lvL c v (dM c v+1)⟩
theorem Zze {c:List Ins} {v:Env} (h:(verF c).2=0):drF c v=(DRn c v,0):=if_pos h
theorem Z16 {c:List Ins} {v:Env} (h:((drF c v).2 !=0)=false):(verF c).2=0:=by
 by_cases hv:(verF c).2=0
 · exact hv
 · exfalso
   unfold drF at h
   rw [if_neg hv] at h
   exact hv (by simpa using h)
theorem Z17 (c:List Ins) (v:Env):(DRn c v).leaves.length=dM c v+1:=Zbw _ _ _
theorem Zc3 (d:List Int):n32 (n32 d)=n32 d:=Zy8 (by simp [n32])
end
section
open Go Go.RowKit
def len8L:List Nat:=
 toL (ByteArray.mk (List.toArray (List.append (List.append [(0:UInt8),(1:UInt8),(2:UInt8),(2:UInt8),(3:UInt8),(3:UInt8),(3:UInt8),(3:UInt8),(4:UInt8),(4:
 UInt8),(4:UInt8),(4:UInt8),(4:UInt8),(4:UInt8),(4:UInt8),(4:UInt8),(5:UInt8),(5:UInt8),(5:UInt8),(5:UInt8),(5:UInt8),(5:UInt8),(5:UInt8),(5
 :UInt8),(5:UInt8),(5:UInt8),(5:UInt8),(5:UInt8),(5:UInt8),(5:UInt8),(5:UInt8),(5:UInt8),(6:UInt8),(6:UInt8),(6:UInt8),(6:UInt8),(6:UInt8),
 (6:UInt8),(6:UInt8),(6:UInt8),(6:UInt8),(6:UInt8),(6:UInt8),(6:UInt8),(6:UInt8),(6:UInt8),(6:UInt8),(6:UInt8),(6:UInt8),(6:UInt8),(6:
 UInt8),(6:UInt8),(6:UInt8),(6:UInt8),(6:UInt8),(6:UInt8),(6:UInt8),(6:UInt8),(6:UInt8),(6:UInt8),(6:UInt8),(6:UInt8),(6:UInt8),(6:UInt8)] [(7
 :UInt8),(7:UInt8),(7:UInt8),(7:UInt8),(7:UInt8),(7:UInt8),(7:UInt8),(7:UInt8),(7:UInt8),(7:UInt8),(7:UInt8),(7:UInt8),(7:UInt8),(7:UInt8),
 (7:UInt8),(7:UInt8),(7:UInt8),(7:UInt8),(7:UInt8),(7:UInt8),(7:UInt8),(7:UInt8),(7:UInt8),(7:UInt8),(7:UInt8),(7:UInt8),(7:UInt8),(7:
 UInt8),(7:UInt8),(7:UInt8),(7:UInt8),(7:UInt8),(7:UInt8),(7:UInt8),(7:UInt8),(7:UInt8),(7:UInt8),(7:UInt8),(7:UInt8),(7:UInt8),(7:UInt8),(7
 :UInt8),(7:UInt8),(7:UInt8),(7:UInt8),(7:UInt8),(7:UInt8),(7:UInt8),(7:UInt8),(7:UInt8),(7:UInt8),(7:UInt8),(7:UInt8),(7:UInt8),(7:UInt8),
 (7:UInt8),(7:UInt8),(7:UInt8),(7:UInt8),(7:UInt8),(7:UInt8),(7:UInt8),(7:UInt8),(7:UInt8)]) (List.append [(8:UInt8),(8:UInt8),(8:UInt8),(8:
 UInt8),(8:UInt8),(8:UInt8),(8:UInt8),(8:UInt8),(8:UInt8),(8:UInt8),(8:UInt8),(8:UInt8),(8:UInt8),(8:UInt8),(8:UInt8),(8:UInt8),(8:UInt8),(8
 :UInt8),(8:UInt8),(8:UInt8),(8:UInt8),(8:UInt8),(8:UInt8),(8:UInt8),(8:UInt8),(8:UInt8),(8:UInt8),(8:UInt8),(8:UInt8),(8:UInt8),(8:UInt8),
 (8:UInt8),(8:UInt8),(8:UInt8),(8:UInt8),(8:UInt8),(8:UInt8),(8:UInt8),(8:UInt8),(8:UInt8),(8:UInt8),(8:UInt8),(8:UInt8),(8:UInt8),(8:
 UInt8),(8:UInt8),(8:UInt8),(8:UInt8),(8:UInt8),(8:UInt8),(8:UInt8),(8:UInt8),(8:UInt8),(8:UInt8),(8:UInt8),(8:UInt8),(8:UInt8),(8:UInt8),(8
 :UInt8),(8:UInt8),(8:UInt8),(8:UInt8),(8:UInt8),(8:UInt8)] [(8:UInt8),(8:UInt8),(8:UInt8),(8:UInt8),(8:UInt8),(8:UInt8),(8:UInt8),(8:UInt8),
 (8:UInt8),(8:UInt8),(8:UInt8),(8:UInt8),(8:UInt8),(8:UInt8),(8:UInt8),(8:UInt8),(8:UInt8),(8:UInt8),(8:UInt8),(8:UInt8),(8:UInt8),(8:
 UInt8),(8:UInt8),(8:UInt8),(8:UInt8),(8:UInt8),(8:UInt8),(8:UInt8),(8:UInt8),(8:UInt8),(8:UInt8),(8:UInt8),(8:UInt8),(8:UInt8),(8:UInt8),(8
 :UInt8),(8:UInt8),(8:UInt8),(8:UInt8),(8:UInt8),(8:UInt8),(8:UInt8),(8:UInt8),(8:UInt8),(8:UInt8),(8:UInt8),(8:UInt8),(8:UInt8),(8:UInt8),
 (8:UInt8),(8:UInt8),(8:UInt8),(8:UInt8),(8:UInt8),(8:UInt8),(8:UInt8),(8:UInt8),(8:UInt8),(8:UInt8),(8:UInt8),(8:UInt8),(8:UInt8),(8:
 UInt8),(8:UInt8)]))))
theorem Zv2 (x:Int) (q:Int):Zr E F0 (vc E F0 400) 78 [.int false .u64 x] hp0 0 (fun r=>ret E (patch hp0 0 r) r.v (.int false .i64 q))=(
 (decide (x>=(4294967296:Int))=true->(decide (Int.fdiv x ((2:Int)^min (Int.toNat (32:Int)) (IntKind.bits IntKind.u64))>=(65536:Int))=true->(decide (Int.fdiv
 (Int.fdiv x ((2:Int)^min (Int.toNat (32:Int)) (IntKind.bits IntKind.u64))) ((2:Int)^min (Int.toNat (16:Int)) (IntKind.bits IntKind.u64))>=(256:Int))=true->(0:
 Int)<=wr IntKind.u8 (Int.fdiv (Int.fdiv (Int.fdiv x ((2:Int)^min (Int.toNat (32:Int)) (IntKind.bits IntKind.u64))) ((2:Int)^min (Int.toNat (16:Int)) (IntKind.bits
 IntKind.u64))) ((2:Int)^min (Int.toNat (8:Int)) (IntKind.bits IntKind.u64)))/\wr IntKind.u8 (Int.fdiv (Int.fdiv (Int.fdiv x ((2:Int)^min (Int.toNat (32:Int))
 (IntKind.bits IntKind.u64))) ((2:Int)^min (Int.toNat (16:Int)) (IntKind.bits IntKind.u64))) ((2:Int)^min (Int.toNat (8:Int)) (IntKind.bits IntKind.u64)))+(1:Int)<=
 (↑(List.length len8L):Int)/\∀(x_1:Nat),len8L[Int.toNat (wr IntKind.u8 (Int.fdiv (Int.fdiv (Int.fdiv x ((2:Int)^min (Int.toNat (32:Int)) (IntKind.bits IntKind.u64)))
 ((2:Int)^min (Int.toNat (16:Int)) (IntKind.bits IntKind.u64))) ((2:Int)^min (Int.toNat (8:Int)) (IntKind.bits IntKind.u64))))]? =some x_1->wr IntKind.i64 ((56:Int)
 +wr IntKind.i64 (↑x_1:Int))=q)/\(decide (Int.fdiv (Int.fdiv x ((2:Int)^min (Int.toNat (32:Int)) (IntKind.bits IntKind.u64))) ((2:Int)^min (Int.toNat (16:Int))
 (IntKind.bits IntKind.u64))>=(256:Int))=false->(0:Int)<=wr IntKind.u8 (Int.fdiv (Int.fdiv x ((2:Int)^min (Int.toNat (32:Int)) (IntKind.bits IntKind.u64))) ((2:Int)
 ^min (Int.toNat (16:Int)) (IntKind.bits IntKind.u64)))/\wr IntKind.u8 (Int.fdiv (Int.fdiv x ((2:Int)^min (Int.toNat (32:Int)) (IntKind.bits IntKind.u64))) ((2:Int)^
 min (Int.toNat (16:Int)) (IntKind.bits IntKind.u64)))+(1:Int)<=(↑(List.length len8L):Int)/\∀(x_1:Nat),len8L[Int.toNat (wr IntKind.u8 (Int.fdiv (Int.fdiv x ((2:Int)
 ^min (Int.toNat (32:Int)) (IntKind.bits IntKind.u64))) ((2:Int)^min (Int.toNat (16:Int)) (IntKind.bits IntKind.u64))))]? =some x_1->wr IntKind.i64 ((48:Int)+wr
 IntKind.i64 (↑x_1:Int))=q))/\(decide (Int.fdiv x ((2:Int)^min (Int.toNat (32:Int)) (IntKind.bits IntKind.u64))>=(65536:Int))=false->(decide (Int.fdiv x ((2:Int)
 ^min (Int.toNat (32:Int)) (IntKind.bits IntKind.u64))>=(256:Int))=true->(0:Int)<=wr IntKind.u8 (Int.fdiv (Int.fdiv x ((2:Int)^min (Int.toNat (32:Int))
 (IntKind.bits IntKind.u64))) ((2:Int)^min (Int.toNat (8:Int)) (IntKind.bits IntKind.u64)))/\wr IntKind.u8 (Int.fdiv (Int.fdiv x ((2:Int)^min (Int.toNat (32:Int))
 (IntKind.bits IntKind.u64))) ((2:Int)^min (Int.toNat (8:Int)) (IntKind.bits IntKind.u64)))+(1:Int)<=(↑(List.length len8L):Int)/\∀(x_1:Nat),len8L[Int.toNat (wr
 IntKind.u8 (Int.fdiv (Int.fdiv x ((2:Int)^min (Int.toNat (32:Int)) (IntKind.bits IntKind.u64))) ((2:Int)^min (Int.toNat (8:Int)) (IntKind.bits IntKind.u64))))]? =some
 x_1->wr IntKind.i64 ((40:Int)+wr IntKind.i64 (↑x_1:Int))=q)/\(decide (Int.fdiv x ((2:Int)^min (Int.toNat (32:Int)) (IntKind.bits IntKind.u64))>=(256:Int))=
 false->(0:Int)<=wr IntKind.u8 (Int.fdiv x ((2:Int)^min (Int.toNat (32:Int)) (IntKind.bits IntKind.u64)))/\wr IntKind.u8 (Int.fdiv x ((2:Int)^min (Int.toNat (32:
 Int)) (IntKind.bits IntKind.u64)))+(1:Int)<=(↑(List.length len8L):Int)/\∀(x_1:Nat),len8L[Int.toNat (wr IntKind.u8 (Int.fdiv x ((2:Int)^min (Int.toNat (32:Int))
 (IntKind.bits IntKind.u64))))]? =some x_1->wr IntKind.i64 ((32:Int)+wr IntKind.i64 (↑x_1:Int))=q)))/\(decide (x>=(4294967296:Int))=false->(decide (x>=(65536:
 Int))=true->(decide (Int.fdiv x ((2:Int)^min (Int.toNat (16:Int)) (IntKind.bits IntKind.u64))>=(256:Int))=true->(0:Int)<=wr IntKind.u8 (Int.fdiv (Int.fdiv x ((2:
 Int)^min (Int.toNat (16:Int)) (IntKind.bits IntKind.u64))) ((2:Int)^min (Int.toNat (8:Int)) (IntKind.bits IntKind.u64)))/\wr IntKind.u8 (Int.fdiv (Int.fdiv x ((2:Int)
 ^min (Int.toNat (16:Int)) (IntKind.bits IntKind.u64))) ((2:Int)^min (Int.toNat (8:Int)) (IntKind.bits IntKind.u64)))+(1:Int)<=(↑(List.length len8L):Int)/\∀(x_1:
 Nat),len8L[Int.toNat (wr IntKind.u8 (Int.fdiv (Int.fdiv x ((2:Int)^min (Int.toNat (16:Int)) (IntKind.bits IntKind.u64))) ((2:Int)^min (Int.toNat (8:Int)) (IntKind.bits
 IntKind.u64))))]? =some x_1->wr IntKind.i64 ((24:Int)+wr IntKind.i64 (↑x_1:Int))=q)/\(decide (Int.fdiv x ((2:Int)^min (Int.toNat (16:Int)) (IntKind.bits
 IntKind.u64))>=(256:Int))=false->(0:Int)<=wr IntKind.u8 (Int.fdiv x ((2:Int)^min (Int.toNat (16:Int)) (IntKind.bits IntKind.u64)))/\wr IntKind.u8 (Int.fdiv x ((2:
 Int)^min (Int.toNat (16:Int)) (IntKind.bits IntKind.u64)))+(1:Int)<=(↑(List.length len8L):Int)/\∀(x_1:Nat),len8L[Int.toNat (wr IntKind.u8 (Int.fdiv x ((2:Int)^
 min (Int.toNat (16:Int)) (IntKind.bits IntKind.u64))))]? =some x_1->wr IntKind.i64 ((16:Int)+wr IntKind.i64 (↑x_1:Int))=q))/\(decide (x>=(65536:Int))=false->
 (decide (x>=(256:Int))=true->(0:Int)<=wr IntKind.u8 (Int.fdiv x ((2:Int)^min (Int.toNat (8:Int)) (IntKind.bits IntKind.u64)))/\wr IntKind.u8 (Int.fdiv x ((2:Int)
 ^min (Int.toNat (8:Int)) (IntKind.bits IntKind.u64)))+(1:Int)<=(↑(List.length len8L):Int)/\∀(x_1:Nat),len8L[Int.toNat (wr IntKind.u8 (Int.fdiv x ((2:Int)^min
 (Int.toNat (8:Int)) (IntKind.bits IntKind.u64))))]? =some x_1->wr IntKind.i64 ((8:Int)+wr IntKind.i64 (↑x_1:Int))=q)/\(decide (x>=(256:Int))=false->(0:Int)<=
 wr IntKind.u8 x/\wr IntKind.u8 x+(1:Int)<=(↑(List.length len8L):Int)/\∀(x_1:Nat),len8L[Int.toNat (wr IntKind.u8 x)]? =some x_1->wr IntKind.i64 ((0:Int)+wr
 IntKind.i64 (↑x_1:Int))=q)))
 ):=by kernel_rfl
theorem Z2k (x:Int):Int.fdiv x ((2:Int)^min (Int.toNat (32:Int)) (IntKind.bits IntKind.u64))=x/4294967296:=Int.fdiv_eq_ediv_of_nonneg _ (by decide)
theorem Z2l (x:Int):Int.fdiv x ((2:Int)^min (Int.toNat (16:Int)) (IntKind.bits IntKind.u64))=x/65536:=Int.fdiv_eq_ediv_of_nonneg _ (by decide)
theorem Z34 (x:Int):Int.fdiv x ((2:Int)^min (Int.toNat (8:Int)) (IntKind.bits IntKind.u64))=x/256:=Int.fdiv_eq_ediv_of_nonneg _ (by decide)
theorem wu8q (n:Int) (h:0<=n) (h2:n<256):wr .u8 n=n:=by
 show IntKind.wrap .u8 n=n
 simp [IntKind.wrap,IntKind.bits,IntKind.signed];omega
def blen (n:Nat):Nat:=if n=0 then 0 else n.log2+1
set_option maxRecDepth 100000 in
theorem Zv3:∀k,k<256->len8L[k]? =some (blen k):=by decide+kernel
theorem Zrh:len8L.length=256:=by decide+kernel
theorem Zos {n k:Nat} (c:Nat) (h:n/2^c=k) (hk:k≠0):blen n=c+blen k:=by
 have hp:0<2^c:=Nat.two_pow_pos c
 have hn:n≠0:=by rintro rfl;simp at h;exact hk h.symm
 unfold blen
 rw [if_neg hn,if_neg hk]
 have:n.log2=k.log2+c:=by
  rw [Nat.log2_eq_iff hn]
  have h1:=Nat.log2_self_le hk
  have h2:k<2^(k.log2+1):=(Nat.log2_lt hk).1 (Nat.lt_succ_self _)
  refine ⟨?_,?_⟩
  · rw [Nat.pow_add]
    rw [<-h] at h1⊢
    exact (Nat.le_div_iff_mul_le hp).1 h1
  · rw [show k.log2+c+1=k.log2+1+c by omega,Nat.pow_add]
    rw [<-h] at h2⊢
    exact (Nat.div_lt_iff_lt_mul hp).1 h2
 omega
theorem Zri {n b:Nat} (h:n<2^b):blen n<=b:=by
 unfold blen
 split
 · omega
 · rename_i hn
   have:=(Nat.log2_lt hn).2 h
   omega
theorem Zv4 {k y:Nat} (hk:k<256) (h:len8L[k]? =some y):y=blen k:=by
 rw [Zv3 k hk] at h;exact (Option.some.inj h).symm
theorem Zv5 {n k y c:Nat} (hc:n/2^c=k) (hk:k<256) (hk0:k≠0\/c=0) (hy:len8L[k]? =some y) (hcb:c<=56):wr .i64 ((c:Int)+wr .i64 (y:Int))=blen n:=by
 have hy:=Zv4 hk hy
 subst hy
 have hb:blen k<=8:=Zri hk
 rw [wr64 (n:=(blen k:Int)) (by omega) (by omega),wr64 (by omega) (by omega)]
 rcases hk0 with h|rfl
 · rw [Zos c hc h];simp
 · rw [Nat.pow_zero,Nat.div_one] at hc;rw [hc];simp
theorem Zv6 (n:Nat) (h:n<18446744073709551616):PureC E 78 [.int false .u64 (n:Int)] (.int false .i64 (blen n)):=by
 refine Za E_ok (Zg E_ok F0_ok 400) ?_
 rw [Zv2]
 simp only [Z2k,Z2l,Z34,Zrh,decide_eq_true_eq,decide_eq_false_iff_not]
 have leaf:∀(c k:Nat) (K:Int),K=(k:Int)->n/2^c=k->k<256->(k≠0\/c=0)->c<=56->∀C:Int,C=(c:Int)->(0:Int)<=wr .u8 K/\wr .u8 K+1<=((256:Nat):Int)/\∀y:Nat,len8L[Int.toNat (wr .u8 K)]? =some y->wr .i64 (C+wr .i64 (y:Int))=(blen n:Int):=by
  intro c k K hK hc hk hk0 hcb C hC
  subst hK hC
  rw [wu8q _ (by omega) (by omega)]
  exact ⟨by omega,by omega,fun y hy=>Zv5 hc hk hk0 hy hcb⟩
 refine ⟨fun h1=>⟨fun h2=>⟨fun h3=> ?_,fun h3=> ?_⟩,fun h2=>⟨fun h3=> ?_,fun h3=> ?_⟩⟩,fun h1=>⟨fun h2=>⟨fun h3=> ?_,fun h3=> ?_⟩,fun h2=>⟨fun h3=> ?_,fun h3=> ?_⟩⟩⟩
 · exact leaf 56 (n/2^56) _ (by omega) rfl (by omega) (.inl (by omega)) (by omega) _ rfl
 · exact leaf 48 (n/2^48) _ (by omega) rfl (by omega) (.inl (by omega)) (by omega) _ rfl
 · exact leaf 40 (n/2^40) _ (by omega) rfl (by omega) (.inl (by omega)) (by omega) _ rfl
 · exact leaf 32 (n/2^32) _ (by omega) rfl (by omega) (.inl (by omega)) (by omega) _ rfl
 · exact leaf 24 (n/2^24) _ (by omega) rfl (by omega) (.inl (by omega)) (by omega) _ rfl
 · exact leaf 16 (n/2^16) _ (by omega) rfl (by omega) (.inl (by omega)) (by omega) _ rfl
 · exact leaf 8 (n/2^8) _ (by omega) rfl (by omega) (.inl (by omega)) (by omega) _ rfl
 · exact leaf 0 n _ (by omega) (by simp) (by omega) (.inr rfl) (by omega) _ rfl
end
section
open Go Go.RowKit
def Z3l:Sum thy:=Zjf (.cons (dInt (E:=E2) .u64) .nil) (fun x=>0<=x.1/\x.1<18446744073709551616) (fun x=>blen x.1.toNat) fun (y:Nat)=> .int false .i64 (y:Int)
theorem Zxo:SumOk E2 78 Z3l:=Us Zh (Zi rfl) fun x h=>by
 obtain ⟨a,_⟩:=x
 obtain ⟨h1,h2⟩:=h
 dsimp only at h1 h2
 obtain ⟨n,rfl⟩:=Int.eq_ofNat_of_zero_le h1
 exact up2 (Zv6 n (by omega))
def Z3m:Sum thy:=X7 E2 gthV 4 (.cons (Z2x E2) .nil) (fun x=>PartsOk x.1) (fun x=>shaF x.1.flatten) Zx
theorem Zxp:SumOk E2 79 Z3m:=Zw Zh (Zi (f:=79) rfl) fun x h=>by
 obtain ⟨⟨p,r,h1,h2⟩,h3,h4⟩:=h
 exact Znk x.1 p r h1 h2 h3 h4
def FQ0:Fns thy:=addS (addS F0 78 Z3l) 79 Z3m
theorem Zub:FnsOk E2 FQ0:=Zf (Zf X5 Zxo) Zxp
theorem Zly (n:Int) (v:Int):Zr E2 FQ0 (vc E2 FQ0 400) 38 [.int false .i64 n] hp0 0 (fun r=>ret E2 (patch hp0 0 r) r.v (.int false .i64 v))=(
∃(Q:Bool->Prop),((decide (n<(0:Int))=true->Q true)/\(decide (n<(0:Int))=false->(decide (n>(65536:Int))=true->Q true)/\(decide (n>(65536:Int))=false->Q false)))/\(Q true->(-1:Int)=v)/\(Q false->((0:Int)<=wr IntKind.u64 (wr IntKind.i64 (mm2 true n (1:Int)-(1:Int)))/\wr IntKind.u64 (wr IntKind.i64 (mm2 true n (1:Int)-(1:Int)))+(1:Int)<=(18446744073709551616:Int))/\∀(y:Nat),y=blen (Int.toNat (wr IntKind.u64 (wr IntKind.i64 (mm2 true n (1:Int)-(1:Int)))))->(↑y:Int)=v)):=by kernel_rfl
abbrev qDI1:=(0:Int)
theorem Zuc (d:List Int):Zr E2 FQ0 (vc E2 FQ0 400) 43 [] hp0 0 (fun r=>ret E2 (patch hp0 0 r) r.v (Zx d))=(
 PartsOk [[(3:Int)],[(↑(112:Nat):Int),(↑(97:Nat):Int),(↑(100:Nat):Int)],[]]/\∀(y:List Int),y=shaF (List.flatten [[(3:Int)],[(↑(112:Nat):Int),(↑(97:Nat):Int),(↑(100:Nat):Int)],[]])->List.getD y (0:Nat) qDI1=List.getD d (0:Nat) qDI1/\List.getD y (1:Nat) qDI1=List.getD d (1:Nat) qDI1/\List.getD y (2:Nat) qDI1=List.getD d (2:Nat) qDI1/\List.getD y (3:Nat) qDI1=List.getD d (3:Nat) qDI1/\List.getD y (4:Nat) qDI1=List.getD d (4:Nat) qDI1/\List.getD y (5:Nat) qDI1=List.getD d (5:Nat) qDI1/\List.getD y (6:Nat) qDI1=List.getD d (6:Nat) qDI1/\List.getD y (7:Nat) qDI1=List.getD d (7:Nat) qDI1/\List.getD y (8:Nat) qDI1=List.getD d (8:Nat) qDI1/\List.getD y (9:Nat) qDI1=List.getD d (9:Nat) qDI1/\List.getD y (10:Nat) qDI1=List.getD d (10:Nat) qDI1/\List.getD y (11:Nat) qDI1=List.getD d (11:Nat) qDI1/\List.getD y (12:Nat) qDI1=List.getD d (12:Nat) qDI1/\List.getD y (13:Nat) qDI1=List.getD d (13:Nat) qDI1/\List.getD y (14:Nat) qDI1=List.getD d (14:Nat) qDI1/\List.getD y (15:Nat) qDI1=List.getD d (15:Nat) qDI1/\List.getD y (16:Nat) qDI1=List.getD d (16:Nat) qDI1/\List.getD y (17:Nat) qDI1=List.getD d (17:Nat) qDI1/\List.getD y (18:Nat) qDI1=List.getD d (18:Nat) qDI1/\List.getD y (19:Nat) qDI1=List.getD d (19:Nat) qDI1/\List.getD y (20:Nat) qDI1=List.getD d (20:Nat) qDI1/\List.getD y (21:Nat) qDI1=List.getD d (21:Nat) qDI1/\List.getD y (22:Nat) qDI1=List.getD d (22:Nat) qDI1/\List.getD y (23:Nat) qDI1=List.getD d (23:Nat) qDI1/\List.getD y (24:Nat) qDI1=List.getD d (24:Nat) qDI1/\List.getD y (25:Nat) qDI1=List.getD d (25:Nat) qDI1/\List.getD y (26:Nat) qDI1=List.getD d (26:Nat) qDI1/\List.getD y (27:Nat) qDI1=List.getD d (27:Nat) qDI1/\List.getD y (28:Nat) qDI1=List.getD d (28:Nat) qDI1/\List.getD y (29:Nat) qDI1=List.getD d (29:Nat) qDI1/\List.getD y (30:Nat) qDI1=List.getD d (30:Nat) qDI1/\List.getD y (31:Nat) qDI1=List.getD d (31:Nat) qDI1/\True):=by kernel_rfl
abbrev qDI4:=(0:Int)
abbrev qDI5:=(0:Nat)
abbrev qDI3 (a0:List Int):=(List.take qDI5 []++ [List.getD a0 qDI5 qDI4,List.getD a0 (1:Nat) qDI4,List.getD a0 (2:Nat) qDI4,List.getD a0 (3:Nat) qDI4,List.getD a0 (4:Nat) qDI4,List.getD a0 (5:Nat) qDI4,List.getD a0 (6:Nat) qDI4,List.getD a0 (7:Nat) qDI4,List.getD a0 (8:Nat) qDI4,List.getD a0 (9:Nat) qDI4,List.getD a0 (10:Nat) qDI4,List.getD a0 (11:Nat) qDI4,List.getD a0 (12:Nat) qDI4,List.getD a0 (13:Nat) qDI4,List.getD a0 (14:Nat) qDI4,List.getD a0 (15:Nat) qDI4,List.getD a0 (16:Nat) qDI4,List.getD a0 (17:Nat) qDI4,List.getD a0 (18:Nat) qDI4,List.getD a0 (19:Nat) qDI4,List.getD a0 (20:Nat) qDI4,List.getD a0 (21:Nat) qDI4,List.getD a0 (22:Nat) qDI4,List.getD a0 (23:Nat) qDI4,List.getD a0 (24:Nat) qDI4,List.getD a0 (25:Nat) qDI4,List.getD a0 (26:Nat) qDI4,List.getD a0 (27:Nat) qDI4,List.getD a0 (28:Nat) qDI4,List.getD a0 (29:Nat) qDI4,List.getD a0 (30:Nat) qDI4,List.getD a0 (31:Nat) qDI4])
abbrev qDI2 (a0:List Int) (b0:List Int):=(List.take (qDI5+(32:Nat)) (qDI3 a0)++ [List.getD b0 qDI5 qDI4,List.getD b0 (1:Nat) qDI4,List.getD b0 (2:Nat) qDI4,List.getD b0 (3:Nat) qDI4,List.getD b0 (4:Nat) qDI4,List.getD b0 (5:Nat) qDI4,List.getD b0 (6:Nat) qDI4,List.getD b0 (7:Nat) qDI4,List.getD b0 (8:Nat) qDI4,List.getD b0 (9:Nat) qDI4,List.getD b0 (10:Nat) qDI4,List.getD b0 (11:Nat) qDI4,List.getD b0 (12:Nat) qDI4,List.getD b0 (13:Nat) qDI4,List.getD b0 (14:Nat) qDI4,List.getD b0 (15:Nat) qDI4,List.getD b0 (16:Nat) qDI4,List.getD b0 (17:Nat) qDI4,List.getD b0 (18:Nat) qDI4,List.getD b0 (19:Nat) qDI4,List.getD b0 (20:Nat) qDI4,List.getD b0 (21:Nat) qDI4,List.getD b0 (22:Nat) qDI4,List.getD b0 (23:Nat) qDI4,List.getD b0 (24:Nat) qDI4,List.getD b0 (25:Nat) qDI4,List.getD b0 (26:Nat) qDI4,List.getD b0 (27:Nat) qDI4,List.getD b0 (28:Nat) qDI4,List.getD b0 (29:Nat) qDI4,List.getD b0 (30:Nat) qDI4,List.getD b0 (31:Nat) qDI4])
abbrev qDI6:=(qDI5+(32:Nat)+(32:Nat))
theorem Zud (a b:List Int) (d:List Int):Zr E2 FQ0 (vc E2 FQ0 400) 42 [Zx a,Zx b] hp0 0 (fun r=>ret E2 (patch hp0 0 r) r.v (Zx d))=(
 (qDI4<=(64:Int)/\(↑(1:Nat):Int)*(64:Int)<=(281474976710656:Int))/\(qDI5<=qDI5/\qDI5<=qDI5/\(qDI5+(32:Nat))*(1:Nat)<=(140737488355328:Nat))/\(qDI5+(32:Nat)<=List.length (qDI3 a)/\qDI5<=qDI5+(32:Nat)/\qDI6*(1:Nat)<=(140737488355328:Nat))/\qDI5+qDI6<=List.length (qDI2 a b)/\PartsOk [[(4:Int)],[(↑(110:Nat):Int),(↑(111:Nat):Int),(↑(100:Nat):Int),(↑(101:Nat):Int)],List.take qDI6 (List.drop qDI5 (qDI2 a b))]/\∀(y:List Int),y=shaF (List.flatten [[(4:Int)],[(↑(110:Nat):Int),(↑(111:Nat):Int),(↑(100:Nat):Int),(↑(101:Nat):Int)],List.take qDI6 (List.drop qDI5 (qDI2 a b))])->List.getD y qDI5 qDI4=List.getD d qDI5 qDI4/\List.getD y (1:Nat) qDI4=List.getD d (1:Nat) qDI4/\List.getD y (2:Nat) qDI4=List.getD d (2:Nat) qDI4/\List.getD y (3:Nat) qDI4=List.getD d (3:Nat) qDI4/\List.getD y (4:Nat) qDI4=List.getD d (4:Nat) qDI4/\List.getD y (5:Nat) qDI4=List.getD d (5:Nat) qDI4/\List.getD y (6:Nat) qDI4=List.getD d (6:Nat) qDI4/\List.getD y (7:Nat) qDI4=List.getD d (7:Nat) qDI4/\List.getD y (8:Nat) qDI4=List.getD d (8:Nat) qDI4/\List.getD y (9:Nat) qDI4=List.getD d (9:Nat) qDI4/\List.getD y (10:Nat) qDI4=List.getD d (10:Nat) qDI4/\List.getD y (11:Nat) qDI4=List.getD d (11:Nat) qDI4/\List.getD y (12:Nat) qDI4=List.getD d (12:Nat) qDI4/\List.getD y (13:Nat) qDI4=List.getD d (13:Nat) qDI4/\List.getD y (14:Nat) qDI4=List.getD d (14:Nat) qDI4/\List.getD y (15:Nat) qDI4=List.getD d (15:Nat) qDI4/\List.getD y (16:Nat) qDI4=List.getD d (16:Nat) qDI4/\List.getD y (17:Nat) qDI4=List.getD d (17:Nat) qDI4/\List.getD y (18:Nat) qDI4=List.getD d (18:Nat) qDI4/\List.getD y (19:Nat) qDI4=List.getD d (19:Nat) qDI4/\List.getD y (20:Nat) qDI4=List.getD d (20:Nat) qDI4/\List.getD y (21:Nat) qDI4=List.getD d (21:Nat) qDI4/\List.getD y (22:Nat) qDI4=List.getD d (22:Nat) qDI4/\List.getD y (23:Nat) qDI4=List.getD d (23:Nat) qDI4/\List.getD y (24:Nat) qDI4=List.getD d (24:Nat) qDI4/\List.getD y (25:Nat) qDI4=List.getD d (25:Nat) qDI4/\List.getD y (26:Nat) qDI4=List.getD d (26:Nat) qDI4/\List.getD y (27:Nat) qDI4=List.getD d (27:Nat) qDI4/\List.getD y (28:Nat) qDI4=List.getD d (28:Nat) qDI4/\List.getD y (29:Nat) qDI4=List.getD d (29:Nat) qDI4/\List.getD y (30:Nat) qDI4=List.getD d (30:Nat) qDI4/\List.getD y (31:Nat) qDI4=List.getD d (31:Nat) qDI4/\True):=by kernel_rfl
theorem Zue (d:List Int):(n32 d).length=32:=by simp [n32]
def mPad:List Int:=n32 (shaF (List.flatten [[(3:Int)],[((112:Nat):Int),((97:Nat):Int),((100:Nat):Int)],[]]))
def mP (a b:List Int):List Int:=n32 (shaF (List.flatten [[(4:Int)],[((110:Nat):Int),((111:Nat):Int),((100:Nat):Int),((101:Nat):Int)],n32 a++n32 b]))
def depM (n:Nat):Nat:=blen (max n 1-1)
theorem Zuf:PureC E2 43 [] (Zx mPad):=by
 refine Za Zh (Zg Zh Zub 400) ?_
 rw [Zuc];delta qDI1
 refine ⟨⟨⟨_,_,rfl,by simp⟩,by decide,by decide⟩,fun y hy=> ?_⟩
 rw [hy]
 unfold mPad
 generalize shaF _=z
 repeat' (first|exact rfl|exact trivial|apply And.intro)
theorem Zug (a b:List Int):PureC E2 42 [Zx a,Zx b] (Zx (mP a b)):=by
 refine Za Zh (Zg Zh Zub 400) ?_
 rw [Zud];delta qDI4 qDI5 qDI3 qDI2 qDI6
 rw [<-n32x a,<-n32x b]
 have la:=Zue a
 have lb:=Zue b
 unfold mP
 generalize n32 a=A at*
 generalize n32 b=B at*
 have e1:List.take 0 ([]:List Int)++A=A:=rfl
 have e2:List.take (0+32) A=A:=List.take_of_length_le (by omega)
 have e3:List.take (0+32+32) (List.drop 0 (A++B))=A++B:=by
  rw [List.drop_zero]
  exact List.take_of_length_le (by rw [List.length_append];omega)
 rw [e1,e2,e3,List.length_append,la,lb]
 refine ⟨⟨by omega,by decide⟩,⟨by omega,by omega,by omega⟩,⟨by omega,by omega,by omega⟩,by omega,⟨⟨_,_,rfl,by simp⟩,?_,by simp⟩,fun y hy=> ?_⟩
 · simp [la,lb]
 rw [hy]
 generalize shaF _=z
 repeat' (first|exact rfl|exact trivial|apply And.intro)
theorem Zlz (n:Nat) (h:n<=65536):PureC E2 38 [.int false .i64 (n:Int)] (.int false .i64 (depM n:Int)):=by
 refine Za Zh (Zg Zh Zub 400) ?_
 rw [Zly]
 have e:wr .u64 (wr .i64 (mm2 true (n:Int) 1-1))=((max n 1-1:Nat):Int):=by
  rw [Z4,wr64 (by omega) (by omega)]
  show IntKind.wrap .u64 _=_
  rw [IntKind.wrap_u64]
  omega
 rw [e]
 refine ⟨fun b=>b=false,⟨fun k=>absurd (of_decide_eq_true k) (by omega),fun _=>⟨fun k=>absurd (of_decide_eq_true k) (by omega),fun _=>rfl⟩⟩,fun k=>(by cases k),fun _=>⟨⟨by omega,by omega⟩,fun y hy=> ?_⟩⟩
 rw [hy,Int.toNat_natCast]
 rfl
theorem Zuh (n:Nat):n<=2^depM n:=by
 unfold depM blen
 split
 · have:=Nat.two_pow_pos 0;simp;omega
 · rename_i h
   have:=(Nat.log2_lt h).1 (Nat.lt_succ_self _)
   omega
theorem Z3n (a b:List Int):n32 (mP a b)=mP a b:=Zc3 _
theorem mP_l (a b:List Int):mP (n32 a) b=mP a b:=by unfold mP;rw [Zc3]
theorem mP_r (a b:List Int):mP a (n32 b)=mP a b:=by unfold mP;rw [Zc3]
end
section
open Go
section
variable (P:List Int->List Int->List Int) (pad:List Int)
def mAt (row:List (List Int)) (k:Nat) (p:List Int):List Int:=(row[k]?).getD p
def X8 (row:List (List Int)) (p:List Int):List (List Int):=(List.range ((row.length+1)/2)).map fun k=>P (mAt row (2*k) p) (mAt row (2*k+1) p)
def mPd:Nat->List Int
 |0=>pad
 |j+1=>P (mPd j) (mPd j)
def mRow (L:List (List Int)):Nat->List (List Int)
 |0=>L
 |j+1=>X8 P (mRow L j) (mPd P pad j)
def sibM (m:Nat):Nat:=if m%2=0 then m+1 else m-1
def Zcq (L:List (List Int)) (i d:Nat):List (List Int):=(List.range d).map fun j=>mAt (mRow P pad L j) (sibM (i/2^j)) (mPd P pad j)
def incM (i:Nat) (x:List Int) (p:List (List Int)):Nat->List Int
 |0=>x
 |j+1=>if i/2^j%2=0 then P (incM i x p j) (p.getD j []) else P (p.getD j []) (incM i x p j)
def Zcr (L:List (List Int)) (d:Nat):List Int:=mAt (mRow P pad L d) 0 (mPd P pad d)
variable {P pad}
theorem Ud (row:List (List Int)) (p:List Int):(X8 P row p).length=(row.length+1)/2:=by simp [X8]
theorem Zbg (row:List (List Int)) (p:List Int) (k:Nat):(X8 P row p)[k]? =if k<(row.length+1)/2 then some (P (mAt row (2*k) p) (mAt row (2*k+1) p)) else none:=by
 unfold X8
 rw [List.getElem?_map]
 split
 · rw [List.getElem?_range ‹_›];rfl
 · rw [List.getElem?_eq_none (by rw [List.length_range];omega)];rfl
theorem Zn4 (i j:Nat):i/2^(j+1)=i/2^j/2:=by rw [Nat.pow_succ,Nat.div_div_eq_div_mul]
theorem Zjq {L:List (List Int)} {i d j:Nat} (h:j<d):(Zcq P pad L i d).getD j []=mAt (mRow P pad L j) (sibM (i/2^j)) (mPd P pad j):=by
 unfold Zcq
 rw [List.getD_eq_getElem?_getD,List.getElem?_map,List.getElem?_range h]
 rfl
theorem Zn5 {L:List (List Int)} {i d:Nat} {x:List Int} (hx:L[i]? =some x):∀j,j<=d->(mRow P pad L j)[i/2^j]? =some (incM P i x (Zcq P pad L i d) j)
 |0,_=>by
  rw [Nat.pow_zero,Nat.div_one]
  exact hx
 |j+1,h=>by
  have ih:=Zn5 (d:=d) hx j (by omega)
  have hlt:=(gA9.1 ih).1
  show (X8 P (mRow P pad L j) (mPd P pad j))[i/2^(j+1)]? =_
  rw [Zn4,Zbg]
  generalize hm:i/2^j=m at ih hlt⊢
  rw [if_pos (by omega)]
  unfold incM
  rw [Zjq (by omega),hm]
  by_cases he:m%2=0
  · rw [if_pos he]
    have e1:2*(m/2)=m:=by omega
    rw [e1]
    unfold sibM
    rw [if_pos he]
    congr 2
    unfold mAt
    rw [ih]
    rfl
  · rw [if_neg he]
    have e1:2*(m/2)+1=m:=by omega
    have e2:2*(m/2)=m-1:=by omega
    rw [e1,e2]
    unfold sibM
    rw [if_neg he]
    congr 2
    unfold mAt
    rw [ih]
    rfl
theorem Zyd {L:List (List Int)} {i d:Nat} {x:List Int} (hx:L[i]? =some x) (hi:i<2^d):incM P i x (Zcq P pad L i d) d=Zcr P pad L d:=by
 have h:=Zn5 (P:=P) (pad:=pad) (d:=d) hx d (Nat.le_refl _)
 rw [Nat.div_eq_of_lt hi] at h
 unfold Zcr mAt
 rw [h]
 rfl
theorem Zvg (L L':List (List Int)) (h:L'.length=L.length):∀j,(mRow P pad L' j).length=(mRow P pad L j).length
 |0=>h
 |j+1=>by
  show (X8 P _ _).length=(X8 P _ _).length
  rw [Ud,Ud,Zvg L L' h j]
theorem Zl7 {L:List (List Int)} {i:Nat} {y:List Int}:∀(j k:Nat),k≠i/2^j->(mRow P pad (L.set i y) j)[k]? =(mRow P pad L j)[k]?
 |0,k,h=>by
  rw [Nat.pow_zero,Nat.div_one] at h
  exact List.getElem?_set_ne (Ne.symm h)
 |j+1,k,h=>by
  rw [Zn4] at h
  show (X8 P (mRow P pad (L.set i y) j) (mPd P pad j))[k]? =(X8 P (mRow P pad L j) (mPd P pad j))[k]?
  rw [Zbg,Zbg,Zvg L (L.set i y) (List.length_set) j]
  unfold mAt
  rw [Zl7 j (2*k) (by omega),Zl7 j (2*k+1) (by omega)]
theorem Zye {L:List (List Int)} {i d:Nat} {y:List Int}:Zcq P pad (L.set i y) i d=Zcq P pad L i d:=by
 unfold Zcq
 refine List.map_congr_left fun j _=> ?_
 unfold mAt
 rw [Zl7 j]
 unfold sibM
 split<;>omega
theorem Z14 {L:List (List Int)} {i d:Nat} {y:List Int} (hl:i<L.length) (hi:i<2^d):incM P i y (Zcq P pad L i d) d=Zcr P pad (L.set i y) d:=by
 rw [<-Zye (y:=y)]
 exact Zyd (List.getElem?_set_self hl) hi
end
end
section
open Go Go.RowKit
def Z2m:Sum thy:=X7 E2 gthV 10 .nil (fun _=>True) (fun _=>mPad) Zx
def Z2n:Sum thy:=X7 E2 gthV 10 (.cons (dDig E2) (.cons (dDig E2) .nil)) (fun _=>True) (fun x=>mP x.1 x.2.1) Zx
def Zzp:Sum thy:=X7 E2 gthV 10 (.cons dI2 .nil) (fun x=>0<=x.1/\x.1<=65536) (fun x=>depM x.1.toNat) fun (y:Nat)=> .int false .i64 (y:Int)
def FR0:Fns thy:=addS (addS (addS F0 43 Z2m) 42 Z2n) 38 Zzp
def n32q (x:List Int):List Int:= [List.getD x 0 0,List.getD x 1 0,List.getD x 2 0,List.getD x 3 0,List.getD x 4 0,List.getD x 5 0,List.getD x 6 0,List.getD x 7 0,List.getD x 8 0,List.getD x 9 0,List.getD x 10 0,List.getD x 11 0,List.getD x 12 0,List.getD x 13 0,List.getD x 14 0,List.getD x 15 0,List.getD x 16 0,List.getD x 17 0,List.getD x 18 0,List.getD x 19 0,List.getD x 20 0,List.getD x 21 0,List.getD x 22 0,List.getD x 23 0,List.getD x 24 0,List.getD x 25 0,List.getD x 26 0,List.getD x 27 0,List.getD x 28 0,List.getD x 29 0,List.getD x 30 0,List.getD x 31 0]
def z32q (x:List Int):Prop:=(0:Int)=List.getD x 0 0/\(0:Int)=List.getD x 1 0/\(0:Int)=List.getD x 2 0/\(0:Int)=List.getD x 3 0/\(0:Int)=List.getD x 4 0/\(0:Int)=List.getD x 5 0/\(0:Int)=List.getD x 6 0/\(0:Int)=List.getD x 7 0/\(0:Int)=List.getD x 8 0/\(0:Int)=List.getD x 9 0/\(0:Int)=List.getD x 10 0/\(0:Int)=List.getD x 11 0/\(0:Int)=List.getD x 12 0/\(0:Int)=List.getD x 13 0/\(0:Int)=List.getD x 14 0/\(0:Int)=List.getD x 15 0/\(0:Int)=List.getD x 16 0/\(0:Int)=List.getD x 17 0/\(0:Int)=List.getD x 18 0/\(0:Int)=List.getD x 19 0/\(0:Int)=List.getD x 20 0/\(0:Int)=List.getD x 21 0/\(0:Int)=List.getD x 22 0/\(0:Int)=List.getD x 23 0/\(0:Int)=List.getD x 24 0/\(0:Int)=List.getD x 25 0/\(0:Int)=List.getD x 26 0/\(0:Int)=List.getD x 27 0/\(0:Int)=List.getD x 28 0/\(0:Int)=List.getD x 29 0/\(0:Int)=List.getD x 30 0/\(0:Int)=List.getD x 31 0/\True
def b32q (x y:List Int):Bool:=(List.getD x 0 0==List.getD y 0 0&&(List.getD x 1 0==List.getD y 1 0&&(List.getD x 2 0==List.getD y 2 0&&(List.getD x 3 0==List.getD y 3 0&&(List.getD x 4 0==List.getD y 4 0&&(List.getD x 5 0==List.getD y 5 0&&(List.getD x 6 0==List.getD y 6 0&&(List.getD x 7 0==List.getD y 7 0&&(List.getD x 8 0==List.getD y 8 0&&(List.getD x 9 0==List.getD y 9 0&&(List.getD x 10 0==List.getD y 10 0&&(List.getD x 11 0==List.getD y 11 0&&(List.getD x 12 0==List.getD y 12 0&&(List.getD x 13 0==List.getD y 13 0&&(List.getD x 14 0==List.getD y 14 0&&(List.getD x 15 0==List.getD y 15 0&&(List.getD x 16 0==List.getD y 16 0&&(List.getD x 17 0==List.getD y 17 0&&(List.getD x 18 0==List.getD y 18 0&&(List.getD x 19 0==List.getD y 19 0&&(List.getD x 20 0==List.getD y 20 0&&(List.getD x 21 0==List.getD y 21 0&&(List.getD x 22 0==List.getD y 22 0&&(List.getD x 23 0==List.getD y 23 0&&(List.getD x 24 0==List.getD y 24 0&&(List.getD x 25 0==List.getD y 25 0&&(List.getD x 26 0==List.getD y 26 0&&(List.getD x 27 0==List.getD y 27 0&&(List.getD x 28 0==List.getD y 28 0&&(List.getD x 29 0==List.getD y 29 0&&(List.getD x 30 0==List.getD y 30 0&&(List.getD x 31 0==List.getD y 31 0&&true))))))))))))))))))))))))))))))))
theorem Zv7:SumOk E2 43 Z2m:=Zw Zh (Zi rfl) fun x _=>Zuf
theorem Zv8:SumOk E2 42 Z2n:=Zw Zh (Zi rfl) fun x _=>Zug x.1 x.2.1
theorem Zmp:SumOk E2 38 Zzp:=Zw Zh (Zi rfl) fun x h=>by
 obtain ⟨a,_⟩:=x
 obtain ⟨h1,h2⟩:=h
 dsimp only at h1 h2
 obtain ⟨n,rfl⟩:=Int.eq_ofNat_of_zero_le h1
 exact Zlz n (by omega)
theorem Zmq:FnsOk E2 FR0:=Zf (Zf (Zf X5 Zv7) Zv8) Zmp
structure MlX where
 row:List (List Int)
 pad:List Int
 d:List Int
 p:List (List Int)
 k:Nat
 r:Nat
def Z2o (h:Hp thy):SV thy->List (SV thy)| .ptr b _=>(match h b with|some (.raw cs _ _)=>cs|_=> [])|_=> []
def capN:SV thy->Nat->SV thy| .fn _ _ cs,j=>cs.getD j .unk|_,_=> .unk
def Anl1:Fr thy->Hp thy->Nat->Ann thy:=fun T h i=>{X:=Bool×MlX,fr:=fun x=> [(2,T 2),(6,match x.1 with|true=> .sl i 0 x.2.row.length 32 none|false=> .psl Th.digs x.2.row false),(7,T 7),(14,T 14),(15,.int false .i64 x.2.k)],bl:=fun x=>(bOf (T 7),.raw (Zx x.2.pad).cells 0 none)::(bOf (capN (T 2) 2),.raw (Zx x.2.d).cells 0 none)::((match x.1 with|true=> [(i,.rows Th.digs x.2.row 0)]|false=> [])++(blkP h (capN (T 2) 0)++blkP h (capN (T 2) 1))),src:=fun x=>(match x.1 with|true=> [(i,6)]|false=> []),md:= [bOf (T 7),bOf (capN (T 2) 2)],ih:=i+1,M:=i+80,meas:=fun x=>x.2.r,ex:=ex2,al:=al2,exOk:=Zyk,alOk:=Zyl}
def Anl2:Fr thy->Hp thy->Nat->Ann thy:=fun T h i=>{X:=MlX,fr:=fun x=> [(2,T 2),(6,T 6),(7,T 7),(9,.sl i 0 x.row.length 32 none),(10,.int false .i64 x.k),(14,T 14),(15,T 15)],bl:=fun x=>(i,.rows Th.digs x.row 0)::(blkS h (T 6)++blkP h (T 7)++blkP h (capN (T 2) 0)++blkP h (capN (T 2) 1)++blkP h (capN (T 2) 2)),src:=fun _=> [(i,9)],md:= [bOf (T 9)],ih:=i+1,M:=i+60,meas:=fun x=>x.r}
def Fnod:Fns thy:=addL (addL FR0 39 2 Anl1 E2) 39 7 Anl2 E2
theorem Zrj (L:List (List Int)) (lv k:Int) (d:List Int) (b:Bool):Zr E2 Fnod (vc E2 Fnod 400) 59 [.psl Th.digs L false,.int false .i64 lv,.int false .i64 k] hp0 0 (fun r=>ret E2 (patch hp0 0 r) r.v (.tup [Zx d,.bool false b]))=(
 (decide ((↑(List.length L):Int)>(65536:Int))=true->(z32q d)/\false=b/\True)/\(decide ((↑(List.length L):Int)>(65536:Int))=false->(decide (lv<(0:Int))=
 true->(z32q d)/\false=b/\True)/\(decide (lv<(0:Int))=false->(decide (lv>(16:Int))=true->(z32q d)/\false=b/\True)/\(decide (lv>(16:Int))=false->(decide
 (k<(0:Int))=true->(z32q d)/\false=b/\True)/\(decide (k<(0:Int))=false->(0:Int)<=wr IntKind.i64 ((16:Int)-lv)/\(decide (k>=wr IntKind.i64 ((1:Int)*(2
 :Int)^min (Int.toNat (wr IntKind.i64 ((16:Int)-lv))) (IntKind.bits IntKind.i64)))=true->(z32q d)/\false=b/\True)/\(decide (k>=wr IntKind.i64 ((1:Int)*(2:Int)^
 min (Int.toNat (wr IntKind.i64 ((16:Int)-lv))) (IntKind.bits IntKind.i64)))=false->True/\∀(y:List Int),y=mPad->∃(R:Bool×MlX->Prop),((∃(y_1:MlX),R (false,
 y_1)/\true=true/\((Fn.func (76:Nat)=Fn.func (76:Nat)/\True/\(0:Nat)=(0:Nat)/\(0:Nat)=(0:Nat)/\(0:
 Nat)=(0:Nat)/\True)/\(L=MlX.row y_1/\(false=true->false=true))/\(0:Nat)=(0:Nat)/\wr IntKind.i64 (lv+(1:Int))=wr IntKind.i64 (lv+(1:Int))/\(0:Int)
 =(↑(MlX.k y_1):Int)/\True)/\(e32q y (MlX.pad y_1))/\(z32q (MlX.d y_1))/\(lv=lv/\True)/\(k=k/\True)/\True)\/∃(y:MlX),R (true,y)/\true=true/\False)/\(∀(y:
 MlX),R (false,y)->(decide ((↑(MlX.k y):Int)<wr IntKind.i64 (lv+(1:Int)))=true->(((↑(MlX.k y):Int)==lv)=true->(decide (k<(↑(List.length (MlX.row y)):Int))=
 true->(0:Int)<=k/\k+(1:Int)<=(↑(List.length (MlX.row y)):Int)/\∀(x:List Int),(MlX.row y)[Int.toNat k]? =some x->((0:Int)<=wr IntKind.i64 (Int.tdiv (wr
 IntKind.i64 ((↑(List.length (MlX.row y)):Int)+(1:Int))) (2:Int))/\(↑(32:Nat):Int)*wr IntKind.i64 (Int.tdiv (wr IntKind.i64 ((↑(List.length (MlX.row y)):Int)+(1:
 Int))) (2:Int))<=(281474976710656:Int))/\∃(R_1:MlX->Prop),(∃(x_1:MlX),R_1 x_1/\true=true/\((Fn.func (76:Nat)=Fn.func
 (76:Nat)/\True/\(0:Nat)=(0:Nat)/\(0:Nat)=(0:Nat)/\(0:Nat)=(0:Nat)/\True)/\(MlX.row y=MlX.row y/\(false=true->false=
 true))/\(0:Nat)=(0:Nat)/\((0:Nat)=(0:Nat)/\(0:Nat)=List.length (MlX.row x_1)/\True)/\(0:Int)=(↑(MlX.k x_1):Int)/\wr IntKind.i64 (lv+(1:Int))=wr
 IntKind.i64 (lv+(1:Int))/\(↑(MlX.k y):Int)=(↑(MlX.k y):Int)/\True)/\([]=MlX.row x_1/\(0:Nat)=(0:Nat))/\(e32q (MlX.pad y) (MlX.pad y))/\(lv=lv/\True)/\(k
 =k/\True)/\(e32q x x)/\True)/\∀(x_1:MlX),R_1 x_1->(decide ((↑(MlX.k x_1):Int)<(↑(List.length (MlX.row y)):Int))=true->(0:Int)<=(↑(MlX.k x_1):Int)/\(↑(MlX.k
 x_1):Int)+(1:Int)<=(↑(List.length (MlX.row y)):Int)/\∀(x_2:List Int),(MlX.row y)[Int.toNat (↑(MlX.k x_1):Int)]? =some x_2->(decide (wr IntKind.i64 ((↑(MlX.k x_1)
 :Int)+(1:Int))<(↑(List.length (MlX.row y)):Int))=true->(0:Int)<=wr IntKind.i64 ((↑(MlX.k x_1):Int)+(1:Int))/\wr IntKind.i64 ((↑(MlX.k x_1):Int)+(1:Int))
 +(1:Int)<=(↑(List.length (MlX.row y)):Int)/\∀(x_3:List Int),(MlX.row y)[Int.toNat (wr IntKind.i64 ((↑(MlX.k x_1):Int)+(1:Int)))]? =some x_3->True/\∀(y_1:List
 Int),y_1=mP (n32q x_2) (n32q x_3)->(List.length (MlX.row x_1)<=List.length (MlX.row x_1)/\(0:Nat)<=List.length (MlX.row x_1)/\(List.length (MlX.row x_1)+(1:Nat))*(32
 :Nat)<=(140737488355328:Nat))/\∃(x_4:MlX),R_1 x_4/\x_4.6+(1:Nat)<=x_1.6/\true=true/\((Fn.func (76:Nat)=Fn.func (76:Nat)/\True/\(0:Nat)=(0:Nat)/\(0
 :Nat)=(0:Nat)/\(0:Nat)=(0:Nat)/\True)/\(MlX.row y=MlX.row y/\(false=true->false=true))/\(0:Nat)=(0:Nat)/\((0:Nat)=(0:Nat)/\List.length (MlX.row
 x_1)+(1:Nat)=List.length (MlX.row x_4)/\True)/\wr IntKind.i64 ((↑(MlX.k x_1):Int)+(2:Int))=(↑(MlX.k x_4):Int)/\wr IntKind.i64 (lv+(1:Int))=wr IntKind.i64
 (lv+(1:Int))/\(↑(MlX.k y):Int)=(↑(MlX.k y):Int)/\True)/\(List.take (List.length (MlX.row x_1)) (MlX.row x_1)++ [(n32q y_1)]=MlX.row x_4/\(0:Nat)=(0:Nat))/\
 (e32q (MlX.pad y) (MlX.pad y))/\(lv=lv/\True)/\(k=k/\True)/\(e32q x x)/\True)/\(decide (wr IntKind.i64 ((↑(MlX.k x_1):Int)+(1:Int))<(↑(List.length (MlX.row y)):
 Int))=false->True/\∀(y_1:List Int),y_1=mP (n32q x_2) (n32q (MlX.pad y))->(List.length (MlX.row x_1)<=List.length (MlX.row x_1)/\(0:Nat)<=List.length (MlX.row x_1)/\
 (List.length (MlX.row x_1)+(1:Nat))*(32:Nat)<=(140737488355328:Nat))/\∃(x_3:MlX),R_1 x_3/\x_3.6+(1:Nat)<=x_1.6/\true=true/\((Fn.func (76:Nat)=Fn.func
 (76:Nat)/\True/\(0:Nat)=(0:Nat)/\(0:Nat)=(0:Nat)/\(0:Nat)=(0:Nat)/\True)/\(MlX.row y=MlX.row y/\(false=true->false=true))/\(0:Nat)=(0:Nat)
 /\((0:Nat)=(0:Nat)/\List.length (MlX.row x_1)+(1:Nat)=List.length (MlX.row x_3)/\True)/\wr IntKind.i64 ((↑(MlX.k x_1):Int)+(2:Int))=(↑(MlX.k x_3):Int)/\wr
 IntKind.i64 (lv+(1:Int))=wr IntKind.i64 (lv+(1:Int))/\(↑(MlX.k y):Int)=(↑(MlX.k y):Int)/\True)/\(List.take (List.length (MlX.row x_1)) (MlX.row x_1)++ [(n32q
 y_1)]=MlX.row x_3/\(0:Nat)=(0:Nat))/\(e32q (MlX.pad y) (MlX.pad y))/\(lv=lv/\True)/\(k=k/\True)/\(e32q x x)/\True))/\(decide ((↑(MlX.k x_1):Int)<
 (↑(List.length (MlX.row y)):Int))=false->True/\∀(y_1:List Int),y_1=mP (n32q (MlX.pad y)) (n32q (MlX.pad y))->(∃(y_2:MlX),R (false,y_2)/\y_2.6+(1:Nat)<=y.6/\
 true=true/\((Fn.func (76:Nat)=Fn.func (76:Nat)/\True/\(0:Nat)=(0:Nat)/\(0:Nat)=(0:Nat)/\(0:Nat)=(0
 :Nat)/\True)/\False/\(0:Nat)=(0:Nat)/\wr IntKind.i64 (lv+(1:Int))=wr IntKind.i64 (lv+(1:Int))/\wr IntKind.i64 ((↑(MlX.k y):Int)+(1:Int))=(↑(MlX.k y_2)
 :Int)/\True)/\(e32q y_1 (MlX.pad y_2))/\(e32q x (MlX.d y_2))/\(lv=lv/\True)/\(k=k/\True)/\True)\/∃(y_2:MlX),R (true,y_2)/\y_2.6+(1:Nat)<=y.6/\true=true
 /\((Fn.func (76:Nat)=Fn.func (76:Nat)/\True/\(0:Nat)=(0:Nat)/\(0:Nat)=(0:Nat)/\(0:Nat)=(0:Nat)/\
 True)/\((0:Nat)=(0:Nat)/\List.length (MlX.row x_1)=List.length (MlX.row y_2)/\True)/\(0:Nat)=(0:Nat)/\wr IntKind.i64 (lv+(1:Int))=wr IntKind.i64 (lv+(1:
 Int))/\wr IntKind.i64 ((↑(MlX.k y):Int)+(1:Int))=(↑(MlX.k y_2):Int)/\True)/\(e32q y_1 (MlX.pad y_2))/\(e32q x (MlX.d y_2))/\(MlX.row x_1=MlX.row y_2/\(0:Nat)=
 (0:Nat))/\(lv=lv/\True)/\(k=k/\True)/\True))/\(decide (k<(↑(List.length (MlX.row y)):Int))=false->((0:Int)<=wr IntKind.i64 (Int.tdiv (wr IntKind.i64
 ((↑(List.length (MlX.row y)):Int)+(1:Int))) (2:Int))/\(↑(32:Nat):Int)*wr IntKind.i64 (Int.tdiv (wr IntKind.i64 ((↑(List.length (MlX.row y)):Int)+(1:Int))) (2:
 Int))<=(281474976710656:Int))/\∃(R_1:MlX->Prop),(∃(x:MlX),R_1 x/\true=true/\((Fn.func (76:Nat)=Fn.func (76
 :Nat)/\True/\(0:Nat)=(0:Nat)/\(0:Nat)=(0:Nat)/\(0:Nat)=(0:Nat)/\True)/\(MlX.row y=MlX.row y/\(false=true->false=true))/\(0:Nat)=(0:Nat)/\
 ((0:Nat)=(0:Nat)/\(0:Nat)=List.length (MlX.row x)/\True)/\(0:Int)=(↑(MlX.k x):Int)/\wr IntKind.i64 (lv+(1:Int))=wr IntKind.i64 (lv+(1:Int))/\(↑(MlX.k
 y):Int)=(↑(MlX.k y):Int)/\True)/\([]=MlX.row x/\(0:Nat)=(0:Nat))/\(e32q (MlX.pad y) (MlX.pad y))/\(lv=lv/\True)/\(k=k/\True)/\(e32q (MlX.pad y) (MlX.pad
 y))/\True)/\∀(x:MlX),R_1 x->(decide ((↑(MlX.k x):Int)<(↑(List.length (MlX.row y)):Int))=true->(0:Int)<=(↑(MlX.k x):Int)/\(↑(MlX.k x):Int)+(1:Int)<=
 (↑(List.length (MlX.row y)):Int)/\∀(x_1:List Int),(MlX.row y)[Int.toNat (↑(MlX.k x):Int)]? =some x_1->(decide (wr IntKind.i64 ((↑(MlX.k x):Int)+(1:Int))<
 (↑(List.length (MlX.row y)):Int))=true->(0:Int)<=wr IntKind.i64 ((↑(MlX.k x):Int)+(1:Int))/\wr IntKind.i64 ((↑(MlX.k x):Int)+(1:Int))+(1:Int)<=
 (↑(List.length (MlX.row y)):Int)/\∀(x_2:List Int),(MlX.row y)[Int.toNat (wr IntKind.i64 ((↑(MlX.k x):Int)+(1:Int)))]? =some x_2->True/\∀(y_1:List Int),y_1=mP
 (n32q x_1) (n32q x_2)->(List.length (MlX.row x)<=List.length (MlX.row x)/\(0:Nat)<=List.length (MlX.row x)/\(List.length (MlX.row x)+(1:Nat))*(32:Nat)<=
 (140737488355328:Nat))/\∃(x_3:MlX),R_1 x_3/\x_3.6+(1:Nat)<=x.6/\true=true/\((Fn.func (76:Nat)=Fn.func (76:Nat)/\True/\(0:Nat)=(0:Nat)/\(0:Nat)=
 (0:Nat)/\(0:Nat)=(0:Nat)/\True)/\(MlX.row y=MlX.row y/\(false=true->false=true))/\(0:Nat)=(0:Nat)/\((0:Nat)=(0:Nat)/\List.length (MlX.row x)+(1
 :Nat)=List.length (MlX.row x_3)/\True)/\wr IntKind.i64 ((↑(MlX.k x):Int)+(2:Int))=(↑(MlX.k x_3):Int)/\wr IntKind.i64 (lv+(1:Int))=wr IntKind.i64 (lv+(1:
 Int))/\(↑(MlX.k y):Int)=(↑(MlX.k y):Int)/\True)/\(List.take (List.length (MlX.row x)) (MlX.row x)++ [(n32q y_1)]=MlX.row x_3/\(0:Nat)=(0:Nat))/\(e32q (MlX.pad y)
 (MlX.pad y))/\(lv=lv/\True)/\(k=k/\True)/\(e32q (MlX.pad y) (MlX.pad y))/\True)/\(decide (wr IntKind.i64 ((↑(MlX.k x):Int)+(1:Int))<(↑(List.length (MlX.row y)):
 Int))=false->True/\∀(y_1:List Int),y_1=mP (n32q x_1) (n32q (MlX.pad y))->(List.length (MlX.row x)<=List.length (MlX.row x)/\(0:Nat)<=List.length (MlX.row x)/\
 (List.length (MlX.row x)+(1:Nat))*(32:Nat)<=(140737488355328:Nat))/\∃(x_2:MlX),R_1 x_2/\x_2.6+(1:Nat)<=x.6/\true=true/\((Fn.func
 (76:Nat)=Fn.func (76:Nat)/\True/\(0:Nat)=(0:Nat)/\(0:Nat)=(0:Nat)/\(0:Nat)=(0:Nat)/\True)/\
 (MlX.row y=MlX.row y/\(false=true->false=true))/\(0:Nat)=(0:Nat)/\((0:Nat)=(0:Nat)/\List.length (MlX.row x)+(1:Nat)=List.length (MlX.row x_2)/\True)/\
 wr IntKind.i64 ((↑(MlX.k x):Int)+(2:Int))=(↑(MlX.k x_2):Int)/\wr IntKind.i64 (lv+(1:Int))=wr IntKind.i64 (lv+(1:Int))/\(↑(MlX.k y):Int)=(↑(MlX.k y):Int)
 /\True)/\(List.take (List.length (MlX.row x)) (MlX.row x)++ [(n32q y_1)]=MlX.row x_2/\(0:Nat)=(0:Nat))/\(e32q (MlX.pad y) (MlX.pad y))/\(lv=lv/\True)/\(k=k/\
 True)/\(e32q (MlX.pad y) (MlX.pad y))/\True))/\(decide ((↑(MlX.k x):Int)<(↑(List.length (MlX.row y)):Int))=false->True/\∀(y_1:List Int),y_1=mP (n32q (MlX.pad y))
 (n32q (MlX.pad y))->(∃(y_2:MlX),R (false,y_2)/\y_2.6+(1:Nat)<=y.6/\true=true/\((Fn.func (76:Nat)=Fn.func (76
 :Nat)/\True/\(0:Nat)=(0:Nat)/\(0:Nat)=(0:Nat)/\(0:Nat)=(0:Nat)/\True)/\False/\(0:Nat)=(0:Nat)/\wr IntKind.i64 (lv+(1:Int))=wr IntKind.i64 (lv
 +(1:Int))/\wr IntKind.i64 ((↑(MlX.k y):Int)+(1:Int))=(↑(MlX.k y_2):Int)/\True)/\(e32q y_1 (MlX.pad y_2))/\(e32q (MlX.pad y) (MlX.d y_2))/\(lv=lv/\True)/\(k=
 k/\True)/\True)\/∃(y_2:MlX),R (true,y_2)/\y_2.6+(1:Nat)<=y.6/\true=true/\((Fn.func (76:Nat)=Fn.func (76:
 Nat)/\True/\(0:Nat)=(0:Nat)/\(0:Nat)=(0:Nat)/\(0:Nat)=(0:Nat)/\True)/\((0:Nat)=(0:Nat)/\List.length (MlX.row x)=List.length (MlX.row y_2)/\True)/\
 (0:Nat)=(0:Nat)/\wr IntKind.i64 (lv+(1:Int))=wr IntKind.i64 (lv+(1:Int))/\wr IntKind.i64 ((↑(MlX.k y):Int)+(1:Int))=(↑(MlX.k y_2):Int)/\True)/\(e32q
 y_1 (MlX.pad y_2))/\(e32q (MlX.pad y) (MlX.d y_2))/\(MlX.row x=MlX.row y_2/\(0:Nat)=(0:Nat))/\(lv=lv/\True)/\(k=k/\True)/\True)))/\(((↑(MlX.k y):Int)==lv)
 =false->((0:Int)<=wr IntKind.i64 (Int.tdiv (wr IntKind.i64 ((↑(List.length (MlX.row y)):Int)+(1:Int))) (2:Int))/\(↑(32:Nat):Int)*wr IntKind.i64 (Int.tdiv (wr
 IntKind.i64 ((↑(List.length (MlX.row y)):Int)+(1:Int))) (2:Int))<=(281474976710656:Int))/\∃(R_1:MlX->Prop),(∃(x:MlX),R_1 x/\true=true/\((Fn.func
 (76:Nat)=Fn.func (76:Nat)/\True/\(0:Nat)=(0:Nat)/\(0:Nat)=(0:Nat)/\(0:Nat)=(0:Nat)/\True)/\
 (MlX.row y=MlX.row y/\(false=true->false=true))/\(0:Nat)=(0:Nat)/\((0:Nat)=(0:Nat)/\(0:Nat)=List.length (MlX.row x)/\True)/\(0:Int)=(↑(MlX.k x):
 Int)/\wr IntKind.i64 (lv+(1:Int))=wr IntKind.i64 (lv+(1:Int))/\(↑(MlX.k y):Int)=(↑(MlX.k y):Int)/\True)/\([]=MlX.row x/\(0:Nat)=(0:Nat))/\(e32q
 (MlX.pad y) (MlX.pad y))/\(lv=lv/\True)/\(k=k/\True)/\(e32q (MlX.d y) (MlX.d y))/\True)/\∀(x:MlX),R_1 x->(decide ((↑(MlX.k x):Int)<(↑(List.length (MlX.row y)):
 Int))=true->(0:Int)<=(↑(MlX.k x):Int)/\(↑(MlX.k x):Int)+(1:Int)<=(↑(List.length (MlX.row y)):Int)/\∀(x_1:List Int),(MlX.row y)[Int.toNat (↑(MlX.k x):Int)]?
 =some x_1->(decide (wr IntKind.i64 ((↑(MlX.k x):Int)+(1:Int))<(↑(List.length (MlX.row y)):Int))=true->(0:Int)<=wr IntKind.i64 ((↑(MlX.k x):Int)+(1:Int))/\
 wr IntKind.i64 ((↑(MlX.k x):Int)+(1:Int))+(1:Int)<=(↑(List.length (MlX.row y)):Int)/\∀(x_2:List Int),(MlX.row y)[Int.toNat (wr IntKind.i64 ((↑(MlX.k x):Int)+
 (1:Int)))]? =some x_2->True/\∀(y_1:List Int),y_1=mP (n32q x_1) (n32q x_2)->(List.length (MlX.row x)<=List.length (MlX.row x)/\(0:Nat)<=List.length (MlX.row x)/\
 (List.length (MlX.row x)+(1:Nat))*(32:Nat)<=(140737488355328:Nat))/\∃(x_3:MlX),R_1 x_3/\x_3.6+(1:Nat)<=x.6/\true=true/\((Fn.func
 (76:Nat)=Fn.func (76:Nat)/\True/\(0:Nat)=(0:Nat)/\(0:Nat)=(0:Nat)/\(0:Nat)=(0:Nat)/\True)/\(MlX.row y=MlX.row y/\(false=
 true->false=true))/\(0:Nat)=(0:Nat)/\((0:Nat)=(0:Nat)/\List.length (MlX.row x)+(1:Nat)=List.length (MlX.row x_3)/\True)/\wr IntKind.i64 ((↑(MlX.k x):
 Int)+(2:Int))=(↑(MlX.k x_3):Int)/\wr IntKind.i64 (lv+(1:Int))=wr IntKind.i64 (lv+(1:Int))/\(↑(MlX.k y):Int)=(↑(MlX.k y):Int)/\True)/\(List.take
 (List.length (MlX.row x)) (MlX.row x)++ [(n32q y_1)]=MlX.row x_3/\(0:Nat)=(0:Nat))/\(e32q (MlX.pad y) (MlX.pad y))/\(lv=lv/\True)/\(k=k/\True)/\(e32q (MlX.d y)
 (MlX.d y))/\True)/\(decide (wr IntKind.i64 ((↑(MlX.k x):Int)+(1:Int))<(↑(List.length (MlX.row y)):Int))=false->True/\∀(y_1:List Int),y_1=mP (n32q x_1) (n32q
 (MlX.pad y))->(List.length (MlX.row x)<=List.length (MlX.row x)/\(0:Nat)<=List.length (MlX.row x)/\(List.length (MlX.row x)+(1:Nat))*(32:Nat)<=(140737488355328:
 Nat))/\∃(x_2:MlX),R_1 x_2/\x_2.6+(1:Nat)<=x.6/\true=true/\((Fn.func (76:Nat)=Fn.func (76:Nat)/\True/\(0:
 Nat)=(0:Nat)/\(0:Nat)=(0:Nat)/\(0:Nat)=(0:Nat)/\True)/\(MlX.row y=MlX.row y/\(false=true->false=true))/\(0:Nat)=(0:Nat)/\((0:Nat)=(0:Nat)
 /\List.length (MlX.row x)+(1:Nat)=List.length (MlX.row x_2)/\True)/\wr IntKind.i64 ((↑(MlX.k x):Int)+(2:Int))=(↑(MlX.k x_2):Int)/\wr IntKind.i64 (lv+(1:Int))
 =wr IntKind.i64 (lv+(1:Int))/\(↑(MlX.k y):Int)=(↑(MlX.k y):Int)/\True)/\(List.take (List.length (MlX.row x)) (MlX.row x)++ [(n32q y_1)]=MlX.row x_2/\(0:Nat)=(0
 :Nat))/\(e32q (MlX.pad y) (MlX.pad y))/\(lv=lv/\True)/\(k=k/\True)/\(e32q (MlX.d y) (MlX.d y))/\True))/\(decide ((↑(MlX.k x):Int)<(↑(List.length (MlX.row y)):
 Int))=false->True/\∀(y_1:List Int),y_1=mP (n32q (MlX.pad y)) (n32q (MlX.pad y))->(∃(y_2:MlX),R (false,y_2)/\y_2.6+(1:Nat)<=y.6/\true=true/\((Fn.func
 (76:Nat)=Fn.func (76:Nat)/\True/\(0:Nat)=(0:Nat)/\(0:Nat)=(0:Nat)/\(0:Nat)=(0:Nat)/\True)/\False/\
 (0:Nat)=(0:Nat)/\wr IntKind.i64 (lv+(1:Int))=wr IntKind.i64 (lv+(1:Int))/\wr IntKind.i64 ((↑(MlX.k y):Int)+(1:Int))=(↑(MlX.k y_2):Int)/\True)/\(e32q
 y_1 (MlX.pad y_2))/\(e32q (MlX.d y) (MlX.d y_2))/\(lv=lv/\True)/\(k=k/\True)/\True)\/∃(y_2:MlX),R (true,y_2)/\y_2.6+(1:Nat)<=y.6/\true=true/\((Fn.func
 (76:Nat)=Fn.func (76:Nat)/\True/\(0:Nat)=(0:Nat)/\(0:Nat)=(0:Nat)/\(0:Nat)=(0:Nat)/\True)/\((0:
 Nat)=(0:Nat)/\List.length (MlX.row x)=List.length (MlX.row y_2)/\True)/\(0:Nat)=(0:Nat)/\wr IntKind.i64 (lv+(1:Int))=wr IntKind.i64 (lv+(1:Int))/\wr
 IntKind.i64 ((↑(MlX.k y):Int)+(1:Int))=(↑(MlX.k y_2):Int)/\True)/\(e32q y_1 (MlX.pad y_2))/\(e32q (MlX.d y) (MlX.d y_2))/\(MlX.row x=MlX.row y_2/\(0:Nat)=(0:
 Nat))/\(lv=lv/\True)/\(k=k/\True)/\True)))/\(decide ((↑(MlX.k y):Int)<wr IntKind.i64 (lv+(1:Int)))=false->(e32q (MlX.d y) d)/\true=b/\True))/\∀(y:MlX),
 R (true,y)->(decide ((↑(MlX.k y):Int)<wr IntKind.i64 (lv+(1:Int)))=true->(((↑(MlX.k y):Int)==lv)=true->(decide (k<(↑(List.length (MlX.row y)):Int))=true->
 ((0:Int)<=k/\k+(1:Int)<=(↑(List.length (MlX.row y)):Int))/\(0:Nat)+Int.toNat k+(1:Nat)<=List.length (MlX.row y)/\∀(x:List Int),(MlX.row y)[(0:Nat)+
 Int.toNat k]? =some x->((0:Int)<=wr IntKind.i64 (Int.tdiv (wr IntKind.i64 ((↑(List.length (MlX.row y)):Int)+(1:Int))) (2:Int))/\(↑(32:Nat):Int)*wr IntKind.i64
 (Int.tdiv (wr IntKind.i64 ((↑(List.length (MlX.row y)):Int)+(1:Int))) (2:Int))<=(281474976710656:Int))/\∃(R_1:MlX->Prop),(∃(x_1:MlX),R_1 x_1/\true=true/\
 ((Fn.func (76:Nat)=Fn.func (76:Nat)/\True/\(0:Nat)=(0:Nat)/\(0:Nat)=(0:Nat)/\(0:Nat)=(0:Nat)/\True)
 /\((0:Nat)=(0:Nat)/\List.length (MlX.row y)=List.length (MlX.row y)/\True)/\(0:Nat)=(0:Nat)/\((0:Nat)=(0:Nat)/\(0:Nat)=List.length (MlX.row x_1)/\
 True)/\(0:Int)=(↑(MlX.k x_1):Int)/\wr IntKind.i64 (lv+(1:Int))=wr IntKind.i64 (lv+(1:Int))/\(↑(MlX.k y):Int)=(↑(MlX.k y):Int)/\True)/\([]=MlX.row x_1/\
 (0:Nat)=(0:Nat))/\(MlX.row y=MlX.row y/\(0:Nat)=(0:Nat))/\(e32q (MlX.pad y) (MlX.pad y))/\(lv=lv/\True)/\(k=k/\True)/\(e32q x x)/\True)/\∀(x_1:MlX),
 R_1 x_1->(decide ((↑(MlX.k x_1):Int)<(↑(List.length (MlX.row y)):Int))=true->((0:Int)<=(↑(MlX.k x_1):Int)/\(↑(MlX.k x_1):Int)+(1:Int)<=(↑(List.length
 (MlX.row y)):Int))/\(0:Nat)+Int.toNat (↑(MlX.k x_1):Int)+(1:Nat)<=List.length (MlX.row y)/\∀(x_2:List Int),(MlX.row y)[(0:Nat)+Int.toNat (↑(MlX.k x_1):
 Int)]? =some x_2->(decide (wr IntKind.i64 ((↑(MlX.k x_1):Int)+(1:Int))<(↑(List.length (MlX.row y)):Int))=true->((0:Int)<=wr IntKind.i64 ((↑(MlX.k x_1):Int)+(1
 :Int))/\wr IntKind.i64 ((↑(MlX.k x_1):Int)+(1:Int))+(1:Int)<=(↑(List.length (MlX.row y)):Int))/\(0:Nat)+Int.toNat (wr IntKind.i64 ((↑(MlX.k x_1):Int)+(1:
 Int)))+(1:Nat)<=List.length (MlX.row y)/\∀(x_3:List Int),(MlX.row y)[(0:Nat)+Int.toNat (wr IntKind.i64 ((↑(MlX.k x_1):Int)+(1:Int)))]? =some x_3->True/\∀
 (y_1:List Int),y_1=mP (n32q x_2) (n32q x_3)->(List.length (MlX.row x_1)<=List.length (MlX.row x_1)/\(0:Nat)<=List.length (MlX.row x_1)/\(List.length (MlX.row x_1)+(1:
 Nat))*(32:Nat)<=(140737488355328:Nat))/\∃(x_4:MlX),R_1 x_4/\x_4.6+(1:Nat)<=x_1.6/\true=true/\((Fn.func (76:Nat)=Fn.func (76:Nat)/\True/\(0:Nat)=(0
 :Nat)/\(0:Nat)=(0:Nat)/\(0:Nat)=(0:Nat)/\True)/\((0:Nat)=(0:Nat)/\List.length (MlX.row y)=List.length (MlX.row y)/\True)/\(0:Nat)=(0:Nat)/\((0:
 Nat)=(0:Nat)/\List.length (MlX.row x_1)+(1:Nat)=List.length (MlX.row x_4)/\True)/\wr IntKind.i64 ((↑(MlX.k x_1):Int)+(2:Int))=(↑(MlX.k x_4):Int)/\wr
 IntKind.i64 (lv+(1:Int))=wr IntKind.i64 (lv+(1:Int))/\(↑(MlX.k y):Int)=(↑(MlX.k y):Int)/\True)/\(List.take (List.length (MlX.row x_1)) (MlX.row x_1)++ [(n32q
 y_1)]=MlX.row x_4/\(0:Nat)=(0:Nat))/\(MlX.row y=MlX.row y/\(0:Nat)=(0:Nat))/\(e32q (MlX.pad y) (MlX.pad y))/\(lv=lv/\True)/\(k=k/\True)/\(e32q x x)/\
 True)/\(decide (wr IntKind.i64 ((↑(MlX.k x_1):Int)+(1:Int))<(↑(List.length (MlX.row y)):Int))=false->True/\∀(y_1:List Int),y_1=mP (n32q x_2) (n32q (MlX.pad y))->
 (List.length (MlX.row x_1)<=List.length (MlX.row x_1)/\(0:Nat)<=List.length (MlX.row x_1)/\(List.length (MlX.row x_1)+(1:Nat))*(32:Nat)<=(140737488355328:Nat))/\∃
 (x_3:MlX),R_1 x_3/\x_3.6+(1:Nat)<=x_1.6/\true=true/\((Fn.func (76:Nat)=Fn.func (76:Nat)/\True/\(0:Nat)=(0:Nat)/\(0:Nat)=(0:Nat)/\(0:Nat)=(0:
 Nat)/\True)/\((0:Nat)=(0:Nat)/\List.length (MlX.row y)=List.length (MlX.row y)/\True)/\(0:Nat)=(0:Nat)/\((0:Nat)=(0:Nat)/\List.length (MlX.row x_1)+(1
 :Nat)=List.length (MlX.row x_3)/\True)/\wr IntKind.i64 ((↑(MlX.k x_1):Int)+(2:Int))=(↑(MlX.k x_3):Int)/\wr IntKind.i64 (lv+(1:Int))=wr IntKind.i64 (lv+(1:
 Int))/\(↑(MlX.k y):Int)=(↑(MlX.k y):Int)/\True)/\(List.take (List.length (MlX.row x_1)) (MlX.row x_1)++ [(n32q y_1)]=MlX.row x_3/\(0:Nat)=(0:Nat))/\(MlX.row y=
 MlX.row y/\(0:Nat)=(0:Nat))/\(e32q (MlX.pad y) (MlX.pad y))/\(lv=lv/\True)/\(k=k/\True)/\(e32q x x)/\True))/\(decide ((↑(MlX.k x_1):Int)<(↑(List.length
 (MlX.row y)):Int))=false->True/\∀(y_1:List Int),y_1=mP (n32q (MlX.pad y)) (n32q (MlX.pad y))->(∃(y_2:MlX),R (false,y_2)/\y_2.6+(1:Nat)<=y.6/\true=true/\
 ((Fn.func (76:Nat)=Fn.func (76:Nat)/\True/\(0:Nat)=(0:Nat)/\(0:Nat)=(0:Nat)/\(0:Nat)=(0:Nat)/\True)
 /\False/\(0:Nat)=(0:Nat)/\wr IntKind.i64 (lv+(1:Int))=wr IntKind.i64 (lv+(1:Int))/\wr IntKind.i64 ((↑(MlX.k y):Int)+(1:Int))=(↑(MlX.k y_2):Int)/\True)
 /\(e32q y_1 (MlX.pad y_2))/\(e32q x (MlX.d y_2))/\(lv=lv/\True)/\(k=k/\True)/\True)\/∃(y_2:MlX),R (true,y_2)/\y_2.6+(1:Nat)<=y.6/\true=true/\((Fn.func
 (76:Nat)=Fn.func (76:Nat)/\True/\(0:Nat)=(0:Nat)/\(0:Nat)=(0:Nat)/\(0:Nat)=(0:Nat)/\True)/\((0:
 Nat)=(0:Nat)/\List.length (MlX.row x_1)=List.length (MlX.row y_2)/\True)/\(0:Nat)=(0:Nat)/\wr IntKind.i64 (lv+(1:Int))=wr IntKind.i64 (lv+(1:Int))/\wr
 IntKind.i64 ((↑(MlX.k y):Int)+(1:Int))=(↑(MlX.k y_2):Int)/\True)/\(e32q y_1 (MlX.pad y_2))/\(e32q x (MlX.d y_2))/\(MlX.row x_1=MlX.row y_2/\(0:Nat)=(0:Nat))
 /\(lv=lv/\True)/\(k=k/\True)/\True))/\(decide (k<(↑(List.length (MlX.row y)):Int))=false->((0:Int)<=wr IntKind.i64 (Int.tdiv (wr IntKind.i64 ((↑(List.length
 (MlX.row y)):Int)+(1:Int))) (2:Int))/\(↑(32:Nat):Int)*wr IntKind.i64 (Int.tdiv (wr IntKind.i64 ((↑(List.length (MlX.row y)):Int)+(1:Int))) (2:Int))<=
 (281474976710656:Int))/\∃(R_1:MlX->Prop),(∃(x:MlX),R_1 x/\true=true/\((Fn.func (76:Nat)=Fn.func (76:Nat)/\
 True/\(0:Nat)=(0:Nat)/\(0:Nat)=(0:Nat)/\(0:Nat)=(0:Nat)/\True)/\((0:Nat)=(0:Nat)/\List.length (MlX.row y)=List.length (MlX.row y)/\True)/\(0:
 Nat)=(0:Nat)/\((0:Nat)=(0:Nat)/\(0:Nat)=List.length (MlX.row x)/\True)/\(0:Int)=(↑(MlX.k x):Int)/\wr IntKind.i64 (lv+(1:Int))=wr IntKind.i64 (lv+(1
 :Int))/\(↑(MlX.k y):Int)=(↑(MlX.k y):Int)/\True)/\([]=MlX.row x/\(0:Nat)=(0:Nat))/\(MlX.row y=MlX.row y/\(0:Nat)=(0:Nat))/\(e32q (MlX.pad y) (MlX.pad
 y))/\(lv=lv/\True)/\(k=k/\True)/\(e32q (MlX.pad y) (MlX.pad y))/\True)/\∀(x:MlX),R_1 x->(decide ((↑(MlX.k x):Int)<(↑(List.length (MlX.row y)):Int))=true->
 ((0:Int)<=(↑(MlX.k x):Int)/\(↑(MlX.k x):Int)+(1:Int)<=(↑(List.length (MlX.row y)):Int))/\(0:Nat)+Int.toNat (↑(MlX.k x):Int)+(1:Nat)<=List.length (MlX.row
 y)/\∀(x_1:List Int),(MlX.row y)[(0:Nat)+Int.toNat (↑(MlX.k x):Int)]? =some x_1->(decide (wr IntKind.i64 ((↑(MlX.k x):Int)+(1:Int))<(↑(List.length (MlX.row y))
 :Int))=true->((0:Int)<=wr IntKind.i64 ((↑(MlX.k x):Int)+(1:Int))/\wr IntKind.i64 ((↑(MlX.k x):Int)+(1:Int))+(1:Int)<=(↑(List.length (MlX.row y)):Int))/\
 (0:Nat)+Int.toNat (wr IntKind.i64 ((↑(MlX.k x):Int)+(1:Int)))+(1:Nat)<=List.length (MlX.row y)/\∀(x_2:List Int),(MlX.row y)[(0:Nat)+Int.toNat (wr
 IntKind.i64 ((↑(MlX.k x):Int)+(1:Int)))]? =some x_2->True/\∀(y_1:List Int),y_1=mP (n32q x_1) (n32q x_2)->(List.length (MlX.row x)<=List.length (MlX.row x)/\(0:
 Nat)<=List.length (MlX.row x)/\(List.length (MlX.row x)+(1:Nat))*(32:Nat)<=(140737488355328:Nat))/\∃(x_3:MlX),R_1 x_3/\x_3.6+(1:Nat)<=x.6/\true=true/\
 ((Fn.func (76:Nat)=Fn.func (76:Nat)/\True/\(0:Nat)=(0:Nat)/\(0:Nat)=(0:Nat)/\(0:Nat)=(0:Nat)/\True)/\((0:Nat)=(0:Nat)/\List.length (MlX.row y)
 =List.length (MlX.row y)/\True)/\(0:Nat)=(0:Nat)/\((0:Nat)=(0:Nat)/\List.length (MlX.row x)+(1:Nat)=List.length (MlX.row x_3)/\True)/\wr IntKind.i64
 ((↑(MlX.k x):Int)+(2:Int))=(↑(MlX.k x_3):Int)/\wr IntKind.i64 (lv+(1:Int))=wr IntKind.i64 (lv+(1:Int))/\(↑(MlX.k y):Int)=(↑(MlX.k y):Int)/\True)/\
 (List.take (List.length (MlX.row x)) (MlX.row x)++ [(n32q y_1)]=MlX.row x_3/\(0:Nat)=(0:Nat))/\(MlX.row y=MlX.row y/\(0:Nat)=(0:Nat))/\(e32q (MlX.pad y)
 (MlX.pad y))/\(lv=lv/\True)/\(k=k/\True)/\(e32q (MlX.pad y) (MlX.pad y))/\True)/\(decide (wr IntKind.i64 ((↑(MlX.k x):Int)+(1:Int))<(↑(List.length (MlX.row y)):
 Int))=false->True/\∀(y_1:List Int),y_1=mP (n32q x_1) (n32q (MlX.pad y))->(List.length (MlX.row x)<=List.length (MlX.row x)/\(0:Nat)<=List.length (MlX.row x)/\
 (List.length (MlX.row x)+(1:Nat))*(32:Nat)<=(140737488355328:Nat))/\∃(x_2:MlX),R_1 x_2/\x_2.6+(1:Nat)<=x.6/\true=true/\((Fn.func
 (76:Nat)=Fn.func (76:Nat)/\True/\(0:Nat)=(0:Nat)/\(0:Nat)=(0:Nat)/\(0:Nat)=(0:Nat)/\True)/\((0:
 Nat)=(0:Nat)/\List.length (MlX.row y)=List.length (MlX.row y)/\True)/\(0:Nat)=(0:Nat)/\((0:Nat)=(0:Nat)/\List.length (MlX.row x)+(1:Nat)=List.length
 (MlX.row x_2)/\True)/\wr IntKind.i64 ((↑(MlX.k x):Int)+(2:Int))=(↑(MlX.k x_2):Int)/\wr IntKind.i64 (lv+(1:Int))=wr IntKind.i64 (lv+(1:Int))/\(↑(MlX.k y):
 Int)=(↑(MlX.k y):Int)/\True)/\(List.take (List.length (MlX.row x)) (MlX.row x)++ [(n32q y_1)]=MlX.row x_2/\(0:Nat)=(0:Nat))/\(MlX.row y=MlX.row y/\(0:Nat)=(0
 :Nat))/\(e32q (MlX.pad y) (MlX.pad y))/\(lv=lv/\True)/\(k=k/\True)/\(e32q (MlX.pad y) (MlX.pad y))/\True))/\(decide ((↑(MlX.k x):Int)<(↑(List.length (MlX.row y)):
 Int))=false->True/\∀(y_1:List Int),y_1=mP (n32q (MlX.pad y)) (n32q (MlX.pad y))->(∃(y_2:MlX),R (false,y_2)/\y_2.6+(1:Nat)<=y.6/\true=true/\((Fn.func
 (76:Nat)=Fn.func (76:Nat)/\True/\(0:Nat)=(0:Nat)/\(0:Nat)=(0:Nat)/\(0:Nat)=(0:Nat)/\True)/\False/\
 (0:Nat)=(0:Nat)/\wr IntKind.i64 (lv+(1:Int))=wr IntKind.i64 (lv+(1:Int))/\wr IntKind.i64 ((↑(MlX.k y):Int)+(1:Int))=(↑(MlX.k y_2):Int)/\True)/\(e32q
 y_1 (MlX.pad y_2))/\(e32q (MlX.pad y) (MlX.d y_2))/\(lv=lv/\True)/\(k=k/\True)/\True)\/∃(y_2:MlX),R (true,y_2)/\y_2.6+(1:Nat)<=y.6/\true=true/\((Fn.func
 (76:Nat)=Fn.func (76:Nat)/\True/\(0:Nat)=(0:Nat)/\(0:Nat)=(0:Nat)/\(0:Nat)=(0:Nat)/\True)/\((0:
 Nat)=(0:Nat)/\List.length (MlX.row x)=List.length (MlX.row y_2)/\True)/\(0:Nat)=(0:Nat)/\wr IntKind.i64 (lv+(1:Int))=wr IntKind.i64 (lv+(1:Int))/\wr
 IntKind.i64 ((↑(MlX.k y):Int)+(1:Int))=(↑(MlX.k y_2):Int)/\True)/\(e32q y_1 (MlX.pad y_2))/\(e32q (MlX.pad y) (MlX.d y_2))/\(MlX.row x=MlX.row y_2/\(0:Nat)=(0
 :Nat))/\(lv=lv/\True)/\(k=k/\True)/\True)))/\(((↑(MlX.k y):Int)==lv)=false->((0:Int)<=wr IntKind.i64 (Int.tdiv (wr IntKind.i64 ((↑(List.length (MlX.row y)):
 Int)+(1:Int))) (2:Int))/\(↑(32:Nat):Int)*wr IntKind.i64 (Int.tdiv (wr IntKind.i64 ((↑(List.length (MlX.row y)):Int)+(1:Int))) (2:Int))<=(281474976710656:
 Int))/\∃(R_1:MlX->Prop),(∃(x:MlX),R_1 x/\true=true/\((Fn.func (76:Nat)=Fn.func (76:Nat)/\True/\(0:Nat)=
 (0:Nat)/\(0:Nat)=(0:Nat)/\(0:Nat)=(0:Nat)/\True)/\((0:Nat)=(0:Nat)/\List.length (MlX.row y)=List.length (MlX.row y)/\True)/\(0:Nat)=(0:Nat)/\((0
 :Nat)=(0:Nat)/\(0:Nat)=List.length (MlX.row x)/\True)/\(0:Int)=(↑(MlX.k x):Int)/\wr IntKind.i64 (lv+(1:Int))=wr IntKind.i64 (lv+(1:Int))/\(↑(MlX.k y)
 :Int)=(↑(MlX.k y):Int)/\True)/\([]=MlX.row x/\(0:Nat)=(0:Nat))/\(MlX.row y=MlX.row y/\(0:Nat)=(0:Nat))/\(e32q (MlX.pad y) (MlX.pad y))/\(lv=lv/\True)
 /\(k=k/\True)/\(e32q (MlX.d y) (MlX.d y))/\True)/\∀(x:MlX),R_1 x->(decide ((↑(MlX.k x):Int)<(↑(List.length (MlX.row y)):Int))=true->((0:Int)<=(↑(MlX.k x):
 Int)/\(↑(MlX.k x):Int)+(1:Int)<=(↑(List.length (MlX.row y)):Int))/\(0:Nat)+Int.toNat (↑(MlX.k x):Int)+(1:Nat)<=List.length (MlX.row y)/\∀(x_1:List Int),
 (MlX.row y)[(0:Nat)+Int.toNat (↑(MlX.k x):Int)]? =some x_1->(decide (wr IntKind.i64 ((↑(MlX.k x):Int)+(1:Int))<(↑(List.length (MlX.row y)):Int))=true->((0:
 Int)<=wr IntKind.i64 ((↑(MlX.k x):Int)+(1:Int))/\wr IntKind.i64 ((↑(MlX.k x):Int)+(1:Int))+(1:Int)<=(↑(List.length (MlX.row y)):Int))/\(0:Nat)+Int.toNat
 (wr IntKind.i64 ((↑(MlX.k x):Int)+(1:Int)))+(1:Nat)<=List.length (MlX.row y)/\∀(x_2:List Int),(MlX.row y)[(0:Nat)+Int.toNat (wr IntKind.i64 ((↑(MlX.k x):Int)
 +(1:Int)))]? =some x_2->True/\∀(y_1:List Int),y_1=mP (n32q x_1) (n32q x_2)->(List.length (MlX.row x)<=List.length (MlX.row x)/\(0:Nat)<=List.length (MlX.row x)/\
 (List.length (MlX.row x)+(1:Nat))*(32:Nat)<=(140737488355328:Nat))/\∃(x_3:MlX),R_1 x_3/\x_3.6+(1:Nat)<=x.6/\true=true/\((Fn.func
 (76:Nat)=Fn.func (76:Nat)/\True/\(0:Nat)=(0:Nat)/\(0:Nat)=(0:Nat)/\(0:Nat)=(0:Nat)/\True)/\((0:Nat)=(0:Nat)/\
 List.length (MlX.row y)=List.length (MlX.row y)/\True)/\(0:Nat)=(0:Nat)/\((0:Nat)=(0:Nat)/\List.length (MlX.row x)+(1:Nat)=List.length (MlX.row x_3)/\True)
 /\wr IntKind.i64 ((↑(MlX.k x):Int)+(2:Int))=(↑(MlX.k x_3):Int)/\wr IntKind.i64 (lv+(1:Int))=wr IntKind.i64 (lv+(1:Int))/\(↑(MlX.k y):Int)=(↑(MlX.k y):
 Int)/\True)/\(List.take (List.length (MlX.row x)) (MlX.row x)++ [(n32q y_1)]=MlX.row x_3/\(0:Nat)=(0:Nat))/\(MlX.row y=MlX.row y/\(0:Nat)=(0:Nat))/\(e32q
 (MlX.pad y) (MlX.pad y))/\(lv=lv/\True)/\(k=k/\True)/\(e32q (MlX.d y) (MlX.d y))/\True)/\(decide (wr IntKind.i64 ((↑(MlX.k x):Int)+(1:Int))<(↑(List.length
 (MlX.row y)):Int))=false->True/\∀(y_1:List Int),y_1=mP (n32q x_1) (n32q (MlX.pad y))->(List.length (MlX.row x)<=List.length (MlX.row x)/\(0:Nat)<=List.length
 (MlX.row x)/\(List.length (MlX.row x)+(1:Nat))*(32:Nat)<=(140737488355328:Nat))/\∃(x_2:MlX),R_1 x_2/\x_2.6+(1:Nat)<=x.6/\true=true/\((Fn.func
 (76:Nat)=Fn.func (76:Nat)/\True/\(0:Nat)=(0:Nat)/\(0:Nat)=(0:Nat)/\(0:Nat)=(0:Nat)/\True)/\((0:
 Nat)=(0:Nat)/\List.length (MlX.row y)=List.length (MlX.row y)/\True)/\(0:Nat)=(0:Nat)/\((0:Nat)=(0:Nat)/\List.length (MlX.row x)+(1:Nat)=List.length
 (MlX.row x_2)/\True)/\wr IntKind.i64 ((↑(MlX.k x):Int)+(2:Int))=(↑(MlX.k x_2):Int)/\wr IntKind.i64 (lv+(1:Int))=wr IntKind.i64 (lv+(1:Int))/\(↑(MlX.k y):
 Int)=(↑(MlX.k y):Int)/\True)/\(List.take (List.length (MlX.row x)) (MlX.row x)++ [(n32q y_1)]=MlX.row x_2/\(0:Nat)=(0:Nat))/\(MlX.row y=MlX.row y/\(0:Nat)=(0
 :Nat))/\(e32q (MlX.pad y) (MlX.pad y))/\(lv=lv/\True)/\(k=k/\True)/\(e32q (MlX.d y) (MlX.d y))/\True))/\(decide ((↑(MlX.k x):Int)<(↑(List.length (MlX.row y)):
 Int))=false->True/\∀(y_1:List Int),y_1=mP (n32q (MlX.pad y)) (n32q (MlX.pad y))->(∃(y_2:MlX),R (false,y_2)/\y_2.6+(1:Nat)<=y.6/\true=true/\((Fn.func
 (76:Nat)=Fn.func (76:Nat)/\True/\(0:Nat)=(0:Nat)/\(0:Nat)=(0:Nat)/\(0:Nat)=(0:Nat)/\True)/\False/\
 (0:Nat)=(0:Nat)/\wr IntKind.i64 (lv+(1:Int))=wr IntKind.i64 (lv+(1:Int))/\wr IntKind.i64 ((↑(MlX.k y):Int)+(1:Int))=(↑(MlX.k y_2):Int)/\True)/\(e32q
 y_1 (MlX.pad y_2))/\(e32q (MlX.d y) (MlX.d y_2))/\(lv=lv/\True)/\(k=k/\True)/\True)\/∃(y_2:MlX),R (true,y_2)/\y_2.6+(1:Nat)<=y.6/\true=true/\((Fn.func
 (76:Nat)=Fn.func (76:Nat)/\True/\(0:Nat)=(0:Nat)/\(0:Nat)=(0:Nat)/\(0:Nat)=(0:Nat)/\True)/\((0:
 Nat)=(0:Nat)/\List.length (MlX.row x)=List.length (MlX.row y_2)/\True)/\(0:Nat)=(0:Nat)/\wr IntKind.i64 (lv+(1:Int))=wr IntKind.i64 (lv+(1:Int))/\wr
 IntKind.i64 ((↑(MlX.k y):Int)+(1:Int))=(↑(MlX.k y_2):Int)/\True)/\(e32q y_1 (MlX.pad y_2))/\(e32q (MlX.d y) (MlX.d y_2))/\(MlX.row x=MlX.row y_2/\(0:Nat)=(0:
 Nat))/\(lv=lv/\True)/\(k=k/\True)/\True)))/\(decide ((↑(MlX.k y):Int)<wr IntKind.i64 (lv+(1:Int)))=false->(e32q (MlX.d y) d)/\true=b/\True))))))):=by kernel_rfl
def Apl1:Fr thy->Hp thy->Nat->Ann thy:=fun T h i=>{X:=Bool×MlX,fr:=fun x=> [(2,T 2),(6,match x.1 with|true=> .sl (i+1) 0 x.2.row.length 32 none|false=> .psl Th.digs x.2.row false),(7,T 7),(14,T 14),(15,.int false .i64 x.2.k)],bl:=fun x=>(bOf (T 7),.raw (Zx x.2.pad).cells 0 none)::(bOf (capN (T 2) 0),.raw [.sl i 0 x.2.p.length 32 none] 0 none)::(i,.rows Th.digs x.2.p 0)::((match x.1 with|true=> [(i+1,.rows Th.digs x.2.row 0)]|false=> [])++blkP h (capN (T 2) 1)),src:=fun x=>(i,1002)::(match x.1 with|true=> [(i+1,6)]|false=> []),md:= [bOf (T 7),bOf (capN (T 2) 0),bOf ((Z2o h (capN (T 2) 0)).getD 0 .unk)],ih:=i+2,M:=i+80,meas:=fun x=>x.2.r,ex:=ex2,al:=al2,exOk:=Zyk,alOk:=Zyl}
def Apl2:Fr thy->Hp thy->Nat->Ann thy:=fun T h i=>{X:=MlX,fr:=fun x=> [(2,T 2),(6,T 6),(7,T 7),(9,.sl i 0 x.row.length 32 none),(10,.int false .i64 x.k),(14,T 14),(15,T 15)],bl:=fun x=>(i,.rows Th.digs x.row 0)::(blkS h (T 6)++blkP h (T 7)++blkP h (capN (T 2) 0)++blkS h ((Z2o h (capN (T 2) 0)).getD 0 .unk)++blkP h (capN (T 2) 1)),src:=fun _=> [(i,9)],md:= [bOf (T 9)],ih:=i+1,M:=i+60,meas:=fun x=>x.r}
def Fpth:Fns thy:=addL (addL FR0 39 2 Apl1 E2) 39 7 Apl2 E2
theorem Zrk (L:List (List Int)) (j:Int) (p:List (List Int)) (e:Int):Zr E2 Fpth (vc E2 Fpth 400) 22 [.psl Th.digs L false,.int false .i64 j] hp0 0 (fun r=>ret E2 (patch hp0 0 r) r.v (.tup [.psl Th.digs p false,.int false .i64 e]))=(
 (decide ((↑(List.length L):Int)>(65536:Int))=true->p= []/\(2:Int)=e/\True)/\(decide ((↑(List.length L):Int)>(65536:Int))=false->((0:Int)<=
 (↑(List.length L):Int)/\(↑(List.length L):Int)<=(65536:Int))/\∀(y:Nat),y=depM (Int.toNat (↑(List.length L):Int))->(decide (j<(0:Int))=true->p= []/\(1:
 Int)=e/\True)/\(decide (j<(0:Int))=false->(0:Int)<=(↑y:Int)/\(decide (j>=wr IntKind.i64 ((1:Int)*(2:Int)^min (Int.toNat (↑y:Int)) (IntKind.bits
 IntKind.i64)))=true->p= []/\(1:Int)=e/\True)/\(decide (j>=wr IntKind.i64 ((1:Int)*(2:Int)^min (Int.toNat (↑y:Int)) (IntKind.bits IntKind.i64)))=false->((0
 :Int)<=(↑y:Int)/\(↑(32:Nat):Int)*(↑y:Int)<=(281474976710656:Int))/\(decide ((↑y:Int)>(0:Int))=true->True/\∀(y_1:List Int),y_1=mPad->∃(R:Bool×
 MlX->Prop),((∃(y_2:MlX),R (false,y_2)/\true=true/\((Fn.func (40:Nat)=Fn.func (40:Nat)/\True/\(0:Nat)=(0:
 Nat)/\(0:Nat)=(0:Nat)/\True)/\(L=MlX.row y_2/\(false=true->false=true))/\(0:Nat)=(0:Nat)/\wr IntKind.i64 (wr IntKind.i64 ((↑y:Int)-(1:Int))+(1:
 Int))=wr IntKind.i64 (wr IntKind.i64 ((↑y:Int)-(1:Int))+(1:Int))/\(0:Int)=(↑(MlX.k y_2):Int)/\True)/\(e32q y_1 (MlX.pad y_2))/\(((0:Nat)=(0:Nat)/\(0:
 Nat)=List.length (MlX.p y_2)/\True)/\True)/\([]=MlX.p y_2/\(0:Nat)=(0:Nat))/\(j=j/\True)/\True)\/∃(y:MlX),R (true,y)/\true=true/\False)/\(∀(y_2:
 MlX),R (false,y_2)->(decide ((↑(MlX.k y_2):Int)<wr IntKind.i64 (wr IntKind.i64 ((↑y:Int)-(1:Int))+(1:Int)))=true->(0:Int)<=(↑(MlX.k y_2):Int)/\(decide
 (Zo BinOp.xor IntKind.i64 (Int.fdiv j ((2:Int)^min (Int.toNat (↑(MlX.k y_2):Int)) (IntKind.bits IntKind.i64))) (1:Int)<(↑(List.length (MlX.row y_2)):Int))=true->
 (0:Int)<=Zo BinOp.xor IntKind.i64 (Int.fdiv j ((2:Int)^min (Int.toNat (↑(MlX.k y_2):Int)) (IntKind.bits IntKind.i64))) (1:Int)/\Zo BinOp.xor IntKind.i64
 (Int.fdiv j ((2:Int)^min (Int.toNat (↑(MlX.k y_2):Int)) (IntKind.bits IntKind.i64))) (1:Int)+(1:Int)<=(↑(List.length (MlX.row y_2)):Int)/\∀(x:List Int),(MlX.row
 y_2)[Int.toNat (Zo BinOp.xor IntKind.i64 (Int.fdiv j ((2:Int)^min (Int.toNat (↑(MlX.k y_2):Int)) (IntKind.bits IntKind.i64))) (1:Int))]? =some x->(List.length (MlX.p
 y_2)<=List.length (MlX.p y_2)/\(0:Nat)<=List.length (MlX.p y_2)/\(List.length (MlX.p y_2)+(1:Nat))*(32:Nat)<=(140737488355328:Nat))/\((0:Int)<=wr IntKind.i64
 (Int.tdiv (wr IntKind.i64 ((↑(List.length (MlX.row y_2)):Int)+(1:Int))) (2:Int))/\(↑(32:Nat):Int)*wr IntKind.i64 (Int.tdiv (wr IntKind.i64 ((↑(List.length (MlX.row
 y_2)):Int)+(1:Int))) (2:Int))<=(281474976710656:Int))/\∃(R_1:MlX->Prop),(∃(x_1:MlX),R_1 x_1/\true=true/\((Fn.func (40:Nat)=
 Fn.func (40:Nat)/\True/\(0:Nat)=(0:Nat)/\(0:Nat)=(0:Nat)/\True)/\(MlX.row y_2=MlX.row y_2/\(false=true->false=true))/\(0:
 Nat)=(0:Nat)/\((0:Nat)=(0:Nat)/\(0:Nat)=List.length (MlX.row x_1)/\True)/\(0:Int)=(↑(MlX.k x_1):Int)/\wr IntKind.i64 (wr IntKind.i64 ((↑y:Int)-(1:
 Int))+(1:Int))=wr IntKind.i64 (wr IntKind.i64 ((↑y:Int)-(1:Int))+(1:Int))/\(↑(MlX.k y_2):Int)=(↑(MlX.k y_2):Int)/\True)/\([]=MlX.row x_1/\(0:Nat)=(0
 :Nat))/\(e32q (MlX.pad y_2) (MlX.pad y_2))/\(((0:Nat)=(0:Nat)/\List.length (MlX.p y_2)+(1:Nat)=List.length (MlX.p y_2)+(1:Nat)/\True)/\True)/\(List.take
 (List.length (MlX.p y_2)) (MlX.p y_2)++ [(n32q x)]=List.take (List.length (MlX.p y_2)) (MlX.p y_2)++ [(n32q x)]/\(0:Nat)=(0:Nat))/\(j=j/\True)/\True)/\∀(x_1:MlX),
 R_1 x_1->(decide ((↑(MlX.k x_1):Int)<(↑(List.length (MlX.row y_2)):Int))=true->(0:Int)<=(↑(MlX.k x_1):Int)/\(↑(MlX.k x_1):Int)+(1:Int)<=(↑(List.length
 (MlX.row y_2)):Int)/\∀(x_2:List Int),(MlX.row y_2)[Int.toNat (↑(MlX.k x_1):Int)]? =some x_2->(decide (wr IntKind.i64 ((↑(MlX.k x_1):Int)+(1:Int))<(↑(List.length
 (MlX.row y_2)):Int))=true->(0:Int)<=wr IntKind.i64 ((↑(MlX.k x_1):Int)+(1:Int))/\wr IntKind.i64 ((↑(MlX.k x_1):Int)+(1:Int))+(1:Int)<=(↑(List.length
 (MlX.row y_2)):Int)/\∀(x_3:List Int),(MlX.row y_2)[Int.toNat (wr IntKind.i64 ((↑(MlX.k x_1):Int)+(1:Int)))]? =some x_3->True/\∀(y_3:List Int),y_3=mP (n32q x_2)
 (n32q x_3)->(List.length (MlX.row x_1)<=List.length (MlX.row x_1)/\(0:Nat)<=List.length (MlX.row x_1)/\(List.length (MlX.row x_1)+(1:Nat))*(32:Nat)<=(140737488355328
 :Nat))/\∃(x_4:MlX),R_1 x_4/\x_4.6+(1:Nat)<=x_1.6/\true=true/\((Fn.func (40:Nat)=Fn.func (40:Nat)/\True/\(0:Nat)=(0:Nat)/\(0:Nat)=(0:Nat)/\
 True)/\(MlX.row y_2=MlX.row y_2/\(false=true->false=true))/\(0:Nat)=(0:Nat)/\((0:Nat)=(0:Nat)/\List.length (MlX.row x_1)+(1:Nat)=List.length (MlX.row
 x_4)/\True)/\wr IntKind.i64 ((↑(MlX.k x_1):Int)+(2:Int))=(↑(MlX.k x_4):Int)/\wr IntKind.i64 (wr IntKind.i64 ((↑y:Int)-(1:Int))+(1:Int))=wr IntKind.i64 (wr
 IntKind.i64 ((↑y:Int)-(1:Int))+(1:Int))/\(↑(MlX.k y_2):Int)=(↑(MlX.k y_2):Int)/\True)/\(List.take (List.length (MlX.row x_1)) (MlX.row x_1)++ [(n32q y_3)]=
 MlX.row x_4/\(0:Nat)=(0:Nat))/\(e32q (MlX.pad y_2) (MlX.pad y_2))/\(((0:Nat)=(0:Nat)/\List.length (MlX.p y_2)+(1:Nat)=List.length (MlX.p y_2)+(1:Nat)/\
 True)/\True)/\(List.take (List.length (MlX.p y_2)) (MlX.p y_2)++ [(n32q x)]=List.take (List.length (MlX.p y_2)) (MlX.p y_2)++ [(n32q x)]/\(0:Nat)=(0:Nat))/\(j=j/\
 True)/\True)/\(decide (wr IntKind.i64 ((↑(MlX.k x_1):Int)+(1:Int))<(↑(List.length (MlX.row y_2)):Int))=false->True/\∀(y_3:List Int),y_3=mP (n32q x_2) (n32q
 (MlX.pad y_2))->(List.length (MlX.row x_1)<=List.length (MlX.row x_1)/\(0:Nat)<=List.length (MlX.row x_1)/\(List.length (MlX.row x_1)+(1:Nat))*(32:Nat)<=
 (140737488355328:Nat))/\∃(x_3:MlX),R_1 x_3/\x_3.6+(1:Nat)<=x_1.6/\true=true/\((Fn.func (40:Nat)=Fn.func (40:Nat)/\True/\(0:Nat)=(0:Nat)/\(0:Nat)=
 (0:Nat)/\True)/\(MlX.row y_2=MlX.row y_2/\(false=true->false=true))/\(0:Nat)=(0:Nat)/\((0:Nat)=(0:Nat)/\List.length (MlX.row x_1)+(1:Nat)=
 List.length (MlX.row x_3)/\True)/\wr IntKind.i64 ((↑(MlX.k x_1):Int)+(2:Int))=(↑(MlX.k x_3):Int)/\wr IntKind.i64 (wr IntKind.i64 ((↑y:Int)-(1:Int))+(1:Int))
 =wr IntKind.i64 (wr IntKind.i64 ((↑y:Int)-(1:Int))+(1:Int))/\(↑(MlX.k y_2):Int)=(↑(MlX.k y_2):Int)/\True)/\(List.take (List.length (MlX.row x_1)) (MlX.row x_1)
 ++ [(n32q y_3)]=MlX.row x_3/\(0:Nat)=(0:Nat))/\(e32q (MlX.pad y_2) (MlX.pad y_2))/\(((0:Nat)=(0:Nat)/\List.length (MlX.p y_2)+(1:Nat)=List.length (MlX.p y_2)
 +(1:Nat)/\True)/\True)/\(List.take (List.length (MlX.p y_2)) (MlX.p y_2)++ [(n32q x)]=List.take (List.length (MlX.p y_2)) (MlX.p y_2)++ [(n32q x)]/\(0:Nat)=(0:Nat))
 /\(j=j/\True)/\True))/\(decide ((↑(MlX.k x_1):Int)<(↑(List.length (MlX.row y_2)):Int))=false->True/\∀(y_3:List Int),y_3=mP (n32q (MlX.pad y_2)) (n32q (MlX.pad
 y_2))->(∃(y_4:MlX),R (false,y_4)/\y_4.6+(1:Nat)<=y_2.6/\true=true/\((Fn.func (40:Nat)=Fn.func (40:Nat)/\
 True/\(0:Nat)=(0:Nat)/\(0:Nat)=(0:Nat)/\True)/\False/\(0:Nat)=(0:Nat)/\wr IntKind.i64 (wr IntKind.i64 ((↑y:Int)-(1:Int))+(1:Int))=wr IntKind.i64
 (wr IntKind.i64 ((↑y:Int)-(1:Int))+(1:Int))/\wr IntKind.i64 ((↑(MlX.k y_2):Int)+(1:Int))=(↑(MlX.k y_4):Int)/\True)/\(e32q y_3 (MlX.pad y_4))/\(((0:Nat)=
 (0:Nat)/\List.length (MlX.p y_2)+(1:Nat)=List.length (MlX.p y_4)/\True)/\True)/\(List.take (List.length (MlX.p y_2)) (MlX.p y_2)++ [(n32q x)]=MlX.p y_4/\(0:Nat)=
 (0:Nat))/\(j=j/\True)/\True)\/∃(y_4:MlX),R (true,y_4)/\y_4.6+(1:Nat)<=y_2.6/\true=true/\((Fn.func (40:Nat)=Fn.func
 (40:Nat)/\True/\(0:Nat)=(0:Nat)/\(0:Nat)=(0:Nat)/\True)/\((0:Nat)=(0:Nat)/\List.length (MlX.row x_1)=List.length (MlX.row y_4)
 /\True)/\(0:Nat)=(0:Nat)/\wr IntKind.i64 (wr IntKind.i64 ((↑y:Int)-(1:Int))+(1:Int))=wr IntKind.i64 (wr IntKind.i64 ((↑y:Int)-(1:Int))+(1:Int))/\wr
 IntKind.i64 ((↑(MlX.k y_2):Int)+(1:Int))=(↑(MlX.k y_4):Int)/\True)/\(e32q y_3 (MlX.pad y_4))/\(((0:Nat)=(0:Nat)/\List.length (MlX.p y_2)+(1:Nat)=
 List.length (MlX.p y_4)/\True)/\True)/\(List.take (List.length (MlX.p y_2)) (MlX.p y_2)++ [(n32q x)]=MlX.p y_4/\(0:Nat)=(0:Nat))/\(MlX.row x_1=MlX.row y_4/\(0:
 Nat)=(0:Nat))/\(j=j/\True)/\True))/\(decide (Zo BinOp.xor IntKind.i64 (Int.fdiv j ((2:Int)^min (Int.toNat (↑(MlX.k y_2):Int)) (IntKind.bits IntKind.i64))) (1:
 Int)<(↑(List.length (MlX.row y_2)):Int))=false->(List.length (MlX.p y_2)<=List.length (MlX.p y_2)/\(0:Nat)<=List.length (MlX.p y_2)/\(List.length (MlX.p y_2)+(1:
 Nat))*(32:Nat)<=(140737488355328:Nat))/\((0:Int)<=wr IntKind.i64 (Int.tdiv (wr IntKind.i64 ((↑(List.length (MlX.row y_2)):Int)+(1:Int))) (2:Int))/\(↑(32:Nat)
 :Int)*wr IntKind.i64 (Int.tdiv (wr IntKind.i64 ((↑(List.length (MlX.row y_2)):Int)+(1:Int))) (2:Int))<=(281474976710656:Int))/\∃(R_1:MlX->Prop),(∃(x:MlX),
 R_1 x/\true=true/\((Fn.func (40:Nat)=Fn.func (40:Nat)/\True/\(0:Nat)=(0:Nat)/\(0:Nat)=(0:Nat)/\True)/\
 (MlX.row y_2=MlX.row y_2/\(false=true->false=true))/\(0:Nat)=(0:Nat)/\((0:Nat)=(0:Nat)/\(0:Nat)=List.length (MlX.row x)/\True)/\(0:Int)=(↑(MlX.k x)
 :Int)/\wr IntKind.i64 (wr IntKind.i64 ((↑y:Int)-(1:Int))+(1:Int))=wr IntKind.i64 (wr IntKind.i64 ((↑y:Int)-(1:Int))+(1:Int))/\(↑(MlX.k y_2):Int)=
 (↑(MlX.k y_2):Int)/\True)/\([]=MlX.row x/\(0:Nat)=(0:Nat))/\(e32q (MlX.pad y_2) (MlX.pad y_2))/\(((0:Nat)=(0:Nat)/\List.length (MlX.p y_2)+(1:Nat)=
 List.length (MlX.p y_2)+(1:Nat)/\True)/\True)/\(List.take (List.length (MlX.p y_2)) (MlX.p y_2)++ [(n32q (MlX.pad y_2))]=List.take (List.length (MlX.p y_2)) (MlX.p y_2)++
 [(n32q (MlX.pad y_2))]/\(0:Nat)=(0:Nat))/\(j=j/\True)/\True)/\∀(x:MlX),R_1 x->(decide ((↑(MlX.k x):Int)<(↑(List.length (MlX.row y_2)):Int))=true->(0:
 Int)<=(↑(MlX.k x):Int)/\(↑(MlX.k x):Int)+(1:Int)<=(↑(List.length (MlX.row y_2)):Int)/\∀(x_1:List Int),(MlX.row y_2)[Int.toNat (↑(MlX.k x):Int)]? =some x_1->
 (decide (wr IntKind.i64 ((↑(MlX.k x):Int)+(1:Int))<(↑(List.length (MlX.row y_2)):Int))=true->(0:Int)<=wr IntKind.i64 ((↑(MlX.k x):Int)+(1:Int))/\wr
 IntKind.i64 ((↑(MlX.k x):Int)+(1:Int))+(1:Int)<=(↑(List.length (MlX.row y_2)):Int)/\∀(x_2:List Int),(MlX.row y_2)[Int.toNat (wr IntKind.i64 ((↑(MlX.k x):Int)+
 (1:Int)))]? =some x_2->True/\∀(y_3:List Int),y_3=mP (n32q x_1) (n32q x_2)->(List.length (MlX.row x)<=List.length (MlX.row x)/\(0:Nat)<=List.length (MlX.row x)/\
 (List.length (MlX.row x)+(1:Nat))*(32:Nat)<=(140737488355328:Nat))/\∃(x_3:MlX),R_1 x_3/\x_3.6+(1:Nat)<=x.6/\true=true/\((Fn.func (40:Nat)=Fn.func (40
 :Nat)/\True/\(0:Nat)=(0:Nat)/\(0:Nat)=(0:Nat)/\True)/\(MlX.row y_2=MlX.row y_2/\(false=true->false=true))/\(0:Nat)=(0:Nat)/\((0:Nat)=(0:Nat)
 /\List.length (MlX.row x)+(1:Nat)=List.length (MlX.row x_3)/\True)/\wr IntKind.i64 ((↑(MlX.k x):Int)+(2:Int))=(↑(MlX.k x_3):Int)/\wr IntKind.i64 (wr IntKind.i64
 ((↑y:Int)-(1:Int))+(1:Int))=wr IntKind.i64 (wr IntKind.i64 ((↑y:Int)-(1:Int))+(1:Int))/\(↑(MlX.k y_2):Int)=(↑(MlX.k y_2):Int)/\True)/\(List.take
 (List.length (MlX.row x)) (MlX.row x)++ [(n32q y_3)]=MlX.row x_3/\(0:Nat)=(0:Nat))/\(e32q (MlX.pad y_2) (MlX.pad y_2))/\(((0:Nat)=(0:Nat)/\List.length (MlX.p y_2)
 +(1:Nat)=List.length (MlX.p y_2)+(1:Nat)/\True)/\True)/\(List.take (List.length (MlX.p y_2)) (MlX.p y_2)++ [(n32q (MlX.pad y_2))]=List.take (List.length (MlX.p y_2))
 (MlX.p y_2)++ [(n32q (MlX.pad y_2))]/\(0:Nat)=(0:Nat))/\(j=j/\True)/\True)/\(decide (wr IntKind.i64 ((↑(MlX.k x):Int)+(1:Int))<(↑(List.length (MlX.row y_2)):
 Int))=false->True/\∀(y_3:List Int),y_3=mP (n32q x_1) (n32q (MlX.pad y_2))->(List.length (MlX.row x)<=List.length (MlX.row x)/\(0:Nat)<=List.length (MlX.row x)/\
 (List.length (MlX.row x)+(1:Nat))*(32:Nat)<=(140737488355328:Nat))/\∃(x_2:MlX),R_1 x_2/\x_2.6+(1:Nat)<=x.6/\true=true/\((Fn.func
 (40:Nat)=Fn.func (40:Nat)/\True/\(0:Nat)=(0:Nat)/\(0:Nat)=(0:Nat)/\True)/\(MlX.row y_2=MlX.row y_2/\(false=true->false=
 true))/\(0:Nat)=(0:Nat)/\((0:Nat)=(0:Nat)/\List.length (MlX.row x)+(1:Nat)=List.length (MlX.row x_2)/\True)/\wr IntKind.i64 ((↑(MlX.k x):Int)+(2:Int))
 =(↑(MlX.k x_2):Int)/\wr IntKind.i64 (wr IntKind.i64 ((↑y:Int)-(1:Int))+(1:Int))=wr IntKind.i64 (wr IntKind.i64 ((↑y:Int)-(1:Int))+(1:Int))/\(↑(MlX.k y_2)
 :Int)=(↑(MlX.k y_2):Int)/\True)/\(List.take (List.length (MlX.row x)) (MlX.row x)++ [(n32q y_3)]=MlX.row x_2/\(0:Nat)=(0:Nat))/\(e32q (MlX.pad y_2) (MlX.pad y_2))
 /\(((0:Nat)=(0:Nat)/\List.length (MlX.p y_2)+(1:Nat)=List.length (MlX.p y_2)+(1:Nat)/\True)/\True)/\(List.take (List.length (MlX.p y_2)) (MlX.p y_2)++ [(n32q
 (MlX.pad y_2))]=List.take (List.length (MlX.p y_2)) (MlX.p y_2)++ [(n32q (MlX.pad y_2))]/\(0:Nat)=(0:Nat))/\(j=j/\True)/\True))/\(decide ((↑(MlX.k x):Int)<
 (↑(List.length (MlX.row y_2)):Int))=false->True/\∀(y_3:List Int),y_3=mP (n32q (MlX.pad y_2)) (n32q (MlX.pad y_2))->(∃(y_4:MlX),R (false,y_4)/\y_4.6+(1:Nat)<=
 y_2.6/\true=true/\((Fn.func (40:Nat)=Fn.func (40:Nat)/\True/\(0:Nat)=(0:Nat)/\(0:Nat)=(0:Nat)/\True)/\
 False/\(0:Nat)=(0:Nat)/\wr IntKind.i64 (wr IntKind.i64 ((↑y:Int)-(1:Int))+(1:Int))=wr IntKind.i64 (wr IntKind.i64 ((↑y:Int)-(1:Int))+(1:Int))/\wr
 IntKind.i64 ((↑(MlX.k y_2):Int)+(1:Int))=(↑(MlX.k y_4):Int)/\True)/\(e32q y_3 (MlX.pad y_4))/\(((0:Nat)=(0:Nat)/\List.length (MlX.p y_2)+(1:Nat)=
 List.length (MlX.p y_4)/\True)/\True)/\(List.take (List.length (MlX.p y_2)) (MlX.p y_2)++ [(n32q (MlX.pad y_2))]=MlX.p y_4/\(0:Nat)=(0:Nat))/\(j=j/\True)/\True)\/
 ∃(y_4:MlX),R (true,y_4)/\y_4.6+(1:Nat)<=y_2.6/\true=true/\((Fn.func (40:Nat)=Fn.func (40:Nat)/\True/\(0:
 Nat)=(0:Nat)/\(0:Nat)=(0:Nat)/\True)/\((0:Nat)=(0:Nat)/\List.length (MlX.row x)=List.length (MlX.row y_4)/\True)/\(0:Nat)=(0:Nat)/\wr IntKind.i64 (wr
 IntKind.i64 ((↑y:Int)-(1:Int))+(1:Int))=wr IntKind.i64 (wr IntKind.i64 ((↑y:Int)-(1:Int))+(1:Int))/\wr IntKind.i64 ((↑(MlX.k y_2):Int)+(1:Int))=
 (↑(MlX.k y_4):Int)/\True)/\(e32q y_3 (MlX.pad y_4))/\(((0:Nat)=(0:Nat)/\List.length (MlX.p y_2)+(1:Nat)=List.length (MlX.p y_4)/\True)/\True)/\(List.take
 (List.length (MlX.p y_2)) (MlX.p y_2)++ [(n32q (MlX.pad y_2))]=MlX.p y_4/\(0:Nat)=(0:Nat))/\(MlX.row x=MlX.row y_4/\(0:Nat)=(0:Nat))/\(j=j/\True)/\True)))/\
 (decide ((↑(MlX.k y_2):Int)<wr IntKind.i64 (wr IntKind.i64 ((↑y:Int)-(1:Int))+(1:Int)))=false->((0:Nat)+List.length (MlX.p y_2)<=List.length (MlX.p y_2)/\
 List.take (List.length (MlX.p y_2)) (MlX.p y_2)=p)/\(0:Int)=e/\True))/\∀(y_2:MlX),R (true,y_2)->(decide ((↑(MlX.k y_2):Int)<wr IntKind.i64 (wr IntKind.i64 ((↑y:
 Int)-(1:Int))+(1:Int)))=true->(0:Int)<=(↑(MlX.k y_2):Int)/\(decide (Zo BinOp.xor IntKind.i64 (Int.fdiv j ((2:Int)^min (Int.toNat (↑(MlX.k y_2):Int))
 (IntKind.bits IntKind.i64))) (1:Int)<(↑(List.length (MlX.row y_2)):Int))=true->((0:Int)<=Zo BinOp.xor IntKind.i64 (Int.fdiv j ((2:Int)^min (Int.toNat (↑(MlX.k
 y_2):Int)) (IntKind.bits IntKind.i64))) (1:Int)/\Zo BinOp.xor IntKind.i64 (Int.fdiv j ((2:Int)^min (Int.toNat (↑(MlX.k y_2):Int)) (IntKind.bits IntKind.i64))) (1:
 Int)+(1:Int)<=(↑(List.length (MlX.row y_2)):Int))/\(0:Nat)+Int.toNat (Zo BinOp.xor IntKind.i64 (Int.fdiv j ((2:Int)^min (Int.toNat (↑(MlX.k y_2):Int))
 (IntKind.bits IntKind.i64))) (1:Int))+(1:Nat)<=List.length (MlX.row y_2)/\∀(x:List Int),(MlX.row y_2)[(0:Nat)+Int.toNat (Zo BinOp.xor IntKind.i64 (Int.fdiv j
 ((2:Int)^min (Int.toNat (↑(MlX.k y_2):Int)) (IntKind.bits IntKind.i64))) (1:Int))]? =some x->(List.length (MlX.p y_2)<=List.length (MlX.p y_2)/\(0:Nat)<=List.length
 (MlX.p y_2)/\(List.length (MlX.p y_2)+(1:Nat))*(32:Nat)<=(140737488355328:Nat))/\((0:Int)<=wr IntKind.i64 (Int.tdiv (wr IntKind.i64 ((↑(List.length (MlX.row y_2)):
 Int)+(1:Int))) (2:Int))/\(↑(32:Nat):Int)*wr IntKind.i64 (Int.tdiv (wr IntKind.i64 ((↑(List.length (MlX.row y_2)):Int)+(1:Int))) (2:Int))<=(281474976710656:
 Int))/\∃(R_1:MlX->Prop),(∃(x_1:MlX),R_1 x_1/\true=true/\((Fn.func (40:Nat)=Fn.func (40:Nat)/\True/\(0:
 Nat)=(0:Nat)/\(0:Nat)=(0:Nat)/\True)/\((0:Nat)=(0:Nat)/\List.length (MlX.row y_2)=List.length (MlX.row y_2)/\True)/\(0:Nat)=(0:Nat)/\((0:Nat)=(0
 :Nat)/\(0:Nat)=List.length (MlX.row x_1)/\True)/\(0:Int)=(↑(MlX.k x_1):Int)/\wr IntKind.i64 (wr IntKind.i64 ((↑y:Int)-(1:Int))+(1:Int))=wr IntKind.i64
 (wr IntKind.i64 ((↑y:Int)-(1:Int))+(1:Int))/\(↑(MlX.k y_2):Int)=(↑(MlX.k y_2):Int)/\True)/\([]=MlX.row x_1/\(0:Nat)=(0:Nat))/\(MlX.row y_2=MlX.row
 y_2/\(0:Nat)=(0:Nat))/\(e32q (MlX.pad y_2) (MlX.pad y_2))/\(((0:Nat)=(0:Nat)/\List.length (MlX.p y_2)+(1:Nat)=List.length (MlX.p y_2)+(1:Nat)/\True)/\
 True)/\(List.take (List.length (MlX.p y_2)) (MlX.p y_2)++ [(n32q x)]=List.take (List.length (MlX.p y_2)) (MlX.p y_2)++ [(n32q x)]/\(0:Nat)=(0:Nat))/\(j=j/\True)/\
 True)/\∀(x_1:MlX),R_1 x_1->(decide ((↑(MlX.k x_1):Int)<(↑(List.length (MlX.row y_2)):Int))=true->((0:Int)<=(↑(MlX.k x_1):Int)/\(↑(MlX.k x_1):Int)+(1:Int)
 <=(↑(List.length (MlX.row y_2)):Int))/\(0:Nat)+Int.toNat (↑(MlX.k x_1):Int)+(1:Nat)<=List.length (MlX.row y_2)/\∀(x_2:List Int),(MlX.row y_2)[(0:Nat)+
 Int.toNat (↑(MlX.k x_1):Int)]? =some x_2->(decide (wr IntKind.i64 ((↑(MlX.k x_1):Int)+(1:Int))<(↑(List.length (MlX.row y_2)):Int))=true->((0:Int)<=wr
 IntKind.i64 ((↑(MlX.k x_1):Int)+(1:Int))/\wr IntKind.i64 ((↑(MlX.k x_1):Int)+(1:Int))+(1:Int)<=(↑(List.length (MlX.row y_2)):Int))/\(0:Nat)+Int.toNat (wr
 IntKind.i64 ((↑(MlX.k x_1):Int)+(1:Int)))+(1:Nat)<=List.length (MlX.row y_2)/\∀(x_3:List Int),(MlX.row y_2)[(0:Nat)+Int.toNat (wr IntKind.i64 ((↑(MlX.k x_1):
 Int)+(1:Int)))]? =some x_3->True/\∀(y_3:List Int),y_3=mP (n32q x_2) (n32q x_3)->(List.length (MlX.row x_1)<=List.length (MlX.row x_1)/\(0:Nat)<=List.length
 (MlX.row x_1)/\(List.length (MlX.row x_1)+(1:Nat))*(32:Nat)<=(140737488355328:Nat))/\∃(x_4:MlX),R_1 x_4/\x_4.6+(1:Nat)<=x_1.6/\true=true/\((Fn.func (40:
 Nat)=Fn.func (40:Nat)/\True/\(0:Nat)=(0:Nat)/\(0:Nat)=(0:Nat)/\True)/\((0:Nat)=(0:Nat)/\List.length (MlX.row y_2)=List.length (MlX.row y_2)/\True)/\
 (0:Nat)=(0:Nat)/\((0:Nat)=(0:Nat)/\List.length (MlX.row x_1)+(1:Nat)=List.length (MlX.row x_4)/\True)/\wr IntKind.i64 ((↑(MlX.k x_1):Int)+(2:Int))=
 (↑(MlX.k x_4):Int)/\wr IntKind.i64 (wr IntKind.i64 ((↑y:Int)-(1:Int))+(1:Int))=wr IntKind.i64 (wr IntKind.i64 ((↑y:Int)-(1:Int))+(1:Int))/\(↑(MlX.k y_2):
 Int)=(↑(MlX.k y_2):Int)/\True)/\(List.take (List.length (MlX.row x_1)) (MlX.row x_1)++ [(n32q y_3)]=MlX.row x_4/\(0:Nat)=(0:Nat))/\(MlX.row y_2=MlX.row y_2/\(0:
 Nat)=(0:Nat))/\(e32q (MlX.pad y_2) (MlX.pad y_2))/\(((0:Nat)=(0:Nat)/\List.length (MlX.p y_2)+(1:Nat)=List.length (MlX.p y_2)+(1:Nat)/\True)/\True)/\
 (List.take (List.length (MlX.p y_2)) (MlX.p y_2)++ [(n32q x)]=List.take (List.length (MlX.p y_2)) (MlX.p y_2)++ [(n32q x)]/\(0:Nat)=(0:Nat))/\(j=j/\True)/\True)/\
 (decide (wr IntKind.i64 ((↑(MlX.k x_1):Int)+(1:Int))<(↑(List.length (MlX.row y_2)):Int))=false->True/\∀(y_3:List Int),y_3=mP (n32q x_2) (n32q (MlX.pad y_2))->
 (List.length (MlX.row x_1)<=List.length (MlX.row x_1)/\(0:Nat)<=List.length (MlX.row x_1)/\(List.length (MlX.row x_1)+(1:Nat))*(32:Nat)<=(140737488355328:Nat))/\∃
 (x_3:MlX),R_1 x_3/\x_3.6+(1:Nat)<=x_1.6/\true=true/\((Fn.func (40:Nat)=Fn.func (40:Nat)/\True/\(0:Nat)=(0:Nat)/\(0:Nat)=(0:Nat)/\True)/\((0:
 Nat)=(0:Nat)/\List.length (MlX.row y_2)=List.length (MlX.row y_2)/\True)/\(0:Nat)=(0:Nat)/\((0:Nat)=(0:Nat)/\List.length (MlX.row x_1)+(1:Nat)=
 List.length (MlX.row x_3)/\True)/\wr IntKind.i64 ((↑(MlX.k x_1):Int)+(2:Int))=(↑(MlX.k x_3):Int)/\wr IntKind.i64 (wr IntKind.i64 ((↑y:Int)-(1:Int))+(1:Int))
 =wr IntKind.i64 (wr IntKind.i64 ((↑y:Int)-(1:Int))+(1:Int))/\(↑(MlX.k y_2):Int)=(↑(MlX.k y_2):Int)/\True)/\(List.take (List.length (MlX.row x_1)) (MlX.row x_1)
 ++ [(n32q y_3)]=MlX.row x_3/\(0:Nat)=(0:Nat))/\(MlX.row y_2=MlX.row y_2/\(0:Nat)=(0:Nat))/\(e32q (MlX.pad y_2) (MlX.pad y_2))/\(((0:Nat)=(0:Nat)/\
 List.length (MlX.p y_2)+(1:Nat)=List.length (MlX.p y_2)+(1:Nat)/\True)/\True)/\(List.take (List.length (MlX.p y_2)) (MlX.p y_2)++ [(n32q x)]=List.take (List.length
 (MlX.p y_2)) (MlX.p y_2)++ [(n32q x)]/\(0:Nat)=(0:Nat))/\(j=j/\True)/\True))/\(decide ((↑(MlX.k x_1):Int)<(↑(List.length (MlX.row y_2)):Int))=false->True/\∀
 (y_3:List Int),y_3=mP (n32q (MlX.pad y_2)) (n32q (MlX.pad y_2))->(∃(y_4:MlX),R (false,y_4)/\y_4.6+(1:Nat)<=y_2.6/\true=true/\((Fn.func
 (40:Nat)=Fn.func (40:Nat)/\True/\(0:Nat)=(0:Nat)/\(0:Nat)=(0:Nat)/\True)/\False/\(0:Nat)=(0:Nat)/\
 wr IntKind.i64 (wr IntKind.i64 ((↑y:Int)-(1:Int))+(1:Int))=wr IntKind.i64 (wr IntKind.i64 ((↑y:Int)-(1:Int))+(1:Int))/\wr IntKind.i64 ((↑(MlX.k y_2):Int)+
 (1:Int))=(↑(MlX.k y_4):Int)/\True)/\(e32q y_3 (MlX.pad y_4))/\(((0:Nat)=(0:Nat)/\List.length (MlX.p y_2)+(1:Nat)=List.length (MlX.p y_4)/\True)/\True)/\
 (List.take (List.length (MlX.p y_2)) (MlX.p y_2)++ [(n32q x)]=MlX.p y_4/\(0:Nat)=(0:Nat))/\(j=j/\True)/\True)\/∃(y_4:MlX),R (true,y_4)/\y_4.6+(1:Nat)<=
 y_2.6/\true=true/\((Fn.func (40:Nat)=Fn.func (40:Nat)/\True/\(0:Nat)=(0:Nat)/\(0:Nat)=(0:Nat)/\True)/\
 ((0:Nat)=(0:Nat)/\List.length (MlX.row x_1)=List.length (MlX.row y_4)/\True)/\(0:Nat)=(0:Nat)/\wr IntKind.i64 (wr IntKind.i64 ((↑y:Int)-(1:Int))+(1:
 Int))=wr IntKind.i64 (wr IntKind.i64 ((↑y:Int)-(1:Int))+(1:Int))/\wr IntKind.i64 ((↑(MlX.k y_2):Int)+(1:Int))=(↑(MlX.k y_4):Int)/\True)/\(e32q y_3 (MlX.pad
 y_4))/\(((0:Nat)=(0:Nat)/\List.length (MlX.p y_2)+(1:Nat)=List.length (MlX.p y_4)/\True)/\True)/\(List.take (List.length (MlX.p y_2)) (MlX.p y_2)++ [(n32q x)]=
 MlX.p y_4/\(0:Nat)=(0:Nat))/\(MlX.row x_1=MlX.row y_4/\(0:Nat)=(0:Nat))/\(j=j/\True)/\True))/\(decide (Zo BinOp.xor IntKind.i64 (Int.fdiv j ((2:Int)^
 min (Int.toNat (↑(MlX.k y_2):Int)) (IntKind.bits IntKind.i64))) (1:Int)<(↑(List.length (MlX.row y_2)):Int))=false->(List.length (MlX.p y_2)<=List.length (MlX.p y_2)/\
 (0:Nat)<=List.length (MlX.p y_2)/\(List.length (MlX.p y_2)+(1:Nat))*(32:Nat)<=(140737488355328:Nat))/\((0:Int)<=wr IntKind.i64 (Int.tdiv (wr IntKind.i64
 ((↑(List.length (MlX.row y_2)):Int)+(1:Int))) (2:Int))/\(↑(32:Nat):Int)*wr IntKind.i64 (Int.tdiv (wr IntKind.i64 ((↑(List.length (MlX.row y_2)):Int)+(1:Int)))
 (2:Int))<=(281474976710656:Int))/\∃(R_1:MlX->Prop),(∃(x:MlX),R_1 x/\true=true/\((Fn.func (40:Nat)=Fn.func
 (40:Nat)/\True/\(0:Nat)=(0:Nat)/\(0:Nat)=(0:Nat)/\True)/\((0:Nat)=(0:Nat)/\List.length (MlX.row y_2)=List.length (MlX.row y_2)
 /\True)/\(0:Nat)=(0:Nat)/\((0:Nat)=(0:Nat)/\(0:Nat)=List.length (MlX.row x)/\True)/\(0:Int)=(↑(MlX.k x):Int)/\wr IntKind.i64 (wr IntKind.i64 ((↑y:Int)
 -(1:Int))+(1:Int))=wr IntKind.i64 (wr IntKind.i64 ((↑y:Int)-(1:Int))+(1:Int))/\(↑(MlX.k y_2):Int)=(↑(MlX.k y_2):Int)/\True)/\([]=MlX.row x/\(0:Nat)
 =(0:Nat))/\(MlX.row y_2=MlX.row y_2/\(0:Nat)=(0:Nat))/\(e32q (MlX.pad y_2) (MlX.pad y_2))/\(((0:Nat)=(0:Nat)/\List.length (MlX.p y_2)+(1:Nat)=
 List.length (MlX.p y_2)+(1:Nat)/\True)/\True)/\(List.take (List.length (MlX.p y_2)) (MlX.p y_2)++ [(n32q (MlX.pad y_2))]=List.take (List.length (MlX.p y_2)) (MlX.p y_2)++
 [(n32q (MlX.pad y_2))]/\(0:Nat)=(0:Nat))/\(j=j/\True)/\True)/\∀(x:MlX),R_1 x->(decide ((↑(MlX.k x):Int)<(↑(List.length (MlX.row y_2)):Int))=true->((0:
 Int)<=(↑(MlX.k x):Int)/\(↑(MlX.k x):Int)+(1:Int)<=(↑(List.length (MlX.row y_2)):Int))/\(0:Nat)+Int.toNat (↑(MlX.k x):Int)+(1:Nat)<=List.length (MlX.row
 y_2)/\∀(x_1:List Int),(MlX.row y_2)[(0:Nat)+Int.toNat (↑(MlX.k x):Int)]? =some x_1->(decide (wr IntKind.i64 ((↑(MlX.k x):Int)+(1:Int))<(↑(List.length (MlX.row
 y_2)):Int))=true->((0:Int)<=wr IntKind.i64 ((↑(MlX.k x):Int)+(1:Int))/\wr IntKind.i64 ((↑(MlX.k x):Int)+(1:Int))+(1:Int)<=(↑(List.length (MlX.row y_2)):
 Int))/\(0:Nat)+Int.toNat (wr IntKind.i64 ((↑(MlX.k x):Int)+(1:Int)))+(1:Nat)<=List.length (MlX.row y_2)/\∀(x_2:List Int),(MlX.row y_2)[(0:Nat)+Int.toNat
 (wr IntKind.i64 ((↑(MlX.k x):Int)+(1:Int)))]? =some x_2->True/\∀(y_3:List Int),y_3=mP (n32q x_1) (n32q x_2)->(List.length (MlX.row x)<=List.length (MlX.row x)/\(0:
 Nat)<=List.length (MlX.row x)/\(List.length (MlX.row x)+(1:Nat))*(32:Nat)<=(140737488355328:Nat))/\∃(x_3:MlX),R_1 x_3/\x_3.6+(1:Nat)<=x.6/\true=true/\
 ((Fn.func (40:Nat)=Fn.func (40:Nat)/\True/\(0:Nat)=(0:Nat)/\(0:Nat)=(0:Nat)/\True)/\((0:Nat)=(0:Nat)/\List.length (MlX.row y_2)=List.length (MlX.row
 y_2)/\True)/\(0:Nat)=(0:Nat)/\((0:Nat)=(0:Nat)/\List.length (MlX.row x)+(1:Nat)=List.length (MlX.row x_3)/\True)/\wr IntKind.i64 ((↑(MlX.k x):Int)+(2:
 Int))=(↑(MlX.k x_3):Int)/\wr IntKind.i64 (wr IntKind.i64 ((↑y:Int)-(1:Int))+(1:Int))=wr IntKind.i64 (wr IntKind.i64 ((↑y:Int)-(1:Int))+(1:Int))/\
 (↑(MlX.k y_2):Int)=(↑(MlX.k y_2):Int)/\True)/\(List.take (List.length (MlX.row x)) (MlX.row x)++ [(n32q y_3)]=MlX.row x_3/\(0:Nat)=(0:Nat))/\(MlX.row y_2=
 MlX.row y_2/\(0:Nat)=(0:Nat))/\(e32q (MlX.pad y_2) (MlX.pad y_2))/\(((0:Nat)=(0:Nat)/\List.length (MlX.p y_2)+(1:Nat)=List.length (MlX.p y_2)+(1:Nat)/\
 True)/\True)/\(List.take (List.length (MlX.p y_2)) (MlX.p y_2)++ [(n32q (MlX.pad y_2))]=List.take (List.length (MlX.p y_2)) (MlX.p y_2)++ [(n32q (MlX.pad y_2))]/\(0:Nat)=
 (0:Nat))/\(j=j/\True)/\True)/\(decide (wr IntKind.i64 ((↑(MlX.k x):Int)+(1:Int))<(↑(List.length (MlX.row y_2)):Int))=false->True/\∀(y_3:List Int),y_3=mP
 (n32q x_1) (n32q (MlX.pad y_2))->(List.length (MlX.row x)<=List.length (MlX.row x)/\(0:Nat)<=List.length (MlX.row x)/\(List.length (MlX.row x)+(1:Nat))*(32:Nat)<=
 (140737488355328:Nat))/\∃(x_2:MlX),R_1 x_2/\x_2.6+(1:Nat)<=x.6/\true=true/\((Fn.func (40:Nat)=Fn.func (40:Nat)/\True/\(0:Nat)=
 (0:Nat)/\(0:Nat)=(0:Nat)/\True)/\((0:Nat)=(0:Nat)/\List.length (MlX.row y_2)=List.length (MlX.row y_2)/\True)/\(0:Nat)=(0:Nat)/\((0:Nat)=(0:Nat)
 /\List.length (MlX.row x)+(1:Nat)=List.length (MlX.row x_2)/\True)/\wr IntKind.i64 ((↑(MlX.k x):Int)+(2:Int))=(↑(MlX.k x_2):Int)/\wr IntKind.i64 (wr IntKind.i64
 ((↑y:Int)-(1:Int))+(1:Int))=wr IntKind.i64 (wr IntKind.i64 ((↑y:Int)-(1:Int))+(1:Int))/\(↑(MlX.k y_2):Int)=(↑(MlX.k y_2):Int)/\True)/\(List.take
 (List.length (MlX.row x)) (MlX.row x)++ [(n32q y_3)]=MlX.row x_2/\(0:Nat)=(0:Nat))/\(MlX.row y_2=MlX.row y_2/\(0:Nat)=(0:Nat))/\(e32q (MlX.pad y_2) (MlX.pad
 y_2))/\(((0:Nat)=(0:Nat)/\List.length (MlX.p y_2)+(1:Nat)=List.length (MlX.p y_2)+(1:Nat)/\True)/\True)/\(List.take (List.length (MlX.p y_2)) (MlX.p y_2)++
 [(n32q (MlX.pad y_2))]=List.take (List.length (MlX.p y_2)) (MlX.p y_2)++ [(n32q (MlX.pad y_2))]/\(0:Nat)=(0:Nat))/\(j=j/\True)/\True))/\(decide ((↑(MlX.k x):Int)<
 (↑(List.length (MlX.row y_2)):Int))=false->True/\∀(y_3:List Int),y_3=mP (n32q (MlX.pad y_2)) (n32q (MlX.pad y_2))->(∃(y_4:MlX),R (false,y_4)/\y_4.6+(1:Nat)<=
 y_2.6/\true=true/\((Fn.func (40:Nat)=Fn.func (40:Nat)/\True/\(0:Nat)=(0:Nat)/\(0:Nat)=(0:Nat)/\True)/\
 False/\(0:Nat)=(0:Nat)/\wr IntKind.i64 (wr IntKind.i64 ((↑y:Int)-(1:Int))+(1:Int))=wr IntKind.i64 (wr IntKind.i64 ((↑y:Int)-(1:Int))+(1:Int))/\wr
 IntKind.i64 ((↑(MlX.k y_2):Int)+(1:Int))=(↑(MlX.k y_4):Int)/\True)/\(e32q y_3 (MlX.pad y_4))/\(((0:Nat)=(0:Nat)/\List.length (MlX.p y_2)+(1:Nat)=
 List.length (MlX.p y_4)/\True)/\True)/\(List.take (List.length (MlX.p y_2)) (MlX.p y_2)++ [(n32q (MlX.pad y_2))]=MlX.p y_4/\(0:Nat)=(0:Nat))/\(j=j/\True)/\True)\/
 ∃(y_4:MlX),R (true,y_4)/\y_4.6+(1:Nat)<=y_2.6/\true=true/\((Fn.func (40:Nat)=Fn.func (40:Nat)/\True/\(0:
 Nat)=(0:Nat)/\(0:Nat)=(0:Nat)/\True)/\((0:Nat)=(0:Nat)/\List.length (MlX.row x)=List.length (MlX.row y_4)/\True)/\(0:Nat)=(0:Nat)/\wr IntKind.i64 (wr
 IntKind.i64 ((↑y:Int)-(1:Int))+(1:Int))=wr IntKind.i64 (wr IntKind.i64 ((↑y:Int)-(1:Int))+(1:Int))/\wr IntKind.i64 ((↑(MlX.k y_2):Int)+(1:Int))=
 (↑(MlX.k y_4):Int)/\True)/\(e32q y_3 (MlX.pad y_4))/\(((0:Nat)=(0:Nat)/\List.length (MlX.p y_2)+(1:Nat)=List.length (MlX.p y_4)/\True)/\True)/\(List.take
 (List.length (MlX.p y_2)) (MlX.p y_2)++ [(n32q (MlX.pad y_2))]=MlX.p y_4/\(0:Nat)=(0:Nat))/\(MlX.row x=MlX.row y_4/\(0:Nat)=(0:Nat))/\(j=j/\True)/\True)))/\
 (decide ((↑(MlX.k y_2):Int)<wr IntKind.i64 (wr IntKind.i64 ((↑y:Int)-(1:Int))+(1:Int)))=false->((0:Nat)+List.length (MlX.p y_2)<=List.length (MlX.p y_2)/\
 List.take (List.length (MlX.p y_2)) (MlX.p y_2)=p)/\(0:Int)=e/\True))/\(decide ((↑y:Int)>(0:Int))=false->((0:Nat)+(0:Nat)<=(0:Nat)/\List.take (0:Nat)
 []=p)/\(0:Int)=e/\True))))):=by kernel_rfl
def Ain1:Fr thy->Hp thy->Nat->Ann thy:=fun T h i=>{X:=MlX,fr:=fun x=> [(1,T 1),(3,T 3),(4,T 4),(6,T 6),(33,T 33),(34,.int false .i64 x.k)],bl:=fun x=>(bOf (T 6),.raw (Zx x.d).cells 0 none)::blkP h (T 4),src:=fun _=> [],md:= [bOf (T 6)],ih:=i,M:=i+60,meas:=fun x=>x.r}
def Finc:Fns thy:=addL FR0 24 5 Ain1 E2
def comV (c:Int×List Int):SV thy:= .agg (.int false .i64 c.1::(Zx c.2).cells)
theorem Zrl (c:Int×List Int) (j:Int) (x:List Int) (p:List (List Int)) (b:Bool):Zr E2 Finc (vc E2 Finc 400) 24 [comV c,.int false .i64 j,Zx x,.psl Th.digs p false] hp0 0 (fun r=>ret E2 (patch hp0 0 r) r.v (.bool false b))=(
 ((0:Int)<=Prod.fst c/\Prod.fst c<=(65536:Int))/\∀(y:Nat),y=depM (Int.toNat (Prod.fst c))->∃(Q:Bool->Prop),((decide ((↑y:Int)<(0:Int))=true->Q true)/\
 (decide ((↑y:Int)<(0:Int))=false->(decide (j<(0:Int))=true->Q true)/\(decide (j<(0:Int))=false->(0:Int)<=(↑y:Int)/\(decide (j>=wr IntKind.i64 ((1:
 Int)*(2:Int)^min (Int.toNat (↑y:Int)) (IntKind.bits IntKind.i64)))=true->Q true)/\(decide (j>=wr IntKind.i64 ((1:Int)*(2:Int)^min (Int.toNat (↑y:Int))
 (IntKind.bits IntKind.i64)))=false->(((↑(List.length p):Int) !=(↑y:Int))=true->Q true)/\(((↑(List.length p):Int) !=(↑y:Int))=false->Q false)))))/\(Q true->
 false=b)/\(Q false->∃(R:MlX->Prop),(∃(x_1:MlX),R x_1/\true=true/\(j=j/\(p=p/\(false=true->false=true))/\(0:Nat)=(0:Nat)/\(0:Nat)=(0:Nat)/\
 (↑(List.length p):Int)=(↑(List.length p):Int)/\(0:Int)=(↑(MlX.k x_1):Int)/\True)/\(e32q x (MlX.d x_1))/\(Prod.fst c=Prod.fst c/\e32q (Prod.snd c) (Prod.snd c))/\
 True)/\∀(x:MlX),R x->(decide ((↑(MlX.k x):Int)<(↑(List.length p):Int))=true->(0:Int)<=(↑(MlX.k x):Int)/\((Zo BinOp.and IntKind.i64 (Int.fdiv j ((2:Int)^
 min (Int.toNat (↑(MlX.k x):Int)) (IntKind.bits IntKind.i64))) (1:Int)==(0:Int))=true->(0:Int)<=(↑(MlX.k x):Int)/\(↑(MlX.k x):Int)+(1:Int)<=(↑(List.length p)
 :Int)/\∀(x_1:List Int),p[Int.toNat (↑(MlX.k x):Int)]? =some x_1->True/\∀(y:List Int),y=mP (n32q (MlX.d x)) (n32q x_1)->∃(x_2:MlX),R x_2/\x_2.6+(1:Nat)<=
 x.6/\true=true/\(j=j/\(p=p/\(false=true->false=true))/\(0:Nat)=(0:Nat)/\(0:Nat)=(0:Nat)/\(↑(List.length p):Int)=(↑(List.length p):Int)/\wr
 IntKind.i64 ((↑(MlX.k x):Int)+(1:Int))=(↑(MlX.k x_2):Int)/\True)/\(e32q y (MlX.d x_2))/\(Prod.fst c=Prod.fst c/\e32q (Prod.snd c) (Prod.snd c))/\True)/\((Zo
 BinOp.and IntKind.i64 (Int.fdiv j ((2:Int)^min (Int.toNat (↑(MlX.k x):Int)) (IntKind.bits IntKind.i64))) (1:Int)==(0:Int))=false->(0:Int)<=(↑(MlX.k x):Int)/\
 (↑(MlX.k x):Int)+(1:Int)<=(↑(List.length p):Int)/\∀(x_1:List Int),p[Int.toNat (↑(MlX.k x):Int)]? =some x_1->True/\∀(y:List Int),y=mP (n32q x_1) (n32q (MlX.d
 x))->∃(x_2:MlX),R x_2/\x_2.6+(1:Nat)<=x.6/\true=true/\(j=j/\(p=p/\(false=true->false=true))/\(0:Nat)=(0:Nat)/\(0:Nat)=(0:Nat)/\
 (↑(List.length p):Int)=(↑(List.length p):Int)/\wr IntKind.i64 ((↑(MlX.k x):Int)+(1:Int))=(↑(MlX.k x_2):Int)/\True)/\(e32q y (MlX.d x_2))/\(Prod.fst c=Prod.fst
 c/\e32q (Prod.snd c) (Prod.snd c))/\True))/\(decide ((↑(MlX.k x):Int)<(↑(List.length p):Int))=false->∀(v:Bool),v=b32q (MlX.d x) (Prod.snd c)->(v=true->true=
 b)/\(v=false->false=b)))):=by kernel_rfl
def Afi1:Fr thy->Hp thy->Nat->Ann thy:=fun T h i=>{X:=MlX,fr:=fun x=> [(0,T 0),(1,T 1),(5,T 5),(12,T 12),(13,.int false .i64 x.k)],bl:=fun x=>blkP h (T 5),src:=fun _=> [],md:= [],ih:=i,M:=i+60,meas:=fun x=>x.r}
def Ffir:Fns thy:=addL FR0 25 3 Afi1 E2
theorem Zot (a b:List (List Int)) (v:Int):Zr E2 Ffir (vc E2 Ffir 400) 25 [.psl Th.digs a false,.psl Th.digs b false] hp0 0 (fun r=>ret E2 (patch hp0 0 r) r.v (.int false .i64 v))=(
 True/\∀(y:List Int),y=mPad->∃(R:MlX->Prop),(∃(x:MlX),R x/\true=true/\((a=a/\(false=true->false=true))/\(b=b/\(false=true->false=true))/\(0:
 Nat)=(0:Nat)/\mm2 true (↑(List.length a):Int) (↑(List.length b):Int)=mm2 true (↑(List.length a):Int) (↑(List.length b):Int)/\(0:Int)=(↑(MlX.k x):Int)/\True)
 /\(e32q y y)/\True)/\∀(x:MlX),R x->(decide ((↑(MlX.k x):Int)<mm2 true (↑(List.length a):Int) (↑(List.length b):Int))=true->(decide ((↑(MlX.k x):Int)<
 (↑(List.length a):Int))=true->(0:Int)<=(↑(MlX.k x):Int)/\(↑(MlX.k x):Int)+(1:Int)<=(↑(List.length a):Int)/\∀(x_1:List Int),a[Int.toNat (↑(MlX.k x):Int)]?
 =some x_1->(decide ((↑(MlX.k x):Int)<(↑(List.length b):Int))=true->(0:Int)<=(↑(MlX.k x):Int)/\(↑(MlX.k x):Int)+(1:Int)<=(↑(List.length b):Int)/\∀(x_2:
 List Int),b[Int.toNat (↑(MlX.k x):Int)]? =some x_2->∀(v_1:Bool),v_1= !b32q x_1 x_2->(v_1=true->(↑(MlX.k x):Int)=v)/\(v_1=false->∃(x_3:MlX),R x_3/\x_3.6+
 (1:Nat)<=x.6/\true=true/\((a=a/\(false=true->false=true))/\(b=b/\(false=true->false=true))/\(0:Nat)=(0:Nat)/\mm2 true (↑(List.length a):Int)
 (↑(List.length b):Int)=mm2 true (↑(List.length a):Int) (↑(List.length b):Int)/\wr IntKind.i64 ((↑(MlX.k x):Int)+(1:Int))=(↑(MlX.k x_3):Int)/\True)/\(e32q y y)
 /\True))/\(decide ((↑(MlX.k x):Int)<(↑(List.length b):Int))=false->∀(v_1:Bool),v_1= !b32q x_1 y->(v_1=true->(↑(MlX.k x):Int)=v)/\(v_1=false->∃(x_2:
 MlX),R x_2/\x_2.6+(1:Nat)<=x.6/\true=true/\((a=a/\(false=true->false=true))/\(b=b/\(false=true->false=true))/\(0:Nat)=(0:Nat)/\mm2 true
 (↑(List.length a):Int) (↑(List.length b):Int)=mm2 true (↑(List.length a):Int) (↑(List.length b):Int)/\wr IntKind.i64 ((↑(MlX.k x):Int)+(1:Int))=(↑(MlX.k x_2):
 Int)/\True)/\(e32q y y)/\True)))/\(decide ((↑(MlX.k x):Int)<(↑(List.length a):Int))=false->(decide ((↑(MlX.k x):Int)<(↑(List.length b):Int))=true->(0:Int)<=
 (↑(MlX.k x):Int)/\(↑(MlX.k x):Int)+(1:Int)<=(↑(List.length b):Int)/\∀(x_1:List Int),b[Int.toNat (↑(MlX.k x):Int)]? =some x_1->∀(v_1:Bool),v_1= !b32q y x_1
 ->(v_1=true->(↑(MlX.k x):Int)=v)/\(v_1=false->∃(x_2:MlX),R x_2/\x_2.6+(1:Nat)<=x.6/\true=true/\((a=a/\(false=true->false=true))/\(b=b/\(false=
 true->false=true))/\(0:Nat)=(0:Nat)/\mm2 true (↑(List.length a):Int) (↑(List.length b):Int)=mm2 true (↑(List.length a):Int) (↑(List.length b):Int)/\wr
 IntKind.i64 ((↑(MlX.k x):Int)+(1:Int))=(↑(MlX.k x_2):Int)/\True)/\(e32q y y)/\True))/\(decide ((↑(MlX.k x):Int)<(↑(List.length b):Int))=false->∀(v_1:
 Bool),v_1= !b32q y y->(v_1=true->(↑(MlX.k x):Int)=v)/\(v_1=false->∃(x_1:MlX),R x_1/\x_1.6+(1:Nat)<=x.6/\true=true/\((a=a/\(false=true->false=
 true))/\(b=b/\(false=true->false=true))/\(0:Nat)=(0:Nat)/\mm2 true (↑(List.length a):Int) (↑(List.length b):Int)=mm2 true (↑(List.length a):Int)
 (↑(List.length b):Int)/\wr IntKind.i64 ((↑(MlX.k x):Int)+(1:Int))=(↑(MlX.k x_1):Int)/\True)/\(e32q y y)/\True))))/\(decide ((↑(MlX.k x):Int)<mm2 true
 (↑(List.length a):Int) (↑(List.length b):Int))=false->(-1:Int)=v)):=by kernel_rfl
def dU8E:Dc E2 Int:=dInt (E:=E2) .u8
def Z35:DcL E2 (Int×Int×Int×Int×Int×Int×Int×Int×Int×Int×Int×Int×Int×Int×Int×Int×Int×Int×Int×Int×Int×Int×Int×Int×Int×Int×Int×Int×Int×Int×Int×Int×Int×Unit):= .cons dI2 (.cons dU8E (.cons dU8E (.cons dU8E (.cons dU8E (.cons dU8E (.cons dU8E (.cons dU8E (.cons dU8E (.cons dU8E (.cons dU8E (.cons dU8E (.cons dU8E (.cons dU8E (.cons dU8E (.cons dU8E (.cons dU8E (.cons dU8E (.cons dU8E (.cons dU8E (.cons dU8E (.cons dU8E (.cons dU8E (.cons dU8E (.cons dU8E (.cons dU8E (.cons dU8E (.cons dU8E (.cons dU8E (.cons dU8E (.cons dU8E (.cons dU8E (.cons dU8E .nil))))))))))))))))))))))))))))))))
def dCom:Dc E2 (Int×List Int):=dMap (dAgg Z35) (fun a=>(a.1,[a.2.1,a.2.2.1,a.2.2.2.1,a.2.2.2.2.1,a.2.2.2.2.2.1,a.2.2.2.2.2.2.1,a.2.2.2.2.2.2.2.1,a.2.2.2.2.2.2.2.2.1,a.2.2.2.2.2.2.2.2.2.1,a.2.2.2.2.2.2.2.2.2.2.1,a.2.2.2.2.2.2.2.2.2.2.2.1,a.2.2.2.2.2.2.2.2.2.2.2.2.1,a.2.2.2.2.2.2.2.2.2.2.2.2.2.1,a.2.2.2.2.2.2.2.2.2.2.2.2.2.2.1,a.2.2.2.2.2.2.2.2.2.2.2.2.2.2.2.1,a.2.2.2.2.2.2.2.2.2.2.2.2.2.2.2.2.1,a.2.2.2.2.2.2.2.2.2.2.2.2.2.2.2.2.2.1,a.2.2.2.2.2.2.2.2.2.2.2.2.2.2.2.2.2.2.1,a.2.2.2.2.2.2.2.2.2.2.2.2.2.2.2.2.2.2.2.1,a.2.2.2.2.2.2.2.2.2.2.2.2.2.2.2.2.2.2.2.2.1,a.2.2.2.2.2.2.2.2.2.2.2.2.2.2.2.2.2.2.2.2.2.1,a.2.2.2.2.2.2.2.2.2.2.2.2.2.2.2.2.2.2.2.2.2.2.1,a.2.2.2.2.2.2.2.2.2.2.2.2.2.2.2.2.2.2.2.2.2.2.2.1,a.2.2.2.2.2.2.2.2.2.2.2.2.2.2.2.2.2.2.2.2.2.2.2.2.1,a.2.2.2.2.2.2.2.2.2.2.2.2.2.2.2.2.2.2.2.2.2.2.2.2.2.1,a.2.2.2.2.2.2.2.2.2.2.2.2.2.2.2.2.2.2.2.2.2.2.2.2.2.2.1,a.2.2.2.2.2.2.2.2.2.2.2.2.2.2.2.2.2.2.2.2.2.2.2.2.2.2.2.1,a.2.2.2.2.2.2.2.2.2.2.2.2.2.2.2.2.2.2.2.2.2.2.2.2.2.2.2.2.1,a.2.2.2.2.2.2.2.2.2.2.2.2.2.2.2.2.2.2.2.2.2.2.2.2.2.2.2.2.2.1,a.2.2.2.2.2.2.2.2.2.2.2.2.2.2.2.2.2.2.2.2.2.2.2.2.2.2.2.2.2.2.1,a.2.2.2.2.2.2.2.2.2.2.2.2.2.2.2.2.2.2.2.2.2.2.2.2.2.2.2.2.2.2.2.1,a.2.2.2.2.2.2.2.2.2.2.2.2.2.2.2.2.2.2.2.2.2.2.2.2.2.2.2.2.2.2.2.2.1])) comV (fun a=>rfl)
theorem Zzq:FnsOk E2 Fnod:=Z3 Zh (Z3 Zh Zmq _ _ _) _ _ _
theorem Zzr:FnsOk E2 Fpth:=Z3 Zh (Z3 Zh Zmq _ _ _) _ _ _
theorem Zzs:FnsOk E2 Finc:=Z3 Zh Zmq _ _ _
theorem Zzt:FnsOk E2 Ffir:=Z3 Zh Zmq _ _ _
end
section
open Go Go.RowKit
theorem Ys (x:List Int):n32q x=n32 x:=rfl
theorem z32n:z32q []:=by
 unfold z32q
 repeat' (first|exact rfl|exact trivial|apply And.intro)
theorem Z28 {a b:List Int} (h:n32 a=n32 b):e32q a b:=by
 have e:=Zuj a b
 rw [decide_eq_true h] at e
 simp only [Bool.and_eq_true,beq_iff_eq] at e
 exact e
theorem Zyx (x y:List Int):b32q x y=decide (n32 x=n32 y):=Zuj x y
theorem Zk2 (L:List (List Int)):∀j,(mRow mP mPad L j).length<=L.length
 |0=>Nat.le_refl _
 |j+1=>by
  show (X8 mP (mRow mP mPad L j) (mPd mP mPad j)).length<=_
  rw [Ud]
  have:=Zk2 L j
  omega
theorem Zpt {row:List (List Int)} {p u z:List Int} {m:Nat} (hu:row[2*m]? =some u) (hz:z=mP u (mAt row (2*m+1) p)):(X8 mP row p).take m++ [n32 z]=(X8 mP row p).take (m+1):=by
 have hlt:=(gA9.1 hu).1
 have h:(X8 mP row p)[m]? =some (n32 z):=by
  rw [Zbg,if_pos (by omega),hz,Z3n]
  unfold mAt
  rw [hu]
  rfl
 rw [List.take_add_one,h]
 rfl
theorem Zbx {row:List (List Int)} {pad:List Int} {A0:MlX->Prop} {A1:MlX->MlX->List Int->Prop} {FIN:MlX->List Int->Prop} (hl:row.length<=65536) (h0:∀x:MlX,x.k=0->x.row= []->A0 x)
 (h1:∀(x x':MlX) (z:List Int),x'.k=x.k+2->wr .i64 ((x.k:Int)+2)=(x'.k:Int)->x'.row=x.row++ [n32 z]->A1 x x' z) (hf:∀(x:MlX) (z:List Int),x.row=X8 mP row pad->z=mP pad pad->FIN x z):
 ∃(R:MlX->Prop),(∃x,R x/\true=true/\A0 x)/\∀x,R x->(decide ((x.k:Int)<(row.length:Int))=true->(0:Int)<=(x.k:Int)/\(x.k:Int)+1<=(row.length:Int)/\∀u,row[Int.toNat (x.k:Int)]? =some u->
  (decide (wr .i64 ((x.k:Int)+1)<(row.length:Int))=true->(0:Int)<=wr .i64 ((x.k:Int)+1)/\wr .i64 ((x.k:Int)+1)+1<=(row.length:Int)/\∀v,row[Int.toNat (wr .i64 ((x.k:Int)+1))]? =some v->True/\∀z,z=mP (n32q u) (n32q v)->(x.row.length<=x.row.length/\0<=x.row.length/\(x.row.length+1)*32<=140737488355328)/\∃x':MlX,R x'/\x'.6+1<=x.6/\true=true/\A1 x x' z)/\
  (decide (wr .i64 ((x.k:Int)+1)<(row.length:Int))=false->True/\∀z,z=mP (n32q u) (n32q pad)->(x.row.length<=x.row.length/\0<=x.row.length/\(x.row.length+1)*32<=140737488355328)/\∃x':MlX,R x'/\x'.6+1<=x.6/\true=true/\A1 x x' z))/\
  (decide ((x.k:Int)<(row.length:Int))=false->True/\∀z,z=mP (n32q pad) (n32q pad)->FIN x z):=by
 refine ⟨fun x=>∃m,x.k=2*m/\m<=(row.length+1)/2/\x.row=(X8 mP row pad).take m/\x.r=(row.length+1)/2-m,⟨⟨[],[],[],[],0,(row.length+1)/2⟩,⟨0,rfl,Nat.zero_le _,rfl,rfl⟩,rfl,h0 _ rfl rfl⟩,?_⟩
 rintro x ⟨m,hk,hm,hrow,hr⟩
 have hlen:x.row.length=m:=by rw [hrow,List.length_take,Ud];omega
 have wk1:wr .i64 ((x.k:Int)+1)=(x.k:Int)+1:=wr64 (by omega) (by omega)
 rw [wk1]
 have step:∀(u z:List Int),(x.k:Int)<(row.length:Int)->row[2*m]? =some u->z=mP u (mAt row (2*m+1) pad)->(x.row.length<=x.row.length/\0<=x.row.length/\(x.row.length+1)*32<=140737488355328)/\∃x':MlX,(∃m,x'.k=2*m/\m<=(row.length+1)/2/\x'.row=(X8 mP row pad).take m/\x'.r=(row.length+1)/2-m)/\x'.6+1<=x.6/\true=true/\A1 x x' z:=by
  intro u z hlt hu hz
  have hs:x.row++ [n32 z]=(X8 mP row pad).take (m+1):=by rw [hrow];exact Zpt hu hz
  exact ⟨⟨Nat.le_refl _,Nat.zero_le _,by omega⟩,⟨x.row++ [n32 z],[],[],[],x.k+2,(row.length+1)/2-(m+1)⟩,⟨m+1,by show x.k+2=2*(m+1);omega,by omega,hs,rfl⟩,by show (row.length+1)/2-(m+1)+1<=x.r;omega,rfl,h1 _ _ _ rfl (by rw [wr64 (by omega) (by omega)];rfl) rfl⟩
 refine ⟨fun d1=> ?_,fun d1=>⟨trivial,fun z hz=> ?_⟩⟩
 · have d1:=of_decide_eq_true d1
   refine ⟨by omega,by omega,fun u hu=> ?_⟩
   have hu:row[2*m]? =some u:=by rw [<-hk];simpa using hu
   refine ⟨fun d2=> ?_,fun d2=>⟨trivial,fun z hz=> ?_⟩⟩
   · have d2:=of_decide_eq_true d2
     refine ⟨by omega,by omega,fun v hv=>⟨trivial,fun z hz=> ?_⟩⟩
     have e:Int.toNat ((x.k:Int)+1)=2*m+1:=by omega
     rw [e] at hv
     rw [Ys,Ys,mP_l,mP_r] at hz
     exact step u z d1 hu (by rw [hz];unfold mAt;rw [hv];rfl)
   · have d2:=of_decide_eq_false d2
     rw [Ys,Ys,mP_l,mP_r] at hz
     exact step u z d1 hu (by rw [hz];unfold mAt;rw [List.getElem?_eq_none (by omega)];rfl)
 · have d1:=of_decide_eq_false d1
   rw [Ys,mP_l,mP_r] at hz
   refine hf x z ?_ hz
   rw [hrow]
   exact List.take_of_length_le (by rw [Ud];omega)
theorem Za3 {row:List (List Int)} {pad:List Int} {A0:MlX->Prop} {A1:MlX->MlX->List Int->Prop} {FIN:MlX->List Int->Prop} (hl:row.length<=65536) (h0:∀x:MlX,x.k=0->x.row= []->A0 x)
 (h1:∀(x x':MlX) (z:List Int),x'.k=x.k+2->wr .i64 ((x.k:Int)+2)=(x'.k:Int)->x'.row=x.row++ [n32 z]->A1 x x' z) (hf:∀(x:MlX) (z:List Int),x.row=X8 mP row pad->z=mP pad pad->FIN x z):
 ∃(R:MlX->Prop),(∃x,R x/\true=true/\A0 x)/\∀x,R x->(decide ((x.k:Int)<(row.length:Int))=true->((0:Int)<=(x.k:Int)/\(x.k:Int)+1<=(row.length:Int))/\0+Int.toNat (x.k:Int)+1<=row.length/\∀u,row[0+Int.toNat (x.k:Int)]? =some u->
  (decide (wr .i64 ((x.k:Int)+1)<(row.length:Int))=true->((0:Int)<=wr .i64 ((x.k:Int)+1)/\wr .i64 ((x.k:Int)+1)+1<=(row.length:Int))/\0+Int.toNat (wr .i64 ((x.k:Int)+1))+1<=row.length/\∀v,row[0+Int.toNat (wr .i64 ((x.k:Int)+1))]? =some v->True/\∀z,z=mP (n32q u) (n32q v)->(x.row.length<=x.row.length/\0<=x.row.length/\(x.row.length+1)*32<=140737488355328)/\∃x':MlX,R x'/\x'.6+1<=x.6/\true=true/\A1 x x' z)/\
  (decide (wr .i64 ((x.k:Int)+1)<(row.length:Int))=false->True/\∀z,z=mP (n32q u) (n32q pad)->(x.row.length<=x.row.length/\0<=x.row.length/\(x.row.length+1)*32<=140737488355328)/\∃x':MlX,R x'/\x'.6+1<=x.6/\true=true/\A1 x x' z))/\
  (decide ((x.k:Int)<(row.length:Int))=false->True/\∀z,z=mP (n32q pad) (n32q pad)->FIN x z):=by
 obtain ⟨R,r0,r1⟩:=Zbx (A0:=A0) (A1:=A1) (FIN:=FIN) hl h0 h1 hf
 refine ⟨R,r0,fun x hx=>⟨fun d=> ?_,(r1 x hx).2⟩⟩
 obtain ⟨a,b,f⟩:=(r1 x hx).1 d
 refine ⟨⟨a,b⟩,by omega,fun u hu=> ?_⟩
 obtain ⟨g1,g2⟩:=f u (by simpa using hu)
 refine ⟨fun d2=> ?_,g2⟩
 obtain ⟨c1,c2,c3⟩:=g1 d2
 exact ⟨⟨c1,c2⟩,by omega,fun v hv=>c3 v (by simpa using hv)⟩
theorem Zth (L:List (List Int)) (n:Nat) (hL:L.length<=65536) (hn:n<=16):PureC E2 59 [.psl Th.digs L false,.int false .i64 (n:Int),.int false .i64 0] (.tup [Zx (Zcr mP mPad L n),.bool false true]):=by
 refine Za Zh (Zg Zh Zzq 400) ?_
 rw [Zrj]
 have w1:wr .i64 ((n:Int)+1)=(n:Int)+1:=wr64 (by omega) (by omega)
 have w2:wr .i64 (16-(n:Int))=16-(n:Int):=wr64 (by omega) (by omega)
 rw [w1,w2]
 have hp:(0:Int)<wr .i64 (1*2^min (Int.toNat (16-(n:Int))) (IntKind.bits .i64)):=by
  obtain ⟨q,hq,hq2⟩:∃q:Nat,min (Int.toNat (16-(n:Int))) (IntKind.bits .i64)=q/\q<=16:=⟨_,rfl,by show min _ 64<=16;omega⟩
  rw [hq]
  have e:(1*2^q:Int)=((2^q:Nat):Int):=by simp
  have h1:=Nat.two_pow_pos q
  have h2:2^q<=2^16:=Nat.pow_le_pow_right (by decide) hq2
  rw [e,wr64 (by omega) (by omega)]
  omega
 refine ⟨fun h=>absurd (of_decide_eq_true h) (by omega),fun _=>⟨fun h=>absurd (of_decide_eq_true h) (by omega),fun _=>⟨fun h=>absurd (of_decide_eq_true h) (by omega),fun _=>⟨fun h=>absurd (of_decide_eq_true h) (by omega),fun _=>⟨by omega,fun h=>absurd (of_decide_eq_true h) (by omega),fun _=>⟨trivial,fun P0 hP0=> ?_⟩⟩⟩⟩⟩⟩
 subst hP0
 refine ⟨fun x=>x.2.k<=n+1/\(x.1=false->x.2.k=0)/\x.2.row=mRow mP mPad L x.2.k/\x.2.pad=mPd mP mPad x.2.k/\(x.2.k=n+1->n32 x.2.d=n32 (Zcr mP mPad L n))/\x.2.r=n+1-x.2.k,
  .inl ⟨⟨L,mPad,[],[],0,n+1⟩,⟨Nat.zero_le _,fun _=>rfl,rfl,rfl,fun h=>absurd h (by simp),rfl⟩,rfl,?_⟩,fun y hy=> ?_,fun y hy=> ?_⟩
 · refine ⟨⟨by repeat' (first|exact rfl|exact trivial|exact fun h=>h|exact e32r _|apply And.intro),⟨rfl,fun h=>h⟩,by repeat' (first|exact rfl|exact trivial|exact fun h=>h|exact e32r _|apply And.intro),rfl,rfl,trivial⟩,e32r _,z32n,by repeat' (first|exact rfl|exact trivial|exact fun h=>h|exact e32r _|apply And.intro)⟩
 all_goals
  obtain ⟨k1,k2,k3,k4,k5,k6⟩:=hy
  dsimp only at k1 k2 k3 k4 k5 k6
  have hyl:y.row.length<=65536:=by rw [k3];exact Nat.le_trans (Zk2 L _) hL
  have wk:wr .i64 ((y.k:Int)+1)=(y.k:Int)+1:=wr64 (by omega) (by omega)
  have wtd:wr .i64 (Int.tdiv (wr .i64 ((y.row.length:Int)+1)) 2)=((y.row.length:Int)+1)/2:=by
   rw [wr64 (n:=(y.row.length:Int)+1) (by omega) (by omega),Int.tdiv_eq_ediv_of_nonneg (by omega),wr64 (by omega) (by omega)]
  rw [wk,wtd]
  have root:∀d:List Int,(y.k=n->d=mAt y.row 0 y.pad)->y.k+1=n+1->n32 d=n32 (Zcr mP mPad L n):=by
   intro d hd he
   have:y.k=n:=by omega
   rw [hd this]
   unfold Zcr
   rw [<-this,k3,k4]
  refine ⟨fun h=>⟨fun h2=>⟨fun h3=> ?_,fun h3=>⟨by omega,?_⟩⟩,fun h2=>⟨by omega,?_⟩⟩,fun h=> ?_⟩
  · have h:=of_decide_eq_true h
    have h2:y.k=n:=by have:=beq_iff_eq.1 h2;omega
    have h3:=of_decide_eq_true h3
    first
     |refine ⟨by omega,by omega,fun x0 hx0=>⟨by omega,?_⟩⟩
     |refine ⟨⟨by omega,by omega⟩,by omega,fun x0 hx0=>⟨by omega,?_⟩⟩
    all_goals
     have hx0:y.row[0]? =some x0:=by simpa using hx0
     first
      |refine Zbx (row:=y.row) (pad:=y.pad) hyl (fun x e1 e2=> ?_) (fun x x' z e1 e2 e3=> ?_) fun x z hfull hz=> ?_
      |refine Za3 (row:=y.row) (pad:=y.pad) hyl (fun x e1 e2=> ?_) (fun x x' z e1 e2 e3=> ?_) fun x z hfull hz=> ?_
     · rw [e1,e2]
       repeat' (first|exact rfl|exact trivial|exact fun h=>h|exact e32r _|apply And.intro)
     · rw [e2,e3,List.take_length,Ys]
       repeat' (first|exact rfl|exact trivial|exact fun h=>h|exact e32r _|apply And.intro)
       all_goals simp
     · exact .inr ⟨⟨x.row,z,x0,[],y.k+1,n+1-(y.k+1)⟩,⟨by show y.k+1<=n+1;omega,fun h=>(by cases h),by show x.row=X8 mP (mRow mP mPad L y.k) (mPd mP mPad y.k);rw [hfull,k3,k4],by show z=mP (mPd mP mPad y.k) (mPd mP mPad y.k);rw [hz,k4],(root x0 fun _=>by unfold mAt;rw [hx0];rfl),rfl⟩,by show n+1-(y.k+1)+1<=y.r;omega,rfl,by repeat' (first|exact rfl|exact trivial|exact fun h=>h|exact e32r _|apply And.intro)⟩
  · have h:=of_decide_eq_true h
    have h3:=of_decide_eq_false h3
    first
     |refine Zbx (row:=y.row) (pad:=y.pad) hyl (fun x e1 e2=> ?_) (fun x x' z e1 e2 e3=> ?_) fun x z hfull hz=> ?_
     |refine Za3 (row:=y.row) (pad:=y.pad) hyl (fun x e1 e2=> ?_) (fun x x' z e1 e2 e3=> ?_) fun x z hfull hz=> ?_
    · rw [e1,e2]
      repeat' (first|exact rfl|exact trivial|exact fun h=>h|exact e32r _|apply And.intro)
    · rw [e2,e3,List.take_length,Ys]
      repeat' (first|exact rfl|exact trivial|exact fun h=>h|exact e32r _|apply And.intro)
      all_goals simp
    · exact .inr ⟨⟨x.row,z,y.pad,[],y.k+1,n+1-(y.k+1)⟩,⟨by show y.k+1<=n+1;omega,fun h=>(by cases h),by show x.row=X8 mP (mRow mP mPad L y.k) (mPd mP mPad y.k);rw [hfull,k3,k4],by show z=mP (mPd mP mPad y.k) (mPd mP mPad y.k);rw [hz,k4],(root y.pad fun _=>by unfold mAt;rw [List.getElem?_eq_none (by omega)];rfl),rfl⟩,by show n+1-(y.k+1)+1<=y.r;omega,rfl,by repeat' (first|exact rfl|exact trivial|exact fun h=>h|exact e32r _|apply And.intro)⟩
  · have h:=of_decide_eq_true h
    have h2:¬(y.k=n):=by have:=beq_eq_false_iff_ne.1 h2;omega
    first
     |refine Zbx (row:=y.row) (pad:=y.pad) hyl (fun x e1 e2=> ?_) (fun x x' z e1 e2 e3=> ?_) fun x z hfull hz=> ?_
     |refine Za3 (row:=y.row) (pad:=y.pad) hyl (fun x e1 e2=> ?_) (fun x x' z e1 e2 e3=> ?_) fun x z hfull hz=> ?_
    · rw [e1,e2]
      repeat' (first|exact rfl|exact trivial|exact fun h=>h|exact e32r _|apply And.intro)
    · rw [e2,e3,List.take_length,Ys]
      repeat' (first|exact rfl|exact trivial|exact fun h=>h|exact e32r _|apply And.intro)
      all_goals simp
    · exact .inr ⟨⟨x.row,z,y.d,[],y.k+1,n+1-(y.k+1)⟩,⟨by show y.k+1<=n+1;omega,fun h=>(by cases h),by show x.row=X8 mP (mRow mP mPad L y.k) (mPd mP mPad y.k);rw [hfull,k3,k4],by show z=mP (mPd mP mPad y.k) (mPd mP mPad y.k);rw [hz,k4],(root y.d fun hh=>absurd hh h2),rfl⟩,by show n+1-(y.k+1)+1<=y.r;omega,rfl,by repeat' (first|exact rfl|exact trivial|exact fun h=>h|exact e32r _|apply And.intro)⟩
  · have h:=of_decide_eq_false h
    exact ⟨Z28 (k5 (by omega)),rfl,trivial⟩
end
section
open Go Go.RowKit
theorem Zzu (m:Nat):m^^^1=sibM m:=by
 have h1:(m^^^1)/2=m/2:=by
  rw [Nat.xor_div_two];simp
 have h2:(m^^^1)%2=(m+1)%2:=by
  have:= @Nat.xor_mod_two_eq_one m 1
  by_cases h:m%2=1
  · have:¬(m^^^1)%2=1:=fun k=>(this.1 k) (by simp [h])
    omega
  · have:(m^^^1)%2=1:=this.2 (by simp [h])
    omega
 unfold sibM
 split<;>omega
theorem Zh6 (m:Nat) (h:m<4611686018427387904):(BitVec.ofInt 64 (m:Int)).toNat=m:=by
 rw [BitVec.toNat_ofInt];omega
theorem Zrm (m:Nat) (h:m<1073741824):Zo .xor .i64 (m:Int) 1=(sibM m:Int):=by
 have hs:sibM m<=m+1:=by unfold sibM;split<;>omega
 show IntKind.wrap .i64 ((BitVec.ofInt 64 (m:Int)^^^BitVec.ofInt 64 1).toNat:Int)=_
 rw [BitVec.toNat_xor,Zh6 m (by omega),show (BitVec.ofInt 64 1).toNat=1 by decide,Zzu]
 exact wr64 (by omega) (by omega)
theorem Zrn (m:Nat) (h:m<1073741824):Zo .and .i64 (m:Int) 1=((m%2:Nat):Int):=by
 show IntKind.wrap .i64 ((BitVec.ofInt 64 (m:Int)&&&BitVec.ofInt 64 1).toNat:Int)=_
 rw [BitVec.toNat_and,Zh6 m (by omega),show (BitVec.ofInt 64 1).toNat=1 by decide,Nat.and_one_is_mod]
 exact wr64 (by omega) (by omega)
theorem Zro (i k:Nat) (hk:k<=63):Int.fdiv (i:Int) (2^min (Int.toNat (k:Int)) (IntKind.bits .i64))=((i/2^k:Nat):Int):=by
 have e:min (Int.toNat (k:Int)) (IntKind.bits .i64)=k:=by show min _ 64=k;omega
 have e2:((2:Int)^k)=((2^k:Nat):Int):=by simp
 rw [e,e2,Int.fdiv_eq_ediv_of_nonneg _ (Int.natCast_nonneg _)]
 exact (Int.natCast_ediv _ _).symm
theorem Zrp (k:Nat) (hk:k<=16):wr .i64 (1*2^min (Int.toNat (k:Int)) (IntKind.bits .i64))=((2^k:Nat):Int):=by
 have e:min (Int.toNat (k:Int)) (IntKind.bits .i64)=k:=by show min _ 64=k;omega
 have e2:(1*(2:Int)^k)=((2^k:Nat):Int):=by simp
 have h2:2^k<=2^16:=Nat.pow_le_pow_right (by decide) hk
 rw [e,e2]
 generalize 2^k=q at h2⊢
 exact wr64 (by omega) (by omega)
theorem Zj3 {n:Nat} (h:n<=65536):depM n<=16:=Zri (by omega)
def Vo (L:List (List Int)) (i d:Nat):List (List Int):=(List.range d).map fun j=>n32 (mAt (mRow mP mPad L j) (sibM (i/2^j)) (mPd mP mPad j))
theorem Zh7 (L:List (List Int)) (i d:Nat):(Vo L i d).length=d:=by simp [Vo]
theorem Ze6 (L:List (List Int)) (i d:Nat):Vo L i (d+1)=Vo L i d++ [n32 (mAt (mRow mP mPad L d) (sibM (i/2^d)) (mPd mP mPad d))]:=by simp [Vo,List.range_succ]
theorem Zrq (L:List (List Int)) (i:Nat) (hL:L.length<=65536) (hi:i<2^depM L.length):PureC E2 22 [.psl Th.digs L false,.int false .i64 (i:Int)] (.tup [.psl Th.digs (Vo L i (depM L.length)) false,.int false .i64 0]):=by
 refine Za Zh (Zg Zh Zzr 400) ?_
 rw [Zrk]
 have hdep:=Zj3 hL
 refine ⟨fun h=>absurd (of_decide_eq_true h) (by omega),fun _=>⟨by omega,fun dep hdp=> ?_⟩⟩
 rw [Int.toNat_natCast] at hdp
 rw [hdp,Zrp _ hdep]
 have hi16:i<65536:=Nat.lt_of_lt_of_le hi (Nat.pow_le_pow_right (by decide) hdep)
 refine ⟨fun h=>absurd (of_decide_eq_true h) (by omega),fun _=>⟨by omega,fun h=>absurd (of_decide_eq_true h) (by omega),fun _=>⟨by omega,fun hpos=>⟨trivial,fun P0 hP0=> ?_⟩,fun hz0=> ?_⟩⟩⟩
 · have hpos:=of_decide_eq_true hpos
   subst hP0
   have w1:wr .i64 (wr .i64 ((depM L.length:Int)-1)+1)=(depM L.length:Int):=by
    rw [wr64 (n:=(depM L.length:Int)-1) (by omega) (by omega),wr64 (by omega) (by omega)];omega
   rw [w1]
   refine ⟨fun x=>x.2.k<=depM L.length/\(x.1=false->x.2.k=0)/\x.2.row=mRow mP mPad L x.2.k/\x.2.pad=mPd mP mPad x.2.k/\x.2.p=Vo L i x.2.k/\x.2.r=depM L.length-x.2.k,
    .inl ⟨⟨L,mPad,[],[],0,depM L.length⟩,⟨Nat.zero_le _,fun _=>rfl,rfl,rfl,rfl,rfl⟩,rfl,?_⟩,fun y hy=> ?_,fun y hy=> ?_⟩
   · refine ⟨⟨by repeat' (first|exact rfl|exact trivial|exact fun h=>h|exact e32r _|apply And.intro),⟨rfl,fun h=>h⟩,by repeat' (first|exact rfl|exact trivial|exact fun h=>h|exact e32r _|apply And.intro),rfl,rfl,trivial⟩,e32r _,?_⟩
     repeat' (first|exact rfl|exact trivial|exact fun h=>h|exact e32r _|apply And.intro)
   all_goals
    obtain ⟨k1,k2,k3,k4,k5,k6⟩:=hy
    dsimp only at k1 k2 k3 k4 k5 k6
    have hyl:y.row.length<=65536:=by rw [k3];exact Nat.le_trans (Zk2 L _) hL
    have hpl:y.p.length=y.k:=by rw [k5,Zh7]
    have wk:wr .i64 ((y.k:Int)+1)=(y.k:Int)+1:=wr64 (by omega) (by omega)
    have wtd:wr .i64 (Int.tdiv (wr .i64 ((y.row.length:Int)+1)) 2)=((y.row.length:Int)+1)/2:=by
     rw [wr64 (n:=(y.row.length:Int)+1) (by omega) (by omega),Int.tdiv_eq_ediv_of_nonneg (by omega),wr64 (by omega) (by omega)]
    have hdl:i/2^y.k<=i:=Nat.div_le_self _ _
    have wsib:Zo .xor .i64 (Int.fdiv (i:Int) (2^min (Int.toNat (y.k:Int)) (IntKind.bits .i64))) 1=(sibM (i/2^y.k):Int):=by
     rw [Zro i y.k (by omega)]
     exact Zrm _ (by omega)
    rw [wk,wtd,wsib,List.take_length]
    refine ⟨fun h=>⟨by omega,fun h3=> ?_,fun h3=>⟨⟨Nat.le_refl _,Nat.zero_le _,by omega⟩,by omega,?_⟩⟩,fun h=> ?_⟩
    · have h:=of_decide_eq_true h
      have h3:=of_decide_eq_true h3
      first
       |refine ⟨by omega,by omega,fun x0 hx0=>⟨⟨Nat.le_refl _,Nat.zero_le _,by omega⟩,by omega,?_⟩⟩
       |refine ⟨⟨by omega,by omega⟩,by omega,fun x0 hx0=>⟨⟨Nat.le_refl _,Nat.zero_le _,by omega⟩,by omega,?_⟩⟩
      all_goals
       have hx0:y.row[sibM (i/2^y.k)]? =some x0:=by simpa using hx0
       have hat:n32 x0=n32 (mAt (mRow mP mPad L y.k) (sibM (i/2^y.k)) (mPd mP mPad y.k)):=by
        rw [<-k3];unfold mAt;rw [hx0];rfl
       first
        |refine Zbx (row:=y.row) (pad:=y.pad) hyl (fun x e1 e2=> ?_) (fun x x' z e1 e2 e3=> ?_) fun x z hfull hz=> ?_
        |refine Za3 (row:=y.row) (pad:=y.pad) hyl (fun x e1 e2=> ?_) (fun x x' z e1 e2 e3=> ?_) fun x z hfull hz=> ?_
       · rw [e1,e2]
         repeat' (first|exact rfl|exact trivial|exact fun h=>h|exact e32r _|apply And.intro)
       · rw [e2,e3,List.take_length,Ys]
         repeat' (first|exact rfl|exact trivial|exact fun h=>h|exact e32r _|apply And.intro)
         all_goals simp
       · exact .inr ⟨⟨x.row,z,[],y.p++ [n32q x0],y.k+1,depM L.length-(y.k+1)⟩,⟨by show y.k+1<=depM L.length;omega,fun h=>(by cases h),by show x.row=X8 mP (mRow mP mPad L y.k) (mPd mP mPad y.k);rw [hfull,k3,k4],by show z=mP (mPd mP mPad y.k) (mPd mP mPad y.k);rw [hz,k4],by show y.p++ [n32q x0]=Vo L i (y.k+1);rw [Ze6,k5,Ys,hat],rfl⟩,by show depM L.length-(y.k+1)+1<=y.r;omega,rfl,by (repeat' (first|exact rfl|exact trivial|exact fun h=>h|exact e32r _|apply And.intro);all_goals simp)⟩
    · have h:=of_decide_eq_true h
      have h3:=of_decide_eq_false h3
      have hat:n32 y.pad=n32 (mAt (mRow mP mPad L y.k) (sibM (i/2^y.k)) (mPd mP mPad y.k)):=by
       rw [<-k3,<-k4];unfold mAt;rw [List.getElem?_eq_none (by omega)];rfl
      first
       |refine Zbx (row:=y.row) (pad:=y.pad) hyl (fun x e1 e2=> ?_) (fun x x' z e1 e2 e3=> ?_) fun x z hfull hz=> ?_
       |refine Za3 (row:=y.row) (pad:=y.pad) hyl (fun x e1 e2=> ?_) (fun x x' z e1 e2 e3=> ?_) fun x z hfull hz=> ?_
      · rw [e1,e2]
        repeat' (first|exact rfl|exact trivial|exact fun h=>h|exact e32r _|apply And.intro)
      · rw [e2,e3,List.take_length,Ys]
        repeat' (first|exact rfl|exact trivial|exact fun h=>h|exact e32r _|apply And.intro)
        all_goals simp
      · exact .inr ⟨⟨x.row,z,[],y.p++ [n32q y.pad],y.k+1,depM L.length-(y.k+1)⟩,⟨by show y.k+1<=depM L.length;omega,fun h=>(by cases h),by show x.row=X8 mP (mRow mP mPad L y.k) (mPd mP mPad y.k);rw [hfull,k3,k4],by show z=mP (mPd mP mPad y.k) (mPd mP mPad y.k);rw [hz,k4],by show y.p++ [n32q y.pad]=Vo L i (y.k+1);rw [Ze6,k5,Ys,hat],rfl⟩,by show depM L.length-(y.k+1)+1<=y.r;omega,rfl,by (repeat' (first|exact rfl|exact trivial|exact fun h=>h|exact e32r _|apply And.intro);all_goals simp)⟩
    · have h:=of_decide_eq_false h
      have:y.k=depM L.length:=by omega
      rw [this] at k5
      exact ⟨⟨by omega,k5⟩,rfl,trivial⟩
 · have hz0:=of_decide_eq_false hz0
   have:depM L.length=0:=by omega
   rw [this]
   exact ⟨⟨Nat.le_refl _,rfl⟩,rfl,trivial⟩
theorem Zrr (n i:Nat) (root x0:List Int) (p:List (List Int)) (hn:n<=65536) (hi:i<2^depM n) (hpl:p.length=depM n):
 PureC E2 24 [comV ((n:Int),root),.int false .i64 (i:Int),Zx x0,.psl Th.digs p false] (.bool false (decide (n32 (incM mP i x0 p (depM n))=n32 root))):=by
 refine Za Zh (Zg Zh Zzs 400) ?_
 rw [Zrl]
 have hdep:=Zj3 hn
 have hi16:i<65536:=Nat.lt_of_lt_of_le hi (Nat.pow_le_pow_right (by decide) hdep)
 refine ⟨by dsimp only;omega,fun dep hdp=> ?_⟩
 dsimp only at hdp
 rw [Int.toNat_natCast] at hdp
 rw [hdp,Zrp _ hdep]
 refine ⟨fun b=>b=false,⟨fun h=>absurd (of_decide_eq_true h) (by omega),fun _=>⟨fun h=>absurd (of_decide_eq_true h) (by omega),fun _=>⟨by omega,fun h=>absurd (of_decide_eq_true h) (by omega),fun _=>⟨fun h=>absurd h (by rw [hpl];simp),fun _=>rfl⟩⟩⟩⟩,fun h=>(by cases h),fun _=> ?_⟩
 refine ⟨fun y=>y.k<=depM n/\n32 y.d=n32 (incM mP i x0 p y.k)/\y.r=depM n-y.k,⟨⟨[],[],x0,[],0,depM n⟩,⟨Nat.zero_le _,rfl,rfl⟩,rfl,?_⟩,fun y hy=> ?_⟩
 · repeat' (first|exact rfl|exact trivial|exact fun h=>h|exact e32r _|apply And.intro)
 obtain ⟨k1,k2,k3⟩:=hy
 have wk:wr .i64 ((y.k:Int)+1)=(y.k:Int)+1:=wr64 (by omega) (by omega)
 have hdl:i/2^y.k<=i:=Nat.div_le_self _ _
 have wand:Zo .and .i64 (Int.fdiv (i:Int) (2^min (Int.toNat (y.k:Int)) (IntKind.bits .i64))) 1=((i/2^y.k%2:Nat):Int):=by
  rw [Zro i y.k (by omega)]
  exact Zrn _ (by omega)
 rw [wk,wand]
 refine ⟨fun h=>⟨by omega,fun h2=> ?_,fun h2=> ?_⟩,fun h=>fun v hv=> ?_⟩
 · have h:=of_decide_eq_true h
   have h2:i/2^y.k%2=0:=by have:=beq_iff_eq.1 h2;omega
   refine ⟨by omega,by omega,fun u hu=>⟨trivial,fun z hz=> ?_⟩⟩
   rw [Int.toNat_natCast] at hu
   have hg:p.getD y.k []=u:=by rw [List.getD_eq_getElem?_getD,hu];rfl
   rw [Ys,Ys,k2,mP_l,mP_r] at hz
   refine ⟨⟨[],[],z,[],y.k+1,depM n-(y.k+1)⟩,⟨by show y.k+1<=_;omega,?_,rfl⟩,by show depM n-(y.k+1)+1<=y.r;omega,rfl,by repeat' (first|exact rfl|exact trivial|exact fun h=>h|exact e32r _|apply And.intro)⟩
   show n32 z=n32 (incM mP i x0 p (y.k+1))
   unfold incM
   rw [if_pos h2,hg,hz]
 · have h:=of_decide_eq_true h
   have h2:¬i/2^y.k%2=0:=by have:=beq_eq_false_iff_ne.1 h2;omega
   refine ⟨by omega,by omega,fun u hu=>⟨trivial,fun z hz=> ?_⟩⟩
   rw [Int.toNat_natCast] at hu
   have hg:p.getD y.k []=u:=by rw [List.getD_eq_getElem?_getD,hu];rfl
   rw [Ys,Ys,k2,mP_l,mP_r] at hz
   refine ⟨⟨[],[],z,[],y.k+1,depM n-(y.k+1)⟩,⟨by show y.k+1<=_;omega,?_,rfl⟩,by show depM n-(y.k+1)+1<=y.r;omega,rfl,by repeat' (first|exact rfl|exact trivial|exact fun h=>h|exact e32r _|apply And.intro)⟩
   show n32 z=n32 (incM mP i x0 p (y.k+1))
   unfold incM
   rw [if_neg h2,hg,hz]
 · have h:=of_decide_eq_false h
   rw [Zyx,k2,show y.k=depM n by omega] at hv
   rw [<-hv]
   exact ⟨fun h=>h.symm,fun h=>h.symm⟩
theorem Zou (a b:List (List Int)) (i:Nat) (hl:b.length=a.length) (ha:a.length<=65536) (hi:i<a.length) (heq:∀k u v,k<i->a[k]? =some u->b[k]? =some v->n32 u=n32 v) (hne:∀u v,a[i]? =some u->b[i]? =some v->n32 u≠n32 v):
 PureC E2 25 [.psl Th.digs a false,.psl Th.digs b false] (.int false .i64 (i:Int)):=by
 refine Za Zh (Zg Zh Zzt 400) ?_
 rw [Zot]
 refine ⟨trivial,fun P0 hP0=> ?_⟩
 have wm:mm2 true (a.length:Int) (b.length:Int)=(a.length:Int):=by rw [Z4,hl];omega
 rw [wm,hl]
 refine ⟨fun x=>x.k<=i/\x.r=i-x.k,⟨⟨[],[],[],[],0,i⟩,⟨Nat.zero_le _,rfl⟩,rfl,?_⟩,fun x hx=> ?_⟩
 · repeat' (first|exact rfl|exact trivial|exact fun h=>h|exact e32r _|apply And.intro)
 obtain ⟨k1,k2⟩:=hx
 have wk:wr .i64 ((x.k:Int)+1)=(x.k:Int)+1:=wr64 (by omega) (by omega)
 rw [wk]
 refine ⟨fun _=>⟨fun _=>⟨by omega,by omega,fun u hu=>⟨fun _=>⟨by omega,by omega,fun v hv w hw=>⟨fun h=> ?_,fun h=> ?_⟩⟩,fun h=>absurd (of_decide_eq_false h) (by omega)⟩⟩,fun h=>absurd (of_decide_eq_false h) (by omega)⟩,fun h=>absurd (of_decide_eq_false h) (by omega)⟩
 all_goals
  rw [Int.toNat_natCast] at hu hv
  rw [Zyx,h] at hw
 · have hne2:n32 u≠n32 v:=by
    intro e
    rw [decide_eq_true e] at hw
    cases hw
   rcases Nat.lt_or_ge x.k i with hlt|hge
   · exact absurd (heq x.k u v hlt hu hv) hne2
   · have:x.k=i:=by omega
     rw [this]
 · have he:n32 u=n32 v:=by
    refine Classical.byContradiction fun e=> ?_
    rw [decide_eq_false e] at hw
    cases hw
   have hlt:x.k<i:=by
    rcases Nat.lt_or_ge x.k i with hlt|hge
    · exact hlt
    · have hki:x.k=i:=by omega
      rw [hki] at hu hv
      exact absurd he (hne u v hu hv)
   exact ⟨⟨[],[],[],[],x.k+1,i-(x.k+1)⟩,⟨by show x.k+1<=i;omega,rfl⟩,by show i-(x.k+1)+1<=x.r;omega,rfl,by repeat' (first|exact rfl|exact trivial|exact fun h=>h|exact e32r _|apply And.intro)⟩
end
section
open Go Go.RowKit
theorem Zir:∀(R:List (List Int)) (k:Nat),Xb R R k=none
 | [],k=>rfl
 |x::r,k=>by simp [Xb,Zir r (k+1)]
theorem Zm3 (o:List Int):∀(R:List (List Int)) (i k:Nat) (x:List Int),R[i]? =some x->Xb R (R.set i o) k=if n32 o=n32 x then none else some (k+i)
 | [],i,k,x,h=>by simp at h
 |y::r,0,k,x,h=>by
  obtain rfl:y=x:=by simpa using h
  simp only [List.set_cons_zero,Xb,Zir]
  by_cases c:n32 o=n32 y<;>simp [c]
 |y::r,i+1,k,x,h=>by
  simp only [List.set_cons_succ,Xb,if_true]
  rw [Zm3 o r i (k+1) x (by simpa using h)]
  by_cases c:n32 o=n32 x
  · simp [c]
  · simp [c];omega
theorem Z0k {k:Int} {n:Nat} (h0:0<n) (hn:n<=5000):∃I:Nat,I<n/\wr .i64 (Int.tmod (wr .u64 k) (wr .u64 (n:Int)))=(I:Int):=by
 have e1:wr .u64 (n:Int)=(n:Int):=by
  show IntKind.wrap .u64 (n:Int)=_
  simp only [IntKind.wrap,IntKind.bits,IntKind.signed,Bool.false_and,Bool.false_eq_true,if_false]
  omega
 have e2:0<=wr .u64 k:=by
  show 0<=IntKind.wrap .u64 k
  simp only [IntKind.wrap,IntKind.bits,IntKind.signed,Bool.false_and,Bool.false_eq_true,if_false]
  omega
 rw [e1,Int.tmod_eq_emod_of_nonneg e2]
 have h1:=Int.emod_nonneg (wr .u64 k) (show (n:Int)≠0 by omega)
 have h2:=Int.emod_lt_of_pos (wr .u64 k) (show (0:Int)<n by omega)
 generalize wr .u64 k%(n:Int)=z at h1 h2
 refine ⟨z.toNat,by omega,?_⟩
 rw [wr64 (by omega) (by omega)]
 omega
end
section
open Go Go.RowKit
def Z2e:Sum thy:=X7 E2 gthV 10 (.cons Zqa (.cons dI2 (.cons dI2 .nil))) (fun x=>x.1.length<=65536/\0<=x.2.1/\x.2.1<=16/\x.2.2.1=0) (fun x=>Zcr mP mPad x.1 x.2.1.toNat) fun y=> .tup [Zx y,.bool false true]
theorem Zvw:SumOk E2 59 Z2e:=Zw Zh (Zi rfl) fun x h=>by
 obtain ⟨a,n,z,_⟩:=x
 obtain ⟨h1,h2,h3,h4⟩:=h
 dsimp only at h1 h2 h3 h4
 subst h4
 obtain ⟨n,rfl⟩:=Int.eq_ofNat_of_zero_le h2
 exact Zth a n h1 (by omega)
def Z2f:Sum thy:=X7 E2 gthV 10 (.cons Zqa (.cons dI2 .nil)) (fun x=>x.1.length<=65536/\0<=x.2.1/\x.2.1.toNat<2^depM x.1.length) (fun x=>Vo x.1 x.2.1.toNat (depM x.1.length)) fun y=> .tup [.psl Th.digs y false,.int false .i64 0]
theorem Zvx:SumOk E2 22 Z2f:=Zw Zh (Zi rfl) fun x h=>by
 obtain ⟨a,n,_⟩:=x
 obtain ⟨h1,h2,h3⟩:=h
 dsimp only at h1 h2 h3
 obtain ⟨n,rfl⟩:=Int.eq_ofNat_of_zero_le h2
 exact Zrq a n h1 h3
def Zeq (c:Int×List Int) (i:Nat) (x:List Int) (p:List (List Int)):Bool:=decide (n32 (incM mP i x p (depM c.1.toNat))=n32 c.2)
def Z2g:Sum thy:=X7 E2 gthV 10 (.cons dCom (.cons dI2 (.cons (dDig E2) (.cons Zqa .nil)))) (fun x=>(0<=x.1.1/\x.1.1<=65536)/\0<=x.2.1/\x.2.1.toNat<2^depM x.1.1.toNat/\x.2.2.2.1.length=depM x.1.1.toNat) (fun x=>Zeq x.1 x.2.1.toNat x.2.2.1 x.2.2.2.1) fun y=> .bool false y
theorem Zvy:SumOk E2 24 Z2g:=Zw Zh (Zi rfl) fun x h=>by
 obtain ⟨⟨n,r⟩,i,x0,p,_⟩:=x
 obtain ⟨⟨h1,h2⟩,h3,h4,h5⟩:=h
 dsimp only at h1 h2 h3 h4 h5
 obtain ⟨n,rfl⟩:=Int.eq_ofNat_of_zero_le h1
 obtain ⟨i,rfl⟩:=Int.eq_ofNat_of_zero_le h3
 exact Zrr n i r x0 p (by omega) h4 h5
theorem Ze3:∀(R L:List (List Int)) (k m:Nat),L.length=R.length->Xb R L k=some m->∃i,m=k+i/\i<R.length/\(∀j u v,j<i->R[j]? =some u->L[j]? =some v->n32 u=n32 v)/\∀u v,R[i]? =some u->L[i]? =some v->n32 u≠n32 v
 | [],[],k,m,_,h=>by cases h
 | [],_::_,k,m,h,_=>by cases h
 |_::_,[],k,m,h,_=>by cases h
 |x::r,y::l,k,m,hl,h=>by
  unfold Xb at h
  by_cases c:n32 y=n32 x
  · rw [if_pos c] at h
    obtain ⟨i,h1,h2,h3,h4⟩:=Ze3 r l (k+1) m (by simpa using hl) h
    refine ⟨i+1,by omega,by simpa using h2,fun j u v hj hu hv=> ?_,fun u v hu hv=>h4 u v hu hv⟩
    cases j with
    |zero=>cases hu;cases hv;exact c.symm
    |succ j=>exact h3 j u v (by omega) hu hv
  · rw [if_neg c] at h
    cases h
    exact ⟨0,rfl,by simp,fun j u v hj=>absurd hj (Nat.not_lt_zero _),fun u v hu hv=>by cases hu;cases hv;exact fun e=>c e.symm⟩
def Z2h:Sum thy:=X7 E2 gthV 10 (.cons Zqa (.cons Zqa .nil)) (fun x=>(x.1.length<=65536/\x.2.1.length=x.1.length)/\∃m,Xb x.1 x.2.1 0=some m) (fun x=>(Xb x.1 x.2.1 0).getD 0) fun (y:Nat)=> .int false .i64 (y:Int)
theorem Zvz:SumOk E2 25 Z2h:=Zw Zh (Zi rfl) fun x h=>by
 obtain ⟨a,b,_⟩:=x
 obtain ⟨⟨h1,h2⟩,m,hm⟩:=h
 dsimp only at h1 h2 hm
 obtain ⟨i,e,h3,h4,h5⟩:=Ze3 a b 0 m h2 hm
 have hg:((Xb a b 0).getD 0:Nat)=i:=by rw [hm,e];simp
 show PureC E2 _ _ (.int false .i64 (((Xb a b 0).getD 0:Nat):Int))
 rw [hg]
 exact Zou a b i h2 h1 h3 h4 h5
def FPv:Fns thy:=addS (addS (addS (addS (addS (addS FL0 23 Z1f) 38 Zzp) 59 Z2e) 22 Z2f) 24 Z2g) 25 Z2h
theorem Z2i:FnsOk E2 FPv:=Zf (Zf (Zf (Zf (Zf (Zf Z15 Znq) Zmp) Zvw) Zvx) Zvy) Zvz
theorem Zjz (c:List Ins) (v:Env) (k:Int):Zr E2 FPv (vc E2 FPv 400) 6 [.psl .ins c false,envV v,.int false .i64 k] hp0 0 (fun r=>ret E2 (patch hp0 0 r) r.v (.bool false true))=(
 True/\∀(y:Bool),y=true->((!y)=true->false=true)/\((!y)=false->True/\∀(y:Drv×Int),y=drF c v->True/\∀(y_1:Bool),y_1=decide (List.length c<=(40:
 Nat))->((!y_1)=true->((Prod.snd y !=(0:Int))=true->true=true)/\((Prod.snd y !=(0:Int))=false->True/\∀(y:Bool),y=decide (List.length c<=(40:Nat))->(!y)
 =true))/\((!y_1)=false->((Prod.snd y !=(0:Int))=true->((Prod.snd y !=(0:Int))=true->true=true)/\((Prod.snd y !=(0:Int))=false->True/\∀(y:Bool),y=
 decide (List.length c<=(40:Nat))->(!y)=true))/\((Prod.snd y !=(0:Int))=false->(((↑(List.length (Drv.leaves (Prod.fst y))):Int)==(0:Int))=true->((Prod.snd y !=
 (0:Int))=true->true=true)/\((Prod.snd y !=(0:Int))=false->True/\∀(y:Bool),y=decide (List.length c<=(40:Nat))->(!y)=true))/\(((↑(List.length (Drv.leaves
 (Prod.fst y))):Int)==(0:Int))=false->(decide ((↑(List.length (Drv.leaves (Prod.fst y))):Int)>(41:Int))=true->((Prod.snd y !=(0:Int))=true->true=true)/\
 ((Prod.snd y !=(0:Int))=false->True/\∀(y:Bool),y=decide (List.length c<=(40:Nat))->(!y)=true))/\(decide ((↑(List.length (Drv.leaves (Prod.fst y))):Int)>(41
 :Int))=false->(wr IntKind.u64 (↑(List.length (Drv.leaves (Prod.fst y))):Int)=(0:Int)->False)/\(decide ((↑(List.length (Drv.leaves (Prod.fst y))):Int)>(65536:Int))
 =true->(List.length (Drv.leaves (Prod.fst y))<=(65536:Nat)/\(0:Int)<=wr IntKind.i64 (Int.tmod (wr IntKind.u64 k) (wr IntKind.u64 (↑(List.length (Drv.leaves (Prod.fst y)))
 :Int)))/\Int.toNat (wr IntKind.i64 (Int.tmod (wr IntKind.u64 k) (wr IntKind.u64 (↑(List.length (Drv.leaves (Prod.fst y))):Int))))+(1:Nat)<=(2:Nat)^depM (List.length
 (Drv.leaves (Prod.fst y))))/\∀(y_2:List (List Int)),y_2=Vo (Drv.leaves (Prod.fst y)) (Int.toNat (wr IntKind.i64 (Int.tmod (wr IntKind.u64 k) (wr IntKind.u64
 (↑(List.length (Drv.leaves (Prod.fst y))):Int))))) (depM (List.length (Drv.leaves (Prod.fst y))))->((0:Int)<=wr IntKind.i64 (Int.tmod (wr IntKind.u64 k) (wr IntKind.u64
 (↑(List.length (Drv.leaves (Prod.fst y))):Int)))/\wr IntKind.i64 (Int.tmod (wr IntKind.u64 k) (wr IntKind.u64 (↑(List.length (Drv.leaves (Prod.fst y))):Int)))+(1:Int)<=
 (↑(List.length (Drv.leaves (Prod.fst y))):Int)/\List.length (Drv.leaves (Prod.fst y))<=(5000:Nat))/\∀(y_3:Drv),y_3=Xa (Prod.fst y) (wr IntKind.i64 (Int.tmod (wr
 IntKind.u64 k) (wr IntKind.u64 (↑(List.length (Drv.leaves (Prod.fst y))):Int))))->(decide ((↑(List.length (Drv.leaves y_3)):Int)>(65536:Int))=true->false=true)/\
 (decide ((↑(List.length (Drv.leaves y_3)):Int)>(65536:Int))=false->((0:Int)<=(↑(List.length (Drv.leaves y_3)):Int)/\(↑(List.length (Drv.leaves y_3)):Int)<=(65536
 :Int))/\∀(y:Nat),y=depM (Int.toNat (↑(List.length (Drv.leaves y_3)):Int))->(List.length (Drv.leaves y_3)<=(65536:Nat)/\(0:Int)<=(↑y:Int)/\(↑y:Int)<=(16:
 Int)/\(0:Int)=(0:Int))/\∀(y_4:List Int),y_4=Zcr mP mPad (Drv.leaves y_3) (Int.toNat (↑y:Int))->false=true))/\(decide ((↑(List.length (Drv.leaves (Prod.fst
 y))):Int)>(65536:Int))=false->((0:Int)<=(↑(List.length (Drv.leaves (Prod.fst y))):Int)/\(↑(List.length (Drv.leaves (Prod.fst y))):Int)<=(65536:Int))/\∀(y_2:
 Nat),y_2=depM (Int.toNat (↑(List.length (Drv.leaves (Prod.fst y))):Int))->(List.length (Drv.leaves (Prod.fst y))<=(65536:Nat)/\(0:Int)<=(↑y_2:Int)/\(↑y_2:Int)<=
 (16:Int)/\(0:Int)=(0:Int))/\∀(y_3:List Int),y_3=Zcr mP mPad (Drv.leaves (Prod.fst y)) (Int.toNat (↑y_2:Int))->(List.length (Drv.leaves (Prod.fst y))<=(65536:
 Nat)/\(0:Int)<=wr IntKind.i64 (Int.tmod (wr IntKind.u64 k) (wr IntKind.u64 (↑(List.length (Drv.leaves (Prod.fst y))):Int)))/\Int.toNat (wr IntKind.i64 (Int.tmod (wr
 IntKind.u64 k) (wr IntKind.u64 (↑(List.length (Drv.leaves (Prod.fst y))):Int))))+(1:Nat)<=(2:Nat)^depM (List.length (Drv.leaves (Prod.fst y))))/\∀(y_4:List (List
 Int)),y_4=Vo (Drv.leaves (Prod.fst y)) (Int.toNat (wr IntKind.i64 (Int.tmod (wr IntKind.u64 k) (wr IntKind.u64 (↑(List.length (Drv.leaves (Prod.fst y))):Int))))) (depM
 (List.length (Drv.leaves (Prod.fst y))))->((0:Int)<=wr IntKind.i64 (Int.tmod (wr IntKind.u64 k) (wr IntKind.u64 (↑(List.length (Drv.leaves (Prod.fst y))):Int)))/\wr
 IntKind.i64 (Int.tmod (wr IntKind.u64 k) (wr IntKind.u64 (↑(List.length (Drv.leaves (Prod.fst y))):Int)))+(1:Int)<=(↑(List.length (Drv.leaves (Prod.fst y))):Int)/\
 List.length (Drv.leaves (Prod.fst y))<=(5000:Nat))/\∀(y_5:Drv),y_5=Xa (Prod.fst y) (wr IntKind.i64 (Int.tmod (wr IntKind.u64 k) (wr IntKind.u64 (↑(List.length
 (Drv.leaves (Prod.fst y))):Int))))->(decide ((↑(List.length (Drv.leaves y_5)):Int)>(65536:Int))=true->(((0:Int) !=(0:Int))=true->false=true)/\(((0:Int) !=
 (0:Int))=false->false=true))/\(decide ((↑(List.length (Drv.leaves y_5)):Int)>(65536:Int))=false->((0:Int)<=(↑(List.length (Drv.leaves y_5)):Int)/\
 (↑(List.length (Drv.leaves y_5)):Int)<=(65536:Int))/\∀(y_6:Nat),y_6=depM (Int.toNat (↑(List.length (Drv.leaves y_5)):Int))->(List.length (Drv.leaves y_5)<=(65536:
 Nat)/\(0:Int)<=(↑y_6:Int)/\(↑y_6:Int)<=(16:Int)/\(0:Int)=(0:Int))/\∀(y_7:List Int),y_7=Zcr mP mPad (Drv.leaves y_5) (Int.toNat (↑y_6:Int))->(((0:
 Int) !=(0:Int))=true->false=true)/\(((0:Int) !=(0:Int))=false->(((↑(List.length (Drv.leaves (Prod.fst y))):Int) !=(↑(List.length (Drv.leaves (Prod.fst y))):
 Int))=true->false=true)/\(((↑(List.length (Drv.leaves (Prod.fst y))):Int) !=(↑(List.length (Drv.leaves (Prod.fst y))):Int))=false->(0:Int)<=wr IntKind.i64
 (Int.tmod (wr IntKind.u64 k) (wr IntKind.u64 (↑(List.length (Drv.leaves (Prod.fst y))):Int)))/\wr IntKind.i64 (Int.tmod (wr IntKind.u64 k) (wr IntKind.u64 (↑(List.length
 (Drv.leaves (Prod.fst y))):Int)))+(1:Int)<=(↑(List.length (Drv.leaves (Prod.fst y))):Int)/\∀(x:List Int),(Drv.leaves (Prod.fst y))[Int.toNat (wr IntKind.i64 (Int.tmod
 (wr IntKind.u64 k) (wr IntKind.u64 (↑(List.length (Drv.leaves (Prod.fst y))):Int))))]? =some x->(((0:Int)<=(↑(List.length (Drv.leaves (Prod.fst y))):Int)/\(↑(List.length
 (Drv.leaves (Prod.fst y))):Int)<=(65536:Int))/\(0:Int)<=wr IntKind.i64 (Int.tmod (wr IntKind.u64 k) (wr IntKind.u64 (↑(List.length (Drv.leaves (Prod.fst y))):Int)))/\
 Int.toNat (wr IntKind.i64 (Int.tmod (wr IntKind.u64 k) (wr IntKind.u64 (↑(List.length (Drv.leaves (Prod.fst y))):Int))))+(1:Nat)<=(2:Nat)^depM (Int.toNat (↑(List.length
 (Drv.leaves (Prod.fst y))):Int))/\List.length y_4=depM (Int.toNat (↑(List.length (Drv.leaves (Prod.fst y))):Int)))/\∀(y_8:Bool),y_8=Zeq ((↑(List.length (Drv.leaves
 (Prod.fst y))):Int),(n32q y_3)) (Int.toNat (wr IntKind.i64 (Int.tmod (wr IntKind.u64 k) (wr IntKind.u64 (↑(List.length (Drv.leaves (Prod.fst y))):Int))))) (n32q x) y_4->
 ((!y_8)=true->false=true)/\((!y_8)=false->(0:Int)<=wr IntKind.i64 (Int.tmod (wr IntKind.u64 k) (wr IntKind.u64 (↑(List.length (Drv.leaves (Prod.fst y))):Int)))/\wr
 IntKind.i64 (Int.tmod (wr IntKind.u64 k) (wr IntKind.u64 (↑(List.length (Drv.leaves (Prod.fst y))):Int)))+(1:Int)<=(↑(List.length (Drv.leaves y_5)):Int)/\∀(x:List
 Int),(Drv.leaves y_5)[Int.toNat (wr IntKind.i64 (Int.tmod (wr IntKind.u64 k) (wr IntKind.u64 (↑(List.length (Drv.leaves (Prod.fst y))):Int))))]? =some x->(((0:Int)<=
 (↑(List.length (Drv.leaves y_5)):Int)/\(↑(List.length (Drv.leaves y_5)):Int)<=(65536:Int))/\(0:Int)<=wr IntKind.i64 (Int.tmod (wr IntKind.u64 k) (wr IntKind.u64
 (↑(List.length (Drv.leaves (Prod.fst y))):Int)))/\Int.toNat (wr IntKind.i64 (Int.tmod (wr IntKind.u64 k) (wr IntKind.u64 (↑(List.length (Drv.leaves (Prod.fst y))):Int))))+(1
 :Nat)<=(2:Nat)^depM (Int.toNat (↑(List.length (Drv.leaves y_5)):Int))/\List.length y_4=depM (Int.toNat (↑(List.length (Drv.leaves y_5)):Int)))/\∀(y_9:Bool),y_9=
 Zeq ((↑(List.length (Drv.leaves y_5)):Int),(n32q y_7)) (Int.toNat (wr IntKind.i64 (Int.tmod (wr IntKind.u64 k) (wr IntKind.u64 (↑(List.length (Drv.leaves (Prod.fst y))):
 Int))))) (n32q x) y_4->((!y_9)=true->false=true)/\((!y_9)=false->((List.length (Drv.leaves (Prod.fst y))<=(65536:Nat)/\List.length (Drv.leaves y_5)=List.length
 (Drv.leaves (Prod.fst y)))/\∃(m:Nat),Xb (Drv.leaves (Prod.fst y)) (Drv.leaves y_5) (0:Nat)=some m)/\∀(y_10:Nat),y_10=Option.getD (Xb (Drv.leaves (Prod.fst y))
 (Drv.leaves y_5) (0:Nat)) (0:Nat)->(((↑y_10:Int)==wr IntKind.i64 (Int.tmod (wr IntKind.u64 k) (wr IntKind.u64 (↑(List.length (Drv.leaves (Prod.fst y))):Int))))=true->
 ∀(v:Bool),v= !((↑(List.length (Drv.leaves (Prod.fst y))):Int)==(↑(List.length (Drv.leaves y_5)):Int)&&(List.getD y_3 (0:Nat) (0:Int)==List.getD y_7 (0:Nat) (0
 :Int)&&(List.getD y_3 (1:Nat) (0:Int)==List.getD y_7 (1:Nat) (0:Int)&&(List.getD y_3 (2:Nat) (0:Int)==List.getD y_7 (2:Nat) (0:Int)&&(List.getD y_3 (3:
 Nat) (0:Int)==List.getD y_7 (3:Nat) (0:Int)&&(List.getD y_3 (4:Nat) (0:Int)==List.getD y_7 (4:Nat) (0:Int)&&(List.getD y_3 (5:Nat) (0:Int)==List.getD
 y_7 (5:Nat) (0:Int)&&(List.getD y_3 (6:Nat) (0:Int)==List.getD y_7 (6:Nat) (0:Int)&&(List.getD y_3 (7:Nat) (0:Int)==List.getD y_7 (7:Nat) (0:Int)&&
 (List.getD y_3 (8:Nat) (0:Int)==List.getD y_7 (8:Nat) (0:Int)&&(List.getD y_3 (9:Nat) (0:Int)==List.getD y_7 (9:Nat) (0:Int)&&(List.getD y_3 (10:Nat) (0:
 Int)==List.getD y_7 (10:Nat) (0:Int)&&(List.getD y_3 (11:Nat) (0:Int)==List.getD y_7 (11:Nat) (0:Int)&&(List.getD y_3 (12:Nat) (0:Int)==List.getD y_7 (12
 :Nat) (0:Int)&&(List.getD y_3 (13:Nat) (0:Int)==List.getD y_7 (13:Nat) (0:Int)&&(List.getD y_3 (14:Nat) (0:Int)==List.getD y_7 (14:Nat) (0:Int)&&
 (List.getD y_3 (15:Nat) (0:Int)==List.getD y_7 (15:Nat) (0:Int)&&(List.getD y_3 (16:Nat) (0:Int)==List.getD y_7 (16:Nat) (0:Int)&&(List.getD y_3 (17:Nat)
 (0:Int)==List.getD y_7 (17:Nat) (0:Int)&&(List.getD y_3 (18:Nat) (0:Int)==List.getD y_7 (18:Nat) (0:Int)&&(List.getD y_3 (19:Nat) (0:Int)==List.getD y_7
 (19:Nat) (0:Int)&&(List.getD y_3 (20:Nat) (0:Int)==List.getD y_7 (20:Nat) (0:Int)&&(List.getD y_3 (21:Nat) (0:Int)==List.getD y_7 (21:Nat) (0:Int)&&
 (List.getD y_3 (22:Nat) (0:Int)==List.getD y_7 (22:Nat) (0:Int)&&(List.getD y_3 (23:Nat) (0:Int)==List.getD y_7 (23:Nat) (0:Int)&&(List.getD y_3 (24:Nat)
 (0:Int)==List.getD y_7 (24:Nat) (0:Int)&&(List.getD y_3 (25:Nat) (0:Int)==List.getD y_7 (25:Nat) (0:Int)&&(List.getD y_3 (26:Nat) (0:Int)==List.getD y_7
 (26:Nat) (0:Int)&&(List.getD y_3 (27:Nat) (0:Int)==List.getD y_7 (27:Nat) (0:Int)&&(List.getD y_3 (28:Nat) (0:Int)==List.getD y_7 (28:Nat) (0:Int)&&
 (List.getD y_3 (29:Nat) (0:Int)==List.getD y_7 (29:Nat) (0:Int)&&(List.getD y_3 (30:Nat) (0:Int)==List.getD y_7 (30:Nat) (0:Int)&&(List.getD y_3 (31:Nat)
 (0:Int)==List.getD y_7 (31:Nat) (0:Int)&&true)))))))))))))))))))))))))))))))&&true))->(v=true->(0:Int)<=wr IntKind.i64 (Int.tmod (wr IntKind.u64 k) (wr
 IntKind.u64 (↑(List.length (Drv.leaves (Prod.fst y))):Int)))/\wr IntKind.i64 (Int.tmod (wr IntKind.u64 k) (wr IntKind.u64 (↑(List.length (Drv.leaves (Prod.fst y))):Int)))+(1
 :Int)<=(↑(List.length (Drv.leaves y_5)):Int)/\∀(x:List Int),(Drv.leaves y_5)[Int.toNat (wr IntKind.i64 (Int.tmod (wr IntKind.u64 k) (wr IntKind.u64 (↑(List.length
 (Drv.leaves (Prod.fst y))):Int))))]? =some x->(((0:Int)<=(↑(List.length (Drv.leaves (Prod.fst y))):Int)/\(↑(List.length (Drv.leaves (Prod.fst y))):Int)<=(65536:Int))
 /\(0:Int)<=wr IntKind.i64 (Int.tmod (wr IntKind.u64 k) (wr IntKind.u64 (↑(List.length (Drv.leaves (Prod.fst y))):Int)))/\Int.toNat (wr IntKind.i64 (Int.tmod (wr IntKind.u64
 k) (wr IntKind.u64 (↑(List.length (Drv.leaves (Prod.fst y))):Int))))+(1:Nat)<=(2:Nat)^depM (Int.toNat (↑(List.length (Drv.leaves (Prod.fst y))):Int))/\List.length y_4
 =depM (Int.toNat (↑(List.length (Drv.leaves (Prod.fst y))):Int)))/\∀(y_11:Bool),y_11=Zeq ((↑(List.length (Drv.leaves (Prod.fst y))):Int),(n32q y_3)) (Int.toNat (wr
 IntKind.i64 (Int.tmod (wr IntKind.u64 k) (wr IntKind.u64 (↑(List.length (Drv.leaves (Prod.fst y))):Int))))) (n32q x) y_4->((true== !y_11)=true->true=true)/\((true==
 !y_11)=false->false=true))/\(v=false->(0:Int)<=wr IntKind.i64 (Int.tmod (wr IntKind.u64 k) (wr IntKind.u64 (↑(List.length (Drv.leaves (Prod.fst y))):Int)))/\wr
 IntKind.i64 (Int.tmod (wr IntKind.u64 k) (wr IntKind.u64 (↑(List.length (Drv.leaves (Prod.fst y))):Int)))+(1:Int)<=(↑(List.length (Drv.leaves y_5)):Int)/\∀(x:List
 Int),(Drv.leaves y_5)[Int.toNat (wr IntKind.i64 (Int.tmod (wr IntKind.u64 k) (wr IntKind.u64 (↑(List.length (Drv.leaves (Prod.fst y))):Int))))]? =some x->(((0:Int)<=
 (↑(List.length (Drv.leaves (Prod.fst y))):Int)/\(↑(List.length (Drv.leaves (Prod.fst y))):Int)<=(65536:Int))/\(0:Int)<=wr IntKind.i64 (Int.tmod (wr IntKind.u64 k) (wr
 IntKind.u64 (↑(List.length (Drv.leaves (Prod.fst y))):Int)))/\Int.toNat (wr IntKind.i64 (Int.tmod (wr IntKind.u64 k) (wr IntKind.u64 (↑(List.length (Drv.leaves (Prod.fst y))):
 Int))))+(1:Nat)<=(2:Nat)^depM (Int.toNat (↑(List.length (Drv.leaves (Prod.fst y))):Int))/\List.length y_4=depM (Int.toNat (↑(List.length (Drv.leaves (Prod.fst y))):
 Int)))/\∀(y_11:Bool),y_11=Zeq ((↑(List.length (Drv.leaves (Prod.fst y))):Int),(n32q y_3)) (Int.toNat (wr IntKind.i64 (Int.tmod (wr IntKind.u64 k) (wr IntKind.u64
 (↑(List.length (Drv.leaves (Prod.fst y))):Int))))) (n32q x) y_4->((false== !y_11)=true->true=true)/\((false== !y_11)=false->false=true)))/\(((↑y_10:Int)==wr
 IntKind.i64 (Int.tmod (wr IntKind.u64 k) (wr IntKind.u64 (↑(List.length (Drv.leaves (Prod.fst y))):Int))))=false->false=true))))))))))))):=by kernel_rfl
end
section
open Go Go.RowKit
theorem Zti {L:List (List Int)} {i d j:Nat} (h:j<d):(Vo L i d).getD j []=n32 ((Zcq mP mPad L i d).getD j []):=by
 rw [Zjq h]
 unfold Vo
 rw [List.getD_eq_getElem?_getD,List.getElem?_map,List.getElem?_range h]
 rfl
theorem Z29 {L:List (List Int)} {i d:Nat} {x:List Int}:∀j,j<=d->n32 (incM mP i (n32 x) (Vo L i d) j)=n32 (incM mP i x (Zcq mP mPad L i d) j)
 |0,_=>Zc3 x
 |j+1,h=>by
  have ih:=Z29 (L:=L) (i:=i) (d:=d) (x:=x) j (by omega)
  unfold incM
  rw [Zti (by omega),mP_l,mP_r]
  generalize (Zcq mP mPad L i d).getD j []=q
  generalize incM mP i (n32 x) (Vo L i d) j=A at ih⊢
  generalize incM mP i x (Zcq mP mPad L i d) j=B at ih⊢
  split
  · rw [<-mP_l A,ih,mP_l]
  · rw [<-mP_r q A,ih,mP_r]
theorem Zg7 {L:List (List Int)} {i n:Nat} {x R:List Int} (hn:n=L.length) (hi:i<L.length):Zeq ((n:Int),n32q R) i (n32q x) (Vo L i (depM L.length))=decide (n32 (Zcr mP mPad (L.set i x) (depM L.length))=n32 R):=by
 subst hn
 unfold Zeq
 dsimp only
 rw [Int.toNat_natCast,Ys,Ys,Zc3,Z29 _ (Nat.le_refl _),Z14 hi (Nat.lt_of_lt_of_le hi (Zuh _))]
theorem Zi4 (c:List Ins) (v:Env) (k:Int):PureC E2 6 [.psl .ins c false,envV v,.int false .i64 k] (.bool false true):=by
 refine Za Zh (Zg Zh Z2i 400) ?_
 rw [Zjz]
 refine ⟨trivial,fun y0 hy0=>⟨fun h=>by subst hy0;simp at h,fun _=>⟨trivial,fun y hy=>⟨trivial,fun y1 hy1=>⟨fun h1=>⟨fun _=>rfl,fun _=>⟨trivial,fun z hz=>by rw [hz,<-hy1];exact h1⟩⟩,fun h1=>⟨fun h2=>⟨fun _=>rfl,fun h3=>by rw [h2] at h3;cases h3⟩,fun h2=> ?_⟩⟩⟩⟩⟩⟩
 have hc:c.length<=40:=by rw [hy1] at h1;simpa using h1
 have hv:(verF c).2=0:=Z16 (by rw [<-hy];exact h2)
 obtain rfl:y=(DRn c v,0):=hy.trans (Zze hv)
 obtain ⟨d1,_⟩:=Zg5 (v:=v) hv
 have hl:(DRn c v).leaves.length=dM c v+1:=Z17 c v
 dsimp only
 clear hy h2
 generalize DRn c v=D at*
 obtain ⟨I,hI,eI⟩:=Z0k (k:=k) (n:=D.leaves.length) (by omega) (by omega)
 have w3:wr .u64 (D.leaves.length:Int)≠0:=by
  show IntKind.wrap .u64 (D.leaves.length:Int)≠0
  simp only [IntKind.wrap,IntKind.bits,IntKind.signed,Bool.false_and,Bool.false_eq_true,if_false]
  omega
 rw [eI]
 clear eI
 have hdep:=Zj3 (show D.leaves.length<=65536 by omega)
 have hpw:I<2^depM D.leaves.length:=Nat.lt_of_lt_of_le hI (Zuh _)
 obtain ⟨X,hX⟩:∃X,D.leaves[I]? =some X:=⟨_,gB9 hI⟩
 have hXd:D.leaves.getD I []=X:=by rw [List.getD_eq_getElem?_getD,hX];rfl
 have hch:(Xa D (I:Int)).leaves=D.leaves.set I (Zb1 X):=by
  show D.leaves.set (Int.toNat (I:Int)) (Zb1 (D.leaves.getD (Int.toNat (I:Int)) []))=_
  rw [Int.toNat_natCast,hXd]
 simp only [Int.toNat_natCast]
 generalize hLd:D.leaves=L at*
 have hself:L.set I X=L:=by
  obtain ⟨g1,g2⟩:=gA9.1 hX
  rw [<-g2]
  exact List.set_getElem_self g1
 have hPl:(Vo L I (depM L.length)).length=depM L.length:=Zh7 _ _ _
 refine ⟨fun h=>absurd (beq_iff_eq.1 h) (by omega),fun _=>⟨fun h=>absurd (of_decide_eq_true h) (by omega),fun _=>⟨fun h=>w3 h,fun h=>absurd (of_decide_eq_true h) (by omega),fun _=>⟨by omega,fun dp hdp=>⟨⟨by omega,by omega,by omega,trivial⟩,fun R hR=>⟨⟨by omega,by omega,hpw⟩,fun P hP=>⟨⟨by omega,by omega,by omega⟩,fun D2 hD2=> ?_⟩⟩⟩⟩⟩⟩⟩
 subst hdp
 have hL2:D2.leaves=L.set I (Zb1 X):=by rw [hD2];exact hch
 have hl2:D2.leaves.length=L.length:=by rw [hL2,List.length_set]
 have hX2:D2.leaves[I]? =some (Zb1 X):=by rw [hL2];exact List.getElem?_set_self hI
 have hdf:Xb L D2.leaves 0=some I:=by
  rw [hL2,Zm3 _ _ _ _ _ hX,if_neg (Znr X)]
  simp
 rw [hl2]
 refine ⟨fun h=>absurd (of_decide_eq_true h) (by omega),fun _=>⟨by omega,fun dp2 hdp2=>⟨⟨by omega,by omega,by omega,trivial⟩,fun R2 hR2=>⟨fun h=>absurd h (by decide),fun _=>⟨fun h=>absurd h (by simp),fun _=>⟨by omega,by omega,fun x hx=> ?_⟩⟩⟩⟩⟩⟩
 subst hdp2
 rw [hX] at hx
 cases hx
 have i1:Zeq ((L.length:Int),n32q R) I (n32q X) P=true:=by
  rw [hP,Zg7 rfl hI,hself,hR]
  simp
 have i2:Zeq ((L.length:Int),n32q R2) I (n32q (Zb1 X)) P=true:=by
  rw [hP,Zg7 rfl hI,hR2,hL2]
  simp
 have i3:Zeq ((L.length:Int),n32q R) I (n32q (Zb1 X)) P=decide (n32 R2=n32 R):=by
  rw [hP,Zg7 rfl hI,hR2,hL2]
 refine ⟨⟨by omega,by omega,hpw,by rw [hP];exact hPl⟩,fun b1 hb1=>⟨fun h=> ?_,fun _=>⟨by omega,by omega,fun x2 hx2=> ?_⟩⟩⟩
 · rw [hb1,i1] at h;cases h
 rw [hX2] at hx2
 cases hx2
 refine ⟨⟨by omega,by omega,hpw,by rw [hP];exact hPl⟩,fun b2 hb2=>⟨fun h=> ?_,fun _=>⟨⟨⟨by omega,rfl⟩,I,hdf⟩,fun m hm=>⟨fun _=>fun w hw=> ?_,fun h=> ?_⟩⟩⟩⟩
 · rw [hb2,i2] at h;cases h
 · have hw:w= !decide (n32 R=n32 R2):=by
    rw [hw,Zuj]
    simp
   refine ⟨fun hwt=>⟨by omega,by omega,fun x3 hx3=> ?_⟩,fun hwf=>⟨by omega,by omega,fun x3 hx3=> ?_⟩⟩
   all_goals
    rw [hX2] at hx3
    cases hx3
    refine ⟨⟨by omega,by omega,hpw,by rw [hP];exact hPl⟩,fun b3 hb3=>⟨fun _=>trivial,fun h=> ?_⟩⟩
    rw [i3] at hb3
   · rw [hwt] at hw
     have:n32 R≠n32 R2:=by simpa using hw.symm
     rw [hb3,decide_eq_false (Ne.symm this)] at h
     cases h
   · rw [hwf] at hw
     have:n32 R=n32 R2:=by simpa using hw.symm
     rw [hb3,decide_eq_true this.symm] at h
     cases h
 · rw [hm,hdf] at h
   simp at h
end
section
open Go.ChangeShapes Go.WideShapes Go.ChangeAt Go.RowKit

theorem deriveProves_lifted (os:Os) (started:os.Started) (H:Type) (enc:TypeId×Value->H) (F:Stop.Interp):
    ReturnsInHanded {calm:=true} Tryz.checked os 6 .any (fun w args=>(Rows.deriveProvesSpec.pre enc Tryz.prog Tryz.f6 [] false w args/\laidMetH Tryz.prog Zov w)/\sizedMet enc Tryz.prog Tryz.f6 (OpenSpec.ofChange Rows.deriveProvesSpec) false w args)
      ((OpenSpec.ofChange Rows.deriveProvesSpec).postWith enc Tryz.prog Tryz.f6 F (outsideKept [.timePasses]) false true false):=by
  refine Go.Clock.returns_of_change (C:=Tryz.checked) (X:=fun w _=>laidMetH Tryz.prog Zov w) (fun _ _ _ hh h=>h.of_heap hh) Tryz.own started (by kernel_rfl) Tryz.func6
    (Go.Clock.witness_at (enc:=enc) (C:=Tryz.checked) (os:=os) (X:=fun w _=>laidMetH Tryz.prog Zov w) (World.doorLaid Tryz.prog 600 os) #[.slice none 0 0,.agg #[.int .i64 0,.int .i64 0,.int .i64 0,.int .i64 0,.int .i64 0,.int .i64 0,.int .i64 0,.int .i64 0,.int .i64 0,.int .i64 0,.int .i64 0,.int .i64 0,.int .i64 0,.int .i64 0,.int .i64 0,.int .i64 0,.int .i64 0],.int .i64 0] 8 rfl (World.shaped_of_RefB (by kernel_rfl) (by kernel_rfl)) (by kernel_rfl) (by kernel_rfl) (by kernel_rfl) (Zry os _)) ?_
  intro W base args ds gs before hval0 hW _ hz hL _
  have hval:∀(j:Nat) t v,Tryz.f6.params[j]? =some t->args[j]? =some v->Value.okWide Tryz.prog W .any base t v:=hval0
  have hW':=hW
  obtain ⟨p,q,hA0,hV,rfl,hfz,hnd⟩:=hW
  have hA:DataW.TrodAll enc Tryz.prog W 0 (fun _=>true) true Tryz.f6.params.toList args.toList ds p:=hA0
  rw [Tryz.params6] at hA hval hz
  obtain ⟨v0,v1,v2,d0,d1,d2,p0,p1,p2,rfl,rfl,rfl,h0,h1,h2⟩:=trodAll_three hA
  obtain ⟨rfl,rfl⟩:=trodVars_none hV
  obtain ⟨c,hdc⟩:=Zs8 (hval 0 23 v0 rfl rfl) h0
  obtain ⟨v,hdv⟩:=Zwu h1
  obtain ⟨k,rfl,_,hrk,_⟩:=open_int Tryz.underlying3 (hval 2 3 v2 rfl rfl) h2
  refine (Zow (Zi4 c v k) hL (Zh1 hdc (Zh1 hdv (Z33 (.int _ _ _))))).mono fun en W' ⟨hen,hw⟩=> ?_
  exact ⟨_,hen,Zrb Tryz.laidOut rfl Tryz.underlying4 (by kernel_rfl) rfl hW' rfl rfl rfl (Zyn hw).1,(Zyn hw).2⟩

end
section
open Go.ChangeShapes Go.WideShapes Go.ChangeAt Go.RowKit

theorem Uf:(Rows.deriveProvesRow.inPlace==Tryz.prog.inPlace 6)=true:=by kernel_rfl
theorem W7:(Rows.deriveProvesRow.unfollowed==Tryz.prog.unfollowed 6)=true:=by kernel_rfl
theorem Vq:(Rows.deriveProvesRow.recurses==Tryz.prog.recurses 6)=true:=by kernel_rfl
theorem Zan:(Rows.deriveProvesRow.named==Tryz.prog.varsNamed 6)=true:=by kernel_rfl
theorem Zao:joinedFacts Tryz.prog 6 Tryz.f6 Rows.deriveProvesSpec Rows.deriveProvesRow=true:=by
  unfold joinedFacts
  rw [Uf,W7,Vq,Zan]
  kernel_rfl
theorem Zbh:Tryz.prog.funcNamed Rows.deriveProvesRow.func=some 6:=by kernel_rfl
theorem deriveProves_holds:Rows.DeriveProvesSaid:=
  Go.Clock.holds_of_wide_time 6 Tryz.f6 rfl rfl rfl rfl rfl rfl rfl ⟨rfl,rfl,rfl,rfl,rfl⟩ rfl rfl rfl rfl rfl Zbh Tryz.func6 Zao
    (of_decide_eq_true (by kernel_rfl)) (by unfold Func.isWrapper;first|(rw [if_pos (by decide+kernel)];kernel_rfl)|(rw [if_neg (by decide+kernel)];exact ⟨rfl,rfl⟩))
    (fun os started H enc _ F=>deriveProves_lifted os started H enc F)

end
end Go.Proofs.YtnailikggmapcaaGreatDoor
end
