/- Merged texts: TvD, TvE, TvF, TvG, TvH, TvI, TvJ, TvTopA, TvTop, TvUs, TvUa, TvUb, TvUc, TvL, TvK, TvBr, TvBk, TvTa, TvTb. -/
import Derived.Test.YtbaeahmhdfdndaaGreatDoorTie
import Derived.Test.YtbaeahmhdfdndaaGreatDoorCards
import Derived.Stop.Joined
import Derived.SevenTiedAt
import Derived.WideKeyElems2
import Derived.Test.YtbaeahmhdfdndaaGreatDoorMc
noncomputable section
namespace Go.Proofs.YtbaeahmhdfdndaaGreatDoor
set_option linter.unusedVariables false
set_option linter.unusedSimpArgs false
set_option linter.unnecessarySimpa false
set_option maxRecDepth 100000
section
open Go
def dIns:Dc E Ins:= .map (dAgg dIII) (fun x=>⟨x.1,x.2.1,x.2.2.1⟩) (fun x=>(x.op,x.n,x.m,())) (fun _=>rfl)
def Ztw:Dc E (List Ins):=(Zmc (E:=E) Th.ins:Dc E (List (thy.dom Th.ins)))
def Z3t:Dc E (List Int):=(Zmc (E:=E) Th.ints:Dc E (List (thy.dom Th.ints)))
def dL1 {α:Type} (d:Dc E α):DcL E (α×Unit):= .cons d .nil
def dL2 {α β:Type} (d:Dc E α) (e:Dc E β):DcL E (α×β×Unit):= .cons d (dL1 e)
def dL3 {α β γ:Type} (d:Dc E α) (e:Dc E β) (f:Dc E γ):DcL E (α×β×γ×Unit):= .cons d (dL2 e f)
def dL4 {α β γ δ:Type} (d:Dc E α) (e:Dc E β) (f:Dc E γ) (k:Dc E δ):DcL E (α×β×γ×δ×Unit):= .cons d (dL3 e f k)
def Znq:Sum thy:=sumP (dL1 dIns) (fun _=>True) fun x=> .bool false (formedF x.1)
def Seff:Sum thy:=sumP (dL1 dI) (fun _=>True) fun x=> .tup [.int false .i64 (eff x.1).1,.int false .i64 (eff x.1).2]
def Zyf:Sum thy:=sumP (dL1 dI) (fun _=>True) fun x=> .int false .i64 (Yk x.1)
def Sbin:Sum thy:=sumP dIII (fun _=>True) fun x=> .tup [.int false .i64 (binF x.1 x.2.1 x.2.2.1).1,.int false .i64 (binF x.1 x.2.1 x.2.2.1).2]
def Zcl (c:List Ins) (i:Int):List Int:=match c[i.toNat]? with|some x=>Zio i x|none=> []
def Z0k:Sum thy:=sumP (dL2 Ztw dI) (fun x=>0<=x.2.1/\x.2.1<x.1.length/\x.1.length<=4096) fun x=> .psl .ints (Zcl x.1 x.2.1) false
def F2a:Fns thy:=addS (addS (addS (addS Fv1 60 Znq) 62 Seff) 28 Zyf) 32 Zyf
theorem Z20:FnsOk E F2a:=by
  refine Zc (Zc (Zc (Zc Za0 ?_) ?_) ?_) ?_
  · exact Z7 E_ok (Ze (f:=60) rfl) fun x _=>Zky x.1
  · exact Z7 E_ok (Ze (f:=62) rfl) fun x _=>Zkz x.1
  · exact Z7 E_ok (Ze (f:=28) rfl) fun x _=>Zot x.1
  · exact Z7 E_ok (Ze (f:=32) rfl) fun x _=>Zdk x.1
def Fv2:Fns thy:=addS (addS (addS (addS F2a 49 Znq) 50 Seff) 73 Sbin) 51 Z0k
theorem Z21:FnsOk E Fv2:=by
  refine Zc (Zc (Zc (Zc Z20 ?_) ?_) ?_) ?_
  · exact Z7 E_ok (Ze (f:=49) rfl) fun x _=>Zim x.1
  · exact Z7 E_ok (Ze (f:=50) rfl) fun x _=>Zos x.1
  · exact Z7 E_ok (Ze (f:=73) rfl) fun x _=>Zin x.1 x.2.1 x.2.2.1
  · refine Z7 E_ok (Ze (f:=51) rfl) fun x h=> ?_
    obtain ⟨h0,h1,h2⟩:=h
    obtain ⟨y,hy⟩:∃y,x.1[x.2.1.toNat]? =some y:=⟨x.1[x.2.1.toNat]'(by omega),by simp⟩
    have:=Zk0 x.1 x.2.1 y h0 h1 h2 hy
    unfold Zcl
    rw [hy]
    exact this
/-- the loop of IndexFunc -/
def A48:Fr thy->Hp thy->Nat->Ann thy:=fun T h i=>{X:=LX,fr:=fun x=> [(0,T 0),(1,T 1),(7,T 7),(8,.int false .i64 x.k)],bl:=fun _=> [],src:=fun _=> [],md:= [],ih:=i,M:=i+30,meas:=fun x=>x.r}
/-- the loop of Repeat -/
def A32:Fr thy->Hp thy->Nat->Ann thy:=fun T h i=>{X:=LX,fr:=fun x=> [(7,T 7),(8,.int false .i64 x.k)],bl:=fun x=> [(bOf (T 7),.rows .ints x.D 0)],src:=fun _=> [],md:= [bOf (T 7)],ih:=i,M:=i+30,meas:=fun x=>x.r}
/-- the loop of Verify -/
def A9:Fr thy->Hp thy->Nat->Ann thy:=fun T h i=>{X:=LX,fr:=fun x=> [(0,T 0),(2,.int false .i64 x.m),(4,T 4),(30,T 30),(31,T 31),(32,.int false .i64 x.k)],bl:=fun x=> [(bOf (T 4),.rows .ints x.D 0)],src:=fun _=> [],md:= [bOf (T 4)],ih:=i,M:=i+60,meas:=fun x=>x.r}
/-- the loop over what can follow -/
def A9n:Fr thy->Hp thy->Nat->Ann thy:=fun T h i=>{X:=LX,fr:=fun x=> [(0,T 0),(2,T 2),(4,T 4),(5,T 5),(10,T 10),(30,T 30),(31,T 31),(32,T 32),(110,T 110),(111,T 111),(112,.int false .i64 x.k)],bl:=fun x=>(bOf (T 4),.rows .ints x.D 0)::blkS h (T 110),src:=fun _=> [],md:= [bOf (T 4)],ih:=i,M:=i+20,meas:=fun x=>x.r}
def F3:Fns thy:=addL (addL (addL (addL Fv2 81 2 A48 E) 61 8 A32 E) 47 8 A9 E) 47 23 A9n E
theorem Z0l:FnsOk E F3:=Zv E_ok (Zv E_ok (Zv E_ok (Zv E_ok Z21 _ _ _) _ _ _) _ _ _) _ _ _
theorem Zhb {y:Int} (h0:0<=y) (h:y<4294967296):Zn .and .u64 y 4294967295=y:=by
  obtain ⟨n,rfl⟩:=Int.eq_ofNat_of_zero_le h0
  have h':n<4294967296:=by omega
  have e:(BitVec.ofInt 64 (n:Int)&&&BitVec.ofInt 64 4294967295).toNat=n:=by
    rw [BitVec.toNat_and]
    have e1:(BitVec.ofInt 64 (n:Int)).toNat=n:=by
      rw [BitVec.toNat_ofInt];omega
    have e2:(BitVec.ofInt 64 4294967295).toNat=2^32-1:=by decide
    rw [e1,e2,Nat.and_two_pow_sub_one_eq_mod]
    omega
  show IntKind.u64.wrap ((BitVec.ofInt 64 (n:Int)&&&BitVec.ofInt 64 4294967295).toNat:Int)=n
  rw [e,IntKind.wrap_u64]
  omega
theorem Zyg {n:Int} (h1:0<=n) (h2:n<18446744073709551616):wr .u64 n=n:=by simp only [wr,IntKind.wrap_u64];omega
theorem Zbf {α:Type} {f:α->Bool} {l:List α} {k:Nat} {x:α} (h:l[k]? =some x):(l.take (k+1)).all f=((l.take k).all f&&f x):=by
  obtain ⟨hk,rfl⟩:=gA9.1 h
  rw [List.take_succ_eq_append_getElem hk,List.all_append,List.all_cons,List.all_nil,Bool.and_true]
theorem Zeb {α:Type} {f:α->Bool} {l:List α} {k:Nat} {x:α} (h:l[k]? =some x) (hf:f x=false):l.all f=false:=by
  rw [Bool.eq_false_iff]
  intro hh
  have:=(List.all_eq_true.1 hh) x (List.mem_of_getElem? h)
  rw [hf] at this;cases this
--@cond bmul | 83 | F3 | 400 | (x y : Int) | [.int false .u64 x, .int false .u64 y] | (p q : Int) | .tup [.int false .u64 p, .int false .u64 q]
theorem Ztx (x y:Int) (p q:Int):Zm E F3 (vc E F3 400) 83 [.int false .u64 x,.int false .u64 y] hp0 0 (fun r=>ret E (patch hp0 0 r) r.v (.tup [.int false .u64 p,.int false .u64 q]))=(
  wr IntKind.u64
        (wr IntKind.u64
            (wr IntKind.u64
                (Int.fdiv x (2^min (Int.toNat 32) (IntKind.bits IntKind.u64))*
                  Int.fdiv y (2^min (Int.toNat 32) (IntKind.bits IntKind.u64)))+
              Int.fdiv
                (wr IntKind.u64
                  (wr IntKind.u64
                      (Int.fdiv x (2^min (Int.toNat 32) (IntKind.bits IntKind.u64))*
                        Zn BinOp.and IntKind.u64 y 4294967295)+
                    Int.fdiv
                      (wr IntKind.u64
                        (Zn BinOp.and IntKind.u64 x 4294967295*Zn BinOp.and IntKind.u64 y 4294967295))
                      (2^min (Int.toNat 32) (IntKind.bits IntKind.u64))))
                (2^min (Int.toNat 32) (IntKind.bits IntKind.u64)))+
          Int.fdiv
            (wr IntKind.u64
              (Zn BinOp.and IntKind.u64
                  (wr IntKind.u64
                    (wr IntKind.u64
                        (Int.fdiv x (2^min (Int.toNat 32) (IntKind.bits IntKind.u64))*
                          Zn BinOp.and IntKind.u64 y 4294967295)+
                      Int.fdiv
                        (wr IntKind.u64
                          (Zn BinOp.and IntKind.u64 x 4294967295*Zn BinOp.and IntKind.u64 y 4294967295))
                        (2^min (Int.toNat 32) (IntKind.bits IntKind.u64))))
                  4294967295+
                wr IntKind.u64
                  (Zn BinOp.and IntKind.u64 x 4294967295*
                    Int.fdiv y (2^min (Int.toNat 32) (IntKind.bits IntKind.u64)))))
            (2^min (Int.toNat 32) (IntKind.bits IntKind.u64)))=
      p/\
    wr IntKind.u64 (x*y)=q/\True
  ):=by kernel_rfl
--@end
--@cond contains | 58 | F3 | 400 | (c : List Ins) | [.psl .ins c false, .fn (.func 59) [] []] | (b : Bool) | .bool false b
theorem Zhc (c:List Ins) (b:Bool):Zm E F3 (vc E F3 400) 58 [.psl .ins c false,.fn (.func 59) [] []] hp0 0 (fun r=>ret E (patch hp0 0 r) r.v (.bool false b))=(
  ∃(R:LX->Prop),
    (∃(x:LX),
        R x/\
          true=true/\
            ((c=c/\(false=true->false=true))/\
                (Fn.func 59=Fn.func 59/\True/\True)/\
                  (↑(List.length c):Int)=(↑(List.length c):Int)/\0=(↑(LX.k x):Int)/\True)/\
              True)/\
      ∀(x:LX),
        R x->
          (decide ((↑(LX.k x):Int)<(↑(List.length c):Int))=true->
              0<=(↑(LX.k x):Int)/\
                (↑(LX.k x):Int)+1<=(↑(List.length c):Int)/\
                  ∀(x_1:Ins),
                    c[Int.toNat (↑(LX.k x):Int)]? =some x_1->
                      True/\
                        ((!formedF x_1)=true->
                            (decide ((↑(LX.k x):Int)>=0)=true->true=b)/\
                              (decide ((↑(LX.k x):Int)>=0)=false->false=b))/\
                          ((!formedF x_1)=false->
                            ∃(x':LX),
                              R x'/\
                                x'.2+1<=x.2/\
                                  true=true/\
                                    ((c=c/\(false=true->false=true))/\
                                        (Fn.func 59=Fn.func 59/\True/\True)/\
                                          (↑(List.length c):Int)=(↑(List.length c):Int)/\
                                            wr IntKind.i64 ((↑(LX.k x):Int)+1)=(↑(LX.k x'):Int)/\True)/\
                                      True))/\
            (decide ((↑(LX.k x):Int)<(↑(List.length c):Int))=false->false=b)
  ):=by kernel_rfl
--@end
theorem Zty (y:Int) (h0:0<=y) (h1:y<4294967296):PureC E 83 [.int false .u64 1,.int false .u64 y] (.tup [.int false .u64 0,.int false .u64 y]):=by
  refine Za E_ok (Zb E_ok Z0l 400) ?_
  rw [Ztx]
  have e1:Int.fdiv y (2^min (Int.toNat 32) (IntKind.bits IntKind.u64))=0:=by
    show y.fdiv 4294967296=0
    rw [Int.fdiv_eq_ediv_of_nonneg _ (by omega)];omega
  have e2:Int.fdiv 1 (2^min (Int.toNat 32) (IntKind.bits IntKind.u64))=0:=by decide
  have e3:Zn .and .u64 1 4294967295=1:=Zhb (by omega) (by omega)
  have e4:=Zhb h0 h1
  have e5:Int.fdiv 0 (2^min (Int.toNat 32) (IntKind.bits IntKind.u64))=0:=by decide
  have e6:wr .u64 0=0:=by decide
  have e7:wr .u64 y=y:=Zyg h0 (by omega)
  have e8:Zn .and .u64 0 4294967295=0:=Zhb (by omega) (by omega)
  simp only [e1,e2,e3,e4,e5,e6,e7,e8,Int.zero_mul,Int.one_mul,Int.mul_zero,Int.zero_add,Int.add_zero,and_self]
theorem Zhd (c:List Ins) (hc:c.length<=4096):PureC E 58 [.psl .ins c false,.fn (.func 59) [] []] (.bool false (!c.all formedF)):=by
  refine Za E_ok (Zb E_ok Z0l 400) ?_
  rw [Zhc]
  refine ⟨fun x=>x.k+x.r=c.length/\(c.take x.k).all formedF=true,⟨⟨0,c.length,[],0⟩,by simp,by simp⟩,fun x hR=> ?_⟩
  obtain ⟨h1,h2⟩:=hR
  simp only [Z4,Zu,Yw,Yx,Yy,beq_iff_eq,bne_iff_ne,beq_eq_false_iff_ne,bne_eq_false_iff_eq,decide_eq_true_eq,decide_eq_false_iff_not,Bool.or_eq_true,Bool.or_eq_false_iff,Bool.not_eq_true',Bool.not_eq_false',Bool.and_eq_true,Bool.and_true,Bool.true_and,Bool.and_eq_false_iff,beq_self_eq_true,Z3,Z5,ne_eq,and_true,true_and,Bool.true_eq_false,Bool.false_eq_true,false_or,or_false,true_implies,Int.ofNat_eq_natCast,not_true_eq_false,not_false_eq_true,Decidable.not_not]
  refine ⟨fun hlt=>⟨by omega,by omega,fun y hy=>⟨fun hf=>⟨fun _=> ?_,fun h=>by omega⟩,fun hf=> ?_⟩⟩,fun hge=> ?_⟩
  · rw [Int.toNat_natCast] at hy
    rw [Zeb hy hf];rfl
  · rw [Int.toNat_natCast] at hy
    refine ⟨⟨x.k+1,x.r-1,[],0⟩,⟨by show x.k+1+(x.r-1)=_;omega,by show (c.take (x.k+1)).all formedF=true;rw [Zbf hy,h2,hf];rfl⟩,by show x.r-1+1<=x.r;omega,?_⟩
    rw [wr64 (by omega) (by omega)]
    simp
  · rw [List.take_of_length_le (by omega)] at h2
    rw [h2];rfl
end
section
open Go
def dFn (f:Nat):Dc E Unit where
 dec v:=match v with| .fn (.func g) [] []=>(match Nat.beq g f with|true=>some ()|false=>none)|_=>none
 enc _:= .fn (.func f) [] []
 ok v a h:=by
  split at h
  · split at h
    · rename_i e
      rw [gC9 e]
      exact ⟨rfl,rfl,fun σ g u hd=>hd⟩
    · cases h
  · cases h
def Zsk:Sum thy:=sumP (dL2 Ztw (dFn 59)) (fun x=>x.1.length<=4096) fun x=> .bool false (!x.1.all formedF)
def Z3p:Sum thy:=sumP (dL2 (dInt .u64) (dInt .u64)) (fun x=>x.1=1/\0<=x.2.1/\x.2.1<4294967296) fun x=> .tup [.int false .u64 0,.int false .u64 x.2.1]
def F4:Fns thy:=addS (addS F3 58 Zsk) 83 Z3p
theorem Zzs:FnsOk E F4:=by
 refine Zc (Zc Z0l ?_) ?_
 · exact Z7 E_ok (Ze (f:=58) rfl) fun x h=>Zhd x.1 h
 · refine Z7 E_ok (Ze (f:=83) rfl) fun x h=> ?_
   obtain ⟨x,y,u⟩:=x
   obtain ⟨rfl,h1,h2⟩:=h
   exact Zty y h1 h2
abbrev qBC7 (a0:List Ins):=(↑(List.length a0):Int)
abbrev qBCt (a0:List Ins):=(wr IntKind.u64 (qBC7 a0))
abbrev qBC1 (a0:List Ins):=(wr IntKind.i64 (qBCt a0))
abbrev qBC2 (a0:Int) (b0:Ins):=(wr IntKind.i64 (a0-Prod.fst (eff (Ins.op b0)))+Prod.snd (eff (Ins.op b0)))
abbrev qBC5 (a0:LX):=(↑(LX.k a0):Int)
abbrev qBC9:=(0:Nat)
abbrev qBCr (a0:List Ins):=(Int.toNat (qBC1 a0))
abbrev qBCe (a0:List Ins):=(↑(qBCr a0):Int)
abbrev qBCc:=(0:Int)
abbrev qBCn:=(1:Int)
abbrev qBCq (a0:Int) (b0:List Ins):=(qBCc<=a0/\a0+qBCn<=(qBCe b0))
abbrev qBCm:=(1:Nat)
abbrev qBC3 (a0:Int) (b0:LX) (c0:Bool->Prop) (d0:List Ins) (e0:LX) (f0:Int) (g0:Ins):=((decide (a0<=(qBC5 b0))=true->c0 true)/\(decide (a0<=(qBC5 b0))=false->(decide (a0>=(qBC7 d0))=true->c0 true)/\(decide (a0>=(qBC7 d0))=false->(qBCq a0 d0)/\qBC9+Int.toNat a0+qBCm<=List.length (LX.D e0)/\∀(b0:Int),(LX.D e0)[qBC9+Int.toNat a0]? =some b0->(decide (b0>=qBCc)=true->(qBCq a0 d0)/\qBC9+Int.toNat a0+qBCm<=List.length (LX.D e0)/\∀(b0:Int),(LX.D e0)[qBC9+Int.toNat a0]? =some b0->((b0 !=wr IntKind.i64 (qBC2 f0 g0))=true->c0 true)/\((b0 !=wr IntKind.i64 (qBC2 f0 g0))=false->c0 false))/\(decide (b0>=qBCc)=false->c0 false))))
abbrev qBC4 (a0:List Ins):=(qBC9=qBC9/\Int.toNat (qBC1 a0)=Int.toNat (qBC1 a0)/\Int.toNat (qBC1 a0)=Int.toNat (qBC1 a0))
abbrev qBC6 (a0:List Ins):=(a0=a0/\(false=true->false=true))
abbrev qBC8 (a0:LX):=((qBC5 a0)+qBCn)
abbrev qBCj (a0:LX) (b0:Int):=(mm2 true (LX.m a0) b0)
abbrev qBCd (a0:Int) (b0:Ins):=(wr IntKind.i64 (qBC2 a0 b0))
abbrev qBCa (a0:List Ins) (b0:LX) (c0:Int) (d0:Ins) (e0:LX):=((qBC6 a0)/\mm2 true (qBCj b0 c0) (qBCd c0 d0)=LX.m e0/\(qBC4 a0)/\(qBC6 a0)/\(qBC7 a0)=(qBC7 a0)/\wr IntKind.i64 (qBC8 b0)=(qBC5 e0)/\True)
abbrev qBCb (a0:Ins) (b0:LX):=(↑(List.length [Ins.n a0]+List.length [wr IntKind.i64 (qBC8 b0)]):Int)
abbrev qBCf (a0:LX):=(↑(List.length [wr IntKind.i64 (qBC8 a0)]):Int)
abbrev qBCg (a0:Ins) (b0:Bool->Prop):=(((Ins.op a0 !=(14:Int))=true->((Ins.op a0 !=(15:Int))=true->((Ins.op a0 !=(16:Int))=true->b0 true)/\((Ins.op a0 !=(16:Int))=false->b0 false))/\((Ins.op a0 !=(15:Int))=false->b0 false))/\((Ins.op a0 !=(14:Int))=false->b0 false))
abbrev qBCh (a0:Ins):=(List.length [Ins.n a0])
abbrev qBCi (a0:LX) (b0:LX):=(LX.D a0=LX.D b0/\qBC9=qBC9)
abbrev qBCk (a0:Ins) (b0:LX):=(qBC9=qBC9/\List.length [Ins.n a0]+List.length [wr IntKind.i64 (qBC8 b0)]=List.length [Ins.n a0]+List.length [wr IntKind.i64 (qBC8 b0)]/\True)
abbrev qBCl (a0:Ins) (b0:LX):=(List.take (qBCh a0) [Ins.n a0]++ [wr IntKind.i64 (qBC8 b0)]=List.take (qBCh a0) [Ins.n a0]++ [wr IntKind.i64 (qBC8 b0)]/\qBC9=qBC9)
abbrev qBCo (a0:LX):=(qBC9=qBC9/\List.length [wr IntKind.i64 (qBC8 a0)]=List.length [wr IntKind.i64 (qBC8 a0)]/\True)
abbrev qBCp (a0:List Ins) (b0:LX):=(Int.toNat (qBC1 a0)-Int.toNat (qBC5 b0))
abbrev qBCs (a0:LX):=(List.take (Int.toNat (qBC5 a0)) (LX.D a0))
abbrev qBCu (a0:Ins):=(qBC9=qBC9/\List.length [Ins.n a0]=List.length [Ins.n a0]/\True)
abbrev qBCv (a0:LX):=([wr IntKind.i64 (qBC8 a0)]= [wr IntKind.i64 (qBC8 a0)]/\qBC9=qBC9)
theorem Zk4 (c:List Ins) (p q:Int):Zm E F4 (vc E F4 400) 47 [.psl .ins c false] hp0 0 (fun r=>ret E (patch hp0 0 r) r.v (.tup [.int false .i64 p,.int false .i64 q]))=(
 (decide ((qBC7 c)>(4096:Int))=true->qBCc=p/\(2:Int)=q/\True)/\(decide ((qBC7 c)>(4096:Int))=false->(((qBC7 c)==qBCc)=true->qBCc=p/\(200:Int)=q/\True)/\(((qBC7 c)==qBCc)=false->List.length c<=(4096:Nat)/\((!List.all c formedF)=true->qBCc=p/\(200:Int)=q/\True)/\((!List.all c formedF)=false->(decide ((qBC7 c)<qBCc)=true->False)/\(decide ((qBC7 c)<qBCc)=false->(qBCn=qBCn/\qBCc<=wr IntKind.u64 (qBC7 c)/\wr IntKind.u64 (qBC7 c)+qBCn<=(4294967296:Int))/\∃(Q:Bool->Prop),((decide (qBCc>qBCc)=true->Q true)/\(decide (qBCc>qBCc)=false->(decide (wr IntKind.u64 (qBC7 c)>(9223372036854775807:Int))=true->Q true)/\(decide (wr IntKind.u64 (qBC7 c)>(9223372036854775807:Int))=false->Q false)))/\(Q true->False)/\(Q false->qBCc<=wr IntKind.i64 (qBCt c)/\wr IntKind.i64 (qBCt c)<=wr IntKind.i64 (qBCt c)/\(↑(8:Nat):Int)*wr IntKind.i64 (qBCt c)<=(281474976710656:Int)/\(qBC9<=qBC9/\qBC9+Int.toNat (qBC1 c)<=List.length (List.replicate (qBCr c) qBCc))/\∃(R:LX->Prop),(∃(x:LX),R x/\true=true/\((qBC4 c)/\(↑(min (List.length [(-1:Int)]) (qBCr c)):Int)=(qBC5 x)/\True)/\(List.take qBC9 (List.replicate (qBCr c) qBCc)++List.take (qBCr c) [(-1:Int)]++List.drop (qBC9+min (List.length [(-1:Int)]) (qBCr c)) (List.replicate (qBCr c) qBCc)=LX.D x/\qBC9=qBC9)/\True)/\∀(x:LX),R x->(decide ((qBC5 x)<(qBCe c))=true->(qBCc<=(qBC5 x)/\(qBC5 x)<=(qBCe c))/\(decide ((qBC5 x)<(qBCe c))=true->(qBCc<=(qBC5 x)/\(qBC5 x)<=(qBCe c))/\qBC9+Int.toNat (qBC5 x)<=List.length (LX.D x)/\(qBC9<=qBC9+Int.toNat (qBC5 x)/\qBC9+Int.toNat (qBC5 x)+(qBCp c x)<=List.length (LX.D x))/\∃(x':LX),R x'/\x'.2+qBCm<=x.2/\true=true/\((qBC4 c)/\wr IntKind.i64 ((qBC5 x)+(↑(min (List.length (qBCs x)) (qBCp c x)):Int))=(qBC5 x')/\True)/\(List.take (qBC9+Int.toNat (qBC5 x)) (LX.D x)++List.take (qBCp c x) (qBCs x)++List.drop (qBC9+Int.toNat (qBC5 x)+min (List.length (qBCs x)) (qBCp c x)) (LX.D x)=LX.D x'/\qBC9=qBC9)/\True)/\(decide ((qBC5 x)<(qBCe c))=false->(qBCc<=(qBC5 x)/\(qBC5 x)<=(qBCe c))/\False))/\(decide ((qBC5 x)<(qBCe c))=false->(qBCc<=qBCc/\qBCc+qBCn<=(qBCe c))/\qBC9<=qBC9+Int.toNat qBCc/\qBC9+Int.toNat qBCc+qBCm<=List.length (LX.D x)/\∀(x_1:Int),(LX.D x)[qBC9+Int.toNat qBCc]? =some x_1->∃(R:LX->Prop),(∃(x_2:LX),R x_2/\true=true/\((qBC6 c)/\qBCc=LX.m x_2/\(qBC4 c)/\(qBC6 c)/\(qBC7 c)=(qBC7 c)/\qBCc=(qBC5 x_2)/\True)/\(List.set (LX.D x) (qBC9+Int.toNat qBCc) qBCc=LX.D x_2/\qBC9=qBC9)/\True)/\∀(x:LX),R x->(decide ((qBC5 x)<(qBC7 c))=true->qBCc<=(qBC5 x)/\(qBC5 x)+qBCn<=(qBC7 c)/\∀(x_2:Ins),c[Int.toNat (qBC5 x)]? =some x_2->(qBCc<=(qBC5 x)/\(qBC5 x)+qBCn<=(qBCe c))/\qBC9+Int.toNat (qBC5 x)+qBCm<=List.length (LX.D x)/\∀(x_3:Int),(LX.D x)[qBC9+Int.toNat (qBC5 x)]? =some x_3->(decide (x_3<qBCc)=true->∃(x':LX),R x'/\x'.2+qBCm<=x.2/\true=true/\((qBC6 c)/\LX.m x=LX.m x'/\(qBC4 c)/\(qBC6 c)/\(qBC7 c)=(qBC7 c)/\wr IntKind.i64 (qBC8 x)=(qBC5 x')/\True)/\(qBCi x x')/\True)/\(decide (x_3<qBCc)=false->True/\∃(Q:Bool->Prop),((decide (x_3<Prod.fst (eff (Ins.op x_2)))=true->Q true)/\(decide (x_3<Prod.fst (eff (Ins.op x_2)))=false->((Ins.op x_2==(15:Int))=true->((x_3 !=qBCn)=true->Q true)/\((x_3 !=qBCn)=false->((Ins.op x_2==(16:Int))=true->((x_3 !=qBCc)=true->Q true)/\((x_3 !=qBCc)=false->Q false))/\((Ins.op x_2==(16:Int))=false->Q false)))/\((Ins.op x_2==(15:Int))=false->((Ins.op x_2==(16:Int))=true->((x_3 !=qBCc)=true->Q true)/\((x_3 !=qBCc)=false->Q false))/\((Ins.op x_2==(16:Int))=false->Q false))))/\(Q true->qBCc=p/\(200:Int)=q/\True)/\(Q false->∃(Q:Bool->Prop),(((Ins.op x_2==(13:Int))=true->Q true)/\
((Ins.op x_2==(13:Int))=false->((Ins.op x_2==(14:Int))=true->Q true)/\((Ins.op x_2==(14:Int))=false->Q false)))/\(Q true->∃(Q:Bool->Prop),(qBCg x_2 Q)/\(Q true->(List.length [Ins.n x_2]<=List.length [Ins.n x_2]/\qBC9<=List.length [Ins.n x_2]/\(List.length [Ins.n x_2]+List.length [wr IntKind.i64 (qBC8 x)])*(8:Nat)<=(140737488355328:Nat))/\∃(R_1:LX->Prop),(∃(x_4:LX),R_1 x_4/\true=true/\((qBC6 c)/\mm2 true (qBCj x x_3) (qBCd x_3 x_2)=mm2 true (qBCj x x_3) (qBCd x_3 x_2)/\(qBC4 c)/\(qBC5 x)=(qBC5 x)/\wr IntKind.i64 (qBC2 x_3 x_2)=wr IntKind.i64 (qBC2 x_3 x_2)/\(qBC6 c)/\(qBC7 c)=(qBC7 c)/\(qBC5 x)=(qBC5 x)/\(qBCk x_2 x)/\(qBCb x_2 x)=(qBCb x_2 x)/\qBCc=(qBC5 x_4)/\True)/\(qBCi x x_4)/\(qBCl x_2 x)/\True)/\∀(x_4:LX),R_1 x_4->(decide ((qBC5 x_4)<(qBCb x_2 x))=true->(qBCc<=(qBC5 x_4)/\(qBC5 x_4)+qBCn<=(qBCb x_2 x))/\qBC9+Int.toNat (qBC5 x_4)+qBCm<=List.length (List.take (qBCh x_2) [Ins.n x_2]++ [wr IntKind.i64 (qBC8 x)])/\∀(x_5:Int),(List.take (qBCh x_2) [Ins.n x_2]++ [wr IntKind.i64 (qBC8 x)])[qBC9+Int.toNat (qBC5 x_4)]? =some x_5->∃(Q:Bool->Prop),(qBC3 x_5 x Q c x_4 x_3 x_2)/\(Q true->qBCc=p/\(200:Int)=q/\True)/\(Q false->(qBCq x_5 c)/\qBC9<=qBC9+Int.toNat x_5/\qBC9+Int.toNat x_5+qBCm<=List.length (LX.D x_4)/\∀(x_6:Int),(LX.D x_4)[qBC9+Int.toNat x_5]? =some x_6->∃(x':LX),R_1 x'/\x'.2+qBCm<=x_4.2/\true=true/\((qBC6 c)/\mm2 true (qBCj x x_3) (qBCd x_3 x_2)=mm2 true (qBCj x x_3) (qBCd x_3 x_2)/\(qBC4 c)/\(qBC5 x)=(qBC5 x)/\wr IntKind.i64 (qBC2 x_3 x_2)=wr IntKind.i64 (qBC2 x_3 x_2)/\(qBC6 c)/\(qBC7 c)=(qBC7 c)/\(qBC5 x)=(qBC5 x)/\(qBCk x_2 x)/\(qBCb x_2 x)=(qBCb x_2 x)/\wr IntKind.i64 (qBC8 x_4)=(qBC5 x')/\True)/\(List.set (LX.D x_4) (qBC9+Int.toNat x_5) (qBCd x_3 x_2)=LX.D x'/\qBC9=qBC9)/\(qBCl x_2 x)/\True))/\(decide ((qBC5 x_4)<(qBCb x_2 x))=false->∃(x':LX),R x'/\x'.2+qBCm<=x.2/\true=true/\(qBCa c x x_3 x_2 x')/\(qBCi x_4 x')/\True))/\(Q false->∃(R_1:LX->Prop),(∃(x_4:LX),R_1 x_4/\true=true/\((qBC6 c)/\mm2 true (qBCj x x_3) (qBCd x_3 x_2)=mm2 true (qBCj x x_3) (qBCd x_3 x_2)/\(qBC4 c)/\(qBC5 x)=(qBC5 x)/\wr IntKind.i64 (qBC2 x_3 x_2)=wr IntKind.i64 (qBC2 x_3 x_2)/\(qBC6 c)/\(qBC7 c)=(qBC7 c)/\(qBC5 x)=(qBC5 x)/\(qBCu x_2)/\(↑(qBCh x_2):Int)=(↑(qBCh x_2):Int)/\qBCc=(qBC5 x_4)/\True)/\(qBCi x x_4)/\([Ins.n x_2]= [Ins.n x_2]/\qBC9=qBC9)/\True)/\∀(x_4:LX),R_1 x_4->(decide ((qBC5 x_4)<(↑(qBCh x_2):Int))=true->(qBCc<=(qBC5 x_4)/\(qBC5 x_4)+qBCn<=(↑(qBCh x_2):Int))/\qBC9+Int.toNat (qBC5 x_4)+qBCm<=List.length [Ins.n x_2]/\∀(x_5:Int),[Ins.n x_2][qBC9+Int.toNat (qBC5 x_4)]? =some x_5->∃(Q:Bool->Prop),(qBC3 x_5 x Q c x_4 x_3 x_2)/\(Q true->qBCc=p/\(200:Int)=q/\True)/\(Q false->(qBCq x_5 c)/\qBC9<=qBC9+Int.toNat x_5/\qBC9+Int.toNat x_5+qBCm<=List.length (LX.D x_4)/\∀(x_6:Int),(LX.D x_4)[qBC9+Int.toNat x_5]? =some x_6->∃(x':LX),R_1 x'/\x'.2+qBCm<=x_4.2/\true=true/\((qBC6 c)/\mm2 true (qBCj x x_3) (qBCd x_3 x_2)=mm2 true (qBCj x x_3) (qBCd x_3 x_2)/\(qBC4 c)/\(qBC5 x)=(qBC5 x)/\wr IntKind.i64 (qBC2 x_3 x_2)=wr IntKind.i64 (qBC2 x_3 x_2)/\(qBC6 c)/\(qBC7 c)=(qBC7 c)/\(qBC5 x)=(qBC5 x)/\(qBCu x_2)/\(↑(qBCh x_2):Int)=(↑(qBCh x_2):Int)/\wr IntKind.i64 (qBC8 x_4)=(qBC5 x')/\True)/\(List.set (LX.D x_4) (qBC9+Int.toNat x_5) (qBCd x_3 x_2)=LX.D x'/\qBC9=qBC9)/\([Ins.n x_2]= [Ins.n x_2]/\qBC9=qBC9)/\True))/\(decide ((qBC5 x_4)<(↑(qBCh x_2):Int))=false->∃(x':LX),R x'/\x'.2+qBCm<=x.2/\true=true/\(qBCa c x x_3 x_2 x')/\(qBCi x_4 x')/\True)))/\(Q false->∃(Q:Bool->Prop),(qBCg x_2 Q)/\(Q true->∃(R_1:LX->Prop),(∃(x_4:LX),R_1 x_4/\true=true/\((qBC6 c)/\mm2 true (qBCj x x_3) (qBCd x_3 x_2)=mm2 true (qBCj x x_3) (qBCd x_3 x_2)
/\(qBC4 c)/\(qBC5 x)=(qBC5 x)/\wr IntKind.i64 (qBC2 x_3 x_2)=wr IntKind.i64 (qBC2 x_3 x_2)/\(qBC6 c)/\(qBC7 c)=(qBC7 c)/\(qBC5 x)=(qBC5 x)/\(qBCo x)/\(qBCf x)=(qBCf x)/\qBCc=(qBC5 x_4)/\True)/\(qBCi x x_4)/\(qBCv x)/\True)/\∀(x_4:LX),R_1 x_4->(decide ((qBC5 x_4)<(qBCf x))=true->(qBCc<=(qBC5 x_4)/\(qBC5 x_4)+qBCn<=(qBCf x))/\qBC9+Int.toNat (qBC5 x_4)+qBCm<=List.length [wr IntKind.i64 (qBC8 x)]/\∀(x_5:Int),[wr IntKind.i64 (qBC8 x)][qBC9+Int.toNat (qBC5 x_4)]? =some x_5->∃(Q:Bool->Prop),(qBC3 x_5 x Q c x_4 x_3 x_2)/\(Q true->qBCc=p/\(200:Int)=q/\True)/\(Q false->(qBCq x_5 c)/\qBC9<=qBC9+Int.toNat x_5/\qBC9+Int.toNat x_5+qBCm<=List.length (LX.D x_4)/\∀(x_6:Int),(LX.D x_4)[qBC9+Int.toNat x_5]? =some x_6->∃(x':LX),R_1 x'/\x'.2+qBCm<=x_4.2/\true=true/\((qBC6 c)/\mm2 true (qBCj x x_3) (qBCd x_3 x_2)=mm2 true (qBCj x x_3) (qBCd x_3 x_2)/\(qBC4 c)/\(qBC5 x)=(qBC5 x)/\wr IntKind.i64 (qBC2 x_3 x_2)=wr IntKind.i64 (qBC2 x_3 x_2)/\(qBC6 c)/\(qBC7 c)=(qBC7 c)/\(qBC5 x)=(qBC5 x)/\(qBCo x)/\(qBCf x)=(qBCf x)/\wr IntKind.i64 (qBC8 x_4)=(qBC5 x')/\True)/\(List.set (LX.D x_4) (qBC9+Int.toNat x_5) (qBCd x_3 x_2)=LX.D x'/\qBC9=qBC9)/\(qBCv x)/\True))/\(decide ((qBC5 x_4)<(qBCf x))=false->∃(x':LX),R x'/\x'.2+qBCm<=x.2/\true=true/\(qBCa c x x_3 x_2 x')/\(qBCi x_4 x')/\True))/\(Q false->∃(R_1:LX->Prop),(∃(x_4:LX),R_1 x_4/\true=true/\((qBC6 c)/\mm2 true (qBCj x x_3) (qBCd x_3 x_2)=mm2 true (qBCj x x_3) (qBCd x_3 x_2)/\(qBC4 c)/\(qBC5 x)=(qBC5 x)/\wr IntKind.i64 (qBC2 x_3 x_2)=wr IntKind.i64 (qBC2 x_3 x_2)/\(qBC6 c)/\(qBC7 c)=(qBC7 c)/\(qBC5 x)=(qBC5 x)/\Value.slice none qBC9 qBC9=Value.slice none qBC9 qBC9/\qBCc=qBCc/\qBCc=(qBC5 x_4)/\True)/\(qBCi x x_4)/\True)/\∀(x_4:LX),R_1 x_4->(decide ((qBC5 x_4)<qBCc)=true->False)/\(decide ((qBC5 x_4)<qBCc)=false->∃(x':LX),R x'/\x'.2+qBCm<=x.2/\true=true/\(qBCa c x x_3 x_2 x')/\(qBCi x_4 x')/\True))))))/\(decide ((qBC5 x)<(qBC7 c))=false->(decide (LX.m x>(64:Int))=true->qBCc=p/\(2:Int)=q/\True)/\(decide (LX.m x>(64:Int))=false->LX.m x=p/\qBCc=q/\True))))))))):=by kernel_rfl
end
section
open Go
theorem Zwj {n k:Nat} (h1:1<=k) (h2:k<n) {D:List Int} (hD:D=List.replicate k (-1)++List.replicate (n-k) 0):
 List.take k D++List.take (n-k) (List.take k D)++List.drop (k+min (List.take k D).length (n-k)) D=List.replicate (k+min k (n-k)) (-1)++List.replicate (n-(k+min k (n-k))) 0:=by
 subst hD
 have e1:List.take k (List.replicate k (-1:Int)++List.replicate (n-k) 0)=List.replicate k (-1):=List.take_left' (by simp)
 rw [e1,List.length_replicate,List.take_replicate]
 have e2:List.drop (k+min k (n-k)) (List.replicate k (-1:Int)++List.replicate (n-k) 0)=List.drop (min k (n-k)) (List.replicate (n-k) 0):=by
  rw [List.drop_append,List.length_replicate,List.drop_eq_nil_of_le (by simp),show k+min k (n-k)-k=min k (n-k) by omega,List.nil_append]
 rw [e2,List.drop_replicate,List.replicate_append_replicate,Nat.min_comm (n-k) k,show n-k-min k (n-k)=n-(k+min k (n-k)) by omega]
structure RV (c:List Ins) (x:LX):Prop where
 kr:x.k+x.r=c.length
 len:x.D.length=c.length
 lo:∀d∈x.D,-1<=d/\d<=x.k
 run:fromF c.length (c.drop x.k) x.k x.D x.m=fromF c.length c 0 (deps c) 0
structure RN (c:List Ins) (x:LX) (after:Int) (ns:List Int) (y:LX):Prop where
 kr:y.k+y.r=ns.length
 len:y.D.length=c.length
 lo:∀d∈y.D,-1<=d/\d<=x.k+1
 run:setF c.length x.k after (ns.drop y.k) y.D=setF c.length x.k after ns x.D
theorem Zx7 (op:Int):0<=(eff op).1/\(eff op).1<=2/\0<=(eff op).2/\(eff op).2<=1:=by
 unfold eff
 repeat' split
 all_goals simp
theorem Up {D:List Int} {j:Nat} {a lo hi:Int} (h:∀d∈D,lo<=d/\d<=hi) (h2:lo<=a/\a<=hi):∀d∈D.set j a,lo<=d/\d<=hi:=by
 intro d hd
 rcases List.mem_or_eq_of_mem_set hd with h3|h3
 · exact h d h3
 · subst h3;exact h2
theorem Zk3 (c:List Ins):PureC E 47 [.psl .ins c false] (.tup [.int false .i64 (verF c).1,.int false .i64 (verF c).2]):=by
 refine Za E_ok (Zb E_ok Zzs 400) ?_
 rw [Zk4]; delta qBC7 qBCc qBCn qBCt qBC9 qBC1 qBCr qBC4 qBC5 qBCe qBCp qBCm qBCs qBC6 qBC8 qBCi qBCg qBCj qBCd qBC2 qBCk qBCb qBCl qBCh qBC3 qBCq qBCa qBCu qBCo qBCf qBCv
 have s1:4096<c.length->verF c=(0,2):=fun h=>by unfold verF;rw [if_pos h]
 have s2:c.length=0->verF c=(0,200):=fun h=>by unfold verF;rw [if_neg (by omega),if_pos (.inl h)]
 have s3:c.length<=4096->c.all formedF=false->verF c=(0,200):=fun h h2=>by unfold verF;rw [if_neg (by omega),if_pos (.inr h2)]
 have s4:c.length<=4096->c.length≠0->c.all formedF=true->verF c=endF (fromF c.length c 0 (deps c) 0):=fun h h2 h3=>by unfold verF;rw [if_neg (by omega),if_neg (by simp [h2,h3])]
 generalize verF c=V at*
 simp only [Z4,Zu,Yw,Yx,Yy,beq_iff_eq,bne_iff_ne,beq_eq_false_iff_ne,bne_eq_false_iff_eq,decide_eq_true_eq,decide_eq_false_iff_not,Bool.or_eq_true,Bool.or_eq_false_iff,Bool.not_eq_true',Bool.not_eq_false',Bool.and_eq_true,Bool.and_true,Bool.true_and,Bool.and_eq_false_iff,beq_self_eq_true,Z3,Z5,ne_eq,and_true,true_and,Bool.true_eq_false,Bool.false_eq_true,false_or,or_false,true_implies,Int.ofNat_eq_natCast,not_true_eq_false,not_false_eq_true,Decidable.not_not,gt_iff_lt,ge_iff_le]
 refine ⟨fun h=> ?_,fun h=>⟨fun h2=> ?_,fun h2=>⟨by omega,fun h3=> ?_,fun h3=>⟨fun h4=>by omega,fun h4=> ?_⟩⟩⟩⟩
 · rw [s1 (by omega)];simp
 · rw [s2 (by omega)];simp
 · rw [s3 (by omega) (by simpa using h3)];simp
 have hn:c.length<=4096:=by omega
 rw [s4 hn (by omega) h3]
 clear s1 s2 s3 s4 V h4 h
 have eU:wr .u64 (c.length:Int)=c.length:=Zyg (by omega) (by omega)
 have eI:wr .i64 (c.length:Int)=c.length:=wr64 (by omega) (by omega)
 simp only [eU,eI,Int.toNat_natCast,Nat.zero_add,Int.toNat_zero]
 refine ⟨by omega,?_⟩
 refine ⟨fun b=>b=false,⟨fun h=>by omega,fun _=>⟨fun h=>by omega,fun _=>rfl⟩⟩,fun h=>by simp at h,fun _=> ?_⟩
 refine ⟨by omega,Int.le_refl _,by omega,by simp,?_⟩
 refine ⟨fun x=>1<=x.k/\x.k+x.r=c.length/\x.D=List.replicate x.k (-1)++List.replicate (c.length-x.k) 0,⟨⟨1,c.length-1,List.replicate 1 (-1)++List.replicate (c.length-1) 0,0⟩,⟨Nat.le_refl _,by show 1+(c.length-1)=_;omega,rfl⟩,?_⟩,fun x hx=> ?_⟩
 · have e:min ([-1]:List Int).length c.length=1:=by simp;omega
   rw [e]
   refine ⟨by simp,?_⟩
   have e2:List.take c.length [(-1:Int)]= [-1]:=List.take_of_length_le (by simp;omega)
   rw [e2]
   simp
 obtain ⟨hk1,hkr,hD⟩:=hx
 have hDl:x.D.length=c.length:=by rw [hD];simp;omega
 refine ⟨fun hlt=>⟨by omega,fun _=>⟨by omega,by omega,by omega,?_⟩,fun h=>absurd hlt h⟩,fun hge=> ?_⟩
 · have e:=Zwj hk1 (by omega:x.k<c.length) hD
   have e3:(List.take x.k x.D).length=x.k:=by rw [List.length_take];omega
   rw [e3] at e⊢
   refine ⟨⟨x.k+min x.k (c.length-x.k),c.length-(x.k+min x.k (c.length-x.k)),_,0⟩,⟨by show 1<=x.k+_;omega,by show x.k+min x.k (c.length-x.k)+(c.length-(x.k+min x.k (c.length-x.k)))=_;omega,rfl⟩,by show c.length-(x.k+min x.k (c.length-x.k))+1<=x.r;omega,?_,e⟩
   rw [wr64 (by omega) (by omega)]
   show _=((x.k+min x.k (c.length-x.k):Nat):Int)
   omega
 have hkn:x.k=c.length:=by omega
 have hD:x.D=List.replicate c.length (-1):=by rw [hD,hkn,Nat.sub_self];simp
 clear hk1 hkr hge
 refine ⟨by omega,by omega,by omega,fun z hz=> ?_⟩
 rw [hD] at hDl⊢
 clear hz hD hkn
 refine ⟨RV c,⟨⟨0,c.length,deps c,0⟩,⟨by show 0+c.length=_;omega,by simp [deps],?_,by simp⟩,by simp [deps]⟩,fun x hR=> ?_⟩
 · intro d hd
   rcases List.mem_or_eq_of_mem_set hd with h|h
   · rw [List.mem_replicate] at h;show-1<=d/\d<=0;omega
   · show-1<=d/\d<=0;omega
 have hlen:=hR.len
 refine ⟨fun hlt=>⟨by omega,by omega,fun x2 hx2=>⟨by omega,by omega,fun x3 hx3=> ?_⟩⟩,fun hge=> ?_⟩
 · have hb:=hR.lo x3 (List.mem_of_getElem? hx3)
   have he:=Zx7 x2.op
   have hkr:=hR.kr
   have hget:x.D.getD x.k 0=x3:=by simp [List.getD_eq_getElem?_getD,hx3]
   have hdrop:c.drop x.k=x2::c.drop (x.k+1):=by
    obtain ⟨h1,rfl⟩:=gA9.1 hx2
    exact List.drop_eq_getElem_cons h1
   have hrun:=hR.run
   rw [hdrop] at hrun
   simp only [fromF] at hrun
   have hfo:formedF x2=true:=List.all_eq_true.1 h3 x2 (List.mem_of_getElem? hx2)
   have eK:wr .i64 ((x.k:Int)+1)=x.k+1:=wr64 (by omega) (by omega)
   have eA:wr .i64 (wr .i64 (x3-(eff x2.op).1)+(eff x2.op).2)=x3-(eff x2.op).1+(eff x2.op).2:=by
    have e0:wr .i64 (x3-(eff x2.op).1)=x3-(eff x2.op).1:=wr64 (by omega) (by omega)
    rw [e0];exact wr64 (by omega) (by omega)
   simp only [eK,eA,Z3]
   refine ⟨fun hneg=> ?_,fun hneg=> ?_⟩
   · have hsome:rndF c.length x.k x2 x.D x.m=some (x.D,x.m):=by unfold rndF;rw [hget,if_pos hneg]
     rw [hsome] at hrun
     exact ⟨⟨x.k+1,x.r-1,x.D,x.m⟩,⟨by show x.k+1+(x.r-1)=_;omega,hlen,fun d hd=>by have:=hR.lo d hd;show-1<=d/\d<=((x.k+1:Nat):Int);omega,hrun⟩,by show x.r-1+1<=x.r;omega,by simp⟩
   refine ⟨fun b=>(b=true↔(x3<(eff x2.op).1\/(x2.op=15/\x3≠1)\/(x2.op=16/\x3≠0))),?_,fun hQ=> ?_,fun hQ=> ?_⟩
   · repeat' (first|(refine And.intro ?_ ?_)|(intro h))
     all_goals simp
     all_goals omega
   · have hQ:=hQ.1 rfl
     have hnone:rndF c.length x.k x2 x.D x.m=none:=by unfold rndF;rw [hget,if_neg hneg,if_pos hQ]
     rw [hnone] at hrun
     rw [<-hrun]
     simp [endF]
   · have hbad:¬(x3<(eff x2.op).1\/(x2.op=15/\x3≠1)\/(x2.op=16/\x3≠0)):=fun h=>absurd (hQ.2 h) (by simp)
     clear hQ
     refine ⟨fun b=>(b=true↔(x2.op=13\/x2.op=14)),?_,fun hQ=> ?_,fun hQ=> ?_⟩
     · repeat' (first|(refine And.intro ?_ ?_)|(intro h))
       all_goals simp
       all_goals omega
     · have hQ:=hQ.1 rfl
       refine ⟨fun b=>(b=true↔(x2.op≠14/\x2.op≠15/\x2.op≠16)),?_,fun hQ2=> ?_,fun hQ2=> ?_⟩
       · repeat' (first|(refine And.intro ?_ ?_)|(intro h))
         all_goals simp
         all_goals omega
       · have hQ2:=hQ2.1 rfl
         have hnx:nextF x.k x2= [x2.n,(x.k:Int)+1]:=by unfold nextF;rw [if_neg (by omega),if_neg (by omega),if_pos (by omega)]
         simp only [List.length_cons,List.length_nil,Nat.zero_add,List.take_succ_cons,List.take_zero,List.cons_append,List.nil_append]
         refine ⟨by omega,?_⟩
         refine ⟨RN c x (x3-(eff x2.op).1+(eff x2.op).2) [x2.n,(x.k:Int)+1],⟨⟨0,2,x.D,0⟩,⟨rfl,hR.len,fun d hd=>⟨(hR.lo d hd).1,by have:=(hR.lo d hd).2;omega⟩,rfl⟩,by simp⟩,fun y hy=>⟨fun hlt=> ?_,fun hge=> ?_⟩⟩
         · have hyk:y.k<([x2.n,(x.k:Int)+1]).length:=by simp only [List.length_cons,List.length_nil];omega
           refine ⟨by omega,by first|omega|(simp only [List.length_cons,List.length_nil];omega),fun n hy5=> ?_⟩
           have hns:([x2.n,(x.k:Int)+1]).drop y.k=n::([x2.n,(x.k:Int)+1]).drop (y.k+1):=by
            obtain ⟨h1,rfl⟩:=gA9.1 hy5
            exact List.drop_eq_getElem_cons h1
           have hset:=hy.run
           rw [hns] at hset
           generalize hS:setF c.length x.k (x3-(eff x2.op).1+(eff x2.op).2) [x2.n,(x.k:Int)+1] x.D=SF at hset
           simp only [setF] at hset
           refine ⟨fun b=>(b=true↔(n<=x.k\/(c.length:Int)<=n\/(0<=y.D.getD n.toNat 0/\y.D.getD n.toNat 0≠x3-(eff x2.op).1+(eff x2.op).2))),?_,fun hQ=> ?_,fun hQ=> ?_⟩
           · refine ⟨fun h=>by simp [h],fun h=>⟨fun h'=>by simp [h'],fun h'=>⟨by omega,by rw [hy.len];omega,fun z hz=> ?_⟩⟩⟩
             have hg:y.D.getD n.toNat 0=z:=by simp [List.getD_eq_getElem?_getD,hz]
             rw [hg]
             refine ⟨fun h0=>⟨by omega,by rw [hy.len];omega,fun z2 hz2=> ?_⟩,fun h0=>by simp;omega⟩
             rw [hz] at hz2;cases hz2
             exact ⟨fun h1=>by simp;omega,fun h1=>by simp;omega⟩
           · have hQ:=hQ.1 rfl
             rw [if_pos hQ] at hset
             have hnone:rndF c.length x.k x2 x.D x.m=none:=by
              unfold rndF
              rw [hget,if_neg hneg,if_neg hbad,hnx,hS,<-hset]
             rw [hnone] at hrun
             rw [<-hrun]
             simp [endF]
           · have hQ:¬(n<=x.k\/(c.length:Int)<=n\/(0<=y.D.getD n.toNat 0/\y.D.getD n.toNat 0≠x3-(eff x2.op).1+(eff x2.op).2)):=fun h=>by simp at hQ;exact absurd h (by simpa using hQ)
             rw [if_neg hQ] at hset
             refine ⟨by omega,Nat.zero_le _,by rw [hy.len];omega,fun z hz=> ?_⟩
             refine ⟨⟨y.k+1,y.r-1,y.D.set n.toNat (x3-(eff x2.op).1+(eff x2.op).2),0⟩,⟨by have:=hy.kr;show y.k+1+(y.r-1)=_;omega,by simp [hy.len],Up hy.lo (by omega),hset.trans hS.symm⟩,by have:=hy.kr;show y.r-1+1<=y.r;omega,?_⟩
             rw [wr64 (by omega) (by omega)]
             simp
         · have hyk:([x2.n,(x.k:Int)+1]).drop y.k= []:=List.drop_eq_nil_of_le (by simp only [List.length_cons,List.length_nil];omega)
           have hset:=hy.run
           rw [hyk] at hset
           generalize hS:setF c.length x.k (x3-(eff x2.op).1+(eff x2.op).2) [x2.n,(x.k:Int)+1] x.D=SF at hset
           simp only [setF] at hset
           have hsome:rndF c.length x.k x2 x.D x.m=some (y.D,max (max x.m x3) (x3-(eff x2.op).1+(eff x2.op).2)):=by
            unfold rndF
            rw [hget,if_neg hneg,if_neg hbad,hnx,hS,<-hset]
           rw [hsome] at hrun
           refine ⟨⟨x.k+1,x.r-1,y.D,_⟩,⟨by have:=hR.kr;show x.k+1+(x.r-1)=_;omega,hy.len,fun d hd=>by have:=hy.lo d hd;show-1<=d/\d<=((x.k+1:Nat):Int);omega,hrun⟩,by have:=hR.kr;show x.r-1+1<=x.r;omega,?_⟩
           simp
       · have hQ2:¬(x2.op≠14/\x2.op≠15/\x2.op≠16):=fun h=>absurd (hQ2.2 h) (by simp)
         have hnx:nextF x.k x2= [x2.n]:=by unfold nextF;rw [if_neg (by omega),if_pos (by omega)]
         simp only [List.length_cons,List.length_nil,Nat.zero_add]
         refine ⟨RN c x (x3-(eff x2.op).1+(eff x2.op).2) [x2.n],⟨⟨0,1,x.D,0⟩,⟨rfl,hR.len,fun d hd=>⟨(hR.lo d hd).1,by have:=(hR.lo d hd).2;omega⟩,rfl⟩,by simp⟩,fun y hy=>⟨fun hlt=> ?_,fun hge=> ?_⟩⟩
         · have hyk:y.k<([x2.n]).length:=by simp only [List.length_cons,List.length_nil];omega
           refine ⟨by omega,by first|omega|(simp only [List.length_cons,List.length_nil];omega),fun n hy5=> ?_⟩
           have hns:([x2.n]).drop y.k=n::([x2.n]).drop (y.k+1):=by
            obtain ⟨h1,rfl⟩:=gA9.1 hy5
            exact List.drop_eq_getElem_cons h1
           have hset:=hy.run
           rw [hns] at hset
           generalize hS:setF c.length x.k (x3-(eff x2.op).1+(eff x2.op).2) [x2.n] x.D=SF at hset
           simp only [setF] at hset
           refine ⟨fun b=>(b=true↔(n<=x.k\/(c.length:Int)<=n\/(0<=y.D.getD n.toNat 0/\y.D.getD n.toNat 0≠x3-(eff x2.op).1+(eff x2.op).2))),?_,fun hQ=> ?_,fun hQ=> ?_⟩
           · refine ⟨fun h=>by simp [h],fun h=>⟨fun h'=>by simp [h'],fun h'=>⟨by omega,by rw [hy.len];omega,fun z hz=> ?_⟩⟩⟩
             have hg:y.D.getD n.toNat 0=z:=by simp [List.getD_eq_getElem?_getD,hz]
             rw [hg]
             refine ⟨fun h0=>⟨by omega,by rw [hy.len];omega,fun z2 hz2=> ?_⟩,fun h0=>by simp;omega⟩
             rw [hz] at hz2;cases hz2
             exact ⟨fun h1=>by simp;omega,fun h1=>by simp;omega⟩
           · have hQ:=hQ.1 rfl
             rw [if_pos hQ] at hset
             have hnone:rndF c.length x.k x2 x.D x.m=none:=by
              unfold rndF
              rw [hget,if_neg hneg,if_neg hbad,hnx,hS,<-hset]
             rw [hnone] at hrun
             rw [<-hrun]
             simp [endF]
           · have hQ:¬(n<=x.k\/(c.length:Int)<=n\/(0<=y.D.getD n.toNat 0/\y.D.getD n.toNat 0≠x3-(eff x2.op).1+(eff x2.op).2)):=fun h=>by simp at hQ;exact absurd h (by simpa using hQ)
             rw [if_neg hQ] at hset
             refine ⟨by omega,Nat.zero_le _,by rw [hy.len];omega,fun z hz=> ?_⟩
             refine ⟨⟨y.k+1,y.r-1,y.D.set n.toNat (x3-(eff x2.op).1+(eff x2.op).2),0⟩,⟨by have:=hy.kr;show y.k+1+(y.r-1)=_;omega,by simp [hy.len],Up hy.lo (by omega),hset.trans hS.symm⟩,by have:=hy.kr;show y.r-1+1<=y.r;omega,?_⟩
             rw [wr64 (by omega) (by omega)]
             simp
         · have hyk:([x2.n]).drop y.k= []:=List.drop_eq_nil_of_le (by simp only [List.length_cons,List.length_nil];omega)
           have hset:=hy.run
           rw [hyk] at hset
           generalize hS:setF c.length x.k (x3-(eff x2.op).1+(eff x2.op).2) [x2.n] x.D=SF at hset
           simp only [setF] at hset
           have hsome:rndF c.length x.k x2 x.D x.m=some (y.D,max (max x.m x3) (x3-(eff x2.op).1+(eff x2.op).2)):=by
            unfold rndF
            rw [hget,if_neg hneg,if_neg hbad,hnx,hS,<-hset]
           rw [hsome] at hrun
           refine ⟨⟨x.k+1,x.r-1,y.D,_⟩,⟨by have:=hR.kr;show x.k+1+(x.r-1)=_;omega,hy.len,fun d hd=>by have:=hy.lo d hd;show-1<=d/\d<=((x.k+1:Nat):Int);omega,hrun⟩,by have:=hR.kr;show x.r-1+1<=x.r;omega,?_⟩
           simp
     · have hQ:¬(x2.op=13\/x2.op=14):=fun h=>absurd (hQ.2 h) (by simp)
       refine ⟨fun b=>(b=true↔(x2.op≠14/\x2.op≠15/\x2.op≠16)),?_,fun hQ2=> ?_,fun hQ2=> ?_⟩
       · repeat' (first|(refine And.intro ?_ ?_)|(intro h))
         all_goals simp
         all_goals omega
       · have hQ2:=hQ2.1 rfl
         have hnx:nextF x.k x2= [(x.k:Int)+1]:=by unfold nextF;rw [if_neg (by omega),if_neg (by omega),if_neg (by omega)]
         simp only [List.length_cons,List.length_nil,Nat.zero_add]
         refine ⟨RN c x (x3-(eff x2.op).1+(eff x2.op).2) [(x.k:Int)+1],⟨⟨0,1,x.D,0⟩,⟨rfl,hR.len,fun d hd=>⟨(hR.lo d hd).1,by have:=(hR.lo d hd).2;omega⟩,rfl⟩,by simp⟩,fun y hy=>⟨fun hlt=> ?_,fun hge=> ?_⟩⟩
         · have hyk:y.k<([(x.k:Int)+1]).length:=by simp only [List.length_cons,List.length_nil];omega
           refine ⟨by omega,by first|omega|(simp only [List.length_cons,List.length_nil];omega),fun n hy5=> ?_⟩
           have hns:([(x.k:Int)+1]).drop y.k=n::([(x.k:Int)+1]).drop (y.k+1):=by
            obtain ⟨h1,rfl⟩:=gA9.1 hy5
            exact List.drop_eq_getElem_cons h1
           have hset:=hy.run
           rw [hns] at hset
           generalize hS:setF c.length x.k (x3-(eff x2.op).1+(eff x2.op).2) [(x.k:Int)+1] x.D=SF at hset
           simp only [setF] at hset
           refine ⟨fun b=>(b=true↔(n<=x.k\/(c.length:Int)<=n\/(0<=y.D.getD n.toNat 0/\y.D.getD n.toNat 0≠x3-(eff x2.op).1+(eff x2.op).2))),?_,fun hQ=> ?_,fun hQ=> ?_⟩
           · refine ⟨fun h=>by simp [h],fun h=>⟨fun h'=>by simp [h'],fun h'=>⟨by omega,by rw [hy.len];omega,fun z hz=> ?_⟩⟩⟩
             have hg:y.D.getD n.toNat 0=z:=by simp [List.getD_eq_getElem?_getD,hz]
             rw [hg]
             refine ⟨fun h0=>⟨by omega,by rw [hy.len];omega,fun z2 hz2=> ?_⟩,fun h0=>by simp;omega⟩
             rw [hz] at hz2;cases hz2
             exact ⟨fun h1=>by simp;omega,fun h1=>by simp;omega⟩
           · have hQ:=hQ.1 rfl
             rw [if_pos hQ] at hset
             have hnone:rndF c.length x.k x2 x.D x.m=none:=by
              unfold rndF
              rw [hget,if_neg hneg,if_neg hbad,hnx,hS,<-hset]
             rw [hnone] at hrun
             rw [<-hrun]
             simp [endF]
           · have hQ:¬(n<=x.k\/(c.length:Int)<=n\/(0<=y.D.getD n.toNat 0/\y.D.getD n.toNat 0≠x3-(eff x2.op).1+(eff x2.op).2)):=fun h=>by simp at hQ;exact absurd h (by simpa using hQ)
             rw [if_neg hQ] at hset
             refine ⟨by omega,Nat.zero_le _,by rw [hy.len];omega,fun z hz=> ?_⟩
             refine ⟨⟨y.k+1,y.r-1,y.D.set n.toNat (x3-(eff x2.op).1+(eff x2.op).2),0⟩,⟨by have:=hy.kr;show y.k+1+(y.r-1)=_;omega,by simp [hy.len],Up hy.lo (by omega),hset.trans hS.symm⟩,by have:=hy.kr;show y.r-1+1<=y.r;omega,?_⟩
             rw [wr64 (by omega) (by omega)]
             simp
         · have hyk:([(x.k:Int)+1]).drop y.k= []:=List.drop_eq_nil_of_le (by simp only [List.length_cons,List.length_nil];omega)
           have hset:=hy.run
           rw [hyk] at hset
           generalize hS:setF c.length x.k (x3-(eff x2.op).1+(eff x2.op).2) [(x.k:Int)+1] x.D=SF at hset
           simp only [setF] at hset
           have hsome:rndF c.length x.k x2 x.D x.m=some (y.D,max (max x.m x3) (x3-(eff x2.op).1+(eff x2.op).2)):=by
            unfold rndF
            rw [hget,if_neg hneg,if_neg hbad,hnx,hS,<-hset]
           rw [hsome] at hrun
           refine ⟨⟨x.k+1,x.r-1,y.D,_⟩,⟨by have:=hR.kr;show x.k+1+(x.r-1)=_;omega,hy.len,fun d hd=>by have:=hy.lo d hd;show-1<=d/\d<=((x.k+1:Nat):Int);omega,hrun⟩,by have:=hR.kr;show x.r-1+1<=x.r;omega,?_⟩
           simp
       · have hQ2:¬(x2.op≠14/\x2.op≠15/\x2.op≠16):=fun h=>absurd (hQ2.2 h) (by simp)
         have hnx:nextF x.k x2= []:=by unfold nextF;rw [if_pos (by omega)]
         have hsome:rndF c.length x.k x2 x.D x.m=some (x.D,max (max x.m x3) (x3-(eff x2.op).1+(eff x2.op).2)):=by
          unfold rndF
          rw [hget,if_neg hneg,if_neg hbad,hnx]
          rfl
         rw [hsome] at hrun
         refine ⟨fun y=>y.D=x.D,⟨⟨0,0,x.D,0⟩,rfl,by simp⟩,fun y hy=>⟨fun h=>by omega,fun _=> ?_⟩⟩
         refine ⟨⟨x.k+1,x.r-1,x.D,_⟩,⟨by show x.k+1+(x.r-1)=_;omega,hlen,fun d hd=>by have:=hR.lo d hd;show-1<=d/\d<=((x.k+1:Nat):Int);omega,hrun⟩,by show x.r-1+1<=x.r;omega,?_⟩
         simp [hy]
 · have hrun:=hR.run
   rw [List.drop_eq_nil_of_le (by omega)] at hrun
   simp only [fromF] at hrun
   rw [<-hrun]
   refine ⟨fun h=> ?_,fun h=> ?_⟩
   · simp [endF,h]
   · simp [endF,h]
end
section
open Go
def Z3u:=(.cons dI (.cons dI (.cons dI (.cons dI (.cons dI (.cons dI (.cons dI (.cons dI (.cons dI (.cons dI (.cons dI (.cons dI (.cons dI (.cons dI (.cons dI (.cons dI (.cons dI .nil)))))))))))))))):DcL E (Int×Int×Int×Int×Int×Int×Int×Int×Int×Int×Int×Int×Int×Int×Int×Int×Int×Unit))
def dEnv:Dc E Env:= .map (dAgg Z3u) (fun x=>⟨x.1,x.2.1,x.2.2.1,x.2.2.2.1,x.2.2.2.2.1,x.2.2.2.2.2.1,x.2.2.2.2.2.2.1,x.2.2.2.2.2.2.2.1,x.2.2.2.2.2.2.2.2.1,x.2.2.2.2.2.2.2.2.2.1,x.2.2.2.2.2.2.2.2.2.2.1,x.2.2.2.2.2.2.2.2.2.2.2.1,x.2.2.2.2.2.2.2.2.2.2.2.2.1,x.2.2.2.2.2.2.2.2.2.2.2.2.2.1,x.2.2.2.2.2.2.2.2.2.2.2.2.2.2.1,x.2.2.2.2.2.2.2.2.2.2.2.2.2.2.2.1,x.2.2.2.2.2.2.2.2.2.2.2.2.2.2.2.2.1⟩)
 (fun x=>(x.has,x.v0,x.v1,x.v2,x.v3,x.v4,x.v5,x.v6,x.v7,x.v8,x.v9,x.v10,x.v11,x.v12,x.v13,x.v14,x.v15,())) (fun _=>rfl)
def dSt:Dc E St:= .map (dAgg (.cons dI (.cons dI (.cons dI (.cons dI (dL1 Z3t))))):Dc E (Int×Int×Int×Int×List Int×Unit)) (fun x=>⟨x.1,x.2.1,x.2.2.1,x.2.2.2.1,x.2.2.2.2.1⟩) (fun s=>(s.pc,s.fuel,s.status,s.clause,s.stack,())) (fun _=>rfl)
def envV (v:Env):SV thy:= .agg [.int false .i64 v.has,.int false .i64 v.v0,.int false .i64 v.v1,.int false .i64 v.v2,.int false .i64 v.v3,.int false .i64 v.v4,.int false .i64 v.v5,.int false .i64 v.v6,.int false .i64 v.v7,.int false .i64 v.v8,.int false .i64 v.v9,.int false .i64 v.v10,.int false .i64 v.v11,.int false .i64 v.v12,.int false .i64 v.v13,.int false .i64 v.v14,.int false .i64 v.v15]
def stV (s:St):SV thy:= .agg [.int false .i64 s.pc,.int false .i64 s.fuel,.int false .i64 s.status,.int false .i64 s.clause,.psl .ints s.stack false]
def Sver:Sum thy:=sumP (dL1 Ztw) (fun _=>True) fun x=> .tup [.int false .i64 (verF x.1).1,.int false .i64 (verF x.1).2]
def F5:Fns thy:=addS F4 47 Sver
theorem Z0r:FnsOk E F5:=Zc Zzs (Z7 E_ok (Ze (f:=47) rfl) fun x _=>Zk3 x.1)
abbrev qBEl (a0:St):=(St.stack a0)
abbrev qBE1 (a0:St):=(↑(List.length (qBEl a0)):Int)
abbrev qBEk:=(0:Int)
abbrev qBE8 (a0:St):=(Int.toNat (wr IntKind.i64 ((qBE1 a0)-qBEk)))
abbrev qBE9:=(1:Nat)
abbrev qBE2 (a0:St):=(List.length (List.take (qBE8 a0) (qBEl a0))+qBE9)
abbrev qBEd:=(1:Int)
abbrev qBEi (a0:St):=(St.fuel a0-qBEd)
abbrev qBEb (a0:St) (b0:St):=(St.stack a0=St.stack b0/\(false=true->false=true))
abbrev qBE3 (a0:Bool->Prop) (b0:St) (c0:St):=(a0 true->St.pc b0=St.pc c0/\wr IntKind.i64 (qBEi b0)=St.fuel c0/\(13:Int)=St.status c0/\St.clause b0=St.clause c0/\(qBEb b0 c0)/\True)
abbrev qBE4 (a0:St):=(qBEk<=wr IntKind.i64 ((qBE1 a0)-qBEk)/\wr IntKind.i64 ((qBE1 a0)-qBEk)=wr IntKind.i64 ((qBE1 a0)-qBEk)/\wr IntKind.i64 ((qBE1 a0)-qBEk)<=(qBE1 a0))
abbrev qBEc (a0:St):=(Int.toNat (wr IntKind.i64 ((qBE1 a0)-(2:Int))))
abbrev qBE5 (a0:St):=(List.length (List.take (qBEc a0) (qBEl a0))+qBE9)
abbrev qBE6 (a0:St):=(wr IntKind.i64 ((qBE1 a0)-qBEd)-qBEk)
abbrev qBE7 (a0:St):=(qBEk<=wr IntKind.i64 ((qBE1 a0)-(2:Int))/\wr IntKind.i64 ((qBE1 a0)-(2:Int))=wr IntKind.i64 ((qBE1 a0)-(2:Int))/\wr IntKind.i64 ((qBE1 a0)-(2:Int))<=(qBE1 a0))
abbrev qBEa (a0:St):=(wr IntKind.i64 ((qBE1 a0)-qBEd)-qBEd)
abbrev qBEn (a0:St):=(Int.toNat (wr IntKind.i64 ((qBE1 a0)-qBEd)))
abbrev qBEe (a0:St):=(List.length (List.take (qBEn a0) (qBEl a0))+qBE9)
abbrev qBEf:=(-9007199254740992:Int)
abbrev qBEg:=(9007199254740992:Int)
abbrev qBEh:=(140737488355328:Nat)
abbrev qBEj (a0:St):=(qBEk<=wr IntKind.i64 ((qBE1 a0)-qBEd)/\wr IntKind.i64 ((qBE1 a0)-qBEd)=wr IntKind.i64 ((qBE1 a0)-qBEd)/\wr IntKind.i64 ((qBE1 a0)-qBEd)<=(qBE1 a0))
abbrev qBEm:=(0:Nat)
abbrev qBEo (a0:St):=(St.pc a0+qBEd)
abbrev qBEp (a0:St):=(wr IntKind.i64 (qBE6 a0))
abbrev qBEq:=(8:Nat)
abbrev qBEr (a0:St):=(wr IntKind.i64 (qBEa a0))
abbrev qBEs (a0:Int) (b0:St) (c0:St):=(decide (wr IntKind.i64 (a0+(qBE1 b0))>=(64:Int))=true->St.pc b0=St.pc c0/\wr IntKind.i64 (qBEi b0)=St.fuel c0/\(210:Int)=St.status c0/\St.clause b0=St.clause c0/\(qBEb b0 c0)/\True)
abbrev qBEt:=(↑(qBEm+qBE9+qBE9+qBE9+qBE9+qBE9+qBE9+qBE9+qBE9+qBE9+qBE9+qBE9+qBE9+qBE9+qBE9+qBE9):Int)
abbrev qBEu:=(↑(qBEm+qBE9+qBE9+qBE9+qBE9+qBE9+qBE9+qBE9+qBE9+qBE9+qBE9+qBE9+qBE9+qBE9+qBE9):Int)
abbrev qBEv:=(↑(qBEm+qBE9+qBE9+qBE9+qBE9+qBE9+qBE9+qBE9+qBE9+qBE9+qBE9+qBE9+qBE9+qBE9):Int)
abbrev qBEw (a0:Env) (b0:Ins):=(Zn BinOp.and IntKind.i64 (Env.has a0) (wr IntKind.i64 (qBEd*(2:Int)^min (Int.toNat (Ins.n b0)) (IntKind.bits IntKind.i64)))==qBEk)
abbrev qBEx:=(↑(qBEm+qBE9+qBE9+qBE9+qBE9+qBE9+qBE9+qBE9+qBE9+qBE9+qBE9+qBE9+qBE9):Int)
abbrev qBEy (a0:St) (b0:St):=(qBEm+(qBEe a0)<=List.length (List.take (qBEn a0) (qBEl a0)++ [qBEk])/\List.take (qBEe a0) (List.take (qBEn a0) (qBEl a0)++ [qBEk])=St.stack b0)
abbrev qBEz:=(↑(qBEm+qBE9+qBE9+qBE9+qBE9+qBE9+qBE9+qBE9+qBE9+qBE9+qBE9+qBE9):Int)
abbrev Z0s:=(↑(qBEm+qBE9+qBE9+qBE9+qBE9+qBE9+qBE9+qBE9+qBE9+qBE9+qBE9):Int)
abbrev Z0t:=(↑(qBEm+qBE9+qBE9+qBE9+qBE9+qBE9+qBE9+qBE9+qBE9+qBE9):Int)
abbrev Zeh:=(10:Int)
abbrev Z0u:=(↑(qBEm+qBE9+qBE9+qBE9+qBE9+qBE9+qBE9+qBE9+qBE9):Int)
abbrev Z0v:=(↑(qBEm+qBE9+qBE9+qBE9+qBE9+qBE9+qBE9+qBE9):Int)
abbrev Zua (a0:Int) (b0:Int):=(Prod.snd (divF a0 b0 (8:Int)) !=qBEk)
abbrev Zub (a0:Int) (b0:Int):=(Prod.snd (divF a0 b0 (9:Int)) !=qBEk)
abbrev Z0w:=(↑(qBEm+qBE9+qBE9+qBE9+qBE9+qBE9+qBE9):Int)
abbrev Z0x:=(↑(qBEm+qBE9+qBE9+qBE9+qBE9+qBE9):Int)
abbrev Zuc (a0:Int) (b0:Int):=(Prod.snd (divF a0 b0 Zeh) !=qBEk)
theorem Zji (c:List Ins) (v:Env) (s:St) (below:Int) (z:St):Zm E F5 (vc E F5 400) 29 [.psl .ins c false,envV v,stV s,.int false .i64 below] hp0 0 (fun r=>ret E (patch hp0 0 r) r.v (stV z))=(
 ((St.fuel s==qBEk)=true->St.pc s=St.pc z/\St.fuel s=St.fuel z/\(220:Int)=St.status z/\St.clause s=St.clause z/\(qBEb s z)/\True)/\((St.fuel s==qBEk)=false->qBEk<=St.pc s/\St.pc s+qBEd<=(↑(List.length c):Int)/\∀(x:Ins),c[Int.toNat (St.pc s)]? =some x->True/\(decide ((qBE1 s)<Yk (Ins.op x))=true->St.pc s=St.pc z/\wr IntKind.i64 (qBEi s)=St.fuel z/\(210:Int)=St.status z/\St.clause s=St.clause z/\(qBEb s z)/\True)/\(decide ((qBE1 s)<Yk (Ins.op x))=false->((Ins.op x==qBEd)=true->(qBEs below s z)/\(decide (wr IntKind.i64 (below+(qBE1 s))>=(64:Int))=false->(qBE4 s)/\(qBE2 s)*qBEq<=qBEh/\wr IntKind.i64 (qBEo s)=St.pc z/\wr IntKind.i64 (qBEi s)=St.fuel z/\St.status s=St.status z/\St.clause s=St.clause z/\(qBEm+(qBE2 s)<=List.length (List.take (qBE8 s) (qBEl s)++ [Ins.n x])/\List.take (qBE2 s) (List.take (qBE8 s) (qBEl s)++ [Ins.n x])=St.stack z)/\True))/\((Ins.op x==qBEd)=false->((Ins.op x==(2:Int))=true->(qBEs below s z)/\(decide (wr IntKind.i64 (below+(qBE1 s))>=(64:Int))=false->qBEk<=Ins.n x/\((qBEw v x)=true->St.pc s=St.pc z/\wr IntKind.i64 (qBEi s)=St.fuel z/\(191:Int)=St.status z/\St.clause s=St.clause z/\(qBEb s z)/\True)/\((qBEw v x)=false->qBEk<=Ins.n x/\Ins.n x+qBEd<=(↑(16:Nat):Int)/\((Ins.n x==(↑qBEm:Int))=true->∃(Q:Bool->Prop),((decide (Env.v0 v<qBEf)=true->Q true)/\(decide (Env.v0 v<qBEf)=false->(decide (Env.v0 v>qBEg)=true->Q true)/\(decide (Env.v0 v>qBEg)=false->Q false)))/\(qBE3 Q s z)/\(Q false->(qBE4 s)/\(qBE2 s)*qBEq<=qBEh/\wr IntKind.i64 (qBEo s)=St.pc z/\wr IntKind.i64 (qBEi s)=St.fuel z/\St.status s=St.status z/\St.clause s=St.clause z/\(qBEm+(qBE2 s)<=List.length (List.take (qBE8 s) (qBEl s)++ [Env.v0 v])/\List.take (qBE2 s) (List.take (qBE8 s) (qBEl s)++ [Env.v0 v])=St.stack z)/\True))/\((Ins.n x==(↑qBEm:Int))=false->((Ins.n x==(↑(qBEm+qBE9):Int))=true->∃(Q:Bool->Prop),((decide (Env.v1 v<qBEf)=true->Q true)/\(decide (Env.v1 v<qBEf)=false->(decide (Env.v1 v>qBEg)=true->Q true)/\(decide (Env.v1 v>qBEg)=false->Q false)))/\(qBE3 Q s z)/\(Q false->(qBE4 s)/\(qBE2 s)*qBEq<=qBEh/\wr IntKind.i64 (qBEo s)=St.pc z/\wr IntKind.i64 (qBEi s)=St.fuel z/\St.status s=St.status z/\St.clause s=St.clause z/\(qBEm+(qBE2 s)<=List.length (List.take (qBE8 s) (qBEl s)++ [Env.v1 v])/\List.take (qBE2 s) (List.take (qBE8 s) (qBEl s)++ [Env.v1 v])=St.stack z)/\True))/\((Ins.n x==(↑(qBEm+qBE9):Int))=false->((Ins.n x==(↑(qBEm+qBE9+qBE9):Int))=true->∃(Q:Bool->Prop),((decide (Env.v2 v<qBEf)=true->Q true)/\(decide (Env.v2 v<qBEf)=false->(decide (Env.v2 v>qBEg)=true->Q true)/\(decide (Env.v2 v>qBEg)=false->Q false)))/\(qBE3 Q s z)/\(Q false->(qBE4 s)/\(qBE2 s)*qBEq<=qBEh/\wr IntKind.i64 (qBEo s)=St.pc z/\wr IntKind.i64 (qBEi s)=St.fuel z/\St.status s=St.status z/\St.clause s=St.clause z/\(qBEm+(qBE2 s)<=List.length (List.take (qBE8 s) (qBEl s)++ [Env.v2 v])/\List.take (qBE2 s) (List.take (qBE8 s) (qBEl s)++ [Env.v2 v])=St.stack z)/\True))/\((Ins.n x==(↑(qBEm+qBE9+qBE9):Int))=false->((Ins.n x==(↑(qBEm+qBE9+qBE9+qBE9):Int))=true->∃(Q:Bool->Prop),((decide (Env.v3 v<qBEf)=true->Q true)/\(decide (Env.v3 v<qBEf)=false->(decide (Env.v3 v>qBEg)=true->Q true)/\(decide (Env.v3 v>qBEg)=false->Q false)))/\(qBE3 Q s z)/\(Q false->(qBE4 s)/\(qBE2 s)*qBEq<=qBEh/\wr IntKind.i64 (qBEo s)=St.pc z/\wr IntKind.i64 (qBEi s)=St.fuel z/\St.status s=St.status z/\St.clause s=St.clause z/\(qBEm+(qBE2 s)<=List.length (List.take (qBE8 s) (qBEl s)++ [Env.v3 v])/\List.take (qBE2 s) (List.take (qBE8 s) (qBEl s)++ [Env.v3 v])=St.stack z)/\True))/\((Ins.n x==(↑(qBEm+qBE9+qBE9+qBE9):Int))=false->((Ins.n x==
(↑(qBEm+qBE9+qBE9+qBE9+qBE9):Int))=true->∃(Q:Bool->Prop),((decide (Env.v4 v<qBEf)=true->Q true)/\(decide (Env.v4 v<qBEf)=false->(decide (Env.v4 v>qBEg)=true->Q true)/\(decide (Env.v4 v>qBEg)=false->Q false)))/\(qBE3 Q s z)/\(Q false->(qBE4 s)/\(qBE2 s)*qBEq<=qBEh/\wr IntKind.i64 (qBEo s)=St.pc z/\wr IntKind.i64 (qBEi s)=St.fuel z/\St.status s=St.status z/\St.clause s=St.clause z/\(qBEm+(qBE2 s)<=List.length (List.take (qBE8 s) (qBEl s)++ [Env.v4 v])/\List.take (qBE2 s) (List.take (qBE8 s) (qBEl s)++ [Env.v4 v])=St.stack z)/\True))/\((Ins.n x==(↑(qBEm+qBE9+qBE9+qBE9+qBE9):Int))=false->((Ins.n x==Z0x)=true->∃(Q:Bool->Prop),((decide (Env.v5 v<qBEf)=true->Q true)/\(decide (Env.v5 v<qBEf)=false->(decide (Env.v5 v>qBEg)=true->Q true)/\(decide (Env.v5 v>qBEg)=false->Q false)))/\(qBE3 Q s z)/\(Q false->(qBE4 s)/\(qBE2 s)*qBEq<=qBEh/\wr IntKind.i64 (qBEo s)=St.pc z/\wr IntKind.i64 (qBEi s)=St.fuel z/\St.status s=St.status z/\St.clause s=St.clause z/\(qBEm+(qBE2 s)<=List.length (List.take (qBE8 s) (qBEl s)++ [Env.v5 v])/\List.take (qBE2 s) (List.take (qBE8 s) (qBEl s)++ [Env.v5 v])=St.stack z)/\True))/\((Ins.n x==Z0x)=false->((Ins.n x==Z0w)=true->∃(Q:Bool->Prop),((decide (Env.v6 v<qBEf)=true->Q true)/\(decide (Env.v6 v<qBEf)=false->(decide (Env.v6 v>qBEg)=true->Q true)/\(decide (Env.v6 v>qBEg)=false->Q false)))/\(qBE3 Q s z)/\(Q false->(qBE4 s)/\(qBE2 s)*qBEq<=qBEh/\wr IntKind.i64 (qBEo s)=St.pc z/\wr IntKind.i64 (qBEi s)=St.fuel z/\St.status s=St.status z/\St.clause s=St.clause z/\(qBEm+(qBE2 s)<=List.length (List.take (qBE8 s) (qBEl s)++ [Env.v6 v])/\List.take (qBE2 s) (List.take (qBE8 s) (qBEl s)++ [Env.v6 v])=St.stack z)/\True))/\((Ins.n x==Z0w)=false->((Ins.n x==Z0v)=true->∃(Q:Bool->Prop),((decide (Env.v7 v<qBEf)=true->Q true)/\(decide (Env.v7 v<qBEf)=false->(decide (Env.v7 v>qBEg)=true->Q true)/\(decide (Env.v7 v>qBEg)=false->Q false)))/\(qBE3 Q s z)/\(Q false->(qBE4 s)/\(qBE2 s)*qBEq<=qBEh/\wr IntKind.i64 (qBEo s)=St.pc z/\wr IntKind.i64 (qBEi s)=St.fuel z/\St.status s=St.status z/\St.clause s=St.clause z/\(qBEm+(qBE2 s)<=List.length (List.take (qBE8 s) (qBEl s)++ [Env.v7 v])/\List.take (qBE2 s) (List.take (qBE8 s) (qBEl s)++ [Env.v7 v])=St.stack z)/\True))/\((Ins.n x==Z0v)=false->((Ins.n x==Z0u)=true->∃(Q:Bool->Prop),((decide (Env.v8 v<qBEf)=true->Q true)/\(decide (Env.v8 v<qBEf)=false->(decide (Env.v8 v>qBEg)=true->Q true)/\(decide (Env.v8 v>qBEg)=false->Q false)))/\(qBE3 Q s z)/\(Q false->(qBE4 s)/\(qBE2 s)*qBEq<=qBEh/\wr IntKind.i64 (qBEo s)=St.pc z/\wr IntKind.i64 (qBEi s)=St.fuel z/\St.status s=St.status z/\St.clause s=St.clause z/\(qBEm+(qBE2 s)<=List.length (List.take (qBE8 s) (qBEl s)++ [Env.v8 v])/\List.take (qBE2 s) (List.take (qBE8 s) (qBEl s)++ [Env.v8 v])=St.stack z)/\True))/\((Ins.n x==Z0u)=false->((Ins.n x==Z0t)=true->∃(Q:Bool->Prop),((decide (Env.v9 v<qBEf)=true->Q true)/\(decide (Env.v9 v<qBEf)=false->(decide (Env.v9 v>qBEg)=true->Q true)/\(decide (Env.v9 v>qBEg)=false->Q false)))/\(qBE3 Q s z)/\(Q false->(qBE4 s)/\(qBE2 s)*qBEq<=qBEh/\wr IntKind.i64 (qBEo s)=St.pc z/\wr IntKind.i64 (qBEi s)=St.fuel z/\St.status s=St.status z/\St.clause s=St.clause z/\(qBEm+(qBE2 s)<=List.length (List.take (qBE8 s) (qBEl s)++ [Env.v9 v])/\List.take (qBE2 s) (List.take (qBE8 s) (qBEl s)++ [Env.v9 v])=St.stack z)/\True))/\((Ins.n x==Z0t)=false->((Ins.n x==Z0s)=true->∃(Q:Bool->Prop),((decide (Env.v10 v<qBEf)=true->Q true)/\(decide (Env.v10 v<qBEf)=false->(decide (Env.v10 v>qBEg)=true->Q true)/\(decide (Env.v10 v>qBEg)=false->Q false)))/\(qBE3 Q s z)/\(Q false->
(qBE4 s)/\(qBE2 s)*qBEq<=qBEh/\wr IntKind.i64 (qBEo s)=St.pc z/\wr IntKind.i64 (qBEi s)=St.fuel z/\St.status s=St.status z/\St.clause s=St.clause z/\(qBEm+(qBE2 s)<=List.length (List.take (qBE8 s) (qBEl s)++ [Env.v10 v])/\List.take (qBE2 s) (List.take (qBE8 s) (qBEl s)++ [Env.v10 v])=St.stack z)/\True))/\((Ins.n x==Z0s)=false->((Ins.n x==qBEz)=true->∃(Q:Bool->Prop),((decide (Env.v11 v<qBEf)=true->Q true)/\(decide (Env.v11 v<qBEf)=false->(decide (Env.v11 v>qBEg)=true->Q true)/\(decide (Env.v11 v>qBEg)=false->Q false)))/\(qBE3 Q s z)/\(Q false->(qBE4 s)/\(qBE2 s)*qBEq<=qBEh/\wr IntKind.i64 (qBEo s)=St.pc z/\wr IntKind.i64 (qBEi s)=St.fuel z/\St.status s=St.status z/\St.clause s=St.clause z/\(qBEm+(qBE2 s)<=List.length (List.take (qBE8 s) (qBEl s)++ [Env.v11 v])/\List.take (qBE2 s) (List.take (qBE8 s) (qBEl s)++ [Env.v11 v])=St.stack z)/\True))/\((Ins.n x==qBEz)=false->((Ins.n x==qBEx)=true->∃(Q:Bool->Prop),((decide (Env.v12 v<qBEf)=true->Q true)/\(decide (Env.v12 v<qBEf)=false->(decide (Env.v12 v>qBEg)=true->Q true)/\(decide (Env.v12 v>qBEg)=false->Q false)))/\(qBE3 Q s z)/\(Q false->(qBE4 s)/\(qBE2 s)*qBEq<=qBEh/\wr IntKind.i64 (qBEo s)=St.pc z/\wr IntKind.i64 (qBEi s)=St.fuel z/\St.status s=St.status z/\St.clause s=St.clause z/\(qBEm+(qBE2 s)<=List.length (List.take (qBE8 s) (qBEl s)++ [Env.v12 v])/\List.take (qBE2 s) (List.take (qBE8 s) (qBEl s)++ [Env.v12 v])=St.stack z)/\True))/\((Ins.n x==qBEx)=false->((Ins.n x==qBEv)=true->∃(Q:Bool->Prop),((decide (Env.v13 v<qBEf)=true->Q true)/\(decide (Env.v13 v<qBEf)=false->(decide (Env.v13 v>qBEg)=true->Q true)/\(decide (Env.v13 v>qBEg)=false->Q false)))/\(qBE3 Q s z)/\(Q false->(qBE4 s)/\(qBE2 s)*qBEq<=qBEh/\wr IntKind.i64 (qBEo s)=St.pc z/\wr IntKind.i64 (qBEi s)=St.fuel z/\St.status s=St.status z/\St.clause s=St.clause z/\(qBEm+(qBE2 s)<=List.length (List.take (qBE8 s) (qBEl s)++ [Env.v13 v])/\List.take (qBE2 s) (List.take (qBE8 s) (qBEl s)++ [Env.v13 v])=St.stack z)/\True))/\((Ins.n x==qBEv)=false->((Ins.n x==qBEu)=true->∃(Q:Bool->Prop),((decide (Env.v14 v<qBEf)=true->Q true)/\(decide (Env.v14 v<qBEf)=false->(decide (Env.v14 v>qBEg)=true->Q true)/\(decide (Env.v14 v>qBEg)=false->Q false)))/\(qBE3 Q s z)/\(Q false->(qBE4 s)/\(qBE2 s)*qBEq<=qBEh/\wr IntKind.i64 (qBEo s)=St.pc z/\wr IntKind.i64 (qBEi s)=St.fuel z/\St.status s=St.status z/\St.clause s=St.clause z/\(qBEm+(qBE2 s)<=List.length (List.take (qBE8 s) (qBEl s)++ [Env.v14 v])/\List.take (qBE2 s) (List.take (qBE8 s) (qBEl s)++ [Env.v14 v])=St.stack z)/\True))/\((Ins.n x==qBEu)=false->((Ins.n x==qBEt)=true->∃(Q:Bool->Prop),((decide (Env.v15 v<qBEf)=true->Q true)/\(decide (Env.v15 v<qBEf)=false->(decide (Env.v15 v>qBEg)=true->Q true)/\(decide (Env.v15 v>qBEg)=false->Q false)))/\(qBE3 Q s z)/\(Q false->(qBE4 s)/\(qBE2 s)*qBEq<=qBEh/\wr IntKind.i64 (qBEo s)=St.pc z/\wr IntKind.i64 (qBEi s)=St.fuel z/\St.status s=St.status z/\St.clause s=St.clause z/\(qBEm+(qBE2 s)<=List.length (List.take (qBE8 s) (qBEl s)++ [Env.v15 v])/\List.take (qBE2 s) (List.take (qBE8 s) (qBEl s)++ [Env.v15 v])=St.stack z)/\True))/\((Ins.n x==qBEt)=false->True)))))))))))))))))))/\((Ins.op x==(2:Int))=false->((Ins.op x==(12:Int))=true->qBEk<=wr IntKind.i64 (qBE6 s)/\wr IntKind.i64 (qBE6 s)+qBEd<=(qBE1 s)/\∀(x_1:Int),(qBEl s)[Int.toNat (qBEp s)]? =some x_1->(decide (Ins.n x<=x_1)=true->qBEk<=wr IntKind.i64 (qBE6 s)/\wr IntKind.i64 (qBE6 s)+qBEd<=(qBE1 s)/\∀(x_2:Int),(qBEl s)[Int.toNat (qBEp s)]? =some x_2->(decide (x_2<=Ins.m x)=true->(qBEj s)/\(qBEe s)*qBEq<=qBEh/\wr IntKind.i64 (qBEo s)=St.pc z/\wr IntKind.i64 (qBEi s)=St.fuel z/\St.status
s=St.status z/\St.clause s=St.clause z/\(qBEm+(qBEe s)<=List.length (List.take (qBEn s) (qBEl s)++ [qBEd])/\List.take (qBEe s) (List.take (qBEn s) (qBEl s)++ [qBEd])=St.stack z)/\True)/\(decide (x_2<=Ins.m x)=false->(qBEj s)/\(qBEe s)*qBEq<=qBEh/\wr IntKind.i64 (qBEo s)=St.pc z/\wr IntKind.i64 (qBEi s)=St.fuel z/\St.status s=St.status z/\St.clause s=St.clause z/\(qBEy s z)/\True))/\(decide (Ins.n x<=x_1)=false->(qBEj s)/\(qBEe s)*qBEq<=qBEh/\wr IntKind.i64 (qBEo s)=St.pc z/\wr IntKind.i64 (qBEi s)=St.fuel z/\St.status s=St.status z/\St.clause s=St.clause z/\(qBEy s z)/\True))/\((Ins.op x==(12:Int))=false->((Ins.op x==(13:Int))=true->qBEk<=wr IntKind.i64 (qBE6 s)/\wr IntKind.i64 (qBE6 s)+qBEd<=(qBE1 s)/\∀(x_1:Int),(qBEl s)[Int.toNat (qBEp s)]? =some x_1->(qBEj s)/\((x_1==qBEk)=true->Ins.n x=St.pc z/\wr IntKind.i64 (qBEi s)=St.fuel z/\St.status s=St.status z/\St.clause s=St.clause z/\(List.take (qBEn s) (qBEl s)=St.stack z/\(false=true->true=true))/\True)/\((x_1==qBEk)=false->wr IntKind.i64 (qBEo s)=St.pc z/\wr IntKind.i64 (qBEi s)=St.fuel z/\St.status s=St.status z/\St.clause s=St.clause z/\(List.take (qBEn s) (qBEl s)=St.stack z/\(false=true->true=true))/\True))/\((Ins.op x==(13:Int))=false->((Ins.op x==(14:Int))=true->Ins.n x=St.pc z/\wr IntKind.i64 (qBEi s)=St.fuel z/\St.status s=St.status z/\St.clause s=St.clause z/\(qBEb s z)/\True)/\((Ins.op x==(14:Int))=false->((Ins.op x==(15:Int))=true->St.pc s=St.pc z/\wr IntKind.i64 (qBEi s)=St.fuel z/\qBEd=St.status z/\Ins.n x=St.clause z/\(qBEb s z)/\True)/\((Ins.op x==(15:Int))=false->((Ins.op x==(16:Int))=true->St.pc s=St.pc z/\wr IntKind.i64 (qBEi s)=St.fuel z/\(190:Int)=St.status z/\St.clause s=St.clause z/\(qBEb s z)/\True)/\((Ins.op x==(16:Int))=false->((Ins.op x==(↑(3:Nat):Int))=true->qBEk<=wr IntKind.i64 (qBEa s)/\wr IntKind.i64 (qBEa s)+qBEd<=(qBE1 s)/\∀(x:Int),(qBEl s)[Int.toNat (qBEr s)]? =some x->qBEk<=wr IntKind.i64 (qBE6 s)/\wr IntKind.i64 (qBE6 s)+qBEd<=(qBE1 s)/\∀(x_1:Int),(qBEl s)[Int.toNat (qBEp s)]? =some x_1->True/\((Prod.snd (addF x x_1) !=qBEk)=true->((Prod.snd (addF x x_1) !=qBEk)=true->St.pc s=St.pc z/\wr IntKind.i64 (qBEi s)=St.fuel z/\wr IntKind.i64 (Zeh+Prod.snd (addF x x_1))=St.status z/\St.clause s=St.clause z/\(qBEb s z)/\True)/\((Prod.snd (addF x x_1) !=qBEk)=false->St.pc s=St.pc z/\wr IntKind.i64 (qBEi s)=St.fuel z/\St.status s=St.status z/\St.clause s=St.clause z/\(qBEb s z)/\True))/\((Prod.snd (addF x x_1) !=qBEk)=false->(qBE7 s)/\(qBE5 s)*qBEq<=qBEh/\wr IntKind.i64 (qBEo s)=St.pc z/\wr IntKind.i64 (qBEi s)=St.fuel z/\St.status s=St.status z/\St.clause s=St.clause z/\(qBEm+(qBE5 s)<=List.length (List.take (qBEc s) (qBEl s)++ [Prod.fst (addF x x_1)])/\List.take (qBE5 s) (List.take (qBEc s) (qBEl s)++ [Prod.fst (addF x x_1)])=St.stack z)/\True))/\((Ins.op x==(↑(3:Nat):Int))=false->((Ins.op x==(↑(4:Nat):Int))=true->qBEk<=wr IntKind.i64 (qBEa s)/\wr IntKind.i64 (qBEa s)+qBEd<=(qBE1 s)/\∀(x:Int),(qBEl s)[Int.toNat (qBEr s)]? =some x->qBEk<=wr IntKind.i64 (qBE6 s)/\wr IntKind.i64 (qBE6 s)+qBEd<=(qBE1 s)/\∀(x_1:Int),(qBEl s)[Int.toNat (qBEp s)]? =some x_1->True/\((Prod.snd (subF x x_1) !=qBEk)=true->((Prod.snd (subF x x_1) !=qBEk)=true->St.pc s=St.pc z/\wr IntKind.i64 (qBEi s)=St.fuel z/\wr IntKind.i64 (Zeh+Prod.snd (subF x x_1))=St.status z/\St.clause s=St.clause z/\(qBEb s z)/\True)/\((Prod.snd (subF x x_1) !=qBEk)=false->St.pc s=St.pc z/\wr IntKind.i64 (qBEi s)=St.fuel z/\St.status s=St.status z/\St.clause s=St.clause z/\(qBEb s z)/\True))/\((Prod.snd (subF x x_1) !=qBEk)=false->(qBE7 s)/\(qBE5 s)*qBEq<=qBEh/\wr
IntKind.i64 (qBEo s)=St.pc z/\wr IntKind.i64 (qBEi s)=St.fuel z/\St.status s=St.status z/\St.clause s=St.clause z/\(qBEm+(qBE5 s)<=List.length (List.take (qBEc s) (qBEl s)++ [Prod.fst (subF x x_1)])/\List.take (qBE5 s) (List.take (qBEc s) (qBEl s)++ [Prod.fst (subF x x_1)])=St.stack z)/\True))/\((Ins.op x==(↑(4:Nat):Int))=false->((Ins.op x==(↑(5:Nat):Int))=true->qBEk<=wr IntKind.i64 (qBEa s)/\wr IntKind.i64 (qBEa s)+qBEd<=(qBE1 s)/\∀(x:Int),(qBEl s)[Int.toNat (qBEr s)]? =some x->qBEk<=wr IntKind.i64 (qBE6 s)/\wr IntKind.i64 (qBE6 s)+qBEd<=(qBE1 s)/\∀(x_1:Int),(qBEl s)[Int.toNat (qBEp s)]? =some x_1->True/\((Prod.snd (mulF x x_1) !=qBEk)=true->((Prod.snd (mulF x x_1) !=qBEk)=true->St.pc s=St.pc z/\wr IntKind.i64 (qBEi s)=St.fuel z/\wr IntKind.i64 (Zeh+Prod.snd (mulF x x_1))=St.status z/\St.clause s=St.clause z/\(qBEb s z)/\True)/\((Prod.snd (mulF x x_1) !=qBEk)=false->St.pc s=St.pc z/\wr IntKind.i64 (qBEi s)=St.fuel z/\St.status s=St.status z/\St.clause s=St.clause z/\(qBEb s z)/\True))/\((Prod.snd (mulF x x_1) !=qBEk)=false->(qBE7 s)/\(qBE5 s)*qBEq<=qBEh/\wr IntKind.i64 (qBEo s)=St.pc z/\wr IntKind.i64 (qBEi s)=St.fuel z/\St.status s=St.status z/\St.clause s=St.clause z/\(qBEm+(qBE5 s)<=List.length (List.take (qBEc s) (qBEl s)++ [Prod.fst (mulF x x_1)])/\List.take (qBE5 s) (List.take (qBEc s) (qBEl s)++ [Prod.fst (mulF x x_1)])=St.stack z)/\True))/\((Ins.op x==(↑(5:Nat):Int))=false->((Ins.op x==(↑(6:Nat):Int))=true->qBEk<=wr IntKind.i64 (qBEa s)/\wr IntKind.i64 (qBEa s)+qBEd<=(qBE1 s)/\∀(x:Int),(qBEl s)[Int.toNat (qBEr s)]? =some x->qBEk<=wr IntKind.i64 (qBE6 s)/\wr IntKind.i64 (qBE6 s)+qBEd<=(qBE1 s)/\∀(x_1:Int),(qBEl s)[Int.toNat (qBEp s)]? =some x_1->(qBE7 s)/\(qBE5 s)*qBEq<=qBEh/\wr IntKind.i64 (qBEo s)=St.pc z/\wr IntKind.i64 (qBEi s)=St.fuel z/\St.status s=St.status z/\St.clause s=St.clause z/\(qBEm+(qBE5 s)<=List.length (List.take (qBEc s) (qBEl s)++ [mm2 false x x_1])/\List.take (qBE5 s) (List.take (qBEc s) (qBEl s)++ [mm2 false x x_1])=St.stack z)/\True)/\((Ins.op x==(↑(6:Nat):Int))=false->((Ins.op x==(↑(7:Nat):Int))=true->qBEk<=wr IntKind.i64 (qBEa s)/\wr IntKind.i64 (qBEa s)+qBEd<=(qBE1 s)/\∀(x:Int),(qBEl s)[Int.toNat (qBEr s)]? =some x->qBEk<=wr IntKind.i64 (qBE6 s)/\wr IntKind.i64 (qBE6 s)+qBEd<=(qBE1 s)/\∀(x_1:Int),(qBEl s)[Int.toNat (qBEp s)]? =some x_1->(qBE7 s)/\(qBE5 s)*qBEq<=qBEh/\wr IntKind.i64 (qBEo s)=St.pc z/\wr IntKind.i64 (qBEi s)=St.fuel z/\St.status s=St.status z/\St.clause s=St.clause z/\(qBEm+(qBE5 s)<=List.length (List.take (qBEc s) (qBEl s)++ [mm2 true x x_1])/\List.take (qBE5 s) (List.take (qBEc s) (qBEl s)++ [mm2 true x x_1])=St.stack z)/\True)/\((Ins.op x==(↑(7:Nat):Int))=false->((Ins.op x==(↑qBEq:Int))=true->qBEk<=wr IntKind.i64 (qBEa s)/\wr IntKind.i64 (qBEa s)+qBEd<=(qBE1 s)/\∀(x:Int),(qBEl s)[Int.toNat (qBEr s)]? =some x->qBEk<=wr IntKind.i64 (qBE6 s)/\wr IntKind.i64 (qBE6 s)+qBEd<=(qBE1 s)/\∀(x_1:Int),(qBEl s)[Int.toNat (qBEp s)]? =some x_1->True/\((Zua x x_1)=true->((Zua x x_1)=true->St.pc s=St.pc z/\wr IntKind.i64 (qBEi s)=St.fuel z/\wr IntKind.i64 (Zeh+Prod.snd (divF x x_1 (8:Int)))=St.status z/\St.clause s=St.clause z/\(qBEb s z)/\True)/\((Zua x x_1)=false->St.pc s=St.pc z/\wr IntKind.i64 (qBEi s)=St.fuel z/\St.status s=St.status z/\St.clause s=St.clause z/\(qBEb s z)/\True))/\((Zua x x_1)=false->(qBE7 s)/\(qBE5 s)*qBEq<=qBEh/\wr IntKind.i64 (qBEo s)=St.pc z/\wr IntKind.i64 (qBEi s)=St.fuel z/\St.status s=St.status z/\St.clause s=St.clause z/\(qBEm+(qBE5 s)<=List.length (List.take (qBEc s) (qBEl s)++ [Prod.fst (divF x x_1 (8:Int))])/\List.take (qBE5 s) (List.take (qBEc s) (qBEl s)++ [Prod.fst
(divF x x_1 (8:Int))])=St.stack z)/\True))/\((Ins.op x==(↑qBEq:Int))=false->((Ins.op x==(↑(9:Nat):Int))=true->qBEk<=wr IntKind.i64 (qBEa s)/\wr IntKind.i64 (qBEa s)+qBEd<=(qBE1 s)/\∀(x:Int),(qBEl s)[Int.toNat (qBEr s)]? =some x->qBEk<=wr IntKind.i64 (qBE6 s)/\wr IntKind.i64 (qBE6 s)+qBEd<=(qBE1 s)/\∀(x_1:Int),(qBEl s)[Int.toNat (qBEp s)]? =some x_1->True/\((Zub x x_1)=true->((Zub x x_1)=true->St.pc s=St.pc z/\wr IntKind.i64 (qBEi s)=St.fuel z/\wr IntKind.i64 (Zeh+Prod.snd (divF x x_1 (9:Int)))=St.status z/\St.clause s=St.clause z/\(qBEb s z)/\True)/\((Zub x x_1)=false->St.pc s=St.pc z/\wr IntKind.i64 (qBEi s)=St.fuel z/\St.status s=St.status z/\St.clause s=St.clause z/\(qBEb s z)/\True))/\((Zub x x_1)=false->(qBE7 s)/\(qBE5 s)*qBEq<=qBEh/\wr IntKind.i64 (qBEo s)=St.pc z/\wr IntKind.i64 (qBEi s)=St.fuel z/\St.status s=St.status z/\St.clause s=St.clause z/\(qBEm+(qBE5 s)<=List.length (List.take (qBEc s) (qBEl s)++ [Prod.fst (divF x x_1 (9:Int))])/\List.take (qBE5 s) (List.take (qBEc s) (qBEl s)++ [Prod.fst (divF x x_1 (9:Int))])=St.stack z)/\True))/\((Ins.op x==(↑(9:Nat):Int))=false->((Ins.op x==(↑(10:Nat):Int))=true->qBEk<=wr IntKind.i64 (qBEa s)/\wr IntKind.i64 (qBEa s)+qBEd<=(qBE1 s)/\∀(x:Int),(qBEl s)[Int.toNat (qBEr s)]? =some x->qBEk<=wr IntKind.i64 (qBE6 s)/\wr IntKind.i64 (qBE6 s)+qBEd<=(qBE1 s)/\∀(x_1:Int),(qBEl s)[Int.toNat (qBEp s)]? =some x_1->True/\((Zuc x x_1)=true->((Zuc x x_1)=true->St.pc s=St.pc z/\wr IntKind.i64 (qBEi s)=St.fuel z/\wr IntKind.i64 (Zeh+Prod.snd (divF x x_1 Zeh))=St.status z/\St.clause s=St.clause z/\(qBEb s z)/\True)/\((Zuc x x_1)=false->St.pc s=St.pc z/\wr IntKind.i64 (qBEi s)=St.fuel z/\St.status s=St.status z/\St.clause s=St.clause z/\(qBEb s z)/\True))/\((Zuc x x_1)=false->(qBE7 s)/\(qBE5 s)*qBEq<=qBEh/\wr IntKind.i64 (qBEo s)=St.pc z/\wr IntKind.i64 (qBEi s)=St.fuel z/\St.status s=St.status z/\St.clause s=St.clause z/\(qBEm+(qBE5 s)<=List.length (List.take (qBEc s) (qBEl s)++ [Prod.fst (divF x x_1 Zeh)])/\List.take (qBE5 s) (List.take (qBEc s) (qBEl s)++ [Prod.fst (divF x x_1 Zeh)])=St.stack z)/\True))/\((Ins.op x==(↑(10:Nat):Int))=false->((Ins.op x==(↑(11:Nat):Int))=true->qBEk<=wr IntKind.i64 (qBEa s)/\wr IntKind.i64 (qBEa s)+qBEd<=(qBE1 s)/\∀(x:Int),(qBEl s)[Int.toNat (qBEr s)]? =some x->qBEk<=wr IntKind.i64 (qBE6 s)/\wr IntKind.i64 (qBE6 s)+qBEd<=(qBE1 s)/\∀(x_1:Int),(qBEl s)[Int.toNat (qBEp s)]? =some x_1->(decide (x<x_1)=true->(qBE7 s)/\(qBE5 s)*qBEq<=qBEh/\wr IntKind.i64 (qBEo s)=St.pc z/\wr IntKind.i64 (qBEi s)=St.fuel z/\St.status s=St.status z/\St.clause s=St.clause z/\(qBEm+(qBE5 s)<=List.length (List.take (qBEc s) (qBEl s)++ [qBEd])/\List.take (qBE5 s) (List.take (qBEc s) (qBEl s)++ [qBEd])=St.stack z)/\True)/\(decide (x<x_1)=false->(qBE7 s)/\(qBE5 s)*qBEq<=qBEh/\wr IntKind.i64 (qBEo s)=St.pc z/\wr IntKind.i64 (qBEi s)=St.fuel z/\St.status s=St.status z/\St.clause s=St.clause z/\(qBEm+(qBE5 s)<=List.length (List.take (qBEc s) (qBEl s)++ [qBEk])/\List.take (qBE5 s) (List.take (qBEc s) (qBEl s)++ [qBEk])=St.stack z)/\True))/\((Ins.op x==(↑(11:Nat):Int))=false->qBEk<=wr IntKind.i64 (qBEa s)/\wr IntKind.i64 (qBEa s)+qBEd<=(qBE1 s)/\∀(x:Int),(qBEl s)[Int.toNat (qBEr s)]? =some x->qBEk<=wr IntKind.i64 (qBE6 s)/\wr IntKind.i64 (qBE6 s)+qBEd<=(qBE1 s)/\∀(x:Int),(qBEl s)[Int.toNat (qBEp s)]? =some x->False))))))))))))))))))):=by kernel_rfl
abbrev Wa (a0:St):=(St.stack a0)
abbrev Zr:=(0:Nat)
abbrev Zlv:=(140737488355328:Nat)
abbrev Y6 (a0:St):=(Zr+List.length (Wa a0))
abbrev Zf:=(1:Nat)
abbrev Vp (a0:St):=(Zr+Zf<=Zr+List.length (Wa a0)/\(Y6 a0)*(8:Nat)<=Zlv)
abbrev Xi:=(-9007199254740992:Int)
abbrev Z0y:=(↑(Zr+Zf+Zf+Zf+Zf+Zf+Zf):Int)
abbrev Z0z:=(↑(Zr+Zf+Zf+Zf+Zf+Zf+Zf+Zf+Zf+Zf+Zf+Zf+Zf):Int)
abbrev Z00:=(↑(Zr+Zf+Zf+Zf+Zf+Zf+Zf+Zf):Int)
abbrev Z01:=(↑(Zr+Zf+Zf+Zf+Zf+Zf+Zf+Zf+Zf+Zf+Zf+Zf+Zf+Zf):Int)
abbrev Vn:=(1:Int)
abbrev Ye (a0:St):=(St.fuel a0-Vn)
abbrev Z02:=(↑(Zr+Zf+Zf+Zf+Zf+Zf+Zf+Zf+Zf+Zf+Zf+Zf+Zf+Zf+Zf+Zf):Int)
abbrev Wh:=(0:Int)
abbrev Z03:=(↑(Zr+Zf+Zf+Zf+Zf+Zf+Zf+Zf+Zf+Zf+Zf+Zf+Zf+Zf+Zf):Int)
abbrev Yp (a0:St):=(St.pc a0+Vn)
abbrev Z04:=(↑(Zr+Zf+Zf+Zf+Zf+Zf+Zf+Zf+Zf+Zf+Zf):Int)
abbrev Z05:=(↑(Zr+Zf+Zf+Zf+Zf+Zf):Int)
abbrev Z06:=(↑(Zr+Zf+Zf+Zf+Zf):Int)
abbrev Z07:=(↑(Zr+Zf+Zf+Zf+Zf+Zf+Zf+Zf+Zf+Zf+Zf+Zf):Int)
abbrev Y7 (a0:St):=(Zr+List.length (Wa a0)+Zf)
abbrev Zbk (a0:St):=(↑(List.length (Wa a0)):Int)
abbrev Xj:=(9007199254740992:Int)
abbrev Y8 (a0:St):=([]++St.stack a0)
abbrev Ym:=(Zr+Zf)
abbrev Zxd:=(false=true->false=true)
abbrev Zei (a0:St) (b0:St):=(St.stack a0=St.stack b0/\Zxd)
abbrev V8 (a0:Bool->Prop) (b0:St) (c0:St):=(a0 true->St.pc b0=St.pc c0/\wr IntKind.i64 (Ye b0)=St.fuel c0/\(13:Int)=St.status c0/\St.clause b0=St.clause c0/\(Zei b0 c0)/\True)
abbrev Z08:=(↑(Zr+Zf+Zf+Zf+Zf+Zf+Zf+Zf+Zf+Zf):Int)
abbrev Z09 (a0:Env) (b0:Ins):=(Zn BinOp.and IntKind.i64 (Int.fdiv (Env.has a0) ((2:Int)^min (Int.toNat (Ins.n b0)) (IntKind.bits IntKind.i64))) Vn==Wh)
abbrev Vq (a0:St):=(Zr+List.length (Wa a0)<=List.length (Y8 a0)/\Zr<=Zr+List.length (Wa a0)/\(Y7 a0)*(8:Nat)<=Zlv)
abbrev Z1a:=(↑(Zr+Zf+Zf+Zf+Zf+Zf+Zf+Zf+Zf):Int)
abbrev Z1b (a0:Int) (b0:St) (c0:Ins) (d0:Env) (e0:St):=(decide (wr IntKind.i64 (a0+(Zbk b0))>=(64:Int))=false->((Ins.op c0==(2:Int))=true->Wh<=Ins.n c0/\((Z09 d0 c0)=true->St.pc b0=St.pc e0/\wr IntKind.i64 (Ye b0)=St.fuel e0/\(191:Int)=St.status e0/\St.clause b0=St.clause e0/\(Zei b0 e0)/\True)/\((Z09 d0 c0)=false->Wh<=Ins.n c0/\Ins.n c0+Vn<=(↑(16:Nat):Int)/\((Ins.n c0==(↑Zr:Int))=true->∃(Q:Bool->Prop),((decide (Env.v0 d0<Xi)=true->Q true)/\(decide (Env.v0 d0<Xi)=false->(decide (Env.v0 d0>Xj)=true->Q true)/\(decide (Env.v0 d0>Xj)=false->Q false)))/\(V8 Q b0 e0)/\(Q false->(St.stack b0= []->wr IntKind.i64 (Yp b0)=St.pc e0/\wr IntKind.i64 (Ye b0)=St.fuel e0/\St.status b0=St.status e0/\St.clause b0=St.clause e0/\(Zr+Ym<=List.length ([]++ [Env.v0 d0])/\List.take Ym ([]++ [Env.v0 d0])=St.stack e0)/\True)/\(St.stack b0≠ []->(Vp b0)/\(Vq b0)/\wr IntKind.i64 (Yp b0)=St.pc e0/\wr IntKind.i64 (Ye b0)=St.fuel e0/\St.status b0=St.status e0/\St.clause b0=St.clause e0/\(Zr+(Y7 b0)<=List.length (List.take (Y6 b0) (Y8 b0)++ [Env.v0 d0])/\List.take (Y7 b0) (List.take (Y6 b0) (Y8 b0)++ [Env.v0 d0])=St.stack e0)/\True)))/\((Ins.n c0==(↑Zr:Int))=false->((Ins.n c0==(↑Ym:Int))=true->∃(Q:Bool->Prop),((decide (Env.v1 d0<Xi)=true->Q true)/\(decide (Env.v1 d0<Xi)=false->(decide (Env.v1 d0>Xj)=true->Q true)/\(decide (Env.v1 d0>Xj)=false->Q false)))/\(V8 Q b0 e0)/\(Q false->(St.stack b0= []->wr IntKind.i64 (Yp b0)=St.pc e0/\wr IntKind.i64 (Ye b0)=St.fuel e0/\St.status b0=St.status e0/\St.clause b0=St.clause e0/\(Zr+Ym<=List.length ([]++ [Env.v1 d0])/\List.take Ym ([]++ [Env.v1 d0])=St.stack e0)/\True)/\(St.stack b0≠ []->(Vp b0)/\(Vq b0)/\wr IntKind.i64 (Yp b0)=St.pc e0/\wr IntKind.i64 (Ye b0)=St.fuel e0/\St.status b0=St.status e0/\St.clause b0=St.clause e0/\(Zr+(Y7 b0)<=List.length (List.take (Y6 b0) (Y8 b0)++ [Env.v1 d0])/\List.take (Y7 b0) (List.take (Y6 b0) (Y8 b0)++ [Env.v1 d0])=St.stack e0)/\True)))/\((Ins.n c0==(↑Ym:Int))=false->((Ins.n c0==(↑(Zr+Zf+Zf):Int))=true->∃(Q:Bool->Prop),((decide (Env.v2 d0<Xi)=true->Q true)/\(decide (Env.v2 d0<Xi)=false->(decide (Env.v2 d0>Xj)=true->Q true)/\(decide (Env.v2 d0>Xj)=false->Q false)))/\(V8 Q b0 e0)/\(Q false->(St.stack b0= []->wr IntKind.i64 (Yp b0)=St.pc e0/\wr IntKind.i64 (Ye b0)=St.fuel e0/\St.status b0=St.status e0/\St.clause b0=St.clause e0/\(Zr+Ym<=List.length ([]++ [Env.v2 d0])/\List.take Ym ([]++ [Env.v2 d0])=St.stack e0)/\True)/\(St.stack b0≠ []->(Vp b0)/\(Vq b0)/\wr IntKind.i64 (Yp b0)=St.pc e0/\wr IntKind.i64 (Ye b0)=St.fuel e0/\St.status b0=St.status e0/\St.clause b0=St.clause e0/\(Zr+(Y7 b0)<=List.length (List.take (Y6 b0) (Y8 b0)++ [Env.v2 d0])/\List.take (Y7 b0) (List.take (Y6 b0) (Y8 b0)++ [Env.v2 d0])=St.stack e0)/\True)))/\((Ins.n c0==(↑(Zr+Zf+Zf):Int))=false->((Ins.n c0==(↑(Zr+Zf+Zf+Zf):Int))=true->∃(Q:Bool->Prop),((decide (Env.v3 d0<Xi)=true->Q true)/\(decide (Env.v3 d0<Xi)=false->(decide (Env.v3 d0>Xj)=true->Q true)/\(decide (Env.v3 d0>Xj)=false->Q false)))/\(V8 Q b0 e0)/\(Q false->(St.stack b0= []->wr IntKind.i64 (Yp b0)=St.pc e0/\wr IntKind.i64 (Ye b0)=St.fuel e0/\St.status b0=St.status e0/\St.clause b0=St.clause e0/\(Zr+Ym<=List.length ([]++ [Env.v3 d0])/\List.take Ym ([]++ [Env.v3 d0])=St.stack e0)/\True)/\(St.stack b0≠ []->(Vp b0)/\(Vq b0)/\wr IntKind.i64 (Yp b0)=St.pc e0/\wr IntKind.i64 (Ye b0)=St.fuel e0/\St.status b0=St.status e0/\St.clause b0=St.clause e0/\(Zr+(Y7 b0)<=List.length (List.take (Y6 b0) (Y8 b0)++ [Env.v3 d0])/\List.take (Y7 b0) (List.take (Y6 b0) (Y8 b0)++ [Env.v3 d0])=St.stack e0)/\True)))/\((Ins.n c0==(↑(Zr+Zf+Zf+Zf):Int))=false->((Ins.n c0==Z06)=true->∃(Q:Bool->Prop),((decide (Env.v4 d0<Xi)=true->Q true)/\(decide (Env.v4 d0<Xi)=false->(decide (Env.v4 d0>Xj)=true->Q true)/\(decide (Env.v4 d0>Xj)=false->Q false)))/\(V8 Q b0 e0)/\(Q false->(St.stack b0= []->wr IntKind.i64 (Yp b0)=St.pc e0/\wr IntKind.i64 (Ye b0)=St.fuel e0/\St.status b0=St.status e0/\St.clause b0=St.clause e0/\(Zr+Ym<=List.length ([]++ [Env.v4 d0])/\List.take Ym ([]++ [Env.v4 d0])=St.stack e0)/\True)/\(St.stack b0≠ []->(Vp b0)/\(Vq b0)/\wr IntKind.i64 (Yp b0)=St.pc e0/\wr IntKind.i64 (Ye b0)=St.fuel e0/\St.status b0=St.status e0/\St.clause b0=St.clause e0/\(Zr+(Y7 b0)<=List.length (List.take (Y6 b0) (Y8 b0)++ [Env.v4 d0])/\List.take (Y7 b0) (List.take (Y6 b0) (Y8 b0)++ [Env.v4 d0])=St.stack e0)/\True)))/\((Ins.n c0==Z06)=false->((Ins.n c0==Z05)=true->∃(Q:Bool->Prop),((decide (Env.v5 d0<Xi)=true->Q true)/\(decide (Env.v5 d0<Xi)=false->(decide (Env.v5 d0>Xj)=true->Q true)/\(decide (Env.v5 d0>Xj)=false->Q false)))/\(V8 Q b0 e0)/\(Q false->(St.stack b0= []->wr IntKind.i64 (Yp b0)=St.pc e0/\wr IntKind.i64 (Ye b0)=St.fuel e0/\St.status b0=St.status e0/\St.clause b0=St.clause e0/\(Zr+Ym<=List.length ([]++ [Env.v5 d0])/\List.take Ym ([]++ [Env.v5 d0])=St.stack e0)/\True)/\(St.stack b0≠ []->(Vp b0)/\(Vq b0)/\wr IntKind.i64 (Yp b0)=St.pc e0/\wr IntKind.i64 (Ye b0)=St.fuel e0/\St.status b0=St.status e0/\St.clause b0=St.clause e0/\(Zr+(Y7 b0)<=List.length (List.take (Y6 b0) (Y8 b0)++ [Env.v5 d0])/\List.take (Y7 b0) (List.take (Y6 b0) (Y8 b0)++ [Env.v5 d0])=St.stack e0)/\True)))/\((Ins.n c0==Z05)=false->((Ins.n c0==Z0y)=true->∃(Q:Bool->Prop),((decide (Env.v6 d0<Xi)=true->Q true)/\(decide (Env.v6 d0<Xi)=false->(decide (Env.v6 d0>Xj)=true->Q true)/\(decide (Env.v6 d0>Xj)=false->Q false)))/\(V8 Q b0 e0)/\(Q false->(St.stack b0= []->wr IntKind.i64 (Yp b0)=St.pc e0/\wr IntKind.i64 (Ye b0)=St.fuel e0/\St.status b0=St.status e0/\St.clause b0=St.clause e0/\(Zr+Ym<=List.length ([]++ [Env.v6 d0])/\List.take Ym ([]++ [Env.v6 d0])=St.stack e0)/\True)/\(St.stack b0≠ []->(Vp b0)/\(Vq b0)/\wr IntKind.i64 (Yp b0)=St.pc e0/\wr IntKind.i64 (Ye b0)=St.fuel e0/\St.status b0=St.status e0/\St.clause b0=St.clause e0/\(Zr+(Y7 b0)<=List.length (List.take (Y6 b0) (Y8 b0)++ [Env.v6 d0])/\List.take (Y7 b0) (List.take (Y6 b0) (Y8 b0)++ [Env.v6 d0])=St.stack e0)/\True)))/\((Ins.n c0==Z0y)=false->((Ins.n c0==Z00)=true->∃(Q:Bool->Prop),((decide (Env.v7 d0<Xi)=true->Q true)/\(decide (Env.v7 d0<Xi)=false->(decide (Env.v7 d0>Xj)=true->Q true)/\(decide (Env.v7 d0>Xj)=false->Q false)))/\(V8 Q b0 e0)/\(Q false->(St.stack b0= []->wr IntKind.i64 (Yp b0)=St.pc e0/\wr IntKind.i64 (Ye b0)=St.fuel e0/\St.status b0=St.status e0/\St.clause b0=St.clause e0/\(Zr+Ym<=List.length ([]++ [Env.v7 d0])/\List.take Ym ([]++ [Env.v7 d0])=St.stack e0)/\True)/\(St.stack b0≠ []->(Vp b0)/\(Vq b0)/\wr IntKind.i64 (Yp b0)=St.pc e0/\wr IntKind.i64 (Ye b0)=St.fuel e0/\St.status b0=St.status e0/\St.clause b0=St.clause e0/\(Zr+(Y7 b0)<=List.length (List.take (Y6 b0) (Y8 b0)++ [Env.v7 d0])/\List.take (Y7 b0) (List.take (Y6 b0) (Y8 b0)++ [Env.v7 d0])=St.stack e0)/\True)))/\((Ins.n c0==Z00)=false->((Ins.n c0==Z1a)=true->∃(Q:Bool->Prop),((decide (Env.v8 d0<Xi)=true->Q true)/\(decide (Env.v8 d0<Xi)=false->(decide (Env.v8 d0>Xj)=true->Q true)/\(decide (Env.v8 d0>Xj)=false->Q false)))/\(V8 Q b0 e0)/\(Q false->(St.stack b0= []->wr IntKind.i64 (Yp b0)=St.pc e0/\wr IntKind.i64 (Ye b0)=St.fuel e0/\St.status b0=St.status e0/\St.clause b0=St.clause e0/\(Zr+Ym<=List.length ([]++ [Env.v8 d0])/\List.take Ym ([]++ [Env.v8 d0])=St.stack e0)/\True)/\(St.stack b0≠ []->(Vp b0)/\(Vq b0)/\wr IntKind.i64 (Yp b0)=St.pc e0/\wr IntKind.i64 (Ye b0)=St.fuel e0/\St.status b0=St.status e0/\St.clause b0=St.clause e0/\(Zr+(Y7 b0)<=List.length (List.take (Y6 b0) (Y8 b0)++ [Env.v8 d0])/\List.take (Y7 b0) (List.take (Y6 b0) (Y8 b0)++ [Env.v8 d0])=St.stack e0)/\True)))/\((Ins.n c0==Z1a)=false->((Ins.n c0==Z08)=true->∃(Q:Bool->Prop),((decide (Env.v9 d0<Xi)=true->Q true)/\(decide (Env.v9 d0<Xi)=false->(decide (Env.v9 d0>Xj)=true->Q true)/\(decide (Env.v9 d0>Xj)=false->Q false)))/\(V8 Q b0 e0)/\(Q false->(St.stack b0= []->wr IntKind.i64 (Yp b0)=St.pc e0/\wr IntKind.i64 (Ye b0)=St.fuel e0/\St.status b0=St.status e0/\St.clause b0=St.clause e0/\(Zr+Ym<=List.length ([]++ [Env.v9 d0])/\List.take Ym ([]++ [Env.v9 d0])=St.stack e0)/\True)/\(St.stack b0≠ []->(Vp b0)/\(Vq b0)/\wr IntKind.i64 (Yp b0)=St.pc e0/\wr IntKind.i64 (Ye b0)=St.fuel e0/\St.status b0=St.status e0/\St.clause b0=St.clause e0/\(Zr+(Y7 b0)<=List.length (List.take (Y6 b0) (Y8 b0)++ [Env.v9 d0])/\List.take (Y7 b0) (List.take (Y6 b0) (Y8 b0)++ [Env.v9 d0])=St.stack e0)/\True)))/\((Ins.n c0==Z08)=false->((Ins.n c0==Z04)=true->∃(Q:Bool->Prop),((decide (Env.v10 d0<Xi)=true->Q true)/\(decide (Env.v10 d0<Xi)=false->(decide (Env.v10 d0>Xj)=true->Q true)/\(decide (Env.v10 d0>Xj)=false->Q false)))/\(V8 Q b0 e0)/\(Q false->(St.stack b0= []->wr IntKind.i64 (Yp b0)=St.pc e0/\wr IntKind.i64 (Ye b0)=St.fuel e0/\St.status b0=St.status e0/\St.clause b0=St.clause e0/\(Zr+Ym<=List.length ([]++ [Env.v10 d0])/\List.take Ym ([]++ [Env.v10 d0])=St.stack e0)/\True)/\(St.stack b0≠ []->(Vp b0)/\(Vq b0)/\wr IntKind.i64 (Yp b0)=St.pc e0/\wr IntKind.i64 (Ye b0)=St.fuel e0/\St.status b0=St.status e0/\St.clause b0=St.clause e0/\(Zr+(Y7 b0)<=List.length (List.take (Y6 b0) (Y8 b0)++ [Env.v10 d0])/\List.take (Y7 b0) (List.take (Y6 b0) (Y8 b0)++ [Env.v10 d0])=St.stack e0)/\True)))/\((Ins.n c0==Z04)=false->((Ins.n c0==Z07)=true->∃(Q:Bool->Prop),((decide (Env.v11 d0<Xi)=true->Q true)/\(decide (Env.v11 d0<Xi)=false->(decide (Env.v11 d0>Xj)=true->Q true)/\(decide (Env.v11 d0>Xj)=false->Q false)))/\(V8 Q b0 e0)/\(Q false->(St.stack b0= []->wr IntKind.i64 (Yp b0)=St.pc e0/\wr IntKind.i64 (Ye b0)=St.fuel e0/\St.status b0=St.status e0/\St.clause b0=St.clause e0/\(Zr+Ym<=List.length ([]++ [Env.v11 d0])/\List.take Ym ([]++ [Env.v11 d0])=St.stack e0)/\True)/\(St.stack b0≠ []->(Vp b0)/\(Vq b0)/\wr IntKind.i64 (Yp b0)=St.pc e0/\wr IntKind.i64 (Ye b0)=St.fuel e0/\St.status b0=St.status e0/\St.clause b0=St.clause e0/\(Zr+(Y7 b0)<=List.length (List.take (Y6 b0) (Y8 b0)++ [Env.v11 d0])/\List.take (Y7 b0) (List.take (Y6 b0) (Y8 b0)++ [Env.v11 d0])=St.stack e0)/\True)))/\((Ins.n c0==Z07)=false->((Ins.n c0==Z0z)=true->∃(Q:Bool->Prop),((decide (Env.v12 d0<Xi)=true->Q true)/\(decide (Env.v12 d0<Xi)=false->(decide (Env.v12 d0>Xj)=true->Q true)/\(decide (Env.v12 d0>Xj)=false->Q false)))/\(V8 Q b0 e0)/\(Q false->(St.stack b0= []->wr IntKind.i64 (Yp b0)=St.pc e0/\wr IntKind.i64 (Ye b0)=St.fuel e0/\St.status b0=St.status e0/\St.clause b0=St.clause e0/\(Zr+Ym<=List.length ([]++ [Env.v12 d0])/\List.take Ym ([]++ [Env.v12 d0])=St.stack e0)/\True)/\(St.stack b0≠ []->(Vp b0)/\(Vq b0)/\wr IntKind.i64 (Yp b0)=St.pc e0/\wr IntKind.i64 (Ye b0)=St.fuel e0/\St.status b0=St.status e0/\St.clause b0=St.clause e0/\(Zr+(Y7 b0)<=List.length (List.take (Y6 b0) (Y8 b0)++ [Env.v12 d0])/\List.take (Y7 b0) (List.take (Y6 b0) (Y8 b0)++ [Env.v12 d0])=St.stack e0)/\True)))/\((Ins.n c0==Z0z)=false->((Ins.n c0==Z01)=true->∃(Q:Bool->Prop),((decide (Env.v13 d0<Xi)=true->Q true)/\(decide (Env.v13 d0<Xi)=false->(decide (Env.v13 d0>Xj)=true->Q true)/\(decide (Env.v13 d0>Xj)=false->Q false)))/\(V8 Q b0 e0)/\(Q false->(St.stack b0= []->wr IntKind.i64 (Yp b0)=St.pc e0/\wr IntKind.i64 (Ye b0)=St.fuel e0/\St.status b0=St.status e0/\St.clause b0=St.clause e0/\(Zr+Ym<=List.length ([]++ [Env.v13 d0])/\List.take Ym ([]++ [Env.v13 d0])=St.stack e0)/\True)/\(St.stack b0≠ []->(Vp b0)/\(Vq b0)/\wr IntKind.i64 (Yp b0)=St.pc e0/\wr IntKind.i64 (Ye b0)=St.fuel e0/\St.status b0=St.status e0/\St.clause b0=St.clause e0/\(Zr+(Y7 b0)<=List.length (List.take (Y6 b0) (Y8 b0)++ [Env.v13 d0])/\List.take (Y7 b0) (List.take (Y6 b0) (Y8 b0)++ [Env.v13 d0])=St.stack e0)/\True)))/\((Ins.n c0==Z01)=false->((Ins.n c0==Z03)=true->∃(Q:Bool->Prop),((decide (Env.v14 d0<Xi)=true->Q true)/\(decide (Env.v14 d0<Xi)=false->(decide (Env.v14 d0>Xj)=true->Q true)/\(decide (Env.v14 d0>Xj)=false->Q false)))/\(V8 Q b0 e0)/\(Q false->(St.stack b0= []->wr IntKind.i64 (Yp b0)=St.pc e0/\wr IntKind.i64 (Ye b0)=St.fuel e0/\St.status b0=St.status e0/\St.clause b0=St.clause e0/\(Zr+Ym<=List.length ([]++ [Env.v14 d0])/\List.take Ym ([]++ [Env.v14 d0])=St.stack e0)/\True)/\(St.stack b0≠ []->(Vp b0)/\(Vq b0)/\wr IntKind.i64 (Yp b0)=St.pc e0/\wr IntKind.i64 (Ye b0)=St.fuel e0/\St.status b0=St.status e0/\St.clause b0=St.clause e0/\(Zr+(Y7 b0)<=List.length (List.take (Y6 b0) (Y8 b0)++ [Env.v14 d0])/\List.take (Y7 b0) (List.take (Y6 b0) (Y8 b0)++ [Env.v14 d0])=St.stack e0)/\True)))/\((Ins.n c0==Z03)=false->((Ins.n c0==Z02)=true->∃(Q:Bool->Prop),((decide (Env.v15 d0<Xi)=true->Q true)/\(decide (Env.v15 d0<Xi)=false->(decide (Env.v15 d0>Xj)=true->Q true)/\(decide (Env.v15 d0>Xj)=false->Q false)))/\(V8 Q b0 e0)/\(Q false->(St.stack b0= []->wr IntKind.i64 (Yp b0)=St.pc e0/\wr IntKind.i64 (Ye b0)=St.fuel e0/\St.status b0=St.status e0/\St.clause b0=St.clause e0/\(Zr+Ym<=List.length ([]++ [Env.v15 d0])/\List.take Ym ([]++ [Env.v15 d0])=St.stack e0)/\True)/\(St.stack b0≠ []->(Vp b0)/\(Vq b0)/\wr IntKind.i64 (Yp b0)=St.pc e0/\wr IntKind.i64 (Ye b0)=St.fuel e0/\St.status b0=St.status e0/\St.clause b0=St.clause e0/\(Zr+(Y7 b0)<=List.length (List.take (Y6 b0) (Y8 b0)++ [Env.v15 d0])/\List.take (Y7 b0) (List.take (Y6 b0) (Y8 b0)++ [Env.v15 d0])=St.stack e0)/\True)))/\((Ins.n c0==Z02)=false->True))))))))))))))))))/\((Ins.op c0==(2:Int))=false->(St.stack b0= []->wr IntKind.i64 (Yp b0)=St.pc e0/\wr IntKind.i64 (Ye b0)=St.fuel e0/\St.status b0=St.status e0/\St.clause b0=St.clause e0/\(Zr+Ym<=List.length ([]++ [Ins.n c0])/\List.take Ym ([]++ [Ins.n c0])=St.stack e0)/\True)/\(St.stack b0≠ []->(Vp b0)/\(Vq b0)/\wr IntKind.i64 (Yp b0)=St.pc e0/\wr IntKind.i64 (Ye b0)=St.fuel e0/\St.status b0=St.status e0/\St.clause b0=St.clause e0/\(Zr+(Y7 b0)<=List.length (List.take (Y6 b0) (Y8 b0)++ [Ins.n c0])/\List.take (Y7 b0) (List.take (Y6 b0) (Y8 b0)++ [Ins.n c0])=St.stack e0)/\True)))
abbrev Zcn (a0:St):=((Zbk a0)-Vn)
abbrev Zp3 (a0:St):=(wr IntKind.i64 (Zcn a0))
abbrev Zhf (a0:St):=(Int.toNat (Zp3 a0))
abbrev Zp4 (a0:St):=(List.take (Zhf a0) (Wa a0))
abbrev Zp5 (a0:St):=([]++List.take (Zhf a0) (Wa a0))
abbrev Zp6 (a0:St):=(Zr+List.length (Zp4 a0)+Zf)
abbrev Z1c (a0:St):=(Zr+List.length (Zp4 a0)<=List.length (Zp5 a0)/\Zr<=Zr+List.length (Zp4 a0)/\(Zp6 a0)*(8:Nat)<=Zlv)
abbrev Zp7 (a0:St):=(Zr+List.length (Zp4 a0))
abbrev Z1d (a0:St):=(Zr+Zf<=Zr+List.length (Zp4 a0)/\(Zp7 a0)*(8:Nat)<=Zlv)
abbrev Z1e (a0:St) (b0:St):=(List.take (Zhf a0) (Wa a0)≠ []->(Z1d a0)/\(Z1c a0)/\wr IntKind.i64 (Yp a0)=St.pc b0/\wr IntKind.i64 (Ye a0)=St.fuel b0/\St.status a0=St.status b0/\St.clause a0=St.clause b0/\(Zr+(Zp6 a0)<=List.length (List.take (Zp7 a0) (Zp5 a0)++ [Wh])/\List.take (Zp6 a0) (List.take (Zp7 a0) (Zp5 a0)++ [Wh])=St.stack b0)/\True)
abbrev Zlw (a0:St):=((Zbk a0)-(2:Int))
abbrev Zlx (a0:St):=(Int.toNat (wr IntKind.i64 (Zlw a0)))
abbrev Z1f (a0:St) (b0:St):=(List.take (Zhf a0) (Wa a0)= []->wr IntKind.i64 (Yp a0)=St.pc b0/\wr IntKind.i64 (Ye a0)=St.fuel b0/\St.status a0=St.status b0/\St.clause a0=St.clause b0/\(Zr+Ym<=List.length ([]++ [Wh])/\List.take Ym ([]++ [Wh])=St.stack b0)/\True)
abbrev Zjj (a0:St):=(List.take (Zlx a0) (Wa a0))
abbrev Zud (a0:St):=(Wh<=wr IntKind.i64 (Zcn a0)/\wr IntKind.i64 (Zcn a0)<=(Zbk a0))
abbrev Z1g (a0:Int) (b0:St) (c0:St):=(decide (wr IntKind.i64 (a0+(Zbk b0))>=(64:Int))=true->St.pc b0=St.pc c0/\wr IntKind.i64 (Ye b0)=St.fuel c0/\(210:Int)=St.status c0/\St.clause b0=St.clause c0/\(Zei b0 c0)/\True)
abbrev Zxe (a0:St):=(Zr+List.length (Zjj a0)+Zf)
theorem Zhg (c:List Ins) (v:Env) (s:St) (below:Int) (z:St):Zm E F5 (vc E F5 400) 33 [.psl .ins c false,envV v,stV s,.int false .i64 below] hp0 0 (fun r=>ret E (patch hp0 0 r) r.v (stV z))=(
 ((St.fuel s==Wh)=true->St.pc s=St.pc z/\St.fuel s=St.fuel z/\(220:Int)=St.status z/\St.clause s=St.clause z/\(Zei s z)/\True)/\((St.fuel s==Wh)=false->Wh<=St.pc s/\St.pc s+Vn<=(↑(List.length c):Int)/\∀(x:Ins),c[Int.toNat (St.pc s)]? =some x->True/\(decide ((Zbk s)<Yk (Ins.op x))=true->St.pc s=St.pc z/\wr IntKind.i64 (Ye s)=St.fuel z/\(210:Int)=St.status z/\St.clause s=St.clause z/\(Zei s z)/\True)/\(decide ((Zbk s)<Yk (Ins.op x))=false->((Ins.op x==Vn)=true->(Z1g below s z)/\(Z1b below s x v z))/\((Ins.op x==Vn)=false->((Ins.op x==(2:Int))=true->(Z1g below s z)/\(Z1b below s x v z))/\((Ins.op x==(2:Int))=false->((Ins.op x==(12:Int))=true->Wh<=wr IntKind.i64 (Zcn s)/\wr IntKind.i64 (Zcn s)+Vn<=(Zbk s)/\∀(x_1:Int),(Wa s)[Int.toNat (Zp3 s)]? =some x_1->(decide (Ins.n x<=x_1)=true->Wh<=wr IntKind.i64 (Zcn s)/\wr IntKind.i64 (Zcn s)+Vn<=(Zbk s)/\∀(x_2:Int),(Wa s)[Int.toNat (Zp3 s)]? =some x_2->(decide (x_2<=Ins.m x)=true->(Zud s)/\(List.take (Zhf s) (Wa s)= []->wr IntKind.i64 (Yp s)=St.pc z/\wr IntKind.i64 (Ye s)=St.fuel z/\St.status s=St.status z/\St.clause s=St.clause z/\(Zr+Ym<=List.length ([]++ [Vn])/\List.take Ym ([]++ [Vn])=St.stack z)/\True)/\(List.take (Zhf s) (Wa s)≠ []->(Z1d s)/\(Z1c s)/\wr IntKind.i64 (Yp s)=St.pc z/\wr IntKind.i64 (Ye s)=St.fuel z/\St.status s=St.status z/\St.clause s=St.clause z/\(Zr+(Zp6 s)<=List.length (List.take (Zp7 s) (Zp5 s)++ [Vn])/\List.take (Zp6 s) (List.take (Zp7 s) (Zp5 s)++ [Vn])=St.stack z)/\True))/\(decide (x_2<=Ins.m x)=false->(Zud s)/\(Z1f s z)/\(Z1e s z)))/\(decide (Ins.n x<=x_1)=false->(Zud s)/\(Z1f s z)/\(Z1e s z)))/\((Ins.op x==(12:Int))=false->((Ins.op x==(13:Int))=true->Wh<=wr IntKind.i64 (Zcn s)/\wr IntKind.i64 (Zcn s)+Vn<=(Zbk s)/\∀(x_1:Int),(Wa s)[Int.toNat (Zp3 s)]? =some x_1->(Zud s)/\((x_1==Wh)=true->Ins.n x=St.pc z/\wr IntKind.i64 (Ye s)=St.fuel z/\St.status s=St.status z/\St.clause s=St.clause z/\(List.take (Zhf s) (Wa s)=St.stack z/\Zxd)/\True)/\((x_1==Wh)=false->wr IntKind.i64 (Yp s)=St.pc z/\wr IntKind.i64 (Ye s)=St.fuel z/\St.status s=St.status z/\St.clause s=St.clause z/\(List.take (Zhf s) (Wa s)=St.stack z/\Zxd)/\True))/\((Ins.op x==(13:Int))=false->((Ins.op x==(14:Int))=true->Ins.n x=St.pc z/\wr IntKind.i64 (Ye s)=St.fuel z/\St.status s=St.status z/\St.clause s=St.clause z/\(Zei s z)/\True)/\((Ins.op x==(14:Int))=false->((Ins.op x==(15:Int))=true->St.pc s=St.pc z/\wr IntKind.i64 (Ye s)=St.fuel z/\Vn=St.status z/\Ins.n x=St.clause z/\(Zei s z)/\True)/\((Ins.op x==(15:Int))=false->((Ins.op x==(16:Int))=true->St.pc s=St.pc z/\wr IntKind.i64 (Ye s)=St.fuel z/\(190:Int)=St.status z/\St.clause s=St.clause z/\(Zei s z)/\True)/\((Ins.op x==(16:Int))=false->Wh<=wr IntKind.i64 (Zlw s)/\wr IntKind.i64 (Zlw s)+Vn<=(Zbk s)/\∀(x_1:Int),(Wa s)[Int.toNat (wr IntKind.i64 (Zlw s))]? =some x_1->Wh<=wr IntKind.i64 (Zcn s)/\wr IntKind.i64 (Zcn s)+Vn<=(Zbk s)/\∀(x_2:Int),(Wa s)[Int.toNat (Zp3 s)]? =some x_2->True/\((Prod.snd (binF (Ins.op x) x_1 x_2) !=Wh)=true->((Prod.snd (binF (Ins.op x) x_1 x_2) !=Wh)=true->St.pc s=St.pc z/\wr IntKind.i64 (Ye s)=St.fuel z/\wr IntKind.i64 ((10:Int)+Prod.snd (binF (Ins.op x) x_1 x_2))=St.status z/\St.clause s=St.clause z/\(Zei s z)/\True)/\((Prod.snd (binF (Ins.op x) x_1 x_2) !=Wh)=false->St.pc s=St.pc z/\wr IntKind.i64 (Ye s)=St.fuel z/\St.status s=St.status z/\
St.clause s=St.clause z/\(Zei s z)/\True))/\((Prod.snd (binF (Ins.op x) x_1 x_2) !=Wh)=false->(Wh<=wr IntKind.i64 (Zlw s)/\wr IntKind.i64 (Zlw s)<=(Zbk s))/\(List.take (Zlx s) (Wa s)= []->wr IntKind.i64 (Yp s)=St.pc z/\wr IntKind.i64 (Ye s)=St.fuel z/\St.status s=St.status z/\St.clause s=St.clause z/\(Zr+Ym<=List.length ([]++ [Prod.fst (binF (Ins.op x) x_1 x_2)])/\List.take Ym ([]++ [Prod.fst (binF (Ins.op x) x_1 x_2)])=St.stack z)/\True)/\(List.take (Zlx s) (Wa s)≠ []->(Zr+Zf<=Zr+List.length (Zjj s)/\(Zr+List.length (Zjj s))*(8:Nat)<=Zlv)/\(Zr+List.length (Zjj s)<=List.length ([]++List.take (Zlx s) (Wa s))/\Zr<=Zr+List.length (Zjj s)/\(Zxe s)*(8:Nat)<=Zlv)/\wr IntKind.i64 (Yp s)=St.pc z/\wr IntKind.i64 (Ye s)=St.fuel z/\St.status s=St.status z/\St.clause s=St.clause z/\(Zr+(Zxe s)<=List.length (List.take (Zr+List.length (Zjj s)) ([]++List.take (Zlx s) (Wa s))++ [Prod.fst (binF (Ins.op x) x_1 x_2)])/\List.take (Zxe s) (List.take (Zr+List.length (Zjj s)) ([]++List.take (Zlx s) (Wa s))++ [Prod.fst (binF (Ins.op x) x_1 x_2)])=St.stack z)/\True)))))))))))):=by kernel_rfl
end
section
open Go
structure CanAdv (c:List Ins) (s:St) (below:Int):Prop where
 short:c.length<=4096
 pc0:0<=s.pc
 pc1:s.pc<c.length
 formed:∀x,c[s.pc.toNat]? =some x->formedF x=true
 fuel0:0<=s.fuel
 fuel1:s.fuel<=1000000
 below0:0<=below
 below1:below<=64
 stack:s.stack.length<=64
def advR (s1:St) (r:St×Int):St:=if r.2=0 then r.1 else {s1 with status:=10+r.2}
theorem Yh (s1 a:St):advR s1 (a,0)=a:=by simp [advR]
theorem Yj (s1 a:St) {e:Int} (h:¬e=0):advR s1 (a,e)={s1 with status:=10+e}:=by simp [advR,h]
theorem Zq0 {c:List Ins} {v:Env} {s:St} {below:Int} {x:Ins} (hx:c[s.pc.toNat]? =some x) (h:¬s.fuel=0):advF c v s below=advR {s with fuel:=s.fuel-1} (Zk x v {s with fuel:=s.fuel-1} below):=by
 unfold advF
 rw [if_neg h,hx]
 rfl
theorem Zhu {x:Ins} (hf:formedF x=true):1<=x.op/\x.op<=16:=by
 unfold formedF at hf
 repeat' split at hf
 all_goals simp only [decide_eq_true_eq] at hf
 all_goals omega
theorem Yf {l:List Int} {i:Nat} {y:Int} (h:l[i]? =some y) {j:Nat} (hj:i=l.length-1-j):topF l j=y:=by
 unfold topF
 rw [<-hj,List.getD_eq_getElem?_getD,h];rfl
theorem Zhv (c:List Ins) (v:Env) (s:St) (below:Int) (h:CanAdv c s below):PureC E 29 [.psl .ins c false,envV v,stV s,.int false .i64 below] (stV (advF c v s below)):=by
 obtain ⟨hc,h0,h1,hf,f0,f1,b0,b1,hs⟩:=h
 refine Za E_ok (Zb E_ok Z0r 400) ?_
 rw [Zji]; delta qBEk qBEb qBEd qBE1 qBEi qBEs qBE4 qBE2 qBEq qBEh qBEo qBEm qBE8 qBEl qBEw qBEf qBEg qBE3 qBE9 Z0x Z0w Z0v Z0u Z0t Z0s qBEz qBEx qBEv qBEu qBEt qBE6 qBEp qBEj qBEe qBEn qBEy qBEa qBEr Zeh qBE7 qBE5 qBEc Zua Zub Zuc
 obtain ⟨x,hx⟩:∃x,c[s.pc.toNat]? =some x:=⟨c[s.pc.toNat]'(by omega),by simp⟩
 have hfx:=hf x hx
 have hop:=Zhu hfx
 have hn9:∀k:Nat,((k:Nat):Int)=k:=fun _=>rfl
 have ef:wr .i64 (s.fuel-1)=s.fuel-1:=wr64 (by omega) (by omega)
 have ep:wr .i64 (s.pc+1)=s.pc+1:=wr64 (by omega) (by omega)
 have eb:wr .i64 (below+(s.stack.length:Int))=below+s.stack.length:=wr64 (by omega) (by omega)
 have e0:wr .i64 ((s.stack.length:Int)-0)=s.stack.length:=by rw [wr64 (by omega) (by omega)];omega
 have e1:wr .i64 ((s.stack.length:Int)-1)=s.stack.length-1:=wr64 (by omega) (by omega)
 have e10:wr .i64 ((s.stack.length:Int)-1-0)=s.stack.length-1:=by rw [wr64 (by omega) (by omega)];omega
 have e11:wr .i64 ((s.stack.length:Int)-1-1)=s.stack.length-2:=by rw [wr64 (by omega) (by omega)];omega
 have e2:wr .i64 ((s.stack.length:Int)-2)=s.stack.length-2:=wr64 (by omega) (by omega)
 simp only [hx,Option.some.injEq,forall_eq',ef,ep,eb,e0,e1,e10,e11,e2,Int.toNat_natCast,List.take_length,Z4,Zu,Yw,Yx,Yy,beq_iff_eq,bne_iff_ne,beq_eq_false_iff_ne,bne_eq_false_iff_eq,decide_eq_true_eq,decide_eq_false_iff_not,Bool.or_eq_true,Bool.or_eq_false_iff,Bool.not_eq_true',Bool.not_eq_false',Bool.and_eq_true,Bool.and_true,Bool.true_and,Bool.and_eq_false_iff,beq_self_eq_true,Z3,Z5,ne_eq,and_true,true_and,Bool.true_eq_false,Bool.false_eq_true,false_or,or_false,true_implies,Int.ofNat_eq_natCast,not_true_eq_false,not_false_eq_true,Decidable.not_not,ge_iff_le,gt_iff_lt]
 refine ⟨fun h=>by unfold advF;rw [if_pos h];simp,fun h=>⟨by omega,by omega,fun hn=> ?_,fun hn=> ?_⟩⟩
 all_goals rw [Zq0 hx h]
 · have hE:Zk x v {s with fuel:=s.fuel-1} below=({s with fuel:=s.fuel-1},200):=by unfold Zk;rw [if_pos hn]
   rw [hE];simp [advR]
 clear hx hf ef ep eb e0 e1 e10 e11 e2
 obtain ⟨s1,hs1⟩:∃s1:St,s1={s with fuel:=s.fuel-1}:=⟨_,rfl⟩
 have q1:s1.pc=s.pc:=by rw [hs1]
 have q2:s1.fuel=s.fuel-1:=by rw [hs1]
 have q3:s1.status=s.status:=by rw [hs1]
 have q4:s1.clause=s.clause:=by rw [hs1]
 have q5:s1.stack=s.stack:=by rw [hs1]
 rw [<-hs1]
 have hn:¬((s1.stack.length:Int)<Yk x.op):=by rw [q5];exact hn
 clear hs1
 obtain ⟨op,n,m⟩:=x
 dsimp only at*
 have e1n:Int.toNat ((s.stack.length:Int)-1)=s.stack.length-1:=by omega
 have e2n:Int.toNat ((s.stack.length:Int)-2)=s.stack.length-2:=by omega
 refine ⟨fun ho=> ?_,fun o1=>⟨fun ho=> ?_,fun o2=>⟨fun ho=> ?_,fun o12=>⟨fun ho=> ?_,fun o13=>⟨fun ho=> ?_,fun o14=>⟨fun ho=> ?_,fun o15=>⟨fun ho=> ?_,fun o16=> ?_⟩⟩⟩⟩⟩⟩⟩
 · subst ho
   refine ⟨fun h64=> ?_,fun h64=> ?_⟩
   · have hE:Zk ⟨1,n,m⟩ v s1 below=(s1,200):=by unfold Zk;rw [if_neg hn];simp [q5,h64]
     rw [hE,Yj _ _ (by omega)];simp [q1,q2,q3,q4,q5]
   · have hE:Zk ⟨1,n,m⟩ v s1 below=(s1.pops 0 [n],0):=by unfold Zk;rw [if_neg hn];simp [q5,h64]
     rw [hE,Yh]
     refine ⟨⟨by omega,by omega⟩,by omega,by simp [St.pops,q1],by simp [St.pops,q2],by simp [St.pops,q3],by simp [St.pops,q4],?_⟩
     simp [St.pops,q5]
     all_goals first|omega|exact List.take_of_length_le (by simp only [List.length_append,List.length_take,List.length_cons,List.length_nil];omega)
 · subst ho
   refine ⟨fun h64=> ?_,fun h64=> ?_⟩
   · have hE:Zk ⟨2,n,m⟩ v s1 below=(s1,200):=by unfold Zk;rw [if_neg hn];simp [q5,h64]
     rw [hE,Yj _ _ (by omega)];simp [q1,q2,q3,q4,q5]
   have hn15:0<=n/\n<=15:=by simp [formedF] at hfx;omega
   have hbit:Zn BinOp.and IntKind.i64 v.has (wr IntKind.i64 (1*2^min n.toNat IntKind.i64.bits))=0↔(v.has/2^n.toNat)%2=0:=by
    have e:∀k:Nat,k<=15->wr IntKind.i64 (1*2^min k IntKind.i64.bits)=((2^k:Nat):Int):=by decide
    rw [e _ (by omega)]
    have e2:=Zza v.has n.toNat (by omega)
    have e3:(Zn BinOp.and IntKind.i64 v.has ((2^n.toNat:Nat):Int)==0)=decide ((v.has/((2^n.toNat:Nat):Int))%2=0):=e2
    rw [<-beq_iff_eq (a:=Zn BinOp.and IntKind.i64 v.has ((2^n.toNat:Nat):Int)),e3,decide_eq_true_eq]
    simp
   refine ⟨by omega,fun hb=> ?_,fun hb=>⟨by omega,by omega,?_⟩⟩
   · have hE:Zk ⟨2,n,m⟩ v s1 below=(s1,181):=by unfold Zk;rw [if_neg hn];simp [q5,h64,hbit.1 hb]
     rw [hE,Yj _ _ (by omega)];simp [q1,q2,q3,q4,q5]
   have hb':¬(v.has/2^n.toNat)%2=0:=fun h=>hb (hbit.2 h)
   have key:∀w:Int,v.v.getD n.toNat 0=w->∃Q:Bool->Prop,((w< -9007199254740992->Q true)/\(¬w< -9007199254740992->(9007199254740992<w->Q true)/\(¬9007199254740992<w->Q false)))/\
    (Q true->s.pc=(advR s1 (Zk ⟨2,n,m⟩ v s1 below)).pc/\s.fuel-1=(advR s1 (Zk ⟨2,n,m⟩ v s1 below)).fuel/\13=(advR s1 (Zk ⟨2,n,m⟩ v s1 below)).status/\s.clause=(advR s1 (Zk ⟨2,n,m⟩ v s1 below)).clause/\s.stack=(advR s1 (Zk ⟨2,n,m⟩ v s1 below)).stack/\(False->False))/\
    (Q false->(0<=(s.stack.length:Int)/\(s.stack.length:Int)<=s.stack.length)/\(s.stack.length+1)*8<=140737488355328/\s.pc+1=(advR s1 (Zk ⟨2,n,m⟩ v s1 below)).pc/\s.fuel-1=(advR s1 (Zk ⟨2,n,m⟩ v s1 below)).fuel/\s.status=(advR s1 (Zk ⟨2,n,m⟩ v s1 below)).status/\s.clause=(advR s1 (Zk ⟨2,n,m⟩ v s1 below)).clause/\
     0+(s.stack.length+1)<=(s.stack++ [w]).length/\List.take (s.stack.length+1) (s.stack++ [w])=(advR s1 (Zk ⟨2,n,m⟩ v s1 below)).stack):=by
    intro w hw
    refine ⟨fun b=>(b=true↔(w< -9007199254740992\/9007199254740992<w)),⟨fun h=>by simp [h],fun h=>⟨fun h'=>by simp [h'],fun h'=>by simp;omega⟩⟩,fun hQ=> ?_,fun hQ=> ?_⟩
    · have hQ:=hQ.1 rfl
      have hE:Zk ⟨2,n,m⟩ v s1 below=(s1,3):=by unfold Zk;rw [if_neg hn];dsimp only;rw [if_neg (by omega),if_pos rfl,if_neg (by rw [q5];exact h64),if_neg hb',hw,if_pos hQ]
      rw [hE,Yj _ _ (by omega)];simp [q1,q2,q3,q4,q5]
    · have hQ:¬(w< -9007199254740992\/9007199254740992<w):=fun h=>absurd (hQ.2 h) (by simp)
      have hE:Zk ⟨2,n,m⟩ v s1 below=(s1.pops 0 [w],0):=by unfold Zk;rw [if_neg hn];dsimp only;rw [if_neg (by omega),if_pos rfl,if_neg (by rw [q5];exact h64),if_neg hb',hw,if_neg hQ]
      rw [hE,Yh]
      refine ⟨⟨by omega,by omega⟩,by omega,by simp [St.pops,q1],by simp [St.pops,q2],by simp [St.pops,q3],by simp [St.pops,q4],by simp,?_⟩
      simp [St.pops,q5]
      all_goals first|omega|exact List.take_of_length_le (by simp only [List.length_append,List.length_take,List.length_cons,List.length_nil];omega)
   exact ⟨fun hk=>key _ (by rw [show n=0 by omega];rfl),fun _=>⟨fun hk=>key _ (by rw [show n=1 by omega];rfl),fun _=>⟨fun hk=>key _ (by rw [show n=2 by omega];rfl),fun _=>⟨fun hk=>key _ (by rw [show n=3 by omega];rfl),fun _=>⟨fun hk=>key _ (by rw [show n=4 by omega];rfl),fun _=>⟨fun hk=>key _ (by rw [show n=5 by omega];rfl),fun _=>⟨fun hk=>key _ (by rw [show n=6 by omega];rfl),fun _=>⟨fun hk=>key _ (by rw [show n=7 by omega];rfl),fun _=>⟨fun hk=>key _ (by rw [show n=8 by omega];rfl),fun _=>⟨fun hk=>key _ (by rw [show n=9 by omega];rfl),fun _=>⟨fun hk=>key _ (by rw [show n=10 by omega];rfl),fun _=>⟨fun hk=>key _ (by rw [show n=11 by omega];rfl),fun _=>⟨fun hk=>key _ (by rw [show n=12 by omega];rfl),fun _=>⟨fun hk=>key _ (by rw [show n=13 by omega];rfl),fun _=>⟨fun hk=>key _ (by rw [show n=14 by omega];rfl),fun _=>⟨fun hk=>key _ (by rw [show n=15 by omega];rfl),fun _=>trivial⟩⟩⟩⟩⟩⟩⟩⟩⟩⟩⟩⟩⟩⟩⟩⟩
 · subst ho
   have hl:1<=(s.stack.length:Int):=by rw [q5] at hn;simp [Yk] at hn;omega
   refine ⟨by omega,by omega,fun a ha=> ?_⟩
   have t0:topF s1.stack 0=a:=Yf (by rw [q5];exact ha) (by rw [q5];omega)
   have hE:Zk ⟨12,n,m⟩ v s1 below=(s1.pops 1 [if n<=a/\a<=m then 1 else 0],0):=by unfold Zk;rw [if_neg hn];simp [t0]
   rw [hE,Yh]
   refine ⟨fun hna=>⟨by omega,by omega,fun b hb=> ?_⟩,fun hna=> ?_⟩
   · rw [ha] at hb;cases hb
     refine ⟨fun hm=> ?_,fun hm=> ?_⟩
     all_goals
      refine ⟨⟨by omega,by omega⟩,by simp only [List.length_take];omega,by simp [St.pops,q1],by simp [St.pops,q2],by simp [St.pops,q3],by simp [St.pops,q4],?_⟩
      rw [e1n]
      simp [St.pops,q5,hna,hm]
      all_goals first|omega|exact List.take_of_length_le (by simp only [List.length_append,List.length_take,List.length_cons,List.length_nil];omega)
   · refine ⟨⟨by omega,by omega⟩,by simp only [List.length_take];omega,by simp [St.pops,q1],by simp [St.pops,q2],by simp [St.pops,q3],by simp [St.pops,q4],?_⟩
     rw [e1n]
     simp [St.pops,q5,hna]
     all_goals first|omega|exact List.take_of_length_le (by simp only [List.length_append,List.length_take,List.length_cons,List.length_nil];omega)
 · subst ho
   have hl:1<=(s.stack.length:Int):=by rw [q5] at hn;simp [Yk] at hn;omega
   refine ⟨by omega,by omega,fun a ha=>⟨⟨by omega,by omega⟩,?_⟩⟩
   have t0:topF s1.stack 0=a:=Yf (by rw [q5];exact ha) (by rw [q5];omega)
   have hE:Zk ⟨13,n,m⟩ v s1 below=({s1.pops 1 [] with pc:=if a=0 then n else s1.pc+1},0):=by unfold Zk;rw [if_neg hn];simp [t0]
   rw [hE,Yh,e1n]
   refine ⟨fun hz=> ?_,fun hz=> ?_⟩
   all_goals simp [St.pops,q1,q2,q3,q4,q5,hz]
 · subst ho
   have hE:Zk ⟨14,n,m⟩ v s1 below=({s1 with pc:=n},0):=by unfold Zk;rw [if_neg hn];simp
   rw [hE,Yh]
   simp [q1,q2,q3,q4,q5]
 · subst ho
   have hE:Zk ⟨15,n,m⟩ v s1 below=({s1 with status:=1,clause:=n},0):=by unfold Zk;rw [if_neg hn];simp
   rw [hE,Yh]
   simp [q1,q2,q3,q4,q5]
 · subst ho
   have hE:Zk ⟨16,n,m⟩ v s1 below=(s1,180):=by unfold Zk;rw [if_neg hn];simp
   rw [hE,Yj _ _ (by omega)]
   simp [q1,q2,q3,q4,q5]
 have hl:2<=(s.stack.length:Int):=by
  rw [q5] at hn
  have e:Yk op=2:=by unfold Yk;rw [if_neg (by omega),if_pos (by omega)]
  rw [e] at hn;omega
 refine ⟨fun ho=> ?_,fun o3=>⟨fun ho=> ?_,fun o4=>⟨fun ho=> ?_,fun o5=>⟨fun ho=> ?_,fun o6=>⟨fun ho=> ?_,fun o7=>⟨fun ho=> ?_,fun o8=>⟨fun ho=> ?_,fun o9=>⟨fun ho=> ?_,fun o10=>⟨fun ho=> ?_,fun o11=>by omega⟩⟩⟩⟩⟩⟩⟩⟩⟩
 · obtain rfl:op=3:=by omega
   clear ho
   refine ⟨by omega,by omega,fun a ha=>⟨by omega,by omega,fun b hb=> ?_⟩⟩
   have t1:topF s1.stack 1=a:=Yf (by rw [q5];exact ha) (by rw [q5];omega)
   have t0:topF s1.stack 0=b:=Yf (by rw [q5];exact hb) (by rw [q5];omega)
   have hE:Zk ⟨3,n,m⟩ v s1 below=if (addF a b).2≠0 then (s1,(addF a b).2) else (s1.pops 2 [(addF a b).1],0):=by
    unfold Zk;rw [if_neg hn];simp [t0,t1,binF]
   have hw:wr .i64 (10+(addF a b).2)=10+(addF a b).2:=by
    have:=Zm7 a b
    rw [wr64 (by omega) (by omega)]
   refine ⟨fun he=>⟨fun _=> ?_,fun h'=>absurd h' he⟩,fun he=> ?_⟩
   · rw [hE,if_pos he,Yj _ _ he,hw];simp [q1,q2,q3,q4,q5]
   · rw [hE,if_neg (by simp [he]),Yh]
     refine ⟨⟨by omega,by omega⟩,by simp only [List.length_take];omega,by simp [St.pops,q1],by simp [St.pops,q2],by simp [St.pops,q3],by simp [St.pops,q4],?_⟩
     rw [e2n]
     simp [St.pops,q5]
     all_goals first|omega|exact List.take_of_length_le (by simp only [List.length_append,List.length_take,List.length_cons,List.length_nil];omega)
 · obtain rfl:op=4:=by omega
   clear ho
   refine ⟨by omega,by omega,fun a ha=>⟨by omega,by omega,fun b hb=> ?_⟩⟩
   have t1:topF s1.stack 1=a:=Yf (by rw [q5];exact ha) (by rw [q5];omega)
   have t0:topF s1.stack 0=b:=Yf (by rw [q5];exact hb) (by rw [q5];omega)
   have hE:Zk ⟨4,n,m⟩ v s1 below=if (subF a b).2≠0 then (s1,(subF a b).2) else (s1.pops 2 [(subF a b).1],0):=by
    unfold Zk;rw [if_neg hn];simp [t0,t1,binF]
   have hw:wr .i64 (10+(subF a b).2)=10+(subF a b).2:=by
    have:=Zm8 a b
    rw [wr64 (by omega) (by omega)]
   refine ⟨fun he=>⟨fun _=> ?_,fun h'=>absurd h' he⟩,fun he=> ?_⟩
   · rw [hE,if_pos he,Yj _ _ he,hw];simp [q1,q2,q3,q4,q5]
   · rw [hE,if_neg (by simp [he]),Yh]
     refine ⟨⟨by omega,by omega⟩,by simp only [List.length_take];omega,by simp [St.pops,q1],by simp [St.pops,q2],by simp [St.pops,q3],by simp [St.pops,q4],?_⟩
     rw [e2n]
     simp [St.pops,q5]
     all_goals first|omega|exact List.take_of_length_le (by simp only [List.length_append,List.length_take,List.length_cons,List.length_nil];omega)
 · obtain rfl:op=5:=by omega
   clear ho
   refine ⟨by omega,by omega,fun a ha=>⟨by omega,by omega,fun b hb=> ?_⟩⟩
   have t1:topF s1.stack 1=a:=Yf (by rw [q5];exact ha) (by rw [q5];omega)
   have t0:topF s1.stack 0=b:=Yf (by rw [q5];exact hb) (by rw [q5];omega)
   have hE:Zk ⟨5,n,m⟩ v s1 below=if (mulF a b).2≠0 then (s1,(mulF a b).2) else (s1.pops 2 [(mulF a b).1],0):=by
    unfold Zk;rw [if_neg hn];simp [t0,t1,binF]
   have hw:wr .i64 (10+(mulF a b).2)=10+(mulF a b).2:=by
    have:=Zm9 a b
    rw [wr64 (by omega) (by omega)]
   refine ⟨fun he=>⟨fun _=> ?_,fun h'=>absurd h' he⟩,fun he=> ?_⟩
   · rw [hE,if_pos he,Yj _ _ he,hw];simp [q1,q2,q3,q4,q5]
   · rw [hE,if_neg (by simp [he]),Yh]
     refine ⟨⟨by omega,by omega⟩,by simp only [List.length_take];omega,by simp [St.pops,q1],by simp [St.pops,q2],by simp [St.pops,q3],by simp [St.pops,q4],?_⟩
     rw [e2n]
     simp [St.pops,q5]
     all_goals first|omega|exact List.take_of_length_le (by simp only [List.length_append,List.length_take,List.length_cons,List.length_nil];omega)
 · obtain rfl:op=6:=by omega
   clear ho
   refine ⟨by omega,by omega,fun a ha=>⟨by omega,by omega,fun b hb=> ?_⟩⟩
   have t1:topF s1.stack 1=a:=Yf (by rw [q5];exact ha) (by rw [q5];omega)
   have t0:topF s1.stack 0=b:=Yf (by rw [q5];exact hb) (by rw [q5];omega)
   have hE:Zk ⟨6,n,m⟩ v s1 below=(s1.pops 2 [min a b],0):=by
    unfold Zk;rw [if_neg hn];simp [t0,t1,binF]
   rw [hE,Yh]
   refine ⟨⟨by omega,by omega⟩,by simp only [List.length_take];omega,by simp [St.pops,q1],by simp [St.pops,q2],by simp [St.pops,q3],by simp [St.pops,q4],?_⟩
   rw [e2n]
   simp [St.pops,q5]
   all_goals first|omega|exact List.take_of_length_le (by simp only [List.length_append,List.length_take,List.length_cons,List.length_nil];omega)
 · obtain rfl:op=7:=by omega
   clear ho
   refine ⟨by omega,by omega,fun a ha=>⟨by omega,by omega,fun b hb=> ?_⟩⟩
   have t1:topF s1.stack 1=a:=Yf (by rw [q5];exact ha) (by rw [q5];omega)
   have t0:topF s1.stack 0=b:=Yf (by rw [q5];exact hb) (by rw [q5];omega)
   have hE:Zk ⟨7,n,m⟩ v s1 below=(s1.pops 2 [max a b],0):=by
    unfold Zk;rw [if_neg hn];simp [t0,t1,binF]
   rw [hE,Yh]
   refine ⟨⟨by omega,by omega⟩,by simp only [List.length_take];omega,by simp [St.pops,q1],by simp [St.pops,q2],by simp [St.pops,q3],by simp [St.pops,q4],?_⟩
   rw [e2n]
   simp [St.pops,q5]
   all_goals first|omega|exact List.take_of_length_le (by simp only [List.length_append,List.length_take,List.length_cons,List.length_nil];omega)
 · obtain rfl:op=8:=by omega
   clear ho
   refine ⟨by omega,by omega,fun a ha=>⟨by omega,by omega,fun b hb=> ?_⟩⟩
   have t1:topF s1.stack 1=a:=Yf (by rw [q5];exact ha) (by rw [q5];omega)
   have t0:topF s1.stack 0=b:=Yf (by rw [q5];exact hb) (by rw [q5];omega)
   have hE:Zk ⟨8,n,m⟩ v s1 below=if (divF a b 8).2≠0 then (s1,(divF a b 8).2) else (s1.pops 2 [(divF a b 8).1],0):=by
    unfold Zk;rw [if_neg hn];simp [t0,t1,binF]
   have hw:wr .i64 (10+(divF a b 8).2)=10+(divF a b 8).2:=by
    have:=Uo a b 8
    rw [wr64 (by omega) (by omega)]
   refine ⟨fun he=>⟨fun _=> ?_,fun h'=>absurd h' he⟩,fun he=> ?_⟩
   · rw [hE,if_pos he,Yj _ _ he,hw];simp [q1,q2,q3,q4,q5]
   · rw [hE,if_neg (by simp [he]),Yh]
     refine ⟨⟨by omega,by omega⟩,by simp only [List.length_take];omega,by simp [St.pops,q1],by simp [St.pops,q2],by simp [St.pops,q3],by simp [St.pops,q4],?_⟩
     rw [e2n]
     simp [St.pops,q5]
     all_goals first|omega|exact List.take_of_length_le (by simp only [List.length_append,List.length_take,List.length_cons,List.length_nil];omega)
 · obtain rfl:op=9:=by omega
   clear ho
   refine ⟨by omega,by omega,fun a ha=>⟨by omega,by omega,fun b hb=> ?_⟩⟩
   have t1:topF s1.stack 1=a:=Yf (by rw [q5];exact ha) (by rw [q5];omega)
   have t0:topF s1.stack 0=b:=Yf (by rw [q5];exact hb) (by rw [q5];omega)
   have hE:Zk ⟨9,n,m⟩ v s1 below=if (divF a b 9).2≠0 then (s1,(divF a b 9).2) else (s1.pops 2 [(divF a b 9).1],0):=by
    unfold Zk;rw [if_neg hn];simp [t0,t1,binF]
   have hw:wr .i64 (10+(divF a b 9).2)=10+(divF a b 9).2:=by
    have:=Uo a b 9
    rw [wr64 (by omega) (by omega)]
   refine ⟨fun he=>⟨fun _=> ?_,fun h'=>absurd h' he⟩,fun he=> ?_⟩
   · rw [hE,if_pos he,Yj _ _ he,hw];simp [q1,q2,q3,q4,q5]
   · rw [hE,if_neg (by simp [he]),Yh]
     refine ⟨⟨by omega,by omega⟩,by simp only [List.length_take];omega,by simp [St.pops,q1],by simp [St.pops,q2],by simp [St.pops,q3],by simp [St.pops,q4],?_⟩
     rw [e2n]
     simp [St.pops,q5]
     all_goals first|omega|exact List.take_of_length_le (by simp only [List.length_append,List.length_take,List.length_cons,List.length_nil];omega)
 · obtain rfl:op=10:=by omega
   clear ho
   refine ⟨by omega,by omega,fun a ha=>⟨by omega,by omega,fun b hb=> ?_⟩⟩
   have t1:topF s1.stack 1=a:=Yf (by rw [q5];exact ha) (by rw [q5];omega)
   have t0:topF s1.stack 0=b:=Yf (by rw [q5];exact hb) (by rw [q5];omega)
   have hE:Zk ⟨10,n,m⟩ v s1 below=if (divF a b 10).2≠0 then (s1,(divF a b 10).2) else (s1.pops 2 [(divF a b 10).1],0):=by
    unfold Zk;rw [if_neg hn];simp [t0,t1,binF]
   have hw:wr .i64 (10+(divF a b 10).2)=10+(divF a b 10).2:=by
    have:=Uo a b 10
    rw [wr64 (by omega) (by omega)]
   refine ⟨fun he=>⟨fun _=> ?_,fun h'=>absurd h' he⟩,fun he=> ?_⟩
   · rw [hE,if_pos he,Yj _ _ he,hw];simp [q1,q2,q3,q4,q5]
   · rw [hE,if_neg (by simp [he]),Yh]
     refine ⟨⟨by omega,by omega⟩,by simp only [List.length_take];omega,by simp [St.pops,q1],by simp [St.pops,q2],by simp [St.pops,q3],by simp [St.pops,q4],?_⟩
     rw [e2n]
     simp [St.pops,q5]
     all_goals first|omega|exact List.take_of_length_le (by simp only [List.length_append,List.length_take,List.length_cons,List.length_nil];omega)
 · obtain rfl:op=11:=by omega
   clear ho
   refine ⟨by omega,by omega,fun a ha=>⟨by omega,by omega,fun b hb=>⟨fun hab=> ?_,fun hab=> ?_⟩⟩⟩
   all_goals
    have t1:topF s1.stack 1=a:=Yf (by rw [q5];exact ha) (by rw [q5];omega)
    have t0:topF s1.stack 0=b:=Yf (by rw [q5];exact hb) (by rw [q5];omega)
    have hE:Zk ⟨11,n,m⟩ v s1 below=(s1.pops 2 [if a<b then 1 else 0],0):=by
     unfold Zk;rw [if_neg hn];simp [t0,t1,binF]
    rw [hE,Yh]
    refine ⟨⟨by omega,by omega⟩,by simp only [List.length_take];omega,by simp [St.pops,q1],by simp [St.pops,q2],by simp [St.pops,q3],by simp [St.pops,q4],?_⟩
    rw [e2n]
    simp [St.pops,q5,hab]
    all_goals first|omega|exact List.take_of_length_le (by simp only [List.length_append,List.length_take,List.length_cons,List.length_nil];omega)
end
section
open Go
def Sadv:Sum thy:=sumP (dL4 Ztw dEnv dSt dI) (fun x=>CanAdv x.1 x.2.2.1 x.2.2.2.1) fun x=>stV (advF x.1 x.2.1 x.2.2.1 x.2.2.2.1)
structure SX where
 s:St
 r:Nat
def A11:Fr thy->Hp thy->Nat->Ann thy:=fun T h i=>{X:=SX,fr:=fun x=> [(0,T 0),(4,T 4),(6,T 6),(10,T 10)],bl:=fun x=> [(bOf (T 10),.raw (stV x.s).cells 0 none)]++blkP h (T 4)++blkP h (T 6),src:=fun _=> [],md:= [bOf (T 10)],ih:=i,M:=i+30,meas:=fun x=>x.r}
def A26:Fr thy->Hp thy->Nat->Ann thy:=fun T h i=>{X:=LX,fr:=fun x=> [(0,T 0),(1,T 1),(5,.int false .i64 x.k)],bl:=fun x=> [],src:=fun _=> [],md:= [],ih:=i,M:=i+30,meas:=fun x=>x.r}
def F6:Fns thy:=addL (addL (addS F5 29 Sadv) 21 7 A11 E) 34 4 A26 E
theorem Zy5:FnsOk E F6:=Zv E_ok (Zv E_ok (Zc Z0r (Z7 E_ok (Ze (f:=29) rfl) fun x h=>Zhv x.1 x.2.1 x.2.2.1 x.2.2.2.1 h)) _ _ _) _ _ _
end
section
open Go
end
section
open Go.ChangeShapes Go.WideShapes Go.ChangeAt Go.RowKit
section
variable {H:Type} {enc:TypeId × Value->H} {w:World} {spare:Nat->Bool} {held:Bool}
theorem Zej:Tryz.prog.cellsOf 3=1:=by kernel_rfl
theorem Z1p:Tryz.prog.cellsOf 24=16:=by kernel_rfl
theorem Z1q:Tryz.prog.cellsOf 26=17:=by kernel_rfl
theorem Zus:Tryz.prog.cellsOf 58=3:=by kernel_rfl
theorem Z3x {cs:List Value} (h:cs.length=3):∃a b c,cs= [a,b,c]:=by
 match cs,h with
 | [a,b,c],_=>exact ⟨a,b,c,rfl⟩
theorem Zma (fuel:Nat) (cs:List Value) (x:DataW H×List MemPlace) (h:DataW.trod enc Tryz.prog w 0 spare held fuel 58 cs=some x):∃a:Ins,∀(j:Nat) sv,(E.enc Th.ins a)[j]? =some sv->∃v,cs[j]? =some v/\Den E σ0 (gTop w) sv v:=by
 obtain ⟨xs,n,rfl,_,hl,hxl,hf⟩:=DataW.trod_struct Tryz.underlying58 h
 rw [Zus] at hl
 obtain ⟨a,b,c,rfl⟩:=Z3x hl
 have hx3:xs.length=3:=by simpa using hxl
 have h0:=hf 0 _ rfl
 have h1:=hf 1 _ rfl
 have h2:=hf 2 _ rfl
 rw [gB9 (by omega)] at h0 h1 h2
 simp only [List.getElem_toArray,List.getElem_cons_zero,List.getElem_cons_succ,Zej,List.drop_zero,List.drop_succ_cons,List.take_succ_cons,List.take_zero] at h0 h1 h2
 obtain ⟨p,hp,_⟩:=Xg Tryz.underlying3 h0
 obtain ⟨q,hq,_⟩:=Xg Tryz.underlying3 h1
 obtain ⟨r,hr,_⟩:=Xg Tryz.underlying3 h2
 simp only [List.cons.injEq,and_true] at hp hq hr
 subst hp hq hr
 refine ⟨⟨p,q,r⟩,fun j sv hj=> ?_⟩
 match j,hj with
 |0,hj=>cases hj;exact ⟨_,rfl,.int _ _ _⟩
 |1,hj=>cases hj;exact ⟨_,rfl,.int _ _ _⟩
 |2,hj=>cases hj;exact ⟨_,rfl,.int _ _ _⟩
theorem Zek (fuel:Nat) (cs:List Value) (x:DataW H×List MemPlace) (h:DataW.trod enc Tryz.prog w 0 spare held fuel 3 cs=some x):∃a:Int,∀(j:Nat) sv,(E.enc Th.ints a)[j]? =some sv->∃v,cs[j]? =some v/\Den E σ0 (gTop w) sv v:=by
 obtain ⟨p,rfl,_⟩:=Xg Tryz.underlying3 h
 refine ⟨p,fun j sv hj=> ?_⟩
 match j,hj with
 |0,hj=>cases hj;exact ⟨_,rfl,.int _ _ _⟩
set_option maxRecDepth 100000 in
theorem Zut {r:Reach} {b0:Nat} {v:Value} {d:DataW H} {ps:List MemPlace} (hval:Value.okWide Tryz.prog w r b0 23 v) (h:DataW.Trod enc Tryz.prog w 0 spare held 23 v d ps):∃l:List Ins,Den E σ0 (gTop w) (.psl Th.ins l false) v:=by
 obtain ⟨a,len,cap,rfl⟩:=okWide_slice Tryz.underlying23 hval
 obtain ⟨fuel,h⟩:=h
 obtain ⟨sv,l,h1,h2⟩:=U9 (E:=E) (th:=Th.ins) (fun _=>rfl) (by decide) Tryz.underlying23 Zus h (fun n cs' y hy=>Zma n cs' y hy)
 have h1: [Value.slice a len cap]= [sv]:=h1
 cases h1
 exact ⟨l,h2⟩
set_option maxHeartbeats 1000000 in
theorem Zxo {v:Value} {d:DataW H} {ps:List MemPlace} (h:DataW.Trod enc Tryz.prog w 0 spare held 26 v d ps):∃x:Env,Den E σ0 (gTop w) (envV x) v:=by
 obtain ⟨fuel,h⟩:=h
 obtain ⟨xs,n,rfl,_,hl,hxl,hf⟩:=DataW.trod_struct Tryz.underlying26 h
 rw [Z1q] at hl
 have hv:=Vs hl (by decide)
 generalize v.cells.toList=cs at*
 have h0:=hf 0 _ rfl
 have h1:=hf 1 _ rfl
 have hx2:xs.length=2:=by simpa using hxl
 rw [gB9 (by omega)] at h0 h1
 simp only [List.getElem_toArray,List.getElem_cons_zero,List.getElem_cons_succ,Zej,Z1p,List.drop_zero] at h0 h1
 obtain ⟨p,hp,ip⟩:=Xg Tryz.underlying3 h0
 obtain ⟨ys,m,rfl,_,_,hyl,hg⟩:=DataW.trod_array Tryz.underlying24 h1
 have hall:∀i,i<16->∃n:Int,cs[1+i]? =some (.int .i64 n):=by
  intro i hi
  have h2:=hg i hi
  rw [gB9 (by omega)] at h2
  simp only [List.getElem_toArray,List.getElem_cons_zero,List.getElem_cons_succ,Zej,Nat.mul_one] at h2
  obtain ⟨n,hn,_⟩:=Xg Tryz.underlying3 h2
  refine ⟨n,?_⟩
  have h3:((((cs.drop 1).take 16).drop i).take 1)[0]? =some (.int .i64 n):=by rw [hn];rfl
  rw [List.getElem?_take,if_pos (by decide),List.getElem?_drop,List.getElem?_take,if_pos (by omega),List.getElem?_drop] at h3
  simpa using h3
 have hp0:cs[0]? =some (.int .i64 p):=by
  have h3:((cs.take 1))[0]? =some (.int .i64 p):=by rw [hp];rfl
  rw [List.getElem?_take,if_pos (by decide)] at h3
  exact h3
 obtain ⟨f,hfam⟩:=Go.Deep.choose_lt (α:=Int) hall
 rw [hv]
 refine ⟨⟨p,f 0,f 1,f 2,f 3,f 4,f 5,f 6,f 7,f 8,f 9,f 10,f 11,f 12,f 13,f 14,f 15⟩,.agg (fun j=>cs.getD j undef) (by simp [hl]) (fun j hj=> ?_) (fun j sv hj=> ?_)⟩
 · have hj:j<17:=hj
   rw [List.getElem?_toArray,List.getD_eq_getElem?_getD,gB9 (by omega)];rfl
 · match j,hj with
   |0,hj=>cases hj;show Den E σ0 (gTop w) (.int false .i64 p) _;rw [List.getD_eq_getElem?_getD,hp0];exact .int _ _ _
   |1,hj=>cases hj;show Den E σ0 (gTop w) (.int false .i64 (f 0)) _;rw [List.getD_eq_getElem?_getD,show cs[1]? =_ from hfam 0 (by omega)];exact .int _ _ _
   |2,hj=>cases hj;show Den E σ0 (gTop w) (.int false .i64 (f 1)) _;rw [List.getD_eq_getElem?_getD,show cs[2]? =_ from hfam 1 (by omega)];exact .int _ _ _
   |3,hj=>cases hj;show Den E σ0 (gTop w) (.int false .i64 (f 2)) _;rw [List.getD_eq_getElem?_getD,show cs[3]? =_ from hfam 2 (by omega)];exact .int _ _ _
   |4,hj=>cases hj;show Den E σ0 (gTop w) (.int false .i64 (f 3)) _;rw [List.getD_eq_getElem?_getD,show cs[4]? =_ from hfam 3 (by omega)];exact .int _ _ _
   |5,hj=>cases hj;show Den E σ0 (gTop w) (.int false .i64 (f 4)) _;rw [List.getD_eq_getElem?_getD,show cs[5]? =_ from hfam 4 (by omega)];exact .int _ _ _
   |6,hj=>cases hj;show Den E σ0 (gTop w) (.int false .i64 (f 5)) _;rw [List.getD_eq_getElem?_getD,show cs[6]? =_ from hfam 5 (by omega)];exact .int _ _ _
   |7,hj=>cases hj;show Den E σ0 (gTop w) (.int false .i64 (f 6)) _;rw [List.getD_eq_getElem?_getD,show cs[7]? =_ from hfam 6 (by omega)];exact .int _ _ _
   |8,hj=>cases hj;show Den E σ0 (gTop w) (.int false .i64 (f 7)) _;rw [List.getD_eq_getElem?_getD,show cs[8]? =_ from hfam 7 (by omega)];exact .int _ _ _
   |9,hj=>cases hj;show Den E σ0 (gTop w) (.int false .i64 (f 8)) _;rw [List.getD_eq_getElem?_getD,show cs[9]? =_ from hfam 8 (by omega)];exact .int _ _ _
   |10,hj=>cases hj;show Den E σ0 (gTop w) (.int false .i64 (f 9)) _;rw [List.getD_eq_getElem?_getD,show cs[10]? =_ from hfam 9 (by omega)];exact .int _ _ _
   |11,hj=>cases hj;show Den E σ0 (gTop w) (.int false .i64 (f 10)) _;rw [List.getD_eq_getElem?_getD,show cs[11]? =_ from hfam 10 (by omega)];exact .int _ _ _
   |12,hj=>cases hj;show Den E σ0 (gTop w) (.int false .i64 (f 11)) _;rw [List.getD_eq_getElem?_getD,show cs[12]? =_ from hfam 11 (by omega)];exact .int _ _ _
   |13,hj=>cases hj;show Den E σ0 (gTop w) (.int false .i64 (f 12)) _;rw [List.getD_eq_getElem?_getD,show cs[13]? =_ from hfam 12 (by omega)];exact .int _ _ _
   |14,hj=>cases hj;show Den E σ0 (gTop w) (.int false .i64 (f 13)) _;rw [List.getD_eq_getElem?_getD,show cs[14]? =_ from hfam 13 (by omega)];exact .int _ _ _
   |15,hj=>cases hj;show Den E σ0 (gTop w) (.int false .i64 (f 14)) _;rw [List.getD_eq_getElem?_getD,show cs[15]? =_ from hfam 14 (by omega)];exact .int _ _ _
   |16,hj=>cases hj;show Den E σ0 (gTop w) (.int false .i64 (f 15)) _;rw [List.getD_eq_getElem?_getD,show cs[16]? =_ from hfam 15 (by omega)];exact .int _ _ _
end
section
variable {H:Type} {enc:TypeId × Value->H} {w:World} {spare:Nat->Bool} {held:Bool}
theorem Zuu:Tryz.prog.cellsOf 27=1:=by kernel_rfl
theorem Z1r:Tryz.prog.cellsOf 29=5:=by kernel_rfl
theorem len5 {cs:List Value} (h:cs.length=5):∃a b c d e,cs= [a,b,c,d,e]:=by
 match cs,h with
 | [a,b,c,d,e],_=>exact ⟨a,b,c,d,e,rfl⟩
set_option maxRecDepth 100000 in
theorem Zqj {v:Value} {d:DataW H} {ps:List MemPlace} (h:DataW.Trod enc Tryz.prog w 0 spare held 29 v d ps):∃s:St,Den E σ0 (gTop w) (stV s) v:=by
 obtain ⟨fuel,h⟩:=h
 obtain ⟨xs,n,rfl,_,hl,hxl,hf⟩:=DataW.trod_struct Tryz.underlying29 h
 rw [Z1r] at hl
 have hv:=Vs hl (by decide)
 generalize v.cells.toList=cs at*
 obtain ⟨a,b,c,d,e,rfl⟩:=len5 hl
 have hx5:xs.length=5:=by simpa using hxl
 have h0:=hf 0 _ rfl
 have h1:=hf 1 _ rfl
 have h2:=hf 2 _ rfl
 have h3:=hf 3 _ rfl
 have h4:=hf 4 _ rfl
 rw [gB9 (by omega)] at h0 h1 h2 h3 h4
 simp only [List.getElem_toArray,List.getElem_cons_zero,List.getElem_cons_succ,Zej,Zuu,List.drop_zero,List.drop_succ_cons,List.take_succ_cons,List.take_zero] at h0 h1 h2 h3 h4
 obtain ⟨p,hp,_⟩:=Xg Tryz.underlying3 h0
 obtain ⟨q,hq,_⟩:=Xg Tryz.underlying3 h1
 obtain ⟨r,hr,_⟩:=Xg Tryz.underlying3 h2
 obtain ⟨t,ht,_⟩:=Xg Tryz.underlying3 h3
 obtain ⟨sv,l,hsv,hd⟩:=U9 (E:=E) (th:=Th.ints) (fun _=>rfl) (by decide) Tryz.underlying27 Zej h4 (fun n cs' y hy=>Zek n cs' y hy)
 simp only [List.cons.injEq,and_true] at hp hq hr ht hsv
 subst hp hq hr ht hsv
 rw [hv]
 refine ⟨⟨p,q,r,t,l⟩,.agg (fun j=> [Value.int .i64 p,.int .i64 q,.int .i64 r,.int .i64 t,e].getD j undef) rfl (fun j hj=> ?_) (fun j sv hj=> ?_)⟩
 · match j,hj with
   |0,_=>rfl
   |1,_=>rfl
   |2,_=>rfl
   |3,_=>rfl
   |4,_=>rfl
 · match j,hj with
   |0,hj=>cases hj;exact .int _ _ _
   |1,hj=>cases hj;exact .int _ _ _
   |2,hj=>cases hj;exact .int _ _ _
   |3,hj=>cases hj;exact .int _ _ _
   |4,hj=>cases hj;exact hd
end
end
section
open Go.ChangeShapes Go.WideShapes Go.ChangeAt Go.RowKit
theorem Zo8 {g g':GH} {w w':World} (h:Stp 0 0 [] σ0 g w σ0 g' w'):Ext w w':=⟨h.os,h.tape,h.output,h.size,fun k hk=>h.heap k hk (by simp)⟩
theorem Z3r {g:GH} {s0:SV thy} {v0:Value} (h0:Den E σ0 g s0 v0):DenL E σ0 g [s0] [v0]:=⟨rfl,fun j sv v h1 h2=>by
 match j,h1,h2 with
 |0,h1,h2=>cases h1;cases h2;exact h0⟩
theorem Za4 {g:GH} {s0:SV thy} {v0:Value} {ss:List (SV thy)} {vs:List Value} (h0:Den E σ0 g s0 v0) (h:DenL E σ0 g ss vs):DenL E σ0 g (s0::ss) (v0::vs):=⟨by simp [h.1],fun j sv v h1 h2=>by
 cases j with
 |zero=>cases h1;cases h2;exact h0
 |succ j=>exact h.2 j sv v h1 h2⟩
end
section
open Go
def nbN (u:Nat):Nat:=if h:u=0 then 0 else nbN (u/256)+1
termination_by u
theorem Zas:nbN 0=0:=by unfold nbN;simp
theorem Zfv {u:Nat} (h:u≠0):nbN u=nbN (u/256)+1:=by rw [nbN.eq_1 u,dif_neg h]
theorem Zc2:∀(k u:Nat),u<256^k->nbN u<=k
 |0,u,h=>by
  obtain rfl:u=0:=by simpa using h
  rw [Zas];exact Nat.le_refl _
 |k+1,u,h=>by
  by_cases h0:u=0
  · subst h0;rw [Zas];omega
  · rw [Zfv h0]
    have:=Zc2 k (u/256) (by rw [Nat.div_lt_iff_lt_mul (by omega)];rw [Nat.pow_succ] at h;exact h)
    omega
def intB (n:Int) (k:Nat) (i:Nat):Int:=wr .u8 (Int.fdiv (wr .u64 n) (2^min (Int.toNat (8*((k:Int)-1-(i:Int)))) 64))
def Xw (n:Int):Nat:=if n<0 then nbN (18446744073709551615-wr .u64 n).toNat else nbN (wr .u64 n).toNat
def tagI (n:Int):Int:=if n<0 then 31-(Xw n:Int) else 32+(Xw n:Int)
def encI (n:Int):List Int:=tagI n::(List.range (Xw n)).map (intB n (Xw n))
theorem wru (n:Int):0<=wr .u64 n/\wr .u64 n<18446744073709551616:=by simp only [wr,IntKind.wrap_u64];omega
theorem Zfw (n:Int):Xw n<=8:=by
 unfold Xw
 have:=wru n
 split
 · exact Zc2 8 _ (by omega)
 · exact Zc2 8 _ (by omega)
theorem Zco (n:Int):(encI n).length=Xw n+1:=by simp [encI]
def escB:List Int->List Int
 | []=> []
 |b::r=>if b=0 then b::255::escB r else b::escB r
theorem Wf (a b:List Int):escB (a++b)=escB a++escB b:=by
 induction a with
 |nil=>rfl
 |cons x a ih=>simp only [List.cons_append,escB];split<;>simp [ih]
theorem Zu9 (a:List Int):(escB a).length<=2*a.length:=by
 induction a with
 |nil=>simp [escB]
 |cons x a ih=>simp only [escB];split<;>simp<;>omega
mutual
def encV:Val->List Int
 | .mk k n b l=>if k=1 then encI n else if k=2 then 48::escB b++ [0,0] else 64::encL l++ [0]
def encL:List Val->List Int
 | []=> []
 |v::r=>encV v++encL r
end
theorem Ue (a b:List Val):encL (a++b)=encL a++encL b:=by
 induction a with
 |nil=>rfl
 |cons x a ih=>simp only [List.cons_append,encL,ih,List.append_assoc]
mutual
def Zl:Val->Int×Bool
 | .mk k n b l=>if k=1 then (0,b.isEmpty&&l.isEmpty) else if k=2 then (0,n==0&&l.isEmpty) else if k=3 then (if n≠0\/b≠ [] then (0,false) else Wm l 0) else (0,false)
def Wm:List Val->Int->Int×Bool
 | [],d=>(d+1,true)
 |v::r,d=>if (Zl v).2 then Wm r (max d (Zl v).1) else (0,false)
end
mutual
def Val.ht:Val->Nat
 | .mk _ _ _ l=>htL l+1
def htL:List Val->Nat
 | []=>0
 |v::r=>max v.ht (htL r)
end
theorem Zb2 {v:Val}:∀{l:List Val},v∈l->v.ht<=htL l
 |x::r,h=>by
  rw [htL]
  rcases List.mem_cons.1 h with rfl|h
  · omega
  · have:=Zb2 h;omega
theorem Zat (v:Val):v.ht=htL v.l+1:=by cases v;rfl
mutual
def Val.sz:Val->Nat
 | .mk _ _ b l=>2*b.length+szL l+16
def szL:List Val->Nat
 | []=>0
 |v::r=>v.sz+szL r
end
theorem Zva (v:Val):v.sz=2*v.b.length+szL v.l+16:=by cases v;rfl
mutual
theorem Zmh:∀(v:Val),(encV v).length<=v.sz
 | .mk k n b l=>by
  rw [encV,Val.sz]
  have h1:=Zfw n
  have h2:=Zmi l
  have h3:=Zu9 b
  split
  · rw [Zco];omega
  · split
    · simp;omega
    · simp;omega
theorem Zmi:∀(l:List Val),(encL l).length<=szL l
 | []=>Nat.le_refl _
 |v::r=>by
  rw [encL,szL,List.length_append]
  have:=Zmh v
  have:=Zmi r
  omega
end
theorem Wb (v:Val):Val.mk v.k v.n v.b v.l=v:=by cases v;rfl
structure OkV (v:Val):Prop where
 sz:v.sz<=1000000000000
theorem Zxt {v:Val}:∀{l:List Val},v∈l->v.sz<=szL l
 |x::r,h=>by
  rw [szL]
  rcases List.mem_cons.1 h with rfl|h
  · omega
  · have:=Zxt h;omega
mutual
theorem Zyq:∀v:Val,v.ht<=v.sz
 | .mk k n b l=>by have:=Zxu l;rw [Val.ht,Val.sz];omega
theorem Zxu:∀l:List Val,htL l<=szL l
 | []=>Nat.le_refl _
 |v::r=>by have:=Zyq v;have:=Zxu r;rw [htL,szL];omega
end
theorem Zqw:∀(l:List Val),l.length<=szL l
 | []=>Nat.le_refl _
 |x::r=>by
  have:=Zqw r
  have h2:=Zva x
  rw [szL,List.length_cons]
  omega
theorem OkV.mem {v x:Val} (h:OkV v) (hx:x∈v.l):OkV x:=by
 refine ⟨?_⟩
 have:=h.sz;have:=Zxt hx;have:=Zva v;omega
theorem OkV.ln {v:Val} (h:OkV v):v.l.length<=1000000000000:=by
 have:=h.sz;have:=Zqw v.l;have:=Zva v;omega
theorem OkV.bn {v:Val} (h:OkV v):v.b.length<=1000000000000:=by
 have:=h.sz;have:=Zva v;omega
theorem OkV.en {v:Val} (h:OkV v):(encV v).length<=1000000000000:=Nat.le_trans (Zmh v) h.sz
theorem Vd:∀(l:List Val) (d:Int),Wm l d=if l.all (fun v=>(Zl v).2) then (l.foldl (fun d v=>max d (Zl v).1) d+1,true) else (0,false)
 | [],d=>by simp [Wm]
 |v::r,d=>by
  rw [Wm,Vd r]
  by_cases h:(Zl v).2=true
  · simp [h]
  · simp [h]
theorem Zfx:∀(n:Nat) (v:Val),v.ht<=n->0<=(Zl v).1/\(Zl v).1<=n
 |0,v,h=>by rw [Zat] at h;omega
 |n+1,v,h=>by
  have hl:∀(l:List Val) (d:Int),htL l<=n->0<=d->d<=n->0<=(Wm l d).1/\(Wm l d).1<=n+1:=by
   intro l
   induction l with
   |nil=>intro d _ h1 h2;rw [Wm];exact ⟨by show 0<=d+1;omega,by show d+1<=n+1;omega⟩
   |cons x r ih=>
    intro d h0 h1 h2
    rw [htL] at h0
    obtain ⟨k1,k2⟩:=Zfx n x (by omega)
    rw [Wm]
    split
    · exact ih _ (by omega) (by omega) (by omega)
    · exact ⟨Int.le_refl _,by show (0:Int)<=_;omega⟩
  cases v with
  |mk k m b l=>
   rw [Zat] at h
   simp only [Val.l] at h
   rw [Zl]
   split
   · exact ⟨Int.le_refl _,by show (0:Int)<=_;omega⟩
   · split
     · exact ⟨Int.le_refl _,by show (0:Int)<=_;omega⟩
     · split
       · split
         · exact ⟨Int.le_refl _,by show (0:Int)<=_;omega⟩
         · exact hl l 0 (by omega) (Int.le_refl _) (by omega)
       · exact ⟨Int.le_refl _,by show (0:Int)<=_;omega⟩
theorem Zau (v:Val):Zl v=if v.k=1 then (0,v.b.isEmpty&&v.l.isEmpty) else if v.k=2 then (0,v.n==0&&v.l.isEmpty) else if v.k=3 then (if v.n≠0\/v.b≠ [] then (0,false) else Wm v.l 0) else (0,false):=by cases v;rw [Zl];rfl
theorem Uf (v:Val):encV v=if v.k=1 then encI v.n else if v.k=2 then 48::escB v.b++ [0,0] else 64::encL v.l++ [0]:=by cases v;rw [encV];rfl
theorem Ze4 (a b:List Val) (d:Int) (ha:∀v∈a,(Zl v).2=true):Wm (a++b) d=Wm b (a.foldl (fun d v=>max d (Zl v).1) d):=by
 induction a generalizing d with
 |nil=>rfl
 |cons x a ih=>
  rw [List.cons_append,Wm,if_pos (ha x (by simp)),ih _ fun v hv=>ha v (by simp [hv])]
  rfl
theorem Yc {α:Type} {l:List α} {k:Nat} {x:α} (h:l[k]? =some x):l.take (k+1)=l.take k++ [x]:=by rw [List.take_add_one,h];rfl
end
section
open Go
def Z3g:Fr thy->Hp thy->Nat->Ann thy:=fun T h i=>{X:=DX,fr:=fun x=> [(0,.int false .u64 x.j),(2,.int false .i64 x.k)],bl:=fun x=> [],src:=fun _=> [],md:= [],ih:=i,M:=i+10,meas:=fun x=>x.r}
def Zyx:Fns thy:=addL F0 104 1 Z3g E
theorem Zvi:FnsOk E Zyx:=Zv E_ok F0_ok _ _ _
theorem Zq4 (u:Int) (k:Int):Zm E Zyx (vc E Zyx 400) 104 [.int false .u64 u] hp0 0 (fun r=>ret E (patch hp0 0 r) r.v (.int false .i64 k))=(
∃(R:DX->Prop),(∃(x:DX),R x/\true=true/\(u=DX.j x/\(0:Int)=(↑(DX.k x):Int)/\True)/\True)/\∀(x:DX),R x->(decide (DX.j x>(0:Int))=true->∃(x':DX),R x'/\x'.2+(1:Nat)<=x.2/\true=true/\(Int.fdiv (DX.j x) ((2:Int)^min (Int.toNat (8:Int)) (IntKind.bits IntKind.u64))=DX.j x'/\wr IntKind.i64 ((↑(DX.k x):Int)+(1:Int))=(↑(DX.k x'):Int)/\True)/\True)/\(decide (DX.j x>(0:Int))=false->(↑(DX.k x):Int)=k)):=by kernel_rfl
theorem shr8 (x:Int):Int.fdiv x ((2:Int)^min (Int.toNat (8:Int)) (IntKind.bits IntKind.u64))=x/256:=by
 show Int.fdiv x 256=_
 rw [Int.fdiv_eq_ediv_of_nonneg _ (by omega)]
theorem Zq5 (u:Int) (h0:0<=u) (h1:u<18446744073709551616):PureC E 104 [.int false .u64 u] (.int false .i64 (nbN u.toNat:Int)):=by
 refine Za E_ok (Zb E_ok Zvi 400) ?_
 rw [Zq4]
 simp only [Z4,Zu,Yw,Yx,Yy,beq_iff_eq,bne_iff_ne,beq_eq_false_iff_ne,bne_eq_false_iff_eq,decide_eq_true_eq,decide_eq_false_iff_not,Bool.or_eq_true,Bool.or_eq_false_iff,Bool.not_eq_true',Bool.not_eq_false',Bool.and_eq_true,Bool.and_true,Bool.true_and,Bool.and_eq_false_iff,beq_self_eq_true,Z3,Z5,ne_eq,and_true,true_and,Bool.true_eq_false,Bool.false_eq_true,false_or,or_false,true_implies,Int.ofNat_eq_natCast,not_true_eq_false,not_false_eq_true,Decidable.not_not,shr8]
 have hb:=Zc2 8 u.toNat (by omega)
 refine ⟨fun x=>0<=x.j/\x.k+nbN x.j.toNat=nbN u.toNat/\x.r=nbN x.j.toNat,⟨⟨0,nbN u.toNat,[],[],0,0,0,u⟩,⟨h0,by simp,rfl⟩,rfl,rfl⟩,?_⟩
 rintro x ⟨x0,x1,x2⟩
 refine And.intro (fun h=> ?_) (fun h=> ?_)
 · have e:nbN x.j.toNat=nbN (x.j/256).toNat+1:=by
    rw [Zfv (by omega)]
    congr 2
    omega
   exact ⟨⟨x.k+1,nbN (x.j/256).toNat,[],[],0,0,0,x.j/256⟩,⟨by show 0<=x.j/256;omega,by show x.k+1+nbN (x.j/256).toNat=_;omega,rfl⟩,by show nbN (x.j/256).toNat+1<=x.r;omega,rfl,wr64 (by omega) (by omega)⟩
 · have e:x.j.toNat=0:=by omega
   rw [e,Zas] at x1
   omega
def Aint:Fr thy->Hp thy->Nat->Ann thy:=fun T h i=>{X:=DX,fr:=fun x=> [(0,.sl i 0 x.D.length 1 none),(1,T 1),(6,T 6),(30,T 30),(31,.int false .i64 x.k)],bl:=fun x=>blkA h (T 0) i Th.bys x.D,src:=fun _=> [(i,0)],md:= [bOf (T 0)],ih:=i+1,M:=i+40,meas:=fun x=>x.r}
def Z14:Sum thy:=sumP (.cons (dInt (E:=E) .u64) .nil) (fun x=>0<=x.1/\x.1<18446744073709551616) fun x=> .int false .i64 (nbN x.1.toNat:Int)
def Fint:Fns thy:=addL (addS F0 104 Z14) 91 9 Aint E
abbrev qBL3:=(if IntKind.signed IntKind.u64=true then (-1:Int) else IntKind.max IntKind.u64)
abbrev qBL1 (a0:Int):=(↑(nbN (Int.toNat (Zn BinOp.xor IntKind.u64 qBL3 (wr IntKind.u64 a0)))):Int)
abbrev qBL2 (a0:Int):=(↑(nbN (Int.toNat (wr IntKind.u64 a0))):Int)
abbrev qBL4 (a0:DX):=(↑(DX.k a0):Int)
abbrev qBL6:=(1:Nat)
abbrev qBL5 (a0:DX) (b0:Nat):=(List.length (DX.D a0)<=List.length (DX.D a0)/\b0<=List.length (DX.D a0)/\(List.length (DX.D a0)+qBL6)*qBL6<=(140737488355328:Nat))
abbrev qBL7 (a0:DX) (b0:DX):=((0:Nat)=(0:Nat)/\List.length (DX.D a0)+qBL6=List.length (DX.D b0)/\True)
theorem Zvj (n:Int) (l:List Int) (len fz:Nat):Zm E Fint (vc E Fint 400) 91 (.sl 0 0 len (E.w Th.bys) none:: [.int false .i64 n]) (hp1 Th.bys l fz) 1 (appK E Th.bys l len fz (encI n))=(
 ((0:Int)<=wr IntKind.u64 n/\wr IntKind.u64 n+(1:Int)<=(18446744073709551616:Int))/\(decide (n<(0:Int))=true->((0:Int)<=Zn BinOp.xor IntKind.u64 qBL3 (wr IntKind.u64 n)/\Zn BinOp.xor IntKind.u64 qBL3 (wr IntKind.u64 n)+(1:Int)<=(18446744073709551616:Int))/\(len<=List.length l/\fz<=len/\(len+qBL6)*qBL6<=(140737488355328:Nat))/\∃(R:DX->Prop),(∃(x:DX),R x/\true=true/\(((0:Nat)=(0:Nat)/\len+qBL6=List.length (DX.D x)/\True)/\n=n/\(qBL1 n)=(qBL1 n)/\(qBL1 n)=(qBL1 n)/\(0:Int)=(qBL4 x)/\True)/\(List.take len l++ [wr IntKind.u8 (wr IntKind.i64 ((31:Int)-(qBL1 n)))]=DX.D x/\fz=fz)/\True)/\∀(x:DX),R x->(decide ((qBL4 x)<(qBL1 n))=true->(0:Int)<=wr IntKind.i64 ((8:Int)*wr IntKind.i64 (wr IntKind.i64 ((qBL1 n)-(1:Int))-(qBL4 x)))/\(qBL5 x fz)/\∃(x':DX),R x'/\x'.2+qBL6<=x.2/\true=true/\((qBL7 x x')/\n=n/\(qBL1 n)=(qBL1 n)/\(qBL1 n)=(qBL1 n)/\wr IntKind.i64 ((qBL4 x)+(1:Int))=(qBL4 x')/\True)/\(List.take (List.length (DX.D x)) (DX.D x)++ [wr IntKind.u8 (Int.fdiv (wr IntKind.u64 n) ((2:Int)^min (Int.toNat (wr IntKind.i64 ((8:Int)*wr IntKind.i64 (wr IntKind.i64 ((qBL1 n)-(1:Int))-(qBL4 x))))) (IntKind.bits IntKind.u64)))]=DX.D x'/\fz=fz)/\True)/\(decide ((qBL4 x)<(qBL1 n))=false->DX.D x=List.take len l++encI n/\List.length (DX.D x)=len+List.length (encI n)/\fz=fz))/\(decide (n<(0:Int))=false->(len<=List.length l/\fz<=len/\(len+qBL6)*qBL6<=(140737488355328:Nat))/\∃(R:DX->Prop),(∃(x:DX),R x/\true=true/\(((0:Nat)=(0:Nat)/\len+qBL6=List.length (DX.D x)/\True)/\n=n/\(qBL2 n)=(qBL2 n)/\(qBL2 n)=(qBL2 n)/\(0:Int)=(qBL4 x)/\True)/\(List.take len l++ [wr IntKind.u8 (wr IntKind.i64 ((32:Int)+(qBL2 n)))]=DX.D x/\fz=fz)/\True)/\∀(x:DX),R x->(decide ((qBL4 x)<(qBL2 n))=true->(0:Int)<=wr IntKind.i64 ((8:Int)*wr IntKind.i64 (wr IntKind.i64 ((qBL2 n)-(1:Int))-(qBL4 x)))/\(qBL5 x fz)/\∃(x':DX),R x'/\x'.2+qBL6<=x.2/\true=true/\((qBL7 x x')/\n=n/\(qBL2 n)=(qBL2 n)/\(qBL2 n)=(qBL2 n)/\wr IntKind.i64 ((qBL4 x)+(1:Int))=(qBL4 x')/\True)/\(List.take (List.length (DX.D x)) (DX.D x)++ [wr IntKind.u8 (Int.fdiv (wr IntKind.u64 n) ((2:Int)^min (Int.toNat (wr IntKind.i64 ((8:Int)*wr IntKind.i64 (wr IntKind.i64 ((qBL2 n)-(1:Int))-(qBL4 x))))) (IntKind.bits IntKind.u64)))]=DX.D x'/\fz=fz)/\True)/\(decide ((qBL4 x)<(qBL2 n))=false->DX.D x=List.take len l++encI n/\List.length (DX.D x)=len+List.length (encI n)/\fz=fz))):=by kernel_rfl
theorem Zvk:SumOk E 104 Z14:=Z7 E_ok (Ze (f:=104) rfl) fun x h=>Zq5 x.1 h.1 h.2
theorem Zq6:FnsOk E Fint:=Zv E_ok (Zc F0_ok Zvk) _ _ _
theorem notU {u:Int} (h1:0<=u) (h2:u<18446744073709551616):Zn BinOp.xor IntKind.u64 (if IntKind.signed IntKind.u64=true then (-1:Int) else IntKind.max IntKind.u64) u=18446744073709551615-u:=by
 show IntKind.wrap .u64 (BitVec.ofInt 64 18446744073709551615^^^BitVec.ofInt 64 u).toNat=_
 have e2:BitVec.ofInt 64 18446744073709551615=BitVec.allOnes 64:=by decide
 rw [e2,BitVec.allOnes_xor,BitVec.toNat_not,BitVec.toNat_ofInt,IntKind.wrap_u64]
 omega
theorem Zyy (n:Int):AppC E 91 Th.bys 1 [.int false .i64 n] (encI n):=by
 refine Zb6 E_ok (Zb E_ok Zq6 400) rfl fun (l:List Int) len fz hlen hfz hbig=> ?_
 rw [Zvj];delta qBL3 qBL1 qBL2 qBL4 qBL6 qBL5 qBL7
 replace hbig:(len+(encI n).length)*1<=140737488355328:=hbig
 replace hlen:len<=l.length:=hlen
 rw [Zco] at hbig
 have hs:=Zfw n
 have hw:=wru n
 refine ⟨⟨by omega,by omega⟩,?_⟩
 simp only [Z4,Zu,Yw,Yx,Yy,beq_iff_eq,bne_iff_ne,beq_eq_false_iff_ne,bne_eq_false_iff_eq,decide_eq_true_eq,decide_eq_false_iff_not,Bool.or_eq_true,Bool.or_eq_false_iff,Bool.not_eq_true',Bool.not_eq_false',Bool.and_eq_true,Bool.and_true,Bool.true_and,Bool.and_eq_false_iff,beq_self_eq_true,Z3,Z5,ne_eq,and_true,true_and,Bool.true_eq_false,Bool.false_eq_true,false_or,or_false,true_implies,Int.ofNat_eq_natCast,not_true_eq_false,not_false_eq_true,Decidable.not_not]
 refine And.intro (fun h=> ?_) (fun h=> ?_)
 · rw [notU hw.1 hw.2]
   refine ⟨by omega,?_⟩
   have hN:nbN (18446744073709551615-wr .u64 n).toNat=Xw n:=by unfold Xw;rw [if_pos h]
   have ht:wr .u8 (wr .i64 (31-(Xw n:Int)))=tagI n:=by unfold tagI;rw [if_pos h,wr64 (by omega) (by omega)];simp only [wr,IntKind.wrap_u8];omega
   rw [hN,ht]
   generalize hk:Xw n=K at*
   refine ⟨⟨by omega,by omega,by omega⟩,fun x=>∃q,q<=K/\x.k=q/\x.D=l.take len++(tagI n::(List.range q).map (intB n K))/\x.r=K-q,⟨⟨0,K,l.take len++ [tagI n],[],0,0,0,0⟩,⟨0,by omega,rfl,rfl,rfl⟩,⟨by simp;omega,rfl⟩,rfl⟩,?_⟩
   rintro x ⟨q,hq,hxk,hxD,hxr⟩
   have hxl:x.D.length=len+1+q:=by rw [hxD];simp;omega
   refine And.intro (fun h=> ?_) (fun h=> ?_)
   · have hK:q<K:=by omega
     have e3:wr .i64 (8*wr .i64 (wr .i64 ((K:Int)-1)-(x.k:Int)))=8*((K:Int)-1-(q:Int)):=by rw [wr64 (n:=(K:Int)-1) (by omega) (by omega),hxk,wr64 (n:=(K:Int)-1-q) (by omega) (by omega),wr64 (by omega) (by omega)]
     simp only [e3]
     refine ⟨by omega,⟨Nat.le_refl _,by omega,by omega⟩,⟨x.k+1,K-(q+1),x.D++ [intB n K q],[],0,0,0,0⟩,⟨q+1,by omega,by show x.k+1=q+1;omega,?_,rfl⟩,by show K-(q+1)+1<=x.r;omega,⟨by simp,wr64 (by omega) (by omega)⟩,by rw [List.take_length];simp [intB,IntKind.bits]⟩
     show x.D++_=_
     rw [List.range_succ,List.map_append,hxD];simp
   · obtain rfl:q=K:=by omega
     have e4:encI n=tagI n::(List.range q).map (intB n q):=by unfold encI;rw [hk]
     exact ⟨by rw [hxD,e4],by rw [hxl,Zco,hk];omega⟩
 · have hN:nbN (wr .u64 n).toNat=Xw n:=by unfold Xw;rw [if_neg (by omega)]
   have ht:wr .u8 (wr .i64 (32+(Xw n:Int)))=tagI n:=by unfold tagI;rw [if_neg (by omega),wr64 (by omega) (by omega)];simp only [wr,IntKind.wrap_u8];omega
   simp only [hN,ht]
   generalize hk:Xw n=K at*
   refine ⟨⟨by omega,by omega,by omega⟩,fun x=>∃q,q<=K/\x.k=q/\x.D=l.take len++(tagI n::(List.range q).map (intB n K))/\x.r=K-q,⟨⟨0,K,l.take len++ [tagI n],[],0,0,0,0⟩,⟨0,by omega,rfl,rfl,rfl⟩,⟨by simp;omega,rfl⟩,rfl⟩,?_⟩
   rintro x ⟨q,hq,hxk,hxD,hxr⟩
   have hxl:x.D.length=len+1+q:=by rw [hxD];simp;omega
   refine And.intro (fun h=> ?_) (fun h=> ?_)
   · have hK:q<K:=by omega
     have e3:wr .i64 (8*wr .i64 (wr .i64 ((K:Int)-1)-(x.k:Int)))=8*((K:Int)-1-(q:Int)):=by rw [wr64 (n:=(K:Int)-1) (by omega) (by omega),hxk,wr64 (n:=(K:Int)-1-q) (by omega) (by omega),wr64 (by omega) (by omega)]
     simp only [e3]
     refine ⟨by omega,⟨Nat.le_refl _,by omega,by omega⟩,⟨x.k+1,K-(q+1),x.D++ [intB n K q],[],0,0,0,0⟩,⟨q+1,by omega,by show x.k+1=q+1;omega,?_,rfl⟩,by show K-(q+1)+1<=x.r;omega,⟨by simp,wr64 (by omega) (by omega)⟩,by rw [List.take_length];simp [intB,IntKind.bits]⟩
     show x.D++_=_
     rw [List.range_succ,List.map_append,hxD];simp
   · obtain rfl:q=K:=by omega
     have e4:encI n=tagI n::(List.range q).map (intB n q):=by unfold encI;rw [hk]
     exact ⟨by rw [hxD,e4],by rw [hxl,Zco,hk];omega⟩
end
section
open Go
def dVal:DcL E (Val×Unit):= .cons (dR .vals) .nil
def Z2i (m:Nat):Sum thy:=sumP dVal (fun x=>x.1.ht<=m/\OkV x.1) fun x=> .tup [.int false .i64 (Zl x.1).1,.bool false (Zl x.1).2]
def Z2j:Fr thy->Hp thy->Nat->Ann thy:=fun T h i=>{X:=DX,fr:=fun x=> [(2,.int false .i64 x.j),(45,T 45),(46,T 46),(47,.int false .i64 x.k)],bl:=fun x=> [],src:=fun _=> [],md:= [],ih:=i,M:=i+30,meas:=fun x=>x.r}
def Zx0 (m:Nat):Fns thy:=addL (addS F0 74 (Z2i m)) 74 10 Z2j E
abbrev qBM1 (a0:Val):=(↑(List.length (Val.l a0)):Int)
abbrev qBM2 (a0:Val):=(Val.mk (Val.k a0) (Val.n a0) (Val.b a0) (Val.l a0))
abbrev qBM3:=(0:Int)
abbrev qBM4 (a0:Val):=(↑(List.length (Val.b a0)):Int)
abbrev qBM5 (a0:DX):=(↑(DX.k a0):Int)
theorem Zoj (m:Nat) (v:Val) (d:Int) (b:Bool):Zm E F0 (vc E (Zx0 m) 400) 74 [.agg (encF false .vals v)] hp0 0 (fun r=>ret E (patch hp0 0 r) r.v (.tup [.int false .i64 d,.bool false b]))=(
 ((Val.k v==(1:Int))=true->(((qBM4 v)==qBM3)=true->(((qBM1 v)==qBM3)=true->qBM3=d/\true=b/\True)/\(((qBM1 v)==qBM3)=false->qBM3=d/\false=b/\True))/\(((qBM4 v)==qBM3)=false->qBM3=d/\false=b/\True))/\((Val.k v==(1:Int))=false->((Val.k v==(2:Int))=true->((Val.n v==qBM3)=true->(((qBM1 v)==qBM3)=true->qBM3=d/\true=b/\True)/\(((qBM1 v)==qBM3)=false->qBM3=d/\false=b/\True))/\((Val.n v==qBM3)=false->qBM3=d/\false=b/\True))/\((Val.k v==(2:Int))=false->((Val.k v==(3:Int))=true->∃(Q:Bool->Prop),(((Val.n v !=qBM3)=true->Q true)/\((Val.n v !=qBM3)=false->(((qBM4 v) !=qBM3)=true->Q true)/\(((qBM4 v) !=qBM3)=false->Q false)))/\(Q true->qBM3=d/\false=b/\True)/\(Q false->∃(R:DX->Prop),(∃(x:DX),R x/\true=true/\(qBM3=DX.j x/\(Val.l v=Val.l v/\(false=true->false=true))/\(qBM1 v)=(qBM1 v)/\qBM3=(qBM5 x)/\True)/\True)/\∀(x:DX),R x->(decide ((qBM5 x)<(qBM1 v))=true->qBM3<=(qBM5 x)/\(qBM5 x)+(1:Int)<=(qBM1 v)/\∀(x_1:Val),(Val.l v)[Int.toNat (qBM5 x)]? =some x_1->(Val.ht (qBM2 x_1)<=m/\OkV (qBM2 x_1))/\((!Prod.snd (Zl (qBM2 x_1)))=true->qBM3=d/\false=b/\True)/\((!Prod.snd (Zl (qBM2 x_1)))=false->∃(x':DX),R x'/\x'.2+(1:Nat)<=x.2/\true=true/\(mm2 true (DX.j x) (Prod.fst (Zl (qBM2 x_1)))=DX.j x'/\(Val.l v=Val.l v/\(false=true->false=true))/\(qBM1 v)=(qBM1 v)/\wr IntKind.i64 ((qBM5 x)+(1:Int))=(qBM5 x')/\True)/\True))/\(decide ((qBM5 x)<(qBM1 v))=false->wr IntKind.i64 (DX.j x+(1:Int))=d/\true=b/\True)))/\((Val.k v==(3:Int))=false->qBM3=d/\false=b/\True)))):=by kernel_rfl
theorem len0 {α:Type} {l:List α}:((l.length:Int)=0)↔l= []:=by
 cases l
 · simp
 · simp;omega
theorem Zrv : ∀ (m : Nat) (v : Val), v.ht ≤ m → OkV v → PureC E 74 [.agg (encF false .vals v)] (.tup [.int false .i64 (Zl v).1, .bool false (Zl v).2]) := by
 intro m
 induction m with
 | zero => intro v h; rw [Zat] at h; omega
 | succ m ih =>
  intro v hm hv
  have hF : FnsOk E (Zx0 m) := Zv E_ok (Zc F0_ok (Z7 E_ok (Ze (f := 74) rfl) fun x h => ih x.1 h.1 h.2)) _ _ _
  refine Za E_ok (X3 E_ok F0_ok fun f N c => (Zf6 E_ok hF 400 f N c).1) ?_
  rw [Zoj]; delta qBM1 qBM2 qBM3 qBM4 qBM5
  simp only [Z4, Zu, Yw, Yx, Yy, beq_iff_eq, bne_iff_ne, beq_eq_false_iff_ne, bne_eq_false_iff_eq, decide_eq_true_eq, decide_eq_false_iff_not, Bool.or_eq_true, Bool.or_eq_false_iff, Bool.not_eq_true', Bool.not_eq_false', Bool.and_eq_true, Bool.and_true, Bool.true_and, Bool.and_eq_false_iff, beq_self_eq_true, Z3, Z5, ne_eq, and_true, true_and, Bool.true_eq_false, Bool.false_eq_true, false_or, or_false, true_implies, imp_self, Int.ofNat_eq_natCast, not_true_eq_false, not_false_eq_true, Decidable.not_not, Wb, len0]
  have hl := hv.ln
  rw [Zau]
  refine And.intro (fun h1 => ?_) (fun h1 => And.intro (fun h2 => ?_) (fun h2 => And.intro (fun h3 => ?_) (fun h3 => ?_)))
  · rw [if_pos h1]
    refine And.intro (fun h2 => And.intro (fun h3 => ?_) (fun h3 => ?_)) (fun h2 => ?_) <;> simp [h2, *]
  · rw [if_neg h1, if_pos h2]
    refine And.intro (fun h3 => And.intro (fun h4 => ?_) (fun h4 => ?_)) (fun h3 => ?_) <;> simp [*]
  · rw [if_neg h1, if_neg h2, if_pos h3]
    refine ⟨fun b => b = true ↔ (v.n ≠ 0 ∨ v.b ≠ []), ⟨fun h => by simp [h], fun h => ⟨fun h' => by simp [h'], fun h' => by simp [h, h']⟩⟩, fun hq => ?_, fun hq => ?_⟩
    · rw [if_pos (hq.1 rfl)]; exact ⟨rfl, rfl⟩
    · rw [if_neg (fun h => by have := hq.2 h; simp at this)]
      have hbd : ∀ q, q ≤ v.l.length → 0 ≤ (v.l.take q).foldl (fun d v => max d (Zl v).1) 0 ∧ (v.l.take q).foldl (fun d v => max d (Zl v).1) 0 ≤ htL v.l := by
       intro q
       induction q with
       | zero => intro _; simp
       | succ q ihq =>
        intro hq
        have hx := gB9 (l := v.l) (i := q) (by omega)
        rw [Yc hx, List.foldl_append]
        have h1 := ihq (by omega)
        have h2 := Zfx _ v.l[q] (Nat.le_refl _)
        have h3 := Zb2 (List.getElem_mem (l := v.l) (n := q) (by omega))
        simp only [List.foldl_cons, List.foldl_nil]
        omega
      refine ⟨fun x => ∃ q, q ≤ v.l.length ∧ x.k = q ∧ (∀ y ∈ v.l.take q, (Zl y).2 = true) ∧ x.j = (v.l.take q).foldl (fun d v => max d (Zl v).1) 0 ∧ x.r = v.l.length - q, ⟨⟨0, v.l.length, [], [], 0, 0, 0, 0⟩, ⟨0, by omega, rfl, by simp, rfl, rfl⟩, rfl, rfl⟩, ?_⟩
      rintro x ⟨q, hq1, hq2, hq3, hq4, hq5⟩
      refine And.intro (fun h => ⟨by omega, by omega, fun y hy => ?_⟩) (fun h => ?_)
      · have hy : v.l[q]? = some y := by rw [← hq2]; exact hy
        have hmem : y ∈ v.l := List.mem_of_getElem? hy
        have hht : y.ht ≤ m := by have := Zb2 hmem; rw [Zat] at hm; omega
        refine ⟨⟨hht, hv.mem hmem⟩, fun h2 => ?_, fun h2 => ?_⟩
        · rw [← List.take_append_drop q v.l, Ze4 _ _ _ hq3]
          have hd : v.l.drop q = y :: v.l.drop (q + 1) := by rw [List.drop_eq_getElem_cons (by omega)]; congr 1; have := gB9 (l := v.l) (i := q) (by omega); rw [hy] at this; exact (Option.some.inj this).symm
          rw [hd, Wm, h2]
          exact ⟨rfl, rfl⟩
        · refine ⟨⟨q + 1, v.l.length - (q + 1), [], [], 0, 0, 0, max x.j (Zl y).1⟩, ⟨q + 1, by omega, rfl, ?_, ?_, rfl⟩, by show v.l.length - (q + 1) + 1 ≤ x.r; omega, rfl, ?_⟩
          · intro z hz
            rw [Yc hy, List.mem_append] at hz
            rcases hz with hz | hz
            · exact hq3 z hz
            · rw [List.mem_singleton.1 hz]; exact h2
          · show max x.j (Zl y).1 = _
            rw [Yc hy, List.foldl_append, ← hq4]; rfl
          · show wr .i64 ((x.k : Int) + 1) = ((q + 1 : Nat) : Int)
            rw [hq2, wr64 (by omega) (by omega)]; omega
      · obtain rfl : q = v.l.length := by omega
        rw [List.take_length] at hq3 hq4
        have hb := hbd v.l.length (Nat.le_refl _)
        rw [List.take_length, ← hq4] at hb
        have e := Ze4 v.l [] 0 hq3
        rw [List.append_nil] at e
        rw [e, Wm, ← hq4]
        have hm1 : htL v.l ≤ 1000000000000 := by
         have := hv.sz
         have := Zyq v
         rw [Zat] at this
         omega
        rw [wr64 (by omega) (by omega)]
        exact ⟨rfl, rfl⟩
  · rw [if_neg h1, if_neg h2, if_neg h3]
    exact ⟨rfl, rfl⟩
def Sint:Sum thy:=sumA E Th.bys 1 (.cons (dInt (E:=E) .i64) .nil) (fun _=>True) fun x=>encI x.1
def Sval (m:Nat):Sum thy:=sumA E Th.bys 1 dVal (fun x=>x.1.ht<=m/\OkV x.1) fun x=>encV x.1
def Abyt:Fr thy->Hp thy->Nat->Ann thy:=fun T h i=>{X:=DX,fr:=fun x=> [(0,.sl i 0 x.D.length 1 none),(23,T 23),(24,T 24),(25,.int false .i64 x.k)],bl:=fun x=>blkA h (T 0) i Th.bys x.D,src:=fun _=> [(i,0)],md:= [bOf (T 0)],ih:=i+1,M:=i+40,meas:=fun x=>x.r}
def Alis:Fr thy->Hp thy->Nat->Ann thy:=fun T h i=>{X:=DX,fr:=fun x=> [(0,.sl i 0 x.D.length 1 none),(46,T 46),(47,T 47),(48,.int false .i64 x.k)],bl:=fun x=>blkA h (T 0) i Th.bys x.D,src:=fun _=> [(i,0)],md:= [bOf (T 0)],ih:=i+1,M:=i+40,meas:=fun x=>x.r}
def Fval (m:Nat):Fns thy:=addL (addL (addS (addS F0 91 Sint) 75 (Sval m)) 75 7 Abyt E) 75 16 Alis E
abbrev qBM6 (a0:Val):=(↑(List.length (Val.b a0)):Int)
abbrev qBM7 (a0:Val):=(Val.mk (Val.k a0) (Val.n a0) (Val.b a0) (Val.l a0))
abbrev qBM8 (a0:DX):=(↑(DX.k a0):Int)
abbrev qBM9:=(140737488355328:Nat)
abbrev qBMa (a0:Val):=(↑(List.length (Val.l a0)):Int)
abbrev qBMb:=(1:Nat)
abbrev qBMc:=(false=true->false=true)
abbrev qBMd (a0:DX) (b0:Nat):=(List.length (DX.D a0)<=List.length (DX.D a0)/\b0<=List.length (DX.D a0)/\(List.length (DX.D a0)+qBMb)*qBMb<=qBM9)
abbrev qBMe (a0:DX):=(List.length (DX.D a0))
abbrev qBMf:=(0:Nat)
theorem Zv7 (m:Nat) (v:Val) (l:List Int) (len fz:Nat):Zm E F0 (vc E (Fval m) 400) 75 (.sl 0 0 len (E.w Th.bys) none:: [.agg (encF false .vals v)]) (hp1 Th.bys l fz) 1 (appK E Th.bys l len fz (encV v))=(
 ((Val.k v==(1:Int))=true->True/\(len<=List.length l/\fz<=len/\(len+List.length (encI (Val.n v)))*qBMb<=qBM9)/\List.take len l++encI (Val.n v)=List.take len l++encV v/\len+List.length (encI (Val.n v))=len+List.length (encV v)/\fz=fz)/\((Val.k v==(1:Int))=false->((Val.k v==(2:Int))=true->(len<=List.length l/\fz<=len/\(len+qBMb)*qBMb<=qBM9)/\∃(R:DX->Prop),(∃(x:DX),R x/\true=true/\((qBMf=qBMf/\len+qBMb=List.length (DX.D x)/\True)/\(Val.b v=Val.b v/\qBMc)/\(qBM6 v)=(qBM6 v)/\(0:Int)=(qBM8 x)/\True)/\(List.take len l++ [(48:Int)]=DX.D x/\fz=fz)/\True)/\∀(x:DX),R x->(decide ((qBM8 x)<(qBM6 v))=true->(0:Int)<=(qBM8 x)/\(qBM8 x)+(1:Int)<=(qBM6 v)/\∀(x_1:Int),(Val.b v)[Int.toNat (qBM8 x)]? =some x_1->(qBMd x fz)/\((x_1==(0:Int))=true->(List.length (DX.D x)+qBMb<=List.length (List.take (qBMe x) (DX.D x)++ [x_1])/\fz<=List.length (DX.D x)+qBMb/\(List.length (DX.D x)+qBMb+qBMb)*qBMb<=qBM9)/\∃(x':DX),R x'/\x'.2+qBMb<=x.2/\true=true/\((qBMf=qBMf/\List.length (DX.D x)+qBMb+qBMb=List.length (DX.D x')/\True)/\(Val.b v=Val.b v/\qBMc)/\(qBM6 v)=(qBM6 v)/\wr IntKind.i64 ((qBM8 x)+(1:Int))=(qBM8 x')/\True)/\(List.take (List.length (DX.D x)+qBMb) (List.take (qBMe x) (DX.D x)++ [x_1])++ [(255:Int)]=DX.D x'/\fz=fz)/\True)/\((x_1==(0:Int))=false->∃(x':DX),R x'/\x'.2+qBMb<=x.2/\true=true/\((qBMf=qBMf/\List.length (DX.D x)+qBMb=List.length (DX.D x')/\True)/\(Val.b v=Val.b v/\qBMc)/\(qBM6 v)=(qBM6 v)/\wr IntKind.i64 ((qBM8 x)+(1:Int))=(qBM8 x')/\True)/\(List.take (qBMe x) (DX.D x)++ [x_1]=DX.D x'/\fz=fz)/\True))/\(decide ((qBM8 x)<(qBM6 v))=false->(List.length (DX.D x)<=List.length (DX.D x)/\fz<=List.length (DX.D x)/\(List.length (DX.D x)+(2:Nat))*qBMb<=qBM9)/\List.take (qBMe x) (DX.D x)++ [(0:Int),(0:Int)]=List.take len l++encV v/\List.length (DX.D x)+(2:Nat)=len+List.length (encV v)/\fz=fz))/\((Val.k v==(2:Int))=false->(len<=List.length l/\fz<=len/\(len+qBMb)*qBMb<=qBM9)/\∃(R:DX->Prop),(∃(x:DX),R x/\true=true/\((qBMf=qBMf/\len+qBMb=List.length (DX.D x)/\True)/\(Val.l v=Val.l v/\qBMc)/\(qBMa v)=(qBMa v)/\(0:Int)=(qBM8 x)/\True)/\(List.take len l++ [(64:Int)]=DX.D x/\fz=fz)/\True)/\∀(x:DX),R x->(decide ((qBM8 x)<(qBMa v))=true->(0:Int)<=(qBM8 x)/\(qBM8 x)+(1:Int)<=(qBMa v)/\∀(x_1:Val),(Val.l v)[Int.toNat (qBM8 x)]? =some x_1->(Val.ht (qBM7 x_1)<=m/\OkV (qBM7 x_1))/\(List.length (DX.D x)<=List.length (DX.D x)/\fz<=List.length (DX.D x)/\(List.length (DX.D x)+List.length (encV (qBM7 x_1)))*qBMb<=qBM9)/\∃(x':DX),R x'/\x'.2+qBMb<=x.2/\true=true/\((qBMf=qBMf/\List.length (DX.D x)+List.length (encV (qBM7 x_1))=List.length (DX.D x')/\True)/\(Val.l v=Val.l v/\qBMc)/\(qBMa v)=(qBMa v)/\wr IntKind.i64 ((qBM8 x)+(1:Int))=(qBM8 x')/\True)/\(List.take (qBMe x) (DX.D x)++encV (qBM7 x_1)=DX.D x'/\fz=fz)/\True)/\(decide ((qBM8 x)<(qBMa v))=false->(qBMd x fz)/\List.take (qBMe x) (DX.D x)++ [(0:Int)]=List.take len l++encV v/\List.length (DX.D x)+qBMb=len+List.length (encV v)/\fz=fz)))):=by kernel_rfl
theorem Zok (v:Val) (hv:OkV v):PureC E 74 [.agg (encF false .vals v)] (.tup [.int false .i64 (Zl v).1,.bool false (Zl v).2]):=Zrv _ v (Nat.le_refl _) hv
theorem Zrw:SumOk E 91 Sint:=Zkg E_ok (Ze (f:=91) rfl) fun x _=>Zyy x.1
theorem Zzg:∀(m:Nat) (v:Val),v.ht<=m->OkV v->AppC E 75 Th.bys 1 [.agg (encF false .vals v)] (encV v):=by
 intro m
 induction m with
 |zero=>intro v h;rw [Zat] at h;omega
 |succ m ih=>
  intro v hm hv
  have hF:FnsOk E (Fval m):=Zv E_ok (Zv E_ok (Zc (Zc F0_ok Zrw) (Zkg E_ok (Ze (f:=75) rfl) fun x h=>ih x.1 h.1 h.2)) _ _ _) _ _ _
  refine Zb6 E_ok (X3 E_ok F0_ok fun f N c=>(Zf6 E_ok hF 400 f N c).1) rfl fun (l:List Int) len fz hlen hfz hbig=> ?_
  rw [Zv7];delta qBM6 qBM7 qBM8 qBM9 qBMa qBMb qBMc qBMd qBMe qBMf
  replace hbig:(len+(encV v).length)*1<=140737488355328:=hbig
  replace hlen:len<=l.length:=hlen
  simp only [Z4,Zu,Yw,Yx,Yy,beq_iff_eq,bne_iff_ne,beq_eq_false_iff_ne,bne_eq_false_iff_eq,decide_eq_true_eq,decide_eq_false_iff_not,Bool.or_eq_true,Bool.or_eq_false_iff,Bool.not_eq_true',Bool.not_eq_false',Bool.and_eq_true,Bool.and_true,Bool.true_and,Bool.and_eq_false_iff,beq_self_eq_true,Z3,Z5,ne_eq,and_true,true_and,Bool.true_eq_false,Bool.false_eq_true,false_or,or_false,true_implies,imp_self,Int.ofNat_eq_natCast,not_true_eq_false,not_false_eq_true,Decidable.not_not,Wb]
  have hl:=hv.ln
  have hb:=hv.bn
  rw [Uf] at hbig
  rw [Uf]
  refine And.intro (fun h1=> ?_) (fun h1=>And.intro (fun h2=> ?_) (fun h2=> ?_))
  · rw [if_pos h1] at hbig
    rw [if_pos h1]
    exact ⟨⟨hlen,hfz,hbig⟩,rfl,rfl⟩
  · rw [if_neg h1,if_pos h2] at hbig
    rw [if_neg h1,if_pos h2]
    simp only [List.length_append,List.length_cons,List.length_nil] at hbig
    refine ⟨⟨hlen,hfz,by omega⟩,fun x=>∃q,q<=v.b.length/\x.k=q/\x.D=l.take len++(48::escB (v.b.take q))/\x.r=v.b.length-q,⟨⟨0,v.b.length,l.take len++ [48],[],0,0,0,0⟩,⟨0,by omega,rfl,rfl,rfl⟩,⟨by simp;omega,rfl⟩,rfl⟩,?_⟩
    rintro x ⟨q,hq1,hq2,hq3,hq4⟩
    have hesc:(escB v.b).length=(escB (v.b.take q)).length+(escB (v.b.drop q)).length:=by rw [<-List.length_append,<-Wf,List.take_append_drop]
    have hxl:x.D.length=len+1+(escB (v.b.take q)).length:=by rw [hq3];simp;omega
    refine And.intro (fun h=>⟨by omega,by omega,fun y hy=> ?_⟩) (fun h=> ?_)
    · have hy:v.b[q]? =some y:=by rw [<-hq2];exact hy
      have hd:v.b.drop q=y::v.b.drop (q+1):=by rw [List.drop_eq_getElem_cons (by omega)];congr 1;have:=gB9 (l:=v.b) (i:=q) (by omega);rw [hy] at this;exact (Option.some.inj this).symm
      rw [hd] at hesc
      have hk1:wr .i64 ((x.k:Int)+1)=((q+1:Nat):Int):=by rw [hq2,wr64 (by omega) (by omega)];omega
      refine ⟨⟨Nat.le_refl _,by omega,?_⟩,fun h0=> ?_,fun h0=> ?_⟩
      · rw [escB] at hesc;split at hesc<;>simp at hesc<;>omega
      · rw [escB,if_pos h0] at hesc
        simp only [List.length_cons] at hesc
        refine ⟨⟨by simp,by omega,by omega⟩,⟨q+1,v.b.length-(q+1),x.D++ [y,255],[],0,0,0,0⟩,⟨q+1,by omega,rfl,?_,rfl⟩,by show v.b.length-(q+1)+1<=x.r;omega,⟨by simp,hk1⟩,by rw [List.take_length,List.take_of_length_le (by simp)];simp⟩
        show x.D++ [y,255]=_
        rw [Yc hy,Wf,hq3]
        simp [escB,h0]
      · refine ⟨⟨q+1,v.b.length-(q+1),x.D++ [y],[],0,0,0,0⟩,⟨q+1,by omega,rfl,?_,rfl⟩,by show v.b.length-(q+1)+1<=x.r;omega,⟨by simp,hk1⟩,by rw [List.take_length]⟩
        show x.D++ [y]=_
        rw [Yc hy,Wf,hq3]
        simp [escB,h0]
    · obtain rfl:q=v.b.length:=by omega
      rw [List.take_length] at hq3 hxl
      refine ⟨⟨Nat.le_refl _,by omega,by omega⟩,?_,?_⟩
      · rw [List.take_length,hq3];simp
      · rw [hxl];simp;omega
  · rw [if_neg h1,if_neg h2] at hbig
    rw [if_neg h1,if_neg h2]
    simp only [List.length_append,List.length_cons,List.length_nil] at hbig
    refine ⟨⟨hlen,hfz,by omega⟩,fun x=>∃q,q<=v.l.length/\x.k=q/\x.D=l.take len++(64::encL (v.l.take q))/\x.r=v.l.length-q,⟨⟨0,v.l.length,l.take len++ [64],[],0,0,0,0⟩,⟨0,by omega,rfl,rfl,rfl⟩,⟨by simp;omega,rfl⟩,rfl⟩,?_⟩
    rintro x ⟨q,hq1,hq2,hq3,hq4⟩
    have hesc:(encL v.l).length=(encL (v.l.take q)).length+(encL (v.l.drop q)).length:=by rw [<-List.length_append,<-Ue,List.take_append_drop]
    have hxl:x.D.length=len+1+(encL (v.l.take q)).length:=by rw [hq3];simp;omega
    refine And.intro (fun h=>⟨by omega,by omega,fun y hy=> ?_⟩) (fun h=> ?_)
    · have hy:v.l[q]? =some y:=by rw [<-hq2];exact hy
      have hmem:y∈v.l:=List.mem_of_getElem? hy
      have hd:v.l.drop q=y::v.l.drop (q+1):=by rw [List.drop_eq_getElem_cons (by omega)];congr 1;have:=gB9 (l:=v.l) (i:=q) (by omega);rw [hy] at this;exact (Option.some.inj this).symm
      rw [hd,encL,List.length_append] at hesc
      have hk1:wr .i64 ((x.k:Int)+1)=((q+1:Nat):Int):=by rw [hq2,wr64 (by omega) (by omega)];omega
      have hht:y.ht<=m:=by have:=Zb2 hmem;rw [Zat] at hm;omega
      refine ⟨⟨hht,hv.mem hmem⟩,⟨Nat.le_refl _,by omega,by omega⟩,⟨q+1,v.l.length-(q+1),x.D++encV y,[],0,0,0,0⟩,⟨q+1,by omega,rfl,?_,rfl⟩,by show v.l.length-(q+1)+1<=x.r;omega,⟨by simp,hk1⟩,by rw [List.take_length]⟩
      show x.D++encV y=_
      rw [Yc hy,Ue,hq3]
      simp [encL]
    · obtain rfl:q=v.l.length:=by omega
      rw [List.take_length] at hq3 hxl
      refine ⟨⟨Nat.le_refl _,by omega,by omega⟩,?_,?_⟩
      · rw [List.take_length,hq3];simp
      · rw [hxl];simp;omega
theorem Zzh (v:Val) (hv:OkV v):AppC E 75 Th.bys 1 [.agg (encF false .vals v)] (encV v):=Zzg _ v (Nat.le_refl _) hv
end
section
open Go
abbrev qBN3:=(if IntKind.signed IntKind.u64=true then (-1:Int) else IntKind.max IntKind.u64)
abbrev qBN1 (a0:Int):=(↑(nbN (Int.toNat (Zn BinOp.xor IntKind.u64 qBN3 (wr IntKind.u64 a0)))):Int)
abbrev qBN2 (a0:Int):=(↑(nbN (Int.toNat (wr IntKind.u64 a0))):Int)
abbrev qBN6:=(0:Nat)
abbrev qBN4 (a0:DX):=(List.length (DX.D a0)<=List.length (DX.D a0)/\qBN6<=List.length (DX.D a0)/\(List.length (DX.D a0)+(1:Nat))*(1:Nat)<=(140737488355328:Nat))
abbrev qBN5 (a0:DX):=(↑(DX.k a0):Int)
theorem Zqs (n:Int) (b:List Int):Zm E F0 (vc E Fint 400) 91 [.val (.slice none 0 0),.int false .i64 n] hp0 0 (fun r=>ret E (patch hp0 0 r) r.v (.psl Th.bys b false))=(
 ((0:Int)<=wr IntKind.u64 n/\wr IntKind.u64 n+(1:Int)<=(18446744073709551616:Int))/\(decide (n<(0:Int))=true->((0:Int)<=Zn BinOp.xor IntKind.u64 qBN3 (wr IntKind.u64 n)/\Zn BinOp.xor IntKind.u64 qBN3 (wr IntKind.u64 n)+(1:Int)<=(18446744073709551616:Int))/\∃(R:DX->Prop),(∃(x:DX),R x/\true=true/\((qBN6=qBN6/\(1:Nat)=List.length (DX.D x)/\True)/\n=n/\(qBN1 n)=(qBN1 n)/\(qBN1 n)=(qBN1 n)/\(0:Int)=(qBN5 x)/\True)/\([wr IntKind.u8 (wr IntKind.i64 ((31:Int)-(qBN1 n)))]=DX.D x/\qBN6=qBN6)/\True)/\∀(x:DX),R x->(decide ((qBN5 x)<(qBN1 n))=true->(0:Int)<=wr IntKind.i64 ((8:Int)*wr IntKind.i64 (wr IntKind.i64 ((qBN1 n)-(1:Int))-(qBN5 x)))/\(qBN4 x)/\∃(x':DX),R x'/\x'.2+(1:Nat)<=x.2/\true=true/\((qBN6=qBN6/\List.length (DX.D x)+(1:Nat)=List.length (DX.D x')/\True)/\n=n/\(qBN1 n)=(qBN1 n)/\(qBN1 n)=(qBN1 n)/\wr IntKind.i64 ((qBN5 x)+(1:Int))=(qBN5 x')/\True)/\(List.take (List.length (DX.D x)) (DX.D x)++ [wr IntKind.u8 (Int.fdiv (wr IntKind.u64 n) ((2:Int)^min (Int.toNat (wr IntKind.i64 ((8:Int)*wr IntKind.i64 (wr IntKind.i64 ((qBN1 n)-(1:Int))-(qBN5 x))))) (IntKind.bits IntKind.u64)))]=DX.D x'/\qBN6=qBN6)/\True)/\(decide ((qBN5 x)<(qBN1 n))=false->qBN6+List.length (DX.D x)<=List.length (DX.D x)/\List.take (List.length (DX.D x)) (DX.D x)=b))/\(decide (n<(0:Int))=false->∃(R:DX->Prop),(∃(x:DX),R x/\true=true/\((qBN6=qBN6/\(1:Nat)=List.length (DX.D x)/\True)/\n=n/\(qBN2 n)=(qBN2 n)/\(qBN2 n)=(qBN2 n)/\(0:Int)=(qBN5 x)/\True)/\([wr IntKind.u8 (wr IntKind.i64 ((32:Int)+(qBN2 n)))]=DX.D x/\qBN6=qBN6)/\True)/\∀(x:DX),R x->(decide ((qBN5 x)<(qBN2 n))=true->(0:Int)<=wr IntKind.i64 ((8:Int)*wr IntKind.i64 (wr IntKind.i64 ((qBN2 n)-(1:Int))-(qBN5 x)))/\(qBN4 x)/\∃(x':DX),R x'/\x'.2+(1:Nat)<=x.2/\true=true/\((qBN6=qBN6/\List.length (DX.D x)+(1:Nat)=List.length (DX.D x')/\True)/\n=n/\(qBN2 n)=(qBN2 n)/\(qBN2 n)=(qBN2 n)/\wr IntKind.i64 ((qBN5 x)+(1:Int))=(qBN5 x')/\True)/\(List.take (List.length (DX.D x)) (DX.D x)++ [wr IntKind.u8 (Int.fdiv (wr IntKind.u64 n) ((2:Int)^min (Int.toNat (wr IntKind.i64 ((8:Int)*wr IntKind.i64 (wr IntKind.i64 ((qBN2 n)-(1:Int))-(qBN5 x))))) (IntKind.bits IntKind.u64)))]=DX.D x'/\qBN6=qBN6)/\True)/\(decide ((qBN5 x)<(qBN2 n))=false->qBN6+List.length (DX.D x)<=List.length (DX.D x)/\List.take (List.length (DX.D x)) (DX.D x)=b))):=by kernel_rfl
theorem Zyl (n:Int):PureC E 91 [.val (.slice none 0 0),.int false .i64 n] (.psl Th.bys (encI n) false):=by
 refine Za E_ok (X3 E_ok F0_ok fun f N c=>(Zf6 E_ok Zq6 400 f N c).1) ?_
 rw [Zqs];delta qBN3 qBN1 qBN2 qBN6 qBN4 qBN5
 have hs:=Zfw n
 have hw:=wru n
 refine ⟨⟨by omega,by omega⟩,?_⟩
 simp only [Z4,Zu,Yw,Yx,Yy,beq_iff_eq,bne_iff_ne,beq_eq_false_iff_ne,bne_eq_false_iff_eq,decide_eq_true_eq,decide_eq_false_iff_not,Bool.or_eq_true,Bool.or_eq_false_iff,Bool.not_eq_true',Bool.not_eq_false',Bool.and_eq_true,Bool.and_true,Bool.true_and,Bool.and_eq_false_iff,beq_self_eq_true,Z3,Z5,ne_eq,and_true,true_and,Bool.true_eq_false,Bool.false_eq_true,false_or,or_false,true_implies,Int.ofNat_eq_natCast,not_true_eq_false,not_false_eq_true,Decidable.not_not]
 refine And.intro (fun h=> ?_) (fun h=> ?_)
 · rw [notU hw.1 hw.2]
   refine ⟨by omega,?_⟩
   have hN:nbN (18446744073709551615-wr .u64 n).toNat=Xw n:=by unfold Xw;rw [if_pos h]
   have ht:wr .u8 (wr .i64 (31-(Xw n:Int)))=tagI n:=by unfold tagI;rw [if_pos h,wr64 (by omega) (by omega)];simp only [wr,IntKind.wrap_u8];omega
   rw [hN,ht]
   generalize hk:Xw n=K at*
   refine ⟨fun x=>∃q,q<=K/\x.k=q/\x.D=(tagI n::(List.range q).map (intB n K))/\x.r=K-q,⟨⟨0,K,[tagI n],[],0,0,0,0⟩,⟨0,by omega,rfl,rfl,rfl⟩,⟨rfl,rfl⟩,rfl⟩,?_⟩
   rintro x ⟨q,hq,hxk,hxD,hxr⟩
   have hxl:x.D.length=1+q:=by rw [hxD];simp;omega
   refine And.intro (fun h=> ?_) (fun h=> ?_)
   · have hK:q<K:=by omega
     have e3:wr .i64 (8*wr .i64 (wr .i64 ((K:Int)-1)-(x.k:Int)))=8*((K:Int)-1-(q:Int)):=by rw [wr64 (n:=(K:Int)-1) (by omega) (by omega),hxk,wr64 (n:=(K:Int)-1-q) (by omega) (by omega),wr64 (by omega) (by omega)]
     simp only [e3]
     refine ⟨by omega,⟨Nat.le_refl _,by omega,by omega⟩,⟨x.k+1,K-(q+1),x.D++ [intB n K q],[],0,0,0,0⟩,⟨q+1,by omega,by show x.k+1=q+1;omega,?_,rfl⟩,by show K-(q+1)+1<=x.r;omega,⟨by simp,wr64 (by omega) (by omega)⟩,by rw [List.take_length];simp [intB,IntKind.bits]⟩
     show x.D++_=_
     rw [List.range_succ,List.map_append,hxD];simp
   · obtain rfl:q=K:=by omega
     have e4:encI n=tagI n::(List.range q).map (intB n q):=by unfold encI;rw [hk]
     exact ⟨by omega,by rw [List.take_length,hxD,e4]⟩
 · have hN:nbN (wr .u64 n).toNat=Xw n:=by unfold Xw;rw [if_neg (by omega)]
   have ht:wr .u8 (wr .i64 (32+(Xw n:Int)))=tagI n:=by unfold tagI;rw [if_neg (by omega),wr64 (by omega) (by omega)];simp only [wr,IntKind.wrap_u8];omega
   simp only [hN,ht]
   generalize hk:Xw n=K at*
   refine ⟨fun x=>∃q,q<=K/\x.k=q/\x.D=(tagI n::(List.range q).map (intB n K))/\x.r=K-q,⟨⟨0,K,[tagI n],[],0,0,0,0⟩,⟨0,by omega,rfl,rfl,rfl⟩,⟨rfl,rfl⟩,rfl⟩,?_⟩
   rintro x ⟨q,hq,hxk,hxD,hxr⟩
   have hxl:x.D.length=1+q:=by rw [hxD];simp;omega
   refine And.intro (fun h=> ?_) (fun h=> ?_)
   · have hK:q<K:=by omega
     have e3:wr .i64 (8*wr .i64 (wr .i64 ((K:Int)-1)-(x.k:Int)))=8*((K:Int)-1-(q:Int)):=by rw [wr64 (n:=(K:Int)-1) (by omega) (by omega),hxk,wr64 (n:=(K:Int)-1-q) (by omega) (by omega),wr64 (by omega) (by omega)]
     simp only [e3]
     refine ⟨by omega,⟨Nat.le_refl _,by omega,by omega⟩,⟨x.k+1,K-(q+1),x.D++ [intB n K q],[],0,0,0,0⟩,⟨q+1,by omega,by show x.k+1=q+1;omega,?_,rfl⟩,by show K-(q+1)+1<=x.r;omega,⟨by simp,wr64 (by omega) (by omega)⟩,by rw [List.take_length];simp [intB,IntKind.bits]⟩
     show x.D++_=_
     rw [List.range_succ,List.map_append,hxD];simp
   · obtain rfl:q=K:=by omega
     have e4:encI n=tagI n::(List.range q).map (intB n q):=by unfold encI;rw [hk]
     exact ⟨by omega,by rw [List.take_length,hxD,e4]⟩
def Zym:Sum thy:=sumA E Th.bys 1 dVal (fun x=>OkV x.1) fun x=>encV x.1
theorem Zmg:SumOk E 75 Zym:=Zkg E_ok (Ze (f:=75) rfl) fun x h=>Zzh x.1 h
def Z1t:Sum thy:=sumN (.cons (dInt (E:=E) .i64) .nil) (fun _=>True) (fun x=> .psl Th.bys (encI x.1) false) Sint
theorem Zu5:SumOk E 91 Z1t:=Zrc E_ok Zrw fun x _=>Zyl x.1
def Z1u:Fns thy:=addL (addL (addS (addS F0 91 Z1t) 75 Zym) 75 7 Abyt E) 75 16 Alis E
theorem Zu6:FnsOk E Z1u:=Zv E_ok (Zv E_ok (Zc (Zc F0_ok Zu5) Zmg) _ _ _) _ _ _
abbrev qBN7 (a0:Val):=(↑(List.length (Val.b a0)):Int)
abbrev qBN8 (a0:DX):=(↑(DX.k a0):Int)
abbrev qBN9:=(0:Nat)
abbrev qBNa (a0:Val):=(↑(List.length (Val.l a0)):Int)
abbrev qBNb:=(false=true->false=true)
abbrev qBNc (a0:Val):=(Val.mk (Val.k a0) (Val.n a0) (Val.b a0) (Val.l a0))
abbrev qBNe:=(1:Nat)
abbrev qBNi (a0:DX):=(List.length (DX.D a0)+qBNe)
abbrev qBNg:=(140737488355328:Nat)
abbrev qBNd (a0:DX):=(List.length (DX.D a0)<=List.length (DX.D a0)/\qBN9<=List.length (DX.D a0)/\(qBNi a0)*qBNe<=qBNg)
abbrev qBNf (a0:DX):=(List.length (DX.D a0))
abbrev qBNh:=(0:Int)
theorem Zqt (v:Val) (b:List Int):Zm E F0 (vc E Z1u 400) 75 [.val (.slice none 0 0),.agg (encF false .vals v)] hp0 0 (fun r=>ret E (patch hp0 0 r) r.v (.psl Th.bys b false))=(
 ((Val.k v==(1:Int))=true->True/\encI (Val.n v)=b/\qBNb)/\((Val.k v==(1:Int))=false->((Val.k v==(2:Int))=true->∃(R:DX->Prop),(∃(x:DX),R x/\true=true/\((qBN9=qBN9/\qBNe=List.length (DX.D x)/\True)/\(Val.b v=Val.b v/\qBNb)/\(qBN7 v)=(qBN7 v)/\qBNh=(qBN8 x)/\True)/\([(48:Int)]=DX.D x/\qBN9=qBN9)/\True)/\∀(x:DX),R x->(decide ((qBN8 x)<(qBN7 v))=true->qBNh<=(qBN8 x)/\(qBN8 x)+(1:Int)<=(qBN7 v)/\∀(x_1:Int),(Val.b v)[Int.toNat (qBN8 x)]? =some x_1->(qBNd x)/\((x_1==qBNh)=true->(List.length (DX.D x)+qBNe<=List.length (List.take (qBNf x) (DX.D x)++ [x_1])/\qBN9<=List.length (DX.D x)+qBNe/\(List.length (DX.D x)+qBNe+qBNe)*qBNe<=qBNg)/\∃(x':DX),R x'/\x'.2+qBNe<=x.2/\true=true/\((qBN9=qBN9/\List.length (DX.D x)+qBNe+qBNe=List.length (DX.D x')/\True)/\(Val.b v=Val.b v/\qBNb)/\(qBN7 v)=(qBN7 v)/\wr IntKind.i64 ((qBN8 x)+(1:Int))=(qBN8 x')/\True)/\(List.take (qBNi x) (List.take (qBNf x) (DX.D x)++ [x_1])++ [(255:Int)]=DX.D x'/\qBN9=qBN9)/\True)/\((x_1==qBNh)=false->∃(x':DX),R x'/\x'.2+qBNe<=x.2/\true=true/\((qBN9=qBN9/\List.length (DX.D x)+qBNe=List.length (DX.D x')/\True)/\(Val.b v=Val.b v/\qBNb)/\(qBN7 v)=(qBN7 v)/\wr IntKind.i64 ((qBN8 x)+(1:Int))=(qBN8 x')/\True)/\(List.take (qBNf x) (DX.D x)++ [x_1]=DX.D x'/\qBN9=qBN9)/\True))/\(decide ((qBN8 x)<(qBN7 v))=false->(List.length (DX.D x)<=List.length (DX.D x)/\qBN9<=List.length (DX.D x)/\(List.length (DX.D x)+(2:Nat))*qBNe<=qBNg)/\qBN9+(List.length (DX.D x)+(2:Nat))<=List.length (List.take (qBNf x) (DX.D x)++ [qBNh,qBNh])/\List.take (List.length (DX.D x)+(2:Nat)) (List.take (qBNf x) (DX.D x)++ [qBNh,qBNh])=b))/\((Val.k v==(2:Int))=false->∃(R:DX->Prop),(∃(x:DX),R x/\true=true/\((qBN9=qBN9/\qBNe=List.length (DX.D x)/\True)/\(Val.l v=Val.l v/\qBNb)/\(qBNa v)=(qBNa v)/\qBNh=(qBN8 x)/\True)/\([(64:Int)]=DX.D x/\qBN9=qBN9)/\True)/\∀(x:DX),R x->(decide ((qBN8 x)<(qBNa v))=true->qBNh<=(qBN8 x)/\(qBN8 x)+(1:Int)<=(qBNa v)/\∀(x_1:Val),(Val.l v)[Int.toNat (qBN8 x)]? =some x_1->OkV (qBNc x_1)/\(List.length (DX.D x)<=List.length (DX.D x)/\qBN9<=List.length (DX.D x)/\(List.length (DX.D x)+List.length (encV (qBNc x_1)))*qBNe<=qBNg)/\∃(x':DX),R x'/\x'.2+qBNe<=x.2/\true=true/\((qBN9=qBN9/\List.length (DX.D x)+List.length (encV (qBNc x_1))=List.length (DX.D x')/\True)/\(Val.l v=Val.l v/\qBNb)/\(qBNa v)=(qBNa v)/\wr IntKind.i64 ((qBN8 x)+(1:Int))=(qBN8 x')/\True)/\(List.take (qBNf x) (DX.D x)++encV (qBNc x_1)=DX.D x'/\qBN9=qBN9)/\True)/\(decide ((qBN8 x)<(qBNa v))=false->(qBNd x)/\qBN9+(qBNi x)<=List.length (List.take (qBNf x) (DX.D x)++ [qBNh])/\List.take (qBNi x) (List.take (qBNf x) (DX.D x)++ [qBNh])=b)))):=by kernel_rfl
theorem Zyn (v:Val) (hv:OkV v):PureC E 75 [.val (.slice none 0 0),.agg (encF false .vals v)] (.psl Th.bys (encV v) false):=by
 refine Za E_ok (X3 E_ok F0_ok fun f N c=>(Zf6 E_ok Zu6 400 f N c).1) ?_
 rw [Zqt];delta qBN7 qBN8 qBN9 qBNa qBNb qBNc qBNe qBNi qBNg qBNd qBNf qBNh
 have hbig:=hv.en
 simp only [Z4,Zu,Yw,Yx,Yy,beq_iff_eq,bne_iff_ne,beq_eq_false_iff_ne,bne_eq_false_iff_eq,decide_eq_true_eq,decide_eq_false_iff_not,Bool.or_eq_true,Bool.or_eq_false_iff,Bool.not_eq_true',Bool.not_eq_false',Bool.and_eq_true,Bool.and_true,Bool.true_and,Bool.and_eq_false_iff,beq_self_eq_true,Z3,Z5,ne_eq,and_true,true_and,Bool.true_eq_false,Bool.false_eq_true,false_or,or_false,true_implies,imp_self,Int.ofNat_eq_natCast,not_true_eq_false,not_false_eq_true,Decidable.not_not,Wb]
 have hl:=hv.ln
 have hb:=hv.bn
 rw [Uf] at hbig
 rw [Uf]
 refine And.intro (fun h1=> ?_) (fun h1=>And.intro (fun h2=> ?_) (fun h2=> ?_))
 · rw [if_pos h1] at hbig
   rw [if_pos h1]
 · rw [if_neg h1,if_pos h2] at hbig
   rw [if_neg h1,if_pos h2]
   simp only [List.length_append,List.length_cons,List.length_nil] at hbig
   refine ⟨fun x=>∃q,q<=v.b.length/\x.k=q/\x.D=(48::escB (v.b.take q))/\x.r=v.b.length-q,⟨⟨0,v.b.length,[48],[],0,0,0,0⟩,⟨0,by omega,rfl,rfl,rfl⟩,⟨rfl,rfl⟩,rfl⟩,?_⟩
   rintro x ⟨q,hq1,hq2,hq3,hq4⟩
   have hesc:(escB v.b).length=(escB (v.b.take q)).length+(escB (v.b.drop q)).length:=by rw [<-List.length_append,<-Wf,List.take_append_drop]
   have hxl:x.D.length=1+(escB (v.b.take q)).length:=by rw [hq3];simp;omega
   refine And.intro (fun h=>⟨by omega,by omega,fun y hy=> ?_⟩) (fun h=> ?_)
   · have hy:v.b[q]? =some y:=by rw [<-hq2];exact hy
     have hd:v.b.drop q=y::v.b.drop (q+1):=by rw [List.drop_eq_getElem_cons (by omega)];congr 1;have:=gB9 (l:=v.b) (i:=q) (by omega);rw [hy] at this;exact (Option.some.inj this).symm
     rw [hd] at hesc
     have hk1:wr .i64 ((x.k:Int)+1)=((q+1:Nat):Int):=by rw [hq2,wr64 (by omega) (by omega)];omega
     refine ⟨⟨Nat.le_refl _,by omega,?_⟩,fun h0=> ?_,fun h0=> ?_⟩
     · rw [escB] at hesc;split at hesc<;>simp at hesc<;>omega
     · rw [escB,if_pos h0] at hesc
       simp only [List.length_cons] at hesc
       refine ⟨⟨by simp,by omega,by omega⟩,⟨q+1,v.b.length-(q+1),x.D++ [y,255],[],0,0,0,0⟩,⟨q+1,by omega,rfl,?_,rfl⟩,by show v.b.length-(q+1)+1<=x.r;omega,⟨by simp,hk1⟩,by rw [List.take_length,List.take_of_length_le (by simp)];simp⟩
       show x.D++ [y,255]=_
       rw [Yc hy,Wf,hq3]
       simp [escB,h0]
     · refine ⟨⟨q+1,v.b.length-(q+1),x.D++ [y],[],0,0,0,0⟩,⟨q+1,by omega,rfl,?_,rfl⟩,by show v.b.length-(q+1)+1<=x.r;omega,⟨by simp,hk1⟩,by rw [List.take_length]⟩
       show x.D++ [y]=_
       rw [Yc hy,Wf,hq3]
       simp [escB,h0]
   · obtain rfl:q=v.b.length:=by omega
     rw [List.take_length] at hq3 hxl
     refine ⟨⟨Nat.le_refl _,by omega,by omega⟩,by simp,?_⟩
     rw [List.take_length,hq3,List.take_of_length_le (by simp)];try simp
 · rw [if_neg h1,if_neg h2] at hbig
   rw [if_neg h1,if_neg h2]
   simp only [List.length_append,List.length_cons,List.length_nil] at hbig
   refine ⟨fun x=>∃q,q<=v.l.length/\x.k=q/\x.D=(64::encL (v.l.take q))/\x.r=v.l.length-q,⟨⟨0,v.l.length,[64],[],0,0,0,0⟩,⟨0,by omega,rfl,rfl,rfl⟩,⟨rfl,rfl⟩,rfl⟩,?_⟩
   rintro x ⟨q,hq1,hq2,hq3,hq4⟩
   have hesc:(encL v.l).length=(encL (v.l.take q)).length+(encL (v.l.drop q)).length:=by rw [<-List.length_append,<-Ue,List.take_append_drop]
   have hxl:x.D.length=1+(encL (v.l.take q)).length:=by rw [hq3];simp;omega
   refine And.intro (fun h=>⟨by omega,by omega,fun y hy=> ?_⟩) (fun h=> ?_)
   · have hy:v.l[q]? =some y:=by rw [<-hq2];exact hy
     have hmem:y∈v.l:=List.mem_of_getElem? hy
     have hd:v.l.drop q=y::v.l.drop (q+1):=by rw [List.drop_eq_getElem_cons (by omega)];congr 1;have:=gB9 (l:=v.l) (i:=q) (by omega);rw [hy] at this;exact (Option.some.inj this).symm
     rw [hd,encL,List.length_append] at hesc
     have hk1:wr .i64 ((x.k:Int)+1)=((q+1:Nat):Int):=by rw [hq2,wr64 (by omega) (by omega)];omega
     refine ⟨hv.mem hmem,⟨Nat.le_refl _,by omega,by omega⟩,⟨q+1,v.l.length-(q+1),x.D++encV y,[],0,0,0,0⟩,⟨q+1,by omega,rfl,?_,rfl⟩,by show v.l.length-(q+1)+1<=x.r;omega,⟨by simp,hk1⟩,by rw [List.take_length]⟩
     show x.D++encV y=_
     rw [Yc hy,Ue,hq3]
     simp [encL]
   · obtain rfl:q=v.l.length:=by omega
     rw [List.take_length] at hq3 hxl
     refine ⟨⟨Nat.le_refl _,by omega,by omega⟩,by simp,?_⟩
     rw [List.take_length,hq3,List.take_of_length_le (by simp)];try simp
def Z8 (v:Val):List Int×Int:=if (Zl v).2=false then ([],10) else if (Zl v).1>16 then ([],2) else if (encV v).length>65536 then ([],2) else (encV v,0)
def Zqu:Sum thy:=sumP dVal (fun x=>OkV x.1) fun x=> .tup [.int false .i64 (Zl x.1).1,.bool false (Zl x.1).2]
theorem Zn7:SumOk E 74 Zqu:=Z7 E_ok (Ze (f:=74) rfl) fun x h=>Zok x.1 h
def Z1v:Sum thy:=sumN dVal (fun x=>OkV x.1) (fun x=> .psl Th.bys (encV x.1) false) Zym
theorem Zu7:SumOk E 75 Z1v:=Zrc E_ok Zmg fun x h=>Zyn x.1 h
def Fenc:Fns thy:=addS (addS F0 74 Zqu) 75 Z1v
theorem Zyo:FnsOk E Fenc:=Zc (Zc F0_ok Zn7) Zu7
theorem Zj0 (v:Val) (l:List Int) (e:Int):Zm E Fenc (vc E Fenc 400) 53 [.agg (encF false .vals v)] hp0 0 (fun r=>ret E (patch hp0 0 r) r.v (.tup [.psl Th.bys l false,.int false .i64 e]))=(
OkV (Val.mk (Val.k v) (Val.n v) (Val.b v) (Val.l v))/\((!Prod.snd (Zl (Val.mk (Val.k v) (Val.n v) (Val.b v) (Val.l v))))=true->l= []/\(10:Int)=e/\True)/\((!Prod.snd (Zl (Val.mk (Val.k v) (Val.n v) (Val.b v) (Val.l v))))=false->(decide (Prod.fst (Zl (Val.mk (Val.k v) (Val.n v) (Val.b v) (Val.l v)))>(16:Int))=true->l= []/\(2:Int)=e/\True)/\(decide (Prod.fst (Zl (Val.mk (Val.k v) (Val.n v) (Val.b v) (Val.l v)))>(16:Int))=false->OkV (Val.mk (Val.k v) (Val.n v) (Val.b v) (Val.l v))/\(decide ((↑(List.length (encV (Val.mk (Val.k v) (Val.n v) (Val.b v) (Val.l v)))):Int)>(65536:Int))=true->l= []/\(2:Int)=e/\True)/\(decide ((↑(List.length (encV (Val.mk (Val.k v) (Val.n v) (Val.b v) (Val.l v)))):Int)>(65536:Int))=false->(encV (Val.mk (Val.k v) (Val.n v) (Val.b v) (Val.l v))=l/\(false=true->false=true))/\(0:Int)=e/\True)))):=by kernel_rfl
theorem Zj1 (v:Val) (hv:OkV v):PureC E 53 [.agg (encF false .vals v)] (.tup [.psl Th.bys (Z8 v).1 false,.int false .i64 (Z8 v).2]):=by
 refine Za E_ok (Zb E_ok Zyo 400) ?_
 rw [Zj0]
 simp only [Z4,Zu,Yw,Yx,Yy,beq_iff_eq,bne_iff_ne,beq_eq_false_iff_ne,bne_eq_false_iff_eq,decide_eq_true_eq,decide_eq_false_iff_not,Bool.or_eq_true,Bool.or_eq_false_iff,Bool.not_eq_true',Bool.not_eq_false',Bool.and_eq_true,Bool.and_true,Bool.true_and,Bool.and_eq_false_iff,beq_self_eq_true,Z3,Z5,ne_eq,and_true,true_and,Bool.true_eq_false,Bool.false_eq_true,false_or,or_false,true_implies,imp_self,Int.ofNat_eq_natCast,not_true_eq_false,not_false_eq_true,Decidable.not_not,Wb]
 refine ⟨hv,fun h=> ?_,fun h=>And.intro (fun h2=> ?_) (fun h2=>⟨hv,fun h3=> ?_,fun h3=> ?_⟩)⟩
 all_goals unfold Z8
 · rw [if_pos (by simpa using h)];exact ⟨rfl,rfl⟩
 · rw [if_neg (by simpa using h),if_pos h2];exact ⟨rfl,rfl⟩
 · rw [if_neg (by simpa using h),if_neg h2,if_pos (by omega)];exact ⟨rfl,rfl⟩
 · rw [if_neg (by simpa using h),if_neg h2,if_neg (by omega)];exact ⟨rfl,rfl⟩
end
section
open Go
theorem Zue:Zm EL F0 (vc EL F0 2000) 4 [] hp0 0 (fun r=>ret EL (patch hp0 0 r) r.v (.bool false true))=(true=true):=by kernel_rfl
theorem Zuf:PureC E 4 [] (.bool false true):=by
 refine Zvv (n:=2000) ?_
 rw [Zue]
end
section
open Go
def kNums:List Int:= [1116352408,1899447441,3049323471,3921009573,961987163,1508970993,2453635748,2870763221,3624381080,310598401,607225278,1426881987,1925078388,2162078206,2614888103,3248222580,3835390401,4022224774,264347078,604807628,770255983,1249150122,1555081692,1996064986,2554220882,2821834349,2952996808,3210313671,3336571891,3584528711,113926993,338241895,666307205,773529912,1294757372,1396182291,1695183700,1986661051,2177026350,2456956037,2730485921,2820302411,3259730800,3345764771,3516065817,3600352804,4094571909,275423344,430227734,506948616,659060556,883997877,958139571,1322822218,1537002063,1747873779,1955562222,2024104815,2227730452,2361852424,2428436474,2756734187,3204031479,3329325298]
def kSV:SV thy:= .agg [.int true .u32 1116352408,.int true .u32 1899447441,.int true .u32 3049323471,.int true .u32 3921009573,.int true .u32 961987163,.int true .u32 1508970993,.int true .u32 2453635748,.int true .u32 2870763221,.int true .u32 3624381080,.int true .u32 310598401,.int true .u32 607225278,.int true .u32 1426881987,.int true .u32 1925078388,.int true .u32 2162078206,.int true .u32 2614888103,.int true .u32 3248222580,.int true .u32 3835390401,.int true .u32 4022224774,.int true .u32 264347078,.int true .u32 604807628,.int true .u32 770255983,.int true .u32 1249150122,.int true .u32 1555081692,.int true .u32 1996064986,.int true .u32 2554220882,.int true .u32 2821834349,.int true .u32 2952996808,.int true .u32 3210313671,.int true .u32 3336571891,.int true .u32 3584528711,.int true .u32 113926993,.int true .u32 338241895,.int true .u32 666307205,.int true .u32 773529912,.int true .u32 1294757372,.int true .u32 1396182291,.int true .u32 1695183700,.int true .u32 1986661051,.int true .u32 2177026350,.int true .u32 2456956037,.int true .u32 2730485921,.int true .u32 2820302411,.int true .u32 3259730800,.int true .u32 3345764771,.int true .u32 3516065817,.int true .u32 3600352804,.int true .u32 4094571909,.int true .u32 275423344,.int true .u32 430227734,.int true .u32 506948616,.int true .u32 659060556,.int true .u32 883997877,.int true .u32 958139571,.int true .u32 1322822218,.int true .u32 1537002063,.int true .u32 1747873779,.int true .u32 1955562222,.int true .u32 2024104815,.int true .u32 2227730452,.int true .u32 2361852424,.int true .u32 2428436474,.int true .u32 2756734187,.int true .u32 3204031479,.int true .u32 3329325298]
def Zdd (n:Nat):Option (SV thy):=match n with|1=>some kSV|n=>Zwa n
def E2:Eng thy:={E with glob:=Zdd}
theorem Zg:EngOk E2:=E_ok.glob Zdd
theorem Zrm (n:Nat) (sv:SV thy) (h:Zwa n=some sv):Zdd n=some sv:=by
 match n,h with
 |0,h=>exact h
theorem up2 {f:FuncId} {args:List (SV thy)} {v:SV thy} (h:PureC E f args v):PureC E2 f args v:=PureC.like (W3 E Zdd).1 (W3 E Zdd).2 Zrm h
theorem Y3:FnsOk E2 F0:=⟨F0_ok.sumG,F0_ok.fnG,(fun f S h=>by cases h),F0_ok.fn,(fun f j L h=>by cases h)⟩
end
section
open Go
theorem Zsp (x k:Int) (z:Int):Zm E F0 (vc E F0 400) 105 [.int false .u32 x,.int false .i64 k] hp0 0 (fun r=>ret E (patch hp0 0 r) r.v (.int false .u32 z))=(
(0:Int)<=Zn BinOp.and IntKind.u64 (wr IntKind.u64 k) (31:Int)/\(0:Int)<=wr IntKind.u64 ((32:Int)-Zn BinOp.and IntKind.u64 (wr IntKind.u64 k) (31:Int))/\Zn BinOp.or IntKind.u32 (wr IntKind.u32 (x*(2:Int)^min (Int.toNat (Zn BinOp.and IntKind.u64 (wr IntKind.u64 k) (31:Int))) (IntKind.bits IntKind.u32))) (Int.fdiv x ((2:Int)^min (Int.toNat (wr IntKind.u64 ((32:Int)-Zn BinOp.and IntKind.u64 (wr IntKind.u64 k) (31:Int)))) (IntKind.bits IntKind.u32)))=z):=by kernel_rfl
theorem Zsq (x k:Int) (z:Int):Zm E F0 (vc E F0 400) 109 [.int false .u32 x,.int false .i64 k] hp0 0 (fun r=>ret E (patch hp0 0 r) r.v (.int false .u32 z))=(
(0:Int)<=k/\(0:Int)<=wr IntKind.i64 ((32:Int)-k)/\Zn BinOp.or IntKind.u32 (Int.fdiv x ((2:Int)^min (Int.toNat k) (IntKind.bits IntKind.u32))) (wr IntKind.u32 (x*(2:Int)^min (Int.toNat (wr IntKind.i64 ((32:Int)-k))) (IntKind.bits IntKind.u32)))=z):=by kernel_rfl
def rotF (x n:Int):Int:=Zn .or .u32 (Int.fdiv x (2^min (Int.toNat n) 32)) (wr .u32 (x*2^min (Int.toNat (32-n)) 32))
theorem Zsr (a b:Int):Zn .or .u32 a b=Zn .or .u32 b a:=by
 show IntKind.wrap .u32 ((BitVec.ofInt 32 a|||BitVec.ofInt 32 b).toNat:Int)=IntKind.wrap .u32 ((BitVec.ofInt 32 b|||BitVec.ofInt 32 a).toNat:Int)
 rw [BitVec.or_comm]
theorem Z3q:∀m:Fin 31,Zn .and .u64 (wr .u64 (-(m.val:Int)-1)) 31=31-(m.val:Int):=by decide
theorem Zss (x k:Int) (h1: -31<=k) (h2:k<= -1):PureC E 105 [.int false .u32 x,.int false .i64 k] (.int false .u32 (rotF x (-k))):=by
 refine Za E_ok (Zb E_ok F0_ok 400) ?_
 rw [Zsp]
 have e:=Z3q ⟨(-k-1).toNat,by omega⟩
 simp only [show (-(((-k-1).toNat:Nat):Int)-1)=k by omega,show (31-(((-k-1).toNat:Nat):Int))=32+k by omega] at e
 rw [e]
 have e2:wr .u64 (32-(32+k))= -k:=by simp only [wr,IntKind.wrap_u64];omega
 rw [e2]
 refine ⟨by omega,by omega,?_⟩
 unfold rotF
 rw [Zsr,show (32- -k)=32+k by omega]
 rfl
theorem Zst (x k:Int) (h1:1<=k) (h2:k<=31):PureC E 109 [.int false .u32 x,.int false .i64 k] (.int false .u32 (rotF x k)):=by
 refine Za E_ok (Zb E_ok F0_ok 400) ?_
 rw [Zsq]
 have e2:wr .i64 (32-k)=32-k:=wr64 (by omega) (by omega)
 rw [e2]
 exact ⟨by omega,by omega,rfl⟩
def sumD {Y:Thy} {E:Eng Y} {α:Type} (d:DcL E α) (pre:α->Bool) (f:α->SV Y):Sum Y:=fun args _ _ k=>match d.dec args with|some x=>(match pre x with|true=>k (Zd [] (f x))|false=>False)|none=>False
theorem Zsu {Y:Thy} {E:Eng Y} (hE:EngOk E) {α:Type} {f:Nat} (hg:FnGood E.P f) {d:DcL E α} {pre:α->Bool} {v:α->SV Y} (hp:∀x,pre x=true->PureC E f (d.enc x) (v x)):SumOk E f (sumD d pre v):=by
 have hS:=Z7 hE hg (d:=d) (pre:=fun x=>pre x=true) (v:=v) hp
 refine ⟨hS.good,fun args h i k hD hk=>hS.ok args h i k hD ?_⟩
 unfold sumD at hk
 unfold sumP
 split at hk
 · rename_i e
   simp only [e]
   split at hk
   · rename_i e2
     exact ⟨e2,hk⟩
   · exact hk.elim
 · exact hk.elim
end
section
open Go
theorem Wx {α:Type} {l:List α} {n:Nat} (h:l.length=n+1):∃a r,l=a::r/\r.length=n:=by
 cases l with
 |nil=>simp at h
 |cons a r=>exact ⟨a,r,rfl,by simpa using h⟩
theorem all8 {P:List Int->Prop} (hP:∀b0 b1 b2 b3 b4 b5 b6 b7:Int,P [b0,b1,b2,b3,b4,b5,b6,b7]) (b:List Int) (hb:b.length=8):P b:=by
 obtain ⟨b0,s0,rfl,d0⟩:=Wx hb
 obtain ⟨b1,s1,rfl,d1⟩:=Wx d0
 obtain ⟨b2,s2,rfl,d2⟩:=Wx d1
 obtain ⟨b3,s3,rfl,d3⟩:=Wx d2
 obtain ⟨b4,s4,rfl,d4⟩:=Wx d3
 obtain ⟨b5,s5,rfl,d5⟩:=Wx d4
 obtain ⟨b6,s6,rfl,d6⟩:=Wx d5
 obtain ⟨b7,s7,rfl,d7⟩:=Wx d6
 obtain rfl:=List.eq_nil_of_length_eq_zero d7
 exact hP b0 b1 b2 b3 b4 b5 b6 b7
def dXK2:DcL E2 (Int×Int×Unit):= .cons (dInt (E:=E2) .u32) (.cons (dInt (E:=E2) .i64) .nil)
def Zx9:Sum thy:=sumD dXK2 (fun x=>decide (-31<=x.2.1)&&decide (x.2.1<= -1)) fun x=> .int false .u32 (rotF x.1 (-x.2.1))
theorem Zs3:SumOk E2 105 Zx9:=Zsu Zg (Ze (f:=105) rfl) fun x h=>by
 simp only [Bool.and_eq_true,decide_eq_true_eq] at h
 exact up2 (Zss x.1 x.2.1 h.1 h.2)
def k64:List Int:= [1116352408,1899447441,3049323471,3921009573,961987163,1508970993,2453635748,2870763221,3624381080,310598401,607225278,1426881987,1925078388,2162078206,2614888103,3248222580,3835390401,4022224774,264347078,604807628,770255983,1249150122,1555081692,1996064986,2554220882,2821834349,2952996808,3210313671,3336571891,3584528711,113926993,338241895,666307205,773529912,1294757372,1396182291,1695183700,1986661051,2177026350,2456956037,2730485921,2820302411,3259730800,3345764771,3516065817,3600352804,4094571909,275423344,430227734,506948616,659060556,883997877,958139571,1322822218,1537002063,1747873779,1955562222,2024104815,2227730452,2361852424,2428436474,2756734187,3204031479,3329325298]
def z64:List Int:= [0,0,0,0,0,0,0,0,0,0,0,0,0,0,0,0,0,0,0,0,0,0,0,0,0,0,0,0,0,0,0,0,0,0,0,0,0,0,0,0,0,0,0,0,0,0,0,0,0,0,0,0,0,0,0,0,0,0,0,0,0,0,0,0]
def itL (f:Nat->List Int->List Int):Nat->Nat->List Int->List Int
 |0,_,D=>D
 |r+1,k,D=>itL f r (k+1) (f k D)
def orF (a b c d:Int):Int:=Zn BinOp.or IntKind.u32 (Zn BinOp.or IntKind.u32 (Zn BinOp.or IntKind.u32 (wr IntKind.u32 (wr IntKind.u32 a*(2:Int)^min (Int.toNat (24:Int)) (IntKind.bits IntKind.u32))) (wr IntKind.u32 (wr IntKind.u32 b*(2:Int)^min (Int.toNat (16:Int)) (IntKind.bits IntKind.u32)))) (wr IntKind.u32 (wr IntKind.u32 c*(2:Int)^min (Int.toNat (8:Int)) (IntKind.bits IntKind.u32)))) (wr IntKind.u32 d)
def wdF (a b c d:Int):Int:=wr IntKind.u32 (wr IntKind.u32 (wr IntKind.u32 (a+Zn BinOp.xor IntKind.u32 (Zn BinOp.xor IntKind.u32 (rotF b 7) (rotF b 18)) (Int.fdiv b ((2:Int)^min (Int.toNat (3:Int)) (IntKind.bits IntKind.u32))))+c)+Zn BinOp.xor IntKind.u32 (Zn BinOp.xor IntKind.u32 (rotF d 17) (rotF d 19)) (Int.fdiv d ((2:Int)^min (Int.toNat (10:Int)) (IntKind.bits IntKind.u32))))
def t1F (H:List Int) (K W:Int):Int:=wr IntKind.u32 (wr IntKind.u32 (wr IntKind.u32 (wr IntKind.u32 (List.getD H (7:Nat) (0:Int)+Zn BinOp.xor IntKind.u32 (Zn BinOp.xor IntKind.u32 (rotF (List.getD H (4:Nat) (0:Int)) 6) (rotF (List.getD H (4:Nat) (0:Int)) 11)) (rotF (List.getD H (4:Nat) (0:Int)) 25))+Zn BinOp.xor IntKind.u32 (Zn BinOp.and IntKind.u32 (List.getD H (4:Nat) (0:Int)) (List.getD H (5:Nat) (0:Int))) (Zn BinOp.and IntKind.u32 (Zn BinOp.xor IntKind.u32 (if IntKind.signed IntKind.u32=true then (-1:Int) else IntKind.max IntKind.u32) (List.getD H (4:Nat) (0:Int))) (List.getD H (6:Nat) (0:Int))))+K)+W)
def t2F (H:List Int):Int:=wr IntKind.u32 (Zn BinOp.xor IntKind.u32 (Zn BinOp.xor IntKind.u32 (rotF (List.getD H (0:Nat) (0:Int)) 2) (rotF (List.getD H (0:Nat) (0:Int)) 13)) (rotF (List.getD H (0:Nat) (0:Int)) 22)+Zn BinOp.xor IntKind.u32 (Zn BinOp.xor IntKind.u32 (Zn BinOp.and IntKind.u32 (List.getD H (0:Nat) (0:Int)) (List.getD H (1:Nat) (0:Int))) (Zn BinOp.and IntKind.u32 (List.getD H (0:Nat) (0:Int)) (List.getD H (2:Nat) (0:Int)))) (Zn BinOp.and IntKind.u32 (List.getD H (1:Nat) (0:Int)) (List.getD H (2:Nat) (0:Int))))
def shaR (H:List Int) (K W:Int):List Int:= [wr IntKind.u32 (t1F H K W+t2F H),H.getD 0 0,H.getD 1 0,H.getD 2 0,wr IntKind.u32 (H.getD 3 0+t1F H K W),H.getD 4 0,H.getD 5 0,H.getD 6 0]
def f1 (b:List Int) (k:Nat) (D:List Int):List Int:=D.set k (orF (b.getD (4*k) 0) (b.getD (4*k+1) 0) (b.getD (4*k+2) 0) (b.getD (4*k+3) 0))
def f2 (k:Nat) (D:List Int):List Int:=D.set k (wdF (D.getD (k-16) 0) (D.getD (k-15) 0) (D.getD (k-7) 0) (D.getD (k-2) 0))
def f3 (W:List Int) (k:Nat) (H:List Int):List Int:=shaR H (k64.getD k 0) (W.getD k 0)
def schF (b:List Int):List Int:=itL f2 48 16 (itL (f1 b) 16 0 z64)
def shaE (H X:List Int):List Int:= [wr IntKind.u32 (H.getD 0 0+X.getD 0 0),wr IntKind.u32 (H.getD 1 0+X.getD 1 0),wr IntKind.u32 (H.getD 2 0+X.getD 2 0),wr IntKind.u32 (H.getD 3 0+X.getD 3 0),wr IntKind.u32 (H.getD 4 0+X.getD 4 0),wr IntKind.u32 (H.getD 5 0+X.getD 5 0),wr IntKind.u32 (H.getD 6 0+X.getD 6 0),wr IntKind.u32 (H.getD 7 0+X.getD 7 0)]
def blkF (h b:List Int):List Int:=shaE h (itL (f3 (schF b)) 64 0 h)
theorem Uq {h b:List Int} (hh:h.length=8) (hb:b.length=64):(blkF h b).length=8:=rfl
theorem Zlf (f:Nat->List Int->List Int) (n:Nat) (hf:∀k D,D.length=n->(f k D).length=n):∀(r k:Nat) (D:List Int),D.length=n->(itL f r k D).length=n
 |0,_,_,h=>h
 |r+1,k,D,h=>Zlf f n hf r (k+1) _ (hf k D h)
theorem Zct (b:List Int):(schF b).length=64:=Zlf _ 64 (fun k D h=>by simp [f2,h]) _ _ _ (Zlf _ 64 (fun k D h=>by simp [f1,h]) _ _ _ rfl)
theorem Wz {l:List Int} {k:Nat} {x:Int} (h:l[k]? =some x):l.getD k 0=x:=by rw [List.getD_eq_getElem?_getD,h];rfl
def cR8 (H:List Int):List (SV thy):= [.int false .u32 (H.getD 0 0),.int false .u32 (H.getD 1 0),.int false .u32 (H.getD 2 0),.int false .u32 (H.getD 3 0),.int false .u32 (H.getD 4 0),.int false .u32 (H.getD 5 0),.int false .u32 (H.getD 6 0),.int false .u32 (H.getD 7 0)]
def hEQ (a z:List Int):Prop:=List.getD a (0:Nat) (0:Int)=List.getD z (0:Nat) (0:Int)/\List.getD a (1:Nat) (0:Int)=List.getD z (1:Nat) (0:Int)/\List.getD a (2:Nat) (0:Int)=List.getD z (2:Nat) (0:Int)/\List.getD a (3:Nat) (0:Int)=List.getD z (3:Nat) (0:Int)/\List.getD a (4:Nat) (0:Int)=List.getD z (4:Nat) (0:Int)/\List.getD a (5:Nat) (0:Int)=List.getD z (5:Nat) (0:Int)/\List.getD a (6:Nat) (0:Int)=List.getD z (6:Nat) (0:Int)/\List.getD a (7:Nat) (0:Int)=List.getD z (7:Nat) (0:Int)/\True
theorem Yd (a:List Int):hEQ a a:=⟨rfl,rfl,rfl,rfl,rfl,rfl,rfl,rfl,trivial⟩
def Ab1:Fr thy->Hp thy->Nat->Ann thy:=fun T h i=>{X:=DX,fr:=fun x=> [(1,T 1),(2,T 2),(4,T 4),(5,T 5),(19,.int false .i64 x.k)],bl:=fun x=>(bOf (T 5),.rows Th.w64 x.D 0)::(blkP h (T 2)++blkP h (T 4)),src:=fun _=> [],md:= [bOf (T 5)],ih:=i,M:=i+40,meas:=fun x=>x.r}
def Ab2:Fr thy->Hp thy->Nat->Ann thy:=fun T h i=>{X:=DX,fr:=fun x=> [(2,T 2),(4,T 4),(5,T 5),(7,.int false .i64 x.k)],bl:=fun x=>(bOf (T 5),.rows Th.w64 x.D 0)::(blkP h (T 2)++blkP h (T 4)),src:=fun _=> [],md:= [bOf (T 5)],ih:=i,M:=i+40,meas:=fun x=>x.r}
def Ab3:Fr thy->Hp thy->Nat->Ann thy:=fun T h i=>{X:=DX,fr:=fun x=> [(2,T 2),(4,T 4),(5,T 5),(12,T 12),(102,.int false .i64 x.k)],bl:=fun x=>(bOf (T 12),.raw (cR8 x.H) 0 none)::(blkP h (T 5)++blkP h (T 2)++blkP h (T 4)),src:=fun _=> [],md:= [bOf (T 12)],ih:=i,M:=i+40,meas:=fun x=>x.r}
def Fbb:Fns thy:=addL (addL (addL (addS F0 105 Zx9) 92 3 Ab1 E2) 92 8 Ab2 E2) 92 16 Ab3 E2
theorem Z2r:FnsOk E2 Fbb:=Zv Zg (Zv Zg (Zv Zg (Zc Y3 Zs3) _ _ _) _ _ _) _ _ _
abbrev qBR1 (a0:DX):=(↑(DX.k a0):Int)
abbrev qBR2:=(0:Nat)
abbrev qBR3 (a0:DX):=((4:Int)*(qBR1 a0))
abbrev qBR4:=(↑(64:Nat):Int)
abbrev qBR5:=(1:Int)
abbrev qBR6:=(0:Int)
abbrev qBR7 (a0:DX):=(qBR6<=(qBR1 a0)/\(qBR1 a0)+qBR5<=qBR4)
abbrev qBR8:=(1:Nat)
theorem Zlg (H b:List Int) (z:List Int):Zm E2 Fbb (vc E2 Fbb 600) 92 [.agg (cR8 H),.psl Th.bys b false] hp0 0 (fun r=>ret E2 (patch hp0 0 r) r.v (.agg (cR8 z)))=(
 ∃(R:DX->Prop),(∃(x:DX),R x/\true=true/\((b=b/\(false=true->false=true))/\qBR2=qBR2/\qBR2=qBR2/\qBR2=qBR2/\qBR6=(qBR1 x)/\True)/\(z64=DX.D x/\qBR2=qBR2)/\hEQ H H/\hEQ [] []/\True)/\∀(x:DX),R x->(decide ((qBR1 x)<(16:Int))=true->qBR6<=wr IntKind.i64 (qBR3 x)/\wr IntKind.i64 (qBR3 x)+qBR5<=(↑(List.length b):Int)/\∀(x_1:Int),b[Int.toNat (wr IntKind.i64 (qBR3 x))]? =some x_1->qBR6<=wr IntKind.i64 (wr IntKind.i64 (qBR3 x)+qBR5)/\wr IntKind.i64 (wr IntKind.i64 (qBR3 x)+qBR5)+qBR5<=(↑(List.length b):Int)/\∀(x_2:Int),b[Int.toNat (wr IntKind.i64 (wr IntKind.i64 (qBR3 x)+qBR5))]? =some x_2->qBR6<=wr IntKind.i64 (wr IntKind.i64 (qBR3 x)+(2:Int))/\wr IntKind.i64 (wr IntKind.i64 (qBR3 x)+(2:Int))+qBR5<=(↑(List.length b):Int)/\∀(x_3:Int),b[Int.toNat (wr IntKind.i64 (wr IntKind.i64 (qBR3 x)+(2:Int)))]? =some x_3->qBR6<=wr IntKind.i64 (wr IntKind.i64 (qBR3 x)+(3:Int))/\wr IntKind.i64 (wr IntKind.i64 (qBR3 x)+(3:Int))+qBR5<=(↑(List.length b):Int)/\∀(x_4:Int),b[Int.toNat (wr IntKind.i64 (wr IntKind.i64 (qBR3 x)+(3:Int)))]? =some x_4->(qBR7 x)/\qBR2<=Int.toNat (qBR1 x)/\Int.toNat (qBR1 x)+qBR8<=List.length (DX.D x)/\∀(x_5:Int),(DX.D x)[Int.toNat (qBR1 x)]? =some x_5->∃(x':DX),R x'/\x'.2+qBR8<=x.2/\true=true/\((b=b/\(false=true->false=true))/\qBR2=qBR2/\qBR2=qBR2/\qBR2=qBR2/\wr IntKind.i64 ((qBR1 x)+qBR5)=(qBR1 x')/\True)/\(List.set (DX.D x) (Int.toNat (qBR1 x)) (orF x_1 x_2 x_3 x_4)=DX.D x'/\qBR2=qBR2)/\hEQ H H/\hEQ [] []/\True)/\(decide ((qBR1 x)<(16:Int))=false->∃(R:DX->Prop),(∃(x_1:DX),R x_1/\true=true/\(qBR2=qBR2/\qBR2=qBR2/\qBR2=qBR2/\(16:Int)=(qBR1 x_1)/\True)/\(DX.D x=DX.D x_1/\qBR2=qBR2)/\hEQ H H/\hEQ [] []/\True)/\∀(x:DX),R x->(decide ((qBR1 x)<(64:Int))=true->(qBR6<=wr IntKind.i64 ((qBR1 x)-(15:Int))/\wr IntKind.i64 ((qBR1 x)-(15:Int))+qBR5<=qBR4)/\Int.toNat (wr IntKind.i64 ((qBR1 x)-(15:Int)))+qBR8<=List.length (DX.D x)/\∀(x_1:Int),(DX.D x)[Int.toNat (wr IntKind.i64 ((qBR1 x)-(15:Int)))]? =some x_1->(qBR6<=wr IntKind.i64 ((qBR1 x)-(2:Int))/\wr IntKind.i64 ((qBR1 x)-(2:Int))+qBR5<=qBR4)/\Int.toNat (wr IntKind.i64 ((qBR1 x)-(2:Int)))+qBR8<=List.length (DX.D x)/\∀(x_2:Int),(DX.D x)[Int.toNat (wr IntKind.i64 ((qBR1 x)-(2:Int)))]? =some x_2->(qBR6<=wr IntKind.i64 ((qBR1 x)-(16:Int))/\wr IntKind.i64 ((qBR1 x)-(16:Int))+qBR5<=qBR4)/\Int.toNat (wr IntKind.i64 ((qBR1 x)-(16:Int)))+qBR8<=List.length (DX.D x)/\∀(x_3:Int),(DX.D x)[Int.toNat (wr IntKind.i64 ((qBR1 x)-(16:Int)))]? =some x_3->(qBR6<=wr IntKind.i64 ((qBR1 x)-(7:Int))/\wr IntKind.i64 ((qBR1 x)-(7:Int))+qBR5<=qBR4)/\Int.toNat (wr IntKind.i64 ((qBR1 x)-(7:Int)))+qBR8<=List.length (DX.D x)/\∀(x_4:Int),(DX.D x)[Int.toNat (wr IntKind.i64 ((qBR1 x)-(7:Int)))]? =some x_4->(qBR7 x)/\qBR2<=Int.toNat (qBR1 x)/\Int.toNat (qBR1 x)+qBR8<=List.length (DX.D x)/\∀(x_5:Int),(DX.D x)[Int.toNat (qBR1 x)]? =some x_5->∃(x':DX),R x'/\x'.2+qBR8<=x.2/\true=true/\(qBR2=qBR2/\qBR2=qBR2/\qBR2=qBR2/\wr IntKind.i64 ((qBR1 x)+qBR5)=(qBR1 x')/\True)/\(List.set (DX.D x) (Int.toNat (qBR1 x)) (wdF x_3 x_1 x_4 x_2)=DX.D x'/\qBR2=qBR2)/\hEQ H H/\hEQ [] []/\True)/\(decide ((qBR1 x)<(64:Int))=false->∃(R:DX->Prop),(∃(x_1:DX),R x_1/\true=true/\(qBR2=qBR2/\qBR2=qBR2/\qBR2=qBR2/\qBR2=qBR2/\qBR6=(qBR1 x_1)/\True)/\hEQ H (DX.H x_1)/\(DX.D x=DX.D x/\qBR2=qBR2)/\hEQ H H/\hEQ [] []/\True)/\∀(x_1:DX),R x_1->(decide ((qBR1 x_1)<(64:Int))=true->qBR6<=(qBR1 x_1)/\(qBR1 x_1)+qBR5<=qBR4/\∀(x_2:Int),k64[Int.toNat (qBR1 x_1)]? =some x_2->(qBR7 x_1)/\Int.toNat (qBR1 x_1)+qBR8<=List.length (DX.D x)/\∀(x_3:Int),(DX.D x)[Int.toNat (qBR1
x_1)]? =some x_3->∃(x':DX),R x'/\x'.2+qBR8<=x_1.2/\true=true/\(qBR2=qBR2/\qBR2=qBR2/\qBR2=qBR2/\qBR2=qBR2/\wr IntKind.i64 ((qBR1 x_1)+qBR5)=(qBR1 x')/\True)/\hEQ (shaR (DX.H x_1) x_2 x_3) (DX.H x')/\(DX.D x=DX.D x/\qBR2=qBR2)/\hEQ H H/\hEQ [] []/\True)/\(decide ((qBR1 x_1)<(64:Int))=false->hEQ (shaE H (DX.H x_1)) z)))):=by kernel_rfl
theorem Zs4 {b D:List Int} {k:Nat} {x1 x2 x3 x4:Int} (h1:b[4*k]? =some x1) (h2:b[4*k+1]? =some x2) (h3:b[4*k+2]? =some x3) (h4:b[4*k+3]? =some x4):List.set D k (orF x1 x2 x3 x4)=f1 b k D:=by
 unfold f1;rw [Wz h1,Wz h2,Wz h3,Wz h4]
theorem Zs5 {D:List Int} {k:Nat} {x1 x2 x3 x4:Int} (h1:D[k-15]? =some x1) (h2:D[k-2]? =some x2) (h3:D[k-16]? =some x3) (h4:D[k-7]? =some x4):List.set D k (wdF x3 x1 x4 x2)=f2 k D:=by
 unfold f2;rw [Wz h1,Wz h2,Wz h3,Wz h4]
theorem Zs6 {W H:List Int} {k:Nat} {x1 x2:Int} (h1:k64[k]? =some x1) (h2:W[k]? =some x2):shaR H x1 x2=f3 W k H:=by
 unfold f3;rw [Wz h1,Wz h2]
theorem Ur {f:Nat->List Int->List Int} {r k:Nat} {D D' W:List Int} (h:itL f r k D=W) (hr:0<r) (hD:D'=f k D):itL f (r-1) (k+1) D'=W:=by
 obtain ⟨q,rfl⟩:∃q,r=q+1:=⟨r-1,by omega⟩
 rw [hD];exact h
theorem Zgv {h:List Int} (hh:h.length=8):rowV .u32 h= .agg (cR8 h):=all8 (P:=fun h=>rowV .u32 h= .agg (cR8 h)) (fun _ _ _ _ _ _ _ _=>rfl) h hh
theorem Zwq {h b:List Int} (hh:h.length=8) (hb:b.length=64):PureC E2 92 [rowV .u32 h,.psl Th.bys b false] (rowV .u32 (blkF h b)):=by
 rw [Zgv hh,Zgv (Uq hh hb)]
 refine Za Zg (Zb Zg Z2r 600) ?_
 rw [Zlg];delta qBR1 qBR2 qBR3 qBR4 qBR5 qBR6 qBR7 qBR8
 refine ⟨fun x=>x.r+x.k=16/\x.D.length=64/\itL (f1 b) x.r x.k x.D=itL (f1 b) 16 0 z64,⟨⟨0,16,z64,[],0,0,0,0⟩,⟨rfl,rfl,rfl⟩,rfl,⟨⟨rfl,id⟩,rfl,rfl,rfl,rfl,trivial⟩,⟨rfl,rfl⟩,Yd _,Yd _,trivial⟩,?_⟩
 rintro x ⟨h1,h2,h3⟩
 refine And.intro (fun hk=> ?_) (fun hk=> ?_)
 · have hk:=of_decide_eq_true hk
   have e0:wr .i64 ((4:Int)*(x.k:Int))=((4*x.k:Nat):Int):=by rw [wr64 (by omega) (by omega)];omega
   have e1:wr .i64 (((4*x.k:Nat):Int)+1)=((4*x.k+1:Nat):Int):=by rw [wr64 (by omega) (by omega)];omega
   have e2:wr .i64 (((4*x.k:Nat):Int)+2)=((4*x.k+2:Nat):Int):=by rw [wr64 (by omega) (by omega)];omega
   have e3:wr .i64 (((4*x.k:Nat):Int)+3)=((4*x.k+3:Nat):Int):=by rw [wr64 (by omega) (by omega)];omega
   simp only [e0,e1,e2,e3,Int.toNat_natCast]
   refine ⟨by omega,by omega,fun a ha=>⟨by omega,by omega,fun c hc=>⟨by omega,by omega,fun d hd=>⟨by omega,by omega,fun e he=>⟨⟨by omega,by omega⟩,Nat.zero_le _,by omega,fun _ _=>⟨⟨x.k+1,x.r-1,_,[],0,0,0,0⟩,⟨?_,?_,Ur h3 (by omega) (Zs4 ha hc hd he)⟩,?_,trivial,⟨⟨trivial,id⟩,trivial,trivial,trivial,wr64 (by omega) (by omega),trivial⟩,⟨rfl,trivial⟩,Yd _,Yd _,trivial⟩⟩⟩⟩⟩⟩
   · show x.r-1+(x.k+1)=16;omega
   · simp [h2]
   · show x.r-1+1<=x.r;omega
 · have hk:=of_decide_eq_false hk
   have hD:x.D=itL (f1 b) 16 0 z64:=by rw [<-h3,show x.r=0 by omega];rfl
   refine ⟨fun x=>x.r+x.k=64/\16<=x.k/\x.D.length=64/\itL f2 x.r x.k x.D=schF b,⟨⟨16,48,x.D,[],0,0,0,0⟩,⟨rfl,Nat.le_refl _,h2,by rw [hD];rfl⟩,rfl,⟨rfl,rfl,rfl,rfl,trivial⟩,⟨rfl,rfl⟩,Yd _,Yd _,trivial⟩,?_⟩
   clear hk h1 h2 h3 hD
   rintro x ⟨h1,h0,h2,h3⟩
   refine And.intro (fun hk=> ?_) (fun hk=> ?_)
   · have hk:=of_decide_eq_true hk
     have e0:wr .i64 ((x.k:Int)-15)=((x.k-15:Nat):Int):=by rw [wr64 (by omega) (by omega)];omega
     have e1:wr .i64 ((x.k:Int)-2)=((x.k-2:Nat):Int):=by rw [wr64 (by omega) (by omega)];omega
     have e2:wr .i64 ((x.k:Int)-16)=((x.k-16:Nat):Int):=by rw [wr64 (by omega) (by omega)];omega
     have e3:wr .i64 ((x.k:Int)-7)=((x.k-7:Nat):Int):=by rw [wr64 (by omega) (by omega)];omega
     simp only [e0,e1,e2,e3,Int.toNat_natCast]
     refine ⟨⟨by omega,by omega⟩,by omega,fun a ha=>⟨⟨by omega,by omega⟩,by omega,fun c hc=>⟨⟨by omega,by omega⟩,by omega,fun d hd=>⟨⟨by omega,by omega⟩,by omega,fun e he=>⟨⟨by omega,by omega⟩,Nat.zero_le _,by omega,fun _ _=>⟨⟨x.k+1,x.r-1,_,[],0,0,0,0⟩,⟨?_,?_,?_,Ur h3 (by omega) (Zs5 ha hc hd he)⟩,?_,trivial,⟨trivial,trivial,trivial,wr64 (by omega) (by omega),trivial⟩,⟨rfl,trivial⟩,Yd _,Yd _,trivial⟩⟩⟩⟩⟩⟩
     · show x.r-1+(x.k+1)=64;omega
     · show 16<=x.k+1;omega
     · simp [h2]
     · show x.r-1+1<=x.r;omega
   · have hk:=of_decide_eq_false hk
     have hD:x.D=schF b:=by rw [<-h3,show x.r=0 by omega];rfl
     refine ⟨fun x=>x.r+x.k=64/\itL (f3 (schF b)) x.r x.k x.H=itL (f3 (schF b)) 64 0 h,⟨⟨0,64,[],h,0,0,0,0⟩,⟨rfl,rfl⟩,rfl,⟨rfl,rfl,rfl,rfl,rfl,trivial⟩,Yd _,⟨rfl,rfl⟩,Yd _,Yd _,trivial⟩,?_⟩
     rw [hD]
     rintro x ⟨h1,h3⟩
     refine And.intro (fun hk=> ?_) (fun hk=> ?_)
     · have hk:=of_decide_eq_true hk
       simp only [Int.toNat_natCast]
       refine ⟨by omega,by omega,fun a ha=>⟨⟨by omega,by omega⟩,by rw [Zct];omega,fun c hc=>⟨⟨x.k+1,x.r-1,[],_,0,0,0,0⟩,⟨?_,Ur h3 (by omega) (Zs6 ha hc)⟩,?_,trivial,⟨trivial,trivial,trivial,trivial,wr64 (by omega) (by omega),trivial⟩,Yd _,⟨trivial,trivial⟩,Yd _,Yd _,trivial⟩⟩⟩
       · show x.r-1+(x.k+1)=64;omega
       · show x.r-1+1<=x.r;omega
     · have hk:=of_decide_eq_false hk
       have hX:x.H=itL (f3 (schF b)) 64 0 h:=by rw [<-h3,show x.r=0 by omega];rfl
       rw [hX]
       exact Yd _
end
section
open Go
def dBys (E:Eng thy):Dc E (List Int):=(Zmc (E:=E) Th.bys:Dc E (List (thy.dom Th.bys)))
def Z29 (E:Eng thy):Dc E (List (List Int)):=(Zmc (E:=E) Th.byss:Dc E (List (thy.dom Th.byss)))
def Z3a (E:Eng thy):Dc E (List Val):=(Zmc (E:=E) Th.vals:Dc E (List (thy.dom Th.vals)))
def row8 (H:List Int):SV thy:= .agg [.int false .u32 (H.getD 0 0),.int false .u32 (H.getD 1 0),.int false .u32 (H.getD 2 0),.int false .u32 (H.getD 3 0),.int false .u32 (H.getD 4 0),.int false .u32 (H.getD 5 0),.int false .u32 (H.getD 6 0),.int false .u32 (H.getD 7 0)]
theorem Zqv {H:List Int} (h:H.length=8):rowV .u32 H=row8 H:=all8 (P:=fun H=>rowV .u32 H=row8 H) (fun _ _ _ _ _ _ _ _=>rfl) H h
def gthT (cs:List (SV thy)):Option Th:=match cs with| .int _ .u8 _::_=>some .bys|_=>none
def Sblk:Sum thy:=sumF E2 gthT 2 (.cons (Zy2 E2 .u32) (.cons (dBys E2) .nil)) (fun x=>x.1.length=8/\x.2.1.length=64) fun x=>row8 (blkF x.1 x.2.1)
theorem Zyp:SumOk E2 92 Sblk:=Zdc Zg (Ze (f:=92) rfl) fun x h=>by
 have:=Zwq h.1 h.2
 rw [Zqv (Uq h.1 h.2)] at this
 exact this
def A58a:Fr thy->Hp thy->Nat->Ann2 thy:=fun T h i=>{X:=DX,fr:=fun s x=>match s with|true=> [(2,T 2),(3,.val (.slice none 0 0)),(10,T 10),(11,T 11),(12,.int false .i64 x.k)]|false=> [(2,T 2),(3,.sl i 0 x.D.length 1 none),(10,T 10),(11,T 11),(12,.int false .i64 x.k)],bl:=fun s x=>match s with|true=>blkP h (T 2)|false=>(i,.rows Th.bys x.D 0)::blkP h (T 2),src:=fun s=>match s with|true=> []|false=> [(i,3)],md:= [],ih:=i+1,M:=i+40,meas:=fun s x=>x.r}
def A58b:Fr thy->Hp thy->Nat->Ann thy:=fun T h i=>{X:=DX,fr:=fun x=> [(2,T 2),(3,.sl i 0 x.D.length 1 none),(6,T 6)],bl:=fun x=>(i,.rows Th.bys x.D 0)::blkP h (T 2),src:=fun _=> [(i,3)],md:= [bOf (T 3)],ih:=i+1,M:=i+40,meas:=fun x=>x.r}
def A58c:Fr thy->Hp thy->Nat->Ann2 thy:=fun T h i=>{X:=DX,fr:=fun s x=>match s with|true=> [(2,T 2),(3,.sl (bOf (T 3)) x.n x.m 1 none),(8,T 8)]|false=> [(2,T 2),(3,.psl Th.bys [] false),(8,T 8)],bl:=fun s x=>match s with|true=>(bOf (T 8),.raw (row8 x.H).cells 0 none)::(blkZ h (T 3) x.fz++blkP h (T 2))|false=>(bOf (T 8),.raw (row8 x.H).cells 0 none)::blkP h (T 2),src:=fun _=> [],md:= [bOf (T 3),bOf (T 8)],ih:=i,M:=i+60,meas:=fun s x=>x.r}
def A58d:Fr thy->Hp thy->Nat->Ann thy:=fun T h i=>{X:=DX,fr:=fun x=> [(2,T 2),(3,.sl i 0 x.D.length 1 none),(6,T 6),(7,.int false .i64 x.j)],bl:=fun x=>(i,.rows Th.bys x.D 0)::blkP h (T 2),src:=fun _=> [(i,3)],md:= [bOf (T 3)],ih:=i+1,M:=i+40,meas:=fun x=>x.r}
def F20:Fns thy:=addL (Zzn (addL (Zzn (addS F0 92 Sblk) 76 3 A58a E2) 76 9 A58b E2) 76 16 A58c E2) 76 12 A58d E2
theorem Z1w:FnsOk E2 F20:=Zv Zg (Zm4 Zg (Zv Zg (Zm4 Zg (Zc Y3 Zyp) _ _ _) _ _ _) _ _ _) _ _ _
def Zp (d:List Int):SV thy:= .agg [.int false .u8 (d.getD 0 0),.int false .u8 (d.getD 1 0),.int false .u8 (d.getD 2 0),.int false .u8 (d.getD 3 0),.int false .u8 (d.getD 4 0),.int false .u8 (d.getD 5 0),.int false .u8 (d.getD 6 0),.int false .u8 (d.getD 7 0),.int false .u8 (d.getD 8 0),.int false .u8 (d.getD 9 0),.int false .u8 (d.getD 10 0),.int false .u8 (d.getD 11 0),.int false .u8 (d.getD 12 0),.int false .u8 (d.getD 13 0),.int false .u8 (d.getD 14 0),.int false .u8 (d.getD 15 0),.int false .u8 (d.getD 16 0),.int false .u8 (d.getD 17 0),.int false .u8 (d.getD 18 0),.int false .u8 (d.getD 19 0),.int false .u8 (d.getD 20 0),.int false .u8 (d.getD 21 0),.int false .u8 (d.getD 22 0),.int false .u8 (d.getD 23 0),.int false .u8 (d.getD 24 0),.int false .u8 (d.getD 25 0),.int false .u8 (d.getD 26 0),.int false .u8 (d.getD 27 0),.int false .u8 (d.getD 28 0),.int false .u8 (d.getD 29 0),.int false .u8 (d.getD 30 0),.int false .u8 (d.getD 31 0)]
def n32q (x:List Int):List Int:= [List.getD x 0 0,List.getD x 1 0,List.getD x 2 0,List.getD x 3 0,List.getD x 4 0,List.getD x 5 0,List.getD x 6 0,List.getD x 7 0,List.getD x 8 0,List.getD x 9 0,List.getD x 10 0,List.getD x 11 0,List.getD x 12 0,List.getD x 13 0,List.getD x 14 0,List.getD x 15 0,List.getD x 16 0,List.getD x 17 0,List.getD x 18 0,List.getD x 19 0,List.getD x 20 0,List.getD x 21 0,List.getD x 22 0,List.getD x 23 0,List.getD x 24 0,List.getD x 25 0,List.getD x 26 0,List.getD x 27 0,List.getD x 28 0,List.getD x 29 0,List.getD x 30 0,List.getD x 31 0]
def z32q (x:List Int):Prop:=(0:Int)=List.getD x 0 0/\(0:Int)=List.getD x 1 0/\(0:Int)=List.getD x 2 0/\(0:Int)=List.getD x 3 0/\(0:Int)=List.getD x 4 0/\(0:Int)=List.getD x 5 0/\(0:Int)=List.getD x 6 0/\(0:Int)=List.getD x 7 0/\(0:Int)=List.getD x 8 0/\(0:Int)=List.getD x 9 0/\(0:Int)=List.getD x 10 0/\(0:Int)=List.getD x 11 0/\(0:Int)=List.getD x 12 0/\(0:Int)=List.getD x 13 0/\(0:Int)=List.getD x 14 0/\(0:Int)=List.getD x 15 0/\(0:Int)=List.getD x 16 0/\(0:Int)=List.getD x 17 0/\(0:Int)=List.getD x 18 0/\(0:Int)=List.getD x 19 0/\(0:Int)=List.getD x 20 0/\(0:Int)=List.getD x 21 0/\(0:Int)=List.getD x 22 0/\(0:Int)=List.getD x 23 0/\(0:Int)=List.getD x 24 0/\(0:Int)=List.getD x 25 0/\(0:Int)=List.getD x 26 0/\(0:Int)=List.getD x 27 0/\(0:Int)=List.getD x 28 0/\(0:Int)=List.getD x 29 0/\(0:Int)=List.getD x 30 0/\(0:Int)=List.getD x 31 0/\True
def b32q (x y:List Int):Bool:=(List.getD x 0 0==List.getD y 0 0&&(List.getD x 1 0==List.getD y 1 0&&(List.getD x 2 0==List.getD y 2 0&&(List.getD x 3 0==List.getD y 3 0&&(List.getD x 4 0==List.getD y 4 0&&(List.getD x 5 0==List.getD y 5 0&&(List.getD x 6 0==List.getD y 6 0&&(List.getD x 7 0==List.getD y 7 0&&(List.getD x 8 0==List.getD y 8 0&&(List.getD x 9 0==List.getD y 9 0&&(List.getD x 10 0==List.getD y 10 0&&(List.getD x 11 0==List.getD y 11 0&&(List.getD x 12 0==List.getD y 12 0&&(List.getD x 13 0==List.getD y 13 0&&(List.getD x 14 0==List.getD y 14 0&&(List.getD x 15 0==List.getD y 15 0&&(List.getD x 16 0==List.getD y 16 0&&(List.getD x 17 0==List.getD y 17 0&&(List.getD x 18 0==List.getD y 18 0&&(List.getD x 19 0==List.getD y 19 0&&(List.getD x 20 0==List.getD y 20 0&&(List.getD x 21 0==List.getD y 21 0&&(List.getD x 22 0==List.getD y 22 0&&(List.getD x 23 0==List.getD y 23 0&&(List.getD x 24 0==List.getD y 24 0&&(List.getD x 25 0==List.getD y 25 0&&(List.getD x 26 0==List.getD y 26 0&&(List.getD x 27 0==List.getD y 27 0&&(List.getD x 28 0==List.getD y 28 0&&(List.getD x 29 0==List.getD y 29 0&&(List.getD x 30 0==List.getD y 30 0&&(List.getD x 31 0==List.getD y 31 0&&true))))))))))))))))))))))))))))))))
def e32q (x y:List Int):Prop:=List.getD x 0 0=List.getD y 0 0/\List.getD x 1 0=List.getD y 1 0/\List.getD x 2 0=List.getD y 2 0/\List.getD x 3 0=List.getD y 3 0/\List.getD x 4 0=List.getD y 4 0/\List.getD x 5 0=List.getD y 5 0/\List.getD x 6 0=List.getD y 6 0/\List.getD x 7 0=List.getD y 7 0/\List.getD x 8 0=List.getD y 8 0/\List.getD x 9 0=List.getD y 9 0/\List.getD x 10 0=List.getD y 10 0/\List.getD x 11 0=List.getD y 11 0/\List.getD x 12 0=List.getD y 12 0/\List.getD x 13 0=List.getD y 13 0/\List.getD x 14 0=List.getD y 14 0/\List.getD x 15 0=List.getD y 15 0/\List.getD x 16 0=List.getD y 16 0/\List.getD x 17 0=List.getD y 17 0/\List.getD x 18 0=List.getD y 18 0/\List.getD x 19 0=List.getD y 19 0/\List.getD x 20 0=List.getD y 20 0/\List.getD x 21 0=List.getD y 21 0/\List.getD x 22 0=List.getD y 22 0/\List.getD x 23 0=List.getD y 23 0/\List.getD x 24 0=List.getD y 24 0/\List.getD x 25 0=List.getD y 25 0/\List.getD x 26 0=List.getD y 26 0/\List.getD x 27 0=List.getD y 27 0/\List.getD x 28 0=List.getD y 28 0/\List.getD x 29 0=List.getD y 29 0/\List.getD x 30 0=List.getD y 30 0/\List.getD x 31 0=List.getD y 31 0/\True
theorem e32r (x:List Int):e32q x x:=by
 unfold e32q
 repeat' (first|exact rfl|exact trivial|apply And.intro)
def z00:Prop:=(0:Int)=(0:Int)/\(0:Int)=(0:Int)/\(0:Int)=(0:Int)/\(0:Int)=(0:Int)/\(0:Int)=(0:Int)/\(0:Int)=(0:Int)/\(0:Int)=(0:Int)/\(0:Int)=(0:Int)/\(0:Int)=(0:Int)/\(0:Int)=(0:Int)/\(0:Int)=(0:Int)/\(0:Int)=(0:Int)/\(0:Int)=(0:Int)/\(0:Int)=(0:Int)/\(0:Int)=(0:Int)/\(0:Int)=(0:Int)/\(0:Int)=(0:Int)/\(0:Int)=(0:Int)/\(0:Int)=(0:Int)/\(0:Int)=(0:Int)/\(0:Int)=(0:Int)/\(0:Int)=(0:Int)/\(0:Int)=(0:Int)/\(0:Int)=(0:Int)/\(0:Int)=(0:Int)/\(0:Int)=(0:Int)/\(0:Int)=(0:Int)/\(0:Int)=(0:Int)/\(0:Int)=(0:Int)/\(0:Int)=(0:Int)/\(0:Int)=(0:Int)/\(0:Int)=(0:Int)/\True
theorem Zxs:z00=True:=eq_true (by
 unfold z00
 repeat' (first|exact rfl|exact trivial|apply And.intro))
def h8q (x:List Int):List Int:= [List.getD x 0 0,List.getD x 1 0,List.getD x 2 0,List.getD x 3 0,List.getD x 4 0,List.getD x 5 0,List.getD x 6 0,List.getD x 7 0]
theorem Zu8 (ps:List (List Int)) (d:List Int):Zm E2 F20 (vc E2 F20 400) 76 [.psl Th.byss ps false] hp0 0 (fun r=>ret E2 (patch hp0 0 r) r.v (Zp d))=(
 ∃(R:Bool->DX->Prop),((∃(x:DX),R true x/\true=true/\((0:Nat)=(0:Nat)/\Value.slice none (0:Nat) (0:Nat)=Value.slice none (0:Nat) (0:Nat)/\(ps=ps/\
 (false=true->false=true))/\(↑(List.length ps):Int)=(↑(List.length ps):Int)/\(0:Int)=(↑(DX.k x):Int)/\True)/\z00/\True)\/∃(x:DX),R false x/\true=true/\
 False)/\(∀(x:DX),R true x->(decide ((↑(DX.k x):Int)<(↑(List.length ps):Int))=true->(0:Int)<=(↑(DX.k x):Int)/\(↑(DX.k x):Int)+(1:Int)<=(↑(List.length ps)
 :Int)/\∀(x_1:List Int),ps[Int.toNat (↑(DX.k x):Int)]? =some x_1->(x_1=([]:List Int)->(∃(x':DX),R true x'/\x'.2+(1:Nat)<=x.2/\true=true/\((0:Nat)=(0
 :Nat)/\Value.slice none (0:Nat) (0:Nat)=Value.slice none (0:Nat) (0:Nat)/\(ps=ps/\(false=true->false=true))/\(↑(List.length ps):Int)=(↑(List.length ps):
 Int)/\wr IntKind.i64 ((↑(DX.k x):Int)+(1:Int))=(↑(DX.k x'):Int)/\True)/\z00/\True)\/∃(x':DX),R false x'/\x'.2+(1:Nat)<=x.2/\true=true/\False)/\(x_1≠
 ([]:List Int)->List.length x_1*(1:Nat)<=(140737488355328:Nat)/\((∃(x':DX),R true x'/\x'.2+(1:Nat)<=x.2/\true=true/\((0:Nat)=(0:Nat)/\False/\(ps=
 ps/\(false=true->false=true))/\(↑(List.length ps):Int)=(↑(List.length ps):Int)/\wr IntKind.i64 ((↑(DX.k x):Int)+(1:Int))=(↑(DX.k x'):Int)/\True)/\z00/\
 True)\/∃(x':DX),R false x'/\x'.2+(1:Nat)<=x.2/\true=true/\((0:Nat)=(0:Nat)/\((0:Nat)=(0:Nat)/\List.length x_1=List.length (DX.D x')/\True)/\(ps=
 ps/\(false=true->false=true))/\(↑(List.length ps):Int)=(↑(List.length ps):Int)/\wr IntKind.i64 ((↑(DX.k x):Int)+(1:Int))=(↑(DX.k x'):Int)/\True)/\(x_1=
 DX.D x'/\(0:Nat)=(0:Nat))/\z00/\True)))/\(decide ((↑(DX.k x):Int)<(↑(List.length ps):Int))=false->∃(R:DX->Prop),(∃(x:DX),R x/\true=true/\((0:Nat)
 =(0:Nat)/\((0:Nat)=(0:Nat)/\(1:Nat)=List.length (DX.D x)/\True)/\(0:Int)=(0:Int)/\True)/\([(128:Int)]=DX.D x/\(0:Nat)=(0:Nat))/\z00/\True)/\∀
 (x:DX),R x->((Int.tmod (↑(List.length (DX.D x)):Int) (64:Int) !=(56:Int))=true->(List.length (DX.D x)<=List.length (DX.D x)/\(0:Nat)<=List.length (DX.D x)/\
 (List.length (DX.D x)+(1:Nat))*(1:Nat)<=(140737488355328:Nat))/\∃(x':DX),R x'/\x'.2+(1:Nat)<=x.2/\true=true/\((0:Nat)=(0:Nat)/\((0:Nat)=(0:
 Nat)/\List.length (DX.D x)+(1:Nat)=List.length (DX.D x')/\True)/\(0:Int)=(0:Int)/\True)/\(List.take (List.length (DX.D x)) (DX.D x)++ [(0:Int)]=DX.D x'/\(0:
 Nat)=(0:Nat))/\z00/\True)/\((Int.tmod (↑(List.length (DX.D x)):Int) (64:Int) !=(56:Int))=false->∃(R:DX->Prop),(∃(x_1:DX),R x_1/\true=true/\((0:Nat)
 =(0:Nat)/\((0:Nat)=(0:Nat)/\List.length (DX.D x)=List.length (DX.D x_1)/\True)/\(0:Int)=(0:Int)/\(56:Int)=DX.j x_1/\True)/\(DX.D x=DX.D x_1/\(0:
 Nat)=(0:Nat))/\z00/\True)/\∀(x:DX),R x->(decide (DX.j x>=(0:Int))=true->(0:Int)<=DX.j x/\(List.length (DX.D x)<=List.length (DX.D x)/\(0:Nat)<=
 List.length (DX.D x)/\(List.length (DX.D x)+(1:Nat))*(1:Nat)<=(140737488355328:Nat))/\∃(x':DX),R x'/\x'.2+(1:Nat)<=x.2/\true=true/\((0:Nat)=(0:Nat)
 /\((0:Nat)=(0:Nat)/\List.length (DX.D x)+(1:Nat)=List.length (DX.D x')/\True)/\(0:Int)=(0:Int)/\wr IntKind.i64 (DX.j x-(8:Int))=DX.j x'/\True)/\
 (List.take (List.length (DX.D x)) (DX.D x)++ [wr IntKind.u8 (Int.fdiv (0:Int) ((2:Int)^min (Int.toNat (DX.j x)) (IntKind.bits IntKind.u64)))]=DX.D x'/\(0:Nat)=(0:
 Nat))/\z00/\True)/\(decide (DX.j x>=(0:Int))=false->∃(R:Bool->DX->Prop),((∃(x_1:DX),R true x_1/\true=true/\((0:Nat)=(0:Nat)/\((0:Nat)=DX.n x_1/\
 List.length (DX.D x)=DX.m x_1/\True)/\(0:Nat)=(0:Nat)/\True)/\((1779033703:Int)=List.getD (DX.H x_1) (0:Nat) (0:Int)/\(3144134277:Int)=List.getD (DX.H x_1)
 (1:Nat) (0:Int)/\(1013904242:Int)=List.getD (DX.H x_1) (2:Nat) (0:Int)/\(2773480762:Int)=List.getD (DX.H x_1) (3:Nat) (0:Int)/\(1359893119:Int)=List.getD
 (DX.H x_1) (4:Nat) (0:Int)/\(2600822924:Int)=List.getD (DX.H x_1) (5:Nat) (0:Int)/\(528734635:Int)=List.getD (DX.H x_1) (6:Nat) (0:Int)/\(1541459225:Int)=
 List.getD (DX.H x_1) (7:Nat) (0:Int)/\True)/\(DX.D x=DX.D x/\(0:Nat)=DX.fz x_1)/\z00/\True)\/∃(x:DX),R false x/\true=true/\((0:Nat)=(0:Nat)/\False/\
 (0:Nat)=(0:Nat)/\True)/\((1779033703:Int)=List.getD (DX.H x) (0:Nat) (0:Int)/\(3144134277:Int)=List.getD (DX.H x) (1:Nat) (0:Int)/\(1013904242:Int)=
 List.getD (DX.H x) (2:Nat) (0:Int)/\(2773480762:Int)=List.getD (DX.H x) (3:Nat) (0:Int)/\(1359893119:Int)=List.getD (DX.H x) (4:Nat) (0:Int)/\(2600822924:
 Int)=List.getD (DX.H x) (5:Nat) (0:Int)/\(528734635:Int)=List.getD (DX.H x) (6:Nat) (0:Int)/\(1541459225:Int)=List.getD (DX.H x) (7:Nat) (0:Int)/\True)/\
 z00/\True)/\(∀(x_1:DX),R true x_1->(decide ((↑(DX.m x_1):Int)>(0:Int))=true->((0:Int)<=(64:Int)/\(64:Int)<=(↑(DX.m x_1):Int))/\DX.n x_1+Int.toNat (64
 :Int)<=List.length (DX.D x)/\((8:Nat)=(8:Nat)/\List.length (List.take (Int.toNat (64:Int)) (List.drop (DX.n x_1) (DX.D x)))=(64:Nat))/\((0:Int)<=(64:Int)/\
 (64:Int)<=(↑(DX.m x_1):Int))/\(decide ((64:Int)<(↑(DX.m x_1):Int))=true->(∃(x':DX),R true x'/\x'.2+(1:Nat)<=x_1.2/\true=true/\((0:Nat)=(0:Nat)/\
 (DX.n x_1+Int.toNat (64:Int)=DX.n x'/\DX.m x_1-Int.toNat (64:Int)=DX.m x'/\True)/\(0:Nat)=(0:Nat)/\True)/\(List.getD (blkF (h8q (DX.H x_1)) (List.take
 (Int.toNat (64:Int)) (List.drop (DX.n x_1) (DX.D x)))) (0:Nat) (0:Int)=List.getD (DX.H x') (0:Nat) (0:Int)/\List.getD (blkF (h8q (DX.H x_1)) (List.take (Int.toNat (64
 :Int)) (List.drop (DX.n x_1) (DX.D x)))) (1:Nat) (0:Int)=List.getD (DX.H x') (1:Nat) (0:Int)/\List.getD (blkF (h8q (DX.H x_1)) (List.take (Int.toNat (64:Int))
 (List.drop (DX.n x_1) (DX.D x)))) (2:Nat) (0:Int)=List.getD (DX.H x') (2:Nat) (0:Int)/\List.getD (blkF (h8q (DX.H x_1)) (List.take (Int.toNat (64:Int)) (List.drop
 (DX.n x_1) (DX.D x)))) (3:Nat) (0:Int)=List.getD (DX.H x') (3:Nat) (0:Int)/\List.getD (blkF (h8q (DX.H x_1)) (List.take (Int.toNat (64:Int)) (List.drop (DX.n x_1)
 (DX.D x)))) (4:Nat) (0:Int)=List.getD (DX.H x') (4:Nat) (0:Int)/\List.getD (blkF (h8q (DX.H x_1)) (List.take (Int.toNat (64:Int)) (List.drop (DX.n x_1) (DX.D x)))) (5
 :Nat) (0:Int)=List.getD (DX.H x') (5:Nat) (0:Int)/\List.getD (blkF (h8q (DX.H x_1)) (List.take (Int.toNat (64:Int)) (List.drop (DX.n x_1) (DX.D x)))) (6:Nat) (0:
 Int)=List.getD (DX.H x') (6:Nat) (0:Int)/\List.getD (blkF (h8q (DX.H x_1)) (List.take (Int.toNat (64:Int)) (List.drop (DX.n x_1) (DX.D x)))) (7:Nat) (0:Int)=
 List.getD (DX.H x') (7:Nat) (0:Int)/\True)/\(DX.D x=DX.D x/\mx2 (DX.fz x_1) (List.length (DX.D x))=DX.fz x')/\z00/\True)\/∃(x':DX),R false x'/\x'.2+(1:Nat)<=
 x_1.2/\true=true/\((0:Nat)=(0:Nat)/\False/\(0:Nat)=(0:Nat)/\True)/\(List.getD (blkF (h8q (DX.H x_1)) (List.take (Int.toNat (64:Int)) (List.drop (DX.n x_1)
 (DX.D x)))) (0:Nat) (0:Int)=List.getD (DX.H x') (0:Nat) (0:Int)/\List.getD (blkF (h8q (DX.H x_1)) (List.take (Int.toNat (64:Int)) (List.drop (DX.n x_1) (DX.D x)))) (1
 :Nat) (0:Int)=List.getD (DX.H x') (1:Nat) (0:Int)/\List.getD (blkF (h8q (DX.H x_1)) (List.take (Int.toNat (64:Int)) (List.drop (DX.n x_1) (DX.D x)))) (2:Nat) (0:
 Int)=List.getD (DX.H x') (2:Nat) (0:Int)/\List.getD (blkF (h8q (DX.H x_1)) (List.take (Int.toNat (64:Int)) (List.drop (DX.n x_1) (DX.D x)))) (3:Nat) (0:Int)=
 List.getD (DX.H x') (3:Nat) (0:Int)/\List.getD (blkF (h8q (DX.H x_1)) (List.take (Int.toNat (64:Int)) (List.drop (DX.n x_1) (DX.D x)))) (4:Nat) (0:Int)=List.getD (DX.H
 x') (4:Nat) (0:Int)/\List.getD (blkF (h8q (DX.H x_1)) (List.take (Int.toNat (64:Int)) (List.drop (DX.n x_1) (DX.D x)))) (5:Nat) (0:Int)=List.getD (DX.H x') (5:Nat)
 (0:Int)/\List.getD (blkF (h8q (DX.H x_1)) (List.take (Int.toNat (64:Int)) (List.drop (DX.n x_1) (DX.D x)))) (6:Nat) (0:Int)=List.getD (DX.H x') (6:Nat) (0:Int)/\
 List.getD (blkF (h8q (DX.H x_1)) (List.take (Int.toNat (64:Int)) (List.drop (DX.n x_1) (DX.D x)))) (7:Nat) (0:Int)=List.getD (DX.H x') (7:Nat) (0:Int)/\True)/\z00/\
 True)/\(decide ((64:Int)<(↑(DX.m x_1):Int))=false->(∃(x':DX),R true x'/\x'.2+(1:Nat)<=x_1.2/\true=true/\((0:Nat)=(0:Nat)/\False/\(0:Nat)=(0:
 Nat)/\True)/\(List.getD (blkF (h8q (DX.H x_1)) (List.take (Int.toNat (64:Int)) (List.drop (DX.n x_1) (DX.D x)))) (0:Nat) (0:Int)=List.getD (DX.H x') (0:Nat) (0:Int)/\
 List.getD (blkF (h8q (DX.H x_1)) (List.take (Int.toNat (64:Int)) (List.drop (DX.n x_1) (DX.D x)))) (1:Nat) (0:Int)=List.getD (DX.H x') (1:Nat) (0:Int)/\List.getD (blkF
 (h8q (DX.H x_1)) (List.take (Int.toNat (64:Int)) (List.drop (DX.n x_1) (DX.D x)))) (2:Nat) (0:Int)=List.getD (DX.H x') (2:Nat) (0:Int)/\List.getD (blkF (h8q (DX.H
 x_1)) (List.take (Int.toNat (64:Int)) (List.drop (DX.n x_1) (DX.D x)))) (3:Nat) (0:Int)=List.getD (DX.H x') (3:Nat) (0:Int)/\List.getD (blkF (h8q (DX.H x_1))
 (List.take (Int.toNat (64:Int)) (List.drop (DX.n x_1) (DX.D x)))) (4:Nat) (0:Int)=List.getD (DX.H x') (4:Nat) (0:Int)/\List.getD (blkF (h8q (DX.H x_1)) (List.take
 (Int.toNat (64:Int)) (List.drop (DX.n x_1) (DX.D x)))) (5:Nat) (0:Int)=List.getD (DX.H x') (5:Nat) (0:Int)/\List.getD (blkF (h8q (DX.H x_1)) (List.take (Int.toNat (64
 :Int)) (List.drop (DX.n x_1) (DX.D x)))) (6:Nat) (0:Int)=List.getD (DX.H x') (6:Nat) (0:Int)/\List.getD (blkF (h8q (DX.H x_1)) (List.take (Int.toNat (64:Int))
 (List.drop (DX.n x_1) (DX.D x)))) (7:Nat) (0:Int)=List.getD (DX.H x') (7:Nat) (0:Int)/\True)/\(DX.D x=DX.D x/\mx2 (DX.fz x_1) (List.length (DX.D x))=DX.fz x')/\
 z00/\True)\/∃(x':DX),R false x'/\x'.2+(1:Nat)<=x_1.2/\true=true/\((0:Nat)=(0:Nat)/\(([]:List Int)=([]:List Int)/\(false=true->false=true))/\(0:
 Nat)=(0:Nat)/\True)/\(List.getD (blkF (h8q (DX.H x_1)) (List.take (Int.toNat (64:Int)) (List.drop (DX.n x_1) (DX.D x)))) (0:Nat) (0:Int)=List.getD (DX.H x') (0:Nat)
 (0:Int)/\List.getD (blkF (h8q (DX.H x_1)) (List.take (Int.toNat (64:Int)) (List.drop (DX.n x_1) (DX.D x)))) (1:Nat) (0:Int)=List.getD (DX.H x') (1:Nat) (0:Int)/\
 List.getD (blkF (h8q (DX.H x_1)) (List.take (Int.toNat (64:Int)) (List.drop (DX.n x_1) (DX.D x)))) (2:Nat) (0:Int)=List.getD (DX.H x') (2:Nat) (0:Int)/\List.getD (blkF
 (h8q (DX.H x_1)) (List.take (Int.toNat (64:Int)) (List.drop (DX.n x_1) (DX.D x)))) (3:Nat) (0:Int)=List.getD (DX.H x') (3:Nat) (0:Int)/\List.getD (blkF (h8q (DX.H
 x_1)) (List.take (Int.toNat (64:Int)) (List.drop (DX.n x_1) (DX.D x)))) (4:Nat) (0:Int)=List.getD (DX.H x') (4:Nat) (0:Int)/\List.getD (blkF (h8q (DX.H x_1))
 (List.take (Int.toNat (64:Int)) (List.drop (DX.n x_1) (DX.D x)))) (5:Nat) (0:Int)=List.getD (DX.H x') (5:Nat) (0:Int)/\List.getD (blkF (h8q (DX.H x_1)) (List.take
 (Int.toNat (64:Int)) (List.drop (DX.n x_1) (DX.D x)))) (6:Nat) (0:Int)=List.getD (DX.H x') (6:Nat) (0:Int)/\List.getD (blkF (h8q (DX.H x_1)) (List.take (Int.toNat (64
 :Int)) (List.drop (DX.n x_1) (DX.D x)))) (7:Nat) (0:Int)=List.getD (DX.H x') (7:Nat) (0:Int)/\True)/\z00/\True))/\(decide ((↑(DX.m x_1):Int)>(0:Int))=false->
 wr IntKind.u8 (Int.fdiv (List.getD (DX.H x_1) (0:Nat) (0:Int)) ((2:Int)^min (Int.toNat (24:Int)) (IntKind.bits IntKind.u32)))=List.getD d (0:Nat) (0:Int)/\wr
 IntKind.u8 (Int.fdiv (List.getD (DX.H x_1) (0:Nat) (0:Int)) ((2:Int)^min (Int.toNat (16:Int)) (IntKind.bits IntKind.u32)))=List.getD d (1:Nat) (0:Int)/\wr
 IntKind.u8 (Int.fdiv (List.getD (DX.H x_1) (0:Nat) (0:Int)) ((2:Int)^min (Int.toNat (8:Int)) (IntKind.bits IntKind.u32)))=List.getD d (2:Nat) (0:Int)/\wr
 IntKind.u8 (Int.fdiv (List.getD (DX.H x_1) (0:Nat) (0:Int)) ((2:Int)^min (Int.toNat (0:Int)) (IntKind.bits IntKind.u32)))=List.getD d (3:Nat) (0:Int)/\wr
 IntKind.u8 (Int.fdiv (List.getD (DX.H x_1) (1:Nat) (0:Int)) ((2:Int)^min (Int.toNat (24:Int)) (IntKind.bits IntKind.u32)))=List.getD d (4:Nat) (0:Int)/\wr
 IntKind.u8 (Int.fdiv (List.getD (DX.H x_1) (1:Nat) (0:Int)) ((2:Int)^min (Int.toNat (16:Int)) (IntKind.bits IntKind.u32)))=List.getD d (5:Nat) (0:Int)/\wr
 IntKind.u8 (Int.fdiv (List.getD (DX.H x_1) (1:Nat) (0:Int)) ((2:Int)^min (Int.toNat (8:Int)) (IntKind.bits IntKind.u32)))=List.getD d (6:Nat) (0:Int)/\wr
 IntKind.u8 (Int.fdiv (List.getD (DX.H x_1) (1:Nat) (0:Int)) ((2:Int)^min (Int.toNat (0:Int)) (IntKind.bits IntKind.u32)))=List.getD d (7:Nat) (0:Int)/\wr
 IntKind.u8 (Int.fdiv (List.getD (DX.H x_1) (2:Nat) (0:Int)) ((2:Int)^min (Int.toNat (24:Int)) (IntKind.bits IntKind.u32)))=List.getD d (8:Nat) (0:Int)/\wr
 IntKind.u8 (Int.fdiv (List.getD (DX.H x_1) (2:Nat) (0:Int)) ((2:Int)^min (Int.toNat (16:Int)) (IntKind.bits IntKind.u32)))=List.getD d (9:Nat) (0:Int)/\wr
 IntKind.u8 (Int.fdiv (List.getD (DX.H x_1) (2:Nat) (0:Int)) ((2:Int)^min (Int.toNat (8:Int)) (IntKind.bits IntKind.u32)))=List.getD d (10:Nat) (0:Int)/\wr
 IntKind.u8 (Int.fdiv (List.getD (DX.H x_1) (2:Nat) (0:Int)) ((2:Int)^min (Int.toNat (0:Int)) (IntKind.bits IntKind.u32)))=List.getD d (11:Nat) (0:Int)/\wr
 IntKind.u8 (Int.fdiv (List.getD (DX.H x_1) (3:Nat) (0:Int)) ((2:Int)^min (Int.toNat (24:Int)) (IntKind.bits IntKind.u32)))=List.getD d (12:Nat) (0:Int)/\wr
 IntKind.u8 (Int.fdiv (List.getD (DX.H x_1) (3:Nat) (0:Int)) ((2:Int)^min (Int.toNat (16:Int)) (IntKind.bits IntKind.u32)))=List.getD d (13:Nat) (0:Int)/\wr
 IntKind.u8 (Int.fdiv (List.getD (DX.H x_1) (3:Nat) (0:Int)) ((2:Int)^min (Int.toNat (8:Int)) (IntKind.bits IntKind.u32)))=List.getD d (14:Nat) (0:Int)/\wr
 IntKind.u8 (Int.fdiv (List.getD (DX.H x_1) (3:Nat) (0:Int)) ((2:Int)^min (Int.toNat (0:Int)) (IntKind.bits IntKind.u32)))=List.getD d (15:Nat) (0:Int)/\wr
 IntKind.u8 (Int.fdiv (List.getD (DX.H x_1) (4:Nat) (0:Int)) ((2:Int)^min (Int.toNat (24:Int)) (IntKind.bits IntKind.u32)))=List.getD d (16:Nat) (0:Int)/\wr
 IntKind.u8 (Int.fdiv (List.getD (DX.H x_1) (4:Nat) (0:Int)) ((2:Int)^min (Int.toNat (16:Int)) (IntKind.bits IntKind.u32)))=List.getD d (17:Nat) (0:Int)/\wr
 IntKind.u8 (Int.fdiv (List.getD (DX.H x_1) (4:Nat) (0:Int)) ((2:Int)^min (Int.toNat (8:Int)) (IntKind.bits IntKind.u32)))=List.getD d (18:Nat) (0:Int)/\wr
 IntKind.u8 (Int.fdiv (List.getD (DX.H x_1) (4:Nat) (0:Int)) ((2:Int)^min (Int.toNat (0:Int)) (IntKind.bits IntKind.u32)))=List.getD d (19:Nat) (0:Int)/\wr
 IntKind.u8 (Int.fdiv (List.getD (DX.H x_1) (5:Nat) (0:Int)) ((2:Int)^min (Int.toNat (24:Int)) (IntKind.bits IntKind.u32)))=List.getD d (20:Nat) (0:Int)/\wr
 IntKind.u8 (Int.fdiv (List.getD (DX.H x_1) (5:Nat) (0:Int)) ((2:Int)^min (Int.toNat (16:Int)) (IntKind.bits IntKind.u32)))=List.getD d (21:Nat) (0:Int)/\wr
 IntKind.u8 (Int.fdiv (List.getD (DX.H x_1) (5:Nat) (0:Int)) ((2:Int)^min (Int.toNat (8:Int)) (IntKind.bits IntKind.u32)))=List.getD d (22:Nat) (0:Int)/\wr
 IntKind.u8 (Int.fdiv (List.getD (DX.H x_1) (5:Nat) (0:Int)) ((2:Int)^min (Int.toNat (0:Int)) (IntKind.bits IntKind.u32)))=List.getD d (23:Nat) (0:Int)/\wr
 IntKind.u8 (Int.fdiv (List.getD (DX.H x_1) (6:Nat) (0:Int)) ((2:Int)^min (Int.toNat (24:Int)) (IntKind.bits IntKind.u32)))=List.getD d (24:Nat) (0:Int)/\wr
 IntKind.u8 (Int.fdiv (List.getD (DX.H x_1) (6:Nat) (0:Int)) ((2:Int)^min (Int.toNat (16:Int)) (IntKind.bits IntKind.u32)))=List.getD d (25:Nat) (0:Int)/\wr
 IntKind.u8 (Int.fdiv (List.getD (DX.H x_1) (6:Nat) (0:Int)) ((2:Int)^min (Int.toNat (8:Int)) (IntKind.bits IntKind.u32)))=List.getD d (26:Nat) (0:Int)/\wr
 IntKind.u8 (Int.fdiv (List.getD (DX.H x_1) (6:Nat) (0:Int)) ((2:Int)^min (Int.toNat (0:Int)) (IntKind.bits IntKind.u32)))=List.getD d (27:Nat) (0:Int)/\wr
 IntKind.u8 (Int.fdiv (List.getD (DX.H x_1) (7:Nat) (0:Int)) ((2:Int)^min (Int.toNat (24:Int)) (IntKind.bits IntKind.u32)))=List.getD d (28:Nat) (0:Int)/\wr
 IntKind.u8 (Int.fdiv (List.getD (DX.H x_1) (7:Nat) (0:Int)) ((2:Int)^min (Int.toNat (16:Int)) (IntKind.bits IntKind.u32)))=List.getD d (29:Nat) (0:Int)/\wr
 IntKind.u8 (Int.fdiv (List.getD (DX.H x_1) (7:Nat) (0:Int)) ((2:Int)^min (Int.toNat (8:Int)) (IntKind.bits IntKind.u32)))=List.getD d (30:Nat) (0:Int)/\wr
 IntKind.u8 (Int.fdiv (List.getD (DX.H x_1) (7:Nat) (0:Int)) ((2:Int)^min (Int.toNat (0:Int)) (IntKind.bits IntKind.u32)))=List.getD d (31:Nat) (0:Int)/\True))/\∀
 (x:DX),R false x->(decide ((↑(0:Nat):Int)>(0:Int))=true->((0:Int)<=(64:Int)/\(64:Int)<=(↑(0:Nat):Int))/\((8:Nat)=(8:Nat)/\List.length (List.take
 (Int.toNat (64:Int)) ([]:List Int))=(64:Nat))/\((0:Int)<=(64:Int)/\(64:Int)<=(↑(0:Nat):Int))/\((∃(x':DX),R true x'/\x'.2+(1:Nat)<=x.2/\true=true
 /\((0:Nat)=(0:Nat)/\False/\(0:Nat)=(0:Nat)/\True)/\(List.getD (blkF (h8q (DX.H x)) (List.take (Int.toNat (64:Int)) ([]:List Int))) (0:Nat) (0:Int)=
 List.getD (DX.H x') (0:Nat) (0:Int)/\List.getD (blkF (h8q (DX.H x)) (List.take (Int.toNat (64:Int)) ([]:List Int))) (1:Nat) (0:Int)=List.getD (DX.H x') (1:Nat) (0
 :Int)/\List.getD (blkF (h8q (DX.H x)) (List.take (Int.toNat (64:Int)) ([]:List Int))) (2:Nat) (0:Int)=List.getD (DX.H x') (2:Nat) (0:Int)/\List.getD (blkF (h8q
 (DX.H x)) (List.take (Int.toNat (64:Int)) ([]:List Int))) (3:Nat) (0:Int)=List.getD (DX.H x') (3:Nat) (0:Int)/\List.getD (blkF (h8q (DX.H x)) (List.take (Int.toNat
 (64:Int)) ([]:List Int))) (4:Nat) (0:Int)=List.getD (DX.H x') (4:Nat) (0:Int)/\List.getD (blkF (h8q (DX.H x)) (List.take (Int.toNat (64:Int)) ([]:List Int))) (5
 :Nat) (0:Int)=List.getD (DX.H x') (5:Nat) (0:Int)/\List.getD (blkF (h8q (DX.H x)) (List.take (Int.toNat (64:Int)) ([]:List Int))) (6:Nat) (0:Int)=List.getD
 (DX.H x') (6:Nat) (0:Int)/\List.getD (blkF (h8q (DX.H x)) (List.take (Int.toNat (64:Int)) ([]:List Int))) (7:Nat) (0:Int)=List.getD (DX.H x') (7:Nat) (0:Int)/\
 True)/\False/\z00/\True)\/∃(x':DX),R false x'/\x'.2+(1:Nat)<=x.2/\true=true/\((0:Nat)=(0:Nat)/\(List.drop (Int.toNat (64:Int)) ([]:List Int)=([]:
 List Int)/\(false=true->false=true))/\(0:Nat)=(0:Nat)/\True)/\(List.getD (blkF (h8q (DX.H x)) (List.take (Int.toNat (64:Int)) ([]:List Int))) (0:Nat) (0:Int)
 =List.getD (DX.H x') (0:Nat) (0:Int)/\List.getD (blkF (h8q (DX.H x)) (List.take (Int.toNat (64:Int)) ([]:List Int))) (1:Nat) (0:Int)=List.getD (DX.H x') (1:Nat)
 (0:Int)/\List.getD (blkF (h8q (DX.H x)) (List.take (Int.toNat (64:Int)) ([]:List Int))) (2:Nat) (0:Int)=List.getD (DX.H x') (2:Nat) (0:Int)/\List.getD (blkF (h8q
 (DX.H x)) (List.take (Int.toNat (64:Int)) ([]:List Int))) (3:Nat) (0:Int)=List.getD (DX.H x') (3:Nat) (0:Int)/\List.getD (blkF (h8q (DX.H x)) (List.take (Int.toNat
 (64:Int)) ([]:List Int))) (4:Nat) (0:Int)=List.getD (DX.H x') (4:Nat) (0:Int)/\List.getD (blkF (h8q (DX.H x)) (List.take (Int.toNat (64:Int)) ([]:List Int))) (5
 :Nat) (0:Int)=List.getD (DX.H x') (5:Nat) (0:Int)/\List.getD (blkF (h8q (DX.H x)) (List.take (Int.toNat (64:Int)) ([]:List Int))) (6:Nat) (0:Int)=List.getD
 (DX.H x') (6:Nat) (0:Int)/\List.getD (blkF (h8q (DX.H x)) (List.take (Int.toNat (64:Int)) ([]:List Int))) (7:Nat) (0:Int)=List.getD (DX.H x') (7:Nat) (0:Int)/\
 True)/\z00/\True))/\(decide ((↑(0:Nat):Int)>(0:Int))=false->wr IntKind.u8 (Int.fdiv (List.getD (DX.H x) (0:Nat) (0:Int)) ((2:Int)^min (Int.toNat (24:Int))
 (IntKind.bits IntKind.u32)))=List.getD d (0:Nat) (0:Int)/\wr IntKind.u8 (Int.fdiv (List.getD (DX.H x) (0:Nat) (0:Int)) ((2:Int)^min (Int.toNat (16:Int))
 (IntKind.bits IntKind.u32)))=List.getD d (1:Nat) (0:Int)/\wr IntKind.u8 (Int.fdiv (List.getD (DX.H x) (0:Nat) (0:Int)) ((2:Int)^min (Int.toNat (8:Int))
 (IntKind.bits IntKind.u32)))=List.getD d (2:Nat) (0:Int)/\wr IntKind.u8 (Int.fdiv (List.getD (DX.H x) (0:Nat) (0:Int)) ((2:Int)^min (Int.toNat (0:Int))
 (IntKind.bits IntKind.u32)))=List.getD d (3:Nat) (0:Int)/\wr IntKind.u8 (Int.fdiv (List.getD (DX.H x) (1:Nat) (0:Int)) ((2:Int)^min (Int.toNat (24:Int))
 (IntKind.bits IntKind.u32)))=List.getD d (4:Nat) (0:Int)/\wr IntKind.u8 (Int.fdiv (List.getD (DX.H x) (1:Nat) (0:Int)) ((2:Int)^min (Int.toNat (16:Int))
 (IntKind.bits IntKind.u32)))=List.getD d (5:Nat) (0:Int)/\wr IntKind.u8 (Int.fdiv (List.getD (DX.H x) (1:Nat) (0:Int)) ((2:Int)^min (Int.toNat (8:Int))
 (IntKind.bits IntKind.u32)))=List.getD d (6:Nat) (0:Int)/\wr IntKind.u8 (Int.fdiv (List.getD (DX.H x) (1:Nat) (0:Int)) ((2:Int)^min (Int.toNat (0:Int))
 (IntKind.bits IntKind.u32)))=List.getD d (7:Nat) (0:Int)/\wr IntKind.u8 (Int.fdiv (List.getD (DX.H x) (2:Nat) (0:Int)) ((2:Int)^min (Int.toNat (24:Int))
 (IntKind.bits IntKind.u32)))=List.getD d (8:Nat) (0:Int)/\wr IntKind.u8 (Int.fdiv (List.getD (DX.H x) (2:Nat) (0:Int)) ((2:Int)^min (Int.toNat (16:Int))
 (IntKind.bits IntKind.u32)))=List.getD d (9:Nat) (0:Int)/\wr IntKind.u8 (Int.fdiv (List.getD (DX.H x) (2:Nat) (0:Int)) ((2:Int)^min (Int.toNat (8:Int))
 (IntKind.bits IntKind.u32)))=List.getD d (10:Nat) (0:Int)/\wr IntKind.u8 (Int.fdiv (List.getD (DX.H x) (2:Nat) (0:Int)) ((2:Int)^min (Int.toNat (0:Int))
 (IntKind.bits IntKind.u32)))=List.getD d (11:Nat) (0:Int)/\wr IntKind.u8 (Int.fdiv (List.getD (DX.H x) (3:Nat) (0:Int)) ((2:Int)^min (Int.toNat (24:Int))
 (IntKind.bits IntKind.u32)))=List.getD d (12:Nat) (0:Int)/\wr IntKind.u8 (Int.fdiv (List.getD (DX.H x) (3:Nat) (0:Int)) ((2:Int)^min (Int.toNat (16:Int))
 (IntKind.bits IntKind.u32)))=List.getD d (13:Nat) (0:Int)/\wr IntKind.u8 (Int.fdiv (List.getD (DX.H x) (3:Nat) (0:Int)) ((2:Int)^min (Int.toNat (8:Int))
 (IntKind.bits IntKind.u32)))=List.getD d (14:Nat) (0:Int)/\wr IntKind.u8 (Int.fdiv (List.getD (DX.H x) (3:Nat) (0:Int)) ((2:Int)^min (Int.toNat (0:Int))
 (IntKind.bits IntKind.u32)))=List.getD d (15:Nat) (0:Int)/\wr IntKind.u8 (Int.fdiv (List.getD (DX.H x) (4:Nat) (0:Int)) ((2:Int)^min (Int.toNat (24:Int))
 (IntKind.bits IntKind.u32)))=List.getD d (16:Nat) (0:Int)/\wr IntKind.u8 (Int.fdiv (List.getD (DX.H x) (4:Nat) (0:Int)) ((2:Int)^min (Int.toNat (16:Int))
 (IntKind.bits IntKind.u32)))=List.getD d (17:Nat) (0:Int)/\wr IntKind.u8 (Int.fdiv (List.getD (DX.H x) (4:Nat) (0:Int)) ((2:Int)^min (Int.toNat (8:Int))
 (IntKind.bits IntKind.u32)))=List.getD d (18:Nat) (0:Int)/\wr IntKind.u8 (Int.fdiv (List.getD (DX.H x) (4:Nat) (0:Int)) ((2:Int)^min (Int.toNat (0:Int))
 (IntKind.bits IntKind.u32)))=List.getD d (19:Nat) (0:Int)/\wr IntKind.u8 (Int.fdiv (List.getD (DX.H x) (5:Nat) (0:Int)) ((2:Int)^min (Int.toNat (24:Int))
 (IntKind.bits IntKind.u32)))=List.getD d (20:Nat) (0:Int)/\wr IntKind.u8 (Int.fdiv (List.getD (DX.H x) (5:Nat) (0:Int)) ((2:Int)^min (Int.toNat (16:Int))
 (IntKind.bits IntKind.u32)))=List.getD d (21:Nat) (0:Int)/\wr IntKind.u8 (Int.fdiv (List.getD (DX.H x) (5:Nat) (0:Int)) ((2:Int)^min (Int.toNat (8:Int))
 (IntKind.bits IntKind.u32)))=List.getD d (22:Nat) (0:Int)/\wr IntKind.u8 (Int.fdiv (List.getD (DX.H x) (5:Nat) (0:Int)) ((2:Int)^min (Int.toNat (0:Int))
 (IntKind.bits IntKind.u32)))=List.getD d (23:Nat) (0:Int)/\wr IntKind.u8 (Int.fdiv (List.getD (DX.H x) (6:Nat) (0:Int)) ((2:Int)^min (Int.toNat (24:Int))
 (IntKind.bits IntKind.u32)))=List.getD d (24:Nat) (0:Int)/\wr IntKind.u8 (Int.fdiv (List.getD (DX.H x) (6:Nat) (0:Int)) ((2:Int)^min (Int.toNat (16:Int))
 (IntKind.bits IntKind.u32)))=List.getD d (25:Nat) (0:Int)/\wr IntKind.u8 (Int.fdiv (List.getD (DX.H x) (6:Nat) (0:Int)) ((2:Int)^min (Int.toNat (8:Int))
 (IntKind.bits IntKind.u32)))=List.getD d (26:Nat) (0:Int)/\wr IntKind.u8 (Int.fdiv (List.getD (DX.H x) (6:Nat) (0:Int)) ((2:Int)^min (Int.toNat (0:Int))
 (IntKind.bits IntKind.u32)))=List.getD d (27:Nat) (0:Int)/\wr IntKind.u8 (Int.fdiv (List.getD (DX.H x) (7:Nat) (0:Int)) ((2:Int)^min (Int.toNat (24:Int))
 (IntKind.bits IntKind.u32)))=List.getD d (28:Nat) (0:Int)/\wr IntKind.u8 (Int.fdiv (List.getD (DX.H x) (7:Nat) (0:Int)) ((2:Int)^min (Int.toNat (16:Int))
 (IntKind.bits IntKind.u32)))=List.getD d (29:Nat) (0:Int)/\wr IntKind.u8 (Int.fdiv (List.getD (DX.H x) (7:Nat) (0:Int)) ((2:Int)^min (Int.toNat (8:Int))
 (IntKind.bits IntKind.u32)))=List.getD d (30:Nat) (0:Int)/\wr IntKind.u8 (Int.fdiv (List.getD (DX.H x) (7:Nat) (0:Int)) ((2:Int)^min (Int.toNat (0:Int))
 (IntKind.bits IntKind.u32)))=List.getD d (31:Nat) (0:Int)/\True)))))/\∀(x:DX),R false x->(decide ((↑(DX.k x):Int)<(↑(List.length ps):Int))=true->(0:Int)<=
 (↑(DX.k x):Int)/\(↑(DX.k x):Int)+(1:Int)<=(↑(List.length ps):Int)/\∀(x_1:List Int),ps[Int.toNat (↑(DX.k x):Int)]? =some x_1->(x_1=([]:List Int)->(∃(x':
 DX),R true x'/\x'.2+(1:Nat)<=x.2/\true=true/\((0:Nat)=(0:Nat)/\False/\(ps=ps/\(false=true->false=true))/\(↑(List.length ps):Int)=(↑(List.length ps)
 :Int)/\wr IntKind.i64 ((↑(DX.k x):Int)+(1:Int))=(↑(DX.k x'):Int)/\True)/\z00/\True)\/∃(x':DX),R false x'/\x'.2+(1:Nat)<=x.2/\true=true/\((0:Nat)=
 (0:Nat)/\((0:Nat)=(0:Nat)/\List.length (DX.D x)=List.length (DX.D x')/\True)/\(ps=ps/\(false=true->false=true))/\(↑(List.length ps):Int)=(↑(List.length
 ps):Int)/\wr IntKind.i64 ((↑(DX.k x):Int)+(1:Int))=(↑(DX.k x'):Int)/\True)/\(DX.D x=DX.D x'/\(0:Nat)=(0:Nat))/\z00/\True)/\(x_1≠([]:List Int)->
 (List.length (DX.D x)<=List.length (DX.D x)/\(0:Nat)<=List.length (DX.D x)/\(List.length (DX.D x)+List.length x_1)*(1:Nat)<=(140737488355328:Nat))/\((∃(x':DX),R
 true x'/\x'.2+(1:Nat)<=x.2/\true=true/\((0:Nat)=(0:Nat)/\False/\(ps=ps/\(false=true->false=true))/\(↑(List.length ps):Int)=(↑(List.length ps):Int)
 /\wr IntKind.i64 ((↑(DX.k x):Int)+(1:Int))=(↑(DX.k x'):Int)/\True)/\z00/\True)\/∃(x':DX),R false x'/\x'.2+(1:Nat)<=x.2/\true=true/\((0:Nat)=(0:
 Nat)/\((0:Nat)=(0:Nat)/\List.length (DX.D x)+List.length x_1=List.length (DX.D x')/\True)/\(ps=ps/\(false=true->false=true))/\(↑(List.length ps):Int)=
 (↑(List.length ps):Int)/\wr IntKind.i64 ((↑(DX.k x):Int)+(1:Int))=(↑(DX.k x'):Int)/\True)/\(List.take (List.length (DX.D x)) (DX.D x)++x_1=DX.D x'/\(0:Nat)=
 (0:Nat))/\z00/\True)))/\(decide ((↑(DX.k x):Int)<(↑(List.length ps):Int))=false->(List.length (DX.D x)<=List.length (DX.D x)/\(0:Nat)<=List.length (DX.D x)/\
 (List.length (DX.D x)+(1:Nat))*(1:Nat)<=(140737488355328:Nat))/\∃(R:DX->Prop),(∃(x_1:DX),R x_1/\true=true/\((0:Nat)=(0:Nat)/\((0:Nat)=(0:Nat)
 /\List.length (DX.D x)+(1:Nat)=List.length (DX.D x_1)/\True)/\wr IntKind.u64 (wr IntKind.u64 (↑(List.length (DX.D x)):Int)*(8:Int))=wr IntKind.u64 (wr IntKind.u64
 (↑(List.length (DX.D x)):Int)*(8:Int))/\True)/\(List.take (List.length (DX.D x)) (DX.D x)++ [(128:Int)]=DX.D x_1/\(0:Nat)=(0:Nat))/\z00/\True)/\∀(x_1:DX),
 R x_1->((Int.tmod (↑(List.length (DX.D x_1)):Int) (64:Int) !=(56:Int))=true->(List.length (DX.D x_1)<=List.length (DX.D x_1)/\(0:Nat)<=List.length (DX.D x_1)/\
 (List.length (DX.D x_1)+(1:Nat))*(1:Nat)<=(140737488355328:Nat))/\∃(x':DX),R x'/\x'.2+(1:Nat)<=x_1.2/\true=true/\((0:Nat)=(0:Nat)/\((0:Nat)=(0
 :Nat)/\List.length (DX.D x_1)+(1:Nat)=List.length (DX.D x')/\True)/\wr IntKind.u64 (wr IntKind.u64 (↑(List.length (DX.D x)):Int)*(8:Int))=wr IntKind.u64 (wr
 IntKind.u64 (↑(List.length (DX.D x)):Int)*(8:Int))/\True)/\(List.take (List.length (DX.D x_1)) (DX.D x_1)++ [(0:Int)]=DX.D x'/\(0:Nat)=(0:Nat))/\z00/\True)/\
 ((Int.tmod (↑(List.length (DX.D x_1)):Int) (64:Int) !=(56:Int))=false->∃(R:DX->Prop),(∃(x_2:DX),R x_2/\true=true/\((0:Nat)=(0:Nat)/\((0:Nat)=(0:
 Nat)/\List.length (DX.D x_1)=List.length (DX.D x_2)/\True)/\wr IntKind.u64 (wr IntKind.u64 (↑(List.length (DX.D x)):Int)*(8:Int))=wr IntKind.u64 (wr IntKind.u64
 (↑(List.length (DX.D x)):Int)*(8:Int))/\(56:Int)=DX.j x_2/\True)/\(DX.D x_1=DX.D x_2/\(0:Nat)=(0:Nat))/\z00/\True)/\∀(x_2:DX),R x_2->(decide (DX.j x_2
 >=(0:Int))=true->(0:Int)<=DX.j x_2/\(List.length (DX.D x_2)<=List.length (DX.D x_2)/\(0:Nat)<=List.length (DX.D x_2)/\(List.length (DX.D x_2)+(1:Nat))*(1:
 Nat)<=(140737488355328:Nat))/\∃(x':DX),R x'/\x'.2+(1:Nat)<=x_2.2/\true=true/\((0:Nat)=(0:Nat)/\((0:Nat)=(0:Nat)/\List.length (DX.D x_2)+(1:Nat)
 =List.length (DX.D x')/\True)/\wr IntKind.u64 (wr IntKind.u64 (↑(List.length (DX.D x)):Int)*(8:Int))=wr IntKind.u64 (wr IntKind.u64 (↑(List.length (DX.D x)):Int)*(8
 :Int))/\wr IntKind.i64 (DX.j x_2-(8:Int))=DX.j x'/\True)/\(List.take (List.length (DX.D x_2)) (DX.D x_2)++ [wr IntKind.u8 (Int.fdiv (wr IntKind.u64 (wr IntKind.u64
 (↑(List.length (DX.D x)):Int)*(8:Int))) ((2:Int)^min (Int.toNat (DX.j x_2)) (IntKind.bits IntKind.u64)))]=DX.D x'/\(0:Nat)=(0:Nat))/\z00/\True)/\(decide (DX.j
 x_2>=(0:Int))=false->∃(R:Bool->DX->Prop),((∃(x:DX),R true x/\true=true/\((0:Nat)=(0:Nat)/\((0:Nat)=DX.n x/\List.length (DX.D x_2)=DX.m x/\True)/\
 (0:Nat)=(0:Nat)/\True)/\((1779033703:Int)=List.getD (DX.H x) (0:Nat) (0:Int)/\(3144134277:Int)=List.getD (DX.H x) (1:Nat) (0:Int)/\(1013904242:Int)=
 List.getD (DX.H x) (2:Nat) (0:Int)/\(2773480762:Int)=List.getD (DX.H x) (3:Nat) (0:Int)/\(1359893119:Int)=List.getD (DX.H x) (4:Nat) (0:Int)/\(2600822924:
 Int)=List.getD (DX.H x) (5:Nat) (0:Int)/\(528734635:Int)=List.getD (DX.H x) (6:Nat) (0:Int)/\(1541459225:Int)=List.getD (DX.H x) (7:Nat) (0:Int)/\True)/\
 (DX.D x_2=DX.D x_2/\(0:Nat)=DX.fz x)/\z00/\True)\/∃(x:DX),R false x/\true=true/\((0:Nat)=(0:Nat)/\False/\(0:Nat)=(0:Nat)/\True)/\((1779033703:
 Int)=List.getD (DX.H x) (0:Nat) (0:Int)/\(3144134277:Int)=List.getD (DX.H x) (1:Nat) (0:Int)/\(1013904242:Int)=List.getD (DX.H x) (2:Nat) (0:Int)/\
 (2773480762:Int)=List.getD (DX.H x) (3:Nat) (0:Int)/\(1359893119:Int)=List.getD (DX.H x) (4:Nat) (0:Int)/\(2600822924:Int)=List.getD (DX.H x) (5:Nat) (0:
 Int)/\(528734635:Int)=List.getD (DX.H x) (6:Nat) (0:Int)/\(1541459225:Int)=List.getD (DX.H x) (7:Nat) (0:Int)/\True)/\z00/\True)/\(∀(x:DX),R true x->
 (decide ((↑(DX.m x):Int)>(0:Int))=true->((0:Int)<=(64:Int)/\(64:Int)<=(↑(DX.m x):Int))/\DX.n x+Int.toNat (64:Int)<=List.length (DX.D x_2)/\((8:Nat)=
 (8:Nat)/\List.length (List.take (Int.toNat (64:Int)) (List.drop (DX.n x) (DX.D x_2)))=(64:Nat))/\((0:Int)<=(64:Int)/\(64:Int)<=(↑(DX.m x):Int))/\(decide ((64
 :Int)<(↑(DX.m x):Int))=true->(∃(x':DX),R true x'/\x'.2+(1:Nat)<=x.2/\true=true/\((0:Nat)=(0:Nat)/\(DX.n x+Int.toNat (64:Int)=DX.n x'/\DX.m x-
 Int.toNat (64:Int)=DX.m x'/\True)/\(0:Nat)=(0:Nat)/\True)/\(List.getD (blkF (h8q (DX.H x)) (List.take (Int.toNat (64:Int)) (List.drop (DX.n x) (DX.D x_2)))) (0:
 Nat) (0:Int)=List.getD (DX.H x') (0:Nat) (0:Int)/\List.getD (blkF (h8q (DX.H x)) (List.take (Int.toNat (64:Int)) (List.drop (DX.n x) (DX.D x_2)))) (1:Nat) (0:Int)=
 List.getD (DX.H x') (1:Nat) (0:Int)/\List.getD (blkF (h8q (DX.H x)) (List.take (Int.toNat (64:Int)) (List.drop (DX.n x) (DX.D x_2)))) (2:Nat) (0:Int)=List.getD (DX.H
 x') (2:Nat) (0:Int)/\List.getD (blkF (h8q (DX.H x)) (List.take (Int.toNat (64:Int)) (List.drop (DX.n x) (DX.D x_2)))) (3:Nat) (0:Int)=List.getD (DX.H x') (3:Nat) (0
 :Int)/\List.getD (blkF (h8q (DX.H x)) (List.take (Int.toNat (64:Int)) (List.drop (DX.n x) (DX.D x_2)))) (4:Nat) (0:Int)=List.getD (DX.H x') (4:Nat) (0:Int)/\
 List.getD (blkF (h8q (DX.H x)) (List.take (Int.toNat (64:Int)) (List.drop (DX.n x) (DX.D x_2)))) (5:Nat) (0:Int)=List.getD (DX.H x') (5:Nat) (0:Int)/\List.getD (blkF
 (h8q (DX.H x)) (List.take (Int.toNat (64:Int)) (List.drop (DX.n x) (DX.D x_2)))) (6:Nat) (0:Int)=List.getD (DX.H x') (6:Nat) (0:Int)/\List.getD (blkF (h8q (DX.H x))
 (List.take (Int.toNat (64:Int)) (List.drop (DX.n x) (DX.D x_2)))) (7:Nat) (0:Int)=List.getD (DX.H x') (7:Nat) (0:Int)/\True)/\(DX.D x_2=DX.D x_2/\mx2 (DX.fz x)
 (List.length (DX.D x_2))=DX.fz x')/\z00/\True)\/∃(x':DX),R false x'/\x'.2+(1:Nat)<=x.2/\true=true/\((0:Nat)=(0:Nat)/\False/\(0:Nat)=(0:Nat)/\True)
 /\(List.getD (blkF (h8q (DX.H x)) (List.take (Int.toNat (64:Int)) (List.drop (DX.n x) (DX.D x_2)))) (0:Nat) (0:Int)=List.getD (DX.H x') (0:Nat) (0:Int)/\List.getD
 (blkF (h8q (DX.H x)) (List.take (Int.toNat (64:Int)) (List.drop (DX.n x) (DX.D x_2)))) (1:Nat) (0:Int)=List.getD (DX.H x') (1:Nat) (0:Int)/\List.getD (blkF (h8q (DX.H
 x)) (List.take (Int.toNat (64:Int)) (List.drop (DX.n x) (DX.D x_2)))) (2:Nat) (0:Int)=List.getD (DX.H x') (2:Nat) (0:Int)/\List.getD (blkF (h8q (DX.H x)) (List.take
 (Int.toNat (64:Int)) (List.drop (DX.n x) (DX.D x_2)))) (3:Nat) (0:Int)=List.getD (DX.H x') (3:Nat) (0:Int)/\List.getD (blkF (h8q (DX.H x)) (List.take (Int.toNat (64:
 Int)) (List.drop (DX.n x) (DX.D x_2)))) (4:Nat) (0:Int)=List.getD (DX.H x') (4:Nat) (0:Int)/\List.getD (blkF (h8q (DX.H x)) (List.take (Int.toNat (64:Int)) (List.drop
 (DX.n x) (DX.D x_2)))) (5:Nat) (0:Int)=List.getD (DX.H x') (5:Nat) (0:Int)/\List.getD (blkF (h8q (DX.H x)) (List.take (Int.toNat (64:Int)) (List.drop (DX.n x) (DX.D
 x_2)))) (6:Nat) (0:Int)=List.getD (DX.H x') (6:Nat) (0:Int)/\List.getD (blkF (h8q (DX.H x)) (List.take (Int.toNat (64:Int)) (List.drop (DX.n x) (DX.D x_2)))) (7:Nat)
 (0:Int)=List.getD (DX.H x') (7:Nat) (0:Int)/\True)/\z00/\True)/\(decide ((64:Int)<(↑(DX.m x):Int))=false->(∃(x':DX),R true x'/\x'.2+(1:Nat)<=x.2/\
 true=true/\((0:Nat)=(0:Nat)/\False/\(0:Nat)=(0:Nat)/\True)/\(List.getD (blkF (h8q (DX.H x)) (List.take (Int.toNat (64:Int)) (List.drop (DX.n x) (DX.D x_2))))
 (0:Nat) (0:Int)=List.getD (DX.H x') (0:Nat) (0:Int)/\List.getD (blkF (h8q (DX.H x)) (List.take (Int.toNat (64:Int)) (List.drop (DX.n x) (DX.D x_2)))) (1:Nat) (0:
 Int)=List.getD (DX.H x') (1:Nat) (0:Int)/\List.getD (blkF (h8q (DX.H x)) (List.take (Int.toNat (64:Int)) (List.drop (DX.n x) (DX.D x_2)))) (2:Nat) (0:Int)=List.getD
 (DX.H x') (2:Nat) (0:Int)/\List.getD (blkF (h8q (DX.H x)) (List.take (Int.toNat (64:Int)) (List.drop (DX.n x) (DX.D x_2)))) (3:Nat) (0:Int)=List.getD (DX.H x') (3:
 Nat) (0:Int)/\List.getD (blkF (h8q (DX.H x)) (List.take (Int.toNat (64:Int)) (List.drop (DX.n x) (DX.D x_2)))) (4:Nat) (0:Int)=List.getD (DX.H x') (4:Nat) (0:Int)/\
 List.getD (blkF (h8q (DX.H x)) (List.take (Int.toNat (64:Int)) (List.drop (DX.n x) (DX.D x_2)))) (5:Nat) (0:Int)=List.getD (DX.H x') (5:Nat) (0:Int)/\List.getD (blkF
 (h8q (DX.H x)) (List.take (Int.toNat (64:Int)) (List.drop (DX.n x) (DX.D x_2)))) (6:Nat) (0:Int)=List.getD (DX.H x') (6:Nat) (0:Int)/\List.getD (blkF (h8q (DX.H x))
 (List.take (Int.toNat (64:Int)) (List.drop (DX.n x) (DX.D x_2)))) (7:Nat) (0:Int)=List.getD (DX.H x') (7:Nat) (0:Int)/\True)/\(DX.D x_2=DX.D x_2/\mx2 (DX.fz x)
 (List.length (DX.D x_2))=DX.fz x')/\z00/\True)\/∃(x':DX),R false x'/\x'.2+(1:Nat)<=x.2/\true=true/\((0:Nat)=(0:Nat)/\(([]:List Int)=([]:List Int)/\
 (false=true->false=true))/\(0:Nat)=(0:Nat)/\True)/\(List.getD (blkF (h8q (DX.H x)) (List.take (Int.toNat (64:Int)) (List.drop (DX.n x) (DX.D x_2)))) (0:Nat) (0:
 Int)=List.getD (DX.H x') (0:Nat) (0:Int)/\List.getD (blkF (h8q (DX.H x)) (List.take (Int.toNat (64:Int)) (List.drop (DX.n x) (DX.D x_2)))) (1:Nat) (0:Int)=List.getD
 (DX.H x') (1:Nat) (0:Int)/\List.getD (blkF (h8q (DX.H x)) (List.take (Int.toNat (64:Int)) (List.drop (DX.n x) (DX.D x_2)))) (2:Nat) (0:Int)=List.getD (DX.H x') (2:
 Nat) (0:Int)/\List.getD (blkF (h8q (DX.H x)) (List.take (Int.toNat (64:Int)) (List.drop (DX.n x) (DX.D x_2)))) (3:Nat) (0:Int)=List.getD (DX.H x') (3:Nat) (0:Int)/\
 List.getD (blkF (h8q (DX.H x)) (List.take (Int.toNat (64:Int)) (List.drop (DX.n x) (DX.D x_2)))) (4:Nat) (0:Int)=List.getD (DX.H x') (4:Nat) (0:Int)/\List.getD (blkF
 (h8q (DX.H x)) (List.take (Int.toNat (64:Int)) (List.drop (DX.n x) (DX.D x_2)))) (5:Nat) (0:Int)=List.getD (DX.H x') (5:Nat) (0:Int)/\List.getD (blkF (h8q (DX.H x))
 (List.take (Int.toNat (64:Int)) (List.drop (DX.n x) (DX.D x_2)))) (6:Nat) (0:Int)=List.getD (DX.H x') (6:Nat) (0:Int)/\List.getD (blkF (h8q (DX.H x)) (List.take
 (Int.toNat (64:Int)) (List.drop (DX.n x) (DX.D x_2)))) (7:Nat) (0:Int)=List.getD (DX.H x') (7:Nat) (0:Int)/\True)/\z00/\True))/\(decide ((↑(DX.m x):Int)>(0:
 Int))=false->wr IntKind.u8 (Int.fdiv (List.getD (DX.H x) (0:Nat) (0:Int)) ((2:Int)^min (Int.toNat (24:Int)) (IntKind.bits IntKind.u32)))=List.getD d (0:Nat) (0:
 Int)/\wr IntKind.u8 (Int.fdiv (List.getD (DX.H x) (0:Nat) (0:Int)) ((2:Int)^min (Int.toNat (16:Int)) (IntKind.bits IntKind.u32)))=List.getD d (1:Nat) (0:Int)/\wr
 IntKind.u8 (Int.fdiv (List.getD (DX.H x) (0:Nat) (0:Int)) ((2:Int)^min (Int.toNat (8:Int)) (IntKind.bits IntKind.u32)))=List.getD d (2:Nat) (0:Int)/\wr IntKind.u8
 (Int.fdiv (List.getD (DX.H x) (0:Nat) (0:Int)) ((2:Int)^min (Int.toNat (0:Int)) (IntKind.bits IntKind.u32)))=List.getD d (3:Nat) (0:Int)/\wr IntKind.u8 (Int.fdiv
 (List.getD (DX.H x) (1:Nat) (0:Int)) ((2:Int)^min (Int.toNat (24:Int)) (IntKind.bits IntKind.u32)))=List.getD d (4:Nat) (0:Int)/\wr IntKind.u8 (Int.fdiv (List.getD
 (DX.H x) (1:Nat) (0:Int)) ((2:Int)^min (Int.toNat (16:Int)) (IntKind.bits IntKind.u32)))=List.getD d (5:Nat) (0:Int)/\wr IntKind.u8 (Int.fdiv (List.getD (DX.H x)
 (1:Nat) (0:Int)) ((2:Int)^min (Int.toNat (8:Int)) (IntKind.bits IntKind.u32)))=List.getD d (6:Nat) (0:Int)/\wr IntKind.u8 (Int.fdiv (List.getD (DX.H x) (1:Nat)
 (0:Int)) ((2:Int)^min (Int.toNat (0:Int)) (IntKind.bits IntKind.u32)))=List.getD d (7:Nat) (0:Int)/\wr IntKind.u8 (Int.fdiv (List.getD (DX.H x) (2:Nat) (0:Int))
 ((2:Int)^min (Int.toNat (24:Int)) (IntKind.bits IntKind.u32)))=List.getD d (8:Nat) (0:Int)/\wr IntKind.u8 (Int.fdiv (List.getD (DX.H x) (2:Nat) (0:Int)) ((2:Int)
 ^min (Int.toNat (16:Int)) (IntKind.bits IntKind.u32)))=List.getD d (9:Nat) (0:Int)/\wr IntKind.u8 (Int.fdiv (List.getD (DX.H x) (2:Nat) (0:Int)) ((2:Int)^min
 (Int.toNat (8:Int)) (IntKind.bits IntKind.u32)))=List.getD d (10:Nat) (0:Int)/\wr IntKind.u8 (Int.fdiv (List.getD (DX.H x) (2:Nat) (0:Int)) ((2:Int)^min (Int.toNat
 (0:Int)) (IntKind.bits IntKind.u32)))=List.getD d (11:Nat) (0:Int)/\wr IntKind.u8 (Int.fdiv (List.getD (DX.H x) (3:Nat) (0:Int)) ((2:Int)^min (Int.toNat (24:
 Int)) (IntKind.bits IntKind.u32)))=List.getD d (12:Nat) (0:Int)/\wr IntKind.u8 (Int.fdiv (List.getD (DX.H x) (3:Nat) (0:Int)) ((2:Int)^min (Int.toNat (16:Int))
 (IntKind.bits IntKind.u32)))=List.getD d (13:Nat) (0:Int)/\wr IntKind.u8 (Int.fdiv (List.getD (DX.H x) (3:Nat) (0:Int)) ((2:Int)^min (Int.toNat (8:Int))
 (IntKind.bits IntKind.u32)))=List.getD d (14:Nat) (0:Int)/\wr IntKind.u8 (Int.fdiv (List.getD (DX.H x) (3:Nat) (0:Int)) ((2:Int)^min (Int.toNat (0:Int))
 (IntKind.bits IntKind.u32)))=List.getD d (15:Nat) (0:Int)/\wr IntKind.u8 (Int.fdiv (List.getD (DX.H x) (4:Nat) (0:Int)) ((2:Int)^min (Int.toNat (24:Int))
 (IntKind.bits IntKind.u32)))=List.getD d (16:Nat) (0:Int)/\wr IntKind.u8 (Int.fdiv (List.getD (DX.H x) (4:Nat) (0:Int)) ((2:Int)^min (Int.toNat (16:Int))
 (IntKind.bits IntKind.u32)))=List.getD d (17:Nat) (0:Int)/\wr IntKind.u8 (Int.fdiv (List.getD (DX.H x) (4:Nat) (0:Int)) ((2:Int)^min (Int.toNat (8:Int))
 (IntKind.bits IntKind.u32)))=List.getD d (18:Nat) (0:Int)/\wr IntKind.u8 (Int.fdiv (List.getD (DX.H x) (4:Nat) (0:Int)) ((2:Int)^min (Int.toNat (0:Int))
 (IntKind.bits IntKind.u32)))=List.getD d (19:Nat) (0:Int)/\wr IntKind.u8 (Int.fdiv (List.getD (DX.H x) (5:Nat) (0:Int)) ((2:Int)^min (Int.toNat (24:Int))
 (IntKind.bits IntKind.u32)))=List.getD d (20:Nat) (0:Int)/\wr IntKind.u8 (Int.fdiv (List.getD (DX.H x) (5:Nat) (0:Int)) ((2:Int)^min (Int.toNat (16:Int))
 (IntKind.bits IntKind.u32)))=List.getD d (21:Nat) (0:Int)/\wr IntKind.u8 (Int.fdiv (List.getD (DX.H x) (5:Nat) (0:Int)) ((2:Int)^min (Int.toNat (8:Int))
 (IntKind.bits IntKind.u32)))=List.getD d (22:Nat) (0:Int)/\wr IntKind.u8 (Int.fdiv (List.getD (DX.H x) (5:Nat) (0:Int)) ((2:Int)^min (Int.toNat (0:Int))
 (IntKind.bits IntKind.u32)))=List.getD d (23:Nat) (0:Int)/\wr IntKind.u8 (Int.fdiv (List.getD (DX.H x) (6:Nat) (0:Int)) ((2:Int)^min (Int.toNat (24:Int))
 (IntKind.bits IntKind.u32)))=List.getD d (24:Nat) (0:Int)/\wr IntKind.u8 (Int.fdiv (List.getD (DX.H x) (6:Nat) (0:Int)) ((2:Int)^min (Int.toNat (16:Int))
 (IntKind.bits IntKind.u32)))=List.getD d (25:Nat) (0:Int)/\wr IntKind.u8 (Int.fdiv (List.getD (DX.H x) (6:Nat) (0:Int)) ((2:Int)^min (Int.toNat (8:Int))
 (IntKind.bits IntKind.u32)))=List.getD d (26:Nat) (0:Int)/\wr IntKind.u8 (Int.fdiv (List.getD (DX.H x) (6:Nat) (0:Int)) ((2:Int)^min (Int.toNat (0:Int))
 (IntKind.bits IntKind.u32)))=List.getD d (27:Nat) (0:Int)/\wr IntKind.u8 (Int.fdiv (List.getD (DX.H x) (7:Nat) (0:Int)) ((2:Int)^min (Int.toNat (24:Int))
 (IntKind.bits IntKind.u32)))=List.getD d (28:Nat) (0:Int)/\wr IntKind.u8 (Int.fdiv (List.getD (DX.H x) (7:Nat) (0:Int)) ((2:Int)^min (Int.toNat (16:Int))
 (IntKind.bits IntKind.u32)))=List.getD d (29:Nat) (0:Int)/\wr IntKind.u8 (Int.fdiv (List.getD (DX.H x) (7:Nat) (0:Int)) ((2:Int)^min (Int.toNat (8:Int))
 (IntKind.bits IntKind.u32)))=List.getD d (30:Nat) (0:Int)/\wr IntKind.u8 (Int.fdiv (List.getD (DX.H x) (7:Nat) (0:Int)) ((2:Int)^min (Int.toNat (0:Int))
 (IntKind.bits IntKind.u32)))=List.getD d (31:Nat) (0:Int)/\True))/\∀(x:DX),R false x->(decide ((↑(0:Nat):Int)>(0:Int))=true->((0:Int)<=(64:Int)/\(64:
 Int)<=(↑(0:Nat):Int))/\((8:Nat)=(8:Nat)/\List.length (List.take (Int.toNat (64:Int)) ([]:List Int))=(64:Nat))/\((0:Int)<=(64:Int)/\(64:Int)<=(↑(0:
 Nat):Int))/\((∃(x':DX),R true x'/\x'.2+(1:Nat)<=x.2/\true=true/\((0:Nat)=(0:Nat)/\False/\(0:Nat)=(0:Nat)/\True)/\(List.getD (blkF (h8q (DX.H x))
 (List.take (Int.toNat (64:Int)) ([]:List Int))) (0:Nat) (0:Int)=List.getD (DX.H x') (0:Nat) (0:Int)/\List.getD (blkF (h8q (DX.H x)) (List.take (Int.toNat (64:Int))
 ([]:List Int))) (1:Nat) (0:Int)=List.getD (DX.H x') (1:Nat) (0:Int)/\List.getD (blkF (h8q (DX.H x)) (List.take (Int.toNat (64:Int)) ([]:List Int))) (2:Nat) (0:
 Int)=List.getD (DX.H x') (2:Nat) (0:Int)/\List.getD (blkF (h8q (DX.H x)) (List.take (Int.toNat (64:Int)) ([]:List Int))) (3:Nat) (0:Int)=List.getD (DX.H x') (3:
 Nat) (0:Int)/\List.getD (blkF (h8q (DX.H x)) (List.take (Int.toNat (64:Int)) ([]:List Int))) (4:Nat) (0:Int)=List.getD (DX.H x') (4:Nat) (0:Int)/\List.getD (blkF
 (h8q (DX.H x)) (List.take (Int.toNat (64:Int)) ([]:List Int))) (5:Nat) (0:Int)=List.getD (DX.H x') (5:Nat) (0:Int)/\List.getD (blkF (h8q (DX.H x)) (List.take
 (Int.toNat (64:Int)) ([]:List Int))) (6:Nat) (0:Int)=List.getD (DX.H x') (6:Nat) (0:Int)/\List.getD (blkF (h8q (DX.H x)) (List.take (Int.toNat (64:Int)) ([]:List
 Int))) (7:Nat) (0:Int)=List.getD (DX.H x') (7:Nat) (0:Int)/\True)/\False/\z00/\True)\/∃(x':DX),R false x'/\x'.2+(1:Nat)<=x.2/\true=true/\((0:Nat)=
 (0:Nat)/\(List.drop (Int.toNat (64:Int)) ([]:List Int)=([]:List Int)/\(false=true->false=true))/\(0:Nat)=(0:Nat)/\True)/\(List.getD (blkF (h8q (DX.H x))
 (List.take (Int.toNat (64:Int)) ([]:List Int))) (0:Nat) (0:Int)=List.getD (DX.H x') (0:Nat) (0:Int)/\List.getD (blkF (h8q (DX.H x)) (List.take (Int.toNat (64:Int))
 ([]:List Int))) (1:Nat) (0:Int)=List.getD (DX.H x') (1:Nat) (0:Int)/\List.getD (blkF (h8q (DX.H x)) (List.take (Int.toNat (64:Int)) ([]:List Int))) (2:Nat) (0:
 Int)=List.getD (DX.H x') (2:Nat) (0:Int)/\List.getD (blkF (h8q (DX.H x)) (List.take (Int.toNat (64:Int)) ([]:List Int))) (3:Nat) (0:Int)=List.getD (DX.H x') (3:
 Nat) (0:Int)/\List.getD (blkF (h8q (DX.H x)) (List.take (Int.toNat (64:Int)) ([]:List Int))) (4:Nat) (0:Int)=List.getD (DX.H x') (4:Nat) (0:Int)/\List.getD (blkF
 (h8q (DX.H x)) (List.take (Int.toNat (64:Int)) ([]:List Int))) (5:Nat) (0:Int)=List.getD (DX.H x') (5:Nat) (0:Int)/\List.getD (blkF (h8q (DX.H x)) (List.take
 (Int.toNat (64:Int)) ([]:List Int))) (6:Nat) (0:Int)=List.getD (DX.H x') (6:Nat) (0:Int)/\List.getD (blkF (h8q (DX.H x)) (List.take (Int.toNat (64:Int)) ([]:List
 Int))) (7:Nat) (0:Int)=List.getD (DX.H x') (7:Nat) (0:Int)/\True)/\z00/\True))/\(decide ((↑(0:Nat):Int)>(0:Int))=false->wr IntKind.u8 (Int.fdiv (List.getD
 (DX.H x) (0:Nat) (0:Int)) ((2:Int)^min (Int.toNat (24:Int)) (IntKind.bits IntKind.u32)))=List.getD d (0:Nat) (0:Int)/\wr IntKind.u8 (Int.fdiv (List.getD (DX.H x)
 (0:Nat) (0:Int)) ((2:Int)^min (Int.toNat (16:Int)) (IntKind.bits IntKind.u32)))=List.getD d (1:Nat) (0:Int)/\wr IntKind.u8 (Int.fdiv (List.getD (DX.H x) (0:Nat)
 (0:Int)) ((2:Int)^min (Int.toNat (8:Int)) (IntKind.bits IntKind.u32)))=List.getD d (2:Nat) (0:Int)/\wr IntKind.u8 (Int.fdiv (List.getD (DX.H x) (0:Nat) (0:Int))
 ((2:Int)^min (Int.toNat (0:Int)) (IntKind.bits IntKind.u32)))=List.getD d (3:Nat) (0:Int)/\wr IntKind.u8 (Int.fdiv (List.getD (DX.H x) (1:Nat) (0:Int)) ((2:Int)
 ^min (Int.toNat (24:Int)) (IntKind.bits IntKind.u32)))=List.getD d (4:Nat) (0:Int)/\wr IntKind.u8 (Int.fdiv (List.getD (DX.H x) (1:Nat) (0:Int)) ((2:Int)^min
 (Int.toNat (16:Int)) (IntKind.bits IntKind.u32)))=List.getD d (5:Nat) (0:Int)/\wr IntKind.u8 (Int.fdiv (List.getD (DX.H x) (1:Nat) (0:Int)) ((2:Int)^min (Int.toNat
 (8:Int)) (IntKind.bits IntKind.u32)))=List.getD d (6:Nat) (0:Int)/\wr IntKind.u8 (Int.fdiv (List.getD (DX.H x) (1:Nat) (0:Int)) ((2:Int)^min (Int.toNat (0:Int))
 (IntKind.bits IntKind.u32)))=List.getD d (7:Nat) (0:Int)/\wr IntKind.u8 (Int.fdiv (List.getD (DX.H x) (2:Nat) (0:Int)) ((2:Int)^min (Int.toNat (24:Int))
 (IntKind.bits IntKind.u32)))=List.getD d (8:Nat) (0:Int)/\wr IntKind.u8 (Int.fdiv (List.getD (DX.H x) (2:Nat) (0:Int)) ((2:Int)^min (Int.toNat (16:Int))
 (IntKind.bits IntKind.u32)))=List.getD d (9:Nat) (0:Int)/\wr IntKind.u8 (Int.fdiv (List.getD (DX.H x) (2:Nat) (0:Int)) ((2:Int)^min (Int.toNat (8:Int))
 (IntKind.bits IntKind.u32)))=List.getD d (10:Nat) (0:Int)/\wr IntKind.u8 (Int.fdiv (List.getD (DX.H x) (2:Nat) (0:Int)) ((2:Int)^min (Int.toNat (0:Int))
 (IntKind.bits IntKind.u32)))=List.getD d (11:Nat) (0:Int)/\wr IntKind.u8 (Int.fdiv (List.getD (DX.H x) (3:Nat) (0:Int)) ((2:Int)^min (Int.toNat (24:Int))
 (IntKind.bits IntKind.u32)))=List.getD d (12:Nat) (0:Int)/\wr IntKind.u8 (Int.fdiv (List.getD (DX.H x) (3:Nat) (0:Int)) ((2:Int)^min (Int.toNat (16:Int))
 (IntKind.bits IntKind.u32)))=List.getD d (13:Nat) (0:Int)/\wr IntKind.u8 (Int.fdiv (List.getD (DX.H x) (3:Nat) (0:Int)) ((2:Int)^min (Int.toNat (8:Int))
 (IntKind.bits IntKind.u32)))=List.getD d (14:Nat) (0:Int)/\wr IntKind.u8 (Int.fdiv (List.getD (DX.H x) (3:Nat) (0:Int)) ((2:Int)^min (Int.toNat (0:Int))
 (IntKind.bits IntKind.u32)))=List.getD d (15:Nat) (0:Int)/\wr IntKind.u8 (Int.fdiv (List.getD (DX.H x) (4:Nat) (0:Int)) ((2:Int)^min (Int.toNat (24:Int))
 (IntKind.bits IntKind.u32)))=List.getD d (16:Nat) (0:Int)/\wr IntKind.u8 (Int.fdiv (List.getD (DX.H x) (4:Nat) (0:Int)) ((2:Int)^min (Int.toNat (16:Int))
 (IntKind.bits IntKind.u32)))=List.getD d (17:Nat) (0:Int)/\wr IntKind.u8 (Int.fdiv (List.getD (DX.H x) (4:Nat) (0:Int)) ((2:Int)^min (Int.toNat (8:Int))
 (IntKind.bits IntKind.u32)))=List.getD d (18:Nat) (0:Int)/\wr IntKind.u8 (Int.fdiv (List.getD (DX.H x) (4:Nat) (0:Int)) ((2:Int)^min (Int.toNat (0:Int))
 (IntKind.bits IntKind.u32)))=List.getD d (19:Nat) (0:Int)/\wr IntKind.u8 (Int.fdiv (List.getD (DX.H x) (5:Nat) (0:Int)) ((2:Int)^min (Int.toNat (24:Int))
 (IntKind.bits IntKind.u32)))=List.getD d (20:Nat) (0:Int)/\wr IntKind.u8 (Int.fdiv (List.getD (DX.H x) (5:Nat) (0:Int)) ((2:Int)^min (Int.toNat (16:Int))
 (IntKind.bits IntKind.u32)))=List.getD d (21:Nat) (0:Int)/\wr IntKind.u8 (Int.fdiv (List.getD (DX.H x) (5:Nat) (0:Int)) ((2:Int)^min (Int.toNat (8:Int))
 (IntKind.bits IntKind.u32)))=List.getD d (22:Nat) (0:Int)/\wr IntKind.u8 (Int.fdiv (List.getD (DX.H x) (5:Nat) (0:Int)) ((2:Int)^min (Int.toNat (0:Int))
 (IntKind.bits IntKind.u32)))=List.getD d (23:Nat) (0:Int)/\wr IntKind.u8 (Int.fdiv (List.getD (DX.H x) (6:Nat) (0:Int)) ((2:Int)^min (Int.toNat (24:Int))
 (IntKind.bits IntKind.u32)))=List.getD d (24:Nat) (0:Int)/\wr IntKind.u8 (Int.fdiv (List.getD (DX.H x) (6:Nat) (0:Int)) ((2:Int)^min (Int.toNat (16:Int))
 (IntKind.bits IntKind.u32)))=List.getD d (25:Nat) (0:Int)/\wr IntKind.u8 (Int.fdiv (List.getD (DX.H x) (6:Nat) (0:Int)) ((2:Int)^min (Int.toNat (8:Int))
 (IntKind.bits IntKind.u32)))=List.getD d (26:Nat) (0:Int)/\wr IntKind.u8 (Int.fdiv (List.getD (DX.H x) (6:Nat) (0:Int)) ((2:Int)^min (Int.toNat (0:Int))
 (IntKind.bits IntKind.u32)))=List.getD d (27:Nat) (0:Int)/\wr IntKind.u8 (Int.fdiv (List.getD (DX.H x) (7:Nat) (0:Int)) ((2:Int)^min (Int.toNat (24:Int))
 (IntKind.bits IntKind.u32)))=List.getD d (28:Nat) (0:Int)/\wr IntKind.u8 (Int.fdiv (List.getD (DX.H x) (7:Nat) (0:Int)) ((2:Int)^min (Int.toNat (16:Int))
 (IntKind.bits IntKind.u32)))=List.getD d (29:Nat) (0:Int)/\wr IntKind.u8 (Int.fdiv (List.getD (DX.H x) (7:Nat) (0:Int)) ((2:Int)^min (Int.toNat (8:Int))
 (IntKind.bits IntKind.u32)))=List.getD d (30:Nat) (0:Int)/\wr IntKind.u8 (Int.fdiv (List.getD (DX.H x) (7:Nat) (0:Int)) ((2:Int)^min (Int.toNat (0:Int))
 (IntKind.bits IntKind.u32)))=List.getD d (31:Nat) (0:Int)/\True))))):=by kernel_rfl
end
section
open Go
set_option maxHeartbeats 4000000
def zc (n:Nat):Nat:=(119-n%64)%64
def len8 (n:Int) (j:Nat):List Int:=(List.range j).map fun k:Nat=>wr .u8 (Int.fdiv n (2^min (Int.toNat (56-8*(k:Int))) 64))
def padF (m:List Int):List Int:=m++ [128]++List.replicate (zc m.length) 0++len8 (wr .u64 (wr .u64 (m.length:Int)*8)) 8
def U2:Nat->List Int->List Int->List Int
 |0,h,_=>h
 |n+1,h,m=>U2 n (blkF h (m.take 64)) (m.drop 64)
def H0:List Int:= [1779033703,3144134277,1013904242,2773480762,1359893119,2600822924,528734635,1541459225]
def digF (H:List Int):List Int:=(List.range 32).map fun i=>wr .u8 (Int.fdiv (H.getD (i/4) 0) (2^min (24-8*(i%4)) 32))
def shaF (m:List Int):List Int:=digF (U2 ((padF m).length/64) H0 (padF m))
theorem Zaz (n:Int) (j:Nat):(len8 n j).length=j:=by simp [len8]
theorem Zdi (n:Int) (j:Nat):len8 n (j+1)=len8 n j++ [wr .u8 (Int.fdiv n (2^min (Int.toNat (56-8*(j:Int))) 64))]:=by simp [len8,List.range_succ]
theorem Zrr (m:List Int):(padF m).length%64=0:=by
 simp only [padF,List.length_append,List.length_replicate,Zaz,List.length_cons,List.length_nil,zc]
 omega
theorem Z2f {H:List Int} (h:H.length=8): [H.getD 0 0,H.getD 1 0,H.getD 2 0,H.getD 3 0,H.getD 4 0,H.getD 5 0,H.getD 6 0,H.getD 7 0]=H:=all8 (P:=fun H=> [H.getD 0 0,H.getD 1 0,H.getD 2 0,H.getD 3 0,H.getD 4 0,H.getD 5 0,H.getD 6 0,H.getD 7 0]=H) (fun _ _ _ _ _ _ _ _=>rfl) H h
theorem Zv1 (ps:List (List Int)) (p:List Int) (r:List (List Int)) (hps:ps=p::r) (hp:p≠ []) (hsz:ps.flatten.length<=1000000) (hpl2:ps.length<=1000000):PureC E2 76 [.psl Th.byss ps false] (Zp (shaF ps.flatten)):=by
 refine Za Zg (Zb Zg Z1w 400) ?_
 rw [Zu8]
 simp only [h8q,Zxs]
 have hpl:0<ps.length:=by rw [hps];simp
 simp only [Z4,Zu,Yw,Yx,Yy,beq_iff_eq,bne_iff_ne,beq_eq_false_iff_ne,bne_eq_false_iff_eq,decide_eq_true_eq,decide_eq_false_iff_not,Bool.or_eq_true,Bool.or_eq_false_iff,Bool.not_eq_true',Bool.not_eq_false',Bool.and_eq_true,Bool.and_true,Bool.true_and,Bool.and_eq_false_iff,beq_self_eq_true,Z3,Z5,ne_eq,and_true,true_and,Bool.true_eq_false,Bool.false_eq_true,false_or,or_false,true_implies,Int.ofNat_eq_natCast,not_true_eq_false,not_false_eq_true,Decidable.not_not,eq_self,false_and,and_false,exists_false,IntKind.bits,Int.toNat_natCast,imp_self]
 have htm:∀n:Nat,Int.tmod (n:Int) 64=((n%64:Nat):Int):=fun n=>rfl
 refine ⟨fun s x=>match s with|true=>x.k=0/\x.r=ps.length+1|false=>1<=x.k/\x.k<=ps.length/\x.D=(ps.take x.k).flatten/\x.r=ps.length-x.k,⟨⟨0,ps.length+1,[],[],0,0,0,0⟩,⟨rfl,rfl⟩,rfl⟩,?_,?_⟩
 · rintro x ⟨hk,hr⟩
   refine And.intro (fun _=> ?_) (fun h=>absurd h (by rw [hk];omega))
   rw [hk]
   refine ⟨by omega,by omega,fun y hy=> ?_⟩
   rw [hps] at hy
   cases hy
   refine And.intro (fun h=>absurd h hp) (fun _=> ?_)
   refine ⟨?_,⟨1,ps.length-1,p,[],0,0,0,0⟩,⟨Nat.le_refl _,hpl,?_,rfl⟩,?_,⟨rfl,?_⟩,rfl⟩
   · have:p.length<=ps.flatten.length:=by rw [hps];simp
     omega
   · rw [hps];simp
   · show ps.length-1+1<=x.r
     omega
   · exact wr64 (by omega) (by omega)
 · rintro x ⟨hk1,hk2,hD,hr⟩
   refine And.intro (fun h=> ?_) (fun h=> ?_)
   · have hkl:x.k<ps.length:=by omega
     refine ⟨by omega,by omega,fun y hy=> ?_⟩
     have ht:(ps.take (x.k+1)).flatten=x.D++y:=by rw [List.take_add_one,hy,hD];simp
     have hsum:(ps.take (x.k+1)).flatten.length<=ps.flatten.length:=by
      have e:ps.flatten=(ps.take (x.k+1)).flatten++(ps.drop (x.k+1)).flatten:=by rw [<-List.flatten_append,List.take_append_drop]
      rw [e,List.length_append];omega
     rw [ht,List.length_append] at hsum
     have hw:wr .i64 ((x.k:Int)+1)=((x.k+1:Nat):Int):=wr64 (by omega) (by omega)
     refine And.intro (fun hy0=> ?_) (fun hy0=> ?_)
     · refine ⟨⟨x.k+1,x.r-1,x.D,[],0,0,0,0⟩,⟨by show 1<=x.k+1;omega,hkl,?_,by show x.r-1=ps.length-(x.k+1);omega⟩,by show x.r-1+1<=x.r;omega,⟨rfl,hw⟩,rfl⟩
       rw [ht,hy0,List.append_nil]
     · refine ⟨⟨Nat.le_refl _,Nat.zero_le _,by omega⟩,⟨x.k+1,x.r-1,x.D++y,[],0,0,0,0⟩,⟨by show 1<=x.k+1;omega,hkl,ht.symm,by show x.r-1=ps.length-(x.k+1);omega⟩,by show x.r-1+1<=x.r;omega,⟨by simp,hw⟩,by rw [List.take_length]⟩
   · have hk:x.k=ps.length:=by omega
     rw [hk,List.take_length] at hD
     clear hr hk1 hk2 hk h
     generalize ps.flatten=m at*
     rw [hD]
     have hzc:zc m.length<64:=by unfold zc;omega
     refine ⟨⟨Nat.le_refl _,Nat.zero_le _,by omega⟩,fun y=>∃j,j<=zc m.length/\y.D=m++ [128]++List.replicate j 0/\y.r=zc m.length-j,⟨⟨0,zc m.length,m++ [128],[],0,0,0,0⟩,⟨0,Nat.zero_le _,by simp,rfl⟩,by simp,by simp⟩,?_⟩
     rintro y ⟨j,hj,hyD,hyr⟩
     have hyl:y.D.length=m.length+1+j:=by rw [hyD];simp;omega
     refine And.intro (fun h=> ?_) (fun h=> ?_)
     · have hjl:j<zc m.length:=by
        rcases Nat.lt_or_ge j (zc m.length) with h1|h1
        · exact h1
        · exfalso
          apply h
          rw [htm,hyl]
          unfold zc at*
          omega
       refine ⟨⟨Nat.le_refl _,Nat.zero_le _,by omega⟩,⟨0,zc m.length-(j+1),y.D++ [0],[],0,0,0,0⟩,⟨j+1,hjl,?_,rfl⟩,by show zc m.length-(j+1)+1<=y.r;omega,by simp,by rw [List.take_length]⟩
       show y.D++ [0]=_
       rw [hyD,List.replicate_succ'];simp
     · have hje:j=zc m.length:=by
        rw [htm,hyl] at h
        unfold zc at*
        omega
       rw [hje] at hyD
       rw [hje] at hyl
       generalize hB:y.D=base at*
       generalize hN:wr .u64 (wr .u64 (m.length:Int)*8)=N
       refine ⟨fun z=>∃q,q<=8/\z.D=base++len8 N q/\z.j=56-8*(q:Int)/\z.r=8-q,⟨⟨0,8,base,[],0,0,0,56⟩,⟨0,by omega,by simp [len8],rfl,rfl⟩,⟨rfl,rfl⟩,rfl⟩,?_⟩
       rintro z ⟨q,hq,hzD,hzj,hzr⟩
       have hzl:z.D.length=base.length+q:=by rw [hzD,List.length_append,Zaz]
       refine And.intro (fun h=> ?_) (fun h=> ?_)
       · refine ⟨h,⟨Nat.le_refl _,Nat.zero_le _,by omega⟩,⟨0,8-(q+1),z.D++ [wr .u8 (N.fdiv (2^min z.j.toNat 64))],[],0,0,0,z.j-8⟩,⟨q+1,by omega,?_,?_,rfl⟩,by show 8-(q+1)+1<=z.r;omega,⟨by simp,wr64 (by omega) (by omega)⟩,by rw [List.take_length]⟩
         · show z.D++_=_
           rw [Zdi,<-hzj,<-List.append_assoc,<-hzD]
         · show z.j-8=56-8*((q+1:Nat):Int)
           omega
       · obtain rfl:q=8:=by omega
         have hzP:z.D=padF m:=by rw [hzD,hyD,<-hN];rfl
         rw [hzP]
         have hL:=Zrr m
         have hL0:0<(padF m).length:=by rw [<-hzP,hzl];omega
         generalize hFIN:U2 ((padF m).length/64) H0 (padF m)=FIN
         have hsha:shaF m=digF FIN:=by rw [<-hFIN];rfl
         rw [hsha]
         generalize padF m=L at*
         refine ⟨fun s u=>match s with|true=>u.n+u.m=L.length/\u.m%64=0/\0<u.m/\u.H.length=8/\U2 (u.m/64) u.H (L.drop u.n)=FIN/\u.r=u.m|false=>u.H=FIN/\u.r=0,⟨⟨0,L.length,[],H0,0,L.length,0,0⟩,⟨by simp,hL,hL0,rfl,hFIN,rfl⟩,⟨rfl,rfl⟩,⟨rfl,rfl,rfl,rfl,rfl,rfl,rfl,rfl⟩,rfl⟩,?_,?_⟩
         · rintro u ⟨hu1,hu2,hu3,hu4,hu5,hu6⟩
           refine And.intro (fun h=> ?_) (fun h=>absurd (by omega) h)
           simp only [Z2f hu4]
           have hdiv:u.m/64=(u.m-64)/64+1:=by omega
           rw [hdiv] at hu5
           have hfin:U2 ((u.m-64)/64) (blkF u.H ((L.drop u.n).take 64)) (L.drop (u.n+64))=FIN:=by rw [<-hu5];show _=U2 _ _ ((L.drop u.n).drop 64);rw [List.drop_drop]
           refine ⟨⟨by omega,by omega⟩,by show u.n+64<=_;omega,by simp;omega,⟨by omega,by omega⟩,?_⟩
           have h8:(blkF u.H ((L.drop u.n).take 64)).length=8:=Uq hu4 (by simp;omega)
           refine And.intro (fun h64=>⟨⟨0,u.m-64,[],blkF u.H ((L.drop u.n).take 64),u.n+64,u.m-64,mx2 u.fz L.length,0⟩,⟨?_,?_,?_,h8,hfin,rfl⟩,?_,⟨rfl,rfl⟩,⟨rfl,rfl,rfl,rfl,rfl,rfl,rfl,rfl⟩,rfl⟩) (fun h64=>⟨⟨0,0,[],blkF u.H ((L.drop u.n).take 64),0,0,0,0⟩,⟨?_,rfl⟩,?_,⟨rfl,rfl,rfl,rfl,rfl,rfl,rfl,rfl⟩⟩)
           · show u.n+64+(u.m-64)=_;omega
           · show (u.m-64)%64=0;omega
           · show 0<u.m-64;omega
           · show u.m-64+1<=u.r;omega
           · have e:(u.m-64)/64=0:=by omega
             rw [e] at hfin
             exact hfin
           · show 0+1<=u.r;omega
         · rintro u ⟨hu,hr⟩
           refine And.intro (fun h=>absurd h (by simp)) (fun _=> ?_)
           rw [hu]
           exact ⟨rfl,rfl,rfl,rfl,rfl,rfl,rfl,rfl,rfl,rfl,rfl,rfl,rfl,rfl,rfl,rfl,rfl,rfl,rfl,rfl,rfl,rfl,rfl,rfl,rfl,rfl,rfl,rfl,rfl,rfl,rfl,rfl⟩
end
end Go.Proofs.YtbaeahmhdfdndaaGreatDoor
end
