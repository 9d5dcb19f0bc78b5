/- Merged texts: TvK, TvBa, TvBk, TvTa, TvTb, TvUd, TvUe, TvUf, TvTop2, DvTop, DvTopC, TvUg, TvUo, TvUh, TvUi, TvNp, DvP, EngZQ, EngZR, EngZS, DvA, EngZT, DvB, EngZU, DvC, EngZV, DvD. -/
import Derived.Clock
import Derived.OrdersIn
import Derived.TacticsIn
import Derived.RangeFuncLeaves
import Derived.RangeFuncOwn
import Derived.Test.YtnailikggmapcaaGreatDoorMd
noncomputable section
namespace Go.Proofs.YtnailikggmapcaaGreatDoor
set_option linter.unusedVariables false
set_option linter.unusedSimpArgs false
set_option linter.unnecessarySimpa false
set_option maxRecDepth 100000
section
open Go
def kNums:List Int:= [1116352408,1899447441,3049323471,3921009573,961987163,1508970993,2453635748,2870763221,3624381080,310598401,607225278,1426881987,1925078388,2162078206,2614888103,3248222580,3835390401,4022224774,264347078,604807628,770255983,1249150122,1555081692,1996064986,2554220882,2821834349,2952996808,3210313671,3336571891,3584528711,113926993,338241895,666307205,773529912,1294757372,1396182291,1695183700,1986661051,2177026350,2456956037,2730485921,2820302411,3259730800,3345764771,3516065817,3600352804,4094571909,275423344,430227734,506948616,659060556,883997877,958139571,1322822218,1537002063,1747873779,1955562222,2024104815,2227730452,2361852424,2428436474,2756734187,3204031479,3329325298]
def kSV:SV thy:= .agg [.int true .u32 1116352408,.int true .u32 1899447441,.int true .u32 3049323471,.int true .u32 3921009573,.int true .u32 961987163,.int true .u32 1508970993,.int true .u32 2453635748,.int true .u32 2870763221,.int true .u32 3624381080,.int true .u32 310598401,.int true .u32 607225278,.int true .u32 1426881987,.int true .u32 1925078388,.int true .u32 2162078206,.int true .u32 2614888103,.int true .u32 3248222580,.int true .u32 3835390401,.int true .u32 4022224774,.int true .u32 264347078,.int true .u32 604807628,.int true .u32 770255983,.int true .u32 1249150122,.int true .u32 1555081692,.int true .u32 1996064986,.int true .u32 2554220882,.int true .u32 2821834349,.int true .u32 2952996808,.int true .u32 3210313671,.int true .u32 3336571891,.int true .u32 3584528711,.int true .u32 113926993,.int true .u32 338241895,.int true .u32 666307205,.int true .u32 773529912,.int true .u32 1294757372,.int true .u32 1396182291,.int true .u32 1695183700,.int true .u32 1986661051,.int true .u32 2177026350,.int true .u32 2456956037,.int true .u32 2730485921,.int true .u32 2820302411,.int true .u32 3259730800,.int true .u32 3345764771,.int true .u32 3516065817,.int true .u32 3600352804,.int true .u32 4094571909,.int true .u32 275423344,.int true .u32 430227734,.int true .u32 506948616,.int true .u32 659060556,.int true .u32 883997877,.int true .u32 958139571,.int true .u32 1322822218,.int true .u32 1537002063,.int true .u32 1747873779,.int true .u32 1955562222,.int true .u32 2024104815,.int true .u32 2227730452,.int true .u32 2361852424,.int true .u32 2428436474,.int true .u32 2756734187,.int true .u32 3204031479,.int true .u32 3329325298]
def Zav (n:Nat):Option (SV thy):=match n with|1=>some kSV|n=>Zxa n
def E2:Eng thy:={E with glob:=Zav}
def EL2:Eng thy:={EL with glob:=Zav}
theorem Zh:EngOk E2:=E_ok.glob Zav
theorem Zrs:EngOk EL2:=EL_ok.glob Zav
theorem Zrt (n:Nat) (sv:SV thy) (h:Zxa n=some sv):Zav n=some sv:=by
 match n,h with
 |0,h=>exact h
theorem up2 {f:FuncId} {args:List (SV thy)} {v:SV thy} (h:PureC E f args v):PureC E2 f args v:=PureC.like (W4 E Zav).1 (W4 E Zav).2 Zrt h
theorem Z2p:EngLike EL2 E2:=Zuo rfl rfl fun th x=>by cases th<;>rfl
theorem Z2q:EngLike E2 EL2:=Zuo rfl rfl fun th x=>by cases th<;>rfl
theorem Z36 {f:FuncId} {args:List (SV thy)} {v:SV thy} (h:PureC EL2 f args v):PureC E2 f args v:=PureC.like Z2p Z2q (fun _ _ h=>h) h
theorem X5:FnsOk E2 F0:=⟨F0_ok.sumG,F0_ok.fnG,(fun f S h=>by cases h),F0_ok.fn,(fun f j L h=>by cases h)⟩
theorem Zru:FnsOk EL2 F0:=⟨F0_ok.sumG,F0_ok.fnG,(fun f S h=>by cases h),F0_ok.fn,(fun f j L h=>by cases h)⟩
theorem Ze7 {E:Eng thy} {h:Hp thy} {kd:IntKind}:∀{cs:List (SV thy)} {l:List Int},U5 kd cs=some l->retL E h cs (l.map (SV.int false kd))/\l.length=cs.length
 | [],l,h=>by cases h;exact ⟨trivial,rfl⟩
 |c::cs,l,h=>by
  unfold U5 at h
  split at h
  · rename_i he;cases he
  · rename_i f k n r he
    cases he
    split at h
    · rename_i hk hr
      cases h
      have hk:=of_decide_eq_true hk
      subst hk
      obtain ⟨h1,h2⟩:=Ze7 hr
      refine ⟨⟨?_,h1⟩,by simp [h2]⟩
      show ret0 E _ (.int f k n) (.int false k n)
      unfold ret0 le0
      simp
    · cases h
  · cases h
def Vd (kd:IntKind) (m:Nat) (v:SV thy):Prop:=match v with| .agg cs=>(match U5 kd cs,Nat.beq cs.length m with|some _,true=>True|_,_=>False)|_=>False
theorem Zrv {E:Eng thy} {h:Hp thy} {kd:IntKind} {m:Nat} {v:SV thy} (hv:Vd kd m v):∃l:List Int,l.length=m/\ret E h v (rowV kd l):=by
 unfold Vd at hv
 split at hv
 · rename_i cs
   split at hv
   · rename_i l hl hm
     obtain ⟨h1,h2⟩:=Ze7 (E:=E) (h:=h) hl
     exact ⟨l,by rw [h2];exact gC9 hm,h1⟩
   · exact hv.elim
 · exact hv.elim
theorem Zzv {E:Eng thy} (hE:EngOk E) {call:Nat->List (SV thy)->Hp thy->Nat->(Res thy->Prop)->Prop} (hcall:U4 E call) {f:Nat} {args:List (SV thy)} {kd:IntKind} {m:Nat} (hk:call f args hp0 0 fun r=>Vd kd m r.v):∃l:List Int,l.length=m/\PureC E f args (rowV kd l):=by
 obtain ⟨r,hr,hR,htri⟩:=hcall f args hp0 0 _ (fun b hb=>absurd rfl hb) hk
 obtain ⟨l,h1,h2⟩:=Zrv (E:=E) (h:=patch hp0 0 r) hr
 exact ⟨l,h1,Za hE (call:=fun f' a' h' i' k'=>∃r,k' r/\ROk h' r/\CallTri2 E f' a' h' i' r) (fun f' a' h' i' k' _ hk'=>hk') ⟨r,h2,hR,htri⟩⟩
end
section
open Go
set_option maxHeartbeats 4000000
def blkK (h b:List Int):Prop:=Zr EL2 F0 (vc EL2 F0 3000) 95 [rowV .u32 h,.psl Th.bys b false] hp0 0 (fun r=>Vd .u32 8 r.v)
theorem Zpg (h0 h1 h2 h3 h4 h5 h6 h7 b0 b1 b2 b3 b4 b5 b6 b7 b8 b9 b10 b11 b12 b13 b14 b15 b16 b17 b18 b19 b20 b21 b22 b23 b24 b25 b26 b27 b28 b29 b30 b31 b32 b33 b34 b35 b36 b37 b38 b39 b40 b41 b42 b43 b44 b45 b46 b47 b48 b49 b50 b51 b52 b53 b54 b55 b56 b57 b58 b59 b60 b61 b62 b63:Int):blkK [h0,h1,h2,h3,h4,h5,h6,h7] [b0,b1,b2,b3,b4,b5,b6,b7,b8,b9,b10,b11,b12,b13,b14,b15,b16,b17,b18,b19,b20,b21,b22,b23,b24,b25,b26,b27,b28,b29,b30,b31,b32,b33,b34,b35,b36,b37,b38,b39,b40,b41,b42,b43,b44,b45,b46,b47,b48,b49,b50,b51,b52,b53,b54,b55,b56,b57,b58,b59,b60,b61,b62,b63]=True:=by kernel_rfl
end
section
open Go
theorem Zb {α:Type} {l:List α} {n:Nat} (h:l.length=n+1):∃a r,l=a::r/\r.length=n:=by
 cases l with
 |nil=>simp at h
 |cons a r=>exact ⟨a,r,rfl,by simpa using h⟩
theorem all8 {P:List Int->Prop} (hP:∀b0 b1 b2 b3 b4 b5 b6 b7:Int,P [b0,b1,b2,b3,b4,b5,b6,b7]) (b:List Int) (hb:b.length=8):P b:=by
 obtain ⟨b0,s0,rfl,d0⟩:=Zb hb
 obtain ⟨b1,s1,rfl,d1⟩:=Zb d0
 obtain ⟨b2,s2,rfl,d2⟩:=Zb d1
 obtain ⟨b3,s3,rfl,d3⟩:=Zb d2
 obtain ⟨b4,s4,rfl,d4⟩:=Zb d3
 obtain ⟨b5,s5,rfl,d5⟩:=Zb d4
 obtain ⟨b6,s6,rfl,d6⟩:=Zb d5
 obtain ⟨b7,s7,rfl,d7⟩:=Zb d6
 obtain rfl:=List.eq_nil_of_length_eq_zero d7
 exact hP b0 b1 b2 b3 b4 b5 b6 b7
theorem Z4e {P:List Int->Prop} (hP:∀b0 b1 b2 b3 b4 b5 b6 b7 b8 b9 b10 b11 b12 b13 b14 b15 b16 b17 b18 b19 b20 b21 b22 b23 b24 b25 b26 b27 b28 b29 b30 b31 b32 b33 b34 b35 b36 b37 b38 b39 b40 b41 b42 b43 b44 b45 b46 b47 b48 b49 b50 b51 b52 b53 b54 b55 b56 b57 b58 b59 b60 b61 b62 b63:Int,P [b0,b1,b2,b3,b4,b5,b6,b7,b8,b9,b10,b11,b12,b13,b14,b15,b16,b17,b18,b19,b20,b21,b22,b23,b24,b25,b26,b27,b28,b29,b30,b31,b32,b33,b34,b35,b36,b37,b38,b39,b40,b41,b42,b43,b44,b45,b46,b47,b48,b49,b50,b51,b52,b53,b54,b55,b56,b57,b58,b59,b60,b61,b62,b63]) (b:List Int) (hb:b.length=64):P b:=by
 obtain ⟨b0,s0,rfl,d0⟩:=Zb hb
 obtain ⟨b1,s1,rfl,d1⟩:=Zb d0
 obtain ⟨b2,s2,rfl,d2⟩:=Zb d1
 obtain ⟨b3,s3,rfl,d3⟩:=Zb d2
 obtain ⟨b4,s4,rfl,d4⟩:=Zb d3
 obtain ⟨b5,s5,rfl,d5⟩:=Zb d4
 obtain ⟨b6,s6,rfl,d6⟩:=Zb d5
 obtain ⟨b7,s7,rfl,d7⟩:=Zb d6
 obtain ⟨b8,s8,rfl,d8⟩:=Zb d7
 obtain ⟨b9,s9,rfl,d9⟩:=Zb d8
 obtain ⟨b10,s10,rfl,d10⟩:=Zb d9
 obtain ⟨b11,s11,rfl,d11⟩:=Zb d10
 obtain ⟨b12,s12,rfl,d12⟩:=Zb d11
 obtain ⟨b13,s13,rfl,d13⟩:=Zb d12
 obtain ⟨b14,s14,rfl,d14⟩:=Zb d13
 obtain ⟨b15,s15,rfl,d15⟩:=Zb d14
 obtain ⟨b16,s16,rfl,d16⟩:=Zb d15
 obtain ⟨b17,s17,rfl,d17⟩:=Zb d16
 obtain ⟨b18,s18,rfl,d18⟩:=Zb d17
 obtain ⟨b19,s19,rfl,d19⟩:=Zb d18
 obtain ⟨b20,s20,rfl,d20⟩:=Zb d19
 obtain ⟨b21,s21,rfl,d21⟩:=Zb d20
 obtain ⟨b22,s22,rfl,d22⟩:=Zb d21
 obtain ⟨b23,s23,rfl,d23⟩:=Zb d22
 obtain ⟨b24,s24,rfl,d24⟩:=Zb d23
 obtain ⟨b25,s25,rfl,d25⟩:=Zb d24
 obtain ⟨b26,s26,rfl,d26⟩:=Zb d25
 obtain ⟨b27,s27,rfl,d27⟩:=Zb d26
 obtain ⟨b28,s28,rfl,d28⟩:=Zb d27
 obtain ⟨b29,s29,rfl,d29⟩:=Zb d28
 obtain ⟨b30,s30,rfl,d30⟩:=Zb d29
 obtain ⟨b31,s31,rfl,d31⟩:=Zb d30
 obtain ⟨b32,s32,rfl,d32⟩:=Zb d31
 obtain ⟨b33,s33,rfl,d33⟩:=Zb d32
 obtain ⟨b34,s34,rfl,d34⟩:=Zb d33
 obtain ⟨b35,s35,rfl,d35⟩:=Zb d34
 obtain ⟨b36,s36,rfl,d36⟩:=Zb d35
 obtain ⟨b37,s37,rfl,d37⟩:=Zb d36
 obtain ⟨b38,s38,rfl,d38⟩:=Zb d37
 obtain ⟨b39,s39,rfl,d39⟩:=Zb d38
 obtain ⟨b40,s40,rfl,d40⟩:=Zb d39
 obtain ⟨b41,s41,rfl,d41⟩:=Zb d40
 obtain ⟨b42,s42,rfl,d42⟩:=Zb d41
 obtain ⟨b43,s43,rfl,d43⟩:=Zb d42
 obtain ⟨b44,s44,rfl,d44⟩:=Zb d43
 obtain ⟨b45,s45,rfl,d45⟩:=Zb d44
 obtain ⟨b46,s46,rfl,d46⟩:=Zb d45
 obtain ⟨b47,s47,rfl,d47⟩:=Zb d46
 obtain ⟨b48,s48,rfl,d48⟩:=Zb d47
 obtain ⟨b49,s49,rfl,d49⟩:=Zb d48
 obtain ⟨b50,s50,rfl,d50⟩:=Zb d49
 obtain ⟨b51,s51,rfl,d51⟩:=Zb d50
 obtain ⟨b52,s52,rfl,d52⟩:=Zb d51
 obtain ⟨b53,s53,rfl,d53⟩:=Zb d52
 obtain ⟨b54,s54,rfl,d54⟩:=Zb d53
 obtain ⟨b55,s55,rfl,d55⟩:=Zb d54
 obtain ⟨b56,s56,rfl,d56⟩:=Zb d55
 obtain ⟨b57,s57,rfl,d57⟩:=Zb d56
 obtain ⟨b58,s58,rfl,d58⟩:=Zb d57
 obtain ⟨b59,s59,rfl,d59⟩:=Zb d58
 obtain ⟨b60,s60,rfl,d60⟩:=Zb d59
 obtain ⟨b61,s61,rfl,d61⟩:=Zb d60
 obtain ⟨b62,s62,rfl,d62⟩:=Zb d61
 obtain ⟨b63,s63,rfl,d63⟩:=Zb d62
 obtain rfl:=List.eq_nil_of_length_eq_zero d63
 exact hP b0 b1 b2 b3 b4 b5 b6 b7 b8 b9 b10 b11 b12 b13 b14 b15 b16 b17 b18 b19 b20 b21 b22 b23 b24 b25 b26 b27 b28 b29 b30 b31 b32 b33 b34 b35 b36 b37 b38 b39 b40 b41 b42 b43 b44 b45 b46 b47 b48 b49 b50 b51 b52 b53 b54 b55 b56 b57 b58 b59 b60 b61 b62 b63
theorem Z0v {h b:List Int} (hk:blkK h b):∃l:List Int,l.length=8/\PureC E2 95 [rowV .u32 h,.psl Th.bys b false] (rowV .u32 l):=by
 obtain ⟨l,h1,h2⟩:=Zzv Zrs (Vg Zrs Zru fun f N c=>(Zkp Zrs Zru 3000 f N c).1) hk
 exact ⟨l,h1,Z36 h2⟩
attribute [local irreducible] blkK
theorem Zws:∀h:List Int,h.length=8->∀b:List Int,b.length=64->blkK h b:=
 all8 (P:=fun h=>∀b:List Int,b.length=64->blkK h b) (fun h0 h1 h2 h3 h4 h5 h6 h7=>Z4e (P:=fun b=>blkK [h0,h1,h2,h3,h4,h5,h6,h7] b) (fun b0 b1 b2 b3 b4 b5 b6 b7 b8 b9 b10 b11 b12 b13 b14 b15 b16 b17 b18 b19 b20 b21 b22 b23 b24 b25 b26 b27 b28 b29 b30 b31 b32 b33 b34 b35 b36 b37 b38 b39 b40 b41 b42 b43 b44 b45 b46 b47 b48 b49 b50 b51 b52 b53 b54 b55 b56 b57 b58 b59 b60 b61 b62 b63=>(Zpg h0 h1 h2 h3 h4 h5 h6 h7 b0 b1 b2 b3 b4 b5 b6 b7 b8 b9 b10 b11 b12 b13 b14 b15 b16 b17 b18 b19 b20 b21 b22 b23 b24 b25 b26 b27 b28 b29 b30 b31 b32 b33 b34 b35 b36 b37 b38 b39 b40 b41 b42 b43 b44 b45 b46 b47 b48 b49 b50 b51 b52 b53 b54 b55 b56 b57 b58 b59 b60 b61 b62 b63).mpr trivial))
theorem Zg2 (h b:List Int) (hh:h.length=8) (hb:b.length=64):∃l:List Int,l.length=8/\PureC E2 95 [rowV .u32 h,.psl Th.bys b false] (rowV .u32 l):=Z0v (Zws h hh b hb)
def blkF (h b:List Int):List Int:=if hh:h.length=8/\b.length=64 then (Zg2 h b hh.1 hh.2).choose else []
theorem Zna {h b:List Int} (hh:h.length=8) (hb:b.length=64):(blkF h b).length=8:=by
 unfold blkF
 rw [dif_pos ⟨hh,hb⟩]
 exact (Zg2 h b hh hb).choose_spec.1
theorem Zwt {h b:List Int} (hh:h.length=8) (hb:b.length=64):PureC E2 95 [rowV .u32 h,.psl Th.bys b false] (rowV .u32 (blkF h b)):=by
 unfold blkF
 rw [dif_pos ⟨hh,hb⟩]
 exact (Zg2 h b hh hb).choose_spec.2
end
section
open Go
def dBys (E:Eng thy):Dc E (List Int):=(Zk4 (E:=E) Th.bys:Dc E (List (thy.dom Th.bys)))
def Z2x (E:Eng thy):Dc E (List (List Int)):=(Zk4 (E:=E) Th.byss:Dc E (List (thy.dom Th.byss)))
def row8 (H:List Int):SV thy:= .agg [.int false .u32 (H.getD 0 0),.int false .u32 (H.getD 1 0),.int false .u32 (H.getD 2 0),.int false .u32 (H.getD 3 0),.int false .u32 (H.getD 4 0),.int false .u32 (H.getD 5 0),.int false .u32 (H.getD 6 0),.int false .u32 (H.getD 7 0)]
theorem Z0d {H:List Int} (h:H.length=8):rowV .u32 H=row8 H:=all8 (P:=fun H=>rowV .u32 H=row8 H) (fun _ _ _ _ _ _ _ _=>rfl) H h
def gthT (cs:List (SV thy)):Option Th:=match cs with| .int _ .u8 _::_=>some .bys|_=>none
def Sblk:Sum thy:=sumF E2 gthT 2 (.cons (Z3q E2 .u32) (.cons (dBys E2) .nil)) (fun x=>x.1.length=8/\x.2.1.length=64) fun x=>row8 (blkF x.1 x.2.1)
theorem Z0e:SumOk E2 95 Sblk:=Zgu Zh (Zi (f:=95) rfl) fun x h=>by
 have:=Zwt h.1 h.2
 rw [Z0d (Zna h.1 h.2)] at this
 exact this
def A58a:Fr thy->Hp thy->Nat->Ann2 thy:=fun T h i=>{X:=DX,fr:=fun s x=>match s with|true=> [(2,T 2),(3,.val (.slice none 0 0)),(10,T 10),(11,T 11),(12,.int false .i64 x.k)]|false=> [(2,T 2),(3,.sl i 0 x.D.length 1 none),(10,T 10),(11,T 11),(12,.int false .i64 x.k)],bl:=fun s x=>match s with|true=>blkP h (T 2)|false=>(i,.rows Th.bys x.D 0)::blkP h (T 2),src:=fun s=>match s with|true=> []|false=> [(i,3)],md:= [],ih:=i+1,M:=i+40,meas:=fun s x=>x.r}
def A58b:Fr thy->Hp thy->Nat->Ann thy:=fun T h i=>{X:=DX,fr:=fun x=> [(2,T 2),(3,.sl i 0 x.D.length 1 none),(6,T 6)],bl:=fun x=>(i,.rows Th.bys x.D 0)::blkP h (T 2),src:=fun _=> [(i,3)],md:= [bOf (T 3)],ih:=i+1,M:=i+40,meas:=fun x=>x.r}
def A58c:Fr thy->Hp thy->Nat->Ann2 thy:=fun T h i=>{X:=DX,fr:=fun s x=>match s with|true=> [(2,T 2),(3,.sl (bOf (T 3)) x.n x.m 1 none),(8,T 8)]|false=> [(2,T 2),(3,.psl Th.bys [] false),(8,T 8)],bl:=fun s x=>match s with|true=>(bOf (T 8),.raw (row8 x.H).cells 0 none)::(blkZ h (T 3) x.fz++blkP h (T 2))|false=>(bOf (T 8),.raw (row8 x.H).cells 0 none)::blkP h (T 2),src:=fun _=> [],md:= [bOf (T 3),bOf (T 8)],ih:=i,M:=i+60,meas:=fun s x=>x.r}
def A58d:Fr thy->Hp thy->Nat->Ann thy:=fun T h i=>{X:=DX,fr:=fun x=> [(2,T 2),(3,.sl i 0 x.D.length 1 none),(6,T 6),(7,.int false .i64 x.j)],bl:=fun x=>(i,.rows Th.bys x.D 0)::blkP h (T 2),src:=fun _=> [(i,3)],md:= [bOf (T 3)],ih:=i+1,M:=i+40,meas:=fun x=>x.r}
def F20:Fns thy:=addL (Zzf (addL (Zzf (addS F0 95 Sblk) 79 3 A58a E2) 79 9 A58b E2) 79 16 A58c E2) 79 12 A58d E2
theorem Z2y:FnsOk E2 F20:=Z3 Zh (Zmd Zh (Z3 Zh (Zmd Zh (Zf X5 Z0e) _ _ _) _ _ _) _ _ _) _ _ _
def Zx (d:List Int):SV thy:= .agg [.int false .u8 (d.getD 0 0),.int false .u8 (d.getD 1 0),.int false .u8 (d.getD 2 0),.int false .u8 (d.getD 3 0),.int false .u8 (d.getD 4 0),.int false .u8 (d.getD 5 0),.int false .u8 (d.getD 6 0),.int false .u8 (d.getD 7 0),.int false .u8 (d.getD 8 0),.int false .u8 (d.getD 9 0),.int false .u8 (d.getD 10 0),.int false .u8 (d.getD 11 0),.int false .u8 (d.getD 12 0),.int false .u8 (d.getD 13 0),.int false .u8 (d.getD 14 0),.int false .u8 (d.getD 15 0),.int false .u8 (d.getD 16 0),.int false .u8 (d.getD 17 0),.int false .u8 (d.getD 18 0),.int false .u8 (d.getD 19 0),.int false .u8 (d.getD 20 0),.int false .u8 (d.getD 21 0),.int false .u8 (d.getD 22 0),.int false .u8 (d.getD 23 0),.int false .u8 (d.getD 24 0),.int false .u8 (d.getD 25 0),.int false .u8 (d.getD 26 0),.int false .u8 (d.getD 27 0),.int false .u8 (d.getD 28 0),.int false .u8 (d.getD 29 0),.int false .u8 (d.getD 30 0),.int false .u8 (d.getD 31 0)]
def e32q (x y:List Int):Prop:=List.getD x 0 0=List.getD y 0 0/\List.getD x 1 0=List.getD y 1 0/\List.getD x 2 0=List.getD y 2 0/\List.getD x 3 0=List.getD y 3 0/\List.getD x 4 0=List.getD y 4 0/\List.getD x 5 0=List.getD y 5 0/\List.getD x 6 0=List.getD y 6 0/\List.getD x 7 0=List.getD y 7 0/\List.getD x 8 0=List.getD y 8 0/\List.getD x 9 0=List.getD y 9 0/\List.getD x 10 0=List.getD y 10 0/\List.getD x 11 0=List.getD y 11 0/\List.getD x 12 0=List.getD y 12 0/\List.getD x 13 0=List.getD y 13 0/\List.getD x 14 0=List.getD y 14 0/\List.getD x 15 0=List.getD y 15 0/\List.getD x 16 0=List.getD y 16 0/\List.getD x 17 0=List.getD y 17 0/\List.getD x 18 0=List.getD y 18 0/\List.getD x 19 0=List.getD y 19 0/\List.getD x 20 0=List.getD y 20 0/\List.getD x 21 0=List.getD y 21 0/\List.getD x 22 0=List.getD y 22 0/\List.getD x 23 0=List.getD y 23 0/\List.getD x 24 0=List.getD y 24 0/\List.getD x 25 0=List.getD y 25 0/\List.getD x 26 0=List.getD y 26 0/\List.getD x 27 0=List.getD y 27 0/\List.getD x 28 0=List.getD y 28 0/\List.getD x 29 0=List.getD y 29 0/\List.getD x 30 0=List.getD y 30 0/\List.getD x 31 0=List.getD y 31 0/\True
theorem e32r (x:List Int):e32q x x:=by
 unfold e32q
 repeat' (first|exact rfl|exact trivial|apply And.intro)
def z00:Prop:=(0:Int)=(0:Int)/\(0:Int)=(0:Int)/\(0:Int)=(0:Int)/\(0:Int)=(0:Int)/\(0:Int)=(0:Int)/\(0:Int)=(0:Int)/\(0:Int)=(0:Int)/\(0:Int)=(0:Int)/\(0:Int)=(0:Int)/\(0:Int)=(0:Int)/\(0:Int)=(0:Int)/\(0:Int)=(0:Int)/\(0:Int)=(0:Int)/\(0:Int)=(0:Int)/\(0:Int)=(0:Int)/\(0:Int)=(0:Int)/\(0:Int)=(0:Int)/\(0:Int)=(0:Int)/\(0:Int)=(0:Int)/\(0:Int)=(0:Int)/\(0:Int)=(0:Int)/\(0:Int)=(0:Int)/\(0:Int)=(0:Int)/\(0:Int)=(0:Int)/\(0:Int)=(0:Int)/\(0:Int)=(0:Int)/\(0:Int)=(0:Int)/\(0:Int)=(0:Int)/\(0:Int)=(0:Int)/\(0:Int)=(0:Int)/\(0:Int)=(0:Int)/\(0:Int)=(0:Int)/\True
theorem Z2z:z00=True:=eq_true (by
 unfold z00
 repeat' (first|exact rfl|exact trivial|apply And.intro))
def h8q (x:List Int):List Int:= [List.getD x 0 0,List.getD x 1 0,List.getD x 2 0,List.getD x 3 0,List.getD x 4 0,List.getD x 5 0,List.getD x 6 0,List.getD x 7 0]
theorem Zwj (ps:List (List Int)) (d:List Int):Zr E2 F20 (vc E2 F20 400) 79 [.psl Th.byss ps false] hp0 0 (fun r=>ret E2 (patch hp0 0 r) r.v (Zx d))=(
 ∃(R:Bool->DX->Prop),((∃(x:DX),R true x/\true=true/\((0:Nat)=(0:Nat)/\Value.slice none (0:Nat) (0:Nat)=Value.slice none (0:Nat) (0:Nat)/\(ps=ps/\
 (false=true->false=true))/\(↑(List.length ps):Int)=(↑(List.length ps):Int)/\(0:Int)=(↑(DX.k x):Int)/\True)/\z00/\True)\/∃(x:DX),R false x/\true=true/\
 False)/\(∀(x:DX),R true x->(decide ((↑(DX.k x):Int)<(↑(List.length ps):Int))=true->(0:Int)<=(↑(DX.k x):Int)/\(↑(DX.k x):Int)+(1:Int)<=(↑(List.length ps)
 :Int)/\∀(x_1:List Int),ps[Int.toNat (↑(DX.k x):Int)]? =some x_1->(x_1=([]:List Int)->(∃(x':DX),R true x'/\x'.2+(1:Nat)<=x.2/\true=true/\((0:Nat)=(0
 :Nat)/\Value.slice none (0:Nat) (0:Nat)=Value.slice none (0:Nat) (0:Nat)/\(ps=ps/\(false=true->false=true))/\(↑(List.length ps):Int)=(↑(List.length ps):
 Int)/\wr IntKind.i64 ((↑(DX.k x):Int)+(1:Int))=(↑(DX.k x'):Int)/\True)/\z00/\True)\/∃(x':DX),R false x'/\x'.2+(1:Nat)<=x.2/\true=true/\False)/\(x_1≠
 ([]:List Int)->List.length x_1*(1:Nat)<=(140737488355328:Nat)/\((∃(x':DX),R true x'/\x'.2+(1:Nat)<=x.2/\true=true/\((0:Nat)=(0:Nat)/\False/\(ps=
 ps/\(false=true->false=true))/\(↑(List.length ps):Int)=(↑(List.length ps):Int)/\wr IntKind.i64 ((↑(DX.k x):Int)+(1:Int))=(↑(DX.k x'):Int)/\True)/\z00/\
 True)\/∃(x':DX),R false x'/\x'.2+(1:Nat)<=x.2/\true=true/\((0:Nat)=(0:Nat)/\((0:Nat)=(0:Nat)/\List.length x_1=List.length (DX.D x')/\True)/\(ps=
 ps/\(false=true->false=true))/\(↑(List.length ps):Int)=(↑(List.length ps):Int)/\wr IntKind.i64 ((↑(DX.k x):Int)+(1:Int))=(↑(DX.k x'):Int)/\True)/\(x_1=
 DX.D x'/\(0:Nat)=(0:Nat))/\z00/\True)))/\(decide ((↑(DX.k x):Int)<(↑(List.length ps):Int))=false->∃(R:DX->Prop),(∃(x:DX),R x/\true=true/\((0:Nat)
 =(0:Nat)/\((0:Nat)=(0:Nat)/\(1:Nat)=List.length (DX.D x)/\True)/\(0:Int)=(0:Int)/\True)/\([(128:Int)]=DX.D x/\(0:Nat)=(0:Nat))/\z00/\True)/\∀
 (x:DX),R x->((Int.tmod (↑(List.length (DX.D x)):Int) (64:Int) !=(56:Int))=true->(List.length (DX.D x)<=List.length (DX.D x)/\(0:Nat)<=List.length (DX.D x)/\
 (List.length (DX.D x)+(1:Nat))*(1:Nat)<=(140737488355328:Nat))/\∃(x':DX),R x'/\x'.2+(1:Nat)<=x.2/\true=true/\((0:Nat)=(0:Nat)/\((0:Nat)=(0:
 Nat)/\List.length (DX.D x)+(1:Nat)=List.length (DX.D x')/\True)/\(0:Int)=(0:Int)/\True)/\(List.take (List.length (DX.D x)) (DX.D x)++ [(0:Int)]=DX.D x'/\(0:
 Nat)=(0:Nat))/\z00/\True)/\((Int.tmod (↑(List.length (DX.D x)):Int) (64:Int) !=(56:Int))=false->∃(R:DX->Prop),(∃(x_1:DX),R x_1/\true=true/\((0:Nat)
 =(0:Nat)/\((0:Nat)=(0:Nat)/\List.length (DX.D x)=List.length (DX.D x_1)/\True)/\(0:Int)=(0:Int)/\(56:Int)=DX.j x_1/\True)/\(DX.D x=DX.D x_1/\(0:
 Nat)=(0:Nat))/\z00/\True)/\∀(x:DX),R x->(decide (DX.j x>=(0:Int))=true->(0:Int)<=DX.j x/\(List.length (DX.D x)<=List.length (DX.D x)/\(0:Nat)<=
 List.length (DX.D x)/\(List.length (DX.D x)+(1:Nat))*(1:Nat)<=(140737488355328:Nat))/\∃(x':DX),R x'/\x'.2+(1:Nat)<=x.2/\true=true/\((0:Nat)=(0:Nat)
 /\((0:Nat)=(0:Nat)/\List.length (DX.D x)+(1:Nat)=List.length (DX.D x')/\True)/\(0:Int)=(0:Int)/\wr IntKind.i64 (DX.j x-(8:Int))=DX.j x'/\True)/\
 (List.take (List.length (DX.D x)) (DX.D x)++ [wr IntKind.u8 (Int.fdiv (0:Int) ((2:Int)^min (Int.toNat (DX.j x)) (IntKind.bits IntKind.u64)))]=DX.D x'/\(0:Nat)=(0:
 Nat))/\z00/\True)/\(decide (DX.j x>=(0:Int))=false->∃(R:Bool->DX->Prop),((∃(x_1:DX),R true x_1/\true=true/\((0:Nat)=(0:Nat)/\((0:Nat)=DX.n x_1/\
 List.length (DX.D x)=DX.m x_1/\True)/\(0:Nat)=(0:Nat)/\True)/\((1779033703:Int)=List.getD (DX.H x_1) (0:Nat) (0:Int)/\(3144134277:Int)=List.getD (DX.H x_1)
 (1:Nat) (0:Int)/\(1013904242:Int)=List.getD (DX.H x_1) (2:Nat) (0:Int)/\(2773480762:Int)=List.getD (DX.H x_1) (3:Nat) (0:Int)/\(1359893119:Int)=List.getD
 (DX.H x_1) (4:Nat) (0:Int)/\(2600822924:Int)=List.getD (DX.H x_1) (5:Nat) (0:Int)/\(528734635:Int)=List.getD (DX.H x_1) (6:Nat) (0:Int)/\(1541459225:Int)=
 List.getD (DX.H x_1) (7:Nat) (0:Int)/\True)/\(DX.D x=DX.D x/\(0:Nat)=DX.fz x_1)/\z00/\True)\/∃(x:DX),R false x/\true=true/\((0:Nat)=(0:Nat)/\False/\
 (0:Nat)=(0:Nat)/\True)/\((1779033703:Int)=List.getD (DX.H x) (0:Nat) (0:Int)/\(3144134277:Int)=List.getD (DX.H x) (1:Nat) (0:Int)/\(1013904242:Int)=
 List.getD (DX.H x) (2:Nat) (0:Int)/\(2773480762:Int)=List.getD (DX.H x) (3:Nat) (0:Int)/\(1359893119:Int)=List.getD (DX.H x) (4:Nat) (0:Int)/\(2600822924:
 Int)=List.getD (DX.H x) (5:Nat) (0:Int)/\(528734635:Int)=List.getD (DX.H x) (6:Nat) (0:Int)/\(1541459225:Int)=List.getD (DX.H x) (7:Nat) (0:Int)/\True)/\
 z00/\True)/\(∀(x_1:DX),R true x_1->(decide ((↑(DX.m x_1):Int)>(0:Int))=true->((0:Int)<=(64:Int)/\(64:Int)<=(↑(DX.m x_1):Int))/\DX.n x_1+Int.toNat (64
 :Int)<=List.length (DX.D x)/\((8:Nat)=(8:Nat)/\List.length (List.take (Int.toNat (64:Int)) (List.drop (DX.n x_1) (DX.D x)))=(64:Nat))/\((0:Int)<=(64:Int)/\
 (64:Int)<=(↑(DX.m x_1):Int))/\(decide ((64:Int)<(↑(DX.m x_1):Int))=true->(∃(x':DX),R true x'/\x'.2+(1:Nat)<=x_1.2/\true=true/\((0:Nat)=(0:Nat)/\
 (DX.n x_1+Int.toNat (64:Int)=DX.n x'/\DX.m x_1-Int.toNat (64:Int)=DX.m x'/\True)/\(0:Nat)=(0:Nat)/\True)/\(List.getD (blkF (h8q (DX.H x_1)) (List.take
 (Int.toNat (64:Int)) (List.drop (DX.n x_1) (DX.D x)))) (0:Nat) (0:Int)=List.getD (DX.H x') (0:Nat) (0:Int)/\List.getD (blkF (h8q (DX.H x_1)) (List.take (Int.toNat (64
 :Int)) (List.drop (DX.n x_1) (DX.D x)))) (1:Nat) (0:Int)=List.getD (DX.H x') (1:Nat) (0:Int)/\List.getD (blkF (h8q (DX.H x_1)) (List.take (Int.toNat (64:Int))
 (List.drop (DX.n x_1) (DX.D x)))) (2:Nat) (0:Int)=List.getD (DX.H x') (2:Nat) (0:Int)/\List.getD (blkF (h8q (DX.H x_1)) (List.take (Int.toNat (64:Int)) (List.drop
 (DX.n x_1) (DX.D x)))) (3:Nat) (0:Int)=List.getD (DX.H x') (3:Nat) (0:Int)/\List.getD (blkF (h8q (DX.H x_1)) (List.take (Int.toNat (64:Int)) (List.drop (DX.n x_1)
 (DX.D x)))) (4:Nat) (0:Int)=List.getD (DX.H x') (4:Nat) (0:Int)/\List.getD (blkF (h8q (DX.H x_1)) (List.take (Int.toNat (64:Int)) (List.drop (DX.n x_1) (DX.D x)))) (5
 :Nat) (0:Int)=List.getD (DX.H x') (5:Nat) (0:Int)/\List.getD (blkF (h8q (DX.H x_1)) (List.take (Int.toNat (64:Int)) (List.drop (DX.n x_1) (DX.D x)))) (6:Nat) (0:
 Int)=List.getD (DX.H x') (6:Nat) (0:Int)/\List.getD (blkF (h8q (DX.H x_1)) (List.take (Int.toNat (64:Int)) (List.drop (DX.n x_1) (DX.D x)))) (7:Nat) (0:Int)=
 List.getD (DX.H x') (7:Nat) (0:Int)/\True)/\(DX.D x=DX.D x/\mx2 (DX.fz x_1) (List.length (DX.D x))=DX.fz x')/\z00/\True)\/∃(x':DX),R false x'/\x'.2+(1:Nat)<=
 x_1.2/\true=true/\((0:Nat)=(0:Nat)/\False/\(0:Nat)=(0:Nat)/\True)/\(List.getD (blkF (h8q (DX.H x_1)) (List.take (Int.toNat (64:Int)) (List.drop (DX.n x_1)
 (DX.D x)))) (0:Nat) (0:Int)=List.getD (DX.H x') (0:Nat) (0:Int)/\List.getD (blkF (h8q (DX.H x_1)) (List.take (Int.toNat (64:Int)) (List.drop (DX.n x_1) (DX.D x)))) (1
 :Nat) (0:Int)=List.getD (DX.H x') (1:Nat) (0:Int)/\List.getD (blkF (h8q (DX.H x_1)) (List.take (Int.toNat (64:Int)) (List.drop (DX.n x_1) (DX.D x)))) (2:Nat) (0:
 Int)=List.getD (DX.H x') (2:Nat) (0:Int)/\List.getD (blkF (h8q (DX.H x_1)) (List.take (Int.toNat (64:Int)) (List.drop (DX.n x_1) (DX.D x)))) (3:Nat) (0:Int)=
 List.getD (DX.H x') (3:Nat) (0:Int)/\List.getD (blkF (h8q (DX.H x_1)) (List.take (Int.toNat (64:Int)) (List.drop (DX.n x_1) (DX.D x)))) (4:Nat) (0:Int)=List.getD (DX.H
 x') (4:Nat) (0:Int)/\List.getD (blkF (h8q (DX.H x_1)) (List.take (Int.toNat (64:Int)) (List.drop (DX.n x_1) (DX.D x)))) (5:Nat) (0:Int)=List.getD (DX.H x') (5:Nat)
 (0:Int)/\List.getD (blkF (h8q (DX.H x_1)) (List.take (Int.toNat (64:Int)) (List.drop (DX.n x_1) (DX.D x)))) (6:Nat) (0:Int)=List.getD (DX.H x') (6:Nat) (0:Int)/\
 List.getD (blkF (h8q (DX.H x_1)) (List.take (Int.toNat (64:Int)) (List.drop (DX.n x_1) (DX.D x)))) (7:Nat) (0:Int)=List.getD (DX.H x') (7:Nat) (0:Int)/\True)/\z00/\
 True)/\(decide ((64:Int)<(↑(DX.m x_1):Int))=false->(∃(x':DX),R true x'/\x'.2+(1:Nat)<=x_1.2/\true=true/\((0:Nat)=(0:Nat)/\False/\(0:Nat)=(0:
 Nat)/\True)/\(List.getD (blkF (h8q (DX.H x_1)) (List.take (Int.toNat (64:Int)) (List.drop (DX.n x_1) (DX.D x)))) (0:Nat) (0:Int)=List.getD (DX.H x') (0:Nat) (0:Int)/\
 List.getD (blkF (h8q (DX.H x_1)) (List.take (Int.toNat (64:Int)) (List.drop (DX.n x_1) (DX.D x)))) (1:Nat) (0:Int)=List.getD (DX.H x') (1:Nat) (0:Int)/\List.getD (blkF
 (h8q (DX.H x_1)) (List.take (Int.toNat (64:Int)) (List.drop (DX.n x_1) (DX.D x)))) (2:Nat) (0:Int)=List.getD (DX.H x') (2:Nat) (0:Int)/\List.getD (blkF (h8q (DX.H
 x_1)) (List.take (Int.toNat (64:Int)) (List.drop (DX.n x_1) (DX.D x)))) (3:Nat) (0:Int)=List.getD (DX.H x') (3:Nat) (0:Int)/\List.getD (blkF (h8q (DX.H x_1))
 (List.take (Int.toNat (64:Int)) (List.drop (DX.n x_1) (DX.D x)))) (4:Nat) (0:Int)=List.getD (DX.H x') (4:Nat) (0:Int)/\List.getD (blkF (h8q (DX.H x_1)) (List.take
 (Int.toNat (64:Int)) (List.drop (DX.n x_1) (DX.D x)))) (5:Nat) (0:Int)=List.getD (DX.H x') (5:Nat) (0:Int)/\List.getD (blkF (h8q (DX.H x_1)) (List.take (Int.toNat (64
 :Int)) (List.drop (DX.n x_1) (DX.D x)))) (6:Nat) (0:Int)=List.getD (DX.H x') (6:Nat) (0:Int)/\List.getD (blkF (h8q (DX.H x_1)) (List.take (Int.toNat (64:Int))
 (List.drop (DX.n x_1) (DX.D x)))) (7:Nat) (0:Int)=List.getD (DX.H x') (7:Nat) (0:Int)/\True)/\(DX.D x=DX.D x/\mx2 (DX.fz x_1) (List.length (DX.D x))=DX.fz x')/\
 z00/\True)\/∃(x':DX),R false x'/\x'.2+(1:Nat)<=x_1.2/\true=true/\((0:Nat)=(0:Nat)/\(([]:List Int)=([]:List Int)/\(false=true->false=true))/\(0:
 Nat)=(0:Nat)/\True)/\(List.getD (blkF (h8q (DX.H x_1)) (List.take (Int.toNat (64:Int)) (List.drop (DX.n x_1) (DX.D x)))) (0:Nat) (0:Int)=List.getD (DX.H x') (0:Nat)
 (0:Int)/\List.getD (blkF (h8q (DX.H x_1)) (List.take (Int.toNat (64:Int)) (List.drop (DX.n x_1) (DX.D x)))) (1:Nat) (0:Int)=List.getD (DX.H x') (1:Nat) (0:Int)/\
 List.getD (blkF (h8q (DX.H x_1)) (List.take (Int.toNat (64:Int)) (List.drop (DX.n x_1) (DX.D x)))) (2:Nat) (0:Int)=List.getD (DX.H x') (2:Nat) (0:Int)/\List.getD (blkF
 (h8q (DX.H x_1)) (List.take (Int.toNat (64:Int)) (List.drop (DX.n x_1) (DX.D x)))) (3:Nat) (0:Int)=List.getD (DX.H x') (3:Nat) (0:Int)/\List.getD (blkF (h8q (DX.H
 x_1)) (List.take (Int.toNat (64:Int)) (List.drop (DX.n x_1) (DX.D x)))) (4:Nat) (0:Int)=List.getD (DX.H x') (4:Nat) (0:Int)/\List.getD (blkF (h8q (DX.H x_1))
 (List.take (Int.toNat (64:Int)) (List.drop (DX.n x_1) (DX.D x)))) (5:Nat) (0:Int)=List.getD (DX.H x') (5:Nat) (0:Int)/\List.getD (blkF (h8q (DX.H x_1)) (List.take
 (Int.toNat (64:Int)) (List.drop (DX.n x_1) (DX.D x)))) (6:Nat) (0:Int)=List.getD (DX.H x') (6:Nat) (0:Int)/\List.getD (blkF (h8q (DX.H x_1)) (List.take (Int.toNat (64
 :Int)) (List.drop (DX.n x_1) (DX.D x)))) (7:Nat) (0:Int)=List.getD (DX.H x') (7:Nat) (0:Int)/\True)/\z00/\True))/\(decide ((↑(DX.m x_1):Int)>(0:Int))=false->
 wr IntKind.u8 (Int.fdiv (List.getD (DX.H x_1) (0:Nat) (0:Int)) ((2:Int)^min (Int.toNat (24:Int)) (IntKind.bits IntKind.u32)))=List.getD d (0:Nat) (0:Int)/\wr
 IntKind.u8 (Int.fdiv (List.getD (DX.H x_1) (0:Nat) (0:Int)) ((2:Int)^min (Int.toNat (16:Int)) (IntKind.bits IntKind.u32)))=List.getD d (1:Nat) (0:Int)/\wr
 IntKind.u8 (Int.fdiv (List.getD (DX.H x_1) (0:Nat) (0:Int)) ((2:Int)^min (Int.toNat (8:Int)) (IntKind.bits IntKind.u32)))=List.getD d (2:Nat) (0:Int)/\wr
 IntKind.u8 (Int.fdiv (List.getD (DX.H x_1) (0:Nat) (0:Int)) ((2:Int)^min (Int.toNat (0:Int)) (IntKind.bits IntKind.u32)))=List.getD d (3:Nat) (0:Int)/\wr
 IntKind.u8 (Int.fdiv (List.getD (DX.H x_1) (1:Nat) (0:Int)) ((2:Int)^min (Int.toNat (24:Int)) (IntKind.bits IntKind.u32)))=List.getD d (4:Nat) (0:Int)/\wr
 IntKind.u8 (Int.fdiv (List.getD (DX.H x_1) (1:Nat) (0:Int)) ((2:Int)^min (Int.toNat (16:Int)) (IntKind.bits IntKind.u32)))=List.getD d (5:Nat) (0:Int)/\wr
 IntKind.u8 (Int.fdiv (List.getD (DX.H x_1) (1:Nat) (0:Int)) ((2:Int)^min (Int.toNat (8:Int)) (IntKind.bits IntKind.u32)))=List.getD d (6:Nat) (0:Int)/\wr
 IntKind.u8 (Int.fdiv (List.getD (DX.H x_1) (1:Nat) (0:Int)) ((2:Int)^min (Int.toNat (0:Int)) (IntKind.bits IntKind.u32)))=List.getD d (7:Nat) (0:Int)/\wr
 IntKind.u8 (Int.fdiv (List.getD (DX.H x_1) (2:Nat) (0:Int)) ((2:Int)^min (Int.toNat (24:Int)) (IntKind.bits IntKind.u32)))=List.getD d (8:Nat) (0:Int)/\wr
 IntKind.u8 (Int.fdiv (List.getD (DX.H x_1) (2:Nat) (0:Int)) ((2:Int)^min (Int.toNat (16:Int)) (IntKind.bits IntKind.u32)))=List.getD d (9:Nat) (0:Int)/\wr
 IntKind.u8 (Int.fdiv (List.getD (DX.H x_1) (2:Nat) (0:Int)) ((2:Int)^min (Int.toNat (8:Int)) (IntKind.bits IntKind.u32)))=List.getD d (10:Nat) (0:Int)/\wr
 IntKind.u8 (Int.fdiv (List.getD (DX.H x_1) (2:Nat) (0:Int)) ((2:Int)^min (Int.toNat (0:Int)) (IntKind.bits IntKind.u32)))=List.getD d (11:Nat) (0:Int)/\wr
 IntKind.u8 (Int.fdiv (List.getD (DX.H x_1) (3:Nat) (0:Int)) ((2:Int)^min (Int.toNat (24:Int)) (IntKind.bits IntKind.u32)))=List.getD d (12:Nat) (0:Int)/\wr
 IntKind.u8 (Int.fdiv (List.getD (DX.H x_1) (3:Nat) (0:Int)) ((2:Int)^min (Int.toNat (16:Int)) (IntKind.bits IntKind.u32)))=List.getD d (13:Nat) (0:Int)/\wr
 IntKind.u8 (Int.fdiv (List.getD (DX.H x_1) (3:Nat) (0:Int)) ((2:Int)^min (Int.toNat (8:Int)) (IntKind.bits IntKind.u32)))=List.getD d (14:Nat) (0:Int)/\wr
 IntKind.u8 (Int.fdiv (List.getD (DX.H x_1) (3:Nat) (0:Int)) ((2:Int)^min (Int.toNat (0:Int)) (IntKind.bits IntKind.u32)))=List.getD d (15:Nat) (0:Int)/\wr
 IntKind.u8 (Int.fdiv (List.getD (DX.H x_1) (4:Nat) (0:Int)) ((2:Int)^min (Int.toNat (24:Int)) (IntKind.bits IntKind.u32)))=List.getD d (16:Nat) (0:Int)/\wr
 IntKind.u8 (Int.fdiv (List.getD (DX.H x_1) (4:Nat) (0:Int)) ((2:Int)^min (Int.toNat (16:Int)) (IntKind.bits IntKind.u32)))=List.getD d (17:Nat) (0:Int)/\wr
 IntKind.u8 (Int.fdiv (List.getD (DX.H x_1) (4:Nat) (0:Int)) ((2:Int)^min (Int.toNat (8:Int)) (IntKind.bits IntKind.u32)))=List.getD d (18:Nat) (0:Int)/\wr
 IntKind.u8 (Int.fdiv (List.getD (DX.H x_1) (4:Nat) (0:Int)) ((2:Int)^min (Int.toNat (0:Int)) (IntKind.bits IntKind.u32)))=List.getD d (19:Nat) (0:Int)/\wr
 IntKind.u8 (Int.fdiv (List.getD (DX.H x_1) (5:Nat) (0:Int)) ((2:Int)^min (Int.toNat (24:Int)) (IntKind.bits IntKind.u32)))=List.getD d (20:Nat) (0:Int)/\wr
 IntKind.u8 (Int.fdiv (List.getD (DX.H x_1) (5:Nat) (0:Int)) ((2:Int)^min (Int.toNat (16:Int)) (IntKind.bits IntKind.u32)))=List.getD d (21:Nat) (0:Int)/\wr
 IntKind.u8 (Int.fdiv (List.getD (DX.H x_1) (5:Nat) (0:Int)) ((2:Int)^min (Int.toNat (8:Int)) (IntKind.bits IntKind.u32)))=List.getD d (22:Nat) (0:Int)/\wr
 IntKind.u8 (Int.fdiv (List.getD (DX.H x_1) (5:Nat) (0:Int)) ((2:Int)^min (Int.toNat (0:Int)) (IntKind.bits IntKind.u32)))=List.getD d (23:Nat) (0:Int)/\wr
 IntKind.u8 (Int.fdiv (List.getD (DX.H x_1) (6:Nat) (0:Int)) ((2:Int)^min (Int.toNat (24:Int)) (IntKind.bits IntKind.u32)))=List.getD d (24:Nat) (0:Int)/\wr
 IntKind.u8 (Int.fdiv (List.getD (DX.H x_1) (6:Nat) (0:Int)) ((2:Int)^min (Int.toNat (16:Int)) (IntKind.bits IntKind.u32)))=List.getD d (25:Nat) (0:Int)/\wr
 IntKind.u8 (Int.fdiv (List.getD (DX.H x_1) (6:Nat) (0:Int)) ((2:Int)^min (Int.toNat (8:Int)) (IntKind.bits IntKind.u32)))=List.getD d (26:Nat) (0:Int)/\wr
 IntKind.u8 (Int.fdiv (List.getD (DX.H x_1) (6:Nat) (0:Int)) ((2:Int)^min (Int.toNat (0:Int)) (IntKind.bits IntKind.u32)))=List.getD d (27:Nat) (0:Int)/\wr
 IntKind.u8 (Int.fdiv (List.getD (DX.H x_1) (7:Nat) (0:Int)) ((2:Int)^min (Int.toNat (24:Int)) (IntKind.bits IntKind.u32)))=List.getD d (28:Nat) (0:Int)/\wr
 IntKind.u8 (Int.fdiv (List.getD (DX.H x_1) (7:Nat) (0:Int)) ((2:Int)^min (Int.toNat (16:Int)) (IntKind.bits IntKind.u32)))=List.getD d (29:Nat) (0:Int)/\wr
 IntKind.u8 (Int.fdiv (List.getD (DX.H x_1) (7:Nat) (0:Int)) ((2:Int)^min (Int.toNat (8:Int)) (IntKind.bits IntKind.u32)))=List.getD d (30:Nat) (0:Int)/\wr
 IntKind.u8 (Int.fdiv (List.getD (DX.H x_1) (7:Nat) (0:Int)) ((2:Int)^min (Int.toNat (0:Int)) (IntKind.bits IntKind.u32)))=List.getD d (31:Nat) (0:Int)/\True))/\∀
 (x:DX),R false x->(decide ((↑(0:Nat):Int)>(0:Int))=true->((0:Int)<=(64:Int)/\(64:Int)<=(↑(0:Nat):Int))/\((8:Nat)=(8:Nat)/\List.length (List.take
 (Int.toNat (64:Int)) ([]:List Int))=(64:Nat))/\((0:Int)<=(64:Int)/\(64:Int)<=(↑(0:Nat):Int))/\((∃(x':DX),R true x'/\x'.2+(1:Nat)<=x.2/\true=true
 /\((0:Nat)=(0:Nat)/\False/\(0:Nat)=(0:Nat)/\True)/\(List.getD (blkF (h8q (DX.H x)) (List.take (Int.toNat (64:Int)) ([]:List Int))) (0:Nat) (0:Int)=
 List.getD (DX.H x') (0:Nat) (0:Int)/\List.getD (blkF (h8q (DX.H x)) (List.take (Int.toNat (64:Int)) ([]:List Int))) (1:Nat) (0:Int)=List.getD (DX.H x') (1:Nat) (0
 :Int)/\List.getD (blkF (h8q (DX.H x)) (List.take (Int.toNat (64:Int)) ([]:List Int))) (2:Nat) (0:Int)=List.getD (DX.H x') (2:Nat) (0:Int)/\List.getD (blkF (h8q
 (DX.H x)) (List.take (Int.toNat (64:Int)) ([]:List Int))) (3:Nat) (0:Int)=List.getD (DX.H x') (3:Nat) (0:Int)/\List.getD (blkF (h8q (DX.H x)) (List.take (Int.toNat
 (64:Int)) ([]:List Int))) (4:Nat) (0:Int)=List.getD (DX.H x') (4:Nat) (0:Int)/\List.getD (blkF (h8q (DX.H x)) (List.take (Int.toNat (64:Int)) ([]:List Int))) (5
 :Nat) (0:Int)=List.getD (DX.H x') (5:Nat) (0:Int)/\List.getD (blkF (h8q (DX.H x)) (List.take (Int.toNat (64:Int)) ([]:List Int))) (6:Nat) (0:Int)=List.getD
 (DX.H x') (6:Nat) (0:Int)/\List.getD (blkF (h8q (DX.H x)) (List.take (Int.toNat (64:Int)) ([]:List Int))) (7:Nat) (0:Int)=List.getD (DX.H x') (7:Nat) (0:Int)/\
 True)/\False/\z00/\True)\/∃(x':DX),R false x'/\x'.2+(1:Nat)<=x.2/\true=true/\((0:Nat)=(0:Nat)/\(List.drop (Int.toNat (64:Int)) ([]:List Int)=([]:
 List Int)/\(false=true->false=true))/\(0:Nat)=(0:Nat)/\True)/\(List.getD (blkF (h8q (DX.H x)) (List.take (Int.toNat (64:Int)) ([]:List Int))) (0:Nat) (0:Int)
 =List.getD (DX.H x') (0:Nat) (0:Int)/\List.getD (blkF (h8q (DX.H x)) (List.take (Int.toNat (64:Int)) ([]:List Int))) (1:Nat) (0:Int)=List.getD (DX.H x') (1:Nat)
 (0:Int)/\List.getD (blkF (h8q (DX.H x)) (List.take (Int.toNat (64:Int)) ([]:List Int))) (2:Nat) (0:Int)=List.getD (DX.H x') (2:Nat) (0:Int)/\List.getD (blkF (h8q
 (DX.H x)) (List.take (Int.toNat (64:Int)) ([]:List Int))) (3:Nat) (0:Int)=List.getD (DX.H x') (3:Nat) (0:Int)/\List.getD (blkF (h8q (DX.H x)) (List.take (Int.toNat
 (64:Int)) ([]:List Int))) (4:Nat) (0:Int)=List.getD (DX.H x') (4:Nat) (0:Int)/\List.getD (blkF (h8q (DX.H x)) (List.take (Int.toNat (64:Int)) ([]:List Int))) (5
 :Nat) (0:Int)=List.getD (DX.H x') (5:Nat) (0:Int)/\List.getD (blkF (h8q (DX.H x)) (List.take (Int.toNat (64:Int)) ([]:List Int))) (6:Nat) (0:Int)=List.getD
 (DX.H x') (6:Nat) (0:Int)/\List.getD (blkF (h8q (DX.H x)) (List.take (Int.toNat (64:Int)) ([]:List Int))) (7:Nat) (0:Int)=List.getD (DX.H x') (7:Nat) (0:Int)/\
 True)/\z00/\True))/\(decide ((↑(0:Nat):Int)>(0:Int))=false->wr IntKind.u8 (Int.fdiv (List.getD (DX.H x) (0:Nat) (0:Int)) ((2:Int)^min (Int.toNat (24:Int))
 (IntKind.bits IntKind.u32)))=List.getD d (0:Nat) (0:Int)/\wr IntKind.u8 (Int.fdiv (List.getD (DX.H x) (0:Nat) (0:Int)) ((2:Int)^min (Int.toNat (16:Int))
 (IntKind.bits IntKind.u32)))=List.getD d (1:Nat) (0:Int)/\wr IntKind.u8 (Int.fdiv (List.getD (DX.H x) (0:Nat) (0:Int)) ((2:Int)^min (Int.toNat (8:Int))
 (IntKind.bits IntKind.u32)))=List.getD d (2:Nat) (0:Int)/\wr IntKind.u8 (Int.fdiv (List.getD (DX.H x) (0:Nat) (0:Int)) ((2:Int)^min (Int.toNat (0:Int))
 (IntKind.bits IntKind.u32)))=List.getD d (3:Nat) (0:Int)/\wr IntKind.u8 (Int.fdiv (List.getD (DX.H x) (1:Nat) (0:Int)) ((2:Int)^min (Int.toNat (24:Int))
 (IntKind.bits IntKind.u32)))=List.getD d (4:Nat) (0:Int)/\wr IntKind.u8 (Int.fdiv (List.getD (DX.H x) (1:Nat) (0:Int)) ((2:Int)^min (Int.toNat (16:Int))
 (IntKind.bits IntKind.u32)))=List.getD d (5:Nat) (0:Int)/\wr IntKind.u8 (Int.fdiv (List.getD (DX.H x) (1:Nat) (0:Int)) ((2:Int)^min (Int.toNat (8:Int))
 (IntKind.bits IntKind.u32)))=List.getD d (6:Nat) (0:Int)/\wr IntKind.u8 (Int.fdiv (List.getD (DX.H x) (1:Nat) (0:Int)) ((2:Int)^min (Int.toNat (0:Int))
 (IntKind.bits IntKind.u32)))=List.getD d (7:Nat) (0:Int)/\wr IntKind.u8 (Int.fdiv (List.getD (DX.H x) (2:Nat) (0:Int)) ((2:Int)^min (Int.toNat (24:Int))
 (IntKind.bits IntKind.u32)))=List.getD d (8:Nat) (0:Int)/\wr IntKind.u8 (Int.fdiv (List.getD (DX.H x) (2:Nat) (0:Int)) ((2:Int)^min (Int.toNat (16:Int))
 (IntKind.bits IntKind.u32)))=List.getD d (9:Nat) (0:Int)/\wr IntKind.u8 (Int.fdiv (List.getD (DX.H x) (2:Nat) (0:Int)) ((2:Int)^min (Int.toNat (8:Int))
 (IntKind.bits IntKind.u32)))=List.getD d (10:Nat) (0:Int)/\wr IntKind.u8 (Int.fdiv (List.getD (DX.H x) (2:Nat) (0:Int)) ((2:Int)^min (Int.toNat (0:Int))
 (IntKind.bits IntKind.u32)))=List.getD d (11:Nat) (0:Int)/\wr IntKind.u8 (Int.fdiv (List.getD (DX.H x) (3:Nat) (0:Int)) ((2:Int)^min (Int.toNat (24:Int))
 (IntKind.bits IntKind.u32)))=List.getD d (12:Nat) (0:Int)/\wr IntKind.u8 (Int.fdiv (List.getD (DX.H x) (3:Nat) (0:Int)) ((2:Int)^min (Int.toNat (16:Int))
 (IntKind.bits IntKind.u32)))=List.getD d (13:Nat) (0:Int)/\wr IntKind.u8 (Int.fdiv (List.getD (DX.H x) (3:Nat) (0:Int)) ((2:Int)^min (Int.toNat (8:Int))
 (IntKind.bits IntKind.u32)))=List.getD d (14:Nat) (0:Int)/\wr IntKind.u8 (Int.fdiv (List.getD (DX.H x) (3:Nat) (0:Int)) ((2:Int)^min (Int.toNat (0:Int))
 (IntKind.bits IntKind.u32)))=List.getD d (15:Nat) (0:Int)/\wr IntKind.u8 (Int.fdiv (List.getD (DX.H x) (4:Nat) (0:Int)) ((2:Int)^min (Int.toNat (24:Int))
 (IntKind.bits IntKind.u32)))=List.getD d (16:Nat) (0:Int)/\wr IntKind.u8 (Int.fdiv (List.getD (DX.H x) (4:Nat) (0:Int)) ((2:Int)^min (Int.toNat (16:Int))
 (IntKind.bits IntKind.u32)))=List.getD d (17:Nat) (0:Int)/\wr IntKind.u8 (Int.fdiv (List.getD (DX.H x) (4:Nat) (0:Int)) ((2:Int)^min (Int.toNat (8:Int))
 (IntKind.bits IntKind.u32)))=List.getD d (18:Nat) (0:Int)/\wr IntKind.u8 (Int.fdiv (List.getD (DX.H x) (4:Nat) (0:Int)) ((2:Int)^min (Int.toNat (0:Int))
 (IntKind.bits IntKind.u32)))=List.getD d (19:Nat) (0:Int)/\wr IntKind.u8 (Int.fdiv (List.getD (DX.H x) (5:Nat) (0:Int)) ((2:Int)^min (Int.toNat (24:Int))
 (IntKind.bits IntKind.u32)))=List.getD d (20:Nat) (0:Int)/\wr IntKind.u8 (Int.fdiv (List.getD (DX.H x) (5:Nat) (0:Int)) ((2:Int)^min (Int.toNat (16:Int))
 (IntKind.bits IntKind.u32)))=List.getD d (21:Nat) (0:Int)/\wr IntKind.u8 (Int.fdiv (List.getD (DX.H x) (5:Nat) (0:Int)) ((2:Int)^min (Int.toNat (8:Int))
 (IntKind.bits IntKind.u32)))=List.getD d (22:Nat) (0:Int)/\wr IntKind.u8 (Int.fdiv (List.getD (DX.H x) (5:Nat) (0:Int)) ((2:Int)^min (Int.toNat (0:Int))
 (IntKind.bits IntKind.u32)))=List.getD d (23:Nat) (0:Int)/\wr IntKind.u8 (Int.fdiv (List.getD (DX.H x) (6:Nat) (0:Int)) ((2:Int)^min (Int.toNat (24:Int))
 (IntKind.bits IntKind.u32)))=List.getD d (24:Nat) (0:Int)/\wr IntKind.u8 (Int.fdiv (List.getD (DX.H x) (6:Nat) (0:Int)) ((2:Int)^min (Int.toNat (16:Int))
 (IntKind.bits IntKind.u32)))=List.getD d (25:Nat) (0:Int)/\wr IntKind.u8 (Int.fdiv (List.getD (DX.H x) (6:Nat) (0:Int)) ((2:Int)^min (Int.toNat (8:Int))
 (IntKind.bits IntKind.u32)))=List.getD d (26:Nat) (0:Int)/\wr IntKind.u8 (Int.fdiv (List.getD (DX.H x) (6:Nat) (0:Int)) ((2:Int)^min (Int.toNat (0:Int))
 (IntKind.bits IntKind.u32)))=List.getD d (27:Nat) (0:Int)/\wr IntKind.u8 (Int.fdiv (List.getD (DX.H x) (7:Nat) (0:Int)) ((2:Int)^min (Int.toNat (24:Int))
 (IntKind.bits IntKind.u32)))=List.getD d (28:Nat) (0:Int)/\wr IntKind.u8 (Int.fdiv (List.getD (DX.H x) (7:Nat) (0:Int)) ((2:Int)^min (Int.toNat (16:Int))
 (IntKind.bits IntKind.u32)))=List.getD d (29:Nat) (0:Int)/\wr IntKind.u8 (Int.fdiv (List.getD (DX.H x) (7:Nat) (0:Int)) ((2:Int)^min (Int.toNat (8:Int))
 (IntKind.bits IntKind.u32)))=List.getD d (30:Nat) (0:Int)/\wr IntKind.u8 (Int.fdiv (List.getD (DX.H x) (7:Nat) (0:Int)) ((2:Int)^min (Int.toNat (0:Int))
 (IntKind.bits IntKind.u32)))=List.getD d (31:Nat) (0:Int)/\True)))))/\∀(x:DX),R false x->(decide ((↑(DX.k x):Int)<(↑(List.length ps):Int))=true->(0:Int)<=
 (↑(DX.k x):Int)/\(↑(DX.k x):Int)+(1:Int)<=(↑(List.length ps):Int)/\∀(x_1:List Int),ps[Int.toNat (↑(DX.k x):Int)]? =some x_1->(x_1=([]:List Int)->(∃(x':
 DX),R true x'/\x'.2+(1:Nat)<=x.2/\true=true/\((0:Nat)=(0:Nat)/\False/\(ps=ps/\(false=true->false=true))/\(↑(List.length ps):Int)=(↑(List.length ps)
 :Int)/\wr IntKind.i64 ((↑(DX.k x):Int)+(1:Int))=(↑(DX.k x'):Int)/\True)/\z00/\True)\/∃(x':DX),R false x'/\x'.2+(1:Nat)<=x.2/\true=true/\((0:Nat)=
 (0:Nat)/\((0:Nat)=(0:Nat)/\List.length (DX.D x)=List.length (DX.D x')/\True)/\(ps=ps/\(false=true->false=true))/\(↑(List.length ps):Int)=(↑(List.length
 ps):Int)/\wr IntKind.i64 ((↑(DX.k x):Int)+(1:Int))=(↑(DX.k x'):Int)/\True)/\(DX.D x=DX.D x'/\(0:Nat)=(0:Nat))/\z00/\True)/\(x_1≠([]:List Int)->
 (List.length (DX.D x)<=List.length (DX.D x)/\(0:Nat)<=List.length (DX.D x)/\(List.length (DX.D x)+List.length x_1)*(1:Nat)<=(140737488355328:Nat))/\((∃(x':DX),R
 true x'/\x'.2+(1:Nat)<=x.2/\true=true/\((0:Nat)=(0:Nat)/\False/\(ps=ps/\(false=true->false=true))/\(↑(List.length ps):Int)=(↑(List.length ps):Int)
 /\wr IntKind.i64 ((↑(DX.k x):Int)+(1:Int))=(↑(DX.k x'):Int)/\True)/\z00/\True)\/∃(x':DX),R false x'/\x'.2+(1:Nat)<=x.2/\true=true/\((0:Nat)=(0:
 Nat)/\((0:Nat)=(0:Nat)/\List.length (DX.D x)+List.length x_1=List.length (DX.D x')/\True)/\(ps=ps/\(false=true->false=true))/\(↑(List.length ps):Int)=
 (↑(List.length ps):Int)/\wr IntKind.i64 ((↑(DX.k x):Int)+(1:Int))=(↑(DX.k x'):Int)/\True)/\(List.take (List.length (DX.D x)) (DX.D x)++x_1=DX.D x'/\(0:Nat)=
 (0:Nat))/\z00/\True)))/\(decide ((↑(DX.k x):Int)<(↑(List.length ps):Int))=false->(List.length (DX.D x)<=List.length (DX.D x)/\(0:Nat)<=List.length (DX.D x)/\
 (List.length (DX.D x)+(1:Nat))*(1:Nat)<=(140737488355328:Nat))/\∃(R:DX->Prop),(∃(x_1:DX),R x_1/\true=true/\((0:Nat)=(0:Nat)/\((0:Nat)=(0:Nat)
 /\List.length (DX.D x)+(1:Nat)=List.length (DX.D x_1)/\True)/\wr IntKind.u64 (wr IntKind.u64 (↑(List.length (DX.D x)):Int)*(8:Int))=wr IntKind.u64 (wr IntKind.u64
 (↑(List.length (DX.D x)):Int)*(8:Int))/\True)/\(List.take (List.length (DX.D x)) (DX.D x)++ [(128:Int)]=DX.D x_1/\(0:Nat)=(0:Nat))/\z00/\True)/\∀(x_1:DX),
 R x_1->((Int.tmod (↑(List.length (DX.D x_1)):Int) (64:Int) !=(56:Int))=true->(List.length (DX.D x_1)<=List.length (DX.D x_1)/\(0:Nat)<=List.length (DX.D x_1)/\
 (List.length (DX.D x_1)+(1:Nat))*(1:Nat)<=(140737488355328:Nat))/\∃(x':DX),R x'/\x'.2+(1:Nat)<=x_1.2/\true=true/\((0:Nat)=(0:Nat)/\((0:Nat)=(0
 :Nat)/\List.length (DX.D x_1)+(1:Nat)=List.length (DX.D x')/\True)/\wr IntKind.u64 (wr IntKind.u64 (↑(List.length (DX.D x)):Int)*(8:Int))=wr IntKind.u64 (wr
 IntKind.u64 (↑(List.length (DX.D x)):Int)*(8:Int))/\True)/\(List.take (List.length (DX.D x_1)) (DX.D x_1)++ [(0:Int)]=DX.D x'/\(0:Nat)=(0:Nat))/\z00/\True)/\
 ((Int.tmod (↑(List.length (DX.D x_1)):Int) (64:Int) !=(56:Int))=false->∃(R:DX->Prop),(∃(x_2:DX),R x_2/\true=true/\((0:Nat)=(0:Nat)/\((0:Nat)=(0:
 Nat)/\List.length (DX.D x_1)=List.length (DX.D x_2)/\True)/\wr IntKind.u64 (wr IntKind.u64 (↑(List.length (DX.D x)):Int)*(8:Int))=wr IntKind.u64 (wr IntKind.u64
 (↑(List.length (DX.D x)):Int)*(8:Int))/\(56:Int)=DX.j x_2/\True)/\(DX.D x_1=DX.D x_2/\(0:Nat)=(0:Nat))/\z00/\True)/\∀(x_2:DX),R x_2->(decide (DX.j x_2
 >=(0:Int))=true->(0:Int)<=DX.j x_2/\(List.length (DX.D x_2)<=List.length (DX.D x_2)/\(0:Nat)<=List.length (DX.D x_2)/\(List.length (DX.D x_2)+(1:Nat))*(1:
 Nat)<=(140737488355328:Nat))/\∃(x':DX),R x'/\x'.2+(1:Nat)<=x_2.2/\true=true/\((0:Nat)=(0:Nat)/\((0:Nat)=(0:Nat)/\List.length (DX.D x_2)+(1:Nat)
 =List.length (DX.D x')/\True)/\wr IntKind.u64 (wr IntKind.u64 (↑(List.length (DX.D x)):Int)*(8:Int))=wr IntKind.u64 (wr IntKind.u64 (↑(List.length (DX.D x)):Int)*(8
 :Int))/\wr IntKind.i64 (DX.j x_2-(8:Int))=DX.j x'/\True)/\(List.take (List.length (DX.D x_2)) (DX.D x_2)++ [wr IntKind.u8 (Int.fdiv (wr IntKind.u64 (wr IntKind.u64
 (↑(List.length (DX.D x)):Int)*(8:Int))) ((2:Int)^min (Int.toNat (DX.j x_2)) (IntKind.bits IntKind.u64)))]=DX.D x'/\(0:Nat)=(0:Nat))/\z00/\True)/\(decide (DX.j
 x_2>=(0:Int))=false->∃(R:Bool->DX->Prop),((∃(x:DX),R true x/\true=true/\((0:Nat)=(0:Nat)/\((0:Nat)=DX.n x/\List.length (DX.D x_2)=DX.m x/\True)/\
 (0:Nat)=(0:Nat)/\True)/\((1779033703:Int)=List.getD (DX.H x) (0:Nat) (0:Int)/\(3144134277:Int)=List.getD (DX.H x) (1:Nat) (0:Int)/\(1013904242:Int)=
 List.getD (DX.H x) (2:Nat) (0:Int)/\(2773480762:Int)=List.getD (DX.H x) (3:Nat) (0:Int)/\(1359893119:Int)=List.getD (DX.H x) (4:Nat) (0:Int)/\(2600822924:
 Int)=List.getD (DX.H x) (5:Nat) (0:Int)/\(528734635:Int)=List.getD (DX.H x) (6:Nat) (0:Int)/\(1541459225:Int)=List.getD (DX.H x) (7:Nat) (0:Int)/\True)/\
 (DX.D x_2=DX.D x_2/\(0:Nat)=DX.fz x)/\z00/\True)\/∃(x:DX),R false x/\true=true/\((0:Nat)=(0:Nat)/\False/\(0:Nat)=(0:Nat)/\True)/\((1779033703:
 Int)=List.getD (DX.H x) (0:Nat) (0:Int)/\(3144134277:Int)=List.getD (DX.H x) (1:Nat) (0:Int)/\(1013904242:Int)=List.getD (DX.H x) (2:Nat) (0:Int)/\
 (2773480762:Int)=List.getD (DX.H x) (3:Nat) (0:Int)/\(1359893119:Int)=List.getD (DX.H x) (4:Nat) (0:Int)/\(2600822924:Int)=List.getD (DX.H x) (5:Nat) (0:
 Int)/\(528734635:Int)=List.getD (DX.H x) (6:Nat) (0:Int)/\(1541459225:Int)=List.getD (DX.H x) (7:Nat) (0:Int)/\True)/\z00/\True)/\(∀(x:DX),R true x->
 (decide ((↑(DX.m x):Int)>(0:Int))=true->((0:Int)<=(64:Int)/\(64:Int)<=(↑(DX.m x):Int))/\DX.n x+Int.toNat (64:Int)<=List.length (DX.D x_2)/\((8:Nat)=
 (8:Nat)/\List.length (List.take (Int.toNat (64:Int)) (List.drop (DX.n x) (DX.D x_2)))=(64:Nat))/\((0:Int)<=(64:Int)/\(64:Int)<=(↑(DX.m x):Int))/\(decide ((64
 :Int)<(↑(DX.m x):Int))=true->(∃(x':DX),R true x'/\x'.2+(1:Nat)<=x.2/\true=true/\((0:Nat)=(0:Nat)/\(DX.n x+Int.toNat (64:Int)=DX.n x'/\DX.m x-
 Int.toNat (64:Int)=DX.m x'/\True)/\(0:Nat)=(0:Nat)/\True)/\(List.getD (blkF (h8q (DX.H x)) (List.take (Int.toNat (64:Int)) (List.drop (DX.n x) (DX.D x_2)))) (0:
 Nat) (0:Int)=List.getD (DX.H x') (0:Nat) (0:Int)/\List.getD (blkF (h8q (DX.H x)) (List.take (Int.toNat (64:Int)) (List.drop (DX.n x) (DX.D x_2)))) (1:Nat) (0:Int)=
 List.getD (DX.H x') (1:Nat) (0:Int)/\List.getD (blkF (h8q (DX.H x)) (List.take (Int.toNat (64:Int)) (List.drop (DX.n x) (DX.D x_2)))) (2:Nat) (0:Int)=List.getD (DX.H
 x') (2:Nat) (0:Int)/\List.getD (blkF (h8q (DX.H x)) (List.take (Int.toNat (64:Int)) (List.drop (DX.n x) (DX.D x_2)))) (3:Nat) (0:Int)=List.getD (DX.H x') (3:Nat) (0
 :Int)/\List.getD (blkF (h8q (DX.H x)) (List.take (Int.toNat (64:Int)) (List.drop (DX.n x) (DX.D x_2)))) (4:Nat) (0:Int)=List.getD (DX.H x') (4:Nat) (0:Int)/\
 List.getD (blkF (h8q (DX.H x)) (List.take (Int.toNat (64:Int)) (List.drop (DX.n x) (DX.D x_2)))) (5:Nat) (0:Int)=List.getD (DX.H x') (5:Nat) (0:Int)/\List.getD (blkF
 (h8q (DX.H x)) (List.take (Int.toNat (64:Int)) (List.drop (DX.n x) (DX.D x_2)))) (6:Nat) (0:Int)=List.getD (DX.H x') (6:Nat) (0:Int)/\List.getD (blkF (h8q (DX.H x))
 (List.take (Int.toNat (64:Int)) (List.drop (DX.n x) (DX.D x_2)))) (7:Nat) (0:Int)=List.getD (DX.H x') (7:Nat) (0:Int)/\True)/\(DX.D x_2=DX.D x_2/\mx2 (DX.fz x)
 (List.length (DX.D x_2))=DX.fz x')/\z00/\True)\/∃(x':DX),R false x'/\x'.2+(1:Nat)<=x.2/\true=true/\((0:Nat)=(0:Nat)/\False/\(0:Nat)=(0:Nat)/\True)
 /\(List.getD (blkF (h8q (DX.H x)) (List.take (Int.toNat (64:Int)) (List.drop (DX.n x) (DX.D x_2)))) (0:Nat) (0:Int)=List.getD (DX.H x') (0:Nat) (0:Int)/\List.getD
 (blkF (h8q (DX.H x)) (List.take (Int.toNat (64:Int)) (List.drop (DX.n x) (DX.D x_2)))) (1:Nat) (0:Int)=List.getD (DX.H x') (1:Nat) (0:Int)/\List.getD (blkF (h8q (DX.H
 x)) (List.take (Int.toNat (64:Int)) (List.drop (DX.n x) (DX.D x_2)))) (2:Nat) (0:Int)=List.getD (DX.H x') (2:Nat) (0:Int)/\List.getD (blkF (h8q (DX.H x)) (List.take
 (Int.toNat (64:Int)) (List.drop (DX.n x) (DX.D x_2)))) (3:Nat) (0:Int)=List.getD (DX.H x') (3:Nat) (0:Int)/\List.getD (blkF (h8q (DX.H x)) (List.take (Int.toNat (64:
 Int)) (List.drop (DX.n x) (DX.D x_2)))) (4:Nat) (0:Int)=List.getD (DX.H x') (4:Nat) (0:Int)/\List.getD (blkF (h8q (DX.H x)) (List.take (Int.toNat (64:Int)) (List.drop
 (DX.n x) (DX.D x_2)))) (5:Nat) (0:Int)=List.getD (DX.H x') (5:Nat) (0:Int)/\List.getD (blkF (h8q (DX.H x)) (List.take (Int.toNat (64:Int)) (List.drop (DX.n x) (DX.D
 x_2)))) (6:Nat) (0:Int)=List.getD (DX.H x') (6:Nat) (0:Int)/\List.getD (blkF (h8q (DX.H x)) (List.take (Int.toNat (64:Int)) (List.drop (DX.n x) (DX.D x_2)))) (7:Nat)
 (0:Int)=List.getD (DX.H x') (7:Nat) (0:Int)/\True)/\z00/\True)/\(decide ((64:Int)<(↑(DX.m x):Int))=false->(∃(x':DX),R true x'/\x'.2+(1:Nat)<=x.2/\
 true=true/\((0:Nat)=(0:Nat)/\False/\(0:Nat)=(0:Nat)/\True)/\(List.getD (blkF (h8q (DX.H x)) (List.take (Int.toNat (64:Int)) (List.drop (DX.n x) (DX.D x_2))))
 (0:Nat) (0:Int)=List.getD (DX.H x') (0:Nat) (0:Int)/\List.getD (blkF (h8q (DX.H x)) (List.take (Int.toNat (64:Int)) (List.drop (DX.n x) (DX.D x_2)))) (1:Nat) (0:
 Int)=List.getD (DX.H x') (1:Nat) (0:Int)/\List.getD (blkF (h8q (DX.H x)) (List.take (Int.toNat (64:Int)) (List.drop (DX.n x) (DX.D x_2)))) (2:Nat) (0:Int)=List.getD
 (DX.H x') (2:Nat) (0:Int)/\List.getD (blkF (h8q (DX.H x)) (List.take (Int.toNat (64:Int)) (List.drop (DX.n x) (DX.D x_2)))) (3:Nat) (0:Int)=List.getD (DX.H x') (3:
 Nat) (0:Int)/\List.getD (blkF (h8q (DX.H x)) (List.take (Int.toNat (64:Int)) (List.drop (DX.n x) (DX.D x_2)))) (4:Nat) (0:Int)=List.getD (DX.H x') (4:Nat) (0:Int)/\
 List.getD (blkF (h8q (DX.H x)) (List.take (Int.toNat (64:Int)) (List.drop (DX.n x) (DX.D x_2)))) (5:Nat) (0:Int)=List.getD (DX.H x') (5:Nat) (0:Int)/\List.getD (blkF
 (h8q (DX.H x)) (List.take (Int.toNat (64:Int)) (List.drop (DX.n x) (DX.D x_2)))) (6:Nat) (0:Int)=List.getD (DX.H x') (6:Nat) (0:Int)/\List.getD (blkF (h8q (DX.H x))
 (List.take (Int.toNat (64:Int)) (List.drop (DX.n x) (DX.D x_2)))) (7:Nat) (0:Int)=List.getD (DX.H x') (7:Nat) (0:Int)/\True)/\(DX.D x_2=DX.D x_2/\mx2 (DX.fz x)
 (List.length (DX.D x_2))=DX.fz x')/\z00/\True)\/∃(x':DX),R false x'/\x'.2+(1:Nat)<=x.2/\true=true/\((0:Nat)=(0:Nat)/\(([]:List Int)=([]:List Int)/\
 (false=true->false=true))/\(0:Nat)=(0:Nat)/\True)/\(List.getD (blkF (h8q (DX.H x)) (List.take (Int.toNat (64:Int)) (List.drop (DX.n x) (DX.D x_2)))) (0:Nat) (0:
 Int)=List.getD (DX.H x') (0:Nat) (0:Int)/\List.getD (blkF (h8q (DX.H x)) (List.take (Int.toNat (64:Int)) (List.drop (DX.n x) (DX.D x_2)))) (1:Nat) (0:Int)=List.getD
 (DX.H x') (1:Nat) (0:Int)/\List.getD (blkF (h8q (DX.H x)) (List.take (Int.toNat (64:Int)) (List.drop (DX.n x) (DX.D x_2)))) (2:Nat) (0:Int)=List.getD (DX.H x') (2:
 Nat) (0:Int)/\List.getD (blkF (h8q (DX.H x)) (List.take (Int.toNat (64:Int)) (List.drop (DX.n x) (DX.D x_2)))) (3:Nat) (0:Int)=List.getD (DX.H x') (3:Nat) (0:Int)/\
 List.getD (blkF (h8q (DX.H x)) (List.take (Int.toNat (64:Int)) (List.drop (DX.n x) (DX.D x_2)))) (4:Nat) (0:Int)=List.getD (DX.H x') (4:Nat) (0:Int)/\List.getD (blkF
 (h8q (DX.H x)) (List.take (Int.toNat (64:Int)) (List.drop (DX.n x) (DX.D x_2)))) (5:Nat) (0:Int)=List.getD (DX.H x') (5:Nat) (0:Int)/\List.getD (blkF (h8q (DX.H x))
 (List.take (Int.toNat (64:Int)) (List.drop (DX.n x) (DX.D x_2)))) (6:Nat) (0:Int)=List.getD (DX.H x') (6:Nat) (0:Int)/\List.getD (blkF (h8q (DX.H x)) (List.take
 (Int.toNat (64:Int)) (List.drop (DX.n x) (DX.D x_2)))) (7:Nat) (0:Int)=List.getD (DX.H x') (7:Nat) (0:Int)/\True)/\z00/\True))/\(decide ((↑(DX.m x):Int)>(0:
 Int))=false->wr IntKind.u8 (Int.fdiv (List.getD (DX.H x) (0:Nat) (0:Int)) ((2:Int)^min (Int.toNat (24:Int)) (IntKind.bits IntKind.u32)))=List.getD d (0:Nat) (0:
 Int)/\wr IntKind.u8 (Int.fdiv (List.getD (DX.H x) (0:Nat) (0:Int)) ((2:Int)^min (Int.toNat (16:Int)) (IntKind.bits IntKind.u32)))=List.getD d (1:Nat) (0:Int)/\wr
 IntKind.u8 (Int.fdiv (List.getD (DX.H x) (0:Nat) (0:Int)) ((2:Int)^min (Int.toNat (8:Int)) (IntKind.bits IntKind.u32)))=List.getD d (2:Nat) (0:Int)/\wr IntKind.u8
 (Int.fdiv (List.getD (DX.H x) (0:Nat) (0:Int)) ((2:Int)^min (Int.toNat (0:Int)) (IntKind.bits IntKind.u32)))=List.getD d (3:Nat) (0:Int)/\wr IntKind.u8 (Int.fdiv
 (List.getD (DX.H x) (1:Nat) (0:Int)) ((2:Int)^min (Int.toNat (24:Int)) (IntKind.bits IntKind.u32)))=List.getD d (4:Nat) (0:Int)/\wr IntKind.u8 (Int.fdiv (List.getD
 (DX.H x) (1:Nat) (0:Int)) ((2:Int)^min (Int.toNat (16:Int)) (IntKind.bits IntKind.u32)))=List.getD d (5:Nat) (0:Int)/\wr IntKind.u8 (Int.fdiv (List.getD (DX.H x)
 (1:Nat) (0:Int)) ((2:Int)^min (Int.toNat (8:Int)) (IntKind.bits IntKind.u32)))=List.getD d (6:Nat) (0:Int)/\wr IntKind.u8 (Int.fdiv (List.getD (DX.H x) (1:Nat)
 (0:Int)) ((2:Int)^min (Int.toNat (0:Int)) (IntKind.bits IntKind.u32)))=List.getD d (7:Nat) (0:Int)/\wr IntKind.u8 (Int.fdiv (List.getD (DX.H x) (2:Nat) (0:Int))
 ((2:Int)^min (Int.toNat (24:Int)) (IntKind.bits IntKind.u32)))=List.getD d (8:Nat) (0:Int)/\wr IntKind.u8 (Int.fdiv (List.getD (DX.H x) (2:Nat) (0:Int)) ((2:Int)
 ^min (Int.toNat (16:Int)) (IntKind.bits IntKind.u32)))=List.getD d (9:Nat) (0:Int)/\wr IntKind.u8 (Int.fdiv (List.getD (DX.H x) (2:Nat) (0:Int)) ((2:Int)^min
 (Int.toNat (8:Int)) (IntKind.bits IntKind.u32)))=List.getD d (10:Nat) (0:Int)/\wr IntKind.u8 (Int.fdiv (List.getD (DX.H x) (2:Nat) (0:Int)) ((2:Int)^min (Int.toNat
 (0:Int)) (IntKind.bits IntKind.u32)))=List.getD d (11:Nat) (0:Int)/\wr IntKind.u8 (Int.fdiv (List.getD (DX.H x) (3:Nat) (0:Int)) ((2:Int)^min (Int.toNat (24:
 Int)) (IntKind.bits IntKind.u32)))=List.getD d (12:Nat) (0:Int)/\wr IntKind.u8 (Int.fdiv (List.getD (DX.H x) (3:Nat) (0:Int)) ((2:Int)^min (Int.toNat (16:Int))
 (IntKind.bits IntKind.u32)))=List.getD d (13:Nat) (0:Int)/\wr IntKind.u8 (Int.fdiv (List.getD (DX.H x) (3:Nat) (0:Int)) ((2:Int)^min (Int.toNat (8:Int))
 (IntKind.bits IntKind.u32)))=List.getD d (14:Nat) (0:Int)/\wr IntKind.u8 (Int.fdiv (List.getD (DX.H x) (3:Nat) (0:Int)) ((2:Int)^min (Int.toNat (0:Int))
 (IntKind.bits IntKind.u32)))=List.getD d (15:Nat) (0:Int)/\wr IntKind.u8 (Int.fdiv (List.getD (DX.H x) (4:Nat) (0:Int)) ((2:Int)^min (Int.toNat (24:Int))
 (IntKind.bits IntKind.u32)))=List.getD d (16:Nat) (0:Int)/\wr IntKind.u8 (Int.fdiv (List.getD (DX.H x) (4:Nat) (0:Int)) ((2:Int)^min (Int.toNat (16:Int))
 (IntKind.bits IntKind.u32)))=List.getD d (17:Nat) (0:Int)/\wr IntKind.u8 (Int.fdiv (List.getD (DX.H x) (4:Nat) (0:Int)) ((2:Int)^min (Int.toNat (8:Int))
 (IntKind.bits IntKind.u32)))=List.getD d (18:Nat) (0:Int)/\wr IntKind.u8 (Int.fdiv (List.getD (DX.H x) (4:Nat) (0:Int)) ((2:Int)^min (Int.toNat (0:Int))
 (IntKind.bits IntKind.u32)))=List.getD d (19:Nat) (0:Int)/\wr IntKind.u8 (Int.fdiv (List.getD (DX.H x) (5:Nat) (0:Int)) ((2:Int)^min (Int.toNat (24:Int))
 (IntKind.bits IntKind.u32)))=List.getD d (20:Nat) (0:Int)/\wr IntKind.u8 (Int.fdiv (List.getD (DX.H x) (5:Nat) (0:Int)) ((2:Int)^min (Int.toNat (16:Int))
 (IntKind.bits IntKind.u32)))=List.getD d (21:Nat) (0:Int)/\wr IntKind.u8 (Int.fdiv (List.getD (DX.H x) (5:Nat) (0:Int)) ((2:Int)^min (Int.toNat (8:Int))
 (IntKind.bits IntKind.u32)))=List.getD d (22:Nat) (0:Int)/\wr IntKind.u8 (Int.fdiv (List.getD (DX.H x) (5:Nat) (0:Int)) ((2:Int)^min (Int.toNat (0:Int))
 (IntKind.bits IntKind.u32)))=List.getD d (23:Nat) (0:Int)/\wr IntKind.u8 (Int.fdiv (List.getD (DX.H x) (6:Nat) (0:Int)) ((2:Int)^min (Int.toNat (24:Int))
 (IntKind.bits IntKind.u32)))=List.getD d (24:Nat) (0:Int)/\wr IntKind.u8 (Int.fdiv (List.getD (DX.H x) (6:Nat) (0:Int)) ((2:Int)^min (Int.toNat (16:Int))
 (IntKind.bits IntKind.u32)))=List.getD d (25:Nat) (0:Int)/\wr IntKind.u8 (Int.fdiv (List.getD (DX.H x) (6:Nat) (0:Int)) ((2:Int)^min (Int.toNat (8:Int))
 (IntKind.bits IntKind.u32)))=List.getD d (26:Nat) (0:Int)/\wr IntKind.u8 (Int.fdiv (List.getD (DX.H x) (6:Nat) (0:Int)) ((2:Int)^min (Int.toNat (0:Int))
 (IntKind.bits IntKind.u32)))=List.getD d (27:Nat) (0:Int)/\wr IntKind.u8 (Int.fdiv (List.getD (DX.H x) (7:Nat) (0:Int)) ((2:Int)^min (Int.toNat (24:Int))
 (IntKind.bits IntKind.u32)))=List.getD d (28:Nat) (0:Int)/\wr IntKind.u8 (Int.fdiv (List.getD (DX.H x) (7:Nat) (0:Int)) ((2:Int)^min (Int.toNat (16:Int))
 (IntKind.bits IntKind.u32)))=List.getD d (29:Nat) (0:Int)/\wr IntKind.u8 (Int.fdiv (List.getD (DX.H x) (7:Nat) (0:Int)) ((2:Int)^min (Int.toNat (8:Int))
 (IntKind.bits IntKind.u32)))=List.getD d (30:Nat) (0:Int)/\wr IntKind.u8 (Int.fdiv (List.getD (DX.H x) (7:Nat) (0:Int)) ((2:Int)^min (Int.toNat (0:Int))
 (IntKind.bits IntKind.u32)))=List.getD d (31:Nat) (0:Int)/\True))/\∀(x:DX),R false x->(decide ((↑(0:Nat):Int)>(0:Int))=true->((0:Int)<=(64:Int)/\(64:
 Int)<=(↑(0:Nat):Int))/\((8:Nat)=(8:Nat)/\List.length (List.take (Int.toNat (64:Int)) ([]:List Int))=(64:Nat))/\((0:Int)<=(64:Int)/\(64:Int)<=(↑(0:
 Nat):Int))/\((∃(x':DX),R true x'/\x'.2+(1:Nat)<=x.2/\true=true/\((0:Nat)=(0:Nat)/\False/\(0:Nat)=(0:Nat)/\True)/\(List.getD (blkF (h8q (DX.H x))
 (List.take (Int.toNat (64:Int)) ([]:List Int))) (0:Nat) (0:Int)=List.getD (DX.H x') (0:Nat) (0:Int)/\List.getD (blkF (h8q (DX.H x)) (List.take (Int.toNat (64:Int))
 ([]:List Int))) (1:Nat) (0:Int)=List.getD (DX.H x') (1:Nat) (0:Int)/\List.getD (blkF (h8q (DX.H x)) (List.take (Int.toNat (64:Int)) ([]:List Int))) (2:Nat) (0:
 Int)=List.getD (DX.H x') (2:Nat) (0:Int)/\List.getD (blkF (h8q (DX.H x)) (List.take (Int.toNat (64:Int)) ([]:List Int))) (3:Nat) (0:Int)=List.getD (DX.H x') (3:
 Nat) (0:Int)/\List.getD (blkF (h8q (DX.H x)) (List.take (Int.toNat (64:Int)) ([]:List Int))) (4:Nat) (0:Int)=List.getD (DX.H x') (4:Nat) (0:Int)/\List.getD (blkF
 (h8q (DX.H x)) (List.take (Int.toNat (64:Int)) ([]:List Int))) (5:Nat) (0:Int)=List.getD (DX.H x') (5:Nat) (0:Int)/\List.getD (blkF (h8q (DX.H x)) (List.take
 (Int.toNat (64:Int)) ([]:List Int))) (6:Nat) (0:Int)=List.getD (DX.H x') (6:Nat) (0:Int)/\List.getD (blkF (h8q (DX.H x)) (List.take (Int.toNat (64:Int)) ([]:List
 Int))) (7:Nat) (0:Int)=List.getD (DX.H x') (7:Nat) (0:Int)/\True)/\False/\z00/\True)\/∃(x':DX),R false x'/\x'.2+(1:Nat)<=x.2/\true=true/\((0:Nat)=
 (0:Nat)/\(List.drop (Int.toNat (64:Int)) ([]:List Int)=([]:List Int)/\(false=true->false=true))/\(0:Nat)=(0:Nat)/\True)/\(List.getD (blkF (h8q (DX.H x))
 (List.take (Int.toNat (64:Int)) ([]:List Int))) (0:Nat) (0:Int)=List.getD (DX.H x') (0:Nat) (0:Int)/\List.getD (blkF (h8q (DX.H x)) (List.take (Int.toNat (64:Int))
 ([]:List Int))) (1:Nat) (0:Int)=List.getD (DX.H x') (1:Nat) (0:Int)/\List.getD (blkF (h8q (DX.H x)) (List.take (Int.toNat (64:Int)) ([]:List Int))) (2:Nat) (0:
 Int)=List.getD (DX.H x') (2:Nat) (0:Int)/\List.getD (blkF (h8q (DX.H x)) (List.take (Int.toNat (64:Int)) ([]:List Int))) (3:Nat) (0:Int)=List.getD (DX.H x') (3:
 Nat) (0:Int)/\List.getD (blkF (h8q (DX.H x)) (List.take (Int.toNat (64:Int)) ([]:List Int))) (4:Nat) (0:Int)=List.getD (DX.H x') (4:Nat) (0:Int)/\List.getD (blkF
 (h8q (DX.H x)) (List.take (Int.toNat (64:Int)) ([]:List Int))) (5:Nat) (0:Int)=List.getD (DX.H x') (5:Nat) (0:Int)/\List.getD (blkF (h8q (DX.H x)) (List.take
 (Int.toNat (64:Int)) ([]:List Int))) (6:Nat) (0:Int)=List.getD (DX.H x') (6:Nat) (0:Int)/\List.getD (blkF (h8q (DX.H x)) (List.take (Int.toNat (64:Int)) ([]:List
 Int))) (7:Nat) (0:Int)=List.getD (DX.H x') (7:Nat) (0:Int)/\True)/\z00/\True))/\(decide ((↑(0:Nat):Int)>(0:Int))=false->wr IntKind.u8 (Int.fdiv (List.getD
 (DX.H x) (0:Nat) (0:Int)) ((2:Int)^min (Int.toNat (24:Int)) (IntKind.bits IntKind.u32)))=List.getD d (0:Nat) (0:Int)/\wr IntKind.u8 (Int.fdiv (List.getD (DX.H x)
 (0:Nat) (0:Int)) ((2:Int)^min (Int.toNat (16:Int)) (IntKind.bits IntKind.u32)))=List.getD d (1:Nat) (0:Int)/\wr IntKind.u8 (Int.fdiv (List.getD (DX.H x) (0:Nat)
 (0:Int)) ((2:Int)^min (Int.toNat (8:Int)) (IntKind.bits IntKind.u32)))=List.getD d (2:Nat) (0:Int)/\wr IntKind.u8 (Int.fdiv (List.getD (DX.H x) (0:Nat) (0:Int))
 ((2:Int)^min (Int.toNat (0:Int)) (IntKind.bits IntKind.u32)))=List.getD d (3:Nat) (0:Int)/\wr IntKind.u8 (Int.fdiv (List.getD (DX.H x) (1:Nat) (0:Int)) ((2:Int)
 ^min (Int.toNat (24:Int)) (IntKind.bits IntKind.u32)))=List.getD d (4:Nat) (0:Int)/\wr IntKind.u8 (Int.fdiv (List.getD (DX.H x) (1:Nat) (0:Int)) ((2:Int)^min
 (Int.toNat (16:Int)) (IntKind.bits IntKind.u32)))=List.getD d (5:Nat) (0:Int)/\wr IntKind.u8 (Int.fdiv (List.getD (DX.H x) (1:Nat) (0:Int)) ((2:Int)^min (Int.toNat
 (8:Int)) (IntKind.bits IntKind.u32)))=List.getD d (6:Nat) (0:Int)/\wr IntKind.u8 (Int.fdiv (List.getD (DX.H x) (1:Nat) (0:Int)) ((2:Int)^min (Int.toNat (0:Int))
 (IntKind.bits IntKind.u32)))=List.getD d (7:Nat) (0:Int)/\wr IntKind.u8 (Int.fdiv (List.getD (DX.H x) (2:Nat) (0:Int)) ((2:Int)^min (Int.toNat (24:Int))
 (IntKind.bits IntKind.u32)))=List.getD d (8:Nat) (0:Int)/\wr IntKind.u8 (Int.fdiv (List.getD (DX.H x) (2:Nat) (0:Int)) ((2:Int)^min (Int.toNat (16:Int))
 (IntKind.bits IntKind.u32)))=List.getD d (9:Nat) (0:Int)/\wr IntKind.u8 (Int.fdiv (List.getD (DX.H x) (2:Nat) (0:Int)) ((2:Int)^min (Int.toNat (8:Int))
 (IntKind.bits IntKind.u32)))=List.getD d (10:Nat) (0:Int)/\wr IntKind.u8 (Int.fdiv (List.getD (DX.H x) (2:Nat) (0:Int)) ((2:Int)^min (Int.toNat (0:Int))
 (IntKind.bits IntKind.u32)))=List.getD d (11:Nat) (0:Int)/\wr IntKind.u8 (Int.fdiv (List.getD (DX.H x) (3:Nat) (0:Int)) ((2:Int)^min (Int.toNat (24:Int))
 (IntKind.bits IntKind.u32)))=List.getD d (12:Nat) (0:Int)/\wr IntKind.u8 (Int.fdiv (List.getD (DX.H x) (3:Nat) (0:Int)) ((2:Int)^min (Int.toNat (16:Int))
 (IntKind.bits IntKind.u32)))=List.getD d (13:Nat) (0:Int)/\wr IntKind.u8 (Int.fdiv (List.getD (DX.H x) (3:Nat) (0:Int)) ((2:Int)^min (Int.toNat (8:Int))
 (IntKind.bits IntKind.u32)))=List.getD d (14:Nat) (0:Int)/\wr IntKind.u8 (Int.fdiv (List.getD (DX.H x) (3:Nat) (0:Int)) ((2:Int)^min (Int.toNat (0:Int))
 (IntKind.bits IntKind.u32)))=List.getD d (15:Nat) (0:Int)/\wr IntKind.u8 (Int.fdiv (List.getD (DX.H x) (4:Nat) (0:Int)) ((2:Int)^min (Int.toNat (24:Int))
 (IntKind.bits IntKind.u32)))=List.getD d (16:Nat) (0:Int)/\wr IntKind.u8 (Int.fdiv (List.getD (DX.H x) (4:Nat) (0:Int)) ((2:Int)^min (Int.toNat (16:Int))
 (IntKind.bits IntKind.u32)))=List.getD d (17:Nat) (0:Int)/\wr IntKind.u8 (Int.fdiv (List.getD (DX.H x) (4:Nat) (0:Int)) ((2:Int)^min (Int.toNat (8:Int))
 (IntKind.bits IntKind.u32)))=List.getD d (18:Nat) (0:Int)/\wr IntKind.u8 (Int.fdiv (List.getD (DX.H x) (4:Nat) (0:Int)) ((2:Int)^min (Int.toNat (0:Int))
 (IntKind.bits IntKind.u32)))=List.getD d (19:Nat) (0:Int)/\wr IntKind.u8 (Int.fdiv (List.getD (DX.H x) (5:Nat) (0:Int)) ((2:Int)^min (Int.toNat (24:Int))
 (IntKind.bits IntKind.u32)))=List.getD d (20:Nat) (0:Int)/\wr IntKind.u8 (Int.fdiv (List.getD (DX.H x) (5:Nat) (0:Int)) ((2:Int)^min (Int.toNat (16:Int))
 (IntKind.bits IntKind.u32)))=List.getD d (21:Nat) (0:Int)/\wr IntKind.u8 (Int.fdiv (List.getD (DX.H x) (5:Nat) (0:Int)) ((2:Int)^min (Int.toNat (8:Int))
 (IntKind.bits IntKind.u32)))=List.getD d (22:Nat) (0:Int)/\wr IntKind.u8 (Int.fdiv (List.getD (DX.H x) (5:Nat) (0:Int)) ((2:Int)^min (Int.toNat (0:Int))
 (IntKind.bits IntKind.u32)))=List.getD d (23:Nat) (0:Int)/\wr IntKind.u8 (Int.fdiv (List.getD (DX.H x) (6:Nat) (0:Int)) ((2:Int)^min (Int.toNat (24:Int))
 (IntKind.bits IntKind.u32)))=List.getD d (24:Nat) (0:Int)/\wr IntKind.u8 (Int.fdiv (List.getD (DX.H x) (6:Nat) (0:Int)) ((2:Int)^min (Int.toNat (16:Int))
 (IntKind.bits IntKind.u32)))=List.getD d (25:Nat) (0:Int)/\wr IntKind.u8 (Int.fdiv (List.getD (DX.H x) (6:Nat) (0:Int)) ((2:Int)^min (Int.toNat (8:Int))
 (IntKind.bits IntKind.u32)))=List.getD d (26:Nat) (0:Int)/\wr IntKind.u8 (Int.fdiv (List.getD (DX.H x) (6:Nat) (0:Int)) ((2:Int)^min (Int.toNat (0:Int))
 (IntKind.bits IntKind.u32)))=List.getD d (27:Nat) (0:Int)/\wr IntKind.u8 (Int.fdiv (List.getD (DX.H x) (7:Nat) (0:Int)) ((2:Int)^min (Int.toNat (24:Int))
 (IntKind.bits IntKind.u32)))=List.getD d (28:Nat) (0:Int)/\wr IntKind.u8 (Int.fdiv (List.getD (DX.H x) (7:Nat) (0:Int)) ((2:Int)^min (Int.toNat (16:Int))
 (IntKind.bits IntKind.u32)))=List.getD d (29:Nat) (0:Int)/\wr IntKind.u8 (Int.fdiv (List.getD (DX.H x) (7:Nat) (0:Int)) ((2:Int)^min (Int.toNat (8:Int))
 (IntKind.bits IntKind.u32)))=List.getD d (30:Nat) (0:Int)/\wr IntKind.u8 (Int.fdiv (List.getD (DX.H x) (7:Nat) (0:Int)) ((2:Int)^min (Int.toNat (0:Int))
 (IntKind.bits IntKind.u32)))=List.getD d (31:Nat) (0:Int)/\True))))):=by kernel_rfl
end
section
open Go
set_option maxHeartbeats 4000000
def zc (n:Nat):Nat:=(119-n%64)%64
def len8 (n:Int) (j:Nat):List Int:=(List.range j).map fun k:Nat=>wr .u8 (Int.fdiv n (2^min (Int.toNat (56-8*(k:Int))) 64))
def padF (m:List Int):List Int:=m++ [128]++List.replicate (zc m.length) 0++len8 (wr .u64 (wr .u64 (m.length:Int)*8)) 8
def Zfl:Nat->List Int->List Int->List Int
 |0,h,_=>h
 |n+1,h,m=>Zfl n (blkF h (m.take 64)) (m.drop 64)
def H0:List Int:= [1779033703,3144134277,1013904242,2773480762,1359893119,2600822924,528734635,1541459225]
def digF (H:List Int):List Int:=(List.range 32).map fun i=>wr .u8 (Int.fdiv (H.getD (i/4) 0) (2^min (24-8*(i%4)) 32))
def shaF (m:List Int):List Int:=digF (Zfl ((padF m).length/64) H0 (padF m))
theorem Znj (n:Int) (j:Nat):(len8 n j).length=j:=by simp [len8]
theorem Ztu (n:Int) (j:Nat):len8 n (j+1)=len8 n j++ [wr .u8 (Int.fdiv n (2^min (Int.toNat (56-8*(j:Int))) 64))]:=by simp [len8,List.range_succ]
theorem Z07 (m:List Int):(padF m).length%64=0:=by
 simp only [padF,List.length_append,List.length_replicate,Znj,List.length_cons,List.length_nil,zc]
 omega
theorem Z4k {H:List Int} (h:H.length=8): [H.getD 0 0,H.getD 1 0,H.getD 2 0,H.getD 3 0,H.getD 4 0,H.getD 5 0,H.getD 6 0,H.getD 7 0]=H:=all8 (P:=fun H=> [H.getD 0 0,H.getD 1 0,H.getD 2 0,H.getD 3 0,H.getD 4 0,H.getD 5 0,H.getD 6 0,H.getD 7 0]=H) (fun _ _ _ _ _ _ _ _=>rfl) H h
theorem Znk (ps:List (List Int)) (p:List Int) (r:List (List Int)) (hps:ps=p::r) (hp:p≠ []) (hsz:ps.flatten.length<=1000000) (hpl2:ps.length<=1000000):PureC E2 79 [.psl Th.byss ps false] (Zx (shaF ps.flatten)):=by
 refine Za Zh (Zg Zh Z2y 400) ?_
 rw [Zwj]
 simp only [h8q,Z2z]
 have hpl:0<ps.length:=by rw [hps];simp
 simp only [Z9,Zy,Xz,X0,X1,beq_iff_eq,bne_iff_ne,beq_eq_false_iff_ne,bne_eq_false_iff_eq,decide_eq_true_eq,decide_eq_false_iff_not,Bool.or_eq_true,Bool.or_eq_false_iff,Bool.not_eq_true',Bool.not_eq_false',Bool.and_eq_true,Bool.and_true,Bool.true_and,Bool.and_eq_false_iff,beq_self_eq_true,Z4,Yf,ne_eq,and_true,true_and,Bool.true_eq_false,Bool.false_eq_true,false_or,or_false,true_implies,Int.ofNat_eq_natCast,not_true_eq_false,not_false_eq_true,Decidable.not_not,eq_self,false_and,and_false,exists_false,IntKind.bits,Int.toNat_natCast,imp_self]
 have htm:∀n:Nat,Int.tmod (n:Int) 64=((n%64:Nat):Int):=fun n=>rfl
 refine ⟨fun s x=>match s with|true=>x.k=0/\x.r=ps.length+1|false=>1<=x.k/\x.k<=ps.length/\x.D=(ps.take x.k).flatten/\x.r=ps.length-x.k,⟨⟨0,ps.length+1,[],[],0,0,0,0⟩,⟨rfl,rfl⟩,rfl⟩,?_,?_⟩
 · rintro x ⟨hk,hr⟩
   refine And.intro (fun _=> ?_) (fun h=>absurd h (by rw [hk];omega))
   rw [hk]
   refine ⟨by omega,by omega,fun y hy=> ?_⟩
   rw [hps] at hy
   cases hy
   refine And.intro (fun h=>absurd h hp) (fun _=> ?_)
   refine ⟨?_,⟨1,ps.length-1,p,[],0,0,0,0⟩,⟨Nat.le_refl _,hpl,?_,rfl⟩,?_,⟨rfl,?_⟩,rfl⟩
   · have:p.length<=ps.flatten.length:=by rw [hps];simp
     omega
   · rw [hps];simp
   · show ps.length-1+1<=x.r
     omega
   · exact wr64 (by omega) (by omega)
 · rintro x ⟨hk1,hk2,hD,hr⟩
   refine And.intro (fun h=> ?_) (fun h=> ?_)
   · have hkl:x.k<ps.length:=by omega
     refine ⟨by omega,by omega,fun y hy=> ?_⟩
     have ht:(ps.take (x.k+1)).flatten=x.D++y:=by rw [List.take_add_one,hy,hD];simp
     have hsum:(ps.take (x.k+1)).flatten.length<=ps.flatten.length:=by
      have e:ps.flatten=(ps.take (x.k+1)).flatten++(ps.drop (x.k+1)).flatten:=by rw [<-List.flatten_append,List.take_append_drop]
      rw [e,List.length_append];omega
     rw [ht,List.length_append] at hsum
     have hw:wr .i64 ((x.k:Int)+1)=((x.k+1:Nat):Int):=wr64 (by omega) (by omega)
     refine And.intro (fun hy0=> ?_) (fun hy0=> ?_)
     · refine ⟨⟨x.k+1,x.r-1,x.D,[],0,0,0,0⟩,⟨by show 1<=x.k+1;omega,hkl,?_,by show x.r-1=ps.length-(x.k+1);omega⟩,by show x.r-1+1<=x.r;omega,⟨rfl,hw⟩,rfl⟩
       rw [ht,hy0,List.append_nil]
     · refine ⟨⟨Nat.le_refl _,Nat.zero_le _,by omega⟩,⟨x.k+1,x.r-1,x.D++y,[],0,0,0,0⟩,⟨by show 1<=x.k+1;omega,hkl,ht.symm,by show x.r-1=ps.length-(x.k+1);omega⟩,by show x.r-1+1<=x.r;omega,⟨by simp,hw⟩,by rw [List.take_length]⟩
   · have hk:x.k=ps.length:=by omega
     rw [hk,List.take_length] at hD
     clear hr hk1 hk2 hk h
     generalize ps.flatten=m at*
     rw [hD]
     have hzc:zc m.length<64:=by unfold zc;omega
     refine ⟨⟨Nat.le_refl _,Nat.zero_le _,by omega⟩,fun y=>∃j,j<=zc m.length/\y.D=m++ [128]++List.replicate j 0/\y.r=zc m.length-j,⟨⟨0,zc m.length,m++ [128],[],0,0,0,0⟩,⟨0,Nat.zero_le _,by simp,rfl⟩,by simp,by simp⟩,?_⟩
     rintro y ⟨j,hj,hyD,hyr⟩
     have hyl:y.D.length=m.length+1+j:=by rw [hyD];simp;omega
     refine And.intro (fun h=> ?_) (fun h=> ?_)
     · have hjl:j<zc m.length:=by
        rcases Nat.lt_or_ge j (zc m.length) with h1|h1
        · exact h1
        · exfalso
          apply h
          rw [htm,hyl]
          unfold zc at*
          omega
       refine ⟨⟨Nat.le_refl _,Nat.zero_le _,by omega⟩,⟨0,zc m.length-(j+1),y.D++ [0],[],0,0,0,0⟩,⟨j+1,hjl,?_,rfl⟩,by show zc m.length-(j+1)+1<=y.r;omega,by simp,by rw [List.take_length]⟩
       show y.D++ [0]=_
       rw [hyD,List.replicate_succ'];simp
     · have hje:j=zc m.length:=by
        rw [htm,hyl] at h
        unfold zc at*
        omega
       rw [hje] at hyD
       rw [hje] at hyl
       generalize hB:y.D=base at*
       generalize hN:wr .u64 (wr .u64 (m.length:Int)*8)=N
       refine ⟨fun z=>∃q,q<=8/\z.D=base++len8 N q/\z.j=56-8*(q:Int)/\z.r=8-q,⟨⟨0,8,base,[],0,0,0,56⟩,⟨0,by omega,by simp [len8],rfl,rfl⟩,⟨rfl,rfl⟩,rfl⟩,?_⟩
       rintro z ⟨q,hq,hzD,hzj,hzr⟩
       have hzl:z.D.length=base.length+q:=by rw [hzD,List.length_append,Znj]
       refine And.intro (fun h=> ?_) (fun h=> ?_)
       · refine ⟨h,⟨Nat.le_refl _,Nat.zero_le _,by omega⟩,⟨0,8-(q+1),z.D++ [wr .u8 (N.fdiv (2^min z.j.toNat 64))],[],0,0,0,z.j-8⟩,⟨q+1,by omega,?_,?_,rfl⟩,by show 8-(q+1)+1<=z.r;omega,⟨by simp,wr64 (by omega) (by omega)⟩,by rw [List.take_length]⟩
         · show z.D++_=_
           rw [Ztu,<-hzj,<-List.append_assoc,<-hzD]
         · show z.j-8=56-8*((q+1:Nat):Int)
           omega
       · obtain rfl:q=8:=by omega
         have hzP:z.D=padF m:=by rw [hzD,hyD,<-hN];rfl
         rw [hzP]
         have hL:=Z07 m
         have hL0:0<(padF m).length:=by rw [<-hzP,hzl];omega
         generalize hFIN:Zfl ((padF m).length/64) H0 (padF m)=FIN
         have hsha:shaF m=digF FIN:=by rw [<-hFIN];rfl
         rw [hsha]
         generalize padF m=L at*
         refine ⟨fun s u=>match s with|true=>u.n+u.m=L.length/\u.m%64=0/\0<u.m/\u.H.length=8/\Zfl (u.m/64) u.H (L.drop u.n)=FIN/\u.r=u.m|false=>u.H=FIN/\u.r=0,⟨⟨0,L.length,[],H0,0,L.length,0,0⟩,⟨by simp,hL,hL0,rfl,hFIN,rfl⟩,⟨rfl,rfl⟩,⟨rfl,rfl,rfl,rfl,rfl,rfl,rfl,rfl⟩,rfl⟩,?_,?_⟩
         · rintro u ⟨hu1,hu2,hu3,hu4,hu5,hu6⟩
           refine And.intro (fun h=> ?_) (fun h=>absurd (by omega) h)
           simp only [Z4k hu4]
           have hdiv:u.m/64=(u.m-64)/64+1:=by omega
           rw [hdiv] at hu5
           have hfin:Zfl ((u.m-64)/64) (blkF u.H ((L.drop u.n).take 64)) (L.drop (u.n+64))=FIN:=by rw [<-hu5];show _=Zfl _ _ ((L.drop u.n).drop 64);rw [List.drop_drop]
           refine ⟨⟨by omega,by omega⟩,by show u.n+64<=_;omega,by simp;omega,⟨by omega,by omega⟩,?_⟩
           have h8:(blkF u.H ((L.drop u.n).take 64)).length=8:=Zna hu4 (by simp;omega)
           refine And.intro (fun h64=>⟨⟨0,u.m-64,[],blkF u.H ((L.drop u.n).take 64),u.n+64,u.m-64,mx2 u.fz L.length,0⟩,⟨?_,?_,?_,h8,hfin,rfl⟩,?_,⟨rfl,rfl⟩,⟨rfl,rfl,rfl,rfl,rfl,rfl,rfl,rfl⟩,rfl⟩) (fun h64=>⟨⟨0,0,[],blkF u.H ((L.drop u.n).take 64),0,0,0,0⟩,⟨?_,rfl⟩,?_,⟨rfl,rfl,rfl,rfl,rfl,rfl,rfl,rfl⟩⟩)
           · show u.n+64+(u.m-64)=_;omega
           · show (u.m-64)%64=0;omega
           · show 0<u.m-64;omega
           · show u.m-64+1<=u.r;omega
           · have e:(u.m-64)/64=0:=by omega
             rw [e] at hfin
             exact hfin
           · show 0+1<=u.r;omega
         · rintro u ⟨hu,hr⟩
           refine And.intro (fun h=>absurd h (by simp)) (fun _=> ?_)
           rw [hu]
           exact ⟨rfl,rfl,rfl,rfl,rfl,rfl,rfl,rfl,rfl,rfl,rfl,rfl,rfl,rfl,rfl,rfl,rfl,rfl,rfl,rfl,rfl,rfl,rfl,rfl,rfl,rfl,rfl,rfl,rfl,rfl,rfl,rfl⟩
end
section
open Go
theorem Zjl (v:Val) (hv:OkV v):PureC E2 75 [.agg (encF false .vals v)] (.tup [.psl Th.bys (Yn v).1 false,.int false .i64 (Yn v).2]):=up2 (Zl6 v hv)
def dTag {E:Eng thy} (ts:List (List Nat)):Dc E Nat where
 dec v:=match v with| .str _ b=>(match ts.findIdx? (fun t=>t==b) with|some j=>some j|none=>none)|_=>none
 enc i:= .str true (ts.getD i [])
 ok v i h:=by
  split at h
  · rename_i fl b
    split at h
    · rename_i j hj
      cases h
      refine ⟨rfl,rfl,fun σ g u hd=> ?_⟩
      rw [List.findIdx?_eq_some_iff_getElem] at hj
      obtain ⟨hlt,he,_⟩:=hj
      have e:ts.getD i []=b:=by
       rw [List.getD_eq_getElem?_getD,gB9 hlt]
       exact eq_of_beq he
      rw [e]
      cases hd
      exact .str _ (by assumption)
    · cases h
  · cases h
def tags:List (List Nat):= [[115,116,97,99,107],[112,114,111,103,114,97,109],[105,110,112,117,116,115],[115,116,97,116,101]]
structure PartsOk (ps:List (List Int)):Prop where
 ne:∃p r,ps=p::r/\p≠ []
 sz:ps.flatten.length<=1000000
 len:ps.length<=1000000
def gthV (cs:List (SV thy)):Option Th:=match cs with| .int _ .u8 _::_=>some .bys|_=>none
def Ssum:Sum thy:=sumF E2 gthV 4 (.cons (Z2x E2) .nil) (fun x=>PartsOk x.1) fun x=>Zx (shaF x.1.flatten)
theorem Z1y:SumOk E2 79 Ssum:=Zgu Zh (Zi (f:=79) rfl) fun x h=>by
 obtain ⟨⟨p,r,h1,h2⟩,h3,h4⟩:=h
 exact Znk x.1 p r h1 h2 h3 h4
def Senc:Sum thy:=sumF E2 gthV 8 (.cons (dRow Zh Th.vals fun _ _ h=>Zgd (th:=Th.vals) h:Dc E2 Val) .nil) (fun x=>OkV x.1) fun x=> .tup [.psl Th.bys (Yn x.1).1 false,.int false .i64 (Yn x.1).2]
theorem Z1z:SumOk E2 75 Senc:=Zgu Zh (Zi (f:=75) rfl) fun x h=>Zjl x.1 h
def Fdig:Fns thy:=addS (addS F0 79 Ssum) 75 Senc
theorem Zhn:FnsOk E2 Fdig:=Zf (Zf X5 Z1y) Z1z
theorem Zqg (v:Val) (d:List Int):Zr E2 Fdig (vc E2 Fdig 400) 52 [.str true [115,116,97,99,107],.agg (encF false .vals v)] hp0 0 (fun r=>ret E2 (patch hp0 0 r) r.v (Zx d))=(
 OkV (Val.mk (Val.k v) (Val.n v) (Val.b v) (Val.l v))/\PartsOk [[(5:Int)],[(↑(115:Nat):Int),(↑(116:Nat):Int),(↑(97:Nat):Int),(↑(99:Nat):Int),(↑(107:Nat):
 Int)],Prod.fst (Yn (Val.mk (Val.k v) (Val.n v) (Val.b v) (Val.l v)))]/\e32q (shaF (List.flatten [[(5:Int)],[(↑(115:Nat):Int),(↑(116:Nat):Int),(↑(97:Nat):
 Int),(↑(99:Nat):Int),(↑(107:Nat):Int)],Prod.fst (Yn (Val.mk (Val.k v) (Val.n v) (Val.b v) (Val.l v)))])) d):=by kernel_rfl
theorem Zqh (v:Val) (d:List Int):Zr E2 Fdig (vc E2 Fdig 400) 52 [.str true [112,114,111,103,114,97,109],.agg (encF false .vals v)] hp0 0 (fun r=>ret E2 (patch hp0 0 r) r.v (Zx d))=(
 OkV (Val.mk (Val.k v) (Val.n v) (Val.b v) (Val.l v))/\PartsOk [[(7:Int)],[(↑(112:Nat):Int),(↑(114:Nat):Int),(↑(111:Nat):Int),(↑(103:Nat):Int),(↑(114:Nat)
 :Int),(↑(97:Nat):Int),(↑(109:Nat):Int)],Prod.fst (Yn (Val.mk (Val.k v) (Val.n v) (Val.b v) (Val.l v)))]/\e32q (shaF (List.flatten [[(7:Int)],[(↑(112:Nat):
 Int),(↑(114:Nat):Int),(↑(111:Nat):Int),(↑(103:Nat):Int),(↑(114:Nat):Int),(↑(97:Nat):Int),(↑(109:Nat):Int)],Prod.fst (Yn (Val.mk (Val.k v) (Val.n
 v) (Val.b v) (Val.l v)))])) d):=by kernel_rfl
theorem Zqi (v:Val) (d:List Int):Zr E2 Fdig (vc E2 Fdig 400) 52 [.str true [105,110,112,117,116,115],.agg (encF false .vals v)] hp0 0 (fun r=>ret E2 (patch hp0 0 r) r.v (Zx d))=(
 OkV (Val.mk (Val.k v) (Val.n v) (Val.b v) (Val.l v))/\PartsOk [[(6:Int)],[(↑(105:Nat):Int),(↑(110:Nat):Int),(↑(112:Nat):Int),(↑(117:Nat):Int),(↑(116:Nat)
 :Int),(↑(115:Nat):Int)],Prod.fst (Yn (Val.mk (Val.k v) (Val.n v) (Val.b v) (Val.l v)))]/\e32q (shaF (List.flatten [[(6:Int)],[(↑(105:Nat):Int),(↑(110:Nat):
 Int),(↑(112:Nat):Int),(↑(117:Nat):Int),(↑(116:Nat):Int),(↑(115:Nat):Int)],Prod.fst (Yn (Val.mk (Val.k v) (Val.n v) (Val.b v) (Val.l v)))])) d):=by kernel_rfl
theorem Zqj (v:Val) (d:List Int):Zr E2 Fdig (vc E2 Fdig 400) 52 [.str true [115,116,97,116,101],.agg (encF false .vals v)] hp0 0 (fun r=>ret E2 (patch hp0 0 r) r.v (Zx d))=(
 OkV (Val.mk (Val.k v) (Val.n v) (Val.b v) (Val.l v))/\PartsOk [[(5:Int)],[(↑(115:Nat):Int),(↑(116:Nat):Int),(↑(97:Nat):Int),(↑(116:Nat):Int),(↑(101:Nat):
 Int)],Prod.fst (Yn (Val.mk (Val.k v) (Val.n v) (Val.b v) (Val.l v)))]/\e32q (shaF (List.flatten [[(5:Int)],[(↑(115:Nat):Int),(↑(116:Nat):Int),(↑(97:Nat):
 Int),(↑(116:Nat):Int),(↑(101:Nat):Int)],Prod.fst (Yn (Val.mk (Val.k v) (Val.n v) (Val.b v) (Val.l v)))])) d):=by kernel_rfl
def tagB:Nat->List Int
 |0=> [115,116,97,99,107]
 |1=> [112,114,111,103,114,97,109]
 |2=> [105,110,112,117,116,115]
 |_=> [115,116,97,116,101]
def Zbd (i:Nat) (v:Val):List Int:=shaF [[((tagB i).length:Int)],tagB i,(Yn v).1].flatten
theorem Zl4 (v:Val):(Yn v).1.length<=65536:=by
 unfold Yn
 split
 · simp
 · split
   · simp
   · split
     · simp
     · show (encV v).length<=_;omega
theorem Zx4 (i:Nat) (v:Val):PartsOk [[((tagB i).length:Int)],tagB i,(Yn v).1]:=by
 have h1:=Zl4 v
 have h2:(tagB i).length<=7:=by unfold tagB;split<;>simp
 refine ⟨⟨_,_,rfl,by simp⟩,?_,by simp⟩
 simp only [List.flatten_cons,List.flatten_nil,List.length_append,List.length_cons,List.length_nil]
 omega
theorem Zu9 (i:Nat) (hi:i<4) (v:Val) (hv:OkV v):PureC E2 52 [.str true (tags.getD i []),.agg (encF false .vals v)] (Zx (Zbd i v)):=by
 have hp:=Zx4 i v
 match i,hi with
 |0,_=>
  refine Za Zh (Zg Zh Zhn 400) ?_
  show Zr E2 Fdig (vc E2 Fdig 400) 52 [.str true [115,116,97,99,107],.agg (encF false .vals v)] hp0 0 _
  rw [Zqg,Ue]
  exact ⟨hv,hp,e32r _⟩
 |1,_=>
  refine Za Zh (Zg Zh Zhn 400) ?_
  show Zr E2 Fdig (vc E2 Fdig 400) 52 [.str true [112,114,111,103,114,97,109],.agg (encF false .vals v)] hp0 0 _
  rw [Zqh,Ue]
  exact ⟨hv,hp,e32r _⟩
 |2,_=>
  refine Za Zh (Zg Zh Zhn 400) ?_
  show Zr E2 Fdig (vc E2 Fdig 400) 52 [.str true [105,110,112,117,116,115],.agg (encF false .vals v)] hp0 0 _
  rw [Zqi,Ue]
  exact ⟨hv,hp,e32r _⟩
 |3,_=>
  refine Za Zh (Zg Zh Zhn 400) ?_
  show Zr E2 Fdig (vc E2 Fdig 400) 52 [.str true [115,116,97,116,101],.agg (encF false .vals v)] hp0 0 _
  rw [Zqj,Ue]
  exact ⟨hv,hp,e32r _⟩
def Zva:List Int:= [0,0,0,0,0,0,0,0,0,0,0,0,0,0,0,0,0,0,0,0,0,0,0,0,0,0,0,0,0,0,0,0]
end
section
open Go
def n32 (d:List Int):List Int:=(List.range 32).map fun i=>d.getD i 0
def numV (n:Int):Val:= .mk 1 n [] []
def bytV (d:List Int):Val:= .mk 2 0 (n32 d) []
def lisV (l:List Val):Val:= .mk 3 0 [] l
def Zl9 (n:Int) (d:List Int):Val:=lisV [numV n,bytV d]
def Zvk (x:Ins) (d:List Int):Val:=lisV [numV x.op,numV x.n,numV x.m,bytV d]
def Zfx (d:List Int) (l:List Int):List Int:=l.foldl (fun d n=>Zbd 0 (Zl9 n d)) d
def Zma (l:List Int):List Int:=Zfx Zva l
def Zjr (c:List Ins):List Int:=c.foldl (fun d x=>Zbd 1 (Zvk x d)) Zva
def dTV:DcL E2 (Nat×Val×Unit):= .cons (dTag tags) (.cons (dRow Zh Th.vals fun _ _ h=>Zgd (th:=Th.vals) h:Dc E2 Val) .nil)
def Zvl:Sum thy:=X7 E2 gthV 10 dTV (fun x=>x.1<4/\OkV x.2.1) (fun x=>Zbd x.1 x.2.1) Zx
theorem Zfy:SumOk E2 52 Zvl:=Zw Zh (Zi (f:=52) rfl) fun x h=>Zu9 x.1 h.1 x.2.1 h.2
def Z30:Fr thy->Hp thy->Nat->Ann thy:=fun T h i=>{X:=DX,fr:=fun x=> [(2,T 2),(4,T 4),(7,T 7),(8,T 8),(9,.int false .i64 x.k)],bl:=fun x=>(bOf (T 2),.raw (Zx x.D).cells 0 none)::blkP h (T 4),src:=fun _=> [],md:= [bOf (T 2)],ih:=i,M:=i+60,meas:=fun x=>x.r}
def Z31:Fr thy->Hp thy->Nat->Ann thy:=fun T h i=>{X:=DX,fr:=fun x=> [(2,T 2),(5,T 5),(6,T 6),(7,.int false .i64 x.k)],bl:=fun x=> [(bOf (T 2),.raw (Zx x.D).cells 0 none)],src:=fun _=> [],md:= [bOf (T 2)],ih:=i,M:=i+60,meas:=fun x=>x.r}
def Zqo:Fns thy:=addL (addL (addS F0 52 Zvl) 58 2 Z30 E2) 55 2 Z31 E2
theorem Zmb:FnsOk E2 Zqo:=Z3 Zh (Z3 Zh (Zf X5 Zfy) _ _ _) _ _ _
abbrev qBV2:=(0:Int)
abbrev qBV6:=(0:Nat)
abbrev qBV1 (a0:List Int) (b0:DX):=(List.getD a0 qBV6 qBV2=List.getD (DX.D b0) qBV6 qBV2/\List.getD a0 (1:Nat) qBV2=List.getD (DX.D b0) (1:Nat) qBV2/\List.getD a0 (2:Nat) qBV2=List.getD (DX.D b0) (2:Nat) qBV2/\List.getD a0 (3:Nat) qBV2=List.getD (DX.D b0) (3:Nat) qBV2/\List.getD a0 (4:Nat) qBV2=List.getD (DX.D b0) (4:Nat) qBV2/\List.getD a0 (5:Nat) qBV2=List.getD (DX.D b0) (5:Nat) qBV2/\List.getD a0 (6:Nat) qBV2=List.getD (DX.D b0) (6:Nat) qBV2/\List.getD a0 (7:Nat) qBV2=List.getD (DX.D b0) (7:Nat) qBV2/\List.getD a0 (8:Nat) qBV2=List.getD (DX.D b0) (8:Nat) qBV2/\List.getD a0 (9:Nat) qBV2=List.getD (DX.D b0) (9:Nat) qBV2/\List.getD a0 (10:Nat) qBV2=List.getD (DX.D b0) (10:Nat) qBV2/\List.getD a0 (11:Nat) qBV2=List.getD (DX.D b0) (11:Nat) qBV2/\List.getD a0 (12:Nat) qBV2=List.getD (DX.D b0) (12:Nat) qBV2/\List.getD a0 (13:Nat) qBV2=List.getD (DX.D b0) (13:Nat) qBV2/\List.getD a0 (14:Nat) qBV2=List.getD (DX.D b0) (14:Nat) qBV2/\List.getD a0 (15:Nat) qBV2=List.getD (DX.D b0) (15:Nat) qBV2/\List.getD a0 (16:Nat) qBV2=List.getD (DX.D b0) (16:Nat) qBV2/\List.getD a0 (17:Nat) qBV2=List.getD (DX.D b0) (17:Nat) qBV2/\List.getD a0 (18:Nat) qBV2=List.getD (DX.D b0) (18:Nat) qBV2/\List.getD a0 (19:Nat) qBV2=List.getD (DX.D b0) (19:Nat) qBV2/\List.getD a0 (20:Nat) qBV2=List.getD (DX.D b0) (20:Nat) qBV2/\List.getD a0 (21:Nat) qBV2=List.getD (DX.D b0) (21:Nat) qBV2/\List.getD a0 (22:Nat) qBV2=List.getD (DX.D b0) (22:Nat) qBV2/\List.getD a0 (23:Nat) qBV2=List.getD (DX.D b0) (23:Nat) qBV2/\List.getD a0 (24:Nat) qBV2=List.getD (DX.D b0) (24:Nat) qBV2/\List.getD a0 (25:Nat) qBV2=List.getD (DX.D b0) (25:Nat) qBV2/\List.getD a0 (26:Nat) qBV2=List.getD (DX.D b0) (26:Nat) qBV2/\List.getD a0 (27:Nat) qBV2=List.getD (DX.D b0) (27:Nat) qBV2/\List.getD a0 (28:Nat) qBV2=List.getD (DX.D b0) (28:Nat) qBV2/\List.getD a0 (29:Nat) qBV2=List.getD (DX.D b0) (29:Nat) qBV2/\List.getD a0 (30:Nat) qBV2=List.getD (DX.D b0) (30:Nat) qBV2/\List.getD a0 (31:Nat) qBV2=List.getD (DX.D b0) (31:Nat) qBV2/\True)
abbrev qBV3 (a0:Int) (b0:DX):=(Val.mk (3:Int) qBV2 [] [Val.mk (1:Int) a0 [] [],Val.mk (2:Int) qBV2 [List.getD (DX.D b0) qBV6 qBV2,List.getD (DX.D b0) (1:Nat) qBV2,List.getD (DX.D b0) (2:Nat) qBV2,List.getD (DX.D b0) (3:Nat) qBV2,List.getD (DX.D b0) (4:Nat) qBV2,List.getD (DX.D b0) (5:Nat) qBV2,List.getD (DX.D b0) (6:Nat) qBV2,List.getD (DX.D b0) (7:Nat) qBV2,List.getD (DX.D b0) (8:Nat) qBV2,List.getD (DX.D b0) (9:Nat) qBV2,List.getD (DX.D b0) (10:Nat) qBV2,List.getD (DX.D b0) (11:Nat) qBV2,List.getD (DX.D b0) (12:Nat) qBV2,List.getD (DX.D b0) (13:Nat) qBV2,List.getD (DX.D b0) (14:Nat) qBV2,List.getD (DX.D b0) (15:Nat) qBV2,List.getD (DX.D b0) (16:Nat) qBV2,List.getD (DX.D b0) (17:Nat) qBV2,List.getD (DX.D b0) (18:Nat) qBV2,List.getD (DX.D b0) (19:Nat) qBV2,List.getD (DX.D b0) (20:Nat) qBV2,List.getD (DX.D b0) (21:Nat) qBV2,List.getD (DX.D b0) (22:Nat) qBV2,List.getD (DX.D b0) (23:Nat) qBV2,List.getD (DX.D b0) (24:Nat) qBV2,List.getD (DX.D b0) (25:Nat) qBV2,List.getD (DX.D b0) (26:Nat) qBV2,List.getD (DX.D b0) (27:Nat) qBV2,List.getD (DX.D b0) (28:Nat) qBV2,List.getD (DX.D b0) (29:Nat) qBV2,List.getD (DX.D b0) (30:Nat) qBV2,List.getD (DX.D b0) (31:Nat) qBV2] []])
abbrev qBV4:=(qBV2=qBV2/\qBV2=qBV2/\qBV2=qBV2/\qBV2=qBV2/\qBV2=qBV2/\qBV2=qBV2/\qBV2=qBV2/\qBV2=qBV2/\qBV2=qBV2/\qBV2=qBV2/\qBV2=qBV2/\qBV2=qBV2/\qBV2=qBV2/\qBV2=qBV2/\qBV2=qBV2/\qBV2=qBV2/\qBV2=qBV2/\qBV2=qBV2/\qBV2=qBV2/\qBV2=qBV2/\qBV2=qBV2/\qBV2=qBV2/\qBV2=qBV2/\qBV2=qBV2/\qBV2=qBV2/\qBV2=qBV2/\qBV2=qBV2/\qBV2=qBV2/\qBV2=qBV2/\qBV2=qBV2/\qBV2=qBV2/\qBV2=qBV2/\True)
abbrev qBV5 (a0:List Int):=(↑(List.length a0):Int)
abbrev qBV7 (a0:DX):=(↑(DX.k a0):Int)
theorem Zqp (d l:List Int) (z:List Int):Zr E2 Zqo (vc E2 Zqo 400) 58 [Zx d,.psl Th.ints l false] hp0 0 (fun r=>ret E2 (patch hp0 0 r) r.v (Zx z))=(
 ∃(R:DX->Prop),(∃(x:DX),R x/\true=true/\(qBV6=qBV6/\qBV6=qBV6/\(l=l/\(false=true->false=true))/\(qBV5 l)=(qBV5 l)/\qBV2=(qBV7 x)/\True)/\(qBV1 d x)/\qBV4/\True)/\∀(x:DX),R x->(decide ((qBV7 x)<(qBV5 l))=true->qBV2<=(qBV7 x)/\(qBV7 x)+(1:Int)<=(qBV5 l)/\∀(x_1:Int),l[Int.toNat (qBV7 x)]? =some x_1->(qBV6+(1:Nat)<=(4:Nat)/\OkV (qBV3 x_1 x))/\∀(y:List Int),y=Zbd qBV6 (qBV3 x_1 x)->∃(x':DX),R x'/\x'.2+(1:Nat)<=x.2/\true=true/\(qBV6=qBV6/\qBV6=qBV6/\(l=l/\(false=true->false=true))/\(qBV5 l)=(qBV5 l)/\wr IntKind.i64 ((qBV7 x)+(1:Int))=(qBV7 x')/\True)/\(qBV1 y x')/\qBV4/\True)/\(decide ((qBV7 x)<(qBV5 l))=false->List.getD (DX.D x) qBV6 qBV2=List.getD z qBV6 qBV2/\List.getD (DX.D x) (1:Nat) qBV2=List.getD z (1:Nat) qBV2/\List.getD (DX.D x) (2:Nat) qBV2=List.getD z (2:Nat) qBV2/\List.getD (DX.D x) (3:Nat) qBV2=List.getD z (3:Nat) qBV2/\List.getD (DX.D x) (4:Nat) qBV2=List.getD z (4:Nat) qBV2/\List.getD (DX.D x) (5:Nat) qBV2=List.getD z (5:Nat) qBV2/\List.getD (DX.D x) (6:Nat) qBV2=List.getD z (6:Nat) qBV2/\List.getD (DX.D x) (7:Nat) qBV2=List.getD z (7:Nat) qBV2/\List.getD (DX.D x) (8:Nat) qBV2=List.getD z (8:Nat) qBV2/\List.getD (DX.D x) (9:Nat) qBV2=List.getD z (9:Nat) qBV2/\List.getD (DX.D x) (10:Nat) qBV2=List.getD z (10:Nat) qBV2/\List.getD (DX.D x) (11:Nat) qBV2=List.getD z (11:Nat) qBV2/\List.getD (DX.D x) (12:Nat) qBV2=List.getD z (12:Nat) qBV2/\List.getD (DX.D x) (13:Nat) qBV2=List.getD z (13:Nat) qBV2/\List.getD (DX.D x) (14:Nat) qBV2=List.getD z (14:Nat) qBV2/\List.getD (DX.D x) (15:Nat) qBV2=List.getD z (15:Nat) qBV2/\List.getD (DX.D x) (16:Nat) qBV2=List.getD z (16:Nat) qBV2/\List.getD (DX.D x) (17:Nat) qBV2=List.getD z (17:Nat) qBV2/\List.getD (DX.D x) (18:Nat) qBV2=List.getD z (18:Nat) qBV2/\List.getD (DX.D x) (19:Nat) qBV2=List.getD z (19:Nat) qBV2/\List.getD (DX.D x) (20:Nat) qBV2=List.getD z (20:Nat) qBV2/\List.getD (DX.D x) (21:Nat) qBV2=List.getD z (21:Nat) qBV2/\List.getD (DX.D x) (22:Nat) qBV2=List.getD z (22:Nat) qBV2/\List.getD (DX.D x) (23:Nat) qBV2=List.getD z (23:Nat) qBV2/\List.getD (DX.D x) (24:Nat) qBV2=List.getD z (24:Nat) qBV2/\List.getD (DX.D x) (25:Nat) qBV2=List.getD z (25:Nat) qBV2/\List.getD (DX.D x) (26:Nat) qBV2=List.getD z (26:Nat) qBV2/\List.getD (DX.D x) (27:Nat) qBV2=List.getD z (27:Nat) qBV2/\List.getD (DX.D x) (28:Nat) qBV2=List.getD z (28:Nat) qBV2/\List.getD (DX.D x) (29:Nat) qBV2=List.getD z (29:Nat) qBV2/\List.getD (DX.D x) (30:Nat) qBV2=List.getD z (30:Nat) qBV2/\List.getD (DX.D x) (31:Nat) qBV2=List.getD z (31:Nat) qBV2/\True)):=by kernel_rfl
abbrev qBVb:=(0:Nat)
abbrev qBVd:=(1:Nat)
abbrev qBV9:=(0:Int)
abbrev qBV8 (a0:Ins) (b0:DX):=(Val.mk (3:Int) qBV9 [] [Val.mk (1:Int) (Ins.op a0) [] [],Val.mk (1:Int) (Ins.n a0) [] [],Val.mk (1:Int) (Ins.m a0) [] [],Val.mk (2:Int) qBV9 [List.getD (DX.D b0) qBVb qBV9,List.getD (DX.D b0) qBVd qBV9,List.getD (DX.D b0) (2:Nat) qBV9,List.getD (DX.D b0) (3:Nat) qBV9,List.getD (DX.D b0) (4:Nat) qBV9,List.getD (DX.D b0) (5:Nat) qBV9,List.getD (DX.D b0) (6:Nat) qBV9,List.getD (DX.D b0) (7:Nat) qBV9,List.getD (DX.D b0) (8:Nat) qBV9,List.getD (DX.D b0) (9:Nat) qBV9,List.getD (DX.D b0) (10:Nat) qBV9,List.getD (DX.D b0) (11:Nat) qBV9,List.getD (DX.D b0) (12:Nat) qBV9,List.getD (DX.D b0) (13:Nat) qBV9,List.getD (DX.D b0) (14:Nat) qBV9,List.getD (DX.D b0) (15:Nat) qBV9,List.getD (DX.D b0) (16:Nat) qBV9,List.getD (DX.D b0) (17:Nat) qBV9,List.getD (DX.D b0) (18:Nat) qBV9,List.getD (DX.D b0) (19:Nat) qBV9,List.getD (DX.D b0) (20:Nat) qBV9,List.getD (DX.D b0) (21:Nat) qBV9,List.getD (DX.D b0) (22:Nat) qBV9,List.getD (DX.D b0) (23:Nat) qBV9,List.getD (DX.D b0) (24:Nat) qBV9,List.getD (DX.D b0) (25:Nat) qBV9,List.getD (DX.D b0) (26:Nat) qBV9,List.getD (DX.D b0) (27:Nat) qBV9,List.getD (DX.D b0) (28:Nat) qBV9,List.getD (DX.D b0) (29:Nat) qBV9,List.getD (DX.D b0) (30:Nat) qBV9,List.getD (DX.D b0) (31:Nat) qBV9] []])
abbrev qBVa (a0:List Ins):=(↑(List.length a0):Int)
abbrev qBVc (a0:DX):=(↑(DX.k a0):Int)
theorem Zqq (c:List Ins) (z:List Int):Zr E2 Zqo (vc E2 Zqo 400) 55 [.psl Th.ins c false] hp0 0 (fun r=>ret E2 (patch hp0 0 r) r.v (Zx z))=(
 ∃(R:DX->Prop),(∃(x:DX),R x/\true=true/\(qBVb=qBVb/\(c=c/\(false=true->false=true))/\(qBVa c)=(qBVa c)/\qBV9=(qBVc x)/\True)/\(qBV9=List.getD (DX.D x) qBVb qBV9/\qBV9=List.getD (DX.D x) qBVd qBV9/\qBV9=List.getD (DX.D x) (2:Nat) qBV9/\qBV9=List.getD (DX.D x) (3:Nat) qBV9/\qBV9=List.getD (DX.D x) (4:Nat) qBV9/\qBV9=List.getD (DX.D x) (5:Nat) qBV9/\qBV9=List.getD (DX.D x) (6:Nat) qBV9/\qBV9=List.getD (DX.D x) (7:Nat) qBV9/\qBV9=List.getD (DX.D x) (8:Nat) qBV9/\qBV9=List.getD (DX.D x) (9:Nat) qBV9/\qBV9=List.getD (DX.D x) (10:Nat) qBV9/\qBV9=List.getD (DX.D x) (11:Nat) qBV9/\qBV9=List.getD (DX.D x) (12:Nat) qBV9/\qBV9=List.getD (DX.D x) (13:Nat) qBV9/\qBV9=List.getD (DX.D x) (14:Nat) qBV9/\qBV9=List.getD (DX.D x) (15:Nat) qBV9/\qBV9=List.getD (DX.D x) (16:Nat) qBV9/\qBV9=List.getD (DX.D x) (17:Nat) qBV9/\qBV9=List.getD (DX.D x) (18:Nat) qBV9/\qBV9=List.getD (DX.D x) (19:Nat) qBV9/\qBV9=List.getD (DX.D x) (20:Nat) qBV9/\qBV9=List.getD (DX.D x) (21:Nat) qBV9/\qBV9=List.getD (DX.D x) (22:Nat) qBV9/\qBV9=List.getD (DX.D x) (23:Nat) qBV9/\qBV9=List.getD (DX.D x) (24:Nat) qBV9/\qBV9=List.getD (DX.D x) (25:Nat) qBV9/\qBV9=List.getD (DX.D x) (26:Nat) qBV9/\qBV9=List.getD (DX.D x) (27:Nat) qBV9/\qBV9=List.getD (DX.D x) (28:Nat) qBV9/\qBV9=List.getD (DX.D x) (29:Nat) qBV9/\qBV9=List.getD (DX.D x) (30:Nat) qBV9/\qBV9=List.getD (DX.D x) (31:Nat) qBV9/\True)/\True)/\∀(x:DX),R x->(decide ((qBVc x)<(qBVa c))=true->qBV9<=(qBVc x)/\(qBVc x)+(1:Int)<=(qBVa c)/\∀(x_1:Ins),c[Int.toNat (qBVc x)]? =some x_1->(qBVb+qBVd+qBVd<=(4:Nat)/\OkV (qBV8 x_1 x))/\∀(y:List Int),y=Zbd (qBVb+qBVd) (qBV8 x_1 x)->∃(x':DX),R x'/\x'.2+qBVd<=x.2/\true=true/\(qBVb=qBVb/\(c=c/\(false=true->false=true))/\(qBVa c)=(qBVa c)/\wr IntKind.i64 ((qBVc x)+(1:Int))=(qBVc x')/\True)/\(List.getD y qBVb qBV9=List.getD (DX.D x') qBVb qBV9/\List.getD y qBVd qBV9=List.getD (DX.D x') qBVd qBV9/\List.getD y (2:Nat) qBV9=List.getD (DX.D x') (2:Nat) qBV9/\List.getD y (3:Nat) qBV9=List.getD (DX.D x') (3:Nat) qBV9/\List.getD y (4:Nat) qBV9=List.getD (DX.D x') (4:Nat) qBV9/\List.getD y (5:Nat) qBV9=List.getD (DX.D x') (5:Nat) qBV9/\List.getD y (6:Nat) qBV9=List.getD (DX.D x') (6:Nat) qBV9/\List.getD y (7:Nat) qBV9=List.getD (DX.D x') (7:Nat) qBV9/\List.getD y (8:Nat) qBV9=List.getD (DX.D x') (8:Nat) qBV9/\List.getD y (9:Nat) qBV9=List.getD (DX.D x') (9:Nat) qBV9/\List.getD y (10:Nat) qBV9=List.getD (DX.D x') (10:Nat) qBV9/\List.getD y (11:Nat) qBV9=List.getD (DX.D x') (11:Nat) qBV9/\List.getD y (12:Nat) qBV9=List.getD (DX.D x') (12:Nat) qBV9/\List.getD y (13:Nat) qBV9=List.getD (DX.D x') (13:Nat) qBV9/\List.getD y (14:Nat) qBV9=List.getD (DX.D x') (14:Nat) qBV9/\List.getD y (15:Nat) qBV9=List.getD (DX.D x') (15:Nat) qBV9/\List.getD y (16:Nat) qBV9=List.getD (DX.D x') (16:Nat) qBV9/\List.getD y (17:Nat) qBV9=List.getD (DX.D x') (17:Nat) qBV9/\List.getD y (18:Nat) qBV9=List.getD (DX.D x') (18:Nat) qBV9/\List.getD y (19:Nat) qBV9=List.getD (DX.D x') (19:Nat) qBV9/\List.getD y (20:Nat) qBV9=List.getD (DX.D x') (20:Nat) qBV9/\List.getD y (21:Nat) qBV9=List.getD (DX.D x') (21:Nat) qBV9/\List.getD y (22:Nat) qBV9=List.getD (DX.D x') (22:Nat) qBV9/\List.getD y (23:Nat) qBV9=List.getD (DX.D x') (23:Nat) qBV9/\List.getD y (24:Nat) qBV9=List.getD (DX.D x') (24:Nat) qBV9/\List.getD y (25:Nat) qBV9=List.getD (DX.D x') (25:Nat) qBV9/\List.getD y (26:Nat) qBV9=List.getD (DX.D x') (26:Nat) qBV9/\List.getD y (27:Nat) qBV9=List.getD (DX.D x') (27:Nat) qBV9/\List.getD y (28:Nat) qBV9=List.getD (DX.D x') (28:Nat) qBV9/\List.getD y (29:Nat) qBV9=List.getD
(DX.D x') (29:Nat) qBV9/\List.getD y (30:Nat) qBV9=List.getD (DX.D x') (30:Nat) qBV9/\List.getD y (31:Nat) qBV9=List.getD (DX.D x') (31:Nat) qBV9/\True)/\True)/\(decide ((qBVc x)<(qBVa c))=false->List.getD (DX.D x) qBVb qBV9=List.getD z qBVb qBV9/\List.getD (DX.D x) qBVd qBV9=List.getD z qBVd qBV9/\List.getD (DX.D x) (2:Nat) qBV9=List.getD z (2:Nat) qBV9/\List.getD (DX.D x) (3:Nat) qBV9=List.getD z (3:Nat) qBV9/\List.getD (DX.D x) (4:Nat) qBV9=List.getD z (4:Nat) qBV9/\List.getD (DX.D x) (5:Nat) qBV9=List.getD z (5:Nat) qBV9/\List.getD (DX.D x) (6:Nat) qBV9=List.getD z (6:Nat) qBV9/\List.getD (DX.D x) (7:Nat) qBV9=List.getD z (7:Nat) qBV9/\List.getD (DX.D x) (8:Nat) qBV9=List.getD z (8:Nat) qBV9/\List.getD (DX.D x) (9:Nat) qBV9=List.getD z (9:Nat) qBV9/\List.getD (DX.D x) (10:Nat) qBV9=List.getD z (10:Nat) qBV9/\List.getD (DX.D x) (11:Nat) qBV9=List.getD z (11:Nat) qBV9/\List.getD (DX.D x) (12:Nat) qBV9=List.getD z (12:Nat) qBV9/\List.getD (DX.D x) (13:Nat) qBV9=List.getD z (13:Nat) qBV9/\List.getD (DX.D x) (14:Nat) qBV9=List.getD z (14:Nat) qBV9/\List.getD (DX.D x) (15:Nat) qBV9=List.getD z (15:Nat) qBV9/\List.getD (DX.D x) (16:Nat) qBV9=List.getD z (16:Nat) qBV9/\List.getD (DX.D x) (17:Nat) qBV9=List.getD z (17:Nat) qBV9/\List.getD (DX.D x) (18:Nat) qBV9=List.getD z (18:Nat) qBV9/\List.getD (DX.D x) (19:Nat) qBV9=List.getD z (19:Nat) qBV9/\List.getD (DX.D x) (20:Nat) qBV9=List.getD z (20:Nat) qBV9/\List.getD (DX.D x) (21:Nat) qBV9=List.getD z (21:Nat) qBV9/\List.getD (DX.D x) (22:Nat) qBV9=List.getD z (22:Nat) qBV9/\List.getD (DX.D x) (23:Nat) qBV9=List.getD z (23:Nat) qBV9/\List.getD (DX.D x) (24:Nat) qBV9=List.getD z (24:Nat) qBV9/\List.getD (DX.D x) (25:Nat) qBV9=List.getD z (25:Nat) qBV9/\List.getD (DX.D x) (26:Nat) qBV9=List.getD z (26:Nat) qBV9/\List.getD (DX.D x) (27:Nat) qBV9=List.getD z (27:Nat) qBV9/\List.getD (DX.D x) (28:Nat) qBV9=List.getD z (28:Nat) qBV9/\List.getD (DX.D x) (29:Nat) qBV9=List.getD z (29:Nat) qBV9/\List.getD (DX.D x) (30:Nat) qBV9=List.getD z (30:Nat) qBV9/\List.getD (DX.D x) (31:Nat) qBV9=List.getD z (31:Nat) qBV9/\True)):=by kernel_rfl
theorem Zqr (n:Int) (d:List Int):OkV (Zl9 n d):=⟨by simp [Zl9,lisV,numV,bytV,n32,Val.sz,szL]⟩
theorem Zvm (x:Ins) (d:List Int):OkV (Zvk x d):=⟨by simp [Zvk,lisV,numV,bytV,n32,Val.sz,szL]⟩
theorem Zqs (d l:List Int) (hl:l.length<=1000000):PureC E2 58 [Zx d,.psl Th.ints l false] (Zx (Zfx d l)):=by
 refine Za Zh (Zg Zh Zmb 400) ?_
 rw [Zqp];delta qBV2 qBV6 qBV1 qBV3 qBV4 qBV5 qBV7
 refine ⟨fun x=>∃q,q<=l.length/\x.k=q/\x.D=Zfx d (l.take q)/\x.r=l.length-q,⟨⟨0,l.length,d,[],0,0,0,0⟩,⟨0,Nat.zero_le _,rfl,rfl,rfl⟩,rfl,⟨rfl,rfl,⟨rfl,id⟩,rfl,rfl,trivial⟩,⟨rfl,rfl,rfl,rfl,rfl,rfl,rfl,rfl,rfl,rfl,rfl,rfl,rfl,rfl,rfl,rfl,rfl,rfl,rfl,rfl,rfl,rfl,rfl,rfl,rfl,rfl,rfl,rfl,rfl,rfl,rfl,rfl,trivial⟩,⟨rfl,rfl,rfl,rfl,rfl,rfl,rfl,rfl,rfl,rfl,rfl,rfl,rfl,rfl,rfl,rfl,rfl,rfl,rfl,rfl,rfl,rfl,rfl,rfl,rfl,rfl,rfl,rfl,rfl,rfl,rfl,rfl,trivial⟩,trivial⟩,?_⟩
 rintro x ⟨q,hq1,hq2,hq3,hq4⟩
 refine And.intro (fun h=> ?_) (fun h=> ?_)
 · have h:=of_decide_eq_true h
   refine ⟨by omega,by omega,fun n hn=>⟨⟨by omega,Zqr n x.D⟩,fun y hy=>⟨⟨q+1,l.length-(q+1),y,[],0,0,0,0⟩,⟨q+1,by omega,rfl,?_,rfl⟩,by show l.length-(q+1)+1<=x.r;omega,rfl,⟨rfl,rfl,⟨rfl,id⟩,rfl,?_,trivial⟩,⟨rfl,rfl,rfl,rfl,rfl,rfl,rfl,rfl,rfl,rfl,rfl,rfl,rfl,rfl,rfl,rfl,rfl,rfl,rfl,rfl,rfl,rfl,rfl,rfl,rfl,rfl,rfl,rfl,rfl,rfl,rfl,rfl,trivial⟩,⟨rfl,rfl,rfl,rfl,rfl,rfl,rfl,rfl,rfl,rfl,rfl,rfl,rfl,rfl,rfl,rfl,rfl,rfl,rfl,rfl,rfl,rfl,rfl,rfl,rfl,rfl,rfl,rfl,rfl,rfl,rfl,rfl,trivial⟩,trivial⟩⟩⟩
   · have hn:l[q]? =some n:=by rw [<-hq2];exact hn
     have hy:y=Zbd 0 (Zl9 n x.D):=hy
     show y=_
     rw [Xg hn,Zfx,List.foldl_append,hy,hq3];rfl
   · show wr .i64 ((x.k:Int)+1)=((q+1:Nat):Int)
     rw [hq2,wr64 (by omega) (by omega)];omega
 · have h:=of_decide_eq_false h
   obtain rfl:q=l.length:=by omega
   rw [List.take_length] at hq3
   rw [hq3]
   exact ⟨rfl,rfl,rfl,rfl,rfl,rfl,rfl,rfl,rfl,rfl,rfl,rfl,rfl,rfl,rfl,rfl,rfl,rfl,rfl,rfl,rfl,rfl,rfl,rfl,rfl,rfl,rfl,rfl,rfl,rfl,rfl,rfl,trivial⟩
theorem Zqt (c:List Ins) (hl:c.length<=1000000):PureC E2 55 [.psl Th.ins c false] (Zx (Zjr c)):=by
 refine Za Zh (Zg Zh Zmb 400) ?_
 rw [Zqq];delta qBVb qBVd qBV9 qBV8 qBVa qBVc
 refine ⟨fun x=>∃q,q<=c.length/\x.k=q/\x.D=Zjr (c.take q)/\x.r=c.length-q,⟨⟨0,c.length,Zva,[],0,0,0,0⟩,⟨0,Nat.zero_le _,rfl,rfl,rfl⟩,rfl,⟨rfl,⟨rfl,id⟩,rfl,rfl,trivial⟩,⟨rfl,rfl,rfl,rfl,rfl,rfl,rfl,rfl,rfl,rfl,rfl,rfl,rfl,rfl,rfl,rfl,rfl,rfl,rfl,rfl,rfl,rfl,rfl,rfl,rfl,rfl,rfl,rfl,rfl,rfl,rfl,rfl,trivial⟩,trivial⟩,?_⟩
 rintro x ⟨q,hq1,hq2,hq3,hq4⟩
 refine And.intro (fun h=> ?_) (fun h=> ?_)
 · have h:=of_decide_eq_true h
   refine ⟨by omega,by omega,fun n hn=>⟨⟨by omega,Zvm n x.D⟩,fun y hy=>⟨⟨q+1,c.length-(q+1),y,[],0,0,0,0⟩,⟨q+1,by omega,rfl,?_,rfl⟩,by show c.length-(q+1)+1<=x.r;omega,rfl,⟨rfl,⟨rfl,id⟩,rfl,?_,trivial⟩,⟨rfl,rfl,rfl,rfl,rfl,rfl,rfl,rfl,rfl,rfl,rfl,rfl,rfl,rfl,rfl,rfl,rfl,rfl,rfl,rfl,rfl,rfl,rfl,rfl,rfl,rfl,rfl,rfl,rfl,rfl,rfl,rfl,trivial⟩,trivial⟩⟩⟩
   · have hn:c[q]? =some n:=by rw [<-hq2];exact hn
     have hy:y=Zbd 1 (Zvk n x.D):=hy
     show y=_
     rw [Xg hn,Zjr,List.foldl_append,hy,hq3];rfl
   · show wr .i64 ((x.k:Int)+1)=((q+1:Nat):Int)
     rw [hq2,wr64 (by omega) (by omega)];omega
 · have h:=of_decide_eq_false h
   obtain rfl:q=c.length:=by omega
   rw [List.take_length] at hq3
   rw [hq3]
   exact ⟨rfl,rfl,rfl,rfl,rfl,rfl,rfl,rfl,rfl,rfl,rfl,rfl,rfl,rfl,rfl,rfl,rfl,rfl,rfl,rfl,rfl,rfl,rfl,rfl,rfl,rfl,rfl,rfl,rfl,rfl,rfl,rfl,trivial⟩
end
section
open Go
def Zyr (E:Eng thy):Dc E (List Int):=(Zk4 (E:=E) Th.ints:Dc E (List (thy.dom Th.ints)))
def Ziq (E:Eng thy):Dc E (List Ins):=(Zk4 (E:=E) Th.ins:Dc E (List (thy.dom Th.ins)))
def dDig (E:Eng thy):Dc E (List Int) where
 dec v:=match v with| .agg cs=>(match U5 .u8 cs with|some l=>(match Nat.beq l.length 32 with|true=>some l|false=>none)|none=>none)|_=>none
 enc d:=Zx d
 ok v l h:=by
  split at h
  · rename_i cs
    split at h
    · rename_i l' hl
      split at h
      · rename_i hlen
        cases h
        have hlen:=gC9 hlen
        have e:Zx l=rowV .u8 l:=by
         match l,hlen with
         | [a0,a1,a2,a3,a4,a5,a6,a7,a8,a9,a10,a11,a12,a13,a14,a15,a16,a17,a18,a19,a20,a21,a22,a23,a24,a25,a26,a27,a28,a29,a30,a31],_=>rfl
        rw [e]
        exact (Z3q E .u8).ok (.agg cs) l hl
      · cases h
    · cases h
  · cases h
def Z0g:Sum thy:=X7 E2 gthV 4 (.cons (dDig E2) (.cons (Zyr E2) .nil)) (fun x=>x.2.1.length<=1000000) (fun x=>Zfx x.1 x.2.1) Zx
theorem Zm2:SumOk E2 58 Z0g:=Zw Zh (Zi (f:=58) rfl) fun x h=>Zqs x.1 x.2.1 h
def Fstk:Fns thy:=addS F0 58 Z0g
theorem Z0h:FnsOk E2 Fstk:=Zf X5 Zm2
abbrev qBW1:=(0:Int)
theorem Zpe (l:List Int) (z:List Int):Zr E2 Fstk (vc E2 Fstk 400) 35 [.psl Th.ints l false] hp0 0 (fun r=>ret E2 (patch hp0 0 r) r.v (Zx z))=(
 List.length l<=(1000000:Nat)/\∀(y:List Int),y=Zfx [qBW1,qBW1,qBW1,qBW1,qBW1,qBW1,qBW1,qBW1,qBW1,qBW1,qBW1,qBW1,qBW1,qBW1,qBW1,qBW1,qBW1,qBW1,qBW1,qBW1,qBW1,qBW1,qBW1,qBW1,qBW1,qBW1,qBW1,qBW1,qBW1,qBW1,qBW1,qBW1] l->List.getD y (0:Nat) qBW1=List.getD z (0:Nat) qBW1/\List.getD y (1:Nat) qBW1=List.getD z (1:Nat) qBW1/\List.getD y (2:Nat) qBW1=List.getD z (2:Nat) qBW1/\List.getD y (3:Nat) qBW1=List.getD z (3:Nat) qBW1/\List.getD y (4:Nat) qBW1=List.getD z (4:Nat) qBW1/\List.getD y (5:Nat) qBW1=List.getD z (5:Nat) qBW1/\List.getD y (6:Nat) qBW1=List.getD z (6:Nat) qBW1/\List.getD y (7:Nat) qBW1=List.getD z (7:Nat) qBW1/\List.getD y (8:Nat) qBW1=List.getD z (8:Nat) qBW1/\List.getD y (9:Nat) qBW1=List.getD z (9:Nat) qBW1/\List.getD y (10:Nat) qBW1=List.getD z (10:Nat) qBW1/\List.getD y (11:Nat) qBW1=List.getD z (11:Nat) qBW1/\List.getD y (12:Nat) qBW1=List.getD z (12:Nat) qBW1/\List.getD y (13:Nat) qBW1=List.getD z (13:Nat) qBW1/\List.getD y (14:Nat) qBW1=List.getD z (14:Nat) qBW1/\List.getD y (15:Nat) qBW1=List.getD z (15:Nat) qBW1/\List.getD y (16:Nat) qBW1=List.getD z (16:Nat) qBW1/\List.getD y (17:Nat) qBW1=List.getD z (17:Nat) qBW1/\List.getD y (18:Nat) qBW1=List.getD z (18:Nat) qBW1/\List.getD y (19:Nat) qBW1=List.getD z (19:Nat) qBW1/\List.getD y (20:Nat) qBW1=List.getD z (20:Nat) qBW1/\List.getD y (21:Nat) qBW1=List.getD z (21:Nat) qBW1/\List.getD y (22:Nat) qBW1=List.getD z (22:Nat) qBW1/\List.getD y (23:Nat) qBW1=List.getD z (23:Nat) qBW1/\List.getD y (24:Nat) qBW1=List.getD z (24:Nat) qBW1/\List.getD y (25:Nat) qBW1=List.getD z (25:Nat) qBW1/\List.getD y (26:Nat) qBW1=List.getD z (26:Nat) qBW1/\List.getD y (27:Nat) qBW1=List.getD z (27:Nat) qBW1/\List.getD y (28:Nat) qBW1=List.getD z (28:Nat) qBW1/\List.getD y (29:Nat) qBW1=List.getD z (29:Nat) qBW1/\List.getD y (30:Nat) qBW1=List.getD z (30:Nat) qBW1/\List.getD y (31:Nat) qBW1=List.getD z (31:Nat) qBW1/\True):=by kernel_rfl
theorem Zpf (l:List Int) (hl:l.length<=1000000):PureC E2 35 [.psl Th.ints l false] (Zx (Zma l)):=by
 refine Za Zh (Zg Zh Z0h 400) ?_
 rw [Zpe];delta qBW1
 refine ⟨hl,fun y hy=> ?_⟩
 rw [hy]
 exact ⟨rfl,rfl,rfl,rfl,rfl,rfl,rfl,rfl,rfl,rfl,rfl,rfl,rfl,rfl,rfl,rfl,rfl,rfl,rfl,rfl,rfl,rfl,rfl,rfl,rfl,rfl,rfl,rfl,rfl,rfl,rfl,rfl,trivial⟩
def Sstk:Sum thy:=X7 E2 gthV 4 (.cons (Zyr E2) .nil) (fun x=>x.1.length<=1000000) (fun x=>Zma x.1) Zx
theorem Z0i:SumOk E2 35 Sstk:=Zw Zh (Zi (f:=35) rfl) fun x h=>Zpf x.1 h
def Sprg:Sum thy:=X7 E2 gthV 4 (.cons (Ziq E2) .nil) (fun x=>x.1.length<=1000000) (fun x=>Zjr x.1) Zx
theorem Z0j:SumOk E2 55 Sprg:=Zw Zh (Zi (f:=55) rfl) fun x h=>Zqt x.1 h
end
section
open Go.ChangeShapes Go.WideShapes Go.ChangeAt Go.RowKit
theorem Zw2 {H:Type} {enc:TypeId×Value->H} {P:Program} {w:World} {spare:Nat->Bool} {held:Bool} {fuel:Nat} {t:TypeId} {cs:List Value} {k k':IntKind} {n:Int} {p:List MemPlace} (ht:P.underlying t=some (.int k))
 (h:DataW.trod enc P w 0 spare held fuel t cs=some (.lit (.int k' n),p)):cs= [.int k' n]:=by
 cases fuel with
 |zero=>simp [DataW.trod] at h
 |succ m=>
  unfold DataW.trod at h
  rw [ht] at h
  split at h<;>simp_all
theorem gDig:Tryz.prog.globalNamed "wagonpool/digest.k" =some 1:=by kernel_rfl
theorem tDig:(Tryz.prog.globals[1]?).map (·.type)=some 203:=by kernel_rfl
theorem Zw3:Tryz.prog.cellsOf 143=1:=by kernel_rfl
abbrev Zi3:List (String×DataW Unit):= [("wagonpool/digest.k",Rows.laid_wagonpool_digest_k),("wagonpool/tvm.binaries",Rows.laid_wagonpool_tvm_binaries)]
theorem Zpr {W:World} (h:laidMetH Tryz.prog Zi3 W):laidMetH Tryz.prog Z20 W:=laidMetH.filter (fun x=>x.1== "wagonpool/tvm.binaries") h
theorem Zw4 {W:World} (h:laidMetH Tryz.prog Zi3 W):laidMetH Tryz.prog [("wagonpool/digest.k",Rows.laid_wagonpool_digest_k)] W:=laidMetH.filter (fun x=>x.1== "wagonpool/digest.k") h
set_option maxRecDepth 100000 in
theorem Z27:(Rows.laid_wagonpool_digest_k:DataW Unit)= .agg (kNums.map fun n=> .lit (.int .u32 n)):=rfl
set_option maxRecDepth 100000 in
theorem k_sv:kSV= .agg (kNums.map fun n=> .int true .u32 n):=rfl
theorem Zw5 {W:World} (h:laidMetH Tryz.prog Zi3 W) (j:Nat) (s:SV thy) (hj:kSV.cells[j]? =some s):∃v,W.cell? ⟨1,j,none⟩=some v/\Den E2 (fun _=>none) (gTop W) s v:=by
 have h0:laidMet Tryz.prog [("wagonpool/digest.k",Rows.laid_wagonpool_digest_k)] W:=Zw4 h
 obtain ⟨ps,⟨g,t,cs,fuel,p,q,hg,ht,hv,hd,_,_⟩,_⟩:=h0
 obtain rfl:=Option.some.inj (gDig.symm.trans hg)
 obtain rfl:=Option.some.inj (tDig.symm.trans ht)
 rw [Z27] at hd
 obtain ⟨xs,m,rfl,hx,hl,hxl,hf⟩:=DataW.trod_array Tryz.underlying203 hd
 simp only [Prod.mk.injEq,DataW.agg.injEq] at hx
 rw [k_sv] at hj
 have hj:(kNums.map fun n=>(SV.int true .u32 n:SV thy))[j]? =some s:=hj
 rw [List.getElem?_map] at hj
 obtain ⟨n,hn,rfl⟩:=Option.map_eq_some_iff.1 hj
 have hj64:j<64:=(gA9.1 hn).1
 have h1:=hf j hj64
 have h2:(xs.map (·.1))[j]? =some (.lit (.int .u32 n)):=by rw [<-hx.1,List.getElem?_map,hn];rfl
 rw [List.getElem?_map] at h2
 obtain ⟨x,hx1,hx2⟩:=Option.map_eq_some_iff.1 h2
 rw [hx1,Zw3,Nat.mul_one] at h1
 obtain ⟨d,p'⟩:=x
 obtain rfl:d=_:=hx2
 have h3:=Zw2 Tryz.underlying143 h1
 refine ⟨.int .u32 n,?_,.int _ _ _⟩
 rw [World.var?_cell hg hv j]
 have h4:((cs.toList.drop j).take 1)[0]? =some (.int .u32 n):=by rw [h3];rfl
 rw [List.getElem?_take,if_pos (by decide),List.getElem?_drop] at h4
 simpa using h4
set_option maxRecDepth 100000 in
theorem Zps {f:FuncId} {args:List (SV thy)} (hp:PureC E2 f args (.bool false true)) {W:World} (hL:laidMetH Tryz.prog Zi3 W) {vals:Array Value} (hd:DenL E σ0 (gTop W) args vals.toList):Calls Tryz.prog f vals W fun en W'=>en= .returned (.bool true)/\Ext W W':=by
 have hI:Inv E2 W.heap.size σ0 hp0 (gTop W) W:=Z0l fun n sv hn j s hj=>by
  match n,hn with
  |1,hn=>
   cases hn
   exact Zw5 hL j s hj
  |0,hn=>
   cases hn
   match j,hj with
   |0,hj=>cases hj;obtain ⟨v,h1,h2⟩:=Z0q (Zpr hL);exact ⟨v,h1,h2.like (W4 E Zav).1⟩
 refine (hp _ W vals hI ⟨hd.1,fun j sv u h1 h2=>(hd.2 j sv u h1 h2).like (W4 E Zav).1⟩).mono ?_
 rintro en w' ⟨u,rfl,g',hS,_,hv⟩
 cases hv
 exact ⟨rfl,Zok hS⟩
section
variable {H:Type} {enc:TypeId × Value->H} {w:World} {spare:Nat->Bool} {held:Bool}
end
end
section
open Go.ChangeShapes Go.WideShapes Go.ChangeAt Go.RowKit
abbrev Zov:List (String×DataW Unit):= [("math/bits.deBruijn32tab",Rows.laid_math_bits_deBruijn32tab),("math/bits.deBruijn64tab",Rows.laid_math_bits_deBruijn64tab),("wagonpool/digest.k",Rows.laid_wagonpool_digest_k),("wagonpool/tvm.binaries",Rows.laid_wagonpool_tvm_binaries)]
theorem Zv9 {W:World} (h:laidMetH Tryz.prog Zov W):laidMetH Tryz.prog Zi3 W:=laidMetH.filter (fun x=>x.1== "wagonpool/digest.k" ||x.1== "wagonpool/tvm.binaries") h
theorem Zow {f:FuncId} {args:List (SV thy)} (hp:PureC E2 f args (.bool false true)) {W:World} (hL:laidMetH Tryz.prog Zov W) {vals:Array Value} (hd:DenL E σ0 (gTop W) args vals.toList):Calls Tryz.prog f vals W fun en W'=>en= .returned (.bool true)/\Ext W W':=Zps hp (Zv9 hL) hd
theorem Zry (os:Os) (args:Array Value):laidMetH Tryz.prog Zov ((World.doorLaid Tryz.prog 600 os).forCall (fun _ _=>0) ⟨#[],args,[]⟩).memory:=
 laidMetH_of_parts3 (fuel:=8) (laidMet_of_run' 8 (by kernel_rfl) (by kernel_rfl)) (by kernel_rfl) (by kernel_rfl)
theorem Zyn {W W':World} (h:Ext W W'):Ext W {W' with os:=W.os}/\Go.Clock.Later W.os W'.os:=by
 have hb:Below W.heap.size W W':=h
 exact ⟨(⟨rfl,hb.tape,hb.output,hb.size,hb.block⟩:Below W.heap.size W {W' with os:=W.os}),by rw [hb.os];exact Go.Clock.Later.refl _⟩
end
section
open Go.ChangeShapes Go.WideShapes Go.ChangeAt Go.RowKit
section
variable {H:Type} {enc:TypeId × Value->H} {w:World} {spare:Nat->Bool} {held:Bool}
end
end
section
open Go
def Zh8 (s:St) (n:Int):Opn:=⟨s.pc,s.fuel,s.status,s.clause,s.stack.drop (s.stack.length-(min (max n 0) s.stack.length).toNat),((s.stack.length-(min (max n 0) s.stack.length).toNat:Nat):Int),Zma (s.stack.take (s.stack.length-(min (max n 0) s.stack.length).toNat))⟩
def opnV (o:Opn):SV thy:= .agg (encF false .opns o)
def Fopn:Fns thy:=addS F0 35 Sstk
theorem Zzw:FnsOk E2 Fopn:=Zf X5 Z0i
abbrev qBZ2:=(0:Int)
abbrev qBZ4 (a0:St):=(↑(List.length (St.stack a0)):Int)
abbrev qBZ1 (a0:St) (b0:Int):=((qBZ4 a0)-mm2 false (mm2 true b0 qBZ2) (qBZ4 a0))
abbrev qBZ3 (a0:Opn):=(Opn.rest a0)
theorem Zrw (s:St) (n:Int) (z:Opn):Zr E2 Fopn (vc E2 Fopn 400) 17 [stV s,.int false .i64 n] hp0 0 (fun r=>ret E2 (patch hp0 0 r) r.v (opnV z))=(
 (qBZ2<=wr IntKind.i64 (qBZ1 s n)/\wr IntKind.i64 (qBZ1 s n)<=(qBZ4 s))/\(qBZ2<=wr IntKind.i64 (qBZ1 s n)/\wr IntKind.i64 (qBZ1 s n)<=(qBZ4 s))/\List.length (List.take (Int.toNat (wr IntKind.i64 (qBZ1 s n))) (St.stack s))<=(1000000:Nat)/\∀(y:List Int),y=Zma (List.take (Int.toNat (wr IntKind.i64 (qBZ1 s n))) (St.stack s))->St.pc s=Opn.pc z/\St.fuel s=Opn.fuel z/\St.status s=Opn.status z/\St.clause s=Opn.clause z/\(List.drop (Int.toNat (wr IntKind.i64 (qBZ1 s n))) (St.stack s)=Opn.top z/\(false=true->false=true))/\wr IntKind.i64 (qBZ1 s n)=Opn.depth z/\List.getD y (0:Nat) qBZ2=List.getD (qBZ3 z) (0:Nat) qBZ2/\List.getD y (1:Nat) qBZ2=List.getD (qBZ3 z) (1:Nat) qBZ2/\List.getD y (2:Nat) qBZ2=List.getD (qBZ3 z) (2:Nat) qBZ2/\List.getD y (3:Nat) qBZ2=List.getD (qBZ3 z) (3:Nat) qBZ2/\List.getD y (4:Nat) qBZ2=List.getD (qBZ3 z) (4:Nat) qBZ2/\List.getD y (5:Nat) qBZ2=List.getD (qBZ3 z) (5:Nat) qBZ2/\List.getD y (6:Nat) qBZ2=List.getD (qBZ3 z) (6:Nat) qBZ2/\List.getD y (7:Nat) qBZ2=List.getD (qBZ3 z) (7:Nat) qBZ2/\List.getD y (8:Nat) qBZ2=List.getD (qBZ3 z) (8:Nat) qBZ2/\List.getD y (9:Nat) qBZ2=List.getD (qBZ3 z) (9:Nat) qBZ2/\List.getD y (10:Nat) qBZ2=List.getD (qBZ3 z) (10:Nat) qBZ2/\List.getD y (11:Nat) qBZ2=List.getD (qBZ3 z) (11:Nat) qBZ2/\List.getD y (12:Nat) qBZ2=List.getD (qBZ3 z) (12:Nat) qBZ2/\List.getD y (13:Nat) qBZ2=List.getD (qBZ3 z) (13:Nat) qBZ2/\List.getD y (14:Nat) qBZ2=List.getD (qBZ3 z) (14:Nat) qBZ2/\List.getD y (15:Nat) qBZ2=List.getD (qBZ3 z) (15:Nat) qBZ2/\List.getD y (16:Nat) qBZ2=List.getD (qBZ3 z) (16:Nat) qBZ2/\List.getD y (17:Nat) qBZ2=List.getD (qBZ3 z) (17:Nat) qBZ2/\List.getD y (18:Nat) qBZ2=List.getD (qBZ3 z) (18:Nat) qBZ2/\List.getD y (19:Nat) qBZ2=List.getD (qBZ3 z) (19:Nat) qBZ2/\List.getD y (20:Nat) qBZ2=List.getD (qBZ3 z) (20:Nat) qBZ2/\List.getD y (21:Nat) qBZ2=List.getD (qBZ3 z) (21:Nat) qBZ2/\List.getD y (22:Nat) qBZ2=List.getD (qBZ3 z) (22:Nat) qBZ2/\List.getD y (23:Nat) qBZ2=List.getD (qBZ3 z) (23:Nat) qBZ2/\List.getD y (24:Nat) qBZ2=List.getD (qBZ3 z) (24:Nat) qBZ2/\List.getD y (25:Nat) qBZ2=List.getD (qBZ3 z) (25:Nat) qBZ2/\List.getD y (26:Nat) qBZ2=List.getD (qBZ3 z) (26:Nat) qBZ2/\List.getD y (27:Nat) qBZ2=List.getD (qBZ3 z) (27:Nat) qBZ2/\List.getD y (28:Nat) qBZ2=List.getD (qBZ3 z) (28:Nat) qBZ2/\List.getD y (29:Nat) qBZ2=List.getD (qBZ3 z) (29:Nat) qBZ2/\List.getD y (30:Nat) qBZ2=List.getD (qBZ3 z) (30:Nat) qBZ2/\List.getD y (31:Nat) qBZ2=List.getD (qBZ3 z) (31:Nat) qBZ2/\True):=by kernel_rfl
theorem Zrx (s:St) (n:Int) (hs:s.stack.length<=1000000):PureC E2 17 [stV s,.int false .i64 n] (opnV (Zh8 s n)):=by
 refine Za Zh (Zg Zh Zzw 400) ?_
 rw [Zrw];delta qBZ2 qBZ4 qBZ1 qBZ3
 simp only [Z4,Yf]
 have e:wr .i64 ((s.stack.length:Int)-min (max n 0) (s.stack.length:Int))=((s.stack.length-(min (max n 0) s.stack.length).toNat:Nat):Int):=by
  rw [wr64 (by omega) (by omega)];omega
 rw [e,Int.toNat_natCast]
 refine ⟨⟨by omega,by omega⟩,⟨by omega,by omega⟩,by rw [List.length_take];omega,fun y hy=> ?_⟩
 rw [hy]
 exact ⟨rfl,rfl,rfl,rfl,⟨rfl,id⟩,rfl,rfl,rfl,rfl,rfl,rfl,rfl,rfl,rfl,rfl,rfl,rfl,rfl,rfl,rfl,rfl,rfl,rfl,rfl,rfl,rfl,rfl,rfl,rfl,rfl,rfl,rfl,rfl,rfl,rfl,rfl,rfl,rfl,trivial⟩
end
section
open Go
def kOf (s:St) (n:Int):Nat:=s.stack.length-(min (max n 0) s.stack.length).toNat
theorem Zp7 (s:St) (n:Int):(Zh8 s n).depth=(kOf s n:Int)/\(Zh8 s n).top.length=(min (max n 0) s.stack.length).toNat/\(s.stack.take (kOf s n)).length=kOf s n/\kOf s n+(Zh8 s n).top.length=s.stack.length:=by
 refine ⟨rfl,?_,?_,?_⟩
 · show (s.stack.drop _).length=_
   rw [List.length_drop];omega
 · rw [List.length_take];unfold kOf;omega
 · show kOf s n+(s.stack.drop _).length=_
   rw [List.length_drop];unfold kOf;omega
end
section
open Go
def Z1q (th:Th):Dc E2 (domT th):=dRow Zh th fun _ _ h=>Zgd h
def Zur:Dc E2 Env:=Z1q .envs
def dSt2:Dc E2 St:=Z1q .sts
def Z4t:Dc E2 Opn:=Z1q .opns
def Zy7:Sum thy:=Zjf (.cons dSt2 (.cons (dInt (E:=E2) .i64) .nil)) (fun x=>x.1.stack.length<=1000000) (fun x=>Zh8 x.1 x.2.1) opnV
theorem Zus:SumOk E2 17 Zy7:=Us Zh (Zi (f:=17) rfl) fun x h=>Zrx x.1 x.2.1 h
def Zut:Sum thy:=Zjf (.cons (Ziq E2) (.cons Zur (.cons dSt2 .nil))) (fun _=>True) (fun x=>V7 x.1 x.2.1 x.2.2.1) fun y=> .tup [stV y.1,.int false .i64 y.2]
theorem Zjg:SumOk E2 13 Zut:=Us Zh (Zi (f:=13) rfl) fun x _=>up2 (Zrf x.1 x.2.1 x.2.2.1)
theorem Zy8 {d:List Int} (h:d.length=32):n32 d=d:=by
 match d,h with
 | [a0,a1,a2,a3,a4,a5,a6,a7,a8,a9,a10,a11,a12,a13,a14,a15,a16,a17,a18,a19,a20,a21,a22,a23,a24,a25,a26,a27,a28,a29,a30,a31],_=>rfl
end
section
open Go
def Finp:Fns thy:=addS F0 52 Zvl
theorem Z1a:FnsOk E2 Finp:=Zf X5 Zfy
abbrev qCC2:=(1:Nat)
abbrev qCCo:=(qCC2+qCC2+qCC2+qCC2+qCC2+qCC2+qCC2+qCC2+qCC2+qCC2)
abbrev qCCi:=(qCC2+qCC2+qCC2+qCC2+qCC2+qCC2+qCC2+qCC2+qCC2)
abbrev qCCq:=(qCC2+qCC2+qCC2+qCC2+qCC2+qCC2+qCC2+qCC2)
abbrev qCCh:=(1:Int)
abbrev qCCn:=(qCC2+qCC2+qCC2+qCC2+qCC2+qCC2)
abbrev qCCs:=(qCC2+qCC2+qCC2+qCC2+qCC2+qCC2+qCC2)
abbrev qCCp (a0:Env):=(List.take qCC2 [Val.mk qCCh (Env.v0 a0) [] []]++ [Val.mk qCCh (Env.v1 a0) [] []])
abbrev qCC7 (a0:Env):=(List.take (qCC2+qCC2) (qCCp a0)++ [Val.mk qCCh (Env.v2 a0) [] []])
abbrev qCCr (a0:Env):=(List.take (qCC2+qCC2+qCC2) (qCC7 a0)++ [Val.mk qCCh (Env.v3 a0) [] []])
abbrev qCCg (a0:Env):=(List.take (qCC2+qCC2+qCC2+qCC2) (qCCr a0)++ [Val.mk qCCh (Env.v4 a0) [] []])
abbrev qCC3 (a0:Env):=(List.take (qCC2+qCC2+qCC2+qCC2+qCC2) (qCCg a0)++ [Val.mk qCCh (Env.v5 a0) [] []])
abbrev qCCd (a0:Env):=(List.take qCCs (List.take qCCn (qCC3 a0)++ [Val.mk qCCh (Env.v6 a0) [] []])++ [Val.mk qCCh (Env.v7 a0) [] []])
abbrev qCC5 (a0:Env):=(List.take qCCq (qCCd a0)++ [Val.mk qCCh (Env.v8 a0) [] []])
abbrev qCC1 (a0:Env):=(List.take qCCo (List.take qCCi (qCC5 a0)++ [Val.mk qCCh (Env.v9 a0) [] []])++ [Val.mk qCCh (Env.v10 a0) [] []])
abbrev qCCm:=(qCC2+qCC2+qCC2+qCC2+qCC2+qCC2+qCC2+qCC2+qCC2+qCC2+qCC2+qCC2)
abbrev qCCf:=(qCC2+qCC2+qCC2+qCC2+qCC2+qCC2+qCC2+qCC2+qCC2+qCC2+qCC2)
abbrev qCC6 (a0:Env):=(List.take qCCm (List.take qCCf (qCC1 a0)++ [Val.mk qCCh (Env.v11 a0) [] []])++ [Val.mk qCCh (Env.v12 a0) [] []])
abbrev qCCe:=(qCC2+qCC2+qCC2+qCC2+qCC2+qCC2+qCC2+qCC2+qCC2+qCC2+qCC2+qCC2+qCC2)
abbrev qCCk:=(qCC2+qCC2+qCC2+qCC2+qCC2+qCC2+qCC2+qCC2+qCC2+qCC2+qCC2+qCC2+qCC2+qCC2)
abbrev qCC4 (a0:Env):=(List.take qCCk (List.take qCCe (qCC6 a0)++ [Val.mk qCCh (Env.v13 a0) [] []])++ [Val.mk qCCh (Env.v14 a0) [] []])
abbrev qCC9:=(0:Int)
abbrev qCCc:=(qCC2+qCC2+qCC2+qCC2+qCC2+qCC2+qCC2+qCC2+qCC2+qCC2+qCC2+qCC2+qCC2+qCC2+qCC2)
abbrev qCCb:=(qCC2+qCC2+qCC2+qCC2+qCC2+qCC2+qCC2+qCC2+qCC2+qCC2+qCC2+qCC2+qCC2+qCC2+qCC2+qCC2)
abbrev qCCj:=(0:Nat)
abbrev qCC8 (a0:Env):=(Val.mk (3:Int) qCC9 [] [Val.mk qCCh (Env.has a0) [] [],Val.mk (3:Int) qCC9 [] (List.take qCCb (List.drop qCCj (List.take qCCc (qCC4 a0)++ [Val.mk qCCh (Env.v15 a0) [] []])))])
abbrev qCCa:=(140737488355328:Nat)
abbrev qCCl:=(64:Nat)
theorem Zlj (v:Env) (z:List Int):Zr E2 Finp (vc E2 Finp 400) 56 [envV v] hp0 0 (fun r=>ret E2 (patch hp0 0 r) r.v (Zx z))=(
 (qCC2<=qCC2/\qCCj<=qCC2/\(qCC2+qCC2)*qCCl<=qCCa)/\(qCC2+qCC2<=List.length (qCCp v)/\qCCj<=qCC2+qCC2/\(qCC2+qCC2+qCC2)*qCCl<=qCCa)/\(qCC2+qCC2+qCC2<=List.length (qCC7 v)/\qCCj<=qCC2+qCC2+qCC2/\(qCC2+qCC2+qCC2+qCC2)*qCCl<=qCCa)/\(qCC2+qCC2+qCC2+qCC2<=List.length (qCCr v)/\qCCj<=qCC2+qCC2+qCC2+qCC2/\(qCC2+qCC2+qCC2+qCC2+qCC2)*qCCl<=qCCa)/\(qCC2+qCC2+qCC2+qCC2+qCC2<=List.length (qCCg v)/\qCCj<=qCC2+qCC2+qCC2+qCC2+qCC2/\qCCn*qCCl<=qCCa)/\(qCC2+qCC2+qCC2+qCC2+qCC2+qCC2<=List.length (qCC3 v)/\qCCj<=qCC2+qCC2+qCC2+qCC2+qCC2+qCC2/\qCCs*qCCl<=qCCa)/\(qCC2+qCC2+qCC2+qCC2+qCC2+qCC2+qCC2<=List.length (List.take qCCn (qCC3 v)++ [Val.mk qCCh (Env.v6 v) [] []])/\qCCj<=qCC2+qCC2+qCC2+qCC2+qCC2+qCC2+qCC2/\qCCq*qCCl<=qCCa)/\(qCC2+qCC2+qCC2+qCC2+qCC2+qCC2+qCC2+qCC2<=List.length (qCCd v)/\qCCj<=qCC2+qCC2+qCC2+qCC2+qCC2+qCC2+qCC2+qCC2/\qCCi*qCCl<=qCCa)/\(qCC2+qCC2+qCC2+qCC2+qCC2+qCC2+qCC2+qCC2+qCC2<=List.length (qCC5 v)/\qCCj<=qCC2+qCC2+qCC2+qCC2+qCC2+qCC2+qCC2+qCC2+qCC2/\qCCo*qCCl<=qCCa)/\(qCC2+qCC2+qCC2+qCC2+qCC2+qCC2+qCC2+qCC2+qCC2+qCC2<=List.length (List.take qCCi (qCC5 v)++ [Val.mk qCCh (Env.v9 v) [] []])/\qCCj<=qCC2+qCC2+qCC2+qCC2+qCC2+qCC2+qCC2+qCC2+qCC2+qCC2/\qCCf*qCCl<=qCCa)/\(qCC2+qCC2+qCC2+qCC2+qCC2+qCC2+qCC2+qCC2+qCC2+qCC2+qCC2<=List.length (qCC1 v)/\qCCj<=qCC2+qCC2+qCC2+qCC2+qCC2+qCC2+qCC2+qCC2+qCC2+qCC2+qCC2/\qCCm*qCCl<=qCCa)/\(qCC2+qCC2+qCC2+qCC2+qCC2+qCC2+qCC2+qCC2+qCC2+qCC2+qCC2+qCC2<=List.length (List.take qCCf (qCC1 v)++ [Val.mk qCCh (Env.v11 v) [] []])/\qCCj<=qCC2+qCC2+qCC2+qCC2+qCC2+qCC2+qCC2+qCC2+qCC2+qCC2+qCC2+qCC2/\qCCe*qCCl<=qCCa)/\(qCC2+qCC2+qCC2+qCC2+qCC2+qCC2+qCC2+qCC2+qCC2+qCC2+qCC2+qCC2+qCC2<=List.length (qCC6 v)/\qCCj<=qCC2+qCC2+qCC2+qCC2+qCC2+qCC2+qCC2+qCC2+qCC2+qCC2+qCC2+qCC2+qCC2/\qCCk*qCCl<=qCCa)/\(qCC2+qCC2+qCC2+qCC2+qCC2+qCC2+qCC2+qCC2+qCC2+qCC2+qCC2+qCC2+qCC2+qCC2<=List.length (List.take qCCe (qCC6 v)++ [Val.mk qCCh (Env.v13 v) [] []])/\qCCj<=qCC2+qCC2+qCC2+qCC2+qCC2+qCC2+qCC2+qCC2+qCC2+qCC2+qCC2+qCC2+qCC2+qCC2/\qCCc*qCCl<=qCCa)/\(qCC2+qCC2+qCC2+qCC2+qCC2+qCC2+qCC2+qCC2+qCC2+qCC2+qCC2+qCC2+qCC2+qCC2+qCC2<=List.length (qCC4 v)/\qCCj<=qCC2+qCC2+qCC2+qCC2+qCC2+qCC2+qCC2+qCC2+qCC2+qCC2+qCC2+qCC2+qCC2+qCC2+qCC2/\qCCb*qCCl<=qCCa)/\qCCj+qCCb<=List.length (List.take qCCc (qCC4 v)++ [Val.mk qCCh (Env.v15 v) [] []])/\(qCCj+qCC2+qCC2+qCC2<=(4:Nat)/\OkV (qCC8 v))/\∀(y:List Int),y=Zbd (qCCj+qCC2+qCC2) (qCC8 v)->List.getD y qCCj qCC9=List.getD z qCCj qCC9/\List.getD y qCC2 qCC9=List.getD z qCC2 qCC9/\List.getD y (2:Nat) qCC9=List.getD z (2:Nat) qCC9/\List.getD y (3:Nat) qCC9=List.getD z (3:Nat) qCC9/\List.getD y (4:Nat) qCC9=List.getD z (4:Nat) qCC9/\List.getD y (5:Nat) qCC9=List.getD z (5:Nat) qCC9/\List.getD y (6:Nat) qCC9=List.getD z (6:Nat) qCC9/\List.getD y (7:Nat) qCC9=List.getD z (7:Nat) qCC9/\List.getD y (8:Nat) qCC9=List.getD z (8:Nat) qCC9/\List.getD y (9:Nat) qCC9=List.getD z (9:Nat) qCC9/\List.getD y (10:Nat) qCC9=List.getD z (10:Nat) qCC9/\List.getD y (11:Nat) qCC9=List.getD z (11:Nat) qCC9/\List.getD y (12:Nat) qCC9=List.getD z (12:Nat) qCC9/\List.getD y (13:Nat) qCC9=List.getD z (13:Nat) qCC9/\List.getD y (14:Nat) qCC9=List.getD z (14:Nat) qCC9/\List.getD y (15:Nat) qCC9=List.getD z (15:Nat) qCC9/\List.getD y (16:Nat) qCC9=List.getD z (16:Nat) qCC9/\List.getD y (17:Nat) qCC9=List.getD z (17:Nat) qCC9/\List.getD
y (18:Nat) qCC9=List.getD z (18:Nat) qCC9/\List.getD y (19:Nat) qCC9=List.getD z (19:Nat) qCC9/\List.getD y (20:Nat) qCC9=List.getD z (20:Nat) qCC9/\List.getD y (21:Nat) qCC9=List.getD z (21:Nat) qCC9/\List.getD y (22:Nat) qCC9=List.getD z (22:Nat) qCC9/\List.getD y (23:Nat) qCC9=List.getD z (23:Nat) qCC9/\List.getD y (24:Nat) qCC9=List.getD z (24:Nat) qCC9/\List.getD y (25:Nat) qCC9=List.getD z (25:Nat) qCC9/\List.getD y (26:Nat) qCC9=List.getD z (26:Nat) qCC9/\List.getD y (27:Nat) qCC9=List.getD z (27:Nat) qCC9/\List.getD y (28:Nat) qCC9=List.getD z (28:Nat) qCC9/\List.getD y (29:Nat) qCC9=List.getD z (29:Nat) qCC9/\List.getD y (30:Nat) qCC9=List.getD z (30:Nat) qCC9/\List.getD y (31:Nat) qCC9=List.getD z (31:Nat) qCC9/\True):=by kernel_rfl
def Zlk (v:Env):Val:=lisV [numV v.has,lisV (v.v.map numV)]
def Zb0 (v:Env):List Int:=Zbd 2 (Zlk v)
theorem Zp1 (v:Env):OkV (Zlk v):=⟨by simp [Zlk,lisV,numV,Env.v,Val.sz,szL]⟩
theorem Zll (v:Env):PureC E2 56 [envV v] (Zx (Zb0 v)):=by
 refine Za Zh (Zg Zh Z1a 400) ?_
 rw [Zlj];delta qCC2 qCCo qCCi qCCq qCCh qCCn qCCs qCCp qCC7 qCCr qCCg qCC3 qCCd qCC5 qCC1 qCCm qCCf qCC6 qCCe qCCk qCC4 qCC9 qCCc qCCb qCCj qCC8 qCCa qCCl
 refine ⟨of_decide_eq_true (by kernel_rfl),of_decide_eq_true (by kernel_rfl),of_decide_eq_true (by kernel_rfl),of_decide_eq_true (by kernel_rfl),of_decide_eq_true (by kernel_rfl),of_decide_eq_true (by kernel_rfl),of_decide_eq_true (by kernel_rfl),of_decide_eq_true (by kernel_rfl),of_decide_eq_true (by kernel_rfl),of_decide_eq_true (by kernel_rfl),of_decide_eq_true (by kernel_rfl),of_decide_eq_true (by kernel_rfl),of_decide_eq_true (by kernel_rfl),of_decide_eq_true (by kernel_rfl),of_decide_eq_true (by kernel_rfl),of_decide_eq_true (by kernel_rfl),⟨by omega,Zp1 v⟩,fun y hy=> ?_⟩
 have e:y=Zb0 v:=hy.trans (by kernel_rfl)
 rw [e]
 exact ⟨rfl,rfl,rfl,rfl,rfl,rfl,rfl,rfl,rfl,rfl,rfl,rfl,rfl,rfl,rfl,rfl,rfl,rfl,rfl,rfl,rfl,rfl,rfl,rfl,rfl,rfl,rfl,rfl,rfl,rfl,rfl,rfl,trivial⟩
def Sinp:Sum thy:=Zjf (.cons Zur .nil) (fun _=>True) (fun x=>Zb0 x.1) Zx
theorem Z1b:SumOk E2 56 Sinp:=Us Zh (Zi (f:=56) rfl) fun x _=>Zll x.1
def Fwho:Fns thy:=addS (addS (addS (addS F0 52 Zvl) 55 Sprg) 56 Sinp) 58 Z0g
theorem Z1c:FnsOk E2 Fwho:=Zf (Zf (Zf (Zf X5 Zfy) Z0j) Z1b) Zm2
abbrev qCCw:=(1:Nat)
abbrev qCCu:=(0:Int)
abbrev qCCt (a0:List Int) (b0:List Int) (c0:Opn) (d0:List Int):=(Val.mk (3:Int) qCCu [] [Val.mk (2:Int) qCCu [List.getD a0 (0:Nat) qCCu,List.getD a0 qCCw qCCu,List.getD a0 (2:Nat) qCCu,List.getD a0 (3:Nat) qCCu,List.getD a0 (4:Nat) qCCu,List.getD a0 (5:Nat) qCCu,List.getD a0 (6:Nat) qCCu,List.getD a0 (7:Nat) qCCu,List.getD a0 (8:Nat) qCCu,List.getD a0 (9:Nat) qCCu,List.getD a0 (10:Nat) qCCu,List.getD a0 (11:Nat) qCCu,List.getD a0 (12:Nat) qCCu,List.getD a0 (13:Nat) qCCu,List.getD a0 (14:Nat) qCCu,List.getD a0 (15:Nat) qCCu,List.getD a0 (16:Nat) qCCu,List.getD a0 (17:Nat) qCCu,List.getD a0 (18:Nat) qCCu,List.getD a0 (19:Nat) qCCu,List.getD a0 (20:Nat) qCCu,List.getD a0 (21:Nat) qCCu,List.getD a0 (22:Nat) qCCu,List.getD a0 (23:Nat) qCCu,List.getD a0 (24:Nat) qCCu,List.getD a0 (25:Nat) qCCu,List.getD a0 (26:Nat) qCCu,List.getD a0 (27:Nat) qCCu,List.getD a0 (28:Nat) qCCu,List.getD a0 (29:Nat) qCCu,List.getD a0 (30:Nat) qCCu,List.getD a0 (31:Nat) qCCu] [],Val.mk (2:Int) qCCu [List.getD b0 (0:Nat) qCCu,List.getD b0 qCCw qCCu,List.getD b0 (2:Nat) qCCu,List.getD b0 (3:Nat) qCCu,List.getD b0 (4:Nat) qCCu,List.getD b0 (5:Nat) qCCu,List.getD b0 (6:Nat) qCCu,List.getD b0 (7:Nat) qCCu,List.getD b0 (8:Nat) qCCu,List.getD b0 (9:Nat) qCCu,List.getD b0 (10:Nat) qCCu,List.getD b0 (11:Nat) qCCu,List.getD b0 (12:Nat) qCCu,List.getD b0 (13:Nat) qCCu,List.getD b0 (14:Nat) qCCu,List.getD b0 (15:Nat) qCCu,List.getD b0 (16:Nat) qCCu,List.getD b0 (17:Nat) qCCu,List.getD b0 (18:Nat) qCCu,List.getD b0 (19:Nat) qCCu,List.getD b0 (20:Nat) qCCu,List.getD b0 (21:Nat) qCCu,List.getD b0 (22:Nat) qCCu,List.getD b0 (23:Nat) qCCu,List.getD b0 (24:Nat) qCCu,List.getD b0 (25:Nat) qCCu,List.getD b0 (26:Nat) qCCu,List.getD b0 (27:Nat) qCCu,List.getD b0 (28:Nat) qCCu,List.getD b0 (29:Nat) qCCu,List.getD b0 (30:Nat) qCCu,List.getD b0 (31:Nat) qCCu] [],Val.mk (1:Int) (Opn.pc c0) [] [],Val.mk (1:Int) (Opn.fuel c0) [] [],Val.mk (1:Int) (Opn.status c0) [] [],Val.mk (1:Int) (Opn.clause c0) [] [],Val.mk (1:Int) (wr IntKind.i64 (Opn.depth c0+(↑(List.length (Opn.top c0)):Int))) [] [],Val.mk (2:Int) qCCu [List.getD d0 (0:Nat) qCCu,List.getD d0 qCCw qCCu,List.getD d0 (2:Nat) qCCu,List.getD d0 (3:Nat) qCCu,List.getD d0 (4:Nat) qCCu,List.getD d0 (5:Nat) qCCu,List.getD d0 (6:Nat) qCCu,List.getD d0 (7:Nat) qCCu,List.getD d0 (8:Nat) qCCu,List.getD d0 (9:Nat) qCCu,List.getD d0 (10:Nat) qCCu,List.getD d0 (11:Nat) qCCu,List.getD d0 (12:Nat) qCCu,List.getD d0 (13:Nat) qCCu,List.getD d0 (14:Nat) qCCu,List.getD d0 (15:Nat) qCCu,List.getD d0 (16:Nat) qCCu,List.getD d0 (17:Nat) qCCu,List.getD d0 (18:Nat) qCCu,List.getD d0 (19:Nat) qCCu,List.getD d0 (20:Nat) qCCu,List.getD d0 (21:Nat) qCCu,List.getD d0 (22:Nat) qCCu,List.getD d0 (23:Nat) qCCu,List.getD d0 (24:Nat) qCCu,List.getD d0 (25:Nat) qCCu,List.getD d0 (26:Nat) qCCu,List.getD d0 (27:Nat) qCCu,List.getD d0 (28:Nat) qCCu,List.getD d0 (29:Nat) qCCu,List.getD d0 (30:Nat) qCCu,List.getD d0 (31:Nat) qCCu] []])
abbrev qCCv (a0:Opn):=(Opn.rest a0)
theorem Zp2 (c:List Ins) (v:Env) (o:Opn) (z:List Int):Zr E2 Fwho (vc E2 Fwho 400) 34 [.psl Th.ins c false,envV v,opnV o] hp0 0 (fun r=>ret E2 (patch hp0 0 r) r.v (Zx z))=(
 List.length c<=(1000000:Nat)/\∀(y:List Int),y=Zjr c->True/\∀(y_1:List Int),y_1=Zb0 v->List.length (Opn.top o)<=(1000000:Nat)/\∀(y_2:List Int),y_2=Zfx [List.getD (qCCv o) (0:Nat) qCCu,List.getD (qCCv o) qCCw qCCu,List.getD (qCCv o) (2:Nat) qCCu,List.getD (qCCv o) (3:Nat) qCCu,List.getD (qCCv o) (4:Nat) qCCu,List.getD (qCCv o) (5:Nat) qCCu,List.getD (qCCv o) (6:Nat) qCCu,List.getD (qCCv o) (7:Nat) qCCu,List.getD (qCCv o) (8:Nat) qCCu,List.getD (qCCv o) (9:Nat) qCCu,List.getD (qCCv o) (10:Nat) qCCu,List.getD (qCCv o) (11:Nat) qCCu,List.getD (qCCv o) (12:Nat) qCCu,List.getD (qCCv o) (13:Nat) qCCu,List.getD (qCCv o) (14:Nat) qCCu,List.getD (qCCv o) (15:Nat) qCCu,List.getD (qCCv o) (16:Nat) qCCu,List.getD (qCCv o) (17:Nat) qCCu,List.getD (qCCv o) (18:Nat) qCCu,List.getD (qCCv o) (19:Nat) qCCu,List.getD (qCCv o) (20:Nat) qCCu,List.getD (qCCv o) (21:Nat) qCCu,List.getD (qCCv o) (22:Nat) qCCu,List.getD (qCCv o) (23:Nat) qCCu,List.getD (qCCv o) (24:Nat) qCCu,List.getD (qCCv o) (25:Nat) qCCu,List.getD (qCCv o) (26:Nat) qCCu,List.getD (qCCv o) (27:Nat) qCCu,List.getD (qCCv o) (28:Nat) qCCu,List.getD (qCCv o) (29:Nat) qCCu,List.getD (qCCv o) (30:Nat) qCCu,List.getD (qCCv o) (31:Nat) qCCu] (Opn.top o)->((0:Nat)+qCCw+qCCw+qCCw+qCCw<=(4:Nat)/\OkV (qCCt y y_1 o y_2))/\∀(y_3:List Int),y_3=Zbd ((0:Nat)+qCCw+qCCw+qCCw) (qCCt y y_1 o y_2)->List.getD y_3 (0:Nat) qCCu=List.getD z (0:Nat) qCCu/\List.getD y_3 qCCw qCCu=List.getD z qCCw qCCu/\List.getD y_3 (2:Nat) qCCu=List.getD z (2:Nat) qCCu/\List.getD y_3 (3:Nat) qCCu=List.getD z (3:Nat) qCCu/\List.getD y_3 (4:Nat) qCCu=List.getD z (4:Nat) qCCu/\List.getD y_3 (5:Nat) qCCu=List.getD z (5:Nat) qCCu/\List.getD y_3 (6:Nat) qCCu=List.getD z (6:Nat) qCCu/\List.getD y_3 (7:Nat) qCCu=List.getD z (7:Nat) qCCu/\List.getD y_3 (8:Nat) qCCu=List.getD z (8:Nat) qCCu/\List.getD y_3 (9:Nat) qCCu=List.getD z (9:Nat) qCCu/\List.getD y_3 (10:Nat) qCCu=List.getD z (10:Nat) qCCu/\List.getD y_3 (11:Nat) qCCu=List.getD z (11:Nat) qCCu/\List.getD y_3 (12:Nat) qCCu=List.getD z (12:Nat) qCCu/\List.getD y_3 (13:Nat) qCCu=List.getD z (13:Nat) qCCu/\List.getD y_3 (14:Nat) qCCu=List.getD z (14:Nat) qCCu/\List.getD y_3 (15:Nat) qCCu=List.getD z (15:Nat) qCCu/\List.getD y_3 (16:Nat) qCCu=List.getD z (16:Nat) qCCu/\List.getD y_3 (17:Nat) qCCu=List.getD z (17:Nat) qCCu/\List.getD y_3 (18:Nat) qCCu=List.getD z (18:Nat) qCCu/\List.getD y_3 (19:Nat) qCCu=List.getD z (19:Nat) qCCu/\List.getD y_3 (20:Nat) qCCu=List.getD z (20:Nat) qCCu/\List.getD y_3 (21:Nat) qCCu=List.getD z (21:Nat) qCCu/\List.getD y_3 (22:Nat) qCCu=List.getD z (22:Nat) qCCu/\List.getD y_3 (23:Nat) qCCu=List.getD z (23:Nat) qCCu/\List.getD y_3 (24:Nat) qCCu=List.getD z (24:Nat) qCCu/\List.getD y_3 (25:Nat) qCCu=List.getD z (25:Nat) qCCu/\List.getD y_3 (26:Nat) qCCu=List.getD z (26:Nat) qCCu/\List.getD y_3 (27:Nat) qCCu=List.getD z (27:Nat) qCCu/\List.getD y_3 (28:Nat) qCCu=List.getD z (28:Nat) qCCu/\List.getD y_3 (29:Nat) qCCu=List.getD z (29:Nat) qCCu/\List.getD y_3 (30:Nat) qCCu=List.getD z (30:Nat) qCCu/\List.getD y_3 (31:Nat) qCCu=List.getD z (31:Nat) qCCu/\True):=by kernel_rfl
def Zi7 (p i:List Int) (o:Opn) (t:List Int):Val:=lisV [bytV p,bytV i,numV o.pc,numV o.fuel,numV o.status,numV o.clause,numV (wr .i64 (o.depth+(o.top.length:Int))),bytV t]
theorem Ztw (p i:List Int) (o:Opn) (t:List Int):OkV (Zi7 p i o t):=⟨by simp [Zi7,lisV,numV,bytV,n32,Val.sz,szL]⟩
def Zch (c:List Ins) (v:Env) (o:Opn):List Int:=Zbd 3 (Zi7 (Zjr c) (Zb0 v) o (Zfx (n32 o.rest) o.top))
theorem Zp3 (c:List Ins) (v:Env) (o:Opn) (hc:c.length<=1000000) (ho:o.top.length<=1000000):PureC E2 34 [.psl Th.ins c false,envV v,opnV o] (Zx (Zch c v o)):=by
 refine Za Zh (Zg Zh Z1c 400) ?_
 rw [Zp2];delta qCCw qCCu qCCt qCCv
 refine ⟨hc,fun y hy=>⟨trivial,fun y1 hy1=>⟨ho,fun y2 hy2=>⟨⟨by omega,Ztw y y1 o y2⟩,fun y3 hy3=> ?_⟩⟩⟩⟩
 have e:y3=Zch c v o:=by
  rw [hy3]
  show Zbd 3 (Zi7 y y1 o y2)=_
  rw [hy,hy1,hy2]
  rfl
 rw [e]
 exact ⟨rfl,rfl,rfl,rfl,rfl,rfl,rfl,rfl,rfl,rfl,rfl,rfl,rfl,rfl,rfl,rfl,rfl,rfl,rfl,rfl,rfl,rfl,rfl,rfl,rfl,rfl,rfl,rfl,rfl,rfl,rfl,rfl,trivial⟩
def Swho:Sum thy:=Zjf (.cons (Ziq E2) (.cons Zur (.cons Z4t .nil))) (fun x=>x.1.length<=1000000/\x.2.2.1.top.length<=1000000) (fun x=>Zch x.1 x.2.1 x.2.2.1) Zx
theorem Z1d:SumOk E2 34 Swho:=Us Zh (Zi (f:=34) rfl) fun x h=>Zp3 x.1 x.2.1 x.2.2.1 h.1 h.2
def Fdgs:Fns thy:=addS (addS F0 34 Swho) 17 Zy7
theorem Z1e:FnsOk E2 Fdgs:=Zf (Zf X5 Z1d) Zus
abbrev qCCx:=(0:Int)
abbrev qCCy (a0:Opn):=(Opn.rest a0)
theorem Zlm (c:List Ins) (v:Env) (s:St) (z:List Int):Zr E2 Fdgs (vc E2 Fdgs 400) 15 [.psl Th.ins c false,envV v,stV s] hp0 0 (fun r=>ret E2 (patch hp0 0 r) r.v (Zx z))=(
 List.length (St.stack s)<=(1000000:Nat)/\∀(y:Opn),y=Zh8 s (↑(List.length (St.stack s)):Int)->(List.length c<=(1000000:Nat)/\List.length (Opn.top y)<=(1000000:Nat))/\∀(y_1:List Int),y_1=Zch c v (Opn.mk (Opn.pc y) (Opn.fuel y) (Opn.status y) (Opn.clause y) (Opn.top y) (Opn.depth y) [List.getD (qCCy y) (0:Nat) qCCx,List.getD (qCCy y) (1:Nat) qCCx,List.getD (qCCy y) (2:Nat) qCCx,List.getD (qCCy y) (3:Nat) qCCx,List.getD (qCCy y) (4:Nat) qCCx,List.getD (qCCy y) (5:Nat) qCCx,List.getD (qCCy y) (6:Nat) qCCx,List.getD (qCCy y) (7:Nat) qCCx,List.getD (qCCy y) (8:Nat) qCCx,List.getD (qCCy y) (9:Nat) qCCx,List.getD (qCCy y) (10:Nat) qCCx,List.getD (qCCy y) (11:Nat) qCCx,List.getD (qCCy y) (12:Nat) qCCx,List.getD (qCCy y) (13:Nat) qCCx,List.getD (qCCy y) (14:Nat) qCCx,List.getD (qCCy y) (15:Nat) qCCx,List.getD (qCCy y) (16:Nat) qCCx,List.getD (qCCy y) (17:Nat) qCCx,List.getD (qCCy y) (18:Nat) qCCx,List.getD (qCCy y) (19:Nat) qCCx,List.getD (qCCy y) (20:Nat) qCCx,List.getD (qCCy y) (21:Nat) qCCx,List.getD (qCCy y) (22:Nat) qCCx,List.getD (qCCy y) (23:Nat) qCCx,List.getD (qCCy y) (24:Nat) qCCx,List.getD (qCCy y) (25:Nat) qCCx,List.getD (qCCy y) (26:Nat) qCCx,List.getD (qCCy y) (27:Nat) qCCx,List.getD (qCCy y) (28:Nat) qCCx,List.getD (qCCy y) (29:Nat) qCCx,List.getD (qCCy y) (30:Nat) qCCx,List.getD (qCCy y) (31:Nat) qCCx])->List.getD y_1 (0:Nat) qCCx=List.getD z (0:Nat) qCCx/\List.getD y_1 (1:Nat) qCCx=List.getD z (1:Nat) qCCx/\List.getD y_1 (2:Nat) qCCx=List.getD z (2:Nat) qCCx/\List.getD y_1 (3:Nat) qCCx=List.getD z (3:Nat) qCCx/\List.getD y_1 (4:Nat) qCCx=List.getD z (4:Nat) qCCx/\List.getD y_1 (5:Nat) qCCx=List.getD z (5:Nat) qCCx/\List.getD y_1 (6:Nat) qCCx=List.getD z (6:Nat) qCCx/\List.getD y_1 (7:Nat) qCCx=List.getD z (7:Nat) qCCx/\List.getD y_1 (8:Nat) qCCx=List.getD z (8:Nat) qCCx/\List.getD y_1 (9:Nat) qCCx=List.getD z (9:Nat) qCCx/\List.getD y_1 (10:Nat) qCCx=List.getD z (10:Nat) qCCx/\List.getD y_1 (11:Nat) qCCx=List.getD z (11:Nat) qCCx/\List.getD y_1 (12:Nat) qCCx=List.getD z (12:Nat) qCCx/\List.getD y_1 (13:Nat) qCCx=List.getD z (13:Nat) qCCx/\List.getD y_1 (14:Nat) qCCx=List.getD z (14:Nat) qCCx/\List.getD y_1 (15:Nat) qCCx=List.getD z (15:Nat) qCCx/\List.getD y_1 (16:Nat) qCCx=List.getD z (16:Nat) qCCx/\List.getD y_1 (17:Nat) qCCx=List.getD z (17:Nat) qCCx/\List.getD y_1 (18:Nat) qCCx=List.getD z (18:Nat) qCCx/\List.getD y_1 (19:Nat) qCCx=List.getD z (19:Nat) qCCx/\List.getD y_1 (20:Nat) qCCx=List.getD z (20:Nat) qCCx/\List.getD y_1 (21:Nat) qCCx=List.getD z (21:Nat) qCCx/\List.getD y_1 (22:Nat) qCCx=List.getD z (22:Nat) qCCx/\List.getD y_1 (23:Nat) qCCx=List.getD z (23:Nat) qCCx/\List.getD y_1 (24:Nat) qCCx=List.getD z (24:Nat) qCCx/\List.getD y_1 (25:Nat) qCCx=List.getD z (25:Nat) qCCx/\List.getD y_1 (26:Nat) qCCx=List.getD z (26:Nat) qCCx/\List.getD y_1 (27:Nat) qCCx=List.getD z (27:Nat) qCCx/\List.getD y_1 (28:Nat) qCCx=List.getD z (28:Nat) qCCx/\List.getD y_1 (29:Nat) qCCx=List.getD z (29:Nat) qCCx/\List.getD y_1 (30:Nat) qCCx=List.getD z (30:Nat) qCCx/\List.getD y_1 (31:Nat) qCCx=List.getD z (31:Nat) qCCx/\True):=by kernel_rfl
def Vk (c:List Ins) (v:Env) (s:St):List Int:=Zch c v (Zh8 s s.stack.length)
theorem Zln (c:List Ins) (v:Env) (o:Opn):Zch c v ⟨o.pc,o.fuel,o.status,o.clause,o.top,o.depth,n32 o.rest⟩=Zch c v o:=by
 unfold Zch
 show Zbd 3 (Zi7 (Zjr c) (Zb0 v) o (Zfx (n32 (n32 o.rest)) o.top))=_
 rw [Zy8 (d:=n32 o.rest) (by simp [n32])]
theorem Zlo (c:List Ins) (v:Env) (s:St) (hc:c.length<=1000000) (hs:s.stack.length<=1000000):PureC E2 15 [.psl Th.ins c false,envV v,stV s] (Zx (Vk c v s)):=by
 refine Za Zh (Zg Zh Z1e 400) ?_
 rw [Zlm];delta qCCx qCCy
 refine ⟨hs,fun y hy=>⟨⟨hc,?_⟩,fun y1 hy1=> ?_⟩⟩
 · have:=(Zp7 s (s.stack.length:Int)).2.1
   rw [hy,this];omega
 · have e:y1=Vk c v s:=by
    rw [hy1,hy]
    exact Zln c v (Zh8 s s.stack.length)
   rw [e]
   exact ⟨rfl,rfl,rfl,rfl,rfl,rfl,rfl,rfl,rfl,rfl,rfl,rfl,rfl,rfl,rfl,rfl,rfl,rfl,rfl,rfl,rfl,rfl,rfl,rfl,rfl,rfl,rfl,rfl,rfl,rfl,rfl,rfl,trivial⟩
def Sdgs:Sum thy:=Zjf (.cons (Ziq E2) (.cons Zur (.cons dSt2 .nil))) (fun x=>x.1.length<=1000000/\x.2.2.1.stack.length<=1000000) (fun x=>Vk x.1 x.2.1 x.2.2.1) Zx
theorem Ztx:SumOk E2 15 Sdgs:=Us Zh (Zi (f:=15) rfl) fun x h=>Zlo x.1 x.2.1 x.2.2.1 h.1 h.2
end
section
open Go
theorem Zxw (x:Ins) (v:Env) (s:St) (b:Int):(Zj x v s b).1.stack.length<=s.stack.length+1:=by
 unfold Zj
 dsimp only [St.pops]
 repeat' split
 all_goals simp
 all_goals omega
theorem Z1t (c:List Ins) (v:Env) (s:St) (b:Int):(advF c v s b).stack.length<=s.stack.length+1:=by
 unfold advF
 split
 · show s.stack.length<=_;omega
 · split
   · omega
   · rename_i x hx
     split
     · exact Zxw x v {s with fuel:=s.fuel-1} b
     · show s.stack.length<=_;omega
end
section
open Go
def dmF (c:List Ins) (v:Env):Nat->St->Nat
 |0,_=>0
 |n+1,s=>if s.status=0 then dmF c v n (advF c v s 0)+1 else 0
def dM (c:List Ins) (v:Env):Nat:=dmF c v c.length (St.start ((c.length:Int)+1))
def dsk (c:List Ins) (v:Env) (k:Nat):St:=itF c v k (St.start ((c.length:Int)+1))
theorem Zs9 {c:List Ins} {D:List Int} {v:Env} (hc:Safe c D) (hv:(verF c).2=0):∀(n:Nat) (s:St),(s.status=0->Good c D s/\(c.length:Int)-s.pc<=n/\(n:Int)<s.fuel/\s.fuel<=32768)->
 dmF c v n s<=n/\(itF c v (dmF c v n s) s).status≠0/\∀k,k<dmF c v n s->Good c D (itF c v k s)/\V7 c v (itF c v k s)=(itF c v (k+1) s,0)
 |0,s,h=>by
  have hs:s.status≠0:=fun hs=>by
   obtain ⟨h1,h2,_⟩:=h hs
   have:=h1.lt
   omega
  exact ⟨Nat.le_refl _,hs,fun k hk=>absurd hk (Nat.not_lt_zero _)⟩
 |n+1,s,h=>by
  by_cases hs:s.status=0
  · obtain ⟨h1,h2,h3,h4⟩:=h hs
    obtain ⟨p1,p2,p3,p4⟩:=Zng (v:=v) hc h1 (by omega)
    have e:dmF c v (n+1) s=dmF c v n (advF c v s 0)+1:=if_pos hs
    have ei:∀k,itF c v (k+1) s=itF c v k (advF c v s 0):=fun k=>if_pos hs
    obtain ⟨q1,q2,q3⟩:=Zs9 (v:=v) hc hv n (advF c v s 0) fun hz=>by
     obtain ⟨g1,g2⟩:=p1 hz
     exact ⟨g1,by omega,by omega,by omega⟩
    rw [e]
    refine ⟨by omega,by rw [ei];exact q2,fun k hk=> ?_⟩
    cases k with
    |zero=>
     refine ⟨h1,?_⟩
     show V7 c v s=(itF c v 1 s,0)
     rw [ei]
     unfold V7
     rw [Zby hc hv h1 h4]
     rfl
    |succ k=>
     rw [ei,ei]
     exact q3 k (by omega)
  · have e:dmF c v (n+1) s=0:=if_neg hs
    rw [e]
    exact ⟨Nat.zero_le _,hs,fun k hk=>absurd hk (Nat.not_lt_zero _)⟩
theorem Zg5 {c:List Ins} {v:Env} (hv:(verF c).2=0):dM c v<=c.length/\(dsk c v (dM c v)).status≠0/\(∀k,k<=dM c v->(dsk c v k).stack.length<=65)/\∀k,k<dM c v->(dsk c v k).status=0/\V7 c v (dsk c v k)=(dsk c v (k+1),0)/\0<=(dsk c v k).pc/\(dsk c v k).pc<c.length/\(dsk c v k).stack.length<=64/\Wk c (dsk c v k) 0=0/\0<(dsk c v k).fuel/\(dsk c v (k+1))=advF c v (dsk c v k) 0:=by
 obtain ⟨D,hc⟩:=V8 hv
 have h4:=hc.short
 obtain ⟨q1,q2,q3⟩:=Zs9 (v:=v) hc hv c.length (St.start ((c.length:Int)+1)) fun _=>⟨Zpu hc (by omega),(by show (c.length:Int)-0<=_;omega),(by show (c.length:Int)<(c.length:Int)+1;omega),(by show (c.length:Int)+1<=32768;omega)⟩
 have q0:dM c v<=c.length:=q1
 have fu:∀k,k<=dM c v->(dsk c v k).fuel=(c.length:Int)+1-k:=by
  intro k
  induction k with
  |zero=>intro _;show (c.length:Int)+1=_;omega
  |succ k ih=>
   intro hk
   have hk:k+1<=dM c v:=hk
   obtain ⟨g1,g2⟩:=q3 k (by show k<dM c v;omega)
   have ih:=ih (by omega)
   have hr:Wk c (itF c v k (St.start ((c.length:Int)+1))) 0=0:=Zby hc hv g1 (by show (dsk c v k).fuel<=_;omega)
   have e:dsk c v (k+1)=advF c v (dsk c v k) 0:=by
    have g2:=congrArg Prod.fst g2
    unfold V7 at g2
    rw [hr] at g2
    exact g2.symm
   have p:=(Zng (v:=v) hc g1 (by show 0<(dsk c v k).fuel;omega)).2.1
   have p:(advF c v (dsk c v k) 0).fuel=(dsk c v k).fuel-1:=p
   rw [e,p]
   omega
 have body:∀k,k<dM c v->(dsk c v k).status=0/\V7 c v (dsk c v k)=(dsk c v (k+1),0)/\0<=(dsk c v k).pc/\(dsk c v k).pc<c.length/\(dsk c v k).stack.length<=64/\Wk c (dsk c v k) 0=0/\0<(dsk c v k).fuel/\(dsk c v (k+1))=advF c v (dsk c v k) 0:=by
  intro k hk
  obtain ⟨g1,g2⟩:=q3 k hk
  have q1:dM c v<=c.length:=q1
  have f:=fu k (by omega)
  have hr:Wk c (dsk c v k) 0=0:=Zby hc hv g1 (by omega)
  refine ⟨g1.status,g2,g1.pc,g1.lt,g1.small hc,hr,by omega,?_⟩
  have g2:=congrArg Prod.fst g2
  unfold V7 at g2
  have hr':Wk c (itF c v k (St.start ((c.length:Int)+1))) 0=0:=hr
  rw [hr'] at g2
  exact g2.symm
 refine ⟨q1,q2,fun k hk=> ?_,body⟩
 cases k with
 |zero=>show ([]:List Int).length<=65;simp
 |succ k=>
  obtain ⟨_,_,_,_,b5,_,_,b8⟩:=body k (by omega)
  rw [b8]
  have:=Z1t c v (dsk c v k) 0
  omega
end
section
open Go.RowKit
def Zxx:List Oper->Bool
 | []=>true
 |o::r=>(match o.op with| .defer _=>false|_=>true)&&Zxx r
theorem Zny:∀{l:List Oper},Zxx l=true->∀o∈l,∀c,o.op≠ .defer c
 | [],_,o,ho=>by simp at ho
 |x::r,h,o,ho=>by
  simp only [Zxx,Bool.and_eq_true] at h
  rcases List.mem_cons.1 ho with rfl|ho
  · intro c hc
    have h:=h.1
    rw [hc] at h
    cases h
  · exact Zny h.2 o ho
section
variable {P:Program} {l n:Nat}
theorem Zu0 {row:String} {args:Array Value} {w:World} {R:Value->World->Prop} (h:Rows P row args w R):RowsIn Fence.wide n P row args w R:=
 fun c cs _=>let ⟨v,w',r,s⟩:=h c cs;⟨v,w',r,stepsIn_wide.2 s⟩
theorem Zu1 {o:Oper} {a:Act} {w:World} {K:Act->World->Prop} {Q:Exit->Act->World->Prop} (hno:∀c,o.op≠ .defer c) (h:o.wp P a w K Q):o.wpIn (Fence.wide.inRound l) n P a w K Q:=by
 refine ⟨fun _ _=>trivial,?_⟩
 rw [Fence.inRound_round,Oper.semAt_some l _ _ hno]
 unfold Oper.wp at h
 generalize (execOp a.eval o).run P w=r at h⊢
 cases r with
 |ok nx w'=>
  cases nx with
  |value v=>exact h
  |skip=>exact h
  |defer d=>exact h
  |enter f args=>exact ⟨fun h=>(by cases h),callsIn_wide.2 h⟩
  |row r args=>exact ⟨fun h=>(by cases h),Zu0 h⟩
  |_=>exact h.elim
 |halt s w'=>
  cases s with
  |panic v=>exact h
  |_=>exact h.elim
theorem Zl3 {ops:Array Oper} {Q:Exit->Act->World->Prop} (hQ:¬LetsOut Q):∀{r:List Oper} {a:Act} {w:World},(∀o∈r,∀c,o.op≠ .defer c)->wpList P ops Q r a w->wpListIn (Fence.wide.inRound l) n P ops Q r a w
 | [],a,w,_,h=>h
 |o::r,a,w,hno,h=>by
  unfold wpList at h
  unfold wpListIn
  split at h
  · rename_i hw
    rw [if_pos hw]
    rcases h with h|⟨_,h⟩
    · exact Zu1 (hno o (by simp)) (Oper.wp_mono (fun a w hk=>Zl3 hQ (fun o' ho'=>hno o' (List.mem_cons_of_mem _ ho')) hk) h)
    · exact absurd h hQ
  · rename_i hw
    rw [if_neg hw]
    exact ⟨fun _ _=>trivial,Zl3 hQ (fun o' ho'=>hno o' (List.mem_cons_of_mem _ ho')) h⟩
theorem Znz {ops:Array Oper} {md:Region.Mode} {Q:Exit->Act->World->Prop} (hQ:¬LetsOut Q) (hno:∀o∈ops.toList,∀c,o.op≠ .defer c):∀{m:Nat} {listed:Array Bool} {a:Act} {w:World},wpAny P md ops Q m listed a w->wpAnyIn (Fence.wide.inRound l) n P md ops Q m listed a w
 |0,listed,a,w,h=>h
 |m+1,listed,a,w,h=>by
  refine ⟨h.1,fun i hi=> ?_⟩
  have h:=h.2 i hi
  unfold wpOp at h
  unfold wpOpIn
  cases ho:ops[i]? with
  |none=>
   rw [ho] at h
   exact Znz hQ hno h
  |some o=>
   rw [ho] at h
   simp only [] at h⊢
   have hd:=hno o (by rw [<-Array.getElem?_toList] at ho;exact List.mem_of_getElem? ho)
   split at h
   · rename_i hw
     rw [if_pos hw]
     rcases h with h|⟨_,h⟩
     · exact Zu1 hd (Oper.wp_mono (fun a w hk=>Znz hQ hno hk) h)
     · exact absurd h hQ
   · rename_i hw
     rw [if_neg hw]
     exact ⟨fun _ _=>trivial,Znz hQ hno h⟩
end
section
variable {Y:Thy} {E:Eng Y} {F:Fns Y}
def vcR (E:Eng Y) (N:Nat) (call:Nat->List (SV Y)->Hp Y->Nat->(Res Y->Prop)->Prop):Code->Fr Y->Hp Y->Nat->List Nat->Kont Y->Prop
 | .skip,T,h,i,ms,K=>K .normal T h i ms
 | .exit id,T,h,i,ms,K=>K (.exit id) T h i ms
 | .ret,T,h,i,ms,K=>K .ret T h i ms
 | .region _ ops draw,T,h,i,ms,K=>(match Zxx ops.toList with
  |true=>(match draw with
   |false=>rgn E N call ops.toList ops.toList T h i ms K
   |true=>(match Za0 ops.toList (Ym ops.toList []) ops.toList 0 with|true=>rgnD E N call ops.toList (Ym ops.toList []) ops.toList 0 T h i ms [] (fun e T h i ms=>match e with| .normal=>K .normal T h i ms|_=>False)|false=>False))
  |false=>False)
 | .seq x y,T,h,i,ms,K=>vcR E N call x T h i ms fun e T h i ms=>(match e with| .normal=>vcR E N call y T h i ms K|e=>K e T h i ms)
 | .cond x y z,T,h,i,ms,K=>(match ev T x with| .bool b v=>split b v (fun v=>match v with|true=>vcR E N call y T h i ms K|false=>vcR E N call z T h i ms K)|_=>False)
 | .block id b,T,h,i,ms,K=>vcR E N call b T h i ms fun e T h i ms=>(match e with| .exit j=>(match Nat.beq j id with|true=>K .normal T h i ms|false=>K (.exit j) T h i ms)|e=>K e T h i ms)
 |_,_,_,_,_,_=>False
def Zxy (E:Eng Y) (l n N:Nat) (c:Code) (T:Fr Y) (h:Hp Y) (i:Nat) (e:Exit) (T':Fr Y) (h':Hp Y) (i':Nat) (ms':List Nat):Prop:=
 ∀(B:Nat) (σ:Pl) (g:GH) (w:World) (a:Act) (Q:Exit->Act->World->Prop),¬LetsOut Q->Inv E B σ h g w->B<=w.heap.size->(∀b,i<=b->b<i'->σ b=none)->FrOk E σ g T a->a.tmps.size=N->
  (∀a' w',Aft E B N i i' ms' σ g w a.defers T' h' a' w'->Q e a' w')->c.wpIn (Fence.wide.inRound l) n E.P Q a w
theorem Zen {id:Nat} {Q:Exit->Act->World->Prop} (h:¬LetsOut Q):¬LetsOut (Exit.inBlock id Q):=fun ⟨a,w,hq⟩=>h ⟨a,w,hq⟩
theorem Zn0 {R:Act->World->Prop} {Q:Exit->Act->World->Prop} (h:¬LetsOut Q):¬LetsOut (Exit.then R Q):=fun ⟨a,w,hq⟩=>h ⟨a,w,hq⟩
theorem Zzb (hE:EngOk E) {N:Nat} {call:Nat->List (SV Y)->Hp Y->Nat->(Res Y->Prop)->Prop} (hstep:∀(o:Oper) T h i k,DomLt h i->step E call o.op T h i k->∃r,k r/\OpTri2 E o T h i r) (l n:Nat):
 ∀(c:Code) (T:Fr Y) (h:Hp Y) (i:Nat) (ms:List Nat) (K:Kont Y),DomLt h i->vcR E N call c T h i ms K->
  ∃e T' h' i' ms',K e T' h' i' ms'/\i<=i'/\Dom h i h' i'/\(∃m,ms'=m++ms/\Yc h i i' m)/\Zxy E l n N c T h i e T' h' i' ms':=by
 intro c
 induction c with
 |skip=>
  intro T h i ms K hD hk
  exact ⟨.normal,T,h,i,ms,hk,Nat.le_refl _,⟨hD,fun b hb=> .inl hb⟩,⟨[],rfl,fun b hb=>by simp at hb⟩,fun B σ g w a Q hO hI hB hfree hF hN hQ=>wpIn_skip (hQ a w ⟨rfl,hN,σ,g,by rw [Nat.sub_self];exact (Stp.refl i σ g w).weaken (by simp),hI,hF⟩)⟩
 |exit id=>
  intro T h i ms K hD hk
  exact ⟨.exit id,T,h,i,ms,hk,Nat.le_refl _,⟨hD,fun b hb=> .inl hb⟩,⟨[],rfl,fun b hb=>by simp at hb⟩,fun B σ g w a Q hO hI hB hfree hF hN hQ=>wpIn_exit (hQ a w ⟨rfl,hN,σ,g,by rw [Nat.sub_self];exact (Stp.refl i σ g w).weaken (by simp),hI,hF⟩)⟩
 |ret=>
  intro T h i ms K hD hk
  exact ⟨.ret,T,h,i,ms,hk,Nat.le_refl _,⟨hD,fun b hb=> .inl hb⟩,⟨[],rfl,fun b hb=>by simp at hb⟩,fun B σ g w a Q hO hI hB hfree hF hN hQ=>wpIn_ret (hQ a w ⟨rfl,hN,σ,g,by rw [Nat.sub_self];exact (Stp.refl i σ g w).weaken (by simp),hI,hF⟩)⟩
 |region id ops draw=>
  intro T h i ms K hD hk
  unfold vcR at hk
  split at hk
  case h_2=>exact hk.elim
  rename_i hno
  have hno:=Zny hno
  cases draw with
  |false=>
   obtain ⟨e,T',h',i',ms',hK,hi,hDo,hm,t⟩:=Zcg hE hstep ops.toList ops.toList T h i ms _ hD hk
   refine ⟨e,T',h',i',ms',hK,hi,hDo,hm,fun B σ g w a Q hO hI hB hfree hF hN hQ=>wpIn_region_list ?_⟩
   have:=t B σ g w a Q hI hB hfree hF hN hQ
   exact Zl3 hO hno (by simpa using this)
  |true=>
   simp only [] at hk
   split at hk
   case h_2=>exact hk.elim
   rename_i hok
   rcases Zi6 hstep ops.toList (Ym ops.toList []) ops.toList 0 T T h i ms [] _ T (fun _ h=>h) (fun _ _=>rfl) (.refl T) hD hk with ⟨ds,T2,hfb,hp,hK,hlt⟩|⟨j0,ds,rp,p,_,hj0,hG,_,hR,hq,hK⟩
   case inr=>exact hK.elim
   obtain ⟨hDo,hms⟩:=Zl2 hD hp
   refine ⟨.normal,_,_,_,_,hK,(Zsr hp).1,hDo,hms ms,fun B σ g w a Q hO hI hB hfree hF hN hQ=>wpIn_region_any hE.mix ?_⟩
   have:=Zns hok hp hlt B σ g w a Q hI hB hfree hF hN fun a' w' hA=>hQ a' w' (hA.frB hfb)
   exact Znz hO hno (by simpa using this)
 |seq x y ihx ihy=>
  intro T h i ms K hD hk
  obtain ⟨e,T1,h1,i1,ms1,hK,hi,hDo,⟨m,rfl,hM⟩,t1⟩:=ihx T h i ms _ hD hk
  rcases Zg1 hK with ⟨rfl,hK⟩|⟨he,hK⟩
  · obtain ⟨e2,T2,h2,i2,ms2,hK2,hi2,hDo2,⟨m',rfl,hM'⟩,t2⟩:=ihy T1 h1 i1 _ _ hDo.1 hK
    refine ⟨e2,T2,h2,i2,_,hK2,by omega,hDo.trans hi hDo2,⟨m'++m,by simp,Ul hDo hi hi2 hM hM'⟩,fun B σ g w a Q hO hI hB hfree hF hN hQ=>wpIn_seq ?_⟩
    refine t1 B σ g w a _ (Zn0 hO) hI hB (fun b h1 h2=>hfree b h1 (by omega)) hF hN fun a1 w1 hA=> ?_
    show y.wpIn _ n E.P Q a1 w1
    obtain ⟨σ1,g1,k1,k2,k3,k4,k5⟩:=hA.trans hi hi2 hB hfree ⟨m',rfl⟩
    exact t2 B σ1 g1 w1 a1 Q hO k1 k2 k3 k4 hA.sz fun a2 w2 hA2=>hQ a2 w2 (k5 _ _ _ _ hA2)
  · refine ⟨e,T1,h1,i1,_,hK,hi,hDo,⟨m,rfl,hM⟩,fun B σ g w a Q hO hI hB hfree hF hN hQ=>wpIn_seq ?_⟩
    refine t1 B σ g w a _ (Zn0 hO) hI hB hfree hF hN fun a1 w1 hA=> ?_
    have:=hQ a1 w1 hA
    cases e with
    |normal=>exact absurd rfl he
    |_=>exact this
 |cond x y z ihy ihz=>
  intro T h i ms K hD hk
  unfold vcR at hk
  split at hk
  case h_2=>exact hk.elim
  rename_i b v hx
  have hk:=Z7 hk
  have sel:∀σ g a,FrOk E σ g T a->a.eval x= .bool v:=by
   intro σ g a hF
   have:=hF.ev x
   rw [hx] at this
   generalize a.eval x=u at this
   cases this;rfl
  cases v with
  |true=>
   obtain ⟨e,T1,h1,i1,ms1,hK,hi,hDo,hm,t1⟩:=ihy T h i ms _ hD hk
   exact ⟨e,T1,h1,i1,ms1,hK,hi,hDo,hm,fun B σ g w a Q hO hI hB hfree hF hN hQ=>wpIn_cond_true (sel σ g a hF) (t1 B σ g w a Q hO hI hB hfree hF hN hQ)⟩
  |false=>
   obtain ⟨e,T1,h1,i1,ms1,hK,hi,hDo,hm,t1⟩:=ihz T h i ms _ hD hk
   exact ⟨e,T1,h1,i1,ms1,hK,hi,hDo,hm,fun B σ g w a Q hO hI hB hfree hF hN hQ=>wpIn_cond_false (sel σ g a hF) (t1 B σ g w a Q hO hI hB hfree hF hN hQ)⟩
 |block id b ih=>
  intro T h i ms K hD hk
  obtain ⟨e,T1,h1,i1,ms1,hK,hi,hDo,hm,t1⟩:=ih T h i ms _ hD hk
  by_cases hex:e= .exit id
  · subst hex
    have hK':K .normal T1 h1 i1 ms1:=by
     simp only at hK
     have:Nat.beq id id=true:=by simp
     rw [this] at hK;exact hK
    refine ⟨.normal,T1,h1,i1,ms1,hK',hi,hDo,hm,fun B σ g w a Q hO hI hB hfree hF hN hQ=>wpIn_block (t1 B σ g w a _ (Zen hO) hI hB hfree hF hN fun a1 w1 hA=> ?_)⟩
    show (if id=id then Q .normal a1 w1 else _)
    rw [if_pos rfl];exact hQ a1 w1 hA
  · have hK':K e T1 h1 i1 ms1:=by
     cases e with
     |exit j=>
      simp only at hK
      have:Nat.beq j id=false:=by rw [<-Bool.not_eq_true,Nat.beq_eq];rintro rfl;exact hex rfl
      rw [this] at hK;exact hK
     |_=>exact hK
    refine ⟨e,T1,h1,i1,ms1,hK',hi,hDo,hm,fun B σ g w a Q hO hI hB hfree hF hN hQ=>wpIn_block (t1 B σ g w a _ (Zen hO) hI hB hfree hF hN fun a1 w1 hA=> ?_)⟩
    have:=hQ a1 w1 hA
    cases e with
    |exit j=>
     show (if j=id then _ else Q (.exit j) a1 w1)
     rw [if_neg (by rintro rfl;exact hex rfl)];exact this
    |_=>exact this
 |_=>intro T h i ms K hD hk;exact hk.elim
end
end
section
open Go.RowKit
section
variable {Y:Thy} {E:Eng Y} {F:Fns Y}
def Z2c (σ:Pl) (h:Hp Y) (g:GH) (r:Nat):Prop:=(∃o v,g.cell r o=some v)\/(∃es,g.obj r=some es)\/∃b z,h b≠none/\σ b=some (r,z)
theorem Inv.same {B:Nat} {σ:Pl} {h:Hp Y} {g:GH} {w w':World} (hI:Inv E B σ h g w) (hs:w.heap.size<=w'.heap.size) (hh:∀r,Z2c σ h g r->w'.heap[r]? =w.heap[r]?):Inv E B σ h g w':=by
 refine ⟨fun r o v hv=> ?_,fun r es hv=> ?_,fun b x hx=> ?_,hI.inj,fun b r z hs'=>⟨(hI.base b r z hs').1,Nat.lt_of_lt_of_le (hI.base b r z hs').2 hs⟩,hI.fz,hI.fm,hI.glob⟩
 · exact (World.cell?_of_block (a:=⟨r,o,none⟩) (hh r (.inl ⟨o,v,hv⟩))).trans (hI.gc r o v hv)
 · obtain ⟨c,hc⟩:=hI.gm r es hv
   exact ⟨c,(hh r (.inr (.inl ⟨es,hv⟩))).trans hc⟩
 · obtain ⟨r,z,h1,h2⟩:=hI.blk b x hx
   exact ⟨r,z,h1,h2.mono (.refl _) (.refl _) (hh r (.inr (.inr ⟨b,z,(by rw [hx];exact fun e=>(by cases e)),h1⟩)))⟩
theorem Zhx {B:Nat} {σ:Pl} {h:Hp Y} {g:GH} {w:World} (hI:Inv E B σ h g w) {l:Nat} {o:Obj} (hl:w.heap[l]? =some o) (ho:o.isCells=false) (hm:∀es c,o≠ .map es c):¬Z2c σ h g l:=by
 rintro (⟨j,v,hv⟩|⟨es,hv⟩|⟨b,z,hb,hs⟩)
 · obtain ⟨o',h1,h2⟩:=cells_of_cell (hI.gc l j v hv)
   rw [hl] at h1;cases h1;rw [ho] at h2;cases h2
 · obtain ⟨c,hc⟩:=hI.gm l es hv
   rw [hl] at hc;cases hc;exact hm _ _ rfl
 · obtain ⟨x,hx⟩:=Option.ne_none_iff_exists'.1 hb
   obtain ⟨r,z',h1,h2⟩:=hI.blk b x hx
   rw [hs] at h1
   cases h1
   cases x with
   |map es=>
    obtain ⟨ents,c,h3,_⟩:=h2
    rw [hl] at h3;cases h3;exact hm _ _ rfl
   |_=>
    obtain ⟨arr,e,h3,_⟩:=h2
    rw [hl] at h3;cases h3;cases ho
theorem Ze0 {B:Nat} {σ:Pl} {h:Hp Y} {g:GH} {w:World} (hI:Inv E B σ h g w) (o:Obj):Inv E B σ h g (w.alloc o):=by
 refine hI.same (by simp) fun r hr=> ?_
 have hlt:r<w.heap.size:=by
  rcases hr with ⟨j,v,hv⟩|⟨es,hv⟩|⟨b,z,hb,hs⟩
  · exact World.block_lt_of_cell? _ _ (hI.gc r j v hv)
  · obtain ⟨c,hc⟩:=hI.gm r es hv
    exact (Array.getElem?_eq_some_iff.1 hc).1
  · exact (hI.base b r z hs).2
 exact Below.heap_alloc w o r hlt
theorem Xj {B:Nat} {σ:Pl} {h:Hp Y} {g:GH} {w:World} (hI:Inv E B σ h g w) {l:Nat} {o:Obj} (hl:w.heap[l]? =some o) (ho:o.isCells=false) (hm:∀es c,o≠ .map es c) (o':Obj):Inv E B σ h g (w.putObj l o'):=
 hI.same (by simp) fun r hr=>World.putObj_heap_other fun e=>Zhx hI hl ho hm (e▸hr)
def Zq8 (E:Eng Y) (N:Nat) (call:Nat->List (SV Y)->Hp Y->Nat->(Res Y->Prop)->Prop) (assign body:Code) (T:Fr Y) (h:Hp Y) (i M:Nat) (md:List Nat) (ih:Nat) (K:Exit->Hp Y->Prop):Prop:=
 vcR E N call assign T h ih [] fun e T1 h1 i1 ms1=>(match e with
  | .normal=>vcR E N call body T1 h1 i1 ms1 fun e T2 h2 i2 ms2=>(match Nat.ble i2 M&&Xh i md ms2 with|true=>K e h2|false=>False)
  |_=>False)
def setT:List Tmp->List (SV Y)->Fr Y->Fr Y
 |p::ps,v::vs,T=>setT ps vs (upd T p v)
 |_,_,T=>T
def setV:List Tmp->List Value->Array Value->Array Value
 |p::ps,v::vs,t=>setV ps vs (t.setIfInBounds p v)
 |_,_,t=>t
theorem Zzm:∀(ps:List Tmp) (vs:List Value) (t:Array Value),(ps.toArray.zip vs.toArray).foldl (fun t (p,v)=>t.setIfInBounds p v) t=setV ps vs t:=by
 intro ps vs t
 rw [<-Array.foldl_toList,Array.toList_zip]
 show List.foldl _ t (List.zip ps vs)=_
 induction ps generalizing vs t with
 |nil=>rfl
 |cons p ps ih=>
  cases vs with
  |nil=>rfl
  |cons v vs=>
   rw [List.zip_cons_cons,List.foldl_cons]
   exact ih vs _
theorem Zhy:∀(ps:List Tmp) (vs:List Value) (t:Array Value),(setV ps vs t).size=t.size
 | [],_,t=>by unfold setV;rfl
 |p::ps,[],t=>rfl
 |p::ps,v::vs,t=>by unfold setV;rw [Zhy ps vs];simp
theorem Zq9 {σ:Pl} {g:GH} {N:Nat}:∀{ps:List Tmp} {svs:List (SV Y)} {vs:List Value} {T:Fr Y} {t:Array Value},(∀p∈ps,p<N)->t.size=N->DenL E σ g svs vs->FrOk E σ g T {tmps:=t,defers:= []}->FrOk E σ g (setT ps svs T) {tmps:=setV ps vs t,defers:= []}
 | [],svs,vs,T,t,_,_,_,h=>by
  have e1:setT [] svs T=T:=by unfold setT;rfl
  have e2:setV [] vs t=t:=by unfold setV;rfl
  rw [e1,e2];exact h
 |p::ps,[],[],T,t,_,_,_,h=>h
 |p::ps,[],v::vs,T,t,_,_,hd,h=>by have:=hd.1;simp at this
 |p::ps,s::ss,[],T,t,_,_,hd,h=>by have:=hd.1;simp at this
 |p::ps,s::ss,v::vs,T,t,hp,hN,hd,h=>by
  have hN2:(t.setIfInBounds p v).size=N:=by simpa using hN
  have hs:Den E σ g s v:=hd.2 0 s v rfl rfl
  refine Zq9 (ps:=ps) (fun q hq=>hp q (List.mem_cons_of_mem _ hq)) hN2 ⟨by have:=hd.1;simpa using this,fun j sv u h1 h2=>hd.2 (j+1) sv u h1 h2⟩ ?_
  have:=h.put (d:=p) (sv:=s) (u:=v) (by show p<t.size;rw [hN];exact hp p (by simp)) hs
  exact this
def rdy (fn:FuncId) (tmps:Array Value) (ps:List Tmp) (assign body:Code) (D:Nat):Loop:={state:= .ready,pending:=none,fn:=fn,tmps:=tmps,params:=ps.toArray,assign:=assign,body:=body,defers:=D}
theorem Zf8 {P:Program} {l:Nat} {R:Ending->World->Prop}:¬LetsOut (roundPost P l R):=fun ⟨_,_,h⟩=>h
theorem StpL.turn {i M:Nat} {md:List Nat} {σ σ':Pl} {g g':GH} {w w1 w':World} {l:Nat} {o o1:Obj} (h:StpL i M md σ g w1 σ' g' w') (hl:w.heap[l]? =some o) (he:w1=w.putObj l o1) (hno:¬Own i M md σ l):StpL i M md σ g w σ' g' (w'.putObj l o):=by
 subst he
 have hlt:l<w.heap.size:=(Array.getElem?_eq_some_iff.1 hl).1
 have hsz:(w.putObj l o1).heap.size=w.heap.size:=by simp
 have hs:=h.size
 rw [hsz] at hs
 refine ⟨h.out,h.gle,fun r o v hv=>by have:=h.gcnew r o v hv;rwa [hsz] at this,fun r es hv=>by have:=h.gmnew r es hv;rwa [hsz] at this,fun r hr ho=> ?_,by simpa using hs,h.os,h.tape,h.output,fun r hr=>by have:=h.own r hr;rwa [hsz] at this⟩
 by_cases c:r=l
 · subst c
   rw [World.putObj_heap_same (by omega),hl]
 · rw [World.putObj_heap_other c,h.heap r (by rwa [hsz]) ho,World.putObj_heap_other c]
theorem StpL.mono {i M M':Nat} {md:List Nat} {σ σ':Pl} {g g':GH} {w w':World} (h:StpL i M md σ g w σ' g' w') (hM:M<=M'):StpL i M' md σ g w σ' g' w':=by
 have up:∀{s:Pl} {r:Nat},Own i M md s r->Own i M' md s r:=fun ⟨b,z,hb,hs⟩=>⟨b,z,hb.imp id fun k=>⟨k.1,by omega⟩,hs⟩
 refine ⟨fun b hb=>h.out b (by omega),h.gle,fun r o v hv=>(h.gcnew r o v hv).imp id (Or.imp id up),h.gmnew,fun r hr ho=>h.heap r hr fun k=>ho (up k),h.size,h.os,h.tape,h.output,?_⟩
 rintro r ⟨b,z,hb,hs⟩
 by_cases c:b<i\/M<=b
 · rw [h.out b c] at hs
   exact .inr ⟨b,z,hb,hs⟩
 · exact (h.own r ⟨b,z,.inr ⟨by omega,by omega⟩,hs⟩).imp id up
def Zvr (E:Eng Y) (i M:Nat) (md:List Nat) (B:Nat) (σ:Pl) (g:GH) (W:World) (l:Nat) (r:Loop) (h2:Hp Y):Exit->Ending->World->Prop
 | .normal,en,W'=>en= .returned (.bool true)/\∃σ' g',StpL i M md σ g W σ' g' W'/\Inv E B σ' h2 g' W'/\Pl.le σ σ'/\(∀b p,σ' b=some p->σ b=some p\/(i<=b/\b<M))/\W'.heap[l]? =some (.loop r)
 | .ret,en,W'=>en= .returned (.bool false)/\∃σ' g' W3,StpL i M md σ g W σ' g' W3/\Inv E B σ' h2 g' W3/\Pl.le σ σ'/\(∀b p,σ' b=some p->σ b=some p\/(i<=b/\b<M))/\W3.heap[l]? =some (.loop r)/\W'=W3.putObj l (.loop {r with state:= .done,pending:=some .ret})
 |_,_,_=>False
theorem Zvs (hE:EngOk E) {N:Nat} {call:Nat->List (SV Y)->Hp Y->Nat->(Res Y->Prop)->Prop} (hstep:∀(o:Oper) T h i k,DomLt h i->step E call o.op T h i k->∃r,k r/\OpTri2 E o T h i r)
 {i M ih:Nat} {md:List Nat} (hi:i<=ih) (hM:ih<=M) {assign body:Code} {ps:List Tmp} (hps:∀p∈ps,p<N) {T:Fr Y} {h:Hp Y} {el:List (SV Y)} (hdom:DomLt h ih) {K:Exit->Hp Y->Prop} (hKe:∀e h2,K e h2->e= .normal\/e= .ret)
 (hv:Zq8 E N call assign body (setT ps el T) h i M md ih K) (l n:Nat):
 ∃e h2,K e h2/\DomLt h2 M/\∀(B:Nat) (σ:Pl) (g:GH) (W:World) (a:Act) (D:Nat) (fn:FuncId) (vals:Array Value),Inv E B σ h g W->B<=W.heap.size->(∀b,ih<=b->b<M->σ b=none)->FrOk E σ g T a->a.tmps.size=N->DenL E σ g el vals.toList->vals.size=ps.length->
  W.heap[l]? =some (.loop (rdy fn a.tmps ps assign body D))->¬Own i M md σ l->
  YieldAt Fence.wide n E.P l vals W (Zvr E i M md B σ g W l (rdy fn a.tmps ps assign body D) h2 e):=by
 obtain ⟨e1,T1,h1,i1,ms1,hK1,hi1,hD1,⟨m1,hm1,hM1⟩,t1⟩:=Zzb hE hstep l n assign _ h ih [] _ hdom hv
 rw [List.append_nil] at hm1
 subst hm1
 cases e1 with
 |normal=>
  obtain ⟨e2,T2,h2,i2,ms2,hK2,hi2,hD2,⟨m2,rfl,hM2⟩,t2⟩:=Zzb hE hstep l n body T1 h1 i1 ms1 _ hD1.1 hK1
  split at hK2
  case h_2=>exact hK2.elim
  rename_i hc
  rw [Bool.and_eq_true,Nat.ble_eq] at hc
  obtain ⟨hiM,hmi⟩:=hc
  have hmods:∀b∈m2++ms1,b∈md\/(i<=b/\b<M):=by
   intro b hb
   rcases Wa hmi hb with k|k
   · refine .inr ⟨k,?_⟩
     rcases List.mem_append.1 hb with hb|hb
     · rcases hM2 b hb with k2|k2
       · have:=hD1.1 b k2;omega
       · omega
     · rcases hM1 b hb with k2|k2
       · have:=hdom b k2;omega
       · omega
   · exact .inl k
  refine ⟨e2,h2,hK2,fun b hb=>Nat.lt_of_lt_of_le (hD2.1 b hb) hiM,fun B σ g W a D fn vals hI hB hfree hF hN hd hvs hl hown=> ?_⟩
  obtain ⟨r,hr⟩:∃r,r=rdy fn a.tmps ps assign body D:=⟨_,rfl⟩
  rw [<-hr] at hl⊢
  have hlt:l<W.heap.size:=(Array.getElem?_eq_some_iff.1 hl).1
  have hy:=run_yield (P:=E.P) (args:=vals) hl (by rw [hr];simp [rdy,hvs])
  rw [hr] at hy
  refine ⟨fn,_,assign,body,hy,roundIn_of_wpIn trivial ?_⟩
  have ht:((rdy fn a.tmps ps assign body D).params.zip vals).foldl (fun tmps (t,a)=>tmps.setIfInBounds t a) (rdy fn a.tmps ps assign body D).tmps=setV ps vals.toList a.tmps:=by
   have:=Zzm ps vals.toList a.tmps
   rw [Array.toArray_toList] at this
   exact this
  rw [ht]
  refine t1 B σ g W _ _ (fun ⟨_,_,h⟩=>h) hI hB (fun b q1 q2=>hfree b q1 (by omega)) (Zq9 hps hN hd hF) (by rw [Zhy];exact hN) ?_
  rintro a1 w1 ⟨d1,z1,σ1,g1,hS1,hI1,hF1⟩
  show ∃w₂,_/\_
  have L1:StpL i M md σ g W σ1 g1 w1:=StpL.of hS1 hi (by omega) fun b hb=>hmods b (List.mem_append_right _ hb)
  have hl1:w1.heap[l]? =some (.loop r):=(L1.heap l hlt hown).trans hl
  have hown1:¬Own i M md σ1 l:=fun ho=>by
   rcases L1.own l ho with k|k
   · omega
   · exact hown k
  refine ⟨_,run_beginRound hl1 (by rw [hr];rfl),?_⟩
  have hI2:=Xj hI1 hl1 rfl (fun es c e=>by cases e) (.loop {r with state:= .busy})
  have hf2:∀b,i1<=b->b<i2->σ1 b=none:=fun b q1 q2=>Xr hS1 (i2:=i2) (fun b' p1 p2=>hfree b' p1 (by omega)) b (by omega) q2
  refine t2 B σ1 g1 _ a1 _ Zf8 hI2 (by simp;exact Nat.le_trans hB L1.size) hf2 hF1 z1 ?_
  rintro a2 w3 ⟨d2,z2,σ2,g2,hS2,hI3,hF2⟩
  have L2:StpL i M md σ1 g1 (w1.putObj l (.loop {r with state:= .busy})) σ2 g2 w3:=StpL.of hS2 (by omega) (by omega) hmods
  have hlt1:l<w1.heap.size:=(Array.getElem?_eq_some_iff.1 hl1).1
  have hl3:w3.heap[l]? =some (.loop {r with state:= .busy}):=(L2.heap l (by simpa using hlt1) hown1).trans (World.putObj_heap_same hlt1)
  have hlt3:l<w3.heap.size:=(Array.getElem?_eq_some_iff.1 hl3).1
  have L3:StpL i M md σ g W σ2 g2 (w3.putObj l (.loop r)):=L1.trans (L2.turn hl1 rfl hown1)
  have hI4:=Xj hI3 hl3 rfl (fun es c e=>by cases e) (.loop r)
  have hle:Pl.le σ σ2:=hS1.sig.trans hS2.sig
  have hnw:∀b p,σ2 b=some p->σ b=some p\/(i<=b/\b<M):=fun b p hb=>by
   rcases hS2.snew b p hb with k|k
   · rcases hS1.snew b p k with k|k
     · exact .inl k
     · exact .inr ⟨by omega,by omega⟩
   · exact .inr ⟨by omega,by omega⟩
  rcases hKe _ _ hK2 with rfl|rfl
  · refine ⟨_,_,run_endRound none hl3,rfl,σ2,g2,?_⟩
    have er:({({r with state:= .busy}:Loop) with state:=if (none:Option Code).isNone=true then .ready else .done,pending:=none}:Loop)=r:=by rw [hr];rfl
    rw [er]
    exact ⟨L3,hI4,hle,hnw,World.putObj_heap_same hlt3⟩
  · refine ⟨_,_,run_endRound (some .ret) hl3,rfl,σ2,g2,w3.putObj l (.loop r),L3,hI4,hle,hnw,World.putObj_heap_same hlt3,?_⟩
    show w3.putObj l _=(w3.putObj l _).putObj l _
    unfold World.putObj
    simp
 |_=>exact hK1.elim
end
end
section
open Go.RowKit
section
variable {P:Program} {n:Nat}
theorem Ztf {o:Oper} {a:Act} {w:World} {K:Act->World->Prop} {Q:Exit->Act->World->Prop} (h:o.wp P a w K Q):o.wpIn Fence.wide n P a w K Q:=by
 refine ⟨fun _ _=>trivial,?_⟩
 rw [show Fence.wide.round=none from rfl,Oper.semAt_none]
 unfold Oper.wp at h
 generalize (execOp a.eval o).run P w=r at h⊢
 cases r with
 |ok nx w'=>
  cases nx with
  |value v=>exact h
  |skip=>exact h
  |defer d=>exact h
  |enter f args=>exact ⟨fun h=>(by cases h),callsIn_wide.2 h⟩
  |row r args=>exact ⟨fun h=>(by cases h),Zu0 h⟩
  |_=>exact h.elim
 |halt s w'=>
  cases s with
  |panic v=>exact h
  |_=>exact h.elim
theorem V6 {ops:Array Oper} {Q:Exit->Act->World->Prop} (hQ:¬LetsOut Q):∀{r:List Oper} {a:Act} {w:World},wpList P ops Q r a w->wpListIn Fence.wide n P ops Q r a w
 | [],a,w,h=>h
 |o::r,a,w,h=>by
  unfold wpList at h
  unfold wpListIn
  split at h
  · rename_i hw
    rw [if_pos hw]
    rcases h with h|⟨_,h⟩
    · exact Ztf (Oper.wp_mono (fun a w hk=>V6 hQ hk) h)
    · exact absurd h hQ
  · rename_i hw
    rw [if_neg hw]
    exact ⟨fun _ _=>trivial,V6 hQ h⟩
theorem Zk0 {F:Fence} {o:Oper} {a:Act} {w:World} {K R:Act->World->Prop} {Q:Exit->Act->World->Prop} (h:o.wpIn F n P a w K (Exit.then R Q)):o.wpIn F n P a w K Q:=by
 refine ⟨h.1,?_⟩
 have h:=h.2
 generalize (o.semAt F.round a.eval).run P w=r at h⊢
 cases r with
 |ok nx w'=>cases nx<;>exact h
 |halt s w'=>cases s<;>exact h
theorem Vj {F:Fence} {ops:Array Oper} {Q:Exit->Act->World->Prop} {l2:List Oper}:∀{l1:List Oper} {a:Act} {w:World},wpListIn F n P ops (Exit.then (wpListIn F n P ops Q l2) Q) l1 a w->wpListIn F n P ops Q (l1++l2) a w
 | [],a,w,h=>h
 |o::r,a,w,h=>by
  unfold wpListIn at h
  show wpListIn F n P ops Q (o::(r++l2)) a w
  unfold wpListIn
  split at h
  · rename_i hw
    rw [if_pos hw]
    exact Zk0 (Oper.wpIn_mono (fun a w hk=>Vj hk) h)
  · rename_i hw
    rw [if_neg hw]
    exact ⟨h.1,Vj h.2⟩
theorem Ztg {ops:Array Oper} {tmps:Array Value} {o:Oper} {j d:Nat} {b:Bool} (hg:o.guard=some (j,b)) (hd:(ops[j]?).bind (·.dst)=some d) (hv:tmps[d]? =some (.bool b)):Region.wanted o (yielded ops tmps)=true:=by
 unfold Region.wanted yielded
 rw [hg]
 simp [hd,hv]
theorem Zwx {o:Oper} {a:Act} {W:World} {l:Nat} {K:Act->World->Prop} {Q:Exit->Act->World->Prop} {f x y:Operand} {ts:Array TypeId} (hop:o.op= .call {callee:= .value f,args:= #[x,y],argTypes:=ts}) (hf:a.eval f= .func (.yield l) #[] #[])
 {R:Ending->World->Prop} (hy:YieldAt Fence.wide (n-1) P l #[a.eval x,a.eval y] W R) (hK:∀e W',R e W'->∃v,e= .returned v/\K (a.put o.dst v) W'):o.wpIn Fence.wide n P a W K Q:=by
 obtain ⟨fn,tmps,assign,body,hy,hR⟩:=hy
 refine ⟨fun _ _=>trivial,?_⟩
 rw [show Fence.wide.round=none from rfl,Oper.semAt_none]
 have key:∀ρ:Operand->Value,ρ f= .func (.yield l) #[] #[]->(Instr.yield l #[ρ x,ρ y]).run P W= .ok (.round l fn tmps assign body) W->(execOp ρ o).run P W= .ok (.round l fn tmps assign body) W:=by
  intro ρ hf hy
  unfold execOp
  rw [hop]
  simp [resolve,hf,invoke,go_sem,hy]
 have this:=key a.eval hf hy
 rw [this,Oper.uponIn_round]
 refine ⟨fun h=>(by cases h),hR.mono ?_⟩
 intro e W' h
 obtain ⟨v,rfl,hk⟩:=hK e W' h
 exact hk
end
end
section
open Go Go.RowKit
def Z4g:Sum thy:=X7 E2 gthV 10 (.cons (Ziq E2) .nil) (fun _=>True) (fun x=>verF x.1) fun y=> .tup [.int false .i64 y.1,.int false .i64 y.2]
def Z4h:Sum thy:=X7 E2 gthV 10 (.cons (dInt (E:=E2) .i64) .nil) (fun _=>True) (fun x=>Za4 x.1) fun y=> .tup [stV y.1,.int false .i64 y.2]
def Z3b:Sum thy:=X7 E2 gthV 10 (.cons dSt2 .nil) (fun x=>x.1.stack.length<=1000000) (fun x=>Zt x.1) fun y=> .tup [.int false .i64 y.1,.int false .i64 y.2.1,.int false .i64 y.2.2]
def FD:Fns thy:=addS (addS (addS (addS (addS F0 29 Z4g) 11 Z4h) 13 Zut) 16 Z3b) 15 Sdgs
theorem Z05:FnsOk E2 FD:=Zf (Zf (Zf (Zf (Zf X5 (Zw Zh (Zi rfl) fun x _=>up2 (Zdi x.1))) (Zw Zh (Zi rfl) fun x _=>up2 (Zon x.1))) Zjg) (Zw Zh (Zi rfl) fun x h=>up2 (Zdf x.1 h))) Ztx
def sqA:Code->Code
 | .seq a _=>a
 |c=>c
def sqB:Code->Code
 | .seq _ b=>b
 |c=>c
def bkA:Code->Code
 | .block _ b=>b
 |c=>c
def lpA:Code->Code
 | .loop b=>b
 |c=>c
def rfA:Code->Code
 | .rangeFunc _ _ a _=>a
 |c=>c
def rfB:Code->Code
 | .rangeFunc _ _ _ b=>b
 |c=>c
def Ua (f:Func):Code:=f.body.getD .skip
def rn0:Code:=sqA (Ua Tryz.f8)
def rn1:Code:=sqA (sqB (Ua Tryz.f8))
def rn4:Code:=sqA (sqB (sqB (Ua Tryz.f8)))
def rn5:Code:=sqA (sqA (sqB (sqB (sqB (Ua Tryz.f8)))))
def rnF:Code:=bkA (sqB (sqA (sqB (sqB (sqB (Ua Tryz.f8))))))
def rn9:Code:=sqA (sqB (sqB (sqB (sqB (Ua Tryz.f8)))))
def it0:Code:=sqA (Ua Tryz.f50)
def it1:Code:=sqA (sqB (Ua Tryz.f50))
def itL:Code:=lpA (bkA (sqB (sqB (Ua Tryz.f50))))
def it2:Code:=sqA (sqA itL)
def it4:Code:=sqA (sqB itL)
def it3:Code:=sqB (sqB itL)
theorem Z4i:Ua Tryz.f8= .seq rn0 (.seq rn1 (.seq rn4 (.seq (.seq rn5 (.block 0 (.rangeFunc (.tmp 25) #[26,27] (rfA rnF) (rfB rnF)))) (.seq rn9 .ret)))):=by kernel_rfl
theorem Z4j:Ua Tryz.f50= .seq it0 (.seq it1 (.block 0 (.loop (.seq (.seq it2 (.cond (.tmp 26) .skip (.exit 0))) (.seq it4 it3))))):=by kernel_rfl
def vcs (F:Fns thy) (n f N:Nat):List Code->Fr thy->Hp thy->Nat->List Nat->(Fr thy->Hp thy->Nat->List Nat->Prop)->Prop
 | [],T,h,i,ms,K=>K T h i ms
 |c::r,T,h,i,ms,K=>vc E2 F n f N c T h i ms fun e T h i ms=>(match e with| .normal=>vcs F n f N r T h i ms K|_=>False)
def Zy1 (v:Env):List (SV thy):= [.int false .i64 v.has,.int false .i64 v.v0,.int false .i64 v.v1,.int false .i64 v.v2,.int false .i64 v.v3,.int false .i64 v.v4,.int false .i64 v.v5,.int false .i64 v.v6,.int false .i64 v.v7,.int false .i64 v.v8,.int false .i64 v.v9,.int false .i64 v.v10,.int false .i64 v.v11,.int false .i64 v.v12,.int false .i64 v.v13,.int false .i64 v.v14,.int false .i64 v.v15]
def cB (c:List Ins):Blk thy:= .raw [.psl .ins c false] 0 none
def envB (v:Env):Blk thy:= .raw (Zy1 v) 0 none
def sB (s:St):Blk thy:= .raw [.int false .i64 s.pc,.int false .i64 s.fuel,.int false .i64 s.status,.int false .i64 s.clause,.psl .ints s.stack false] 0 none
def zI:SV thy:= .int true .i64 0
def zB:Blk thy:= .raw [.val (.slice none 0 0),zI,zI,zI,zI,zI,zI,zI,zI,zI,zI,zI,zI,zI,zI,zI,zI,zI,zI,zI,.val (.slice none 0 0)] 0 none
def dB (c:List Ins) (v:Env) (a e:Int) (lv:SV thy):Blk thy:= .raw (.psl .ins c false:: .int false .i64 v.has:: .int false .i64 v.v0:: .int false .i64 v.v1:: .int false .i64 v.v2:: .int false .i64 v.v3:: .int false .i64 v.v4:: .int false .i64 v.v5:: .int false .i64 v.v6:: .int false .i64 v.v7:: .int false .i64 v.v8:: .int false .i64 v.v9:: .int false .i64 v.v10:: .int false .i64 v.v11:: .int false .i64 v.v12:: .int false .i64 v.v13:: .int false .i64 v.v14:: .int false .i64 v.v15:: .int false .i64 a:: .int false .i64 e:: [lv]) 0 none
def blE (c:List Ins) (v:Env):List (Nat×Blk thy):= [(0,cB c),(1,envB v),(2,zB),(3,dB c v 0 0 (.val (.slice none 0 0))),(4,cB c),(5,envB v)]
def blH (c:List Ins) (v:Env) (b:Bool) (s:St) (a e:Int) (L:List (List Int)):List (Nat×Blk thy):=
 match b with
 |false=> [(0,cB c),(1,envB v),(2,zB),(3,dB c v a e (.val (.slice none 0 0))),(4,cB c),(5,envB v),(6,sB s)]
 |true=> [(0,cB c),(1,envB v),(2,zB),(3,dB c v a e (.sl 7 0 L.length 32 none)),(4,cB c),(5,envB v),(6,sB s),(7,.rows .digs L 0)]
def frO:List (Nat×SV thy):= [(2,.ptr 0 0),(3,.ptr 1 0),(4,.ptr 2 0),(8,.ptr 3 0)]
def frI (l:Nat) (k:Nat):List (Nat×SV thy):= [(0,.val (.func (.yield l) #[] #[])),(1,.ptr 4 0),(2,.ptr 5 0),(4,.ptr 6 0),(5,.int true .i64 0),(6,.int false .i64 k)]
end
section
open Go.RowKit
section
variable {Y:Thy} {E:Eng Y}
abbrev Zs2 (Y:Thy):=Nat->List (SV Y)->Hp Y->Nat->(Res Y->Prop)->Prop
abbrev Zd8 (Y:Thy):=Fr Y->Hp Y->Nat->List Nat->(Fr Y->Hp Y->Nat->List Nat->Prop)->Prop
def Zd9 (E:Eng Y) (N:Nat) (x y:Code) (VT:Zd8 Y):Prop:=∀(T:Fr Y) (h:Hp Y) (i:Nat) (ms:List Nat) (K:Fr Y->Hp Y->Nat->List Nat->Prop),DomLt h i->VT T h i ms K->
 ∃T' h' i' ms',K T' h' i' ms'/\i<=i'/\Dom h i h' i'/\(∃m,ms'=m++ms/\Yc h i i' m)/\
  ∀(B:Nat) (σ:Pl) (g:GH) (w:World) (a:Act) (Q:Act->World->Prop),Inv E B σ h g w->B<=w.heap.size->(∀b,i<=b->b<i'->σ b=none)->FrOk E σ g T a->a.tmps.size=N->
   (∀a' w',Aft E B N i i' ms' σ g w a.defers T' h' a' w'->Q a' w')->x.wp E.P (Exit.then (fun a w=>y.wp E.P (Exit.then (fun a w=>Q a w) fun _ _ _=>False) a w) fun _ _ _=>False) a w
def itC (E:Eng Y) (cD:Zs2 Y) (VT:Zd8 Y) (o2p:List Oper) (o2y:Oper) (o2s:List Oper) (fI:List (Nat×SV Y)) (NO:Nat) (assign body:Code) (ps:List Tmp) (frOut:List (Nat×SV Y)) (md:List Nat) (l:Nat) (h:Hp Y) (KN:Fr Y->Hp Y->Prop) (KE KR:Hp Y->Prop):Prop:=
 rgn E 36 cD (o2p++o2y::o2s) o2p (frOf fI) h 8 [] fun e T1 h1 i1 ms1=>(match e,T1 16,Nat.ble i1 40&&Xh 7 md ms1 with
  | .normal,.bool _ true,true=>(match T1 17 with| .val u=>u= .func (.yield l) #[] #[]|_=>False)/\Zq8 E NO cD assign body (setT ps [T1 18,T1 19] (frOf frOut)) h1 7 40 md i1 fun e2 h2=>(match e2 with
   | .normal=>rgn E 36 cD (o2p++o2y::o2s) o2s (upd T1 20 (.bool true true)) h2 40 [] fun e3 T3 h3 i3 ms3=>(match e3,Xh 7 md ms3&&Nat.ble i3 60 with
    | .normal,true=>(match T3 26 with
     | .bool bb v=>split bb v fun v=>(match v with
      |true=>VT T3 h3 i3 [] fun T4 h4 i4 ms4=>(match Nat.ble i4 60&&Xh 7 md ms4 with|true=>KN T4 h4|false=>False)
      |false=>KE h3)
     |_=>False)
    |_,_=>False)
   | .ret=>rgn E 36 cD (o2p++o2y::o2s) o2s (upd T1 20 (.bool true false)) h2 40 [] fun e3 T3 h3 i3 ms3=>(match e3,T3 26,Xh 7 md ms3&&Nat.ble i3 60 with
    | .normal,.bool true false,true=>KR h3
    |_,_,_=>False)
   |_=>False)
  |_,_,_=>False)
theorem Z21 {o:Oper} {a:Act} {W:World} {n:Nat} {P:Program} {Q:Exit->Act->World->Prop} {ops:Array Oper} {r:List Oper} (hw:Region.wanted o (yielded ops a.tmps)=true) (h:o.wpIn Fence.wide n P a W (wpListIn Fence.wide n P ops Q r) Q):wpListIn Fence.wide n P ops Q (o::r) a W:=by
 unfold wpListIn
 rw [if_pos hw]
 exact h
theorem Z0r {n:Nat} {P:Program} {x y:Code} {a:Act} {w:World} {Q:Exit->Act->World->Prop} (h:x.wp P (Exit.then (fun a w=>y.wp P (Exit.then (fun a w=>Q .normal a w) fun _ _ _=>False) a w) fun _ _ _=>False) a w):(Code.seq x y).wpIn Fence.wide n P Q a w:=by
 refine wpIn_seq (wpIn_wide.2 (wp_mono h fun e a w he=> ?_))
 cases e with
 |normal=>exact wpIn_wide.2 (wp_mono he fun e a w hq=>by cases e<;>first|exact hq|exact hq.elim)
 |_=>exact he.elim
structure RdEnd (E:Eng Y) (B:Nat) (md:List Nat) (frOut:List (Nat×SV Y)) (ao:Act) (l:Nat) (r:Loop) (σ:Pl) (g:GH) (W:World) (σ':Pl) (g':GH) (h':Hp Y) (W':World):Prop where
 st:StpL 7 60 md σ g W σ' g' W'
 inv:Inv E B σ' h' g' W'
 fr:FrOk E σ' g' (frOf frOut) ao
 rc:W'.heap[l]? =some (.loop r)
theorem Z0s (hE:EngOk E) {cD:Zs2 Y} (Xo:∀(o:Oper) T h i k,DomLt h i->step E cD o.op T h i k->∃r,k r/\OpTri2 E o T h i r) {VT:Zd8 Y} {it4 it3:Code} (hVT:Zd9 E 36 it4 it3 VT) {o2p o2s:List Oper} {o2y:Oper} {ts:Array TypeId} (U2:o2y.op= .call {callee:= .value (.tmp 17),args:= #[.tmp 18,.tmp 19],argTypes:=ts}) (U3:o2y.guard=some (2,true)) (Wu:o2y.dst=some 20) (Zev:((o2p++o2y::o2s).toArray[2]?).bind (·.dst)=some 16) {fI:List (Nat×SV Y)} {NO:Nat} {assign body:Code} {p1 p2:Tmp} {frOut:List (Nat×SV Y)} {md:List Nat} {l:Nat} {h:Hp Y} {KN:Fr Y->Hp Y->Prop} {KE KR:Hp Y->Prop} (hp1:p1<NO) (hp2:p2<NO) (hdom:DomLt h 8)
 (hc:itC E cD VT o2p o2y o2s fI NO assign body [p1,p2] frOut md l h KN KE KR) (n:Nat) (B:Nat) (σ:Pl) (g:GH) (W:World) (a ao:Act) (D:Nat) (fn:FuncId) (hI:Inv E B σ h g W) (hB:B<=W.heap.size) (hfree:∀b,8<=b->b<60->σ b=none) (hF:FrOk E σ g (frOf fI) a) (hN:a.tmps.size=36)
 (hFo:FrOk E σ g (frOf frOut) ao) (hNo:ao.tmps.size=NO) (hl:W.heap[l]? =some (.loop (rdy fn ao.tmps [p1,p2] assign body D))) (hown:¬Own 7 60 md σ l) (Q:Exit->Act->World->Prop) (hO:¬LetsOut Q)
 (hQn:∀a' W' σ' g' T4 h4,KN T4 h4->RdEnd E B md frOut ao l (rdy fn ao.tmps [p1,p2] assign body D) σ g W σ' g' h4 W'->FrOk E σ' g' T4 a'->a'.tmps.size=36->a'.defers=a.defers->Q .normal a' W')
 (hQe:∀a' W' σ' g' h3,KE h3->RdEnd E B md frOut ao l (rdy fn ao.tmps [p1,p2] assign body D) σ g W σ' g' h3 W'->a'.tmps.size=36->a'.defers=a.defers->Q (.exit 0) a' W')
 (hQr:∀a' W' W3 σ1 g1 h2 σ' g' h3,KR h3->RdEnd E B md frOut ao l (rdy fn ao.tmps [p1,p2] assign body D) σ g W σ1 g1 h2 W3->RdEnd E B md frOut ao l {rdy fn ao.tmps [p1,p2] assign body D with state:= .done,pending:=some .ret} σ1 g1 (W3.putObj l (.loop {rdy fn ao.tmps [p1,p2] assign body D with state:= .done,pending:=some .ret})) σ' g' h3 W'->a'.tmps.size=36->a'.defers=a.defers->Q (.exit 0) a' W'):
 (Code.seq (Code.seq (.region 2 (o2p++o2y::o2s).toArray false) (.cond (.tmp 26) .skip (.exit 0))) (.seq it4 it3)).wpIn Fence.wide (n+1) E.P Q a W:=by
 obtain ⟨r,hr⟩:∃r,r=rdy fn ao.tmps [p1,p2] assign body D:=⟨_,rfl⟩
 rw [<-hr] at hQn hQe hQr
 have hlt:l<W.heap.size:=(Array.getElem?_eq_some_iff.1 hl).1
 unfold itC at hc
 obtain ⟨e,T1,h1,i1,ms1,hK1,hi1,hD1,⟨m1,hm1,hM1⟩,t1⟩:=Zcg hE Xo (o2p++o2y::o2s) o2p _ _ 8 [] _ hdom hc
 rw [List.append_nil] at hm1
 subst hm1
 split at hK1
 case h_2=>exact hK1.elim
 rename_i bl16 h16 hck
 rw [Bool.and_eq_true,Nat.ble_eq] at hck
 obtain ⟨hi40,hmd1⟩:=hck
 obtain ⟨h17,hK1⟩:=hK1
 obtain ⟨e2,h2,hK2,hdom2,hround⟩:=Zvs hE Xo (i:=7) (M:=40) (ih:=i1) (md:=md) (by omega) hi40 (ps:= [p1,p2]) (fun p hp=>by rcases List.mem_cons.1 hp with rfl|hp;exact hp1;rcases List.mem_singleton.1 hp with rfl;exact hp2) hD1.1 (K:=fun e2 h2=>match e2 with
  | .normal=>rgn E 36 cD (o2p++o2y::o2s) o2s (upd T1 20 (.bool true true)) h2 40 [] fun e3 T3 h3 i3 ms3=>(match e3,Xh 7 md ms3&&Nat.ble i3 60 with
   | .normal,true=>(match T3 26 with
    | .bool bb v=>split bb v fun v=>(match v with
     |true=>VT T3 h3 i3 [] fun T4 h4 i4 ms4=>(match Nat.ble i4 60&&Xh 7 md ms4 with|true=>KN T4 h4|false=>False)
     |false=>KE h3)
    |_=>False)
   |_,_=>False)
  | .ret=>rgn E 36 cD (o2p++o2y::o2s) o2s (upd T1 20 (.bool true false)) h2 40 [] fun e3 T3 h3 i3 ms3=>(match e3,T3 26,Xh 7 md ms3&&Nat.ble i3 60 with
   | .normal,.bool true false,true=>KR h3
   |_,_,_=>False)
  |_=>False) (fun e h2 hk=>by cases e<;>first|exact .inl rfl|exact .inr rfl|exact hk.elim) hK1 l (n+1-1)
 have mods1:∀b∈ms1,b∈md\/(7<=b/\b<60):=fun b hb=>by
  rcases Wa hmd1 hb with k|k
  · refine .inr ⟨k,?_⟩
    rcases hM1 b hb with k2|k2
    · have:=hdom b k2;omega
    · omega
  · exact .inl k
 refine wpIn_seq (wpIn_seq (wpIn_region_list ?_))
 rw [show ((o2p++o2y::o2s).toArray).toList=o2p++o2y::o2s by simp]
 refine Vj (V6 (by rintro ⟨x,y,h⟩;exact hO ⟨x,y,h⟩) (t1 B σ g W a _ hI hB (fun b q1 q2=>hfree b q1 (by omega)) hF hN ?_))
 rintro a1 w1 ⟨d1,z1,σ1,g1,hS1,hI1,hF1⟩
 show wpListIn _ _ _ _ _ (o2y::o2s) a1 w1
 have L1:StpL 7 60 md σ g W σ1 g1 w1:=StpL.of hS1 (by omega) (by omega) mods1
 have hl1:w1.heap[l]? =some (.loop r):=(L1.heap l hlt hown).trans (by rw [hr];exact hl)
 have hown1:¬Own 7 60 md σ1 l:=fun ho=>by
  rcases L1.own l ho with k|k
  · omega
  · exact hown k
 have hown40:¬Own 7 40 md σ1 l:=fun ⟨b,z,hb,hs⟩=>hown1 ⟨b,z,hb.imp id fun k=>⟨k.1,by omega⟩,hs⟩
 have hFo1:=hFo.mono hS1.sig hS1.gle
 have hB1:B<=w1.heap.size:=Nat.le_trans hB L1.size
 have free1:∀b,i1<=b->b<60->σ1 b=none:=fun b q1 q2=>Xr hS1 (i2:=60) (fun b' p1 p2=>hfree b' p1 p2) b (by omega) q2
 have ev16:a1.eval (.tmp 16)= .bool true:=by
  have:=hF1 16
  rw [h16] at this
  generalize a1.eval (.tmp 16)=u at this
  cases this;rfl
 have v16:a1.tmps[16]? =some (.bool true):=by
  have h:16<a1.tmps.size:=by rw [z1];decide
  have e0:a1.eval (.tmp 16)=(a1.tmps[16]?).getD undef:=by simp [Act.eval]
  rw [Array.getElem?_eq_getElem h] at e0⊢
  rw [ev16] at e0
  exact congrArg some e0.symm
 have ev17:a1.eval (.tmp 17)= .func (.yield l) #[] #[]:=by
  have:=hF1 17
  split at h17
  · rename_i u hu
    rw [hu,h17] at this
    generalize a1.eval (.tmp 17)=u at this
    cases this;rfl
  · exact h17.elim
 refine Z21 (Ztg U3 Zev v16) ?_
 have hdd:DenL E σ1 g1 [T1 18,T1 19] [a1.eval (.tmp 18),a1.eval (.tmp 19)]:=⟨rfl,fun j sv u q1 q2=>by
  match j,q1,q2 with
  |0,q1,q2=>cases q1;cases q2;exact hF1 18
  |1,q1,q2=>cases q1;cases q2;exact hF1 19⟩
 refine Zwx U2 ev17 (hround B σ1 g1 w1 ao D fn #[a1.eval (.tmp 18),a1.eval (.tmp 19)] hI1 hB1 (fun b q1 q2=>free1 b q1 (by omega)) hFo1 hNo hdd rfl (by rw [<-hr];exact hl1) hown40) ?_
 rw [<-hr]
 rw [Wu]
 have dmods:∀{hh:Hp Y} {i3:Nat} {ms3:List Nat},Xh 7 md ms3=true->DomLt hh 60->(∀b∈ms3,hh b≠none\/b<60)->∀b∈ms3,b∈md\/(7<=b/\b<60):=fun {hh i3 ms3} q1 q2 q3 b hb=>by
  rcases Wa q1 hb with k|k
  · rcases q3 b hb with k2|k2
    · exact .inr ⟨k,q2 b k2⟩
    · exact .inr ⟨k,k2⟩
  · exact .inl k
 cases e2 with
 |normal=>
  rintro en W2 ⟨rfl,σ2,g2,L2,hI2,hle2,hnw2,hl2⟩
  refine ⟨_,rfl,?_⟩
  have L2':=L1.trans (L2.mono (M':=60) (by omega))
  have hlt2:l<W2.heap.size:=(Array.getElem?_eq_some_iff.1 hl2).1
  have hown2:¬Own 7 60 md σ2 l:=fun ho=>by
   rcases L2'.own l ho with k|k
   · omega
   · exact hown k
  have free2:∀b,40<=b->b<60->σ2 b=none:=fun b q1 q2=>by
   cases hq:σ2 b with
   |none=>rfl
   |some p=>
    rcases hnw2 b p hq with k|k
    · rw [free1 b (by omega) q2] at k;cases k
    · omega
  obtain ⟨e3,T3,h3,i3,ms3,hK3,hi3,hD3,⟨m3,hm3,hM3⟩,t3⟩:=Zcg hE Xo (o2p++o2y::o2s) o2s _ _ 40 [] _ hdom2 hK2
  rw [List.append_nil] at hm3
  subst hm3
  split at hK3
  case h_2=>exact hK3.elim
  rename_i hck3
  rw [Bool.and_eq_true,Nat.ble_eq] at hck3
  obtain ⟨hmd3,hi60⟩:=hck3
  have mods3:=dmods (i3:=i3) hmd3 (fun b hb=>Nat.lt_of_lt_of_le (hdom2 b hb) (by omega)) fun b hb=>(hM3 b hb).imp id fun k=>by omega
  have hF2:FrOk E σ2 g2 (upd T1 20 (.bool true true)) (a1.put (some 20) (.bool true)):=(hF1.mono hle2 L2.gle).put (by rw [z1];decide) (.bool _ _)
  refine V6 (by rintro ⟨x,y,h⟩;exact hO ⟨x,y,h⟩) (t3 B σ2 g2 W2 _ _ hI2 (Nat.le_trans hB1 L2.size) (fun b q1 q2=>free2 b q1 (by omega)) hF2 (by rw [Xw];exact z1) ?_)
  rintro a3 w3 ⟨d3,z3,σ3,g3,hS3,hI3,hF3⟩
  have hd3:a3.defers=a.defers:=by rw [d3,Yy,d1]
  have L3:StpL 7 60 md σ2 g2 W2 σ3 g3 w3:=StpL.of hS3 (by omega) (by omega) mods3
  have L3':=L2'.trans L3
  have hl3:w3.heap[l]? =some (.loop r):=(L3.heap l hlt2 hown2).trans hl2
  have hFo3:=(hFo1.mono hle2 L2.gle).mono hS3.sig hS3.gle
  show (Code.cond (.tmp 26) .skip (.exit 0)).wpIn _ _ _ _ a3 w3
  split at hK3
  case h_2=>exact hK3.elim
  rename_i bb vv h26
  have hK3:=Z7 hK3
  have ev26:a3.eval (.tmp 26)= .bool vv:=by
   have:=hF3 26
   rw [h26] at this
   generalize a3.eval (.tmp 26)=u at this
   cases this;rfl
  cases vv with
  |false=>exact wpIn_cond_false ev26 (wpIn_exit (hQe a3 w3 σ3 g3 h3 hK3 ⟨L3',hI3,hFo3,hl3⟩ z3 hd3))
  |true=>
   obtain ⟨T4,h4,i4,ms4,hK4,hi4,hD4,⟨m4,hm4,hM4⟩,t4⟩:=hVT _ _ _ _ _ hD3.1 hK3
   rw [List.append_nil] at hm4
   subst hm4
   split at hK4
   case h_2=>exact hK4.elim
   rename_i hck4
   rw [Bool.and_eq_true,Nat.ble_eq] at hck4
   obtain ⟨hi4b,hmd4⟩:=hck4
   have mods4:=dmods (i3:=i4) hmd4 (fun b hb=>Nat.lt_of_lt_of_le (hD3.1 b hb) (by omega)) fun b hb=>(hM4 b hb).imp id fun k=>by omega
   have free3:∀b,i3<=b->b<60->σ3 b=none:=fun b q1 q2=>Xr hS3 (i2:=60) (fun b' p1 p2=>free2 b' p1 p2) b (by omega) q2
   refine wpIn_cond_true ev26 (wpIn_skip ?_)
   show (Code.seq it4 it3).wpIn _ _ _ _ a3 w3
   refine Z0r (Q:=Q) (t4 B σ3 g3 w3 a3 (fun a w=>Q .normal a w) hI3 (Nat.le_trans hB L3'.size) (fun b q1 q2=>free3 b q1 (by omega)) hF3 z3 ?_)
   rintro a4 w4 ⟨d4,z4,σ4,g4,hS4,hI4,hF4⟩
   have hlt3:l<w3.heap.size:=(Array.getElem?_eq_some_iff.1 hl3).1
   have hown3:¬Own 7 60 md σ3 l:=fun ho=>by
    rcases L3'.own l ho with k|k
    · omega
    · exact hown k
   have L4:StpL 7 60 md σ3 g3 w3 σ4 g4 w4:=StpL.of hS4 (by omega) (by omega) mods4
   exact hQn a4 w4 σ4 g4 T4 h4 hK4 ⟨L3'.trans L4,hI4,hFo3.mono hS4.sig hS4.gle,(L4.heap l hlt3 hown3).trans hl3⟩ hF4 z4 (d4.trans hd3)
 |ret=>
  rintro en W2 ⟨rfl,σ2,g2,W3,L2,hI2,hle2,hnw2,hl2,rfl⟩
  refine ⟨_,rfl,?_⟩
  have L2':=L1.trans (L2.mono (M':=60) (by omega))
  have hlt2:l<W3.heap.size:=(Array.getElem?_eq_some_iff.1 hl2).1
  have hown2:¬Own 7 60 md σ2 l:=fun ho=>by
   rcases L2'.own l ho with k|k
   · omega
   · exact hown k
  have free2:∀b,40<=b->b<60->σ2 b=none:=fun b q1 q2=>by
   cases hq:σ2 b with
   |none=>rfl
   |some p=>
    rcases hnw2 b p hq with k|k
    · rw [free1 b (by omega) q2] at k;cases k
    · omega
  obtain ⟨e3,T3,h3,i3,ms3,hK3,hi3,hD3,⟨m3,hm3,hM3⟩,t3⟩:=Zcg hE Xo (o2p++o2y::o2s) o2s _ _ 40 [] _ hdom2 hK2
  rw [List.append_nil] at hm3
  subst hm3
  split at hK3
  case h_2=>exact hK3.elim
  rename_i h26 hck3
  rw [Bool.and_eq_true,Nat.ble_eq] at hck3
  obtain ⟨hmd3,hi60⟩:=hck3
  have mods3:=dmods (i3:=i3) hmd3 (fun b hb=>Nat.lt_of_lt_of_le (hdom2 b hb) (by omega)) fun b hb=>(hM3 b hb).imp id fun k=>by omega
  have hF2:FrOk E σ2 g2 (upd T1 20 (.bool true false)) (a1.put (some 20) (.bool false)):=(hF1.mono hle2 L2.gle).put (by rw [z1];decide) (.bool _ _)
  have hI2p:=Xj hI2 hl2 rfl (fun es c e=>by cases e) (.loop {r with state:= .done,pending:=some .ret})
  refine V6 (by rintro ⟨x,y,h⟩;exact hO ⟨x,y,h⟩) (t3 B σ2 g2 _ _ _ hI2p (by simp;exact Nat.le_trans hB1 L2.size) (fun b q1 q2=>free2 b q1 (by omega)) hF2 (by rw [Xw];exact z1) ?_)
  rintro a3 w3 ⟨d3,z3,σ3,g3,hS3,hI3,hF3⟩
  have hd3:a3.defers=a.defers:=by rw [d3,Yy,d1]
  have L3:StpL 7 60 md σ2 g2 (W3.putObj l (.loop {r with state:= .done,pending:=some .ret})) σ3 g3 w3:=StpL.of hS3 (by omega) (by omega) mods3
  have hl3:w3.heap[l]? =some (.loop {r with state:= .done,pending:=some .ret}):=(L3.heap l (by simpa using hlt2) hown2).trans (World.putObj_heap_same hlt2)
  have hFo2:=hFo1.mono hle2 L2.gle
  show (Code.cond (.tmp 26) .skip (.exit 0)).wpIn _ _ _ _ a3 w3
  have ev26:a3.eval (.tmp 26)= .bool false:=by
   have:=hF3 26
   rw [h26] at this
   generalize a3.eval (.tmp 26)=u at this
   cases this;rfl
  exact wpIn_cond_false ev26 (wpIn_exit (hQr a3 w3 W3 σ2 g2 h2 σ3 g3 h3 hK3 ⟨L2',hI2,hFo2,hl2⟩ ⟨L3,hI3,hFo2.mono hS3.sig hS3.gle,hl3⟩ z3 hd3))
 |_=>exact hK2.elim
end
end
section
open Go Go.RowKit
def Z4d:Code->List Oper
 | .region _ ops _=>ops.toList
 |_=> []
def o2:List Oper:=Z4d it2
def o2p:List Oper:=o2.take 6
def o2s:List Oper:=o2.drop 7
def o2y:Oper:=(o2[6]?).getD default
theorem Z23:it2= .region 2 (o2p++o2y::o2s).toArray false:=by kernel_rfl
theorem U2:o2y.op= .call {callee:= .value (.tmp 17),args:= #[.tmp 18,.tmp 19],argTypes:= #[3,43]}:=by kernel_rfl
theorem U3:o2y.guard=some (2,true):=by kernel_rfl
theorem Wu:o2y.dst=some 20:=by kernel_rfl
theorem Zev:((o2p++o2y::o2s).toArray[2]?).bind (·.dst)=some 16:=by kernel_rfl
def cD:Nat->List (SV thy)->Hp thy->Nat->(Res thy->Prop)->Prop:=Zr E2 FD (vc E2 FD 400)
theorem Z0t:U4 E2 cD:=Zg Zh Z05 400
theorem Xo (o:Oper) (T:Fr thy) (h:Hp thy) (i:Nat) (k:Res thy->Prop) (hD:DomLt h i) (hk:step E2 cD o.op T h i k):∃r,k r/\OpTri2 E2 o T h i r:=Zbt Zh Z0t (fun _ _ _ _ _ hk=>W0 Z05 hk) o T h i k hD hk
theorem Zce:∀(cs:List Code) (f N:Nat) (T:Fr thy) (h:Hp thy) (i:Nat) (ms:List Nat) (K:Fr thy->Hp thy->Nat->List Nat->Prop),DomLt h i->vcs FD 400 f N cs T h i ms K->
 ∃T' h' i' ms',K T' h' i' ms'/\i<=i'/\Dom h i h' i'/\(∃m,ms'=m++ms/\Yc h i i' m)/\
  ∀(B:Nat) (σ:Pl) (g:GH) (w:World) (a:Act) (Q:Act->World->Prop),Inv E2 B σ h g w->B<=w.heap.size->(∀b,i<=b->b<i'->σ b=none)->FrOk E2 σ g T a->a.tmps.size=N->
   (∀a' w',Aft E2 B N i i' ms' σ g w a.defers T' h' a' w'->Q a' w')->cs.foldr (fun c k a w=>c.wp E2.P (Exit.then k fun _ _ _=>False) a w) Q a w
 | [],f,N,T,h,i,ms,K,hD,hk=>⟨T,h,i,ms,hk,Nat.le_refl _,⟨hD,fun b hb=> .inl hb⟩,⟨[],rfl,fun b hb=>by simp at hb⟩,fun B σ g w a Q hI hB hfree hF hN hQ=>hQ a w ⟨rfl,hN,σ,g,by rw [Nat.sub_self];exact (Stp.refl i σ g w).weaken (by simp),hI,hF⟩⟩
 |c::cs,f,N,T,h,i,ms,K,hD,hk=>by
  obtain ⟨e,T1,h1,i1,ms1,hK,hi,hDo,⟨m,rfl,hM⟩,t1⟩:=(Zkp Zh Z05 400 f N c).1 T h i ms _ hD hk
  cases e with
  |normal=>
   obtain ⟨T2,h2,i2,ms2,hK2,hi2,hDo2,⟨m',rfl,hM'⟩,t2⟩:=Zce cs f N T1 h1 i1 _ K hDo.1 hK
   refine ⟨T2,h2,i2,_,hK2,by omega,hDo.trans hi hDo2,⟨m'++m,by simp,Ul hDo hi hi2 hM hM'⟩,fun B σ g w a Q hI hB hfree hF hN hQ=> ?_⟩
   show c.wp E2.P (Exit.then _ _) a w
   refine t1 B σ g w a _ hI hB (fun b q1 q2=>hfree b q1 (by omega)) hF hN fun a1 w1 hA=> ?_
   show List.foldr _ Q cs a1 w1
   obtain ⟨σ1,g1,k1,k2,k3,k4,k5⟩:=hA.trans hi hi2 hB hfree ⟨m',rfl⟩
   exact t2 B σ1 g1 w1 a1 Q k1 k2 k3 k4 hA.sz fun a2 w2 hA2=>hQ a2 w2 (k5 _ _ _ _ hA2)
  |_=>exact hK.elim
def itT:Zd8 thy:=fun T h i ms K=>vcs FD 400 50 36 [it4,it3] T h i ms K
theorem Zyv:Zd9 E2 36 it4 it3 itT:=fun T h i ms K hD hk=>Zce [it4,it3] 50 36 T h i ms K hD hk
end
section
open Go.RowKit
section
variable {Y:Thy} {E:Eng Y}
structure Bel (B:Nat) (g:GH) (w:World) (g':GH) (w':World):Prop where
 gle:g.le g'
 gcnew:∀r o v,g'.cell r o=some v->g.cell r o=some v\/B<=r
 gmnew:∀r es,g'.obj r=some es->g.obj r=some es\/B<=r
 heap:∀r,r<B->w'.heap[r]? =w.heap[r]?
 size:w.heap.size<=w'.heap.size
 os:w'.os=w.os
 tape:w'.tape=w.tape
 output:w'.output=w.output
theorem Bel.trans {B:Nat} {g g1 g2:GH} {w w1 w2:World} (h:Bel B g w g1 w1) (k:Bel B g1 w1 g2 w2):Bel B g w g2 w2:=
 ⟨h.gle.trans k.gle,fun r o v hv=>(k.gcnew r o v hv).elim (h.gcnew r o v) .inr,fun r es hv=>(k.gmnew r es hv).elim (h.gmnew r es) .inr,fun r hr=>(k.heap r hr).trans (h.heap r hr),Nat.le_trans h.size k.size,k.os.trans h.os,k.tape.trans h.tape,k.output.trans h.output⟩
theorem Bel.stp {B i n:Nat} {m:List Nat} {σ σ':Pl} {h:Hp Y} {g g':GH} {w w':World} (hS:Stp i n m σ g w σ' g' w') (hI:Inv E B σ h g w) (hB:B<=w.heap.size):Bel B g w g' w':=
 ⟨hS.gle,fun r o v hv=>(hS.gcnew r o v hv).imp id fun k=>k.elim (fun k=>Nat.le_trans hB k) fun ⟨b,_,z,hs⟩=>(hI.base b r z hs).1,fun r es hv=>(hS.gmnew r es hv).imp id fun k=>Nat.le_trans hB k,
  fun r hr=>hS.heap r (Nat.lt_of_lt_of_le hr hB) fun b _ z hs=>by have:=(hI.base b r z hs).1;omega,hS.size,hS.os,hS.tape,hS.output⟩
theorem Bel.stpL {B i M:Nat} {md:List Nat} {σ σ':Pl} {h:Hp Y} {g g':GH} {w w':World} (hS:StpL i M md σ g w σ' g' w') (hI:Inv E B σ h g w) (hB:B<=w.heap.size):Bel B g w g' w':=
 ⟨hS.gle,fun r o v hv=>(hS.gcnew r o v hv).imp id fun k=>k.elim (fun k=>Nat.le_trans hB k) fun ⟨b,z,_,hs⟩=>(hI.base b r z hs).1,fun r es hv=>(hS.gmnew r es hv).imp id fun k=>Nat.le_trans hB k,
  fun r hr=>hS.heap r (Nat.lt_of_lt_of_le hr hB) fun ⟨b,z,_,hs⟩=>by have:=(hI.base b r z hs).1;omega,hS.size,hS.os,hS.tape,hS.output⟩
theorem Bel.put {B:Nat} (g:GH) (w:World) {l:Nat} (hl:B<=l) (o:Obj):Bel B g w g (w.putObj l o):=
 ⟨.refl _,fun _ _ _ h=> .inl h,fun _ _ h=> .inl h,fun r hr=>World.putObj_heap_other (by omega),by simp,rfl,rfl,rfl⟩
theorem Bel.alloc {B:Nat} (g:GH) (w:World) (hB:B<=w.heap.size) (o:Obj):Bel B g w g (w.alloc o):=
 ⟨.refl _,fun _ _ _ h=> .inl h,fun _ _ h=> .inl h,fun r hr=>Below.heap_alloc w o r (by omega),by simp,rfl,rfl,rfl⟩
structure ItSt (E:Eng Y) (B:Nat) (frOut:List (Nat×SV Y)) (ao:Act) (l D:Nat) (r:Loop) (g0:GH) (w0:World) (hd:Nat) (h:Hp Y) (σ:Pl) (g:GH) (W:World):Prop where
 inv:Inv E B σ h g W
 bel:Bel B g0 w0 g W
 le:B<=W.heap.size
 fr:FrOk E σ g (frOf frOut) ao
 rc:W.heap[l]? =some (.loop r)
 free:∀b,hd<=b->σ b=none
 dk:W.heap[D]? =some (.deferred (some []))
def mu6 (m:Nat) (a:Act):Nat:=m+1-(match a.eval (.tmp 6) with| .int _ n=>n.toNat|_=>0)
theorem Zua (hE:EngOk E) {cD:Zs2 Y} (Xo:∀(o:Oper) T h i k,DomLt h i->step E cD o.op T h i k->∃r,k r/\OpTri2 E o T h i r) {VT:Zd8 Y} {it4 it3:Code} (hVT:Zd9 E 36 it4 it3 VT) {o2p o2s:List Oper} {o2y:Oper} {ts:Array TypeId}
 (U2:o2y.op= .call {callee:= .value (.tmp 17),args:= #[.tmp 18,.tmp 19],argTypes:=ts}) (U3:o2y.guard=some (2,true)) (Wu:o2y.dst=some 20) (Zev:((o2p++o2y::o2s).toArray[2]?).bind (·.dst)=some 16)
 {fI:Nat->List (Nat×SV Y)} (hfI:∀k,frOf (fI k) 6= .int false .i64 (k:Int)) {NO:Nat} {assign body:Code} {p1 p2:Tmp} {frOut:List (Nat×SV Y)} {md:List Nat} {l m:Nat} {KN:Nat->Fr Y->Hp Y->Prop} {KE KR:Nat->Hp Y->Prop} (hp1:p1<NO) (hp2:p2<NO)
 {headP:Nat->Hp Y->Prop} (hit:∀k,k<=m->∀h,headP k h->DomLt h 8/\itC E cD VT o2p o2y o2s (fI k) NO assign body [p1,p2] frOut md l h (KN k) (KE k) (KR k))
 (ao:Act) (hNo:ao.tmps.size=NO)
 (hKN:∀k T h,k<=m->KN k T h->k+1<=m/\∀(B:Nat) (σ:Pl) (g:GH) (W:World) (a:Act),Inv E B σ h g W->FrOk E σ g T a->FrOk E σ g (frOf frOut) ao->∃σ' h',headP (k+1) h'/\StpL 7 60 md σ g W σ' g W/\Inv E B σ' h' g W/\FrOk E σ' g (frOf frOut) ao/\FrOk E σ' g (frOf (fI (k+1))) a/\∀b,8<=b->b<60->σ' b=none)
 {B:Nat} (D:Nat) (fn:FuncId) (g0:GH) (w0:World) (n:Nat) (Q:Exit->Act->World->Prop) (hO:¬LetsOut Q) (a:Act) (W:World) (hBl:B<=l) (hDl:D≠l)
 (hQe:∀a' W' k σ g h,k<=m->KE k h->ItSt E B frOut ao l D (rdy fn ao.tmps [p1,p2] assign body D) g0 w0 60 h σ g W'->a'.tmps.size=36->a'.defers=a.defers->Q (.exit 0) a' W')
 (hQr:∀a' W' k σ g h,k<=m->KR k h->ItSt E B frOut ao l D {rdy fn ao.tmps [p1,p2] assign body D with state:= .done,pending:=some .ret} g0 w0 60 h σ g W'->a'.tmps.size=36->a'.defers=a.defers->Q (.exit 0) a' W')
 {σ:Pl} {g:GH} {h:Hp Y} (hh:headP 0 h) (h0:ItSt E B frOut ao l D (rdy fn ao.tmps [p1,p2] assign body D) g0 w0 8 h σ g W) (hF:FrOk E σ g (frOf (fI 0)) a) (hN:a.tmps.size=36) (hown:¬Own 7 60 md σ l) (howD:¬Own 7 60 md σ D):
 (Code.loop (.seq (.seq (.region 2 (o2p++o2y::o2s).toArray false) (.cond (.tmp 26) .skip (.exit 0))) (.seq it4 it3))).wpIn Fence.wide (n+1) E.P Q a W:=by
 refine wpIn_loop (fun a' W'=>∃k σ g h,k<=m/\headP k h/\ItSt E B frOut ao l D (rdy fn ao.tmps [p1,p2] assign body D) g0 w0 8 h σ g W'/\FrOk E σ g (frOf (fI k)) a'/\a'.tmps.size=36/\a'.defers=a.defers/\¬Own 7 60 md σ l/\¬Own 7 60 md σ D) (fun a' _=>mu6 m a') ⟨0,σ,g,h,Nat.zero_le _,hh,h0,hF,hN,rfl,hown,howD⟩ ?_
 rintro a1 w1 ⟨k,σ1,g1,h1,hk,hh1,s1,hF1,hN1,hd1,hown1,howD1⟩
 obtain ⟨hdom,hc⟩:=hit k hk h1 hh1
 have hlt:l<w1.heap.size:=(Array.getElem?_eq_some_iff.1 s1.rc).1
 have hltD:D<w1.heap.size:=(Array.getElem?_eq_some_iff.1 s1.dk).1
 have e6:∀(σ:Pl) (g:GH) (k:Nat) (a:Act),FrOk E σ g (frOf (fI k)) a->a.eval (.tmp 6)= .int .i64 (k:Int):=fun σ g k a hF=>by
  have:=hF 6
  rw [hfI] at this
  generalize a.eval (.tmp 6)=u at this
  cases this;rfl
 refine Z0s hE Xo hVT U2 U3 Wu Zev hp1 hp2 hdom hc n B σ1 g1 w1 a1 ao D fn s1.inv s1.le (fun b q1 _=>s1.free b q1) hF1 hN1 s1.fr hNo s1.rc hown1 _ (fun ⟨x,y,h⟩=>hO ⟨x,y,h⟩) ?_ ?_ ?_
 · intro a' W' σ' g' T4 h4 hkn hr hF' hz hdf
   obtain ⟨hk1,hfit⟩:=hKN k T4 h4 hk hkn
   obtain ⟨σ2,h',p1',p2',p3,p4,p5,p6⟩:=hfit B σ' g' W' a' hr.inv hF' hr.fr
   have hst:=hr.st.trans p2'
   refine ⟨⟨k+1,σ2,g',h',hk1,p1',⟨p3,s1.bel.trans (Bel.stpL hr.st s1.inv s1.le),Nat.le_trans s1.le hr.st.size,p4,hr.rc,fun b hb=> ?_,?_⟩,p5,hz,hdf.trans hd1,fun ho=> ?_,fun ho=> ?_⟩,?_⟩
   · by_cases c:b<60
     · exact p6 b hb c
     · rw [hst.out b (by omega)];exact s1.free b hb
   · exact (hr.st.heap D hltD howD1).trans s1.dk
   · rcases hst.own l ho with q|q
     · omega
     · exact hown1 q
   · rcases hst.own D ho with q|q
     · omega
     · exact howD1 q
   · show mu6 m a'<mu6 m a1
     unfold mu6
     rw [e6 _ _ _ _ p5,e6 _ _ _ _ hF1]
     simp only [Int.toNat_natCast]
     omega
 · intro a' W' σ' g' h3 hke hr hz hdf
   exact hQe a' W' k σ' g' h3 hk hke ⟨hr.inv,s1.bel.trans (Bel.stpL hr.st s1.inv s1.le),Nat.le_trans s1.le hr.st.size,hr.fr,hr.rc,(fun b hb=>by rw [hr.st.out b (by omega)];exact s1.free b (by omega)),(hr.st.heap D hltD howD1).trans s1.dk⟩ hz (hdf.trans hd1)
 · intro a' W' W3 σ3 g3 h2 σ' g' h3 hkr hr1 hr2 hz hdf
   have b1:=s1.bel.trans (Bel.stpL hr1.st s1.inv s1.le)
   have l3:B<=W3.heap.size:=Nat.le_trans s1.le hr1.st.size
   have hI3:=Xj hr1.inv hr1.rc rfl (fun es c e=>by cases e) (.loop {rdy fn ao.tmps [p1,p2] assign body D with state:= .done,pending:=some .ret})
   have b2:=Bel.stpL hr2.st hI3 (by simp;exact l3)
   have sz:=hr2.st.size
   simp at sz
   refine hQr a' W' k σ' g' h3 hk hkr ⟨hr2.inv,(b1.trans (Bel.put g3 W3 hBl _)).trans b2,Nat.le_trans l3 sz,hr2.fr,hr2.rc,(fun b hb=>by rw [hr2.st.out b (by omega),hr1.st.out b (by omega)];exact s1.free b (by omega)),?_⟩ hz (hdf.trans hd1)
   have d3:W3.heap[D]? =some (.deferred (some [])):=(hr1.st.heap D hltD howD1).trans s1.dk
   have lt3:D<W3.heap.size:=(Array.getElem?_eq_some_iff.1 d3).1
   refine (hr2.st.heap D (by simpa using lt3) fun ho=> ?_).trans ((World.putObj_heap_other hDl).trans d3)
   rcases hr1.st.own D ho with q|q
   · omega
   · exact howD1 q
theorem Zxm {n:Nat} {P:Program} {x y z:Code} {a:Act} {w:World} {Q:Exit->Act->World->Prop} (h:x.wp P (Exit.then (fun a w=>y.wp P (Exit.then (fun a w=>z.wpIn Fence.wide n P Q a w) fun _ _ _=>False) a w) fun _ _ _=>False) a w):(Code.seq x (.seq y z)).wpIn Fence.wide n P Q a w:=by
 refine wpIn_seq (wpIn_wide.2 (wp_mono h fun e a w he=> ?_))
 cases e with
 |normal=>
  refine wpIn_seq (wpIn_wide.2 (wp_mono he fun e a w hq=> ?_))
  cases e with
  |normal=>exact hq
  |_=>exact hq.elim
 |_=>exact he.elim
theorem Zxn (hE:EngOk E) {cD:Zs2 Y} (Xo:∀(o:Oper) T h i k,DomLt h i->step E cD o.op T h i k->∃r,k r/\OpTri2 E o T h i r) {V0 VT:Zd8 Y} {it0 it1 it4 it3:Code} (hV0:Zd9 E 36 it0 it1 V0) (hVT:Zd9 E 36 it4 it3 VT) {o2p o2s:List Oper} {o2y:Oper} {ts:Array TypeId}
 (U2:o2y.op= .call {callee:= .value (.tmp 17),args:= #[.tmp 18,.tmp 19],argTypes:=ts}) (U3:o2y.guard=some (2,true)) (Wu:o2y.dst=some 20) (Zev:((o2p++o2y::o2s).toArray[2]?).bind (·.dst)=some 16)
 {gf:FuncId} {fI:Func} (hf:E.P.funcs[gf]? =some fI) (hbody:fI.body=some (.seq it0 (.seq it1 (.block 0 (.loop (.seq (.seq (.region 2 (o2p++o2y::o2s).toArray false) (.cond (.tmp 26) .skip (.exit 0))) (.seq it4 it3))))))) (hnt:fI.ntmps=36) (hres:fI.results= #[]) (eg:∀args w,(callFunc gf args).run E.P w= .ok (.enter gf args) w)
 {fr:Nat->Nat->List (Nat×SV Y)} (hfI:∀l k,frOf (fr l k) 6= .int false .i64 (k:Int)) {NO:Nat} {assign body:Code} {p1 p2:Tmp} {frOut:List (Nat×SV Y)} {md:List Nat} {m:Nat} {K0:Nat->Fr Y->Hp Y->Prop} {KN:Nat->Nat->Fr Y->Hp Y->Prop} {KE KR:Nat->Hp Y->Prop} (hp1:p1<NO) (hp2:p2<NO)
 {headP:Nat->Hp Y->Prop} (hit:∀l k,k<=m->∀h,headP k h->DomLt h 8/\itC E cD VT o2p o2y o2s (fr l k) NO assign body [p1,p2] frOut md l h (KN l k) (KE k) (KR k))
 {gs b1 b2:Nat} {hE0:Hp Y} (hdom0:DomLt hE0 6) (hent:∀l,V0 (nthD [.val (.func (.yield l) #[] #[]),.ptr b1 0,.ptr b2 0]) hE0 6 [] fun T h i ms=>i<=60/\K0 l T h)
 {T:Fr Y} (hT:T gs= .fn (.func gf) [] [.ptr b1 0,.ptr b2 0]) {B:Nat} {σ:Pl} {g g0:GH} {W w0:World} {a:Act} (hI:Inv E B σ hE0 g W) (hB:B<=W.heap.size) (hbel:Bel B g0 w0 g W) (hfree:∀b,6<=b->σ b=none) (hFT:FrOk E σ g T a) (hFo:FrOk E σ g (frOf frOut) a) (hNo:a.tmps.size=NO)
 (hK0:∀l T h,K0 l T h->∀(σ:Pl) (g:GH) (W:World) (ai:Act),Inv E B σ h g W->FrOk E σ g T ai->FrOk E σ g (frOf frOut) a->∃σ' h',headP 0 h'/\StpL 7 60 md σ g W σ' g W/\Inv E B σ' h' g W/\FrOk E σ' g (frOf frOut) a/\FrOk E σ' g (frOf (fr l 0)) ai/\∀b,8<=b->b<60->σ' b=none)
 (hKN:∀l k T h,k<=m->KN l k T h->k+1<=m/\∀(B:Nat) (σ:Pl) (g:GH) (W:World) (ai:Act),Inv E B σ h g W->FrOk E σ g T ai->FrOk E σ g (frOf frOut) a->∃σ' h',headP (k+1) h'/\StpL 7 60 md σ g W σ' g W/\Inv E B σ' h' g W/\FrOk E σ' g (frOf frOut) a/\FrOk E σ' g (frOf (fr l (k+1))) ai/\∀b,8<=b->b<60->σ' b=none)
 (n:Nat) (Q:Exit->Act->World->Prop) (hO:¬LetsOut Q)
 (hEnd:∀D W' k σ g h,B<=D->k<=m->KE k h->Inv E B σ h g W'->Bel B g0 w0 g W'->B<=W'.heap.size->FrOk E σ g (frOf frOut) a->(∀b,60<=b->σ b=none)->W'.heap[D]? =some (.deferred (some []))->Q .normal {a with defers:={target:= .collected D,args:= #[]}::a.defers} W')
 (hRet:∀D W' k σ g h,B<=D->k<=m->KR k h->Inv E B σ h g W'->Bel B g0 w0 g W'->B<=W'.heap.size->FrOk E σ g (frOf frOut) a->(∀b,60<=b->σ b=none)->W'.heap[D]? =some (.deferred (some []))->Q .ret {a with defers:={target:= .collected D,args:= #[]}::a.defers} W'):
 (Code.rangeFunc (.tmp gs) #[p1,p2] assign body).wpIn Fence.wide n E.P Q a W:=by
 refine wpIn_rangeFunc fun fn _=> ?_
 obtain ⟨W1,hW1⟩:∃W1,(W.alloc (.deferred (some []))).alloc (.loop (rdy fn a.tmps [p1,p2] assign body W.heap.size))=W1:=⟨_,rfl⟩
 have hL1:W1.heap[W.heap.size+1]? =some (.loop (rdy fn a.tmps [p1,p2] assign body W.heap.size)):=by
  rw [<-hW1];have:=World.alloc_heap_new (W.alloc (.deferred (some []))) (.loop (rdy fn a.tmps [p1,p2] assign body W.heap.size));rwa [World.size_alloc] at this
 have hD1:W1.heap[W.heap.size]? =some (.deferred (some [])):=by
  rw [<-hW1];exact (Below.heap_alloc _ _ _ (by simp)).trans (World.alloc_heap_new W _)
 have hI1:Inv E B σ hE0 g W1:=by rw [<-hW1];exact Ze0 (Ze0 hI _) _
 have hb1:Bel B g0 w0 g W1:=by rw [<-hW1];exact (hbel.trans (Bel.alloc g W hB _)).trans (Bel.alloc g _ (by simp;omega) _)
 have hs1:W1.heap.size=W.heap.size+2:=by rw [<-hW1];simp
 have hev:∃u1 u2,a.eval (.tmp gs)= .func (.func gf) #[] #[u1,u2]/\Den E σ g (.ptr b1 0) u1/\Den E σ g (.ptr b2 0) u2:=by
  have:=hFT gs
  rw [hT] at this
  generalize a.eval (.tmp gs)=u at this
  cases this with
  |fn ca cb s1 s2 s3 s4 s5 s6=>
   rename_i va vb
   have e1:va= #[]:=Array.eq_empty_of_size_eq_zero s1
   have e2:vb= #[cb 0,cb 1]:=by
    have q0:=s5 0 (by simp)
    have q1:=s5 1 (by simp)
    have hz:vb.size=2:=s4
    apply Array.ext (by simpa using hz)
    intro j h1 h2
    match j,h1,h2 with
    |0,h1,h2=>rw [Array.getElem?_eq_getElem h1] at q0;simpa using q0
    |1,h1,h2=>rw [Array.getElem?_eq_getElem h1] at q1;simpa using q1
    |j+2,h1,h2=>omega
   rw [e1,e2]
   exact ⟨_,_,rfl,s6 0 _ rfl,s6 1 _ rfl⟩
 obtain ⟨u1,u2,hg,hu1,hu2⟩:=hev
 refine ⟨W.heap.size+1,[{target:= .collected W.heap.size,args:= #[]}],W1,{target:= .fn (.func gf) #[u1,u2],args:= #[.func (.yield (W.heap.size+1)) #[] #[]]},W1,gf,#[.func (.yield (W.heap.size+1)) #[] #[]]++ #[u1,u2],W1,?_,?_,fun _ _=>trivial,?_,fun h=>(by cases h),?_⟩
 · rw [<-hW1];exact run_enterLoop_outer _ _ _ _ _
 · simp only [resolve,hg]
   simp [go_sem]
 · simp [invoke,go_sem,eg]
 · refine callsIn_of_wp hf hbody trivial ?_
   have hdd:DenL E σ g [.val (.func (.yield (W.heap.size+1)) #[] #[]),.ptr b1 0,.ptr b2 0] (#[.func (.yield (W.heap.size+1)) #[] #[]]++ #[u1,u2]:Array Value).toList:=⟨rfl,fun j sv u q1 q2=>by
    match j,q1,q2 with
    |0,q1,q2=>cases q1;cases q2;exact .val _
    |1,q1,q2=>cases q1;cases q2;exact hu1
    |2,q1,q2=>cases q1;cases q2;exact hu2⟩
   obtain ⟨T',h',i',ms',⟨hi60,hk0⟩,hi,hDo,hm,t0⟩:=hV0 _ hE0 6 [] _ hdom0 (hent (W.heap.size+1))
   rw [hnt]
   refine Zxm (t0 B σ g W1 _ (fun a w=>(Code.block 0 (.loop (.seq (.seq (.region 2 (o2p++o2y::o2s).toArray false) (.cond (.tmp 26) .skip (.exit 0))) (.seq it4 it3)))).wpIn Fence.wide _ E.P _ a w) hI1 (by omega) (fun b q1 q2=>hfree b q1) (Xd hdd (by simp)) (Xe hdd (by simp)) ?_)
   rintro a1 w1 ⟨d1,z1,σ1,g1,hS1,hI2,hF1⟩
   obtain ⟨σ2,h2,q1,q2,q3,q4,q5,q6⟩:=hK0 _ T' h' hk0 σ1 g1 w1 a1 hI2 hF1 (hFo.mono hS1.sig hS1.gle)
   have keep:∀j,W.heap.size<=j->j<W1.heap.size->w1.heap[j]? =W1.heap[j]? :=fun j k1 k2=>hS1.heap j k2 fun b _ z hs=>by have:=(hI.base b j z hs).2;omega
   have hl2:=(keep (W.heap.size+1) (by omega) (by omega)).trans hL1
   have hd2:=(keep W.heap.size (by omega) (by omega)).trans hD1
   have sz1:=hS1.size
   have own1:∀j,W.heap.size<=j->j<W1.heap.size->¬Own 7 60 md σ2 j:=fun j k1 k2 ho=>by
    rcases q2.own j ho with k|k
    · omega
    · obtain ⟨b,z,_,hs⟩:=k
      cases hq:σ b with
      |some p=>
       have:=hS1.sig b p hq
       rw [hs] at this
       cases this
       have:=(hI.base b j z hq).2
       omega
      |none=>
       rcases hS1.blk b j z hq hs with k|⟨b',_,z',k⟩
       · omega
       · have:=(hI.base b' j z' k).2
         omega
   refine wpIn_wide.2 (wpIn_wide.1 (wpIn_block (n:=0+1) (Zua hE Xo hVT U2 U3 Wu Zev (fI:=fr (W.heap.size+1)) (hfI _) hp1 hp2 (hit (W.heap.size+1)) a hNo (hKN (W.heap.size+1)) W.heap.size fn g0 w0 0 _ ?_ a1 w1 (by omega) (by omega) ?_ ?_ q1 ⟨q3,hb1.trans (Bel.stp hS1 hI1 (by omega)),by omega,q4,hl2,fun b hb=> ?_,hd2⟩ q5 z1 (own1 _ (by omega) (by omega)) (own1 _ (by omega) (by omega)))))
   · rintro ⟨x,y,hx⟩
     exact hO hx
   · intro a' W' k σ' g' h3 hk hke st hz hdf
     simp only [Exit.inBlock,if_true]
     refine ⟨hdf.trans d1,_,results_none hres _ _ _,none,_,run_endLoop st.rc (by simp [rdy]),?_⟩
     exact hEnd W.heap.size _ k σ' g' h3 (by omega) hk hke (Xj st.inv st.rc rfl (fun es c e=>by cases e) _) (st.bel.trans (Bel.put _ _ (by omega) _)) (by simp;exact st.le) st.fr st.free ((World.putObj_heap_other (by omega)).trans st.dk)
   · intro a' W' k σ' g' h3 hk hkr st hz hdf
     simp only [Exit.inBlock,if_true]
     refine ⟨hdf.trans d1,_,results_none hres _ _ _,some .ret,_,run_endLoop st.rc (by simp),wpIn_ret ?_⟩
     exact hRet W.heap.size _ k σ' g' h3 (by omega) hk hkr (Xj st.inv st.rc rfl (fun es c e=>by cases e) _) (st.bel.trans (Bel.put _ _ (by omega) _)) (by simp;exact st.le) st.fr st.free ((World.putObj_heap_other (by omega)).trans st.dk)
   · by_cases c:b<60
     · exact q6 b hb c
     · rw [q2.out b (by omega)]
       cases hq:σ1 b with
       |none=>rfl
       |some p=>
        rcases hS1.snew b p hq with k|k
        · rw [hfree b (by omega)] at k;cases k
        · omega
end
end
section
open Go Go.RowKit
/-- a digest's bytes -/
def lvL (c:List Ins) (v:Env) (k:Nat):List (List Int):=(List.range k).map fun j=>n32 (Vk c v (dsk c v j))
def A0R (c:List Ins) (v:Env):Ann thy:={X:=Unit,fr:=fun _=>(25,.fn (.func 50) [] [.ptr 4 0,.ptr 5 0])::frO,bl:=fun _=>blE c v,src:=fun _=> [],md:= [],ih:=6,M:=6,meas:=fun _=>0}
def AHR (c:List Ins) (v:Env) (b:Bool) (s:St) (a e:Int) (L:List (List Int)):Ann thy:={X:=Unit,fr:=fun _=>frO,bl:=fun _=>blH c v b s a e L,src:=fun _=>(match b with|true=> [(7,21008)]|false=> []),md:= [3,6],ih:=8,M:=60,meas:=fun _=>0}
def ren7:Nat->Option Nat:=fun b=>match Nat.blt b 7 with|true=>some b|false=>none
--@condg pre | (c : List Ins) (v : Env) | vcs FD 400 8 46 [rn0, rn1, rn4, rn5] (nthD [.psl .ins c false, envV v]) hp0 0 [] (fun T h i ms => Ws i 6 (fits E2 (A0R c v) 6 T h ()))
theorem Zwy (c:List Ins) (v:Env):vcs FD 400 8 46 [rn0,rn1,rn4,rn5] (nthD [.psl .ins c false,envV v]) hp0 0 [] (fun T h i ms=>Ws i 6 (fits E2 (A0R c v) 6 T h ()))=(
  True/\∀(y:Int×Int),y=verF c->((Prod.snd y !=(0:Int))=true->False)/\((Prod.snd y !=(0:Int))=false->((Fn.func (50:Nat)=Fn.func
  (50:FuncId)/\True/\(0:Nat)=(0:Nat)/\(0:Nat)=(0:Nat)/\True)/\(0:Nat)=(0:Nat)/\(0:Nat)=(0:Nat)/\(0:Nat)=(0:Nat)/\
  (0:Nat)=(0:Nat)/\True)/\((c=c/\(false=true->false=true))/\True)/\(Env.has v=Env.has v/\Env.v0 v=Env.v0 v/\Env.v1 v=Env.v1 v/\Env.v2 v=Env.v2 v/\Env.v3
  v=Env.v3 v/\Env.v4 v=Env.v4 v/\Env.v5 v=Env.v5 v/\Env.v6 v=Env.v6 v/\Env.v7 v=Env.v7 v/\Env.v8 v=Env.v8 v/\Env.v9 v=Env.v9 v/\Env.v10 v=Env.v10 v/\Env.v11 v
  =Env.v11 v/\Env.v12 v=Env.v12 v/\Env.v13 v=Env.v13 v/\Env.v14 v=Env.v14 v/\Env.v15 v=Env.v15 v/\True)/\(Value.slice none (0:Nat) (0:Nat)=Value.slice none (0:
  Nat) (0:Nat)/\(0:Int)=(0:Int)/\(0:Int)=(0:Int)/\(0:Int)=(0:Int)/\(0:Int)=(0:Int)/\(0:Int)=(0:Int)/\(0:Int)=(0:Int)/\(0:Int)=(0:
  Int)/\(0:Int)=(0:Int)/\(0:Int)=(0:Int)/\(0:Int)=(0:Int)/\(0:Int)=(0:Int)/\(0:Int)=(0:Int)/\(0:Int)=(0:Int)/\(0:Int)=(0:Int)/\(0:
  Int)=(0:Int)/\(0:Int)=(0:Int)/\(0:Int)=(0:Int)/\(0:Int)=(0:Int)/\(0:Int)=(0:Int)/\Value.slice none (0:Nat) (0:Nat)=Value.slice none (0:Nat)
  (0:Nat)/\True)/\((c=c/\(false=true->false=true))/\Env.has v=Env.has v/\Env.v0 v=Env.v0 v/\Env.v1 v=Env.v1 v/\Env.v2 v=Env.v2 v/\Env.v3 v=Env.v3 v/\
  Env.v4 v=Env.v4 v/\Env.v5 v=Env.v5 v/\Env.v6 v=Env.v6 v/\Env.v7 v=Env.v7 v/\Env.v8 v=Env.v8 v/\Env.v9 v=Env.v9 v/\Env.v10 v=Env.v10 v/\Env.v11 v=Env.v11 v/\
  Env.v12 v=Env.v12 v/\Env.v13 v=Env.v13 v/\Env.v14 v=Env.v14 v/\Env.v15 v=Env.v15 v/\(0:Int)=(0:Int)/\(0:Int)=(0:Int)/\Value.slice none (0:Nat) (0:Nat)
  =Value.slice none (0:Nat) (0:Nat)/\True)/\((c=c/\(false=true->false=true))/\True)/\(Env.has v=Env.has v/\Env.v0 v=Env.v0 v/\Env.v1 v=Env.v1 v/\Env.v2 v=
  Env.v2 v/\Env.v3 v=Env.v3 v/\Env.v4 v=Env.v4 v/\Env.v5 v=Env.v5 v/\Env.v6 v=Env.v6 v/\Env.v7 v=Env.v7 v/\Env.v8 v=Env.v8 v/\Env.v9 v=Env.v9 v/\Env.v10 v=
  Env.v10 v/\Env.v11 v=Env.v11 v/\Env.v12 v=Env.v12 v/\Env.v13 v=Env.v13 v/\Env.v14 v=Env.v14 v/\Env.v15 v=Env.v15 v/\True)/\True)
  ):=by kernel_rfl
--@end
--@condg ent | (c : List Ins) (v : Env) (l : Nat) (s : St) | vcs FD 400 50 36 [it0, it1] (nthD [.val (.func (.yield l) #[] #[]), .ptr 4 0, .ptr 5 0]) (blOf (blE c v)) 6 [] (fun T h i ms => i ≤ 60 ∧ fits E2 (AHR c v false s 0 0 []) 7 (frOf frO) h () ∧ fitF ren7 T (frI l 0))
theorem Zwz (c:List Ins) (v:Env) (l:Nat) (s:St):vcs FD 400 50 36 [it0,it1] (nthD [.val (.func (.yield l) #[] #[]),.ptr 4 0,.ptr 5 0]) (blOf (blE c v)) 6 [] (fun T h i ms=>i<=60/\fits E2 (AHR c v false s 0 0 []) 7 (frOf frO) h ()/\fitF ren7 T (frI l 0))=(
  True/\∀(y:St×Int),y=Za4 (wr IntKind.i64 ((↑(List.length c):Int)+(1:Int)))->(7:Nat)<=(60:Nat)/\(((0:Nat)=(0:Nat)/\(0:Nat)=(0:Nat)/\(0:Nat)=
  (0:Nat)/\(0:Nat)=(0:Nat)/\True)/\((c=c/\(false=true->false=true))/\True)/\(Env.has v=Env.has v/\Env.v0 v=Env.v0 v/\Env.v1 v=Env.v1 v/\Env.v2 v=
  Env.v2 v/\Env.v3 v=Env.v3 v/\Env.v4 v=Env.v4 v/\Env.v5 v=Env.v5 v/\Env.v6 v=Env.v6 v/\Env.v7 v=Env.v7 v/\Env.v8 v=Env.v8 v/\Env.v9 v=Env.v9 v/\Env.v10 v=
  Env.v10 v/\Env.v11 v=Env.v11 v/\Env.v12 v=Env.v12 v/\Env.v13 v=Env.v13 v/\Env.v14 v=Env.v14 v/\Env.v15 v=Env.v15 v/\True)/\(Value.slice none (0:Nat) (0:Nat)=
  Value.slice none (0:Nat) (0:Nat)/\(0:Int)=(0:Int)/\(0:Int)=(0:Int)/\(0:Int)=(0:Int)/\(0:Int)=(0:Int)/\(0:Int)=(0:Int)/\(0:Int)=(0:Int)
  /\(0:Int)=(0:Int)/\(0:Int)=(0:Int)/\(0:Int)=(0:Int)/\(0:Int)=(0:Int)/\(0:Int)=(0:Int)/\(0:Int)=(0:Int)/\(0:Int)=(0:Int)/\(0:Int)
  =(0:Int)/\(0:Int)=(0:Int)/\(0:Int)=(0:Int)/\(0:Int)=(0:Int)/\(0:Int)=(0:Int)/\(0:Int)=(0:Int)/\Value.slice none (0:Nat) (0:Nat)=
  Value.slice none (0:Nat) (0:Nat)/\True)/\((c=c/\(false=true->false=true))/\Env.has v=Env.has v/\Env.v0 v=Env.v0 v/\Env.v1 v=Env.v1 v/\Env.v2 v=Env.v2 v/\
  Env.v3 v=Env.v3 v/\Env.v4 v=Env.v4 v/\Env.v5 v=Env.v5 v/\Env.v6 v=Env.v6 v/\Env.v7 v=Env.v7 v/\Env.v8 v=Env.v8 v/\Env.v9 v=Env.v9 v/\Env.v10 v=Env.v10 v/\
  Env.v11 v=Env.v11 v/\Env.v12 v=Env.v12 v/\Env.v13 v=Env.v13 v/\Env.v14 v=Env.v14 v/\Env.v15 v=Env.v15 v/\(0:Int)=(0:Int)/\(0:Int)=(0:Int)/\Value.slice
  none (0:Nat) (0:Nat)=Value.slice none (0:Nat) (0:Nat)/\True)/\((c=c/\(false=true->false=true))/\True)/\(Env.has v=Env.has v/\Env.v0 v=Env.v0 v/\Env.v1 v
  =Env.v1 v/\Env.v2 v=Env.v2 v/\Env.v3 v=Env.v3 v/\Env.v4 v=Env.v4 v/\Env.v5 v=Env.v5 v/\Env.v6 v=Env.v6 v/\Env.v7 v=Env.v7 v/\Env.v8 v=Env.v8 v/\Env.v9 v=
  Env.v9 v/\Env.v10 v=Env.v10 v/\Env.v11 v=Env.v11 v/\Env.v12 v=Env.v12 v/\Env.v13 v=Env.v13 v/\Env.v14 v=Env.v14 v/\Env.v15 v=Env.v15 v/\True)/\(St.pc (Prod.fst
  y)=St.pc s/\St.fuel (Prod.fst y)=St.fuel s/\St.status (Prod.fst y)=St.status s/\St.clause (Prod.fst y)=St.clause s/\(St.stack (Prod.fst y)=St.stack s/\(false=true
  ->false=true))/\True)/\True)/\Value.func (Fn.yield l) #[] #[]=Value.func (Fn.yield l) #[] #[]/\(0:Nat)=(0:Nat)/\(0:Nat)=(0:Nat)/\(0:Nat)=(0:Nat)/\
  Prod.snd y=(0:Int)/\(0:Int)=(↑(0:Nat):Int)/\True
  ):=by kernel_rfl
--@end
--@condg itf | (c : List Ins) (v : Env) (l k k' : Nat) (s s' : St) (a e : Int) (L : List (List Int)) (PN PE : Prop) (KR : Hp thy → Prop) | itC E2 cD itT o2p o2y o2s (frI l k) 46 (rfA rnF) (rfB rnF) [26, 27] frO [3, 6] l (blOf (blH c v false s 0 0 [])) (fun T h => PN ∧ fits E2 (AHR c v true s' a e L) 7 (frOf frO) h () ∧ fitF ren7 T (frI l k')) (fun h => PE ∧ fits E2 (AHR c v true s a e L) 7 (frOf frO) h ()) KR
theorem Zw0 (c:List Ins) (v:Env) (l k k':Nat) (s s':St) (a e:Int) (L:List (List Int)) (PN PE:Prop) (KR:Hp thy->Prop):itC E2 cD itT o2p o2y o2s (frI l k) 46 (rfA rnF) (rfB rnF) [26,27] frO [3,6] l (blOf (blH c v false s 0 0 [])) (fun T h=>PN/\fits E2 (AHR c v true s' a e L) 7 (frOf frO) h ()/\fitF ren7 T (frI l k')) (fun h=>PE/\fits E2 (AHR c v true s a e L) 7 (frOf frO) h ()) KR=(
  Value.func (Fn.yield l) #[] #[]=Value.func (Fn.yield l) #[] #[]/\(List.length c<=(1000000:Nat)/\List.length (St.stack s)<=(1000000:Nat))/\∀(y:List Int),y=Vk c
  v s->List.length (St.stack s)<=(1000000:Nat)/\∀(y_1:Int×Int×Int),y_1=Zt s->((St.status s==(0:Int))=true->True/\∀(y_2:St×Int),y_2=V7 c v s->
  PN/\(((0:Nat)=(0:Nat)/\(0:Nat)=(0:Nat)/\(0:Nat)=(0:Nat)/\(0:Nat)=(0:Nat)/\True)/\((c=c/\(false=true->false=true))/\True)/\(Env.has v=
  Env.has v/\Env.v0 v=Env.v0 v/\Env.v1 v=Env.v1 v/\Env.v2 v=Env.v2 v/\Env.v3 v=Env.v3 v/\Env.v4 v=Env.v4 v/\Env.v5 v=Env.v5 v/\Env.v6 v=Env.v6 v/\Env.v7 v=
  Env.v7 v/\Env.v8 v=Env.v8 v/\Env.v9 v=Env.v9 v/\Env.v10 v=Env.v10 v/\Env.v11 v=Env.v11 v/\Env.v12 v=Env.v12 v/\Env.v13 v=Env.v13 v/\Env.v14 v=Env.v14 v/\
  Env.v15 v=Env.v15 v/\True)/\(Value.slice none (0:Nat) (0:Nat)=Value.slice none (0:Nat) (0:Nat)/\(0:Int)=(0:Int)/\(0:Int)=(0:Int)/\(0:Int)=(0:Int)
  /\(0:Int)=(0:Int)/\(0:Int)=(0:Int)/\(0:Int)=(0:Int)/\(0:Int)=(0:Int)/\(0:Int)=(0:Int)/\(0:Int)=(0:Int)/\(0:Int)=(0:Int)/\(0:Int)
  =(0:Int)/\(0:Int)=(0:Int)/\(0:Int)=(0:Int)/\(0:Int)=(0:Int)/\(0:Int)=(0:Int)/\(0:Int)=(0:Int)/\(0:Int)=(0:Int)/\(0:Int)=(0:Int)
  /\(0:Int)=(0:Int)/\Value.slice none (0:Nat) (0:Nat)=Value.slice none (0:Nat) (0:Nat)/\True)/\((c=c/\(false=true->false=true))/\Env.has v=Env.has v/\
  Env.v0 v=Env.v0 v/\Env.v1 v=Env.v1 v/\Env.v2 v=Env.v2 v/\Env.v3 v=Env.v3 v/\Env.v4 v=Env.v4 v/\Env.v5 v=Env.v5 v/\Env.v6 v=Env.v6 v/\Env.v7 v=Env.v7 v/\
  Env.v8 v=Env.v8 v/\Env.v9 v=Env.v9 v/\Env.v10 v=Env.v10 v/\Env.v11 v=Env.v11 v/\Env.v12 v=Env.v12 v/\Env.v13 v=Env.v13 v/\Env.v14 v=Env.v14 v/\Env.v15 v=
  Env.v15 v/\Prod.fst y_1=a/\Prod.snd (Prod.snd y_1)=e/\((0:Nat)=(0:Nat)/\(1:Nat)=List.length L/\True)/\True)/\((c=c/\(false=true->false=true))/\True)/\
  (Env.has v=Env.has v/\Env.v0 v=Env.v0 v/\Env.v1 v=Env.v1 v/\Env.v2 v=Env.v2 v/\Env.v3 v=Env.v3 v/\Env.v4 v=Env.v4 v/\Env.v5 v=Env.v5 v/\Env.v6 v=Env.v6 v/\
  Env.v7 v=Env.v7 v/\Env.v8 v=Env.v8 v/\Env.v9 v=Env.v9 v/\Env.v10 v=Env.v10 v/\Env.v11 v=Env.v11 v/\Env.v12 v=Env.v12 v/\Env.v13 v=Env.v13 v/\Env.v14 v=
  Env.v14 v/\Env.v15 v=Env.v15 v/\True)/\(St.pc (Prod.fst y_2)=St.pc s'/\St.fuel (Prod.fst y_2)=St.fuel s'/\St.status (Prod.fst y_2)=St.status s'/\St.clause (Prod.fst
  y_2)=St.clause s'/\(St.stack (Prod.fst y_2)=St.stack s'/\(false=true->false=true))/\True)/\([[List.getD y (0:Nat) (0:Int),List.getD y (1:Nat) (0:Int),
  List.getD y (2:Nat) (0:Int),List.getD y (3:Nat) (0:Int),List.getD y (4:Nat) (0:Int),List.getD y (5:Nat) (0:Int),List.getD y (6:Nat) (0:Int),List.getD y (7
  :Nat) (0:Int),List.getD y (8:Nat) (0:Int),List.getD y (9:Nat) (0:Int),List.getD y (10:Nat) (0:Int),List.getD y (11:Nat) (0:Int),List.getD y (12:Nat) (0:
  Int),List.getD y (13:Nat) (0:Int),List.getD y (14:Nat) (0:Int),List.getD y (15:Nat) (0:Int),List.getD y (16:Nat) (0:Int),List.getD y (17:Nat) (0:Int),
  List.getD y (18:Nat) (0:Int),List.getD y (19:Nat) (0:Int),List.getD y (20:Nat) (0:Int),List.getD y (21:Nat) (0:Int),List.getD y (22:Nat) (0:Int),List.getD
  y (23:Nat) (0:Int),List.getD y (24:Nat) (0:Int),List.getD y (25:Nat) (0:Int),List.getD y (26:Nat) (0:Int),List.getD y (27:Nat) (0:Int),List.getD y (28:
  Nat) (0:Int),List.getD y (29:Nat) (0:Int),List.getD y (30:Nat) (0:Int),List.getD y (31:Nat) (0:Int)]]=L/\(0:Nat)=(0:Nat))/\True)/\Value.func (Fn.yield
  l) #[] #[]=Value.func (Fn.yield l) #[] #[]/\(0:Nat)=(0:Nat)/\(0:Nat)=(0:Nat)/\(0:Nat)=(0:Nat)/\Prod.snd y_2=(0:Int)/\wr IntKind.i64 ((↑k:Int)+(1:
  Int))=(↑k':Int)/\True)/\((St.status s==(0:Int))=false->PE/\((0:Nat)=(0:Nat)/\(0:Nat)=(0:Nat)/\(0:Nat)=(0:Nat)/\(0:Nat)=(0:Nat)/\True)/\
  ((c=c/\(false=true->false=true))/\True)/\(Env.has v=Env.has v/\Env.v0 v=Env.v0 v/\Env.v1 v=Env.v1 v/\Env.v2 v=Env.v2 v/\Env.v3 v=Env.v3 v/\Env.v4 v=
  Env.v4 v/\Env.v5 v=Env.v5 v/\Env.v6 v=Env.v6 v/\Env.v7 v=Env.v7 v/\Env.v8 v=Env.v8 v/\Env.v9 v=Env.v9 v/\Env.v10 v=Env.v10 v/\Env.v11 v=Env.v11 v/\Env.v12 v=
  Env.v12 v/\Env.v13 v=Env.v13 v/\Env.v14 v=Env.v14 v/\Env.v15 v=Env.v15 v/\True)/\(Value.slice none (0:Nat) (0:Nat)=Value.slice none (0:Nat) (0:Nat)/\(0:Int)
  =(0:Int)/\(0:Int)=(0:Int)/\(0:Int)=(0:Int)/\(0:Int)=(0:Int)/\(0:Int)=(0:Int)/\(0:Int)=(0:Int)/\(0:Int)=(0:Int)/\(0:Int)=(0:Int)
  /\(0:Int)=(0:Int)/\(0:Int)=(0:Int)/\(0:Int)=(0:Int)/\(0:Int)=(0:Int)/\(0:Int)=(0:Int)/\(0:Int)=(0:Int)/\(0:Int)=(0:Int)/\(0:Int)
  =(0:Int)/\(0:Int)=(0:Int)/\(0:Int)=(0:Int)/\(0:Int)=(0:Int)/\Value.slice none (0:Nat) (0:Nat)=Value.slice none (0:Nat) (0:Nat)/\True)/\((c=c
  /\(false=true->false=true))/\Env.has v=Env.has v/\Env.v0 v=Env.v0 v/\Env.v1 v=Env.v1 v/\Env.v2 v=Env.v2 v/\Env.v3 v=Env.v3 v/\Env.v4 v=Env.v4 v/\Env.v5 v=
  Env.v5 v/\Env.v6 v=Env.v6 v/\Env.v7 v=Env.v7 v/\Env.v8 v=Env.v8 v/\Env.v9 v=Env.v9 v/\Env.v10 v=Env.v10 v/\Env.v11 v=Env.v11 v/\Env.v12 v=Env.v12 v/\Env.v13 v
  =Env.v13 v/\Env.v14 v=Env.v14 v/\Env.v15 v=Env.v15 v/\Prod.fst y_1=a/\Prod.snd (Prod.snd y_1)=e/\((0:Nat)=(0:Nat)/\(1:Nat)=List.length L/\True)/\True)/\
  ((c=c/\(false=true->false=true))/\True)/\(Env.has v=Env.has v/\Env.v0 v=Env.v0 v/\Env.v1 v=Env.v1 v/\Env.v2 v=Env.v2 v/\Env.v3 v=Env.v3 v/\Env.v4 v=
  Env.v4 v/\Env.v5 v=Env.v5 v/\Env.v6 v=Env.v6 v/\Env.v7 v=Env.v7 v/\Env.v8 v=Env.v8 v/\Env.v9 v=Env.v9 v/\Env.v10 v=Env.v10 v/\Env.v11 v=Env.v11 v/\Env.v12 v=
  Env.v12 v/\Env.v13 v=Env.v13 v/\Env.v14 v=Env.v14 v/\Env.v15 v=Env.v15 v/\True)/\(St.pc s=St.pc s/\St.fuel s=St.fuel s/\St.status s=St.status s/\St.clause s=
  St.clause s/\(St.stack s=St.stack s/\(false=true->false=true))/\True)/\([[List.getD y (0:Nat) (0:Int),List.getD y (1:Nat) (0:Int),List.getD y (2:Nat) (0:
  Int),List.getD y (3:Nat) (0:Int),List.getD y (4:Nat) (0:Int),List.getD y (5:Nat) (0:Int),List.getD y (6:Nat) (0:Int),List.getD y (7:Nat) (0:Int),List.getD
  y (8:Nat) (0:Int),List.getD y (9:Nat) (0:Int),List.getD y (10:Nat) (0:Int),List.getD y (11:Nat) (0:Int),List.getD y (12:Nat) (0:Int),List.getD y (13:Nat)
  (0:Int),List.getD y (14:Nat) (0:Int),List.getD y (15:Nat) (0:Int),List.getD y (16:Nat) (0:Int),List.getD y (17:Nat) (0:Int),List.getD y (18:Nat) (0:Int),
  List.getD y (19:Nat) (0:Int),List.getD y (20:Nat) (0:Int),List.getD y (21:Nat) (0:Int),List.getD y (22:Nat) (0:Int),List.getD y (23:Nat) (0:Int),List.getD
  y (24:Nat) (0:Int),List.getD y (25:Nat) (0:Int),List.getD y (26:Nat) (0:Int),List.getD y (27:Nat) (0:Int),List.getD y (28:Nat) (0:Int),List.getD y (29:
  Nat) (0:Int),List.getD y (30:Nat) (0:Int),List.getD y (31:Nat) (0:Int)]]=L/\(0:Nat)=(0:Nat))/\True)
  ):=by kernel_rfl
--@end
--@condg itt | (c : List Ins) (v : Env) (l k k' : Nat) (s s' : St) (a e a' e' : Int) (L L' : List (List Int)) (PN PE : Prop) (KR : Hp thy → Prop) | itC E2 cD itT o2p o2y o2s (frI l k) 46 (rfA rnF) (rfB rnF) [26, 27] frO [3, 6] l (blOf (blH c v true s a e L)) (fun T h => PN ∧ fits E2 (AHR c v true s' a' e' L') 7 (frOf frO) h () ∧ fitF ren7 T (frI l k')) (fun h => PE ∧ fits E2 (AHR c v true s a' e' L') 7 (frOf frO) h ()) KR
theorem Zw1 (c:List Ins) (v:Env) (l k k':Nat) (s s':St) (a e a' e':Int) (L L':List (List Int)) (PN PE:Prop) (KR:Hp thy->Prop):itC E2 cD itT o2p o2y o2s (frI l k) 46 (rfA rnF) (rfB rnF) [26,27] frO [3,6] l (blOf (blH c v true s a e L)) (fun T h=>PN/\fits E2 (AHR c v true s' a' e' L') 7 (frOf frO) h ()/\fitF ren7 T (frI l k')) (fun h=>PE/\fits E2 (AHR c v true s a' e' L') 7 (frOf frO) h ()) KR=(
  Value.func (Fn.yield l) #[] #[]=Value.func (Fn.yield l) #[] #[]/\(List.length c<=(1000000:Nat)/\List.length (St.stack s)<=(1000000:Nat))/\∀(y:List Int),y=Vk c
  v s->(List.length L<=List.length L/\(0:Nat)<=List.length L/\(List.length L+(1:Nat))*(32:Nat)<=(140737488355328:Nat))/\List.length (St.stack s)<=(1000000:Nat)
  /\∀(y_1:Int×Int×Int),y_1=Zt s->((St.status s==(0:Int))=true->True/\∀(y_2:St×Int),y_2=V7 c v s->PN/\(((0:Nat)=(0:Nat)/\(0:Nat)=(0:
  Nat)/\(0:Nat)=(0:Nat)/\(0:Nat)=(0:Nat)/\True)/\((c=c/\(false=true->false=true))/\True)/\(Env.has v=Env.has v/\Env.v0 v=Env.v0 v/\Env.v1 v=Env.v1 v
  /\Env.v2 v=Env.v2 v/\Env.v3 v=Env.v3 v/\Env.v4 v=Env.v4 v/\Env.v5 v=Env.v5 v/\Env.v6 v=Env.v6 v/\Env.v7 v=Env.v7 v/\Env.v8 v=Env.v8 v/\Env.v9 v=Env.v9 v/\
  Env.v10 v=Env.v10 v/\Env.v11 v=Env.v11 v/\Env.v12 v=Env.v12 v/\Env.v13 v=Env.v13 v/\Env.v14 v=Env.v14 v/\Env.v15 v=Env.v15 v/\True)/\(Value.slice none (0:Nat)
  (0:Nat)=Value.slice none (0:Nat) (0:Nat)/\(0:Int)=(0:Int)/\(0:Int)=(0:Int)/\(0:Int)=(0:Int)/\(0:Int)=(0:Int)/\(0:Int)=(0:Int)/\(0:Int)
  =(0:Int)/\(0:Int)=(0:Int)/\(0:Int)=(0:Int)/\(0:Int)=(0:Int)/\(0:Int)=(0:Int)/\(0:Int)=(0:Int)/\(0:Int)=(0:Int)/\(0:Int)=(0:Int)
  /\(0:Int)=(0:Int)/\(0:Int)=(0:Int)/\(0:Int)=(0:Int)/\(0:Int)=(0:Int)/\(0:Int)=(0:Int)/\(0:Int)=(0:Int)/\Value.slice none (0:Nat) (0:
  Nat)=Value.slice none (0:Nat) (0:Nat)/\True)/\((c=c/\(false=true->false=true))/\Env.has v=Env.has v/\Env.v0 v=Env.v0 v/\Env.v1 v=Env.v1 v/\Env.v2 v=
  Env.v2 v/\Env.v3 v=Env.v3 v/\Env.v4 v=Env.v4 v/\Env.v5 v=Env.v5 v/\Env.v6 v=Env.v6 v/\Env.v7 v=Env.v7 v/\Env.v8 v=Env.v8 v/\Env.v9 v=Env.v9 v/\Env.v10 v=
  Env.v10 v/\Env.v11 v=Env.v11 v/\Env.v12 v=Env.v12 v/\Env.v13 v=Env.v13 v/\Env.v14 v=Env.v14 v/\Env.v15 v=Env.v15 v/\Prod.fst y_1=a'/\Prod.snd (Prod.snd y_1)=e'
  /\((0:Nat)=(0:Nat)/\List.length L+(1:Nat)=List.length L'/\True)/\True)/\((c=c/\(false=true->false=true))/\True)/\(Env.has v=Env.has v/\Env.v0 v=
  Env.v0 v/\Env.v1 v=Env.v1 v/\Env.v2 v=Env.v2 v/\Env.v3 v=Env.v3 v/\Env.v4 v=Env.v4 v/\Env.v5 v=Env.v5 v/\Env.v6 v=Env.v6 v/\Env.v7 v=Env.v7 v/\Env.v8 v=
  Env.v8 v/\Env.v9 v=Env.v9 v/\Env.v10 v=Env.v10 v/\Env.v11 v=Env.v11 v/\Env.v12 v=Env.v12 v/\Env.v13 v=Env.v13 v/\Env.v14 v=Env.v14 v/\Env.v15 v=Env.v15 v/\
  True)/\(St.pc (Prod.fst y_2)=St.pc s'/\St.fuel (Prod.fst y_2)=St.fuel s'/\St.status (Prod.fst y_2)=St.status s'/\St.clause (Prod.fst y_2)=St.clause s'/\(St.stack
  (Prod.fst y_2)=St.stack s'/\(false=true->false=true))/\True)/\(List.take (List.length L) L++ [[List.getD y (0:Nat) (0:Int),List.getD y (1:Nat) (0:Int),
  List.getD y (2:Nat) (0:Int),List.getD y (3:Nat) (0:Int),List.getD y (4:Nat) (0:Int),List.getD y (5:Nat) (0:Int),List.getD y (6:Nat) (0:Int),List.getD y (7
  :Nat) (0:Int),List.getD y (8:Nat) (0:Int),List.getD y (9:Nat) (0:Int),List.getD y (10:Nat) (0:Int),List.getD y (11:Nat) (0:Int),List.getD y (12:Nat) (0:
  Int),List.getD y (13:Nat) (0:Int),List.getD y (14:Nat) (0:Int),List.getD y (15:Nat) (0:Int),List.getD y (16:Nat) (0:Int),List.getD y (17:Nat) (0:Int),
  List.getD y (18:Nat) (0:Int),List.getD y (19:Nat) (0:Int),List.getD y (20:Nat) (0:Int),List.getD y (21:Nat) (0:Int),List.getD y (22:Nat) (0:Int),List.getD
  y (23:Nat) (0:Int),List.getD y (24:Nat) (0:Int),List.getD y (25:Nat) (0:Int),List.getD y (26:Nat) (0:Int),List.getD y (27:Nat) (0:Int),List.getD y (28:
  Nat) (0:Int),List.getD y (29:Nat) (0:Int),List.getD y (30:Nat) (0:Int),List.getD y (31:Nat) (0:Int)]]=L'/\(0:Nat)=(0:Nat))/\True)/\Value.func (Fn.yield
  l) #[] #[]=Value.func (Fn.yield l) #[] #[]/\(0:Nat)=(0:Nat)/\(0:Nat)=(0:Nat)/\(0:Nat)=(0:Nat)/\Prod.snd y_2=(0:Int)/\wr IntKind.i64 ((↑k:Int)+(1:
  Int))=(↑k':Int)/\True)/\((St.status s==(0:Int))=false->PE/\((0:Nat)=(0:Nat)/\(0:Nat)=(0:Nat)/\(0:Nat)=(0:Nat)/\(0:Nat)=(0:Nat)/\True)/\
  ((c=c/\(false=true->false=true))/\True)/\(Env.has v=Env.has v/\Env.v0 v=Env.v0 v/\Env.v1 v=Env.v1 v/\Env.v2 v=Env.v2 v/\Env.v3 v=Env.v3 v/\Env.v4 v=
  Env.v4 v/\Env.v5 v=Env.v5 v/\Env.v6 v=Env.v6 v/\Env.v7 v=Env.v7 v/\Env.v8 v=Env.v8 v/\Env.v9 v=Env.v9 v/\Env.v10 v=Env.v10 v/\Env.v11 v=Env.v11 v/\Env.v12 v=
  Env.v12 v/\Env.v13 v=Env.v13 v/\Env.v14 v=Env.v14 v/\Env.v15 v=Env.v15 v/\True)/\(Value.slice none (0:Nat) (0:Nat)=Value.slice none (0:Nat) (0:Nat)/\(0:Int)
  =(0:Int)/\(0:Int)=(0:Int)/\(0:Int)=(0:Int)/\(0:Int)=(0:Int)/\(0:Int)=(0:Int)/\(0:Int)=(0:Int)/\(0:Int)=(0:Int)/\(0:Int)=(0:Int)
  /\(0:Int)=(0:Int)/\(0:Int)=(0:Int)/\(0:Int)=(0:Int)/\(0:Int)=(0:Int)/\(0:Int)=(0:Int)/\(0:Int)=(0:Int)/\(0:Int)=(0:Int)/\(0:Int)
  =(0:Int)/\(0:Int)=(0:Int)/\(0:Int)=(0:Int)/\(0:Int)=(0:Int)/\Value.slice none (0:Nat) (0:Nat)=Value.slice none (0:Nat) (0:Nat)/\True)/\((c=c
  /\(false=true->false=true))/\Env.has v=Env.has v/\Env.v0 v=Env.v0 v/\Env.v1 v=Env.v1 v/\Env.v2 v=Env.v2 v/\Env.v3 v=Env.v3 v/\Env.v4 v=Env.v4 v/\Env.v5 v=
  Env.v5 v/\Env.v6 v=Env.v6 v/\Env.v7 v=Env.v7 v/\Env.v8 v=Env.v8 v/\Env.v9 v=Env.v9 v/\Env.v10 v=Env.v10 v/\Env.v11 v=Env.v11 v/\Env.v12 v=Env.v12 v/\Env.v13 v
  =Env.v13 v/\Env.v14 v=Env.v14 v/\Env.v15 v=Env.v15 v/\Prod.fst y_1=a'/\Prod.snd (Prod.snd y_1)=e'/\((0:Nat)=(0:Nat)/\List.length L+(1:Nat)=List.length L'
  /\True)/\True)/\((c=c/\(false=true->false=true))/\True)/\(Env.has v=Env.has v/\Env.v0 v=Env.v0 v/\Env.v1 v=Env.v1 v/\Env.v2 v=Env.v2 v/\Env.v3 v=Env.v3 v
  /\Env.v4 v=Env.v4 v/\Env.v5 v=Env.v5 v/\Env.v6 v=Env.v6 v/\Env.v7 v=Env.v7 v/\Env.v8 v=Env.v8 v/\Env.v9 v=Env.v9 v/\Env.v10 v=Env.v10 v/\Env.v11 v=Env.v11 v
  /\Env.v12 v=Env.v12 v/\Env.v13 v=Env.v13 v/\Env.v14 v=Env.v14 v/\Env.v15 v=Env.v15 v/\True)/\(St.pc s=St.pc s/\St.fuel s=St.fuel s/\St.status s=St.status s/\
  St.clause s=St.clause s/\(St.stack s=St.stack s/\(false=true->false=true))/\True)/\(List.take (List.length L) L++ [[List.getD y (0:Nat) (0:Int),List.getD y (1:
  Nat) (0:Int),List.getD y (2:Nat) (0:Int),List.getD y (3:Nat) (0:Int),List.getD y (4:Nat) (0:Int),List.getD y (5:Nat) (0:Int),List.getD y (6:Nat) (0:Int),
  List.getD y (7:Nat) (0:Int),List.getD y (8:Nat) (0:Int),List.getD y (9:Nat) (0:Int),List.getD y (10:Nat) (0:Int),List.getD y (11:Nat) (0:Int),List.getD y
  (12:Nat) (0:Int),List.getD y (13:Nat) (0:Int),List.getD y (14:Nat) (0:Int),List.getD y (15:Nat) (0:Int),List.getD y (16:Nat) (0:Int),List.getD y (17:Nat)
  (0:Int),List.getD y (18:Nat) (0:Int),List.getD y (19:Nat) (0:Int),List.getD y (20:Nat) (0:Int),List.getD y (21:Nat) (0:Int),List.getD y (22:Nat) (0:Int),
  List.getD y (23:Nat) (0:Int),List.getD y (24:Nat) (0:Int),List.getD y (25:Nat) (0:Int),List.getD y (26:Nat) (0:Int),List.getD y (27:Nat) (0:Int),List.getD
  y (28:Nat) (0:Int),List.getD y (29:Nat) (0:Int),List.getD y (30:Nat) (0:Int),List.getD y (31:Nat) (0:Int)]]=L'/\(0:Nat)=(0:Nat))/\True)
  ):=by kernel_rfl
--@end
theorem n32x (y:List Int):n32 y= [List.getD y 0 0,List.getD y 1 0,List.getD y 2 0,List.getD y 3 0,List.getD y 4 0,List.getD y 5 0,List.getD y 6 0,List.getD y 7 0,List.getD y 8 0,List.getD y 9 0,List.getD y 10 0,List.getD y 11 0,List.getD y 12 0,List.getD y 13 0,List.getD y 14 0,List.getD y 15 0,List.getD y 16 0,List.getD y 17 0,List.getD y 18 0,List.getD y 19 0,List.getD y 20 0,List.getD y 21 0,List.getD y 22 0,List.getD y 23 0,List.getD y 24 0,List.getD y 25 0,List.getD y 26 0,List.getD y 27 0,List.getD y 28 0,List.getD y 29 0,List.getD y 30 0,List.getD y 31 0]:=rfl
theorem Zcx (c:List Ins) (v:Env) (k:Nat):lvL c v (k+1)=lvL c v k++ [n32 (Vk c v (dsk c v k))]:=by simp [lvL,List.range_succ]
theorem Zbw (c:List Ins) (v:Env) (k:Nat):(lvL c v k).length=k:=by simp [lvL]
def Z26 (c:List Ins) (v:Env):Nat->Hp thy->Prop
  |0,h=>h=blOf (blH c v false (dsk c v 0) 0 0 [])
  |k+1,h=>h=blOf (blH c v true (dsk c v (k+1)) (Zt (dsk c v k)).1 (Zt (dsk c v k)).2.2 (lvL c v (k+1)))
def KNr (c:List Ins) (v:Env) (l k:Nat) (T:Fr thy) (h:Hp thy):Prop:=k+1<=dM c v/\fits E2 (AHR c v true (dsk c v (k+1)) (Zt (dsk c v k)).1 (Zt (dsk c v k)).2.2 (lvL c v (k+1))) 7 (frOf frO) h ()/\fitF ren7 T (frI l (k+1))
def KEr (c:List Ins) (v:Env) (k:Nat) (h:Hp thy):Prop:=k=dM c v/\fits E2 (AHR c v true (dsk c v k) (Zt (dsk c v k)).1 (Zt (dsk c v k)).2.2 (lvL c v (k+1))) 7 (frOf frO) h ()
theorem Zk1 (c:List Ins) (v:Env) (b:Bool) (s:St) (a e:Int) (L:List (List Int)):DomLt (blOf (blH c v b s a e L)) 8:=by
  intro j hj
  obtain ⟨x,hx⟩:=Option.ne_none_iff_exists'.1 hj
  have:=Wn hx
  cases b<;>simp [blH] at this<;>omega
theorem Z02 {c:List Ins} {v:Env} (hv:(verF c).2=0) (hcl:c.length<=4096) (l k:Nat) (hk:k<=dM c v) (h:Hp thy) (hh:Z26 c v k h):
    DomLt h 8/\itC E2 cD itT o2p o2y o2s (frI l k) 46 (rfA rnF) (rfB rnF) [26,27] frO [3,6] l h (KNr c v l k) (KEr c v k) (fun _=>False):=by
  obtain ⟨d1,d2,d3,d4⟩:=Zg5 (v:=v) hv
  have hst:=d3 k hk
  have hw:wr .i64 ((k:Int)+1)=((k+1:Nat):Int):=(wr64 (by omega) (by omega)).trans (by omega)
  have hrun:((dsk c v k).status==0)=true->k+1<=dM c v:=fun q=>by
    rcases Nat.lt_or_ge k (dM c v) with h|h
    · exact h
    · obtain rfl:k=dM c v:=by omega
      exact absurd (by simpa using q) d2
  have hend:((dsk c v k).status==0)=false->k=dM c v:=fun q=>by
    rcases Nat.lt_or_ge k (dM c v) with h|h
    · rw [(d4 k h).1] at q;cases q
    · omega
  cases k with
  |zero=>
    have hh:h=_:=hh
    subst hh
    refine ⟨Zk1 _ _ _ _ _ _ _,(Zw0 c v l 0 1 (dsk c v 0) (dsk c v 1) (Zt (dsk c v 0)).1 (Zt (dsk c v 0)).2.2 (lvL c v 1) (0+1<=dM c v) (0=dM c v) (fun _=>False)).mpr ⟨rfl,⟨by omega,by omega⟩,fun y hy=>⟨by omega,fun y1 hy1=>⟨fun q=>⟨trivial,fun y2 hy2=>⟨hrun q,?_⟩⟩,fun q=>⟨hend q,?_⟩⟩⟩⟩⟩
    · rw [(d4 0 (hrun q)).2.1] at hy2
      subst hy hy1 hy2
      simp [Zcx,n32x,lvL]
      exact wr64 (by decide) (by decide)
    · subst hy hy1
      simp [Zcx,n32x,lvL]
  |succ k=>
    have hh:h=_:=hh
    subst hh
    have hl:=Zbw c v (k+1)
    have hl2:=Zbw c v (k+1+1)
    refine ⟨Zk1 _ _ _ _ _ _ _,(Zw1 c v l (k+1) (k+1+1) (dsk c v (k+1)) (dsk c v (k+1+1)) (Zt (dsk c v k)).1 (Zt (dsk c v k)).2.2 (Zt (dsk c v (k+1))).1 (Zt (dsk c v (k+1))).2.2 (lvL c v (k+1)) (lvL c v (k+1+1)) (k+1+1<=dM c v) (k+1=dM c v) (fun _=>False)).mpr ⟨rfl,⟨by omega,by omega⟩,fun y hy=>⟨⟨Nat.le_refl _,Nat.zero_le _,by rw [hl];omega⟩,by omega,fun y1 hy1=>⟨fun q=>⟨trivial,fun y2 hy2=>⟨hrun q,?_⟩⟩,fun q=>⟨hend q,?_⟩⟩⟩⟩⟩
    · rw [(d4 (k+1) (hrun q)).2.1] at hy2
      subst hy hy1 hy2
      have e:lvL c v (k+1+1)=lvL c v (k+1)++ [n32 (Vk c v (dsk c v (k+1)))]:=Zcx c v (k+1)
      rw [List.take_length,hl,hl2,e,n32x]
      simp
      exact wr64 (by omega) (by omega)
    · subst hy hy1
      have e:lvL c v (k+1+1)=lvL c v (k+1)++ [n32 (Vk c v (dsk c v (k+1)))]:=Zcx c v (k+1)
      rw [List.take_length,hl,hl2,e,n32x]
      simp
end
section
open Go.RowKit
section
variable {Y:Thy} {E:Eng Y}
theorem Zqf {P:Program} {f:FuncId} {fn:Func} (hfn:P.funcs[f]? =some fn) (hnm:(fn.name== "runtime.NumGoroutine")=false) (hbn:fn.body.isNone=false) (args:Array Value) (w:World):(callFunc f args).run P w= .ok (.enter f args) w:=by
 simp only [callFunc,program,Sem.run,Sem.run_bind,Sem.run_pure,Result.andThen_ok,hfn,hnm,hbn,Bool.false_eq_true,if_false]
def seqs:List Code->Code->Code
 | [],c=>c
 |x::xs,c=> .seq x (seqs xs c)
theorem Zbc {n:Nat} {P:Program} {c:Code} {Q:Exit->Act->World->Prop}:∀(cs:List Code) {a:Act} {w:World},cs.foldr (fun c k a w=>c.wp P (Exit.then k fun _ _ _=>False) a w) (fun a w=>c.wpIn Fence.wide n P Q a w) a w->(seqs cs c).wpIn Fence.wide n P Q a w
 | [],a,w,h=>h
 |x::xs,a,w,h=>by
  refine wpIn_seq (wpIn_wide.2 (wp_mono h fun e a w he=> ?_))
  cases e with
  |normal=>exact Zbc xs he
  |_=>exact he.elim
def Zx3 (E:Eng Y) (N:Nat) (cs:List Code) (V:Zd8 Y):Prop:=∀(T:Fr Y) (h:Hp Y) (i:Nat) (ms:List Nat) (K:Fr Y->Hp Y->Nat->List Nat->Prop),DomLt h i->V T h i ms K->
 ∃T' h' i' ms',K T' h' i' ms'/\i<=i'/\Dom h i h' i'/\(∃m,ms'=m++ms/\Yc h i i' m)/\
  ∀(B:Nat) (σ:Pl) (g:GH) (w:World) (a:Act) (Q:Act->World->Prop),Inv E B σ h g w->B<=w.heap.size->(∀b,i<=b->b<i'->σ b=none)->FrOk E σ g T a->a.tmps.size=N->
   (∀a' w',Aft E B N i i' ms' σ g w a.defers T' h' a' w'->Q a' w')->cs.foldr (fun c k a w=>c.wp E.P (Exit.then k fun _ _ _=>False) a w) Q a w
def finX (E:Eng Y) (rs:List ResultVar) (v:SV Y) (T:Fr Y) (h:Hp Y):Prop:=resN E T h rs (match Wi E T h rs with|some vs=>ret E h (Uk vs) v|none=>False)
def EndR (E:Eng Y) (B:Nat) (v:SV Y) (g0:GH) (w0:World) (en:Ending) (w':World):Prop:=
 ∃u,en= .returned u/\∃σ g h v',Inv E B σ h g w'/\Bel B g0 w0 g w'/\Den E σ g v' u/\ret E h v' v
theorem EndR.pure (hE:EngOk E) {v:SV Y} {g:GH} {w:World} {en:Ending} {w':World} (h:EndR E w.heap.size v g w en w'):∃u,en= .returned u/\∃g',Stp 0 0 [] σ0 g w σ0 g' w'/\Inv E w.heap.size σ0 hp0 g' w'/\Den E σ0 g' v u:=by
 obtain ⟨u,he,σ,g',h',v',hI',hB,hd,hr⟩:=h
 have hle:=Zg0 (n:=w.heap.size) hI'
 refine ⟨u,he,allG g' w.heap.size w',⟨.refl _,fun b p h=> .inl h,hB.gle.trans hle,fun q o v hv=> ?_,fun q es hv=> ?_,fun q hq _=>hB.heap q hq,hB.size,hB.os,hB.tape,hB.output,(fun b q z h1 h2=>by cases h2)⟩,Zm5 hI',?_⟩
 · have hv:(if w.heap.size<=q then w'.cell? ⟨q,o,none⟩ else g'.cell q o)=some v:=hv
   split at hv
   · exact .inr (.inl ‹_›)
   · rcases hB.gcnew q o v hv with h1|h1
     · exact .inl h1
     · exact .inr (.inl h1)
 · have hv:(if w.heap.size<=q then (match w'.heap[q]? with|some (.map es _)=>some es|_=>none) else g'.obj q)=some es:=hv
   split at hv
   · exact .inr ‹_›
   · rcases hB.gmnew q es hv with h1|h1
     · exact .inl h1
     · exact .inr h1
 · exact Zsz hE hI' (Nat.le_refl _) hr hd
theorem Zn1 (hE:EngOk E) {fn:Func} {n B D:Nat} {v:SV Y} {g0:GH} {w0:World} {σ:Pl} {g:GH} {h:Hp Y} {T:Fr Y} {a:Act} {W:World} (hI:Inv E B σ h g W) (hb:Bel B g0 w0 g W) (hF:FrOk E σ g T a) (hK:finX E fn.results.toList v T h) (hBD:B<=D) (hD:W.heap[D]? =some (.deferred (some []))) (hd:a.defers= [{target:= .collected D,args:= #[]}]):
 bodyPostM Fence.wide n E.P fn (EndR E B v g0 w0) .ret a W:=by
 show LeavesInM Fence.wide n E.P fn a.tmps (EndR E B v g0 w0) a.defers .returning W
 rw [hd]
 unfold finX at hK
 obtain ⟨hrl,hK⟩:=Zbu hK
 split at hK
 · rename_i vs hvs
   have hI2:Inv E B σ h g (W.putObj D (.deferred none)):=Xj hI hD rfl (fun es c e=>by cases e) _
   obtain ⟨u,hu,hdu⟩:=Zec hE hI2 hF hrl hvs
   exact ⟨(by intro e;cases e),.inl ⟨D,_,rfl,run_takeDeferred hD,u,hu,u,rfl,σ,g,h,_,hI2,hb.trans (Bel.put g W hBD _),hdu,hK⟩⟩
 · exact hK.elim
theorem Zu6 (hE:EngOk E) {fn:Func} {p9:Code} {V9:Zd8 Y} (hV9:Zx3 E fn.ntmps [p9] V9) {n B D:Nat} {v:SV Y} {g0:GH} {w0:World} {σ:Pl} {g:GH} {h:Hp Y} {T:Fr Y} {a:Act} {W:World} (hdom:DomLt h 60) (hc:V9 T h 60 [] fun T h i ms=>finX E fn.results.toList v T h)
 (hI:Inv E B σ h g W) (hb:Bel B g0 w0 g W) (hBW:B<=W.heap.size) (hF:FrOk E σ g T a) (hz:a.tmps.size=fn.ntmps) (hfree:∀b,60<=b->σ b=none) (hBD:B<=D) (hD:W.heap[D]? =some (.deferred (some []))) (hd:a.defers= [{target:= .collected D,args:= #[]}]):
 (Code.seq p9 .ret).wpIn Fence.wide n E.P (bodyPostM Fence.wide n E.P fn (EndR E B v g0 w0)) a W:=by
 obtain ⟨T',h',i',ms',hK,hi,hDo,⟨m,rfl,hM⟩,t⟩:=hV9 T h 60 [] _ hdom hc
 refine Zbc [p9] (t B σ g W a _ hI hBW (fun b q1 _=>hfree b q1) hF hz ?_)
 rintro a' w' ⟨d1,z1,σ1,g1,hS,hI1,hF1⟩
 have hnn:=Zhx hI hD rfl (fun es c e=>by cases e)
 refine wpIn_ret (Zn1 hE hI1 (hb.trans (Bel.stp hS hI hBW)) hF1 hK hBD ?_ (d1.trans hd))
 refine (hS.heap D (Array.getElem?_eq_some_iff.1 hD).1 fun b hbm z hs=> ?_).trans hD
 rcases hM b (by simpa using hbm) with q|q
 · exact hnn (.inr (.inr ⟨b,z,q,hs⟩))
 · rw [hfree b q.1] at hs;cases hs
theorem Zu7 {n:Nat} {P:Program} {x y z:Code} {Q:Exit->Act->World->Prop} (cs:List Code) {a:Act} {w:World} (h:(cs++ [x]).foldr (fun c k a w=>c.wp P (Exit.then k fun _ _ _=>False) a w) (fun a w=>y.wpIn Fence.wide n P (Exit.then (fun a w=>z.wpIn Fence.wide n P Q a w) Q) a w) a w):(seqs cs (.seq (.seq x y) z)).wpIn Fence.wide n P Q a w:=by
 refine Zbc cs ?_
 rw [List.foldr_append] at h
 have e:∀a w,List.foldr (fun c k a w=>c.wp P (Exit.then k fun _ _ _=>False) a w) (fun a w=>y.wpIn Fence.wide n P (Exit.then (fun a w=>z.wpIn Fence.wide n P Q a w) Q) a w) [x] a w->(Code.seq (.seq x y) z).wpIn Fence.wide n P Q a w:=fun a w h=>wpIn_seq (Zbc [x] h)
 induction cs generalizing a w with
 |nil=>exact e a w h
 |cons c cs ih=>
  refine wp_mono h fun e a w he=> ?_
  cases e with
  |normal=>exact ih he
  |_=>exact he.elim
theorem Zhm (hE:EngOk E) {f:FuncId} {fn:Func} (hf:E.P.funcs[f]? =some fn) {cs:List Code} {x y z:Code} (hb:fn.body=some (seqs cs (.seq (.seq x y) z))) {V:Zd8 Y} (hV:Zx3 E fn.ntmps (cs++ [x]) V) {args:List (SV Y)} (hle:args.length<=fn.ntmps) {v:SV Y} {K:Fr Y->Hp Y->Nat->Prop}
 (hc:V (nthD args) hp0 0 [] fun T h i ms=>K T h i)
 (hrest:∀T h i,K T h i->∀(g0:GH) (w0:World) (σ:Pl) (g:GH) (W:World) (a:Act),Inv E w0.heap.size σ h g W->Bel w0.heap.size g0 w0 g W->w0.heap.size<=W.heap.size->FrOk E σ g T a->a.tmps.size=fn.ntmps->a.defers= []->(∀b,i<=b->σ b=none)->
  y.wpIn Fence.wide 1 E.P (Exit.then (fun a w=>z.wpIn Fence.wide 1 E.P (bodyPostM Fence.wide 1 E.P fn (EndR E w0.heap.size v g0 w0)) a w) (bodyPostM Fence.wide 1 E.P fn (EndR E w0.heap.size v g0 w0))) a W):PureC E f args v:=by
 intro g w vals hI hd
 obtain ⟨T',h',i',ms',hK,hi,hDo,⟨m,rfl,hM⟩,t⟩:=hV _ hp0 0 [] _ (fun b hb=>absurd rfl hb) hc
 have hcall:CallsIn Fence.wide 1 E.P f vals w (EndR E w.heap.size v g w):=by
  refine callsIn_of_wp_marks hf hb trivial (Zu7 cs (t w.heap.size σ0 g w _ _ hI (Nat.le_refl _) (fun _ _ _=>rfl) (Xd hd hle) (Xe hd hle) ?_))
  rintro a1 w1 ⟨d1,z1,σ1,g1,hS,hI1,hF1⟩
  refine hrest T' h' i' hK g w σ1 g1 w1 a1 hI1 (Bel.stp hS hI (Nat.le_refl _)) hS.size hF1 z1 d1 fun b hb=> ?_
  cases hq:σ1 b with
  |none=>rfl
  |some p=>
   rcases hS.snew b p hq with q|q
   · cases q
   · omega
 exact (callsIn_wide.1 hcall).mono fun en w' h=>h.pure hE
theorem Z3v {α:Type} {T:Nat->α} {d:Nat} {v:α}:upd T d v d=v:=by
 have hb:Nat.beq d d=true:=Nat.beq_refl d
 unfold upd
 rw [hb]
theorem Zu8 {α:Type} {T:Nat->α} {d s:Nat} {v:α} (h:s≠d):upd T d v s=T s:=by
 have hb:Nat.beq s d=false:=by
  cases q:Nat.beq s d with
  |false=>rfl
  |true=>exact absurd (gC9 q) h
 unfold upd
 rw [hb]
theorem Zjk {s:Nat}:∀{l:List (Nat×SV Y)},s∉l.map (·.1)->frOf l s= .unk
 | [],_=>rfl
 |(t,v)::r,h=>by
  have h1:s≠t:=fun e=>h (by simp [e])
  have h2:s∉r.map (·.1):=fun e=>h (by simp at e⊢;exact .inr e)
  show upd (frOf r) t v s=_
  rw [Zu8 h1,Zjk h2]
theorem Zfs (hE:EngOk E) {cD:Zs2 Y} (Xo:∀(o:Oper) T h i k,DomLt h i->step E cD o.op T h i k->∃r,k r/\OpTri2 E o T h i r) {V0 VT:Zd8 Y} {it0 it1 it4 it3:Code} (hV0:Zd9 E 36 it0 it1 V0) (hVT:Zd9 E 36 it4 it3 VT) {o2p o2s:List Oper} {o2y:Oper} {ts:Array TypeId}
 (U2:o2y.op= .call {callee:= .value (.tmp 17),args:= #[.tmp 18,.tmp 19],argTypes:=ts}) (U3:o2y.guard=some (2,true)) (Wu:o2y.dst=some 20) (Zev:((o2p++o2y::o2s).toArray[2]?).bind (·.dst)=some 16)
 {gf:FuncId} {fI:Func} (hfI0:E.P.funcs[gf]? =some fI) (hbody:fI.body=some (.seq it0 (.seq it1 (.block 0 (.loop (.seq (.seq (.region 2 (o2p++o2y::o2s).toArray false) (.cond (.tmp 26) .skip (.exit 0))) (.seq it4 it3))))))) (hnt:fI.ntmps=36) (hres:fI.results= #[]) (eg:∀args w,(callFunc gf args).run E.P w= .ok (.enter gf args) w)
 {fr:Nat->Nat->List (Nat×SV Y)} (hfI:∀l k,frOf (fr l k) 6= .int false .i64 (k:Int)) {assign body:Code} {p1 p2:Tmp} {A0:Ann Y} {x0:A0.X} (hA0:A0.ih=6/\A0.M=6) {frOut:List (Nat×SV Y)} {md:List Nat} {m:Nat} {K0:Nat->Fr Y->Hp Y->Prop} {KN:Nat->Nat->Fr Y->Hp Y->Prop} {KE KR:Nat->Hp Y->Prop}
 {f:FuncId} {fn:Func} (hf:E.P.funcs[f]? =some fn) {cs:List Code} {p5 p9:Code} {gs b1 b2:Nat} (hb:fn.body=some (seqs cs (.seq (.seq p5 (.block 0 (.rangeFunc (.tmp gs) #[p1,p2] assign body))) (.seq p9 .ret)))) (hp1:p1<fn.ntmps) (hp2:p2<fn.ntmps)
 {V V9:Zd8 Y} (hV:Zx3 E fn.ntmps (cs++ [p5]) V) (hV9:Zx3 E fn.ntmps [p9] V9) {args:List (SV Y)} (hle:args.length<=fn.ntmps) {v:SV Y}
 (hc:V (nthD args) hp0 0 [] fun T h i ms=>Ws i 6 (fits E A0 6 T h x0)) (hfr0:A0.fr x0=(gs,.fn (.func gf) [] [.ptr b1 0,.ptr b2 0])::frOut) (hgs:gs∉frOut.map (·.1))
 {headP:Nat->Hp Y->Prop} (hit:∀l k,k<=m->∀h,headP k h->DomLt h 8/\itC E cD VT o2p o2y o2s (fr l k) fn.ntmps assign body [p1,p2] frOut md l h (KN l k) (KE k) (KR k))
 (hdom0:DomLt (blOf (A0.bl x0)) 6) (hent:∀l,V0 (nthD [.val (.func (.yield l) #[] #[]),.ptr b1 0,.ptr b2 0]) (blOf (A0.bl x0)) 6 [] fun T h i ms=>i<=60/\K0 l T h)
 (hK0:∀a l T h,K0 l T h->∀(B:Nat) (σ:Pl) (g:GH) (W:World) (ai:Act),Inv E B σ h g W->FrOk E σ g T ai->FrOk E σ g (frOf frOut) a->∃σ' h',headP 0 h'/\StpL 7 60 md σ g W σ' g W/\Inv E B σ' h' g W/\FrOk E σ' g (frOf frOut) a/\FrOk E σ' g (frOf (fr l 0)) ai/\∀b,8<=b->b<60->σ' b=none)
 (hKN:∀a l k T h,k<=m->KN l k T h->k+1<=m/\∀(B:Nat) (σ:Pl) (g:GH) (W:World) (ai:Act),Inv E B σ h g W->FrOk E σ g T ai->FrOk E σ g (frOf frOut) a->∃σ' h',headP (k+1) h'/\StpL 7 60 md σ g W σ' g W/\Inv E B σ' h' g W/\FrOk E σ' g (frOf frOut) a/\FrOk E σ' g (frOf (fr l (k+1))) ai/\∀b,8<=b->b<60->σ' b=none)
 (hEnd:∀k h,k<=m->KE k h->∀(B:Nat) (σ:Pl) (g:GH) (W:World) (a:Act),Inv E B σ h g W->FrOk E σ g (frOf frOut) a->(∀b,60<=b->σ b=none)->∃σ' h',DomLt h' 60/\V9 (frOf frOut) h' 60 [] (fun T h i ms=>finX E fn.results.toList v T h)/\Inv E B σ' h' g W/\FrOk E σ' g (frOf frOut) a/\∀b,60<=b->σ' b=none)
 (hRet:∀k h,k<=m->KR k h->finX E fn.results.toList v (frOf frOut) h):PureC E f args v:=by
 refine Zhm hE hf hb hV hle hc ?_
 rintro T h i hs g0 w0 σ g W a hI hbel hBW hF hz hd hfree
 obtain ⟨rfl,hfit⟩:=Y2 hs
 obtain ⟨σ1,q2,q3,q4,q6⟩:=Zc9 hE (A:=A0) (x:=x0) (by rw [hA0.1];exact Nat.le_refl 6) (by rw [hA0.1,hA0.2];exact Nat.le_refl 6) hfit hI hF
 rw [hA0.2] at q2
 rw [hfr0] at q4
 have hfree1:∀b,6<=b->σ1 b=none:=fun b hb=>(q2.out b (.inr hb)).trans (hfree b hb)
 have hFo:FrOk E σ1 g (frOf frOut) a:=fun t=>by
  by_cases c:t=gs
  · subst c
    have e:frOf frOut t= .unk:=Zjk hgs
    rw [e];exact .unk _
  · have:=q4 t
    have e:frOf ((gs,.fn (.func gf) [] [.ptr b1 0,.ptr b2 0])::frOut) t=frOf frOut t:=by
     exact Zu8 c
    rwa [e] at this
 have hT:frOf ((gs,.fn (.func gf) [] [.ptr b1 0,.ptr b2 0])::frOut) gs= .fn (.func gf) [] [.ptr b1 0,.ptr b2 0]:=Z3v
 refine wpIn_wide.2 (wpIn_wide.1 (wpIn_block (n:=1) (Zxn hE Xo hV0 hVT U2 U3 Wu Zev hfI0 hbody hnt hres eg hfI hp1 hp2 hit hdom0 hent hT q3 hBW hbel hfree1 q4 hFo hz (fun l T h hk=>hK0 a l T h hk _) (fun l k T h hk hkn=>⟨(hKN a l k T h hk hkn).1,(hKN a l k T h hk hkn).2⟩) 1 _ ?_ ?_ ?_)))
 · rintro ⟨a,w,h⟩
   obtain ⟨u,hu,_⟩:=h
   cases hu
 · intro D W' k σ' g' h' hBD hk hke hI' hb' hB' hF' hfr' hD
   obtain ⟨σ2,h2,r1,r2,r3,r4,r5⟩:=hEnd k h' hk hke _ _ _ _ _ hI' hF' hfr'
   show (Code.seq p9 .ret).wpIn Fence.wide 1 E.P _ _ W'
   exact Zu6 hE hV9 r1 r2 r3 hb' hB' r4 hz r5 hBD hD (by rw [hd])
 · intro D W' k σ' g' h' hBD hk hkr hI' hb' hB' hF' hfr' hD
   show bodyPostM Fence.wide 1 E.P fn _ .ret _ W'
   exact Zn1 hE hI' hb' hF' (hRet k h' hk hkr) hBD hD (by rw [hd])
end
end
section
open Go Go.RowKit
def rsR:List ResultVar:=Tryz.f8.results.toList
def drV (c:List Ins) (v:Env) (a e:Int) (L:List (List Int)):SV thy:= .agg (.psl .ins c false::Zy1 v++ [.int false .i64 a,.int false .i64 e,.psl .digs L false])
theorem Zxf (c:List Ins) (v:Env) (s:St) (a e:Int) (L:List (List Int)):vcs FD 400 8 46 [rn9] (frOf frO) (blOf (blH c v true s a e L)) 60 [] (fun T h i ms=>finX E2 rsR (.tup [drV c v a e L,.int false .i64 0]) T h)=(
((c=c/\(false=true->false=true))/\Env.has v=Env.has v/\Env.v0 v=Env.v0 v/\Env.v1 v=Env.v1 v/\Env.v2 v=Env.v2 v/\Env.v3 v=Env.v3 v/\Env.v4 v=Env.v4 v/\Env.v5 v=Env.v5 v/\Env.v6 v=Env.v6 v/\Env.v7 v=Env.v7 v/\Env.v8 v=Env.v8 v/\Env.v9 v=Env.v9 v/\Env.v10 v=Env.v10 v/\Env.v11 v=Env.v11 v/\Env.v12 v=Env.v12 v/\Env.v13 v=Env.v13 v/\Env.v14 v=Env.v14 v/\Env.v15 v=Env.v15 v/\a=a/\e=e/\((0:Nat)+List.length L<=List.length L/\List.take (List.length L) L=L)/\True)/\(0:Int)=(0:Int)/\True):=by kernel_rfl
theorem Z3d (args:Array Value) (w:World):(callFunc (50:FuncId) args).run E2.P w= .ok (.enter (50:FuncId) args) w:=
 Zqf (fn:=Tryz.f50) rfl (by decide) rfl args w
def runV (c:List Ins) (v:Env):SV thy:=drV c v (Zt (dsk c v (dM c v))).1 (Zt (dsk c v (dM c v))).2.2 (lvL c v (dM c v+1))
theorem Z3e:E2.P.funcs[(8:FuncId)]? =some Tryz.f8:=rfl
theorem Z3f:E2.P.funcs[(50:FuncId)]? =some Tryz.f50:=rfl
theorem Zxg:Tryz.f8.body=some (seqs [rn0,rn1,rn4] (.seq (.seq rn5 (.block 0 (.rangeFunc (.tmp 25) #[26,27] (rfA rnF) (rfB rnF)))) (.seq rn9 .ret))):=congrArg some Z4i
theorem Zt0:Tryz.f50.body=some (.seq it0 (.seq it1 (.block 0 (.loop (.seq (.seq (.region 2 (o2p++o2y::o2s).toArray false) (.cond (.tmp 26) .skip (.exit 0))) (.seq it4 it3)))))):=(congrArg some Z4j).trans (by rw [Z23])
theorem Zlq {c:List Ins} {v:Env} {b:Bool} {s:St} {a e:Int} {L:List (List Int)} {h:Hp thy} (hf:fits E2 (AHR c v b s a e L) 7 (frOf frO) h ()) {B:Nat} {σ:Pl} {g:GH} {W:World} {ac:Act} (hI:Inv E2 B σ h g W) (hF:FrOk E2 σ g (frOf frO) ac):
 ∃σ',StpL 7 60 [3,6] σ g W σ' g W/\Inv E2 B σ' (blOf (blH c v b s a e L)) g W/\FrOk E2 σ' g (frOf frO) ac/\∀b,8<=b->b<60->σ' b=none:=
 Zc9 Zh (A:=AHR c v b s a e L) (x:=()) (by show 7<=8;omega) (by show 8<=60;omega) hf hI hF
theorem Zt1 {σ σ':Pl} {g:GH} {w:World} (h:StpL 7 60 [3,6] σ g w σ' g w):∀b c,ren7 b=some c->σ' b=σ c:=fun b c e=>by
 unfold ren7 at e
 split at e
 · rename_i q
   have:=Nat.le_of_ble_eq_true q
   cases e
   exact h.out b (.inl (by omega))
 · cases e
theorem Zt2 {c:List Ins} {v:Env} (hv:(verF c).2=0) (hcl:c.length<=4096):PureC E2 8 [.psl .ins c false,envV v] (.tup [runV c v,.int false .i64 0]):=by
 refine Zfs Zh (cD:=cD) Xo (V0:=fun T h i ms K=>vcs FD 400 50 36 [it0,it1] T h i ms K) (VT:=itT) (fun T h i ms K hD hk=>Zce [it0,it1] 50 36 T h i ms K hD hk) Zyv U2 U3 Wu Zev Z3f Zt0 rfl rfl Z3d (fr:=frI) (fun _ _=>rfl) (A0:=A0R c v) (x0:=()) ⟨rfl,rfl⟩ (frOut:=frO) (md:= [3,6]) (m:=dM c v)
  (K0:=fun l T h=>fits E2 (AHR c v false (dsk c v 0) 0 0 []) 7 (frOf frO) h ()/\fitF ren7 T (frI l 0)) (KN:=KNr c v) (KE:=KEr c v) (KR:=fun _ _=>False) Z3e (b1:=4) (b2:=5) Zxg (by show (26:Nat)<46;decide) (by show (27:Nat)<46;decide)
  (V:=fun T h i ms K=>vcs FD 400 8 46 [rn0,rn1,rn4,rn5] T h i ms K) (V9:=fun T h i ms K=>vcs FD 400 8 46 [rn9] T h i ms K) (fun T h i ms K hD hk=>Zce [rn0,rn1,rn4,rn5] 8 46 T h i ms K hD hk) (fun T h i ms K hD hk=>Zce [rn9] 8 46 T h i ms K hD hk) (by show 2<=46;omega) ?_ rfl (by simp [frO]) (headP:=Z26 c v) (Z02 hv hcl) ?_ ?_ ?_ ?_ ?_ (fun _ _ _ h=>h.elim)
 · refine (Zwy c v).mpr ⟨trivial,fun y hy=>⟨fun q=> ?_,fun q=> ?_⟩⟩
   · subst hy
     exact absurd hv (by simpa using q)
   · simp
 · intro j hj
   obtain ⟨x,hx⟩:=Option.ne_none_iff_exists'.1 hj
   have:=Wn hx
   simp [A0R,blE] at this
   omega
 · refine fun l=>(Zwz c v l (dsk c v 0)).mpr ⟨trivial,fun y hy=> ?_⟩
   have hw:wr .i64 ((c.length:Int)+1)=(c.length:Int)+1:=wr64 (by omega) (by omega)
   rw [hw] at hy
   subst hy
   have hs:Za4 ((c.length:Int)+1)=(St.start ((c.length:Int)+1),0):=if_neg (by omega)
   rw [hs]
   simp [dsk,itF]
 · rintro a l T h ⟨k1,k2⟩ B σ g W ai hI hF hFo
   obtain ⟨σ',q1,q2,q3,q4⟩:=Zlq k1 hI hFo
   exact ⟨σ',_,rfl,q1,q2,q3,Ug Zh (Zt1 q1) hF k2,q4⟩
 · rintro a l k T h hk ⟨k0,k1,k2⟩
   refine ⟨k0,fun B σ g W ai hI hF hFo=> ?_⟩
   obtain ⟨σ',q1,q2,q3,q4⟩:=Zlq k1 hI hFo
   exact ⟨σ',_,rfl,q1,q2,q3,Ug Zh (Zt1 q1) hF k2,q4⟩
 · rintro k h hk ⟨rfl,k1⟩ B σ g W a hI hF hfr
   obtain ⟨σ',q1,q2,q3,q4⟩:=Zlq k1 hI hF
   refine ⟨σ',_,fun b hb=> ?_,(Zxf c v _ _ _ _).mpr ?_,q2,q3,fun b hb=>(q1.out b (.inr hb)).trans (hfr b hb)⟩
   · have:=Zk1 _ _ _ _ _ _ _ b hb
     omega
   · simp
end
end Go.Proofs.YtnailikggmapcaaGreatDoor
end
