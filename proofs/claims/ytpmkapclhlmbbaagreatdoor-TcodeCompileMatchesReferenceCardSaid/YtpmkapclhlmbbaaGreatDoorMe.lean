/- Merged texts: TpL, EngZL, TpM, TcA, TcB, EngZM, TtI, TcC, TcE, TcD, TpP0, TcG, TcV. -/
import Derived.Test.YtpmkapclhlmbbaaGreatDoorMd
namespace Go.Proofs.YtpmkapclhlmbbaaGreatDoor
set_option linter.unusedVariables false
set_option linter.unusedSimpArgs false
set_option linter.unnecessarySimpa false
set_option maxRecDepth 100000
section
open Go
def isL (n:Int):Bool:=decide (97<=n)&&decide (n<=122)
def isD (n:Int):Bool:=decide (48<=n)&&decide (n<=57)
def isLD (n:Int):Bool:=isL n||isD n
noncomputable def dU8:Dc E Int:=dInt .u8
theorem Zni (n:Int) (v:Bool):Zf E F0 (vc E F0 400) 159 [.int false .u8 n] hp0 0 (fun r=>ret E (patch hp0 0 r) r.v (.bool false v))=(
(decide ((97:Int)<=n)=true->(decide (n<=(122:Int))=true->true=v)/\(decide (n<=(122:Int))=false->false=v))/\(decide ((97:Int)<=n)=false->false=v)):=by kernel_rfl
theorem Znj (n:Int):PureC E 159 [.int false .u8 n] (.bool false (isL n)):=by
 refine Za E_ok (Ze E_ok F0_ok 400) ?_
 rw [Zni]
 unfold isL
 refine ⟨fun h=>⟨fun h2=> ?_,fun h2=> ?_⟩,fun h=> ?_⟩
 · rw [h,h2];rfl
 · rw [h,h2];rfl
 · rw [h];rfl
theorem Zsq (n:Int) (v:Bool):Zf E F0 (vc E F0 400) 162 [.int false .u8 n] hp0 0 (fun r=>ret E (patch hp0 0 r) r.v (.bool false v))=(
(decide ((48:Int)<=n)=true->(decide (n<=(57:Int))=true->true=v)/\(decide (n<=(57:Int))=false->false=v))/\(decide ((48:Int)<=n)=false->false=v)):=by kernel_rfl
theorem Zsr (n:Int):PureC E 162 [.int false .u8 n] (.bool false (isD n)):=by
 refine Za E_ok (Ze E_ok F0_ok 400) ?_
 rw [Zsq]
 unfold isD
 refine ⟨fun h=>⟨fun h2=> ?_,fun h2=> ?_⟩,fun h=> ?_⟩
 · rw [h,h2];rfl
 · rw [h,h2];rfl
 · rw [h];rfl
noncomputable def Zx0:Sum thy:=sumP (dA1 dU8) (fun _=>True) fun x=> .bool false (isL x.1)
noncomputable def Z26:Sum thy:=sumP (dA1 dU8) (fun _=>True) fun x=> .bool false (isD x.1)
theorem Zss:SumOk E 159 Zx0:=Zp E_ok (Zc (f:=159) rfl) fun x _=>Znj x.1
theorem Zx1:SumOk E 162 Z26:=Zp E_ok (Zc (f:=162) rfl) fun x _=>Zsr x.1
noncomputable def Flx:Fns thy:=addS (addS F0 159 Zx0) 162 Z26
theorem Zx2:FnsOk E Flx:=Zb (Zb F0_ok Zss) Zx1
theorem Zx3 (n:Int) (v:Bool):Zf E Flx (vc E Flx 400) 161 [.int false .u8 n] hp0 0 (fun r=>ret E (patch hp0 0 r) r.v (.bool false v))=(
True/\(isL n=true->true=v)/\(isL n=false->True/\isD n=v)):=by kernel_rfl
theorem Zx4 (n:Int):PureC E 161 [.int false .u8 n] (.bool false (isLD n)):=by
 refine Za E_ok (Ze E_ok Zx2 400) ?_
 rw [Zx3]
 unfold isLD
 refine ⟨trivial,fun h=> ?_,fun h=>⟨trivial,?_⟩⟩
 · rw [h];rfl
 · rw [h];rfl
noncomputable def Z7t:Sum thy:=sumP (dA1 dU8) (fun _=>True) fun x=> .bool false (isLD x.1)
theorem Z16:SumOk E 161 Z7t:=Zp E_ok (Zc (f:=161) rfl) fun x _=>Zx4 x.1
def Asp:Fr thy->Hp thy->Nat->Ann thy:=fun T h i=>{X:=LX,fr:=fun x=> [(0,T 0),(1,T 1),(7,T 7),(8,.int false .i64 x.k)],bl:=fun x=> [],src:=fun _=> [],md:= [],ih:=i,M:=i+30,meas:=fun x=>x.r}
noncomputable def Zx5:Fns thy:=addL (addS Flx 161 Z7t) 160 2 Asp E
theorem Zpq:FnsOk E Zx5:=Zl E_ok (Zb Zx2 Z16) _ _ _
def spn (f:Int->Bool):List Nat->Nat
 | []=>0
 |c::r=>if f c then spn f r+1 else 0
theorem Zc8 {f:Int->Bool} {s:List Nat} {k c:Nat} (h:s[k]? =some c):spn f (s.drop k)=if f c then spn f (s.drop (k+1))+1 else 0:=by
 have hlt:=(List.getElem?_eq_some_iff.1 h).1
 have hc:s[k]=c:=(List.getElem?_eq_some_iff.1 h).2
 rw [List.drop_eq_getElem_cons hlt,hc];rfl
theorem Zk1 {f:Int->Bool}:∀{s:List Nat},spn f s<=s.length
 | []=>Nat.le_refl _
 |c::r=>by
  unfold spn
  have:=Zk1 (f:=f) (s:=r)
  split
  · simp;omega
  · exact Nat.zero_le _
theorem Zst (s:List Nat) (v:Int):Zf E Zx5 (vc E Zx5 400) 160 [.str false s,.fn (.func 161) [] []] hp0 0 (fun r=>ret E (patch hp0 0 r) r.v (.int false .i64 v))=(
∃(R:LX->Prop),(∃(x:LX),R x/\true=true/\(s=s/\(Fn.func (161:FuncId)=Fn.func (161:FuncId)/\True/\True)/\(↑(List.length s):Int)=(↑(List.length s):Int)/\(0:Int)=(↑(LX.k x):Int)/\True)/\True)/\∀(x:LX),R x->(decide ((↑(LX.k x):Int)<(↑(List.length s):Int))=true->(0:Int)<=(↑(LX.k x):Int)/\(↑(LX.k x):Int)+(1:Int)<=(↑(List.length s):Int)/\∀(x_1:Nat),s[Int.toNat (↑(LX.k x):Int)]? =some x_1->True/\((!isLD (↑x_1:Int))=true->(↑(LX.k x):Int)=v)/\((!isLD (↑x_1:Int))=false->∃(x_2:LX),R x_2/\x_2.2+(1:Nat)<=x.2/\true=true/\(s=s/\(Fn.func (161:FuncId)=Fn.func (161:FuncId)/\True/\True)/\(↑(List.length s):Int)=(↑(List.length s):Int)/\wr IntKind.i64 ((↑(LX.k x):Int)+(1:Int))=(↑(LX.k x_2):Int)/\True)/\True))/\(decide ((↑(LX.k x):Int)<(↑(List.length s):Int))=false->(↑(List.length s):Int)=v)):=by kernel_rfl
theorem Zsu (s:List Nat) (hs:s.length<=1000000000):PureC E 160 [.str false s,.fn (.func 161) [] []] (.int false .i64 (spn isLD s)):=by
 refine Za E_ok (Ze E_ok Zpq 400) ?_
 rw [Zst]
 refine ⟨fun x=>x.k<=s.length/\x.k+spn isLD (s.drop x.k)=spn isLD s/\x.r=s.length-x.k,⟨⟨0,s.length,[],0⟩,⟨(by dsimp only;omega),by simp,rfl⟩,by simp⟩,?_⟩
 rintro x ⟨hk,hv,hr⟩
 refine ⟨fun hq=> ?_,fun hq=> ?_⟩
 · have hq:(x.k:Int)<s.length:=by simpa using hq
   refine ⟨by omega,by omega,fun c hc=>⟨trivial,fun hn=> ?_,fun hn=> ?_⟩⟩
   · have hc:s[x.k]? =some c:=hc
     rw [Zc8 hc] at hv
     have hn:isLD c=false:=by simpa using hn
     rw [hn] at hv
     simp at hv
     rw [<-hv]
   · have hc:s[x.k]? =some c:=hc
     rw [Zc8 hc] at hv
     have hn:isLD c=true:=by simpa using hn
     rw [hn,if_pos rfl] at hv
     exact ⟨⟨x.k+1,s.length-(x.k+1),[],0⟩,⟨(by dsimp only;omega),(by dsimp only;omega),rfl⟩,(by show s.length-(x.k+1)+1<=x.r;omega),rfl,⟨rfl,⟨rfl,trivial,trivial⟩,rfl,wr64 (by omega) (by omega),trivial⟩,trivial⟩
 · have hq:¬(x.k:Int)<s.length:=by simpa using hq
   rw [List.drop_eq_nil_of_le (by omega)] at hv
   have:x.k=spn isLD s:=by simpa [spn] using hv
   omega
theorem Zsv (s:List Nat) (v:Int):Zf E Zx5 (vc E Zx5 400) 160 [.str false s,.fn (.func 162) [] []] hp0 0 (fun r=>ret E (patch hp0 0 r) r.v (.int false .i64 v))=(
∃(R:LX->Prop),(∃(x:LX),R x/\true=true/\(s=s/\(Fn.func (162:FuncId)=Fn.func (162:FuncId)/\True/\True)/\(↑(List.length s):Int)=(↑(List.length s):Int)/\(0:Int)=(↑(LX.k x):Int)/\True)/\True)/\∀(x:LX),R x->(decide ((↑(LX.k x):Int)<(↑(List.length s):Int))=true->(0:Int)<=(↑(LX.k x):Int)/\(↑(LX.k x):Int)+(1:Int)<=(↑(List.length s):Int)/\∀(x_1:Nat),s[Int.toNat (↑(LX.k x):Int)]? =some x_1->True/\((!isD (↑x_1:Int))=true->(↑(LX.k x):Int)=v)/\((!isD (↑x_1:Int))=false->∃(x_2:LX),R x_2/\x_2.2+(1:Nat)<=x.2/\true=true/\(s=s/\(Fn.func (162:FuncId)=Fn.func (162:FuncId)/\True/\True)/\(↑(List.length s):Int)=(↑(List.length s):Int)/\wr IntKind.i64 ((↑(LX.k x):Int)+(1:Int))=(↑(LX.k x_2):Int)/\True)/\True))/\(decide ((↑(LX.k x):Int)<(↑(List.length s):Int))=false->(↑(List.length s):Int)=v)):=by kernel_rfl
theorem Zsw (s:List Nat) (hs:s.length<=1000000000):PureC E 160 [.str false s,.fn (.func 162) [] []] (.int false .i64 (spn isD s)):=by
 refine Za E_ok (Ze E_ok Zpq 400) ?_
 rw [Zsv]
 refine ⟨fun x=>x.k<=s.length/\x.k+spn isD (s.drop x.k)=spn isD s/\x.r=s.length-x.k,⟨⟨0,s.length,[],0⟩,⟨(by dsimp only;omega),by simp,rfl⟩,by simp⟩,?_⟩
 rintro x ⟨hk,hv,hr⟩
 refine ⟨fun hq=> ?_,fun hq=> ?_⟩
 · have hq:(x.k:Int)<s.length:=by simpa using hq
   refine ⟨by omega,by omega,fun c hc=>⟨trivial,fun hn=> ?_,fun hn=> ?_⟩⟩
   · have hc:s[x.k]? =some c:=hc
     rw [Zc8 hc] at hv
     have hn:isD c=false:=by simpa using hn
     rw [hn] at hv
     simp at hv
     rw [<-hv]
   · have hc:s[x.k]? =some c:=hc
     rw [Zc8 hc] at hv
     have hn:isD c=true:=by simpa using hn
     rw [hn,if_pos rfl] at hv
     exact ⟨⟨x.k+1,s.length-(x.k+1),[],0⟩,⟨(by dsimp only;omega),(by dsimp only;omega),rfl⟩,(by show s.length-(x.k+1)+1<=x.r;omega),rfl,⟨rfl,⟨rfl,trivial,trivial⟩,rfl,wr64 (by omega) (by omega),trivial⟩,trivial⟩
 · have hq:¬(x.k:Int)<s.length:=by simpa using hq
   rw [List.drop_eq_nil_of_le (by omega)] at hv
   have:x.k=spn isD s:=by simpa [spn] using hv
   omega
def Anu:Fr thy->Hp thy->Nat->Ann thy:=fun T h i=>{X:=LX,fr:=fun x=> [(0,T 0),(4,.int false .i64 x.m),(15,T 15),(16,.int false .i64 x.k)],bl:=fun x=> [],src:=fun _=> [],md:= [],ih:=i,M:=i+30,meas:=fun x=>x.r}
noncomputable def Fnum:Fns thy:=addL F0 163 5 Anu E
theorem Z5u:FnsOk E Fnum:=Zl E_ok F0_ok _ _ _
def numL (n:Int):List Nat->Int×Int
 | []=>(n,0)
 |c::r=>if 10*n+(c-48)>1099511627776 then (0,2) else numL (10*n+(c-48)) r
def numb (s:List Nat):Int×Int:=if 1<s.length/\s.head? =some 48 then (0,150) else numL 0 s
theorem Zx6 {n:Int} {s:List Nat} {k c:Nat} (h:s[k]? =some c):numL n (s.drop k)=if 10*n+(c-48)>1099511627776 then (0,2) else numL (10*n+(c-48)) (s.drop (k+1)):=by
 have hlt:=(List.getElem?_eq_some_iff.1 h).1
 have hc:s[k]=c:=(List.getElem?_eq_some_iff.1 h).2
 rw [List.drop_eq_getElem_cons hlt,hc];rfl
abbrev qBU1 (a0:LX) (b0:Nat):=(wr IntKind.i64 ((10:Int)*LX.m a0)+wr IntKind.i64 (wr IntKind.u8 ((↑b0:Int)-(48:Int))))
abbrev qBU2 (a0:List Nat):=(↑(List.length a0):Int)
abbrev qBU3 (a0:LX):=(↑(LX.k a0):Int)
abbrev qBU4:=(0:Int)
theorem Znk (s : List Nat) (v e : Int) : Zf E Fnum (vc E Fnum 400) 163 [.str false s] hp0 0 (fun r => ret E (patch hp0 0 r) r.v (.tup [.int false .i64 v, .int false .i64 e])) = (
 ∃ (Q : Bool → Prop), ((decide ((qBU2 s) > (1 : Int)) = true → qBU4 ≤ qBU4 ∧ qBU4 + (1 : Int) ≤ (qBU2 s) ∧ ∀ (x : Nat), s[Int.toNat qBU4]? = some x → (((↑x : Int) == (48 : Int)) = true → Q true) ∧ (((↑x : Int) == (48 : Int)) = false → Q false)) ∧ (decide ((qBU2 s) > (1 : Int)) = false → Q false)) ∧ (Q true → qBU4 = v ∧ (150 : Int) = e ∧ True) ∧ (Q false → ∃ (R : LX → Prop), (∃ (x : LX), R x ∧ true = true ∧ (s = s ∧ qBU4 = LX.m x ∧ (qBU2 s) = (qBU2 s) ∧ qBU4 = (qBU3 x) ∧ True) ∧ True) ∧ ∀ (x : LX), R x → (decide ((qBU3 x) < (qBU2 s)) = true → qBU4 ≤ (qBU3 x) ∧ (qBU3 x) + (1 : Int) ≤ (qBU2 s) ∧ ∀ (x_1 : Nat), s[Int.toNat (qBU3 x)]? = some x_1 → (decide (wr IntKind.i64 (qBU1 x x_1) > (1099511627776 : Int)) = true → qBU4 = v ∧ (2 : Int) = e ∧ True) ∧ (decide (wr IntKind.i64 (qBU1 x x_1) > (1099511627776 : Int)) = false → ∃ (x_2 : LX), R x_2 ∧ x_2.2 + (1 : Nat) ≤ x.2 ∧ true = true ∧ (s = s ∧ wr IntKind.i64 (qBU1 x x_1) = LX.m x_2 ∧ (qBU2 s) = (qBU2 s) ∧ wr IntKind.i64 ((qBU3 x) + (1 : Int)) = (qBU3 x_2) ∧ True) ∧ True)) ∧ (decide ((qBU3 x) < (qBU2 s)) = false → LX.m x = v ∧ qBU4 = e ∧ True))) := by kernel_rfl
theorem Znl (s : List Nat) (hs : s.length ≤ 1000000000) (hd : ∀ c ∈ s, 48 ≤ c ∧ c ≤ 57) : PureC E 163 [.str false s] (.tup [.int false .i64 (numb s).1, .int false .i64 (numb s).2]) := by
  refine Za E_ok (Ze E_ok Z5u 400) ?_
  rw [Znk]; delta qBU1 qBU2 qBU3 qBU4
  refine ⟨fun b => b = decide (1 < s.length ∧ s.head? = some 48), ⟨fun h => ?_, fun h => ?_⟩, fun h => ?_, fun h => ?_⟩
  · have h : (1 : Int) < s.length := by simpa using h
    refine ⟨Int.le_refl 0, by omega, fun x hx => ?_⟩
    have hx : s[0]? = some x := hx
    rw [List.head?_eq_getElem?, hx]
    refine ⟨fun h2 => ?_, fun h2 => ?_⟩
    · have h2 : x = 48 := by have : (x : Int) = 48 := by simpa using h2
                             omega
      simp [h2]; omega
    · have h2 : x ≠ 48 := by
        intro e
        subst e
        simp at h2
      simp [h2]
  · have h : ¬ (1 : Int) < s.length := by simpa using h
    have : ¬ 1 < s.length := by omega
    simp [this]
  · have h := (decide_eq_true_iff.1 h.symm)
    unfold numb
    rw [if_pos h]
    exact ⟨rfl, rfl, trivial⟩
  · have h := (decide_eq_false_iff_not.1 h.symm)
    have hn : numb s = numL 0 s := by unfold numb; rw [if_neg h]
    rw [hn]
    refine ⟨fun x => x.k ≤ s.length ∧ numL x.m (s.drop x.k) = numL 0 s ∧ 0 ≤ x.m ∧ x.m ≤ 1099511627776 ∧ x.r = s.length - x.k, ⟨⟨0, s.length, [], 0⟩, ⟨(by dsimp only; omega), rfl, Int.le_refl 0, (by show (0:Int) ≤ 1099511627776; omega), rfl⟩, by simp⟩, ?_⟩
    rintro x ⟨hk, hv, hm0, hm1, hr⟩
    refine ⟨fun hq => ?_, fun hq => ?_⟩
    · have hq : (x.k : Int) < s.length := by simpa using hq
      refine ⟨by omega, by omega, fun c hc => ?_⟩
      have hc : s[x.k]? = some c := hc
      have hcd := hd c (List.mem_of_getElem? hc)
      have w0 : wr .u8 ((c : Int) - 48) = c - 48 := by simp only [wr, IntKind.wrap_u8]; omega
      have w1 : wr .i64 (10 * x.m) = 10 * x.m := wr64 (by omega) (by omega)
      have w2 : wr .i64 ((c : Int) - 48) = c - 48 := wr64 (by omega) (by omega)
      have w3 : wr .i64 (10 * x.m + ((c : Int) - 48)) = 10 * x.m + (c - 48) := wr64 (by omega) (by omega)
      rw [w0, w1, w2, w3]
      rw [Zx6 hc] at hv
      refine ⟨fun h2 => ?_, fun h2 => ?_⟩
      · have h2 : 10 * x.m + ((c : Int) - 48) > 1099511627776 := by simpa using h2
        rw [if_pos h2] at hv
        rw [← hv]
        exact ⟨rfl, rfl, trivial⟩
      · have h2 : ¬ 10 * x.m + ((c : Int) - 48) > 1099511627776 := by simpa using h2
        rw [if_neg h2] at hv
        exact ⟨⟨x.k + 1, s.length - (x.k + 1), [], 10 * x.m + (c - 48)⟩, ⟨(by dsimp only; omega), hv, (by dsimp only; omega), (by dsimp only; omega), rfl⟩, (by show s.length - (x.k + 1) + 1 ≤ x.r; omega), rfl, ⟨rfl, rfl, rfl, wr64 (by omega) (by omega), trivial⟩, trivial⟩
    · have hq : ¬ (x.k : Int) < s.length := by simpa using hq
      rw [List.drop_eq_nil_of_le (by omega)] at hv
      rw [← hv]
      exact ⟨rfl, rfl, trivial⟩
noncomputable def dSF:Dc E Bool where
 dec v:=match v with| .fn (.func f) [] []=>(match Nat.beq f 161 with|true=>some true|false=>(match Nat.beq f 162 with|true=>some false|false=>none))|_=>none
 enc b:= .fn (.func (bif b then 161 else 162)) [] []
 ok v a h:=by
  split at h
  · rename_i f
    split at h
    · rename_i e
      cases h
      have e:=Nat.eq_of_beq_eq_true e
      cases e
      exact ⟨rfl,rfl,fun σ g u hd=>hd⟩
    · split at h
      · rename_i e
        cases h
        have e:=Nat.eq_of_beq_eq_true e
        cases e
        exact ⟨rfl,rfl,fun σ g u hd=>hd⟩
      · cases h
  · cases h
def spF (b:Bool) (s:List Nat):Nat:=bif b then spn isLD s else spn isD s
noncomputable def Z7u:Sum thy:=Ziq (DcL.cons dS (DcL.cons dSF DcL.nil)) (fun x=>x.1.length<=1000000000) (fun x=>spF x.2.1 x.1) fun (y:Nat)=> .int false .i64 y
theorem Z17:SumOk E 160 Z7u:=Vo E_ok (Zc (f:=160) rfl) fun x h=>by
 obtain ⟨s,b,_⟩:=x
 cases b with
 |true=>exact Zsu s h
 |false=>exact Zsw s h
noncomputable def Zx7:Sum thy:=Ziq (dA1 dS) (fun x=>x.1.length<=1000000000/\∀c∈x.1,48<=c/\c<=57) (fun x=>numb x.1) fun y=> .tup [.int false .i64 y.1,.int false .i64 y.2]
theorem Zsx:SumOk E 163 Zx7:=Vo E_ok (Zc (f:=163) rfl) fun x h=>Znl x.1 h.1 h.2
noncomputable def Ftok:Fns thy:=addS (addS Flx 160 Z7u) 163 Zx7
theorem Z5v:FnsOk E Ftok:=Zb (Zb Zx2 Z17) Zsx
def tokV (t:Tok):SV thy:= .agg [.int false .i64 t.kind,.str false t.text,.int false .i64 t.n,.int false .i64 t.at_]
abbrev qBUa:=(0:Int)
abbrev qBU5 (a0:Tok):=(qBUa=Tok.kind a0/\ []=Tok.text a0/\qBUa=Tok.n a0/\qBUa=Tok.at_ a0/\True)
abbrev qBUc:=(150:Int)
abbrev qBUb (a0:List Nat):=(↑(List.length a0):Int)
abbrev qBU9 (a0:List Nat):=((qBUb a0)>=(1:Int))
abbrev qBU6 (a0:List Nat) (b0:Tok) (c0:Int):=(decide (qBU9 a0)=false->(qBU5 b0)/\qBUc=c0/\True)
abbrev qBU7 (a0:List Nat):=(qBUa<=(1:Int)/\(1:Int)<=(qBUb a0))
abbrev qBU8:=(Int.toNat (1:Int))
abbrev qBUf (a0:Nat):=(↑a0:Int)
abbrev qBUd (a0:Nat):=(Int.toNat (qBUf a0))
abbrev qBUe:=(3:Int)
theorem Zsy (s:List Nat) (t:Tok) (e:Int):Zf E Ftok (vc E Ftok 400) 128 [.str false s] hp0 0 (fun r=>ret E (patch hp0 0 r) r.v (.tup [tokV t,.int false .i64 e]))=(
 qBUa<=qBUa/\qBUa+(1:Int)<=(qBUb s)/\∀(x:Nat),s[Int.toNat qBUa]? =some x->True/\(isL (qBUf x)=true->List.length s<=(1000000000:Nat)/\∀(y:Nat),y=spF true s->(qBUa<=(qBUf y)/\(qBUf y)<=(qBUb s))/\(decide ((↑(List.length (List.take (qBUd y) s)):Int)>(32:Int))=true->(qBU5 t)/\(2:Int)=e/\True)/\(decide ((↑(List.length (List.take (qBUd y) s)):Int)>(32:Int))=false->((1:Int)=Tok.kind t/\List.take (qBUd y) s=Tok.text t/\qBUa=Tok.n t/\qBUa=Tok.at_ t/\True)/\qBUa=e/\True))/\(isL (qBUf x)=false->True/\(isD (qBUf x)=true->List.length s<=(1000000000:Nat)/\∀(y:Nat),y=spF false s->(qBUa<=(qBUf y)/\(qBUf y)<=(qBUb s))/\(List.length (List.take (qBUd y) s)<=(1000000000:Nat)/\∀(c:Nat),c∈List.take (qBUd y) s->(48:Nat)<=c/\c<=(57:Nat))/\∀(y_1:Int×Int),y_1=numb (List.take (qBUd y) s)->((2:Int)=Tok.kind t/\List.take (qBUd y) s=Tok.text t/\Prod.fst y_1=Tok.n t/\qBUa=Tok.at_ t/\True)/\Prod.snd y_1=e/\True)/\(isD (qBUf x)=false->qBUa<=qBUa/\qBUa+(1:Int)<=(qBUb s)/\∀(x:Nat),s[Int.toNat qBUa]? =some x->(((qBUf x)==(↑(123:Nat):Int))=true->(decide (qBU9 s)=true->(qBU7 s)/\((List.take qBU8 s== [(123:Nat)])=true->(qBUe=Tok.kind t/\ [(123:Nat)]=Tok.text t/\qBUa=Tok.n t/\qBUa=Tok.at_ t/\True)/\qBUa=e/\True)/\((List.take qBU8 s== [(123:Nat)])=false->(qBU5 t)/\qBUc=e/\True))/\(qBU6 s t e))/\(((qBUf x)==(↑(123:Nat):Int))=false->(((qBUf x)==(↑(125:Nat):Int))=true->(decide (qBU9 s)=true->(qBU7 s)/\((List.take qBU8 s== [(125:Nat)])=true->(qBUe=Tok.kind t/\ [(125:Nat)]=Tok.text t/\qBUa=Tok.n t/\qBUa=Tok.at_ t/\True)/\qBUa=e/\True)/\((List.take qBU8 s== [(125:Nat)])=false->(qBU5 t)/\qBUc=e/\True))/\(qBU6 s t e))/\(((qBUf x)==(↑(125:Nat):Int))=false->(((qBUf x)==(↑(40:Nat):Int))=true->(decide (qBU9 s)=true->(qBU7 s)/\((List.take qBU8 s== [(40:Nat)])=true->(qBUe=Tok.kind t/\ [(40:Nat)]=Tok.text t/\qBUa=Tok.n t/\qBUa=Tok.at_ t/\True)/\qBUa=e/\True)/\((List.take qBU8 s== [(40:Nat)])=false->(qBU5 t)/\qBUc=e/\True))/\(qBU6 s t e))/\(((qBUf x)==(↑(40:Nat):Int))=false->(((qBUf x)==(↑(41:Nat):Int))=true->(decide (qBU9 s)=true->(qBU7 s)/\((List.take qBU8 s== [(41:Nat)])=true->(qBUe=Tok.kind t/\ [(41:Nat)]=Tok.text t/\qBUa=Tok.n t/\qBUa=Tok.at_ t/\True)/\qBUa=e/\True)/\((List.take qBU8 s== [(41:Nat)])=false->(qBU5 t)/\qBUc=e/\True))/\(qBU6 s t e))/\(((qBUf x)==(↑(41:Nat):Int))=false->(((qBUf x)==(↑(59:Nat):Int))=true->(decide (qBU9 s)=true->(qBU7 s)/\((List.take qBU8 s== [(59:Nat)])=true->(qBUe=Tok.kind t/\ [(59:Nat)]=Tok.text t/\qBUa=Tok.n t/\qBUa=Tok.at_ t/\True)/\qBUa=e/\True)/\((List.take qBU8 s== [(59:Nat)])=false->(qBU5 t)/\qBUc=e/\True))/\(qBU6 s t e))/\(((qBUf x)==(↑(59:Nat):Int))=false->(((qBUf x)==(↑(44:Nat):Int))=true->(decide (qBU9 s)=true->(qBU7 s)/\((List.take qBU8 s== [(44:Nat)])=true->(qBUe=Tok.kind t/\ [(44:Nat)]=Tok.text t/\qBUa=Tok.n t/\qBUa=Tok.at_ t/\True)/\qBUa=e/\True)/\((List.take qBU8 s== [(44:Nat)])=false->(qBU5 t)/\qBUc=e/\True))/\(qBU6 s t e))/\(((qBUf x)==(↑(44:Nat):Int))=false->(((qBUf x)==(↑(43:Nat):Int))=true->(decide (qBU9 s)=true->(qBU7 s)/\((List.take qBU8 s== [(43:Nat)])=true->(qBUe=Tok.kind t/\ [(43:Nat)]=Tok.text t/\qBUa=Tok.n t/\qBUa=Tok.at_ t/\True)/\qBUa=e/\True)/\((List.take qBU8 s== [(43:Nat)])=false->(qBU5 t)/\qBUc=e/\True))/\(qBU6 s t e))/\(((qBUf x)==(↑(43:Nat):Int))=false->(((qBUf x)==(↑(45:Nat):Int))=true->(decide (qBU9 s)=true->(qBU7 s)/\((List.take qBU8 s== [(45:Nat)])=true->(qBUe=Tok.kind t/\ [(45:Nat)]=Tok.text t/\qBUa=Tok.n t/\qBUa=Tok.at_
t/\True)/\qBUa=e/\True)/\((List.take qBU8 s== [(45:Nat)])=false->(qBU5 t)/\qBUc=e/\True))/\(qBU6 s t e))/\(((qBUf x)==(↑(45:Nat):Int))=false->(((qBUf x)==(↑(42:Nat):Int))=true->(decide (qBU9 s)=true->(qBU7 s)/\((List.take qBU8 s== [(42:Nat)])=true->(qBUe=Tok.kind t/\ [(42:Nat)]=Tok.text t/\qBUa=Tok.n t/\qBUa=Tok.at_ t/\True)/\qBUa=e/\True)/\((List.take qBU8 s== [(42:Nat)])=false->(qBU5 t)/\qBUc=e/\True))/\(qBU6 s t e))/\(((qBUf x)==(↑(42:Nat):Int))=false->(((qBUf x)==(↑(60:Nat):Int))=true->(decide (qBU9 s)=true->(qBU7 s)/\((List.take qBU8 s== [(60:Nat)])=true->(qBUe=Tok.kind t/\ [(60:Nat)]=Tok.text t/\qBUa=Tok.n t/\qBUa=Tok.at_ t/\True)/\qBUa=e/\True)/\((List.take qBU8 s== [(60:Nat)])=false->(qBU5 t)/\qBUc=e/\True))/\(qBU6 s t e))/\(((qBUf x)==(↑(60:Nat):Int))=false->(((qBUf x)==(↑(46:Nat):Int))=true->(decide ((qBUb s)>=(2:Int))=true->(qBUa<=(2:Int)/\(2:Int)<=(qBUb s))/\((List.take (Int.toNat (2:Int)) s== [(46:Nat),(46:Nat)])=true->(qBUe=Tok.kind t/\ [(46:Nat),(46:Nat)]=Tok.text t/\qBUa=Tok.n t/\qBUa=Tok.at_ t/\True)/\qBUa=e/\True)/\((List.take (Int.toNat (2:Int)) s== [(46:Nat),(46:Nat)])=false->(qBU5 t)/\qBUc=e/\True))/\(decide ((qBUb s)>=(2:Int))=false->(qBU5 t)/\qBUc=e/\True))/\(((qBUf x)==(↑(46:Nat):Int))=false->(qBU5 t)/\qBUc=e/\True)))))))))))))):=by kernel_rfl
def sgnW (c:Nat):Option (List Nat):=
 if c=123 then some [123] else if c=125 then some [125] else if c=40 then some [40] else if c=41 then some [41] else if c=59 then some [59] else if c=44 then some [44]
 else if c=43 then some [43] else if c=45 then some [45] else if c=42 then some [42] else if c=60 then some [60] else if c=46 then some [46,46] else none
def z0:Tok:=⟨0,[],0,0⟩
def tokS (s w:List Nat):Tok×Int:=if s.take w.length=w then (⟨3,w,0,0⟩,0) else (z0,150)
def tokP:List Nat->Tok×Int
 | []=>(z0,150)
 |c::r=>if isL c then (if 32<spn isLD (c::r) then (z0,2) else (⟨1,(c::r).take (spn isLD (c::r)),0,0⟩,0))
  else if isD c then (⟨2,(c::r).take (spn isD (c::r)),(numb ((c::r).take (spn isD (c::r)))).1,0⟩,(numb ((c::r).take (spn isD (c::r)))).2)
  else match sgnW c with|some w=>tokS (c::r) w|none=>(z0,150)
theorem Uf (c:Nat) (r:List Nat):tokP (c::r)=if isL c then (if 32<spn isLD (c::r) then (z0,2) else (⟨1,(c::r).take (spn isLD (c::r)),0,0⟩,0))
 else if isD c then (⟨2,(c::r).take (spn isD (c::r)),(numb ((c::r).take (spn isD (c::r)))).1,0⟩,(numb ((c::r).take (spn isD (c::r)))).2)
 else match sgnW c with|some w=>tokS (c::r) w|none=>(z0,150):=rfl
theorem Zx8 {f:Int->Bool}:∀{s:List Nat} {c:Nat},c∈s.take (spn f s)->f c=true
 | [],c,h=>by simp at h
 |x::r,c,h=>by
  unfold spn at h
  split at h
  · rename_i hx
    rw [List.take_succ_cons,List.mem_cons] at h
    rcases h with rfl|h
    · exact hx
    · exact Zx8 h
  · simp at h
theorem Ug (s w:List Nat) (k:Int) (hk:k=w.length):
 (decide ((↑(List.length s):Int)>=k)=true->((0:Int)<=k/\k<=(↑(List.length s):Int))/\((List.take (Int.toNat k) s==w)=true->((3:Int)=Tok.kind (tokS s w).1/\w=Tok.text (tokS s w).1/\(0:Int)=Tok.n (tokS s w).1/\(0:Int)=Tok.at_ (tokS s w).1/\True)/\(0:Int)=(tokS s w).2/\True)/\
  ((List.take (Int.toNat k) s==w)=false->((0:Int)=Tok.kind (tokS s w).1/\ []=Tok.text (tokS s w).1/\(0:Int)=Tok.n (tokS s w).1/\(0:Int)=Tok.at_ (tokS s w).1/\True)/\(150:Int)=(tokS s w).2/\True))/\
 (decide ((↑(List.length s):Int)>=k)=false->((0:Int)=Tok.kind (tokS s w).1/\ []=Tok.text (tokS s w).1/\(0:Int)=Tok.n (tokS s w).1/\(0:Int)=Tok.at_ (tokS s w).1/\True)/\(150:Int)=(tokS s w).2/\True):=by
 have e:Int.toNat k=w.length:=by omega
 rw [e]
 unfold tokS
 refine ⟨fun h=> ?_,fun h=> ?_⟩
 · have h:(s.length:Int)>=k:=by simpa using h
   refine ⟨⟨by omega,by omega⟩,fun h2=> ?_,fun h2=> ?_⟩
   · have h2:List.take w.length s=w:=by simpa using h2
     rw [if_pos h2]
     exact ⟨⟨rfl,rfl,rfl,rfl,trivial⟩,rfl,trivial⟩
   · have h2:List.take w.length s≠w:=by simpa using h2
     rw [if_neg h2]
     exact ⟨⟨rfl,rfl,rfl,rfl,trivial⟩,rfl,trivial⟩
 · have h:¬(s.length:Int)>=k:=by simpa using h
   have h2:List.take w.length s≠w:=fun e=>by
    have:=congrArg List.length e
    rw [List.length_take] at this
    omega
   rw [if_neg h2]
   exact ⟨⟨rfl,rfl,rfl,rfl,trivial⟩,rfl,trivial⟩
theorem Zsz (s : List Nat) (h0 : 0 < s.length) (hs : s.length ≤ 1000000000) : PureC E 128 [.str false s] (.tup [tokV (tokP s).1, .int false .i64 (tokP s).2]) := by
  refine Za E_ok (Ze E_ok Z5v 400) ?_
  rw [Zsy]; delta qBUa qBU5 qBUc qBUb qBU9 qBU6 qBU7 qBU8 qBUf qBUd qBUe
  cases s with
  | nil => exact absurd h0 (by simp)
  | cons c r =>
  refine ⟨Int.le_refl 0, by simp only [List.length_cons]; omega, fun x hx => ?_⟩
  have hx : (c :: r)[0]? = some x := hx
  rw [List.getElem?_cons_zero] at hx
  cases hx
  refine ⟨trivial, fun hl => ?_, fun hl => ?_⟩
  · refine ⟨hs, fun y hy => ?_⟩
    have hy : y = spn isLD (c :: r) := hy
    have hle : y ≤ (c :: r).length := hy ▸ Zk1
    have hm : min y (c :: r).length = y := Nat.min_eq_left hle
    have e1 : Int.toNat (y : Int) = y := by omega
    rw [e1, List.length_take, hm]
    rw [Uf, if_pos hl, ← hy]
    refine ⟨⟨by omega, by omega⟩, fun h => ?_, fun h => ?_⟩
    · have h : (32 : Int) < y := by simpa using h
      rw [if_pos (by omega)]
      exact ⟨⟨rfl, rfl, rfl, rfl, trivial⟩, rfl, trivial⟩
    · have h : ¬ (32 : Int) < y := by simpa using h
      rw [if_neg (by omega)]
      exact ⟨⟨rfl, rfl, rfl, rfl, trivial⟩, rfl, trivial⟩
  refine ⟨trivial, fun hd => ?_, fun hd => ?_⟩
  · refine ⟨hs, fun y hy => ?_⟩
    have hy : y = spn isD (c :: r) := hy
    have hle : y ≤ (c :: r).length := hy ▸ Zk1
    have hm : min y (c :: r).length = y := Nat.min_eq_left hle
    have e1 : Int.toNat (y : Int) = y := by omega
    rw [e1, List.length_take, hm]
    rw [Uf, if_neg (by rw [hl]; decide), if_pos hd, ← hy]
    refine ⟨⟨by omega, by omega⟩, ⟨by omega, fun c' hc' => ?_⟩, fun q hq => ?_⟩
    · rw [hy] at hc'
      have := Zx8 hc'
      unfold isD at this
      simp at this
      omega
    · subst hq
      exact ⟨⟨rfl, rfl, rfl, rfl, trivial⟩, rfl, trivial⟩
  refine ⟨Int.le_refl 0, by simp only [List.length_cons]; omega, fun x hx => ?_⟩
  have hx : (c :: r)[0]? = some x := hx
  rw [List.getElem?_cons_zero] at hx
  cases hx
  have hp : ∀ w, sgnW c = some w → tokP (c :: r) = tokS (c :: r) w := fun w hw => by
    rw [Uf, if_neg (by rw [hl]; decide), if_neg (by rw [hd]; decide), hw]
  have st : ∀ (n : Nat) (w : List Nat), sgnW n = some w → ((c : Int) == (n : Int)) = true → tokP (c :: r) = tokS (c :: r) w := fun n w hw h => by
    have : c = n := by have : (c : Int) = n := by simpa using h
                       omega
    subst this
    exact hp w hw
  refine ⟨fun h => by rw [st _ _ rfl h]; exact Ug _ _ _ rfl, fun h1 => ?_⟩
  refine ⟨fun h => by rw [st _ _ rfl h]; exact Ug _ _ _ rfl, fun h2 => ?_⟩
  refine ⟨fun h => by rw [st _ _ rfl h]; exact Ug _ _ _ rfl, fun h3 => ?_⟩
  refine ⟨fun h => by rw [st _ _ rfl h]; exact Ug _ _ _ rfl, fun h4 => ?_⟩
  refine ⟨fun h => by rw [st _ _ rfl h]; exact Ug _ _ _ rfl, fun h5 => ?_⟩
  refine ⟨fun h => by rw [st _ _ rfl h]; exact Ug _ _ _ rfl, fun h6 => ?_⟩
  refine ⟨fun h => by rw [st _ _ rfl h]; exact Ug _ _ _ rfl, fun h7 => ?_⟩
  refine ⟨fun h => by rw [st _ _ rfl h]; exact Ug _ _ _ rfl, fun h8 => ?_⟩
  refine ⟨fun h => by rw [st _ _ rfl h]; exact Ug _ _ _ rfl, fun h9 => ?_⟩
  refine ⟨fun h => by rw [st _ _ rfl h]; exact Ug _ _ _ rfl, fun h10 => ?_⟩
  refine ⟨fun h => by rw [st _ _ rfl h]; exact Ug _ _ _ rfl, fun h11 => ?_⟩
  have hn : sgnW c = none := by
    have f : ∀ n : Nat, ((c : Int) == (n : Int)) = false → c ≠ n := fun n h e => by subst e; simp at h
    unfold sgnW
    rw [if_neg (f _ h1), if_neg (f _ h2), if_neg (f _ h3), if_neg (f _ h4), if_neg (f _ h5), if_neg (f _ h6), if_neg (f _ h7), if_neg (f _ h8), if_neg (f _ h9), if_neg (f _ h10), if_neg (f _ h11)]
  have : tokP (c :: r) = (z0, 150) := by
    rw [Uf, if_neg (by rw [hl]; decide), if_neg (by rw [hd]; decide), hn]
  rw [this]
  exact ⟨⟨rfl, rfl, rfl, rfl, trivial⟩, rfl, trivial⟩
noncomputable def Z27:Sum thy:=Ziq (dA1 dS) (fun x=>0<x.1.length/\x.1.length<=1000000000) (fun x=>tokP x.1) fun y=> .tup [tokV y.1,.int false .i64 y.2]
theorem Zx9:SumOk E 128 Z27:=Vo E_ok (Zc (f:=128) rfl) fun x h=>Zsz x.1 h.1 h.2
structure TkX where
 at_:Nat
 ts:List Tok
 r:Nat
def Atk:Fr thy->Hp thy->Nat->Ann thy:=fun T h i=>{X:=Bool×TkX,fr:=fun x=> [(0,T 0),(5,match x.1 with|true=> .sl i 0 x.2.ts.length 4 none|false=> .val (.slice none 0 0)),(6,.int false .i64 x.2.at_)],bl:=fun x=>(match x.1 with|true=> [(i,.rows Th.toks x.2.ts 0)]|false=> []),src:=fun x=>(match x.1 with|true=> [(i,5)]|false=> []),md:= [],ih:=i+1,M:=i+60,meas:=fun x=>x.2.r,ex:=ex2,al:=al2,exOk:=Zop,alOk:=Zoq}
noncomputable def Ftk:Fns thy:=addL (addS F0 128 Z27) 83 5 Atk E
theorem Z7v:FnsOk E Ftk:=Zl E_ok (Zb F0_ok Zx9) _ _ _
abbrev qBUg (a0:TkX):=(↑(TkX.at_ a0):Int)
abbrev qBUp:=(1:Nat)
abbrev qBUl:=(0:Nat)
abbrev qBUh (a0:Bool×TkX->Prop) (b0:TkX) (c0:List Nat):=(∃(y_1:TkX),a0 (false,y_1)/\y_1.3+qBUp<=b0.3/\true=true/\(c0=c0/\Value.slice none qBUl qBUl=Value.slice none qBUl qBUl/\wr IntKind.i64 ((qBUg b0)+(1:Int))=(qBUg y_1)/\True)/\True)
abbrev qBUi (a0:Bool×TkX->Prop) (b0:TkX) (c0:List Nat):=(∃(y_1:TkX),a0 (false,y_1)/\y_1.3+qBUp<=b0.3/\true=true/\(c0=c0/\False/\wr IntKind.i64 ((qBUg b0)+(1:Int))=(qBUg y_1)/\True)/\True)
abbrev qBUj (a0:List Nat) (b0:TkX) (c0:TkX):=(a0=a0/\(qBUl=qBUl/\List.length (TkX.ts b0)=List.length (TkX.ts c0)/\True)/\wr IntKind.i64 ((qBUg b0)+(1:Int))=(qBUg c0)/\True)
abbrev qBUk (a0:TkX) (b0:List Nat):=(List.drop (Int.toNat (qBUg a0)) b0)
abbrev qBUm:=(Int.toNat (10:Int)%(256:Nat))
abbrev qBUn (a0:List Nat):=(↑(List.length a0):Int)
abbrev qBUo:=(0:Int)
abbrev qBUq (a0:TkX) (b0:Tok×Int):=((qBUg a0)+(↑(List.length (Tok.text (Prod.fst b0))):Int))
abbrev qBUr (a0:TkX) (b0:List Nat):=((qBUg a0)+wr IntKind.i64 (idxL qBUm qBUl (qBUk a0 b0)+(1:Int)))
abbrev qBUs (a0:TkX) (b0:TkX):=(TkX.ts a0=TkX.ts b0/\qBUl=qBUl)
abbrev qBUt (a0:TkX) (b0:List Tok):=(qBUl+List.length (TkX.ts a0)<=List.length (TkX.ts a0)/\List.take (List.length (TkX.ts a0)) (TkX.ts a0)=b0)
abbrev qBUu (a0:TkX) (b0:List Nat):=(qBUo<=(qBUg a0)/\(qBUg a0)<=(qBUn b0))
theorem Znm (s:List Nat) (l:List Tok) (a e:Int):Zf E Ftk (vc E Ftk 400) 83 [.str false s] hp0 0 (fun r=>ret E (patch hp0 0 r) r.v (.tup [.psl Th.toks l false,.int false .i64 a,.int false .i64 e]))=(
 (decide ((qBUn s)>(2000:Int))=true->l= []/\qBUo=a/\(2:Int)=e/\True)/\(decide ((qBUn s)>(2000:Int))=false->∃(R:Bool×TkX->Prop),((∃(y:TkX),R (false,y)/\true=true/\(s=s/\Value.slice none qBUl qBUl=Value.slice none qBUl qBUl/\qBUo=(qBUg y)/\True)/\True)\/∃(y:TkX),R (true,y)/\true=true/\False)/\(∀(y:TkX),R (false,y)->(decide ((qBUg y)<(qBUn s))=true->qBUo<=(qBUg y)/\(qBUg y)+(1:Int)<=(qBUn s)/\∀(x:Nat),s[Int.toNat (qBUg y)]? =some x->(((↑x:Int)==(32:Int))=true->(qBUh R y s)\/∃(y_1:TkX),R (true,y_1)/\y_1.3+qBUp<=y.3/\true=true/\False)/\(((↑x:Int)==(32:Int))=false->(((↑x:Int)==(9:Int))=true->(qBUh R y s)\/∃(y_1:TkX),R (true,y_1)/\y_1.3+qBUp<=y.3/\true=true/\False)/\(((↑x:Int)==(9:Int))=false->(((↑x:Int)==(13:Int))=true->(qBUh R y s)\/∃(y_1:TkX),R (true,y_1)/\y_1.3+qBUp<=y.3/\true=true/\False)/\(((↑x:Int)==(13:Int))=false->(((↑x:Int)==(10:Int))=true->(qBUh R y s)\/∃(y_1:TkX),R (true,y_1)/\y_1.3+qBUp<=y.3/\true=true/\False)/\(((↑x:Int)==(10:Int))=false->(((↑x:Int)==(35:Int))=true->(qBUu y s)/\(decide (idxL qBUm qBUl (qBUk y s)<qBUo)=true->l= []/\qBUo=a/\qBUo=e/\True)/\(decide (idxL qBUm qBUl (qBUk y s)<qBUo)=false->(∃(y_1:TkX),R (false,y_1)/\y_1.3+qBUp<=y.3/\true=true/\(s=s/\Value.slice none qBUl qBUl=Value.slice none qBUl qBUl/\wr IntKind.i64 (qBUr y s)=(qBUg y_1)/\True)/\True)\/∃(y_1:TkX),R (true,y_1)/\y_1.3+qBUp<=y.3/\true=true/\False))/\(((↑x:Int)==(35:Int))=false->(qBUu y s)/\(qBUl+qBUp<=List.length (qBUk y s)/\List.length (qBUk y s)<=(1000000000:Nat))/\∀(y_1:Tok×Int),y_1=tokP (qBUk y s)->((Prod.snd y_1 !=qBUo)=true->l= []/\(qBUg y)=a/\Prod.snd y_1=e/\True)/\((Prod.snd y_1 !=qBUo)=false->(∃(y_2:TkX),R (false,y_2)/\y_2.3+qBUp<=y.3/\true=true/\(s=s/\False/\wr IntKind.i64 (qBUq y y_1)=(qBUg y_2)/\True)/\True)\/∃(y_2:TkX),R (true,y_2)/\y_2.3+qBUp<=y.3/\true=true/\(s=s/\(qBUl=qBUl/\qBUp=List.length (TkX.ts y_2)/\True)/\wr IntKind.i64 (qBUq y y_1)=(qBUg y_2)/\True)/\([Tok.mk (Tok.kind (Prod.fst y_1)) (Tok.text (Prod.fst y_1)) (Tok.n (Prod.fst y_1)) (qBUg y)]=TkX.ts y_2/\qBUl=qBUl)/\True)))))))/\(decide ((qBUg y)<(qBUn s))=false->l= []/\qBUo=a/\qBUo=e/\True))/\∀(y:TkX),R (true,y)->(decide ((qBUg y)<(qBUn s))=true->qBUo<=(qBUg y)/\(qBUg y)+(1:Int)<=(qBUn s)/\∀(x:Nat),s[Int.toNat (qBUg y)]? =some x->(((↑x:Int)==(32:Int))=true->(qBUi R y s)\/∃(y_1:TkX),R (true,y_1)/\y_1.3+qBUp<=y.3/\true=true/\(qBUj s y y_1)/\(qBUs y y_1)/\True)/\(((↑x:Int)==(32:Int))=false->(((↑x:Int)==(9:Int))=true->(qBUi R y s)\/∃(y_1:TkX),R (true,y_1)/\y_1.3+qBUp<=y.3/\true=true/\(qBUj s y y_1)/\(qBUs y y_1)/\True)/\(((↑x:Int)==(9:Int))=false->(((↑x:Int)==(13:Int))=true->(qBUi R y s)\/∃(y_1:TkX),R (true,y_1)/\y_1.3+qBUp<=y.3/\true=true/\(qBUj s y y_1)/\(qBUs y y_1)/\True)/\(((↑x:Int)==(13:Int))=false->(((↑x:Int)==(10:Int))=true->(qBUi R y s)\/∃(y_1:TkX),R (true,y_1)/\y_1.3+qBUp<=y.3/\true=true/\(qBUj s y y_1)/\(qBUs y y_1)/\True)/\(((↑x:Int)==(10:Int))=false->(((↑x:Int)==(35:Int))=true->(qBUu y s)/\(decide (idxL qBUm qBUl (qBUk y s)<qBUo)=true->(qBUt y l)/\qBUo=a/\qBUo=e/\True)/\(decide (idxL qBUm qBUl (qBUk y s)<qBUo)=false->(∃(y_1:TkX),R (false,y_1)/\y_1.3+qBUp<=y.3/\true=true/\(s=s/\False/\wr IntKind.i64 (qBUr y s)=(qBUg y_1)/\True)/\True)\/∃(y_1:TkX),R (true,y_1)/\y_1.3+qBUp<=y.3/\true=true/\(s=s/\(qBUl=qBUl/\List.length (TkX.ts y)=List.length (TkX.ts y_1)/\True)/\wr IntKind.i64 (qBUr y s)=(qBUg y_1)/\True)/\(qBUs y y_1)/\True))/\
(((↑x:Int)==(35:Int))=false->(qBUu y s)/\(qBUl+qBUp<=List.length (qBUk y s)/\List.length (qBUk y s)<=(1000000000:Nat))/\∀(y_1:Tok×Int),y_1=tokP (qBUk y s)->((Prod.snd y_1 !=qBUo)=true->l= []/\(qBUg y)=a/\Prod.snd y_1=e/\True)/\((Prod.snd y_1 !=qBUo)=false->(List.length (TkX.ts y)<=List.length (TkX.ts y)/\qBUl<=List.length (TkX.ts y)/\(List.length (TkX.ts y)+qBUp)*(40:Nat)<=(140737488355328:Nat))/\((∃(y_2:TkX),R (false,y_2)/\y_2.3+qBUp<=y.3/\true=true/\(s=s/\False/\wr IntKind.i64 (qBUq y y_1)=(qBUg y_2)/\True)/\True)\/∃(y_2:TkX),R (true,y_2)/\y_2.3+qBUp<=y.3/\true=true/\(s=s/\(qBUl=qBUl/\List.length (TkX.ts y)+qBUp=List.length (TkX.ts y_2)/\True)/\wr IntKind.i64 (qBUq y y_1)=(qBUg y_2)/\True)/\(List.take (List.length (TkX.ts y)) (TkX.ts y)++ [Tok.mk (Tok.kind (Prod.fst y_1)) (Tok.text (Prod.fst y_1)) (Tok.n (Prod.fst y_1)) (qBUg y)]=TkX.ts y_2/\qBUl=qBUl)/\True))))))))/\(decide ((qBUg y)<(qBUn s))=false->(qBUt y l)/\qBUo=a/\qBUo=e/\True))):=by kernel_rfl
def blk (c:Nat):Bool:=c=32||c=9||c=13||c=10
def tksL:Nat->List Nat->Nat->List Tok->List Tok×Int×Int
 |0,_,_,ts=>(ts,0,0)
 |k+1,s,p,ts=>match s[p]? with
  |none=>(ts,0,0)
  |some c=>if blk c then tksL k s (p+1) ts
   else if c=35 then (if idxL 10 0 (s.drop p)<0 then (ts,0,0) else tksL k s (p+(idxL 10 0 (s.drop p)).toNat+1) ts)
   else if (tokP (s.drop p)).2≠0 then ([],p,(tokP (s.drop p)).2)
   else tksL k s (p+(tokP (s.drop p)).1.text.length) (ts++ [⟨(tokP (s.drop p)).1.kind,(tokP (s.drop p)).1.text,(tokP (s.drop p)).1.n,p⟩])
def Y5 (s:List Nat):List Tok×Int×Int:=if 2000<s.length then ([],0,2) else tksL s.length s 0 []
theorem Znn (c:Nat):∀(l:List Nat) (j:Nat),idxL c j l<j+l.length/\ -1<=idxL c j l
 | [],j=>by unfold idxL;simp;try omega
 |x::r,j=>by
  unfold idxL
  split
  · simp;try omega
  · have:=Znn c r (j+1)
    simp only [List.length_cons]
    omega
theorem Z18 {c:Nat} {w:List Nat} (h:sgnW c=some w):1<=w.length:=by
 unfold sgnW at h
 repeat' split at h
 all_goals (cases h<;>simp)
theorem Zpr {s:List Nat} (h:(tokP s).2=0):1<=(tokP s).1.text.length/\(tokP s).1.text.length<=s.length/\(tokP s).1.text=s.take (tokP s).1.text.length:=by
 cases s with
 |nil=>cases h
 |cons c r=>
  rw [Uf] at h⊢
  have go:∀n,1<=n->n<=(c::r).length->1<=((c::r).take n).length/\((c::r).take n).length<=(c::r).length/\(c::r).take n=(c::r).take ((c::r).take n).length:=fun n h1 h2=>by
   have e:((c::r).take n).length=n:=by rw [List.length_take];omega
   rw [e]
   exact ⟨h1,h2,rfl⟩
  split at h
  · rename_i hl
    rw [if_pos hl]
    split at h
    · cases h
    · rename_i hn
      rw [if_neg hn]
      refine go _ ?_ Zk1
      have:isLD c=true:=by unfold isLD;rw [hl];rfl
      unfold spn
      rw [if_pos this]
      omega
  · rename_i hl
    rw [if_neg hl]
    split at h
    · rename_i hd
      rw [if_pos hd]
      refine go _ ?_ Zk1
      unfold spn
      rw [if_pos hd]
      omega
    · rename_i hd
      rw [if_neg hd]
      split at h
      · rename_i w hw
        unfold tokS at h⊢
        split at h
        · rename_i ht
          have e:=congrArg List.length ht
          rw [List.length_take] at e
          refine ⟨?_,?_,?_⟩
          · simp only [if_pos ht]
            exact Z18 hw
          · simp only [if_pos ht]
            omega
          · simp only [if_pos ht]
            exact ht.symm
        · cases h
      · cases h
def TkI (s:List Nat) (res:List Tok×Int×Int) (y:TkX):Prop:=y.at_<=s.length/\s.length<=y.at_+y.r/\y.ts.length<=y.at_/\tksL y.r s y.at_ y.ts=res
theorem Z28 {s:List Nat} {res} {y:TkX} (h:TkI s res y) (hq:¬y.at_<s.length):res=(y.ts,0,0):=by
 obtain ⟨h1,h2,h3,h4⟩:=h
 rw [<-h4]
 cases hr:y.r with
 |zero=>rfl
 |succ k=>
  unfold tksL
  rw [List.getElem?_eq_none (by omega)]
theorem Ze4 {s:List Nat} {res} {y:TkX} {c:Nat} (h:TkI s res y) (hc:s[y.at_]? =some c):∃k,y.r=k+1/\s.length<=y.at_+(k+1)/\y.at_<s.length/\(if blk c then tksL k s (y.at_+1) y.ts
 else if c=35 then (if idxL 10 0 (s.drop y.at_)<0 then (y.ts,0,0) else tksL k s (y.at_+(idxL 10 0 (s.drop y.at_)).toNat+1) y.ts)
 else if (tokP (s.drop y.at_)).2≠0 then ([],y.at_,(tokP (s.drop y.at_)).2)
 else tksL k s (y.at_+(tokP (s.drop y.at_)).1.text.length) (y.ts++ [⟨(tokP (s.drop y.at_)).1.kind,(tokP (s.drop y.at_)).1.text,(tokP (s.drop y.at_)).1.n,y.at_⟩]))=res:=by
 obtain ⟨h1,h2,h3,h4⟩:=h
 have hlt:=(List.getElem?_eq_some_iff.1 hc).1
 cases hr:y.r with
 |zero=>omega
 |succ k=>
  refine ⟨k,rfl,by omega,hlt,?_⟩
  rw [hr] at h4
  unfold tksL at h4
  rw [hc] at h4
  exact h4
theorem Zps {s:List Nat} {res} {y:TkX} {c:Nat} (h:TkI s res y) (hc:s[y.at_]? =some c) (hb:blk c=true):TkI s res ⟨y.at_+1,y.ts,y.r-1⟩/\y.r-1+1<=y.r/\y.at_<s.length:=by
 obtain ⟨k,hr,hk,hl,he⟩:=Ze4 h hc
 rw [if_pos hb] at he
 have h3:=h.2.2.1
 refine ⟨⟨hl,?_,?_,?_⟩,by omega,hl⟩
 · show s.length<=y.at_+1+(y.r-1)
   omega
 · show y.ts.length<=y.at_+1
   omega
 · rw [hr]
   exact he
theorem Z29 {s:List Nat} {res} {y:TkX} {c:Nat} (h:TkI s res y) (hc:s[y.at_]? =some c) (hb:blk c=false) (h35:c=35) (hi:¬idxL 10 0 (s.drop y.at_)<0):TkI s res ⟨y.at_+(idxL 10 0 (s.drop y.at_)).toNat+1,y.ts,y.r-1⟩/\y.r-1+1<=y.r/\y.at_+(idxL 10 0 (s.drop y.at_)).toNat+1<=s.length:=by
 obtain ⟨k,hr,hk,hl,he⟩:=Ze4 h hc
 rw [if_neg (by rw [hb];decide),if_pos h35,if_neg hi] at he
 have h3:=h.2.2.1
 have hb:=(Znn 10 (s.drop y.at_) 0).1
 rw [List.length_drop] at hb
 refine ⟨⟨?_,?_,?_,?_⟩,by omega,by omega⟩
 · show y.at_+(idxL 10 0 (s.drop y.at_)).toNat+1<=s.length
   omega
 · show s.length<=y.at_+(idxL 10 0 (s.drop y.at_)).toNat+1+(y.r-1)
   omega
 · show y.ts.length<=y.at_+(idxL 10 0 (s.drop y.at_)).toNat+1
   omega
 · rw [hr]
   exact he
theorem Zya {s:List Nat} {res} {y:TkX} {c:Nat} (h:TkI s res y) (hc:s[y.at_]? =some c) (hb:blk c=false) (h35:c=35) (hi:idxL 10 0 (s.drop y.at_)<0):res=(y.ts,0,0):=by
 obtain ⟨k,hr,hk,hl,he⟩:=Ze4 h hc
 rw [if_neg (by rw [hb];decide),if_pos h35,if_pos hi] at he
 exact he.symm
theorem Z3a {s:List Nat} {res} {y:TkX} {c:Nat} (h:TkI s res y) (hc:s[y.at_]? =some c) (hb:blk c=false) (h35:c≠35) (hi:(tokP (s.drop y.at_)).2≠0):res=([],(y.at_:Int),(tokP (s.drop y.at_)).2):=by
 obtain ⟨k,hr,hk,hl,he⟩:=Ze4 h hc
 rw [if_neg (by rw [hb];decide),if_neg h35,if_pos hi] at he
 exact he.symm
theorem Z3b {s:List Nat} {res} {y:TkX} {c:Nat} (h:TkI s res y) (hc:s[y.at_]? =some c) (hb:blk c=false) (h35:c≠35) (hi:(tokP (s.drop y.at_)).2=0):TkI s res ⟨y.at_+(tokP (s.drop y.at_)).1.text.length,y.ts++ [⟨(tokP (s.drop y.at_)).1.kind,(tokP (s.drop y.at_)).1.text,(tokP (s.drop y.at_)).1.n,y.at_⟩],y.r-1⟩/\y.r-1+1<=y.r/\y.at_+(tokP (s.drop y.at_)).1.text.length<=s.length:=by
 obtain ⟨k,hr,hk,hl,he⟩:=Ze4 h hc
 rw [if_neg (by rw [hb];decide),if_neg h35,if_neg (by rw [hi];decide)] at he
 have h3:=h.2.2.1
 obtain ⟨n1,n2,_⟩:=Zpr hi
 rw [List.length_drop] at n2
 refine ⟨⟨?_,?_,?_,?_⟩,by omega,by omega⟩
 · show y.at_+(tokP (s.drop y.at_)).1.text.length<=s.length
   omega
 · show s.length<=y.at_+(tokP (s.drop y.at_)).1.text.length+(y.r-1)
   omega
 · show (y.ts++ [_]).length<=y.at_+(tokP (s.drop y.at_)).1.text.length
   rw [List.length_append]
   simp
   omega
 · rw [hr]
   exact he
theorem Zno (s:List Nat):PureC E 83 [.str false s] (.tup [.psl Th.toks (Y5 s).1 false,.int false .i64 (Y5 s).2.1,.int false .i64 (Y5 s).2.2]):=by
 refine Za E_ok (Ze E_ok Z7v 400) ?_
 rw [Znm];delta qBUg qBUp qBUl qBUh qBUi qBUj qBUk qBUm qBUn qBUo qBUq qBUr qBUs qBUt qBUu
 refine ⟨fun h=> ?_,fun h=> ?_⟩
 · have h:(s.length:Int)>2000:=by simpa using h
   unfold Y5
   rw [if_pos (by omega)]
   exact ⟨rfl,rfl,rfl,trivial⟩
 have h:¬(s.length:Int)>2000:=by simpa using h
 have hp:Y5 s=tksL s.length s 0 []:=by unfold Y5;rw [if_neg (by omega)]
 generalize Y5 s=res at hp
 refine ⟨fun x=>(x.1=false->x.2.ts= [])/\TkI s res x.2,Or.inl ⟨⟨0,[],s.length⟩,⟨fun _=>rfl,Nat.zero_le _,by show s.length<=0+s.length;omega,Nat.le_refl _,hp.symm⟩,rfl,⟨rfl,rfl,rfl,trivial⟩,trivial⟩,?_,?_⟩
 all_goals
  rintro y ⟨h0,hy⟩
  replace hy:TkI s res y:=hy
  refine ⟨fun hq=> ?_,fun hq=> ?_⟩
 · have h0:y.ts= []:=h0 rfl
   have hq:(y.at_:Int)<s.length:=by simpa using hq
   refine ⟨by omega,by omega,fun c hc=> ?_⟩
   have hc:s[y.at_]? =some c:=hc
   have bl:∀n:Nat,((c:Int)==(n:Int))=true->c=n:=fun n h=>by
    have:(c:Int)=n:=by simpa using h
    omega
   have nb:∀n:Nat,((c:Int)==(n:Int))=false->c≠n:=fun n h e=>by subst e;simp at h
   have gb:blk c=true->(∃(y_1:TkX),((false=false->y_1.ts= [])/\TkI s res y_1)/\y_1.3+(1:Nat)<=y.3/\true=true/\(s=s/\Value.slice none (0:Nat) (0:Nat)=Value.slice none (0:Nat) (0:Nat)/\wr IntKind.i64 ((↑(TkX.at_ y):Int)+(1:Int))=(↑(TkX.at_ y_1):Int)/\True)/\True):=fun hb=>
    ⟨⟨y.at_+1,y.ts,y.r-1⟩,⟨fun _=>h0,(Zps hy hc hb).1⟩,(Zps hy hc hb).2.1,rfl,⟨rfl,rfl,wr64 (by omega) (by omega),trivial⟩,trivial⟩
   refine ⟨fun h1=>Or.inl (gb (by rw [bl 32 h1];rfl)),fun h1=>⟨fun h2=>Or.inl (gb (by rw [bl 9 h2];rfl)),fun h2=>⟨fun h3=>Or.inl (gb (by rw [bl 13 h3];rfl)),fun h3=>⟨fun h4=>Or.inl (gb (by rw [bl 10 h4];rfl)),fun h4=> ?_⟩⟩⟩⟩
   have hb:blk c=false:=by
    unfold blk
    simp [nb 32 h1,nb 9 h2,nb 13 h3,nb 10 h4]
   have ea:Int.toNat (y.at_:Int)=y.at_:=by omega
   rw [ea]
   refine ⟨fun h5=> ?_,fun h5=> ?_⟩
   · have h35:c=35:=bl 35 h5
     refine ⟨⟨by omega,by omega⟩,fun h6=> ?_,fun h6=> ?_⟩
     · have h6:idxL 10 0 (s.drop y.at_)<0:=by simpa using h6
       have:=Zya hy hc hb h35 h6
       rw [this,h0]
       exact ⟨rfl,rfl,rfl,trivial⟩
     · have h6:¬idxL 10 0 (s.drop y.at_)<0:=by simpa using h6
       obtain ⟨g1,g2,g3⟩:=Z29 hy hc hb h35 h6
       refine Or.inl ⟨⟨y.at_+(idxL 10 0 (s.drop y.at_)).toNat+1,y.ts,y.r-1⟩,⟨fun _=>h0,g1⟩,g2,rfl,⟨rfl,rfl,?_,trivial⟩,trivial⟩
       show wr IntKind.i64 ((y.at_:Int)+wr IntKind.i64 (idxL 10 0 (s.drop y.at_)+1))=((y.at_+(idxL 10 0 (s.drop y.at_)).toNat+1:Nat):Int)
       rw [show wr IntKind.i64 (idxL 10 0 (s.drop y.at_)+1)=idxL 10 0 (s.drop y.at_)+1 from wr64 (by omega) (by omega)]
       rw [wr64 (by omega) (by omega)]
       omega
   · have h35:c≠35:=nb 35 h5
     refine ⟨⟨by omega,by omega⟩,⟨by rw [List.length_drop];omega,by rw [List.length_drop];omega⟩,fun z hz=> ?_⟩
     subst hz
     refine ⟨fun h6=> ?_,fun h6=> ?_⟩
     · have h6:(tokP (s.drop y.at_)).2≠0:=by simpa using h6
       rw [Z3a hy hc hb h35 h6]
       exact ⟨rfl,rfl,rfl,trivial⟩
     · have h6:(tokP (s.drop y.at_)).2=0:=by simpa using h6
       obtain ⟨g1,g2,g3⟩:=Z3b hy hc hb h35 h6
       rw [h0] at g1
       refine Or.inr ⟨_,⟨(fun h=>by cases h),g1⟩,g2,rfl,⟨rfl,⟨rfl,rfl,trivial⟩,?_,trivial⟩,⟨rfl,rfl⟩,trivial⟩
       show wr IntKind.i64 ((y.at_:Int)+((tokP (s.drop y.at_)).1.text.length:Int))=((y.at_+(tokP (s.drop y.at_)).1.text.length:Nat):Int)
       rw [wr64 (by omega) (by omega)]
       omega
 · have hq:¬(y.at_:Int)<s.length:=by simpa using hq
   rw [Z28 hy (by omega),h0 rfl]
   exact ⟨rfl,rfl,rfl,trivial⟩
 · have hq:(y.at_:Int)<s.length:=by simpa using hq
   refine ⟨by omega,by omega,fun c hc=> ?_⟩
   have hc:s[y.at_]? =some c:=hc
   have bl:∀n:Nat,((c:Int)==(n:Int))=true->c=n:=fun n h=>by
    have:(c:Int)=n:=by simpa using h
    omega
   have nb:∀n:Nat,((c:Int)==(n:Int))=false->c≠n:=fun n h e=>by subst e;simp at h
   have gb:blk c=true->∃(y_1:TkX),((true=false->y_1.ts= [])/\TkI s res y_1)/\y_1.3+(1:Nat)<=y.3/\true=true/\(s=s/\((0:Nat)=(0:Nat)/\List.length (TkX.ts y)=List.length (TkX.ts y_1)/\True)/\wr IntKind.i64 ((↑(TkX.at_ y):Int)+(1:Int))=(↑(TkX.at_ y_1):Int)/\True)/\(TkX.ts y=TkX.ts y_1/\(0:Nat)=(0:Nat))/\True:=fun hb=>
    ⟨⟨y.at_+1,y.ts,y.r-1⟩,⟨(fun h=>by cases h),(Zps hy hc hb).1⟩,(Zps hy hc hb).2.1,rfl,⟨rfl,⟨rfl,rfl,trivial⟩,wr64 (by omega) (by omega),trivial⟩,⟨rfl,rfl⟩,trivial⟩
   refine ⟨fun h1=>Or.inr (gb (by rw [bl 32 h1];rfl)),fun h1=>⟨fun h2=>Or.inr (gb (by rw [bl 9 h2];rfl)),fun h2=>⟨fun h3=>Or.inr (gb (by rw [bl 13 h3];rfl)),fun h3=>⟨fun h4=>Or.inr (gb (by rw [bl 10 h4];rfl)),fun h4=> ?_⟩⟩⟩⟩
   have hb:blk c=false:=by
    unfold blk
    simp [nb 32 h1,nb 9 h2,nb 13 h3,nb 10 h4]
   have ea:Int.toNat (y.at_:Int)=y.at_:=by omega
   have h3:=hy.2.2.1
   rw [ea]
   refine ⟨fun h5=> ?_,fun h5=> ?_⟩
   · have h35:c=35:=bl 35 h5
     refine ⟨⟨by omega,by omega⟩,fun h6=> ?_,fun h6=> ?_⟩
     · have h6:idxL 10 0 (s.drop y.at_)<0:=by simpa using h6
       have:=Zya hy hc hb h35 h6
       rw [this]
       exact ⟨⟨by omega,List.take_length⟩,rfl,rfl,trivial⟩
     · have h6:¬idxL 10 0 (s.drop y.at_)<0:=by simpa using h6
       obtain ⟨g1,g2,g3⟩:=Z29 hy hc hb h35 h6
       refine Or.inr ⟨_,⟨(fun h=>by cases h),g1⟩,g2,rfl,⟨rfl,⟨rfl,rfl,trivial⟩,?_,trivial⟩,⟨rfl,rfl⟩,trivial⟩
       show wr IntKind.i64 ((y.at_:Int)+wr IntKind.i64 (idxL 10 0 (s.drop y.at_)+1))=((y.at_+(idxL 10 0 (s.drop y.at_)).toNat+1:Nat):Int)
       rw [show wr IntKind.i64 (idxL 10 0 (s.drop y.at_)+1)=idxL 10 0 (s.drop y.at_)+1 from wr64 (by omega) (by omega)]
       rw [wr64 (by omega) (by omega)]
       omega
   · have h35:c≠35:=nb 35 h5
     refine ⟨⟨by omega,by omega⟩,⟨by rw [List.length_drop];omega,by rw [List.length_drop];omega⟩,fun z hz=> ?_⟩
     subst hz
     refine ⟨fun h6=> ?_,fun h6=> ?_⟩
     · have h6:(tokP (s.drop y.at_)).2≠0:=by simpa using h6
       rw [Z3a hy hc hb h35 h6]
       exact ⟨rfl,rfl,rfl,trivial⟩
     · have h6:(tokP (s.drop y.at_)).2=0:=by simpa using h6
       obtain ⟨g1,g2,g3⟩:=Z3b hy hc hb h35 h6
       refine ⟨⟨Nat.le_refl _,Nat.zero_le _,by omega⟩,Or.inr ⟨_,⟨(fun h=>by cases h),g1⟩,g2,rfl,⟨rfl,⟨rfl,?_,trivial⟩,?_,trivial⟩,⟨?_,rfl⟩,trivial⟩⟩
       · show y.ts.length+1=(y.ts++ [_]).length
         rw [List.length_append]
         rfl
       · show wr IntKind.i64 ((y.at_:Int)+((tokP (s.drop y.at_)).1.text.length:Int))=((y.at_+(tokP (s.drop y.at_)).1.text.length:Nat):Int)
         rw [wr64 (by omega) (by omega)]
         omega
       · show List.take y.ts.length y.ts++_=y.ts++_
         rw [List.take_length]
 · have hq:¬(y.at_:Int)<s.length:=by simpa using hq
   rw [Z28 hy (by omega)]
   exact ⟨⟨by omega,List.take_length⟩,rfl,rfl,trivial⟩
end
section
open Go.RowKit
section
variable {Y : Thy} {E : Eng Y}
def frzH (h:Hp Y) (bs:List Nat):Hp Y:=fun b=>match memB b bs with|true=>frzB (h b)|false=>h b
noncomputable def frzA (E:Eng Y) (gth:List (SV Y)->Option Y.Th) (n:Nat) (S:Sum Y):Sum Y:=fun args h i k=>
 match args with
 |a::rest=>frzL (frzK E gth h n) rest fun rest' bs=>S (a::rest') (frzH h bs) i fun r=>Wy (bs++r.mods) fun m=>k ⟨r.v,r.n,m,patch (frzH h bs) i r,none⟩
 | []=>False
theorem Zaz {h:Hp Y} {bs:List Nat} {b:Nat} (hb:frzH h bs b≠none):h b≠none:=by
 intro e
 apply hb
 unfold frzH
 rw [e]
 cases memB b bs<;>rfl
theorem Zzg {h:Hp Y} {bs:List Nat} {b:Nat} (hb:b∉bs):frzH h bs b=h b:=by
 unfold frzH
 cases hm:memB b bs with
 |true=>exact absurd (memB_iff.1 hm) hb
 |false=>rfl
theorem Um (h:Hp Y) (bs:List Nat) (i:Nat) (r:Res Y):patch h i ⟨r.v,r.n,bs++r.mods,patch (frzH h bs) i r,none⟩=patch (frzH h bs) i r:=by
 funext b
 rw [Zg]
 by_cases c:b∈bs++r.mods\/(i<=b/\b<i+r.n)
 · rw [if_pos c]
 · rw [if_neg c,Zg]
   have c1:b∉bs:=fun h=>c (.inl (List.mem_append_left _ h))
   rw [if_neg (fun h=>c (h.elim (fun h=> .inl (List.mem_append_right _ h)) .inr)),Zzg c1]
theorem Zgw {h:Hp Y} {bs:List Nat} {i n:Nat} {mods:List Nat} {σ σ':Pl} {g g':GH} {w w':World} {B:Nat} (hI:Inv E B σ h g w) (hS:Stp i n mods σ (frzG E h σ bs g w) w σ' g' w'):Stp i n (bs++mods) σ g w σ' g' w':=by
 refine ⟨hS.sig,hS.snew,(Vb hI).trans hS.gle,fun r o v hv=> ?_,hS.gmnew,fun r hr hx=>hS.heap r hr fun b hb=>hx b (List.mem_append_right _ hb),hS.size,hS.os,hS.tape,hS.output,fun b r z h1 h2=> ?_⟩
 · rcases hS.gcnew r o v hv with h1|h1|⟨b,hb,h1⟩
   · rcases Vz h1 with ⟨_,b,hb,z,x,h2,_⟩|h2
     · exact .inr (.inr ⟨b,List.mem_append_left _ hb,z,h2⟩)
     · exact .inl h2
   · exact .inr (.inl h1)
   · exact .inr (.inr ⟨b,List.mem_append_right _ hb,h1⟩)
 · rcases hS.blk b r z h1 h2 with h3|⟨b',hb',h3⟩
   · exact .inl h3
   · exact .inr ⟨b',List.mem_append_right _ hb',h3⟩
theorem Z3y (hE:EngOk E) {gth:List (SV Y)->Option Y.Th} {n:Nat} {f:Nat} {S:Sum Y} (hS:SumOk E f S):SumOk E f (frzA E gth n S):=by
 refine ⟨hS.good,fun args h i k hD hk=> ?_⟩
 unfold frzA at hk
 split at hk
 case h_2=>exact hk.elim
 rename_i a rest
 obtain ⟨rest',bs,hk,o⟩:=Wv (Vy hE n) hk
 obtain ⟨r,hk,hR,htri⟩:=hS.ok (a::rest') (frzH h bs) i _ (fun b hb=>hD b (Zaz hb)) hk
 rw [Y7] at hk
 have args2:∀(B:Nat) (σ:Pl) (g:GH) (w:World) (vals:List Value),Inv E B σ h g w->DenL E σ g (a::rest) vals->DenL E σ (frzG E h σ bs g w) (a::rest') vals:=by
  intro B σ g w vals hI hd
  have hle:=Vb (bs:=bs) hI
  refine ⟨by rw [<-hd.1];simp [o.len],fun j sv' u h1 h2=> ?_⟩
  cases j with
  |zero=>
   simp at h1;subst h1
   exact (hd.2 0 _ u rfl h2).mono (.refl _) hle
  |succ j=>
   have h1:rest'[j]? =some sv':=by simpa using h1
   have hjl:j<rest.length:=by rw [<-o.len];exact (List.getElem?_eq_some_iff.1 h1).1
   exact (o.den h σ g w B _ (fun _ _=>rfl) hI hle Za0 j _ sv' u (List.getElem?_eq_getElem hjl) h1 (hd.2 (j+1) _ u (by simpa using List.getElem?_eq_getElem hjl) h2)).mono (fun b p h=>by cases h) (.refl _)
 refine ⟨_,hk,fun b hb=> ?_,?_⟩
 · have hb:b∈bs++r.mods:=hb
   rcases List.mem_append.1 hb with h1|h1
   · obtain ⟨y,hy,_⟩:=o.blk b h1
     rw [hy];simp
   · exact Zaz (hR b h1)
 rcases htri with ht|⟨p,hp,ht⟩
 · refine .inl ?_
   intro B σ g w vals hh hrd hI hB hfree hd
   obtain rfl:hh=h:=funext fun b=>hrd b trivial
   refine (ht B σ _ w vals (frzH hh bs) (fun _ _=>rfl) (Zdp hE o.blk hI) hB hfree (args2 B σ g w _ hI hd)).mono ?_
   rintro en w' ⟨u,he,σ',g',hst,hI',hv⟩
   refine ⟨u,he,σ',g',Zgw hI hst,?_,hv⟩
   rw [Um]
   exact hI'
 · refine .inr ⟨p,hp,fun B σ g w vals hI hB hfree hd=> ?_⟩
   refine (ht B σ _ w vals (Zdp hE o.blk hI) hB hfree (args2 B σ g w _ hI hd)).mono ?_
   rintro en w' ⟨he,σ',g',hst,hI'⟩
   refine ⟨he,σ',g',Zgw hI hst,?_⟩
   rw [Um]
   exact hI'
noncomputable def Zfl (E:Eng Y) (gth:List (SV Y)->Option Y.Th) (n:Nat) (S:Sum Y):Sum Y:=fun args h i k=>
 frzL (frzK E gth h n) args fun rest' bs=>S rest' (frzH h bs) i fun r=>Wy (bs++r.mods) fun m=>k ⟨r.v,r.n,m,patch (frzH h bs) i r,none⟩
theorem Vx (hE:EngOk E) {gth:List (SV Y)->Option Y.Th} {n:Nat} {f:Nat} {S:Sum Y} (hS:SumOk E f S):SumOk E f (Zfl E gth n S):=by
 refine ⟨hS.good,fun args h i k hD hk=> ?_⟩
 unfold Zfl at hk
 obtain ⟨rest',bs,hk,o⟩:=Wv (Vy hE n) hk
 obtain ⟨r,hk,hR,htri⟩:=hS.ok rest' (frzH h bs) i _ (fun b hb=>hD b (Zaz hb)) hk
 rw [Y7] at hk
 have args2:∀(B:Nat) (σ:Pl) (g:GH) (w:World) (vals:List Value),Inv E B σ h g w->DenL E σ g args vals->DenL E σ (frzG E h σ bs g w) rest' vals:=by
  intro B σ g w vals hI hd
  have hle:=Vb (bs:=bs) hI
  refine ⟨by rw [<-hd.1];exact o.len,fun j sv' u h1 h2=> ?_⟩
  have hjl:j<args.length:=by rw [<-o.len];exact (List.getElem?_eq_some_iff.1 h1).1
  exact (o.den h σ g w B _ (fun _ _=>rfl) hI hle Za0 j _ sv' u (List.getElem?_eq_getElem hjl) h1 (hd.2 j _ u (List.getElem?_eq_getElem hjl) h2)).mono (fun b p h=>by cases h) (.refl _)
 refine ⟨_,hk,fun b hb=> ?_,?_⟩
 · have hb:b∈bs++r.mods:=hb
   rcases List.mem_append.1 hb with h1|h1
   · obtain ⟨y,hy,_⟩:=o.blk b h1
     rw [hy];simp
   · exact Zaz (hR b h1)
 rcases htri with ht|⟨p,hp,ht⟩
 · refine .inl ?_
   intro B σ g w vals hh hrd hI hB hfree hd
   obtain rfl:hh=h:=funext fun b=>hrd b trivial
   refine (ht B σ _ w vals (frzH hh bs) (fun _ _=>rfl) (Zdp hE o.blk hI) hB hfree (args2 B σ g w _ hI hd)).mono ?_
   rintro en w' ⟨u,he,σ',g',hst,hI',hv⟩
   refine ⟨u,he,σ',g',Zgw hI hst,?_,hv⟩
   rw [Um]
   exact hI'
 · refine .inr ⟨p,hp,fun B σ g w vals hI hB hfree hd=> ?_⟩
   refine (ht B σ _ w vals (Zdp hE o.blk hI) hB hfree (args2 B σ g w _ hI hd)).mono ?_
   rintro en w' ⟨he,σ',g',hst,hI'⟩
   refine ⟨he,σ',g',Zgw hI hst,?_⟩
   rw [Um]
   exact hI'
end
end
section
open Go
noncomputable def Zth:Sum thy:=Ziq (dA1 dS) (fun _=>True) (fun x=>Y5 x.1) fun y=> .tup [.psl Th.toks y.1 false,.int false .i64 y.2.1,.int false .i64 y.2.2]
theorem Zp5:SumOk E 83 Zth:=Vo E_ok (Zc (f:=83) rfl) fun x _=>Zno x.1
noncomputable def Zti:Sum thy:=frzA E (fun _=>none) 2 (sumM (mI (dA1 dCls) (n1 fun _=>rfl) dCl (fun _=>rfl)) (fun x a=>x.1.length<1000000000/\a.1.length<=1000000000) fun x a=>Xl a.1 x.1 x.2.1)
theorem Zp6:SumOk E 90 Zti:=Z3y E_ok (Xf E_ok (Zc rfl) fun x a h=>Zqk a.1 x.1 x.2.1 h.1 h.2)
structure QX where
 cs:List Cls
 fz:Nat
 l:List Tok
 ed:Int
 p:Int
 k:Nat
def Apa:Fr thy->Hp thy->Nat->Ann thy:=fun T h i=>{X:=Bool×QX,fr:=fun x=> [(0,T 0),(2,T 2),(3,T 3),(4,T 4),(6,T 6),(7,.int false .i64 x.2.p)],bl:=fun x=>(bOf (T 6),.raw [.psl Th.toks x.2.l false,.int false .i64 x.2.ed] 0 none)::(bOf (T 2),.raw ((cellsOf h (T 2)).take 2++ [match x.1 with|true=> .sl i 0 x.2.cs.length 9 none|false=> .val (.slice none 0 0)]) 0 none)::((match x.1 with|true=> [(i,.rows Th.clauses x.2.cs x.2.fz)]|false=> [])++(blkP h (T 3)++blkP h (T 4))),src:=fun x=>(match x.1 with|true=> [(i,3002)]|false=> []),md:= [bOf (T 6),bOf (T 2)],ih:=i+1,M:=i+60,meas:=fun x=>x.2.k,ex:=ex2,al:=al2,exOk:=Zop,alOk:=Zoq}
noncomputable def Fpa:Fns thy:=addL (addS (addS (addS Fme 88 Zz1) 83 Zth) 90 Zti) 51 12 Apa E
theorem Z56:FnsOk E Fpa:=Zl E_ok (Zb (Zb (Zb Zd3 Zol) Zp5) Zp6) _ _ _
abbrev qBW1 (a0:Tar):=([]=Tar.name a0/\(0:Int)=Tar.for_ a0/\Tar.clauses a0= []/\True)
abbrev qBW8:=(0:Nat)
abbrev qBW2 (a0:List Nat) (b0:Int) (c0:QX):=(a0=a0/\qBW8=qBW8/\qBW8=qBW8/\qBW8=qBW8/\qBW8=qBW8/\b0=QX.p c0/\True)
abbrev qBW3 (a0:PX) (b0:QX):=((Prod.fst a0=QX.l b0/\(false=true->false=true))/\Prod.fst (Prod.snd a0)=QX.ed b0/\True)
abbrev qBW4 (a0:List Tok×Int×Int):=(Prod.fst (Prod.snd a0)=Prod.fst (Prod.snd a0)/\True)
abbrev qBW5 (a0:List Tok×Int×Int):=(Prod.snd (Prod.snd a0)=Prod.snd (Prod.snd a0)/\True)
abbrev qBW6 (a0:Cls):=(Ex.mk (Ex.op (Cls.pay a0)) (Ex.n (Cls.pay a0)) (Ex.d0 (Cls.pay a0)) (Ex.d1 (Cls.pay a0)) (Ex.d2 (Cls.pay a0)) (Ex.d3 (Cls.pay a0)) (Ex.l (Cls.pay a0)))
abbrev qBWa (a0:QX):=(List.tail (QX.l a0))
abbrev qBW7 (a0:QX):=((↑(List.length (qBWa a0)):Int)>(0:Int))
abbrev qBW9 (a0:QX):=(List.length (QX.cs a0))
abbrev qBWb (a0:PX):=(Prod.fst (Prod.snd a0))
abbrev qBWc (a0:QX):=(List.take (qBW9 a0) (List.drop qBW8 (QX.cs a0)))
abbrev qBWd (a0:Int):=((1:Int)+a0)
theorem Zp7 (s:List Nat) (t:Tar) (a e:Int):Zf E Fpa (vc E Fpa 400) 51 [.str false s] hp0 0 (fun r=>ret E (patch hp0 0 r) r.v (.tup [.agg [.str false t.name,.int false .i64 t.for_,.psl Th.clauses t.clauses false],.int false .i64 a,.int false .i64 e]))=(
 True/\∀(y:List Tok×Int×Int),y=Y5 s->((Prod.snd (Prod.snd y) !=(0:Int))=true->(qBW1 t)/\Prod.fst (Prod.snd y)=a/\Prod.snd (Prod.snd y)=e/\True)/\((Prod.snd (Prod.snd y) !=(0:Int))=false->(isW [(116:Nat),(97:Nat),(114:Nat),(105:Nat),(102:Nat),(102:Nat)] (Prod.fst y)=true->True/\(∀(y_1:List Nat) (x':PX),Zdr (List.tail (Prod.fst y)) (↑(List.length s):Int)=Except.ok (y_1,x')->(isW [(102:Nat),(111:Nat),(114:Nat)] (Prod.fst x')=true->(WK.ki=WK.at_\/WK.ki=WK.ki\/WK.ki=WK.un)/\(∀(y_2:Int) (x'_1:PX),X3 (WK.words WK.ki) (List.tail (Prod.fst x')) (qBWb x')=Except.ok (y_2,x'_1)->(isW [(123:Nat)] (Prod.fst x'_1)=true->∀(y_3:Int),y_3=hdT (qBWb x'_1) (List.tail (Prod.fst x'_1))->∃(R:Bool×QX->Prop),((∃(y_4:QX),R (false,y_4)/\true=true/\(qBW2 s y_3 y_4)/\((List.tail (Prod.fst x'_1)=QX.l y_4/\(false=true->false=true))/\Prod.fst (Prod.snd x'_1)=QX.ed y_4/\True)/\(y_1=y_1/\wr IntKind.i64 (qBWd y_2)=wr IntKind.i64 (qBWd y_2)/\Value.slice none qBW8 qBW8=Value.slice none qBW8 qBW8/\True)/\(qBW4 y)/\(qBW5 y)/\True)\/∃(y:QX),R (true,y)/\true=true/\False)/\(∀(y_4:QX),R (false,y_4)->(isW [(99:Nat),(108:Nat),(97:Nat),(117:Nat),(115:Nat),(101:Nat)] (QX.l y_4)=true->(List.length (qBWa y_4)+(1:Nat)<=(1000000000:Nat)/\qBW8<=(1000000000:Nat))/\(∀(y_5:Cls) (x':PX),Xl [] (qBWa y_4) (QX.ed y_4)=Except.ok (y_5,x')->∀(y_6:Int),y_6=hdT (qBWb x') (Prod.fst x')->(∃(y_7:QX),R (false,y_7)/\y_7.6+(1:Nat)<=y_4.6/\true=true/\(qBW2 s y_6 y_7)/\(qBW3 x' y_7)/\(y_1=y_1/\wr IntKind.i64 (qBWd y_2)=wr IntKind.i64 (qBWd y_2)/\False/\True)/\(qBW4 y)/\(qBW5 y)/\True)\/∃(y_7:QX),R (true,y_7)/\y_7.6+(1:Nat)<=y_4.6/\true=true/\(qBW2 s y_6 y_7)/\(qBW3 x' y_7)/\(y_1=y_1/\wr IntKind.i64 (qBWd y_2)=wr IntKind.i64 (qBWd y_2)/\(qBW8=qBW8/\(1:Nat)=List.length (QX.cs y_7)/\True)/\True)/\([Cls.mk (Cls.name y_5) (Cls.when_ y_5) (qBW6 y_5)]=QX.cs y_7/\qBW8=QX.fz y_7)/\(qBW4 y)/\(qBW5 y)/\True)/\∀(e_1:Int×Int),Xl [] (qBWa y_4) (QX.ed y_4)=Except.error e_1->(qBW1 t)/\Prod.fst e_1=a/\Prod.snd e_1=e/\True)/\(isW [(99:Nat),(108:Nat),(97:Nat),(117:Nat),(115:Nat),(101:Nat)] (QX.l y_4)=false->(isW [(125:Nat)] (QX.l y_4)=true->(decide (qBW7 y_4)=true->∀(y:Int),y=hdT (QX.ed y_4) (qBWa y_4)->(qBW1 t)/\y=a/\(160:Int)=e/\True)/\(decide (qBW7 y_4)=false->(y_1=Tar.name t/\wr IntKind.i64 (qBWd y_2)=Tar.for_ t/\Tar.clauses t= []/\True)/\(0:Int)=a/\(0:Int)=e/\True))/\(isW [(125:Nat)] (QX.l y_4)=false->(qBW1 t)/\hdT (QX.ed y_4) (QX.l y_4)=a/\(160:Int)=e/\True)))/\∀(y_4:QX),R (true,y_4)->(isW [(99:Nat),(108:Nat),(97:Nat),(117:Nat),(115:Nat),(101:Nat)] (QX.l y_4)=true->(((↑(qBW9 y_4):Int)==(64:Int))=true->(qBW1 t)/\QX.p y_4=a/\(2:Int)=e/\True)/\(((↑(qBW9 y_4):Int)==(64:Int))=false->qBW8+List.length (QX.cs y_4)<=List.length (QX.cs y_4)/\(List.length (qBWa y_4)+(1:Nat)<=(1000000000:Nat)/\List.length (qBWc y_4)<=(1000000000:Nat))/\(∀(y_5:Cls) (x':PX),Xl (qBWc y_4) (qBWa y_4) (QX.ed y_4)=Except.ok (y_5,x')->(List.length (QX.cs y_4)<=List.length (QX.cs y_4)/\mx2 (QX.fz y_4) (qBW9 y_4)<=List.length (QX.cs y_4)/\(List.length (QX.cs y_4)+(1:Nat))*(112:Nat)<=(140737488355328:Nat))/\∀(y_6:Int),y_6=hdT (qBWb x') (Prod.fst x')->(∃(y_7:QX),R (false,y_7)/\y_7.6+(1:Nat)<=y_4.6/\true=true/\(qBW2 s y_6 y_7)/\(qBW3 x' y_7)/\(y_1=y_1/\wr IntKind.i64 (qBWd y_2)=wr IntKind.i64 (qBWd y_2)/\False/\True)/\(qBW4 y)/\(qBW5 y)/\True)\/∃(y_7:QX),R (true,y_7)/\y_7.6+(1:Nat)<=y_4.6/\true=true/\(qBW2 s y_6 y_7)/\(qBW3 x' y_7)/\(y_1=y_1/\wr IntKind.i64 (qBWd y_2)=wr IntKind.i64 (qBWd y_2)/\
(qBW8=qBW8/\List.length (QX.cs y_4)+(1:Nat)=List.length (QX.cs y_7)/\True)/\True)/\(List.take (qBW9 y_4) (QX.cs y_4)++ [Cls.mk (Cls.name y_5) (Cls.when_ y_5) (qBW6 y_5)]=QX.cs y_7/\mx2 (QX.fz y_4) (qBW9 y_4)=QX.fz y_7)/\(qBW4 y)/\(qBW5 y)/\True)/\∀(e_1:Int×Int),Xl (qBWc y_4) (qBWa y_4) (QX.ed y_4)=Except.error e_1->(qBW1 t)/\Prod.fst e_1=a/\Prod.snd e_1=e/\True))/\(isW [(99:Nat),(108:Nat),(97:Nat),(117:Nat),(115:Nat),(101:Nat)] (QX.l y_4)=false->(isW [(125:Nat)] (QX.l y_4)=true->(decide (qBW7 y_4)=true->∀(y:Int),y=hdT (QX.ed y_4) (qBWa y_4)->(qBW1 t)/\y=a/\(160:Int)=e/\True)/\(decide (qBW7 y_4)=false->(y_1=Tar.name t/\wr IntKind.i64 (qBWd y_2)=Tar.for_ t/\(qBW8+List.length (QX.cs y_4)<=List.length (QX.cs y_4)/\List.take (qBW9 y_4) (QX.cs y_4)=Tar.clauses t)/\True)/\(0:Int)=a/\(0:Int)=e/\True))/\(isW [(125:Nat)] (QX.l y_4)=false->(qBW1 t)/\hdT (QX.ed y_4) (QX.l y_4)=a/\(160:Int)=e/\True)))/\(isW [(123:Nat)] (Prod.fst x'_1)=false->(qBW1 t)/\hdT (qBWb x'_1) (Prod.fst x'_1)=a/\(160:Int)=e/\True))/\∀(e_1:Int×Int),X3 (WK.words WK.ki) (List.tail (Prod.fst x')) (qBWb x')=Except.error e_1->(qBW1 t)/\Prod.fst e_1=a/\Prod.snd e_1=e/\True)/\(isW [(102:Nat),(111:Nat),(114:Nat)] (Prod.fst x')=false->(qBW1 t)/\hdT (qBWb x') (Prod.fst x')=a/\(160:Int)=e/\True))/\∀(e_1:Int×Int),Zdr (List.tail (Prod.fst y)) (↑(List.length s):Int)=Except.error e_1->(qBW1 t)/\Prod.fst e_1=a/\Prod.snd e_1=e/\True)/\(isW [(116:Nat),(97:Nat),(114:Nat),(105:Nat),(102:Nat),(102:Nat)] (Prod.fst y)=false->(qBW1 t)/\hdT (↑(List.length s):Int) (Prod.fst y)=a/\(160:Int)=e/\True))):=by kernel_rfl
theorem Ztj:∀{k:Nat} {more:Bool} {ts:List Tst} {l:List Tok} {e:Int} {ts':List Tst} {x:PX},pTs k more ts l e= .ok (ts',x)->x.1.length<=l.length
 |0,more,ts,l,e,ts',x,h=>by
  unfold pTs at h
  injection h with h
  injection h with _ h
  subst h
  exact Nat.le_refl _
 |k+1,more,ts,l,e,ts',x,h=>by
  unfold pTs at h
  split at h
  · split at h
    · cases h
    · rename_i t z ht
      have h1:=(Zdu ht).1
      have h2:=Ztj h
      split at h2
      · rw [List.length_tail] at h2
        omega
      · omega
  · injection h with h
    injection h with _ h
    subst h
    exact Nat.le_refl _
theorem Z57 {l:List Tok} {e:Int} {y:Ex} {x:PX} (h:pX l e= .ok (y,x)):x.1.length<=l.length:=by
 have:=Zyd l e y x h
 omega
theorem Zy3 {nm:List Nat} {ts:List Tst} {l:List Tok} {e:Int} {c:Cls} {x:PX} (h:pPay nm ts l e= .ok (c,x)):x.1.length<=l.length:=by
 unfold pPay at h
 split at h
 · split at h
   · cases h
   · rename_i y z hy
     have h1:=Z57 hy
     rw [List.length_tail] at h1
     split at h
     · cases h
     · split at h
       · injection h with h
         injection h with _ h
         subst h
         show z.1.tail.length<=l.length
         rw [List.length_tail]
         omega
       · cases h
 · cases h
theorem Zdg {bs:List Cls} {l:List Tok} {e:Int} {c:Cls} {x:PX} (h:Xl bs l e= .ok (c,x)):x.1.length<=l.length:=by
 unfold Xl at h
 split at h
 · cases h
 · rename_i nm z hz
   have h1:=Zdt hz
   split at h
   · cases h
   · unfold pAft at h
     split at h
     · cases h
     · rename_i ts y hy
       have h2:=Ztj hy
       have h3:=Zy3 h
       split at h2
       · rw [List.length_tail] at h2
         omega
       · omega
def pCls:Nat->List Cls->List Tok->Int->PR (List Cls)
 |0,cs,l,e=> .ok (cs,l,e,())
 |k+1,cs,l,e=>if isW [99,108,97,117,115,101] l then (if cs.length=64 then .error (hdT e l,2) else match Xl cs l.tail e with
  | .error er=> .error er
  | .ok (c,x)=>pCls k (cs++ [c]) x.1 x.2.1) else .ok (cs,l,e,())
def pEnd (nm:List Nat) (fo:Int):PR (List Cls)->PR Tar
 | .error er=> .error er
 | .ok (cs,x)=>if isW [125] x.1 then (if 0<x.1.tail.length then .error (hdT x.2.1 x.1.tail,160) else .ok (⟨nm,fo,cs⟩,x.1.tail,x.2.1,())) else .error (hdT x.2.1 x.1,160)
def pTar (l:List Tok) (e:Int):PR Tar:=
 if isW [116,97,114,105,102,102] l then
  match Zdr l.tail e with
  | .error er=> .error er
  | .ok (nm,x)=>
   if isW [102,111,114] x.1 then
    match X3 WK.ki.words x.1.tail x.2.1 with
    | .error er=> .error er
    | .ok (k,z)=>if isW [123] z.1 then pEnd nm (wr .i64 (1+k)) (pCls (z.1.tail.length+1) [] z.1.tail z.2.1) else .error (hdT z.2.1 z.1,160)
   else .error (hdT x.2.1 x.1,160)
 else .error (hdT e l,160)
def zT:Tar:=⟨[],0,[]⟩
def outT:PR Tar->Tar×Int×Int
 | .ok y=>(y.1,0,0)
 | .error er=>(zT,er.1,er.2)
def Zca (s:List Nat):Tar×Int×Int:=if (Y5 s).2.2≠0 then (zT,(Y5 s).2.1,(Y5 s).2.2) else outT (pTar (Y5 s).1 s.length)
theorem Zcy:∀{k:Nat} {s:List Nat} {p:Nat} {ts:List Tok},ts.length<=p->p<=s.length->(tksL k s p ts).1.length<=s.length
 |0,s,p,ts,h1,h2=>by unfold tksL;exact Nat.le_trans h1 h2
 |k+1,s,p,ts,h1,h2=>by
  unfold tksL
  split
  · exact Nat.le_trans h1 h2
  · rename_i c hc
    have hlt:=(List.getElem?_eq_some_iff.1 hc).1
    split
    · exact Zcy (by omega) hlt
    · split
      · split
        · exact Nat.le_trans h1 h2
        · have:=(Znn 10 (s.drop p) 0).1
          rw [List.length_drop] at this
          exact Zcy (by omega) (by omega)
      · split
        · exact Nat.zero_le _
        · rename_i h3
          have h3:(tokP (s.drop p)).2=0:=by simpa using h3
          obtain ⟨n1,n2,_⟩:=Zpr h3
          rw [List.length_drop] at n2
          exact Zcy (by rw [List.length_append];simp;omega) (by omega)
theorem Zln (s:List Nat):(Y5 s).1.length<=2000:=by
 unfold Y5
 split
 · exact Nat.zero_le _
 · have:=Zcy (k:=s.length) (s:=s) (p:=0) (ts:= []) (Nat.le_refl _) (Nat.zero_le _)
   omega
theorem Ztk (c:Cls):Cls.mk (Cls.name c) (Cls.when_ c) (Ex.mk (Ex.op (Cls.pay c)) (Ex.n (Cls.pay c)) (Ex.d0 (Cls.pay c)) (Ex.d1 (Cls.pay c)) (Ex.d2 (Cls.pay c)) (Ex.d3 (Cls.pay c)) (Ex.l (Cls.pay c)))=c:=by
 obtain ⟨a,b,p⟩:=c
 cases p
 rfl
theorem Zp8 (s:List Nat):PureC E 51 [.str false s] (.tup [.agg [.str false (Zca s).1.name,.int false .i64 (Zca s).1.for_,.psl Th.clauses (Zca s).1.clauses false],.int false .i64 (Zca s).2.1,.int false .i64 (Zca s).2.2]):=by
 refine Za E_ok (Ze E_ok Z56 400) ?_
 rw [Zp7];delta qBW1 qBW8 qBW2 qBW3 qBW4 qBW5 qBW6 qBWa qBW7 qBW9 qBWb qBWc qBWd
 refine ⟨trivial,fun y hy=> ?_⟩
 have hlen:y.1.length<=2000:=hy▸Zln s
 have hp:Zca s=if y.2.2≠0 then (zT,y.2.1,y.2.2) else outT (pTar y.1 s.length):=by subst hy;rfl
 generalize Zca s=res at hp
 refine ⟨fun h=> ?_,fun h=> ?_⟩
 · have h:y.2.2≠0:=by simpa using h
   rw [if_pos h] at hp
   subst hp
   exact ⟨⟨rfl,rfl,rfl,trivial⟩,rfl,rfl,trivial⟩
 have h:y.2.2=0:=by simpa using h
 rw [if_neg (by rw [h];decide)] at hp
 unfold pTar at hp
 refine ⟨fun h1=>⟨trivial,fun nm x hx=>⟨fun h2=>⟨.inr (.inl rfl),fun fo z hz=>⟨fun h3=> ?_,fun h3=> ?_⟩,fun er he=> ?_⟩,fun h2=> ?_⟩,fun er he=> ?_⟩,fun h1=> ?_⟩
 rotate_left
 · rw [if_pos h1,hx] at hp
   simp only [if_pos h2,hz,h3] at hp
   subst hp
   exact ⟨⟨rfl,rfl,rfl,trivial⟩,rfl,rfl,trivial⟩
 · rw [if_pos h1,hx] at hp
   simp only [if_pos h2,he] at hp
   subst hp
   exact ⟨⟨rfl,rfl,rfl,trivial⟩,rfl,rfl,trivial⟩
 · rw [if_pos h1,hx] at hp
   simp only [h2] at hp
   subst hp
   exact ⟨⟨rfl,rfl,rfl,trivial⟩,rfl,rfl,trivial⟩
 · rw [if_pos h1,he] at hp
   subst hp
   exact ⟨⟨rfl,rfl,rfl,trivial⟩,rfl,rfl,trivial⟩
 · rw [h1] at hp
   subst hp
   exact ⟨⟨rfl,rfl,rfl,trivial⟩,rfl,rfl,trivial⟩
 rw [if_pos h1,hx] at hp
 simp only [if_pos h2,hz,if_pos h3] at hp
 have l1:=Z0 h1
 have l2:=Zdt hx
 have l3:=Z0 h2
 have l4:z.1.length<=x.1.tail.length:=by
  unfold X3 at hz
  split at hz
  · injection hz with hz
    injection hz with _ hz
    subst hz
    show x.1.tail.tail.length<=_
    rw [List.length_tail (l:=x.1.tail)]
    omega
  · cases hz
 have l5:=Z0 h3
 intro q hq
 subst hq
 refine ⟨fun v=>(v.1=false->v.2.cs= [])/\outT (pEnd nm (wr .i64 (1+fo)) (pCls v.2.k v.2.cs v.2.l v.2.ed))=res/\v.2.p=hdT v.2.ed v.2.l/\v.2.l.length<v.2.k/\v.2.l.length<=2000/\v.2.fz<=v.2.cs.length/\v.2.cs.length<=64,
  .inl ⟨⟨[],0,z.1.tail,z.2.1,hdT z.2.1 z.1.tail,z.1.tail.length+1⟩,⟨fun _=>rfl,hp.symm,rfl,Nat.lt_succ_self _,?_,Nat.le_refl _,Nat.zero_le _⟩,rfl,⟨rfl,rfl,rfl,rfl,rfl,rfl,trivial⟩,⟨⟨rfl,fun h=>h⟩,rfl,trivial⟩,⟨rfl,rfl,rfl,trivial⟩,⟨rfl,trivial⟩,⟨rfl,trivial⟩,trivial⟩,?_,?_⟩
 · show z.1.tail.length<=2000
   omega
 all_goals
  rintro v ⟨v0,v1,v2,v3,v4,v5,v6⟩
  replace v1:outT (pEnd nm (wr .i64 (1+fo)) (pCls v.k v.cs v.l v.ed))=res:=v1
  replace v2:v.p=hdT v.ed v.l:=v2
  replace v3:v.l.length<v.k:=v3
  replace v4:v.l.length<=2000:=v4
  replace v5:v.fz<=v.cs.length:=v5
  replace v6:v.cs.length<=64:=v6
  obtain ⟨k,hk⟩:∃k,v.k=k+1:=⟨v.k-1,by omega⟩
  rw [hk] at v1
  unfold pCls at v1
  refine ⟨fun w1=> ?_,fun w1=>⟨fun w2=>⟨fun w3=> ?_,fun w3=> ?_⟩,fun w2=> ?_⟩⟩
 · have v0:v.cs= []:=v0 rfl
   rw [if_pos w1,v0,if_neg (by simp)] at v1
   have l6:=Z0 w1
   refine ⟨⟨by omega,by omega⟩,fun c x' hc a ha=> ?_,fun er he=> ?_⟩
   · subst ha
     rw [hc] at v1
     have l7:=Zdg hc
     refine .inr ⟨⟨[c],0,x'.1,x'.2.1,hdT x'.2.1 x'.1,k⟩,⟨fun h=>(by cases h),v1,rfl,(by show x'.1.length<k;omega),(by show x'.1.length<=2000;omega),Nat.zero_le _,(by show 1<=64;decide)⟩,(by show k+1<=v.k;omega),rfl,⟨rfl,rfl,rfl,rfl,rfl,rfl,trivial⟩,⟨⟨rfl,fun h=>h⟩,rfl,trivial⟩,⟨rfl,rfl,⟨rfl,rfl,trivial⟩,trivial⟩,⟨?_,rfl⟩,⟨rfl,trivial⟩,⟨rfl,trivial⟩,trivial⟩
     rw [Ztk]
   · rw [he] at v1
     subst v1
     exact ⟨⟨rfl,rfl,rfl,trivial⟩,rfl,rfl,trivial⟩
 · rw [if_neg (by rw [w1];decide)] at v1
   simp only [pEnd,if_pos w2] at v1
   have w3:0<v.l.tail.length:=by
    have:(0:Int)<v.l.tail.length:=by simpa only [decide_eq_true_eq] using w3
    omega
   rw [if_pos w3] at v1
   intro a ha
   subst ha
   subst v1
   exact ⟨⟨rfl,rfl,rfl,trivial⟩,rfl,rfl,trivial⟩
 · have v0:v.cs= []:=v0 rfl
   rw [if_neg (by rw [w1];decide)] at v1
   simp only [pEnd,if_pos w2] at v1
   have w3:¬0<v.l.tail.length:=by
    have:¬(0:Int)<v.l.tail.length:=by simpa only [decide_eq_false_iff_not] using w3
    omega
   rw [if_neg w3,v0] at v1
   subst v1
   exact ⟨⟨rfl,rfl,rfl,trivial⟩,rfl,rfl,trivial⟩
 · rw [if_neg (by rw [w1];decide)] at v1
   simp only [pEnd,w2] at v1
   subst v1
   exact ⟨⟨rfl,rfl,rfl,trivial⟩,rfl,rfl,trivial⟩
 · have l6:=Z0 w1
   rw [if_pos w1] at v1
   rw [List.drop_zero,List.take_length]
   refine ⟨fun w4=> ?_,fun w4=>⟨by omega,⟨by omega,by omega⟩,fun c x' hc=>⟨⟨Nat.le_refl _,by rw [Zfm];omega,by omega⟩,fun a ha=> ?_⟩,fun er he=> ?_⟩⟩
   · have w4:v.cs.length=64:=by
      have w5:(v.cs.length:Int)=64:=eq_of_beq w4
      omega
     rw [if_pos w4] at v1
     subst v1
     exact ⟨⟨rfl,rfl,rfl,trivial⟩,v2,rfl,trivial⟩
   · subst ha
     have w4:v.cs.length≠64:=fun e=>by rw [e] at w4;simp at w4
     rw [if_neg w4,hc] at v1
     have l7:=Zdg hc
     refine .inr ⟨⟨v.cs++ [c],mx2 v.fz v.cs.length,x'.1,x'.2.1,hdT x'.2.1 x'.1,k⟩,⟨fun h=>(by cases h),v1,rfl,(by show x'.1.length<k;omega),(by show x'.1.length<=2000;omega),?_,?_⟩,(by show k+1<=v.k;omega),rfl,⟨rfl,rfl,rfl,rfl,rfl,rfl,trivial⟩,⟨⟨rfl,fun h=>h⟩,rfl,trivial⟩,⟨rfl,rfl,⟨rfl,?_,trivial⟩,trivial⟩,⟨?_,rfl⟩,⟨rfl,trivial⟩,⟨rfl,trivial⟩,trivial⟩
     · show mx2 v.fz v.cs.length<=(v.cs++ [c]).length
       rw [Zfm,List.length_append]
       omega
     · show (v.cs++ [c]).length<=64
       rw [List.length_append]
       simp
       omega
     · show v.cs.length+1=(v.cs++ [c]).length
       rw [List.length_append]
       rfl
     · rw [Ztk]
   · have w4:v.cs.length≠64:=fun e=>by rw [e] at w4;simp at w4
     rw [if_neg w4,he] at v1
     subst v1
     exact ⟨⟨rfl,rfl,rfl,trivial⟩,rfl,rfl,trivial⟩
 · rw [if_neg (by rw [w1];decide)] at v1
   simp only [pEnd,if_pos w2] at v1
   have w3:0<v.l.tail.length:=by
    have:(0:Int)<v.l.tail.length:=by simpa only [decide_eq_true_eq] using w3
    omega
   rw [if_pos w3] at v1
   intro a ha
   subst ha
   subst v1
   exact ⟨⟨rfl,rfl,rfl,trivial⟩,rfl,rfl,trivial⟩
 · rw [if_neg (by rw [w1];decide)] at v1
   simp only [pEnd,if_pos w2] at v1
   have w3:¬0<v.l.tail.length:=by
    have:¬(0:Int)<v.l.tail.length:=by simpa only [decide_eq_false_iff_not] using w3
    omega
   rw [if_neg w3] at v1
   subst v1
   exact ⟨⟨rfl,rfl,⟨by omega,List.take_length⟩,trivial⟩,rfl,rfl,trivial⟩
 · rw [if_neg (by rw [w1];decide)] at v1
   simp only [pEnd,w2] at v1
   subst v1
   exact ⟨⟨rfl,rfl,rfl,trivial⟩,rfl,rfl,trivial⟩
end
section
def iOp (op:Int):Ins:=⟨op,0,0⟩
def iNN (op n:Int):Ins:=⟨op,n,0⟩
def cdN (op n:Int) (fs:List (Nat->List Ins)) (o:Nat):List Ins:=
 if op=1 then [iNN 1 n] else if op=2 then [iNN 2 n] else
 let a:=fs.getD 0 (fun _=> []) o
 let b:=fs.getD 1 (fun _=> []) (o+a.length)
 if op=11 then
  let p:=o+a.length+b.length+2
  let c:=fs.getD 2 (fun _=> []) p
  let q:=p+c.length+1
  let d:=fs.getD 3 (fun _=> []) q
  a++b++iOp 11::iNN 13 q::(c++iNN 14 (q+d.length:Nat)::d)
 else a++b++ [iOp op]
mutual
def cdX:Ex->Nat->List Ins
 | .mk op n _ _ _ _ l=>cdN op n (cdL l)
def cdL:List Ex->List (Nat->List Ins)
 | []=> []
 |x::r=>cdX x::cdL r
end
def cdTs:Nat->List Tst->List Ins
 |_,[]=> []
 |e,w::r=>iNN 2 w.attr::⟨12,w.low,w.high⟩::iNN 13 e::cdTs e r
def cdC (c:Cls) (k o:Nat):List Ins:=
 let p:=cdX c.pay (o+3*c.when_.length)
 cdTs (o+3*c.when_.length+p.length+1) c.when_++p++ [iNN 15 k]
def cdCs:List Cls->Nat->Nat->List Ins
 | [],_,_=> []
 |c::r,k,o=>cdC c k o++cdCs r (k+1) (o+(cdC c k o).length)
def cdT (t:Tar):List Ins:=cdCs t.clauses 0 0++ [iOp 16]
theorem Yp:∀(e:Nat) (l:List Tst),(cdTs e l).length=3*l.length
 |_,[]=>rfl
 |e,w::r=>by simp [cdTs,Yp e r];omega
theorem Xc {len:Int}:∀{a b:List Ins} {i:Nat} {D D':List Int} {m m':Int},fromF len a i D m=some (D',m')->fromF len (a++b) i D m=fromF len b (i+a.length) D' m'
 | [],b,i,D,D',m,m',h=>by cases h;rfl
 |x::r,b,i,D,D',m,m',h=>by
  unfold fromF at h
  rw [List.cons_append]
  conv=>lhs;unfold fromF
  cases hr:rndF len i x D m with
  |none=>rw [hr] at h;cases h
  |some p=>
   obtain ⟨D1,m1⟩:=p
   rw [hr] at h
   have:=Xc (b:=b) (i:=i+1) h
   rw [List.length_cons,show i+(r.length+1)=i+1+r.length by omega]
   exact this
theorem Zs {D:List Int} {i k:Nat} {v:Int}:(D.set i v).getD k 0=if i=k/\k<D.length then v else D.getD k 0:=by
 rw [List.getD_eq_getElem?_getD,List.getElem?_set,List.getD_eq_getElem?_getD]
 by_cases h:i=k
 · subst h
   by_cases h2:i<D.length
   · simp [h2]
   · simp [h2]
 · simp [h]
theorem Za1 {len:Nat} {i:Nat} {x:Ins} {D:List Int} {m d a:Int} (hlen:D.length=len) (hi:i+1<len) (hd:D.getD i 0=d) (hd0:0<=d) (h1:(eff x.op).1<=d) (ha:a=d-(eff x.op).1+(eff x.op).2)
 (hop:x.op≠13/\x.op≠14/\x.op≠15/\x.op≠16) (hn:D.getD (i+1) 0<0\/D.getD (i+1) 0=a):rndF len i x D m=some (D.set (i+1) a,max (max m d) a):=by
 unfold rndF
 rw [hd,if_neg (by omega),if_neg (by omega)]
 have hx:nextF i x= [(i:Int)+1]:=by
  unfold nextF
  rw [if_neg (by omega),if_neg (by omega),if_neg (by omega)]
 rw [hx,<-ha]
 have e:((i:Int)+1).toNat=i+1:=by omega
 have hs:setF len i a [(i:Int)+1] D=some (D.set (i+1) a):=by
  unfold setF
  rw [e,if_neg (by omega)]
  rfl
 rw [hs]
theorem Zzm {len:Nat} {i e:Nat} {D:List Int} {m d:Int} (hlen:D.length=len) (hi:i<e) (he:e<len) (hd:D.getD i 0=d) (hd0:0<=d) (hn:D.getD e 0<0\/D.getD e 0=d):rndF len i (iNN 14 e) D m=some (D.set e d,max m d):=by
 unfold rndF
 have ho:(iNN 14 (e:Int)).op=14:=rfl
 have hef:eff 14=(0,0):=rfl
 rw [hd,if_neg (by omega),ho,hef,if_neg (by simp only;omega)]
 have hx:nextF i (iNN 14 e)= [(e:Int)]:=rfl
 rw [hx]
 have e2:((e:Int)).toNat=e:=by omega
 have hs:setF len i (d-0+0) [(e:Int)] D=some (D.set e d):=by
  unfold setF
  rw [e2,if_neg (by omega),show d-0+0=d by omega]
  rfl
 rw [hs]
 simp only [show d-0+0=d by omega]
 congr 2
 omega
theorem Zob {len:Nat} {i q:Nat} {D:List Int} {m d:Int} (hlen:D.length=len) (hi:i+1<q) (he:q<len) (hd:D.getD i 0=d+1) (hd0:0<=d) (hn:D.getD q 0<0\/D.getD q 0=d) (hn1:D.getD (i+1) 0<0\/D.getD (i+1) 0=d):
 rndF len i (iNN 13 q) D m=some ((D.set q d).set (i+1) d,max m (d+1)):=by
 unfold rndF
 have ho:(iNN 13 (q:Int)).op=13:=rfl
 have hef:eff 13=(1,0):=rfl
 rw [hd,if_neg (by omega),ho,hef,if_neg (by simp only;omega)]
 have hx:nextF i (iNN 13 q)= [(q:Int),(i:Int)+1]:=rfl
 rw [hx]
 have e2:((q:Int)).toNat=q:=by omega
 have e3:((i:Int)+1).toNat=i+1:=by omega
 have hs:setF len i (d+1-1+0) [(q:Int),(i:Int)+1] D=some ((D.set q d).set (i+1) d):=by
  unfold setF
  rw [e2,if_neg (by omega),show d+1-1+0=d by omega]
  unfold setF
  have:(D.set q d).getD (i+1) 0=D.getD (i+1) 0:=by rw [Zs,if_neg (by omega)]
  rw [e3,this,if_neg (by omega)]
  rfl
 rw [hs]
 simp only [show d+1-1+0=d by omega]
 congr 2
 omega
def dpN (op:Int) (ds:List Int):Int:=
 if op=1\/op=2 then 1 else if op=11 then max (max (ds.getD 0 0) (1+ds.getD 1 0)) (max (ds.getD 2 0) (ds.getD 3 0)) else max (ds.getD 0 0) (1+ds.getD 1 0)
mutual
def dpX:Ex->Int
 | .mk op _ _ _ _ _ l=>dpN op (dpL l)
def dpL:List Ex->List Int
 | []=> []
 |x::r=>dpX x::dpL r
end
def Arx (x:Ex):Prop:=1<=x.op/\x.op<=11/\x.l.length=if x.op=1\/x.op=2 then 0 else if x.op=11 then 4 else 2
theorem Zt6 {x:Ex} (h:Zj x=true):Arx x/\∀y∈x.l,Zj y=true:=by
 rw [Zhu,Bool.and_eq_true] at h
 obtain ⟨h1,h2⟩:=h
 unfold Zkg at h1
 simp only [Bool.and_eq_true,Bool.or_eq_true,decide_eq_true_eq] at h1
 obtain ⟨⟨⟨⟨⟨⟨k1,k2⟩,k3⟩,k4⟩,k5⟩,k6⟩,k7⟩:=h1
 refine ⟨⟨k1,k2,?_⟩,formL_iff.1 h2⟩
 rw [k5]
 unfold Zff
 rfl
def Ver (x:Ex):Prop:=∀⦃len o:Nat⦄ ⦃D:List Int⦄ ⦃m d:Int⦄,D.length=len->o+(cdX x o).length<len->D.getD o 0=d->0<=d->d<=m->(∀k,o<k->k<o+(cdX x o).length->D.getD k 0<0)->(D.getD (o+(cdX x o).length) 0<0\/D.getD (o+(cdX x o).length) 0=d+1)->
 ∃D':List Int,fromF len (cdX x o) o D m=some (D',max m (d+dpX x))/\D'.length=len/\D'.getD (o+(cdX x o).length) 0=d+1/\∀k,o+(cdX x o).length<k->D'.getD k 0=D.getD k 0
theorem Z8c {α:Type} {l:List α} (h:l.length=2):∃a b,l= [a,b]:=by
 match l,h with
 | [a,b],_=>exact ⟨a,b,rfl⟩
theorem Z8d {α:Type} {l:List α} (h:l.length=4):∃a b c d,l= [a,b,c,d]:=by
 match l,h with
 | [a,b,c,d],_=>exact ⟨a,b,c,d,rfl⟩
theorem Zlz {op n a b c d:Int} {l:List Ex} {o:Nat} (h:op=1\/op=2):cdX (.mk op n a b c d l) o= [iNN op n]:=by
 rw [cdX];unfold cdN
 rcases h with rfl|rfl
 · rw [if_pos rfl]
 · rw [if_neg (by decide),if_pos rfl]
theorem Zl0 {op n a b c d:Int} {x y:Ex} {o:Nat} (h1:3<=op) (h2:op<=10):cdX (.mk op n a b c d [x,y]) o=cdX x o++cdX y (o+(cdX x o).length)++ [iOp op]:=by
 rw [cdX];unfold cdN
 rw [if_neg (by omega),if_neg (by omega)]
 simp only [cdL,List.getD_cons_zero,List.getD_cons_succ]
 rw [if_neg (by omega)]
theorem Zqi {n a b c d:Int} {x y z w:Ex} {o:Nat} {p q:Nat} (hp:p=o+(cdX x o).length+(cdX y (o+(cdX x o).length)).length+2) (hq:q=p+(cdX z p).length+1):
 cdX (.mk 11 n a b c d [x,y,z,w]) o=cdX x o++cdX y (o+(cdX x o).length)++iOp 11::iNN 13 q::(cdX z p++iNN 14 (q+(cdX w q).length:Nat)::cdX w q):=by
 rw [cdX];unfold cdN
 rw [if_neg (by decide),if_neg (by decide)]
 simp only [cdL,List.getD_cons_zero,List.getD_cons_succ]
 rw [if_pos trivial,<-hp,<-hq]
theorem dp_1 {op n a b c d:Int} {l:List Ex} (h:op=1\/op=2):dpX (.mk op n a b c d l)=1:=by
 rw [dpX];unfold dpN;rw [if_pos h]
theorem dp_2 {op n a b c d:Int} {x y:Ex} (h1:3<=op) (h2:op<=10):dpX (.mk op n a b c d [x,y])=max (dpX x) (1+dpX y):=by
 rw [dpX];unfold dpN;rw [if_neg (by omega),if_neg (by omega)]
 simp only [dpL,List.getD_cons_zero,List.getD_cons_succ]
theorem dp_4 {n a b c d:Int} {x y z w:Ex}:dpX (.mk 11 n a b c d [x,y,z,w])=max (max (dpX x) (1+dpX y)) (max (dpX z) (dpX w)):=by
 rw [dpX];unfold dpN;rw [if_neg (by decide),if_pos rfl]
 simp only [dpL,List.getD_cons_zero,List.getD_cons_succ]
theorem Y6 {x:Ex} (h:Zj x=true):(∃op n a b c d,x= .mk op n a b c d []/\(op=1\/op=2))\/(∃op n a b c d y z,x= .mk op n a b c d [y,z]/\3<=op/\op<=10/\Zj y=true/\Zj z=true)\/
 (∃n a b c d y z u v,x= .mk 11 n a b c d [y,z,u,v]/\Zj y=true/\Zj z=true/\Zj u=true/\Zj v=true):=by
 obtain ⟨⟨h1,h2,h3⟩,h4⟩:=Zt6 h
 obtain ⟨op,n,a,b,c,d,l⟩:=x
 have h1:1<=op:=h1
 have h2:op<=11:=h2
 have h3:l.length=if op=1\/op=2 then 0 else if op=11 then 4 else 2:=h3
 have h4:∀y∈l,Zj y=true:=h4
 by_cases q:op=1\/op=2
 · rw [if_pos q] at h3
   obtain rfl:=List.eq_nil_of_length_eq_zero h3
   exact .inl ⟨op,n,a,b,c,d,rfl,q⟩
 · rw [if_neg q] at h3
   by_cases q2:op=11
   · rw [if_pos q2] at h3
     obtain ⟨y,z,u,v,rfl⟩:=Z8d h3
     subst q2
     exact .inr (.inr ⟨n,a,b,c,d,y,z,u,v,rfl,h4 y (.head _),h4 z (.tail _ (.head _)),h4 u (.tail _ (.tail _ (.head _))),h4 v (.tail _ (.tail _ (.tail _ (.head _))))⟩)
   · rw [if_neg q2] at h3
     obtain ⟨y,z,rfl⟩:=Z8c h3
     exact .inr (.inl ⟨op,n,a,b,c,d,y,z,rfl,by omega,by omega,h4 y (.head _),h4 z (.tail _ (.head _))⟩)
theorem sz_2 {op n a b c d:Int} {y z:Ex}:(Ex.mk op n a b c d [y,z]).sz=1+y.sz+z.sz:=by rw [Ex.sz_eq];simp [Ex.l,Ex.szL];omega
theorem sz_4 {op n a b c d:Int} {y z u v:Ex}:(Ex.mk op n a b c d [y,z,u,v]).sz=1+y.sz+z.sz+u.sz+v.sz:=by rw [Ex.sz_eq];simp [Ex.l,Ex.szL];omega
theorem Za2:∀(k:Nat) (x:Ex),x.sz<=k->Zj x=true->1<=dpX x
 |0,x,h,_=>by have:=x.sz_pos;omega
 |k+1,x,h,hf=>by
  rcases Y6 hf with ⟨op,n,a,b,c,d,rfl,q⟩|⟨op,n,a,b,c,d,y,z,rfl,q1,q2,f1,f2⟩|⟨n,a,b,c,d,y,z,u,v,rfl,f1,f2,f3,f4⟩
  · rw [dp_1 q];exact Int.le_refl _
  · rw [sz_2] at h
    have:=Za2 k y (by omega) f1
    rw [dp_2 q1 q2];omega
  · rw [sz_4] at h
    have:=Za2 k y (by omega) f1
    rw [dp_4];omega
theorem Zds:∀(k:Nat) (x:Ex),x.sz<=k->Zj x=true->∀o,1<=(cdX x o).length
 |0,x,h,_=>by have:=x.sz_pos;omega
 |k+1,x,h,hf=>by
  intro o
  rcases Y6 hf with ⟨op,n,a,b,c,d,rfl,q⟩|⟨op,n,a,b,c,d,y,z,rfl,q1,q2,f1,f2⟩|⟨n,a,b,c,d,y,z,u,v,rfl,f1,f2,f3,f4⟩
  · rw [Zlz q];simp
  · rw [Zl0 q1 q2];simp;omega
  · rw [Zqi rfl rfl];simp;omega
theorem Ys {len:Int} {i:Nat} {x:Ins} {D D':List Int} {m m':Int} (h:rndF len i x D m=some (D',m')) (r:List Ins):fromF len (x::r) i D m=fromF len r (i+1) D' m':=by
 conv=>lhs;unfold fromF
 rw [h]
theorem max8 {m d a b c e K:Int} (ha:a<=K) (hb:1+b<=K) (hc:c<=K) (he:e<=K) (hK:K=a\/K=1+b\/K=c\/K=e) (pa:1<=a) (pb:1<=b):
 max (max (max (max (max (max (max (max m (d+a)) (d+1+b)) (d+1+1)) (d+1)) (d+1)) (d+c)) (d+1)) (d+e)=max m (d+K):=by
 apply Int.le_antisymm
 · refine Int.max_le.2 ⟨Int.max_le.2 ⟨Int.max_le.2 ⟨Int.max_le.2 ⟨Int.max_le.2 ⟨Int.max_le.2 ⟨Int.max_le.2 ⟨Int.max_le.2 ⟨?_,?_⟩,?_⟩,?_⟩,?_⟩,?_⟩,?_⟩,?_⟩,?_⟩
   · exact Int.le_max_left _ _
   all_goals exact Int.le_trans (by omega) (Int.le_max_right m (d+K))
 · have e1:=Int.le_max_left (max (max (max (max (max (max (max m (d+a)) (d+1+b)) (d+1+1)) (d+1)) (d+1)) (d+c)) (d+1)) (d+e)
   have e2:=Int.le_max_left (max (max (max (max (max (max m (d+a)) (d+1+b)) (d+1+1)) (d+1)) (d+1)) (d+c)) (d+1)
   have e3:=Int.le_max_left (max (max (max (max (max m (d+a)) (d+1+b)) (d+1+1)) (d+1)) (d+1)) (d+c)
   have e4:=Int.le_max_left (max (max (max (max m (d+a)) (d+1+b)) (d+1+1)) (d+1)) (d+1)
   have e5:=Int.le_max_left (max (max (max m (d+a)) (d+1+b)) (d+1+1)) (d+1)
   have e6:=Int.le_max_left (max (max m (d+a)) (d+1+b)) (d+1+1)
   have e7:=Int.le_max_left (max m (d+a)) (d+1+b)
   have e8:=Int.le_max_left m (d+a)
   have f1:=Int.le_max_right (max (max (max (max (max (max (max m (d+a)) (d+1+b)) (d+1+1)) (d+1)) (d+1)) (d+c)) (d+1)) (d+e)
   have f3:=Int.le_max_right (max (max (max (max (max m (d+a)) (d+1+b)) (d+1+1)) (d+1)) (d+1)) (d+c)
   have f7:=Int.le_max_right (max m (d+a)) (d+1+b)
   have f8:=Int.le_max_right m (d+a)
   refine Int.max_le.2 ⟨?_,?_⟩
   · exact (Int.le_trans e8 (Int.le_trans e7 (Int.le_trans e6 (Int.le_trans e5 (Int.le_trans e4 (Int.le_trans e3 (Int.le_trans e2 e1)))))))
   · rcases hK with rfl|rfl|rfl|rfl
     · exact (Int.le_trans f8 (Int.le_trans e7 (Int.le_trans e6 (Int.le_trans e5 (Int.le_trans e4 (Int.le_trans e3 (Int.le_trans e2 e1)))))))
     · exact Int.le_trans (show d+(1+b)<=d+1+b by omega) (Int.le_trans f7 (Int.le_trans e6 (Int.le_trans e5 (Int.le_trans e4 (Int.le_trans e3 (Int.le_trans e2 e1))))))
     · exact (Int.le_trans f3 (Int.le_trans e2 e1))
     · exact f1
theorem Zqj (a b c e:Int):∃K,max (max a (1+b)) (max c e)=K/\a<=K/\1+b<=K/\c<=K/\e<=K/\(K=a\/K=1+b\/K=c\/K=e):=⟨_,rfl,by omega,by omega,by omega,by omega,by omega⟩
theorem Uo (m a:Int):∃K,max m a=K/\m<=K/\a<=K:=⟨_,rfl,by omega,by omega⟩
set_option maxHeartbeats 4000000 in
theorem Zag:∀(k:Nat) (x:Ex),x.sz<=k->Zj x=true->Ver x
 |0,x,h,_=>by have:=x.sz_pos;omega
 |k+1,x,h,hf=>by
  intro len o D m d hlen hl hd hd0 hdm hin hend
  rcases Y6 hf with ⟨op,n,a,b,c,e,rfl,q⟩|⟨op,n,a,b,c,e,y,z,rfl,q1,q2,f1,f2⟩|⟨n,a,b,c,e,y,z,u,v,rfl,f1,f2,f3,f4⟩
  · rw [Zlz q] at hl hin hend⊢
    rw [dp_1 q]
    have hl:o+1<len:=hl
    have hend:D.getD (o+1) 0<0\/D.getD (o+1) 0=d+1:=hend
    have hef:eff op=(0,1):=by unfold eff;rw [if_pos q]
    have hr:=Za1 (x:=iNN op n) (m:=m) hlen hl hd hd0 (by show (eff op).1<=d;rw [hef];exact hd0) (a:=d+1) (by show d+1=d-(eff op).1+(eff op).2;rw [hef];simp only;omega) (by show op≠13/\op≠14/\op≠15/\op≠16;omega) hend
    refine ⟨D.set (o+1) (d+1),?_,by rw [List.length_set];exact hlen,?_,fun j hj=> ?_⟩
    · rw [Ys hr]
      show some (_,_)=some (_,_)
      congr 2
      omega
    · show (D.set (o+1) (d+1)).getD (o+1) 0=_
      rw [Zs,if_pos ⟨rfl,by omega⟩]
    · have hj:o+1<j:=hj
      rw [Zs,if_neg (by omega)]
  · rw [sz_2] at h
    have i1:=Zag k y (by omega) f1
    have i2:=Zag k z (by omega) f2
    have p1:=Za2 k y (by omega) f1
    have p2:=Za2 k z (by omega) f2
    rw [Zl0 q1 q2] at hl hin hend⊢
    rw [dp_2 q1 q2]
    generalize hA:cdX y o=A at*
    generalize hB:cdX z (o+A.length)=B at*
    simp only [List.length_append,List.length_cons,List.length_nil] at hl hin hend⊢
    obtain ⟨D1,e1,l1,g1,k1⟩:=i1 (o:=o) (m:=m) hlen (by rw [hA];omega) hd hd0 hdm (fun j h1 h2=>hin j h1 (by rw [hA] at h2;omega)) (.inl (hin _ (by rw [hA];have:=Zds k y (by omega) f1 o;rw [hA] at this;omega) (by rw [hA];omega)))
    rw [hA] at e1 g1 k1
    have pB:=Zds k z (by omega) f2 (o+A.length)
    rw [hB] at pB
    obtain ⟨D2,e2,l2,g2,k2⟩:=i2 (o:=o+A.length) (m:=max m (d+dpX y)) l1 (by rw [hB];omega) g1 (by omega) (by omega) (fun j h1 h2=>by rw [k1 j h1];exact hin j (by omega) (by rw [hB] at h2;omega)) (.inl (by rw [hB,k1 _ (by omega)];exact hin _ (by omega) (by omega)))
    rw [hB] at e2 g2 k2
    have hef:eff op=(2,1):=by
     unfold eff
     rw [if_neg (by omega),if_neg (by omega),if_neg (by omega),if_neg (by omega)]
    have hr:=Za1 (x:=iOp op) (m:=max (max m (d+dpX y)) (d+1+dpX z)) l2 (by omega) g2 (by omega) (by show (eff op).1<=_;rw [hef];simp only;omega) (a:=d+1) (by show d+1=d+1+1-(eff op).1+(eff op).2;rw [hef];simp only;omega) (by show op≠13/\op≠14/\op≠15/\op≠16;omega)
     (by rw [k2 _ (by omega),k1 _ (by omega),show o+A.length+B.length+1=o+(A.length+B.length+(0+1)) by omega];exact hend)
    refine ⟨D2.set (o+A.length+B.length+1) (d+1),?_,by rw [List.length_set];exact l2,?_,fun j hj=> ?_⟩
    · rw [List.append_assoc,Xc e1,Xc e2,Ys hr]
      show some (_,_)=some (_,_)
      congr 2
      omega
    · rw [Zs,if_pos ⟨by omega,by omega⟩]
    · rw [Zs,if_neg (by omega),k2 _ (by omega),k1 _ (by omega)]
  · rw [sz_4] at h
    have i1:=Zag k y (by omega) f1
    have i2:=Zag k z (by omega) f2
    have i3:=Zag k u (by omega) f3
    have i4:=Zag k v (by omega) f4
    have p1:=Za2 k y (by omega) f1
    have p2:=Za2 k z (by omega) f2
    have p3:=Za2 k u (by omega) f3
    have p4:=Za2 k v (by omega) f4
    have pA:=Zds k y (by omega) f1 o
    have pB:=Zds k z (by omega) f2 (o+(cdX y o).length)
    obtain ⟨p,hp⟩:∃p,p=o+(cdX y o).length+(cdX z (o+(cdX y o).length)).length+2:=⟨_,rfl⟩
    obtain ⟨q,hq⟩:∃q,q=p+(cdX u p).length+1:=⟨_,rfl⟩
    have pC:=Zds k u (by omega) f3 p
    have pE:=Zds k v (by omega) f4 q
    rw [Zqi hp hq] at hl hin hend⊢
    rw [dp_4]
    generalize hA:cdX y o=A at*
    generalize hB:cdX z (o+A.length)=B at*
    generalize hC:cdX u p=C at*
    generalize hE:cdX v q=F at*
    simp only [List.length_append,List.length_cons,List.length_nil] at hl hin hend⊢
    obtain ⟨n0,hn⟩:∃n0,n0=A.length+B.length+(C.length+(F.length+1)+1+1):=⟨_,rfl⟩
    rw [<-hn] at hl hin hend⊢
    obtain ⟨D1,e1,l1,g1,k1⟩:=i1 (o:=o) (m:=m) hlen (by rw [hA];omega) hd hd0 hdm (fun j h1 h2=>hin j h1 (by rw [hA] at h2;omega)) (.inl (hin _ (by rw [hA];omega) (by rw [hA];omega)))
    rw [hA] at e1 g1 k1
    obtain ⟨m1,hm1,b1,b1'⟩:=Uo m (d+dpX y)
    replace hm1:=PLift.up hm1
    rw [hm1.down] at e1
    obtain ⟨D2,e2,l2,g2,k2⟩:=i2 (o:=o+A.length) (m:=m1) l1 (by rw [hB];omega) g1 (by omega) (by omega) (fun j h1 h2=>by rw [k1 j h1];exact hin j (by omega) (by rw [hB] at h2;omega)) (.inl (by rw [hB,k1 _ (by omega)];exact hin _ (by omega) (by omega)))
    rw [hB] at e2 g2 k2
    obtain ⟨m2,hm2,b2,b2'⟩:=Uo m1 (d+1+dpX z)
    replace hm2:=PLift.up hm2
    rw [hm2.down] at e2
    have old2:∀j,o+A.length+B.length<j->D2.getD j 0=D.getD j 0:=fun j hj=>by rw [k2 j hj,k1 j (by omega)]
    have hr1:=Za1 (x:=iOp 11) (m:=m2) l2 (by omega) g2 (by omega) (by show (2:Int)<=_;omega) (a:=d+1) (by show d+1=d+1+1-2+1;omega) (by decide) (.inl (by rw [old2 _ (by omega)];exact hin _ (by omega) (by omega)))
    obtain ⟨D3,hD3⟩:∃D3,D3=D2.set (o+A.length+B.length+1) (d+1):=⟨_,rfl⟩
    rw [<-hD3] at hr1
    have l3:D3.length=len:=by rw [hD3,List.length_set];exact l2
    have g3:D3.getD (o+A.length+B.length+1) 0=d+1:=by rw [hD3,Zs,if_pos ⟨rfl,by omega⟩]
    have old3:∀j,o+A.length+B.length+1<j->D3.getD j 0=D.getD j 0:=fun j hj=>by rw [hD3,Zs,if_neg (by omega),old2 j (by omega)]
    have hr2:=Zob (i:=o+A.length+B.length+1) (q:=q) (m:=max (max m2 (d+1+1)) (d+1)) l3 (by omega) (by omega) g3 hd0 (.inl (by rw [old3 _ (by omega)];exact hin _ (by omega) (by omega))) (.inl (by rw [old3 _ (by omega)];exact hin _ (by omega) (by omega)))
    obtain ⟨D4,hD4⟩:∃D4,D4=(D3.set q d).set (o+A.length+B.length+1+1) d:=⟨_,rfl⟩
    rw [<-hD4] at hr2
    have l4:D4.length=len:=by rw [hD4,List.length_set,List.length_set];exact l3
    have g4:D4.getD p 0=d:=by rw [hD4,Zs,if_pos ⟨by omega,by rw [List.length_set];omega⟩]
    have g4q:D4.getD q 0=d:=by rw [hD4,Zs,if_neg (by omega),Zs,if_pos ⟨rfl,by omega⟩]
    have old4:∀j,p<j->j≠q->D4.getD j 0=D.getD j 0:=fun j hj hne=>by rw [hD4,Zs,if_neg (by omega),Zs,if_neg (by omega),old3 j (by omega)]
    obtain ⟨m4,hm4,b4,b4'⟩:=Uo (max (max m2 (d+1+1)) (d+1)) (d+1)
    clear b4
    replace hm4:=PLift.up hm4
    rw [hm4.down] at hr2
    obtain ⟨D5,e5,l5,g5,k5⟩:=i3 (o:=p) (m:=m4) l4 (by rw [hC];omega) g4 hd0 (by omega) (fun j h1 h2=>by rw [old4 j h1 (by rw [hC] at h2;omega)];exact hin j (by omega) (by rw [hC] at h2;omega)) (.inl (by rw [hC,old4 _ (by omega) (by omega)];exact hin _ (by omega) (by omega)))
    rw [hC] at e5 g5 k5
    obtain ⟨m5,hm5,b5,b5'⟩:=Uo m4 (d+dpX u)
    replace hm5:=PLift.up hm5
    rw [hm5.down] at e5
    have hend':D5.getD (q+F.length) 0<0\/D5.getD (q+F.length) 0=d+1:=by
     rw [k5 _ (by omega),old4 _ (by omega) (by omega),show q+F.length=o+n0 by omega];exact hend
    have hr3:=Zzm (i:=p+C.length) (e:=q+F.length) (m:=m5) l5 (by omega) (by omega) g5 (by omega) hend'
    obtain ⟨D6,hD6⟩:∃D6,D6=D5.set (q+F.length) (d+1):=⟨_,rfl⟩
    rw [<-hD6] at hr3
    have l6:D6.length=len:=by rw [hD6,List.length_set];exact l5
    have old6:∀j,q+F.length≠j->D6.getD j 0=D5.getD j 0:=fun j hj=>by rw [hD6,Zs,if_neg (by omega)]
    have g6e:D6.getD (q+F.length) 0=d+1:=by rw [hD6,Zs,if_pos ⟨rfl,by omega⟩]
    have g6q:D6.getD q 0=d:=by rw [old6 _ (by omega),k5 _ (by omega),g4q]
    obtain ⟨D7,e7,l7,g7,k7⟩:=i4 (o:=q) (m:=max m5 (d+1)) l6 (by rw [hE];omega) g6q hd0 (by omega) (fun j h1 h2=>by rw [old6 _ (by rw [hE] at h2;omega),k5 _ (by omega),old4 _ (by omega) (by omega)];exact hin j (by omega) (by rw [hE] at h2;omega)) (.inr (by rw [hE];exact g6e))
    rw [hE] at e7 g7 k7
    refine ⟨D7,?_,l7,by rw [show o+n0=q+F.length by omega];exact g7,fun j hj=> ?_⟩
    · rw [List.append_assoc,Xc e1,Xc e2,Ys hr1,Ys hr2,show o+A.length+B.length+1+1=p by omega,Xc e5,Ys hr3,show p+C.length+1=q by omega,e7]
      obtain ⟨K,hK,c1,c2,c3,c4,c5⟩:=Zqj (dpX y) (dpX z) (dpX u) (dpX v)
      rw [hK,<-hm5.down,<-hm4.down,<-hm2.down,<-hm1.down]
      rw [max8 c1 c2 c3 c4 c5 p1 p2]
    · rw [k7 _ (by omega),old6 _ (by omega),k5 _ (by omega),old4 _ (by omega) (by omega)]
end
section
theorem Z8e {x:Ex} (h:Zj x=true):Ver x:=Zag x.sz x (Nat.le_refl _) h
theorem Zl8 {x:Ex} (h:Zj x=true):1<=dpX x:=Za2 x.sz x (Nat.le_refl _) h
theorem Z37 {x:Ex} (h:Zj x=true) (o:Nat):1<=(cdX x o).length:=Zds x.sz x (Nat.le_refl _) h o
theorem Zfs {len:Int}:∀{r:List Ins} {i:Nat} {D:List Int} {m:Int},(∀k,i<=k->k<i+r.length->D.getD k 0<0)->fromF len r i D m=some (D,m)
 | [],i,D,m,_=>rfl
 |x::r,i,D,m,h=>by
  have hr:rndF len i x D m=some (D,m):=by
   unfold rndF
   rw [if_pos (h i (Nat.le_refl _) (by rw [List.length_cons];omega))]
  rw [Ys hr]
  exact Zfs fun k h1 h2=>h k (by omega) (by rw [List.length_cons];omega)
theorem Z2s {len e:Nat}:∀{ws:List Tst} {o:Nat} {D:List Int} {m:Int},D.length=len->o+3*ws.length<e->e<len->0<=m->D.getD o 0=0->(∀k,o<k->k<e->D.getD k 0<0)->(D.getD e 0<0\/D.getD e 0=0)->
 ∃D':List Int,fromF len (cdTs e ws) o D m=some (D',if ws= [] then m else max m 1)/\D'.length=len/\D'.getD (o+3*ws.length) 0=0/\D'.getD e 0=(if ws= [] then D.getD e 0 else 0)/\∀k,o+3*ws.length<k->k≠e->D'.getD k 0=D.getD k 0
 | [],o,D,m,h1,h2,h3,hm,h4,h5,h6=>⟨D,rfl,h1,h4,rfl,fun _ _ _=>rfl⟩
 |w::ws,o,D,m,h1,h2,h3,hm,h4,h5,h6=>by
  rw [List.length_cons] at h2⊢
  have r1:=Za1 (x:=iNN 2 w.attr) (m:=m) h1 (show o+1<len by omega) h4 (by decide) (by show (0:Int)<=0;decide) (a:=1) (by show (1:Int)=0-0+1;decide) (by show (2:Int)≠13/\(2:Int)≠14/\(2:Int)≠15/\(2:Int)≠16;decide) (.inl (h5 (o+1) (by omega) (by omega)))
  obtain ⟨D1,hD1⟩:∃D1,D1=D.set (o+1) 1:=⟨_,rfl⟩
  rw [<-hD1] at r1
  have l1:D1.length=len:=by rw [hD1,List.length_set];exact h1
  have g1:D1.getD (o+1) 0=1:=by rw [hD1,Zs,if_pos ⟨rfl,by omega⟩]
  have k1:∀k,o+1<k->D1.getD k 0=D.getD k 0:=fun k hk=>by rw [hD1,Zs,if_neg (by omega)]
  have r2:=Za1 (x:=(⟨12,w.low,w.high⟩:Ins)) (m:=max (max m 0) 1) l1 (show o+1+1<len by omega) g1 (by decide) (by show (1:Int)<=1;decide) (a:=1) (by show (1:Int)=1-1+1;decide) (by show (12:Int)≠13/\(12:Int)≠14/\(12:Int)≠15/\(12:Int)≠16;decide) (.inl (by rw [k1 _ (by omega)];exact h5 _ (by omega) (by omega)))
  obtain ⟨D2,hD2⟩:∃D2,D2=D1.set (o+1+1) 1:=⟨_,rfl⟩
  rw [<-hD2] at r2
  have l2:D2.length=len:=by rw [hD2,List.length_set];exact l1
  have g2:D2.getD (o+1+1) 0=0+1:=by rw [hD2,Zs,if_pos ⟨rfl,by omega⟩];rfl
  have k2:∀k,o+1+1<k->D2.getD k 0=D.getD k 0:=fun k hk=>by rw [hD2,Zs,if_neg (by omega),k1 k (by omega)]
  have r3:=Zob (i:=o+1+1) (q:=e) (m:=max (max (max (max m 0) 1) 1) 1) l2 (by omega) h3 g2 (by decide) (by rw [k2 _ (by omega)];exact h6) (.inl (by rw [k2 _ (by omega)];exact h5 _ (by omega) (by omega)))
  obtain ⟨D3,hD3⟩:∃D3,D3=(D2.set e 0).set (o+1+1+1) 0:=⟨_,rfl⟩
  rw [<-hD3] at r3
  have l3:D3.length=len:=by rw [hD3,List.length_set,List.length_set];exact l2
  have g3:D3.getD (o+1+1+1) 0=0:=by rw [hD3,Zs,if_pos ⟨rfl,by rw [List.length_set];omega⟩]
  have g3e:D3.getD e 0=0:=by rw [hD3,Zs,if_neg (by omega),Zs,if_pos ⟨rfl,by omega⟩]
  have k3:∀k,o+1+1+1<k->k≠e->D3.getD k 0=D.getD k 0:=fun k hk hne=>by rw [hD3,Zs,if_neg (by omega),Zs,if_neg (by omega),k2 k (by omega)]
  have em:max (max (max (max (max m 0) 1) 1) 1) (0+1)=max m 1:=by omega
  rw [em] at r3
  obtain ⟨D',f1,f2,f3,f4,f5⟩:=Z2s (ws:=ws) (o:=o+1+1+1) (m:=max m 1) l3 (by omega) h3 (by omega) g3 (fun k a b=>by rw [k3 k a (by omega)];exact h5 k (by omega) b) (.inr g3e)
  refine ⟨D',?_,f2,by rw [show o+3*(ws.length+1)=o+1+1+1+3*ws.length by omega];exact f3,?_,fun k a b=>by rw [f5 k (by omega) b,k3 k (by omega) b]⟩
  · show fromF len (iNN 2 w.attr::⟨12,w.low,w.high⟩::iNN 13 e::cdTs e ws) o D m=_
    rw [Ys r1,Ys r2,Ys r3,f1,if_neg (List.cons_ne_nil w ws)]
    congr 2
    split<;>omega
  · rw [f4,if_neg (List.cons_ne_nil w ws)]
    split
    · exact g3e
    · rfl
theorem Zl9 (c:Cls) (k o:Nat):(cdC c k o).length=3*c.when_.length+(cdX c.pay (o+3*c.when_.length)).length+1:=by
 unfold cdC
 simp only [List.length_append,Yp,List.length_cons,List.length_nil]
theorem Z8f {len:Nat} {c:Cls} {i o:Nat} {D:List Int} {m:Int} (hf:Zj c.pay=true) (h1:D.length=len) (h2:o+(cdC c i o).length<len) (hm:0<=m) (h4:D.getD o 0=0) (h5:∀k,o<k->k<=o+(cdC c i o).length->D.getD k 0<0):
 ∃D':List Int,fromF len (cdC c i o) o D m=some (D',max m (dpX c.pay))/\D'.length=len/\(if c.when_= [] then D'.getD (o+(cdC c i o).length) 0<0 else D'.getD (o+(cdC c i o).length) 0=0)/\∀k,o+(cdC c i o).length<k->D'.getD k 0=D.getD k 0:=by
 have hp:=Zl8 hf
 rw [Zl9] at h2 h5⊢
 obtain ⟨p,hpp⟩:∃p,p=o+3*c.when_.length:=⟨_,rfl⟩
 have hpx:=Z37 hf p
 unfold cdC
 rw [<-hpp] at h2 h5⊢
 simp only
 generalize hA:cdX c.pay p=A at*
 obtain ⟨e,he⟩:∃e,e=p+A.length+1:=⟨_,rfl⟩
 have hee:o+(3*c.when_.length+A.length+1)=e:=by omega
 rw [hee] at h2 h5⊢
 rw [<-he]
 obtain ⟨D1,f1,f2,f3,f4,f5⟩:=Z2s (e:=e) (ws:=c.when_) (o:=o) (m:=m) h1 (by omega) h2 hm h4 (fun k a b=>h5 k a (by omega)) (.inl (h5 e (by omega) (by omega)))
 have ge:D1.getD e 0<0\/D1.getD e 0=0:=by
  rw [f4]
  split
  · exact .inl (h5 e (by omega) (by omega))
  · exact .inr rfl
 rw [<-hpp] at f3 f5
 obtain ⟨m1,hm1,b1⟩:∃m1,(if c.when_= [] then m else max m 1)=m1/\(m<=m1/\m1<=max m 1):=⟨_,rfl,by split<;>omega⟩
 rw [hm1] at f1
 obtain ⟨D2,e2,l2,g2,k2⟩:=Z8e hf (o:=p) (m:=m1) (d:=0) f2 (by rw [hA];omega) f3 (by decide) (by omega) (fun k a b=>by rw [f5 k a (by rw [hA] at b;omega)];exact h5 k (by omega) (by rw [hA] at b;omega)) (.inl (by rw [hA,f5 _ (by omega) (by omega)];exact h5 _ (by omega) (by omega)))
 rw [hA] at e2 g2 k2
 have r3:rndF len (p+A.length) (iNN 15 i) D2 (max m1 (0+dpX c.pay))=some (D2,max (max (max m1 (0+dpX c.pay)) 1) 0):=by
  unfold rndF
  have ho:(iNN 15 (i:Int)).op=15:=rfl
  have hef:eff 15=(1,0):=rfl
  rw [g2,ho,hef,if_neg (by decide),if_neg (by decide)]
  have hx:nextF ((p+A.length:Nat):Int) (iNN 15 i)= []:=rfl
  rw [hx]
  rfl
 refine ⟨D2,?_,l2,?_,fun k hk=>by rw [k2 k (by omega),f5 k (by omega) (by omega)]⟩
 · rw [List.append_assoc,Xc f1,Yp,<-hpp,Xc e2,Ys r3]
   show some (_,_)=some (_,_)
   congr 2
   omega
 · rw [k2 e (by omega),f4]
   split
   · exact h5 e (by omega) (by omega)
   · rfl
def dCs:List Cls->Int
 | []=>0
 |c::r=>if c.when_= [] then dpX c.pay else max (dpX c.pay) (dCs r)
theorem Zuh:∀{l:List Cls},(∀c∈l,Zj c.pay=true)->0<=dCs l
 | [],_=>Int.le_refl _
 |c::r,h=>by
  have:=Zl8 (h c (by simp))
  unfold dCs
  split<;>omega
theorem Z2t {len:Nat}:∀{l:List Cls} {i o:Nat} {D:List Int} {m:Int},(∀c∈l,Zj c.pay=true)->D.length=len->o+(cdCs l i o).length+1=len->0<=m->D.getD o 0=0->(∀k,o<k->k<len->D.getD k 0<0)->
 ∃D':List Int,fromF len (cdCs l i o++ [iOp 16]) o D m=some (D',max m (dCs l))
 | [],i,o,D,m,hf,h1,h2,hm,h4,h5=>by
  have r:rndF len o (iOp 16) D m=some (D,max (max m 0) 0):=by
   unfold rndF
   have ho:(iOp 16).op=16:=rfl
   have hef:eff 16=(0,0):=rfl
   rw [h4,ho,hef,if_neg (by decide),if_neg (by decide)]
   rfl
  refine ⟨D,?_⟩
  show fromF len [iOp 16] o D m=_
  rw [Ys r]
  show some (_,_)=some (_,_)
  congr 2
  show max (max m 0) 0=max m 0
  omega
 |c::l,i,o,D,m,hf,h1,h2,hm,h4,h5=>by
  have e0:cdCs (c::l) i o=cdC c i o++cdCs l (i+1) (o+(cdC c i o).length):=rfl
  rw [e0,List.length_append] at h2
  rw [e0,List.append_assoc]
  obtain ⟨D1,f1,f2,f3,f4⟩:=Z8f (i:=i) (o:=o) (m:=m) (hf c (by simp)) h1 (by omega) hm h4 (fun k a b=>h5 k a (by omega))
  have hd:=Zl8 (hf c (by simp))
  have hds:=Zuh (fun d hd=>hf d (List.mem_cons_of_mem _ hd))
  rw [Xc f1]
  unfold dCs
  by_cases hw:c.when_= []
  · rw [if_pos hw] at f3⊢
    refine ⟨D1,Zfs fun k a b=> ?_⟩
    rw [List.length_append,List.length_cons,List.length_nil] at b
    by_cases hk:k=o+(cdC c i o).length
    · rw [hk];exact f3
    · rw [f4 k (by omega)];exact h5 k (by omega) (by omega)
  · rw [if_neg hw] at f3⊢
    obtain ⟨D2,e2⟩:=Z2t (l:=l) (i:=i+1) (o:=o+(cdC c i o).length) (m:=max m (dpX c.pay)) (fun d hd=>hf d (List.mem_cons_of_mem _ hd)) f2 (by omega) (by omega) f3 (fun k a b=>by rw [f4 k a];exact h5 k (by omega) b)
    refine ⟨D2,?_⟩
    rw [e2]
    congr 2
    omega
theorem Z38 {x:Ex} (h:Zj x=true):0<=x.n/\x.n<=Z1a x.op:=by
 rw [Zhu,Bool.and_eq_true] at h
 have h1:=h.1
 unfold Zkg at h1
 simp only [Bool.and_eq_true,Bool.or_eq_true,decide_eq_true_eq] at h1
 exact ⟨h1.1.1.1.1.2,h1.1.1.1.2⟩
theorem Z39 {op:Int} (h1:3<=op) (h2:op<=11\/op=16):formedF (iOp op)=true:=by
 unfold formedF iOp
 simp only
 rw [if_neg (by omega),if_neg (by omega),if_neg (by omega)]
 exact decide_eq_true ⟨h1,by omega,trivial,trivial⟩
theorem fm_n {op n:Int} (h:op=1\/op=13\/op=14\/op=15) (h1:0<=n) (h2:n<=9007199254740992):formedF (iNN op n)=true:=by
 unfold formedF iNN
 simp only
 rw [if_pos h]
 exact decide_eq_true ⟨h1,h2,trivial⟩
theorem fm_2 {n:Int} (h1:0<=n) (h2:n<=15):formedF (iNN 2 n)=true:=by
 unfold formedF iNN
 simp only
 rw [if_neg (by decide),if_pos trivial]
 exact decide_eq_true ⟨h1,h2,trivial⟩
theorem Z8g {a b:Int} (h1:0<=a) (h2:a<=1099511627776) (h3:0<=b) (h4:b<=1099511627776):formedF ⟨12,a,b⟩=true:=by
 unfold formedF
 simp only
 rw [if_neg (by decide),if_neg (by decide),if_pos trivial]
 simp only [decide_eq_true_eq]
 omega
theorem Wa:∀(k:Nat) (x:Ex),x.sz<=k->Zj x=true->∀o,o+(cdX x o).length<=9007199254740992->∀y∈cdX x o,formedF y=true
 |0,x,h,_=>by have:=x.sz_pos;omega
 |k+1,x,h,hf=>by
  intro o ho
  have hn:=Z38 hf
  rcases Y6 hf with ⟨op,n,a,b,c,e,rfl,q⟩|⟨op,n,a,b,c,e,y,z,rfl,q1,q2,f1,f2⟩|⟨n,a,b,c,e,y,z,u,v,rfl,f1,f2,f3,f4⟩
  · rw [Zlz q]
    intro w hw
    rw [List.mem_singleton.1 hw]
    have hn:0<=n/\n<=Z1a op:=hn
    rcases q with rfl|rfl
    · have:n<=1099511627776:=hn.2
      exact fm_n (.inl rfl) hn.1 (by omega)
    · exact fm_2 hn.1 hn.2
  · rw [sz_2] at h
    rw [Zl0 q1 q2] at ho⊢
    simp only [List.length_append,List.length_cons,List.length_nil] at ho
    intro w hw
    rcases List.mem_append.1 hw with hw|hw
    · rcases List.mem_append.1 hw with hw|hw
      · exact Wa k y (by omega) f1 _ (by omega) w hw
      · exact Wa k z (by omega) f2 _ (by omega) w hw
    · rw [List.mem_singleton.1 hw]
      exact Z39 q1 (.inl (by omega))
  · rw [sz_4] at h
    obtain ⟨p,hp⟩:∃p,p=o+(cdX y o).length+(cdX z (o+(cdX y o).length)).length+2:=⟨_,rfl⟩
    obtain ⟨q,hq⟩:∃q,q=p+(cdX u p).length+1:=⟨_,rfl⟩
    rw [Zqi hp hq] at ho⊢
    simp only [List.length_append,List.length_cons] at ho
    intro w hw
    rcases List.mem_append.1 hw with hw|hw
    · rcases List.mem_append.1 hw with hw|hw
      · exact Wa k y (by omega) f1 _ (by omega) w hw
      · exact Wa k z (by omega) f2 _ (by omega) w hw
    · rcases List.mem_cons.1 hw with rfl|hw
      · exact Z39 (by decide) (.inl (by decide))
      · rcases List.mem_cons.1 hw with rfl|hw
        · exact fm_n (.inr (.inl rfl)) (by omega) (by omega)
        · rcases List.mem_append.1 hw with hw|hw
          · exact Wa k u (by omega) f3 _ (by omega) w hw
          · rcases List.mem_cons.1 hw with rfl|hw
            · exact fm_n (.inr (.inr (.inl rfl))) (by omega) (by omega)
            · exact Wa k v (by omega) f4 _ (by omega) w hw
theorem Zd1 {e:Nat} (he:e<=9007199254740992):∀{ws:List Tst},(∀w∈ws,Z6 w=true)->∀y∈cdTs e ws,formedF y=true
 | [],_,y,hy=>by cases hy
 |w::r,h,y,hy=>by
  have hw:=h w (.head _)
  unfold Z6 at hw
  have hw:=of_decide_eq_true hw
  rcases List.mem_cons.1 hy with rfl|hy
  · exact fm_2 (by omega) (by omega)
  · rcases List.mem_cons.1 hy with rfl|hy
    · exact Z8g hw.2.2.1 hw.2.2.2.1 hw.2.2.2.2.1 hw.2.2.2.2.2
    · rcases List.mem_cons.1 hy with rfl|hy
      · exact fm_n (.inr (.inl rfl)) (by omega) (by omega)
      · exact Zd1 he (fun w hw=>h w (.tail _ hw)) y hy
def ClOk (l:List Cls):Prop:=∀c∈l,Zj c.pay=true/\∀w∈c.when_,Z6 w=true
theorem Zd2:∀{l:List Cls} {i o:Nat},ClOk l->o+(cdCs l i o).length<=9007199254740992->i+l.length<=9007199254740992->∀y∈cdCs l i o,formedF y=true
 | [],i,o,_,_,_,y,hy=>by cases hy
 |c::r,i,o,h,ho,hi,y,hy=>by
  have e0:cdCs (c::r) i o=cdC c i o++cdCs r (i+1) (o+(cdC c i o).length):=rfl
  rw [e0] at ho hy
  rw [List.length_append] at ho
  rw [List.length_cons] at hi
  have hl:=Zl9 c i o
  rcases List.mem_append.1 hy with hy|hy
  · unfold cdC at hy
    simp only at hy
    rcases List.mem_append.1 hy with hy|hy
    · rcases List.mem_append.1 hy with hy|hy
      · exact Zd1 (by omega) (h c (.head _)).2 y hy
      · exact Wa _ _ (Nat.le_refl _) (h c (.head _)).1 _ (by omega) y hy
    · rw [List.mem_singleton.1 hy]
      exact fm_n (.inr (.inr (.inr rfl))) (by omega) (by omega)
  · exact Zd2 (fun d hd=>h d (.tail _ hd)) (by omega) (by omega) y hy
theorem Zoj {c:List Ins} {k:Nat} (hk:k<c.length):(deps c).getD k 0=if k=0 then 0 else-1:=by
 unfold deps
 rw [Zs,List.length_replicate]
 by_cases h:k=0
 · subst h;rw [if_pos ⟨rfl,hk⟩,if_pos rfl]
 · rw [if_neg (by omega),if_neg h,List.getD_eq_getElem?_getD,List.getElem?_replicate,if_pos hk];rfl
theorem Zok {t:Tar} (h:ClOk t.clauses) (hn:t.clauses.length<=64):verF (cdT t)=if 4096<(cdT t).length\/64<dCs t.clauses then (0,2) else (dCs t.clauses,0):=by
 have hl:(cdT t).length=(cdCs t.clauses 0 0).length+1:=by unfold cdT;simp
 unfold verF
 by_cases h1:4096<(cdT t).length
 · rw [if_pos h1,if_pos (.inl h1)]
 · rw [if_neg h1]
   have hf:(cdT t).all formedF=true:=by
    rw [List.all_eq_true]
    intro y hy
    unfold cdT at hy
    rcases List.mem_append.1 hy with hy|hy
    · exact Zd2 h (by omega) (by omega) y hy
    · rw [List.mem_singleton.1 hy]
      exact Z39 (by decide) (.inr rfl)
   rw [if_neg (by rw [hf];rintro (h|h)<;>first|omega|cases h)]
   have hd0:(deps (cdT t)).length=(cdT t).length:=by unfold deps;simp
   obtain ⟨D,e⟩:=Z2t (len:=(cdT t).length) (l:=t.clauses) (i:=0) (o:=0) (D:=deps (cdT t)) (m:=0) (fun c hc=>(h c hc).1) hd0 (by omega) (Int.le_refl _) (by rw [Zoj (by omega),if_pos rfl]) (fun k a b=>by rw [Zoj b,if_neg (by omega)];decide)
   have e:fromF ((cdT t).length:Nat) (cdT t) 0 (deps (cdT t)) 0=some (D,max 0 (dCs t.clauses)):=e
   rw [e]
   have hp:=Zuh (l:=t.clauses) fun c hc=>(h c hc).1
   unfold endF
   simp only
   rw [show max 0 (dCs t.clauses)=dCs t.clauses by omega]
   by_cases h2:64<dCs t.clauses
   · rw [if_pos h2,if_pos (.inr h2)]
   · rw [if_neg h2,if_neg (by omega)]
end
section
open Go.RowKit
section
variable {Y : Thy} {E : Eng Y}
def celS (E:Eng Y) (th:Y.Th) (st:Option (List (Y.dom th)×Nat)) (c:Nat):SV Y:=
 match st with
 |some p=> .sl c 0 p.1.length (E.w th) none
 |none=> .val (.slice none 0 0)
def hpP (E:Eng Y) (th:Y.Th) (st:Option (List (Y.dom th)×Nat)):Hp Y:=fun b=>
 match Nat.beq b 0 with
 |true=>some (.raw [celS E th st 1] 0 none)
 |false=>(match Nat.beq b 1 with
  |true=>(match st with|some p=>some (.rows th p.1 p.2)|none=>none)
  |false=>none)
def fzO {α:Type} (st:Option (α×Nat)):Nat:=match st with|some p=>p.2|none=>0
def mdO {α:Type} (st:Option (α×Nat)) (b c:Nat):List Nat:=match st with|some _=> [b,c]|none=> [b]
def prnR (E:Eng Y) (th:Y.Th) (st:Option (List (Y.dom th)×Nat)) (b c i:Nat) (l':List (Y.dom th)):Res Y:=
 ⟨.tup [],1,mdO st b c,fun x=>match Nat.beq x b with|true=>some (.raw [.sl i 0 l'.length (E.w th) none] 0 none)|false=>at1 i (some (.rows th l' (fzO st))) x,none⟩
def PrnC (E:Eng Y) (f:Nat) (th:Y.Th) (args:List (SV Y)) (st:Option (List (Y.dom th)×Nat)) (l':List (Y.dom th)):Prop:=
 ∀(b c:Nat) (h:Hp Y) (i:Nat) (tg:Option Y.Th),h b=some (.raw [celS E th st c] 0 tg)->(∀p,st=some p->h c=some (.rows th p.1 p.2)/\b≠c)->Vm E f (.ptr b 0::args) h i (prnR E th st b c i l')
def prnK (E:Eng Y) (th:Y.Th) (st:Option (List (Y.dom th)×Nat)) (l':List (Y.dom th)) (r:Res Y):Prop:=
 match r.v,patch (hpP E th st) 2 r 0 with
 | .tup [],some (.raw [.sl c 0 n w none] 0 _)=>
  (match Nat.ble 1 c&&Nat.beq w (E.w th),patch (hpP E th st) 2 r c with
  |true,some (.rows th' L fz')=>V7 L fun L=>L=l'/\n=l'.length/\fz'=fzO st
  |_,_=>False)
 |_,_=>False
theorem Z76 (th:Y.Th) (st:Option (List (Y.dom th)×Nat)):hpP E th st 0=some (.raw [celS E th st 1] 0 none):=rfl
theorem Vv {th:Y.Th} {st:Option (List (Y.dom th)×Nat)} {x:Nat} {y:Blk Y} (h:hpP E th st x=some y):(x=0/\y= .raw [celS E th st 1] 0 none)\/(x=1/\∃p,st=some p/\y= .rows th p.1 p.2):=by
 match x,h with
 |0,h=>rw [Z76] at h;cases h;exact .inl ⟨rfl,rfl⟩
 |1,h=>
  cases st with
  |none=>cases h
  |some p=>
   have h:some (Blk.rows th p.1 p.2:Blk Y)=some y:=h
   cases h
   exact .inr ⟨rfl,p,rfl,rfl⟩
 |x+2,h=>cases h
theorem Z3q (th:Y.Th) (st:Option (List (Y.dom th)×Nat)):DomLt (hpP E th st) 2:=fun b hb=>by
 obtain ⟨y,hy⟩:=Option.ne_none_iff_exists'.1 hb
 rcases Vv hy with ⟨rfl,_⟩|⟨rfl,_⟩<;>omega
def σP {α:Type} (st:Option α) (σ:Pl) (b c:Nat):Pl:=fun x=>
 match Nat.beq x 0 with
 |true=>σ b
 |false=>(match Nat.beq x 1 with
  |true=>(match st with|some _=>σ c|none=>none)
  |false=>none)
theorem σP_cases {α:Type} {st:Option α} {σ:Pl} {b c x:Nat} {q:Nat×Nat} (h:σP st σ b c x=some q):(x=0/\σ b=some q)\/(x=1/\(∃p,st=some p)/\σ c=some q):=by
 match x,h with
 |0,h=>exact .inl ⟨rfl,h⟩
 |1,h=>
  cases st with
  |none=>cases h
  |some p=>exact .inr ⟨rfl,⟨p,rfl⟩,h⟩
 |x+2,h=>cases h
theorem mdO_mem {α:Type} {st:Option (α×Nat)} {b c x:Nat}:x∈mdO st b c↔x=b\/(x=c/\∃p,st=some p):=by
 cases st with
 |none=>simp [mdO]
 |some p=>simp [mdO]
open Classical in
theorem Wk (hE:EngOk E) {call:Nat->List (SV Y)->Hp Y->Nat->(Res Y->Prop)->Prop} (hcall:Ws E call) {f:Nat} {th:Y.Th} {args:List (SV Y)} {st:Option (List (Y.dom th)×Nat)} {l':List (Y.dom th)} (ha:nidL 0 args=true)
 (hk:call f (.ptr 0 0::args) (hpP E th st) 2 (prnK E th st l')):PrnC E f th args st l':=by
 intro b c h i tg hb hc
 obtain ⟨r,hr,hR,htri⟩:=hcall f _ _ _ _ (Z3q th st) hk
 have hmods:∀x∈r.mods,x=0\/(x=1/\∃p,st=some p):=by
  intro x hx
  obtain ⟨y,hy⟩:=Option.ne_none_iff_exists'.1 (hR x hx)
  rcases Vv hy with ⟨h1,_⟩|⟨h1,p,h2,_⟩
  · exact .inl h1
  · exact .inr ⟨h1,p,h2⟩
 unfold prnK at hr
 split at hr
 case h_2=>exact hr.elim
 rename_i c' n' w' tg' hv hp0
 split at hr
 case h_2=>exact hr.elim
 rename_i th' L fz' hc1 hpc
 obtain ⟨e,hr⟩:=Yw hr
 subst e
 obtain ⟨rfl,rfl,rfl⟩:l'=L/\n'=l'.length/\fz'=fzO st:=⟨hr.1.symm,hr.2⟩
 rw [Bool.and_eq_true,Nat.ble_eq] at hc1
 obtain ⟨hc1,hw⟩:=hc1
 have hw:=Nat.eq_of_beq_eq_true hw
 subst hw
 replace htri:Vm E f (.ptr 0 0::args) (hpP E th' st) 2 r:=htri.resolve_right (by rintro ⟨p,hp,_⟩;rw [hv] at hp;cases hp)
 intro B σ g W vals hh hrd hI hB hfree hd
 obtain rfl:hh=h:=funext fun b=>hrd b trivial
 obtain ⟨rb,zb,hσb,hbo⟩:=hI.blk b _ hb
 have hbn:hh b≠none:=by rw [hb];simp
 have F0:σP st σ b c 0=σ b:=rfl
 have F1:∀p,st=some p->σP st σ b c 1=σ c:=by rintro p rfl;rfl
 have bc:∀p,st=some p->b≠c:=fun p hp=>(hc p hp).2
 have cn:∀p,st=some p->hh c≠none:=fun p hp=>by rw [(hc p hp).1];simp
 have reg:∀p q z z',st=some p->σ b=some (q,z)->σ c=some (q,z')->False:=fun p q z z' hp h1 h2=>bc p hp (hI.inj b c q z z' hbn (cn p hp) h1 h2)
 have hI1:Inv E B (σP st σ b c) (hpP E th' st) g W:=by
  refine ⟨hI.gc,hI.gm,fun x y hx=> ?_,fun x x' r z z' h1 h2 h3 h4=> ?_,fun x r' z' hs=> ?_,fun x y r' z' o v hx hs hv=> ?_,fun x y r' z' hx hs=> ?_,hI.glob⟩
  · rcases Vv hx with ⟨rfl,rfl⟩|⟨rfl,p,hp,rfl⟩
    · refine ⟨rb,zb,hσb,?_⟩
      obtain ⟨arr,e,k1,k2,k3,k4,k5⟩:=hbo
      refine ⟨arr,e,k1,k2,k3,fun j sv hj=> ?_,trivial⟩
      cases j with
      |succ j=>cases hj
      |zero=>
       have hj:some (celS E th' st 1)=some sv:=hj
       cases hj
       obtain ⟨v,m1,m2⟩:=k4 0 _ (show ([celS E th' st c]:List (SV Y))[0]? =some _ from rfl)
       refine ⟨v,m1,?_⟩
       cases st with
       |none=>exact Zu hE m2 (fun b p hb=>by omega) (show nid 0 (celS E th' none 1)=true from rfl)
       |some p=>
        obtain ⟨r1,z1,c1,rfl,k1,k2,k3,k4,k5⟩:=Wb (show Den E σ g (.sl c 0 p.1.length (E.w th') none) v from m2)
        exact .sl (E:=E) (b:=1) k1 k2 k3 k4 k5
    · obtain ⟨r1,z1,k1,arr,e,k2,k3,k4,k5,k6⟩:=hI.blk c _ (hc p hp).1
      refine ⟨r1,z1,(F1 p hp).trans k1,arr,e,k2,k3,k4,fun j sv hj=> ?_,k6⟩
      obtain ⟨v,m1,m2⟩:=k5 j sv hj
      have hn:nid 0 sv=true:=by
       obtain ⟨q,p,x,rfl,hp,hq,hs⟩:=Yo hE th' _ hj
       exact Zo (hE.encI _ _ _) hs
      exact ⟨v,m1,Zu hE m2 (fun b p hb=>by omega) hn⟩
  · rcases σP_cases h3 with ⟨rfl,h3⟩|⟨rfl,⟨p,hp⟩,h3⟩<;>rcases σP_cases h4 with ⟨rfl,h4⟩|⟨rfl,⟨p',hp'⟩,h4⟩
    · rfl
    · exact (reg p' _ _ _ hp' h3 h4).elim
    · exact (reg p _ _ _ hp h4 h3).elim
    · rfl
  · rcases σP_cases hs with ⟨rfl,hs⟩|⟨rfl,_,hs⟩
    · exact hI.base b _ _ hs
    · exact hI.base c _ _ hs
  · rcases Vv hx with ⟨rfl,rfl⟩|⟨rfl,p,hp,rfl⟩
    · have h2:o<0:=hI.fz b _ _ _ o v hb hs hv
      omega
    · rw [F1 p hp] at hs
      exact hI.fz c _ _ _ o v (hc p hp).1 hs hv
  · rcases Vv hx with ⟨rfl,rfl⟩|⟨rfl,p,hp,rfl⟩
    · exact hI.fm b _ _ _ hb hs
    · rw [F1 p hp] at hs
      exact hI.fm c _ _ _ (hc p hp).1 hs
 have hd1:DenL E (σP st σ b c) g (.ptr 0 0::args) vals.toList:=by
  refine ⟨by rw [<-hd.1];rfl,fun j sv u h1 h2=> ?_⟩
  cases j with
  |zero=>
   simp at h1;subst h1
   have:=hd.2 0 _ u rfl h2
   cases this
   rename_i hs
   exact .ptr (E:=E) (b:=0) hs
  |succ j=>
   have h1:args[j]? =some sv:=by simpa using h1
   exact Zu hE (hd.2 (j+1) sv u (by simpa using h1) h2) (fun b p hb=>by omega) (Zo ha h1)
 refine (htri B _ g W vals _ (fun _ _=>rfl) hI1 hB (fun x h1 h2=>by match x,h1 with|x+2,_=>rfl) hd1).mono ?_
 rintro en w' ⟨u,he,σ',g',hS,hI',hv'⟩
 have hs0:σ' 0=some (rb,zb):=hS.sig 0 _ hσb
 obtain ⟨r1,z1,k1⟩:∃r1 z1,σ' c'=some (r1,z1):=by
  obtain ⟨r1,z1,m1,_⟩:=hI'.blk c' _ hpc
  exact ⟨r1,z1,m1⟩
 have hc0:c'≠0:=by omega
 have hne0:patch (hpP E th' st) 2 r 0≠none:=by rw [hp0];simp
 have hnec:patch (hpP E th' st) 2 r c'≠none:=by rw [hpc];simp
 have hrb:r1≠rb:=by
  rintro rfl
  exact hc0 (hI'.inj c' 0 _ _ _ hnec hne0 k1 hs0)
 have hr1:W.heap.size<=r1\/∃z' p,st=some p/\σ c=some (r1,z'):=by
  cases hs1:σP st σ b c c' with
  |some q=>
   have:=hS.sig c' _ hs1
   rw [k1] at this;cases this
   rcases σP_cases hs1 with ⟨h0,_⟩|⟨_,⟨p,hp⟩,h2⟩
   · exact absurd h0 hc0
   · exact .inr ⟨z1,p,hp,h2⟩
  |none=>
   rcases hS.blk c' r1 z1 hs1 k1 with h1|⟨b',h1,z',h2⟩
   · exact .inl h1
   · rcases σP_cases h2 with ⟨rfl,h3⟩|⟨_,⟨p,hp⟩,h3⟩
     · rw [hσb] at h3;cases h3;exact absurd rfl hrb
     · exact .inr ⟨z',p,hp,h3⟩
 have hheap:∀q,q<W.heap.size->q≠rb->(∀p z,st=some p->σ c≠some (q,z))->w'.heap[q]? =W.heap[q]? :=by
  intro q hq hne hne2
  refine hS.heap q hq fun b' hb' z' hz'=> ?_
  rcases σP_cases hz' with ⟨rfl,h2⟩|⟨_,⟨p,hp⟩,h2⟩
  · rw [hσb] at h2;cases h2;exact hne rfl
  · exact hne2 p z' hp h2
 have hi:σ i=none:=hfree i (Nat.le_refl _) (by show i<i+1;omega)
 have hbi:b≠i:=by rintro rfl;rw [hσb] at hi;cases hi
 have hci:∀p,st=some p->c≠i:=by
  rintro p hp rfl
  obtain ⟨r2,z2,m1,_⟩:=hI.blk c _ (hc p hp).1
  rw [hi] at m1;cases m1
 have hpatch:∀x,patch hh i (prnR E th' st b c i l') x=if x=b then some (.raw [.sl i 0 l'.length (E.w th') none] 0 none) else if x=i then some (.rows th' l' (fzO st)) else if x=c/\(∃p,st=some p) then none else hh x:=by
  intro x
  rw [Zg]
  by_cases e1:x=b
  · subst e1
    rw [if_pos (.inl (mdO_mem.2 (.inl rfl))),if_pos rfl]
    show (match Nat.beq x x with|true=>_|false=>_)=_
    rw [Nat.beq_refl]
  · rw [if_neg e1]
    have hb1:Nat.beq x b=false:=by
     cases e:Nat.beq x b with
     |true=>exact absurd (Nat.eq_of_beq_eq_true e) e1
     |false=>rfl
    have hh1:(prnR E th' st b c i l').h x=at1 i (some (.rows th' l' (fzO st))) x:=by
     show (match Nat.beq x b with|true=>_|false=>_)=_
     rw [hb1]
    by_cases e2:x=i
    · subst e2
      rw [if_pos (.inr ⟨Nat.le_refl _,(by show x<x+1;omega)⟩),if_pos rfl,hh1]
      unfold at1
      rw [Nat.beq_refl]
    · rw [if_neg e2]
      have hat:at1 i (some (.rows th' l' (fzO st):Blk Y)) x=none:=by
       unfold at1
       cases e:Nat.beq x i with
       |true=>exact absurd (Nat.eq_of_beq_eq_true e) e2
       |false=>rfl
      by_cases e3:x=c/\∃p,st=some p
      · rw [if_pos e3,if_pos (.inl (mdO_mem.2 (.inr e3))),hh1,hat]
      · rw [if_neg e3,if_neg]
        rintro (k|k)
        · rcases mdO_mem.1 k with k|k
          · exact e1 k
          · exact e3 k
        · have k:i<=x/\x<i+1:=k
          omega
 have src:∀x y,patch hh i (prnR E th' st b c i l') x=some y->(x=b/\y= .raw [.sl i 0 l'.length (E.w th') none] 0 none)\/(x=i/\y= .rows th' l' (fzO st))\/(x≠i/\x≠b/\(∀p,st=some p->x≠c)/\hh x=some y):=by
  intro x y hy
  rw [hpatch] at hy
  split at hy
  · rename_i e
    cases hy
    exact .inl ⟨e,rfl⟩
  · rename_i e
    split at hy
    · rename_i e2
      cases hy
      exact .inr (.inl ⟨e2,rfl⟩)
    · rename_i e2
      split at hy
      · cases hy
      · rename_i e3
        exact .inr (.inr ⟨e2,e,fun p hp hx=>e3 ⟨hx,p,hp⟩,hy⟩)
 have sgi:(match Nat.beq i i with|true=>σ' c'|false=>σ i)=some (r1,z1):=by rw [Nat.beq_refl];exact k1
 have sgx:∀x,x≠i->(match Nat.beq x i with|true=>σ' c'|false=>σ x)=σ x:=by
  intro x hx
  cases e:Nat.beq x i with
  |true=>exact absurd (Nat.eq_of_beq_eq_true e) hx
  |false=>rfl
 have far:∀x y q z',x≠b->(∀p,st=some p->x≠c)->hh x=some y->σ x=some (q,z')->q<W.heap.size/\q≠rb/\(∀p z,st=some p->σ c≠some (q,z)):=by
  intro x y q z' hx hx2 hy hs
  have hxn:hh x≠none:=by rw [hy];simp
  refine ⟨(hI.base x q z' hs).2,?_,fun p z hp hq=>hx2 p hp (hI.inj x c _ _ _ hxn (cn p hp) hs hq)⟩
  rintro rfl
  exact hx (hI.inj x b _ _ _ hxn hbn hs hσb)
 have far1:∀x y q z',x≠b->(∀p,st=some p->x≠c)->hh x=some y->σ x=some (q,z')->q≠r1:=by
  rintro x y q z' hx hx2 hy hs rfl
  obtain ⟨m1,m2,m3⟩:=far x y q z' hx hx2 hy hs
  rcases hr1 with h1|⟨z2,p,hp,h1⟩
  · omega
  · exact m3 p z2 hp h1
 have far0:rb<W.heap.size:=(hI.base b _ _ hσb).2
 refine ⟨_,he,fun x=>match Nat.beq x i with|true=>σ' c'|false=>σ x,g',⟨fun x p hx=> ?_,fun x p hx=> ?_,hS.gle,fun q o v hv=> ?_,hS.gmnew,fun q hq hne=> ?_,hS.size,hS.os,hS.tape,hS.output,fun x q z' hx hx'=> ?_⟩,?_,?_⟩
 · exact (sgx x (fun e=>by rw [e,hi] at hx;cases hx)).trans hx
 · by_cases e:x=i
   · exact .inr (by show i<=x/\x<i+1;omega)
   · have hx:(match Nat.beq x i with|true=>σ' c'|false=>σ x)=some p:=hx
     rw [sgx x e] at hx
     exact .inl hx
 · rcases hS.gcnew q o v hv with h1|h1|⟨b',h1,z',h2⟩
   · exact .inl h1
   · exact .inr (.inl h1)
   · rcases σP_cases h2 with ⟨rfl,h2⟩|⟨_,hp,h2⟩
     · exact .inr (.inr ⟨b,mdO_mem.2 (.inl rfl),_,h2⟩)
     · exact .inr (.inr ⟨c,mdO_mem.2 (.inr ⟨rfl,hp⟩),_,h2⟩)
 · exact hheap q hq (fun e=>hne b (mdO_mem.2 (.inl rfl)) zb (by rw [hσb,e])) fun p z hp=>hne c (mdO_mem.2 (.inr ⟨rfl,p,hp⟩)) z
 · have hx':(match Nat.beq x i with|true=>σ' c'|false=>σ x)=some (q,z'):=hx'
   by_cases e:x=i
   · subst e
     rw [sgi] at hx';cases hx'
     rcases hr1 with h1|⟨z2,p,hp,h1⟩
     · exact .inl h1
     · exact .inr ⟨c,mdO_mem.2 (.inr ⟨rfl,p,hp⟩),z2,h1⟩
   · rw [sgx x e,hx] at hx';cases hx'
 · refine ⟨hI'.gc,hI'.gm,fun x y hx=> ?_,fun x x' q z1' z2' h1 h2 h3 h4=> ?_,fun x q z' hs=> ?_,fun x y q z' o v hx hs hv=> ?_,fun x y q z' hx hs=> ?_,hI'.glob⟩
   · rcases src x y hx with ⟨rfl,rfl⟩|⟨rfl,rfl⟩|⟨e1,e2,e3,e4⟩
     · refine ⟨rb,zb,(sgx x hbi).trans hσb,?_⟩
       obtain ⟨r2,z2,m1,arr,e,n1,n2,n3,n4,n5⟩:=hI'.blk 0 _ hp0
       rw [hs0] at m1;cases m1
       refine ⟨arr,e,n1,n2,n3,fun j sv hj=> ?_,trivial⟩
       cases j with
       |succ j=>cases hj
       |zero=>
        have hj:some (SV.sl i 0 l'.length (E.w th') none:SV Y)=some sv:=hj
        cases hj
        obtain ⟨v,q1,q2⟩:=n4 0 _ (show ([.sl c' 0 l'.length (E.w th') none]:List (SV Y))[0]? =some _ from rfl)
        refine ⟨v,q1,?_⟩
        obtain ⟨r3,z3,c3,rfl,u1,u2,u3,u4,u5⟩:=Wb (show Den E σ' g' (.sl c' 0 l'.length (E.w th') none) v from q2)
        refine .sl (E:=E) (b:=i) (z:=z3) ?_ u2 u3 u4 u5
        show (match Nat.beq i i with|true=>σ' c'|false=>σ i)=_
        rw [Nat.beq_refl]
        exact u1
     · refine ⟨r1,z1,sgi,?_⟩
       obtain ⟨r2,z2,m1,m2⟩:=hI'.blk c' _ hpc
       rw [k1] at m1;cases m1
       obtain ⟨arr,e,m1,m3,m4,m5,m6⟩:=m2
       refine ⟨arr,e,m1,m3,m4,fun j sv hj=> ?_,m6⟩
       obtain ⟨v,n1,n2⟩:=m5 j sv hj
       have hn:nid 0 sv=true:=by
        obtain ⟨q,p,x,rfl,hp,hq,hs⟩:=Yo hE th' _ hj
        exact Zo (hE.encI _ _ _) hs
       exact ⟨v,n1,Zu hE n2 (fun b p hb=>by omega) hn⟩
     · obtain ⟨q,z',m1,m2⟩:=hI.blk x y e4
       obtain ⟨m3,m4,m5⟩:=far x y q z' e2 e3 e4 m1
       refine ⟨q,z',(sgx x e1).trans m1,?_⟩
       refine m2.mono (fun x p hx=> ?_) hS.gle (hheap q m3 m4 m5)
       show (match Nat.beq x i with|true=>σ' c'|false=>σ x)=some p
       rw [sgx x (fun e=>by rw [e,hi] at hx;cases hx)]
       exact hx
   · obtain ⟨y,hy⟩:=Option.ne_none_iff_exists'.1 h1
     obtain ⟨y',hy'⟩:=Option.ne_none_iff_exists'.1 h2
     rcases src x y hy with ⟨rfl,rfl⟩|⟨rfl,rfl⟩|⟨e1,e2,e3,e4⟩<;>rcases src x' y' hy' with ⟨rfl,rfl⟩|⟨rfl,rfl⟩|⟨d1,d2,d3,d4⟩
     · rfl
     · rw [sgx x hbi,hσb] at h3;cases h3
       rw [sgi] at h4;cases h4
       exact absurd rfl hrb
     · rw [sgx x hbi,hσb] at h3;cases h3
       rw [sgx x' d1] at h4
       exact absurd rfl (far x' y' _ _ d2 d3 d4 h4).2.1
     · rw [sgi] at h3;cases h3
       rw [sgx x' hbi,hσb] at h4;cases h4
       exact absurd rfl hrb
     · rfl
     · rw [sgi] at h3;cases h3
       rw [sgx x' d1] at h4
       exact absurd rfl (far1 x' y' _ _ d2 d3 d4 h4)
     · rw [sgx x' hbi,hσb] at h4;cases h4
       rw [sgx x e1] at h3
       exact absurd rfl (far x y _ _ e2 e3 e4 h3).2.1
     · rw [sgi] at h4;cases h4
       rw [sgx x e1] at h3
       exact absurd rfl (far1 x y _ _ e2 e3 e4 h3)
     · rw [sgx x e1] at h3
       rw [sgx x' d1] at h4
       exact hI.inj x x' q _ _ (by rw [e4];simp) (by rw [d4];simp) h3 h4
   · by_cases e:x=i
     · subst e
       rw [sgi] at hs;cases hs
       exact hI'.base c' _ _ k1
     · rw [sgx x e] at hs
       exact ⟨(hI.base x q z' hs).1,Nat.lt_of_lt_of_le (hI.base x q z' hs).2 hS.size⟩
   · rcases src x y hx with ⟨rfl,rfl⟩|⟨rfl,rfl⟩|⟨e1,e2,e3,e4⟩
     · rw [sgx x hbi,hσb] at hs;cases hs
       have h2:o<0:=hI'.fz 0 _ _ _ o v hp0 hs0 hv
       omega
     · rw [sgi] at hs;cases hs
       exact hI'.fz c' _ _ _ o v hpc k1 hv
     · rw [sgx x e1] at hs
       obtain ⟨m3,m4,m5⟩:=far x y q z' e2 e3 e4 hs
       rcases hS.gcnew q o v hv with h1|h1|⟨b',h1,z2,h2⟩
       · exact hI.fz x y q z' o v e4 hs h1
       · omega
       · rcases σP_cases h2 with ⟨rfl,h3⟩|⟨_,⟨p,hp⟩,h3⟩
         · rw [hσb] at h3;cases h3;exact absurd rfl m4
         · exact absurd h3 (m5 p z2 hp)
   · rcases src x y hx with ⟨rfl,rfl⟩|⟨rfl,rfl⟩|⟨e1,e2,e3,e4⟩
     · rw [sgx x hbi,hσb] at hs;cases hs
       exact hI'.fm 0 _ _ _ hp0 hs0
     · rw [sgi] at hs;cases hs
       exact hI'.fm c' _ _ _ hpc k1
     · rw [sgx x e1] at hs
       obtain ⟨m3,m4,m5⟩:=far x y q z' e2 e3 e4 hs
       cases hg':g'.obj q with
       |none=>rfl
       |some es=>
        rcases hS.gmnew q es hg' with k|k
        · rw [hI.fm x y q z' e4 hs] at k;cases k
        · omega
 · rw [hv] at hv'
   exact Zu hE hv' (fun b p hb=>by omega) (show nid 0 (SV.tup ([]:List (SV Y)))=true from rfl)
def sumB (E:Eng Y) (th:Y.Th) {α:Type} (d:DcL E α) (pre:List (Y.dom th)->α->Prop) (f:List (Y.dom th)->α->List (Y.dom th)):Sum Y:=fun args h i k=>
 match args with
 | .ptr b 0::rest=>
  (match h b,d.dec rest with
  |some (.raw [.sl c 0 len w none] 0 _),some x=>
   (match h c,Nat.beq w (E.w th)&& !(Nat.beq b c) with
   |some (.rows th' l fz),true=>V7 l fun l=>(len=l.length/\fz<=l.length/\pre l x)/\∀l',l'=f l x->k (prnR E th (some (l,fz)) b c i l')
   |_,_=>False)
  |some (.raw [.val (.slice none 0 0)] 0 _),some x=>pre [] x/\∀l',l'=f [] x->k (prnR E th none b 0 i l')
  |_,_=>False)
 |_=>False
def Z3r (E:Eng Y) (f:Nat) (th:Y.Th) (args:List (SV Y)) (F:List (Y.dom th)->List (Y.dom th)) (P:List (Y.dom th)->Prop):Prop:=
 (∀l fz,fz<=l.length->P l->PrnC E f th args (some (l,fz)) (F l))/\(P []->PrnC E f th args none (F []))
theorem PrnC.of_dec {α:Type} {d:DcL E α} {f:Nat} {th:Y.Th} {args:List (SV Y)} {x:α} {st:Option (List (Y.dom th)×Nat)} {l':List (Y.dom th)} (hd:d.dec args=some x) (h:PrnC E f th (d.enc x) st l'):PrnC E f th args st l':=by
 obtain ⟨k1,k2,k3⟩:=d.ok _ _ hd
 intro b c hp i tg h1 h2 B σ g w vals hh hrd hI hB hfree hden
 refine h b c hp i tg h1 h2 B σ g w vals hh hrd hI hB hfree ⟨?_,fun j sv' u h5 h6=> ?_⟩
 · rw [<-hden.1,List.length_cons,List.length_cons,k2]
 · cases j with
   |zero=>exact hden.2 0 sv' u h5 h6
   |succ j=>
    obtain ⟨sv,h7,h8⟩:=k3 σ g j sv' (by simpa using h5)
    exact h8 u (hden.2 (j+1) sv u (by simpa using h7) h6)
theorem Ztg (hE:EngOk E) {th:Y.Th} {α:Type} {f:Nat} (hg:FnGood E.P f) {d:DcL E α} {pre:List (Y.dom th)->α->Prop} {F:List (Y.dom th)->α->List (Y.dom th)} (hp:∀x,Z3r E f th (d.enc x) (fun l=>F l x) (fun l=>pre l x)):SumOk E f (sumB E th d pre F):=by
 refine ⟨hg,fun args h i k hD hk=> ?_⟩
 unfold sumB at hk
 split at hk
 case h_2=>exact hk.elim
 rename_i b rest
 split at hk
 case h_3=>exact hk.elim
 · rename_i c len w tg x hb hx
   split at hk
   case h_2=>exact hk.elim
   rename_i th' l fz hc hw
   rw [Bool.and_eq_true,Bool.not_eq_true'] at hw
   obtain ⟨hw,hbc⟩:=hw
   have hw:=Nat.eq_of_beq_eq_true hw
   have hbc:=nb hbc
   obtain ⟨e,hk2⟩:=Yw hk
   clear hk
   subst e
   subst hw
   obtain ⟨⟨rfl,hfz,hpr⟩,hk3⟩:=hk2
   refine ⟨_,hk3 _ rfl,fun b' hb'=> ?_,.inl (PrnC.of_dec hx ((hp x).1 l fz hfz hpr) b c h i tg hb fun p hp=> ?_)⟩
   · rcases mdO_mem.1 (show b'∈mdO (some (l,fz)) b c from hb') with rfl|⟨rfl,_⟩
     · rw [hb];simp
     · rw [hc];simp
   · cases hp
     exact ⟨hc,hbc⟩
 · rename_i tg x hb hx
   obtain ⟨hpr,hk3⟩:=hk
   refine ⟨_,hk3 _ rfl,fun b' hb'=> ?_,.inl (PrnC.of_dec hx ((hp x).2 hpr) b 0 h i tg hb fun p hp=>by cases hp)⟩
   rcases mdO_mem.1 (show b'∈mdO (none:Option (List (Y.dom th)×Nat)) b 0 from hb') with rfl|⟨_,_,h2⟩
   · rw [hb];simp
   · cases h2
end
end
section
open Go
noncomputable def Zxu:Sum thy:=sumF E (fun _=>none) 10 (dA1 (dR .tariffs)) (fun x=>(∀c∈Tar.clauses x.1,c.pay.sz<1000000000000/\c.when_.length<1000000000000)/\(Tar.clauses x.1).length<1000000000000) fun x=> .int false .i64 (Ye x.1)
theorem Zky:SumOk E 13 Zxu:=Zun E_ok (Zc (f:=13) rfl) fun x h=>Zr8 _ h.1 h.2
end
section
open Go
noncomputable def Scx (m:Nat):Sum thy:=sumB E Th.ins dExp (fun (l:List Ins) x=>x.1.sz<m/\Zj x.1=true/\l.length+(cdX x.1 l.length).length<=1000000000) fun (l:List Ins) x=>l++cdX x.1 l.length
noncomputable def Fcx (m:Nat):Fns thy:=addS F0 (52) (Scx m)
abbrev qCB1 (a0:Ex):=(Ex.mk (Ex.op a0) (Ex.n a0) (Ex.d0 a0) (Ex.d1 a0) (Ex.d2 a0) (Ex.d3 a0) (Ex.l a0))
abbrev qCBb:=(1:Nat)
abbrev qCB2 (a0:List Ins):=(List.length a0+qCBb)
abbrev qCB3 (a0:List Ins):=(List.length a0)
abbrev qCB4 (a0:List Ins) (b0:List Ins) (c0:Nat) (d0:Ex) (e0:Nat):=(List.length a0=List.length a0/\fzO (some (b0,c0))<=List.length a0/\Ex.sz (qCB1 d0)+qCBb<=e0/\Zj (qCB1 d0)=true/\List.length a0+List.length (cdX (qCB1 d0) (qCB3 a0))<=(1000000000:Nat))
abbrev qCB5:=(0:Int)
abbrev qCB6 (a0:Ex):=(↑(List.length (Ex.l a0)):Int)
abbrev qCB7 (a0:List Ins) (b0:Nat) (c0:Ex) (d0:Nat):=(List.length a0=List.length a0/\b0<=List.length a0/\Ex.sz (qCB1 c0)+qCBb<=d0/\Zj (qCB1 c0)=true/\List.length a0+List.length (cdX (qCB1 c0) (qCB3 a0))<=(1000000000:Nat))
abbrev qCB8 (a0:List Ins) (b0:List Ins) (c0:Nat):=(some (a0,fzO (some (b0,c0))))
abbrev qCB9:=(140737488355328:Nat)
abbrev qCBa:=(1:Int)
theorem Zz6 (m:Nat) (l:List Ins) (fz:Nat) (x:Ex) (l':List Ins):Zf E F0 (vc E (Fcx m) 400) 52 [.ptr 0 0,exA x] (hpP E Th.ins (some (l,fz))) 2 (prnK E Th.ins (some (l,fz)) l')=(
 ((Ex.op x==qCBa)=true->(List.length l<=List.length l/\fz<=List.length l/\(qCB2 l)*(24:Nat)<=qCB9)/\∀(l'_1:List Ins),l'_1=List.take (qCB3 l) l++ [Ins.mk qCBa (Ex.n x) qCB5]->l'_1=l'/\List.length l+qCBb=List.length l'/\fz=fzO (some (l,fz)))/\((Ex.op x==qCBa)=false->((Ex.op x==(2:Int))=true->(List.length l<=List.length l/\fz<=List.length l/\(qCB2 l)*(24:Nat)<=qCB9)/\∀(l'_1:List Ins),l'_1=List.take (qCB3 l) l++ [Ins.mk (2:Int) (Ex.n x) qCB5]->l'_1=l'/\List.length l+qCBb=List.length l'/\fz=fzO (some (l,fz)))/\((Ex.op x==(2:Int))=false->((Ex.op x==(11:Int))=true->qCB5<=qCB5/\qCB5+qCBa<=(qCB6 x)/\∀(x_1:Ex),(Ex.l x)[Int.toNat qCB5]? =some x_1->(qCB7 l fz x_1 m)/\∀(l'_1:List Ins),l'_1=l++cdX (qCB1 x_1) (qCB3 l)->qCB5<=qCBa/\qCBa+qCBa<=(qCB6 x)/\∀(x_2:Ex),(Ex.l x)[Int.toNat qCBa]? =some x_2->(qCB4 l'_1 l fz x_2 m)/\∀(l'_2:List Ins),l'_2=l'_1++cdX (qCB1 x_2) (qCB3 l'_1)->(List.length l'_2<=List.length l'_2/\fzO (qCB8 l'_1 l fz)<=List.length l'_2/\(qCB2 l'_2)*(24:Nat)<=qCB9)/\∀(l'_3:List Ins),l'_3=List.take (qCB3 l'_2) l'_2++ [Ins.mk (11:Int) qCB5 qCB5]->(List.length l'_2+qCBb<=List.length l'_3/\fzO (qCB8 l'_1 l fz)<=List.length l'_2+qCBb/\(List.length l'_2+qCBb+qCBb)*(24:Nat)<=qCB9)/\∀(l'_4:List Ins),l'_4=List.take (qCB2 l'_2) l'_3++ [Ins.mk (13:Int) qCB5 qCB5]->qCB5<=(2:Int)/\(2:Int)+qCBa<=(qCB6 x)/\∀(x_3:Ex),(Ex.l x)[Int.toNat (2:Int)]? =some x_3->(List.length l'_2+qCBb+qCBb=List.length l'_4/\fzO (qCB8 l'_1 l fz)<=List.length l'_4/\Ex.sz (qCB1 x_3)+qCBb<=m/\Zj (qCB1 x_3)=true/\List.length l'_4+List.length (cdX (qCB1 x_3) (qCB3 l'_4))<=(1000000000:Nat))/\∀(l'_5:List Ins),l'_5=l'_4++cdX (qCB1 x_3) (qCB3 l'_4)->(List.length l'_5<=List.length l'_5/\fzO (some (l'_4,fzO (qCB8 l'_1 l fz)))<=List.length l'_5/\(qCB2 l'_5)*(24:Nat)<=qCB9)/\∀(l'_6:List Ins),l'_6=List.take (qCB3 l'_5) l'_5++ [Ins.mk (14:Int) qCB5 qCB5]->(qCB5<=(↑(qCB2 l'_2):Int)/\(↑(qCB2 l'_2):Int)+qCBa<=(↑(qCB2 l'_5):Int))/\fzO (some (l'_4,fzO (qCB8 l'_1 l fz)))<=(0:Nat)+Int.toNat (↑(qCB2 l'_2):Int)/\(0:Nat)+Int.toNat (↑(qCB2 l'_2):Int)+qCBb<=List.length l'_6/\∀(x_4:Ins),l'_6[(0:Nat)+Int.toNat (↑(qCB2 l'_2):Int)]? =some x_4->∀(l'_7:List Ins),l'_7=List.set l'_6 ((0:Nat)+Int.toNat (↑(qCB2 l'_2):Int)) (Ins.mk (Ins.op x_4) (↑(qCB2 l'_5):Int) (Ins.m x_4))->qCB5<=(3:Int)/\(3:Int)+qCBa<=(qCB6 x)/\∀(x_5:Ex),(Ex.l x)[Int.toNat (3:Int)]? =some x_5->(List.length l'_5+qCBb=List.length l'_7/\fzO (some (l'_4,fzO (qCB8 l'_1 l fz)))<=List.length l'_7/\Ex.sz (qCB1 x_5)+qCBb<=m/\Zj (qCB1 x_5)=true/\List.length l'_7+List.length (cdX (qCB1 x_5) (qCB3 l'_7))<=(1000000000:Nat))/\∀(l'_8:List Ins),l'_8=l'_7++cdX (qCB1 x_5) (qCB3 l'_7)->(qCB5<=(↑(qCB3 l'_5):Int)/\(↑(qCB3 l'_5):Int)+qCBa<=(↑(qCB3 l'_8):Int))/\fzO (some (l'_7,fzO (some (l'_4,fzO (qCB8 l'_1 l fz)))))<=(0:Nat)+Int.toNat (↑(qCB3 l'_5):Int)/\(0:Nat)+Int.toNat (↑(qCB3 l'_5):Int)+qCBb<=List.length l'_8/\∀(x:Ins),l'_8[(0:Nat)+Int.toNat (↑(qCB3 l'_5):Int)]? =some x->∀(l'_9:List Ins),l'_9=List.set l'_8 ((0:Nat)+Int.toNat (↑(qCB3 l'_5):Int)) (Ins.mk (Ins.op x) (↑(qCB3 l'_8):Int) (Ins.m x))->l'_9=l'/\List.length l'_8=List.length l'/\fzO (some (l'_7,fzO (some (l'_4,fzO (qCB8 l'_1 l fz)))))=fzO (some (l,fz)))/\((Ex.op x==(11:Int))=false->qCB5<=qCB5/\qCB5+qCBa<=(qCB6 x)/\∀(x_1:Ex),(Ex.l x)[Int.toNat qCB5]? =some x_1->(qCB7 l fz x_1 m)/\∀(l'_1:List Ins),l'_1=l++cdX (qCB1 x_1) (qCB3 l)->qCB5<=qCBa/\qCBa+qCBa<=(qCB6 x)/\∀(x_2:Ex),(Ex.l x)[Int.toNat qCBa]? =some x_2->(qCB4 l'_1 l fz x_2 m)/\∀(l'_2:List Ins),l'_2=l'_1++cdX (qCB1 x_2) (qCB3 l'_1)->(List.length l'_2<=List.length
l'_2/\fzO (qCB8 l'_1 l fz)<=List.length l'_2/\(qCB2 l'_2)*(24:Nat)<=qCB9)/\∀(l'_3:List Ins),l'_3=List.take (qCB3 l'_2) l'_2++ [Ins.mk (wr IntKind.i64 (wr IntKind.i64 ((3:Int)+Ex.op x)-(3:Int))) qCB5 qCB5]->l'_3=l'/\List.length l'_2+qCBb=List.length l'/\fzO (qCB8 l'_1 l fz)=fzO (some (l,fz)))))):=by kernel_rfl
abbrev qCBc (a0:Ex):=(Ex.mk (Ex.op a0) (Ex.n a0) (Ex.d0 a0) (Ex.d1 a0) (Ex.d2 a0) (Ex.d3 a0) (Ex.l a0))
abbrev qCBd:=(none:Option (List Ins×Nat))
abbrev qCBm:=(1:Nat)
abbrev qCBe (a0:List Ins):=(List.length a0+qCBm)
abbrev qCBi (a0:List Ins):=(List.length a0)
abbrev qCBf (a0:List Ins) (b0:Ex) (c0:Nat):=(List.length a0=List.length a0/\fzO qCBd<=List.length a0/\Ex.sz (qCBc b0)+qCBm<=c0/\Zj (qCBc b0)=true/\List.length a0+List.length (cdX (qCBc b0) (qCBi a0))<=(1000000000:Nat))
abbrev qCBg:=(0:Int)
abbrev qCBh (a0:Ex):=(↑(List.length (Ex.l a0)):Int)
abbrev qCBo:=(0:Nat)
abbrev qCBj (a0:Ex) (b0:Nat):=(Ex.sz (qCBc a0)+qCBm<=b0/\Zj (qCBc a0)=true/\qCBo+List.length (cdX (qCBc a0) qCBo)<=(1000000000:Nat))
abbrev qCBk (a0:List Ins):=(some (a0,fzO qCBd))
abbrev qCBl:=(1:Int)
abbrev qCBn (a0:List Ins) (b0:List Ins):=(List.length a0<=List.length a0/\fzO (qCBk b0)<=List.length a0/\(qCBe a0)*(24:Nat)<=(140737488355328:Nat))
theorem Zz7 (m:Nat) (x:Ex) (l':List Ins):Zf E F0 (vc E (Fcx m) 400) 52 [.ptr 0 0,exA x] (hpP E Th.ins none) 2 (prnK E Th.ins none l')=(
 ((Ex.op x==qCBl)=true-> [Ins.mk qCBl (Ex.n x) qCBg]=l'/\qCBm=List.length l'/\qCBo=fzO qCBd)/\((Ex.op x==qCBl)=false->((Ex.op x==(2:Int))=true-> [Ins.mk (2:Int) (Ex.n x) qCBg]=l'/\qCBm=List.length l'/\qCBo=fzO qCBd)/\((Ex.op x==(2:Int))=false->((Ex.op x==(11:Int))=true->qCBg<=qCBg/\qCBg+qCBl<=(qCBh x)/\∀(x_1:Ex),(Ex.l x)[Int.toNat qCBg]? =some x_1->(qCBj x_1 m)/\∀(l'_1:List Ins),l'_1= []++cdX (qCBc x_1) qCBo->qCBg<=qCBl/\qCBl+qCBl<=(qCBh x)/\∀(x_2:Ex),(Ex.l x)[Int.toNat qCBl]? =some x_2->(qCBf l'_1 x_2 m)/\∀(l'_2:List Ins),l'_2=l'_1++cdX (qCBc x_2) (qCBi l'_1)->(qCBn l'_2 l'_1)/\∀(l'_3:List Ins),l'_3=List.take (qCBi l'_2) l'_2++ [Ins.mk (11:Int) qCBg qCBg]->(List.length l'_2+qCBm<=List.length l'_3/\fzO (qCBk l'_1)<=List.length l'_2+qCBm/\(List.length l'_2+qCBm+qCBm)*(24:Nat)<=(140737488355328:Nat))/\∀(l'_4:List Ins),l'_4=List.take (qCBe l'_2) l'_3++ [Ins.mk (13:Int) qCBg qCBg]->qCBg<=(2:Int)/\(2:Int)+qCBl<=(qCBh x)/\∀(x_3:Ex),(Ex.l x)[Int.toNat (2:Int)]? =some x_3->(List.length l'_2+qCBm+qCBm=List.length l'_4/\fzO (qCBk l'_1)<=List.length l'_4/\Ex.sz (qCBc x_3)+qCBm<=m/\Zj (qCBc x_3)=true/\List.length l'_4+List.length (cdX (qCBc x_3) (qCBi l'_4))<=(1000000000:Nat))/\∀(l'_5:List Ins),l'_5=l'_4++cdX (qCBc x_3) (qCBi l'_4)->(List.length l'_5<=List.length l'_5/\fzO (some (l'_4,fzO (qCBk l'_1)))<=List.length l'_5/\(qCBe l'_5)*(24:Nat)<=(140737488355328:Nat))/\∀(l'_6:List Ins),l'_6=List.take (qCBi l'_5) l'_5++ [Ins.mk (14:Int) qCBg qCBg]->(qCBg<=(↑(qCBe l'_2):Int)/\(↑(qCBe l'_2):Int)+qCBl<=(↑(qCBe l'_5):Int))/\fzO (some (l'_4,fzO (qCBk l'_1)))<=qCBo+Int.toNat (↑(qCBe l'_2):Int)/\qCBo+Int.toNat (↑(qCBe l'_2):Int)+qCBm<=List.length l'_6/\∀(x_4:Ins),l'_6[qCBo+Int.toNat (↑(qCBe l'_2):Int)]? =some x_4->∀(l'_7:List Ins),l'_7=List.set l'_6 (qCBo+Int.toNat (↑(qCBe l'_2):Int)) (Ins.mk (Ins.op x_4) (↑(qCBe l'_5):Int) (Ins.m x_4))->qCBg<=(3:Int)/\(3:Int)+qCBl<=(qCBh x)/\∀(x_5:Ex),(Ex.l x)[Int.toNat (3:Int)]? =some x_5->(List.length l'_5+qCBm=List.length l'_7/\fzO (some (l'_4,fzO (qCBk l'_1)))<=List.length l'_7/\Ex.sz (qCBc x_5)+qCBm<=m/\Zj (qCBc x_5)=true/\List.length l'_7+List.length (cdX (qCBc x_5) (qCBi l'_7))<=(1000000000:Nat))/\∀(l'_8:List Ins),l'_8=l'_7++cdX (qCBc x_5) (qCBi l'_7)->(qCBg<=(↑(qCBi l'_5):Int)/\(↑(qCBi l'_5):Int)+qCBl<=(↑(qCBi l'_8):Int))/\fzO (some (l'_7,fzO (some (l'_4,fzO (qCBk l'_1)))))<=qCBo+Int.toNat (↑(qCBi l'_5):Int)/\qCBo+Int.toNat (↑(qCBi l'_5):Int)+qCBm<=List.length l'_8/\∀(x:Ins),l'_8[qCBo+Int.toNat (↑(qCBi l'_5):Int)]? =some x->∀(l'_9:List Ins),l'_9=List.set l'_8 (qCBo+Int.toNat (↑(qCBi l'_5):Int)) (Ins.mk (Ins.op x) (↑(qCBi l'_8):Int) (Ins.m x))->l'_9=l'/\List.length l'_8=List.length l'/\fzO (some (l'_7,fzO (some (l'_4,fzO (qCBk l'_1)))))=fzO qCBd)/\((Ex.op x==(11:Int))=false->qCBg<=qCBg/\qCBg+qCBl<=(qCBh x)/\∀(x_1:Ex),(Ex.l x)[Int.toNat qCBg]? =some x_1->(qCBj x_1 m)/\∀(l'_1:List Ins),l'_1= []++cdX (qCBc x_1) qCBo->qCBg<=qCBl/\qCBl+qCBl<=(qCBh x)/\∀(x_2:Ex),(Ex.l x)[Int.toNat qCBl]? =some x_2->(qCBf l'_1 x_2 m)/\∀(l'_2:List Ins),l'_2=l'_1++cdX (qCBc x_2) (qCBi l'_1)->(qCBn l'_2 l'_1)/\∀(l'_3:List Ins),l'_3=List.take (qCBi l'_2) l'_2++ [Ins.mk (wr IntKind.i64 (wr IntKind.i64 ((3:Int)+Ex.op x)-(3:Int))) qCBg qCBg]->l'_3=l'/\List.length l'_2+qCBm=List.length l'/\fzO (qCBk l'_1)=fzO qCBd)))):=by kernel_rfl
theorem Zbb (op n a b c d:Int) (l:List Ex):Ex.op (.mk op n a b c d l)=op:=rfl
theorem Z4h (op n a b c d:Int) (l:List Ex):Ex.n (.mk op n a b c d l)=n:=rfl
theorem Zqy (op n a b c d:Int) (l:List Ex):Ex.l (.mk op n a b c d l)=l:=rfl
theorem Zg5 {α:Type} {A r:List α} {a x:α} {k:Nat} (hk:k=A.length) (h:(A++a::r)[k]? =some x):x=a:=by
 subst hk
 simpa using h.symm
theorem Zg6 {α:Type} {A r:List α} {a b:α} {k:Nat} (hk:k=A.length):(A++a::r).set k b=A++b::r:=by
 subst hk
 simp
theorem Z4i {n a b c d:Int} {x y z w:Ex} {l l1 l2 l3 l4 l5 l6 l7 l8 l9:List Ins} {i4 i8:Ins} (e1:l1=l++cdX x l.length) (e2:l2=l1++cdX y l1.length) (e3:l3=l2.take l2.length++ [iOp 11])
 (e4:l4=l3.take (l2.length+1)++ [iOp 13]) (e5:l5=l4++cdX z l4.length) (e6:l6=l5.take l5.length++ [iOp 14]) (g4:l6[l2.length+1]? =some i4) (e7:l7=l6.set (l2.length+1) (Ins.mk i4.op (↑(l5.length+1):Int) i4.m))
 (e8:l8=l7++cdX w l7.length) (g8:l8[l5.length]? =some i8) (e9:l9=l8.set l5.length (Ins.mk i8.op (↑l8.length:Int) i8.m)):
 l9=l++cdX (.mk 11 n a b c d [x,y,z,w]) l.length/\l8.length=(l++cdX (.mk 11 n a b c d [x,y,z,w]) l.length).length:=by
 have n1:l1.length=l.length+(cdX x l.length).length:=by rw [e1,List.length_append]
 have n2:l2.length=l1.length+(cdX y l1.length).length:=by rw [e2,List.length_append]
 have e3:l3=l2++ [iOp 11]:=by rw [e3,List.take_length]
 have n3:l3.length=l2.length+1:=by rw [e3];simp
 have e4:l4=l3++ [iOp 13]:=by rw [e4,<-n3,List.take_length]
 have n4:l4.length=l2.length+2:=by rw [e4];simp [n3]
 have n5:l5.length=l4.length+(cdX z l4.length).length:=by rw [e5,List.length_append]
 have e6:l6=l3++iOp 13::(cdX z l4.length++ [iOp 14]):=by rw [e6,List.take_length,e5,e4];simp
 have h4:i4=iOp 13:=Zg5 n3.symm (e6▸g4)
 subst h4
 have e7:l7=l3++iNN 13 (↑(l5.length+1):Int)::(cdX z l4.length++ [iOp 14]):=by rw [e7,e6,Zg6 n3.symm];rfl
 have n7:l7.length=l5.length+1:=by rw [e7];simp;omega
 have e7':l7=(l3++iNN 13 (↑(l5.length+1):Int)::cdX z l4.length)++ [iOp 14]:=by rw [e7];simp
 have nB:l5.length=(l3++iNN 13 (↑(l5.length+1):Int)::cdX z l4.length).length:=by simp;omega
 generalize hB:l3++iNN 13 (↑(l5.length+1):Int)::cdX z l4.length=B at e7' nB
 have e8':l8=B++iOp 14::cdX w l7.length:=by rw [e8];conv=>{lhs;lhs;rw [e7']};simp
 have h8:i8=iOp 14:=Zg5 nB (e8'▸g8)
 subst h8
 have n8:l8.length=l7.length+(cdX w l7.length).length:=by rw [e8,List.length_append]
 have e9:l9=B++iNN 14 (↑l8.length:Int)::cdX w l7.length:=by
  have hs:=Zg6 (b:=iNN 14 (↑l8.length:Int)) (r:=cdX w l7.length) (a:=iOp 14) nB
  rw [<-e8'] at hs
  exact e9.trans hs
 have n9:l9.length=l8.length:=by rw [e9,e8'];simp
 have fin:l9=l++cdX (.mk 11 n a b c d [x,y,z,w]) l.length:=by
  have e2':l2=l++(cdX x l.length++cdX y l1.length):=by
   have:l1++cdX y l1.length=l++(cdX x l.length++cdX y l1.length):=by
    conv=>{lhs;lhs;rw [e1]}
    rw [List.append_assoc]
   exact e2.trans this
  rw [Zqi (p:=l4.length) (q:=l7.length) (by rw [n4,n2,n1]) (by rw [n7,n5]),<-n1,e9,<-hB,e3,e2',<-n8,<-n7]
  simp [List.append_assoc]
 exact ⟨fin,by rw [<-fin,n9]⟩
theorem Zur {n a b c d:Int} {x y z w:Ex} {o p q:Nat} (hp:p=o+(cdX x o).length+(cdX y (o+(cdX x o).length)).length+2) (hq:q=p+(cdX z p).length+1):
 o+(cdX (.mk 11 n a b c d [x,y,z,w]) o).length=q+(cdX w q).length:=by
 rw [Zqi hp hq]
 simp
 omega
def CxOk (m:Nat):Prop:=∀x:Ex×Unit,Z3r E 52 Th.ins (dExp.enc x) (fun (l:List Ins)=>l++cdX x.1 l.length) (fun (l:List Ins)=>x.1.sz<m/\Zj x.1=true/\l.length+(cdX x.1 l.length).length<=1000000000)
theorem Z2u {m:Nat} (h:CxOk m):SumOk E 52 (Scx m):=Ztg E_ok (Zc rfl) h
theorem Z2v {m:Nat} (h:CxOk m):FnsOk E (Fcx m):=Zb F0_ok (Z2u h)
theorem bf {a b:Int} (h:a≠b):(a==b)=false:=by simp [h]
theorem Z6r {m:Nat} {l:List Ins} {fz:Nat} {x:Ex} (hf:fz<=l.length) (hs:x.sz<m+1) (hx:Zj x=true) (hl:l.length+(cdX x l.length).length<=1000000000):
 Zf E F0 (vc E (Fcx m) 400) 52 [.ptr 0 0,exA x] (hpP E Th.ins (some (l,fz))) 2 (prnK E Th.ins (some (l,fz)) (l++cdX x l.length)):=by
 rw [Zz6];delta qCB1 qCBb qCB2 qCB3 qCB4 qCB5 qCB6 qCB7 qCB8 qCB9 qCBa
 simp only [Ex.eta]
 rcases Y6 hx with ⟨op,n,a,b,c,d,rfl,ho⟩|⟨op,n,a,b,c,d,y,z,rfl,h3,h10,fy,fz'⟩|⟨n,a,b,c,d,y,z,u,v,rfl,fy,fz',fu,fv⟩
 · rw [Zlz ho] at hl⊢
   simp only [Zbb,Z4h,List.take_length,fzO]
   have hl:l.length+1<=1000000000:=hl
   have key:∀k:Int,op=k->(l.length<=l.length/\fz<=l.length/\(l.length+1)*24<=140737488355328)/\∀l'_1:List Ins,l'_1=l++ [Ins.mk k n 0]->l'_1=l++ [iNN op n]/\l.length+1=(l++ [iNN op n]).length/\True:=by
    rintro k rfl
    refine ⟨⟨Nat.le_refl _,hf,by omega⟩,?_⟩
    rintro l1 rfl
    exact ⟨rfl,by simp,trivial⟩
   rcases ho with rfl|rfl
   · exact ⟨fun _=>key 1 rfl,fun q=>by simp at q⟩
   · exact ⟨fun q=>by simp at q,fun _=>⟨fun _=>key 2 rfl,fun q=>by simp at q⟩⟩
 · rw [sz_2] at hs
   rw [Zl0 h3 h10] at hl⊢
   simp only [Zbb,Zqy]
   refine ⟨fun q=>absurd q (by rw [bf (by omega)];simp),fun _=>⟨fun q=>absurd q (by rw [bf (by omega)];simp),fun _=>⟨fun q=>absurd q (by rw [bf (by omega)];simp),fun _=> ?_⟩⟩⟩
   simp only [List.length_append,List.length_cons,List.length_nil] at hl
   refine ⟨by decide,by simp,fun x1 g1=> ?_⟩
   obtain rfl:y=x1:=by simpa using g1
   refine ⟨⟨trivial,hf,by omega,fy,by omega⟩,fun l1 e1=>⟨by decide,by simp,fun x2 g2=> ?_⟩⟩
   obtain rfl:z=x2:=by simpa using g2
   have n1:l1.length=l.length+(cdX y l.length).length:=by rw [e1,List.length_append]
   rw [<-n1] at hl⊢
   have w1:fz<=l1.length:=by omega
   refine ⟨⟨trivial,w1,by omega,fz',by omega⟩,fun l2 e2=> ?_⟩
   have n2:l2.length=l1.length+(cdX z l1.length).length:=by rw [e2,List.length_append]
   have w2:fz<=l2.length:=by omega
   refine ⟨⟨Nat.le_refl _,w2,by omega⟩,fun l3 e3=> ?_⟩
   have wo:wr .i64 (wr .i64 (3+op)-3)=op:=by rw [wr64 (n:=3+op) (by omega) (by omega),wr64 (by omega) (by omega)];omega
   rw [wo,List.take_length] at e3
   have fin:l3=l++(cdX y l.length++cdX z l1.length++ [iOp op]):=by rw [e3,e2];conv=>{lhs;lhs;lhs;rw [e1]};simp [iOp]
   exact ⟨fin,by rw [<-fin,e3];simp,rfl⟩
 · rw [sz_4] at hs
   simp only [Zbb,Zqy]
   refine ⟨fun q=>absurd q (by decide),fun _=>⟨fun q=>absurd q (by decide),fun _=>⟨fun _=> ?_,fun q=>absurd q (by decide)⟩⟩⟩
   rw [Zur rfl rfl] at hl
   refine ⟨by decide,by simp,fun x1 g1=> ?_⟩
   obtain rfl:y=x1:=by simpa using g1
   have hb:l.length+(cdX y l.length).length<=1000000000:=by omega
   refine ⟨⟨trivial,hf,by omega,fy,hb⟩,fun l1 e1=>⟨by decide,by simp,fun x2 g2=> ?_⟩⟩
   obtain rfl:z=x2:=by simpa using g2
   have n1:l1.length=l.length+(cdX y l.length).length:=by rw [e1,List.length_append]
   rw [<-n1] at hl
   have w1:fz<=l1.length:=by omega
   refine ⟨⟨trivial,w1,by omega,fz',by omega⟩,fun l2 e2=> ?_⟩
   have n2:l2.length=l1.length+(cdX z l1.length).length:=by rw [e2,List.length_append]
   rw [<-n2] at hl
   have w2:fz<=l2.length:=by omega
   refine ⟨⟨Nat.le_refl _,w2,by omega⟩,fun l3 e3=> ?_⟩
   have n3:l3.length=l2.length+1:=by rw [e3];simp
   refine ⟨⟨by omega,Nat.le_succ_of_le w2,by omega⟩,fun l4 e4=>⟨by decide,by simp,fun x3 g3=> ?_⟩⟩
   obtain rfl:u=x3:=by simpa using g3
   have n4:l4.length=l2.length+2:=by rw [e4];simp;omega
   rw [<-n4] at hl
   have w4:fz<=l4.length:=by omega
   refine ⟨⟨n4.symm,w4,by omega,fu,by omega⟩,fun l5 e5=> ?_⟩
   have n5:l5.length=l4.length+(cdX u l4.length).length:=by rw [e5,List.length_append]
   rw [<-n5] at hl
   have w5:fz<=l5.length:=by omega
   refine ⟨⟨Nat.le_refl _,w5,by omega⟩,fun l6 e6=>⟨⟨by omega,by omega⟩,?_⟩⟩
   have n6:l6.length=l5.length+1:=by rw [e6];simp
   have t1:(0:Nat)+Int.toNat (↑(l2.length+1):Int)=l2.length+1:=by omega
   have t2:(0:Nat)+Int.toNat (↑l5.length:Int)=l5.length:=by omega
   simp only [t1,t2]
   refine ⟨(by omega:fz<=l2.length+1),by omega,fun i4 g4 l7 e7=>⟨by decide,by simp,fun x4 gx=> ?_⟩⟩
   obtain rfl:v=x4:=by simpa using gx
   have n7:l7.length=l5.length+1:=by rw [e7,List.length_set,n6]
   rw [<-n7] at hl
   have w7:fz<=l7.length:=by omega
   refine ⟨⟨n7.symm,w7,by omega,fv,by omega⟩,fun l8 e8=> ?_⟩
   have n8:l8.length=l7.length+(cdX v l7.length).length:=by rw [e8,List.length_append]
   refine ⟨⟨by omega,by omega⟩,w5,by omega,fun i8 g8 l9 e9=> ?_⟩
   obtain ⟨r1,r2⟩:=Z4i (n:=n) (a:=a) (b:=b) (c:=c) (d:=d) e1 e2 e3 e4 e5 e6 g4 e7 e8 g8 e9
   exact ⟨r1,r2,rfl⟩
theorem Z6s {m:Nat} {x:Ex} (hs:x.sz<m+1) (hx:Zj x=true) (hl:([]:List Ins).length+(cdX x ([]:List Ins).length).length<=1000000000):
 Zf E F0 (vc E (Fcx m) 400) 52 [.ptr 0 0,exA x] (hpP E Th.ins none) 2 (prnK E Th.ins none (([]:List Ins)++cdX x ([]:List Ins).length)):=by
 rw [Zz7];delta qCBc qCBd qCBm qCBe qCBi qCBf qCBg qCBh qCBo qCBj qCBk qCBl qCBn
 simp only [Ex.eta]
 rcases Y6 hx with ⟨op,n,a,b,c,d,rfl,ho⟩|⟨op,n,a,b,c,d,y,z,rfl,h3,h10,fy,fz'⟩|⟨n,a,b,c,d,y,z,u,v,rfl,fy,fz',fu,fv⟩
 · rw [Zlz ho] at hl⊢
   simp only [Zbb,Z4h]
   rcases ho with rfl|rfl
   · exact ⟨fun _=>⟨rfl,rfl,rfl⟩,fun q=>by simp at q⟩
   · exact ⟨fun q=>by simp at q,fun _=>⟨fun _=>⟨rfl,rfl,rfl⟩,fun q=>by simp at q⟩⟩
 · rw [sz_2] at hs
   rw [Zl0 h3 h10] at hl⊢
   simp only [Zbb,Zqy]
   refine ⟨fun q=>absurd q (by rw [bf (by omega)];simp),fun _=>⟨fun q=>absurd q (by rw [bf (by omega)];simp),fun _=>⟨fun q=>absurd q (by rw [bf (by omega)];simp),fun _=> ?_⟩⟩⟩
   simp only [List.length_append,List.length_cons,List.length_nil] at hl
   refine ⟨by decide,by simp,fun x1 g1=> ?_⟩
   obtain rfl:y=x1:=by simpa using g1
   refine ⟨⟨by omega,fy,by omega⟩,fun l1 e1=>⟨by decide,by simp,fun x2 g2=> ?_⟩⟩
   obtain rfl:z=x2:=by simpa using g2
   have n1:l1.length=([]:List Ins).length+(cdX y ([]:List Ins).length).length:=by rw [e1,List.length_append];rfl
   rw [<-List.length_nil (α:=Ins),<-n1] at hl
   rw [<-n1]
   have w1:0<=l1.length:=by omega
   refine ⟨⟨trivial,w1,by omega,fz',by omega⟩,fun l2 e2=> ?_⟩
   have n2:l2.length=l1.length+(cdX z l1.length).length:=by rw [e2,List.length_append]
   have w2:0<=l2.length:=by omega
   refine ⟨⟨Nat.le_refl _,w2,by omega⟩,fun l3 e3=> ?_⟩
   have wo:wr .i64 (wr .i64 (3+op)-3)=op:=by rw [wr64 (n:=3+op) (by omega) (by omega),wr64 (by omega) (by omega)];omega
   rw [wo,List.take_length] at e3
   have fin:l3=([]:List Ins)++(cdX y ([]:List Ins).length++cdX z l1.length++ [iOp op]):=by rw [e3,e2];conv=>{lhs;lhs;lhs;rw [e1]};simp [iOp]
   exact ⟨fin,by rw [<-fin,e3];simp,rfl⟩
 · rw [sz_4] at hs
   simp only [Zbb,Zqy]
   refine ⟨fun q=>absurd q (by decide),fun _=>⟨fun q=>absurd q (by decide),fun _=>⟨fun _=> ?_,fun q=>absurd q (by decide)⟩⟩⟩
   rw [Zur rfl rfl] at hl
   refine ⟨by decide,by simp,fun x1 g1=> ?_⟩
   obtain rfl:y=x1:=by simpa using g1
   have hb:([]:List Ins).length+(cdX y ([]:List Ins).length).length<=1000000000:=by omega
   refine ⟨⟨by omega,fy,hb⟩,fun l1 e1=>⟨by decide,by simp,fun x2 g2=> ?_⟩⟩
   obtain rfl:z=x2:=by simpa using g2
   have n1:l1.length=([]:List Ins).length+(cdX y ([]:List Ins).length).length:=by rw [e1,List.length_append];rfl
   rw [<-n1] at hl
   have w1:0<=l1.length:=by omega
   refine ⟨⟨trivial,w1,by omega,fz',by omega⟩,fun l2 e2=> ?_⟩
   have n2:l2.length=l1.length+(cdX z l1.length).length:=by rw [e2,List.length_append]
   rw [<-n2] at hl
   have w2:0<=l2.length:=by omega
   refine ⟨⟨Nat.le_refl _,w2,by omega⟩,fun l3 e3=> ?_⟩
   have n3:l3.length=l2.length+1:=by rw [e3];simp
   refine ⟨⟨by omega,Nat.le_succ_of_le w2,by omega⟩,fun l4 e4=>⟨by decide,by simp,fun x3 g3=> ?_⟩⟩
   obtain rfl:u=x3:=by simpa using g3
   have n4:l4.length=l2.length+2:=by rw [e4];simp;omega
   rw [<-n4] at hl
   have w4:0<=l4.length:=by omega
   refine ⟨⟨n4.symm,w4,by omega,fu,by omega⟩,fun l5 e5=> ?_⟩
   have n5:l5.length=l4.length+(cdX u l4.length).length:=by rw [e5,List.length_append]
   rw [<-n5] at hl
   have w5:0<=l5.length:=by omega
   refine ⟨⟨Nat.le_refl _,w5,by omega⟩,fun l6 e6=>⟨⟨by omega,by omega⟩,?_⟩⟩
   have n6:l6.length=l5.length+1:=by rw [e6];simp
   have t1:(0:Nat)+Int.toNat (↑(l2.length+1):Int)=l2.length+1:=by omega
   have t2:(0:Nat)+Int.toNat (↑l5.length:Int)=l5.length:=by omega
   simp only [t1,t2]
   refine ⟨(by omega:0<=l2.length+1),by omega,fun i4 g4 l7 e7=>⟨by decide,by simp,fun x4 gx=> ?_⟩⟩
   obtain rfl:v=x4:=by simpa using gx
   have n7:l7.length=l5.length+1:=by rw [e7,List.length_set,n6]
   rw [<-n7] at hl
   have w7:0<=l7.length:=by omega
   refine ⟨⟨n7.symm,w7,by omega,fv,by omega⟩,fun l8 e8=> ?_⟩
   have n8:l8.length=l7.length+(cdX v l7.length).length:=by rw [e8,List.length_append]
   refine ⟨⟨by omega,by omega⟩,w5,by omega,fun i8 g8 l9 e9=> ?_⟩
   obtain ⟨r1,r2⟩:=Z4i (l:= []) (n:=n) (a:=a) (b:=b) (c:=c) (d:=d) e1 e2 e3 e4 e5 e6 g4 e7 e8 g8 e9
   exact ⟨r1,r2,rfl⟩
theorem Zmc:∀m,CxOk m
 |0=>fun x=>⟨fun l fz hf hp=>absurd hp.1 (by omega),fun hp=>absurd hp.1 (by omega)⟩
 |m+1=>fun x=>⟨fun l fz hf hp=>Wk E_ok (Yf E_ok F0_ok fun f N c=>(Zay E_ok (Z2v (Zmc m)) 400 f N c).1) rfl (Z6r hf hp.1 hp.2.1 hp.2.2),
  fun hp=>Wk E_ok (Yf E_ok F0_ok fun f N c=>(Zay E_ok (Z2v (Zmc m)) 400 f N c).1) rfl (Z6s hp.1 hp.2.1 hp.2.2)⟩
end
section
open Go
def clB (c:Cls):SV thy:= .agg (encF false .clauses c)
noncomputable def FclC:Fns thy:={addS F0 (52) (Scx 1000000000) with dfl:=20}
def Zzn (l':List Ins) (n F F1:Nat):List Nat->List Ins->Prop
 | [],L=>L=l'/\n=l'.length/\F=F1
 |p::r,L=>((0:Int)<=(↑p:Int)/\(↑p:Int)+1<=(↑n:Int))/\F<=0+Int.toNat (↑p:Int)/\0+Int.toNat (↑p:Int)+1<=L.length/\∀x:Ins,L[0+Int.toNat (↑p:Int)]? =some x->∀L':List Ins,L'=L.set (0+Int.toNat (↑p:Int)) (Ins.mk x.op (↑n:Int) x.m)->Zzn l' n F F1 r L'
def clX (c:Cls):Ex:=Ex.mk (Ex.op c.pay) (Ex.n c.pay) (Ex.d0 c.pay) (Ex.d1 c.pay) (Ex.d2 c.pay) (Ex.d3 c.pay) (Ex.l c.pay)
def Z31 (c:Cls) (k:Int) (l':List Ins) (F F1:Nat) (ps:List Nat) (L1:List Ins):Prop:=
 (L1.length<=L1.length/\F<=L1.length/\(L1.length+1)*24<=140737488355328)/\∀L2:List Ins,L2=L1.take L1.length++ [Ins.mk 15 k 0]->Zzn l' (L1.length+1) F F1 ps L2
def Zt7 (c:Cls) (k:Int) (l':List Ins) (fz F1:Nat) (ps:List Nat) (L:List Ins) (n:Nat):Prop:=
 (n=L.length/\fz<=L.length/\(clX c).sz+1<=1000000000/\Zj (clX c)=true/\L.length+(cdX (clX c) L.length).length<=1000000000)/\∀L1:List Ins,L1=L++cdX (clX c) L.length->Z31 c k l' (fzO (some (L,fz))) F1 ps L1
def Z32 (x:Tst) (fz:Nat) (L1:List Ins) (n:Nat) (K:List Ins->Prop):Prop:=
 (n<=L1.length/\fz<=n/\(n+1)*24<=140737488355328)/\∀L2:List Ins,L2=L1.take n++ [Ins.mk 12 x.low x.high]->(n+1<=L2.length/\fz<=n+1/\(n+1+1)*24<=140737488355328)/\∀L3:List Ins,L3=L2.take (n+1)++ [Ins.mk 13 0 0]->K L3
def Zzo (c:Cls) (k:Int) (l':List Ins) (fz F1:Nat):Nat->Nat->List Nat->List Ins->Nat->Prop
 |0,j,ps,L,n=>(decide ((↑j:Int)<(↑c.when_.length:Int))=true->(0:Int)<=(↑j:Int)/\(↑j:Int)+1<=(↑c.when_.length:Int)/\∀x:Tst,c.when_[Int.toNat (↑j:Int)]? =some x->(n<=L.length/\fz<=n/\(n+1)*24<=140737488355328)/\∀L1:List Ins,L1=L.take n++ [Ins.mk 2 x.attr 0]->False)/\(decide ((↑j:Int)<(↑c.when_.length:Int))=false->Zt7 c k l' fz F1 ps L n)
 |f+1,j,ps,L,n=>(decide ((↑j:Int)<(↑c.when_.length:Int))=true->(0:Int)<=(↑j:Int)/\(↑j:Int)+1<=(↑c.when_.length:Int)/\∀x:Tst,c.when_[Int.toNat (↑j:Int)]? =some x->(n<=L.length/\fz<=n/\(n+1)*24<=140737488355328)/\∀L1:List Ins,L1=L.take n++ [Ins.mk 2 x.attr 0]->
  Z32 x fz L1 (n+1) fun L3=>Zzo c k l' fz F1 f (j+1) ((n+1+1)::ps) L3 (n+1+1+1))/\(decide ((↑j:Int)<(↑c.when_.length:Int))=false->Zt7 c k l' fz F1 ps L n)
theorem Zzp (l:List Ins) (fz:Nat) (c:Cls) (k:Int) (l':List Ins):Zf E FclC (vc E FclC 400) 23 [.ptr 0 0,clB c,.int false .i64 k] (hpP E Th.ins (some (l,fz))) 2 (prnK E Th.ins (some (l,fz)) l')=
 Zzo c k l' fz (fzO (some (l,fz))) 8 0 [] l l.length:=by kernel_rfl
theorem Zzq (c:Cls) (k:Int) (l':List Ins):Zf E FclC (vc E FclC 400) 23 [.ptr 0 0,clB c,.int false .i64 k] (hpP E Th.ins none) 2 (prnK E Th.ins none l')=
 ((decide ((0:Int)<(↑c.when_.length:Int))=true->(0:Int)<=0/\(0:Int)+1<=(↑c.when_.length:Int)/\∀x:Tst,c.when_[Int.toNat 0]? =some x->Z32 x 0 [Ins.mk 2 x.attr 0] 1 fun L3=>Zzo c k l' 0 (fzO (none:Option (List Ins×Nat))) 7 1 [1+1] L3 (1+1+1))/\
  (decide ((0:Int)<(↑c.when_.length:Int))=false->((clX c).sz+1<=1000000000/\Zj (clX c)=true/\0+(cdX (clX c) 0).length<=1000000000)/\∀L1:List Ins,L1= []++cdX (clX c) 0->Z31 c k l' (fzO (none:Option (List Ins×Nat))) (fzO (none:Option (List Ins×Nat))) [] L1)):=by kernel_rfl
theorem Z6i (c:Cls):clX c=c.pay:=Ex.eta c.pay
theorem Za3 (e:Nat):∀a b:List Tst,cdTs e (a++b)=cdTs e a++cdTs e b
 | [],_=>rfl
 |x::r,b=>by simp [cdTs,Za3 e r b]
def psOf (o:Nat):Nat->List Nat
 |0=> []
 |j+1=>(o+3*j+2)::psOf o j
theorem Zoc {l r:List Ins} {ws:List Tst} {n F:Nat} (hF:F<=l.length) (hn:n=(l++cdTs n ws++r).length):∀(i:Nat) (L:List Ins),i<=ws.length->L=l++(cdTs 0 (ws.take i)++cdTs n (ws.drop i))++r->Zzn (l++cdTs n ws++r) n F F (psOf l.length i) L
 |0,L,_,h=>⟨by rw [h];simp [cdTs],hn,rfl⟩
 |i+1,L,hi,h=>by
  have hi':i<ws.length:=hi
  have hw:ws[i]? =some ws[i]:=List.getElem?_eq_getElem hi'
  have et:ws.take (i+1)=ws.take i++ [ws[i]]:=by rw [List.take_add_one,hw];rfl
  have ed:ws.drop i=ws[i]::ws.drop (i+1):=List.drop_eq_getElem_cons hi'
  have tl:(cdTs 0 (ws.take i)).length=3*i:=by rw [Yp,List.length_take];omega
  have nl:n=l.length+3*ws.length+r.length:=by rw [hn];simp [Yp];omega
  have hp:0+Int.toNat (↑(l.length+3*i+2):Int)=l.length+3*i+2:=by omega
  have hA:l.length+3*i+2=(l++cdTs 0 (ws.take i)++ [iNN 2 ws[i].attr,⟨12,ws[i].low,ws[i].high⟩]).length:=by simp [tl];omega
  have hL:L=(l++cdTs 0 (ws.take i)++ [iNN 2 ws[i].attr,⟨12,ws[i].low,ws[i].high⟩])++iNN 13 0::(cdTs n (ws.drop (i+1))++r):=by
   rw [h,et,Za3];simp [cdTs]
  unfold psOf Zzn
  rw [hp]
  refine ⟨by omega,by omega,by rw [hL];simp [tl];omega,fun x hx L' e=> ?_⟩
  obtain rfl:x=iNN 13 0:=Zg5 hA (hL▸hx)
  refine Zoc hF hn i L' (by omega) ?_
  rw [e,hL,Zg6 hA,ed]
  simp [cdTs,iNN]
theorem Zod {c:Cls} {k:Nat} {l L:List Ins} {fz n:Nat} (hf:fz<=l.length) (hs:c.pay.sz+1<=1000000000) (hx:Zj c.pay=true) (hl:l.length+(cdC c k l.length).length<=1000000000) (hL:L=l++cdTs 0 c.when_) (hn:n=L.length):
 Zt7 c ↑k (l++cdC c k l.length) fz fz (psOf l.length c.when_.length) L n:=by
 have nL:L.length=l.length+3*c.when_.length:=by rw [hL];simp [Yp]
 have cl:(cdC c k l.length).length=3*c.when_.length+(cdX c.pay (l.length+3*c.when_.length)).length+1:=by unfold cdC;simp [Yp];omega
 unfold Zt7
 rw [Z6i]
 refine ⟨⟨hn,by omega,hs,hx,by rw [nL];omega⟩,fun L1 e1=> ?_⟩
 have n1:L1.length=L.length+(cdX c.pay L.length).length:=by rw [e1];simp
 rw [nL] at n1 e1
 have hf2:fzO (some (L,fz))=fz:=rfl
 unfold Z31
 rw [hf2]
 refine ⟨⟨Nat.le_refl _,by omega,by omega⟩,fun L2 e2=> ?_⟩
 have et:l++cdC c k l.length=l++cdTs (L1.length+1) c.when_++(cdX c.pay (l.length+3*c.when_.length)++ [iNN 15 k]):=by
  unfold cdC
  rw [n1]
  simp
 rw [et]
 refine Zoc hf ?_ c.when_.length L2 (Nat.le_refl _) ?_
 · simp [Yp];omega
 · rw [e2,List.take_length,e1,hL]
   simp [cdTs,iNN]
theorem Zoe {x:Tst} {fz n:Nat} {L A:List Ins} {K:List Ins->Prop} (hL:L=A++ [iNN 2 x.attr]) (hn:n=L.length) (hf:fz<=n) (hb:n<=1000000000) (hk:K (A++cdTs 0 [x])):Z32 x fz L n K:=by
 subst hn
 refine ⟨⟨Nat.le_refl _,hf,by omega⟩,fun L2 e2=> ?_⟩
 rw [List.take_length] at e2
 have n2:L2.length=L.length+1:=by rw [e2];simp
 refine ⟨⟨by omega,by omega,by omega⟩,fun L3 e3=> ?_⟩
 rw [<-n2,List.take_length,e2,hL] at e3
 have:A++cdTs 0 [x]=L3:=by rw [e3];simp [cdTs,iNN]
 exact this▸hk
theorem Zgy {c:Cls} {k:Nat} {l:List Ins} {fz:Nat} (hf:fz<=l.length) (hs:c.pay.sz+1<=1000000000) (hx:Zj c.pay=true) (hl:l.length+(cdC c k l.length).length<=1000000000) (h8:c.when_.length<=8):
 ∀(f j n:Nat) (L:List Ins),f+j=8->j<=c.when_.length->L=l++cdTs 0 (c.when_.take j)->n=L.length->Zzo c ↑k (l++cdC c k l.length) fz fz f j (psOf l.length j) L n
 |f,j,n,L,hfj,hj,hL,hn=>by
  have tl:(cdTs 0 (c.when_.take j)).length=3*j:=by rw [Yp,List.length_take];omega
  have nL:L.length=l.length+3*j:=by rw [hL];simp [tl]
  have cl:(cdC c k l.length).length=3*c.when_.length+(cdX c.pay (l.length+3*c.when_.length)).length+1:=by unfold cdC;simp [Yp];omega
  have hend:decide ((↑j:Int)<(↑c.when_.length:Int))=false->Zt7 c ↑k (l++cdC c k l.length) fz fz (psOf l.length j) L n:=by
   intro q
   have q:=of_decide_eq_false q
   obtain rfl:j=c.when_.length:=by omega
   exact Zod hf hs hx hl (by rw [hL,List.take_length]) hn
  match f with
  |0=>exact ⟨fun q=>by have q:=of_decide_eq_true q;omega,hend⟩
  |f+1=>
   refine ⟨fun q=> ?_,hend⟩
   have q:=of_decide_eq_true q
   refine ⟨by omega,by omega,fun x gx=>⟨⟨by omega,by omega,by omega⟩,fun L1 e1=> ?_⟩⟩
   have gx:c.when_[j]? =some x:=gx
   rw [hn,List.take_length] at e1
   have n1:L1.length=L.length+1:=by rw [e1];simp
   refine Zoe (A:=L) e1 (by omega) (by omega) (by omega) ?_
   have ep:(n+1+1)::psOf l.length j=psOf l.length (j+1):=by
    rw [hn,nL];rfl
   rw [ep]
   refine Zgy hf hs hx hl h8 f (j+1) (n+1+1+1) _ (by omega) (by omega) ?_ ?_
   · rw [List.take_add_one,gx,Za3,<-List.append_assoc,<-hL];rfl
   · simp [cdTs,hn]
theorem Z6j {c:Cls} {k:Nat} (hs:c.pay.sz+1<=1000000000) (hx:Zj c.pay=true) (hl:([]:List Ins).length+(cdC c k ([]:List Ins).length).length<=1000000000) (h8:c.when_.length<=8):
 Zf E FclC (vc E FclC 400) 23 [.ptr 0 0,clB c,.int false .i64 (↑k:Int)] (hpP E Th.ins none) 2 (prnK E Th.ins none (([]:List Ins)++cdC c k ([]:List Ins).length)):=by
 rw [Zzq]
 have r:=Zgy (l:= []) (fz:=0) (Nat.le_refl _) hs hx hl h8
 refine ⟨fun q=> ?_,fun q=> ?_⟩
 · have q:=of_decide_eq_true q
   refine ⟨by omega,by omega,fun x gx=>Zoe (A:= []) rfl rfl (by omega) (by omega) ?_⟩
   have gx:c.when_[0]? =some x:=gx
   refine r 7 1 3 _ rfl (by omega) ?_ rfl
   rw [List.take_add_one,gx];rfl
 · have q:=of_decide_eq_false q
   have w0:c.when_= []:=List.length_eq_zero_iff.1 (by omega)
   obtain ⟨⟨-,-,a1,a2,a3⟩,a4⟩:=Zod (l:= []) (L:= []) (n:=0) (fz:=0) (k:=k) (Nat.le_refl _) hs hx hl (by rw [w0];rfl) rfl
   rw [w0] at a4
   exact ⟨⟨a1,a2,a3⟩,a4⟩
theorem Zgz:FnsOk E FclC:=by
 have h:=Zb (F0_ok) (Z2u (Zmc 1000000000))
 exact ⟨h.sumG,h.fnG,h.sum,h.fn,h.loop⟩
def ClP (c:Cls) (k:Nat) (l:List Ins):Prop:=c.pay.sz+1<=1000000000/\Zj c.pay=true/\l.length+(cdC c k l.length).length<=1000000000/\c.when_.length<=8
theorem Z6k {c:Cls} {k:Nat} {l:List Ins} {fz:Nat} (hf:fz<=l.length) (hp:ClP c k l):
 Zf E FclC (vc E FclC 400) 23 [.ptr 0 0,clB c,.int false .i64 (↑k:Int)] (hpP E Th.ins (some (l,fz))) 2 (prnK E Th.ins (some (l,fz)) (l++cdC c k l.length)):=by
 rw [Zzp]
 exact Zgy hf hp.1 hp.2.1 hp.2.2.1 hp.2.2.2 8 0 _ l rfl (Nat.zero_le _) (by simp [cdTs]) rfl
theorem Z6l (c:Cls) (k:Nat):Z3r E 23 Th.ins [clB c,.int false .i64 (↑k:Int)] (fun (l:List Ins)=>l++cdC c k l.length) (fun (l:List Ins)=>ClP c k l):=
 ⟨fun l fz hf hp=>Wk E_ok (Yf E_ok Zgz fun f N c=>(Zay E_ok Zgz 400 f N c).1) rfl (Z6k hf hp),
  fun hp=>Wk E_ok (Yf E_ok Zgz fun f N c=>(Zay E_ok Zgz 400 f N c).1) rfl (Z6j hp.1 hp.2.1 hp.2.2.1 hp.2.2.2)⟩
end
section
theorem Zhj {x:Cls}:∀{l:List Cls} {i o:Nat},cdCs (l++ [x]) i o=cdCs l i o++cdC x (i+l.length) (o+(cdCs l i o).length)
 | [],i,o=>by
  show cdC x i o++ []= []++cdC x (i+0) (o+0)
  simp
 |c::r,i,o=>by
  have e0:∀r,cdCs (c::r) i o=cdC c i o++cdCs r (i+1) (o+(cdC c i o).length):=fun _=>rfl
  rw [List.cons_append,e0,e0,Zhj,List.append_assoc,List.length_append,List.length_cons]
  rw [show i+1+r.length=i+(r.length+1) by omega,show o+(cdC c i o).length+(cdCs r (i+1) (o+(cdC c i o).length)).length=o+((cdC c i o).length+(cdCs r (i+1) (o+(cdC c i o).length)).length) by omega]
end
section
open Go
def CsOk:List (List Nat)->List Cls->Prop
 |_,[]=>True
 |seen,c::r=>Y4 c=true/\resF c.name=false/\c.name∉seen/\c.when_.length<=8/\Yc c.pay<=24/\CsOk (c.name::seen) r
def Z5c (m:List (List Nat×Bool)) (seen:List (List Nat)):Prop:=∀a,(Yi m a).getD false=decide (a∈seen)
theorem Zw4 {m:List (List Nat×Bool)} {seen:List (List Nat)} (h:Z5c m seen) (a:List Nat):Z5c (putS m a true) (a::seen):=by
 intro b
 rw [Zbu]
 by_cases e:a=b
 · rw [if_pos e]
   subst e
   simp
 · rw [if_neg e,h b]
   simp [Ne.symm e]
theorem Zo7:∀(cs:List Cls) (a b:Bool) (m:List (List Nat×Bool)) (seen:List (List Nat)),Z5c m seen->(goC a b m cs=0↔a=false/\b=false/\CsOk seen cs)
 | [],a,b,m,seen,hm=>by
  unfold goC CsOk
  cases a<;>cases b<;>decide
 |c::r,a,b,m,seen,hm=>by
  rw [Uu]
  unfold CsOk
  by_cases hc:Y4 c=true
  · rw [if_pos hc,Zo7 r _ _ _ _ (Zw4 hm c.name),hm c.name]
    simp only [Bool.or_eq_false_iff,decide_eq_false_iff_not]
    constructor
    · rintro ⟨⟨⟨h1,h2⟩,h3⟩,⟨⟨h4,h5⟩,h6⟩,h7⟩
      exact ⟨h1,h4,hc,h2,h3,by omega,by omega,h7⟩
    · rintro ⟨h1,h4,_,h2,h3,h5,h6,h7⟩
      exact ⟨⟨⟨h1,h2⟩,h3⟩,⟨⟨h4,by omega⟩,by omega⟩,h7⟩
  · rw [if_neg hc]
    constructor
    · intro h
      cases h
    · rintro ⟨_,_,h,_⟩
      exact absurd h hc
theorem Zmz (t:Tar):Ye t=0↔Xk t.name=true/\1<=t.for_/\t.for_<=6/\resF t.name=false/\t.clauses.length<=64/\CsOk [] t.clauses:=by
 unfold Ye
 split
 · rename_i h
   rw [Zo7 _ _ _ _ [] (fun a=>by simp [Yi])]
   rw [decide_eq_false_iff_not]
   constructor
   · rintro ⟨h1,h2,h3⟩
     exact ⟨h.1,h.2.1,h.2.2,h1,by omega,h3⟩
   · rintro ⟨_,_,_,h1,h2,h3⟩
     exact ⟨h1,by omega,h3⟩
 · rename_i h
   constructor
   · intro k
     cases k
   · rintro ⟨h1,h2,h3,_⟩
     exact absurd ⟨h1,h2,h3⟩ h
theorem Zm0 {c:Cls} (h:Y4 c=true):Xk c.name=true/\Zj c.pay=true/\∀w∈c.when_,Z6 w=true:=by
 unfold Y4 at h
 rw [Bool.and_eq_true,Bool.and_eq_true] at h
 exact ⟨h.1.1,h.1.2,List.all_eq_true.1 h.2⟩
end
section
open Go
theorem Zao:∀(k:Nat) (x:Ex),x.sz<=k->Zj x=true->∀o,(cdX x o).length<=3*x.sz
 |0,x,h,_=>by have:=x.sz_pos;omega
 |k+1,x,h,hf=>by
  intro o
  rcases Y6 hf with ⟨op,n,a,b,c,e,rfl,q⟩|⟨op,n,a,b,c,e,y,z,rfl,q1,q2,f1,f2⟩|⟨n,a,b,c,e,y,z,u,v,rfl,f1,f2,f3,f4⟩
  · rw [Zlz q]
    have:=(Ex.mk op n a b c e []).sz_pos
    simp only [List.length_cons,List.length_nil]
    omega
  · rw [sz_2] at h⊢
    rw [Zl0 q1 q2]
    have a1:=Zao k y (by omega) f1 o
    have a2:=Zao k z (by omega) f2 (o+(cdX y o).length)
    simp only [List.length_append,List.length_cons,List.length_nil]
    omega
  · rw [sz_4] at h⊢
    rw [Zqi rfl rfl]
    have a1:=Zao k y (by omega) f1 o
    have a2:=Zao k z (by omega) f2 (o+(cdX y o).length)
    generalize hp:o+(cdX y o).length+(cdX z (o+(cdX y o).length)).length+2=p
    have a3:=Zao k u (by omega) f3 p
    generalize hq:p+(cdX u p).length+1=q
    have a4:=Zao k v (by omega) f4 q
    simp only [List.length_append,List.length_cons,List.length_nil]
    omega
theorem Z7b {c:Cls} {m k o:Nat} (hf:Zj c.pay=true) (hs:c.pay.sz<=m) (hw:c.when_.length<=8):(cdC c k o).length<=3*m+25:=by
 unfold cdC
 have:=Zao c.pay.sz c.pay (Nat.le_refl _) hf (o+3*c.when_.length)
 simp only [List.length_append,Yp,List.length_cons,List.length_nil]
 omega
theorem Zhv {m:Nat}:∀{l:List Cls} {k o:Nat},(∀c∈l,Zj c.pay=true/\c.pay.sz<=m/\c.when_.length<=8)->(cdCs l k o).length<=(3*m+25)*l.length
 | [],_,_,_=>Nat.zero_le _
 |c::r,k,o,h=>by
  have a:=Z7b (k:=k) (o:=o) (h c List.mem_cons_self).1 (h c List.mem_cons_self).2.1 (h c List.mem_cons_self).2.2
  have b:=Zhv (l:=r) (k:=k+1) (o:=o+(cdC c k o).length) fun x hx=>h x (List.mem_cons_of_mem _ hx)
  have e:(cdCs (c::r) k o).length=(cdC c k o).length+(cdCs r (k+1) (o+(cdC c k o).length)).length:=by
   show (cdC c k o++cdCs r (k+1) (o+(cdC c k o).length)).length=_
   rw [List.length_append]
  have m1:(3*m+25)*(c::r).length=(3*m+25)*r.length+(3*m+25):=by rw [List.length_cons,Nat.mul_add,Nat.mul_one]
  omega
noncomputable def Zk (t:Tar):List Ins×Int:=if Ye t=0 then (if 4096<(cdT t).length\/64<dCs t.clauses then ([],2) else (cdT t,0)) else ([],Ye t)
def SmK (t:Tar):Prop:=(∀c∈t.clauses,c.pay.sz<=10000/\c.when_.length<1000000000)/\t.clauses.length<1000000000
theorem Zo9:∀{cs:List Cls} {s:List (List Nat)},CsOk s cs->∀c∈cs,Y4 c=true/\c.when_.length<=8
 |c::r,s,h,x,hx=>by
  obtain ⟨h1,h2,h3,h4,h5,h6⟩:=h
  rcases List.mem_cons.1 hx with rfl|hx
  · exact ⟨h1,h4⟩
  · exact Zo9 h6 x hx
theorem Zw7 {t:Tar} (h:Ye t=0):ClOk t.clauses/\t.clauses.length<=64/\∀c∈t.clauses,c.when_.length<=8:=by
 obtain ⟨-,-,-,-,c5,c6⟩:=(Zmz t).1 h
 have a:=Zo9 c6
 exact ⟨fun c hc=>(Zm0 (a c hc).1).2,c5,fun c hc=>(a c hc).2⟩
end
section
open Go
noncomputable def dIV:Dc E Int:=dInt .i64
noncomputable def Z8i:DcL E (Int×Int×Int×Unit):= .cons dIV (.cons dIV (.cons dIV .nil))
--@cond formedV | 34 | F0 | 400 | (op n m : Int) | [.agg [.int false .i64 op, .int false .i64 n, .int false .i64 m]] | (b : Bool) | .bool false b
theorem Zjp (op n m:Int) (b:Bool):Zf E F0 (vc E F0 400) 34 [.agg [.int false .i64 op,.int false .i64 n,.int false .i64 m]] hp0 0 (fun r=>ret E (patch hp0 0 r) r.v (.bool false b))=(
  ∃(Q:Bool->Prop),
    ((decide (op<1)=true->Q true)/\
        (decide (op<1)=false->(decide (op>=17)=true->Q true)/\(decide (op>=17)=false->Q false)))/\
      (Q true->false=b)/\
        (Q false->
          ((op==1)=true->
              ((op==op&&(0==0&&(m==0&&true)))=true->
                  (decide (mm2 false n m>=0)=true->
                      (decide (mm2 true n m<=9007199254740992)=true->true=b)/\
                        (decide (mm2 true n m<=9007199254740992)=false->false=b))/\
                    (decide (mm2 false n m>=0)=false->false=b))/\
                ((op==op&&(0==0&&(m==0&&true)))=false->false=b))/\
            ((op==1)=false->
              ((op==13)=true->
                  ((op==op&&(0==0&&(m==0&&true)))=true->
                      (decide (mm2 false n m>=0)=true->
                          (decide (mm2 true n m<=9007199254740992)=true->true=b)/\
                            (decide (mm2 true n m<=9007199254740992)=false->false=b))/\
                        (decide (mm2 false n m>=0)=false->false=b))/\
                    ((op==op&&(0==0&&(m==0&&true)))=false->false=b))/\
                ((op==13)=false->
                  ((op==14)=true->
                      ((op==op&&(0==0&&(m==0&&true)))=true->
                          (decide (mm2 false n m>=0)=true->
                              (decide (mm2 true n m<=9007199254740992)=true->true=b)/\
                                (decide (mm2 true n m<=9007199254740992)=false->false=b))/\
                            (decide (mm2 false n m>=0)=false->false=b))/\
                        ((op==op&&(0==0&&(m==0&&true)))=false->false=b))/\
                    ((op==14)=false->
                      ((op==15)=true->
                          ((op==op&&(0==0&&(m==0&&true)))=true->
                              (decide (mm2 false n m>=0)=true->
                                  (decide (mm2 true n m<=9007199254740992)=true->true=b)/\
                                    (decide (mm2 true n m<=9007199254740992)=false->false=b))/\
                                (decide (mm2 false n m>=0)=false->false=b))/\
                            ((op==op&&(0==0&&(m==0&&true)))=false->false=b))/\
                        ((op==15)=false->
                          ((op==2)=true->
                              ((op==op&&(0==0&&(m==0&&true)))=true->
                                  (decide (mm2 false n m>=0)=true->
                                      (decide (mm2 true n m<=15)=true->true=b)/\
                                        (decide (mm2 true n m<=15)=false->false=b))/\
                                    (decide (mm2 false n m>=0)=false->false=b))/\
                                ((op==op&&(0==0&&(m==0&&true)))=false->false=b))/\
                            ((op==2)=false->
                              ((op==12)=true->
                                  ((op==op&&(0==0&&(0==0&&true)))=true->
                                      (decide (mm2 false n m>=0)=true->
                                          (decide (mm2 true n m<=9007199254740992)=true->true=b)/\
                                            (decide (mm2 true n m<=9007199254740992)=false->false=b))/\
                                        (decide (mm2 false n m>=0)=false->false=b))/\
                                    ((op==op&&(0==0&&(0==0&&true)))=false->false=b))/\
                                ((op==12)=false->
                                  ((op==op&&(n==0&&(m==0&&true)))=true->
                                      (decide (mm2 false n m>=0)=true->
                                          (decide (mm2 true n m<=0)=true->true=b)/\
                                            (decide (mm2 true n m<=0)=false->false=b))/\
                                        (decide (mm2 false n m>=0)=false->false=b))/\
                                    ((op==op&&(n==0&&(m==0&&true)))=false->false=b))))))))
  ):=by kernel_rfl
--@end
--@cond effectV | 36 | F0 | 400 | (op : Int) | [.int false .i64 op] | (p q : Int) | .tup [.int false .i64 p, .int false .i64 q]
theorem Zjq (op:Int) (p q:Int):Zf E F0 (vc E F0 400) 36 [.int false .i64 op] hp0 0 (fun r=>ret E (patch hp0 0 r) r.v (.tup [.int false .i64 p,.int false .i64 q]))=(
  ((op==1)=true->0=p/\1=q/\True)/\
    ((op==1)=false->
      ((op==2)=true->0=p/\1=q/\True)/\
        ((op==2)=false->
          ((op==12)=true->1=p/\1=q/\True)/\
            ((op==12)=false->
              ((op==13)=true->1=p/\0=q/\True)/\
                ((op==13)=false->
                  ((op==15)=true->1=p/\0=q/\True)/\
                    ((op==15)=false->
                      ((op==14)=true->0=p/\0=q/\True)/\
                        ((op==14)=false->
                          ((op==16)=true->0=p/\0=q/\True)/\((op==16)=false->2=p/\1=q/\True)))))))
  ):=by kernel_rfl
--@end
--@cond rformedV | 17 | F0 | 400 | (op n m : Int) | [.agg [.int false .i64 op, .int false .i64 n, .int false .i64 m]] | (b : Bool) | .bool false b
theorem Zg8 (op n m:Int) (b:Bool):Zf E F0 (vc E F0 400) 17 [.agg [.int false .i64 op,.int false .i64 n,.int false .i64 m]] hp0 0 (fun r=>ret E (patch hp0 0 r) r.v (.bool false b))=(
  ((op==1)=true->
      (decide (n>=0)=true->
          (decide (n<=9007199254740992)=true->((m==0)=true->true=b)/\((m==0)=false->false=b))/\
            (decide (n<=9007199254740992)=false->false=b))/\
        (decide (n>=0)=false->false=b))/\
    ((op==1)=false->
      ((op==13)=true->
          (decide (n>=0)=true->
              (decide (n<=9007199254740992)=true->((m==0)=true->true=b)/\((m==0)=false->false=b))/\
                (decide (n<=9007199254740992)=false->false=b))/\
            (decide (n>=0)=false->false=b))/\
        ((op==13)=false->
          ((op==14)=true->
              (decide (n>=0)=true->
                  (decide (n<=9007199254740992)=true->((m==0)=true->true=b)/\((m==0)=false->false=b))/\
                    (decide (n<=9007199254740992)=false->false=b))/\
                (decide (n>=0)=false->false=b))/\
            ((op==14)=false->
              ((op==15)=true->
                  (decide (n>=0)=true->
                      (decide (n<=9007199254740992)=true->
                          ((m==0)=true->true=b)/\((m==0)=false->false=b))/\
                        (decide (n<=9007199254740992)=false->false=b))/\
                    (decide (n>=0)=false->false=b))/\
                ((op==15)=false->
                  ((op==2)=true->
                      (decide (n>=0)=true->
                          (decide (n<=15)=true->((m==0)=true->true=b)/\((m==0)=false->false=b))/\
                            (decide (n<=15)=false->false=b))/\
                        (decide (n>=0)=false->false=b))/\
                    ((op==2)=false->
                      ((op==12)=true->
                          (decide (n>=0)=true->
                              (decide (n<=9007199254740992)=true->
                                  (decide (m>=0)=true->
                                      (decide (m<=9007199254740992)=true->true=b)/\
                                        (decide (m<=9007199254740992)=false->false=b))/\
                                    (decide (m>=0)=false->false=b))/\
                                (decide (n<=9007199254740992)=false->false=b))/\
                            (decide (n>=0)=false->false=b))/\
                        ((op==12)=false->
                          (decide (op>=3)=true->
                              (decide (op<=16)=true->
                                  ((n==0)=true->((m==0)=true->true=b)/\((m==0)=false->false=b))/\
                                    ((n==0)=false->false=b))/\
                                (decide (op<=16)=false->false=b))/\
                            (decide (op>=3)=false->false=b)))))))
  ):=by kernel_rfl
--@end
--@cond rpopsV | 49 | F0 | 400 | (op : Int) | [.int false .i64 op] | (p q : Int) | .tup [.int false .i64 p, .int false .i64 q]
theorem Zme (op:Int) (p q:Int):Zf E F0 (vc E F0 400) 49 [.int false .i64 op] hp0 0 (fun r=>ret E (patch hp0 0 r) r.v (.tup [.int false .i64 p,.int false .i64 q]))=(
  ((op==1)=true->0=p/\1=q/\True)/\
    ((op==1)=false->
      ((op==2)=true->0=p/\1=q/\True)/\
        ((op==2)=false->
          ((op==12)=true->1=p/\1=q/\True)/\
            ((op==12)=false->
              ((op==13)=true->1=p/\0=q/\True)/\
                ((op==13)=false->
                  ((op==15)=true->1=p/\0=q/\True)/\
                    ((op==15)=false->
                      ((op==14)=true->0=p/\0=q/\True)/\
                        ((op==14)=false->
                          ((op==16)=true->0=p/\0=q/\True)/\((op==16)=false->2=p/\1=q/\True)))))))
  ):=by kernel_rfl
--@end
--@cond followV | 59 | F0 | 400 | (c : List Ins) (i : Int) | [.psl .ins c false, .int false .i64 i] | (l : List Int) | .psl .ints l false
theorem Zjr (c:List Ins) (i:Int) (l:List Int):Zf E F0 (vc E F0 400) 59 [.psl .ins c false,.int false .i64 i] hp0 0 (fun r=>ret E (patch hp0 0 r) r.v (.psl .ints l false))=(
  0<=i/\
    i+1<=↑(List.length c)/\
      ∀(x:Ins),
        c[Int.toNat i]? =some x->
          ((Ins.op x==15)=true->l= [])/\
            ((Ins.op x==15)=false->
              ((Ins.op x==16)=true->l= [])/\
                ((Ins.op x==16)=false->
                  ((Ins.op x==14)=true->
                      0<=i/\i+1<=↑(List.length c)/\∀(x:Ins),c[Int.toNat i]? =some x-> [Ins.n x]=l)/\
                    ((Ins.op x==14)=false->
                      ((Ins.op x==13)=true->
                          0<=i/\
                            i+1<=↑(List.length c)/\
                              ∀(x:Ins),c[Int.toNat i]? =some x-> [wr IntKind.i64 (i+1),Ins.n x]=l)/\
                        ((Ins.op x==13)=false-> [wr IntKind.i64 (i+1)]=l))))
  ):=by kernel_rfl
--@end
theorem Zce (x:Ins):PureC E 34 [.agg [.int false .i64 x.op,.int false .i64 x.n,.int false .i64 x.m]] (.bool false (formedF x)):=by
  refine Za E_ok (Ze E_ok F0_ok 400) ?_
  rw [Zjp]
  repeat' (first|exact Zgq _|apply Zny|apply Znz|(refine And.intro ?_ ?_)|(intro h))
  all_goals (try simp only [Zz,Zt,Y9,Xa,Xb,Bool.or_eq_true,Bool.or_eq_false_iff,Bool.not_eq_true',Bool.not_eq_false',beq_iff_eq,bne_iff_ne,beq_eq_false_iff_ne,decide_eq_true_eq,decide_eq_false_iff_not,Bool.and_eq_true,Bool.and_true,Bool.true_and,Bool.and_eq_false_iff,beq_self_eq_true,Z3,Z4,ne_eq,and_true,true_and,Bool.true_eq_false,Bool.false_eq_true,false_or,or_false,true_implies,Int.ofNat_eq_natCast] at*)
  all_goals (try unfold formedF)
  all_goals (repeat' split)
  all_goals first|contradiction|omega|(symm;simp only [decide_eq_true_eq,decide_eq_false_iff_not];omega)
theorem Zg9 (x:Ins):PureC E 17 [.agg [.int false .i64 x.op,.int false .i64 x.n,.int false .i64 x.m]] (.bool false (formedF x)):=by
  refine Za E_ok (Ze E_ok F0_ok 400) ?_
  rw [Zg8]
  simp only [beq_iff_eq,bne_iff_ne,beq_eq_false_iff_ne,decide_eq_true_eq,decide_eq_false_iff_not,Bool.and_eq_true,Bool.and_true,Bool.true_and,Bool.and_eq_false_iff,beq_self_eq_true,Z3,Z4,ne_eq,and_true,true_and,Bool.true_eq_false,Bool.false_eq_true,false_or,or_false,true_implies,Int.ofNat_eq_natCast]
  repeat' (first|(refine And.intro ?_ ?_)|(intro h))
  all_goals (try unfold formedF)
  all_goals (repeat' split)
  all_goals first|contradiction|omega|(symm;simp only [decide_eq_true_eq,decide_eq_false_iff_not];omega)
theorem Zjs (op:Int):PureC E 36 [.int false .i64 op] (.tup [.int false .i64 (eff op).1,.int false .i64 (eff op).2]):=by
  refine Za E_ok (Ze E_ok F0_ok 400) ?_
  rw [Zjq]
  simp only [beq_iff_eq,bne_iff_ne,beq_eq_false_iff_ne,decide_eq_true_eq,decide_eq_false_iff_not,Bool.and_eq_true,Bool.and_true,Bool.true_and,Bool.and_eq_false_iff,beq_self_eq_true,Z3,Z4,ne_eq,and_true,true_and,Bool.true_eq_false,Bool.false_eq_true,false_or,or_false,true_implies,Int.ofNat_eq_natCast]
  repeat' (first|(refine And.intro ?_ ?_)|(intro h))
  all_goals (unfold eff;repeat' split)
  all_goals first|contradiction|omega|rfl
theorem Zmf (op:Int):PureC E 49 [.int false .i64 op] (.tup [.int false .i64 (eff op).1,.int false .i64 (eff op).2]):=by
  refine Za E_ok (Ze E_ok F0_ok 400) ?_
  rw [Zme]
  simp only [beq_iff_eq,bne_iff_ne,beq_eq_false_iff_ne,decide_eq_true_eq,decide_eq_false_iff_not,Bool.and_eq_true,Bool.and_true,Bool.true_and,Bool.and_eq_false_iff,beq_self_eq_true,Z3,Z4,ne_eq,and_true,true_and,Bool.true_eq_false,Bool.false_eq_true,false_or,or_false,true_implies,Int.ofNat_eq_natCast]
  repeat' (first|(refine And.intro ?_ ?_)|(intro h))
  all_goals (unfold eff;repeat' split)
  all_goals first|contradiction|omega|rfl
def Zcf (i:Int) (x:Ins):List Int:=if x.op=15\/x.op=16 then [] else if x.op=14 then [x.n] else if x.op=13 then [i+1,x.n] else [i+1]
theorem Zjt (c:List Ins) (i:Int) (x:Ins) (h0:0<=i) (h1:i<c.length) (h2:c.length<=4096) (hx:c[i.toNat]? =some x):PureC E 59 [.psl .ins c false,.int false .i64 i] (.psl .ints (Zcf i x) false):=by
  refine Za E_ok (Ze E_ok F0_ok 400) ?_
  rw [Zjr]
  rw [wr64 (by omega) (by omega)]
  simp only [hx,Option.some.injEq,forall_eq']
  simp only [Zz,Zt,Y9,Xa,Xb,beq_iff_eq,bne_iff_ne,beq_eq_false_iff_ne,bne_eq_false_iff_eq,decide_eq_true_eq,decide_eq_false_iff_not,Bool.or_eq_true,Bool.or_eq_false_iff,Bool.not_eq_true',Bool.not_eq_false',Bool.and_eq_true,Bool.and_true,Bool.true_and,Bool.and_eq_false_iff,beq_self_eq_true,Z3,Z4,ne_eq,and_true,true_and,Bool.true_eq_false,Bool.false_eq_true,false_or,or_false,true_implies,Int.ofNat_eq_natCast,not_true_eq_false,not_false_eq_true,Decidable.not_not]
  unfold Zcf
  repeat' (first|exact Zgq _|apply Zny|apply Znz|(refine And.intro ?_ ?_)|(intro h))
  all_goals first|omega|simp [*]

noncomputable def Z8j:Dc E Ins:= .map (dAgg Z8i) (fun x=>⟨x.1,x.2.1,x.2.2.1⟩) (fun x=>(x.op,x.n,x.m,())) (fun _=>rfl)
noncomputable def Zou:Dc E (List Ins):=(Zp4 (E:=E) Th.ins:Dc E (List (thy.dom Th.ins)))
noncomputable def dL1V {α:Type} (d:Dc E α):DcL E (α×Unit):= .cons d .nil
noncomputable def dL2V {α β:Type} (d:Dc E α) (e:Dc E β):DcL E (α×β×Unit):= .cons d (dL1V e)
noncomputable def Zov:Sum thy:=sumP (dL1V Z8j) (fun _=>True) fun x=> .bool false (formedF x.1)
noncomputable def Z6u:Sum thy:=sumP (dL1V dIV) (fun _=>True) fun x=> .tup [.int false .i64 (eff x.1).1,.int false .i64 (eff x.1).2]
def Vq (c:List Ins) (i:Int):List Int:=match c[i.toNat]? with|some x=>Zcf i x|none=> []
noncomputable def Z0b:Sum thy:=sumP (dL2V Zou dIV) (fun x=>0<=x.2.1/\x.2.1<x.1.length/\x.1.length<=4096) fun x=> .psl .ints (Vq x.1 x.2.1) false
noncomputable def F2V:Fns thy:=addS (addS (addS (addS (addS F0 34 Zov) 36 Z6u) 17 Zov) 49 Z6u) 59 Z0b
theorem Z6v:FnsOk E F2V:=by
  refine Zb (Zb (Zb (Zb (Zb F0_ok ?_) ?_) ?_) ?_) ?_
  · exact Zp E_ok (Zc (f:=34) rfl) fun x _=>Zce x.1
  · exact Zp E_ok (Zc (f:=36) rfl) fun x _=>Zjs x.1
  · exact Zp E_ok (Zc (f:=17) rfl) fun x _=>Zg9 x.1
  · exact Zp E_ok (Zc (f:=49) rfl) fun x _=>Zmf x.1
  · refine Zp E_ok (Zc (f:=59) rfl) fun x h=> ?_
    obtain ⟨h0,h1,h2⟩:=h
    obtain ⟨y,hy⟩:∃y,x.1[x.2.1.toNat]? =some y:=⟨x.1[x.2.1.toNat]'(by omega),by simp⟩
    have:=Zjt x.1 x.2.1 y h0 h1 h2 hy
    unfold Vq
    rw [hy]
    exact this
/-- the loop of IndexFunc -/
def A48V:Fr thy->Hp thy->Nat->Ann thy:=fun T h i=>{X:=LX,fr:=fun x=> [(0,T 0),(1,T 1),(7,T 7),(8,.int false .i64 x.k)],bl:=fun _=> [],src:=fun _=> [],md:= [],ih:=i,M:=i+30,meas:=fun x=>x.r}
/-- the loop of Repeat -/
def A32V:Fr thy->Hp thy->Nat->Ann thy:=fun T h i=>{X:=LX,fr:=fun x=> [(7,T 7),(8,.int false .i64 x.k)],bl:=fun x=> [(bOf (T 7),.rows .ints x.D 0)],src:=fun _=> [],md:= [bOf (T 7)],ih:=i,M:=i+30,meas:=fun x=>x.r}
/-- the loop of Verify -/
def A9V:Fr thy->Hp thy->Nat->Ann thy:=fun T h i=>{X:=LX,fr:=fun x=> [(0,T 0),(2,.int false .i64 x.m),(4,T 4),(30,T 30),(31,T 31),(32,.int false .i64 x.k)],bl:=fun x=> [(bOf (T 4),.rows .ints x.D 0)],src:=fun _=> [],md:= [bOf (T 4)],ih:=i,M:=i+60,meas:=fun x=>x.r}
/-- the loop over what can follow -/
def A9nV:Fr thy->Hp thy->Nat->Ann thy:=fun T h i=>{X:=LX,fr:=fun x=> [(0,T 0),(2,T 2),(4,T 4),(5,T 5),(10,T 10),(30,T 30),(31,T 31),(32,T 32),(110,T 110),(111,T 111),(112,.int false .i64 x.k)],bl:=fun x=>(bOf (T 4),.rows .ints x.D 0)::blkS h (T 110),src:=fun _=> [],md:= [bOf (T 4)],ih:=i,M:=i+20,meas:=fun x=>x.r}
noncomputable def F3V:Fns thy:=addL (addL (addL (addL F2V 64 2 A48V E) 35 8 A32V E) 14 8 A9V E) 14 23 A9nV E
theorem Zuu:FnsOk E F3V:=Zl E_ok (Zl E_ok (Zl E_ok (Zl E_ok Z6v _ _ _) _ _ _) _ _ _) _ _ _
theorem Zd4 {y:Int} (h0:0<=y) (h:y<4294967296):We .and .u64 y 4294967295=y:=by
  obtain ⟨n,rfl⟩:=Int.eq_ofNat_of_zero_le h0
  have h':n<4294967296:=by omega
  have e:(BitVec.ofInt 64 (n:Int)&&&BitVec.ofInt 64 4294967295).toNat=n:=by
    rw [BitVec.toNat_and]
    have e1:(BitVec.ofInt 64 (n:Int)).toNat=n:=by
      rw [BitVec.toNat_ofInt];omega
    have e2:(BitVec.ofInt 64 4294967295).toNat=2^32-1:=by decide
    rw [e1,e2,Nat.and_two_pow_sub_one_eq_mod]
    omega
  show IntKind.u64.wrap ((BitVec.ofInt 64 (n:Int)&&&BitVec.ofInt 64 4294967295).toNat:Int)=n
  rw [e,IntKind.wrap_u64]
  omega
theorem Zuv {n:Int} (h1:0<=n) (h2:n<18446744073709551616):wr .u64 n=n:=by simp only [wr,IntKind.wrap_u64];omega
theorem U7 {α:Type} {f:α->Bool} {l:List α} {k:Nat} {x:α} (h:l[k]? =some x):(l.take (k+1)).all f=((l.take k).all f&&f x):=by
  obtain ⟨hk,rfl⟩:=List.getElem?_eq_some_iff.1 h
  rw [List.take_succ_eq_append_getElem hk,List.all_append,List.all_cons,List.all_nil,Bool.and_true]
theorem Zcg {α:Type} {f:α->Bool} {l:List α} {k:Nat} {x:α} (h:l[k]? =some x) (hf:f x=false):l.all f=false:=by
  rw [Bool.eq_false_iff]
  intro hh
  have:=(List.all_eq_true.1 hh) x (List.mem_of_getElem? h)
  rw [hf] at this;cases this
--@cond bmulV | 66 | F3V | 400 | (x y : Int) | [.int false .u64 x, .int false .u64 y] | (p q : Int) | .tup [.int false .u64 p, .int false .u64 q]
theorem Zq1 (x y:Int) (p q:Int):Zf E F3V (vc E F3V 400) 66 [.int false .u64 x,.int false .u64 y] hp0 0 (fun r=>ret E (patch hp0 0 r) r.v (.tup [.int false .u64 p,.int false .u64 q]))=(
  wr IntKind.u64
        (wr IntKind.u64
            (wr IntKind.u64
                (Int.fdiv x (2^min (Int.toNat 32) (IntKind.bits IntKind.u64))*
                  Int.fdiv y (2^min (Int.toNat 32) (IntKind.bits IntKind.u64)))+
              Int.fdiv
                (wr IntKind.u64
                  (wr IntKind.u64
                      (Int.fdiv x (2^min (Int.toNat 32) (IntKind.bits IntKind.u64))*
                        We BinOp.and IntKind.u64 y 4294967295)+
                    Int.fdiv
                      (wr IntKind.u64
                        (We BinOp.and IntKind.u64 x 4294967295*We BinOp.and IntKind.u64 y 4294967295))
                      (2^min (Int.toNat 32) (IntKind.bits IntKind.u64))))
                (2^min (Int.toNat 32) (IntKind.bits IntKind.u64)))+
          Int.fdiv
            (wr IntKind.u64
              (We BinOp.and IntKind.u64
                  (wr IntKind.u64
                    (wr IntKind.u64
                        (Int.fdiv x (2^min (Int.toNat 32) (IntKind.bits IntKind.u64))*
                          We BinOp.and IntKind.u64 y 4294967295)+
                      Int.fdiv
                        (wr IntKind.u64
                          (We BinOp.and IntKind.u64 x 4294967295*We BinOp.and IntKind.u64 y 4294967295))
                        (2^min (Int.toNat 32) (IntKind.bits IntKind.u64))))
                  4294967295+
                wr IntKind.u64
                  (We BinOp.and IntKind.u64 x 4294967295*
                    Int.fdiv y (2^min (Int.toNat 32) (IntKind.bits IntKind.u64)))))
            (2^min (Int.toNat 32) (IntKind.bits IntKind.u64)))=
      p/\
    wr IntKind.u64 (x*y)=q/\True
  ):=by kernel_rfl
--@end
--@cond containsV | 32 | F3V | 400 | (c : List Ins) | [.psl .ins c false, .fn (.func 33) [] []] | (b : Bool) | .bool false b
theorem Zfb (c:List Ins) (b:Bool):Zf E F3V (vc E F3V 400) 32 [.psl .ins c false,.fn (.func 33) [] []] hp0 0 (fun r=>ret E (patch hp0 0 r) r.v (.bool false b))=(
  ∃(R:LX->Prop),
    (∃(x:LX),
        R x/\
          true=true/\
            ((c=c/\(false=true->false=true))/\
                (Fn.func 33=Fn.func 33/\True/\True)/\
                  (↑(List.length c):Int)=(↑(List.length c):Int)/\0=(↑(LX.k x):Int)/\True)/\
              True)/\
      ∀(x:LX),
        R x->
          (decide ((↑(LX.k x):Int)<(↑(List.length c):Int))=true->
              0<=(↑(LX.k x):Int)/\
                (↑(LX.k x):Int)+1<=(↑(List.length c):Int)/\
                  ∀(x_1:Ins),
                    c[Int.toNat (↑(LX.k x):Int)]? =some x_1->
                      True/\
                        ((!formedF x_1)=true->
                            (decide ((↑(LX.k x):Int)>=0)=true->true=b)/\
                              (decide ((↑(LX.k x):Int)>=0)=false->false=b))/\
                          ((!formedF x_1)=false->
                            ∃(x':LX),
                              R x'/\
                                x'.2+1<=x.2/\
                                  true=true/\
                                    ((c=c/\(false=true->false=true))/\
                                        (Fn.func 33=Fn.func 33/\True/\True)/\
                                          (↑(List.length c):Int)=(↑(List.length c):Int)/\
                                            wr IntKind.i64 ((↑(LX.k x):Int)+1)=(↑(LX.k x'):Int)/\True)/\
                                      True))/\
            (decide ((↑(LX.k x):Int)<(↑(List.length c):Int))=false->false=b)
  ):=by kernel_rfl
--@end
theorem Zq2 (y:Int) (h0:0<=y) (h1:y<4294967296):PureC E 66 [.int false .u64 1,.int false .u64 y] (.tup [.int false .u64 0,.int false .u64 y]):=by
  refine Za E_ok (Ze E_ok Zuu 400) ?_
  rw [Zq1]
  have e1:Int.fdiv y (2^min (Int.toNat 32) (IntKind.bits IntKind.u64))=0:=by
    show y.fdiv 4294967296=0
    rw [Int.fdiv_eq_ediv_of_nonneg _ (by omega)];omega
  have e2:Int.fdiv 1 (2^min (Int.toNat 32) (IntKind.bits IntKind.u64))=0:=by decide
  have e3:We .and .u64 1 4294967295=1:=Zd4 (by omega) (by omega)
  have e4:=Zd4 h0 h1
  have e5:Int.fdiv 0 (2^min (Int.toNat 32) (IntKind.bits IntKind.u64))=0:=by decide
  have e6:wr .u64 0=0:=by decide
  have e7:wr .u64 y=y:=Zuv h0 (by omega)
  have e8:We .and .u64 0 4294967295=0:=Zd4 (by omega) (by omega)
  simp only [e1,e2,e3,e4,e5,e6,e7,e8,Int.zero_mul,Int.one_mul,Int.mul_zero,Int.zero_add,Int.add_zero,and_self]
theorem Zfc (c:List Ins) (hc:c.length<=4096):PureC E 32 [.psl .ins c false,.fn (.func 33) [] []] (.bool false (!c.all formedF)):=by
  refine Za E_ok (Ze E_ok Zuu 400) ?_
  rw [Zfb]
  refine ⟨fun x=>x.k+x.r=c.length/\(c.take x.k).all formedF=true,⟨⟨0,c.length,[],0⟩,by simp,by simp⟩,fun x hR=> ?_⟩
  obtain ⟨h1,h2⟩:=hR
  simp only [Zz,Zt,Y9,Xa,Xb,beq_iff_eq,bne_iff_ne,beq_eq_false_iff_ne,bne_eq_false_iff_eq,decide_eq_true_eq,decide_eq_false_iff_not,Bool.or_eq_true,Bool.or_eq_false_iff,Bool.not_eq_true',Bool.not_eq_false',Bool.and_eq_true,Bool.and_true,Bool.true_and,Bool.and_eq_false_iff,beq_self_eq_true,Z3,Z4,ne_eq,and_true,true_and,Bool.true_eq_false,Bool.false_eq_true,false_or,or_false,true_implies,Int.ofNat_eq_natCast,not_true_eq_false,not_false_eq_true,Decidable.not_not]
  refine ⟨fun hlt=>⟨by omega,by omega,fun y hy=>⟨fun hf=>⟨fun _=> ?_,fun h=>by omega⟩,fun hf=> ?_⟩⟩,fun hge=> ?_⟩
  · rw [Int.toNat_natCast] at hy
    rw [Zcg hy hf];rfl
  · rw [Int.toNat_natCast] at hy
    refine ⟨⟨x.k+1,x.r-1,[],0⟩,⟨by show x.k+1+(x.r-1)=_;omega,by show (c.take (x.k+1)).all formedF=true;rw [U7 hy,h2,hf];rfl⟩,by show x.r-1+1<=x.r;omega,?_⟩
    rw [wr64 (by omega) (by omega)]
    simp
  · rw [List.take_of_length_le (by omega)] at h2
    rw [h2];rfl
noncomputable def dFnV (f:Nat):Dc E Unit where
  dec v:=match v with| .fn (.func g) [] []=>(match Nat.beq g f with|true=>some ()|false=>none)|_=>none
  enc _:= .fn (.func f) [] []
  ok v a h:=by
    split at h
    · split at h
      · rename_i e
        rw [Nat.eq_of_beq_eq_true e]
        exact ⟨rfl,rfl,fun σ g u hd=>hd⟩
      · cases h
    · cases h
noncomputable def Zq3:Sum thy:=sumP (dL2V Zou (dFnV 33)) (fun x=>x.1.length<=4096) fun x=> .bool false (!x.1.all formedF)
noncomputable def Z6w:Sum thy:=sumP (dL2V (dInt .u64) (dInt .u64)) (fun x=>x.1=1/\0<=x.2.1/\x.2.1<4294967296) fun x=> .tup [.int false .u64 0,.int false .u64 x.2.1]
noncomputable def F4V:Fns thy:=addS (addS F3V 32 Zq3) 66 Z6w
theorem Z2w:FnsOk E F4V:=by
  refine Zb (Zb Zuu ?_) ?_
  · exact Zp E_ok (Zc (f:=32) rfl) fun x h=>Zfc x.1 h
  · refine Zp E_ok (Zc (f:=66) rfl) fun x h=> ?_
    obtain ⟨x,y,u⟩:=x
    obtain ⟨rfl,h1,h2⟩:=h
    exact Zq2 y h1 h2
--@cond verifyV | 14 | F4V | 400 | (c : List Ins) | [.psl .ins c false] | (p q : Int) | .tup [.int false .i64 p, .int false .i64 q]
theorem Zju (c:List Ins) (p q:Int):Zf E F4V (vc E F4V 400) 14 [.psl .ins c false] hp0 0 (fun r=>ret E (patch hp0 0 r) r.v (.tup [.int false .i64 p,.int false .i64 q]))=(
  (decide ((↑(List.length c):Int)>(4096:Int))=true->(0:Int)=p/\(2:Int)=q/\True)/\(decide ((↑(List.length c):Int)>(4096:Int))=false->(((↑(List.length c):
  Int)==(0:Int))=true->(0:Int)=p/\(200:Int)=q/\True)/\(((↑(List.length c):Int)==(0:Int))=false->List.length c<=(4096:Nat)/\((!List.all c formedF)=
  true->(0:Int)=p/\(200:Int)=q/\True)/\((!List.all c formedF)=false->(decide ((↑(List.length c):Int)<(0:Int))=true->False)/\(decide ((↑(List.length c):Int)
  <(0:Int))=false->((1:Int)=(1:Int)/\(0:Int)<=wr IntKind.u64 (↑(List.length c):Int)/\wr IntKind.u64 (↑(List.length c):Int)+(1:Int)<=(4294967296:Int))/\∃
  (Q:Bool->Prop),((decide ((0:Int)>(0:Int))=true->Q true)/\(decide ((0:Int)>(0:Int))=false->(decide (wr IntKind.u64 (↑(List.length c):Int)>
  (9223372036854775807:Int))=true->Q true)/\(decide (wr IntKind.u64 (↑(List.length c):Int)>(9223372036854775807:Int))=false->Q false)))/\(Q true->False)/\(Q false->
  (0:Int)<=wr IntKind.i64 (wr IntKind.u64 (↑(List.length c):Int))/\wr IntKind.i64 (wr IntKind.u64 (↑(List.length c):Int))<=wr IntKind.i64 (wr IntKind.u64 (↑(List.length c):
  Int))/\(↑(8:Nat):Int)*wr IntKind.i64 (wr IntKind.u64 (↑(List.length c):Int))<=(281474976710656:Int)/\((0:Nat)<=(0:Nat)/\(0:Nat)+Int.toNat (wr IntKind.i64 (wr
  IntKind.u64 (↑(List.length c):Int)))<=List.length (List.replicate (Int.toNat (wr IntKind.i64 (wr IntKind.u64 (↑(List.length c):Int)))) (0:Int)))/\∃(R:LX->Prop),(∃(x:
  LX),R x/\true=true/\(((0:Nat)=(0:Nat)/\Int.toNat (wr IntKind.i64 (wr IntKind.u64 (↑(List.length c):Int)))=Int.toNat (wr IntKind.i64 (wr IntKind.u64 (↑(List.length
  c):Int)))/\Int.toNat (wr IntKind.i64 (wr IntKind.u64 (↑(List.length c):Int)))=Int.toNat (wr IntKind.i64 (wr IntKind.u64 (↑(List.length c):Int))))/\(↑(min (List.length
  [(-1:Int)]) (Int.toNat (wr IntKind.i64 (wr IntKind.u64 (↑(List.length c):Int))))):Int)=(↑(LX.k x):Int)/\True)/\(List.take (0:Nat) (List.replicate (Int.toNat (wr
  IntKind.i64 (wr IntKind.u64 (↑(List.length c):Int)))) (0:Int))++List.take (Int.toNat (wr IntKind.i64 (wr IntKind.u64 (↑(List.length c):Int)))) [(-1:Int)]++List.drop ((0
  :Nat)+min (List.length [(-1:Int)]) (Int.toNat (wr IntKind.i64 (wr IntKind.u64 (↑(List.length c):Int))))) (List.replicate (Int.toNat (wr IntKind.i64 (wr IntKind.u64
  (↑(List.length c):Int)))) (0:Int))=LX.D x/\(0:Nat)=(0:Nat))/\True)/\∀(x:LX),R x->(decide ((↑(LX.k x):Int)<(↑(Int.toNat (wr IntKind.i64 (wr IntKind.u64
  (↑(List.length c):Int)))):Int))=true->((0:Int)<=(↑(LX.k x):Int)/\(↑(LX.k x):Int)<=(↑(Int.toNat (wr IntKind.i64 (wr IntKind.u64 (↑(List.length c):Int)))):Int))/\
  (decide ((↑(LX.k x):Int)<(↑(Int.toNat (wr IntKind.i64 (wr IntKind.u64 (↑(List.length c):Int)))):Int))=true->((0:Int)<=(↑(LX.k x):Int)/\(↑(LX.k x):Int)<=
  (↑(Int.toNat (wr IntKind.i64 (wr IntKind.u64 (↑(List.length c):Int)))):Int))/\(0:Nat)+Int.toNat (↑(LX.k x):Int)<=List.length (LX.D x)/\((0:Nat)<=(0:Nat)+
  Int.toNat (↑(LX.k x):Int)/\(0:Nat)+Int.toNat (↑(LX.k x):Int)+(Int.toNat (wr IntKind.i64 (wr IntKind.u64 (↑(List.length c):Int)))-Int.toNat (↑(LX.k x):Int))<=
  List.length (LX.D x))/\∃(x':LX),R x'/\x'.2+(1:Nat)<=x.2/\true=true/\(((0:Nat)=(0:Nat)/\Int.toNat (wr IntKind.i64 (wr IntKind.u64 (↑(List.length c):Int)))=
  Int.toNat (wr IntKind.i64 (wr IntKind.u64 (↑(List.length c):Int)))/\Int.toNat (wr IntKind.i64 (wr IntKind.u64 (↑(List.length c):Int)))=Int.toNat (wr IntKind.i64 (wr
  IntKind.u64 (↑(List.length c):Int))))/\wr IntKind.i64 ((↑(LX.k x):Int)+(↑(min (List.length (List.take (Int.toNat (↑(LX.k x):Int)) (LX.D x))) (Int.toNat (wr IntKind.i64 (wr
  IntKind.u64 (↑(List.length c):Int)))-Int.toNat (↑(LX.k x):Int))):Int))=(↑(LX.k x'):Int)/\True)/\(List.take ((0:Nat)+Int.toNat (↑(LX.k x):Int)) (LX.D x)++
  List.take (Int.toNat (wr IntKind.i64 (wr IntKind.u64 (↑(List.length c):Int)))-Int.toNat (↑(LX.k x):Int)) (List.take (Int.toNat (↑(LX.k x):Int)) (LX.D x))++List.drop ((0:
  Nat)+Int.toNat (↑(LX.k x):Int)+min (List.length (List.take (Int.toNat (↑(LX.k x):Int)) (LX.D x))) (Int.toNat (wr IntKind.i64 (wr IntKind.u64 (↑(List.length c):Int)))-
  Int.toNat (↑(LX.k x):Int))) (LX.D x)=LX.D x'/\(0:Nat)=(0:Nat))/\True)/\(decide ((↑(LX.k x):Int)<(↑(Int.toNat (wr IntKind.i64 (wr IntKind.u64 (↑(List.length c):
  Int)))):Int))=false->((0:Int)<=(↑(LX.k x):Int)/\(↑(LX.k x):Int)<=(↑(Int.toNat (wr IntKind.i64 (wr IntKind.u64 (↑(List.length c):Int)))):Int))/\False))/\(decide
  ((↑(LX.k x):Int)<(↑(Int.toNat (wr IntKind.i64 (wr IntKind.u64 (↑(List.length c):Int)))):Int))=false->((0:Int)<=(0:Int)/\(0:Int)+(1:Int)<=(↑(Int.toNat (wr
  IntKind.i64 (wr IntKind.u64 (↑(List.length c):Int)))):Int))/\(0:Nat)<=(0:Nat)+Int.toNat (0:Int)/\(0:Nat)+Int.toNat (0:Int)+(1:Nat)<=List.length (LX.D x)/\
  ∀(x_1:Int),(LX.D x)[(0:Nat)+Int.toNat (0:Int)]? =some x_1->∃(R:LX->Prop),(∃(x_2:LX),R x_2/\true=true/\((c=c/\(false=true->false=true))/\(0:Int)
  =LX.m x_2/\((0:Nat)=(0:Nat)/\Int.toNat (wr IntKind.i64 (wr IntKind.u64 (↑(List.length c):Int)))=Int.toNat (wr IntKind.i64 (wr IntKind.u64 (↑(List.length c):Int)))/\
  Int.toNat (wr IntKind.i64 (wr IntKind.u64 (↑(List.length c):Int)))=Int.toNat (wr IntKind.i64 (wr IntKind.u64 (↑(List.length c):Int))))/\(c=c/\(false=true->false=
  true))/\(↑(List.length c):Int)=(↑(List.length c):Int)/\(0:Int)=(↑(LX.k x_2):Int)/\True)/\(List.set (LX.D x) ((0:Nat)+Int.toNat (0:Int)) (0:Int)=LX.D x_2/\
  (0:Nat)=(0:Nat))/\True)/\∀(x:LX),R x->(decide ((↑(LX.k x):Int)<(↑(List.length c):Int))=true->(0:Int)<=(↑(LX.k x):Int)/\(↑(LX.k x):Int)+(1:Int)<=
  (↑(List.length c):Int)/\∀(x_2:Ins),c[Int.toNat (↑(LX.k x):Int)]? =some x_2->((0:Int)<=(↑(LX.k x):Int)/\(↑(LX.k x):Int)+(1:Int)<=(↑(Int.toNat (wr IntKind.i64
  (wr IntKind.u64 (↑(List.length c):Int)))):Int))/\(0:Nat)+Int.toNat (↑(LX.k x):Int)+(1:Nat)<=List.length (LX.D x)/\∀(x_3:Int),(LX.D x)[(0:Nat)+Int.toNat
  (↑(LX.k x):Int)]? =some x_3->(decide (x_3<(0:Int))=true->∃(x':LX),R x'/\x'.2+(1:Nat)<=x.2/\true=true/\((c=c/\(false=true->false=true))/\LX.m x=
  LX.m x'/\((0:Nat)=(0:Nat)/\Int.toNat (wr IntKind.i64 (wr IntKind.u64 (↑(List.length c):Int)))=Int.toNat (wr IntKind.i64 (wr IntKind.u64 (↑(List.length c):Int)))/\
  Int.toNat (wr IntKind.i64 (wr IntKind.u64 (↑(List.length c):Int)))=Int.toNat (wr IntKind.i64 (wr IntKind.u64 (↑(List.length c):Int))))/\(c=c/\(false=true->false=
  true))/\(↑(List.length c):Int)=(↑(List.length c):Int)/\wr IntKind.i64 ((↑(LX.k x):Int)+(1:Int))=(↑(LX.k x'):Int)/\True)/\(LX.D x=LX.D x'/\(0:Nat)=(0:
  Nat))/\True)/\(decide (x_3<(0:Int))=false->True/\∃(Q:Bool->Prop),((decide (x_3<Prod.fst (eff (Ins.op x_2)))=true->Q true)/\(decide (x_3<Prod.fst (eff (Ins.op
  x_2)))=false->((Ins.op x_2==(15:Int))=true->((x_3 !=(1:Int))=true->Q true)/\((x_3 !=(1:Int))=false->((Ins.op x_2==(16:Int))=true->((x_3 !=(0:Int))
  =true->Q true)/\((x_3 !=(0:Int))=false->Q false))/\((Ins.op x_2==(16:Int))=false->Q false)))/\((Ins.op x_2==(15:Int))=false->((Ins.op x_2==(16:Int))=
  true->((x_3 !=(0:Int))=true->Q true)/\((x_3 !=(0:Int))=false->Q false))/\((Ins.op x_2==(16:Int))=false->Q false))))/\(Q true->(0:Int)=p/\(200:Int)=
  q/\True)/\(Q false->∃(Q:Bool->Prop),(((Ins.op x_2==(13:Int))=true->Q true)/\((Ins.op x_2==(13:Int))=false->((Ins.op x_2==(14:Int))=true->Q true)/\
  ((Ins.op x_2==(14:Int))=false->Q false)))/\(Q true->∃(Q:Bool->Prop),(((Ins.op x_2 !=(14:Int))=true->((Ins.op x_2 !=(15:Int))=true->((Ins.op x_2 !=(16:
  Int))=true->Q true)/\((Ins.op x_2 !=(16:Int))=false->Q false))/\((Ins.op x_2 !=(15:Int))=false->Q false))/\((Ins.op x_2 !=(14:Int))=false->Q false))/\(Q
  true->(List.length [Ins.n x_2]<=List.length [Ins.n x_2]/\(0:Nat)<=List.length [Ins.n x_2]/\(List.length [Ins.n x_2]+List.length [wr IntKind.i64 ((↑(LX.k x):Int)+(1:
  Int))])*(8:Nat)<=(140737488355328:Nat))/\∃(R_1:LX->Prop),(∃(x_4:LX),R_1 x_4/\true=true/\((c=c/\(false=true->false=true))/\mm2 true (mm2 true (LX.m x)
  x_3) (wr IntKind.i64 (wr IntKind.i64 (x_3-Prod.fst (eff (Ins.op x_2)))+Prod.snd (eff (Ins.op x_2))))=mm2 true (mm2 true (LX.m x) x_3) (wr IntKind.i64 (wr IntKind.i64 (x_3-
  Prod.fst (eff (Ins.op x_2)))+Prod.snd (eff (Ins.op x_2))))/\((0:Nat)=(0:Nat)/\Int.toNat (wr IntKind.i64 (wr IntKind.u64 (↑(List.length c):Int)))=Int.toNat (wr
  IntKind.i64 (wr IntKind.u64 (↑(List.length c):Int)))/\Int.toNat (wr IntKind.i64 (wr IntKind.u64 (↑(List.length c):Int)))=Int.toNat (wr IntKind.i64 (wr IntKind.u64
  (↑(List.length c):Int))))/\(↑(LX.k x):Int)=(↑(LX.k x):Int)/\wr IntKind.i64 (wr IntKind.i64 (x_3-Prod.fst (eff (Ins.op x_2)))+Prod.snd (eff (Ins.op x_2)))=wr
  IntKind.i64 (wr IntKind.i64 (x_3-Prod.fst (eff (Ins.op x_2)))+Prod.snd (eff (Ins.op x_2)))/\(c=c/\(false=true->false=true))/\(↑(List.length c):Int)=(↑(List.length
  c):Int)/\(↑(LX.k x):Int)=(↑(LX.k x):Int)/\((0:Nat)=(0:Nat)/\List.length [Ins.n x_2]+List.length [wr IntKind.i64 ((↑(LX.k x):Int)+(1:Int))]=List.length
  [Ins.n x_2]+List.length [wr IntKind.i64 ((↑(LX.k x):Int)+(1:Int))]/\True)/\(↑(List.length [Ins.n x_2]+List.length [wr IntKind.i64 ((↑(LX.k x):Int)+(1:Int))]):
  Int)=(↑(List.length [Ins.n x_2]+List.length [wr IntKind.i64 ((↑(LX.k x):Int)+(1:Int))]):Int)/\(0:Int)=(↑(LX.k x_4):Int)/\True)/\(LX.D x=LX.D x_4/\(0:Nat)
  =(0:Nat))/\(List.take (List.length [Ins.n x_2]) [Ins.n x_2]++ [wr IntKind.i64 ((↑(LX.k x):Int)+(1:Int))]=List.take (List.length [Ins.n x_2]) [Ins.n x_2]++ [wr
  IntKind.i64 ((↑(LX.k x):Int)+(1:Int))]/\(0:Nat)=(0:Nat))/\True)/\∀(x_4:LX),R_1 x_4->(decide ((↑(LX.k x_4):Int)<(↑(List.length [Ins.n x_2]+List.length [wr
  IntKind.i64 ((↑(LX.k x):Int)+(1:Int))]):Int))=true->((0:Int)<=(↑(LX.k x_4):Int)/\(↑(LX.k x_4):Int)+(1:Int)<=(↑(List.length [Ins.n x_2]+List.length [wr
  IntKind.i64 ((↑(LX.k x):Int)+(1:Int))]):Int))/\(0:Nat)+Int.toNat (↑(LX.k x_4):Int)+(1:Nat)<=List.length (List.take (List.length [Ins.n x_2]) [Ins.n x_2]++ [wr
  IntKind.i64 ((↑(LX.k x):Int)+(1:Int))])/\∀(x_5:Int),(List.take (List.length [Ins.n x_2]) [Ins.n x_2]++ [wr IntKind.i64 ((↑(LX.k x):Int)+(1:Int))])[(0:Nat)+
  Int.toNat (↑(LX.k x_4):Int)]? =some x_5->∃(Q:Bool->Prop),((decide (x_5<=(↑(LX.k x):Int))=true->Q true)/\(decide (x_5<=(↑(LX.k x):Int))=false->(decide (x_5>=
  (↑(List.length c):Int))=true->Q true)/\(decide (x_5>=(↑(List.length c):Int))=false->((0:Int)<=x_5/\x_5+(1:Int)<=(↑(Int.toNat (wr IntKind.i64 (wr IntKind.u64
  (↑(List.length c):Int)))):Int))/\(0:Nat)+Int.toNat x_5+(1:Nat)<=List.length (LX.D x_4)/\∀(x:Int),(LX.D x_4)[(0:Nat)+Int.toNat x_5]? =some x->(decide (x>=
  (0:Int))=true->((0:Int)<=x_5/\x_5+(1:Int)<=(↑(Int.toNat (wr IntKind.i64 (wr IntKind.u64 (↑(List.length c):Int)))):Int))/\(0:Nat)+Int.toNat x_5+(1:Nat)<=
  List.length (LX.D x_4)/\∀(x:Int),(LX.D x_4)[(0:Nat)+Int.toNat x_5]? =some x->((x !=wr IntKind.i64 (wr IntKind.i64 (x_3-Prod.fst (eff (Ins.op x_2)))+Prod.snd (eff
  (Ins.op x_2))))=true->Q true)/\((x !=wr IntKind.i64 (wr IntKind.i64 (x_3-Prod.fst (eff (Ins.op x_2)))+Prod.snd (eff (Ins.op x_2))))=false->Q false))/\(decide (x>=(0:
  Int))=false->Q false))))/\(Q true->(0:Int)=p/\(200:Int)=q/\True)/\(Q false->((0:Int)<=x_5/\x_5+(1:Int)<=(↑(Int.toNat (wr IntKind.i64 (wr IntKind.u64
  (↑(List.length c):Int)))):Int))/\(0:Nat)<=(0:Nat)+Int.toNat x_5/\(0:Nat)+Int.toNat x_5+(1:Nat)<=List.length (LX.D x_4)/\∀(x_6:Int),(LX.D x_4)[(0:Nat)+
  Int.toNat x_5]? =some x_6->∃(x':LX),R_1 x'/\x'.2+(1:Nat)<=x_4.2/\true=true/\((c=c/\(false=true->false=true))/\mm2 true (mm2 true (LX.m x) x_3) (wr
  IntKind.i64 (wr IntKind.i64 (x_3-Prod.fst (eff (Ins.op x_2)))+Prod.snd (eff (Ins.op x_2))))=mm2 true (mm2 true (LX.m x) x_3) (wr IntKind.i64 (wr IntKind.i64 (x_3-Prod.fst
  (eff (Ins.op x_2)))+Prod.snd (eff (Ins.op x_2))))/\((0:Nat)=(0:Nat)/\Int.toNat (wr IntKind.i64 (wr IntKind.u64 (↑(List.length c):Int)))=Int.toNat (wr IntKind.i64 (wr
  IntKind.u64 (↑(List.length c):Int)))/\Int.toNat (wr IntKind.i64 (wr IntKind.u64 (↑(List.length c):Int)))=Int.toNat (wr IntKind.i64 (wr IntKind.u64 (↑(List.length c):
  Int))))/\(↑(LX.k x):Int)=(↑(LX.k x):Int)/\wr IntKind.i64 (wr IntKind.i64 (x_3-Prod.fst (eff (Ins.op x_2)))+Prod.snd (eff (Ins.op x_2)))=wr IntKind.i64 (wr IntKind.i64
  (x_3-Prod.fst (eff (Ins.op x_2)))+Prod.snd (eff (Ins.op x_2)))/\(c=c/\(false=true->false=true))/\(↑(List.length c):Int)=(↑(List.length c):Int)/\(↑(LX.k x):
  Int)=(↑(LX.k x):Int)/\((0:Nat)=(0:Nat)/\List.length [Ins.n x_2]+List.length [wr IntKind.i64 ((↑(LX.k x):Int)+(1:Int))]=List.length [Ins.n x_2]+List.length
  [wr IntKind.i64 ((↑(LX.k x):Int)+(1:Int))]/\True)/\(↑(List.length [Ins.n x_2]+List.length [wr IntKind.i64 ((↑(LX.k x):Int)+(1:Int))]):Int)=(↑(List.length [Ins.n
  x_2]+List.length [wr IntKind.i64 ((↑(LX.k x):Int)+(1:Int))]):Int)/\wr IntKind.i64 ((↑(LX.k x_4):Int)+(1:Int))=(↑(LX.k x'):Int)/\True)/\(List.set (LX.D x_4)
  ((0:Nat)+Int.toNat x_5) (wr IntKind.i64 (wr IntKind.i64 (x_3-Prod.fst (eff (Ins.op x_2)))+Prod.snd (eff (Ins.op x_2))))=LX.D x'/\(0:Nat)=(0:Nat))/\(List.take
  (List.length [Ins.n x_2]) [Ins.n x_2]++ [wr IntKind.i64 ((↑(LX.k x):Int)+(1:Int))]=List.take (List.length [Ins.n x_2]) [Ins.n x_2]++ [wr IntKind.i64 ((↑(LX.k x):Int)+
  (1:Int))]/\(0:Nat)=(0:Nat))/\True))/\(decide ((↑(LX.k x_4):Int)<(↑(List.length [Ins.n x_2]+List.length [wr IntKind.i64 ((↑(LX.k x):Int)+(1:Int))]):Int))=
  false->∃(x':LX),R x'/\x'.2+(1:Nat)<=x.2/\true=true/\((c=c/\(false=true->false=true))/\mm2 true (mm2 true (LX.m x) x_3) (wr IntKind.i64 (wr IntKind.i64 (x_3
  -Prod.fst (eff (Ins.op x_2)))+Prod.snd (eff (Ins.op x_2))))=LX.m x'/\((0:Nat)=(0:Nat)/\Int.toNat (wr IntKind.i64 (wr IntKind.u64 (↑(List.length c):Int)))=Int.toNat
  (wr IntKind.i64 (wr IntKind.u64 (↑(List.length c):Int)))/\Int.toNat (wr IntKind.i64 (wr IntKind.u64 (↑(List.length c):Int)))=Int.toNat (wr IntKind.i64 (wr IntKind.u64
  (↑(List.length c):Int))))/\(c=c/\(false=true->false=true))/\(↑(List.length c):Int)=(↑(List.length c):Int)/\wr IntKind.i64 ((↑(LX.k x):Int)+(1:Int))=
  (↑(LX.k x'):Int)/\True)/\(LX.D x_4=LX.D x'/\(0:Nat)=(0:Nat))/\True))/\(Q false->∃(R_1:LX->Prop),(∃(x_4:LX),R_1 x_4/\true=true/\((c=c/\(false=true
  ->false=true))/\mm2 true (mm2 true (LX.m x) x_3) (wr IntKind.i64 (wr IntKind.i64 (x_3-Prod.fst (eff (Ins.op x_2)))+Prod.snd (eff (Ins.op x_2))))=mm2 true (mm2 true (LX.m
  x) x_3) (wr IntKind.i64 (wr IntKind.i64 (x_3-Prod.fst (eff (Ins.op x_2)))+Prod.snd (eff (Ins.op x_2))))/\((0:Nat)=(0:Nat)/\Int.toNat (wr IntKind.i64 (wr IntKind.u64
  (↑(List.length c):Int)))=Int.toNat (wr IntKind.i64 (wr IntKind.u64 (↑(List.length c):Int)))/\Int.toNat (wr IntKind.i64 (wr IntKind.u64 (↑(List.length c):Int)))=Int.toNat
  (wr IntKind.i64 (wr IntKind.u64 (↑(List.length c):Int))))/\(↑(LX.k x):Int)=(↑(LX.k x):Int)/\wr IntKind.i64 (wr IntKind.i64 (x_3-Prod.fst (eff (Ins.op x_2)))+Prod.snd
  (eff (Ins.op x_2)))=wr IntKind.i64 (wr IntKind.i64 (x_3-Prod.fst (eff (Ins.op x_2)))+Prod.snd (eff (Ins.op x_2)))/\(c=c/\(false=true->false=true))/\(↑(List.length
  c):Int)=(↑(List.length c):Int)/\(↑(LX.k x):Int)=(↑(LX.k x):Int)/\((0:Nat)=(0:Nat)/\List.length [Ins.n x_2]=List.length [Ins.n x_2]/\True)/\(↑(List.length
  [Ins.n x_2]):Int)=(↑(List.length [Ins.n x_2]):Int)/\(0:Int)=(↑(LX.k x_4):Int)/\True)/\(LX.D x=LX.D x_4/\(0:Nat)=(0:Nat))/\([Ins.n x_2]= [Ins.n x_2]/\(0:
  Nat)=(0:Nat))/\True)/\∀(x_4:LX),R_1 x_4->(decide ((↑(LX.k x_4):Int)<(↑(List.length [Ins.n x_2]):Int))=true->((0:Int)<=(↑(LX.k x_4):Int)/\(↑(LX.k x_4):
  Int)+(1:Int)<=(↑(List.length [Ins.n x_2]):Int))/\(0:Nat)+Int.toNat (↑(LX.k x_4):Int)+(1:Nat)<=List.length [Ins.n x_2]/\∀(x_5:Int),[Ins.n x_2][(0:Nat)+
  Int.toNat (↑(LX.k x_4):Int)]? =some x_5->∃(Q:Bool->Prop),((decide (x_5<=(↑(LX.k x):Int))=true->Q true)/\(decide (x_5<=(↑(LX.k x):Int))=false->(decide (x_5>=
  (↑(List.length c):Int))=true->Q true)/\(decide (x_5>=(↑(List.length c):Int))=false->((0:Int)<=x_5/\x_5+(1:Int)<=(↑(Int.toNat (wr IntKind.i64 (wr IntKind.u64
  (↑(List.length c):Int)))):Int))/\(0:Nat)+Int.toNat x_5+(1:Nat)<=List.length (LX.D x_4)/\∀(x:Int),(LX.D x_4)[(0:Nat)+Int.toNat x_5]? =some x->(decide (x>=
  (0:Int))=true->((0:Int)<=x_5/\x_5+(1:Int)<=(↑(Int.toNat (wr IntKind.i64 (wr IntKind.u64 (↑(List.length c):Int)))):Int))/\(0:Nat)+Int.toNat x_5+(1:Nat)<=
  List.length (LX.D x_4)/\∀(x:Int),(LX.D x_4)[(0:Nat)+Int.toNat x_5]? =some x->((x !=wr IntKind.i64 (wr IntKind.i64 (x_3-Prod.fst (eff (Ins.op x_2)))+Prod.snd (eff
  (Ins.op x_2))))=true->Q true)/\((x !=wr IntKind.i64 (wr IntKind.i64 (x_3-Prod.fst (eff (Ins.op x_2)))+Prod.snd (eff (Ins.op x_2))))=false->Q false))/\(decide (x>=(0:
  Int))=false->Q false))))/\(Q true->(0:Int)=p/\(200:Int)=q/\True)/\(Q false->((0:Int)<=x_5/\x_5+(1:Int)<=(↑(Int.toNat (wr IntKind.i64 (wr IntKind.u64
  (↑(List.length c):Int)))):Int))/\(0:Nat)<=(0:Nat)+Int.toNat x_5/\(0:Nat)+Int.toNat x_5+(1:Nat)<=List.length (LX.D x_4)/\∀(x_6:Int),(LX.D x_4)[(0:Nat)+
  Int.toNat x_5]? =some x_6->∃(x':LX),R_1 x'/\x'.2+(1:Nat)<=x_4.2/\true=true/\((c=c/\(false=true->false=true))/\mm2 true (mm2 true (LX.m x) x_3) (wr
  IntKind.i64 (wr IntKind.i64 (x_3-Prod.fst (eff (Ins.op x_2)))+Prod.snd (eff (Ins.op x_2))))=mm2 true (mm2 true (LX.m x) x_3) (wr IntKind.i64 (wr IntKind.i64 (x_3-Prod.fst
  (eff (Ins.op x_2)))+Prod.snd (eff (Ins.op x_2))))/\((0:Nat)=(0:Nat)/\Int.toNat (wr IntKind.i64 (wr IntKind.u64 (↑(List.length c):Int)))=Int.toNat (wr IntKind.i64 (wr
  IntKind.u64 (↑(List.length c):Int)))/\Int.toNat (wr IntKind.i64 (wr IntKind.u64 (↑(List.length c):Int)))=Int.toNat (wr IntKind.i64 (wr IntKind.u64 (↑(List.length c):
  Int))))/\(↑(LX.k x):Int)=(↑(LX.k x):Int)/\wr IntKind.i64 (wr IntKind.i64 (x_3-Prod.fst (eff (Ins.op x_2)))+Prod.snd (eff (Ins.op x_2)))=wr IntKind.i64 (wr IntKind.i64
  (x_3-Prod.fst (eff (Ins.op x_2)))+Prod.snd (eff (Ins.op x_2)))/\(c=c/\(false=true->false=true))/\(↑(List.length c):Int)=(↑(List.length c):Int)/\(↑(LX.k x):
  Int)=(↑(LX.k x):Int)/\((0:Nat)=(0:Nat)/\List.length [Ins.n x_2]=List.length [Ins.n x_2]/\True)/\(↑(List.length [Ins.n x_2]):Int)=(↑(List.length [Ins.n x_2]):
  Int)/\wr IntKind.i64 ((↑(LX.k x_4):Int)+(1:Int))=(↑(LX.k x'):Int)/\True)/\(List.set (LX.D x_4) ((0:Nat)+Int.toNat x_5) (wr IntKind.i64 (wr IntKind.i64 (x_3-
  Prod.fst (eff (Ins.op x_2)))+Prod.snd (eff (Ins.op x_2))))=LX.D x'/\(0:Nat)=(0:Nat))/\([Ins.n x_2]= [Ins.n x_2]/\(0:Nat)=(0:Nat))/\True))/\(decide ((↑(LX.k
  x_4):Int)<(↑(List.length [Ins.n x_2]):Int))=false->∃(x':LX),R x'/\x'.2+(1:Nat)<=x.2/\true=true/\((c=c/\(false=true->false=true))/\mm2 true (mm2 true
  (LX.m x) x_3) (wr IntKind.i64 (wr IntKind.i64 (x_3-Prod.fst (eff (Ins.op x_2)))+Prod.snd (eff (Ins.op x_2))))=LX.m x'/\((0:Nat)=(0:Nat)/\Int.toNat (wr IntKind.i64 (wr
  IntKind.u64 (↑(List.length c):Int)))=Int.toNat (wr IntKind.i64 (wr IntKind.u64 (↑(List.length c):Int)))/\Int.toNat (wr IntKind.i64 (wr IntKind.u64 (↑(List.length c):Int)))
  =Int.toNat (wr IntKind.i64 (wr IntKind.u64 (↑(List.length c):Int))))/\(c=c/\(false=true->false=true))/\(↑(List.length c):Int)=(↑(List.length c):Int)/\wr
  IntKind.i64 ((↑(LX.k x):Int)+(1:Int))=(↑(LX.k x'):Int)/\True)/\(LX.D x_4=LX.D x'/\(0:Nat)=(0:Nat))/\True)))/\(Q false->∃(Q:Bool->Prop),(((Ins.op x_2 !=
  (14:Int))=true->((Ins.op x_2 !=(15:Int))=true->((Ins.op x_2 !=(16:Int))=true->Q true)/\((Ins.op x_2 !=(16:Int))=false->Q false))/\((Ins.op x_2 !=(15:
  Int))=false->Q false))/\((Ins.op x_2 !=(14:Int))=false->Q false))/\(Q true->∃(R_1:LX->Prop),(∃(x_4:LX),R_1 x_4/\true=true/\((c=c/\(false=true->false
  =true))/\mm2 true (mm2 true (LX.m x) x_3) (wr IntKind.i64 (wr IntKind.i64 (x_3-Prod.fst (eff (Ins.op x_2)))+Prod.snd (eff (Ins.op x_2))))=mm2 true (mm2 true (LX.m x) x_3)
  (wr IntKind.i64 (wr IntKind.i64 (x_3-Prod.fst (eff (Ins.op x_2)))+Prod.snd (eff (Ins.op x_2))))/\((0:Nat)=(0:Nat)/\Int.toNat (wr IntKind.i64 (wr IntKind.u64
  (↑(List.length c):Int)))=Int.toNat (wr IntKind.i64 (wr IntKind.u64 (↑(List.length c):Int)))/\Int.toNat (wr IntKind.i64 (wr IntKind.u64 (↑(List.length c):Int)))=Int.toNat
  (wr IntKind.i64 (wr IntKind.u64 (↑(List.length c):Int))))/\(↑(LX.k x):Int)=(↑(LX.k x):Int)/\wr IntKind.i64 (wr IntKind.i64 (x_3-Prod.fst (eff (Ins.op x_2)))+Prod.snd
  (eff (Ins.op x_2)))=wr IntKind.i64 (wr IntKind.i64 (x_3-Prod.fst (eff (Ins.op x_2)))+Prod.snd (eff (Ins.op x_2)))/\(c=c/\(false=true->false=true))/\(↑(List.length
  c):Int)=(↑(List.length c):Int)/\(↑(LX.k x):Int)=(↑(LX.k x):Int)/\((0:Nat)=(0:Nat)/\List.length [wr IntKind.i64 ((↑(LX.k x):Int)+(1:Int))]=List.length
  [wr IntKind.i64 ((↑(LX.k x):Int)+(1:Int))]/\True)/\(↑(List.length [wr IntKind.i64 ((↑(LX.k x):Int)+(1:Int))]):Int)=(↑(List.length [wr IntKind.i64 ((↑(LX.k x):
  Int)+(1:Int))]):Int)/\(0:Int)=(↑(LX.k x_4):Int)/\True)/\(LX.D x=LX.D x_4/\(0:Nat)=(0:Nat))/\([wr IntKind.i64 ((↑(LX.k x):Int)+(1:Int))]= [wr
  IntKind.i64 ((↑(LX.k x):Int)+(1:Int))]/\(0:Nat)=(0:Nat))/\True)/\∀(x_4:LX),R_1 x_4->(decide ((↑(LX.k x_4):Int)<(↑(List.length [wr IntKind.i64 ((↑(LX.k x):
  Int)+(1:Int))]):Int))=true->((0:Int)<=(↑(LX.k x_4):Int)/\(↑(LX.k x_4):Int)+(1:Int)<=(↑(List.length [wr IntKind.i64 ((↑(LX.k x):Int)+(1:Int))]):Int))/\
  (0:Nat)+Int.toNat (↑(LX.k x_4):Int)+(1:Nat)<=List.length [wr IntKind.i64 ((↑(LX.k x):Int)+(1:Int))]/\∀(x_5:Int),[wr IntKind.i64 ((↑(LX.k x):Int)+(1:
  Int))][(0:Nat)+Int.toNat (↑(LX.k x_4):Int)]? =some x_5->∃(Q:Bool->Prop),((decide (x_5<=(↑(LX.k x):Int))=true->Q true)/\(decide (x_5<=(↑(LX.k x):Int))=false
  ->(decide (x_5>=(↑(List.length c):Int))=true->Q true)/\(decide (x_5>=(↑(List.length c):Int))=false->((0:Int)<=x_5/\x_5+(1:Int)<=(↑(Int.toNat (wr IntKind.i64
  (wr IntKind.u64 (↑(List.length c):Int)))):Int))/\(0:Nat)+Int.toNat x_5+(1:Nat)<=List.length (LX.D x_4)/\∀(x:Int),(LX.D x_4)[(0:Nat)+Int.toNat x_5]? =some x
  ->(decide (x>=(0:Int))=true->((0:Int)<=x_5/\x_5+(1:Int)<=(↑(Int.toNat (wr IntKind.i64 (wr IntKind.u64 (↑(List.length c):Int)))):Int))/\(0:Nat)+Int.toNat x_5
  +(1:Nat)<=List.length (LX.D x_4)/\∀(x:Int),(LX.D x_4)[(0:Nat)+Int.toNat x_5]? =some x->((x !=wr IntKind.i64 (wr IntKind.i64 (x_3-Prod.fst (eff (Ins.op x_2)))+
  Prod.snd (eff (Ins.op x_2))))=true->Q true)/\((x !=wr IntKind.i64 (wr IntKind.i64 (x_3-Prod.fst (eff (Ins.op x_2)))+Prod.snd (eff (Ins.op x_2))))=false->Q false))/\
  (decide (x>=(0:Int))=false->Q false))))/\(Q true->(0:Int)=p/\(200:Int)=q/\True)/\(Q false->((0:Int)<=x_5/\x_5+(1:Int)<=(↑(Int.toNat (wr IntKind.i64 (wr
  IntKind.u64 (↑(List.length c):Int)))):Int))/\(0:Nat)<=(0:Nat)+Int.toNat x_5/\(0:Nat)+Int.toNat x_5+(1:Nat)<=List.length (LX.D x_4)/\∀(x_6:Int),(LX.D
  x_4)[(0:Nat)+Int.toNat x_5]? =some x_6->∃(x':LX),R_1 x'/\x'.2+(1:Nat)<=x_4.2/\true=true/\((c=c/\(false=true->false=true))/\mm2 true (mm2 true (LX.m x)
  x_3) (wr IntKind.i64 (wr IntKind.i64 (x_3-Prod.fst (eff (Ins.op x_2)))+Prod.snd (eff (Ins.op x_2))))=mm2 true (mm2 true (LX.m x) x_3) (wr IntKind.i64 (wr IntKind.i64 (x_3-
  Prod.fst (eff (Ins.op x_2)))+Prod.snd (eff (Ins.op x_2))))/\((0:Nat)=(0:Nat)/\Int.toNat (wr IntKind.i64 (wr IntKind.u64 (↑(List.length c):Int)))=Int.toNat (wr
  IntKind.i64 (wr IntKind.u64 (↑(List.length c):Int)))/\Int.toNat (wr IntKind.i64 (wr IntKind.u64 (↑(List.length c):Int)))=Int.toNat (wr IntKind.i64 (wr IntKind.u64
  (↑(List.length c):Int))))/\(↑(LX.k x):Int)=(↑(LX.k x):Int)/\wr IntKind.i64 (wr IntKind.i64 (x_3-Prod.fst (eff (Ins.op x_2)))+Prod.snd (eff (Ins.op x_2)))=wr
  IntKind.i64 (wr IntKind.i64 (x_3-Prod.fst (eff (Ins.op x_2)))+Prod.snd (eff (Ins.op x_2)))/\(c=c/\(false=true->false=true))/\(↑(List.length c):Int)=(↑(List.length
  c):Int)/\(↑(LX.k x):Int)=(↑(LX.k x):Int)/\((0:Nat)=(0:Nat)/\List.length [wr IntKind.i64 ((↑(LX.k x):Int)+(1:Int))]=List.length [wr IntKind.i64 ((↑(LX.k x)
  :Int)+(1:Int))]/\True)/\(↑(List.length [wr IntKind.i64 ((↑(LX.k x):Int)+(1:Int))]):Int)=(↑(List.length [wr IntKind.i64 ((↑(LX.k x):Int)+(1:Int))]):Int)/\
  wr IntKind.i64 ((↑(LX.k x_4):Int)+(1:Int))=(↑(LX.k x'):Int)/\True)/\(List.set (LX.D x_4) ((0:Nat)+Int.toNat x_5) (wr IntKind.i64 (wr IntKind.i64 (x_3-Prod.fst
  (eff (Ins.op x_2)))+Prod.snd (eff (Ins.op x_2))))=LX.D x'/\(0:Nat)=(0:Nat))/\([wr IntKind.i64 ((↑(LX.k x):Int)+(1:Int))]= [wr IntKind.i64 ((↑(LX.k x):Int)+(1
  :Int))]/\(0:Nat)=(0:Nat))/\True))/\(decide ((↑(LX.k x_4):Int)<(↑(List.length [wr IntKind.i64 ((↑(LX.k x):Int)+(1:Int))]):Int))=false->∃(x':LX),R x'/\
  x'.2+(1:Nat)<=x.2/\true=true/\((c=c/\(false=true->false=true))/\mm2 true (mm2 true (LX.m x) x_3) (wr IntKind.i64 (wr IntKind.i64 (x_3-Prod.fst (eff (Ins.op
  x_2)))+Prod.snd (eff (Ins.op x_2))))=LX.m x'/\((0:Nat)=(0:Nat)/\Int.toNat (wr IntKind.i64 (wr IntKind.u64 (↑(List.length c):Int)))=Int.toNat (wr IntKind.i64 (wr
  IntKind.u64 (↑(List.length c):Int)))/\Int.toNat (wr IntKind.i64 (wr IntKind.u64 (↑(List.length c):Int)))=Int.toNat (wr IntKind.i64 (wr IntKind.u64 (↑(List.length c):
  Int))))/\(c=c/\(false=true->false=true))/\(↑(List.length c):Int)=(↑(List.length c):Int)/\wr IntKind.i64 ((↑(LX.k x):Int)+(1:Int))=(↑(LX.k x'):Int)/\
  True)/\(LX.D x_4=LX.D x'/\(0:Nat)=(0:Nat))/\True))/\(Q false->∃(R_1:LX->Prop),(∃(x_4:LX),R_1 x_4/\true=true/\((c=c/\(false=true->false=true))/\
  mm2 true (mm2 true (LX.m x) x_3) (wr IntKind.i64 (wr IntKind.i64 (x_3-Prod.fst (eff (Ins.op x_2)))+Prod.snd (eff (Ins.op x_2))))=mm2 true (mm2 true (LX.m x) x_3) (wr
  IntKind.i64 (wr IntKind.i64 (x_3-Prod.fst (eff (Ins.op x_2)))+Prod.snd (eff (Ins.op x_2))))/\((0:Nat)=(0:Nat)/\Int.toNat (wr IntKind.i64 (wr IntKind.u64 (↑(List.length
  c):Int)))=Int.toNat (wr IntKind.i64 (wr IntKind.u64 (↑(List.length c):Int)))/\Int.toNat (wr IntKind.i64 (wr IntKind.u64 (↑(List.length c):Int)))=Int.toNat (wr
  IntKind.i64 (wr IntKind.u64 (↑(List.length c):Int))))/\(↑(LX.k x):Int)=(↑(LX.k x):Int)/\wr IntKind.i64 (wr IntKind.i64 (x_3-Prod.fst (eff (Ins.op x_2)))+Prod.snd (eff
  (Ins.op x_2)))=wr IntKind.i64 (wr IntKind.i64 (x_3-Prod.fst (eff (Ins.op x_2)))+Prod.snd (eff (Ins.op x_2)))/\(c=c/\(false=true->false=true))/\(↑(List.length c):
  Int)=(↑(List.length c):Int)/\(↑(LX.k x):Int)=(↑(LX.k x):Int)/\Value.slice none (0:Nat) (0:Nat)=Value.slice none (0:Nat) (0:Nat)/\(0:Int)=(0:Int)/\(0:
  Int)=(↑(LX.k x_4):Int)/\True)/\(LX.D x=LX.D x_4/\(0:Nat)=(0:Nat))/\True)/\∀(x_4:LX),R_1 x_4->(decide ((↑(LX.k x_4):Int)<(0:Int))=true->False)/\
  (decide ((↑(LX.k x_4):Int)<(0:Int))=false->∃(x':LX),R x'/\x'.2+(1:Nat)<=x.2/\true=true/\((c=c/\(false=true->false=true))/\mm2 true (mm2 true (LX.m
  x) x_3) (wr IntKind.i64 (wr IntKind.i64 (x_3-Prod.fst (eff (Ins.op x_2)))+Prod.snd (eff (Ins.op x_2))))=LX.m x'/\((0:Nat)=(0:Nat)/\Int.toNat (wr IntKind.i64 (wr
  IntKind.u64 (↑(List.length c):Int)))=Int.toNat (wr IntKind.i64 (wr IntKind.u64 (↑(List.length c):Int)))/\Int.toNat (wr IntKind.i64 (wr IntKind.u64 (↑(List.length c):Int)))
  =Int.toNat (wr IntKind.i64 (wr IntKind.u64 (↑(List.length c):Int))))/\(c=c/\(false=true->false=true))/\(↑(List.length c):Int)=(↑(List.length c):Int)/\wr
  IntKind.i64 ((↑(LX.k x):Int)+(1:Int))=(↑(LX.k x'):Int)/\True)/\(LX.D x_4=LX.D x'/\(0:Nat)=(0:Nat))/\True))))))/\(decide ((↑(LX.k x):Int)<(↑(List.length
  c):Int))=false->(decide (LX.m x>(64:Int))=true->(0:Int)=p/\(2:Int)=q/\True)/\(decide (LX.m x>(64:Int))=false->LX.m x=p/\(0:Int)=q/\
  True))))))))
  ):=by kernel_rfl
--@end
theorem Zuw {n k:Nat} (h1:1<=k) (h2:k<n) {D:List Int} (hD:D=List.replicate k (-1)++List.replicate (n-k) 0):
    List.take k D++List.take (n-k) (List.take k D)++List.drop (k+min (List.take k D).length (n-k)) D=List.replicate (k+min k (n-k)) (-1)++List.replicate (n-(k+min k (n-k))) 0:=by
  subst hD
  have e1:List.take k (List.replicate k (-1:Int)++List.replicate (n-k) 0)=List.replicate k (-1):=List.take_left' (by simp)
  rw [e1,List.length_replicate,List.take_replicate]
  have e2:List.drop (k+min k (n-k)) (List.replicate k (-1:Int)++List.replicate (n-k) 0)=List.drop (min k (n-k)) (List.replicate (n-k) 0):=by
    rw [List.drop_append,List.length_replicate,List.drop_eq_nil_of_le (by simp),show k+min k (n-k)-k=min k (n-k) by omega,List.nil_append]
  rw [e2,List.drop_replicate,List.replicate_append_replicate,Nat.min_comm (n-k) k,show n-k-min k (n-k)=n-(k+min k (n-k)) by omega]
/-- a round of Verify: what it found so far -/
structure RVV (c:List Ins) (x:LX):Prop where
  kr:x.k+x.r=c.length
  len:x.D.length=c.length
  lo:∀d∈x.D,-1<=d/\d<=x.k
  run:fromF c.length (c.drop x.k) x.k x.D x.m=fromF c.length c 0 (deps c) 0
/-- the loop over what can follow -/
structure RNV (c:List Ins) (x:LX) (after:Int) (ns:List Int) (y:LX):Prop where
  kr:y.k+y.r=ns.length
  len:y.D.length=c.length
  lo:∀d∈y.D,-1<=d/\d<=x.k+1
  run:setF c.length x.k after (ns.drop y.k) y.D=setF c.length x.k after ns x.D
theorem Zux (op:Int):0<=(eff op).1/\(eff op).1<=2/\0<=(eff op).2/\(eff op).2<=1:=by
  unfold eff
  repeat' split
  all_goals simp
theorem Vd {D:List Int} {j:Nat} {a lo hi:Int} (h:∀d∈D,lo<=d/\d<=hi) (h2:lo<=a/\a<=hi):∀d∈D.set j a,lo<=d/\d<=hi:=by
  intro d hd
  rcases List.mem_or_eq_of_mem_set hd with h3|h3
  · exact h d h3
  · subst h3;exact h2
theorem Zch (c:List Ins):PureC E 14 [.psl .ins c false] (.tup [.int false .i64 (verF c).1,.int false .i64 (verF c).2]):=by
  refine Za E_ok (Ze E_ok Z2w 400) ?_
  rw [Zju]
  have s1:4096<c.length->verF c=(0,2):=fun h=>by unfold verF;rw [if_pos h]
  have s2:c.length=0->verF c=(0,200):=fun h=>by unfold verF;rw [if_neg (by omega),if_pos (.inl h)]
  have s3:c.length<=4096->c.all formedF=false->verF c=(0,200):=fun h h2=>by unfold verF;rw [if_neg (by omega),if_pos (.inr h2)]
  have s4:c.length<=4096->c.length≠0->c.all formedF=true->verF c=endF (fromF c.length c 0 (deps c) 0):=fun h h2 h3=>by unfold verF;rw [if_neg (by omega),if_neg (by simp [h2,h3])]
  generalize verF c=V at*
  simp only [Zz,Zt,Y9,Xa,Xb,beq_iff_eq,bne_iff_ne,beq_eq_false_iff_ne,bne_eq_false_iff_eq,decide_eq_true_eq,decide_eq_false_iff_not,Bool.or_eq_true,Bool.or_eq_false_iff,Bool.not_eq_true',Bool.not_eq_false',Bool.and_eq_true,Bool.and_true,Bool.true_and,Bool.and_eq_false_iff,beq_self_eq_true,Z3,Z4,ne_eq,and_true,true_and,Bool.true_eq_false,Bool.false_eq_true,false_or,or_false,true_implies,Int.ofNat_eq_natCast,not_true_eq_false,not_false_eq_true,Decidable.not_not,gt_iff_lt,ge_iff_le]
  refine ⟨fun h=> ?_,fun h=>⟨fun h2=> ?_,fun h2=>⟨by omega,fun h3=> ?_,fun h3=>⟨fun h4=>by omega,fun h4=> ?_⟩⟩⟩⟩
  · rw [s1 (by omega)];simp
  · rw [s2 (by omega)];simp
  · rw [s3 (by omega) (by simpa using h3)];simp
  have hn:c.length<=4096:=by omega
  rw [s4 hn (by omega) h3]
  clear s1 s2 s3 s4 V h4 h
  have eU:wr .u64 (c.length:Int)=c.length:=Zuv (by omega) (by omega)
  have eI:wr .i64 (c.length:Int)=c.length:=wr64 (by omega) (by omega)
  simp only [eU,eI,Int.toNat_natCast,Nat.zero_add,Int.toNat_zero]
  refine ⟨by omega,?_⟩
  refine ⟨fun b=>b=false,⟨fun h=>by omega,fun _=>⟨fun h=>by omega,fun _=>rfl⟩⟩,fun h=>by simp at h,fun _=> ?_⟩
  refine ⟨by omega,Int.le_refl _,by omega,by simp,?_⟩
  refine ⟨fun x=>1<=x.k/\x.k+x.r=c.length/\x.D=List.replicate x.k (-1)++List.replicate (c.length-x.k) 0,⟨⟨1,c.length-1,List.replicate 1 (-1)++List.replicate (c.length-1) 0,0⟩,⟨Nat.le_refl _,by show 1+(c.length-1)=_;omega,rfl⟩,?_⟩,fun x hx=> ?_⟩
  · have e:min ([-1]:List Int).length c.length=1:=by simp;omega
    rw [e]
    refine ⟨by simp,?_⟩
    have e2:List.take c.length [(-1:Int)]= [-1]:=List.take_of_length_le (by simp;omega)
    rw [e2]
    simp
  obtain ⟨hk1,hkr,hD⟩:=hx
  have hDl:x.D.length=c.length:=by rw [hD];simp;omega
  refine ⟨fun hlt=>⟨by omega,fun _=>⟨by omega,by omega,by omega,?_⟩,fun h=>absurd hlt h⟩,fun hge=> ?_⟩
  · have e:=Zuw hk1 (by omega:x.k<c.length) hD
    have e3:(List.take x.k x.D).length=x.k:=by rw [List.length_take];omega
    rw [e3] at e⊢
    refine ⟨⟨x.k+min x.k (c.length-x.k),c.length-(x.k+min x.k (c.length-x.k)),_,0⟩,⟨by show 1<=x.k+_;omega,by show x.k+min x.k (c.length-x.k)+(c.length-(x.k+min x.k (c.length-x.k)))=_;omega,rfl⟩,by show c.length-(x.k+min x.k (c.length-x.k))+1<=x.r;omega,?_,e⟩
    rw [wr64 (by omega) (by omega)]
    show _=((x.k+min x.k (c.length-x.k):Nat):Int)
    omega
  have hkn:x.k=c.length:=by omega
  have hD:x.D=List.replicate c.length (-1):=by rw [hD,hkn,Nat.sub_self];simp
  clear hk1 hkr hge
  refine ⟨by omega,by omega,by omega,fun z hz=> ?_⟩
  rw [hD] at hDl⊢
  clear hz hD hkn
  refine ⟨RVV c,⟨⟨0,c.length,deps c,0⟩,⟨by show 0+c.length=_;omega,by simp [deps],?_,by simp⟩,by simp [deps]⟩,fun x hR=> ?_⟩
  · intro d hd
    rcases List.mem_or_eq_of_mem_set hd with h|h
    · rw [List.mem_replicate] at h;show-1<=d/\d<=0;omega
    · show-1<=d/\d<=0;omega
  have hlen:=hR.len
  refine ⟨fun hlt=>⟨by omega,by omega,fun x2 hx2=>⟨by omega,by omega,fun x3 hx3=> ?_⟩⟩,fun hge=> ?_⟩
  · have hb:=hR.lo x3 (List.mem_of_getElem? hx3)
    have he:=Zux x2.op
    have hkr:=hR.kr
    have hget:x.D.getD x.k 0=x3:=by simp [List.getD_eq_getElem?_getD,hx3]
    have hdrop:c.drop x.k=x2::c.drop (x.k+1):=by
      obtain ⟨h1,rfl⟩:=List.getElem?_eq_some_iff.1 hx2
      exact List.drop_eq_getElem_cons h1
    have hrun:=hR.run
    rw [hdrop] at hrun
    simp only [fromF] at hrun
    have hfo:formedF x2=true:=List.all_eq_true.1 h3 x2 (List.mem_of_getElem? hx2)
    have eK:wr .i64 ((x.k:Int)+1)=x.k+1:=wr64 (by omega) (by omega)
    have eA:wr .i64 (wr .i64 (x3-(eff x2.op).1)+(eff x2.op).2)=x3-(eff x2.op).1+(eff x2.op).2:=by
      have e0:wr .i64 (x3-(eff x2.op).1)=x3-(eff x2.op).1:=wr64 (by omega) (by omega)
      rw [e0];exact wr64 (by omega) (by omega)
    simp only [eK,eA,Z3]
    refine ⟨fun hneg=> ?_,fun hneg=> ?_⟩
    · have hsome:rndF c.length x.k x2 x.D x.m=some (x.D,x.m):=by unfold rndF;rw [hget,if_pos hneg]
      rw [hsome] at hrun
      exact ⟨⟨x.k+1,x.r-1,x.D,x.m⟩,⟨by show x.k+1+(x.r-1)=_;omega,hlen,fun d hd=>by have:=hR.lo d hd;show-1<=d/\d<=((x.k+1:Nat):Int);omega,hrun⟩,by show x.r-1+1<=x.r;omega,by simp⟩
    refine ⟨fun b=>(b=true↔(x3<(eff x2.op).1\/(x2.op=15/\x3≠1)\/(x2.op=16/\x3≠0))),?_,fun hQ=> ?_,fun hQ=> ?_⟩
    · repeat' (first|(refine And.intro ?_ ?_)|(intro h))
      all_goals simp
      all_goals omega
    · have hQ:=hQ.1 rfl
      have hnone:rndF c.length x.k x2 x.D x.m=none:=by unfold rndF;rw [hget,if_neg hneg,if_pos hQ]
      rw [hnone] at hrun
      rw [<-hrun]
      simp [endF]
    · have hbad:¬(x3<(eff x2.op).1\/(x2.op=15/\x3≠1)\/(x2.op=16/\x3≠0)):=fun h=>absurd (hQ.2 h) (by simp)
      clear hQ
      refine ⟨fun b=>(b=true↔(x2.op=13\/x2.op=14)),?_,fun hQ=> ?_,fun hQ=> ?_⟩
      · repeat' (first|(refine And.intro ?_ ?_)|(intro h))
        all_goals simp
        all_goals omega
      · have hQ:=hQ.1 rfl
        refine ⟨fun b=>(b=true↔(x2.op≠14/\x2.op≠15/\x2.op≠16)),?_,fun hQ2=> ?_,fun hQ2=> ?_⟩
        · repeat' (first|(refine And.intro ?_ ?_)|(intro h))
          all_goals simp
          all_goals omega
        · have hQ2:=hQ2.1 rfl
          have hnx:nextF x.k x2= [x2.n,(x.k:Int)+1]:=by unfold nextF;rw [if_neg (by omega),if_neg (by omega),if_pos (by omega)]
          simp only [List.length_cons,List.length_nil,Nat.zero_add,List.take_succ_cons,List.take_zero,List.cons_append,List.nil_append]
          refine ⟨by omega,?_⟩
          refine ⟨RNV c x (x3-(eff x2.op).1+(eff x2.op).2) [x2.n,(x.k:Int)+1],⟨⟨0,2,x.D,0⟩,⟨rfl,hR.len,fun d hd=>⟨(hR.lo d hd).1,by have:=(hR.lo d hd).2;omega⟩,rfl⟩,by simp⟩,fun y hy=>⟨fun hlt=> ?_,fun hge=> ?_⟩⟩
          · have hyk:y.k<([x2.n,(x.k:Int)+1]).length:=by simp only [List.length_cons,List.length_nil];omega
            refine ⟨by omega,by first|omega|(simp only [List.length_cons,List.length_nil];omega),fun n hy5=> ?_⟩
            have hns:([x2.n,(x.k:Int)+1]).drop y.k=n::([x2.n,(x.k:Int)+1]).drop (y.k+1):=by
              obtain ⟨h1,rfl⟩:=List.getElem?_eq_some_iff.1 hy5
              exact List.drop_eq_getElem_cons h1
            have hset:=hy.run
            rw [hns] at hset
            generalize hS:setF c.length x.k (x3-(eff x2.op).1+(eff x2.op).2) [x2.n,(x.k:Int)+1] x.D=SF at hset
            simp only [setF] at hset
            refine ⟨fun b=>(b=true↔(n<=x.k\/(c.length:Int)<=n\/(0<=y.D.getD n.toNat 0/\y.D.getD n.toNat 0≠x3-(eff x2.op).1+(eff x2.op).2))),?_,fun hQ=> ?_,fun hQ=> ?_⟩
            · refine ⟨fun h=>by simp [h],fun h=>⟨fun h'=>by simp [h'],fun h'=>⟨by omega,by rw [hy.len];omega,fun z hz=> ?_⟩⟩⟩
              have hg:y.D.getD n.toNat 0=z:=by simp [List.getD_eq_getElem?_getD,hz]
              rw [hg]
              refine ⟨fun h0=>⟨by omega,by rw [hy.len];omega,fun z2 hz2=> ?_⟩,fun h0=>by simp;omega⟩
              rw [hz] at hz2;cases hz2
              exact ⟨fun h1=>by simp;omega,fun h1=>by simp;omega⟩
            · have hQ:=hQ.1 rfl
              rw [if_pos hQ] at hset
              have hnone:rndF c.length x.k x2 x.D x.m=none:=by
                unfold rndF
                rw [hget,if_neg hneg,if_neg hbad,hnx,hS,<-hset]
              rw [hnone] at hrun
              rw [<-hrun]
              simp [endF]
            · have hQ:¬(n<=x.k\/(c.length:Int)<=n\/(0<=y.D.getD n.toNat 0/\y.D.getD n.toNat 0≠x3-(eff x2.op).1+(eff x2.op).2)):=fun h=>by simp at hQ;exact absurd h (by simpa using hQ)
              rw [if_neg hQ] at hset
              refine ⟨by omega,Nat.zero_le _,by rw [hy.len];omega,fun z hz=> ?_⟩
              refine ⟨⟨y.k+1,y.r-1,y.D.set n.toNat (x3-(eff x2.op).1+(eff x2.op).2),0⟩,⟨by have:=hy.kr;show y.k+1+(y.r-1)=_;omega,by simp [hy.len],Vd hy.lo (by omega),hset.trans hS.symm⟩,by have:=hy.kr;show y.r-1+1<=y.r;omega,?_⟩
              rw [wr64 (by omega) (by omega)]
              simp
          · have hyk:([x2.n,(x.k:Int)+1]).drop y.k= []:=List.drop_eq_nil_of_le (by simp only [List.length_cons,List.length_nil];omega)
            have hset:=hy.run
            rw [hyk] at hset
            generalize hS:setF c.length x.k (x3-(eff x2.op).1+(eff x2.op).2) [x2.n,(x.k:Int)+1] x.D=SF at hset
            simp only [setF] at hset
            have hsome:rndF c.length x.k x2 x.D x.m=some (y.D,max (max x.m x3) (x3-(eff x2.op).1+(eff x2.op).2)):=by
              unfold rndF
              rw [hget,if_neg hneg,if_neg hbad,hnx,hS,<-hset]
            rw [hsome] at hrun
            refine ⟨⟨x.k+1,x.r-1,y.D,_⟩,⟨by have:=hR.kr;show x.k+1+(x.r-1)=_;omega,hy.len,fun d hd=>by have:=hy.lo d hd;show-1<=d/\d<=((x.k+1:Nat):Int);omega,hrun⟩,by have:=hR.kr;show x.r-1+1<=x.r;omega,?_⟩
            simp
        · have hQ2:¬(x2.op≠14/\x2.op≠15/\x2.op≠16):=fun h=>absurd (hQ2.2 h) (by simp)
          have hnx:nextF x.k x2= [x2.n]:=by unfold nextF;rw [if_neg (by omega),if_pos (by omega)]
          simp only [List.length_cons,List.length_nil,Nat.zero_add]
          refine ⟨RNV c x (x3-(eff x2.op).1+(eff x2.op).2) [x2.n],⟨⟨0,1,x.D,0⟩,⟨rfl,hR.len,fun d hd=>⟨(hR.lo d hd).1,by have:=(hR.lo d hd).2;omega⟩,rfl⟩,by simp⟩,fun y hy=>⟨fun hlt=> ?_,fun hge=> ?_⟩⟩
          · have hyk:y.k<([x2.n]).length:=by simp only [List.length_cons,List.length_nil];omega
            refine ⟨by omega,by first|omega|(simp only [List.length_cons,List.length_nil];omega),fun n hy5=> ?_⟩
            have hns:([x2.n]).drop y.k=n::([x2.n]).drop (y.k+1):=by
              obtain ⟨h1,rfl⟩:=List.getElem?_eq_some_iff.1 hy5
              exact List.drop_eq_getElem_cons h1
            have hset:=hy.run
            rw [hns] at hset
            generalize hS:setF c.length x.k (x3-(eff x2.op).1+(eff x2.op).2) [x2.n] x.D=SF at hset
            simp only [setF] at hset
            refine ⟨fun b=>(b=true↔(n<=x.k\/(c.length:Int)<=n\/(0<=y.D.getD n.toNat 0/\y.D.getD n.toNat 0≠x3-(eff x2.op).1+(eff x2.op).2))),?_,fun hQ=> ?_,fun hQ=> ?_⟩
            · refine ⟨fun h=>by simp [h],fun h=>⟨fun h'=>by simp [h'],fun h'=>⟨by omega,by rw [hy.len];omega,fun z hz=> ?_⟩⟩⟩
              have hg:y.D.getD n.toNat 0=z:=by simp [List.getD_eq_getElem?_getD,hz]
              rw [hg]
              refine ⟨fun h0=>⟨by omega,by rw [hy.len];omega,fun z2 hz2=> ?_⟩,fun h0=>by simp;omega⟩
              rw [hz] at hz2;cases hz2
              exact ⟨fun h1=>by simp;omega,fun h1=>by simp;omega⟩
            · have hQ:=hQ.1 rfl
              rw [if_pos hQ] at hset
              have hnone:rndF c.length x.k x2 x.D x.m=none:=by
                unfold rndF
                rw [hget,if_neg hneg,if_neg hbad,hnx,hS,<-hset]
              rw [hnone] at hrun
              rw [<-hrun]
              simp [endF]
            · have hQ:¬(n<=x.k\/(c.length:Int)<=n\/(0<=y.D.getD n.toNat 0/\y.D.getD n.toNat 0≠x3-(eff x2.op).1+(eff x2.op).2)):=fun h=>by simp at hQ;exact absurd h (by simpa using hQ)
              rw [if_neg hQ] at hset
              refine ⟨by omega,Nat.zero_le _,by rw [hy.len];omega,fun z hz=> ?_⟩
              refine ⟨⟨y.k+1,y.r-1,y.D.set n.toNat (x3-(eff x2.op).1+(eff x2.op).2),0⟩,⟨by have:=hy.kr;show y.k+1+(y.r-1)=_;omega,by simp [hy.len],Vd hy.lo (by omega),hset.trans hS.symm⟩,by have:=hy.kr;show y.r-1+1<=y.r;omega,?_⟩
              rw [wr64 (by omega) (by omega)]
              simp
          · have hyk:([x2.n]).drop y.k= []:=List.drop_eq_nil_of_le (by simp only [List.length_cons,List.length_nil];omega)
            have hset:=hy.run
            rw [hyk] at hset
            generalize hS:setF c.length x.k (x3-(eff x2.op).1+(eff x2.op).2) [x2.n] x.D=SF at hset
            simp only [setF] at hset
            have hsome:rndF c.length x.k x2 x.D x.m=some (y.D,max (max x.m x3) (x3-(eff x2.op).1+(eff x2.op).2)):=by
              unfold rndF
              rw [hget,if_neg hneg,if_neg hbad,hnx,hS,<-hset]
            rw [hsome] at hrun
            refine ⟨⟨x.k+1,x.r-1,y.D,_⟩,⟨by have:=hR.kr;show x.k+1+(x.r-1)=_;omega,hy.len,fun d hd=>by have:=hy.lo d hd;show-1<=d/\d<=((x.k+1:Nat):Int);omega,hrun⟩,by have:=hR.kr;show x.r-1+1<=x.r;omega,?_⟩
            simp
      · have hQ:¬(x2.op=13\/x2.op=14):=fun h=>absurd (hQ.2 h) (by simp)
        refine ⟨fun b=>(b=true↔(x2.op≠14/\x2.op≠15/\x2.op≠16)),?_,fun hQ2=> ?_,fun hQ2=> ?_⟩
        · repeat' (first|(refine And.intro ?_ ?_)|(intro h))
          all_goals simp
          all_goals omega
        · have hQ2:=hQ2.1 rfl
          have hnx:nextF x.k x2= [(x.k:Int)+1]:=by unfold nextF;rw [if_neg (by omega),if_neg (by omega),if_neg (by omega)]
          simp only [List.length_cons,List.length_nil,Nat.zero_add]
          refine ⟨RNV c x (x3-(eff x2.op).1+(eff x2.op).2) [(x.k:Int)+1],⟨⟨0,1,x.D,0⟩,⟨rfl,hR.len,fun d hd=>⟨(hR.lo d hd).1,by have:=(hR.lo d hd).2;omega⟩,rfl⟩,by simp⟩,fun y hy=>⟨fun hlt=> ?_,fun hge=> ?_⟩⟩
          · have hyk:y.k<([(x.k:Int)+1]).length:=by simp only [List.length_cons,List.length_nil];omega
            refine ⟨by omega,by first|omega|(simp only [List.length_cons,List.length_nil];omega),fun n hy5=> ?_⟩
            have hns:([(x.k:Int)+1]).drop y.k=n::([(x.k:Int)+1]).drop (y.k+1):=by
              obtain ⟨h1,rfl⟩:=List.getElem?_eq_some_iff.1 hy5
              exact List.drop_eq_getElem_cons h1
            have hset:=hy.run
            rw [hns] at hset
            generalize hS:setF c.length x.k (x3-(eff x2.op).1+(eff x2.op).2) [(x.k:Int)+1] x.D=SF at hset
            simp only [setF] at hset
            refine ⟨fun b=>(b=true↔(n<=x.k\/(c.length:Int)<=n\/(0<=y.D.getD n.toNat 0/\y.D.getD n.toNat 0≠x3-(eff x2.op).1+(eff x2.op).2))),?_,fun hQ=> ?_,fun hQ=> ?_⟩
            · refine ⟨fun h=>by simp [h],fun h=>⟨fun h'=>by simp [h'],fun h'=>⟨by omega,by rw [hy.len];omega,fun z hz=> ?_⟩⟩⟩
              have hg:y.D.getD n.toNat 0=z:=by simp [List.getD_eq_getElem?_getD,hz]
              rw [hg]
              refine ⟨fun h0=>⟨by omega,by rw [hy.len];omega,fun z2 hz2=> ?_⟩,fun h0=>by simp;omega⟩
              rw [hz] at hz2;cases hz2
              exact ⟨fun h1=>by simp;omega,fun h1=>by simp;omega⟩
            · have hQ:=hQ.1 rfl
              rw [if_pos hQ] at hset
              have hnone:rndF c.length x.k x2 x.D x.m=none:=by
                unfold rndF
                rw [hget,if_neg hneg,if_neg hbad,hnx,hS,<-hset]
              rw [hnone] at hrun
              rw [<-hrun]
              simp [endF]
            · have hQ:¬(n<=x.k\/(c.length:Int)<=n\/(0<=y.D.getD n.toNat 0/\y.D.getD n.toNat 0≠x3-(eff x2.op).1+(eff x2.op).2)):=fun h=>by simp at hQ;exact absurd h (by simpa using hQ)
              rw [if_neg hQ] at hset
              refine ⟨by omega,Nat.zero_le _,by rw [hy.len];omega,fun z hz=> ?_⟩
              refine ⟨⟨y.k+1,y.r-1,y.D.set n.toNat (x3-(eff x2.op).1+(eff x2.op).2),0⟩,⟨by have:=hy.kr;show y.k+1+(y.r-1)=_;omega,by simp [hy.len],Vd hy.lo (by omega),hset.trans hS.symm⟩,by have:=hy.kr;show y.r-1+1<=y.r;omega,?_⟩
              rw [wr64 (by omega) (by omega)]
              simp
          · have hyk:([(x.k:Int)+1]).drop y.k= []:=List.drop_eq_nil_of_le (by simp only [List.length_cons,List.length_nil];omega)
            have hset:=hy.run
            rw [hyk] at hset
            generalize hS:setF c.length x.k (x3-(eff x2.op).1+(eff x2.op).2) [(x.k:Int)+1] x.D=SF at hset
            simp only [setF] at hset
            have hsome:rndF c.length x.k x2 x.D x.m=some (y.D,max (max x.m x3) (x3-(eff x2.op).1+(eff x2.op).2)):=by
              unfold rndF
              rw [hget,if_neg hneg,if_neg hbad,hnx,hS,<-hset]
            rw [hsome] at hrun
            refine ⟨⟨x.k+1,x.r-1,y.D,_⟩,⟨by have:=hR.kr;show x.k+1+(x.r-1)=_;omega,hy.len,fun d hd=>by have:=hy.lo d hd;show-1<=d/\d<=((x.k+1:Nat):Int);omega,hrun⟩,by have:=hR.kr;show x.r-1+1<=x.r;omega,?_⟩
            simp
        · have hQ2:¬(x2.op≠14/\x2.op≠15/\x2.op≠16):=fun h=>absurd (hQ2.2 h) (by simp)
          have hnx:nextF x.k x2= []:=by unfold nextF;rw [if_pos (by omega)]
          have hsome:rndF c.length x.k x2 x.D x.m=some (x.D,max (max x.m x3) (x3-(eff x2.op).1+(eff x2.op).2)):=by
            unfold rndF
            rw [hget,if_neg hneg,if_neg hbad,hnx]
            rfl
          rw [hsome] at hrun
          refine ⟨fun y=>y.D=x.D,⟨⟨0,0,x.D,0⟩,rfl,by simp⟩,fun y hy=>⟨fun h=>by omega,fun _=> ?_⟩⟩
          refine ⟨⟨x.k+1,x.r-1,x.D,_⟩,⟨by show x.k+1+(x.r-1)=_;omega,hlen,fun d hd=>by have:=hR.lo d hd;show-1<=d/\d<=((x.k+1:Nat):Int);omega,hrun⟩,by show x.r-1+1<=x.r;omega,?_⟩
          simp [hy]
  · have hrun:=hR.run
    rw [List.drop_eq_nil_of_le (by omega)] at hrun
    simp only [fromF] at hrun
    rw [<-hrun]
    refine ⟨fun h=> ?_,fun h=> ?_⟩
    · simp [endF,h]
    · simp [endF,h]
/-- the first loop of the specification's Verify -/
def Z8k:Fr thy->Hp thy->Nat->Ann thy:=fun T h i=>{X:=LX,fr:=fun x=> [(0,T 0),(4,T 4),(5,.int false .i64 x.k)],bl:=fun x=> [(bOf (T 4),.rows .ints x.D 0)],src:=fun _=> [],md:= [bOf (T 4)],ih:=i,M:=i+30,meas:=fun x=>x.r}
/-- its second loop -/
def Z8l:Fr thy->Hp thy->Nat->Ann thy:=fun T h i=>{X:=LX,fr:=fun x=> [(0,T 0),(4,T 4),(6,.int false .i64 x.m),(7,.int false .i64 x.k)],bl:=fun x=> [(bOf (T 4),.rows .ints x.D 0)],src:=fun _=> [],md:= [bOf (T 4)],ih:=i,M:=i+30,meas:=fun x=>x.r}
/-- the loop over what can follow -/
def Z8m:Fr thy->Hp thy->Nat->Ann thy:=fun T h i=>{X:=LX,fr:=fun x=> [(0,T 0),(4,T 4),(6,T 6),(7,T 7),(11,T 11),(12,T 12),(13,.int false .i64 x.k)],bl:=fun x=> [(bOf (T 4),.rows .ints x.D 0)],src:=fun _=> [],md:= [bOf (T 4)],ih:=i,M:=i+20,meas:=fun x=>x.r}
noncomputable def F8V:Fns thy:=addL (addL (addL F4V 27 7 Z8k E) 27 15 Z8l E) 27 26 Z8m E
theorem Z6x:FnsOk E F8V:=Zl E_ok (Zl E_ok (Zl E_ok Z2w _ _ _) _ _ _) _ _ _
--@cond rverifyV | 27 | F8V | 400 | (c : List Ins) | [.psl .ins c false] | (p q : Int) | .tup [.int false .i64 p, .int false .i64 q]
theorem Zha (c:List Ins) (p q:Int):Zf E F8V (vc E F8V 400) 27 [.psl .ins c false] hp0 0 (fun r=>ret E (patch hp0 0 r) r.v (.tup [.int false .i64 p,.int false .i64 q]))=(
  (decide ((↑(List.length c):Int)>(4096:Int))=true->(0:Int)=p/\(2:Int)=q/\True)/\(decide ((↑(List.length c):Int)>(4096:Int))=false->(((↑(List.length c):
  Int)==(0:Int))=true->(0:Int)=p/\(200:Int)=q/\True)/\(((↑(List.length c):Int)==(0:Int))=false->(0:Int)<=(↑(List.length c):Int)/\(↑(List.length c):
  Int)<=(↑(List.length c):Int)/\(↑(8:Nat):Int)*(↑(List.length c):Int)<=(281474976710656:Int)/\∃(R:LX->Prop),(∃(x:LX),R x/\true=true/\((c=c/\(false=
  true->false=true))/\((0:Nat)=(0:Nat)/\Int.toNat (↑(List.length c):Int)=Int.toNat (↑(List.length c):Int)/\Int.toNat (↑(List.length c):Int)=Int.toNat
  (↑(List.length c):Int))/\(0:Int)=(↑(LX.k x):Int)/\True)/\(List.replicate (Int.toNat (↑(List.length c):Int)) (0:Int)=LX.D x/\(0:Nat)=(0:Nat))/\True)/\∀(x
  :LX),R x->(decide ((↑(LX.k x):Int)<(↑(List.length c):Int))=true->(0:Int)<=(↑(LX.k x):Int)/\(↑(LX.k x):Int)+(1:Int)<=(↑(List.length c):Int)/\∀(x_1:
  Ins),c[Int.toNat (↑(LX.k x):Int)]? =some x_1->True/\((!formedF x_1)=true->(0:Int)=p/\(200:Int)=q/\True)/\((!formedF x_1)=false->((0:Int)<=(↑(LX.k x):
  Int)/\(↑(LX.k x):Int)+(1:Int)<=(↑(Int.toNat (↑(List.length c):Int)):Int))/\(0:Nat)<=(0:Nat)+Int.toNat (↑(LX.k x):Int)/\(0:Nat)+Int.toNat (↑(LX.k x):
  Int)+(1:Nat)<=List.length (LX.D x)/\∀(x_2:Int),(LX.D x)[(0:Nat)+Int.toNat (↑(LX.k x):Int)]? =some x_2->∃(x':LX),R x'/\x'.2+(1:Nat)<=x.2/\true=true/\
  ((c=c/\(false=true->false=true))/\((0:Nat)=(0:Nat)/\Int.toNat (↑(List.length c):Int)=Int.toNat (↑(List.length c):Int)/\Int.toNat (↑(List.length c):Int)=
  Int.toNat (↑(List.length c):Int))/\wr IntKind.i64 ((↑(LX.k x):Int)+(1:Int))=(↑(LX.k x'):Int)/\True)/\(List.set (LX.D x) ((0:Nat)+Int.toNat (↑(LX.k x):Int)) (-1
  :Int)=LX.D x'/\(0:Nat)=(0:Nat))/\True))/\(decide ((↑(LX.k x):Int)<(↑(List.length c):Int))=false->((0:Int)<=(0:Int)/\(0:Int)+(1:Int)<=(↑(Int.toNat
  (↑(List.length c):Int)):Int))/\(0:Nat)<=(0:Nat)+Int.toNat (0:Int)/\(0:Nat)+Int.toNat (0:Int)+(1:Nat)<=List.length (LX.D x)/\∀(x_1:Int),(LX.D x)[(0:
  Nat)+Int.toNat (0:Int)]? =some x_1->∃(R:LX->Prop),(∃(x_2:LX),R x_2/\true=true/\((c=c/\(false=true->false=true))/\((0:Nat)=(0:Nat)/\Int.toNat
  (↑(List.length c):Int)=Int.toNat (↑(List.length c):Int)/\Int.toNat (↑(List.length c):Int)=Int.toNat (↑(List.length c):Int))/\(0:Int)=LX.m x_2/\(0:Int)=
  (↑(LX.k x_2):Int)/\True)/\(List.set (LX.D x) ((0:Nat)+Int.toNat (0:Int)) (0:Int)=LX.D x_2/\(0:Nat)=(0:Nat))/\True)/\∀(x:LX),R x->(decide ((↑(LX.k x):
  Int)<(↑(List.length c):Int))=true->((0:Int)<=(↑(LX.k x):Int)/\(↑(LX.k x):Int)+(1:Int)<=(↑(Int.toNat (↑(List.length c):Int)):Int))/\(0:Nat)+Int.toNat
  (↑(LX.k x):Int)+(1:Nat)<=List.length (LX.D x)/\∀(x_2:Int),(LX.D x)[(0:Nat)+Int.toNat (↑(LX.k x):Int)]? =some x_2->(decide (x_2<(0:Int))=true->∃(x':
  LX),R x'/\x'.2+(1:Nat)<=x.2/\true=true/\((c=c/\(false=true->false=true))/\((0:Nat)=(0:Nat)/\Int.toNat (↑(List.length c):Int)=Int.toNat (↑(List.length
  c):Int)/\Int.toNat (↑(List.length c):Int)=Int.toNat (↑(List.length c):Int))/\LX.m x=LX.m x'/\wr IntKind.i64 ((↑(LX.k x):Int)+(1:Int))=(↑(LX.k x'):Int)/\
  True)/\(LX.D x=LX.D x'/\(0:Nat)=(0:Nat))/\True)/\(decide (x_2<(0:Int))=false->(0:Int)<=(↑(LX.k x):Int)/\(↑(LX.k x):Int)+(1:Int)<=(↑(List.length c):
  Int)/\∀(x_3:Ins),c[Int.toNat (↑(LX.k x):Int)]? =some x_3->True/\∃(Q:Bool->Prop),((decide (x_2<Prod.fst (eff (Ins.op x_3)))=true->Q true)/\(decide (x_2<
  Prod.fst (eff (Ins.op x_3)))=false->(0:Int)<=(↑(LX.k x):Int)/\(↑(LX.k x):Int)+(1:Int)<=(↑(List.length c):Int)/\∀(x_4:Ins),c[Int.toNat (↑(LX.k x):Int)]? =
  some x_4->((Ins.op x_4==(15:Int))=true->((x_2 !=(1:Int))=true->Q true)/\((x_2 !=(1:Int))=false->(0:Int)<=(↑(LX.k x):Int)/\(↑(LX.k x):Int)+(1:Int)<=
  (↑(List.length c):Int)/\∀(x_5:Ins),c[Int.toNat (↑(LX.k x):Int)]? =some x_5->((Ins.op x_5==(16:Int))=true->((x_2 !=(0:Int))=true->Q true)/\((x_2 !=(0:
  Int))=false->Q false))/\((Ins.op x_5==(16:Int))=false->Q false)))/\((Ins.op x_4==(15:Int))=false->(0:Int)<=(↑(LX.k x):Int)/\(↑(LX.k x):Int)+(1:Int)<=
  (↑(List.length c):Int)/\∀(x_5:Ins),c[Int.toNat (↑(LX.k x):Int)]? =some x_5->((Ins.op x_5==(16:Int))=true->((x_2 !=(0:Int))=true->Q true)/\((x_2 !=(0:
  Int))=false->Q false))/\((Ins.op x_5==(16:Int))=false->Q false))))/\(Q true->(0:Int)=p/\(200:Int)=q/\True)/\(Q false->((0:Int)<=(↑(LX.k x):Int)/\
  (↑(LX.k x):Int)+(1:Int)<=(↑(List.length c):Int)/\List.length c<=(4096:Nat))/\∃(R_1:LX->Prop),(∃(x_4:LX),R_1 x_4/\true=true/\((c=c/\(false=true->
  false=true))/\((0:Nat)=(0:Nat)/\Int.toNat (↑(List.length c):Int)=Int.toNat (↑(List.length c):Int)/\Int.toNat (↑(List.length c):Int)=Int.toNat (↑(List.length c)
  :Int))/\mm2 true (mm2 true (LX.m x) x_2) (wr IntKind.i64 (wr IntKind.i64 (x_2-Prod.fst (eff (Ins.op x_3)))+Prod.snd (eff (Ins.op x_3))))=mm2 true (mm2 true (LX.m x) x_2)
  (wr IntKind.i64 (wr IntKind.i64 (x_2-Prod.fst (eff (Ins.op x_3)))+Prod.snd (eff (Ins.op x_3))))/\(↑(LX.k x):Int)=(↑(LX.k x):Int)/\wr IntKind.i64 (wr IntKind.i64 (x_2-
  Prod.fst (eff (Ins.op x_3)))+Prod.snd (eff (Ins.op x_3)))=wr IntKind.i64 (wr IntKind.i64 (x_2-Prod.fst (eff (Ins.op x_3)))+Prod.snd (eff (Ins.op x_3)))/\(Vq c (↑(LX.k
  x):Int)=Vq c (↑(LX.k x):Int)/\(false=true->false=true))/\(0:Int)=(↑(LX.k x_4):Int)/\True)/\(LX.D x=LX.D x_4/\(0:Nat)=(0:Nat))/\True)/\∀(x_4:
  LX),R_1 x_4->(decide ((↑(LX.k x_4):Int)<(↑(List.length (Vq c (↑(LX.k x):Int))):Int))=true->(0:Int)<=(↑(LX.k x_4):Int)/\(↑(LX.k x_4):Int)+(1:Int)<=
  (↑(List.length (Vq c (↑(LX.k x):Int))):Int)/\∀(x_5:Int),(Vq c (↑(LX.k x):Int))[Int.toNat (↑(LX.k x_4):Int)]? =some x_5->∃(Q:Bool->Prop),((decide (x_5<=
  (↑(LX.k x):Int))=true->Q true)/\(decide (x_5<=(↑(LX.k x):Int))=false->(decide (x_5>=(↑(List.length c):Int))=true->Q true)/\(decide (x_5>=(↑(List.length c):
  Int))=false->((0:Int)<=x_5/\x_5+(1:Int)<=(↑(Int.toNat (↑(List.length c):Int)):Int))/\(0:Nat)+Int.toNat x_5+(1:Nat)<=List.length (LX.D x_4)/\∀(x:Int),
  (LX.D x_4)[(0:Nat)+Int.toNat x_5]? =some x->(decide (x>=(0:Int))=true->((0:Int)<=x_5/\x_5+(1:Int)<=(↑(Int.toNat (↑(List.length c):Int)):Int))/\(0:Nat)+
  Int.toNat x_5+(1:Nat)<=List.length (LX.D x_4)/\∀(x:Int),(LX.D x_4)[(0:Nat)+Int.toNat x_5]? =some x->((x !=wr IntKind.i64 (wr IntKind.i64 (x_2-Prod.fst (eff
  (Ins.op x_3)))+Prod.snd (eff (Ins.op x_3))))=true->Q true)/\((x !=wr IntKind.i64 (wr IntKind.i64 (x_2-Prod.fst (eff (Ins.op x_3)))+Prod.snd (eff (Ins.op x_3))))=false
  ->Q false))/\(decide (x>=(0:Int))=false->Q false))))/\(Q true->(0:Int)=p/\(200:Int)=q/\True)/\(Q false->((0:Int)<=x_5/\x_5+(1:Int)<=(↑(Int.toNat
  (↑(List.length c):Int)):Int))/\(0:Nat)<=(0:Nat)+Int.toNat x_5/\(0:Nat)+Int.toNat x_5+(1:Nat)<=List.length (LX.D x_4)/\∀(x_6:Int),(LX.D x_4)[(0:Nat)+
  Int.toNat x_5]? =some x_6->∃(x':LX),R_1 x'/\x'.2+(1:Nat)<=x_4.2/\true=true/\((c=c/\(false=true->false=true))/\((0:Nat)=(0:Nat)/\Int.toNat
  (↑(List.length c):Int)=Int.toNat (↑(List.length c):Int)/\Int.toNat (↑(List.length c):Int)=Int.toNat (↑(List.length c):Int))/\mm2 true (mm2 true (LX.m x) x_2) (wr
  IntKind.i64 (wr IntKind.i64 (x_2-Prod.fst (eff (Ins.op x_3)))+Prod.snd (eff (Ins.op x_3))))=mm2 true (mm2 true (LX.m x) x_2) (wr IntKind.i64 (wr IntKind.i64 (x_2-Prod.fst
  (eff (Ins.op x_3)))+Prod.snd (eff (Ins.op x_3))))/\(↑(LX.k x):Int)=(↑(LX.k x):Int)/\wr IntKind.i64 (wr IntKind.i64 (x_2-Prod.fst (eff (Ins.op x_3)))+Prod.snd (eff
  (Ins.op x_3)))=wr IntKind.i64 (wr IntKind.i64 (x_2-Prod.fst (eff (Ins.op x_3)))+Prod.snd (eff (Ins.op x_3)))/\(Vq c (↑(LX.k x):Int)=Vq c (↑(LX.k x):Int)/\(false
  =true->false=true))/\wr IntKind.i64 ((↑(LX.k x_4):Int)+(1:Int))=(↑(LX.k x'):Int)/\True)/\(List.set (LX.D x_4) ((0:Nat)+Int.toNat x_5) (wr IntKind.i64 (wr
  IntKind.i64 (x_2-Prod.fst (eff (Ins.op x_3)))+Prod.snd (eff (Ins.op x_3))))=LX.D x'/\(0:Nat)=(0:Nat))/\True))/\(decide ((↑(LX.k x_4):Int)<(↑(List.length (Vq c
  (↑(LX.k x):Int))):Int))=false->∃(x':LX),R x'/\x'.2+(1:Nat)<=x.2/\true=true/\((c=c/\(false=true->false=true))/\((0:Nat)=(0:Nat)/\Int.toNat
  (↑(List.length c):Int)=Int.toNat (↑(List.length c):Int)/\Int.toNat (↑(List.length c):Int)=Int.toNat (↑(List.length c):Int))/\mm2 true (mm2 true (LX.m x) x_2) (wr
  IntKind.i64 (wr IntKind.i64 (x_2-Prod.fst (eff (Ins.op x_3)))+Prod.snd (eff (Ins.op x_3))))=LX.m x'/\wr IntKind.i64 ((↑(LX.k x):Int)+(1:Int))=(↑(LX.k x'):Int)/\
  True)/\(LX.D x_4=LX.D x'/\(0:Nat)=(0:Nat))/\True))))/\(decide ((↑(LX.k x):Int)<(↑(List.length c):Int))=false->(decide (LX.m x>(64:Int))=true->(0:Int)
  =p/\(2:Int)=q/\True)/\(decide (LX.m x>(64:Int))=false->LX.m x=p/\(0:Int)=q/\True)))))
  ):=by kernel_rfl
--@end
theorem Zq4 {len i after:Int} {D:List Int} {x:Ins} (hi:0<=i) (ha:0<=after) (hD:(D.length:Int)=len):setF len i after (Zcf i x) D=setF len i after (nextF i x) D:=by
  unfold Zcf nextF
  split
  · rfl
  · split
    · rfl
    · split
      · exact Zxz ha hi hD
      · rfl
theorem Zuy {n k:Nat} (hk:k<n):(List.replicate k (-1:Int)++List.replicate (n-k) 0).set k (-1)=List.replicate (k+1) (-1)++List.replicate (n-(k+1)) 0:=by
  obtain ⟨m,hm⟩:∃m,n-k=m+1:=⟨n-k-1,by omega⟩
  rw [hm,show n-(k+1)=m by omega,List.replicate_succ,List.set_append_right _ _ (by simp),List.length_replicate,Nat.sub_self,List.set_cons_zero,List.replicate_succ',List.append_assoc]
  rfl
theorem Zhb (c:List Ins):PureC E 27 [.psl .ins c false] (.tup [.int false .i64 (verF c).1,.int false .i64 (verF c).2]):=by
  refine Za E_ok (Ze E_ok Z6x 400) ?_
  rw [Zha]
  have s1:4096<c.length->verF c=(0,2):=fun h=>by unfold verF;rw [if_pos h]
  have s2:c.length=0->verF c=(0,200):=fun h=>by unfold verF;rw [if_neg (by omega),if_pos (.inl h)]
  have s3:c.length<=4096->c.all formedF=false->verF c=(0,200):=fun h h2=>by unfold verF;rw [if_neg (by omega),if_pos (.inr h2)]
  have s4:c.length<=4096->c.length≠0->c.all formedF=true->verF c=endF (fromF c.length c 0 (deps c) 0):=fun h h2 h3=>by unfold verF;rw [if_neg (by omega),if_neg (by simp [h2,h3])]
  generalize verF c=V at*
  simp only [Zz,Zt,Y9,Xa,Xb,beq_iff_eq,bne_iff_ne,beq_eq_false_iff_ne,bne_eq_false_iff_eq,decide_eq_true_eq,decide_eq_false_iff_not,Bool.or_eq_true,Bool.or_eq_false_iff,Bool.not_eq_true',Bool.not_eq_false',Bool.and_eq_true,Bool.and_true,Bool.true_and,Bool.and_eq_false_iff,beq_self_eq_true,Z3,Z4,ne_eq,and_true,true_and,Bool.true_eq_false,Bool.false_eq_true,false_or,or_false,true_implies,Int.ofNat_eq_natCast,not_true_eq_false,not_false_eq_true,Decidable.not_not,gt_iff_lt,ge_iff_le,Int.toNat_natCast,Nat.zero_add,Int.toNat_zero]
  refine ⟨fun h=> ?_,fun h=>⟨fun h2=> ?_,fun h2=>⟨by omega,Int.le_refl _,by omega,?_⟩⟩⟩
  · rw [s1 (by omega)];simp
  · rw [s2 (by omega)];simp
  have hn:c.length<=4096:=by omega
  refine ⟨fun x=>x.k+x.r=c.length/\x.D=List.replicate x.k (-1)++List.replicate (c.length-x.k) 0/\(c.take x.k).all formedF=true,⟨⟨0,c.length,List.replicate c.length 0,0⟩,by simp,by simp⟩,fun x hx=> ?_⟩
  obtain ⟨hkr,hD,hall⟩:=hx
  have hDl:x.D.length=c.length:=by rw [hD];simp;omega
  refine ⟨fun hlt=>⟨by omega,by omega,fun y hy=>⟨fun hf=> ?_,fun hf=>⟨by omega,Nat.zero_le _,by omega,fun z hz=> ?_⟩⟩⟩,fun hge=> ?_⟩
  · rw [s3 hn (Zcg hy hf)];simp
  · refine ⟨⟨x.k+1,x.r-1,x.D.set x.k (-1),0⟩,⟨by show x.k+1+(x.r-1)=_;omega,?_,?_⟩,by show x.r-1+1<=x.r;omega,?_⟩
    · show x.D.set x.k (-1)=_
      rw [hD];exact Zuy (by omega)
    · show (c.take (x.k+1)).all formedF=true
      rw [U7 hy,hall,hf];rfl
    · rw [wr64 (by omega) (by omega)];simp
  have hkn:x.k=c.length:=by omega
  rw [hkn,List.take_of_length_le (Nat.le_refl _)] at hall
  have h3:c.all formedF=true:=hall
  rw [s4 hn (by omega) h3]
  clear s1 s2 s3 s4 V h
  have hD:x.D=List.replicate c.length (-1):=by rw [hD,hkn,Nat.sub_self];simp
  clear hkr hge
  refine ⟨by omega,Nat.zero_le _,by omega,fun z hz=> ?_⟩
  rw [hD] at hDl⊢
  clear hz hD hkn
  refine ⟨RVV c,⟨⟨0,c.length,deps c,0⟩,⟨by show 0+c.length=_;omega,by simp [deps],?_,by simp⟩,by simp [deps]⟩,fun x hR=> ?_⟩
  · intro d hd
    rcases List.mem_or_eq_of_mem_set hd with h|h
    · rw [List.mem_replicate] at h;show-1<=d/\d<=0;omega
    · show-1<=d/\d<=0;omega
  have hlen:=hR.len
  refine ⟨fun hlt=>⟨by omega,by omega,fun x3 hx3=> ?_⟩,fun hge=> ?_⟩
  · have hb:=hR.lo x3 (List.mem_of_getElem? hx3)
    have hkr:=hR.kr
    have hget:x.D.getD x.k 0=x3:=by simp [List.getD_eq_getElem?_getD,hx3]
    obtain ⟨x2,hx2⟩:∃x2,c[x.k]? =some x2:=⟨c[x.k]'(by omega),by simp⟩
    have he:=Zux x2.op
    have hdrop:c.drop x.k=x2::c.drop (x.k+1):=by
      obtain ⟨h1,rfl⟩:=List.getElem?_eq_some_iff.1 hx2
      exact List.drop_eq_getElem_cons h1
    have hrun:=hR.run
    rw [hdrop] at hrun
    simp only [fromF] at hrun
    have eK:wr .i64 ((x.k:Int)+1)=x.k+1:=wr64 (by omega) (by omega)
    have eA:wr .i64 (wr .i64 (x3-(eff x2.op).1)+(eff x2.op).2)=x3-(eff x2.op).1+(eff x2.op).2:=by
      have e0:wr .i64 (x3-(eff x2.op).1)=x3-(eff x2.op).1:=wr64 (by omega) (by omega)
      rw [e0];exact wr64 (by omega) (by omega)
    have hnc:Vq c x.k=Zcf x.k x2:=by unfold Vq;rw [Int.toNat_natCast,hx2]
    simp only [hx2,Option.some.injEq,forall_eq',eK,eA,hnc]
    refine ⟨fun hneg=> ?_,fun hneg=>⟨by omega,by omega,?_⟩⟩
    · have hsome:rndF c.length x.k x2 x.D x.m=some (x.D,x.m):=by unfold rndF;rw [hget,if_pos hneg]
      rw [hsome] at hrun
      exact ⟨⟨x.k+1,x.r-1,x.D,x.m⟩,⟨by show x.k+1+(x.r-1)=_;omega,hlen,fun d hd=>by have:=hR.lo d hd;show-1<=d/\d<=((x.k+1:Nat):Int);omega,hrun⟩,by show x.r-1+1<=x.r;omega,by simp⟩
    refine ⟨fun b=>(b=true↔(x3<(eff x2.op).1\/(x2.op=15/\x3≠1)\/(x2.op=16/\x3≠0))),?_,fun hQ=> ?_,fun hQ=> ?_⟩
    · repeat' (first|(refine And.intro ?_ ?_)|(intro h))
      all_goals try simp
      all_goals omega
    · have hQ:=hQ.1 rfl
      have hnone:rndF c.length x.k x2 x.D x.m=none:=by unfold rndF;rw [hget,if_neg hneg,if_pos hQ]
      rw [hnone] at hrun
      rw [<-hrun]
      simp [endF]
    have hbad:¬(x3<(eff x2.op).1\/(x2.op=15/\x3≠1)\/(x2.op=16/\x3≠0)):=fun h=>absurd (hQ.2 h) (by simp)
    have hsw:=Zq4 (x:=x2) (D:=x.D) (len:=c.length) (i:=x.k) (after:=x3-(eff x2.op).1+(eff x2.op).2) (by omega) (by omega) (by omega)
    generalize hNS:Zcf x.k x2=NS at*
    have hNl:NS.length<=2:=by
      rw [<-hNS];unfold Zcf
      repeat' split
      all_goals simp
    refine ⟨by omega,?_⟩
    refine ⟨RNV c x (x3-(eff x2.op).1+(eff x2.op).2) NS,⟨⟨0,NS.length,x.D,0⟩,⟨by simp,hR.len,fun d hd=>⟨(hR.lo d hd).1,by have:=(hR.lo d hd).2;omega⟩,rfl⟩,by simp⟩,fun y hy=>⟨fun hlt=> ?_,fun hge=> ?_⟩⟩
    · refine ⟨by omega,by omega,fun n hy5=> ?_⟩
      have hns:NS.drop y.k=n::NS.drop (y.k+1):=by
        obtain ⟨h1,rfl⟩:=List.getElem?_eq_some_iff.1 hy5
        exact List.drop_eq_getElem_cons h1
      have hset:=hy.run
      rw [hns] at hset
      generalize hS:setF c.length x.k (x3-(eff x2.op).1+(eff x2.op).2) NS x.D=SF at hset
      simp only [setF] at hset
      refine ⟨fun b=>(b=true↔(n<=x.k\/(c.length:Int)<=n\/(0<=y.D.getD n.toNat 0/\y.D.getD n.toNat 0≠x3-(eff x2.op).1+(eff x2.op).2))),?_,fun hQ=> ?_,fun hQ=> ?_⟩
      · refine ⟨fun h=>by simp [h],fun h=>⟨fun h'=>by simp [h'],fun h'=>⟨by omega,by rw [hy.len];omega,fun z hz=> ?_⟩⟩⟩
        have hg:y.D.getD n.toNat 0=z:=by simp [List.getD_eq_getElem?_getD,hz]
        rw [hg]
        refine ⟨fun h0=>⟨by omega,by rw [hy.len];omega,fun z2 hz2=> ?_⟩,fun h0=>by simp;omega⟩
        rw [hz] at hz2;cases hz2
        exact ⟨fun h1=>by simp;omega,fun h1=>by simp;omega⟩
      · have hQ:=hQ.1 rfl
        rw [if_pos hQ] at hset
        have hnone:rndF c.length x.k x2 x.D x.m=none:=by
          unfold rndF
          rw [hget,if_neg hneg,if_neg hbad,<-hsw,hS,<-hset]
        rw [hnone] at hrun
        rw [<-hrun]
        simp [endF]
      · have hQ:¬(n<=x.k\/(c.length:Int)<=n\/(0<=y.D.getD n.toNat 0/\y.D.getD n.toNat 0≠x3-(eff x2.op).1+(eff x2.op).2)):=fun h=>by simp at hQ;exact absurd h (by simpa using hQ)
        rw [if_neg hQ] at hset
        refine ⟨by omega,Nat.zero_le _,by rw [hy.len];omega,fun z hz=> ?_⟩
        refine ⟨⟨y.k+1,y.r-1,y.D.set n.toNat (x3-(eff x2.op).1+(eff x2.op).2),0⟩,⟨by have:=hy.kr;show y.k+1+(y.r-1)=_;omega,by simp [hy.len],Vd hy.lo (by omega),hset.trans hS.symm⟩,by have:=hy.kr;show y.r-1+1<=y.r;omega,?_⟩
        rw [wr64 (by omega) (by omega)]
        simp
    · have hyk:NS.drop y.k= []:=List.drop_eq_nil_of_le (by omega)
      have hset:=hy.run
      rw [hyk] at hset
      generalize hS:setF c.length x.k (x3-(eff x2.op).1+(eff x2.op).2) NS x.D=SF at hset
      simp only [setF] at hset
      have hsome:rndF c.length x.k x2 x.D x.m=some (y.D,max (max x.m x3) (x3-(eff x2.op).1+(eff x2.op).2)):=by
        unfold rndF
        rw [hget,if_neg hneg,if_neg hbad,<-hsw,hS,<-hset]
      rw [hsome] at hrun
      refine ⟨⟨x.k+1,x.r-1,y.D,_⟩,⟨by have:=hR.kr;show x.k+1+(x.r-1)=_;omega,hy.len,fun d hd=>by have:=hy.lo d hd;show-1<=d/\d<=((x.k+1:Nat):Int);omega,hrun⟩,by have:=hR.kr;show x.r-1+1<=x.r;omega,?_⟩
      simp
  · have hrun:=hR.run
    rw [List.drop_eq_nil_of_le (by omega)] at hrun
    simp only [fromF] at hrun
    rw [<-hrun]
    refine ⟨fun h=> ?_,fun h=> ?_⟩
    · simp [endF,h]
    · simp [endF,h]
end
end Go.Proofs.YtpmkapclhlmbbaaGreatDoor
