/- Merged texts: TpD, EngZK, TpE, TpF, TtF, TtH, TpG, TpL, EngZL, TpM, TpK, TpKb, TpO. -/
import Derived.Test.YtbepgmadijomjaaGreatDoorMc
namespace Go.Proofs.YtbepgmadijomjaaGreatDoor
set_option linter.unusedVariables false
set_option linter.unusedSimpArgs false
set_option linter.unnecessarySimpa false
set_option maxRecDepth 100000
section
open Go
noncomputable def dEx:Dc E Ex:=(dR .exprs:Dc E (thy.dom Th.exprs))
abbrev PE:=List Tok->Int->PR Ex
def Xd:List Nat:= [40]
def Yh:List Nat:= [41]
def sIf:List Nat:= [105,102]
def Z1:List Nat:= [44]
def Zcm:List Nat:= [60]
def pOpL (pe:PE):List (List Nat)->List Ex->List Tok->Int->PR (List Ex)
 | [],acc,l,e=> .ok (acc,l,e,())
 |s::r,acc,l,e=>
  match pe l e with
  | .error er=> .error er
  | .ok (x,y)=>if isW s y.1 then pOpL pe r (acc++ [x]) y.1.tail y.2.1 else .error (hdT y.2.1 y.1,160)
def pOps (pe:PE) (op:Int) (ss:List (List Nat)) (l:List Tok) (e:Int):PR Ex:=
 if isW Xd l then
  match pOpL pe ss [] l.tail e with
  | .error er=> .error er
  | .ok (xs,y)=> .ok (.mk op 0 0 0 0 0 xs,y)
 else .error (hdT e l,160)
def V2 (pe:PE) (l:List Tok) (e:Int):PR Ex:=
 if isW Xd l then
  match pe l.tail e with
  | .error er=> .error er
  | .ok (x,y)=>if isW Yh y.1 then .ok (x,y.1.tail,y.2.1,()) else .error (hdT y.2.1 y.1,160)
 else if isW sIf l then pOps pe 11 [Zcm,Z1,Z1,Yh] l.tail e
 else match Zz WK.ca.words l e with
  | .error er=> .error er
  | .ok (k,y)=>
   if k.2.1 then pOps pe (6+k.1) [Z1,Yh] y.1 y.2.1
   else match Yc WK.at_.words y.1 y.2.1 with
    | .error er=> .error er
    | .ok (a,z)=> .ok (.mk 2 a 0 0 0 0 [],z)
def pFac (pe:PE) (l:List Tok) (e:Int):PR Ex:=
 match l with
 | []=>V2 pe [] e
 |t::r=>
  if t.kind=2 then
   match Wj r e with
   | .error er=> .error er
   | .ok (d,y)=> .ok (.mk 1 t.n (d.getD 0 0) (d.getD 1 0) (d.getD 2 0) (d.getD 3 0) [],y)
  else V2 pe (t::r) e
def Shr (pe:PE):Prop:=∀l e y x',pe l e= .ok (y,x')->x'.1.length<l.length
theorem Zi {s:List Nat} {l:List Tok} (h:isW s l=true):l.tail.length+1=l.length:=by
 cases l with
 |nil=>cases h
 |cons t l=>rfl
theorem Yfb {s:List Nat} {l:List Tok} {P:Prop} (h:isW s l=true->l.tail.length+1=l.length->P):isW s l=true->P:=fun q=>h q (Zi q)
theorem Z7o {pe:PE} (H:Shr pe) {l:List Tok} {e:Int} {P:Ex->PX->Prop} (h:∀y x',pe l e= .ok (y,x')->x'.1.length<l.length->P y x'):∀y x',pe l e= .ok (y,x')->P y x':=fun y x' q=>h y x' q (H _ _ _ _ q)
theorem Zag {ws:List (List Nat)} {l:List Tok} (h:0<=chz ws l):l.tail.length+1=l.length:=by
 cases l with
 |nil=>cases h
 |cons t l=>rfl
theorem Z7p {l:List Tok} {e:Int} {A B:Int×Bool×Unit->PX->Prop} (hA:∀y x',Zz WK.ca.words l e= .ok (y,x')->y.2.1=true->x'.1.length<l.length->wr .i64 (6+y.1)=6+y.1->A y x') (hB:∀y x',Zz WK.ca.words l e= .ok (y,x')->y.2.1=false->B y x'):
 ∀y x',Zz WK.ca.words l e= .ok (y,x')->(y.2.1=true->A y x')/\(y.2.1=false->B y x'):=by
 intro y x' q
 refine ⟨fun hy=>hA y x' q hy ?_ ?_,fun hy=>hB y x' q hy⟩
 · rcases Xg q with ⟨h1,rfl,rfl⟩|⟨_,rfl,_⟩
   · have:=Zag h1
     show l.tail.length<l.length
     omega
   · cases hy
 · rcases Xg q with ⟨h1,rfl,rfl⟩|⟨_,rfl,_⟩
   · have:=Zgd (ws:=WK.ca.words) (l:=l) (by decide)
     have h5:(WK.ca.words).length=5:=rfl
     rw [h5] at this
     exact wr64 (by show _<=6+chz _ _;omega) (by show 6+chz _ _<=_;omega)
   · rfl
theorem Z4r {pe:PE} {l:List Tok} {e:Int} (h:((l.length:Int)==0)=true):pFac pe l e=V2 pe l e:=by
 cases l with
 |nil=>rfl
 |cons t l=>rw [tz] at h;cases h
theorem Z4s {pe:PE} {l:List Tok} {e:Int} {x:Tok} (hx:l[Int.toNat 0]? =some x) (h:(x.kind !=2)=true):pFac pe l e=V2 pe l e:=by
 cases l with
 |nil=>cases hx
 |cons t l=>
  rw [tg] at hx
  subst hx
  simp at h
  simp [pFac,h]
theorem Z4t {l:List Tok} {e:Int} {x:Tok} (hx:l[Int.toNat 0]? =some x) (h:(x.kind !=2)=false):∃r,l=x::r/\x.kind=2/\pInt l e= .ok (x.n,r,e,()):=by
 cases l with
 |nil=>cases hx
 |cons t l=>
  rw [tg] at hx
  subst hx
  simp at h
  exact ⟨l,rfl,h,by simp [pInt,h]⟩
theorem Zja {l:List Tok} (h:((l.length:Int)==0)=false):(0:Int)<=0/\(0:Int)+1<=l.length:=by
 have:(l.length:Int)≠0:=by simpa using h
 omega
noncomputable def Yfc:Sum thy:=sumM (mI .nil n0 dDm (fun _=>rfl)) (fun _ _=>True) fun x _=>Wj x.1 x.2.1
theorem Z4u:SumOk E 142 Yfc:=Xe E_ok (Zb rfl) fun x _ _=>Z5z x.1 x.2.1
noncomputable def Yg8 (n:Nat) (pe:PE):Sum thy:=sumM (mI .nil n0 dEx (fun _=>rfl)) (fun x _=>x.1.length<n) fun x _=>pe x.1 x.2.1
noncomputable def Ffa (n:Nat) (pe:PE):Fns thy:=addS (addS Fme 142 Yfc) 65 (Yg8 n pe)
abbrev qBKd (a0:PX):=(Prod.fst a0)
abbrev qBK6 (a0:PX):=(List.tail (qBKd a0))
abbrev qBK5:=(1:Nat)
abbrev qBKf:=(qBK5+qBK5+qBK5+qBK5)
abbrev qBK2 (a0:Ex) (b0:Ex):=(List.take qBK5 [Ex.mk (Ex.op a0) (Ex.n a0) (Ex.d0 a0) (Ex.d1 a0) (Ex.d2 a0) (Ex.d3 a0) (Ex.l a0)]++ [Ex.mk (Ex.op b0) (Ex.n b0) (Ex.d0 b0) (Ex.d1 b0) (Ex.d2 b0) (Ex.d3 b0) (Ex.l b0)])
abbrev qBK8 (a0:Ex) (b0:Ex) (c0:Ex):=(List.take (qBK5+qBK5) (qBK2 a0 b0)++ [Ex.mk (Ex.op c0) (Ex.n c0) (Ex.d0 c0) (Ex.d1 c0) (Ex.d2 c0) (Ex.d3 c0) (Ex.l c0)])
abbrev qBKe (a0:Ex) (b0:Ex) (c0:Ex) (d0:Ex):=(List.take (qBK5+qBK5+qBK5) (qBK8 a0 b0 c0)++ [Ex.mk (Ex.op d0) (Ex.n d0) (Ex.d0 d0) (Ex.d1 d0) (Ex.d2 d0) (Ex.d3 d0) (Ex.l d0)])
abbrev qBK7 (a0:PX):=(Prod.fst (Prod.snd a0))
abbrev qBK9:=(0:Int)
abbrev qBK4 (a0:PX):=(hdT (qBK7 a0) (qBKd a0),(160:Int))
abbrev qBKb (a0:PX) (b0:PR Ex):=(isW [(41:Nat)] (qBKd a0)=false->b0=Except.error (qBK4 a0))
abbrev qBKc:=(qBK5<=qBK5/\(0:Nat)<=qBK5/\(qBK5+qBK5)*(72:Nat)<=(140737488355328:Nat))
abbrev qBKa (a0:PX) (b0:PR Ex):=(isW [(44:Nat)] (qBKd a0)=false->b0=Except.error (qBK4 a0))
abbrev qBK1 (a0:List Tok) (b0:Nat) (c0:PE) (d0:Int) (e0:PR Ex):=(isW [(40:Nat)] a0=false->(isW [(105:Nat),(102:Nat)] a0=true->(isW [(40:Nat)] (List.tail a0)=true->List.length (List.tail (List.tail a0))+qBK5<=b0/\(∀(y:Ex) (x':PX),c0 (List.tail (List.tail a0)) d0=Except.ok (y,x')->(isW [(60:Nat)] (qBKd x')=true->List.length (qBK6 x')+qBK5<=b0/\(∀(y_1:Ex) (x'_1:PX),c0 (qBK6 x') (qBK7 x')=Except.ok (y_1,x'_1)->qBKc/\(isW [(44:Nat)] (qBKd x'_1)=true->List.length (qBK6 x'_1)+qBK5<=b0/\(∀(y_2:Ex) (x':PX),c0 (qBK6 x'_1) (qBK7 x'_1)=Except.ok (y_2,x')->(qBK5+qBK5<=List.length (qBK2 y y_1)/\(0:Nat)<=qBK5+qBK5/\(qBK5+qBK5+qBK5)*(72:Nat)<=(140737488355328:Nat))/\(isW [(44:Nat)] (qBKd x')=true->List.length (qBK6 x')+qBK5<=b0/\(∀(y_3:Ex) (x'_2:PX),c0 (qBK6 x') (qBK7 x')=Except.ok (y_3,x'_2)->(qBK5+qBK5+qBK5<=List.length (qBK8 y y_1 y_2)/\(0:Nat)<=qBK5+qBK5+qBK5/\qBKf*(72:Nat)<=(140737488355328:Nat))/\(isW [(41:Nat)] (qBKd x'_2)=true->(0:Nat)+qBKf<=List.length (qBKe y y_1 y_2 y_3)/\e0=Except.ok (Ex.mk (11:Int) qBK9 qBK9 qBK9 qBK9 qBK9 (List.take qBKf (List.drop (0:Nat) (qBKe y y_1 y_2 y_3))),List.tail (qBKd x'_2),Prod.fst (Prod.snd x'_2),()))/\(qBKb x'_2 e0))/\∀(d0:Int×Int),c0 (qBK6 x') (qBK7 x')=Except.error d0->e0=Except.error d0)/\(qBKa x' e0))/\∀(d0:Int×Int),c0 (qBK6 x'_1) (qBK7 x'_1)=Except.error d0->e0=Except.error d0)/\(qBKa x'_1 e0))/\∀(d0:Int×Int),c0 (qBK6 x') (qBK7 x')=Except.error d0->e0=Except.error d0)/\(isW [(60:Nat)] (qBKd x')=false->e0=Except.error (qBK4 x')))/\∀(e_1:Int×Int),c0 (List.tail (List.tail a0)) d0=Except.error e_1->e0=Except.error e_1)/\(isW [(40:Nat)] (List.tail a0)=false->e0=Except.error (hdT d0 (List.tail a0),(160:Int))))/\(isW [(105:Nat),(102:Nat)] a0=false->(WK.ca=WK.un\/WK.ca=WK.ca)/\(∀(y:Int×Bool×Unit) (x':PX),Zz (WK.words WK.ca) a0 d0=Except.ok (y,x')->(Prod.fst (Prod.snd y)=true->(isW [(40:Nat)] (qBKd x')=true->List.length (qBK6 x')+qBK5<=b0/\(∀(y_1:Ex) (x'_1:PX),c0 (qBK6 x') (qBK7 x')=Except.ok (y_1,x'_1)->(isW [(44:Nat)] (qBKd x'_1)=true->List.length (qBK6 x'_1)+qBK5<=b0/\(∀(y_2:Ex) (x':PX),c0 (qBK6 x'_1) (qBK7 x'_1)=Except.ok (y_2,x')->qBKc/\(isW [(41:Nat)] (qBKd x')=true->(0:Nat)+(qBK5+qBK5)<=List.length (qBK2 y_1 y_2)/\e0=Except.ok (Ex.mk (wr IntKind.i64 ((6:Int)+Prod.fst y)) qBK9 qBK9 qBK9 qBK9 qBK9 (List.take (qBK5+qBK5) (List.drop (0:Nat) (qBK2 y_1 y_2))),List.tail (qBKd x'),Prod.fst (Prod.snd x'),()))/\(qBKb x' e0))/\∀(d0:Int×Int),c0 (qBK6 x'_1) (qBK7 x'_1)=Except.error d0->e0=Except.error d0)/\(qBKa x'_1 e0))/\∀(d0:Int×Int),c0 (qBK6 x') (qBK7 x')=Except.error d0->e0=Except.error d0)/\(isW [(40:Nat)] (qBKd x')=false->e0=Except.error (qBK4 x')))/\(Prod.fst (Prod.snd y)=false->(WK.at_=WK.at_\/WK.at_=WK.ki\/WK.at_=WK.un)/\(∀(y:Int) (x'_1:PX),Yc (WK.words WK.at_) (qBKd x') (qBK7 x')=Except.ok (y,x'_1)->e0=Except.ok (Ex.mk (2:Int) y qBK9 qBK9 qBK9 qBK9 [],Prod.fst x'_1,Prod.fst (Prod.snd x'_1),()))/\∀(d0:Int×Int),Yc (WK.words WK.at_) (qBKd x') (qBK7 x')=Except.error d0->e0=Except.error d0))/\∀(e_1:Int×Int),Zz (WK.words WK.ca) a0 d0=Except.error e_1->e0=Except.error e_1))
abbrev qBK3 (a0:List Tok) (b0:Nat) (c0:PE) (d0:Int) (e0:PR Ex):=(isW [(40:Nat)] a0=true->List.length (List.tail a0)+qBK5<=b0/\(∀(y:Ex) (x':PX),c0 (List.tail a0) d0=Except.ok (y,x')->(isW [(41:Nat)] (qBKd x')=true->e0=Except.ok (Ex.mk (Ex.op y) (Ex.n y) (Ex.d0 y) (Ex.d1 y) (Ex.d2 y) (Ex.d3 y) (Ex.l y),List.tail (qBKd x'),Prod.fst (Prod.snd x'),()))/\(qBKb x' e0))/\∀(e_1:Int×Int),c0 (List.tail a0) d0=Except.error e_1->e0=Except.error e_1)
theorem Znz (n:Nat) (pe:PE) (l:List Tok) (e:Int) (out:PR Ex):Zh E (Ffa n pe) (vc E (Ffa n pe) 400) 105 [.ptr 0 0] (one [.psl Th.toks l false,.int false .i64 e]) 1 (mK .nil n0 dEx (fun _=>rfl) l e out)=(
 (((↑(List.length l):Int)==qBK9)=true->(qBK3 l n pe e out)/\(qBK1 l n pe e out))/\(((↑(List.length l):Int)==qBK9)=false->qBK9<=qBK9/\qBK9+(1:Int)<=(↑(List.length l):Int)/\∀(x:Tok),l[Int.toNat qBK9]? =some x->((Tok.kind x !=(2:Int))=true->(qBK3 l n pe e out)/\(qBK1 l n pe e out))/\((Tok.kind x !=(2:Int))=false->qBK9<=qBK9/\qBK9+(1:Int)<=(↑(List.length l):Int)/\∀(x:Tok),l[Int.toNat qBK9]? =some x->True/\(∀(y:Int) (x':PX),pInt l e=Except.ok (y,x')->True/\(∀(y_1:List Int) (x'_1:PX),Wj (qBKd x') (qBK7 x')=Except.ok (y_1,x'_1)->out=Except.ok (Ex.mk (1:Int) y (List.getD y_1 (0:Nat) qBK9) (List.getD y_1 qBK5 qBK9) (List.getD y_1 (2:Nat) qBK9) (List.getD y_1 (3:Nat) qBK9) [],Prod.fst x'_1,Prod.fst (Prod.snd x'_1),()))/\∀(e:Int×Int),Wj (qBKd x') (qBK7 x')=Except.error e->out=Except.error e)/\∀(e_1:Int×Int),pInt l e=Except.error e_1->out=Except.error e_1))):=by kernel_rfl
theorem Yfd {n:Nat} {pe:PE} (hpe:∀l e,l.length<n->Z9 (mI .nil n0 dEx (fun _=>rfl)) 65 (l,e,()) () (pe l e)):FnsOk E (Ffa n pe):=Za (Za Zgc Z4u) (Xe E_ok (Zb rfl) fun x _ h=>hpe x.1 x.2.1 h)
theorem Zt2 {n : Nat} {pe : PE} (hpe : ∀ l e, l.length < n → Z9 (mI .nil n0 dEx (fun _ => rfl)) 65 (l, e, ()) () (pe l e)) (H : Shr pe) (l : List Tok) (e : Int) (hl : l.length < n + 1) :
 Z9 (mI .nil n0 dEx (fun _ => rfl)) 105 (l, e, ()) () (pFac pe l e) := by
 refine Un (Yfd hpe) (n := 400) (a := ()) ?_
 rw [show (DcL.nil (E := E)).enc () = [] from rfl, Znz]; delta qBKd qBK6 qBK5 qBKf qBK2 qBK8 qBKe qBK7 qBK9 qBK4 qBKb qBKc qBKa qBK1 qBK3
 refine ⟨fun h0 => ?_, fun h0 => ⟨(Zja h0).1, (Zja h0).2, fun x hx => ⟨fun h2 => ?_, fun h2 => ?_⟩⟩⟩
 · rw [Z4r h0]; clear h0
   repeat' (first | refine Yfb fun _ _ => ?_ | refine Z7o H fun _ _ _ _ => ?_ | refine Z7p (fun _ _ _ _ _ _ => ?_) (fun _ _ _ _ => ?_) | apply And.intro | intro _)
   all_goals first | exact .inr rfl | exact .inl rfl | exact trivial | omega | simp [V2, pOps, pOpL, Xd, Yh, sIf, Z1, Zcm, Ex.eta, *]
 · rw [Z4s hx h2]; clear h0 hx h2
   repeat' (first | refine Yfb fun _ _ => ?_ | refine Z7o H fun _ _ _ _ => ?_ | refine Z7p (fun _ _ _ _ _ _ => ?_) (fun _ _ _ _ => ?_) | apply And.intro | intro _)
   all_goals first | exact .inr rfl | exact .inl rfl | exact trivial | omega | simp [V2, pOps, pOpL, Xd, Yh, sIf, Z1, Zcm, Ex.eta, *]
 · obtain ⟨r, rfl, hk, hi⟩ := Z4t (e := e) hx h2
   refine ⟨(Zja h0).1, (Zja h0).2, fun _ _ => ⟨trivial, fun y x' h3 => ?_, fun er h3 => by rw [hi] at h3; cases h3⟩⟩
   rw [hi] at h3
   injection h3 with h3
   injection h3 with h3 h4
   subst h3; subst h4
   refine ⟨trivial, fun d x2 h5 => ?_, fun er h5 => ?_⟩
   · simp [pFac, hk, h5]
   · simp [pFac, hk, h5]
end
section
open Go.RowKit
section
variable {Y : Thy} {E : Eng Y}
def two (cs:List (SV Y)):Hp Y:=fun b=>match Nat.beq b 0 with|true=>some (.raw cs 0 none)|false=>(match Nat.beq b 1 with|true=>some (.raw [.ptr 0 0] 0 none)|false=>none)
theorem Z21 (cs:List (SV Y)):two cs 0=some (.raw cs 0 none):=rfl
theorem Yds (cs:List (SV Y)):two cs 1=some (.raw [.ptr 0 0] 0 none):=rfl
theorem Zip {cs:List (SV Y)} {b:Nat} {x:Blk Y} (h:two cs b=some x):(b=0/\x= .raw cs 0 none)\/(b=1/\x= .raw [.ptr 0 0] 0 none):=by
 match b,h with
 |0,h=>cases h;exact .inl ⟨rfl,rfl⟩
 |1,h=>cases h;exact .inr ⟨rfl,rfl⟩
 |b+2,h=>cases h
theorem Z9b (cs:List (SV Y)):DomLt (two cs) 2:=fun b hb=>by
 obtain ⟨x,hx⟩:=Option.ne_none_iff_exists'.1 hb
 rcases Zip hx with ⟨rfl,_⟩|⟨rfl,_⟩<;>omega
def σ2 (p q:Nat×Nat):Pl:=fun b=>match Nat.beq b 0 with|true=>some p|false=>(match Nat.beq b 1 with|true=>some q|false=>none)
theorem σ2_some {p q x:Nat×Nat} {b:Nat} (h:σ2 p q b=some x):(b=0/\x=p)\/(b=1/\x=q):=by
 match b,h with
 |0,h=>cases h;exact .inl ⟨rfl,rfl⟩
 |1,h=>cases h;exact .inr ⟨rfl,rfl⟩
 |b+2,h=>cases h
theorem Zm7 (cs cs':List (SV Y)) (v:SV Y):patch (two cs) 2 (mutR v cs')=two cs':=by
 funext b
 rw [Zj]
 match b with
 |0=>simp [mutR,at1,two]
 |1=>rw [if_neg (by simp [mutR])];rfl
 |b+2=>rw [if_neg (by simp [mutR])];rfl
def Ydt (E:Eng Y) (f:FuncId) (cs rest:List (SV Y)) (v:SV Y) (cs':List (SV Y)):Prop:=U8 E f (.ptr 1 0::rest) (two cs) 2 (mutR v cs')
def Ydu (E:Eng Y) (f:FuncId) (cs rest:List (SV Y)) (p:Value):Prop:=Znb E f (.ptr 1 0::rest) (two cs) 2 (panR p)
theorem Zm8 (hE:EngOk E) {B:Nat} {σ:Pl} {h:Hp Y} {g:GH} {w:World} {b r z c r1 z1:Nat} {cs cs0:List (SV Y)} {fc:Nat} {tg tc:Option Y.Th} (hI:Inv E B σ h g w) (hb:h b=some (.raw cs 0 tg)) (hc:h c=some (.raw [.ptr b 0] fc tc)) (hσ:σ b=some (r,z)) (hσc:σ c=some (r1,z1)) (hbc:b≠c) (hfc:fc=0) (hlen:cs.length=cs0.length) (hn:nidL 0 cs0=true)
 (hden:∀σ g (j:Nat) sv',cs0[j]? =some sv'->∃sv,cs[j]? =some sv/\∀u,Den E σ g sv u->Den E σ g sv' u):Inv E B (σ2 (r,z) (r1,z1)) (two cs0) g w:=by
 have hne:r≠r1:=by
  rintro rfl
  exact hbc (hI.inj b c _ _ _ (by rw [hb];simp) (by rw [hc];simp) hσ hσc)
 refine ⟨hI.gc,hI.gm,fun x y hx=> ?_,fun x x' q z2 z3 h1 h2 h3 h4=> ?_,fun x q z' hs=> ?_,fun x y q z' o v hx hs hv=> ?_,fun x y q z' hx hs=> ?_,hI.glob⟩
 · rcases Zip hx with ⟨rfl,rfl⟩|⟨rfl,rfl⟩
   · refine ⟨r,z,rfl,?_⟩
     obtain ⟨r',z',hσ',arr,e,k1,k2,k3,k4,k5⟩:=hI.blk b _ hb
     rw [hσ] at hσ';cases hσ'
     refine ⟨arr,e,k1,k2,?_,fun j sv' hj=> ?_,trivial⟩
     · simp only [Blk.cells] at k3⊢;omega
     · obtain ⟨sv,h1,h2⟩:=hden σ g j sv' hj
       obtain ⟨v,m1,m2⟩:=k4 j sv h1
       exact ⟨v,m1,Z4 hE (h2 v m2) (fun b p hb=>by omega) (Zs hn hj)⟩
   · refine ⟨r1,z1,rfl,?_⟩
     obtain ⟨r',z',hσ',arr,e,k1,k2,k3,k4,k5⟩:=hI.blk c _ hc
     rw [hσc] at hσ';cases hσ'
     refine ⟨arr,e,k1,k2,k3,fun j sv' hj=> ?_,trivial⟩
     cases j with
     |zero=>
      cases hj
      obtain ⟨v,m1,m2⟩:=k4 0 _ rfl
      refine ⟨v,m1,?_⟩
      cases m2
      rename_i hs
      rw [hσ] at hs;cases hs
      exact .ptr (E:=E) (b:=0) rfl
     |succ j=>cases hj
 · rcases σ2_some h3 with ⟨rfl,e1⟩|⟨rfl,e1⟩<;>rcases σ2_some h4 with ⟨rfl,e2⟩|⟨rfl,e2⟩
   · rfl
   · cases e1;cases e2;exact absurd rfl hne
   · cases e1;cases e2;exact absurd rfl hne
   · rfl
 · rcases σ2_some hs with ⟨rfl,e⟩|⟨rfl,e⟩
   · cases e;exact hI.base b _ _ hσ
   · cases e;exact hI.base c _ _ hσc
 · rcases σ2_some hs with ⟨rfl,e⟩|⟨rfl,e⟩
   · cases e
     have h2:o<0:=hI.fz b (.raw cs 0 tg) _ _ o v hb hσ hv
     omega
   · cases e
     subst hfc
     have h2:o<0:=hI.fz c (.raw [.ptr b 0] 0 tc) _ _ o v hc hσc hv
     omega
 · rcases σ2_some hs with ⟨rfl,e⟩|⟨rfl,e⟩
   · cases e;exact hI.fm b _ _ _ hb hσ
   · cases e;exact hI.fm c _ _ _ hc hσc
section
variable {X α β ε : Type}
def Zcc (M:MutI E X α β ε) (f:FuncId) (x:X) (a:α) (out:Except ε (β×X)):Prop:=
 match out with
 | .ok (y,x')=>Ydt E f (M.dS.enc x) (M.dA.enc a) (M.v y) (M.dS.enc x')
 | .error e=>Ydu E f (M.dS.enc x) (M.dA.enc a) (M.pv e)
def Zxh (M:MutI E X α β ε) (pre:X->α->Prop) (f:X->α->Except ε (β×X)):Sum Y:=fun args h _ k=>
 match args with
 | .ptr c 0::rest=>
  (match h c with
  |some (.raw [.ptr b 0] 0 _)=>
   (match Nat.beq b c,h b with
   |false,some (.raw cs 0 _)=>
    (match M.dS.dec cs,M.dA.dec rest with
    |some x,some a=>pre x a/\(∀y x',f x a= .ok (y,x')->k (Zfz b (M.v y) (M.dS.enc x')))/\(∀e,f x a= .error e->k (Z0u b (M.pv e)))
    |_,_=>False)
   |_,_=>False)
  |_=>False)
 |_=>False
theorem Zkw {M:DcL E α} {rest:List (SV Y)} {a:α} (hE:EngOk E) (hr:M.dec rest=some a) (hn:nidL 0 (M.enc a)=true) {c:Nat} {p q:Nat×Nat} {σ:Pl} {g:GH} {vals:List Value} (hσ:σ c=some q) (hd:DenL E σ g (.ptr c 0::rest) vals):DenL E (σ2 p q) g (.ptr 1 0::M.enc a) vals:=by
 obtain ⟨k1,k2,k3⟩:=M.ok _ _ hr
 refine ⟨by rw [<-hd.1];simp [k2],fun j sv u h1 h2=> ?_⟩
 cases j with
 |zero=>
  simp at h1;subst h1
  have:=hd.2 0 _ u rfl h2
  cases this
  rename_i hs
  rw [hσ] at hs;cases hs
  exact .ptr (E:=E) (b:=1) rfl
 |succ j=>
  have h1:(M.enc a)[j]? =some sv:=by simpa using h1
  obtain ⟨s0,h3,h4⟩:=k3 σ g j sv h1
  exact Z4 hE (h4 u (hd.2 (j+1) s0 u (by simpa using h3) h2)) (fun b p hb=>by omega) (Zs hn h1)
theorem Ziq (hE:EngOk E) {f:Nat} (hg:FnGood E.P f) {M:MutI E X α β ε} {pre:X->α->Prop} {fn:X->α->Except ε (β×X)} (hp:∀x a,pre x a->Zcc M f x a (fn x a)):SumOk E f (Zxh M pre fn):=by
 refine ⟨hg,fun args h i k hD hk=> ?_⟩
 unfold Zxh at hk
 split at hk
 case h_2=>exact hk.elim
 rename_i c rest
 split at hk
 case h_2=>exact hk.elim
 rename_i b tc hc
 split at hk
 case h_2=>exact hk.elim
 rename_i cs tg hbc hb
 have hbc:b≠c:=by intro e;subst e;rw [Nat.beq_refl] at hbc;cases hbc
 split at hk
 case h_2=>exact hk.elim
 rename_i x a hx ha
 obtain ⟨hpp,hk1,hk2⟩:=hk
 have hm:=hp x a hpp
 obtain ⟨c1,c2,c3⟩:=M.dS.ok _ _ hx
 have hbn:h b≠none:=by rw [hb];simp
 unfold Zcc at hm
 split at hm
 · rename_i y x' ho
   refine ⟨_,hk1 y x' ho,fun b' hb'=>by
    have:b'∈ [b]:=hb'
    rw [List.mem_singleton] at this
    rw [this];exact hbn,.inl ?_⟩
   intro B σ g w vals hh hrd hI hB hfree hd
   obtain rfl:hh=h:=funext fun b=>hrd b trivial
   obtain ⟨r,z,hσ,_⟩:=hI.blk b _ hb
   obtain ⟨r1,z1,hσc,_⟩:=hI.blk c _ hc
   refine (hm B (σ2 (r,z) (r1,z1)) g w vals _ (fun _ _=>rfl) (Zm8 hE hI hb hc hσ hσc hbc rfl c2 (M.hS x) c3) hB (fun c h1 h2=>by simp [mutR] at h2;omega) (Zkw hE ha (M.hA a) hσc hd)).mono ?_
   rintro en w' ⟨u,he,σ',g',hS,hI',hv⟩
   rw [Zm7] at hI'
   obtain ⟨q1,q2⟩:=Vh hE (i:=i) (v:=M.v y) (v0:=M.v y) (x':=some (M.dS.enc x')) hI hb hσ rfl hS hI' (fun c hc=>by cases hc;rfl) (fun c hc=>by cases hc;exact M.hS x')
   exact ⟨u,he,σ,g',q1,q2,Z4 hE hv (fun b p hb=>by omega) (M.hv y)⟩
 · rename_i e ho
   refine ⟨_,hk2 e ho,fun b' hb'=>by
    have:b'∈ [b]:=hb'
    rw [List.mem_singleton] at this
    rw [this];exact hbn,.inr ?_⟩
   obtain ⟨p,hp',hm⟩:=hm
   have hp':(SV.pan (M.pv e):SV Y)= .pan p:=hp'
   cases hp'
   refine ⟨_,rfl,fun B σ g w vals hI hB hfree hd=> ?_⟩
   obtain ⟨r,z,hσ,_⟩:=hI.blk b _ hb
   obtain ⟨r1,z1,hσc,_⟩:=hI.blk c _ hc
   refine (hm B (σ2 (r,z) (r1,z1)) g w vals (Zm8 hE hI hb hc hσ hσc hbc rfl c2 (M.hS x) c3) hB (fun c h1 h2=>by simp [panR] at h2;omega) (Zkw hE ha (M.hA a) hσc hd)).mono ?_
   rintro en w' ⟨he,σ',g',hS,hI'⟩
   obtain ⟨q1,q2⟩:=Vh hE (i:=i) (v:= .pan (M.pv e)) (v0:= .unk) (x':=none) hI hb hσ rfl hS hI' (fun c hc=>by cases hc) (fun c hc=>by cases hc)
   exact ⟨he,σ,g',q1,q2⟩
theorem Z22 {B:Nat} {p q:Nat×Nat} {h:Hp Y} {g g':GH} {w w':World} {σ':Pl} {n:Nat} {mods:List Nat} (hmods:∀b∈mods,b=0) (hS:Stp 2 n mods (σ2 p q) g w σ' g' w') (hI':Inv E B σ' h g' w') (h0:h 0≠none):∀b r z,b≠0->b≠1->h b≠none->σ' b=some (r,z)->w.heap.size<=r:=by
 intro b r z hb hb1 hn hs
 have hs0:σ2 p q b=none:=by
  match b with
  |0=>exact absurd rfl hb
  |1=>exact absurd rfl hb1
  |b+2=>rfl
 rcases hS.blk b r z hs0 hs with h1|⟨b',h1,z',h2⟩
 · exact h1
 · obtain rfl:=hmods b' h1
   have h3:=hS.sig 0 _ h2
   exact absurd (hI'.inj b 0 r z z' hn h0 hs h3) hb
noncomputable def Z9c (M:MutI E X α β ε) (gth:List (SV Y)->Option Y.Th) (n:Nat) (dec:SV Y->Option β) (decP:Value->Option ε) (x:X) (out:Except ε (β×X)) (r:Res Y):Prop:=
 match memB 1 r.mods with
 |true=>False
 |false=>(match Za4 r.v with
  |some q=>(match decP q with|some e=>out= .error e|none=>False)
  |none=>frzK E gth (patch (two (M.dS.enc x)) 2 r) n r.v fun v' bs=>
   (match patch (two (M.dS.enc x)) 2 r 0 with
   |some (.raw c2 0 _)=>frzL (frzK E gth (patch (two (M.dS.enc x)) 2 r) n) c2 fun cs' bs'=>
    (match memB 0 (bs++bs')||memB 1 (bs++bs'),dec v',M.dS.dec cs' with
    |false,some y,some x'=>out= .ok (y,x')
    |_,_,_=>False)
   |_=>False))
theorem Z23 (hE:EngOk E) {l:List (SV Y)} (hn:nidL 0 l=true) {p q:Nat×Nat} {σ:Pl} {g:GH} {vals:List Value} (hσ:σ 1=some q) (hd:DenL E σ g (.ptr 1 0::l) vals):DenL E (σ2 p q) g (.ptr 1 0::l) vals:=by
 refine ⟨hd.1,fun j sv u h1 h2=> ?_⟩
 cases j with
 |zero=>
  simp at h1;subst h1
  have:=hd.2 0 _ u rfl h2
  cases this
  rename_i hs
  rw [hσ] at hs;cases hs
  exact .ptr (E:=E) (b:=1) rfl
 |succ j=>
  have h1:l[j]? =some sv:=by simpa using h1
  exact Z4 hE (hd.2 (j+1) sv u (by simpa using h1) h2) (fun b p hb=>by omega) (Zs hn h1)
theorem Zkx (hE:EngOk E) {call:Nat->List (SV Y)->Hp Y->Nat->(Res Y->Prop)->Prop} (hcall:V0 E call) {M:MutI E X α β ε} {gth:List (SV Y)->Option Y.Th} {n:Nat} {dec:SV Y->Option β} {decP:Value->Option ε} (hdec:∀v y,dec v=some y->∀σ g u,Den E σ g v u->Den E σ g (M.v y) u) (hdecP:∀q e,decP q=some e->M.pv e=q)
 {f:Nat} {x:X} {a:α} {out:Except ε (β×X)} (hk:call f (.ptr 1 0::M.dA.enc a) (two (M.dS.enc x)) 2 (Z9c M gth n dec decP x out)):Zcc M f x a out:=by
 obtain ⟨r,hr,hR,htri⟩:=hcall f _ _ _ _ (Z9b _) hk
 unfold Z9c at hr
 split at hr
 · exact hr.elim
 rename_i hm1
 have hmods:∀b∈r.mods,b=0:=fun b hb=>by
  obtain ⟨y,hy⟩:=Option.ne_none_iff_exists'.1 (hR b hb)
  rcases Zip hy with ⟨e,_⟩|⟨e,_⟩
  · exact e
  · subst e;rw [memB_iff.2 hb] at hm1;cases hm1
 have free1:∀(p q:Nat×Nat) (b:Nat),2<=b->b<2+r.n->σ2 p q b=none:=by
  intro p q b hb _
  match b,hb with
  |b+2,_=>rfl
 have stp:∀(p q:Nat×Nat) (g g' g'':GH) (w w':World) (σ':Pl),Stp 2 r.n r.mods (σ2 p q) g w σ' g' w'->g'.le g''->(∀q o v,g''.cell q o=some v->g'.cell q o=some v\/w.heap.size<=q)->(∀q es,g''.obj q=some es->g'.obj q=some es\/w.heap.size<=q)->Stp 2 0 [0] (σ2 p q) g w (σ2 p q) g'' w':=by
  intro p q g g' g'' w w' σ' hS hle hc hm
  refine ⟨.refl _,fun b q h=> .inl h,hS.gle.trans hle,fun q o v hv=> ?_,fun q es hv=> ?_,fun q hq hx=>hS.heap q hq fun b hb=>hx b (by rw [hmods b hb];simp),hS.size,hS.os,hS.tape,hS.output,fun b q z h1 h2=>by rw [h1] at h2;cases h2⟩
  · rcases hc q o v hv with h1|h1
    · rcases hS.gcnew q o v h1 with h2|h2|⟨b,h2,h3⟩
      · exact .inl h2
      · exact .inr (.inl h2)
      · exact .inr (.inr ⟨b,by rw [hmods b h2];simp,h3⟩)
    · exact .inr (.inl h1)
  · rcases hm q es hv with h1|h1
    · exact hS.gmnew q es h1
    · exact .inr h1
 have start:∀(B:Nat) (σ:Pl) (g:GH) (w:World) (vals:Array Value),Inv E B σ (two (M.dS.enc x)) g w->DenL E σ g (.ptr 1 0::M.dA.enc a) vals.toList->∃rr zz r1 z1,σ 0=some (rr,zz)/\σ 1=some (r1,z1)/\Inv E B (σ2 (rr,zz) (r1,z1)) (two (M.dS.enc x)) g w/\DenL E (σ2 (rr,zz) (r1,z1)) g (.ptr 1 0::M.dA.enc a) vals.toList:=by
  intro B σ g w vals hI hd
  obtain ⟨rr,zz,hσ,_⟩:=hI.blk 0 _ (Z21 _)
  obtain ⟨r1,z1,hσ1,_⟩:=hI.blk 1 _ (Yds _)
  exact ⟨rr,zz,r1,z1,hσ,hσ1,Zm8 hE hI (Z21 _) (Yds _) hσ hσ1 (by omega) rfl rfl (M.hS x) (fun σ g j sv' hj=>⟨sv',hj,fun u h=>h⟩),Z23 hE (M.hA a) hσ1 hd⟩
 split at hr
 · rename_i q hq
   split at hr
   case h_2=>exact hr.elim
   rename_i e he
   subst hr
   show Ydu E f _ _ (M.pv e)
   refine ⟨_,rfl,fun B σ g w vals hI hB hfree hd=> ?_⟩
   obtain ⟨rr,zz,r1,z1,hσ,hσ1,hI1,hd1⟩:=start B σ g w vals hI hd
   refine (htri.panic hq hI1 hB (free1 _ _) hd1).mono ?_
   rintro en w' ⟨rfl,σ',g',hS,hI'⟩
   refine ⟨by rw [hdecP q e he],?_⟩
   have hS1:=stp _ _ g g' g' w w' σ' hS (.refl _) (fun _ _ _ h=> .inl h) (fun _ _ h=> .inl h)
   have hI2:Inv E B (σ2 (rr,zz) (r1,z1)) (fun _=>none) g' w':=⟨hI'.gc,hI'.gm,(fun b x hx=>by cases hx),fun b b' r z z' h1=>absurd rfl h1,fun b r z hs=>⟨(hI1.base b r z hs).1,Nat.lt_of_lt_of_le (hI1.base b r z hs).2 hS.size⟩,(fun b x r z o v hx=>by cases hx),(fun b x r z hx=>by cases hx),hI'.glob⟩
   obtain ⟨q1,q2⟩:=Vh hE (i:=2) (v:= .pan (M.pv e)) (v0:= .unk) (x':=none) hI (Z21 _) hσ rfl hS1 hI2 (fun c hc=>by cases hc) (fun c hc=>by cases hc)
   refine ⟨σ,g',q1,?_⟩
   have e2:patch (two (M.dS.enc x)) 2 ⟨.pan (M.pv e),0,[0],at1 0 (rawO none),none⟩=patch (two (M.dS.enc x)) 2 (panR (M.pv e)):=by
    funext b
    rw [Zj,Zj]
    by_cases c:b=0
    · subst c
      rw [if_pos (by simp),if_pos (by simp [panR])]
      rfl
    · rw [if_neg (by simp [c]),if_neg (by simp [panR,c])]
   rw [<-e2];exact q2
 · rename_i hq
   have htri:=htri.tri hq
   obtain ⟨v',bs,hr,o1⟩:=Zaj hE n r.v _ hr
   split at hr
   case h_2=>exact hr.elim
   rename_i c2 tg h0
   obtain ⟨cs',bs',hr,o2⟩:=Vq (Zaj hE n) hr
   split at hr
   case h_2=>exact hr.elim
   rename_i y x' hmem hy hx'
   rw [Bool.or_eq_false_iff] at hmem
   subst hr
   show Ydt E f _ _ (M.v y) _
   intro B σ g w vals hh hrd hI hB hfree hd
   obtain rfl:hh=two (M.dS.enc x):=funext fun b=>hrd b trivial
   obtain ⟨rr,zz,r1,z1,hσ,hσ1,hI1,hd1⟩:=start B σ g w vals hI hd
   refine (htri B _ g w vals _ (fun _ _=>rfl) hI1 hB (free1 _ _) hd1).mono ?_
   rintro en w' ⟨u,rfl,σ',g',hS,hI',hv⟩
   refine ⟨u,rfl,?_⟩
   have hs0:σ' 0=some (rr,zz):=hS.sig 0 _ rfl
   have hrr:rr<w.heap.size:=(hI1.base 0 rr zz rfl).2
   have hfar:=Z22 hmods hS hI' (by rw [h0];simp)
   have hle:=Zem (n:=w.heap.size) hI'
   have hkept:Kept E (patch (two (M.dS.enc x)) 2 r) σ' (bs++bs') w' (allG g' w.heap.size w'):=by
    intro b hb q z y1 hs hy1 j v hj hv
    have hb0:b≠0:=by
     rintro rfl
     have:=memB_iff.2 hb
     rw [this] at hmem;cases hmem.1
    have hb1:b≠1:=by
     rintro rfl
     have:=memB_iff.2 hb
     rw [this] at hmem;cases hmem.2
    show (if w.heap.size<=q then w'.cell? ⟨q,j,none⟩ else g'.cell q j)=some v
    rw [if_pos (hfar b q z hb0 hb1 (by rw [hy1];simp) hs)]
    exact hv
   have hval:=o1.den _ σ' g' w' B u _ (fun _ _=>rfl) hI' hle (hkept.sub fun b hb=>List.mem_append_left _ hb) hv
   have hcell:∀q o v,(allG g' w.heap.size w').cell q o=some v->g'.cell q o=some v\/w.heap.size<=q:=by
    intro q o v hv
    have hv:(if w.heap.size<=q then w'.cell? ⟨q,o,none⟩ else g'.cell q o)=some v:=hv
    split at hv
    · exact .inr (by assumption)
    · exact .inl hv
   have hobj:∀q es,(allG g' w.heap.size w').obj q=some es->g'.obj q=some es\/w.heap.size<=q:=by
    intro q es hv
    have hv:(if w.heap.size<=q then (match w'.heap[q]? with|some (.map es _)=>some es|_=>none) else g'.obj q)=some es:=hv
    split at hv
    · exact .inr (by assumption)
    · exact .inl hv
   have hS1:=stp _ _ g g' _ w w' σ' hS hle hcell hobj
   have hG:=Zhy (n:=w.heap.size) (B':=B) hI'
   obtain ⟨c1,c2',c3⟩:=M.dS.ok _ _ hx'
   have hI2:Inv E B (σ2 (rr,zz) (r1,z1)) (one (M.dS.enc x')) (allG g' w.heap.size w') w':=by
    refine ⟨hG.gc,hG.gm,fun b y1 hy1=> ?_,fun b b' q z z' h1 h2 _ _=>by rw [Zco h1,Zco h2],fun b q z hs=>⟨(hI1.base b q z hs).1,Nat.lt_of_lt_of_le (hI1.base b q z hs).2 hS.size⟩,fun b y1 q z o v hy1 hs hv=> ?_,fun b y1 q z hy1 hs=> ?_,hG.glob⟩
    · obtain ⟨rfl,rfl⟩:=Uh hy1
      refine ⟨rr,zz,rfl,?_⟩
      obtain ⟨r2,z2,m1,arr,e,k1,k2,k3,k4,k5⟩:=hI'.blk 0 _ h0
      rw [hs0] at m1;cases m1
      have hl:cs'.length=c2.length:=o2.len
      refine ⟨arr,e,k1,k2,?_,fun j sv hj=> ?_,trivial⟩
      · simp only [Blk.cells] at k3⊢;omega
      · obtain ⟨s1,h1,h2⟩:=c3 σ0 (allG g' w.heap.size w') j sv hj
        have hjl:j<c2.length:=by rw [<-hl];exact (List.getElem?_eq_some_iff.1 h1).1
        obtain ⟨v,m1,m2⟩:=k4 j _ (List.getElem?_eq_getElem hjl)
        have:=o2.den _ σ' g' w' B _ (fun _ _=>rfl) hI' hle (hkept.sub fun b hb=>List.mem_append_right _ hb) j _ s1 v (List.getElem?_eq_getElem hjl) h1 m2
        exact ⟨v,m1,(h2 v this).mono (fun b p h=>by cases h) (.refl _)⟩
    · obtain ⟨rfl,rfl⟩:=Uh hy1
      rcases σ2_some hs with ⟨_,e⟩|⟨e0,_⟩
      case inr=>omega
      cases e
      rcases hcell _ o v hv with h1|h1
      · have h2:o<0:=hI'.fz 0 (.raw c2 0 tg) _ _ o v h0 hs0 h1
        omega
      · omega
    · obtain ⟨rfl,rfl⟩:=Uh hy1
      rcases σ2_some hs with ⟨_,e⟩|⟨e0,_⟩
      case inr=>omega
      cases e
      cases hg':(allG g' w.heap.size w').obj rr with
      |none=>rfl
      |some es=>
       rcases hobj _ es hg' with h1|h1
       · rw [hI'.fm 0 _ _ _ h0 hs0] at h1;cases h1
       · omega
   obtain ⟨q1,q2⟩:=Vh hE (i:=2) (v:=M.v y) (v0:= .unk) (x':=some (M.dS.enc x')) hI (Z21 _) hσ rfl hS1 hI2 (fun c hc=>by cases hc;rfl) (fun c hc=>by cases hc;exact M.hS x')
   exact ⟨σ,_,q1,q2,(hdec v' y hy _ _ u hval).mono (fun b p h=>by cases h) (.refl _)⟩
end
end
end
section
open Go
noncomputable def mK2 {α β:Type} (dA:DcL E α) (hA:∀a,nidL 0 (dA.enc a)=true) (d:Dc E β) (hv:∀y,nid 0 (d.enc y)=true) (l:List Tok) (e:Int) (out:PR β):Res thy->Prop:=
 Z9c (mI dA hA d hv) (fun _=>none) 3 d.dec Zrp (l,e,()) out
theorem Zmm {F:Fns thy} (hF:FnsOk E F) {n:Nat} {α β:Type} {dA:DcL E α} {hA:∀a,nidL 0 (dA.enc a)=true} {d:Dc E β} {hv:∀y,nid 0 (d.enc y)=true} {f:Nat} {l:List Tok} {e:Int} {a:α} {out:PR β}
 (hk:Zh E F (vc E F n) f (.ptr 1 0::dA.enc a) (two [.psl Th.toks l false,.int false .i64 e]) 2 (mK2 dA hA d hv l e out)):Zcc (mI dA hA d hv) f (l,e,()) a out:=
 Zkx E_ok (Ze E_ok hF n) (fun v y h=>(d.ok v y h).2.2) Zl8 (x:=(l,e,())) hk
def sMul:List Nat:= [42]
def Uo:List Nat:= [43]
def Wk:List Nat:= [45]
def op1 (l:List Tok):Int×List Tok:=if isW sMul l then (5,l.tail) else (0,l)
def op2 (l:List Tok):Int×List Tok:=if isW Uo l then (3,l.tail) else if isW Wk l then (4,l.tail) else (0,l)
def pOp (o:List Tok->Int×List Tok) (l:List Tok) (e:Int):PR Int:= .ok ((o l).1,(o l).2,e,())
theorem Z14 (l:List Tok) (e:Int) (out:PR Int):Zh E Fme (vc E Fme 400) 106 [.ptr 1 0] (two [.psl Th.toks l false,.int false .i64 e]) 2 (mK2 .nil n0 dN (fun _=>rfl) l e out)=(
(isW [(42:Nat)] l=true->out=Except.ok ((5:Int),List.tail l,e,()))/\(isW [(42:Nat)] l=false->out=Except.ok ((0:Int),l,e,()))):=by kernel_rfl
theorem Z15 (l:List Tok) (e:Int) (out:PR Int):Zh E Fme (vc E Fme 400) 107 [.ptr 1 0] (two [.psl Th.toks l false,.int false .i64 e]) 2 (mK2 .nil n0 dN (fun _=>rfl) l e out)=(
(isW [(43:Nat)] l=true->out=Except.ok ((3:Int),List.tail l,e,()))/\(isW [(43:Nat)] l=false->(isW [(45:Nat)] l=true->out=Except.ok ((4:Int),List.tail l,e,()))/\(isW [(45:Nat)] l=false->out=Except.ok ((0:Int),l,e,())))):=by kernel_rfl
theorem Z8e (l:List Tok) (e:Int):Zcc (mI .nil n0 dN (fun _=>rfl)) 106 (l,e,()) () (pOp op1 l e):=by
 refine Zmm Zgc (n:=400) (a:=()) ?_
 rw [show (DcL.nil (E:=E)).enc ()= [] from rfl,Z14]
 exact ⟨fun h=>by simp [pOp,op1,sMul,h],fun h=>by simp [pOp,op1,sMul,h]⟩
theorem Z8f (l:List Tok) (e:Int):Zcc (mI .nil n0 dN (fun _=>rfl)) 107 (l,e,()) () (pOp op2 l e):=by
 refine Zmm Zgc (n:=400) (a:=()) ?_
 rw [show (DcL.nil (E:=E)).enc ()= [] from rfl,Z15]
 exact ⟨fun h=>by simp [pOp,op2,Uo,h],fun h=>⟨fun h2=>by simp [pOp,op2,Uo,Wk,h,h2],fun h2=>by simp [pOp,op2,Uo,Wk,h,h2]⟩⟩
theorem Zmn (l:List Tok):(op1 l).2.length<=l.length:=by
 unfold op1;split
 · have:=Zi (by assumption);show l.tail.length<=_;omega
 · exact Nat.le_refl _
theorem Zmo (l:List Tok):(op2 l).2.length<=l.length:=by
 unfold op2;split
 · have:=Zi (by assumption);show l.tail.length<=_;omega
 · split
   · have:=Zi (by assumption);show l.tail.length<=_;omega
   · exact Nat.le_refl _
def Yx (o:List Tok->Int×List Tok) (pf:PE):Nat->Ex->Int->List Tok->Int->PR Ex
 |0,x,_,l,e=> .ok (x,l,e,())
 |k+1,x,op,l,e=>
  if op=0 then .ok (x,l,e,())
  else match pf l e with
   | .error er=> .error er
   | .ok (y,z)=>Yx o pf k (.mk op 0 0 0 0 0 [x,y]) (o z.1).1 (o z.1).2 z.2.1
def pCh (o:List Tok->Int×List Tok) (pf:PE) (l:List Tok) (e:Int):PR Ex:=
 match pf l e with
 | .error er=> .error er
 | .ok (y,z)=>Yx o pf ((o z.1).2.length+1) y (o z.1).1 (o z.1).2 z.2.1
noncomputable def Sop1:Sum thy:=Zxh (mI .nil n0 dN (fun _=>rfl)) (fun _ _=>True) fun x _=>pOp op1 x.1 x.2.1
noncomputable def Sop2:Sum thy:=Zxh (mI .nil n0 dN (fun _=>rfl)) (fun _ _=>True) fun x _=>pOp op2 x.1 x.2.1
theorem Z8g:SumOk E 106 Sop1:=Ziq E_ok (Zb rfl) fun x _ _=>Z8e x.1 x.2.1
theorem Z8h:SumOk E 107 Sop2:=Ziq E_ok (Zb rfl) fun x _ _=>Z8f x.1 x.2.1
structure CX where
 e:Ex
 op:Int
 l:List Tok
 ed:Int
 k:Nat
def celP (T:Fr thy):Nat:=match T 2 with| .fn _ _ [.ptr c _]=>c|_=>0
def parP (T:Fr thy) (h:Hp thy):Nat:=match h (celP T) with|some (.raw [.ptr p _] _ _)=>p|_=>0
noncomputable def Ach:Fr thy->Hp thy->Nat->Ann thy:=fun T h i=>{X:=CX,fr:=fun x=> [(1,T 1),(2,T 2),(6,T 6),(7,T 7),(8,.int false .i64 x.op)],bl:=fun x=>(parP T h,.raw [.psl Th.toks x.l false,.int false .i64 x.ed] 0 none)::(celP T,.raw [.ptr (parP T h) 0] 0 none)::(bOf (T 7),.raw (E.enc Th.exprs x.e) 0 none)::blkP h (T 6),src:=fun _=> [],md:= [parP T h,bOf (T 7)],ih:=i,M:=i+60,meas:=fun x=>x.k,fz:= [7]}
noncomputable def Sfac (n:Nat) (pf:PE):Sum thy:=sumM (mI .nil n0 dEx (fun _=>rfl)) (fun x _=>x.1.length<n) fun x _=>pf x.1 x.2.1
noncomputable def Stm (n:Nat) (pf:PE):Sum thy:=Zxh (mI .nil n0 dEx (fun _=>rfl)) (fun x _=>x.1.length<n) fun x _=>pf x.1 x.2.1
noncomputable def Ftm (n:Nat) (pf:PE):Fns thy:=addL (addS (addS F0 105 (Sfac n pf)) 106 Sop1) 104 3 Ach E
noncomputable def Fxp (n:Nat) (pf:PE):Fns thy:=addL (addS (addS F0 103 (Stm n pf)) 107 Sop2) 104 3 Ach E
abbrev qBM3:=(0:Int)
abbrev qBM5:=(0:Nat)
abbrev qBM1:=(qBM3=qBM3/\qBM3=qBM3/\qBM3=qBM3/\qBM3=qBM3/\qBM3=qBM3/\qBM3=qBM3/\Value.slice none qBM5 qBM5=Value.slice none qBM5 qBM5/\True)
abbrev qBM2 (a0:Int) (b0:CX):=((Fn.func (105:Nat)=Fn.func (105:Nat)/\(qBM5=qBM5/\True)/\True)/\(Fn.func (106:Nat)=Fn.func (106:Nat)/\True/\qBM5=qBM5/\True)/\qBM5=qBM5/\qBM5=qBM5/\a0=CX.op b0/\True)
abbrev qBM4:=(false=true->false=true)
theorem Zvo (n:Nat) (pf:PE) (l:List Tok) (e:Int) (out:PR Ex):Zh E (Ftm n pf) (vc E (Ftm n pf) 400) 103 [.ptr 1 0] (two [.psl Th.toks l false,.int false .i64 e]) 2 (mK2 .nil n0 dEx (fun _=>rfl) l e out)=(
 List.length l+(1:Nat)<=n/\(∀(y:Ex) (x':PX),pf l e=Except.ok (y,x')->True/\(∀(y_1:Int) (x'_1:PX),pOp op1 (Prod.fst x') (Prod.fst (Prod.snd x'))=Except.ok (y_1,x'_1)->∃(R:CX->Prop),(∃(x:CX),R x/\true=true/\(qBM2 y_1 x)/\((Prod.fst x'_1=CX.l x/\qBM4)/\Prod.fst (Prod.snd x'_1)=CX.ed x/\True)/\(qBM5=qBM5/\True)/\(Ex.op y=Ex.op (CX.e x)/\Ex.n y=Ex.n (CX.e x)/\Ex.d0 y=Ex.d0 (CX.e x)/\Ex.d1 y=Ex.d1 (CX.e x)/\Ex.d2 y=Ex.d2 (CX.e x)/\Ex.d3 y=Ex.d3 (CX.e x)/\(Ex.l y=Ex.l (CX.e x)/\qBM4)/\True)/\qBM1/\True)/\∀(x:CX),R x->((CX.op x !=qBM3)=true->List.length (CX.l x)+(1:Nat)<=n/\(∀(y:Ex) (x':PX),pf (CX.l x) (CX.ed x)=Except.ok (y,x')->True/\(∀(y_2:Int) (x'_2:PX),pOp op1 (Prod.fst x') (Prod.fst (Prod.snd x'))=Except.ok (y_2,x'_2)->∃(x_1:CX),R x_1/\x_1.5+(1:Nat)<=x.5/\true=true/\(qBM2 y_2 x_1)/\((Prod.fst x'_2=CX.l x_1/\qBM4)/\Prod.fst (Prod.snd x'_2)=CX.ed x_1/\True)/\(qBM5=qBM5/\True)/\(CX.op x=Ex.op (CX.e x_1)/\qBM3=Ex.n (CX.e x_1)/\qBM3=Ex.d0 (CX.e x_1)/\qBM3=Ex.d1 (CX.e x_1)/\qBM3=Ex.d2 (CX.e x_1)/\qBM3=Ex.d3 (CX.e x_1)/\([Ex.mk (Ex.op (CX.e x)) (Ex.n (CX.e x)) (Ex.d0 (CX.e x)) (Ex.d1 (CX.e x)) (Ex.d2 (CX.e x)) (Ex.d3 (CX.e x)) (Ex.l (CX.e x)),Ex.mk (Ex.op y) (Ex.n y) (Ex.d0 y) (Ex.d1 y) (Ex.d2 y) (Ex.d3 y) (Ex.l y)]=Ex.l (CX.e x_1)/\qBM4)/\True)/\qBM1/\True)/\∀(e:Int×Int),pOp op1 (Prod.fst x') (Prod.fst (Prod.snd x'))=Except.error e->out=Except.error e)/\∀(e:Int×Int),pf (CX.l x) (CX.ed x)=Except.error e->out=Except.error e)/\((CX.op x !=qBM3)=false->out=Except.ok (Ex.mk (Ex.op (CX.e x)) (Ex.n (CX.e x)) (Ex.d0 (CX.e x)) (Ex.d1 (CX.e x)) (Ex.d2 (CX.e x)) (Ex.d3 (CX.e x)) (Ex.l (CX.e x)),CX.l x,CX.ed x,())))/\∀(e:Int×Int),pOp op1 (Prod.fst x') (Prod.fst (Prod.snd x'))=Except.error e->out=Except.error e)/\∀(e_1:Int×Int),pf l e=Except.error e_1->out=Except.error e_1):=by kernel_rfl
abbrev qBMa:=(0:Nat)
abbrev qBM8:=(0:Int)
abbrev qBM6:=(qBM8=qBM8/\qBM8=qBM8/\qBM8=qBM8/\qBM8=qBM8/\qBM8=qBM8/\qBM8=qBM8/\Value.slice none qBMa qBMa=Value.slice none qBMa qBMa/\True)
abbrev qBM7 (a0:Int) (b0:CX):=((Fn.func (103:Nat)=Fn.func (103:Nat)/\True/\qBMa=qBMa/\True)/\(Fn.func (107:Nat)=Fn.func (107:Nat)/\True/\qBMa=qBMa/\True)/\qBMa=qBMa/\qBMa=qBMa/\a0=CX.op b0/\True)
abbrev qBM9:=(false=true->false=true)
theorem Zvp (n:Nat) (pf:PE) (l:List Tok) (e:Int) (out:PR Ex):Zh E (Fxp n pf) (vc E (Fxp n pf) 400) 65 [.ptr 0 0] (one [.psl Th.toks l false,.int false .i64 e]) 1 (mK .nil n0 dEx (fun _=>rfl) l e out)=(
 List.length l+(1:Nat)<=n/\(∀(y:Ex) (x':PX),pf l e=Except.ok (y,x')->True/\(∀(y_1:Int) (x'_1:PX),pOp op2 (Prod.fst x') (Prod.fst (Prod.snd x'))=Except.ok (y_1,x'_1)->∃(R:CX->Prop),(∃(x:CX),R x/\true=true/\(qBM7 y_1 x)/\((Prod.fst x'_1=CX.l x/\qBM9)/\Prod.fst (Prod.snd x'_1)=CX.ed x/\True)/\(qBMa=qBMa/\True)/\(Ex.op y=Ex.op (CX.e x)/\Ex.n y=Ex.n (CX.e x)/\Ex.d0 y=Ex.d0 (CX.e x)/\Ex.d1 y=Ex.d1 (CX.e x)/\Ex.d2 y=Ex.d2 (CX.e x)/\Ex.d3 y=Ex.d3 (CX.e x)/\(Ex.l y=Ex.l (CX.e x)/\qBM9)/\True)/\qBM6/\True)/\∀(x:CX),R x->((CX.op x !=qBM8)=true->List.length (CX.l x)+(1:Nat)<=n/\(∀(y:Ex) (x':PX),pf (CX.l x) (CX.ed x)=Except.ok (y,x')->True/\(∀(y_2:Int) (x'_2:PX),pOp op2 (Prod.fst x') (Prod.fst (Prod.snd x'))=Except.ok (y_2,x'_2)->∃(x_1:CX),R x_1/\x_1.5+(1:Nat)<=x.5/\true=true/\(qBM7 y_2 x_1)/\((Prod.fst x'_2=CX.l x_1/\qBM9)/\Prod.fst (Prod.snd x'_2)=CX.ed x_1/\True)/\(qBMa=qBMa/\True)/\(CX.op x=Ex.op (CX.e x_1)/\qBM8=Ex.n (CX.e x_1)/\qBM8=Ex.d0 (CX.e x_1)/\qBM8=Ex.d1 (CX.e x_1)/\qBM8=Ex.d2 (CX.e x_1)/\qBM8=Ex.d3 (CX.e x_1)/\([Ex.mk (Ex.op (CX.e x)) (Ex.n (CX.e x)) (Ex.d0 (CX.e x)) (Ex.d1 (CX.e x)) (Ex.d2 (CX.e x)) (Ex.d3 (CX.e x)) (Ex.l (CX.e x)),Ex.mk (Ex.op y) (Ex.n y) (Ex.d0 y) (Ex.d1 y) (Ex.d2 y) (Ex.d3 y) (Ex.l y)]=Ex.l (CX.e x_1)/\qBM9)/\True)/\qBM6/\True)/\∀(e:Int×Int),pOp op2 (Prod.fst x') (Prod.fst (Prod.snd x'))=Except.error e->out=Except.error e)/\∀(e:Int×Int),pf (CX.l x) (CX.ed x)=Except.error e->out=Except.error e)/\((CX.op x !=qBM8)=false->out=Except.ok (Ex.mk (Ex.op (CX.e x)) (Ex.n (CX.e x)) (Ex.d0 (CX.e x)) (Ex.d1 (CX.e x)) (Ex.d2 (CX.e x)) (Ex.d3 (CX.e x)) (Ex.l (CX.e x)),CX.l x,CX.ed x,())))/\∀(e:Int×Int),pOp op2 (Prod.fst x') (Prod.fst (Prod.snd x'))=Except.error e->out=Except.error e)/\∀(e_1:Int×Int),pf l e=Except.error e_1->out=Except.error e_1):=by kernel_rfl
theorem Ycm {n:Nat} {pf:PE} (hpf:∀l e,l.length<n->Z9 (mI .nil n0 dEx (fun _=>rfl)) 105 (l,e,()) () (pf l e)):FnsOk E (Ftm n pf):=Zn E_ok (Za (Za F0_ok (Xe E_ok (Zb rfl) fun x _ h=>hpf x.1 x.2.1 h)) Z8g) _ _ _
theorem Ycn {n:Nat} {pf:PE} (hpf:∀l e,l.length<n->Zcc (mI .nil n0 dEx (fun _=>rfl)) 103 (l,e,()) () (pf l e)):FnsOk E (Fxp n pf):=Zn E_ok (Za (Za F0_ok (Ziq E_ok (Zb rfl) fun x _ h=>hpf x.1 x.2.1 h)) Z8h) _ _ _
theorem Z16 {n:Nat} {pf:PE} (hpf:∀l e,l.length<n->Z9 (mI .nil n0 dEx (fun _=>rfl)) 105 (l,e,()) () (pf l e)) (H:Shr pf) (l:List Tok) (e:Int) (hl:l.length<n):
 Zcc (mI .nil n0 dEx (fun _=>rfl)) 103 (l,e,()) () (pCh op1 pf l e):=by
 refine Zmm (Ycm hpf) (n:=400) (a:=()) ?_
 rw [show (DcL.nil (E:=E)).enc ()= [] from rfl,Zvo];delta qBM3 qBM5 qBM1 qBM2 qBM4
 refine ⟨by omega,fun y x' h=>⟨trivial,fun y1 x1 ho=> ?_,fun er ho=>by cases ho⟩,fun er h=>by simp [pCh,h]⟩
 unfold pOp at ho
 injection ho with ho
 injection ho with ho1 ho2
 subst ho1;subst ho2
 have hs:=H _ _ _ _ h
 have hs2:=Zmn x'.1
 refine ⟨fun x=>Yx op1 pf x.k x.e x.op x.l x.ed=pCh op1 pf l e/\x.l.length<x.k/\x.l.length<n,⟨⟨y,(op1 x'.1).1,(op1 x'.1).2,x'.2.1,(op1 x'.1).2.length+1⟩,⟨by simp [pCh,h],(by show (op1 x'.1).2.length<(op1 x'.1).2.length+1;omega),(by show (op1 x'.1).2.length<n;omega)⟩,by simp⟩,?_⟩
 rintro ⟨x,op,l1,ed,k⟩ ⟨hR,hk,hn⟩
 have hk:l1.length<k:=hk
 have hn:l1.length<n:=hn
 cases k with
 |zero=>omega
 |succ k=>
  have hR:Yx op1 pf (k+1) x op l1 ed=pCh op1 pf l e:=hR
  rw [<-hR]
  refine ⟨fun h0=>⟨by omega,fun y2 x2 h2=>⟨trivial,fun y3 x3 h3=> ?_,fun er h3=>by cases h3⟩,fun er h2=> ?_⟩,fun h0=> ?_⟩
  · unfold pOp at h3
    injection h3 with h3
    injection h3 with h31 h32
    subst h31;subst h32
    have h0:op≠0:=by simpa using h0
    have h2:pf l1 ed= .ok (y2,x2):=h2
    have hq:=H _ _ _ _ h2
    have hq2:=Zmn x2.1
    refine ⟨⟨.mk op 0 0 0 0 0 [x,y2],(op1 x2.1).1,(op1 x2.1).2,x2.2.1,k⟩,⟨?_,(by show (op1 x2.1).2.length<k;omega),(by show (op1 x2.1).2.length<n;omega)⟩,Nat.le_refl _,?_⟩
    · show Yx op1 pf k _ _ _ _=_
      simp [Yx,h0,h2]
    · simp only [Ex.eta]
      repeat' (first|exact rfl|exact trivial|exact fun h=>h|apply And.intro)
  · have h0:op≠0:=by simpa using h0
    have h2:pf l1 ed= .error er:=h2
    simp [Yx,h0,h2]
  · have h0:op=0:=by simpa using h0
    simp [Yx,h0,Ex.eta]
theorem Zvq {n:Nat} {pf:PE} (hpf:∀l e,l.length<n->Zcc (mI .nil n0 dEx (fun _=>rfl)) 103 (l,e,()) () (pf l e)) (H:Shr pf) (l:List Tok) (e:Int) (hl:l.length<n):
 Z9 (mI .nil n0 dEx (fun _=>rfl)) 65 (l,e,()) () (pCh op2 pf l e):=by
 refine Un (Ycn hpf) (n:=400) (a:=()) ?_
 rw [show (DcL.nil (E:=E)).enc ()= [] from rfl,Zvp];delta qBMa qBM8 qBM6 qBM7 qBM9
 refine ⟨by omega,fun y x' h=>⟨trivial,fun y1 x1 ho=> ?_,fun er ho=>by cases ho⟩,fun er h=>by simp [pCh,h]⟩
 unfold pOp at ho
 injection ho with ho
 injection ho with ho1 ho2
 subst ho1;subst ho2
 have hs:=H _ _ _ _ h
 have hs2:=Zmo x'.1
 refine ⟨fun x=>Yx op2 pf x.k x.e x.op x.l x.ed=pCh op2 pf l e/\x.l.length<x.k/\x.l.length<n,⟨⟨y,(op2 x'.1).1,(op2 x'.1).2,x'.2.1,(op2 x'.1).2.length+1⟩,⟨by simp [pCh,h],(by show (op2 x'.1).2.length<(op2 x'.1).2.length+1;omega),(by show (op2 x'.1).2.length<n;omega)⟩,by simp⟩,?_⟩
 rintro ⟨x,op,l1,ed,k⟩ ⟨hR,hk,hn⟩
 have hk:l1.length<k:=hk
 have hn:l1.length<n:=hn
 cases k with
 |zero=>omega
 |succ k=>
  have hR:Yx op2 pf (k+1) x op l1 ed=pCh op2 pf l e:=hR
  rw [<-hR]
  refine ⟨fun h0=>⟨by omega,fun y2 x2 h2=>⟨trivial,fun y3 x3 h3=> ?_,fun er h3=>by cases h3⟩,fun er h2=> ?_⟩,fun h0=> ?_⟩
  · unfold pOp at h3
    injection h3 with h3
    injection h3 with h31 h32
    subst h31;subst h32
    have h0:op≠0:=by simpa using h0
    have h2:pf l1 ed= .ok (y2,x2):=h2
    have hq:=H _ _ _ _ h2
    have hq2:=Zmo x2.1
    refine ⟨⟨.mk op 0 0 0 0 0 [x,y2],(op2 x2.1).1,(op2 x2.1).2,x2.2.1,k⟩,⟨?_,(by show (op2 x2.1).2.length<k;omega),(by show (op2 x2.1).2.length<n;omega)⟩,Nat.le_refl _,?_⟩
    · show Yx op2 pf k _ _ _ _=_
      simp [Yx,h0,h2]
    · simp only [Ex.eta]
      repeat' (first|exact rfl|exact trivial|exact fun h=>h|apply And.intro)
  · have h0:op≠0:=by simpa using h0
    have h2:pf l1 ed= .error er:=h2
    simp [Yx,h0,h2]
  · have h0:op=0:=by simpa using h0
    simp [Yx,h0,Ex.eta]
end
section
open Go
def Bnd (pe:PE):Prop:=∀l e x y,pe l e= .ok (x,y)->x.sz+2*y.1.length<=2*l.length
theorem Bnd.shr {pe:PE} (h:Bnd pe):Shr pe:=fun l e x y hq=>by
 have:=h l e x y hq
 have:=Ex.sz_pos x
 omega
theorem Zgt:∀(a b:List Ex),Ex.szL (a++b)=Ex.szL a+Ex.szL b
 | [],b=>by simp [Ex.szL]
 |x::a,b=>by simp [Ex.szL,Zgt a b];omega
theorem Zpx {pe:PE} (h:Bnd pe):∀{ss:List (List Nat)} {acc:List Ex} {l:List Tok} {e:Int} {xs:List Ex} {y:PX},pOpL pe ss acc l e= .ok (xs,y)->Ex.szL xs+2*y.1.length<=Ex.szL acc+2*l.length
 | [],acc,l,e,xs,y,hq=>by
  unfold pOpL at hq
  injection hq with hq
  injection hq with h1 h2
  subst h1;subst h2
  exact Nat.le_refl _
 |s::r,acc,l,e,xs,y,hq=>by
  unfold pOpL at hq
  split at hq
  · cases hq
  · rename_i x z hx
    split at hq
    · rename_i hw
      have h1:=h _ _ _ _ hx
      have h2:=Zi hw
      have h3:=Zpx h hq
      rw [Zgt] at h3
      have h4:Ex.szL [x]=x.sz:=by simp [Ex.szL]
      omega
    · cases hq
theorem Zpy {pe:PE} (h:Bnd pe) {op:Int} {ss:List (List Nat)} {l:List Tok} {e:Int} {x:Ex} {y:PX} (hq:pOps pe op ss l e= .ok (x,y)):x.sz+2*y.1.length<=2*l.length:=by
 unfold pOps at hq
 split at hq
 · rename_i hw
   split at hq
   · cases hq
   · rename_i xs z hx
     injection hq with hq
     injection hq with h1 h2
     subst h1;subst h2
     have h3:=Zpx h hx
     have h2:=Zi hw
     rw [Ex.sz_eq]
     show Ex.szL xs+1+_<=_
     have:Ex.szL ([]:List Ex)=0:=rfl
     omega
 · cases hq
theorem Zu2 {l:List Tok} {e:Int} {d:List Int} {y:PX} (hq:Wj l e= .ok (d,y)):y.1.length<=l.length:=by
 unfold Wj at hq
 split at hq
 · cases hq
 · rename_i k x hc
   have hx:x.1.length<=l.length:=by
    rcases Xg hc with ⟨h1,_,rfl⟩|⟨_,_,rfl⟩
    · have:=Zag h1;show l.tail.length<=_;omega
    · exact Nat.le_refl _
   split at hq
   · rename_i hw
     have hw:=Zi hw
     split at hq
     · cases hq
     · rename_i j x1 hm
       obtain ⟨h1,_,rfl⟩:=Uj hm
       have:=Zag h1
       injection hq with hq
       injection hq with _ h2
       subst h2
       show x.1.tail.tail.length<=_
       omega
   · injection hq with hq
     injection hq with _ h2
     subst h2
     exact hx
theorem Zj2 {pe:PE} (h:Bnd pe):Bnd (V2 pe):=by
 intro l e x y hq
 unfold V2 at hq
 split at hq
 · rename_i hw
   have hw:=Zi hw
   split at hq
   · cases hq
   · rename_i x1 y1 hx
     have h1:=h _ _ _ _ hx
     split at hq
     · rename_i hw2
       have hw2:=Zi hw2
       injection hq with hq
       injection hq with h2 h3
       subst h2;subst h3
       show _+2*y1.1.tail.length<=_
       omega
     · cases hq
 · split at hq
   · rename_i hw
     have hw:=Zi hw
     have:=Zpy h hq
     omega
   · split at hq
     · cases hq
     · rename_i k y1 hc
       split at hq
       · have h1:=Zpy h hq
         rcases Xg hc with ⟨h2,_,rfl⟩|⟨_,_,rfl⟩
         · have:=Zag h2
           have h1:x.sz+2*y.1.length<=2*l.tail.length:=h1
           omega
         · exact h1
       · split at hq
         · cases hq
         · rename_i a z hm
           obtain ⟨h1,_,rfl⟩:=Uj hm
           have hp:=Zag h1
           injection hq with hq
           injection hq with h2 h3
           subst h2;subst h3
           have hy:y1.1.length<=l.length:=by
            rcases Xg hc with ⟨h2,_,rfl⟩|⟨_,_,rfl⟩
            · have:=Zag h2;show l.tail.length<=_;omega
            · exact Nat.le_refl _
           show 1+2*y1.1.tail.length<=_
           omega
theorem Vc {pe:PE} (h:Bnd pe):Bnd (pFac pe):=by
 intro l e x y hq
 unfold pFac at hq
 split at hq
 · exact Zj2 h _ _ _ _ hq
 · split at hq
   · split at hq
     · cases hq
     · rename_i t r _ _ d z hu
       have h1:=Zu2 hu
       injection hq with hq
       injection hq with h2 h3
       subst h2;subst h3
       show 1+2*z.1.length<=2*(r.length+1)
       omega
   · exact Zj2 h _ _ _ _ hq
def Cns (o:List Tok->Int×List Tok):Prop:=∀l,2*(o l).2.length+(if (o l).1=0 then 0 else 2)<=2*l.length
theorem Zc0:Cns op1:=by
 intro l
 unfold op1;split
 · have:=Zi (by assumption);show 2*l.tail.length+2<=_;omega
 · simp
theorem Z78:Cns op2:=by
 intro l
 unfold op2;split
 · have:=Zi (by assumption);show 2*l.tail.length+2<=_;omega
 · split
   · have:=Zi (by assumption);show 2*l.tail.length+2<=_;omega
   · simp
theorem Zj3 {o:List Tok->Int×List Tok} {pf:PE} (ho:Cns o) (h:Bnd pf):∀{k:Nat} {x:Ex} {op:Int} {l:List Tok} {e:Int} {z:Ex} {y:PX},Yx o pf k x op l e= .ok (z,y)->z.sz+2*y.1.length<=x.sz+2*l.length+(if op=0 then 0 else 2)
 |0,x,op,l,e,z,y,hq=>by
  unfold Yx at hq
  injection hq with hq
  injection hq with h2 h3
  subst h2;subst h3
  exact Nat.le_add_right _ _
 |k+1,x,op,l,e,z,y,hq=>by
  unfold Yx at hq
  split at hq
  · injection hq with hq
    injection hq with h2 h3
    subst h2;subst h3
    exact Nat.le_add_right _ _
  · rename_i hop
    split at hq
    · cases hq
    · rename_i y1 z1 hx
      have h1:=h _ _ _ _ hx
      have h2:=Zj3 ho h hq
      have h3:=ho z1.1
      have h4:(Ex.mk op 0 0 0 0 0 [x,y1]).sz=x.sz+y1.sz+1:=by rw [Ex.sz_eq];simp [Ex.l,Ex.szL]
      rw [h4] at h2
      rw [if_neg hop]
      omega
theorem Zbd {o:List Tok->Int×List Tok} {pf:PE} (ho:Cns o) (h:Bnd pf):Bnd (pCh o pf):=by
 intro l e x y hq
 unfold pCh at hq
 split at hq
 · cases hq
 · rename_i y1 z1 hx
   have h1:=h _ _ _ _ hx
   have h2:=Zj3 ho h hq
   have h3:=ho z1.1
   omega
def pE:Nat->PE
 |0=>fun l e=> .error (hdT e l,160)
 |n+1=>pCh op2 (pCh op1 (pFac (pE n)))
theorem Vd:∀n,Bnd (pE n)
 |0=>fun l e x y hq=>by cases hq
 |n+1=>Zbd Z78 (Zbd Zc0 (Vc (Vd n)))
theorem Zpz:∀(n:Nat) (l:List Tok) (e:Int),l.length<n->Z9 (mI .nil n0 dEx (fun _=>rfl)) 65 (l,e,()) () (pE n l e)
 |0,l,e,h=>by omega
 |n+1,l,e,h=>Zvq (n:=n+1) (fun l e h=>Z16 (n:=n+1) (fun l e h=>Zt2 (Zpz n) (Vd n).shr l e h) (Vc (Vd n)).shr l e h) (Zbd Zc0 (Vc (Vd n))).shr l e h
def pX (l:List Tok) (e:Int):PR Ex:=pE (l.length+1) l e
noncomputable def Sx:Sum thy:=sumM (mI .nil n0 dEx (fun _=>rfl)) (fun _ _=>True) fun x _=>pX x.1 x.2.1
theorem Yf4:SumOk E 65 Sx:=Xe E_ok (Zb rfl) fun x _ _=>Zpz _ _ _ (Nat.lt_succ_self _)
theorem Zp0:Bnd pX:=fun l e x y hq=>Vd _ l e x y hq
end
section
open Go
end
section
open Go
def Yd (w:Tst):Bool:=decide (0<=w.attr/\w.attr<16/\0<=w.low/\w.low<=1099511627776/\0<=w.high/\w.high<=1099511627776)
def Wq (c:Cls):Bool:=W6 c.name&&Ya c.pay&&c.when_.all Yd
def resF (s:List Nat):Bool:=decide (s∈resW)
noncomputable def goC:Bool->Bool->List (List Nat×Bool)->List Cls->Int
 |a,b,_,[]=>if a=true then 161 else if b=true then 2 else 0
 |a,b,m,c::r=>if Wq c=true then goC (a||resF c.name||(Y3 m c.name).getD false) (b||decide (8<c.when_.length)||decide (24<Zo c.pay)) (putS m c.name true) r else 1
noncomputable def Xt (t:Tar):Int:=if W6 t.name=true/\1<=t.for_/\t.for_<=6 then goC (resF t.name) (decide (64<t.clauses.length)) [] t.clauses else 1
noncomputable def Yb9:Sum thy:=sumP (dA1 dS) (fun _=>True) fun x=> .bool false (W6 x.1)
theorem Z1r:SumOk E 47 Yb9:=Zv E_ok (Zb (f:=47) rfl) fun x h=>Zx4 _
noncomputable def Sres:Sum thy:=sumP (dA1 dS) (fun _=>True) fun x=> .bool false (resF x.1)
theorem Z71:SumOk E 48 Sres:=Zv E_ok (Zb (f:=48) rfl) fun x h=>Zqv _
noncomputable def Zuz:Sum thy:=sumP dExp (fun x=>x.1.sz<1000000000000) fun x=> .bool false (Ya x.1)
theorem Zr1:SumOk E 49 Zuz:=Zv E_ok (Zb (f:=49) rfl) fun x h=>Z1y _ (Nat.le_refl _) _ h
noncomputable def Zhq:Sum thy:=sumP dExp (fun x=>x.1.sz<1000000000000) fun x=> .int false .i64 (Zo x.1:Int)
theorem Zeh:SumOk E 50 Zhq:=Zv E_ok (Zb (f:=50) rfl) fun x h=>Z41 _ _ (Nat.le_refl _) (Nat.le_of_lt h)
structure CkX where
 k:Nat
 r:Nat
 a:Bool
 b:Bool
 m:List (List Nat×Bool)
def blkM {Y:Thy} (h:Hp Y) (v:SV Y):List (Nat×Blk Y):=match v with| .map b=>(match h b with|some x=> [(b,x)]|none=> [])|_=> []
noncomputable def Ack:Fr thy->Hp thy->Nat->Ann thy:=fun T h i=>{X:=CkX,fr:=fun x=> [(3,.bool false x.a),(4,.bool false x.b),(5,T 5),(33,T 33),(34,T 34),(35,.int false .i64 x.k)],bl:=fun x=> [(bOf (T 5),.map (Yw (Wd E Th.bools false) x.m))],src:=fun _=> [],md:= [bOf (T 5)],ih:=i,M:=i+40,meas:=fun x=>x.r}
noncomputable def Atst:Fr thy->Hp thy->Nat->Ann thy:=fun T h i=>{X:=DX,fr:=fun x=> [(3,T 3),(4,T 4),(5,T 5),(7,T 7),(33,T 33),(34,T 34),(35,T 35),(50,T 50),(51,T 51),(52,.int false .i64 x.k)],bl:=fun x=>blkP h (T 7)++blkM h (T 5),src:=fun _=> [],md:= [],ih:=i,M:=i+30,meas:=fun x=>x.r}
noncomputable def Fck:Fns thy:=addL (addL (addS (addS (addS (addS F0 47 Yb9) 48 Sres) 49 Zuz) 50 Zhq) 17 6 Ack E) 17 11 Atst E
theorem Yca:FnsOk E Fck:=Zn E_ok (Zn E_ok (Za (Za (Za (Za F0_ok Z1r) Z71) Zr1) Zeh) _ _ _) _ _ _
def tarA (t:Tar):SV thy:= .agg (encF false .tariffs t)
noncomputable abbrev qBPb:=(Wd E Th.bools false)
noncomputable abbrev qBPl:=(1:Nat)
noncomputable abbrev qBP9:=(Wd E Th.bools (Zk TypeDesc.bool))
noncomputable abbrev qBPm (a0:Cls):=(mkS (Cls.name a0))
noncomputable abbrev qBP7 (a0:List (List Nat×Bool)):=(∀(p:List Nat×Bool),p∈a0->toL (mkS (Prod.fst p))=Prod.fst p)
noncomputable abbrev qBPg:=(false=true->false=true)
noncomputable abbrev qBP6 (a0:Tar):=(Tar.clauses a0=Tar.clauses a0/\qBPg)
noncomputable abbrev qBPe (a0:CkX):=(↑(CkX.k a0):Int)
noncomputable abbrev qBP5 (a0:Tar):=(↑(List.length (Tar.clauses a0)):Int)
noncomputable abbrev qBPj:=(1:Int)
noncomputable abbrev qBPa (a0:CkX) (b0:Tar) (c0:CkX):=(true=CkX.a a0/\true=CkX.b a0/\True/\(qBP6 b0)/\(qBP5 b0)=(qBP5 b0)/\wr IntKind.i64 ((qBPe c0)+qBPj)=(qBPe a0)/\True)
noncomputable abbrev qBP3 (a0:List (List Nat×Bool)) (b0:Cls) (c0:CkX):=(Yw qBP9 (putS a0 (Cls.name b0) true)=Yw qBPb (CkX.m c0)/\nidE (0:Nat) (Yw qBP9 (putS a0 (Cls.name b0) true))=true)
noncomputable abbrev qBPf (a0:CkX) (b0:Cls) (c0:CkX->Prop) (d0:Tar):=(CkX.b a0=true->∃(l:List (List Nat×Bool)),Yw qBPb (CkX.m a0)=Yw qBP9 l/\(qBP7 l)/\toL (qBPm b0)=Cls.name b0/\∃(x_3:CkX),c0 x_3/\x_3.2+qBPl<=a0.2/\true=true/\(qBPa x_3 d0 a0)/\(qBP3 l b0 x_3)/\True)
noncomputable abbrev qBPn (a0:DX):=(↑(DX.k a0):Int)
noncomputable abbrev qBPp (a0:Cls):=(Cls.pay a0)
noncomputable abbrev qBP8 (a0:Cls):=(Cls.name a0=Cls.name a0/\(Cls.when_ a0=Cls.when_ a0/\qBPg)/\Ex.op (qBPp a0)=Ex.op (qBPp a0)/\Ex.n (qBPp a0)=Ex.n (qBPp a0)/\Ex.d0 (qBPp a0)=Ex.d0 (qBPp a0)/\Ex.d1 (qBPp a0)=Ex.d1 (qBPp a0)/\Ex.d2 (qBPp a0)=Ex.d2 (qBPp a0)/\Ex.d3 (qBPp a0)=Ex.d3 (qBPp a0)/\(Ex.l (qBPp a0)=Ex.l (qBPp a0)/\qBPg)/\True)
noncomputable abbrev qBP4 (a0:Cls):=(Ex.mk (Ex.op (qBPp a0)) (Ex.n (qBPp a0)) (Ex.d0 (qBPp a0)) (Ex.d1 (qBPp a0)) (Ex.d2 (qBPp a0)) (Ex.d3 (qBPp a0)) (Ex.l (qBPp a0)))
noncomputable abbrev qBPi (a0:Cls):=((↑(Zo (qBP4 a0)):Int)>(24:Int))
noncomputable abbrev qBPk (a0:CkX):=(Yw qBPb (CkX.m a0)=Yw qBPb (CkX.m a0)/\nidE (0:Nat) (Yw qBPb (CkX.m a0))=true)
noncomputable abbrev qBPo:=(0:Int)
noncomputable abbrev qBPc (a0:Cls):=(↑(List.length (Cls.when_ a0)):Int)
noncomputable abbrev qBPd (a0:Bool) (b0:CkX) (c0:Tar) (d0:CkX):=(a0=CkX.a b0/\true=CkX.b b0/\True/\(qBP6 c0)/\(qBP5 c0)=(qBP5 c0)/\wr IntKind.i64 ((qBPe d0)+qBPj)=(qBPe b0)/\True)
noncomputable abbrev qBP2 (a0:CkX) (b0:Cls) (c0:CkX->Prop) (d0:Tar):=(CkX.b a0=false->(decide ((qBPc b0)>(8:Int))=true->∃(l:List (List Nat×Bool)),Yw qBPb (CkX.m a0)=Yw qBP9 l/\(qBP7 l)/\toL (qBPm b0)=Cls.name b0/\∃(x_3:CkX),c0 x_3/\x_3.2+qBPl<=a0.2/\true=true/\(qBPa x_3 d0 a0)/\(qBP3 l b0 x_3)/\True)/\(decide ((qBPc b0)>(8:Int))=false->Ex.sz (qBP4 b0)+qBPl<=(1000000000000:Nat)/\(decide (qBPi b0)=true->∃(l:List (List Nat×Bool)),Yw qBPb (CkX.m a0)=Yw qBP9 l/\(qBP7 l)/\toL (qBPm b0)=Cls.name b0/\∃(x_3:CkX),c0 x_3/\x_3.2+qBPl<=a0.2/\true=true/\(qBPa x_3 d0 a0)/\(qBP3 l b0 x_3)/\True)/\(decide (qBPi b0)=false->∃(l:List (List Nat×Bool)),Yw qBPb (CkX.m a0)=Yw qBP9 l/\(qBP7 l)/\toL (qBPm b0)=Cls.name b0/\∃(x_3:CkX),c0 x_3/\x_3.2+qBPl<=a0.2/\true=true/\(true=CkX.a x_3/\false=CkX.b x_3/\True/\(qBP6 d0)/\(qBP5 d0)=(qBP5 d0)/\wr IntKind.i64 ((qBPe a0)+qBPj)=(qBPe x_3)/\True)/\(qBP3 l b0 x_3)/\True)))
noncomputable abbrev qBP1 (a0:CkX) (b0:Tar) (c0:Int) (d0:CkX->Prop):=(decide ((qBPe a0)<(qBP5 b0))=true->qBPo<=(qBPe a0)/\(qBPe a0)+qBPj<=(qBP5 b0)/\∀(x_1:Cls),(Tar.clauses b0)[Int.toNat (qBPe a0)]? =some x_1->True/\((!W6 (Cls.name x_1))=true->qBPj=c0)/\((!W6 (Cls.name x_1))=false->Ex.sz (qBP4 x_1)+qBPl<=(1000000000000:Nat)/\((!Ya (qBP4 x_1))=true->qBPj=c0)/\((!Ya (qBP4 x_1))=false->∃(R_1:DX->Prop),(∃(x_2:DX),R_1 x_2/\true=true/\(CkX.a a0=CkX.a a0/\CkX.b a0=CkX.b a0/\True/\(0:Nat)=(0:Nat)/\(qBP6 b0)/\(qBP5 b0)=(qBP5 b0)/\(qBPe a0)=(qBPe a0)/\(Cls.when_ x_1=Cls.when_ x_1/\qBPg)/\(qBPc x_1)=(qBPc x_1)/\qBPo=(qBPn x_2)/\True)/\(qBP8 x_1)/\(qBPk a0)/\True)/\∀(x_2:DX),R_1 x_2->(decide ((qBPn x_2)<(qBPc x_1))=true->qBPo<=(qBPn x_2)/\(qBPn x_2)+qBPj<=(qBPc x_1)/\∀(x_3:Tst),(Cls.when_ x_1)[Int.toNat (qBPn x_2)]? =some x_3->∃(Q:Bool->Prop),((decide (Tst.attr x_3<qBPo)=true->Q true)/\(decide (Tst.attr x_3<qBPo)=false->(decide (Tst.attr x_3>=(16:Int))=true->Q true)/\(decide (Tst.attr x_3>=(16:Int))=false->(decide (mm2 false (Tst.low x_3) (Tst.high x_3)<qBPo)=true->Q true)/\(decide (mm2 false (Tst.low x_3) (Tst.high x_3)<qBPo)=false->(decide (mm2 true (Tst.low x_3) (Tst.high x_3)>(1099511627776:Int))=true->Q true)/\(decide (mm2 true (Tst.low x_3) (Tst.high x_3)>(1099511627776:Int))=false->Q false)))))/\(Q true->qBPj=c0)/\(Q false->∃(x_4:DX),R_1 x_4/\x_4.2+qBPl<=x_2.2/\true=true/\(CkX.a a0=CkX.a a0/\CkX.b a0=CkX.b a0/\True/\(0:Nat)=(0:Nat)/\(qBP6 b0)/\(qBP5 b0)=(qBP5 b0)/\(qBPe a0)=(qBPe a0)/\(Cls.when_ x_1=Cls.when_ x_1/\qBPg)/\(qBPc x_1)=(qBPc x_1)/\wr IntKind.i64 ((qBPn x_2)+qBPj)=(qBPn x_4)/\True)/\(qBP8 x_1)/\(qBPk a0)/\True))/\(decide ((qBPn x_2)<(qBPc x_1))=false->(CkX.a a0=true->(qBPf a0 x_1 d0 b0)/\(qBP2 a0 x_1 d0 b0))/\(CkX.a a0=false->True/\(resF (Cls.name x_1)=true->(qBPf a0 x_1 d0 b0)/\(qBP2 a0 x_1 d0 b0))/\(resF (Cls.name x_1)=false->∃(l:List (List Nat×Bool)),Yw qBPb (CkX.m a0)=Yw qBP9 l/\(qBP7 l)/\∀(y:Bool),y=Option.getD (Y3 l (Cls.name x_1)) false->(CkX.b a0=true->∃(l:List (List Nat×Bool)),Yw qBPb (CkX.m a0)=Yw qBP9 l/\(qBP7 l)/\toL (qBPm x_1)=Cls.name x_1/\∃(x_3:CkX),d0 x_3/\x_3.2+qBPl<=a0.2/\true=true/\(qBPd y x_3 b0 a0)/\(qBP3 l x_1 x_3)/\True)/\(CkX.b a0=false->(decide ((qBPc x_1)>(8:Int))=true->∃(l:List (List Nat×Bool)),Yw qBPb (CkX.m a0)=Yw qBP9 l/\(qBP7 l)/\toL (qBPm x_1)=Cls.name x_1/\∃(x_3:CkX),d0 x_3/\x_3.2+qBPl<=a0.2/\true=true/\(qBPd y x_3 b0 a0)/\(qBP3 l x_1 x_3)/\True)/\(decide ((qBPc x_1)>(8:Int))=false->Ex.sz (qBP4 x_1)+qBPl<=(1000000000000:Nat)/\(decide (qBPi x_1)=true->∃(l:List (List Nat×Bool)),Yw qBPb (CkX.m a0)=Yw qBP9 l/\(qBP7 l)/\toL (qBPm x_1)=Cls.name x_1/\∃(x_3:CkX),d0 x_3/\x_3.2+qBPl<=a0.2/\true=true/\(qBPd y x_3 b0 a0)/\(qBP3 l x_1 x_3)/\True)/\(decide (qBPi x_1)=false->∃(l:List (List Nat×Bool)),Yw qBPb (CkX.m a0)=Yw qBP9 l/\(qBP7 l)/\toL (qBPm x_1)=Cls.name x_1/\∃(x_3:CkX),d0 x_3/\x_3.2+qBPl<=a0.2/\true=true/\(y=CkX.a x_3/\false=CkX.b x_3/\True/\(qBP6 b0)/\(qBP5 b0)=(qBP5 b0)/\wr IntKind.i64 ((qBPe a0)+qBPj)=(qBPe x_3)/\True)/\(qBP3 l x_1 x_3)/\True)))))))))
noncomputable abbrev qBPh (a0:CkX) (b0:Tar) (c0:Int):=(decide ((qBPe a0)<(qBP5 b0))=false->(CkX.a a0=true->(161:Int)=c0)/\(CkX.a a0=false->(CkX.b a0=true->(2:Int)=c0)/\(CkX.b a0=false->qBPo=c0)))
theorem Z72 (t:Tar) (v:Int):Zh E Fck (vc E Fck 400) 17 [tarA t] hp0 0 (fun r=>ret E (patch hp0 0 r) r.v (.int false .i64 v))=(
 True/\((!W6 (Tar.name t))=true->qBPj=v)/\((!W6 (Tar.name t))=false->(decide (Tar.for_ t<qBPj)=true->qBPj=v)/\(decide (Tar.for_ t<qBPj)=false->(decide (Tar.for_ t>(6:Int))=true->qBPj=v)/\(decide (Tar.for_ t>(6:Int))=false->True/\(decide ((qBP5 t)>(64:Int))=true->∃(R:CkX->Prop),(∃(x:CkX),R x/\true=true/\(resF (Tar.name t)=CkX.a x/\true=CkX.b x/\True/\(qBP6 t)/\(qBP5 t)=(qBP5 t)/\qBPo=(qBPe x)/\True)/\([]=Yw qBPb (CkX.m x)/\true=true)/\True)/\∀(x:CkX),R x->(qBP1 x t v R)/\(qBPh x t v))/\(decide ((qBP5 t)>(64:Int))=false->∃(R:CkX->Prop),(∃(x:CkX),R x/\true=true/\(resF (Tar.name t)=CkX.a x/\false=CkX.b x/\True/\(qBP6 t)/\(qBP5 t)=(qBP5 t)/\qBPo=(qBPe x)/\True)/\([]=Yw qBPb (CkX.m x)/\true=true)/\True)/\∀(x:CkX),R x->(qBP1 x t v R)/\(qBPh x t v)))))):=by kernel_rfl
theorem Z73 {g:GH} {t:Tar} {u:Value} (h:Den E σ0 g (tarA t) u):Byt t.name/\∀c∈t.clauses,Byt c.name:=by
 obtain ⟨arr,c,rfl,hs,hc,hd⟩:=Yg h
 refine ⟨Zob (hd 0 _ rfl),fun x hx=> ?_⟩
 have h2:=hd 2 (.psl Th.clauses t.clauses false) rfl
 obtain ⟨v,hv⟩:=Z47 h2 x hx 0 (.str false x.name) rfl
 exact Zob hv
theorem Zhr (a b:Bool) (m:List (List Nat×Bool)) (c:Cls) (r:List Cls):goC a b m (c::r)=if Wq c=true then goC (a||resF c.name||(Y3 m c.name).getD false) (b||decide (8<c.when_.length)||decide (24<Zo c.pay)) (putS m c.name true) r else 1:=rfl
theorem Zps {l:List Tst} {k:Nat} {w:Tst} (h:l[k]? =some w):(l.drop k).all Yd=(Yd w&&(l.drop (k+1)).all Yd):=by rw [Ug h,List.all_cons]
theorem Zhs {β:Type}:∀{m:List (List Nat×β)} {a:List Nat} {v:β},(∀p∈m,Byt p.1)->Byt a->∀p∈putS m a v,Byt p.1
 | [],a,v,_,ha,p,hp=>by
  rw [putS] at hp
  obtain rfl:=List.mem_singleton.1 hp
  exact ha
 |q::m,a,v,hm,ha,p,hp=>by
  rw [putS] at hp
  split at hp
  · rcases List.mem_cons.1 hp with rfl|hp
    · exact hm q (List.mem_cons_self ..)
    · exact hm p (List.mem_cons_of_mem _ hp)
  · rcases List.mem_cons.1 hp with rfl|hp
    · exact hm _ (List.mem_cons_self ..)
    · exact Zhs (fun q hq=>hm q (List.mem_cons_of_mem _ hq)) ha p hp
theorem Zgs (t : Tar) (hsz : ∀ c ∈ t.clauses, c.pay.sz < 1000000000000 ∧ c.when_.length < 1000000000000) (hl : t.clauses.length < 1000000000000) : PureC E 17 [tarA t] (.int false .i64 (Xt t)) := by
  refine Yar (j := 0) rfl (fun g u h => Z73 h) fun hby => Zc E_ok (Ze E_ok Yca 400) ?_
  rw [Z72]; delta qBPb qBPl qBP9 qBPm qBP7 qBPg qBP6 qBPe qBP5 qBPj qBPa qBP3 qBPf qBPn qBPp qBP8 qBP4 qBPi qBPk qBPo qBPc qBPd qBP2 qBP1 qBPh
  simp only [Yk, Z6, Wl, Wm, Wn, beq_iff_eq, bne_iff_ne, beq_eq_false_iff_ne, bne_eq_false_iff_eq, decide_eq_true_eq, decide_eq_false_iff_not, Bool.or_eq_true, Bool.or_eq_false_iff, Bool.not_eq_true', Bool.not_eq_false', Bool.and_eq_true, Bool.and_true, Bool.true_and, Bool.and_eq_false_iff, beq_self_eq_true, Y6, Yv, ne_eq, and_true, true_and, Bool.true_eq_false, Bool.false_eq_true, false_or, or_false, true_implies, imp_self, Int.ofNat_eq_natCast, not_true_eq_false, not_false_eq_true, Decidable.not_not, Ex.eta]
  unfold Xt
  refine And.intro (fun h1 => ?_) (fun h1 => And.intro (fun h2 => ?_) (fun h2 => And.intro (fun h3 => ?_) (fun h3 => ?_)))
  · rw [if_neg (by rw [h1]; simp)]
  · rw [if_neg (by omega)]
  · rw [if_neg (by omega)]
  · rw [if_pos ⟨h1, by omega, by omega⟩]
    refine And.intro (fun h4 => ?_) (fun h4 => ?_)
    · rw [decide_eq_true (show 64 < t.clauses.length by omega)]
      refine ⟨fun x => x.k ≤ t.clauses.length ∧ (∀ p ∈ x.m, Byt p.1) ∧ goC x.a x.b x.m (t.clauses.drop x.k) = goC (resF t.name) true [] t.clauses ∧ x.r = t.clauses.length - x.k, ⟨⟨0, t.clauses.length, resF t.name, true, []⟩, ⟨(by dsimp only; omega), by simp, rfl, rfl⟩, ⟨rfl, rfl, rfl⟩, rfl⟩, ?_⟩
      rintro x ⟨hk, hm, hv, hr⟩
      refine And.intro (fun hq => ⟨by omega, by omega, fun c hc => ?_⟩) (fun hq => ?_)
      · have hc : t.clauses[x.k]? = some c := hc
        rw [Ug hc, Zhr] at hv
        have hcm := List.mem_of_getElem? hc
        obtain ⟨hs1, hs2⟩ := hsz c hcm
        have hcb := hby.2 c hcm
        refine And.intro (fun h5 => ?_) (fun h5 => ⟨by omega, fun h6 => ?_, fun h6 => ?_⟩)
        · rw [← hv, if_neg (by unfold Wq; rw [h5]; simp)]
        · rw [← hv, if_neg (by unfold Wq; rw [h6]; simp)]
        refine ⟨fun y => y.k ≤ c.when_.length ∧ (c.when_.drop y.k).all Yd = c.when_.all Yd ∧ y.r = c.when_.length - y.k, ⟨⟨0, c.when_.length, [], [], 0, 0, 0, 0⟩, ⟨(by dsimp only; omega), rfl, rfl⟩, rfl, X4 E_ok _⟩, ?_⟩
        rintro y ⟨hk2, hv2, hr2⟩
        refine And.intro (fun hq2 => ⟨by omega, by omega, fun w hw => ?_⟩) (fun hq2 => ?_)
        · have hw : c.when_[y.k]? = some w := hw
          rw [Zps hw] at hv2
          have hT : Yd w = decide (0 ≤ w.attr ∧ w.attr < 16 ∧ 0 ≤ w.low ∧ w.low ≤ 1099511627776 ∧ 0 ≤ w.high ∧ w.high ≤ 1099511627776) := rfl
          refine ⟨fun b => b = true ↔ Yd w = false, ?_, fun hQ => ?_, fun hQ => ?_⟩
          · have q1 : (¬ (0 ≤ w.attr ∧ w.attr < 16 ∧ 0 ≤ w.low ∧ w.low ≤ 1099511627776 ∧ 0 ≤ w.high ∧ w.high ≤ 1099511627776)) → ((true = true) ↔ Yd w = false) := fun h => by rw [hT, decide_eq_false h]; simp
            have q2 : (0 ≤ w.attr ∧ w.attr < 16 ∧ 0 ≤ w.low ∧ w.low ≤ 1099511627776 ∧ 0 ≤ w.high ∧ w.high ≤ 1099511627776) → ((false = true) ↔ Yd w = false) := fun h => by rw [hT, decide_eq_true h]; simp
            refine And.intro (fun a1 => q1 (by omega)) (fun a1 => And.intro (fun a2 => q1 (by omega)) (fun a2 => And.intro (fun a3 => q1 (by omega)) (fun a3 => And.intro (fun a4 => q1 (by omega)) (fun a4 => q2 (by omega)))))
          · have hQ := hQ.1 rfl
            rw [hQ, Bool.false_and] at hv2
            rw [← hv, if_neg (by unfold Wq; rw [← hv2]; simp)]
          · have hQ : Yd w = true := by
              cases hh : Yd w with
              | true => rfl
              | false => have := hQ.2 hh; simp at this
            rw [hQ, Bool.true_and] at hv2
            exact ⟨⟨y.k + 1, c.when_.length - (y.k + 1), [], [], 0, 0, 0, 0⟩, ⟨(by dsimp only; omega), hv2, rfl⟩, by show c.when_.length - (y.k + 1) + 1 ≤ y.r; omega, wr64 (by omega) (by omega), X4 E_ok _⟩
        · rw [Wv (by omega)] at hv2
          have hok : Wq c = true := by unfold Wq; rw [h5, h6, ← hv2]; rfl
          rw [if_pos hok] at hv
          clear hv2 hr2 hq2 hk2 hok
          repeat' (first | (refine And.intro ?_ ?_) | (refine ⟨x.m, rfl, hm, ?_⟩) | (rintro _ rfl) | (intro h))
          all_goals first
            | omega
            | exact hcb
            | (refine ⟨⟨x.k + 1, t.clauses.length - (x.k + 1), _, _, putS x.m c.name true⟩, ⟨(by dsimp only; omega), Zhs hm hcb, ?_, rfl⟩, (by dsimp only; omega), ⟨rfl, rfl, wr64 (by omega) (by omega)⟩, rfl, X4 E_ok _⟩
               rw [← hv]
               dsimp only
               congr 1
               · first | (simp only [*, Bool.or_true, Bool.true_or, Bool.false_or, Bool.or_false]; done) | (simp only [*, Bool.or_true, Bool.true_or, Bool.false_or, Bool.or_false]; rfl)
               · first | (simp only [*, Bool.or_true, Bool.true_or, Bool.false_or, Bool.or_false]; done) | (simp only [*, Bool.or_true, Bool.true_or, Bool.false_or, Bool.or_false]; symm; simp only [Bool.or_eq_true, Bool.or_eq_false_iff, decide_eq_true_eq, decide_eq_false_iff_not]; omega))
      · rw [Wv (by omega)] at hv
        rw [← hv]
        unfold goC
        refine And.intro (fun a1 => by rw [if_pos a1]) (fun a1 => And.intro (fun a2 => by rw [if_neg (by rw [a1]; simp), if_pos a2]) (fun a2 => by rw [if_neg (by rw [a1]; simp), if_neg (by rw [a2]; simp)]))
    · rw [decide_eq_false (show ¬ 64 < t.clauses.length by omega)]
      refine ⟨fun x => x.k ≤ t.clauses.length ∧ (∀ p ∈ x.m, Byt p.1) ∧ goC x.a x.b x.m (t.clauses.drop x.k) = goC (resF t.name) false [] t.clauses ∧ x.r = t.clauses.length - x.k, ⟨⟨0, t.clauses.length, resF t.name, false, []⟩, ⟨(by dsimp only; omega), by simp, rfl, rfl⟩, ⟨rfl, rfl, rfl⟩, rfl⟩, ?_⟩
      rintro x ⟨hk, hm, hv, hr⟩
      refine And.intro (fun hq => ⟨by omega, by omega, fun c hc => ?_⟩) (fun hq => ?_)
      · have hc : t.clauses[x.k]? = some c := hc
        rw [Ug hc, Zhr] at hv
        have hcm := List.mem_of_getElem? hc
        obtain ⟨hs1, hs2⟩ := hsz c hcm
        have hcb := hby.2 c hcm
        refine And.intro (fun h5 => ?_) (fun h5 => ⟨by omega, fun h6 => ?_, fun h6 => ?_⟩)
        · rw [← hv, if_neg (by unfold Wq; rw [h5]; simp)]
        · rw [← hv, if_neg (by unfold Wq; rw [h6]; simp)]
        refine ⟨fun y => y.k ≤ c.when_.length ∧ (c.when_.drop y.k).all Yd = c.when_.all Yd ∧ y.r = c.when_.length - y.k, ⟨⟨0, c.when_.length, [], [], 0, 0, 0, 0⟩, ⟨(by dsimp only; omega), rfl, rfl⟩, rfl, X4 E_ok _⟩, ?_⟩
        rintro y ⟨hk2, hv2, hr2⟩
        refine And.intro (fun hq2 => ⟨by omega, by omega, fun w hw => ?_⟩) (fun hq2 => ?_)
        · have hw : c.when_[y.k]? = some w := hw
          rw [Zps hw] at hv2
          have hT : Yd w = decide (0 ≤ w.attr ∧ w.attr < 16 ∧ 0 ≤ w.low ∧ w.low ≤ 1099511627776 ∧ 0 ≤ w.high ∧ w.high ≤ 1099511627776) := rfl
          refine ⟨fun b => b = true ↔ Yd w = false, ?_, fun hQ => ?_, fun hQ => ?_⟩
          · have q1 : (¬ (0 ≤ w.attr ∧ w.attr < 16 ∧ 0 ≤ w.low ∧ w.low ≤ 1099511627776 ∧ 0 ≤ w.high ∧ w.high ≤ 1099511627776)) → ((true = true) ↔ Yd w = false) := fun h => by rw [hT, decide_eq_false h]; simp
            have q2 : (0 ≤ w.attr ∧ w.attr < 16 ∧ 0 ≤ w.low ∧ w.low ≤ 1099511627776 ∧ 0 ≤ w.high ∧ w.high ≤ 1099511627776) → ((false = true) ↔ Yd w = false) := fun h => by rw [hT, decide_eq_true h]; simp
            refine And.intro (fun a1 => q1 (by omega)) (fun a1 => And.intro (fun a2 => q1 (by omega)) (fun a2 => And.intro (fun a3 => q1 (by omega)) (fun a3 => And.intro (fun a4 => q1 (by omega)) (fun a4 => q2 (by omega)))))
          · have hQ := hQ.1 rfl
            rw [hQ, Bool.false_and] at hv2
            rw [← hv, if_neg (by unfold Wq; rw [← hv2]; simp)]
          · have hQ : Yd w = true := by
              cases hh : Yd w with
              | true => rfl
              | false => have := hQ.2 hh; simp at this
            rw [hQ, Bool.true_and] at hv2
            exact ⟨⟨y.k + 1, c.when_.length - (y.k + 1), [], [], 0, 0, 0, 0⟩, ⟨(by dsimp only; omega), hv2, rfl⟩, by show c.when_.length - (y.k + 1) + 1 ≤ y.r; omega, wr64 (by omega) (by omega), X4 E_ok _⟩
        · rw [Wv (by omega)] at hv2
          have hok : Wq c = true := by unfold Wq; rw [h5, h6, ← hv2]; rfl
          rw [if_pos hok] at hv
          clear hv2 hr2 hq2 hk2 hok
          repeat' (first | (refine And.intro ?_ ?_) | (refine ⟨x.m, rfl, hm, ?_⟩) | (rintro _ rfl) | (intro h))
          all_goals first
            | omega
            | exact hcb
            | (refine ⟨⟨x.k + 1, t.clauses.length - (x.k + 1), _, _, putS x.m c.name true⟩, ⟨(by dsimp only; omega), Zhs hm hcb, ?_, rfl⟩, (by dsimp only; omega), ⟨rfl, rfl, wr64 (by omega) (by omega)⟩, rfl, X4 E_ok _⟩
               rw [← hv]
               dsimp only
               congr 1
               · first | (simp only [*, Bool.or_true, Bool.true_or, Bool.false_or, Bool.or_false]; done) | (simp only [*, Bool.or_true, Bool.true_or, Bool.false_or, Bool.or_false]; rfl)
               · first | (simp only [*, Bool.or_true, Bool.true_or, Bool.false_or, Bool.or_false]; done) | (simp only [*, Bool.or_true, Bool.true_or, Bool.false_or, Bool.or_false]; symm; simp only [Bool.or_eq_true, Bool.or_eq_false_iff, decide_eq_true_eq, decide_eq_false_iff_not]; omega))
      · rw [Wv (by omega)] at hv
        rw [← hv]
        unfold goC
        refine And.intro (fun a1 => by rw [if_pos a1]) (fun a1 => And.intro (fun a2 => by rw [if_neg (by rw [a1]; simp), if_pos a2]) (fun a2 => by rw [if_neg (by rw [a1]; simp), if_neg (by rw [a2]; simp)]))
end
section
open Go
noncomputable def dCl:Dc E Cls:=(dR .clauses:Dc E (thy.dom Th.clauses))
noncomputable def dCls:Dc E (List Cls):=(Zkd (E:=E) Th.clauses:Dc E (List (thy.dom Th.clauses)))
noncomputable def Yec:Sum thy:=sumM (mI (dA1 dN) (n1 fun _=>rfl) dTs (fun _=>rfl)) (fun _ _=>True) fun x a=>Wx a.1 x.1 x.2.1
theorem Z3g:SumOk E 64 Yec:=Xe E_ok (Zb rfl) fun x a _=>Z50 x.1 x.2.1 a.1
def Aif:Fr thy->Hp thy->Nat->Ann thy:=fun T h i=>{X:=LX,fr:=fun x=> [(0,T 0),(1,T 1),(7,T 7),(8,.int false .i64 x.k)],bl:=fun x=>(match T 1 with| .fn _ _ [v]=>blkP h v|_=> []),src:=fun _=> [],md:= [],ih:=i,M:=i+30,meas:=fun x=>x.r}
structure TX where
 ts:List Tst
 l:List Tok
 ed:Int
 more:Bool
 k:Nat
def cellsOf (h:Hp thy) (v:SV thy):List (SV thy):=match h (bOf v) with|some (.raw cs _ _)=>cs|_=> []
def Atl:Fr thy->Hp thy->Nat->Ann thy:=fun T h i=>{X:=Bool×TX,fr:=fun x=> [(0,T 0),(4,T 4),(5,T 5),(6,T 6),(7,.bool false x.2.more)],bl:=fun x=>(bOf (T 0),.raw [.psl Th.toks x.2.l false,.int false .i64 x.2.ed] 0 none)::(bOf (T 6),.raw ((cellsOf h (T 6)).take 1++((match x.1 with|true=> .sl i 0 x.2.ts.length 3 none|false=> .val (.slice none 0 0))::(cellsOf h (T 6)).drop 2)) 0 none)::((match x.1 with|true=> [(i,.rows Th.tests x.2.ts 0)]|false=> [])++blkP h (T 4)),src:=fun x=>(match x.1 with|true=> [(i,2006)]|false=> []),md:= [bOf (T 0),bOf (T 6)],ih:=i+1,M:=i+60,meas:=fun x=>x.2.k,ex:=ex2,al:=al2,exOk:=Zg6,alOk:=Zg7}
noncomputable def Fcl:Fns thy:=addL (addL (addS (addS (addS (addS Fme 34 Z5w) 64 Yec) 65 Sx) 50 Zhq) 101 2 Aif E) 36 6 Atl E
theorem Yed:FnsOk E Fcl:=Zn E_ok (Zn E_ok (Za (Za (Za (Za Zgc Zry) Z3g) Yf4) Zeh) _ _ _) _ _ _
def pTs:Nat->Bool->List Tst->List Tok->Int->PR (List Tst)
 |0,_,ts,l,e=> .ok (ts,l,e,())
 |k+1,more,ts,l,e=>
  if more then
   match Wx ts.length l e with
   | .error er=> .error er
   | .ok (t,x)=>pTs k (isW [97,110,100] x.1) (ts++ [t]) (if isW [97,110,100] x.1 then x.1.tail else x.1) x.2.1
  else .ok (ts,l,e,())
def pPay (nm:List Nat) (ts:List Tst) (l:List Tok) (e:Int):PR Cls:=
 if isW [112,97,121] l then
  match pX l.tail e with
  | .error er=> .error er
  | .ok (x,y)=>
   if 24<Zo x then .error (hdT e l.tail,2)
   else if isW [59] y.1 then .ok (⟨nm,ts,x⟩,y.1.tail,y.2.1,()) else .error (hdT y.2.1 y.1,160)
 else .error (hdT e l,160)
def pAft (nm:List Nat) (r:PR (List Tst)):PR Cls:=
 match r with
 | .error er=> .error er
 | .ok (ts,y)=>pPay nm ts y.1 y.2.1
def Z5 (bs:List Cls) (l:List Tok) (e:Int):PR Cls:=
 match Vp l e with
 | .error er=> .error er
 | .ok (nm,x)=>
  if bs.any (fun b=>b.name==nm) then .error (hdT e l,161)
  else pAft nm (pTs 10 (isW [119,104,101,110] x.1) [] (if isW [119,104,101,110] x.1 then x.1.tail else x.1) x.2.1)
theorem V1 {l:List Tok} {e:Int} {y:List Nat} {x:PX} (h:Vp l e= .ok (y,x)):x.1.length<l.length:=by
 unfold Vp at h
 split at h
 · cases h
 · split at h
   · split at h
     · cases h
     · injection h with h
       injection h with _ h
       subst h
       exact Nat.lt_succ_self _
   · cases h
theorem Zix {l:List Tok} {e:Int} {y:Int} {x:PX} (h:pInt l e= .ok (y,x)):x.1.length<l.length:=by
 unfold pInt at h
 split at h
 · cases h
 · split at h
   · injection h with h
     injection h with _ h
     subst h
     exact Nat.lt_succ_self _
   · cases h
theorem Zqz {s:List Nat} {l:List Tok}:(if isW s l=true then l.tail else l).length<=l.length:=by
 split
 · have:=Zi (by assumption);omega
 · exact Nat.le_refl _
theorem Zce {n:Int} {l:List Tok} {e:Int} {y:Tst} {x:PX} (h:Wx n l e= .ok (y,x)):x.1.length<l.length/\n≠8:=by
 unfold Wx at h
 split at h
 · cases h
 · rename_i a x0 hm
   obtain ⟨h1,_,rfl⟩:=Uj hm
   have hp:=Zag h1
   split at h
   · cases h
   · rename_i hn
     refine ⟨?_,hn⟩
     split at h
     · rename_i hw
       have hw:=Zi hw
       split at h
       · cases h
       · rename_i m x1 hi
         have hi:=Zix hi
         injection h with h
         injection h with _ h
         subst h
         have hw:l.tail.tail.length+1=l.tail.length:=hw
         have hi:x1.1.length<l.tail.tail.length:=hi
         omega
     · split at h
       · rename_i hw
         have hw:=Zi hw
         split at h
         · cases h
         · rename_i m x1 hi
           have hi:=Zix hi
           have hw:l.tail.tail.length+1=l.tail.length:=hw
           have hi:x1.1.length<l.tail.tail.length:=hi
           split at h
           · rename_i hw2
             have hw2:=Zi hw2
             split at h
             · cases h
             · rename_i k x2 hi2
               have hi2:=Zix hi2
               injection h with h
               injection h with _ h
               subst h
               omega
           · cases h
       · cases h
abbrev qBQ6:=(0:Nat)
abbrev qBQ9 (a0:Int) (b0:Bool) (c0:TX):=(qBQ6=qBQ6/\qBQ6=qBQ6/\a0=a0/\qBQ6=qBQ6/\b0=TX.more c0/\True)
abbrev qBQ4 (a0:Ex):=(Ex.mk (Ex.op a0) (Ex.n a0) (Ex.d0 a0) (Ex.d1 a0) (Ex.d2 a0) (Ex.d3 a0) (Ex.l a0))
abbrev qBQc (a0:TX) (b0:PR Cls):=(isW [(112:Nat),(97:Nat),(121:Nat)] (TX.l a0)=false->b0=Except.error (hdT (TX.ed a0) (TX.l a0),(160:Int)))
abbrev qBQ7:=(0:Int)
abbrev qBQh:=(false=true->false=true)
abbrev qBQ8 (a0:PX) (b0:TX):=((Prod.fst a0=TX.l b0/\qBQh)/\Prod.fst (Prod.snd a0)=TX.ed b0/\True)
abbrev qBQb (a0:Ex):=((↑(Zo (qBQ4 a0)):Int)>(24:Int))
abbrev qBQ3 (a0:List Nat):=(a0=a0/\Value.slice none qBQ6 qBQ6=Value.slice none qBQ6 qBQ6/\qBQ7=qBQ7/\qBQ7=qBQ7/\qBQ7=qBQ7/\qBQ7=qBQ7/\qBQ7=qBQ7/\qBQ7=qBQ7/\Value.slice none qBQ6 qBQ6=Value.slice none qBQ6 qBQ6/\True)
abbrev qBQi (a0:TX):=(List.tail (TX.l a0))
abbrev qBQ2:=(([]:List Nat)= []/\Value.slice none qBQ6 qBQ6=Value.slice none qBQ6 qBQ6/\qBQ7=qBQ7/\qBQ7=qBQ7/\qBQ7=qBQ7/\qBQ7=qBQ7/\qBQ7=qBQ7/\qBQ7=qBQ7/\Value.slice none qBQ6 qBQ6=Value.slice none qBQ6 qBQ6/\True)
abbrev qBQ5 (a0:Bool×TX->Prop) (b0:TX) (c0:Int) (d0:Bool) (e0:PX) (f0:List Nat):=(∃(y_6:TX),a0 (false,y_6)/\y_6.5+(1:Nat)<=b0.5/\true=true/\(qBQ9 c0 d0 y_6)/\(qBQ8 e0 y_6)/\(f0=f0/\False/\qBQ7=qBQ7/\qBQ7=qBQ7/\qBQ7=qBQ7/\qBQ7=qBQ7/\qBQ7=qBQ7/\qBQ7=qBQ7/\Value.slice none qBQ6 qBQ6=Value.slice none qBQ6 qBQ6/\True)/\qBQ2/\True)
abbrev qBQa (a0:PX):=(Prod.fst (Prod.snd a0))
abbrev qBQg (a0:PX) (b0:PR Cls):=(isW [(59:Nat)] (Prod.fst a0)=false->b0=Except.error (hdT (qBQa a0) (Prod.fst a0),(160:Int)))
abbrev qBQ1 (a0:PX) (b0:Int) (c0:List Nat) (d0:PR Cls):=(∀(y_2:Bool) (x'_1:PX),pAcc [(119:Nat),(104:Nat),(101:Nat),(110:Nat)] (Prod.fst a0) (qBQa a0)=Except.ok (y_2,x'_1)->∃(R:Bool×TX->Prop),((∃(y_3:TX),R (false,y_3)/\true=true/\(qBQ9 b0 y_2 y_3)/\(qBQ8 x'_1 y_3)/\(qBQ3 c0)/\qBQ2/\True)\/∃(b0:TX),R (true,b0)/\true=true/\False)/\(∀(y_3:TX),R (false,y_3)->(TX.more y_3=true->True/\(∀(y_4:Tst) (a0:PX),Wx qBQ7 (TX.l y_3) (TX.ed y_3)=Except.ok (y_4,a0)->True/\(∀(y_5:Bool) (x'_2:PX),pAcc [(97:Nat),(110:Nat),(100:Nat)] (Prod.fst a0) (qBQa a0)=Except.ok (y_5,x'_2)->(qBQ5 R y_3 b0 y_5 x'_2 c0)\/∃(y_6:TX),R (true,y_6)/\y_6.5+(1:Nat)<=y_3.5/\true=true/\(qBQ9 b0 y_5 y_6)/\(qBQ8 x'_2 y_6)/\(c0=c0/\(qBQ6=qBQ6/\(1:Nat)=List.length (TX.ts y_6)/\True)/\qBQ7=qBQ7/\qBQ7=qBQ7/\qBQ7=qBQ7/\qBQ7=qBQ7/\qBQ7=qBQ7/\qBQ7=qBQ7/\Value.slice none qBQ6 qBQ6=Value.slice none qBQ6 qBQ6/\True)/\([y_4]=TX.ts y_6/\qBQ6=qBQ6)/\qBQ2/\True)/\∀(e:Int×Int),pAcc [(97:Nat),(110:Nat),(100:Nat)] (Prod.fst a0) (qBQa a0)=Except.error e->d0=Except.error e)/\∀(e:Int×Int),Wx qBQ7 (TX.l y_3) (TX.ed y_3)=Except.error e->d0=Except.error e)/\(TX.more y_3=false->(isW [(112:Nat),(97:Nat),(121:Nat)] (TX.l y_3)=true->∀(b0:Int),b0=hdT (TX.ed y_3) (qBQi y_3)->True/\(∀(y_4:Ex) (a0:PX),pX (qBQi y_3) (TX.ed y_3)=Except.ok (y_4,a0)->Ex.sz (qBQ4 y_4)+(1:Nat)<=(1000000000000:Nat)/\(decide (qBQb y_4)=true->d0=Except.error (b0,(2:Int)))/\(decide (qBQb y_4)=false->(isW [(59:Nat)] (Prod.fst a0)=true->d0=Except.ok (Cls.mk c0 [] (qBQ4 y_4),List.tail (Prod.fst a0),Prod.fst (Prod.snd a0),()))/\(qBQg a0 d0)))/\∀(e:Int×Int),pX (qBQi y_3) (TX.ed y_3)=Except.error e->d0=Except.error e)/\(qBQc y_3 d0)))/\∀(y_3:TX),R (true,y_3)->(TX.more y_3=true->True/\(∀(y_4:Tst) (a0:PX),Wx (↑(List.length (TX.ts y_3)):Int) (TX.l y_3) (TX.ed y_3)=Except.ok (y_4,a0)->(List.length (TX.ts y_3)<=List.length (TX.ts y_3)/\qBQ6<=List.length (TX.ts y_3)/\(List.length (TX.ts y_3)+(1:Nat))*(24:Nat)<=(140737488355328:Nat))/\True/\(∀(y_5:Bool) (x'_2:PX),pAcc [(97:Nat),(110:Nat),(100:Nat)] (Prod.fst a0) (qBQa a0)=Except.ok (y_5,x'_2)->(qBQ5 R y_3 b0 y_5 x'_2 c0)\/∃(y_6:TX),R (true,y_6)/\y_6.5+(1:Nat)<=y_3.5/\true=true/\(qBQ9 b0 y_5 y_6)/\(qBQ8 x'_2 y_6)/\(c0=c0/\(qBQ6=qBQ6/\List.length (TX.ts y_3)+(1:Nat)=List.length (TX.ts y_6)/\True)/\qBQ7=qBQ7/\qBQ7=qBQ7/\qBQ7=qBQ7/\qBQ7=qBQ7/\qBQ7=qBQ7/\qBQ7=qBQ7/\Value.slice none qBQ6 qBQ6=Value.slice none qBQ6 qBQ6/\True)/\(List.take (List.length (TX.ts y_3)) (TX.ts y_3)++ [y_4]=TX.ts y_6/\qBQ6=qBQ6)/\qBQ2/\True)/\∀(e:Int×Int),pAcc [(97:Nat),(110:Nat),(100:Nat)] (Prod.fst a0) (qBQa a0)=Except.error e->d0=Except.error e)/\∀(e:Int×Int),Wx (↑(List.length (TX.ts y_3)):Int) (TX.l y_3) (TX.ed y_3)=Except.error e->d0=Except.error e)/\(TX.more y_3=false->(isW [(112:Nat),(97:Nat),(121:Nat)] (TX.l y_3)=true->∀(b0:Int),b0=hdT (TX.ed y_3) (qBQi y_3)->True/\(∀(y_4:Ex) (a0:PX),pX (qBQi y_3) (TX.ed y_3)=Except.ok (y_4,a0)->Ex.sz (qBQ4 y_4)+(1:Nat)<=(1000000000000:Nat)/\(decide (qBQb y_4)=true->d0=Except.error (b0,(2:Int)))/\(decide (qBQb y_4)=false->(isW [(59:Nat)] (Prod.fst a0)=true->qBQ6+List.length (TX.ts y_3)<=List.length (TX.ts y_3)/\d0=Except.ok (Cls.mk c0 (List.take (List.length (TX.ts y_3)) (List.drop qBQ6 (TX.ts y_3))) (qBQ4 y_4),List.tail (Prod.fst a0),Prod.fst (Prod.snd a0),()))/\(qBQg a0 d0)))/\∀(e:Int×Int),pX (qBQi y_3) (TX.ed y_3)=Except.error e->d0=Except.error e)/\(qBQc y_3 d0)))
abbrev qBQd (a0:List Cls):=(↑(List.length a0):Int)
abbrev qBQe:=(Fn.func (63:Nat)=Fn.func (63:Nat)/\True/\qBQ6=qBQ6/\True)
abbrev qBQf (a0:LX):=(↑(LX.k a0):Int)
theorem Znm (l:List Tok) (e:Int) (bs:List Cls) (out:PR Cls):Zh E Fcl (vc E Fcl 400) 36 [.ptr 0 0,.psl Th.clauses bs false] (one [.psl Th.toks l false,.int false .i64 e]) 1 (mK (dA1 dCls) (n1 fun _=>rfl) dCl (fun _=>rfl) l e out)=(
 ∀(y:Int),y=hdT e l->True/\(∀(y_1:List Nat) (x':PX),Vp l e=Except.ok (y_1,x')->∃(R:LX->Prop),(∃(x:LX),R x/\true=true/\((bs=bs/\qBQh)/\qBQe/\(qBQd bs)=(qBQd bs)/\qBQ7=(qBQf x)/\True)/\(qBQ3 y_1)/\True)/\∀(x:LX),R x->(decide ((qBQf x)<(qBQd bs))=true->qBQ7<=(qBQf x)/\(qBQf x)+(1:Int)<=(qBQd bs)/\∀(x_1:Cls),bs[Int.toNat (qBQf x)]? =some x_1->((Cls.name x_1==y_1)=true->(decide ((qBQf x)>=qBQ7)=true->out=Except.error (y,(161:Int)))/\(decide ((qBQf x)>=qBQ7)=false->True/\(qBQ1 x' y y_1 out)/\∀(e:Int×Int),pAcc [(119:Nat),(104:Nat),(101:Nat),(110:Nat)] (Prod.fst x') (qBQa x')=Except.error e->out=Except.error e))/\((Cls.name x_1==y_1)=false->∃(x_2:LX),R x_2/\x_2.2+(1:Nat)<=x.2/\true=true/\((bs=bs/\qBQh)/\qBQe/\(qBQd bs)=(qBQd bs)/\wr IntKind.i64 ((qBQf x)+(1:Int))=(qBQf x_2)/\True)/\(qBQ3 y_1)/\True))/\(decide ((qBQf x)<(qBQd bs))=false->True/\(qBQ1 x' y y_1 out)/\∀(e:Int×Int),pAcc [(119:Nat),(104:Nat),(101:Nat),(110:Nat)] (Prod.fst x') (qBQa x')=Except.error e->out=Except.error e))/\∀(e_1:Int×Int),Vp l e=Except.error e_1->out=Except.error e_1):=by kernel_rfl
theorem Ztj (bs:List Cls) (l:List Tok) (e:Int) (hl:l.length<1000000000) (hb:bs.length<=1000000000):Z9 (mI (dA1 dCls) (n1 fun _=>rfl) dCl (fun _=>rfl)) 36 (l,e,()) (bs,()) (Z5 bs l e):=by
 refine Un Yed (n:=400) (a:=(bs,())) ?_
 rw [show (dA1 dCls).enc (bs,())= [.psl Th.clauses bs false] from rfl,Znm];delta qBQ6 qBQ9 qBQ4 qBQc qBQ7 qBQh qBQ8 qBQb qBQ3 qBQi qBQ2 qBQ5 qBQa qBQg qBQ1 qBQd qBQe qBQf
 intro y0 hy0
 subst hy0
 refine ⟨trivial,fun nm x h1=> ?_,fun er h1=>by simp [Z5,h1]⟩
 have hx:=V1 h1
 refine ⟨fun z=>z.k<=bs.length/\(bs.drop z.k).any (fun b=>b.name==nm)=bs.any (fun b=>b.name==nm)/\z.r=bs.length-z.k,⟨⟨0,bs.length,[],0⟩,⟨(by dsimp only;omega),rfl,rfl⟩,by simp⟩,?_⟩
 rintro z ⟨hk,hv,hr⟩
 refine ⟨fun hq=> ?_,fun hq=>⟨trivial,fun more x1 h2=> ?_,fun er h2=>by cases h2⟩⟩
 · have hq:(z.k:Int)<bs.length:=by simpa using hq
   refine ⟨by omega,by omega,fun c hc=> ?_⟩
   have hc:bs[z.k]? =some c:=hc
   have hlt:=(List.getElem?_eq_some_iff.1 hc).1
   have hce:bs[z.k]=c:=(List.getElem?_eq_some_iff.1 hc).2
   rw [List.drop_eq_getElem_cons hlt,hce,List.any_cons] at hv
   refine ⟨fun hn=>⟨fun _=> ?_,fun hneg=>absurd hneg (by rw [decide_eq_false_iff_not];omega)⟩,fun hn=> ?_⟩
   · rw [hn,Bool.true_or] at hv
     simp [Z5,h1,<-hv]
   · rw [hn,Bool.false_or] at hv
     exact ⟨⟨z.k+1,bs.length-(z.k+1),[],0⟩,⟨(by dsimp only;omega),hv,rfl⟩,(by show bs.length-(z.k+1)+1<=z.r;omega),rfl,⟨⟨rfl,fun h=>h⟩,⟨rfl,trivial,rfl,trivial⟩,rfl,wr64 (by omega) (by omega),trivial⟩,⟨rfl,rfl,rfl,rfl,rfl,rfl,rfl,rfl,rfl,trivial⟩,trivial⟩
 · have hq:¬(z.k:Int)<bs.length:=by simpa using hq
   rw [List.drop_eq_nil_of_le (by omega),List.any_nil] at hv
   unfold pAcc at h2
   injection h2 with h2
   injection h2 with e1 e2
   subst e1;subst e2
   have hout:Z5 bs l e=pAft nm (pTs 10 (isW [119,104,101,110] x.1) [] (if isW [119,104,101,110] x.1 then x.1.tail else x.1) x.2.1):=by simp [Z5,h1,<-hv]
   rw [hout]
   clear hv hk hr hq
   have hif:=Zqz (s:= [119,104,101,110]) (l:=x.1)
   generalize hO:pAft nm (pTs 10 (isW [119,104,101,110] x.1) [] (if isW [119,104,101,110] x.1 then x.1.tail else x.1) x.2.1)=OUT at hout⊢
   refine ⟨fun p=>pAft nm (pTs p.2.k p.2.more p.2.ts p.2.l p.2.ed)=OUT/\p.2.ts.length+p.2.k=10/\p.2.ts.length<=8/\p.2.l.length<1000000000/\(p.1=false->p.2.ts= []),.inl ⟨⟨[],if isW [119,104,101,110] x.1 then x.1.tail else x.1,x.2.1,isW [119,104,101,110] x.1,10⟩,⟨hO,rfl,Nat.zero_le _,(by dsimp only;omega),fun _=>rfl⟩,by simp⟩,?_,?_⟩
   · rintro ⟨ts,l1,ed,more,k⟩ ⟨hR,hk,h8,hl1,hts⟩
     have hts:ts= []:=hts rfl
     subst hts
     have hk:k=10:=by simpa using hk
     subst hk
     have hR:pAft nm (pTs 10 more [] l1 ed)=OUT:=hR
     have hl1':l1.length<1000000000:=hl1
     clear hl1
     have hl1:=hl1'
     clear hl1'
     rw [<-hR]
     clear hR hout hO
     refine ⟨fun hm=>⟨trivial,fun t x2 h3=>⟨trivial,fun m2 x3 h4=> ?_,fun er h4=>by cases h4⟩,fun er h3=> ?_⟩,fun hm=> ?_⟩
     · have hm':more=true:=hm
       have h3':Wx 0 l1 ed= .ok (t,x2):=h3
       clear hm h3
       subst hm'
       unfold pAcc at h4
       injection h4 with h4
       injection h4 with e1 e2
       subst e1;subst e2
       have hq:=Zce h3'
       have hi2:=Zqz (s:= [97,110,100]) (l:=x2.1)
       refine .inr ⟨⟨[t],if isW [97,110,100] x2.1 then x2.1.tail else x2.1,x2.2.1,isW [97,110,100] x2.1,9⟩,⟨by simp [pTs,h3'],rfl,(by show 1<=8;omega),(by dsimp only;omega),fun h=>by cases h⟩,Nat.le_refl _,by simp⟩
     · have hm':more=true:=hm
       have h3':Wx 0 l1 ed= .error er:=h3
       clear hm h3
       subst hm'
       simp [pTs,pAft,h3']
     · have hm':more=false:=hm
       clear hm
       subst hm'
       revert hl1
       dsimp only
       intro hl1
       refine ⟨fun w y hy=>⟨trivial,fun ex x4 h5=> ?_,fun er h5=>by simp [pTs,pAft,pPay,w,h5]⟩,fun w=>by simp [pTs,pAft,pPay,w]⟩
       subst hy
       have hs:=Zp0 _ _ _ _ h5
       have hw:=Zi w
       rw [Ex.eta]
       refine ⟨by omega,fun hn=> ?_,fun hn=>⟨fun w2=> ?_,fun w2=> ?_⟩⟩
       · have hn:(24:Int)<Zo ex:=by simpa using hn
         have hn:24<Zo ex:=by omega
         simp [pTs,pAft,pPay,w,h5,hn]
       · have hn:(Zo ex:Int)<=24:=by simpa using hn
         have hn:¬24<Zo ex:=by omega
         simp [pTs,pAft,pPay,w,h5,hn,w2]
       · have hn:(Zo ex:Int)<=24:=by simpa using hn
         have hn:¬24<Zo ex:=by omega
         simp [pTs,pAft,pPay,w,h5,hn,w2]
   · rintro ⟨ts,l1,ed,more,k⟩ ⟨hR,hk,h8,hl1,_⟩
     have hk:ts.length+k=10:=hk
     have h8:ts.length<=8:=h8
     have hR:pAft nm (pTs k more ts l1 ed)=OUT:=hR
     have hl1':l1.length<1000000000:=hl1
     clear hl1
     have hl1:=hl1'
     clear hl1'
     rw [<-hR]
     clear hR hout hO
     obtain ⟨k,rfl⟩:∃k',k=k'+1:=⟨k-1,by omega⟩
     refine ⟨fun hm=>⟨trivial,fun t x2 h3=>⟨⟨Nat.le_refl _,Nat.zero_le _,(by dsimp only;omega)⟩,trivial,fun m2 x3 h4=> ?_,fun er h4=>by cases h4⟩,fun er h3=> ?_⟩,fun hm=> ?_⟩
     · have hm':more=true:=hm
       have h3':Wx ts.length l1 ed= .ok (t,x2):=h3
       clear hm h3
       subst hm'
       unfold pAcc at h4
       injection h4 with h4
       injection h4 with e1 e2
       subst e1;subst e2
       have hq:=Zce h3'
       have hi2:=Zqz (s:= [97,110,100]) (l:=x2.1)
       refine .inr ⟨⟨ts++ [t],if isW [97,110,100] x2.1 then x2.1.tail else x2.1,x2.2.1,isW [97,110,100] x2.1,k⟩,⟨by simp [pTs,h3'],(by simp;omega),(by simp;omega),(by dsimp only;omega),fun h=>by cases h⟩,Nat.le_refl _,by simp⟩
     · have hm':more=true:=hm
       have h3':Wx ts.length l1 ed= .error er:=h3
       clear hm h3
       subst hm'
       simp [pTs,pAft,h3']
     · have hm':more=false:=hm
       clear hm
       subst hm'
       revert hl1
       dsimp only
       intro hl1
       refine ⟨fun w y hy=>⟨trivial,fun ex x4 h5=> ?_,fun er h5=>by simp [pTs,pAft,pPay,w,h5]⟩,fun w=>by simp [pTs,pAft,pPay,w]⟩
       subst hy
       have hs:=Zp0 _ _ _ _ h5
       have hw:=Zi w
       rw [Ex.eta]
       refine ⟨by omega,fun hn=> ?_,fun hn=>⟨fun w2=> ?_,fun w2=> ?_⟩⟩
       · have hn:(24:Int)<Zo ex:=by simpa using hn
         have hn:24<Zo ex:=by omega
         simp [pTs,pAft,pPay,w,h5,hn]
       · have hn:(Zo ex:Int)<=24:=by simpa using hn
         have hn:¬24<Zo ex:=by omega
         exact ⟨by omega,by simp [pTs,pAft,pPay,w,h5,hn,w2]⟩
       · have hn:(Zo ex:Int)<=24:=by simpa using hn
         have hn:¬24<Zo ex:=by omega
         simp [pTs,pAft,pPay,w,h5,hn,w2]
end
section
open Go
def isL (n:Int):Bool:=decide (97<=n)&&decide (n<=122)
def isD (n:Int):Bool:=decide (48<=n)&&decide (n<=57)
def isLD (n:Int):Bool:=isL n||isD n
noncomputable def dU8:Dc E Int:=dInt .u8
theorem Znf (n:Int) (v:Bool):Zh E F0 (vc E F0 400) 94 [.int false .u8 n] hp0 0 (fun r=>ret E (patch hp0 0 r) r.v (.bool false v))=(
(decide ((97:Int)<=n)=true->(decide (n<=(122:Int))=true->true=v)/\(decide (n<=(122:Int))=false->false=v))/\(decide ((97:Int)<=n)=false->false=v)):=by kernel_rfl
theorem Zng (n:Int):PureC E 94 [.int false .u8 n] (.bool false (isL n)):=by
 refine Zc E_ok (Ze E_ok F0_ok 400) ?_
 rw [Znf]
 unfold isL
 refine ⟨fun h=>⟨fun h2=> ?_,fun h2=> ?_⟩,fun h=> ?_⟩
 · rw [h,h2];rfl
 · rw [h,h2];rfl
 · rw [h];rfl
theorem Zs9 (n:Int) (v:Bool):Zh E F0 (vc E F0 400) 97 [.int false .u8 n] hp0 0 (fun r=>ret E (patch hp0 0 r) r.v (.bool false v))=(
(decide ((48:Int)<=n)=true->(decide (n<=(57:Int))=true->true=v)/\(decide (n<=(57:Int))=false->false=v))/\(decide ((48:Int)<=n)=false->false=v)):=by kernel_rfl
theorem Zta (n:Int):PureC E 97 [.int false .u8 n] (.bool false (isD n)):=by
 refine Zc E_ok (Ze E_ok F0_ok 400) ?_
 rw [Zs9]
 unfold isD
 refine ⟨fun h=>⟨fun h2=> ?_,fun h2=> ?_⟩,fun h=> ?_⟩
 · rw [h,h2];rfl
 · rw [h,h2];rfl
 · rw [h];rfl
noncomputable def Zx5:Sum thy:=sumP (dA1 dU8) (fun _=>True) fun x=> .bool false (isL x.1)
noncomputable def Z62:Sum thy:=sumP (dA1 dU8) (fun _=>True) fun x=> .bool false (isD x.1)
theorem Ztb:SumOk E 94 Zx5:=Zv E_ok (Zb (f:=94) rfl) fun x _=>Zng x.1
theorem Zx6:SumOk E 97 Z62:=Zv E_ok (Zb (f:=97) rfl) fun x _=>Zta x.1
noncomputable def Flx:Fns thy:=addS (addS F0 94 Zx5) 97 Z62
theorem Zx7:FnsOk E Flx:=Za (Za F0_ok Ztb) Zx6
theorem Zx8 (n:Int) (v:Bool):Zh E Flx (vc E Flx 400) 96 [.int false .u8 n] hp0 0 (fun r=>ret E (patch hp0 0 r) r.v (.bool false v))=(
True/\(isL n=true->true=v)/\(isL n=false->True/\isD n=v)):=by kernel_rfl
theorem Zx9 (n:Int):PureC E 96 [.int false .u8 n] (.bool false (isLD n)):=by
 refine Zc E_ok (Ze E_ok Zx7 400) ?_
 rw [Zx8]
 unfold isLD
 refine ⟨trivial,fun h=> ?_,fun h=>⟨trivial,?_⟩⟩
 · rw [h];rfl
 · rw [h];rfl
noncomputable def Yd9:Sum thy:=sumP (dA1 dU8) (fun _=>True) fun x=> .bool false (isLD x.1)
theorem Z3e:SumOk E 96 Yd9:=Zv E_ok (Zb (f:=96) rfl) fun x _=>Zx9 x.1
def Asp:Fr thy->Hp thy->Nat->Ann thy:=fun T h i=>{X:=LX,fr:=fun x=> [(0,T 0),(1,T 1),(7,T 7),(8,.int false .i64 x.k)],bl:=fun x=> [],src:=fun _=> [],md:= [],ih:=i,M:=i+30,meas:=fun x=>x.r}
noncomputable def Zya:Fns thy:=addL (addS Flx 96 Yd9) 95 2 Asp E
theorem Zqw:FnsOk E Zya:=Zn E_ok (Za Zx7 Z3e) _ _ _
def spn (f:Int->Bool):List Nat->Nat
 | []=>0
 |c::r=>if f c then spn f r+1 else 0
theorem Xm {f:Int->Bool} {s:List Nat} {k c:Nat} (h:s[k]? =some c):spn f (s.drop k)=if f c then spn f (s.drop (k+1))+1 else 0:=by
 have hlt:=(List.getElem?_eq_some_iff.1 h).1
 have hc:s[k]=c:=(List.getElem?_eq_some_iff.1 h).2
 rw [List.drop_eq_getElem_cons hlt,hc];rfl
theorem Zdq {f:Int->Bool}:∀{s:List Nat},spn f s<=s.length
 | []=>Nat.le_refl _
 |c::r=>by
  unfold spn
  have:=Zdq (f:=f) (s:=r)
  split
  · simp;omega
  · exact Nat.zero_le _
theorem Ztc (s:List Nat) (v:Int):Zh E Zya (vc E Zya 400) 95 [.str false s,.fn (.func 96) [] []] hp0 0 (fun r=>ret E (patch hp0 0 r) r.v (.int false .i64 v))=(
∃(R:LX->Prop),(∃(x:LX),R x/\true=true/\(s=s/\(Fn.func (96:FuncId)=Fn.func (96:FuncId)/\True/\True)/\(↑(List.length s):Int)=(↑(List.length s):Int)/\(0:Int)=(↑(LX.k x):Int)/\True)/\True)/\∀(x:LX),R x->(decide ((↑(LX.k x):Int)<(↑(List.length s):Int))=true->(0:Int)<=(↑(LX.k x):Int)/\(↑(LX.k x):Int)+(1:Int)<=(↑(List.length s):Int)/\∀(x_1:Nat),s[Int.toNat (↑(LX.k x):Int)]? =some x_1->True/\((!isLD (↑x_1:Int))=true->(↑(LX.k x):Int)=v)/\((!isLD (↑x_1:Int))=false->∃(x_2:LX),R x_2/\x_2.2+(1:Nat)<=x.2/\true=true/\(s=s/\(Fn.func (96:FuncId)=Fn.func (96:FuncId)/\True/\True)/\(↑(List.length s):Int)=(↑(List.length s):Int)/\wr IntKind.i64 ((↑(LX.k x):Int)+(1:Int))=(↑(LX.k x_2):Int)/\True)/\True))/\(decide ((↑(LX.k x):Int)<(↑(List.length s):Int))=false->(↑(List.length s):Int)=v)):=by kernel_rfl
theorem Ztd (s:List Nat) (hs:s.length<=1000000000):PureC E 95 [.str false s,.fn (.func 96) [] []] (.int false .i64 (spn isLD s)):=by
 refine Zc E_ok (Ze E_ok Zqw 400) ?_
 rw [Ztc]
 refine ⟨fun x=>x.k<=s.length/\x.k+spn isLD (s.drop x.k)=spn isLD s/\x.r=s.length-x.k,⟨⟨0,s.length,[],0⟩,⟨(by dsimp only;omega),by simp,rfl⟩,by simp⟩,?_⟩
 rintro x ⟨hk,hv,hr⟩
 refine ⟨fun hq=> ?_,fun hq=> ?_⟩
 · have hq:(x.k:Int)<s.length:=by simpa using hq
   refine ⟨by omega,by omega,fun c hc=>⟨trivial,fun hn=> ?_,fun hn=> ?_⟩⟩
   · have hc:s[x.k]? =some c:=hc
     rw [Xm hc] at hv
     have hn:isLD c=false:=by simpa using hn
     rw [hn] at hv
     simp at hv
     rw [<-hv]
   · have hc:s[x.k]? =some c:=hc
     rw [Xm hc] at hv
     have hn:isLD c=true:=by simpa using hn
     rw [hn,if_pos rfl] at hv
     exact ⟨⟨x.k+1,s.length-(x.k+1),[],0⟩,⟨(by dsimp only;omega),(by dsimp only;omega),rfl⟩,(by show s.length-(x.k+1)+1<=x.r;omega),rfl,⟨rfl,⟨rfl,trivial,trivial⟩,rfl,wr64 (by omega) (by omega),trivial⟩,trivial⟩
 · have hq:¬(x.k:Int)<s.length:=by simpa using hq
   rw [List.drop_eq_nil_of_le (by omega)] at hv
   have:x.k=spn isLD s:=by simpa [spn] using hv
   omega
theorem Zte (s:List Nat) (v:Int):Zh E Zya (vc E Zya 400) 95 [.str false s,.fn (.func 97) [] []] hp0 0 (fun r=>ret E (patch hp0 0 r) r.v (.int false .i64 v))=(
∃(R:LX->Prop),(∃(x:LX),R x/\true=true/\(s=s/\(Fn.func (97:FuncId)=Fn.func (97:FuncId)/\True/\True)/\(↑(List.length s):Int)=(↑(List.length s):Int)/\(0:Int)=(↑(LX.k x):Int)/\True)/\True)/\∀(x:LX),R x->(decide ((↑(LX.k x):Int)<(↑(List.length s):Int))=true->(0:Int)<=(↑(LX.k x):Int)/\(↑(LX.k x):Int)+(1:Int)<=(↑(List.length s):Int)/\∀(x_1:Nat),s[Int.toNat (↑(LX.k x):Int)]? =some x_1->True/\((!isD (↑x_1:Int))=true->(↑(LX.k x):Int)=v)/\((!isD (↑x_1:Int))=false->∃(x_2:LX),R x_2/\x_2.2+(1:Nat)<=x.2/\true=true/\(s=s/\(Fn.func (97:FuncId)=Fn.func (97:FuncId)/\True/\True)/\(↑(List.length s):Int)=(↑(List.length s):Int)/\wr IntKind.i64 ((↑(LX.k x):Int)+(1:Int))=(↑(LX.k x_2):Int)/\True)/\True))/\(decide ((↑(LX.k x):Int)<(↑(List.length s):Int))=false->(↑(List.length s):Int)=v)):=by kernel_rfl
theorem Ztf (s:List Nat) (hs:s.length<=1000000000):PureC E 95 [.str false s,.fn (.func 97) [] []] (.int false .i64 (spn isD s)):=by
 refine Zc E_ok (Ze E_ok Zqw 400) ?_
 rw [Zte]
 refine ⟨fun x=>x.k<=s.length/\x.k+spn isD (s.drop x.k)=spn isD s/\x.r=s.length-x.k,⟨⟨0,s.length,[],0⟩,⟨(by dsimp only;omega),by simp,rfl⟩,by simp⟩,?_⟩
 rintro x ⟨hk,hv,hr⟩
 refine ⟨fun hq=> ?_,fun hq=> ?_⟩
 · have hq:(x.k:Int)<s.length:=by simpa using hq
   refine ⟨by omega,by omega,fun c hc=>⟨trivial,fun hn=> ?_,fun hn=> ?_⟩⟩
   · have hc:s[x.k]? =some c:=hc
     rw [Xm hc] at hv
     have hn:isD c=false:=by simpa using hn
     rw [hn] at hv
     simp at hv
     rw [<-hv]
   · have hc:s[x.k]? =some c:=hc
     rw [Xm hc] at hv
     have hn:isD c=true:=by simpa using hn
     rw [hn,if_pos rfl] at hv
     exact ⟨⟨x.k+1,s.length-(x.k+1),[],0⟩,⟨(by dsimp only;omega),(by dsimp only;omega),rfl⟩,(by show s.length-(x.k+1)+1<=x.r;omega),rfl,⟨rfl,⟨rfl,trivial,trivial⟩,rfl,wr64 (by omega) (by omega),trivial⟩,trivial⟩
 · have hq:¬(x.k:Int)<s.length:=by simpa using hq
   rw [List.drop_eq_nil_of_le (by omega)] at hv
   have:x.k=spn isD s:=by simpa [spn] using hv
   omega
def Anu:Fr thy->Hp thy->Nat->Ann thy:=fun T h i=>{X:=LX,fr:=fun x=> [(0,T 0),(4,.int false .i64 x.m),(15,T 15),(16,.int false .i64 x.k)],bl:=fun x=> [],src:=fun _=> [],md:= [],ih:=i,M:=i+30,meas:=fun x=>x.r}
noncomputable def Fnum:Fns thy:=addL F0 98 5 Anu E
theorem Z9l:FnsOk E Fnum:=Zn E_ok F0_ok _ _ _
def numL (n:Int):List Nat->Int×Int
 | []=>(n,0)
 |c::r=>if 10*n+(c-48)>1099511627776 then (0,2) else numL (10*n+(c-48)) r
def numb (s:List Nat):Int×Int:=if 1<s.length/\s.head? =some 48 then (0,150) else numL 0 s
theorem Zyb {n:Int} {s:List Nat} {k c:Nat} (h:s[k]? =some c):numL n (s.drop k)=if 10*n+(c-48)>1099511627776 then (0,2) else numL (10*n+(c-48)) (s.drop (k+1)):=by
 have hlt:=(List.getElem?_eq_some_iff.1 h).1
 have hc:s[k]=c:=(List.getElem?_eq_some_iff.1 h).2
 rw [List.drop_eq_getElem_cons hlt,hc];rfl
abbrev qBR1 (a0:LX) (b0:Nat):=(wr IntKind.i64 ((10:Int)*LX.m a0)+wr IntKind.i64 (wr IntKind.u8 ((↑b0:Int)-(48:Int))))
abbrev qBR2 (a0:List Nat):=(↑(List.length a0):Int)
abbrev qBR3 (a0:LX):=(↑(LX.k a0):Int)
abbrev qBR4:=(0:Int)
theorem Znh (s : List Nat) (v e : Int) : Zh E Fnum (vc E Fnum 400) 98 [.str false s] hp0 0 (fun r => ret E (patch hp0 0 r) r.v (.tup [.int false .i64 v, .int false .i64 e])) = (
 ∃ (Q : Bool → Prop), ((decide ((qBR2 s) > (1 : Int)) = true → qBR4 ≤ qBR4 ∧ qBR4 + (1 : Int) ≤ (qBR2 s) ∧ ∀ (x : Nat), s[Int.toNat qBR4]? = some x → (((↑x : Int) == (48 : Int)) = true → Q true) ∧ (((↑x : Int) == (48 : Int)) = false → Q false)) ∧ (decide ((qBR2 s) > (1 : Int)) = false → Q false)) ∧ (Q true → qBR4 = v ∧ (150 : Int) = e ∧ True) ∧ (Q false → ∃ (R : LX → Prop), (∃ (x : LX), R x ∧ true = true ∧ (s = s ∧ qBR4 = LX.m x ∧ (qBR2 s) = (qBR2 s) ∧ qBR4 = (qBR3 x) ∧ True) ∧ True) ∧ ∀ (x : LX), R x → (decide ((qBR3 x) < (qBR2 s)) = true → qBR4 ≤ (qBR3 x) ∧ (qBR3 x) + (1 : Int) ≤ (qBR2 s) ∧ ∀ (x_1 : Nat), s[Int.toNat (qBR3 x)]? = some x_1 → (decide (wr IntKind.i64 (qBR1 x x_1) > (1099511627776 : Int)) = true → qBR4 = v ∧ (2 : Int) = e ∧ True) ∧ (decide (wr IntKind.i64 (qBR1 x x_1) > (1099511627776 : Int)) = false → ∃ (x_2 : LX), R x_2 ∧ x_2.2 + (1 : Nat) ≤ x.2 ∧ true = true ∧ (s = s ∧ wr IntKind.i64 (qBR1 x x_1) = LX.m x_2 ∧ (qBR2 s) = (qBR2 s) ∧ wr IntKind.i64 ((qBR3 x) + (1 : Int)) = (qBR3 x_2) ∧ True) ∧ True)) ∧ (decide ((qBR3 x) < (qBR2 s)) = false → LX.m x = v ∧ qBR4 = e ∧ True))) := by kernel_rfl
theorem Zni (s : List Nat) (hs : s.length ≤ 1000000000) (hd : ∀ c ∈ s, 48 ≤ c ∧ c ≤ 57) : PureC E 98 [.str false s] (.tup [.int false .i64 (numb s).1, .int false .i64 (numb s).2]) := by
  refine Zc E_ok (Ze E_ok Z9l 400) ?_
  rw [Znh]; delta qBR1 qBR2 qBR3 qBR4
  refine ⟨fun b => b = decide (1 < s.length ∧ s.head? = some 48), ⟨fun h => ?_, fun h => ?_⟩, fun h => ?_, fun h => ?_⟩
  · have h : (1 : Int) < s.length := by simpa using h
    refine ⟨Int.le_refl 0, by omega, fun x hx => ?_⟩
    have hx : s[0]? = some x := hx
    rw [List.head?_eq_getElem?, hx]
    refine ⟨fun h2 => ?_, fun h2 => ?_⟩
    · have h2 : x = 48 := by have : (x : Int) = 48 := by simpa using h2
                             omega
      simp [h2]; omega
    · have h2 : x ≠ 48 := by
        intro e
        subst e
        simp at h2
      simp [h2]
  · have h : ¬ (1 : Int) < s.length := by simpa using h
    have : ¬ 1 < s.length := by omega
    simp [this]
  · have h := (decide_eq_true_iff.1 h.symm)
    unfold numb
    rw [if_pos h]
    exact ⟨rfl, rfl, trivial⟩
  · have h := (decide_eq_false_iff_not.1 h.symm)
    have hn : numb s = numL 0 s := by unfold numb; rw [if_neg h]
    rw [hn]
    refine ⟨fun x => x.k ≤ s.length ∧ numL x.m (s.drop x.k) = numL 0 s ∧ 0 ≤ x.m ∧ x.m ≤ 1099511627776 ∧ x.r = s.length - x.k, ⟨⟨0, s.length, [], 0⟩, ⟨(by dsimp only; omega), rfl, Int.le_refl 0, (by show (0:Int) ≤ 1099511627776; omega), rfl⟩, by simp⟩, ?_⟩
    rintro x ⟨hk, hv, hm0, hm1, hr⟩
    refine ⟨fun hq => ?_, fun hq => ?_⟩
    · have hq : (x.k : Int) < s.length := by simpa using hq
      refine ⟨by omega, by omega, fun c hc => ?_⟩
      have hc : s[x.k]? = some c := hc
      have hcd := hd c (List.mem_of_getElem? hc)
      have w0 : wr .u8 ((c : Int) - 48) = c - 48 := by simp only [wr, IntKind.wrap_u8]; omega
      have w1 : wr .i64 (10 * x.m) = 10 * x.m := wr64 (by omega) (by omega)
      have w2 : wr .i64 ((c : Int) - 48) = c - 48 := wr64 (by omega) (by omega)
      have w3 : wr .i64 (10 * x.m + ((c : Int) - 48)) = 10 * x.m + (c - 48) := wr64 (by omega) (by omega)
      rw [w0, w1, w2, w3]
      rw [Zyb hc] at hv
      refine ⟨fun h2 => ?_, fun h2 => ?_⟩
      · have h2 : 10 * x.m + ((c : Int) - 48) > 1099511627776 := by simpa using h2
        rw [if_pos h2] at hv
        rw [← hv]
        exact ⟨rfl, rfl, trivial⟩
      · have h2 : ¬ 10 * x.m + ((c : Int) - 48) > 1099511627776 := by simpa using h2
        rw [if_neg h2] at hv
        exact ⟨⟨x.k + 1, s.length - (x.k + 1), [], 10 * x.m + (c - 48)⟩, ⟨(by dsimp only; omega), hv, (by dsimp only; omega), (by dsimp only; omega), rfl⟩, (by show s.length - (x.k + 1) + 1 ≤ x.r; omega), rfl, ⟨rfl, rfl, rfl, wr64 (by omega) (by omega), trivial⟩, trivial⟩
    · have hq : ¬ (x.k : Int) < s.length := by simpa using hq
      rw [List.drop_eq_nil_of_le (by omega)] at hv
      rw [← hv]
      exact ⟨rfl, rfl, trivial⟩
noncomputable def dSF:Dc E Bool where
 dec v:=match v with| .fn (.func f) [] []=>(match Nat.beq f 96 with|true=>some true|false=>(match Nat.beq f 97 with|true=>some false|false=>none))|_=>none
 enc b:= .fn (.func (bif b then 96 else 97)) [] []
 ok v a h:=by
  split at h
  · rename_i f
    split at h
    · rename_i e
      cases h
      have e:=Nat.eq_of_beq_eq_true e
      cases e
      exact ⟨rfl,rfl,fun σ g u hd=>hd⟩
    · split at h
      · rename_i e
        cases h
        have e:=Nat.eq_of_beq_eq_true e
        cases e
        exact ⟨rfl,rfl,fun σ g u hd=>hd⟩
      · cases h
  · cases h
def spF (b:Bool) (s:List Nat):Nat:=bif b then spn isLD s else spn isD s
noncomputable def Yea:Sum thy:=Ww (DcL.cons dS (DcL.cons dSF DcL.nil)) (fun x=>x.1.length<=1000000000) (fun x=>spF x.2.1 x.1) fun (y:Nat)=> .int false .i64 y
theorem Z3f:SumOk E 95 Yea:=Zy E_ok (Zb (f:=95) rfl) fun x h=>by
 obtain ⟨s,b,_⟩:=x
 cases b with
 |true=>exact Ztd s h
 |false=>exact Ztf s h
noncomputable def Zyc:Sum thy:=Ww (dA1 dS) (fun x=>x.1.length<=1000000000/\∀c∈x.1,48<=c/\c<=57) (fun x=>numb x.1) fun y=> .tup [.int false .i64 y.1,.int false .i64 y.2]
theorem Ztg:SumOk E 98 Zyc:=Zy E_ok (Zb (f:=98) rfl) fun x h=>Zni x.1 h.1 h.2
noncomputable def Ftok:Fns thy:=addS (addS Flx 95 Yea) 98 Zyc
theorem Z9m:FnsOk E Ftok:=Za (Za Zx7 Z3f) Ztg
def tokV (t:Tok):SV thy:= .agg [.int false .i64 t.kind,.str false t.text,.int false .i64 t.n,.int false .i64 t.at_]
abbrev qBRa:=(0:Int)
abbrev qBR5 (a0:Tok):=(qBRa=Tok.kind a0/\ []=Tok.text a0/\qBRa=Tok.n a0/\qBRa=Tok.at_ a0/\True)
abbrev qBRb (a0:List Nat):=(↑(List.length a0):Int)
abbrev qBR9 (a0:List Nat):=((qBRb a0)>=(1:Int))
abbrev qBRc:=(150:Int)
abbrev qBR6 (a0:List Nat) (b0:Tok) (c0:Int):=(decide (qBR9 a0)=false->(qBR5 b0)/\qBRc=c0/\True)
abbrev qBR7 (a0:List Nat):=(qBRa<=(1:Int)/\(1:Int)<=(qBRb a0))
abbrev qBR8:=(Int.toNat (1:Int))
abbrev qBRf (a0:Nat):=(↑a0:Int)
abbrev qBRd (a0:Nat):=(Int.toNat (qBRf a0))
abbrev qBRe:=(3:Int)
theorem Zth (s:List Nat) (t:Tok) (e:Int):Zh E Ftok (vc E Ftok 400) 59 [.str false s] hp0 0 (fun r=>ret E (patch hp0 0 r) r.v (.tup [tokV t,.int false .i64 e]))=(
 qBRa<=qBRa/\qBRa+(1:Int)<=(qBRb s)/\∀(x:Nat),s[Int.toNat qBRa]? =some x->True/\(isL (qBRf x)=true->List.length s<=(1000000000:Nat)/\∀(y:Nat),y=spF true s->(qBRa<=(qBRf y)/\(qBRf y)<=(qBRb s))/\(decide ((↑(List.length (List.take (qBRd y) s)):Int)>(32:Int))=true->(qBR5 t)/\(2:Int)=e/\True)/\(decide ((↑(List.length (List.take (qBRd y) s)):Int)>(32:Int))=false->((1:Int)=Tok.kind t/\List.take (qBRd y) s=Tok.text t/\qBRa=Tok.n t/\qBRa=Tok.at_ t/\True)/\qBRa=e/\True))/\(isL (qBRf x)=false->True/\(isD (qBRf x)=true->List.length s<=(1000000000:Nat)/\∀(y:Nat),y=spF false s->(qBRa<=(qBRf y)/\(qBRf y)<=(qBRb s))/\(List.length (List.take (qBRd y) s)<=(1000000000:Nat)/\∀(c:Nat),c∈List.take (qBRd y) s->(48:Nat)<=c/\c<=(57:Nat))/\∀(y_1:Int×Int),y_1=numb (List.take (qBRd y) s)->((2:Int)=Tok.kind t/\List.take (qBRd y) s=Tok.text t/\Prod.fst y_1=Tok.n t/\qBRa=Tok.at_ t/\True)/\Prod.snd y_1=e/\True)/\(isD (qBRf x)=false->qBRa<=qBRa/\qBRa+(1:Int)<=(qBRb s)/\∀(x:Nat),s[Int.toNat qBRa]? =some x->(((qBRf x)==(↑(123:Nat):Int))=true->(decide (qBR9 s)=true->(qBR7 s)/\((List.take qBR8 s== [(123:Nat)])=true->(qBRe=Tok.kind t/\ [(123:Nat)]=Tok.text t/\qBRa=Tok.n t/\qBRa=Tok.at_ t/\True)/\qBRa=e/\True)/\((List.take qBR8 s== [(123:Nat)])=false->(qBR5 t)/\qBRc=e/\True))/\(qBR6 s t e))/\(((qBRf x)==(↑(123:Nat):Int))=false->(((qBRf x)==(↑(125:Nat):Int))=true->(decide (qBR9 s)=true->(qBR7 s)/\((List.take qBR8 s== [(125:Nat)])=true->(qBRe=Tok.kind t/\ [(125:Nat)]=Tok.text t/\qBRa=Tok.n t/\qBRa=Tok.at_ t/\True)/\qBRa=e/\True)/\((List.take qBR8 s== [(125:Nat)])=false->(qBR5 t)/\qBRc=e/\True))/\(qBR6 s t e))/\(((qBRf x)==(↑(125:Nat):Int))=false->(((qBRf x)==(↑(40:Nat):Int))=true->(decide (qBR9 s)=true->(qBR7 s)/\((List.take qBR8 s== [(40:Nat)])=true->(qBRe=Tok.kind t/\ [(40:Nat)]=Tok.text t/\qBRa=Tok.n t/\qBRa=Tok.at_ t/\True)/\qBRa=e/\True)/\((List.take qBR8 s== [(40:Nat)])=false->(qBR5 t)/\qBRc=e/\True))/\(qBR6 s t e))/\(((qBRf x)==(↑(40:Nat):Int))=false->(((qBRf x)==(↑(41:Nat):Int))=true->(decide (qBR9 s)=true->(qBR7 s)/\((List.take qBR8 s== [(41:Nat)])=true->(qBRe=Tok.kind t/\ [(41:Nat)]=Tok.text t/\qBRa=Tok.n t/\qBRa=Tok.at_ t/\True)/\qBRa=e/\True)/\((List.take qBR8 s== [(41:Nat)])=false->(qBR5 t)/\qBRc=e/\True))/\(qBR6 s t e))/\(((qBRf x)==(↑(41:Nat):Int))=false->(((qBRf x)==(↑(59:Nat):Int))=true->(decide (qBR9 s)=true->(qBR7 s)/\((List.take qBR8 s== [(59:Nat)])=true->(qBRe=Tok.kind t/\ [(59:Nat)]=Tok.text t/\qBRa=Tok.n t/\qBRa=Tok.at_ t/\True)/\qBRa=e/\True)/\((List.take qBR8 s== [(59:Nat)])=false->(qBR5 t)/\qBRc=e/\True))/\(qBR6 s t e))/\(((qBRf x)==(↑(59:Nat):Int))=false->(((qBRf x)==(↑(44:Nat):Int))=true->(decide (qBR9 s)=true->(qBR7 s)/\((List.take qBR8 s== [(44:Nat)])=true->(qBRe=Tok.kind t/\ [(44:Nat)]=Tok.text t/\qBRa=Tok.n t/\qBRa=Tok.at_ t/\True)/\qBRa=e/\True)/\((List.take qBR8 s== [(44:Nat)])=false->(qBR5 t)/\qBRc=e/\True))/\(qBR6 s t e))/\(((qBRf x)==(↑(44:Nat):Int))=false->(((qBRf x)==(↑(43:Nat):Int))=true->(decide (qBR9 s)=true->(qBR7 s)/\((List.take qBR8 s== [(43:Nat)])=true->(qBRe=Tok.kind t/\ [(43:Nat)]=Tok.text t/\qBRa=Tok.n t/\qBRa=Tok.at_ t/\True)/\qBRa=e/\True)/\((List.take qBR8 s== [(43:Nat)])=false->(qBR5 t)/\qBRc=e/\True))/\(qBR6 s t e))/\(((qBRf x)==(↑(43:Nat):Int))=false->(((qBRf x)==(↑(45:Nat):Int))=true->(decide (qBR9 s)=true->(qBR7 s)/\((List.take qBR8 s== [(45:Nat)])=true->(qBRe=Tok.kind t/\ [(45:Nat)]=Tok.text t/\qBRa=Tok.n t/\qBRa=Tok.at_
t/\True)/\qBRa=e/\True)/\((List.take qBR8 s== [(45:Nat)])=false->(qBR5 t)/\qBRc=e/\True))/\(qBR6 s t e))/\(((qBRf x)==(↑(45:Nat):Int))=false->(((qBRf x)==(↑(42:Nat):Int))=true->(decide (qBR9 s)=true->(qBR7 s)/\((List.take qBR8 s== [(42:Nat)])=true->(qBRe=Tok.kind t/\ [(42:Nat)]=Tok.text t/\qBRa=Tok.n t/\qBRa=Tok.at_ t/\True)/\qBRa=e/\True)/\((List.take qBR8 s== [(42:Nat)])=false->(qBR5 t)/\qBRc=e/\True))/\(qBR6 s t e))/\(((qBRf x)==(↑(42:Nat):Int))=false->(((qBRf x)==(↑(60:Nat):Int))=true->(decide (qBR9 s)=true->(qBR7 s)/\((List.take qBR8 s== [(60:Nat)])=true->(qBRe=Tok.kind t/\ [(60:Nat)]=Tok.text t/\qBRa=Tok.n t/\qBRa=Tok.at_ t/\True)/\qBRa=e/\True)/\((List.take qBR8 s== [(60:Nat)])=false->(qBR5 t)/\qBRc=e/\True))/\(qBR6 s t e))/\(((qBRf x)==(↑(60:Nat):Int))=false->(((qBRf x)==(↑(46:Nat):Int))=true->(decide ((qBRb s)>=(2:Int))=true->(qBRa<=(2:Int)/\(2:Int)<=(qBRb s))/\((List.take (Int.toNat (2:Int)) s== [(46:Nat),(46:Nat)])=true->(qBRe=Tok.kind t/\ [(46:Nat),(46:Nat)]=Tok.text t/\qBRa=Tok.n t/\qBRa=Tok.at_ t/\True)/\qBRa=e/\True)/\((List.take (Int.toNat (2:Int)) s== [(46:Nat),(46:Nat)])=false->(qBR5 t)/\qBRc=e/\True))/\(decide ((qBRb s)>=(2:Int))=false->(qBR5 t)/\qBRc=e/\True))/\(((qBRf x)==(↑(46:Nat):Int))=false->(qBR5 t)/\qBRc=e/\True)))))))))))))):=by kernel_rfl
def sgnW (c:Nat):Option (List Nat):=
 if c=123 then some [123] else if c=125 then some [125] else if c=40 then some [40] else if c=41 then some [41] else if c=59 then some [59] else if c=44 then some [44]
 else if c=43 then some [43] else if c=45 then some [45] else if c=42 then some [42] else if c=60 then some [60] else if c=46 then some [46,46] else none
def z0:Tok:=⟨0,[],0,0⟩
def tokS (s w:List Nat):Tok×Int:=if s.take w.length=w then (⟨3,w,0,0⟩,0) else (z0,150)
def tokP:List Nat->Tok×Int
 | []=>(z0,150)
 |c::r=>if isL c then (if 32<spn isLD (c::r) then (z0,2) else (⟨1,(c::r).take (spn isLD (c::r)),0,0⟩,0))
  else if isD c then (⟨2,(c::r).take (spn isD (c::r)),(numb ((c::r).take (spn isD (c::r)))).1,0⟩,(numb ((c::r).take (spn isD (c::r)))).2)
  else match sgnW c with|some w=>tokS (c::r) w|none=>(z0,150)
theorem Yf (c:Nat) (r:List Nat):tokP (c::r)=if isL c then (if 32<spn isLD (c::r) then (z0,2) else (⟨1,(c::r).take (spn isLD (c::r)),0,0⟩,0))
 else if isD c then (⟨2,(c::r).take (spn isD (c::r)),(numb ((c::r).take (spn isD (c::r)))).1,0⟩,(numb ((c::r).take (spn isD (c::r)))).2)
 else match sgnW c with|some w=>tokS (c::r) w|none=>(z0,150):=rfl
theorem Ziv {f:Int->Bool}:∀{s:List Nat} {c:Nat},c∈s.take (spn f s)->f c=true
 | [],c,h=>by simp at h
 |x::r,c,h=>by
  unfold spn at h
  split at h
  · rename_i hx
    rw [List.take_succ_cons,List.mem_cons] at h
    rcases h with rfl|h
    · exact hx
    · exact Ziv h
  · simp at h
theorem Zab (s w:List Nat) (k:Int) (hk:k=w.length):
 (decide ((↑(List.length s):Int)>=k)=true->((0:Int)<=k/\k<=(↑(List.length s):Int))/\((List.take (Int.toNat k) s==w)=true->((3:Int)=Tok.kind (tokS s w).1/\w=Tok.text (tokS s w).1/\(0:Int)=Tok.n (tokS s w).1/\(0:Int)=Tok.at_ (tokS s w).1/\True)/\(0:Int)=(tokS s w).2/\True)/\
  ((List.take (Int.toNat k) s==w)=false->((0:Int)=Tok.kind (tokS s w).1/\ []=Tok.text (tokS s w).1/\(0:Int)=Tok.n (tokS s w).1/\(0:Int)=Tok.at_ (tokS s w).1/\True)/\(150:Int)=(tokS s w).2/\True))/\
 (decide ((↑(List.length s):Int)>=k)=false->((0:Int)=Tok.kind (tokS s w).1/\ []=Tok.text (tokS s w).1/\(0:Int)=Tok.n (tokS s w).1/\(0:Int)=Tok.at_ (tokS s w).1/\True)/\(150:Int)=(tokS s w).2/\True):=by
 have e:Int.toNat k=w.length:=by omega
 rw [e]
 unfold tokS
 refine ⟨fun h=> ?_,fun h=> ?_⟩
 · have h:(s.length:Int)>=k:=by simpa using h
   refine ⟨⟨by omega,by omega⟩,fun h2=> ?_,fun h2=> ?_⟩
   · have h2:List.take w.length s=w:=by simpa using h2
     rw [if_pos h2]
     exact ⟨⟨rfl,rfl,rfl,rfl,trivial⟩,rfl,trivial⟩
   · have h2:List.take w.length s≠w:=by simpa using h2
     rw [if_neg h2]
     exact ⟨⟨rfl,rfl,rfl,rfl,trivial⟩,rfl,trivial⟩
 · have h:¬(s.length:Int)>=k:=by simpa using h
   have h2:List.take w.length s≠w:=fun e=>by
    have:=congrArg List.length e
    rw [List.length_take] at this
    omega
   rw [if_neg h2]
   exact ⟨⟨rfl,rfl,rfl,rfl,trivial⟩,rfl,trivial⟩
theorem Zti (s : List Nat) (h0 : 0 < s.length) (hs : s.length ≤ 1000000000) : PureC E 59 [.str false s] (.tup [tokV (tokP s).1, .int false .i64 (tokP s).2]) := by
  refine Zc E_ok (Ze E_ok Z9m 400) ?_
  rw [Zth]; delta qBRa qBR5 qBRb qBR9 qBRc qBR6 qBR7 qBR8 qBRf qBRd qBRe
  cases s with
  | nil => exact absurd h0 (by simp)
  | cons c r =>
  refine ⟨Int.le_refl 0, by simp only [List.length_cons]; omega, fun x hx => ?_⟩
  have hx : (c :: r)[0]? = some x := hx
  rw [List.getElem?_cons_zero] at hx
  cases hx
  refine ⟨trivial, fun hl => ?_, fun hl => ?_⟩
  · refine ⟨hs, fun y hy => ?_⟩
    have hy : y = spn isLD (c :: r) := hy
    have hle : y ≤ (c :: r).length := hy ▸ Zdq
    have hm : min y (c :: r).length = y := Nat.min_eq_left hle
    have e1 : Int.toNat (y : Int) = y := by omega
    rw [e1, List.length_take, hm]
    rw [Yf, if_pos hl, ← hy]
    refine ⟨⟨by omega, by omega⟩, fun h => ?_, fun h => ?_⟩
    · have h : (32 : Int) < y := by simpa using h
      rw [if_pos (by omega)]
      exact ⟨⟨rfl, rfl, rfl, rfl, trivial⟩, rfl, trivial⟩
    · have h : ¬ (32 : Int) < y := by simpa using h
      rw [if_neg (by omega)]
      exact ⟨⟨rfl, rfl, rfl, rfl, trivial⟩, rfl, trivial⟩
  refine ⟨trivial, fun hd => ?_, fun hd => ?_⟩
  · refine ⟨hs, fun y hy => ?_⟩
    have hy : y = spn isD (c :: r) := hy
    have hle : y ≤ (c :: r).length := hy ▸ Zdq
    have hm : min y (c :: r).length = y := Nat.min_eq_left hle
    have e1 : Int.toNat (y : Int) = y := by omega
    rw [e1, List.length_take, hm]
    rw [Yf, if_neg (by rw [hl]; decide), if_pos hd, ← hy]
    refine ⟨⟨by omega, by omega⟩, ⟨by omega, fun c' hc' => ?_⟩, fun q hq => ?_⟩
    · rw [hy] at hc'
      have := Ziv hc'
      unfold isD at this
      simp at this
      omega
    · subst hq
      exact ⟨⟨rfl, rfl, rfl, rfl, trivial⟩, rfl, trivial⟩
  refine ⟨Int.le_refl 0, by simp only [List.length_cons]; omega, fun x hx => ?_⟩
  have hx : (c :: r)[0]? = some x := hx
  rw [List.getElem?_cons_zero] at hx
  cases hx
  have hp : ∀ w, sgnW c = some w → tokP (c :: r) = tokS (c :: r) w := fun w hw => by
    rw [Yf, if_neg (by rw [hl]; decide), if_neg (by rw [hd]; decide), hw]
  have st : ∀ (n : Nat) (w : List Nat), sgnW n = some w → ((c : Int) == (n : Int)) = true → tokP (c :: r) = tokS (c :: r) w := fun n w hw h => by
    have : c = n := by have : (c : Int) = n := by simpa using h
                       omega
    subst this
    exact hp w hw
  refine ⟨fun h => by rw [st _ _ rfl h]; exact Zab _ _ _ rfl, fun h1 => ?_⟩
  refine ⟨fun h => by rw [st _ _ rfl h]; exact Zab _ _ _ rfl, fun h2 => ?_⟩
  refine ⟨fun h => by rw [st _ _ rfl h]; exact Zab _ _ _ rfl, fun h3 => ?_⟩
  refine ⟨fun h => by rw [st _ _ rfl h]; exact Zab _ _ _ rfl, fun h4 => ?_⟩
  refine ⟨fun h => by rw [st _ _ rfl h]; exact Zab _ _ _ rfl, fun h5 => ?_⟩
  refine ⟨fun h => by rw [st _ _ rfl h]; exact Zab _ _ _ rfl, fun h6 => ?_⟩
  refine ⟨fun h => by rw [st _ _ rfl h]; exact Zab _ _ _ rfl, fun h7 => ?_⟩
  refine ⟨fun h => by rw [st _ _ rfl h]; exact Zab _ _ _ rfl, fun h8 => ?_⟩
  refine ⟨fun h => by rw [st _ _ rfl h]; exact Zab _ _ _ rfl, fun h9 => ?_⟩
  refine ⟨fun h => by rw [st _ _ rfl h]; exact Zab _ _ _ rfl, fun h10 => ?_⟩
  refine ⟨fun h => by rw [st _ _ rfl h]; exact Zab _ _ _ rfl, fun h11 => ?_⟩
  have hn : sgnW c = none := by
    have f : ∀ n : Nat, ((c : Int) == (n : Int)) = false → c ≠ n := fun n h e => by subst e; simp at h
    unfold sgnW
    rw [if_neg (f _ h1), if_neg (f _ h2), if_neg (f _ h3), if_neg (f _ h4), if_neg (f _ h5), if_neg (f _ h6), if_neg (f _ h7), if_neg (f _ h8), if_neg (f _ h9), if_neg (f _ h10), if_neg (f _ h11)]
  have : tokP (c :: r) = (z0, 150) := by
    rw [Yf, if_neg (by rw [hl]; decide), if_neg (by rw [hd]; decide), hn]
  rw [this]
  exact ⟨⟨rfl, rfl, rfl, rfl, trivial⟩, rfl, trivial⟩
noncomputable def Z63:Sum thy:=Ww (dA1 dS) (fun x=>0<x.1.length/\x.1.length<=1000000000) (fun x=>tokP x.1) fun y=> .tup [tokV y.1,.int false .i64 y.2]
theorem Zyd:SumOk E 59 Z63:=Zy E_ok (Zb (f:=59) rfl) fun x h=>Zti x.1 h.1 h.2
structure TkX where
 at_:Nat
 ts:List Tok
 r:Nat
def Atk:Fr thy->Hp thy->Nat->Ann thy:=fun T h i=>{X:=Bool×TkX,fr:=fun x=> [(0,T 0),(5,match x.1 with|true=> .sl i 0 x.2.ts.length 4 none|false=> .val (.slice none 0 0)),(6,.int false .i64 x.2.at_)],bl:=fun x=>(match x.1 with|true=> [(i,.rows Th.toks x.2.ts 0)]|false=> []),src:=fun x=>(match x.1 with|true=> [(i,5)]|false=> []),md:= [],ih:=i+1,M:=i+60,meas:=fun x=>x.2.r,ex:=ex2,al:=al2,exOk:=Zg6,alOk:=Zg7}
noncomputable def Ftk:Fns thy:=addL (addS F0 59 Z63) 25 5 Atk E
theorem Yeb:FnsOk E Ftk:=Zn E_ok (Za F0_ok Zyd) _ _ _
abbrev qBRg (a0:TkX):=(↑(TkX.at_ a0):Int)
abbrev qBRl:=(0:Nat)
abbrev qBRp:=(1:Nat)
abbrev qBRh (a0:Bool×TkX->Prop) (b0:TkX) (c0:List Nat):=(∃(y_1:TkX),a0 (false,y_1)/\y_1.3+qBRp<=b0.3/\true=true/\(c0=c0/\Value.slice none qBRl qBRl=Value.slice none qBRl qBRl/\wr IntKind.i64 ((qBRg b0)+(1:Int))=(qBRg y_1)/\True)/\True)
abbrev qBRi (a0:Bool×TkX->Prop) (b0:TkX) (c0:List Nat):=(∃(y_1:TkX),a0 (false,y_1)/\y_1.3+qBRp<=b0.3/\true=true/\(c0=c0/\False/\wr IntKind.i64 ((qBRg b0)+(1:Int))=(qBRg y_1)/\True)/\True)
abbrev qBRj (a0:List Nat) (b0:TkX) (c0:TkX):=(a0=a0/\(qBRl=qBRl/\List.length (TkX.ts b0)=List.length (TkX.ts c0)/\True)/\wr IntKind.i64 ((qBRg b0)+(1:Int))=(qBRg c0)/\True)
abbrev qBRk (a0:TkX) (b0:List Nat):=(List.drop (Int.toNat (qBRg a0)) b0)
abbrev qBRm:=(Int.toNat (10:Int)%(256:Nat))
abbrev qBRn (a0:List Nat):=(↑(List.length a0):Int)
abbrev qBRo:=(0:Int)
abbrev qBRq (a0:TkX) (b0:Tok×Int):=((qBRg a0)+(↑(List.length (Tok.text (Prod.fst b0))):Int))
abbrev qBRr (a0:TkX) (b0:List Nat):=((qBRg a0)+wr IntKind.i64 (idxL qBRm qBRl (qBRk a0 b0)+(1:Int)))
abbrev qBRs (a0:TkX) (b0:TkX):=(TkX.ts a0=TkX.ts b0/\qBRl=qBRl)
abbrev qBRt (a0:TkX) (b0:List Tok):=(qBRl+List.length (TkX.ts a0)<=List.length (TkX.ts a0)/\List.take (List.length (TkX.ts a0)) (TkX.ts a0)=b0)
abbrev qBRu (a0:TkX) (b0:List Nat):=(qBRo<=(qBRg a0)/\(qBRg a0)<=(qBRn b0))
theorem Znj (s:List Nat) (l:List Tok) (a e:Int):Zh E Ftk (vc E Ftk 400) 25 [.str false s] hp0 0 (fun r=>ret E (patch hp0 0 r) r.v (.tup [.psl Th.toks l false,.int false .i64 a,.int false .i64 e]))=(
 (decide ((qBRn s)>(2000:Int))=true->l= []/\qBRo=a/\(2:Int)=e/\True)/\(decide ((qBRn s)>(2000:Int))=false->∃(R:Bool×TkX->Prop),((∃(y:TkX),R (false,y)/\true=true/\(s=s/\Value.slice none qBRl qBRl=Value.slice none qBRl qBRl/\qBRo=(qBRg y)/\True)/\True)\/∃(y:TkX),R (true,y)/\true=true/\False)/\(∀(y:TkX),R (false,y)->(decide ((qBRg y)<(qBRn s))=true->qBRo<=(qBRg y)/\(qBRg y)+(1:Int)<=(qBRn s)/\∀(x:Nat),s[Int.toNat (qBRg y)]? =some x->(((↑x:Int)==(32:Int))=true->(qBRh R y s)\/∃(y_1:TkX),R (true,y_1)/\y_1.3+qBRp<=y.3/\true=true/\False)/\(((↑x:Int)==(32:Int))=false->(((↑x:Int)==(9:Int))=true->(qBRh R y s)\/∃(y_1:TkX),R (true,y_1)/\y_1.3+qBRp<=y.3/\true=true/\False)/\(((↑x:Int)==(9:Int))=false->(((↑x:Int)==(13:Int))=true->(qBRh R y s)\/∃(y_1:TkX),R (true,y_1)/\y_1.3+qBRp<=y.3/\true=true/\False)/\(((↑x:Int)==(13:Int))=false->(((↑x:Int)==(10:Int))=true->(qBRh R y s)\/∃(y_1:TkX),R (true,y_1)/\y_1.3+qBRp<=y.3/\true=true/\False)/\(((↑x:Int)==(10:Int))=false->(((↑x:Int)==(35:Int))=true->(qBRu y s)/\(decide (idxL qBRm qBRl (qBRk y s)<qBRo)=true->l= []/\qBRo=a/\qBRo=e/\True)/\(decide (idxL qBRm qBRl (qBRk y s)<qBRo)=false->(∃(y_1:TkX),R (false,y_1)/\y_1.3+qBRp<=y.3/\true=true/\(s=s/\Value.slice none qBRl qBRl=Value.slice none qBRl qBRl/\wr IntKind.i64 (qBRr y s)=(qBRg y_1)/\True)/\True)\/∃(y_1:TkX),R (true,y_1)/\y_1.3+qBRp<=y.3/\true=true/\False))/\(((↑x:Int)==(35:Int))=false->(qBRu y s)/\(qBRl+qBRp<=List.length (qBRk y s)/\List.length (qBRk y s)<=(1000000000:Nat))/\∀(y_1:Tok×Int),y_1=tokP (qBRk y s)->((Prod.snd y_1 !=qBRo)=true->l= []/\(qBRg y)=a/\Prod.snd y_1=e/\True)/\((Prod.snd y_1 !=qBRo)=false->(∃(y_2:TkX),R (false,y_2)/\y_2.3+qBRp<=y.3/\true=true/\(s=s/\False/\wr IntKind.i64 (qBRq y y_1)=(qBRg y_2)/\True)/\True)\/∃(y_2:TkX),R (true,y_2)/\y_2.3+qBRp<=y.3/\true=true/\(s=s/\(qBRl=qBRl/\qBRp=List.length (TkX.ts y_2)/\True)/\wr IntKind.i64 (qBRq y y_1)=(qBRg y_2)/\True)/\([Tok.mk (Tok.kind (Prod.fst y_1)) (Tok.text (Prod.fst y_1)) (Tok.n (Prod.fst y_1)) (qBRg y)]=TkX.ts y_2/\qBRl=qBRl)/\True)))))))/\(decide ((qBRg y)<(qBRn s))=false->l= []/\qBRo=a/\qBRo=e/\True))/\∀(y:TkX),R (true,y)->(decide ((qBRg y)<(qBRn s))=true->qBRo<=(qBRg y)/\(qBRg y)+(1:Int)<=(qBRn s)/\∀(x:Nat),s[Int.toNat (qBRg y)]? =some x->(((↑x:Int)==(32:Int))=true->(qBRi R y s)\/∃(y_1:TkX),R (true,y_1)/\y_1.3+qBRp<=y.3/\true=true/\(qBRj s y y_1)/\(qBRs y y_1)/\True)/\(((↑x:Int)==(32:Int))=false->(((↑x:Int)==(9:Int))=true->(qBRi R y s)\/∃(y_1:TkX),R (true,y_1)/\y_1.3+qBRp<=y.3/\true=true/\(qBRj s y y_1)/\(qBRs y y_1)/\True)/\(((↑x:Int)==(9:Int))=false->(((↑x:Int)==(13:Int))=true->(qBRi R y s)\/∃(y_1:TkX),R (true,y_1)/\y_1.3+qBRp<=y.3/\true=true/\(qBRj s y y_1)/\(qBRs y y_1)/\True)/\(((↑x:Int)==(13:Int))=false->(((↑x:Int)==(10:Int))=true->(qBRi R y s)\/∃(y_1:TkX),R (true,y_1)/\y_1.3+qBRp<=y.3/\true=true/\(qBRj s y y_1)/\(qBRs y y_1)/\True)/\(((↑x:Int)==(10:Int))=false->(((↑x:Int)==(35:Int))=true->(qBRu y s)/\(decide (idxL qBRm qBRl (qBRk y s)<qBRo)=true->(qBRt y l)/\qBRo=a/\qBRo=e/\True)/\(decide (idxL qBRm qBRl (qBRk y s)<qBRo)=false->(∃(y_1:TkX),R (false,y_1)/\y_1.3+qBRp<=y.3/\true=true/\(s=s/\False/\wr IntKind.i64 (qBRr y s)=(qBRg y_1)/\True)/\True)\/∃(y_1:TkX),R (true,y_1)/\y_1.3+qBRp<=y.3/\true=true/\(s=s/\(qBRl=qBRl/\List.length (TkX.ts y)=List.length (TkX.ts y_1)/\True)/\wr IntKind.i64 (qBRr y s)=(qBRg y_1)/\True)/\(qBRs y y_1)/\True))/\
(((↑x:Int)==(35:Int))=false->(qBRu y s)/\(qBRl+qBRp<=List.length (qBRk y s)/\List.length (qBRk y s)<=(1000000000:Nat))/\∀(y_1:Tok×Int),y_1=tokP (qBRk y s)->((Prod.snd y_1 !=qBRo)=true->l= []/\(qBRg y)=a/\Prod.snd y_1=e/\True)/\((Prod.snd y_1 !=qBRo)=false->(List.length (TkX.ts y)<=List.length (TkX.ts y)/\qBRl<=List.length (TkX.ts y)/\(List.length (TkX.ts y)+qBRp)*(40:Nat)<=(140737488355328:Nat))/\((∃(y_2:TkX),R (false,y_2)/\y_2.3+qBRp<=y.3/\true=true/\(s=s/\False/\wr IntKind.i64 (qBRq y y_1)=(qBRg y_2)/\True)/\True)\/∃(y_2:TkX),R (true,y_2)/\y_2.3+qBRp<=y.3/\true=true/\(s=s/\(qBRl=qBRl/\List.length (TkX.ts y)+qBRp=List.length (TkX.ts y_2)/\True)/\wr IntKind.i64 (qBRq y y_1)=(qBRg y_2)/\True)/\(List.take (List.length (TkX.ts y)) (TkX.ts y)++ [Tok.mk (Tok.kind (Prod.fst y_1)) (Tok.text (Prod.fst y_1)) (Tok.n (Prod.fst y_1)) (qBRg y)]=TkX.ts y_2/\qBRl=qBRl)/\True))))))))/\(decide ((qBRg y)<(qBRn s))=false->(qBRt y l)/\qBRo=a/\qBRo=e/\True))):=by kernel_rfl
def blk (c:Nat):Bool:=c=32||c=9||c=13||c=10
def tksL:Nat->List Nat->Nat->List Tok->List Tok×Int×Int
 |0,_,_,ts=>(ts,0,0)
 |k+1,s,p,ts=>match s[p]? with
  |none=>(ts,0,0)
  |some c=>if blk c then tksL k s (p+1) ts
   else if c=35 then (if idxL 10 0 (s.drop p)<0 then (ts,0,0) else tksL k s (p+(idxL 10 0 (s.drop p)).toNat+1) ts)
   else if (tokP (s.drop p)).2≠0 then ([],p,(tokP (s.drop p)).2)
   else tksL k s (p+(tokP (s.drop p)).1.text.length) (ts++ [⟨(tokP (s.drop p)).1.kind,(tokP (s.drop p)).1.text,(tokP (s.drop p)).1.n,p⟩])
def Zm (s:List Nat):List Tok×Int×Int:=if 2000<s.length then ([],0,2) else tksL s.length s 0 []
theorem Znk (c:Nat):∀(l:List Nat) (j:Nat),idxL c j l<j+l.length/\ -1<=idxL c j l
 | [],j=>by unfold idxL;simp;try omega
 |x::r,j=>by
  unfold idxL
  split
  · simp;try omega
  · have:=Znk c r (j+1)
    simp only [List.length_cons]
    omega
theorem Zqx {c:Nat} {w:List Nat} (h:sgnW c=some w):1<=w.length:=by
 unfold sgnW at h
 repeat' split at h
 all_goals (cases h<;>simp)
theorem Ziw {s:List Nat} (h:(tokP s).2=0):1<=(tokP s).1.text.length/\(tokP s).1.text.length<=s.length/\(tokP s).1.text=s.take (tokP s).1.text.length:=by
 cases s with
 |nil=>cases h
 |cons c r=>
  rw [Yf] at h⊢
  have go:∀n,1<=n->n<=(c::r).length->1<=((c::r).take n).length/\((c::r).take n).length<=(c::r).length/\(c::r).take n=(c::r).take ((c::r).take n).length:=fun n h1 h2=>by
   have e:((c::r).take n).length=n:=by rw [List.length_take];omega
   rw [e]
   exact ⟨h1,h2,rfl⟩
  split at h
  · rename_i hl
    rw [if_pos hl]
    split at h
    · cases h
    · rename_i hn
      rw [if_neg hn]
      refine go _ ?_ Zdq
      have:isLD c=true:=by unfold isLD;rw [hl];rfl
      unfold spn
      rw [if_pos this]
      omega
  · rename_i hl
    rw [if_neg hl]
    split at h
    · rename_i hd
      rw [if_pos hd]
      refine go _ ?_ Zdq
      unfold spn
      rw [if_pos hd]
      omega
    · rename_i hd
      rw [if_neg hd]
      split at h
      · rename_i w hw
        unfold tokS at h⊢
        split at h
        · rename_i ht
          have e:=congrArg List.length ht
          rw [List.length_take] at e
          refine ⟨?_,?_,?_⟩
          · simp only [if_pos ht]
            exact Zqx hw
          · simp only [if_pos ht]
            omega
          · simp only [if_pos ht]
            exact ht.symm
        · cases h
      · cases h
def TkI (s:List Nat) (res:List Tok×Int×Int) (y:TkX):Prop:=y.at_<=s.length/\s.length<=y.at_+y.r/\y.ts.length<=y.at_/\tksL y.r s y.at_ y.ts=res
theorem Z64 {s:List Nat} {res} {y:TkX} (h:TkI s res y) (hq:¬y.at_<s.length):res=(y.ts,0,0):=by
 obtain ⟨h1,h2,h3,h4⟩:=h
 rw [<-h4]
 cases hr:y.r with
 |zero=>rfl
 |succ k=>
  unfold tksL
  rw [List.getElem?_eq_none (by omega)]
theorem Zfi {s:List Nat} {res} {y:TkX} {c:Nat} (h:TkI s res y) (hc:s[y.at_]? =some c):∃k,y.r=k+1/\s.length<=y.at_+(k+1)/\y.at_<s.length/\(if blk c then tksL k s (y.at_+1) y.ts
 else if c=35 then (if idxL 10 0 (s.drop y.at_)<0 then (y.ts,0,0) else tksL k s (y.at_+(idxL 10 0 (s.drop y.at_)).toNat+1) y.ts)
 else if (tokP (s.drop y.at_)).2≠0 then ([],y.at_,(tokP (s.drop y.at_)).2)
 else tksL k s (y.at_+(tokP (s.drop y.at_)).1.text.length) (y.ts++ [⟨(tokP (s.drop y.at_)).1.kind,(tokP (s.drop y.at_)).1.text,(tokP (s.drop y.at_)).1.n,y.at_⟩]))=res:=by
 obtain ⟨h1,h2,h3,h4⟩:=h
 have hlt:=(List.getElem?_eq_some_iff.1 hc).1
 cases hr:y.r with
 |zero=>omega
 |succ k=>
  refine ⟨k,rfl,by omega,hlt,?_⟩
  rw [hr] at h4
  unfold tksL at h4
  rw [hc] at h4
  exact h4
theorem Zqy {s:List Nat} {res} {y:TkX} {c:Nat} (h:TkI s res y) (hc:s[y.at_]? =some c) (hb:blk c=true):TkI s res ⟨y.at_+1,y.ts,y.r-1⟩/\y.r-1+1<=y.r/\y.at_<s.length:=by
 obtain ⟨k,hr,hk,hl,he⟩:=Zfi h hc
 rw [if_pos hb] at he
 have h3:=h.2.2.1
 refine ⟨⟨hl,?_,?_,?_⟩,by omega,hl⟩
 · show s.length<=y.at_+1+(y.r-1)
   omega
 · show y.ts.length<=y.at_+1
   omega
 · rw [hr]
   exact he
theorem Z65 {s:List Nat} {res} {y:TkX} {c:Nat} (h:TkI s res y) (hc:s[y.at_]? =some c) (hb:blk c=false) (h35:c=35) (hi:¬idxL 10 0 (s.drop y.at_)<0):TkI s res ⟨y.at_+(idxL 10 0 (s.drop y.at_)).toNat+1,y.ts,y.r-1⟩/\y.r-1+1<=y.r/\y.at_+(idxL 10 0 (s.drop y.at_)).toNat+1<=s.length:=by
 obtain ⟨k,hr,hk,hl,he⟩:=Zfi h hc
 rw [if_neg (by rw [hb];decide),if_pos h35,if_neg hi] at he
 have h3:=h.2.2.1
 have hb:=(Znk 10 (s.drop y.at_) 0).1
 rw [List.length_drop] at hb
 refine ⟨⟨?_,?_,?_,?_⟩,by omega,by omega⟩
 · show y.at_+(idxL 10 0 (s.drop y.at_)).toNat+1<=s.length
   omega
 · show s.length<=y.at_+(idxL 10 0 (s.drop y.at_)).toNat+1+(y.r-1)
   omega
 · show y.ts.length<=y.at_+(idxL 10 0 (s.drop y.at_)).toNat+1
   omega
 · rw [hr]
   exact he
theorem Zye {s:List Nat} {res} {y:TkX} {c:Nat} (h:TkI s res y) (hc:s[y.at_]? =some c) (hb:blk c=false) (h35:c=35) (hi:idxL 10 0 (s.drop y.at_)<0):res=(y.ts,0,0):=by
 obtain ⟨k,hr,hk,hl,he⟩:=Zfi h hc
 rw [if_neg (by rw [hb];decide),if_pos h35,if_pos hi] at he
 exact he.symm
theorem Z66 {s:List Nat} {res} {y:TkX} {c:Nat} (h:TkI s res y) (hc:s[y.at_]? =some c) (hb:blk c=false) (h35:c≠35) (hi:(tokP (s.drop y.at_)).2≠0):res=([],(y.at_:Int),(tokP (s.drop y.at_)).2):=by
 obtain ⟨k,hr,hk,hl,he⟩:=Zfi h hc
 rw [if_neg (by rw [hb];decide),if_neg h35,if_pos hi] at he
 exact he.symm
theorem Z67 {s:List Nat} {res} {y:TkX} {c:Nat} (h:TkI s res y) (hc:s[y.at_]? =some c) (hb:blk c=false) (h35:c≠35) (hi:(tokP (s.drop y.at_)).2=0):TkI s res ⟨y.at_+(tokP (s.drop y.at_)).1.text.length,y.ts++ [⟨(tokP (s.drop y.at_)).1.kind,(tokP (s.drop y.at_)).1.text,(tokP (s.drop y.at_)).1.n,y.at_⟩],y.r-1⟩/\y.r-1+1<=y.r/\y.at_+(tokP (s.drop y.at_)).1.text.length<=s.length:=by
 obtain ⟨k,hr,hk,hl,he⟩:=Zfi h hc
 rw [if_neg (by rw [hb];decide),if_neg h35,if_neg (by rw [hi];decide)] at he
 have h3:=h.2.2.1
 obtain ⟨n1,n2,_⟩:=Ziw hi
 rw [List.length_drop] at n2
 refine ⟨⟨?_,?_,?_,?_⟩,by omega,by omega⟩
 · show y.at_+(tokP (s.drop y.at_)).1.text.length<=s.length
   omega
 · show s.length<=y.at_+(tokP (s.drop y.at_)).1.text.length+(y.r-1)
   omega
 · show (y.ts++ [_]).length<=y.at_+(tokP (s.drop y.at_)).1.text.length
   rw [List.length_append]
   simp
   omega
 · rw [hr]
   exact he
theorem Znl (s:List Nat):PureC E 25 [.str false s] (.tup [.psl Th.toks (Zm s).1 false,.int false .i64 (Zm s).2.1,.int false .i64 (Zm s).2.2]):=by
 refine Zc E_ok (Ze E_ok Yeb 400) ?_
 rw [Znj];delta qBRg qBRl qBRp qBRh qBRi qBRj qBRk qBRm qBRn qBRo qBRq qBRr qBRs qBRt qBRu
 refine ⟨fun h=> ?_,fun h=> ?_⟩
 · have h:(s.length:Int)>2000:=by simpa using h
   unfold Zm
   rw [if_pos (by omega)]
   exact ⟨rfl,rfl,rfl,trivial⟩
 have h:¬(s.length:Int)>2000:=by simpa using h
 have hp:Zm s=tksL s.length s 0 []:=by unfold Zm;rw [if_neg (by omega)]
 generalize Zm s=res at hp
 refine ⟨fun x=>(x.1=false->x.2.ts= [])/\TkI s res x.2,Or.inl ⟨⟨0,[],s.length⟩,⟨fun _=>rfl,Nat.zero_le _,by show s.length<=0+s.length;omega,Nat.le_refl _,hp.symm⟩,rfl,⟨rfl,rfl,rfl,trivial⟩,trivial⟩,?_,?_⟩
 all_goals
  rintro y ⟨h0,hy⟩
  replace hy:TkI s res y:=hy
  refine ⟨fun hq=> ?_,fun hq=> ?_⟩
 · have h0:y.ts= []:=h0 rfl
   have hq:(y.at_:Int)<s.length:=by simpa using hq
   refine ⟨by omega,by omega,fun c hc=> ?_⟩
   have hc:s[y.at_]? =some c:=hc
   have bl:∀n:Nat,((c:Int)==(n:Int))=true->c=n:=fun n h=>by
    have:(c:Int)=n:=by simpa using h
    omega
   have nb:∀n:Nat,((c:Int)==(n:Int))=false->c≠n:=fun n h e=>by subst e;simp at h
   have gb:blk c=true->(∃(y_1:TkX),((false=false->y_1.ts= [])/\TkI s res y_1)/\y_1.3+(1:Nat)<=y.3/\true=true/\(s=s/\Value.slice none (0:Nat) (0:Nat)=Value.slice none (0:Nat) (0:Nat)/\wr IntKind.i64 ((↑(TkX.at_ y):Int)+(1:Int))=(↑(TkX.at_ y_1):Int)/\True)/\True):=fun hb=>
    ⟨⟨y.at_+1,y.ts,y.r-1⟩,⟨fun _=>h0,(Zqy hy hc hb).1⟩,(Zqy hy hc hb).2.1,rfl,⟨rfl,rfl,wr64 (by omega) (by omega),trivial⟩,trivial⟩
   refine ⟨fun h1=>Or.inl (gb (by rw [bl 32 h1];rfl)),fun h1=>⟨fun h2=>Or.inl (gb (by rw [bl 9 h2];rfl)),fun h2=>⟨fun h3=>Or.inl (gb (by rw [bl 13 h3];rfl)),fun h3=>⟨fun h4=>Or.inl (gb (by rw [bl 10 h4];rfl)),fun h4=> ?_⟩⟩⟩⟩
   have hb:blk c=false:=by
    unfold blk
    simp [nb 32 h1,nb 9 h2,nb 13 h3,nb 10 h4]
   have ea:Int.toNat (y.at_:Int)=y.at_:=by omega
   rw [ea]
   refine ⟨fun h5=> ?_,fun h5=> ?_⟩
   · have h35:c=35:=bl 35 h5
     refine ⟨⟨by omega,by omega⟩,fun h6=> ?_,fun h6=> ?_⟩
     · have h6:idxL 10 0 (s.drop y.at_)<0:=by simpa using h6
       have:=Zye hy hc hb h35 h6
       rw [this,h0]
       exact ⟨rfl,rfl,rfl,trivial⟩
     · have h6:¬idxL 10 0 (s.drop y.at_)<0:=by simpa using h6
       obtain ⟨g1,g2,g3⟩:=Z65 hy hc hb h35 h6
       refine Or.inl ⟨⟨y.at_+(idxL 10 0 (s.drop y.at_)).toNat+1,y.ts,y.r-1⟩,⟨fun _=>h0,g1⟩,g2,rfl,⟨rfl,rfl,?_,trivial⟩,trivial⟩
       show wr IntKind.i64 ((y.at_:Int)+wr IntKind.i64 (idxL 10 0 (s.drop y.at_)+1))=((y.at_+(idxL 10 0 (s.drop y.at_)).toNat+1:Nat):Int)
       rw [show wr IntKind.i64 (idxL 10 0 (s.drop y.at_)+1)=idxL 10 0 (s.drop y.at_)+1 from wr64 (by omega) (by omega)]
       rw [wr64 (by omega) (by omega)]
       omega
   · have h35:c≠35:=nb 35 h5
     refine ⟨⟨by omega,by omega⟩,⟨by rw [List.length_drop];omega,by rw [List.length_drop];omega⟩,fun z hz=> ?_⟩
     subst hz
     refine ⟨fun h6=> ?_,fun h6=> ?_⟩
     · have h6:(tokP (s.drop y.at_)).2≠0:=by simpa using h6
       rw [Z66 hy hc hb h35 h6]
       exact ⟨rfl,rfl,rfl,trivial⟩
     · have h6:(tokP (s.drop y.at_)).2=0:=by simpa using h6
       obtain ⟨g1,g2,g3⟩:=Z67 hy hc hb h35 h6
       rw [h0] at g1
       refine Or.inr ⟨_,⟨(fun h=>by cases h),g1⟩,g2,rfl,⟨rfl,⟨rfl,rfl,trivial⟩,?_,trivial⟩,⟨rfl,rfl⟩,trivial⟩
       show wr IntKind.i64 ((y.at_:Int)+((tokP (s.drop y.at_)).1.text.length:Int))=((y.at_+(tokP (s.drop y.at_)).1.text.length:Nat):Int)
       rw [wr64 (by omega) (by omega)]
       omega
 · have hq:¬(y.at_:Int)<s.length:=by simpa using hq
   rw [Z64 hy (by omega),h0 rfl]
   exact ⟨rfl,rfl,rfl,trivial⟩
 · have hq:(y.at_:Int)<s.length:=by simpa using hq
   refine ⟨by omega,by omega,fun c hc=> ?_⟩
   have hc:s[y.at_]? =some c:=hc
   have bl:∀n:Nat,((c:Int)==(n:Int))=true->c=n:=fun n h=>by
    have:(c:Int)=n:=by simpa using h
    omega
   have nb:∀n:Nat,((c:Int)==(n:Int))=false->c≠n:=fun n h e=>by subst e;simp at h
   have gb:blk c=true->∃(y_1:TkX),((true=false->y_1.ts= [])/\TkI s res y_1)/\y_1.3+(1:Nat)<=y.3/\true=true/\(s=s/\((0:Nat)=(0:Nat)/\List.length (TkX.ts y)=List.length (TkX.ts y_1)/\True)/\wr IntKind.i64 ((↑(TkX.at_ y):Int)+(1:Int))=(↑(TkX.at_ y_1):Int)/\True)/\(TkX.ts y=TkX.ts y_1/\(0:Nat)=(0:Nat))/\True:=fun hb=>
    ⟨⟨y.at_+1,y.ts,y.r-1⟩,⟨(fun h=>by cases h),(Zqy hy hc hb).1⟩,(Zqy hy hc hb).2.1,rfl,⟨rfl,⟨rfl,rfl,trivial⟩,wr64 (by omega) (by omega),trivial⟩,⟨rfl,rfl⟩,trivial⟩
   refine ⟨fun h1=>Or.inr (gb (by rw [bl 32 h1];rfl)),fun h1=>⟨fun h2=>Or.inr (gb (by rw [bl 9 h2];rfl)),fun h2=>⟨fun h3=>Or.inr (gb (by rw [bl 13 h3];rfl)),fun h3=>⟨fun h4=>Or.inr (gb (by rw [bl 10 h4];rfl)),fun h4=> ?_⟩⟩⟩⟩
   have hb:blk c=false:=by
    unfold blk
    simp [nb 32 h1,nb 9 h2,nb 13 h3,nb 10 h4]
   have ea:Int.toNat (y.at_:Int)=y.at_:=by omega
   have h3:=hy.2.2.1
   rw [ea]
   refine ⟨fun h5=> ?_,fun h5=> ?_⟩
   · have h35:c=35:=bl 35 h5
     refine ⟨⟨by omega,by omega⟩,fun h6=> ?_,fun h6=> ?_⟩
     · have h6:idxL 10 0 (s.drop y.at_)<0:=by simpa using h6
       have:=Zye hy hc hb h35 h6
       rw [this]
       exact ⟨⟨by omega,List.take_length⟩,rfl,rfl,trivial⟩
     · have h6:¬idxL 10 0 (s.drop y.at_)<0:=by simpa using h6
       obtain ⟨g1,g2,g3⟩:=Z65 hy hc hb h35 h6
       refine Or.inr ⟨_,⟨(fun h=>by cases h),g1⟩,g2,rfl,⟨rfl,⟨rfl,rfl,trivial⟩,?_,trivial⟩,⟨rfl,rfl⟩,trivial⟩
       show wr IntKind.i64 ((y.at_:Int)+wr IntKind.i64 (idxL 10 0 (s.drop y.at_)+1))=((y.at_+(idxL 10 0 (s.drop y.at_)).toNat+1:Nat):Int)
       rw [show wr IntKind.i64 (idxL 10 0 (s.drop y.at_)+1)=idxL 10 0 (s.drop y.at_)+1 from wr64 (by omega) (by omega)]
       rw [wr64 (by omega) (by omega)]
       omega
   · have h35:c≠35:=nb 35 h5
     refine ⟨⟨by omega,by omega⟩,⟨by rw [List.length_drop];omega,by rw [List.length_drop];omega⟩,fun z hz=> ?_⟩
     subst hz
     refine ⟨fun h6=> ?_,fun h6=> ?_⟩
     · have h6:(tokP (s.drop y.at_)).2≠0:=by simpa using h6
       rw [Z66 hy hc hb h35 h6]
       exact ⟨rfl,rfl,rfl,trivial⟩
     · have h6:(tokP (s.drop y.at_)).2=0:=by simpa using h6
       obtain ⟨g1,g2,g3⟩:=Z67 hy hc hb h35 h6
       refine ⟨⟨Nat.le_refl _,Nat.zero_le _,by omega⟩,Or.inr ⟨_,⟨(fun h=>by cases h),g1⟩,g2,rfl,⟨rfl,⟨rfl,?_,trivial⟩,?_,trivial⟩,⟨?_,rfl⟩,trivial⟩⟩
       · show y.ts.length+1=(y.ts++ [_]).length
         rw [List.length_append]
         rfl
       · show wr IntKind.i64 ((y.at_:Int)+((tokP (s.drop y.at_)).1.text.length:Int))=((y.at_+(tokP (s.drop y.at_)).1.text.length:Nat):Int)
         rw [wr64 (by omega) (by omega)]
         omega
       · show List.take y.ts.length y.ts++_=y.ts++_
         rw [List.take_length]
 · have hq:¬(y.at_:Int)<s.length:=by simpa using hq
   rw [Z64 hy (by omega)]
   exact ⟨⟨by omega,List.take_length⟩,rfl,rfl,trivial⟩
end
section
open Go.RowKit
section
variable {Y : Thy} {E : Eng Y}
def frzH (h:Hp Y) (bs:List Nat):Hp Y:=fun b=>match memB b bs with|true=>frzB (h b)|false=>h b
noncomputable def frzA (E:Eng Y) (gth:List (SV Y)->Option Y.Th) (n:Nat) (S:Sum Y):Sum Y:=fun args h i k=>
 match args with
 |a::rest=>frzL (frzK E gth h n) rest fun rest' bs=>S (a::rest') (frzH h bs) i fun r=>Vi (bs++r.mods) fun m=>k ⟨r.v,r.n,m,patch (frzH h bs) i r,none⟩
 | []=>False
theorem Zcl {h:Hp Y} {bs:List Nat} {b:Nat} (hb:frzH h bs b≠none):h b≠none:=by
 intro e
 apply hb
 unfold frzH
 rw [e]
 cases memB b bs<;>rfl
theorem Z4q {h:Hp Y} {bs:List Nat} {b:Nat} (hb:b∉bs):frzH h bs b=h b:=by
 unfold frzH
 cases hm:memB b bs with
 |true=>exact absurd (memB_iff.1 hm) hb
 |false=>rfl
theorem Za0 (h:Hp Y) (bs:List Nat) (i:Nat) (r:Res Y):patch h i ⟨r.v,r.n,bs++r.mods,patch (frzH h bs) i r,none⟩=patch (frzH h bs) i r:=by
 funext b
 rw [Zj]
 by_cases c:b∈bs++r.mods\/(i<=b/\b<i+r.n)
 · rw [if_pos c]
 · rw [if_neg c,Zj]
   have c1:b∉bs:=fun h=>c (.inl (List.mem_append_left _ h))
   rw [if_neg (fun h=>c (h.elim (fun h=> .inl (List.mem_append_right _ h)) .inr)),Z4q c1]
theorem Zi9 {h:Hp Y} {bs:List Nat} {i n:Nat} {mods:List Nat} {σ σ':Pl} {g g':GH} {w w':World} {B:Nat} (hI:Inv E B σ h g w) (hS:Stp i n mods σ (frzG E h σ bs g w) w σ' g' w'):Stp i n (bs++mods) σ g w σ' g' w':=by
 refine ⟨hS.sig,hS.snew,(Ui hI).trans hS.gle,fun r o v hv=> ?_,hS.gmnew,fun r hr hx=>hS.heap r hr fun b hb=>hx b (List.mem_append_right _ hb),hS.size,hS.os,hS.tape,hS.output,fun b r z h1 h2=> ?_⟩
 · rcases hS.gcnew r o v hv with h1|h1|⟨b,hb,h1⟩
   · rcases Zak h1 with ⟨_,b,hb,z,x,h2,_⟩|h2
     · exact .inr (.inr ⟨b,List.mem_append_left _ hb,z,h2⟩)
     · exact .inl h2
   · exact .inr (.inl h1)
   · exact .inr (.inr ⟨b,List.mem_append_right _ hb,h1⟩)
 · rcases hS.blk b r z h1 h2 with h3|⟨b',hb',h3⟩
   · exact .inl h3
   · exact .inr ⟨b',List.mem_append_right _ hb',h3⟩
theorem Zz8 (hE:EngOk E) {gth:List (SV Y)->Option Y.Th} {n:Nat} {f:Nat} {S:Sum Y} (hS:SumOk E f S):SumOk E f (frzA E gth n S):=by
 refine ⟨hS.good,fun args h i k hD hk=> ?_⟩
 unfold frzA at hk
 split at hk
 case h_2=>exact hk.elim
 rename_i a rest
 obtain ⟨rest',bs,hk,o⟩:=Vq (Zaj hE n) hk
 obtain ⟨r,hk,hR,htri⟩:=hS.ok (a::rest') (frzH h bs) i _ (fun b hb=>hD b (Zcl hb)) hk
 rw [Xf] at hk
 have args2:∀(B:Nat) (σ:Pl) (g:GH) (w:World) (vals:List Value),Inv E B σ h g w->DenL E σ g (a::rest) vals->DenL E σ (frzG E h σ bs g w) (a::rest') vals:=by
  intro B σ g w vals hI hd
  have hle:=Ui (bs:=bs) hI
  refine ⟨by rw [<-hd.1];simp [o.len],fun j sv' u h1 h2=> ?_⟩
  cases j with
  |zero=>
   simp at h1;subst h1
   exact (hd.2 0 _ u rfl h2).mono (.refl _) hle
  |succ j=>
   have h1:rest'[j]? =some sv':=by simpa using h1
   have hjl:j<rest.length:=by rw [<-o.len];exact (List.getElem?_eq_some_iff.1 h1).1
   exact (o.den h σ g w B _ (fun _ _=>rfl) hI hle Zcy j _ sv' u (List.getElem?_eq_getElem hjl) h1 (hd.2 (j+1) _ u (by simpa using List.getElem?_eq_getElem hjl) h2)).mono (fun b p h=>by cases h) (.refl _)
 refine ⟨_,hk,fun b hb=> ?_,?_⟩
 · have hb:b∈bs++r.mods:=hb
   rcases List.mem_append.1 hb with h1|h1
   · obtain ⟨y,hy,_⟩:=o.blk b h1
     rw [hy];simp
   · exact Zcl (hR b h1)
 rcases htri with ht|⟨p,hp,ht⟩
 · refine .inl ?_
   intro B σ g w vals hh hrd hI hB hfree hd
   obtain rfl:hh=h:=funext fun b=>hrd b trivial
   refine (ht B σ _ w vals (frzH hh bs) (fun _ _=>rfl) (Zf9 hE o.blk hI) hB hfree (args2 B σ g w _ hI hd)).mono ?_
   rintro en w' ⟨u,he,σ',g',hst,hI',hv⟩
   refine ⟨u,he,σ',g',Zi9 hI hst,?_,hv⟩
   rw [Za0]
   exact hI'
 · refine .inr ⟨p,hp,fun B σ g w vals hI hB hfree hd=> ?_⟩
   refine (ht B σ _ w vals (Zf9 hE o.blk hI) hB hfree (args2 B σ g w _ hI hd)).mono ?_
   rintro en w' ⟨he,σ',g',hst,hI'⟩
   refine ⟨he,σ',g',Zi9 hI hst,?_⟩
   rw [Za0]
   exact hI'
noncomputable def Zlq (E:Eng Y) (gth:List (SV Y)->Option Y.Th) (n:Nat) (S:Sum Y):Sum Y:=fun args h i k=>
 frzL (frzK E gth h n) args fun rest' bs=>S rest' (frzH h bs) i fun r=>Vi (bs++r.mods) fun m=>k ⟨r.v,r.n,m,patch (frzH h bs) i r,none⟩
theorem Zfp (hE:EngOk E) {gth:List (SV Y)->Option Y.Th} {n:Nat} {f:Nat} {S:Sum Y} (hS:SumOk E f S):SumOk E f (Zlq E gth n S):=by
 refine ⟨hS.good,fun args h i k hD hk=> ?_⟩
 unfold Zlq at hk
 obtain ⟨rest',bs,hk,o⟩:=Vq (Zaj hE n) hk
 obtain ⟨r,hk,hR,htri⟩:=hS.ok rest' (frzH h bs) i _ (fun b hb=>hD b (Zcl hb)) hk
 rw [Xf] at hk
 have args2:∀(B:Nat) (σ:Pl) (g:GH) (w:World) (vals:List Value),Inv E B σ h g w->DenL E σ g args vals->DenL E σ (frzG E h σ bs g w) rest' vals:=by
  intro B σ g w vals hI hd
  have hle:=Ui (bs:=bs) hI
  refine ⟨by rw [<-hd.1];exact o.len,fun j sv' u h1 h2=> ?_⟩
  have hjl:j<args.length:=by rw [<-o.len];exact (List.getElem?_eq_some_iff.1 h1).1
  exact (o.den h σ g w B _ (fun _ _=>rfl) hI hle Zcy j _ sv' u (List.getElem?_eq_getElem hjl) h1 (hd.2 j _ u (List.getElem?_eq_getElem hjl) h2)).mono (fun b p h=>by cases h) (.refl _)
 refine ⟨_,hk,fun b hb=> ?_,?_⟩
 · have hb:b∈bs++r.mods:=hb
   rcases List.mem_append.1 hb with h1|h1
   · obtain ⟨y,hy,_⟩:=o.blk b h1
     rw [hy];simp
   · exact Zcl (hR b h1)
 rcases htri with ht|⟨p,hp,ht⟩
 · refine .inl ?_
   intro B σ g w vals hh hrd hI hB hfree hd
   obtain rfl:hh=h:=funext fun b=>hrd b trivial
   refine (ht B σ _ w vals (frzH hh bs) (fun _ _=>rfl) (Zf9 hE o.blk hI) hB hfree (args2 B σ g w _ hI hd)).mono ?_
   rintro en w' ⟨u,he,σ',g',hst,hI',hv⟩
   refine ⟨u,he,σ',g',Zi9 hI hst,?_,hv⟩
   rw [Za0]
   exact hI'
 · refine .inr ⟨p,hp,fun B σ g w vals hI hB hfree hd=> ?_⟩
   refine (ht B σ _ w vals (Zf9 hE o.blk hI) hB hfree (args2 B σ g w _ hI hd)).mono ?_
   rintro en w' ⟨he,σ',g',hst,hI'⟩
   refine ⟨he,σ',g',Zi9 hI hst,?_⟩
   rw [Za0]
   exact hI'
end
end
section
open Go
noncomputable def Zn6:Sum thy:=Ww (dA1 dS) (fun _=>True) (fun x=>Zm x.1) fun y=> .tup [.psl Th.toks y.1 false,.int false .i64 y.2.1,.int false .i64 y.2.2]
theorem Zhf:SumOk E 25 Zn6:=Zy E_ok (Zb (f:=25) rfl) fun x _=>Znl x.1
noncomputable def Z0i:Sum thy:=frzA E (fun _=>none) 2 (sumM (mI (dA1 dCls) (n1 fun _=>rfl) dCl (fun _=>rfl)) (fun x a=>x.1.length<1000000000/\a.1.length<=1000000000) fun x a=>Z5 a.1 x.1 x.2.1)
theorem Zuc:SumOk E 36 Z0i:=Zz8 E_ok (Xe E_ok (Zb rfl) fun x a h=>Ztj a.1 x.1 x.2.1 h.1 h.2)
structure QX where
 cs:List Cls
 fz:Nat
 l:List Tok
 ed:Int
 p:Int
 k:Nat
def Apa:Fr thy->Hp thy->Nat->Ann thy:=fun T h i=>{X:=Bool×QX,fr:=fun x=> [(0,T 0),(2,T 2),(3,T 3),(4,T 4),(6,T 6),(7,.int false .i64 x.2.p)],bl:=fun x=>(bOf (T 6),.raw [.psl Th.toks x.2.l false,.int false .i64 x.2.ed] 0 none)::(bOf (T 2),.raw ((cellsOf h (T 2)).take 2++ [match x.1 with|true=> .sl i 0 x.2.cs.length 9 none|false=> .val (.slice none 0 0)]) 0 none)::((match x.1 with|true=> [(i,.rows Th.clauses x.2.cs x.2.fz)]|false=> [])++(blkP h (T 3)++blkP h (T 4))),src:=fun x=>(match x.1 with|true=> [(i,3002)]|false=> []),md:= [bOf (T 6),bOf (T 2)],ih:=i+1,M:=i+60,meas:=fun x=>x.2.k,ex:=ex2,al:=al2,exOk:=Zg6,alOk:=Zg7}
noncomputable def Fpa:Fns thy:=addL (addS (addS (addS Fme 34 Z5w) 25 Zn6) 36 Z0i) 11 12 Apa E
theorem Yfh:FnsOk E Fpa:=Zn E_ok (Za (Za (Za Zgc Zry) Zhf) Zuc) _ _ _
abbrev qBT1 (a0:Tar):=([]=Tar.name a0/\(0:Int)=Tar.for_ a0/\Tar.clauses a0= []/\True)
abbrev qBT8:=(0:Nat)
abbrev qBT2 (a0:List Nat) (b0:Int) (c0:QX):=(a0=a0/\qBT8=qBT8/\qBT8=qBT8/\qBT8=qBT8/\qBT8=qBT8/\b0=QX.p c0/\True)
abbrev qBT3 (a0:PX) (b0:QX):=((Prod.fst a0=QX.l b0/\(false=true->false=true))/\Prod.fst (Prod.snd a0)=QX.ed b0/\True)
abbrev qBT4 (a0:List Tok×Int×Int):=(Prod.fst (Prod.snd a0)=Prod.fst (Prod.snd a0)/\True)
abbrev qBT5 (a0:List Tok×Int×Int):=(Prod.snd (Prod.snd a0)=Prod.snd (Prod.snd a0)/\True)
abbrev qBT6 (a0:Cls):=(Ex.mk (Ex.op (Cls.pay a0)) (Ex.n (Cls.pay a0)) (Ex.d0 (Cls.pay a0)) (Ex.d1 (Cls.pay a0)) (Ex.d2 (Cls.pay a0)) (Ex.d3 (Cls.pay a0)) (Ex.l (Cls.pay a0)))
abbrev qBTa (a0:QX):=(List.tail (QX.l a0))
abbrev qBT7 (a0:QX):=((↑(List.length (qBTa a0)):Int)>(0:Int))
abbrev qBT9 (a0:QX):=(List.length (QX.cs a0))
abbrev qBTb (a0:PX):=(Prod.fst (Prod.snd a0))
abbrev qBTc (a0:QX):=(List.take (qBT9 a0) (List.drop qBT8 (QX.cs a0)))
abbrev qBTd (a0:Int):=((1:Int)+a0)
theorem Zud (s:List Nat) (t:Tar) (a e:Int):Zh E Fpa (vc E Fpa 400) 11 [.str false s] hp0 0 (fun r=>ret E (patch hp0 0 r) r.v (.tup [.agg [.str false t.name,.int false .i64 t.for_,.psl Th.clauses t.clauses false],.int false .i64 a,.int false .i64 e]))=(
 True/\∀(y:List Tok×Int×Int),y=Zm s->((Prod.snd (Prod.snd y) !=(0:Int))=true->(qBT1 t)/\Prod.fst (Prod.snd y)=a/\Prod.snd (Prod.snd y)=e/\True)/\((Prod.snd (Prod.snd y) !=(0:Int))=false->(isW [(116:Nat),(97:Nat),(114:Nat),(105:Nat),(102:Nat),(102:Nat)] (Prod.fst y)=true->True/\(∀(y_1:List Nat) (x':PX),Vp (List.tail (Prod.fst y)) (↑(List.length s):Int)=Except.ok (y_1,x')->(isW [(102:Nat),(111:Nat),(114:Nat)] (Prod.fst x')=true->(WK.ki=WK.at_\/WK.ki=WK.ki\/WK.ki=WK.un)/\(∀(y_2:Int) (x'_1:PX),Yc (WK.words WK.ki) (List.tail (Prod.fst x')) (qBTb x')=Except.ok (y_2,x'_1)->(isW [(123:Nat)] (Prod.fst x'_1)=true->∀(y_3:Int),y_3=hdT (qBTb x'_1) (List.tail (Prod.fst x'_1))->∃(R:Bool×QX->Prop),((∃(y_4:QX),R (false,y_4)/\true=true/\(qBT2 s y_3 y_4)/\((List.tail (Prod.fst x'_1)=QX.l y_4/\(false=true->false=true))/\Prod.fst (Prod.snd x'_1)=QX.ed y_4/\True)/\(y_1=y_1/\wr IntKind.i64 (qBTd y_2)=wr IntKind.i64 (qBTd y_2)/\Value.slice none qBT8 qBT8=Value.slice none qBT8 qBT8/\True)/\(qBT4 y)/\(qBT5 y)/\True)\/∃(y:QX),R (true,y)/\true=true/\False)/\(∀(y_4:QX),R (false,y_4)->(isW [(99:Nat),(108:Nat),(97:Nat),(117:Nat),(115:Nat),(101:Nat)] (QX.l y_4)=true->(List.length (qBTa y_4)+(1:Nat)<=(1000000000:Nat)/\qBT8<=(1000000000:Nat))/\(∀(y_5:Cls) (x':PX),Z5 [] (qBTa y_4) (QX.ed y_4)=Except.ok (y_5,x')->∀(y_6:Int),y_6=hdT (qBTb x') (Prod.fst x')->(∃(y_7:QX),R (false,y_7)/\y_7.6+(1:Nat)<=y_4.6/\true=true/\(qBT2 s y_6 y_7)/\(qBT3 x' y_7)/\(y_1=y_1/\wr IntKind.i64 (qBTd y_2)=wr IntKind.i64 (qBTd y_2)/\False/\True)/\(qBT4 y)/\(qBT5 y)/\True)\/∃(y_7:QX),R (true,y_7)/\y_7.6+(1:Nat)<=y_4.6/\true=true/\(qBT2 s y_6 y_7)/\(qBT3 x' y_7)/\(y_1=y_1/\wr IntKind.i64 (qBTd y_2)=wr IntKind.i64 (qBTd y_2)/\(qBT8=qBT8/\(1:Nat)=List.length (QX.cs y_7)/\True)/\True)/\([Cls.mk (Cls.name y_5) (Cls.when_ y_5) (qBT6 y_5)]=QX.cs y_7/\qBT8=QX.fz y_7)/\(qBT4 y)/\(qBT5 y)/\True)/\∀(e_1:Int×Int),Z5 [] (qBTa y_4) (QX.ed y_4)=Except.error e_1->(qBT1 t)/\Prod.fst e_1=a/\Prod.snd e_1=e/\True)/\(isW [(99:Nat),(108:Nat),(97:Nat),(117:Nat),(115:Nat),(101:Nat)] (QX.l y_4)=false->(isW [(125:Nat)] (QX.l y_4)=true->(decide (qBT7 y_4)=true->∀(y:Int),y=hdT (QX.ed y_4) (qBTa y_4)->(qBT1 t)/\y=a/\(160:Int)=e/\True)/\(decide (qBT7 y_4)=false->(y_1=Tar.name t/\wr IntKind.i64 (qBTd y_2)=Tar.for_ t/\Tar.clauses t= []/\True)/\(0:Int)=a/\(0:Int)=e/\True))/\(isW [(125:Nat)] (QX.l y_4)=false->(qBT1 t)/\hdT (QX.ed y_4) (QX.l y_4)=a/\(160:Int)=e/\True)))/\∀(y_4:QX),R (true,y_4)->(isW [(99:Nat),(108:Nat),(97:Nat),(117:Nat),(115:Nat),(101:Nat)] (QX.l y_4)=true->(((↑(qBT9 y_4):Int)==(64:Int))=true->(qBT1 t)/\QX.p y_4=a/\(2:Int)=e/\True)/\(((↑(qBT9 y_4):Int)==(64:Int))=false->qBT8+List.length (QX.cs y_4)<=List.length (QX.cs y_4)/\(List.length (qBTa y_4)+(1:Nat)<=(1000000000:Nat)/\List.length (qBTc y_4)<=(1000000000:Nat))/\(∀(y_5:Cls) (x':PX),Z5 (qBTc y_4) (qBTa y_4) (QX.ed y_4)=Except.ok (y_5,x')->(List.length (QX.cs y_4)<=List.length (QX.cs y_4)/\mx2 (QX.fz y_4) (qBT9 y_4)<=List.length (QX.cs y_4)/\(List.length (QX.cs y_4)+(1:Nat))*(112:Nat)<=(140737488355328:Nat))/\∀(y_6:Int),y_6=hdT (qBTb x') (Prod.fst x')->(∃(y_7:QX),R (false,y_7)/\y_7.6+(1:Nat)<=y_4.6/\true=true/\(qBT2 s y_6 y_7)/\(qBT3 x' y_7)/\(y_1=y_1/\wr IntKind.i64 (qBTd y_2)=wr IntKind.i64 (qBTd y_2)/\False/\True)/\(qBT4 y)/\(qBT5 y)/\True)\/∃(y_7:QX),R (true,y_7)/\y_7.6+(1:Nat)<=y_4.6/\true=true/\(qBT2 s y_6 y_7)/\(qBT3 x' y_7)/\(y_1=y_1/\wr IntKind.i64 (qBTd y_2)=wr IntKind.i64 (qBTd y_2)/\
(qBT8=qBT8/\List.length (QX.cs y_4)+(1:Nat)=List.length (QX.cs y_7)/\True)/\True)/\(List.take (qBT9 y_4) (QX.cs y_4)++ [Cls.mk (Cls.name y_5) (Cls.when_ y_5) (qBT6 y_5)]=QX.cs y_7/\mx2 (QX.fz y_4) (qBT9 y_4)=QX.fz y_7)/\(qBT4 y)/\(qBT5 y)/\True)/\∀(e_1:Int×Int),Z5 (qBTc y_4) (qBTa y_4) (QX.ed y_4)=Except.error e_1->(qBT1 t)/\Prod.fst e_1=a/\Prod.snd e_1=e/\True))/\(isW [(99:Nat),(108:Nat),(97:Nat),(117:Nat),(115:Nat),(101:Nat)] (QX.l y_4)=false->(isW [(125:Nat)] (QX.l y_4)=true->(decide (qBT7 y_4)=true->∀(y:Int),y=hdT (QX.ed y_4) (qBTa y_4)->(qBT1 t)/\y=a/\(160:Int)=e/\True)/\(decide (qBT7 y_4)=false->(y_1=Tar.name t/\wr IntKind.i64 (qBTd y_2)=Tar.for_ t/\(qBT8+List.length (QX.cs y_4)<=List.length (QX.cs y_4)/\List.take (qBT9 y_4) (QX.cs y_4)=Tar.clauses t)/\True)/\(0:Int)=a/\(0:Int)=e/\True))/\(isW [(125:Nat)] (QX.l y_4)=false->(qBT1 t)/\hdT (QX.ed y_4) (QX.l y_4)=a/\(160:Int)=e/\True)))/\(isW [(123:Nat)] (Prod.fst x'_1)=false->(qBT1 t)/\hdT (qBTb x'_1) (Prod.fst x'_1)=a/\(160:Int)=e/\True))/\∀(e_1:Int×Int),Yc (WK.words WK.ki) (List.tail (Prod.fst x')) (qBTb x')=Except.error e_1->(qBT1 t)/\Prod.fst e_1=a/\Prod.snd e_1=e/\True)/\(isW [(102:Nat),(111:Nat),(114:Nat)] (Prod.fst x')=false->(qBT1 t)/\hdT (qBTb x') (Prod.fst x')=a/\(160:Int)=e/\True))/\∀(e_1:Int×Int),Vp (List.tail (Prod.fst y)) (↑(List.length s):Int)=Except.error e_1->(qBT1 t)/\Prod.fst e_1=a/\Prod.snd e_1=e/\True)/\(isW [(116:Nat),(97:Nat),(114:Nat),(105:Nat),(102:Nat),(102:Nat)] (Prod.fst y)=false->(qBT1 t)/\hdT (↑(List.length s):Int) (Prod.fst y)=a/\(160:Int)=e/\True))):=by kernel_rfl
theorem Zn7:∀{k:Nat} {more:Bool} {ts:List Tst} {l:List Tok} {e:Int} {ts':List Tst} {x:PX},pTs k more ts l e= .ok (ts',x)->x.1.length<=l.length
 |0,more,ts,l,e,ts',x,h=>by
  unfold pTs at h
  injection h with h
  injection h with _ h
  subst h
  exact Nat.le_refl _
 |k+1,more,ts,l,e,ts',x,h=>by
  unfold pTs at h
  split at h
  · split at h
    · cases h
    · rename_i t z ht
      have h1:=(Zce ht).1
      have h2:=Zn7 h
      split at h2
      · rw [List.length_tail] at h2
        omega
      · omega
  · injection h with h
    injection h with _ h
    subst h
    exact Nat.le_refl _
theorem Yfi {l:List Tok} {e:Int} {y:Ex} {x:PX} (h:pX l e= .ok (y,x)):x.1.length<=l.length:=by
 have:=Zp0 l e y x h
 omega
theorem Z40 {nm:List Nat} {ts:List Tst} {l:List Tok} {e:Int} {c:Cls} {x:PX} (h:pPay nm ts l e= .ok (c,x)):x.1.length<=l.length:=by
 unfold pPay at h
 split at h
 · split at h
   · cases h
   · rename_i y z hy
     have h1:=Yfi hy
     rw [List.length_tail] at h1
     split at h
     · cases h
     · split at h
       · injection h with h
         injection h with _ h
         subst h
         show z.1.tail.length<=l.length
         rw [List.length_tail]
         omega
       · cases h
 · cases h
theorem Va {bs:List Cls} {l:List Tok} {e:Int} {c:Cls} {x:PX} (h:Z5 bs l e= .ok (c,x)):x.1.length<=l.length:=by
 unfold Z5 at h
 split at h
 · cases h
 · rename_i nm z hz
   have h1:=V1 hz
   split at h
   · cases h
   · unfold pAft at h
     split at h
     · cases h
     · rename_i ts y hy
       have h2:=Zn7 hy
       have h3:=Z40 h
       split at h2
       · rw [List.length_tail] at h2
         omega
       · omega
def Y1:List Nat:= [99,108,97,117,115,101]
def pCls:Nat->List Cls->List Tok->Int->PR (List Cls)
 |0,cs,l,e=> .ok (cs,l,e,())
 |k+1,cs,l,e=>if isW [99,108,97,117,115,101] l then (if cs.length=64 then .error (hdT e l,2) else match Z5 cs l.tail e with
  | .error er=> .error er
  | .ok (c,x)=>pCls k (cs++ [c]) x.1 x.2.1) else .ok (cs,l,e,())
def pEnd (nm:List Nat) (fo:Int):PR (List Cls)->PR Tar
 | .error er=> .error er
 | .ok (cs,x)=>if isW [125] x.1 then (if 0<x.1.tail.length then .error (hdT x.2.1 x.1.tail,160) else .ok (⟨nm,fo,cs⟩,x.1.tail,x.2.1,())) else .error (hdT x.2.1 x.1,160)
def pTar (l:List Tok) (e:Int):PR Tar:=
 if isW [116,97,114,105,102,102] l then
  match Vp l.tail e with
  | .error er=> .error er
  | .ok (nm,x)=>
   if isW [102,111,114] x.1 then
    match Yc WK.ki.words x.1.tail x.2.1 with
    | .error er=> .error er
    | .ok (k,z)=>if isW [123] z.1 then pEnd nm (wr .i64 (1+k)) (pCls (z.1.tail.length+1) [] z.1.tail z.2.1) else .error (hdT z.2.1 z.1,160)
   else .error (hdT x.2.1 x.1,160)
 else .error (hdT e l,160)
def zT:Tar:=⟨[],0,[]⟩
def outT:PR Tar->Tar×Int×Int
 | .ok y=>(y.1,0,0)
 | .error er=>(zT,er.1,er.2)
def Xc (s:List Nat):Tar×Int×Int:=if (Zm s).2.2≠0 then (zT,(Zm s).2.1,(Zm s).2.2) else outT (pTar (Zm s).1 s.length)
theorem Zeg:∀{k:Nat} {s:List Nat} {p:Nat} {ts:List Tok},ts.length<=p->p<=s.length->(tksL k s p ts).1.length<=s.length
 |0,s,p,ts,h1,h2=>by unfold tksL;exact Nat.le_trans h1 h2
 |k+1,s,p,ts,h1,h2=>by
  unfold tksL
  split
  · exact Nat.le_trans h1 h2
  · rename_i c hc
    have hlt:=(List.getElem?_eq_some_iff.1 hc).1
    split
    · exact Zeg (by omega) hlt
    · split
      · split
        · exact Nat.le_trans h1 h2
        · have:=(Znk 10 (s.drop p) 0).1
          rw [List.length_drop] at this
          exact Zeg (by omega) (by omega)
      · split
        · exact Nat.zero_le _
        · rename_i h3
          have h3:(tokP (s.drop p)).2=0:=by simpa using h3
          obtain ⟨n1,n2,_⟩:=Ziw h3
          rw [List.length_drop] at n2
          exact Zeg (by rw [List.length_append];simp;omega) (by omega)
theorem Uf (s:List Nat):(Zm s).1.length<=2000:=by
 unfold Zm
 split
 · exact Nat.zero_le _
 · have:=Zeg (k:=s.length) (s:=s) (p:=0) (ts:= []) (Nat.le_refl _) (Nat.zero_le _)
   omega
theorem Z0j (c:Cls):Cls.mk (Cls.name c) (Cls.when_ c) (Ex.mk (Ex.op (Cls.pay c)) (Ex.n (Cls.pay c)) (Ex.d0 (Cls.pay c)) (Ex.d1 (Cls.pay c)) (Ex.d2 (Cls.pay c)) (Ex.d3 (Cls.pay c)) (Ex.l (Cls.pay c)))=c:=by
 obtain ⟨a,b,p⟩:=c
 cases p
 rfl
theorem Zhg (s:List Nat):PureC E 11 [.str false s] (.tup [.agg [.str false (Xc s).1.name,.int false .i64 (Xc s).1.for_,.psl Th.clauses (Xc s).1.clauses false],.int false .i64 (Xc s).2.1,.int false .i64 (Xc s).2.2]):=by
 refine Zc E_ok (Ze E_ok Yfh 400) ?_
 rw [Zud];delta qBT1 qBT8 qBT2 qBT3 qBT4 qBT5 qBT6 qBTa qBT7 qBT9 qBTb qBTc qBTd
 refine ⟨trivial,fun y hy=> ?_⟩
 have hlen:y.1.length<=2000:=hy▸Uf s
 have hp:Xc s=if y.2.2≠0 then (zT,y.2.1,y.2.2) else outT (pTar y.1 s.length):=by subst hy;rfl
 generalize Xc s=res at hp
 refine ⟨fun h=> ?_,fun h=> ?_⟩
 · have h:y.2.2≠0:=by simpa using h
   rw [if_pos h] at hp
   subst hp
   exact ⟨⟨rfl,rfl,rfl,trivial⟩,rfl,rfl,trivial⟩
 have h:y.2.2=0:=by simpa using h
 rw [if_neg (by rw [h];decide)] at hp
 unfold pTar at hp
 refine ⟨fun h1=>⟨trivial,fun nm x hx=>⟨fun h2=>⟨.inr (.inl rfl),fun fo z hz=>⟨fun h3=> ?_,fun h3=> ?_⟩,fun er he=> ?_⟩,fun h2=> ?_⟩,fun er he=> ?_⟩,fun h1=> ?_⟩
 rotate_left
 · rw [if_pos h1,hx] at hp
   simp only [if_pos h2,hz,h3] at hp
   subst hp
   exact ⟨⟨rfl,rfl,rfl,trivial⟩,rfl,rfl,trivial⟩
 · rw [if_pos h1,hx] at hp
   simp only [if_pos h2,he] at hp
   subst hp
   exact ⟨⟨rfl,rfl,rfl,trivial⟩,rfl,rfl,trivial⟩
 · rw [if_pos h1,hx] at hp
   simp only [h2] at hp
   subst hp
   exact ⟨⟨rfl,rfl,rfl,trivial⟩,rfl,rfl,trivial⟩
 · rw [if_pos h1,he] at hp
   subst hp
   exact ⟨⟨rfl,rfl,rfl,trivial⟩,rfl,rfl,trivial⟩
 · rw [h1] at hp
   subst hp
   exact ⟨⟨rfl,rfl,rfl,trivial⟩,rfl,rfl,trivial⟩
 rw [if_pos h1,hx] at hp
 simp only [if_pos h2,hz,if_pos h3] at hp
 have l1:=Zi h1
 have l2:=V1 hx
 have l3:=Zi h2
 have l4:z.1.length<=x.1.tail.length:=by
  unfold Yc at hz
  split at hz
  · injection hz with hz
    injection hz with _ hz
    subst hz
    show x.1.tail.tail.length<=_
    rw [List.length_tail (l:=x.1.tail)]
    omega
  · cases hz
 have l5:=Zi h3
 intro q hq
 subst hq
 refine ⟨fun v=>(v.1=false->v.2.cs= [])/\outT (pEnd nm (wr .i64 (1+fo)) (pCls v.2.k v.2.cs v.2.l v.2.ed))=res/\v.2.p=hdT v.2.ed v.2.l/\v.2.l.length<v.2.k/\v.2.l.length<=2000/\v.2.fz<=v.2.cs.length/\v.2.cs.length<=64,
  .inl ⟨⟨[],0,z.1.tail,z.2.1,hdT z.2.1 z.1.tail,z.1.tail.length+1⟩,⟨fun _=>rfl,hp.symm,rfl,Nat.lt_succ_self _,?_,Nat.le_refl _,Nat.zero_le _⟩,rfl,⟨rfl,rfl,rfl,rfl,rfl,rfl,trivial⟩,⟨⟨rfl,fun h=>h⟩,rfl,trivial⟩,⟨rfl,rfl,rfl,trivial⟩,⟨rfl,trivial⟩,⟨rfl,trivial⟩,trivial⟩,?_,?_⟩
 · show z.1.tail.length<=2000
   omega
 all_goals
  rintro v ⟨v0,v1,v2,v3,v4,v5,v6⟩
  replace v1:outT (pEnd nm (wr .i64 (1+fo)) (pCls v.k v.cs v.l v.ed))=res:=v1
  replace v2:v.p=hdT v.ed v.l:=v2
  replace v3:v.l.length<v.k:=v3
  replace v4:v.l.length<=2000:=v4
  replace v5:v.fz<=v.cs.length:=v5
  replace v6:v.cs.length<=64:=v6
  obtain ⟨k,hk⟩:∃k,v.k=k+1:=⟨v.k-1,by omega⟩
  rw [hk] at v1
  unfold pCls at v1
  refine ⟨fun w1=> ?_,fun w1=>⟨fun w2=>⟨fun w3=> ?_,fun w3=> ?_⟩,fun w2=> ?_⟩⟩
 · have v0:v.cs= []:=v0 rfl
   rw [if_pos w1,v0,if_neg (by simp)] at v1
   have l6:=Zi w1
   refine ⟨⟨by omega,by omega⟩,fun c x' hc a ha=> ?_,fun er he=> ?_⟩
   · subst ha
     rw [hc] at v1
     have l7:=Va hc
     refine .inr ⟨⟨[c],0,x'.1,x'.2.1,hdT x'.2.1 x'.1,k⟩,⟨fun h=>(by cases h),v1,rfl,(by show x'.1.length<k;omega),(by show x'.1.length<=2000;omega),Nat.zero_le _,(by show 1<=64;decide)⟩,(by show k+1<=v.k;omega),rfl,⟨rfl,rfl,rfl,rfl,rfl,rfl,trivial⟩,⟨⟨rfl,fun h=>h⟩,rfl,trivial⟩,⟨rfl,rfl,⟨rfl,rfl,trivial⟩,trivial⟩,⟨?_,rfl⟩,⟨rfl,trivial⟩,⟨rfl,trivial⟩,trivial⟩
     rw [Z0j]
   · rw [he] at v1
     subst v1
     exact ⟨⟨rfl,rfl,rfl,trivial⟩,rfl,rfl,trivial⟩
 · rw [if_neg (by rw [w1];decide)] at v1
   simp only [pEnd,if_pos w2] at v1
   have w3:0<v.l.tail.length:=by
    have:(0:Int)<v.l.tail.length:=by simpa only [decide_eq_true_eq] using w3
    omega
   rw [if_pos w3] at v1
   intro a ha
   subst ha
   subst v1
   exact ⟨⟨rfl,rfl,rfl,trivial⟩,rfl,rfl,trivial⟩
 · have v0:v.cs= []:=v0 rfl
   rw [if_neg (by rw [w1];decide)] at v1
   simp only [pEnd,if_pos w2] at v1
   have w3:¬0<v.l.tail.length:=by
    have:¬(0:Int)<v.l.tail.length:=by simpa only [decide_eq_false_iff_not] using w3
    omega
   rw [if_neg w3,v0] at v1
   subst v1
   exact ⟨⟨rfl,rfl,rfl,trivial⟩,rfl,rfl,trivial⟩
 · rw [if_neg (by rw [w1];decide)] at v1
   simp only [pEnd,w2] at v1
   subst v1
   exact ⟨⟨rfl,rfl,rfl,trivial⟩,rfl,rfl,trivial⟩
 · have l6:=Zi w1
   rw [if_pos w1] at v1
   rw [List.drop_zero,List.take_length]
   refine ⟨fun w4=> ?_,fun w4=>⟨by omega,⟨by omega,by omega⟩,fun c x' hc=>⟨⟨Nat.le_refl _,by rw [Zdy];omega,by omega⟩,fun a ha=> ?_⟩,fun er he=> ?_⟩⟩
   · have w4:v.cs.length=64:=by
      have w5:(v.cs.length:Int)=64:=eq_of_beq w4
      omega
     rw [if_pos w4] at v1
     subst v1
     exact ⟨⟨rfl,rfl,rfl,trivial⟩,v2,rfl,trivial⟩
   · subst ha
     have w4:v.cs.length≠64:=fun e=>by rw [e] at w4;simp at w4
     rw [if_neg w4,hc] at v1
     have l7:=Va hc
     refine .inr ⟨⟨v.cs++ [c],mx2 v.fz v.cs.length,x'.1,x'.2.1,hdT x'.2.1 x'.1,k⟩,⟨fun h=>(by cases h),v1,rfl,(by show x'.1.length<k;omega),(by show x'.1.length<=2000;omega),?_,?_⟩,(by show k+1<=v.k;omega),rfl,⟨rfl,rfl,rfl,rfl,rfl,rfl,trivial⟩,⟨⟨rfl,fun h=>h⟩,rfl,trivial⟩,⟨rfl,rfl,⟨rfl,?_,trivial⟩,trivial⟩,⟨?_,rfl⟩,⟨rfl,trivial⟩,⟨rfl,trivial⟩,trivial⟩
     · show mx2 v.fz v.cs.length<=(v.cs++ [c]).length
       rw [Zdy,List.length_append]
       omega
     · show (v.cs++ [c]).length<=64
       rw [List.length_append]
       simp
       omega
     · show v.cs.length+1=(v.cs++ [c]).length
       rw [List.length_append]
       rfl
     · rw [Z0j]
   · have w4:v.cs.length≠64:=fun e=>by rw [e] at w4;simp at w4
     rw [if_neg w4,he] at v1
     subst v1
     exact ⟨⟨rfl,rfl,rfl,trivial⟩,rfl,rfl,trivial⟩
 · rw [if_neg (by rw [w1];decide)] at v1
   simp only [pEnd,if_pos w2] at v1
   have w3:0<v.l.tail.length:=by
    have:(0:Int)<v.l.tail.length:=by simpa only [decide_eq_true_eq] using w3
    omega
   rw [if_pos w3] at v1
   intro a ha
   subst ha
   subst v1
   exact ⟨⟨rfl,rfl,rfl,trivial⟩,rfl,rfl,trivial⟩
 · rw [if_neg (by rw [w1];decide)] at v1
   simp only [pEnd,if_pos w2] at v1
   have w3:¬0<v.l.tail.length:=by
    have:¬(0:Int)<v.l.tail.length:=by simpa only [decide_eq_false_iff_not] using w3
    omega
   rw [if_neg w3] at v1
   subst v1
   exact ⟨⟨rfl,rfl,⟨by omega,List.take_length⟩,trivial⟩,rfl,rfl,trivial⟩
 · rw [if_neg (by rw [w1];decide)] at v1
   simp only [pEnd,w2] at v1
   subst v1
   exact ⟨⟨rfl,rfl,rfl,trivial⟩,rfl,rfl,trivial⟩
end
section
open Go
theorem Zvc (n:Int) (v:Bool):Zh E F0 (vc E F0 400) 108 [.int false .u8 n] hp0 0 (fun r=>ret E (patch hp0 0 r) r.v (.bool false v))=(
(decide (n>=(97:Int))=true->(decide (n<=(122:Int))=true->true=v)/\(decide (n<=(122:Int))=false->false=v))/\(decide (n>=(97:Int))=false->false=v)):=by kernel_rfl
theorem Zvd (n:Int):PureC E 108 [.int false .u8 n] (.bool false (isL n)):=by
 refine Zc E_ok (Ze E_ok F0_ok 400) ?_
 rw [Zvc]
 unfold isL
 refine ⟨fun h=>⟨fun h2=> ?_,fun h2=> ?_⟩,fun h=> ?_⟩
 · have h:(97:Int)<=n:=of_decide_eq_true h
   rw [decide_eq_true h,h2];rfl
 · have h:(97:Int)<=n:=of_decide_eq_true h
   rw [decide_eq_true h,h2];rfl
 · have h:¬(97:Int)<=n:=of_decide_eq_false h
   rw [decide_eq_false h];rfl
theorem Zve (n:Int) (v:Bool):Zh E F0 (vc E F0 400) 109 [.int false .u8 n] hp0 0 (fun r=>ret E (patch hp0 0 r) r.v (.bool false v))=(
(decide (n>=(48:Int))=true->(decide (n<=(57:Int))=true->true=v)/\(decide (n<=(57:Int))=false->false=v))/\(decide (n>=(48:Int))=false->false=v)):=by kernel_rfl
theorem Zvf (n:Int):PureC E 109 [.int false .u8 n] (.bool false (isD n)):=by
 refine Zc E_ok (Ze E_ok F0_ok 400) ?_
 rw [Zve]
 unfold isD
 refine ⟨fun h=>⟨fun h2=> ?_,fun h2=> ?_⟩,fun h=> ?_⟩
 · have h:(48:Int)<=n:=of_decide_eq_true h
   rw [decide_eq_true h,h2];rfl
 · have h:(48:Int)<=n:=of_decide_eq_true h
   rw [decide_eq_true h,h2];rfl
 · have h:¬(48:Int)<=n:=of_decide_eq_false h
   rw [decide_eq_false h];rfl
theorem Zvg (n:Int) (v:Bool):Zh E F0 (vc E F0 400) 66 [.int false .u8 n] hp0 0 (fun r=>ret E (patch hp0 0 r) r.v (.bool false v))=(
((n==(32:Int))=true->true=v)/\((n==(32:Int))=false->((n==(9:Int))=true->true=v)/\((n==(9:Int))=false->((n==(13:Int))=true->true=v)/\((n==(13:Int))=false->((n==(10:Int))=true->true=v)/\((n==(10:Int))=false->false=v))))):=by kernel_rfl
def blkI (n:Int):Bool:=(n==32)||(n==9)||(n==13)||(n==10)
theorem Zvh (n:Int):PureC E 66 [.int false .u8 n] (.bool false (blkI n)):=by
 refine Zc E_ok (Ze E_ok F0_ok 400) ?_
 rw [Zvg]
 unfold blkI
 refine ⟨fun h=> ?_,fun h=>⟨fun h2=> ?_,fun h2=>⟨fun h3=> ?_,fun h3=>⟨fun h4=> ?_,fun h4=> ?_⟩⟩⟩⟩
 · rw [h];rfl
 · rw [h,h2];rfl
 · rw [h,h2,h3];rfl
 · rw [h,h2,h3,h4];rfl
 · rw [h,h2,h3,h4];rfl
def sgnR:List Nat->Int
 | []=>0
 |c::r=>if c=123\/c=125\/c=40\/c=41\/c=59\/c=44\/c=43\/c=45\/c=42\/c=60 then 1 else if c=46/\r.head? =some 46 then 2 else 0
abbrev qCY1:=(1:Int)
theorem Zvi (s:List Nat) (a:Int) (v:Int):Zh E F0 (vc E F0 400) 110 [.str false s,.int false .i64 a] hp0 0 (fun r=>ret E (patch hp0 0 r) r.v (.int false .i64 v))=(
 (0:Int)<=a/\a+qCY1<=(↑(List.length s):Int)/\∀(x:Nat),s[Int.toNat a]? =some x->(((↑x:Int)==(123:Int))=true->qCY1=v)/\(((↑x:Int)==(123:Int))=false->(((↑x:Int)==(125:Int))=true->qCY1=v)/\(((↑x:Int)==(125:Int))=false->(((↑x:Int)==(40:Int))=true->qCY1=v)/\(((↑x:Int)==(40:Int))=false->(((↑x:Int)==(41:Int))=true->qCY1=v)/\(((↑x:Int)==(41:Int))=false->(((↑x:Int)==(59:Int))=true->qCY1=v)/\(((↑x:Int)==(59:Int))=false->(((↑x:Int)==(44:Int))=true->qCY1=v)/\(((↑x:Int)==(44:Int))=false->(((↑x:Int)==(43:Int))=true->qCY1=v)/\(((↑x:Int)==(43:Int))=false->(((↑x:Int)==(45:Int))=true->qCY1=v)/\(((↑x:Int)==(45:Int))=false->(((↑x:Int)==(42:Int))=true->qCY1=v)/\(((↑x:Int)==(42:Int))=false->(((↑x:Int)==(60:Int))=true->qCY1=v)/\(((↑x:Int)==(60:Int))=false->(((↑x:Int)==(46:Int))=true->∃(Q:Bool->Prop),((decide (wr IntKind.i64 (a+qCY1)<(↑(List.length s):Int))=true->(0:Int)<=wr IntKind.i64 (a+qCY1)/\wr IntKind.i64 (a+qCY1)+qCY1<=(↑(List.length s):Int)/\∀(x:Nat),s[Int.toNat (wr IntKind.i64 (a+qCY1))]? =some x->(((↑x:Int)==(46:Int))=true->Q true)/\(((↑x:Int)==(46:Int))=false->Q false))/\(decide (wr IntKind.i64 (a+qCY1)<(↑(List.length s):Int))=false->Q false))/\(Q true->(2:Int)=v)/\(Q false->(0:Int)=v))/\(((↑x:Int)==(46:Int))=false->(0:Int)=v)))))))))))):=by kernel_rfl
theorem Zek (c:Nat) (r:List Nat):sgnR (c::r)=if c=123\/c=125\/c=40\/c=41\/c=59\/c=44\/c=43\/c=45\/c=42\/c=60 then 1 else if c=46/\r.head? =some 46 then 2 else 0:=rfl
theorem Vr {s:List Nat} {k c:Nat} (h:s[k]? =some c):s.drop k=c::s.drop (k+1):=by
 have hlt:=(List.getElem?_eq_some_iff.1 h).1
 have hc:s[k]=c:=(List.getElem?_eq_some_iff.1 h).2
 rw [List.drop_eq_getElem_cons hlt,hc]
theorem Zvj (s:List Nat) (n:Nat) (h1:n<s.length) (hs:s.length<=2000):PureC E 110 [.str false s,.int false .i64 (n:Int)] (.int false .i64 (sgnR (s.drop n))):=by
 refine Zc E_ok (Ze E_ok F0_ok 400) ?_
 rw [Zvi];delta qCY1
 refine ⟨by omega,by omega,fun c hc=> ?_⟩
 have hc:s[n]? =some c:=hc
 rw [Vr hc,Zek]
 have bl:∀k:Nat,((c:Int)==(k:Int))=true->c=k:=fun k h=>by
  have:(c:Int)=k:=by simpa using h
  omega
 have nb:∀k:Nat,((c:Int)==(k:Int))=false->c≠k:=fun k h e=>by subst e;simp at h
 have on:∀k:Nat,(k=123\/k=125\/k=40\/k=41\/k=59\/k=44\/k=43\/k=45\/k=42\/k=60)->((c:Int)==(k:Int))=true->(1:Int)=if c=123\/c=125\/c=40\/c=41\/c=59\/c=44\/c=43\/c=45\/c=42\/c=60 then 1 else if c=46/\(s.drop (n+1)).head? =some 46 then 2 else 0:=fun k hk h=>by
  rw [bl k h,if_pos hk]
 refine ⟨fun h=>on 123 (by decide) h,fun g1=>⟨fun h=>on 125 (by decide) h,fun g2=>⟨fun h=>on 40 (by decide) h,fun g3=>⟨fun h=>on 41 (by decide) h,fun g4=>⟨fun h=>on 59 (by decide) h,fun g5=>⟨fun h=>on 44 (by decide) h,fun g6=>⟨fun h=>on 43 (by decide) h,fun g7=>⟨fun h=>on 45 (by decide) h,fun g8=>⟨fun h=>on 42 (by decide) h,fun g9=>⟨fun h=>on 60 (by decide) h,fun g10=> ?_⟩⟩⟩⟩⟩⟩⟩⟩⟩⟩
 have hno:¬(c=123\/c=125\/c=40\/c=41\/c=59\/c=44\/c=43\/c=45\/c=42\/c=60):=by
  rintro (h|h|h|h|h|h|h|h|h|h)
  · exact nb 123 g1 h
  · exact nb 125 g2 h
  · exact nb 40 g3 h
  · exact nb 41 g4 h
  · exact nb 59 g5 h
  · exact nb 44 g6 h
  · exact nb 43 g7 h
  · exact nb 45 g8 h
  · exact nb 42 g9 h
  · exact nb 60 g10 h
 rw [if_neg hno]
 refine ⟨fun h=> ?_,fun h=> ?_⟩
 · have h46:=bl 46 h
   have w:wr .i64 ((n:Int)+1)=n+1:=wr64 (by omega) (by omega)
   have e:Int.toNat ((n:Int)+1)=n+1:=by omega
   rw [w,e]
   refine ⟨fun b=>b=decide (c=46/\(s.drop (n+1)).head? =some 46),⟨fun h2=>⟨by omega,by have:=of_decide_eq_true h2;omega,fun x hx=> ?_⟩,fun h2=> ?_⟩,fun h2=> ?_,fun h2=> ?_⟩
   · have hx:s[n+1]? =some x:=hx
     rw [List.head?_drop,hx]
     refine ⟨fun h3=> ?_,fun h3=> ?_⟩
     · have:x=46:=by
        have:(x:Int)=46:=by simpa using h3
        omega
       simp [this,h46]
     · have:x≠46:=fun e=>by subst e;simp at h3
       simp [this]
   · have:¬(n:Int)+1<s.length:=of_decide_eq_false h2
     rw [List.head?_drop,List.getElem?_eq_none (by omega)]
     simp
   · rw [if_pos (of_decide_eq_true h2.symm)]
   · rw [if_neg (of_decide_eq_false h2.symm)]
 · rw [if_neg (fun e=>nb 46 h e.1)]
def numC:Int->List Nat->Int
 |n,[]=>n
 |n,c::r=>numC (if n<=1099511627776 then 10*n+((c:Int)-48) else n) r
def Yi (at_:Int) (r:List Nat):Tok×Int:=
 match r with
 | []=>(⟨1,[],0,at_⟩,150)
 |c::_=>if isL c then (⟨1,r.take (spn isLD r),0,at_⟩,if 32<spn isLD r then 2 else 0)
  else if isD c then (⟨2,r.take (spn isD r),numC 0 (r.take (spn isD r)),at_⟩,if 1<spn isD r/\c=48 then 150 else if 1099511627776<numC 0 (r.take (spn isD r)) then 2 else 0)
  else if sgnR r=0 then (⟨1,[],0,at_⟩,150) else (⟨3,r.take (sgnR r).toNat,0,at_⟩,0)
noncomputable def Ych:Sum thy:=sumP (dA1 dU8) (fun _=>True) fun x=> .bool false (isL x.1)
noncomputable def Yci:Sum thy:=sumP (dA1 dU8) (fun _=>True) fun x=> .bool false (isD x.1)
noncomputable def Ycj:Sum thy:=sumP (dA1 dU8) (fun _=>True) fun x=> .bool false (blkI x.1)
theorem Z1z:SumOk E 108 Ych:=Zv E_ok (Zb (f:=108) rfl) fun x _=>Zvd x.1
theorem Z10:SumOk E 109 Yci:=Zv E_ok (Zb (f:=109) rfl) fun x _=>Zvf x.1
theorem Z11:SumOk E 66 Ycj:=Zv E_ok (Zb (f:=66) rfl) fun x _=>Zvh x.1
noncomputable def dSI:DcL E (List Nat×Int×Unit):= .cons dS (.cons dN .nil)
noncomputable def Yck:Sum thy:=Ww dSI (fun x=>(0<=x.2.1/\x.2.1<x.1.length)/\x.1.length<=2000) (fun x=>sgnR (x.1.drop x.2.1.toNat)) fun y=> .int false .i64 y
def Yf8 {Y:Thy} (h:Hp Y) (v:SV Y) (off:Nat) (c:SV Y):List (Nat×Blk Y):=match v with| .ptr b _=>(match h b with|some (.raw cs fz _)=> [(b,.raw (Wo cs off [c]) fz none)]|_=> [])|_=> []
theorem Z12:SumOk E 110 Yck:=Zy E_ok (Zb (f:=110) rfl) fun x h=>by
 obtain ⟨s,a,_⟩:=x
 obtain ⟨⟨h0,h1⟩,h2⟩:=h
 obtain ⟨n,rfl⟩:=Int.eq_ofNat_of_zero_le h0
 exact Zvj s n (by have:(n:Int)<s.length:=h1;omega) h2
structure NxX where
 k:Nat
 r:Nat
 n:Int
noncomputable def Anx1:Fr thy->Hp thy->Nat->Ann thy:=fun T h i=>{X:=NxX,fr:=fun x=> [(0,T 0),(1,T 1),(4,T 4),(6,.int false .i64 x.k),(7,T 7)],bl:=fun x=>blkP h (T 4)++blkP h (T 7),src:=fun _=> [],md:= [],ih:=i,M:=i+30,meas:=fun x=>x.r}
noncomputable def Anx2:Fr thy->Hp thy->Nat->Ann thy:=fun T h i=>{X:=NxX,fr:=fun x=> [(0,T 0),(1,T 1),(4,T 4),(6,.int false .i64 x.k),(7,T 7)],bl:=fun x=>blkP h (T 4)++Yf8 h (T 7) 2 (.int false .i64 x.n),src:=fun _=> [],md:= [bOf (T 7)],ih:=i,M:=i+30,meas:=fun x=>x.r}
noncomputable def Z8d:Fns thy:=addL (addL (addS (addS (addS F0 108 Ych) 109 Yci) 110 Yck) 67 4 Anx1 E) 67 16 Anx2 E
theorem Z13:FnsOk E Z8d:=Zn E_ok (Zn E_ok (Za (Za (Za F0_ok Z1z) Z10) Z12) _ _ _) _ _ _
abbrev qCY4 (a0:NxX):=(↑(NxX.k a0):Int)
abbrev qCYf:=(2:Int)
abbrev qCY2 (a0:Tok) (b0:Int) (c0:NxX) (d0:List Nat):=(qCYf=Tok.kind a0/\List.drop (Int.toNat b0) (List.take (Int.toNat (qCY4 c0)) d0)=Tok.text a0/\NxX.n c0=Tok.n a0/\b0=Tok.at_ a0/\True)
abbrev qCYh:=([]:List Nat)
abbrev qCY9:=(0:Int)
abbrev qCY3:=(qCY9=qCY9/\qCYh= []/\qCY9=qCY9/\qCY9=qCY9/\True)
abbrev qCYc:=(1:Int)
abbrev qCY5 (a0:Tok) (b0:Int) (c0:NxX) (d0:List Nat):=(qCYc=Tok.kind a0/\List.drop (Int.toNat b0) (List.take (Int.toNat (qCY4 c0)) d0)=Tok.text a0/\qCY9=Tok.n a0/\b0=Tok.at_ a0/\True)
abbrev qCY6 (a0:List Nat):=(↑(List.length a0):Int)
abbrev qCYe:=(0:Nat)
abbrev qCY7 (a0:List Nat) (b0:Int) (c0:NxX) (d0:NxX):=(a0=a0/\b0=b0/\qCYe=qCYe/\wr IntKind.i64 ((qCY4 c0)+qCYc)=(qCY4 d0)/\qCYe=qCYe/\True)
abbrev qCY8 (a0:NxX) (b0:Int) (c0:List Nat) (d0:Bool->Prop):=((decide (wr IntKind.i64 ((qCY4 a0)-b0)>qCYc)=true->qCY9<=b0/\b0+qCYc<=(qCY6 c0)/\∀(a0:Nat),c0[Int.toNat b0]? =some a0->(((↑a0:Int)==(48:Int))=true->d0 true)/\(((↑a0:Int)==(48:Int))=false->d0 false))/\(decide (wr IntKind.i64 ((qCY4 a0)-b0)>qCYc)=false->d0 false))
abbrev qCYa (a0:Int):=(qCYc=qCYc/\qCYh= []/\qCY9=qCY9/\a0=a0/\True)
abbrev qCYb:=(1099511627776:Int)
abbrev qCYd (a0:NxX) (b0:Int):=(wr IntKind.i64 ((qCY4 a0)-b0)>(32:Int))
abbrev qCYg (a0:Int) (b0:NxX) (c0:List Nat):=(qCY9<=a0/\a0<=(qCY4 b0)/\(qCY4 b0)<=(qCY6 c0))
theorem Zr8 (s:List Nat) (a:Int) (t:Tok) (e:Int):Zh E Z8d (vc E Z8d 400) 67 [.str false s,.int false .i64 a] hp0 0 (fun r=>ret E (patch hp0 0 r) r.v (.tup [tokV t,.int false .i64 e]))=(
 qCY9<=a/\a+qCYc<=(qCY6 s)/\∀(x:Nat),s[Int.toNat a]? =some x->True/\(isL (↑x:Int)=true->∃(R:NxX->Prop),(∃(x:NxX),R x/\true=true/\(s=s/\a=a/\qCYe=qCYe/\a=(qCY4 x)/\qCYe=qCYe/\True)/\qCY3/\(qCYa a)/\True)/\∀(x:NxX),R x->(decide ((qCY4 x)<(qCY6 s))=true->qCY9<=(qCY4 x)/\(qCY4 x)+qCYc<=(qCY6 s)/\∀(x_1:Nat),s[Int.toNat (qCY4 x)]? =some x_1->True/\(isL (↑x_1:Int)=true->∃(x_2:NxX),R x_2/\x_2.2+(1:Nat)<=x.2/\true=true/\(qCY7 s a x x_2)/\qCY3/\(qCYa a)/\True)/\(isL (↑x_1:Int)=false->qCY9<=(qCY4 x)/\(qCY4 x)+qCYc<=(qCY6 s)/\∀(x_2:Nat),s[Int.toNat (qCY4 x)]? =some x_2->True/\(isD (↑x_2:Int)=true->∃(x_3:NxX),R x_3/\x_3.2+(1:Nat)<=x.2/\true=true/\(qCY7 s a x x_3)/\qCY3/\(qCYa a)/\True)/\(isD (↑x_2:Int)=false->(qCYg a x s)/\(decide (qCYd x a)=true->(qCY5 t a x s)/\qCYf=e/\True)/\(decide (qCYd x a)=false->(qCY5 t a x s)/\qCY9=e/\True))))/\(decide ((qCY4 x)<(qCY6 s))=false->(qCYg a x s)/\(decide (qCYd x a)=true->(qCY5 t a x s)/\qCYf=e/\True)/\(decide (qCYd x a)=false->(qCY5 t a x s)/\qCY9=e/\True)))/\(isL (↑x:Int)=false->qCY9<=a/\a+qCYc<=(qCY6 s)/\∀(x:Nat),s[Int.toNat a]? =some x->True/\((!isD (↑x:Int))=true->((qCY9<=a/\a+qCYc<=(qCY6 s))/\List.length s<=(2000:Nat))/\∀(y:Int),y=sgnR (List.drop (Int.toNat a) s)->((y==qCY9)=true->(qCYc=Tok.kind t/\ []=Tok.text t/\qCY9=Tok.n t/\a=Tok.at_ t/\True)/\(150:Int)=e/\True)/\((y==qCY9)=false->(qCY9<=a/\a<=wr IntKind.i64 (a+y)/\wr IntKind.i64 (a+y)<=(qCY6 s))/\((3:Int)=Tok.kind t/\List.drop (Int.toNat a) (List.take (Int.toNat (wr IntKind.i64 (a+y))) s)=Tok.text t/\qCY9=Tok.n t/\a=Tok.at_ t/\True)/\qCY9=e/\True))/\((!isD (↑x:Int))=false->∃(R:NxX->Prop),(∃(x:NxX),R x/\true=true/\(s=s/\a=a/\qCYe=qCYe/\a=(qCY4 x)/\qCYe=qCYe/\True)/\qCY3/\(qCYf=qCYf/\qCYh= []/\qCY9=NxX.n x/\a=a/\True)/\True)/\∀(x:NxX),R x->(decide ((qCY4 x)<(qCY6 s))=true->qCY9<=(qCY4 x)/\(qCY4 x)+qCYc<=(qCY6 s)/\∀(x_1:Nat),s[Int.toNat (qCY4 x)]? =some x_1->True/\(isD (↑x_1:Int)=true->(decide (NxX.n x<=qCYb)=true->qCY9<=(qCY4 x)/\(qCY4 x)+qCYc<=(qCY6 s)/\∀(x_2:Nat),s[Int.toNat (qCY4 x)]? =some x_2->∃(x_3:NxX),R x_3/\x_3.2+(1:Nat)<=x.2/\true=true/\(qCY7 s a x x_3)/\qCY3/\(qCYf=qCYf/\qCYh= []/\wr IntKind.i64 (wr IntKind.i64 ((10:Int)*NxX.n x)+wr IntKind.i64 (wr IntKind.u8 ((↑x_2:Int)-(48:Int))))=NxX.n x_3/\a=a/\True)/\True)/\(decide (NxX.n x<=qCYb)=false->∃(x_2:NxX),R x_2/\x_2.2+(1:Nat)<=x.2/\true=true/\(qCY7 s a x x_2)/\qCY3/\(qCYf=qCYf/\qCYh= []/\NxX.n x=NxX.n x_2/\a=a/\True)/\True))/\(isD (↑x_1:Int)=false->(qCYg a x s)/\∃(Q:Bool->Prop),(qCY8 x a s Q)/\(Q true->(qCY2 t a x s)/\(150:Int)=e/\True)/\(Q false->(decide (NxX.n x>qCYb)=true->(qCY2 t a x s)/\qCYf=e/\True)/\(decide (NxX.n x>qCYb)=false->(qCY2 t a x s)/\qCY9=e/\True))))/\(decide ((qCY4 x)<(qCY6 s))=false->(qCYg a x s)/\∃(Q:Bool->Prop),(qCY8 x a s Q)/\(Q true->(qCY2 t a x s)/\(150:Int)=e/\True)/\(Q false->(decide (NxX.n x>qCYb)=true->(qCY2 t a x s)/\qCYf=e/\True)/\(decide (NxX.n x>qCYb)=false->(qCY2 t a x s)/\qCY9=e/\True)))))):=by kernel_rfl
def Nx1 (s:List Nat) (n:Nat) (x:NxX):Prop:=n<=x.k/\x.k<=s.length/\x.r=s.length-x.k/\spn isLD (s.drop n)=(x.k-n)+spn isLD (s.drop x.k)
def Nx2 (s:List Nat) (n:Nat) (x:NxX):Prop:=n<=x.k/\x.k<=s.length/\x.r=s.length-x.k/\spn isD (s.drop n)=(x.k-n)+spn isD (s.drop x.k)/\0<=x.n/\x.n<=20000000000000/\numC 0 ((s.drop n).take (spn isD (s.drop n)))=numC x.n ((s.drop x.k).take (spn isD (s.drop x.k)))
theorem Zhx {s:List Nat} {n c:Nat} (a:Int) (h:s[n]? =some c):Yi a (s.drop n)=if isL c then (⟨1,(s.drop n).take (spn isLD (s.drop n)),0,a⟩,if 32<spn isLD (s.drop n) then 2 else 0)
 else if isD c then (⟨2,(s.drop n).take (spn isD (s.drop n)),numC 0 ((s.drop n).take (spn isD (s.drop n))),a⟩,if 1<spn isD (s.drop n)/\c=48 then 150 else if 1099511627776<numC 0 ((s.drop n).take (spn isD (s.drop n))) then 2 else 0)
 else if sgnR (s.drop n)=0 then (⟨1,[],0,a⟩,150) else (⟨3,(s.drop n).take (sgnR (s.drop n)).toNat,0,a⟩,0):=by
 rw [Vr h];rfl
theorem Zvk (r:List Nat):0<=sgnR r/\sgnR r<=r.length:=by
 cases r with
 |nil=>exact ⟨Int.le_refl _,Int.le_refl _⟩
 |cons c r=>
  rw [Zek]
  simp only [List.length_cons]
  split
  · omega
  · split
    · rename_i h
      have:1<=r.length:=by
       cases r with
       |nil=>cases h.2
       |cons y t=>simp
      omega
    · omega
theorem Z55 {s:List Nat} {n k c:Nat} {m:Int} (hc:s[n]? =some c) (hs:s.length<=2000) (k1:n<=k) (k2:k<=s.length) (e:spn isD (s.drop n)=k-n) (e2:numC 0 ((s.drop n).take (k-n))=m):
 ((0:Int)<=(n:Int)/\(n:Int)<=(↑(k):Int)/\(↑(k):Int)<=(↑(List.length s):Int))/\∃(Q:Bool->Prop),((decide (wr IntKind.i64 ((↑(k):Int)-(n:Int))>(1:Int))=true->(0:Int)<=(n:Int)/\(n:Int)+(1:Int)<=(↑(List.length s):Int)/\∀(x:Nat),s[Int.toNat (n:Int)]? =some x->(((↑x:Int)==(48:Int))=true->Q true)/\(((↑x:Int)==(48:Int))=false->Q false))/\(decide (wr IntKind.i64 ((↑(k):Int)-(n:Int))>(1:Int))=false->Q false))/\(Q true->((2:Int)=(2:Int)/\List.drop (Int.toNat (n:Int)) (List.take (Int.toNat (↑(k):Int)) s)=List.take (spn isD (s.drop n)) (s.drop n)/\m=numC 0 ((s.drop n).take (spn isD (s.drop n)))/\(n:Int)=(n:Int)/\True)/\(150:Int)=(if 1<spn isD (s.drop n)/\c=48 then (150:Int) else if 1099511627776<numC 0 ((s.drop n).take (spn isD (s.drop n))) then 2 else 0)/\True)/\(Q false->(decide (m>(1099511627776:Int))=true->((2:Int)=(2:Int)/\List.drop (Int.toNat (n:Int)) (List.take (Int.toNat (↑(k):Int)) s)=List.take (spn isD (s.drop n)) (s.drop n)/\m=numC 0 ((s.drop n).take (spn isD (s.drop n)))/\(n:Int)=(n:Int)/\True)/\(2:Int)=(if 1<spn isD (s.drop n)/\c=48 then (150:Int) else if 1099511627776<numC 0 ((s.drop n).take (spn isD (s.drop n))) then 2 else 0)/\True)/\(decide (m>(1099511627776:Int))=false->((2:Int)=(2:Int)/\List.drop (Int.toNat (n:Int)) (List.take (Int.toNat (↑(k):Int)) s)=List.take (spn isD (s.drop n)) (s.drop n)/\m=numC 0 ((s.drop n).take (spn isD (s.drop n)))/\(n:Int)=(n:Int)/\True)/\(0:Int)=(if 1<spn isD (s.drop n)/\c=48 then (150:Int) else if 1099511627776<numC 0 ((s.drop n).take (spn isD (s.drop n))) then 2 else 0)/\True)):=by
 have w:wr .i64 ((k:Int)-n)=((k-n:Nat):Int):=by rw [wr64 (by omega) (by omega)];omega
 rw [w]
 simp only [Int.toNat_natCast,List.drop_take]
 rw [e,e2]
 have hlt:=(List.getElem?_eq_some_iff.1 hc).1
 refine ⟨by omega,fun b=>b=decide (1<k-n/\c=48),⟨fun h=>⟨by omega,by omega,fun y hy=> ?_⟩,fun h=> ?_⟩,fun h=> ?_,fun h=>⟨fun h2=> ?_,fun h2=> ?_⟩⟩
 · have h:((k-n:Nat):Int)>1:=of_decide_eq_true h
   rw [hc] at hy
   cases hy
   refine ⟨fun h3=> ?_,fun h3=> ?_⟩
   · have:c=48:=by
      have:(c:Int)=48:=by simpa using h3
      omega
     exact (decide_eq_true (⟨by omega,this⟩:1<k-n/\c=48)).symm
   · have:c≠48:=fun e=>by subst e;simp at h3
     exact (decide_eq_false (fun hh:1<k-n/\c=48=>this hh.2)).symm
 · have h:¬((k-n:Nat):Int)>1:=of_decide_eq_false h
   exact (decide_eq_false (fun hh:1<k-n/\c=48=>h (by omega))).symm
 · rw [if_pos (of_decide_eq_true h.symm)]
   refine ⟨⟨?_,?_,?_,?_,trivial⟩,?_,trivial⟩<;>first|rfl|trivial
 · have h2:m>1099511627776:=of_decide_eq_true h2
   rw [if_neg (of_decide_eq_false h.symm),if_pos h2]
   refine ⟨⟨?_,?_,?_,?_,trivial⟩,?_,trivial⟩<;>first|rfl|trivial
 · have h2:¬m>1099511627776:=of_decide_eq_false h2
   rw [if_neg (of_decide_eq_false h.symm),if_neg h2]
   refine ⟨⟨?_,?_,?_,?_,trivial⟩,?_,trivial⟩<;>first|rfl|trivial
theorem Zr9 (s:List Nat) (n:Nat) (h1:n<s.length) (hs:s.length<=2000):PureC E 67 [.str false s,.int false .i64 (n:Int)] (.tup [tokV (Yi n (s.drop n)).1,.int false .i64 (Yi n (s.drop n)).2]):=by
 refine Zc E_ok (Ze E_ok Z13 400) ?_
 rw [Zr8];delta qCY4 qCYf qCY2 qCYh qCY9 qCY3 qCYc qCY5 qCY6 qCYe qCY7 qCY8 qCYa qCYb qCYd qCYg
 refine ⟨by omega,by omega,fun c hc=>⟨trivial,fun hl=> ?_,fun hl=> ?_⟩⟩
 all_goals
  have hc:s[n]? =some c:=hc
  rw [Zhx _ hc]
 · rw [if_pos hl]
   refine ⟨Nx1 s n,⟨⟨n,s.length-n,0⟩,⟨Nat.le_refl _,by show n<=s.length;omega,rfl,by show spn isLD (s.drop n)=(n-n)+spn isLD (s.drop n);omega⟩,rfl,⟨rfl,rfl,rfl,rfl,rfl,trivial⟩,⟨rfl,rfl,rfl,rfl,trivial⟩,⟨rfl,rfl,rfl,rfl,trivial⟩,trivial⟩,?_⟩
   rintro x ⟨k1,k2,k3,k4⟩
   have fin:spn isLD (s.drop x.k)=0->spn isLD (s.drop n)=x.k-n:=fun h=>by omega
   refine ⟨fun hq=> ?_,fun hq=> ?_⟩
   · have hq:(x.k:Int)<s.length:=of_decide_eq_true hq
     refine ⟨by omega,by omega,fun d hd=>⟨trivial,fun hL=> ?_,fun hL=>⟨by omega,by omega,fun d2 hd2=>⟨trivial,fun hD=> ?_,fun hD=> ?_⟩⟩⟩⟩
     · have hd:s[x.k]? =some d:=hd
       have hld:isLD d=true:=by unfold isLD;rw [hL];rfl
       rw [Xm hd,if_pos hld] at k4
       exact ⟨⟨x.k+1,x.r-1,0⟩,⟨by show n<=x.k+1;omega,by show x.k+1<=s.length;omega,by show x.r-1=s.length-(x.k+1);omega,by show _=(x.k+1-n)+spn isLD (s.drop (x.k+1));omega⟩,by show x.r-1+1<=x.r;omega,rfl,⟨rfl,rfl,rfl,wr64 (by omega) (by omega),rfl,trivial⟩,⟨rfl,rfl,rfl,rfl,trivial⟩,⟨rfl,rfl,rfl,rfl,trivial⟩,trivial⟩
     · have hd:s[x.k]? =some d:=hd
       have hd2:s[x.k]? =some d2:=hd2
       rw [hd] at hd2;cases hd2
       have hld:isLD d=true:=by unfold isLD;rw [hD];cases isL d<;>rfl
       rw [Xm hd,if_pos hld] at k4
       exact ⟨⟨x.k+1,x.r-1,0⟩,⟨by show n<=x.k+1;omega,by show x.k+1<=s.length;omega,by show x.r-1=s.length-(x.k+1);omega,by show _=(x.k+1-n)+spn isLD (s.drop (x.k+1));omega⟩,by show x.r-1+1<=x.r;omega,rfl,⟨rfl,rfl,rfl,wr64 (by omega) (by omega),rfl,trivial⟩,⟨rfl,rfl,rfl,rfl,trivial⟩,⟨rfl,rfl,rfl,rfl,trivial⟩,trivial⟩
     · have hd:s[x.k]? =some d:=hd
       have hd2:s[x.k]? =some d2:=hd2
       rw [hd] at hd2;cases hd2
       have hld:¬isLD d=true:=by unfold isLD;rw [hL,hD];decide
       have e:=fin (by rw [Xm hd,if_neg hld])
       have w:wr .i64 ((x.k:Int)-n)=((x.k-n:Nat):Int):=by rw [wr64 (by omega) (by omega)];omega
       rw [w]
       simp only [Int.toNat_natCast,List.drop_take]
       rw [e]
       refine ⟨by omega,fun h=> ?_,fun h=> ?_⟩
       · have h:((x.k-n:Nat):Int)>32:=of_decide_eq_true h
         rw [if_pos (by omega)]
         refine ⟨⟨?_,?_,?_,?_,trivial⟩,?_,trivial⟩<;>first|rfl|trivial
       · have h:¬((x.k-n:Nat):Int)>32:=of_decide_eq_false h
         rw [if_neg (by omega)]
         refine ⟨⟨?_,?_,?_,?_,trivial⟩,?_,trivial⟩<;>first|rfl|trivial
   · have hq:¬(x.k:Int)<s.length:=of_decide_eq_false hq
     have e:=fin (by rw [List.drop_eq_nil_of_le (by omega)];rfl)
     have w:wr .i64 ((x.k:Int)-n)=((x.k-n:Nat):Int):=by rw [wr64 (by omega) (by omega)];omega
     rw [w]
     simp only [Int.toNat_natCast,List.drop_take]
     rw [e]
     refine ⟨by omega,fun h=> ?_,fun h=> ?_⟩
     · have h:((x.k-n:Nat):Int)>32:=of_decide_eq_true h
       rw [if_pos (by omega)]
       refine ⟨⟨?_,?_,?_,?_,trivial⟩,?_,trivial⟩<;>first|rfl|trivial
     · have h:¬((x.k-n:Nat):Int)>32:=of_decide_eq_false h
       rw [if_neg (by omega)]
       refine ⟨⟨?_,?_,?_,?_,trivial⟩,?_,trivial⟩<;>first|rfl|trivial
 rw [if_neg (by rw [hl];decide)]
 refine ⟨by omega,by omega,fun c2 hc2=>⟨trivial,fun hd=> ?_,fun hd=> ?_⟩⟩
 all_goals
  have hc2:s[n]? =some c2:=hc2
  rw [hc] at hc2
  cases hc2
 · have hd:isD c=false:=by cases h:isD c with
    |true=>rw [h] at hd;cases hd
    |false=>rfl
   rw [if_neg (by rw [hd];decide)]
   refine ⟨⟨⟨by omega,by omega⟩,hs⟩,fun y hy=> ?_⟩
   have hy:y=sgnR (s.drop n):=hy
   rw [<-hy]
   have hb:=Zvk (s.drop n)
   rw [<-hy,List.length_drop] at hb
   refine ⟨fun h=> ?_,fun h=> ?_⟩
   · have h:y=0:=by simpa using h
     rw [if_pos h]
     refine ⟨⟨?_,?_,?_,?_,trivial⟩,?_,trivial⟩<;>first|rfl|trivial
   · have h:y≠0:=by simpa using h
     rw [if_neg h]
     have w:wr .i64 ((n:Int)+y)=((n+y.toNat:Nat):Int):=by rw [wr64 (by omega) (by omega)];omega
     rw [w]
     simp only [Int.toNat_natCast,List.drop_take]
     rw [show n+y.toNat-n=y.toNat by omega]
     refine ⟨by omega,⟨?_,?_,?_,?_,trivial⟩,?_,trivial⟩<;>first|rfl|trivial
 have hd:isD c=true:=by cases h:isD c with
  |true=>rfl
  |false=>rw [h] at hd;cases hd
 rw [if_pos hd]
 refine ⟨Nx2 s n,⟨⟨n,s.length-n,0⟩,⟨Nat.le_refl _,by show n<=s.length;omega,rfl,by show spn isD (s.drop n)=(n-n)+spn isD (s.drop n);omega,Int.le_refl _,by show (0:Int)<=_;omega,rfl⟩,rfl,⟨rfl,rfl,rfl,rfl,rfl,trivial⟩,⟨rfl,rfl,rfl,rfl,trivial⟩,⟨rfl,rfl,rfl,rfl,trivial⟩,trivial⟩,?_⟩
 rintro x ⟨k1,k2,k3,k4,k5,k6,k7⟩
 have fin:spn isD (s.drop x.k)=0->spn isD (s.drop n)=x.k-n/\numC 0 ((s.drop n).take (x.k-n))=x.n:=fun h=>by
  have e:spn isD (s.drop n)=x.k-n:=by omega
  rw [h,e] at k7
  exact ⟨e,k7⟩
 refine ⟨fun hq=> ?_,fun hq=> ?_⟩
 · have hq:(x.k:Int)<s.length:=of_decide_eq_true hq
   refine ⟨by omega,by omega,fun d hd=>⟨trivial,fun hD=> ?_,fun hD=> ?_⟩⟩
   · have hd:s[x.k]? =some d:=hd
     have hr:48<=d/\d<=57:=by unfold isD at hD;simp at hD;omega
     rw [Xm hd,if_pos hD] at k4 k7
     rw [Vr hd,List.take_succ_cons,numC] at k7
     refine ⟨fun h=>⟨by omega,by omega,fun d2 hd2=> ?_⟩,fun h=> ?_⟩
     · have hd2:s[x.k]? =some d2:=hd2
       rw [hd] at hd2;cases hd2
       have h:x.n<=1099511627776:=of_decide_eq_true h
       rw [if_pos h] at k7
       have w0:wr .u8 ((d:Int)-48)=d-48:=by simp only [wr,IntKind.wrap_u8];omega
       have w1:wr .i64 (10*x.n)=10*x.n:=wr64 (by omega) (by omega)
       have w2:wr .i64 ((d:Int)-48)=d-48:=wr64 (by omega) (by omega)
       have w3:wr .i64 (10*x.n+((d:Int)-48))=10*x.n+(d-48):=wr64 (by omega) (by omega)
       rw [w0,w1,w2,w3]
       exact ⟨⟨x.k+1,x.r-1,10*x.n+(d-48)⟩,⟨by show n<=x.k+1;omega,by show x.k+1<=s.length;omega,by show x.r-1=s.length-(x.k+1);omega,by show _=(x.k+1-n)+spn isD (s.drop (x.k+1));omega,by show 0<=10*x.n+((d:Int)-48);omega,by show 10*x.n+((d:Int)-48)<=_;omega,k7⟩,by show x.r-1+1<=x.r;omega,rfl,⟨rfl,rfl,rfl,wr64 (by omega) (by omega),rfl,trivial⟩,⟨rfl,rfl,rfl,rfl,trivial⟩,⟨rfl,rfl,rfl,rfl,trivial⟩,trivial⟩
     · have h:¬x.n<=1099511627776:=of_decide_eq_false h
       rw [if_neg h] at k7
       exact ⟨⟨x.k+1,x.r-1,x.n⟩,⟨by show n<=x.k+1;omega,by show x.k+1<=s.length;omega,by show x.r-1=s.length-(x.k+1);omega,by show _=(x.k+1-n)+spn isD (s.drop (x.k+1));omega,k5,k6,k7⟩,by show x.r-1+1<=x.r;omega,rfl,⟨rfl,rfl,rfl,wr64 (by omega) (by omega),rfl,trivial⟩,⟨rfl,rfl,rfl,rfl,trivial⟩,⟨rfl,rfl,rfl,rfl,trivial⟩,trivial⟩
   · have hd:s[x.k]? =some d:=hd
     obtain ⟨e,e2⟩:=fin (by rw [Xm hd,if_neg (by rw [hD];decide)])
     exact Z55 hc hs k1 k2 e e2
 · have hq:¬(x.k:Int)<s.length:=of_decide_eq_false hq
   obtain ⟨e,e2⟩:=fin (by rw [List.drop_eq_nil_of_le (by omega)];rfl)
   exact Z55 hc hs k1 k2 e e2
noncomputable def Z56:Sum thy:=Ww dSI (fun x=>(0<=x.2.1/\x.2.1<x.1.length)/\x.1.length<=2000) (fun x=>Yi x.2.1 (x.1.drop x.2.1.toNat)) fun y=> .tup [tokV y.1,.int false .i64 y.2]
theorem Zvl:SumOk E 67 Z56:=Zy E_ok (Zb (f:=67) rfl) fun x h=>by
 obtain ⟨s,a,_⟩:=x
 obtain ⟨⟨h0,h1⟩,h2⟩:=h
 obtain ⟨n,rfl⟩:=Int.eq_ofNat_of_zero_le h0
 exact Zr9 s n (by have:(n:Int)<s.length:=h1;omega) h2
structure TrX where
 k:Nat
 r:Nat
 ts:List Tok
 c:Bool
noncomputable def Atr:Fr thy->Hp thy->Nat->Ann thy:=fun T h i=>{X:=Bool×TrX,fr:=fun x=> [(0,T 0),(5,match x.1 with|true=> .sl i 0 x.2.ts.length 4 none|false=> .val (.slice none 0 0)),(6,.bool false x.2.c),(7,.int false .i64 x.2.k)],bl:=fun x=>(match x.1 with|true=> [(i,.rows Th.toks x.2.ts 0)]|false=> []),src:=fun x=>(match x.1 with|true=> [(i,5)]|false=> []),md:= [],ih:=i+1,M:=i+40,meas:=fun x=>x.2.r,ex:=ex2,al:=al2,exOk:=Zg6,alOk:=Zg7}
noncomputable def Ftr:Fns thy:=addL (addS (addS F0 66 Ycj) 67 Z56) 38 6 Atr E
theorem Ycl:FnsOk E Ftr:=Zn E_ok (Za (Za F0_ok Z11) Zvl) _ _ _
abbrev qCYk (a0:TrX):=(↑(TrX.k a0):Int)
abbrev qCYl (a0:TrX) (b0:Tok×Int):=((qCYk a0)+(↑(List.length (Tok.text (Prod.fst b0))):Int))
abbrev qCYw (a0:Nat):=((↑a0:Int)==(10:Int))
abbrev qCYu (a0:List Nat):=(↑(List.length a0):Int)
abbrev qCYx:=(0:Int)
abbrev qCYn (a0:TrX) (b0:List Nat):=((qCYx<=(qCYk a0)/\(qCYk a0)+(1:Int)<=(qCYu b0))/\List.length b0<=(2000:Nat))
abbrev qCYm:=(0:Nat)
abbrev qCYp:=(1:Nat)
abbrev qCYy (a0:Bool×TrX->Prop) (b0:TrX) (c0:List Nat) (d0:Tok×Int):=(∃(y_2:TrX),a0 (false,y_2)/\y_2.2+qCYp<=b0.2/\true=true/\(c0=c0/\False/\false=TrX.c y_2/\wr IntKind.i64 (qCYl b0 d0)=(qCYk y_2)/\True)/\True)
abbrev qCYt (a0:Tok×Int) (b0:List Tok) (c0:TrX) (d0:Int) (e0:Int):=((Prod.snd a0 !=qCYx)=true->b0= []/\(qCYk c0)=d0/\Prod.snd a0=e0/\True)
abbrev qCYs (a0:TrX):=((qCYk a0)+(1:Int))
abbrev Zvm (a0:TrX) (b0:TrX):=(TrX.ts a0=TrX.ts b0/\qCYm=qCYm)
abbrev qCYr (a0:TrX):=(List.length (TrX.ts a0)<=List.length (TrX.ts a0)/\qCYm<=List.length (TrX.ts a0)/\(List.length (TrX.ts a0)+qCYp)*(40:Nat)<=(140737488355328:Nat))
abbrev qCYo (a0:TrX) (b0:TrX):=(qCYm=qCYm/\List.length (TrX.ts a0)=List.length (TrX.ts b0)/\True)
abbrev qCYi (a0:Nat) (b0:Bool×TrX->Prop) (c0:TrX) (d0:List Nat) (e0:List Tok) (f0:Int) (g0:Int):=((qCYw a0)=true->True/\(blkI (↑a0:Int)=true->(∃(y_1:TrX),b0 (false,y_1)/\y_1.2+qCYp<=c0.2/\true=true/\(d0=d0/\False/\false=TrX.c y_1/\wr IntKind.i64 (qCYs c0)=(qCYk y_1)/\True)/\True)\/∃(y_1:TrX),b0 (true,y_1)/\y_1.2+qCYp<=c0.2/\true=true/\(d0=d0/\(qCYo c0 y_1)/\false=TrX.c y_1/\wr IntKind.i64 (qCYs c0)=(qCYk y_1)/\True)/\(Zvm c0 y_1)/\True)/\(blkI (↑a0:Int)=false->(qCYn c0 d0)/\∀(y_1:Tok×Int),y_1=Yi (qCYk c0) (List.drop (Int.toNat (qCYk c0)) d0)->(qCYt y_1 e0 c0 f0 g0)/\((Prod.snd y_1 !=qCYx)=false->(qCYr c0)/\((qCYy b0 c0 d0 y_1)\/∃(y_2:TrX),b0 (true,y_2)/\y_2.2+qCYp<=c0.2/\true=true/\(d0=d0/\(qCYm=qCYm/\List.length (TrX.ts c0)+qCYp=List.length (TrX.ts y_2)/\True)/\false=TrX.c y_2/\wr IntKind.i64 (qCYl c0 y_1)=(qCYk y_2)/\True)/\(List.take (List.length (TrX.ts c0)) (TrX.ts c0)++ [Prod.fst y_1]=TrX.ts y_2/\qCYm=qCYm)/\True))))
abbrev qCYj (a0:Nat) (b0:Bool×TrX->Prop) (c0:TrX) (d0:List Nat) (e0:List Tok) (f0:Int) (g0:Int):=((qCYw a0)=true->True/\(blkI (↑a0:Int)=true->(∃(y_1:TrX),b0 (false,y_1)/\y_1.2+qCYp<=c0.2/\true=true/\(d0=d0/\Value.slice none qCYm qCYm=Value.slice none qCYm qCYm/\false=TrX.c y_1/\wr IntKind.i64 (qCYs c0)=(qCYk y_1)/\True)/\True)\/∃(y_1:TrX),b0 (true,y_1)/\y_1.2+qCYp<=c0.2/\true=true/\False)/\(blkI (↑a0:Int)=false->(qCYn c0 d0)/\∀(y_1:Tok×Int),y_1=Yi (qCYk c0) (List.drop (Int.toNat (qCYk c0)) d0)->(qCYt y_1 e0 c0 f0 g0)/\((Prod.snd y_1 !=qCYx)=false->(qCYy b0 c0 d0 y_1)\/∃(y_2:TrX),b0 (true,y_2)/\y_2.2+qCYp<=c0.2/\true=true/\(d0=d0/\(qCYm=qCYm/\qCYp=List.length (TrX.ts y_2)/\True)/\false=TrX.c y_2/\wr IntKind.i64 (qCYl c0 y_1)=(qCYk y_2)/\True)/\([Prod.fst y_1]=TrX.ts y_2/\qCYm=qCYm)/\True)))
abbrev qCYq (a0:Bool×TrX->Prop) (b0:TrX) (c0:List Nat):=(∃(y_1:TrX),a0 (false,y_1)/\y_1.2+qCYp<=b0.2/\true=true/\(c0=c0/\Value.slice none qCYm qCYm=Value.slice none qCYm qCYm/\TrX.c b0=TrX.c y_1/\wr IntKind.i64 (qCYs b0)=(qCYk y_1)/\True)/\True)
abbrev qCYv (a0:Bool×TrX->Prop) (b0:TrX) (c0:List Nat):=(∃(y_1:TrX),a0 (false,y_1)/\y_1.2+qCYp<=b0.2/\true=true/\(c0=c0/\False/\TrX.c b0=TrX.c y_1/\wr IntKind.i64 (qCYs b0)=(qCYk y_1)/\True)/\True)
abbrev qCYz (a0:Bool×TrX->Prop) (b0:TrX) (c0:List Nat) (d0:Tok×Int):=(∃(y_2:TrX),a0 (false,y_2)/\y_2.2+qCYp<=b0.2/\true=true/\(c0=c0/\False/\TrX.c b0=TrX.c y_2/\wr IntKind.i64 (qCYl b0 d0)=(qCYk y_2)/\True)/\True)
theorem Zsa (s:List Nat) (l:List Tok) (a e:Int):Zh E Ftr (vc E Ftr 400) 38 [.str false s] hp0 0 (fun r=>ret E (patch hp0 0 r) r.v (.tup [.psl Th.toks l false,.int false .i64 a,.int false .i64 e]))=(
 (decide ((qCYu s)>(2000:Int))=true->l= []/\qCYx=a/\(2:Int)=e/\True)/\(decide ((qCYu s)>(2000:Int))=false->∃(R:Bool×TrX->Prop),((∃(y:TrX),R (false,y)/\true=true/\(s=s/\Value.slice none qCYm qCYm=Value.slice none qCYm qCYm/\false=TrX.c y/\qCYx=(qCYk y)/\True)/\True)\/∃(y:TrX),R (true,y)/\true=true/\False)/\(∀(y:TrX),R (false,y)->(decide ((qCYk y)<(qCYu s))=true->qCYx<=(qCYk y)/\(qCYk y)+(1:Int)<=(qCYu s)/\∀(x:Nat),s[Int.toNat (qCYk y)]? =some x->(((↑x:Int)==(35:Int))=true->(qCYj x R y s l a e)/\((qCYw x)=false->(∃(y_1:TrX),R (false,y_1)/\y_1.2+qCYp<=y.2/\true=true/\(s=s/\Value.slice none qCYm qCYm=Value.slice none qCYm qCYm/\true=TrX.c y_1/\wr IntKind.i64 (qCYs y)=(qCYk y_1)/\True)/\True)\/∃(y_1:TrX),R (true,y_1)/\y_1.2+qCYp<=y.2/\true=true/\False))/\(((↑x:Int)==(35:Int))=false->(qCYj x R y s l a e)/\((qCYw x)=false->(TrX.c y=true->(qCYq R y s)\/∃(y_1:TrX),R (true,y_1)/\y_1.2+qCYp<=y.2/\true=true/\False)/\(TrX.c y=false->True/\(blkI (↑x:Int)=true->(qCYq R y s)\/∃(y_1:TrX),R (true,y_1)/\y_1.2+qCYp<=y.2/\true=true/\False)/\(blkI (↑x:Int)=false->(qCYn y s)/\∀(y_1:Tok×Int),y_1=Yi (qCYk y) (List.drop (Int.toNat (qCYk y)) s)->(qCYt y_1 l y a e)/\((Prod.snd y_1 !=qCYx)=false->(qCYz R y s y_1)\/∃(y_2:TrX),R (true,y_2)/\y_2.2+qCYp<=y.2/\true=true/\(s=s/\(qCYm=qCYm/\qCYp=List.length (TrX.ts y_2)/\True)/\TrX.c y=TrX.c y_2/\wr IntKind.i64 (qCYl y y_1)=(qCYk y_2)/\True)/\([Prod.fst y_1]=TrX.ts y_2/\qCYm=qCYm)/\True))))))/\(decide ((qCYk y)<(qCYu s))=false->l= []/\qCYx=a/\qCYx=e/\True))/\∀(y:TrX),R (true,y)->(decide ((qCYk y)<(qCYu s))=true->qCYx<=(qCYk y)/\(qCYk y)+(1:Int)<=(qCYu s)/\∀(x:Nat),s[Int.toNat (qCYk y)]? =some x->(((↑x:Int)==(35:Int))=true->(qCYi x R y s l a e)/\((qCYw x)=false->(∃(y_1:TrX),R (false,y_1)/\y_1.2+qCYp<=y.2/\true=true/\(s=s/\False/\true=TrX.c y_1/\wr IntKind.i64 (qCYs y)=(qCYk y_1)/\True)/\True)\/∃(y_1:TrX),R (true,y_1)/\y_1.2+qCYp<=y.2/\true=true/\(s=s/\(qCYo y y_1)/\true=TrX.c y_1/\wr IntKind.i64 (qCYs y)=(qCYk y_1)/\True)/\(Zvm y y_1)/\True))/\(((↑x:Int)==(35:Int))=false->(qCYi x R y s l a e)/\((qCYw x)=false->(TrX.c y=true->(qCYv R y s)\/∃(y_1:TrX),R (true,y_1)/\y_1.2+qCYp<=y.2/\true=true/\(s=s/\(qCYo y y_1)/\TrX.c y=TrX.c y_1/\wr IntKind.i64 (qCYs y)=(qCYk y_1)/\True)/\(Zvm y y_1)/\True)/\(TrX.c y=false->True/\(blkI (↑x:Int)=true->(qCYv R y s)\/∃(y_1:TrX),R (true,y_1)/\y_1.2+qCYp<=y.2/\true=true/\(s=s/\(qCYo y y_1)/\TrX.c y=TrX.c y_1/\wr IntKind.i64 (qCYs y)=(qCYk y_1)/\True)/\(Zvm y y_1)/\True)/\(blkI (↑x:Int)=false->(qCYn y s)/\∀(y_1:Tok×Int),y_1=Yi (qCYk y) (List.drop (Int.toNat (qCYk y)) s)->(qCYt y_1 l y a e)/\((Prod.snd y_1 !=qCYx)=false->(qCYr y)/\((qCYz R y s y_1)\/∃(y_2:TrX),R (true,y_2)/\y_2.2+qCYp<=y.2/\true=true/\(s=s/\(qCYm=qCYm/\List.length (TrX.ts y)+qCYp=List.length (TrX.ts y_2)/\True)/\TrX.c y=TrX.c y_2/\wr IntKind.i64 (qCYl y y_1)=(qCYk y_2)/\True)/\(List.take (List.length (TrX.ts y)) (TrX.ts y)++ [Prod.fst y_1]=TrX.ts y_2/\qCYm=qCYm)/\True)))))))/\(decide ((qCYk y)<(qCYu s))=false->(qCYm+List.length (TrX.ts y)<=List.length (TrX.ts y)/\List.take (List.length (TrX.ts y)) (TrX.ts y)=l)/\qCYx=a/\qCYx=e/\True))):=by kernel_rfl
def ncT (x:Nat) (c:Bool):Bool:=bif x==10 then false else bif x==35 then true else c
def rTk (s:List Nat):Nat->Nat->Bool->List Tok->List Tok×Int×Int
 |0,_,_,ts=>(ts,0,0)
 |n+1,k,c,ts=>match s[k]? with
  |none=>(ts,0,0)
  |some x=>if ncT x c||blkI x then rTk s n (k+1) (ncT x c) ts
   else if (Yi k (s.drop k)).2≠0 then ([],k,(Yi k (s.drop k)).2) else rTk s n (k+(Yi k (s.drop k)).1.text.length) (ncT x c) (ts++ [(Yi k (s.drop k)).1])
def Yu (s:List Nat):List Tok×Int×Int:=if 2000<s.length then ([],0,2) else rTk s s.length 0 false []
theorem Zel {s:List Nat} {n c:Nat} (hc:s[n]? =some c) (h:(Yi n (s.drop n)).2=0):1<=(Yi n (s.drop n)).1.text.length/\(Yi n (s.drop n)).1.text.length<=(s.drop n).length:=by
 rw [Zhx _ hc] at h⊢
 have go:∀m,1<=m->m<=(s.drop n).length->1<=((s.drop n).take m).length/\((s.drop n).take m).length<=(s.drop n).length:=fun m h1 h2=>by
  rw [List.length_take];omega
 split
 · rename_i hl
   refine go _ ?_ Zdq
   have:isLD c=true:=by unfold isLD;rw [hl];rfl
   rw [Xm hc,if_pos this]
   omega
 · rename_i hl
   rw [if_neg hl] at h
   split
   · rename_i hd
     refine go _ ?_ Zdq
     rw [Xm hc,if_pos hd]
     omega
   · rename_i hd
     rw [if_neg hd] at h
     split
     · rename_i hz
       rw [if_pos hz] at h
       cases h
     · have:=Zvk (s.drop n)
       exact go _ (by omega) (by omega)
def TrI (s:List Nat) (res:List Tok×Int×Int) (y:TrX):Prop:=y.k<=s.length/\s.length<=y.k+y.r/\y.ts.length<=y.k/\rTk s y.r y.k y.c y.ts=res
theorem Z57 {s:List Nat} {res} {y:TrX} (h:TrI s res y) (hq:¬y.k<s.length):res=(y.ts,0,0):=by
 obtain ⟨h1,h2,h3,h4⟩:=h
 rw [<-h4]
 cases hr:y.r with
 |zero=>rfl
 |succ k=>
  unfold rTk
  rw [List.getElem?_eq_none (by omega)]
theorem Zml {s:List Nat} {res} {y:TrX} {x:Nat} (h:TrI s res y) (hc:s[y.k]? =some x):∃n,y.r=n+1/\s.length<=y.k+(n+1)/\y.k<s.length/\(if ncT x y.c||blkI x then rTk s n (y.k+1) (ncT x y.c) y.ts
 else if (Yi y.k (s.drop y.k)).2≠0 then ([],(y.k:Int),(Yi y.k (s.drop y.k)).2) else rTk s n (y.k+(Yi y.k (s.drop y.k)).1.text.length) (ncT x y.c) (y.ts++ [(Yi y.k (s.drop y.k)).1]))=res:=by
 obtain ⟨h1,h2,h3,h4⟩:=h
 have hlt:=(List.getElem?_eq_some_iff.1 hc).1
 cases hr:y.r with
 |zero=>omega
 |succ k=>
  refine ⟨k,rfl,by omega,hlt,?_⟩
  rw [hr] at h4
  unfold rTk at h4
  rw [hc] at h4
  exact h4
theorem Zp2 {s:List Nat} {res} {y:TrX} {x:Nat} (h:TrI s res y) (hc:s[y.k]? =some x) {c:Bool} (e:ncT x y.c=c) (hb:(c||blkI x)=true):TrI s res ⟨y.k+1,y.r-1,y.ts,c⟩/\y.r-1+1<=y.r/\y.k<s.length:=by
 subst e
 obtain ⟨n,hr,hk,hl,he⟩:=Zml h hc
 rw [if_pos hb] at he
 have h3:=h.2.2.1
 refine ⟨⟨hl,?_,?_,?_⟩,by omega,hl⟩
 · show s.length<=y.k+1+(y.r-1)
   omega
 · show y.ts.length<=y.k+1
   omega
 · rw [hr]
   exact he
theorem Z58 {s:List Nat} {res} {y:TrX} {x:Nat} (h:TrI s res y) (hc:s[y.k]? =some x) (hb:(ncT x y.c||blkI x)=false) (hi:(Yi y.k (s.drop y.k)).2≠0):res=([],(y.k:Int),(Yi y.k (s.drop y.k)).2):=by
 obtain ⟨n,hr,hk,hl,he⟩:=Zml h hc
 rw [if_neg (by rw [hb];decide),if_pos hi] at he
 exact he.symm
theorem Z59 {s : List Nat} {res} {y : TrX} {x : Nat} (h : TrI s res y) (hc : s[y.k]? = some x) (hb : (ncT x y.c || blkI x) = false) (hi : (Yi y.k (s.drop y.k)).2 = 0) : TrI s res ⟨y.k + (Yi y.k (s.drop y.k)).1.text.length, y.r - 1, y.ts ++ [(Yi y.k (s.drop y.k)).1], ncT x y.c⟩ ∧ y.r - 1 + 1 ≤ y.r ∧ y.k + (Yi y.k (s.drop y.k)).1.text.length ≤ s.length := by
  obtain ⟨n, hr, hk, hl, he⟩ := Zml h hc
  rw [if_neg (by rw [hb]; decide), if_neg (by rw [hi]; decide)] at he
  have h3 := h.2.2.1
  obtain ⟨n1, n2⟩ := Zel hc hi
  rw [List.length_drop] at n2
  refine ⟨⟨?_, ?_, ?_, ?_⟩, by omega, by omega⟩
  · show y.k + (Yi y.k (s.drop y.k)).1.text.length ≤ s.length
    omega
  · show s.length ≤ y.k + (Yi y.k (s.drop y.k)).1.text.length + (y.r - 1)
    omega
  · show (y.ts ++ [_]).length ≤ y.k + (Yi y.k (s.drop y.k)).1.text.length
    rw [List.length_append]
    simp
    omega
  · rw [hr]
    exact he
theorem nc35 {x : Nat} (c : Bool) (h : ((x : Int) == 35) = true) (h2 : ((x : Int) == 10) = false) : ncT x c = true := by
  have : x = 35 := by have : (x : Int) = 35 := by simpa using h
                      omega
  subst this; rfl
theorem nc10 {x : Nat} (c : Bool) (h2 : ((x : Int) == 10) = true) : ncT x c = false ∧ blkI x = true := by
  have : x = 10 := by have : (x : Int) = 10 := by simpa using h2
                      omega
  subst this; exact ⟨rfl, rfl⟩
theorem nc0 {x:Nat} (c:Bool) (h:((x:Int)==35)=false) (h2:((x:Int)==10)=false):ncT x c=c:=by
 have a:(x==35)=false:=by
  cases e:x==35 with
  |false=>rfl
  |true=>have:=eq_of_beq e;subst this;cases h
 have b:(x==10)=false:=by
  cases e:x==10 with
  |false=>rfl
  |true=>have:=eq_of_beq e;subst this;cases h2
 unfold ncT
 rw [a,b];rfl
theorem Zsb (s:List Nat):PureC E 38 [.str false s] (.tup [.psl Th.toks (Yu s).1 false,.int false .i64 (Yu s).2.1,.int false .i64 (Yu s).2.2]):=by
 refine Zc E_ok (Ze E_ok Ycl 400) ?_
 rw [Zsa];delta qCYk qCYl qCYw qCYu qCYx qCYn qCYm qCYp qCYy qCYt qCYs Zvm qCYr qCYo qCYi qCYj qCYq qCYv qCYz
 refine ⟨fun h=> ?_,fun h=> ?_⟩
 · have h:(s.length:Int)>2000:=of_decide_eq_true h
   unfold Yu
   rw [if_pos (by omega)]
   exact ⟨rfl,rfl,rfl,trivial⟩
 have h:¬(s.length:Int)>2000:=of_decide_eq_false h
 have hp:Yu s=rTk s s.length 0 false []:=by unfold Yu;rw [if_neg (by omega)]
 generalize Yu s=res at hp
 refine ⟨fun x=>(x.1=false->x.2.ts= [])/\TrI s res x.2,Or.inl ⟨⟨0,s.length,[],false⟩,⟨fun _=>rfl,Nat.zero_le _,by show s.length<=0+s.length;omega,Nat.le_refl _,hp.symm⟩,rfl,⟨rfl,rfl,rfl,rfl,trivial⟩,trivial⟩,?_,?_⟩
 all_goals
  rintro y ⟨h0,hy⟩
  replace hy:TrI s res y:=hy
  refine ⟨fun hq=> ?_,fun hq=> ?_⟩
 · have h0:y.ts= []:=h0 rfl
   have hq:(y.k:Int)<s.length:=of_decide_eq_true hq
   refine ⟨by omega,by omega,fun x hc=> ?_⟩
   have hc:s[y.k]? =some x:=hc
   have adv:∀c,ncT x y.c=c->(c||blkI x)=true->_:=fun c e hb=>(⟨⟨y.k+1,y.r-1,y.ts,c⟩,⟨fun _=>h0,(Zp2 hy hc e hb).1⟩,(Zp2 hy hc e hb).2.1,rfl,⟨rfl,rfl,rfl,wr64 (by omega) (by omega),trivial⟩,trivial⟩:∃(y_1:TrX),((false=false->y_1.ts= [])/\TrI s res y_1)/\y_1.2+(1:Nat)<=y.2/\true=true/\(s=s/\(Value.slice none (0:Nat) (0:Nat)=Value.slice none (0:Nat) (0:Nat))/\c=TrX.c y_1/\wr IntKind.i64 ((↑(TrX.k y):Int)+(1:Int))=(↑(TrX.k y_1):Int)/\True)/\True)
   refine ⟨fun h5=>⟨fun h6=>⟨trivial,fun hb=> ?_,fun hb=> ?_⟩,fun h6=> ?_⟩,fun h5=>⟨fun h6=>⟨trivial,fun hb=> ?_,fun hb=> ?_⟩,fun h6=>⟨fun h7=> ?_,fun h7=>⟨trivial,fun hb=> ?_,fun hb=> ?_⟩⟩⟩⟩
   · exact Or.inl (adv _ (nc10 _ h6).1 hb)
   · rw [(nc10 y.c h6).2] at hb;cases hb
   · exact Or.inl (adv _ (nc35 _ h5 h6) rfl)
   · exact Or.inl (adv _ (nc10 _ h6).1 hb)
   · rw [(nc10 y.c h6).2] at hb;cases hb
   · exact Or.inl (adv _ (nc0 _ h5 h6) (by rw [h7];rfl))
   · exact Or.inl (adv _ (nc0 _ h5 h6) (by rw [h7];exact hb))
   · have hn:=nc0 y.c h5 h6
     have hn2:(ncT x y.c||blkI x)=false:=by rw [hn,h7,hb];rfl
     refine ⟨⟨⟨by omega,by omega⟩,by omega⟩,fun q hq2=> ?_⟩
     have hq2:q=Yi y.k (s.drop y.k):=hq2
     subst hq2
     refine ⟨fun h8=> ?_,fun h8=> ?_⟩
     · have h8:(Yi y.k (s.drop y.k)).2≠0:=by simpa using h8
       rw [Z58 hy hc hn2 h8]
       exact ⟨rfl,rfl,rfl,trivial⟩
     · have h8:(Yi y.k (s.drop y.k)).2=0:=by simpa using h8
       obtain ⟨g1,g2,g3⟩:=Z59 hy hc hn2 h8
       rw [hn,h0,List.nil_append] at g1
       exact Or.inr ⟨⟨_,_,_,_⟩,⟨(fun e=>by cases e),g1⟩,g2,rfl,⟨rfl,⟨rfl,rfl,trivial⟩,rfl,wr64 (by omega) (by omega),trivial⟩,⟨rfl,rfl⟩,trivial⟩
 · have h0:y.ts= []:=h0 rfl
   have hq:¬(y.k:Int)<s.length:=of_decide_eq_false hq
   rw [Z57 hy (by omega),h0]
   exact ⟨rfl,rfl,rfl,trivial⟩
 · have hq:(y.k:Int)<s.length:=of_decide_eq_true hq
   refine ⟨by omega,by omega,fun x hc=> ?_⟩
   have hc:s[y.k]? =some x:=hc
   have adv:∀c,ncT x y.c=c->(c||blkI x)=true->_:=fun c e hb=>(⟨⟨y.k+1,y.r-1,y.ts,c⟩,⟨(fun e=>by cases e),(Zp2 hy hc e hb).1⟩,(Zp2 hy hc e hb).2.1,rfl,⟨rfl,⟨rfl,rfl,trivial⟩,rfl,wr64 (by omega) (by omega),trivial⟩,⟨rfl,rfl⟩,trivial⟩:∃(y_1:TrX),((true=false->y_1.ts= [])/\TrI s res y_1)/\y_1.2+(1:Nat)<=y.2/\true=true/\(s=s/\((0:Nat)=(0:Nat)/\List.length (TrX.ts y)=List.length (TrX.ts y_1)/\True)/\c=TrX.c y_1/\wr IntKind.i64 ((↑(TrX.k y):Int)+(1:Int))=(↑(TrX.k y_1):Int)/\True)/\(TrX.ts y=TrX.ts y_1/\(0:Nat)=(0:Nat))/\True)
   refine ⟨fun h5=>⟨fun h6=>⟨trivial,fun hb=> ?_,fun hb=> ?_⟩,fun h6=> ?_⟩,fun h5=>⟨fun h6=>⟨trivial,fun hb=> ?_,fun hb=> ?_⟩,fun h6=>⟨fun h7=> ?_,fun h7=>⟨trivial,fun hb=> ?_,fun hb=> ?_⟩⟩⟩⟩
   · exact Or.inr (adv _ (nc10 _ h6).1 hb)
   · rw [(nc10 y.c h6).2] at hb;cases hb
   · exact Or.inr (adv _ (nc35 _ h5 h6) rfl)
   · exact Or.inr (adv _ (nc10 _ h6).1 hb)
   · rw [(nc10 y.c h6).2] at hb;cases hb
   · exact Or.inr (adv _ (nc0 _ h5 h6) (by rw [h7];rfl))
   · exact Or.inr (adv _ (nc0 _ h5 h6) (by rw [h7];exact hb))
   · have hn:=nc0 y.c h5 h6
     have hn2:(ncT x y.c||blkI x)=false:=by rw [hn,h7,hb];rfl
     refine ⟨⟨⟨by omega,by omega⟩,by omega⟩,fun q hq2=> ?_⟩
     have hq2:q=Yi y.k (s.drop y.k):=hq2
     subst hq2
     have hl:=hy.2.2.1
     refine ⟨fun h8=> ?_,fun h8=>⟨⟨by omega,by omega,by omega⟩,?_⟩⟩
     · have h8:(Yi y.k (s.drop y.k)).2≠0:=by simpa using h8
       rw [Z58 hy hc hn2 h8]
       exact ⟨rfl,rfl,rfl,trivial⟩
     · have h8:(Yi y.k (s.drop y.k)).2=0:=by simpa using h8
       obtain ⟨g1,g2,g3⟩:=Z59 hy hc hn2 h8
       rw [hn] at g1
       refine Or.inr ⟨⟨_,_,_,_⟩,⟨(fun e=>by cases e),g1⟩,g2,rfl,⟨rfl,⟨rfl,?_,trivial⟩,rfl,wr64 (by omega) (by omega),trivial⟩,⟨?_,rfl⟩,trivial⟩
       · rw [List.length_append];rfl
       · rw [List.take_length]
 · have hq:¬(y.k:Int)<s.length:=of_decide_eq_false hq
   rw [Z57 hy (by omega)]
   exact ⟨⟨by omega,List.take_length⟩,rfl,rfl,trivial⟩
noncomputable def Z6a:Sum thy:=Ww (dA1 dS) (fun _=>True) (fun x=>Yu x.1) fun y=> .tup [.psl Th.toks y.1 false,.int false .i64 y.2.1,.int false .i64 y.2.2]
theorem Zvn:SumOk E 38 Z6a:=Zy E_ok (Zb (f:=38) rfl) fun x _=>Zsb x.1
end
section
open Go
theorem Zp9:∀{l:List Nat} {n:Int},1099511627776<n->numC n l=n
 | [],_,_=>rfl
 |c::r,n,h=>by
  unfold numC
  rw [if_neg (by omega)]
  exact Zp9 h
theorem Z6j:∀{l:List Nat} {n:Int},n<=1099511627776->numL n l=if 1099511627776<numC n l then (0,2) else (numC n l,0)
 | [],n,h=>by
  unfold numL numC
  rw [if_neg (by omega)]
 |c::r,n,h=>by
  unfold numL numC
  rw [if_pos h]
  split
  · rename_i h2
    rw [Zp9 h2,if_pos h2]
  · rename_i h2
    exact Z6j (by omega)
theorem Ycx (s:List Nat):numb s=if 1<s.length/\s.head? =some 48 then (0,150) else if 1099511627776<numC 0 s then (0,2) else (numC 0 s,0):=by
 unfold numb
 split
 · rfl
 · exact Z6j (by decide)
theorem Ycy (c:Nat) (r:List Nat) (hl:¬isL c=true) (hd:¬isD c=true):(sgnR (c::r)=0/\tokP (c::r)=(z0,150))\/(0<sgnR (c::r)/\tokP (c::r)=(⟨3,(c::r).take (sgnR (c::r)).toNat,0,0⟩,0)):=by
 rw [Zek,Yf,if_neg hl,if_neg hd]
 split
 · rename_i h
   rcases h with h|h|h|h|h|h|h|h|h|h<;>(subst h;exact Or.inr ⟨by decide,rfl⟩)
 · rename_i h
   split
   · rename_i h2
     obtain ⟨rfl,h3⟩:=h2
     cases r with
     |nil=>cases h3
     |cons y t=>cases h3;exact Or.inr ⟨by decide,rfl⟩
   · rename_i h2
     refine Or.inl ⟨rfl,?_⟩
     by_cases h46:c=46
     · subst h46
       show tokS (46::r) [46,46]=_
       unfold tokS
       rw [if_neg]
       intro e
       cases r with
       |nil=>cases e
       |cons y t=>
        have:y=46:=by
         have:=congrArg (fun l=>l[1]?) e
         simpa using this
        subst this
        exact h2 ⟨rfl,rfl⟩
     · have:sgnW c=none:=by
        unfold sgnW
        rw [if_neg (fun e=>h (by omega)),if_neg (fun e=>h (by omega)),if_neg (fun e=>h (by omega)),if_neg (fun e=>h (by omega)),if_neg (fun e=>h (by omega)),if_neg (fun e=>h (by omega)),if_neg (fun e=>h (by omega)),if_neg (fun e=>h (by omega)),if_neg (fun e=>h (by omega)),if_neg (fun e=>h (by omega)),if_neg h46]
       rw [this]
theorem Zsk {s:List Nat} {n c:Nat} (h:s[n]? =some c) (a:Int):(Yi a (s.drop n)).2=(tokP (s.drop n)).2/\((tokP (s.drop n)).2=0->(Yi a (s.drop n)).1=⟨(tokP (s.drop n)).1.kind,(tokP (s.drop n)).1.text,(tokP (s.drop n)).1.n,a⟩):=by
 rw [Zhx a h]
 generalize hr:s.drop n=l
 rw [Vr h] at hr
 subst hr
 split
 · rename_i hl
   rw [Yf,if_pos hl]
   split
   · exact ⟨rfl,fun h=>by cases h⟩
   · exact ⟨rfl,fun _=>rfl⟩
 · split
   · rename_i hl hd
     rw [Yf,if_neg hl,if_pos hd]
     rw [Ycx]
     have e1:((c::s.drop (n+1)).take (spn isD (c::s.drop (n+1)))).length=spn isD (c::s.drop (n+1)):=by
      rw [List.length_take]
      exact Nat.min_eq_left Zdq
     have e2:((c::s.drop (n+1)).take (spn isD (c::s.drop (n+1)))).head? =some c:=by
      have:spn isD (c::s.drop (n+1))=spn isD (s.drop (n+1))+1:=by rw [spn,if_pos hd]
      rw [this];rfl
     rw [e1,e2]
     simp only [Option.some.injEq]
     split
     · exact ⟨rfl,fun h=>by cases h⟩
     · split
       · exact ⟨rfl,fun h=>by cases h⟩
       · exact ⟨rfl,fun _=>rfl⟩
   · rename_i hl hd
     rcases Ycy c (s.drop (n+1)) hl hd with ⟨g1,g2⟩|⟨g1,g2⟩
     · rw [g2,if_pos g1]
       exact ⟨rfl,fun h=>by cases h⟩
     · rw [g2,if_neg (by omega)]
       exact ⟨rfl,fun _=>rfl⟩
theorem Zqa (s:List Nat):∀(n n' k:Nat) (c:Bool) (ts:List Tok),s.length<=k+n->s.length<=k+n'->rTk s n k c ts=rTk s n' k c ts:=by
 intro n
 induction n with
 |zero=>
  intro n' k c ts h h'
  cases n' with
  |zero=>rfl
  |succ m=>
   unfold rTk
   rw [List.getElem?_eq_none (by omega)]
 |succ n ih=>
  intro n' k c ts h h'
  cases n' with
  |zero=>
   unfold rTk
   rw [List.getElem?_eq_none (by omega)]
  |succ m=>
   unfold rTk
   cases hx:s[k]? with
   |none=>rfl
   |some x=>
    dsimp only
    rw [ih m (k+1) _ _ (by omega) (by omega)]
    by_cases he:(Yi k (s.drop k)).2≠0
    · rw [if_pos he,if_pos he]
    · rw [if_neg he,if_neg he]
      have:=Zel hx (by omega)
      rw [ih m (k+(Yi k (s.drop k)).1.text.length) _ _ (by omega) (by omega)]
theorem Z8s (s:List Nat):∀(n k j:Nat) (ts:List Tok),s.length<=k+n->(idxL 10 j (s.drop k)<0/\rTk s n k true ts=(ts,0,0))\/∃m:Nat,idxL 10 j (s.drop k)=(j+m:Nat)/\rTk s n k true ts=rTk s n (k+m+1) false ts:=by
 intro n
 induction n with
 |zero=>
  intro k j ts h
  refine Or.inl ⟨?_,rfl⟩
  rw [List.drop_eq_nil_of_le (by omega)]
  show (-1:Int)<0
  decide
 |succ n ih=>
  intro k j ts h
  cases hx:s[k]? with
  |none=>
   have:s.length<=k:=by
    have:=List.getElem?_eq_none_iff.1 hx
    exact this
   refine Or.inl ⟨?_,?_⟩
   · rw [List.drop_eq_nil_of_le this]
     unfold idxL
     decide
   · unfold rTk
     rw [hx]
  |some x=>
   rw [Vr hx]
   by_cases h10:x=10
   · subst h10
     refine Or.inr ⟨0,by unfold idxL;simp,?_⟩
     rw [Zqa s (n+1) n (k+0+1) false ts (by omega) (by omega)]
     conv=>lhs;unfold rTk
     rw [hx]
     rfl
   · have e1:rTk s (n+1) k true ts=rTk s n (k+1) true ts:=by
      conv=>lhs;unfold rTk
      rw [hx]
      have:ncT x true=true:=by
       unfold ncT
       cases x==35<;>(rw [show (x==10)=false from beq_false_of_ne h10];rfl)
      dsimp only
      rw [this]
      rfl
     have e2:idxL 10 j (x::s.drop (k+1))=idxL 10 (j+1) (s.drop (k+1)):=by
      conv=>lhs;unfold idxL
      rw [show x.beq 10=false from by cases h:x.beq 10 with|false=>rfl|true=>exact absurd (Nat.eq_of_beq_eq_true h) h10]
     rw [e1,e2]
     rcases ih (k+1) (j+1) ts (by omega) with g|⟨m,g1,g2⟩
     · exact Or.inl g
     · refine Or.inr ⟨m+1,by rw [g1];congr 1;omega,?_⟩
       rw [g2,show k+1+m+1=k+(m+1)+1 by omega]
       exact Zqa s _ _ _ _ _ (by omega) (by omega)
theorem Ycz (x:Nat):blkI x=blk x:=by
 unfold blkI blk
 have f:∀n:Nat,((x:Int)==(n:Int))=decide (x=n):=fun n=>by
  by_cases h:x=n
  · subst h;simp
  · rw [decide_eq_false h]
    exact beq_false_of_ne (by omega)
 rw [show ((x:Int)==32)=decide (x=32) from f 32,show ((x:Int)==9)=decide (x=9) from f 9,show ((x:Int)==13)=decide (x=13) from f 13,show ((x:Int)==10)=decide (x=10) from f 10]
theorem Yc0 (s:List Nat):∀(n k:Nat) (ts:List Tok),s.length<=k+n->rTk s n k false ts=tksL n s k ts:=by
 intro n
 induction n with
 |zero=>intro k ts h;rfl
 |succ n ih=>
  intro k ts h
  cases hx:s[k]? with
  |none=>
   unfold rTk tksL
   rw [hx]
  |some x=>
   by_cases hb:blk x=true
   · have e1:rTk s (n+1) k false ts=rTk s n (k+1) false ts:=by
      conv=>lhs;unfold rTk
      rw [hx]
      have:ncT x false=false:=by
       unfold ncT
       cases h35:x==35 with
       |false=>cases x==10<;>rfl
       |true=>
        have:=eq_of_beq h35
        subst this
        exact absurd hb (by decide)
      dsimp only
      rw [this,Ycz,hb]
      rfl
     have e2:tksL (n+1) s k ts=tksL n s (k+1) ts:=by
      conv=>lhs;unfold tksL
      rw [hx]
      dsimp only
      rw [if_pos hb]
     rw [e1,e2,ih _ _ (by omega)]
   · have hb:blk x=false:=by cases h:blk x<;>simp_all
     by_cases h35:x=35
     · subst h35
       have e1:rTk s (n+1) k false ts=rTk s n (k+1) true ts:=by
        conv=>lhs;unfold rTk
        rw [hx]
        rfl
       have e2:tksL (n+1) s k ts=(if idxL 10 0 (s.drop k)<0 then (ts,0,0) else tksL n s (k+(idxL 10 0 (s.drop k)).toNat+1) ts):=by
        conv=>lhs;unfold tksL
        rw [hx]
        rfl
       have e3:idxL 10 0 (s.drop k)=idxL 10 1 (s.drop (k+1)):=by
        rw [Vr hx]
        rfl
       rw [e1,e2,e3]
       rcases Z8s s n (k+1) 1 ts (by omega) with ⟨g1,g2⟩|⟨m,g1,g2⟩
       · rw [if_pos g1,g2]
       · rw [g1,if_neg (by omega),g2,show k+(((1+m:Nat):Int)).toNat+1=k+1+m+1 by omega]
         exact ih _ _ (by omega)
     · have hn:ncT x false=false:=by
        unfold ncT
        rw [show (x==35)=false from beq_false_of_ne h35]
        cases x==10<;>rfl
       have e1:rTk s (n+1) k false ts=(if (Yi k (s.drop k)).2≠0 then ([],(k:Int),(Yi k (s.drop k)).2) else rTk s n (k+(Yi k (s.drop k)).1.text.length) false (ts++ [(Yi k (s.drop k)).1])):=by
        conv=>lhs;unfold rTk
        rw [hx]
        dsimp only
        rw [hn,Ycz,hb]
        rfl
       have e2:tksL (n+1) s k ts=(if (tokP (s.drop k)).2≠0 then ([],(k:Int),(tokP (s.drop k)).2)
        else tksL n s (k+(tokP (s.drop k)).1.text.length) (ts++ [⟨(tokP (s.drop k)).1.kind,(tokP (s.drop k)).1.text,(tokP (s.drop k)).1.n,k⟩])):=by
        conv=>lhs;unfold tksL
        rw [hx]
        dsimp only
        rw [hb,if_neg (by decide),if_neg h35]
       obtain ⟨t1,t2⟩:=Zsk hx k
       rw [e1,e2,t1]
       by_cases he:(tokP (s.drop k)).2≠0
       · rw [if_pos he,if_pos he]
       · have he0:(tokP (s.drop k)).2=0:=by omega
         have hl:=Zel hx (by rw [t1];exact he0)
         rw [if_neg he,if_neg he,t2 he0]
         rw [t2 he0] at hl
         exact ih _ _ (by dsimp only at hl⊢;omega)
theorem Zgv (s:List Nat):Yu s=Zm s:=by
 unfold Yu Zm
 rw [Yc0 s s.length 0 [] (by omega)]
end
section
open Go
structure RS where
 l:List Tok
 ed:Int
 p:Int
 e:Int
 wh:Int
noncomputable def dRS:DcL E RS:=(DcL.cons Ybi (.cons dN (.cons dN (.cons dN (.cons dN .nil))))).map (fun x=>(⟨x.1,x.2.1,x.2.2.1,x.2.2.2.1,x.2.2.2.2.1⟩:RS)) (fun r=>(r.l,r.ed,r.p,r.e,r.wh,())) fun _=>rfl
abbrev PRr (β:Type):=Except Empty (β×RS)
noncomputable def mR {α β:Type} (dA:DcL E α) (hA:∀a,nidL 0 (dA.enc a)=true) (d:Dc E β) (hv:∀y,nid 0 (d.enc y)=true):MutI E RS α β Empty where
 dS:=dRS
 dA:=dA
 v:=d.enc
 hv:=hv
 hS _:=rfl
 hA:=hA
 pv:=Empty.elim
noncomputable def mKr {α β:Type} (dA:DcL E α) (hA:∀a,nidL 0 (dA.enc a)=true) (d:Dc E β) (hv:∀y,nid 0 (d.enc y)=true) (x:RS) (out:PRr β):Res thy->Prop:=
 mutK (mR dA hA d hv) (fun _=>none) 3 d.dec (fun _=>none) x out
theorem Y8 {F:Fns thy} (hF:FnsOk E F) {n:Nat} {α β:Type} {dA:DcL E α} {hA:∀a,nidL 0 (dA.enc a)=true} {d:Dc E β} {hv:∀y,nid 0 (d.enc y)=true} {f:Nat} {x:RS} {a:α} {out:PRr β}
 (hk:Zh E F (vc E F n) f (.ptr 0 0::dA.enc a) (one (dRS.enc x)) 1 (mKr dA hA d hv x out)):Z9 (mR dA hA d hv) f x a out:=
 Zf0 E_ok (Ze E_ok hF n) (fun v y h=>(d.ok v y h).2.2) (fun q e h=>by cases h) (x:=x) hk
noncomputable def sumR {α β:Type} (dA:DcL E α) (d:Dc E β) (pre:RS->α->Prop) (f:RS->α->β×RS):Sum thy:=fun args h _ k=>
 match args with
 | .ptr b 0::rest=>
  (match h b with
  |some (.raw cs 0 _)=>
   (match dRS.dec cs,dA.dec rest with
   |some x,some a=>pre x a/\∀y:β×RS,y=f x a->k (Zfz b (d.enc y.1) (dRS.enc y.2))
   |_,_=>False)
  |_=>False)
 |_=>False
theorem Yz {α β:Type} {dA:DcL E α} {hA:∀a,nidL 0 (dA.enc a)=true} {d:Dc E β} {hv:∀y,nid 0 (d.enc y)=true} {pre:RS->α->Prop} {f:RS->α->β×RS} {fn:Nat} (hg:FnGood E.P fn) (hp:∀x a,pre x a->Z9 (mR dA hA d hv) fn x a (.ok (f x a))):SumOk E fn (sumR dA d pre f):=by
 refine ⟨hg,fun args h i k hD hk=>(Xe E_ok hg (M:=mR dA hA d hv) (pre:=pre) (fn:=fun x a=> .ok (f x a)) hp).ok args h i k hD ?_⟩
 unfold sumR at hk
 unfold sumM
 split at hk
 · split at hk
   · split at hk
     · rename_i b rest _ cs tg hb _ _ x a h4 h5
       simp only [hb]
       rw [show (mR dA hA d hv).dS.dec cs=_ from h4,show (mR dA hA d hv).dA.dec rest=_ from h5]
       exact ⟨hk.1,fun y x' e=>by injection e with e;exact hk.2 (y,x') e.symm,fun e=>nomatch e⟩
     · exact hk.elim
   · exact hk.elim
 · exact hk.elim
def RS.ok (r:RS):Prop:=0<=r.p/\r.p<=r.l.length/\r.l.length<=2000
def RS.tk (r:RS):Option Tok:=if r.e=0 then r.l[r.p.toNat]? else none
def RS.adv (r:RS):RS:={r with p:=r.p+1}
def RS.here (r:RS):Int:=match r.l[r.p.toNat]? with|some t=>t.at_|none=>r.ed
def RS.fail (r:RS) (c w:Int):RS:=if r.e=0 then {r with e:=c,wh:=w} else r
def RS.is (r:RS) (s:List Nat):Bool:=match r.tk with|some t=>decide (t.kind≠2/\t.text=s)|none=>false
def RS.kind (r:RS) (k:Int):Bool:=match r.tk with|some t=>decide (t.kind=k)|none=>false
def RS.take (r:RS) (s:List Nat):Bool×RS:=if r.is s then (true,r.adv) else (false,r)
def RS.need (r:RS) (s:List Nat):RS:=if r.is s then r.adv else r.fail 160 r.here
def RS.int (r:RS):Int×RS:=if r.kind 2 then ((r.l.getD r.p.toNat z0).n,r.adv) else (0,r.fail 160 r.here)
theorem Ztr (r:RS) (out:PRr Int):Zh E F0 (vc E F0 400) 71 [.ptr 0 0] (one (dRS.enc r)) 1 (mKr .nil n0 dN (fun _=>rfl) r out)=(
(decide (RS.p r<(↑(List.length (RS.l r)):Int))=true->(0:Int)<=RS.p r/\RS.p r+(1:Int)<=(↑(List.length (RS.l r)):Int)/\∀(x:Tok),(RS.l r)[Int.toNat (RS.p r)]? =some x->out=Except.ok (Tok.at_ x,r))/\(decide (RS.p r<(↑(List.length (RS.l r)):Int))=false->out=Except.ok (RS.ed r,r))):=by kernel_rfl
theorem Zyw (r:RS) (h:r.ok):Z9 (mR .nil n0 dN (fun _=>rfl)) 71 r () (.ok (r.here,r)):=by
 refine Y8 F0_ok (n:=400) (a:=()) ?_
 rw [show (DcL.nil (E:=E)).enc ()= [] from rfl,Ztr]
 obtain ⟨h0,h1,h2⟩:=h
 refine ⟨fun hq=>⟨h0,by have:=of_decide_eq_true hq;omega,fun x hx=> ?_⟩,fun hq=> ?_⟩
 · have hx:r.l[r.p.toNat]? =some x:=hx
   unfold RS.here
   rw [hx]
 · unfold RS.here
   rw [List.getElem?_eq_none (by have:=of_decide_eq_false hq;omega)]
noncomputable def Z7a:Sum thy:=sumR .nil dN (fun r _=>r.ok) fun r _=>(r.here,r)
theorem Zyx:SumOk E 71 Z7a:=Yz (hA:=fun _=>rfl) (hv:=fun _=>rfl) (Zb rfl) fun r _ h=>Zyw r h
theorem Zts (r:RS) (c w:Int) (out:PRr Unit):Zh E F0 (vc E F0 400) 73 [.ptr 0 0,.int false .i64 c,.int false .i64 w] (one (dRS.enc r)) 1 (mKr (dA2 dN dN) (fun _=>rfl) Zf6 (fun _=>rfl) r out)=(
((RS.e r==(0:Int))=true->out=Except.ok ((),RS.mk (RS.l r) (RS.ed r) (RS.p r) c w))/\((RS.e r==(0:Int))=false->out=Except.ok ((),r))):=by kernel_rfl
theorem Zyy (r:RS) (c w:Int):Z9 (mR (dA2 dN dN) (fun _=>rfl) Zf6 (fun _=>rfl)) 73 r (c,w,()) (.ok ((),r.fail c w)):=by
 refine Y8 F0_ok (n:=400) (a:=(c,w,())) ?_
 rw [show (dA2 dN dN).enc (c,w,())= [.int false .i64 c,.int false .i64 w] from rfl,Zts]
 unfold RS.fail
 refine ⟨fun h=> ?_,fun h=> ?_⟩
 · rw [if_pos (eq_of_beq h)]
 · rw [if_neg (fun e=>by rw [e] at h;cases h)]
noncomputable def Z7b:Sum thy:=sumR (dA2 dN dN) Zf6 (fun _ _=>True) fun r a=>((),r.fail a.1 a.2.1)
theorem Zyz:SumOk E 73 Z7b:=Yz (hA:=fun _=>rfl) (hv:=fun _=>rfl) (Zb rfl) fun r a _=>Zyy r a.1 a.2.1
theorem Zy0 {r:RS} {x:Tok} (h0:(r.e==0)=true) (hx:r.l[r.p.toNat]? =some x):r.tk=some x:=by
 unfold RS.tk
 rw [if_pos (eq_of_beq h0),hx]
theorem Zy1 {r:RS} (h:r.ok) (hq:decide (r.p<(r.l.length:Int))=false):r.tk=none:=by
 unfold RS.tk
 obtain ⟨h0,h1,h2⟩:=h
 have:=of_decide_eq_false hq
 rw [List.getElem?_eq_none (by omega)]
 split<;>rfl
theorem Z7c {r:RS} (h:(r.e==0)=false):r.tk=none:=by
 unfold RS.tk
 rw [if_neg (fun e=>by rw [e] at h;cases h)]
theorem Z32 (r:RS) (s:List Nat) (out:PRr Bool):Zh E F0 (vc E F0 400) 113 [.ptr 0 0,.str false s] (one (dRS.enc r)) 1 (mKr (dA1 dS) (fun _=>rfl) dB (fun _=>rfl) r out)=(
((RS.e r==(0:Int))=true->(decide (RS.p r<(↑(List.length (RS.l r)):Int))=true->(0:Int)<=RS.p r/\RS.p r+(1:Int)<=(↑(List.length (RS.l r)):Int)/\∀(x:Tok),(RS.l r)[Int.toNat (RS.p r)]? =some x->((Tok.kind x !=(2:Int))=true->(0:Int)<=RS.p r/\RS.p r+(1:Int)<=(↑(List.length (RS.l r)):Int)/\∀(x:Tok),(RS.l r)[Int.toNat (RS.p r)]? =some x->((Tok.text x==s)=true->out=Except.ok (true,r))/\((Tok.text x==s)=false->out=Except.ok (false,r)))/\((Tok.kind x !=(2:Int))=false->out=Except.ok (false,r)))/\(decide (RS.p r<(↑(List.length (RS.l r)):Int))=false->out=Except.ok (false,r)))/\((RS.e r==(0:Int))=false->out=Except.ok (false,r))):=by kernel_rfl
theorem Z91 (r:RS) (s:List Nat) (h:r.ok):Z9 (mR (dA1 dS) (fun _=>rfl) dB (fun _=>rfl)) 113 r (s,()) (.ok (r.is s,r)):=by
 refine Y8 F0_ok (n:=400) (a:=(s,())) ?_
 rw [show (dA1 dS).enc (s,())= [.str false s] from rfl,Z32]
 unfold RS.is
 refine ⟨fun he=>⟨fun hq=>⟨h.1,by have:=of_decide_eq_true hq;omega,fun x hx=> ?_⟩,fun hq=> ?_⟩,fun he=> ?_⟩
 · have hx:r.l[r.p.toNat]? =some x:=hx
   rw [Zy0 he hx]
   dsimp only
   refine ⟨fun hk=>⟨h.1,by have:=of_decide_eq_true hq;omega,fun y hy=> ?_⟩,fun hk=> ?_⟩
   · have hy:r.l[r.p.toNat]? =some y:=hy
     rw [hx] at hy;cases hy
     have hk:x.kind≠2:=by simpa using hk
     refine ⟨fun ht=> ?_,fun ht=> ?_⟩
     · rw [show decide (x.kind≠2/\x.text=s)=true from decide_eq_true ⟨hk,eq_of_beq ht⟩]
     · rw [show decide (x.kind≠2/\x.text=s)=false from decide_eq_false fun e=>by rw [e.2] at ht;simp at ht]
   · have hk:x.kind=2:=by simpa using hk
     rw [show decide (x.kind≠2/\x.text=s)=false from decide_eq_false fun e=>e.1 hk]
 · rw [Zy1 h hq]
 · rw [Z7c he]
noncomputable def Sris:Sum thy:=sumR (dA1 dS) dB (fun r _=>r.ok) fun r a=>(r.is a.1,r)
theorem Z92:SumOk E 113 Sris:=Yz (hA:=fun _=>rfl) (hv:=fun _=>rfl) (Zb rfl) fun r a h=>Z91 r a.1 h
theorem Ztt (r:RS) (k:Int) (out:PRr Bool):Zh E F0 (vc E F0 400) 111 [.ptr 0 0,.int false .i64 k] (one (dRS.enc r)) 1 (mKr (dA1 dN) (fun _=>rfl) dB (fun _=>rfl) r out)=(
((RS.e r==(0:Int))=true->(decide (RS.p r<(↑(List.length (RS.l r)):Int))=true->(0:Int)<=RS.p r/\RS.p r+(1:Int)<=(↑(List.length (RS.l r)):Int)/\∀(x:Tok),(RS.l r)[Int.toNat (RS.p r)]? =some x->((Tok.kind x==k)=true->out=Except.ok (true,r))/\((Tok.kind x==k)=false->out=Except.ok (false,r)))/\(decide (RS.p r<(↑(List.length (RS.l r)):Int))=false->out=Except.ok (false,r)))/\((RS.e r==(0:Int))=false->out=Except.ok (false,r))):=by kernel_rfl
theorem Zy2 (r:RS) (k:Int) (h:r.ok):Z9 (mR (dA1 dN) (fun _=>rfl) dB (fun _=>rfl)) 111 r (k,()) (.ok (r.kind k,r)):=by
 refine Y8 F0_ok (n:=400) (a:=(k,())) ?_
 rw [show (dA1 dN).enc (k,())= [.int false .i64 k] from rfl,Ztt]
 unfold RS.kind
 refine ⟨fun he=>⟨fun hq=>⟨h.1,by have:=of_decide_eq_true hq;omega,fun x hx=> ?_⟩,fun hq=> ?_⟩,fun he=> ?_⟩
 · have hx:r.l[r.p.toNat]? =some x:=hx
   rw [Zy0 he hx]
   dsimp only
   refine ⟨fun hk=> ?_,fun hk=> ?_⟩
   · rw [show decide (x.kind=k)=true from decide_eq_true (eq_of_beq hk)]
   · rw [show decide (x.kind=k)=false from decide_eq_false fun e=>by rw [e] at hk;simp at hk]
 · rw [Zy1 h hq]
 · rw [Z7c he]
noncomputable def Z7d:Sum thy:=sumR (dA1 dN) dB (fun r _=>r.ok) fun r a=>(r.kind a.1,r)
theorem Zy3:SumOk E 111 Z7d:=Yz (hA:=fun _=>rfl) (hv:=fun _=>rfl) (Zb rfl) fun r a h=>Zy2 r a.1 h
noncomputable def Fr1:Fns thy:=addS (addS (addS (addS F0 71 Z7a) 73 Z7b) 113 Sris) 111 Z7d
theorem Z7e:FnsOk E Fr1:=Za (Za (Za (Za F0_ok Zyx) Zyz) Z92) Zy3
theorem Ztu (r:RS) (s:List Nat) (out:PRr Bool):Zh E Fr1 (vc E Fr1 400) 72 [.ptr 0 0,.str false s] (one (dRS.enc r)) 1 (mKr (dA1 dS) (fun _=>rfl) dB (fun _=>rfl) r out)=(
((0:Int)<=RS.p r/\RS.p r<=(↑(List.length (RS.l r)):Int)/\List.length (RS.l r)<=(2000:Nat))/\∀(y:Bool×RS),y=(RS.is r s,r)->(Prod.fst y=true->out=Except.ok (Prod.fst y,RS.mk (RS.l (Prod.snd y)) (RS.ed (Prod.snd y)) (wr IntKind.i64 (RS.p (Prod.snd y)+(1:Int))) (RS.e (Prod.snd y)) (RS.wh (Prod.snd y))))/\(Prod.fst y=false->out=Except.ok y)):=by kernel_rfl
theorem Zch {r:RS} (h:r.ok) {t:Tok} (ht:r.tk=some t):r.e=0/\r.p<r.l.length/\r.l[r.p.toNat]? =some t:=by
 unfold RS.tk at ht
 split at ht
 · rename_i he
   have:=(List.getElem?_eq_some_iff.1 ht).1
   exact ⟨he,by have:=h.1;omega,ht⟩
 · cases ht
theorem Wb {r:RS} {s:List Nat} (h:r.is s=true):∃t,r.tk=some t/\t.kind≠2/\t.text=s:=by
 unfold RS.is at h
 split at h
 · rename_i t ht
   exact ⟨t,ht,of_decide_eq_true h⟩
 · cases h
theorem Ua {r:RS} {k:Int} (h:r.kind k=true):∃t,r.tk=some t/\t.kind=k:=by
 unfold RS.kind at h
 split at h
 · rename_i t ht
   exact ⟨t,ht,of_decide_eq_true h⟩
 · cases h
theorem Z7 {r:RS} (h:r.ok) {t:Tok} (ht:r.tk=some t):r.adv.ok:=by
 obtain ⟨_,h1,_⟩:=Zch h ht
 exact ⟨by show 0<=r.p+1;have:=h.1;omega,by show r.p+1<=r.l.length;omega,h.2.2⟩
theorem Zy4 {r:RS} (h:r.ok) {t:Tok} (ht:r.tk=some t):(⟨r.l,r.ed,wr .i64 (r.p+1),r.e,r.wh⟩:RS)=r.adv:=by
 obtain ⟨_,h1,_⟩:=Zch h ht
 obtain ⟨h2,h3,h4⟩:=h
 rw [wr64 (by omega) (by omega)]
 rfl
theorem Xz {r:RS} (h:r.ok) (c w:Int):(r.fail c w).ok:=by
 unfold RS.fail
 split
 · exact h
 · exact h
theorem Zy5 (r:RS) (s:List Nat) (h:r.ok):Z9 (mR (dA1 dS) (fun _=>rfl) dB (fun _=>rfl)) 72 r (s,()) (.ok (r.take s)):=by
 refine Y8 Z7e (n:=400) (a:=(s,())) ?_
 rw [show (dA1 dS).enc (s,())= [.str false s] from rfl,Ztu]
 refine ⟨h,fun y e=> ?_⟩
 subst e
 unfold RS.take
 refine ⟨fun hq=> ?_,fun hq=> ?_⟩
 · have hq:r.is s=true:=hq
   obtain ⟨t,ht,_⟩:=Wb hq
   dsimp only
   rw [Zy4 h ht,hq]
   rfl
 · have hq:r.is s=false:=hq
   rw [hq]
   rfl
theorem Ub {r:RS} (h:r.ok) (s:List Nat):(r.take s).2.ok:=by
 unfold RS.take
 split
 · rename_i hq
   obtain ⟨t,ht,_⟩:=Wb hq
   exact Z7 h ht
 · exact h
noncomputable def Z7f:Sum thy:=sumR (dA1 dS) dB (fun r _=>r.ok) fun r a=>r.take a.1
theorem Zy6:SumOk E 72 Z7f:=Yz (hA:=fun _=>rfl) (hv:=fun _=>rfl) (Zb rfl) fun r a h=>Zy5 r a.1 h
noncomputable def Fr2:Fns thy:=addS Fr1 72 Z7f
theorem Zy7:FnsOk E Fr2:=Za Z7e Zy6
theorem Ztv (r:RS) (s:List Nat) (out:PRr Unit):Zh E Fr2 (vc E Fr2 400) 68 [.ptr 0 0,.str false s] (one (dRS.enc r)) 1 (mKr (dA1 dS) (fun _=>rfl) Zf6 (fun _=>rfl) r out)=(
((0:Int)<=RS.p r/\RS.p r<=(↑(List.length (RS.l r)):Int)/\List.length (RS.l r)<=(2000:Nat))/\∀(y:Bool×RS),y=RS.take r s->((!Prod.fst y)=true->((0:Int)<=RS.p (Prod.snd y)/\RS.p (Prod.snd y)<=(↑(List.length (RS.l (Prod.snd y))):Int)/\List.length (RS.l (Prod.snd y))<=(2000:Nat))/\∀(y_1:Int×RS),y_1=(RS.here (Prod.snd y),Prod.snd y)->True/\∀(y:Unit×RS),y=((),RS.fail (Prod.snd y_1) (160:Int) (Prod.fst y_1))->out=Except.ok ((),Prod.snd y))/\((!Prod.fst y)=false->out=Except.ok ((),Prod.snd y))):=by kernel_rfl
theorem Zy8 (r:RS) (s:List Nat) (h:r.ok):Z9 (mR (dA1 dS) (fun _=>rfl) Zf6 (fun _=>rfl)) 68 r (s,()) (.ok ((),r.need s)):=by
 refine Y8 Zy7 (n:=400) (a:=(s,())) ?_
 rw [show (dA1 dS).enc (s,())= [.str false s] from rfl,Ztv]
 refine ⟨h,fun y e=> ?_⟩
 subst e
 unfold RS.take RS.need
 cases hq:r.is s with
 |true=>exact ⟨(fun h=>by cases h),fun _=>rfl⟩
 |false=>exact ⟨fun _=>⟨h,fun y e=>by subst e;exact ⟨trivial,fun z e=>by subst e;rfl⟩⟩,fun h=>by cases h⟩
theorem Z0 {r:RS} (h:r.ok) (s:List Nat):(r.need s).ok:=by
 unfold RS.need
 split
 · rename_i hq
   obtain ⟨t,ht,_⟩:=Wb hq
   exact Z7 h ht
 · exact Xz h _ _
noncomputable def Z7g:Sum thy:=sumR (dA1 dS) Zf6 (fun r _=>r.ok) fun r a=>((),r.need a.1)
theorem Zy9:SumOk E 68 Z7g:=Yz (hA:=fun _=>rfl) (hv:=fun _=>rfl) (Zb rfl) fun r a h=>Zy8 r a.1 h
theorem Zza (r:RS) (out:PRr Int):Zh E Fr2 (vc E Fr2 400) 144 [.ptr 0 0] (one (dRS.enc r)) 1 (mKr .nil n0 dN (fun _=>rfl) r out)=(
((0:Int)<=RS.p r/\RS.p r<=(↑(List.length (RS.l r)):Int)/\List.length (RS.l r)<=(2000:Nat))/\∀(y:Bool×RS),y=(RS.kind r (2:Int),r)->((!Prod.fst y)=true->((0:Int)<=RS.p (Prod.snd y)/\RS.p (Prod.snd y)<=(↑(List.length (RS.l (Prod.snd y))):Int)/\List.length (RS.l (Prod.snd y))<=(2000:Nat))/\∀(y_1:Int×RS),y_1=(RS.here (Prod.snd y),Prod.snd y)->True/\∀(y:Unit×RS),y=((),RS.fail (Prod.snd y_1) (160:Int) (Prod.fst y_1))->out=Except.ok ((0:Int),Prod.snd y))/\((!Prod.fst y)=false->(0:Int)<=wr IntKind.i64 (wr IntKind.i64 (RS.p (Prod.snd y)+(1:Int))-(1:Int))/\wr IntKind.i64 (wr IntKind.i64 (RS.p (Prod.snd y)+(1:Int))-(1:Int))+(1:Int)<=(↑(List.length (RS.l (Prod.snd y))):Int)/\∀(x:Tok),(RS.l (Prod.snd y))[Int.toNat (wr IntKind.i64 (wr IntKind.i64 (RS.p (Prod.snd y)+(1:Int))-(1:Int)))]? =some x->out=Except.ok (Tok.n x,RS.mk (RS.l (Prod.snd y)) (RS.ed (Prod.snd y)) (wr IntKind.i64 (RS.p (Prod.snd y)+(1:Int))) (RS.e (Prod.snd y)) (RS.wh (Prod.snd y))))):=by kernel_rfl
theorem Z33 (r:RS) (h:r.ok):Z9 (mR .nil n0 dN (fun _=>rfl)) 144 r () (.ok r.int):=by
 refine Y8 Zy7 (n:=400) (a:=()) ?_
 rw [show (DcL.nil (E:=E)).enc ()= [] from rfl,Zza]
 refine ⟨h,fun y e=> ?_⟩
 subst e
 unfold RS.int
 cases hq:r.kind 2 with
 |true=>
  refine ⟨(fun h=>by cases h),fun _=> ?_⟩
  obtain ⟨t,ht,_⟩:=Ua hq
  obtain ⟨_,h1,h2⟩:=Zch h ht
  obtain ⟨h3,h4,h5⟩:=h
  dsimp only
  have w1:wr .i64 (r.p+1)=r.p+1:=wr64 (by omega) (by omega)
  have w2:wr .i64 (r.p+1-1)=r.p:=by rw [wr64 (by omega) (by omega)];omega
  rw [w1,w2]
  refine ⟨h3,by omega,fun x hx=> ?_⟩
  rw [h2] at hx;cases hx
  rw [List.getD_eq_getElem?_getD,h2]
  rfl
 |false=>exact ⟨fun _=>⟨h,fun y e=>by subst e;exact ⟨trivial,fun z e=>by subst e;rfl⟩⟩,fun h=>by cases h⟩
theorem Zaf {r:RS} (h:r.ok):r.int.2.ok:=by
 unfold RS.int
 split
 · rename_i hq
   obtain ⟨t,ht,_⟩:=Ua hq
   exact Z7 h ht
 · exact Xz h _ _
noncomputable def Yep:Sum thy:=sumR .nil dN (fun r _=>r.ok) fun r _=>r.int
theorem Z34:SumOk E 144 Yep:=Yz (hA:=fun _=>rfl) (hv:=fun _=>rfl) (Zb rfl) fun r _ h=>Z33 r h
theorem Zzb:Zh EL F0 (vc EL F0 400) 83 [] hp0 0 (fun r=>ret EL (patch hp0 0 r) r.v (.psl .strs (WK.words .at_) false))=(WK.words .at_=WK.words .at_):=by kernel_rfl
theorem Zzc:Zh EL F0 (vc EL F0 400) 45 [] hp0 0 (fun r=>ret EL (patch hp0 0 r) r.v (.psl .strs ([]::WK.words .ki) false))=(([]::WK.words .ki)=([]::WK.words .ki)):=by kernel_rfl
theorem Zzd:Zh EL F0 (vc EL F0 400) 152 [] hp0 0 (fun r=>ret EL (patch hp0 0 r) r.v (.psl .strs (WK.words .un) false))=(WK.words .un=WK.words .un):=by kernel_rfl
theorem Zze:Zh EL F0 (vc EL F0 400) 129 [] hp0 0 (fun r=>ret EL (patch hp0 0 r) r.v (.psl .strs (WK.words .ca) false))=(WK.words .ca=WK.words .ca):=by kernel_rfl
theorem Z35:Zh EL F0 (vc EL F0 400) 52 [] hp0 0 (fun r=>ret EL (patch hp0 0 r) r.v (.psl .strs resW false))=(resW=resW):=by kernel_rfl
theorem Zzf:PureC E 83 [] (.psl .strs (WK.words .at_) false):=Ws (n:=400) (by rw [Zzb])
theorem Zzg:PureC E 45 [] (.psl .strs ([]::WK.words .ki) false):=Ws (n:=400) (by rw [Zzc])
theorem Zzh:PureC E 152 [] (.psl .strs (WK.words .un) false):=Ws (n:=400) (by rw [Zzd])
theorem Zzi:PureC E 129 [] (.psl .strs (WK.words .ca) false):=Ws (n:=400) (by rw [Zze])
theorem Z36:PureC E 52 [] (.psl .strs resW false):=Ws (n:=400) (by rw [Z35])
noncomputable def Yeq:Sum thy:=sumP (E:=E) .nil (fun _=>True) fun _=> .psl .strs (WK.words .at_) false
noncomputable def Yer:Sum thy:=sumP (E:=E) .nil (fun _=>True) fun _=> .psl .strs ([]::WK.words .ki) false
noncomputable def Yes:Sum thy:=sumP (E:=E) .nil (fun _=>True) fun _=> .psl .strs (WK.words .un) false
noncomputable def Yet:Sum thy:=sumP (E:=E) .nil (fun _=>True) fun _=> .psl .strs (WK.words .ca) false
noncomputable def Sw15:Sum thy:=sumP (E:=E) .nil (fun _=>True) fun _=> .psl .strs resW false
theorem Z37:SumOk E 83 Yeq:=Zv E_ok (Zb (f:=83) rfl) fun _ _=>Zzf
theorem Z38:SumOk E 45 Yer:=Zv E_ok (Zb (f:=45) rfl) fun _ _=>Zzg
theorem Z39:SumOk E 152 Yes:=Zv E_ok (Zb (f:=152) rfl) fun _ _=>Zzh
theorem Z4a:SumOk E 129 Yet:=Zv E_ok (Zb (f:=129) rfl) fun _ _=>Zzi
theorem Z93:SumOk E 52 Sw15:=Zv E_ok (Zb (f:=52) rfl) fun _ _=>Z36
noncomputable def Aixr:Fr thy->Hp thy->Nat->Ann thy:=fun T h i=>{X:=LX,fr:=fun x=> [(0,T 0),(1,T 1),(5,.int false .i64 x.k)],bl:=fun x=> [],src:=fun _=> [],md:= [],ih:=i,M:=i+30,meas:=fun x=>x.r}
noncomputable def Fixr:Fns thy:=addL F0 53 2 Aixr E
theorem Z94:FnsOk E Fixr:=Zn E_ok F0_ok _ _ _
theorem Z4b (l:List (List Nat)) (s:List Nat) (v:Int):Zh E Fixr (vc E Fixr 400) 53 [.psl Th.strs l false,.str false s] hp0 0 (fun r=>ret E (patch hp0 0 r) r.v (.int false .i64 v))=(
∃(R:LX->Prop),(∃(x:LX),R x/\true=true/\((l=l/\(false=true->false=true))/\s=s/\(0:Int)=(↑(LX.k x):Int)/\True)/\True)/\∀(x:LX),R x->(decide ((↑(LX.k x):Int)<(↑(List.length l):Int))=true->(0:Int)<=(↑(LX.k x):Int)/\(↑(LX.k x):Int)+(1:Int)<=(↑(List.length l):Int)/\∀(x_1:List Nat),l[Int.toNat (↑(LX.k x):Int)]? =some x_1->((x_1==s)=true->(↑(LX.k x):Int)=v)/\((x_1==s)=false->∃(x_2:LX),R x_2/\x_2.2+(1:Nat)<=x.2/\true=true/\((l=l/\(false=true->false=true))/\s=s/\wr IntKind.i64 ((↑(LX.k x):Int)+(1:Int))=(↑(LX.k x_2):Int)/\True)/\True))/\(decide ((↑(LX.k x):Int)<(↑(List.length l):Int))=false->(-1:Int)=v)):=by kernel_rfl
theorem Z4c (l:List (List Nat)) (s:List Nat) (hl:l.length<=1000000000):PureC E 53 [.psl Th.strs l false,.str false s] (.int false .i64 (idxS s 0 l)):=by
 refine Zc E_ok (Ze E_ok Z94 400) ?_
 rw [Z4b]
 simp only [and_true,true_and,decide_eq_true_eq,decide_eq_false_iff_not,beq_iff_eq,beq_eq_false_iff_ne,imp_self]
 refine ⟨fun x=>x.k<=l.length/\idxS s x.k (l.drop x.k)=idxS s 0 l/\x.r=l.length-x.k,⟨⟨0,l.length,[],0⟩,⟨(by dsimp only;omega),rfl,rfl⟩,rfl⟩,?_⟩
 rintro x ⟨hk,hv,hr⟩
 refine And.intro (fun hq=>⟨by omega,by omega,fun y hy=> ?_⟩) (fun hq=> ?_)
 · have hy:l[x.k]? =some y:=hy
   rw [Zl4 hy] at hv
   refine ⟨fun e=> ?_,fun e=> ?_⟩
   · rw [if_pos e.symm] at hv;exact hv
   · rw [if_neg fun h=>e h.symm] at hv
     exact ⟨⟨x.k+1,l.length-(x.k+1),[],0⟩,⟨(by dsimp only;omega),hv,rfl⟩,by show l.length-(x.k+1)+1<=x.r;omega,wr64 (by omega) (by omega)⟩
 · rw [List.drop_eq_nil_of_le (by omega)] at hv
   exact hv
noncomputable def Srix:Sum thy:=Ww (dA2 (Zkd (E:=E) Th.strs:Dc E (List (thy.dom Th.strs))) dS) (fun x=>x.1.length<=1000000000) (fun x=>idxS x.2.1 0 x.1) fun y=> .int false .i64 y
theorem Z95:SumOk E 53 Srix:=Zy E_ok (Zb (f:=53) rfl) fun x h=>Z4c x.1 x.2.1 h
noncomputable def Yg2:Fr thy->Hp thy->Nat->Ann thy:=fun T h i=>{X:=LX,fr:=fun x=> [(0,T 0),(3,T 3),(4,.int false .i64 x.k)],bl:=fun x=> [],src:=fun _=> [],md:= [],ih:=i,M:=i+30,meas:=fun x=>x.r}
noncomputable def Z96:Fns thy:=addL (addS F0 52 Sw15) 112 3 Yg2 E
theorem Z4d:FnsOk E Z96:=Zn E_ok (Za F0_ok Z93) _ _ _
theorem Zzj (s:List Nat) (v:Bool):Zh E Z96 (vc E Z96 400) 112 [.str false s] hp0 0 (fun r=>ret E (patch hp0 0 r) r.v (.bool false v))=(
True/\∃(R:LX->Prop),(∃(x:LX),R x/\true=true/\(s=s/\(resW=resW/\(false=true->false=true))/\(0:Int)=(↑(LX.k x):Int)/\True)/\True)/\∀(x:LX),R x->(decide ((↑(LX.k x):Int)<(↑(List.length resW):Int))=true->(0:Int)<=(↑(LX.k x):Int)/\(↑(LX.k x):Int)+(1:Int)<=(↑(List.length resW):Int)/\∀(x_1:List Nat),resW[Int.toNat (↑(LX.k x):Int)]? =some x_1->((x_1==s)=true->true=v)/\((x_1==s)=false->∃(x_2:LX),R x_2/\x_2.2+(1:Nat)<=x.2/\true=true/\(s=s/\(resW=resW/\(false=true->false=true))/\wr IntKind.i64 ((↑(LX.k x):Int)+(1:Int))=(↑(LX.k x_2):Int)/\True)/\True))/\(decide ((↑(LX.k x):Int)<(↑(List.length resW):Int))=false->false=v)):=by kernel_rfl
theorem Zzk (s:List Nat):PureC E 112 [.str false s] (.bool false (decide (s∈resW))):=by
 refine Zc E_ok (Ze E_ok Z4d 400) ?_
 rw [Zzj]
 have r40:resW.length=40:=by decide
 refine ⟨trivial,fun x=>x.k+x.r=40/\∀i,i<x.k->∀y,resW[i]? =some y->y≠s,⟨⟨0,40,[],0⟩,⟨rfl,fun i h=>absurd h (Nat.not_lt_zero _)⟩,rfl,⟨rfl,⟨rfl,fun h=>h⟩,rfl,trivial⟩,trivial⟩,?_⟩
 rintro x ⟨hk,hv⟩
 refine ⟨fun hq=> ?_,fun hq=> ?_⟩
 · have hq:(x.k:Int)<(resW.length:Int):=of_decide_eq_true hq
   rw [r40] at hq
   refine ⟨by omega,by rw [r40];omega,fun y hy=> ?_⟩
   have hy:resW[x.k]? =some y:=hy
   refine ⟨fun e=> ?_,fun e=> ?_⟩
   · have:y=s:=eq_of_beq e
     subst this
     rw [decide_eq_true (List.mem_of_getElem? hy)]
   · refine ⟨⟨x.k+1,x.r-1,[],0⟩,⟨by show x.k+1+(x.r-1)=40;omega,fun i hi z hz=> ?_⟩,by show x.r-1+1<=x.r;omega,rfl,⟨rfl,⟨rfl,fun h=>h⟩,wr64 (by omega) (by omega),trivial⟩,trivial⟩
     have hi:i<x.k+1:=hi
     by_cases h:i<x.k
     · exact hv i h z hz
     · have:i=x.k:=by omega
       subst this
       rw [hy] at hz;cases hz
       intro e2
       rw [e2] at e
       simp at e
 · have hq:¬(x.k:Int)<(resW.length:Int):=of_decide_eq_false hq
   rw [r40] at hq
   rw [decide_eq_false]
   intro hm
   obtain ⟨i,hi,e⟩:=List.getElem_of_mem hm
   exact hv i (by omega) _ (List.getElem?_eq_getElem hi) e
noncomputable def Yeu:Sum thy:=sumP (dA1 dS) (fun _=>True) fun x=> .bool false (decide (x.1∈resW))
theorem Z4e:SumOk E 112 Yeu:=Zv E_ok (Zb (f:=112) rfl) fun x _=>Zzk x.1
noncomputable def Fr3:Fns thy:=addS (addS (addS (addS Fr2 68 Z7g) 144 Yep) 53 Srix) 112 Yeu
theorem Zzl:FnsOk E Fr3:=Za (Za (Za (Za Zy7 Zy9) Z34) Z95) Z4e
noncomputable def Z4f:Dc E (List (List Nat)):=(Zkd (E:=E) Th.strs:Dc E (List (thy.dom Th.strs)))
def RS.ch (r:RS) (ws:List (List Nat)):Int:=match r.tk with|some t=>if t.kind=1 then idxS t.text 0 ws else-1|none=> -1
def RS.one (r:RS) (ws:List (List Nat)):Int×RS:=if 0<=r.ch ws then (r.ch ws,r.adv) else (0,r.fail 160 r.here)
def RS.name (r:RS):List Nat×RS:=if r.kind 1 then (if (r.l.getD r.p.toNat z0).text∈resW then ([],r.fail 161 r.here) else ((r.l.getD r.p.toNat z0).text,r.adv)) else ([],r.fail 160 r.here)
abbrev qDA3 (a0:Bool×RS):=(Prod.snd a0)
abbrev qDA1 (a0:Bool×RS):=((0:Int)<=RS.p (qDA3 a0)/\RS.p (qDA3 a0)<=(↑(List.length (RS.l (qDA3 a0))):Int)/\List.length (RS.l (qDA3 a0))<=(2000:Nat))
abbrev qDA2 (a0:Bool×RS):=(wr IntKind.i64 (RS.p (qDA3 a0)+(1:Int))-(1:Int))
theorem Zzm (r:RS) (ws:List (List Nat)) (out:PRr Int):Zh E Fr3 (vc E Fr3 400) 70 [.ptr 0 0,.psl Th.strs ws false] (one (dRS.enc r)) 1 (mKr (dA1 Z4f) (fun _=>rfl) dN (fun _=>rfl) r out)=(
 ((0:Int)<=RS.p r/\RS.p r<=(↑(List.length (RS.l r)):Int)/\List.length (RS.l r)<=(2000:Nat))/\∀(y:Bool×RS),y=(RS.kind r (1:Int),r)->((!Prod.fst y)=true->(qDA1 y)/\∀(y_1:Int×RS),y_1=(RS.here (qDA3 y),Prod.snd y)->True/\∀(y:Unit×RS),y=((),RS.fail (Prod.snd y_1) (160:Int) (Prod.fst y_1))->out=Except.ok ((0:Int),Prod.snd y))/\((!Prod.fst y)=false->(0:Int)<=RS.p (qDA3 y)/\RS.p (qDA3 y)+(1:Int)<=(↑(List.length (RS.l (qDA3 y))):Int)/\∀(x:Tok),(RS.l (qDA3 y))[Int.toNat (RS.p (qDA3 y))]? =some x->List.length ws<=(1000000000:Nat)/\∀(y_1:Int),y_1=idxS (Tok.text x) (0:Nat) ws->(decide (y_1<(0:Int))=true->(qDA1 y)/\∀(y_2:Int×RS),y_2=(RS.here (qDA3 y),Prod.snd y)->True/\∀(y:Unit×RS),y=((),RS.fail (Prod.snd y_2) (160:Int) (Prod.fst y_2))->out=Except.ok ((0:Int),Prod.snd y))/\(decide (y_1<(0:Int))=false->(0:Int)<=wr IntKind.i64 (qDA2 y)/\wr IntKind.i64 (qDA2 y)+(1:Int)<=(↑(List.length (RS.l (qDA3 y))):Int)/\∀(x:Tok),(RS.l (qDA3 y))[Int.toNat (wr IntKind.i64 (qDA2 y))]? =some x->List.length ws<=(1000000000:Nat)/\∀(y_2:Int),y_2=idxS (Tok.text x) (0:Nat) ws->out=Except.ok (y_2,RS.mk (RS.l (qDA3 y)) (RS.ed (qDA3 y)) (wr IntKind.i64 (RS.p (qDA3 y)+(1:Int))) (RS.e (qDA3 y)) (RS.wh (qDA3 y)))))):=by kernel_rfl
theorem Znu {r:RS} (ws:List (List Nat)) {t:Tok} (ht:r.tk=some t) (hk:t.kind=1):r.ch ws=idxS t.text 0 ws:=by
 unfold RS.ch
 rw [ht]
 exact if_pos hk
theorem Znv {r:RS} (ws:List (List Nat)) (hk:r.kind 1=false):r.ch ws= -1:=by
 unfold RS.kind at hk
 unfold RS.ch
 cases ht:r.tk with
 |none=>rfl
 |some t=>
  rw [ht] at hk
  exact if_neg (of_decide_eq_false hk)
theorem w2 {r:RS} (h:r.ok):wr .i64 (wr .i64 (r.p+1)-1)=r.p:=by
 obtain ⟨h3,h4,h5⟩:=h
 rw [show wr .i64 (r.p+1)=r.p+1 from wr64 (by omega) (by omega),wr64 (by omega) (by omega)]
 omega
theorem Z4g (r:RS) (ws:List (List Nat)) (h:r.ok) (hw:ws.length<=1000000000):Z9 (mR (dA1 Z4f) (fun _=>rfl) dN (fun _=>rfl)) 70 r (ws,()) (.ok (r.one ws)):=by
 refine Y8 Zzl (n:=400) (a:=(ws,())) ?_
 rw [show (dA1 Z4f).enc (ws,())= [.psl Th.strs ws false] from rfl,Zzm];delta qDA3 qDA1 qDA2
 refine ⟨h,fun y e=> ?_⟩
 subst e
 unfold RS.one
 cases hq:r.kind 1 with
 |true=>
  refine ⟨(fun h=>by cases h),fun _=> ?_⟩
  obtain ⟨t,ht,hk⟩:=Ua hq
  obtain ⟨_,h1,h2⟩:=Zch h ht
  rw [Znu ws ht hk]
  dsimp only
  rw [w2 h]
  have h3:=h.1
  refine ⟨h3,by omega,fun x hx=>⟨hw,fun y hy=> ?_⟩⟩
  rw [h2] at hx;cases hx
  subst hy
  refine ⟨fun hn=>⟨h,fun y e=>by subst e;exact ⟨trivial,fun z e=>by subst e;exact congrArg Except.ok (if_neg (by have:=of_decide_eq_true hn;omega))⟩⟩,fun hn=>⟨h3,by omega,fun x hx=>⟨hw,fun y hy=> ?_⟩⟩⟩
  rw [h2] at hx;cases hx
  subst hy
  rw [Zy4 h ht]
  exact congrArg Except.ok (if_pos (by have:=of_decide_eq_false hn;omega))
 |false=>
  rw [Znv ws hq,if_neg (by decide)]
  exact ⟨fun _=>⟨h,fun y e=>by subst e;exact ⟨trivial,fun z e=>by subst e;rfl⟩⟩,fun h=>by cases h⟩
theorem Zli {r:RS} (h:r.ok) (ws:List (List Nat)):(r.one ws).2.ok:=by
 unfold RS.one
 split
 · rename_i hq
   unfold RS.ch at hq
   split at hq
   · rename_i t ht
     exact Z7 h ht
   · exact absurd hq (by decide)
 · exact Xz h _ _
noncomputable def Yev:Sum thy:=sumR (dA1 Z4f) dN (fun r a=>r.ok/\a.1.length<=1000000000) fun r a=>r.one a.1
theorem Z4h:SumOk E 70 Yev:=Yz (hA:=fun _=>rfl) (hv:=fun _=>rfl) (Zb rfl) fun r a h=>Z4g r a.1 h.1 h.2
theorem Ztw (r:RS) (out:PRr (List Nat)):Zh E Fr3 (vc E Fr3 400) 69 [.ptr 0 0] (one (dRS.enc r)) 1 (mKr .nil n0 dS (fun _=>rfl) r out)=(
((0:Int)<=RS.p r/\RS.p r<=(↑(List.length (RS.l r)):Int)/\List.length (RS.l r)<=(2000:Nat))/\∀(y:Bool×RS),y=(RS.kind r (1:Int),r)->((!Prod.fst y)=true->((0:Int)<=RS.p (Prod.snd y)/\RS.p (Prod.snd y)<=(↑(List.length (RS.l (Prod.snd y))):Int)/\List.length (RS.l (Prod.snd y))<=(2000:Nat))/\∀(y_1:Int×RS),y_1=(RS.here (Prod.snd y),Prod.snd y)->True/\∀(y:Unit×RS),y=((),RS.fail (Prod.snd y_1) (160:Int) (Prod.fst y_1))->out=Except.ok ([],Prod.snd y))/\((!Prod.fst y)=false->(0:Int)<=RS.p (Prod.snd y)/\RS.p (Prod.snd y)+(1:Int)<=(↑(List.length (RS.l (Prod.snd y))):Int)/\∀(x:Tok),(RS.l (Prod.snd y))[Int.toNat (RS.p (Prod.snd y))]? =some x->True/\(decide (Tok.text x∈resW)=true->((0:Int)<=RS.p (Prod.snd y)/\RS.p (Prod.snd y)<=(↑(List.length (RS.l (Prod.snd y))):Int)/\List.length (RS.l (Prod.snd y))<=(2000:Nat))/\∀(y_1:Int×RS),y_1=(RS.here (Prod.snd y),Prod.snd y)->True/\∀(y:Unit×RS),y=((),RS.fail (Prod.snd y_1) (161:Int) (Prod.fst y_1))->out=Except.ok ([],Prod.snd y))/\(decide (Tok.text x∈resW)=false->out=Except.ok (Tok.text x,RS.mk (RS.l (Prod.snd y)) (RS.ed (Prod.snd y)) (wr IntKind.i64 (RS.p (Prod.snd y)+(1:Int))) (RS.e (Prod.snd y)) (RS.wh (Prod.snd y)))))):=by kernel_rfl
theorem Zzn (r:RS) (h:r.ok):Z9 (mR .nil n0 dS (fun _=>rfl)) 69 r () (.ok r.name):=by
 refine Y8 Zzl (n:=400) (a:=()) ?_
 rw [show (DcL.nil (E:=E)).enc ()= [] from rfl,Ztw]
 refine ⟨h,fun y e=> ?_⟩
 subst e
 unfold RS.name
 cases hq:r.kind 1 with
 |true=>
  refine ⟨(fun h=>by cases h),fun _=> ?_⟩
  obtain ⟨t,ht,hk⟩:=Ua hq
  obtain ⟨_,h1,h2⟩:=Zch h ht
  dsimp only
  have h3:=h.1
  refine ⟨h3,by omega,fun x hx=>⟨trivial,?_⟩⟩
  rw [h2] at hx;cases hx
  rw [show r.l.getD r.p.toNat z0=t by rw [List.getD_eq_getElem?_getD,h2];rfl]
  refine ⟨fun hm=>⟨h,fun y e=>by subst e;exact ⟨trivial,fun z e=>by subst e;exact congrArg Except.ok ((if_pos rfl).trans (if_pos (of_decide_eq_true hm)))⟩⟩,fun hm=> ?_⟩
  rw [Zy4 h ht]
  exact congrArg Except.ok ((if_pos rfl).trans (if_neg (of_decide_eq_false hm)))
 |false=>exact ⟨fun _=>⟨h,fun y e=>by subst e;exact ⟨trivial,fun z e=>by subst e;rfl⟩⟩,fun h=>by cases h⟩
theorem Znw {r:RS} (h:r.ok):r.name.2.ok:=by
 unfold RS.name
 split
 · rename_i hq
   obtain ⟨t,ht,_⟩:=Ua hq
   split
   · exact Xz h _ _
   · exact Z7 h ht
 · exact Xz h _ _
noncomputable def Z7h:Sum thy:=sumR .nil dS (fun r _=>r.ok) fun r _=>r.name
theorem Zzo:SumOk E 69 Z7h:=Yz (hA:=fun _=>rfl) (hv:=fun _=>rfl) (Zb rfl) fun r _ h=>Zzn r h
noncomputable def Fr4:Fns thy:=addS (addS (addS (addS (addS (addS Fr3 70 Yev) 69 Z7h) 83 Yeq) 45 Yer) 152 Yes) 129 Yet
theorem Zfl:FnsOk E Fr4:=Za (Za (Za (Za (Za (Za Zzl Z4h) Zzo) Z37) Z38) Z39) Z4a
abbrev qDAf (a0:Int×RS):=(Prod.fst a0)
abbrev qDA9:=(0:Int)
abbrev qDA7 (a0:Int×RS) (b0:Int):=(List.set [qDA9,qDA9,qDA9,qDA9] (Int.toNat (qDAf a0)) (wr IntKind.i64 (b0-(1:Int))))
abbrev qDAd:=(WK.words WK.un)
abbrev qDA6 (a0:Bool×RS):=(qDA9<=RS.p (Prod.snd a0)/\RS.p (Prod.snd a0)<=(↑(List.length (RS.l (Prod.snd a0))):Int)/\List.length (RS.l (Prod.snd a0))<=(2000:Nat))
abbrev qDAc (a0:Bool×RS):=((qDA6 a0)/\List.length qDAd<=(1000000000:Nat))
abbrev qDAb:=(4:Nat)
abbrev qDA8 (a0:Int×RS):=(qDA9<=Prod.fst a0/\Prod.fst a0+(1:Int)<=(↑qDAb:Int))
abbrev qDA4 (a0:Bool×RS) (b0:PRr (List Int)):=(Prod.fst a0=true->True/\(qDAc a0)/\∀(y:Int×RS),y=RS.one (Prod.snd a0) qDAd->(qDA8 y)/\Int.toNat (qDAf y)+(1:Nat)<=qDAb/\∀(x:Int),[qDA9,qDA9,qDA9,qDA9][Int.toNat (qDAf y)]? =some x->(qDA8 y)/\(0:Nat)<=Int.toNat (qDAf y)/\Int.toNat (qDAf y)+(1:Nat)<=qDAb/\∀(x_1:Int),[qDA9,qDA9,qDA9,qDA9][Int.toNat (qDAf y)]? =some x_1->List.length (qDA7 y x)=qDAb/\qDAb=qDAb/\qDAb=qDAb/\b0=Except.ok ([List.getD (qDA7 y x) (0:Nat) qDA9,List.getD (qDA7 y x) (1:Nat) qDA9,List.getD (qDA7 y x) (2:Nat) qDA9,List.getD (qDA7 y x) (3:Nat) qDA9],Prod.snd y))
abbrev qDA5 (a0:Int×RS) (b0:Int):=(List.set [qDA9,qDA9,qDA9,qDA9] (Int.toNat (qDAf a0)) (wr IntKind.i64 (b0+(1:Int))))
abbrev qDAa (a0:Int×RS) (b0:Int) (c0:Int×RS) (d0:Int):=(List.set (qDA5 a0 b0) (Int.toNat (qDAf c0)) (wr IntKind.i64 (d0-(1:Int))))
abbrev qDAe (a0:Bool×RS) (b0:PRr (List Int)):=(Prod.fst a0=false->qDAb=qDAb/\qDAb=qDAb/\qDAb=qDAb/\b0=Except.ok ([qDA9,qDA9,qDA9,qDA9],Prod.snd a0))
theorem Ztx (r:RS) (out:PRr (List Int)):Zh E Fr4 (vc E Fr4 400) 162 [.ptr 0 0] (one (dRS.enc r)) 1 (mKr .nil n0 dDm (fun _=>rfl) r out)=(
 qDAb=qDAb/\(qDA9<=RS.p r/\RS.p r<=(↑(List.length (RS.l r)):Int)/\List.length (RS.l r)<=(2000:Nat))/\∀(y:Bool×RS),y=(RS.kind r (1:Int),r)->(Prod.fst y=true->True/\qDA9<=RS.p (Prod.snd y)/\RS.p (Prod.snd y)+(1:Int)<=(↑(List.length (RS.l (Prod.snd y))):Int)/\∀(x:Tok),(RS.l (Prod.snd y))[Int.toNat (RS.p (Prod.snd y))]? =some x->List.length qDAd<=(1000000000:Nat)/\∀(y_1:Int),y_1=idxS (Tok.text x) (0:Nat) qDAd->(decide (y_1>=qDA9)=true->True/\(qDAc y)/\∀(y_2:Int×RS),y_2=RS.one (Prod.snd y) qDAd->(qDA8 y_2)/\Int.toNat (qDAf y_2)+(1:Nat)<=qDAb/\∀(x:Int),[qDA9,qDA9,qDA9,qDA9][Int.toNat (qDAf y_2)]? =some x->(qDA8 y_2)/\(0:Nat)<=Int.toNat (qDAf y_2)/\Int.toNat (qDAf y_2)+(1:Nat)<=qDAb/\∀(x_1:Int),[qDA9,qDA9,qDA9,qDA9][Int.toNat (qDAf y_2)]? =some x_1->(qDA9<=RS.p (Prod.snd y_2)/\RS.p (Prod.snd y_2)<=(↑(List.length (RS.l (Prod.snd y_2))):Int)/\List.length (RS.l (Prod.snd y_2))<=(2000:Nat))/\∀(y:Bool×RS),y=RS.take (Prod.snd y_2) [(112:Nat),(101:Nat),(114:Nat)]->(Prod.fst y=true->True/\(qDAc y)/\∀(y_3:Int×RS),y_3=RS.one (Prod.snd y) qDAd->(qDA8 y_3)/\Int.toNat (qDAf y_3)+(1:Nat)<=List.length (qDA5 y_2 x)/\∀(x_2:Int),(qDA5 y_2 x)[Int.toNat (qDAf y_3)]? =some x_2->(qDA8 y_3)/\(0:Nat)<=Int.toNat (qDAf y_3)/\Int.toNat (qDAf y_3)+(1:Nat)<=List.length (qDA5 y_2 x)/\∀(x_3:Int),(qDA5 y_2 x)[Int.toNat (qDAf y_3)]? =some x_3->List.length (qDAa y_2 x y_3 x_2)=qDAb/\qDAb=qDAb/\qDAb=qDAb/\out=Except.ok ([List.getD (qDAa y_2 x y_3 x_2) (0:Nat) qDA9,List.getD (qDAa y_2 x y_3 x_2) (1:Nat) qDA9,List.getD (qDAa y_2 x y_3 x_2) (2:Nat) qDA9,List.getD (qDAa y_2 x y_3 x_2) (3:Nat) qDA9],Prod.snd y_3))/\(Prod.fst y=false->List.length (qDA5 y_2 x)=qDAb/\qDAb=qDAb/\qDAb=qDAb/\out=Except.ok ([List.getD (qDA5 y_2 x) (0:Nat) qDA9,List.getD (qDA5 y_2 x) (1:Nat) qDA9,List.getD (qDA5 y_2 x) (2:Nat) qDA9,List.getD (qDA5 y_2 x) (3:Nat) qDA9],Prod.snd y)))/\(decide (y_1>=qDA9)=false->(qDA6 y)/\∀(y_2:Bool×RS),y_2=RS.take (Prod.snd y) [(112:Nat),(101:Nat),(114:Nat)]->(qDA4 y_2 out)/\(qDAe y_2 out)))/\(Prod.fst y=false->(qDA6 y)/\∀(y_1:Bool×RS),y_1=RS.take (Prod.snd y) [(112:Nat),(101:Nat),(114:Nat)]->(qDA4 y_1 out)/\(qDAe y_1 out))):=by kernel_rfl
def RS.unit (r:RS):List Int×RS:=
 let d:=if 0<=r.ch WK.un.words then incD [0,0,0,0] (r.ch WK.un.words) else [0,0,0,0]
 let r1:=if 0<=r.ch WK.un.words then r.adv else r
 if (r1.take sPer).1 then (decD d ((r1.take sPer).2.one WK.un.words).1,((r1.take sPer).2.one WK.un.words).2) else (d,(r1.take sPer).2)
theorem Yew (r:RS) {ws:List (List Nat)} (h:0<ws.length):0<=(r.one ws).1/\(r.one ws).1<ws.length:=by
 unfold RS.one
 split
 · rename_i h2
   refine ⟨h2,?_⟩
   unfold RS.ch at h2⊢
   split
   · rename_i t _
     split
     · have:=Zju (s:=t.text) (l:=ws) (k:=0)
       simpa using this
     · omega
   · omega
 · exact ⟨Int.le_refl 0,by show (0:Int)<_;omega⟩
theorem Yex (r:RS) {ws:List (List Nat)} (h:0<ws.length):r.ch ws<ws.length:=by
 unfold RS.ch
 split
 · rename_i t _
   split
   · have:=Zju (s:=t.text) (l:=ws) (k:=0)
     simpa using this
   · omega
 · omega
theorem l4 {d:List Int} (h:d.length=4): [List.getD d 0 (0:Int),List.getD d 1 (0:Int),List.getD d 2 (0:Int),List.getD d 3 (0:Int)]=d:=by
 match d,h with
 | [a,b,c,e],_=>rfl
theorem Zfm {r:RS} (h:r.ok) {d:List Int} (hd:d.length=4) (hb:∀x∈d,-1<=x/\x<=1) {out:PRr (List Int)} (ho:out= .ok (if (r.take sPer).1 then (decD d ((r.take sPer).2.one WK.un.words).1,((r.take sPer).2.one WK.un.words).2) else (d,(r.take sPer).2))):
 ((0:Int)<=RS.p r/\RS.p r<=(↑(List.length (RS.l r)):Int)/\List.length (RS.l r)<=(2000:Nat))/\∀(y:Bool×RS),y=RS.take r [(112:Nat),(101:Nat),(114:Nat)]->(Prod.fst y=true->True/\(((0:Int)<=RS.p (Prod.snd y)/\RS.p (Prod.snd y)<=(↑(List.length (RS.l (Prod.snd y))):Int)/\List.length (RS.l (Prod.snd y))<=(2000:Nat))/\List.length (WK.words WK.un)<=(1000000000:Nat))/\∀(y_3:Int×RS),y_3=RS.one (Prod.snd y) (WK.words WK.un)->((0:Int)<=Prod.fst y_3/\Prod.fst y_3+(1:Int)<=(↑(4:Nat):Int))/\Int.toNat (Prod.fst y_3)+(1:Nat)<=List.length d/\∀(x_2:Int),d[Int.toNat (Prod.fst y_3)]? =some x_2->((0:Int)<=Prod.fst y_3/\Prod.fst y_3+(1:Int)<=(↑(4:Nat):Int))/\(0:Nat)<=Int.toNat (Prod.fst y_3)/\Int.toNat (Prod.fst y_3)+(1:Nat)<=List.length d/\∀(x_3:Int),d[Int.toNat (Prod.fst y_3)]? =some x_3->List.length (List.set d (Int.toNat (Prod.fst y_3)) (wr IntKind.i64 (x_2-(1:Int))))=(4:Nat)/\(4:Nat)=(4:Nat)/\(4:Nat)=(4:Nat)/\out=Except.ok ([List.getD (List.set d (Int.toNat (Prod.fst y_3)) (wr IntKind.i64 (x_2-(1:Int)))) 0 (0:Int),List.getD (List.set d (Int.toNat (Prod.fst y_3)) (wr IntKind.i64 (x_2-(1:Int)))) 1 (0:Int),List.getD (List.set d (Int.toNat (Prod.fst y_3)) (wr IntKind.i64 (x_2-(1:Int)))) 2 (0:Int),List.getD (List.set d (Int.toNat (Prod.fst y_3)) (wr IntKind.i64 (x_2-(1:Int)))) 3 (0:Int)],Prod.snd y_3))/\(Prod.fst y=false->List.length d=(4:Nat)/\(4:Nat)=(4:Nat)/\(4:Nat)=(4:Nat)/\out=Except.ok ([List.getD d 0 (0:Int),List.getD d 1 (0:Int),List.getD d 2 (0:Int),List.getD d 3 (0:Int)],Prod.snd y)):=by
 refine ⟨h,fun y e=> ?_⟩
 have hs: [(112:Nat),(101:Nat),(114:Nat)]=sPer:=rfl
 rw [hs] at e
 have hk:=Ub h sPer
 rw [<-e] at ho hk
 refine ⟨fun hy=>⟨trivial,⟨hk,by decide⟩,fun y_3 e3=> ?_⟩,fun hy=>⟨hd,rfl,rfl,?_⟩⟩
 · rw [if_pos hy,<-e3] at ho
   have h4:WK.un.words.length=4:=rfl
   obtain ⟨g1,g2⟩:=Yew y.2 (ws:=WK.un.words) (by decide)
   rw [<-e3] at g1 g2
   rw [h4] at g2
   refine ⟨⟨g1,by omega⟩,by omega,fun x2 hx=>⟨⟨g1,by omega⟩,Nat.zero_le _,by omega,fun x3 _=>⟨by rw [List.length_set];exact hd,rfl,rfl,?_⟩⟩⟩
   rw [l4 (by rw [List.length_set];exact hd),ho]
   have hb2:=hb x2 (List.mem_of_getElem? hx)
   unfold decD
   rw [show wr .i64 (x2-1)=x2-1 from wr64 (by omega) (by omega),List.getD_eq_getElem?_getD,hx]
   rfl
 · rw [ho,if_neg (by rw [hy];decide),l4 hd]
theorem Zzp (r:RS) (h:r.ok):Z9 (mR .nil n0 dDm (fun _=>rfl)) 162 r () (.ok r.unit):=by
 refine Y8 Zfl (n:=400) (a:=()) ?_
 rw [show (DcL.nil (E:=E)).enc ()= [] from rfl,Ztx];delta qDAf qDA9 qDA7 qDAd qDA6 qDAc qDAb qDA8 qDA4 qDA5 qDAa qDAe
 have hz:∀x∈ [(0:Int),0,0,0],-1<=x/\x<=1:=by decide
 refine ⟨rfl,h,fun y e=> ?_⟩
 subst e
 unfold RS.unit
 cases hq:r.kind 1 with
 |true=>
  refine ⟨fun _=> ?_,fun h=>by cases h⟩
  obtain ⟨t,ht,hk⟩:=Ua hq
  obtain ⟨_,h1,h2⟩:=Zch h ht
  have h3:=h.1
  refine ⟨trivial,h3,by dsimp only;omega,fun x hx=>⟨by decide,fun i hi=> ?_⟩⟩
  rw [h2] at hx;cases hx
  have hc:=Znu WK.un.words ht hk
  rw [<-hi] at hc
  refine ⟨fun hb=> ?_,fun hb=> ?_⟩
  · have hb:0<=i:=of_decide_eq_true hb
    refine ⟨trivial,⟨h,by decide⟩,fun y e=> ?_⟩
    have e1:r.one WK.un.words=(i,r.adv):=by
     unfold RS.one
     rw [hc,if_pos hb]
    have e:y=(i,r.adv):=e.trans e1
    subst e
    have h4:WK.un.words.length=4:=rfl
    have hlt:=Yex r (ws:=WK.un.words) (by decide)
    rw [hc,h4] at hlt
    refine ⟨⟨hb,by dsimp only;omega⟩,by dsimp only;omega,fun x hx=>⟨⟨hb,by dsimp only;omega⟩,Nat.zero_le _,by dsimp only;omega,fun x1 _=> ?_⟩⟩
    have hx0:x=0:=by
     have:=List.mem_of_getElem? hx
     simpa using this
    subst hx0
    have hD: [(0:Int),0,0,0].set i.toNat (wr .i64 (0+1))=incD [0,0,0,0] i:=by
     unfold incD
     rw [List.getD_eq_getElem?_getD,show [(0:Int),0,0,0][i.toNat]? =some 0 from hx]
     rfl
    dsimp only
    rw [hD,hc,if_pos hb,if_pos hb]
    refine Zfm (Z7 h ht) (by unfold incD;rw [List.length_set];rfl) (fun z hz2=> ?_) rfl
    unfold incD at hz2
    rw [List.getD_eq_getElem?_getD,show [(0:Int),0,0,0][i.toNat]? =some 0 from hx] at hz2
    rcases List.mem_or_eq_of_mem_set hz2 with h|h
    · exact hz z h
    · subst h;decide
  · have hb:¬0<=i:=of_decide_eq_false hb
    rw [hc,if_neg hb,if_neg hb]
    exact Zfm (d:= [0,0,0,0]) h rfl hz rfl
 |false=>
  refine ⟨(fun h=>by cases h),fun _=> ?_⟩
  have hc:=Znv WK.un.words hq
  have hn:¬(0:Int)<= -1:=by decide
  rw [hc,if_neg hn,if_neg hn]
  exact Zfm (d:= [0,0,0,0]) h rfl hz rfl
theorem Z97 {r:RS} (h:r.ok):r.unit.2.ok:=by
 unfold RS.unit
 dsimp only
 have h1:(if 0<=r.ch WK.un.words then r.adv else r).ok:=by
  split
  · rename_i hq
    unfold RS.ch at hq
    split at hq
    · rename_i t ht
      exact Z7 h ht
    · exact absurd hq (by decide)
  · exact h
 generalize (if 0<=r.ch WK.un.words then r.adv else r)=q at h1⊢
 generalize (if 0<=r.ch WK.un.words then incD [0,0,0,0] (r.ch WK.un.words) else [0,0,0,0])=d
 split
 · exact Zli (Ub h1 _) _
 · exact Ub h1 _
noncomputable def Z7i:Sum thy:=sumR .nil dDm (fun r _=>r.ok) fun r _=>r.unit
theorem Zzq:SumOk E 162 Z7i:=Yz (hA:=fun _=>rfl) (hv:=fun _=>rfl) (Zb rfl) fun r _ h=>Zzp r h
end
end Go.Proofs.YtbepgmadijomjaaGreatDoor
