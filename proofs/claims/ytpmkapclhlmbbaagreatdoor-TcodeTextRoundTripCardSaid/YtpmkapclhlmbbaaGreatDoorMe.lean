/- Merged texts: EngZL, TpM, TcA, TcB, EngZM, TtI, TcC, TcE, TcD, TpP0, TcG, TcV, TcF, TcH, TcI, TcJ, TcT, TcU, TcW, TcM, TcL, TcMa, TcSp, TcTx, TcPr. -/
import Derived.Lib.ItoaNum
import Derived.Lib.Split
import Derived.Shelf.Strings.Builder1
import Derived.WalkKit
import Derived.BigCall
import Derived.Deep.Slices
import Derived.Shelf.Strings.Count
import Derived.Shelf.Strconv.AtoiAll
import Derived.Shelf.Strconv.Itoa3
import Derived.Test.YtpmkapclhlmbbaaGreatDoorMd
noncomputable section
namespace Go.Proofs.YtpmkapclhlmbbaaGreatDoor
set_option linter.unusedVariables false
set_option linter.unusedSimpArgs false
set_option linter.unnecessarySimpa false
set_option maxRecDepth 100000
section
open Go.RowKit
section
variable {Y:Thy} {E:Eng Y}
def frzH (h:Hp Y) (bs:List Nat):Hp Y:=fun b=>match memB b bs with|true=>frzB (h b)|false=>h b
def frzA (E:Eng Y) (gth:List (SV Y)->Option Y.Th) (n:Nat) (S:Sum Y):Sum Y:=fun args h i k=>
 match args with
 |a::rest=>frzL (frzK E gth h n) rest fun rest' bs=>S (a::rest') (frzH h bs) i fun r=>Wq (bs++r.mods) fun m=>k ⟨r.v,r.n,m,patch (frzH h bs) i r,none⟩
 | []=>False
theorem Zay {h:Hp Y} {bs:List Nat} {b:Nat} (hb:frzH h bs b≠none):h b≠none:=by
 intro e
 apply hb
 unfold frzH
 rw [e]
 cases memB b bs<;>rfl
theorem Zyl {h:Hp Y} {bs:List Nat} {b:Nat} (hb:b∉bs):frzH h bs b=h b:=by
 unfold frzH
 cases hm:memB b bs with
 |true=>exact absurd (memB_iff.1 hm) hb
 |false=>rfl
theorem Uo (h:Hp Y) (bs:List Nat) (i:Nat) (r:Res Y):patch h i ⟨r.v,r.n,bs++r.mods,patch (frzH h bs) i r,none⟩=patch (frzH h bs) i r:=by
 funext b
 rw [Zf]
 by_cases c:b∈bs++r.mods\/(i<=b/\b<i+r.n)
 · rw [if_pos c]
 · rw [if_neg c,Zf]
   have c1:b∉bs:=fun h=>c (.inl (List.mem_append_left _ h))
   rw [if_neg (fun h=>c (h.elim (fun h=> .inl (List.mem_append_right _ h)) .inr)),Zyl c1]
theorem Zgv {h:Hp Y} {bs:List Nat} {i n:Nat} {mods:List Nat} {σ σ':Pl} {g g':GH} {w w':World} {B:Nat} (hI:Inv E B σ h g w) (hS:Stp i n mods σ (frzG E h σ bs g w) w σ' g' w'):Stp i n (bs++mods) σ g w σ' g' w':=by
 refine ⟨hS.sig,hS.snew,(W8 hI).trans hS.gle,fun r o v hv=> ?_,hS.gmnew,fun r hr hx=>hS.heap r hr fun b hb=>hx b (List.mem_append_right _ hb),hS.size,hS.os,hS.tape,hS.output,fun b r z h1 h2=> ?_⟩
 · rcases hS.gcnew r o v hv with h1|h1|⟨b,hb,h1⟩
   · rcases Vz h1 with ⟨_,b,hb,z,x,h2,_⟩|h2
     · exact .inr (.inr ⟨b,List.mem_append_left _ hb,z,h2⟩)
     · exact .inl h2
   · exact .inr (.inl h1)
   · exact .inr (.inr ⟨b,List.mem_append_right _ hb,h1⟩)
 · rcases hS.blk b r z h1 h2 with h3|⟨b',hb',h3⟩
   · exact .inl h3
   · exact .inr ⟨b',List.mem_append_right _ hb',h3⟩
theorem Z26 (hE:EngOk E) {gth:List (SV Y)->Option Y.Th} {n:Nat} {f:Nat} {S:Sum Y} (hS:SumOk E f S):SumOk E f (frzA E gth n S):=by
 refine ⟨hS.good,fun args h i k hD hk=> ?_⟩
 unfold frzA at hk
 split at hk
 case h_2=>exact hk.elim
 rename_i a rest
 obtain ⟨rest',bs,hk,o⟩:=Wn (Vy hE n) hk
 obtain ⟨r,hk,hR,htri⟩:=hS.ok (a::rest') (frzH h bs) i _ (fun b hb=>hD b (Zay hb)) hk
 rw [Y1] at hk
 have args2:∀(B:Nat) (σ:Pl) (g:GH) (w:World) (vals:List Value),Inv E B σ h g w->DenL E σ g (a::rest) vals->DenL E σ (frzG E h σ bs g w) (a::rest') vals:=by
  intro B σ g w vals hI hd
  have hle:=W8 (bs:=bs) hI
  refine ⟨by rw [<-hd.1];simp [o.len],fun j sv' u h1 h2=> ?_⟩
  cases j with
  |zero=>
   simp at h1;subst h1
   exact (hd.2 0 _ u rfl h2).mono (.refl _) hle
  |succ j=>
   have h1:rest'[j]? =some sv':=by simpa using h1
   have hjl:j<rest.length:=by rw [<-o.len];exact (gA9.1 h1).1
   exact (o.den h σ g w B _ (fun _ _=>rfl) hI hle Za0 j _ sv' u (gB9 hjl) h1 (hd.2 (j+1) _ u (by simpa using gB9 hjl) h2)).mono (fun b p h=>by cases h) (.refl _)
 refine ⟨_,hk,fun b hb=> ?_,?_⟩
 · have hb:b∈bs++r.mods:=hb
   rcases List.mem_append.1 hb with h1|h1
   · obtain ⟨y,hy,_⟩:=o.blk b h1
     rw [hy];simp
   · exact Zay (hR b h1)
 rcases htri with ht|⟨p,hp,ht⟩
 · refine .inl ?_
   intro B σ g w vals hh hrd hI hB hfree hd
   obtain rfl:hh=h:=funext fun b=>hrd b trivial
   refine (ht B σ _ w vals (frzH hh bs) (fun _ _=>rfl) (Zdh hE o.blk hI) hB hfree (args2 B σ g w _ hI hd)).mono ?_
   rintro en w' ⟨u,he,σ',g',hst,hI',hv⟩
   refine ⟨u,he,σ',g',Zgv hI hst,?_,hv⟩
   rw [Uo]
   exact hI'
 · refine .inr ⟨p,hp,fun B σ g w vals hI hB hfree hd=> ?_⟩
   refine (ht B σ _ w vals (Zdh hE o.blk hI) hB hfree (args2 B σ g w _ hI hd)).mono ?_
   rintro en w' ⟨he,σ',g',hst,hI'⟩
   refine ⟨he,σ',g',Zgv hI hst,?_⟩
   rw [Uo]
   exact hI'
def Zfi (E:Eng Y) (gth:List (SV Y)->Option Y.Th) (n:Nat) (S:Sum Y):Sum Y:=fun args h i k=>
 frzL (frzK E gth h n) args fun rest' bs=>S rest' (frzH h bs) i fun r=>Wq (bs++r.mods) fun m=>k ⟨r.v,r.n,m,patch (frzH h bs) i r,none⟩
theorem Zaz (hE:EngOk E) {gth:List (SV Y)->Option Y.Th} {n:Nat} {f:Nat} {S:Sum Y} (hS:SumOk E f S):SumOk E f (Zfi E gth n S):=by
 refine ⟨hS.good,fun args h i k hD hk=> ?_⟩
 unfold Zfi at hk
 obtain ⟨rest',bs,hk,o⟩:=Wn (Vy hE n) hk
 obtain ⟨r,hk,hR,htri⟩:=hS.ok rest' (frzH h bs) i _ (fun b hb=>hD b (Zay hb)) hk
 rw [Y1] at hk
 have args2:∀(B:Nat) (σ:Pl) (g:GH) (w:World) (vals:List Value),Inv E B σ h g w->DenL E σ g args vals->DenL E σ (frzG E h σ bs g w) rest' vals:=by
  intro B σ g w vals hI hd
  have hle:=W8 (bs:=bs) hI
  refine ⟨by rw [<-hd.1];exact o.len,fun j sv' u h1 h2=> ?_⟩
  have hjl:j<args.length:=by rw [<-o.len];exact (gA9.1 h1).1
  exact (o.den h σ g w B _ (fun _ _=>rfl) hI hle Za0 j _ sv' u (gB9 hjl) h1 (hd.2 j _ u (gB9 hjl) h2)).mono (fun b p h=>by cases h) (.refl _)
 refine ⟨_,hk,fun b hb=> ?_,?_⟩
 · have hb:b∈bs++r.mods:=hb
   rcases List.mem_append.1 hb with h1|h1
   · obtain ⟨y,hy,_⟩:=o.blk b h1
     rw [hy];simp
   · exact Zay (hR b h1)
 rcases htri with ht|⟨p,hp,ht⟩
 · refine .inl ?_
   intro B σ g w vals hh hrd hI hB hfree hd
   obtain rfl:hh=h:=funext fun b=>hrd b trivial
   refine (ht B σ _ w vals (frzH hh bs) (fun _ _=>rfl) (Zdh hE o.blk hI) hB hfree (args2 B σ g w _ hI hd)).mono ?_
   rintro en w' ⟨u,he,σ',g',hst,hI',hv⟩
   refine ⟨u,he,σ',g',Zgv hI hst,?_,hv⟩
   rw [Uo]
   exact hI'
 · refine .inr ⟨p,hp,fun B σ g w vals hI hB hfree hd=> ?_⟩
   refine (ht B σ _ w vals (Zdh hE o.blk hI) hB hfree (args2 B σ g w _ hI hd)).mono ?_
   rintro en w' ⟨he,σ',g',hst,hI'⟩
   refine ⟨he,σ',g',Zgv hI hst,?_⟩
   rw [Uo]
   exact hI'
end
end
section
open Go
def Ztn:Sum thy:=Vl (dA1 dS) (fun _=>True) (fun x=>Y0 x.1) fun y=> .tup [.psl Th.toks y.1 false,.int false .i64 y.2.1,.int false .i64 y.2.2]
theorem Zp3:SumOk E 83 Ztn:=Zz E_ok (Zb (f:=83) rfl) fun x _=>Znk x.1
def Zto:Sum thy:=frzA E (fun _=>none) 2 (sumM (mI (dA1 dCls) (n1 fun _=>rfl) dCl (fun _=>rfl)) (fun x a=>x.1.length<1000000000/\a.1.length<=1000000000) fun x a=>Xg a.1 x.1 x.2.1)
theorem Zp4:SumOk E 90 Zto:=Z26 E_ok (Y9 E_ok (Zb rfl) fun x a h=>Zql a.1 x.1 x.2.1 h.1 h.2)
structure QX where
 cs:List Cls
 fz:Nat
 l:List Tok
 ed:Int
 p:Int
 k:Nat
def Apa:Fr thy->Hp thy->Nat->Ann thy:=fun T h i=>{X:=Bool×QX,fr:=fun x=> [(0,T 0),(2,T 2),(3,T 3),(4,T 4),(6,T 6),(7,.int false .i64 x.2.p)],bl:=fun x=>(bOf (T 6),.raw [.psl Th.toks x.2.l false,.int false .i64 x.2.ed] 0 none)::(bOf (T 2),.raw ((cellsOf h (T 2)).take 2++ [match x.1 with|true=> .sl i 0 x.2.cs.length 9 none|false=> .val (.slice none 0 0)]) 0 none)::((match x.1 with|true=> [(i,.rows Th.clauses x.2.cs x.2.fz)]|false=> [])++(blkP h (T 3)++blkP h (T 4))),src:=fun x=>(match x.1 with|true=> [(i,3002)]|false=> []),md:= [bOf (T 6),bOf (T 2)],ih:=i+1,M:=i+60,meas:=fun x=>x.2.k,ex:=ex2,al:=al2,exOk:=Zi9,alOk:=Zja}
def Fpa:Fns thy:=addL (addS (addS (addS Fme 88 Zy4) 83 Ztn) 90 Zto) 51 12 Apa E
theorem Z5p:FnsOk E Fpa:=Zt E_ok (Zc (Zc (Zc Zdu Zod) Zp3) Zp4) _ _ _
abbrev qBW1 (a0:Tar):=([]=Tar.name a0/\(0:Int)=Tar.for_ a0/\Tar.clauses a0= []/\True)
abbrev qBW8:=(0:Nat)
abbrev qBW2 (a0:List Nat) (b0:Int) (c0:QX):=(a0=a0/\qBW8=qBW8/\qBW8=qBW8/\qBW8=qBW8/\qBW8=qBW8/\b0=QX.p c0/\True)
abbrev qBW3 (a0:PX) (b0:QX):=((Prod.fst a0=QX.l b0/\(false=true->false=true))/\Prod.fst (Prod.snd a0)=QX.ed b0/\True)
abbrev qBW4 (a0:List Tok×Int×Int):=(Prod.fst (Prod.snd a0)=Prod.fst (Prod.snd a0)/\True)
abbrev qBW5 (a0:List Tok×Int×Int):=(Prod.snd (Prod.snd a0)=Prod.snd (Prod.snd a0)/\True)
abbrev qBW6 (a0:Cls):=(Ex.mk (Ex.op (Cls.pay a0)) (Ex.n (Cls.pay a0)) (Ex.d0 (Cls.pay a0)) (Ex.d1 (Cls.pay a0)) (Ex.d2 (Cls.pay a0)) (Ex.d3 (Cls.pay a0)) (Ex.l (Cls.pay a0)))
abbrev qBWa (a0:QX):=(List.tail (QX.l a0))
abbrev qBW7 (a0:QX):=((↑(List.length (qBWa a0)):Int)>(0:Int))
abbrev qBW9 (a0:QX):=(List.length (QX.cs a0))
abbrev qBWb (a0:PX):=(Prod.fst (Prod.snd a0))
abbrev qBWc (a0:QX):=(List.take (qBW9 a0) (List.drop qBW8 (QX.cs a0)))
abbrev qBWd (a0:Int):=((1:Int)+a0)
theorem Zp5 (s:List Nat) (t:Tar) (a e:Int):Zi E Fpa (vc E Fpa 400) 51 [.str false s] hp0 0 (fun r=>ret E (patch hp0 0 r) r.v (.tup [.agg [.str false t.name,.int false .i64 t.for_,.psl Th.clauses t.clauses false],.int false .i64 a,.int false .i64 e]))=(
 True/\∀(y:List Tok×Int×Int),y=Y0 s->((Prod.snd (Prod.snd y) !=(0:Int))=true->(qBW1 t)/\Prod.fst (Prod.snd y)=a/\Prod.snd (Prod.snd y)=e/\True)/\((Prod.snd (Prod.snd y) !=(0:Int))=false->(isW [(116:Nat),(97:Nat),(114:Nat),(105:Nat),(102:Nat),(102:Nat)] (Prod.fst y)=true->True/\(∀(y_1:List Nat) (x':PX),Zdj (List.tail (Prod.fst y)) (↑(List.length s):Int)=Except.ok (y_1,x')->(isW [(102:Nat),(111:Nat),(114:Nat)] (Prod.fst x')=true->(WK.ki=WK.at_\/WK.ki=WK.ki\/WK.ki=WK.un)/\(∀(y_2:Int) (x'_1:PX),X1 (WK.words WK.ki) (List.tail (Prod.fst x')) (qBWb x')=Except.ok (y_2,x'_1)->(isW [(123:Nat)] (Prod.fst x'_1)=true->∀(y_3:Int),y_3=hdT (qBWb x'_1) (List.tail (Prod.fst x'_1))->∃(R:Bool×QX->Prop),((∃(y_4:QX),R (false,y_4)/\true=true/\(qBW2 s y_3 y_4)/\((List.tail (Prod.fst x'_1)=QX.l y_4/\(false=true->false=true))/\Prod.fst (Prod.snd x'_1)=QX.ed y_4/\True)/\(y_1=y_1/\wr IntKind.i64 (qBWd y_2)=wr IntKind.i64 (qBWd y_2)/\Value.slice none qBW8 qBW8=Value.slice none qBW8 qBW8/\True)/\(qBW4 y)/\(qBW5 y)/\True)\/∃(y:QX),R (true,y)/\true=true/\False)/\(∀(y_4:QX),R (false,y_4)->(isW [(99:Nat),(108:Nat),(97:Nat),(117:Nat),(115:Nat),(101:Nat)] (QX.l y_4)=true->(List.length (qBWa y_4)+(1:Nat)<=(1000000000:Nat)/\qBW8<=(1000000000:Nat))/\(∀(y_5:Cls) (x':PX),Xg [] (qBWa y_4) (QX.ed y_4)=Except.ok (y_5,x')->∀(y_6:Int),y_6=hdT (qBWb x') (Prod.fst x')->(∃(y_7:QX),R (false,y_7)/\y_7.6+(1:Nat)<=y_4.6/\true=true/\(qBW2 s y_6 y_7)/\(qBW3 x' y_7)/\(y_1=y_1/\wr IntKind.i64 (qBWd y_2)=wr IntKind.i64 (qBWd y_2)/\False/\True)/\(qBW4 y)/\(qBW5 y)/\True)\/∃(y_7:QX),R (true,y_7)/\y_7.6+(1:Nat)<=y_4.6/\true=true/\(qBW2 s y_6 y_7)/\(qBW3 x' y_7)/\(y_1=y_1/\wr IntKind.i64 (qBWd y_2)=wr IntKind.i64 (qBWd y_2)/\(qBW8=qBW8/\(1:Nat)=List.length (QX.cs y_7)/\True)/\True)/\([Cls.mk (Cls.name y_5) (Cls.when_ y_5) (qBW6 y_5)]=QX.cs y_7/\qBW8=QX.fz y_7)/\(qBW4 y)/\(qBW5 y)/\True)/\∀(e_1:Int×Int),Xg [] (qBWa y_4) (QX.ed y_4)=Except.error e_1->(qBW1 t)/\Prod.fst e_1=a/\Prod.snd e_1=e/\True)/\(isW [(99:Nat),(108:Nat),(97:Nat),(117:Nat),(115:Nat),(101:Nat)] (QX.l y_4)=false->(isW [(125:Nat)] (QX.l y_4)=true->(decide (qBW7 y_4)=true->∀(y:Int),y=hdT (QX.ed y_4) (qBWa y_4)->(qBW1 t)/\y=a/\(160:Int)=e/\True)/\(decide (qBW7 y_4)=false->(y_1=Tar.name t/\wr IntKind.i64 (qBWd y_2)=Tar.for_ t/\Tar.clauses t= []/\True)/\(0:Int)=a/\(0:Int)=e/\True))/\(isW [(125:Nat)] (QX.l y_4)=false->(qBW1 t)/\hdT (QX.ed y_4) (QX.l y_4)=a/\(160:Int)=e/\True)))/\∀(y_4:QX),R (true,y_4)->(isW [(99:Nat),(108:Nat),(97:Nat),(117:Nat),(115:Nat),(101:Nat)] (QX.l y_4)=true->(((↑(qBW9 y_4):Int)==(64:Int))=true->(qBW1 t)/\QX.p y_4=a/\(2:Int)=e/\True)/\(((↑(qBW9 y_4):Int)==(64:Int))=false->qBW8+List.length (QX.cs y_4)<=List.length (QX.cs y_4)/\(List.length (qBWa y_4)+(1:Nat)<=(1000000000:Nat)/\List.length (qBWc y_4)<=(1000000000:Nat))/\(∀(y_5:Cls) (x':PX),Xg (qBWc y_4) (qBWa y_4) (QX.ed y_4)=Except.ok (y_5,x')->(List.length (QX.cs y_4)<=List.length (QX.cs y_4)/\mx2 (QX.fz y_4) (qBW9 y_4)<=List.length (QX.cs y_4)/\(List.length (QX.cs y_4)+(1:Nat))*(112:Nat)<=(140737488355328:Nat))/\∀(y_6:Int),y_6=hdT (qBWb x') (Prod.fst x')->(∃(y_7:QX),R (false,y_7)/\y_7.6+(1:Nat)<=y_4.6/\true=true/\(qBW2 s y_6 y_7)/\(qBW3 x' y_7)/\(y_1=y_1/\wr IntKind.i64 (qBWd y_2)=wr IntKind.i64 (qBWd y_2)/\False/\True)/\(qBW4 y)/\(qBW5 y)/\True)\/∃(y_7:QX),R (true,y_7)/\y_7.6+(1:Nat)<=y_4.6/\true=true/\(qBW2 s y_6 y_7)/\(qBW3 x' y_7)/\(y_1=y_1/\wr IntKind.i64 (qBWd y_2)=wr IntKind.i64 (qBWd y_2)/\
(qBW8=qBW8/\List.length (QX.cs y_4)+(1:Nat)=List.length (QX.cs y_7)/\True)/\True)/\(List.take (qBW9 y_4) (QX.cs y_4)++ [Cls.mk (Cls.name y_5) (Cls.when_ y_5) (qBW6 y_5)]=QX.cs y_7/\mx2 (QX.fz y_4) (qBW9 y_4)=QX.fz y_7)/\(qBW4 y)/\(qBW5 y)/\True)/\∀(e_1:Int×Int),Xg (qBWc y_4) (qBWa y_4) (QX.ed y_4)=Except.error e_1->(qBW1 t)/\Prod.fst e_1=a/\Prod.snd e_1=e/\True))/\(isW [(99:Nat),(108:Nat),(97:Nat),(117:Nat),(115:Nat),(101:Nat)] (QX.l y_4)=false->(isW [(125:Nat)] (QX.l y_4)=true->(decide (qBW7 y_4)=true->∀(y:Int),y=hdT (QX.ed y_4) (qBWa y_4)->(qBW1 t)/\y=a/\(160:Int)=e/\True)/\(decide (qBW7 y_4)=false->(y_1=Tar.name t/\wr IntKind.i64 (qBWd y_2)=Tar.for_ t/\(qBW8+List.length (QX.cs y_4)<=List.length (QX.cs y_4)/\List.take (qBW9 y_4) (QX.cs y_4)=Tar.clauses t)/\True)/\(0:Int)=a/\(0:Int)=e/\True))/\(isW [(125:Nat)] (QX.l y_4)=false->(qBW1 t)/\hdT (QX.ed y_4) (QX.l y_4)=a/\(160:Int)=e/\True)))/\(isW [(123:Nat)] (Prod.fst x'_1)=false->(qBW1 t)/\hdT (qBWb x'_1) (Prod.fst x'_1)=a/\(160:Int)=e/\True))/\∀(e_1:Int×Int),X1 (WK.words WK.ki) (List.tail (Prod.fst x')) (qBWb x')=Except.error e_1->(qBW1 t)/\Prod.fst e_1=a/\Prod.snd e_1=e/\True)/\(isW [(102:Nat),(111:Nat),(114:Nat)] (Prod.fst x')=false->(qBW1 t)/\hdT (qBWb x') (Prod.fst x')=a/\(160:Int)=e/\True))/\∀(e_1:Int×Int),Zdj (List.tail (Prod.fst y)) (↑(List.length s):Int)=Except.error e_1->(qBW1 t)/\Prod.fst e_1=a/\Prod.snd e_1=e/\True)/\(isW [(116:Nat),(97:Nat),(114:Nat),(105:Nat),(102:Nat),(102:Nat)] (Prod.fst y)=false->(qBW1 t)/\hdT (↑(List.length s):Int) (Prod.fst y)=a/\(160:Int)=e/\True))):=by kernel_rfl
theorem Ztp:∀{k:Nat} {more:Bool} {ts:List Tst} {l:List Tok} {e:Int} {ts':List Tst} {x:PX},pTs k more ts l e= .ok (ts',x)->x.1.length<=l.length
 |0,more,ts,l,e,ts',x,h=>by
  unfold pTs at h
  injection h with h
  injection h with _ h
  subst h
  exact Nat.le_refl _
 |k+1,more,ts,l,e,ts',x,h=>by
  unfold pTs at h
  split at h
  · split at h
    · cases h
    · rename_i t z ht
      have h1:=(Zdm ht).1
      have h2:=Ztp h
      split at h2
      · rw [List.length_tail] at h2
        omega
      · omega
  · injection h with h
    injection h with _ h
    subst h
    exact Nat.le_refl _
theorem Z5q {l:List Tok} {e:Int} {y:Ex} {x:PX} (h:pX l e= .ok (y,x)):x.1.length<=l.length:=by
 have:=Zxi l e y x h
 omega
theorem Zx8 {nm:List Nat} {ts:List Tst} {l:List Tok} {e:Int} {c:Cls} {x:PX} (h:pPay nm ts l e= .ok (c,x)):x.1.length<=l.length:=by
 unfold pPay at h
 split at h
 · split at h
   · cases h
   · rename_i y z hy
     have h1:=Z5q hy
     rw [List.length_tail] at h1
     split at h
     · cases h
     · split at h
       · injection h with h
         injection h with _ h
         subst h
         show z.1.tail.length<=l.length
         rw [List.length_tail]
         omega
       · cases h
 · cases h
theorem Zc7 {bs:List Cls} {l:List Tok} {e:Int} {c:Cls} {x:PX} (h:Xg bs l e= .ok (c,x)):x.1.length<=l.length:=by
 unfold Xg at h
 split at h
 · cases h
 · rename_i nm z hz
   have h1:=Zdl hz
   split at h
   · cases h
   · unfold pAft at h
     split at h
     · cases h
     · rename_i ts y hy
       have h2:=Ztp hy
       have h3:=Zx8 h
       split at h2
       · rw [List.length_tail] at h2
         omega
       · omega
def pCls:Nat->List Cls->List Tok->Int->PR (List Cls)
 |0,cs,l,e=> .ok (cs,l,e,())
 |k+1,cs,l,e=>if isW [99,108,97,117,115,101] l then (if cs.length=64 then .error (hdT e l,2) else match Xg cs l.tail e with
  | .error er=> .error er
  | .ok (c,x)=>pCls k (cs++ [c]) x.1 x.2.1) else .ok (cs,l,e,())
def pEnd (nm:List Nat) (fo:Int):PR (List Cls)->PR Tar
 | .error er=> .error er
 | .ok (cs,x)=>if isW [125] x.1 then (if 0<x.1.tail.length then .error (hdT x.2.1 x.1.tail,160) else .ok (⟨nm,fo,cs⟩,x.1.tail,x.2.1,())) else .error (hdT x.2.1 x.1,160)
def pTar (l:List Tok) (e:Int):PR Tar:=
 if isW [116,97,114,105,102,102] l then
  match Zdj l.tail e with
  | .error er=> .error er
  | .ok (nm,x)=>
   if isW [102,111,114] x.1 then
    match X1 WK.ki.words x.1.tail x.2.1 with
    | .error er=> .error er
    | .ok (k,z)=>if isW [123] z.1 then pEnd nm (wr .i64 (1+k)) (pCls (z.1.tail.length+1) [] z.1.tail z.2.1) else .error (hdT z.2.1 z.1,160)
   else .error (hdT x.2.1 x.1,160)
 else .error (hdT e l,160)
def zT:Tar:=⟨[],0,[]⟩
def outT:PR Tar->Tar×Int×Int
 | .ok y=>(y.1,0,0)
 | .error er=>(zT,er.1,er.2)
def Zb7 (s:List Nat):Tar×Int×Int:=if (Y0 s).2.2≠0 then (zT,(Y0 s).2.1,(Y0 s).2.2) else outT (pTar (Y0 s).1 s.length)
theorem Zcp:∀{k:Nat} {s:List Nat} {p:Nat} {ts:List Tok},ts.length<=p->p<=s.length->(tksL k s p ts).1.length<=s.length
 |0,s,p,ts,h1,h2=>by unfold tksL;exact Nat.le_trans h1 h2
 |k+1,s,p,ts,h1,h2=>by
  unfold tksL
  split
  · exact Nat.le_trans h1 h2
  · rename_i c hc
    have hlt:=(gA9.1 hc).1
    split
    · exact Zcp (by omega) hlt
    · split
      · split
        · exact Nat.le_trans h1 h2
        · have:=(Znj 10 (s.drop p) 0).1
          rw [List.length_drop] at this
          exact Zcp (by omega) (by omega)
      · split
        · exact Nat.zero_le _
        · rename_i h3
          have h3:(tokP (s.drop p)).2=0:=by simpa using h3
          obtain ⟨n1,n2,_⟩:=Zpp h3
          rw [List.length_drop] at n2
          exact Zcp (by rw [List.length_append];simp;omega) (by omega)
theorem Zll (s:List Nat):(Y0 s).1.length<=2000:=by
 unfold Y0
 split
 · exact Nat.zero_le _
 · have:=Zcp (k:=s.length) (s:=s) (p:=0) (ts:= []) (Nat.le_refl _) (Nat.zero_le _)
   omega
theorem Ztq (c:Cls):Cls.mk (Cls.name c) (Cls.when_ c) (Ex.mk (Ex.op (Cls.pay c)) (Ex.n (Cls.pay c)) (Ex.d0 (Cls.pay c)) (Ex.d1 (Cls.pay c)) (Ex.d2 (Cls.pay c)) (Ex.d3 (Cls.pay c)) (Ex.l (Cls.pay c)))=c:=by
 obtain ⟨a,b,p⟩:=c
 cases p
 rfl
theorem Zp6 (s:List Nat):PureC E 51 [.str false s] (.tup [.agg [.str false (Zb7 s).1.name,.int false .i64 (Zb7 s).1.for_,.psl Th.clauses (Zb7 s).1.clauses false],.int false .i64 (Zb7 s).2.1,.int false .i64 (Zb7 s).2.2]):=by
 refine Za E_ok (Ze E_ok Z5p 400) ?_
 rw [Zp5];delta qBW1 qBW8 qBW2 qBW3 qBW4 qBW5 qBW6 qBWa qBW7 qBW9 qBWb qBWc qBWd
 refine ⟨trivial,fun y hy=> ?_⟩
 have hlen:y.1.length<=2000:=hy▸Zll s
 have hp:Zb7 s=if y.2.2≠0 then (zT,y.2.1,y.2.2) else outT (pTar y.1 s.length):=by subst hy;rfl
 generalize Zb7 s=res at hp
 refine ⟨fun h=> ?_,fun h=> ?_⟩
 · have h:y.2.2≠0:=by simpa using h
   rw [if_pos h] at hp
   subst hp
   exact ⟨⟨rfl,rfl,rfl,trivial⟩,rfl,rfl,trivial⟩
 have h:y.2.2=0:=by simpa using h
 rw [if_neg (by rw [h];decide)] at hp
 unfold pTar at hp
 refine ⟨fun h1=>⟨trivial,fun nm x hx=>⟨fun h2=>⟨.inr (.inl rfl),fun fo z hz=>⟨fun h3=> ?_,fun h3=> ?_⟩,fun er he=> ?_⟩,fun h2=> ?_⟩,fun er he=> ?_⟩,fun h1=> ?_⟩
 rotate_left
 · rw [if_pos h1,hx] at hp
   simp only [if_pos h2,hz,h3] at hp
   subst hp
   exact ⟨⟨rfl,rfl,rfl,trivial⟩,rfl,rfl,trivial⟩
 · rw [if_pos h1,hx] at hp
   simp only [if_pos h2,he] at hp
   subst hp
   exact ⟨⟨rfl,rfl,rfl,trivial⟩,rfl,rfl,trivial⟩
 · rw [if_pos h1,hx] at hp
   simp only [h2] at hp
   subst hp
   exact ⟨⟨rfl,rfl,rfl,trivial⟩,rfl,rfl,trivial⟩
 · rw [if_pos h1,he] at hp
   subst hp
   exact ⟨⟨rfl,rfl,rfl,trivial⟩,rfl,rfl,trivial⟩
 · rw [h1] at hp
   subst hp
   exact ⟨⟨rfl,rfl,rfl,trivial⟩,rfl,rfl,trivial⟩
 rw [if_pos h1,hx] at hp
 simp only [if_pos h2,hz,if_pos h3] at hp
 have l1:=Zx h1
 have l2:=Zdl hx
 have l3:=Zx h2
 have l4:z.1.length<=x.1.tail.length:=by
  unfold X1 at hz
  split at hz
  · injection hz with hz
    injection hz with _ hz
    subst hz
    show x.1.tail.tail.length<=_
    rw [List.length_tail (l:=x.1.tail)]
    omega
  · cases hz
 have l5:=Zx h3
 intro q hq
 subst hq
 refine ⟨fun v=>(v.1=false->v.2.cs= [])/\outT (pEnd nm (wr .i64 (1+fo)) (pCls v.2.k v.2.cs v.2.l v.2.ed))=res/\v.2.p=hdT v.2.ed v.2.l/\v.2.l.length<v.2.k/\v.2.l.length<=2000/\v.2.fz<=v.2.cs.length/\v.2.cs.length<=64,
  .inl ⟨⟨[],0,z.1.tail,z.2.1,hdT z.2.1 z.1.tail,z.1.tail.length+1⟩,⟨fun _=>rfl,hp.symm,rfl,Nat.lt_succ_self _,?_,Nat.le_refl _,Nat.zero_le _⟩,rfl,⟨rfl,rfl,rfl,rfl,rfl,rfl,trivial⟩,⟨⟨rfl,fun h=>h⟩,rfl,trivial⟩,⟨rfl,rfl,rfl,trivial⟩,⟨rfl,trivial⟩,⟨rfl,trivial⟩,trivial⟩,?_,?_⟩
 · show z.1.tail.length<=2000
   omega
 all_goals
  rintro v ⟨v0,v1,v2,v3,v4,v5,v6⟩
  replace v1:outT (pEnd nm (wr .i64 (1+fo)) (pCls v.k v.cs v.l v.ed))=res:=v1
  replace v2:v.p=hdT v.ed v.l:=v2
  replace v3:v.l.length<v.k:=v3
  replace v4:v.l.length<=2000:=v4
  replace v5:v.fz<=v.cs.length:=v5
  replace v6:v.cs.length<=64:=v6
  obtain ⟨k,hk⟩:∃k,v.k=k+1:=⟨v.k-1,by omega⟩
  rw [hk] at v1
  unfold pCls at v1
  refine ⟨fun w1=> ?_,fun w1=>⟨fun w2=>⟨fun w3=> ?_,fun w3=> ?_⟩,fun w2=> ?_⟩⟩
 · have v0:v.cs= []:=v0 rfl
   rw [if_pos w1,v0,if_neg (by simp)] at v1
   have l6:=Zx w1
   refine ⟨⟨by omega,by omega⟩,fun c x' hc a ha=> ?_,fun er he=> ?_⟩
   · subst ha
     rw [hc] at v1
     have l7:=Zc7 hc
     refine .inr ⟨⟨[c],0,x'.1,x'.2.1,hdT x'.2.1 x'.1,k⟩,⟨fun h=>(by cases h),v1,rfl,(by show x'.1.length<k;omega),(by show x'.1.length<=2000;omega),Nat.zero_le _,(by show 1<=64;decide)⟩,(by show k+1<=v.k;omega),rfl,⟨rfl,rfl,rfl,rfl,rfl,rfl,trivial⟩,⟨⟨rfl,fun h=>h⟩,rfl,trivial⟩,⟨rfl,rfl,⟨rfl,rfl,trivial⟩,trivial⟩,⟨?_,rfl⟩,⟨rfl,trivial⟩,⟨rfl,trivial⟩,trivial⟩
     rw [Ztq]
   · rw [he] at v1
     subst v1
     exact ⟨⟨rfl,rfl,rfl,trivial⟩,rfl,rfl,trivial⟩
 · rw [if_neg (by rw [w1];decide)] at v1
   simp only [pEnd,if_pos w2] at v1
   have w3:0<v.l.tail.length:=by
    have:(0:Int)<v.l.tail.length:=by simpa only [decide_eq_true_eq] using w3
    omega
   rw [if_pos w3] at v1
   intro a ha
   subst ha
   subst v1
   exact ⟨⟨rfl,rfl,rfl,trivial⟩,rfl,rfl,trivial⟩
 · have v0:v.cs= []:=v0 rfl
   rw [if_neg (by rw [w1];decide)] at v1
   simp only [pEnd,if_pos w2] at v1
   have w3:¬0<v.l.tail.length:=by
    have:¬(0:Int)<v.l.tail.length:=by simpa only [decide_eq_false_iff_not] using w3
    omega
   rw [if_neg w3,v0] at v1
   subst v1
   exact ⟨⟨rfl,rfl,rfl,trivial⟩,rfl,rfl,trivial⟩
 · rw [if_neg (by rw [w1];decide)] at v1
   simp only [pEnd,w2] at v1
   subst v1
   exact ⟨⟨rfl,rfl,rfl,trivial⟩,rfl,rfl,trivial⟩
 · have l6:=Zx w1
   rw [if_pos w1] at v1
   rw [List.drop_zero,List.take_length]
   refine ⟨fun w4=> ?_,fun w4=>⟨by omega,⟨by omega,by omega⟩,fun c x' hc=>⟨⟨Nat.le_refl _,by rw [Zfj];omega,by omega⟩,fun a ha=> ?_⟩,fun er he=> ?_⟩⟩
   · have w4:v.cs.length=64:=by
      have w5:(v.cs.length:Int)=64:=eq_of_beq w4
      omega
     rw [if_pos w4] at v1
     subst v1
     exact ⟨⟨rfl,rfl,rfl,trivial⟩,v2,rfl,trivial⟩
   · subst ha
     have w4:v.cs.length≠64:=fun e=>by rw [e] at w4;simp at w4
     rw [if_neg w4,hc] at v1
     have l7:=Zc7 hc
     refine .inr ⟨⟨v.cs++ [c],mx2 v.fz v.cs.length,x'.1,x'.2.1,hdT x'.2.1 x'.1,k⟩,⟨fun h=>(by cases h),v1,rfl,(by show x'.1.length<k;omega),(by show x'.1.length<=2000;omega),?_,?_⟩,(by show k+1<=v.k;omega),rfl,⟨rfl,rfl,rfl,rfl,rfl,rfl,trivial⟩,⟨⟨rfl,fun h=>h⟩,rfl,trivial⟩,⟨rfl,rfl,⟨rfl,?_,trivial⟩,trivial⟩,⟨?_,rfl⟩,⟨rfl,trivial⟩,⟨rfl,trivial⟩,trivial⟩
     · show mx2 v.fz v.cs.length<=(v.cs++ [c]).length
       rw [Zfj,List.length_append]
       omega
     · show (v.cs++ [c]).length<=64
       rw [List.length_append]
       simp
       omega
     · show v.cs.length+1=(v.cs++ [c]).length
       rw [List.length_append]
       rfl
     · rw [Ztq]
   · have w4:v.cs.length≠64:=fun e=>by rw [e] at w4;simp at w4
     rw [if_neg w4,he] at v1
     subst v1
     exact ⟨⟨rfl,rfl,rfl,trivial⟩,rfl,rfl,trivial⟩
 · rw [if_neg (by rw [w1];decide)] at v1
   simp only [pEnd,if_pos w2] at v1
   have w3:0<v.l.tail.length:=by
    have:(0:Int)<v.l.tail.length:=by simpa only [decide_eq_true_eq] using w3
    omega
   rw [if_pos w3] at v1
   intro a ha
   subst ha
   subst v1
   exact ⟨⟨rfl,rfl,rfl,trivial⟩,rfl,rfl,trivial⟩
 · rw [if_neg (by rw [w1];decide)] at v1
   simp only [pEnd,if_pos w2] at v1
   have w3:¬0<v.l.tail.length:=by
    have:¬(0:Int)<v.l.tail.length:=by simpa only [decide_eq_false_iff_not] using w3
    omega
   rw [if_neg w3] at v1
   subst v1
   exact ⟨⟨rfl,rfl,⟨by omega,List.take_length⟩,trivial⟩,rfl,rfl,trivial⟩
 · rw [if_neg (by rw [w1];decide)] at v1
   simp only [pEnd,w2] at v1
   subst v1
   exact ⟨⟨rfl,rfl,rfl,trivial⟩,rfl,rfl,trivial⟩
end
section
def iOp (op:Int):Ins:=⟨op,0,0⟩
def iNN (op n:Int):Ins:=⟨op,n,0⟩
def cdN (op n:Int) (fs:List (Nat->List Ins)) (o:Nat):List Ins:=
 if op=1 then [iNN 1 n] else if op=2 then [iNN 2 n] else
 let a:=fs.getD 0 (fun _=> []) o
 let b:=fs.getD 1 (fun _=> []) (o+a.length)
 if op=11 then
  let p:=o+a.length+b.length+2
  let c:=fs.getD 2 (fun _=> []) p
  let q:=p+c.length+1
  let d:=fs.getD 3 (fun _=> []) q
  a++b++iOp 11::iNN 13 q::(c++iNN 14 (q+d.length:Nat)::d)
 else a++b++ [iOp op]
mutual
def cdX:Ex->Nat->List Ins
 | .mk op n _ _ _ _ l=>cdN op n (cdL l)
def cdL:List Ex->List (Nat->List Ins)
 | []=> []
 |x::r=>cdX x::cdL r
end
def cdTs:Nat->List Tst->List Ins
 |_,[]=> []
 |e,w::r=>iNN 2 w.attr::⟨12,w.low,w.high⟩::iNN 13 e::cdTs e r
def cdC (c:Cls) (k o:Nat):List Ins:=
 let p:=cdX c.pay (o+3*c.when_.length)
 cdTs (o+3*c.when_.length+p.length+1) c.when_++p++ [iNN 15 k]
def cdCs:List Cls->Nat->Nat->List Ins
 | [],_,_=> []
 |c::r,k,o=>cdC c k o++cdCs r (k+1) (o+(cdC c k o).length)
def cdT (t:Tar):List Ins:=cdCs t.clauses 0 0++ [iOp 16]
theorem Y5:∀(e:Nat) (l:List Tst),(cdTs e l).length=3*l.length
 |_,[]=>rfl
 |e,w::r=>by simp [cdTs,Y5 e r];omega
theorem Y6 {len:Int}:∀{a b:List Ins} {i:Nat} {D D':List Int} {m m':Int},fromF len a i D m=some (D',m')->fromF len (a++b) i D m=fromF len b (i+a.length) D' m'
 | [],b,i,D,D',m,m',h=>by cases h;rfl
 |x::r,b,i,D,D',m,m',h=>by
  unfold fromF at h
  rw [List.cons_append]
  conv=>lhs;unfold fromF
  cases hr:rndF len i x D m with
  |none=>rw [hr] at h;cases h
  |some p=>
   obtain ⟨D1,m1⟩:=p
   rw [hr] at h
   have:=Y6 (b:=b) (i:=i+1) h
   rw [List.length_cons,show i+(r.length+1)=i+1+r.length by omega]
   exact this
theorem Zp {D:List Int} {i k:Nat} {v:Int}:(D.set i v).getD k 0=if i=k/\k<D.length then v else D.getD k 0:=by
 rw [List.getD_eq_getElem?_getD,List.getElem?_set,List.getD_eq_getElem?_getD]
 by_cases h:i=k
 · subst h
   by_cases h2:i<D.length
   · simp [h2]
   · simp [h2]
 · simp [h]
theorem Za1 {len:Nat} {i:Nat} {x:Ins} {D:List Int} {m d a:Int} (hlen:D.length=len) (hi:i+1<len) (hd:D.getD i 0=d) (hd0:0<=d) (h1:(eff x.op).1<=d) (ha:a=d-(eff x.op).1+(eff x.op).2)
 (hop:x.op≠13/\x.op≠14/\x.op≠15/\x.op≠16) (hn:D.getD (i+1) 0<0\/D.getD (i+1) 0=a):rndF len i x D m=some (D.set (i+1) a,max (max m d) a):=by
 unfold rndF
 rw [hd,if_neg (by omega),if_neg (by omega)]
 have hx:nextF i x= [(i:Int)+1]:=by
  unfold nextF
  rw [if_neg (by omega),if_neg (by omega),if_neg (by omega)]
 rw [hx,<-ha]
 have e:((i:Int)+1).toNat=i+1:=by omega
 have hs:setF len i a [(i:Int)+1] D=some (D.set (i+1) a):=by
  unfold setF
  rw [e,if_neg (by omega)]
  rfl
 rw [hs]
theorem Zyq {len:Nat} {i e:Nat} {D:List Int} {m d:Int} (hlen:D.length=len) (hi:i<e) (he:e<len) (hd:D.getD i 0=d) (hd0:0<=d) (hn:D.getD e 0<0\/D.getD e 0=d):rndF len i (iNN 14 e) D m=some (D.set e d,max m d):=by
 unfold rndF
 have ho:(iNN 14 (e:Int)).op=14:=rfl
 have hef:eff 14=(0,0):=rfl
 rw [hd,if_neg (by omega),ho,hef,if_neg (by simp only;omega)]
 have hx:nextF i (iNN 14 e)= [(e:Int)]:=rfl
 rw [hx]
 have e2:((e:Int)).toNat=e:=by omega
 have hs:setF len i (d-0+0) [(e:Int)] D=some (D.set e d):=by
  unfold setF
  rw [e2,if_neg (by omega),show d-0+0=d by omega]
  rfl
 rw [hs]
 simp only [show d-0+0=d by omega]
 congr 2
 omega
theorem Zn4 {len:Nat} {i q:Nat} {D:List Int} {m d:Int} (hlen:D.length=len) (hi:i+1<q) (he:q<len) (hd:D.getD i 0=d+1) (hd0:0<=d) (hn:D.getD q 0<0\/D.getD q 0=d) (hn1:D.getD (i+1) 0<0\/D.getD (i+1) 0=d):
 rndF len i (iNN 13 q) D m=some ((D.set q d).set (i+1) d,max m (d+1)):=by
 unfold rndF
 have ho:(iNN 13 (q:Int)).op=13:=rfl
 have hef:eff 13=(1,0):=rfl
 rw [hd,if_neg (by omega),ho,hef,if_neg (by simp only;omega)]
 have hx:nextF i (iNN 13 q)= [(q:Int),(i:Int)+1]:=rfl
 rw [hx]
 have e2:((q:Int)).toNat=q:=by omega
 have e3:((i:Int)+1).toNat=i+1:=by omega
 have hs:setF len i (d+1-1+0) [(q:Int),(i:Int)+1] D=some ((D.set q d).set (i+1) d):=by
  unfold setF
  rw [e2,if_neg (by omega),show d+1-1+0=d by omega]
  unfold setF
  have:(D.set q d).getD (i+1) 0=D.getD (i+1) 0:=by rw [Zp,if_neg (by omega)]
  rw [e3,this,if_neg (by omega)]
  rfl
 rw [hs]
 simp only [show d+1-1+0=d by omega]
 congr 2
 omega
def dpN (op:Int) (ds:List Int):Int:=
 if op=1\/op=2 then 1 else if op=11 then max (max (ds.getD 0 0) (1+ds.getD 1 0)) (max (ds.getD 2 0) (ds.getD 3 0)) else max (ds.getD 0 0) (1+ds.getD 1 0)
mutual
def dpX:Ex->Int
 | .mk op _ _ _ _ _ l=>dpN op (dpL l)
def dpL:List Ex->List Int
 | []=> []
 |x::r=>dpX x::dpL r
end
def Arx (x:Ex):Prop:=1<=x.op/\x.op<=11/\x.l.length=if x.op=1\/x.op=2 then 0 else if x.op=11 then 4 else 2
theorem Zub {x:Ex} (h:Zo x=true):Arx x/\∀y∈x.l,Zo y=true:=by
 rw [Zhn,Bool.and_eq_true] at h
 obtain ⟨h1,h2⟩:=h
 unfold Zj9 at h1
 simp only [Bool.and_eq_true,Bool.or_eq_true,decide_eq_true_eq] at h1
 obtain ⟨⟨⟨⟨⟨⟨k1,k2⟩,k3⟩,k4⟩,k5⟩,k6⟩,k7⟩:=h1
 refine ⟨⟨k1,k2,?_⟩,formL_iff.1 h2⟩
 rw [k5]
 unfold Z4h
 rfl
def Ver (x:Ex):Prop:=∀⦃len o:Nat⦄ ⦃D:List Int⦄ ⦃m d:Int⦄,D.length=len->o+(cdX x o).length<len->D.getD o 0=d->0<=d->d<=m->(∀k,o<k->k<o+(cdX x o).length->D.getD k 0<0)->(D.getD (o+(cdX x o).length) 0<0\/D.getD (o+(cdX x o).length) 0=d+1)->
 ∃D':List Int,fromF len (cdX x o) o D m=some (D',max m (d+dpX x))/\D'.length=len/\D'.getD (o+(cdX x o).length) 0=d+1/\∀k,o+(cdX x o).length<k->D'.getD k 0=D.getD k 0
theorem Z75 {α:Type} {l:List α} (h:l.length=2):∃a b,l= [a,b]:=by
 match l,h with
 | [a,b],_=>exact ⟨a,b,rfl⟩
theorem Z76 {α:Type} {l:List α} (h:l.length=4):∃a b c d,l= [a,b,c,d]:=by
 match l,h with
 | [a,b,c,d],_=>exact ⟨a,b,c,d,rfl⟩
theorem Zqh {op n a b c d:Int} {l:List Ex} {o:Nat} (h:op=1\/op=2):cdX (.mk op n a b c d l) o= [iNN op n]:=by
 rw [cdX];unfold cdN
 rcases h with rfl|rfl
 · rw [if_pos rfl]
 · rw [if_neg (by decide),if_pos rfl]
theorem Zqi {op n a b c d:Int} {x y:Ex} {o:Nat} (h1:3<=op) (h2:op<=10):cdX (.mk op n a b c d [x,y]) o=cdX x o++cdX y (o+(cdX x o).length)++ [iOp op]:=by
 rw [cdX];unfold cdN
 rw [if_neg (by omega),if_neg (by omega)]
 simp only [cdL,List.getD_cons_zero,List.getD_cons_succ]
 rw [if_neg (by omega)]
theorem Zqj {n a b c d:Int} {x y z w:Ex} {o:Nat} {p q:Nat} (hp:p=o+(cdX x o).length+(cdX y (o+(cdX x o).length)).length+2) (hq:q=p+(cdX z p).length+1):
 cdX (.mk 11 n a b c d [x,y,z,w]) o=cdX x o++cdX y (o+(cdX x o).length)++iOp 11::iNN 13 q::(cdX z p++iNN 14 (q+(cdX w q).length:Nat)::cdX w q):=by
 rw [cdX];unfold cdN
 rw [if_neg (by decide),if_neg (by decide)]
 simp only [cdL,List.getD_cons_zero,List.getD_cons_succ]
 rw [if_pos trivial,<-hp,<-hq]
theorem dp_1 {op n a b c d:Int} {l:List Ex} (h:op=1\/op=2):dpX (.mk op n a b c d l)=1:=by
 rw [dpX];unfold dpN;rw [if_pos h]
theorem dp_2 {op n a b c d:Int} {x y:Ex} (h1:3<=op) (h2:op<=10):dpX (.mk op n a b c d [x,y])=max (dpX x) (1+dpX y):=by
 rw [dpX];unfold dpN;rw [if_neg (by omega),if_neg (by omega)]
 simp only [dpL,List.getD_cons_zero,List.getD_cons_succ]
theorem dp_4 {n a b c d:Int} {x y z w:Ex}:dpX (.mk 11 n a b c d [x,y,z,w])=max (max (dpX x) (1+dpX y)) (max (dpX z) (dpX w)):=by
 rw [dpX];unfold dpN;rw [if_neg (by decide),if_pos rfl]
 simp only [dpL,List.getD_cons_zero,List.getD_cons_succ]
theorem Xf {x:Ex} (h:Zo x=true):(∃op n a b c d,x= .mk op n a b c d []/\(op=1\/op=2))\/(∃op n a b c d y z,x= .mk op n a b c d [y,z]/\3<=op/\op<=10/\Zo y=true/\Zo z=true)\/
 (∃n a b c d y z u v,x= .mk 11 n a b c d [y,z,u,v]/\Zo y=true/\Zo z=true/\Zo u=true/\Zo v=true):=by
 obtain ⟨⟨h1,h2,h3⟩,h4⟩:=Zub h
 obtain ⟨op,n,a,b,c,d,l⟩:=x
 have h1:1<=op:=h1
 have h2:op<=11:=h2
 have h3:l.length=if op=1\/op=2 then 0 else if op=11 then 4 else 2:=h3
 have h4:∀y∈l,Zo y=true:=h4
 by_cases q:op=1\/op=2
 · rw [if_pos q] at h3
   obtain rfl:=List.eq_nil_of_length_eq_zero h3
   exact .inl ⟨op,n,a,b,c,d,rfl,q⟩
 · rw [if_neg q] at h3
   by_cases q2:op=11
   · rw [if_pos q2] at h3
     obtain ⟨y,z,u,v,rfl⟩:=Z76 h3
     subst q2
     exact .inr (.inr ⟨n,a,b,c,d,y,z,u,v,rfl,h4 y (.head _),h4 z (.tail _ (.head _)),h4 u (.tail _ (.tail _ (.head _))),h4 v (.tail _ (.tail _ (.tail _ (.head _))))⟩)
   · rw [if_neg q2] at h3
     obtain ⟨y,z,rfl⟩:=Z75 h3
     exact .inr (.inl ⟨op,n,a,b,c,d,y,z,rfl,by omega,by omega,h4 y (.head _),h4 z (.tail _ (.head _))⟩)
theorem sz_2 {op n a b c d:Int} {y z:Ex}:(Ex.mk op n a b c d [y,z]).sz=1+y.sz+z.sz:=by rw [Ex.sz_eq];simp [Ex.l,Ex.szL];omega
theorem sz_4 {op n a b c d:Int} {y z u v:Ex}:(Ex.mk op n a b c d [y,z,u,v]).sz=1+y.sz+z.sz+u.sz+v.sz:=by rw [Ex.sz_eq];simp [Ex.l,Ex.szL];omega
theorem Za2:∀(k:Nat) (x:Ex),x.sz<=k->Zo x=true->1<=dpX x
 |0,x,h,_=>by have:=x.sz_pos;omega
 |k+1,x,h,hf=>by
  rcases Xf hf with ⟨op,n,a,b,c,d,rfl,q⟩|⟨op,n,a,b,c,d,y,z,rfl,q1,q2,f1,f2⟩|⟨n,a,b,c,d,y,z,u,v,rfl,f1,f2,f3,f4⟩
  · rw [dp_1 q];exact Int.le_refl _
  · rw [sz_2] at h
    have:=Za2 k y (by omega) f1
    rw [dp_2 q1 q2];omega
  · rw [sz_4] at h
    have:=Za2 k y (by omega) f1
    rw [dp_4];omega
theorem Zdk:∀(k:Nat) (x:Ex),x.sz<=k->Zo x=true->∀o,1<=(cdX x o).length
 |0,x,h,_=>by have:=x.sz_pos;omega
 |k+1,x,h,hf=>by
  intro o
  rcases Xf hf with ⟨op,n,a,b,c,d,rfl,q⟩|⟨op,n,a,b,c,d,y,z,rfl,q1,q2,f1,f2⟩|⟨n,a,b,c,d,y,z,u,v,rfl,f1,f2,f3,f4⟩
  · rw [Zqh q];simp
  · rw [Zqi q1 q2];simp;omega
  · rw [Zqj rfl rfl];simp;omega
theorem Yk {len:Int} {i:Nat} {x:Ins} {D D':List Int} {m m':Int} (h:rndF len i x D m=some (D',m')) (r:List Ins):fromF len (x::r) i D m=fromF len r (i+1) D' m':=by
 conv=>lhs;unfold fromF
 rw [h]
theorem max8 {m d a b c e K:Int} (ha:a<=K) (hb:1+b<=K) (hc:c<=K) (he:e<=K) (hK:K=a\/K=1+b\/K=c\/K=e) (pa:1<=a) (pb:1<=b):
 max (max (max (max (max (max (max (max m (d+a)) (d+1+b)) (d+1+1)) (d+1)) (d+1)) (d+c)) (d+1)) (d+e)=max m (d+K):=by
 apply Int.le_antisymm
 · refine Int.max_le.2 ⟨Int.max_le.2 ⟨Int.max_le.2 ⟨Int.max_le.2 ⟨Int.max_le.2 ⟨Int.max_le.2 ⟨Int.max_le.2 ⟨Int.max_le.2 ⟨?_,?_⟩,?_⟩,?_⟩,?_⟩,?_⟩,?_⟩,?_⟩,?_⟩
   · exact Int.le_max_left _ _
   all_goals exact Int.le_trans (by omega) (Int.le_max_right m (d+K))
 · have e1:=Int.le_max_left (max (max (max (max (max (max (max m (d+a)) (d+1+b)) (d+1+1)) (d+1)) (d+1)) (d+c)) (d+1)) (d+e)
   have e2:=Int.le_max_left (max (max (max (max (max (max m (d+a)) (d+1+b)) (d+1+1)) (d+1)) (d+1)) (d+c)) (d+1)
   have e3:=Int.le_max_left (max (max (max (max (max m (d+a)) (d+1+b)) (d+1+1)) (d+1)) (d+1)) (d+c)
   have e4:=Int.le_max_left (max (max (max (max m (d+a)) (d+1+b)) (d+1+1)) (d+1)) (d+1)
   have e5:=Int.le_max_left (max (max (max m (d+a)) (d+1+b)) (d+1+1)) (d+1)
   have e6:=Int.le_max_left (max (max m (d+a)) (d+1+b)) (d+1+1)
   have e7:=Int.le_max_left (max m (d+a)) (d+1+b)
   have e8:=Int.le_max_left m (d+a)
   have f1:=Int.le_max_right (max (max (max (max (max (max (max m (d+a)) (d+1+b)) (d+1+1)) (d+1)) (d+1)) (d+c)) (d+1)) (d+e)
   have f3:=Int.le_max_right (max (max (max (max (max m (d+a)) (d+1+b)) (d+1+1)) (d+1)) (d+1)) (d+c)
   have f7:=Int.le_max_right (max m (d+a)) (d+1+b)
   have f8:=Int.le_max_right m (d+a)
   refine Int.max_le.2 ⟨?_,?_⟩
   · exact (Int.le_trans e8 (Int.le_trans e7 (Int.le_trans e6 (Int.le_trans e5 (Int.le_trans e4 (Int.le_trans e3 (Int.le_trans e2 e1)))))))
   · rcases hK with rfl|rfl|rfl|rfl
     · exact (Int.le_trans f8 (Int.le_trans e7 (Int.le_trans e6 (Int.le_trans e5 (Int.le_trans e4 (Int.le_trans e3 (Int.le_trans e2 e1)))))))
     · exact Int.le_trans (show d+(1+b)<=d+1+b by omega) (Int.le_trans f7 (Int.le_trans e6 (Int.le_trans e5 (Int.le_trans e4 (Int.le_trans e3 (Int.le_trans e2 e1))))))
     · exact (Int.le_trans f3 (Int.le_trans e2 e1))
     · exact f1
theorem Zqk (a b c e:Int):∃K,max (max a (1+b)) (max c e)=K/\a<=K/\1+b<=K/\c<=K/\e<=K/\(K=a\/K=1+b\/K=c\/K=e):=⟨_,rfl,by omega,by omega,by omega,by omega,by omega⟩
theorem Uq (m a:Int):∃K,max m a=K/\m<=K/\a<=K:=⟨_,rfl,by omega,by omega⟩
set_option maxHeartbeats 4000000 in
theorem Zae:∀(k:Nat) (x:Ex),x.sz<=k->Zo x=true->Ver x
 |0,x,h,_=>by have:=x.sz_pos;omega
 |k+1,x,h,hf=>by
  intro len o D m d hlen hl hd hd0 hdm hin hend
  rcases Xf hf with ⟨op,n,a,b,c,e,rfl,q⟩|⟨op,n,a,b,c,e,y,z,rfl,q1,q2,f1,f2⟩|⟨n,a,b,c,e,y,z,u,v,rfl,f1,f2,f3,f4⟩
  · rw [Zqh q] at hl hin hend⊢
    rw [dp_1 q]
    have hl:o+1<len:=hl
    have hend:D.getD (o+1) 0<0\/D.getD (o+1) 0=d+1:=hend
    have hef:eff op=(0,1):=by unfold eff;rw [if_pos q]
    have hr:=Za1 (x:=iNN op n) (m:=m) hlen hl hd hd0 (by show (eff op).1<=d;rw [hef];exact hd0) (a:=d+1) (by show d+1=d-(eff op).1+(eff op).2;rw [hef];simp only;omega) (by show op≠13/\op≠14/\op≠15/\op≠16;omega) hend
    refine ⟨D.set (o+1) (d+1),?_,by rw [List.length_set];exact hlen,?_,fun j hj=> ?_⟩
    · rw [Yk hr]
      show some (_,_)=some (_,_)
      congr 2
      omega
    · show (D.set (o+1) (d+1)).getD (o+1) 0=_
      rw [Zp,if_pos ⟨rfl,by omega⟩]
    · have hj:o+1<j:=hj
      rw [Zp,if_neg (by omega)]
  · rw [sz_2] at h
    have i1:=Zae k y (by omega) f1
    have i2:=Zae k z (by omega) f2
    have p1:=Za2 k y (by omega) f1
    have p2:=Za2 k z (by omega) f2
    rw [Zqi q1 q2] at hl hin hend⊢
    rw [dp_2 q1 q2]
    generalize hA:cdX y o=A at*
    generalize hB:cdX z (o+A.length)=B at*
    simp only [List.length_append,List.length_cons,List.length_nil] at hl hin hend⊢
    obtain ⟨D1,e1,l1,g1,k1⟩:=i1 (o:=o) (m:=m) hlen (by rw [hA];omega) hd hd0 hdm (fun j h1 h2=>hin j h1 (by rw [hA] at h2;omega)) (.inl (hin _ (by rw [hA];have:=Zdk k y (by omega) f1 o;rw [hA] at this;omega) (by rw [hA];omega)))
    rw [hA] at e1 g1 k1
    have pB:=Zdk k z (by omega) f2 (o+A.length)
    rw [hB] at pB
    obtain ⟨D2,e2,l2,g2,k2⟩:=i2 (o:=o+A.length) (m:=max m (d+dpX y)) l1 (by rw [hB];omega) g1 (by omega) (by omega) (fun j h1 h2=>by rw [k1 j h1];exact hin j (by omega) (by rw [hB] at h2;omega)) (.inl (by rw [hB,k1 _ (by omega)];exact hin _ (by omega) (by omega)))
    rw [hB] at e2 g2 k2
    have hef:eff op=(2,1):=by
     unfold eff
     rw [if_neg (by omega),if_neg (by omega),if_neg (by omega),if_neg (by omega)]
    have hr:=Za1 (x:=iOp op) (m:=max (max m (d+dpX y)) (d+1+dpX z)) l2 (by omega) g2 (by omega) (by show (eff op).1<=_;rw [hef];simp only;omega) (a:=d+1) (by show d+1=d+1+1-(eff op).1+(eff op).2;rw [hef];simp only;omega) (by show op≠13/\op≠14/\op≠15/\op≠16;omega)
     (by rw [k2 _ (by omega),k1 _ (by omega),show o+A.length+B.length+1=o+(A.length+B.length+(0+1)) by omega];exact hend)
    refine ⟨D2.set (o+A.length+B.length+1) (d+1),?_,by rw [List.length_set];exact l2,?_,fun j hj=> ?_⟩
    · rw [List.append_assoc,Y6 e1,Y6 e2,Yk hr]
      show some (_,_)=some (_,_)
      congr 2
      omega
    · rw [Zp,if_pos ⟨by omega,by omega⟩]
    · rw [Zp,if_neg (by omega),k2 _ (by omega),k1 _ (by omega)]
  · rw [sz_4] at h
    have i1:=Zae k y (by omega) f1
    have i2:=Zae k z (by omega) f2
    have i3:=Zae k u (by omega) f3
    have i4:=Zae k v (by omega) f4
    have p1:=Za2 k y (by omega) f1
    have p2:=Za2 k z (by omega) f2
    have p3:=Za2 k u (by omega) f3
    have p4:=Za2 k v (by omega) f4
    have pA:=Zdk k y (by omega) f1 o
    have pB:=Zdk k z (by omega) f2 (o+(cdX y o).length)
    obtain ⟨p,hp⟩:∃p,p=o+(cdX y o).length+(cdX z (o+(cdX y o).length)).length+2:=⟨_,rfl⟩
    obtain ⟨q,hq⟩:∃q,q=p+(cdX u p).length+1:=⟨_,rfl⟩
    have pC:=Zdk k u (by omega) f3 p
    have pE:=Zdk k v (by omega) f4 q
    rw [Zqj hp hq] at hl hin hend⊢
    rw [dp_4]
    generalize hA:cdX y o=A at*
    generalize hB:cdX z (o+A.length)=B at*
    generalize hC:cdX u p=C at*
    generalize hE:cdX v q=F at*
    simp only [List.length_append,List.length_cons,List.length_nil] at hl hin hend⊢
    obtain ⟨n0,hn⟩:∃n0,n0=A.length+B.length+(C.length+(F.length+1)+1+1):=⟨_,rfl⟩
    rw [<-hn] at hl hin hend⊢
    obtain ⟨D1,e1,l1,g1,k1⟩:=i1 (o:=o) (m:=m) hlen (by rw [hA];omega) hd hd0 hdm (fun j h1 h2=>hin j h1 (by rw [hA] at h2;omega)) (.inl (hin _ (by rw [hA];omega) (by rw [hA];omega)))
    rw [hA] at e1 g1 k1
    obtain ⟨m1,hm1,b1,b1'⟩:=Uq m (d+dpX y)
    replace hm1:=PLift.up hm1
    rw [hm1.down] at e1
    obtain ⟨D2,e2,l2,g2,k2⟩:=i2 (o:=o+A.length) (m:=m1) l1 (by rw [hB];omega) g1 (by omega) (by omega) (fun j h1 h2=>by rw [k1 j h1];exact hin j (by omega) (by rw [hB] at h2;omega)) (.inl (by rw [hB,k1 _ (by omega)];exact hin _ (by omega) (by omega)))
    rw [hB] at e2 g2 k2
    obtain ⟨m2,hm2,b2,b2'⟩:=Uq m1 (d+1+dpX z)
    replace hm2:=PLift.up hm2
    rw [hm2.down] at e2
    have old2:∀j,o+A.length+B.length<j->D2.getD j 0=D.getD j 0:=fun j hj=>by rw [k2 j hj,k1 j (by omega)]
    have hr1:=Za1 (x:=iOp 11) (m:=m2) l2 (by omega) g2 (by omega) (by show (2:Int)<=_;omega) (a:=d+1) (by show d+1=d+1+1-2+1;omega) (by decide) (.inl (by rw [old2 _ (by omega)];exact hin _ (by omega) (by omega)))
    obtain ⟨D3,hD3⟩:∃D3,D3=D2.set (o+A.length+B.length+1) (d+1):=⟨_,rfl⟩
    rw [<-hD3] at hr1
    have l3:D3.length=len:=by rw [hD3,List.length_set];exact l2
    have g3:D3.getD (o+A.length+B.length+1) 0=d+1:=by rw [hD3,Zp,if_pos ⟨rfl,by omega⟩]
    have old3:∀j,o+A.length+B.length+1<j->D3.getD j 0=D.getD j 0:=fun j hj=>by rw [hD3,Zp,if_neg (by omega),old2 j (by omega)]
    have hr2:=Zn4 (i:=o+A.length+B.length+1) (q:=q) (m:=max (max m2 (d+1+1)) (d+1)) l3 (by omega) (by omega) g3 hd0 (.inl (by rw [old3 _ (by omega)];exact hin _ (by omega) (by omega))) (.inl (by rw [old3 _ (by omega)];exact hin _ (by omega) (by omega)))
    obtain ⟨D4,hD4⟩:∃D4,D4=(D3.set q d).set (o+A.length+B.length+1+1) d:=⟨_,rfl⟩
    rw [<-hD4] at hr2
    have l4:D4.length=len:=by rw [hD4,List.length_set,List.length_set];exact l3
    have g4:D4.getD p 0=d:=by rw [hD4,Zp,if_pos ⟨by omega,by rw [List.length_set];omega⟩]
    have g4q:D4.getD q 0=d:=by rw [hD4,Zp,if_neg (by omega),Zp,if_pos ⟨rfl,by omega⟩]
    have old4:∀j,p<j->j≠q->D4.getD j 0=D.getD j 0:=fun j hj hne=>by rw [hD4,Zp,if_neg (by omega),Zp,if_neg (by omega),old3 j (by omega)]
    obtain ⟨m4,hm4,b4,b4'⟩:=Uq (max (max m2 (d+1+1)) (d+1)) (d+1)
    clear b4
    replace hm4:=PLift.up hm4
    rw [hm4.down] at hr2
    obtain ⟨D5,e5,l5,g5,k5⟩:=i3 (o:=p) (m:=m4) l4 (by rw [hC];omega) g4 hd0 (by omega) (fun j h1 h2=>by rw [old4 j h1 (by rw [hC] at h2;omega)];exact hin j (by omega) (by rw [hC] at h2;omega)) (.inl (by rw [hC,old4 _ (by omega) (by omega)];exact hin _ (by omega) (by omega)))
    rw [hC] at e5 g5 k5
    obtain ⟨m5,hm5,b5,b5'⟩:=Uq m4 (d+dpX u)
    replace hm5:=PLift.up hm5
    rw [hm5.down] at e5
    have hend':D5.getD (q+F.length) 0<0\/D5.getD (q+F.length) 0=d+1:=by
     rw [k5 _ (by omega),old4 _ (by omega) (by omega),show q+F.length=o+n0 by omega];exact hend
    have hr3:=Zyq (i:=p+C.length) (e:=q+F.length) (m:=m5) l5 (by omega) (by omega) g5 (by omega) hend'
    obtain ⟨D6,hD6⟩:∃D6,D6=D5.set (q+F.length) (d+1):=⟨_,rfl⟩
    rw [<-hD6] at hr3
    have l6:D6.length=len:=by rw [hD6,List.length_set];exact l5
    have old6:∀j,q+F.length≠j->D6.getD j 0=D5.getD j 0:=fun j hj=>by rw [hD6,Zp,if_neg (by omega)]
    have g6e:D6.getD (q+F.length) 0=d+1:=by rw [hD6,Zp,if_pos ⟨rfl,by omega⟩]
    have g6q:D6.getD q 0=d:=by rw [old6 _ (by omega),k5 _ (by omega),g4q]
    obtain ⟨D7,e7,l7,g7,k7⟩:=i4 (o:=q) (m:=max m5 (d+1)) l6 (by rw [hE];omega) g6q hd0 (by omega) (fun j h1 h2=>by rw [old6 _ (by rw [hE] at h2;omega),k5 _ (by omega),old4 _ (by omega) (by omega)];exact hin j (by omega) (by rw [hE] at h2;omega)) (.inr (by rw [hE];exact g6e))
    rw [hE] at e7 g7 k7
    refine ⟨D7,?_,l7,by rw [show o+n0=q+F.length by omega];exact g7,fun j hj=> ?_⟩
    · rw [List.append_assoc,Y6 e1,Y6 e2,Yk hr1,Yk hr2,show o+A.length+B.length+1+1=p by omega,Y6 e5,Yk hr3,show p+C.length+1=q by omega,e7]
      obtain ⟨K,hK,c1,c2,c3,c4,c5⟩:=Zqk (dpX y) (dpX z) (dpX u) (dpX v)
      rw [hK,<-hm5.down,<-hm4.down,<-hm2.down,<-hm1.down]
      rw [max8 c1 c2 c3 c4 c5 p1 p2]
    · rw [k7 _ (by omega),old6 _ (by omega),k5 _ (by omega),old4 _ (by omega) (by omega)]
end
section
theorem Z77 {x:Ex} (h:Zo x=true):Ver x:=Zae x.sz x (Nat.le_refl _) h
theorem Zl6 {x:Ex} (h:Zo x=true):1<=dpX x:=Za2 x.sz x (Nat.le_refl _) h
theorem Z3g {x:Ex} (h:Zo x=true) (o:Nat):1<=(cdX x o).length:=Zdk x.sz x (Nat.le_refl _) h o
theorem Zfp {len:Int}:∀{r:List Ins} {i:Nat} {D:List Int} {m:Int},(∀k,i<=k->k<i+r.length->D.getD k 0<0)->fromF len r i D m=some (D,m)
 | [],i,D,m,_=>rfl
 |x::r,i,D,m,h=>by
  have hr:rndF len i x D m=some (D,m):=by
   unfold rndF
   rw [if_pos (h i (Nat.le_refl _) (by rw [List.length_cons];omega))]
  rw [Yk hr]
  exact Zfp fun k h1 h2=>h k (by omega) (by rw [List.length_cons];omega)
theorem Z12 {len e:Nat}:∀{ws:List Tst} {o:Nat} {D:List Int} {m:Int},D.length=len->o+3*ws.length<e->e<len->0<=m->D.getD o 0=0->(∀k,o<k->k<e->D.getD k 0<0)->(D.getD e 0<0\/D.getD e 0=0)->
 ∃D':List Int,fromF len (cdTs e ws) o D m=some (D',if ws= [] then m else max m 1)/\D'.length=len/\D'.getD (o+3*ws.length) 0=0/\D'.getD e 0=(if ws= [] then D.getD e 0 else 0)/\∀k,o+3*ws.length<k->k≠e->D'.getD k 0=D.getD k 0
 | [],o,D,m,h1,h2,h3,hm,h4,h5,h6=>⟨D,rfl,h1,h4,rfl,fun _ _ _=>rfl⟩
 |w::ws,o,D,m,h1,h2,h3,hm,h4,h5,h6=>by
  rw [List.length_cons] at h2⊢
  have r1:=Za1 (x:=iNN 2 w.attr) (m:=m) h1 (show o+1<len by omega) h4 (by decide) (by show (0:Int)<=0;decide) (a:=1) (by show (1:Int)=0-0+1;decide) (by show (2:Int)≠13/\(2:Int)≠14/\(2:Int)≠15/\(2:Int)≠16;decide) (.inl (h5 (o+1) (by omega) (by omega)))
  obtain ⟨D1,hD1⟩:∃D1,D1=D.set (o+1) 1:=⟨_,rfl⟩
  rw [<-hD1] at r1
  have l1:D1.length=len:=by rw [hD1,List.length_set];exact h1
  have g1:D1.getD (o+1) 0=1:=by rw [hD1,Zp,if_pos ⟨rfl,by omega⟩]
  have k1:∀k,o+1<k->D1.getD k 0=D.getD k 0:=fun k hk=>by rw [hD1,Zp,if_neg (by omega)]
  have r2:=Za1 (x:=(⟨12,w.low,w.high⟩:Ins)) (m:=max (max m 0) 1) l1 (show o+1+1<len by omega) g1 (by decide) (by show (1:Int)<=1;decide) (a:=1) (by show (1:Int)=1-1+1;decide) (by show (12:Int)≠13/\(12:Int)≠14/\(12:Int)≠15/\(12:Int)≠16;decide) (.inl (by rw [k1 _ (by omega)];exact h5 _ (by omega) (by omega)))
  obtain ⟨D2,hD2⟩:∃D2,D2=D1.set (o+1+1) 1:=⟨_,rfl⟩
  rw [<-hD2] at r2
  have l2:D2.length=len:=by rw [hD2,List.length_set];exact l1
  have g2:D2.getD (o+1+1) 0=0+1:=by rw [hD2,Zp,if_pos ⟨rfl,by omega⟩];rfl
  have k2:∀k,o+1+1<k->D2.getD k 0=D.getD k 0:=fun k hk=>by rw [hD2,Zp,if_neg (by omega),k1 k (by omega)]
  have r3:=Zn4 (i:=o+1+1) (q:=e) (m:=max (max (max (max m 0) 1) 1) 1) l2 (by omega) h3 g2 (by decide) (by rw [k2 _ (by omega)];exact h6) (.inl (by rw [k2 _ (by omega)];exact h5 _ (by omega) (by omega)))
  obtain ⟨D3,hD3⟩:∃D3,D3=(D2.set e 0).set (o+1+1+1) 0:=⟨_,rfl⟩
  rw [<-hD3] at r3
  have l3:D3.length=len:=by rw [hD3,List.length_set,List.length_set];exact l2
  have g3:D3.getD (o+1+1+1) 0=0:=by rw [hD3,Zp,if_pos ⟨rfl,by rw [List.length_set];omega⟩]
  have g3e:D3.getD e 0=0:=by rw [hD3,Zp,if_neg (by omega),Zp,if_pos ⟨rfl,by omega⟩]
  have k3:∀k,o+1+1+1<k->k≠e->D3.getD k 0=D.getD k 0:=fun k hk hne=>by rw [hD3,Zp,if_neg (by omega),Zp,if_neg (by omega),k2 k (by omega)]
  have em:max (max (max (max (max m 0) 1) 1) 1) (0+1)=max m 1:=by omega
  rw [em] at r3
  obtain ⟨D',f1,f2,f3,f4,f5⟩:=Z12 (ws:=ws) (o:=o+1+1+1) (m:=max m 1) l3 (by omega) h3 (by omega) g3 (fun k a b=>by rw [k3 k a (by omega)];exact h5 k (by omega) b) (.inr g3e)
  refine ⟨D',?_,f2,by rw [show o+3*(ws.length+1)=o+1+1+1+3*ws.length by omega];exact f3,?_,fun k a b=>by rw [f5 k (by omega) b,k3 k (by omega) b]⟩
  · show fromF len (iNN 2 w.attr::⟨12,w.low,w.high⟩::iNN 13 e::cdTs e ws) o D m=_
    rw [Yk r1,Yk r2,Yk r3,f1,if_neg (List.cons_ne_nil w ws)]
    congr 2
    split<;>omega
  · rw [f4,if_neg (List.cons_ne_nil w ws)]
    split
    · exact g3e
    · rfl
theorem Zul (c:Cls) (k o:Nat):(cdC c k o).length=3*c.when_.length+(cdX c.pay (o+3*c.when_.length)).length+1:=by
 unfold cdC
 simp only [List.length_append,Y5,List.length_cons,List.length_nil]
theorem Z78 {len:Nat} {c:Cls} {i o:Nat} {D:List Int} {m:Int} (hf:Zo c.pay=true) (h1:D.length=len) (h2:o+(cdC c i o).length<len) (hm:0<=m) (h4:D.getD o 0=0) (h5:∀k,o<k->k<=o+(cdC c i o).length->D.getD k 0<0):
 ∃D':List Int,fromF len (cdC c i o) o D m=some (D',max m (dpX c.pay))/\D'.length=len/\(if c.when_= [] then D'.getD (o+(cdC c i o).length) 0<0 else D'.getD (o+(cdC c i o).length) 0=0)/\∀k,o+(cdC c i o).length<k->D'.getD k 0=D.getD k 0:=by
 have hp:=Zl6 hf
 rw [Zul] at h2 h5⊢
 obtain ⟨p,hpp⟩:∃p,p=o+3*c.when_.length:=⟨_,rfl⟩
 have hpx:=Z3g hf p
 unfold cdC
 rw [<-hpp] at h2 h5⊢
 simp only
 generalize hA:cdX c.pay p=A at*
 obtain ⟨e,he⟩:∃e,e=p+A.length+1:=⟨_,rfl⟩
 have hee:o+(3*c.when_.length+A.length+1)=e:=by omega
 rw [hee] at h2 h5⊢
 rw [<-he]
 obtain ⟨D1,f1,f2,f3,f4,f5⟩:=Z12 (e:=e) (ws:=c.when_) (o:=o) (m:=m) h1 (by omega) h2 hm h4 (fun k a b=>h5 k a (by omega)) (.inl (h5 e (by omega) (by omega)))
 have ge:D1.getD e 0<0\/D1.getD e 0=0:=by
  rw [f4]
  split
  · exact .inl (h5 e (by omega) (by omega))
  · exact .inr rfl
 rw [<-hpp] at f3 f5
 obtain ⟨m1,hm1,b1⟩:∃m1,(if c.when_= [] then m else max m 1)=m1/\(m<=m1/\m1<=max m 1):=⟨_,rfl,by split<;>omega⟩
 rw [hm1] at f1
 obtain ⟨D2,e2,l2,g2,k2⟩:=Z77 hf (o:=p) (m:=m1) (d:=0) f2 (by rw [hA];omega) f3 (by decide) (by omega) (fun k a b=>by rw [f5 k a (by rw [hA] at b;omega)];exact h5 k (by omega) (by rw [hA] at b;omega)) (.inl (by rw [hA,f5 _ (by omega) (by omega)];exact h5 _ (by omega) (by omega)))
 rw [hA] at e2 g2 k2
 have r3:rndF len (p+A.length) (iNN 15 i) D2 (max m1 (0+dpX c.pay))=some (D2,max (max (max m1 (0+dpX c.pay)) 1) 0):=by
  unfold rndF
  have ho:(iNN 15 (i:Int)).op=15:=rfl
  have hef:eff 15=(1,0):=rfl
  rw [g2,ho,hef,if_neg (by decide),if_neg (by decide)]
  have hx:nextF ((p+A.length:Nat):Int) (iNN 15 i)= []:=rfl
  rw [hx]
  rfl
 refine ⟨D2,?_,l2,?_,fun k hk=>by rw [k2 k (by omega),f5 k (by omega) (by omega)]⟩
 · rw [List.append_assoc,Y6 f1,Y5,<-hpp,Y6 e2,Yk r3]
   show some (_,_)=some (_,_)
   congr 2
   omega
 · rw [k2 e (by omega),f4]
   split
   · exact h5 e (by omega) (by omega)
   · rfl
def dCs:List Cls->Int
 | []=>0
 |c::r=>if c.when_= [] then dpX c.pay else max (dpX c.pay) (dCs r)
theorem Zum:∀{l:List Cls},(∀c∈l,Zo c.pay=true)->0<=dCs l
 | [],_=>Int.le_refl _
 |c::r,h=>by
  have:=Zl6 (h c (by simp))
  unfold dCs
  split<;>omega
theorem Z13 {len:Nat}:∀{l:List Cls} {i o:Nat} {D:List Int} {m:Int},(∀c∈l,Zo c.pay=true)->D.length=len->o+(cdCs l i o).length+1=len->0<=m->D.getD o 0=0->(∀k,o<k->k<len->D.getD k 0<0)->
 ∃D':List Int,fromF len (cdCs l i o++ [iOp 16]) o D m=some (D',max m (dCs l))
 | [],i,o,D,m,hf,h1,h2,hm,h4,h5=>by
  have r:rndF len o (iOp 16) D m=some (D,max (max m 0) 0):=by
   unfold rndF
   have ho:(iOp 16).op=16:=rfl
   have hef:eff 16=(0,0):=rfl
   rw [h4,ho,hef,if_neg (by decide),if_neg (by decide)]
   rfl
  refine ⟨D,?_⟩
  show fromF len [iOp 16] o D m=_
  rw [Yk r]
  show some (_,_)=some (_,_)
  congr 2
  show max (max m 0) 0=max m 0
  omega
 |c::l,i,o,D,m,hf,h1,h2,hm,h4,h5=>by
  have e0:cdCs (c::l) i o=cdC c i o++cdCs l (i+1) (o+(cdC c i o).length):=rfl
  rw [e0,List.length_append] at h2
  rw [e0,List.append_assoc]
  obtain ⟨D1,f1,f2,f3,f4⟩:=Z78 (i:=i) (o:=o) (m:=m) (hf c (by simp)) h1 (by omega) hm h4 (fun k a b=>h5 k a (by omega))
  have hd:=Zl6 (hf c (by simp))
  have hds:=Zum (fun d hd=>hf d (List.mem_cons_of_mem _ hd))
  rw [Y6 f1]
  unfold dCs
  by_cases hw:c.when_= []
  · rw [if_pos hw] at f3⊢
    refine ⟨D1,Zfp fun k a b=> ?_⟩
    rw [List.length_append,List.length_cons,List.length_nil] at b
    by_cases hk:k=o+(cdC c i o).length
    · rw [hk];exact f3
    · rw [f4 k (by omega)];exact h5 k (by omega) (by omega)
  · rw [if_neg hw] at f3⊢
    obtain ⟨D2,e2⟩:=Z13 (l:=l) (i:=i+1) (o:=o+(cdC c i o).length) (m:=max m (dpX c.pay)) (fun d hd=>hf d (List.mem_cons_of_mem _ hd)) f2 (by omega) (by omega) f3 (fun k a b=>by rw [f4 k a];exact h5 k (by omega) b)
    refine ⟨D2,?_⟩
    rw [e2]
    congr 2
    omega
theorem Z3h {x:Ex} (h:Zo x=true):0<=x.n/\x.n<=Z0f x.op:=by
 rw [Zhn,Bool.and_eq_true] at h
 have h1:=h.1
 unfold Zj9 at h1
 simp only [Bool.and_eq_true,Bool.or_eq_true,decide_eq_true_eq] at h1
 exact ⟨h1.1.1.1.1.2,h1.1.1.1.2⟩
theorem Z3i {op:Int} (h1:3<=op) (h2:op<=11\/op=16):formedF (iOp op)=true:=by
 unfold formedF iOp
 simp only
 rw [if_neg (by omega),if_neg (by omega),if_neg (by omega)]
 exact decide_eq_true ⟨h1,by omega,trivial,trivial⟩
theorem fm_n {op n:Int} (h:op=1\/op=13\/op=14\/op=15) (h1:0<=n) (h2:n<=9007199254740992):formedF (iNN op n)=true:=by
 unfold formedF iNN
 simp only
 rw [if_pos h]
 exact decide_eq_true ⟨h1,h2,trivial⟩
theorem fm_2 {n:Int} (h1:0<=n) (h2:n<=15):formedF (iNN 2 n)=true:=by
 unfold formedF iNN
 simp only
 rw [if_neg (by decide),if_pos trivial]
 exact decide_eq_true ⟨h1,h2,trivial⟩
theorem Z79 {a b:Int} (h1:0<=a) (h2:a<=1099511627776) (h3:0<=b) (h4:b<=1099511627776):formedF ⟨12,a,b⟩=true:=by
 unfold formedF
 simp only
 rw [if_neg (by decide),if_neg (by decide),if_pos trivial]
 simp only [decide_eq_true_eq]
 omega
theorem X8:∀(k:Nat) (x:Ex),x.sz<=k->Zo x=true->∀o,o+(cdX x o).length<=9007199254740992->∀y∈cdX x o,formedF y=true
 |0,x,h,_=>by have:=x.sz_pos;omega
 |k+1,x,h,hf=>by
  intro o ho
  have hn:=Z3h hf
  rcases Xf hf with ⟨op,n,a,b,c,e,rfl,q⟩|⟨op,n,a,b,c,e,y,z,rfl,q1,q2,f1,f2⟩|⟨n,a,b,c,e,y,z,u,v,rfl,f1,f2,f3,f4⟩
  · rw [Zqh q]
    intro w hw
    rw [List.mem_singleton.1 hw]
    have hn:0<=n/\n<=Z0f op:=hn
    rcases q with rfl|rfl
    · have:n<=1099511627776:=hn.2
      exact fm_n (.inl rfl) hn.1 (by omega)
    · exact fm_2 hn.1 hn.2
  · rw [sz_2] at h
    rw [Zqi q1 q2] at ho⊢
    simp only [List.length_append,List.length_cons,List.length_nil] at ho
    intro w hw
    rcases List.mem_append.1 hw with hw|hw
    · rcases List.mem_append.1 hw with hw|hw
      · exact X8 k y (by omega) f1 _ (by omega) w hw
      · exact X8 k z (by omega) f2 _ (by omega) w hw
    · rw [List.mem_singleton.1 hw]
      exact Z3i q1 (.inl (by omega))
  · rw [sz_4] at h
    obtain ⟨p,hp⟩:∃p,p=o+(cdX y o).length+(cdX z (o+(cdX y o).length)).length+2:=⟨_,rfl⟩
    obtain ⟨q,hq⟩:∃q,q=p+(cdX u p).length+1:=⟨_,rfl⟩
    rw [Zqj hp hq] at ho⊢
    simp only [List.length_append,List.length_cons] at ho
    intro w hw
    rcases List.mem_append.1 hw with hw|hw
    · rcases List.mem_append.1 hw with hw|hw
      · exact X8 k y (by omega) f1 _ (by omega) w hw
      · exact X8 k z (by omega) f2 _ (by omega) w hw
    · rcases List.mem_cons.1 hw with rfl|hw
      · exact Z3i (by decide) (.inl (by decide))
      · rcases List.mem_cons.1 hw with rfl|hw
        · exact fm_n (.inr (.inl rfl)) (by omega) (by omega)
        · rcases List.mem_append.1 hw with hw|hw
          · exact X8 k u (by omega) f3 _ (by omega) w hw
          · rcases List.mem_cons.1 hw with rfl|hw
            · exact fm_n (.inr (.inr (.inl rfl))) (by omega) (by omega)
            · exact X8 k v (by omega) f4 _ (by omega) w hw
theorem Zds {e:Nat} (he:e<=9007199254740992):∀{ws:List Tst},(∀w∈ws,Yf w=true)->∀y∈cdTs e ws,formedF y=true
 | [],_,y,hy=>by cases hy
 |w::r,h,y,hy=>by
  have hw:=h w (.head _)
  unfold Yf at hw
  have hw:=of_decide_eq_true hw
  rcases List.mem_cons.1 hy with rfl|hy
  · exact fm_2 (by omega) (by omega)
  · rcases List.mem_cons.1 hy with rfl|hy
    · exact Z79 hw.2.2.1 hw.2.2.2.1 hw.2.2.2.2.1 hw.2.2.2.2.2
    · rcases List.mem_cons.1 hy with rfl|hy
      · exact fm_n (.inr (.inl rfl)) (by omega) (by omega)
      · exact Zds he (fun w hw=>h w (.tail _ hw)) y hy
def ClOk (l:List Cls):Prop:=∀c∈l,Zo c.pay=true/\∀w∈c.when_,Yf w=true
theorem Zdt:∀{l:List Cls} {i o:Nat},ClOk l->o+(cdCs l i o).length<=9007199254740992->i+l.length<=9007199254740992->∀y∈cdCs l i o,formedF y=true
 | [],i,o,_,_,_,y,hy=>by cases hy
 |c::r,i,o,h,ho,hi,y,hy=>by
  have e0:cdCs (c::r) i o=cdC c i o++cdCs r (i+1) (o+(cdC c i o).length):=rfl
  rw [e0] at ho hy
  rw [List.length_append] at ho
  rw [List.length_cons] at hi
  have hl:=Zul c i o
  rcases List.mem_append.1 hy with hy|hy
  · unfold cdC at hy
    simp only at hy
    rcases List.mem_append.1 hy with hy|hy
    · rcases List.mem_append.1 hy with hy|hy
      · exact Zds (by omega) (h c (.head _)).2 y hy
      · exact X8 _ _ (Nat.le_refl _) (h c (.head _)).1 _ (by omega) y hy
    · rw [List.mem_singleton.1 hy]
      exact fm_n (.inr (.inr (.inr rfl))) (by omega) (by omega)
  · exact Zdt (fun d hd=>h d (.tail _ hd)) (by omega) (by omega) y hy
theorem Zoc {c:List Ins} {k:Nat} (hk:k<c.length):(deps c).getD k 0=if k=0 then 0 else-1:=by
 unfold deps
 rw [Zp,List.length_replicate]
 by_cases h:k=0
 · subst h;rw [if_pos ⟨rfl,hk⟩,if_pos rfl]
 · rw [if_neg (by omega),if_neg h,List.getD_eq_getElem?_getD,List.getElem?_replicate,if_pos hk];rfl
theorem Zy2 {t:Tar} (h:ClOk t.clauses) (hn:t.clauses.length<=64):verF (cdT t)=if 4096<(cdT t).length\/64<dCs t.clauses then (0,2) else (dCs t.clauses,0):=by
 have hl:(cdT t).length=(cdCs t.clauses 0 0).length+1:=by unfold cdT;simp
 unfold verF
 by_cases h1:4096<(cdT t).length
 · rw [if_pos h1,if_pos (.inl h1)]
 · rw [if_neg h1]
   have hf:(cdT t).all formedF=true:=by
    rw [List.all_eq_true]
    intro y hy
    unfold cdT at hy
    rcases List.mem_append.1 hy with hy|hy
    · exact Zdt h (by omega) (by omega) y hy
    · rw [List.mem_singleton.1 hy]
      exact Z3i (by decide) (.inr rfl)
   rw [if_neg (by rw [hf];rintro (h|h)<;>first|omega|cases h)]
   have hd0:(deps (cdT t)).length=(cdT t).length:=by unfold deps;simp
   obtain ⟨D,e⟩:=Z13 (len:=(cdT t).length) (l:=t.clauses) (i:=0) (o:=0) (D:=deps (cdT t)) (m:=0) (fun c hc=>(h c hc).1) hd0 (by omega) (Int.le_refl _) (by rw [Zoc (by omega),if_pos rfl]) (fun k a b=>by rw [Zoc b,if_neg (by omega)];decide)
   have e:fromF ((cdT t).length:Nat) (cdT t) 0 (deps (cdT t)) 0=some (D,max 0 (dCs t.clauses)):=e
   rw [e]
   have hp:=Zum (l:=t.clauses) fun c hc=>(h c hc).1
   unfold endF
   simp only
   rw [show max 0 (dCs t.clauses)=dCs t.clauses by omega]
   by_cases h2:64<dCs t.clauses
   · rw [if_pos h2,if_pos (.inr h2)]
   · rw [if_neg h2,if_neg (by omega)]
end
section
open Go.RowKit
section
variable {Y:Thy} {E:Eng Y}
def celS (E:Eng Y) (th:Y.Th) (st:Option (List (Y.dom th)×Nat)) (c:Nat):SV Y:=
 match st with
 |some p=> .sl c 0 p.1.length (E.w th) none
 |none=> .val (.slice none 0 0)
def hpP (E:Eng Y) (th:Y.Th) (st:Option (List (Y.dom th)×Nat)):Hp Y:=fun b=>
 match Nat.beq b 0 with
 |true=>some (.raw [celS E th st 1] 0 none)
 |false=>(match Nat.beq b 1 with
  |true=>(match st with|some p=>some (.rows th p.1 p.2)|none=>none)
  |false=>none)
def fzO {α:Type} (st:Option (α×Nat)):Nat:=match st with|some p=>p.2|none=>0
def mdO {α:Type} (st:Option (α×Nat)) (b c:Nat):List Nat:=match st with|some _=> [b,c]|none=> [b]
def prnR (E:Eng Y) (th:Y.Th) (st:Option (List (Y.dom th)×Nat)) (b c i:Nat) (l':List (Y.dom th)):Res Y:=
 ⟨.tup [],1,mdO st b c,fun x=>match Nat.beq x b with|true=>some (.raw [.sl i 0 l'.length (E.w th) none] 0 none)|false=>at1 i (some (.rows th l' (fzO st))) x,none⟩
def PrnC (E:Eng Y) (f:Nat) (th:Y.Th) (args:List (SV Y)) (st:Option (List (Y.dom th)×Nat)) (l':List (Y.dom th)):Prop:=
 ∀(b c:Nat) (h:Hp Y) (i:Nat) (tg:Option Y.Th),h b=some (.raw [celS E th st c] 0 tg)->(∀p,st=some p->h c=some (.rows th p.1 p.2)/\b≠c)->Ug E f (.ptr b 0::args) h i (prnR E th st b c i l')
def prnK (E:Eng Y) (th:Y.Th) (st:Option (List (Y.dom th)×Nat)) (l':List (Y.dom th)) (r:Res Y):Prop:=
 match r.v,patch (hpP E th st) 2 r 0 with
 | .tup [],some (.raw [.sl c 0 n w none] 0 _)=>
  (match Nat.ble 1 c&&Nat.beq w (E.w th),patch (hpP E th st) 2 r c with
  |true,some (.rows th' L fz')=>Zat L fun L=>L=l'/\n=l'.length/\fz'=fzO st
  |_,_=>False)
 |_,_=>False
theorem Z7y (th:Y.Th) (st:Option (List (Y.dom th)×Nat)):hpP E th st 0=some (.raw [celS E th st 1] 0 none):=rfl
theorem Vw {th:Y.Th} {st:Option (List (Y.dom th)×Nat)} {x:Nat} {y:Blk Y} (h:hpP E th st x=some y):(x=0/\y= .raw [celS E th st 1] 0 none)\/(x=1/\∃p,st=some p/\y= .rows th p.1 p.2):=by
 match x,h with
 |0,h=>rw [Z7y] at h;cases h;exact .inl ⟨rfl,rfl⟩
 |1,h=>
  cases st with
  |none=>cases h
  |some p=>
   have h:some (Blk.rows th p.1 p.2:Blk Y)=some y:=h
   cases h
   exact .inr ⟨rfl,p,rfl,rfl⟩
 |x+2,h=>cases h
theorem Z2z (th:Y.Th) (st:Option (List (Y.dom th)×Nat)):DomLt (hpP E th st) 2:=fun b hb=>by
 obtain ⟨y,hy⟩:=Option.ne_none_iff_exists'.1 hb
 rcases Vw hy with ⟨rfl,_⟩|⟨rfl,_⟩<;>omega
def σP {α:Type} (st:Option α) (σ:Pl) (b c:Nat):Pl:=fun x=>
 match Nat.beq x 0 with
 |true=>σ b
 |false=>(match Nat.beq x 1 with
  |true=>(match st with|some _=>σ c|none=>none)
  |false=>none)
theorem σP_cases {α:Type} {st:Option α} {σ:Pl} {b c x:Nat} {q:Nat×Nat} (h:σP st σ b c x=some q):(x=0/\σ b=some q)\/(x=1/\(∃p,st=some p)/\σ c=some q):=by
 match x,h with
 |0,h=>exact .inl ⟨rfl,h⟩
 |1,h=>
  cases st with
  |none=>cases h
  |some p=>exact .inr ⟨rfl,⟨p,rfl⟩,h⟩
 |x+2,h=>cases h
theorem mdO_mem {α:Type} {st:Option (α×Nat)} {b c x:Nat}:x∈mdO st b c↔x=b\/(x=c/\∃p,st=some p):=by
 cases st with
 |none=>simp [mdO]
 |some p=>simp [mdO]
open Classical in
theorem Wg (hE:EngOk E) {call:Nat->List (SV Y)->Hp Y->Nat->(Res Y->Prop)->Prop} (hcall:W6 E call) {f:Nat} {th:Y.Th} {args:List (SV Y)} {st:Option (List (Y.dom th)×Nat)} {l':List (Y.dom th)} (ha:nidL 0 args=true)
 (hk:call f (.ptr 0 0::args) (hpP E th st) 2 (prnK E th st l')):PrnC E f th args st l':=by
 intro b c h i tg hb hc
 obtain ⟨r,hr,hR,htri⟩:=hcall f _ _ _ _ (Z2z th st) hk
 have hmods:∀x∈r.mods,x=0\/(x=1/\∃p,st=some p):=by
  intro x hx
  obtain ⟨y,hy⟩:=Option.ne_none_iff_exists'.1 (hR x hx)
  rcases Vw hy with ⟨h1,_⟩|⟨h1,p,h2,_⟩
  · exact .inl h1
  · exact .inr ⟨h1,p,h2⟩
 unfold prnK at hr
 split at hr
 case h_2=>exact hr.elim
 rename_i c' n' w' tg' hv hp0
 split at hr
 case h_2=>exact hr.elim
 rename_i th' L fz' hc1 hpc
 obtain ⟨e,hr⟩:=Y7 hr
 subst e
 obtain ⟨rfl,rfl,rfl⟩:l'=L/\n'=l'.length/\fz'=fzO st:=⟨hr.1.symm,hr.2⟩
 rw [Bool.and_eq_true,Nat.ble_eq] at hc1
 obtain ⟨hc1,hw⟩:=hc1
 have hw:=gC9 hw
 subst hw
 replace htri:Ug E f (.ptr 0 0::args) (hpP E th' st) 2 r:=htri.resolve_right (by rintro ⟨p,hp,_⟩;rw [hv] at hp;cases hp)
 intro B σ g W vals hh hrd hI hB hfree hd
 obtain rfl:hh=h:=funext fun b=>hrd b trivial
 obtain ⟨rb,zb,hσb,hbo⟩:=hI.blk b _ hb
 have hbn:hh b≠none:=by rw [hb];simp
 have F0:σP st σ b c 0=σ b:=rfl
 have F1:∀p,st=some p->σP st σ b c 1=σ c:=by rintro p rfl;rfl
 have bc:∀p,st=some p->b≠c:=fun p hp=>(hc p hp).2
 have cn:∀p,st=some p->hh c≠none:=fun p hp=>by rw [(hc p hp).1];simp
 have reg:∀p q z z',st=some p->σ b=some (q,z)->σ c=some (q,z')->False:=fun p q z z' hp h1 h2=>bc p hp (hI.inj b c q z z' hbn (cn p hp) h1 h2)
 have hI1:Inv E B (σP st σ b c) (hpP E th' st) g W:=by
  refine ⟨hI.gc,hI.gm,fun x y hx=> ?_,fun x x' r z z' h1 h2 h3 h4=> ?_,fun x r' z' hs=> ?_,fun x y r' z' o v hx hs hv=> ?_,fun x y r' z' hx hs=> ?_,hI.glob⟩
  · rcases Vw hx with ⟨rfl,rfl⟩|⟨rfl,p,hp,rfl⟩
    · refine ⟨rb,zb,hσb,?_⟩
      obtain ⟨arr,e,k1,k2,k3,k4,k5⟩:=hbo
      refine ⟨arr,e,k1,k2,k3,fun j sv hj=> ?_,trivial⟩
      cases j with
      |succ j=>cases hj
      |zero=>
       have hj:some (celS E th' st 1)=some sv:=hj
       cases hj
       obtain ⟨v,m1,m2⟩:=k4 0 _ (show ([celS E th' st c]:List (SV Y))[0]? =some _ from rfl)
       refine ⟨v,m1,?_⟩
       cases st with
       |none=>exact Zu hE m2 (fun b p hb=>by omega) (show nid 0 (celS E th' none 1)=true from rfl)
       |some p=>
        obtain ⟨r1,z1,c1,rfl,k1,k2,k3,k4,k5⟩:=Ww (show Den E σ g (.sl c 0 p.1.length (E.w th') none) v from m2)
        exact .sl (E:=E) (b:=1) k1 k2 k3 k4 k5
    · obtain ⟨r1,z1,k1,arr,e,k2,k3,k4,k5,k6⟩:=hI.blk c _ (hc p hp).1
      refine ⟨r1,z1,(F1 p hp).trans k1,arr,e,k2,k3,k4,fun j sv hj=> ?_,k6⟩
      obtain ⟨v,m1,m2⟩:=k5 j sv hj
      have hn:nid 0 sv=true:=by
       obtain ⟨q,p,x,rfl,hp,hq,hs⟩:=Yv hE th' _ hj
       exact Zn (hE.encI _ _ _) hs
      exact ⟨v,m1,Zu hE m2 (fun b p hb=>by omega) hn⟩
  · rcases σP_cases h3 with ⟨rfl,h3⟩|⟨rfl,⟨p,hp⟩,h3⟩<;>rcases σP_cases h4 with ⟨rfl,h4⟩|⟨rfl,⟨p',hp'⟩,h4⟩
    · rfl
    · exact (reg p' _ _ _ hp' h3 h4).elim
    · exact (reg p _ _ _ hp h4 h3).elim
    · rfl
  · rcases σP_cases hs with ⟨rfl,hs⟩|⟨rfl,_,hs⟩
    · exact hI.base b _ _ hs
    · exact hI.base c _ _ hs
  · rcases Vw hx with ⟨rfl,rfl⟩|⟨rfl,p,hp,rfl⟩
    · have h2:o<0:=hI.fz b _ _ _ o v hb hs hv
      omega
    · rw [F1 p hp] at hs
      exact hI.fz c _ _ _ o v (hc p hp).1 hs hv
  · rcases Vw hx with ⟨rfl,rfl⟩|⟨rfl,p,hp,rfl⟩
    · exact hI.fm b _ _ _ hb hs
    · rw [F1 p hp] at hs
      exact hI.fm c _ _ _ (hc p hp).1 hs
 have hd1:DenL E (σP st σ b c) g (.ptr 0 0::args) vals.toList:=by
  refine ⟨by rw [<-hd.1];rfl,fun j sv u h1 h2=> ?_⟩
  cases j with
  |zero=>
   simp at h1;subst h1
   have:=hd.2 0 _ u rfl h2
   cases this
   rename_i hs
   exact .ptr (E:=E) (b:=0) hs
  |succ j=>
   have h1:args[j]? =some sv:=by simpa using h1
   exact Zu hE (hd.2 (j+1) sv u (by simpa using h1) h2) (fun b p hb=>by omega) (Zn ha h1)
 refine (htri B _ g W vals _ (fun _ _=>rfl) hI1 hB (fun x h1 h2=>by match x,h1 with|x+2,_=>rfl) hd1).mono ?_
 rintro en w' ⟨u,he,σ',g',hS,hI',hv'⟩
 have hs0:σ' 0=some (rb,zb):=hS.sig 0 _ hσb
 obtain ⟨r1,z1,k1⟩:∃r1 z1,σ' c'=some (r1,z1):=by
  obtain ⟨r1,z1,m1,_⟩:=hI'.blk c' _ hpc
  exact ⟨r1,z1,m1⟩
 have hc0:c'≠0:=by omega
 have hne0:patch (hpP E th' st) 2 r 0≠none:=by rw [hp0];simp
 have hnec:patch (hpP E th' st) 2 r c'≠none:=by rw [hpc];simp
 have hrb:r1≠rb:=by
  rintro rfl
  exact hc0 (hI'.inj c' 0 _ _ _ hnec hne0 k1 hs0)
 have hr1:W.heap.size<=r1\/∃z' p,st=some p/\σ c=some (r1,z'):=by
  cases hs1:σP st σ b c c' with
  |some q=>
   have:=hS.sig c' _ hs1
   rw [k1] at this;cases this
   rcases σP_cases hs1 with ⟨h0,_⟩|⟨_,⟨p,hp⟩,h2⟩
   · exact absurd h0 hc0
   · exact .inr ⟨z1,p,hp,h2⟩
  |none=>
   rcases hS.blk c' r1 z1 hs1 k1 with h1|⟨b',h1,z',h2⟩
   · exact .inl h1
   · rcases σP_cases h2 with ⟨rfl,h3⟩|⟨_,⟨p,hp⟩,h3⟩
     · rw [hσb] at h3;cases h3;exact absurd rfl hrb
     · exact .inr ⟨z',p,hp,h3⟩
 have hheap:∀q,q<W.heap.size->q≠rb->(∀p z,st=some p->σ c≠some (q,z))->w'.heap[q]? =W.heap[q]? :=by
  intro q hq hne hne2
  refine hS.heap q hq fun b' hb' z' hz'=> ?_
  rcases σP_cases hz' with ⟨rfl,h2⟩|⟨_,⟨p,hp⟩,h2⟩
  · rw [hσb] at h2;cases h2;exact hne rfl
  · exact hne2 p z' hp h2
 have hi:σ i=none:=hfree i (Nat.le_refl _) (by show i<i+1;omega)
 have hbi:b≠i:=by rintro rfl;rw [hσb] at hi;cases hi
 have hci:∀p,st=some p->c≠i:=by
  rintro p hp rfl
  obtain ⟨r2,z2,m1,_⟩:=hI.blk c _ (hc p hp).1
  rw [hi] at m1;cases m1
 have hpatch:∀x,patch hh i (prnR E th' st b c i l') x=if x=b then some (.raw [.sl i 0 l'.length (E.w th') none] 0 none) else if x=i then some (.rows th' l' (fzO st)) else if x=c/\(∃p,st=some p) then none else hh x:=by
  intro x
  rw [Zf]
  by_cases e1:x=b
  · subst e1
    rw [if_pos (.inl (mdO_mem.2 (.inl rfl))),if_pos rfl]
    show (match Nat.beq x x with|true=>_|false=>_)=_
    rw [Nat.beq_refl]
  · rw [if_neg e1]
    have hb1:Nat.beq x b=false:=by
     cases e:Nat.beq x b with
     |true=>exact absurd (gC9 e) e1
     |false=>rfl
    have hh1:(prnR E th' st b c i l').h x=at1 i (some (.rows th' l' (fzO st))) x:=by
     show (match Nat.beq x b with|true=>_|false=>_)=_
     rw [hb1]
    by_cases e2:x=i
    · subst e2
      rw [if_pos (.inr ⟨Nat.le_refl _,(by show x<x+1;omega)⟩),if_pos rfl,hh1]
      unfold at1
      rw [Nat.beq_refl]
    · rw [if_neg e2]
      have hat:at1 i (some (.rows th' l' (fzO st):Blk Y)) x=none:=by
       unfold at1
       cases e:Nat.beq x i with
       |true=>exact absurd (gC9 e) e2
       |false=>rfl
      by_cases e3:x=c/\∃p,st=some p
      · rw [if_pos e3,if_pos (.inl (mdO_mem.2 (.inr e3))),hh1,hat]
      · rw [if_neg e3,if_neg]
        rintro (k|k)
        · rcases mdO_mem.1 k with k|k
          · exact e1 k
          · exact e3 k
        · have k:i<=x/\x<i+1:=k
          omega
 have src:∀x y,patch hh i (prnR E th' st b c i l') x=some y->(x=b/\y= .raw [.sl i 0 l'.length (E.w th') none] 0 none)\/(x=i/\y= .rows th' l' (fzO st))\/(x≠i/\x≠b/\(∀p,st=some p->x≠c)/\hh x=some y):=by
  intro x y hy
  rw [hpatch] at hy
  split at hy
  · rename_i e
    cases hy
    exact .inl ⟨e,rfl⟩
  · rename_i e
    split at hy
    · rename_i e2
      cases hy
      exact .inr (.inl ⟨e2,rfl⟩)
    · rename_i e2
      split at hy
      · cases hy
      · rename_i e3
        exact .inr (.inr ⟨e2,e,fun p hp hx=>e3 ⟨hx,p,hp⟩,hy⟩)
 have sgi:(match Nat.beq i i with|true=>σ' c'|false=>σ i)=some (r1,z1):=by rw [Nat.beq_refl];exact k1
 have sgx:∀x,x≠i->(match Nat.beq x i with|true=>σ' c'|false=>σ x)=σ x:=by
  intro x hx
  cases e:Nat.beq x i with
  |true=>exact absurd (gC9 e) hx
  |false=>rfl
 have far:∀x y q z',x≠b->(∀p,st=some p->x≠c)->hh x=some y->σ x=some (q,z')->q<W.heap.size/\q≠rb/\(∀p z,st=some p->σ c≠some (q,z)):=by
  intro x y q z' hx hx2 hy hs
  have hxn:hh x≠none:=by rw [hy];simp
  refine ⟨(hI.base x q z' hs).2,?_,fun p z hp hq=>hx2 p hp (hI.inj x c _ _ _ hxn (cn p hp) hs hq)⟩
  rintro rfl
  exact hx (hI.inj x b _ _ _ hxn hbn hs hσb)
 have far1:∀x y q z',x≠b->(∀p,st=some p->x≠c)->hh x=some y->σ x=some (q,z')->q≠r1:=by
  rintro x y q z' hx hx2 hy hs rfl
  obtain ⟨m1,m2,m3⟩:=far x y q z' hx hx2 hy hs
  rcases hr1 with h1|⟨z2,p,hp,h1⟩
  · omega
  · exact m3 p z2 hp h1
 have far0:rb<W.heap.size:=(hI.base b _ _ hσb).2
 refine ⟨_,he,fun x=>match Nat.beq x i with|true=>σ' c'|false=>σ x,g',⟨fun x p hx=> ?_,fun x p hx=> ?_,hS.gle,fun q o v hv=> ?_,hS.gmnew,fun q hq hne=> ?_,hS.size,hS.os,hS.tape,hS.output,fun x q z' hx hx'=> ?_⟩,?_,?_⟩
 · exact (sgx x (fun e=>by rw [e,hi] at hx;cases hx)).trans hx
 · by_cases e:x=i
   · exact .inr (by show i<=x/\x<i+1;omega)
   · have hx:(match Nat.beq x i with|true=>σ' c'|false=>σ x)=some p:=hx
     rw [sgx x e] at hx
     exact .inl hx
 · rcases hS.gcnew q o v hv with h1|h1|⟨b',h1,z',h2⟩
   · exact .inl h1
   · exact .inr (.inl h1)
   · rcases σP_cases h2 with ⟨rfl,h2⟩|⟨_,hp,h2⟩
     · exact .inr (.inr ⟨b,mdO_mem.2 (.inl rfl),_,h2⟩)
     · exact .inr (.inr ⟨c,mdO_mem.2 (.inr ⟨rfl,hp⟩),_,h2⟩)
 · exact hheap q hq (fun e=>hne b (mdO_mem.2 (.inl rfl)) zb (by rw [hσb,e])) fun p z hp=>hne c (mdO_mem.2 (.inr ⟨rfl,p,hp⟩)) z
 · have hx':(match Nat.beq x i with|true=>σ' c'|false=>σ x)=some (q,z'):=hx'
   by_cases e:x=i
   · subst e
     rw [sgi] at hx';cases hx'
     rcases hr1 with h1|⟨z2,p,hp,h1⟩
     · exact .inl h1
     · exact .inr ⟨c,mdO_mem.2 (.inr ⟨rfl,p,hp⟩),z2,h1⟩
   · rw [sgx x e,hx] at hx';cases hx'
 · refine ⟨hI'.gc,hI'.gm,fun x y hx=> ?_,fun x x' q z1' z2' h1 h2 h3 h4=> ?_,fun x q z' hs=> ?_,fun x y q z' o v hx hs hv=> ?_,fun x y q z' hx hs=> ?_,hI'.glob⟩
   · rcases src x y hx with ⟨rfl,rfl⟩|⟨rfl,rfl⟩|⟨e1,e2,e3,e4⟩
     · refine ⟨rb,zb,(sgx x hbi).trans hσb,?_⟩
       obtain ⟨r2,z2,m1,arr,e,n1,n2,n3,n4,n5⟩:=hI'.blk 0 _ hp0
       rw [hs0] at m1;cases m1
       refine ⟨arr,e,n1,n2,n3,fun j sv hj=> ?_,trivial⟩
       cases j with
       |succ j=>cases hj
       |zero=>
        have hj:some (SV.sl i 0 l'.length (E.w th') none:SV Y)=some sv:=hj
        cases hj
        obtain ⟨v,q1,q2⟩:=n4 0 _ (show ([.sl c' 0 l'.length (E.w th') none]:List (SV Y))[0]? =some _ from rfl)
        refine ⟨v,q1,?_⟩
        obtain ⟨r3,z3,c3,rfl,u1,u2,u3,u4,u5⟩:=Ww (show Den E σ' g' (.sl c' 0 l'.length (E.w th') none) v from q2)
        refine .sl (E:=E) (b:=i) (z:=z3) ?_ u2 u3 u4 u5
        show (match Nat.beq i i with|true=>σ' c'|false=>σ i)=_
        rw [Nat.beq_refl]
        exact u1
     · refine ⟨r1,z1,sgi,?_⟩
       obtain ⟨r2,z2,m1,m2⟩:=hI'.blk c' _ hpc
       rw [k1] at m1;cases m1
       obtain ⟨arr,e,m1,m3,m4,m5,m6⟩:=m2
       refine ⟨arr,e,m1,m3,m4,fun j sv hj=> ?_,m6⟩
       obtain ⟨v,n1,n2⟩:=m5 j sv hj
       have hn:nid 0 sv=true:=by
        obtain ⟨q,p,x,rfl,hp,hq,hs⟩:=Yv hE th' _ hj
        exact Zn (hE.encI _ _ _) hs
       exact ⟨v,n1,Zu hE n2 (fun b p hb=>by omega) hn⟩
     · obtain ⟨q,z',m1,m2⟩:=hI.blk x y e4
       obtain ⟨m3,m4,m5⟩:=far x y q z' e2 e3 e4 m1
       refine ⟨q,z',(sgx x e1).trans m1,?_⟩
       refine m2.mono (fun x p hx=> ?_) hS.gle (hheap q m3 m4 m5)
       show (match Nat.beq x i with|true=>σ' c'|false=>σ x)=some p
       rw [sgx x (fun e=>by rw [e,hi] at hx;cases hx)]
       exact hx
   · obtain ⟨y,hy⟩:=Option.ne_none_iff_exists'.1 h1
     obtain ⟨y',hy'⟩:=Option.ne_none_iff_exists'.1 h2
     rcases src x y hy with ⟨rfl,rfl⟩|⟨rfl,rfl⟩|⟨e1,e2,e3,e4⟩<;>rcases src x' y' hy' with ⟨rfl,rfl⟩|⟨rfl,rfl⟩|⟨d1,d2,d3,d4⟩
     · rfl
     · rw [sgx x hbi,hσb] at h3;cases h3
       rw [sgi] at h4;cases h4
       exact absurd rfl hrb
     · rw [sgx x hbi,hσb] at h3;cases h3
       rw [sgx x' d1] at h4
       exact absurd rfl (far x' y' _ _ d2 d3 d4 h4).2.1
     · rw [sgi] at h3;cases h3
       rw [sgx x' hbi,hσb] at h4;cases h4
       exact absurd rfl hrb
     · rfl
     · rw [sgi] at h3;cases h3
       rw [sgx x' d1] at h4
       exact absurd rfl (far1 x' y' _ _ d2 d3 d4 h4)
     · rw [sgx x' hbi,hσb] at h4;cases h4
       rw [sgx x e1] at h3
       exact absurd rfl (far x y _ _ e2 e3 e4 h3).2.1
     · rw [sgi] at h4;cases h4
       rw [sgx x e1] at h3
       exact absurd rfl (far1 x y _ _ e2 e3 e4 h3)
     · rw [sgx x e1] at h3
       rw [sgx x' d1] at h4
       exact hI.inj x x' q _ _ (by rw [e4];simp) (by rw [d4];simp) h3 h4
   · by_cases e:x=i
     · subst e
       rw [sgi] at hs;cases hs
       exact hI'.base c' _ _ k1
     · rw [sgx x e] at hs
       exact ⟨(hI.base x q z' hs).1,Nat.lt_of_lt_of_le (hI.base x q z' hs).2 hS.size⟩
   · rcases src x y hx with ⟨rfl,rfl⟩|⟨rfl,rfl⟩|⟨e1,e2,e3,e4⟩
     · rw [sgx x hbi,hσb] at hs;cases hs
       have h2:o<0:=hI'.fz 0 _ _ _ o v hp0 hs0 hv
       omega
     · rw [sgi] at hs;cases hs
       exact hI'.fz c' _ _ _ o v hpc k1 hv
     · rw [sgx x e1] at hs
       obtain ⟨m3,m4,m5⟩:=far x y q z' e2 e3 e4 hs
       rcases hS.gcnew q o v hv with h1|h1|⟨b',h1,z2,h2⟩
       · exact hI.fz x y q z' o v e4 hs h1
       · omega
       · rcases σP_cases h2 with ⟨rfl,h3⟩|⟨_,⟨p,hp⟩,h3⟩
         · rw [hσb] at h3;cases h3;exact absurd rfl m4
         · exact absurd h3 (m5 p z2 hp)
   · rcases src x y hx with ⟨rfl,rfl⟩|⟨rfl,rfl⟩|⟨e1,e2,e3,e4⟩
     · rw [sgx x hbi,hσb] at hs;cases hs
       exact hI'.fm 0 _ _ _ hp0 hs0
     · rw [sgi] at hs;cases hs
       exact hI'.fm c' _ _ _ hpc k1
     · rw [sgx x e1] at hs
       obtain ⟨m3,m4,m5⟩:=far x y q z' e2 e3 e4 hs
       cases hg':g'.obj q with
       |none=>rfl
       |some es=>
        rcases hS.gmnew q es hg' with k|k
        · rw [hI.fm x y q z' e4 hs] at k;cases k
        · omega
 · rw [hv] at hv'
   exact Zu hE hv' (fun b p hb=>by omega) (show nid 0 (SV.tup ([]:List (SV Y)))=true from rfl)
def sumB (E:Eng Y) (th:Y.Th) {α:Type} (d:DcL E α) (pre:List (Y.dom th)->α->Prop) (f:List (Y.dom th)->α->List (Y.dom th)):Sum Y:=fun args h i k=>
 match args with
 | .ptr b 0::rest=>
  (match h b,d.dec rest with
  |some (.raw [.sl c 0 len w none] 0 _),some x=>
   (match h c,Nat.beq w (E.w th)&& !(Nat.beq b c) with
   |some (.rows th' l fz),true=>Zat l fun l=>(len=l.length/\fz<=l.length/\pre l x)/\∀l',l'=f l x->k (prnR E th (some (l,fz)) b c i l')
   |_,_=>False)
  |some (.raw [.val (.slice none 0 0)] 0 _),some x=>pre [] x/\∀l',l'=f [] x->k (prnR E th none b 0 i l')
  |_,_=>False)
 |_=>False
def Z20 (E:Eng Y) (f:Nat) (th:Y.Th) (args:List (SV Y)) (F:List (Y.dom th)->List (Y.dom th)) (P:List (Y.dom th)->Prop):Prop:=
 (∀l fz,fz<=l.length->P l->PrnC E f th args (some (l,fz)) (F l))/\(P []->PrnC E f th args none (F []))
theorem PrnC.of_dec {α:Type} {d:DcL E α} {f:Nat} {th:Y.Th} {args:List (SV Y)} {x:α} {st:Option (List (Y.dom th)×Nat)} {l':List (Y.dom th)} (hd:d.dec args=some x) (h:PrnC E f th (d.enc x) st l'):PrnC E f th args st l':=by
 obtain ⟨k1,k2,k3⟩:=d.ok _ _ hd
 intro b c hp i tg h1 h2 B σ g w vals hh hrd hI hB hfree hden
 refine h b c hp i tg h1 h2 B σ g w vals hh hrd hI hB hfree ⟨?_,fun j sv' u h5 h6=> ?_⟩
 · rw [<-hden.1,List.length_cons,List.length_cons,k2]
 · cases j with
   |zero=>exact hden.2 0 sv' u h5 h6
   |succ j=>
    obtain ⟨sv,h7,h8⟩:=k3 σ g j sv' (by simpa using h5)
    exact h8 u (hden.2 (j+1) sv u (by simpa using h7) h6)
theorem Ztm (hE:EngOk E) {th:Y.Th} {α:Type} {f:Nat} (hg:FnGood E.P f) {d:DcL E α} {pre:List (Y.dom th)->α->Prop} {F:List (Y.dom th)->α->List (Y.dom th)} (hp:∀x,Z20 E f th (d.enc x) (fun l=>F l x) (fun l=>pre l x)):SumOk E f (sumB E th d pre F):=by
 refine ⟨hg,fun args h i k hD hk=> ?_⟩
 unfold sumB at hk
 split at hk
 case h_2=>exact hk.elim
 rename_i b rest
 split at hk
 case h_3=>exact hk.elim
 · rename_i c len w tg x hb hx
   split at hk
   case h_2=>exact hk.elim
   rename_i th' l fz hc hw
   rw [Bool.and_eq_true,Bool.not_eq_true'] at hw
   obtain ⟨hw,hbc⟩:=hw
   have hw:=gC9 hw
   have hbc:=nb hbc
   obtain ⟨e,hk2⟩:=Y7 hk
   clear hk
   subst e
   subst hw
   obtain ⟨⟨rfl,hfz,hpr⟩,hk3⟩:=hk2
   refine ⟨_,hk3 _ rfl,fun b' hb'=> ?_,.inl (PrnC.of_dec hx ((hp x).1 l fz hfz hpr) b c h i tg hb fun p hp=> ?_)⟩
   · rcases mdO_mem.1 (show b'∈mdO (some (l,fz)) b c from hb') with rfl|⟨rfl,_⟩
     · rw [hb];simp
     · rw [hc];simp
   · cases hp
     exact ⟨hc,hbc⟩
 · rename_i tg x hb hx
   obtain ⟨hpr,hk3⟩:=hk
   refine ⟨_,hk3 _ rfl,fun b' hb'=> ?_,.inl (PrnC.of_dec hx ((hp x).2 hpr) b 0 h i tg hb fun p hp=>by cases hp)⟩
   rcases mdO_mem.1 (show b'∈mdO (none:Option (List (Y.dom th)×Nat)) b 0 from hb') with rfl|⟨_,_,h2⟩
   · rw [hb];simp
   · cases h2
end
end
section
open Go
def Zwr:Sum thy:=sumF E (fun _=>none) 10 (dA1 (dR .tariffs)) (fun x=>(∀c∈Tar.clauses x.1,c.pay.sz<1000000000000/\c.when_.length<1000000000000)/\(Tar.clauses x.1).length<1000000000000) fun x=> .int false .i64 (Wz x.1)
theorem Zku:SumOk E 13 Zwr:=Zus E_ok (Zb (f:=13) rfl) fun x h=>Zsa _ h.1 h.2
end
section
open Go
def Scx (m:Nat):Sum thy:=sumB E Th.ins dExp (fun (l:List Ins) x=>x.1.sz<m/\Zo x.1=true/\l.length+(cdX x.1 l.length).length<=1000000000) fun (l:List Ins) x=>l++cdX x.1 l.length
def Fcx (m:Nat):Fns thy:=addS F0 (52) (Scx m)
abbrev qCB1 (a0:Ex):=(Ex.mk (Ex.op a0) (Ex.n a0) (Ex.d0 a0) (Ex.d1 a0) (Ex.d2 a0) (Ex.d3 a0) (Ex.l a0))
abbrev qCBb:=(1:Nat)
abbrev qCB2 (a0:List Ins):=(List.length a0+qCBb)
abbrev qCB3 (a0:List Ins):=(List.length a0)
abbrev qCB4 (a0:List Ins) (b0:List Ins) (c0:Nat) (d0:Ex) (e0:Nat):=(List.length a0=List.length a0/\fzO (some (b0,c0))<=List.length a0/\Ex.sz (qCB1 d0)+qCBb<=e0/\Zo (qCB1 d0)=true/\List.length a0+List.length (cdX (qCB1 d0) (qCB3 a0))<=(1000000000:Nat))
abbrev qCB5:=(0:Int)
abbrev qCB6 (a0:Ex):=(↑(List.length (Ex.l a0)):Int)
abbrev qCB7 (a0:List Ins) (b0:Nat) (c0:Ex) (d0:Nat):=(List.length a0=List.length a0/\b0<=List.length a0/\Ex.sz (qCB1 c0)+qCBb<=d0/\Zo (qCB1 c0)=true/\List.length a0+List.length (cdX (qCB1 c0) (qCB3 a0))<=(1000000000:Nat))
abbrev qCB8 (a0:List Ins) (b0:List Ins) (c0:Nat):=(some (a0,fzO (some (b0,c0))))
abbrev qCB9:=(140737488355328:Nat)
abbrev qCBa:=(1:Int)
theorem Zzb (m:Nat) (l:List Ins) (fz:Nat) (x:Ex) (l':List Ins):Zi E F0 (vc E (Fcx m) 400) 52 [.ptr 0 0,exA x] (hpP E Th.ins (some (l,fz))) 2 (prnK E Th.ins (some (l,fz)) l')=(
 ((Ex.op x==qCBa)=true->(List.length l<=List.length l/\fz<=List.length l/\(qCB2 l)*(24:Nat)<=qCB9)/\∀(l'_1:List Ins),l'_1=List.take (qCB3 l) l++ [Ins.mk qCBa (Ex.n x) qCB5]->l'_1=l'/\List.length l+qCBb=List.length l'/\fz=fzO (some (l,fz)))/\((Ex.op x==qCBa)=false->((Ex.op x==(2:Int))=true->(List.length l<=List.length l/\fz<=List.length l/\(qCB2 l)*(24:Nat)<=qCB9)/\∀(l'_1:List Ins),l'_1=List.take (qCB3 l) l++ [Ins.mk (2:Int) (Ex.n x) qCB5]->l'_1=l'/\List.length l+qCBb=List.length l'/\fz=fzO (some (l,fz)))/\((Ex.op x==(2:Int))=false->((Ex.op x==(11:Int))=true->qCB5<=qCB5/\qCB5+qCBa<=(qCB6 x)/\∀(x_1:Ex),(Ex.l x)[Int.toNat qCB5]? =some x_1->(qCB7 l fz x_1 m)/\∀(l'_1:List Ins),l'_1=l++cdX (qCB1 x_1) (qCB3 l)->qCB5<=qCBa/\qCBa+qCBa<=(qCB6 x)/\∀(x_2:Ex),(Ex.l x)[Int.toNat qCBa]? =some x_2->(qCB4 l'_1 l fz x_2 m)/\∀(l'_2:List Ins),l'_2=l'_1++cdX (qCB1 x_2) (qCB3 l'_1)->(List.length l'_2<=List.length l'_2/\fzO (qCB8 l'_1 l fz)<=List.length l'_2/\(qCB2 l'_2)*(24:Nat)<=qCB9)/\∀(l'_3:List Ins),l'_3=List.take (qCB3 l'_2) l'_2++ [Ins.mk (11:Int) qCB5 qCB5]->(List.length l'_2+qCBb<=List.length l'_3/\fzO (qCB8 l'_1 l fz)<=List.length l'_2+qCBb/\(List.length l'_2+qCBb+qCBb)*(24:Nat)<=qCB9)/\∀(l'_4:List Ins),l'_4=List.take (qCB2 l'_2) l'_3++ [Ins.mk (13:Int) qCB5 qCB5]->qCB5<=(2:Int)/\(2:Int)+qCBa<=(qCB6 x)/\∀(x_3:Ex),(Ex.l x)[Int.toNat (2:Int)]? =some x_3->(List.length l'_2+qCBb+qCBb=List.length l'_4/\fzO (qCB8 l'_1 l fz)<=List.length l'_4/\Ex.sz (qCB1 x_3)+qCBb<=m/\Zo (qCB1 x_3)=true/\List.length l'_4+List.length (cdX (qCB1 x_3) (qCB3 l'_4))<=(1000000000:Nat))/\∀(l'_5:List Ins),l'_5=l'_4++cdX (qCB1 x_3) (qCB3 l'_4)->(List.length l'_5<=List.length l'_5/\fzO (some (l'_4,fzO (qCB8 l'_1 l fz)))<=List.length l'_5/\(qCB2 l'_5)*(24:Nat)<=qCB9)/\∀(l'_6:List Ins),l'_6=List.take (qCB3 l'_5) l'_5++ [Ins.mk (14:Int) qCB5 qCB5]->(qCB5<=(↑(qCB2 l'_2):Int)/\(↑(qCB2 l'_2):Int)+qCBa<=(↑(qCB2 l'_5):Int))/\fzO (some (l'_4,fzO (qCB8 l'_1 l fz)))<=(0:Nat)+Int.toNat (↑(qCB2 l'_2):Int)/\(0:Nat)+Int.toNat (↑(qCB2 l'_2):Int)+qCBb<=List.length l'_6/\∀(x_4:Ins),l'_6[(0:Nat)+Int.toNat (↑(qCB2 l'_2):Int)]? =some x_4->∀(l'_7:List Ins),l'_7=List.set l'_6 ((0:Nat)+Int.toNat (↑(qCB2 l'_2):Int)) (Ins.mk (Ins.op x_4) (↑(qCB2 l'_5):Int) (Ins.m x_4))->qCB5<=(3:Int)/\(3:Int)+qCBa<=(qCB6 x)/\∀(x_5:Ex),(Ex.l x)[Int.toNat (3:Int)]? =some x_5->(List.length l'_5+qCBb=List.length l'_7/\fzO (some (l'_4,fzO (qCB8 l'_1 l fz)))<=List.length l'_7/\Ex.sz (qCB1 x_5)+qCBb<=m/\Zo (qCB1 x_5)=true/\List.length l'_7+List.length (cdX (qCB1 x_5) (qCB3 l'_7))<=(1000000000:Nat))/\∀(l'_8:List Ins),l'_8=l'_7++cdX (qCB1 x_5) (qCB3 l'_7)->(qCB5<=(↑(qCB3 l'_5):Int)/\(↑(qCB3 l'_5):Int)+qCBa<=(↑(qCB3 l'_8):Int))/\fzO (some (l'_7,fzO (some (l'_4,fzO (qCB8 l'_1 l fz)))))<=(0:Nat)+Int.toNat (↑(qCB3 l'_5):Int)/\(0:Nat)+Int.toNat (↑(qCB3 l'_5):Int)+qCBb<=List.length l'_8/\∀(x:Ins),l'_8[(0:Nat)+Int.toNat (↑(qCB3 l'_5):Int)]? =some x->∀(l'_9:List Ins),l'_9=List.set l'_8 ((0:Nat)+Int.toNat (↑(qCB3 l'_5):Int)) (Ins.mk (Ins.op x) (↑(qCB3 l'_8):Int) (Ins.m x))->l'_9=l'/\List.length l'_8=List.length l'/\fzO (some (l'_7,fzO (some (l'_4,fzO (qCB8 l'_1 l fz)))))=fzO (some (l,fz)))/\((Ex.op x==(11:Int))=false->qCB5<=qCB5/\qCB5+qCBa<=(qCB6 x)/\∀(x_1:Ex),(Ex.l x)[Int.toNat qCB5]? =some x_1->(qCB7 l fz x_1 m)/\∀(l'_1:List Ins),l'_1=l++cdX (qCB1 x_1) (qCB3 l)->qCB5<=qCBa/\qCBa+qCBa<=(qCB6 x)/\∀(x_2:Ex),(Ex.l x)[Int.toNat qCBa]? =some x_2->(qCB4 l'_1 l fz x_2 m)/\∀(l'_2:List Ins),l'_2=l'_1++cdX (qCB1 x_2) (qCB3 l'_1)->(List.length l'_2<=List.length
l'_2/\fzO (qCB8 l'_1 l fz)<=List.length l'_2/\(qCB2 l'_2)*(24:Nat)<=qCB9)/\∀(l'_3:List Ins),l'_3=List.take (qCB3 l'_2) l'_2++ [Ins.mk (wr IntKind.i64 (wr IntKind.i64 ((3:Int)+Ex.op x)-(3:Int))) qCB5 qCB5]->l'_3=l'/\List.length l'_2+qCBb=List.length l'/\fzO (qCB8 l'_1 l fz)=fzO (some (l,fz)))))):=by kernel_rfl
abbrev qCBc (a0:Ex):=(Ex.mk (Ex.op a0) (Ex.n a0) (Ex.d0 a0) (Ex.d1 a0) (Ex.d2 a0) (Ex.d3 a0) (Ex.l a0))
abbrev qCBd:=(none:Option (List Ins×Nat))
abbrev qCBm:=(1:Nat)
abbrev qCBe (a0:List Ins):=(List.length a0+qCBm)
abbrev qCBi (a0:List Ins):=(List.length a0)
abbrev qCBf (a0:List Ins) (b0:Ex) (c0:Nat):=(List.length a0=List.length a0/\fzO qCBd<=List.length a0/\Ex.sz (qCBc b0)+qCBm<=c0/\Zo (qCBc b0)=true/\List.length a0+List.length (cdX (qCBc b0) (qCBi a0))<=(1000000000:Nat))
abbrev qCBg:=(0:Int)
abbrev qCBh (a0:Ex):=(↑(List.length (Ex.l a0)):Int)
abbrev qCBo:=(0:Nat)
abbrev qCBj (a0:Ex) (b0:Nat):=(Ex.sz (qCBc a0)+qCBm<=b0/\Zo (qCBc a0)=true/\qCBo+List.length (cdX (qCBc a0) qCBo)<=(1000000000:Nat))
abbrev qCBk (a0:List Ins):=(some (a0,fzO qCBd))
abbrev qCBl:=(1:Int)
abbrev qCBn (a0:List Ins) (b0:List Ins):=(List.length a0<=List.length a0/\fzO (qCBk b0)<=List.length a0/\(qCBe a0)*(24:Nat)<=(140737488355328:Nat))
theorem Zzc (m:Nat) (x:Ex) (l':List Ins):Zi E F0 (vc E (Fcx m) 400) 52 [.ptr 0 0,exA x] (hpP E Th.ins none) 2 (prnK E Th.ins none l')=(
 ((Ex.op x==qCBl)=true-> [Ins.mk qCBl (Ex.n x) qCBg]=l'/\qCBm=List.length l'/\qCBo=fzO qCBd)/\((Ex.op x==qCBl)=false->((Ex.op x==(2:Int))=true-> [Ins.mk (2:Int) (Ex.n x) qCBg]=l'/\qCBm=List.length l'/\qCBo=fzO qCBd)/\((Ex.op x==(2:Int))=false->((Ex.op x==(11:Int))=true->qCBg<=qCBg/\qCBg+qCBl<=(qCBh x)/\∀(x_1:Ex),(Ex.l x)[Int.toNat qCBg]? =some x_1->(qCBj x_1 m)/\∀(l'_1:List Ins),l'_1= []++cdX (qCBc x_1) qCBo->qCBg<=qCBl/\qCBl+qCBl<=(qCBh x)/\∀(x_2:Ex),(Ex.l x)[Int.toNat qCBl]? =some x_2->(qCBf l'_1 x_2 m)/\∀(l'_2:List Ins),l'_2=l'_1++cdX (qCBc x_2) (qCBi l'_1)->(qCBn l'_2 l'_1)/\∀(l'_3:List Ins),l'_3=List.take (qCBi l'_2) l'_2++ [Ins.mk (11:Int) qCBg qCBg]->(List.length l'_2+qCBm<=List.length l'_3/\fzO (qCBk l'_1)<=List.length l'_2+qCBm/\(List.length l'_2+qCBm+qCBm)*(24:Nat)<=(140737488355328:Nat))/\∀(l'_4:List Ins),l'_4=List.take (qCBe l'_2) l'_3++ [Ins.mk (13:Int) qCBg qCBg]->qCBg<=(2:Int)/\(2:Int)+qCBl<=(qCBh x)/\∀(x_3:Ex),(Ex.l x)[Int.toNat (2:Int)]? =some x_3->(List.length l'_2+qCBm+qCBm=List.length l'_4/\fzO (qCBk l'_1)<=List.length l'_4/\Ex.sz (qCBc x_3)+qCBm<=m/\Zo (qCBc x_3)=true/\List.length l'_4+List.length (cdX (qCBc x_3) (qCBi l'_4))<=(1000000000:Nat))/\∀(l'_5:List Ins),l'_5=l'_4++cdX (qCBc x_3) (qCBi l'_4)->(List.length l'_5<=List.length l'_5/\fzO (some (l'_4,fzO (qCBk l'_1)))<=List.length l'_5/\(qCBe l'_5)*(24:Nat)<=(140737488355328:Nat))/\∀(l'_6:List Ins),l'_6=List.take (qCBi l'_5) l'_5++ [Ins.mk (14:Int) qCBg qCBg]->(qCBg<=(↑(qCBe l'_2):Int)/\(↑(qCBe l'_2):Int)+qCBl<=(↑(qCBe l'_5):Int))/\fzO (some (l'_4,fzO (qCBk l'_1)))<=qCBo+Int.toNat (↑(qCBe l'_2):Int)/\qCBo+Int.toNat (↑(qCBe l'_2):Int)+qCBm<=List.length l'_6/\∀(x_4:Ins),l'_6[qCBo+Int.toNat (↑(qCBe l'_2):Int)]? =some x_4->∀(l'_7:List Ins),l'_7=List.set l'_6 (qCBo+Int.toNat (↑(qCBe l'_2):Int)) (Ins.mk (Ins.op x_4) (↑(qCBe l'_5):Int) (Ins.m x_4))->qCBg<=(3:Int)/\(3:Int)+qCBl<=(qCBh x)/\∀(x_5:Ex),(Ex.l x)[Int.toNat (3:Int)]? =some x_5->(List.length l'_5+qCBm=List.length l'_7/\fzO (some (l'_4,fzO (qCBk l'_1)))<=List.length l'_7/\Ex.sz (qCBc x_5)+qCBm<=m/\Zo (qCBc x_5)=true/\List.length l'_7+List.length (cdX (qCBc x_5) (qCBi l'_7))<=(1000000000:Nat))/\∀(l'_8:List Ins),l'_8=l'_7++cdX (qCBc x_5) (qCBi l'_7)->(qCBg<=(↑(qCBi l'_5):Int)/\(↑(qCBi l'_5):Int)+qCBl<=(↑(qCBi l'_8):Int))/\fzO (some (l'_7,fzO (some (l'_4,fzO (qCBk l'_1)))))<=qCBo+Int.toNat (↑(qCBi l'_5):Int)/\qCBo+Int.toNat (↑(qCBi l'_5):Int)+qCBm<=List.length l'_8/\∀(x:Ins),l'_8[qCBo+Int.toNat (↑(qCBi l'_5):Int)]? =some x->∀(l'_9:List Ins),l'_9=List.set l'_8 (qCBo+Int.toNat (↑(qCBi l'_5):Int)) (Ins.mk (Ins.op x) (↑(qCBi l'_8):Int) (Ins.m x))->l'_9=l'/\List.length l'_8=List.length l'/\fzO (some (l'_7,fzO (some (l'_4,fzO (qCBk l'_1)))))=fzO qCBd)/\((Ex.op x==(11:Int))=false->qCBg<=qCBg/\qCBg+qCBl<=(qCBh x)/\∀(x_1:Ex),(Ex.l x)[Int.toNat qCBg]? =some x_1->(qCBj x_1 m)/\∀(l'_1:List Ins),l'_1= []++cdX (qCBc x_1) qCBo->qCBg<=qCBl/\qCBl+qCBl<=(qCBh x)/\∀(x_2:Ex),(Ex.l x)[Int.toNat qCBl]? =some x_2->(qCBf l'_1 x_2 m)/\∀(l'_2:List Ins),l'_2=l'_1++cdX (qCBc x_2) (qCBi l'_1)->(qCBn l'_2 l'_1)/\∀(l'_3:List Ins),l'_3=List.take (qCBi l'_2) l'_2++ [Ins.mk (wr IntKind.i64 (wr IntKind.i64 ((3:Int)+Ex.op x)-(3:Int))) qCBg qCBg]->l'_3=l'/\List.length l'_2+qCBm=List.length l'/\fzO (qCBk l'_1)=fzO qCBd)))):=by kernel_rfl
theorem Zfr (op n a b c d:Int) (l:List Ex):Ex.op (.mk op n a b c d l)=op:=rfl
theorem Z59 (op n a b c d:Int) (l:List Ex):Ex.n (.mk op n a b c d l)=n:=rfl
theorem Zzd (op n a b c d:Int) (l:List Ex):Ex.l (.mk op n a b c d l)=l:=rfl
theorem Zmb {α:Type} {A r:List α} {a x:α} {k:Nat} (hk:k=A.length) (h:(A++a::r)[k]? =some x):x=a:=by
 subst hk
 simpa using h.symm
theorem Zmc {α:Type} {A r:List α} {a b:α} {k:Nat} (hk:k=A.length):(A++a::r).set k b=A++b::r:=by
 subst hk
 simp
theorem Z6a {n a b c d:Int} {x y z w:Ex} {l l1 l2 l3 l4 l5 l6 l7 l8 l9:List Ins} {i4 i8:Ins} (e1:l1=l++cdX x l.length) (e2:l2=l1++cdX y l1.length) (e3:l3=l2.take l2.length++ [iOp 11])
 (e4:l4=l3.take (l2.length+1)++ [iOp 13]) (e5:l5=l4++cdX z l4.length) (e6:l6=l5.take l5.length++ [iOp 14]) (g4:l6[l2.length+1]? =some i4) (e7:l7=l6.set (l2.length+1) (Ins.mk i4.op (↑(l5.length+1):Int) i4.m))
 (e8:l8=l7++cdX w l7.length) (g8:l8[l5.length]? =some i8) (e9:l9=l8.set l5.length (Ins.mk i8.op (↑l8.length:Int) i8.m)):
 l9=l++cdX (.mk 11 n a b c d [x,y,z,w]) l.length/\l8.length=(l++cdX (.mk 11 n a b c d [x,y,z,w]) l.length).length:=by
 have n1:l1.length=l.length+(cdX x l.length).length:=by rw [e1,List.length_append]
 have n2:l2.length=l1.length+(cdX y l1.length).length:=by rw [e2,List.length_append]
 have e3:l3=l2++ [iOp 11]:=by rw [e3,List.take_length]
 have n3:l3.length=l2.length+1:=by rw [e3];simp
 have e4:l4=l3++ [iOp 13]:=by rw [e4,<-n3,List.take_length]
 have n4:l4.length=l2.length+2:=by rw [e4];simp [n3]
 have n5:l5.length=l4.length+(cdX z l4.length).length:=by rw [e5,List.length_append]
 have e6:l6=l3++iOp 13::(cdX z l4.length++ [iOp 14]):=by rw [e6,List.take_length,e5,e4];simp
 have h4:i4=iOp 13:=Zmb n3.symm (e6▸g4)
 subst h4
 have e7:l7=l3++iNN 13 (↑(l5.length+1):Int)::(cdX z l4.length++ [iOp 14]):=by rw [e7,e6,Zmc n3.symm];rfl
 have n7:l7.length=l5.length+1:=by rw [e7];simp;omega
 have e7':l7=(l3++iNN 13 (↑(l5.length+1):Int)::cdX z l4.length)++ [iOp 14]:=by rw [e7];simp
 have nB:l5.length=(l3++iNN 13 (↑(l5.length+1):Int)::cdX z l4.length).length:=by simp;omega
 generalize hB:l3++iNN 13 (↑(l5.length+1):Int)::cdX z l4.length=B at e7' nB
 have e8':l8=B++iOp 14::cdX w l7.length:=by rw [e8];conv=>{lhs;lhs;rw [e7']};simp
 have h8:i8=iOp 14:=Zmb nB (e8'▸g8)
 subst h8
 have n8:l8.length=l7.length+(cdX w l7.length).length:=by rw [e8,List.length_append]
 have e9:l9=B++iNN 14 (↑l8.length:Int)::cdX w l7.length:=by
  have hs:=Zmc (b:=iNN 14 (↑l8.length:Int)) (r:=cdX w l7.length) (a:=iOp 14) nB
  rw [<-e8'] at hs
  exact e9.trans hs
 have n9:l9.length=l8.length:=by rw [e9,e8'];simp
 have fin:l9=l++cdX (.mk 11 n a b c d [x,y,z,w]) l.length:=by
  have e2':l2=l++(cdX x l.length++cdX y l1.length):=by
   have:l1++cdX y l1.length=l++(cdX x l.length++cdX y l1.length):=by
    conv=>{lhs;lhs;rw [e1]}
    rw [List.append_assoc]
   exact e2.trans this
  rw [Zqj (p:=l4.length) (q:=l7.length) (by rw [n4,n2,n1]) (by rw [n7,n5]),<-n1,e9,<-hB,e3,e2',<-n8,<-n7]
  simp [List.append_assoc]
 exact ⟨fin,by rw [<-fin,n9]⟩
theorem Z14 {n a b c d:Int} {x y z w:Ex} {o p q:Nat} (hp:p=o+(cdX x o).length+(cdX y (o+(cdX x o).length)).length+2) (hq:q=p+(cdX z p).length+1):
 o+(cdX (.mk 11 n a b c d [x,y,z,w]) o).length=q+(cdX w q).length:=by
 rw [Zqj hp hq]
 simp
 omega
def CxOk (m:Nat):Prop:=∀x:Ex×Unit,Z20 E 52 Th.ins (dExp.enc x) (fun (l:List Ins)=>l++cdX x.1 l.length) (fun (l:List Ins)=>x.1.sz<m/\Zo x.1=true/\l.length+(cdX x.1 l.length).length<=1000000000)
theorem Z15 {m:Nat} (h:CxOk m):SumOk E 52 (Scx m):=Ztm E_ok (Zb rfl) h
theorem Z16 {m:Nat} (h:CxOk m):FnsOk E (Fcx m):=Zc F0_ok (Z15 h)
theorem bf {a b:Int} (h:a≠b):(a==b)=false:=by simp [h]
theorem Z6b {m:Nat} {l:List Ins} {fz:Nat} {x:Ex} (hf:fz<=l.length) (hs:x.sz<m+1) (hx:Zo x=true) (hl:l.length+(cdX x l.length).length<=1000000000):
 Zi E F0 (vc E (Fcx m) 400) 52 [.ptr 0 0,exA x] (hpP E Th.ins (some (l,fz))) 2 (prnK E Th.ins (some (l,fz)) (l++cdX x l.length)):=by
 rw [Zzb];delta qCB1 qCBb qCB2 qCB3 qCB4 qCB5 qCB6 qCB7 qCB8 qCB9 qCBa
 simp only [Ex.eta]
 rcases Xf hx with ⟨op,n,a,b,c,d,rfl,ho⟩|⟨op,n,a,b,c,d,y,z,rfl,h3,h10,fy,fz'⟩|⟨n,a,b,c,d,y,z,u,v,rfl,fy,fz',fu,fv⟩
 · rw [Zqh ho] at hl⊢
   simp only [Zfr,Z59,List.take_length,fzO]
   have hl:l.length+1<=1000000000:=hl
   have key:∀k:Int,op=k->(l.length<=l.length/\fz<=l.length/\(l.length+1)*24<=140737488355328)/\∀l'_1:List Ins,l'_1=l++ [Ins.mk k n 0]->l'_1=l++ [iNN op n]/\l.length+1=(l++ [iNN op n]).length/\True:=by
    rintro k rfl
    refine ⟨⟨Nat.le_refl _,hf,by omega⟩,?_⟩
    rintro l1 rfl
    exact ⟨rfl,by simp,trivial⟩
   rcases ho with rfl|rfl
   · exact ⟨fun _=>key 1 rfl,fun q=>by simp at q⟩
   · exact ⟨fun q=>by simp at q,fun _=>⟨fun _=>key 2 rfl,fun q=>by simp at q⟩⟩
 · rw [sz_2] at hs
   rw [Zqi h3 h10] at hl⊢
   simp only [Zfr,Zzd]
   refine ⟨fun q=>absurd q (by rw [bf (by omega)];simp),fun _=>⟨fun q=>absurd q (by rw [bf (by omega)];simp),fun _=>⟨fun q=>absurd q (by rw [bf (by omega)];simp),fun _=> ?_⟩⟩⟩
   simp only [List.length_append,List.length_cons,List.length_nil] at hl
   refine ⟨by decide,by simp,fun x1 g1=> ?_⟩
   obtain rfl:y=x1:=by simpa using g1
   refine ⟨⟨trivial,hf,by omega,fy,by omega⟩,fun l1 e1=>⟨by decide,by simp,fun x2 g2=> ?_⟩⟩
   obtain rfl:z=x2:=by simpa using g2
   have n1:l1.length=l.length+(cdX y l.length).length:=by rw [e1,List.length_append]
   rw [<-n1] at hl⊢
   have w1:fz<=l1.length:=by omega
   refine ⟨⟨trivial,w1,by omega,fz',by omega⟩,fun l2 e2=> ?_⟩
   have n2:l2.length=l1.length+(cdX z l1.length).length:=by rw [e2,List.length_append]
   have w2:fz<=l2.length:=by omega
   refine ⟨⟨Nat.le_refl _,w2,by omega⟩,fun l3 e3=> ?_⟩
   have wo:wr .i64 (wr .i64 (3+op)-3)=op:=by rw [wr64 (n:=3+op) (by omega) (by omega),wr64 (by omega) (by omega)];omega
   rw [wo,List.take_length] at e3
   have fin:l3=l++(cdX y l.length++cdX z l1.length++ [iOp op]):=by rw [e3,e2];conv=>{lhs;lhs;lhs;rw [e1]};simp [iOp]
   exact ⟨fin,by rw [<-fin,e3];simp,rfl⟩
 · rw [sz_4] at hs
   simp only [Zfr,Zzd]
   refine ⟨fun q=>absurd q (by decide),fun _=>⟨fun q=>absurd q (by decide),fun _=>⟨fun _=> ?_,fun q=>absurd q (by decide)⟩⟩⟩
   rw [Z14 rfl rfl] at hl
   refine ⟨by decide,by simp,fun x1 g1=> ?_⟩
   obtain rfl:y=x1:=by simpa using g1
   have hb:l.length+(cdX y l.length).length<=1000000000:=by omega
   refine ⟨⟨trivial,hf,by omega,fy,hb⟩,fun l1 e1=>⟨by decide,by simp,fun x2 g2=> ?_⟩⟩
   obtain rfl:z=x2:=by simpa using g2
   have n1:l1.length=l.length+(cdX y l.length).length:=by rw [e1,List.length_append]
   rw [<-n1] at hl
   have w1:fz<=l1.length:=by omega
   refine ⟨⟨trivial,w1,by omega,fz',by omega⟩,fun l2 e2=> ?_⟩
   have n2:l2.length=l1.length+(cdX z l1.length).length:=by rw [e2,List.length_append]
   rw [<-n2] at hl
   have w2:fz<=l2.length:=by omega
   refine ⟨⟨Nat.le_refl _,w2,by omega⟩,fun l3 e3=> ?_⟩
   have n3:l3.length=l2.length+1:=by rw [e3];simp
   refine ⟨⟨by omega,Nat.le_succ_of_le w2,by omega⟩,fun l4 e4=>⟨by decide,by simp,fun x3 g3=> ?_⟩⟩
   obtain rfl:u=x3:=by simpa using g3
   have n4:l4.length=l2.length+2:=by rw [e4];simp;omega
   rw [<-n4] at hl
   have w4:fz<=l4.length:=by omega
   refine ⟨⟨n4.symm,w4,by omega,fu,by omega⟩,fun l5 e5=> ?_⟩
   have n5:l5.length=l4.length+(cdX u l4.length).length:=by rw [e5,List.length_append]
   rw [<-n5] at hl
   have w5:fz<=l5.length:=by omega
   refine ⟨⟨Nat.le_refl _,w5,by omega⟩,fun l6 e6=>⟨⟨by omega,by omega⟩,?_⟩⟩
   have n6:l6.length=l5.length+1:=by rw [e6];simp
   have t1:(0:Nat)+Int.toNat (↑(l2.length+1):Int)=l2.length+1:=by omega
   have t2:(0:Nat)+Int.toNat (↑l5.length:Int)=l5.length:=by omega
   simp only [t1,t2]
   refine ⟨(by omega:fz<=l2.length+1),by omega,fun i4 g4 l7 e7=>⟨by decide,by simp,fun x4 gx=> ?_⟩⟩
   obtain rfl:v=x4:=by simpa using gx
   have n7:l7.length=l5.length+1:=by rw [e7,List.length_set,n6]
   rw [<-n7] at hl
   have w7:fz<=l7.length:=by omega
   refine ⟨⟨n7.symm,w7,by omega,fv,by omega⟩,fun l8 e8=> ?_⟩
   have n8:l8.length=l7.length+(cdX v l7.length).length:=by rw [e8,List.length_append]
   refine ⟨⟨by omega,by omega⟩,w5,by omega,fun i8 g8 l9 e9=> ?_⟩
   obtain ⟨r1,r2⟩:=Z6a (n:=n) (a:=a) (b:=b) (c:=c) (d:=d) e1 e2 e3 e4 e5 e6 g4 e7 e8 g8 e9
   exact ⟨r1,r2,rfl⟩
theorem Z6c {m:Nat} {x:Ex} (hs:x.sz<m+1) (hx:Zo x=true) (hl:([]:List Ins).length+(cdX x ([]:List Ins).length).length<=1000000000):
 Zi E F0 (vc E (Fcx m) 400) 52 [.ptr 0 0,exA x] (hpP E Th.ins none) 2 (prnK E Th.ins none (([]:List Ins)++cdX x ([]:List Ins).length)):=by
 rw [Zzc];delta qCBc qCBd qCBm qCBe qCBi qCBf qCBg qCBh qCBo qCBj qCBk qCBl qCBn
 simp only [Ex.eta]
 rcases Xf hx with ⟨op,n,a,b,c,d,rfl,ho⟩|⟨op,n,a,b,c,d,y,z,rfl,h3,h10,fy,fz'⟩|⟨n,a,b,c,d,y,z,u,v,rfl,fy,fz',fu,fv⟩
 · rw [Zqh ho] at hl⊢
   simp only [Zfr,Z59]
   rcases ho with rfl|rfl
   · exact ⟨fun _=>⟨rfl,rfl,rfl⟩,fun q=>by simp at q⟩
   · exact ⟨fun q=>by simp at q,fun _=>⟨fun _=>⟨rfl,rfl,rfl⟩,fun q=>by simp at q⟩⟩
 · rw [sz_2] at hs
   rw [Zqi h3 h10] at hl⊢
   simp only [Zfr,Zzd]
   refine ⟨fun q=>absurd q (by rw [bf (by omega)];simp),fun _=>⟨fun q=>absurd q (by rw [bf (by omega)];simp),fun _=>⟨fun q=>absurd q (by rw [bf (by omega)];simp),fun _=> ?_⟩⟩⟩
   simp only [List.length_append,List.length_cons,List.length_nil] at hl
   refine ⟨by decide,by simp,fun x1 g1=> ?_⟩
   obtain rfl:y=x1:=by simpa using g1
   refine ⟨⟨by omega,fy,by omega⟩,fun l1 e1=>⟨by decide,by simp,fun x2 g2=> ?_⟩⟩
   obtain rfl:z=x2:=by simpa using g2
   have n1:l1.length=([]:List Ins).length+(cdX y ([]:List Ins).length).length:=by rw [e1,List.length_append];rfl
   rw [<-List.length_nil (α:=Ins),<-n1] at hl
   rw [<-n1]
   have w1:0<=l1.length:=by omega
   refine ⟨⟨trivial,w1,by omega,fz',by omega⟩,fun l2 e2=> ?_⟩
   have n2:l2.length=l1.length+(cdX z l1.length).length:=by rw [e2,List.length_append]
   have w2:0<=l2.length:=by omega
   refine ⟨⟨Nat.le_refl _,w2,by omega⟩,fun l3 e3=> ?_⟩
   have wo:wr .i64 (wr .i64 (3+op)-3)=op:=by rw [wr64 (n:=3+op) (by omega) (by omega),wr64 (by omega) (by omega)];omega
   rw [wo,List.take_length] at e3
   have fin:l3=([]:List Ins)++(cdX y ([]:List Ins).length++cdX z l1.length++ [iOp op]):=by rw [e3,e2];conv=>{lhs;lhs;lhs;rw [e1]};simp [iOp]
   exact ⟨fin,by rw [<-fin,e3];simp,rfl⟩
 · rw [sz_4] at hs
   simp only [Zfr,Zzd]
   refine ⟨fun q=>absurd q (by decide),fun _=>⟨fun q=>absurd q (by decide),fun _=>⟨fun _=> ?_,fun q=>absurd q (by decide)⟩⟩⟩
   rw [Z14 rfl rfl] at hl
   refine ⟨by decide,by simp,fun x1 g1=> ?_⟩
   obtain rfl:y=x1:=by simpa using g1
   have hb:([]:List Ins).length+(cdX y ([]:List Ins).length).length<=1000000000:=by omega
   refine ⟨⟨by omega,fy,hb⟩,fun l1 e1=>⟨by decide,by simp,fun x2 g2=> ?_⟩⟩
   obtain rfl:z=x2:=by simpa using g2
   have n1:l1.length=([]:List Ins).length+(cdX y ([]:List Ins).length).length:=by rw [e1,List.length_append];rfl
   rw [<-n1] at hl
   have w1:0<=l1.length:=by omega
   refine ⟨⟨trivial,w1,by omega,fz',by omega⟩,fun l2 e2=> ?_⟩
   have n2:l2.length=l1.length+(cdX z l1.length).length:=by rw [e2,List.length_append]
   rw [<-n2] at hl
   have w2:0<=l2.length:=by omega
   refine ⟨⟨Nat.le_refl _,w2,by omega⟩,fun l3 e3=> ?_⟩
   have n3:l3.length=l2.length+1:=by rw [e3];simp
   refine ⟨⟨by omega,Nat.le_succ_of_le w2,by omega⟩,fun l4 e4=>⟨by decide,by simp,fun x3 g3=> ?_⟩⟩
   obtain rfl:u=x3:=by simpa using g3
   have n4:l4.length=l2.length+2:=by rw [e4];simp;omega
   rw [<-n4] at hl
   have w4:0<=l4.length:=by omega
   refine ⟨⟨n4.symm,w4,by omega,fu,by omega⟩,fun l5 e5=> ?_⟩
   have n5:l5.length=l4.length+(cdX u l4.length).length:=by rw [e5,List.length_append]
   rw [<-n5] at hl
   have w5:0<=l5.length:=by omega
   refine ⟨⟨Nat.le_refl _,w5,by omega⟩,fun l6 e6=>⟨⟨by omega,by omega⟩,?_⟩⟩
   have n6:l6.length=l5.length+1:=by rw [e6];simp
   have t1:(0:Nat)+Int.toNat (↑(l2.length+1):Int)=l2.length+1:=by omega
   have t2:(0:Nat)+Int.toNat (↑l5.length:Int)=l5.length:=by omega
   simp only [t1,t2]
   refine ⟨(by omega:0<=l2.length+1),by omega,fun i4 g4 l7 e7=>⟨by decide,by simp,fun x4 gx=> ?_⟩⟩
   obtain rfl:v=x4:=by simpa using gx
   have n7:l7.length=l5.length+1:=by rw [e7,List.length_set,n6]
   rw [<-n7] at hl
   have w7:0<=l7.length:=by omega
   refine ⟨⟨n7.symm,w7,by omega,fv,by omega⟩,fun l8 e8=> ?_⟩
   have n8:l8.length=l7.length+(cdX v l7.length).length:=by rw [e8,List.length_append]
   refine ⟨⟨by omega,by omega⟩,w5,by omega,fun i8 g8 l9 e9=> ?_⟩
   obtain ⟨r1,r2⟩:=Z6a (l:= []) (n:=n) (a:=a) (b:=b) (c:=c) (d:=d) e1 e2 e3 e4 e5 e6 g4 e7 e8 g8 e9
   exact ⟨r1,r2,rfl⟩
theorem Zmd:∀m,CxOk m
 |0=>fun x=>⟨fun l fz hf hp=>absurd hp.1 (by omega),fun hp=>absurd hp.1 (by omega)⟩
 |m+1=>fun x=>⟨fun l fz hf hp=>Wg E_ok (Y4 E_ok F0_ok fun f N c=>(Ze6 E_ok (Z16 (Zmd m)) 400 f N c).1) rfl (Z6b hf hp.1 hp.2.1 hp.2.2),
  fun hp=>Wg E_ok (Y4 E_ok F0_ok fun f N c=>(Ze6 E_ok (Z16 (Zmd m)) 400 f N c).1) rfl (Z6c hp.1 hp.2.1 hp.2.2)⟩
end
section
open Go
def clB (c:Cls):SV thy:= .agg (encF false .clauses c)
def FclC:Fns thy:={addS F0 (52) (Scx 1000000000) with dfl:=20}
def Zyr (l':List Ins) (n F F1:Nat):List Nat->List Ins->Prop
 | [],L=>L=l'/\n=l'.length/\F=F1
 |p::r,L=>((0:Int)<=(↑p:Int)/\(↑p:Int)+1<=(↑n:Int))/\F<=0+Int.toNat (↑p:Int)/\0+Int.toNat (↑p:Int)+1<=L.length/\∀x:Ins,L[0+Int.toNat (↑p:Int)]? =some x->∀L':List Ins,L'=L.set (0+Int.toNat (↑p:Int)) (Ins.mk x.op (↑n:Int) x.m)->Zyr l' n F F1 r L'
def clX (c:Cls):Ex:=Ex.mk (Ex.op c.pay) (Ex.n c.pay) (Ex.d0 c.pay) (Ex.d1 c.pay) (Ex.d2 c.pay) (Ex.d3 c.pay) (Ex.l c.pay)
def Z3a (c:Cls) (k:Int) (l':List Ins) (F F1:Nat) (ps:List Nat) (L1:List Ins):Prop:=
 (L1.length<=L1.length/\F<=L1.length/\(L1.length+1)*24<=140737488355328)/\∀L2:List Ins,L2=L1.take L1.length++ [Ins.mk 15 k 0]->Zyr l' (L1.length+1) F F1 ps L2
def Zuc (c:Cls) (k:Int) (l':List Ins) (fz F1:Nat) (ps:List Nat) (L:List Ins) (n:Nat):Prop:=
 (n=L.length/\fz<=L.length/\(clX c).sz+1<=1000000000/\Zo (clX c)=true/\L.length+(cdX (clX c) L.length).length<=1000000000)/\∀L1:List Ins,L1=L++cdX (clX c) L.length->Z3a c k l' (fzO (some (L,fz))) F1 ps L1
def Z3b (x:Tst) (fz:Nat) (L1:List Ins) (n:Nat) (K:List Ins->Prop):Prop:=
 (n<=L1.length/\fz<=n/\(n+1)*24<=140737488355328)/\∀L2:List Ins,L2=L1.take n++ [Ins.mk 12 x.low x.high]->(n+1<=L2.length/\fz<=n+1/\(n+1+1)*24<=140737488355328)/\∀L3:List Ins,L3=L2.take (n+1)++ [Ins.mk 13 0 0]->K L3
def Zys (c:Cls) (k:Int) (l':List Ins) (fz F1:Nat):Nat->Nat->List Nat->List Ins->Nat->Prop
 |0,j,ps,L,n=>(decide ((↑j:Int)<(↑c.when_.length:Int))=true->(0:Int)<=(↑j:Int)/\(↑j:Int)+1<=(↑c.when_.length:Int)/\∀x:Tst,c.when_[Int.toNat (↑j:Int)]? =some x->(n<=L.length/\fz<=n/\(n+1)*24<=140737488355328)/\∀L1:List Ins,L1=L.take n++ [Ins.mk 2 x.attr 0]->False)/\(decide ((↑j:Int)<(↑c.when_.length:Int))=false->Zuc c k l' fz F1 ps L n)
 |f+1,j,ps,L,n=>(decide ((↑j:Int)<(↑c.when_.length:Int))=true->(0:Int)<=(↑j:Int)/\(↑j:Int)+1<=(↑c.when_.length:Int)/\∀x:Tst,c.when_[Int.toNat (↑j:Int)]? =some x->(n<=L.length/\fz<=n/\(n+1)*24<=140737488355328)/\∀L1:List Ins,L1=L.take n++ [Ins.mk 2 x.attr 0]->
  Z3b x fz L1 (n+1) fun L3=>Zys c k l' fz F1 f (j+1) ((n+1+1)::ps) L3 (n+1+1+1))/\(decide ((↑j:Int)<(↑c.when_.length:Int))=false->Zuc c k l' fz F1 ps L n)
theorem Zyt (l:List Ins) (fz:Nat) (c:Cls) (k:Int) (l':List Ins):Zi E FclC (vc E FclC 400) 23 [.ptr 0 0,clB c,.int false .i64 k] (hpP E Th.ins (some (l,fz))) 2 (prnK E Th.ins (some (l,fz)) l')=
 Zys c k l' fz (fzO (some (l,fz))) 8 0 [] l l.length:=by kernel_rfl
theorem Zyu (c:Cls) (k:Int) (l':List Ins):Zi E FclC (vc E FclC 400) 23 [.ptr 0 0,clB c,.int false .i64 k] (hpP E Th.ins none) 2 (prnK E Th.ins none l')=
 ((decide ((0:Int)<(↑c.when_.length:Int))=true->(0:Int)<=0/\(0:Int)+1<=(↑c.when_.length:Int)/\∀x:Tst,c.when_[Int.toNat 0]? =some x->Z3b x 0 [Ins.mk 2 x.attr 0] 1 fun L3=>Zys c k l' 0 (fzO (none:Option (List Ins×Nat))) 7 1 [1+1] L3 (1+1+1))/\
  (decide ((0:Int)<(↑c.when_.length:Int))=false->((clX c).sz+1<=1000000000/\Zo (clX c)=true/\0+(cdX (clX c) 0).length<=1000000000)/\∀L1:List Ins,L1= []++cdX (clX c) 0->Z3a c k l' (fzO (none:Option (List Ins×Nat))) (fzO (none:Option (List Ins×Nat))) [] L1)):=by kernel_rfl
theorem Z51 (c:Cls):clX c=c.pay:=Ex.eta c.pay
theorem Zgx (e:Nat):∀a b:List Tst,cdTs e (a++b)=cdTs e a++cdTs e b
 | [],_=>rfl
 |x::r,b=>by simp [cdTs,Zgx e r b]
def psOf (o:Nat):Nat->List Nat
 |0=> []
 |j+1=>(o+3*j+2)::psOf o j
theorem Zn5 {l r:List Ins} {ws:List Tst} {n F:Nat} (hF:F<=l.length) (hn:n=(l++cdTs n ws++r).length):∀(i:Nat) (L:List Ins),i<=ws.length->L=l++(cdTs 0 (ws.take i)++cdTs n (ws.drop i))++r->Zyr (l++cdTs n ws++r) n F F (psOf l.length i) L
 |0,L,_,h=>⟨by rw [h];simp [cdTs],hn,rfl⟩
 |i+1,L,hi,h=>by
  have hi':i<ws.length:=hi
  have hw:ws[i]? =some ws[i]:=gB9 hi'
  have et:ws.take (i+1)=ws.take i++ [ws[i]]:=by rw [List.take_add_one,hw];rfl
  have ed:ws.drop i=ws[i]::ws.drop (i+1):=List.drop_eq_getElem_cons hi'
  have tl:(cdTs 0 (ws.take i)).length=3*i:=by rw [Y5,List.length_take];omega
  have nl:n=l.length+3*ws.length+r.length:=by rw [hn];simp [Y5];omega
  have hp:0+Int.toNat (↑(l.length+3*i+2):Int)=l.length+3*i+2:=by omega
  have hA:l.length+3*i+2=(l++cdTs 0 (ws.take i)++ [iNN 2 ws[i].attr,⟨12,ws[i].low,ws[i].high⟩]).length:=by simp [tl];omega
  have hL:L=(l++cdTs 0 (ws.take i)++ [iNN 2 ws[i].attr,⟨12,ws[i].low,ws[i].high⟩])++iNN 13 0::(cdTs n (ws.drop (i+1))++r):=by
   rw [h,et,Zgx];simp [cdTs]
  unfold psOf Zyr
  rw [hp]
  refine ⟨by omega,by omega,by rw [hL];simp [tl];omega,fun x hx L' e=> ?_⟩
  obtain rfl:x=iNN 13 0:=Zmb hA (hL▸hx)
  refine Zn5 hF hn i L' (by omega) ?_
  rw [e,hL,Zmc hA,ed]
  simp [cdTs,iNN]
theorem Zn6 {c:Cls} {k:Nat} {l L:List Ins} {fz n:Nat} (hf:fz<=l.length) (hs:c.pay.sz+1<=1000000000) (hx:Zo c.pay=true) (hl:l.length+(cdC c k l.length).length<=1000000000) (hL:L=l++cdTs 0 c.when_) (hn:n=L.length):
 Zuc c ↑k (l++cdC c k l.length) fz fz (psOf l.length c.when_.length) L n:=by
 have nL:L.length=l.length+3*c.when_.length:=by rw [hL];simp [Y5]
 have cl:(cdC c k l.length).length=3*c.when_.length+(cdX c.pay (l.length+3*c.when_.length)).length+1:=by unfold cdC;simp [Y5];omega
 unfold Zuc
 rw [Z51]
 refine ⟨⟨hn,by omega,hs,hx,by rw [nL];omega⟩,fun L1 e1=> ?_⟩
 have n1:L1.length=L.length+(cdX c.pay L.length).length:=by rw [e1];simp
 rw [nL] at n1 e1
 have hf2:fzO (some (L,fz))=fz:=rfl
 unfold Z3a
 rw [hf2]
 refine ⟨⟨Nat.le_refl _,by omega,by omega⟩,fun L2 e2=> ?_⟩
 have et:l++cdC c k l.length=l++cdTs (L1.length+1) c.when_++(cdX c.pay (l.length+3*c.when_.length)++ [iNN 15 k]):=by
  unfold cdC
  rw [n1]
  simp
 rw [et]
 refine Zn5 hf ?_ c.when_.length L2 (Nat.le_refl _) ?_
 · simp [Y5];omega
 · rw [e2,List.take_length,e1,hL]
   simp [cdTs,iNN]
theorem Zn7 {x:Tst} {fz n:Nat} {L A:List Ins} {K:List Ins->Prop} (hL:L=A++ [iNN 2 x.attr]) (hn:n=L.length) (hf:fz<=n) (hb:n<=1000000000) (hk:K (A++cdTs 0 [x])):Z3b x fz L n K:=by
 subst hn
 refine ⟨⟨Nat.le_refl _,hf,by omega⟩,fun L2 e2=> ?_⟩
 rw [List.take_length] at e2
 have n2:L2.length=L.length+1:=by rw [e2];simp
 refine ⟨⟨by omega,by omega,by omega⟩,fun L3 e3=> ?_⟩
 rw [<-n2,List.take_length,e2,hL] at e3
 have:A++cdTs 0 [x]=L3:=by rw [e3];simp [cdTs,iNN]
 exact this▸hk
theorem Zgy {c:Cls} {k:Nat} {l:List Ins} {fz:Nat} (hf:fz<=l.length) (hs:c.pay.sz+1<=1000000000) (hx:Zo c.pay=true) (hl:l.length+(cdC c k l.length).length<=1000000000) (h8:c.when_.length<=8):
 ∀(f j n:Nat) (L:List Ins),f+j=8->j<=c.when_.length->L=l++cdTs 0 (c.when_.take j)->n=L.length->Zys c ↑k (l++cdC c k l.length) fz fz f j (psOf l.length j) L n
 |f,j,n,L,hfj,hj,hL,hn=>by
  have tl:(cdTs 0 (c.when_.take j)).length=3*j:=by rw [Y5,List.length_take];omega
  have nL:L.length=l.length+3*j:=by rw [hL];simp [tl]
  have cl:(cdC c k l.length).length=3*c.when_.length+(cdX c.pay (l.length+3*c.when_.length)).length+1:=by unfold cdC;simp [Y5];omega
  have hend:decide ((↑j:Int)<(↑c.when_.length:Int))=false->Zuc c ↑k (l++cdC c k l.length) fz fz (psOf l.length j) L n:=by
   intro q
   have q:=of_decide_eq_false q
   obtain rfl:j=c.when_.length:=by omega
   exact Zn6 hf hs hx hl (by rw [hL,List.take_length]) hn
  match f with
  |0=>exact ⟨fun q=>by have q:=of_decide_eq_true q;omega,hend⟩
  |f+1=>
   refine ⟨fun q=> ?_,hend⟩
   have q:=of_decide_eq_true q
   refine ⟨by omega,by omega,fun x gx=>⟨⟨by omega,by omega,by omega⟩,fun L1 e1=> ?_⟩⟩
   have gx:c.when_[j]? =some x:=gx
   rw [hn,List.take_length] at e1
   have n1:L1.length=L.length+1:=by rw [e1];simp
   refine Zn7 (A:=L) e1 (by omega) (by omega) (by omega) ?_
   have ep:(n+1+1)::psOf l.length j=psOf l.length (j+1):=by
    rw [hn,nL];rfl
   rw [ep]
   refine Zgy hf hs hx hl h8 f (j+1) (n+1+1+1) _ (by omega) (by omega) ?_ ?_
   · rw [List.take_add_one,gx,Zgx,<-List.append_assoc,<-hL];rfl
   · simp [cdTs,hn]
theorem Z52 {c:Cls} {k:Nat} (hs:c.pay.sz+1<=1000000000) (hx:Zo c.pay=true) (hl:([]:List Ins).length+(cdC c k ([]:List Ins).length).length<=1000000000) (h8:c.when_.length<=8):
 Zi E FclC (vc E FclC 400) 23 [.ptr 0 0,clB c,.int false .i64 (↑k:Int)] (hpP E Th.ins none) 2 (prnK E Th.ins none (([]:List Ins)++cdC c k ([]:List Ins).length)):=by
 rw [Zyu]
 have r:=Zgy (l:= []) (fz:=0) (Nat.le_refl _) hs hx hl h8
 refine ⟨fun q=> ?_,fun q=> ?_⟩
 · have q:=of_decide_eq_true q
   refine ⟨by omega,by omega,fun x gx=>Zn7 (A:= []) rfl rfl (by omega) (by omega) ?_⟩
   have gx:c.when_[0]? =some x:=gx
   refine r 7 1 3 _ rfl (by omega) ?_ rfl
   rw [List.take_add_one,gx];rfl
 · have q:=of_decide_eq_false q
   have w0:c.when_= []:=List.length_eq_zero_iff.1 (by omega)
   obtain ⟨⟨-,-,a1,a2,a3⟩,a4⟩:=Zn6 (l:= []) (L:= []) (n:=0) (fz:=0) (k:=k) (Nat.le_refl _) hs hx hl (by rw [w0];rfl) rfl
   rw [w0] at a4
   exact ⟨⟨a1,a2,a3⟩,a4⟩
theorem Zgz:FnsOk E FclC:=by
 have h:=Zc (F0_ok) (Z15 (Zmd 1000000000))
 exact ⟨h.sumG,h.fnG,h.sum,h.fn,h.loop⟩
def ClP (c:Cls) (k:Nat) (l:List Ins):Prop:=c.pay.sz+1<=1000000000/\Zo c.pay=true/\l.length+(cdC c k l.length).length<=1000000000/\c.when_.length<=8
theorem Z53 {c:Cls} {k:Nat} {l:List Ins} {fz:Nat} (hf:fz<=l.length) (hp:ClP c k l):
 Zi E FclC (vc E FclC 400) 23 [.ptr 0 0,clB c,.int false .i64 (↑k:Int)] (hpP E Th.ins (some (l,fz))) 2 (prnK E Th.ins (some (l,fz)) (l++cdC c k l.length)):=by
 rw [Zyt]
 exact Zgy hf hp.1 hp.2.1 hp.2.2.1 hp.2.2.2 8 0 _ l rfl (Nat.zero_le _) (by simp [cdTs]) rfl
theorem Z54 (c:Cls) (k:Nat):Z20 E 23 Th.ins [clB c,.int false .i64 (↑k:Int)] (fun (l:List Ins)=>l++cdC c k l.length) (fun (l:List Ins)=>ClP c k l):=
 ⟨fun l fz hf hp=>Wg E_ok (Y4 E_ok Zgz fun f N c=>(Ze6 E_ok Zgz 400 f N c).1) rfl (Z53 hf hp),
  fun hp=>Wg E_ok (Y4 E_ok Zgz fun f N c=>(Ze6 E_ok Zgz 400 f N c).1) rfl (Z52 hp.1 hp.2.1 hp.2.2.1 hp.2.2.2)⟩
end
section
theorem Zor {x:Cls}:∀{l:List Cls} {i o:Nat},cdCs (l++ [x]) i o=cdCs l i o++cdC x (i+l.length) (o+(cdCs l i o).length)
 | [],i,o=>by
  show cdC x i o++ []= []++cdC x (i+0) (o+0)
  simp
 |c::r,i,o=>by
  have e0:∀r,cdCs (c::r) i o=cdC c i o++cdCs r (i+1) (o+(cdC c i o).length):=fun _=>rfl
  rw [List.cons_append,e0,e0,Zor,List.append_assoc,List.length_append,List.length_cons]
  rw [show i+1+r.length=i+(r.length+1) by omega,show o+(cdC c i o).length+(cdCs r (i+1) (o+(cdC c i o).length)).length=o+((cdC c i o).length+(cdCs r (i+1) (o+(cdC c i o).length)).length) by omega]
end
section
open Go
def CsOk:List (List Nat)->List Cls->Prop
 |_,[]=>True
 |seen,c::r=>V7 c=true/\resF c.name=false/\c.name∉seen/\c.when_.length<=8/\Xa c.pay<=24/\CsOk (c.name::seen) r
def Z4i (m:List (List Nat×Bool)) (seen:List (List Nat)):Prop:=∀a,(Yr m a).getD false=decide (a∈seen)
theorem Zv2 {m:List (List Nat×Bool)} {seen:List (List Nat)} (h:Z4i m seen) (a:List Nat):Z4i (putS m a true) (a::seen):=by
 intro b
 rw [Ze2]
 by_cases e:a=b
 · rw [if_pos e]
   subst e
   simp
 · rw [if_neg e,h b]
   simp [Ne.symm e]
theorem Zox:∀(cs:List Cls) (a b:Bool) (m:List (List Nat×Bool)) (seen:List (List Nat)),Z4i m seen->(goC a b m cs=0↔a=false/\b=false/\CsOk seen cs)
 | [],a,b,m,seen,hm=>by
  unfold goC CsOk
  cases a<;>cases b<;>decide
 |c::r,a,b,m,seen,hm=>by
  rw [Zhq]
  unfold CsOk
  by_cases hc:V7 c=true
  · rw [if_pos hc,Zox r _ _ _ _ (Zv2 hm c.name),hm c.name]
    simp only [Bool.or_eq_false_iff,decide_eq_false_iff_not]
    constructor
    · rintro ⟨⟨⟨h1,h2⟩,h3⟩,⟨⟨h4,h5⟩,h6⟩,h7⟩
      exact ⟨h1,h4,hc,h2,h3,by omega,by omega,h7⟩
    · rintro ⟨h1,h4,_,h2,h3,h5,h6,h7⟩
      exact ⟨⟨⟨h1,h2⟩,h3⟩,⟨⟨h4,by omega⟩,by omega⟩,h7⟩
  · rw [if_neg hc]
    constructor
    · intro h
      cases h
    · rintro ⟨_,_,h,_⟩
      exact absurd h hc
theorem Zmu (t:Tar):Wz t=0↔Zc8 t.name=true/\1<=t.for_/\t.for_<=6/\resF t.name=false/\t.clauses.length<=64/\CsOk [] t.clauses:=by
 unfold Wz
 split
 · rename_i h
   rw [Zox _ _ _ _ [] (fun a=>by simp [Yr])]
   rw [decide_eq_false_iff_not]
   constructor
   · rintro ⟨h1,h2,h3⟩
     exact ⟨h.1,h.2.1,h.2.2,h1,by omega,h3⟩
   · rintro ⟨_,_,_,h1,h2,h3⟩
     exact ⟨h1,by omega,h3⟩
 · rename_i h
   constructor
   · intro k
     cases k
   · rintro ⟨h1,h2,h3,_⟩
     exact absurd ⟨h1,h2,h3⟩ h
theorem Zmv {c:Cls} (h:V7 c=true):Zc8 c.name=true/\Zo c.pay=true/\∀w∈c.when_,Yf w=true:=by
 unfold V7 at h
 rw [Bool.and_eq_true,Bool.and_eq_true] at h
 exact ⟨h.1.1,h.1.2,List.all_eq_true.1 h.2⟩
end
section
open Go
theorem Zam:∀(k:Nat) (x:Ex),x.sz<=k->Zo x=true->∀o,(cdX x o).length<=3*x.sz
 |0,x,h,_=>by have:=x.sz_pos;omega
 |k+1,x,h,hf=>by
  intro o
  rcases Xf hf with ⟨op,n,a,b,c,e,rfl,q⟩|⟨op,n,a,b,c,e,y,z,rfl,q1,q2,f1,f2⟩|⟨n,a,b,c,e,y,z,u,v,rfl,f1,f2,f3,f4⟩
  · rw [Zqh q]
    have:=(Ex.mk op n a b c e []).sz_pos
    simp only [List.length_cons,List.length_nil]
    omega
  · rw [sz_2] at h⊢
    rw [Zqi q1 q2]
    have a1:=Zam k y (by omega) f1 o
    have a2:=Zam k z (by omega) f2 (o+(cdX y o).length)
    simp only [List.length_append,List.length_cons,List.length_nil]
    omega
  · rw [sz_4] at h⊢
    rw [Zqj rfl rfl]
    have a1:=Zam k y (by omega) f1 o
    have a2:=Zam k z (by omega) f2 (o+(cdX y o).length)
    generalize hp:o+(cdX y o).length+(cdX z (o+(cdX y o).length)).length+2=p
    have a3:=Zam k u (by omega) f3 p
    generalize hq:p+(cdX u p).length+1=q
    have a4:=Zam k v (by omega) f4 q
    simp only [List.length_append,List.length_cons,List.length_nil]
    omega
theorem Z6w {c:Cls} {m k o:Nat} (hf:Zo c.pay=true) (hs:c.pay.sz<=m) (hw:c.when_.length<=8):(cdC c k o).length<=3*m+25:=by
 unfold cdC
 have:=Zam c.pay.sz c.pay (Nat.le_refl _) hf (o+3*c.when_.length)
 simp only [List.length_append,Y5,List.length_cons,List.length_nil]
 omega
theorem Zoy {m:Nat}:∀{l:List Cls} {k o:Nat},(∀c∈l,Zo c.pay=true/\c.pay.sz<=m/\c.when_.length<=8)->(cdCs l k o).length<=(3*m+25)*l.length
 | [],_,_,_=>Nat.zero_le _
 |c::r,k,o,h=>by
  have a:=Z6w (k:=k) (o:=o) (h c List.mem_cons_self).1 (h c List.mem_cons_self).2.1 (h c List.mem_cons_self).2.2
  have b:=Zoy (l:=r) (k:=k+1) (o:=o+(cdC c k o).length) fun x hx=>h x (List.mem_cons_of_mem _ hx)
  have e:(cdCs (c::r) k o).length=(cdC c k o).length+(cdCs r (k+1) (o+(cdC c k o).length)).length:=by
   show (cdC c k o++cdCs r (k+1) (o+(cdC c k o).length)).length=_
   rw [List.length_append]
  have m1:(3*m+25)*(c::r).length=(3*m+25)*r.length+(3*m+25):=by rw [List.length_cons,Nat.mul_add,Nat.mul_one]
  omega
def Ye (t:Tar):List Ins×Int:=if Wz t=0 then (if 4096<(cdT t).length\/64<dCs t.clauses then ([],2) else (cdT t,0)) else ([],Wz t)
def SmK (t:Tar):Prop:=(∀c∈t.clauses,c.pay.sz<=10000/\c.when_.length<1000000000)/\t.clauses.length<1000000000
theorem Zoz:∀{cs:List Cls} {s:List (List Nat)},CsOk s cs->∀c∈cs,V7 c=true/\c.when_.length<=8
 |c::r,s,h,x,hx=>by
  obtain ⟨h1,h2,h3,h4,h5,h6⟩:=h
  rcases List.mem_cons.1 hx with rfl|hx
  · exact ⟨h1,h4⟩
  · exact Zoz h6 x hx
theorem Z4j {t:Tar} (h:Wz t=0):ClOk t.clauses/\t.clauses.length<=64/\∀c∈t.clauses,c.when_.length<=8:=by
 obtain ⟨-,-,-,-,c5,c6⟩:=(Zmu t).1 h
 have a:=Zoz c6
 exact ⟨fun c hc=>(Zmv (a c hc).1).2,c5,fun c hc=>(a c hc).2⟩
end
section
open Go
def dIV:Dc E Int:=dInt .i64
def Z8b:DcL E (Int×Int×Int×Unit):= .cons dIV (.cons dIV (.cons dIV .nil))
abbrev qCG4 (a0:Int) (b0:Int) (c0:Bool):=(decide (mm2 false a0 b0>=0)=false->false=c0)
abbrev qCG3 (a0:Int) (b0:Int) (c0:Bool):=(decide (mm2 false a0 b0>=0)=true->(decide (mm2 true a0 b0<=9007199254740992)=true->true=c0)/\(decide (mm2 true a0 b0<=9007199254740992)=false->false=c0))
abbrev qCG1 (a0:Int) (b0:Int) (c0:Int) (d0:Bool):=((a0==a0&&(0==0&&(b0==0&&true)))=true->(qCG3 c0 b0 d0)/\(qCG4 c0 b0 d0))
abbrev qCG2 (a0:Int) (b0:Int) (c0:Bool):=((a0==a0&&(0==0&&(b0==0&&true)))=false->false=c0)
theorem Zjh (op n m:Int) (b:Bool):Zi E F0 (vc E F0 400) 34 [.agg [.int false .i64 op,.int false .i64 n,.int false .i64 m]] hp0 0 (fun r=>ret E (patch hp0 0 r) r.v (.bool false b))=(
 ∃(Q:Bool->Prop),((decide (op<1)=true->Q true)/\(decide (op<1)=false->(decide (op>=17)=true->Q true)/\(decide (op>=17)=false->Q false)))/\(Q true->false=b)/\(Q false->((op==1)=true->(qCG1 op m n b)/\(qCG2 op m b))/\((op==1)=false->((op==13)=true->(qCG1 op m n b)/\(qCG2 op m b))/\((op==13)=false->((op==14)=true->(qCG1 op m n b)/\(qCG2 op m b))/\((op==14)=false->((op==15)=true->(qCG1 op m n b)/\(qCG2 op m b))/\((op==15)=false->((op==2)=true->((op==op&&(0==0&&(m==0&&true)))=true->(decide (mm2 false n m>=0)=true->(decide (mm2 true n m<=15)=true->true=b)/\(decide (mm2 true n m<=15)=false->false=b))/\(qCG4 n m b))/\(qCG2 op m b))/\((op==2)=false->((op==12)=true->((op==op&&(0==0&&(0==0&&true)))=true->(qCG3 n m b)/\(qCG4 n m b))/\((op==op&&(0==0&&(0==0&&true)))=false->false=b))/\((op==12)=false->((op==op&&(n==0&&(m==0&&true)))=true->(decide (mm2 false n m>=0)=true->(decide (mm2 true n m<=0)=true->true=b)/\(decide (mm2 true n m<=0)=false->false=b))/\(qCG4 n m b))/\((op==op&&(n==0&&(m==0&&true)))=false->false=b))))))))):=by kernel_rfl
theorem Zji (op:Int) (p q:Int):Zi E F0 (vc E F0 400) 36 [.int false .i64 op] hp0 0 (fun r=>ret E (patch hp0 0 r) r.v (.tup [.int false .i64 p,.int false .i64 q]))=(
((op==1)=true->0=p/\1=q/\True)/\((op==1)=false->((op==2)=true->0=p/\1=q/\True)/\((op==2)=false->((op==12)=true->1=p/\1=q/\True)/\((op==12)=false->((op==13)=true->1=p/\0=q/\True)/\((op==13)=false->((op==15)=true->1=p/\0=q/\True)/\((op==15)=false->((op==14)=true->0=p/\0=q/\True)/\((op==14)=false->((op==16)=true->0=p/\0=q/\True)/\((op==16)=false->2=p/\1=q/\True)))))))):=by kernel_rfl
abbrev qCG7 (a0:Int):=(a0<=9007199254740992)
abbrev qCG5 (a0:Int) (b0:Int) (c0:Bool):=(decide (a0>=0)=true->(decide (qCG7 a0)=true->((b0==0)=true->true=c0)/\((b0==0)=false->false=c0))/\(decide (qCG7 a0)=false->false=c0))
abbrev qCG6 (a0:Int) (b0:Bool):=(decide (a0>=0)=false->false=b0)
theorem Zg6 (op n m:Int) (b:Bool):Zi E F0 (vc E F0 400) 17 [.agg [.int false .i64 op,.int false .i64 n,.int false .i64 m]] hp0 0 (fun r=>ret E (patch hp0 0 r) r.v (.bool false b))=(
 ((op==1)=true->(qCG5 n m b)/\(qCG6 n b))/\((op==1)=false->((op==13)=true->(qCG5 n m b)/\(qCG6 n b))/\((op==13)=false->((op==14)=true->(qCG5 n m b)/\(qCG6 n b))/\((op==14)=false->((op==15)=true->(qCG5 n m b)/\(qCG6 n b))/\((op==15)=false->((op==2)=true->(decide (n>=0)=true->(decide (n<=15)=true->((m==0)=true->true=b)/\((m==0)=false->false=b))/\(decide (n<=15)=false->false=b))/\(qCG6 n b))/\((op==2)=false->((op==12)=true->(decide (n>=0)=true->(decide (qCG7 n)=true->(decide (m>=0)=true->(decide (qCG7 m)=true->true=b)/\(decide (qCG7 m)=false->false=b))/\(qCG6 m b))/\(decide (qCG7 n)=false->false=b))/\(qCG6 n b))/\((op==12)=false->(decide (op>=3)=true->(decide (op<=16)=true->((n==0)=true->((m==0)=true->true=b)/\((m==0)=false->false=b))/\((n==0)=false->false=b))/\(decide (op<=16)=false->false=b))/\(decide (op>=3)=false->false=b)))))))):=by kernel_rfl
theorem Zmf (op:Int) (p q:Int):Zi E F0 (vc E F0 400) 49 [.int false .i64 op] hp0 0 (fun r=>ret E (patch hp0 0 r) r.v (.tup [.int false .i64 p,.int false .i64 q]))=(
((op==1)=true->0=p/\1=q/\True)/\((op==1)=false->((op==2)=true->0=p/\1=q/\True)/\((op==2)=false->((op==12)=true->1=p/\1=q/\True)/\((op==12)=false->((op==13)=true->1=p/\0=q/\True)/\((op==13)=false->((op==15)=true->1=p/\0=q/\True)/\((op==15)=false->((op==14)=true->0=p/\0=q/\True)/\((op==14)=false->((op==16)=true->0=p/\0=q/\True)/\((op==16)=false->2=p/\1=q/\True)))))))):=by kernel_rfl
theorem Zjj (c:List Ins) (i:Int) (l:List Int):Zi E F0 (vc E F0 400) 59 [.psl .ins c false,.int false .i64 i] hp0 0 (fun r=>ret E (patch hp0 0 r) r.v (.psl .ints l false))=(
0<=i/\i+1<=↑(List.length c)/\∀(x:Ins),c[Int.toNat i]? =some x->((Ins.op x==15)=true->l= [])/\((Ins.op x==15)=false->((Ins.op x==16)=true->l= [])/\((Ins.op x==16)=false->((Ins.op x==14)=true->0<=i/\i+1<=↑(List.length c)/\∀(x:Ins),c[Int.toNat i]? =some x-> [Ins.n x]=l)/\((Ins.op x==14)=false->((Ins.op x==13)=true->0<=i/\i+1<=↑(List.length c)/\∀(x:Ins),c[Int.toNat i]? =some x-> [wr IntKind.i64 (i+1),Ins.n x]=l)/\((Ins.op x==13)=false-> [wr IntKind.i64 (i+1)]=l))))):=by kernel_rfl
theorem V3 (x:Ins):PureC E 34 [.agg [.int false .i64 x.op,.int false .i64 x.n,.int false .i64 x.m]] (.bool false (formedF x)):=by
 refine Za E_ok (Ze E_ok F0_ok 400) ?_
 rw [Zjh];delta qCG4 qCG3 qCG1 qCG2
 repeat' (first|exact Zlj _|apply Zte|apply Ztf|(refine And.intro ?_ ?_)|(intro h))
 all_goals (try simp only [Y3,Yi,Vr,Vs,Vt,Bool.or_eq_true,Bool.or_eq_false_iff,Bool.not_eq_true',Bool.not_eq_false',beq_iff_eq,bne_iff_ne,beq_eq_false_iff_ne,decide_eq_true_eq,decide_eq_false_iff_not,Bool.and_eq_true,Bool.and_true,Bool.true_and,Bool.and_eq_false_iff,beq_self_eq_true,Yx,Yy,ne_eq,and_true,true_and,Bool.true_eq_false,Bool.false_eq_true,false_or,or_false,true_implies,Int.ofNat_eq_natCast] at*)
 all_goals (try unfold formedF)
 all_goals (repeat' split)
 all_goals first|contradiction|omega|(symm;simp only [decide_eq_true_eq,decide_eq_false_iff_not];omega)
theorem Zg7 (x:Ins):PureC E 17 [.agg [.int false .i64 x.op,.int false .i64 x.n,.int false .i64 x.m]] (.bool false (formedF x)):=by
 refine Za E_ok (Ze E_ok F0_ok 400) ?_
 rw [Zg6];delta qCG7 qCG5 qCG6
 simp only [beq_iff_eq,bne_iff_ne,beq_eq_false_iff_ne,decide_eq_true_eq,decide_eq_false_iff_not,Bool.and_eq_true,Bool.and_true,Bool.true_and,Bool.and_eq_false_iff,beq_self_eq_true,Yx,Yy,ne_eq,and_true,true_and,Bool.true_eq_false,Bool.false_eq_true,false_or,or_false,true_implies,Int.ofNat_eq_natCast]
 repeat' (first|(refine And.intro ?_ ?_)|(intro h))
 all_goals (try unfold formedF)
 all_goals (repeat' split)
 all_goals first|contradiction|omega|(symm;simp only [decide_eq_true_eq,decide_eq_false_iff_not];omega)
theorem Zjk (op:Int):PureC E 36 [.int false .i64 op] (.tup [.int false .i64 (eff op).1,.int false .i64 (eff op).2]):=by
 refine Za E_ok (Ze E_ok F0_ok 400) ?_
 rw [Zji]
 simp only [beq_iff_eq,bne_iff_ne,beq_eq_false_iff_ne,decide_eq_true_eq,decide_eq_false_iff_not,Bool.and_eq_true,Bool.and_true,Bool.true_and,Bool.and_eq_false_iff,beq_self_eq_true,Yx,Yy,ne_eq,and_true,true_and,Bool.true_eq_false,Bool.false_eq_true,false_or,or_false,true_implies,Int.ofNat_eq_natCast]
 repeat' (first|(refine And.intro ?_ ?_)|(intro h))
 all_goals (unfold eff;repeat' split)
 all_goals first|contradiction|omega|rfl
theorem Zmg (op:Int):PureC E 49 [.int false .i64 op] (.tup [.int false .i64 (eff op).1,.int false .i64 (eff op).2]):=by
 refine Za E_ok (Ze E_ok F0_ok 400) ?_
 rw [Zmf]
 simp only [beq_iff_eq,bne_iff_ne,beq_eq_false_iff_ne,decide_eq_true_eq,decide_eq_false_iff_not,Bool.and_eq_true,Bool.and_true,Bool.true_and,Bool.and_eq_false_iff,beq_self_eq_true,Yx,Yy,ne_eq,and_true,true_and,Bool.true_eq_false,Bool.false_eq_true,false_or,or_false,true_implies,Int.ofNat_eq_natCast]
 repeat' (first|(refine And.intro ?_ ?_)|(intro h))
 all_goals (unfold eff;repeat' split)
 all_goals first|contradiction|omega|rfl
def Zu0 (i:Int) (x:Ins):List Int:=if x.op=15\/x.op=16 then [] else if x.op=14 then [x.n] else if x.op=13 then [i+1,x.n] else [i+1]
theorem Zjl (c:List Ins) (i:Int) (x:Ins) (h0:0<=i) (h1:i<c.length) (h2:c.length<=4096) (hx:c[i.toNat]? =some x):PureC E 59 [.psl .ins c false,.int false .i64 i] (.psl .ints (Zu0 i x) false):=by
 refine Za E_ok (Ze E_ok F0_ok 400) ?_
 rw [Zjj]
 rw [wr64 (by omega) (by omega)]
 simp only [hx,Option.some.injEq,forall_eq']
 simp only [Y3,Yi,Vr,Vs,Vt,beq_iff_eq,bne_iff_ne,beq_eq_false_iff_ne,bne_eq_false_iff_eq,decide_eq_true_eq,decide_eq_false_iff_not,Bool.or_eq_true,Bool.or_eq_false_iff,Bool.not_eq_true',Bool.not_eq_false',Bool.and_eq_true,Bool.and_true,Bool.true_and,Bool.and_eq_false_iff,beq_self_eq_true,Yx,Yy,ne_eq,and_true,true_and,Bool.true_eq_false,Bool.false_eq_true,false_or,or_false,true_implies,Int.ofNat_eq_natCast,not_true_eq_false,not_false_eq_true,Decidable.not_not]
 unfold Zu0
 repeat' (first|exact Zlj _|apply Zte|apply Ztf|(refine And.intro ?_ ?_)|(intro h))
 all_goals first|omega|simp [*]
def Z6e:Dc E Ins:= .map (dAgg Z8b) (fun x=>⟨x.1,x.2.1,x.2.2.1⟩) (fun x=>(x.op,x.n,x.m,())) (fun _=>rfl)
def Zjm:Dc E (List Ins):=(Zli (E:=E) Th.ins:Dc E (List (thy.dom Th.ins)))
def dL1V {α:Type} (d:Dc E α):DcL E (α×Unit):= .cons d .nil
def dL2V {α β:Type} (d:Dc E α) (e:Dc E β):DcL E (α×β×Unit):= .cons d (dL1V e)
def Zg8:Sum thy:=sumP (dL1V Z6e) (fun _=>True) fun x=> .bool false (formedF x.1)
def Z6f:Sum thy:=sumP (dL1V dIV) (fun _=>True) fun x=> .tup [.int false .i64 (eff x.1).1,.int false .i64 (eff x.1).2]
def Z17 (c:List Ins) (i:Int):List Int:=match c[i.toNat]? with|some x=>Zu0 i x|none=> []
def Zzh:Sum thy:=sumP (dL2V Zjm dIV) (fun x=>0<=x.2.1/\x.2.1<x.1.length/\x.1.length<=4096) fun x=> .psl .ints (Z17 x.1 x.2.1) false
def F2V:Fns thy:=addS (addS (addS (addS (addS F0 34 Zg8) 36 Z6f) 17 Zg8) 49 Z6f) 59 Zzh
theorem Z6g:FnsOk E F2V:=by
 refine Zc (Zc (Zc (Zc (Zc F0_ok ?_) ?_) ?_) ?_) ?_
 · exact Zs E_ok (Zb (f:=34) rfl) fun x _=>V3 x.1
 · exact Zs E_ok (Zb (f:=36) rfl) fun x _=>Zjk x.1
 · exact Zs E_ok (Zb (f:=17) rfl) fun x _=>Zg7 x.1
 · exact Zs E_ok (Zb (f:=49) rfl) fun x _=>Zmg x.1
 · refine Zs E_ok (Zb (f:=59) rfl) fun x h=> ?_
   obtain ⟨h0,h1,h2⟩:=h
   obtain ⟨y,hy⟩:∃y,x.1[x.2.1.toNat]? =some y:=⟨x.1[x.2.1.toNat]'(by omega),by simp⟩
   have:=Zjl x.1 x.2.1 y h0 h1 h2 hy
   unfold Z17
   rw [hy]
   exact this
def A48V:Fr thy->Hp thy->Nat->Ann thy:=fun T h i=>{X:=LX,fr:=fun x=> [(0,T 0),(1,T 1),(7,T 7),(8,.int false .i64 x.k)],bl:=fun _=> [],src:=fun _=> [],md:= [],ih:=i,M:=i+30,meas:=fun x=>x.r}
def A32V:Fr thy->Hp thy->Nat->Ann thy:=fun T h i=>{X:=LX,fr:=fun x=> [(7,T 7),(8,.int false .i64 x.k)],bl:=fun x=> [(bOf (T 7),.rows .ints x.D 0)],src:=fun _=> [],md:= [bOf (T 7)],ih:=i,M:=i+30,meas:=fun x=>x.r}
def A9V:Fr thy->Hp thy->Nat->Ann thy:=fun T h i=>{X:=LX,fr:=fun x=> [(0,T 0),(2,.int false .i64 x.m),(4,T 4),(30,T 30),(31,T 31),(32,.int false .i64 x.k)],bl:=fun x=> [(bOf (T 4),.rows .ints x.D 0)],src:=fun _=> [],md:= [bOf (T 4)],ih:=i,M:=i+60,meas:=fun x=>x.r}
def A9nV:Fr thy->Hp thy->Nat->Ann thy:=fun T h i=>{X:=LX,fr:=fun x=> [(0,T 0),(2,T 2),(4,T 4),(5,T 5),(10,T 10),(30,T 30),(31,T 31),(32,T 32),(110,T 110),(111,T 111),(112,.int false .i64 x.k)],bl:=fun x=>(bOf (T 4),.rows .ints x.D 0)::blkS h (T 110),src:=fun _=> [],md:= [bOf (T 4)],ih:=i,M:=i+20,meas:=fun x=>x.r}
def F3V:Fns thy:=addL (addL (addL (addL F2V 64 2 A48V E) 35 8 A32V E) 14 8 A9V E) 14 23 A9nV E
theorem Zu1:FnsOk E F3V:=Zt E_ok (Zt E_ok (Zt E_ok (Zt E_ok Z6g _ _ _) _ _ _) _ _ _) _ _ _
theorem Zdy {y:Int} (h0:0<=y) (h:y<4294967296):Vn .and .u64 y 4294967295=y:=by
 obtain ⟨n,rfl⟩:=Int.eq_ofNat_of_zero_le h0
 have h':n<4294967296:=by omega
 have e:(BitVec.ofInt 64 (n:Int)&&&BitVec.ofInt 64 4294967295).toNat=n:=by
  rw [BitVec.toNat_and]
  have e1:(BitVec.ofInt 64 (n:Int)).toNat=n:=by
   rw [BitVec.toNat_ofInt];omega
  have e2:(BitVec.ofInt 64 4294967295).toNat=2^32-1:=by decide
  rw [e1,e2,Nat.and_two_pow_sub_one_eq_mod]
  omega
 show IntKind.u64.wrap ((BitVec.ofInt 64 (n:Int)&&&BitVec.ofInt 64 4294967295).toNat:Int)=n
 rw [e,IntKind.wrap_u64]
 omega
theorem Zu2 {n:Int} (h1:0<=n) (h2:n<18446744073709551616):wr .u64 n=n:=by simp only [wr,IntKind.wrap_u64];omega
theorem Ze8 {α:Type} {f:α->Bool} {l:List α} {k:Nat} {x:α} (h:l[k]? =some x):(l.take (k+1)).all f=((l.take k).all f&&f x):=by
 obtain ⟨hk,rfl⟩:=gA9.1 h
 rw [List.take_succ_eq_append_getElem hk,List.all_append,List.all_cons,List.all_nil,Bool.and_true]
theorem Zjn {α:Type} {f:α->Bool} {l:List α} {k:Nat} {x:α} (h:l[k]? =some x) (hf:f x=false):l.all f=false:=by
 rw [Bool.eq_false_iff]
 intro hh
 have:=(List.all_eq_true.1 hh) x (List.mem_of_getElem? h)
 rw [hf] at this;cases this
abbrev qCG8:=(2^min (Int.toNat 32) (IntKind.bits IntKind.u64))
abbrev qCG9 (a0:Int) (b0:Int):=(wr IntKind.u64 (wr IntKind.u64 (Int.fdiv a0 qCG8*Vn BinOp.and IntKind.u64 b0 4294967295)+Int.fdiv (wr IntKind.u64 (Vn BinOp.and IntKind.u64 a0 4294967295*Vn BinOp.and IntKind.u64 b0 4294967295)) qCG8))
theorem Zq0 (x y:Int) (p q:Int):Zi E F3V (vc E F3V 400) 66 [.int false .u64 x,.int false .u64 y] hp0 0 (fun r=>ret E (patch hp0 0 r) r.v (.tup [.int false .u64 p,.int false .u64 q]))=(
 wr IntKind.u64 (wr IntKind.u64 (wr IntKind.u64 (Int.fdiv x qCG8*Int.fdiv y qCG8)+Int.fdiv (qCG9 x y) qCG8)+Int.fdiv (wr IntKind.u64 (Vn BinOp.and IntKind.u64 (qCG9 x y) 4294967295+wr IntKind.u64 (Vn BinOp.and IntKind.u64 x 4294967295*Int.fdiv y qCG8))) qCG8)=p/\wr IntKind.u64 (x*y)=q/\True):=by kernel_rfl
abbrev qCGa (a0:List Ins):=(↑(List.length a0):Int)
abbrev qCGb (a0:LX):=(↑(LX.k a0):Int)
theorem Ze9 (c:List Ins) (b:Bool):Zi E F3V (vc E F3V 400) 32 [.psl .ins c false,.fn (.func 33) [] []] hp0 0 (fun r=>ret E (patch hp0 0 r) r.v (.bool false b))=(
 ∃(R:LX->Prop),(∃(x:LX),R x/\true=true/\((c=c/\(false=true->false=true))/\(Fn.func 33=Fn.func 33/\True/\True)/\(qCGa c)=(qCGa c)/\0=(qCGb x)/\True)/\True)/\∀(x:LX),R x->(decide ((qCGb x)<(qCGa c))=true->0<=(qCGb x)/\(qCGb x)+1<=(qCGa c)/\∀(x_1:Ins),c[Int.toNat (qCGb x)]? =some x_1->True/\((!formedF x_1)=true->(decide ((qCGb x)>=0)=true->true=b)/\(decide ((qCGb x)>=0)=false->false=b))/\((!formedF x_1)=false->∃(x':LX),R x'/\x'.2+1<=x.2/\true=true/\((c=c/\(false=true->false=true))/\(Fn.func 33=Fn.func 33/\True/\True)/\(qCGa c)=(qCGa c)/\wr IntKind.i64 ((qCGb x)+1)=(qCGb x')/\True)/\True))/\(decide ((qCGb x)<(qCGa c))=false->false=b)):=by kernel_rfl
theorem Zq1 (y:Int) (h0:0<=y) (h1:y<4294967296):PureC E 66 [.int false .u64 1,.int false .u64 y] (.tup [.int false .u64 0,.int false .u64 y]):=by
 refine Za E_ok (Ze E_ok Zu1 400) ?_
 rw [Zq0];delta qCG8 qCG9
 have e1:Int.fdiv y (2^min (Int.toNat 32) (IntKind.bits IntKind.u64))=0:=by
  show y.fdiv 4294967296=0
  rw [Int.fdiv_eq_ediv_of_nonneg _ (by omega)];omega
 have e2:Int.fdiv 1 (2^min (Int.toNat 32) (IntKind.bits IntKind.u64))=0:=by decide
 have e3:Vn .and .u64 1 4294967295=1:=Zdy (by omega) (by omega)
 have e4:=Zdy h0 h1
 have e5:Int.fdiv 0 (2^min (Int.toNat 32) (IntKind.bits IntKind.u64))=0:=by decide
 have e6:wr .u64 0=0:=by decide
 have e7:wr .u64 y=y:=Zu2 h0 (by omega)
 have e8:Vn .and .u64 0 4294967295=0:=Zdy (by omega) (by omega)
 have d1:Int.fdiv y ((2^min (Int.toNat 32) (IntKind.bits IntKind.u64):Nat):Int)=0:=e1
 have d2:Int.fdiv 1 ((2^min (Int.toNat 32) (IntKind.bits IntKind.u64):Nat):Int)=0:=e2
 have d5:Int.fdiv 0 ((2^min (Int.toNat 32) (IntKind.bits IntKind.u64):Nat):Int)=0:=e5
 simp only [e1,e2,e3,e4,e5,e6,e7,e8,d1,d2,d5,Int.zero_mul,Int.one_mul,Int.mul_zero,Int.zero_add,Int.add_zero,and_self]
theorem Zfa (c:List Ins) (hc:c.length<=4096):PureC E 32 [.psl .ins c false,.fn (.func 33) [] []] (.bool false (!c.all formedF)):=by
 refine Za E_ok (Ze E_ok Zu1 400) ?_
 rw [Ze9];delta qCGa qCGb
 refine ⟨fun x=>x.k+x.r=c.length/\(c.take x.k).all formedF=true,⟨⟨0,c.length,[],0⟩,by simp,by simp⟩,fun x hR=> ?_⟩
 obtain ⟨h1,h2⟩:=hR
 simp only [Y3,Yi,Vr,Vs,Vt,beq_iff_eq,bne_iff_ne,beq_eq_false_iff_ne,bne_eq_false_iff_eq,decide_eq_true_eq,decide_eq_false_iff_not,Bool.or_eq_true,Bool.or_eq_false_iff,Bool.not_eq_true',Bool.not_eq_false',Bool.and_eq_true,Bool.and_true,Bool.true_and,Bool.and_eq_false_iff,beq_self_eq_true,Yx,Yy,ne_eq,and_true,true_and,Bool.true_eq_false,Bool.false_eq_true,false_or,or_false,true_implies,Int.ofNat_eq_natCast,not_true_eq_false,not_false_eq_true,Decidable.not_not]
 refine ⟨fun hlt=>⟨by omega,by omega,fun y hy=>⟨fun hf=>⟨fun _=> ?_,fun h=>by omega⟩,fun hf=> ?_⟩⟩,fun hge=> ?_⟩
 · rw [Int.toNat_natCast] at hy
   rw [Zjn hy hf];rfl
 · rw [Int.toNat_natCast] at hy
   refine ⟨⟨x.k+1,x.r-1,[],0⟩,⟨by show x.k+1+(x.r-1)=_;omega,by show (c.take (x.k+1)).all formedF=true;rw [Ze8 hy,h2,hf];rfl⟩,by show x.r-1+1<=x.r;omega,?_⟩
   rw [wr64 (by omega) (by omega)]
   simp
 · rw [List.take_of_length_le (by omega)] at h2
   rw [h2];rfl
def dFnV (f:Nat):Dc E Unit where
 dec v:=match v with| .fn (.func g) [] []=>(match Nat.beq g f with|true=>some ()|false=>none)|_=>none
 enc _:= .fn (.func f) [] []
 ok v a h:=by
  split at h
  · split at h
    · rename_i e
      rw [gC9 e]
      exact ⟨rfl,rfl,fun σ g u hd=>hd⟩
    · cases h
  · cases h
def Zq2:Sum thy:=sumP (dL2V Zjm (dFnV 33)) (fun x=>x.1.length<=4096) fun x=> .bool false (!x.1.all formedF)
def Z6h:Sum thy:=sumP (dL2V (dInt .u64) (dInt .u64)) (fun x=>x.1=1/\0<=x.2.1/\x.2.1<4294967296) fun x=> .tup [.int false .u64 0,.int false .u64 x.2.1]
def F4V:Fns thy:=addS (addS F3V 32 Zq2) 66 Z6h
theorem Z6i:FnsOk E F4V:=by
 refine Zc (Zc Zu1 ?_) ?_
 · exact Zs E_ok (Zb (f:=32) rfl) fun x h=>Zfa x.1 h
 · refine Zs E_ok (Zb (f:=66) rfl) fun x h=> ?_
   obtain ⟨x,y,u⟩:=x
   obtain ⟨rfl,h1,h2⟩:=h
   exact Zq1 y h1 h2
abbrev qCGi (a0:List Ins):=(↑(List.length a0):Int)
abbrev Zq3 (a0:List Ins):=(wr IntKind.u64 (qCGi a0))
abbrev qCGc (a0:List Ins):=(wr IntKind.i64 (Zq3 a0))
abbrev qCGd (a0:Int) (b0:Ins):=(wr IntKind.i64 (a0-Prod.fst (eff (Ins.op b0)))+Prod.snd (eff (Ins.op b0)))
abbrev qCGx:=(1:Nat)
abbrev qCGg (a0:LX):=(↑(LX.k a0):Int)
abbrev qCGk:=(0:Nat)
abbrev qCGy:=(1:Int)
abbrev Zjo (a0:List Ins):=(Int.toNat (qCGc a0))
abbrev qCGp (a0:List Ins):=(↑(Zjo a0):Int)
abbrev qCGn:=(0:Int)
abbrev Zq4 (a0:Int) (b0:List Ins):=(qCGn<=a0/\a0+qCGy<=(qCGp b0))
abbrev qCGe (a0:Int) (b0:LX) (c0:Bool->Prop) (d0:List Ins) (e0:LX) (f0:Int) (g0:Ins):=((decide (a0<=(qCGg b0))=true->c0 true)/\(decide (a0<=(qCGg b0))=false->(decide (a0>=(qCGi d0))=true->c0 true)/\(decide (a0>=(qCGi d0))=false->(Zq4 a0 d0)/\qCGk+Int.toNat a0+qCGx<=List.length (LX.D e0)/\∀(b0:Int),(LX.D e0)[qCGk+Int.toNat a0]? =some b0->(decide (b0>=qCGn)=true->(Zq4 a0 d0)/\qCGk+Int.toNat a0+qCGx<=List.length (LX.D e0)/\∀(b0:Int),(LX.D e0)[qCGk+Int.toNat a0]? =some b0->((b0 !=wr IntKind.i64 (qCGd f0 g0))=true->c0 true)/\((b0 !=wr IntKind.i64 (qCGd f0 g0))=false->c0 false))/\(decide (b0>=qCGn)=false->c0 false))))
abbrev qCGf (a0:List Ins):=(qCGk=qCGk/\Int.toNat (qCGc a0)=Int.toNat (qCGc a0)/\Int.toNat (qCGc a0)=Int.toNat (qCGc a0))
abbrev qCGh (a0:List Ins):=(a0=a0/\(false=true->false=true))
abbrev qCGj (a0:LX):=((qCGg a0)+qCGy)
abbrev qCGo (a0:Int) (b0:Ins):=(wr IntKind.i64 (qCGd a0 b0))
abbrev qCGu (a0:LX) (b0:Int):=(mm2 true (LX.m a0) b0)
abbrev qCGl (a0:List Ins) (b0:LX) (c0:Int) (d0:Ins) (e0:LX):=((qCGh a0)/\mm2 true (qCGu b0 c0) (qCGo c0 d0)=LX.m e0/\(qCGf a0)/\(qCGh a0)/\(qCGi a0)=(qCGi a0)/\wr IntKind.i64 (qCGj b0)=(qCGg e0)/\True)
abbrev qCGm (a0:Ins) (b0:LX):=(↑(List.length [Ins.n a0]+List.length [wr IntKind.i64 (qCGj b0)]):Int)
abbrev qCGq (a0:LX):=(↑(List.length [wr IntKind.i64 (qCGj a0)]):Int)
abbrev qCGr (a0:Ins) (b0:Bool->Prop):=(((Ins.op a0 !=(14:Int))=true->((Ins.op a0 !=(15:Int))=true->((Ins.op a0 !=(16:Int))=true->b0 true)/\((Ins.op a0 !=(16:Int))=false->b0 false))/\((Ins.op a0 !=(15:Int))=false->b0 false))/\((Ins.op a0 !=(14:Int))=false->b0 false))
abbrev qCGs (a0:Ins):=(List.length [Ins.n a0])
abbrev qCGt (a0:LX) (b0:LX):=(LX.D a0=LX.D b0/\qCGk=qCGk)
abbrev qCGv (a0:Ins) (b0:LX):=(qCGk=qCGk/\List.length [Ins.n a0]+List.length [wr IntKind.i64 (qCGj b0)]=List.length [Ins.n a0]+List.length [wr IntKind.i64 (qCGj b0)]/\True)
abbrev qCGw (a0:Ins) (b0:LX):=(List.take (qCGs a0) [Ins.n a0]++ [wr IntKind.i64 (qCGj b0)]=List.take (qCGs a0) [Ins.n a0]++ [wr IntKind.i64 (qCGj b0)]/\qCGk=qCGk)
abbrev qCGz (a0:LX):=(qCGk=qCGk/\List.length [wr IntKind.i64 (qCGj a0)]=List.length [wr IntKind.i64 (qCGj a0)]/\True)
abbrev Zu3 (a0:List Ins) (b0:LX):=(Int.toNat (qCGc a0)-Int.toNat (qCGg b0))
abbrev Zzi (a0:LX):=(List.take (Int.toNat (qCGg a0)) (LX.D a0))
abbrev Z3t (a0:Ins):=(qCGk=qCGk/\List.length [Ins.n a0]=List.length [Ins.n a0]/\True)
abbrev Z3u (a0:LX):=([wr IntKind.i64 (qCGj a0)]= [wr IntKind.i64 (qCGj a0)]/\qCGk=qCGk)
theorem Zjp (c:List Ins) (p q:Int):Zi E F4V (vc E F4V 400) 14 [.psl .ins c false] hp0 0 (fun r=>ret E (patch hp0 0 r) r.v (.tup [.int false .i64 p,.int false .i64 q]))=(
 (decide ((qCGi c)>(4096:Int))=true->qCGn=p/\(2:Int)=q/\True)/\(decide ((qCGi c)>(4096:Int))=false->(((qCGi c)==qCGn)=true->qCGn=p/\(200:Int)=q/\True)/\(((qCGi c)==qCGn)=false->List.length c<=(4096:Nat)/\((!List.all c formedF)=true->qCGn=p/\(200:Int)=q/\True)/\((!List.all c formedF)=false->(decide ((qCGi c)<qCGn)=true->False)/\(decide ((qCGi c)<qCGn)=false->(qCGy=qCGy/\qCGn<=wr IntKind.u64 (qCGi c)/\wr IntKind.u64 (qCGi c)+qCGy<=(4294967296:Int))/\∃(Q:Bool->Prop),((decide (qCGn>qCGn)=true->Q true)/\(decide (qCGn>qCGn)=false->(decide (wr IntKind.u64 (qCGi c)>(9223372036854775807:Int))=true->Q true)/\(decide (wr IntKind.u64 (qCGi c)>(9223372036854775807:Int))=false->Q false)))/\(Q true->False)/\(Q false->qCGn<=wr IntKind.i64 (Zq3 c)/\wr IntKind.i64 (Zq3 c)<=wr IntKind.i64 (Zq3 c)/\(↑(8:Nat):Int)*wr IntKind.i64 (Zq3 c)<=(281474976710656:Int)/\(qCGk<=qCGk/\qCGk+Int.toNat (qCGc c)<=List.length (List.replicate (Zjo c) qCGn))/\∃(R:LX->Prop),(∃(x:LX),R x/\true=true/\((qCGf c)/\(↑(min (List.length [(-1:Int)]) (Zjo c)):Int)=(qCGg x)/\True)/\(List.take qCGk (List.replicate (Zjo c) qCGn)++List.take (Zjo c) [(-1:Int)]++List.drop (qCGk+min (List.length [(-1:Int)]) (Zjo c)) (List.replicate (Zjo c) qCGn)=LX.D x/\qCGk=qCGk)/\True)/\∀(x:LX),R x->(decide ((qCGg x)<(qCGp c))=true->(qCGn<=(qCGg x)/\(qCGg x)<=(qCGp c))/\(decide ((qCGg x)<(qCGp c))=true->(qCGn<=(qCGg x)/\(qCGg x)<=(qCGp c))/\qCGk+Int.toNat (qCGg x)<=List.length (LX.D x)/\(qCGk<=qCGk+Int.toNat (qCGg x)/\qCGk+Int.toNat (qCGg x)+(Zu3 c x)<=List.length (LX.D x))/\∃(x':LX),R x'/\x'.2+qCGx<=x.2/\true=true/\((qCGf c)/\wr IntKind.i64 ((qCGg x)+(↑(min (List.length (Zzi x)) (Zu3 c x)):Int))=(qCGg x')/\True)/\(List.take (qCGk+Int.toNat (qCGg x)) (LX.D x)++List.take (Zu3 c x) (Zzi x)++List.drop (qCGk+Int.toNat (qCGg x)+min (List.length (Zzi x)) (Zu3 c x)) (LX.D x)=LX.D x'/\qCGk=qCGk)/\True)/\(decide ((qCGg x)<(qCGp c))=false->(qCGn<=(qCGg x)/\(qCGg x)<=(qCGp c))/\False))/\(decide ((qCGg x)<(qCGp c))=false->(qCGn<=qCGn/\qCGn+qCGy<=(qCGp c))/\qCGk<=qCGk+Int.toNat qCGn/\qCGk+Int.toNat qCGn+qCGx<=List.length (LX.D x)/\∀(x_1:Int),(LX.D x)[qCGk+Int.toNat qCGn]? =some x_1->∃(R:LX->Prop),(∃(x_2:LX),R x_2/\true=true/\((qCGh c)/\qCGn=LX.m x_2/\(qCGf c)/\(qCGh c)/\(qCGi c)=(qCGi c)/\qCGn=(qCGg x_2)/\True)/\(List.set (LX.D x) (qCGk+Int.toNat qCGn) qCGn=LX.D x_2/\qCGk=qCGk)/\True)/\∀(x:LX),R x->(decide ((qCGg x)<(qCGi c))=true->qCGn<=(qCGg x)/\(qCGg x)+qCGy<=(qCGi c)/\∀(x_2:Ins),c[Int.toNat (qCGg x)]? =some x_2->(qCGn<=(qCGg x)/\(qCGg x)+qCGy<=(qCGp c))/\qCGk+Int.toNat (qCGg x)+qCGx<=List.length (LX.D x)/\∀(x_3:Int),(LX.D x)[qCGk+Int.toNat (qCGg x)]? =some x_3->(decide (x_3<qCGn)=true->∃(x':LX),R x'/\x'.2+qCGx<=x.2/\true=true/\((qCGh c)/\LX.m x=LX.m x'/\(qCGf c)/\(qCGh c)/\(qCGi c)=(qCGi c)/\wr IntKind.i64 (qCGj x)=(qCGg x')/\True)/\(qCGt x x')/\True)/\(decide (x_3<qCGn)=false->True/\∃(Q:Bool->Prop),((decide (x_3<Prod.fst (eff (Ins.op x_2)))=true->Q true)/\(decide (x_3<Prod.fst (eff (Ins.op x_2)))=false->((Ins.op x_2==(15:Int))=true->((x_3 !=qCGy)=true->Q true)/\((x_3 !=qCGy)=false->((Ins.op x_2==(16:Int))=true->((x_3 !=qCGn)=true->Q true)/\((x_3 !=qCGn)=false->Q false))/\((Ins.op x_2==(16:Int))=false->Q false)))/\((Ins.op x_2==(15:Int))=false->((Ins.op x_2==(16:Int))=true->((x_3 !=qCGn)=true->Q true)/\((x_3 !=qCGn)=false->Q false))/\((Ins.op x_2==(16:Int))=false->Q false))))/\(Q true->qCGn=p/\(200:Int)=q/\True)/\(Q false->∃(Q:Bool->Prop),(((Ins.op x_2==(13:Int))=
true->Q true)/\((Ins.op x_2==(13:Int))=false->((Ins.op x_2==(14:Int))=true->Q true)/\((Ins.op x_2==(14:Int))=false->Q false)))/\(Q true->∃(Q:Bool->Prop),(qCGr x_2 Q)/\(Q true->(List.length [Ins.n x_2]<=List.length [Ins.n x_2]/\qCGk<=List.length [Ins.n x_2]/\(List.length [Ins.n x_2]+List.length [wr IntKind.i64 (qCGj x)])*(8:Nat)<=(140737488355328:Nat))/\∃(R_1:LX->Prop),(∃(x_4:LX),R_1 x_4/\true=true/\((qCGh c)/\mm2 true (qCGu x x_3) (qCGo x_3 x_2)=mm2 true (qCGu x x_3) (qCGo x_3 x_2)/\(qCGf c)/\(qCGg x)=(qCGg x)/\wr IntKind.i64 (qCGd x_3 x_2)=wr IntKind.i64 (qCGd x_3 x_2)/\(qCGh c)/\(qCGi c)=(qCGi c)/\(qCGg x)=(qCGg x)/\(qCGv x_2 x)/\(qCGm x_2 x)=(qCGm x_2 x)/\qCGn=(qCGg x_4)/\True)/\(qCGt x x_4)/\(qCGw x_2 x)/\True)/\∀(x_4:LX),R_1 x_4->(decide ((qCGg x_4)<(qCGm x_2 x))=true->(qCGn<=(qCGg x_4)/\(qCGg x_4)+qCGy<=(qCGm x_2 x))/\qCGk+Int.toNat (qCGg x_4)+qCGx<=List.length (List.take (qCGs x_2) [Ins.n x_2]++ [wr IntKind.i64 (qCGj x)])/\∀(x_5:Int),(List.take (qCGs x_2) [Ins.n x_2]++ [wr IntKind.i64 (qCGj x)])[qCGk+Int.toNat (qCGg x_4)]? =some x_5->∃(Q:Bool->Prop),(qCGe x_5 x Q c x_4 x_3 x_2)/\(Q true->qCGn=p/\(200:Int)=q/\True)/\(Q false->(Zq4 x_5 c)/\qCGk<=qCGk+Int.toNat x_5/\qCGk+Int.toNat x_5+qCGx<=List.length (LX.D x_4)/\∀(x_6:Int),(LX.D x_4)[qCGk+Int.toNat x_5]? =some x_6->∃(x':LX),R_1 x'/\x'.2+qCGx<=x_4.2/\true=true/\((qCGh c)/\mm2 true (qCGu x x_3) (qCGo x_3 x_2)=mm2 true (qCGu x x_3) (qCGo x_3 x_2)/\(qCGf c)/\(qCGg x)=(qCGg x)/\wr IntKind.i64 (qCGd x_3 x_2)=wr IntKind.i64 (qCGd x_3 x_2)/\(qCGh c)/\(qCGi c)=(qCGi c)/\(qCGg x)=(qCGg x)/\(qCGv x_2 x)/\(qCGm x_2 x)=(qCGm x_2 x)/\wr IntKind.i64 (qCGj x_4)=(qCGg x')/\True)/\(List.set (LX.D x_4) (qCGk+Int.toNat x_5) (qCGo x_3 x_2)=LX.D x'/\qCGk=qCGk)/\(qCGw x_2 x)/\True))/\(decide ((qCGg x_4)<(qCGm x_2 x))=false->∃(x':LX),R x'/\x'.2+qCGx<=x.2/\true=true/\(qCGl c x x_3 x_2 x')/\(qCGt x_4 x')/\True))/\(Q false->∃(R_1:LX->Prop),(∃(x_4:LX),R_1 x_4/\true=true/\((qCGh c)/\mm2 true (qCGu x x_3) (qCGo x_3 x_2)=mm2 true (qCGu x x_3) (qCGo x_3 x_2)/\(qCGf c)/\(qCGg x)=(qCGg x)/\wr IntKind.i64 (qCGd x_3 x_2)=wr IntKind.i64 (qCGd x_3 x_2)/\(qCGh c)/\(qCGi c)=(qCGi c)/\(qCGg x)=(qCGg x)/\(Z3t x_2)/\(↑(qCGs x_2):Int)=(↑(qCGs x_2):Int)/\qCGn=(qCGg x_4)/\True)/\(qCGt x x_4)/\([Ins.n x_2]= [Ins.n x_2]/\qCGk=qCGk)/\True)/\∀(x_4:LX),R_1 x_4->(decide ((qCGg x_4)<(↑(qCGs x_2):Int))=true->(qCGn<=(qCGg x_4)/\(qCGg x_4)+qCGy<=(↑(qCGs x_2):Int))/\qCGk+Int.toNat (qCGg x_4)+qCGx<=List.length [Ins.n x_2]/\∀(x_5:Int),[Ins.n x_2][qCGk+Int.toNat (qCGg x_4)]? =some x_5->∃(Q:Bool->Prop),(qCGe x_5 x Q c x_4 x_3 x_2)/\(Q true->qCGn=p/\(200:Int)=q/\True)/\(Q false->(Zq4 x_5 c)/\qCGk<=qCGk+Int.toNat x_5/\qCGk+Int.toNat x_5+qCGx<=List.length (LX.D x_4)/\∀(x_6:Int),(LX.D x_4)[qCGk+Int.toNat x_5]? =some x_6->∃(x':LX),R_1 x'/\x'.2+qCGx<=x_4.2/\true=true/\((qCGh c)/\mm2 true (qCGu x x_3) (qCGo x_3 x_2)=mm2 true (qCGu x x_3) (qCGo x_3 x_2)/\(qCGf c)/\(qCGg x)=(qCGg x)/\wr IntKind.i64 (qCGd x_3 x_2)=wr IntKind.i64 (qCGd x_3 x_2)/\(qCGh c)/\(qCGi c)=(qCGi c)/\(qCGg x)=(qCGg x)/\(Z3t x_2)/\(↑(qCGs x_2):Int)=(↑(qCGs x_2):Int)/\wr IntKind.i64 (qCGj x_4)=(qCGg x')/\True)/\(List.set (LX.D x_4) (qCGk+Int.toNat x_5) (qCGo x_3 x_2)=LX.D x'/\qCGk=qCGk)/\([Ins.n x_2]= [Ins.n x_2]/\qCGk=qCGk)/\True))/\(decide ((qCGg x_4)<(↑(qCGs x_2):Int))=false->∃(x':LX),R x'/\x'.2+qCGx<=x.2/\true=true/\(qCGl c x x_3 x_2 x')/\(qCGt x_4 x')/\True)))/\(Q false->∃(Q:Bool->Prop),(qCGr x_2 Q)/\(Q true->∃(R_1:LX->Prop),(∃(x_4:LX),R_1 x_4/\true=true/\((qCGh c)/\mm2 true (qCGu x x_3) (qCGo x_3 x_2)=mm2 true (qCGu
x x_3) (qCGo x_3 x_2)/\(qCGf c)/\(qCGg x)=(qCGg x)/\wr IntKind.i64 (qCGd x_3 x_2)=wr IntKind.i64 (qCGd x_3 x_2)/\(qCGh c)/\(qCGi c)=(qCGi c)/\(qCGg x)=(qCGg x)/\(qCGz x)/\(qCGq x)=(qCGq x)/\qCGn=(qCGg x_4)/\True)/\(qCGt x x_4)/\(Z3u x)/\True)/\∀(x_4:LX),R_1 x_4->(decide ((qCGg x_4)<(qCGq x))=true->(qCGn<=(qCGg x_4)/\(qCGg x_4)+qCGy<=(qCGq x))/\qCGk+Int.toNat (qCGg x_4)+qCGx<=List.length [wr IntKind.i64 (qCGj x)]/\∀(x_5:Int),[wr IntKind.i64 (qCGj x)][qCGk+Int.toNat (qCGg x_4)]? =some x_5->∃(Q:Bool->Prop),(qCGe x_5 x Q c x_4 x_3 x_2)/\(Q true->qCGn=p/\(200:Int)=q/\True)/\(Q false->(Zq4 x_5 c)/\qCGk<=qCGk+Int.toNat x_5/\qCGk+Int.toNat x_5+qCGx<=List.length (LX.D x_4)/\∀(x_6:Int),(LX.D x_4)[qCGk+Int.toNat x_5]? =some x_6->∃(x':LX),R_1 x'/\x'.2+qCGx<=x_4.2/\true=true/\((qCGh c)/\mm2 true (qCGu x x_3) (qCGo x_3 x_2)=mm2 true (qCGu x x_3) (qCGo x_3 x_2)/\(qCGf c)/\(qCGg x)=(qCGg x)/\wr IntKind.i64 (qCGd x_3 x_2)=wr IntKind.i64 (qCGd x_3 x_2)/\(qCGh c)/\(qCGi c)=(qCGi c)/\(qCGg x)=(qCGg x)/\(qCGz x)/\(qCGq x)=(qCGq x)/\wr IntKind.i64 (qCGj x_4)=(qCGg x')/\True)/\(List.set (LX.D x_4) (qCGk+Int.toNat x_5) (qCGo x_3 x_2)=LX.D x'/\qCGk=qCGk)/\(Z3u x)/\True))/\(decide ((qCGg x_4)<(qCGq x))=false->∃(x':LX),R x'/\x'.2+qCGx<=x.2/\true=true/\(qCGl c x x_3 x_2 x')/\(qCGt x_4 x')/\True))/\(Q false->∃(R_1:LX->Prop),(∃(x_4:LX),R_1 x_4/\true=true/\((qCGh c)/\mm2 true (qCGu x x_3) (qCGo x_3 x_2)=mm2 true (qCGu x x_3) (qCGo x_3 x_2)/\(qCGf c)/\(qCGg x)=(qCGg x)/\wr IntKind.i64 (qCGd x_3 x_2)=wr IntKind.i64 (qCGd x_3 x_2)/\(qCGh c)/\(qCGi c)=(qCGi c)/\(qCGg x)=(qCGg x)/\Value.slice none qCGk qCGk=Value.slice none qCGk qCGk/\qCGn=qCGn/\qCGn=(qCGg x_4)/\True)/\(qCGt x x_4)/\True)/\∀(x_4:LX),R_1 x_4->(decide ((qCGg x_4)<qCGn)=true->False)/\(decide ((qCGg x_4)<qCGn)=false->∃(x':LX),R x'/\x'.2+qCGx<=x.2/\true=true/\(qCGl c x x_3 x_2 x')/\(qCGt x_4 x')/\True))))))/\(decide ((qCGg x)<(qCGi c))=false->(decide (LX.m x>(64:Int))=true->qCGn=p/\(2:Int)=q/\True)/\(decide (LX.m x>(64:Int))=false->LX.m x=p/\qCGn=q/\True))))))))):=by kernel_rfl
theorem Zu4 {n k:Nat} (h1:1<=k) (h2:k<n) {D:List Int} (hD:D=List.replicate k (-1)++List.replicate (n-k) 0):
 List.take k D++List.take (n-k) (List.take k D)++List.drop (k+min (List.take k D).length (n-k)) D=List.replicate (k+min k (n-k)) (-1)++List.replicate (n-(k+min k (n-k))) 0:=by
 subst hD
 have e1:List.take k (List.replicate k (-1:Int)++List.replicate (n-k) 0)=List.replicate k (-1):=List.take_left' (by simp)
 rw [e1,List.length_replicate,List.take_replicate]
 have e2:List.drop (k+min k (n-k)) (List.replicate k (-1:Int)++List.replicate (n-k) 0)=List.drop (min k (n-k)) (List.replicate (n-k) 0):=by
  rw [List.drop_append,List.length_replicate,List.drop_eq_nil_of_le (by simp),show k+min k (n-k)-k=min k (n-k) by omega,List.nil_append]
 rw [e2,List.drop_replicate,List.replicate_append_replicate,Nat.min_comm (n-k) k,show n-k-min k (n-k)=n-(k+min k (n-k)) by omega]
structure RVV (c:List Ins) (x:LX):Prop where
 kr:x.k+x.r=c.length
 len:x.D.length=c.length
 lo:∀d∈x.D,-1<=d/\d<=x.k
 run:fromF c.length (c.drop x.k) x.k x.D x.m=fromF c.length c 0 (deps c) 0
structure RNV (c:List Ins) (x:LX) (after:Int) (ns:List Int) (y:LX):Prop where
 kr:y.k+y.r=ns.length
 len:y.D.length=c.length
 lo:∀d∈y.D,-1<=d/\d<=x.k+1
 run:setF c.length x.k after (ns.drop y.k) y.D=setF c.length x.k after ns x.D
theorem Z3v (op:Int):0<=(eff op).1/\(eff op).1<=2/\0<=(eff op).2/\(eff op).2<=1:=by
 unfold eff
 repeat' split
 all_goals simp
theorem Zah {D:List Int} {j:Nat} {a lo hi:Int} (h:∀d∈D,lo<=d/\d<=hi) (h2:lo<=a/\a<=hi):∀d∈D.set j a,lo<=d/\d<=hi:=by
 intro d hd
 rcases List.mem_or_eq_of_mem_set hd with h3|h3
 · exact h d h3
 · subst h3;exact h2
theorem Zca (c:List Ins):PureC E 14 [.psl .ins c false] (.tup [.int false .i64 (verF c).1,.int false .i64 (verF c).2]):=by
 refine Za E_ok (Ze E_ok Z6i 400) ?_
 rw [Zjp];delta qCGi Zq3 qCGc qCGd qCGx qCGg qCGk qCGy Zjo qCGp qCGn Zq4 qCGe qCGf qCGh qCGj qCGo qCGu qCGl qCGm qCGq qCGr qCGs qCGt qCGv qCGw qCGz Zu3 Zzi Z3t Z3u
 have s1:4096<c.length->verF c=(0,2):=fun h=>by unfold verF;rw [if_pos h]
 have s2:c.length=0->verF c=(0,200):=fun h=>by unfold verF;rw [if_neg (by omega),if_pos (.inl h)]
 have s3:c.length<=4096->c.all formedF=false->verF c=(0,200):=fun h h2=>by unfold verF;rw [if_neg (by omega),if_pos (.inr h2)]
 have s4:c.length<=4096->c.length≠0->c.all formedF=true->verF c=endF (fromF c.length c 0 (deps c) 0):=fun h h2 h3=>by unfold verF;rw [if_neg (by omega),if_neg (by simp [h2,h3])]
 generalize verF c=V at*
 simp only [Y3,Yi,Vr,Vs,Vt,beq_iff_eq,bne_iff_ne,beq_eq_false_iff_ne,bne_eq_false_iff_eq,decide_eq_true_eq,decide_eq_false_iff_not,Bool.or_eq_true,Bool.or_eq_false_iff,Bool.not_eq_true',Bool.not_eq_false',Bool.and_eq_true,Bool.and_true,Bool.true_and,Bool.and_eq_false_iff,beq_self_eq_true,Yx,Yy,ne_eq,and_true,true_and,Bool.true_eq_false,Bool.false_eq_true,false_or,or_false,true_implies,Int.ofNat_eq_natCast,not_true_eq_false,not_false_eq_true,Decidable.not_not,gt_iff_lt,ge_iff_le]
 refine ⟨fun h=> ?_,fun h=>⟨fun h2=> ?_,fun h2=>⟨by omega,fun h3=> ?_,fun h3=>⟨fun h4=>by omega,fun h4=> ?_⟩⟩⟩⟩
 · rw [s1 (by omega)];simp
 · rw [s2 (by omega)];simp
 · rw [s3 (by omega) (by simpa using h3)];simp
 have hn:c.length<=4096:=by omega
 rw [s4 hn (by omega) h3]
 clear s1 s2 s3 s4 V h4 h
 have eU:wr .u64 (c.length:Int)=c.length:=Zu2 (by omega) (by omega)
 have eI:wr .i64 (c.length:Int)=c.length:=wr64 (by omega) (by omega)
 simp only [eU,eI,Int.toNat_natCast,Nat.zero_add,Int.toNat_zero]
 refine ⟨by omega,?_⟩
 refine ⟨fun b=>b=false,⟨fun h=>by omega,fun _=>⟨fun h=>by omega,fun _=>rfl⟩⟩,fun h=>by simp at h,fun _=> ?_⟩
 refine ⟨by omega,Int.le_refl _,by omega,by simp,?_⟩
 refine ⟨fun x=>1<=x.k/\x.k+x.r=c.length/\x.D=List.replicate x.k (-1)++List.replicate (c.length-x.k) 0,⟨⟨1,c.length-1,List.replicate 1 (-1)++List.replicate (c.length-1) 0,0⟩,⟨Nat.le_refl _,by show 1+(c.length-1)=_;omega,rfl⟩,?_⟩,fun x hx=> ?_⟩
 · have e:min ([-1]:List Int).length c.length=1:=by simp;omega
   rw [e]
   refine ⟨by simp,?_⟩
   have e2:List.take c.length [(-1:Int)]= [-1]:=List.take_of_length_le (by simp;omega)
   rw [e2]
   simp
 obtain ⟨hk1,hkr,hD⟩:=hx
 have hDl:x.D.length=c.length:=by rw [hD];simp;omega
 refine ⟨fun hlt=>⟨by omega,fun _=>⟨by omega,by omega,by omega,?_⟩,fun h=>absurd hlt h⟩,fun hge=> ?_⟩
 · have e:=Zu4 hk1 (by omega:x.k<c.length) hD
   have e3:(List.take x.k x.D).length=x.k:=by rw [List.length_take];omega
   rw [e3] at e⊢
   refine ⟨⟨x.k+min x.k (c.length-x.k),c.length-(x.k+min x.k (c.length-x.k)),_,0⟩,⟨by show 1<=x.k+_;omega,by show x.k+min x.k (c.length-x.k)+(c.length-(x.k+min x.k (c.length-x.k)))=_;omega,rfl⟩,by show c.length-(x.k+min x.k (c.length-x.k))+1<=x.r;omega,?_,e⟩
   rw [wr64 (by omega) (by omega)]
   show _=((x.k+min x.k (c.length-x.k):Nat):Int)
   omega
 have hkn:x.k=c.length:=by omega
 have hD:x.D=List.replicate c.length (-1):=by rw [hD,hkn,Nat.sub_self];simp
 clear hk1 hkr hge
 refine ⟨by omega,by omega,by omega,fun z hz=> ?_⟩
 rw [hD] at hDl⊢
 clear hz hD hkn
 refine ⟨RVV c,⟨⟨0,c.length,deps c,0⟩,⟨by show 0+c.length=_;omega,by simp [deps],?_,by simp⟩,by simp [deps]⟩,fun x hR=> ?_⟩
 · intro d hd
   rcases List.mem_or_eq_of_mem_set hd with h|h
   · rw [List.mem_replicate] at h;show-1<=d/\d<=0;omega
   · show-1<=d/\d<=0;omega
 have hlen:=hR.len
 refine ⟨fun hlt=>⟨by omega,by omega,fun x2 hx2=>⟨by omega,by omega,fun x3 hx3=> ?_⟩⟩,fun hge=> ?_⟩
 · have hb:=hR.lo x3 (List.mem_of_getElem? hx3)
   have he:=Z3v x2.op
   have hkr:=hR.kr
   have hget:x.D.getD x.k 0=x3:=by simp [List.getD_eq_getElem?_getD,hx3]
   have hdrop:c.drop x.k=x2::c.drop (x.k+1):=by
    obtain ⟨h1,rfl⟩:=gA9.1 hx2
    exact List.drop_eq_getElem_cons h1
   have hrun:=hR.run
   rw [hdrop] at hrun
   simp only [fromF] at hrun
   have hfo:formedF x2=true:=List.all_eq_true.1 h3 x2 (List.mem_of_getElem? hx2)
   have eK:wr .i64 ((x.k:Int)+1)=x.k+1:=wr64 (by omega) (by omega)
   have eA:wr .i64 (wr .i64 (x3-(eff x2.op).1)+(eff x2.op).2)=x3-(eff x2.op).1+(eff x2.op).2:=by
    have e0:wr .i64 (x3-(eff x2.op).1)=x3-(eff x2.op).1:=wr64 (by omega) (by omega)
    rw [e0];exact wr64 (by omega) (by omega)
   simp only [eK,eA,Yx]
   refine ⟨fun hneg=> ?_,fun hneg=> ?_⟩
   · have hsome:rndF c.length x.k x2 x.D x.m=some (x.D,x.m):=by unfold rndF;rw [hget,if_pos hneg]
     rw [hsome] at hrun
     exact ⟨⟨x.k+1,x.r-1,x.D,x.m⟩,⟨by show x.k+1+(x.r-1)=_;omega,hlen,fun d hd=>by have:=hR.lo d hd;show-1<=d/\d<=((x.k+1:Nat):Int);omega,hrun⟩,by show x.r-1+1<=x.r;omega,by simp⟩
   refine ⟨fun b=>(b=true↔(x3<(eff x2.op).1\/(x2.op=15/\x3≠1)\/(x2.op=16/\x3≠0))),?_,fun hQ=> ?_,fun hQ=> ?_⟩
   · repeat' (first|(refine And.intro ?_ ?_)|(intro h))
     all_goals simp
     all_goals omega
   · have hQ:=hQ.1 rfl
     have hnone:rndF c.length x.k x2 x.D x.m=none:=by unfold rndF;rw [hget,if_neg hneg,if_pos hQ]
     rw [hnone] at hrun
     rw [<-hrun]
     simp [endF]
   · have hbad:¬(x3<(eff x2.op).1\/(x2.op=15/\x3≠1)\/(x2.op=16/\x3≠0)):=fun h=>absurd (hQ.2 h) (by simp)
     clear hQ
     refine ⟨fun b=>(b=true↔(x2.op=13\/x2.op=14)),?_,fun hQ=> ?_,fun hQ=> ?_⟩
     · repeat' (first|(refine And.intro ?_ ?_)|(intro h))
       all_goals simp
       all_goals omega
     · have hQ:=hQ.1 rfl
       refine ⟨fun b=>(b=true↔(x2.op≠14/\x2.op≠15/\x2.op≠16)),?_,fun hQ2=> ?_,fun hQ2=> ?_⟩
       · repeat' (first|(refine And.intro ?_ ?_)|(intro h))
         all_goals simp
         all_goals omega
       · have hQ2:=hQ2.1 rfl
         have hnx:nextF x.k x2= [x2.n,(x.k:Int)+1]:=by unfold nextF;rw [if_neg (by omega),if_neg (by omega),if_pos (by omega)]
         simp only [List.length_cons,List.length_nil,Nat.zero_add,List.take_succ_cons,List.take_zero,List.cons_append,List.nil_append]
         refine ⟨by omega,?_⟩
         refine ⟨RNV c x (x3-(eff x2.op).1+(eff x2.op).2) [x2.n,(x.k:Int)+1],⟨⟨0,2,x.D,0⟩,⟨rfl,hR.len,fun d hd=>⟨(hR.lo d hd).1,by have:=(hR.lo d hd).2;omega⟩,rfl⟩,by simp⟩,fun y hy=>⟨fun hlt=> ?_,fun hge=> ?_⟩⟩
         · have hyk:y.k<([x2.n,(x.k:Int)+1]).length:=by simp only [List.length_cons,List.length_nil];omega
           refine ⟨by omega,by first|omega|(simp only [List.length_cons,List.length_nil];omega),fun n hy5=> ?_⟩
           have hns:([x2.n,(x.k:Int)+1]).drop y.k=n::([x2.n,(x.k:Int)+1]).drop (y.k+1):=by
            obtain ⟨h1,rfl⟩:=gA9.1 hy5
            exact List.drop_eq_getElem_cons h1
           have hset:=hy.run
           rw [hns] at hset
           generalize hS:setF c.length x.k (x3-(eff x2.op).1+(eff x2.op).2) [x2.n,(x.k:Int)+1] x.D=SF at hset
           simp only [setF] at hset
           refine ⟨fun b=>(b=true↔(n<=x.k\/(c.length:Int)<=n\/(0<=y.D.getD n.toNat 0/\y.D.getD n.toNat 0≠x3-(eff x2.op).1+(eff x2.op).2))),?_,fun hQ=> ?_,fun hQ=> ?_⟩
           · refine ⟨fun h=>by simp [h],fun h=>⟨fun h'=>by simp [h'],fun h'=>⟨by omega,by rw [hy.len];omega,fun z hz=> ?_⟩⟩⟩
             have hg:y.D.getD n.toNat 0=z:=by simp [List.getD_eq_getElem?_getD,hz]
             rw [hg]
             refine ⟨fun h0=>⟨by omega,by rw [hy.len];omega,fun z2 hz2=> ?_⟩,fun h0=>by simp;omega⟩
             rw [hz] at hz2;cases hz2
             exact ⟨fun h1=>by simp;omega,fun h1=>by simp;omega⟩
           · have hQ:=hQ.1 rfl
             rw [if_pos hQ] at hset
             have hnone:rndF c.length x.k x2 x.D x.m=none:=by
              unfold rndF
              rw [hget,if_neg hneg,if_neg hbad,hnx,hS,<-hset]
             rw [hnone] at hrun
             rw [<-hrun]
             simp [endF]
           · have hQ:¬(n<=x.k\/(c.length:Int)<=n\/(0<=y.D.getD n.toNat 0/\y.D.getD n.toNat 0≠x3-(eff x2.op).1+(eff x2.op).2)):=fun h=>by simp at hQ;exact absurd h (by simpa using hQ)
             rw [if_neg hQ] at hset
             refine ⟨by omega,Nat.zero_le _,by rw [hy.len];omega,fun z hz=> ?_⟩
             refine ⟨⟨y.k+1,y.r-1,y.D.set n.toNat (x3-(eff x2.op).1+(eff x2.op).2),0⟩,⟨by have:=hy.kr;show y.k+1+(y.r-1)=_;omega,by simp [hy.len],Zah hy.lo (by omega),hset.trans hS.symm⟩,by have:=hy.kr;show y.r-1+1<=y.r;omega,?_⟩
             rw [wr64 (by omega) (by omega)]
             simp
         · have hyk:([x2.n,(x.k:Int)+1]).drop y.k= []:=List.drop_eq_nil_of_le (by simp only [List.length_cons,List.length_nil];omega)
           have hset:=hy.run
           rw [hyk] at hset
           generalize hS:setF c.length x.k (x3-(eff x2.op).1+(eff x2.op).2) [x2.n,(x.k:Int)+1] x.D=SF at hset
           simp only [setF] at hset
           have hsome:rndF c.length x.k x2 x.D x.m=some (y.D,max (max x.m x3) (x3-(eff x2.op).1+(eff x2.op).2)):=by
            unfold rndF
            rw [hget,if_neg hneg,if_neg hbad,hnx,hS,<-hset]
           rw [hsome] at hrun
           refine ⟨⟨x.k+1,x.r-1,y.D,_⟩,⟨by have:=hR.kr;show x.k+1+(x.r-1)=_;omega,hy.len,fun d hd=>by have:=hy.lo d hd;show-1<=d/\d<=((x.k+1:Nat):Int);omega,hrun⟩,by have:=hR.kr;show x.r-1+1<=x.r;omega,?_⟩
           simp
       · have hQ2:¬(x2.op≠14/\x2.op≠15/\x2.op≠16):=fun h=>absurd (hQ2.2 h) (by simp)
         have hnx:nextF x.k x2= [x2.n]:=by unfold nextF;rw [if_neg (by omega),if_pos (by omega)]
         simp only [List.length_cons,List.length_nil,Nat.zero_add]
         refine ⟨RNV c x (x3-(eff x2.op).1+(eff x2.op).2) [x2.n],⟨⟨0,1,x.D,0⟩,⟨rfl,hR.len,fun d hd=>⟨(hR.lo d hd).1,by have:=(hR.lo d hd).2;omega⟩,rfl⟩,by simp⟩,fun y hy=>⟨fun hlt=> ?_,fun hge=> ?_⟩⟩
         · have hyk:y.k<([x2.n]).length:=by simp only [List.length_cons,List.length_nil];omega
           refine ⟨by omega,by first|omega|(simp only [List.length_cons,List.length_nil];omega),fun n hy5=> ?_⟩
           have hns:([x2.n]).drop y.k=n::([x2.n]).drop (y.k+1):=by
            obtain ⟨h1,rfl⟩:=gA9.1 hy5
            exact List.drop_eq_getElem_cons h1
           have hset:=hy.run
           rw [hns] at hset
           generalize hS:setF c.length x.k (x3-(eff x2.op).1+(eff x2.op).2) [x2.n] x.D=SF at hset
           simp only [setF] at hset
           refine ⟨fun b=>(b=true↔(n<=x.k\/(c.length:Int)<=n\/(0<=y.D.getD n.toNat 0/\y.D.getD n.toNat 0≠x3-(eff x2.op).1+(eff x2.op).2))),?_,fun hQ=> ?_,fun hQ=> ?_⟩
           · refine ⟨fun h=>by simp [h],fun h=>⟨fun h'=>by simp [h'],fun h'=>⟨by omega,by rw [hy.len];omega,fun z hz=> ?_⟩⟩⟩
             have hg:y.D.getD n.toNat 0=z:=by simp [List.getD_eq_getElem?_getD,hz]
             rw [hg]
             refine ⟨fun h0=>⟨by omega,by rw [hy.len];omega,fun z2 hz2=> ?_⟩,fun h0=>by simp;omega⟩
             rw [hz] at hz2;cases hz2
             exact ⟨fun h1=>by simp;omega,fun h1=>by simp;omega⟩
           · have hQ:=hQ.1 rfl
             rw [if_pos hQ] at hset
             have hnone:rndF c.length x.k x2 x.D x.m=none:=by
              unfold rndF
              rw [hget,if_neg hneg,if_neg hbad,hnx,hS,<-hset]
             rw [hnone] at hrun
             rw [<-hrun]
             simp [endF]
           · have hQ:¬(n<=x.k\/(c.length:Int)<=n\/(0<=y.D.getD n.toNat 0/\y.D.getD n.toNat 0≠x3-(eff x2.op).1+(eff x2.op).2)):=fun h=>by simp at hQ;exact absurd h (by simpa using hQ)
             rw [if_neg hQ] at hset
             refine ⟨by omega,Nat.zero_le _,by rw [hy.len];omega,fun z hz=> ?_⟩
             refine ⟨⟨y.k+1,y.r-1,y.D.set n.toNat (x3-(eff x2.op).1+(eff x2.op).2),0⟩,⟨by have:=hy.kr;show y.k+1+(y.r-1)=_;omega,by simp [hy.len],Zah hy.lo (by omega),hset.trans hS.symm⟩,by have:=hy.kr;show y.r-1+1<=y.r;omega,?_⟩
             rw [wr64 (by omega) (by omega)]
             simp
         · have hyk:([x2.n]).drop y.k= []:=List.drop_eq_nil_of_le (by simp only [List.length_cons,List.length_nil];omega)
           have hset:=hy.run
           rw [hyk] at hset
           generalize hS:setF c.length x.k (x3-(eff x2.op).1+(eff x2.op).2) [x2.n] x.D=SF at hset
           simp only [setF] at hset
           have hsome:rndF c.length x.k x2 x.D x.m=some (y.D,max (max x.m x3) (x3-(eff x2.op).1+(eff x2.op).2)):=by
            unfold rndF
            rw [hget,if_neg hneg,if_neg hbad,hnx,hS,<-hset]
           rw [hsome] at hrun
           refine ⟨⟨x.k+1,x.r-1,y.D,_⟩,⟨by have:=hR.kr;show x.k+1+(x.r-1)=_;omega,hy.len,fun d hd=>by have:=hy.lo d hd;show-1<=d/\d<=((x.k+1:Nat):Int);omega,hrun⟩,by have:=hR.kr;show x.r-1+1<=x.r;omega,?_⟩
           simp
     · have hQ:¬(x2.op=13\/x2.op=14):=fun h=>absurd (hQ.2 h) (by simp)
       refine ⟨fun b=>(b=true↔(x2.op≠14/\x2.op≠15/\x2.op≠16)),?_,fun hQ2=> ?_,fun hQ2=> ?_⟩
       · repeat' (first|(refine And.intro ?_ ?_)|(intro h))
         all_goals simp
         all_goals omega
       · have hQ2:=hQ2.1 rfl
         have hnx:nextF x.k x2= [(x.k:Int)+1]:=by unfold nextF;rw [if_neg (by omega),if_neg (by omega),if_neg (by omega)]
         simp only [List.length_cons,List.length_nil,Nat.zero_add]
         refine ⟨RNV c x (x3-(eff x2.op).1+(eff x2.op).2) [(x.k:Int)+1],⟨⟨0,1,x.D,0⟩,⟨rfl,hR.len,fun d hd=>⟨(hR.lo d hd).1,by have:=(hR.lo d hd).2;omega⟩,rfl⟩,by simp⟩,fun y hy=>⟨fun hlt=> ?_,fun hge=> ?_⟩⟩
         · have hyk:y.k<([(x.k:Int)+1]).length:=by simp only [List.length_cons,List.length_nil];omega
           refine ⟨by omega,by first|omega|(simp only [List.length_cons,List.length_nil];omega),fun n hy5=> ?_⟩
           have hns:([(x.k:Int)+1]).drop y.k=n::([(x.k:Int)+1]).drop (y.k+1):=by
            obtain ⟨h1,rfl⟩:=gA9.1 hy5
            exact List.drop_eq_getElem_cons h1
           have hset:=hy.run
           rw [hns] at hset
           generalize hS:setF c.length x.k (x3-(eff x2.op).1+(eff x2.op).2) [(x.k:Int)+1] x.D=SF at hset
           simp only [setF] at hset
           refine ⟨fun b=>(b=true↔(n<=x.k\/(c.length:Int)<=n\/(0<=y.D.getD n.toNat 0/\y.D.getD n.toNat 0≠x3-(eff x2.op).1+(eff x2.op).2))),?_,fun hQ=> ?_,fun hQ=> ?_⟩
           · refine ⟨fun h=>by simp [h],fun h=>⟨fun h'=>by simp [h'],fun h'=>⟨by omega,by rw [hy.len];omega,fun z hz=> ?_⟩⟩⟩
             have hg:y.D.getD n.toNat 0=z:=by simp [List.getD_eq_getElem?_getD,hz]
             rw [hg]
             refine ⟨fun h0=>⟨by omega,by rw [hy.len];omega,fun z2 hz2=> ?_⟩,fun h0=>by simp;omega⟩
             rw [hz] at hz2;cases hz2
             exact ⟨fun h1=>by simp;omega,fun h1=>by simp;omega⟩
           · have hQ:=hQ.1 rfl
             rw [if_pos hQ] at hset
             have hnone:rndF c.length x.k x2 x.D x.m=none:=by
              unfold rndF
              rw [hget,if_neg hneg,if_neg hbad,hnx,hS,<-hset]
             rw [hnone] at hrun
             rw [<-hrun]
             simp [endF]
           · have hQ:¬(n<=x.k\/(c.length:Int)<=n\/(0<=y.D.getD n.toNat 0/\y.D.getD n.toNat 0≠x3-(eff x2.op).1+(eff x2.op).2)):=fun h=>by simp at hQ;exact absurd h (by simpa using hQ)
             rw [if_neg hQ] at hset
             refine ⟨by omega,Nat.zero_le _,by rw [hy.len];omega,fun z hz=> ?_⟩
             refine ⟨⟨y.k+1,y.r-1,y.D.set n.toNat (x3-(eff x2.op).1+(eff x2.op).2),0⟩,⟨by have:=hy.kr;show y.k+1+(y.r-1)=_;omega,by simp [hy.len],Zah hy.lo (by omega),hset.trans hS.symm⟩,by have:=hy.kr;show y.r-1+1<=y.r;omega,?_⟩
             rw [wr64 (by omega) (by omega)]
             simp
         · have hyk:([(x.k:Int)+1]).drop y.k= []:=List.drop_eq_nil_of_le (by simp only [List.length_cons,List.length_nil];omega)
           have hset:=hy.run
           rw [hyk] at hset
           generalize hS:setF c.length x.k (x3-(eff x2.op).1+(eff x2.op).2) [(x.k:Int)+1] x.D=SF at hset
           simp only [setF] at hset
           have hsome:rndF c.length x.k x2 x.D x.m=some (y.D,max (max x.m x3) (x3-(eff x2.op).1+(eff x2.op).2)):=by
            unfold rndF
            rw [hget,if_neg hneg,if_neg hbad,hnx,hS,<-hset]
           rw [hsome] at hrun
           refine ⟨⟨x.k+1,x.r-1,y.D,_⟩,⟨by have:=hR.kr;show x.k+1+(x.r-1)=_;omega,hy.len,fun d hd=>by have:=hy.lo d hd;show-1<=d/\d<=((x.k+1:Nat):Int);omega,hrun⟩,by have:=hR.kr;show x.r-1+1<=x.r;omega,?_⟩
           simp
       · have hQ2:¬(x2.op≠14/\x2.op≠15/\x2.op≠16):=fun h=>absurd (hQ2.2 h) (by simp)
         have hnx:nextF x.k x2= []:=by unfold nextF;rw [if_pos (by omega)]
         have hsome:rndF c.length x.k x2 x.D x.m=some (x.D,max (max x.m x3) (x3-(eff x2.op).1+(eff x2.op).2)):=by
          unfold rndF
          rw [hget,if_neg hneg,if_neg hbad,hnx]
          rfl
         rw [hsome] at hrun
         refine ⟨fun y=>y.D=x.D,⟨⟨0,0,x.D,0⟩,rfl,by simp⟩,fun y hy=>⟨fun h=>by omega,fun _=> ?_⟩⟩
         refine ⟨⟨x.k+1,x.r-1,x.D,_⟩,⟨by show x.k+1+(x.r-1)=_;omega,hlen,fun d hd=>by have:=hR.lo d hd;show-1<=d/\d<=((x.k+1:Nat):Int);omega,hrun⟩,by show x.r-1+1<=x.r;omega,?_⟩
         simp [hy]
 · have hrun:=hR.run
   rw [List.drop_eq_nil_of_le (by omega)] at hrun
   simp only [fromF] at hrun
   rw [<-hrun]
   refine ⟨fun h=> ?_,fun h=> ?_⟩
   · simp [endF,h]
   · simp [endF,h]
end
section
open Go
def dClk:DcL E (Cls×Int×Unit):= .cons (dR .clauses:Dc E (thy.dom Th.clauses)) (.cons (dInt .i64) .nil)
def Scl:Sum thy:=sumB E Th.ins dClk (fun (l:List Ins) x=>ClP x.1 x.2.1.toNat l/\0<=x.2.1) fun (l:List Ins) x=>l++cdC x.1 x.2.1.toNat l.length
theorem Z5v:SumOk E 23 Scl:=Ztm E_ok (Zb rfl) fun x=>by
 have h:=Z54 x.1 x.2.1.toNat
 refine ⟨fun l fz hf hp=> ?_,fun hp=> ?_⟩
 · have:=h.1 l fz hf hp.1
   rw [Int.toNat_of_nonneg hp.2] at this
   exact this
 · have:=h.2 hp.1
   rw [Int.toNat_of_nonneg hp.2] at this
   exact this
def Z5w:Dc E (List Ins):=(Zli (E:=E) Th.ins:Dc E (List (thy.dom Th.ins)))
def Z27:Sum thy:=Zfi E (fun _=>none) 10 (sumP (dA1 Z5w) (fun _=>True) fun x=> .tup [.int false .i64 (verF x.1).1,.int false .i64 (verF x.1).2])
theorem Zn0:SumOk E 14 Z27:=Zaz E_ok (Zs E_ok (Zb (f:=14) rfl) fun x _=>Zca x.1)
structure CpX where
 k:Nat
 r:Nat
 L:List Ins
def Acp:Fr thy->Hp thy->Nat->Ann thy:=fun T h i=>{X:=Bool×CpX,fr:=fun x=> [(4,T 4),(13,T 13),(14,T 14),(15,.int false .i64 x.2.k)],bl:=fun x=>(bOf (T 4),.raw [match x.1 with|true=> .sl i 0 x.2.L.length 3 none|false=> .val (.slice none 0 0)] 0 none)::(match x.1 with|true=> [(i,.rows Th.ins x.2.L 0)]|false=> []),src:=fun x=>(match x.1 with|true=> [(i,1004)]|false=> []),md:= [bOf (T 4)],ih:=i+1,M:=i+60,meas:=fun x=>x.2.r,ex:=ex2,al:=al2,exOk:=Zi9,alOk:=Zja}
def Zdf (F:Fns thy):Fns thy:={F with defs:=fun _=>false}
theorem Up {E':Eng thy} {F:Fns thy} (h:FnsOk E' F):FnsOk E' (Zdf F):=⟨h.sumG,h.fnG,h.sum,h.fn,h.loop⟩
def Fcp:Fns thy:=Zdf (addL (addS (addS (addS F0 23 Scl) 13 Zwr) 14 Z27) 10 6 Acp E)
abbrev qCH1 (a0:Cls):=(Ex.mk (Ex.op (Cls.pay a0)) (Ex.n (Cls.pay a0)) (Ex.d0 (Cls.pay a0)) (Ex.d1 (Cls.pay a0)) (Ex.d2 (Cls.pay a0)) (Ex.d3 (Cls.pay a0)) (Ex.l (Cls.pay a0)))
abbrev qCH3 (a0:Tar):=(↑(List.length (Tar.clauses a0)):Int)
abbrev qCH5:=(0:Nat)
abbrev qCH4 (a0:CpX):=(↑(CpX.k a0):Int)
abbrev qCH2 (a0:Tar) (b0:CpX) (c0:CpX):=(qCH5=qCH5/\(Tar.clauses a0=Tar.clauses a0/\(false=true->false=true))/\(qCH3 a0)=(qCH3 a0)/\wr IntKind.i64 ((qCH4 b0)+(1:Int))=(qCH4 c0)/\True)
abbrev qCHa:=(1:Nat)
abbrev qCH6 (a0:CpX):=(List.length (CpX.L a0)+qCHa)
abbrev qCH9:=(0:Int)
abbrev qCH7:=(Prod.snd (verF (List.take qCHa (List.drop qCH5 [Ins.mk (16:Int) qCH9 qCH9]))) !=qCH9)
abbrev qCH8 (a0:Cls):=(Cls.mk (Cls.name a0) (Cls.when_ a0) (qCH1 a0))
theorem Ziu (t:Tar) (l:List Ins) (e:Int):Zi E Fcp (vc E Fcp 400) 10 [.agg (encF false .tariffs t)] hp0 0 (fun r=>ret E (patch hp0 0 r) r.v (.tup [.psl Th.ins l false,.int false .i64 e]))=(
 ((∀(c:Cls),c∈Tar.clauses t->Ex.sz (Cls.pay c)+qCHa<=(1000000000000:Nat)/\List.length (Cls.when_ c)+qCHa<=(1000000000000:Nat))/\List.length (Tar.clauses t)+qCHa<=(1000000000000:Nat))/\((Wz t !=qCH9)=true->l= []/\Wz t=e/\True)/\((Wz t !=qCH9)=false->∃(R:Bool×CpX->Prop),((∃(y:CpX),R (false,y)/\true=true/\(qCH5=qCH5/\(Tar.clauses t=Tar.clauses t/\(false=true->false=true))/\(qCH3 t)=(qCH3 t)/\qCH9=(qCH4 y)/\True)/\(Value.slice none qCH5 qCH5=Value.slice none qCH5 qCH5/\True)/\True)\/∃(y:CpX),R (true,y)/\true=true/\False)/\(∀(y:CpX),R (false,y)->(decide ((qCH4 y)<(qCH3 t))=true->qCH9<=(qCH4 y)/\(qCH4 y)+(1:Int)<=(qCH3 t)/\∀(x:Cls),(Tar.clauses t)[Int.toNat (qCH4 y)]? =some x->((Ex.sz (qCH1 x)+qCHa<=(1000000000:Nat)/\Zo (qCH1 x)=true/\qCH5+List.length (cdC (qCH8 x) (Int.toNat (qCH4 y)) qCH5)<=(1000000000:Nat)/\List.length (Cls.when_ x)<=(8:Nat))/\qCH9<=(qCH4 y))/\∀(l':List Ins),l'= []++cdC (qCH8 x) (Int.toNat (qCH4 y)) qCH5->(∃(y_1:CpX),R (false,y_1)/\y_1.2+qCHa<=y.2/\true=true/\(qCH2 t y y_1)/\(False/\True)/\True)\/∃(y_1:CpX),R (true,y_1)/\y_1.2+qCHa<=y.2/\true=true/\(qCH2 t y y_1)/\((qCH5=qCH5/\List.length l'=List.length (CpX.L y_1)/\True)/\True)/\(l'=CpX.L y_1/\fzO (none:Option (List Ins×Nat))=qCH5)/\True)/\(decide ((qCH4 y)<(qCH3 t))=false->qCH5+qCHa<=qCHa/\True/\(qCH7=true->l= []/\(2:Int)=e/\True)/\(qCH7=false->(qCH5+qCHa<=qCHa/\List.take qCHa [Ins.mk (16:Int) qCH9 qCH9]=l)/\qCH9=e/\True)))/\∀(y:CpX),R (true,y)->(decide ((qCH4 y)<(qCH3 t))=true->qCH9<=(qCH4 y)/\(qCH4 y)+(1:Int)<=(qCH3 t)/\∀(x:Cls),(Tar.clauses t)[Int.toNat (qCH4 y)]? =some x->(List.length (CpX.L y)=List.length (CpX.L y)/\qCH5<=List.length (CpX.L y)/\(Ex.sz (qCH1 x)+qCHa<=(1000000000:Nat)/\Zo (qCH1 x)=true/\List.length (CpX.L y)+List.length (cdC (qCH8 x) (Int.toNat (qCH4 y)) (List.length (CpX.L y)))<=(1000000000:Nat)/\List.length (Cls.when_ x)<=(8:Nat))/\qCH9<=(qCH4 y))/\∀(l':List Ins),l'=CpX.L y++cdC (qCH8 x) (Int.toNat (qCH4 y)) (List.length (CpX.L y))->(∃(y_1:CpX),R (false,y_1)/\y_1.2+qCHa<=y.2/\true=true/\(qCH2 t y y_1)/\(False/\True)/\True)\/∃(y_1:CpX),R (true,y_1)/\y_1.2+qCHa<=y.2/\true=true/\(qCH2 t y y_1)/\((qCH5=qCH5/\List.length l'=List.length (CpX.L y_1)/\True)/\True)/\(l'=CpX.L y_1/\fzO (some (CpX.L y,qCH5))=qCH5)/\True)/\(decide ((qCH4 y)<(qCH3 t))=false->(List.length (CpX.L y)<=List.length (CpX.L y)/\qCH5<=List.length (CpX.L y)/\(qCH6 y)*(24:Nat)<=(140737488355328:Nat))/\∀(l':List Ins),l'=List.take (List.length (CpX.L y)) (CpX.L y)++ [Ins.mk (16:Int) qCH9 qCH9]->qCH5+(qCH6 y)<=List.length l'/\True/\((Prod.snd (verF (List.take (qCH6 y) (List.drop qCH5 l'))) !=qCH9)=true->l= []/\(2:Int)=e/\True)/\((Prod.snd (verF (List.take (qCH6 y) (List.drop qCH5 l'))) !=qCH9)=false->(qCH5+(qCH6 y)<=List.length l'/\List.take (qCH6 y) l'=l)/\qCH9=e/\True)))):=by kernel_rfl
theorem Z5x:FnsOk E Fcp:=Up (Zt E_ok (Zc (Zc (Zc F0_ok Z5v) Zku) Zn0) _ _ _)
theorem Zb8 (t:Tar) (h:SmK t):PureC E 10 [.agg (encF false .tariffs t)] (.tup [.psl Th.ins (Ye t).1 false,.int false .i64 (Ye t).2]):=by
 refine Za E_ok (Ze E_ok Z5x 400) ?_
 rw [Ziu];delta qCH1 qCH3 qCH5 qCH4 qCH2 qCHa qCH6 qCH9 qCH7 qCH8
 obtain ⟨h1,h2⟩:=h
 simp only [Cls.eta,Ex.eta]
 refine ⟨⟨fun c hc=>⟨by have:=(h1 c hc).1;omega,by have:=(h1 c hc).2;omega⟩,by omega⟩,fun hn=> ?_,fun hz=> ?_⟩
 · have hn:Wz t≠0:=by simpa using hn
   unfold Ye
   rw [if_neg hn]
   exact ⟨rfl,rfl,trivial⟩
 · have hz:Wz t=0:=by simpa using hz
   obtain ⟨c1,c2,c3⟩:=Z4j hz
   have hall:∀c∈t.clauses,Zo c.pay=true/\c.pay.sz<=10000/\c.when_.length<=8:=fun c hc=>⟨(c1 c hc).1,(h1 c hc).1,c3 c hc⟩
   have hlen:∀k,(cdCs (t.clauses.take k) 0 0).length<=30025*64:=fun k=>by
    have a:=Zoy (k:=0) (o:=0) (fun c hc=>hall c (List.mem_of_mem_take hc):∀c∈t.clauses.take k,_)
    have b:(t.clauses.take k).length<=64:=by rw [List.length_take];omega
    have e:(3*10000+25)*(t.clauses.take k).length<=(3*10000+25)*64:=Nat.mul_le_mul_left _ b
    omega
   have hstep:∀k c,t.clauses[k]? =some c->cdCs (t.clauses.take (k+1)) 0 0=cdCs (t.clauses.take k) 0 0++cdC c k (cdCs (t.clauses.take k) 0 0).length:=fun k c hc=>by
    have ek:t.clauses.take (k+1)=t.clauses.take k++ [c]:=by rw [List.take_add_one,hc];rfl
    have hk:k<t.clauses.length:=(gA9.1 hc).1
    have el:0+(t.clauses.take k).length=k:=by rw [List.length_take];omega
    rw [ek,Zor,el,Nat.zero_add]
   have vr:=Zy2 c1 c2
   have f1:((verF (cdT t)).2 !=0)=true->(Ye t).1= []/\(2:Int)=(Ye t).2/\True:=by
    intro q
    rw [vr] at q
    unfold Ye
    rw [if_pos hz]
    by_cases g:4096<(cdT t).length\/64<dCs t.clauses
    · rw [if_pos g];exact ⟨rfl,rfl,trivial⟩
    · rw [if_neg g] at q;simp at q
   have f2:((verF (cdT t)).2 !=0)=false->cdT t=(Ye t).1/\(0:Int)=(Ye t).2:=by
    intro q
    rw [vr] at q
    unfold Ye
    rw [if_pos hz]
    by_cases g:4096<(cdT t).length\/64<dCs t.clauses
    · rw [if_pos g] at q;simp at q
    · rw [if_neg g];exact ⟨rfl,rfl⟩
   refine ⟨fun y=>y.2.k<=t.clauses.length/\y.2.L=cdCs (t.clauses.take y.2.k) 0 0/\y.2.r=t.clauses.length-y.2.k/\(y.1=false->y.2.k=0),.inl ⟨⟨0,t.clauses.length,[]⟩,⟨Nat.zero_le _,rfl,rfl,fun _=>rfl⟩,by simp⟩,?_,?_⟩
   · rintro ⟨k,r,L⟩ ⟨k1,k2,k3,k4⟩
     simp only at k1 k2 k3 k4⊢
     obtain rfl:=k4 trivial
     refine ⟨fun q=>⟨by omega,by have:=of_decide_eq_true q;omega,fun c hc=> ?_⟩,fun q=> ?_⟩
     · have q:=of_decide_eq_true q
       have hc:t.clauses[0]? =some c:=hc
       have hm:=hall c (List.mem_of_getElem? hc)
       have hs:=hstep 0 c hc
       have hl:=hlen (0+1)
       rw [hs] at hl
       have e0:cdCs (t.clauses.take 0) 0 0= []:=rfl
       rw [e0] at hs hl
       have hl:(cdC c 0 0).length<=30025*64:=by simpa using hl
       refine ⟨⟨⟨by omega,hm.1,?_,hm.2.2⟩,by omega⟩,fun l' el=> .inr ⟨⟨1,t.clauses.length-1,l'⟩,⟨by dsimp only;omega,by rw [el];exact hs.symm,rfl,fun e=>by cases e⟩,(by show t.clauses.length-1+1<=r;omega),?_⟩⟩
       · show 0+(cdC c 0 0).length<=1000000000
         omega
       · have w1:wr .i64 (1:Int)=1:=by decide
         simp [w1,fzO]
     · have q:=of_decide_eq_false q
       have n0:t.clauses= []:=List.length_eq_zero_iff.1 (by omega)
       have e:List.take 1 (List.drop 0 [Ins.mk (16:Int) 0 0])=cdT t:=by unfold cdT;rw [n0];rfl
       have e':List.take 1 [Ins.mk (16:Int) 0 0]=cdT t:=e
       rw [e,e']
       exact ⟨by omega,trivial,f1,fun q=>⟨⟨by omega,(f2 q).1⟩,(f2 q).2,trivial⟩⟩
   · rintro ⟨k,r,L⟩ ⟨k1,k2,k3,k4⟩
     simp only at k1 k2 k3 k4⊢
     have hlk:=hlen k
     rw [<-k2] at hlk
     refine ⟨fun q=>⟨by omega,by have:=of_decide_eq_true q;omega,fun c hc=> ?_⟩,fun q=> ?_⟩
     · have q:=of_decide_eq_true q
       have hc:t.clauses[k]? =some c:=hc
       have hm:=hall c (List.mem_of_getElem? hc)
       have hs:=hstep k c hc
       have hl:=hlen (k+1)
       rw [hs,<-k2,List.length_append] at hl
       rw [<-k2] at hs
       have tk:Int.toNat (↑k:Int)=k:=by omega
       rw [tk]
       refine ⟨⟨by simp,Nat.zero_le _,⟨by omega,hm.1,by omega,hm.2.2⟩,by omega⟩,fun l' el=> .inr ⟨⟨k+1,t.clauses.length-(k+1),l'⟩,⟨by dsimp only;omega,by rw [el];exact hs.symm,rfl,fun e=>by cases e⟩,(by show t.clauses.length-(k+1)+1<=r;omega),?_⟩⟩
       have w1:wr .i64 ((↑k:Int)+1)=↑(k+1):=(wr64 (by omega) (by omega)).trans (by omega)
       simp [w1,fzO]
     · have q:=of_decide_eq_false q
       obtain rfl:k=t.clauses.length:=by omega
       refine ⟨⟨Nat.le_refl _,Nat.zero_le _,by omega⟩,fun l' el=> ?_⟩
       rw [List.take_length] at el
       have e:l'=cdT t:=by rw [el,k2,List.take_length];rfl
       have nl:l'.length=L.length+1:=by rw [el];simp
       have e2:List.take (L.length+1) (List.drop 0 l')=cdT t:=by rw [List.drop_zero,<-nl,List.take_length,e]
       have e3:List.take (L.length+1) l'=cdT t:=e2
       rw [e2,e3]
       exact ⟨by omega,trivial,f1,fun q=>⟨⟨by omega,(f2 q).1⟩,(f2 q).2,trivial⟩⟩
end
section
open Go
def Ars:Fr thy->Hp thy->Nat->Ann thy:=fun T h i=>{X:=LX,fr:=fun x=> [(0,T 0),(1,T 1),(5,.int false .i64 x.k)],bl:=fun _=> [],src:=fun _=> [],md:= [],ih:=i,M:=i+30,meas:=fun x=>x.r}
def Frs:Fns thy:=addL F0 12 4 Ars E
theorem Z60:FnsOk E Frs:=Zt E_ok F0_ok _ _ _
theorem Zsb (a b:List Ins) (v:Bool):Zi E Frs (vc E Frs 400) 12 [.psl .ins a false,.psl .ins b false] hp0 0 (fun r=>ret E (patch hp0 0 r) r.v (.bool false v))=(
(((↑(List.length a):Int) !=(↑(List.length b):Int))=true->false=v)/\(((↑(List.length a):Int) !=(↑(List.length b):Int))=false->∃(R:LX->Prop),(∃(x:LX),R x/\true=true/\((a=a/\(false=true->false=true))/\(b=b/\(false=true->false=true))/\(0:Int)=(↑(LX.k x):Int)/\True)/\True)/\∀(x:LX),R x->(decide ((↑(LX.k x):Int)<(↑(List.length a):Int))=true->(0:Int)<=(↑(LX.k x):Int)/\(↑(LX.k x):Int)+(1:Int)<=(↑(List.length a):Int)/\∀(x_1:Ins),a[Int.toNat (↑(LX.k x):Int)]? =some x_1->(0:Int)<=(↑(LX.k x):Int)/\(↑(LX.k x):Int)+(1:Int)<=(↑(List.length b):Int)/\∀(x_2:Ins),b[Int.toNat (↑(LX.k x):Int)]? =some x_2->((!(Ins.op x_1==Ins.op x_2&&(Ins.n x_1==Ins.n x_2&&(Ins.m x_1==Ins.m x_2&&true))))=true->false=v)/\((!(Ins.op x_1==Ins.op x_2&&(Ins.n x_1==Ins.n x_2&&(Ins.m x_1==Ins.m x_2&&true))))=false->∃(x_3:LX),R x_3/\x_3.2+(1:Nat)<=x.2/\true=true/\((a=a/\(false=true->false=true))/\(b=b/\(false=true->false=true))/\wr IntKind.i64 ((↑(LX.k x):Int)+(1:Int))=(↑(LX.k x_3):Int)/\True)/\True))/\(decide ((↑(LX.k x):Int)<(↑(List.length a):Int))=false->true=v))):=by kernel_rfl
open Classical in
def Zhs (a b:List Ins):Bool:=decide (a=b)
theorem Zv9 {a b:List Ins} (h:a=b):true=Zhs a b:=by unfold Zhs;simp [h]
theorem Zwa {a b:List Ins} (h:a≠b):false=Zhs a b:=by unfold Zhs;simp [h]
theorem Zsc (a b:List Ins) (h:a.length<=1000000000):PureC E 12 [.psl .ins a false,.psl .ins b false] (.bool false (Zhs a b)):=by
 refine Za E_ok (Ze E_ok Z60 400) ?_
 rw [Zsb]
 refine ⟨fun q=> ?_,fun q=> ?_⟩
 · exact Zwa fun e=>by rw [e] at q;simp at q
 · have q:(↑a.length:Int)=↑b.length:=by simpa using q
   refine ⟨fun x=>x.k<=a.length/\x.r=a.length-x.k/\∀j,j<x.k->a[j]? =b[j]?,⟨⟨0,a.length,[],0⟩,⟨Nat.zero_le _,rfl,fun j hj=>absurd hj (Nat.not_lt_zero _)⟩,by simp⟩,?_⟩
   rintro ⟨k,r,D,m⟩ ⟨k1,k2,k3⟩
   simp only at k1 k2 k3⊢
   refine ⟨fun g=> ?_,fun g=> ?_⟩
   · have g:=of_decide_eq_true g
     refine ⟨by omega,by omega,fun x hx=>⟨by omega,by omega,fun y hy=>⟨fun n=> ?_,fun n=> ?_⟩⟩⟩
     · have hx:a[k]? =some x:=hx
       have hy:b[k]? =some y:=hy
       refine Zwa fun e=> ?_
       rw [e,hy] at hx
       cases hx
       simp at n
     · have hx:a[k]? =some x:=hx
       have hy:b[k]? =some y:=hy
       have e:x=y:=by
        obtain ⟨a1,a2,a3⟩:=x
        obtain ⟨b1,b2,b3⟩:=y
        simp only [Bool.not_eq_false',Bool.and_eq_true,beq_iff_eq,Bool.and_true] at n
        obtain ⟨rfl,rfl,rfl⟩:=n
        rfl
       have w1:wr .i64 ((↑k:Int)+1)=↑(k+1):=(wr64 (by omega) (by omega)).trans (by omega)
       refine ⟨⟨k+1,a.length-(k+1),[],0⟩,⟨by dsimp only;omega,rfl,fun j hj=> ?_⟩,(by show a.length-(k+1)+1<=r;omega),by simp [w1]⟩
       have hj:j<k+1:=hj
       by_cases c:j=k
       · rw [c,hx,hy,e]
       · exact k3 j (by omega)
   · have g:=of_decide_eq_false g
     refine Zv9 (List.ext_getElem? fun j=> ?_)
     by_cases c:j<k
     · exact k3 j c
     · rw [List.getElem?_eq_none (by omega),List.getElem?_eq_none (by omega)]
end
section
open Go
structure FwX where
 k:Nat
 r:Nat
def Z7z:Fr thy->Hp thy->Nat->Ann thy:=fun T h i=>{X:=FwX,fr:=fun x=> [(1,T 1),(3,.int false .i64 x.k)],bl:=fun x=>blkP h (T 1),src:=fun _=> [],md:= [],ih:=i,M:=i+40,meas:=fun x=>x.r}
def Z1v:Sum thy:=sumP Z6n (fun x=>1<=x.2.1/\x.2.1<=1000) fun x=> .int false .i64 (min (x.1.sz:Int) x.2.1)
theorem Zt3:SumOk E 22 Z1v:=Zs E_ok (Zb (f:=22) rfl) fun x h=>Zzs _ _ _ (Nat.le_refl _) h.1 h.2
def Z23:Fns thy:=addL (addS F0 22 Z1v) 9 4 Z7z E
theorem Zyf:FnsOk E Z23:=Zt E_ok (Zc F0_ok Zt3) _ _ _
abbrev qCJ1 (a0:Cls):=(min (↑(Ex.sz (Ex.mk (Ex.op (Cls.pay a0)) (Ex.n (Cls.pay a0)) (Ex.d0 (Cls.pay a0)) (Ex.d1 (Cls.pay a0)) (Ex.d2 (Cls.pay a0)) (Ex.d3 (Cls.pay a0)) (Ex.l (Cls.pay a0)))):Int) (81:Int)>(80:Int))
abbrev qCJ2 (a0:Tar):=(↑(List.length (Tar.clauses a0)):Int)
abbrev qCJ3 (a0:Tar):=(Tar.name a0=Tar.name a0/\Tar.for_ a0=Tar.for_ a0/\(Tar.clauses a0=Tar.clauses a0/\(false=true->false=true))/\True)
abbrev qCJ4 (a0:FwX):=(↑(FwX.k a0):Int)
theorem Zp9 (t:Tar) (v:Bool):Zi E Z23 (vc E Z23 400) 9 [.agg (encF false .tariffs t)] hp0 0 (fun r=>ret E (patch hp0 0 r) r.v (.bool false v))=(
 ∃(Q:Bool->Prop),((decide ((qCJ2 t)>(66:Int))=true->Q true)/\(decide ((qCJ2 t)>(66:Int))=false->(decide ((↑(List.length (Tar.name t)):Int)>(100:Int))=true->Q true)/\(decide ((↑(List.length (Tar.name t)):Int)>(100:Int))=false->Q false)))/\(Q true->false=v)/\(Q false->∃(R:FwX->Prop),(∃(x:FwX),R x/\true=true/\((0:Nat)=(0:Nat)/\(0:Int)=(qCJ4 x)/\True)/\(qCJ3 t)/\True)/\∀(x:FwX),R x->(decide ((qCJ4 x)<(qCJ2 t))=true->(0:Int)<=(qCJ4 x)/\(qCJ4 x)+(1:Int)<=(qCJ2 t)/\∀(x_1:Cls),(Tar.clauses t)[Int.toNat (qCJ4 x)]? =some x_1->(decide ((↑(List.length (Cls.name x_1)):Int)>(100:Int))=true->false=v)/\(decide ((↑(List.length (Cls.name x_1)):Int)>(100:Int))=false->(decide ((↑(List.length (Cls.when_ x_1)):Int)>(12:Int))=true->false=v)/\(decide ((↑(List.length (Cls.when_ x_1)):Int)>(12:Int))=false->((1:Int)<=(81:Int)/\(81:Int)<=(1000:Int))/\(decide (qCJ1 x_1)=true->false=v)/\(decide (qCJ1 x_1)=false->∃(x_2:FwX),R x_2/\x_2.2+(1:Nat)<=x.2/\true=true/\((0:Nat)=(0:Nat)/\wr IntKind.i64 ((qCJ4 x)+(1:Int))=(qCJ4 x_2)/\True)/\(qCJ3 t)/\True))))/\(decide ((qCJ4 x)<(qCJ2 t))=false->true=v))):=by kernel_rfl
def FewP (t:Tar):Prop:=t.clauses.length<=66/\t.name.length<=100/\∀c∈t.clauses,c.name.length<=100/\c.when_.length<=12/\c.pay.sz<=80
open Classical in
def Zqa (t:Tar):Bool:=decide (FewP t)
theorem Z24 {t:Tar} (h:FewP t):true=Zqa t:=by unfold Zqa;simp [h]
theorem Zgt {t:Tar} (h:¬FewP t):false=Zqa t:=by unfold Zqa;simp [h]
theorem Zqb (t:Tar):PureC E 9 [.agg (encF false .tariffs t)] (.bool false (Zqa t)):=by
 refine Za E_ok (Ze E_ok Zyf 400) ?_
 rw [Zp9];delta qCJ1 qCJ2 qCJ3 qCJ4
 simp only [Ex.eta]
 refine ⟨fun b=>b=true↔¬(t.clauses.length<=66/\t.name.length<=100),⟨fun q=> ?_,fun q=>⟨fun q2=> ?_,fun q2=> ?_⟩⟩,fun q=> ?_,fun q=> ?_⟩
 · have q:=of_decide_eq_true q
   simp only [true_iff]
   omega
 · have q2:=of_decide_eq_true q2
   simp only [true_iff]
   omega
 · have q:=of_decide_eq_false q
   have q2:=of_decide_eq_false q2
   simp only [Bool.false_eq_true,false_iff,Classical.not_not]
   omega
 · have q:=q.1 rfl
   exact Zgt fun h=>q ⟨h.1,h.2.1⟩
 · have q:t.clauses.length<=66/\t.name.length<=100:=by simpa using q
   refine ⟨fun x=>x.k<=t.clauses.length/\x.r=t.clauses.length-x.k/\∀c∈t.clauses.take x.k,c.name.length<=100/\c.when_.length<=12/\c.pay.sz<=80,⟨⟨0,t.clauses.length⟩,⟨Nat.zero_le _,rfl,fun c hc=>by simp at hc⟩,by simp⟩,?_⟩
   rintro ⟨k,r⟩ ⟨k1,k2,k3⟩
   simp only at k1 k2 k3⊢
   refine ⟨fun g=>⟨by omega,by have:=of_decide_eq_true g;omega,fun c hc=> ?_⟩,fun g=> ?_⟩
   · have g:=of_decide_eq_true g
     have hc:t.clauses[k]? =some c:=hc
     have hm:=List.mem_of_getElem? hc
     refine ⟨fun n=> ?_,fun n=>⟨fun n2=> ?_,fun n2=>⟨by omega,fun n3=> ?_,fun n3=> ?_⟩⟩⟩
     · have n:=of_decide_eq_true n
       exact Zgt fun h=>by have:=(h.2.2 c hm).1;omega
     · have n2:=of_decide_eq_true n2
       exact Zgt fun h=>by have:=(h.2.2 c hm).2.1;omega
     · have n3:=of_decide_eq_true n3
       exact Zgt fun h=>by have:=(h.2.2 c hm).2.2;omega
     · have n:=of_decide_eq_false n
       have n2:=of_decide_eq_false n2
       have n3:=of_decide_eq_false n3
       have w1:wr .i64 ((↑k:Int)+1)=↑(k+1):=(wr64 (by omega) (by omega)).trans (by omega)
       refine ⟨⟨k+1,t.clauses.length-(k+1)⟩,⟨by dsimp only;omega,rfl,fun d hd=> ?_⟩,(by show t.clauses.length-(k+1)+1<=r;omega),by simp [w1]⟩
       have ek:t.clauses.take (k+1)=t.clauses.take k++ [c]:=by rw [List.take_add_one,hc];rfl
       have hd:d∈t.clauses.take (k+1):=hd
       rw [ek,List.mem_append,List.mem_singleton] at hd
       rcases hd with hd|rfl
       · exact k3 d hd
       · exact ⟨by omega,by omega,by omega⟩
   · have g:=of_decide_eq_false g
     obtain rfl:k=t.clauses.length:=by omega
     rw [List.take_length] at k3
     exact Z24 ⟨q.1,q.2,k3⟩
end
section
open Go
def dTarC:DcL E (Tar×Unit):= .cons (dR .tariffs) .nil
def Z5y:List (SV thy)->Option (SV thy)
 | []=>some (.bool true true)
 |_=>none
def Ziy:Sum thy:=sumO Z5y
def Z73:Sum thy:=Zxz E (fun _=>none) 10 dTarC (fun _=>True) (fun x=>Zqa x.1) fun y=> .bool false y
def Z5z:Sum thy:=Zxz E (fun _=>none) 10 dTarC (fun x=>SmK x.1) (fun x=>Ye x.1) fun y=> .tup [.psl Th.ins y.1 false,.int false .i64 y.2]
def FlC:Fns thy:=Zdf (addS (addS (addS (addS (addS F0 8 Ziy) 9 Z73) 10 Z5z) 13 Zwr) 14 Z27)
theorem Z50 (hs:SumOk E 8 Ziy):FnsOk E FlC:=Up (Zc (Zc (Zc (Zc (Zc F0_ok hs) (Zih E_ok (Zb rfl) fun x _=>Zqb x.1)) (Zih E_ok (Zb rfl) fun x h=>Zb8 x.1 h)) Zku) Zn0)
end
section
open Go
def dcI (n:Int):List Nat:=(Lib.itoa n).map UInt8.toNat
def nmsL:List (List Nat):= [[],[112,117,115,104],[108,111,97,100],[97,100,100],[115,117,98],[109,117,108],[109,105,110],[109,97,120],[100,111,119,110],[117,112],[104,97,108,102],[108,101,115,115],[114,97,110,103,101],[122,101,114,111],[106,117,109,112],[112,97,121],[110,111,110,101]]
def argK (op:Int):Nat:=if op=12 then 2 else if op=1\/op=13\/op=14\/op=15\/op=2 then 1 else 0
def argL (n m:Int):Nat->List Nat
 |0=> []
 |1=>32::dcI n
 |_=>32::dcI n++32::dcI m
def Yh (x:Ins):List Nat:=nmsL.getD x.op.toNat []++argL x.n x.m (argK x.op)
def X2 (c:List Ins):List Nat:=c.flatMap fun x=>Yh x++ [10]
def Xw (c:List Ins):List Nat×Int:=if 4096<c.length then ([],2) else if c.all formedF then (X2 c,0) else ([],200)
end
section
open Go Go.RowKit
open Go.Shelf
def Zd1:Go.Shelf.Ren:=⟨fun|166=>37|240=>67|276=>104|n=>n,fun|20=>20|70=>79|9=>9|3=>3|75=>84|0=>0|72=>82|37=>80|4=>4|164=>157|80=>89|5=>5|n=>n,fun|n=>n⟩
theorem Z3y:Go.Proofs.Lays.n166 Tryz.prog Zd1:={
 mixed:=by kernel_rfl
 f166:=Tryz.func37.trans (congrArg some (by kernel_rfl))
 f240:=Tryz.func67.trans (congrArg some (by kernel_rfl))
 f276:=Tryz.func104.trans (congrArg some (by kernel_rfl))
 t0:=Tryz.underlying0
 a0:=Tryz.isAgg0
 z0:=Tryz.sizeOf0
 v0:=Tryz.zeroValue0
 t3:=Tryz.underlying3
 a3:=Tryz.isAgg3
 z3:=Tryz.sizeOf3
 v3:=Tryz.zeroValue3
 t4:=Tryz.underlying4
 a4:=Tryz.isAgg4
 z4:=Tryz.sizeOf4
 v4:=Tryz.zeroValue4
 t9:=Tryz.underlying9
 a9:=Tryz.isAgg9
 z9:=Tryz.sizeOf9
 v9:=Tryz.zeroValue9
 t20:=Tryz.underlying20
 a20:=Tryz.isAgg20
 z20:=Tryz.sizeOf20
 v20:=Tryz.zeroValue20
 t37:=Tryz.underlying80
 a37:=Tryz.isAgg80
 z37:=Tryz.sizeOf80
 v37:=Tryz.zeroValue80
 t70:=Tryz.underlying79
 a70:=Tryz.isAgg79
 z70:=Tryz.sizeOf79
 v70:=Tryz.zeroValue79
 t72:=Tryz.underlying82
 a72:=Tryz.isAgg82
 z72:=Tryz.sizeOf82
 v72:=Tryz.zeroValue82
 t75:=Tryz.underlying84
 a75:=Tryz.isAgg84
 z75:=Tryz.sizeOf84
 v75:=Tryz.zeroValue84
 t164:=Tryz.underlying157
 a164:=Tryz.isAgg157
 z164:=Tryz.sizeOf157
 v164:=Tryz.zeroValue157}
def Zd2:Go.Shelf.Ren:=⟨fun|167=>39|240=>67|276=>104|n=>n,fun|20=>20|70=>79|5=>5|75=>84|0=>0|72=>82|37=>80|4=>4|164=>157|80=>89|9=>9|n=>n,fun|n=>n⟩
theorem Z3z:Go.Proofs.Lays.n167 Tryz.prog Zd2:={
 mixed:=by kernel_rfl
 f167:=Tryz.func39.trans (congrArg some (by kernel_rfl))
 f240:=Tryz.func67.trans (congrArg some (by kernel_rfl))
 f276:=Tryz.func104.trans (congrArg some (by kernel_rfl))
 t0:=Tryz.underlying0
 a0:=Tryz.isAgg0
 z0:=Tryz.sizeOf0
 v0:=Tryz.zeroValue0
 t4:=Tryz.underlying4
 a4:=Tryz.isAgg4
 z4:=Tryz.sizeOf4
 v4:=Tryz.zeroValue4
 t5:=Tryz.underlying5
 a5:=Tryz.isAgg5
 z5:=Tryz.sizeOf5
 v5:=Tryz.zeroValue5
 t9:=Tryz.underlying9
 a9:=Tryz.isAgg9
 z9:=Tryz.sizeOf9
 v9:=Tryz.zeroValue9
 t20:=Tryz.underlying20
 a20:=Tryz.isAgg20
 z20:=Tryz.sizeOf20
 v20:=Tryz.zeroValue20
 t37:=Tryz.underlying80
 a37:=Tryz.isAgg80
 z37:=Tryz.sizeOf80
 v37:=Tryz.zeroValue80
 t70:=Tryz.underlying79
 a70:=Tryz.isAgg79
 z70:=Tryz.sizeOf79
 v70:=Tryz.zeroValue79
 t72:=Tryz.underlying82
 a72:=Tryz.isAgg82
 z72:=Tryz.sizeOf82
 v72:=Tryz.zeroValue82
 t75:=Tryz.underlying84
 a75:=Tryz.isAgg84
 z75:=Tryz.sizeOf84
 v75:=Tryz.zeroValue84
 t164:=Tryz.underlying157
 a164:=Tryz.isAgg157
 z164:=Tryz.sizeOf157
 v164:=Tryz.zeroValue157}
theorem Z8c:Builder.Extra Tryz.prog Zd1 where
 sizeBuilder:=by kernel_rfl
 liesBuilder:=by kernel_rfl
 t5:=Tryz.underlying5
 a5:=Tryz.isAgg5
 z5:=Tryz.sizeOf5
 v5:=Tryz.zeroValue5
 infoByte:=by kernel_rfl
 cellsByte:=by kernel_rfl
 sizeByte:=by kernel_rfl
 neB5:=by decide
theorem Z8d:Builder.Extra Tryz.prog Zd2 where
 sizeBuilder:=by kernel_rfl
 liesBuilder:=by kernel_rfl
 t5:=Tryz.underlying5
 a5:=Tryz.isAgg5
 z5:=Tryz.sizeOf5
 v5:=Tryz.zeroValue5
 infoByte:=by kernel_rfl
 cellsByte:=by kernel_rfl
 sizeByte:=by kernel_rfl
 neB5:=by decide
theorem Z8e:Builder.Extra Tryz.prog Tryz.lays169_ren where
 sizeBuilder:=by kernel_rfl
 liesBuilder:=by kernel_rfl
 t5:=Tryz.underlying5
 a5:=Tryz.isAgg5
 z5:=Tryz.sizeOf5
 v5:=Tryz.zeroValue5
 infoByte:=by kernel_rfl
 cellsByte:=by kernel_rfl
 sizeByte:=by kernel_rfl
 neB5:=by decide
def TB:TypeId:=82
def TU:TypeId:=5
theorem bdWs (B b:Nat) (bs:List Value) (s:ByteArray) (w:World) (h:Lib.IsBuilder TB TU B b bs w) (hlen:bs.length+s.size<=140737488355328) (hBw:B<=w.heap.size):
 Calls Tryz.prog 37 #[.pointer (some ⟨b,0,none⟩),.string s] w fun e w'=>e= .returned (.tuple #[.int .i64 s.size,.nilIface])/\Lib.BuilderAt TB TU B b (.pointer (some ⟨b,0,none⟩)) (bs++Lib.strCells s) w'/\Below B w w':=
 Any.Builder_WriteString Z3y Z8c B b bs s w h hlen hBw
theorem bdWb (B b:Nat) (bs:List Value) (c:Int) (w:World) (h:Lib.IsBuilder TB TU B b bs w) (hlen:bs.length+1<=140737488355328) (hBw:B<=w.heap.size):
 Calls Tryz.prog 39 #[.pointer (some ⟨b,0,none⟩),.int .u8 c] w fun e w'=>e= .returned .nilIface/\Lib.BuilderAt TB TU B b (.pointer (some ⟨b,0,none⟩)) (bs++ [.int .u8 c]) w'/\Below B w w':=
 Any.Builder_WriteByte Z3z Z8d B b bs c w h hlen hBw
theorem bdS (B b:Nat) (l:List UInt8) (w:World) (h:Lib.IsBuilder TB TU B b (Lib.byteCells l) w) (hBw:B<=w.heap.size):
 Calls Tryz.prog 40 #[.pointer (some ⟨b,0,none⟩)] w fun e w'=>e= .returned (.string ⟨l.toArray⟩)/\Below B w w':=
 Any.Builder_String_any Tryz.lays169 Z8e B b l w h hBw
theorem Zft {B b:Nat} {p:Value} {bs:List Value} {W W':World} (h:Lib.BuilderAt TB TU B b p bs W) (hb:Below W.heap.size W W'):Lib.BuilderAt TB TU B b p bs W':=by
 have hlt:=h.lt
 obtain ⟨hB,v,hv,hown,hne⟩:=h
 exact ⟨hB,v,(hb.block b hlt).trans hv,hown.kept (row:=none) ⟨hb.os,hb.tape,hb.output,hb.size,fun k hk _=>hb.block k hk⟩ (Classical.em _),hne⟩
theorem Zom {B b:Nat} {bs:List Value} {W W':World} (h:Lib.IsBuilder TB TU B b bs W) (hb:Below W.heap.size W W'):Lib.IsBuilder TB TU B b bs W':=
 h.elim (fun x=> .inl (Zft x hb)) (fun x=> .inr (Zft x hb))
theorem Zfu {f:FuncId} {args:List (SV thy)} {v:SV thy} (h:PureC E f args v) {g:GH} {w wr:World} {vals:Array Value} (hI:Inv E w.heap.size σ0 hp0 g w) (hb:Below w.heap.size w wr) (hd:DenL E σ0 g args vals.toList):
 Calls Tryz.prog f vals wr fun en w'=>∃u g',en= .returned u/\Den E σ0 g' v u/\Below wr.heap.size wr w':=by
 have hI':Inv E wr.heap.size σ0 hp0 g wr:=by
  refine ⟨fun r o u hu=>hb.cell (World.block_lt_of_cell? _ _ (hI.gc r o u hu))|>.trans (hI.gc r o u hu),fun r es hu=> ?_,(fun b x hx=>by cases hx),fun b b' r z z' h1=>absurd rfl h1,(fun b r z hs=>by cases hs),(fun b x r z o v hx=>by cases hx),(fun b x r z hx=>by cases hx),hI.glob⟩
  obtain ⟨c,hc⟩:=hI.gm r es hu
  have hr:r<w.heap.size:=by
   rcases Nat.lt_or_ge r w.heap.size with h|h
   · exact h
   · rw [Array.getElem?_eq_none h] at hc;cases hc
  exact ⟨c,by rw [hb.block r hr];exact hc⟩
 refine Calls.mono (h g wr vals hI' hd) ?_
 rintro en w' ⟨u,he,g',hS,_,hv⟩
 exact ⟨u,g',he,hv,⟨hS.os,hS.tape,hS.output,hS.size,fun r hr=>hS.heap r hr fun b hb=>by cases hb⟩⟩
theorem Xt {f:FuncId} {args:List (SV thy)} {v:SV thy} (h:∀(g:GH) (w:World) (vals:Array Value),Inv E w.heap.size σ0 hp0 g w->DenL E σ0 g args vals.toList->Calls E.P f vals w fun en w'=>∃u,en= .returned u/\Den E σ0 g v u/\Ext w w'):PureC E f args v:=by
 intro g w vals hI hd
 refine (h g w vals hI hd).mono ?_
 rintro en w' ⟨u,he,hv,hx⟩
 refine ⟨u,he,g,⟨.refl _,fun b p h=> .inl h,.refl _,fun _ _ _ h=> .inl h,fun _ _ h=> .inl h,fun r hr _=>hx.block hr,hx.size,hx.os,hx.tape,hx.output,fun b r z h1 h2=>by cases h2⟩,?_,hv⟩
 refine ⟨fun r o u hu=>hx.cell (hI.gc r o u hu),fun r es hu=> ?_,(fun b x hx=>by cases hx),fun b b' r z z' h1=>absurd rfl h1,(fun b r z hs=>by cases hs),(fun b x r z o v hx=>by cases hx),(fun b x r z hx=>by cases hx),hI.glob⟩
 obtain ⟨c,hc⟩:=hI.gm r es hu
 have hr:r<w.heap.size:=by
  rcases Nat.lt_or_ge r w.heap.size with h|h
  · exact h
  · rw [Array.getElem?_eq_none h] at hc;cases hc
 exact ⟨c,by rw [hx.block hr];exact hc⟩
theorem Zrc {c:List Ins} {k:Nat} {x:Ins} (h:c[k]? =some x):X2 (c.take (k+1))=X2 (c.take k)++(Yh x++ [10]):=by
 unfold X2
 rw [List.take_add_one,h,List.flatMap_append]
 simp
theorem Zu9 {c:List Ins} {k:Nat} {x:Ins} (h:c[k]? =some x):(c.take (k+1)).all formedF=((c.take k).all formedF&&formedF x):=by
 rw [List.take_add_one,h,List.all_append]
 simp
set_option maxHeartbeats 4000000 in
theorem Zjt (c:List Ins) (hln:∀x∈c,formedF x=true->PureC E 38 [.agg [.int false .i64 x.op,.int false .i64 x.n,.int false .i64 x.m]] (.str false (Yh x))) (hlb:∀x∈c,formedF x=true->(Yh x).length<=1000):
 PureC E 15 [.psl .ins c false] (.tup [.str false (Xw c).1,.int false .i64 (Xw c).2]):=by
 refine Xt fun g w vals hI hd=> ?_
 obtain ⟨u,rfl,hu⟩:=Znp hd
 obtain ⟨base,cap,cv,rfl,hl,hm,hf,hn,hb,hdd⟩:=X9 hu
 have cells:∀k x,c[k]? =some x->∃r o,base=some ⟨r,o,none⟩/\w.cell? ⟨r,o+k*3,none⟩=some (.int .i64 x.op)/\w.cell? ⟨r,o+k*3+1,none⟩=some (.int .i64 x.n)/\w.cell? ⟨r,o+k*3+2,none⟩=some (.int .i64 x.m):=by
  intro k x hx
  have hk:0<c.length:=Nat.lt_of_le_of_lt (Nat.zero_le _) (gA9.1 hx).1
  obtain ⟨r,o,rfl,hc⟩:=hb hk
  have hc:=hc k x hx
  have hd:=hdd k x hx
  have W3:E.w Th.ins=3:=rfl
  rw [W3] at hc
  have c0:=hI.gc _ _ _ (hc 0 (by show 0<3;decide))
  have c1:=hI.gc _ _ _ (hc 1 (by show 1<3;decide))
  have c2:=hI.gc _ _ _ (hc 2 (by show 2<3;decide))
  have d0:=hd 0 (.int false .i64 x.op) rfl
  have d1:=hd 1 (.int false .i64 x.n) rfl
  have d2:=hd 2 (.int false .i64 x.m) rfl
  refine ⟨r,o,rfl,?_,?_,?_⟩
  · rw [Nat.add_zero] at c0;rw [c0];generalize cv k 0=q at d0;cases d0;rfl
  · rw [c1];generalize cv k 1=q at d1;cases d1;rfl
  · rw [c2];generalize cv k 2=q at d2;cases d2;rfl
 have dx:∀x:Ins,DenL E σ0 g [.agg [.int false .i64 x.op,.int false .i64 x.n,.int false .i64 x.m]] [Value.agg #[.int .i64 x.op,.int .i64 x.n,.int .i64 x.m]]:=fun x=>by
  refine ⟨rfl,fun j sv v h1 h2=> ?_⟩
  match j,h1,h2 with
  |0,h1,h2=>
   cases h1;cases h2
   refine .agg (fun j=>(#[Value.int .i64 x.op,.int .i64 x.n,.int .i64 x.m].getD j undef)) rfl (fun j hj=> ?_) (fun j sv hj=> ?_)
   · match j,hj with
     |0,_=>rfl
     |1,_=>rfl
     |2,_=>rfl
   · match j,hj with
     |0,hj=>cases hj;exact .int _ _ _
     |1,hj=>cases hj;exact .int _ _ _
     |2,hj=>cases hj;exact .int _ _ _
 have hfm:∀(x:Ins) (wr:World),Below w.heap.size w wr->Calls Tryz.prog 34 #[.agg #[.int .i64 x.op,.int .i64 x.n,.int .i64 x.m]] wr fun en w'=>en= .returned (.bool (formedF x))/\Below wr.heap.size wr w':=fun x wr hbw=>by
  refine (Zfu (V3 x) hI hbw (dx x)).mono ?_
  rintro en w' ⟨u,g',rfl,hv,hb⟩
  cases hv
  exact ⟨rfl,hb⟩
 have hln2:∀(x:Ins) (wr:World),x∈c->formedF x=true->Below w.heap.size w wr->Calls Tryz.prog 38 #[.agg #[.int .i64 x.op,.int .i64 x.n,.int .i64 x.m]] wr fun en w'=>∃s:ByteArray,toL s=Yh x/\en= .returned (.string s)/\Below wr.heap.size wr w':=fun x wr hx hf hbw=>by
  refine (Zfu (hln x hx hf) hI hbw (dx x)).mono ?_
  rintro en w' ⟨u,g',rfl,hv,hb⟩
  cases hv
  rename_i b hb2
  exact ⟨b,hb2,rfl,hb⟩
 suffices H:Calls Tryz.prog 15 #[.slice base c.length cap] w fun en w'=>∃s:ByteArray,toL s=(Xw c).1/\en= .returned (.tuple #[.string s,.int .i64 (Xw c).2])/\Below w.heap.size w w' by
  refine Calls.mono H ?_
  rintro en w' ⟨s,hs,rfl,hb⟩
  refine ⟨_,rfl,?_,hb⟩
  refine .tup (fun j=>(#[Value.string s,.int .i64 (Xw c).2].getD j undef)) rfl (fun j hj=> ?_) (fun j sv hj=> ?_)
  · match j,hj with
    |0,_=>rfl
    |1,_=>rfl
  · match j,hj with
    |0,hj=>cases hj;exact .str _ hs
    |1,hj=>cases hj;exact .int _ _ _
 clear hd hu hln
 by_cases hbig:4096<c.length
 · have et:Xw c=([],2):=if_pos hbig
   have hq:decide ((c.length:Int)>4096)=true:=decide_eq_true (by omega)
   go_enter Tryz.func15,Tryz.ntmps15
   go_wp2
   go_ret2
   exact ⟨.empty,by first|rfl|(rw [et];rfl),by first|rfl|(rw [et];rfl),Below.refl _ _⟩
 · have hq:decide ((c.length:Int)>4096)=false:=decide_eq_false (by omega)
   go_enter Tryz.func15,Tryz.ntmps15
   go_wp2
   go_loopw [12] (fun iv wr=>∃(k:Nat) (acc:List UInt8),iv= .int .i64 k/\k<=c.length/\(c.take k).all formedF=true/\acc.map UInt8.toNat=X2 (c.take k)/\acc.length<=1001*k/\Lib.IsBuilder TB TU w.heap.size w.heap.size (Lib.byteCells acc) wr/\Below w.heap.size w wr) (fun iv _=>c.length-(Lib.intOf iv).toNat)
   case atStart=>exact ⟨0,[],rfl,Nat.zero_le _,rfl,rfl,Nat.zero_le _,Lib.fresh_isBuilder TB TU w,(Below.refl _ w).alloc (Nat.le_refl _) _⟩
   case round=>
    obtain ⟨k,acc,rfl,hk,hall,hacc,hlen,hI2,hbw⟩:=hrel
    by_cases hlt:k<c.length
    · have hq2:decide ((k:Int)<(c.length:Int))=true:=decide_eq_true (by omega)
      obtain ⟨x,hx⟩:∃x,c[k]? =some x:=⟨_,gB9 hlt⟩
      obtain ⟨r,o,rfl,h0,h1,h2⟩:=cells k x hx
      have hr:=World.block_lt_of_cell? _ _ h0
      have e0:=(hbw.cell (p:=⟨r,o+k*3,none⟩) hr).trans h0
      have e1:=(hbw.cell (p:=⟨r,o+k*3+1,none⟩) hr).trans h1
      have e2:=(hbw.cell (p:=⟨r,o+k*3+2,none⟩) hr).trans h2
      have hmem:x∈c:=List.mem_of_getElem? hx
      cases hfx:formedF x with
      |false=>
       have et:Xw c=([],200):=by
        unfold Xw
        rw [if_neg hbig,if_neg]
        intro h
        have:=List.all_eq_true.1 h x hmem
        rw [hfx] at this
        cases this
       go_wp2_with (go_at_call 34;refine (hfm x _ (hbw.alloc hbw.size _)).mono ?_;rintro e W1 ⟨rfl,b1⟩;rw [hfx])
       go_ret2
       exact ⟨.empty,by first|rfl|(rw [et];rfl),by first|rfl|(rw [et];rfl),(hbw.alloc hbw.size _).trans (b1.mono (by have:=hbw.size;simp;omega))⟩
      |true=>
       go_wp2_with (first|(go_at_call 34;refine (hfm x _ (hbw.alloc hbw.size _)).mono ?_;rintro e W1 ⟨rfl,b1⟩;rw [hfx];refine Hid.out ?_))
       refine Lib.hid ?_
       have s1:w.heap.size<=wr.heap.size:=hbw.size
       have B1:Below w.heap.size w W1:=(hbw.alloc hbw.size _).trans (b1.mono (by simp;omega))
       have I1:=Zom hI2 (((Below.refl wr.heap.size wr).alloc (Nat.le_refl _) _).trans (b1.mono (by simp)))
       have cN:∀(j:Nat) (u:Value),(#[Value.int .i64 x.op,.int .i64 x.n,.int .i64 x.m])[j]? =some u->W1.cell? ⟨wr.heap.size,j,none⟩=some u:=by
        intro j u hj
        have hb:=b1.cell (p:=⟨wr.heap.size,j,none⟩) (by simp)
        rw [hb,World.cell?_alloc_new]
        exact hj
       have f0:=cN 0 _ rfl
       have f1:=cN 1 _ rfl
       have f2:=cN 2 _ rfl
       clear cN
       go_wp2_with (first|(go_at_call 38;refine (hln2 x _ hmem hfx B1).mono ?_;rintro e W2 ⟨sl,hsl,rfl,b2⟩;refine Hid.out ?_))
       refine Lib.hid ?_
       have B2:Below w.heap.size w W2:=B1.trans (b2.mono B1.size)
       have I2:=Zom I1 b2
       have ls:sl.size<=1000:=by rw [<-Wp,hsl];exact hlb x hmem hfx
       have lb:=Lib.byteCells_length acc
       have lb2:=Lib.strCells_length sl
       go_wp2_with (first|(go_at_call 37;refine (bdWs w.heap.size w.heap.size _ sl _ I2 (by omega) B2.size).mono ?_;rintro e W3 ⟨rfl,h3,b3⟩;refine Hid.out ?_))
       refine Lib.hid ?_
       have I3:Lib.IsBuilder TB TU w.heap.size w.heap.size (Lib.byteCells acc++Lib.strCells sl) W3:=Or.inr h3
       go_wp2_with (first|(go_at_call 39;refine (bdWb w.heap.size w.heap.size _ 10 _ I3 (by rw [List.length_append];omega) (B2.trans b3).size).mono ?_;rintro e W4 ⟨rfl,h4,b4⟩))
       go_roundw
       case rel=>
        refine ⟨k+1,acc++(sl.data.toList++ [10]),by simp,hlt,?_,?_,?_,?_,(B2.trans b3).trans b4⟩
        · rw [Zu9 hx,hall,hfx];rfl
        · rw [Zrc hx,List.map_append,hacc,List.map_append]
          have:sl.data.toList.map UInt8.toNat=Yh x:=hsl
          rw [this];rfl
        · have:sl.data.toList.length=sl.size:=by rw [Array.length_toList];rfl
          simp only [List.length_append,List.length_cons,List.length_nil,this]
          omega
        · have e:Lib.byteCells (acc++(sl.data.toList++ [10]))=(Lib.byteCells acc++Lib.strCells sl)++ [.int .u8 10]:=by
           rw [Lib.strCells_eq,Lib.byteCells_append,Lib.byteCells_append,List.append_assoc];rfl
          rw [e]
          exact Or.inr h4
       case measure=>
        simp only [Lib.intOf]
        omega
    · have hq2:decide ((k:Int)<(c.length:Int))=false:=decide_eq_false (by omega)
      obtain rfl:k=c.length:=by omega
      rw [List.take_length] at hall hacc
      have et:Xw c=(X2 c,0):=by
       unfold Xw
       rw [if_neg hbig,if_pos hall]
      go_wp2_with (go_at_call 40;refine (bdS w.heap.size w.heap.size acc wr hI2 hbw.size).mono ?_;rintro e W1 ⟨rfl,b1⟩)
      go_ret2
      exact ⟨⟨acc.toArray⟩,by first|exact hacc|(rw [et];exact hacc),by first|rfl|(rw [et];rfl),hbw.trans b1⟩
end
section
open Go
def Sita (B:Int):Sum thy:=Vl (dL1V dIV) (fun x=>0<=x.1/\x.1<B) (fun x=>dcI x.1) fun y=> .str false y
def Fln (B:Int):Fns thy:=addS F0 68 (Sita B)
abbrev qCO1:=(ByteArray.mk #[(32:UInt8)])
abbrev qCO2:=(9223372036854775807:Nat)
abbrev qCO3 (a0:Int) (b0:Int):=((0:Int)<=a0/\a0+(1:Int)<=b0)
abbrev qCO4 (a0:List Nat):=(toL qCO1++a0)
theorem Ztc (B op n m:Int) (v:List Nat):Zi E (Fln B) (vc E (Fln B) 400) 38 [.agg [.int false .i64 op,.int false .i64 n,.int false .i64 m]] hp0 0 (fun r=>ret E (patch hp0 0 r) r.v (.str false v))=(
 (0:Int)<=op/\op+(1:Int)<=(↑(17:Nat):Int)/\∀(x:List Nat),[[],[(112:Nat),(117:Nat),(115:Nat),(104:Nat)],[(108:Nat),(111:Nat),(97:Nat),(100:Nat)],[(97:Nat),(100:Nat),(100:Nat)],[(115:Nat),(117:Nat),(98:Nat)],[(109:Nat),(117:Nat),(108:Nat)],[(109:Nat),(105:Nat),(110:Nat)],[(109:Nat),(97:Nat),(120:Nat)],[(100:Nat),(111:Nat),(119:Nat),(110:Nat)],[(117:Nat),(112:Nat)],[(104:Nat),(97:Nat),(108:Nat),(102:Nat)],[(108:Nat),(101:Nat),(115:Nat),(115:Nat)],[(114:Nat),(97:Nat),(110:Nat),(103:Nat),(101:Nat)],[(122:Nat),(101:Nat),(114:Nat),(111:Nat)],[(106:Nat),(117:Nat),(109:Nat),(112:Nat)],[(112:Nat),(97:Nat),(121:Nat)],[(110:Nat),(111:Nat),(110:Nat),(101:Nat)]][Int.toNat op]? =some x->((op==(1:Int))=true->(qCO3 n B)/\∀(y:List Nat),y=dcI n->List.length (toL qCO1)+List.length y<=qCO2/\List.length x+List.length (qCO4 y)<=qCO2/\x++(qCO4 y)=v)/\((op==(1:Int))=false->((op==(13:Int))=true->(qCO3 n B)/\∀(y:List Nat),y=dcI n->List.length (toL qCO1)+List.length y<=qCO2/\List.length x+List.length (qCO4 y)<=qCO2/\x++(qCO4 y)=v)/\((op==(13:Int))=false->((op==(14:Int))=true->(qCO3 n B)/\∀(y:List Nat),y=dcI n->List.length (toL qCO1)+List.length y<=qCO2/\List.length x+List.length (qCO4 y)<=qCO2/\x++(qCO4 y)=v)/\((op==(14:Int))=false->((op==(15:Int))=true->(qCO3 n B)/\∀(y:List Nat),y=dcI n->List.length (toL qCO1)+List.length y<=qCO2/\List.length x+List.length (qCO4 y)<=qCO2/\x++(qCO4 y)=v)/\((op==(15:Int))=false->((op==(2:Int))=true->(qCO3 n B)/\∀(y:List Nat),y=dcI n->List.length (toL qCO1)+List.length y<=qCO2/\List.length x+List.length (qCO4 y)<=qCO2/\x++(qCO4 y)=v)/\((op==(2:Int))=false->((op==(12:Int))=true->(qCO3 n B)/\∀(y:List Nat),y=dcI n->List.length (toL qCO1)+List.length y<=qCO2/\List.length x+List.length (qCO4 y)<=qCO2/\(qCO3 m B)/\∀(y_1:List Nat),y_1=dcI m->List.length (toL qCO1)+List.length y_1<=qCO2/\List.length (x++(qCO4 y))+List.length (qCO4 y_1)<=qCO2/\x++(qCO4 y)++(qCO4 y_1)=v)/\((op==(12:Int))=false->x=v))))))):=by kernel_rfl
theorem Z1t:∀(k u:Nat),u<10^(k+1)->Lib.nDigits u<=k+1
 |0,u,h=>by rw [Lib.nDigits_small (by simpa using h)];exact Nat.le_refl _
 |k+1,u,h=>by
  by_cases h1:u<10
  · rw [Lib.nDigits_small h1];omega
  · rw [Lib.nDigits_big h1]
    rw [Nat.pow_succ] at h
    have:=Z1t k (u/10) (by omega)
    omega
theorem Zgp {n:Int} (h0:0<=n) (h1:n<=9007199254740992):(dcI n).length<=16:=by
 obtain ⟨u,rfl⟩:∃u:Nat,n=u:=⟨n.toNat,by omega⟩
 unfold dcI
 unfold Lib.itoa
 rw [if_neg (by omega),List.length_map,Lib.decDigits_length]
 exact Z1t 15 u (by omega)
theorem Z2u:∀s∈nmsL,s.length<=5:=by decide
theorem Ztd {op:Int} (h0:0<=op) (h1:op<=16) {x:List Nat} (h:nmsL[op.toNat]? =some x):nmsL.getD op.toNat []=x/\x.length<=5:=by
 refine ⟨by rw [List.getD_eq_getElem?_getD,h];rfl,Z2u x (List.mem_of_getElem? h)⟩
theorem Zax {x:Ins} (h:formedF x=true):1<=x.op/\x.op<=16:=by
 unfold formedF at h
 split at h
 · omega
 · split at h
   · omega
   · split at h
     · omega
     · have:=of_decide_eq_true h
       omega
theorem Zco {x:Ins} (h:formedF x=true):0<=x.n/\x.n<=9007199254740992/\0<=x.m/\x.m<=9007199254740992:=by
 unfold formedF at h
 split at h
 · have:=of_decide_eq_true h;omega
 · split at h
   · have:=of_decide_eq_true h;omega
   · split at h
     · have:=of_decide_eq_true h;omega
     · have:=of_decide_eq_true h;omega
theorem Zgq {x:Ins} (h:formedF x=true):(Yh x).length<=1000:=by
 obtain ⟨h1,h2⟩:=Zax h
 obtain ⟨n0,n1,m0,m1⟩:=Zco h
 have hn:=Zgp n0 n1
 have hm:=Zgp m0 m1
 have hk:x.op.toNat<nmsL.length:=by show x.op.toNat<17;omega
 have hx:=(Ztd (by omega) h2 (gB9 hk))
 unfold Yh
 rw [hx.1]
 rw [List.length_append]
 have:=hx.2
 have:(argL x.n x.m (argK x.op)).length<=40:=by
  unfold argL
  split
  · simp
  · simp;omega
  · simp;omega
 omega
theorem Zc6 {B:Int} (hB:SumOk E 68 (Sita B)) {x:Ins} (h:formedF x=true) (hn:x.n<B) (hm:x.m<B):PureC E 38 [.agg [.int false .i64 x.op,.int false .i64 x.n,.int false .i64 x.m]] (.str false (Yh x)):=by
 refine Za E_ok (Ze E_ok (Zc F0_ok hB) 400) ?_
 show Zi E (Fln B) (vc E (Fln B) 400) _ _ _ _ _
 rw [Ztc];delta qCO1 qCO2 qCO3 qCO4
 obtain ⟨h1,h2⟩:=Zax h
 obtain ⟨n0,n1,m0,m1⟩:=Zco h
 have ln:=Zgp n0 n1
 have lm:=Zgp m0 m1
 have l32:List.length (toL (ByteArray.mk #[(32:UInt8)]))=1:=rfl
 refine ⟨by omega,by show x.op+1<=17;omega,fun s hs=> ?_⟩
 obtain ⟨e,ls⟩:=Ztd (by omega) h2 hs
 have one:argK x.op=1->(0<=x.n/\x.n+1<=B)/\∀y,y=dcI x.n->List.length (toL (ByteArray.mk #[(32:UInt8)]))+List.length y<=9223372036854775807/\List.length s+List.length (toL (ByteArray.mk #[(32:UInt8)])++y)<=9223372036854775807/\s++(toL (ByteArray.mk #[(32:UInt8)])++y)=Yh x:=by
  intro ha
  refine ⟨⟨n0,by omega⟩,?_⟩
  rintro y rfl
  refine ⟨by omega,by rw [List.length_append];omega,?_⟩
  unfold Yh
  rw [ha,e];rfl
 have ak:∀k:Int,(x.op==k)=true->x.op=k:=fun k q=>by simpa using q
 have nk:∀k:Int,(x.op==k)=false->x.op≠k:=fun k q=>by simpa using q
 refine ⟨fun q=>one (by rw [ak _ q];rfl),fun q1=>⟨fun q=>one (by rw [ak _ q];rfl),fun q2=>⟨fun q=>one (by rw [ak _ q];rfl),fun q3=>⟨fun q=>one (by rw [ak _ q];rfl),fun q4=>⟨fun q=>one (by rw [ak _ q];rfl),fun q5=>⟨fun q=> ?_,fun q6=> ?_⟩⟩⟩⟩⟩⟩
 · refine ⟨⟨n0,by omega⟩,?_⟩
   rintro y rfl
   refine ⟨by omega,by rw [List.length_append];omega,⟨m0,by omega⟩,?_⟩
   rintro z rfl
   refine ⟨by omega,by simp only [List.length_append];omega,?_⟩
   unfold Yh
   rw [show argK x.op=2 by rw [ak _ q];rfl,e,List.append_assoc];rfl
 · have a1:=nk _ q1
   have a2:=nk _ q2
   have a3:=nk _ q3
   have a4:=nk _ q4
   have a5:=nk _ q5
   have a6:=nk _ q6
   unfold Yh
   rw [show argK x.op=0 by unfold argK;rw [if_neg a6,if_neg (by omega)],e]
   simp [argL]
end
section
open Go Go.RowKit
def cntN (s:List Nat) (b:Nat):Nat:=Lib.countByte (mkS s).data.toList (UInt8.ofNat b)
theorem Zhm (s:List Nat) (b:Nat):PureC E 41 [.str false s,.str false [b]] (.int false .i64 (cntN s b)):=by
 refine Xt fun g w vals hI hd=> ?_
 obtain ⟨u,v,rfl,hu,hv⟩:=Z5e hd
 cases hu
 rename_i x hx
 cases hv
 rename_i y hy
 have ex:x=mkS s:=by rw [<-hx,Vh]
 have ey:y=⟨#[UInt8.ofNat b]⟩:=by rw [<-Vh y,hy];rfl
 subst ex ey
 refine (Any.strings_Count_one Tryz.lays138 (mkS s) (UInt8.ofNat b) w).mono ?_
 rintro e w' ⟨rfl,rfl⟩
 exact ⟨_,rfl,.int _ _ _,Below.refl _ _⟩
theorem Zr0 (w:World) (e:TypeId) (t:ByteArray):Below w.heap.size w (Lib.bytesWorld w e t):=Lib.bytesWorld_below _ _ _
theorem Zj7 (s:List Nat) (v:Int) (hl:s.length<=1000000) (h:Lib.atoiAll (mkS s).data.toList= .ok v):PureC E 45 [.str false s] (.tup [.int false .i64 v,.val .nilIface]):=by
 refine Xt fun g w vals hI hd=> ?_
 obtain ⟨u,rfl,hu⟩:=Znp hd
 cases hu
 rename_i x hx
 have ex:x=mkS s:=by rw [<-hx,Vh]
 subst ex
 have hz:(mkS s).size<=1000000:=by rw [<-Wp,hx];exact hl
 refine (Any.strconv_Atoi_ok Tryz.lays172 (mkS s) (by omega) v h w).mono ?_
 rintro e w' ⟨rfl,hw⟩
 refine ⟨_,rfl,?_,?_⟩
 · refine .tup (fun j=>(#[Value.int .i64 v,.nilIface].getD j undef)) rfl (fun j hj=> ?_) (fun j sv hj=> ?_)
   · match j,hj with
     |0,_=>rfl
     |1,_=>rfl
   · match j,hj with
     |0,hj=>cases hj;exact .int _ _ _
     |1,hj=>cases hj;exact .val _
 · rcases hw with rfl|⟨t,rfl⟩
   · exact Below.refl _ _
   · exact Zr0 _ _ _
theorem Zr1 (i:Nat) (hi:i<100):PureC E 68 [.int false .i64 (i:Int)] (.str false (dcI i)):=by
 refine Xt fun g w vals hI hd=> ?_
 obtain ⟨u,rfl,hu⟩:=Znp hd
 cases hu
 refine (Any.strconv_Itoa_small Tryz.lays171 i hi w).mono ?_
 rintro e w' ⟨rfl,rfl⟩
 refine ⟨_,rfl,.str _ ?_,Below.refl _ _⟩
 unfold dcI Lib.itoa
 rw [if_neg (by omega)]
 rfl
theorem Zr2:SumOk E 68 (Sita 100):=Zz E_ok (Zb rfl) fun x h=>by
 have:=Zr1 x.1.toNat (by omega)
 rw [show ((x.1.toNat:Nat):Int)=x.1 by omega] at this
 exact this
end
section
open Go
def parC (l:Bool) (y:Tar×Int×Int):SV thy:= .tup [.agg [.str l y.1.name,.int l .i64 y.1.for_,.psl Th.clauses y.1.clauses false],.int l .i64 y.2.1,.int l .i64 y.2.2]
def exsC:List (List Nat×(Tar×Int×Int)):= [
 ([116,97,114,105,102,102,32,97,32,102,111,114,32,108,111,115,115,32,123,32,32,125],(⟨[97],5,[]⟩,0,0)),
 ([116,97,114,105,102,102,32,97,32,102,111,114,32,108,111,115,115,32,123,32,99,108,97,117,115,101,32,98,32,119,104,101,110,32,99,108,97,115,115,32,105,110,32,49,46,46,51,32,112,97,121,32,53,32,42,32,107,109,59,32,125],(⟨[97],5,[⟨[98],[⟨4,1,3⟩],.mk 5 0 0 0 0 0 [.mk 1 5 0 0 0 0 [],.mk 2 6 0 0 0 0 []]⟩]⟩,0,0)),
 ([116,97,114,105,102,102,32,97,32,102,111,114,32,108,111,115,115,32,123,32,99,108,97,117,115,101,32,98,32,112,97,121,32,105,102,32,40,107,109,32,60,32,57,44,32,49,44,32,50,41,59,32,125],(⟨[97],5,[⟨[98],[],.mk 11 0 0 0 0 0 [.mk 2 6 0 0 0 0 [],.mk 1 9 0 0 0 0 [],.mk 1 1 0 0 0 0 [],.mk 1 2 0 0 0 0 []]⟩]⟩,0,0))
]
def Zyy (s:List Nat):List (List Nat×(Tar×Int×Int))->Option (SV thy)
 | []=>none
 |p::r=>match eqL s p.1 with|true=>some (parC true p.2)|false=>Zyy s r
def Zdq:List (SV thy)->Option (SV thy)
 | [.str _ s]=>Zyy s exsC
 |_=>none
theorem Z3d:∀p∈exsC,Zb7 p.1=p.2:=by
 unfold exsC
 simp only [List.forall_mem_cons]
 exact ⟨by kernel_rfl,by kernel_rfl,by kernel_rfl,fun _ h=>nomatch h⟩
def okTC (t:Tar):Bool:=(t.clauses.all fun c=>Nat.blt c.pay.sz 10000&&Nat.blt c.when_.length 10000)&&Nat.blt t.clauses.length 10000
def Zl3 (args:List (SV thy)):Option (SV thy):=
 match dTarC.dec (args.map unfl) with
 |some (t,_)=>(match okTC t with|true=>some (.tup [.psl Th.ins (Ye t).1 false,.int true .i64 (Ye t).2])|false=>none)
 |none=>none
def Zug:List (SV thy)->Option (SV thy)
 | [.val (.slice none 0 0)]=>some (.tup [.int true .i64 (verF []).1,.int true .i64 (verF []).2])
 | [.psl .ins c _]=>some (.tup [.int true .i64 (verF c).1,.int true .i64 (verF c).2])
 |_=>none
def okCC (c:List Ins):Bool:=c.all fun x=>decide (x.n<100/\x.m<100)
def Zl4:List (SV thy)->Option (SV thy)
 | [.psl .ins c _]=>(match okCC c with|true=>some (.tup [.str true (Xw c).1,.int true .i64 (Xw c).2])|false=>none)
 |_=>none
def Zuh:List (SV thy)->Option (SV thy)
 | [.str _ s,.str _ [b]]=>some (.int true .i64 (cntN s b))
 |_=>none
def Zl5:List (SV thy)->Option (SV thy)
 | [.str _ s]=>(match Nat.ble s.length 1000,Lib.atoiAll (mkS s).data.toList with|true,.ok v=>some (.tup [.int true .i64 v,.val .nilIface])|_,_=>none)
 |_=>none
def gthC:List (SV thy)->Option Th:=fun _=>some Th.ins
def Z3e:Fns thy:=Zdf (addS (addS (addS (addS (addS (addS F0 51 (sumO Zdq)) 10 (Zfi EL gthC 20 (sumO Zl3))) 14 (Zfi EL gthC 20 (sumO Zug))) 15 (Zfi EL gthC 20 (sumO Zl4))) 41 (sumO Zuh)) 45 (sumO Zl5))
theorem Zqs (v:Bool):Zi EL Z3e (vc EL Z3e 4000) 8 [] hp0 0 (fun r=>ret EL (patch hp0 0 r) r.v (.bool true v))=(
true=v):=by kernel_rfl
theorem X3 {E':Eng thy} {f:FuncId} {args:List (SV thy)} {v v':SV thy} (h:PureC E' f args v) (hv:∀σ g u,Den E' σ g v u->Den E' σ g v' u):PureC E' f args v':=by
 intro g w vals hI hd
 refine (h g w vals hI hd).mono ?_
 rintro en w' ⟨u,he,g',hS,hI',hu⟩
 exact ⟨u,he,g',hS,hI',hv _ _ _ hu⟩
theorem Zyz {E':Eng thy} {σ:Pl} {g:GH} {cs cs':List (SV thy)} {u:Value} (h:Den E' σ g (.agg cs) u) (hl:cs'.length=cs.length) (hm:∀(j:Nat) sv',cs'[j]? =some sv'->∃sv,cs[j]? =some sv/\∀u,Den E' σ g sv u->Den E' σ g sv' u):Den E' σ g (.agg cs') u:=by
 cases h with
 |agg c hs hc hd=>
  refine .agg c (hs.trans hl.symm) (fun j hj=>hc j (by omega)) fun j sv' hj=> ?_
  obtain ⟨sv,h1,h2⟩:=hm j sv' hj
  exact h2 _ (hd j sv h1)
theorem Za5 {E':Eng thy} {σ:Pl} {g:GH} {cs cs':List (SV thy)} {u:Value} (h:Den E' σ g (.tup cs) u) (hl:cs'.length=cs.length) (hm:∀(j:Nat) sv',cs'[j]? =some sv'->∃sv,cs[j]? =some sv/\∀u,Den E' σ g sv u->Den E' σ g sv' u):Den E' σ g (.tup cs') u:=by
 cases h with
 |tup c hs hc hd=>
  refine .tup c (hs.trans hl.symm) (fun j hj=>hc j (by omega)) fun j sv' hj=> ?_
  obtain ⟨sv,h1,h2⟩:=hm j sv' hj
  exact h2 _ (hd j sv h1)
theorem Zy0 {E':Eng thy} {σ:Pl} {g:GH} {y:Tar×Int×Int} {u:Value} (h:Den E' σ g (parC false y) u):Den E' σ g (parC true y) u:=by
 refine Za5 h rfl fun j sv' hj=> ?_
 match j,hj with
 |0,hj=>
  cases hj
  refine ⟨_,rfl,fun u hu=>Zyz hu rfl fun j sv' hj=> ?_⟩
  match j,hj with
  |0,hj=>cases hj;exact ⟨_,rfl,fun u hu=>by cases hu;exact .str _ ‹_›⟩
  |1,hj=>cases hj;exact ⟨_,rfl,fun u hu=>by cases hu;exact .int _ _ _⟩
  |2,hj=>cases hj;exact ⟨_,rfl,fun u hu=>hu⟩
 |1,hj=>cases hj;exact ⟨_,rfl,fun u hu=>by cases hu;exact .int _ _ _⟩
 |2,hj=>cases hj;exact ⟨_,rfl,fun u hu=>by cases hu;exact .int _ _ _⟩
theorem Zn9 {s:List Nat} {v:SV thy}:∀{l:List (List Nat×(Tar×Int×Int))},Zyy s l=some v->∃p∈l,s=p.1/\v=parC true p.2
 | [],h=>by cases h
 |p::r,h=>by
  unfold Zyy at h
  split at h
  · rename_i he
    cases h
    exact ⟨p,by simp,Zpw he,rfl⟩
  · obtain ⟨q,h1,h2⟩:=Zn9 h
    exact ⟨q,by simp [h1],h2⟩
theorem Zi7 (args:List (SV thy)) (v:SV thy) (h:Zdq args=some v):PureC EL 51 args v:=by
 unfold Zdq at h
 split at h
 · rename_i l s
   obtain ⟨p,h1,rfl,rfl⟩:=Zn9 h
   refine PureC.fl ?_
   refine X3 (v:=parC false p.2) (PureC.like Ziv Ziw (fun _ _ h=>h) ?_) fun σ g u=>Zy0
   have:=Zp6 p.1
   rw [Z3d p h1] at this
   exact this
 · cases h
theorem Z3f {t:Tar} (h:okTC t=true):SmK t:=by
 simp only [okTC,Bool.and_eq_true,List.all_eq_true] at h
 exact ⟨fun c hc=>⟨by have:=Zy (h.1 c hc).1;omega,by have:=Zy (h.1 c hc).2;omega⟩,by have:=Zy h.2;omega⟩
theorem Zqt (args:List (SV thy)) (v:SV thy) (h:Zl3 args=some v):PureC EL 10 args v:=by
 unfold Zl3 at h
 split at h
 · rename_i t _ hd
   split at h
   · rename_i ht
     cases h
     refine PureC.fl (X3 (v:= .tup [.psl Th.ins (Ye t).1 false,.int false .i64 (Ye t).2]) (PureC.like Ziv Ziw (fun _ _ h=>h) (PureC.of_dec hd (Zb8 t (Z3f ht)))) fun σ g u hu=> ?_)
     refine Za5 hu rfl fun j sv' hj=> ?_
     match j,hj with
     |0,hj=>cases hj;exact ⟨_,rfl,fun u hu=>hu⟩
     |1,hj=>cases hj;exact ⟨_,rfl,fun u hu=>by cases hu;exact .int _ _ _⟩
   · cases h
 · cases h
theorem Zy1 {E':Eng thy} {σ:Pl} {g:GH} {u:Value} (h:Den E' σ g (.val (.slice none 0 0):SV thy) u):Den E' σ g (.psl Th.ins [] false) u:=by
 cases h
 exact .psl (fun _ _=>undef) (Nat.le_refl _) (by unfold maxLen;omega) (fun h=>by cases h) (fun _=>rfl) (fun h=>absurd h (by simp)) (fun i x hx=>by simp at hx)
theorem Zoa {E':Eng thy} {σ:Pl} {g:GH} {c:List Ins} {f:Bool} {u:Value} (h:Den E' σ g (.psl Th.ins c f) u):Den E' σ g (.psl Th.ins c false) u:=by
 obtain ⟨base,k,cv,rfl,hl,hm,hf,hn,hb,hd⟩:=X9 h
 exact .psl cv hl hm (fun h=>by cases h) hn hb hd
theorem Zdr {f:FuncId} {a b:SV thy} {v:SV thy} (h:PureC EL f [b] v) (hab:∀σ g u,Den EL σ g a u->Den EL σ g b u):PureC EL f [a] v:=by
 intro g w vals hI hd
 refine h g w vals hI ⟨hd.1,fun j sv u h1 h2=> ?_⟩
 match j,h1 with
 |0,h1=>cases h1;exact hab _ _ _ (hd.2 0 _ u rfl h2)
theorem Zi8 (c:List Ins):PureC EL 14 [.psl .ins c false] (.tup [.int true .i64 (verF c).1,.int true .i64 (verF c).2]):=by
 refine X3 (v:= .tup [.int false .i64 (verF c).1,.int false .i64 (verF c).2]) (PureC.like Ziv Ziw (fun _ _ h=>h) (Zca c)) fun σ g u hu=> ?_
 refine Za5 hu rfl fun j sv' hj=> ?_
 match j,hj with
 |0,hj=>cases hj;exact ⟨_,rfl,fun u hu=>by cases hu;exact .int _ _ _⟩
 |1,hj=>cases hj;exact ⟨_,rfl,fun u hu=>by cases hu;exact .int _ _ _⟩
theorem Zui (args:List (SV thy)) (v:SV thy) (h:Zug args=some v):PureC EL 14 args v:=by
 unfold Zug at h
 split at h
 · cases h
   exact Zdr (Zi8 []) fun σ g u=>Zy1
 · rename_i c f
   cases h
   exact Zdr (Zi8 c) fun σ g u=>Zoa
 · cases h
theorem Zqu (args:List (SV thy)) (v:SV thy) (h:Zl4 args=some v):PureC EL 15 args v:=by
 unfold Zl4 at h
 split at h
 · rename_i c f
   split at h
   · rename_i hc
     cases h
     have hc:∀x∈c,x.n<100/\x.m<100:=fun x hx=>of_decide_eq_true (List.all_eq_true.1 hc x hx)
     refine Zdr (b:= .psl Th.ins c false) ?_ fun σ g u=>Zoa
     refine X3 (v:= .tup [.str false (Xw c).1,.int false .i64 (Xw c).2]) (PureC.like Ziv Ziw (fun _ _ h=>h) (Zjt c (fun x hx hf=>Zc6 Zr2 hf (hc x hx).1 (hc x hx).2) fun x hx hf=>Zgq hf)) fun σ g u hu=> ?_
     refine Za5 hu rfl fun j sv' hj=> ?_
     match j,hj with
     |0,hj=>cases hj;exact ⟨_,rfl,fun u hu=>by cases hu;exact .str _ ‹_›⟩
     |1,hj=>cases hj;exact ⟨_,rfl,fun u hu=>by cases hu;exact .int _ _ _⟩
   · cases h
 · cases h
theorem Zuj (args:List (SV thy)) (v:SV thy) (h:Zuh args=some v):PureC EL 41 args v:=by
 unfold Zuh at h
 split at h
 · rename_i l s l2 b
   cases h
   refine PureC.fl (X3 (v:= .int false .i64 (cntN s b)) (PureC.like Ziv Ziw (fun _ _ h=>h) (Zhm s b)) fun σ g u hu=> ?_)
   cases hu;exact .int _ _ _
 · cases h
theorem Zqv (args:List (SV thy)) (v:SV thy) (h:Zl5 args=some v):PureC EL 45 args v:=by
 unfold Zl5 at h
 split at h
 · rename_i l s
   split at h
   · rename_i n hl hv
     cases h
     rw [Nat.ble_eq] at hl
     refine PureC.fl (X3 (v:= .tup [.int false .i64 n,.val .nilIface]) (PureC.like Ziv Ziw (fun _ _ h=>h) (Zj7 s n (by omega) hv)) fun σ g u hu=> ?_)
     refine Za5 hu rfl fun j sv' hj=> ?_
     match j,hj with
     |0,hj=>cases hj;exact ⟨_,rfl,fun u hu=>by cases hu;exact .int _ _ _⟩
     |1,hj=>cases hj;exact ⟨_,rfl,fun u hu=>hu⟩
   · cases h
 · cases h
theorem Zob:FnsOk EL Z3e:=Up (Zc (Zc (Zc (Zc (Zc (Zc Zt6 (Vu Zad (Zb rfl) Zi7)) (Zaz Zad (Vu Zad (Zb rfl) Zqt))) (Zaz Zad (Vu Zad (Zb rfl) Zui))) (Zaz Zad (Vu Zad (Zb rfl) Zqu))) (Vu Zad (Zb rfl) Zuj)) (Vu Zad (Zb rfl) Zqv))
theorem Zqw:PureC E 8 [] (.bool true true):=by
 refine PureC.like Ziw Ziv (fun _ _ h=>h) (Za Zad (Y4 Zad Zob fun f N c=>(Ze6 Zad Zob 4000 f N c).1) ?_)
 rw [Zqs]
theorem Zuk:SumOk E 8 Ziy:=Vu E_ok (Zb rfl) fun args v h=>by
 unfold Z5y at h
 split at h
 · cases h;exact Zqw
 · cases h
end
section
open Go Go.RowKit
def Xn (s:List Nat):Int×Bool:=match Lib.atoiAll (mkS s).data.toList with
 | .ok v=>(v,true)
 | .range=>(Lib.atoiSat (mkS s).data.toList,false)
 | _=>(0,false)
theorem Zkx {g:GH} {w:World} (hI:Inv E w.heap.size σ0 hp0 g w) {n:Nat} {t:TypeId} (hn:Vq n=some (.iface t .unk)):∃u,w.cell? ⟨n,0,none⟩=some (.iface t u):=by
 obtain ⟨v,h1,h2⟩:=hI.glob n _ hn 0 _ rfl
 cases h2
 exact ⟨_,hI.gc _ _ _ h1⟩
theorem Zwz {g:GH} {n:Int} {t:TypeId} {u:Value}:Den E σ0 g (.tup [.int false .i64 n,.iface t .unk]) (.tuple #[.int .i64 n,.iface t u]):=by
 refine .tup (fun j=>(#[Value.int .i64 n,.iface t u].getD j undef)) rfl (fun j hj=> ?_) (fun j sv hj=> ?_)
 · match j,hj with
   |0,_=>rfl
   |1,_=>rfl
 · match j,hj with
   |0,hj=>cases hj;exact .int _ _ _
   |1,hj=>cases hj;exact .iface (.unk _)
theorem Z1a (s:List Nat) (hl:s.length<=1000000) (h:(Xn s).2=false):PureC E 45 [.str false s] (.tup [.int false .i64 (Xn s).1,.iface 163 .unk]):=by
 refine Xt fun g w vals hI hd=> ?_
 obtain ⟨u,rfl,hu⟩:=Znp hd
 cases hu
 rename_i x hx
 have ex:x=mkS s:=by rw [<-hx,Vh]
 subst ex
 have hz:(mkS s).size<=1000000:=by rw [<-Wp,hx];exact hl
 unfold Xn at h⊢
 revert h
 cases e:Lib.atoiAll (mkS s).data.toList
 · intro h;cases h
 · intro h
   obtain ⟨u,hu⟩:=Zkx hI (n:=3) (t:=217) rfl
   refine (Any.strconv_Atoi_syntax Tryz.lays172 (mkS s) (by omega) e _ w hu (.inr ⟨_,_,rfl⟩)).mono ?_
   rintro en w' ⟨N,rfl,_,_,hb⟩
   exact ⟨_,rfl,Zwz,hb⟩
 · intro h
   obtain ⟨u,hu⟩:=Zkx hI (n:=4) (t:=217) rfl
   refine (Any.strconv_Atoi_range Tryz.lays172 (mkS s) (by omega) e _ w hu (.inr ⟨_,_,rfl⟩)).mono ?_
   rintro en w' ⟨N,rfl,_,_,hb⟩
   exact ⟨_,rfl,Zwz,hb⟩
theorem Zw0 (s:List Nat) (hl:s.length<=1000000) (h:(Xn s).2=true):PureC E 45 [.str false s] (.tup [.int false .i64 (Xn s).1,.val .nilIface]):=by
 unfold Xn at h⊢
 split at h
 · rename_i v e
   exact Zj7 s v hl e
 · cases h
 · cases h
def dStZ:DcL E (List Nat×Unit):= .cons (dStr (E:=E)) .nil
def Sat1:Sum thy:=sumP dStZ (fun x=>x.1.length<=1000000/\(Xn x.1).2=true) fun x=> .tup [.int false .i64 (Xn x.1).1,.val .nilIface]
def Sat2:Sum thy:=sumP dStZ (fun x=>x.1.length<=1000000/\(Xn x.1).2=false) fun x=> .tup [.int false .i64 (Xn x.1).1,.iface 163 .unk]
theorem Sat1_ok:SumOk E 45 Sat1:=Zs E_ok (Zb (f:=45) rfl) fun x h=>Zw0 x.1 h.1 h.2
theorem Sat2_ok:SumOk E 45 Sat2:=Zs E_ok (Zb (f:=45) rfl) fun x h=>Z1a x.1 h.1 h.2
def Z40:Sum thy:=fun args h i k=>match dStZ.dec args with
 |some x=>x.1.length<=1000000/\∀y,y=Xn x.1->(y.2=true->k (quiet [] (.tup [.int false .i64 y.1,.val .nilIface])))/\(y.2=false->k (quiet [] (.tup [.int false .i64 y.1,.iface 163 .unk])))
 |none=>False
theorem Z1b:SumOk E 45 Z40:=by
 refine ⟨Sat1_ok.good,fun args h i k hD hk=> ?_⟩
 unfold Z40 at hk
 split at hk
 case h_2=>exact hk.elim
 rename_i x e
 obtain ⟨h1,hk⟩:=hk
 obtain ⟨k1,k2⟩:=hk _ rfl
 cases hb:(Xn x.1).2 with
 |true=>
  refine Sat1_ok.ok args h i k hD ?_
  unfold Sat1 sumP
  rw [e]
  exact ⟨⟨h1,hb⟩,k1 hb⟩
 |false=>
  refine Sat2_ok.ok args h i k hD ?_
  unfold Sat2 sumP
  rw [e]
  exact ⟨⟨h1,hb⟩,k2 hb⟩
end
section
open Go Go.RowKit
theorem Z1g (s:List Nat) (a b:List Nat) (f:Bool):Zi E F0 (vc E F0 400) 42 [.str false s,.str true [10]] hp0 0 (fun r=>ret E (patch hp0 0 r) r.v (.tup [.str false a,.str false b,.bool false f]))=(
(([(10:Nat)]==s)=true->((0:Int)<=(0:Int)/\(0:Int)<=(↑(List.length s):Int))/\((0:Int)<=(1:Int)/\(1:Int)<=(↑(List.length s):Int))/\List.take (Int.toNat (0:Int)) s=a/\List.drop (Int.toNat (1:Int)) s=b/\true=f/\True)/\(([(10:Nat)]==s)=false->(decide (idxL (Int.toNat (10:Int)%(256:Nat)) (0:Nat) s>=(0:Int))=true->((0:Int)<=idxL (Int.toNat (10:Int)%(256:Nat)) (0:Nat) s/\idxL (Int.toNat (10:Int)%(256:Nat)) (0:Nat) s<=(↑(List.length s):Int))/\((0:Int)<=wr IntKind.i64 (idxL (Int.toNat (10:Int)%(256:Nat)) (0:Nat) s+(1:Int))/\wr IntKind.i64 (idxL (Int.toNat (10:Int)%(256:Nat)) (0:Nat) s+(1:Int))<=(↑(List.length s):Int))/\List.take (Int.toNat (idxL (Int.toNat (10:Int)%(256:Nat)) (0:Nat) s)) s=a/\List.drop (Int.toNat (wr IntKind.i64 (idxL (Int.toNat (10:Int)%(256:Nat)) (0:Nat) s+(1:Int)))) s=b/\true=f/\True)/\(decide (idxL (Int.toNat (10:Int)%(256:Nat)) (0:Nat) s>=(0:Int))=false->s=a/\ []=b/\false=f/\True))):=by kernel_rfl
structure SpX where
 s:List Nat
 k:Nat
 r:Nat
 D:List (List Nat)
def Z1h:DcL E (List Nat×List Nat×Unit):= .cons (dStr (E:=E)) (.cons dStr .nil)
def Z7k:Sum thy:=Vl Z1h (fun x=>x.2.1= [32]) (fun x=>cntN x.1 32) fun (y:Nat)=> .int false .i64 y
theorem Z1i:SumOk E 41 Z7k:=Zz E_ok (Zb rfl) fun x h=>by
 obtain ⟨s,b,_⟩:=x
 have h:b= [32]:=h
 subst h
 exact Zhm s 32
def AspZ:Fr thy->Hp thy->Nat->Ann thy:=fun T h i=>{X:=SpX,fr:=fun x=> [(0,.str false x.s),(1,T 1),(2,T 2),(3,T 3),(9,T 9),(10,.int false .i64 x.k)],bl:=fun x=> [(bOf (T 9),.rows Th.strs x.D 0)],src:=fun _=> [],md:= [bOf (T 9)],ih:=i,M:=i+30,meas:=fun x=>x.r}
def Fsp:Fns thy:=addL (addS F0 41 Z7k) 73 11 AspZ E
theorem Z7l:FnsOk E Fsp:=Zt E_ok (Zc F0_ok Z1i) _ _ _
abbrev qEFf:=(1:Int)
abbrev qEF6 (a0:List Nat):=(wr IntKind.i64 ((↑(List.length a0):Int)+qEFf))
abbrev qEF7 (a0:Nat):=(wr IntKind.i64 ((↑a0:Int)+qEFf))
abbrev qEF1 (a0:Nat) (b0:List Nat):=(mm2 false (qEF7 a0) (qEF6 b0))
abbrev qEF2 (a0:Nat) (b0:List Nat):=(mm2 false (qEF7 a0) (qEF6 b0)-qEFf)
abbrev qEF3 (a0:SpX):=(↑(SpX.k a0):Int)
abbrev qEF4:=(Int.toNat (32:Int)%(256:Nat))
abbrev qEF5:=(0:Nat)
abbrev qEFb:=(0:Int)
abbrev qEF8 (a0:SpX) (b0:Nat) (c0:List Nat):=(qEFb<=(qEF3 a0)/\(qEF3 a0)+qEFf<=(↑(Int.toNat (qEF1 b0 c0)):Int))
abbrev qEF9 (a0:Nat) (b0:List Nat):=(qEF5=qEF5/\Int.toNat (qEF1 a0 b0)=Int.toNat (qEF1 a0 b0)/\Int.toNat (qEF1 a0 b0)=Int.toNat (qEF1 a0 b0))
abbrev qEFa (a0:SpX):=(List.set (SpX.D a0) (qEF5+Int.toNat (qEF3 a0)) (SpX.s a0))
abbrev qEFc (a0:SpX):=((qEF3 a0)+qEFf)
abbrev qEFd:=(32:Nat)
abbrev qEFe (a0:SpX):=(↑(List.length (SpX.s a0)):Int)
theorem Z1j (s:List Nat) (l:List (List Nat)):Zi E Fsp (vc E Fsp 400) 43 [.str false s,.str true [32]] hp0 0 (fun r=>ret E (patch hp0 0 r) r.v (.psl Th.strs l false))=(
 [qEFd]= [qEFd]/\∀(y:Nat),y=cntN s qEFd->qEFb<=mm2 false (qEF7 y) (qEF6 s)/\mm2 false (qEF7 y) (qEF6 s)<=mm2 false (qEF7 y) (qEF6 s)/\(↑(16:Nat):Int)*mm2 false (qEF7 y) (qEF6 s)<=(281474976710656:Int)/\∃(R:SpX->Prop),(∃(x:SpX),R x/\true=true/\(s=SpX.s x/\ [qEFd]= [qEFd]/\qEFb=qEFb/\wr IntKind.i64 (qEF2 y s)=wr IntKind.i64 (qEF2 y s)/\(qEF9 y s)/\qEFb=(qEF3 x)/\True)/\(List.replicate (Int.toNat (qEF1 y s)) (toL (ByteArray.mk #[]))=SpX.D x/\qEF5=qEF5)/\True)/\∀(x:SpX),R x->(decide ((qEF3 x)<wr IntKind.i64 (qEF2 y s))=true->(([qEFd]==SpX.s x)=true->(qEFb<=qEFb/\qEFb<=(qEFe x))/\(qEF8 x y s)/\qEF5<=qEF5+Int.toNat (qEF3 x)/\qEF5+Int.toNat (qEF3 x)+(1:Nat)<=List.length (SpX.D x)/\∀(x_1:List Nat),(SpX.D x)[qEF5+Int.toNat (qEF3 x)]? =some x_1->(qEFb<=qEFf/\qEFf<=(qEFe x))/\∃(x_2:SpX),R x_2/\x_2.3+(1:Nat)<=x.3/\true=true/\(List.drop (Int.toNat qEFf) (SpX.s x)=SpX.s x_2/\ [qEFd]= [qEFd]/\qEFb=qEFb/\wr IntKind.i64 (qEF2 y s)=wr IntKind.i64 (qEF2 y s)/\(qEF9 y s)/\wr IntKind.i64 (qEFc x)=(qEF3 x_2)/\True)/\(List.set (SpX.D x) (qEF5+Int.toNat (qEF3 x)) (List.take (Int.toNat qEFb) (SpX.s x))=SpX.D x_2/\qEF5=qEF5)/\True)/\(([qEFd]==SpX.s x)=false->(decide (idxL qEF4 qEF5 (SpX.s x)<qEFb)=true->(qEF8 x y s)/\qEF5<=qEF5+Int.toNat (qEF3 x)/\qEF5+Int.toNat (qEF3 x)+(1:Nat)<=List.length (SpX.D x)/\∀(x_1:List Nat),(SpX.D x)[qEF5+Int.toNat (qEF3 x)]? =some x_1->(qEFb<=wr IntKind.i64 (qEFc x)/\wr IntKind.i64 (qEFc x)<=(↑(Int.toNat (qEF1 y s)):Int))/\qEF5+Int.toNat (wr IntKind.i64 (qEFc x))<=List.length (qEFa x)/\List.take (Int.toNat (wr IntKind.i64 (qEFc x))) (qEFa x)=l)/\(decide (idxL qEF4 qEF5 (SpX.s x)<qEFb)=false->(qEFb<=wr IntKind.i64 (idxL qEF4 qEF5 (SpX.s x)+qEFb)/\wr IntKind.i64 (idxL qEF4 qEF5 (SpX.s x)+qEFb)<=(qEFe x))/\(qEF8 x y s)/\qEF5<=qEF5+Int.toNat (qEF3 x)/\qEF5+Int.toNat (qEF3 x)+(1:Nat)<=List.length (SpX.D x)/\∀(x_1:List Nat),(SpX.D x)[qEF5+Int.toNat (qEF3 x)]? =some x_1->(qEFb<=wr IntKind.i64 (idxL qEF4 qEF5 (SpX.s x)+qEFf)/\wr IntKind.i64 (idxL qEF4 qEF5 (SpX.s x)+qEFf)<=(qEFe x))/\∃(x_2:SpX),R x_2/\x_2.3+(1:Nat)<=x.3/\true=true/\(List.drop (Int.toNat (wr IntKind.i64 (idxL qEF4 qEF5 (SpX.s x)+qEFf))) (SpX.s x)=SpX.s x_2/\ [qEFd]= [qEFd]/\qEFb=qEFb/\wr IntKind.i64 (qEF2 y s)=wr IntKind.i64 (qEF2 y s)/\(qEF9 y s)/\wr IntKind.i64 (qEFc x)=(qEF3 x_2)/\True)/\(List.set (SpX.D x) (qEF5+Int.toNat (qEF3 x)) (List.take (Int.toNat (wr IntKind.i64 (idxL qEF4 qEF5 (SpX.s x)+qEFb))) (SpX.s x))=SpX.D x_2/\qEF5=qEF5)/\True)))/\(decide ((qEF3 x)<wr IntKind.i64 (qEF2 y s))=false->(qEF8 x y s)/\qEF5<=qEF5+Int.toNat (qEF3 x)/\qEF5+Int.toNat (qEF3 x)+(1:Nat)<=List.length (SpX.D x)/\∀(x_1:List Nat),(SpX.D x)[qEF5+Int.toNat (qEF3 x)]? =some x_1->(qEFb<=wr IntKind.i64 (qEFc x)/\wr IntKind.i64 (qEFc x)<=(↑(Int.toNat (qEF1 y s)):Int))/\qEF5+Int.toNat (wr IntKind.i64 (qEFc x))<=List.length (qEFa x)/\List.take (Int.toNat (wr IntKind.i64 (qEFc x))) (qEFa x)=l)):=by kernel_rfl
def Asi:Fr thy->Hp thy->Nat->Ann thy:=fun T h i=>{X:=LX,fr:=fun x=> [(0,T 0),(1,T 1),(7,T 7),(8,.int false .i64 x.k)],bl:=fun x=> [],src:=fun _=> [],md:= [],ih:=i,M:=i+30,meas:=fun x=>x.r}
def Fsi:Fns thy:=addL F0 44 2 Asi E
theorem Z7m:FnsOk E Fsi:=Zt E_ok F0_ok _ _ _
theorem Zxj (l:List (List Nat)) (x:List Nat) (v:Int):Zi E Fsi (vc E Fsi 400) 44 [.psl Th.strs l false,.str false x] hp0 0 (fun r=>ret E (patch hp0 0 r) r.v (.int false .i64 v))=(
∃(R:LX->Prop),(∃(x_1:LX),R x_1/\true=true/\((l=l/\(false=true->false=true))/\x=x/\(↑(List.length l):Int)=(↑(List.length l):Int)/\(0:Int)=(↑(LX.k x_1):Int)/\True)/\True)/\∀(x_1:LX),R x_1->(decide ((↑(LX.k x_1):Int)<(↑(List.length l):Int))=true->(0:Int)<=(↑(LX.k x_1):Int)/\(↑(LX.k x_1):Int)+(1:Int)<=(↑(List.length l):Int)/\∀(x_2:List Nat),l[Int.toNat (↑(LX.k x_1):Int)]? =some x_2->((x==x_2)=true->(↑(LX.k x_1):Int)=v)/\((x==x_2)=false->∃(x_3:LX),R x_3/\x_3.2+(1:Nat)<=x_1.2/\true=true/\((l=l/\(false=true->false=true))/\x=x/\(↑(List.length l):Int)=(↑(List.length l):Int)/\wr IntKind.i64 ((↑(LX.k x_1):Int)+(1:Int))=(↑(LX.k x_3):Int)/\True)/\True))/\(decide ((↑(LX.k x_1):Int)<(↑(List.length l):Int))=false->(-1:Int)=v)):=by kernel_rfl
end
section
open Go
def cutL:List Nat->List Nat×List Nat×Bool
 | []=>([],[],false)
 |c::r=>if c=10 then ([],r,true) else (c::(cutL r).1,(cutL r).2.1,(cutL r).2.2)
def splL:List Nat->List (List Nat)
 | []=> [[]]
 |c::r=>if c=32 then []::splL r else match splL r with| []=> [[c]]|w::ws=>(c::w)::ws
theorem Wv (b:Nat):∀(s:List Nat) (k:Nat),(idxL b k s= -1/\b∉s)\/∃p q,s=p++b::q/\b∉p/\idxL b k s=((k+p.length:Nat):Int)
 | [],k=> .inl ⟨rfl,by simp⟩
 |c::r,k=>by
  unfold idxL
  cases hb:Nat.beq c b with
  |true=>
   have e:=gC9 hb
   subst e
   exact .inr ⟨[],r,rfl,by simp,by simp⟩
  |false=>
   have e:c≠b:=fun e=>by subst e;rw [Nat.beq_refl] at hb;cases hb
   rcases Wv b r (k+1) with ⟨h1,h2⟩|⟨p,q,h1,h2,h3⟩
   · exact .inl ⟨h1,by simp;exact ⟨fun h=>e h.symm,h2⟩⟩
   · refine .inr ⟨c::p,q,by rw [h1];rfl,by simp;exact ⟨fun h=>e h.symm,h2⟩,?_⟩
     show idxL b (k+1) r=_
     rw [h3];simp;omega
theorem Zbw:∀(p q:List Nat),10∉p->cutL (p++10::q)=(p,q,true)
 | [],q,_=>by show (if (10:Nat)=10 then _ else _)=_;rw [if_pos rfl]
 |c::p,q,h=>by
  have h1:c≠10:=fun e=>h (by simp [e])
  have h2:10∉p:=fun e=>h (by simp [e])
  show (if c=10 then _ else (c::(cutL (p++10::q)).1,(cutL (p++10::q)).2.1,(cutL (p++10::q)).2.2))=_
  rw [if_neg h1,Zbw p q h2]
theorem Zl9:∀(s:List Nat),10∉s->cutL s=(s,[],false)
 | [],_=>rfl
 |c::r,h=>by
  have h1:c≠10:=fun e=>h (by simp [e])
  have h2:10∉r:=fun e=>h (by simp [e])
  show (if c=10 then _ else _)=_
  rw [if_neg h1,Zl9 r h2]
theorem Zuw:∀(s:List Nat),splL s≠ []
 | []=>by simp [splL]
 |c::r=>by
  unfold splL
  split
  · simp
  · split<;>simp
theorem Zdv:∀(s:List Nat),32∉s->splL s= [s]
 | [],_=>rfl
 |c::r,h=>by
  have h1:c≠32:=fun e=>h (by simp [e])
  have h2:32∉r:=fun e=>h (by simp [e])
  unfold splL
  rw [if_neg h1,Zdv r h2]
theorem Zdw:∀(p q:List Nat),32∉p->splL (p++32::q)=p::splL q
 | [],q,_=>by show (if (32:Nat)=32 then _ else _)=_;rw [if_pos rfl]
 |c::p,q,h=>by
  have h1:c≠32:=fun e=>h (by simp [e])
  have h2:32∉p:=fun e=>h (by simp [e])
  show (if c=32 then _ else match splL (p++32::q) with| []=> [[c]]|w::ws=>(c::w)::ws)=_
  rw [if_neg h1,Zdw p q h2]
theorem Zg4:∀(s:List Nat),(splL s).length=s.count 32+1
 | []=>rfl
 |c::r=>by
  unfold splL
  have ih:=Zg4 r
  by_cases h:c=32
  · rw [if_pos h,h,List.count_cons_self,List.length_cons,ih]
  · rw [if_neg h,List.count_cons_of_ne (fun e=>h e)]
    cases hr:splL r with
    |nil=>exact absurd hr (Zuw r)
    |cons w ws=>
     rw [hr] at ih
     exact ih
theorem Zma {s:List Nat} {b:Nat} (hb:b<256) (hs:∀n∈s,n<256):cntN s b=s.count b:=by
 unfold cntN Lib.countByte mkS
 show ((s.map UInt8.ofNat).toArray.toList).count (UInt8.ofNat b)=_
 rw [List.toList_toArray]
 induction s with
 |nil=>rfl
 |cons c r ih=>
  have hc:=hs c List.mem_cons_self
  have ih:=ih fun n hn=>hs n (List.mem_cons_of_mem _ hn)
  rw [List.map_cons,List.count_cons,List.count_cons,ih]
  have:(UInt8.ofNat c==UInt8.ofNat b)=(c==b):=by
   by_cases e:c=b
   · subst e;simp
   · have:UInt8.ofNat c≠UInt8.ofNat b:=fun h=>e (by
      have:=congrArg UInt8.toNat h
      rw [UInt8.toNat_ofNat',UInt8.toNat_ofNat'] at this
      omega)
     rw [beq_eq_false_iff_ne.2 this,beq_eq_false_iff_ne.2 e]
  rw [this]
theorem Zy9 (s:List Nat) (hs:s.length<=1000000):PureC E 42 [.str false s,.str true [10]] (.tup [.str false (cutL s).1,.str false (cutL s).2.1,.bool false (cutL s).2.2]):=by
 refine Za E_ok (Ze E_ok F0_ok 400) ?_
 rw [Z1g]
 rw [show Int.toNat (10:Int)%256=10 from rfl]
 refine ⟨fun h=> ?_,fun h=>⟨fun h2=> ?_,fun h2=> ?_⟩⟩
 · have h:s= [10]:=by simpa using (beq_iff_eq.1 h).symm
   subst h
   exact ⟨⟨by decide,by decide⟩,⟨by decide,by decide⟩,rfl,rfl,rfl,trivial⟩
 · have h2:=of_decide_eq_true h2
   rcases Wv 10 s 0 with ⟨h3,_⟩|⟨p,q,h3,h4,h5⟩
   · rw [h3] at h2;exact absurd h2 (by decide)
   · rw [h5,Nat.zero_add]
     have hl:s.length=p.length+q.length+1:=by rw [h3];simp;omega
     rw [wr64 (by omega) (by omega)]
     refine ⟨⟨by omega,by omega⟩,⟨by omega,by omega⟩,?_,?_,?_,trivial⟩
     · rw [Int.toNat_natCast,h3,Zbw p q h4];simp
     · rw [show ((p.length:Int)+1).toNat=p.length+1 by omega,h3,Zbw p q h4];simp
     · rw [h3,Zbw p q h4]
 · have h2:=of_decide_eq_false h2
   rcases Wv 10 s 0 with ⟨h3,h4⟩|⟨p,q,h3,h4,h5⟩
   · rw [Zl9 s h4];exact ⟨rfl,rfl,rfl,trivial⟩
   · rw [h5] at h2;omega
def sixF (x:List Nat):List (List Nat)->Nat->Int
 | [],_=> -1
 |y::r,k=>if x=y then (k:Int) else sixF x r (k+1)
theorem Zux (l:List (List Nat)) (x:List Nat) (hl:l.length<=1000000):PureC E 44 [.psl Th.strs l false,.str false x] (.int false .i64 (sixF x l 0)):=by
 refine Za E_ok (Ze E_ok Z7m 400) ?_
 rw [Zxj]
 refine ⟨fun y=>y.k+y.r=l.length/\sixF x (l.drop y.k) y.k=sixF x l 0,⟨⟨0,l.length,[],0⟩,⟨Nat.zero_add _,rfl⟩,rfl,⟨⟨rfl,fun h=>h⟩,rfl,rfl,rfl,trivial⟩,trivial⟩,fun y hy=>⟨fun h=> ?_,fun h=> ?_⟩⟩
 · have h:=of_decide_eq_true h
   obtain ⟨h1,h2⟩:=hy
   refine ⟨by omega,by omega,fun z hz=> ?_⟩
   rw [Int.toNat_natCast] at hz
   have hd:l.drop y.k=z::l.drop (y.k+1):=by
    obtain ⟨k1,rfl⟩:=gA9.1 hz
    exact List.drop_eq_getElem_cons k1
   rw [hd] at h2
   have h2:(if x=z then (y.k:Int) else sixF x (l.drop (y.k+1)) (y.k+1))=sixF x l 0:=h2
   refine ⟨fun he=> ?_,fun he=> ?_⟩
   · rw [if_pos (by simpa using he)] at h2;exact h2
   · rw [if_neg (by simpa using he)] at h2
     refine ⟨⟨y.k+1,y.r-1,[],0⟩,⟨by show y.k+1+(y.r-1)=_;omega,h2⟩,by show y.r-1+1<=y.r;omega,rfl,⟨⟨rfl,fun h=>h⟩,rfl,rfl,?_,trivial⟩,trivial⟩
     rw [wr64 (by omega) (by omega)];push_cast;rfl
 · have h:=of_decide_eq_false h
   obtain ⟨h1,h2⟩:=hy
   rw [List.drop_eq_nil_of_le (by omega)] at h2
   exact h2
theorem Zdx {α:Type}:∀(D:List α) (k:Nat) (a:α),k<D.length->(D.set k a).take (k+1)=D.take k++ [a]
 | [],k,a,h=>by simp at h
 |d::D,0,a,_=>by simp
 |d::D,k+1,a,h=>by
  rw [List.set_cons_succ,List.take_succ_cons,Zdx D k a (by simpa using h),List.take_succ_cons,List.cons_append]
structure SpR (s:List Nat) (y:Nat) (x:SpX):Prop where
 cnt:x.k+x.s.count 32=y
 len:x.D.length=y+1
 sp:x.D.take x.k++splL x.s=splL s
 kr:x.k+x.r=y
 sl:x.s.length<=s.length
theorem Zoh {s:List Nat} {y:Nat} {x:SpX} (h:SpR s y x) {p q:List Nat} (hs:x.s=p++32::q) (hp:32∉p):SpR s y ⟨q,x.k+1,x.r-1,x.D.set x.k p⟩/\x.k<y:=by
 have hc:x.s.count 32=q.count 32+1:=by rw [hs,List.count_append,List.count_cons_self,List.count_eq_zero.2 hp];omega
 have h1:=h.cnt
 have h2:=h.len
 have h3:=h.kr
 have h4:=h.sl
 have hl:x.s.length=p.length+q.length+1:=by rw [hs];simp;omega
 refine ⟨⟨by show x.k+1+q.count 32=y;omega,by show (x.D.set x.k p).length=y+1;rw [List.length_set];exact h2,?_,by show x.k+1+(x.r-1)=y;omega,by show q.length<=s.length;omega⟩,by omega⟩
 show (x.D.set x.k p).take (x.k+1)++splL q=splL s
 rw [Zdx _ _ _ (by omega),<-h.sp,hs,Zdw p q hp,List.append_assoc]
 rfl
theorem Zza (s:List Nat) (hs:∀n∈s,n<256) (hl:s.length<=1000000):PureC E 43 [.str false s,.str true [32]] (.psl Th.strs (splL s) false):=by
 refine Za E_ok (Ze E_ok Z7l 400) ?_
 rw [Z1j]; delta qEFd qEFb qEF7 qEF6 qEF2 qEF9 qEF3 qEF1 qEF5 qEFe qEF8 qEFf qEFc qEF4 qEFa
 refine ⟨rfl,fun y hy=> ?_⟩
 rw [Zma (by decide) hs] at hy
 have hyl:y<=s.length:=by rw [hy];exact List.count_le_length
 have eN:mm2 false (wr .i64 ((y:Int)+1)) (wr .i64 ((s.length:Int)+1))=((y+1:Nat):Int):=by
  rw [wr64 (by omega) (by omega),wr64 (by omega) (by omega),Yy];omega
 have eM:wr .i64 (((y+1:Nat):Int)-1)=(y:Int):=by rw [wr64 (by omega) (by omega)];omega
 rw [eN,eM,Int.toNat_natCast]
 rw [show Int.toNat (32:Int)%256=32 from rfl]
 refine ⟨by omega,Int.le_refl _,by omega,SpR s y,⟨⟨s,0,y,List.replicate (y+1) []⟩,⟨by show 0+s.count 32=y;omega,by simp,by simp,Nat.zero_add _,Nat.le_refl _⟩,rfl,⟨rfl,rfl,rfl,rfl,⟨rfl,rfl,rfl⟩,rfl,trivial⟩,⟨rfl,rfl⟩,trivial⟩,fun x hx=>⟨fun hk=>⟨fun he=> ?_,fun he=>⟨fun hi=> ?_,fun hi=> ?_⟩⟩,fun hk=> ?_⟩⟩
 · have he:x.s= [32]:=(by simpa using he: [32]=x.s).symm
   obtain ⟨hz,hlt⟩:=Zoh hx (p:= []) (q:= []) he (by simp)
   have h2:=hx.len
   have h3:=hx.kr
   refine ⟨⟨Int.le_refl _,by omega⟩,⟨by omega,by omega⟩,by omega,by rw [Int.toNat_natCast];omega,fun x1 _=>⟨⟨by decide,by rw [he];decide⟩,_,hz,by show x.r-1+1<=x.r;omega,rfl,⟨by rw [he];rfl,rfl,rfl,rfl,⟨rfl,rfl,rfl⟩,?_,trivial⟩,⟨?_,rfl⟩,trivial⟩⟩
   · rw [wr64 (by omega) (by omega)];push_cast;rfl
   · rw [Int.toNat_natCast,Nat.zero_add];rfl
 · have hk:=of_decide_eq_true hk
   have hi:=of_decide_eq_true hi
   rcases Wv 32 x.s 0 with ⟨h3,h4⟩|⟨p,q,h3,h4,h5⟩
   · have h6:=hx.cnt
     rw [List.count_eq_zero.2 h4] at h6
     omega
   · rw [h5] at hi;omega
 · have hi:=of_decide_eq_false hi
   rcases Wv 32 x.s 0 with ⟨h3,h4⟩|⟨p,q,h3,h4,h5⟩
   · rw [h3] at hi;exact absurd hi (by decide)
   · obtain ⟨hz,hlt⟩:=Zoh hx h3 h4
     have h2:=hx.len
     have h6:=hx.kr
     have h7:=hx.sl
     have hl:x.s.length=p.length+q.length+1:=by rw [h3];simp;omega
     rw [h5,Nat.zero_add,Int.add_zero,wr64 (n:=(p.length:Int)) (by omega) (by omega),wr64 (n:=(p.length:Int)+1) (by omega) (by omega)]
     refine ⟨⟨by omega,by omega⟩,⟨by omega,by omega⟩,by omega,by rw [Int.toNat_natCast];omega,fun x1 _=>⟨⟨by omega,by omega⟩,_,hz,by show x.r-1+1<=x.r;omega,rfl,⟨?_,rfl,rfl,rfl,⟨rfl,rfl,rfl⟩,?_,trivial⟩,⟨?_,rfl⟩,trivial⟩⟩
     · rw [show ((p.length:Int)+1).toNat=p.length+1 by omega,h3];simp
     · rw [wr64 (by omega) (by omega)];push_cast;rfl
     · rw [Int.toNat_natCast,Int.toNat_natCast,Nat.zero_add,h3];simp
 · have hk:=of_decide_eq_false hk
   have h1:=hx.cnt
   have h2:=hx.len
   have h6:=hx.kr
   have hky:x.k=y:=by omega
   have h0:x.s.count 32=0:=by omega
   have hsp:=hx.sp
   rw [Zdv _ (List.count_eq_zero.1 h0)] at hsp
   rw [wr64 (by omega) (by omega)]
   refine ⟨⟨by omega,by omega⟩,by omega,by rw [Int.toNat_natCast];omega,fun x1 _=>⟨⟨by omega,by omega⟩,by rw [List.length_set];omega,?_⟩⟩
   rw [show ((x.k:Int)+1).toNat=x.k+1 by omega,Int.toNat_natCast,Nat.zero_add,Zdx _ _ _ (by omega)]
   exact hsp
end
section
open Go
def Z7o:Sum thy:=Vl Z1h (fun x=>x.2.1= [10]) (fun x=>cntN x.1 10) fun (y:Nat)=> .int false .i64 y
theorem Z1r:SumOk E 41 Z7o:=Zz E_ok (Zb rfl) fun x h=>by
 obtain ⟨s,b,_⟩:=x
 have h:b= [10]:=h
 subst h
 exact Zhm s 10
theorem Zk5 {f:Nat} {s b:List Nat} {v:SV thy} (h:PureC E f [.str false s,.str true b] v):PureC E f [.str false s,.str false b] v:=fun g w vals hI hd=>by
 refine h g w vals hI ?_
 obtain ⟨x,y,rfl,hx,hy⟩:=Z5e hd
 refine ⟨rfl,fun j sv u h1 h2=> ?_⟩
 match j,h1,h2 with
 |0,h1,h2=>cases h1;cases h2;exact hx
 |1,h1,h2=>
  cases h1;cases h2
  cases hy
  rename_i hb
  exact .str _ hb
def Scut:Sum thy:=Vl Z1h (fun x=>x.2.1= [10]/\x.1.length<=1000000) (fun x=>cutL x.1) fun y=> .tup [.str false y.1,.str false y.2.1,.bool false y.2.2]
theorem Z5g:SumOk E 42 Scut:=Zz E_ok (Zb rfl) fun x h=>by
 obtain ⟨s,b,_⟩:=x
 obtain ⟨h,hl⟩:=h
 have h:b= [10]:=h
 subst h
 exact Zk5 (Zy9 s hl)
def Sspl:Sum thy:=Vl Z1h (fun x=>x.2.1= [32]/\(∀n∈x.1,n<256)/\x.1.length<=1000000) (fun x=>splL x.1) fun y=> .psl Th.strs y false
theorem Z5h:SumOk E 43 Sspl:=Zz E_ok (Zb rfl) fun x h=>by
 obtain ⟨s,b,_⟩:=x
 obtain ⟨h,h2,hl⟩:=h
 have h:b= [32]:=h
 subst h
 exact Zk5 (Zza s h2 hl)
def dSix:DcL E (List (List Nat)×List Nat×Unit):= .cons (Zli (E:=E) Th.strs:Dc E (List (thy.dom Th.strs))) (.cons (dStr (E:=E)) .nil)
def Ssix:Sum thy:=Vl dSix (fun x=>x.1.length<=1000000) (fun x=>sixF x.2.1 x.1 0) fun y=> .int false .i64 y
theorem Z5i:SumOk E 44 Ssix:=Zz E_ok (Zb rfl) fun x h=>Zux x.1 x.2.1 h
def Z7p:Sum thy:=sumP (dL1V Z6e) (fun x=>formedF x.1=true) fun x=> .str false (Yh x.1)
structure PaX where
 s:List Nat
 L:List Ins
 r:Nat
structure PbX where
 n:Int
 m:Int
 k:Nat
 r:Nat
def Apo:Fr thy->Hp thy->Nat->Ann thy:=fun T h i=>{X:=Bool×PaX,fr:=fun x=> [(0,.str false x.2.s),(2,match x.1 with|true=> .sl i 0 x.2.L.length 3 none|false=> .val (.slice none 0 0))],bl:=fun x=>(match x.1 with|true=> [(i,.rows Th.ins x.2.L 0)]|false=> []),src:=fun x=>(match x.1 with|true=> [(i,2)]|false=> []),md:= [],ih:=i+1,M:=i+60,meas:=fun x=>x.2.r,ex:=ex2,al:=al2,exOk:=Zi9,alOk:=Zja}
def Z7q (h:Hp thy) (v:SV thy):List (SV thy):=match h (bOf v) with|some (.raw cs _ _)=>cs|_=> []
def Api:Fr thy->Hp thy->Nat->Ann thy:=fun T h i=>{X:=PbX,fr:=fun x=> [(2,T 2),(4,T 4),(5,T 5),(6,T 6),(8,T 8),(33,T 33),(34,T 34),(35,.int false .i64 x.k)],bl:=fun x=>(bOf (T 8),.raw ((Z7q h (T 8)).take 1++ [.int false .i64 x.n,.int false .i64 x.m]) 0 none)::blkS h (T 2),src:=fun _=> [],md:= [bOf (T 8)],ih:=i,M:=i+40,meas:=fun x=>x.r}
def FpaZ:Fns thy:=addL (addL (addS (addS (addS (addS (addS (addS (addS F0 41 Z7o) 42 Scut) 43 Sspl) 44 Ssix) 45 Z40) 34 Zg8) 38 Z7p) 16 3 Apo E) 16 8 Api E
abbrev qEHa:=(1:Int)
abbrev qEHp:=(Int.toNat qEHa)
abbrev qEH1 (a0:List (List Nat)):=(↑(List.length (List.drop qEHp a0)):Int)
abbrev qEH2 (a0:List (List Nat)):=(List.drop qEHp a0=List.drop qEHp a0/\(false=true->false=true))
abbrev qEH3:=(0:Nat)
abbrev qEH4 (a0:PbX):=(↑(PbX.k a0):Int)
abbrev qEHh (a0:List Nat×List Nat×Bool):=(Prod.snd a0)
abbrev qEH5 (a0:List Nat×List Nat×Bool) (b0:List (List Nat)) (c0:PbX) (d0:PbX):=(Value.slice none qEH3 qEH3=Value.slice none qEH3 qEH3/\Prod.fst a0=Prod.fst a0/\Prod.fst (qEHh a0)=Prod.fst (qEHh a0)/\Prod.snd (qEHh a0)=Prod.snd (qEHh a0)/\qEH3=qEH3/\(qEH2 b0)/\(qEH1 b0)=(qEH1 b0)/\wr IntKind.i64 ((qEH4 c0)+qEHa)=(qEH4 d0)/\True)
abbrev qEH6 (a0:PaX) (b0:List Nat×List Nat×Bool) (c0:List (List Nat)) (d0:PbX) (e0:PbX):=((qEH3=qEH3/\List.length (PaX.L a0)=List.length (PaX.L a0)/\True)/\Prod.fst b0=Prod.fst b0/\Prod.fst (qEHh b0)=Prod.fst (qEHh b0)/\Prod.snd (qEHh b0)=Prod.snd (qEHh b0)/\qEH3=qEH3/\(qEH2 c0)/\(qEH1 c0)=(qEH1 c0)/\wr IntKind.i64 ((qEH4 d0)+qEHa)=(qEH4 e0)/\True)
abbrev qEH7 (a0:Int) (b0:PbX):=(Ins.mk a0 (PbX.n b0) (PbX.m b0))
abbrev qEH8:=(0:Int)
abbrev qEHc:=(1000000:Nat)
abbrev qEHg:=(1:Nat)
abbrev qEH9 (a0:List Nat×List Nat×Bool):=([(32:Nat)]= [(32:Nat)]/\(∀(n:Nat),n∈Prod.fst a0->n+qEHg<=(256:Nat))/\List.length (Prod.fst a0)<=qEHc)
abbrev qEHb (a0:PaX):=(!PaX.s a0==toL (ByteArray.mk #[]))
abbrev qEHd:=(97:Nat)
abbrev qEHe:=(117:Nat)
abbrev qEHf:=(110:Nat)
abbrev qEHi:=(112:Nat)
abbrev qEHj:=(115:Nat)
abbrev qEHk:=(108:Nat)
abbrev qEHl:=(111:Nat)
abbrev qEHm:=(100:Nat)
abbrev qEHn:=(109:Nat)
abbrev qEHo:=(101:Nat)
theorem Zxr (s:List Nat) (l:List Ins) (e:Int):Zi E FpaZ (vc E FpaZ 400) 16 [.str false s] hp0 0 (fun r=>ret E (patch hp0 0 r) r.v (.tup [.psl Th.ins l false,.int false .i64 e]))=(
 [(10:Nat)]= [(10:Nat)]/\∀(y:Nat),y=cntN s (10:Nat)->(decide ((↑y:Int)>(4096:Int))=true->l= []/\(2:Int)=e/\True)/\(decide ((↑y:Int)>(4096:Int))=false->∃(R:Bool×PaX->Prop),((∃(y:PaX),R (false,y)/\true=true/\(s=PaX.s y/\Value.slice none qEH3 qEH3=Value.slice none qEH3 qEH3/\True)/\True)\/∃(y:PaX),R (true,y)/\true=true/\False)/\(∀(y:PaX),R (false,y)->((qEHb y)=true->([(10:Nat)]= [(10:Nat)]/\List.length (PaX.s y)<=qEHc)/\∀(y_1:List Nat×List Nat×Bool),y_1=cutL (PaX.s y)->(qEH9 y_1)/\∀(y_2:List (List Nat)),y_2=splL (Prod.fst y_1)->qEH8<=qEH8/\qEH8+qEHa<=(↑(List.length y_2):Int)/\∀(x:List Nat),y_2[Int.toNat qEH8]? =some x->(17:Nat)<=qEHc/\∀(y_3:Int),y_3=sixF x [[],[qEHi,qEHe,qEHj,(104:Nat)],[qEHk,qEHl,qEHd,qEHm],[qEHd,qEHm,qEHm],[qEHj,qEHe,(98:Nat)],[qEHn,qEHe,qEHk],[qEHn,(105:Nat),qEHf],[qEHn,qEHd,(120:Nat)],[qEHm,qEHl,(119:Nat),qEHf],[qEHe,qEHi],[(104:Nat),qEHd,qEHk,(102:Nat)],[qEHk,qEHo,qEHj,qEHj],[(114:Nat),qEHd,qEHf,(103:Nat),qEHo],[(122:Nat),qEHo,(114:Nat),qEHl],[(106:Nat),qEHe,qEHn,qEHi],[qEHi,qEHd,(121:Nat)],[qEHf,qEHl,qEHf,qEHo]] qEH3->(qEH8<=qEHa/\qEHa<=(↑(List.length y_2):Int))/\∃(R_1:PbX->Prop),(∃(x:PbX),R_1 x/\true=true/\(Value.slice none qEH3 qEH3=Value.slice none qEH3 qEH3/\Prod.fst y_1=Prod.fst y_1/\Prod.fst (qEHh y_1)=Prod.fst (qEHh y_1)/\Prod.snd (qEHh y_1)=Prod.snd (qEHh y_1)/\qEH3=qEH3/\(qEH2 y_2)/\(qEH1 y_2)=(qEH1 y_2)/\qEH8=(qEH4 x)/\True)/\(y_3=y_3/\qEH8=PbX.n x/\qEH8=PbX.m x/\True)/\True)/\∀(x:PbX),R_1 x->(decide ((qEH4 x)<(qEH1 y_2))=true->qEH8<=(qEH4 x)/\(qEH4 x)+qEHa<=(qEH1 y_2)/\∀(x_1:List Nat),(List.drop qEHp y_2)[Int.toNat (qEH4 x)]? =some x_1->List.length x_1<=qEHc/\∀(y:Int×Bool),y=Xn x_1->(Prod.snd y=true->(((qEH4 x)==qEH8)=true->∃(x_2:PbX),R_1 x_2/\x_2.4+qEHg<=x.4/\true=true/\(qEH5 y_1 y_2 x x_2)/\(y_3=y_3/\Prod.fst y=PbX.n x_2/\PbX.m x=PbX.m x_2/\True)/\True)/\(((qEH4 x)==qEH8)=false->∃(x_2:PbX),R_1 x_2/\x_2.4+qEHg<=x.4/\true=true/\(qEH5 y_1 y_2 x x_2)/\(y_3=y_3/\PbX.n x=PbX.n x_2/\Prod.fst y=PbX.m x_2/\True)/\True))/\(Prod.snd y=false->l= []/\(4:Int)=e/\True))/\(decide ((qEH4 x)<(qEH1 y_2))=false->((!Prod.snd (qEHh y_1))=true->l= []/\(4:Int)=e/\True)/\((!Prod.snd (qEHh y_1))=false->True/\((!formedF (qEH7 y_3 x))=true->l= []/\(4:Int)=e/\True)/\((!formedF (qEH7 y_3 x))=false->formedF (qEH7 y_3 x)=true/\((!Yh (qEH7 y_3 x)==Prod.fst y_1)=true->l= []/\(4:Int)=e/\True)/\((!Yh (qEH7 y_3 x)==Prod.fst y_1)=false->(∃(y_4:PaX),R (false,y_4)/\y_4.3+qEHg<=y.3/\true=true/\(Prod.fst (qEHh y_1)=PaX.s y_4/\False/\True)/\True)\/∃(y_4:PaX),R (true,y_4)/\y_4.3+qEHg<=y.3/\true=true/\(Prod.fst (qEHh y_1)=PaX.s y_4/\(qEH3=qEH3/\qEHg=List.length (PaX.L y_4)/\True)/\True)/\([Ins.mk y_3 (PbX.n x) (PbX.m x)]=PaX.L y_4/\qEH3=qEH3)/\True)))))/\((qEHb y)=false->l= []/\qEH8=e/\True))/\∀(y:PaX),R (true,y)->((qEHb y)=true->([(10:Nat)]= [(10:Nat)]/\List.length (PaX.s y)<=qEHc)/\∀(y_1:List Nat×List Nat×Bool),y_1=cutL (PaX.s y)->(qEH9 y_1)/\∀(y_2:List (List Nat)),y_2=splL (Prod.fst y_1)->qEH8<=qEH8/\qEH8+qEHa<=(↑(List.length y_2):Int)/\∀(x:List Nat),y_2[Int.toNat qEH8]? =some x->(17:Nat)<=qEHc/\∀(y_3:Int),y_3=sixF x [[],[qEHi,qEHe,qEHj,(104:Nat)],[qEHk,qEHl,qEHd,qEHm],[qEHd,qEHm,qEHm],[qEHj,qEHe,(98:Nat)],[qEHn,qEHe,qEHk],[qEHn,(105:Nat),qEHf],[qEHn,qEHd,(120:Nat)],[qEHm,qEHl,(119:Nat),qEHf],[qEHe,qEHi],[(104:Nat),qEHd,qEHk,(102:Nat)],[qEHk,qEHo,qEHj,qEHj],[(114:Nat),qEHd,qEHf,(103:Nat),qEHo],[(122:Nat),qEHo,(114:Nat),
qEHl],[(106:Nat),qEHe,qEHn,qEHi],[qEHi,qEHd,(121:Nat)],[qEHf,qEHl,qEHf,qEHo]] qEH3->(qEH8<=qEHa/\qEHa<=(↑(List.length y_2):Int))/\∃(R_1:PbX->Prop),(∃(x:PbX),R_1 x/\true=true/\((qEH3=qEH3/\List.length (PaX.L y)=List.length (PaX.L y)/\True)/\Prod.fst y_1=Prod.fst y_1/\Prod.fst (qEHh y_1)=Prod.fst (qEHh y_1)/\Prod.snd (qEHh y_1)=Prod.snd (qEHh y_1)/\qEH3=qEH3/\(qEH2 y_2)/\(qEH1 y_2)=(qEH1 y_2)/\qEH8=(qEH4 x)/\True)/\(y_3=y_3/\qEH8=PbX.n x/\qEH8=PbX.m x/\True)/\(PaX.L y=PaX.L y/\qEH3=qEH3)/\True)/\∀(x:PbX),R_1 x->(decide ((qEH4 x)<(qEH1 y_2))=true->qEH8<=(qEH4 x)/\(qEH4 x)+qEHa<=(qEH1 y_2)/\∀(x_1:List Nat),(List.drop qEHp y_2)[Int.toNat (qEH4 x)]? =some x_1->List.length x_1<=qEHc/\∀(y_4:Int×Bool),y_4=Xn x_1->(Prod.snd y_4=true->(((qEH4 x)==qEH8)=true->∃(x_2:PbX),R_1 x_2/\x_2.4+qEHg<=x.4/\true=true/\(qEH6 y y_1 y_2 x x_2)/\(y_3=y_3/\Prod.fst y_4=PbX.n x_2/\PbX.m x=PbX.m x_2/\True)/\(PaX.L y=PaX.L y/\qEH3=qEH3)/\True)/\(((qEH4 x)==qEH8)=false->∃(x_2:PbX),R_1 x_2/\x_2.4+qEHg<=x.4/\true=true/\(qEH6 y y_1 y_2 x x_2)/\(y_3=y_3/\PbX.n x=PbX.n x_2/\Prod.fst y_4=PbX.m x_2/\True)/\(PaX.L y=PaX.L y/\qEH3=qEH3)/\True))/\(Prod.snd y_4=false->l= []/\(4:Int)=e/\True))/\(decide ((qEH4 x)<(qEH1 y_2))=false->((!Prod.snd (qEHh y_1))=true->l= []/\(4:Int)=e/\True)/\((!Prod.snd (qEHh y_1))=false->True/\((!formedF (qEH7 y_3 x))=true->l= []/\(4:Int)=e/\True)/\((!formedF (qEH7 y_3 x))=false->formedF (qEH7 y_3 x)=true/\((!Yh (qEH7 y_3 x)==Prod.fst y_1)=true->l= []/\(4:Int)=e/\True)/\((!Yh (qEH7 y_3 x)==Prod.fst y_1)=false->(List.length (PaX.L y)<=List.length (PaX.L y)/\qEH3<=List.length (PaX.L y)/\(List.length (PaX.L y)+qEHg)*(24:Nat)<=(140737488355328:Nat))/\∀(l':List Ins),l'=List.take (List.length (PaX.L y)) (PaX.L y)++ [Ins.mk y_3 (PbX.n x) (PbX.m x)]->(∃(y_4:PaX),R (false,y_4)/\y_4.3+qEHg<=y.3/\true=true/\(Prod.fst (qEHh y_1)=PaX.s y_4/\False/\True)/\True)\/∃(y_4:PaX),R (true,y_4)/\y_4.3+qEHg<=y.3/\true=true/\(Prod.fst (qEHh y_1)=PaX.s y_4/\(qEH3=qEH3/\List.length (PaX.L y)+qEHg=List.length (PaX.L y_4)/\True)/\True)/\(l'=PaX.L y_4/\qEH3=qEH3)/\True)))))/\((qEHb y)=false->(qEH3+List.length (PaX.L y)<=List.length (PaX.L y)/\List.take (List.length (PaX.L y)) (PaX.L y)=l)/\qEH8=e/\True))):=by kernel_rfl
end
end Go.Proofs.YtpmkapclhlmbbaaGreatDoor
end
