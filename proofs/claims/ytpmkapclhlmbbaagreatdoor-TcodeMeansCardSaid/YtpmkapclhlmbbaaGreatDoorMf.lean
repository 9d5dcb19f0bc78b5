/- Merged texts: TcL, Expr, Size, Money, Region, EvalR, MapFn, EvalT, EvalU, EvalV, EvalW, TpI, TpPa, TpJ, TuA, Tariff, Holds, Amount, TuB, TcQ, TvB, TcN, TcX, TcY, TuTop. -/
import Derived.Deep.MidRow
import Derived.Test.YtpmkapclhlmbbaaGreatDoorProg
import Derived.Deep.QuietTactic
import Derived.BigQuiet
import Derived.StillTailTactics
import Derived.Deep.RegionHeld
import Derived.Defers
import Derived.Recover
import Derived.LaidEql
import Derived.Lib.ItoaNum
import Derived.Test.YtpmkapclhlmbbaaGreatDoorMe
noncomputable section
namespace Go.Proofs.YtpmkapclhlmbbaaGreatDoor
set_option linter.unusedVariables false
set_option linter.unusedSimpArgs false
set_option linter.unnecessarySimpa false
set_option maxRecDepth 100000
section
open Go
def parC (l:Bool) (y:Tar×Int×Int):SV thy:= .tup [.agg [.str l y.1.name,.int l .i64 y.1.for_,.psl Th.clauses y.1.clauses false],.int l .i64 y.2.1,.int l .i64 y.2.2]
def exsC:List (List Nat×(Tar×Int×Int)):= [
 ([116,97,114,105,102,102,32,97,32,102,111,114,32,108,111,115,115,32,123,32,32,125],(⟨[97],5,[]⟩,0,0)),
 ([116,97,114,105,102,102,32,97,32,102,111,114,32,108,111,115,115,32,123,32,99,108,97,117,115,101,32,98,32,119,104,101,110,32,99,108,97,115,115,32,105,110,32,49,46,46,51,32,112,97,121,32,53,32,42,32,107,109,59,32,125],(⟨[97],5,[⟨[98],[⟨4,1,3⟩],.mk 5 0 0 0 0 0 [.mk 1 5 0 0 0 0 [],.mk 2 6 0 0 0 0 []]⟩]⟩,0,0)),
 ([116,97,114,105,102,102,32,97,32,102,111,114,32,108,111,115,115,32,123,32,99,108,97,117,115,101,32,98,32,112,97,121,32,105,102,32,40,107,109,32,60,32,57,44,32,49,44,32,50,41,59,32,125],(⟨[97],5,[⟨[98],[],.mk 11 0 0 0 0 0 [.mk 2 6 0 0 0 0 [],.mk 1 9 0 0 0 0 [],.mk 1 1 0 0 0 0 [],.mk 1 2 0 0 0 0 []]⟩]⟩,0,0))
]
def Z1b (s:List Nat):List (List Nat×(Tar×Int×Int))->Option (SV thy)
 | []=>none
 |p::r=>match eqL s p.1 with|true=>some (parC true p.2)|false=>Z1b s r
def Zey:List (SV thy)->Option (SV thy)
 | [.str _ s]=>Z1b s exsC
 |_=>none
theorem Z5n:∀p∈exsC,Zc0 p.1=p.2:=by
 unfold exsC
 simp only [List.forall_mem_cons]
 exact ⟨by kernel_rfl,by kernel_rfl,by kernel_rfl,fun _ h=>nomatch h⟩
def okTC (t:Tar):Bool:=(t.clauses.all fun c=>Nat.blt c.pay.sz 10000&&Nat.blt c.when_.length 10000)&&Nat.blt t.clauses.length 10000
def Zni (args:List (SV thy)):Option (SV thy):=
 match dTarC.dec (args.map unfl) with
 |some (t,_)=>(match okTC t with|true=>some (.tup [.psl Th.ins (Z3 t).1 false,.int true .i64 (Z3 t).2])|false=>none)
 |none=>none
def Zwg:List (SV thy)->Option (SV thy)
 | [.val (.slice none 0 0)]=>some (.tup [.int true .i64 (verF []).1,.int true .i64 (verF []).2])
 | [.psl .ins c _]=>some (.tup [.int true .i64 (verF c).1,.int true .i64 (verF c).2])
 |_=>none
def okCC (c:List Ins):Bool:=c.all fun x=>decide (x.n<100/\x.m<100)
def Znj:List (SV thy)->Option (SV thy)
 | [.psl .ins c _]=>(match okCC c with|true=>some (.tup [.str true (Zbs c).1,.int true .i64 (Zbs c).2])|false=>none)
 |_=>none
def Zwh:List (SV thy)->Option (SV thy)
 | [.str _ s,.str _ [b]]=>some (.int true .i64 (cntN s b))
 |_=>none
def Znk:List (SV thy)->Option (SV thy)
 | [.str _ s]=>(match Nat.ble s.length 1000,Lib.atoiAll (mkS s).data.toList with|true,.ok v=>some (.tup [.int true .i64 v,.val .nilIface])|_,_=>none)
 |_=>none
def gthC:List (SV thy)->Option Th:=fun _=>some Th.ins
def Z5o:Fns thy:=Zcn (addS (addS (addS (addS (addS (addS F0 51 (sumO Zey)) 10 (Zgu EL gthC 20 (sumO Zni))) 14 (Zgu EL gthC 20 (sumO Zwg))) 15 (Zgu EL gthC 20 (sumO Znj))) 41 (sumO Zwh)) 45 (sumO Znk))
theorem Zsd (v:Bool):Zk EL Z5o (vc EL Z5o 4000) 8 [] hp0 0 (fun r=>ret EL (patch hp0 0 r) r.v (.bool true v))=(
true=v):=by kernel_rfl
theorem Wc {E':Eng thy} {f:FuncId} {args:List (SV thy)} {v v':SV thy} (h:PureC E' f args v) (hv:∀σ g u,Den E' σ g v u->Den E' σ g v' u):PureC E' f args v':=by
 intro g w vals hI hd
 refine (h g w vals hI hd).mono ?_
 rintro en w' ⟨u,he,g',hS,hI',hu⟩
 exact ⟨u,he,g',hS,hI',hv _ _ _ hu⟩
theorem Z1c {E':Eng thy} {σ:Pl} {g:GH} {cs cs':List (SV thy)} {u:Value} (h:Den E' σ g (.agg cs) u) (hl:cs'.length=cs.length) (hm:∀(j:Nat) sv',cs'[j]? =some sv'->∃sv,cs[j]? =some sv/\∀u,Den E' σ g sv u->Den E' σ g sv' u):Den E' σ g (.agg cs') u:=by
 cases h with
 |agg c hs hc hd=>
  refine .agg c (hs.trans hl.symm) (fun j hj=>hc j (by omega)) fun j sv' hj=> ?_
  obtain ⟨sv,h1,h2⟩:=hm j sv' hj
  exact h2 _ (hd j sv h1)
theorem Zbu {E':Eng thy} {σ:Pl} {g:GH} {cs cs':List (SV thy)} {u:Value} (h:Den E' σ g (.tup cs) u) (hl:cs'.length=cs.length) (hm:∀(j:Nat) sv',cs'[j]? =some sv'->∃sv,cs[j]? =some sv/\∀u,Den E' σ g sv u->Den E' σ g sv' u):Den E' σ g (.tup cs') u:=by
 cases h with
 |tup c hs hc hd=>
  refine .tup c (hs.trans hl.symm) (fun j hj=>hc j (by omega)) fun j sv' hj=> ?_
  obtain ⟨sv,h1,h2⟩:=hm j sv' hj
  exact h2 _ (hd j sv h1)
theorem Z1d {E':Eng thy} {σ:Pl} {g:GH} {y:Tar×Int×Int} {u:Value} (h:Den E' σ g (parC false y) u):Den E' σ g (parC true y) u:=by
 refine Zbu h rfl fun j sv' hj=> ?_
 match j,hj with
 |0,hj=>
  cases hj
  refine ⟨_,rfl,fun u hu=>Z1c hu rfl fun j sv' hj=> ?_⟩
  match j,hj with
  |0,hj=>cases hj;exact ⟨_,rfl,fun u hu=>by cases hu;exact .str _ ‹_›⟩
  |1,hj=>cases hj;exact ⟨_,rfl,fun u hu=>by cases hu;exact .int _ _ _⟩
  |2,hj=>cases hj;exact ⟨_,rfl,fun u hu=>hu⟩
 |1,hj=>cases hj;exact ⟨_,rfl,fun u hu=>by cases hu;exact .int _ _ _⟩
 |2,hj=>cases hj;exact ⟨_,rfl,fun u hu=>by cases hu;exact .int _ _ _⟩
theorem Zps {s:List Nat} {v:SV thy}:∀{l:List (List Nat×(Tar×Int×Int))},Z1b s l=some v->∃p∈l,s=p.1/\v=parC true p.2
 | [],h=>by cases h
 |p::r,h=>by
  unfold Z1b at h
  split at h
  · rename_i he
    cases h
    exact ⟨p,by simp,Zre he,rfl⟩
  · obtain ⟨q,h1,h2⟩:=Zps h
    exact ⟨q,by simp [h1],h2⟩
theorem Zkm (args:List (SV thy)) (v:SV thy) (h:Zey args=some v):PureC EL 51 args v:=by
 unfold Zey at h
 split at h
 · rename_i l s
   obtain ⟨p,h1,rfl,rfl⟩:=Zps h
   refine PureC.fl ?_
   refine Wc (v:=parC false p.2) (PureC.like Zka Zkb (fun _ _ h=>h) ?_) fun σ g u=>Z1d
   have:=Zrp p.1
   rw [Z5n p h1] at this
   exact this
 · cases h
theorem Z5p {t:Tar} (h:okTC t=true):SmK t:=by
 simp only [okTC,Bool.and_eq_true,List.all_eq_true] at h
 exact ⟨fun c hc=>⟨by have:=Z4 (h.1 c hc).1;omega,by have:=Z4 (h.1 c hc).2;omega⟩,by have:=Z4 h.2;omega⟩
theorem Zse (args:List (SV thy)) (v:SV thy) (h:Zni args=some v):PureC EL 10 args v:=by
 unfold Zni at h
 split at h
 · rename_i t _ hd
   split at h
   · rename_i ht
     cases h
     refine PureC.fl (Wc (v:= .tup [.psl Th.ins (Z3 t).1 false,.int false .i64 (Z3 t).2]) (PureC.like Zka Zkb (fun _ _ h=>h) (PureC.of_dec hd (Zc1 t (Z5p ht)))) fun σ g u hu=> ?_)
     refine Zbu hu rfl fun j sv' hj=> ?_
     match j,hj with
     |0,hj=>cases hj;exact ⟨_,rfl,fun u hu=>hu⟩
     |1,hj=>cases hj;exact ⟨_,rfl,fun u hu=>by cases hu;exact .int _ _ _⟩
   · cases h
 · cases h
theorem Z1e {E':Eng thy} {σ:Pl} {g:GH} {u:Value} (h:Den E' σ g (.val (.slice none 0 0):SV thy) u):Den E' σ g (.psl Th.ins [] false) u:=by
 cases h
 exact .psl (fun _ _=>undef) (Nat.le_refl _) (by unfold maxLen;omega) (fun h=>by cases h) (fun _=>rfl) (fun h=>absurd h (by simp)) (fun i x hx=>by simp at hx)
theorem Zpt {E':Eng thy} {σ:Pl} {g:GH} {c:List Ins} {f:Bool} {u:Value} (h:Den E' σ g (.psl Th.ins c f) u):Den E' σ g (.psl Th.ins c false) u:=by
 obtain ⟨base,k,cv,rfl,hl,hm,hf,hn,hb,hd⟩:=Xp h
 exact .psl cv hl hm (fun h=>by cases h) hn hb hd
theorem Zez {f:FuncId} {a b:SV thy} {v:SV thy} (h:PureC EL f [b] v) (hab:∀σ g u,Den EL σ g a u->Den EL σ g b u):PureC EL f [a] v:=by
 intro g w vals hI hd
 refine h g w vals hI ⟨hd.1,fun j sv u h1 h2=> ?_⟩
 match j,h1 with
 |0,h1=>cases h1;exact hab _ _ _ (hd.2 0 _ u rfl h2)
theorem Zkn (c:List Ins):PureC EL 14 [.psl .ins c false] (.tup [.int true .i64 (verF c).1,.int true .i64 (verF c).2]):=by
 refine Wc (v:= .tup [.int false .i64 (verF c).1,.int false .i64 (verF c).2]) (PureC.like Zka Zkb (fun _ _ h=>h) (Zc8 c)) fun σ g u hu=> ?_
 refine Zbu hu rfl fun j sv' hj=> ?_
 match j,hj with
 |0,hj=>cases hj;exact ⟨_,rfl,fun u hu=>by cases hu;exact .int _ _ _⟩
 |1,hj=>cases hj;exact ⟨_,rfl,fun u hu=>by cases hu;exact .int _ _ _⟩
theorem Zwi (args:List (SV thy)) (v:SV thy) (h:Zwg args=some v):PureC EL 14 args v:=by
 unfold Zwg at h
 split at h
 · cases h
   exact Zez (Zkn []) fun σ g u=>Z1e
 · rename_i c f
   cases h
   exact Zez (Zkn c) fun σ g u=>Zpt
 · cases h
theorem Zsf (args:List (SV thy)) (v:SV thy) (h:Znj args=some v):PureC EL 15 args v:=by
 unfold Znj at h
 split at h
 · rename_i c f
   split at h
   · rename_i hc
     cases h
     have hc:∀x∈c,x.n<100/\x.m<100:=fun x hx=>of_decide_eq_true (List.all_eq_true.1 hc x hx)
     refine Zez (b:= .psl Th.ins c false) ?_ fun σ g u=>Zpt
     refine Wc (v:= .tup [.str false (Zbs c).1,.int false .i64 (Zbs c).2]) (PureC.like Zka Zkb (fun _ _ h=>h) (Zxh c (fun x hx hf=>Zuz Zts hf (hc x hx).1 (hc x hx).2) fun x hx hf=>Zz1 hf)) fun σ g u hu=> ?_
     refine Zbu hu rfl fun j sv' hj=> ?_
     match j,hj with
     |0,hj=>cases hj;exact ⟨_,rfl,fun u hu=>by cases hu;exact .str _ ‹_›⟩
     |1,hj=>cases hj;exact ⟨_,rfl,fun u hu=>by cases hu;exact .int _ _ _⟩
   · cases h
 · cases h
theorem Zwj (args:List (SV thy)) (v:SV thy) (h:Zwh args=some v):PureC EL 41 args v:=by
 unfold Zwh at h
 split at h
 · rename_i l s l2 b
   cases h
   refine PureC.fl (Wc (v:= .int false .i64 (cntN s b)) (PureC.like Zka Zkb (fun _ _ h=>h) (Z2u s b)) fun σ g u hu=> ?_)
   cases hu;exact .int _ _ _
 · cases h
theorem Zsg (args:List (SV thy)) (v:SV thy) (h:Znk args=some v):PureC EL 45 args v:=by
 unfold Znk at h
 split at h
 · rename_i l s
   split at h
   · rename_i n hl hv
     cases h
     rw [Nat.ble_eq] at hl
     refine PureC.fl (Wc (v:= .tup [.int false .i64 n,.val .nilIface]) (PureC.like Zka Zkb (fun _ _ h=>h) (Zyg s n (by omega) hv)) fun σ g u hu=> ?_)
     refine Zbu hu rfl fun j sv' hj=> ?_
     match j,hj with
     |0,hj=>cases hj;exact ⟨_,rfl,fun u hu=>by cases hu;exact .int _ _ _⟩
     |1,hj=>cases hj;exact ⟨_,rfl,fun u hu=>hu⟩
   · cases h
 · cases h
theorem Zpu:FnsOk EL Z5o:=Vc (Zb (Zb (Zb (Zb (Zb (Zb Zvz (V9 Za0 (Zc rfl) Zkm)) (Zbn Za0 (V9 Za0 (Zc rfl) Zse))) (Zbn Za0 (V9 Za0 (Zc rfl) Zwi))) (Zbn Za0 (V9 Za0 (Zc rfl) Zsf))) (V9 Za0 (Zc rfl) Zwj)) (V9 Za0 (Zc rfl) Zsg))
theorem Zsh:PureC E 8 [] (.bool true true):=by
 refine PureC.like Zkb Zka (fun _ _ h=>h) (Za Za0 (Xc Za0 Zpu fun f N c=>(Zgg Za0 Zpu 4000 f N c).1) ?_)
 rw [Zsd]
theorem Zwk:SumOk E 8 Zgw:=V9 E_ok (Zc rfl) fun args v h=>by
 unfold Z8a at h
 split at h
 · cases h;exact Zsh
 · cases h
end
section
open Go.RowKit
theorem Ext.range {w w':World} (h:Ext w w') {b o:Nat} {cs:List Value} (hr:w.rangeAt b o cs):w'.rangeAt b o cs:=
 fun j v hv=>h.cell (hr j v hv)
def I64 (x:Int):Prop:=True
def SlIn {α:Type} (w:World) (k:Nat) (R:List Value->α->Prop) (sv:Value) (l:List α):Prop:=
 ∃A cap,sv= .slice A l.length cap/\l.length<=cap/\cap<=9223372036854775807/\
  (0<l.length->∃b o,A=some ⟨b,o,none⟩/\b<w.heap.size/\∀i x,l[i]? =some x->∃cs,cs.length=k/\w.rangeAt b (o+i*k) cs/\R cs x)
theorem SlIn.mono {α:Type} {w w':World} {k:Nat} {R R':List Value->α->Prop} {sv:Value} {l:List α} (h:SlIn w k R sv l) (hx:Ext w w') (hR:∀cs x,x∈l->R cs x->R' cs x):SlIn w' k R' sv l:=by
 obtain ⟨A,cap,rfl,h1,h2,h3⟩:=h
 refine ⟨A,cap,rfl,h1,h2,fun h0=> ?_⟩
 obtain ⟨b,o,rfl,hb,h4⟩:=h3 h0
 refine ⟨b,o,rfl,Nat.lt_of_lt_of_le hb hx.size,fun i x hi=> ?_⟩
 obtain ⟨cs,hl,hr,hR1⟩:=h4 i x hi
 exact ⟨cs,hl,hx.range hr,hR cs x (List.mem_of_getElem? hi) hR1⟩
def exT0:Ex:= .mk 0 0 0 0 0 0 []
def ExIn (w:World):Nat->List Value->Ex->Prop
 |0,_,_=>False
 |d+1,cs,.mk op n u0 u1 u2 u3 l=>∃sv,cs= [.int .i64 op,.int .i64 n,.int .i64 u0,.int .i64 u1,.int .i64 u2,.int .i64 u3,sv]/\
  I64 op/\I64 n/\I64 u0/\I64 u1/\I64 u2/\I64 u3/\SlIn w 7 (ExIn w d) sv l
theorem ExIn.ext {w w':World} (hx:Ext w w'):∀{d:Nat} {cs:List Value} {e:Ex},ExIn w d cs e->ExIn w' d cs e:=by
 intro d
 induction d with
 |zero=>intro cs e h;exact h.elim
 |succ d ih=>
  intro cs e h
  cases e with
  |mk op n u0 u1 u2 u3 l=>
   obtain ⟨sv,hcs,h0,h1,h2,h3,h4,h5,hs⟩:=h
   exact ⟨sv,hcs,h0,h1,h2,h3,h4,h5,hs.mono hx fun cs x _ hR=>ih hR⟩
theorem ExIn.len {w:World} {d:Nat} {cs:List Value} {e:Ex} (h:ExIn w d cs e):cs.length=7:=by
 cases d with
 |zero=>exact h.elim
 |succ d=>cases e with|mk op n u0 u1 u2 u3 l=>obtain ⟨sv,rfl,_⟩:=h;rfl
def ExR (w:World) (cs:List Value) (e:Ex):Prop:=∃d,ExIn w d cs e
theorem ExR.ext {w w':World} (hx:Ext w w') {cs:List Value} {e:Ex} (h:ExR w cs e):ExR w' cs e:=h.elim fun d h=>⟨d,h.ext hx⟩
theorem ExIn.open_ {w:World} {d:Nat} {cs:List Value} {e:Ex} (h:ExIn w d cs e):
 ∃A cap u0 u1 u2 u3,cs= [.int .i64 e.op,.int .i64 e.n,.int .i64 u0,.int .i64 u1,.int .i64 u2,.int .i64 u3,.slice A e.l.length cap]/\I64 e.op/\I64 e.n/\e.l.length<=9223372036854775807/\e.l.length<=cap/\
  (0<e.l.length->∃b o,A=some ⟨b,o,none⟩/\b<w.heap.size/\∀i x,e.l[i]? =some x->∃cs,cs.length=7/\w.rangeAt b (o+i*7) cs/\ExIn w (d-1) cs x):=by
 cases d with
 |zero=>exact h.elim
 |succ d=>
  cases e with
  |mk op n u0 u1 u2 u3 l=>
   obtain ⟨sv,rfl,h0,h1,h2,h3,h4,h5,A,cap,rfl,h6,h7,hs⟩:=h
   exact ⟨A,cap,u0,u1,u2,u3,rfl,h0,h1,Nat.le_trans h6 h7,h6,hs⟩
def opsF (op:Int):Int:=if op<1\/11<op then-1 else if op<=2 then 0 else if op=11 then 4 else 2
def W6:Nat->Ex->Bool
 |0,_=>false
 |d+1,e=>decide ((e.l.length:Int)=opsF e.op)&&
  (if e.op=1 then decide (0<=e.n)&&decide (e.n<=1099511627776) else if e.op=2 then decide (0<=e.n)&&decide (e.n<16) else e.l.all (W6 d))
theorem Zs6 {d:Nat} {e:Ex} (h:W6 (d+1) e=true) (h1:¬e.op=1) (h2:¬e.op=2):
 3<=e.op/\e.op<=11/\(e.op=11->e.l.length=4)/\(e.op≠11->e.l.length=2)/\∀i,i<e.l.length->W6 d (e.l.getD i exT0)=true:=by
 simp only [W6,if_neg h1,if_neg h2,Bool.and_eq_true,decide_eq_true_eq,List.all_eq_true] at h
 obtain ⟨hl,ha⟩:=h
 unfold opsF at hl
 have hr:3<=e.op/\e.op<=11:=by
  refine ⟨?_,?_⟩<;>(split at hl<;>omega)
 rw [if_neg (by omega),if_neg (by omega)] at hl
 refine ⟨hr.1,hr.2,fun h=> ?_,fun h=> ?_,fun i hi=>ha _ ?_⟩
 · rw [if_pos h] at hl;omega
 · rw [if_neg h] at hl;omega
 · simp only [List.getD,gB9 hi,Option.getD_some];exact List.getElem_mem _
theorem Zs7 {d:Nat} {e:Ex} (h:W6 (d+1) e=true) (h1:e.op=2):e.l= []/\0<=e.n/\e.n<16:=by
 have h2:¬e.op=1:=by omega
 simp only [W6,if_pos h1,if_neg h2,Bool.and_eq_true,decide_eq_true_eq] at h
 rw [h1] at h
 exact ⟨List.eq_nil_of_length_eq_zero (by have:=h.1;unfold opsF at this;simpa using this),h.2⟩
structure Ev where
 has:Int
 v:List Int
def Ev.cells (x:Ev):List Value:= .int .i64 x.has::x.v.map (Value.int .i64)
def Ev.ok (x:Ev):Prop:=x.v.length=16/\I64 x.has/\∀y∈x.v,I64 y
def bitF (n:Int) (a:Nat):Bool:=decide ((n/2^a)%2=1)
def Zy (x:Ev) (a:Nat):Int×Int:=if !bitF x.has a then (0,181) else if inR (x.v.getD a 0) then (x.v.getD a 0,0) else (0,3)
def Zb3 (op a b:Int):Int×Int:=
 if op=3 then addF a b else if op=4 then subF a b else if op=5 then mulF a b else if op=6 then (min a b,0) else if op=7 then (max a b,0) else divF a b op
def Zg:Nat->Ex->Ev->Int×Int
 |0,_,_=>(0,0)
 |d+1,e,x=>
  if e.op=1 then (e.n,0) else if e.op=2 then Zy x e.n.toNat else
  let a:=Zg d (e.l.getD 0 exT0) x
  if a.2≠0 then (0,a.2) else
  let b:=Zg d (e.l.getD 1 exT0) x
  if b.2≠0 then (0,b.2) else
  if e.op≠11 then Zb3 e.op a.1 b.1 else
  if a.1<b.1 then Zg d (e.l.getD 2 exT0) x else Zg d (e.l.getD 3 exT0) x
theorem Z6u {c:Prop} [Decidable c] {p q:Int×Int} (hp:p.2≠0->p.1=0) (hq:q.2≠0->q.1=0):(if c then p else q).2≠0->(if c then p else q).1=0:=by
 split
 · exact hp
 · exact hq
theorem Zs8 (op a b:Int):(Zb3 op a b).2≠0->(Zb3 op a b).1=0:=by
 unfold Zb3 addF subF mulF divF
 repeat' refine Z6u ?_ ?_
 all_goals first|exact rngF_errX _|simp
theorem Zx0 (x:Ev) (a:Nat) (h:(Zy x a).2≠0):(Zy x a).1=0:=by
 unfold Zy at h⊢;repeat' split at h
 all_goals simp_all
theorem Zfd:∀(d:Nat) (e:Ex) (x:Ev),(Zg d e x).2≠0->(Zg d e x).1=0
 |0,_,_,h=>absurd rfl h
 |d+1,e,x,h=>by
  have i0:=Zfd d (e.l.getD 2 exT0) x
  have i1:=Zfd d (e.l.getD 3 exT0) x
  unfold Zg at h⊢
  by_cases h1:e.op=1
  · simp only [if_pos h1] at h;exact absurd rfl h
  · by_cases h2:e.op=2
    · simp only [if_neg h1,if_pos h2] at h⊢;exact Zx0 _ _ h
    · simp only [if_neg h1,if_neg h2] at h⊢
      by_cases h3:(Zg d (e.l.getD 0 exT0) x).2≠0
      · rw [if_pos h3]
      · rw [if_neg h3] at h⊢
        by_cases h4:(Zg d (e.l.getD 1 exT0) x).2≠0
        · rw [if_pos h4]
        · rw [if_neg h4] at h⊢
          by_cases h5:e.op≠11
          · rw [if_pos h5] at h⊢;exact Zs8 _ _ _ h
          · rw [if_neg h5] at h⊢
            split at h
            · rw [if_pos ‹_›];exact i0 h
            · rw [if_neg ‹_›];exact i1 h
def Za8 (e:Ex) (x:Ev):Int×Int:=if W6 24 e then Zg 24 e x else (0,1)
end
section
open Go.RowKit
theorem Xh:(Tryz.prog.info? 47).map (·.size)=some 7:=by kernel_rfl
set_option maxHeartbeats 400000 in
theorem Z2v (op:Int) (w:World):Calls Tryz.prog 122 #[.int .i64 op] w fun en w'=>en= .returned (.int .i64 (opsF op))/\w=w':=by
 by_cases h1:op<1
 · go_enter Tryz.func122,Tryz.ntmps122
   go_wp2_with fail
   go_ret
   exact ⟨Va (by unfold opsF;rw [if_pos (by omega)]),rfl⟩
 · by_cases h2:11<op
   · go_enter Tryz.func122,Tryz.ntmps122
     go_wp2_with fail
     go_ret
     exact ⟨Va (by unfold opsF;rw [if_pos (by omega)]),rfl⟩
   · have h3:op=1\/op=2\/op=3\/op=4\/op=5\/op=6\/op=7\/op=8\/op=9\/op=10\/op=11:=by omega
     clear h1 h2
     rcases h3 with rfl|rfl|rfl|rfl|rfl|rfl|rfl|rfl|rfl|rfl|rfl
     all_goals
      go_enter Tryz.func122,Tryz.ntmps122
      go_wp2_with fail
      go_ret
      exact ⟨Va (by decide),rfl⟩
theorem Z66 (op:Int): -1<=opsF op/\opsF op<=4:=by unfold opsF;(repeat' split)<;>omega
set_option maxHeartbeats 1000000 in
theorem Zll (dn:Nat):∀(d:Nat) (cs:List Value) (e:Ex) (w:World),dn<=1000->ExIn w d cs e->
 Calls Tryz.prog 79 #[.agg cs.toArray,.int .i64 dn] w fun en w'=>en= .returned (.bool (W6 dn e))/\Ext w w':=by
 induction dn with
 |zero=>
  intro d cs e w h3 he
  obtain ⟨A,cap,u0,u1,u2,u3,rfl,_,_,hlen,hcap,hel⟩:=he.open_
  clear hel he
  go_enter Tryz.func79,Tryz.ntmps79
  go_wp2_with fail
  go_quiet (fail)
  go_wp2_with fail
  go_ret
  exact ⟨Xy rfl,((Ext.refl _).alloc _).drewN _⟩
 |succ dn ih=>
  intro d cs e w h3 he
  have ih':=Lib.hid ih
  clear ih
  rw [show ((dn+1:Nat):Int)=(dn:Int)+1 from by omega]
  have hfin:W6 (dn+1) e=(decide ((e.l.length:Int)=opsF e.op)&&
   (if e.op=1 then decide (0<=e.n)&&decide (e.n<=1099511627776) else if e.op=2 then decide (0<=e.n)&&decide (e.n<16) else e.l.all (W6 dn))):=rfl
  have HF:=Lib.hid hfin
  clear hfin
  generalize W6 (dn+1) e=r at*
  obtain ⟨A,cap,u0,u1,u2,u3,rfl,_,_,hlen,hcap,hel⟩:=he.open_
  generalize e.l=l at*
  generalize e.op=op at*
  generalize e.n=nn at*
  generalize hn:l.length=n at*
  have HN:=Lib.hid hn
  have HEL:=Lib.hid hel
  have hops:=Z66 op
  have ho:=fun w=>Z2v op w
  generalize opsF op=q at*
  have HO:=Lib.hid ho
  clear hn hel he ho
  by_cases hnq:(n:Int)=q
  · have hb:((n:Int) !=q)=false:=by rw [bne_eq_false_iff_eq];exact hnq
    have HD:=Lib.hid hnq
    clear hnq
    by_cases h1:op=1
    · subst h1
      go_enter Tryz.func79,Tryz.ntmps79
      go_wp2_with fail
      go_quiet ((go_at_call 122;exact Calls.quiet_of_same ((HO.out _).mono fun _ _ h=>⟨h.1,h.2.symm⟩)))
      go_wp2_with fail
      all_goals go_ret
      all_goals exact ⟨Xy (by rw [HF.out,Bool.eq_iff_iff];simp [HD.out];try omega),((Ext.refl _).alloc _).drewN _⟩
    · by_cases h2:op=2
      · subst h2
        go_enter Tryz.func79,Tryz.ntmps79
        go_wp2_with fail
        go_quiet ((go_at_call 122;exact Calls.quiet_of_same ((HO.out _).mono fun _ _ h=>⟨h.1,h.2.symm⟩)))
        go_wp2_with fail
        all_goals go_ret
        all_goals exact ⟨Xy (by rw [HF.out,Bool.eq_iff_iff];simp [HD.out];try omega),((Ext.refl _).alloc _).drewN _⟩
      · have e0:((dn:Int)+1==0)=false:=by rw [beq_eq_false_iff_ne];omega
        have e1:(op==1)=false:=by simpa using h1
        have e2:(op==2)=false:=by simpa using h2
        have HF2:=Lib.hid (show r=l.all (W6 dn) by rw [HF.out];simp [HD.out,h1,h2])
        clear HF h1 h2
        go_enter Tryz.func79,Tryz.ntmps79
        go_wp2_with fail
        go_quiet ((go_at_call 122;exact Calls.quiet_of_same ((HO.out _).mono fun _ _ h=>⟨h.1,h.2.symm⟩)))
        go_wp2_with fail
        generalize hw0:World.drewN _ _=w0
        have hx0:Ext w w0:=by rw [<-hw0];exact ((Ext.refl _).alloc _).drewN _
        clear hw0
        go_loopw [43] (fun i wr=>∃k:Nat,k<=n/\i= .int .i64 k/\Hid ((l.take k).all (W6 dn)=true)/\Ext w0 wr) (fun i _=>n-(intOf i).toNat)
        case atStart=>exact ⟨0,Nat.zero_le _,rfl,rfl,Ext.refl _⟩
        case round=>
         obtain ⟨k,hk,rfl,HR,hx⟩:=hrel
         by_cases hlt:k<n
         · obtain ⟨b,o,rfl,hb,hi⟩:=HEL.out (by omega)
           have hlk:k<l.length:=by rw [HN.out];exact hlt
           obtain ⟨cs1,hl1,hr1,hE1⟩:=hi k l[k] (gB9 hlk)
           have hE2:=(hE1.ext hx0).ext hx
           have hr2:=hx.range (hx0.range hr1)
           have HL1:=Lib.hid hl1
           have hts:l.take (k+1)=l.take k++ [l[k]]:=List.take_succ_eq_append_getElem hlk
           have hm:l[k]∈l:=List.getElem_mem _
           have HT:=Lib.hid hts
           have HM:=Lib.hid hm
           generalize l[k]=x at*
           obtain ⟨A1,cap1,v0,v1,v2,v3,rfl,_⟩:=hE2.open_
           have hcall:=fun (W:World) (h:Ext wr W)=>ih'.out _ _ x W (by omega) (hE2.ext h)
           cases hfx:W6 dn x
           · rw [hfx] at hcall
             have HC:=Lib.hid hcall
             have HX:=Lib.hid hfx
             clear hcall hi hr1 hE1 hE2 hl1 hts hm hfx
             go_wp2_with (refine wpList_load_mid rfl 47 _ rfl b (o+k*7) rfl _ _ hr2 Tryz.underlying47 rfl Xh ?_)
             refine (HC.out _ ((Ext.refl _).alloc _)).mono ?_
             rintro e1 w1 ⟨rfl,hx1⟩
             go_wp2_with fail
             go_ret
             refine ⟨Xy ?_,(hx0.trans hx).trans (((Ext.refl _).alloc _).trans hx1)⟩
             rw [HF2.out,eq_comm,List.all_eq_false]
             exact ⟨x,HM.out,by simp [HX.out]⟩
           · rw [hfx] at hcall
             have HC:=Lib.hid hcall
             have HX:=Lib.hid hfx
             clear hcall hi hr1 hE1 hE2 hl1 hts hm hfx
             go_wp2_with (refine wpList_load_mid rfl 47 _ rfl b (o+k*7) rfl _ _ hr2 Tryz.underlying47 rfl Xh ?_)
             refine (HC.out _ ((Ext.refl _).alloc _)).mono ?_
             rintro e1 w1 ⟨rfl,hx1⟩
             go_wp2_with fail
             go_roundw
             case rel=>exact ⟨k+1,by omega,by go_num,(by rw [HT.out,List.all_append,HR.out];simp [HX.out]:(l.take (k+1)).all (W6 dn)=true),hx.trans (((Ext.refl _).alloc _).trans hx1)⟩
             case measure=>simp [intOf];omega
         · have hkn:l.length<=k:=by rw [HN.out];omega
           have HK:=Lib.hid hkn
           clear hkn
           go_wp2_with fail
           go_ret
           exact ⟨Xy (by rw [HF2.out,<-HR.out,List.take_of_length_le HK.out]),hx0.trans hx⟩
  · have hb:((n:Int) !=q)=true:=by rw [bne_iff_ne];exact hnq
    have HD:=Lib.hid hnq
    clear hnq
    go_enter Tryz.func79,Tryz.ntmps79
    go_wp2_with fail
    go_quiet ((go_at_call 122;exact Calls.quiet_of_same ((HO.out _).mono fun _ _ h=>⟨h.1,h.2.symm⟩)))
    go_wp2_with fail
    go_ret
    exact ⟨Xy (by rw [HF.out];simp [HD.out]),((Ext.refl _).alloc _).drewN _⟩
end
section
open Go.RowKit
set_option maxHeartbeats 400000 in
theorem Zv7 (a:Int) (w:World) (h: -9007199254740992<=a) (h2:a<=9007199254740992):
 Calls Tryz.prog 186 #[.int .i64 a] w fun e w'=>e= .returned (.int .u64 a.natAbs)/\w=w':=by
 go_enter Tryz.func186,Tryz.ntmps186
 go_wp2_with fail
 all_goals go_ret
 · exact ⟨Va (by simp only [IntKind.wrap_u64];omega),rfl⟩
 · exact ⟨Va (by omega),rfl⟩
set_option maxHeartbeats 400000 in
theorem Z4c (a:Addr) (n c:Nat) (zs:List Int) (w:World) (hl:zs.length=n) (hn:n<=1000) (hc:∀i,i<n->w.cell? (a.add i)=some (.int .i64 (zs.getD i 0))):
 Calls Tryz.prog 184 #[.slice (some a) n c] w fun e w'=>e= .returned (.bool (zs.all inR))/\w=w':=by
 have H:=Lib.hid hl
 clear hl
 go_enter Tryz.func184,Tryz.ntmps184
 go_wp2_with fail
 go_loop [4,7] (fun _ i=>∃k:Nat,k<=n/\i= .int .i64 k/\(zs.take k).all inR=true) (fun _ i=>n-(intOf i).toNat)
 case atStart=>exact ⟨0,Nat.zero_le _,rfl,rfl⟩
 case round=>
  obtain ⟨k,hk,rfl,hr⟩:=hrel
  have HR:=Lib.hid hr
  clear hr
  by_cases hlt:k<n
  · have hcell:=hc k hlt
    have hg:zs.getD k 0=zs[k]'(by rw [H.out];exact hlt):=by simp [H.out,hlt]
    have hts:zs.take (k+1)=zs.take k++ [zs.getD k 0]:=by
     rw [List.take_succ_eq_append_getElem (by rw [H.out];exact hlt),hg]
    have hall:inR (zs.getD k 0)=false->zs.all inR=false:=by
     intro h
     rw [Bool.eq_false_iff]
     intro hh
     have:=(List.all_eq_true.1 hh) (zs.getD k 0) (by rw [hg];exact List.getElem_mem _)
     rw [h] at this
     cases this
    have HT:=Lib.hid hts
    have HA:=Lib.hid hall
    clear hts hg hc hall
    generalize zs.getD k 0=z at*
    by_cases hz1:z< -9007199254740992
    · go_wp2_with fail
      go_ret
      exact ⟨Xy (HA.out (inR_not.2 (by omega))).symm,rfl⟩
    · by_cases hz2:9007199254740992<z
      · go_wp2_with fail
        go_ret
        exact ⟨Xy (HA.out (inR_not.2 (by omega))).symm,rfl⟩
      · go_wp2_with fail
        go_round
        case rel=>exact ⟨k+1,by omega,by go_num,by rw [HT.out];simp [HR.out,inR_iff];omega⟩
        case measure=>simp [intOf];omega
  · have hkn:zs.length<=k:=by rw [H.out];omega
    have HK:=Lib.hid hkn
    clear hkn
    go_wp2_with fail
    go_ret
    exact ⟨Xy (by rw [<-HR.out,List.take_of_length_le HK.out]),rfl⟩
set_option maxHeartbeats 400000 in
theorem Zgy (a:Int) (w:World):
 Calls Tryz.prog 185 #[.int .i64 a] w fun e w'=>e= .returned (.tuple #[.int .i64 (rngF a).1,.int .i64 (rngF a).2])/\Ext w w':=by
 cases h:inR a
 all_goals
  have e0: [a].all inR=inR a:=by simp
  rw [h] at e0
  have H:=Lib.hid h
  have E0:=Lib.hid e0
  clear h e0
  go_enter Tryz.func185,Tryz.ntmps185
  go_wp2_with fail
  refine (Z4c _ 1 _ [a] _ rfl (by omega) ?_).mono ?_
  · intro i hi
    obtain rfl:i=0:=by omega
    simp [go_sem]
  rw [E0.out]
  rintro e w1 ⟨rfl,rfl⟩
  go_wp2_with fail
  go_ret2
  exact ⟨Zf (by simp [rngF,H.out]) (by simp [rngF,H.out]),(Ext.refl _).alloc _⟩
set_option maxHeartbeats 400000 in
theorem X2 (a b:Int) (w:World) (A:Addr) (c:Nat) (h0:w.cell? (A.add 0)=some (.int .i64 a)) (h1:w.cell? (A.add 1)=some (.int .i64 b)) (r:Bool) (hr:Hid ((inR a&&inR b)=r)):
 Calls Tryz.prog 184 #[.slice (some A) 2 c] w fun e w'=>e= .returned (.bool r)/\w=w':=by
 refine (Z4c A 2 c [a,b] w rfl (by omega) ?_).mono fun e w' h=> ?_
 · intro i hi
   match i,hi with
   |0,_=>exact h0
   |1,_=>exact h1
 · simpa [hr.out] using h
set_option maxHeartbeats 400000 in
theorem Zv8 (a b:Int) (w:World):
 Calls Tryz.prog 150 #[.int .i64 a,.int .i64 b] w fun e w'=>e= .returned (.tuple #[.int .i64 (addF a b).1,.int .i64 (addF a b).2])/\Ext w w':=by
 cases h:inR a&&inR b
 · have H:=Lib.hid h
   clear h
   go_enter Tryz.func150,Tryz.ntmps150
   go_wp2_with fail
   refine (X2 a b _ _ _ (by simp [go_sem]) (by simp [go_sem]) _ H).mono ?_
   rintro e w1 ⟨rfl,rfl⟩
   go_wp2_with fail
   go_ret2
   exact ⟨Zf (by simp only [addF,H.out];rfl) (by simp only [addF,H.out];rfl),(Ext.refl _).alloc _⟩
 · have H:=Lib.hid h
   have hb:=h
   simp only [Bool.and_eq_true,inR_iff] at hb
   obtain ⟨⟨h1,h2⟩,h3,h4⟩:=hb
   clear h
   go_enter Tryz.func150,Tryz.ntmps150
   go_wp2_with fail
   refine (X2 a b _ _ _ (by simp [go_sem]) (by simp [go_sem]) _ H).mono ?_
   rintro e w1 ⟨rfl,rfl⟩
   go_wp2_with fail
   refine (Zgy _ _).mono ?_
   rintro e w1 ⟨rfl,hx⟩
   go_wp2_with fail
   go_ret2
   exact ⟨Zf (by simp only [addF,H.out];rfl) (by simp only [addF,H.out];rfl),((Ext.refl _).alloc _).trans hx⟩
set_option maxHeartbeats 400000 in
theorem Zv9 (a b:Int) (w:World):
 Calls Tryz.prog 152 #[.int .i64 a,.int .i64 b] w fun e w'=>e= .returned (.tuple #[.int .i64 (subF a b).1,.int .i64 (subF a b).2])/\Ext w w':=by
 cases h:inR a&&inR b
 · have H:=Lib.hid h
   clear h
   go_enter Tryz.func152,Tryz.ntmps152
   go_wp2_with fail
   refine (X2 a b _ _ _ (by simp [go_sem]) (by simp [go_sem]) _ H).mono ?_
   rintro e w1 ⟨rfl,rfl⟩
   go_wp2_with fail
   go_ret2
   exact ⟨Zf (by simp only [subF,H.out];rfl) (by simp only [subF,H.out];rfl),(Ext.refl _).alloc _⟩
 · have H:=Lib.hid h
   have hb:=h
   simp only [Bool.and_eq_true,inR_iff] at hb
   obtain ⟨⟨h1,h2⟩,h3,h4⟩:=hb
   clear h
   go_enter Tryz.func152,Tryz.ntmps152
   go_wp2_with fail
   refine (X2 a b _ _ _ (by simp [go_sem]) (by simp [go_sem]) _ H).mono ?_
   rintro e w1 ⟨rfl,rfl⟩
   go_wp2_with fail
   refine (Zgy _ _).mono ?_
   rintro e w1 ⟨rfl,hx⟩
   go_wp2_with fail
   go_ret2
   exact ⟨Zf (by simp only [subF,H.out];rfl) (by simp only [subF,H.out];rfl),((Ext.refl _).alloc _).trans hx⟩
set_option maxHeartbeats 400000 in
theorem Zwa (x y:Nat) (hx:x<=9007199254740992) (hy:y<=9007199254740992) (w:World):
 Calls Tryz.prog 103 #[.int .u64 x,.int .u64 y] w fun e w'=>e= .returned (.tuple #[.int .u64 (x*y/18446744073709551616:Nat),.int .u64 (x*y%18446744073709551616:Nat)])/\w=w':=by
 go_enter Tryz.func103,Tryz.ntmps103
 go_wp2_with fail
 go_ret2
 refine ⟨Zf ?_ (Ya3 x y),rfl⟩
 rw [Zxz x (by omega),Zxz y (by omega)]
 have h:=Ya2 (x%4294967296) (x/4294967296) (y%4294967296) (y/4294967296) (by omega) (by omega) (by omega) (by omega)
 rw [Zxy x y]
 exact h
set_option maxHeartbeats 400000 in
theorem Zwb (a b:Int) (w:World):
 Calls Tryz.prog 153 #[.int .i64 a,.int .i64 b] w fun e w'=>e= .returned (.tuple #[.int .i64 (mulF a b).1,.int .i64 (mulF a b).2])/\Ext w w':=by
 cases h:inR a&&inR b
 · have H:=Lib.hid h
   clear h
   go_enter Tryz.func153,Tryz.ntmps153
   go_wp2_with fail
   refine (X2 a b _ _ _ (by simp [go_sem]) (by simp [go_sem]) _ H).mono ?_
   rintro e w1 ⟨rfl,rfl⟩
   go_wp2_with fail
   go_ret2
   exact ⟨Zf (by simp only [mulF,H.out];rfl) (by simp only [mulF,H.out];rfl),(Ext.refl _).alloc _⟩
 · have H:=Lib.hid h
   have hb:=h
   simp only [Bool.and_eq_true,inR_iff] at hb
   obtain ⟨⟨h1,h2⟩,h3,h4⟩:=hb
   clear h
   have hm:=Zqf h1 h2 h3 h4
   have hle:a.natAbs*b.natAbs<=9007199254740992*9007199254740992:=Nat.mul_le_mul (by omega) (by omega)
   have ha:=Zv7 a
   have hb:=Zv7 b
   have hM:=Zwa a.natAbs b.natAbs (by omega) (by omega)
   have HM:=Lib.hid hM
   have HA:=Lib.hid ha
   have HB:=Lib.hid hb
   clear ha hb hM
   have hab:inR (a*b)=true-> -9007199254740992<=a*b/\a*b<=9007199254740992:=inR_iff.1
   by_cases hz:a.natAbs*b.natAbs<=9007199254740992
   · have hin:inR (a*b)=true:=by rw [hm];simp [hz]
     have hx:=hab hin
     obtain ⟨hx1,hx2⟩:=hx
     have z1:((a.natAbs*b.natAbs/18446744073709551616:Nat):Int)=0:=by omega
     have z2:((a.natAbs*b.natAbs%18446744073709551616:Nat):Int)<=9007199254740992:=by omega
     have HI:=Lib.hid hin
     have Z1:=Lib.hid z1
     have Z2:=Lib.hid z2
     clear hin hm hab z1 z2 hz hle
     go_enter Tryz.func153,Tryz.ntmps153
     go_wp2_with fail
     refine (X2 a b _ _ _ (by simp [go_sem]) (by simp [go_sem]) _ H).mono ?_
     rintro e w1 ⟨rfl,rfl⟩
     go_wp2_with fail
     refine (HA.out _ h1 h2).mono ?_
     rintro e w1 ⟨rfl,rfl⟩
     go_wp2_with fail
     refine (HB.out _ h3 h4).mono ?_
     rintro e w1 ⟨rfl,rfl⟩
     go_wp2_with fail
     refine (HM.out _).mono ?_
     rw [Z1.out]
     have z2:=Z2.out
     generalize ((a.natAbs*b.natAbs%18446744073709551616:Nat):Int)=q at*
     rintro e w1 ⟨rfl,rfl⟩
     go_wp2_with fail
     go_ret2
     exact ⟨Zf (by simp only [mulF,H.out,rngF,HI.out];rfl) (by simp only [mulF,H.out,rngF,HI.out];rfl),(Ext.refl _).alloc _⟩
   · have hin:inR (a*b)=false:=by rw [hm];simp [hz]
     have HI:=Lib.hid hin
     clear hin hm hab
     generalize a.natAbs*b.natAbs=p at*
     have hp2:((p/18446744073709551616:Nat):Int)=0/\9007199254740992<((p%18446744073709551616:Nat):Int)\/0<((p/18446744073709551616:Nat):Int):=by omega
     generalize ((p/18446744073709551616:Nat):Int)=q1 at*
     generalize ((p%18446744073709551616:Nat):Int)=q2 at*
     clear hz hle
     rcases hp2 with ⟨rfl,hq⟩|hq
     all_goals
      go_enter Tryz.func153,Tryz.ntmps153
      go_wp2_with fail
      refine (X2 a b _ _ _ (by simp [go_sem]) (by simp [go_sem]) _ H).mono ?_
      rintro e w1 ⟨rfl,rfl⟩
      go_wp2_with fail
      refine (HA.out _ h1 h2).mono ?_
      rintro e w1 ⟨rfl,rfl⟩
      go_wp2_with fail
      refine (HB.out _ h3 h4).mono ?_
      rintro e w1 ⟨rfl,rfl⟩
      go_wp2_with fail
      refine (HM.out _).mono ?_
      rintro e w1 ⟨rfl,rfl⟩
      go_wp2_with fail
      go_ret2
      exact ⟨Zf (by simp only [mulF,H.out,rngF,HI.out];rfl) (by simp only [mulF,H.out,rngF,HI.out];rfl),(Ext.refl _).alloc _⟩
set_option maxHeartbeats 400000 in
theorem Zwc (a b m:Int) (w:World):
 Calls Tryz.prog 187 #[.int .i64 a,.int .i64 b,.int .i64 m] w fun e w'=>e= .returned (.tuple #[.int .i64 (divF a b m).1,.int .i64 (divF a b m).2])/\Ext w w':=by
 by_cases hm:m<8\/10<m
 · have HM:=Lib.hid hm
   have g1:(m !=8)=true:=by rw [bne_iff_ne];omega
   have g2:(m !=9)=true:=by rw [bne_iff_ne];omega
   have g3:(m !=10)=true:=by rw [bne_iff_ne];omega
   clear hm
   go_enter Tryz.func187,Tryz.ntmps187
   go_wp2_with fail
   go_ret2
   exact ⟨Zf (by simp only [divF,if_pos HM.out]) (by simp only [divF,if_pos HM.out]),Ext.refl _⟩
 · have HM:=Lib.hid hm
   have hm3:m=8\/m=9\/m=10:=by omega
   clear hm
   cases h:inR a&&inR b
   · have H:=Lib.hid h
     clear h
     rcases hm3 with rfl|rfl|rfl
     all_goals
      go_enter Tryz.func187,Tryz.ntmps187
      go_wp2_with fail
      refine (X2 a b _ _ _ (by simp [go_sem]) (by simp [go_sem]) _ H).mono ?_
      rintro e w1 ⟨rfl,rfl⟩
      go_wp2_with fail
      go_ret2
      exact ⟨Zf (by simp only [divF,if_neg HM.out,H.out];rfl) (by simp only [divF,if_neg HM.out,H.out];rfl),(Ext.refl _).alloc _⟩
   · have H:=Lib.hid h
     have hb:=h
     simp only [Bool.and_eq_true,inR_iff] at hb
     obtain ⟨⟨h1,h2⟩,h3,h4⟩:=hb
     clear h
     by_cases hb0:b<=0
     · have HB0:=Lib.hid hb0
       rcases hm3 with rfl|rfl|rfl
       all_goals
        go_enter Tryz.func187,Tryz.ntmps187
        go_wp2_with fail
        refine (X2 a b _ _ _ (by simp [go_sem]) (by simp [go_sem]) _ H).mono ?_
        rintro e w1 ⟨rfl,rfl⟩
        go_wp2_with fail
        go_ret2
        exact ⟨Zf (by simp only [divF,if_neg HM.out,H.out,if_pos HB0.out];rfl) (by simp only [divF,if_neg HM.out,H.out,if_pos HB0.out];rfl),(Ext.refl _).alloc _⟩
     · have HB0:=Lib.hid hb0
       have hb1:0<b:=by omega
       rcases hm3 with rfl|rfl|rfl
       · go_enter Tryz.func187,Tryz.ntmps187
         go_wp2_with fail
         refine (X2 a b _ _ _ (by simp [go_sem]) (by simp [go_sem]) _ H).mono ?_
         rintro e w1 ⟨rfl,rfl⟩
         go_wp2_with fail
         · have ht:a.tmod b<0:=by assumption
           go_ret2
           exact ⟨Zf (by rw [Zio hb1 ht];simp [divF,H.out,Int.not_le.2 hb1]) (by simp [divF,H.out,Int.not_le.2 hb1]),(Ext.refl _).alloc _⟩
         · have ht:0<=a.tmod b:=by assumption
           go_ret2
           exact ⟨Zf (by rw [Zfc hb1 ht];simp [divF,H.out,Int.not_le.2 hb1]) (by simp [divF,H.out,Int.not_le.2 hb1]),(Ext.refl _).alloc _⟩
       · go_enter Tryz.func187,Tryz.ntmps187
         go_wp2_with fail
         refine (X2 a b _ _ _ (by simp [go_sem]) (by simp [go_sem]) _ H).mono ?_
         rintro e w1 ⟨rfl,rfl⟩
         go_wp2_with fail
         · have ht:0<a.tmod b:=by assumption
           go_ret2
           exact ⟨Zf (by rw [Ya0 hb1 ht];simp [divF,H.out,Int.not_le.2 hb1]) (by simp [divF,H.out,Int.not_le.2 hb1]),(Ext.refl _).alloc _⟩
         · have ht:a.tmod b<=0:=by assumption
           go_ret2
           exact ⟨Zf (by rw [Ya1 hb1 ht];simp [divF,H.out,Int.not_le.2 hb1]) (by simp [divF,H.out,Int.not_le.2 hb1]),(Ext.refl _).alloc _⟩
       · go_enter Tryz.func187,Tryz.ntmps187
         go_wp2_with fail
         refine (X2 a b _ _ _ (by simp [go_sem]) (by simp [go_sem]) _ H).mono ?_
         rintro e w1 ⟨rfl,rfl⟩
         go_wp2_with fail
         · have ht:(2*a+b).tmod (2*b)<0:=by assumption
           go_ret2
           exact ⟨Zf (by rw [Zio (by omega) ht];simp [divF,H.out,Int.not_le.2 hb1]) (by simp [divF,H.out,Int.not_le.2 hb1]),(Ext.refl _).alloc _⟩
         · have ht:0<=(2*a+b).tmod (2*b):=by assumption
           go_ret2
           exact ⟨Zf (by rw [Zfc (by omega) ht];simp [divF,H.out,Int.not_le.2 hb1]) (by simp [divF,H.out,Int.not_le.2 hb1]),(Ext.refl _).alloc _⟩
set_option maxHeartbeats 400000 in
theorem Vn (a:Int) (w:World):
 Calls Tryz.prog 155 #[.int .i64 a] w fun e w'=>e= .returned (.bool (inR a))/\w=w':=by
 go_enter Tryz.func155,Tryz.ntmps155
 go_wp2_with fail
 all_goals go_ret
 all_goals exact ⟨Xy (by simp [inR];try omega),rfl⟩
set_option maxHeartbeats 400000 in
theorem Zc3 (a:Int) (w:World):
 Calls Tryz.prog 156 #[.int .i64 a] w fun e w'=>e= .returned (.tuple #[.int .i64 (rngF a).1,.int .i64 (rngF a).2])/\w=w':=by
 have hc:=Vn a
 cases h:inR a
 all_goals
  rw [h] at hc
  have H:=Lib.hid h
  have HC:=Lib.hid hc
  clear h hc
  go_enter Tryz.func156,Tryz.ntmps156
  go_wp2_with fail
  refine (HC.out _).mono ?_
  rintro e w1 ⟨rfl,rfl⟩
  go_wp2_with fail
  go_ret2
  exact ⟨Zf (by simp [rngF,H.out]) (by simp [rngF,H.out]),rfl⟩
set_option maxHeartbeats 400000 in
theorem Zpq (a:Int) (w:World) (h: -9007199254740992<=a) (h2:a<=9007199254740992):
 Calls Tryz.prog 157 #[.int .i64 a] w fun e w'=>e= .returned (.int .i64 a.natAbs)/\w=w':=by
 go_enter Tryz.func157,Tryz.ntmps157
 go_wp2_with fail
 all_goals go_ret
 all_goals exact ⟨Va (by omega),rfl⟩
set_option maxHeartbeats 400000 in
theorem Zr3 (a b:Int) (w:World) (h: -4503599627370496000<=a) (h2:a<=4503599627370496000) (hb:0<b) (hb2:b<=4503599627370496000):
 Calls Tryz.prog 158 #[.int .i64 a,.int .i64 b] w fun e w'=>e= .returned (.int .i64 (a/b))/\w=w':=by
 have q1:=(Zip _ hb h h2).1
 have q2:=(Zip _ hb h h2).2
 have p1:=(Zdc _ hb h h2).1
 have p2:=(Zdc _ hb h h2).2
 go_enter Tryz.func158,Tryz.ntmps158
 go_wp2_with fail
 · have ht:a<a.tdiv b*b:=by assumption
   go_ret
   exact ⟨Va (Zqe hb ht),rfl⟩
 · have ht:a.tdiv b*b<=a:=by assumption
   go_ret
   exact ⟨Va (Z2k hb ht),rfl⟩
set_option maxHeartbeats 400000 in
theorem Z04 (a b:Int) (w:World):
 Calls Tryz.prog 123 #[.int .i64 a,.int .i64 b] w fun e w'=>e= .returned (.tuple #[.int .i64 (addF a b).1,.int .i64 (addF a b).2])/\w=w':=by
 have ha:=Vn a
 have hb:=Vn b
 cases h:inR a
 · rw [h] at ha
   have H:=Lib.hid h
   have HA:=Lib.hid ha
   clear h ha hb
   go_enter Tryz.func123,Tryz.ntmps123
   go_wp2_with fail
   refine (HA.out _).mono ?_
   rintro e w1 ⟨rfl,rfl⟩
   go_wp2_with fail
   go_ret2
   exact ⟨Zf (by simp [addF,H.out]) (by simp [addF,H.out]),rfl⟩
 · have h1:=(inR_iff.1 h).1
   have h2:=(inR_iff.1 h).2
   rw [h] at ha
   have H:=Lib.hid h
   have HA:=Lib.hid ha
   clear h ha
   cases h:inR b
   · rw [h] at hb
     have HH:=Lib.hid h
     have HB:=Lib.hid hb
     clear h hb
     go_enter Tryz.func123,Tryz.ntmps123
     go_wp2_with fail
     refine (HA.out _).mono ?_
     rintro e w1 ⟨rfl,rfl⟩
     go_wp2_with fail
     refine (HB.out _).mono ?_
     rintro e w1 ⟨rfl,rfl⟩
     go_wp2_with fail
     go_ret2
     exact ⟨Zf (by simp [addF,H.out,HH.out]) (by simp [addF,H.out,HH.out]),rfl⟩
   · have h3:=(inR_iff.1 h).1
     have h4:=(inR_iff.1 h).2
     rw [h] at hb
     have HH:=Lib.hid h
     have HB:=Lib.hid hb
     clear h hb
     go_enter Tryz.func123,Tryz.ntmps123
     go_wp2_with fail
     refine (HA.out _).mono ?_
     rintro e w1 ⟨rfl,rfl⟩
     go_wp2_with fail
     refine (HB.out _).mono ?_
     rintro e w1 ⟨rfl,rfl⟩
     go_wp2_with fail
     refine (Zc3 _ _).mono ?_
     rintro e w1 ⟨rfl,rfl⟩
     go_wp2_with fail
     go_ret2
     exact ⟨Zf (by simp [addF,H.out,HH.out]) (by simp [addF,H.out,HH.out]),rfl⟩
set_option maxHeartbeats 400000 in
theorem Z05 (a b:Int) (w:World):
 Calls Tryz.prog 124 #[.int .i64 a,.int .i64 b] w fun e w'=>e= .returned (.tuple #[.int .i64 (subF a b).1,.int .i64 (subF a b).2])/\w=w':=by
 have ha:=Vn a
 have hb:=Vn b
 cases h:inR a
 · rw [h] at ha
   have H:=Lib.hid h
   have HA:=Lib.hid ha
   clear h ha hb
   go_enter Tryz.func124,Tryz.ntmps124
   go_wp2_with fail
   refine (HA.out _).mono ?_
   rintro e w1 ⟨rfl,rfl⟩
   go_wp2_with fail
   go_ret2
   exact ⟨Zf (by simp [subF,H.out]) (by simp [subF,H.out]),rfl⟩
 · have h1:=(inR_iff.1 h).1
   have h2:=(inR_iff.1 h).2
   rw [h] at ha
   have H:=Lib.hid h
   have HA:=Lib.hid ha
   clear h ha
   cases h:inR b
   · rw [h] at hb
     have HH:=Lib.hid h
     have HB:=Lib.hid hb
     clear h hb
     go_enter Tryz.func124,Tryz.ntmps124
     go_wp2_with fail
     refine (HA.out _).mono ?_
     rintro e w1 ⟨rfl,rfl⟩
     go_wp2_with fail
     refine (HB.out _).mono ?_
     rintro e w1 ⟨rfl,rfl⟩
     go_wp2_with fail
     go_ret2
     exact ⟨Zf (by simp [subF,H.out,HH.out]) (by simp [subF,H.out,HH.out]),rfl⟩
   · have h3:=(inR_iff.1 h).1
     have h4:=(inR_iff.1 h).2
     rw [h] at hb
     have HH:=Lib.hid h
     have HB:=Lib.hid hb
     clear h hb
     go_enter Tryz.func124,Tryz.ntmps124
     go_wp2_with fail
     refine (HA.out _).mono ?_
     rintro e w1 ⟨rfl,rfl⟩
     go_wp2_with fail
     refine (HB.out _).mono ?_
     rintro e w1 ⟨rfl,rfl⟩
     go_wp2_with fail
     refine (Zc3 _ _).mono ?_
     rintro e w1 ⟨rfl,rfl⟩
     go_wp2_with fail
     go_ret2
     exact ⟨Zf (by simp [subF,H.out,HH.out]) (by simp [subF,H.out,HH.out]),rfl⟩
set_option maxHeartbeats 400000 in
theorem Z06 (a b:Int) (w:World):
 Calls Tryz.prog 125 #[.int .i64 a,.int .i64 b] w fun e w'=>e= .returned (.tuple #[.int .i64 (mulF a b).1,.int .i64 (mulF a b).2])/\w=w':=by
 have ha:=Vn a
 have hb:=Vn b
 cases h:inR a
 · rw [h] at ha
   have H:=Lib.hid h
   have HA:=Lib.hid ha
   clear h ha hb
   go_enter Tryz.func125,Tryz.ntmps125
   go_wp2_with fail
   refine (HA.out _).mono ?_
   rintro e w1 ⟨rfl,rfl⟩
   go_wp2_with fail
   go_ret2
   exact ⟨Zf (by simp [mulF,H.out]) (by simp [mulF,H.out]),rfl⟩
 · have h1:=(inR_iff.1 h).1
   have h2:=(inR_iff.1 h).2
   rw [h] at ha
   have H:=Lib.hid h
   have HA:=Lib.hid ha
   clear h ha
   cases h:inR b
   · rw [h] at hb
     have HH:=Lib.hid h
     have HB:=Lib.hid hb
     clear h hb
     go_enter Tryz.func125,Tryz.ntmps125
     go_wp2_with fail
     refine (HA.out _).mono ?_
     rintro e w1 ⟨rfl,rfl⟩
     go_wp2_with fail
     refine (HB.out _).mono ?_
     rintro e w1 ⟨rfl,rfl⟩
     go_wp2_with fail
     go_ret2
     exact ⟨Zf (by simp [mulF,H.out,HH.out]) (by simp [mulF,H.out,HH.out]),rfl⟩
   · have h3:=(inR_iff.1 h).1
     have h4:=(inR_iff.1 h).2
     rw [h] at hb
     have HH:=Lib.hid h
     have HB:=Lib.hid hb
     clear h hb
     have hx:=Zqf h1 h2 h3 h4
     have e0:(a==0)=false\/a=0:=by
      rcases Int.decEq a 0 with h|h
      · exact .inl (by simpa using h)
      · exact .inr h
     rcases e0 with e0|rfl
     · have e1:(a !=0)=true:=by simpa using e0
       have e2:a.natAbs≠0:=by simpa using e0
       have e3:(1:Int)<=(a.natAbs:Int):=by omega
       have hq:(9007199254740992/(a.natAbs:Int)<(b.natAbs:Int))↔¬a.natAbs*b.natAbs<=9007199254740992:=by
        have:=Nat.le_div_iff_mul_le (k:=a.natAbs) (x:=b.natAbs) (y:=9007199254740992) (by omega)
        have hc:((9007199254740992/a.natAbs:Nat):Int)=9007199254740992/(a.natAbs:Int):=Int.natCast_ediv _ _
        rw [Nat.mul_comm a.natAbs,<-this,<-hc,Int.ofNat_lt]
        omega
       have hra:=Zpq a
       have hrb:=Zpq b
       have HRA:=Lib.hid hra
       have HRB:=Lib.hid hrb
       clear hra hrb e0 e2
       by_cases hz:a.natAbs*b.natAbs<=9007199254740992
       · have hin:inR (a*b)=true:=by rw [hx];simp [hz]
         have p1:=(inR_iff.1 hin).1
         have p2:=(inR_iff.1 hin).2
         have hq2:¬9007199254740992/(a.natAbs:Int)<(b.natAbs:Int):=fun h=>(hq.1 h) hz
         have hq3:(b.natAbs:Int)<=9007199254740992/(a.natAbs:Int):=Int.not_lt.1 hq2
         have HI:=Lib.hid hin
         clear hin hx hq hz hq2
         go_enter Tryz.func125,Tryz.ntmps125
         go_wp2_with fail
         refine (HA.out _).mono ?_
         rintro e w1 ⟨rfl,rfl⟩
         go_wp2_with fail
         refine (HB.out _).mono ?_
         rintro e w1 ⟨rfl,rfl⟩
         go_wp2_with fail
         refine (HRB.out _ h3 h4).mono ?_
         rintro e w1 ⟨rfl,rfl⟩
         go_wp2_with fail
         refine (HRA.out _ h1 h2).mono ?_
         generalize (b.natAbs:Int)=nb at*
         generalize (a.natAbs:Int)=na at*
         rintro e w1 ⟨rfl,rfl⟩
         go_wp2_with fail
         go_ret2
         exact ⟨Zf (by simp [mulF,H.out,HH.out,rngF,HI.out]) (by simp [mulF,H.out,HH.out,rngF,HI.out]),rfl⟩
       · have hin:inR (a*b)=false:=by rw [hx];simp [hz]
         have hq2:9007199254740992/(a.natAbs:Int)<(b.natAbs:Int):=hq.2 hz
         have HI:=Lib.hid hin
         clear hin hx hq hz
         go_enter Tryz.func125,Tryz.ntmps125
         go_wp2_with fail
         refine (HA.out _).mono ?_
         rintro e w1 ⟨rfl,rfl⟩
         go_wp2_with fail
         refine (HB.out _).mono ?_
         rintro e w1 ⟨rfl,rfl⟩
         go_wp2_with fail
         refine (HRB.out _ h3 h4).mono ?_
         rintro e w1 ⟨rfl,rfl⟩
         go_wp2_with fail
         refine (HRA.out _ h1 h2).mono ?_
         generalize (b.natAbs:Int)=nb at*
         generalize (a.natAbs:Int)=na at*
         rintro e w1 ⟨rfl,rfl⟩
         go_wp2_with fail
         go_ret2
         exact ⟨Zf (by simp [mulF,H.out,HH.out,rngF,HI.out]) (by simp [mulF,H.out,HH.out,rngF,HI.out]),rfl⟩
     · clear hx
       go_enter Tryz.func125,Tryz.ntmps125
       go_wp2_with fail
       refine (HA.out _).mono ?_
       rintro e w1 ⟨rfl,rfl⟩
       go_wp2_with fail
       refine (HB.out _).mono ?_
       rintro e w1 ⟨rfl,rfl⟩
       go_wp2_with fail
       go_ret2
       exact ⟨Zf (by simp [mulF,H.out,HH.out,rngF]) (by simp [mulF,H.out,HH.out,rngF]),rfl⟩
set_option maxHeartbeats 400000 in
theorem Z07 (a b m:Int) (w:World) :
    Calls Tryz.prog 126 #[.int .i64 a,.int .i64 b,.int .i64 m] w fun e w'=>e=.returned (.tuple #[.int .i64 (divF a b m).1,.int .i64 (divF a b m).2])/\w=w':=by
  by_cases hm:m<8\/10<m
  · have HM:=Lib.hid hm
    rcases hm with hm | hm
    all_goals
      go_enter Tryz.func126,Tryz.ntmps126
      go_wp2_with fail
      go_ret2
      exact ⟨Zf (by simp only [divF,if_pos HM.out]) (by simp only [divF,if_pos HM.out]),rfl⟩
  · have HM:=Lib.hid hm
    have hm3:m=8\/m=9\/m=10:=by omega
    clear hm
    have ha:=Vn a
    have hb:=Vn b
    cases h:inR a
    · rw [h] at ha
      have H:=Lib.hid h
      have HA:=Lib.hid ha
      clear h ha hb
      rcases hm3 with rfl | rfl | rfl
      all_goals
        go_enter Tryz.func126,Tryz.ntmps126
        go_wp2_with fail
        refine (HA.out _).mono ?_
        rintro e w1 ⟨rfl,rfl⟩
        go_wp2_with fail
        go_ret2
        exact ⟨Zf (by simp [divF,H.out]) (by simp [divF,H.out]),rfl⟩
    · have h1:=(inR_iff.1 h).1
      have h2:=(inR_iff.1 h).2
      rw [h] at ha
      have H:=Lib.hid h
      have HA:=Lib.hid ha
      clear h ha
      cases h:inR b
      · rw [h] at hb
        have HH:=Lib.hid h
        have HB:=Lib.hid hb
        clear h hb
        rcases hm3 with rfl | rfl | rfl
        all_goals
          go_enter Tryz.func126,Tryz.ntmps126
          go_wp2_with fail
          refine (HA.out _).mono ?_
          rintro e w1 ⟨rfl,rfl⟩
          go_wp2_with fail
          refine (HB.out _).mono ?_
          rintro e w1 ⟨rfl,rfl⟩
          go_wp2_with fail
          go_ret2
          exact ⟨Zf (by simp [divF,H.out,HH.out]) (by simp [divF,H.out,HH.out]),rfl⟩
      · have h3:=(inR_iff.1 h).1
        have h4:=(inR_iff.1 h).2
        rw [h] at hb
        have HH:=Lib.hid h
        have HB:=Lib.hid hb
        clear h hb
        by_cases hb0:b<=0
        · have HB0:=Lib.hid hb0
          rcases hm3 with rfl | rfl | rfl
          all_goals
            go_enter Tryz.func126,Tryz.ntmps126
            go_wp2_with fail
            refine (HA.out _).mono ?_
            rintro e w1 ⟨rfl,rfl⟩
            go_wp2_with fail
            refine (HB.out _).mono ?_
            rintro e w1 ⟨rfl,rfl⟩
            go_wp2_with fail
            go_ret2
            exact ⟨Zf (by simp [divF,H.out,HH.out,HB0.out]) (by simp [divF,H.out,HH.out,HB0.out]),rfl⟩
        · have hb1:0<b:=by omega
          clear hb0
          rcases hm3 with rfl | rfl | rfl
          all_goals
            go_enter Tryz.func126,Tryz.ntmps126
            go_wp2_with fail
            refine (HA.out _).mono ?_
            rintro e w1 ⟨rfl,rfl⟩
            go_wp2_with fail
            refine (HB.out _).mono ?_
            rintro e w1 ⟨rfl,rfl⟩
            go_wp2_with fail
            refine (Zr3 _ _ _ (by omega) (by omega) (by omega) (by omega)).mono ?_
            rintro e w1 ⟨rfl,rfl⟩
            first
              | (have q1:=(Zdx _ (show 0<b by omega) h1 h2).1
                 have q2:=(Zdx _ (show 0<b by omega) h1 h2).2
                 have q3:=(Zdx (a:=-a) 9007199254740992 (show 0<b by omega) (by omega) (by omega)).1
                 have q4:=(Zdx (a:=-a) 9007199254740992 (show 0<b by omega) (by omega) (by omega)).2)
            go_wp2_with fail
            go_ret2
            exact ⟨Zf (by simp [divF,H.out,HH.out,Int.not_le.2 hb1]) (by simp [divF,H.out,HH.out,Int.not_le.2 hb1]),rfl⟩
end
section
open Go.RowKit
section
variable {P:Program} {ops:Array Oper} {Q:Exit->Act->World->Prop} {S:World->Prop}
def ordB (ops:Array Oper):List (Nat×Bool)->Array Bool->Bool
 | [],listed=>(Region.ready .any ops listed).isEmpty
 |(i,true)::r,listed=>(Region.ready .any ops listed).contains i&&Region.free .any ops listed i&&ordB ops r (listed.setIfInBounds i true)
 |(i,false)::r,listed=>decide (Region.ready .any ops listed= [i])&&ordB ops r (listed.setIfInBounds i true)
def Zo3 (P:Program) (ops:Array Oper) (Q:Exit->Act->World->Prop) (S:World->Prop):List (Nat×Bool)->Act->World->Prop
 | [],a,w=>Q .normal a w
 |(i,true)::r,a,w=>∃o v,ops[i]? =some o/\YieldsIf P ops S o v a/\Zo3 P ops Q S r (a.put o.dst v) w
 |(i,false)::r,a,w=>∃o,ops[i]? =some o/\Region.wanted o (yielded ops a.tmps)=true/\o.wp P a w (fun a' w'=>S w'/\Zo3 P ops Q S r a' w') Q
theorem V0 (hsel:Region.noSelect ops=true):
 ∀(ord:List (Nat×Bool)) (listed:Array Bool) (a:Act) (w:World),(∀p∈ord,p.2=true->∀o,ops[p.1]? =some o->∀c a w v,Q (.panic c) (a.put o.dst v) w->Q (.panic c) a w)->
  ordB ops ord listed=true->S w->Zo3 P ops Q S ord a w->wpAnyH P .any ops Q S ord.length listed a w
 | [],listed,a,w,hQ,hB,hS,h=>wpAnyH_done (by simpa [ordB] using hB) h 0
 |(i,true)::r,listed,a,w,hQ,hB,hS,h=>by
  simp only [ordB,Bool.and_eq_true] at hB
  obtain ⟨o,v,ho,hy,h⟩:=h
  exact wpAnyH_take ho hsel hB.1.2 hB.1.1 (fun c a w hq=>hQ (i,true) (by simp) rfl o ho c a w _ hq) hy hS (V0 hsel r _ _ _ (fun p hp=>hQ p (by simp [hp])) hB.2 hS h)
 |(i,false)::r,listed,a,w,hQ,hB,hS,h=>by
  simp only [ordB,Bool.and_eq_true,decide_eq_true_eq] at hB
  obtain ⟨o,ho,hw,h⟩:=h
  refine wpAnyH_all hB.1 (by simp) fun j hj=> ?_
  obtain rfl:j=i:=by simpa using hj
  unfold wpOp
  simp only [ho,hw,if_true]
  refine .inl (Oper.wp_mono ?_ h)
  intro a' w' ⟨hS',h'⟩
  exact ⟨hS',V0 hsel r _ _ _ (fun p hp=>hQ p (by simp [hp])) hB.2 hS' h'⟩
theorem Zat {id:Nat} {a:Act} {w:World} {l:List Oper} (ord:List (Nat×Bool)) (S:World->Prop) (hm:P.follows .mixedOrders=true)
 (hB:(Region.noSelect l.toArray&&decide (ord.length=l.length)&&ordB l.toArray ord (Array.replicate l.toArray.size false))=true)
 (hQ:∀p∈ord,p.2=true->∀o,l.toArray[p.1]? =some o->∀c a w v,Q (.panic c) (a.put o.dst v) w->Q (.panic c) a w) (hS:S w.drew) (h:Zo3 P l.toArray Q S ord a w.drew):(Code.region id l.toArray true).wp P Q a w:=by
 simp only [Bool.and_eq_true,decide_eq_true_eq] at hB
 refine wp_region_held_drew (S:=S) hm hS fun hS=> ?_
 have:=V0 (Q:=Q) hB.1.1 ord _ a w.drew hQ hB.2 hS h
 rw [hB.1.2] at this
 simpa using this
theorem Zjr {id:Nat} {a:Act} {w:World} {l:List Oper} (ord:List (Nat×Bool)) (S:World->Prop) (hm:P.follows .mixedOrders=true)
 (hB:(Region.noSelect l.toArray&&decide (ord.length=l.length)&&ordB l.toArray ord (Array.replicate l.toArray.size false))=true)
 (hQ:∀c a w d v,Q (.panic c) (a.put d v) w->Q (.panic c) a w) (hS:S w.drew) (h:Zo3 P l.toArray Q S ord a w.drew):(Code.region id l.toArray true).wp P Q a w:=
 Zat ord S hm hB (fun _ _ _ _ _ c a w v hq=>hQ c a w _ v hq) hS h
theorem Zjs {o:Oper} {a:Act} {v:Value} (h:Region.wanted o (yielded ops a.tmps)=true) (hr:∀w,S w->(execOp a.eval o).run P w= .ok (.value v) w):YieldsIf P ops S o v a:= .inl ⟨h,hr⟩
end
end
section
open Go.RowKit
theorem X9:(Tryz.prog.info? 53).map (·.size)=some 17:=by kernel_rfl
theorem Ev.cell (x:Ev) (hx:x.ok) (a:Nat) (ha:a<16):x.cells[1+a]? =some (.int .i64 (x.v.getD a 0)):=by
 have h:a<x.v.length:=by rw [hx.1];exact ha
 rw [Nat.add_comm]
 simp [Ev.cells,h]
theorem ExIn.nth {w:World} {d:Nat} {cs:List Value} {e:Ex} (h:ExIn w d cs e) (i:Nat) (hi:i<e.l.length):
 ∃b o cap u0 u1 u2 u3 cs',cs= [.int .i64 e.op,.int .i64 e.n,.int .i64 u0,.int .i64 u1,.int .i64 u2,.int .i64 u3,.slice (some ⟨b,o,none⟩) e.l.length cap]/\e.l.length<=cap/\
  b<w.heap.size/\cs'.length=7/\w.rangeAt b (o+i*7) cs'/\ExIn w (d-1) cs' (e.l.getD i exT0):=by
 obtain ⟨A,cap,u0,u1,u2,u3,rfl,_,_,_,hc,hel⟩:=h.open_
 obtain ⟨b,o,rfl,hb,hi'⟩:=hel (by omega)
 obtain ⟨cs',h1,h2,h3⟩:=hi' i e.l[i] (gB9 hi)
 exact ⟨b,o,cap,u0,u1,u2,u3,cs',rfl,hc,hb,h1,h2,by simpa [List.getD,hi] using h3⟩
end
section
open Go.RowKit
section
variable {P:Program} {ops:Array Oper} {Q:Exit->Act->World->Prop} {a:Act} {rest:List Oper} {o:Oper}
theorem V3 (b:Bool) (n kt:Nat) (k:Int) (w:World) (hkt:P.underlying kt=some (.int .i64)):(Instr.checkKey b (n+1) kt (.int .i64 k)).run P w= .ok () w:=by
 unfold Instr.checkKey
 rw [Sem.run_bind,run_underlying hkt w]
 rfl
theorem Ux (kt:Nat) (k:Int) (es:List MapEntry) (res:Option (Nat×Value)) (w:World) (hkt:P.underlying kt=some (.int .i64)) (hf:Instr.findNow (.int .i64) (.int .i64 k) es 0=some res):
 (Instr.findKey kt (.int .i64 k) es).run P w= .ok res w:=by
 unfold Instr.findKey
 rw [Sem.run_bind,run_underlying hkt w]
 simp only [Result.andThen_ok,hf]
 rfl
theorem Zas (w:World) (r:Nat) (es:Array MapEntry) (c:Nat) (hg:w.heap[r]? =some (.map es c)):(getObj r).run P w= .ok (.map es c) w:=by
 simp [getObj,Sem.run,hg]
theorem Zf7 (w1:World) (T kt et:TypeId) (es:Array MapEntry) (c:Nat) (k:Int) (v:Value) (r:Nat) (hr:r=w1.heap.size) (hT:P.underlying T=some (.map kt et)) (hkt:P.underlying kt=some (.int .i64))
 (hf:Instr.findNow (.int .i64) (.int .i64 k) es.toList 0=some none):
 (Instr.mapUpdate T (.map (some r)) (.int .i64 k) v).run P (w1.alloc (.map es c))= .ok () (w1.alloc (.map (es.push ⟨.int .i64 k,v,c⟩) (c+1))):=by
 subst hr
 have hg:(w1.alloc (.map es c)).heap[w1.heap.size]? =some (.map es c):=heap_alloc_new w1 _
 have hs:({(w1.alloc (.map es c)) with heap:=(w1.alloc (.map es c)).heap.setIfInBounds w1.heap.size (.map (es.push ⟨.int .i64 k,v,c⟩) (c+1))}:World)=w1.alloc (.map (es.push ⟨.int .i64 k,v,c⟩) (c+1)):=by
  have he:(w1.alloc (.map es c)).heap.setIfInBounds w1.heap.size (.map (es.push ⟨.int .i64 k,v,c⟩) (c+1))=(w1.alloc (.map (es.push ⟨.int .i64 k,v,c⟩) (c+1))).heap:=by
   apply Array.ext_getElem?
   intro i
   show ((w1.heap.push _).setIfInBounds _ _)[i]? =(w1.heap.push _)[i]?
   rw [Array.getElem?_setIfInBounds,Array.getElem?_push,Array.getElem?_push]
   by_cases hi:w1.heap.size=i
   · subst hi;simp
   · rw [if_neg hi,if_neg (by omega),if_neg (by omega)]
  rw [he]
  rfl
 unfold Instr.mapUpdate
 rw [Sem.run_bind,run_underlying hT]
 simp only [Result.andThen_ok]
 rw [Sem.run_bind,Zas _ _ _ _ hg]
 simp only [Result.andThen_ok]
 rw [Sem.run_bind,V3 false 9999 kt k _ hkt]
 simp only [Result.andThen_ok]
 rw [Sem.run_bind,Ux kt k _ none _ hkt hf]
 simp only [Result.andThen_ok]
 rw [<-hs]
 simp only [setObj,Sem.run,hg]
theorem Zci (hgd:o.guard=none) (T:TypeId) (m kx vx:Operand) (ho:o.op= .insert T m kx vx) (w1:World) (kt et:TypeId) (es:Array MapEntry) (c:Nat) (k:Int) (v:Value) (r:Nat)
 (hm:a.eval m= .map (some r)) (hr:r=w1.heap.size) (hk:a.eval kx= .int .i64 k) (hv:a.eval vx=v) (hT:P.underlying T=some (.map kt et)) (hkt:P.underlying kt=some (.int .i64))
 (hf:Instr.findNow (.int .i64) (.int .i64 k) es.toList 0=some none)
 (h:wpList P ops Q rest (a.put o.dst undef) (w1.alloc (.map (es.push ⟨.int .i64 k,v,c⟩) (c+1)))):wpList P ops Q (o::rest) a (w1.alloc (.map es c)):=
 wpList_plain hgd fun K hK=>by
  unfold Oper.wp execOp
  simp only [ho,hm,hk,hv,Sem.run_bind,Zf7 w1 T kt et es c k v r hr hT hkt hf,Result.andThen_ok,Sem.run_pure]
  exact hK _ _ h
theorem Zjl (w:World) (T kt et:TypeId) (es:Array MapEntry) (c:Nat) (k:Int) (v:Value) (i r:Nat) (hT:P.underlying T=some (.map kt et)) (hkt:P.underlying kt=some (.int .i64))
 (hg:w.heap[r]? =some (.map es c)) (hf:Instr.findNow (.int .i64) (.int .i64 k) es.toList 0=some (some (i,v))):
 (Instr.lookup T (.map (some r)) (.int .i64 k) false).run P w= .ok v w:=by
 unfold Instr.lookup
 rw [Sem.run_bind,run_underlying hT]
 simp only [Result.andThen_ok]
 rw [Sem.run_bind,Zas _ _ _ _ hg]
 simp only [Result.andThen_ok]
 rw [Sem.run_bind]
 simp only [Sem.run_pure,Result.andThen_ok]
 rw [Sem.run_bind,V3 _ 9999 kt k _ hkt]
 simp only [Result.andThen_ok]
 rw [Sem.run_bind,Ux kt k _ _ _ hkt hf]
 rfl
theorem Zue {W:World} (hw:Region.wanted o (yielded ops a.tmps)=true) (T:TypeId) (m kx:Operand) (ho:o.op= .lookup T m kx false) (kt et:TypeId) (es:Array MapEntry) (c:Nat) (k:Int) (v:Value) (i r:Nat)
 (hm:a.eval m= .map (some r)) (hk:a.eval kx= .int .i64 k) (hT:P.underlying T=some (.map kt et)) (hkt:P.underlying kt=some (.int .i64))
 (hg:W.heap[r]? =some (.map es c)) (hr:r<W.heap.size) (hf:Instr.findNow (.int .i64) (.int .i64 k) es.toList 0=some (some (i,v))):YieldsIf P ops (Ext W) o v a:=
 .inl ⟨hw,fun w h=>by
  unfold execOp
  simp only [ho,hm,hk,Sem.run_bind,Zjl w T kt et es c k v i r hT hkt ((h.block hr).trans hg) hf,Result.andThen_ok,Sem.run_pure]⟩
end
end
section
open Go.RowKit
def Z1w (X:Nat):Array MapEntry:= #[⟨.int .i64 3,.func (.func 113) #[.pointer (some ⟨X,0,none⟩)] #[],0⟩,⟨.int .i64 4,.func (.func 114) #[.pointer (some ⟨X,0,none⟩)] #[],1⟩,⟨.int .i64 5,.func (.func 115) #[.pointer (some ⟨X,0,none⟩)] #[],2⟩,⟨.int .i64 6,.func (.func 116) #[.pointer (some ⟨X,0,none⟩)] #[],3⟩,⟨.int .i64 7,.func (.func 117) #[.pointer (some ⟨X,0,none⟩)] #[],4⟩,⟨.int .i64 8,.func (.func 118) #[.pointer (some ⟨X,0,none⟩)] #[],5⟩,⟨.int .i64 9,.func (.func 119) #[.pointer (some ⟨X,0,none⟩)] #[],6⟩,⟨.int .i64 10,.func (.func 120) #[.pointer (some ⟨X,0,none⟩)] #[],7⟩,⟨.int .i64 11,.func (.func 121) #[.pointer (some ⟨X,0,none⟩)] #[],8⟩]
def EvAt (w:World) (X:Nat) (x:Ev):Prop:=∃M,w.heap[X]? =some (.cells (x.cells++ [Value.map (some M)]).toArray 170 (0,0))/\w.heap[M]? =some (.map (Z1w X) 9)
theorem EvAt.ext {w w':World} (hx:Ext w w') {X:Nat} {x:Ev} (h:EvAt w X x):EvAt w' X x:=by
 obtain ⟨M,h1,h2⟩:=h
 have lt:∀{k:Nat} {o:Obj},w.heap[k]? =some o->k<w.heap.size:=fun {k o} h=>by
  rcases Nat.lt_or_ge k w.heap.size with h'|h'
  · exact h'
  · rw [Array.getElem?_eq_none h'] at h;cases h
 exact ⟨M,(hx.block (lt h1)).trans h1,(hx.block (lt h2)).trans h2⟩
theorem Z80 (w:World) (A B C:Obj):(((w.alloc A).alloc B).alloc C).heap[w.heap.size+1]? =some B/\(((w.alloc A).alloc B).alloc C).heap[w.heap.size+1+1]? =some C:=by
 constructor
 · show (((w.heap.push A).push B).push C)[w.heap.size+1]? =_
   rw [Array.getElem?_push,if_neg (by simp),Array.getElem?_push,if_pos (by simp)]
 · show (((w.heap.push A).push B).push C)[w.heap.size+1+1]? =_
   rw [Array.getElem?_push,if_pos (by simp)]
theorem Znu (cs:List Value):∀(k:Nat) (A:Array Value),k+cs.length<=A.size->
 (cs.zipIdx k).foldl (fun cs x=>cs.setIfInBounds x.2 x.1) A=(A.toList.take k++cs++A.toList.drop (k+cs.length)).toArray:=by
 induction cs with
 |nil=>intro k A _;simp
 |cons c cs ih=>
  intro k A h
  simp only [List.length_cons] at h
  rw [List.zipIdx_cons,List.foldl_cons,ih (k+1) _ (by simp;omega)]
  have hk:k<A.toList.length:=by simp;omega
  congr 1
  simp only [Array.toList_setIfInBounds,List.length_cons]
  rw [List.take_succ_eq_append_getElem (by simpa using hk),List.take_set_of_le (by omega),List.getElem_set_self,List.drop_set_of_lt (by omega)]
  simp [Nat.add_assoc,Nat.add_comm 1]
set_option maxHeartbeats 1000000 in
theorem Zk2 (x:Ev) (w:World) (hx:x.ok):
 Calls Tryz.prog 77 #[.agg x.cells.toArray] w fun en w'=>en= .returned (.pointer (some ⟨w.heap.size+1,0,none⟩))/\Ext w w'/\EvAt w' (w.heap.size+1) x:=by
 have hmm:= @run_makeMap Tryz.prog
 have hmf:∀(fn:Fn) (first cap:Array Value) (w:World),(Instr.makeFunc fn first cap).run Tryz.prog w= .ok (.func fn first cap) w:=fun _ _ _ _=>rfl
 have hxl:x.cells.length=17:=by simp [Ev.cells,hx.1]
 have hxr:(w.alloc (.cells x.cells.toArray 53)).rangeAt (w.heap.size) 0 x.cells:=by
  intro j v hv;simp [go_sem,hv]
 generalize hcs:x.cells=cs at*
 have HCS:=Lib.hid hcs
 clear hcs
 have hfold:cs.zipIdx.foldl (fun cs x=>cs.setIfInBounds x.2 x.1) #[Value.int .i64 0,.int .i64 0,.int .i64 0,.int .i64 0,.int .i64 0,.int .i64 0,.int .i64 0,.int .i64 0,.int .i64 0,.int .i64 0,.int .i64 0,.int .i64 0,.int .i64 0,.int .i64 0,.int .i64 0,.int .i64 0,.int .i64 0,Value.map none]=(cs++ [Value.map none]).toArray:=by
  have:=Znu cs 0 #[Value.int .i64 0,.int .i64 0,.int .i64 0,.int .i64 0,.int .i64 0,.int .i64 0,.int .i64 0,.int .i64 0,.int .i64 0,.int .i64 0,.int .i64 0,.int .i64 0,.int .i64 0,.int .i64 0,.int .i64 0,.int .i64 0,.int .i64 0,Value.map none] (by rw [hxl];decide)
  rw [this,hxl]
  rfl
 go_enter Tryz.func77,Tryz.ntmps77
 go_wp2_with (first
  |(refine wpList_load_mid rfl 53 _ rfl (w.heap.size) 0 rfl cs _ hxr Tryz.underlying53 rfl (by rw [hxl];exact X9) ?_)
  |(refine Zci rfl 168 _ _ _ rfl _ _ _ _ _ _ _ _ rfl (by simp) rfl rfl Tryz.underlying168 Tryz.underlying3 rfl ?_))
 go_ret
 refine ⟨rfl,(((Ext.refl _).alloc _).alloc _).alloc _,w.heap.size+1+1,?_,?_⟩
 · rw [HCS.out]
   exact (Z80 w _ _ _).1
 · exact (Z80 w _ _ _).2
def Zw6 (e:Int):Value:= .iface 167 (.agg #[.int .i64 e])
def Zc9 (e:Int):List PanicEntry:= [{v:=Zw6 e,recovered:=false}]
def Outc (r:Int×Int) (en:Ending):Prop:=(r.2=0/\en= .returned (.int .i64 r.1))\/(r.2≠0/\en= .panicked (Zc9 r.2))
set_option maxHeartbeats 1000000 in
theorem Zih (n:Int) (w:World):Calls Tryz.prog 149 #[.int .i64 n,.int .i64 0] w fun en w'=>en= .returned (.int .i64 n)/\w=w':=by
 go_enter Tryz.func149,Tryz.ntmps149
 go_wp2_with fail
 go_ret
 exact ⟨rfl,rfl⟩
set_option maxHeartbeats 1000000 in
theorem Zdw (n e:Int) (he:(e !=0)=true) (w:World):Calls Tryz.prog 149 #[.int .i64 n,.int .i64 e] w fun en w'=>en= .panicked (Zc9 e)/\w=w':=by
 go_enter Tryz.func149,Tryz.ntmps149
 go_wp2_with fail
 exact ⟨rfl,rfl,rfl⟩
theorem EvAt.cell0 {w:World} {X:Nat} {x:Ev} (h:EvAt w X x):w.cell? ⟨X,0,none⟩=some (.int .i64 x.has):=by
 obtain ⟨M,h1,h2⟩:=h
 rw [cell_of_row w X 0 _ _ _ h1];rfl
theorem EvAt.cell {w:World} {X:Nat} {x:Ev} (h:EvAt w X x) (hx:x.ok) (a:Nat) (ha:a<16):w.cell? ⟨X,1+a,none⟩=some (.int .i64 (x.v.getD a 0)):=by
 obtain ⟨M,h1,h2⟩:=h
 have h3:=x.cell hx a ha
 have hl:1+a<x.cells.length:=(gA9.1 h3).1
 rw [cell_of_row w X (1+a) _ _ _ h1,List.getElem?_toArray,List.getElem?_append_left hl]
 exact h3
theorem EvAt.frame {w:World} {X:Nat} {x:Ev} (h:EvAt w X x) (hx:x.ok):∃M,w.cell? ⟨X,17,none⟩=some (.map (some M))/\w.heap[M]? =some (.map (Z1w X) 9):=by
 obtain ⟨M,h1,h2⟩:=h
 refine ⟨M,?_,h2⟩
 have hl:x.cells.length=17:=by simp [Ev.cells,hx.1]
 rw [cell_of_row w X 17 _ _ _ h1]
 simp [hl]
set_option maxHeartbeats 1000000 in
theorem Zw7 (a:Int) (X:Nat) (w:World) (ha:a<0\/16<=a):
 Calls Tryz.prog 78 #[.pointer (some ⟨X,0,none⟩),.int .i64 a] w fun en w'=>en= .panicked (Zc9 1)/\w=w':=by
 rcases ha with h|h
 all_goals
  go_enter Tryz.func78,Tryz.ntmps78
  go_wp2_with fail
  exact ⟨rfl,rfl,rfl⟩
set_option maxHeartbeats 1000000 in
theorem Zp5 (x:Ev) (n X:Nat) (w:World) (hx:x.ok) (hX:EvAt w X x) (hn:n<16):
 Calls Tryz.prog 78 #[.pointer (some ⟨X,0,none⟩),.int .i64 n] w fun en w'=>Outc (Zy x n) en/\Ext w w':=by
 have h0:=hX.cell0
 have h1:=hX.cell hx n hn
 generalize hy:x.v.getD n 0=y at*
 have hL:Zy x n=if !bitF x.has n then (0,181) else if inR y then (y,0) else (0,3):=by unfold Zy;rw [hy]
 generalize Zy x n=r at*
 have HL:=Lib.hid hL
 have hi1:(0:Int)<=(n:Int):=by omega
 have hi2:(n:Int)<16:=by omega
 clear hL hy hX
 have hbit:(bits .and .i64 x.has (wrap64 (2^n))==0)= !bitF x.has n:=by
  have hp:(2:Nat)^n<=2^15:=Nat.pow_le_pow_right (by omega) (by omega)
  have e:wrap64 ((2:Int)^n)=((2^n:Nat):Int):=by
   have:((2:Int)^n)=((2^n:Nat):Int):=by simp
   rw [this]
   generalize (2:Nat)^n=t at*
   exact IntWalk.wrap64_in _ ⟨by omega,by omega⟩
  rw [e,Z6t x.has n (by omega),bitF,Bool.eq_iff_iff]
  have:((2:Int)^n)=((2^n:Nat):Int):=by simp
  rw [this]
  simp only [Bool.not_eq_true',decide_eq_true_eq,decide_eq_false_iff_not]
  omega
 have hd1:decide ((n:Int)<0)=false:=by simp
 have hd2:decide (16<=(n:Int))=false:=by simp;omega
 cases hb:bitF x.has n
 · rw [hb] at hbit HL
   have HB:=Lib.hid hbit
   clear hbit hb
   go_enter Tryz.func78,Tryz.ntmps78
   go_wp2_with fail
   go_quiet (fail)
   rw [HB.out]
   go_wp2_with fail
   exact ⟨rfl,.inr ⟨by rw [HL.out];simp,by rw [HL.out];rfl⟩,(Ext.refl _).drewN _⟩
 · rw [hb] at hbit HL
   have HB:=Lib.hid hbit
   clear hbit hb
   have hy3:y< -9007199254740992\/9007199254740992<y\/(-9007199254740992<=y/\y<=9007199254740992):=by omega
   rcases hy3 with h|h|⟨g1,g2⟩
   · have hi:inR y=false:=inR_not.2 (by omega)
     rw [hi] at HL
     clear hi
     go_enter Tryz.func78,Tryz.ntmps78
     go_wp2_with fail
     go_quiet (fail)
     rw [HB.out]
     go_wp2_with fail
     exact ⟨rfl,.inr ⟨by rw [HL.out];simp,by rw [HL.out];rfl⟩,(Ext.refl _).drewN _⟩
   · have hi:inR y=false:=inR_not.2 (by omega)
     rw [hi] at HL
     clear hi
     go_enter Tryz.func78,Tryz.ntmps78
     go_wp2_with fail
     go_quiet (fail)
     rw [HB.out]
     go_wp2_with fail
     exact ⟨rfl,.inr ⟨by rw [HL.out];simp,by rw [HL.out];rfl⟩,(Ext.refl _).drewN _⟩
   · have hi:inR y=true:=inR_iff.2 ⟨g1,g2⟩
     rw [hi] at HL
     clear hi
     go_enter Tryz.func78,Tryz.ntmps78
     go_wp2_with fail
     go_quiet (fail)
     rw [HB.out]
     go_wp2_with fail
     go_ret
     exact ⟨.inl ⟨by rw [HL.out];rfl,by rw [HL.out];rfl⟩,(Ext.refl _).drewN _⟩
end
section
open Go.RowKit
def Zdl (p q:Int×Int) (en:Ending):Prop:=
 (p.2≠0/\en= .panicked (Zc9 p.2))\/(p.2=0/\q.2≠0/\en= .panicked (Zc9 q.2))\/(p.2=0/\q.2=0/\en= .returned (.tuple #[.int .i64 p.1,.int .i64 q.1]))
def comb (p q:Int×Int) (f:Int->Int->Int×Int):Int×Int:=if p.2≠0 then (0,p.2) else if q.2≠0 then (0,q.2) else f p.1 q.1
theorem Zgs {p q:Int×Int} {f:Int->Int->Int×Int} (h:p.2≠0):comb p q f=(0,p.2):=if_pos h
theorem Zgt {p q:Int×Int} {f:Int->Int->Int×Int} (h:p.2=0) (h':q.2≠0):comb p q f=(0,q.2):=by
 unfold comb;rw [if_neg (by simpa using h),if_pos h']
theorem Zck {p q:Int×Int} {f:Int->Int->Int×Int} (h:p.2=0) (h':q.2=0):comb p q f=f p.1 q.1:=by
 unfold comb;rw [if_neg (by simpa using h),if_neg (by simpa using h')]
set_option maxHeartbeats 1000000 in
theorem Z0d (X b o n cap:Nat) (c0 c1:List Value) (p q:Int×Int) (w:World) (hn:2<=n) (hl0:Hid (c0.length=7)) (hl1:Hid (c1.length=7))
 (hr0:w.rangeAt b o c0) (hr1:w.rangeAt b (o+7) c1)
 (h0:Hid (∀W,Ext w W->Calls Tryz.prog 80 #[.pointer (some ⟨X,0,none⟩),.agg c0.toArray] W fun en w'=>Outc p en/\Ext W w'))
 (h1:Hid (∀W,Ext w W->Calls Tryz.prog 80 #[.pointer (some ⟨X,0,none⟩),.agg c1.toArray] W fun en w'=>Outc q en/\Ext W w')):
 Calls Tryz.prog 151 #[.pointer (some ⟨X,0,none⟩),.slice (some ⟨b,o,none⟩) n cap] w fun en w'=>Zdl p q en/\Ext w w':=by
 have hn0:0<n:=by omega
 have hn1:(1:Int)<(n:Int):=by omega
 go_enter Tryz.func151,Tryz.ntmps151
 go_wp2_with (refine wpList_load_mid rfl 47 _ rfl b o rfl c0 _ hr0 Tryz.underlying47 rfl (by rw [hl0.out];exact Xh) ?_)
 refine (h0.out _ (Ext.refl _)).mono ?_
 rintro e1 w1 ⟨⟨hz,rfl⟩|⟨hz,rfl⟩,hx1⟩
 · have HZ:=Lib.hid hz
   clear hz
   have hr2:=hx1.range hr1
   go_wp2_with (refine wpList_load_mid rfl 47 _ rfl b (o+7) rfl c1 _ hr2 Tryz.underlying47 rfl (by rw [hl1.out];exact Xh) ?_)
   refine (h1.out _ hx1).mono ?_
   rintro e2 w2 ⟨⟨hz,rfl⟩|⟨hz,rfl⟩,hx2⟩
   · have HY:=Lib.hid hz
     clear hz
     go_wp2_with fail
     go_ret2
     exact ⟨.inr (.inr ⟨HZ.out,HY.out,rfl⟩),hx1.trans hx2⟩
   · have HY:=Lib.hid hz
     clear hz
     go_wp2_with fail
     exact ⟨rfl,.inr (.inl ⟨HZ.out,HY.out,rfl⟩),hx1.trans hx2⟩
 · have HZ:=Lib.hid hz
   clear hz
   go_wp2_with fail
   exact ⟨rfl,.inl ⟨HZ.out,rfl⟩,hx1⟩
set_option maxHeartbeats 1000000 in
theorem Z0e (X b o n cap:Nat) (p q:Int×Int) (w:World)
 (hb:Hid (∀W,Ext w W->Calls Tryz.prog 151 #[.pointer (some ⟨X,0,none⟩),.slice (some ⟨b,o,none⟩) n cap] W fun en w'=>Zdl p q en/\Ext W w')):
 Calls Tryz.prog 113 #[.pointer (some ⟨X,0,none⟩),.slice (some ⟨b,o,none⟩) n cap] w fun en w'=>Outc (comb p q addF) en/\Ext w w':=by
 obtain ⟨r,hr⟩:∃r,comb p q addF=r:=⟨_,rfl⟩
 rw [hr]
 have HR:=Lib.hid hr
 clear hr
 go_enter Tryz.func113,Tryz.ntmps113
 go_wp2_with fail
 refine (hb.out _ (Ext.refl _)).mono ?_
 rintro e1 w1 ⟨⟨h1,rfl⟩|⟨h1,h2,rfl⟩|⟨h1,h2,rfl⟩,hx1⟩
 · have H1:=Lib.hid h1
   clear h1
   go_wp2_with fail
   exact ⟨rfl,.inr (by rw [<-HR.out,Zgs H1.out];exact ⟨H1.out,rfl⟩),hx1⟩
 · have H1:=Lib.hid h1
   have H2:=Lib.hid h2
   clear h1 h2
   go_wp2_with fail
   exact ⟨rfl,.inr (by rw [<-HR.out,Zgt H1.out H2.out];exact ⟨H2.out,rfl⟩),hx1⟩
 · have H1:=Lib.hid h1
   have H2:=Lib.hid h2
   have hr:r=addF p.1 q.1:=by rw [<-HR.out,Zck H1.out H2.out]
   have HR2:=Lib.hid hr
   clear h1 h2 hr HR
   go_wp2_with fail
   refine (Zv8 _ _ _).mono ?_
   rw [<-HR2.out]
   rintro e2 w2 ⟨rfl,hx2⟩
   go_wp2_with fail
   by_cases hz:r.2=0
   · rw [hz]
     refine (Zih _ _).mono ?_
     have HZ:=Lib.hid hz
     clear hz
     rintro e3 w3 ⟨rfl,rfl⟩
     go_wp2_with fail
     go_ret
     exact ⟨.inl ⟨HZ.out,rfl⟩,hx1.trans hx2⟩
   · refine (Zdw _ _ (by rw [bne_iff_ne];exact hz) _).mono ?_
     have HZ:=Lib.hid hz
     clear hz
     rintro e3 w3 ⟨rfl,rfl⟩
     go_wp2_with fail
     exact ⟨rfl,.inr ⟨HZ.out,rfl⟩,hx1.trans hx2⟩
set_option maxHeartbeats 1000000 in
theorem Z0f (X b o n cap:Nat) (p q:Int×Int) (w:World)
 (hb:Hid (∀W,Ext w W->Calls Tryz.prog 151 #[.pointer (some ⟨X,0,none⟩),.slice (some ⟨b,o,none⟩) n cap] W fun en w'=>Zdl p q en/\Ext W w')):
 Calls Tryz.prog 114 #[.pointer (some ⟨X,0,none⟩),.slice (some ⟨b,o,none⟩) n cap] w fun en w'=>Outc (comb p q subF) en/\Ext w w':=by
 obtain ⟨r,hr⟩:∃r,comb p q subF=r:=⟨_,rfl⟩
 rw [hr]
 have HR:=Lib.hid hr
 clear hr
 go_enter Tryz.func114,Tryz.ntmps114
 go_wp2_with fail
 refine (hb.out _ (Ext.refl _)).mono ?_
 rintro e1 w1 ⟨⟨h1,rfl⟩|⟨h1,h2,rfl⟩|⟨h1,h2,rfl⟩,hx1⟩
 · have H1:=Lib.hid h1
   clear h1
   go_wp2_with fail
   exact ⟨rfl,.inr (by rw [<-HR.out,Zgs H1.out];exact ⟨H1.out,rfl⟩),hx1⟩
 · have H1:=Lib.hid h1
   have H2:=Lib.hid h2
   clear h1 h2
   go_wp2_with fail
   exact ⟨rfl,.inr (by rw [<-HR.out,Zgt H1.out H2.out];exact ⟨H2.out,rfl⟩),hx1⟩
 · have H1:=Lib.hid h1
   have H2:=Lib.hid h2
   have hr:r=subF p.1 q.1:=by rw [<-HR.out,Zck H1.out H2.out]
   have HR2:=Lib.hid hr
   clear h1 h2 hr HR
   go_wp2_with fail
   refine (Zv9 _ _ _).mono ?_
   rw [<-HR2.out]
   rintro e2 w2 ⟨rfl,hx2⟩
   go_wp2_with fail
   by_cases hz:r.2=0
   · rw [hz]
     refine (Zih _ _).mono ?_
     have HZ:=Lib.hid hz
     clear hz
     rintro e3 w3 ⟨rfl,rfl⟩
     go_wp2_with fail
     go_ret
     exact ⟨.inl ⟨HZ.out,rfl⟩,hx1.trans hx2⟩
   · refine (Zdw _ _ (by rw [bne_iff_ne];exact hz) _).mono ?_
     have HZ:=Lib.hid hz
     clear hz
     rintro e3 w3 ⟨rfl,rfl⟩
     go_wp2_with fail
     exact ⟨rfl,.inr ⟨HZ.out,rfl⟩,hx1.trans hx2⟩
set_option maxHeartbeats 1000000 in
theorem Z0g (X b o n cap:Nat) (p q:Int×Int) (w:World)
 (hb:Hid (∀W,Ext w W->Calls Tryz.prog 151 #[.pointer (some ⟨X,0,none⟩),.slice (some ⟨b,o,none⟩) n cap] W fun en w'=>Zdl p q en/\Ext W w')):
 Calls Tryz.prog 115 #[.pointer (some ⟨X,0,none⟩),.slice (some ⟨b,o,none⟩) n cap] w fun en w'=>Outc (comb p q mulF) en/\Ext w w':=by
 obtain ⟨r,hr⟩:∃r,comb p q mulF=r:=⟨_,rfl⟩
 rw [hr]
 have HR:=Lib.hid hr
 clear hr
 go_enter Tryz.func115,Tryz.ntmps115
 go_wp2_with fail
 refine (hb.out _ (Ext.refl _)).mono ?_
 rintro e1 w1 ⟨⟨h1,rfl⟩|⟨h1,h2,rfl⟩|⟨h1,h2,rfl⟩,hx1⟩
 · have H1:=Lib.hid h1
   clear h1
   go_wp2_with fail
   exact ⟨rfl,.inr (by rw [<-HR.out,Zgs H1.out];exact ⟨H1.out,rfl⟩),hx1⟩
 · have H1:=Lib.hid h1
   have H2:=Lib.hid h2
   clear h1 h2
   go_wp2_with fail
   exact ⟨rfl,.inr (by rw [<-HR.out,Zgt H1.out H2.out];exact ⟨H2.out,rfl⟩),hx1⟩
 · have H1:=Lib.hid h1
   have H2:=Lib.hid h2
   have hr:r=mulF p.1 q.1:=by rw [<-HR.out,Zck H1.out H2.out]
   have HR2:=Lib.hid hr
   clear h1 h2 hr HR
   go_wp2_with fail
   refine (Zwb _ _ _).mono ?_
   rw [<-HR2.out]
   rintro e2 w2 ⟨rfl,hx2⟩
   go_wp2_with fail
   by_cases hz:r.2=0
   · rw [hz]
     refine (Zih _ _).mono ?_
     have HZ:=Lib.hid hz
     clear hz
     rintro e3 w3 ⟨rfl,rfl⟩
     go_wp2_with fail
     go_ret
     exact ⟨.inl ⟨HZ.out,rfl⟩,hx1.trans hx2⟩
   · refine (Zdw _ _ (by rw [bne_iff_ne];exact hz) _).mono ?_
     have HZ:=Lib.hid hz
     clear hz
     rintro e3 w3 ⟨rfl,rfl⟩
     go_wp2_with fail
     exact ⟨rfl,.inr ⟨HZ.out,rfl⟩,hx1.trans hx2⟩
set_option maxHeartbeats 1000000 in
theorem Zrr (X b o n cap:Nat) (p q:Int×Int) (w:World)
 (hb:Hid (∀W,Ext w W->Calls Tryz.prog 151 #[.pointer (some ⟨X,0,none⟩),.slice (some ⟨b,o,none⟩) n cap] W fun en w'=>Zdl p q en/\Ext W w')):
 Calls Tryz.prog 116 #[.pointer (some ⟨X,0,none⟩),.slice (some ⟨b,o,none⟩) n cap] w fun en w'=>Outc (comb p q fun a b=>(min a b,0)) en/\Ext w w':=by
 obtain ⟨r,hr⟩:∃r,comb p q (fun a b=>(min a b,0))=r:=⟨_,rfl⟩
 rw [hr]
 have HR:=Lib.hid hr
 clear hr
 go_enter Tryz.func116,Tryz.ntmps116
 go_wp2_with fail
 refine (hb.out _ (Ext.refl _)).mono ?_
 rintro e1 w1 ⟨⟨h1,rfl⟩|⟨h1,h2,rfl⟩|⟨h1,h2,rfl⟩,hx1⟩
 · have H1:=Lib.hid h1
   clear h1
   go_wp2_with fail
   exact ⟨rfl,.inr (by rw [<-HR.out,Zgs H1.out];exact ⟨H1.out,rfl⟩),hx1⟩
 · have H1:=Lib.hid h1
   have H2:=Lib.hid h2
   clear h1 h2
   go_wp2_with fail
   exact ⟨rfl,.inr (by rw [<-HR.out,Zgt H1.out H2.out];exact ⟨H2.out,rfl⟩),hx1⟩
 · have H1:=Lib.hid h1
   have H2:=Lib.hid h2
   have hr:r=(min p.1 q.1,0):=by rw [<-HR.out,Zck H1.out H2.out]
   have HR2:=Lib.hid hr
   clear h1 h2 hr HR
   go_wp2_with fail
   all_goals go_ret
   all_goals exact ⟨.inl ⟨by rw [HR2.out],by rw [HR2.out];exact Va (by omega)⟩,hx1⟩
set_option maxHeartbeats 1000000 in
theorem Zhz (X b o n cap:Nat) (p q:Int×Int) (w:World)
 (hb:Hid (∀W,Ext w W->Calls Tryz.prog 151 #[.pointer (some ⟨X,0,none⟩),.slice (some ⟨b,o,none⟩) n cap] W fun en w'=>Zdl p q en/\Ext W w')):
 Calls Tryz.prog 117 #[.pointer (some ⟨X,0,none⟩),.slice (some ⟨b,o,none⟩) n cap] w fun en w'=>Outc (comb p q fun a b=>(max a b,0)) en/\Ext w w':=by
 obtain ⟨r,hr⟩:∃r,comb p q (fun a b=>(max a b,0))=r:=⟨_,rfl⟩
 rw [hr]
 have HR:=Lib.hid hr
 clear hr
 go_enter Tryz.func117,Tryz.ntmps117
 go_wp2_with fail
 refine (hb.out _ (Ext.refl _)).mono ?_
 rintro e1 w1 ⟨⟨h1,rfl⟩|⟨h1,h2,rfl⟩|⟨h1,h2,rfl⟩,hx1⟩
 · have H1:=Lib.hid h1
   clear h1
   go_wp2_with fail
   exact ⟨rfl,.inr (by rw [<-HR.out,Zgs H1.out];exact ⟨H1.out,rfl⟩),hx1⟩
 · have H1:=Lib.hid h1
   have H2:=Lib.hid h2
   clear h1 h2
   go_wp2_with fail
   exact ⟨rfl,.inr (by rw [<-HR.out,Zgt H1.out H2.out];exact ⟨H2.out,rfl⟩),hx1⟩
 · have H1:=Lib.hid h1
   have H2:=Lib.hid h2
   have hr:r=(max p.1 q.1,0):=by rw [<-HR.out,Zck H1.out H2.out]
   have HR2:=Lib.hid hr
   clear h1 h2 hr HR
   go_wp2_with fail
   all_goals go_ret
   all_goals exact ⟨.inl ⟨by rw [HR2.out],by rw [HR2.out];exact Va (by omega)⟩,hx1⟩
set_option maxHeartbeats 1000000 in
theorem Zax (X b o n cap:Nat) (p q:Int×Int) (m:Int) (w:World)
 (hb:Hid (∀W,Ext w W->Calls Tryz.prog 151 #[.pointer (some ⟨X,0,none⟩),.slice (some ⟨b,o,none⟩) n cap] W fun en w'=>Zdl p q en/\Ext W w')):
 Calls Tryz.prog 154 #[.pointer (some ⟨X,0,none⟩),.slice (some ⟨b,o,none⟩) n cap,.int .i64 m] w fun en w'=>Outc (comb p q fun a b=>divF a b m) en/\Ext w w':=by
 obtain ⟨r,hr⟩:∃r,comb p q (fun a b=>divF a b m)=r:=⟨_,rfl⟩
 rw [hr]
 have HR:=Lib.hid hr
 clear hr
 go_enter Tryz.func154,Tryz.ntmps154
 go_wp2_with fail
 refine (hb.out _ (Ext.refl _)).mono ?_
 rintro e1 w1 ⟨⟨h1,rfl⟩|⟨h1,h2,rfl⟩|⟨h1,h2,rfl⟩,hx1⟩
 · have H1:=Lib.hid h1
   clear h1
   go_wp2_with fail
   exact ⟨rfl,.inr (by rw [<-HR.out,Zgs H1.out];exact ⟨H1.out,rfl⟩),hx1⟩
 · have H1:=Lib.hid h1
   have H2:=Lib.hid h2
   clear h1 h2
   go_wp2_with fail
   exact ⟨rfl,.inr (by rw [<-HR.out,Zgt H1.out H2.out];exact ⟨H2.out,rfl⟩),hx1⟩
 · have H1:=Lib.hid h1
   have H2:=Lib.hid h2
   have hr:r=divF p.1 q.1 m:=by rw [<-HR.out,Zck H1.out H2.out]
   have HR2:=Lib.hid hr
   clear h1 h2 hr HR
   go_wp2_with fail
   refine (Zwc _ _ _ _).mono ?_
   rw [<-HR2.out]
   rintro e2 w2 ⟨rfl,hx2⟩
   go_wp2_with fail
   by_cases hz:r.2=0
   · rw [hz]
     refine (Zih _ _).mono ?_
     have HZ:=Lib.hid hz
     clear hz
     rintro e3 w3 ⟨rfl,rfl⟩
     go_wp2_with fail
     go_ret
     exact ⟨.inl ⟨HZ.out,rfl⟩,hx1.trans hx2⟩
   · refine (Zdw _ _ (by rw [bne_iff_ne];exact hz) _).mono ?_
     have HZ:=Lib.hid hz
     clear hz
     rintro e3 w3 ⟨rfl,rfl⟩
     go_wp2_with fail
     exact ⟨rfl,.inr ⟨HZ.out,rfl⟩,hx1.trans hx2⟩
set_option maxHeartbeats 1000000 in
theorem Zvr (X b o n cap:Nat) (p q:Int×Int) (w:World)
 (hb:Hid (∀W,Ext w W->Calls Tryz.prog 151 #[.pointer (some ⟨X,0,none⟩),.slice (some ⟨b,o,none⟩) n cap] W fun en w'=>Zdl p q en/\Ext W w')):
 Calls Tryz.prog 118 #[.pointer (some ⟨X,0,none⟩),.slice (some ⟨b,o,none⟩) n cap] w fun en w'=>Outc (comb p q fun a b=>divF a b 8) en/\Ext w w':=by
 obtain ⟨r,hr⟩:∃r,comb p q (fun a b=>divF a b 8)=r:=⟨_,rfl⟩
 have hd:=Zax X b o n cap p q 8 w hb
 rw [hr] at hd⊢
 have HD:=Lib.hid hd
 clear hr hd
 go_enter Tryz.func118,Tryz.ntmps118
 go_wp2_with fail
 refine HD.out.mono ?_
 rintro e1 w1 ⟨⟨h1,rfl⟩|⟨h1,rfl⟩,hx1⟩
 · have H1:=Lib.hid h1
   clear h1
   go_wp2_with fail
   go_ret
   exact ⟨.inl ⟨H1.out,rfl⟩,hx1⟩
 · have H1:=Lib.hid h1
   clear h1
   go_wp2_with fail
   exact ⟨rfl,.inr ⟨H1.out,rfl⟩,hx1⟩
set_option maxHeartbeats 1000000 in
theorem Z5b (X b o n cap:Nat) (p q:Int×Int) (w:World)
 (hb:Hid (∀W,Ext w W->Calls Tryz.prog 151 #[.pointer (some ⟨X,0,none⟩),.slice (some ⟨b,o,none⟩) n cap] W fun en w'=>Zdl p q en/\Ext W w')):
 Calls Tryz.prog 119 #[.pointer (some ⟨X,0,none⟩),.slice (some ⟨b,o,none⟩) n cap] w fun en w'=>Outc (comb p q fun a b=>divF a b 9) en/\Ext w w':=by
 obtain ⟨r,hr⟩:∃r,comb p q (fun a b=>divF a b 9)=r:=⟨_,rfl⟩
 have hd:=Zax X b o n cap p q 9 w hb
 rw [hr] at hd⊢
 have HD:=Lib.hid hd
 clear hr hd
 go_enter Tryz.func119,Tryz.ntmps119
 go_wp2_with fail
 refine HD.out.mono ?_
 rintro e1 w1 ⟨⟨h1,rfl⟩|⟨h1,rfl⟩,hx1⟩
 · have H1:=Lib.hid h1
   clear h1
   go_wp2_with fail
   go_ret
   exact ⟨.inl ⟨H1.out,rfl⟩,hx1⟩
 · have H1:=Lib.hid h1
   clear h1
   go_wp2_with fail
   exact ⟨rfl,.inr ⟨H1.out,rfl⟩,hx1⟩
set_option maxHeartbeats 1000000 in
theorem Zvs (X b o n cap:Nat) (p q:Int×Int) (w:World)
 (hb:Hid (∀W,Ext w W->Calls Tryz.prog 151 #[.pointer (some ⟨X,0,none⟩),.slice (some ⟨b,o,none⟩) n cap] W fun en w'=>Zdl p q en/\Ext W w')):
 Calls Tryz.prog 120 #[.pointer (some ⟨X,0,none⟩),.slice (some ⟨b,o,none⟩) n cap] w fun en w'=>Outc (comb p q fun a b=>divF a b 10) en/\Ext w w':=by
 obtain ⟨r,hr⟩:∃r,comb p q (fun a b=>divF a b 10)=r:=⟨_,rfl⟩
 have hd:=Zax X b o n cap p q 10 w hb
 rw [hr] at hd⊢
 have HD:=Lib.hid hd
 clear hr hd
 go_enter Tryz.func120,Tryz.ntmps120
 go_wp2_with fail
 refine HD.out.mono ?_
 rintro e1 w1 ⟨⟨h1,rfl⟩|⟨h1,rfl⟩,hx1⟩
 · have H1:=Lib.hid h1
   clear h1
   go_wp2_with fail
   go_ret
   exact ⟨.inl ⟨H1.out,rfl⟩,hx1⟩
 · have H1:=Lib.hid h1
   clear h1
   go_wp2_with fail
   exact ⟨rfl,.inr ⟨H1.out,rfl⟩,hx1⟩
set_option maxHeartbeats 1000000 in
theorem Zmy (X b o n cap:Nat) (p q p2 p3:Int×Int) (c2 c3:List Value) (w:World) (hn:4<=n) (hl2:Hid (c2.length=7)) (hl3:Hid (c3.length=7))
 (hr2:w.rangeAt b (o+14) c2) (hr3:w.rangeAt b (o+21) c3)
 (hb:Hid (∀W,Ext w W->Calls Tryz.prog 151 #[.pointer (some ⟨X,0,none⟩),.slice (some ⟨b,o,none⟩) n cap] W fun en w'=>Zdl p q en/\Ext W w'))
 (h2:Hid (∀W,Ext w W->Calls Tryz.prog 80 #[.pointer (some ⟨X,0,none⟩),.agg c2.toArray] W fun en w'=>Outc p2 en/\Ext W w'))
 (h3:Hid (∀W,Ext w W->Calls Tryz.prog 80 #[.pointer (some ⟨X,0,none⟩),.agg c3.toArray] W fun en w'=>Outc p3 en/\Ext W w')):
 Calls Tryz.prog 121 #[.pointer (some ⟨X,0,none⟩),.slice (some ⟨b,o,none⟩) n cap] w fun en w'=>
  Outc (if p.2≠0 then (0,p.2) else if q.2≠0 then (0,q.2) else if p.1<q.1 then p2 else p3) en/\Ext w w':=by
 obtain ⟨r,hr⟩:∃r,(if p.2≠0 then (0,p.2) else if q.2≠0 then (0,q.2) else if p.1<q.1 then p2 else p3)=r:=⟨_,rfl⟩
 rw [hr]
 have HR:=Lib.hid hr
 clear hr
 have hn2:(2:Int)<(n:Int):=by omega
 have hn3:(3:Int)<(n:Int):=by omega
 go_enter Tryz.func121,Tryz.ntmps121
 go_wp2_with fail
 refine (hb.out _ (Ext.refl _)).mono ?_
 rintro e1 w1 ⟨⟨h1,rfl⟩|⟨h1,h1',rfl⟩|⟨h1,h1',rfl⟩,hx1⟩
 · have H1:=Lib.hid h1
   clear h1
   go_wp2_with fail
   exact ⟨rfl,.inr (by rw [<-HR.out,if_pos H1.out];exact ⟨H1.out,rfl⟩),hx1⟩
 · have H1:=Lib.hid h1
   have H2:=Lib.hid h1'
   clear h1 h1'
   go_wp2_with fail
   exact ⟨rfl,.inr (by rw [<-HR.out,if_neg (by simpa using H1.out),if_pos H2.out];exact ⟨H2.out,rfl⟩),hx1⟩
 · have hr:r=if p.1<q.1 then p2 else p3:=by rw [<-HR.out,if_neg (by simpa using h1),if_neg (by simpa using h1')]
   replace hr2:=hx1.range hr2
   replace hr3:=hx1.range hr3
   obtain ⟨p1,pe⟩:=p
   obtain ⟨q1,qe⟩:=q
   by_cases hlt:p1<q1
   · rw [if_pos hlt] at hr
     subst hr
     clear h1 h1' HR
     go_wp2_with (refine wpList_load_mid rfl 47 _ rfl b (o+14) rfl c2 _ hr2 Tryz.underlying47 rfl (by rw [hl2.out];exact Xh) ?_)
     refine (h2.out _ hx1).mono ?_
     rintro e2 w2 ⟨⟨hz,rfl⟩|⟨hz,rfl⟩,hx2⟩
     · have HZ:=Lib.hid hz
       clear hz
       go_wp2_with fail
       go_ret
       exact ⟨.inl ⟨HZ.out,rfl⟩,hx1.trans hx2⟩
     · have HZ:=Lib.hid hz
       clear hz
       go_wp2_with fail
       exact ⟨rfl,.inr ⟨HZ.out,rfl⟩,hx1.trans hx2⟩
   · rw [if_neg hlt] at hr
     subst hr
     clear h1 h1' HR
     go_wp2_with (refine wpList_load_mid rfl 47 _ rfl b (o+21) rfl c3 _ hr3 Tryz.underlying47 rfl (by rw [hl3.out];exact Xh) ?_)
     refine (h3.out _ hx1).mono ?_
     rintro e2 w2 ⟨⟨hz,rfl⟩|⟨hz,rfl⟩,hx2⟩
     · have HZ:=Lib.hid hz
       clear hz
       go_wp2_with fail
       go_ret
       exact ⟨.inl ⟨HZ.out,rfl⟩,hx1.trans hx2⟩
     · have HZ:=Lib.hid hz
       clear hz
       go_wp2_with fail
       exact ⟨rfl,.inr ⟨HZ.out,rfl⟩,hx1.trans hx2⟩
end
section
open Go.RowKit
theorem EvAt.frame2 {w:World} {X:Nat} {x:Ev} (h:EvAt w X x) (hx:x.ok):∃M,w.cell? ⟨X,17,none⟩=some (.map (some M))/\w.heap[M]? =some (.map (Z1w X) 9)/\M<w.heap.size:=by
 obtain ⟨M,h1,h2⟩:=h.frame hx
 refine ⟨M,h1,h2,?_⟩
 rcases Nat.lt_or_ge M w.heap.size with h'|h'
 · exact h'
 · rw [Array.getElem?_eq_none h'] at h2;cases h2
set_option maxHeartbeats 4000000 in
theorem Zyl (x:Ev) (hx:x.ok) (dn:Nat):∀(d:Nat) (cs:List Value) (e:Ex) (X:Nat) (w:World),W6 dn e=true->ExIn w d cs e->EvAt w X x->
 Calls Tryz.prog 80 #[.pointer (some ⟨X,0,none⟩),.agg cs.toArray] w fun en w'=>Outc (Zg dn e x) en/\Ext w w':=by
 induction dn with
 |zero=>intro d cs e X w h;cases h
 |succ dn ih=>
  intro d cs e X w hf he hX
  have hev:Zg (dn+1) e x=if e.op=1 then (e.n,0) else if e.op=2 then Zy x e.n.toNat else
   if (Zg dn (e.l.getD 0 exT0) x).2≠0 then (0,(Zg dn (e.l.getD 0 exT0) x).2) else if (Zg dn (e.l.getD 1 exT0) x).2≠0 then (0,(Zg dn (e.l.getD 1 exT0) x).2) else
   if e.op≠11 then Zb3 e.op (Zg dn (e.l.getD 0 exT0) x).1 (Zg dn (e.l.getD 1 exT0) x).1 else
   if (Zg dn (e.l.getD 0 exT0) x).1<(Zg dn (e.l.getD 1 exT0) x).1 then Zg dn (e.l.getD 2 exT0) x else Zg dn (e.l.getD 3 exT0) x:=rfl
  generalize Zg (dn+1) e x=r at*
  have HV:=Lib.hid hev
  clear hev
  have hxl:x.cells.length=17:=by simp [Ev.cells,hx.1]
  by_cases h1:e.op=1
  · obtain ⟨A,cap,u0,u1,u2,u3,rfl,_⟩:=he.open_
    have hv:=HV.out
    rw [if_pos h1] at hv
    have HV:=Lib.hid hv
    rw [h1]
    clear hv h1 he ih hX
    go_enter Tryz.func80,Tryz.ntmps80
    go_wp2_with fail
    go_ret
    exact ⟨.inl ⟨by rw [HV.out],by rw [HV.out];rfl⟩,(Ext.refl _).alloc _⟩
  by_cases h2:e.op=2
  · obtain ⟨A,cap,u0,u1,u2,u3,rfl,_⟩:=he.open_
    have hv:=HV.out
    rw [if_neg h1,if_pos h2] at hv
    have hn:=(Zs7 hf h2).2
    obtain ⟨n,hn2⟩:=Int.eq_ofNat_of_zero_le hn.1
    rw [h2]
    rw [hn2] at hv hn⊢
    rw [Int.toNat_natCast] at hv
    have HV:=Lib.hid hv
    have hn3:n<16:=by omega
    have hld:=fun (W:World) (h:Ext w W)=>Zp5 x n X W hx (hX.ext h) hn3
    have HLD:=Lib.hid hld
    clear hv h1 h2 he ih hn2 hn hX hld
    go_enter Tryz.func80,Tryz.ntmps80
    go_wp2_with fail
    refine (HLD.out _ ((Ext.refl _).alloc _)).mono ?_
    rw [<-HV.out]
    rintro e1 w1 ⟨⟨hz,rfl⟩|⟨hz,rfl⟩,hx1⟩
    · have HZ:=Lib.hid hz
      clear hz
      go_wp2_with fail
      go_ret
      exact ⟨.inl ⟨HZ.out,rfl⟩,((Ext.refl _).alloc _).trans hx1⟩
    · have HZ:=Lib.hid hz
      clear hz
      go_wp2_with fail
      exact ⟨rfl,.inr ⟨HZ.out,rfl⟩,((Ext.refl _).alloc _).trans hx1⟩
  obtain ⟨hop3,hop11,hl4,hl2,hfs⟩:=Zs6 hf h1 h2
  have hlen:2<=e.l.length:=by
   by_cases h:e.op=11
   · have:=hl4 h;omega
   · have:=hl2 h;omega
  obtain ⟨b,o,cap,u0,u1,u2,u3,c0,rfl,hcap,hb,hl0,hr0,hE0⟩:=he.nth 0 (by omega)
  obtain ⟨b',o',cap',_,_,_,_,c1,hcs,_,hb1,hl1,hr1,hE1⟩:=he.nth 1 (by omega)
  simp only [List.cons.injEq,Value.int.injEq,Value.slice.injEq,Option.some.injEq,Addr.mk.injEq,true_and,and_true] at hcs
  obtain ⟨_,_,_,_,⟨rfl,rfl⟩,rfl⟩:=hcs
  rw [Nat.zero_mul,Nat.add_zero] at hr0
  rw [Nat.one_mul] at hr1
  have hv:=HV.out
  clear HV
  rw [if_neg h1,if_neg h2] at hv
  have HL0:=Lib.hid hl0
  have HL1:=Lib.hid hl1
  have HC0:Hid (∀W,Ext w W->Calls Tryz.prog 80 #[.pointer (some ⟨X,0,none⟩),.agg c0.toArray] W fun en w'=>Outc (Zg dn (e.l.getD 0 exT0) x) en/\Ext W w'):=
   Lib.hid fun W h=>ih _ _ _ X W (hfs 0 (by omega)) (hE0.ext h) (hX.ext h)
  have HC1:Hid (∀W,Ext w W->Calls Tryz.prog 80 #[.pointer (some ⟨X,0,none⟩),.agg c1.toArray] W fun en w'=>Outc (Zg dn (e.l.getD 1 exT0) x) en/\Ext W w'):=
   Lib.hid fun W h=>ih _ _ _ X W (hfs 1 (by omega)) (hE1.ext h) (hX.ext h)
  have hboth:Hid (∀W,Ext w W->∀W',Ext W W'->Calls Tryz.prog 151 #[.pointer (some ⟨X,0,none⟩),.slice (some ⟨b,o,none⟩) e.l.length cap] W' fun en w'=>
   Zdl (Zg dn (e.l.getD 0 exT0) x) (Zg dn (e.l.getD 1 exT0) x) en/\Ext W' w'):=
   Lib.hid fun W h W' h'=>Z0d X b o _ cap c0 c1 _ _ W' hlen HL0 HL1 ((h.trans h').range hr0) ((h.trans h').range hr1)
    (Lib.hid fun V hV=>HC0.out V ((h.trans h').trans hV)) (Lib.hid fun V hV=>HC1.out V ((h.trans h').trans hV))
  have hdone:∀(fn:Nat) (i:Nat),(∀args W,(callFunc fn args).run Tryz.prog W= .ok (.enter fn args) W)->(∀W,Ext w W->Calls Tryz.prog fn #[.pointer (some ⟨X,0,none⟩),.slice (some ⟨b,o,none⟩) e.l.length cap] W fun en w'=>Outc r en/\Ext W w')->
   Instr.findNow (.int .i64) (.int .i64 e.op) (Z1w X).toList 0=some (some (i,.func (.func fn) #[.pointer (some ⟨X,0,none⟩)] #[]))->
   Calls Tryz.prog 80 #[.pointer (some ⟨X,0,none⟩),.agg [.int .i64 e.op,.int .i64 e.n,.int .i64 u0,.int .i64 u1,.int .i64 u2,.int .i64 u3,.slice (some ⟨b,o,none⟩) e.l.length cap].toArray] w fun en w'=>Outc r en/\Ext w w':=by
   intro fn i hcf hcall hfind
   obtain ⟨M,hM1,hM2,hM3⟩:=hX.frame2 hx
   have g1:(e.op==1)=false:=by simpa using h1
   have g2:(e.op==2)=false:=by simpa using h2
   have HF:=Lib.hid hfind
   have HCL:=Lib.hid hcall
   have HM2:=Lib.hid hM2
   clear hv hfind hcall hboth HC0 HC1 HL0 HL1 hr0 hr1 hE0 hE1 hl0 hl1 hfs ih he hX hl2 hl4 hM2 hf h1 h2
   generalize e.op=op at*
   generalize e.n=nn at*
   generalize e.l.length=n at*
   go_enter Tryz.func80,Tryz.ntmps80
   go_wp2_with fail
   generalize hw0:World.alloc _ _=w0
   have hx0:Ext w w0:=by rw [<-hw0];exact (Ext.refl _).alloc _
   have hc6:w0.cell? ⟨w.heap.size,6,none⟩=some (.slice (some ⟨b,o,none⟩) n cap):=by rw [<-hw0];simp [go_sem]
   have hc0:w0.cell? ⟨w.heap.size,0,none⟩=some (.int .i64 op):=by rw [<-hw0];simp [go_sem]
   have hc17:=hx0.cell hM1
   clear hw0
   refine Zjr [(0,true),(1,true),(2,true),(3,true),(4,true),(5,true),(6,true),(7,true),(8,true),(9,false),(10,true)] (Ext w0) (by kernel_rfl) (by kernel_rfl) (by intro c a w d v h;cases d<;>exact h) (Ext.refl _).drew ?_
   repeat
    (refine ⟨_,?_,rfl,Zjs (by rfl) (fun w' hS=> ?_),?_⟩
     rotate_left
     · (have g0:=hS.cell hc0;have g6:=hS.cell hc6;have g17:=hS.cell hc17;go_simp;rfl)
     try simp only [Act.put,List.getElem_toArray,List.getElem_cons_zero,List.getElem_cons_succ,List.setIfInBounds_toArray,List.set_cons_zero,List.set_cons_succ])
   refine ⟨_,_,rfl,Zue (by rfl) _ _ _ rfl _ _ _ _ _ _ _ _ rfl rfl Tryz.underlying168 Tryz.underlying3 ((hx0.block hM3).trans HM2.out) (Nat.lt_of_lt_of_le hM3 hx0.size) HF.out,?_⟩
   try simp only [Act.put,List.getElem_toArray,List.getElem_cons_zero,List.getElem_cons_succ,List.setIfInBounds_toArray,List.set_cons_zero,List.set_cons_succ]
   repeat
    (refine ⟨_,?_,rfl,Zjs (by rfl) (fun w' hS=> ?_),?_⟩
     rotate_left
     · (have g0:=hS.cell hc0;have g6:=hS.cell hc6;have g17:=hS.cell hc17;go_simp;rfl)
     try simp only [Act.put,List.getElem_toArray,List.getElem_cons_zero,List.getElem_cons_succ,List.setIfInBounds_toArray,List.set_cons_zero,List.set_cons_succ])
   refine ⟨_,rfl,by rfl,?_⟩
   try simp only [List.getElem_toArray,List.getElem_cons_zero,List.getElem_cons_succ]
   go_step
   refine (HCL.out _ hx0.drew).mono ?_
   rintro e1 w1 ⟨⟨hz,rfl⟩|⟨hz,rfl⟩,hx1⟩
   · have HZ:=Lib.hid hz
     clear hz
     refine ⟨(Ext.refl _).drew.trans hx1,?_⟩
     try simp only [Act.put,List.getElem_toArray,List.getElem_cons_zero,List.getElem_cons_succ,List.setIfInBounds_toArray,List.set_cons_zero,List.set_cons_succ]
     repeat
      (refine ⟨_,?_,rfl,Zjs (by rfl) (fun w' hS=> ?_),?_⟩
       rotate_left
       · (go_simp;rfl)
       try simp only [Act.put,List.getElem_toArray,List.getElem_cons_zero,List.getElem_cons_succ,List.setIfInBounds_toArray,List.set_cons_zero,List.set_cons_succ])
     simp only [Zo3]
     go_wp2_with fail
     go_ret
     exact ⟨.inl ⟨HZ.out,rfl⟩,hx0.trans ((Ext.refl _).drew.trans hx1)⟩
   · have HZ:=Lib.hid hz
     clear hz
     go_wp2_with fail
     exact ⟨rfl,.inr ⟨HZ.out,rfl⟩,hx0.trans ((Ext.refl _).drew.trans hx1)⟩
  have hn11:∀f:Int->Int->Int×Int,e.op≠11->(∀a b,Zb3 e.op a b=f a b)->r=comb (Zg dn (e.l.getD 0 exT0) x) (Zg dn (e.l.getD 1 exT0) x) f:=by
   intro f h hf
   rw [hv,if_pos h,hf]
   rfl
  have hop:e.op=3\/e.op=4\/e.op=5\/e.op=6\/e.op=7\/e.op=8\/e.op=9\/e.op=10\/e.op=11:=by omega
  rcases hop with h|h|h|h|h|h|h|h|h
  · refine hdone 113 0 (fun args W=>by simp [go_sem]) (fun W hW=> ?_) (by rw [h];rfl)
    rw [hn11 (addF) (by omega) (fun a b=>by rw [h];rfl)]
    exact Z0e X b o _ cap _ _ W (Lib.hid fun W' h'=>hboth.out W hW W' h')
  · refine hdone 114 1 (fun args W=>by simp [go_sem]) (fun W hW=> ?_) (by rw [h];rfl)
    rw [hn11 (subF) (by omega) (fun a b=>by rw [h];rfl)]
    exact Z0f X b o _ cap _ _ W (Lib.hid fun W' h'=>hboth.out W hW W' h')
  · refine hdone 115 2 (fun args W=>by simp [go_sem]) (fun W hW=> ?_) (by rw [h];rfl)
    rw [hn11 (mulF) (by omega) (fun a b=>by rw [h];rfl)]
    exact Z0g X b o _ cap _ _ W (Lib.hid fun W' h'=>hboth.out W hW W' h')
  · refine hdone 116 3 (fun args W=>by simp [go_sem]) (fun W hW=> ?_) (by rw [h];rfl)
    rw [hn11 (fun a b=>(min a b,0)) (by omega) (fun a b=>by rw [h];rfl)]
    exact Zrr X b o _ cap _ _ W (Lib.hid fun W' h'=>hboth.out W hW W' h')
  · refine hdone 117 4 (fun args W=>by simp [go_sem]) (fun W hW=> ?_) (by rw [h];rfl)
    rw [hn11 (fun a b=>(max a b,0)) (by omega) (fun a b=>by rw [h];rfl)]
    exact Zhz X b o _ cap _ _ W (Lib.hid fun W' h'=>hboth.out W hW W' h')
  · refine hdone 118 5 (fun args W=>by simp [go_sem]) (fun W hW=> ?_) (by rw [h];rfl)
    rw [hn11 (fun a b=>divF a b 8) (by omega) (fun a b=>by rw [h];rfl)]
    exact Zvr X b o _ cap _ _ W (Lib.hid fun W' h'=>hboth.out W hW W' h')
  · refine hdone 119 6 (fun args W=>by simp [go_sem]) (fun W hW=> ?_) (by rw [h];rfl)
    rw [hn11 (fun a b=>divF a b 9) (by omega) (fun a b=>by rw [h];rfl)]
    exact Z5b X b o _ cap _ _ W (Lib.hid fun W' h'=>hboth.out W hW W' h')
  · refine hdone 120 7 (fun args W=>by simp [go_sem]) (fun W hW=> ?_) (by rw [h];rfl)
    rw [hn11 (fun a b=>divF a b 10) (by omega) (fun a b=>by rw [h];rfl)]
    exact Zvs X b o _ cap _ _ W (Lib.hid fun W' h'=>hboth.out W hW W' h')
  · obtain ⟨b',o',cap',_,_,_,_,c2,hcs,_,_,hl2',hr2,hE2⟩:=he.nth 2 (by omega)
    simp only [List.cons.injEq,Value.int.injEq,Value.slice.injEq,Option.some.injEq,Addr.mk.injEq,true_and,and_true] at hcs
    obtain ⟨_,_,_,_,⟨rfl,rfl⟩,rfl⟩:=hcs
    obtain ⟨b',o',cap',_,_,_,_,c3,hcs,_,_,hl3',hr3,hE3⟩:=he.nth 3 (by omega)
    simp only [List.cons.injEq,Value.int.injEq,Value.slice.injEq,Option.some.injEq,Addr.mk.injEq,true_and,and_true] at hcs
    obtain ⟨_,_,_,_,⟨rfl,rfl⟩,rfl⟩:=hcs
    simp only [Nat.reduceMul] at hr2 hr3
    refine hdone 121 8 (fun args W=>by simp [go_sem]) (fun W hW=> ?_) (by rw [h];rfl)
    rw [hv,if_neg (show ¬(e.op≠11) from fun hh=>hh h)]
    exact Zmy X b o _ cap _ _ _ _ c2 c3 W (by omega) (Lib.hid hl2') (Lib.hid hl3') (hW.range hr2) (hW.range hr3) (Lib.hid fun W' h'=>hboth.out W hW W' h')
     (Lib.hid fun W' h'=>ih _ _ _ X W' (hfs 2 (by omega)) (hE2.ext (hW.trans h')) (hX.ext (hW.trans h'))) (Lib.hid fun W' h'=>ih _ _ _ X W' (hfs 3 (by omega)) (hE3.ext (hW.trans h')) (hX.ext (hW.trans h')))
end
section
open Go.RowKit
set_option maxHeartbeats 1000000 in
theorem Vm (p:Addr) (w:World):
 CallsD Tryz.prog 76 #[.pointer (some p)] .returning w fun en u' w'=>en= .returned (.tuple #[])/\u'= .returning/\w=w':=by
 refine callsD_of_wpS Tryz.func76 rfl fun c₀ cs hu=> ?_
 apply wpS_seq
 apply wpS_region
 simp [wpOpsS,go_sem,recoverD,hu,Tryz.ntmps76,Exit.thenS]
 simp only [List.size_toArray,List.length_cons,List.length_nil,Nat.reduceAdd,Nat.reduceSub,Array.replicate_succ,Array.replicate_zero,List.push_toArray,List.append_toArray,List.nil_append,List.cons_append,List.setIfInBounds_toArray,List.set_cons_zero,List.set_cons_succ]
 refine wpS_of_wp ?_
 go_wp2_with fail
 exact ⟨rfl,.returning,by cases c₀;simp_all,_,results_none rfl _ _ _,rfl,rfl,rfl⟩
theorem Zkd (v:Value) (w:World):(Instr.typeAssert (.iface 167 v) 20 167 true).run Tryz.prog w= .ok (.tuple #[v,.bool true]) w:=by kernel_rfl
set_option maxHeartbeats 1000000 in
theorem Ug (p:Addr) (x e:Int) (w:World) (hc:w.cell? p=some (.int .i64 x)) (hz:w.frozen? p=false) (hb:p.block<w.heap.size):
 CallsD Tryz.prog 76 #[.pointer (some p)] (.panicking (Zc9 e)) w fun en u' w'=>en= .returned (.tuple #[])/\u'= .panicking [{v:=Zw6 e,recovered:=true}]/\
  w'=(w.alloc (.cells #[.int .i64 e] 167)).setCell p (.int .i64 e):=by
 refine callsD_of_wpS Tryz.func76 rfl fun c₀ cs hu=> ?_
 unfold Zc9 at hu
 apply wpS_seq
 apply wpS_region
 simp [wpOpsS,go_sem,recoverD,hu,Tryz.ntmps76,Exit.thenS]
 simp only [List.size_toArray,List.length_cons,List.length_nil,Nat.reduceAdd,Nat.reduceSub,Array.replicate_succ,Array.replicate_zero,List.push_toArray,List.append_toArray,List.nil_append,List.cons_append,List.setIfInBounds_toArray,List.set_cons_zero,List.set_cons_succ]
 refine wpS_of_wp ?_
 unfold Zw6
 have hta:=Zkd
 have hc':∀o,(w.alloc o).cell? p=some (.int .i64 x):=fun o=>by rw [World.cell?_alloc_lt w o p hb];exact hc
 have hz':∀o,(w.alloc o).frozen? p=false:=fun o=>by rw [World.frozen?_alloc_old w o p (by omega)];exact hz
 go_wp2_with fail
 exact ⟨rfl,_,rfl,_,results_none rfl _ _ _,rfl,rfl,rfl⟩
theorem Uh {P:Program} {fn:Func} {t t':Array Value} {R:Ending->World->Prop} (h:∀w,(results fn t).run P w=(results fn t').run P w):
 ∀(ds:List Deferred) (u:FrameMode) (w:World),Leaves P fn t R ds u w->Leaves P fn t' R ds u w
 | [],.returning,w,⟨v,hv,hR⟩=>⟨v,(h w).symm.trans hv,hR⟩
 | [],.panicking _,w,hh=>hh
 | [],.run,_,hh=>hh.elim
 |d::ds,u,w,⟨h1,fv,cap,f,args,h2,h3,h4⟩=>⟨h1,fv,cap,f,args,h2,h3,h4.mono fun e u' w' hh=>by
  cases e with
  |returned v=>exact Uh h ds _ _ hh
  |panicked c=>exact Uh h ds _ _ hh
  |outgrown=>exact hh⟩
theorem Zen {P:Program} {fn:Func} {R:Ending->World->Prop} {c:List PanicEntry} {a:Act} {d:Option Tmp} {v:Value} {w:World}
 (h:∀W,(results fn (a.put d v).tmps).run P W=(results fn a.tmps).run P W) (hq:bodyPostD P fn R (.panic c) (a.put d v) w):bodyPostD P fn R (.panic c) a w:=by
 have:(a.put d v).defers=a.defers:=by cases d<;>rfl
 refine Uh h _ _ _ ?_
 rw [<-this]
 exact hq
set_option maxHeartbeats 1000000 in
theorem Z0s (x:Ev) (d:Nat) (cs:List Value) (e:Ex) (w:World) (he:ExIn w d cs e) (hf:W6 24 e=false):
 Calls Tryz.prog 48 #[.agg cs.toArray,.agg x.cells.toArray] w fun en w'=>en= .returned (.tuple #[.int .i64 0,.int .i64 1])/\Ext w w':=by
 have hfm:=fun (W:World) (h:Ext w W)=>Zll 24 d cs e W (by omega) (he.ext h)
 rw [hf] at hfm
 have HF:=Lib.hid hfm
 obtain ⟨A,cap,u0,u1,u2,u3,rfl,_⟩:=he.open_
 clear hfm he
 go_enter_defers Tryz.func48,Tryz.ntmps48
 go_wp2_with fail
 refine (HF.out _ ((((Ext.refl _).alloc _).alloc _).alloc _)).mono ?_
 rintro e1 w1 ⟨rfl,hx1⟩
 have hx:=((((Ext.refl w).alloc _).alloc _).alloc _).trans hx1
 have hc5:=hx1.cell (p:=⟨w.heap.size+1+1,0,none⟩) (v:= .int .i64 0) (by simp [go_sem])
 have hz5:=hx1.frozen_eq (p:=⟨w.heap.size+1+1,0,none⟩) (by simp)
 have hz5':w1.frozen? ⟨w.heap.size+1+1,0,none⟩=false:=by rw [hz5];simp [go_sem]
 clear hx1 hz5
 go_wp2_with fail
 have hsame:(w1.setCell ⟨w.heap.size+1+1,0,none⟩ (.int .i64 1)).cell? ⟨w.heap.size+1+1,0,none⟩=some (.int .i64 1):=World.cell?_setCell_same' _ _ _ (by rw [hc5];rfl)
 exact ⟨.tuple #[.int .i64 0,.int .i64 1],by simp [results,Tryz.results48,go_sem,hsame],rfl,hx.setCell (by simp;omega) _⟩
set_option maxHeartbeats 2000000 in
theorem Zv1 (x:Ev) (hxo:x.ok) (d:Nat) (cs:List Value) (e:Ex) (w:World) (he:ExIn w d cs e) (hf:W6 24 e=true):
 Calls Tryz.prog 48 #[.agg cs.toArray,.agg x.cells.toArray] w fun en w'=>en= .returned (.tuple #[.int .i64 (if (Zg 24 e x).2=0 then (Zg 24 e x).1 else 0),.int .i64 (Zg 24 e x).2])/\Ext w w':=by
 have hfm:=fun (W:World) (h:Ext w W)=>Zll 24 d cs e W (by omega) (he.ext h)
 rw [hf] at hfm
 have HF:=Lib.hid hfm
 have hev:=fun (X:Nat) (W:World) (h:Ext w W) (hX:EvAt W X x)=>Zyl x hxo 24 d cs e X W hf (he.ext h) hX
 have HEV:=Lib.hid hev
 have hl7:=he.len
 have hxl:x.cells.length=17:=by simp [Ev.cells,hxo.1]
 have HL7:=Lib.hid hl7
 have HXL:=Lib.hid hxl
 obtain ⟨r,hr⟩:∃r,Zg 24 e x=r:=⟨_,rfl⟩
 rw [hr] at HEV⊢
 clear hfm hev hr hl7 hxl
 obtain ⟨A,cap,u0,u1,u2,u3,rfl,_⟩:=he.open_
 clear he
 go_enter_defers Tryz.func48,Tryz.ntmps48
 go_wp2_with fail
 refine (HF.out _ ((((Ext.refl _).alloc _).alloc _).alloc _)).mono ?_
 rintro e1 w1 ⟨rfl,hx1⟩
 have hx:=((((Ext.refl w).alloc _).alloc _).alloc _).trans hx1
 have hc5:=hx1.cell (p:=⟨w.heap.size+1+1,0,none⟩) (v:= .int .i64 0) (by simp [go_sem])
 have hz5:=hx1.frozen_eq (p:=⟨w.heap.size+1+1,0,none⟩) (by simp)
 have hz5':w1.frozen? ⟨w.heap.size+1+1,0,none⟩=false:=by rw [hz5];simp [go_sem]
 have hsz:=hx1.size
 simp at hsz
 have hr3:w1.rangeAt (w.heap.size+1) 0 x.cells:=hx1.range (by intro j v hv;simp [go_sem,hv])
 have hr2:w1.rangeAt (w.heap.size) 0 [.int .i64 e.op,.int .i64 e.n,.int .i64 u0,.int .i64 u1,.int .i64 u2,.int .i64 u3,.slice A e.l.length cap]:=hx1.range (by intro j v hv;simp [go_sem] at hv⊢;exact hv)
 clear hx1 hz5
 go_wp2_with fail
 refine Zat [(0,true),(2,true),(1,false),(3,false),(4,false),(5,false)] (Below (w.heap.size+2) w1) (by kernel_rfl) (by kernel_rfl) ?_ (Below.refl _ _).drew ?_
 · intro p hp hp2 o ho c a w' v hq
   have hcase:o.dst=some 9\/o.dst=some 11:=by
    simp only [List.mem_cons,List.not_mem_nil,or_false] at hp
    rcases hp with rfl|rfl|rfl|rfl|rfl|rfl
    · simp at ho;subst ho;exact .inl rfl
    · simp at ho;subst ho;exact .inr rfl
    all_goals cases hp2
   have hres:∀(k:Nat) (W:World),k≠4->k≠5->(results Tryz.f48 (a.tmps.setIfInBounds k v)).run Tryz.prog W=(results Tryz.f48 a.tmps).run Tryz.prog W:=by
    intro k W h4 h5
    have e:∀j,j≠k->(a.tmps.setIfInBounds k v)[j]? =a.tmps[j]? :=fun j hj=>by
     simp only [Array.getElem?_setIfInBounds,if_neg (Ne.symm hj)]
    simp only [results,Tryz.results48,List.size_toArray]
    simp [e 4 (Ne.symm h4),e 5 (Ne.symm h5)]
   refine Zen (P:=Tryz.prog) (fn:=Tryz.f48) (d:=o.dst) (v:=v) ?_ hq
   intro W
   rcases hcase with h|h<;>rw [h]
   · exact hres 9 W (by omega) (by omega)
   · exact hres 11 W (by omega) (by omega)
 refine ⟨_,_,rfl,yieldsIf_load_mid (by rfl) _ _ rfl (w.heap.size+1) _ rfl x.cells _ (fun W h j v hv=>(h.cell (by simp)).trans (hr3 j v hv)) Tryz.underlying53 rfl (by rw [HXL.out];exact X9),?_⟩
 try simp only [Act.put,List.getElem_toArray,List.getElem_cons_zero,List.getElem_cons_succ,List.setIfInBounds_toArray,List.set_cons_zero,List.set_cons_succ]
 refine ⟨_,_,rfl,yieldsIf_load_mid (by rfl) _ _ rfl (w.heap.size) _ rfl _ _ (fun W h j v hv=>(h.cell (by simp)).trans (hr2 j v hv)) Tryz.underlying47 rfl Xh,?_⟩
 try simp only [Act.put,List.getElem_toArray,List.getElem_cons_zero,List.getElem_cons_succ,List.setIfInBounds_toArray,List.set_cons_zero,List.set_cons_succ]
 refine ⟨_,rfl,by rfl,?_⟩
 try simp only [List.getElem_toArray,List.getElem_cons_zero,List.getElem_cons_succ]
 go_step
 refine (Zk2 x _ hxo).mono ?_
 rintro e1 w2 ⟨rfl,hx2,hX⟩
 have hx12:Ext w1 w2:=(Ext.refl _).drew.trans hx2
 refine ⟨Below.mono hx12 (by omega),?_⟩
 try simp only [Act.put,List.getElem_toArray,List.getElem_cons_zero,List.getElem_cons_succ,List.setIfInBounds_toArray,List.set_cons_zero,List.set_cons_succ]
 have hcall:=HEV.out _ _ (hx.trans hx12) hX
 have HCALL:=Lib.hid hcall
 clear hcall hX hx2
 generalize w1.drew.heap.size+1=X at*
 refine ⟨_,rfl,by rfl,?_⟩
 try simp only [List.getElem_toArray,List.getElem_cons_zero,List.getElem_cons_succ]
 go_step
 refine HCALL.out.mono ?_
 rintro e1 w3 ⟨⟨hz,rfl⟩|⟨hz,rfl⟩,hx3⟩
 · have HZ:=Lib.hid hz
   clear hz
   have hx13:=hx12.trans hx3
   have hc5':=hx13.cell hc5
   have hz5'':w3.frozen? ⟨w.heap.size+1+1,0,none⟩=false:=by rw [hx13.frozen_eq (by simp;omega)];exact hz5'
   refine ⟨Below.mono hx13 (by omega),?_⟩
   try simp only [Act.put,List.getElem_toArray,List.getElem_cons_zero,List.getElem_cons_succ,List.setIfInBounds_toArray,List.set_cons_zero,List.set_cons_succ]
   refine ⟨_,rfl,by rfl,?_⟩
   try simp only [List.getElem_toArray,List.getElem_cons_zero,List.getElem_cons_succ]
   go_step
   refine ⟨Below.mono hx13 (by omega),?_⟩
   try simp only [Act.put,List.getElem_toArray,List.getElem_cons_zero,List.getElem_cons_succ,List.setIfInBounds_toArray,List.set_cons_zero,List.set_cons_succ]
   refine ⟨_,rfl,by rfl,?_⟩
   try simp only [List.getElem_toArray,List.getElem_cons_zero,List.getElem_cons_succ]
   go_step
   refine ⟨(Below.mono hx13 (by omega)).setCell (by simp) _,?_⟩
   try simp only [Act.put,List.getElem_toArray,List.getElem_cons_zero,List.getElem_cons_succ,List.setIfInBounds_toArray,List.set_cons_zero,List.set_cons_succ]
   simp only [Zo3]
   go_wp2_with fail
   have hsame:(w3.setCell ⟨w.heap.size+1+1,0,none⟩ (.int .i64 0)).cell? ⟨w.heap.size+1+1,0,none⟩=some (.int .i64 0):=World.cell?_setCell_same' _ _ _ (by rw [hc5'];rfl)
   refine leaves_cons (f:=76) (args:= #[.pointer (some ⟨w.heap.size+1+1,0,none⟩)]) (by simp) (by simp [go_sem]) ((Vm _ _).mono ?_)
   rintro en u' w'' ⟨rfl,rfl,rfl⟩
   exact ⟨.tuple #[.int .i64 r.1,.int .i64 0],by simp [results,Tryz.results48,go_sem,hsame],Zf (by first|rfl|rw [if_pos HZ.out]) (by first|rfl|exact HZ.out.symm),(hx.trans hx13).setCell (by simp;omega) _⟩
 · have HZ:=Lib.hid hz
   clear hz
   have hx13:=hx12.trans hx3
   have hc5':=hx13.cell hc5
   have hz5'':w3.frozen? ⟨w.heap.size+1+1,0,none⟩=false:=by rw [hx13.frozen_eq (by simp;omega)];exact hz5'
   go_wp2_with fail
   have hlt:w.heap.size+1+1<w3.heap.size:=by have:=hx13.size;omega
   refine leaves_cons (f:=76) (args:= #[.pointer (some ⟨w.heap.size+1+1,0,none⟩)]) (by simp) (by simp [go_sem]) ((Ug _ 0 r.2 _ hc5' hz5'' hlt).mono ?_)
   rintro en u' w'' ⟨rfl,rfl,rfl⟩
   have hsame:((w3.alloc (.cells #[.int .i64 r.2] 167)).setCell ⟨w.heap.size+1+1,0,none⟩ (.int .i64 r.2)).cell? ⟨w.heap.size+1+1,0,none⟩=some (.int .i64 r.2):=
    World.cell?_setCell_same' _ _ _ (by rw [World.cell?_alloc_lt w3 _ _ hlt,hc5'];rfl)
   simp only [settle,List.dropWhile]
   exact ⟨.tuple #[.int .i64 0,.int .i64 r.2],by simp [results,Tryz.results48,go_sem,hsame],Zf (by first|rfl|rw [if_neg HZ.out]) rfl,((hx.trans hx13).alloc _).setCell (by simp;omega) _⟩
theorem Zv2 (x:Ev) (hx:x.ok) (d:Nat) (cs:List Value) (e:Ex) (w:World) (he:ExIn w d cs e):
 Calls Tryz.prog 48 #[.agg cs.toArray,.agg x.cells.toArray] w fun en w'=>en= .returned (.tuple #[.int .i64 (Za8 e x).1,.int .i64 (Za8 e x).2])/\Ext w w':=by
 unfold Za8
 cases hf:W6 24 e
 · simpa using Z0s x d cs e w he hf
 · simp only [if_true]
   refine (Zv1 x hx d cs e w he hf).mono fun en w' ⟨h1,h2⟩=>⟨?_,h2⟩
   rw [h1]
   by_cases hz:(Zg 24 e x).2=0
   · rw [if_pos hz]
   · rw [if_neg hz,Zfd 24 e x hz]
end
section
open Go
end
section
open Go
def SepL (s t:List Nat):Prop:=(∀c,s.getLast? =some c->isLD c=false)\/(∀c,t.head? =some c->isLD c=false)
def atT (p:Nat) (t:Tok):Tok:=⟨t.kind,t.text,t.n,p⟩
theorem SepL.tail {w s t:List Nat} (hs:s≠ []) (h:SepL (w++s) t):SepL s t:=by
 rcases h with h|h
 · refine .inl fun c hc=>h c ?_
   rw [List.getLast?_append,hc]
   rfl
 · exact .inr h
def sT (t:Tok):Tok:=atT 0 t
end
section
open Go
theorem Zc2 {f:FuncId} {args:List (SV thy)} {v:SV thy} (h:∀(g:GH) (w:World) (vals:Array Value),Inv E w.heap.size σ0 hp0 g w->DenL E σ0 g args vals.toList->Calls E.P f vals w fun en w'=>∃u,en= .returned u/\Den E σ0 g v u/\Ext w w'):PureC E f args v:=by
 intro g w vals hI hd
 refine (h g w vals hI hd).mono ?_
 rintro en w' ⟨u,he,hv,hx⟩
 refine ⟨u,he,g,⟨.refl _,fun b p h=> .inl h,.refl _,fun _ _ _ h=> .inl h,fun _ _ h=> .inl h,fun r hr _=>hx.block hr,hx.size,hx.os,hx.tape,hx.output,fun b r z h1 h2=>by cases h2⟩,?_,hv⟩
 refine ⟨fun r o u hu=>hx.cell (hI.gc r o u hu),fun r es hu=> ?_,(fun b x hx=>by cases hx),fun b b' r z z' h1=>absurd rfl h1,(fun b r z hs=>by cases hs),(fun b x r z o v hx=>by cases hx),(fun b x r z hx=>by cases hx),hI.glob⟩
 obtain ⟨c,hc⟩:=hI.gm r es hu
 have hr:r<w.heap.size:=by
  rcases Nat.lt_or_ge r w.heap.size with h|h
  · exact h
  · rw [Array.getElem?_eq_none h] at hc;cases hc
 exact ⟨c,by rw [hx.block hr];exact hc⟩
end
section
open Go
theorem Z54 {arr:Array Value} {c:Nat->Value} {n:Nat} (hs:arr.size=n) (hc:∀j,j<n->arr[j]? =some (c j)):arr=((List.range n).map c).toArray:=by
 apply Array.ext'
 apply List.ext_getElem?
 intro j
 rw [Array.getElem?_toList]
 by_cases hj:j<n
 · rw [hc j hj,List.getElem?_map,List.getElem?_range hj];rfl
 · rw [Array.getElem?_eq_none (by omega),List.getElem?_eq_none (by simp;omega)]
theorem Zdm {σ:Pl} {g:GH} {l:Bool} {k:IntKind} {n:Int} {u:Value} (h:Den E σ g (.int l k n) u):u= .int k n:=by cases h;rfl
theorem Z8z {g:GH} {w:World} (hI:Inv E w.heap.size σ0 hp0 g w):∀(n:Nat) (x:Ex),x.sz<=n->∀(c:Nat->Value),(∀(j:Nat) sv,(encF false .exprs x)[j]? =some sv->Den E σ0 g sv (c j))->ExIn w n [c 0,c 1,c 2,c 3,c 4,c 5,c 6] x
 |0,x,hx,_,_=>by have:=Ex.sz_pos x;omega
 |n+1,.mk op m a b d e l,hx,c,h=>by
  have e0:=Zdm (h 0 _ rfl)
  have e1:=Zdm (h 1 _ rfl)
  have e2:=Zdm (h 2 _ rfl)
  have e3:=Zdm (h 3 _ rfl)
  have e4:=Zdm (h 4 _ rfl)
  have e5:=Zdm (h 5 _ rfl)
  obtain ⟨base,cc,cv,h6,hl,hm,hf,hn,hb,hd⟩:=Xp (h 6 _ rfl)
  have hl:l.length<=cc:=hl
  refine ⟨.slice base l.length cc,?_,trivial,trivial,trivial,trivial,trivial,trivial,base,cc,rfl,hl,by unfold maxLen at hm;omega,fun h0=> ?_⟩
  · rw [e0,e1,e2,e3,e4,e5,h6];rfl
  · obtain ⟨r,o,hbase,hcell⟩:=hb h0
    refine ⟨r,o,hbase,?_,fun i x hi=>⟨[cv i 0,cv i 1,cv i 2,cv i 3,cv i 4,cv i 5,cv i 6],rfl,?_,?_⟩⟩
    · exact block_lt_of_cell (hI.gc _ _ _ (hcell 0 _ (gB9 h0) 0 (show (0:Nat)<7 by decide)))
    · intro j v hv
      have hj:j<7:=(gA9.1 hv).1
      have:=hI.gc _ _ _ (hcell i x hi j hj)
      have ev:cv i j=v:=by
       match j,hj,hv with
       |0,_,hv=>cases hv;rfl
       |1,_,hv=>cases hv;rfl
       |2,_,hv=>cases hv;rfl
       |3,_,hv=>cases hv;rfl
       |4,_,hv=>cases hv;rfl
       |5,_,hv=>cases hv;rfl
       |6,_,hv=>cases hv;rfl
      rw [<-ev]
      exact this
    · have hz:x.sz<Ex.sz (.mk op m a b d e l):=Ex.sz_mem (List.mem_of_getElem? hi)
      exact Z8z hI n x (by omega) (cv i) (hd i x hi)
def evA (x:Ev):SV thy:= .agg (.int false .i64 x.has::x.v.map (.int false .i64))
def Yan (y:Int×Int):SV thy:= .tup [.int false .i64 y.1,.int false .i64 y.2]
theorem Z1v {σ:Pl} {g:GH} {a b:Int}:Den E σ g (.tup [.int false .i64 a,.int false .i64 b]) (.tuple #[.int .i64 a,.int .i64 b]):=by
 refine .tup (fun j=>match j with|0=> .int .i64 a|_=> .int .i64 b) rfl (fun j hj=> ?_) (fun j sv hj=> ?_)
 · match j,hj with
   |0,_=>rfl
   |1,_=>rfl
 · match j,hj with
   |0,hj=>cases hj;exact .int _ _ _
   |1,hj=>cases hj;exact .int _ _ _
end
section
open Go.RowKit
structure Tso where
 a:Int
 lo:Int
 hi:Int
structure Cl where
 name:ByteArray
 tests:List Tso
 pay:Ex
structure Tf where
 name:ByteArray
 kind:Int
 cls:List Cl
def I64r (x:Int):Prop:= -9223372036854775808<=x/\x<=9223372036854775807
def Z9j (cs:List Value) (t:Tso):Prop:=cs= [.int .i64 t.a,.int .i64 t.lo,.int .i64 t.hi]/\I64r t.a/\I64r t.lo/\I64r t.hi
def ClIn (w:World) (cs:List Value) (c:Cl):Prop:=∃sv ps,cs= .string c.name::sv::ps/\SlIn w 3 Z9j sv c.tests/\ExR w ps c.pay
def TfIn (w:World) (cs:List Value) (t:Tf):Prop:=∃sv,cs= [.string t.name,.int .i64 t.kind,sv]/\I64 t.kind/\SlIn w 9 (ClIn w) sv t.cls
theorem ClIn.ext {w w':World} (hx:Ext w w') {cs:List Value} {c:Cl} (h:ClIn w cs c):ClIn w' cs c:=by
 obtain ⟨sv,ps,hcs,hs,he⟩:=h
 exact ⟨sv,ps,hcs,hs.mono hx fun _ _ _ h=>h,he.ext hx⟩
def Z9 (x:Ev):List Tso->Bool×Int
 | []=>(true,0)
 |t::ts=>if t.a<0\/16<=t.a then (false,1) else if (Zy x t.a.toNat).2≠0 then (false,(Zy x t.a.toNat).2) else
  if (Zy x t.a.toNat).1<t.lo\/t.hi<(Zy x t.a.toNat).1 then (false,0) else Z9 x ts
def Y6 (x:Ev):List Cl->Nat->Int×Int×Int
 | [],_=>(0,0,180)
 |c::cs,k=>if (Z9 x c.tests).2≠0 then (0,0,(Z9 x c.tests).2) else if (Z9 x c.tests).1=false then Y6 x cs (k+1) else
  if (Za8 c.pay x).2≠0 then (0,0,(Za8 c.pay x).2) else ((Za8 c.pay x).1,k,0)
theorem SlIn.open_ {α:Type} {w:World} {k:Nat} {R:List Value->α->Prop} {sv:Value} {l:List α} (h:SlIn w k R sv l):
 ∃A cap,sv= .slice A l.length cap/\l.length<=9223372036854775807/\l.length<=cap/\
  Hid (∀i x,l[i]? =some x->∃b o cs,A=some ⟨b,o,none⟩/\b<w.heap.size/\cs.length=k/\w.rangeAt b (o+i*k) cs/\R cs x):=by
 obtain ⟨A,cap,rfl,h1,h2,h3⟩:=h
 refine ⟨A,cap,rfl,by omega,h1,fun i x hi=> ?_⟩
 have hlt:i<l.length:=(gA9.1 hi).1
 obtain ⟨b,o,rfl,hb,h4⟩:=h3 (by omega)
 obtain ⟨cs,hl,hr,hR⟩:=h4 i x hi
 exact ⟨b,o,cs,rfl,hb,hl,hr,hR⟩
end
section
open Go.RowKit
theorem Zex:(Tryz.prog.info? 72).map (·.size)=some 3:=by kernel_rfl
theorem Znh (x:Ev) (l:List Tso) (k:Nat) (h:k<l.length):Z9 x (l.drop k)=if l[k].a<0\/16<=l[k].a then (false,1) else if (Zy x l[k].a.toNat).2≠0 then (false,(Zy x l[k].a.toNat).2) else
 if (Zy x l[k].a.toNat).1<l[k].lo\/l[k].hi<(Zy x l[k].a.toNat).1 then (false,0) else Z9 x (l.drop (k+1)):=by
 rw [List.drop_eq_getElem_cons h];rfl
set_option maxHeartbeats 2000000 in
theorem Zr8 (x:Ev) (hx:x.ok) (cs:List Value) (c:Cl) (w:World) (hc:ClIn w cs c):
 Calls Tryz.prog 47 #[.agg cs.toArray,.agg x.cells.toArray] w fun en w'=>en= .returned (.tuple #[.bool (Z9 x c.tests).1,.int .i64 (Z9 x c.tests).2])/\Ext w w':=by
 have HXL:=Lib.hid (show x.cells.length=17 by simp [Ev.cells,hx.1])
 obtain ⟨sv,ps,rfl,hs,d,he⟩:=hc
 obtain ⟨A0,cap0,u0,u1,u2,u3,rfl,_⟩:=he.open_
 obtain ⟨A,cap,rfl,hlen,hcap,HEL⟩:=hs.open_
 obtain ⟨r,hr⟩:∃r,Z9 x c.tests=r:=⟨_,rfl⟩
 rw [hr]
 have HR:=Lib.hid hr
 clear hr he hs
 generalize c.tests=l at*
 generalize hn:l.length=n at*
 have HN:=Lib.hid hn
 clear hn
 have hr30:∀o,(((w.alloc o).alloc (.cells x.cells.toArray 53)).alloc (.cells #[.int .i64 0] 29)).rangeAt (w.heap.size+1) 0 x.cells:=by
  intro o j v hv;simp [go_sem,hv]
 have HR3:=Lib.hid hr30
 clear hr30
 go_enter_defers Tryz.func47,Tryz.ntmps47
 go_wp2_with (refine wpList_load_mid rfl 53 _ rfl (w.heap.size+1) 0 rfl x.cells _ (HR3.out _) Tryz.underlying53 rfl (by rw [HXL.out];exact X9) ?_)
 refine (Zk2 x _ hx).mono ?_
 rintro e1 w1 ⟨rfl,hx1,hX⟩
 have hx0:=((((Ext.refl w).alloc _).alloc _).alloc _).trans hx1
 have hc1:=hx1.cell (p:=⟨w.heap.size,1,none⟩) (v:= .slice A n cap) (by simp [go_sem])
 have hc5:=hx1.cell (p:=⟨w.heap.size+1+1,0,none⟩) (v:= .int .i64 0) (by simp [go_sem])
 have hz5:=hx1.frozen_eq (p:=⟨w.heap.size+1+1,0,none⟩) (by simp)
 have hz5':w1.frozen? ⟨w.heap.size+1+1,0,none⟩=false:=by rw [hz5];simp [go_sem]
 have hsz:=hx1.size
 simp at hsz
 generalize hXe:World.heap _=Hp at hX
 generalize Hp.size+1=X at hX
 clear hx1 hz5 HR3 hXe
 go_wp2_with fail
 go_loopw [4,15] (fun b4 i wr=>∃k:Nat,k<=n/\b4= .bool false/\i= .int .i64 k/\Hid (Z9 x (l.drop k)=r)/\Ext w1 wr) (fun _ i _=>n-(intOf i).toNat)
 case atStart=>exact ⟨0,Nat.zero_le _,rfl,rfl,HR.out,Ext.refl _⟩
 case round=>
  obtain ⟨k,hk,rfl,rfl,HK,hxr⟩:=hrel
  by_cases hlt:k<n
  · have hlk:k<l.length:=by rw [HN.out];exact hlt
    obtain ⟨b,o,cs1,rfl,hb,hl1,hr1,rfl,i1,i2,i3⟩:=HEL.out k l[k] (gB9 hlk)
    have hrr:=hxr.range (hx0.range hr1)
    have hst:=Znh x l k hlk
    rw [HK.out] at hst
    have hta:I64r l[k].a:=i1
    have hX2:=fun o=>hX.ext (hxr.alloc o)
    have HX2:=Lib.hid hX2
    generalize l[k].a=ta at*
    generalize l[k].lo=lo at*
    generalize l[k].hi=hi at*
    have HS:=Lib.hid hst
    clear hst hr1 HK hl1 hlk i1 i2 i3 hX2
    by_cases h1:ta<0\/16<=ta
    · have HS2:=Lib.hid (show r=(false,1) by rw [HS.out,if_pos h1])
      clear HS
      have hld:∀W,Calls Tryz.prog 78 #[.pointer (some ⟨X,0,none⟩),.int .i64 ta] W fun en w'=>en= .panicked (Zc9 1)/\Ext W w':=
       fun W=>(Zw7 ta X W h1).mono fun _ _ h=>⟨h.1,h.2▸Ext.refl _⟩
      have HLO:=Lib.hid hld
      clear hld
      go_wp2_with (refine wpList_load_mid rfl 72 _ rfl b (o+k*3) rfl _ _ hrr Tryz.underlying72 rfl Zex ?_)
      refine (HLO.out _).mono ?_
      rintro e1 w2 ⟨rfl,hx2⟩
      have hx12:Ext w1 w2:=(hxr.alloc _).trans hx2
      clear hx2
      have g5:=Ext.cell (hx12) hc5
      have gz:World.frozen? w2 ⟨w.heap.size+1+1,0,none⟩=false:=by rw [Ext.frozen_eq (hx12) (by simp;omega)];exact hz5'
      have glt:w.heap.size+1+1<(w2).heap.size:=by have:=Ext.size (hx12);omega
      go_wp2_with fail
      refine leaves_cons (f:=76) (args:= #[.pointer (some ⟨w.heap.size+1+1,0,none⟩)]) (by simp) (by simp [go_sem]) ((Ug _ 0 1 _ g5 gz glt).mono ?_)
      rintro en u' w'' ⟨rfl,rfl,rfl⟩
      have hsame:((World.alloc w2 (.cells #[.int .i64 1] 167)).setCell ⟨w.heap.size+1+1,0,none⟩ (.int .i64 1)).cell? ⟨w.heap.size+1+1,0,none⟩=some (.int .i64 1):=
       World.cell?_setCell_same' _ _ _ (by rw [World.cell?_alloc_lt w2 _ _ glt,g5];rfl)
      simp only [settle,List.dropWhile]
      exact ⟨.tuple #[.bool false,.int .i64 1],by simp [results,Tryz.results47,go_sem,hsame],Zl5 (by rw [HS2.out]) (by rw [HS2.out]),Ext.setCell (Ext.alloc (hx0.trans hx12) _) (by simp;omega) _⟩
    · have hs:=HS.out
      rw [if_neg h1] at hs
      obtain ⟨a,rfl⟩:=Int.eq_ofNat_of_zero_le (show 0<=ta by omega)
      rw [Int.toNat_natCast] at hs
      have ha:a<16:=by omega
      have hload:=fun o=>Zp5 x a X _ hx (HX2.out o) ha
      generalize Zy x a=q at*
      have HLO:=Lib.hid hload
      obtain ⟨q1,q2⟩:=q
      clear HS hload h1 ha
      by_cases hq:q2=0
      · subst hq
        rw [if_neg (by simp)] at hs
        have hq3:q1<lo\/hi<q1\/(lo<=q1/\q1<=hi):=by omega
        have hs2:(q1<lo\/hi<q1->r=(false,0))/\(lo<=q1/\q1<=hi->r=Z9 x (l.drop (k+1))):=
         ⟨fun h=>by rw [hs,if_pos h],fun h=>by rw [hs,if_neg (by omega)]⟩
        have HS2:=Lib.hid hs2
        clear hs hs2
        go_wp2_with (refine wpList_load_mid rfl 72 _ rfl b (o+k*3) rfl _ _ hrr Tryz.underlying72 rfl Zex ?_)
        refine (HLO.out _).mono ?_
        rintro e1 w2 ⟨⟨_,rfl⟩|⟨h0,rfl⟩,hx2⟩
        · have c1:=hx2.cell (p:=⟨wr.heap.size,1,none⟩) (v:= .int .i64 lo) (by simp [go_sem])
          have c2:=hx2.cell (p:=⟨wr.heap.size,2,none⟩) (v:= .int .i64 hi) (by simp [go_sem])
          have hx12:Ext w1 w2:=(hxr.alloc _).trans hx2
          clear hx2
          have g5:=Ext.cell (hx12) hc5
          have gz:World.frozen? w2 ⟨w.heap.size+1+1,0,none⟩=false:=by rw [Ext.frozen_eq (hx12) (by simp;omega)];exact hz5'
          have glt:w.heap.size+1+1<(w2).heap.size:=by have:=Ext.size (hx12);omega
          rcases hq3 with h1|h1|⟨h1,h2⟩
          · have HS3:=Lib.hid (HS2.out.1 (.inl h1))
            go_wp2_with fail
            have hsame:(World.setCell w2 ⟨w.heap.size+1+1,0,none⟩ (.int .i64 0)).cell? ⟨w.heap.size+1+1,0,none⟩=some (.int .i64 0):=World.cell?_setCell_same' _ _ _ (by rw [g5];rfl)
            refine leaves_cons (f:=76) (args:= #[.pointer (some ⟨w.heap.size+1+1,0,none⟩)]) (by simp) (by simp [go_sem]) ((Vm _ _).mono ?_)
            rintro en u' w'' ⟨rfl,rfl,rfl⟩
            exact ⟨.tuple #[.bool false,.int .i64 0],by simp [results,Tryz.results47,go_sem,hsame],Zl5 (by rw [HS3.out]) (by rw [HS3.out]),Ext.setCell (hx0.trans hx12) (by simp;omega) _⟩
          · have HS3:=Lib.hid (HS2.out.1 (.inr h1))
            by_cases h0:q1<lo
            all_goals
             go_wp2_with fail
             have hsame:(World.setCell w2 ⟨w.heap.size+1+1,0,none⟩ (.int .i64 0)).cell? ⟨w.heap.size+1+1,0,none⟩=some (.int .i64 0):=World.cell?_setCell_same' _ _ _ (by rw [g5];rfl)
             refine leaves_cons (f:=76) (args:= #[.pointer (some ⟨w.heap.size+1+1,0,none⟩)]) (by simp) (by simp [go_sem]) ((Vm _ _).mono ?_)
             rintro en u' w'' ⟨rfl,rfl,rfl⟩
             exact ⟨.tuple #[.bool false,.int .i64 0],by simp [results,Tryz.results47,go_sem,hsame],Zl5 (by rw [HS3.out]) (by rw [HS3.out]),Ext.setCell (hx0.trans hx12) (by simp;omega) _⟩
          · have HS3:=Lib.hid (HS2.out.2 ⟨h1,h2⟩)
            go_wp2_with fail
            go_roundw
            case rel=>exact ⟨k+1,by omega,rfl,by go_num,HS3.out.symm,hx12⟩
            case measure=>simp [intOf];omega
        · exact absurd rfl h0
      · have HS2:=Lib.hid (show r=(false,q2) by rw [hs,if_pos hq])
        have HQ:=Lib.hid hq
        clear hs hq
        go_wp2_with (refine wpList_load_mid rfl 72 _ rfl b (o+k*3) rfl _ _ hrr Tryz.underlying72 rfl Zex ?_)
        refine (HLO.out _).mono ?_
        rintro e1 w2 ⟨⟨h0,rfl⟩|⟨h0,rfl⟩,hx2⟩
        · exact absurd h0 HQ.out
        · have hx12:Ext w1 w2:=(hxr.alloc _).trans hx2
          clear hx2 h0
          have g5:=Ext.cell (hx12) hc5
          have gz:World.frozen? w2 ⟨w.heap.size+1+1,0,none⟩=false:=by rw [Ext.frozen_eq (hx12) (by simp;omega)];exact hz5'
          have glt:w.heap.size+1+1<(w2).heap.size:=by have:=Ext.size (hx12);omega
          go_wp2_with fail
          refine leaves_cons (f:=76) (args:= #[.pointer (some ⟨w.heap.size+1+1,0,none⟩)]) (by simp) (by simp [go_sem]) ((Ug _ 0 q2 _ g5 gz glt).mono ?_)
          rintro en u' w'' ⟨rfl,rfl,rfl⟩
          have hsame:((World.alloc w2 (.cells #[.int .i64 q2] 167)).setCell ⟨w.heap.size+1+1,0,none⟩ (.int .i64 q2)).cell? ⟨w.heap.size+1+1,0,none⟩=some (.int .i64 q2):=
           World.cell?_setCell_same' _ _ _ (by rw [World.cell?_alloc_lt w2 _ _ glt,g5];rfl)
          simp only [settle,List.dropWhile]
          exact ⟨.tuple #[.bool false,.int .i64 q2],by simp [results,Tryz.results47,go_sem,hsame],Zl5 (by rw [HS2.out]) (by rw [HS2.out]),Ext.setCell (Ext.alloc (hx0.trans hx12) _) (by simp;omega) _⟩
  · have HS2:=Lib.hid (show r=(true,0) by rw [<-HK.out,List.drop_of_length_le (by rw [HN.out];omega)];rfl)
    clear HK
    have g5:=Ext.cell (hxr) hc5
    have gz:World.frozen? wr ⟨w.heap.size+1+1,0,none⟩=false:=by rw [Ext.frozen_eq (hxr) (by simp;omega)];exact hz5'
    have glt:w.heap.size+1+1<(wr).heap.size:=by have:=Ext.size (hxr);omega
    go_wp2_with fail
    have hsame:(World.setCell wr ⟨w.heap.size+1+1,0,none⟩ (.int .i64 0)).cell? ⟨w.heap.size+1+1,0,none⟩=some (.int .i64 0):=World.cell?_setCell_same' _ _ _ (by rw [g5];rfl)
    refine leaves_cons (f:=76) (args:= #[.pointer (some ⟨w.heap.size+1+1,0,none⟩)]) (by simp) (by simp [go_sem]) ((Vm _ _).mono ?_)
    rintro en u' w'' ⟨rfl,rfl,rfl⟩
    exact ⟨.tuple #[.bool true,.int .i64 0],by simp [results,Tryz.results47,go_sem,hsame],Zl5 (by rw [HS2.out]) (by rw [HS2.out]),Ext.setCell (hx0.trans hxr) (by simp;omega) _⟩
end
section
open Go.RowKit
theorem Vk:(Tryz.prog.info? 49).map (·.size)=some 9:=by kernel_rfl
theorem Zjy (x:Ev) (l:List Cl) (k:Nat) (h:k<l.length):Y6 x (l.drop k) k=
 if (Z9 x l[k].tests).2≠0 then (0,0,(Z9 x l[k].tests).2) else if (Z9 x l[k].tests).1=false then Y6 x (l.drop (k+1)) (k+1) else
  if (Za8 l[k].pay x).2≠0 then (0,0,(Za8 l[k].pay x).2) else ((Za8 l[k].pay x).1,k,0):=by
 rw [List.drop_eq_getElem_cons h];rfl
theorem Zdr {r:Int×Int×Int} {a b c:Int} (h:r=(a,b,c)):Ending.returned (.tuple #[.int .i64 a,.int .i64 b,.int .i64 c])= .returned (.tuple #[.int .i64 r.1,.int .i64 r.2.1,.int .i64 r.2.2]):=by rw [h]
set_option maxHeartbeats 2000000 in
theorem Zmo (x:Ev) (hx:x.ok) (cs:List Value) (t:Tf) (w:World) (ht:TfIn w cs t):
 Calls Tryz.prog 18 #[.agg cs.toArray,.agg x.cells.toArray] w fun en w'=>en= .returned (.tuple #[.int .i64 (Y6 x t.cls 0).1,.int .i64 (Y6 x t.cls 0).2.1,.int .i64 (Y6 x t.cls 0).2.2])/\Ext w w':=by
 have HXL:=Lib.hid (show x.cells.length=17 by simp [Ev.cells,hx.1])
 obtain ⟨sv,rfl,_,hs⟩:=ht
 obtain ⟨A,cap,rfl,hlen,hcap,HEL⟩:=hs.open_
 obtain ⟨r,hr⟩:∃r,Y6 x t.cls 0=r:=⟨_,rfl⟩
 rw [hr]
 have HR:=Lib.hid hr
 clear hr hs
 generalize t.cls=l at*
 generalize hn:l.length=n at*
 have HN:=Lib.hid hn
 clear hn
 go_enter Tryz.func18,Tryz.ntmps18
 go_wp2_with fail
 generalize hw0:World.alloc _ _=w0
 have hx0:Ext w w0:=by rw [<-hw0];exact ((Ext.refl _).alloc _).alloc _
 have hr3:w0.rangeAt (w.heap.size+1) 0 x.cells:=by rw [<-hw0];intro j v hv;simp [go_sem,hv]
 clear hw0
 go_loopw [14] (fun i wr=>∃k:Nat,k<=n/\i= .int .i64 k/\Hid (Y6 x (l.drop k) k=r)/\Ext w0 wr) (fun i _=>n-(intOf i).toNat)
 case atStart=>exact ⟨0,Nat.zero_le _,rfl,HR.out,Ext.refl _⟩
 case round=>
  obtain ⟨k,hk,rfl,HK,hxr⟩:=hrel
  by_cases hlt:k<n
  · have hlk:k<l.length:=by rw [HN.out];exact hlt
    obtain ⟨b,o,cs1,rfl,hb,hl1,hr1,hcl⟩:=HEL.out k l[k] (gB9 hlk)
    have hrr:=hxr.range (hx0.range hr1)
    have hst:=Zjy x l k hlk
    rw [HK.out] at hst
    have HS:=Lib.hid hst
    clear hst hr1 HK hl1
    generalize l[k]=c at*
    clear hlk
    have hcl2:=(hcl.ext hx0).ext hxr
    have hcl2':=hcl2
    obtain ⟨sv,ps,rfl,hsl,d,hE⟩:=hcl2'
    obtain ⟨A0,cap0,u0,u1,u2,u3,rfl,_⟩:=hE.open_
    obtain ⟨A1,cap1,rfl,_⟩:=hsl.open_
    have HH:=Lib.hid fun o=>Zr8 x hx _ c _ (hcl2.ext ((Ext.refl wr).alloc o))
    have HEV:=Lib.hid fun (W:World) (h:Ext wr W)=>Zv2 x hx d _ c.pay W (hE.ext h)
    have HRX:=Lib.hid fun o=>((hxr.alloc o).range hr3)
    clear hcl hcl2 hsl hE hb
    generalize Za8 c.pay x=p at*
    generalize Z9 x c.tests=q at*
    obtain ⟨p1,p2⟩:=p
    obtain ⟨q1,q2⟩:=q
    have hs:=HS.out
    clear HS
    by_cases hq:q2=0
    · subst hq
      rw [if_neg (by simp)] at hs
      have HS:=Lib.hid hs
      clear hs
      cases q1
      · have HS2:=Lib.hid (show r=Y6 x (l.drop (k+1)) (k+1) by rw [HS.out];rfl)
        clear HS
        go_wp2_with (first
         |(refine wpList_load_mid rfl 49 _ rfl b (o+k*9) rfl _ _ hrr Tryz.underlying49 rfl Vk ?_)
         |(refine wpList_load_mid rfl 53 _ rfl (w.heap.size+1) 0 rfl x.cells _ (HRX.out _) Tryz.underlying53 rfl (by rw [HXL.out];exact X9) ?_))
        refine (HH.out _).mono ?_
        rintro e1 w2 ⟨rfl,hx2⟩
        go_wp2_with fail
        go_roundw
        case rel=>exact ⟨k+1,by omega,by go_num,HS2.out.symm,(hxr.alloc _).trans hx2⟩
        case measure=>simp [intOf];omega
      · have HS2:=Lib.hid (show r=if p2≠0 then (0,0,p2) else (p1,(k:Int),0) by rw [HS.out];rfl)
        clear HS
        by_cases hp:p2=0
        · subst hp
          have HS3:=Lib.hid (show r=(p1,(k:Int),0) by rw [HS2.out];rfl)
          clear HS2
          go_wp2_with (first
           |(refine wpList_load_mid rfl 49 _ rfl b (o+k*9) rfl _ _ hrr Tryz.underlying49 rfl Vk ?_)
           |(refine wpList_load_mid rfl 53 _ rfl (w.heap.size+1) 0 rfl x.cells _ (HRX.out _) Tryz.underlying53 rfl (by rw [HXL.out];exact X9) ?_))
          refine (HH.out _).mono ?_
          rintro e1 w2 ⟨rfl,hx2⟩
          have hrx2:=hx2.range (HRX.out _)
          have hrp:w2.rangeAt wr.heap.size 2 [.int .i64 c.pay.op,.int .i64 c.pay.n,.int .i64 u0,.int .i64 u1,.int .i64 u2,.int .i64 u3,.slice A0 c.pay.l.length cap0]:=
           hx2.range (by intro j v hv;simp [go_sem] at hv⊢;simpa [Nat.add_comm 2 j] using hv)
          have hxx:=((Ext.refl wr).alloc _).trans hx2
          clear hx2
          go_wp2_with (first
           |(refine wpList_load_mid rfl 47 _ rfl wr.heap.size 2 rfl _ _ hrp Tryz.underlying47 rfl Xh ?_)
           |(refine wpList_load_mid rfl 53 _ rfl (w.heap.size+1) 0 rfl x.cells _ hrx2 Tryz.underlying53 rfl (by rw [HXL.out];exact X9) ?_))
          refine (HEV.out _ hxx).mono ?_
          rintro e2 w3 ⟨rfl,hx3⟩
          go_wp2_with fail
          go_ret3
          exact ⟨Zdr HS3.out,(hx0.trans hxr).trans (hxx.trans hx3)⟩
        · have hp':(p2 !=0)=true:=by rw [bne_iff_ne];exact hp
          have HS3:=Lib.hid (show r=(0,0,p2) by rw [HS2.out,if_pos hp])
          clear HS2 hp
          go_wp2_with (first
           |(refine wpList_load_mid rfl 49 _ rfl b (o+k*9) rfl _ _ hrr Tryz.underlying49 rfl Vk ?_)
           |(refine wpList_load_mid rfl 53 _ rfl (w.heap.size+1) 0 rfl x.cells _ (HRX.out _) Tryz.underlying53 rfl (by rw [HXL.out];exact X9) ?_))
          refine (HH.out _).mono ?_
          rintro e1 w2 ⟨rfl,hx2⟩
          have hrx2:=hx2.range (HRX.out _)
          have hrp:w2.rangeAt wr.heap.size 2 [.int .i64 c.pay.op,.int .i64 c.pay.n,.int .i64 u0,.int .i64 u1,.int .i64 u2,.int .i64 u3,.slice A0 c.pay.l.length cap0]:=
           hx2.range (by intro j v hv;simp [go_sem] at hv⊢;simpa [Nat.add_comm 2 j] using hv)
          have hxx:=((Ext.refl wr).alloc _).trans hx2
          clear hx2
          go_wp2_with (first
           |(refine wpList_load_mid rfl 47 _ rfl wr.heap.size 2 rfl _ _ hrp Tryz.underlying47 rfl Xh ?_)
           |(refine wpList_load_mid rfl 53 _ rfl (w.heap.size+1) 0 rfl x.cells _ hrx2 Tryz.underlying53 rfl (by rw [HXL.out];exact X9) ?_))
          refine (HEV.out _ hxx).mono ?_
          rintro e2 w3 ⟨rfl,hx3⟩
          go_wp2_with fail
          go_ret3
          exact ⟨Zdr HS3.out,(hx0.trans hxr).trans (hxx.trans hx3)⟩
    · have hq':(q2 !=0)=true:=by rw [bne_iff_ne];exact hq
      have HS3:=Lib.hid (show r=(0,0,q2) by rw [hs,if_pos hq])
      clear hs hq
      go_wp2_with (first
       |(refine wpList_load_mid rfl 49 _ rfl b (o+k*9) rfl _ _ hrr Tryz.underlying49 rfl Vk ?_)
       |(refine wpList_load_mid rfl 53 _ rfl (w.heap.size+1) 0 rfl x.cells _ (HRX.out _) Tryz.underlying53 rfl (by rw [HXL.out];exact X9) ?_))
      refine (HH.out _).mono ?_
      rintro e1 w2 ⟨rfl,hx2⟩
      go_wp2_with fail
      go_ret3
      exact ⟨Zdr HS3.out,(hx0.trans hxr).trans (((Ext.refl wr).alloc _).trans hx2)⟩
  · have HS2:=Lib.hid (show r=(0,0,180) by rw [<-HK.out,List.drop_of_length_le (by rw [HN.out];omega)];rfl)
    clear HK
    go_wp2_with fail
    go_ret3
    exact ⟨Zdr HS2.out,hx0.trans hxr⟩
end
section
open Go
theorem Z78 {g:GH} {w:World} (hI:Inv E w.heap.size σ0 hp0 g w) {β:Type} {th:Th} {l:List (domT th)} {full:Bool} {u:Value} (f:domT th->β) (R:List Value->β->Prop) (h:Den E σ0 g (.psl th l full) u) (hw:0<wT th) (hlen:∀x,(encF false th x).length=wT th)
 (hR:∀x∈l,∀c:Nat->Value,(∀(j:Nat) sv,(encF false th x)[j]? =some sv->Den E σ0 g sv (c j))->R ((List.range (wT th)).map c) (f x)):SlIn w (wT th) R u (l.map f):=by
 obtain ⟨base,cc,cv,rfl,hl,hm,hf,hn,hb,hd⟩:=Xp h
 have hl:l.length<=cc:=hl
 have ee:∀x,E.enc th x=encF false th x:=fun _=>rfl
 have ew:E.w th=wT th:=rfl
 refine ⟨base,cc,by rw [List.length_map],by rw [List.length_map];exact hl,by unfold maxLen at hm;omega,fun h0=> ?_⟩
 rw [List.length_map] at h0
 obtain ⟨r,o,hbase,hcell⟩:=hb h0
 refine ⟨r,o,hbase,?_,fun i x hi=> ?_⟩
 · exact block_lt_of_cell (hI.gc _ _ _ (hcell 0 _ (gB9 h0) 0 (by rw [ee,hlen];exact hw)))
 · rw [List.getElem?_map] at hi
   cases hx:l[i]? with
   |none=>rw [hx] at hi;cases hi
   |some y=>
    rw [hx] at hi
    cases hi
    refine ⟨(List.range (wT th)).map (cv i),by simp,fun j v hv=> ?_,hR y (List.mem_of_getElem? hx) _ (hd i y hx)⟩
    have hj:j<wT th:=by have:=(gA9.1 hv).1;simpa using this
    rw [List.getElem?_map,List.getElem?_range hj] at hv
    cases hv
    have:=hI.gc _ _ _ (hcell i y hx j (by rw [ee,hlen];exact hj))
    rw [ew] at this
    exact this
def toTs (w:Tst):Tso:=⟨w.attr,w.low,w.high⟩
def toCl (c:Cls):Cl:=⟨mkS c.name,c.when_.map toTs,c.pay⟩
def toTf (t:Tar):Tf:=⟨mkS t.name,t.for_,t.clauses.map toCl⟩
def Tst.In (w:Tst):Prop:=I64r w.attr/\I64r w.low/\I64r w.high
theorem Z79 {σ:Pl} {g:GH} {l:Bool} {s:List Nat} {u:Value} (h:Den E σ g (.str l s) u):u= .string (mkS s):=by
 cases h
 rename_i b hb
 rw [<-hb,Vw]
theorem Yac {g:GH} {w:World} (hI:Inv E w.heap.size σ0 hp0 g w) (c:Cls) (hc:∀t∈c.when_,t.In) (v:Nat->Value) (h:∀(j:Nat) sv,(encF false .clauses c)[j]? =some sv->Den E σ0 g sv (v j)):ClIn w ((List.range 9).map v) (toCl c):=by
 refine ⟨v 1,[v 2,v 3,v 4,v 5,v 6,v 7,v 8],?_,?_,c.pay.sz,?_⟩
 · show v 0::_=_
   rw [Z79 (h 0 _ rfl)];rfl
 · refine Z78 hI (th:= .tests) toTs Z9j (h 1 _ rfl) (by decide) (fun _=>rfl) fun x hx d hd=> ?_
   refine ⟨?_,hc x hx⟩
   show [d 0,d 1,d 2]=_
   rw [Zdm (hd 0 _ rfl),Zdm (hd 1 _ rfl),Zdm (hd 2 _ rfl)];rfl
 · refine Z8z hI _ c.pay (Nat.le_refl _) (fun j=>v (j+2)) fun j sv hj=>h (j+2) sv ?_
   rw [<-hj];rfl
def Z0q (t:Tar):Prop:=∀c∈t.clauses,∀w∈c.when_,w.In
theorem Yad {g:GH} {w:World} (hI:Inv E w.heap.size σ0 hp0 g w) (t:Tar) (ht:Z0q t) (v:Nat->Value) (h:∀(j:Nat) sv,(encF false .tariffs t)[j]? =some sv->Den E σ0 g sv (v j)):TfIn w [v 0,v 1,v 2] (toTf t):=by
 refine ⟨v 2,?_,trivial,?_⟩
 · rw [Z79 (h 0 _ rfl),Zdm (h 1 _ rfl)];rfl
 · exact Z78 hI (th:= .clauses) toCl (ClIn w) (h 2 _ rfl) (by decide) (fun _=>rfl) fun x hx d hd=>Yac hI x (ht x hx) d hd
theorem Z4b {g:GH} {x:Ev} (hx:x.v.length=16) {v:Value} (hv:Den E σ0 g (evA x) v):v= .agg x.cells.toArray:=by
 obtain ⟨arr',c',rfl,hs',hc',hd'⟩:=Z0 hv
 congr 1
 obtain ⟨has,v⟩:=x
 have hx:v.length=16:=hx
 apply Array.ext'
 apply List.ext_getElem?
 intro j
 have hs':arr'.size=17:=by rw [hs'];simp [hx]
 rw [Array.getElem?_toList]
 by_cases hj:j<17
 · rw [hc' j (by simp [hx];omega)]
   cases j with
   |zero=>rw [Zdm (hd' 0 _ rfl)];rfl
   |succ j=>
    have hv:v[j]? =some (v[j]'(by omega)):=gB9 _
    have:=hd' (j+1) (.int false .i64 (v[j]'(by omega))) (by rw [List.getElem?_cons_succ,List.getElem?_map,hv];rfl)
    rw [Zdm this]
    show _=(Value.int .i64 has::v.map (Value.int .i64))[j+1]?
    rw [List.getElem?_cons_succ,List.getElem?_map,hv];rfl
 · rw [Array.getElem?_eq_none (by omega),List.getElem?_eq_none (by simp [Ev.cells,hx];omega)]
theorem Z0r {σ:Pl} {g:GH} {a b c:Int}:Den E σ g (.tup [.int false .i64 a,.int false .i64 b,.int false .i64 c]) (.tuple #[.int .i64 a,.int .i64 b,.int .i64 c]):=by
 refine .tup (fun j=>match j with|0=> .int .i64 a|1=> .int .i64 b|_=> .int .i64 c) rfl (fun j hj=> ?_) (fun j sv hj=> ?_)
 · match j,hj with
   |0,_=>rfl
   |1,_=>rfl
   |2,_=>rfl
 · match j,hj with
   |0,hj=>cases hj;exact .int _ _ _
   |1,hj=>cases hj;exact .int _ _ _
   |2,hj=>cases hj;exact .int _ _ _
def amtF (t:Tar) (x:Ev):Int×Int×Int:=Y6 x (t.clauses.map toCl) 0
def amtV (y:Int×Int×Int):SV thy:= .tup [.int false .i64 y.1,.int false .i64 y.2.1,.int false .i64 y.2.2]
theorem Zm2 (t:Tar) (x:Ev) (hx:x.v.length=16) (ht:Z0q t):PureC E 18 [.agg (encF false .tariffs t),evA x] (amtV (amtF t x)):=by
 refine Zc2 fun g w vals hI hd=> ?_
 obtain ⟨u,v,rfl,hu,hv⟩:=Z3w hd
 obtain ⟨arr,c,rfl,hs,hc,hdu⟩:=Z0 hu
 have ha:=Z54 hs hc
 rw [Z4b hx hv,ha]
 refine (Zmo x ⟨hx,trivial,fun _ _=>trivial⟩ _ (toTf t) w (Yad hI t ht c hdu)).mono ?_
 rintro en w' ⟨rfl,hx⟩
 exact ⟨_,rfl,Z0r,hx⟩
end
section
open Go
def Wa (x:Ins) (v:Ev) (a b:Int):Int×Int:=
 if x.op=1 then (x.n,0) else if x.op=2 then Zy v x.n.toNat else if x.op=12 then (if x.n<=b/\b<=x.m then 1 else 0,0) else binF x.op a b
structure Oc where
 a:Int
 c:Int
 e:Int
 s:Bool
 m:Int
def ocX (m:Int):Oc:=⟨0,0,0,false,m⟩
def exS (x:Ins) (v:Ev) (i:Nat) (s:List Int) (m:Int) (K:Nat->List Int->Int->Oc):Oc:=
 let p:=(eff x.op).1.toNat
 if s.length<p then ocX m else
 let b:=if 0<p then s.getD (s.length-1) 0 else 0
 let a:=if 1<p then s.getD (s.length-2) 0 else 0
 let s1:=s.take (s.length-p)
 if x.op=15 then ⟨b,x.n,0,s1.length==0,m⟩
 else if x.op=16 then ⟨0,0,180,s1.length==0,m⟩
 else if 0<(eff x.op).2/\(Wa x v a b).2≠0 then ⟨0,0,(Wa x v a b).2,true,m⟩
 else
  let s2:=if 0<(eff x.op).2 then s1++ [(Wa x v a b).1] else s1
  let m2:=max m s2.length
  if x.op=14\/(x.op=13/\b=0) then (if x.n<=i then ocX m2 else K x.n.toNat s2 m2) else K (i+1) s2 m2
def exF (C:List Ins) (v:Ev):Nat->Nat->List Int->Int->Oc
 |0,_,_,m=>ocX m
 |f+1,i,s,m=>match C[i]? with
  |none=>ocX m
  |some x=>exS x v i s m (exF C v f)
def Goes (C:List Ins) (v:Ev) (i:Nat) (s:List Int) (j:Nat) (s':List Int):Prop:=∀f m,C.length<=f+i->∃f' m',C.length<=f'+j/\exF C v f i s m=exF C v f' j s' m'
def Ends (C:List Ins) (v:Ev) (i:Nat) (s:List Int) (a c e:Int):Prop:=∀f m,C.length<=f+i->∃m',exF C v f i s m=⟨a,c,e,true,m'⟩
theorem Goes.refl {C:List Ins} {v:Ev} {i:Nat} {s:List Int}:Goes C v i s i s:=fun f m h=>⟨f,m,h,rfl⟩
theorem Goes.trans {C:List Ins} {v:Ev} {i j k:Nat} {s t u:List Int} (h1:Goes C v i s j t) (h2:Goes C v j t k u):Goes C v i s k u:=fun f m h=>by
 obtain ⟨f',m',h',e⟩:=h1 f m h
 obtain ⟨f2,m2,h3,e2⟩:=h2 f' m' h'
 exact ⟨f2,m2,h3,e.trans e2⟩
theorem Goes.ends {C:List Ins} {v:Ev} {i j:Nat} {s t:List Int} {a c e:Int} (h1:Goes C v i s j t) (h2:Ends C v j t a c e):Ends C v i s a c e:=fun f m h=>by
 obtain ⟨f',m',h',e1⟩:=h1 f m h
 obtain ⟨m2,e2⟩:=h2 f' m' h'
 exact ⟨m2,e1.trans e2⟩
theorem Z6d {C:List Ins} {v:Ev} {i:Nat} {s:List Int} {x:Ins} (hx:C[i]? =some x) {f:Nat} (hf:C.length<=f+i) (m:Int):∃g,f=g+1/\exF C v f i s m=exS x v i s m (exF C v g):=by
 have hi:i<C.length:=(gA9.1 hx).1
 obtain ⟨g,rfl⟩:∃g,f=g+1:=⟨f-1,by omega⟩
 refine ⟨g,rfl,?_⟩
 show (match C[i]? with|none=>ocX m|some x=>exS x v i s m (exF C v g))=_
 rw [hx]
theorem Zs0 {C:List Ins} {v:Ev} {i j:Nat} {s t:List Int} {x:Ins} (hx:C[i]? =some x) (hj:i<j) (h:∀m K,∃m',exS x v i s m K=K j t m'):Goes C v i s j t:=fun f m hf=>by
 obtain ⟨g,rfl,e⟩:=Z6d (s:=s) hx hf m
 obtain ⟨m',e2⟩:=h m (exF C v g)
 exact ⟨g,m',by omega,e.trans e2⟩
theorem Z17 {C:List Ins} {v:Ev} {i:Nat} {s:List Int} {x:Ins} {a c e:Int} (hx:C[i]? =some x) (h:∀m K,∃m',exS x v i s m K=⟨a,c,e,true,m'⟩):Ends C v i s a c e:=fun f m hf=>by
 obtain ⟨g,rfl,e1⟩:=Z6d (s:=s) hx hf m
 obtain ⟨m',e2⟩:=h m (exF C v g)
 exact ⟨m',e1.trans e2⟩
theorem Z6e {C:List Ins} {v:Ev} {i:Nat} {s:List Int} {n:Int} (hx:C[i]? =some (iNN 1 n)):Goes C v i s (i+1) (s++ [n]):=
 Zs0 hx (Nat.lt_succ_self _) fun m K=>⟨max m (s++ [n]).length,by simp [exS,iNN,eff,Wa]⟩
theorem Zxm {C:List Ins} {v:Ev} {i:Nat} {s:List Int} {n:Int} (hx:C[i]? =some (iNN 2 n)) (h:(Zy v n.toNat).2=0):Goes C v i s (i+1) (s++ [(Zy v n.toNat).1]):=
 Zs0 hx (Nat.lt_succ_self _) fun m K=>⟨max m (s++ [(Zy v n.toNat).1]).length,by simp [exS,iNN,eff,Wa,h]⟩
theorem Zqa {C:List Ins} {v:Ev} {i:Nat} {s:List Int} {n:Int} (hx:C[i]? =some (iNN 2 n)) (h:(Zy v n.toNat).2≠0):Ends C v i s 0 0 (Zy v n.toNat).2:=
 Z17 hx fun m K=>⟨m,by simp [exS,iNN,eff,Wa,h]⟩
theorem Z6f {op:Int} (h1:3<=op) (h2:op<=11):eff op=(2,1):=by
 unfold eff
 rw [if_neg (by omega),if_neg (by omega),if_neg (by omega),if_neg (by omega)]
theorem Z18 {op a b:Int} {v:Ev} (h1:3<=op) (h2:op<=11):Wa (iOp op) v a b=binF op a b:=by
 unfold Wa iOp
 rw [if_neg (by show op≠1;omega),if_neg (by show op≠2;omega),if_neg (by show op≠12;omega)]
theorem Z6g {s:List Int} {a b:Int}:(s++ [a,b]).getD ((s++ [a,b]).length-1) 0=b/\(s++ [a,b]).getD ((s++ [a,b]).length-2) 0=a/\(s++ [a,b]).take ((s++ [a,b]).length-2)=s:=by
 have e:(s++ [a,b]).length=s.length+2:=by simp
 rw [e]
 refine ⟨?_,?_,?_⟩
 · rw [List.getD_eq_getElem?_getD,List.getElem?_append_right (by omega)]
   rw [show s.length+2-1-s.length=1 by omega];rfl
 · rw [List.getD_eq_getElem?_getD,List.getElem?_append_right (by omega)]
   rw [show s.length+2-2-s.length=0 by omega];rfl
 · rw [show s.length+2-2=s.length by omega,List.take_left]
theorem Z4k {v:Ev} {i:Nat} {s:List Int} {op a b:Int} {m:Int} {K:Nat->List Int->Int->Oc} (h1:3<=op) (h2:op<=11):
 exS (iOp op) v i (s++ [a,b]) m K=if (binF op a b).2≠0 then ⟨0,0,(binF op a b).2,true,m⟩ else K (i+1) (s++ [(binF op a b).1]) (max m (s++ [(binF op a b).1]).length):=by
 obtain ⟨t1,t2,t3⟩:=Z6g (s:=s) (a:=a) (b:=b)
 have he:eff op=(2,1):=Z6f h1 h2
 have o:(iOp op).op=op:=rfl
 have z2:(2:Int).toNat=2:=rfl
 have pb:=Z18 (v:=v) (a:=a) (b:=b) h1 h2
 have n15:op≠15:=by omega
 have n16:op≠16:=by omega
 have n14:op≠14:=by omega
 have n13:op≠13:=by omega
 unfold exS
 simp only [o,he,z2,t1,t2,t3]
 by_cases h:(binF op a b).2=0
 · simp [pb,n15,n16,n14,n13,h]
   intro k;omega
 · simp [pb,n15,n16,h]
   intro k;omega
theorem Z4l {C:List Ins} {v:Ev} {i:Nat} {s:List Int} {op a b:Int} (h1:3<=op) (h2:op<=11) (hx:C[i]? =some (iOp op)) (h:(binF op a b).2=0):Goes C v i (s++ [a,b]) (i+1) (s++ [(binF op a b).1]):=
 Zs0 hx (Nat.lt_succ_self _) fun m K=>⟨_,by rw [Z4k h1 h2,if_neg (fun k=>k h)]⟩
theorem Z6h {C:List Ins} {v:Ev} {i:Nat} {s:List Int} {op a b:Int} (h1:3<=op) (h2:op<=11) (hx:C[i]? =some (iOp op)) (h:(binF op a b).2≠0):Ends C v i (s++ [a,b]) 0 0 (binF op a b).2:=
 Z17 hx fun m K=>⟨_,by rw [Z4k h1 h2,if_pos h]⟩
theorem Zxn {s:List Int} {b:Int}:(s++ [b]).getD ((s++ [b]).length-1) 0=b/\(s++ [b]).take ((s++ [b]).length-1)=s:=by
 have e:(s++ [b]).length=s.length+1:=by simp
 rw [e]
 refine ⟨?_,?_⟩
 · rw [List.getD_eq_getElem?_getD,List.getElem?_append_right (by omega)]
   rw [show s.length+1-1-s.length=0 by omega];rfl
 · rw [show s.length+1-1=s.length by omega,List.take_left]
theorem Z19 {C:List Ins} {v:Ev} {i:Nat} {s:List Int} {l h b:Int} (hx:C[i]? =some ⟨12,l,h⟩):Goes C v i (s++ [b]) (i+1) (s++ [if l<=b/\b<=h then 1 else 0]):=
 Zs0 hx (Nat.lt_succ_self _) fun m K=>by
  obtain ⟨t1,t2⟩:=Zxn (s:=s) (b:=b)
  refine ⟨max m (s++ [if l<=b/\b<=h then 1 else 0]).length,?_⟩
  unfold exS
  have he:eff (12:Int)=(1,1):=by decide
  simp only [he,Int.toNat_one,t1,t2]
  simp [Wa]
theorem Zxo {C:List Ins} {v:Ev} {i:Nat} {s:List Int} {q:Nat} {b:Int} (hx:C[i]? =some (iNN 13 q)) (hq:i<q):Goes C v i (s++ [b]) (if b=0 then q else i+1) s:=
 Zs0 hx (by split<;>omega) fun m K=>by
  obtain ⟨t1,t2⟩:=Zxn (s:=s) (b:=b)
  refine ⟨max m s.length,?_⟩
  unfold exS
  have he:eff (13:Int)=(1,0):=by decide
  simp only [iNN,he,Int.toNat_one,t1,t2]
  have hq2:¬(q:Int)<=(i:Int):=by omega
  have hq3:¬q<=i:=by omega
  by_cases h:b=0
  · simp [h,hq2,hq3]
  · simp [h]
theorem Z6i {C:List Ins} {v:Ev} {i:Nat} {s:List Int} {q:Nat} (hx:C[i]? =some (iNN 14 q)) (hq:i<q):Goes C v i s q s:=
 Zs0 hx hq fun m K=>by
  refine ⟨max m s.length,?_⟩
  unfold exS
  have he:eff (14:Int)=(0,0):=by decide
  simp only [iNN,he,Int.toNat_zero,Nat.sub_zero,List.take_length]
  have hq2:¬(q:Int)<=(i:Int):=by omega
  have hq3:¬q<=i:=by omega
  simp [hq2,hq3]
theorem Z6j {C:List Ins} {v:Ev} {i:Nat} {k:Int} {b:Int} (hx:C[i]? =some (iNN 15 k)):Ends C v i [b] b k 0:=
 Z17 hx fun m K=>⟨m,by simp [exS,iNN,eff]⟩
theorem Z2a {C:List Ins} {v:Ev} {i:Nat} (hx:C[i]? =some (iOp 16)):Ends C v i [] 0 0 180:=
 Z17 hx fun m K=>⟨m,by simp [exS,iOp,eff]⟩
theorem W5 {A P B C:List Ins} (hC:C=A++P++B) {k:Nat} {x:Ins} (hx:P[k]? =some x) {i:Nat} (hi:i=A.length+k):C[i]? =some x:=by
 subst hC hi
 have hk:k<P.length:=(gA9.1 hx).1
 rw [List.append_assoc,List.getElem?_append_right (by omega),Nat.add_sub_cancel_left,List.getElem?_append_left hk,hx]
theorem Zk5:∀{l:List Ex} {y:Ex},y∈l->Z6 y<=Zcu l
 |z::r,y,hy=>by
  unfold Zcu
  rcases List.mem_cons.1 hy with rfl|h
  · omega
  · have:=Zk5 h
    omega
theorem Zqb:∀{d:Nat} {x:Ex},Zq x=true->Z6 x<=d->W6 d x=true
 |0,x,_,hn=>by rw [Zac] at hn;omega
 |d+1,x,hf,hn=>by
  obtain ⟨ha,hl⟩:=Zkg hf
  obtain ⟨hn0,hn1⟩:=Zwm hf
  unfold W6
  rw [Bool.and_eq_true]
  refine ⟨?_,?_⟩
  · rw [decide_eq_true_eq]
    unfold opsF
    obtain ⟨a1,a2,a3⟩:=ha
    rw [if_neg (by omega),a3]
    by_cases q:x.op=1\/x.op=2
    · rw [if_pos q,if_pos (by omega)];rfl
    · have h2:¬x.op<=2:=by omega
      rw [if_neg q,if_neg h2]
      by_cases h11:x.op=11
      · rw [if_pos h11,if_pos h11];rfl
      · rw [if_neg h11,if_neg h11];rfl
  · by_cases q1:x.op=1
    · rw [if_pos q1]
      unfold Ztt at hn1
      rw [if_pos q1] at hn1
      simp [hn0,hn1]
    · rw [if_neg q1]
      by_cases q2:x.op=2
      · rw [if_pos q2]
        unfold Ztt at hn1
        rw [if_neg q1,if_pos q2] at hn1
        simp [hn0];omega
      · rw [if_neg q2,List.all_eq_true]
        intro y hy
        refine Zqb (hl y hy) ?_
        rw [Zac] at hn
        have:=Zk5 hy
        omega
theorem Znx (d:Nat) (e:Ex) (x:Ev):Zg (d+1) e x=if e.op=1 then (e.n,0) else if e.op=2 then Zy x e.n.toNat else
 if (Zg d (e.l.getD 0 exT0) x).2≠0 then (0,(Zg d (e.l.getD 0 exT0) x).2) else if (Zg d (e.l.getD 1 exT0) x).2≠0 then (0,(Zg d (e.l.getD 1 exT0) x).2) else
 if e.op≠11 then Zb3 e.op (Zg d (e.l.getD 0 exT0) x).1 (Zg d (e.l.getD 1 exT0) x).1 else
 if (Zg d (e.l.getD 0 exT0) x).1<(Zg d (e.l.getD 1 exT0) x).1 then Zg d (e.l.getD 2 exT0) x else Zg d (e.l.getD 3 exT0) x:=rfl
theorem Z6k {d:Nat} {op n a b c e:Int} {y z:Ex} {v:Ev} (h3:3<=op) (h10:op<=10):Zg (d+1) (.mk op n a b c e [y,z]) v=
 if (Zg d y v).2≠0 then (0,(Zg d y v).2) else if (Zg d z v).2≠0 then (0,(Zg d z v).2) else binF op (Zg d y v).1 (Zg d z v).1:=by
 have e1:¬op=1:=by omega
 have e2:¬op=2:=by omega
 have e3:op≠11:=by omega
 have eb:∀p q,Zb3 op p q=binF op p q:=fun p q=>by
  unfold Zb3 binF
  by_cases q3:op=3
  · rw [if_pos q3,if_pos q3]
  by_cases q4:op=4
  · rw [if_neg q3,if_pos q4,if_neg q3,if_pos q4]
  by_cases q5:op=5
  · rw [if_neg q3,if_neg q4,if_pos q5,if_neg q3,if_neg q4,if_pos q5]
  by_cases q6:op=6
  · rw [if_neg q3,if_neg q4,if_neg q5,if_pos q6,if_neg q3,if_neg q4,if_neg q5,if_pos q6]
  by_cases q7:op=7
  · rw [if_neg q3,if_neg q4,if_neg q5,if_neg q6,if_pos q7,if_neg q3,if_neg q4,if_neg q5,if_neg q6,if_pos q7]
  rw [if_neg q3,if_neg q4,if_neg q5,if_neg q6,if_neg q7,if_neg q3,if_neg q4,if_neg q5,if_neg q6,if_neg q7]
  have:op=8\/op=9\/op=10:=by omega
  rcases this with rfl|rfl|rfl
  · rw [if_pos rfl]
  · rw [if_neg (by decide),if_pos rfl]
  · rw [if_neg (by decide),if_neg (by decide),if_pos rfl]
 rw [Znx]
 simp only [Ze2,Zww,List.getD_cons_zero,List.getD_cons_succ]
 rw [if_neg e1,if_neg e2,if_pos e3,eb]
theorem Z6l {d:Nat} {n a b c e:Int} {y z u w:Ex} {v:Ev}:Zg (d+1) (.mk 11 n a b c e [y,z,u,w]) v=
 if (Zg d y v).2≠0 then (0,(Zg d y v).2) else if (Zg d z v).2≠0 then (0,(Zg d z v).2) else if (Zg d y v).1<(Zg d z v).1 then Zg d u v else Zg d w v:=by
 rw [Znx]
 refine (if_neg (by decide:¬(11:Int)=1)).trans ((if_neg (by decide:¬(11:Int)=2)).trans ?_)
 show (if (Zg d y v).2≠0 then (0,(Zg d y v).2) else if (Zg d z v).2≠0 then (0,(Zg d z v).2) else if (11:Int)≠11 then _ else if (Zg d y v).1<(Zg d z v).1 then Zg d u v else Zg d w v)=_
 rw [if_neg (fun h:(11:Int)≠11=>h rfl)]
def ExX (x:Ex) (v:Ev) (d:Nat):Prop:=∀(C A B:List Ins) (o:Nat),C=A++cdX x o++B->A.length=o->∀s,
 ((Zg d x v).2=0->Goes C v o s (o+(cdX x o).length) (s++ [(Zg d x v).1]))/\((Zg d x v).2≠0->Ends C v o s 0 0 (Zg d x v).2)
theorem ex_X (v:Ev):∀(d:Nat) (x:Ex),Zq x=true->Z6 x<=d->ExX x v d
 |0,x,_,hn=>by rw [Zac] at hn;omega
 |d+1,x,hf,hn=>by
  intro C A B o hC hA s
  rcases Y8 hf with ⟨op,n,a,b,c,e,rfl,ho⟩|⟨op,n,a,b,c,e,y,z,rfl,h3,h10,fy,fz⟩|⟨n,a,b,c,e,y,z,u,w,rfl,fy,fz,fu,fw⟩
  · rw [Zna ho] at hC⊢
    have hx:C[o]? =some (iNN op n):=W5 hC (k:=0) rfl (by omega)
    rcases ho with rfl|rfl
    · have ev:Zg (d+1) (.mk 1 n a b c e []) v=(n,0):=rfl
      rw [ev]
      exact ⟨fun _=>Z6e hx,fun h=>absurd rfl h⟩
    · have ev:Zg (d+1) (.mk 2 n a b c e []) v=Zy v n.toNat:=by
       rw [Znx]
       exact (if_neg (by decide:¬(2:Int)=1)).trans (if_pos rfl)
      rw [ev]
      exact ⟨fun h=>Zxm hx h,fun h=>Zqa hx h⟩
  · have ny:Z6 y<=d/\Z6 z<=d:=by
     rw [Zac] at hn
     have hn:max (Z6 y) (max (Z6 z) 0)+1<=d+1:=hn
     omega
    rw [Znb h3 h10] at hC⊢
    rw [Z6k h3 h10]
    have iy:=ex_X v d y fy ny.1 C A (cdX z (o+(cdX y o).length)++ [iOp op]++B) o (by rw [hC];simp) hA s
    have iz:=ex_X v d z fz ny.2 C (A++cdX y o) ([iOp op]++B) (o+(cdX y o).length) (by rw [hC];simp) (by simp [hA])
    generalize hP:(cdX y o).length=P at hC iz iy⊢
    generalize hQ:(cdX z (o+P)).length=Q at hC iz⊢
    have hx:C[o+P+Q]? =some (iOp op):=W5 (A:=A++cdX y o++cdX z (o+P)) (P:= [iOp op]) (B:=B) (by rw [hC];simp) (k:=0) rfl (by simp [hA,hP,hQ];omega)
    have hlen:o+(cdX y o++cdX z (o+P)++ [iOp op]).length=o+P+Q+1:=by simp [hP,hQ];omega
    rw [hlen]
    by_cases e1:(Zg d y v).2=0
    · rw [if_neg (fun k=>k e1)]
      have g1:=iy.1 e1
      have iz:=iz (s++ [(Zg d y v).1])
      by_cases e2:(Zg d z v).2=0
      · rw [if_neg (fun k=>k e2)]
        have g2:=iz.1 e2
        rw [List.append_assoc] at g2
        exact ⟨fun h=>(g1.trans g2).trans (Z4l h3 (by omega) hx h),fun h=>(g1.trans g2).ends (Z6h h3 (by omega) hx h)⟩
      · rw [if_pos e2]
        exact ⟨fun h=>absurd h e2,fun _=>g1.ends (iz.2 e2)⟩
    · rw [if_pos e1]
      exact ⟨fun h=>absurd h e1,fun _=>iy.2 e1⟩
  · have ny:Z6 y<=d/\Z6 z<=d/\Z6 u<=d/\Z6 w<=d:=by
     rw [Zac] at hn
     have hn:max (Z6 y) (max (Z6 z) (max (Z6 u) (max (Z6 w) 0)))+1<=d+1:=hn
     omega
    generalize hp:o+(cdX y o).length+(cdX z (o+(cdX y o).length)).length+2=p
    generalize hq:p+(cdX u p).length+1=q
    have hcd:=Znc (n:=n) (a:=a) (b:=b) (c:=c) (d:=e) (x:=y) (y:=z) (z:=u) (w:=w) (o:=o) hp.symm hq.symm
    rw [hcd] at hC⊢
    rw [Z6l]
    have iy:=ex_X v d y fy ny.1 C A (cdX z (o+(cdX y o).length)++iOp 11::iNN 13 q::(cdX u p++iNN 14 (q+(cdX w q).length:Nat)::cdX w q)++B) o (by rw [hC];simp) hA s
    have iz:=ex_X v d z fz ny.2.1 C (A++cdX y o) (iOp 11::iNN 13 q::(cdX u p++iNN 14 (q+(cdX w q).length:Nat)::cdX w q)++B) (o+(cdX y o).length) (by rw [hC];simp) (by simp [hA])
    have iu:=ex_X v d u fu ny.2.2.1 C (A++cdX y o++cdX z (o+(cdX y o).length)++ [iOp 11,iNN 13 q]) (iNN 14 (q+(cdX w q).length:Nat)::cdX w q++B) p (by rw [hC];simp) (by simp [hA];omega) s
    have iw:=ex_X v d w fw ny.2.2.2 C (A++cdX y o++cdX z (o+(cdX y o).length)++ [iOp 11,iNN 13 q]++cdX u p++ [iNN 14 (q+(cdX w q).length:Nat)]) B q (by rw [hC];simp) (by simp [hA];omega) s
    have x11:C[o+(cdX y o).length+(cdX z (o+(cdX y o).length)).length]? =some (iOp 11):=W5 (A:=A++cdX y o++cdX z (o+(cdX y o).length)) (P:=iOp 11::iNN 13 q::(cdX u p++iNN 14 (q+(cdX w q).length:Nat)::cdX w q)) (B:=B) (by rw [hC];simp) (k:=0) rfl (by simp [hA];omega)
    have x13:C[o+(cdX y o).length+(cdX z (o+(cdX y o).length)).length+1]? =some (iNN 13 q):=W5 (A:=A++cdX y o++cdX z (o+(cdX y o).length)) (P:=iOp 11::iNN 13 q::(cdX u p++iNN 14 (q+(cdX w q).length:Nat)::cdX w q)) (B:=B) (by rw [hC];simp) (k:=1) rfl (by simp [hA];omega)
    have x14:C[p+(cdX u p).length]? =some (iNN 14 (q+(cdX w q).length:Nat)):=W5 (A:=A++cdX y o++cdX z (o+(cdX y o).length)++ [iOp 11,iNN 13 q]++cdX u p) (P:=iNN 14 (q+(cdX w q).length:Nat)::cdX w q) (B:=B) (by rw [hC];simp) (k:=0) rfl (by simp [hA];omega)
    generalize hP:(cdX y o).length=P at*
    generalize hQ:(cdX z (o+P)).length=Q at*
    generalize hU:(cdX u p).length=U at*
    generalize hW:(cdX w q).length=W at*
    have hlen:o+(cdX y o++cdX z (o+P)++iOp 11::iNN 13 ↑q::(cdX u p++iNN 14 ↑(q+W)::cdX w q)).length=q+W:=by simp [hP,hQ,hU,hW];omega
    rw [hlen]
    clear hC hcd
    by_cases e1:(Zg d y v).2=0
    · rw [if_neg (fun k=>k e1)]
      have g1:=iy.1 e1
      have iz:=iz (s++ [(Zg d y v).1])
      by_cases e2:(Zg d z v).2=0
      · rw [if_neg (fun k=>k e2)]
        have g2:=iz.1 e2
        rw [List.append_assoc] at g2
        have b0:∀a b,binF 11 a b=(if a<b then 1 else 0,0):=fun a b=>by
         unfold binF
         simp
        have g3:=Z4l (C:=C) (v:=v) (s:=s) (a:=(Zg d y v).1) (b:=(Zg d z v).1) (by decide) (by decide) x11 (by rw [b0])
        rw [b0] at g3
        have g4:=Zxo (v:=v) (s:=s) (b:=if (Zg d y v).1<(Zg d z v).1 then 1 else 0) x13 (by omega)
        have g5:=((g1.trans g2).trans g3).trans g4
        by_cases lt:(Zg d y v).1<(Zg d z v).1
        · rw [if_pos lt] at g5⊢
          rw [if_neg (by decide),show o+P+Q+1+1=p by omega] at g5
          exact ⟨fun h=>(g5.trans (iu.1 h)).trans (Z6i x14 (by omega)),fun h=>g5.ends (iu.2 h)⟩
        · rw [if_neg lt] at g5⊢
          rw [if_pos rfl] at g5
          exact ⟨fun h=>g5.trans (iw.1 h),fun h=>g5.ends (iw.2 h)⟩
      · rw [if_pos e2]
        exact ⟨fun h=>absurd h e2,fun _=>g1.ends (iz.2 e2)⟩
    · rw [if_pos e1]
      exact ⟨fun h=>absurd h e1,fun _=>iy.2 e1⟩
theorem Z87 (v:Ev):∀(ws:List Tst),(∀w∈ws,Yc w=true)->∀(C A B:List Ins) (o n:Nat),C=A++cdTs n ws++B->A.length=o->o+3*ws.length<n->
 ((Z9 v (ws.map toTs)).2≠0->Ends C v o [] 0 0 (Z9 v (ws.map toTs)).2)/\((Z9 v (ws.map toTs)).2=0->(Z9 v (ws.map toTs)).1=true->Goes C v o [] (o+3*ws.length) [])/\
 ((Z9 v (ws.map toTs)).2=0->(Z9 v (ws.map toTs)).1=false->Goes C v o [] n [])
 | [],_,C,A,B,o,n,hC,hA,hn=>⟨fun h=>absurd rfl h,fun _ _=>Goes.refl,fun _ h=>by cases h⟩
 |w::r,hw,C,A,B,o,n,hC,hA,hn=>by
  have hk:=of_decide_eq_true (hw w (.head _))
  have eh:Z9 v ((w::r).map toTs)=if (Zy v w.attr.toNat).2≠0 then (false,(Zy v w.attr.toNat).2) else if (Zy v w.attr.toNat).1<w.low\/w.high<(Zy v w.attr.toNat).1 then (false,0) else Z9 v (r.map toTs):=by
   show (if w.attr<0\/16<=w.attr then (false,(1:Int)) else _)=_
   rw [if_neg (by omega)]
   rfl
  rw [eh]
  have hC':C=A++(iNN 2 w.attr::⟨12,w.low,w.high⟩::iNN 13 n::cdTs n r)++B:=hC
  have x0:C[o]? =some (iNN 2 w.attr):=W5 hC' (k:=0) rfl (by omega)
  have x1:C[o+1]? =some ⟨12,w.low,w.high⟩:=W5 hC' (k:=1) rfl (by omega)
  have x2:C[o+1+1]? =some (iNN 13 n):=W5 hC' (k:=2) rfl (by omega)
  have ih:=Z87 v r (fun x hx=>hw x (.tail _ hx)) C (A++ [iNN 2 w.attr,⟨12,w.low,w.high⟩,iNN 13 n]) B (o+1+1+1) n (by rw [hC'];simp) (by simp [hA]) (by simp at hn;omega)
  have el:o+1+1+1+3*r.length=o+3*(w::r).length:=by simp;omega
  rw [el] at ih
  by_cases e1:(Zy v w.attr.toNat).2=0
  · rw [if_neg (fun k=>k e1)]
    have g1:=Zxm (s:= []) x0 e1
    have g2:=g1.trans (Z19 (s:= []) x1)
    have g3:=g2.trans (Zxo (s:= []) x2 (by simp at hn;omega))
    by_cases e2:(Zy v w.attr.toNat).1<w.low\/w.high<(Zy v w.attr.toNat).1
    · rw [if_pos e2]
      have hr:(if w.low<=(Zy v w.attr.toNat).1/\(Zy v w.attr.toNat).1<=w.high then (1:Int) else 0)=0:=if_neg (by omega)
      rw [hr,if_pos rfl] at g3
      exact ⟨fun h=>absurd rfl h,fun _ h=>(by cases h),fun _ _=>g3⟩
    · rw [if_neg e2]
      have hr:(if w.low<=(Zy v w.attr.toNat).1/\(Zy v w.attr.toNat).1<=w.high then (1:Int) else 0)=1:=if_pos (by omega)
      rw [hr,if_neg (by decide)] at g3
      exact ⟨fun h=>g3.ends (ih.1 h),fun h h2=>g3.trans (ih.2.1 h h2),fun h h2=>g3.trans (ih.2.2 h h2)⟩
  · rw [if_pos e1]
    exact ⟨fun _=>Zqa (s:= []) x0 e1,fun h=>absurd h e1,fun h=>absurd h e1⟩
theorem Z88 (v:Ev):∀(l:List Cls),(∀c∈l,Zq c.pay=true/\Z6 c.pay<=24/\∀w∈c.when_,Yc w=true)->∀(C A:List Ins) (i o:Nat),C=A++cdCs l i o++ [iOp 16]->A.length=o->
 Ends C v o [] (Y6 v (l.map toCl) i).1 (Y6 v (l.map toCl) i).2.1 (Y6 v (l.map toCl) i).2.2
 | [],_,C,A,i,o,hC,hA=>Z2a (W5 (A:=A) (P:= [iOp 16]) (B:= []) (by rw [hC];simp [cdCs]) (k:=0) rfl (by omega))
 |c::r,hc,C,A,i,o,hC,hA=>by
  obtain ⟨c1,c2,c3⟩:=hc c (.head _)
  have hC:C=A++(cdC c i o++cdCs r (i+1) (o+(cdC c i o).length))++ [iOp 16]:=hC
  have ih:=Z88 v r (fun x hx=>hc x (.tail _ hx)) C (A++cdC c i o) (i+1) (o+(cdC c i o).length) (by rw [hC];simp) (by simp [hA])
  have ea:Y6 v ((c::r).map toCl) i=if (Z9 v (c.when_.map toTs)).2≠0 then (0,0,(Z9 v (c.when_.map toTs)).2) else if (Z9 v (c.when_.map toTs)).1=false then Y6 v (r.map toCl) (i+1) else
   if (Za8 c.pay v).2≠0 then (0,0,(Za8 c.pay v).2) else ((Za8 c.pay v).1,i,0):=rfl
  rw [ea]
  have hE:Za8 c.pay v=Zg 24 c.pay v:=by unfold Za8;rw [if_pos (Zqb c1 c2)]
  rw [hE]
  have hl:=Znm c i o
  generalize hn:o+3*c.when_.length+(cdX c.pay (o+3*c.when_.length)).length+1=n
  have eC:cdC c i o=cdTs n c.when_++cdX c.pay (o+3*c.when_.length)++ [iNN 15 i]:=by
   unfold cdC
   simp only [hn]
  have en:o+(cdC c i o).length=n:=by rw [hl];omega
  rw [en] at hC ih
  rw [eC] at hC
  have t:=Z87 v c.when_ c3 C A (cdX c.pay (o+3*c.when_.length)++ [iNN 15 i]++cdCs r (i+1) n++ [iOp 16]) o n (by rw [hC];simp) hA (by omega)
  have x:=ex_X v 24 c.pay c1 c2 C (A++cdTs n c.when_) ([iNN 15 i]++cdCs r (i+1) n++ [iOp 16]) (o+3*c.when_.length) (by rw [hC];simp) (by simp [hA,Yu]) []
  have hp:C[o+3*c.when_.length+(cdX c.pay (o+3*c.when_.length)).length]? =some (iNN 15 i):=W5 (A:=A++cdTs n c.when_++cdX c.pay (o+3*c.when_.length)) (P:= [iNN 15 i]) (B:=cdCs r (i+1) n++ [iOp 16]) (by rw [hC];simp) (k:=0) rfl (by simp [hA,Yu];omega)
  by_cases e1:(Z9 v (c.when_.map toTs)).2=0
  · rw [if_neg (fun k=>k e1)]
    cases e2:(Z9 v (c.when_.map toTs)).1 with
    |false=>exact (t.2.2 e1 e2).ends ih
    |true=>
     rw [if_neg (by decide)]
     have g:=t.2.1 e1 e2
     by_cases e3:(Zg 24 c.pay v).2=0
     · rw [if_neg (fun k=>k e3)]
       exact (g.trans (x.1 e3)).ends (Z6j hp)
     · rw [if_pos e3]
       exact g.ends (x.2 e3)
  · rw [if_pos e1]
    exact t.1 e1
theorem ex_T {t:Tar} (h:Y2 t=0) (v:Ev):∃m,exF (cdT t) v (cdT t).length 0 [] 0=⟨(amtF t v).1,(amtF t v).2.1,(amtF t v).2.2,true,m⟩:=by
 obtain ⟨-,-,-,-,-,c6⟩:=(Zfk t).1 h
 obtain ⟨c1,_,_⟩:=Zi0 h
 have hn:∀{cs:List Cls} {s:List (List Nat)},CsOk s cs->∀c∈cs,Z6 c.pay<=24:=by
  intro cs
  induction cs with
  |nil=>intro s _ c hc;cases hc
  |cons d r ih=>
   intro s hs c hc
   obtain ⟨_,_,_,_,h5,h6⟩:=hs
   rcases List.mem_cons.1 hc with rfl|hc
   · exact h5
   · exact ih h6 c hc
 exact Z88 v t.clauses (fun c hc=>⟨(c1 c hc).1,hn c6 c hc,(c1 c hc).2⟩) (cdT t) [] 0 0 (by unfold cdT;simp) rfl _ _ (Nat.le_refl _)
end
section
open Go
def dI:Dc E Int:=dInt .i64
def dII:DcL E (Int×Int×Unit):= .cons dI (.cons dI .nil)
def dIII:DcL E (Int×Int×Int×Unit):= .cons dI (.cons dI (.cons dI .nil))
def Zoc (p:Int×Int):SV thy:= .tup [.int false .i64 p.1,.int false .i64 p.2]
theorem Vg {f:Nat} {a b:Int} {p:Int×Int} (h:∀w,Calls Tryz.prog f #[.int .i64 a,.int .i64 b] w fun e w'=>e= .returned (.tuple #[.int .i64 p.1,.int .i64 p.2])/\Ext w w'):PureC E f (dII.enc (a,b,())) (Zoc p):=by
 refine Zaw fun g w vals hd=> ?_
 obtain rfl:=Zu3 (vals:=vals) hd
 refine (h w).mono ?_
 rintro en w' ⟨rfl,hx⟩
 exact ⟨_,rfl,Zo9,hx⟩
theorem Zlp {f:Nat} {a b c:Int} {p:Int×Int} (h:∀w,Calls Tryz.prog f #[.int .i64 a,.int .i64 b,.int .i64 c] w fun e w'=>e= .returned (.tuple #[.int .i64 p.1,.int .i64 p.2])/\Ext w w'):PureC E f (dIII.enc (a,b,c,())) (Zoc p):=by
 refine Zaw fun g w vals hd=> ?_
 obtain rfl:=Zu4 (vals:=vals) hd
 refine (h w).mono ?_
 rintro en w' ⟨rfl,hx⟩
 exact ⟨_,rfl,Zo9,hx⟩
def S2 (f:Int->Int->Int×Int):Sum thy:=sumP dII (fun _=>True) fun x=>Zoc (f x.1 x.2.1)
def S3 (f:Int->Int->Int->Int×Int):Sum thy:=sumP dIII (fun _=>True) fun x=>Zoc (f x.1 x.2.1 x.2.2.1)
def F1a:Fns thy:=addS (addS (addS (addS F0 150 (S2 addF)) 152 (S2 subF)) 153 (S2 mulF)) 187 (S3 divF)
theorem Z9i:FnsOk E F1a:=by
 refine Zb (Zb (Zb (Zb F0_ok ?_) ?_) ?_) ?_
 · exact Zp E_ok (Zc (f:=150) rfl) fun x _=>Vg fun w=>Zv8 _ _ w
 · exact Zp E_ok (Zc (f:=152) rfl) fun x _=>Vg fun w=>Zv9 _ _ w
 · exact Zp E_ok (Zc (f:=153) rfl) fun x _=>Vg fun w=>Zwb _ _ w
 · exact Zp E_ok (Zc (f:=187) rfl) fun x _=>Zlp fun w=>Zwc _ _ _ w
def F1:Fns thy:=addS (addS (addS (addS F1a 123 (S2 addF)) 124 (S2 subF)) 125 (S2 mulF)) 126 (S3 divF)
theorem Ya4:FnsOk E F1:=by
 refine Zb (Zb (Zb (Zb Z9i ?_) ?_) ?_) ?_
 · exact Zp E_ok (Zc (f:=123) rfl) fun x _=>Vg fun w=>(Z04 _ _ w).mono fun e w' h=>⟨h.1,h.2▸Ext.refl _⟩
 · exact Zp E_ok (Zc (f:=124) rfl) fun x _=>Vg fun w=>(Z05 _ _ w).mono fun e w' h=>⟨h.1,h.2▸Ext.refl _⟩
 · exact Zp E_ok (Zc (f:=125) rfl) fun x _=>Vg fun w=>(Z06 _ _ w).mono fun e w' h=>⟨h.1,h.2▸Ext.refl _⟩
 · exact Zp E_ok (Zc (f:=126) rfl) fun x _=>Zlp fun w=>(Z07 _ _ _ w).mono fun e w' h=>⟨h.1,h.2▸Ext.refl _⟩
end
section
open Go
def envC (v:Env):SV thy:= .agg [.int false .i64 v.has,.int false .i64 v.v0,.int false .i64 v.v1,.int false .i64 v.v2,.int false .i64 v.v3,.int false .i64 v.v4,.int false .i64 v.v5,.int false .i64 v.v6,.int false .i64 v.v7,.int false .i64 v.v8,.int false .i64 v.v9,.int false .i64 v.v10,.int false .i64 v.v11,.int false .i64 v.v12,.int false .i64 v.v13,.int false .i64 v.v14,.int false .i64 v.v15]
def toEv (v:Env):Ev:=⟨v.has,v.v⟩
theorem Zy7 (z:Int):(z.tmod 2==0)= !decide (z%2=1):=by
 by_cases h0:z.tmod 2=0
 · have e:z%2=0:=Int.emod_eq_zero_of_dvd (Int.dvd_of_tmod_eq_zero h0)
   rw [h0,e];rfl
 · have e:z%2=1:=by
    by_cases k:z%2=0
    · exact absurd (Int.tmod_eq_zero_of_dvd (Int.dvd_of_emod_eq_zero k)) h0
    · omega
   rw [e]
   simp [h0]
theorem Z7l {x:Ev} {a:Nat} (h:((x.has/2^a).tmod 2==0)=true):Zy x a=(0,181):=by
 rw [Zy7] at h
 unfold Zy bitF
 rw [if_pos h]
theorem Z3p {x:Ev} {a:Nat} {y:Int} (hg:x.v.getD a 0=y) (h:((x.has/2^a).tmod 2==0)=false) (hy: -9007199254740992<=y/\y<=9007199254740992):Zy x a=(y,0):=by
 rw [Zy7] at h
 unfold Zy bitF
 rw [if_neg (by rw [h];exact Bool.false_ne_true),hg,if_pos (by unfold inR;simp [hy])]
theorem Z3q {x:Ev} {a:Nat} {y:Int} (hg:x.v.getD a 0=y) (h:((x.has/2^a).tmod 2==0)=false) (hy:y< -9007199254740992\/9007199254740992<y):Zy x a=(0,3):=by
 rw [Zy7] at h
 unfold Zy bitF
 rw [if_neg (by rw [h];exact Bool.false_ne_true),hg,if_neg (by unfold inR;simp;omega)]
set_option maxHeartbeats 1000000 in
theorem Zuf (x:Ev) (hx:x.v.length=16) (a:Nat) (ha:a<16):PureC E 81 [evA x,.int false .i64 (a:Int)] (Yan (Zy x a)):=by
 refine Zc2 fun g w vals hI hd=> ?_
 obtain ⟨u,v,rfl,hu,hv⟩:=Z3w hd
 cases hv
 rw [Z4b hx hu]
 have hc:∃y,x.v[a]? =some y:=⟨_,gB9 (by omega)⟩
 obtain ⟨y,hy⟩:=hc
 have h2:(x.cells.toArray)[1+a]? =some (.int .i64 y):=by
  rw [List.getElem?_toArray]
  unfold Ev.cells
  rw [Nat.add_comm,List.getElem?_cons_succ,List.getElem?_map,hy];rfl
 have h1:(x.cells.toArray)[0]? =some (.int .i64 x.has):=rfl
 have hz:x.cells.toArray.size=17:=by unfold Ev.cells;simp [hx]
 have hg:x.v.getD a 0=y:=by rw [List.getD_eq_getElem?_getD,hy];rfl
 suffices H:Calls Tryz.prog 81 #[.agg x.cells.toArray,.int .i64 (a:Int)] w fun en w'=>en= .returned (.tuple #[.int .i64 (Zy x a).1,.int .i64 (Zy x a).2])/\Ext w w' by
  refine Calls.mono H ?_
  rintro en w' ⟨rfl,hw⟩
  exact ⟨_,rfl,Z1v,hw⟩
 generalize hA:x.cells.toArray=A at h1 h2 hz
 have c0:(w.alloc (.cells A 53)).cell? ⟨w.heap.size,0,none⟩=some (.int .i64 x.has):=by rw [World.cell?_alloc_new];exact h1
 have c1:(w.alloc (.cells A 53)).cell? ⟨w.heap.size,1+a,none⟩=some (.int .i64 y):=by rw [World.cell?_alloc_new];exact h2
 go_enter Tryz.func81,Tryz.ntmps81
 go_wp2
 all_goals
  go_ret2
  refine ⟨?_,(Ext.refl w).alloc _⟩
  first
  |(rw [Z7l (by assumption)];rfl)
  |(rw [Z3p hg (by assumption) (by omega)];rfl)
  |(rw [Z3q hg (by assumption) (by omega)];rfl)
def Zy8 (p:Int×Int×Int×Int×Int×Int×Int×Int×Int×Int×Int×Int×Int×Int×Int×Int×Int×Unit):Ev:=
 ⟨p.1,[p.2.1,p.2.2.1,p.2.2.2.1,p.2.2.2.2.1,p.2.2.2.2.2.1,p.2.2.2.2.2.2.1,p.2.2.2.2.2.2.2.1,p.2.2.2.2.2.2.2.2.1,p.2.2.2.2.2.2.2.2.2.1,p.2.2.2.2.2.2.2.2.2.2.1,p.2.2.2.2.2.2.2.2.2.2.2.1,p.2.2.2.2.2.2.2.2.2.2.2.2.1,p.2.2.2.2.2.2.2.2.2.2.2.2.2.1,p.2.2.2.2.2.2.2.2.2.2.2.2.2.2.1,p.2.2.2.2.2.2.2.2.2.2.2.2.2.2.2.1,p.2.2.2.2.2.2.2.2.2.2.2.2.2.2.2.2.1]⟩
def Ybb (x:Ev):Int×Int×Int×Int×Int×Int×Int×Int×Int×Int×Int×Int×Int×Int×Int×Int×Int×Unit:=
 (x.has,x.v.getD 0 0,x.v.getD 1 0,x.v.getD 2 0,x.v.getD 3 0,x.v.getD 4 0,x.v.getD 5 0,x.v.getD 6 0,x.v.getD 7 0,x.v.getD 8 0,x.v.getD 9 0,x.v.getD 10 0,x.v.getD 11 0,x.v.getD 12 0,x.v.getD 13 0,x.v.getD 14 0,x.v.getD 15 0,())
def dNc:Dc E Int:=dInt .i64
def Ybc:DcL E Ev:=(DcL.cons dNc (.cons dNc (.cons dNc (.cons dNc (.cons dNc (.cons dNc (.cons dNc (.cons dNc (.cons dNc (.cons dNc (.cons dNc (.cons dNc (.cons dNc (.cons dNc (.cons dNc (.cons dNc (.cons dNc .nil))))))))))))))))).map Zy8 Ybb fun _=>rfl
def dEvC:Dc E Ev:=dAgg Ybc
theorem Zd3 {x:Ev} (hx:x.v.length=16):dEvC.enc x=evA x:=by
 obtain ⟨h,v⟩:=x
 have hx:v.length=16:=hx
 match v,hx with
 | [a0,a1,a2,a3,a4,a5,a6,a7,a8,a9,a10,a11,a12,a13,a14,a15],_=>rfl
def dLd:DcL E (Ev×Int×Unit):= .cons dEvC (.cons dNc .nil)
def Sld:Sum thy:=sumP dLd (fun x=>x.1.v.length=16/\0<=x.2.1/\x.2.1<16) fun x=>Zoc (Zy x.1 x.2.1.toNat)
theorem Z9v:SumOk E 81 Sld:=Zp E_ok (Zc (f:=81) rfl) fun x h=>by
 obtain ⟨x,n,_⟩:=x
 obtain ⟨h1,h2,h3⟩:=h
 have h2:0<=n:=h2
 have h3:n<16:=h3
 have:=Zuf x h1 n.toNat (by omega)
 rw [Int.toNat_of_nonneg h2] at this
 show PureC E _ [dEvC.enc x,_] _
 rw [Zd3 h1]
 exact this
def Fpsh:Fns thy:=addS F1 81 Sld
theorem Z7m:FnsOk E Fpsh:=Zb Ya4 Z9v
abbrev qDY1 (a0:Env):=(Zy8 (Env.has a0,Env.v0 a0,Env.v1 a0,Env.v2 a0,Env.v3 a0,Env.v4 a0,Env.v5 a0,Env.v6 a0,Env.v7 a0,Env.v8 a0,Env.v9 a0,Env.v10 a0,Env.v11 a0,Env.v12 a0,Env.v13 a0,Env.v14 a0,Env.v15 a0,()))
abbrev qDY2:=(0:Int)
theorem Zug (x:Ins) (v:Env) (a b:Int) (p q:Int):Zk E Fpsh (vc E Fpsh 400) 50 [.agg [.int false .i64 x.op,.int false .i64 x.n,.int false .i64 x.m],envC v,.int false .i64 a,.int false .i64 b] hp0 0 (fun r=>ret E (patch hp0 0 r) r.v (.tup [.int false .i64 p,.int false .i64 q]))=(
 ((Ins.op x==(1:Int))=true->Ins.n x=p/\qDY2=q/\True)/\((Ins.op x==(1:Int))=false->((Ins.op x==(2:Int))=true->(List.length (Ev.v (qDY1 v))=(16:Nat)/\qDY2<=Ins.n x/\Ins.n x+(1:Int)<=(16:Int))/\Prod.fst (Zy (qDY1 v) (Int.toNat (Ins.n x)))=p/\Prod.snd (Zy (qDY1 v) (Int.toNat (Ins.n x)))=q/\True)/\((Ins.op x==(2:Int))=false->((Ins.op x==(12:Int))=true->∃(Q:Bool->Prop),((decide (Ins.n x<=b)=true->(decide (b<=Ins.m x)=true->Q true)/\(decide (b<=Ins.m x)=false->Q false))/\(decide (Ins.n x<=b)=false->Q false))/\(Q true->(1:Int)=p/\qDY2=q/\True)/\(Q false->qDY2=p/\qDY2=q/\True))/\((Ins.op x==(12:Int))=false->((Ins.op x==(3:Int))=true->True/\Prod.fst (addF a b)=p/\Prod.snd (addF a b)=q/\True)/\((Ins.op x==(3:Int))=false->((Ins.op x==(4:Int))=true->True/\Prod.fst (subF a b)=p/\Prod.snd (subF a b)=q/\True)/\((Ins.op x==(4:Int))=false->((Ins.op x==(5:Int))=true->True/\Prod.fst (mulF a b)=p/\Prod.snd (mulF a b)=q/\True)/\((Ins.op x==(5:Int))=false->((Ins.op x==(6:Int))=true->mm2 false a b=p/\qDY2=q/\True)/\((Ins.op x==(6:Int))=false->((Ins.op x==(7:Int))=true->mm2 true a b=p/\qDY2=q/\True)/\((Ins.op x==(7:Int))=false->((Ins.op x==(11:Int))=true->(decide (a<b)=true->(1:Int)=p/\qDY2=q/\True)/\(decide (a<b)=false->qDY2=p/\qDY2=q/\True))/\((Ins.op x==(11:Int))=false->True/\Prod.fst (divF a b (Ins.op x))=p/\Prod.snd (divF a b (Ins.op x))=q/\True)))))))))):=by kernel_rfl
theorem Zuh (x:Ins) (v:Env) (a b:Int) (h1:1<=x.op) (h2:x.op<=12) (h3:x.op=2->0<=x.n/\x.n<16):PureC E 50 [.agg [.int false .i64 x.op,.int false .i64 x.n,.int false .i64 x.m],envC v,.int false .i64 a,.int false .i64 b] (.tup [.int false .i64 (Wa x (toEv v) a b).1,.int false .i64 (Wa x (toEv v) a b).2]):=by
 refine Za E_ok (Ze E_ok Z7m 400) ?_
 rw [Zug];delta qDY1 qDY2
 rw [show Zy8 (Env.has v,Env.v0 v,Env.v1 v,Env.v2 v,Env.v3 v,Env.v4 v,Env.v5 v,Env.v6 v,Env.v7 v,Env.v8 v,Env.v9 v,Env.v10 v,Env.v11 v,Env.v12 v,Env.v13 v,Env.v14 v,Env.v15 v,())=toEv v from rfl]
 have n:∀{y z:Int},(y==z)=false->y≠z:=fun h=>by simpa using h
 have y:∀{y z:Int},(y==z)=true->y=z:=fun h=>by simpa using h
 refine ⟨fun c1=> ?_,fun c1=>⟨fun c2=> ?_,fun c2=>⟨fun c3=> ?_,fun c3=>⟨fun c4=> ?_,fun c4=>⟨fun c5=> ?_,fun c5=>⟨fun c6=> ?_,fun c6=>⟨fun c7=> ?_,fun c7=>⟨fun c8=> ?_,fun c8=>⟨fun c9=> ?_,fun c9=> ?_⟩⟩⟩⟩⟩⟩⟩⟩⟩
 · have e:Wa x (toEv v) a b=(x.n,0):=if_pos (y c1)
   rw [e];exact ⟨rfl,rfl,trivial⟩
 · have e:Wa x (toEv v) a b=Zy (toEv v) x.n.toNat:=by unfold Wa;rw [if_neg (n c1),if_pos (y c2)]
   rw [e]
   obtain ⟨k1,k2⟩:=h3 (y c2)
   exact ⟨⟨rfl,k1,by omega⟩,rfl,rfl,trivial⟩
 · have e:Wa x (toEv v) a b=(if x.n<=b/\b<=x.m then 1 else 0,0):=by unfold Wa;rw [if_neg (n c1),if_neg (n c2),if_pos (y c3)]
   rw [e]
   refine ⟨fun z=>z=decide (x.n<=b/\b<=x.m),⟨fun k1=>⟨fun k2=> ?_,fun k2=> ?_⟩,fun k1=> ?_⟩,fun hQ=> ?_,fun hQ=> ?_⟩
   · simp only [decide_eq_true_eq] at k1 k2;simp [k1,k2]
   · simp only [decide_eq_false_iff_not] at k2;simp [k2]
   · simp only [decide_eq_false_iff_not] at k1;simp [k1]
   · have hQ:x.n<=b/\b<=x.m:=of_decide_eq_true hQ.symm
     rw [if_pos hQ];exact ⟨rfl,rfl,trivial⟩
   · have hQ:¬(x.n<=b/\b<=x.m):=of_decide_eq_false hQ.symm
     rw [if_neg hQ];exact ⟨rfl,rfl,trivial⟩
 all_goals
  have e:Wa x (toEv v) a b=binF x.op a b:=by unfold Wa;rw [if_neg (n c1),if_neg (n c2),if_neg (n c3)]
  rw [e]
  unfold binF
 · rw [if_pos (y c4)];exact ⟨trivial,rfl,rfl,trivial⟩
 · rw [if_neg (n c4),if_pos (y c5)];exact ⟨trivial,rfl,rfl,trivial⟩
 · rw [if_neg (n c4),if_neg (n c5),if_pos (y c6)];exact ⟨trivial,rfl,rfl,trivial⟩
 · rw [if_neg (n c4),if_neg (n c5),if_neg (n c6),if_pos (y c7),Y4];exact ⟨rfl,rfl,trivial⟩
 · rw [if_neg (n c4),if_neg (n c5),if_neg (n c6),if_neg (n c7),if_pos (y c8),Yl];exact ⟨rfl,rfl,trivial⟩
 · rw [if_neg (n c4),if_neg (n c5),if_neg (n c6),if_neg (n c7),if_neg (n c8),y c9]
   refine ⟨fun k=> ?_,fun k=> ?_⟩
   · have k:a<b:=of_decide_eq_true k
     simp [k]
   · have k:¬a<b:=of_decide_eq_false k
     simp [k]
 · rw [if_neg (n c4),if_neg (n c5),if_neg (n c6),if_neg (n c7),if_neg (n c8)]
   have:=n c1;have:=n c2;have:=n c3;have:=n c4;have:=n c5;have:=n c6;have:=n c7;have:=n c8;have:=n c9
   by_cases k8:x.op=8
   · rw [if_pos k8,k8];exact ⟨trivial,rfl,rfl,trivial⟩
   · rw [if_neg k8]
     by_cases k9:x.op=9
     · rw [if_pos k9,k9];exact ⟨trivial,rfl,rfl,trivial⟩
     · rw [if_neg k9,if_pos (by omega),show x.op=10 by omega];exact ⟨trivial,rfl,rfl,trivial⟩
end
section
open Go
theorem Zw8 {x:Ev} (hx:x.v.length=16):∃v:Env,x=toEv v/\evA x=envC v:=by
 obtain ⟨h,l⟩:=x
 have hx:l.length=16:=hx
 match l,hx with
 | [a0,a1,a2,a3,a4,a5,a6,a7,a8,a9,a10,a11,a12,a13,a14,a15],_=>exact ⟨⟨h,a0,a1,a2,a3,a4,a5,a6,a7,a8,a9,a10,a11,a12,a13,a14,a15⟩,rfl,rfl⟩
def Spps:Sum thy:=Zgc (dL1V dNc) (fun _=>True) (fun x=>eff x.1) Zoc
def dPsh:DcL E (Ins×Ev×Int×Int×Unit):=dL4V Z8u dEvC dNc dNc
def Spsh:Sum thy:=Zgc dPsh (fun x=>x.2.1.v.length=16/\1<=x.1.op/\x.1.op<=12/\(x.1.op=2->0<=x.1.n/\x.1.n<16)) (fun x=>Wa x.1 x.2.1 x.2.2.1 x.2.2.2.1) Zoc
theorem Z55:SumOk E 49 Spps:=Wb E_ok (Zc (f:=49) rfl) fun x _=>Ze3 x.1
theorem Z56:SumOk E 50 Spsh:=Wb E_ok (Zc (f:=50) rfl) fun x h=>by
 obtain ⟨x,v,a,b,_⟩:=x
 obtain ⟨h1,h2,h3,h4⟩:=h
 obtain ⟨u,rfl,hu⟩:=Zw8 h1
 have:=Zuh x u a b h2 h3 h4
 show PureC E _ [_,dEvC.enc (toEv u),_,_] _
 rw [Zd3 h1,hu]
 exact this
structure XcS where
 k:Int
 st:Nat
 n:Nat
 L:List Int
 m:Int
 r:Nat
def Aex:Fr thy->Hp thy->Nat->Ann thy:=fun T h i=>{X:=XcS,fr:=fun x=> [(0,T 0),(3,T 3),(4,T 4),(5,T 5),(6,.sl i 0 x.n 1 none),(7,.int false .i64 x.k),(8,.int false .i64 x.st)],bl:=fun x=>(i,.rows Th.ints x.L 0)::(bOf (T 5),.raw [.int true .i64 0,.int true .i64 0,.int true .i64 0,.bool true false,.int false .i64 x.m] 0 none)::(blkP h (T 3)++blkP h (T 4)),src:=fun _=> [(i,6)],md:= [bOf (T 4),bOf (T 5),bOf (T 6)],ih:=i+1,M:=i+60,meas:=fun x=>x.r}
def Fex:Fns thy:=addL (addS (addS F0 49 Spps) 50 Spsh) 19 5 Aex E
theorem Z81:FnsOk E Fex:=Z5 E_ok (Zb (Zb F0_ok Z55) Z56) _ _ _
def RsT (P:Oc) (a' q' e':Int) (s':Bool) (m':Int):Prop:=a'=P.a/\q'=P.c/\e'=P.e/\s'=P.s/\m'=P.m/\True
def EnT (v:Env):Prop:=v.has=v.has/\v.v0=v.v0/\v.v1=v.v1/\v.v2=v.v2/\v.v3=v.v3/\v.v4=v.v4/\v.v5=v.v5/\v.v6=v.v6/\v.v7=v.v7/\v.v8=v.v8/\v.v9=v.v9/\v.v10=v.v10/\v.v11=v.v11/\v.v12=v.v12/\v.v13=v.v13/\v.v14=v.v14/\v.v15=v.v15/\True
def ZT (m m':Int):Prop:=(0:Int)=0/\(0:Int)=0/\(0:Int)=0/\false=false/\m=m'/\True
def StT (c:List Ins) (v:Env) (R:XcS->Prop) (x:XcS) (k':Int) (n':Nat) (L':List Int) (m':Int):Prop:=
 ∃z:XcS,R z/\z.r+1<=x.r/\true=true/\((c=c/\(false=true->false=true))/\(0:Nat)=0/\(0:Nat)=0/\(0:Nat)=0/\((0:Nat)=0/\n'=z.n/\True)/\k'=z.k/\wr .i64 ((x.st:Int)+1)=(z.st:Int)/\True)/\(L'=z.L/\(0:Nat)=0)/\ZT m' z.m/\EnT v/\ZT 0 0/\True
def JT (c:List Ins) (v:Env) (P:Oc) (R:XcS->Prop) (x:XcS) (x1:Ins) (W:(Bool->Prop)->Prop) (n':Nat) (L':List Int) (m':Int):Prop:=
 ∃Q:Bool->Prop,(((x1.op==14)=true->Q true)/\((x1.op==14)=false->((x1.op==13)=true->W Q)/\((x1.op==13)=false->Q false)))/\(Q true->(decide (x1.n<=x.k)=true->RsT P 0 0 0 false m')/\(decide (x1.n<=x.k)=false->StT c v R x x1.n n' L' m'))/\(Q false->StT c v R x (wr .i64 (x.k+1)) n' L' m')
def Zsr (c:List Ins) (v:Env) (P:Oc) (R:XcS->Prop) (x:XcS) (x1:Ins) (W:(Bool->Prop)->Prop) (a0 b0:Int) (y:Int×Int):Prop:=
 (0<=wr .i64 ((x.n:Int)-y.1)/\wr .i64 ((x.n:Int)-y.1)<=(x.n:Int))/\
 ((x1.op==15)=true->((((wr .i64 ((x.n:Int)-y.1)).toNat:Int)==0)=true->RsT P b0 x1.n 0 true x.m)/\((((wr .i64 ((x.n:Int)-y.1)).toNat:Int)==0)=false->RsT P b0 x1.n 0 false x.m))/\
 ((x1.op==15)=false->((x1.op==16)=true->((((wr .i64 ((x.n:Int)-y.1)).toNat:Int)==0)=true->RsT P 0 0 180 true x.m)/\((((wr .i64 ((x.n:Int)-y.1)).toNat:Int)==0)=false->RsT P 0 0 180 false x.m))/\
 ((x1.op==16)=false->(decide (y.2>0)=true->((toEv v).v.length=16/\1<=x1.op/\x1.op<=12/\(x1.op=2->0<=x1.n/\x1.n+1<=16))/\
  ∀y1:Int×Int,y1=Wa x1 (toEv v) a0 b0->((y1.2 !=0)=true->RsT P 0 0 y1.2 true x.m)/\((y1.2 !=0)=false->((wr .i64 ((x.n:Int)-y.1)).toNat<=x.L.length/\0<=(wr .i64 ((x.n:Int)-y.1)).toNat/\((wr .i64 ((x.n:Int)-y.1)).toNat+1)*8<=140737488355328)/\
   JT c v P R x x1 W ((wr .i64 ((x.n:Int)-y.1)).toNat+1) (x.L.take (wr .i64 ((x.n:Int)-y.1)).toNat++ [y1.1]) (mm2 true x.m (((wr .i64 ((x.n:Int)-y.1)).toNat+1:Nat):Int))))/\
 (decide (y.2>0)=false->JT c v P R x x1 W (wr .i64 ((x.n:Int)-y.1)).toNat x.L (mm2 true x.m ((wr .i64 ((x.n:Int)-y.1)).toNat:Int)))))
def Wx (b:Int) (Q:Bool->Prop):Prop:=((b==0)=true->Q true)/\((b==0)=false->Q false)
def W0 (Q:Bool->Prop):Prop:=Q true
def TopT (x:XcS) (d:Int) (K:Int->Prop):Prop:=(0<=wr .i64 ((x.n:Int)-d)/\wr .i64 ((x.n:Int)-d)+1<=(x.n:Int))/\0+(wr .i64 ((x.n:Int)-d)).toNat+1<=x.L.length/\∀x2:Int,x.L[0+(wr .i64 ((x.n:Int)-d)).toNat]? =some x2->K x2
def InsT (c:List Ins) (v:Env) (P:Oc) (R:XcS->Prop) (x:XcS) (x1:Ins) (y:Int×Int):Prop:=
 (decide ((x.n:Int)<y.1)=true->RsT P 0 0 0 false x.m)/\(decide ((x.n:Int)<y.1)=false->
  (decide (y.1>0)=true->TopT x 1 fun x2=>(decide (y.1>1)=true->TopT x 2 fun x3=>Zsr c v P R x x1 (Wx x2) x3 x2 y)/\(decide (y.1>1)=false->Zsr c v P R x x1 (Wx x2) 0 x2 y))/\
  (decide (y.1>0)=false->(decide (y.1>1)=true->TopT x 2 fun x2=>Zsr c v P R x x1 W0 x2 0 y)/\(decide (y.1>1)=false->Zsr c v P R x x1 W0 0 0 y)))
def ExeT (c:List Ins) (v:Env) (P:Oc):Prop:=
 ∃R:XcS->Prop,(∃x:XcS,R x/\true=true/\((c=c/\(false=true->false=true))/\(0:Nat)=0/\(0:Nat)=0/\(0:Nat)=0/\((0:Nat)=0/\0=x.n/\True)/\0=x.k/\0=(x.st:Int)/\True)/\ []=x.L/\ZT 0 x.m/\EnT v/\ZT 0 0/\True)/\
 ∀x:XcS,R x->∃Q:Bool->Prop,((decide ((x.st:Int)<(c.length:Int))=true->(decide (x.k>=0)=true->(decide (x.k<(c.length:Int))=true->Q true)/\(decide (x.k<(c.length:Int))=false->Q false))/\(decide (x.k>=0)=false->Q false))/\(decide ((x.st:Int)<(c.length:Int))=false->Q false))/\
  (Q true->0<=x.k/\x.k+1<=(c.length:Int)/\∀x1:Ins,c[x.k.toNat]? =some x1->True/\∀y:Int×Int,y=eff x1.op->InsT c v P R x x1 y)/\(Q false->RsT P 0 0 0 false x.m)
theorem Zw9 (c:List Ins) (v:Env) (a q e:Int) (s:Bool) (m:Int):Zk E Fex (vc E Fex 400) 19 [.psl .ins c false,envC v] hp0 0 (fun r=>ret E (patch hp0 0 r) r.v (.agg [.int false .i64 a,.int false .i64 q,.int false .i64 e,.bool false s,.int false .i64 m]))=ExeT c v ⟨a,q,e,s,m⟩:=by kernel_rfl
def exR (x:Ins) (v:Ev) (i:Nat) (s1:List Int) (a b:Int) (m:Int) (K:Nat->List Int->Int->Oc):Oc:=
 if x.op=15 then ⟨b,x.n,0,s1.length==0,m⟩
 else if x.op=16 then ⟨0,0,180,s1.length==0,m⟩
 else if 0<(eff x.op).2/\(Wa x v a b).2≠0 then ⟨0,0,(Wa x v a b).2,true,m⟩
 else
  let s2:=if 0<(eff x.op).2 then s1++ [(Wa x v a b).1] else s1
  let m2:=max m s2.length
  if x.op=14\/(x.op=13/\b=0) then (if x.n<=i then ocX m2 else K x.n.toNat s2 m2) else K (i+1) s2 m2
theorem Zxa {x:Ins} {v:Ev} {i:Nat} {s:List Int} {m:Int} {K:Nat->List Int->Int->Oc} (h:s.length<(eff x.op).1.toNat):exS x v i s m K=ocX m:=if_pos h
theorem Yao {x:Ins} {v:Ev} {i:Nat} {s:List Int} {m:Int} {K:Nat->List Int->Int->Oc} {a b:Int} (h:¬s.length<(eff x.op).1.toNat) (hb:b=if 0<(eff x.op).1.toNat then s.getD (s.length-1) 0 else 0) (ha:a=if 1<(eff x.op).1.toNat then s.getD (s.length-2) 0 else 0):
 exS x v i s m K=exR x v i (s.take (s.length-(eff x.op).1.toNat)) a b m K:=by
 subst ha;subst hb
 exact if_neg h
theorem Zp6 {x:Ins} (h:formedF x=true):0<=(eff x.op).1/\(eff x.op).1<=2/\(0<(eff x.op).2->1<=x.op/\x.op<=12/\(x.op=2->0<=x.n/\x.n<16))/\((x.op=13\/x.op=14)->0<=x.n):=by
 unfold formedF at h
 unfold eff
 split at h
 · have h:=of_decide_eq_true h
   repeat' split
   all_goals (refine ⟨by omega,by omega,fun _=> ?_,fun _=>by omega⟩;simp only [] at*;omega)
 · split at h
   · have h:=of_decide_eq_true h
     repeat' split
     all_goals (refine ⟨by omega,by omega,fun _=> ?_,fun _=>by omega⟩;simp only [] at*;omega)
   · split at h
     · have h:=of_decide_eq_true h
       repeat' split
       all_goals (refine ⟨by omega,by omega,fun _=> ?_,fun _=>by omega⟩;simp only [] at*;omega)
     · have h:=of_decide_eq_true h
       repeat' split
       all_goals (refine ⟨by omega,by omega,fun _=> ?_,fun _=>by omega⟩;simp only [] at*;omega)
structure RexR (c:List Ins) (v:Env) (P:Oc) (x:XcS):Prop where
 nL:x.n<=x.L.length
 k0:0<=x.k
 sr:x.st+x.r=c.length
 ns:x.n<=x.st
 run:exF c (toEv v) x.r x.k.toNat (x.L.take x.n) x.m=P
theorem enT (v:Env):EnT v:=by unfold EnT;simp
theorem zTx (m:Int):ZT m m:=⟨rfl,rfl,rfl,rfl,rfl,trivial⟩
theorem Z4j {c:List Ins} {v:Env} {P:Oc} {x:XcS} (hc:c.length<=4096) {r:Nat} (hR:RexR c v P x) (hr:x.r=r+1) {k':Int} {n':Nat} {L':List Int} {m':Int} (h1:n'<=L'.length) (h2:0<=k') (h3:n'<=x.n+1) (h4:exF c (toEv v) r k'.toNat (L'.take n') m'=P):StT c v (RexR c v P) x k' n' L' m':=by
 have h5:=hR.sr
 have h6:=hR.ns
 refine ⟨⟨k',x.st+1,n',L',m',r⟩,⟨h1,h2,?_,?_,h4⟩,?_,rfl,⟨⟨rfl,fun h=>h⟩,rfl,rfl,rfl,⟨rfl,rfl,trivial⟩,rfl,?_,trivial⟩,⟨rfl,rfl⟩,zTx _,enT v,zTx _,trivial⟩
 · show x.st+1+r=c.length;omega
 · show n'<=x.st+1;omega
 · show r+1<=x.r;omega
 · rw [wr64 (by omega) (by omega)];push_cast;rfl
theorem Z82 {c:List Ins} {v:Env} {P:Oc} {x:XcS} {x1:Ins} (hc:c.length<=4096) (hR:RexR c v P x) {r:Nat} (hr:x.r=r+1) (hk:x.k<c.length) (hj:(x1.op=13\/x1.op=14)->0<=x1.n) {W:(Bool->Prop)->Prop} {b0:Int} (hW:x1.op=13->∀Q:Bool->Prop,(b0=0->Q true)->(b0≠0->Q false)->W Q) {n':Nat} {L':List Int} {m':Int} (h1:n'<=L'.length) (h3:n'<=x.n+1)
 (hK:(if x1.op=14\/(x1.op=13/\b0=0) then (if x1.n<=(x.k.toNat:Int) then ocX m' else exF c (toEv v) r x1.n.toNat (L'.take n') m') else exF c (toEv v) r (x.k.toNat+1) (L'.take n') m')=P):JT c v P (RexR c v P) x x1 W n' L' m':=by
 have k0:=hR.k0
 refine ⟨fun b=>(b=true↔(x1.op=14\/(x1.op=13/\b0=0))),⟨fun h=> ?_,fun h=>⟨fun h2=> ?_,fun h2=> ?_⟩⟩,fun hQ=>⟨fun h=> ?_,fun h=> ?_⟩,fun hQ=> ?_⟩
 · have h:x1.op=14:=by simpa using h
   simp [h]
 · have h2:x1.op=13:=by simpa using h2
   exact hW h2 _ (fun h3=>by simp [h2,h3]) (fun h3=>by simp [h2,h3])
 · have h:x1.op≠14:=by simpa using h
   have h2:x1.op≠13:=by simpa using h2
   simp [h,h2]
 · have hQ:=hQ.1 rfl
   have h:=of_decide_eq_true h
   rw [if_pos hQ,if_pos (by omega)] at hK
   subst hK
   exact ⟨rfl,rfl,rfl,rfl,rfl,trivial⟩
 · have hQ:=hQ.1 rfl
   have h:=of_decide_eq_false h
   rw [if_pos hQ,if_neg (by omega)] at hK
   exact Z4j hc hR hr h1 (hj (by omega)) h3 hK
 · have hQ:¬(x1.op=14\/(x1.op=13/\b0=0)):=fun h=>Bool.noConfusion (hQ.2 h)
   rw [if_neg hQ] at hK
   rw [wr64 (by omega) (by omega)]
   refine Z4j hc hR hr h1 (by omega) h3 ?_
   rw [show (x.k+1).toNat=x.k.toNat+1 by omega]
   exact hK
theorem Zii {c:List Ins} {v:Env} {P:Oc} {x:XcS} {x1:Ins} (hc:c.length<=4096) (hR:RexR c v P x) {r:Nat} (hr:x.r=r+1) (hk:x.k<c.length) (hf:formedF x1=true) (hn:¬((x.n:Int)<(eff x1.op).1)) {W:(Bool->Prop)->Prop} {a0 b0:Int} (hW:x1.op=13->∀Q:Bool->Prop,(b0=0->Q true)->(b0≠0->Q false)->W Q)
 (hK:exR x1 (toEv v) x.k.toNat (x.L.take (x.n-(eff x1.op).1.toNat)) a0 b0 x.m (exF c (toEv v) r)=P):Zsr c v P (RexR c v P) x x1 W a0 b0 (eff x1.op):=by
 obtain ⟨e1,e2,e3,e4⟩:=Zp6 hf
 have h5:=hR.sr
 have h6:=hR.ns
 have h7:=hR.nL
 have ed:(wr .i64 ((x.n:Int)-(eff x1.op).1)).toNat=x.n-(eff x1.op).1.toNat:=by rw [wr64 (by omega) (by omega)];omega
 unfold Zsr
 rw [ed]
 have hl:(x.L.take (x.n-(eff x1.op).1.toNat)).length=x.n-(eff x1.op).1.toNat:=by rw [List.length_take];omega
 generalize hq:x.n-(eff x1.op).1.toNat=d at*
 have hz:((d:Int)==0)=(d==0):=by cases d<;>rfl
 refine ⟨by rw [wr64 (by omega) (by omega)];omega,fun h=> ?_,fun h=>⟨fun h2=> ?_,fun h2=>⟨fun h3=>⟨?_,fun y1 hy=>⟨fun h4=> ?_,fun h4=>⟨?_,?_⟩⟩⟩,fun h3=> ?_⟩⟩⟩
 · have h:x1.op=15:=by simpa using h
   unfold exR at hK
   rw [if_pos h,hl] at hK
   subst hK
   rw [hz]
   exact ⟨fun h=>⟨rfl,rfl,rfl,h.symm,rfl,trivial⟩,fun h=>⟨rfl,rfl,rfl,h.symm,rfl,trivial⟩⟩
 · have h:x1.op≠15:=by simpa using h
   have h2:x1.op=16:=by simpa using h2
   unfold exR at hK
   rw [if_neg h,if_pos h2,hl] at hK
   subst hK
   rw [hz]
   exact ⟨fun h=>⟨rfl,rfl,rfl,h.symm,rfl,trivial⟩,fun h=>⟨rfl,rfl,rfl,h.symm,rfl,trivial⟩⟩
 · have h3:0<(eff x1.op).2:=of_decide_eq_true h3
   obtain ⟨u1,u2,u3⟩:=e3 h3
   exact ⟨rfl,u1,u2,fun h=>by have:=u3 h;omega⟩
 · have h:x1.op≠15:=by simpa using h
   have h2:x1.op≠16:=by simpa using h2
   have h3:0<(eff x1.op).2:=of_decide_eq_true h3
   have h4:y1.2≠0:=by simpa using h4
   subst hy
   unfold exR at hK
   rw [if_neg h,if_neg h2,if_pos ⟨h3,h4⟩] at hK
   subst hK
   exact ⟨rfl,rfl,rfl,rfl,rfl,trivial⟩
 · exact ⟨by omega,Nat.zero_le _,by omega⟩
 · have h:x1.op≠15:=by simpa using h
   have h2:x1.op≠16:=by simpa using h2
   have h3:0<(eff x1.op).2:=of_decide_eq_true h3
   have h4:y1.2=0:=by simpa using h4
   subst hy
   unfold exR at hK
   rw [if_neg h,if_neg h2,if_neg (fun k=>k.2 h4)] at hK
   simp only [if_pos h3] at hK
   have hlen:(x.L.take d++ [(Wa x1 (toEv v) a0 b0).1]).length=d+1:=by rw [List.length_append,hl];rfl
   rw [hlen] at hK
   refine Z82 hc hR hr hk e4 hW (by rw [hlen];exact Nat.le_refl _) (by omega) ?_
   rw [List.take_of_length_le (Nat.le_of_eq hlen),Yl]
   exact hK
 · have h:x1.op≠15:=by simpa using h
   have h2:x1.op≠16:=by simpa using h2
   have h3:¬0<(eff x1.op).2:=of_decide_eq_false h3
   unfold exR at hK
   rw [if_neg h,if_neg h2,if_neg (fun k=>h3 k.1)] at hK
   simp only [if_neg h3] at hK
   rw [hl] at hK
   refine Z82 hc hR hr hk e4 hW (by omega) (by omega) ?_
   rw [Yl]
   exact hK
theorem Zxb {L:List Int} {n j:Nat} {y:Int} (h:L[j]? =some y) (hj:j<n):(L.take n).getD j 0=y:=by
 rw [List.getD_eq_getElem?_getD,List.getElem?_take,if_pos hj,h];rfl
theorem Zxc {x:XcS} {d:Int} {K:Int->Prop} (h1:1<=d) (h2:d<=x.n) (h3:x.n<=x.L.length) (h4:x.n<=4096) (hK:∀y,(x.L.take x.n).getD (x.n-d.toNat) 0=y->K y):TopT x d K:=by
 have e:(wr .i64 ((x.n:Int)-d))=(x.n:Int)-d:=wr64 (by omega) (by omega)
 unfold TopT
 rw [e]
 refine ⟨⟨by omega,by omega⟩,by omega,fun y hy=>hK y ?_⟩
 rw [show 0+((x.n:Int)-d).toNat=x.n-d.toNat by omega] at hy
 exact Zxb hy (by omega)
theorem Z57 {c:List Ins} {v:Env} {P:Oc} {x:XcS} {x1:Ins} (hc:c.length<=4096) (hR:RexR c v P x) {r:Nat} (hr:x.r=r+1) (hk:x.k<c.length) (hf:formedF x1=true) (hK:exS x1 (toEv v) x.k.toNat (x.L.take x.n) x.m (exF c (toEv v) r)=P):InsT c v P (RexR c v P) x x1 (eff x1.op):=by
 obtain ⟨e1,e2,e3,e4⟩:=Zp6 hf
 have h5:=hR.sr
 have h6:=hR.ns
 have h7:=hR.nL
 have hl:(x.L.take x.n).length=x.n:=by rw [List.length_take];omega
 refine ⟨fun h=> ?_,fun h=> ?_⟩
 · have h:=of_decide_eq_true h
   rw [Zxa (by rw [hl];omega)] at hK
   subst hK
   exact ⟨rfl,rfl,rfl,rfl,rfl,trivial⟩
 have hn:=of_decide_eq_false h
 have hS:∀{a b:Int},(b=if 0<(eff x1.op).1.toNat then (x.L.take x.n).getD (x.n-1) 0 else 0)->(a=if 1<(eff x1.op).1.toNat then (x.L.take x.n).getD (x.n-2) 0 else 0)->exR x1 (toEv v) x.k.toNat (x.L.take (x.n-(eff x1.op).1.toNat)) a b x.m (exF c (toEv v) r)=P:=by
  intro a b hb ha
  rw [Yao (a:=a) (b:=b) (by rw [hl];omega) (by rw [hl];exact hb) (by rw [hl];exact ha),hl,List.take_take,Nat.min_eq_left (by omega)] at hK
  exact hK
 have w13:x1.op=13->0<(eff x1.op).1:=fun h=>by rw [h];decide
 refine ⟨fun h1=> ?_,fun h1=>⟨fun h2=> ?_,fun h2=> ?_⟩⟩
 · have h1:0<(eff x1.op).1:=of_decide_eq_true h1
   refine Zxc (by omega) (by omega) h7 (by omega) fun b hb=>⟨fun h2=> ?_,fun h2=> ?_⟩
   · have h2:1<(eff x1.op).1:=of_decide_eq_true h2
     refine Zxc (by omega) (by omega) h7 (by omega) fun a ha=> ?_
     exact Zii hc hR hr hk hf hn (fun _ Q k1 k2=>⟨fun h=>k1 (by simpa using h),fun h=>k2 (by simpa using h)⟩) (hS (by rw [if_pos (by omega)];exact hb.symm) (by rw [if_pos (by omega)];exact ha.symm))
   · have h2:¬1<(eff x1.op).1:=of_decide_eq_false h2
     exact Zii hc hR hr hk hf hn (fun _ Q k1 k2=>⟨fun h=>k1 (by simpa using h),fun h=>k2 (by simpa using h)⟩) (hS (by rw [if_pos (by omega)];exact hb.symm) (by rw [if_neg (by omega)]))
 · have h1:¬0<(eff x1.op).1:=of_decide_eq_false h1
   have h2:1<(eff x1.op).1:=of_decide_eq_true h2
   omega
 · have h1:¬0<(eff x1.op).1:=of_decide_eq_false h1
   exact Zii hc hR hr hk hf hn (fun h=>absurd (w13 h) h1) (hS (by rw [if_neg (by omega)]) (by rw [if_neg (by omega)]))
theorem Z58 (c:List Ins) (v:Env) (hc:c.length<=4096) (hf:c.all formedF=true):ExeT c v (exF c (toEv v) c.length 0 [] 0):=by
 generalize hP:exF c (toEv v) c.length 0 [] 0=P
 refine ⟨RexR c v P,⟨⟨0,0,0,[],0,c.length⟩,⟨Nat.le_refl _,Int.le_refl _,by show 0+c.length=c.length;omega,Nat.le_refl _,hP⟩,rfl,⟨⟨rfl,fun h=>h⟩,rfl,rfl,rfl,⟨rfl,rfl,trivial⟩,rfl,rfl,trivial⟩,rfl,zTx _,enT v,zTx _,trivial⟩,fun x hR=> ?_⟩
 have h5:=hR.sr
 have k0:=hR.k0
 refine ⟨fun b=>(b=true↔(x.st<c.length/\x.k<c.length)),⟨fun h=>⟨fun h2=>⟨fun h3=> ?_,fun h3=> ?_⟩,fun h2=> ?_⟩,fun h=> ?_⟩,fun hQ=> ?_,fun hQ=> ?_⟩
 · have h:=of_decide_eq_true h;have h3:=of_decide_eq_true h3
   exact ⟨fun _=>⟨by omega,h3⟩,fun _=>rfl⟩
 · have h3:=of_decide_eq_false h3
   exact ⟨fun h=>Bool.noConfusion h,fun h=>absurd h.2 h3⟩
 · exact absurd k0 (of_decide_eq_false h2)
 · have h:=of_decide_eq_false h
   exact ⟨fun h=>Bool.noConfusion h,fun h'=>by omega⟩
 · obtain ⟨q1,q2⟩:=hQ.1 rfl
   refine ⟨k0,by omega,fun x1 hx=>⟨trivial,?_⟩⟩
   rintro y rfl
   obtain ⟨r,hr⟩:∃r,x.r=r+1:=⟨x.r-1,by omega⟩
   have hrun:=hR.run
   obtain ⟨g,hg,e⟩:=Z6d (v:=toEv v) (s:=x.L.take x.n) hx (f:=c.length) (by omega) x.m
   rw [hr] at hrun
   have e2:exF c (toEv v) (r+1) x.k.toNat (x.L.take x.n) x.m=exS x1 (toEv v) x.k.toNat (x.L.take x.n) x.m (exF c (toEv v) r):=by
    show (match c[x.k.toNat]? with|none=>ocX x.m|some y=>exS y (toEv v) x.k.toNat (x.L.take x.n) x.m (exF c (toEv v) r))=_
    rw [hx]
   rw [e2] at hrun
   exact Z57 hc hR hr q2 (List.all_eq_true.1 hf _ (List.mem_of_getElem? hx)) hrun
 · have hQ:¬(x.st<c.length/\x.k<c.length):=fun h=>Bool.noConfusion (hQ.2 h)
   have hrun:=hR.run
   have:P=ocX x.m:=by
    rw [<-hrun]
    cases hr:x.r with
    |zero=>rfl
    |succ r=>
     show (match c[x.k.toNat]? with|none=>ocX x.m|some y=>exS y (toEv v) x.k.toNat (x.L.take x.n) x.m (exF c (toEv v) r))=_
     rw [List.getElem?_eq_none (by omega)]
   subst this
   exact ⟨rfl,rfl,rfl,rfl,rfl,trivial⟩
def ocV (o:Oc):SV thy:= .agg [.int false .i64 o.a,.int false .i64 o.c,.int false .i64 o.e,.bool false o.s,.int false .i64 o.m]
theorem Zxd (c:List Ins) (v:Env) (hc:c.length<=4096) (hf:c.all formedF=true):PureC E 19 [.psl .ins c false,envC v] (ocV (exF c (toEv v) c.length 0 [] 0)):=by
 refine Za E_ok (Ze E_ok Z81 400) ?_
 exact (Zw9 c v _ _ _ _ _).symm.mp (Z58 c v hc hf)
end
section
open Go
theorem Zrw {t:Tar} (h:ClOk t.clauses) (hn:t.clauses.length<=64) (h1:(cdT t).length<=4096):(cdT t).all formedF=true:=by
 have hl:(cdT t).length=(cdCs t.clauses 0 0).length+1:=by unfold cdT;simp
 rw [List.all_eq_true]
 intro y hy
 unfold cdT at hy
 rcases List.mem_append.1 hy with hy|hy
 · exact Za2 h (by omega) (by omega) y hy
 · rw [List.mem_singleton.1 hy]
   exact Z1f (by decide) (.inr rfl)
theorem Z0t {t:Tar} (h:Y2 t=0):Z0q t:=by
 obtain ⟨c1,_,_⟩:=Zi0 h
 intro c hc w hw
 have:=(c1 c hc).2 w hw
 unfold Yc at this
 have:=of_decide_eq_true this
 unfold Tst.In I64r
 omega
def dTEC:DcL E (Tar×Ev×Unit):= .cons (dR .tariffs) (.cons dEvC .nil)
def Z8d:Sum thy:=Zut E (fun _=>none) 10 dTEC (fun x=>x.2.1.v.length=16/\Z0q x.1) (fun x=>amtF x.1 x.2.1) amtV
theorem Z0u:SumOk E 18 Z8d:=Zd6 E_ok (Zc rfl) fun x h=>by
 obtain ⟨t,x,_⟩:=x
 obtain ⟨h1,h2⟩:=h
 show PureC E _ [_,dEvC.enc x] _
 rw [Zd3 h1]
 exact Zm2 t x h1 h2
def Z8e:Sum thy:=Zut E (fun _=>none) 10 (dL2V Zw0 dEvC) (fun x=>x.2.1.v.length=16/\x.1.length<=4096/\x.1.all formedF=true) (fun x=>exF x.1 x.2.1 x.1.length 0 [] 0) ocV
theorem Z0v:SumOk E 19 Z8e:=Zd6 E_ok (Zc rfl) fun x h=>by
 obtain ⟨c,x,_⟩:=x
 obtain ⟨h1,h2,h3⟩:=h
 obtain ⟨v,rfl,hv⟩:=Zw8 h1
 show PureC E _ [_,dEvC.enc (toEv v)] _
 rw [Zd3 h1,hv]
 exact Zxd c v h2 h3
def FlM:Fns thy:=Zcn (addS (addS (addS FlC 17 Zig) 18 Z8d) 19 Z8e)
theorem Z8f (hs:SumOk E 8 Zgw):FnsOk E FlM:=Vc (Zb (Zb (Zb (Z8c hs) (Zp E_ok (Zc (f:=17) rfl) fun x _=>Zbz x.1)) Z0u) Z0v)
def Amn:Fr thy->Hp thy->Nat->Ann thy:=fun T h i=>{X:=LX,fr:=fun x=> [(2,T 2),(3,T 3),(5,T 5),(7,.int false .i64 x.k)],bl:=fun x=>blkP h (T 2)++blkP h (T 3),src:=fun _=> [],md:= [],ih:=i,M:=i+40,meas:=fun x=>x.r}
def Fmn:Fns thy:=Zcn (addL FlM 7 9 Amn E)
theorem Z8g (hs:SumOk E 8 Zgw):FnsOk E Fmn:=Vc (Z5 E_ok (Z8f hs) _ _ _)
abbrev qEA1 (a0:Env):=(Zy8 (Env.has a0,Env.v0 a0,Env.v1 a0,Env.v2 a0,Env.v3 a0,Env.v4 a0,Env.v5 a0,Env.v6 a0,Env.v7 a0,Env.v8 a0,Env.v9 a0,Env.v10 a0,Env.v11 a0,Env.v12 a0,Env.v13 a0,Env.v14 a0,Env.v15 a0,()))
abbrev qEA2 (a0:Env):=(Env.has a0=Env.has a0/\Env.v0 a0=Env.v0 a0/\Env.v1 a0=Env.v1 a0/\Env.v2 a0=Env.v2 a0/\Env.v3 a0=Env.v3 a0/\Env.v4 a0=Env.v4 a0/\Env.v5 a0=Env.v5 a0/\Env.v6 a0=Env.v6 a0/\Env.v7 a0=Env.v7 a0/\Env.v8 a0=Env.v8 a0/\Env.v9 a0=Env.v9 a0/\Env.v10 a0=Env.v10 a0/\Env.v11 a0=Env.v11 a0/\Env.v12 a0=Env.v12 a0/\Env.v13 a0=Env.v13 a0/\Env.v14 a0=Env.v14 a0/\Env.v15 a0=Env.v15 a0/\True)
abbrev qEA5:=(false=true->false=true)
abbrev qEA3 (a0:Tar):=(Tar.name a0=Tar.name a0/\Tar.for_ a0=Tar.for_ a0/\(Tar.clauses a0=Tar.clauses a0/\qEA5)/\True)
abbrev qEA4 (a0:List Ins×Int):=(↑(List.length (Prod.fst a0)):Int)
abbrev qEA6:=(-9223372036854775808:Int)
abbrev qEA7 (a0:LX):=(↑(LX.k a0):Int)
abbrev qEA8:=(9223372036854775807:Int)
theorem Zm3 (t:Tar) (v:Env) (b:Bool):Zk E Fmn (vc E Fmn 400) 7 [.agg (encF false .tariffs t),envC v] hp0 0 (fun r=>ret E (patch hp0 0 r) r.v (.bool false b))=(
 True/\∀(y:Bool),y=Zh2 t->((!y)=true->true=b)/\((!y)=false->((∀(c:Cls),c∈Tar.clauses t->Ex.sz (Cls.pay c)<=(10000:Nat)/\List.length (Cls.when_ c)+(1:Nat)<=(1000000000:Nat))/\List.length (Tar.clauses t)+(1:Nat)<=(1000000000:Nat))/\∀(y:List Ins×Int),y=Z3 t->((Prod.snd y !=(0:Int))=true->(((qEA4 y)==(0:Int))=true->true=b)/\(((qEA4 y)==(0:Int))=false->false=b))/\((Prod.snd y !=(0:Int))=false->∃(R:LX->Prop),(∃(x:LX),R x/\true=true/\((0:Nat)=(0:Nat)/\(0:Nat)=(0:Nat)/\(Prod.fst y=Prod.fst y/\qEA5)/\(0:Int)=(qEA7 x)/\True)/\(qEA3 t)/\(qEA2 v)/\True)/\∀(x:LX),R x->(decide ((qEA7 x)<(qEA4 y))=true->(0:Int)<=(qEA7 x)/\(qEA7 x)+(1:Int)<=(qEA4 y)/\∀(x_1:Ins),(Prod.fst y)[Int.toNat (qEA7 x)]? =some x_1->True/\((!formedF x_1)=true->false=b)/\((!formedF x_1)=false->∃(x_2:LX),R x_2/\x_2.2+(1:Nat)<=x.2/\true=true/\((0:Nat)=(0:Nat)/\(0:Nat)=(0:Nat)/\(Prod.fst y=Prod.fst y/\qEA5)/\wr IntKind.i64 ((qEA7 x)+(1:Int))=(qEA7 x_2)/\True)/\(qEA3 t)/\(qEA2 v)/\True))/\(decide ((qEA7 x)<(qEA4 y))=false->(List.length (Ev.v (qEA1 v))=(16:Nat)/\∀(c:Cls),c∈Tar.clauses t->∀(w:Tst),w∈Cls.when_ c->(qEA6<=Tst.attr w/\Tst.attr w<=qEA8)/\(qEA6<=Tst.low w/\Tst.low w<=qEA8)/\qEA6<=Tst.high w/\Tst.high w<=qEA8)/\∀(y_1:Int×Int×Int),y_1=amtF t (qEA1 v)->(List.length (Ev.v (qEA1 v))=(16:Nat)/\List.length (Prod.fst y)<=(4096:Nat)/\List.all (Prod.fst y) formedF=true)/\∀(y_2:Oc),y_2=exF (Prod.fst y) (qEA1 v) (List.length (Prod.fst y)) (0:Nat) [] (0:Int)->(Oc.s y_2=true->((Oc.a y_2==Prod.fst y_1)=true->((Oc.c y_2==Prod.fst (Prod.snd y_1))=true->((Oc.e y_2==Prod.snd (Prod.snd y_1))=true->true=b)/\((Oc.e y_2==Prod.snd (Prod.snd y_1))=false->false=b))/\((Oc.c y_2==Prod.fst (Prod.snd y_1))=false->false=b))/\((Oc.a y_2==Prod.fst y_1)=false->false=b))/\(Oc.s y_2=false->false=b))))):=by kernel_rfl
theorem Zrx (hs:SumOk E 8 Zgw) (t:Tar) (x:Ev) (hx:x.v.length=16):PureC E 7 [.agg (encF false .tariffs t),evA x] (.bool false true):=by
 obtain ⟨v,rfl,hv⟩:=Zw8 hx
 rw [hv]
 refine Za E_ok (Ze E_ok (Z8g hs) 400) ?_
 rw [Zm3];delta qEA1 qEA2 qEA5 qEA3 qEA4 qEA6 qEA7 qEA8
 rw [show Zy8 (Env.has v,Env.v0 v,Env.v1 v,Env.v2 v,Env.v3 v,Env.v4 v,Env.v5 v,Env.v6 v,Env.v7 v,Env.v8 v,Env.v9 v,Env.v10 v,Env.v11 v,Env.v12 v,Env.v13 v,Env.v14 v,Env.v15 v,())=toEv v from rfl]
 have en:EnT v:=enT v
 refine ⟨trivial,fun y hy=>⟨fun _=>rfl,fun q=> ?_⟩⟩
 have hf:FewP t:=few20_iff.1 (by rw [<-hy];simpa using q)
 have hsm:=Z5e hf
 have hS:(∀(c:Cls),c∈t.clauses->Ex.sz c.pay<=10000/\c.when_.length+1<=1000000000)/\t.clauses.length+1<=1000000000:=⟨fun c hc=>⟨(hsm.1 c hc).1,(hsm.1 c hc).2⟩,hsm.2⟩
 refine ⟨hS,fun y1 h1=>⟨fun k=> ?_,fun k=> ?_⟩⟩
 · have k:y1.2≠0:=by simpa using k
   have hl:y1.1= []:=by
    rcases Zpk t with ⟨_,h⟩|⟨_,h⟩|⟨_,hg,h⟩<;>rw [h] at h1
    · rw [h1]
    · rw [h1]
    · rw [h1] at k;exact absurd rfl k
   rw [hl]
   exact ⟨fun _=>rfl,fun h=>by simp at h⟩
 · have k:y1.2=0:=by simpa using k
   have hg:Y2 t=0/\¬(4096<(cdT t).length\/64<dCs t.clauses)/\y1.1=cdT t:=by
    rcases Zpk t with ⟨h0,h⟩|⟨_,h⟩|⟨h0,hg,h⟩<;>rw [h] at h1
    · rw [h1] at k;exact absurd k h0
    · rw [h1] at k;exact absurd k (by decide)
    · rw [h1];exact ⟨h0,hg,rfl⟩
   obtain ⟨hc,hg,hl⟩:=hg
   rw [hl]
   obtain ⟨c1,c2,_⟩:=Zi0 hc
   have hlen:(cdT t).length<=4096:=by omega
   have hfm:=Zrw c1 c2 hlen
   have tn:(t.name=t.name/\t.for_=t.for_/\(t.clauses=t.clauses/\(false=true->false=true))/\True):=⟨rfl,rfl,⟨rfl,fun h=>h⟩,trivial⟩
   refine ⟨fun z=>z.k+z.r=(cdT t).length,⟨⟨0,(cdT t).length,[],0⟩,Nat.zero_add _,rfl,⟨rfl,rfl,⟨rfl,fun h=>h⟩,rfl,trivial⟩,tn,en,trivial⟩,fun z hz=>⟨fun hk=> ?_,fun hk=> ?_⟩⟩
   · have hk:=of_decide_eq_true hk
     refine ⟨by omega,by omega,fun x1 hx1=>⟨trivial,fun hn=> ?_,fun _=> ?_⟩⟩
     · rw [List.all_eq_true.1 hfm _ (List.mem_of_getElem? hx1)] at hn
       cases hn
     · refine ⟨⟨z.k+1,z.r-1,[],0⟩,by show z.k+1+(z.r-1)=_;omega,by show z.r-1+1<=z.r;omega,rfl,⟨rfl,rfl,⟨rfl,fun h=>h⟩,?_,trivial⟩,tn,en,trivial⟩
       rw [wr64 (by omega) (by omega)];push_cast;rfl
   · refine ⟨⟨rfl,Z0t hc⟩,fun a ha=>⟨⟨rfl,hlen,hfm⟩,fun o ho=> ?_⟩⟩
     obtain ⟨m,hm⟩:=ex_T hc (toEv v)
     rw [hm] at ho
     subst ho
     subst ha
     exact ⟨fun _=>⟨fun _=>⟨fun _=>⟨fun _=>rfl,fun h=>by simp at h⟩,fun h=>by simp at h⟩,fun h=>by simp at h⟩,fun h=>by cases h⟩
end
section
open Go.ChangeShapes Go.WideShapes Go.ChangeAt Go.RowKit
section
variable {H:Type} {enc:TypeId × Value->H} {w:World} {spare:Nat->Bool} {held:Bool}
theorem Z1x:Tryz.prog.cellsOf 53=17:=by kernel_rfl
theorem Zss:Tryz.prog.cellsOf 51=16:=by kernel_rfl
set_option maxHeartbeats 1000000 in
theorem Z1y {v:Value} {d:DataW H} {ps:List MemPlace} (h:DataW.Trod enc Tryz.prog w 0 spare held 53 v d ps):∃x:{x:Ev//x.v.length=16},Den E σ0 (gTop w) (evA x.1) v:=by
 obtain ⟨fuel,h⟩:=h
 obtain ⟨xs,n,rfl,_,hl,hxl,hf⟩:=DataW.trod_struct Tryz.underlying53 h
 rw [Z1x] at hl
 have hv:=Zc5 hl (by decide)
 generalize v.cells.toList=cs at*
 have h0:=hf 0 _ rfl
 have h1:=hf 1 _ rfl
 have hx2:xs.length=2:=by simpa using hxl
 rw [gB9 (by omega)] at h0 h1
 simp only [List.getElem_toArray,List.getElem_cons_zero,List.getElem_cons_succ,Zai,Zss,List.drop_zero] at h0 h1
 obtain ⟨p,hp,ip⟩:=X3 Tryz.underlying3 h0
 obtain ⟨ys,m,rfl,_,_,hyl,hg⟩:=DataW.trod_array Tryz.underlying51 h1
 have hall:∀i,i<16->∃n:Int,cs[1+i]? =some (.int .i64 n):=by
  intro i hi
  have h2:=hg i hi
  rw [gB9 (by omega)] at h2
  simp only [List.getElem_toArray,List.getElem_cons_zero,List.getElem_cons_succ,Zai,Nat.mul_one] at h2
  obtain ⟨n,hn,_⟩:=X3 Tryz.underlying3 h2
  refine ⟨n,?_⟩
  have h3:((((cs.drop 1).take 16).drop i).take 1)[0]? =some (.int .i64 n):=by rw [hn];rfl
  rw [List.getElem?_take,if_pos (by decide),List.getElem?_drop,List.getElem?_take,if_pos (by omega),List.getElem?_drop] at h3
  simpa using h3
 have hp0:cs[0]? =some (.int .i64 p):=by
  have h3:((cs.take 1))[0]? =some (.int .i64 p):=by rw [hp];rfl
  rw [List.getElem?_take,if_pos (by decide)] at h3
  exact h3
 obtain ⟨f,hfam⟩:=Go.Deep.choose_lt (α:=Int) hall
 rw [hv]
 have hV:((List.range 16).map f).length=16:=by simp
 refine ⟨⟨⟨p,(List.range 16).map f⟩,hV⟩,.agg (fun j=>cs.getD j undef) (by simp [hl]) (fun j hj=> ?_) (fun j sv hj=> ?_)⟩
 · have hj:j<17:=by simpa using hj
   rw [List.getElem?_toArray,List.getD_eq_getElem?_getD,gB9 (by omega)];rfl
 · cases j with
   |zero=>
    cases hj
    rw [List.getD_eq_getElem?_getD,hp0];exact .int _ _ _
   |succ j=>
    have hj:(((List.range 16).map f).map (SV.int false .i64:Int->SV thy))[j]? =some sv:=hj
    have hlt:j<16:=by have:=(gA9.1 hj).1;simpa using this
    rw [List.getElem?_map,List.getElem?_map,List.getElem?_range hlt] at hj
    cases hj
    rw [List.getD_eq_getElem?_getD,Nat.add_comm,hfam j hlt];exact .int _ _ _
end
end
end Go.Proofs.YtpmkapclhlmbbaaGreatDoor
end
