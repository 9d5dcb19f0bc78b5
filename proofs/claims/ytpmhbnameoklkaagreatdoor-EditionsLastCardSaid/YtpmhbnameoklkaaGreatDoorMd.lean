/- Merged texts: TtTop2, EdTop, EdTopB, TtDoor, EdP, TvX, EngZH, EngZI, TtA, TtS, TtD, TtE, TvLay, TtG, TtF, TtH, TtI, EdB, EdC, EngZJ, TpA, TpB, TpC, TpD, EngZK, TpE, TpF, TpG. -/
import Derived.ChangeMaps5
import Derived.Shelf.Strings.SlTrimAscii
import Derived.Shelf.Strings.OnBuilder
import Derived.Shelf.Strconv.Itoa0
import Derived.Shelf.Strconv.Itoa1
import Derived.Test.YtpmhbnameoklkaaGreatDoorProg
import Derived.Test.YtpmhbnameoklkaaGreatDoorMc
open And renaming intro->aB
open Bool renaming and_eq_false_iff->bm,and_eq_true->aq,and_true->cG,eq_false_iff->jD,eq_iff_iff->ka,false->ab,false_and->eo,false_eq_true->aO,false_or->dy,not_eq_false'->cd,not_eq_true->ba,not_eq_true'->bi,or_eq_false_iff->bG,or_eq_true->bd,or_false->dV,or_true->eu,true->ac,true_and->cx,true_eq_false->aS,true_or->dK
open ByteArray renaming mk->dU
open Decidable renaming not_not->bJ
open Except renaming error->az,ok->aT
open Go.DataW renaming Trod->gq,trod->cM,trod_struct->fQ
open Go.Fn renaming func->cA
open Go.IntKind renaming i64->af
open Go.Proofs.YtpmhbnameoklkaaGreatDoor.Cls renaming mk->eP,name->aP,pay->aA,when_->aV
open Go.Proofs.YtpmhbnameoklkaaGreatDoor.Ex renaming d0->bx,d1->bA,d2->bB,d3->bC,l->bw,mk->bU,n->bW,op->aJ
open Go.Proofs.YtpmhbnameoklkaaGreatDoor.Tar renaming clauses->ar,for_->bI,name->bN
open Go.Proofs.YtpmhbnameoklkaaGreatDoor.Th renaming bools->bH,clauses->bq,exprs->ij,ints->gJ,prts->kK,reps->cC,strs->dk,toks->de
open Go.Proofs.YtpmhbnameoklkaaGreatDoor.Tok renaming at_->di,kind->cu,text->cH
open Go.Proofs.YtpmhbnameoklkaaGreatDoor.Tst renaming attr->dP,high->fb,low->fa,mk->kT
open Go.TypeDesc renaming bool->bO
open Go.Value renaming int->ig,okWide->kp,slice->aG,string->kq
open Int renaming le_refl->bV,ofNat->iu,ofNat_eq_natCast->bX,toNat->ag,toNat_natCast->bt
open List renaming all_cons->ks,all_eq_true->fB,drop->cj,dropWhile_cons->jk,drop_eq_getElem_cons->cr,drop_eq_nil_of_le->bF,drop_of_length_le->gu,drop_succ_cons->fC,drop_zero->dh,ext_getElem?->jF,getD->ah,getElem?_eq_getElem->ai,getElem?_eq_none->eg,getElem?_eq_some_iff->ak,getElem?_map->bp,getElem?_set->jE,getElem_cons_succ->eR,getElem_cons_zero->eQ,getElem_toArray->fi,length->aa,length_cons->aD,mem_append_left->ez,mem_append_right->dw,mem_cons->aL,mem_cons_of_mem->aX,mem_cons_self->cB,mem_of_getElem?->aI,mem_reverse->jN,mem_singleton->bZ,pairwise_cons->fM,range->cK,replicate->aM,set->dp,tail->bv,take->av,takeWhile_cons->gT,take_succ_cons->fD,take_zero->eV
open List.cons renaming injEq->cR
open Nat renaming beq->aK,beq_refl->fG,ble->bL,ble_eq->bn,ble_eq_true_of_le->jf,eq_of_beq_eq_true->ax,le_add_right->kb,le_refl->aw,le_trans->bQ,lt_of_lt_of_le->bY,lt_or_ge->fp,lt_succ_self->eJ,zero_add->bk,zero_le->bb
open Option renaming bind_eq_some_iff->aj,getD->ct,map_eq_some_iff->bj,ne_none_iff_exists'->aU,none->au,some->ae
open Option.some renaming inj->aZ,injEq->cp
open Prod renaming fst->ao,snd->aE
open UInt8 renaming ofNat->fY,ofNat_toNat->jx,toNat->cQ
namespace Go.Proofs.YtpmhbnameoklkaaGreatDoor
set_option linter.unusedVariables false
set_option linter.unusedSimpArgs false
set_option linter.unnecessarySimpa false
set_option maxRecDepth 100000
section
open Go.ChangeShapes Go.WideShapes Go.ChangeAt Go.RowKit
section
variable {H:Type} {enc:TypeId × Value->H} {w:World} {spare:Nat->Bool} {held:Bool}
theorem Zsg{P:Program} {I:Nat} {t:TypeId} {cs:List Value} {x:DataW H×List MemPlace} (J:P.underlying t=ae .string) (h:cM enc P w 0 spare held I t cs=ae x):∃s,cs= [.string s]/\s.size<=maxLen:=by
 cases I with
 |zero=>simp[cM] at h
 |succ m=>
  unfold cM at h;rw[J] at h;split at h<;>simp_all
theorem Z8i:Tryz.prog.cellsOf 9=1:=by kernel_rfl
theorem len3{cs:List Value} (h:cs.length=3):∃a b c,cs= [a,b,c]:=by
 match cs,h with
 | [a,b,c],_=>exact⟨a,b,c,rfl⟩
end
end
section
open Go.ChangeShapes Go.WideShapes Go.ChangeAt Go.RowKit
section
variable {H:Type} {enc:TypeId × Value->H} {w:World} {spare:Nat->Bool} {held:Bool}
theorem Z0b{P:Program} {I:Nat} {t:TypeId} {cs:List Value} {x:DataW H×List MemPlace} (J:P.underlying t=ae .bool) (h:cM enc P w 0 spare held I t cs=ae x):∃b,cs= [.bool b]:=by
 cases I with
 |zero=>simp[cM] at h
 |succ m=>
  unfold cM at h;rw[J] at h;split at h<;>simp_all
theorem Zw2:Tryz.prog.cellsOf 4=1:=by kernel_rfl
theorem Zgy:Tryz.prog.cellsOf 52=2:=by kernel_rfl
theorem Zj2:Tryz.prog.cellsOf 318=3:=by kernel_rfl
theorem Zw3:Tryz.prog.cellsOf 53=1:=by kernel_rfl
theorem Zj3:Tryz.prog.cellsOf 55=16:=by kernel_rfl
theorem Zn0:Tryz.prog.cellsOf 57=21:=by kernel_rfl
theorem Yke{cs:List Value} (h:cs.length=2):∃I J,cs= [I,J]:=by
 match cs,h with
 | [I,J],_=>exact⟨I,J,rfl⟩
theorem Yhb{cs:List Value} (h:cs.length=16):∃I J c2 c3 c4 c5 c6 c7 c8 c9 R U a0 a1 a2 a3,cs= [I,J,c2,c3,c4,c5,c6,c7,c8,c9,R,U,a0,a1,a2,a3]:=by
 match cs,h with
 | [I,J,c2,c3,c4,c5,c6,c7,c8,c9,R,U,a0,a1,a2,a3],_=>exact⟨I,J,c2,c3,c4,c5,c6,c7,c8,c9,R,U,a0,a1,a2,a3,rfl⟩
theorem Yhc{cs:List Value} (h:cs.length=21):∃I J c2 c3 c4 c5 c6 c7 c8 c9 R U a0 a1 a2 a3 a4 a5 a6 a7 a8,cs= [I,J,c2,c3,c4,c5,c6,c7,c8,c9,R,U,a0,a1,a2,a3,a4,a5,a6,a7,a8]:=by
 match cs,h with
 | [I,J,c2,c3,c4,c5,c6,c7,c8,c9,R,U,a0,a1,a2,a3,a4,a5,a6,a7,a8],_=>exact⟨I,J,c2,c3,c4,c5,c6,c7,c8,c9,R,U,a0,a1,a2,a3,a4,a5,a6,a7,a8,rfl⟩
theorem Zac{a0:Nat} {cs:List Value} {x:DataW H×List MemPlace} (h:cM enc Tryz.prog w 0 spare held a0 52 cs=ae x):∃a b:Int,cs= [.int .i64 a,.int .i64 b]:=by
 obtain⟨xs,n,rfl,_,U,a1,R⟩:=fQ Tryz.underlying52 h;rw[Zgy] at U;obtain⟨c0,c1,rfl⟩:=Yke U;have a2:xs.length=2:=by simpa using a1
 have I:=R 0 _ rfl;have J:=R 1 _ rfl;rw[ai (by omega)] at I J;simp only[fi,eQ,eR,Zf6,dh,fC,fD,eV] at I J;obtain⟨p,hp,_⟩:=Xg Tryz.underlying3 I;obtain⟨q,hq,_⟩:=Xg Tryz.underlying3 J;simp only[cR,and_true] at hp hq;subst hp hq;exact⟨p,q,rfl⟩
theorem Zli(a0:Nat) (cs:List Value) (x:DataW H×List MemPlace) (h:cM enc Tryz.prog w 0 spare held a0 318 cs=ae x):∃a:PrtD,∀(j:Nat) sv,(E.enc kK a)[j]? =ae sv->∃v,cs[j]? =ae v/\Den E σ0 (gTop w) sv v:=by
 obtain⟨xs,n,rfl,_,hl,a1,hf⟩:=fQ Tryz.underlying318 h;rw[Zj2] at hl;obtain⟨c0,c1,c2,rfl⟩:=len3 hl;have a2:xs.length=3:=by simpa using a1
 have J:=hf 0 _ rfl;have R:=hf 1 _ rfl;have U:=hf 2 _ rfl;rw[ai (by omega)] at J R U;simp only[fi,eQ,eR,Zf6,Zw2,dh,fC,fD,eV] at J R U;obtain⟨p,hp,_⟩:=Xg Tryz.underlying3 J;obtain⟨q,hq,_⟩:=Xg Tryz.underlying3 R;obtain⟨r,hr⟩:=Z0b Tryz.underlying4 U;simp only[cR,and_true] at hp hq hr;subst hp hq hr;refine⟨⟨p,q,r⟩,λj sv I=> ?_⟩
 match j,I with
 |0,I=>cases I;exact⟨_,rfl,.int _ _ _⟩
 |1,I=>cases I;exact⟨_,rfl,.int _ _ _⟩
 |2,I=>cases I;exact⟨_,rfl,.bool _ _⟩
theorem Zlj{b2:Nat} {cs:List Value} {x:DataW H×List MemPlace} (h:cM enc Tryz.prog w 0 spare held b2 55 cs=ae x):∃(a:ItD) (s:ByteArray) (v:Value),toL s=a.text/\Den E σ0 (gTop w) (.psl kK a.parts ab) v/\cs= [.int .i64 a.kind,.int .i64 a.ref.rw_,.int .i64 a.ref.no,.int .i64 a.wagon,.int .i64 a.place,.int .i64 a.other,.int .i64 a.number,.int .i64 a.from_,.int .i64 a.to_,.int .i64 a.code,.int .i64 a.dest,.int .i64 a.class_,.int .i64 a.weight,.int .i64 a.amount,.string s,v]:=by
 obtain⟨xs,n,rfl,_,hl,b3,I⟩:=fQ Tryz.underlying55 h;rw[Zj3] at hl;obtain⟨c0,c1,c2,c3,c4,c5,c6,c7,c8,c9,b7,b8,b9,d4,d5,d6,rfl⟩:=Yhb hl;have d7:xs.length=15:=by simpa using b3
 have J:=I 0 _ rfl;have R:=I 1 _ rfl;have h2:=I 2 _ rfl;have h3:=I 3 _ rfl;have h4:=I 4 _ rfl;have h5:=I 5 _ rfl;have h6:=I 6 _ rfl;have h7:=I 7 _ rfl;have h8:=I 8 _ rfl;have h9:=I 9 _ rfl;have U:=I 10 _ rfl;have a0:=I 11 _ rfl;have a1:=I 12 _ rfl;have a2:=I 13 _ rfl;have a3:=I 14 _ rfl;rw[ai (by omega)] at J R h2 h3 h4 h5 h6 h7 h8 h9 U a0 a1 a2 a3;simp only[fi,eQ,eR,Zf6,Zgy,Z8i,Zw3,dh,fC,fD,eV] at J R h2 h3 h4 h5 h6 h7 h8 h9 U a0 a1 a2 a3
 obtain⟨p0,e0,_⟩:=Xg Tryz.underlying3 J;obtain⟨p2,e2,_⟩:=Xg Tryz.underlying3 h2;obtain⟨p3,e3,_⟩:=Xg Tryz.underlying3 h3;obtain⟨p4,e4,_⟩:=Xg Tryz.underlying3 h4;obtain⟨p5,e5,_⟩:=Xg Tryz.underlying3 h5;obtain⟨p6,e6,_⟩:=Xg Tryz.underlying3 h6;obtain⟨p7,e7,_⟩:=Xg Tryz.underlying3 h7;obtain⟨p8,e8,_⟩:=Xg Tryz.underlying3 h8;obtain⟨p9,e9,_⟩:=Xg Tryz.underlying3 h9;obtain⟨b4,a4,_⟩:=Xg Tryz.underlying3 U;obtain⟨b5,a5,_⟩:=Xg Tryz.underlying3 a0;obtain⟨b6,a6,_⟩:=Xg Tryz.underlying3 a1;obtain⟨ra,rb,e1⟩:=Zac R;obtain⟨s,a7,_⟩:=Zsg Tryz.underlying9 a2
 obtain⟨sv,l,a8,hd⟩:=Zi8 (E:=E) (th:=kK) (λ_=>rfl) (by decide) Tryz.underlying53 Zj2 a3 (λn' a9 y hy=>Zli n' a9 y hy);simp only[cR,and_true] at e0 e1 e2 e3 e4 e5 e6 e7 e8 e9 a4 a5 a6 a7 a8;obtain⟨b0,b1⟩:=e1;subst e0 e2 e3 e4 e5 e6 e7 e8 e9 a4 a5 a6 a7 a8 b0 b1;exact⟨⟨p0,⟨ra,rb⟩,p2,p3,p4,p5,p6,p7,p8,p9,b4,b5,b6,toL s,l⟩,s,_,rfl,hd,rfl⟩
theorem Zn1(a2:Nat) (cs:List Value) (x:DataW H×List MemPlace) (h:cM enc Tryz.prog w 0 spare held a2 57 cs=ae x):∃a:Rep,∀(j:Nat) sv,(E.enc cC a)[j]? =ae sv->∃v,cs[j]? =ae v/\Den E σ0 (gTop w) sv v:=by
 obtain⟨xs,n,rfl,_,hl,a3,J⟩:=fQ Tryz.underlying57 h;rw[Zn0] at hl;obtain⟨c0,c1,c2,c3,c4,c5,c6,c7,c8,c9,b2,b3,b4,b5,b6,b7,b8,b9,d4,d5,d6,rfl⟩:=Yhc hl;have d7:xs.length=4:=by simpa using a3
 have R:=J 0 _ rfl;have U:=J 1 _ rfl;have h2:=J 2 _ rfl;have h3:=J 3 _ rfl;rw[ai (by omega)] at R U h2 h3;simp only[fi,eQ,eR,Zf6,Zgy,Zj3,dh,fC,fD,eV] at R U h2 h3;obtain⟨a0,a1,e0⟩:=Zac R;obtain⟨b0,b1,e1⟩:=Zac U;obtain⟨t,e2,_⟩:=Xg Tryz.underlying3 h2;obtain⟨a,s,v,hs,hd,e3⟩:=Zlj h3;simp only[cR,and_true] at e0 e1 e2 e3;obtain⟨q0,q1⟩:=e0;obtain⟨q2,q3⟩:=e1;obtain⟨r0,r1,r2,r3,r4,r5,r6,r7,r8,r9,a4,a5,a6,a7,a8,a9⟩:=e3
 subst q0 q1 q2 q3 e2 r0 r1 r2 r3 r4 r5 r6 r7 r8 r9 a4 a5 a6 a7 a8 a9;refine⟨⟨⟨a0,a1⟩,⟨b0,b1⟩,t,a⟩,λj sv I=> ?_⟩
 match j,I with
 |0,I=>cases I;exact⟨_,rfl,.int _ _ _⟩
 |1,I=>cases I;exact⟨_,rfl,.int _ _ _⟩
 |2,I=>cases I;exact⟨_,rfl,.int _ _ _⟩
 |3,I=>cases I;exact⟨_,rfl,.int _ _ _⟩
 |4,I=>cases I;exact⟨_,rfl,.int _ _ _⟩
 |5,I=>cases I;exact⟨_,rfl,.int _ _ _⟩
 |6,I=>cases I;exact⟨_,rfl,.int _ _ _⟩
 |7,I=>cases I;exact⟨_,rfl,.int _ _ _⟩
 |8,I=>cases I;exact⟨_,rfl,.int _ _ _⟩
 |9,I=>cases I;exact⟨_,rfl,.int _ _ _⟩
 |10,I=>cases I;exact⟨_,rfl,.int _ _ _⟩
 |11,I=>cases I;exact⟨_,rfl,.int _ _ _⟩
 |12,I=>cases I;exact⟨_,rfl,.int _ _ _⟩
 |13,I=>cases I;exact⟨_,rfl,.int _ _ _⟩
 |14,I=>cases I;exact⟨_,rfl,.int _ _ _⟩
 |15,I=>cases I;exact⟨_,rfl,.int _ _ _⟩
 |16,I=>cases I;exact⟨_,rfl,.int _ _ _⟩
 |17,I=>cases I;exact⟨_,rfl,.int _ _ _⟩
 |18,I=>cases I;exact⟨_,rfl,.int _ _ _⟩
 |19,I=>cases I;exact⟨_,rfl,.str _ hs⟩
 |20,I=>cases I;exact⟨_,rfl,hd⟩
theorem Z0c{r:Reach} {J:Nat} {v:Value} {d:DataW H} {ps:List MemPlace} (a0:kp Tryz.prog w r J 22 v) (h:gq enc Tryz.prog w 0 spare held 22 v d ps):∃l:List Rep,Den E σ0 (gTop w) (.psl cC l ab) v:=by
 obtain⟨a,len,cap,rfl⟩:=okWide_slice Tryz.underlying22 a0;obtain⟨a1,h⟩:=h;obtain⟨sv,l,I,U⟩:=Zi8 (E:=E) (th:=cC) (λ_=>rfl) (by decide) Tryz.underlying22 Zn0 h (λn' R y hy=>Zn1 n' R y hy);have I: [aG a len cap]= [sv]:=I;cases I;exact⟨l,U⟩
end
end
section
open Go.ChangeShapes Go.WideShapes Go.ChangeAt Go.RowKit
section
variable {H:Type} {enc:TypeId × Value->H} {w:World} {spare:Nat->Bool} {held:Bool}
theorem Zzf{r:Reach} {b0:Nat} {v:Value} {d:DataW H} {ps:List MemPlace} {ts:List TypeId} {R:List (DataW H)} {j:Nat} (hz:(DataW.weightsEach Tryz.prog ts R).all (· <=reachBytes)=ac) (ht:ts[j]? =ae 22) (hd:R[j]? =ae d)
 (a0:kp Tryz.prog w r b0 22 v) (h:gq enc Tryz.prog w 0 spare held 22 v d ps):∃l:List Rep,Den E σ0 (gTop w) (.psl cC l ab) v/\l.length*192<=140737488351232:=by
 obtain⟨l,U⟩:=Z0c a0 h
 refine⟨l,U,?_⟩
 obtain⟨a,len,cap,rfl⟩:=okWide_slice Tryz.underlying22 a0
 obtain⟨base,c,cv,e,_⟩:=Vb U
 cases e
 obtain⟨a4,h⟩:=h
 have hb:Tryz.prog.bytesOf 57=192:=by kernel_rfl
 have hr:reachBytes=140737488351232:=rfl
 rcases DataW.trod_slice Tryz.underlying22 h with⟨I,_⟩|⟨a',a2,a1,a3,rest,n,hf,J,hx,_,_,_,a5,_⟩
 ·have I: [aG a l.length cap]= [.slice au 0 0]:=I
  injection I with I _
  injection I with _ I _
  omega
 ·have J: [aG a l.length cap]= [.slice (ae a') a2 a1]:=J
  injection J with I _
  injection I with _ I _
  simp only[Prod.mk.injEq] at hx
  rw[hx.1] at hd
  have:=sized_slice hz ht hd Tryz.underlying22
  rw[hb,List.length_map] at this
  omega
end
end
section
open Go.ChangeShapes Go.WideShapes Go.ChangeAt Go.RowKit
noncomputable def Ycg(os:Os):World:=World.doorLaid Tryz.prog 3000 os
noncomputable def Znx(os:Os):World:=(Ycg os).layVars Tryz.prog [("unicode/utf8.first",Rows.laid_unicode_utf8_first)]
theorem Zz7(os:Os):(Znx os).os=os:=World.layVars_os _ _ _
noncomputable def Yg8(os:Os):List Nat:=(cK (Ycg os).heap.size).filter λb=>b !=5
theorem Zz8(os:Os):laidMet Tryz.prog Zjr (Znx os):=
 laidMet_layVars (w0:=Ycg os) ["unicode/utf8.first"] (Yg8 os) (by kernel_rfl) (by kernel_rfl) (by kernel_rfl) (LaidIn.of_run (Yg8 os) 12 (by kernel_rfl) (by kernel_rfl) (by kernel_rfl) (by kernel_rfl))
theorem Z6i(os:Os) (args:Array Value):((Znx os).forCall (λ_ _=>0) ⟨#[],args,[]⟩).Shaped Tryz.prog:=World.shaped_of_ZipB (by kernel_rfl) (by kernel_rfl)
theorem Z6j(os:Os) (args:Array Value):laidMetH Tryz.prog Zjr ((Znx os).forCall (λ_ _=>0) ⟨#[],args,[]⟩).memory:=by
 rw[MakeChecks.laidMetH_plain _ _ _ (by kernel_rfl)];exact(Zz8 os).of_heap (by simp[World.memory,World.forCall,Input.heap])
end
section
open Go
def cmpZ(a b:Int):Int:=if a<b then-1 else if b<a then 1 else 0
def cmpE(a b:Rep):Int:=if cmpZ a.item.from_ b.item.from_≠0 then cmpZ a.item.from_ b.item.from_ else if cmpZ a.time b.time≠0 then cmpZ a.time b.time else cmpZ a.ref.no b.ref.no
def ltE(a b:Rep):Prop:=a.item.from_<b.item.from_\/a.item.from_=b.item.from_/\(a.time<b.time\/a.time=b.time/\a.ref.no<b.ref.no)
instance (a b:Rep):Decidable (ltE a b):=by unfold ltE;infer_instance
theorem Znc{a b:Int}:cmpZ a b≠0↔a≠b:=by unfold cmpZ;split<;>(try split)<;>omega
theorem Znd{a b:Int}:cmpZ a b<0↔a<b:=by unfold cmpZ;split<;>(try split)<;>omega
theorem Zwe{a b:Rep}:cmpE a b<0↔ltE a b:=by
 unfold cmpE ltE;split
 ·rename_i h;rw[Znc] at h;rw[Znd];omega
 ·rename_i h;rw[Znc] at h
  split
  ·rename_i I;rw[Znc] at I;rw[Znd];omega
  ·rename_i I;rw[Znc] at I;rw[Znd];omega
def insR(x:Rep):List Rep->List Rep
 | []=> [x]
 |y::r=>if ltE x y then y::insR x r else x::y::r
def srtR(l:List Rep):List Rep:=l.foldl (λs x=>insR x s) []
def srtE(l:List Rep):List Rep:=(srtR l).reverse
theorem Zi9(x:Rep):∀s,(insR x s).Perm (x::s)
 | []=> .refl _
 |y::r=>by
  unfold insR
  split
  ·exact((Zi9 x r).cons y).trans (.swap x y r)
  ·exact .refl _
theorem Zwf:∀(l s:List Rep),(l.foldl (λs x=>insR x s) s).Perm (l++s)
 | [],s=> .refl _
 |x::l,s=>(Zwf l (insR x s)).trans (((Zi9 x s).append_left l).trans List.perm_middle)
theorem Zbd(l:List Rep):(srtE l).Perm l:=by
 have:=Zwf l [];rw[List.append_nil] at this;exact(List.reverse_perm _).trans this
abbrev Yak(l:List Rep):Prop:=l.Pairwise λa b=>¬ltE a b
theorem Z5k{a b c:Rep} (I:¬ltE a b) (J:¬ltE b c):¬ltE a c:=by unfold ltE at*;omega
theorem Yjo{a b:Rep} (I:ltE a b):¬ltE b a:=by unfold ltE at*;omega
theorem Zqi{x:Rep}:∀{s:List Rep},Yak s->Yak (insR x s)
 | [],_=>List.pairwise_singleton _ _
 |y::r,h=>by
  unfold insR
  have R:=fM.1 h
  split
  ·rename_i J
   refine fM.2 ⟨λz I=> ?_,Zqi R.2⟩
   rcases aL.1 ((Zi9 x r).mem_iff.1 I) with rfl|I
   ·exact Yjo J
   ·exact R.1 z I
  ·rename_i J
   refine fM.2 ⟨λz I=> ?_,h⟩
   rcases aL.1 I with rfl|I
   ·exact J
   ·exact Z5k J (R.1 z I)
theorem Zwg:∀(l s:List Rep),Yak s->Yak (l.foldl (λs x=>insR x s) s)
 | [],s,h=>h
 |x::l,s,h=>Zwg l _ (Zqi h)
abbrev AscE(l:List Rep):Prop:=l.Pairwise λa b=>¬ltE b a
theorem Zwh(l:List Rep):AscE (srtE l):=List.pairwise_reverse.2 (Zwg l [] List.Pairwise.nil)
def edO(r k:Int) (x:Rep):Bool:=decide (x.ref.rw_=r)&&decide (x.item.number=k)&&(decide (x.item.kind=11)||decide (x.item.kind=12)||decide (x.item.kind=13))
def edsF(l:List Rep) (r k:Int):List Rep:=srtE (l.filter (edO r k))
section
variable (G : List Nat → Int → Tar × Int) (K : Tar → Int) (A : Tar → Tar → Tar)
def zTE:Tar:=⟨[],0,[]⟩
def stE(k:Int) (s:Tar×Bool) (x:Rep):Tar×Bool:=
 if x.item.kind=13 then(zTE,ab) else
 if(G x.item.text k).2≠0 then s else
 if x.item.kind=11 then((G x.item.text k).1,ac) else
 if s.2=ac then(if K (A s.1 (G x.item.text k).1)=0 then(A s.1 (G x.item.text k).1,s.2) else s) else s
def rnE(k t:Int):List Rep->Tar×Bool->Tar×Bool
 | [],s=>s
 |x::r,s=>if t<x.item.from_ then s else rnE k t r (stE G K A k s x)
theorem Zne(k t:Int):∀(l:List Rep) (s:Tar×Bool),rnE G K A k t l s=(l.takeWhile λx=>decide (x.item.from_<=t)).foldl (stE G K A k) s
 | [],s=>rfl
 |x::r,s=>by
  unfold rnE
  by_cases h:t<x.item.from_
  ·rw[if_pos h,gT,if_neg (by simpa using h)];rfl
  ·rw[if_neg h,gT,if_pos (by simpa using h),Zne k t r];rfl
end
theorem Zc9(t:Int):∀{l:List Rep},AscE l->(l.takeWhile λx=>decide (x.item.from_<=t))=l.filter λx=>decide (x.item.from_<=t)
 | [],_=>rfl
 |x::r,h=>by
  have J:=fM.1 h
  rw[gT,List.filter_cons]
  by_cases I:x.item.from_<=t
  ·rw[if_pos (by simpa using I),if_pos (by simpa using I),Zc9 t J.2]
  ·rw[if_neg (by simpa using I),if_neg (by simpa using I)]
   symm
   rw[List.filter_eq_nil_iff]
   intro y R
   have:=J.1 y R
   unfold ltE at this
   simp only[decide_eq_true_eq]
   omega
end
section
open Go
noncomputable def dA1{α:Type} (d:Dc E α):DcL E (α×Unit):= .cons d .nil
noncomputable def dA2{α I:Type} (d:Dc E α) (e:Dc E I):DcL E (α×I×Unit):= .cons d (dA1 e)
noncomputable def dN:Dc E Int:=dInt .i64
noncomputable def dB:Dc E Bool:=Yko
noncomputable def dS:Dc E (List Nat):=dStr
noncomputable def dFun(f:Nat):Dc E Unit where
 dec v:=match v with| .fn (.func g) [] []=>(match aK g f with|true=>ae ()|false=>au)|_=>au
 enc _:= .fn (.func f) [] []
 ok v a h:=by
  split at h
  ·split at h
   ·rename_i e
    obtain rfl:=ax e
    exact⟨rfl,rfl,λ_ _ _ h=>h⟩
   ·cases h
  ·cases h
theorem tn0:(0:Int).toNat=0:=rfl
theorem tn1:(1:Int).toNat=1:=rfl
theorem tn2:(2:Int).toNat=2:=rfl
theorem tn3:(3:Int).toNat=3:=rfl
theorem cn4:((4:Nat):Int)=4:=rfl
theorem cn16:((16:Nat):Int)=16:=rfl
def eqL:List Nat->List Nat->Bool
 | [],[]=>ac
 |x::r,y::l=>aK x y&&eqL r l
 |_,_=>ab
theorem Z2b:∀{a b:List Nat},eqL a b=ac->a=b
 | [],[],_=>rfl
 |x::r,y::l,h=>by
  simp only[eqL,aq] at h
  rw[ax h.1,Z2b h.2]
 | [],_::_,h=>by cases h
 |_::_,[],h=>by cases h
def dKs(c:List Nat):Dc E Unit where
 dec v:=match v with| .str ac s=>(match eqL s c with|true=>ae ()|false=>au)|_=>au
 enc _:= .str ac c
 ok v a h:=by
  split at h
  ·split at h
   ·rename_i e
    rw[Z2b e]
    exact⟨rfl,rfl,λ_ _ _ h=>h⟩
   ·cases h
  ·cases h
theorem Zsd{σ:Pl} {g:GH} {l:Bool} {s:List Nat} {u:Value} (h:Den E σ g (.str l s) u):Byt s:=by
 cases h;rename_i b I;subst I;exact Zrx b
theorem Z8c{f:FuncId} {args:List (SV thy)} {v:SV thy} {j:Nat} {l:Bool} {s:List Nat} (I:args[j]? =ae (.str l s)) (h:Byt s->PureC E f args v):PureC E f args v:=by
 intro g w J R hd;have U:j<J.toList.length:=by rw[<-hd.1];exact(ak.1 I).1
 exact h (Zsd (hd.2 j _ _ I (ai U))) g w J R hd
theorem Zhz{P:Prop} {f:FuncId} {args:List (SV thy)} {v:SV thy} {j:Nat} {a:SV thy} (I:args[j]? =ae a) (U:∀g u,Den E σ0 g a u->P) (h:P->PureC E f args v):PureC E f args v:=by
 intro g w J R hd;have a0:j<J.toList.length:=by rw[<-hd.1];exact(ak.1 I).1
 exact h (U g _ (hd.2 j _ _ I (ai a0))) g w J R hd
theorem Z8d{g:GH} {th:Th} {l:List (domT th)} {f:Bool} {u:Value} (h:Den E σ0 g (.psl th l f) u):∀x∈l,∀(j:Nat) I,(encF ab th x)[j]? =ae I->∃v,Den E σ0 g I v:=by
 cases h;rename_i hd _;intro x R j I J;obtain⟨i,hi⟩:=List.getElem?_of_mem R;exact⟨_,hd i x hi j I J⟩
theorem Zkp{v1:SV thy} {s:List Nat} {f:SV thy->Prop} {z:Prop}:∀{J:List (List Nat)},(∀k∈J,Byt k)->(s∈J->f v1)->(s∉J->z)->Vd ab (.str ab s) (J.map λk=>(kq (mkS k),v1)) f z
 | [],_,_,R=>R (by simp)
 |k::J,hb,h1,R=>by
  rw[List.map_cons]
  unfold Vd
  have U:toL (mkS k)=k:=hb k (cB ..)
  simp only[U]
  refine⟨λe=> ?_,λe=> ?_⟩
  ·exact h1 (by rw[eq_of_beq e];exact cB ..)
  ·have e:=ne_of_beq_false e
   exact Zkp (λk U=>hb k (aX _ U)) (λh=>h1 (aX _ h)) (λh=>R λI=>by
    rcases aL.1 I with I|I
    ·exact e I
    ·exact h I)
theorem Ydr{g:GH} {a:SV thy} {J:Array Value} (h:DenL E σ0 g [a] J.toList):∃u,J= #[u]/\Den E σ0 g a u:=by
 obtain⟨l⟩:=J;obtain⟨R,I⟩:=h
 match l,R,I with
 | [u],_,I=>exact⟨u,rfl,I 0 a u rfl rfl⟩
theorem Yh8{g:GH} {a b:SV thy} {J:Array Value} (h:DenL E σ0 g [a,b] J.toList):∃u v,J= #[u,v]/\Den E σ0 g a u/\Den E σ0 g b v:=by
 obtain⟨l⟩:=J;obtain⟨R,I⟩:=h
 match l,R,I with
 | [u,v],_,I=>exact⟨u,v,rfl,I 0 a u rfl rfl,I 1 b v rfl rfl⟩
theorem Z8e{g:GH} {l:List UInt8}:Den E σ0 g (.str ab (l.map cQ)) (.string ⟨l.toArray⟩):= .str _ (by simp[toL])
end
section
open Go.RowKit
section
variable {Y:Thy} {E:Eng Y}
inductive Frz(E:Eng Y) (h:Hp Y):SV Y->SV Y->Prop
 |same {v:SV Y} (hn:nid 0 v=ac):Frz E h v v
 |ptr {b:Nat} {cs:List (SV Y)} {fz:Nat} {tg:Option Y.Th} {th:Y.Th} {x:Y.dom th} (hb:h b=ae (.raw cs fz tg)) (hd:E.dec th cs=ae x):Frz E h (.ptr b 0) (.pptr th x 0)
 |fn {f:Fn} {a a' b b':List (SV Y)} (ha:a.length=a'.length) (hb:b.length=b'.length) (h1:∀(j:Nat) x x',a[j]? =ae x->a'[j]? =ae x'->Frz E h x x') (h2:∀(j:Nat) x x',b[j]? =ae x->b'[j]? =ae x'->Frz E h x x'):Frz E h (.fn f a b) (.fn f a' b')
 |agg {a a':List (SV Y)} (ha:a.length=a'.length) (h1:∀(j:Nat) x x',a[j]? =ae x->a'[j]? =ae x'->Frz E h x x'):Frz E h (.agg a) (.agg a')
theorem Zrn{α:Type} {l I:List α} (h:l.length=I.length) {j:Nat} {x':α} (J:I[j]? =ae x'):∃x,l[j]? =ae x:=by
 have:j<I.length:=(ak.1 J).1;exact⟨l[j]'(by omega),ai _⟩
theorem Ycy(R:EngOk E) {B n:Nat} {σ:Pl} {h:Hp Y} {g:GH} {w:World} (hI:Inv E B σ h g w) (hn:n<=B) {v v':SV Y} (hr:Frz E h v v'):∀{u:Value},Den E σ g v u->Den E σ0 (allG g n w) v' u:=by
 have a0:=Zcx (n:=n) hI
 induction hr with
 |same hn=>exactλhd=>(Zw R (i:=0) (σ':=σ0) hd (λb p U=>by omega) hn).mono (.refl _) a0
 | @ptr b cs fz tg th x U b1=>
  intro u hd;cases hd;rename_i r z a2;obtain⟨r2,z2,a3,a4⟩:=hI.blk b _ U;rw[a2] at a3;cases a3;obtain⟨c,a5,a6⟩:=We (by intro es e;cases e) a4;obtain⟨hl,b2⟩:=R.dec th cs x b1;refine .pptr (o:=0) c (λj I=> ?_) λj b5 I=> ?_
  ·rw[R.enc] at I
   show(if n<=r then _ else _)=_;rw[if_pos (bQ hn (hI.base b r z a2).1)];exact(by simpa using a5 j (by show j<cs.length;omega))
  ·have b6:j<E.w th:=by rw[<-R.enc th x];exact(ak.1 I).1
   obtain⟨sv,a1⟩:∃sv,cs[j]? =ae sv:=⟨cs[j]'(by omega),ai _⟩;have h3:=b2 σ g j sv b5 (c j) a1 I (a6 j sv a1);exact(Zw R (i:=0) (σ':=σ0) h3 (λb p U=>by omega) (Zs (R.encI _ _ _) I)).mono (.refl _) a0
 |fn ha U h1 h2 b3 b4=>
  intro u hd;cases hd;rename_i va vb ca cb b7 a7 a9 b8 a8 b0;refine .fn ca cb (by omega) (λj I=>a7 j (by omega)) (λj sv I=> ?_) (by omega) (λj I=>a8 j (by omega)) λj sv I=> ?_
  ·obtain⟨x,J⟩:=Zrn ha I
   exact b3 j x sv J I (a9 j x J)
  ·obtain⟨x,J⟩:=Zrn U I
   exact b4 j x sv J I (b0 j x J)
 |agg ha h1 ih=>
  intro u hd;cases hd;rename_i arr c hs hc hd;refine .agg c (by omega) (λj I=>hc j (by omega)) λj sv I=> ?_;obtain⟨x,J⟩:=Zrn ha I;exact ih j x sv J I (hd j x J)
theorem Zcp(hE:EngOk E) {call:Nat->List (SV Y)->Hp Y->Nat->(Res Y->Prop)->Prop} (a3:Wy E call) {f:Nat} {args:List (SV Y)} {v:SV Y} {K:Res Y->Prop} (hK:∀r,K r->Frz E (patch hp0 0 r) r.v v) (hk:call f args hp0 0 K):PureC E f args v:=by
 obtain⟨r,hr,hR,a0⟩:=a3 f args hp0 0 _ (λb U=>absurd rfl U) hk;have a0:Va E f args hp0 0 r:=by
  rcases a0 with a0|⟨p,hp,_⟩
  ·exact a0
  ·have a2:=hK r hr
   rw[hp] at a2;cases a2;rename_i hn;cases hn
 intro g w a5 hI hd;refine(a0 w.heap.size σ0 g w a5 hp0 (λ_ _=>rfl) hI (aw _) (λ_ _ _=>rfl) hd).mono ?_;rintro en w' ⟨u,he,σ',g',R,a1,I⟩;have hm:∀b,b∉r.mods:=λb U=>hR b U rfl;have a4:=Zcx (n:=w.heap.size) a1;refine⟨u,he,allG g' w.heap.size w',⟨.refl _,λb p h=> .inl h,R.gle.trans a4,λq o v I=> ?_,λq es I=> ?_,λq hq _=>R.heap q hq (λb U=>absurd U (hm b)),R.size,R.os,R.tape,R.output,(λb q z J h2=>by cases h2)⟩,Zgc a1,Ycy hE a1 (aw _) (hK r hr) I⟩
 ·have I:(if w.heap.size<=q then w'.cell? ⟨q,o,au⟩ else g'.cell q o)=ae v:=I
  split at I
  ·exact .inr (.inl ‹_›)
  ·rcases R.gcnew q o v I with J|J|⟨b,J,_⟩
   ·exact .inl J
   ·exact .inr (.inl J)
   ·exact absurd J (hm b)
 ·have I:(if w.heap.size<=q then(match w'.heap[q]? with|some (.map es _)=>ae es|_=>au) else g'.obj q)=ae es:=I
  split at I
  ·exact .inr ‹_›
  ·rcases R.gmnew q es I with J|J
   ·exact .inl J
   ·exact .inr J
noncomputable def sumO(pre:List (SV Y)->Option (SV Y)):Sum Y:=λargs _ _ k=>match pre args with|some v=>(match nidL 0 args with|true=>k (quiet [] v)|false=>False)|none=>False
theorem Zro(J:EngOk E) {f:Nat} (R:FnGood E.P f) {pre:List (SV Y)->Option (SV Y)} (hp:∀args v,pre args=ae v->PureC E f args v):SumOk E f (sumO pre):=by
 refine⟨R,λargs h i k hD I=> ?_⟩;unfold sumO at I;split at I
 ·rename_i v a0
  split at I
  ·rename_i U
   exact⟨_,I,(hp args v a0).tri2 J U h i⟩
  ·exact I.elim
 ·exact I.elim
end
end
section
open Go.RowKit
section
variable {Y:Thy} {E:Eng Y}
end
end
section
open Go
def powV(n:Int):SV thy:= .agg [.fn (.func 165) [] [.pptr .ints n 0]]
theorem Z59(K:SV thy->Option (Blk thy)->Prop):Zk EL F0 (vc EL F0 2000) 107 [.int ac .i64 1] hp0 0 (λr=>K r.v (patch hp0 0 r 0))=K (.agg [.fn (.func 165) [] [.ptr 0 0]]) (ae (.raw [.int ac .i64 1] 0 au)):=by kernel_rfl
theorem Z6a(K:SV thy->Option (Blk thy)->Prop):Zk EL F0 (vc EL F0 2000) 107 [.int ac .i64 (-1)] hp0 0 (λr=>K r.v (patch hp0 0 r 0))=K (.agg [.fn (.func 165) [] [.ptr 0 0]]) (ae (.raw [.int ac .i64 (-1)] 0 au)):=by kernel_rfl
theorem Z6b{h:Hp thy} {n:Int} (R:h 0=ae (.raw [.int ac .i64 n] 0 au)):Frz EL h (.agg [.fn (.func 165) [] [.ptr 0 0]]) (powV n):=by
 refine .agg rfl λj x x' I J=> ?_;cases j with
 |succ j=>simp at I
 |zero=>
  cases I;cases J;refine .fn rfl rfl (λj x x' I J=>by simp at I) λj x x' I J=> ?_;cases j with
  |succ j=>simp at I
  |zero=>
   cases I;cases J;exact .ptr R rfl
theorem Zqq{n:Int} (J:n=1\/n= -1):PureC EL 107 [.int ac .i64 n] (powV n):=by
 rcases J with rfl|rfl
 ·exact Zcp Zk9 (Ycd 2000) (K:=λr=>r.v= .agg [.fn (.func 165) [] [.ptr 0 0]]/\patch hp0 0 r 0=ae (.raw [.int ac .i64 1] 0 au)) (λr I=>by rw[I.1];exact Z6b I.2) (by rw[Z59 λv b=>v=_/\b=_];exact⟨rfl,rfl⟩)
 ·exact Zcp Zk9 (Ycd 2000) (K:=λr=>r.v= .agg [.fn (.func 165) [] [.ptr 0 0]]/\patch hp0 0 r 0=ae (.raw [.int ac .i64 (-1)] 0 au)) (λr I=>by rw[I.1];exact Z6b I.2) (by rw[Z6a λv b=>v=_/\b=_];exact⟨rfl,rfl⟩)
def Yb7:List (SV thy)->Option (SV thy)
 | [.int ac .i64 (.ofNat 1)]=>ae (powV 1)
 | [.int ac .i64 (.negSucc 0)]=>ae (powV (-1))
 |_=>au
noncomputable def F1:Fns thy:=addS F0 107 (sumO Yb7)
theorem Yb8:FnsOk EL F1:=Zb Zz1 (Zro Zk9 (Zc rfl) λargs v h=>by
 unfold Yb7 at h;split at h
 ·cases h;exact Zqq (.inl rfl)
 ·cases h;exact Zqq (.inr rfl)
 ·cases h)
theorem Yj2(n:Nat):Wy EL (Zk EL F1 (vc EL F1 n)):=Xk Zk9 Yb8 λf N c=>(Zf4 Zk9 Yb8 n f N c).1
def Xo:List (Value×SV thy):= [(.int .i64 3,.agg [.fn (.func 105) [] []]),(.int .i64 4,.agg [.fn (.func 105) [] []]),(.int .i64 6,.agg [.fn (.func 105) [] []]),(.int .i64 7,.agg [.fn (.func 105) [] []]),
 (.int .i64 5,powV 1),(.int .i64 8,powV (-1)),(.int .i64 9,powV (-1)),(.int .i64 10,powV (-1)),(.int .i64 11,.agg [.fn (.func 106) [] []])]
def Wc:SV thy:= .pmap Xo
theorem Zzq(K:SV thy->Prop):Zk EL F1 (vc EL F1 2000) 58 [] hp0 0 (λr=>K r.v)=K Wc:=by kernel_rfl
theorem Zts:PureC EL 58 [] Wc:=
 Zcp Zk9 (Yj2 2000) (K:=λr=>r.v=Wc) (λr I=>by rw[I];exact .same rfl) (by rw[Zzq λv=>v=Wc])
theorem Zzr:PureC E 58 [] Wc:=PureC.like Yg6 Yg5 (λ_ _ h=>h) Zts
def Zni:List (SV thy)->Option (SV thy)
 | []=>ae Wc
 |_=>au
end
section
open Go
theorem Ex.eta(x:Ex):bU x.op x.n x.d0 x.d1 x.d2 x.d3 x.l=x:=by cases x;rfl
theorem Tst.eta(x:Tst):kT x.attr x.low x.high=x:=rfl
theorem Cls.eta(x:Cls):eP x.name x.when_ x.pay=x:=rfl
def Ex.u(x:Ex):List Int:= [x.d0,x.d1,x.d2,x.d3]
mutual
def Ex.sz:Ex->Nat
 | .mk _ _ _ _ _ _ l=>Ex.szL l+1
def Ex.szL:List Ex->Nat
 | []=>0
 |x::r=>x.sz+Ex.szL r
end
theorem Ex.sz_eq(x:Ex):x.sz=Ex.szL x.l+1:=by cases x;simp only[Ex.sz,bw]
theorem Ex.sz_pos(x:Ex):0<x.sz:=by rw[Ex.sz_eq];omega
theorem Ex.szL_mem:∀{l:List Ex} {x:Ex},x∈l->x.sz<=Ex.szL l
 |y::r,x,h=>by
  rw[Ex.szL]
  rcases aL.1 h with rfl|h
  ·omega
  ·have:=Ex.szL_mem h;omega
theorem Ex.sz_mem{x y:Ex} (h:y∈x.l):y.sz<x.sz:=by
 have:=Ex.szL_mem h;rw[Ex.sz_eq x];omega
theorem Ex.szL_len:∀(l:List Ex),l.length<=Ex.szL l
 | []=>aw _
 |x::r=>by
  have:=Ex.szL_len r
  have:=x.sz_pos
  rw[Ex.szL,aD];omega
mutual
def Y5:Ex->Nat
 | .mk _ _ _ _ _ _ l=>Zgs l+1
def Zgs:List Ex->Nat
 | []=>0
 |x::r=>max (Y5 x) (Zgs r)
end
theorem Z6f(x:Ex):Y5 x=Zgs x.l+1:=by cases x;simp only[Y5,bw]
mutual
theorem Ztv:∀(x:Ex),Y5 x<=x.sz
 | .mk _ _ _ _ _ _ l=>by have:=Ztw l;simp only[Y5,Ex.sz];omega
theorem Ztw:∀(l:List Ex),Zgs l<=Ex.szL l
 | []=>aw _
 |x::r=>by have:=Ztv x;have:=Ztw r;simp only[Zgs,Ex.szL];omega
end
def cnt(u:List Int) (n:Int):Nat:=(u.filter λd=>d==n).length
def Zcg(u:List Int):Bool:=decide (cnt u 0+cnt u 1+cnt u (-1)=4)&&decide (cnt u 1<=1)&&decide (cnt u (-1)<=1)
def Zk8(op:Int):Nat:=if op=1\/op=2 then 0 else if op=11 then 4 else 2
def Zzz(op:Int):Int:=if op=1 then 1099511627776 else if op=2 then 15 else 0
def Zdd(op n:Int) (u:List Int) (k:Nat):Bool:=
 decide (1<=op)&&decide (op<=11)&&decide (0<=n)&&decide (n<=Zzz op)&&decide (k=Zk8 op)&&Zcg u&&(decide (op=1)||decide (u= [0,0,0,0]))
mutual
def Zn:Ex->Bool
 | .mk op n d0 d1 d2 d3 l=>Zdd op n [d0,d1,d2,d3] l.length&&Ud l
def Ud:List Ex->Bool
 | []=>ac
 |x::r=>Zn x&&Ud r
end
theorem Zde(x:Ex):Zn x=(Zdd x.op x.n x.u x.l.length&&Ud x.l):=by cases x;simp only[Zn,aJ,bW,Ex.u,bx,bA,bB,bC,bw]
theorem formL_iff:∀{l:List Ex},Ud l=ac↔∀x∈l,Zn x=ac
 | []=>by simp[Ud]
 |x::r=>by simp[Ud,formL_iff (l:=r)]
theorem Zww{l:List Ex} {k:Nat} {y:Ex} (h:l[k]? =ae y):Ud (l.drop k)=(Zn y&&Ud (l.drop (k+1))):=by
 have I:=(ak.1 h).1;have:l.drop k=y::l.drop (k+1):=by rw[cr I];congr 1;exact(ak.1 h).2
 rw[this,Ud]
def Zqs(n:Int):List Int:=if n=5 then[0,0,0,1] else if n=6 then[0,0,1,0] else if n=7\/n=8 then[0,1,0,0] else if n=10\/n=11 then[1,0,0,0] else[0,0,0,0]
def cmb1(s a b:Int):Int:=af.wrap (a+af.wrap (s*b))
def in3(a:Int):Bool:= !(decide (a< -3)||decide (a>3))
def cmb(s:Int) (a b:List Int):Option (List Int):=
 if in3 (cmb1 s (a.getD 0 0) (b.getD 0 0))&&in3 (cmb1 s (a.getD 1 0) (b.getD 1 0))&&in3 (cmb1 s (a.getD 2 0) (b.getD 2 0))&&in3 (cmb1 s (a.getD 3 0) (b.getD 3 0)) then
  ae [cmb1 s (a.getD 0 0) (b.getD 0 0),cmb1 s (a.getD 1 0) (b.getD 1 0),cmb1 s (a.getD 2 0) (b.getD 2 0),cmb1 s (a.getD 3 0) (b.getD 3 0)] else au
def V1(op:Int) (I:List (List Int)):Option (List Int):=
 if op=5 then cmb 1 (I.getD 0 []) (I.getD 1 [])
 else if op=8\/op=9\/op=10 then cmb (-1) (I.getD 0 []) (I.getD 1 [])
 else if op=11 then(if I.getD 0 []=I.getD 1 []/\I.getD 2 []=I.getD 3 [] then ae (I.getD 2 []) else au)
 else if I.getD 0 []=I.getD 1 [] then ae (I.getD 0 []) else au
mutual
def U8:Ex->Option (List Int)
 | .mk op n d0 d1 d2 d3 l=>if op=1 then ae [d0,d1,d2,d3] else if op=2 then ae (Zqs n) else(W7 l).bind (V1 op)
def W7:List Ex->Option (List (List Int))
 | []=>ae []
 |x::r=>(U8 x).bind λd=>(W7 r).bind λI=>ae (d::I)
end
theorem Z6g(x:Ex):U8 x=if x.op=1 then ae x.u else if x.op=2 then ae (Zqs x.n) else(W7 x.l).bind (V1 x.op):=by
 cases x;rw[U8];rfl
def Is4(d:List Int):Prop:=∃a b c e,d= [a,b,c,e]
theorem Yca(n:Int):Is4 (Zqs n):=by
 unfold Zqs;split
 ·exact⟨_,_,_,_,rfl⟩
 split
 ·exact⟨_,_,_,_,rfl⟩
 split
 ·exact⟨_,_,_,_,rfl⟩
 split<;>exact⟨_,_,_,_,rfl⟩
theorem Yg4{s:Int} {a b d:List Int} (h:cmb s a b=ae d):Is4 d:=by
 unfold cmb at h;split at h
 ·cases h;exact⟨_,_,_,_,rfl⟩
 ·cases h
theorem unitL_cons{x:Ex} {r:List Ex} {R:List (List Int)}:W7 (x::r)=ae R↔∃d ds',U8 x=ae d/\W7 r=ae ds'/\R=d::ds':=by
 rw[W7];simp only[aj,cp];constructor
 ·rintro⟨d,I,ds',J,rfl⟩;exact⟨d,ds',I,J,rfl⟩
 ·rintro⟨d,ds',I,J,rfl⟩;exact⟨d,I,ds',J,rfl⟩
theorem Zgt:∀{l:List Ex} {I:List (List Int)},W7 l=ae I->I.length=l.length
 | [],I,h=>by simp only[W7] at h;cases h;rfl
 |x::r,I,h=>by
  obtain⟨d,R,_,J,rfl⟩:=unitL_cons.1 h
  simp[Zgt J]
theorem Ycb{op:Int} {J:List (List Int)} {d:List Int} (h:V1 op J=ae d) (R:∀i,i<(if op=11 then 4 else 2)->Is4 (J.getD i [])):Is4 d:=by
 unfold V1 at h;split at h
 ·exact Yg4 h
 ·split at h
  ·exact Yg4 h
  ·split at h
   ·rename_i I
    split at h
    ·cases h
     exact R 2 (by rw[if_pos I];omega)
    ·cases h
   ·rename_i I
    split at h
    ·cases h
     exact R 0 (by rw[if_neg I];omega)
    ·cases h
mutual
theorem Zqt:∀(x:Ex) {d:List Int},Zn x=ac->U8 x=ae d->Is4 d
 | .mk op n d0 d1 d2 d3 l,d,J,h=>by
  rw[U8] at h
  split at h
  ·cases h;exact⟨_,_,_,_,rfl⟩
  ·split at h
   ·cases h;exact Yca n
   ·rename_i h1 h2
    obtain⟨U,R,h⟩:=aj.1 h
    refine Ycb h λi hi=> ?_
    simp only[Zn,aq] at J
    have hl:=Zz0 l J.2 R
    have a0:=Zgt R
    have I:l.length=Zk8 op:=by
     have:=J.1
     simp only[Zdd,aq,decide_eq_true_eq] at this
     exact this.1.1.2
    unfold Zk8 at I
    rw[if_neg (by omega)] at I
    have:i<U.length:=by rw[a0,I];exact hi
    rw[List.getD_eq_getElem?_getD,ai this]
    exact hl _ (List.getElem_mem this)
theorem Zz0:∀(l:List Ex) {I:List (List Int)},Ud l=ac->W7 l=ae I->∀d∈I,Is4 d
 | [],I,_,h=>by simp only[W7] at h;cases h;simp
 |x::r,I,R,h=>by
  simp only[Ud,aq] at R
  obtain⟨d,a0,U,h2,rfl⟩:=unitL_cons.1 h
  intro e J
  rcases aL.1 J with rfl|J
  ·exact Zqt x R.1 U
  ·exact Zz0 r R.2 h2 e J
end
end
section
open Go
def exA(x:Ex):SV thy:= .agg (encF ab .exprs x)
noncomputable def dExp:DcL E (Ex×Unit):= .cons (dR .exprs) .nil
noncomputable def Ykf:DcL E (Ex×Int×Unit):= .cons (dR .exprs) (.cons (dInt (E:=E) .i64) .nil)
theorem Z0{α:Type} {l:List α} {k:Nat} {y:α} (h:l[k]? =ae y):l.drop k=y::l.drop (k+1):=by
 have I:=(ak.1 h).1;rw[cr I];congr 1;exact(ak.1 h).2
theorem Ut{α:Type} {l:List α} {k:Nat} (h:l.length<=k):l.drop k= []:=bF h
noncomputable def Ykg(m:Nat):Sum thy:=sumP dExp (λx=>x.1.sz<m) λx=> .int ab .i64 (Y5 x.1:Int)
def Ykh:Fr thy->Hp thy->Nat->Ann thy:=λT h i=>{X:=DX,fr:=λx=> [(3,.int ab .i64 x.j),(7,T 7),(8,T 8),(9,.int ab .i64 x.k)],bl:=λx=> [],src:=λ_=> [],md:= [],ih:=i,M:=i+30,meas:=λx=>x.r}
noncomputable def Yhe(m:Nat):Fns thy:=addL (addS F0 95 (Ykg m)) 95 3 Ykh E
theorem Z02(m:Nat) (x:Ex) (v:Int):Zk E F0 (vc E (Yhe m) 400) 95 [exA x] hp0 0 (λr=>ret E (patch hp0 0 r) r.v (.int ab .i64 v))=(
∃(R:DX->Prop),(∃(J:DX),R J/\ac=ac/\((0:Int)=DX.j J/\(bw x=bw x/\(ab=ac->ab=ac))/\(↑(aa (bw x)):Int)=(↑(aa (bw x)):Int)/\(0:Int)=(↑(DX.k J):Int)/\True)/\True)/\∀(J:DX),R J->(decide ((↑(DX.k J):Int)<(↑(aa (bw x)):Int))=ac->(0:Int)<=(↑(DX.k J):Int)/\(↑(DX.k J):Int)+(1:Int)<=(↑(aa (bw x)):Int)/\∀(I:Ex),(bw x)[ag (↑(DX.k J):Int)]? =ae I->Ex.sz (bU (aJ I) (bW I) (bx I) (bA I) (bB I) (bC I) (bw I))+(1:Nat)<=m/\∃(x':DX),R x'/\x'.2+(1:Nat)<=J.2/\ac=ac/\(mm2 ac (DX.j J) (↑(Y5 (bU (aJ I) (bW I) (bx I) (bA I) (bB I) (bC I) (bw I))):Int)=DX.j x'/\(bw x=bw x/\(ab=ac->ab=ac))/\(↑(aa (bw x)):Int)=(↑(aa (bw x)):Int)/\wr af ((↑(DX.k J):Int)+(1:Int))=(↑(DX.k x'):Int)/\True)/\True)/\(decide ((↑(DX.k J):Int)<(↑(aa (bw x)):Int))=ab->wr af (DX.j J+(1:Int))=v)):=by kernel_rfl
theorem Zxd{l:List Ex} {k:Nat} {y:Ex} (h:l[k]? =ae y):Zgs (l.drop k)=max (Y5 y) (Zgs (l.drop (k+1))):=by rw[Z0 h,Zgs]
theorem Z69:∀(m:Nat) (x:Ex),x.sz<=m->m<=1000000000000->PureC E 95 [exA x] (.int ab .i64 (Y5 x:Int)):=by
 intro m
 induction m with
 |zero=>intro x h;have:=x.sz_pos;omega
 |succ m ih=>
  intro x hm hb;have R:FnsOk E (Yhe (m+1)):=Zm E_ok (Zb F0_ok (Yg E_ok (Zc (f:=95) rfl) λx h=>ih x.1 (by omega) (by omega))) _ _ _;refine Za E_ok (Xk E_ok F0_ok λf N c=>(Zf4 E_ok R 400 f N c).1) ?_;rw[Z02]
  simp only[Yf,Z6,Wg,Wh,Wi,beq_iff_eq,bne_iff_ne,beq_eq_false_iff_ne,bne_eq_false_iff_eq,decide_eq_true_eq,decide_eq_false_iff_not,bd,bG,bi,cd,aq,cG,cx,bm,beq_self_eq_true,Yt,Yn,ne_eq,and_true,true_and,aS,aO,false_or,or_false,true_implies,imp_self,bX,not_true_eq_false,not_false_eq_true,bJ,Ex.eta];have a4:=x.sz_eq;have a1:=Ex.szL_len x.l;have a3:=Z6f x;have a2:=Ztv x
  refine⟨λy=>y.k<=x.l.length/\0<=y.j/\max y.j (Zgs (x.l.drop y.k):Int)=(Zgs x.l:Int)/\y.r=x.l.length-y.k,⟨⟨0,x.l.length,[],[],0,0,0,0⟩,⟨(by dsimp only;omega),(by dsimp only;omega),by dsimp only;rw[dh];omega,rfl⟩,rfl,rfl⟩,?_⟩;rintro y ⟨hk,a0,J,hr⟩;refine aB (λU=> ?_) (λU=> ?_)
  ·refine⟨by omega,by omega,λz I=> ?_⟩
   have I:x.l[y.k]? =ae z:=I;have a5:=Ex.sz_mem (aI I);rw[Zxd I] at J;rw[wr64 (n:=(y.k:Int)+1) (by omega) (by omega)];exact⟨by omega,⟨y.k+1,x.l.length-(y.k+1),[],[],0,0,0,max y.j (Y5 z:Int)⟩,⟨(by dsimp only;omega),(by dsimp only;omega),(by dsimp only;omega),rfl⟩,by show x.l.length-(y.k+1)+1<=y.r;omega,rfl,rfl⟩
  ·rw[Ut (by omega)] at J
   simp only[Zgs] at J;rw[wr64 (by omega) (by omega)];omega
def dimA(a b c d:Int):SV thy:= .agg [.int ab .i64 a,.int ab .i64 b,.int ab .i64 c,.int ab .i64 d]
structure WX where
 k:Nat
 r:Nat
 m:List (Int×Int)
noncomputable def Yki:Fr thy->Hp thy->Nat->Ann thy:=λT h i=>{X:=WX,fr:=λx=> [(3,T 3),(7,T 7),(8,.int ab .i64 x.k)],bl:=λx=> [(bOf (T 3),.map (X0 .i64 (Zl E gJ ab) x.m))],src:=λ_=> [],md:= [bOf (T 3)],ih:=i,M:=i+30,meas:=λx=>x.r}
noncomputable def Ycn:Fns thy:=addL F0 154 3 Yki E
noncomputable abbrev qBE1:=(Zl E gJ (Zh (TypeDesc.int af)))
noncomputable abbrev qBE4:=(0:Int)
noncomputable abbrev qBE2(I:Int) (J:Int) (R:Int) (d0:Int):=(ah [I,J,R,d0] (0:Nat) qBE4=ah [I,J,R,d0] (0:Nat) qBE4/\ah [I,J,R,d0] (1:Nat) qBE4=ah [I,J,R,d0] (1:Nat) qBE4/\ah [I,J,R,d0] (2:Nat) qBE4=ah [I,J,R,d0] (2:Nat) qBE4/\ah [I,J,R,d0] (3:Nat) qBE4=ah [I,J,R,d0] (3:Nat) qBE4/\True)
noncomputable abbrev qBE3:=(Zl E gJ ab)
noncomputable abbrev qBE5(I:WX):=(↑(WX.k I):Int)
noncomputable abbrev qBE6:=(1:Int)
theorem Z03(a b c d:Int) (v:Bool):Zk E Ycn (vc E Ycn 400) 154 [dimA a b c d] hp0 0 (λr=>ret E (patch hp0 0 r) r.v (.bool ab v))=(
 (4:Nat)=(4:Nat)/\∃(R:WX->Prop),(∃(x:WX),R x/\ac=ac/\(True/\(qBE2 a b c d)/\qBE4=(qBE5 x)/\True)/\([]=X0 af qBE3 (WX.m x)/\ac=ac)/\True)/\∀(x:WX),R x->(decide ((qBE5 x)<(4:Int))=ac->qBE4<=(qBE5 x)/\(qBE5 x)+qBE6<=(↑(4:Nat):Int)/\∀(y:Int),[ah [a,b,c,d] (0:Nat) qBE4,ah [a,b,c,d] (1:Nat) qBE4,ah [a,b,c,d] (2:Nat) qBE4,ah [a,b,c,d] (3:Nat) qBE4][ag (qBE5 x)]? =ae y->∃(l:List (Int×Int)),X0 af qBE3 (WX.m x)=X0 af qBE1 l/\∀(I:Int),I=ct (Z4 l y) qBE4->∃(l:List (Int×Int)),X0 af qBE3 (WX.m x)=X0 af qBE1 l/\∃(x':WX),R x'/\x'.2+(1:Nat)<=x.2/\ac=ac/\(True/\(qBE2 a b c d)/\wr af ((qBE5 x)+qBE6)=(qBE5 x')/\True)/\(X0 af qBE1 (putS l y (wr af (I+qBE6)))=X0 af qBE3 (WX.m x')/\nidE (0:Nat) (X0 af qBE1 (putS l y (wr af (I+qBE6))))=ac)/\True)/\(decide ((qBE5 x)<(4:Int))=ab->∃(l:List (Int×Int)),X0 af qBE3 (WX.m x)=X0 af qBE1 l/\∀(y:Int),y=ct (Z4 l qBE4) qBE4->∃(l:List (Int×Int)),X0 af qBE3 (WX.m x)=X0 af qBE1 l/\∀(I:Int),I=ct (Z4 l qBE6) qBE4->∃(l:List (Int×Int)),X0 af qBE3 (WX.m x)=X0 af qBE1 l/\∀(J:Int),J=ct (Z4 l (-1:Int)) qBE4->((wr af (wr af (y+I)+J)==(4:Int))=ac->∃(l:List (Int×Int)),X0 af qBE3 (WX.m x)=X0 af qBE1 l/\∀(y:Int),y=ct (Z4 l qBE6) qBE4->(decide (y<=qBE6)=ac->∃(l:List (Int×Int)),X0 af qBE3 (WX.m x)=X0 af qBE1 l/\∀(y:Int),y=ct (Z4 l (-1:Int)) qBE4->(decide (y<=qBE6)=ac->ac=v)/\(decide (y<=qBE6)=ab->ab=v))/\(decide (y<=qBE6)=ab->ab=v))/\((wr af (wr af (y+I)+J)==(4:Int))=ab->ab=v))):=by kernel_rfl
theorem Z7a{u:List Int} {k:Nat} {y n:Int} (h:u[k]? =ae y):cnt (u.take (k+1)) n=cnt (u.take k) n+(if y=n then 1 else 0):=by
 have I:=(ak.1 h).1;have:u.take (k+1)=u.take k++ [y]:=by rw[List.take_succ_eq_append_getElem I];congr 2;exact(ak.1 h).2
 unfold cnt;rw[this,List.filter_append,List.length_append];by_cases e:y=n<;>simp[e]
theorem Zt7(u:List Int) (n:Int):cnt u n<=u.length:=List.length_filter_le _ _
theorem Z7b:FnsOk E Ycn:=Zm E_ok F0_ok _ _ _
theorem Z04(a b c d:Int):PureC E 154 [dimA a b c d] (.bool ab (Zcg [a,b,c,d])):=by
 refine Za E_ok (Zd E_ok Z7b 400) ?_;rw[Z03];delta qBE1 qBE4 qBE2 qBE3 qBE5 qBE6;simp only[Yf,Z6,Wg,Wh,Wi,beq_iff_eq,bne_iff_ne,beq_eq_false_iff_ne,bne_eq_false_iff_eq,decide_eq_true_eq,decide_eq_false_iff_not,bd,bG,bi,cd,aq,cG,cx,bm,beq_self_eq_true,Yt,Yn,ne_eq,and_true,true_and,aS,aO,false_or,or_false,true_implies,imp_self,bX,not_true_eq_false,not_false_eq_true,bJ]
 have hc:∀k n,k<=4->cnt ([a,b,c,d].take k) n<=4:=λk n hk=>bQ (Zt7 _ _) (by simp;omega);refine⟨λx=>x.k<=4/\(∀n,(Z4 x.m n).getD 0=(cnt ([a,b,c,d].take x.k) n:Int))/\x.r=4-x.k,⟨⟨0,4,[]⟩,⟨(by dsimp only;omega),λn=>rfl,rfl⟩,rfl,rfl⟩,?_⟩;rintro x ⟨hk,I,hr⟩;refine aB (λhq=>⟨by omega,by omega,λy R=>⟨x.m,rfl,λJ U=>⟨x.m,rfl,?_⟩⟩⟩) (λhq=> ?_)
 ·have R: [a,b,c,d][x.k]? =ae y:=R
  have:=hc x.k y (by omega);rw[I y] at U;rw[wr64 (n:=(x.k:Int)+1) (by omega) (by omega),wr64 (n:=J+1) (by omega) (by omega)];refine⟨⟨x.k+1,3-x.k,putS x.m y (J+1)⟩,⟨by show x.k+1<=4;omega,λn=> ?_,by show 3-x.k=4-(x.k+1);omega⟩,by show 3-x.k+1<=x.r;omega,rfl,rfl,Zky E_ok _⟩;show(Z4 (putS x.m y (J+1)) n).getD 0=(cnt ([a,b,c,d].take (x.k+1)) n:Int);rw[Ziu,Z7a R];by_cases e:y=n
  ·subst e;rw[if_pos rfl,if_pos rfl,U];simp
  ·rw[if_neg e,if_neg e,I n];simp
 ·have a0:x.k=4:=by omega
  have I:∀n,(Z4 x.m n).getD 0=(cnt [a,b,c,d] n:Int):=λn=>by rw[I n,a0];rfl
  have h0:=Zt7 [a,b,c,d] 0;have U:=Zt7 [a,b,c,d] 1;have h2:=Zt7 [a,b,c,d] (-1);simp only[aD,List.length_nil] at h0 U h2;refine⟨x.m,rfl,λy R=>⟨x.m,rfl,λJ a1=>⟨x.m,rfl,λy2 a2=> ?_⟩⟩⟩;rw[I] at R a1 a2;rw[wr64 (n:=y+J) (by omega) (by omega),wr64 (n:=y+J+y2) (by omega) (by omega)];unfold Zcg;refine aB (λh3=>⟨x.m,rfl,λz hz=> ?_⟩) (λh3=> ?_)
  ·rw[I] at hz
   refine aB (λh4=>⟨x.m,rfl,λz2 a3=> ?_⟩) (λh4=> ?_)
   ·rw[I] at a3
    refine aB (λh5=> ?_) (λh5=> ?_)
    ·simp;omega
    ·symm;simp only[bm,decide_eq_false_iff_not];omega
   ·symm;simp only[bm,decide_eq_false_iff_not];omega
  ·symm;simp only[bm,decide_eq_false_iff_not];omega
end
section
open Go
noncomputable def dDim:DcL E (List Int×Unit):=dA1 (dR .dims)
noncomputable def Yje:Sum thy:=sumP dDim (λ_=>True) λx=> .bool ab (Zcg [x.1.getD 0 0,x.1.getD 1 0,x.1.getD 2 0,x.1.getD 3 0])
theorem Z92:SumOk E 154 Yje:=Yg E_ok (Zc (f:=154) rfl) λx _=>Z04 _ _ _ _
noncomputable def Yk8(m:Nat):Sum thy:=sumP dExp (λx=>x.1.sz<m) λx=> .bool ab (Zn x.1)
noncomputable def Yk9:Dc E (List Ex):=(Ze4 (E:=E) ij:Dc E (List (thy.dom ij)))
noncomputable def Yla(m:Nat):Sum thy:=sumP (dA2 Yk9 (dFun 156)) (λx=>Ex.szL x.1<m) λx=> .bool ab (!Ud x.1)
def Aidx:Fr thy->Hp thy->Nat->Ann thy:=λT h i=>{X:=DX,fr:=λx=> [(0,T 0),(1,T 1),(7,T 7),(8,.int ab .i64 x.k)],bl:=λx=> [],src:=λ_=> [],md:= [],ih:=i,M:=i+30,meas:=λx=>x.r}
noncomputable def Yff(m:Nat):Fns thy:=addL (addS F0 97 (Yk8 m)) 203 2 Aidx E
theorem Z4i(m:Nat) (l:List Ex) (v:Bool):Zk E (Yff m) (vc E (Yff m) 400) 155 [.psl ij l ab,.fn (.func 156) [] []] hp0 0 (λr=>ret E (patch hp0 0 r) r.v (.bool ab v))=(
∃(R:DX->Prop),(∃(x:DX),R x/\ac=ac/\((l=l/\(ab=ac->ab=ac))/\(cA (156:FuncId)=cA (156:FuncId)/\True/\True)/\(↑(aa l):Int)=(↑(aa l):Int)/\(0:Int)=(↑(DX.k x):Int)/\True)/\True)/\∀(x:DX),R x->(decide ((↑(DX.k x):Int)<(↑(aa l):Int))=ac->(0:Int)<=(↑(DX.k x):Int)/\(↑(DX.k x):Int)+(1:Int)<=(↑(aa l):Int)/\∀(I:Ex),l[ag (↑(DX.k x):Int)]? =ae I->Ex.sz (bU (aJ I) (bW I) (bx I) (bA I) (bB I) (bC I) (bw I))+(1:Nat)<=m/\((!Zn (bU (aJ I) (bW I) (bx I) (bA I) (bB I) (bC I) (bw I)))=ac->(decide ((↑(DX.k x):Int)>=(0:Int))=ac->ac=v)/\(decide ((↑(DX.k x):Int)>=(0:Int))=ab->ab=v))/\((!Zn (bU (aJ I) (bW I) (bx I) (bA I) (bB I) (bC I) (bw I)))=ab->∃(x':DX),R x'/\x'.2+(1:Nat)<=x.2/\ac=ac/\((l=l/\(ab=ac->ab=ac))/\(cA (156:FuncId)=cA (156:FuncId)/\True/\True)/\(↑(aa l):Int)=(↑(aa l):Int)/\wr af ((↑(DX.k x):Int)+(1:Int))=(↑(DX.k x'):Int)/\True)/\True))/\(decide ((↑(DX.k x):Int)<(↑(aa l):Int))=ab->ab=v)):=by kernel_rfl
theorem Z4j(m:Nat) (hm:m<=1000000000000) (ih:∀x:Ex,x.sz<m->PureC E 97 [exA x] (.bool ab (Zn x))) (l:List Ex) (hl:Ex.szL l<m):PureC E 155 [.psl ij l ab,.fn (.func 156) [] []] (.bool ab (!Ud l)):=by
 have U:FnsOk E (Yff m):=Zm E_ok (Zb F0_ok (Yg E_ok (Zc (f:=97) rfl) λx h=>ih x.1 h)) _ _ _;refine Za E_ok (Zd E_ok U 400) ?_;rw[Z4i]
 simp only[Yf,Z6,Wg,Wh,Wi,beq_iff_eq,bne_iff_ne,beq_eq_false_iff_ne,bne_eq_false_iff_eq,decide_eq_true_eq,decide_eq_false_iff_not,bd,bG,bi,cd,aq,cG,cx,bm,beq_self_eq_true,Yt,Yn,ne_eq,and_true,true_and,aS,aO,false_or,or_false,true_implies,imp_self,bX,not_true_eq_false,not_false_eq_true,bJ,Ex.eta];have a0:=Ex.szL_len l
 refine⟨λx=>x.k<=l.length/\Ud (l.drop x.k)=Ud l/\x.r=l.length-x.k,⟨⟨0,l.length,[],[],0,0,0,0⟩,⟨(by dsimp only;omega),rfl,rfl⟩,rfl⟩,?_⟩;rintro x ⟨hk,I,hr⟩;refine aB (λhq=>⟨by omega,by omega,λy J=> ?_⟩) (λhq=> ?_)
 ·have J:l[x.k]? =ae y:=J
  rw[Zww J] at I;have a1:=Ex.szL_mem (aI J);refine⟨by omega,λR=> ?_,λR=> ?_⟩
  ·rw[R] at I
   rw[<-I];exact aB (λ_=>rfl) (λh=>by omega)
  ·rw[R,cx] at I
   exact⟨⟨x.k+1,l.length-(x.k+1),[],[],0,0,0,0⟩,⟨(by dsimp only;omega),I,rfl⟩,by show l.length-(x.k+1)+1<=x.r;omega,wr64 (by omega) (by omega)⟩
 ·rw[Ut (by omega)] at I
  rw[<-I];rfl
noncomputable def Yfg(m:Nat):Fns thy:=addS (addS F0 155 (Yla m)) 154 Yje
abbrev qBF4:=(0:Int)
abbrev qBF2(I:Ex):=(!Zcg [ah [bx I,bA I,bB I,bC I] (0:Nat) qBF4,ah [bx I,bA I,bB I,bC I] (1:Nat) qBF4,ah [bx I,bA I,bB I,bC I] (2:Nat) qBF4,ah [bx I,bA I,bB I,bC I] (3:Nat) qBF4])
abbrev qBF7(I:Ex):=(!(bx I==qBF4&&(bA I==qBF4&&(bB I==qBF4&&(bC I==qBF4&&ac)))))
abbrev qBF1(I:Ex) (J:Bool) (R:Nat):=((qBF2 I)=ab->((aJ I !=(1:Int))=ac->((qBF7 I)=ac->ab=J)/\((qBF7 I)=ab->Ex.szL (bw I)+(1:Nat)<=R/\(!!Ud (bw I))=J))/\((aJ I !=(1:Int))=ab->Ex.szL (bw I)+(1:Nat)<=R/\(!!Ud (bw I))=J))
abbrev qBF3(I:Ex):=(↑(aa (bw I)):Int)
abbrev qBF5(I:Ex) (J:Bool->Prop):=((decide (aJ I<(1:Int))=ac->J ac)/\(decide (aJ I<(1:Int))=ab->(decide (aJ I>(11:Int))=ac->J ac)/\(decide (aJ I>(11:Int))=ab->J ab)))
abbrev qBF6(I:Ex) (J:Bool):=(decide (bW I<qBF4)=ac->ab=J)
theorem Z4k(m:Nat) (x:Ex) (v:Bool):Zk E (Yfg m) (vc E (Yfg m) 400) 97 [exA x] hp0 0 (λr=>ret E (patch hp0 0 r) r.v (.bool ab v))=(
 ((aJ x==(1:Int))=ac->(qBF6 x v)/\(decide (bW x<qBF4)=ab->(decide (bW x>(1099511627776:Int))=ac->ab=v)/\(decide (bW x>(1099511627776:Int))=ab->(((qBF3 x) !=qBF4)=ac->ab=v)/\(((qBF3 x) !=qBF4)=ab->True/\((qBF2 x)=ac->ab=v)/\(qBF1 x v m)))))/\((aJ x==(1:Int))=ab->((aJ x==(2:Int))=ac->(qBF6 x v)/\(decide (bW x<qBF4)=ab->(decide (bW x>(15:Int))=ac->ab=v)/\(decide (bW x>(15:Int))=ab->(((qBF3 x) !=qBF4)=ac->ab=v)/\(((qBF3 x) !=qBF4)=ab->True/\((qBF2 x)=ac->ab=v)/\(qBF1 x v m)))))/\((aJ x==(2:Int))=ab->((aJ x==(11:Int))=ac->∃(Q:Bool->Prop),(qBF5 x Q)/\(Q ac->ab=v)/\(Q ab->(qBF6 x v)/\(decide (bW x<qBF4)=ab->(decide (bW x>qBF4)=ac->ab=v)/\(decide (bW x>qBF4)=ab->(((qBF3 x) !=(4:Int))=ac->ab=v)/\(((qBF3 x) !=(4:Int))=ab->True/\((qBF2 x)=ac->ab=v)/\(qBF1 x v m))))))/\((aJ x==(11:Int))=ab->∃(Q:Bool->Prop),(qBF5 x Q)/\(Q ac->ab=v)/\(Q ab->(qBF6 x v)/\(decide (bW x<qBF4)=ab->(decide (bW x>qBF4)=ac->ab=v)/\(decide (bW x>qBF4)=ab->(((qBF3 x) !=(2:Int))=ac->ab=v)/\(((qBF3 x) !=(2:Int))=ab->True/\((qBF2 x)=ac->ab=v)/\(qBF1 x v m))))))))):=by kernel_rfl
theorem Zeb(x:Ex):Zn x=ac↔(1<=x.op/\x.op<=11/\0<=x.n/\(x.op=1->x.n<=1099511627776)/\(x.op=2->x.n<=15)/\(x.op≠1->x.op≠2->x.n<=0)/\(x.op=1\/x.op=2->x.l.length=0)/\(x.op=11->x.l.length=4)/\(x.op≠1->x.op≠2->x.op≠11->x.l.length=2)/\
 (x.op=1\/(x.d0=0/\x.d1=0/\x.d2=0/\x.d3=0)))/\Zcg [x.d0,x.d1,x.d2,x.d3]=ac/\Ud x.l=true:=by
 rw[Zde]
 simp only[Zdd,aq,bd,decide_eq_true_eq,Ex.u,cR,and_true]
 unfold Zzz Zk8
 constructor
 ·rintro⟨⟨⟨⟨⟨⟨⟨R,U⟩,h3⟩,I⟩,J⟩,h6⟩,h7⟩,h8⟩
  refine⟨⟨R,U,h3,λh=> ?_,λh=> ?_,λh h'=> ?_,λh=> ?_,λh=> ?_,λh h' a0=> ?_,h7⟩,h6,h8⟩
  ·rw[if_pos h] at I;exact I
  ·rw[if_neg (by omega),if_pos h] at I;exact I
  ·rw[if_neg h,if_neg h'] at I;exact I
  ·rw[if_pos h] at J;exact J
  ·rw[if_neg (by omega),if_pos h] at J;exact J
  ·rw[if_neg (by omega),if_neg a0] at J;exact J
 ·rintro⟨⟨R,U,h3,I,J,h6,h7,h8,h9,a1⟩,a2,a3⟩
  refine⟨⟨⟨⟨⟨⟨⟨R,U⟩,h3⟩,?_⟩,?_⟩,a2⟩,a1⟩,a3⟩
  ·split
   ·exact I ‹_›
   ·split
    ·exact J ‹_›
    ·exact h6 ‹_› ‹_›
  ·split
   ·exact h7 ‹_›
   ·split
    ·exact h8 ‹_›
    ·exact h9 (by omega) (by omega) ‹_›
theorem Z93{x:Ex} (h:((1<=x.op/\x.op<=11/\0<=x.n/\(x.op=1->x.n<=1099511627776)/\(x.op=2->x.n<=15)/\(x.op≠1->x.op≠2->x.n<=0)/\(x.op=1\/x.op=2->x.l.length=0)/\(x.op=11->x.l.length=4)/\(x.op≠1->x.op≠2->x.op≠11->x.l.length=2)/\
 (x.op=1\/(x.d0=0/\x.d1=0/\x.d2=0/\x.d3=0)))->Zcg [x.d0,x.d1,x.d2,x.d3]=ac->False)):ab=Zn x:=by
 symm;rw[jD];intro I
 have:=(Zeb x).1 I
 exact h this.1 this.2.1
theorem Z4l{x:Ex} {b:Bool} (J:b=Ud x.l) (h:(1<=x.op/\x.op<=11/\0<=x.n/\(x.op=1->x.n<=1099511627776)/\(x.op=2->x.n<=15)/\(x.op≠1->x.op≠2->x.n<=0)/\(x.op=1\/x.op=2->x.l.length=0)/\(x.op=11->x.l.length=4)/\(x.op≠1->x.op≠2->x.op≠11->x.l.length=2)/\
 (x.op=1\/(x.d0=0/\x.d1=0/\x.d2=0/\x.d3=0)))) (R:Zcg [x.d0,x.d1,x.d2,x.d3]=ac):b=Zn x:=by
 rw[ka,Zeb,J]
 exact⟨λI=>⟨h,R,I⟩,λI=>I.2.2⟩
theorem Z94:∀(m:Nat),m<=1000000000000->∀(x:Ex),x.sz<m->PureC E 97 [exA x] (.bool ab (Zn x)):=by
 intro m
 induction m with
 |zero=>intro _ x h;omega
 |succ m J=>
  intro R x U;have I:FnsOk E (Yfg m):=Zb (Zb F0_ok (Yg E_ok (Zc (f:=155) rfl) λx h=>Z4j m (by omega) (J (by omega)) x.1 h)) Z92;refine Za E_ok (Zd E_ok I 400) ?_;rw[Z4k];delta qBF4 qBF2 qBF7 qBF1 qBF3 qBF5 qBF6;have a0:=x.sz_eq
  repeat' (first|exact Z1s _|apply Ybh|apply JR_some|apply JR_and|apply Ybi|(refine aB ?_ ?_)|(intro h))
  all_goals(simp only[Yf,Z6,Wg,Wh,Wi,beq_iff_eq,bne_iff_ne,beq_eq_false_iff_ne,bne_eq_false_iff_eq,decide_eq_true_eq,decide_eq_false_iff_not,bd,bG,bi,cd,aq,cG,cx,bm,beq_self_eq_true,Yt,Yn,ne_eq,and_true,true_and,aS,aO,false_or,or_false,true_implies,imp_self,bX,not_true_eq_false,not_false_eq_true,bJ,List.getD_cons_zero,List.getD_cons_succ] at*)
  all_goals first|trivial|omega|(exact Z93 (λh hw=>by first|omega|(simp_all;done)))|(exact Z4l (by simp) (by omega) (by simp_all))
def in1(d:Int):Bool:=decide (-1<=d)&&decide (d<=1)
theorem Zm0(x:Int) (r:List Int) (n:Int):cnt (x::r) n=(if x=n then 1 else 0)+cnt r n:=by
 unfold cnt;by_cases h:x=n<;>simp[h,Nat.add_comm]
theorem Z4m:∀u:List Int,cnt u 0+cnt u 1+cnt u (-1)<=u.length/\(cnt u 0+cnt u 1+cnt u (-1)=u.length↔u.all in1=ac)
 | []=>by simp[cnt]
 |x::r=>by
  obtain⟨h1,U⟩:=Z4m r
  rw[Zm0,Zm0,Zm0,ks,aD,aq,<-U]
  unfold in1
  rw[aq,decide_eq_true_eq,decide_eq_true_eq]
  by_cases I:x=0
  ·subst I;simp;omega
  ·by_cases J:x=1
   ·subst J;simp;omega
   ·by_cases R:x= -1
    ·subst R;simp;omega
    ·rw[if_neg I,if_neg J,if_neg R]
     omega
theorem Zp3(a b c d:Int):Zcg [a,b,c,d]=([a,b,c,d].all in1&&(decide (cnt [a,b,c,d] 1<=1)&&decide (cnt [a,b,c,d] (-1)<=1))):=by
 have h:=(Z4m [a,b,c,d]).2;have: [a,b,c,d].length=4:=rfl;rw[this] at h;unfold Zcg;rw[ka,aq,aq,aq,aq,decide_eq_true_eq,h,and_assoc]
end
end Go.Proofs.YtpmhbnameoklkaaGreatDoor
/-
  DERIVED: THE SHELF's CONTRACTS AT THIS DUMP, IN PLAIN WORDS (tools/lay-plain.mjs out of 'YtpmhbnameoklkaaGreatDoorTvLay0.lean', which tools/lay-shelf.mjs wrote): THE SAME DECLARATIONS UNDER THE SAME NAMES: 'import', 'namespace', 'open', 'def', 'theorem' AND NOTHING ELSE: no command of the shelf's: FOR A HAND-IN. Each laying: the table of numbers ('.._ren') and one theorem, a field a fact of the dump's own or the kernel's comparison; each contract: ONE APPLICATION.
-/
namespace Go.Proofs
open Go.Shelf
def Tryz.lays160_ren:Go.Shelf.Ren:=⟨λ|160=>153|232=>197|231=>196|227=>198|234=>200|233=>199|236=>202|235=>201|228=>231|271=>234|151=>233|197=>232|120=>242|152=>241|260=>240|137=>86|119=>248|224=>249|225=>250|217=>138|266=>192|n=>n,λ|9=>9|4=>4|3=>3|5=>5|117=>249|116=>248|0=>0|124=>252|21=>21|105=>281|46=>230|119=>155|139=>295|138=>294|n=>n,λ|3=>5|4=>6|n=>n⟩
theorem Tryz.lays160:Go.Proofs.Lays.n160 Tryz.prog Tryz.lays160_ren:={
  mixed:=by kernel_rfl
  f119:=Tryz.func248.trans (congrArg ae (by kernel_rfl))
  f120:=Tryz.func242.trans (congrArg ae (by kernel_rfl))
  f137:=Tryz.func86.trans (congrArg ae (by kernel_rfl))
  f151:=Tryz.func233.trans (congrArg ae (by kernel_rfl))
  f152:=Tryz.func241.trans (congrArg ae (by kernel_rfl))
  f160:=Tryz.func153.trans (congrArg ae (by kernel_rfl))
  f197:=Tryz.func232.trans (congrArg ae (by kernel_rfl))
  f217:=Tryz.func138.trans (congrArg ae (by kernel_rfl))
  f224:=Tryz.func249.trans (congrArg ae (by kernel_rfl))
  f225:=Tryz.func250.trans (congrArg ae (by kernel_rfl))
  f227:=Tryz.func198.trans (congrArg ae (by kernel_rfl))
  f228:=Tryz.func231.trans (congrArg ae (by kernel_rfl))
  f231:=Tryz.func196.trans (congrArg ae (by kernel_rfl))
  f232:=Tryz.func197.trans (congrArg ae (by kernel_rfl))
  f233:=Tryz.func199.trans (congrArg ae (by kernel_rfl))
  f234:=Tryz.func200.trans (congrArg ae (by kernel_rfl))
  f235:=Tryz.func201.trans (congrArg ae (by kernel_rfl))
  f236:=Tryz.func202.trans (congrArg ae (by kernel_rfl))
  f260:=Tryz.func240.trans (congrArg ae (by kernel_rfl))
  f266:=Tryz.func192.trans (congrArg ae (by kernel_rfl))
  f271:=Tryz.func234.trans (congrArg ae (by kernel_rfl))
  t0:=Tryz.underlying0
  a0:=Tryz.isAgg0
  z0:=Tryz.sizeOf0
  v0:=Tryz.zeroValue0
  t3:=Tryz.underlying3
  a3:=Tryz.isAgg3
  z3:=Tryz.sizeOf3
  v3:=Tryz.zeroValue3
  t4:=Tryz.underlying4
  a4:=Tryz.isAgg4
  z4:=Tryz.sizeOf4
  v4:=Tryz.zeroValue4
  t5:=Tryz.underlying5
  a5:=Tryz.isAgg5
  z5:=Tryz.sizeOf5
  v5:=Tryz.zeroValue5
  t9:=Tryz.underlying9
  a9:=Tryz.isAgg9
  z9:=Tryz.sizeOf9
  v9:=Tryz.zeroValue9
  t21:=Tryz.underlying21
  a21:=Tryz.isAgg21
  z21:=Tryz.sizeOf21
  v21:=Tryz.zeroValue21
  t46:=Tryz.underlying230
  a46:=Tryz.isAgg230
  z46:=Tryz.sizeOf230
  v46:=Tryz.zeroValue230
  t105:=Tryz.underlying281
  a105:=Tryz.isAgg281
  z105:=Tryz.sizeOf281
  v105:=Tryz.zeroValue281
  t116:=Tryz.underlying248
  a116:=Tryz.isAgg248
  z116:=Tryz.sizeOf248
  t117:=Tryz.underlying249
  a117:=Tryz.isAgg249
  z117:=Tryz.sizeOf249
  v117:=Tryz.zeroValue249
  t119:=Tryz.underlying155
  a119:=Tryz.isAgg155
  z119:=Tryz.sizeOf155
  t124:=Tryz.underlying252
  a124:=Tryz.isAgg252
  z124:=Tryz.sizeOf252
  v124:=Tryz.zeroValue252
  t138:=Tryz.underlying294
  a138:=Tryz.isAgg294
  z138:=Tryz.sizeOf294
  v138:=Tryz.zeroValue294
  t139:=Tryz.underlying295
  a139:=Tryz.isAgg295
  z139:=Tryz.sizeOf295
  v139:=Tryz.zeroValue295
  g3:=by kernel_rfl
  g4:=by kernel_rfl}
def Tryz.lays156_ren:Go.Shelf.Ren:=⟨λ|156=>57|165=>102|166=>103|169=>104|240=>163|241=>164|276=>208|277=>209|n=>n,λ|31=>97|9=>9|3=>3|4=>4|0=>0|20=>20|72=>163|76=>166|70=>160|37=>161|75=>165|127=>228|164=>267|5=>5|80=>91|n=>n,λ|n=>n⟩
theorem Tryz.lays156:Go.Proofs.Lays.n156 Tryz.prog Tryz.lays156_ren:={
  mixed:=by kernel_rfl
  f156:=Tryz.func57.trans (congrArg ae (by kernel_rfl))
  f165:=Tryz.func102.trans (congrArg ae (by kernel_rfl))
  f166:=Tryz.func103.trans (congrArg ae (by kernel_rfl))
  f169:=Tryz.func104.trans (congrArg ae (by kernel_rfl))
  f240:=Tryz.func163.trans (congrArg ae (by kernel_rfl))
  f241:=Tryz.func164.trans (congrArg ae (by kernel_rfl))
  f276:=Tryz.func208.trans (congrArg ae (by kernel_rfl))
  f277:=Tryz.func209.trans (congrArg ae (by kernel_rfl))
  t0:=Tryz.underlying0
  a0:=Tryz.isAgg0
  z0:=Tryz.sizeOf0
  v0:=Tryz.zeroValue0
  t3:=Tryz.underlying3
  a3:=Tryz.isAgg3
  z3:=Tryz.sizeOf3
  v3:=Tryz.zeroValue3
  t4:=Tryz.underlying4
  a4:=Tryz.isAgg4
  z4:=Tryz.sizeOf4
  v4:=Tryz.zeroValue4
  t9:=Tryz.underlying9
  a9:=Tryz.isAgg9
  z9:=Tryz.sizeOf9
  v9:=Tryz.zeroValue9
  t20:=Tryz.underlying20
  a20:=Tryz.isAgg20
  z20:=Tryz.sizeOf20
  v20:=Tryz.zeroValue20
  t31:=Tryz.underlying97
  a31:=Tryz.isAgg97
  z31:=Tryz.sizeOf97
  v31:=Tryz.zeroValue97
  t37:=Tryz.underlying161
  a37:=Tryz.isAgg161
  z37:=Tryz.sizeOf161
  v37:=Tryz.zeroValue161
  t70:=Tryz.underlying160
  a70:=Tryz.isAgg160
  z70:=Tryz.sizeOf160
  v70:=Tryz.zeroValue160
  t72:=Tryz.underlying163
  a72:=Tryz.isAgg163
  z72:=Tryz.sizeOf163
  v72:=Tryz.zeroValue163
  t75:=Tryz.underlying165
  a75:=Tryz.isAgg165
  z75:=Tryz.sizeOf165
  v75:=Tryz.zeroValue165
  t76:=Tryz.underlying166
  a76:=Tryz.isAgg166
  z76:=Tryz.sizeOf166
  v76:=Tryz.zeroValue166
  t127:=Tryz.underlying228
  a127:=Tryz.isAgg228
  z127:=Tryz.sizeOf228
  v127:=Tryz.zeroValue228
  t164:=Tryz.underlying267
  a164:=Tryz.isAgg267
  z164:=Tryz.sizeOf267
  v164:=Tryz.zeroValue267}
def Tryz.lays129_ren:Go.Shelf.Ren:=⟨λ|129=>252|n=>n,λ|53=>272|3=>3|4=>4|46=>230|5=>5|9=>9|n=>n,λ|n=>n⟩
theorem Tryz.lays129:Go.Proofs.Lays.n129 Tryz.prog Tryz.lays129_ren:={
  mixed:=by kernel_rfl
  f129:=Tryz.func252.trans (congrArg ae (by kernel_rfl))
  t3:=Tryz.underlying3
  a3:=Tryz.isAgg3
  z3:=Tryz.sizeOf3
  v3:=Tryz.zeroValue3
  t4:=Tryz.underlying4
  a4:=Tryz.isAgg4
  z4:=Tryz.sizeOf4
  v4:=Tryz.zeroValue4
  t5:=Tryz.underlying5
  a5:=Tryz.isAgg5
  z5:=Tryz.sizeOf5
  v5:=Tryz.zeroValue5
  t9:=Tryz.underlying9
  a9:=Tryz.isAgg9
  z9:=Tryz.sizeOf9
  v9:=Tryz.zeroValue9
  t46:=Tryz.underlying230
  a46:=Tryz.isAgg230
  z46:=Tryz.sizeOf230
  v46:=Tryz.zeroValue230
  t53:=Tryz.underlying272
  a53:=Tryz.isAgg272
  z53:=Tryz.sizeOf272
  v53:=Tryz.zeroValue272}
def Tryz.lays317_ren:Go.Shelf.Ren:=⟨λ|317=>251|n=>n,λ|3=>3|46=>230|n=>n,λ|n=>n⟩
theorem Tryz.lays317:Go.Proofs.Lays.n317 Tryz.prog Tryz.lays317_ren:={
  mixed:=by kernel_rfl
  f317:=Tryz.func251.trans (congrArg ae (by kernel_rfl))
  t3:=Tryz.underlying3
  a3:=Tryz.isAgg3
  z3:=Tryz.sizeOf3
  v3:=Tryz.zeroValue3
  t46:=Tryz.underlying230
  a46:=Tryz.isAgg230
  z46:=Tryz.sizeOf230
  v46:=Tryz.zeroValue230}
def Tryz.lays283_ren:Go.Shelf.Ren:=⟨λ|283=>243|n=>n,λ|3=>3|9=>9|4=>4|n=>n,λ|n=>n⟩
theorem Tryz.lays283:Go.Proofs.Lays.n283 Tryz.prog Tryz.lays283_ren:={
  mixed:=by kernel_rfl
  f283:=Tryz.func243.trans (congrArg ae (by kernel_rfl))
  t3:=Tryz.underlying3
  a3:=Tryz.isAgg3
  z3:=Tryz.sizeOf3
  v3:=Tryz.zeroValue3
  t4:=Tryz.underlying4
  a4:=Tryz.isAgg4
  z4:=Tryz.sizeOf4
  v4:=Tryz.zeroValue4
  t9:=Tryz.underlying9
  a9:=Tryz.isAgg9
  z9:=Tryz.sizeOf9
  v9:=Tryz.zeroValue9}
end Go.Proofs

namespace Go.Proofs.YtpmhbnameoklkaaGreatDoor
set_option linter.unusedVariables false
set_option linter.unusedSimpArgs false
set_option linter.unnecessarySimpa false
set_option maxRecDepth 100000
section
open Go
def wb(c:Nat):Bool:=(bL 97 c&&bL c 122)||(bL 48 c&&bL c 57)
def Zxc:List Nat:= [97,98,99,100,101,102,103,104,105,106,107,108,109,110,111,112,113,114,115,116,117,118,119,120,121,122,48,49,50,51,52,53,54,55,56,57]
def Zrc(s:List Nat):List Nat:=(Lib.trimS (mkS s).data.toList (mkS Zxc).data.toList).map cQ
theorem Z0t(s:List Nat) (hs:s.length<=9223372036854775807):PureC E 153 [.str ab s,.str ac Zxc] (.str ab (Zrc s)):=by
 refine Uv λg w vals hd=> ?_;obtain⟨u,v,rfl,hu,hv⟩:=Yh8 hd;cases hu;cases hv;rename_i b hb c hc;subst hb;have hc':c=mkS Zxc:=by rw[<-hc,Zc2]
 subst hc';have hs':b.size<=9223372036854775807:=by rw[<-Zc1];exact hs
 refine(Any.strings_Trim_laid Tryz.lays160 (by kernel_rfl) b (mkS Zxc) w hs' (by decide) (ascii_of_all (by decide))).mono ?_;rintro e w' ⟨rfl,hw⟩;refine⟨_,rfl,?_,hw⟩;unfold Zrc;rw[Zc2];exact Z8e
theorem dw_nil{α:Type} {p:α->Bool}:∀{l:List α},l.dropWhile p= []↔∀x∈l,p x=ac
 | []=>by simp
 |x::l=>by
  rw[jk]
  cases I:p x with
  |true=>simp[I,dw_nil (l:=l)]
  |false=>simp[I]
theorem Z0u{α:Type} {p:α->Bool}:∀{l:List α} {b:α} {r:List α},l.dropWhile p=b::r->p b=ab
 | [],b,r,h=>by simp at h
 |x::l,b,r,h=>by
  rw[jk] at h
  cases I:p x with
  |true=>rw[I] at h;exact Z0u h
  |false=>rw[I] at h;simp at h;rw[<-h.1];exact I
theorem Z0v(l cs:List UInt8):Lib.trimS l cs= []↔∀b∈l,cs.contains b=true:=by
 unfold Lib.trimS Lib.trimLeftS Lib.trimRightS;rw[dw_nil];constructor
 ·intro h
  cases hd:l.reverse.dropWhile (cs.contains ·) with
  |nil=>
   rw[dw_nil] at hd;exactλb I=>hd b (jN.2 I)
  |cons b r=>
   exfalso;have R:=h b (by rw[hd];simp);have J:=Z0u hd;rw[R] at J;cases J
 ·intro h b I
  rw[dw_nil.2 (λb I=>h b (jN.1 I))] at I;simp at I
theorem Zn6:∀n,n<256->(mkS Zxc).data.toList.contains (fY n)=wb n:=by decide
theorem Z0w{s:List Nat} (R:Byt s):Zrc s= []↔s.all wb=true:=by
 unfold Zrc;rw[List.map_eq_nil_iff,Z0v,fB];have e:s=(mkS s).data.toList.map cQ:=(show toL (mkS s)=s from R).symm;constructor
 ·intro h c J
  rw[e] at J;obtain⟨b,I,rfl⟩:=List.mem_map.1 J;rw[<-Zn6 _ b.toNat_lt];have:=h b I
  rwa[show fY b.toNat=b from jx]
 ·intro h b I
  have:=h b.toNat (by rw[e];exact List.mem_map_of_mem I);rw[<-Zn6 _ b.toNat_lt] at this
  rwa[show fY b.toNat=b from jx] at this
noncomputable def Yhd:Sum thy:=sumP (dA2 dS (dKs Zxc)) (λx=>x.1.length<=9223372036854775807) λx=> .str ab (Zrc x.1)
theorem Z62:SumOk E 153 Yhd:=Yg E_ok (Zc (f:=153) rfl) λx h=>Z0t _ h
noncomputable def Ycl:Fns thy:=addS F0 153 Yhd
theorem Z63:FnsOk E Ycl:=Zb F0_ok Z62
def lowF:List Nat->Bool
 | []=>ab
 |c::_=>bL 97 c&&bL c 122
def Uj(s:List Nat):Bool:=decide (s.length<=32)&&lowF s&&s.all wb
theorem Z0x(s:List Nat) (v:Bool):Zk E Ycl (vc E Ycl 400) 96 [.str ab s] hp0 0 (λr=>ret E (patch hp0 0 r) r.v (.bool ab v))=(
(decide ((↑(aa s):Int)<=(32:Int))=ac->((!s==toL (dU #[]))=ac->(0:Int)<=(0:Int)/\(0:Int)+(1:Int)<=(↑(aa s):Int)/\∀(x:Nat),s[ag (0:Int)]? =ae x->(decide ((↑x:Int)>=(97:Int))=ac->(0:Int)<=(0:Int)/\(0:Int)+(1:Int)<=(↑(aa s):Int)/\∀(x:Nat),s[ag (0:Int)]? =ae x->(decide ((↑x:Int)<=(122:Int))=ac->aa s<=(9223372036854775807:Nat)/\((Zrc s==toL (dU #[]))=ac->ac=v)/\((Zrc s==toL (dU #[]))=ab->ab=v))/\(decide ((↑x:Int)<=(122:Int))=ab->ab=v))/\(decide ((↑x:Int)>=(97:Int))=ab->ab=v))/\((!s==toL (dU #[]))=ab->ab=v))/\(decide ((↑(aa s):Int)<=(32:Int))=ab->ab=v)):=by kernel_rfl
theorem Z0y(s:List Nat):PureC E 96 [.str ab s] (.bool ab (Uj s)):=by
 refine Z8c (j:=0) rfl λhs=>Za E_ok (Zd E_ok Z63 400) ?_;rw[Z0x];simp only[Yf,Z6,Wg,Wh,Wi,beq_iff_eq,bne_iff_ne,beq_eq_false_iff_ne,bne_eq_false_iff_eq,decide_eq_true_eq,decide_eq_false_iff_not,bd,bG,bi,cd,aq,cG,cx,bm,beq_self_eq_true,Yt,Yn,ne_eq,and_true,true_and,aS,aO,false_or,or_false,true_implies,imp_self,bX,not_true_eq_false,not_false_eq_true,bJ];have he:toL (dU #[])= []:=rfl
 have hz:(0:Int).toNat=0:=rfl;simp only[he,hz,Z0w hs];unfold Uj;refine aB (λU=>aB (λI=>⟨by omega,?_,λc R=> ?_⟩) (λI=> ?_)) (λU=> ?_)
 ·cases s with
  |nil=>exact absurd rfl I
  |cons c r=>simp only[aD];omega
 ·cases s with
  |nil=>simp at R
  |cons c' r=>
   obtain rfl:c'=c:=by simpa using R
   rw[decide_eq_true (show(c'::r).length<=32 by omega),show lowF (c'::r)=(bL 97 c'&&bL c' 122) from rfl];refine aB (λh3=>⟨by omega,by simp only[aD];omega,λc2 a0=> ?_⟩) (λh3=> ?_)
   ·obtain rfl:c'=c2:=by simpa using a0
    refine aB (λh4=>⟨by omega,λJ=> ?_,λJ=> ?_⟩) (λh4=> ?_)
    ·rw[J,jf (by omega),jf (by omega)];rfl
    ·rw[jD.2 J];simp
    ·have:bL c' 122=false:=by rw[<-ba,bn];omega
     rw[this];simp
   ·have:bL 97 c'=false:=by rw[<-ba,bn];omega
    rw[this];simp
 ·rw[I];simp[lowF]
 ·rw[decide_eq_false (show¬s.length<=32 by omega)];simp
def resW:List (List Nat):= [[116,97,114,105,102,102],[102,111,114],[99,108,97,117,115,101],[119,104,101,110],[97,110,100],[105,110],[105,115],[112,97,121],[109,105,110],[109,97,120],[100,111,119,110],[117,112],[104,97,108,102],[105,102],[109,111,110,101,121],[109,105,110,117,116,101],[112,101,114],[107,103],[116,121,112,101],[111,119,110,101,114],[114,97,105,108,119,97,121],[115,104,105,112,112,101,114],[99,108,97,115,115],[119,101,105,103,104,116],[107,109],[109,105,110,117,116,101,115],[119,111,114,107,105,110,103],[99,111,100,101],[119,111,114,116,104],[99,111,115,116],[109,111,110,116,104],[98,101,103,105,110],[112,97,114,116,115],[112,97,114,116],[104,105,114,101],[100,101,109,117,114,114,97,103,101],[102,114,101,105,103,104,116],[114,101,112,97,105,114],[108,111,115,115],[99,108,101,97,110,105,110,103]]
theorem Z64(s:List Nat) (K:SV thy->Prop):Zk E F0 (vc E F0 400) 89 [.str ab s] hp0 0 (λr=>K r.v)=Vd ab (.str ab s) (resW.map λk=>(kq (mkS k),SV.bool ac ac)) K (K (.bool ac ab)):=by kernel_rfl
theorem Zt6(s:List Nat):PureC E 89 [.str ab s] (.bool ab (decide (s∈resW))):=by
 refine Zmg E_ok (Z6h 400) (K:=λr=>r.v= .bool ac (decide (s∈resW))) (λr I=>by rw[I];rfl) ?_;rw[Z64 s λv=>v= .bool ac (decide (s∈resW))];refine Zkp ?_ (λh=>by rw[decide_eq_true h]) (λh=>by rw[decide_eq_false h]);unfold Byt;decide
end
section
open Go
end
section
open Go
def Yr(w:Tst):Bool:=decide (0<=w.attr/\w.attr<16/\0<=w.low/\w.low<=1099511627776/\0<=w.high/\w.high<=1099511627776)
def W5(c:Cls):Bool:=Uj c.name&&Zn c.pay&&c.when_.all Yr
def resF(s:List Nat):Bool:=decide (s∈resW)
noncomputable def goC:Bool->Bool->List (List Nat×Bool)->List Cls->Int
 |a,b,_,[]=>if a=ac then 161 else if b=ac then 2 else 0
 |a,b,m,c::r=>if W5 c=ac then goC (a||resF c.name||(Z4 m c.name).getD ab) (b||decide (8<c.when_.length)||decide (24<Y5 c.pay)) (putS m c.name ac) r else 1
noncomputable def Z9(t:Tar):Int:=if Uj t.name=ac/\1<=t.for_/\t.for_<=6 then goC (resF t.name) (decide (64<t.clauses.length)) [] t.clauses else 1
noncomputable def Yjs:Sum thy:=sumP (dA1 dS) (λ_=>True) λx=> .bool ab (Uj x.1)
theorem Yaq:SumOk E 96 Yjs:=Yg E_ok (Zc (f:=96) rfl) λx h=>Z0y _
noncomputable def Sres:Sum thy:=sumP (dA1 dS) (λ_=>True) λx=> .bool ab (resF x.1)
theorem Yf9:SumOk E 89 Sres:=Yg E_ok (Zc (f:=89) rfl) λx h=>Zt6 _
noncomputable def Z5r:Sum thy:=sumP dExp (λx=>x.1.sz<1000000000000) λx=> .bool ab (Zn x.1)
theorem Zzi:SumOk E 97 Z5r:=Yg E_ok (Zc (f:=97) rfl) λx h=>Z94 _ (aw _) _ h
noncomputable def Zng:Sum thy:=sumP dExp (λx=>x.1.sz<1000000000000) λx=> .int ab .i64 (Y5 x.1:Int)
theorem Zjc:SumOk E 95 Zng:=Yg E_ok (Zc (f:=95) rfl) λx h=>Z69 _ _ (aw _) (Nat.le_of_lt h)
structure CkX where
 k:Nat
 r:Nat
 a:Bool
 b:Bool
 m:List (List Nat×Bool)
def blkM{Y:Thy} (h:Hp Y) (v:SV Y):List (Nat×Blk Y):=match v with| .map b=>(match h b with|some x=> [(b,x)]|none=> [])|_=> []
noncomputable def Ack:Fr thy->Hp thy->Nat->Ann thy:=λT h i=>{X:=CkX,fr:=λx=> [(3,.bool ab x.a),(4,.bool ab x.b),(5,T 5),(33,T 33),(34,T 34),(35,.int ab .i64 x.k)],bl:=λx=> [(bOf (T 5),.map (Zi (Zl E bH ab) x.m))],src:=λ_=> [],md:= [bOf (T 5)],ih:=i,M:=i+40,meas:=λx=>x.r}
noncomputable def Atst:Fr thy->Hp thy->Nat->Ann thy:=λT h i=>{X:=DX,fr:=λx=> [(3,T 3),(4,T 4),(5,T 5),(7,T 7),(33,T 33),(34,T 34),(35,T 35),(50,T 50),(51,T 51),(52,.int ab .i64 x.k)],bl:=λx=>blkP h (T 7)++blkM h (T 5),src:=λ_=> [],md:= [],ih:=i,M:=i+30,meas:=λx=>x.r}
noncomputable def Fck:Fns thy:=addL (addL (addS (addS (addS (addS F0 96 Yjs) 89 Sres) 97 Z5r) 95 Zng) 53 6 Ack E) 53 11 Atst E
theorem Yjt:FnsOk E Fck:=Zm E_ok (Zm E_ok (Zb (Zb (Zb (Zb F0_ok Yaq) Yf9) Zzi) Zjc) _ _ _) _ _ _
def tarA(t:Tar):SV thy:= .agg (encF ab .tariffs t)
abbrev Yga(x:CkX) (I:Cls) (R:CkX->Prop) (t:Tar):Prop:=
 CkX.b x=ab->(decide ((↑(aa (aV I)):Int)>(8:Int))=ac->∃(l:List (List Nat×Bool)),Zi (Zl E bH ab) (CkX.m x)=Zi (Zl E
 bH (Zh bO)) l/\(∀(p:List Nat×Bool),p∈l->toL (mkS (ao p))=ao p)/\toL (mkS (aP I))=aP I/\∃(J:CkX),R J/\
 J.2+(1:Nat)<=x.2/\ac=ac/\(ac=CkX.a J/\ac=CkX.b J/\True/\(ar t=ar t/\(ab=ac->ab=ac))/\(↑(aa
 (ar t)):Int)=(↑(aa (ar t)):Int)/\wr af ((↑(CkX.k x):Int)+(1:Int))=(↑(CkX.k J):Int)/\True)/\(Zi (Zl E bH
 (Zh bO)) (putS l (aP I) ac)=Zi (Zl E bH ab) (CkX.m J)/\nidE (0:Nat) (Zi (Zl E bH (Zh bO)) (putS l
 (aP I) ac))=ac)/\True)/\(decide ((↑(aa (aV I)):Int)>(8:Int))=ab->Ex.sz (bU (aJ (aA I)) (bW (aA I)) (bx
 (aA I)) (bA (aA I)) (bB (aA I)) (bC (aA I)) (bw (aA I)))+(1:Nat)<=(1000000000000:Nat)/\(decide ((↑(Y5 (bU (aJ
 (aA I)) (bW (aA I)) (bx (aA I)) (bA (aA I)) (bB (aA I)) (bC (aA I)) (bw (aA I)))):Int)>(24:Int))=ac->∃
 (l:List (List Nat×Bool)),Zi (Zl E bH ab) (CkX.m x)=Zi (Zl E bH (Zh bO)) l/\(∀(p:List Nat×Bool),p∈l->toL (mkS (ao
 p))=ao p)/\toL (mkS (aP I))=aP I/\∃(J:CkX),R J/\J.2+(1:Nat)<=x.2/\ac=ac/\(ac=CkX.a J/\ac=CkX.b J/\True/\
 (ar t=ar t/\(ab=ac->ab=ac))/\(↑(aa (ar t)):Int)=(↑(aa (ar t)):Int)/\wr af ((↑(CkX.k x):
 Int)+(1:Int))=(↑(CkX.k J):Int)/\True)/\(Zi (Zl E bH (Zh bO)) (putS l (aP I) ac)=Zi (Zl E bH ab) (CkX.m J)/\
 nidE (0:Nat) (Zi (Zl E bH (Zh bO)) (putS l (aP I) ac))=ac)/\True)/\(decide ((↑(Y5 (bU (aJ (aA I)) (bW (aA
 I)) (bx (aA I)) (bA (aA I)) (bB (aA I)) (bC (aA I)) (bw (aA I)))):Int)>(24:Int))=ab->∃(l:List (List Nat×
 Bool)),Zi (Zl E bH ab) (CkX.m x)=Zi (Zl E bH (Zh bO)) l/\(∀(p:List Nat×Bool),p∈l->toL (mkS (ao p))=ao p)/\
 toL (mkS (aP I))=aP I/\∃(J:CkX),R J/\J.2+(1:Nat)<=x.2/\ac=ac/\(ac=CkX.a J/\ab=CkX.b J/\True/\(ar t=
 ar t/\(ab=ac->ab=ac))/\(↑(aa (ar t)):Int)=(↑(aa (ar t)):Int)/\wr af ((↑(CkX.k x):Int)+(1:Int))
 =(↑(CkX.k J):Int)/\True)/\(Zi (Zl E bH (Zh bO)) (putS l (aP I) ac)=Zi (Zl E bH ab) (CkX.m J)/\nidE (0:Nat)
 (Zi (Zl E bH (Zh bO)) (putS l (aP I) ac))=ac)/\True))
abbrev Yju(x:CkX) (I:Cls) (R:CkX->Prop) (t:Tar):Prop:=
 CkX.a x=ab->True/\(resF (aP I)=ac->(CkX.b x=ac->∃(l:List (List Nat×Bool)),Zi (Zl E bH ab) (CkX.m x)=Zi (Zl E bH
 (Zh bO)) l/\(∀(p:List Nat×Bool),p∈l->toL (mkS (ao p))=ao p)/\toL (mkS (aP I))=aP I/\∃(J:CkX),R J/\J.2+(1:
 Nat)<=x.2/\ac=ac/\(ac=CkX.a J/\ac=CkX.b J/\True/\(ar t=ar t/\(ab=ac->ab=ac))/\(↑(aa (ar t)):Int)
 =(↑(aa (ar t)):Int)/\wr af ((↑(CkX.k x):Int)+(1:Int))=(↑(CkX.k J):Int)/\True)/\(Zi (Zl E bH (Zh bO)) (putS
 l (aP I) ac)=Zi (Zl E bH ab) (CkX.m J)/\nidE (0:Nat) (Zi (Zl E bH (Zh bO)) (putS l (aP I) ac))=ac)/\
 True)/\(Yga x I R t))/\(resF (aP I)=ab->∃(l:List (List Nat×Bool)),Zi (Zl E bH ab) (CkX.m x)=Zi (Zl E bH (Zh
 bO)) l/\(∀(p:List Nat×Bool),p∈l->toL (mkS (ao p))=ao p)/\∀(y:Bool),y=ct (Z4 l (aP I)) ab->(CkX.b x=ac->∃(l
 :List (List Nat×Bool)),Zi (Zl E bH ab) (CkX.m x)=Zi (Zl E bH (Zh bO)) l/\(∀(p:List Nat×Bool),p∈l->toL (mkS (ao p))
 =ao p)/\toL (mkS (aP I))=aP I/\∃(J:CkX),R J/\J.2+(1:Nat)<=x.2/\ac=ac/\(y=CkX.a J/\ac=CkX.b J/\True/\(ar t
 =ar t/\(ab=ac->ab=ac))/\(↑(aa (ar t)):Int)=(↑(aa (ar t)):Int)/\wr af ((↑(CkX.k x):Int)+(1:
 Int))=(↑(CkX.k J):Int)/\True)/\(Zi (Zl E bH (Zh bO)) (putS l (aP I) ac)=Zi (Zl E bH ab) (CkX.m J)/\nidE (0:Nat)
 (Zi (Zl E bH (Zh bO)) (putS l (aP I) ac))=ac)/\True)/\(CkX.b x=ab->(decide ((↑(aa (aV I)):Int)>(8:Int))=
 ac->∃(l:List (List Nat×Bool)),Zi (Zl E bH ab) (CkX.m x)=Zi (Zl E bH (Zh bO)) l/\(∀(p:List Nat×Bool),p∈l->toL (mkS
 (ao p))=ao p)/\toL (mkS (aP I))=aP I/\∃(J:CkX),R J/\J.2+(1:Nat)<=x.2/\ac=ac/\(y=CkX.a J/\ac=CkX.b J/\True/\
 (ar t=ar t/\(ab=ac->ab=ac))/\(↑(aa (ar t)):Int)=(↑(aa (ar t)):Int)/\wr af ((↑(CkX.k x):
 Int)+(1:Int))=(↑(CkX.k J):Int)/\True)/\(Zi (Zl E bH (Zh bO)) (putS l (aP I) ac)=Zi (Zl E bH ab) (CkX.m J)/\
 nidE (0:Nat) (Zi (Zl E bH (Zh bO)) (putS l (aP I) ac))=ac)/\True)/\(decide ((↑(aa (aV I)):Int)>(8:Int))=
 ab->Ex.sz (bU (aJ (aA I)) (bW (aA I)) (bx (aA I)) (bA (aA I)) (bB (aA I)) (bC (aA I)) (bw (aA I)))+(1
 :Nat)<=(1000000000000:Nat)/\(decide ((↑(Y5 (bU (aJ (aA I)) (bW (aA I)) (bx (aA I)) (bA (aA I)) (bB (aA I)) (bC
 (aA I)) (bw (aA I)))):Int)>(24:Int))=ac->∃(l:List (List Nat×Bool)),Zi (Zl E bH ab) (CkX.m x)=Zi (Zl E bH (Zh
 bO)) l/\(∀(p:List Nat×Bool),p∈l->toL (mkS (ao p))=ao p)/\toL (mkS (aP I))=aP I/\∃(J:CkX),R J/\J.2+(1:Nat)<=
 x.2/\ac=ac/\(y=CkX.a J/\ac=CkX.b J/\True/\(ar t=ar t/\(ab=ac->ab=ac))/\(↑(aa (ar t)):Int)=
 (↑(aa (ar t)):Int)/\wr af ((↑(CkX.k x):Int)+(1:Int))=(↑(CkX.k J):Int)/\True)/\(Zi (Zl E bH (Zh bO)) (putS l
 (aP I) ac)=Zi (Zl E bH ab) (CkX.m J)/\nidE (0:Nat) (Zi (Zl E bH (Zh bO)) (putS l (aP I) ac))=ac)/\True)
 /\(decide ((↑(Y5 (bU (aJ (aA I)) (bW (aA I)) (bx (aA I)) (bA (aA I)) (bB (aA I)) (bC (aA I)) (bw (aA
 I)))):Int)>(24:Int))=ab->∃(l:List (List Nat×Bool)),Zi (Zl E bH ab) (CkX.m x)=Zi (Zl E bH (Zh bO)) l/\(∀(p:List
 Nat×Bool),p∈l->toL (mkS (ao p))=ao p)/\toL (mkS (aP I))=aP I/\∃(J:CkX),R J/\J.2+(1:Nat)<=x.2/\ac=ac/\(y=CkX.a
 J/\ab=CkX.b J/\True/\(ar t=ar t/\(ab=ac->ab=ac))/\(↑(aa (ar t)):Int)=(↑(aa (ar t)):Int)
 /\wr af ((↑(CkX.k x):Int)+(1:Int))=(↑(CkX.k J):Int)/\True)/\(Zi (Zl E bH (Zh bO)) (putS l (aP I) ac)=Zi (Zl E
 bH ab) (CkX.m J)/\nidE (0:Nat) (Zi (Zl E bH (Zh bO)) (putS l (aP I) ac))=ac)/\True))))
abbrev Ygb(x:CkX) (t:Tar) (v:Int) (R:CkX->Prop):Prop:=
 decide ((↑(CkX.k x):Int)<(↑(aa (ar t)):Int))=ac->(0:Int)<=(↑(CkX.k x):Int)/\(↑(CkX.k x):Int)+(1:Int)<=(↑(aa (ar t)):
 Int)/\∀(I:Cls),(ar t)[ag (↑(CkX.k x):Int)]? =ae I->True/\((!Uj (aP I))=ac->(1:Int)=v)/\((!Uj (aP I))=ab->
 Ex.sz (bU (aJ (aA I)) (bW (aA I)) (bx (aA I)) (bA (aA I)) (bB (aA I)) (bC (aA I)) (bw (aA I)))+(1:Nat)
 <=(1000000000000:Nat)/\((!Zn (bU (aJ (aA I)) (bW (aA I)) (bx (aA I)) (bA (aA I)) (bB (aA I)) (bC (aA I)) (bw
 (aA I))))=ac->(1:Int)=v)/\((!Zn (bU (aJ (aA I)) (bW (aA I)) (bx (aA I)) (bA (aA I)) (bB (aA I)) (bC
 (aA I)) (bw (aA I))))=ab->∃(a0:DX->Prop),(∃(U:DX),a0 U/\ac=ac/\(CkX.a x=CkX.a x/\CkX.b x=CkX.b x/\True/\(0:Nat)=(0:Nat)
 /\(ar t=ar t/\(ab=ac->ab=ac))/\(↑(aa (ar t)):Int)=(↑(aa (ar t)):Int)/\(↑(CkX.k x):Int)=
 (↑(CkX.k x):Int)/\(aV I=aV I/\(ab=ac->ab=ac))/\(↑(aa (aV I)):Int)=(↑(aa (aV I)):Int)/\(0:Int)
 =(↑(DX.k U):Int)/\True)/\(aP I=aP I/\(aV I=aV I/\(ab=ac->ab=ac))/\aJ (aA I)=aJ (aA I)/\bW
 (aA I)=bW (aA I)/\bx (aA I)=bx (aA I)/\bA (aA I)=bA (aA I)/\bB (aA I)=bB (aA I)/\bC
 (aA I)=bC (aA I)/\(bw (aA I)=bw (aA I)/\(ab=ac->ab=ac))/\True)/\(Zi (Zl E bH ab) (CkX.m x)=Zi (Zl
 E bH ab) (CkX.m x)/\nidE (0:Nat) (Zi (Zl E bH ab) (CkX.m x))=ac)/\True)/\∀(U:DX),a0 U->(decide ((↑(DX.k U):Int)<(↑(aa
 (aV I)):Int))=ac->(0:Int)<=(↑(DX.k U):Int)/\(↑(DX.k U):Int)+(1:Int)<=(↑(aa (aV I)):Int)/\∀(J:Tst),(aV
 I)[ag (↑(DX.k U):Int)]? =ae J->∃(Q:Bool->Prop),((decide (dP J<(0:Int))=ac->Q ac)/\(decide (dP J<(0:Int))=ab->(decide
 (dP J>=(16:Int))=ac->Q ac)/\(decide (dP J>=(16:Int))=ab->(decide (mm2 ab (fa J) (fb J)<(0:Int))=ac->Q ac)/\
 (decide (mm2 ab (fa J) (fb J)<(0:Int))=ab->(decide (mm2 ac (fa J) (fb J)>(1099511627776:Int))=ac->Q ac)/\(decide (mm2
 ac (fa J) (fb J)>(1099511627776:Int))=ab->Q ab)))))/\(Q ac->(1:Int)=v)/\(Q ab->∃(a1:DX),a0 a1/\a1.2+(1:Nat)<=U.2/\ac
 =ac/\(CkX.a x=CkX.a x/\CkX.b x=CkX.b x/\True/\(0:Nat)=(0:Nat)/\(ar t=ar t/\(ab=ac->ab=ac))/\(↑(aa (ar t))
 :Int)=(↑(aa (ar t)):Int)/\(↑(CkX.k x):Int)=(↑(CkX.k x):Int)/\(aV I=aV I/\(ab=ac->ab=ac))/\(↑(aa
 (aV I)):Int)=(↑(aa (aV I)):Int)/\wr af ((↑(DX.k U):Int)+(1:Int))=(↑(DX.k a1):Int)/\True)/\(aP I=aP I/\
 (aV I=aV I/\(ab=ac->ab=ac))/\aJ (aA I)=aJ (aA I)/\bW (aA I)=bW (aA I)/\bx (aA I)=
 bx (aA I)/\bA (aA I)=bA (aA I)/\bB (aA I)=bB (aA I)/\bC (aA I)=bC (aA I)/\(bw (aA I)=
 bw (aA I)/\(ab=ac->ab=ac))/\True)/\(Zi (Zl E bH ab) (CkX.m x)=Zi (Zl E bH ab) (CkX.m x)/\nidE (0:Nat) (Zi (Zl
 E bH ab) (CkX.m x))=ac)/\True))/\(decide ((↑(DX.k U):Int)<(↑(aa (aV I)):Int))=ab->(CkX.a x=ac->(CkX.b x=ac->∃(l:List
 (List Nat×Bool)),Zi (Zl E bH ab) (CkX.m x)=Zi (Zl E bH (Zh bO)) l/\(∀(p:List Nat×Bool),p∈l->toL (mkS (ao p))=
 ao p)/\toL (mkS (aP I))=aP I/\∃(J:CkX),R J/\J.2+(1:Nat)<=x.2/\ac=ac/\(ac=CkX.a J/\ac=CkX.b J/\True/\(ar
 t=ar t/\(ab=ac->ab=ac))/\(↑(aa (ar t)):Int)=(↑(aa (ar t)):Int)/\wr af ((↑(CkX.k x):Int)+(1:
 Int))=(↑(CkX.k J):Int)/\True)/\(Zi (Zl E bH (Zh bO)) (putS l (aP I) ac)=Zi (Zl E bH ab) (CkX.m J)/\nidE (0:Nat)
 (Zi (Zl E bH (Zh bO)) (putS l (aP I) ac))=ac)/\True)/\(Yga x I R t))/\(Yju x I R t))))
abbrev Ygc(x:CkX) (t:Tar) (v:Int):Prop:=
 decide ((↑(CkX.k x):Int)<(↑(aa (ar t)):Int))=ab->(CkX.a x=ac->(161:Int)=v)/\(CkX.a x=ab->(CkX.b x=ac->(2:Int)=v)/\(CkX.b x
 =ab->(0:Int)=v))
theorem Ygd(t:Tar) (v:Int):Zk E Fck (vc E Fck 400) 53 [tarA t] hp0 0 (λr=>ret E (patch hp0 0 r) r.v (.int ab .i64 v))=(
True/\((!Uj (bN t))=ac->(1:Int)=v)/\((!Uj (bN t))=ab->(decide (bI t<(1:Int))=ac->(1:Int)=v)/\(decide (bI t<(1:Int))=ab->(decide (bI t>(6:Int))=ac->(1:Int)=v)/\(decide (bI t>(6:Int))=ab->True/\(decide ((↑(aa (ar t)):Int)>(64:Int))=ac->∃(R:CkX->Prop),(∃(x:CkX),R x/\ac=ac/\(resF (bN t)=CkX.a x/\ac=CkX.b x/\True/\(ar t=ar t/\(ab=ac->ab=ac))/\(↑(aa (ar t)):Int)=(↑(aa (ar t)):Int)/\(0:Int)=(↑(CkX.k x):Int)/\True)/\([]=Zi (Zl E bH ab) (CkX.m x)/\ac=ac)/\True)/\∀(x:CkX),R x->(Ygb x t v R)/\(Ygc x t v))/\(decide ((↑(aa (ar t)):Int)>(64:Int))=ab->∃(R:CkX->Prop),(∃(x:CkX),R x/\ac=ac/\(resF (bN t)=CkX.a x/\ab=CkX.b x/\True/\(ar t=ar t/\(ab=ac->ab=ac))/\(↑(aa (ar t)):Int)=(↑(aa (ar t)):Int)/\(0:Int)=(↑(CkX.k x):Int)/\True)/\([]=Zi (Zl E bH ab) (CkX.m x)/\ac=ac)/\True)/\∀(x:CkX),R x->(Ygb x t v R)/\(Ygc x t v)))))):=by kernel_rfl
theorem Zjd{g:GH} {t:Tar} {u:Value} (h:Den E σ0 g (tarA t) u):Byt t.name/\∀c∈t.clauses,Byt c.name:=by
 obtain⟨arr,c,rfl,hs,U,hd⟩:=Ye h;refine⟨Zsd (hd 0 _ rfl),λx R=> ?_⟩;have I:=hd 2 (.psl bq t.clauses ab) rfl;obtain⟨v,J⟩:=Z8d I x R 0 (.str ab x.name) rfl;exact Zsd J
theorem Zen(a b:Bool) (m:List (List Nat×Bool)) (c:Cls) (r:List Cls):goC a b m (c::r)=if W5 c=ac then goC (a||resF c.name||(Z4 m c.name).getD ab) (b||decide (8<c.when_.length)||decide (24<Y5 c.pay)) (putS m c.name ac) r else 1:=rfl
theorem Zwn{l:List Tst} {k:Nat} {w:Tst} (h:l[k]? =ae w):(l.drop k).all Yr=(Yr w&&(l.drop (k+1)).all Yr):=by rw[Z0 h,ks]
theorem Zbz{U:Type}:∀{m:List (List Nat×U)} {a:List Nat} {v:U},(∀p∈m,Byt p.1)->Byt a->∀p∈putS m a v,Byt p.1
 | [],a,v,_,R,p,I=>by
  rw[putS] at I
  obtain rfl:=bZ.1 I
  exact R
 |q::m,a,v,J,R,p,I=>by
  rw[putS] at I
  split at I
  ·rcases aL.1 I with rfl|I
   ·exact J q (cB ..)
   ·exact J p (aX _ I)
  ·rcases aL.1 I with rfl|I
   ·exact J _ (cB ..)
   ·exact Zbz (λq hq=>J q (aX _ hq)) R p I
theorem Zk7(t:Tar) (b0:∀ c∈t.clauses,c.pay.sz<1000000000000/\c.when_.length<1000000000000) (hl:t.clauses.length<1000000000000):PureC E 53 [tarA t] (.int ab .i64 (Z9 t)):=by
  refine Zhz (j:=0) rfl (λg u h=>Zjd h) λa9=>Za E_ok (Zd E_ok Yjt 400) ?_;rw[Ygd];unfold Ygc Ygb Yju Yga;simp only[Yf,Z6,Wg,Wh,Wi,beq_iff_eq,bne_iff_ne,beq_eq_false_iff_ne,bne_eq_false_iff_eq,decide_eq_true_eq,decide_eq_false_iff_not,bd,bG,bi,cd,aq,cG,cx,bm,beq_self_eq_true,Yt,Yn,ne_eq,and_true,true_and,aS,aO,false_or,or_false,true_implies,imp_self,bX,not_true_eq_false,not_false_eq_true,bJ,Ex.eta];unfold Z9
  refine aB (λh1=>?_) (λh1=>aB (λh2=>?_) (λh2=>aB (λh3=>?_) (λh3=>?_)))
  ·rw[if_neg (by rw[h1]; simp)]
  ·rw[if_neg (by omega)]
  ·rw[if_neg (by omega)]
  ·rw[if_pos ⟨h1,by omega,by omega⟩]
   refine aB (λh4=>?_) (λh4=>?_)
   ·rw[decide_eq_true (show 64<t.clauses.length by omega)]
    refine⟨λx=>x.k<=t.clauses.length/\(∀ p∈x.m,Byt p.1)/\goC x.a x.b x.m (t.clauses.drop x.k)=goC (resF t.name) ac [] t.clauses/\x.r=t.clauses.length - x.k,⟨⟨0,t.clauses.length,resF t.name,ac,[]⟩,⟨(by dsimp only; omega),by simp,rfl,rfl⟩,⟨rfl,rfl,rfl⟩,rfl⟩,?_⟩;rintro x ⟨hk,hm,I,hr⟩;refine aB (λhq=>⟨by omega,by omega,λc hc=>?_⟩) (λhq=>?_)
    ·have hc:t.clauses[x.k]?=ae c:=hc
     rw[Z0 hc,Zen] at I;have a1:=aI hc;obtain⟨b1,b2⟩:=b0 c a1;have a0:=a9.2 c a1;refine aB (λh5=>?_) (λh5=>⟨by omega,λh6=>?_,λh6=>?_⟩)
     ·rw[← I,if_neg (by unfold W5; rw[h5]; simp)]
     ·rw[← I,if_neg (by unfold W5; rw[h6]; simp)]
     refine⟨λy=>y.k<=c.when_.length/\(c.when_.drop y.k).all Yr=c.when_.all Yr/\y.r=c.when_.length - y.k,⟨⟨0,c.when_.length,[],[],0,0,0,0⟩,⟨(by dsimp only; omega),rfl,rfl⟩,rfl,Zo E_ok _⟩,?_⟩;rintro y ⟨a7,J,a8⟩;refine aB (λa6=>⟨by omega,by omega,λw hw=>?_⟩) (λa6=>?_)
     ·have hw:c.when_[y.k]?=ae w:=hw
      rw[Zwn hw] at J;have hT:Yr w=decide (0<=w.attr/\w.attr<16/\0<=w.low/\w.low<=1099511627776/\0<=w.high/\w.high<=1099511627776):=rfl;refine⟨λb=>b=ac ↔ Yr w=ab,?_,λR=>?_,λR=>?_⟩
      ·have q1:(¬ (0<=w.attr/\w.attr<16/\0<=w.low/\w.low<=1099511627776/\0<=w.high/\w.high<=1099511627776))->((ac=ac) ↔ Yr w=ab):=λh=>by rw[hT,decide_eq_false h]; simp
       have q2:(0<=w.attr/\w.attr<16/\0<=w.low/\w.low<=1099511627776/\0<=w.high/\w.high<=1099511627776)->((ab=ac) ↔ Yr w=ab):=λh=>by rw[hT,decide_eq_true h]; simp
       refine aB (λU=>q1 (by omega)) (λU=>aB (λa2=>q1 (by omega)) (λa2=>aB (λa3=>q1 (by omega)) (λa3=>aB (λa4=>q1 (by omega)) (λa4=>q2 (by omega)))))
      ·have R:=R.1 rfl
       rw[R,eo] at J;rw[← I,if_neg (by unfold W5; rw[← J]; simp)]
      ·have R:Yr w=true:=by
         cases hh:Yr w with
         | true=>rfl
         | false=>have:=R.2 hh; simp at this
       rw[R,cx] at J;exact⟨⟨y.k+1,c.when_.length - (y.k+1),[],[],0,0,0,0⟩,⟨(by dsimp only; omega),J,rfl⟩,by show c.when_.length - (y.k+1)+1<=y.r; omega,wr64 (by omega) (by omega),Zo E_ok _⟩
     ·rw[Ut (by omega)] at J
      have a5:W5 c=true:=by unfold W5; rw[h5,h6,← J]; rfl
      rw[if_pos a5] at I;clear J a8 a6 a7 a5
      repeat' (first | (refine aB ?_ ?_) | (refine⟨x.m,rfl,hm,?_⟩) | (rintro _ rfl) | (intro h))
      all_goals first
        | omega
        | exact a0
        | (refine⟨⟨x.k+1,t.clauses.length - (x.k+1),_,_,putS x.m c.name ac⟩,⟨(by dsimp only; omega),Zbz hm a0,?_,rfl⟩,(by dsimp only; omega),⟨rfl,rfl,wr64 (by omega) (by omega)⟩,rfl,Zo E_ok _⟩
           rw[← I];dsimp only
           congr 1
           ·first | (simp only[*,eu,dK,dy,dV]; done) | (simp only[*,eu,dK,dy,dV]; rfl)
           ·first | (simp only[*,eu,dK,dy,dV]; done) | (simp only[*,eu,dK,dy,dV]; symm; simp only[bd,bG,decide_eq_true_eq,decide_eq_false_iff_not]; omega))
    ·rw[Ut (by omega)] at I
     rw[← I];unfold goC;refine aB (λU=>by rw[if_pos U]) (λU=>aB (λa2=>by rw[if_neg (by rw[U]; simp),if_pos a2]) (λa2=>by rw[if_neg (by rw[U]; simp),if_neg (by rw[a2]; simp)]))
   ·rw[decide_eq_false (show¬ 64<t.clauses.length by omega)]
    refine⟨λx=>x.k<=t.clauses.length/\(∀ p∈x.m,Byt p.1)/\goC x.a x.b x.m (t.clauses.drop x.k)=goC (resF t.name) ab [] t.clauses/\x.r=t.clauses.length - x.k,⟨⟨0,t.clauses.length,resF t.name,ab,[]⟩,⟨(by dsimp only; omega),by simp,rfl,rfl⟩,⟨rfl,rfl,rfl⟩,rfl⟩,?_⟩;rintro x ⟨hk,hm,I,hr⟩;refine aB (λhq=>⟨by omega,by omega,λc hc=>?_⟩) (λhq=>?_)
    ·have hc:t.clauses[x.k]?=ae c:=hc
     rw[Z0 hc,Zen] at I;have a1:=aI hc;obtain⟨b1,b2⟩:=b0 c a1;have a0:=a9.2 c a1;refine aB (λh5=>?_) (λh5=>⟨by omega,λh6=>?_,λh6=>?_⟩)
     ·rw[← I,if_neg (by unfold W5; rw[h5]; simp)]
     ·rw[← I,if_neg (by unfold W5; rw[h6]; simp)]
     refine⟨λy=>y.k<=c.when_.length/\(c.when_.drop y.k).all Yr=c.when_.all Yr/\y.r=c.when_.length - y.k,⟨⟨0,c.when_.length,[],[],0,0,0,0⟩,⟨(by dsimp only; omega),rfl,rfl⟩,rfl,Zo E_ok _⟩,?_⟩;rintro y ⟨a7,J,a8⟩;refine aB (λa6=>⟨by omega,by omega,λw hw=>?_⟩) (λa6=>?_)
     ·have hw:c.when_[y.k]?=ae w:=hw
      rw[Zwn hw] at J;have hT:Yr w=decide (0<=w.attr/\w.attr<16/\0<=w.low/\w.low<=1099511627776/\0<=w.high/\w.high<=1099511627776):=rfl;refine⟨λb=>b=ac ↔ Yr w=ab,?_,λR=>?_,λR=>?_⟩
      ·have q1:(¬ (0<=w.attr/\w.attr<16/\0<=w.low/\w.low<=1099511627776/\0<=w.high/\w.high<=1099511627776))->((ac=ac) ↔ Yr w=ab):=λh=>by rw[hT,decide_eq_false h]; simp
       have q2:(0<=w.attr/\w.attr<16/\0<=w.low/\w.low<=1099511627776/\0<=w.high/\w.high<=1099511627776)->((ab=ac) ↔ Yr w=ab):=λh=>by rw[hT,decide_eq_true h]; simp
       refine aB (λU=>q1 (by omega)) (λU=>aB (λa2=>q1 (by omega)) (λa2=>aB (λa3=>q1 (by omega)) (λa3=>aB (λa4=>q1 (by omega)) (λa4=>q2 (by omega)))))
      ·have R:=R.1 rfl
       rw[R,eo] at J;rw[← I,if_neg (by unfold W5; rw[← J]; simp)]
      ·have R:Yr w=true:=by
         cases hh:Yr w with
         | true=>rfl
         | false=>have:=R.2 hh; simp at this
       rw[R,cx] at J;exact⟨⟨y.k+1,c.when_.length - (y.k+1),[],[],0,0,0,0⟩,⟨(by dsimp only; omega),J,rfl⟩,by show c.when_.length - (y.k+1)+1<=y.r; omega,wr64 (by omega) (by omega),Zo E_ok _⟩
     ·rw[Ut (by omega)] at J
      have a5:W5 c=true:=by unfold W5; rw[h5,h6,← J]; rfl
      rw[if_pos a5] at I;clear J a8 a6 a7 a5
      repeat' (first | (refine aB ?_ ?_) | (refine⟨x.m,rfl,hm,?_⟩) | (rintro _ rfl) | (intro h))
      all_goals first
        | omega
        | exact a0
        | (refine⟨⟨x.k+1,t.clauses.length - (x.k+1),_,_,putS x.m c.name ac⟩,⟨(by dsimp only; omega),Zbz hm a0,?_,rfl⟩,(by dsimp only; omega),⟨rfl,rfl,wr64 (by omega) (by omega)⟩,rfl,Zo E_ok _⟩
           rw[← I];dsimp only
           congr 1
           ·first | (simp only[*,eu,dK,dy,dV]; done) | (simp only[*,eu,dK,dy,dV]; rfl)
           ·first | (simp only[*,eu,dK,dy,dV]; done) | (simp only[*,eu,dK,dy,dV]; symm; simp only[bd,bG,decide_eq_true_eq,decide_eq_false_iff_not]; omega))
    ·rw[Ut (by omega)] at I
     rw[← I];unfold goC;refine aB (λU=>by rw[if_pos U]) (λU=>aB (λa2=>by rw[if_neg (by rw[U]; simp),if_pos a2]) (λa2=>by rw[if_neg (by rw[U]; simp),if_neg (by rw[a2]; simp)]))
end
section
open Go
noncomputable def Z4h:Sum thy:=sumF E (λ_=>au) 10 (dA1 (dR .tariffs)) (λx=>(∀c∈ar x.1,c.pay.sz<1000000000000/\c.when_.length<1000000000000)/\(ar x.1).length<1000000000000) λx=> .int ab .i64 (Z9 x.1)
theorem Zp2:SumOk E 53 Z4h:=Z5e E_ok (Zc (f:=53) rfl) λx h=>Zk7 _ h.1 h.2
end
section
open Go
def boxV(b:Box):SV thy:= .agg (encF ab .boxes b)
def eqB(x y:Box):Prop:=ah x.low 0 0=ah y.low 0 0/\ah x.low 1 0=ah y.low 1 0/\ah x.low 2 0=ah y.low 2 0/\ah x.low 3 0=ah y.low 3 0/\ah x.low 4 0=ah y.low 4 0/\ah x.low 5 0=ah y.low 5 0/\ah x.low 6 0=ah y.low 6 0/\ah x.low 7 0=ah y.low 7 0/\ah x.low 8 0=ah y.low 8 0/\ah x.low 9 0=ah y.low 9 0/\ah x.low 10 0=ah y.low 10 0/\ah x.low 11 0=ah y.low 11 0/\ah x.low 12 0=ah y.low 12 0/\ah x.low 13 0=ah y.low 13 0/\ah x.low 14 0=ah y.low 14 0/\ah x.low 15 0=ah y.low 15 0/\ah x.high 0 0=ah y.high 0 0/\ah x.high 1 0=ah y.high 1 0/\ah x.high 2 0=ah y.high 2 0/\ah x.high 3 0=ah y.high 3 0/\ah x.high 4 0=ah y.high 4 0/\ah x.high 5 0=ah y.high 5 0/\ah x.high 6 0=ah y.high 6 0/\ah x.high 7 0=ah y.high 7 0/\ah x.high 8 0=ah y.high 8 0/\ah x.high 9 0=ah y.high 9 0/\ah x.high 10 0=ah y.high 10 0/\ah x.high 11 0=ah y.high 11 0/\ah x.high 12 0=ah y.high 12 0/\ah x.high 13 0=ah y.high 13 0/\ah x.high 14 0=ah y.high 14 0/\ah x.high 15 0=ah y.high 15 0/\True
theorem Xx(x:Box):eqB x x:=⟨rfl,rfl,rfl,rfl,rfl,rfl,rfl,rfl,rfl,rfl,rfl,rfl,rfl,rfl,rfl,rfl,rfl,rfl,rfl,rfl,rfl,rfl,rfl,rfl,rfl,rfl,rfl,rfl,rfl,rfl,rfl,rfl,trivial⟩
def Zlo(b c:Box):Box:=⟨(cK 16).map λi=>mm2 ac (b.low.getD i 0) (c.low.getD i 0),(cK 16).map λi=>mm2 ab (b.high.getD i 0) (c.high.getD i 0)⟩
def Zdh(b c:Box):Nat->Nat->Bool
 |0,_=>ac
 |n+1,i=>if mm2 ac (b.low.getD i 0) (c.low.getD i 0)<=mm2 ab (b.high.getD i 0) (c.high.getD i 0) then Zdh b c n (i+1) else ab
def mtC(b c z:Box) (e:Bool):Nat->Nat->Prop
 |0,_=>eqB (Zlo b c) z/\ac=e/\True
 |n+1,i=>(decide (mm2 ac (b.low.getD i 0) (c.low.getD i 0)<=mm2 ab (b.high.getD i 0) (c.high.getD i 0))=ac->mtC b c z e n (i+1))/\(decide (mm2 ac (b.low.getD i 0) (c.low.getD i 0)<=mm2 ab (b.high.getD i 0) (c.high.getD i 0))=ab->eqB (Zlo b c) z/\ab=e/\True)
theorem Z0p(b c:Box) (z:Box) (e:Bool):Zk E F0 (vc E F0 400) 118 [boxV b,boxV c] hp0 0 (λr=>ret E (patch hp0 0 r) r.v (.tup [boxV z,.bool ab e]))=mtC b c z e 16 0:=by kernel_rfl
theorem Ya9(b c:Box):∀(n i:Nat),mtC b c (Zlo b c) (Zdh b c n i) n i
 |0,_=>⟨Xx _,rfl,trivial⟩
 |n+1,i=>by
  unfold mtC Zdh
  refine aB (λh=> ?_) (λh=> ?_)
  ·rw[if_pos (of_decide_eq_true h)];exact Ya9 b c n (i+1)
  ·rw[if_neg (of_decide_eq_false h)];exact⟨Xx _,rfl,trivial⟩
theorem Z0q(b c:Box):PureC E 118 [boxV b,boxV c] (.tup [boxV (Zlo b c),.bool ab (Zdh b c 16 0)]):=by
 refine Za E_ok (Zd E_ok F0_ok 400) ?_;rw[Z0p];exact Ya9 b c 16 0
def allB:Box:=⟨aM 16 0,aM 16 9007199254740992⟩
theorem Z0r(z:Box):Zk E F0 (vc E F0 400) 116 [] hp0 0 (λr=>ret E (patch hp0 0 r) r.v (boxV z))=eqB allB z:=by kernel_rfl
theorem Z0s:PureC E 116 [] (boxV allB):=by
 refine Za E_ok (Zd E_ok F0_ok 400) ?_;rw[Z0r];exact Xx _
def cutF(b:Box) (t:Tst):Box:=⟨(cK 16).map λi=>if i=t.attr.toNat then mm2 ac (b.low.getD i 0) t.low else b.low.getD i 0,(cK 16).map λi=>if i=t.attr.toNat then mm2 ab (b.high.getD i 0) t.high else b.high.getD i 0⟩
theorem Z60(b:Box) (lo hi:Int) (z:Box):∀a:Nat,a<16->Zk E F0 (vc E F0 400) 117 [boxV b,.agg [.int ac .i64 (iu a),.int ab .i64 lo,.int ab .i64 hi]] hp0 0 (λr=>ret E (patch hp0 0 r) r.v (boxV z))=eqB (cutF b ⟨iu a,lo,hi⟩) z
 |0,_=>by kernel_rfl
 |1,_=>by kernel_rfl
 |2,_=>by kernel_rfl
 |3,_=>by kernel_rfl
 |4,_=>by kernel_rfl
 |5,_=>by kernel_rfl
 |6,_=>by kernel_rfl
 |7,_=>by kernel_rfl
 |8,_=>by kernel_rfl
 |9,_=>by kernel_rfl
 |10,_=>by kernel_rfl
 |11,_=>by kernel_rfl
 |12,_=>by kernel_rfl
 |13,_=>by kernel_rfl
 |14,_=>by kernel_rfl
 |15,_=>by kernel_rfl
 |a+16,h=>by omega
theorem Z61(b:Box) (t:Tst) (h0:0<=t.attr) (J:t.attr<16):PureC E 117 [boxV b,.agg (encF ab .tests t)] (boxV (cutF b t)):=by
 obtain⟨a,ha⟩:=Int.eq_ofNat_of_zero_le h0;have hp:PureC E 117 [boxV b,.agg [.int ac .i64 (iu a),.int ab .i64 t.low,.int ab .i64 t.high]] (boxV (cutF b ⟨iu a,t.low,t.high⟩)):=by
  refine Za E_ok (Zd E_ok F0_ok 400) ?_;rw[Z60 b t.low t.high _ a (by omega)];exact Xx _
 have e:t=⟨iu a,t.low,t.high⟩:=by cases t;simp at ha⊢;exact ha
 rw[e];intro g w a0 hI R;refine hp g w a0 hI ⟨R.1,λj sv u J U=> ?_⟩
 match j,J with
 |0,J=>cases J;exact R.2 0 _ u rfl U
 |1,J=>
  cases J;obtain⟨arr,c,rfl,hs,hc,hd⟩:=Ye (R.2 1 _ u rfl U);refine .agg c hs (λj I=>hc j I) (λj sv I=> ?_)
  match j,I with
  |0,I=>
   cases I;have:=hd 0 _ rfl;generalize c 0=v at this;cases this;exact .int _ _ _
  |1,I=>cases I;exact hd 1 _ rfl
  |2,I=>cases I;exact hd 2 _ rfl
end
section
open Go
noncomputable def Ydx:Sum thy:=Wf (.cons (dR .boxes) (.cons (dR .boxes) .nil)) (λ_=>True) (λx=>(Zlo x.1 x.2.1,Zdh x.1 x.2.1 16 0)) λy=> .tup [boxV y.1,.bool ab y.2]
theorem Zu5:SumOk E 118 Ydx:=Zy E_ok (Zc (f:=118) rfl) λx _=>Z0q x.1 x.2.1
noncomputable def Scut:Sum thy:=Wf (.cons (dR .boxes) (.cons (dR .tests) .nil)) (λx=>0<=x.2.1.attr/\x.2.1.attr<16) (λx=>cutF x.1 x.2.1) boxV
theorem Ydy:SumOk E 117 Scut:=Zy E_ok (Zc (f:=117) rfl) λx h=>Z61 x.1 x.2.1 h.1 h.2
noncomputable def Yii:Sum thy:=Wf (.nil (E:=E)) (λ_=>True) (λ_=>allB) boxV
theorem Z8j:SumOk E 116 Yii:=Zy E_ok (Zc (f:=116) rfl) λ_ _=>Z0s
def zB:Box:=⟨aM 16 0,aM 16 0⟩
def mkB(b:Box):Box:=⟨[ah b.low 0 0,ah b.low 1 0,ah b.low 2 0,ah b.low 3 0,ah b.low 4 0,ah b.low 5 0,ah b.low 6 0,ah b.low 7 0,ah b.low 8 0,ah b.low 9 0,ah b.low 10 0,ah b.low 11 0,ah b.low 12 0,ah b.low 13 0,ah b.low 14 0,ah b.low 15 0],[ah b.high 0 0,ah b.high 1 0,ah b.high 2 0,ah b.high 3 0,ah b.high 4 0,ah b.high 5 0,ah b.high 6 0,ah b.high 7 0,ah b.high 8 0,ah b.high 9 0,ah b.high 10 0,ah b.high 11 0,ah b.high 12 0,ah b.high 13 0,ah b.high 14 0,ah b.high 15 0]⟩
structure BxX where
 k:Nat
 r:Nat
 b:Box
def Aof:Fr thy->Hp thy->Nat->Ann thy:=λT h i=>{X:=BxX,fr:=λx=> [(2,T 2),(4,T 4),(11,T 11),(12,T 12),(13,.int ab .i64 x.k)],bl:=λx=>(bOf (T 4),.raw (encF ab .boxes x.b) 0 au)::blkP h (T 2),src:=λ_=> [],md:= [bOf (T 4),bOf (T 2)],ih:=i,M:=i+40,meas:=λx=>x.r}
noncomputable def Fof:Fns thy:=addL (addS (addS (addS F0 118 Ydx) 117 Scut) 116 Yii) 63 3 Aof E
theorem Yij:FnsOk E Fof:=Zm E_ok (Zb (Zb (Zb F0_ok Zu5) Ydy) Z8j) _ _ _
abbrev qBM1(I:Cls):=(↑(aa (aV I)):Int)
abbrev qBM2(I:BxX):=(↑(BxX.k I):Int)
theorem Z8k(c:Cls) (z:Box) (e:Bool):Zk E Fof (vc E Fof 400) 63 [.agg (encF ab .clauses c)] hp0 0 (λr=>ret E (patch hp0 0 r) r.v (.tup [boxV z,.bool ab e]))=(
 True/\∀(y:Box),y=allB->∃(R:BxX->Prop),(∃(x:BxX),R x/\ac=ac/\((0:Nat)=(0:Nat)/\(0:Nat)=(0:Nat)/\(aV c=aV c/\(ab=ac->ab=ac))/\(qBM1 c)=(qBM1 c)/\(0:Int)=(qBM2 x)/\True)/\(eqB y (BxX.b x))/\(eqB zB zB)/\True)/\∀(x:BxX),R x->(decide ((qBM2 x)<(qBM1 c))=ac->(0:Int)<=(qBM2 x)/\(qBM2 x)+(1:Int)<=(qBM1 c)/\∀(I:Tst),(aV c)[ag (qBM2 x)]? =ae I->∃(Q:Bool->Prop),((decide (dP I<(0:Int))=ac->Q ac)/\(decide (dP I<(0:Int))=ab->(decide (dP I>=(16:Int))=ac->Q ac)/\(decide (dP I>=(16:Int))=ab->Q ab)))/\(Q ac->(eqB zB z)/\ab=e/\True)/\(Q ab->((0:Int)<=dP I/\dP I+(1:Int)<=(16:Int))/\∀(y:Box),y=cutF (mkB (BxX.b x)) I->∃(J:BxX),R J/\J.2+(1:Nat)<=x.2/\ac=ac/\((0:Nat)=(0:Nat)/\(0:Nat)=(0:Nat)/\(aV c=aV c/\(ab=ac->ab=ac))/\(qBM1 c)=(qBM1 c)/\wr af ((qBM2 x)+(1:Int))=(qBM2 J)/\True)/\(eqB y (BxX.b J))/\(eqB zB zB)/\True))/\(decide ((qBM2 x)<(qBM1 c))=ab->True/\∀(y:Box×Bool),y=(Zlo (mkB (BxX.b x)) (mkB (BxX.b x)),Zdh (mkB (BxX.b x)) (mkB (BxX.b x)) (16:Nat) (0:Nat))->(aE y=ac->(eqB (ao y) z)/\ac=e/\True)/\(aE y=ab->(eqB zB z)/\ab=e/\True))):=by kernel_rfl
def ofL:List Tst->Box->Option Box
 | [],b=>ae b
 |t::r,b=>if t.attr<0\/16<=t.attr then au else ofL r (cutF b t)
def ofE(o:Option Box):Box×Bool:=o.elim (zB,ab) λb=>if Zdh b b 16 0=ac then(Zlo b b,ac) else(zB,ab)
def ofF(c:Cls):Box×Bool:=ofE (ofL c.when_ allB)
theorem Zo7{α:Type} {l:List α} {q:Nat} {y:α} (h:l[q]? =ae y):l.drop q=y::l.drop (q+1):=by
 have I:=(ak.1 h).1;rw[cr I];congr 1;rw[ai I] at h;exact aZ h
theorem Ydz(c:Cls) (hl:c.when_.length<1000000000):PureC E 63 [.agg (encF ab .clauses c)] (.tup [boxV (ofF c).1,.bool ab (ofF c).2]):=by
 refine Za E_ok (Zd E_ok Yij 400) ?_;rw[Z8k];delta qBM1 qBM2;refine⟨trivial,λy hy=>⟨λx=>x.k+x.r=c.when_.length/\mkB x.b=x.b/\ofL (c.when_.drop x.k) x.b=ofL c.when_ allB,⟨⟨0,c.when_.length,allB⟩,⟨bk _,rfl,rfl⟩,rfl,⟨rfl,rfl,⟨rfl,id⟩,rfl,rfl,trivial⟩,by rw[hy];exact Xx _,Xx _,trivial⟩,?_⟩⟩;rintro x ⟨h1,h2,I⟩;refine aB (λJ=> ?_) (λJ=> ?_)
 ·have J:=of_decide_eq_true J
  refine⟨by omega,by omega,λt ht=> ?_⟩;rw[bt] at ht;rw[Zo7 ht,ofL] at I;refine⟨λb=>b=ac↔(t.attr<0\/16<=t.attr),⟨λh=>⟨λ_=>Or.inl (of_decide_eq_true h),λ_=>rfl⟩,λh=>⟨λR=>⟨λ_=>Or.inr (of_decide_eq_true R),λ_=>rfl⟩,λR=>⟨(λe=>by cases e),λe=>by have:=of_decide_eq_false h;have:=of_decide_eq_false R;omega⟩⟩⟩,λU=> ?_,λU=> ?_⟩
  ·rw[if_pos (U.1 rfl)] at I
   have e:ofF c=(zB,ab):=by unfold ofF;rw[<-I];rfl
   rw[e];exact⟨Xx _,rfl,trivial⟩
  ·have hn:¬(t.attr<0\/16<=t.attr):=λh=>by have:=U.2 h;cases this
   rw[if_neg hn] at I;rw[h2];exact⟨by omega,λz hz=>⟨⟨x.k+1,x.r-1,z⟩,⟨by show x.k+1+(x.r-1)=_;omega,by rw[hz];rfl,by rw[hz];exact I⟩,by show x.r-1+1<=x.r;omega,rfl,⟨rfl,rfl,⟨rfl,id⟩,rfl,wr64 (by omega) (by omega),trivial⟩,Xx _,Xx _,trivial⟩⟩
 ·have J:=of_decide_eq_false J
  rw[gu (by omega),ofL] at I;have e:ofF c=if Zdh x.b x.b 16 0=ac then(Zlo x.b x.b,ac) else(zB,ab):=by unfold ofF;rw[<-I];rfl
  rw[h2,e];refine⟨trivial,λy hy=> ?_⟩;rw[hy];refine aB (λh=> ?_) (λh=> ?_)
  ·rw[if_pos h];exact⟨Xx _,rfl,trivial⟩
  ·have h:Zdh x.b x.b 16 0=false:=h
   rw[if_neg (by rw[h];simp)];exact⟨Xx _,rfl,trivial⟩
noncomputable def SofB:Sum thy:=Wf (.cons (dR .clauses) .nil) (λx=>x.1.when_.length<1000000000) (λx=>ofF x.1) λy=> .tup [boxV y.1,.bool ab y.2]
theorem Yd0:SumOk E 63 SofB:=Zy E_ok (Zc (f:=63) rfl) λx h=>Ydz x.1 h
structure OvX where
 k:Nat
 r:Nat
 L:List Box
 M:List Bool
def Ack1:Fr thy->Hp thy->Nat->Ann thy:=λT h i=>{X:=OvX,fr:=λx=> [(1,T 1),(12,T 12),(13,T 13),(14,.int ab .i64 x.k)],bl:=λx=>blkP h (T 1),src:=λ_=> [],md:= [],ih:=i,M:=i+40,meas:=λx=>x.r}
def Aov1:Fr thy->Hp thy->Nat->Ann thy:=λT h i=>{X:=OvX,fr:=λx=> [(4,T 4),(6,T 6),(7,T 7),(23,T 23),(24,T 24),(25,.int ab .i64 x.k)],bl:=λx=>(bOf (T 6),.rows Th.boxes x.L 0)::(bOf (T 7),.rows bH x.M 0)::blkP h (T 4),src:=λ_=> [],md:= [bOf (T 6),bOf (T 7)],ih:=i,M:=i+40,meas:=λx=>x.r}
def Aov2:Fr thy->Hp thy->Nat->Ann thy:=λT h i=>{X:=OvX,fr:=λx=> [(4,T 4),(6,T 6),(7,T 7),(43,T 43),(44,.int ab .i64 x.k)],bl:=λx=>blkS h (T 6)++(blkS h (T 7)++blkP h (T 4)),src:=λ_=> [],md:= [bOf (T 4)],ih:=i,M:=i+60,meas:=λx=>x.r}
def Aov3:Fr thy->Hp thy->Nat->Ann thy:=λT h i=>{X:=OvX,fr:=λx=> [(4,T 4),(6,T 6),(7,T 7),(10,T 10),(43,T 43),(44,T 44),(11,.int ab .i64 x.k)],bl:=λx=>blkS h (T 6)++(blkS h (T 7)++blkP h (T 4)),src:=λ_=> [],md:= [bOf (T 4)],ih:=i,M:=i+40,meas:=λx=>x.r}
noncomputable def Fckb:Fns thy:=addL (addL (addL (addL (addS (addS F0 118 Ydx) 63 SofB) 26 2 Ack1 E) 64 4 Aov1 E) 64 9 Aov2 E) 64 12 Aov3 E
theorem Yd1:FnsOk E Fckb:=Zm E_ok (Zm E_ok (Zm E_ok (Zm E_ok (Zb (Zb F0_ok Zu5) Yd0) _ _ _) _ _ _) _ _ _) _ _ _
abbrev Un(t:Tar):Prop:=
 (0:Nat)=(0:Nat)/\ag (↑(aa (ar t)):Int)=ag (↑(aa (ar t)):Int)/\ag (↑(aa (ar t)):Int)=
 ag (↑(aa (ar t)):Int)
abbrev Zh4:Prop:=
 (0:Int)=(0:Int)/\(0:Int)=(0:Int)/\(0:Int)=(0:Int)/\(0:Int)=(0:Int)/\(0:Int)=(0:Int)/\(0:Int)=(0:Int)/\(0:Int)=(0:Int)/\(0:Int)
 =(0:Int)/\(0:Int)=(0:Int)/\(0:Int)=(0:Int)/\(0:Int)=(0:Int)/\(0:Int)=(0:Int)/\(0:Int)=(0:Int)/\(0:Int)=(0:Int)/\(0:Int)=(0:
 Int)/\(0:Int)=(0:Int)/\(0:Int)=(0:Int)/\True
abbrev Zh5(t:Tar):Prop:=
 ar t=ar t/\(ab=ac->ab=ac)
abbrev Z2m(I:Cls):=
 (eP (aP I) (aV I) (bU (aJ (aA I)) (bW (aA I)) (bx (aA I)) (bA (aA I)) (bB (aA I)) (bC (aA I))
 (bw (aA I))))
abbrev Zo8(x:OvX) (t:Tar):Prop:=
 (↑(OvX.k x):Int)<(↑(aa (ar t)):Int)
abbrev Z2n(x:OvX) (t:Tar):Prop:=
 (0:Int)<=(↑(OvX.k x):Int)/\(↑(OvX.k x):Int)+(1:Int)<=(↑(ag (↑(aa (ar t)):Int)):Int)
abbrev Z2o(I:OvX) (t:Tar):Prop:=
 (0:Int)<=(↑(OvX.k I):Int)/\(↑(OvX.k I):Int)+(1:Int)<=(↑(ag (↑(aa (ar t)):Int)):Int)
abbrev Z2p(I:OvX) (t:Tar):Prop:=
 (0:Int)<=(↑(OvX.k I):Int)/\(↑(OvX.k I):Int)+(1:Int)<=(↑(ag (↑(aa (ar t)):Int)):Int)
abbrev qBM3(I:Tar):=(↑(aa (ar I)):Int)
abbrev qBM4(I:OvX):=(↑(OvX.k I):Int)
abbrev qBM5:=(0:Nat)
abbrev qBM6(I:Tar):=(↑(ag (qBM3 I)):Int)
abbrev qBM7:=(1:Nat)
abbrev qBM8(I:OvX):=(OvX.L I=OvX.L I/\qBM5=qBM5)
abbrev qBM9(I:OvX):=(OvX.M I=OvX.M I/\qBM5=qBM5)
theorem Z8l(t:Tar) (e:Int):Zk E Fckb (vc E Fckb 400) 26 [.agg (encF ab .tariffs t)] hp0 0 (λr=>ret E (patch hp0 0 r) r.v (.int ab .i64 e))=(
 ∃(R:OvX->Prop),(∃(x:OvX),R x/\ac=ac/\(qBM5=qBM5/\(Zh5 t)/\(qBM3 t)=(qBM3 t)/\(0:Int)=(qBM4 x)/\True)/\(bN t=bN t/\bI t=bI t/\(Zh5 t)/\True)/\True)/\∀(x:OvX),R x->(decide (Zo8 x t)=ac->(0:Int)<=(qBM4 x)/\(qBM4 x)+(1:Int)<=(qBM3 t)/\∀(I:Cls),(ar t)[ag (qBM4 x)]? =ae I->aa (aV I)+qBM7<=(1000000000:Nat)/\∀(y:Box×Bool),y=ofF (Z2m I)->((!aE y)=ac->(190:Int)=e)/\((!aE y)=ab->∃(J:OvX),R J/\J.2+qBM7<=x.2/\ac=ac/\(qBM5=qBM5/\(Zh5 t)/\(qBM3 t)=(qBM3 t)/\wr af ((qBM4 x)+(1:Int))=(qBM4 J)/\True)/\(bN t=bN t/\bI t=bI t/\(Zh5 t)/\True)/\True))/\(decide (Zo8 x t)=ab->(0:Int)<=(qBM3 t)/\(qBM3 t)<=(qBM3 t)/\(↑(256:Nat):Int)*(qBM3 t)<=(281474976710656:Int)/\(0:Int)<=(qBM3 t)/\(qBM3 t)<=(qBM3 t)/\(↑qBM7:Int)*(qBM3 t)<=(281474976710656:Int)/\∃(R:OvX->Prop),(∃(x:OvX),R x/\ac=ac/\(qBM5=qBM5/\(Un t)/\(Un t)/\(Zh5 t)/\(qBM3 t)=(qBM3 t)/\(0:Int)=(qBM4 x)/\True)/\(aM (ag (qBM3 t)) (zB)=OvX.L x/\qBM5=qBM5)/\(aM (ag (qBM3 t)) ab=OvX.M x/\qBM5=qBM5)/\(Zh4)/\True)/\∀(x:OvX),R x->(decide (Zo8 x t)=ac->(0:Int)<=(qBM4 x)/\(qBM4 x)+(1:Int)<=(qBM3 t)/\∀(I:Cls),(ar t)[ag (qBM4 x)]? =ae I->aa (aV I)+qBM7<=(1000000000:Nat)/\∀(y:Box×Bool),y=ofF (Z2m I)->(Z2n x t)/\qBM5<=qBM5+ag (qBM4 x)/\qBM5+ag (qBM4 x)+qBM7<=aa (OvX.L x)/\∀(J:Box),(OvX.L x)[qBM5+ag (qBM4 x)]? =ae J->(Z2n x t)/\qBM5<=qBM5+ag (qBM4 x)/\qBM5+ag (qBM4 x)+qBM7<=aa (OvX.M x)/\∀(U:Bool),(OvX.M x)[qBM5+ag (qBM4 x)]? =ae U->∃(a0:OvX),R a0/\a0.2+qBM7<=x.2/\ac=ac/\(qBM5=qBM5/\(Un t)/\(Un t)/\(Zh5 t)/\(qBM3 t)=(qBM3 t)/\wr af ((qBM4 x)+(1:Int))=(qBM4 a0)/\True)/\(dp (OvX.L x) (qBM5+ag (qBM4 x)) (mkB (ao y))=OvX.L a0/\qBM5=qBM5)/\(dp (OvX.M x) (qBM5+ag (qBM4 x)) (aE y)=OvX.M a0/\qBM5=qBM5)/\(Zh4)/\True)/\(decide (Zo8 x t)=ab->∃(R:OvX->Prop),(∃(I:OvX),R I/\ac=ac/\(qBM5=qBM5/\(Un t)/\(Un t)/\(qBM6 t)=(qBM6 t)/\(0:Int)=(qBM4 I)/\True)/\(qBM8 x)/\(qBM9 x)/\(Zh4)/\True)/\∀(I:OvX),R I->(decide ((qBM4 I)<(qBM6 t))=ac->∃(a2:OvX->Prop),(∃(J:OvX),a2 J/\ac=ac/\(qBM5=qBM5/\(Un t)/\(Un t)/\(qBM4 I)=(qBM4 I)/\(qBM6 t)=(qBM6 t)/\(qBM4 I)=(qBM4 I)/\wr af ((qBM4 I)+(1:Int))=(qBM4 J)/\True)/\(qBM8 x)/\(qBM9 x)/\(Zh4)/\True)/\∀(J:OvX),a2 J->(decide ((qBM4 J)<(qBM6 t))=ac->(Z2o I t)/\qBM5+ag (qBM4 I)+qBM7<=aa (OvX.L x)/\∀(U:Box),(OvX.L x)[qBM5+ag (qBM4 I)]? =ae U->(Z2p J t)/\qBM5+ag (qBM4 J)+qBM7<=aa (OvX.L x)/\∀(a0:Box),(OvX.L x)[qBM5+ag (qBM4 J)]? =ae a0->True/\∀(y:Box×Bool),y=(Zlo (mkB U) (mkB a0),Zdh (mkB U) (mkB a0) (16:Nat) qBM5)->∃(Q:Bool->Prop),((aE y=ac->(Z2o I t)/\qBM5+ag (qBM4 I)+qBM7<=aa (OvX.M x)/\∀(a1:Bool),(OvX.M x)[qBM5+ag (qBM4 I)]? =ae a1->(a1=ac->(Z2p J t)/\qBM5+ag (qBM4 J)+qBM7<=aa (OvX.M x)/\∀(a3:Bool),(OvX.M x)[qBM5+ag (qBM4 J)]? =ae a3->Q a3)/\(a1=ab->Q ab))/\(aE y=ab->Q ab))/\(Q ac->(190:Int)=e)/\(Q ab->∃(a1:OvX),a2 a1/\a1.2+qBM7<=J.2/\ac=ac/\(qBM5=qBM5/\(Un t)/\(Un t)/\(qBM4 I)=
(qBM4 I)/\(qBM6 t)=(qBM6 t)/\(qBM4 I)=(qBM4 I)/\wr af ((qBM4 J)+(1:Int))=(qBM4 a1)/\True)/\(qBM8 x)/\(qBM9 x)/\(Zh4)/\True))/\(decide ((qBM4 J)<(qBM6 t))=ab->∃(U:OvX),R U/\U.2+qBM7<=I.2/\ac=ac/\(qBM5=qBM5/\(Un t)/\(Un t)/\(qBM6 t)=(qBM6 t)/\wr af ((qBM4 I)+(1:Int))=(qBM4 U)/\True)/\(qBM8 x)/\(qBM9 x)/\(Zh4)/\True))/\(decide ((qBM4 I)<(qBM6 t))=ab->(0:Int)=e)))):=by kernel_rfl
def ovJ(p:Box×Bool):List (Box×Bool)->Bool
 | []=>ab
 |q::r=>if Zdh p.1 q.1 16 0=ac/\p.2=ac/\q.2=ac then ac else ovJ p r
def ovL:List (Box×Bool)->Bool
 | []=>ab
 |p::r=>if ovJ p r=ac then ac else ovL r
def chkB(t:Tar):Int:=if(t.clauses.all λc=>(ofF c).2)=ab then 190 else if ovL (t.clauses.map ofF)=ac then 190 else 0
theorem Z2q(c:Cls):mkB (ofF c).1=(ofF c).1:=by
 unfold ofF ofE;cases ofL c.when_ allB with
 |none=>rfl
 |some b=>
  simp only[Option.elim_some];split<;>rfl
theorem Z8m(t:Tar) (hw:∀c∈t.clauses,c.when_.length<1000000000) (hl:t.clauses.length<1000000000):PureC E 26 [.agg (encF ab .tariffs t)] (.int ab .i64 (chkB t)):=by
 refine Za E_ok (Zd E_ok Yd1 400) ?_;rw[Z8l];delta qBM3 qBM4 qBM5 qBM6 qBM7 qBM8 qBM9;unfold Z2p Z2o Z2n Zo8 Z2m Zh5 Zh4 Un
 simp only[Yf,Z6,Wg,Wh,Wi,beq_iff_eq,bne_iff_ne,beq_eq_false_iff_ne,bne_eq_false_iff_eq,decide_eq_true_eq,decide_eq_false_iff_not,bd,bG,bi,cd,aq,cG,cx,bm,beq_self_eq_true,ne_eq,and_true,true_and,aS,aO,false_or,or_false,true_implies,imp_self,bX,not_true_eq_false,not_false_eq_true,bJ,bt,bk,Ex.eta];generalize a3:t.clauses=cs at*
 have hS:chkB t=if(cs.all λc=>(ofF c).2)=ab then 190 else if ovL (cs.map ofF)=ac then 190 else 0:=by unfold chkB;rw[a3]
 rw[hS];clear hS a3;refine⟨λx=>x.k+x.r=cs.length/\∀c∈cs.take x.k,(ofF c).2=ac,⟨⟨0,cs.length,[],[]⟩,⟨bk _,by simp⟩,rfl⟩,?_⟩;rintro x ⟨U,I⟩;refine aB (λhk=>⟨by omega,by omega,λc hc=>⟨by have:=hw c (aI hc);omega,λy R=>aB (λJ=> ?_) (λJ=> ?_)⟩⟩) (λhk=> ?_)
 ·rw[if_pos]
  refine List.all_eq_false.2 ⟨c,aI hc,?_⟩;have R:y=ofF c:=R;rw[<-R,J];simp
 ·refine⟨⟨x.k+1,x.r-1,[],[]⟩,⟨by show x.k+1+(x.r-1)=_;omega,?_⟩,by show x.r-1+1<=x.r;omega,wr64 (by omega) (by omega)⟩
  intro d hd;rw[show(⟨x.k+1,x.r-1,[],[]⟩:OvX).k=x.k+1 from rfl,List.take_add_one,hc,List.mem_append] at hd;rcases hd with hd|hd
  ·exact I d hd
  ·rw[bZ.1 hd]
   have R:y=ofF c:=R;rw[<-R];exact J
 ·rw[List.take_of_length_le (by omega)] at I
  have a1:¬(cs.all λc=>(ofF c).2)=false:=by
   rw[Bool.not_eq_false];exact fB.2 λc hc=>I c hc
  rw[if_neg a1];clear hk U I x a1;refine⟨by omega,by omega,by omega,by omega,by omega,by omega,?_⟩;refine⟨λx=>x.k+x.r=cs.length/\x.L.length=cs.length/\x.M.length=cs.length/\∀j,j<x.k->x.L[j]? =(cs[j]?).map (λc=>(ofF c).1)/\x.M[j]? =(cs[j]?).map (λc=>(ofF c).2),⟨⟨0,cs.length,aM cs.length zB,aM cs.length ab⟩,⟨bk _,by simp,by simp,λj hj=>by cases hj⟩,rfl,rfl,rfl⟩,?_⟩;rintro x ⟨U,I,J,h4⟩;refine aB (λhk=>⟨by omega,by omega,λc hc=>⟨by have:=hw c (aI hc);omega,λy R=> ?_⟩⟩) (λhk=> ?_)
  ·have R:y=ofF c:=R
   refine⟨⟨by omega,by omega⟩,bb _,by omega,λ_ _=>⟨⟨by omega,by omega⟩,bb _,by omega,λ_ _=>⟨⟨x.k+1,x.r-1,x.L.set x.k (mkB y.1),x.M.set x.k y.2⟩,⟨by show x.k+1+(x.r-1)=_;omega,by simp[I],by simp[J],?_⟩,by show x.r-1+1<=x.r;omega,wr64 (by omega) (by omega),rfl,rfl⟩⟩⟩;intro j hj;have hj:j<x.k+1:=hj;show(x.L.set x.k (mkB y.1))[j]? =_/\(x.M.set x.k y.2)[j]? =_;rw[jE,jE];by_cases e:x.k=j
   ·subst e
    rw[if_pos rfl,if_pos rfl,if_pos (by omega),if_pos (by omega),hc,R,Z2q];exact⟨rfl,rfl⟩
   ·rw[if_neg e,if_neg e]
    exact h4 j (by omega)
  ·have eL:x.L=cs.map λc=>(ofF c).1:=jF λj=>by
    rw[bp];rcases fp j cs.length with h|h
    ·exact(h4 j (by omega)).1
    ·rw[eg (by omega),eg (by omega)];rfl
   have eM:x.M=cs.map λc=>(ofF c).2:=jF λj=>by
    rw[bp];rcases fp j cs.length with h|h
    ·exact(h4 j (by omega)).2
    ·rw[eg (by omega),eg (by omega)];rfl
   rw[eL,eM];clear eL eM U I J h4 hk x;have gL:∀{j:Nat} {b:Box},(cs.map λc=>(ofF c).1)[j]? =ae b->∃c,cs[j]? =ae c/\b=(ofF c).1:=λh=>by
    rw[bp] at h;obtain⟨c,U,I⟩:=bj.1 h;exact⟨c,U,I.symm⟩
   have gM:∀{j:Nat} {b:Bool},(cs.map λc=>(ofF c).2)[j]? =ae b->∃c,cs[j]? =ae c/\b=(ofF c).2:=λh=>by
    rw[bp] at h;obtain⟨c,U,I⟩:=bj.1 h;exact⟨c,U,I.symm⟩
   have gP:∀{j:Nat} {c:Cls},cs[j]? =ae c->(cs.map ofF).drop j=ofF c::(cs.map ofF).drop (j+1):=λh=>Zo7 (by rw[bp,h];rfl);refine⟨λx=>x.k+x.r=cs.length/\ovL ((cs.map ofF).drop x.k)=ovL (cs.map ofF),⟨⟨0,cs.length,[],[]⟩,⟨bk _,rfl⟩,rfl⟩,?_⟩;rintro x ⟨U,I⟩;refine aB (λhk=> ?_) (λhk=> ?_)
   ·obtain⟨ci,a0⟩:∃c,cs[x.k]? =ae c:=⟨_,ai (by omega)⟩
    rw[gP a0,ovL] at I;refine⟨λy=>y.k+y.r=cs.length/\ovJ (ofF ci) ((cs.map ofF).drop y.k)=ovJ (ofF ci) ((cs.map ofF).drop (x.k+1)),⟨⟨x.k+1,x.r-1,[],[]⟩,⟨by show x.k+1+(x.r-1)=_;omega,rfl⟩,wr64 (by omega) (by omega)⟩,?_⟩;rintro y ⟨k1,k2⟩;refine aB (λa9=> ?_) (λa9=> ?_)
    ·refine⟨⟨by omega,by omega⟩,by simp;omega,λb1 a4=>⟨⟨by omega,by omega⟩,by simp;omega,λb2 a5=> ?_⟩⟩
     obtain⟨c1,a6,rfl⟩:=gL a4;obtain⟨c2,a2,rfl⟩:=gL a5;obtain rfl:=aZ (a0.symm.trans a6);rw[gP a2,ovJ] at k2;rw[Z2q,Z2q];intro z hz;refine⟨λb=>b=ac↔(Zdh (ofF ci).1 (ofF c2).1 16 0=ac/\(ofF ci).2=ac/\(ofF c2).2=ac),⟨λJ=>⟨⟨by omega,by omega⟩,by simp;omega,λm1 b0=> ?_⟩,λJ=> ?_⟩,λhq=> ?_,λhq=> ?_⟩
     ·obtain⟨d1,a7,rfl⟩:=gM b0
      obtain rfl:=aZ (a0.symm.trans a7);have J:Zdh (ofF ci).1 (ofF c2).1 16 0=true:=by rw[hz] at J;exact J
      refine aB (λh4=>⟨⟨by omega,by omega⟩,by simp;omega,λm2 b3=> ?_⟩) (λh4=> ?_)
      ·obtain⟨d2,a8,rfl⟩:=gM b3
       obtain rfl:=aZ (a2.symm.trans a8);exact⟨λh=>⟨J,h4,h⟩,λh=>h.2.2⟩
      ·exact⟨(λh=>by cases h),λh=>by rw[h4] at h;cases h.2.1⟩
     ·have J:Zdh (ofF ci).1 (ofF c2).1 16 0=false:=by rw[hz] at J;exact J
      exact⟨(λh=>by cases h),λh=>by rw[J] at h;cases h.1⟩
     ·rw[if_pos (hq.1 rfl)] at k2
      rw[if_pos k2.symm] at I;rw[if_pos I.symm]
     ·rw[if_neg (λh=>by have:=hq.2 h;cases this)] at k2
      exact⟨⟨y.k+1,y.r-1,[],[]⟩,⟨by show y.k+1+(y.r-1)=_;omega,k2⟩,by show y.r-1+1<=y.r;omega,wr64 (by omega) (by omega)⟩
    ·rw[gu (by simp;omega),ovJ] at k2
     rw[if_neg (by rw[<-k2];simp)] at I;exact⟨⟨x.k+1,x.r-1,[],[]⟩,⟨by show x.k+1+(x.r-1)=_;omega,I⟩,by show x.r-1+1<=x.r;omega,wr64 (by omega) (by omega)⟩
   ·rw[gu (by simp;omega),ovL] at I
    rw[if_neg (by rw[<-I];simp)]
end
section
open Go.RowKit
section
variable {Y:Thy} {E:Eng Y}
def one(cs:List (SV Y)):Hp Y:=λb=>match aK b 0 with|true=>ae (.raw cs 0 au)|false=>au
theorem Z4w(cs:List (SV Y)):one cs 0=ae (.raw cs 0 au):=rfl
theorem Zef{cs:List (SV Y)} {b:Nat} (h:one cs b≠au):b=0:=by
 cases b with
 |zero=>rfl
 |succ b=>exact absurd rfl h
theorem U1{cs:List (SV Y)} {b:Nat} {x:Blk Y} (h:one cs b=ae x):b=0/\x= .raw cs 0 none:=by
 have:=Zef (cs:=cs) (b:=b) (by rw[h];simp);subst this;rw[Z4w] at h;cases h;exact⟨rfl,rfl⟩
theorem Yfq(cs:List (SV Y)):DomLt (one cs) 1:=λb I=>by have:=Zef I;omega
def σ1(p:Nat×Nat):Pl:=λb=>match aK b 0 with|true=>ae p|false=>au
theorem σ1_some{p q:Nat×Nat} {b:Nat} (h:σ1 p b=ae q):b=0/\q=p:=by
 cases b with
 |zero=>cases h;exact⟨rfl,rfl⟩
 |succ b=>cases h
def mutR(v:SV Y) (cs:List (SV Y)):Res Y:=⟨v,0,[0],at1 0 (ae (.raw cs 0 au)),au⟩
def panR(p:Value):Res Y:=⟨.pan p,0,[0],λ_=>au,au⟩
theorem Zyt(cs cs':List (SV Y)) (v:SV Y):patch (one cs) 1 (mutR v cs')=one cs':=by
 funext b;rw[Zp];cases b with
 |zero=>simp[mutR,at1,one]
 |succ b=>
  rw[if_neg (by simp[mutR])];rfl
theorem Zyu(cs:List (SV Y)) (p:Value):patch (one cs) 1 (panR p)=λ_=>none:=by
 funext b;rw[Zp];cases b with
 |zero=>simp[panR]
 |succ b=>
  rw[if_neg (by simp[panR])];rfl
def MutC(E:Eng Y) (f:FuncId) (cs rest:List (SV Y)) (v:SV Y) (I:List (SV Y)):Prop:=Va E f (.ptr 0 0::rest) (one cs) 1 (mutR v I)
def MutP(E:Eng Y) (f:FuncId) (cs rest:List (SV Y)) (p:Value):Prop:=Zsh E f (.ptr 0 0::rest) (one cs) 1 (panR p)
theorem Zs9(hE:EngOk E) {B:Nat} {σ:Pl} {h:Hp Y} {g:GH} {w:World} {b r z:Nat} {cs R:List (SV Y)} {tg:Option Y.Th} (I:Inv E B σ h g w) (hb:h b=ae (.raw cs 0 tg)) (a0:σ b=ae (r,z)) (a4:cs.length=R.length) (hn:nidL 0 R=ac)
 (a3:∀σ g (j:Nat) a1,R[j]? =ae a1->∃sv,cs[j]? =ae sv/\∀u,Den E σ g sv u->Den E σ g a1 u):Inv E B (σ1 (r,z)) (one R) g w:=by
 refine⟨I.gc,I.gm,λx y hx=> ?_,λx x' r z z' h1 U _ _=> ?_,λx r' z' J=> ?_,λx y r' z' o v hx J hv=> ?_,λx y r' z' hx J=> ?_,I.glob⟩
 ·obtain⟨rfl,rfl⟩:=U1 hx
  refine⟨r,z,rfl,?_⟩
  obtain⟨r',z',a2,arr,e,k1,k2,k3,k4,k5⟩:=I.blk b _ hb
  rw[a0] at a2;cases a2
  refine⟨arr,e,k1,k2,?_,λj a1 hj=> ?_,trivial⟩
  ·simp only[Blk.cells] at k3⊢;omega
  ·obtain⟨sv,h1,U⟩:=a3 σ g j a1 hj
   obtain⟨v,m1,m2⟩:=k4 j sv h1
   exact⟨v,m1,Zw hE (U v m2) (λb p hb=>by omega) (Zs hn hj)⟩
 ·rw[Zef h1,Zef U]
 ·obtain⟨rfl,e⟩:=σ1_some J
  cases e
  exact I.base b _ _ a0
 ·obtain⟨rfl,e⟩:=σ1_some J
  obtain⟨_,rfl⟩:=U1 hx
  cases e
  have U:o<0:=I.fz b (.raw cs 0 tg) _ _ o v hb a0 hv
  omega
 ·obtain⟨rfl,e⟩:=σ1_some J
  cases e
  exact I.fm b _ _ _ hb a0
def rawO:Option (List (SV Y))->Option (Blk Y)
 |some c=>ae (.raw c 0 au)
 |none=>au
theorem Uc(hE:EngOk E) {B:Nat} {σ σ':Pl} {h:Hp Y} {g g':GH} {w w':World} {b i r z:Nat} {cs:List (SV Y)} {fz:Nat} {tg:Option Y.Th} {x':Option (List (SV Y))} (hI:Inv E B σ h g w) (hb:h b=ae (.raw cs fz tg)) (a1:σ b=ae (r,z)) {v v0:SV Y} {h0:Hp Y}
 {a8:Pl} {m0:Nat} (a9:a8 0=ae (r,z)) (U:Stp m0 0 [0] a8 g w σ' g' w') (a0:Inv E B σ' h0 g' w') (a5:∀c,x'=ae c->h0 0=ae (.raw c 0 au)) (hn:∀c,x'=ae c->nidL 0 c=ac):
 Stp i 0 [b] σ g w σ g' w'/\Inv E B σ (patch h i ⟨v,0,[b],at1 b (rawO x'),au⟩) g' w':=by
 have a6:σ' 0=ae (r,z):=U.sig 0 _ a9
 have a7:∀b'∈ [0],∀q I,a8 b'=ae (q,I)->b'=0/\(q,I)=(r,z):=by
  intro b' a2 q I a3
  rw[bZ] at a2
  subst a2
  rw[a9] at a3
  exact⟨rfl,(aZ a3).symm⟩
 have b0:∀q,q<w.heap.size->q≠r->w'.heap[q]? =w.heap[q]? :=by
  intro q hq b3
  refine U.heap q hq λb' a2 I a3=> ?_
  obtain⟨_,e⟩:=a7 b' a2 q I a3
  cases e
  exact b3 rfl
 have b4:∀x,patch h i ⟨v,0,[b],at1 b (rawO x'),au⟩ x=if x=b then(rawO x') else h x:=by
  intro x
  rw[Zp]
  by_cases e:x=b
  ·subst e
   rw[if_pos (.inl (by show x∈ [x];simp)),if_pos rfl]
   show at1 x _ x=_
   unfold at1
   rw[fG]
  ·rw[if_neg e,if_neg]
   rintro(c|c)
   ·exact e (by simpa using c)
   ·simp at c;omega
 have src:∀x y,patch h i ⟨v,0,[b],at1 b (rawO x'),au⟩ x=ae y->(x=b/\∃c,x'=ae c/\y= .raw c 0 au)\/(x≠b/\h x=ae y):=by
  intro x y hy
  rw[b4] at hy
  split at hy
  ·rename_i e
   cases b1:x' with
   |none=>rw[b1] at hy;cases hy
   |some c=>rw[b1] at hy;cases hy;exact .inl ⟨e,c,rfl,rfl⟩
  ·rename_i e
   exact .inr ⟨e,hy⟩
 have a4:∀x y q I,x≠b->h x=ae y->σ x=ae (q,I)->q<w.heap.size/\q≠r:=by
  intro x y q I hx hy J
  refine⟨(hI.base x q I J).2,?_⟩
  rintro rfl
  exact hx (hI.inj x b _ _ _ (by rw[hy];simp) (by rw[hb];simp) J a1)
 have ne:∀x,patch h i ⟨v,0,[b],at1 b (rawO x'),au⟩ x≠au->h x≠none:=by
  intro x hx
  obtain⟨y,hy⟩:=aU.1 hx
  rcases src x y hy with⟨rfl,_⟩|⟨_,h2⟩
  ·rw[hb];simp
  ·rw[h2];simp
 refine⟨⟨.refl _,λx p hx=> .inl hx,U.gle,λq o v hv=> ?_,U.gmnew,λq hq hx=>b0 q hq λe=>hx b (by simp) z (by rw[a1,e]),U.size,U.os,U.tape,U.output,λx q I R h2=>by rw[R] at h2;cases h2⟩,
  a0.gc,a0.gm,λx y hx=> ?_,λx x' q z1 z2 R h2 h3 h4=>hI.inj x x' q z1 z2 (ne x R) (ne x' h2) h3 h4,λx q I J=>⟨(hI.base x q I J).1,bY (hI.base x q I J).2 U.size⟩,λx y q I o v hx J hv=> ?_,λx y q I hx J=> ?_,a0.glob⟩
 ·rcases U.gcnew q o v hv with R|R|⟨b',R,I,h2⟩
  ·exact .inl R
  ·exact .inr (.inl R)
  ·obtain⟨_,e⟩:=a7 b' R _ _ h2
   cases e
   exact .inr (.inr ⟨b,by simp,z,a1⟩)
 ·rcases src x y hx with⟨rfl,c,hc,rfl⟩|⟨e1,e2⟩
  ·refine⟨r,z,a1,?_⟩
   obtain⟨r2,z2,m1,arr,e,k1,k2,k3,k4,k5⟩:=a0.blk 0 _ (a5 c hc)
   rw[a6] at m1;cases m1
   refine⟨arr,e,k1,k2,k3,λj sv hj=> ?_,trivial⟩
   obtain⟨v,m1,m2⟩:=k4 j sv hj
   exact⟨v,m1,Zw hE m2 (λb p hb=>by omega) (Zs (hn c hc) hj)⟩
  ·obtain⟨q,I,m1,m2⟩:=hI.blk x y e2
   obtain⟨m3,m4⟩:=a4 x y q I e1 e2 m1
   exact⟨q,I,m1,m2.mono (.refl _) U.gle (b0 q m3 m4)⟩
 ·rcases src x y hx with⟨rfl,c,hc,rfl⟩|⟨e1,e2⟩
  ·rw[a1] at J;cases J
   exact a0.fz 0 _ _ _ o v (a5 c hc) a6 hv
  ·obtain⟨m3,m4⟩:=a4 x y q I e1 e2 J
   rcases U.gcnew q o v hv with R|R|⟨b',R,z2,h2⟩
   ·exact hI.fz x y q I o v e2 J R
   ·omega
   ·obtain⟨_,e⟩:=a7 b' R _ _ h2
    cases e
    exact absurd rfl m4
 ·rcases src x y hx with⟨rfl,c,hc,rfl⟩|⟨e1,e2⟩
  ·rw[a1] at J;cases J
   exact a0.fm 0 _ _ _ (a5 c hc) a6
  ·obtain⟨m3,m4⟩:=a4 x y q I e1 e2 J
   cases b2:g'.obj q with
   |none=>rfl
   |some es=>
    rcases U.gmnew q es b2 with k|k
    ·rw[hI.fm x y q I e2 J] at k;cases k
    ·omega
section
variable {X α β ε:Type}
structure MutI(E:Eng Y) (X α β ε:Type) where
 dS:DcL E X
 dA:DcL E α
 v:β->SV Y
 hv:∀y,nid 0 (v y)=ac
 hS:∀x,nidL 0 (dS.enc x)=ac
 hA:∀a,nidL 0 (dA.enc a)=ac
 pv:ε->Value
def V2(M:MutI E X α β ε) (f:FuncId) (x:X) (a:α) (out:Except ε (β×X)):Prop:=
 match out with
 | .ok (y,x')=>MutC E f (M.dS.enc x) (M.dA.enc a) (M.v y) (M.dS.enc x')
 | .error e=>MutP E f (M.dS.enc x) (M.dA.enc a) (M.pv e)
def Zk3(b:Nat) (v:SV Y) (cs:List (SV Y)):Res Y:=⟨v,0,[b],at1 b (ae (.raw cs 0 au)),au⟩
def Z4x(b:Nat) (p:Value):Res Y:=⟨.pan p,0,[b],at1 b au,au⟩
def sumM(M:MutI E X α β ε) (pre:X->α->Prop) (f:X->α->Except ε (β×X)):Sum Y:=λargs h _ k=>
 match args with
 | .ptr b 0::rest=>
  (match h b with
  |some (.raw cs 0 _)=>
   (match M.dS.dec cs,M.dA.dec rest with
   |some x,ae a=>pre x a/\(∀y x',f x a= .ok (y,x')->k (Zk3 b (M.v y) (M.dS.enc x')))/\(∀e,f x a= .error e->k (Z4x b (M.pv e)))
   |_,_=>False)
  |_=>False)
 |_=>False
theorem Zvz{M:DcL E α} {rest:List (SV Y)} {a:α} (hE:EngOk E) (hr:M.dec rest=ae a) (hn:nidL 0 (M.enc a)=ac) {b r z:Nat} {σ:Pl} {g:GH} {vals:List Value} (a0:σ b=ae (r,z)) (hd:DenL E σ g (.ptr b 0::rest) vals):DenL E (σ1 (r,z)) g (.ptr 0 0::M.enc a) vals:=by
 obtain⟨k1,k2,k3⟩:=M.ok _ _ hr;refine⟨by rw[<-hd.1];simp[k2],λj sv u I J=> ?_⟩;cases j with
 |zero=>
  simp at I;subst I;have:=hd.2 0 _ u rfl J;cases this;rename_i R;rw[a0] at R;cases R;exact .ptr (E:=E) (b:=0) rfl
 |succ j=>
  have I:(M.enc a)[j]? =ae sv:=by simpa using I
  obtain⟨s0,U,h4⟩:=k3 σ g j sv I;exact Zw hE (h4 u (hd.2 (j+1) s0 u (by simpa using U) J)) (λb p hb=>by omega) (Zs hn I)
theorem X4(R:EngOk E) {f:Nat} (hg:FnGood E.P f) {M:MutI E X α β ε} {pre:X->α->Prop} {fn:X->α->Except ε (β×X)} (hp:∀x a,pre x a->V2 M f x a (fn x a)):SumOk E f (sumM M pre fn):=by
 refine⟨hg,λargs h i k hD J=> ?_⟩;unfold sumM at J;split at J
 case h_2=>exact J.elim
 rename_i b rest;split at J
 case h_2=>exact J.elim
 rename_i cs tg I;split at J
 case h_2=>exact J.elim
 rename_i x a hx ha;obtain⟨a9,a7,a8⟩:=J;have hm:=hp x a a9;obtain⟨c1,c2,c3⟩:=M.dS.ok _ _ hx;have a5:h b≠none:=by rw[I];simp
 unfold V2 at hm;split at hm
 ·rename_i y x' ho
  refine⟨_,a7 y x' ho,λb' a2=>by
   have:b'∈ [b]:=a2;rw[bZ] at this
   rw[this];exact a5,.inl ?_⟩
  intro B σ g w a4 hh b0 U hB a6 hd;obtain rfl:hh=h:=funext λb=>b0 b trivial;obtain⟨r,z,a0,_⟩:=U.blk b _ I;refine(hm B (σ1 (r,z)) g w a4 _ (λ_ _=>rfl) (Zs9 R U I a0 c2 (M.hS x) c3) hB (λc h1 h2=>by simp[mutR] at h2;omega) (Zvz R ha (M.hA a) a0 hd)).mono ?_;rintro en w' ⟨u,he,σ',g',hS,a1,hv⟩;rw[Zyt] at a1;obtain⟨q1,q2⟩:=Uc R (i:=i) (v:=M.v y) (v0:=M.v y) (x':=some (M.dS.enc x')) U I a0 rfl hS a1 (λc hc=>by cases hc;rfl) (λc hc=>by cases hc;exact M.hS x');exact⟨u,he,σ,g',q1,q2,Zw R hv (λb p I=>by omega) (M.hv y)⟩
 ·rename_i e ho
  refine⟨_,a8 e ho,λb' a2=>by
   have:b'∈ [b]:=a2;rw[bZ] at this
   rw[this];exact a5,.inr ?_⟩
  obtain⟨p,a3,hm⟩:=hm;have a3:(SV.pan (M.pv e):SV Y)= .pan p:=a3;cases a3;refine⟨_,rfl,λB σ g w a4 U hB a6 hd=> ?_⟩;obtain⟨r,z,a0,_⟩:=U.blk b _ I;refine(hm B (σ1 (r,z)) g w a4 (Zs9 R U I a0 c2 (M.hS x) c3) hB (λc h1 h2=>by simp[panR] at h2;omega) (Zvz R ha (M.hA a) a0 hd)).mono ?_;rintro en w' ⟨he,σ',g',hS,a1⟩;obtain⟨q1,q2⟩:=Uc R (i:=i) (v:= .pan (M.pv e)) (v0:= .unk) (x':=none) U I a0 rfl hS a1 (λc hc=>by cases hc) (λc hc=>by cases hc);exact⟨he,σ,g',q1,q2⟩
theorem Yfr{B:Nat} {p:Nat×Nat} {h:Hp Y} {g I:GH} {w w':World} {σ':Pl} {n:Nat} {a2:List Nat} (hp:p.1<w.heap.size) (U:Stp 1 n a2 (σ1 p) g w σ' I w') (a0:Inv E B σ' h I w') (h0:h 0≠au):∀b r z,b≠0->h b≠au->σ' b=ae (r,z)->w.heap.size<=r:=by
 intro b r z hb hn hs;have a1:σ1 p b=none:=by
  cases b with
  |zero=>exact absurd rfl hb
  |succ b=>rfl
 rcases U.blk b r z a1 hs with J|⟨b',J,z',R⟩
 ·exact J
 ·obtain⟨rfl,e⟩:=σ1_some R
  subst e;have h3:=U.sig 0 _ R;exact absurd (a0.inj b 0 r z z' hn h0 hs h3) hb
noncomputable def mutK(M:MutI E X α β ε) (gth:List (SV Y)->Option Y.Th) (n:Nat) (dec:SV Y->Option β) (U:Value->Option ε) (x:X) (out:Except ε (β×X)) (r:Res Y):Prop:=
 match Zap r.v with
 |some q=>(match U q with|some e=>out= .error e|none=>False)
 |none=>frzK E gth (patch (one (M.dS.enc x)) 1 r) n r.v λv' bs=>
  (match patch (one (M.dS.enc x)) 1 r 0 with
  |some (.raw J 0 _)=>frzL (frzK E gth (patch (one (M.dS.enc x)) 1 r) n) J λR I=>
   (match memB 0 (bs++I),dec v',M.dS.dec R with
   |false,ae y,ae x'=>out= .ok (y,x')
   |_,_,_=>False)
  |_=>False)
theorem CallTri2.panic{f:FuncId} {args:List (SV Y)} {h:Hp Y} {i:Nat} {r:Res Y} {p:Value} (I:CallTri2 E f args h i r) (hp:Zap r.v=ae p) {B:Nat} {σ:Pl} {g:GH} {w:World} {J:Array Value} (hI:Inv E B σ h g w) (hB:B<=w.heap.size) (a0:∀b,i<=b->b<i+r.n->σ b=au) (hd:DenL E σ g args J.toList):
 Calls E.P f J w λU w'=>U= .panicked [{v:=p,recovered:=false}]/\∃σ' R,Stp i r.n r.mods σ g w σ' R w'/\Inv E B σ' (patch h i r) R w':=by
 have hv:=Zu3 hp
 rcases I with I|⟨p',a1,I⟩
 ·refine(I B σ g w J h (λ_ _=>rfl) hI hB a0 hd).mono ?_
  rintro U w' ⟨u,_,σ',R,_,_,hd⟩
  rw[hv] at hd
  cases hd
 ·rw[hv] at a1
  cases a1
  exact I B σ g w J hI hB a0 hd
theorem CallTri2.tri{f:FuncId} {args:List (SV Y)} {h:Hp Y} {i:Nat} {r:Res Y} (I:CallTri2 E f args h i r) (J:Zap r.v=au):Va E f args h i r:=by
 rcases I with I|⟨p,R,_⟩
 ·exact I
 ·rw[R] at J;cases J
theorem Yj7(R:EngOk E) {σ σ':Pl} {g:GH} {l:List (SV Y)} {vals:List Value} (U:nidL 0 l=ac) (h:DenL E σ g l vals):DenL E σ' g l vals:=
 ⟨h.1,λj sv u I J=>Zw R (h.2 j sv u I J) (λb p hb=>by omega) (Zs U I)⟩
theorem Z98(U:EngOk E) {l:List (SV Y)} (hn:nidL 0 l=ac) {r z:Nat} {σ:Pl} {g:GH} {vals:List Value} (a0:σ 0=ae (r,z)) (hd:DenL E σ g (.ptr 0 0::l) vals):DenL E (σ1 (r,z)) g (.ptr 0 0::l) vals:=by
 refine⟨hd.1,λj sv u I J=> ?_⟩;cases j with
 |zero=>
  simp at I;subst I;have:=hd.2 0 _ u rfl J;cases this;rename_i R;rw[a0] at R;cases R;exact .ptr (E:=E) (b:=0) rfl
 |succ j=>
  have I:l[j]? =ae sv:=by simpa using I
  exact Zw U (hd.2 (j+1) sv u (by simpa using I) J) (λb p hb=>by omega) (Zs hn I)
theorem Zta(hE:EngOk E) {call:Nat->List (SV Y)->Hp Y->Nat->(Res Y->Prop)->Prop} (c7:Wy E call) {M:MutI E X α β ε} {gth:List (SV Y)->Option Y.Th} {n:Nat} {dec:SV Y->Option β} {b2:Value->Option ε} (c8:∀v y,dec v=ae y->∀σ g u,Den E σ g v u->Den E σ g (M.v y) u) (c9:∀q e,b2 q=ae e->M.pv e=q)
 {f:Nat} {x:X} {a:α} {out:Except ε (β×X)} (hk:call f (.ptr 0 0::M.dA.enc a) (one (M.dS.enc x)) 1 (mutK M gth n dec b2 x out)):V2 M f x a out:=by
 obtain⟨r,hr,hR,a7⟩:=c7 f _ _ _ _ (Yfq _) hk
 have b8:∀b∈r.mods,b=0:=λb hb=>Zef (hR b hb)
 have b3:∀(p:Nat×Nat) (b:Nat),1<=b->b<1+r.n->σ1 p b=none:=by
  intro p b hb _
  cases b with
  |zero=>omega
  |succ b=>rfl
 have c0:∀(p:Nat×Nat) (g I a5:GH) (w w':World) (σ':Pl),Stp 1 r.n r.mods (σ1 p) g w σ' I w'->I.le a5->(∀q o v,a5.cell q o=ae v->I.cell q o=ae v\/w.heap.size<=q)->(∀q es,a5.obj q=ae es->I.obj q=ae es\/w.heap.size<=q)->Stp 1 0 [0] (σ1 p) g w (σ1 p) a5 w':=by
  intro p g I a5 w w' σ' U a6 hc hm
  refine⟨.refl _,λb q h=> .inl h,U.gle.trans a6,λq o v R=> ?_,λq es R=> ?_,λq hq hx=>U.heap q hq λb hb=>hx b (by rw[b8 b hb];simp),U.size,U.os,U.tape,U.output,λb q z J h2=>by rw[J] at h2;cases h2⟩
  ·rcases hc q o v R with J|J
   ·rcases U.gcnew q o v J with h2|h2|⟨b,h2,h3⟩
    ·exact .inl h2
    ·exact .inr (.inl h2)
    ·exact .inr (.inr ⟨b,by rw[b8 b h2];simp,h3⟩)
   ·exact .inr (.inl J)
  ·rcases hm q es R with J|J
   ·exact U.gmnew q es J
   ·exact .inr J
 have start:∀(B:Nat) (σ:Pl) (g:GH) (w:World) (a2:Array Value),Inv E B σ (one (M.dS.enc x)) g w->DenL E σ g (.ptr 0 0::M.dA.enc a) a2.toList->∃rr zz,σ 0=ae (rr,zz)/\Inv E B (σ1 (rr,zz)) (one (M.dS.enc x)) g w/\DenL E (σ1 (rr,zz)) g (.ptr 0 0::M.dA.enc a) a2.toList:=by
  intro B σ g w a2 hI hd
  obtain⟨rr,zz,a3,_⟩:=hI.blk 0 _ (Z4w _)
  exact⟨rr,zz,a3,Zs9 hE hI (Z4w _) a3 rfl (M.hS x) (λσ g j e1 hj=>⟨e1,hj,λu h=>h⟩),Z98 hE (M.hA a) a3 hd⟩
 unfold mutK at hr
 split at hr
 ·rename_i q hq
  split at hr
  case h_2=>exact hr.elim
  rename_i e he
  subst hr
  show MutP E f _ _ (M.pv e)
  refine⟨_,rfl,λB σ g w a2 hI hB d5 hd=> ?_⟩
  obtain⟨rr,zz,a3,a1,b0⟩:=start B σ g w a2 hI hd
  refine(a7.panic hq a1 hB (b3 _) b0).mono ?_
  rintro en w' ⟨rfl,σ',I,U,a0⟩
  refine⟨by rw[c9 q e he],?_⟩
  have a9:=c0 _ g I I w w' σ' U (.refl _) (λ_ _ _ h=> .inl h) (λ_ _ h=> .inl h)
  have a8:Inv E B (σ1 (rr,zz)) (λ_=>au) I w':=⟨a0.gc,a0.gm,(λb x hx=>by cases hx),λb b' r z z' J=>absurd rfl J,λb r z hs=>⟨(a1.base b r z hs).1,bY (a1.base b r z hs).2 U.size⟩,(λb x r z o v hx=>by cases hx),(λb x r z hx=>by cases hx),a0.glob⟩
  obtain⟨q1,q2⟩:=Uc hE (i:=1) (v:= .pan (M.pv e)) (v0:= .unk) (x':=none) hI (Z4w _) a3 rfl a9 a8 (λc hc=>by cases hc) (λc hc=>by cases hc)
  refine⟨σ,I,q1,?_⟩
  have e2:patch (one (M.dS.enc x)) 1 ⟨.pan (M.pv e),0,[0],at1 0 (rawO au),au⟩=patch (one (M.dS.enc x)) 1 (panR (M.pv e)):=by
   rw[Zyu]
   funext b
   rw[Zp]
   cases b with
   |zero=>simp[at1,rawO]
   |succ b=>
    rw[if_neg (by simp)]
    rfl
  rw[<-e2];exact q2
 ·rename_i hq
  have a7:=a7.tri hq
  obtain⟨v',bs,hr,o1⟩:=Zbb hE n r.v _ hr
  split at hr
  case h_2=>exact hr.elim
  rename_i c2 tg h0
  obtain⟨c5,c4,hr,o2⟩:=Ui (Zbb hE n) hr
  split at hr
  case h_2=>exact hr.elim
  rename_i y x' b7 hy e0
  subst hr
  show MutC E f _ _ (M.v y) _
  intro B σ g w a2 hh d7 hI hB d5 hd
  obtain rfl:hh=one (M.dS.enc x):=funext λb=>d7 b trivial
  obtain⟨rr,zz,a3,a1,b0⟩:=start B σ g w a2 hI hd
  refine(a7 B _ g w a2 _ (λ_ _=>rfl) a1 hB (b3 _) b0).mono ?_
  rintro en w' ⟨u,rfl,σ',I,U,a0,R⟩
  refine⟨u,rfl,?_⟩
  have b1:σ' 0=ae (rr,zz):=U.sig 0 _ rfl
  have d8:rr<w.heap.size:=(a1.base 0 rr zz rfl).2
  have d4:=Yfr d8 U a0 (by rw[h0];simp)
  have a6:=Zcx (n:=w.heap.size) a0
  have b6:Kept E (patch (one (M.dS.enc x)) 1 r) σ' (bs++c4) w' (allG I w.heap.size w'):=by
   intro b hb q z y1 hs a4 j v hj R
   have c6:b≠0:=by
    rintro rfl
    have:=memB_iff.2 hb
    rw[this] at b7;cases b7
   show(if w.heap.size<=q then w'.cell? ⟨q,j,au⟩ else I.cell q j)=ae v
   rw[if_pos (d4 b q z c6 (by rw[a4];simp) hs)]
   exact R
  have d9:=o1.den _ σ' I w' B u _ (λ_ _=>rfl) a0 a6 (b6.sub λb hb=>ez _ hb) R
  have b4:∀q o v,(allG I w.heap.size w').cell q o=ae v->I.cell q o=ae v\/w.heap.size<=q:=by
   intro q o v R
   have R:(if w.heap.size<=q then w'.cell? ⟨q,o,au⟩ else I.cell q o)=ae v:=R
   split at R
   ·exact .inr (by assumption)
   ·exact .inl R
  have b9:∀q es,(allG I w.heap.size w').obj q=ae es->I.obj q=ae es\/w.heap.size<=q:=by
   intro q es R
   have R:(if w.heap.size<=q then(match w'.heap[q]? with|some (.map es _)=>ae es|_=>au) else I.obj q)=ae es:=R
   split at R
   ·exact .inr (by assumption)
   ·exact .inl R
  have a9:=c0 _ g I _ w w' σ' U a6 b4 b9
  have hG:=Zgc (n:=w.heap.size) (B':=B) a0
  obtain⟨c1,e3,c3⟩:=M.dS.ok _ _ e0
  have a8:Inv E B (σ1 (rr,zz)) (one (M.dS.enc x')) (allG I w.heap.size w') w':=by
   refine⟨hG.gc,hG.gm,λb y1 a4=> ?_,λb b' q z z' J h2 _ _=>by rw[Zef J,Zef h2],λb q z hs=>⟨(a1.base b q z hs).1,bY (a1.base b q z hs).2 U.size⟩,λb y1 q z o v a4 hs R=> ?_,λb y1 q z a4 hs=> ?_,hG.glob⟩
   ·obtain⟨rfl,rfl⟩:=U1 a4
    refine⟨rr,zz,rfl,?_⟩
    obtain⟨r2,z2,m1,arr,e,k1,k2,k3,k4,k5⟩:=a0.blk 0 _ h0
    rw[b1] at m1;cases m1
    have hl:c5.length=c2.length:=o2.len
    refine⟨arr,e,k1,k2,?_,λj sv hj=> ?_,trivial⟩
    ·simp only[Blk.cells] at k3⊢;omega
    ·obtain⟨s1,J,h2⟩:=c3 σ0 (allG I w.heap.size w') j sv hj
     have b5:j<c2.length:=by rw[<-hl];exact(ak.1 J).1
     obtain⟨v,m1,m2⟩:=k4 j _ (ai b5)
     have:=o2.den _ σ' I w' B _ (λ_ _=>rfl) a0 a6 (b6.sub λb hb=>dw _ hb) j _ s1 v (ai b5) J m2
     exact⟨v,m1,(h2 v this).mono (λb p h=>by cases h) (.refl _)⟩
   ·obtain⟨_,e⟩:=σ1_some hs
    obtain⟨rfl,rfl⟩:=U1 a4
    cases e
    rcases b4 _ o v R with J|J
    ·have h2:o<0:=a0.fz 0 (.raw c2 0 tg) _ _ o v h0 b1 J
     omega
    ·omega
   ·obtain⟨_,e⟩:=σ1_some hs
    cases e
    cases d6:(allG I w.heap.size w').obj rr with
    |none=>rfl
    |some es=>
     rcases b9 _ es d6 with J|J
     ·rw[a0.fm 0 _ _ _ h0 b1] at J;cases J
     ·omega
  obtain⟨q1,q2⟩:=Uc hE (i:=1) (v:=M.v y) (v0:= .unk) (x':=some (M.dS.enc x')) hI (Z4w _) a3 rfl a9 a8 (λc hc=>by cases hc;rfl) (λc hc=>by cases hc;exact M.hS x')
  exact⟨σ,_,q1,q2,(c8 v' y hy _ _ u d9).mono (λb p h=>by cases h) (.refl _)⟩
end
end
end
section
open Go
inductive WK where
 |at_
 |ki
 |un
 |ca
def WK.src:WK->List Nat
 | .at_=> [116,121,112,101,32,111,119,110,101,114,32,114,97,105,108,119,97,121,32,115,104,105,112,112,101,114,32,99,108,97,115,115,32,119,101,105,103,104,116,32,107,109,32,109,105,110,117,116,101,115,32,119,111,114,107,105,110,103,32,99,111,100,101,32,119,111,114,116,104,32,99,111,115,116,32,109,111,110,116,104,32,98,101,103,105,110,32,112,97,114,116,115,32,112,97,114,116]
 | .ki=> [104,105,114,101,32,100,101,109,117,114,114,97,103,101,32,102,114,101,105,103,104,116,32,114,101,112,97,105,114,32,108,111,115,115,32,99,108,101,97,110,105,110,103]
 | .un=> [109,111,110,101,121,32,109,105,110,117,116,101,32,107,109,32,107,103]
 | .ca=> [109,105,110,32,109,97,120,32,100,111,119,110,32,117,112,32,104,97,108,102]
def WK.words:WK->List (List Nat)
 | .at_=> [[116,121,112,101],[111,119,110,101,114],[114,97,105,108,119,97,121],[115,104,105,112,112,101,114],[99,108,97,115,115],[119,101,105,103,104,116],[107,109],[109,105,110,117,116,101,115],[119,111,114,107,105,110,103],[99,111,100,101],[119,111,114,116,104],[99,111,115,116],[109,111,110,116,104],[98,101,103,105,110],[112,97,114,116,115],[112,97,114,116]]
 | .ki=> [[104,105,114,101],[100,101,109,117,114,114,97,103,101],[102,114,101,105,103,104,116],[114,101,112,97,105,114],[108,111,115,115],[99,108,101,97,110,105,110,103]]
 | .un=> [[109,111,110,101,121],[109,105,110,117,116,101],[107,109],[107,103]]
 | .ca=> [[109,105,110],[109,97,120],[100,111,119,110],[117,112],[104,97,108,102]]
theorem Zyv:Zk EL F0 (vc EL F0 2000) 55 [.str ac (WK.src .at_)] hp0 0 (λr=>ret EL (patch hp0 0 r) r.v (.psl .strs (WK.words .at_) ab))=(WK.words .at_=WK.words .at_):=by kernel_rfl
theorem Zyw:Zk EL F0 (vc EL F0 2000) 55 [.str ac (WK.src .ki)] hp0 0 (λr=>ret EL (patch hp0 0 r) r.v (.psl .strs (WK.words .ki) ab))=(WK.words .ki=WK.words .ki):=by kernel_rfl
theorem Zyx:Zk EL F0 (vc EL F0 2000) 55 [.str ac (WK.src .un)] hp0 0 (λr=>ret EL (patch hp0 0 r) r.v (.psl .strs (WK.words .un) ab))=(WK.words .un=WK.words .un):=by kernel_rfl
theorem Zyy:Zk EL F0 (vc EL F0 2000) 55 [.str ac (WK.src .ca)] hp0 0 (λr=>ret EL (patch hp0 0 r) r.v (.psl .strs (WK.words .ca) ab))=(WK.words .ca=WK.words .ca):=by kernel_rfl
def wkOf(s:List Nat):Option WK:=
 match eqL s (WK.src .at_) with
 |true=>ae .at_
 |false=>(match eqL s (WK.src .ki) with
  |true=>ae .ki
  |false=>(match eqL s (WK.src .un) with
   |true=>ae .un
   |false=>(match eqL s (WK.src .ca) with|true=>ae .ca|false=>au)))
theorem Zv1{s:List Nat} {k:WK} (h:wkOf s=ae k):s=k.src:=by
 unfold wkOf at h
 repeat' split at h
 all_goals first|(cases h;rename_i e;exact Z2b e)|cases h
theorem Ztc(k:WK):PureC E 55 [.str ac k.src] (.psl .strs k.words ab):=by
 cases k
 ·exact Zf5 (n:=2000) (by rw[Zyv])
 ·exact Zf5 (n:=2000) (by rw[Zyw])
 ·exact Zf5 (n:=2000) (by rw[Zyx])
 ·exact Zf5 (n:=2000) (by rw[Zyy])
def Zqa:List (SV thy)->Option (SV thy)
 | [.str ac s]=>(match wkOf s with|some k=>ae (.psl .strs k.words ab)|none=>au)
 |_=>au
noncomputable def Zm2:Sum thy:=sumO Zqa
theorem Zfg:SumOk E 55 Zm2:=Zro E_ok (Zc rfl) λargs v h=>by
 unfold Zqa at h;split at h
 ·split at h
  ·rename_i k I
   cases h;rw[Zv1 I];exact Ztc k
  ·cases h
 ·cases h
def idxS(s:List Nat):Nat->List (List Nat)->Int
 |_,[]=> -1
 |k,x::r=>if s=x then(k:Int) else idxS s (k+1) r
theorem Z40{s:List Nat} {l:List (List Nat)}:∀{k:Nat} {x:List Nat},l[k]? =ae x->idxS s k (l.drop k)=if s=x then(k:Int) else idxS s (k+1) (l.drop (k+1)):=by
 intro k x h;have I:=(ak.1 h).1;rw[cr I];have:l[k]=x:=(ak.1 h).2;rw[this];rfl
def Aixs:Fr thy->Hp thy->Nat->Ann thy:=λT h i=>{X:=LX,fr:=λx=> [(0,T 0),(1,T 1),(7,T 7),(8,.int ab .i64 x.k)],bl:=λx=> [],src:=λ_=> [],md:= [],ih:=i,M:=i+30,meas:=λx=>x.r}
noncomputable def Fixs:Fns thy:=addL F0 145 2 Aixs E
theorem Yaa(l:List (List Nat)) (s:List Nat) (v:Int):Zk E Fixs (vc E Fixs 400) 145 [.psl dk l ab,.str ab s] hp0 0 (λr=>ret E (patch hp0 0 r) r.v (.int ab .i64 v))=(
∃(R:LX->Prop),(∃(x:LX),R x/\ac=ac/\((l=l/\(ab=ac->ab=ac))/\s=s/\(↑(aa l):Int)=(↑(aa l):Int)/\(0:Int)=(↑(LX.k x):Int)/\True)/\True)/\∀(x:LX),R x->(decide ((↑(LX.k x):Int)<(↑(aa l):Int))=ac->(0:Int)<=(↑(LX.k x):Int)/\(↑(LX.k x):Int)+(1:Int)<=(↑(aa l):Int)/\∀(I:List Nat),l[ag (↑(LX.k x):Int)]? =ae I->((s==I)=ac->(↑(LX.k x):Int)=v)/\((s==I)=ab->∃(J:LX),R J/\J.2+(1:Nat)<=x.2/\ac=ac/\((l=l/\(ab=ac->ab=ac))/\s=s/\(↑(aa l):Int)=(↑(aa l):Int)/\wr af ((↑(LX.k x):Int)+(1:Int))=(↑(LX.k J):Int)/\True)/\True))/\(decide ((↑(LX.k x):Int)<(↑(aa l):Int))=ab->(-1:Int)=v)):=by kernel_rfl
theorem Yab(l:List (List Nat)) (s:List Nat) (hl:l.length<=1000000000):PureC E 145 [.psl dk l ab,.str ab s] (.int ab .i64 (idxS s 0 l)):=by
 have R:FnsOk E Fixs:=Zm E_ok F0_ok _ _ _;refine Za E_ok (Zd E_ok R 400) ?_;rw[Yaa];simp only[and_true,true_and,decide_eq_true_eq,decide_eq_false_iff_not,beq_iff_eq,beq_eq_false_iff_ne,imp_self];refine⟨λx=>x.k<=l.length/\idxS s x.k (l.drop x.k)=idxS s 0 l/\x.r=l.length-x.k,⟨⟨0,l.length,[],0⟩,⟨(by dsimp only;omega),rfl,rfl⟩,rfl⟩,?_⟩;rintro x ⟨hk,I,hr⟩;refine aB (λU=>⟨by omega,by omega,λy J=> ?_⟩) (λU=> ?_)
 ·have J:l[x.k]? =ae y:=J
  rw[Z40 J] at I;refine⟨λe=> ?_,λe=> ?_⟩
  ·rw[if_pos e] at I;exact I
  ·rw[if_neg e] at I
   exact⟨⟨x.k+1,l.length-(x.k+1),[],0⟩,⟨(by dsimp only;omega),I,rfl⟩,by show l.length-(x.k+1)+1<=x.r;omega,wr64 (by omega) (by omega)⟩
 ·rw[bF (by omega)] at I
  exact I
noncomputable def Sixs:Sum thy:=Wf (dA2 (Ze4 (E:=E) dk:Dc E (List (thy.dom dk))) dS) (λx=>x.1.length<=1000000000) (λx=>idxS x.2.1 0 x.1) λy=> .int ab .i64 y
theorem Yft:SumOk E 145 Sixs:=Zy E_ok (Zc (f:=145) rfl) λx h=>Yab x.1 x.2.1 h
end
section
open Go
def Z3z:Dc E Unit where
 dec v:=match v with| .tup []=>ae ()|_=>au
 enc _:= .tup []
 ok v a h:=by
  split at h
  ·exact⟨rfl,rfl,λ_ _ _ h=>h⟩
  ·cases h
def dTup{α:Type} (r:DcL E α):Dc E α where
 dec v:=match v with| .tup cs=>r.dec cs|_=>au
 enc a:= .tup (r.enc a)
 ok v a h:=by
  split at h
  ·obtain⟨k1,k2,k3⟩:=r.ok _ _ h
   refine⟨by simpa[nid] using k1,rfl,λσ g u hd=> ?_⟩
   obtain⟨arr,c,rfl,hs,U,hd⟩:=Zna hd
   refine .tup c (by omega) (λj I=>U j (by omega)) λj a0 I=> ?_
   obtain⟨sv,J,R⟩:=k3 σ g j a0 I
   exact R _ (hd j sv J)
  ·cases h
def dBt:Dc E Bool where
 dec v:=match v with| .bool _ b=>ae b|_=>au
 enc b:= .bool ac b
 ok v a h:=by
  split at h
  ·cases h
   exact⟨rfl,rfl,λσ g u hd=>by cases hd;exact .bool _ _⟩
  ·cases h
abbrev PX:=List Tok×Int×Unit
noncomputable def Yk7:Dc E (List Tok):=(Ze4 (E:=E) de:Dc E (List (thy.dom de)))
noncomputable def dPX:DcL E PX:=dA2 Yk7 dN
def Z9r(e:Int×Int):Value:= .iface 85 (.agg #[.int .i64 e.1,.int .i64 e.2])
def Zvm:Value->Option (Int×Int)
 | .iface t (.agg a)=>(match aK t 85,a.toList with|true,[.int .i64 x,.int .i64 y]=>ae (x,y)|_,_=>au)
 |_=>au
theorem Zpz(q:Value) (e:Int×Int) (h:Zvm q=ae e):Z9r e=q:=by
 unfold Zvm at h;split at h
 ·rename_i t a
  split at h
  ·rename_i x y J I
   cases h;unfold Z9r;obtain rfl:=ax J;have:a= #[ig .i64 x,ig .i64 y]:=by rw[<-Array.toArray_toList (xs:=a),I]
   rw[this]
  ·cases h
 ·cases h
noncomputable def mI{α β:Type} (dA:DcL E α) (hA:∀a,nidL 0 (dA.enc a)=ac) (d:Dc E β) (hv:∀y,nid 0 (d.enc y)=ac):MutI E PX α β (Int×Int) where
 dS:=dPX
 dA:=dA
 v:=d.enc
 hv:=hv
 hS _:=rfl
 hA:=hA
 pv:=Z9r
abbrev PR(I:Type):=Except (Int×Int) (I×PX)
noncomputable def mK{α J:Type} (I:DcL E α) (R:∀a,nidL 0 (I.enc a)=ac) (d:Dc E J) (U:∀y,nid 0 (d.enc y)=ac) (l:List Tok) (e:Int) (out:PR J):Res thy->Prop:=
 mutK (mI I R d U) (λ_=>au) 3 d.dec Zvm (l,e,()) out
theorem U7{F:Fns thy} (hF:FnsOk E F) {n:Nat} {α U:Type} {I:DcL E α} {J:∀a,nidL 0 (I.enc a)=ac} {d:Dc E U} {R:∀y,nid 0 (d.enc y)=ac} {f:Nat} {l:List Tok} {e:Int} {a:α} {out:PR U}
 (hk:Zk E F (vc E F n) f (.ptr 0 0::I.enc a) (one [.psl de l ab,.int ab .i64 e]) 1 (mK I J d R l e out)):V2 (mI I J d R) f (l,e,()) a out:=
 Zta E_ok (Zd E_ok hF n) (λv y h=>(d.ok v y h).2.2) Zpz (x:=(l,e,())) hk
theorem n1{α:Type} {d:Dc E α} (h:∀y,nid 0 (d.enc y)=ac):∀a:α×Unit,nidL 0 ((dA1 d).enc a)=true:=λa=>by
 show(nid 0 (d.enc a.1)&&ac)=ac;rw[h];rfl
theorem n0:∀a:Unit,nidL 0 ((DcL.nil (E:=E)).enc a)=true:=λ_=>rfl
def dWK:DcL E WK where
 dec vs:=match vs with| [.str ac s]=>wkOf s|_=>au
 enc k:= [.str ac k.src]
 ok vs k h:=by
  split at h
  ·rw[Zv1 h]
   exact⟨rfl,rfl,λσ g j J I=>⟨J,I,λ_ h=>h⟩⟩
  ·cases h
theorem Zmw:∀k,nidL 0 (dWK.enc k)=true:=λ_=>rfl
theorem Yb{A B:Prop}:(∃Q:Bool->Prop,Q ac/\(Q ac->A)/\(Q ab->B))↔A:=
 ⟨λ⟨_,I,J,_⟩=>J I,λh=>⟨λb=>b=ac,rfl,λ_=>h,λh=>by cases h⟩⟩
theorem Yq{c:Bool} {A B:Prop}:(∃Q:Bool->Prop,((c=ac->Q ac)/\(c=ab->Q ab))/\(Q ac->A)/\(Q ab->B))↔((c=ac->A)/\(c=ab->B)):=by
 constructor
 ·rintro⟨Q,⟨I,J⟩,R,U⟩
  exact⟨λh=>R (I h),λh=>U (J h)⟩
 ·rintro⟨I,J⟩
  exact⟨λb=>c=b,⟨λh=>h,λh=>h⟩,I,J⟩
theorem tz{t:Tok} {l:List Tok}:((((t::l).length:Nat):Int)==0)=false:=by
 rw[beq_eq_false_iff_ne,aD];omega
theorem tz0:(((([]:List Tok).length:Nat):Int)==0)=true:=rfl
theorem tp{t:Tok} {l:List Tok}:decide ((((t::l).length:Nat):Int)>0)=true:=by
 rw[decide_eq_true_eq,aD];omega
theorem tp0:decide (((([]:List Tok).length:Nat):Int)>0)=false:=rfl
theorem tl1{t:Tok} {l:List Tok}:((0:Int)+1<=(((t::l).length:Nat):Int))=True:=eq_true (by rw[aD];omega)
theorem tl2{t:Tok} {l:List Tok}:((1:Int)<=(((t::l).length:Nat):Int))=True:=eq_true (by rw[aD];omega)
theorem tg{t x:Tok} {l:List Tok}:((t::l)[ag 0]? =ae x)=(t=x):=by
 rw[eq_iff_iff];simp
theorem td{t:Tok} {l:List Tok}:cj (ag 1) (t::l)=l:=rfl
theorem i01:((0:Int)<=1)=True:=by simp
def hdT(e:Int):List Tok->Int
 | []=>e
 |t::_=>t.at_
def isW(s:List Nat):List Tok->Bool
 | []=>ab
 |t::_=> !(t.kind==2)&&t.text==s
def pAcc(s:List Nat) (l:List Tok) (e:Int):PR Bool:= .ok (isW s l,if isW s l then l.tail else l,e,())
def Ziv(s:List Nat) (l:List Tok) (e:Int):PR Unit:=if isW s l then .ok ((),l.tail,e,()) else .error (hdT e l,160)
def pInt:List Tok->Int->PR Int
 | [],e=> .error (e,160)
 |t::r,e=>if t.kind=2 then .ok (t.n,r,e,()) else .error (t.at_,160)
def chz(ws:List (List Nat)):List Tok->Int
 | []=> -1
 |t::_=>if t.kind=1 then idxS t.text 0 ws else-1
def Xf(ws:List (List Nat)) (l:List Tok) (e:Int):PR (Int×Bool×Unit):=if 0<=chz ws l then .ok ((chz ws l,ac,()),l.tail,e,()) else .ok ((0,ab,()),l,e,())
def Vj(ws:List (List Nat)) (l:List Tok) (e:Int):PR Int:=if 0<=chz ws l then .ok (chz ws l,l.tail,e,()) else .error (hdT e l,160)
def Ziw:List Tok->Int->PR (List Nat)
 | [],e=> .error (e,160)
 |t::r,e=>if t.kind=1 then(if t.text∈resW then .error (t.at_,161) else .ok (t.text,r,e,())) else .error (t.at_,160)
theorem U9{i:Int}:(decide (i<0)=ac)=¬0<=i:=by rw[decide_eq_true_eq];exact propext (by omega)
theorem Zaa{i:Int}:(decide (i<0)=ab)=(0<=i):=by rw[decide_eq_false_iff_not];exact propext (by omega)
theorem Zsz(l:List Tok) (e:Int) (s:List Nat) (out:PR Bool):Zk E F0 (vc E F0 400) 50 [.ptr 0 0,.str ab s] (one [.psl de l ab,.int ab .i64 e]) 1 (mK (dA1 dS) (n1 λ_=>rfl) dBt (λ_=>rfl) l e out)=(
(((↑(aa l):Int)==(0:Int))=ac->out=aT (ab,l,e,()))/\(((↑(aa l):Int)==(0:Int))=ab->(0:Int)<=(0:Int)/\(0:Int)+(1:Int)<=(↑(aa l):Int)/\∀(x:Tok),l[ag (0:Int)]? =ae x->((cu x==(2:Int))=ac->out=aT (ab,l,e,()))/\((cu x==(2:Int))=ab->(0:Int)<=(0:Int)/\(0:Int)+(1:Int)<=(↑(aa l):Int)/\∀(x:Tok),l[ag (0:Int)]? =ae x->((!cH x==s)=ac->out=aT (ab,l,e,()))/\((!cH x==s)=ab->((0:Int)<=(1:Int)/\(1:Int)<=(↑(aa l):Int))/\out=aT (ac,cj (ag (1:Int)) l,e,()))))):=by kernel_rfl
theorem Zp0(l:List Tok) (e:Int) (out:PR Int):Zk E F0 (vc E F0 400) 147 [.ptr 0 0] (one [.psl de l ab,.int ab .i64 e]) 1 (mK .nil n0 dN (λ_=>rfl) l e out)=(
(((↑(aa l):Int)==(0:Int))=ac->(decide ((↑(aa l):Int)>(0:Int))=ac->(0:Int)<=(0:Int)/\(0:Int)+(1:Int)<=(↑(aa l):Int)/\∀(x:Tok),l[ag (0:Int)]? =ae x->out=az (di x,(160:Int)))/\(decide ((↑(aa l):Int)>(0:Int))=ab->out=az (e,(160:Int))))/\(((↑(aa l):Int)==(0:Int))=ab->(0:Int)<=(0:Int)/\(0:Int)+(1:Int)<=(↑(aa l):Int)/\∀(x:Tok),l[ag (0:Int)]? =ae x->((cu x !=(2:Int))=ac->(decide ((↑(aa l):Int)>(0:Int))=ac->(0:Int)<=(0:Int)/\(0:Int)+(1:Int)<=(↑(aa l):Int)/\∀(x:Tok),l[ag (0:Int)]? =ae x->out=az (di x,(160:Int)))/\(decide ((↑(aa l):Int)>(0:Int))=ab->out=az (e,(160:Int))))/\((cu x !=(2:Int))=ab->(0:Int)<=(0:Int)/\(0:Int)+(1:Int)<=(↑(aa l):Int)/\∀(x:Tok),l[ag (0:Int)]? =ae x->((0:Int)<=(1:Int)/\(1:Int)<=(↑(aa l):Int))/\out=aT (Tok.n x,cj (ag (1:Int)) l,e,())))):=by kernel_rfl
noncomputable def Fsm:Fns thy:=addS (addS (addS F0 55 Zm2) 145 Sixs) 89 (Wf (dA1 dS) (λ_=>True) (λx=>decide (x.1∈resW)) λy=> .bool ab y)
theorem Z30:FnsOk E Fsm:=Zb (Zb (Zb F0_ok Zfg) Yft) (Zy E_ok (Zc (f:=89) rfl) λx _=>Zt6 x.1)
noncomputable def dIB:Dc E (Int×Bool×Unit):=dTup (dA2 dN dB)
abbrev qBP3:=(0:Int)
abbrev qBP2(I:List Tok):=(↑(aa I):Int)
abbrev qBP1(I:List Tok) (J:PR Unit):=(decide ((qBP2 I)>qBP3)=ac->qBP3<=qBP3/\qBP3+(1:Int)<=(qBP2 I)/\∀(x:Tok),I[ag qBP3]? =ae x->J=az (di x,(160:Int)))
abbrev qBP4(I:List Tok) (J:PR Unit) (R:Int):=(decide ((qBP2 I)>qBP3)=ab->J=az (R,(160:Int)))
theorem Zs0(l:List Tok) (e:Int) (s:List Nat) (out:PR Unit):Zk E F0 (vc E F0 400) 46 [.ptr 0 0,.str ab s] (one [.psl de l ab,.int ab .i64 e]) 1 (mK (dA1 dS) (n1 λ_=>rfl) Z3z (λ_=>rfl) l e out)=(
 (((qBP2 l)==qBP3)=ac->(qBP1 l out)/\(qBP4 l out e))/\(((qBP2 l)==qBP3)=ab->qBP3<=qBP3/\qBP3+(1:Int)<=(qBP2 l)/\∀(x:Tok),l[ag qBP3]? =ae x->((cu x==(2:Int))=ac->(qBP1 l out)/\(qBP4 l out e))/\((cu x==(2:Int))=ab->qBP3<=qBP3/\qBP3+(1:Int)<=(qBP2 l)/\∀(x:Tok),l[ag qBP3]? =ae x->((!cH x==s)=ac->(qBP1 l out)/\(qBP4 l out e))/\((!cH x==s)=ab->(qBP3<=(1:Int)/\(1:Int)<=(qBP2 l))/\out=aT ((),cj (ag (1:Int)) l,e,()))))):=by kernel_rfl
abbrev qBP6:=(0:Int)
abbrev qBP5(J:Bool->Prop) (I:List Tok) (R:PR (Int×Bool×Unit)) (d0:Int) (U:Int):=(J ab->(qBP6<=(1:Int)/\(1:Int)<=(↑(aa I):Int))/\R=aT ((d0,ac,()),cj (ag (1:Int)) I,U,()))
abbrev qBP7:=(WK.words WK.un)
theorem Zyj(l:List Tok) (e:Int) (out:PR (Int×Bool×Unit)):Zk E Fsm (vc E Fsm 400) 90 [.ptr 0 0,.str ac (WK.src .un)] (one [.psl de l ab,.int ab .i64 e]) 1 (mK dWK Zmw dIB (λ_=>rfl) l e out)=(
 (((↑(aa l):Int)==qBP6)=ac->aa qBP7<=(1000000000:Nat)/\∀(y:Int),y=idxS [] (0:Nat) qBP7->∃(Q:Bool->Prop),Q ac/\(Q ac->out=aT ((qBP6,ab,()),l,e,()))/\(qBP5 Q l out y e))/\(((↑(aa l):Int)==qBP6)=ab->qBP6<=qBP6/\qBP6+(1:Int)<=(↑(aa l):Int)/\∀(x:Tok),l[ag qBP6]? =ae x->((cu x !=(1:Int))=ac->aa qBP7<=(1000000000:Nat)/\∀(y:Int),y=idxS [] (0:Nat) qBP7->∃(Q:Bool->Prop),Q ac/\(Q ac->out=aT ((qBP6,ab,()),l,e,()))/\(qBP5 Q l out y e))/\((cu x !=(1:Int))=ab->qBP6<=qBP6/\qBP6+(1:Int)<=(↑(aa l):Int)/\∀(x:Tok),l[ag qBP6]? =ae x->aa qBP7<=(1000000000:Nat)/\∀(y:Int),y=idxS (cH x) (0:Nat) qBP7->∃(Q:Bool->Prop),((decide (y<qBP6)=ac->Q ac)/\(decide (y<qBP6)=ab->Q ab))/\(Q ac->out=aT ((qBP6,ab,()),l,e,()))/\(qBP5 Q l out y e)))):=by kernel_rfl
abbrev qBP9:=(0:Int)
abbrev qBP8(J:Bool->Prop) (I:List Tok) (R:PR (Int×Bool×Unit)) (d0:Int) (U:Int):=(J ab->(qBP9<=(1:Int)/\(1:Int)<=(↑(aa I):Int))/\R=aT ((d0,ac,()),cj (ag (1:Int)) I,U,()))
abbrev qBPa:=(WK.words WK.ca)
theorem Zyk(l:List Tok) (e:Int) (out:PR (Int×Bool×Unit)):Zk E Fsm (vc E Fsm 400) 90 [.ptr 0 0,.str ac (WK.src .ca)] (one [.psl de l ab,.int ab .i64 e]) 1 (mK dWK Zmw dIB (λ_=>rfl) l e out)=(
 (((↑(aa l):Int)==qBP9)=ac->aa qBPa<=(1000000000:Nat)/\∀(y:Int),y=idxS [] (0:Nat) qBPa->∃(Q:Bool->Prop),Q ac/\(Q ac->out=aT ((qBP9,ab,()),l,e,()))/\(qBP8 Q l out y e))/\(((↑(aa l):Int)==qBP9)=ab->qBP9<=qBP9/\qBP9+(1:Int)<=(↑(aa l):Int)/\∀(x:Tok),l[ag qBP9]? =ae x->((cu x !=(1:Int))=ac->aa qBPa<=(1000000000:Nat)/\∀(y:Int),y=idxS [] (0:Nat) qBPa->∃(Q:Bool->Prop),Q ac/\(Q ac->out=aT ((qBP9,ab,()),l,e,()))/\(qBP8 Q l out y e))/\((cu x !=(1:Int))=ab->qBP9<=qBP9/\qBP9+(1:Int)<=(↑(aa l):Int)/\∀(x:Tok),l[ag qBP9]? =ae x->aa qBPa<=(1000000000:Nat)/\∀(y:Int),y=idxS (cH x) (0:Nat) qBPa->∃(Q:Bool->Prop),((decide (y<qBP9)=ac->Q ac)/\(decide (y<qBP9)=ab->Q ab))/\(Q ac->out=aT ((qBP9,ab,()),l,e,()))/\(qBP8 Q l out y e)))):=by kernel_rfl
abbrev qBPe:=(0:Int)
abbrev qBPd(I:List Tok):=(↑(aa I):Int)
abbrev qBPb(R:Bool->Prop) (I:List Tok) (J:PR Int) (d0:Int):=(R ac->(decide ((qBPd I)>qBPe)=ac->qBPe<=qBPe/\qBPe+(1:Int)<=(qBPd I)/\∀(x:Tok),I[ag qBPe]? =ae x->J=az (di x,(160:Int)))/\(decide ((qBPd I)>qBPe)=ab->J=az (d0,(160:Int))))
abbrev qBPc(J:Bool->Prop) (I:List Tok) (R:PR Int) (d0:Int) (U:Int):=(J ab->(qBPe<=(1:Int)/\(1:Int)<=(qBPd I))/\R=aT (d0,cj (ag (1:Int)) I,U,()))
abbrev qBPf:=(WK.words WK.at_)
theorem Zs1(l:List Tok) (e:Int) (out:PR Int):Zk E Fsm (vc E Fsm 400) 48 [.ptr 0 0,.str ac (WK.src .at_)] (one [.psl de l ab,.int ab .i64 e]) 1 (mK dWK Zmw dN (λ_=>rfl) l e out)=(
 (((qBPd l)==qBPe)=ac->aa qBPf<=(1000000000:Nat)/\∀(y:Int),y=idxS [] (0:Nat) qBPf->∃(Q:Bool->Prop),Q ac/\(qBPb Q l out e)/\(qBPc Q l out y e))/\(((qBPd l)==qBPe)=ab->qBPe<=qBPe/\qBPe+(1:Int)<=(qBPd l)/\∀(x:Tok),l[ag qBPe]? =ae x->((cu x !=(1:Int))=ac->aa qBPf<=(1000000000:Nat)/\∀(y:Int),y=idxS [] (0:Nat) qBPf->∃(Q:Bool->Prop),Q ac/\(qBPb Q l out e)/\(qBPc Q l out y e))/\((cu x !=(1:Int))=ab->qBPe<=qBPe/\qBPe+(1:Int)<=(qBPd l)/\∀(x:Tok),l[ag qBPe]? =ae x->aa qBPf<=(1000000000:Nat)/\∀(y:Int),y=idxS (cH x) (0:Nat) qBPf->∃(Q:Bool->Prop),((decide (y<qBPe)=ac->Q ac)/\(decide (y<qBPe)=ab->Q ab))/\(qBPb Q l out e)/\(qBPc Q l out y e)))):=by kernel_rfl
abbrev qBPi(I:List Tok):=(↑(aa I):Int)
abbrev qBPj:=(0:Int)
abbrev qBPg(R:Bool->Prop) (I:List Tok) (J:PR Int) (d0:Int):=(R ac->(decide ((qBPi I)>qBPj)=ac->qBPj<=qBPj/\qBPj+(1:Int)<=(qBPi I)/\∀(x:Tok),I[ag qBPj]? =ae x->J=az (di x,(160:Int)))/\(decide ((qBPi I)>qBPj)=ab->J=az (d0,(160:Int))))
abbrev qBPh(J:Bool->Prop) (I:List Tok) (R:PR Int) (d0:Int) (U:Int):=(J ab->(qBPj<=(1:Int)/\(1:Int)<=(qBPi I))/\R=aT (d0,cj (ag (1:Int)) I,U,()))
abbrev qBPk:=(WK.words WK.ki)
theorem Zs2(l:List Tok) (e:Int) (out:PR Int):Zk E Fsm (vc E Fsm 400) 48 [.ptr 0 0,.str ac (WK.src .ki)] (one [.psl de l ab,.int ab .i64 e]) 1 (mK dWK Zmw dN (λ_=>rfl) l e out)=(
 (((qBPi l)==qBPj)=ac->aa qBPk<=(1000000000:Nat)/\∀(y:Int),y=idxS [] (0:Nat) qBPk->∃(Q:Bool->Prop),Q ac/\(qBPg Q l out e)/\(qBPh Q l out y e))/\(((qBPi l)==qBPj)=ab->qBPj<=qBPj/\qBPj+(1:Int)<=(qBPi l)/\∀(x:Tok),l[ag qBPj]? =ae x->((cu x !=(1:Int))=ac->aa qBPk<=(1000000000:Nat)/\∀(y:Int),y=idxS [] (0:Nat) qBPk->∃(Q:Bool->Prop),Q ac/\(qBPg Q l out e)/\(qBPh Q l out y e))/\((cu x !=(1:Int))=ab->qBPj<=qBPj/\qBPj+(1:Int)<=(qBPi l)/\∀(x:Tok),l[ag qBPj]? =ae x->aa qBPk<=(1000000000:Nat)/\∀(y:Int),y=idxS (cH x) (0:Nat) qBPk->∃(Q:Bool->Prop),((decide (y<qBPj)=ac->Q ac)/\(decide (y<qBPj)=ab->Q ab))/\(qBPg Q l out e)/\(qBPh Q l out y e)))):=by kernel_rfl
abbrev qBPo:=(0:Int)
abbrev qBPn(I:List Tok):=(↑(aa I):Int)
abbrev qBPl(R:Bool->Prop) (I:List Tok) (J:PR Int) (d0:Int):=(R ac->(decide ((qBPn I)>qBPo)=ac->qBPo<=qBPo/\qBPo+(1:Int)<=(qBPn I)/\∀(x:Tok),I[ag qBPo]? =ae x->J=az (di x,(160:Int)))/\(decide ((qBPn I)>qBPo)=ab->J=az (d0,(160:Int))))
abbrev qBPm(J:Bool->Prop) (I:List Tok) (R:PR Int) (d0:Int) (U:Int):=(J ab->(qBPo<=(1:Int)/\(1:Int)<=(qBPn I))/\R=aT (d0,cj (ag (1:Int)) I,U,()))
abbrev qBPp:=(WK.words WK.un)
theorem Zs3(l:List Tok) (e:Int) (out:PR Int):Zk E Fsm (vc E Fsm 400) 48 [.ptr 0 0,.str ac (WK.src .un)] (one [.psl de l ab,.int ab .i64 e]) 1 (mK dWK Zmw dN (λ_=>rfl) l e out)=(
 (((qBPn l)==qBPo)=ac->aa qBPp<=(1000000000:Nat)/\∀(y:Int),y=idxS [] (0:Nat) qBPp->∃(Q:Bool->Prop),Q ac/\(qBPl Q l out e)/\(qBPm Q l out y e))/\(((qBPn l)==qBPo)=ab->qBPo<=qBPo/\qBPo+(1:Int)<=(qBPn l)/\∀(x:Tok),l[ag qBPo]? =ae x->((cu x !=(1:Int))=ac->aa qBPp<=(1000000000:Nat)/\∀(y:Int),y=idxS [] (0:Nat) qBPp->∃(Q:Bool->Prop),Q ac/\(qBPl Q l out e)/\(qBPm Q l out y e))/\((cu x !=(1:Int))=ab->qBPo<=qBPo/\qBPo+(1:Int)<=(qBPn l)/\∀(x:Tok),l[ag qBPo]? =ae x->aa qBPp<=(1000000000:Nat)/\∀(y:Int),y=idxS (cH x) (0:Nat) qBPp->∃(Q:Bool->Prop),((decide (y<qBPo)=ac->Q ac)/\(decide (y<qBPo)=ab->Q ab))/\(qBPl Q l out e)/\(qBPm Q l out y e)))):=by kernel_rfl
theorem Z31(l:List Tok) (e:Int) (out:PR (List Nat)):Zk E Fsm (vc E Fsm 400) 47 [.ptr 0 0] (one [.psl de l ab,.int ab .i64 e]) 1 (mK .nil n0 dS (λ_=>rfl) l e out)=(
(((↑(aa l):Int)==(0:Int))=ac->(decide ((↑(aa l):Int)>(0:Int))=ac->(0:Int)<=(0:Int)/\(0:Int)+(1:Int)<=(↑(aa l):Int)/\∀(x:Tok),l[ag (0:Int)]? =ae x->out=az (di x,(160:Int)))/\(decide ((↑(aa l):Int)>(0:Int))=ab->out=az (e,(160:Int))))/\(((↑(aa l):Int)==(0:Int))=ab->(0:Int)<=(0:Int)/\(0:Int)+(1:Int)<=(↑(aa l):Int)/\∀(x:Tok),l[ag (0:Int)]? =ae x->((cu x !=(1:Int))=ac->(decide ((↑(aa l):Int)>(0:Int))=ac->(0:Int)<=(0:Int)/\(0:Int)+(1:Int)<=(↑(aa l):Int)/\∀(x:Tok),l[ag (0:Int)]? =ae x->out=az (di x,(160:Int)))/\(decide ((↑(aa l):Int)>(0:Int))=ab->out=az (e,(160:Int))))/\((cu x !=(1:Int))=ab->(0:Int)<=(0:Int)/\(0:Int)+(1:Int)<=(↑(aa l):Int)/\∀(x:Tok),l[ag (0:Int)]? =ae x->True/\∀(y:Bool),y=decide (cH x∈resW)->(y=ac->out=az (di x,(161:Int)))/\(y=ab->((0:Int)<=(1:Int)/\(1:Int)<=(↑(aa l):Int))/\out=aT (cH x,cj (ag (1:Int)) l,e,()))))):=by kernel_rfl
theorem Zkz(l:List Tok) (e:Int) (s:List Nat):V2 (mI (dA1 dS) (n1 λ_=>rfl) dBt (λ_=>rfl)) 50 (l,e,()) (s,()) (pAcc s l e):=by
 refine U7 F0_ok (n:=400) (a:=(s,())) ?_;rw[show(dA1 dS).enc (s,())= [.str ab s] from rfl,Zsz];cases l with
 |nil=>simp only[Yb,Yq,tz,tz0,tp,tp0,tl1,tl2,tg,td,i01,true_and,and_true,forall_eq',forall_eq,aS,aO,reduceCtorEq,true_implies,false_implies,bV,imp_self,bne_iff_ne,ne_eq,bne_eq_false_iff_eq,beq_iff_eq,beq_eq_false_iff_ne,U9,Zaa];rfl
 |cons t l=>
  simp only[Yb,Yq,tz,tz0,tp,tp0,tl1,tl2,tg,td,i01,true_and,and_true,forall_eq',forall_eq,aS,aO,reduceCtorEq,true_implies,false_implies,bV,imp_self,bne_iff_ne,ne_eq,bne_eq_false_iff_eq,beq_iff_eq,beq_eq_false_iff_ne,U9,Zaa];unfold pAcc isW;refine⟨λh=>by simp[h],λh=>⟨λI=> ?_,λI=> ?_⟩⟩
  ·simp at I;simp[I]
  ·simp at I;simp[h,I]
theorem Zyl(l:List Tok) (e:Int) (s:List Nat):V2 (mI (dA1 dS) (n1 λ_=>rfl) Z3z (λ_=>rfl)) 46 (l,e,()) (s,()) (Ziv s l e):=by
 refine U7 F0_ok (n:=400) (a:=(s,())) ?_;rw[show(dA1 dS).enc (s,())= [.str ab s] from rfl,Zs0];delta qBP3 qBP2 qBP1 qBP4;cases l with
 |nil=>simp only[Yb,Yq,tz,tz0,tp,tp0,tl1,tl2,tg,td,i01,true_and,and_true,forall_eq',forall_eq,aS,aO,reduceCtorEq,true_implies,false_implies,bV,imp_self,bne_iff_ne,ne_eq,bne_eq_false_iff_eq,beq_iff_eq,beq_eq_false_iff_ne,U9,Zaa];rfl
 |cons t l=>
  simp only[Yb,Yq,tz,tz0,tp,tp0,tl1,tl2,tg,td,i01,true_and,and_true,forall_eq',forall_eq,aS,aO,reduceCtorEq,true_implies,false_implies,bV,imp_self,bne_iff_ne,ne_eq,bne_eq_false_iff_eq,beq_iff_eq,beq_eq_false_iff_ne,U9,Zaa];unfold Ziv isW hdT;refine⟨λh=>by simp[h],λh=>⟨λI=> ?_,λI=> ?_⟩⟩
  ·simp at I;simp[I]
  ·simp at I;simp[h,I]
theorem Zs4(l:List Tok) (e:Int):V2 (mI .nil n0 dN (λ_=>rfl)) 147 (l,e,()) () (pInt l e):=by
 refine U7 F0_ok (n:=400) (a:=()) ?_;rw[show(DcL.nil (E:=E)).enc ()= [] from rfl,Zp0];cases l with
 |nil=>simp only[Yb,Yq,tz,tz0,tp,tp0,tl1,tl2,tg,td,i01,true_and,and_true,forall_eq',forall_eq,aS,aO,reduceCtorEq,true_implies,false_implies,bV,imp_self,bne_iff_ne,ne_eq,bne_eq_false_iff_eq,beq_iff_eq,beq_eq_false_iff_ne,U9,Zaa];rfl
 |cons t l=>
  simp only[Yb,Yq,tz,tz0,tp,tp0,tl1,tl2,tg,td,i01,true_and,and_true,forall_eq',forall_eq,aS,aO,reduceCtorEq,true_implies,false_implies,bV,imp_self,bne_iff_ne,ne_eq,bne_eq_false_iff_eq,beq_iff_eq,beq_eq_false_iff_ne,U9,Zaa];unfold pInt;exact⟨λh=>by simp[h],λh=>by simp[h]⟩
theorem Z9s(l:List Tok) (e:Int):V2 (mI .nil n0 dS (λ_=>rfl)) 47 (l,e,()) () (Ziw l e):=by
 refine U7 Z30 (n:=400) (a:=()) ?_;rw[show(DcL.nil (E:=E)).enc ()= [] from rfl,Z31];cases l with
 |nil=>simp only[Yb,Yq,tz,tz0,tp,tp0,tl1,tl2,tg,td,i01,true_and,and_true,forall_eq',forall_eq,aS,aO,reduceCtorEq,true_implies,false_implies,bV,imp_self,bne_iff_ne,ne_eq,bne_eq_false_iff_eq,beq_iff_eq,beq_eq_false_iff_ne,U9,Zaa];rfl
 |cons t l=>
  simp only[Yb,Yq,tz,tz0,tp,tp0,tl1,tl2,tg,td,i01,true_and,and_true,forall_eq',forall_eq,aS,aO,reduceCtorEq,true_implies,false_implies,bV,imp_self,bne_iff_ne,ne_eq,bne_eq_false_iff_eq,beq_iff_eq,beq_eq_false_iff_ne,U9,Zaa];unfold Ziw;refine⟨λh=>by simp[h],λh=>⟨λI=> ?_,λI=> ?_⟩⟩
  ·simp at I;simp[h,I]
  ·simp at I;simp[h,I]
theorem Zym(k:WK) (J:k= .un\/k= .ca) (l:List Tok) (e:Int):V2 (mI dWK Zmw dIB (λ_=>rfl)) 90 (l,e,()) k (Xf k.words l e):=by
 refine U7 Z30 (n:=400) (a:=k) ?_;rcases J with rfl|rfl
 ·rw[show dWK.enc .un= [.str ac (WK.src .un)] from rfl,Zyj];delta qBP6 qBP5 qBP7
  cases l with
  |nil=>
   simp only[Yb,Yq,tz,tz0,tp,tp0,tl1,tl2,tg,td,i01,true_and,and_true,forall_eq',forall_eq,aS,aO,reduceCtorEq,true_implies,false_implies,bV,imp_self,bne_iff_ne,ne_eq,bne_eq_false_iff_eq,beq_iff_eq,beq_eq_false_iff_ne]
   try simp only[U9,Zaa]
   exact⟨by decide,rfl⟩
  |cons t l=>
   simp only[Yb,Yq,tz,tz0,tp,tp0,tl1,tl2,tg,td,i01,true_and,and_true,forall_eq',forall_eq,aS,aO,reduceCtorEq,true_implies,false_implies,bV,imp_self,bne_iff_ne,ne_eq,bne_eq_false_iff_eq,beq_iff_eq,beq_eq_false_iff_ne]
   try simp only[U9,Zaa]
   unfold Xf chz;refine⟨λh=>⟨by decide,by simp[h]⟩,λh=>⟨by decide,λI=> ?_,λI=> ?_⟩⟩
   ·simp[h,I]
   ·simp[h,I]
 ·rw[show dWK.enc .ca= [.str ac (WK.src .ca)] from rfl,Zyk];delta qBP9 qBP8 qBPa
  cases l with
  |nil=>
   simp only[Yb,Yq,tz,tz0,tp,tp0,tl1,tl2,tg,td,i01,true_and,and_true,forall_eq',forall_eq,aS,aO,reduceCtorEq,true_implies,false_implies,bV,imp_self,bne_iff_ne,ne_eq,bne_eq_false_iff_eq,beq_iff_eq,beq_eq_false_iff_ne]
   try simp only[U9,Zaa]
   exact⟨by decide,rfl⟩
  |cons t l=>
   simp only[Yb,Yq,tz,tz0,tp,tp0,tl1,tl2,tg,td,i01,true_and,and_true,forall_eq',forall_eq,aS,aO,reduceCtorEq,true_implies,false_implies,bV,imp_self,bne_iff_ne,ne_eq,bne_eq_false_iff_eq,beq_iff_eq,beq_eq_false_iff_ne]
   try simp only[U9,Zaa]
   unfold Xf chz;refine⟨λh=>⟨by decide,by simp[h]⟩,λh=>⟨by decide,λI=> ?_,λI=> ?_⟩⟩
   ·simp[h,I]
   ·simp[h,I]
theorem Z9t(k:WK) (J:k= .at_\/k= .ki\/k= .un) (l:List Tok) (e:Int):V2 (mI dWK Zmw dN (λ_=>rfl)) 48 (l,e,()) k (Vj k.words l e):=by
 refine U7 Z30 (n:=400) (a:=k) ?_;rcases J with rfl|rfl|rfl
 ·rw[show dWK.enc .at_= [.str ac (WK.src .at_)] from rfl,Zs1];delta qBPe qBPd qBPb qBPc qBPf
  cases l with
  |nil=>
   simp only[Yb,Yq,tz,tz0,tp,tp0,tl1,tl2,tg,td,i01,true_and,and_true,forall_eq',forall_eq,aS,aO,reduceCtorEq,true_implies,false_implies,bV,imp_self,bne_iff_ne,ne_eq,bne_eq_false_iff_eq,beq_iff_eq,beq_eq_false_iff_ne]
   try simp only[U9,Zaa]
   exact⟨by decide,rfl⟩
  |cons t l=>
   simp only[Yb,Yq,tz,tz0,tp,tp0,tl1,tl2,tg,td,i01,true_and,and_true,forall_eq',forall_eq,aS,aO,reduceCtorEq,true_implies,false_implies,bV,imp_self,bne_iff_ne,ne_eq,bne_eq_false_iff_eq,beq_iff_eq,beq_eq_false_iff_ne]
   try simp only[U9,Zaa]
   unfold Vj chz hdT;refine⟨λh=>⟨by decide,by simp[h]⟩,λh=>⟨by decide,λI=> ?_,λI=> ?_⟩⟩
   ·simp[h,I]
   ·simp[h,I]
 ·rw[show dWK.enc .ki= [.str ac (WK.src .ki)] from rfl,Zs2];delta qBPi qBPj qBPg qBPh qBPk
  cases l with
  |nil=>
   simp only[Yb,Yq,tz,tz0,tp,tp0,tl1,tl2,tg,td,i01,true_and,and_true,forall_eq',forall_eq,aS,aO,reduceCtorEq,true_implies,false_implies,bV,imp_self,bne_iff_ne,ne_eq,bne_eq_false_iff_eq,beq_iff_eq,beq_eq_false_iff_ne]
   try simp only[U9,Zaa]
   exact⟨by decide,rfl⟩
  |cons t l=>
   simp only[Yb,Yq,tz,tz0,tp,tp0,tl1,tl2,tg,td,i01,true_and,and_true,forall_eq',forall_eq,aS,aO,reduceCtorEq,true_implies,false_implies,bV,imp_self,bne_iff_ne,ne_eq,bne_eq_false_iff_eq,beq_iff_eq,beq_eq_false_iff_ne]
   try simp only[U9,Zaa]
   unfold Vj chz hdT;refine⟨λh=>⟨by decide,by simp[h]⟩,λh=>⟨by decide,λI=> ?_,λI=> ?_⟩⟩
   ·simp[h,I]
   ·simp[h,I]
 ·rw[show dWK.enc .un= [.str ac (WK.src .un)] from rfl,Zs3];delta qBPo qBPn qBPl qBPm qBPp
  cases l with
  |nil=>
   simp only[Yb,Yq,tz,tz0,tp,tp0,tl1,tl2,tg,td,i01,true_and,and_true,forall_eq',forall_eq,aS,aO,reduceCtorEq,true_implies,false_implies,bV,imp_self,bne_iff_ne,ne_eq,bne_eq_false_iff_eq,beq_iff_eq,beq_eq_false_iff_ne]
   try simp only[U9,Zaa]
   exact⟨by decide,rfl⟩
  |cons t l=>
   simp only[Yb,Yq,tz,tz0,tp,tp0,tl1,tl2,tg,td,i01,true_and,and_true,forall_eq',forall_eq,aS,aO,reduceCtorEq,true_implies,false_implies,bV,imp_self,bne_iff_ne,ne_eq,bne_eq_false_iff_eq,beq_iff_eq,beq_eq_false_iff_ne]
   try simp only[U9,Zaa]
   unfold Vj chz hdT;refine⟨λh=>⟨by decide,by simp[h]⟩,λh=>⟨by decide,λI=> ?_,λI=> ?_⟩⟩
   ·simp[h,I]
   ·simp[h,I]
end
section
open Go
noncomputable def Ycq:Sum thy:=λargs h _ k=>
 match args with
 | [.ptr b 0,.str _ s]=>
  (match h b with
  |some (.raw cs 0 _)=>(match dPX.dec cs with
   |some x=>(isW s x.1=ac->k (Zk3 b (.bool ac ac) (dPX.enc (x.1.tail,x.2))))/\(isW s x.1=ab->k (Zk3 b (.bool ac ab) (dPX.enc x)))
   |none=>False)
  |_=>False)
 |_=>False
noncomputable def Sexp:Sum thy:=λargs h _ k=>
 match args with
 | [.ptr b 0,.str _ s]=>
  (match h b with
  |some (.raw cs 0 _)=>(match dPX.dec cs with
   |some x=>(isW s x.1=ac->k (Zk3 b (.tup []) (dPX.enc (x.1.tail,x.2))))/\(isW s x.1=ab->k (Z4x b (Z9r (hdT x.2.1 x.1,160))))
   |none=>False)
  |_=>False)
 |_=>False
theorem SaccB_ok:SumOk E 50 Ycq:=by
 refine⟨Zc rfl,λargs h i k hD I=> ?_⟩;unfold Ycq at I;split at I
 case h_2=>exact I.elim
 rename_i b f s;split at I
 case h_2=>exact I.elim
 rename_i cs tg hb;split at I
 case h_2=>exact I.elim
 rename_i x hx;obtain⟨l,e,_⟩:=x;refine(X4 E_ok (Zc rfl) (M:=mI (dA1 dS) (n1 λ_=>rfl) dBt (λ_=>rfl)) (pre:=λ_ _=>True) (fn:=λx a=>pAcc a.1 x.1 x.2.1) λx a _=>Zkz x.1 x.2.1 a.1).ok [.ptr b 0,.str f s] h i k hD ?_;simp only[sumM,hb];rw[show(mI (dA1 dS) (n1 λ_=>rfl) dBt (λ_=>rfl)).dS.dec cs=ae (l,e,()) from hx,show(mI (dA1 dS) (n1 λ_=>rfl) dBt (λ_=>rfl)).dA.dec [.str f s]=ae (s,()) from rfl];refine⟨trivial,λy x' J=> ?_,λe J=>by cases J⟩;unfold pAcc at J;injection J with J
 injection J with U e2
 subst U;subst e2;cases R:isW s l with
 |true=>exact I.1 R
 |false=>exact I.2 R
theorem Ycr:SumOk E 46 Sexp:=by
 refine⟨Zc rfl,λargs h i k hD J=> ?_⟩;unfold Sexp at J;split at J
 case h_2=>exact J.elim
 rename_i b f s;split at J
 case h_2=>exact J.elim
 rename_i cs tg hb;split at J
 case h_2=>exact J.elim
 rename_i x hx;obtain⟨l,e,_⟩:=x;refine(X4 E_ok (Zc rfl) (M:=mI (dA1 dS) (n1 λ_=>rfl) Z3z (λ_=>rfl)) (pre:=λ_ _=>True) (fn:=λx a=>Ziv a.1 x.1 x.2.1) λx a _=>Zyl x.1 x.2.1 a.1).ok [.ptr b 0,.str f s] h i k hD ?_;simp only[sumM,hb];rw[show(mI (dA1 dS) (n1 λ_=>rfl) Z3z (λ_=>rfl)).dS.dec cs=ae (l,e,()) from hx,show(mI (dA1 dS) (n1 λ_=>rfl) Z3z (λ_=>rfl)).dA.dec [.str f s]=ae (s,()) from rfl];refine⟨trivial,λy x' I=> ?_,λe I=> ?_⟩
 ·unfold Ziv at I
  split at I
  ·rename_i R
   injection I with I
   injection I with U e2
   subst U;subst e2;exact J.1 R
  ·cases I
 ·unfold Ziv at I
  split at I
  ·cases I
  ·rename_i R
   injection I with I
   subst I;exact J.2 (by simpa using R)
def Zlr:List Nat:= [119,104,101,110]
def sAnd:List Nat:= [97,110,100]
theorem Z06{f:FuncId} {cs rest cs':List (SV thy)} {v I:SV thy} (h:MutC E f cs rest v cs') (hv:∀σ g u,Den E σ g v u->Den E σ g I u):MutC E f cs rest I cs':=λB σ g w a0 hh a b c d e=>
 (h B σ g w a0 hh a b c d e).mono λen w' ⟨u,U,σ',R,s,i,J⟩=>⟨u,U,σ',R,s,i,hv _ _ _ J⟩
theorem Zri(l:List Tok) (e:Int) (s:List Nat):V2 (mI (dA1 dS) (n1 λ_=>rfl) dB (λ_=>rfl)) 50 (l,e,()) (s,()) (pAcc s l e):=
 Z06 (Zkz l e s) λσ g u hd=>by cases hd;exact .bool _ _
noncomputable def Sacc:Sum thy:=λargs h i k=>
 match args with
 | [.ptr b 0,.str f s]=>
  (match eqL s Zlr||eqL s sAnd with
  |true=>sumM (mI (dA1 dS) (n1 λ_=>rfl) dB (λ_=>rfl)) (λ_ _=>True) (λx a=>pAcc a.1 x.1 x.2.1) [.ptr b 0,.str f s] h i k
  |false=>Ycq [.ptr b 0,.str f s] h i k)
 |_=>False
theorem Ycs:SumOk E 50 Sacc:=by
 refine⟨Zc rfl,λargs h i k J I=> ?_⟩;unfold Sacc at I;split at I
 ·split at I
  ·exact(X4 E_ok (Zc rfl) λx a _=>Zri x.1 x.2.1 a.1).ok _ h i k J I
  ·exact SaccB_ok.ok _ h i k J I
 ·exact I.elim
def Yct(l:List Tok) (e:Int):PR Int:= .ok (hdT e l,l,e,())
theorem Z07(l:List Tok) (e:Int) (out:PR Int):Zk E F0 (vc E F0 400) 49 [.ptr 0 0] (one [.psl de l ab,.int ab .i64 e]) 1 (mK .nil n0 dN (λ_=>rfl) l e out)=(
(decide ((↑(aa l):Int)>(0:Int))=ac->(0:Int)<=(0:Int)/\(0:Int)+(1:Int)<=(↑(aa l):Int)/\∀(x:Tok),l[ag (0:Int)]? =ae x->out=aT (di x,l,e,()))/\(decide ((↑(aa l):Int)>(0:Int))=ab->out=aT (e,l,e,()))):=by kernel_rfl
theorem Z7j(l:List Tok) (e:Int):V2 (mI .nil n0 dN (λ_=>rfl)) 49 (l,e,()) () (Yct l e):=by
 refine U7 F0_ok (n:=400) (a:=()) ?_;rw[show(DcL.nil (E:=E)).enc ()= [] from rfl,Z07];cases l with
 |nil=>exact⟨λh=>absurd h (by decide),λ_=>rfl⟩
 |cons t l=>exact⟨λ_=>⟨bV 0,by rw[aD];omega,λx I=>by rw[tg] at I;subst I;rfl⟩,λh=>by rw[tp] at h;cases h⟩
noncomputable def Z7k:Sum thy:=λargs h _ k=>
 match args with
 | [.ptr b 0]=>
  (match h b with
  |some (.raw cs 0 _)=>(match dPX.dec cs with
   |some x=>∀y,y=hdT x.2.1 x.1->k (Zk3 b (.int ab .i64 y) (dPX.enc x))
   |none=>False)
  |_=>False)
 |_=>False
theorem Zud:SumOk E 49 Z7k:=by
 refine⟨Zc rfl,λargs h i k hD I=> ?_⟩;unfold Z7k at I;split at I
 case h_2=>exact I.elim
 rename_i b;split at I
 case h_2=>exact I.elim
 rename_i cs tg hb;split at I
 case h_2=>exact I.elim
 rename_i x hx;obtain⟨l,e,_⟩:=x;refine(X4 E_ok (Zc rfl) (M:=mI .nil n0 dN (λ_=>rfl)) (pre:=λ_ _=>True) (fn:=λx a=>Yct x.1 x.2.1) λx a _=>Z7j x.1 x.2.1).ok [.ptr b 0] h i k hD ?_;simp only[sumM,hb];rw[show(mI .nil n0 dN (λ_=>rfl)).dS.dec cs=ae (l,e,()) from hx,show(mI .nil n0 dN (λ_=>rfl)).dA.dec []=ae () from rfl];refine⟨trivial,λy x' J=> ?_,λe J=>by cases J⟩;unfold Yct at J;injection J with J
 injection J with R U
 subst R;subst U;exact I _ rfl
noncomputable def Scho:Sum thy:=sumM (mI dWK Zmw dIB (λ_=>rfl)) (λ_ k=>k= .un\/k= .ca) λx k=>Xf k.words x.1 x.2.1
theorem Ycu:SumOk E 90 Scho:=X4 E_ok (Zc rfl) λx k h=>Zym k h x.1 x.2.1
noncomputable def Yhj:Sum thy:=sumM (mI dWK Zmw dN (λ_=>rfl)) (λ_ k=>k= .at_\/k= .ki\/k= .un) λx k=>Vj k.words x.1 x.2.1
theorem Z7l:SumOk E 48 Yhj:=X4 E_ok (Zc rfl) λx k h=>Z9t k h x.1 x.2.1
noncomputable def Sint:Sum thy:=sumM (mI .nil n0 dN (λ_=>rfl)) (λ_ _=>True) λx _=>pInt x.1 x.2.1
theorem Ycv:SumOk E 147 Sint:=X4 E_ok (Zc rfl) λx _ _=>Zs4 x.1 x.2.1
noncomputable def Yhk:Sum thy:=sumM (mI .nil n0 dS (λ_=>rfl)) (λ_ _=>True) λx _=>Ziw x.1 x.2.1
theorem Z7m:SumOk E 47 Yhk:=X4 E_ok (Zc rfl) λx _ _=>Z9s x.1 x.2.1
noncomputable def Fme:Fns thy:=addS (addS (addS (addS (addS (addS F0 50 Sacc) 46 Sexp) 90 Scho) 48 Yhj) 147 Sint) 47 Yhk
theorem Zg8:FnsOk E Fme:=Zb (Zb (Zb (Zb (Zb (Zb F0_ok Ycs) Ycr) Ycu) Z7l) Ycv) Z7m
theorem Z08{s:List Nat}:∀{l:List (List Nat)} {k:Nat},idxS s k l<k+l.length
 | [],k=>by unfold idxS;simp;omega
 |x::l,k=>by
  unfold idxS
  split
  ·simp;omega
  ·have:=Z08 (s:=s) (l:=l) (k:=k+1)
   simp at this⊢;omega
theorem Zue{ws:List (List Nat)} {l:List Tok} (h:0<ws.length):chz ws l<ws.length:=by
 unfold chz;split
 ·omega
 ·split
  ·rename_i t r _
   have:=Z08 (s:=t.text) (l:=ws) (k:=0)
   simpa using this
  ·omega
theorem Wn{ws:List (List Nat)} {l:List Tok} {e:Int} {y:Int×Bool×Unit} {x':PX} (h:Xf ws l e= .ok (y,x')):(0<=chz ws l/\y=(chz ws l,ac,())/\x'=(l.tail,e,()))\/(¬0<=chz ws l/\y=(0,ab,())/\x'=(l,e,())):=by
 unfold Xf at h;split at h
 ·injection h with h
  injection h with I J
  exact .inl ⟨by assumption,I.symm,J.symm⟩
 ·injection h with h
  injection h with I J
  exact .inr ⟨by assumption,I.symm,J.symm⟩
theorem Zrj{ws:List (List Nat)} {l:List Tok} {e:Int} {I:Int×Int} (h:Xf ws l e= .error I):False:=by
 unfold Xf at h;split at h<;>cases h
theorem Zbh{ws:List (List Nat)} {l:List Tok} {e:Int} {y:Int} {x':PX} (h:Vj ws l e= .ok (y,x')):0<=chz ws l/\y=chz ws l/\x'=(l.tail,e,()):=by
 unfold Vj at h;split at h
 ·injection h with h
  injection h with I J
  exact⟨by assumption,I.symm,J.symm⟩
 ·cases h
def incD(d:List Int) (i:Int):List Int:=d.set i.toNat (d.getD i.toNat 0+1)
def decD(d:List Int) (i:Int):List Int:=d.set i.toNat (d.getD i.toNat 0-1)
def sPer:List Nat:= [112,101,114]
def Zex(l:List Tok) (e:Int):PR (List Int):=
 match Xf WK.un.words l e with
 | .error I=> .error I
 | .ok (y,x)=>
  if isW sPer x.1 then
   match Vj WK.un.words x.1.tail x.2.1 with
   | .error I=> .error I
   | .ok (j,J)=> .ok (decD (if y.2.1 then incD [0,0,0,0] y.1 else[0,0,0,0]) j,J)
  else .ok (if y.2.1 then incD [0,0,0,0] y.1 else[0,0,0,0],x)
def sIs:List Nat:= [105,115]
def sIn:List Nat:= [105,110]
def Zrk:List Nat:= [46,46]
def Zco(n:Int) (l:List Tok) (e:Int):PR Tst:=
 match Vj WK.at_.words l e with
 | .error I=> .error I
 | .ok (a,x)=>
  if n=8 then .error (hdT e l,2)
  else if isW sIs x.1 then
   match pInt x.1.tail x.2.1 with
   | .error I=> .error I
   | .ok (m,J)=> .ok (⟨a,m,m⟩,J)
  else if isW sIn x.1 then
   match pInt x.1.tail x.2.1 with
   | .error I=> .error I
   | .ok (m,J)=>
    if isW Zrk J.1 then
     match pInt J.1.tail J.2.1 with
     | .error I=> .error I
     | .ok (k,R)=> .ok (⟨a,m,k⟩,R)
    else .error (hdT J.2.1 J.1,160)
  else .error (hdT x.2.1 x.1,160)
noncomputable def dDm:Dc E (List Int):=dR .dims
noncomputable def dTs:Dc E Tst:=dR .tests
abbrev qBQ3:=(0:Int)
abbrev qBQ1(I:Int×Bool×Unit) (J:Int):=(dp [qBQ3,qBQ3,qBQ3,qBQ3] (ag (ao I)) (wr af (J+(1:Int))))
abbrev qBQ2(I:Int) (J:Int):=(dp [qBQ3,qBQ3,qBQ3,qBQ3] (ag I) (wr af (J-(1:Int))))
abbrev qBQ4(I:Int×Bool×Unit) (J:Int) (R:Int) (d0:Int):=(dp (qBQ1 I J) (ag R) (wr af (d0-(1:Int))))
abbrev qBQ5:=(4:Nat)
abbrev qBQ6(I:Int):=(qBQ3<=I/\I+(1:Int)<=(↑qBQ5:Int))
abbrev qBQ7:=(WK.words WK.un)
abbrev qBQ8:=(WK.un=WK.at_\/WK.un=WK.ki\/WK.un=WK.un)
theorem Z09(l:List Tok) (e:Int) (out:PR (List Int)):Zk E Fme (vc E Fme 400) 194 [.ptr 0 0] (one [.psl de l ab,.int ab .i64 e]) 1 (mK .nil n0 dDm (λ_=>rfl) l e out)=(
 (WK.un=WK.un\/WK.un=WK.ca)/\(∀(y:Int×Bool×Unit) (x':PX),Xf qBQ7 l e=aT (y,x')->(ao (aE y)=ac->(qBQ3<=ao y/\ao y+(1:Int)<=(↑qBQ5:Int))/\ag (ao y)+(1:Nat)<=qBQ5/\∀(x:Int),[qBQ3,qBQ3,qBQ3,qBQ3][ag (ao y)]? =ae x->(qBQ3<=ao y/\ao y+(1:Int)<=(↑qBQ5:Int))/\(0:Nat)<=ag (ao y)/\ag (ao y)+(1:Nat)<=qBQ5/\∀(U:Int),[qBQ3,qBQ3,qBQ3,qBQ3][ag (ao y)]? =ae U->(isW [(112:Nat),(101:Nat),(114:Nat)] (ao x')=ac->qBQ8/\(∀(I:Int) (J:PX),Vj qBQ7 (bv (ao x')) (ao (aE x'))=aT (I,J)->(qBQ6 I)/\ag I+(1:Nat)<=aa (qBQ1 y x)/\∀(R:Int),(qBQ1 y x)[ag I]? =ae R->(qBQ6 I)/\(0:Nat)<=ag I/\ag I+(1:Nat)<=aa (qBQ1 y x)/\∀(a1:Int),(qBQ1 y x)[ag I]? =ae a1->aa (qBQ4 y x I R)=qBQ5/\aa (qBQ4 y x I R)=qBQ5/\qBQ5=qBQ5/\out=aT ([ah (qBQ4 y x I R) (0:Nat) qBQ3,ah (qBQ4 y x I R) (1:Nat) qBQ3,ah (qBQ4 y x I R) (2:Nat) qBQ3,ah (qBQ4 y x I R) (3:Nat) qBQ3],ao J,ao (aE J),()))/\∀(e:Int×Int),Vj qBQ7 (bv (ao x')) (ao (aE x'))=az e->out=az e)/\(isW [(112:Nat),(101:Nat),(114:Nat)] (ao x')=ab->aa (qBQ1 y x)=qBQ5/\aa (qBQ1 y x)=qBQ5/\qBQ5=qBQ5/\out=aT ([ah (qBQ1 y x) (0:Nat) qBQ3,ah (qBQ1 y x) (1:Nat) qBQ3,ah (qBQ1 y x) (2:Nat) qBQ3,ah (qBQ1 y x) (3:Nat) qBQ3],ao x',ao (aE x'),())))/\(ao (aE y)=ab->(isW [(112:Nat),(101:Nat),(114:Nat)] (ao x')=ac->qBQ8/\(∀(y:Int) (J:PX),Vj qBQ7 (bv (ao x')) (ao (aE x'))=aT (y,J)->(qBQ6 y)/\ag y+(1:Nat)<=qBQ5/\∀(x:Int),[qBQ3,qBQ3,qBQ3,qBQ3][ag y]? =ae x->(qBQ6 y)/\(0:Nat)<=ag y/\ag y+(1:Nat)<=qBQ5/\∀(U:Int),[qBQ3,qBQ3,qBQ3,qBQ3][ag y]? =ae U->aa (qBQ2 y x)=qBQ5/\aa (qBQ2 y x)=qBQ5/\qBQ5=qBQ5/\out=aT ([ah (qBQ2 y x) (0:Nat) qBQ3,ah (qBQ2 y x) (1:Nat) qBQ3,ah (qBQ2 y x) (2:Nat) qBQ3,ah (qBQ2 y x) (3:Nat) qBQ3],ao J,ao (aE J),()))/\∀(e:Int×Int),Vj qBQ7 (bv (ao x')) (ao (aE x'))=az e->out=az e)/\(isW [(112:Nat),(101:Nat),(114:Nat)] (ao x')=ab->qBQ5=qBQ5/\qBQ5=qBQ5/\qBQ5=qBQ5/\out=aT ([qBQ3,qBQ3,qBQ3,qBQ3],ao x',ao (aE x'),()))))/\∀(a0:Int×Int),Xf qBQ7 l e=az a0->out=az a0):=by kernel_rfl
abbrev qBQb(I:PX):=(bv (ao I))
abbrev qBQa(I:PX):=(ao (aE I))
abbrev qBQ9(a0:Int) (I:PX) (R:PR Tst) (d0:Int):=((a0==(8:Int))=ab->(isW [(105:Nat),(115:Nat)] (ao I)=ac->True/\(∀(U:Int) (J:PX),pInt (qBQb I) (qBQa I)=aT (U,J)->R=aT (kT d0 U U,ao J,ao (aE J),()))/\∀(e:Int×Int),pInt (qBQb I) (qBQa I)=az e->R=az e)/\(isW [(105:Nat),(115:Nat)] (ao I)=ab->(isW [(105:Nat),(110:Nat)] (ao I)=ac->True/\(∀(U:Int) (J:PX),pInt (qBQb I) (qBQa I)=aT (U,J)->(isW [(46:Nat),(46:Nat)] (ao J)=ac->True/\(∀(a1:Int) (I:PX),pInt (qBQb J) (qBQa J)=aT (a1,I)->R=aT (kT d0 U a1,ao I,ao (aE I),()))/\∀(e:Int×Int),pInt (qBQb J) (qBQa J)=az e->R=az e)/\(isW [(46:Nat),(46:Nat)] (ao J)=ab->R=az (hdT (qBQa J) (ao J),(160:Int))))/\∀(e:Int×Int),pInt (qBQb I) (qBQa I)=az e->R=az e)/\(isW [(105:Nat),(110:Nat)] (ao I)=ab->R=az (hdT (qBQa I) (ao I),(160:Int)))))
abbrev qBQc:=(WK.at_=WK.at_\/WK.at_=WK.ki\/WK.at_=WK.un)
theorem Z1a(l:List Tok) (e n:Int) (out:PR Tst):Zk E Fme (vc E Fme 400) 93 [.ptr 0 0,.int ab .i64 n] (one [.psl de l ab,.int ab .i64 e]) 1 (mK (dA1 dN) (n1 λ_=>rfl) dTs (λ_=>rfl) l e out)=(
 (decide ((↑(aa l):Int)>(0:Int))=ac->(0:Int)<=(0:Int)/\(0:Int)+(1:Int)<=(↑(aa l):Int)/\∀(x:Tok),l[ag (0:Int)]? =ae x->qBQc/\(∀(y:Int) (x':PX),Vj (WK.words WK.at_) l e=aT (y,x')->((n==(8:Int))=ac->out=az (di x,(2:Int)))/\(qBQ9 n x' out y))/\∀(I:Int×Int),Vj (WK.words WK.at_) l e=az I->out=az I)/\(decide ((↑(aa l):Int)>(0:Int))=ab->qBQc/\(∀(y:Int) (x':PX),Vj (WK.words WK.at_) l e=aT (y,x')->((n==(8:Int))=ac->out=az (e,(2:Int)))/\(qBQ9 n x' out y))/\∀(I:Int×Int),Vj (WK.words WK.at_) l e=az I->out=az I)):=by kernel_rfl
theorem four{i:Int} (I:0<=i) (J:i < 4):i = 0\/i = 1\/i = 2\/i = 3:=by omega
theorem Z7n(l : List Tok) (e : Int) : V2 (mI .nil n0 dDm (λ_ => rfl)) 194 (l, e, ()) () (Zex l e) := by
 refine U7 Zg8 (n := 400) (a := ()) ?_;rw[show(DcL.nil (E := E)).enc () = [] from rfl, Z09]; delta qBQ3 qBQ1 qBQ2 qBQ4 qBQ5 qBQ6 qBQ7 qBQ8;have w1 : wr .i64 1 = 1 := by decide
 have w2 : wr .i64 (-1) = -1 := by decide
 have w3 : wr .i64 0 = 0 := by decide
 refine⟨.inl rfl, λy x' h => ⟨λI => ?_, λI => ?_⟩, λer h => (Zrj h).elim⟩
 ·obtain⟨i, b, _⟩ := y
  have I : b = true := I;subst I;rcases Wn h with⟨q1, q2, rfl⟩ | ⟨_, q2, _⟩
  case inr => cases q2
  cases q2;have q3 : chz WK.un.words l < 4 := Zue (by decide);generalize hq : chz WK.un.words l = q at *;rcases four q1 q3 with rfl | rfl | rfl | rfl
  all_goals
   simp[w1];refine⟨λh1 => ⟨λj x1 z1 z2 J => ?_, λe1 e2 J => ?_⟩, λh1 => ?_⟩
   ·obtain⟨R, U, _⟩ := Zbh J
    have r3 : chz WK.un.words l.tail.tail < 4 := Zue (by decide);rw[← U] at R r3; clear U;rcases four R r3 with rfl | rfl | rfl | rfl
    all_goals simp[Zex, sPer, incD, decD, w1, w2, w3, *]
   ·simp[Zex, sPer, incD, decD, *]
   ·simp[Zex, sPer, incD, decD, *]
 ·obtain⟨i, b, _⟩ := y
  have I : b = false := I;subst I;rcases Wn h with⟨_, q2, _⟩ | ⟨q1, q2, rfl⟩
  case inl => cases q2
  cases q2;refine⟨λh1 => ⟨.inr (.inr rfl), λj x1 J => ?_, λer J => ?_⟩, λh1 => ?_⟩
  ·obtain⟨R, U, _⟩ := Zbh J
   have r3 : chz WK.un.words l.tail < 4 := Zue (by decide);rw[← U] at R r3; clear U;rcases four R r3 with rfl | rfl | rfl | rfl
   all_goals simp[Zex, sPer, incD, decD, w1, w2, w3, *]
  ·simp[Zex, sPer, incD, decD, *]
  ·simp[Zex, sPer, incD, decD, *]
theorem Z7o(l : List Tok) (e n : Int) : V2 (mI (dA1 dN) (n1 λ_ => rfl) dTs (λ_ => rfl)) 93 (l, e, ()) (n, ()) (Zco n l e) := by
 refine U7 Zg8 (n := 400) (a := (n, ())) ?_;rw[show(dA1 dN).enc (n, ()) = [.int ab .i64 n] from rfl, Z1a]; delta qBQb qBQa qBQ9 qBQc;cases l with
 | nil =>
  simp only[Yb, Yq, tz, tz0, tp, tp0, tl1, tl2, tg, td, i01, true_and, and_true, forall_eq', forall_eq, aS, aO, reduceCtorEq, true_implies, false_implies, bV, imp_self, bne_iff_ne, ne_eq, bne_eq_false_iff_eq, beq_iff_eq, beq_eq_false_iff_ne]
  repeat' (first | apply aB | intro _)
  all_goals first | exact .inl rfl | exact trivial | simp[Zco, hdT, sIs, sIn, Zrk, *]
 | cons t l =>
  simp only[Yb, Yq, tz, tz0, tp, tp0, tl1, tl2, tg, td, i01, true_and, and_true, forall_eq', forall_eq, aS, aO, reduceCtorEq, true_implies, false_implies, bV, imp_self, bne_iff_ne, ne_eq, bne_eq_false_iff_eq, beq_iff_eq, beq_eq_false_iff_ne]
  repeat' (first | apply aB | intro _)
  all_goals first | exact .inl rfl | exact trivial | simp[Zco, hdT, sIs, sIn, Zrk, *]
end
section
open Go
noncomputable def dEx:Dc E Ex:=(dR .exprs:Dc E (thy.dom ij))
abbrev PE:=List Tok->Int->PR Ex
def Zf0:List Nat:= [40]
def Vs:List Nat:= [41]
def sIf:List Nat:= [105,102]
def V3:List Nat:= [44]
def Zrg:List Nat:= [60]
def pOpL(J:PE):List (List Nat)->List Ex->List Tok->Int->PR (List Ex)
 | [],I,l,e=> .ok (I,l,e,())
 |s::r,I,l,e=>
  match J l e with
  | .error R=> .error R
  | .ok (x,y)=>if isW s y.1 then pOpL J r (I++ [x]) y.1.tail y.2.1 else .error (hdT y.2.1 y.1,160)
def pOps(J:PE) (op:Int) (R:List (List Nat)) (l:List Tok) (e:Int):PR Ex:=
 if isW Zf0 l then
  match pOpL J R [] l.tail e with
  | .error I=> .error I
  | .ok (xs,y)=> .ok (.mk op 0 0 0 0 0 xs,y)
 else .error (hdT e l,160)
def Zn9(J:PE) (l:List Tok) (e:Int):PR Ex:=
 if isW Zf0 l then
  match J l.tail e with
  | .error I=> .error I
  | .ok (x,y)=>if isW Vs y.1 then .ok (x,y.1.tail,y.2.1,()) else .error (hdT y.2.1 y.1,160)
 else if isW sIf l then pOps J 11 [Zrg,V3,V3,Vs] l.tail e
 else match Xf WK.ca.words l e with
  | .error I=> .error I
  | .ok (k,y)=>
   if k.2.1 then pOps J (6+k.1) [V3,Vs] y.1 y.2.1
   else match Vj WK.at_.words y.1 y.2.1 with
    | .error I=> .error I
    | .ok (a,z)=> .ok (.mk 2 a 0 0 0 0 [],z)
def pFac(I:PE) (l:List Tok) (e:Int):PR Ex:=
 match l with
 | []=>Zn9 I [] e
 |t::r=>
  if t.kind=2 then
   match Zex r e with
   | .error J=> .error J
   | .ok (d,y)=> .ok (.mk 1 t.n (d.getD 0 0) (d.getD 1 0) (d.getD 2 0) (d.getD 3 0) [],y)
  else Zn9 I (t::r) e
def Shr(I:PE):Prop:=∀l e y x',I l e= .ok (y,x')->x'.1.length<l.length
theorem Z3{s:List Nat} {l:List Tok} (h:isW s l=ac):l.tail.length+1=l.length:=by
 cases l with
 |nil=>cases h
 |cons t l=>rfl
theorem Yhf{s:List Nat} {l:List Tok} {P:Prop} (h:isW s l=ac->l.tail.length+1=l.length->P):isW s l=ac->P:=λq=>h q (Z3 q)
theorem Ybb{I:PE} (H:Shr I) {l:List Tok} {e:Int} {P:Ex->PX->Prop} (h:∀y x',I l e= .ok (y,x')->x'.1.length<l.length->P y x'):∀y x',I l e= .ok (y,x')->P y x':=λy x' q=>h y x' q (H _ _ _ _ q)
theorem Zcm{ws:List (List Nat)} {l:List Tok} (h:0<=chz ws l):l.tail.length+1=l.length:=by
 cases l with
 |nil=>cases h
 |cons t l=>rfl
theorem Ybc{l:List Tok} {e:Int} {A B:Int×Bool×Unit->PX->Prop} (U:∀y x',Xf WK.ca.words l e= .ok (y,x')->y.2.1=ac->x'.1.length<l.length->wr .i64 (6+y.1)=6+y.1->A y x') (hB:∀y x',Xf WK.ca.words l e= .ok (y,x')->y.2.1=ab->B y x'):
 ∀y x',Xf WK.ca.words l e= .ok (y,x')->(y.2.1=ac->A y x')/\(y.2.1=ab->B y x'):=by
 intro y x' q
 refine⟨λI=>U y x' q I ?_ ?_,λI=>hB y x' q I⟩
 ·rcases Wn q with⟨J,rfl,rfl⟩|⟨_,rfl,_⟩
  ·have:=Zcm J
   show l.tail.length<l.length
   omega
  ·cases I
 ·rcases Wn q with⟨J,rfl,rfl⟩|⟨_,rfl,_⟩
  ·have:=Zue (ws:=WK.ca.words) (l:=l) (by decide)
   have R:(WK.ca.words).length=5:=rfl
   rw[R] at this
   exact wr64 (by show _<=6+chz _ _;omega) (by show 6+chz _ _<=_;omega)
  ·rfl
theorem Z7f{I:PE} {l:List Tok} {e:Int} (h:((l.length:Int)==0)=ac):pFac I l e=Zn9 I l e:=by
 cases l with
 |nil=>rfl
 |cons t l=>rw[tz] at h;cases h
theorem Z7g{J:PE} {l:List Tok} {e:Int} {x:Tok} (I:l[ag 0]? =ae x) (h:(x.kind !=2)=ac):pFac J l e=Zn9 J l e:=by
 cases l with
 |nil=>cases I
 |cons t l=>
  rw[tg] at I;subst I;simp at h;simp[pFac,h]
theorem Z7h{l:List Tok} {e:Int} {x:Tok} (I:l[ag 0]? =ae x) (h:(x.kind !=2)=ab):∃r,l=x::r/\x.kind=2/\pInt l e= .ok (x.n,r,e,()):=by
 cases l with
 |nil=>cases I
 |cons t l=>
  rw[tg] at I;subst I;simp at h;exact⟨l,rfl,h,by simp[pInt,h]⟩
theorem Zlq{l:List Tok} (h:((l.length:Int)==0)=ab):(0:Int)<=0/\(0:Int)+1<=l.length:=by
 have:(l.length:Int)≠0:=by simpa using h
 omega
noncomputable def Yhg:Sum thy:=sumM (mI .nil n0 dDm (λ_=>rfl)) (λ_ _=>True) λx _=>Zex x.1 x.2.1
theorem Z7i:SumOk E 194 Yhg:=X4 E_ok (Zc rfl) λx _ _=>Z7n x.1 x.2.1
noncomputable def Ykl(n:Nat) (I:PE):Sum thy:=sumM (mI .nil n0 dEx (λ_=>rfl)) (λx _=>x.1.length<n) λx _=>I x.1 x.2.1
noncomputable def Ffa(n:Nat) (I:PE):Fns thy:=addS (addS Fme 194 Yhg) 94 (Ykl n I)
abbrev Zoa(l:List Tok) (n:Nat) (pe:PE) (e:Int) (out:PR Ex):Prop:=
 isW [(105:Nat),(102:Nat)] l=ac->(isW [(40:Nat)] (bv l)=ac->aa (bv (bv l))+(1:Nat)<=n/\(∀(y:Ex) (x':PX),pe (bv
 (bv l)) e=aT (y,x')->(isW [(60:Nat)] (ao x')=ac->aa (bv (ao x'))+(1:Nat)<=n/\(∀(I:Ex) (U:PX),pe (bv
 (ao x')) (ao (aE x'))=aT (I,U)->((1:Nat)<=(1:Nat)/\(0:Nat)<=(1:Nat)/\((1:Nat)+(1:Nat))*(72:Nat)<=(140737488355328:Nat))
 /\(isW [(44:Nat)] (ao U)=ac->aa (bv (ao U))+(1:Nat)<=n/\(∀(J:Ex) (x':PX),pe (bv (ao U)) (ao (aE
 U))=aT (J,x')->((1:Nat)+(1:Nat)<=aa (av (1:Nat) [bU (aJ y) (bW y) (bx y) (bA y) (bB y) (bC y) (bw y)]++ [bU
 (aJ I) (bW I) (bx I) (bA I) (bB I) (bC I) (bw I)])/\(0:Nat)<=(1:Nat)+(1:Nat)/\((1:Nat)+(1:Nat)+(1:Nat))*(72:Nat)<=
 (140737488355328:Nat))/\(isW [(44:Nat)] (ao x')=ac->aa (bv (ao x'))+(1:Nat)<=n/\(∀(R:Ex) (a0:PX),pe (bv (ao
 x')) (ao (aE x'))=aT (R,a0)->((1:Nat)+(1:Nat)+(1:Nat)<=aa (av ((1:Nat)+(1:Nat)) (av (1:Nat) [bU (aJ y)
 (bW y) (bx y) (bA y) (bB y) (bC y) (bw y)]++ [bU (aJ I) (bW I) (bx I) (bA I) (bB I) (bC I) (bw I)])++ [bU (aJ J)
 (bW J) (bx J) (bA J) (bB J) (bC J) (bw J)])/\(0:Nat)<=(1:Nat)+(1:Nat)+(1:Nat)/\((1:Nat)+(1:Nat)+(1:Nat)+(1:Nat))*(72:
 Nat)<=(140737488355328:Nat))/\(isW [(41:Nat)] (ao a0)=ac->(0:Nat)+((1:Nat)+(1:Nat)+(1:Nat)+(1:Nat))<=aa (av ((1:Nat)+(1
 :Nat)+(1:Nat)) (av ((1:Nat)+(1:Nat)) (av (1:Nat) [bU (aJ y) (bW y) (bx y) (bA y) (bB y) (bC y) (bw y)]++ [bU (aJ I)
 (bW I) (bx I) (bA I) (bB I) (bC I) (bw I)])++ [bU (aJ J) (bW J) (bx J) (bA J) (bB J) (bC J) (bw J)])++ [bU
 (aJ R) (bW R) (bx R) (bA R) (bB R) (bC R) (bw R)])/\out=aT (bU (11:Int) (0:Int) (0:Int) (0:Int) (0:Int) (0:Int)
 (av ((1:Nat)+(1:Nat)+(1:Nat)+(1:Nat)) (cj (0:Nat) (av ((1:Nat)+(1:Nat)+(1:Nat)) (av ((1:Nat)+(1:Nat)) (av (1:
 Nat) [bU (aJ y) (bW y) (bx y) (bA y) (bB y) (bC y) (bw y)]++ [bU (aJ I) (bW I) (bx I) (bA I) (bB I) (bC I) (bw I)])++
 [bU (aJ J) (bW J) (bx J) (bA J) (bB J) (bC J) (bw J)])++ [bU (aJ R) (bW R) (bx R) (bA R) (bB R) (bC R) (bw
 R)]))),bv (ao a0),ao (aE a0),()))/\(isW [(41:Nat)] (ao a0)=ab->out=az (hdT (ao (aE a0)) (ao
 a0),(160:Int))))/\∀(e:Int×Int),pe (bv (ao x')) (ao (aE x'))=az e->out=az e)/\(isW [(44:Nat)] (ao x')=
 ab->out=az (hdT (ao (aE x')) (ao x'),(160:Int))))/\∀(e:Int×Int),pe (bv (ao U)) (ao (aE U))=
 az e->out=az e)/\(isW [(44:Nat)] (ao U)=ab->out=az (hdT (ao (aE U)) (ao U),(160:Int))))/\∀(e:
 Int×Int),pe (bv (ao x')) (ao (aE x'))=az e->out=az e)/\(isW [(60:Nat)] (ao x')=ab->out=az (hdT
 (ao (aE x')) (ao x'),(160:Int))))/\∀(a1:Int×Int),pe (bv (bv l)) e=az a1->out=az a1)/\(isW [(40:Nat)]
 (bv l)=ab->out=az (hdT e (bv l),(160:Int)))
abbrev Zg6(l:List Tok) (n:Nat) (U:PE) (e:Int) (out:PR Ex):Prop:=
 isW [(40:Nat)] l=ab->(Zoa l n U e out)/\(isW [(105:Nat),(102:Nat)] l=ab->(WK.ca=WK.un\/WK.ca=WK.ca)/\(∀(y:Int×Bool×Unit) (x':PX),
 Xf (WK.words WK.ca) l e=aT (y,x')->(ao (aE y)=ac->(isW [(40:Nat)] (ao x')=ac->aa (bv (ao x'))+(1:Nat)<=n
 /\(∀(I:Ex) (R:PX),U (bv (ao x')) (ao (aE x'))=aT (I,R)->(isW [(44:Nat)] (ao R)=ac->aa (bv
 (ao R))+(1:Nat)<=n/\(∀(J:Ex) (x':PX),U (bv (ao R)) (ao (aE R))=aT (J,x')->((1:Nat)<=(1:Nat)/\(0:Nat)<=
 (1:Nat)/\((1:Nat)+(1:Nat))*(72:Nat)<=(140737488355328:Nat))/\(isW [(41:Nat)] (ao x')=ac->(0:Nat)+((1:Nat)+(1:Nat))<=aa
 (av (1:Nat) [bU (aJ I) (bW I) (bx I) (bA I) (bB I) (bC I) (bw I)]++ [bU (aJ J) (bW J) (bx J) (bA J) (bB
 J) (bC J) (bw J)])/\out=aT (bU (wr af ((6:Int)+ao y)) (0:Int) (0:Int) (0:Int) (0:Int) (0:Int) (av ((1:Nat)+(1:
 Nat)) (cj (0:Nat) (av (1:Nat) [bU (aJ I) (bW I) (bx I) (bA I) (bB I) (bC I) (bw I)]++ [bU (aJ J) (bW J) (bx
 J) (bA J) (bB J) (bC J) (bw J)]))),bv (ao x'),ao (aE x'),()))/\(isW [(41:Nat)] (ao x')=ab->out=az (hdT
 (ao (aE x')) (ao x'),(160:Int))))/\∀(e:Int×Int),U (bv (ao R)) (ao (aE R))=az e->out=az e)/\
 (isW [(44:Nat)] (ao R)=ab->out=az (hdT (ao (aE R)) (ao R),(160:Int))))/\∀(e:Int×Int),U (bv (ao x'))
 (ao (aE x'))=az e->out=az e)/\(isW [(40:Nat)] (ao x')=ab->out=az (hdT (ao (aE x')) (ao x'),(160
 :Int))))/\(ao (aE y)=ab->(WK.at_=WK.at_\/WK.at_=WK.ki\/WK.at_=WK.un)/\(∀(y:Int) (R:PX),Vj (WK.words WK.at_) (ao x') (ao
 (aE x'))=aT (y,R)->out=aT (bU (2:Int) y (0:Int) (0:Int) (0:Int) (0:Int) [],ao R,ao (aE R),()))/\∀(e:Int×
 Int),Vj (WK.words WK.at_) (ao x') (ao (aE x'))=az e->out=az e))/\∀(a0:Int×Int),Xf (WK.words WK.ca) l e=az
 a0->out=az a0)
abbrev Zg7(l:List Tok) (n:Nat) (J:PE) (e:Int) (out:PR Ex):Prop:=
 isW [(40:Nat)] l=ac->aa (bv l)+(1:Nat)<=n/\(∀(y:Ex) (x':PX),J (bv l) e=aT (y,x')->(isW [(41:Nat)] (ao x')=ac->
 out=aT (bU (aJ y) (bW y) (bx y) (bA y) (bB y) (bC y) (bw y),bv (ao x'),ao (aE x'),()))/\(isW [(41:Nat)] (ao
 x')=ab->out=az (hdT (ao (aE x')) (ao x'),(160:Int))))/\∀(I:Int×Int),J (bv l) e=az I->out=az I
theorem Zrh(n:Nat) (I:PE) (l:List Tok) (e:Int) (out:PR Ex):Zk E (Ffa n I) (vc E (Ffa n I) 400) 150 [.ptr 0 0] (one [.psl de l ab,.int ab .i64 e]) 1 (mK .nil n0 dEx (λ_=>rfl) l e out)=(
(((↑(aa l):Int)==(0:Int))=ac->(Zg7 l n I e out)/\(Zg6 l n I e out))/\(((↑(aa l):Int)==(0:Int))=ab->(0:Int)<=(0:Int)/\(0:Int)+(1:Int)<=(↑(aa l):Int)/\∀(x:Tok),l[ag (0:Int)]? =ae x->((cu x !=(2:Int))=ac->(Zg7 l n I e out)/\(Zg6 l n I e out))/\((cu x !=(2:Int))=ab->(0:Int)<=(0:Int)/\(0:Int)+(1:Int)<=(↑(aa l):Int)/\∀(x:Tok),l[ag (0:Int)]? =ae x->True/\(∀(y:Int) (x':PX),pInt l e=aT (y,x')->True/\(∀(J:List Int) (R:PX),Zex (ao x') (ao (aE x'))=aT (J,R)->out=aT (bU (1:Int) y (ah J (0:Nat) (0:Int)) (ah J (1:Nat) (0:Int)) (ah J (2:Nat) (0:Int)) (ah J (3:Nat) (0:Int)) [],ao R,ao (aE R),()))/\∀(e:Int×Int),Zex (ao x') (ao (aE x'))=az e->out=az e)/\∀(U:Int×Int),pInt l e=az U->out=az U))):=by kernel_rfl
theorem Yhh{n:Nat} {I:PE} (J:∀l e,l.length<n->V2 (mI .nil n0 dEx (λ_=>rfl)) 94 (l,e,()) () (I l e)):FnsOk E (Ffa n I):=Zb (Zb Zg8 Z7i) (X4 E_ok (Zc rfl) λx _ h=>J x.1 x.2.1 h)
theorem Zxe{n : Nat} {pe : PE} (a0 : ∀ l e, l.length < n → V2 (mI .nil n0 dEx (λ_ => rfl)) 94 (l, e, ()) () (pe l e)) (H : Shr pe) (l : List Tok) (e : Int) (hl : l.length < n + 1) :
 V2 (mI .nil n0 dEx (λ_ => rfl)) 150 (l, e, ()) () (pFac pe l e) := by
 refine U7 (Yhh a0) (n := 400) (a := ()) ?_
 rw[show(DcL.nil (E := E)).enc () = [] from rfl, Zrh]
 unfold Zg7 Zg6 Zoa
 refine⟨λJ => ?_, λJ => ⟨(Zlq J).1, (Zlq J).2, λx hx => ⟨λR => ?_, λR => ?_⟩⟩⟩
 ·rw[Z7f J]; clear J
  repeat' (first | refine Yhf λ_ _ => ?_ | refine Ybb H λ_ _ _ _ => ?_ | refine Ybc (λ_ _ _ _ _ _ => ?_) (λ_ _ _ _ => ?_) | apply aB | intro _)
  all_goals first | exact .inr rfl | exact .inl rfl | exact trivial | omega | simp[Zn9, pOps, pOpL, Zf0, Vs, sIf, V3, Zrg, Ex.eta, *]
 ·rw[Z7g hx R]; clear J hx R
  repeat' (first | refine Yhf λ_ _ => ?_ | refine Ybb H λ_ _ _ _ => ?_ | refine Ybc (λ_ _ _ _ _ _ => ?_) (λ_ _ _ _ => ?_) | apply aB | intro _)
  all_goals first | exact .inr rfl | exact .inl rfl | exact trivial | omega | simp[Zn9, pOps, pOpL, Zf0, Vs, sIf, V3, Zrg, Ex.eta, *]
 ·obtain⟨r, rfl, hk, hi⟩ := Z7h (e := e) hx R
  refine⟨(Zlq J).1, (Zlq J).2, λ_ _ => ⟨trivial, λy x' I => ?_, λer I => by rw[hi] at I; cases I⟩⟩
  rw[hi] at I
  injection I with I
  injection I with I h4
  subst I; subst h4
  refine⟨trivial, λd x2 U => ?_, λer U => ?_⟩
  ·simp[pFac, hk, U]
  ·simp[pFac, hk, U]
end
section
open Go.RowKit
section
variable {Y:Thy} {E:Eng Y}
def two(cs:List (SV Y)):Hp Y:=λb=>match aK b 0 with|true=>ae (.raw cs 0 au)|false=>(match aK b 1 with|true=>ae (.raw [.ptr 0 0] 0 au)|false=>au)
theorem Z85(cs:List (SV Y)):two cs 0=ae (.raw cs 0 au):=rfl
theorem Yiv(cs:List (SV Y)):two cs 1=ae (.raw [.ptr 0 0] 0 au):=rfl
theorem Zmq{cs:List (SV Y)} {b:Nat} {x:Blk Y} (h:two cs b=ae x):(b=0/\x= .raw cs 0 au)\/(b=1/\x= .raw [.ptr 0 0] 0 au):=by
 match b,h with
 |0,h=>cases h;exact .inl ⟨rfl,rfl⟩
 |1,h=>cases h;exact .inr ⟨rfl,rfl⟩
 |b+2,h=>cases h
theorem Yel(cs:List (SV Y)):DomLt (two cs) 2:=λb I=>by
 obtain⟨x,J⟩:=aU.1 I;rcases Zmq J with⟨rfl,_⟩|⟨rfl,_⟩<;>omega
def σ2(p q:Nat×Nat):Pl:=λb=>match aK b 0 with|true=>ae p|false=>(match aK b 1 with|true=>ae q|false=>au)
theorem σ2_some{p q x:Nat×Nat} {b:Nat} (h:σ2 p q b=ae x):(b=0/\x=p)\/(b=1/\x=q):=by
 match b,h with
 |0,h=>cases h;exact .inl ⟨rfl,rfl⟩
 |1,h=>cases h;exact .inr ⟨rfl,rfl⟩
 |b+2,h=>cases h
theorem Zst(cs cs':List (SV Y)) (v:SV Y):patch (two cs) 2 (mutR v cs')=two cs':=by
 funext b;rw[Zp]
 match b with
 |0=>simp[mutR,at1,two]
 |1=>rw[if_neg (by simp[mutR])];rfl
 |b+2=>rw[if_neg (by simp[mutR])];rfl
def Yiw(E:Eng Y) (f:FuncId) (cs rest:List (SV Y)) (v:SV Y) (I:List (SV Y)):Prop:=Va E f (.ptr 1 0::rest) (two cs) 2 (mutR v I)
def Yix(E:Eng Y) (f:FuncId) (cs rest:List (SV Y)) (p:Value):Prop:=Zsh E f (.ptr 1 0::rest) (two cs) 2 (panR p)
theorem Zsu(hE:EngOk E) {B:Nat} {σ:Pl} {h:Hp Y} {g:GH} {w:World} {b r z c r1 z1:Nat} {cs a3:List (SV Y)} {fc:Nat} {tg tc:Option Y.Th} (I:Inv E B σ h g w) (U:h b=ae (.raw cs 0 tg)) (hc:h c=ae (.raw [.ptr b 0] fc tc)) (R:σ b=ae (r,z)) (a1:σ c=ae (r1,z1)) (a5:b≠c) (a7:fc=0) (a8:cs.length=a3.length) (hn:nidL 0 a3=ac)
 (a6:∀σ g (j:Nat) a2,a3[j]? =ae a2->∃sv,cs[j]? =ae sv/\∀u,Den E σ g sv u->Den E σ g a2 u):Inv E B (σ2 (r,z) (r1,z1)) (two a3) g w:=by
 have a4:r≠r1:=by
  rintro rfl
  exact a5 (I.inj b c _ _ _ (by rw[U];simp) (by rw[hc];simp) R a1)
 refine⟨I.gc,I.gm,λx y hx=> ?_,λx x' q z2 z3 h1 h2 h3 h4=> ?_,λx q z' J=> ?_,λx y q z' o v hx J hv=> ?_,λx y q z' hx J=> ?_,I.glob⟩
 ·rcases Zmq hx with⟨rfl,rfl⟩|⟨rfl,rfl⟩
  ·refine⟨r,z,rfl,?_⟩
   obtain⟨r',z',a0,arr,e,k1,k2,k3,k4,k5⟩:=I.blk b _ U
   rw[R] at a0;cases a0
   refine⟨arr,e,k1,k2,?_,λj a2 hj=> ?_,trivial⟩
   ·simp only[Blk.cells] at k3⊢;omega
   ·obtain⟨sv,h1,h2⟩:=a6 σ g j a2 hj
    obtain⟨v,m1,m2⟩:=k4 j sv h1
    exact⟨v,m1,Zw hE (h2 v m2) (λb p U=>by omega) (Zs hn hj)⟩
  ·refine⟨r1,z1,rfl,?_⟩
   obtain⟨r',z',a0,arr,e,k1,k2,k3,k4,k5⟩:=I.blk c _ hc
   rw[a1] at a0;cases a0
   refine⟨arr,e,k1,k2,k3,λj a2 hj=> ?_,trivial⟩
   cases j with
   |zero=>
    cases hj
    obtain⟨v,m1,m2⟩:=k4 0 _ rfl
    refine⟨v,m1,?_⟩
    cases m2
    rename_i J
    rw[R] at J;cases J
    exact .ptr (E:=E) (b:=0) rfl
   |succ j=>cases hj
 ·rcases σ2_some h3 with⟨rfl,e1⟩|⟨rfl,e1⟩<;>rcases σ2_some h4 with⟨rfl,e2⟩|⟨rfl,e2⟩
  ·rfl
  ·cases e1;cases e2;exact absurd rfl a4
  ·cases e1;cases e2;exact absurd rfl a4
  ·rfl
 ·rcases σ2_some J with⟨rfl,e⟩|⟨rfl,e⟩
  ·cases e;exact I.base b _ _ R
  ·cases e;exact I.base c _ _ a1
 ·rcases σ2_some J with⟨rfl,e⟩|⟨rfl,e⟩
  ·cases e
   have h2:o<0:=I.fz b (.raw cs 0 tg) _ _ o v U R hv
   omega
  ·cases e
   subst a7
   have h2:o<0:=I.fz c (.raw [.ptr b 0] 0 tc) _ _ o v hc a1 hv
   omega
 ·rcases σ2_some J with⟨rfl,e⟩|⟨rfl,e⟩
  ·cases e;exact I.fm b _ _ _ U R
  ·cases e;exact I.fm c _ _ _ hc a1
section
variable {X α β ε:Type}
def Zd7(M:MutI E X α β ε) (f:FuncId) (x:X) (a:α) (out:Except ε (β×X)):Prop:=
 match out with
 | .ok (y,x')=>Yiw E f (M.dS.enc x) (M.dA.enc a) (M.v y) (M.dS.enc x')
 | .error e=>Yix E f (M.dS.enc x) (M.dA.enc a) (M.pv e)
def Z3e(M:MutI E X α β ε) (pre:X->α->Prop) (f:X->α->Except ε (β×X)):Sum Y:=λargs h _ k=>
 match args with
 | .ptr c 0::rest=>
  (match h c with
  |some (.raw [.ptr b 0] 0 _)=>
   (match aK b c,h b with
   |false,ae (.raw cs 0 _)=>
    (match M.dS.dec cs,M.dA.dec rest with
    |some x,ae a=>pre x a/\(∀y x',f x a= .ok (y,x')->k (Zk3 b (M.v y) (M.dS.enc x')))/\(∀e,f x a= .error e->k (Z4x b (M.pv e)))
    |_,_=>False)
   |_,_=>False)
  |_=>False)
 |_=>False
theorem Zps{M:DcL E α} {rest:List (SV Y)} {a:α} (hE:EngOk E) (hr:M.dec rest=ae a) (hn:nidL 0 (M.enc a)=ac) {c:Nat} {p q:Nat×Nat} {σ:Pl} {g:GH} {vals:List Value} (a0:σ c=ae q) (hd:DenL E σ g (.ptr c 0::rest) vals):DenL E (σ2 p q) g (.ptr 1 0::M.enc a) vals:=by
 obtain⟨k1,k2,k3⟩:=M.ok _ _ hr;refine⟨by rw[<-hd.1];simp[k2],λj sv u I J=> ?_⟩;cases j with
 |zero=>
  simp at I;subst I;have:=hd.2 0 _ u rfl J;cases this;rename_i R;rw[a0] at R;cases R;exact .ptr (E:=E) (b:=1) rfl
 |succ j=>
  have I:(M.enc a)[j]? =ae sv:=by simpa using I
  obtain⟨s0,U,h4⟩:=k3 σ g j sv I;exact Zw hE (h4 u (hd.2 (j+1) s0 u (by simpa using U) J)) (λb p hb=>by omega) (Zs hn I)
theorem Zmr(hE:EngOk E) {f:Nat} (hg:FnGood E.P f) {M:MutI E X α β ε} {pre:X->α->Prop} {fn:X->α->Except ε (β×X)} (hp:∀x a,pre x a->Zd7 M f x a (fn x a)):SumOk E f (Z3e M pre fn):=by
 refine⟨hg,λargs h i k hD J=> ?_⟩;unfold Z3e at J;split at J
 case h_2=>exact J.elim
 rename_i c rest;split at J
 case h_2=>exact J.elim
 rename_i b tc I;split at J
 case h_2=>exact J.elim
 rename_i cs tg a0 U;have a0:b≠c:=by intro e;subst e;rw[fG] at a0;cases a0
 split at J
 case h_2=>exact J.elim
 rename_i x a hx ha;obtain⟨b1,a9,b0⟩:=J;have hm:=hp x a b1;obtain⟨c1,c2,c3⟩:=M.dS.ok _ _ hx;have a7:h b≠none:=by rw[U];simp
 unfold Zd7 at hm;split at hm
 ·rename_i y x' ho
  refine⟨_,a9 y x' ho,λb' a4=>by
   have:b'∈ [b]:=a4;rw[bZ] at this
   rw[this];exact a7,.inl ?_⟩
  intro B σ g w a6 hh b2 R hB a8 hd;obtain rfl:hh=h:=funext λb=>b2 b trivial;obtain⟨r,z,a1,_⟩:=R.blk b _ U;obtain⟨r1,z1,a2,_⟩:=R.blk c _ I;refine(hm B (σ2 (r,z) (r1,z1)) g w a6 _ (λ_ _=>rfl) (Zsu hE R U I a1 a2 a0 rfl c2 (M.hS x) c3) hB (λc h1 h2=>by simp[mutR] at h2;omega) (Zps hE ha (M.hA a) a2 hd)).mono ?_;rintro en w' ⟨u,he,σ',g',hS,a3,hv⟩;rw[Zst] at a3;obtain⟨q1,q2⟩:=Uc hE (i:=i) (v:=M.v y) (v0:=M.v y) (x':=some (M.dS.enc x')) R U a1 rfl hS a3 (λc I=>by cases I;rfl) (λc I=>by cases I;exact M.hS x');exact⟨u,he,σ,g',q1,q2,Zw hE hv (λb p U=>by omega) (M.hv y)⟩
 ·rename_i e ho
  refine⟨_,b0 e ho,λb' a4=>by
   have:b'∈ [b]:=a4;rw[bZ] at this
   rw[this];exact a7,.inr ?_⟩
  obtain⟨p,a5,hm⟩:=hm;have a5:(SV.pan (M.pv e):SV Y)= .pan p:=a5;cases a5;refine⟨_,rfl,λB σ g w a6 R hB a8 hd=> ?_⟩;obtain⟨r,z,a1,_⟩:=R.blk b _ U;obtain⟨r1,z1,a2,_⟩:=R.blk c _ I;refine(hm B (σ2 (r,z) (r1,z1)) g w a6 (Zsu hE R U I a1 a2 a0 rfl c2 (M.hS x) c3) hB (λc h1 h2=>by simp[panR] at h2;omega) (Zps hE ha (M.hA a) a2 hd)).mono ?_;rintro en w' ⟨he,σ',g',hS,a3⟩;obtain⟨q1,q2⟩:=Uc hE (i:=i) (v:= .pan (M.pv e)) (v0:= .unk) (x':=none) R U a1 rfl hS a3 (λc I=>by cases I) (λc I=>by cases I);exact⟨he,σ,g',q1,q2⟩
theorem Z86{B:Nat} {p q:Nat×Nat} {h:Hp Y} {g J:GH} {w w':World} {σ':Pl} {n:Nat} {a0:List Nat} (a3:∀b∈a0,b=0) (R:Stp 2 n a0 (σ2 p q) g w σ' J w') (a1:Inv E B σ' h J w') (h0:h 0≠au):∀b r z,b≠0->b≠1->h b≠au->σ' b=ae (r,z)->w.heap.size<=r:=by
 intro b r z U a2 hn hs;have a4:σ2 p q b=none:=by
  match b with
  |0=>exact absurd rfl U
  |1=>exact absurd rfl a2
  |b+2=>rfl
 rcases R.blk b r z a4 hs with I|⟨b',I,z',h2⟩
 ·exact I
 ·obtain rfl:=a3 b' I
  have h3:=R.sig 0 _ h2;exact absurd (a1.inj b 0 r z z' hn h0 hs h3) U
noncomputable def Yem(M:MutI E X α β ε) (gth:List (SV Y)->Option Y.Th) (n:Nat) (dec:SV Y->Option β) (U:Value->Option ε) (x:X) (out:Except ε (β×X)) (r:Res Y):Prop:=
 match memB 1 r.mods with
 |true=>False
 |false=>(match Zap r.v with
  |some q=>(match U q with|some e=>out= .error e|none=>False)
  |none=>frzK E gth (patch (two (M.dS.enc x)) 2 r) n r.v λv' bs=>
   (match patch (two (M.dS.enc x)) 2 r 0 with
   |some (.raw J 0 _)=>frzL (frzK E gth (patch (two (M.dS.enc x)) 2 r) n) J λR I=>
    (match memB 0 (bs++I)||memB 1 (bs++I),dec v',M.dS.dec R with
    |false,ae y,ae x'=>out= .ok (y,x')
    |_,_,_=>False)
   |_=>False))
theorem Z87(U:EngOk E) {l:List (SV Y)} (hn:nidL 0 l=ac) {p q:Nat×Nat} {σ:Pl} {g:GH} {vals:List Value} (a0:σ 1=ae q) (hd:DenL E σ g (.ptr 1 0::l) vals):DenL E (σ2 p q) g (.ptr 1 0::l) vals:=by
 refine⟨hd.1,λj sv u I J=> ?_⟩;cases j with
 |zero=>
  simp at I;subst I;have:=hd.2 0 _ u rfl J;cases this;rename_i R;rw[a0] at R;cases R;exact .ptr (E:=E) (b:=1) rfl
 |succ j=>
  have I:l[j]? =ae sv:=by simpa using I
  exact Zw U (hd.2 (j+1) sv u (by simpa using I) J) (λb p hb=>by omega) (Zs hn I)
theorem Zpt(hE:EngOk E) {call:Nat->List (SV Y)->Hp Y->Nat->(Res Y->Prop)->Prop} (d4:Wy E call) {M:MutI E X α β ε} {gth:List (SV Y)->Option Y.Th} {n:Nat} {dec:SV Y->Option β} {b5:Value->Option ε} (d5:∀v y,dec v=ae y->∀σ g u,Den E σ g v u->Den E σ g (M.v y) u) (d6:∀q e,b5 q=ae e->M.pv e=q)
 {f:Nat} {x:X} {a:α} {out:Except ε (β×X)} (hk:call f (.ptr 1 0::M.dA.enc a) (two (M.dS.enc x)) 2 (Yem M gth n dec b5 x out)):Zd7 M f x a out:=by
 obtain⟨r,hr,hR,a9⟩:=d4 f _ _ _ _ (Yel _) hk
 unfold Yem at hr
 split at hr
 ·exact hr.elim
 rename_i c0
 have b3:∀b∈r.mods,b=0:=λb hb=>by
  obtain⟨y,hy⟩:=aU.1 (hR b hb)
  rcases Zmq hy with⟨e,_⟩|⟨e,_⟩
  ·exact e
  ·subst e;rw[memB_iff.2 hb] at c0;cases c0
 have b6:∀(p q:Nat×Nat) (b:Nat),2<=b->b<2+r.n->σ2 p q b=none:=by
  intro p q b hb _
  match b,hb with
  |b+2,_=>rfl
 have c5:∀(p q:Nat×Nat) (g I a5:GH) (w w':World) (σ':Pl),Stp 2 r.n r.mods (σ2 p q) g w σ' I w'->I.le a5->(∀q o v,a5.cell q o=ae v->I.cell q o=ae v\/w.heap.size<=q)->(∀q es,a5.obj q=ae es->I.obj q=ae es\/w.heap.size<=q)->Stp 2 0 [0] (σ2 p q) g w (σ2 p q) a5 w':=by
  intro p q g I a5 w w' σ' U a6 hc hm
  refine⟨.refl _,λb q h=> .inl h,U.gle.trans a6,λq o v R=> ?_,λq es R=> ?_,λq hq hx=>U.heap q hq λb hb=>hx b (by rw[b3 b hb];simp),U.size,U.os,U.tape,U.output,λb q z J h2=>by rw[J] at h2;cases h2⟩
  ·rcases hc q o v R with J|J
   ·rcases U.gcnew q o v J with h2|h2|⟨b,h2,h3⟩
    ·exact .inl h2
    ·exact .inr (.inl h2)
    ·exact .inr (.inr ⟨b,by rw[b3 b h2];simp,h3⟩)
   ·exact .inr (.inl J)
  ·rcases hm q es R with J|J
   ·exact U.gmnew q es J
   ·exact .inr J
 have start:∀(B:Nat) (σ:Pl) (g:GH) (w:World) (a2:Array Value),Inv E B σ (two (M.dS.enc x)) g w->DenL E σ g (.ptr 1 0::M.dA.enc a) a2.toList->∃rr zz r1 z1,σ 0=ae (rr,zz)/\σ 1=ae (r1,z1)/\Inv E B (σ2 (rr,zz) (r1,z1)) (two (M.dS.enc x)) g w/\DenL E (σ2 (rr,zz) (r1,z1)) g (.ptr 1 0::M.dA.enc a) a2.toList:=by
  intro B σ g w a2 hI hd
  obtain⟨rr,zz,a4,_⟩:=hI.blk 0 _ (Z85 _)
  obtain⟨r1,z1,a8,_⟩:=hI.blk 1 _ (Yiv _)
  exact⟨rr,zz,r1,z1,a4,a8,Zsu hE hI (Z85 _) (Yiv _) a4 a8 (by omega) rfl rfl (M.hS x) (λσ g j e5 hj=>⟨e5,hj,λu h=>h⟩),Z87 hE (M.hA a) a8 hd⟩
 split at hr
 ·rename_i q hq
  split at hr
  case h_2=>exact hr.elim
  rename_i e he
  subst hr
  show Yix E f _ _ (M.pv e)
  refine⟨_,rfl,λB σ g w a2 hI hB d8 hd=> ?_⟩
  obtain⟨rr,zz,r1,z1,a4,a8,a1,b2⟩:=start B σ g w a2 hI hd
  refine(a9.panic hq a1 hB (b6 _ _) b2).mono ?_
  rintro en w' ⟨rfl,σ',I,U,a0⟩
  refine⟨by rw[d6 q e he],?_⟩
  have b1:=c5 _ _ g I I w w' σ' U (.refl _) (λ_ _ _ h=> .inl h) (λ_ _ h=> .inl h)
  have b0:Inv E B (σ2 (rr,zz) (r1,z1)) (λ_=>au) I w':=⟨a0.gc,a0.gm,(λb x hx=>by cases hx),λb b' r z z' J=>absurd rfl J,λb r z hs=>⟨(a1.base b r z hs).1,bY (a1.base b r z hs).2 U.size⟩,(λb x r z o v hx=>by cases hx),(λb x r z hx=>by cases hx),a0.glob⟩
  obtain⟨q1,q2⟩:=Uc hE (i:=2) (v:= .pan (M.pv e)) (v0:= .unk) (x':=none) hI (Z85 _) a4 rfl b1 b0 (λc hc=>by cases hc) (λc hc=>by cases hc)
  refine⟨σ,I,q1,?_⟩
  have e2:patch (two (M.dS.enc x)) 2 ⟨.pan (M.pv e),0,[0],at1 0 (rawO au),au⟩=patch (two (M.dS.enc x)) 2 (panR (M.pv e)):=by
   funext b
   rw[Zp,Zp]
   by_cases c:b=0
   ·subst c
    rw[if_pos (by simp),if_pos (by simp[panR])]
    rfl
   ·rw[if_neg (by simp[c]),if_neg (by simp[panR,c])]
  rw[<-e2];exact q2
 ·rename_i hq
  have a9:=a9.tri hq
  obtain⟨v',bs,hr,o1⟩:=Zbb hE n r.v _ hr
  split at hr
  case h_2=>exact hr.elim
  rename_i c2 tg h0
  obtain⟨c7,c6,hr,o2⟩:=Ui (Zbb hE n) hr
  split at hr
  case h_2=>exact hr.elim
  rename_i y x' a7 hy e4
  rw[bG] at a7
  subst hr
  show Yiw E f _ _ (M.v y) _
  intro B σ g w a2 hh e1 hI hB d8 hd
  obtain rfl:hh=two (M.dS.enc x):=funext λb=>e1 b trivial
  obtain⟨rr,zz,r1,z1,a4,a8,a1,b2⟩:=start B σ g w a2 hI hd
  refine(a9 B _ g w a2 _ (λ_ _=>rfl) a1 hB (b6 _ _) b2).mono ?_
  rintro en w' ⟨u,rfl,σ',I,U,a0,R⟩
  refine⟨u,rfl,?_⟩
  have b4:σ' 0=ae (rr,zz):=U.sig 0 _ rfl
  have e7:rr<w.heap.size:=(a1.base 0 rr zz rfl).2
  have d7:=Z86 b3 U a0 (by rw[h0];simp)
  have a6:=Zcx (n:=w.heap.size) a0
  have b9:Kept E (patch (two (M.dS.enc x)) 2 r) σ' (bs++c6) w' (allG I w.heap.size w'):=by
   intro b hb q z y1 hs a3 j v hj R
   have c8:b≠0:=by
    rintro rfl
    have:=memB_iff.2 hb
    rw[this] at a7;cases a7.1
   have c9:b≠1:=by
    rintro rfl
    have:=memB_iff.2 hb
    rw[this] at a7;cases a7.2
   show(if w.heap.size<=q then w'.cell? ⟨q,j,au⟩ else I.cell q j)=ae v
   rw[if_pos (d7 b q z c8 c9 (by rw[a3];simp) hs)]
   exact R
  have e3:=o1.den _ σ' I w' B u _ (λ_ _=>rfl) a0 a6 (b9.sub λb hb=>ez _ hb) R
  have b7:∀q o v,(allG I w.heap.size w').cell q o=ae v->I.cell q o=ae v\/w.heap.size<=q:=by
   intro q o v R
   have R:(if w.heap.size<=q then w'.cell? ⟨q,o,au⟩ else I.cell q o)=ae v:=R
   split at R
   ·exact .inr (by assumption)
   ·exact .inl R
  have c4:∀q es,(allG I w.heap.size w').obj q=ae es->I.obj q=ae es\/w.heap.size<=q:=by
   intro q es R
   have R:(if w.heap.size<=q then(match w'.heap[q]? with|some (.map es _)=>ae es|_=>au) else I.obj q)=ae es:=R
   split at R
   ·exact .inr (by assumption)
   ·exact .inl R
  have b1:=c5 _ _ g I _ w w' σ' U a6 b7 c4
  have hG:=Zgc (n:=w.heap.size) (B':=B) a0
  obtain⟨c1,e6,c3⟩:=M.dS.ok _ _ e4
  have b0:Inv E B (σ2 (rr,zz) (r1,z1)) (one (M.dS.enc x')) (allG I w.heap.size w') w':=by
   refine⟨hG.gc,hG.gm,λb y1 a3=> ?_,λb b' q z z' J h2 _ _=>by rw[Zef J,Zef h2],λb q z hs=>⟨(a1.base b q z hs).1,bY (a1.base b q z hs).2 U.size⟩,λb y1 q z o v a3 hs R=> ?_,λb y1 q z a3 hs=> ?_,hG.glob⟩
   ·obtain⟨rfl,rfl⟩:=U1 a3
    refine⟨rr,zz,rfl,?_⟩
    obtain⟨r2,z2,m1,arr,e,k1,k2,k3,k4,k5⟩:=a0.blk 0 _ h0
    rw[b4] at m1;cases m1
    have hl:c7.length=c2.length:=o2.len
    refine⟨arr,e,k1,k2,?_,λj sv hj=> ?_,trivial⟩
    ·simp only[Blk.cells] at k3⊢;omega
    ·obtain⟨s1,J,h2⟩:=c3 σ0 (allG I w.heap.size w') j sv hj
     have b8:j<c2.length:=by rw[<-hl];exact(ak.1 J).1
     obtain⟨v,m1,m2⟩:=k4 j _ (ai b8)
     have:=o2.den _ σ' I w' B _ (λ_ _=>rfl) a0 a6 (b9.sub λb hb=>dw _ hb) j _ s1 v (ai b8) J m2
     exact⟨v,m1,(h2 v this).mono (λb p h=>by cases h) (.refl _)⟩
   ·obtain⟨rfl,rfl⟩:=U1 a3
    rcases σ2_some hs with⟨_,e⟩|⟨e0,_⟩
    case inr=>omega
    cases e
    rcases b7 _ o v R with J|J
    ·have h2:o<0:=a0.fz 0 (.raw c2 0 tg) _ _ o v h0 b4 J
     omega
    ·omega
   ·obtain⟨rfl,rfl⟩:=U1 a3
    rcases σ2_some hs with⟨_,e⟩|⟨e0,_⟩
    case inr=>omega
    cases e
    cases d9:(allG I w.heap.size w').obj rr with
    |none=>rfl
    |some es=>
     rcases c4 _ es d9 with J|J
     ·rw[a0.fm 0 _ _ _ h0 b4] at J;cases J
     ·omega
  obtain⟨q1,q2⟩:=Uc hE (i:=2) (v:=M.v y) (v0:= .unk) (x':=some (M.dS.enc x')) hI (Z85 _) a4 rfl b1 b0 (λc hc=>by cases hc;rfl) (λc hc=>by cases hc;exact M.hS x')
  exact⟨σ,_,q1,q2,(d5 v' y hy _ _ u e3).mono (λb p h=>by cases h) (.refl _)⟩
end
end
end
section
open Go
noncomputable def mK2{α J:Type} (I:DcL E α) (R:∀a,nidL 0 (I.enc a)=ac) (d:Dc E J) (U:∀y,nid 0 (d.enc y)=ac) (l:List Tok) (e:Int) (out:PR J):Res thy->Prop:=
 Yem (mI I R d U) (λ_=>au) 3 d.dec Zvm (l,e,()) out
theorem Zsv{F:Fns thy} (hF:FnsOk E F) {n:Nat} {α U:Type} {I:DcL E α} {J:∀a,nidL 0 (I.enc a)=ac} {d:Dc E U} {R:∀y,nid 0 (d.enc y)=ac} {f:Nat} {l:List Tok} {e:Int} {a:α} {out:PR U}
 (hk:Zk E F (vc E F n) f (.ptr 1 0::I.enc a) (two [.psl de l ab,.int ab .i64 e]) 2 (mK2 I J d R l e out)):Zd7 (mI I J d R) f (l,e,()) a out:=
 Zpt E_ok (Zd E_ok hF n) (λv y h=>(d.ok v y h).2.2) Zpz (x:=(l,e,())) hk
def sMul:List Nat:= [42]
def Zsw:List Nat:= [43]
def Zkx:List Nat:= [45]
def op1(l:List Tok):Int×List Tok:=if isW sMul l then(5,l.tail) else(0,l)
def op2(l:List Tok):Int×List Tok:=if isW Zsw l then(3,l.tail) else if isW Zkx l then(4,l.tail) else(0,l)
def pOp(o:List Tok->Int×List Tok) (l:List Tok) (e:Int):PR Int:= .ok ((o l).1,(o l).2,e,())
theorem Z89(l:List Tok) (e:Int) (out:PR Int):Zk E Fme (vc E Fme 400) 151 [.ptr 1 0] (two [.psl de l ab,.int ab .i64 e]) 2 (mK2 .nil n0 dN (λ_=>rfl) l e out)=(
(isW [(42:Nat)] l=ac->out=aT ((5:Int),bv l,e,()))/\(isW [(42:Nat)] l=ab->out=aT ((0:Int),l,e,()))):=by kernel_rfl
theorem Z9a(l:List Tok) (e:Int) (out:PR Int):Zk E Fme (vc E Fme 400) 152 [.ptr 1 0] (two [.psl de l ab,.int ab .i64 e]) 2 (mK2 .nil n0 dN (λ_=>rfl) l e out)=(
(isW [(43:Nat)] l=ac->out=aT ((3:Int),bv l,e,()))/\(isW [(43:Nat)] l=ab->(isW [(45:Nat)] l=ac->out=aT ((4:Int),bv l,e,()))/\(isW [(45:Nat)] l=ab->out=aT ((0:Int),l,e,())))):=by kernel_rfl
theorem Yen(l:List Tok) (e:Int):Zd7 (mI .nil n0 dN (λ_=>rfl)) 151 (l,e,()) () (pOp op1 l e):=by
 refine Zsv Zg8 (n:=400) (a:=()) ?_;rw[show(DcL.nil (E:=E)).enc ()= [] from rfl,Z89];exact⟨λh=>by simp[pOp,op1,sMul,h],λh=>by simp[pOp,op1,sMul,h]⟩
theorem Yeo(l:List Tok) (e:Int):Zd7 (mI .nil n0 dN (λ_=>rfl)) 152 (l,e,()) () (pOp op2 l e):=by
 refine Zsv Zg8 (n:=400) (a:=()) ?_;rw[show(DcL.nil (E:=E)).enc ()= [] from rfl,Z9a];exact⟨λh=>by simp[pOp,op2,Zsw,h],λh=>⟨λI=>by simp[pOp,op2,Zsw,Zkx,h,I],λI=>by simp[pOp,op2,Zsw,Zkx,h,I]⟩⟩
theorem Z3g(l:List Tok):(op1 l).2.length<=l.length:=by
 unfold op1;split
 ·have:=Z3 (by assumption);show l.tail.length<=_;omega
 ·exact aw _
theorem Z3h(l:List Tok):(op2 l).2.length<=l.length:=by
 unfold op2;split
 ·have:=Z3 (by assumption);show l.tail.length<=_;omega
 ·split
  ·have:=Z3 (by assumption);show l.tail.length<=_;omega
  ·exact aw _
def Za1(o:List Tok->Int×List Tok) (pf:PE):Nat->Ex->Int->List Tok->Int->PR Ex
 |0,x,_,l,e=> .ok (x,l,e,())
 |k+1,x,op,l,e=>
  if op=0 then .ok (x,l,e,())
  else match pf l e with
   | .error I=> .error I
   | .ok (y,z)=>Za1 o pf k (.mk op 0 0 0 0 0 [x,y]) (o z.1).1 (o z.1).2 z.2.1
def pCh(o:List Tok->Int×List Tok) (pf:PE) (l:List Tok) (e:Int):PR Ex:=
 match pf l e with
 | .error I=> .error I
 | .ok (y,z)=>Za1 o pf ((o z.1).2.length+1) y (o z.1).1 (o z.1).2 z.2.1
noncomputable def Sop1:Sum thy:=Z3e (mI .nil n0 dN (λ_=>rfl)) (λ_ _=>True) λx _=>pOp op1 x.1 x.2.1
noncomputable def Sop2:Sum thy:=Z3e (mI .nil n0 dN (λ_=>rfl)) (λ_ _=>True) λx _=>pOp op2 x.1 x.2.1
theorem Yep:SumOk E 151 Sop1:=Zmr E_ok (Zc rfl) λx _ _=>Yen x.1 x.2.1
theorem Yeq:SumOk E 152 Sop2:=Zmr E_ok (Zc rfl) λx _ _=>Yeo x.1 x.2.1
structure CX where
 e:Ex
 op:Int
 l:List Tok
 ed:Int
 k:Nat
def celP(T:Fr thy):Nat:=match T 2 with| .fn _ _ [.ptr c _]=>c|_=>0
def parP(T:Fr thy) (h:Hp thy):Nat:=match h (celP T) with|some (.raw [.ptr p _] _ _)=>p|_=>0
noncomputable def Ach:Fr thy->Hp thy->Nat->Ann thy:=λT h i=>{X:=CX,fr:=λx=> [(1,T 1),(2,T 2),(6,T 6),(7,T 7),(8,.int ab .i64 x.op)],bl:=λx=>(parP T h,.raw [.psl de x.l ab,.int ab .i64 x.ed] 0 au)::(celP T,.raw [.ptr (parP T h) 0] 0 au)::(bOf (T 7),.raw (E.enc ij x.e) 0 au)::blkP h (T 6),src:=λ_=> [],md:= [parP T h,bOf (T 7)],ih:=i,M:=i+60,meas:=λx=>x.k,fz:= [7]}
noncomputable def Sfac(n:Nat) (pf:PE):Sum thy:=sumM (mI .nil n0 dEx (λ_=>rfl)) (λx _=>x.1.length<n) λx _=>pf x.1 x.2.1
noncomputable def Stm(n:Nat) (pf:PE):Sum thy:=Z3e (mI .nil n0 dEx (λ_=>rfl)) (λx _=>x.1.length<n) λx _=>pf x.1 x.2.1
noncomputable def Ftm(n:Nat) (pf:PE):Fns thy:=addL (addS (addS F0 150 (Sfac n pf)) 151 Sop1) 149 3 Ach E
noncomputable def Fxp(n:Nat) (pf:PE):Fns thy:=addL (addS (addS F0 148 (Stm n pf)) 152 Sop2) 149 3 Ach E
abbrev qBT5:=(0:Nat)
abbrev qBT3:=(0:Int)
abbrev qBT1:=(qBT3=qBT3/\qBT3=qBT3/\qBT3=qBT3/\qBT3=qBT3/\qBT3=qBT3/\qBT3=qBT3/\aG au qBT5 qBT5=aG au qBT5 qBT5/\True)
abbrev qBT2(I:Int) (J:CX):=((cA (150:Nat)=cA (150:Nat)/\(qBT5=qBT5/\True)/\True)/\(cA (151:Nat)=cA (151:Nat)/\True/\qBT5=qBT5/\True)/\qBT5=qBT5/\qBT5=qBT5/\I=CX.op J/\True)
abbrev qBT4:=(ab=ac->ab=ac)
theorem Z3i(n:Nat) (pf:PE) (l:List Tok) (e:Int) (out:PR Ex):Zk E (Ftm n pf) (vc E (Ftm n pf) 400) 148 [.ptr 1 0] (two [.psl de l ab,.int ab .i64 e]) 2 (mK2 .nil n0 dEx (λ_=>rfl) l e out)=(
 aa l+(1:Nat)<=n/\(∀(y:Ex) (x':PX),pf l e=aT (y,x')->True/\(∀(a1:Int) (J:PX),pOp op1 (ao x') (ao (aE x'))=aT (a1,J)->∃(R:CX->Prop),(∃(x:CX),R x/\ac=ac/\(qBT2 a1 x)/\((ao J=CX.l x/\qBT4)/\ao (aE J)=CX.ed x/\True)/\(qBT5=qBT5/\True)/\(aJ y=aJ (CX.e x)/\bW y=bW (CX.e x)/\bx y=bx (CX.e x)/\bA y=bA (CX.e x)/\bB y=bB (CX.e x)/\bC y=bC (CX.e x)/\(bw y=bw (CX.e x)/\qBT4)/\True)/\qBT1/\True)/\∀(x:CX),R x->((CX.op x !=qBT3)=ac->aa (CX.l x)+(1:Nat)<=n/\(∀(y:Ex) (x':PX),pf (CX.l x) (CX.ed x)=aT (y,x')->True/\(∀(a2:Int) (U:PX),pOp op1 (ao x') (ao (aE x'))=aT (a2,U)->∃(I:CX),R I/\I.5+(1:Nat)<=x.5/\ac=ac/\(qBT2 a2 I)/\((ao U=CX.l I/\qBT4)/\ao (aE U)=CX.ed I/\True)/\(qBT5=qBT5/\True)/\(CX.op x=aJ (CX.e I)/\qBT3=bW (CX.e I)/\qBT3=bx (CX.e I)/\qBT3=bA (CX.e I)/\qBT3=bB (CX.e I)/\qBT3=bC (CX.e I)/\([bU (aJ (CX.e x)) (bW (CX.e x)) (bx (CX.e x)) (bA (CX.e x)) (bB (CX.e x)) (bC (CX.e x)) (bw (CX.e x)),bU (aJ y) (bW y) (bx y) (bA y) (bB y) (bC y) (bw y)]=bw (CX.e I)/\qBT4)/\True)/\qBT1/\True)/\∀(e:Int×Int),pOp op1 (ao x') (ao (aE x'))=az e->out=az e)/\∀(e:Int×Int),pf (CX.l x) (CX.ed x)=az e->out=az e)/\((CX.op x !=qBT3)=ab->out=aT (bU (aJ (CX.e x)) (bW (CX.e x)) (bx (CX.e x)) (bA (CX.e x)) (bB (CX.e x)) (bC (CX.e x)) (bw (CX.e x)),CX.l x,CX.ed x,())))/\∀(e:Int×Int),pOp op1 (ao x') (ao (aE x'))=az e->out=az e)/\∀(a0:Int×Int),pf l e=az a0->out=az a0):=by kernel_rfl
abbrev qBTa:=(0:Nat)
abbrev qBT8:=(0:Int)
abbrev qBT6:=(qBT8=qBT8/\qBT8=qBT8/\qBT8=qBT8/\qBT8=qBT8/\qBT8=qBT8/\qBT8=qBT8/\aG au qBTa qBTa=aG au qBTa qBTa/\True)
abbrev qBT7(I:Int) (J:CX):=((cA (148:Nat)=cA (148:Nat)/\True/\qBTa=qBTa/\True)/\(cA (152:Nat)=cA (152:Nat)/\True/\qBTa=qBTa/\True)/\qBTa=qBTa/\qBTa=qBTa/\I=CX.op J/\True)
abbrev qBT9:=(ab=ac->ab=ac)
theorem Z3j(n:Nat) (pf:PE) (l:List Tok) (e:Int) (out:PR Ex):Zk E (Fxp n pf) (vc E (Fxp n pf) 400) 94 [.ptr 0 0] (one [.psl de l ab,.int ab .i64 e]) 1 (mK .nil n0 dEx (λ_=>rfl) l e out)=(
 aa l+(1:Nat)<=n/\(∀(y:Ex) (x':PX),pf l e=aT (y,x')->True/\(∀(a1:Int) (J:PX),pOp op2 (ao x') (ao (aE x'))=aT (a1,J)->∃(R:CX->Prop),(∃(x:CX),R x/\ac=ac/\(qBT7 a1 x)/\((ao J=CX.l x/\qBT9)/\ao (aE J)=CX.ed x/\True)/\(qBTa=qBTa/\True)/\(aJ y=aJ (CX.e x)/\bW y=bW (CX.e x)/\bx y=bx (CX.e x)/\bA y=bA (CX.e x)/\bB y=bB (CX.e x)/\bC y=bC (CX.e x)/\(bw y=bw (CX.e x)/\qBT9)/\True)/\qBT6/\True)/\∀(x:CX),R x->((CX.op x !=qBT8)=ac->aa (CX.l x)+(1:Nat)<=n/\(∀(y:Ex) (x':PX),pf (CX.l x) (CX.ed x)=aT (y,x')->True/\(∀(a2:Int) (U:PX),pOp op2 (ao x') (ao (aE x'))=aT (a2,U)->∃(I:CX),R I/\I.5+(1:Nat)<=x.5/\ac=ac/\(qBT7 a2 I)/\((ao U=CX.l I/\qBT9)/\ao (aE U)=CX.ed I/\True)/\(qBTa=qBTa/\True)/\(CX.op x=aJ (CX.e I)/\qBT8=bW (CX.e I)/\qBT8=bx (CX.e I)/\qBT8=bA (CX.e I)/\qBT8=bB (CX.e I)/\qBT8=bC (CX.e I)/\([bU (aJ (CX.e x)) (bW (CX.e x)) (bx (CX.e x)) (bA (CX.e x)) (bB (CX.e x)) (bC (CX.e x)) (bw (CX.e x)),bU (aJ y) (bW y) (bx y) (bA y) (bB y) (bC y) (bw y)]=bw (CX.e I)/\qBT9)/\True)/\qBT6/\True)/\∀(e:Int×Int),pOp op2 (ao x') (ao (aE x'))=az e->out=az e)/\∀(e:Int×Int),pf (CX.l x) (CX.ed x)=az e->out=az e)/\((CX.op x !=qBT8)=ab->out=aT (bU (aJ (CX.e x)) (bW (CX.e x)) (bx (CX.e x)) (bA (CX.e x)) (bB (CX.e x)) (bC (CX.e x)) (bw (CX.e x)),CX.l x,CX.ed x,())))/\∀(e:Int×Int),pOp op2 (ao x') (ao (aE x'))=az e->out=az e)/\∀(a0:Int×Int),pf l e=az a0->out=az a0):=by kernel_rfl
theorem Yiy{n:Nat} {pf:PE} (I:∀l e,l.length<n->V2 (mI .nil n0 dEx (λ_=>rfl)) 150 (l,e,()) () (pf l e)):FnsOk E (Ftm n pf):=Zm E_ok (Zb (Zb F0_ok (X4 E_ok (Zc rfl) λx _ h=>I x.1 x.2.1 h)) Yep) _ _ _
theorem Yiz{n:Nat} {pf:PE} (I:∀l e,l.length<n->Zd7 (mI .nil n0 dEx (λ_=>rfl)) 148 (l,e,()) () (pf l e)):FnsOk E (Fxp n pf):=Zm E_ok (Zb (Zb F0_ok (Zmr E_ok (Zc rfl) λx _ h=>I x.1 x.2.1 h)) Yeq) _ _ _
theorem Z9b{n:Nat} {pf:PE} (a4:∀l e,l.length<n->V2 (mI .nil n0 dEx (λ_=>rfl)) 150 (l,e,()) () (pf l e)) (H:Shr pf) (l:List Tok) (e:Int) (hl:l.length<n):
 Zd7 (mI .nil n0 dEx (λ_=>rfl)) 148 (l,e,()) () (pCh op1 pf l e):=by
 refine Zsv (Yiy a4) (n:=400) (a:=()) ?_
 rw[show(DcL.nil (E:=E)).enc ()= [] from rfl,Z3i];delta qBT5 qBT3 qBT1 qBT2 qBT4
 refine⟨by omega,λy x' h=>⟨trivial,λy1 x1 ho=> ?_,λer ho=>by cases ho⟩,λer h=>by simp[pCh,h]⟩
 unfold pOp at ho
 injection ho with ho
 injection ho with a2 a3
 subst a2;subst a3
 have hs:=H _ _ _ _ h
 have a6:=Z3g x'.1
 refine⟨λx=>Za1 op1 pf x.k x.e x.op x.l x.ed=pCh op1 pf l e/\x.l.length<x.k/\x.l.length<n,⟨⟨y,(op1 x'.1).1,(op1 x'.1).2,x'.2.1,(op1 x'.1).2.length+1⟩,⟨by simp[pCh,h],(by show(op1 x'.1).2.length<(op1 x'.1).2.length+1;omega),(by show(op1 x'.1).2.length<n;omega)⟩,by simp⟩,?_⟩
 rintro⟨x,op,l1,ed,k⟩ ⟨hR,hk,hn⟩
 have hk:l1.length<k:=hk
 have hn:l1.length<n:=hn
 cases k with
 |zero=>omega
 |succ k=>
  have hR:Za1 op1 pf (k+1) x op l1 ed=pCh op1 pf l e:=hR
  rw[<-hR]
  refine⟨λI=>⟨by omega,λy2 R J=>⟨trivial,λy3 x3 U=> ?_,λer U=>by cases U⟩,λer J=> ?_⟩,λI=> ?_⟩
  ·unfold pOp at U
   injection U with U
   injection U with a0 a1
   subst a0;subst a1
   have I:op≠0:=by simpa using I
   have J:pf l1 ed= .ok (y2,R):=J
   have hq:=H _ _ _ _ J
   have a5:=Z3g R.1
   refine⟨⟨.mk op 0 0 0 0 0 [x,y2],(op1 R.1).1,(op1 R.1).2,R.2.1,k⟩,⟨?_,(by show(op1 R.1).2.length<k;omega),(by show(op1 R.1).2.length<n;omega)⟩,aw _,?_⟩
   ·show Za1 op1 pf k _ _ _ _=_
    simp[Za1,I,J]
   ·simp only[Ex.eta]
    repeat' (first|exact rfl|exact trivial|exactλh=>h|apply aB)
  ·have I:op≠0:=by simpa using I
   have J:pf l1 ed= .error er:=J
   simp[Za1,I,J]
  ·have I:op=0:=by simpa using I
   simp[Za1,I,Ex.eta]
theorem Z3k{n:Nat} {pf:PE} (a4:∀l e,l.length<n->Zd7 (mI .nil n0 dEx (λ_=>rfl)) 148 (l,e,()) () (pf l e)) (H:Shr pf) (l:List Tok) (e:Int) (hl:l.length<n):
 V2 (mI .nil n0 dEx (λ_=>rfl)) 94 (l,e,()) () (pCh op2 pf l e):=by
 refine U7 (Yiz a4) (n:=400) (a:=()) ?_
 rw[show(DcL.nil (E:=E)).enc ()= [] from rfl,Z3j];delta qBTa qBT8 qBT6 qBT7 qBT9
 refine⟨by omega,λy x' h=>⟨trivial,λy1 x1 ho=> ?_,λer ho=>by cases ho⟩,λer h=>by simp[pCh,h]⟩
 unfold pOp at ho
 injection ho with ho
 injection ho with a2 a3
 subst a2;subst a3
 have hs:=H _ _ _ _ h
 have a6:=Z3h x'.1
 refine⟨λx=>Za1 op2 pf x.k x.e x.op x.l x.ed=pCh op2 pf l e/\x.l.length<x.k/\x.l.length<n,⟨⟨y,(op2 x'.1).1,(op2 x'.1).2,x'.2.1,(op2 x'.1).2.length+1⟩,⟨by simp[pCh,h],(by show(op2 x'.1).2.length<(op2 x'.1).2.length+1;omega),(by show(op2 x'.1).2.length<n;omega)⟩,by simp⟩,?_⟩
 rintro⟨x,op,l1,ed,k⟩ ⟨hR,hk,hn⟩
 have hk:l1.length<k:=hk
 have hn:l1.length<n:=hn
 cases k with
 |zero=>omega
 |succ k=>
  have hR:Za1 op2 pf (k+1) x op l1 ed=pCh op2 pf l e:=hR
  rw[<-hR]
  refine⟨λI=>⟨by omega,λy2 R J=>⟨trivial,λy3 x3 U=> ?_,λer U=>by cases U⟩,λer J=> ?_⟩,λI=> ?_⟩
  ·unfold pOp at U
   injection U with U
   injection U with a0 a1
   subst a0;subst a1
   have I:op≠0:=by simpa using I
   have J:pf l1 ed= .ok (y2,R):=J
   have hq:=H _ _ _ _ J
   have a5:=Z3h R.1
   refine⟨⟨.mk op 0 0 0 0 0 [x,y2],(op2 R.1).1,(op2 R.1).2,R.2.1,k⟩,⟨?_,(by show(op2 R.1).2.length<k;omega),(by show(op2 R.1).2.length<n;omega)⟩,aw _,?_⟩
   ·show Za1 op2 pf k _ _ _ _=_
    simp[Za1,I,J]
   ·simp only[Ex.eta]
    repeat' (first|exact rfl|exact trivial|exactλh=>h|apply aB)
  ·have I:op≠0:=by simpa using I
   have J:pf l1 ed= .error er:=J
   simp[Za1,I,J]
  ·have I:op=0:=by simpa using I
   simp[Za1,I,Ex.eta]
end
section
open Go
def Bnd(I:PE):Prop:=∀l e x y,I l e= .ok (x,y)->x.sz+2*y.1.length<=2*l.length
theorem Bnd.shr{pe:PE} (h:Bnd pe):Shr pe:=λl e x y I=>by
 have:=h l e x y I;have:=Ex.sz_pos x;omega
theorem Zj1:∀(a b:List Ex),Ex.szL (a++b)=Ex.szL a+Ex.szL b
 | [],b=>by simp[Ex.szL]
 |x::a,b=>by simp[Ex.szL,Zj1 a b];omega
theorem Ztz{pe:PE} (h:Bnd pe):∀{ss:List (List Nat)} {J:List Ex} {l:List Tok} {e:Int} {xs:List Ex} {y:PX},pOpL pe ss J l e= .ok (xs,y)->Ex.szL xs+2*y.1.length<=Ex.szL J+2*l.length
 | [],J,l,e,xs,y,I=>by
  unfold pOpL at I
  injection I with I
  injection I with R U
  subst R;subst U
  exact aw _
 |s::r,J,l,e,xs,y,I=>by
  unfold pOpL at I
  split at I
  ·cases I
  ·rename_i x z hx
   split at I
   ·rename_i hw
    have R:=h _ _ _ _ hx
    have U:=Z3 hw
    have h3:=Ztz h I
    rw[Zj1] at h3
    have h4:Ex.szL [x]=x.sz:=by simp[Ex.szL]
    omega
   ·cases I
theorem Zt0{R:PE} (h:Bnd R) {op:Int} {ss:List (List Nat)} {l:List Tok} {e:Int} {x:Ex} {y:PX} (I:pOps R op ss l e= .ok (x,y)):x.sz+2*y.1.length<=2*l.length:=by
 unfold pOps at I;split at I
 ·rename_i hw
  split at I
  ·cases I
  ·rename_i xs z hx
   injection I with I
   injection I with U J
   subst U;subst J;have h3:=Ztz h hx;have J:=Z3 hw;rw[Ex.sz_eq];show Ex.szL xs+1+_<=_;have:Ex.szL ([]:List Ex)=0:=rfl;omega
 ·cases I
theorem Zz5{l:List Tok} {e:Int} {d:List Int} {y:PX} (I:Zex l e= .ok (d,y)):y.1.length<=l.length:=by
 unfold Zex at I;split at I
 ·cases I
 ·rename_i k x hc
  have hx:x.1.length<=l.length:=by
   rcases Wn hc with⟨J,_,rfl⟩|⟨_,_,rfl⟩
   ·have:=Zcm J;show l.tail.length<=_;omega
   ·exact aw _
  split at I
  ·rename_i U
   have U:=Z3 U;split at I
   ·cases I
   ·rename_i j x1 hm
    obtain⟨J,_,rfl⟩:=Zbh hm;have:=Zcm J;injection I with I
    injection I with _ R
    subst R;show x.1.tail.tail.length<=_;omega
  ·injection I with I
   injection I with _ R
   subst R;exact hx
theorem Znu{pe:PE} (h:Bnd pe):Bnd (Zn9 pe):=by
 intro l e x y I;unfold Zn9 at I;split at I
 ·rename_i U
  have U:=Z3 U;split at I
  ·cases I
  ·rename_i x1 y1 hx
   have R:=h _ _ _ _ hx;split at I
   ·rename_i a0
    have a0:=Z3 a0;injection I with I
    injection I with J h3
    subst J;subst h3;show _+2*y1.1.tail.length<=_;omega
   ·cases I
 ·split at I
  ·rename_i U
   have U:=Z3 U;have:=Zt0 h I;omega
  ·split at I
   ·cases I
   ·rename_i k y1 hc
    split at I
    ·have R:=Zt0 h I
     rcases Wn hc with⟨J,_,rfl⟩|⟨_,_,rfl⟩
     ·have:=Zcm J
      have R:x.sz+2*y.1.length<=2*l.tail.length:=R;omega
     ·exact R
    ·split at I
     ·cases I
     ·rename_i a z hm
      obtain⟨R,_,rfl⟩:=Zbh hm;have hp:=Zcm R;injection I with I
      injection I with J h3
      subst J;subst h3;have hy:y1.1.length<=l.length:=by
       rcases Wn hc with⟨J,_,rfl⟩|⟨_,_,rfl⟩
       ·have:=Zcm J;show l.tail.length<=_;omega
       ·exact aw _
      show 1+2*y1.1.tail.length<=_;omega
theorem Zlh{J:PE} (h:Bnd J):Bnd (pFac J):=by
 intro l e x y I;unfold pFac at I;split at I
 ·exact Znu h _ _ _ _ I
 ·split at I
  ·split at I
   ·cases I
   ·rename_i t r _ _ d z hu
    have h1:=Zz5 hu;injection I with I
    injection I with R U
    subst R;subst U;show 1+2*z.1.length<=2*(r.length+1);omega
  ·exact Znu h _ _ _ _ I
def Cns(o:List Tok->Int×List Tok):Prop:=∀l,2*(o l).2.length+(if(o l).1=0 then 0 else 2)<=2*l.length
theorem Zz6:Cns op1:=by
 intro l;unfold op1;split
 ·have:=Z3 (by assumption);show 2*l.tail.length+2<=_;omega
 ·simp
theorem Ycf:Cns op2:=by
 intro l;unfold op2;split
 ·have:=Z3 (by assumption);show 2*l.tail.length+2<=_;omega
 ·split
  ·have:=Z3 (by assumption);show 2*l.tail.length+2<=_;omega
  ·simp
theorem Znv{o:List Tok->Int×List Tok} {pf:PE} (U:Cns o) (h:Bnd pf):∀{k:Nat} {x:Ex} {op:Int} {l:List Tok} {e:Int} {z:Ex} {y:PX},Za1 o pf k x op l e= .ok (z,y)->z.sz+2*y.1.length<=x.sz+2*l.length+(if op=0 then 0 else 2)
 |0,x,op,l,e,z,y,I=>by
  unfold Za1 at I
  injection I with I
  injection I with J R
  subst J;subst R
  exact kb _ _
 |k+1,x,op,l,e,z,y,I=>by
  unfold Za1 at I
  split at I
  ·injection I with I
   injection I with J R
   subst J;subst R
   exact kb _ _
  ·rename_i a0
   split at I
   ·cases I
   ·rename_i y1 z1 hx
    have h1:=h _ _ _ _ hx
    have J:=Znv U h I
    have R:=U z1.1
    have h4:(bU op 0 0 0 0 0 [x,y1]).sz=x.sz+y1.sz+1:=by rw[Ex.sz_eq];simp[bw,Ex.szL]
    rw[h4] at J
    rw[if_neg a0]
    omega
theorem Zq6{o:List Tok->Int×List Tok} {pf:PE} (J:Cns o) (h:Bnd pf):Bnd (pCh o pf):=by
 intro l e x y I;unfold pCh at I;split at I
 ·cases I
 ·rename_i y1 U R
  have h1:=h _ _ _ _ R;have h2:=Znv J h I;have h3:=J U.1;omega
def pE:Nat->PE
 |0=>λl e=> .error (hdT e l,160)
 |n+1=>pCh op2 (pCh op1 (pFac (pE n)))
theorem Znw:∀n,Bnd (pE n)
 |0=>λl e x y I=>by cases I
 |n+1=>Zq6 Ycf (Zq6 Zz6 (Zlh (Znw n)))
theorem Zt1:∀(n:Nat) (l:List Tok) (e:Int),l.length<n->V2 (mI .nil n0 dEx (λ_=>rfl)) 94 (l,e,()) () (pE n l e)
 |0,l,e,h=>by omega
 |n+1,l,e,h=>Z3k (n:=n+1) (λl e h=>Z9b (n:=n+1) (λl e h=>Zxe (Zt1 n) (Znw n).shr l e h) (Zlh (Znw n)).shr l e h) (Zq6 Zz6 (Zlh (Znw n))).shr l e h
def pX(l:List Tok) (e:Int):PR Ex:=pE (l.length+1) l e
noncomputable def Sx:Sum thy:=sumM (mI .nil n0 dEx (λ_=>rfl)) (λ_ _=>True) λx _=>pX x.1 x.2.1
theorem Yj8:SumOk E 94 Sx:=X4 E_ok (Zc rfl) λx _ _=>Zt1 _ _ _ (eJ _)
theorem Zt2:Bnd pX:=λl e x y I=>Znw _ l e x y I
end
section
open Go
noncomputable def dCl:Dc E Cls:=(dR .clauses:Dc E (thy.dom bq))
noncomputable def dCls:Dc E (List Cls):=(Ze4 (E:=E) bq:Dc E (List (thy.dom bq)))
noncomputable def Yj5:Sum thy:=sumM (mI (dA1 dN) (n1 λ_=>rfl) dTs (λ_=>rfl)) (λ_ _=>True) λx a=>Zco a.1 x.1 x.2.1
theorem Ya3:SumOk E 93 Yj5:=X4 E_ok (Zc rfl) λx a _=>Z7o x.1 x.2.1 a.1
def Aif:Fr thy->Hp thy->Nat->Ann thy:=λT h i=>{X:=LX,fr:=λx=> [(0,T 0),(1,T 1),(7,T 7),(8,.int ab .i64 x.k)],bl:=λx=>(match T 1 with| .fn _ _ [v]=>blkP h v|_=> []),src:=λ_=> [],md:= [],ih:=i,M:=i+30,meas:=λx=>x.r}
structure TX where
 ts:List Tst
 l:List Tok
 ed:Int
 more:Bool
 k:Nat
def cellsOf(h:Hp thy) (v:SV thy):List (SV thy):=match h (bOf v) with|some (.raw cs _ _)=>cs|_=> []
def Atl:Fr thy->Hp thy->Nat->Ann thy:=λT h i=>{X:=Bool×TX,fr:=λx=> [(0,T 0),(4,T 4),(5,T 5),(6,T 6),(7,.bool ab x.2.more)],bl:=λx=>(bOf (T 0),.raw [.psl de x.2.l ab,.int ab .i64 x.2.ed] 0 au)::(bOf (T 6),.raw ((cellsOf h (T 6)).take 1++((match x.1 with|true=> .sl i 0 x.2.ts.length 3 au|false=> .val (.slice au 0 0))::(cellsOf h (T 6)).drop 2)) 0 au)::((match x.1 with|true=> [(i,.rows Th.tests x.2.ts 0)]|false=> [])++blkP h (T 4)),src:=λx=>(match x.1 with|true=> [(i,2006)]|false=> []),md:= [bOf (T 0),bOf (T 6)],ih:=i+1,M:=i+60,meas:=λx=>x.2.k,ex:=ex2,al:=al2,exOk:=Ziy,alOk:=Ziz}
noncomputable def Fcl:Fns thy:=addL (addL (addS (addS (addS (addS Fme 49 Z7k) 93 Yj5) 94 Sx) 95 Zng) 146 2 Aif E) 51 6 Atl E
theorem Yj6:FnsOk E Fcl:=Zm E_ok (Zm E_ok (Zb (Zb (Zb (Zb Zg8 Zud) Ya3) Yj8) Zjc) _ _ _) _ _ _
def pTs:Nat->Bool->List Tst->List Tok->Int->PR (List Tst)
 |0,_,ts,l,e=> .ok (ts,l,e,())
 |k+1,more,ts,l,e=>
  if more then
   match Zco ts.length l e with
   | .error I=> .error I
   | .ok (t,x)=>pTs k (isW [97,110,100] x.1) (ts++ [t]) (if isW [97,110,100] x.1 then x.1.tail else x.1) x.2.1
  else .ok (ts,l,e,())
def pPay(J:List Nat) (ts:List Tst) (l:List Tok) (e:Int):PR Cls:=
 if isW [112,97,121] l then
  match pX l.tail e with
  | .error I=> .error I
  | .ok (x,y)=>
   if 24<Y5 x then .error (hdT e l.tail,2)
   else if isW [59] y.1 then .ok (⟨J,ts,x⟩,y.1.tail,y.2.1,()) else .error (hdT y.2.1 y.1,160)
 else .error (hdT e l,160)
def pAft(J:List Nat) (r:PR (List Tst)):PR Cls:=
 match r with
 | .error I=> .error I
 | .ok (ts,y)=>pPay J ts y.1 y.2.1
def Xu(bs:List Cls) (l:List Tok) (e:Int):PR Cls:=
 match Ziw l e with
 | .error J=> .error J
 | .ok (I,x)=>
  if bs.any (λb=>b.name==I) then .error (hdT e l,161)
  else pAft I (pTs 10 (isW [119,104,101,110] x.1) [] (if isW [119,104,101,110] x.1 then x.1.tail else x.1) x.2.1)
theorem Zbg{l:List Tok} {e:Int} {y:List Nat} {x:PX} (h:Ziw l e= .ok (y,x)):x.1.length<l.length:=by
 unfold Ziw at h;split at h
 ·cases h
 ·split at h
  ·split at h
   ·cases h
   ·injection h with h
    injection h with _ h
    subst h;exact eJ _
  ·cases h
theorem Znn{l:List Tok} {e:Int} {y:Int} {x:PX} (h:pInt l e= .ok (y,x)):x.1.length<l.length:=by
 unfold pInt at h;split at h
 ·cases h
 ·split at h
  ·injection h with h
   injection h with _ h
   subst h;exact eJ _
  ·cases h
theorem Zws{s:List Nat} {l:List Tok}:(if isW s l=ac then l.tail else l).length<=l.length:=by
 split
 ·have:=Z3 (by assumption);omega
 ·exact aw _
theorem Zjj{n:Int} {l:List Tok} {e:Int} {y:Tst} {x:PX} (h:Zco n l e= .ok (y,x)):x.1.length<l.length/\n≠8:=by
 unfold Zco at h;split at h
 ·cases h
 ·rename_i a x0 hm
  obtain⟨h1,_,rfl⟩:=Zbh hm;have hp:=Zcm h1;split at h
  ·cases h
  ·rename_i hn
   refine⟨?_,hn⟩;split at h
   ·rename_i I
    have I:=Z3 I;split at h
    ·cases h
    ·rename_i m J hi
     have hi:=Znn hi;injection h with h
     injection h with _ h
     subst h;have I:l.tail.tail.length+1=l.tail.length:=I;have hi:J.1.length<l.tail.tail.length:=hi;omega
   ·split at h
    ·rename_i I
     have I:=Z3 I;split at h
     ·cases h
     ·rename_i m J hi
      have hi:=Znn hi;have I:l.tail.tail.length+1=l.tail.length:=I;have hi:J.1.length<l.tail.tail.length:=hi;split at h
      ·rename_i U
       have U:=Z3 U;split at h
       ·cases h
       ·rename_i k x2 R
        have R:=Znn R;injection h with h
        injection h with _ h
        subst h;omega
      ·cases h
    ·cases h
abbrev Zqr(R:Bool×TX->Prop) (y:Int) (a1:List Nat) (out:PR Cls):Prop:=
 ∀(J:TX),R (ab,J)->(TX.more J=ac->True/\(∀(I:Tst) (x':PX),Zco (0:Int) (TX.l J) (TX.ed J)=aT (I,x')->True/\(∀(a2:Bool) (a0
 :PX),pAcc [(97:Nat),(110:Nat),(100:Nat)] (ao x') (ao (aE x'))=aT (a2,a0)->(∃(U:TX),R (ab,U)/\U.5+(1:Nat)<=J.5/\
 ac=ac/\((0:Nat)=(0:Nat)/\(0:Nat)=(0:Nat)/\y=y/\(0:Nat)=(0:Nat)/\a2=TX.more U/\True)/\((ao a0=TX.l U/\(ab=ac->ab=
 ac))/\ao (aE a0)=TX.ed U/\True)/\(a1=a1/\False/\(0:Int)=(0:Int)/\(0:Int)=(0:Int)/\(0:Int)=(0:Int)/\(0:Int)=(0:Int)/\(0:
 Int)=(0:Int)/\(0:Int)=(0:Int)/\aG au (0:Nat) (0:Nat)=aG au (0:Nat) (0:Nat)/\True)/\(([]:List Nat)= []/\aG au (0:
 Nat) (0:Nat)=aG au (0:Nat) (0:Nat)/\(0:Int)=(0:Int)/\(0:Int)=(0:Int)/\(0:Int)=(0:Int)/\(0:Int)=(0:Int)/\(0:Int)=(0:Int)/\(0
 :Int)=(0:Int)/\aG au (0:Nat) (0:Nat)=aG au (0:Nat) (0:Nat)/\True)/\True)\/∃(U:TX),R (ac,U)/\U.5+(1:Nat)<=J.5/\ac
 =ac/\((0:Nat)=(0:Nat)/\(0:Nat)=(0:Nat)/\y=y/\(0:Nat)=(0:Nat)/\a2=TX.more U/\True)/\((ao a0=TX.l U/\(ab=ac->ab=ac))
 /\ao (aE a0)=TX.ed U/\True)/\(a1=a1/\((0:Nat)=(0:Nat)/\(1:Nat)=aa (TX.ts U)/\True)/\(0:Int)=(0:Int)/\(0:Int)=(0:Int)
 /\(0:Int)=(0:Int)/\(0:Int)=(0:Int)/\(0:Int)=(0:Int)/\(0:Int)=(0:Int)/\aG au (0:Nat) (0:Nat)=aG au (0:Nat) (0:Nat)/\
 True)/\([I]=TX.ts U/\(0:Nat)=(0:Nat))/\(([]:List Nat)= []/\aG au (0:Nat) (0:Nat)=aG au (0:Nat) (0:Nat)/\(0:Int)=(0:Int)
 /\(0:Int)=(0:Int)/\(0:Int)=(0:Int)/\(0:Int)=(0:Int)/\(0:Int)=(0:Int)/\(0:Int)=(0:Int)/\aG au (0:Nat) (0:Nat)=aG au
 (0:Nat) (0:Nat)/\True)/\True)/\∀(e:Int×Int),pAcc [(97:Nat),(110:Nat),(100:Nat)] (ao x') (ao (aE x'))=az e->out=az
 e)/\∀(e:Int×Int),Zco (0:Int) (TX.l J) (TX.ed J)=az e->out=az e)/\(TX.more J=ab->(isW [(112:Nat),(97:Nat),(121:Nat)] (TX.l
 J)=ac->∀(y:Int),y=hdT (TX.ed J) (bv (TX.l J))->True/\(∀(I:Ex) (x':PX),pX (bv (TX.l J)) (TX.ed J)=aT (I,x')->Ex.sz (bU
 (aJ I) (bW I) (bx I) (bA I) (bB I) (bC I) (bw I))+(1:Nat)<=(1000000000000:Nat)/\(decide ((↑(Y5 (bU (aJ I) (bW I) (bx
 I) (bA I) (bB I) (bC I) (bw I))):Int)>(24:Int))=ac->out=az (y,(2:Int)))/\(decide ((↑(Y5 (bU (aJ I) (bW I) (bx
 I) (bA I) (bB I) (bC I) (bw I))):Int)>(24:Int))=ab->(isW [(59:Nat)] (ao x')=ac->out=aT (eP a1 [] (bU (aJ I)
 (bW I) (bx I) (bA I) (bB I) (bC I) (bw I)),bv (ao x'),ao (aE x'),()))/\(isW [(59:Nat)] (ao x')=ab->out=
 az (hdT (ao (aE x')) (ao x'),(160:Int)))))/\∀(e:Int×Int),pX (bv (TX.l J)) (TX.ed J)=az e->out=az e)/\
 (isW [(112:Nat),(97:Nat),(121:Nat)] (TX.l J)=ab->out=az (hdT (TX.ed J) (TX.l J),(160:Int))))
abbrev Zjk(x':PX) (y:Int) (a0:List Nat) (out:PR Cls):Prop:=
 ∀(a4:Bool) (a2:PX),pAcc [(119:Nat),(104:Nat),(101:Nat),(110:Nat)] (ao x') (ao (aE x'))=aT (a4,a2)->∃(R:Bool×TX->Prop),
 ((∃(I:TX),R (ab,I)/\ac=ac/\((0:Nat)=(0:Nat)/\(0:Nat)=(0:Nat)/\y=y/\(0:Nat)=(0:Nat)/\a4=TX.more I/\True)/\((ao a2=TX.l
 I/\(ab=ac->ab=ac))/\ao (aE a2)=TX.ed I/\True)/\(a0=a0/\aG au (0:Nat) (0:Nat)=aG au (0:Nat) (0:Nat)/\
 (0:Int)=(0:Int)/\(0:Int)=(0:Int)/\(0:Int)=(0:Int)/\(0:Int)=(0:Int)/\(0:Int)=(0:Int)/\(0:Int)=(0:Int)/\aG au (0:Nat) (0:
 Nat)=aG au (0:Nat) (0:Nat)/\True)/\(([]:List Nat)= []/\aG au (0:Nat) (0:Nat)=aG au (0:Nat) (0:Nat)/\(0:Int)=(0:Int)
 /\(0:Int)=(0:Int)/\(0:Int)=(0:Int)/\(0:Int)=(0:Int)/\(0:Int)=(0:Int)/\(0:Int)=(0:Int)/\aG au (0:Nat) (0:Nat)=aG au
 (0:Nat) (0:Nat)/\True)/\True)\/∃(y:TX),R (ac,y)/\ac=ac/\False)/\(Zqr R y a0 out)/\∀(I:TX),R (ac,I)->(TX.more I=ac->True/\(∀
 (J:Tst) (x':PX),Zco (↑(aa (TX.ts I)):Int) (TX.l I) (TX.ed I)=aT (J,x')->(aa (TX.ts I)<=aa (TX.ts I)/\(0:Nat)<=
 aa (TX.ts I)/\(aa (TX.ts I)+(1:Nat))*(24:Nat)<=(140737488355328:Nat))/\True/\(∀(a3:Bool) (a1:PX),pAcc [(97:Nat),(110:Nat),(100
 :Nat)] (ao x') (ao (aE x'))=aT (a3,a1)->(∃(U:TX),R (ab,U)/\U.5+(1:Nat)<=I.5/\ac=ac/\((0:Nat)=(0:Nat)/\(0:
 Nat)=(0:Nat)/\y=y/\(0:Nat)=(0:Nat)/\a3=TX.more U/\True)/\((ao a1=TX.l U/\(ab=ac->ab=ac))/\ao (aE a1)=TX.ed U
 /\True)/\(a0=a0/\False/\(0:Int)=(0:Int)/\(0:Int)=(0:Int)/\(0:Int)=(0:Int)/\(0:Int)=(0:Int)/\(0:Int)=(0:Int)/\(0:Int)=(0:Int)/\
 aG au (0:Nat) (0:Nat)=aG au (0:Nat) (0:Nat)/\True)/\(([]:List Nat)= []/\aG au (0:Nat) (0:Nat)=aG au (0:Nat) (0
 :Nat)/\(0:Int)=(0:Int)/\(0:Int)=(0:Int)/\(0:Int)=(0:Int)/\(0:Int)=(0:Int)/\(0:Int)=(0:Int)/\(0:Int)=(0:Int)/\aG au (0:
 Nat) (0:Nat)=aG au (0:Nat) (0:Nat)/\True)/\True)\/∃(U:TX),R (ac,U)/\U.5+(1:Nat)<=I.5/\ac=ac/\((0:Nat)=(0:Nat)/\(0:Nat)
 =(0:Nat)/\y=y/\(0:Nat)=(0:Nat)/\a3=TX.more U/\True)/\((ao a1=TX.l U/\(ab=ac->ab=ac))/\ao (aE a1)=TX.ed U/\
 True)/\(a0=a0/\((0:Nat)=(0:Nat)/\aa (TX.ts I)+(1:Nat)=aa (TX.ts U)/\True)/\(0:Int)=(0:Int)/\(0:Int)=(0:Int)/\(0:Int)=
 (0:Int)/\(0:Int)=(0:Int)/\(0:Int)=(0:Int)/\(0:Int)=(0:Int)/\aG au (0:Nat) (0:Nat)=aG au (0:Nat) (0:Nat)/\True)/\
 (av (aa (TX.ts I)) (TX.ts I)++ [J]=TX.ts U/\(0:Nat)=(0:Nat))/\(([]:List Nat)= []/\aG au (0:Nat) (0:Nat)=aG au
 (0:Nat) (0:Nat)/\(0:Int)=(0:Int)/\(0:Int)=(0:Int)/\(0:Int)=(0:Int)/\(0:Int)=(0:Int)/\(0:Int)=(0:Int)/\(0:Int)=(0:Int)/\aG
 au (0:Nat) (0:Nat)=aG au (0:Nat) (0:Nat)/\True)/\True)/\∀(e:Int×Int),pAcc [(97:Nat),(110:Nat),(100:Nat)] (ao x') (ao (aE
 x'))=az e->out=az e)/\∀(e:Int×Int),Zco (↑(aa (TX.ts I)):Int) (TX.l I) (TX.ed I)=az e->out=az e)/\
 (TX.more I=ab->(isW [(112:Nat),(97:Nat),(121:Nat)] (TX.l I)=ac->∀(y:Int),y=hdT (TX.ed I) (bv (TX.l I))->True/\(∀(J:Ex) (x':PX),
 pX (bv (TX.l I)) (TX.ed I)=aT (J,x')->Ex.sz (bU (aJ J) (bW J) (bx J) (bA J) (bB J) (bC J) (bw J))+(1:Nat)<=
 (1000000000000:Nat)/\(decide ((↑(Y5 (bU (aJ J) (bW J) (bx J) (bA J) (bB J) (bC J) (bw J))):Int)>(24:Int))=ac->out=
 az (y,(2:Int)))/\(decide ((↑(Y5 (bU (aJ J) (bW J) (bx J) (bA J) (bB J) (bC J) (bw J))):Int)>(24:Int))=ab->(isW
 [(59:Nat)] (ao x')=ac->(0:Nat)+aa (TX.ts I)<=aa (TX.ts I)/\out=aT (eP a0 (av (aa (TX.ts I)) (cj (0
 :Nat) (TX.ts I))) (bU (aJ J) (bW J) (bx J) (bA J) (bB J) (bC J) (bw J)),bv (ao x'),ao (aE x'),()))/\(isW [(59
 :Nat)] (ao x')=ab->out=az (hdT (ao (aE x')) (ao x'),(160:Int)))))/\∀(e:Int×Int),pX (bv (TX.l I)) (TX.ed I)=
 az e->out=az e)/\(isW [(112:Nat),(97:Nat),(121:Nat)] (TX.l I)=ab->out=az (hdT (TX.ed I) (TX.l I),(160:Int))))
abbrev Zjl(I:List Nat):Prop:=
 I=I/\aG au (0:Nat) (0:Nat)=aG au (0:Nat) (0:Nat)/\(0:Int)=(0:Int)/\(0:Int)=(0:Int)/\(0:Int)=(0:Int)/\(0:Int)=(0:
 Int)/\(0:Int)=(0:Int)/\(0:Int)=(0:Int)/\aG au (0:Nat) (0:Nat)=aG au (0:Nat) (0:Nat)/\True
abbrev Zjm:Prop:=
 cA (92:Nat)=cA (92:Nat)/\True/\(0:Nat)=(0:Nat)/\True
abbrev qBV1(I:List Cls):=(↑(aa I):Int)
abbrev qBV2(I:LX):=(↑(LX.k I):Int)
theorem Ztu(l:List Tok) (e:Int) (bs:List Cls) (out:PR Cls):Zk E Fcl (vc E Fcl 400) 51 [.ptr 0 0,.psl bq bs ab] (one [.psl de l ab,.int ab .i64 e]) 1 (mK (dA1 dCls) (n1 λ_=>rfl) dCl (λ_=>rfl) l e out)=(
 ∀(y:Int),y=hdT e l->True/\(∀(I:List Nat) (x':PX),Ziw l e=aT (I,x')->∃(R:LX->Prop),(∃(x:LX),R x/\ac=ac/\((bs=bs/\(ab=ac->ab=ac))/\(Zjm)/\(qBV1 bs)=(qBV1 bs)/\(0:Int)=(qBV2 x)/\True)/\(Zjl I)/\True)/\∀(x:LX),R x->(decide ((qBV2 x)<(qBV1 bs))=ac->(0:Int)<=(qBV2 x)/\(qBV2 x)+(1:Int)<=(qBV1 bs)/\∀(J:Cls),bs[ag (qBV2 x)]? =ae J->((aP J==I)=ac->(decide ((qBV2 x)>=(0:Int))=ac->out=az (y,(161:Int)))/\(decide ((qBV2 x)>=(0:Int))=ab->True/\(Zjk x' y I out)/\∀(e:Int×Int),pAcc [(119:Nat),(104:Nat),(101:Nat),(110:Nat)] (ao x') (ao (aE x'))=az e->out=az e))/\((aP J==I)=ab->∃(U:LX),R U/\U.2+(1:Nat)<=x.2/\ac=ac/\((bs=bs/\(ab=ac->ab=ac))/\(Zjm)/\(qBV1 bs)=(qBV1 bs)/\wr af ((qBV2 x)+(1:Int))=(qBV2 U)/\True)/\(Zjl I)/\True))/\(decide ((qBV2 x)<(qBV1 bs))=ab->True/\(Zjk x' y I out)/\∀(e:Int×Int),pAcc [(119:Nat),(104:Nat),(101:Nat),(110:Nat)] (ao x') (ao (aE x'))=az e->out=az e))/\∀(a0:Int×Int),Ziw l e=az a0->out=az a0):=by kernel_rfl
theorem Zzw(bs:List Cls) (l:List Tok) (e:Int) (hl:l.length<1000000000) (hb:bs.length<=1000000000):V2 (mI (dA1 dCls) (n1 λ_=>rfl) dCl (λ_=>rfl)) 51 (l,e,()) (bs,()) (Xu bs l e):=by
 refine U7 Yj6 (n:=400) (a:=(bs,())) ?_;rw[show(dA1 dCls).enc (bs,())= [.psl bq bs ab] from rfl,Ztu];delta qBV1 qBV2;unfold Zjm Zjl Zjk Zqr;intro y0 b0;subst b0;refine⟨trivial,λnm x h1=> ?_,λer h1=>by simp[Xu,h1]⟩;have hx:=Zbg h1;refine⟨λz=>z.k<=bs.length/\(bs.drop z.k).any (λb=>b.name==nm)=bs.any (λb=>b.name==nm)/\z.r=bs.length-z.k,⟨⟨0,bs.length,[],0⟩,⟨(by dsimp only;omega),rfl,rfl⟩,by simp⟩,?_⟩;rintro z ⟨hk,hv,hr⟩;refine⟨λhq=> ?_,λhq=>⟨trivial,λmore x1 h2=> ?_,λer h2=>by cases h2⟩⟩
 ·have hq:(z.k:Int)<bs.length:=by simpa using hq
  refine⟨by omega,by omega,λc hc=> ?_⟩;have hc:bs[z.k]? =ae c:=hc;have a8:=(ak.1 hc).1;have a6:bs[z.k]=c:=(ak.1 hc).2;rw[cr a8,a6,List.any_cons] at hv;refine⟨λI=>⟨λ_=> ?_,λa9=>absurd a9 (by rw[decide_eq_false_iff_not];omega)⟩,λI=> ?_⟩
  ·rw[I,dK] at hv
   simp[Xu,h1,<-hv]
  ·rw[I,dy] at hv
   exact⟨⟨z.k+1,bs.length-(z.k+1),[],0⟩,⟨(by dsimp only;omega),hv,rfl⟩,(by show bs.length-(z.k+1)+1<=z.r;omega),rfl,⟨⟨rfl,λh=>h⟩,⟨rfl,trivial,rfl,trivial⟩,rfl,wr64 (by omega) (by omega),trivial⟩,⟨rfl,rfl,rfl,rfl,rfl,rfl,rfl,rfl,rfl,trivial⟩,trivial⟩
 ·have hq:¬(z.k:Int)<bs.length:=by simpa using hq
  rw[bF (by omega),List.any_nil] at hv;unfold pAcc at h2;injection h2 with h2
  injection h2 with e1 e2
  subst e1;subst e2;have a4:Xu bs l e=pAft nm (pTs 10 (isW [119,104,101,110] x.1) [] (if isW [119,104,101,110] x.1 then x.1.tail else x.1) x.2.1):=by simp[Xu,h1,<-hv]
  rw[a4];clear hv hk hr hq;have b1:=Zws (s:= [119,104,101,110]) (l:=x.1);generalize hO:pAft nm (pTs 10 (isW [119,104,101,110] x.1) [] (if isW [119,104,101,110] x.1 then x.1.tail else x.1) x.2.1)=OUT at a4⊢;refine⟨λp=>pAft nm (pTs p.2.k p.2.more p.2.ts p.2.l p.2.ed)=OUT/\p.2.ts.length+p.2.k=10/\p.2.ts.length<=8/\p.2.l.length<1000000000/\(p.1=ab->p.2.ts= []),.inl ⟨⟨[],if isW [119,104,101,110] x.1 then x.1.tail else x.1,x.2.1,isW [119,104,101,110] x.1,10⟩,⟨hO,rfl,bb _,(by dsimp only;omega),λ_=>rfl⟩,by simp⟩,?_,?_⟩
  ·rintro⟨ts,l1,ed,more,k⟩ ⟨hR,hk,h8,a0,a5⟩
   have a5:ts= []:=a5 rfl;subst a5;have hk:k=10:=by simpa using hk
   subst hk;have hR:pAft nm (pTs 10 more [] l1 ed)=OUT:=hR;have a3:l1.length<1000000000:=a0;clear a0;have a0:=a3;clear a3;rw[<-hR];clear hR a4 hO;refine⟨λJ=>⟨trivial,λt R h3=>⟨trivial,λm2 x3 U=> ?_,λer U=>by cases U⟩,λer h3=> ?_⟩,λJ=> ?_⟩
   ·have a1:more=true:=J
    have a2:Zco 0 l1 ed= .ok (t,R):=h3;clear J h3;subst a1;unfold pAcc at U;injection U with U
    injection U with e1 e2
    subst e1;subst e2;have hq:=Zjj a2;have a7:=Zws (s:= [97,110,100]) (l:=R.1);refine .inr ⟨⟨[t],if isW [97,110,100] R.1 then R.1.tail else R.1,R.2.1,isW [97,110,100] R.1,9⟩,⟨by simp[pTs,a2],rfl,(by show 1<=8;omega),(by dsimp only;omega),λh=>by cases h⟩,aw _,by simp⟩
   ·have a1:more=true:=J
    have a2:Zco 0 l1 ed= .error er:=h3;clear J h3;subst a1;simp[pTs,pAft,a2]
   ·have a1:more=false:=J
    clear J;subst a1;revert a0;dsimp only;intro a0;refine⟨λw y hy=>⟨trivial,λex x4 h5=> ?_,λer h5=>by simp[pTs,pAft,pPay,w,h5]⟩,λw=>by simp[pTs,pAft,pPay,w]⟩;subst hy;have hs:=Zt2 _ _ _ _ h5;have hw:=Z3 w;rw[Ex.eta];refine⟨by omega,λI=> ?_,λI=>⟨λw2=> ?_,λw2=> ?_⟩⟩
    ·have I:(24:Int)<Y5 ex:=by simpa using I
     have I:24<Y5 ex:=by omega
     simp[pTs,pAft,pPay,w,h5,I]
    ·have I:(Y5 ex:Int)<=24:=by simpa using I
     have I:¬24<Y5 ex:=by omega
     simp[pTs,pAft,pPay,w,h5,I,w2]
    ·have I:(Y5 ex:Int)<=24:=by simpa using I
     have I:¬24<Y5 ex:=by omega
     simp[pTs,pAft,pPay,w,h5,I,w2]
  ·rintro⟨ts,l1,ed,more,k⟩ ⟨hR,hk,h8,a0,_⟩
   have hk:ts.length+k=10:=hk;have h8:ts.length<=8:=h8;have hR:pAft nm (pTs k more ts l1 ed)=OUT:=hR;have a3:l1.length<1000000000:=a0;clear a0;have a0:=a3;clear a3;rw[<-hR];clear hR a4 hO;obtain⟨k,rfl⟩:∃k',k=k'+1:=⟨k-1,by omega⟩;refine⟨λJ=>⟨trivial,λt R h3=>⟨⟨aw _,bb _,(by dsimp only;omega)⟩,trivial,λm2 x3 U=> ?_,λer U=>by cases U⟩,λer h3=> ?_⟩,λJ=> ?_⟩
   ·have a1:more=true:=J
    have a2:Zco ts.length l1 ed= .ok (t,R):=h3;clear J h3;subst a1;unfold pAcc at U;injection U with U
    injection U with e1 e2
    subst e1;subst e2;have hq:=Zjj a2;have a7:=Zws (s:= [97,110,100]) (l:=R.1);refine .inr ⟨⟨ts++ [t],if isW [97,110,100] R.1 then R.1.tail else R.1,R.2.1,isW [97,110,100] R.1,k⟩,⟨by simp[pTs,a2],(by simp;omega),(by simp;omega),(by dsimp only;omega),λh=>by cases h⟩,aw _,by simp⟩
   ·have a1:more=true:=J
    have a2:Zco ts.length l1 ed= .error er:=h3;clear J h3;subst a1;simp[pTs,pAft,a2]
   ·have a1:more=false:=J
    clear J;subst a1;revert a0;dsimp only;intro a0;refine⟨λw y hy=>⟨trivial,λex x4 h5=> ?_,λer h5=>by simp[pTs,pAft,pPay,w,h5]⟩,λw=>by simp[pTs,pAft,pPay,w]⟩;subst hy;have hs:=Zt2 _ _ _ _ h5;have hw:=Z3 w;rw[Ex.eta];refine⟨by omega,λI=> ?_,λI=>⟨λw2=> ?_,λw2=> ?_⟩⟩
    ·have I:(24:Int)<Y5 ex:=by simpa using I
     have I:24<Y5 ex:=by omega
     simp[pTs,pAft,pPay,w,h5,I]
    ·have I:(Y5 ex:Int)<=24:=by simpa using I
     have I:¬24<Y5 ex:=by omega
     exact⟨by omega,by simp[pTs,pAft,pPay,w,h5,I,w2]⟩
    ·have I:(Y5 ex:Int)<=24:=by simpa using I
     have I:¬24<Y5 ex:=by omega
     simp[pTs,pAft,pPay,w,h5,I,w2]
end
end Go.Proofs.YtpmhbnameoklkaaGreatDoor
