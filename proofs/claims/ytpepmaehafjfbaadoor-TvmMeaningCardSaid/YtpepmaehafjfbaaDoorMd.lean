/- Merged texts: TvBin, Money, TvB, TvC, TvD, TvE, TvF, TvG, TvH, TvI, TvJ, TvTopA, TmTop, TtS, TcA, EngZH, TtA, TtD, TvX, TtE, TvLay, TtG, TtF, TtH, TcB, TcD, TpP0, TcG, EngZI, EngZJ, EngZM, TtI. -/
import Derived.Test.YtpepmaehafjfbaaDoorTie
import Derived.Test.YtpepmaehafjfbaaDoorCards
import Derived.Stop.Joined
import Derived.SevenTiedAt
import Derived.WideKeyElems2
import Derived.Test.YtpepmaehafjfbaaDoorProg
import Derived.Shelf.Strings.SlTrimAscii
import Derived.Shelf.Strings.Builder1
import Derived.Shelf.Strings.Count
import Derived.Shelf.Strconv.AtoiAll
import Derived.Shelf.Strconv.Itoa3
import Derived.Shelf.Strconv.Itoa0
import Derived.Shelf.Strconv.Itoa1
import Derived.Test.YtpepmaehafjfbaaDoorMc
noncomputable section
namespace Go.Proofs.YtpepmaehafjfbaaDoor
set_option linter.unusedVariables false
set_option linter.unusedSimpArgs false
set_option linter.unnecessarySimpa false
set_option maxRecDepth 100000
section
open Go.ChangeShapes Go.WideShapes Go.ChangeAt Go.RowKit
theorem gBin:Tryd.prog.globalNamed "wagonpool/tvm.binaries" =some 1:=by kernel_rfl
theorem tBin:(Tryd.prog.globals[1]?).map (·.type)=some 127:=by kernel_rfl
abbrev Z2j:List (String×DataW Unit):= [("wagonpool/tvm.binaries",Rows.laid_wagonpool_tvm_binaries)]
def binD:List (Lit×DataW (List UInt8)):= [(.int .i64 3,.agg [.held [119,97,103,111,110,112,111,111,108,47,109,111,110,101,121,46,65,100,100]]),(.int .i64 4,.agg [.held [119,97,103,111,110,112,111,111,108,47,109,111,110,101,121,46,83,117,98]]),(.int .i64 5,.agg [.held [119,97,103,111,110,112,111,111,108,47,109,111,110,101,121,46,77,117,108]]),(.int .i64 6,.agg [.held [119,97,103,111,110,112,111,111,108,47,116,118,109,46,98,105,110,97,114,105,101,115,36,49]]),(.int .i64 7,.agg [.held [119,97,103,111,110,112,111,111,108,47,116,118,109,46,98,105,110,97,114,105,101,115,36,50]]),(.int .i64 8,.agg [.held [119,97,103,111,110,112,111,111,108,47,116,118,109,46,98,105,110,97,114,105,101,115,36,51]]),(.int .i64 9,.agg [.held [119,97,103,111,110,112,111,111,108,47,116,118,109,46,98,105,110,97,114,105,101,115,36,52]]),(.int .i64 10,.agg [.held [119,97,103,111,110,112,111,111,108,47,116,118,109,46,98,105,110,97,114,105,101,115,36,53]]),(.int .i64 11,.agg [.held [119,97,103,111,110,112,111,111,108,47,116,118,109,46,98,105,110,97,114,105,101,115,36,54]])]
theorem Zzf {w:World} {n:Nat} {v:Value} {y:DataW (List UInt8)×List MemPlace} {b:UInt8} {r:List UInt8} {f0:FuncId} (hone:((List.range Tryd.prog.funcs.size).filter fun f=>(Tryd.prog.funcs[f]?).any (·.name.toUTF8.data.toList==b::r))= [f0])
 (h:WideElems.elemAt (funcToken Tryd.prog) Tryd.prog w 0 (fun _=>true) true n 125 v=some y) (hy:y.1= .agg [.held (b::r)]):v= .agg #[.func (.func f0) #[] #[]]:=by
 unfold WideElems.elemAt at h
 split at h
 · rename_i hfo
   obtain ⟨xs,m,rfl,rfl,hl,hxl,hf⟩:=DataW.trod_struct Tryd.underlying125 h
   have c103:Tryd.prog.cellsOf 125=1:=by kernel_rfl
   have hx1:xs.length=1:=by simpa using hxl
   have h0:=hf 0 _ rfl
   have c101:Tryd.prog.cellsOf 123=1:=by kernel_rfl
   obtain ⟨x0,rfl⟩:∃x0,xs= [x0]:=by
    match xs,hx1 with
    | [x0],_=>exact ⟨x0,rfl⟩
   simp only [List.map_cons,List.map_nil,DataW.agg.injEq,List.cons.injEq,and_true] at hy
   cases v with
   |agg cs=>
    have hcs:cs.toList.length=1:=by rw [<-c103];simpa [Value.cells] using hl
    obtain ⟨v0,hv0⟩:∃v0,cs.toList= [v0]:=by
     match hq:cs.toList,hcs with
     | [v0],_=>exact ⟨v0,rfl⟩
    have h0:DataW.trod (funcToken Tryd.prog) Tryd.prog w 0 (fun _=>true) true m 123 [v0]=some x0:=by
     have h0':DataW.trod (funcToken Tryd.prog) Tryd.prog w 0 (fun _=>true) true m 123 ((((Value.agg cs).cells.toList).drop 0).take (Tryd.prog.cellsOf 123))=some x0:=h0
     rw [c101] at h0'
     have e:(Value.agg cs).cells.toList= [v0]:=hv0
     rw [e] at h0'
     exact h0'
    have hx0:x0=(.held (b::r),x0.2):=by rw [<-hy]
    rw [hx0] at h0
    have:=func_of_trod (f0:=f0) Tryd.underlying123 hone h0
    subst this
    rw [show cs= #[.func (.func f0) #[] #[]] from by rw [<-Array.toList_inj];exact hv0]
   |_=>exact absurd hfo (by simp [Value.formed,Tryd.underlying125])
 · cases h
theorem Zsv {v:Value} {n:Int} (h:keyOf Tryd.prog 3 v=some (.int .i64 n)):v= .int .i64 n:=Zm7 Tryd.underlying3 h
abbrev Zll:List (Value×SV thy):= [binE 3 79,binE 4 81,binE 5 82,binE 6 118,binE 7 119,binE 8 120,binE 9 121,binE 10 122,binE 11 123]
def Zlm (j:Nat):Nat:= [79,81,82,118,119,120,121,122,123].getD j 0
theorem Zeg:∀(j:Nat) p,Zll[j]? =some p->p=binE (j+3) (Zlm j)
 |0,p,h=>by cases h;rfl
 |1,p,h=>by cases h;rfl
 |2,p,h=>by cases h;rfl
 |3,p,h=>by cases h;rfl
 |4,p,h=>by cases h;rfl
 |5,p,h=>by cases h;rfl
 |6,p,h=>by cases h;rfl
 |7,p,h=>by cases h;rfl
 |8,p,h=>by cases h;rfl
 |j+9,p,h=>by simp [Zll] at h
theorem Zzg:∀(j:Nat) p,Zll[j]? =some p->Zll[j]? =some (binE (j+3) (Zlm j)):=fun j p h=>by rw [h,Zeg j p h]
set_option maxRecDepth 100000 in
theorem Zzh {W:World} (h:laidMetH Tryd.prog Z2j W):∃v,W.cell? ⟨1,0,none⟩=some v/\Den E (fun _=>none) (gTop W) (.pmap [binE 3 79,binE 4 81,binE 5 82,binE 6 118,binE 7 119,binE 8 120,binE 9 121,binE 10 122,binE 11 123]) v:=by
 obtain ⟨g,t,cs,fuel,p,hg,ht,hv,hd⟩:=h.funcs (List.mem_singleton.2 rfl)
 obtain rfl:=Option.some.inj (gBin.symm.trans hg)
 obtain rfl:=Option.some.inj (tBin.symm.trans ht)
 have hd':DataW.trod (funcToken Tryd.prog) Tryd.prog W 0 (fun _=>true) true fuel 127 cs.toList=some (.map binD,p):=hd
 rcases WideElems.open_map Tryd.underlying127 hd' with ⟨_,hx⟩|⟨b,es,clk,n,rfl,hcs,hb,_,F,hx⟩
 · simp at hx
 simp only [Prod.mk.injEq,DataW.map.injEq] at hx
 have hmem:∀q,q∈binD↔q∈es.toList.map (WideElems.rg Tryd.prog 3 (WideElems.elemAt (funcToken Tryd.prog) Tryd.prog W 0 (fun _=>true) true n 125)):=fun q=>by rw [hx.1];exact Zbn
 have hcell:W.cell? ⟨1,0,none⟩=some (.map (some b)):=by
  have:=World.var?_cell hg hv 0
  rw [Array.eq_one_of_toList hcs] at this
  simpa using this
 refine ⟨_,hcell,?_⟩
 have entry:∀e∈es.toList,∃y,keyOf Tryd.prog 3 e.key=some (WideElems.rg Tryd.prog 3 (WideElems.elemAt (funcToken Tryd.prog) Tryd.prog W 0 (fun _=>true) true n 125) e).1/\
  WideElems.elemAt (funcToken Tryd.prog) Tryd.prog W 0 (fun _=>true) true n 125 e.val=some y/\y.1=(WideElems.rg Tryd.prog 3 (WideElems.elemAt (funcToken Tryd.prog) Tryd.prog W 0 (fun _=>true) true n 125) e).2:=by
  intro e he
  obtain ⟨z,hz⟩:=F.reads e he
  have hrg:WideElems.rg Tryd.prog 3 (WideElems.elemAt (funcToken Tryd.prog) Tryd.prog W 0 (fun _=>true) true n 125) e=z:=by unfold WideElems.rg;rw [hz];rfl
  rw [hrg]
  unfold WideElems.rd at hz
  simp only [gD9,Option.map_eq_some_iff] at hz
  obtain ⟨key,h1,y,h2,rfl⟩:=hz
  exact ⟨y,h1,h2,rfl⟩
 have one:∀(j:Nat) (k f0:Nat) (nm:List UInt8),binD[j]? =some (.int .i64 k,.agg [.held nm])->(∃b r,nm=b::r)->((List.range Tryd.prog.funcs.size).filter fun f=>(Tryd.prog.funcs[f]?).any (·.name.toUTF8.data.toList==nm))= [f0]->
  ∀e∈es.toList,WideElems.rg Tryd.prog 3 (WideElems.elemAt (funcToken Tryd.prog) Tryd.prog W 0 (fun _=>true) true n 125) e=(.int .i64 k,.agg [.held nm])->e.key= .int .i64 k/\e.val= .agg #[.func (.func f0) #[] #[]]:=by
  rintro j k f0 nm hj ⟨b0,r0,rfl⟩ hone e he hrg
  obtain ⟨y,h1,h2,h3⟩:=entry e he
  rw [hrg] at h1 h3
  exact ⟨Zsv h1,Zzf hone h2 h3⟩
 have all:∀e∈es.toList,∃(j:Nat) (k f0:Nat),Zll[j]? =some (binE k f0)/\e.key= .int .i64 k/\e.val= .agg #[.func (.func f0) #[] #[]]:=by
  intro e he
  have hq:WideElems.rg Tryd.prog 3 (WideElems.elemAt (funcToken Tryd.prog) Tryd.prog W 0 (fun _=>true) true n 125) e∈binD:=(hmem _).2 (List.mem_map_of_mem he)
  simp only [binD,List.mem_cons,List.not_mem_nil,or_false] at hq
  rcases hq with hq|hq|hq|hq|hq|hq|hq|hq|hq
  · exact ⟨0,3,79,rfl,one 0 3 79 _ rfl ⟨_,_,rfl⟩ (by kernel_rfl) e he hq⟩
  · exact ⟨1,4,81,rfl,one 1 4 81 _ rfl ⟨_,_,rfl⟩ (by kernel_rfl) e he hq⟩
  · exact ⟨2,5,82,rfl,one 2 5 82 _ rfl ⟨_,_,rfl⟩ (by kernel_rfl) e he hq⟩
  · exact ⟨3,6,118,rfl,one 3 6 118 _ rfl ⟨_,_,rfl⟩ (by kernel_rfl) e he hq⟩
  · exact ⟨4,7,119,rfl,one 4 7 119 _ rfl ⟨_,_,rfl⟩ (by kernel_rfl) e he hq⟩
  · exact ⟨5,8,120,rfl,one 5 8 120 _ rfl ⟨_,_,rfl⟩ (by kernel_rfl) e he hq⟩
  · exact ⟨6,9,121,rfl,one 6 9 121 _ rfl ⟨_,_,rfl⟩ (by kernel_rfl) e he hq⟩
  · exact ⟨7,10,122,rfl,one 7 10 122 _ rfl ⟨_,_,rfl⟩ (by kernel_rfl) e he hq⟩
  · exact ⟨8,11,123,rfl,one 8 11 123 _ rfl ⟨_,_,rfl⟩ (by kernel_rfl) e he hq⟩
 have back:∀(j:Nat) (k f0:Nat),Zll[j]? =some (binE k f0)->∃e∈es.toList,e.key= .int .i64 k:=by
  intro j k f0 hj
  obtain ⟨d,hd⟩:∃d,((.int .i64 k:Lit),d)∈binD:=by
   match j,hj with
   |0,hj=>cases hj;exact ⟨_,by simp [binD];try rfl⟩
   |1,hj=>cases hj;exact ⟨_,by simp [binD];try rfl⟩
   |2,hj=>cases hj;exact ⟨_,by simp [binD];try rfl⟩
   |3,hj=>cases hj;exact ⟨_,by simp [binD];try rfl⟩
   |4,hj=>cases hj;exact ⟨_,by simp [binD];try rfl⟩
   |5,hj=>cases hj;exact ⟨_,by simp [binD];try rfl⟩
   |6,hj=>cases hj;exact ⟨_,by simp [binD];try rfl⟩
   |7,hj=>cases hj;exact ⟨_,by simp [binD];try rfl⟩
   |8,hj=>cases hj;exact ⟨_,by simp [binD];try rfl⟩
   |j+9,hj=>simp at hj
  obtain ⟨e,he,hrg⟩:=List.mem_map.1 ((hmem _).1 hd)
  obtain ⟨y,h1,h2,h3⟩:=entry e he
  rw [hrg] at h1
  exact ⟨e,he,Zsv h1⟩
 refine Den.pmap (ents:=es) (fun j=> .agg #[.func (.func (Zlm j)) #[] #[]]) (some .i64) ?_ ?_ ?_ ?_ ?_ ?_
 · show (match W.heap[b]? with|some (.map es _)=>some es|_=>none)=some es
   rw [hb]
 · intro j k sv hj
   have:=Zeg j _ hj
   cases this
   exact ⟨_,rfl⟩
 · intro j j' k sv sv' hj hj'
   have e1:=congrArg Prod.fst (Zeg j _ hj)
   have e2:=congrArg Prod.fst (Zeg j' _ hj')
   have e3:(Value.int .i64 ((j+3:Nat):Int))= .int .i64 ((j'+3:Nat):Int):=e1.symm.trans e2
   injection e3 with _ e4
   omega
 · intro e he
   obtain ⟨j,k,f0,hj,hk,hv⟩:=all e he
   have e1:=Zeg j _ hj
   refine ⟨j,.agg [.fn (.func f0) [] []],by rw [hk];exact hj,?_⟩
   rw [hv]
   have e2:=congrArg Prod.snd e1
   have e2:(SV.agg [SV.fn (.func f0) [] []]:SV thy)= .agg [.fn (.func (Zlm j)) [] []]:=e2
   injection e2 with e3
   injection e3 with e4 _
   injection e4 with e5
   rw [e5]
 · intro j k sv hj
   have e1:=congrArg Prod.fst (Zeg j _ hj)
   obtain ⟨e,he,hk⟩:=back j (j+3) (Zlm j) (Zzg j _ hj)
   exact ⟨e,he,hk.trans e1.symm⟩
 · intro j k sv hj
   have e1:=congrArg Prod.snd (Zeg j _ hj)
   have e1:sv= .agg [.fn (.func (Zlm j)) [] []]:=e1
   rw [e1]
   refine .agg (fun _=> .func (.func (Zlm j)) #[] #[]) rfl (fun q hq=> ?_) (fun q sv' hq=> ?_)
   · match q,hq with
     |0,_=>rfl
   · match q,hq with
     |0,hq=>
      cases hq
      exact .fn (fun _=>undef) (fun _=>undef) rfl (fun q hq=>absurd hq (Nat.not_lt_zero _)) (fun q sv hq=>by simp at hq) rfl (fun q hq=>absurd hq (Nat.not_lt_zero _)) (fun q sv hq=>by simp at hq)
end
section
open Go.RowKit
set_option maxHeartbeats 400000 in
theorem Zrz (a:Int) (w:World) (h: -9007199254740992<=a) (h2:a<=9007199254740992):
 Calls Tryd.prog 90 #[.int .i64 a] w fun e w'=>e= .returned (.int .u64 a.natAbs)/\w=w':=by
 go_enter Tryd.func90,Tryd.ntmps90
 go_wp2_with fail
 all_goals go_ret
 · exact ⟨Vd (by simp only [IntKind.wrap_u64];omega),rfl⟩
 · exact ⟨Vd (by omega),rfl⟩
set_option maxHeartbeats 400000 in
theorem Zxg (a:Addr) (n c:Nat) (zs:List Int) (w:World) (hl:zs.length=n) (hn:n<=1000) (hc:∀i,i<n->w.cell? (a.add i)=some (.int .i64 (zs.getD i 0))):
 Calls Tryd.prog 88 #[.slice (some a) n c] w fun e w'=>e= .returned (.bool (zs.all inR))/\w=w':=by
 have H:=Lib.hid hl
 clear hl
 go_enter Tryd.func88,Tryd.ntmps88
 go_wp2_with fail
 go_loop [4,7] (fun _ i=>∃k:Nat,k<=n/\i= .int .i64 k/\(zs.take k).all inR=true) (fun _ i=>n-(intOf i).toNat)
 case atStart=>exact ⟨0,Nat.zero_le _,rfl,rfl⟩
 case round=>
  obtain ⟨k,hk,rfl,hr⟩:=hrel
  have HR:=Lib.hid hr
  clear hr
  by_cases hlt:k<n
  · have hcell:=hc k hlt
    have hg:zs.getD k 0=zs[k]'(by rw [H.out];exact hlt):=by simp [H.out,hlt]
    have hts:zs.take (k+1)=zs.take k++ [zs.getD k 0]:=by
     rw [List.take_succ_eq_append_getElem (by rw [H.out];exact hlt),hg]
    have hall:inR (zs.getD k 0)=false->zs.all inR=false:=by
     intro h
     rw [Bool.eq_false_iff]
     intro hh
     have:=(List.all_eq_true.1 hh) (zs.getD k 0) (by rw [hg];exact List.getElem_mem _)
     rw [h] at this
     cases this
    have HT:=Lib.hid hts
    have HA:=Lib.hid hall
    clear hts hg hc hall
    generalize zs.getD k 0=z at*
    by_cases hz1:z< -9007199254740992
    · go_wp2_with fail
      go_ret
      exact ⟨X6 (HA.out (inR_not.2 (by omega))).symm,rfl⟩
    · by_cases hz2:9007199254740992<z
      · go_wp2_with fail
        go_ret
        exact ⟨X6 (HA.out (inR_not.2 (by omega))).symm,rfl⟩
      · go_wp2_with fail
        go_round
        case rel=>exact ⟨k+1,by omega,by go_num,by rw [HT.out];simp [HR.out,inR_iff];omega⟩
        case measure=>simp [intOf];omega
  · have hkn:zs.length<=k:=by rw [H.out];omega
    have HK:=Lib.hid hkn
    clear hkn
    go_wp2_with fail
    go_ret
    exact ⟨X6 (by rw [<-HR.out,List.take_of_length_le HK.out]),rfl⟩
set_option maxHeartbeats 400000 in
theorem Zfn (a:Int) (w:World):
 Calls Tryd.prog 89 #[.int .i64 a] w fun e w'=>e= .returned (.tuple #[.int .i64 (rngF a).1,.int .i64 (rngF a).2])/\Ext w w':=by
 cases h:inR a
 all_goals
  have e0: [a].all inR=inR a:=by simp
  rw [h] at e0
  have H:=Lib.hid h
  have E0:=Lib.hid e0
  clear h e0
  go_enter Tryd.func89,Tryd.ntmps89
  go_wp2_with fail
  refine (Zxg _ 1 _ [a] _ rfl (by omega) ?_).mono ?_
  · intro i hi
    obtain rfl:i=0:=by omega
    simp [go_sem]
  rw [E0.out]
  rintro e w1 ⟨rfl,rfl⟩
  go_wp2_with fail
  go_ret2
  exact ⟨Zv (by simp [rngF,H.out]) (by simp [rngF,H.out]),(Ext.refl _).alloc _⟩
set_option maxHeartbeats 400000 in
theorem X3 (a b:Int) (w:World) (A:Addr) (c:Nat) (h0:w.cell? (A.add 0)=some (.int .i64 a)) (h1:w.cell? (A.add 1)=some (.int .i64 b)) (r:Bool) (hr:Hid ((inR a&&inR b)=r)):
 Calls Tryd.prog 88 #[.slice (some A) 2 c] w fun e w'=>e= .returned (.bool r)/\w=w':=by
 refine (Zxg A 2 c [a,b] w rfl (by omega) ?_).mono fun e w' h=> ?_
 · intro i hi
   match i,hi with
   |0,_=>exact h0
   |1,_=>exact h1
 · simpa [hr.out] using h
set_option maxHeartbeats 400000 in
theorem Zr0 (a b:Int) (w:World):
 Calls Tryd.prog 79 #[.int .i64 a,.int .i64 b] w fun e w'=>e= .returned (.tuple #[.int .i64 (addF a b).1,.int .i64 (addF a b).2])/\Ext w w':=by
 cases h:inR a&&inR b
 · have H:=Lib.hid h
   clear h
   go_enter Tryd.func79,Tryd.ntmps79
   go_wp2_with fail
   refine (X3 a b _ _ _ (by simp [go_sem]) (by simp [go_sem]) _ H).mono ?_
   rintro e w1 ⟨rfl,rfl⟩
   go_wp2_with fail
   go_ret2
   exact ⟨Zv (by simp only [addF,H.out];rfl) (by simp only [addF,H.out];rfl),(Ext.refl _).alloc _⟩
 · have H:=Lib.hid h
   have hb:=h
   simp only [Bool.and_eq_true,inR_iff] at hb
   obtain ⟨⟨h1,h2⟩,h3,h4⟩:=hb
   clear h
   go_enter Tryd.func79,Tryd.ntmps79
   go_wp2_with fail
   refine (X3 a b _ _ _ (by simp [go_sem]) (by simp [go_sem]) _ H).mono ?_
   rintro e w1 ⟨rfl,rfl⟩
   go_wp2_with fail
   refine (Zfn _ _).mono ?_
   rintro e w1 ⟨rfl,hx⟩
   go_wp2_with fail
   go_ret2
   exact ⟨Zv (by simp only [addF,H.out];rfl) (by simp only [addF,H.out];rfl),((Ext.refl _).alloc _).trans hx⟩
set_option maxHeartbeats 400000 in
theorem Zr1 (a b:Int) (w:World):
 Calls Tryd.prog 81 #[.int .i64 a,.int .i64 b] w fun e w'=>e= .returned (.tuple #[.int .i64 (subF a b).1,.int .i64 (subF a b).2])/\Ext w w':=by
 cases h:inR a&&inR b
 · have H:=Lib.hid h
   clear h
   go_enter Tryd.func81,Tryd.ntmps81
   go_wp2_with fail
   refine (X3 a b _ _ _ (by simp [go_sem]) (by simp [go_sem]) _ H).mono ?_
   rintro e w1 ⟨rfl,rfl⟩
   go_wp2_with fail
   go_ret2
   exact ⟨Zv (by simp only [subF,H.out];rfl) (by simp only [subF,H.out];rfl),(Ext.refl _).alloc _⟩
 · have H:=Lib.hid h
   have hb:=h
   simp only [Bool.and_eq_true,inR_iff] at hb
   obtain ⟨⟨h1,h2⟩,h3,h4⟩:=hb
   clear h
   go_enter Tryd.func81,Tryd.ntmps81
   go_wp2_with fail
   refine (X3 a b _ _ _ (by simp [go_sem]) (by simp [go_sem]) _ H).mono ?_
   rintro e w1 ⟨rfl,rfl⟩
   go_wp2_with fail
   refine (Zfn _ _).mono ?_
   rintro e w1 ⟨rfl,hx⟩
   go_wp2_with fail
   go_ret2
   exact ⟨Zv (by simp only [subF,H.out];rfl) (by simp only [subF,H.out];rfl),((Ext.refl _).alloc _).trans hx⟩
set_option maxHeartbeats 400000 in
theorem Zr2 (x y:Nat) (hx:x<=9007199254740992) (hy:y<=9007199254740992) (w:World):
 Calls Tryd.prog 74 #[.int .u64 x,.int .u64 y] w fun e w'=>e= .returned (.tuple #[.int .u64 (x*y/18446744073709551616:Nat),.int .u64 (x*y%18446744073709551616:Nat)])/\w=w':=by
 go_enter Tryd.func74,Tryd.ntmps74
 go_wp2_with fail
 go_ret2
 refine ⟨Zv ?_ (Z2w x y),rfl⟩
 rw [Ztf x (by omega),Ztf y (by omega)]
 have h:=Z2v (x%4294967296) (x/4294967296) (y%4294967296) (y/4294967296) (by omega) (by omega) (by omega) (by omega)
 rw [Zte x y]
 exact h
set_option maxHeartbeats 400000 in
theorem Zr3 (a b:Int) (w:World):
 Calls Tryd.prog 82 #[.int .i64 a,.int .i64 b] w fun e w'=>e= .returned (.tuple #[.int .i64 (mulF a b).1,.int .i64 (mulF a b).2])/\Ext w w':=by
 cases h:inR a&&inR b
 · have H:=Lib.hid h
   clear h
   go_enter Tryd.func82,Tryd.ntmps82
   go_wp2_with fail
   refine (X3 a b _ _ _ (by simp [go_sem]) (by simp [go_sem]) _ H).mono ?_
   rintro e w1 ⟨rfl,rfl⟩
   go_wp2_with fail
   go_ret2
   exact ⟨Zv (by simp only [mulF,H.out];rfl) (by simp only [mulF,H.out];rfl),(Ext.refl _).alloc _⟩
 · have H:=Lib.hid h
   have hb:=h
   simp only [Bool.and_eq_true,inR_iff] at hb
   obtain ⟨⟨h1,h2⟩,h3,h4⟩:=hb
   clear h
   have hm:=Zwj h1 h2 h3 h4
   have hle:a.natAbs*b.natAbs<=9007199254740992*9007199254740992:=Nat.mul_le_mul (by omega) (by omega)
   have ha:=Zrz a
   have hb:=Zrz b
   have hM:=Zr2 a.natAbs b.natAbs (by omega) (by omega)
   have HM:=Lib.hid hM
   have HA:=Lib.hid ha
   have HB:=Lib.hid hb
   clear ha hb hM
   have hab:inR (a*b)=true-> -9007199254740992<=a*b/\a*b<=9007199254740992:=inR_iff.1
   by_cases hz:a.natAbs*b.natAbs<=9007199254740992
   · have hin:inR (a*b)=true:=by rw [hm];simp [hz]
     have hx:=hab hin
     obtain ⟨hx1,hx2⟩:=hx
     have z1:((a.natAbs*b.natAbs/18446744073709551616:Nat):Int)=0:=by omega
     have z2:((a.natAbs*b.natAbs%18446744073709551616:Nat):Int)<=9007199254740992:=by omega
     have HI:=Lib.hid hin
     have Z1:=Lib.hid z1
     have Z2:=Lib.hid z2
     clear hin hm hab z1 z2 hz hle
     go_enter Tryd.func82,Tryd.ntmps82
     go_wp2_with fail
     refine (X3 a b _ _ _ (by simp [go_sem]) (by simp [go_sem]) _ H).mono ?_
     rintro e w1 ⟨rfl,rfl⟩
     go_wp2_with fail
     refine (HA.out _ h1 h2).mono ?_
     rintro e w1 ⟨rfl,rfl⟩
     go_wp2_with fail
     refine (HB.out _ h3 h4).mono ?_
     rintro e w1 ⟨rfl,rfl⟩
     go_wp2_with fail
     refine (HM.out _).mono ?_
     rw [Z1.out]
     have z2:=Z2.out
     generalize ((a.natAbs*b.natAbs%18446744073709551616:Nat):Int)=q at*
     rintro e w1 ⟨rfl,rfl⟩
     go_wp2_with fail
     go_ret2
     exact ⟨Zv (by simp only [mulF,H.out,rngF,HI.out];rfl) (by simp only [mulF,H.out,rngF,HI.out];rfl),(Ext.refl _).alloc _⟩
   · have hin:inR (a*b)=false:=by rw [hm];simp [hz]
     have HI:=Lib.hid hin
     clear hin hm hab
     generalize a.natAbs*b.natAbs=p at*
     have hp2:((p/18446744073709551616:Nat):Int)=0/\9007199254740992<((p%18446744073709551616:Nat):Int)\/0<((p/18446744073709551616:Nat):Int):=by omega
     generalize ((p/18446744073709551616:Nat):Int)=q1 at*
     generalize ((p%18446744073709551616:Nat):Int)=q2 at*
     clear hz hle
     rcases hp2 with ⟨rfl,hq⟩|hq
     all_goals
      go_enter Tryd.func82,Tryd.ntmps82
      go_wp2_with fail
      refine (X3 a b _ _ _ (by simp [go_sem]) (by simp [go_sem]) _ H).mono ?_
      rintro e w1 ⟨rfl,rfl⟩
      go_wp2_with fail
      refine (HA.out _ h1 h2).mono ?_
      rintro e w1 ⟨rfl,rfl⟩
      go_wp2_with fail
      refine (HB.out _ h3 h4).mono ?_
      rintro e w1 ⟨rfl,rfl⟩
      go_wp2_with fail
      refine (HM.out _).mono ?_
      rintro e w1 ⟨rfl,rfl⟩
      go_wp2_with fail
      go_ret2
      exact ⟨Zv (by simp only [mulF,H.out,rngF,HI.out];rfl) (by simp only [mulF,H.out,rngF,HI.out];rfl),(Ext.refl _).alloc _⟩
set_option maxHeartbeats 400000 in
theorem Zr4 (a b m:Int) (w:World):
 Calls Tryd.prog 91 #[.int .i64 a,.int .i64 b,.int .i64 m] w fun e w'=>e= .returned (.tuple #[.int .i64 (divF a b m).1,.int .i64 (divF a b m).2])/\Ext w w':=by
 by_cases hm:m<8\/10<m
 · have HM:=Lib.hid hm
   have g1:(m !=8)=true:=by rw [bne_iff_ne];omega
   have g2:(m !=9)=true:=by rw [bne_iff_ne];omega
   have g3:(m !=10)=true:=by rw [bne_iff_ne];omega
   clear hm
   go_enter Tryd.func91,Tryd.ntmps91
   go_wp2_with fail
   go_ret2
   exact ⟨Zv (by simp only [divF,if_pos HM.out]) (by simp only [divF,if_pos HM.out]),Ext.refl _⟩
 · have HM:=Lib.hid hm
   have hm3:m=8\/m=9\/m=10:=by omega
   clear hm
   cases h:inR a&&inR b
   · have H:=Lib.hid h
     clear h
     rcases hm3 with rfl|rfl|rfl
     all_goals
      go_enter Tryd.func91,Tryd.ntmps91
      go_wp2_with fail
      refine (X3 a b _ _ _ (by simp [go_sem]) (by simp [go_sem]) _ H).mono ?_
      rintro e w1 ⟨rfl,rfl⟩
      go_wp2_with fail
      go_ret2
      exact ⟨Zv (by simp only [divF,if_neg HM.out,H.out];rfl) (by simp only [divF,if_neg HM.out,H.out];rfl),(Ext.refl _).alloc _⟩
   · have H:=Lib.hid h
     have hb:=h
     simp only [Bool.and_eq_true,inR_iff] at hb
     obtain ⟨⟨h1,h2⟩,h3,h4⟩:=hb
     clear h
     by_cases hb0:b<=0
     · have HB0:=Lib.hid hb0
       rcases hm3 with rfl|rfl|rfl
       all_goals
        go_enter Tryd.func91,Tryd.ntmps91
        go_wp2_with fail
        refine (X3 a b _ _ _ (by simp [go_sem]) (by simp [go_sem]) _ H).mono ?_
        rintro e w1 ⟨rfl,rfl⟩
        go_wp2_with fail
        go_ret2
        exact ⟨Zv (by simp only [divF,if_neg HM.out,H.out,if_pos HB0.out];rfl) (by simp only [divF,if_neg HM.out,H.out,if_pos HB0.out];rfl),(Ext.refl _).alloc _⟩
     · have HB0:=Lib.hid hb0
       have hb1:0<b:=by omega
       rcases hm3 with rfl|rfl|rfl
       · go_enter Tryd.func91,Tryd.ntmps91
         go_wp2_with fail
         refine (X3 a b _ _ _ (by simp [go_sem]) (by simp [go_sem]) _ H).mono ?_
         rintro e w1 ⟨rfl,rfl⟩
         go_wp2_with fail
         · have ht:a.tmod b<0:=by assumption
           go_ret2
           exact ⟨Zv (by rw [Zlx hb1 ht];simp [divF,H.out,Int.not_le.2 hb1]) (by simp [divF,H.out,Int.not_le.2 hb1]),(Ext.refl _).alloc _⟩
         · have ht:0<=a.tmod b:=by assumption
           go_ret2
           exact ⟨Zv (by rw [Zly hb1 ht];simp [divF,H.out,Int.not_le.2 hb1]) (by simp [divF,H.out,Int.not_le.2 hb1]),(Ext.refl _).alloc _⟩
       · go_enter Tryd.func91,Tryd.ntmps91
         go_wp2_with fail
         refine (X3 a b _ _ _ (by simp [go_sem]) (by simp [go_sem]) _ H).mono ?_
         rintro e w1 ⟨rfl,rfl⟩
         go_wp2_with fail
         · have ht:0<a.tmod b:=by assumption
           go_ret2
           exact ⟨Zv (by rw [Z2t hb1 ht];simp [divF,H.out,Int.not_le.2 hb1]) (by simp [divF,H.out,Int.not_le.2 hb1]),(Ext.refl _).alloc _⟩
         · have ht:a.tmod b<=0:=by assumption
           go_ret2
           exact ⟨Zv (by rw [Z2u hb1 ht];simp [divF,H.out,Int.not_le.2 hb1]) (by simp [divF,H.out,Int.not_le.2 hb1]),(Ext.refl _).alloc _⟩
       · go_enter Tryd.func91,Tryd.ntmps91
         go_wp2_with fail
         refine (X3 a b _ _ _ (by simp [go_sem]) (by simp [go_sem]) _ H).mono ?_
         rintro e w1 ⟨rfl,rfl⟩
         go_wp2_with fail
         · have ht:(2*a+b).tmod (2*b)<0:=by assumption
           go_ret2
           exact ⟨Zv (by rw [Zlx (by omega) ht];simp [divF,H.out,Int.not_le.2 hb1]) (by simp [divF,H.out,Int.not_le.2 hb1]),(Ext.refl _).alloc _⟩
         · have ht:0<=(2*a+b).tmod (2*b):=by assumption
           go_ret2
           exact ⟨Zv (by rw [Zly (by omega) ht];simp [divF,H.out,Int.not_le.2 hb1]) (by simp [divF,H.out,Int.not_le.2 hb1]),(Ext.refl _).alloc _⟩
end
section
open Go
def dI:Dc E Int:=dInt .i64
def dII:DcL E (Int×Int×Unit):= .cons dI (.cons dI .nil)
def dIII:DcL E (Int×Int×Int×Unit):= .cons dI (.cons dI (.cons dI .nil))
def Zw2 (p:Int×Int):SV thy:= .tup [.int false .i64 p.1,.int false .i64 p.2]
theorem Zes {f:Nat} {a b:Int} {p:Int×Int} (h:∀w,Calls Tryd.prog f #[.int .i64 a,.int .i64 b] w fun e w'=>e= .returned (.tuple #[.int .i64 p.1,.int .i64 p.2])/\Ext w w'):PureC E f (dII.enc (a,b,())) (Zw2 p):=by
 refine Zag fun g w vals hd=> ?_
 obtain rfl:=Zsi (vals:=vals) hd
 refine (h w).mono ?_
 rintro en w' ⟨rfl,hx⟩
 exact ⟨_,rfl,Znf,hx⟩
theorem Zt1 {f:Nat} {a b c:Int} {p:Int×Int} (h:∀w,Calls Tryd.prog f #[.int .i64 a,.int .i64 b,.int .i64 c] w fun e w'=>e= .returned (.tuple #[.int .i64 p.1,.int .i64 p.2])/\Ext w w'):PureC E f (dIII.enc (a,b,c,())) (Zw2 p):=by
 refine Zag fun g w vals hd=> ?_
 obtain rfl:=Zsj (vals:=vals) hd
 refine (h w).mono ?_
 rintro en w' ⟨rfl,hx⟩
 exact ⟨_,rfl,Znf,hx⟩
def S2 (f:Int->Int->Int×Int):Sum thy:=sumP dII (fun _=>True) fun x=>Zw2 (f x.1 x.2.1)
def S3 (f:Int->Int->Int->Int×Int):Sum thy:=sumP dIII (fun _=>True) fun x=>Zw2 (f x.1 x.2.1 x.2.2.1)
def F1a:Fns thy:=addS (addS (addS (addS F0 79 (S2 addF)) 81 (S2 subF)) 82 (S2 mulF)) 91 (S3 divF)
theorem Z10:FnsOk E F1a:=by
 refine Zh (Zh (Zh (Zh F0_ok ?_) ?_) ?_) ?_
 · exact Zs E_ok (Zk (f:=79) rfl) fun x _=>Zes fun w=>Zr0 _ _ w
 · exact Zs E_ok (Zk (f:=81) rfl) fun x _=>Zes fun w=>Zr1 _ _ w
 · exact Zs E_ok (Zk (f:=82) rfl) fun x _=>Zes fun w=>Zr3 _ _ w
 · exact Zs E_ok (Zk (f:=91) rfl) fun x _=>Zt1 fun w=>Zr4 _ _ _ w
def Fv1:Fns thy:=F1a
theorem Zn3:FnsOk E Fv1:=Z10
end
section
open Go
abbrev qBE3 (a0:Int) (b0:Int) (c0:Bool):=(decide (mm2 false a0 b0>=0)=true->(decide (mm2 true a0 b0<=9007199254740992)=true->true=c0)/\(decide (mm2 true a0 b0<=9007199254740992)=false->false=c0))
abbrev qBE4 (a0:Int) (b0:Int) (c0:Bool):=(decide (mm2 false a0 b0>=0)=false->false=c0)
abbrev qBE1 (a0:Int) (b0:Int) (c0:Int) (d0:Bool):=((a0==a0&&(0==0&&(b0==0&&true)))=true->(qBE3 c0 b0 d0)/\(qBE4 c0 b0 d0))
abbrev qBE2 (a0:Int) (b0:Int) (c0:Bool):=((a0==a0&&(0==0&&(b0==0&&true)))=false->false=c0)
theorem Zk0 (op n m:Int) (b:Bool):Zw E Fv1 (vc E Fv1 400) 30 [.agg [.int false .i64 op,.int false .i64 n,.int false .i64 m]] hp0 0 (fun r=>ret E (patch hp0 0 r) r.v (.bool false b))=(
 ∃(Q:Bool->Prop),((decide (op<1)=true->Q true)/\(decide (op<1)=false->(decide (op>=17)=true->Q true)/\(decide (op>=17)=false->Q false)))/\(Q true->false=b)/\(Q false->((op==1)=true->(qBE1 op m n b)/\(qBE2 op m b))/\((op==1)=false->((op==13)=true->(qBE1 op m n b)/\(qBE2 op m b))/\((op==13)=false->((op==14)=true->(qBE1 op m n b)/\(qBE2 op m b))/\((op==14)=false->((op==15)=true->(qBE1 op m n b)/\(qBE2 op m b))/\((op==15)=false->((op==2)=true->((op==op&&(0==0&&(m==0&&true)))=true->(decide (mm2 false n m>=0)=true->(decide (mm2 true n m<=15)=true->true=b)/\(decide (mm2 true n m<=15)=false->false=b))/\(qBE4 n m b))/\(qBE2 op m b))/\((op==2)=false->((op==12)=true->((op==op&&(0==0&&(0==0&&true)))=true->(qBE3 n m b)/\(qBE4 n m b))/\((op==op&&(0==0&&(0==0&&true)))=false->false=b))/\((op==12)=false->((op==op&&(n==0&&(m==0&&true)))=true->(decide (mm2 false n m>=0)=true->(decide (mm2 true n m<=0)=true->true=b)/\(decide (mm2 true n m<=0)=false->false=b))/\(qBE4 n m b))/\((op==op&&(n==0&&(m==0&&true)))=false->false=b))))))))):=by kernel_rfl
theorem Zk1 (op:Int) (p q:Int):Zw E Fv1 (vc E Fv1 400) 32 [.int false .i64 op] hp0 0 (fun r=>ret E (patch hp0 0 r) r.v (.tup [.int false .i64 p,.int false .i64 q]))=(
((op==1)=true->0=p/\1=q/\True)/\((op==1)=false->((op==2)=true->0=p/\1=q/\True)/\((op==2)=false->((op==12)=true->1=p/\1=q/\True)/\((op==12)=false->((op==13)=true->1=p/\0=q/\True)/\((op==13)=false->((op==15)=true->1=p/\0=q/\True)/\((op==15)=false->((op==14)=true->0=p/\0=q/\True)/\((op==14)=false->((op==16)=true->0=p/\0=q/\True)/\((op==16)=false->2=p/\1=q/\True)))))))):=by kernel_rfl
theorem Zpe (op:Int) (p:Int):Zw E Fv1 (vc E Fv1 400) 46 [.int false .i64 op] hp0 0 (fun r=>ret E (patch hp0 0 r) r.v (.int false .i64 p))=(
((op==12)=true->1=p)/\((op==12)=false->((op==13)=true->1=p)/\((op==13)=false->((op==15)=true->1=p)/\((op==15)=false->((op==↑3)=true->2=p)/\((op==↑3)=false->((op==↑4)=true->2=p)/\((op==↑4)=false->((op==↑5)=true->2=p)/\((op==↑5)=false->((op==↑6)=true->2=p)/\((op==↑6)=false->((op==↑7)=true->2=p)/\((op==↑7)=false->((op==↑8)=true->2=p)/\((op==↑8)=false->((op==↑9)=true->2=p)/\((op==↑9)=false->((op==↑10)=true->2=p)/\((op==↑10)=false->((op==↑11)=true->2=p)/\((op==↑11)=false->0=p))))))))))))):=by kernel_rfl
theorem Zk2 (x:Ins):PureC E 30 [.agg [.int false .i64 x.op,.int false .i64 x.n,.int false .i64 x.m]] (.bool false (formedF x)):=by
 refine Zc E_ok (Zn E_ok Zn3 400) ?_
 rw [Zk0];delta qBE3 qBE4 qBE1 qBE2
 repeat' (first|exact Zk6 _|apply Zsf|apply Zsg|(refine And.intro ?_ ?_)|(intro h))
 all_goals (try simp only [Z4,Zt,Xx,Xy,Xz,Bool.or_eq_true,Bool.or_eq_false_iff,Bool.not_eq_true',Bool.not_eq_false',beq_iff_eq,bne_iff_ne,beq_eq_false_iff_ne,decide_eq_true_eq,decide_eq_false_iff_not,Bool.and_eq_true,Bool.and_true,Bool.true_and,Bool.and_eq_false_iff,beq_self_eq_true,Z0,Yc,ne_eq,and_true,true_and,Bool.true_eq_false,Bool.false_eq_true,false_or,or_false,true_implies,Int.ofNat_eq_natCast] at*)
 all_goals (try unfold formedF)
 all_goals (repeat' split)
 all_goals first|contradiction|omega|(symm;simp only [decide_eq_true_eq,decide_eq_false_iff_not];omega)
theorem Zk3 (op:Int):PureC E 32 [.int false .i64 op] (.tup [.int false .i64 (eff op).1,.int false .i64 (eff op).2]):=by
 refine Zc E_ok (Zn E_ok Zn3 400) ?_
 rw [Zk1]
 simp only [beq_iff_eq,bne_iff_ne,beq_eq_false_iff_ne,decide_eq_true_eq,decide_eq_false_iff_not,Bool.and_eq_true,Bool.and_true,Bool.true_and,Bool.and_eq_false_iff,beq_self_eq_true,Z0,Yc,ne_eq,and_true,true_and,Bool.true_eq_false,Bool.false_eq_true,false_or,or_false,true_implies,Int.ofNat_eq_natCast]
 repeat' (first|(refine And.intro ?_ ?_)|(intro h))
 all_goals (unfold eff;repeat' split)
 all_goals first|contradiction|omega|rfl
theorem Zpf (op:Int):PureC E 46 [.int false .i64 op] (.int false .i64 (Wo op)):=by
 refine Zc E_ok (Zn E_ok Zn3 400) ?_
 rw [Zpe]
 simp only [beq_iff_eq,bne_iff_ne,beq_eq_false_iff_ne,decide_eq_true_eq,decide_eq_false_iff_not,Bool.and_eq_true,Bool.and_true,Bool.true_and,Bool.and_eq_false_iff,beq_self_eq_true,Z0,Yc,ne_eq,and_true,true_and,Bool.true_eq_false,Bool.false_eq_true,false_or,or_false,true_implies,Int.ofNat_eq_natCast]
 repeat' (first|(refine And.intro ?_ ?_)|(intro h))
 all_goals (unfold Wo;repeat' split)
 all_goals first|contradiction|omega|rfl
end
section
open Go
def dIns:Dc E Ins:= .map (dAgg dIII) (fun x=>⟨x.1,x.2.1,x.2.2.1⟩) (fun x=>(x.op,x.n,x.m,())) (fun _=>rfl)
def Zug:Dc E (List Ins):=(Zse (E:=E) Th.ins:Dc E (List (thy.dom Th.ins)))
def Z13:Dc E (List Int):=(Zse (E:=E) Th.ints:Dc E (List (thy.dom Th.ints)))
def dL1 {α:Type} (d:Dc E α):DcL E (α×Unit):= .cons d .nil
def dL2 {α β:Type} (d:Dc E α) (e:Dc E β):DcL E (α×β×Unit):= .cons d (dL1 e)
def dL3 {α β γ:Type} (d:Dc E α) (e:Dc E β) (f:Dc E γ):DcL E (α×β×γ×Unit):= .cons d (dL2 e f)
def dL4 {α β γ δ:Type} (d:Dc E α) (e:Dc E β) (f:Dc E γ) (k:Dc E δ):DcL E (α×β×γ×δ×Unit):= .cons d (dL3 e f k)
def Zuh:Sum thy:=sumP (dL1 dIns) (fun _=>True) fun x=> .bool false (formedF x.1)
def Seff:Sum thy:=sumP (dL1 dI) (fun _=>True) fun x=> .tup [.int false .i64 (eff x.1).1,.int false .i64 (eff x.1).2]
def Z0a:Sum thy:=sumP (dL1 dI) (fun _=>True) fun x=> .int false .i64 (Wo x.1)
def F2a:Fns thy:=addS (addS (addS Fv1 30 Zuh) 32 Seff) 46 Z0a
theorem Z0b:FnsOk E F2a:=by
  refine Zh (Zh (Zh Zn3 ?_) ?_) ?_
  · exact Zs E_ok (Zk (f:=30) rfl) fun x _=>Zk2 x.1
  · exact Zs E_ok (Zk (f:=32) rfl) fun x _=>Zk3 x.1
  · exact Zs E_ok (Zk (f:=46) rfl) fun x _=>Zpf x.1
def Fv2:Fns thy:=F2a
theorem Z0c:FnsOk E Fv2:=Z0b
/-- the loop of IndexFunc -/
def A48:Fr thy->Hp thy->Nat->Ann thy:=fun T h i=>{X:=LX,fr:=fun x=> [(0,T 0),(1,T 1),(7,T 7),(8,.int false .i64 x.k)],bl:=fun _=> [],src:=fun _=> [],md:= [],ih:=i,M:=i+30,meas:=fun x=>x.r}
/-- the loop of Repeat -/
def A32:Fr thy->Hp thy->Nat->Ann thy:=fun T h i=>{X:=LX,fr:=fun x=> [(7,T 7),(8,.int false .i64 x.k)],bl:=fun x=> [(bOf (T 7),.rows .ints x.D 0)],src:=fun _=> [],md:= [bOf (T 7)],ih:=i,M:=i+30,meas:=fun x=>x.r}
/-- the loop of Verify -/
def A9:Fr thy->Hp thy->Nat->Ann thy:=fun T h i=>{X:=LX,fr:=fun x=> [(0,T 0),(2,.int false .i64 x.m),(4,T 4),(30,T 30),(31,T 31),(32,.int false .i64 x.k)],bl:=fun x=> [(bOf (T 4),.rows .ints x.D 0)],src:=fun _=> [],md:= [bOf (T 4)],ih:=i,M:=i+60,meas:=fun x=>x.r}
/-- the loop over what can follow -/
def A9n:Fr thy->Hp thy->Nat->Ann thy:=fun T h i=>{X:=LX,fr:=fun x=> [(0,T 0),(2,T 2),(4,T 4),(5,T 5),(10,T 10),(30,T 30),(31,T 31),(32,T 32),(110,T 110),(111,T 111),(112,.int false .i64 x.k)],bl:=fun x=>(bOf (T 4),.rows .ints x.D 0)::blkS h (T 110),src:=fun _=> [],md:= [bOf (T 4)],ih:=i,M:=i+20,meas:=fun x=>x.r}
def F3:Fns thy:=addL (addL (addL (addL Fv2 43 2 A48 E) 31 8 A32 E) 17 8 A9 E) 17 23 A9n E
theorem Zx6:FnsOk E F3:=Yn E_ok (Yn E_ok (Yn E_ok (Yn E_ok Z0c _ _ _) _ _ _) _ _ _) _ _ _
theorem Zf3 {y:Int} (h0:0<=y) (h:y<4294967296):Yb .and .u64 y 4294967295=y:=by
  obtain ⟨n,rfl⟩:=Int.eq_ofNat_of_zero_le h0
  have h':n<4294967296:=by omega
  have e:(BitVec.ofInt 64 (n:Int)&&&BitVec.ofInt 64 4294967295).toNat=n:=by
    rw [BitVec.toNat_and]
    have e1:(BitVec.ofInt 64 (n:Int)).toNat=n:=by
      rw [BitVec.toNat_ofInt];omega
    have e2:(BitVec.ofInt 64 4294967295).toNat=2^32-1:=by decide
    rw [e1,e2,Nat.and_two_pow_sub_one_eq_mod]
    omega
  show IntKind.u64.wrap ((BitVec.ofInt 64 (n:Int)&&&BitVec.ofInt 64 4294967295).toNat:Int)=n
  rw [e,IntKind.wrap_u64]
  omega
theorem Zw5 {n:Int} (h1:0<=n) (h2:n<18446744073709551616):wr .u64 n=n:=by simp only [wr,IntKind.wrap_u64];omega
theorem Zf4 {α:Type} {f:α->Bool} {l:List α} {k:Nat} {x:α} (h:l[k]? =some x):(l.take (k+1)).all f=((l.take k).all f&&f x):=by
  obtain ⟨hk,rfl⟩:=gA9.1 h
  rw [List.take_succ_eq_append_getElem hk,List.all_append,List.all_cons,List.all_nil,Bool.and_true]
theorem Zj1 {α:Type} {f:α->Bool} {l:List α} {k:Nat} {x:α} (h:l[k]? =some x) (hf:f x=false):l.all f=false:=by
  rw [Bool.eq_false_iff]
  intro hh
  have:=(List.all_eq_true.1 hh) x (List.mem_of_getElem? h)
  rw [hf] at this;cases this
--@cond bmul | 45 | F3 | 400 | (x y : Int) | [.int false .u64 x, .int false .u64 y] | (p q : Int) | .tup [.int false .u64 p, .int false .u64 q]
theorem Zql (x y:Int) (p q:Int):Zw E F3 (vc E F3 400) 45 [.int false .u64 x,.int false .u64 y] hp0 0 (fun r=>ret E (patch hp0 0 r) r.v (.tup [.int false .u64 p,.int false .u64 q]))=(
  wr IntKind.u64
        (wr IntKind.u64
            (wr IntKind.u64
                (Int.fdiv x (2^min (Int.toNat 32) (IntKind.bits IntKind.u64))*
                  Int.fdiv y (2^min (Int.toNat 32) (IntKind.bits IntKind.u64)))+
              Int.fdiv
                (wr IntKind.u64
                  (wr IntKind.u64
                      (Int.fdiv x (2^min (Int.toNat 32) (IntKind.bits IntKind.u64))*
                        Yb BinOp.and IntKind.u64 y 4294967295)+
                    Int.fdiv
                      (wr IntKind.u64
                        (Yb BinOp.and IntKind.u64 x 4294967295*Yb BinOp.and IntKind.u64 y 4294967295))
                      (2^min (Int.toNat 32) (IntKind.bits IntKind.u64))))
                (2^min (Int.toNat 32) (IntKind.bits IntKind.u64)))+
          Int.fdiv
            (wr IntKind.u64
              (Yb BinOp.and IntKind.u64
                  (wr IntKind.u64
                    (wr IntKind.u64
                        (Int.fdiv x (2^min (Int.toNat 32) (IntKind.bits IntKind.u64))*
                          Yb BinOp.and IntKind.u64 y 4294967295)+
                      Int.fdiv
                        (wr IntKind.u64
                          (Yb BinOp.and IntKind.u64 x 4294967295*Yb BinOp.and IntKind.u64 y 4294967295))
                        (2^min (Int.toNat 32) (IntKind.bits IntKind.u64))))
                  4294967295+
                wr IntKind.u64
                  (Yb BinOp.and IntKind.u64 x 4294967295*
                    Int.fdiv y (2^min (Int.toNat 32) (IntKind.bits IntKind.u64)))))
            (2^min (Int.toNat 32) (IntKind.bits IntKind.u64)))=
      p/\
    wr IntKind.u64 (x*y)=q/\True
  ):=by kernel_rfl
--@end
--@cond contains | 28 | F3 | 400 | (c : List Ins) | [.psl .ins c false, .fn (.func 29) [] []] | (b : Bool) | .bool false b
theorem Zf5 (c:List Ins) (b:Bool):Zw E F3 (vc E F3 400) 28 [.psl .ins c false,.fn (.func 29) [] []] hp0 0 (fun r=>ret E (patch hp0 0 r) r.v (.bool false b))=(
  ∃(R:LX->Prop),
    (∃(x:LX),
        R x/\
          true=true/\
            ((c=c/\(false=true->false=true))/\
                (Fn.func 29=Fn.func 29/\True/\True)/\
                  (↑(List.length c):Int)=(↑(List.length c):Int)/\0=(↑(LX.k x):Int)/\True)/\
              True)/\
      ∀(x:LX),
        R x->
          (decide ((↑(LX.k x):Int)<(↑(List.length c):Int))=true->
              0<=(↑(LX.k x):Int)/\
                (↑(LX.k x):Int)+1<=(↑(List.length c):Int)/\
                  ∀(x_1:Ins),
                    c[Int.toNat (↑(LX.k x):Int)]? =some x_1->
                      True/\
                        ((!formedF x_1)=true->
                            (decide ((↑(LX.k x):Int)>=0)=true->true=b)/\
                              (decide ((↑(LX.k x):Int)>=0)=false->false=b))/\
                          ((!formedF x_1)=false->
                            ∃(x':LX),
                              R x'/\
                                x'.2+1<=x.2/\
                                  true=true/\
                                    ((c=c/\(false=true->false=true))/\
                                        (Fn.func 29=Fn.func 29/\True/\True)/\
                                          (↑(List.length c):Int)=(↑(List.length c):Int)/\
                                            wr IntKind.i64 ((↑(LX.k x):Int)+1)=(↑(LX.k x'):Int)/\True)/\
                                      True))/\
            (decide ((↑(LX.k x):Int)<(↑(List.length c):Int))=false->false=b)
  ):=by kernel_rfl
--@end
theorem Zqm (y:Int) (h0:0<=y) (h1:y<4294967296):PureC E 45 [.int false .u64 1,.int false .u64 y] (.tup [.int false .u64 0,.int false .u64 y]):=by
  refine Zc E_ok (Zn E_ok Zx6 400) ?_
  rw [Zql]
  have e1:Int.fdiv y (2^min (Int.toNat 32) (IntKind.bits IntKind.u64))=0:=by
    show y.fdiv 4294967296=0
    rw [Int.fdiv_eq_ediv_of_nonneg _ (by omega)];omega
  have e2:Int.fdiv 1 (2^min (Int.toNat 32) (IntKind.bits IntKind.u64))=0:=by decide
  have e3:Yb .and .u64 1 4294967295=1:=Zf3 (by omega) (by omega)
  have e4:=Zf3 h0 h1
  have e5:Int.fdiv 0 (2^min (Int.toNat 32) (IntKind.bits IntKind.u64))=0:=by decide
  have e6:wr .u64 0=0:=by decide
  have e7:wr .u64 y=y:=Zw5 h0 (by omega)
  have e8:Yb .and .u64 0 4294967295=0:=Zf3 (by omega) (by omega)
  simp only [e1,e2,e3,e4,e5,e6,e7,e8,Int.zero_mul,Int.one_mul,Int.mul_zero,Int.zero_add,Int.add_zero,and_self]
theorem Zf6 (c:List Ins) (hc:c.length<=4096):PureC E 28 [.psl .ins c false,.fn (.func 29) [] []] (.bool false (!c.all formedF)):=by
  refine Zc E_ok (Zn E_ok Zx6 400) ?_
  rw [Zf5]
  refine ⟨fun x=>x.k+x.r=c.length/\(c.take x.k).all formedF=true,⟨⟨0,c.length,[],0⟩,by simp,by simp⟩,fun x hR=> ?_⟩
  obtain ⟨h1,h2⟩:=hR
  simp only [Z4,Zt,Xx,Xy,Xz,beq_iff_eq,bne_iff_ne,beq_eq_false_iff_ne,bne_eq_false_iff_eq,decide_eq_true_eq,decide_eq_false_iff_not,Bool.or_eq_true,Bool.or_eq_false_iff,Bool.not_eq_true',Bool.not_eq_false',Bool.and_eq_true,Bool.and_true,Bool.true_and,Bool.and_eq_false_iff,beq_self_eq_true,Z0,Yc,ne_eq,and_true,true_and,Bool.true_eq_false,Bool.false_eq_true,false_or,or_false,true_implies,Int.ofNat_eq_natCast,not_true_eq_false,not_false_eq_true,Decidable.not_not]
  refine ⟨fun hlt=>⟨by omega,by omega,fun y hy=>⟨fun hf=>⟨fun _=> ?_,fun h=>by omega⟩,fun hf=> ?_⟩⟩,fun hge=> ?_⟩
  · rw [Int.toNat_natCast] at hy
    rw [Zj1 hy hf];rfl
  · rw [Int.toNat_natCast] at hy
    refine ⟨⟨x.k+1,x.r-1,[],0⟩,⟨by show x.k+1+(x.r-1)=_;omega,by show (c.take (x.k+1)).all formedF=true;rw [Zf4 hy,h2,hf];rfl⟩,by show x.r-1+1<=x.r;omega,?_⟩
    rw [wr64 (by omega) (by omega)]
    simp
  · rw [List.take_of_length_le (by omega)] at h2
    rw [h2];rfl
end
section
open Go
def dFn (f:Nat):Dc E Unit where
 dec v:=match v with| .fn (.func g) [] []=>(match Nat.beq g f with|true=>some ()|false=>none)|_=>none
 enc _:= .fn (.func f) [] []
 ok v a h:=by
  split at h
  · split at h
    · rename_i e
      rw [gC9 e]
      exact ⟨rfl,rfl,fun σ g u hd=>hd⟩
    · cases h
  · cases h
def Ztq:Sum thy:=sumP (dL2 Zug (dFn 29)) (fun x=>x.1.length<=4096) fun x=> .bool false (!x.1.all formedF)
def Z21:Sum thy:=sumP (dL2 (dInt .u64) (dInt .u64)) (fun x=>x.1=1/\0<=x.2.1/\x.2.1<4294967296) fun x=> .tup [.int false .u64 0,.int false .u64 x.2.1]
def F4:Fns thy:=addS (addS F3 28 Ztq) 45 Z21
theorem Z1u:FnsOk E F4:=by
 refine Zh (Zh Zx6 ?_) ?_
 · exact Zs E_ok (Zk (f:=28) rfl) fun x h=>Zf6 x.1 h
 · refine Zs E_ok (Zk (f:=45) rfl) fun x h=> ?_
   obtain ⟨x,y,u⟩:=x
   obtain ⟨rfl,h1,h2⟩:=h
   exact Zqm y h1 h2
abbrev qBG7 (a0:List Ins):=(↑(List.length a0):Int)
abbrev qBGt (a0:List Ins):=(wr IntKind.u64 (qBG7 a0))
abbrev qBG1 (a0:List Ins):=(wr IntKind.i64 (qBGt a0))
abbrev qBG2 (a0:Int) (b0:Ins):=(wr IntKind.i64 (a0-Prod.fst (eff (Ins.op b0)))+Prod.snd (eff (Ins.op b0)))
abbrev qBGr (a0:List Ins):=(Int.toNat (qBG1 a0))
abbrev qBGe (a0:List Ins):=(↑(qBGr a0):Int)
abbrev qBGc:=(0:Int)
abbrev qBGn:=(1:Int)
abbrev qBGq (a0:Int) (b0:List Ins):=(qBGc<=a0/\a0+qBGn<=(qBGe b0))
abbrev qBG9:=(0:Nat)
abbrev qBGm:=(1:Nat)
abbrev qBG5 (a0:LX):=(↑(LX.k a0):Int)
abbrev qBG3 (a0:Int) (b0:LX) (c0:Bool->Prop) (d0:List Ins) (e0:LX) (f0:Int) (g0:Ins):=((decide (a0<=(qBG5 b0))=true->c0 true)/\(decide (a0<=(qBG5 b0))=false->(decide (a0>=(qBG7 d0))=true->c0 true)/\(decide (a0>=(qBG7 d0))=false->(qBGq a0 d0)/\qBG9+Int.toNat a0+qBGm<=List.length (LX.D e0)/\∀(b0:Int),(LX.D e0)[qBG9+Int.toNat a0]? =some b0->(decide (b0>=qBGc)=true->(qBGq a0 d0)/\qBG9+Int.toNat a0+qBGm<=List.length (LX.D e0)/\∀(b0:Int),(LX.D e0)[qBG9+Int.toNat a0]? =some b0->((b0 !=wr IntKind.i64 (qBG2 f0 g0))=true->c0 true)/\((b0 !=wr IntKind.i64 (qBG2 f0 g0))=false->c0 false))/\(decide (b0>=qBGc)=false->c0 false))))
abbrev qBG4 (a0:List Ins):=(qBG9=qBG9/\Int.toNat (qBG1 a0)=Int.toNat (qBG1 a0)/\Int.toNat (qBG1 a0)=Int.toNat (qBG1 a0))
abbrev qBG6 (a0:List Ins):=(a0=a0/\(false=true->false=true))
abbrev qBG8 (a0:LX):=((qBG5 a0)+qBGn)
abbrev qBGj (a0:LX) (b0:Int):=(mm2 true (LX.m a0) b0)
abbrev qBGd (a0:Int) (b0:Ins):=(wr IntKind.i64 (qBG2 a0 b0))
abbrev qBGa (a0:List Ins) (b0:LX) (c0:Int) (d0:Ins) (e0:LX):=((qBG6 a0)/\mm2 true (qBGj b0 c0) (qBGd c0 d0)=LX.m e0/\(qBG4 a0)/\(qBG6 a0)/\(qBG7 a0)=(qBG7 a0)/\wr IntKind.i64 (qBG8 b0)=(qBG5 e0)/\True)
abbrev qBGb (a0:Ins) (b0:LX):=(↑(List.length [Ins.n a0]+List.length [wr IntKind.i64 (qBG8 b0)]):Int)
abbrev qBGf (a0:LX):=(↑(List.length [wr IntKind.i64 (qBG8 a0)]):Int)
abbrev qBGg (a0:Ins) (b0:Bool->Prop):=(((Ins.op a0 !=(14:Int))=true->((Ins.op a0 !=(15:Int))=true->((Ins.op a0 !=(16:Int))=true->b0 true)/\((Ins.op a0 !=(16:Int))=false->b0 false))/\((Ins.op a0 !=(15:Int))=false->b0 false))/\((Ins.op a0 !=(14:Int))=false->b0 false))
abbrev qBGh (a0:Ins):=(List.length [Ins.n a0])
abbrev qBGi (a0:LX) (b0:LX):=(LX.D a0=LX.D b0/\qBG9=qBG9)
abbrev qBGk (a0:Ins) (b0:LX):=(qBG9=qBG9/\List.length [Ins.n a0]+List.length [wr IntKind.i64 (qBG8 b0)]=List.length [Ins.n a0]+List.length [wr IntKind.i64 (qBG8 b0)]/\True)
abbrev qBGl (a0:Ins) (b0:LX):=(List.take (qBGh a0) [Ins.n a0]++ [wr IntKind.i64 (qBG8 b0)]=List.take (qBGh a0) [Ins.n a0]++ [wr IntKind.i64 (qBG8 b0)]/\qBG9=qBG9)
abbrev qBGo (a0:LX):=(qBG9=qBG9/\List.length [wr IntKind.i64 (qBG8 a0)]=List.length [wr IntKind.i64 (qBG8 a0)]/\True)
abbrev qBGp (a0:List Ins) (b0:LX):=(Int.toNat (qBG1 a0)-Int.toNat (qBG5 b0))
abbrev qBGs (a0:LX):=(List.take (Int.toNat (qBG5 a0)) (LX.D a0))
abbrev qBGu (a0:Ins):=(qBG9=qBG9/\List.length [Ins.n a0]=List.length [Ins.n a0]/\True)
abbrev qBGv (a0:LX):=([wr IntKind.i64 (qBG8 a0)]= [wr IntKind.i64 (qBG8 a0)]/\qBG9=qBG9)
theorem Zl1 (c:List Ins) (p q:Int):Zw E F4 (vc E F4 400) 17 [.psl .ins c false] hp0 0 (fun r=>ret E (patch hp0 0 r) r.v (.tup [.int false .i64 p,.int false .i64 q]))=(
 (decide ((qBG7 c)>(4096:Int))=true->qBGc=p/\(2:Int)=q/\True)/\(decide ((qBG7 c)>(4096:Int))=false->(((qBG7 c)==qBGc)=true->qBGc=p/\(200:Int)=q/\True)/\(((qBG7 c)==qBGc)=false->List.length c<=(4096:Nat)/\((!List.all c formedF)=true->qBGc=p/\(200:Int)=q/\True)/\((!List.all c formedF)=false->(decide ((qBG7 c)<qBGc)=true->False)/\(decide ((qBG7 c)<qBGc)=false->(qBGn=qBGn/\qBGc<=wr IntKind.u64 (qBG7 c)/\wr IntKind.u64 (qBG7 c)+qBGn<=(4294967296:Int))/\∃(Q:Bool->Prop),((decide (qBGc>qBGc)=true->Q true)/\(decide (qBGc>qBGc)=false->(decide (wr IntKind.u64 (qBG7 c)>(9223372036854775807:Int))=true->Q true)/\(decide (wr IntKind.u64 (qBG7 c)>(9223372036854775807:Int))=false->Q false)))/\(Q true->False)/\(Q false->qBGc<=wr IntKind.i64 (qBGt c)/\wr IntKind.i64 (qBGt c)<=wr IntKind.i64 (qBGt c)/\(↑(8:Nat):Int)*wr IntKind.i64 (qBGt c)<=(281474976710656:Int)/\(qBG9<=qBG9/\qBG9+Int.toNat (qBG1 c)<=List.length (List.replicate (qBGr c) qBGc))/\∃(R:LX->Prop),(∃(x:LX),R x/\true=true/\((qBG4 c)/\(↑(min (List.length [(-1:Int)]) (qBGr c)):Int)=(qBG5 x)/\True)/\(List.take qBG9 (List.replicate (qBGr c) qBGc)++List.take (qBGr c) [(-1:Int)]++List.drop (qBG9+min (List.length [(-1:Int)]) (qBGr c)) (List.replicate (qBGr c) qBGc)=LX.D x/\qBG9=qBG9)/\True)/\∀(x:LX),R x->(decide ((qBG5 x)<(qBGe c))=true->(qBGc<=(qBG5 x)/\(qBG5 x)<=(qBGe c))/\(decide ((qBG5 x)<(qBGe c))=true->(qBGc<=(qBG5 x)/\(qBG5 x)<=(qBGe c))/\qBG9+Int.toNat (qBG5 x)<=List.length (LX.D x)/\(qBG9<=qBG9+Int.toNat (qBG5 x)/\qBG9+Int.toNat (qBG5 x)+(qBGp c x)<=List.length (LX.D x))/\∃(x':LX),R x'/\x'.2+qBGm<=x.2/\true=true/\((qBG4 c)/\wr IntKind.i64 ((qBG5 x)+(↑(min (List.length (qBGs x)) (qBGp c x)):Int))=(qBG5 x')/\True)/\(List.take (qBG9+Int.toNat (qBG5 x)) (LX.D x)++List.take (qBGp c x) (qBGs x)++List.drop (qBG9+Int.toNat (qBG5 x)+min (List.length (qBGs x)) (qBGp c x)) (LX.D x)=LX.D x'/\qBG9=qBG9)/\True)/\(decide ((qBG5 x)<(qBGe c))=false->(qBGc<=(qBG5 x)/\(qBG5 x)<=(qBGe c))/\False))/\(decide ((qBG5 x)<(qBGe c))=false->(qBGc<=qBGc/\qBGc+qBGn<=(qBGe c))/\qBG9<=qBG9+Int.toNat qBGc/\qBG9+Int.toNat qBGc+qBGm<=List.length (LX.D x)/\∀(x_1:Int),(LX.D x)[qBG9+Int.toNat qBGc]? =some x_1->∃(R:LX->Prop),(∃(x_2:LX),R x_2/\true=true/\((qBG6 c)/\qBGc=LX.m x_2/\(qBG4 c)/\(qBG6 c)/\(qBG7 c)=(qBG7 c)/\qBGc=(qBG5 x_2)/\True)/\(List.set (LX.D x) (qBG9+Int.toNat qBGc) qBGc=LX.D x_2/\qBG9=qBG9)/\True)/\∀(x:LX),R x->(decide ((qBG5 x)<(qBG7 c))=true->qBGc<=(qBG5 x)/\(qBG5 x)+qBGn<=(qBG7 c)/\∀(x_2:Ins),c[Int.toNat (qBG5 x)]? =some x_2->(qBGc<=(qBG5 x)/\(qBG5 x)+qBGn<=(qBGe c))/\qBG9+Int.toNat (qBG5 x)+qBGm<=List.length (LX.D x)/\∀(x_3:Int),(LX.D x)[qBG9+Int.toNat (qBG5 x)]? =some x_3->(decide (x_3<qBGc)=true->∃(x':LX),R x'/\x'.2+qBGm<=x.2/\true=true/\((qBG6 c)/\LX.m x=LX.m x'/\(qBG4 c)/\(qBG6 c)/\(qBG7 c)=(qBG7 c)/\wr IntKind.i64 (qBG8 x)=(qBG5 x')/\True)/\(qBGi x x')/\True)/\(decide (x_3<qBGc)=false->True/\∃(Q:Bool->Prop),((decide (x_3<Prod.fst (eff (Ins.op x_2)))=true->Q true)/\(decide (x_3<Prod.fst (eff (Ins.op x_2)))=false->((Ins.op x_2==(15:Int))=true->((x_3 !=qBGn)=true->Q true)/\((x_3 !=qBGn)=false->((Ins.op x_2==(16:Int))=true->((x_3 !=qBGc)=true->Q true)/\((x_3 !=qBGc)=false->Q false))/\((Ins.op x_2==(16:Int))=false->Q false)))/\((Ins.op x_2==(15:Int))=false->((Ins.op x_2==(16:Int))=true->((x_3 !=qBGc)=true->Q true)/\((x_3 !=qBGc)=false->Q false))/\((Ins.op x_2==(16:Int))=false->Q false))))/\(Q true->qBGc=p/\(200:Int)=q/\True)/\(Q false->∃(Q:Bool->Prop),(((Ins.op x_2==(13:Int))=true->Q true)/\
((Ins.op x_2==(13:Int))=false->((Ins.op x_2==(14:Int))=true->Q true)/\((Ins.op x_2==(14:Int))=false->Q false)))/\(Q true->∃(Q:Bool->Prop),(qBGg x_2 Q)/\(Q true->(List.length [Ins.n x_2]<=List.length [Ins.n x_2]/\qBG9<=List.length [Ins.n x_2]/\(List.length [Ins.n x_2]+List.length [wr IntKind.i64 (qBG8 x)])*(8:Nat)<=(140737488355328:Nat))/\∃(R_1:LX->Prop),(∃(x_4:LX),R_1 x_4/\true=true/\((qBG6 c)/\mm2 true (qBGj x x_3) (qBGd x_3 x_2)=mm2 true (qBGj x x_3) (qBGd x_3 x_2)/\(qBG4 c)/\(qBG5 x)=(qBG5 x)/\wr IntKind.i64 (qBG2 x_3 x_2)=wr IntKind.i64 (qBG2 x_3 x_2)/\(qBG6 c)/\(qBG7 c)=(qBG7 c)/\(qBG5 x)=(qBG5 x)/\(qBGk x_2 x)/\(qBGb x_2 x)=(qBGb x_2 x)/\qBGc=(qBG5 x_4)/\True)/\(qBGi x x_4)/\(qBGl x_2 x)/\True)/\∀(x_4:LX),R_1 x_4->(decide ((qBG5 x_4)<(qBGb x_2 x))=true->(qBGc<=(qBG5 x_4)/\(qBG5 x_4)+qBGn<=(qBGb x_2 x))/\qBG9+Int.toNat (qBG5 x_4)+qBGm<=List.length (List.take (qBGh x_2) [Ins.n x_2]++ [wr IntKind.i64 (qBG8 x)])/\∀(x_5:Int),(List.take (qBGh x_2) [Ins.n x_2]++ [wr IntKind.i64 (qBG8 x)])[qBG9+Int.toNat (qBG5 x_4)]? =some x_5->∃(Q:Bool->Prop),(qBG3 x_5 x Q c x_4 x_3 x_2)/\(Q true->qBGc=p/\(200:Int)=q/\True)/\(Q false->(qBGq x_5 c)/\qBG9<=qBG9+Int.toNat x_5/\qBG9+Int.toNat x_5+qBGm<=List.length (LX.D x_4)/\∀(x_6:Int),(LX.D x_4)[qBG9+Int.toNat x_5]? =some x_6->∃(x':LX),R_1 x'/\x'.2+qBGm<=x_4.2/\true=true/\((qBG6 c)/\mm2 true (qBGj x x_3) (qBGd x_3 x_2)=mm2 true (qBGj x x_3) (qBGd x_3 x_2)/\(qBG4 c)/\(qBG5 x)=(qBG5 x)/\wr IntKind.i64 (qBG2 x_3 x_2)=wr IntKind.i64 (qBG2 x_3 x_2)/\(qBG6 c)/\(qBG7 c)=(qBG7 c)/\(qBG5 x)=(qBG5 x)/\(qBGk x_2 x)/\(qBGb x_2 x)=(qBGb x_2 x)/\wr IntKind.i64 (qBG8 x_4)=(qBG5 x')/\True)/\(List.set (LX.D x_4) (qBG9+Int.toNat x_5) (qBGd x_3 x_2)=LX.D x'/\qBG9=qBG9)/\(qBGl x_2 x)/\True))/\(decide ((qBG5 x_4)<(qBGb x_2 x))=false->∃(x':LX),R x'/\x'.2+qBGm<=x.2/\true=true/\(qBGa c x x_3 x_2 x')/\(qBGi x_4 x')/\True))/\(Q false->∃(R_1:LX->Prop),(∃(x_4:LX),R_1 x_4/\true=true/\((qBG6 c)/\mm2 true (qBGj x x_3) (qBGd x_3 x_2)=mm2 true (qBGj x x_3) (qBGd x_3 x_2)/\(qBG4 c)/\(qBG5 x)=(qBG5 x)/\wr IntKind.i64 (qBG2 x_3 x_2)=wr IntKind.i64 (qBG2 x_3 x_2)/\(qBG6 c)/\(qBG7 c)=(qBG7 c)/\(qBG5 x)=(qBG5 x)/\(qBGu x_2)/\(↑(qBGh x_2):Int)=(↑(qBGh x_2):Int)/\qBGc=(qBG5 x_4)/\True)/\(qBGi x x_4)/\([Ins.n x_2]= [Ins.n x_2]/\qBG9=qBG9)/\True)/\∀(x_4:LX),R_1 x_4->(decide ((qBG5 x_4)<(↑(qBGh x_2):Int))=true->(qBGc<=(qBG5 x_4)/\(qBG5 x_4)+qBGn<=(↑(qBGh x_2):Int))/\qBG9+Int.toNat (qBG5 x_4)+qBGm<=List.length [Ins.n x_2]/\∀(x_5:Int),[Ins.n x_2][qBG9+Int.toNat (qBG5 x_4)]? =some x_5->∃(Q:Bool->Prop),(qBG3 x_5 x Q c x_4 x_3 x_2)/\(Q true->qBGc=p/\(200:Int)=q/\True)/\(Q false->(qBGq x_5 c)/\qBG9<=qBG9+Int.toNat x_5/\qBG9+Int.toNat x_5+qBGm<=List.length (LX.D x_4)/\∀(x_6:Int),(LX.D x_4)[qBG9+Int.toNat x_5]? =some x_6->∃(x':LX),R_1 x'/\x'.2+qBGm<=x_4.2/\true=true/\((qBG6 c)/\mm2 true (qBGj x x_3) (qBGd x_3 x_2)=mm2 true (qBGj x x_3) (qBGd x_3 x_2)/\(qBG4 c)/\(qBG5 x)=(qBG5 x)/\wr IntKind.i64 (qBG2 x_3 x_2)=wr IntKind.i64 (qBG2 x_3 x_2)/\(qBG6 c)/\(qBG7 c)=(qBG7 c)/\(qBG5 x)=(qBG5 x)/\(qBGu x_2)/\(↑(qBGh x_2):Int)=(↑(qBGh x_2):Int)/\wr IntKind.i64 (qBG8 x_4)=(qBG5 x')/\True)/\(List.set (LX.D x_4) (qBG9+Int.toNat x_5) (qBGd x_3 x_2)=LX.D x'/\qBG9=qBG9)/\([Ins.n x_2]= [Ins.n x_2]/\qBG9=qBG9)/\True))/\(decide ((qBG5 x_4)<(↑(qBGh x_2):Int))=false->∃(x':LX),R x'/\x'.2+qBGm<=x.2/\true=true/\(qBGa c x x_3 x_2 x')/\(qBGi x_4 x')/\True)))/\(Q false->∃(Q:Bool->Prop),(qBGg x_2 Q)/\(Q true->∃(R_1:LX->Prop),(∃(x_4:LX),R_1 x_4/\true=true/\((qBG6 c)/\mm2 true (qBGj x x_3) (qBGd x_3 x_2)=mm2 true (qBGj x x_3) (qBGd x_3 x_2)
/\(qBG4 c)/\(qBG5 x)=(qBG5 x)/\wr IntKind.i64 (qBG2 x_3 x_2)=wr IntKind.i64 (qBG2 x_3 x_2)/\(qBG6 c)/\(qBG7 c)=(qBG7 c)/\(qBG5 x)=(qBG5 x)/\(qBGo x)/\(qBGf x)=(qBGf x)/\qBGc=(qBG5 x_4)/\True)/\(qBGi x x_4)/\(qBGv x)/\True)/\∀(x_4:LX),R_1 x_4->(decide ((qBG5 x_4)<(qBGf x))=true->(qBGc<=(qBG5 x_4)/\(qBG5 x_4)+qBGn<=(qBGf x))/\qBG9+Int.toNat (qBG5 x_4)+qBGm<=List.length [wr IntKind.i64 (qBG8 x)]/\∀(x_5:Int),[wr IntKind.i64 (qBG8 x)][qBG9+Int.toNat (qBG5 x_4)]? =some x_5->∃(Q:Bool->Prop),(qBG3 x_5 x Q c x_4 x_3 x_2)/\(Q true->qBGc=p/\(200:Int)=q/\True)/\(Q false->(qBGq x_5 c)/\qBG9<=qBG9+Int.toNat x_5/\qBG9+Int.toNat x_5+qBGm<=List.length (LX.D x_4)/\∀(x_6:Int),(LX.D x_4)[qBG9+Int.toNat x_5]? =some x_6->∃(x':LX),R_1 x'/\x'.2+qBGm<=x_4.2/\true=true/\((qBG6 c)/\mm2 true (qBGj x x_3) (qBGd x_3 x_2)=mm2 true (qBGj x x_3) (qBGd x_3 x_2)/\(qBG4 c)/\(qBG5 x)=(qBG5 x)/\wr IntKind.i64 (qBG2 x_3 x_2)=wr IntKind.i64 (qBG2 x_3 x_2)/\(qBG6 c)/\(qBG7 c)=(qBG7 c)/\(qBG5 x)=(qBG5 x)/\(qBGo x)/\(qBGf x)=(qBGf x)/\wr IntKind.i64 (qBG8 x_4)=(qBG5 x')/\True)/\(List.set (LX.D x_4) (qBG9+Int.toNat x_5) (qBGd x_3 x_2)=LX.D x'/\qBG9=qBG9)/\(qBGv x)/\True))/\(decide ((qBG5 x_4)<(qBGf x))=false->∃(x':LX),R x'/\x'.2+qBGm<=x.2/\true=true/\(qBGa c x x_3 x_2 x')/\(qBGi x_4 x')/\True))/\(Q false->∃(R_1:LX->Prop),(∃(x_4:LX),R_1 x_4/\true=true/\((qBG6 c)/\mm2 true (qBGj x x_3) (qBGd x_3 x_2)=mm2 true (qBGj x x_3) (qBGd x_3 x_2)/\(qBG4 c)/\(qBG5 x)=(qBG5 x)/\wr IntKind.i64 (qBG2 x_3 x_2)=wr IntKind.i64 (qBG2 x_3 x_2)/\(qBG6 c)/\(qBG7 c)=(qBG7 c)/\(qBG5 x)=(qBG5 x)/\Value.slice none qBG9 qBG9=Value.slice none qBG9 qBG9/\qBGc=qBGc/\qBGc=(qBG5 x_4)/\True)/\(qBGi x x_4)/\True)/\∀(x_4:LX),R_1 x_4->(decide ((qBG5 x_4)<qBGc)=true->False)/\(decide ((qBG5 x_4)<qBGc)=false->∃(x':LX),R x'/\x'.2+qBGm<=x.2/\true=true/\(qBGa c x x_3 x_2 x')/\(qBGi x_4 x')/\True))))))/\(decide ((qBG5 x)<(qBG7 c))=false->(decide (LX.m x>(64:Int))=true->qBGc=p/\(2:Int)=q/\True)/\(decide (LX.m x>(64:Int))=false->LX.m x=p/\qBGc=q/\True))))))))):=by kernel_rfl
end
section
open Go
theorem Zvx {n k:Nat} (h1:1<=k) (h2:k<n) {D:List Int} (hD:D=List.replicate k (-1)++List.replicate (n-k) 0):
 List.take k D++List.take (n-k) (List.take k D)++List.drop (k+min (List.take k D).length (n-k)) D=List.replicate (k+min k (n-k)) (-1)++List.replicate (n-(k+min k (n-k))) 0:=by
 subst hD
 have e1:List.take k (List.replicate k (-1:Int)++List.replicate (n-k) 0)=List.replicate k (-1):=List.take_left' (by simp)
 rw [e1,List.length_replicate,List.take_replicate]
 have e2:List.drop (k+min k (n-k)) (List.replicate k (-1:Int)++List.replicate (n-k) 0)=List.drop (min k (n-k)) (List.replicate (n-k) 0):=by
  rw [List.drop_append,List.length_replicate,List.drop_eq_nil_of_le (by simp),show k+min k (n-k)-k=min k (n-k) by omega,List.nil_append]
 rw [e2,List.drop_replicate,List.replicate_append_replicate,Nat.min_comm (n-k) k,show n-k-min k (n-k)=n-(k+min k (n-k)) by omega]
structure RV (c:List Ins) (x:LX):Prop where
 kr:x.k+x.r=c.length
 len:x.D.length=c.length
 lo:∀d∈x.D,-1<=d/\d<=x.k
 run:fromF c.length (c.drop x.k) x.k x.D x.m=fromF c.length c 0 (deps c) 0
structure RN (c:List Ins) (x:LX) (after:Int) (ns:List Int) (y:LX):Prop where
 kr:y.k+y.r=ns.length
 len:y.D.length=c.length
 lo:∀d∈y.D,-1<=d/\d<=x.k+1
 run:setF c.length x.k after (ns.drop y.k) y.D=setF c.length x.k after ns x.D
theorem Z02 (op:Int):0<=(eff op).1/\(eff op).1<=2/\0<=(eff op).2/\(eff op).2<=1:=by
 unfold eff
 repeat' split
 all_goals simp
theorem Zbr {D:List Int} {j:Nat} {a lo hi:Int} (h:∀d∈D,lo<=d/\d<=hi) (h2:lo<=a/\a<=hi):∀d∈D.set j a,lo<=d/\d<=hi:=by
 intro d hd
 rcases List.mem_or_eq_of_mem_set hd with h3|h3
 · exact h d h3
 · subst h3;exact h2
theorem Zli (c:List Ins):PureC E 17 [.psl .ins c false] (.tup [.int false .i64 (verF c).1,.int false .i64 (verF c).2]):=by
 refine Zc E_ok (Zn E_ok Z1u 400) ?_
 rw [Zl1]; delta qBG7 qBGc qBGn qBGt qBG9 qBG1 qBGr qBG4 qBG5 qBGe qBGp qBGm qBGs qBG6 qBG8 qBGi qBGg qBGj qBGd qBG2 qBGk qBGb qBGl qBGh qBG3 qBGq qBGa qBGu qBGo qBGf qBGv
 have s1:4096<c.length->verF c=(0,2):=fun h=>by unfold verF;rw [if_pos h]
 have s2:c.length=0->verF c=(0,200):=fun h=>by unfold verF;rw [if_neg (by omega),if_pos (.inl h)]
 have s3:c.length<=4096->c.all formedF=false->verF c=(0,200):=fun h h2=>by unfold verF;rw [if_neg (by omega),if_pos (.inr h2)]
 have s4:c.length<=4096->c.length≠0->c.all formedF=true->verF c=endF (fromF c.length c 0 (deps c) 0):=fun h h2 h3=>by unfold verF;rw [if_neg (by omega),if_neg (by simp [h2,h3])]
 generalize verF c=V at*
 simp only [Z4,Zt,Xx,Xy,Xz,beq_iff_eq,bne_iff_ne,beq_eq_false_iff_ne,bne_eq_false_iff_eq,decide_eq_true_eq,decide_eq_false_iff_not,Bool.or_eq_true,Bool.or_eq_false_iff,Bool.not_eq_true',Bool.not_eq_false',Bool.and_eq_true,Bool.and_true,Bool.true_and,Bool.and_eq_false_iff,beq_self_eq_true,Z0,Yc,ne_eq,and_true,true_and,Bool.true_eq_false,Bool.false_eq_true,false_or,or_false,true_implies,Int.ofNat_eq_natCast,not_true_eq_false,not_false_eq_true,Decidable.not_not,gt_iff_lt,ge_iff_le]
 refine ⟨fun h=> ?_,fun h=>⟨fun h2=> ?_,fun h2=>⟨by omega,fun h3=> ?_,fun h3=>⟨fun h4=>by omega,fun h4=> ?_⟩⟩⟩⟩
 · rw [s1 (by omega)];simp
 · rw [s2 (by omega)];simp
 · rw [s3 (by omega) (by simpa using h3)];simp
 have hn:c.length<=4096:=by omega
 rw [s4 hn (by omega) h3]
 clear s1 s2 s3 s4 V h4 h
 have eU:wr .u64 (c.length:Int)=c.length:=Zw5 (by omega) (by omega)
 have eI:wr .i64 (c.length:Int)=c.length:=wr64 (by omega) (by omega)
 simp only [eU,eI,Int.toNat_natCast,Nat.zero_add,Int.toNat_zero]
 refine ⟨by omega,?_⟩
 refine ⟨fun b=>b=false,⟨fun h=>by omega,fun _=>⟨fun h=>by omega,fun _=>rfl⟩⟩,fun h=>by simp at h,fun _=> ?_⟩
 refine ⟨by omega,Int.le_refl _,by omega,by simp,?_⟩
 refine ⟨fun x=>1<=x.k/\x.k+x.r=c.length/\x.D=List.replicate x.k (-1)++List.replicate (c.length-x.k) 0,⟨⟨1,c.length-1,List.replicate 1 (-1)++List.replicate (c.length-1) 0,0⟩,⟨Nat.le_refl _,by show 1+(c.length-1)=_;omega,rfl⟩,?_⟩,fun x hx=> ?_⟩
 · have e:min ([-1]:List Int).length c.length=1:=by simp;omega
   rw [e]
   refine ⟨by simp,?_⟩
   have e2:List.take c.length [(-1:Int)]= [-1]:=List.take_of_length_le (by simp;omega)
   rw [e2]
   simp
 obtain ⟨hk1,hkr,hD⟩:=hx
 have hDl:x.D.length=c.length:=by rw [hD];simp;omega
 refine ⟨fun hlt=>⟨by omega,fun _=>⟨by omega,by omega,by omega,?_⟩,fun h=>absurd hlt h⟩,fun hge=> ?_⟩
 · have e:=Zvx hk1 (by omega:x.k<c.length) hD
   have e3:(List.take x.k x.D).length=x.k:=by rw [List.length_take];omega
   rw [e3] at e⊢
   refine ⟨⟨x.k+min x.k (c.length-x.k),c.length-(x.k+min x.k (c.length-x.k)),_,0⟩,⟨by show 1<=x.k+_;omega,by show x.k+min x.k (c.length-x.k)+(c.length-(x.k+min x.k (c.length-x.k)))=_;omega,rfl⟩,by show c.length-(x.k+min x.k (c.length-x.k))+1<=x.r;omega,?_,e⟩
   rw [wr64 (by omega) (by omega)]
   show _=((x.k+min x.k (c.length-x.k):Nat):Int)
   omega
 have hkn:x.k=c.length:=by omega
 have hD:x.D=List.replicate c.length (-1):=by rw [hD,hkn,Nat.sub_self];simp
 clear hk1 hkr hge
 refine ⟨by omega,by omega,by omega,fun z hz=> ?_⟩
 rw [hD] at hDl⊢
 clear hz hD hkn
 refine ⟨RV c,⟨⟨0,c.length,deps c,0⟩,⟨by show 0+c.length=_;omega,by simp [deps],?_,by simp⟩,by simp [deps]⟩,fun x hR=> ?_⟩
 · intro d hd
   rcases List.mem_or_eq_of_mem_set hd with h|h
   · rw [List.mem_replicate] at h;show-1<=d/\d<=0;omega
   · show-1<=d/\d<=0;omega
 have hlen:=hR.len
 refine ⟨fun hlt=>⟨by omega,by omega,fun x2 hx2=>⟨by omega,by omega,fun x3 hx3=> ?_⟩⟩,fun hge=> ?_⟩
 · have hb:=hR.lo x3 (List.mem_of_getElem? hx3)
   have he:=Z02 x2.op
   have hkr:=hR.kr
   have hget:x.D.getD x.k 0=x3:=by simp [List.getD_eq_getElem?_getD,hx3]
   have hdrop:c.drop x.k=x2::c.drop (x.k+1):=by
    obtain ⟨h1,rfl⟩:=gA9.1 hx2
    exact List.drop_eq_getElem_cons h1
   have hrun:=hR.run
   rw [hdrop] at hrun
   simp only [fromF] at hrun
   have hfo:formedF x2=true:=List.all_eq_true.1 h3 x2 (List.mem_of_getElem? hx2)
   have eK:wr .i64 ((x.k:Int)+1)=x.k+1:=wr64 (by omega) (by omega)
   have eA:wr .i64 (wr .i64 (x3-(eff x2.op).1)+(eff x2.op).2)=x3-(eff x2.op).1+(eff x2.op).2:=by
    have e0:wr .i64 (x3-(eff x2.op).1)=x3-(eff x2.op).1:=wr64 (by omega) (by omega)
    rw [e0];exact wr64 (by omega) (by omega)
   simp only [eK,eA,Z0]
   refine ⟨fun hneg=> ?_,fun hneg=> ?_⟩
   · have hsome:rndF c.length x.k x2 x.D x.m=some (x.D,x.m):=by unfold rndF;rw [hget,if_pos hneg]
     rw [hsome] at hrun
     exact ⟨⟨x.k+1,x.r-1,x.D,x.m⟩,⟨by show x.k+1+(x.r-1)=_;omega,hlen,fun d hd=>by have:=hR.lo d hd;show-1<=d/\d<=((x.k+1:Nat):Int);omega,hrun⟩,by show x.r-1+1<=x.r;omega,by simp⟩
   refine ⟨fun b=>(b=true↔(x3<(eff x2.op).1\/(x2.op=15/\x3≠1)\/(x2.op=16/\x3≠0))),?_,fun hQ=> ?_,fun hQ=> ?_⟩
   · repeat' (first|(refine And.intro ?_ ?_)|(intro h))
     all_goals simp
     all_goals omega
   · have hQ:=hQ.1 rfl
     have hnone:rndF c.length x.k x2 x.D x.m=none:=by unfold rndF;rw [hget,if_neg hneg,if_pos hQ]
     rw [hnone] at hrun
     rw [<-hrun]
     simp [endF]
   · have hbad:¬(x3<(eff x2.op).1\/(x2.op=15/\x3≠1)\/(x2.op=16/\x3≠0)):=fun h=>absurd (hQ.2 h) (by simp)
     clear hQ
     refine ⟨fun b=>(b=true↔(x2.op=13\/x2.op=14)),?_,fun hQ=> ?_,fun hQ=> ?_⟩
     · repeat' (first|(refine And.intro ?_ ?_)|(intro h))
       all_goals simp
       all_goals omega
     · have hQ:=hQ.1 rfl
       refine ⟨fun b=>(b=true↔(x2.op≠14/\x2.op≠15/\x2.op≠16)),?_,fun hQ2=> ?_,fun hQ2=> ?_⟩
       · repeat' (first|(refine And.intro ?_ ?_)|(intro h))
         all_goals simp
         all_goals omega
       · have hQ2:=hQ2.1 rfl
         have hnx:nextF x.k x2= [x2.n,(x.k:Int)+1]:=by unfold nextF;rw [if_neg (by omega),if_neg (by omega),if_pos (by omega)]
         simp only [List.length_cons,List.length_nil,Nat.zero_add,List.take_succ_cons,List.take_zero,List.cons_append,List.nil_append]
         refine ⟨by omega,?_⟩
         refine ⟨RN c x (x3-(eff x2.op).1+(eff x2.op).2) [x2.n,(x.k:Int)+1],⟨⟨0,2,x.D,0⟩,⟨rfl,hR.len,fun d hd=>⟨(hR.lo d hd).1,by have:=(hR.lo d hd).2;omega⟩,rfl⟩,by simp⟩,fun y hy=>⟨fun hlt=> ?_,fun hge=> ?_⟩⟩
         · have hyk:y.k<([x2.n,(x.k:Int)+1]).length:=by simp only [List.length_cons,List.length_nil];omega
           refine ⟨by omega,by first|omega|(simp only [List.length_cons,List.length_nil];omega),fun n hy5=> ?_⟩
           have hns:([x2.n,(x.k:Int)+1]).drop y.k=n::([x2.n,(x.k:Int)+1]).drop (y.k+1):=by
            obtain ⟨h1,rfl⟩:=gA9.1 hy5
            exact List.drop_eq_getElem_cons h1
           have hset:=hy.run
           rw [hns] at hset
           generalize hS:setF c.length x.k (x3-(eff x2.op).1+(eff x2.op).2) [x2.n,(x.k:Int)+1] x.D=SF at hset
           simp only [setF] at hset
           refine ⟨fun b=>(b=true↔(n<=x.k\/(c.length:Int)<=n\/(0<=y.D.getD n.toNat 0/\y.D.getD n.toNat 0≠x3-(eff x2.op).1+(eff x2.op).2))),?_,fun hQ=> ?_,fun hQ=> ?_⟩
           · refine ⟨fun h=>by simp [h],fun h=>⟨fun h'=>by simp [h'],fun h'=>⟨by omega,by rw [hy.len];omega,fun z hz=> ?_⟩⟩⟩
             have hg:y.D.getD n.toNat 0=z:=by simp [List.getD_eq_getElem?_getD,hz]
             rw [hg]
             refine ⟨fun h0=>⟨by omega,by rw [hy.len];omega,fun z2 hz2=> ?_⟩,fun h0=>by simp;omega⟩
             rw [hz] at hz2;cases hz2
             exact ⟨fun h1=>by simp;omega,fun h1=>by simp;omega⟩
           · have hQ:=hQ.1 rfl
             rw [if_pos hQ] at hset
             have hnone:rndF c.length x.k x2 x.D x.m=none:=by
              unfold rndF
              rw [hget,if_neg hneg,if_neg hbad,hnx,hS,<-hset]
             rw [hnone] at hrun
             rw [<-hrun]
             simp [endF]
           · have hQ:¬(n<=x.k\/(c.length:Int)<=n\/(0<=y.D.getD n.toNat 0/\y.D.getD n.toNat 0≠x3-(eff x2.op).1+(eff x2.op).2)):=fun h=>by simp at hQ;exact absurd h (by simpa using hQ)
             rw [if_neg hQ] at hset
             refine ⟨by omega,Nat.zero_le _,by rw [hy.len];omega,fun z hz=> ?_⟩
             refine ⟨⟨y.k+1,y.r-1,y.D.set n.toNat (x3-(eff x2.op).1+(eff x2.op).2),0⟩,⟨by have:=hy.kr;show y.k+1+(y.r-1)=_;omega,by simp [hy.len],Zbr hy.lo (by omega),hset.trans hS.symm⟩,by have:=hy.kr;show y.r-1+1<=y.r;omega,?_⟩
             rw [wr64 (by omega) (by omega)]
             simp
         · have hyk:([x2.n,(x.k:Int)+1]).drop y.k= []:=List.drop_eq_nil_of_le (by simp only [List.length_cons,List.length_nil];omega)
           have hset:=hy.run
           rw [hyk] at hset
           generalize hS:setF c.length x.k (x3-(eff x2.op).1+(eff x2.op).2) [x2.n,(x.k:Int)+1] x.D=SF at hset
           simp only [setF] at hset
           have hsome:rndF c.length x.k x2 x.D x.m=some (y.D,max (max x.m x3) (x3-(eff x2.op).1+(eff x2.op).2)):=by
            unfold rndF
            rw [hget,if_neg hneg,if_neg hbad,hnx,hS,<-hset]
           rw [hsome] at hrun
           refine ⟨⟨x.k+1,x.r-1,y.D,_⟩,⟨by have:=hR.kr;show x.k+1+(x.r-1)=_;omega,hy.len,fun d hd=>by have:=hy.lo d hd;show-1<=d/\d<=((x.k+1:Nat):Int);omega,hrun⟩,by have:=hR.kr;show x.r-1+1<=x.r;omega,?_⟩
           simp
       · have hQ2:¬(x2.op≠14/\x2.op≠15/\x2.op≠16):=fun h=>absurd (hQ2.2 h) (by simp)
         have hnx:nextF x.k x2= [x2.n]:=by unfold nextF;rw [if_neg (by omega),if_pos (by omega)]
         simp only [List.length_cons,List.length_nil,Nat.zero_add]
         refine ⟨RN c x (x3-(eff x2.op).1+(eff x2.op).2) [x2.n],⟨⟨0,1,x.D,0⟩,⟨rfl,hR.len,fun d hd=>⟨(hR.lo d hd).1,by have:=(hR.lo d hd).2;omega⟩,rfl⟩,by simp⟩,fun y hy=>⟨fun hlt=> ?_,fun hge=> ?_⟩⟩
         · have hyk:y.k<([x2.n]).length:=by simp only [List.length_cons,List.length_nil];omega
           refine ⟨by omega,by first|omega|(simp only [List.length_cons,List.length_nil];omega),fun n hy5=> ?_⟩
           have hns:([x2.n]).drop y.k=n::([x2.n]).drop (y.k+1):=by
            obtain ⟨h1,rfl⟩:=gA9.1 hy5
            exact List.drop_eq_getElem_cons h1
           have hset:=hy.run
           rw [hns] at hset
           generalize hS:setF c.length x.k (x3-(eff x2.op).1+(eff x2.op).2) [x2.n] x.D=SF at hset
           simp only [setF] at hset
           refine ⟨fun b=>(b=true↔(n<=x.k\/(c.length:Int)<=n\/(0<=y.D.getD n.toNat 0/\y.D.getD n.toNat 0≠x3-(eff x2.op).1+(eff x2.op).2))),?_,fun hQ=> ?_,fun hQ=> ?_⟩
           · refine ⟨fun h=>by simp [h],fun h=>⟨fun h'=>by simp [h'],fun h'=>⟨by omega,by rw [hy.len];omega,fun z hz=> ?_⟩⟩⟩
             have hg:y.D.getD n.toNat 0=z:=by simp [List.getD_eq_getElem?_getD,hz]
             rw [hg]
             refine ⟨fun h0=>⟨by omega,by rw [hy.len];omega,fun z2 hz2=> ?_⟩,fun h0=>by simp;omega⟩
             rw [hz] at hz2;cases hz2
             exact ⟨fun h1=>by simp;omega,fun h1=>by simp;omega⟩
           · have hQ:=hQ.1 rfl
             rw [if_pos hQ] at hset
             have hnone:rndF c.length x.k x2 x.D x.m=none:=by
              unfold rndF
              rw [hget,if_neg hneg,if_neg hbad,hnx,hS,<-hset]
             rw [hnone] at hrun
             rw [<-hrun]
             simp [endF]
           · have hQ:¬(n<=x.k\/(c.length:Int)<=n\/(0<=y.D.getD n.toNat 0/\y.D.getD n.toNat 0≠x3-(eff x2.op).1+(eff x2.op).2)):=fun h=>by simp at hQ;exact absurd h (by simpa using hQ)
             rw [if_neg hQ] at hset
             refine ⟨by omega,Nat.zero_le _,by rw [hy.len];omega,fun z hz=> ?_⟩
             refine ⟨⟨y.k+1,y.r-1,y.D.set n.toNat (x3-(eff x2.op).1+(eff x2.op).2),0⟩,⟨by have:=hy.kr;show y.k+1+(y.r-1)=_;omega,by simp [hy.len],Zbr hy.lo (by omega),hset.trans hS.symm⟩,by have:=hy.kr;show y.r-1+1<=y.r;omega,?_⟩
             rw [wr64 (by omega) (by omega)]
             simp
         · have hyk:([x2.n]).drop y.k= []:=List.drop_eq_nil_of_le (by simp only [List.length_cons,List.length_nil];omega)
           have hset:=hy.run
           rw [hyk] at hset
           generalize hS:setF c.length x.k (x3-(eff x2.op).1+(eff x2.op).2) [x2.n] x.D=SF at hset
           simp only [setF] at hset
           have hsome:rndF c.length x.k x2 x.D x.m=some (y.D,max (max x.m x3) (x3-(eff x2.op).1+(eff x2.op).2)):=by
            unfold rndF
            rw [hget,if_neg hneg,if_neg hbad,hnx,hS,<-hset]
           rw [hsome] at hrun
           refine ⟨⟨x.k+1,x.r-1,y.D,_⟩,⟨by have:=hR.kr;show x.k+1+(x.r-1)=_;omega,hy.len,fun d hd=>by have:=hy.lo d hd;show-1<=d/\d<=((x.k+1:Nat):Int);omega,hrun⟩,by have:=hR.kr;show x.r-1+1<=x.r;omega,?_⟩
           simp
     · have hQ:¬(x2.op=13\/x2.op=14):=fun h=>absurd (hQ.2 h) (by simp)
       refine ⟨fun b=>(b=true↔(x2.op≠14/\x2.op≠15/\x2.op≠16)),?_,fun hQ2=> ?_,fun hQ2=> ?_⟩
       · repeat' (first|(refine And.intro ?_ ?_)|(intro h))
         all_goals simp
         all_goals omega
       · have hQ2:=hQ2.1 rfl
         have hnx:nextF x.k x2= [(x.k:Int)+1]:=by unfold nextF;rw [if_neg (by omega),if_neg (by omega),if_neg (by omega)]
         simp only [List.length_cons,List.length_nil,Nat.zero_add]
         refine ⟨RN c x (x3-(eff x2.op).1+(eff x2.op).2) [(x.k:Int)+1],⟨⟨0,1,x.D,0⟩,⟨rfl,hR.len,fun d hd=>⟨(hR.lo d hd).1,by have:=(hR.lo d hd).2;omega⟩,rfl⟩,by simp⟩,fun y hy=>⟨fun hlt=> ?_,fun hge=> ?_⟩⟩
         · have hyk:y.k<([(x.k:Int)+1]).length:=by simp only [List.length_cons,List.length_nil];omega
           refine ⟨by omega,by first|omega|(simp only [List.length_cons,List.length_nil];omega),fun n hy5=> ?_⟩
           have hns:([(x.k:Int)+1]).drop y.k=n::([(x.k:Int)+1]).drop (y.k+1):=by
            obtain ⟨h1,rfl⟩:=gA9.1 hy5
            exact List.drop_eq_getElem_cons h1
           have hset:=hy.run
           rw [hns] at hset
           generalize hS:setF c.length x.k (x3-(eff x2.op).1+(eff x2.op).2) [(x.k:Int)+1] x.D=SF at hset
           simp only [setF] at hset
           refine ⟨fun b=>(b=true↔(n<=x.k\/(c.length:Int)<=n\/(0<=y.D.getD n.toNat 0/\y.D.getD n.toNat 0≠x3-(eff x2.op).1+(eff x2.op).2))),?_,fun hQ=> ?_,fun hQ=> ?_⟩
           · refine ⟨fun h=>by simp [h],fun h=>⟨fun h'=>by simp [h'],fun h'=>⟨by omega,by rw [hy.len];omega,fun z hz=> ?_⟩⟩⟩
             have hg:y.D.getD n.toNat 0=z:=by simp [List.getD_eq_getElem?_getD,hz]
             rw [hg]
             refine ⟨fun h0=>⟨by omega,by rw [hy.len];omega,fun z2 hz2=> ?_⟩,fun h0=>by simp;omega⟩
             rw [hz] at hz2;cases hz2
             exact ⟨fun h1=>by simp;omega,fun h1=>by simp;omega⟩
           · have hQ:=hQ.1 rfl
             rw [if_pos hQ] at hset
             have hnone:rndF c.length x.k x2 x.D x.m=none:=by
              unfold rndF
              rw [hget,if_neg hneg,if_neg hbad,hnx,hS,<-hset]
             rw [hnone] at hrun
             rw [<-hrun]
             simp [endF]
           · have hQ:¬(n<=x.k\/(c.length:Int)<=n\/(0<=y.D.getD n.toNat 0/\y.D.getD n.toNat 0≠x3-(eff x2.op).1+(eff x2.op).2)):=fun h=>by simp at hQ;exact absurd h (by simpa using hQ)
             rw [if_neg hQ] at hset
             refine ⟨by omega,Nat.zero_le _,by rw [hy.len];omega,fun z hz=> ?_⟩
             refine ⟨⟨y.k+1,y.r-1,y.D.set n.toNat (x3-(eff x2.op).1+(eff x2.op).2),0⟩,⟨by have:=hy.kr;show y.k+1+(y.r-1)=_;omega,by simp [hy.len],Zbr hy.lo (by omega),hset.trans hS.symm⟩,by have:=hy.kr;show y.r-1+1<=y.r;omega,?_⟩
             rw [wr64 (by omega) (by omega)]
             simp
         · have hyk:([(x.k:Int)+1]).drop y.k= []:=List.drop_eq_nil_of_le (by simp only [List.length_cons,List.length_nil];omega)
           have hset:=hy.run
           rw [hyk] at hset
           generalize hS:setF c.length x.k (x3-(eff x2.op).1+(eff x2.op).2) [(x.k:Int)+1] x.D=SF at hset
           simp only [setF] at hset
           have hsome:rndF c.length x.k x2 x.D x.m=some (y.D,max (max x.m x3) (x3-(eff x2.op).1+(eff x2.op).2)):=by
            unfold rndF
            rw [hget,if_neg hneg,if_neg hbad,hnx,hS,<-hset]
           rw [hsome] at hrun
           refine ⟨⟨x.k+1,x.r-1,y.D,_⟩,⟨by have:=hR.kr;show x.k+1+(x.r-1)=_;omega,hy.len,fun d hd=>by have:=hy.lo d hd;show-1<=d/\d<=((x.k+1:Nat):Int);omega,hrun⟩,by have:=hR.kr;show x.r-1+1<=x.r;omega,?_⟩
           simp
       · have hQ2:¬(x2.op≠14/\x2.op≠15/\x2.op≠16):=fun h=>absurd (hQ2.2 h) (by simp)
         have hnx:nextF x.k x2= []:=by unfold nextF;rw [if_pos (by omega)]
         have hsome:rndF c.length x.k x2 x.D x.m=some (x.D,max (max x.m x3) (x3-(eff x2.op).1+(eff x2.op).2)):=by
          unfold rndF
          rw [hget,if_neg hneg,if_neg hbad,hnx]
          rfl
         rw [hsome] at hrun
         refine ⟨fun y=>y.D=x.D,⟨⟨0,0,x.D,0⟩,rfl,by simp⟩,fun y hy=>⟨fun h=>by omega,fun _=> ?_⟩⟩
         refine ⟨⟨x.k+1,x.r-1,x.D,_⟩,⟨by show x.k+1+(x.r-1)=_;omega,hlen,fun d hd=>by have:=hR.lo d hd;show-1<=d/\d<=((x.k+1:Nat):Int);omega,hrun⟩,by show x.r-1+1<=x.r;omega,?_⟩
         simp [hy]
 · have hrun:=hR.run
   rw [List.drop_eq_nil_of_le (by omega)] at hrun
   simp only [fromF] at hrun
   rw [<-hrun]
   refine ⟨fun h=> ?_,fun h=> ?_⟩
   · simp [endF,h]
   · simp [endF,h]
end
section
open Go
def Z12:=(.cons dI (.cons dI (.cons dI (.cons dI (.cons dI (.cons dI (.cons dI (.cons dI (.cons dI (.cons dI (.cons dI (.cons dI (.cons dI (.cons dI (.cons dI (.cons dI (.cons dI .nil)))))))))))))))):DcL E (Int×Int×Int×Int×Int×Int×Int×Int×Int×Int×Int×Int×Int×Int×Int×Int×Int×Unit))
def dEnv:Dc E Env:= .map (dAgg Z12) (fun x=>⟨x.1,x.2.1,x.2.2.1,x.2.2.2.1,x.2.2.2.2.1,x.2.2.2.2.2.1,x.2.2.2.2.2.2.1,x.2.2.2.2.2.2.2.1,x.2.2.2.2.2.2.2.2.1,x.2.2.2.2.2.2.2.2.2.1,x.2.2.2.2.2.2.2.2.2.2.1,x.2.2.2.2.2.2.2.2.2.2.2.1,x.2.2.2.2.2.2.2.2.2.2.2.2.1,x.2.2.2.2.2.2.2.2.2.2.2.2.2.1,x.2.2.2.2.2.2.2.2.2.2.2.2.2.2.1,x.2.2.2.2.2.2.2.2.2.2.2.2.2.2.2.1,x.2.2.2.2.2.2.2.2.2.2.2.2.2.2.2.2.1⟩)
 (fun x=>(x.has,x.v0,x.v1,x.v2,x.v3,x.v4,x.v5,x.v6,x.v7,x.v8,x.v9,x.v10,x.v11,x.v12,x.v13,x.v14,x.v15,())) (fun _=>rfl)
def dSt:Dc E St:= .map (dAgg (.cons dI (.cons dI (.cons dI (.cons dI (dL1 Z13))))):Dc E (Int×Int×Int×Int×List Int×Unit)) (fun x=>⟨x.1,x.2.1,x.2.2.1,x.2.2.2.1,x.2.2.2.2.1⟩) (fun s=>(s.pc,s.fuel,s.status,s.clause,s.stack,())) (fun _=>rfl)
def envV (v:Env):SV thy:= .agg [.int false .i64 v.has,.int false .i64 v.v0,.int false .i64 v.v1,.int false .i64 v.v2,.int false .i64 v.v3,.int false .i64 v.v4,.int false .i64 v.v5,.int false .i64 v.v6,.int false .i64 v.v7,.int false .i64 v.v8,.int false .i64 v.v9,.int false .i64 v.v10,.int false .i64 v.v11,.int false .i64 v.v12,.int false .i64 v.v13,.int false .i64 v.v14,.int false .i64 v.v15]
def stV (s:St):SV thy:= .agg [.int false .i64 s.pc,.int false .i64 s.fuel,.int false .i64 s.status,.int false .i64 s.clause,.psl .ints s.stack false]
def Sver:Sum thy:=sumP (dL1 Zug) (fun _=>True) fun x=> .tup [.int false .i64 (verF x.1).1,.int false .i64 (verF x.1).2]
def F5:Fns thy:=addS F4 17 Sver
theorem Zz9:FnsOk E F5:=Zh Z1u (Zs E_ok (Zk (f:=17) rfl) fun x _=>Zli x.1)
abbrev qBIl (a0:St):=(St.stack a0)
abbrev qBI1 (a0:St):=(↑(List.length (qBIl a0)):Int)
abbrev qBIk:=(0:Int)
abbrev qBI8 (a0:St):=(Int.toNat (wr IntKind.i64 ((qBI1 a0)-qBIk)))
abbrev qBI9:=(1:Nat)
abbrev qBI2 (a0:St):=(List.length (List.take (qBI8 a0) (qBIl a0))+qBI9)
abbrev qBId:=(1:Int)
abbrev qBIi (a0:St):=(St.fuel a0-qBId)
abbrev qBIb (a0:St) (b0:St):=(St.stack a0=St.stack b0/\(false=true->false=true))
abbrev qBI3 (a0:Bool->Prop) (b0:St) (c0:St):=(a0 true->St.pc b0=St.pc c0/\wr IntKind.i64 (qBIi b0)=St.fuel c0/\(13:Int)=St.status c0/\St.clause b0=St.clause c0/\(qBIb b0 c0)/\True)
abbrev qBI4 (a0:St):=(qBIk<=wr IntKind.i64 ((qBI1 a0)-qBIk)/\wr IntKind.i64 ((qBI1 a0)-qBIk)=wr IntKind.i64 ((qBI1 a0)-qBIk)/\wr IntKind.i64 ((qBI1 a0)-qBIk)<=(qBI1 a0))
abbrev qBIc (a0:St):=(Int.toNat (wr IntKind.i64 ((qBI1 a0)-(2:Int))))
abbrev qBI5 (a0:St):=(List.length (List.take (qBIc a0) (qBIl a0))+qBI9)
abbrev qBI6 (a0:St):=(wr IntKind.i64 ((qBI1 a0)-qBId)-qBIk)
abbrev qBI7 (a0:St):=(qBIk<=wr IntKind.i64 ((qBI1 a0)-(2:Int))/\wr IntKind.i64 ((qBI1 a0)-(2:Int))=wr IntKind.i64 ((qBI1 a0)-(2:Int))/\wr IntKind.i64 ((qBI1 a0)-(2:Int))<=(qBI1 a0))
abbrev qBIa (a0:St):=(wr IntKind.i64 ((qBI1 a0)-qBId)-qBId)
abbrev qBIn (a0:St):=(Int.toNat (wr IntKind.i64 ((qBI1 a0)-qBId)))
abbrev qBIe (a0:St):=(List.length (List.take (qBIn a0) (qBIl a0))+qBI9)
abbrev qBIf:=(-9007199254740992:Int)
abbrev qBIg:=(9007199254740992:Int)
abbrev qBIh:=(140737488355328:Nat)
abbrev qBIj (a0:St):=(qBIk<=wr IntKind.i64 ((qBI1 a0)-qBId)/\wr IntKind.i64 ((qBI1 a0)-qBId)=wr IntKind.i64 ((qBI1 a0)-qBId)/\wr IntKind.i64 ((qBI1 a0)-qBId)<=(qBI1 a0))
abbrev qBIm:=(0:Nat)
abbrev qBIo (a0:St):=(St.pc a0+qBId)
abbrev qBIp (a0:St):=(wr IntKind.i64 (qBI6 a0))
abbrev qBIq:=(8:Nat)
abbrev qBIr (a0:St):=(wr IntKind.i64 (qBIa a0))
abbrev qBIs (a0:Int) (b0:St) (c0:St):=(decide (wr IntKind.i64 (a0+(qBI1 b0))>=(64:Int))=true->St.pc b0=St.pc c0/\wr IntKind.i64 (qBIi b0)=St.fuel c0/\(210:Int)=St.status c0/\St.clause b0=St.clause c0/\(qBIb b0 c0)/\True)
abbrev qBIt:=(↑(qBIm+qBI9+qBI9+qBI9+qBI9+qBI9+qBI9+qBI9+qBI9+qBI9+qBI9+qBI9+qBI9+qBI9+qBI9+qBI9):Int)
abbrev qBIu:=(↑(qBIm+qBI9+qBI9+qBI9+qBI9+qBI9+qBI9+qBI9+qBI9+qBI9+qBI9+qBI9+qBI9+qBI9+qBI9):Int)
abbrev qBIv:=(↑(qBIm+qBI9+qBI9+qBI9+qBI9+qBI9+qBI9+qBI9+qBI9+qBI9+qBI9+qBI9+qBI9+qBI9):Int)
abbrev qBIw (a0:Env) (b0:Ins):=(Yb BinOp.and IntKind.i64 (Env.has a0) (wr IntKind.i64 (qBId*(2:Int)^min (Int.toNat (Ins.n b0)) (IntKind.bits IntKind.i64)))==qBIk)
abbrev qBIx:=(↑(qBIm+qBI9+qBI9+qBI9+qBI9+qBI9+qBI9+qBI9+qBI9+qBI9+qBI9+qBI9+qBI9):Int)
abbrev qBIy (a0:St) (b0:St):=(qBIm+(qBIe a0)<=List.length (List.take (qBIn a0) (qBIl a0)++ [qBIk])/\List.take (qBIe a0) (List.take (qBIn a0) (qBIl a0)++ [qBIk])=St.stack b0)
abbrev qBIz:=(↑(qBIm+qBI9+qBI9+qBI9+qBI9+qBI9+qBI9+qBI9+qBI9+qBI9+qBI9+qBI9):Int)
abbrev Zxw:=(↑(qBIm+qBI9+qBI9+qBI9+qBI9+qBI9+qBI9+qBI9+qBI9+qBI9+qBI9):Int)
abbrev Zxx:=(↑(qBIm+qBI9+qBI9+qBI9+qBI9+qBI9+qBI9+qBI9+qBI9+qBI9):Int)
abbrev Zc0:=(10:Int)
abbrev Zxy:=(↑(qBIm+qBI9+qBI9+qBI9+qBI9+qBI9+qBI9+qBI9+qBI9):Int)
abbrev Zxz:=(↑(qBIm+qBI9+qBI9+qBI9+qBI9+qBI9+qBI9+qBI9):Int)
abbrev Zqc (a0:Int) (b0:Int):=(Prod.snd (divF a0 b0 (8:Int)) !=qBIk)
abbrev Zqd (a0:Int) (b0:Int):=(Prod.snd (divF a0 b0 (9:Int)) !=qBIk)
abbrev Zx0:=(↑(qBIm+qBI9+qBI9+qBI9+qBI9+qBI9+qBI9):Int)
abbrev Zx1:=(↑(qBIm+qBI9+qBI9+qBI9+qBI9+qBI9):Int)
abbrev Zqe (a0:Int) (b0:Int):=(Prod.snd (divF a0 b0 Zc0) !=qBIk)
theorem Zhp (c:List Ins) (v:Env) (s:St) (below:Int) (z:St):Zw E F5 (vc E F5 400) 18 [.psl .ins c false,envV v,stV s,.int false .i64 below] hp0 0 (fun r=>ret E (patch hp0 0 r) r.v (stV z))=(
 ((St.fuel s==qBIk)=true->St.pc s=St.pc z/\St.fuel s=St.fuel z/\(220:Int)=St.status z/\St.clause s=St.clause z/\(qBIb s z)/\True)/\((St.fuel s==qBIk)=false->qBIk<=St.pc s/\St.pc s+qBId<=(↑(List.length c):Int)/\∀(x:Ins),c[Int.toNat (St.pc s)]? =some x->True/\(decide ((qBI1 s)<Wo (Ins.op x))=true->St.pc s=St.pc z/\wr IntKind.i64 (qBIi s)=St.fuel z/\(210:Int)=St.status z/\St.clause s=St.clause z/\(qBIb s z)/\True)/\(decide ((qBI1 s)<Wo (Ins.op x))=false->((Ins.op x==qBId)=true->(qBIs below s z)/\(decide (wr IntKind.i64 (below+(qBI1 s))>=(64:Int))=false->(qBI4 s)/\(qBI2 s)*qBIq<=qBIh/\wr IntKind.i64 (qBIo s)=St.pc z/\wr IntKind.i64 (qBIi s)=St.fuel z/\St.status s=St.status z/\St.clause s=St.clause z/\(qBIm+(qBI2 s)<=List.length (List.take (qBI8 s) (qBIl s)++ [Ins.n x])/\List.take (qBI2 s) (List.take (qBI8 s) (qBIl s)++ [Ins.n x])=St.stack z)/\True))/\((Ins.op x==qBId)=false->((Ins.op x==(2:Int))=true->(qBIs below s z)/\(decide (wr IntKind.i64 (below+(qBI1 s))>=(64:Int))=false->qBIk<=Ins.n x/\((qBIw v x)=true->St.pc s=St.pc z/\wr IntKind.i64 (qBIi s)=St.fuel z/\(191:Int)=St.status z/\St.clause s=St.clause z/\(qBIb s z)/\True)/\((qBIw v x)=false->qBIk<=Ins.n x/\Ins.n x+qBId<=(↑(16:Nat):Int)/\((Ins.n x==(↑qBIm:Int))=true->∃(Q:Bool->Prop),((decide (Env.v0 v<qBIf)=true->Q true)/\(decide (Env.v0 v<qBIf)=false->(decide (Env.v0 v>qBIg)=true->Q true)/\(decide (Env.v0 v>qBIg)=false->Q false)))/\(qBI3 Q s z)/\(Q false->(qBI4 s)/\(qBI2 s)*qBIq<=qBIh/\wr IntKind.i64 (qBIo s)=St.pc z/\wr IntKind.i64 (qBIi s)=St.fuel z/\St.status s=St.status z/\St.clause s=St.clause z/\(qBIm+(qBI2 s)<=List.length (List.take (qBI8 s) (qBIl s)++ [Env.v0 v])/\List.take (qBI2 s) (List.take (qBI8 s) (qBIl s)++ [Env.v0 v])=St.stack z)/\True))/\((Ins.n x==(↑qBIm:Int))=false->((Ins.n x==(↑(qBIm+qBI9):Int))=true->∃(Q:Bool->Prop),((decide (Env.v1 v<qBIf)=true->Q true)/\(decide (Env.v1 v<qBIf)=false->(decide (Env.v1 v>qBIg)=true->Q true)/\(decide (Env.v1 v>qBIg)=false->Q false)))/\(qBI3 Q s z)/\(Q false->(qBI4 s)/\(qBI2 s)*qBIq<=qBIh/\wr IntKind.i64 (qBIo s)=St.pc z/\wr IntKind.i64 (qBIi s)=St.fuel z/\St.status s=St.status z/\St.clause s=St.clause z/\(qBIm+(qBI2 s)<=List.length (List.take (qBI8 s) (qBIl s)++ [Env.v1 v])/\List.take (qBI2 s) (List.take (qBI8 s) (qBIl s)++ [Env.v1 v])=St.stack z)/\True))/\((Ins.n x==(↑(qBIm+qBI9):Int))=false->((Ins.n x==(↑(qBIm+qBI9+qBI9):Int))=true->∃(Q:Bool->Prop),((decide (Env.v2 v<qBIf)=true->Q true)/\(decide (Env.v2 v<qBIf)=false->(decide (Env.v2 v>qBIg)=true->Q true)/\(decide (Env.v2 v>qBIg)=false->Q false)))/\(qBI3 Q s z)/\(Q false->(qBI4 s)/\(qBI2 s)*qBIq<=qBIh/\wr IntKind.i64 (qBIo s)=St.pc z/\wr IntKind.i64 (qBIi s)=St.fuel z/\St.status s=St.status z/\St.clause s=St.clause z/\(qBIm+(qBI2 s)<=List.length (List.take (qBI8 s) (qBIl s)++ [Env.v2 v])/\List.take (qBI2 s) (List.take (qBI8 s) (qBIl s)++ [Env.v2 v])=St.stack z)/\True))/\((Ins.n x==(↑(qBIm+qBI9+qBI9):Int))=false->((Ins.n x==(↑(qBIm+qBI9+qBI9+qBI9):Int))=true->∃(Q:Bool->Prop),((decide (Env.v3 v<qBIf)=true->Q true)/\(decide (Env.v3 v<qBIf)=false->(decide (Env.v3 v>qBIg)=true->Q true)/\(decide (Env.v3 v>qBIg)=false->Q false)))/\(qBI3 Q s z)/\(Q false->(qBI4 s)/\(qBI2 s)*qBIq<=qBIh/\wr IntKind.i64 (qBIo s)=St.pc z/\wr IntKind.i64 (qBIi s)=St.fuel z/\St.status s=St.status z/\St.clause s=St.clause z/\(qBIm+(qBI2 s)<=List.length (List.take (qBI8 s) (qBIl s)++ [Env.v3 v])/\List.take (qBI2 s) (List.take (qBI8 s) (qBIl s)++ [Env.v3 v])=St.stack z)/\True))/\((Ins.n x==(↑(qBIm+qBI9+qBI9+qBI9):Int))=false->((Ins.n x==
(↑(qBIm+qBI9+qBI9+qBI9+qBI9):Int))=true->∃(Q:Bool->Prop),((decide (Env.v4 v<qBIf)=true->Q true)/\(decide (Env.v4 v<qBIf)=false->(decide (Env.v4 v>qBIg)=true->Q true)/\(decide (Env.v4 v>qBIg)=false->Q false)))/\(qBI3 Q s z)/\(Q false->(qBI4 s)/\(qBI2 s)*qBIq<=qBIh/\wr IntKind.i64 (qBIo s)=St.pc z/\wr IntKind.i64 (qBIi s)=St.fuel z/\St.status s=St.status z/\St.clause s=St.clause z/\(qBIm+(qBI2 s)<=List.length (List.take (qBI8 s) (qBIl s)++ [Env.v4 v])/\List.take (qBI2 s) (List.take (qBI8 s) (qBIl s)++ [Env.v4 v])=St.stack z)/\True))/\((Ins.n x==(↑(qBIm+qBI9+qBI9+qBI9+qBI9):Int))=false->((Ins.n x==Zx1)=true->∃(Q:Bool->Prop),((decide (Env.v5 v<qBIf)=true->Q true)/\(decide (Env.v5 v<qBIf)=false->(decide (Env.v5 v>qBIg)=true->Q true)/\(decide (Env.v5 v>qBIg)=false->Q false)))/\(qBI3 Q s z)/\(Q false->(qBI4 s)/\(qBI2 s)*qBIq<=qBIh/\wr IntKind.i64 (qBIo s)=St.pc z/\wr IntKind.i64 (qBIi s)=St.fuel z/\St.status s=St.status z/\St.clause s=St.clause z/\(qBIm+(qBI2 s)<=List.length (List.take (qBI8 s) (qBIl s)++ [Env.v5 v])/\List.take (qBI2 s) (List.take (qBI8 s) (qBIl s)++ [Env.v5 v])=St.stack z)/\True))/\((Ins.n x==Zx1)=false->((Ins.n x==Zx0)=true->∃(Q:Bool->Prop),((decide (Env.v6 v<qBIf)=true->Q true)/\(decide (Env.v6 v<qBIf)=false->(decide (Env.v6 v>qBIg)=true->Q true)/\(decide (Env.v6 v>qBIg)=false->Q false)))/\(qBI3 Q s z)/\(Q false->(qBI4 s)/\(qBI2 s)*qBIq<=qBIh/\wr IntKind.i64 (qBIo s)=St.pc z/\wr IntKind.i64 (qBIi s)=St.fuel z/\St.status s=St.status z/\St.clause s=St.clause z/\(qBIm+(qBI2 s)<=List.length (List.take (qBI8 s) (qBIl s)++ [Env.v6 v])/\List.take (qBI2 s) (List.take (qBI8 s) (qBIl s)++ [Env.v6 v])=St.stack z)/\True))/\((Ins.n x==Zx0)=false->((Ins.n x==Zxz)=true->∃(Q:Bool->Prop),((decide (Env.v7 v<qBIf)=true->Q true)/\(decide (Env.v7 v<qBIf)=false->(decide (Env.v7 v>qBIg)=true->Q true)/\(decide (Env.v7 v>qBIg)=false->Q false)))/\(qBI3 Q s z)/\(Q false->(qBI4 s)/\(qBI2 s)*qBIq<=qBIh/\wr IntKind.i64 (qBIo s)=St.pc z/\wr IntKind.i64 (qBIi s)=St.fuel z/\St.status s=St.status z/\St.clause s=St.clause z/\(qBIm+(qBI2 s)<=List.length (List.take (qBI8 s) (qBIl s)++ [Env.v7 v])/\List.take (qBI2 s) (List.take (qBI8 s) (qBIl s)++ [Env.v7 v])=St.stack z)/\True))/\((Ins.n x==Zxz)=false->((Ins.n x==Zxy)=true->∃(Q:Bool->Prop),((decide (Env.v8 v<qBIf)=true->Q true)/\(decide (Env.v8 v<qBIf)=false->(decide (Env.v8 v>qBIg)=true->Q true)/\(decide (Env.v8 v>qBIg)=false->Q false)))/\(qBI3 Q s z)/\(Q false->(qBI4 s)/\(qBI2 s)*qBIq<=qBIh/\wr IntKind.i64 (qBIo s)=St.pc z/\wr IntKind.i64 (qBIi s)=St.fuel z/\St.status s=St.status z/\St.clause s=St.clause z/\(qBIm+(qBI2 s)<=List.length (List.take (qBI8 s) (qBIl s)++ [Env.v8 v])/\List.take (qBI2 s) (List.take (qBI8 s) (qBIl s)++ [Env.v8 v])=St.stack z)/\True))/\((Ins.n x==Zxy)=false->((Ins.n x==Zxx)=true->∃(Q:Bool->Prop),((decide (Env.v9 v<qBIf)=true->Q true)/\(decide (Env.v9 v<qBIf)=false->(decide (Env.v9 v>qBIg)=true->Q true)/\(decide (Env.v9 v>qBIg)=false->Q false)))/\(qBI3 Q s z)/\(Q false->(qBI4 s)/\(qBI2 s)*qBIq<=qBIh/\wr IntKind.i64 (qBIo s)=St.pc z/\wr IntKind.i64 (qBIi s)=St.fuel z/\St.status s=St.status z/\St.clause s=St.clause z/\(qBIm+(qBI2 s)<=List.length (List.take (qBI8 s) (qBIl s)++ [Env.v9 v])/\List.take (qBI2 s) (List.take (qBI8 s) (qBIl s)++ [Env.v9 v])=St.stack z)/\True))/\((Ins.n x==Zxx)=false->((Ins.n x==Zxw)=true->∃(Q:Bool->Prop),((decide (Env.v10 v<qBIf)=true->Q true)/\(decide (Env.v10 v<qBIf)=false->(decide (Env.v10 v>qBIg)=true->Q true)/\(decide (Env.v10 v>qBIg)=false->Q false)))/\(qBI3 Q s z)/\(Q false->
(qBI4 s)/\(qBI2 s)*qBIq<=qBIh/\wr IntKind.i64 (qBIo s)=St.pc z/\wr IntKind.i64 (qBIi s)=St.fuel z/\St.status s=St.status z/\St.clause s=St.clause z/\(qBIm+(qBI2 s)<=List.length (List.take (qBI8 s) (qBIl s)++ [Env.v10 v])/\List.take (qBI2 s) (List.take (qBI8 s) (qBIl s)++ [Env.v10 v])=St.stack z)/\True))/\((Ins.n x==Zxw)=false->((Ins.n x==qBIz)=true->∃(Q:Bool->Prop),((decide (Env.v11 v<qBIf)=true->Q true)/\(decide (Env.v11 v<qBIf)=false->(decide (Env.v11 v>qBIg)=true->Q true)/\(decide (Env.v11 v>qBIg)=false->Q false)))/\(qBI3 Q s z)/\(Q false->(qBI4 s)/\(qBI2 s)*qBIq<=qBIh/\wr IntKind.i64 (qBIo s)=St.pc z/\wr IntKind.i64 (qBIi s)=St.fuel z/\St.status s=St.status z/\St.clause s=St.clause z/\(qBIm+(qBI2 s)<=List.length (List.take (qBI8 s) (qBIl s)++ [Env.v11 v])/\List.take (qBI2 s) (List.take (qBI8 s) (qBIl s)++ [Env.v11 v])=St.stack z)/\True))/\((Ins.n x==qBIz)=false->((Ins.n x==qBIx)=true->∃(Q:Bool->Prop),((decide (Env.v12 v<qBIf)=true->Q true)/\(decide (Env.v12 v<qBIf)=false->(decide (Env.v12 v>qBIg)=true->Q true)/\(decide (Env.v12 v>qBIg)=false->Q false)))/\(qBI3 Q s z)/\(Q false->(qBI4 s)/\(qBI2 s)*qBIq<=qBIh/\wr IntKind.i64 (qBIo s)=St.pc z/\wr IntKind.i64 (qBIi s)=St.fuel z/\St.status s=St.status z/\St.clause s=St.clause z/\(qBIm+(qBI2 s)<=List.length (List.take (qBI8 s) (qBIl s)++ [Env.v12 v])/\List.take (qBI2 s) (List.take (qBI8 s) (qBIl s)++ [Env.v12 v])=St.stack z)/\True))/\((Ins.n x==qBIx)=false->((Ins.n x==qBIv)=true->∃(Q:Bool->Prop),((decide (Env.v13 v<qBIf)=true->Q true)/\(decide (Env.v13 v<qBIf)=false->(decide (Env.v13 v>qBIg)=true->Q true)/\(decide (Env.v13 v>qBIg)=false->Q false)))/\(qBI3 Q s z)/\(Q false->(qBI4 s)/\(qBI2 s)*qBIq<=qBIh/\wr IntKind.i64 (qBIo s)=St.pc z/\wr IntKind.i64 (qBIi s)=St.fuel z/\St.status s=St.status z/\St.clause s=St.clause z/\(qBIm+(qBI2 s)<=List.length (List.take (qBI8 s) (qBIl s)++ [Env.v13 v])/\List.take (qBI2 s) (List.take (qBI8 s) (qBIl s)++ [Env.v13 v])=St.stack z)/\True))/\((Ins.n x==qBIv)=false->((Ins.n x==qBIu)=true->∃(Q:Bool->Prop),((decide (Env.v14 v<qBIf)=true->Q true)/\(decide (Env.v14 v<qBIf)=false->(decide (Env.v14 v>qBIg)=true->Q true)/\(decide (Env.v14 v>qBIg)=false->Q false)))/\(qBI3 Q s z)/\(Q false->(qBI4 s)/\(qBI2 s)*qBIq<=qBIh/\wr IntKind.i64 (qBIo s)=St.pc z/\wr IntKind.i64 (qBIi s)=St.fuel z/\St.status s=St.status z/\St.clause s=St.clause z/\(qBIm+(qBI2 s)<=List.length (List.take (qBI8 s) (qBIl s)++ [Env.v14 v])/\List.take (qBI2 s) (List.take (qBI8 s) (qBIl s)++ [Env.v14 v])=St.stack z)/\True))/\((Ins.n x==qBIu)=false->((Ins.n x==qBIt)=true->∃(Q:Bool->Prop),((decide (Env.v15 v<qBIf)=true->Q true)/\(decide (Env.v15 v<qBIf)=false->(decide (Env.v15 v>qBIg)=true->Q true)/\(decide (Env.v15 v>qBIg)=false->Q false)))/\(qBI3 Q s z)/\(Q false->(qBI4 s)/\(qBI2 s)*qBIq<=qBIh/\wr IntKind.i64 (qBIo s)=St.pc z/\wr IntKind.i64 (qBIi s)=St.fuel z/\St.status s=St.status z/\St.clause s=St.clause z/\(qBIm+(qBI2 s)<=List.length (List.take (qBI8 s) (qBIl s)++ [Env.v15 v])/\List.take (qBI2 s) (List.take (qBI8 s) (qBIl s)++ [Env.v15 v])=St.stack z)/\True))/\((Ins.n x==qBIt)=false->True)))))))))))))))))))/\((Ins.op x==(2:Int))=false->((Ins.op x==(12:Int))=true->qBIk<=wr IntKind.i64 (qBI6 s)/\wr IntKind.i64 (qBI6 s)+qBId<=(qBI1 s)/\∀(x_1:Int),(qBIl s)[Int.toNat (qBIp s)]? =some x_1->(decide (Ins.n x<=x_1)=true->qBIk<=wr IntKind.i64 (qBI6 s)/\wr IntKind.i64 (qBI6 s)+qBId<=(qBI1 s)/\∀(x_2:Int),(qBIl s)[Int.toNat (qBIp s)]? =some x_2->(decide (x_2<=Ins.m x)=true->(qBIj s)/\(qBIe s)*qBIq<=qBIh/\wr IntKind.i64 (qBIo s)=St.pc z/\wr IntKind.i64 (qBIi s)=St.fuel z/\St.status
s=St.status z/\St.clause s=St.clause z/\(qBIm+(qBIe s)<=List.length (List.take (qBIn s) (qBIl s)++ [qBId])/\List.take (qBIe s) (List.take (qBIn s) (qBIl s)++ [qBId])=St.stack z)/\True)/\(decide (x_2<=Ins.m x)=false->(qBIj s)/\(qBIe s)*qBIq<=qBIh/\wr IntKind.i64 (qBIo s)=St.pc z/\wr IntKind.i64 (qBIi s)=St.fuel z/\St.status s=St.status z/\St.clause s=St.clause z/\(qBIy s z)/\True))/\(decide (Ins.n x<=x_1)=false->(qBIj s)/\(qBIe s)*qBIq<=qBIh/\wr IntKind.i64 (qBIo s)=St.pc z/\wr IntKind.i64 (qBIi s)=St.fuel z/\St.status s=St.status z/\St.clause s=St.clause z/\(qBIy s z)/\True))/\((Ins.op x==(12:Int))=false->((Ins.op x==(13:Int))=true->qBIk<=wr IntKind.i64 (qBI6 s)/\wr IntKind.i64 (qBI6 s)+qBId<=(qBI1 s)/\∀(x_1:Int),(qBIl s)[Int.toNat (qBIp s)]? =some x_1->(qBIj s)/\((x_1==qBIk)=true->Ins.n x=St.pc z/\wr IntKind.i64 (qBIi s)=St.fuel z/\St.status s=St.status z/\St.clause s=St.clause z/\(List.take (qBIn s) (qBIl s)=St.stack z/\(false=true->true=true))/\True)/\((x_1==qBIk)=false->wr IntKind.i64 (qBIo s)=St.pc z/\wr IntKind.i64 (qBIi s)=St.fuel z/\St.status s=St.status z/\St.clause s=St.clause z/\(List.take (qBIn s) (qBIl s)=St.stack z/\(false=true->true=true))/\True))/\((Ins.op x==(13:Int))=false->((Ins.op x==(14:Int))=true->Ins.n x=St.pc z/\wr IntKind.i64 (qBIi s)=St.fuel z/\St.status s=St.status z/\St.clause s=St.clause z/\(qBIb s z)/\True)/\((Ins.op x==(14:Int))=false->((Ins.op x==(15:Int))=true->St.pc s=St.pc z/\wr IntKind.i64 (qBIi s)=St.fuel z/\qBId=St.status z/\Ins.n x=St.clause z/\(qBIb s z)/\True)/\((Ins.op x==(15:Int))=false->((Ins.op x==(16:Int))=true->St.pc s=St.pc z/\wr IntKind.i64 (qBIi s)=St.fuel z/\(190:Int)=St.status z/\St.clause s=St.clause z/\(qBIb s z)/\True)/\((Ins.op x==(16:Int))=false->((Ins.op x==(↑(3:Nat):Int))=true->qBIk<=wr IntKind.i64 (qBIa s)/\wr IntKind.i64 (qBIa s)+qBId<=(qBI1 s)/\∀(x:Int),(qBIl s)[Int.toNat (qBIr s)]? =some x->qBIk<=wr IntKind.i64 (qBI6 s)/\wr IntKind.i64 (qBI6 s)+qBId<=(qBI1 s)/\∀(x_1:Int),(qBIl s)[Int.toNat (qBIp s)]? =some x_1->True/\((Prod.snd (addF x x_1) !=qBIk)=true->((Prod.snd (addF x x_1) !=qBIk)=true->St.pc s=St.pc z/\wr IntKind.i64 (qBIi s)=St.fuel z/\wr IntKind.i64 (Zc0+Prod.snd (addF x x_1))=St.status z/\St.clause s=St.clause z/\(qBIb s z)/\True)/\((Prod.snd (addF x x_1) !=qBIk)=false->St.pc s=St.pc z/\wr IntKind.i64 (qBIi s)=St.fuel z/\St.status s=St.status z/\St.clause s=St.clause z/\(qBIb s z)/\True))/\((Prod.snd (addF x x_1) !=qBIk)=false->(qBI7 s)/\(qBI5 s)*qBIq<=qBIh/\wr IntKind.i64 (qBIo s)=St.pc z/\wr IntKind.i64 (qBIi s)=St.fuel z/\St.status s=St.status z/\St.clause s=St.clause z/\(qBIm+(qBI5 s)<=List.length (List.take (qBIc s) (qBIl s)++ [Prod.fst (addF x x_1)])/\List.take (qBI5 s) (List.take (qBIc s) (qBIl s)++ [Prod.fst (addF x x_1)])=St.stack z)/\True))/\((Ins.op x==(↑(3:Nat):Int))=false->((Ins.op x==(↑(4:Nat):Int))=true->qBIk<=wr IntKind.i64 (qBIa s)/\wr IntKind.i64 (qBIa s)+qBId<=(qBI1 s)/\∀(x:Int),(qBIl s)[Int.toNat (qBIr s)]? =some x->qBIk<=wr IntKind.i64 (qBI6 s)/\wr IntKind.i64 (qBI6 s)+qBId<=(qBI1 s)/\∀(x_1:Int),(qBIl s)[Int.toNat (qBIp s)]? =some x_1->True/\((Prod.snd (subF x x_1) !=qBIk)=true->((Prod.snd (subF x x_1) !=qBIk)=true->St.pc s=St.pc z/\wr IntKind.i64 (qBIi s)=St.fuel z/\wr IntKind.i64 (Zc0+Prod.snd (subF x x_1))=St.status z/\St.clause s=St.clause z/\(qBIb s z)/\True)/\((Prod.snd (subF x x_1) !=qBIk)=false->St.pc s=St.pc z/\wr IntKind.i64 (qBIi s)=St.fuel z/\St.status s=St.status z/\St.clause s=St.clause z/\(qBIb s z)/\True))/\((Prod.snd (subF x x_1) !=qBIk)=false->(qBI7 s)/\(qBI5 s)*qBIq<=qBIh/\wr
IntKind.i64 (qBIo s)=St.pc z/\wr IntKind.i64 (qBIi s)=St.fuel z/\St.status s=St.status z/\St.clause s=St.clause z/\(qBIm+(qBI5 s)<=List.length (List.take (qBIc s) (qBIl s)++ [Prod.fst (subF x x_1)])/\List.take (qBI5 s) (List.take (qBIc s) (qBIl s)++ [Prod.fst (subF x x_1)])=St.stack z)/\True))/\((Ins.op x==(↑(4:Nat):Int))=false->((Ins.op x==(↑(5:Nat):Int))=true->qBIk<=wr IntKind.i64 (qBIa s)/\wr IntKind.i64 (qBIa s)+qBId<=(qBI1 s)/\∀(x:Int),(qBIl s)[Int.toNat (qBIr s)]? =some x->qBIk<=wr IntKind.i64 (qBI6 s)/\wr IntKind.i64 (qBI6 s)+qBId<=(qBI1 s)/\∀(x_1:Int),(qBIl s)[Int.toNat (qBIp s)]? =some x_1->True/\((Prod.snd (mulF x x_1) !=qBIk)=true->((Prod.snd (mulF x x_1) !=qBIk)=true->St.pc s=St.pc z/\wr IntKind.i64 (qBIi s)=St.fuel z/\wr IntKind.i64 (Zc0+Prod.snd (mulF x x_1))=St.status z/\St.clause s=St.clause z/\(qBIb s z)/\True)/\((Prod.snd (mulF x x_1) !=qBIk)=false->St.pc s=St.pc z/\wr IntKind.i64 (qBIi s)=St.fuel z/\St.status s=St.status z/\St.clause s=St.clause z/\(qBIb s z)/\True))/\((Prod.snd (mulF x x_1) !=qBIk)=false->(qBI7 s)/\(qBI5 s)*qBIq<=qBIh/\wr IntKind.i64 (qBIo s)=St.pc z/\wr IntKind.i64 (qBIi s)=St.fuel z/\St.status s=St.status z/\St.clause s=St.clause z/\(qBIm+(qBI5 s)<=List.length (List.take (qBIc s) (qBIl s)++ [Prod.fst (mulF x x_1)])/\List.take (qBI5 s) (List.take (qBIc s) (qBIl s)++ [Prod.fst (mulF x x_1)])=St.stack z)/\True))/\((Ins.op x==(↑(5:Nat):Int))=false->((Ins.op x==(↑(6:Nat):Int))=true->qBIk<=wr IntKind.i64 (qBIa s)/\wr IntKind.i64 (qBIa s)+qBId<=(qBI1 s)/\∀(x:Int),(qBIl s)[Int.toNat (qBIr s)]? =some x->qBIk<=wr IntKind.i64 (qBI6 s)/\wr IntKind.i64 (qBI6 s)+qBId<=(qBI1 s)/\∀(x_1:Int),(qBIl s)[Int.toNat (qBIp s)]? =some x_1->(qBI7 s)/\(qBI5 s)*qBIq<=qBIh/\wr IntKind.i64 (qBIo s)=St.pc z/\wr IntKind.i64 (qBIi s)=St.fuel z/\St.status s=St.status z/\St.clause s=St.clause z/\(qBIm+(qBI5 s)<=List.length (List.take (qBIc s) (qBIl s)++ [mm2 false x x_1])/\List.take (qBI5 s) (List.take (qBIc s) (qBIl s)++ [mm2 false x x_1])=St.stack z)/\True)/\((Ins.op x==(↑(6:Nat):Int))=false->((Ins.op x==(↑(7:Nat):Int))=true->qBIk<=wr IntKind.i64 (qBIa s)/\wr IntKind.i64 (qBIa s)+qBId<=(qBI1 s)/\∀(x:Int),(qBIl s)[Int.toNat (qBIr s)]? =some x->qBIk<=wr IntKind.i64 (qBI6 s)/\wr IntKind.i64 (qBI6 s)+qBId<=(qBI1 s)/\∀(x_1:Int),(qBIl s)[Int.toNat (qBIp s)]? =some x_1->(qBI7 s)/\(qBI5 s)*qBIq<=qBIh/\wr IntKind.i64 (qBIo s)=St.pc z/\wr IntKind.i64 (qBIi s)=St.fuel z/\St.status s=St.status z/\St.clause s=St.clause z/\(qBIm+(qBI5 s)<=List.length (List.take (qBIc s) (qBIl s)++ [mm2 true x x_1])/\List.take (qBI5 s) (List.take (qBIc s) (qBIl s)++ [mm2 true x x_1])=St.stack z)/\True)/\((Ins.op x==(↑(7:Nat):Int))=false->((Ins.op x==(↑qBIq:Int))=true->qBIk<=wr IntKind.i64 (qBIa s)/\wr IntKind.i64 (qBIa s)+qBId<=(qBI1 s)/\∀(x:Int),(qBIl s)[Int.toNat (qBIr s)]? =some x->qBIk<=wr IntKind.i64 (qBI6 s)/\wr IntKind.i64 (qBI6 s)+qBId<=(qBI1 s)/\∀(x_1:Int),(qBIl s)[Int.toNat (qBIp s)]? =some x_1->True/\((Zqc x x_1)=true->((Zqc x x_1)=true->St.pc s=St.pc z/\wr IntKind.i64 (qBIi s)=St.fuel z/\wr IntKind.i64 (Zc0+Prod.snd (divF x x_1 (8:Int)))=St.status z/\St.clause s=St.clause z/\(qBIb s z)/\True)/\((Zqc x x_1)=false->St.pc s=St.pc z/\wr IntKind.i64 (qBIi s)=St.fuel z/\St.status s=St.status z/\St.clause s=St.clause z/\(qBIb s z)/\True))/\((Zqc x x_1)=false->(qBI7 s)/\(qBI5 s)*qBIq<=qBIh/\wr IntKind.i64 (qBIo s)=St.pc z/\wr IntKind.i64 (qBIi s)=St.fuel z/\St.status s=St.status z/\St.clause s=St.clause z/\(qBIm+(qBI5 s)<=List.length (List.take (qBIc s) (qBIl s)++ [Prod.fst (divF x x_1 (8:Int))])/\List.take (qBI5 s) (List.take (qBIc s) (qBIl s)++ [Prod.fst
(divF x x_1 (8:Int))])=St.stack z)/\True))/\((Ins.op x==(↑qBIq:Int))=false->((Ins.op x==(↑(9:Nat):Int))=true->qBIk<=wr IntKind.i64 (qBIa s)/\wr IntKind.i64 (qBIa s)+qBId<=(qBI1 s)/\∀(x:Int),(qBIl s)[Int.toNat (qBIr s)]? =some x->qBIk<=wr IntKind.i64 (qBI6 s)/\wr IntKind.i64 (qBI6 s)+qBId<=(qBI1 s)/\∀(x_1:Int),(qBIl s)[Int.toNat (qBIp s)]? =some x_1->True/\((Zqd x x_1)=true->((Zqd x x_1)=true->St.pc s=St.pc z/\wr IntKind.i64 (qBIi s)=St.fuel z/\wr IntKind.i64 (Zc0+Prod.snd (divF x x_1 (9:Int)))=St.status z/\St.clause s=St.clause z/\(qBIb s z)/\True)/\((Zqd x x_1)=false->St.pc s=St.pc z/\wr IntKind.i64 (qBIi s)=St.fuel z/\St.status s=St.status z/\St.clause s=St.clause z/\(qBIb s z)/\True))/\((Zqd x x_1)=false->(qBI7 s)/\(qBI5 s)*qBIq<=qBIh/\wr IntKind.i64 (qBIo s)=St.pc z/\wr IntKind.i64 (qBIi s)=St.fuel z/\St.status s=St.status z/\St.clause s=St.clause z/\(qBIm+(qBI5 s)<=List.length (List.take (qBIc s) (qBIl s)++ [Prod.fst (divF x x_1 (9:Int))])/\List.take (qBI5 s) (List.take (qBIc s) (qBIl s)++ [Prod.fst (divF x x_1 (9:Int))])=St.stack z)/\True))/\((Ins.op x==(↑(9:Nat):Int))=false->((Ins.op x==(↑(10:Nat):Int))=true->qBIk<=wr IntKind.i64 (qBIa s)/\wr IntKind.i64 (qBIa s)+qBId<=(qBI1 s)/\∀(x:Int),(qBIl s)[Int.toNat (qBIr s)]? =some x->qBIk<=wr IntKind.i64 (qBI6 s)/\wr IntKind.i64 (qBI6 s)+qBId<=(qBI1 s)/\∀(x_1:Int),(qBIl s)[Int.toNat (qBIp s)]? =some x_1->True/\((Zqe x x_1)=true->((Zqe x x_1)=true->St.pc s=St.pc z/\wr IntKind.i64 (qBIi s)=St.fuel z/\wr IntKind.i64 (Zc0+Prod.snd (divF x x_1 Zc0))=St.status z/\St.clause s=St.clause z/\(qBIb s z)/\True)/\((Zqe x x_1)=false->St.pc s=St.pc z/\wr IntKind.i64 (qBIi s)=St.fuel z/\St.status s=St.status z/\St.clause s=St.clause z/\(qBIb s z)/\True))/\((Zqe x x_1)=false->(qBI7 s)/\(qBI5 s)*qBIq<=qBIh/\wr IntKind.i64 (qBIo s)=St.pc z/\wr IntKind.i64 (qBIi s)=St.fuel z/\St.status s=St.status z/\St.clause s=St.clause z/\(qBIm+(qBI5 s)<=List.length (List.take (qBIc s) (qBIl s)++ [Prod.fst (divF x x_1 Zc0)])/\List.take (qBI5 s) (List.take (qBIc s) (qBIl s)++ [Prod.fst (divF x x_1 Zc0)])=St.stack z)/\True))/\((Ins.op x==(↑(10:Nat):Int))=false->((Ins.op x==(↑(11:Nat):Int))=true->qBIk<=wr IntKind.i64 (qBIa s)/\wr IntKind.i64 (qBIa s)+qBId<=(qBI1 s)/\∀(x:Int),(qBIl s)[Int.toNat (qBIr s)]? =some x->qBIk<=wr IntKind.i64 (qBI6 s)/\wr IntKind.i64 (qBI6 s)+qBId<=(qBI1 s)/\∀(x_1:Int),(qBIl s)[Int.toNat (qBIp s)]? =some x_1->(decide (x<x_1)=true->(qBI7 s)/\(qBI5 s)*qBIq<=qBIh/\wr IntKind.i64 (qBIo s)=St.pc z/\wr IntKind.i64 (qBIi s)=St.fuel z/\St.status s=St.status z/\St.clause s=St.clause z/\(qBIm+(qBI5 s)<=List.length (List.take (qBIc s) (qBIl s)++ [qBId])/\List.take (qBI5 s) (List.take (qBIc s) (qBIl s)++ [qBId])=St.stack z)/\True)/\(decide (x<x_1)=false->(qBI7 s)/\(qBI5 s)*qBIq<=qBIh/\wr IntKind.i64 (qBIo s)=St.pc z/\wr IntKind.i64 (qBIi s)=St.fuel z/\St.status s=St.status z/\St.clause s=St.clause z/\(qBIm+(qBI5 s)<=List.length (List.take (qBIc s) (qBIl s)++ [qBIk])/\List.take (qBI5 s) (List.take (qBIc s) (qBIl s)++ [qBIk])=St.stack z)/\True))/\((Ins.op x==(↑(11:Nat):Int))=false->qBIk<=wr IntKind.i64 (qBIa s)/\wr IntKind.i64 (qBIa s)+qBId<=(qBI1 s)/\∀(x:Int),(qBIl s)[Int.toNat (qBIr s)]? =some x->qBIk<=wr IntKind.i64 (qBI6 s)/\wr IntKind.i64 (qBI6 s)+qBId<=(qBI1 s)/\∀(x:Int),(qBIl s)[Int.toNat (qBIp s)]? =some x->False))))))))))))))))))):=by kernel_rfl
end
section
open Go
structure CanAdv (c:List Ins) (s:St) (below:Int):Prop where
 short:c.length<=4096
 pc0:0<=s.pc
 pc1:s.pc<c.length
 formed:∀x,c[s.pc.toNat]? =some x->formedF x=true
 fuel0:0<=s.fuel
 fuel1:s.fuel<=1000000
 below0:0<=below
 below1:below<=64
 stack:s.stack.length<=64
def advR (s1:St) (r:St×Int):St:=if r.2=0 then r.1 else {s1 with status:=10+r.2}
theorem Y7 (s1 a:St):advR s1 (a,0)=a:=by simp [advR]
theorem Xg (s1 a:St) {e:Int} (h:¬e=0):advR s1 (a,e)={s1 with status:=10+e}:=by simp [advR,h]
theorem Zz6 {c:List Ins} {v:Env} {s:St} {below:Int} {x:Ins} (hx:c[s.pc.toNat]? =some x) (h:¬s.fuel=0):advF c v s below=advR {s with fuel:=s.fuel-1} (Zb x v {s with fuel:=s.fuel-1} below):=by
 unfold advF
 rw [if_neg h,hx]
 rfl
theorem Zt4 {x:Ins} (hf:formedF x=true):1<=x.op/\x.op<=16:=by
 unfold formedF at hf
 repeat' split at hf
 all_goals simp only [decide_eq_true_eq] at hf
 all_goals omega
theorem Yd {l:List Int} {i:Nat} {y:Int} (h:l[i]? =some y) {j:Nat} (hj:i=l.length-1-j):topF l j=y:=by
 unfold topF
 rw [<-hj,List.getD_eq_getElem?_getD,h];rfl
theorem Zjt (c:List Ins) (v:Env) (s:St) (below:Int) (h:CanAdv c s below):PureC E 18 [.psl .ins c false,envV v,stV s,.int false .i64 below] (stV (advF c v s below)):=by
 obtain ⟨hc,h0,h1,hf,f0,f1,b0,b1,hs⟩:=h
 refine Zc E_ok (Zn E_ok Zz9 400) ?_
 rw [Zhp]; delta qBIk qBIb qBId qBI1 qBIi qBIs qBI4 qBI2 qBIq qBIh qBIo qBIm qBI8 qBIl qBIw qBIf qBIg qBI3 qBI9 Zx1 Zx0 Zxz Zxy Zxx Zxw qBIz qBIx qBIv qBIu qBIt qBI6 qBIp qBIj qBIe qBIn qBIy qBIa qBIr Zc0 qBI7 qBI5 qBIc Zqc Zqd Zqe
 obtain ⟨x,hx⟩:∃x,c[s.pc.toNat]? =some x:=⟨c[s.pc.toNat]'(by omega),by simp⟩
 have hfx:=hf x hx
 have hop:=Zt4 hfx
 have hn9:∀k:Nat,((k:Nat):Int)=k:=fun _=>rfl
 have ef:wr .i64 (s.fuel-1)=s.fuel-1:=wr64 (by omega) (by omega)
 have ep:wr .i64 (s.pc+1)=s.pc+1:=wr64 (by omega) (by omega)
 have eb:wr .i64 (below+(s.stack.length:Int))=below+s.stack.length:=wr64 (by omega) (by omega)
 have e0:wr .i64 ((s.stack.length:Int)-0)=s.stack.length:=by rw [wr64 (by omega) (by omega)];omega
 have e1:wr .i64 ((s.stack.length:Int)-1)=s.stack.length-1:=wr64 (by omega) (by omega)
 have e10:wr .i64 ((s.stack.length:Int)-1-0)=s.stack.length-1:=by rw [wr64 (by omega) (by omega)];omega
 have e11:wr .i64 ((s.stack.length:Int)-1-1)=s.stack.length-2:=by rw [wr64 (by omega) (by omega)];omega
 have e2:wr .i64 ((s.stack.length:Int)-2)=s.stack.length-2:=wr64 (by omega) (by omega)
 simp only [hx,Option.some.injEq,forall_eq',ef,ep,eb,e0,e1,e10,e11,e2,Int.toNat_natCast,List.take_length,Z4,Zt,Xx,Xy,Xz,beq_iff_eq,bne_iff_ne,beq_eq_false_iff_ne,bne_eq_false_iff_eq,decide_eq_true_eq,decide_eq_false_iff_not,Bool.or_eq_true,Bool.or_eq_false_iff,Bool.not_eq_true',Bool.not_eq_false',Bool.and_eq_true,Bool.and_true,Bool.true_and,Bool.and_eq_false_iff,beq_self_eq_true,Z0,Yc,ne_eq,and_true,true_and,Bool.true_eq_false,Bool.false_eq_true,false_or,or_false,true_implies,Int.ofNat_eq_natCast,not_true_eq_false,not_false_eq_true,Decidable.not_not,ge_iff_le,gt_iff_lt]
 refine ⟨fun h=>by unfold advF;rw [if_pos h];simp,fun h=>⟨by omega,by omega,fun hn=> ?_,fun hn=> ?_⟩⟩
 all_goals rw [Zz6 hx h]
 · have hE:Zb x v {s with fuel:=s.fuel-1} below=({s with fuel:=s.fuel-1},200):=by unfold Zb;rw [if_pos hn]
   rw [hE];simp [advR]
 clear hx hf ef ep eb e0 e1 e10 e11 e2
 obtain ⟨s1,hs1⟩:∃s1:St,s1={s with fuel:=s.fuel-1}:=⟨_,rfl⟩
 have q1:s1.pc=s.pc:=by rw [hs1]
 have q2:s1.fuel=s.fuel-1:=by rw [hs1]
 have q3:s1.status=s.status:=by rw [hs1]
 have q4:s1.clause=s.clause:=by rw [hs1]
 have q5:s1.stack=s.stack:=by rw [hs1]
 rw [<-hs1]
 have hn:¬((s1.stack.length:Int)<Wo x.op):=by rw [q5];exact hn
 clear hs1
 obtain ⟨op,n,m⟩:=x
 dsimp only at*
 have e1n:Int.toNat ((s.stack.length:Int)-1)=s.stack.length-1:=by omega
 have e2n:Int.toNat ((s.stack.length:Int)-2)=s.stack.length-2:=by omega
 refine ⟨fun ho=> ?_,fun o1=>⟨fun ho=> ?_,fun o2=>⟨fun ho=> ?_,fun o12=>⟨fun ho=> ?_,fun o13=>⟨fun ho=> ?_,fun o14=>⟨fun ho=> ?_,fun o15=>⟨fun ho=> ?_,fun o16=> ?_⟩⟩⟩⟩⟩⟩⟩
 · subst ho
   refine ⟨fun h64=> ?_,fun h64=> ?_⟩
   · have hE:Zb ⟨1,n,m⟩ v s1 below=(s1,200):=by unfold Zb;rw [if_neg hn];simp [q5,h64]
     rw [hE,Xg _ _ (by omega)];simp [q1,q2,q3,q4,q5]
   · have hE:Zb ⟨1,n,m⟩ v s1 below=(s1.pops 0 [n],0):=by unfold Zb;rw [if_neg hn];simp [q5,h64]
     rw [hE,Y7]
     refine ⟨⟨by omega,by omega⟩,by omega,by simp [St.pops,q1],by simp [St.pops,q2],by simp [St.pops,q3],by simp [St.pops,q4],?_⟩
     simp [St.pops,q5]
     all_goals first|omega|exact List.take_of_length_le (by simp only [List.length_append,List.length_take,List.length_cons,List.length_nil];omega)
 · subst ho
   refine ⟨fun h64=> ?_,fun h64=> ?_⟩
   · have hE:Zb ⟨2,n,m⟩ v s1 below=(s1,200):=by unfold Zb;rw [if_neg hn];simp [q5,h64]
     rw [hE,Xg _ _ (by omega)];simp [q1,q2,q3,q4,q5]
   have hn15:0<=n/\n<=15:=by simp [formedF] at hfx;omega
   have hbit:Yb BinOp.and IntKind.i64 v.has (wr IntKind.i64 (1*2^min n.toNat IntKind.i64.bits))=0↔(v.has/2^n.toNat)%2=0:=by
    have e:∀k:Nat,k<=15->wr IntKind.i64 (1*2^min k IntKind.i64.bits)=((2^k:Nat):Int):=by decide
    rw [e _ (by omega)]
    have e2:=Ztd v.has n.toNat (by omega)
    have e3:(Yb BinOp.and IntKind.i64 v.has ((2^n.toNat:Nat):Int)==0)=decide ((v.has/((2^n.toNat:Nat):Int))%2=0):=e2
    rw [<-beq_iff_eq (a:=Yb BinOp.and IntKind.i64 v.has ((2^n.toNat:Nat):Int)),e3,decide_eq_true_eq]
    simp
   refine ⟨by omega,fun hb=> ?_,fun hb=>⟨by omega,by omega,?_⟩⟩
   · have hE:Zb ⟨2,n,m⟩ v s1 below=(s1,181):=by unfold Zb;rw [if_neg hn];simp [q5,h64,hbit.1 hb]
     rw [hE,Xg _ _ (by omega)];simp [q1,q2,q3,q4,q5]
   have hb':¬(v.has/2^n.toNat)%2=0:=fun h=>hb (hbit.2 h)
   have key:∀w:Int,v.v.getD n.toNat 0=w->∃Q:Bool->Prop,((w< -9007199254740992->Q true)/\(¬w< -9007199254740992->(9007199254740992<w->Q true)/\(¬9007199254740992<w->Q false)))/\
    (Q true->s.pc=(advR s1 (Zb ⟨2,n,m⟩ v s1 below)).pc/\s.fuel-1=(advR s1 (Zb ⟨2,n,m⟩ v s1 below)).fuel/\13=(advR s1 (Zb ⟨2,n,m⟩ v s1 below)).status/\s.clause=(advR s1 (Zb ⟨2,n,m⟩ v s1 below)).clause/\s.stack=(advR s1 (Zb ⟨2,n,m⟩ v s1 below)).stack/\(False->False))/\
    (Q false->(0<=(s.stack.length:Int)/\(s.stack.length:Int)<=s.stack.length)/\(s.stack.length+1)*8<=140737488355328/\s.pc+1=(advR s1 (Zb ⟨2,n,m⟩ v s1 below)).pc/\s.fuel-1=(advR s1 (Zb ⟨2,n,m⟩ v s1 below)).fuel/\s.status=(advR s1 (Zb ⟨2,n,m⟩ v s1 below)).status/\s.clause=(advR s1 (Zb ⟨2,n,m⟩ v s1 below)).clause/\
     0+(s.stack.length+1)<=(s.stack++ [w]).length/\List.take (s.stack.length+1) (s.stack++ [w])=(advR s1 (Zb ⟨2,n,m⟩ v s1 below)).stack):=by
    intro w hw
    refine ⟨fun b=>(b=true↔(w< -9007199254740992\/9007199254740992<w)),⟨fun h=>by simp [h],fun h=>⟨fun h'=>by simp [h'],fun h'=>by simp;omega⟩⟩,fun hQ=> ?_,fun hQ=> ?_⟩
    · have hQ:=hQ.1 rfl
      have hE:Zb ⟨2,n,m⟩ v s1 below=(s1,3):=by unfold Zb;rw [if_neg hn];dsimp only;rw [if_neg (by omega),if_pos rfl,if_neg (by rw [q5];exact h64),if_neg hb',hw,if_pos hQ]
      rw [hE,Xg _ _ (by omega)];simp [q1,q2,q3,q4,q5]
    · have hQ:¬(w< -9007199254740992\/9007199254740992<w):=fun h=>absurd (hQ.2 h) (by simp)
      have hE:Zb ⟨2,n,m⟩ v s1 below=(s1.pops 0 [w],0):=by unfold Zb;rw [if_neg hn];dsimp only;rw [if_neg (by omega),if_pos rfl,if_neg (by rw [q5];exact h64),if_neg hb',hw,if_neg hQ]
      rw [hE,Y7]
      refine ⟨⟨by omega,by omega⟩,by omega,by simp [St.pops,q1],by simp [St.pops,q2],by simp [St.pops,q3],by simp [St.pops,q4],by simp,?_⟩
      simp [St.pops,q5]
      all_goals first|omega|exact List.take_of_length_le (by simp only [List.length_append,List.length_take,List.length_cons,List.length_nil];omega)
   exact ⟨fun hk=>key _ (by rw [show n=0 by omega];rfl),fun _=>⟨fun hk=>key _ (by rw [show n=1 by omega];rfl),fun _=>⟨fun hk=>key _ (by rw [show n=2 by omega];rfl),fun _=>⟨fun hk=>key _ (by rw [show n=3 by omega];rfl),fun _=>⟨fun hk=>key _ (by rw [show n=4 by omega];rfl),fun _=>⟨fun hk=>key _ (by rw [show n=5 by omega];rfl),fun _=>⟨fun hk=>key _ (by rw [show n=6 by omega];rfl),fun _=>⟨fun hk=>key _ (by rw [show n=7 by omega];rfl),fun _=>⟨fun hk=>key _ (by rw [show n=8 by omega];rfl),fun _=>⟨fun hk=>key _ (by rw [show n=9 by omega];rfl),fun _=>⟨fun hk=>key _ (by rw [show n=10 by omega];rfl),fun _=>⟨fun hk=>key _ (by rw [show n=11 by omega];rfl),fun _=>⟨fun hk=>key _ (by rw [show n=12 by omega];rfl),fun _=>⟨fun hk=>key _ (by rw [show n=13 by omega];rfl),fun _=>⟨fun hk=>key _ (by rw [show n=14 by omega];rfl),fun _=>⟨fun hk=>key _ (by rw [show n=15 by omega];rfl),fun _=>trivial⟩⟩⟩⟩⟩⟩⟩⟩⟩⟩⟩⟩⟩⟩⟩⟩
 · subst ho
   have hl:1<=(s.stack.length:Int):=by rw [q5] at hn;simp [Wo] at hn;omega
   refine ⟨by omega,by omega,fun a ha=> ?_⟩
   have t0:topF s1.stack 0=a:=Yd (by rw [q5];exact ha) (by rw [q5];omega)
   have hE:Zb ⟨12,n,m⟩ v s1 below=(s1.pops 1 [if n<=a/\a<=m then 1 else 0],0):=by unfold Zb;rw [if_neg hn];simp [t0]
   rw [hE,Y7]
   refine ⟨fun hna=>⟨by omega,by omega,fun b hb=> ?_⟩,fun hna=> ?_⟩
   · rw [ha] at hb;cases hb
     refine ⟨fun hm=> ?_,fun hm=> ?_⟩
     all_goals
      refine ⟨⟨by omega,by omega⟩,by simp only [List.length_take];omega,by simp [St.pops,q1],by simp [St.pops,q2],by simp [St.pops,q3],by simp [St.pops,q4],?_⟩
      rw [e1n]
      simp [St.pops,q5,hna,hm]
      all_goals first|omega|exact List.take_of_length_le (by simp only [List.length_append,List.length_take,List.length_cons,List.length_nil];omega)
   · refine ⟨⟨by omega,by omega⟩,by simp only [List.length_take];omega,by simp [St.pops,q1],by simp [St.pops,q2],by simp [St.pops,q3],by simp [St.pops,q4],?_⟩
     rw [e1n]
     simp [St.pops,q5,hna]
     all_goals first|omega|exact List.take_of_length_le (by simp only [List.length_append,List.length_take,List.length_cons,List.length_nil];omega)
 · subst ho
   have hl:1<=(s.stack.length:Int):=by rw [q5] at hn;simp [Wo] at hn;omega
   refine ⟨by omega,by omega,fun a ha=>⟨⟨by omega,by omega⟩,?_⟩⟩
   have t0:topF s1.stack 0=a:=Yd (by rw [q5];exact ha) (by rw [q5];omega)
   have hE:Zb ⟨13,n,m⟩ v s1 below=({s1.pops 1 [] with pc:=if a=0 then n else s1.pc+1},0):=by unfold Zb;rw [if_neg hn];simp [t0]
   rw [hE,Y7,e1n]
   refine ⟨fun hz=> ?_,fun hz=> ?_⟩
   all_goals simp [St.pops,q1,q2,q3,q4,q5,hz]
 · subst ho
   have hE:Zb ⟨14,n,m⟩ v s1 below=({s1 with pc:=n},0):=by unfold Zb;rw [if_neg hn];simp
   rw [hE,Y7]
   simp [q1,q2,q3,q4,q5]
 · subst ho
   have hE:Zb ⟨15,n,m⟩ v s1 below=({s1 with status:=1,clause:=n},0):=by unfold Zb;rw [if_neg hn];simp
   rw [hE,Y7]
   simp [q1,q2,q3,q4,q5]
 · subst ho
   have hE:Zb ⟨16,n,m⟩ v s1 below=(s1,180):=by unfold Zb;rw [if_neg hn];simp
   rw [hE,Xg _ _ (by omega)]
   simp [q1,q2,q3,q4,q5]
 have hl:2<=(s.stack.length:Int):=by
  rw [q5] at hn
  have e:Wo op=2:=by unfold Wo;rw [if_neg (by omega),if_pos (by omega)]
  rw [e] at hn;omega
 refine ⟨fun ho=> ?_,fun o3=>⟨fun ho=> ?_,fun o4=>⟨fun ho=> ?_,fun o5=>⟨fun ho=> ?_,fun o6=>⟨fun ho=> ?_,fun o7=>⟨fun ho=> ?_,fun o8=>⟨fun ho=> ?_,fun o9=>⟨fun ho=> ?_,fun o10=>⟨fun ho=> ?_,fun o11=>by omega⟩⟩⟩⟩⟩⟩⟩⟩⟩
 · obtain rfl:op=3:=by omega
   clear ho
   refine ⟨by omega,by omega,fun a ha=>⟨by omega,by omega,fun b hb=> ?_⟩⟩
   have t1:topF s1.stack 1=a:=Yd (by rw [q5];exact ha) (by rw [q5];omega)
   have t0:topF s1.stack 0=b:=Yd (by rw [q5];exact hb) (by rw [q5];omega)
   have hE:Zb ⟨3,n,m⟩ v s1 below=if (addF a b).2≠0 then (s1,(addF a b).2) else (s1.pops 2 [(addF a b).1],0):=by
    unfold Zb;rw [if_neg hn];simp [t0,t1,binF]
   have hw:wr .i64 (10+(addF a b).2)=10+(addF a b).2:=by
    have:=Zna a b
    rw [wr64 (by omega) (by omega)]
   refine ⟨fun he=>⟨fun _=> ?_,fun h'=>absurd h' he⟩,fun he=> ?_⟩
   · rw [hE,if_pos he,Xg _ _ he,hw];simp [q1,q2,q3,q4,q5]
   · rw [hE,if_neg (by simp [he]),Y7]
     refine ⟨⟨by omega,by omega⟩,by simp only [List.length_take];omega,by simp [St.pops,q1],by simp [St.pops,q2],by simp [St.pops,q3],by simp [St.pops,q4],?_⟩
     rw [e2n]
     simp [St.pops,q5]
     all_goals first|omega|exact List.take_of_length_le (by simp only [List.length_append,List.length_take,List.length_cons,List.length_nil];omega)
 · obtain rfl:op=4:=by omega
   clear ho
   refine ⟨by omega,by omega,fun a ha=>⟨by omega,by omega,fun b hb=> ?_⟩⟩
   have t1:topF s1.stack 1=a:=Yd (by rw [q5];exact ha) (by rw [q5];omega)
   have t0:topF s1.stack 0=b:=Yd (by rw [q5];exact hb) (by rw [q5];omega)
   have hE:Zb ⟨4,n,m⟩ v s1 below=if (subF a b).2≠0 then (s1,(subF a b).2) else (s1.pops 2 [(subF a b).1],0):=by
    unfold Zb;rw [if_neg hn];simp [t0,t1,binF]
   have hw:wr .i64 (10+(subF a b).2)=10+(subF a b).2:=by
    have:=Znb a b
    rw [wr64 (by omega) (by omega)]
   refine ⟨fun he=>⟨fun _=> ?_,fun h'=>absurd h' he⟩,fun he=> ?_⟩
   · rw [hE,if_pos he,Xg _ _ he,hw];simp [q1,q2,q3,q4,q5]
   · rw [hE,if_neg (by simp [he]),Y7]
     refine ⟨⟨by omega,by omega⟩,by simp only [List.length_take];omega,by simp [St.pops,q1],by simp [St.pops,q2],by simp [St.pops,q3],by simp [St.pops,q4],?_⟩
     rw [e2n]
     simp [St.pops,q5]
     all_goals first|omega|exact List.take_of_length_le (by simp only [List.length_append,List.length_take,List.length_cons,List.length_nil];omega)
 · obtain rfl:op=5:=by omega
   clear ho
   refine ⟨by omega,by omega,fun a ha=>⟨by omega,by omega,fun b hb=> ?_⟩⟩
   have t1:topF s1.stack 1=a:=Yd (by rw [q5];exact ha) (by rw [q5];omega)
   have t0:topF s1.stack 0=b:=Yd (by rw [q5];exact hb) (by rw [q5];omega)
   have hE:Zb ⟨5,n,m⟩ v s1 below=if (mulF a b).2≠0 then (s1,(mulF a b).2) else (s1.pops 2 [(mulF a b).1],0):=by
    unfold Zb;rw [if_neg hn];simp [t0,t1,binF]
   have hw:wr .i64 (10+(mulF a b).2)=10+(mulF a b).2:=by
    have:=Znc a b
    rw [wr64 (by omega) (by omega)]
   refine ⟨fun he=>⟨fun _=> ?_,fun h'=>absurd h' he⟩,fun he=> ?_⟩
   · rw [hE,if_pos he,Xg _ _ he,hw];simp [q1,q2,q3,q4,q5]
   · rw [hE,if_neg (by simp [he]),Y7]
     refine ⟨⟨by omega,by omega⟩,by simp only [List.length_take];omega,by simp [St.pops,q1],by simp [St.pops,q2],by simp [St.pops,q3],by simp [St.pops,q4],?_⟩
     rw [e2n]
     simp [St.pops,q5]
     all_goals first|omega|exact List.take_of_length_le (by simp only [List.length_append,List.length_take,List.length_cons,List.length_nil];omega)
 · obtain rfl:op=6:=by omega
   clear ho
   refine ⟨by omega,by omega,fun a ha=>⟨by omega,by omega,fun b hb=> ?_⟩⟩
   have t1:topF s1.stack 1=a:=Yd (by rw [q5];exact ha) (by rw [q5];omega)
   have t0:topF s1.stack 0=b:=Yd (by rw [q5];exact hb) (by rw [q5];omega)
   have hE:Zb ⟨6,n,m⟩ v s1 below=(s1.pops 2 [min a b],0):=by
    unfold Zb;rw [if_neg hn];simp [t0,t1,binF]
   rw [hE,Y7]
   refine ⟨⟨by omega,by omega⟩,by simp only [List.length_take];omega,by simp [St.pops,q1],by simp [St.pops,q2],by simp [St.pops,q3],by simp [St.pops,q4],?_⟩
   rw [e2n]
   simp [St.pops,q5]
   all_goals first|omega|exact List.take_of_length_le (by simp only [List.length_append,List.length_take,List.length_cons,List.length_nil];omega)
 · obtain rfl:op=7:=by omega
   clear ho
   refine ⟨by omega,by omega,fun a ha=>⟨by omega,by omega,fun b hb=> ?_⟩⟩
   have t1:topF s1.stack 1=a:=Yd (by rw [q5];exact ha) (by rw [q5];omega)
   have t0:topF s1.stack 0=b:=Yd (by rw [q5];exact hb) (by rw [q5];omega)
   have hE:Zb ⟨7,n,m⟩ v s1 below=(s1.pops 2 [max a b],0):=by
    unfold Zb;rw [if_neg hn];simp [t0,t1,binF]
   rw [hE,Y7]
   refine ⟨⟨by omega,by omega⟩,by simp only [List.length_take];omega,by simp [St.pops,q1],by simp [St.pops,q2],by simp [St.pops,q3],by simp [St.pops,q4],?_⟩
   rw [e2n]
   simp [St.pops,q5]
   all_goals first|omega|exact List.take_of_length_le (by simp only [List.length_append,List.length_take,List.length_cons,List.length_nil];omega)
 · obtain rfl:op=8:=by omega
   clear ho
   refine ⟨by omega,by omega,fun a ha=>⟨by omega,by omega,fun b hb=> ?_⟩⟩
   have t1:topF s1.stack 1=a:=Yd (by rw [q5];exact ha) (by rw [q5];omega)
   have t0:topF s1.stack 0=b:=Yd (by rw [q5];exact hb) (by rw [q5];omega)
   have hE:Zb ⟨8,n,m⟩ v s1 below=if (divF a b 8).2≠0 then (s1,(divF a b 8).2) else (s1.pops 2 [(divF a b 8).1],0):=by
    unfold Zb;rw [if_neg hn];simp [t0,t1,binF]
   have hw:wr .i64 (10+(divF a b 8).2)=10+(divF a b 8).2:=by
    have:=Uj a b 8
    rw [wr64 (by omega) (by omega)]
   refine ⟨fun he=>⟨fun _=> ?_,fun h'=>absurd h' he⟩,fun he=> ?_⟩
   · rw [hE,if_pos he,Xg _ _ he,hw];simp [q1,q2,q3,q4,q5]
   · rw [hE,if_neg (by simp [he]),Y7]
     refine ⟨⟨by omega,by omega⟩,by simp only [List.length_take];omega,by simp [St.pops,q1],by simp [St.pops,q2],by simp [St.pops,q3],by simp [St.pops,q4],?_⟩
     rw [e2n]
     simp [St.pops,q5]
     all_goals first|omega|exact List.take_of_length_le (by simp only [List.length_append,List.length_take,List.length_cons,List.length_nil];omega)
 · obtain rfl:op=9:=by omega
   clear ho
   refine ⟨by omega,by omega,fun a ha=>⟨by omega,by omega,fun b hb=> ?_⟩⟩
   have t1:topF s1.stack 1=a:=Yd (by rw [q5];exact ha) (by rw [q5];omega)
   have t0:topF s1.stack 0=b:=Yd (by rw [q5];exact hb) (by rw [q5];omega)
   have hE:Zb ⟨9,n,m⟩ v s1 below=if (divF a b 9).2≠0 then (s1,(divF a b 9).2) else (s1.pops 2 [(divF a b 9).1],0):=by
    unfold Zb;rw [if_neg hn];simp [t0,t1,binF]
   have hw:wr .i64 (10+(divF a b 9).2)=10+(divF a b 9).2:=by
    have:=Uj a b 9
    rw [wr64 (by omega) (by omega)]
   refine ⟨fun he=>⟨fun _=> ?_,fun h'=>absurd h' he⟩,fun he=> ?_⟩
   · rw [hE,if_pos he,Xg _ _ he,hw];simp [q1,q2,q3,q4,q5]
   · rw [hE,if_neg (by simp [he]),Y7]
     refine ⟨⟨by omega,by omega⟩,by simp only [List.length_take];omega,by simp [St.pops,q1],by simp [St.pops,q2],by simp [St.pops,q3],by simp [St.pops,q4],?_⟩
     rw [e2n]
     simp [St.pops,q5]
     all_goals first|omega|exact List.take_of_length_le (by simp only [List.length_append,List.length_take,List.length_cons,List.length_nil];omega)
 · obtain rfl:op=10:=by omega
   clear ho
   refine ⟨by omega,by omega,fun a ha=>⟨by omega,by omega,fun b hb=> ?_⟩⟩
   have t1:topF s1.stack 1=a:=Yd (by rw [q5];exact ha) (by rw [q5];omega)
   have t0:topF s1.stack 0=b:=Yd (by rw [q5];exact hb) (by rw [q5];omega)
   have hE:Zb ⟨10,n,m⟩ v s1 below=if (divF a b 10).2≠0 then (s1,(divF a b 10).2) else (s1.pops 2 [(divF a b 10).1],0):=by
    unfold Zb;rw [if_neg hn];simp [t0,t1,binF]
   have hw:wr .i64 (10+(divF a b 10).2)=10+(divF a b 10).2:=by
    have:=Uj a b 10
    rw [wr64 (by omega) (by omega)]
   refine ⟨fun he=>⟨fun _=> ?_,fun h'=>absurd h' he⟩,fun he=> ?_⟩
   · rw [hE,if_pos he,Xg _ _ he,hw];simp [q1,q2,q3,q4,q5]
   · rw [hE,if_neg (by simp [he]),Y7]
     refine ⟨⟨by omega,by omega⟩,by simp only [List.length_take];omega,by simp [St.pops,q1],by simp [St.pops,q2],by simp [St.pops,q3],by simp [St.pops,q4],?_⟩
     rw [e2n]
     simp [St.pops,q5]
     all_goals first|omega|exact List.take_of_length_le (by simp only [List.length_append,List.length_take,List.length_cons,List.length_nil];omega)
 · obtain rfl:op=11:=by omega
   clear ho
   refine ⟨by omega,by omega,fun a ha=>⟨by omega,by omega,fun b hb=>⟨fun hab=> ?_,fun hab=> ?_⟩⟩⟩
   all_goals
    have t1:topF s1.stack 1=a:=Yd (by rw [q5];exact ha) (by rw [q5];omega)
    have t0:topF s1.stack 0=b:=Yd (by rw [q5];exact hb) (by rw [q5];omega)
    have hE:Zb ⟨11,n,m⟩ v s1 below=(s1.pops 2 [if a<b then 1 else 0],0):=by
     unfold Zb;rw [if_neg hn];simp [t0,t1,binF]
    rw [hE,Y7]
    refine ⟨⟨by omega,by omega⟩,by simp only [List.length_take];omega,by simp [St.pops,q1],by simp [St.pops,q2],by simp [St.pops,q3],by simp [St.pops,q4],?_⟩
    rw [e2n]
    simp [St.pops,q5,hab]
    all_goals first|omega|exact List.take_of_length_le (by simp only [List.length_append,List.length_take,List.length_cons,List.length_nil];omega)
end
section
open Go
def Sadv:Sum thy:=sumP (dL4 Zug dEnv dSt dI) (fun x=>CanAdv x.1 x.2.2.1 x.2.2.2.1) fun x=>stV (advF x.1 x.2.1 x.2.2.1 x.2.2.2.1)
structure SX where
 s:St
 r:Nat
def A11:Fr thy->Hp thy->Nat->Ann thy:=fun T h i=>{X:=SX,fr:=fun x=> [(0,T 0),(4,T 4),(6,T 6),(10,T 10)],bl:=fun x=> [(bOf (T 10),.raw (stV x.s).cells 0 none)]++blkP h (T 4)++blkP h (T 6),src:=fun _=> [],md:= [bOf (T 10)],ih:=i,M:=i+30,meas:=fun x=>x.r}
def A26:Fr thy->Hp thy->Nat->Ann thy:=fun T h i=>{X:=LX,fr:=fun x=> [(0,T 0),(1,T 1),(5,.int false .i64 x.k)],bl:=fun x=> [],src:=fun _=> [],md:= [],ih:=i,M:=i+30,meas:=fun x=>x.r}
def F6:Fns thy:=addL (addL (addS F5 18 Sadv) 7 7 A11 E) 21 4 A26 E
theorem Zz1:FnsOk E F6:=Yn E_ok (Yn E_ok (Zh Zz9 (Zs E_ok (Zk (f:=18) rfl) fun x h=>Zjt x.1 x.2.1 x.2.2.1 x.2.2.2.1 h)) _ _ _) _ _ _
abbrev qBK1 (a0:Env):=(Env.has a0=Env.has a0/\Env.v0 a0=Env.v0 a0/\Env.v1 a0=Env.v1 a0/\Env.v2 a0=Env.v2 a0/\Env.v3 a0=Env.v3 a0/\Env.v4 a0=Env.v4 a0/\Env.v5 a0=Env.v5 a0/\Env.v6 a0=Env.v6 a0/\Env.v7 a0=Env.v7 a0/\Env.v8 a0=Env.v8 a0/\Env.v9 a0=Env.v9 a0/\Env.v10 a0=Env.v10 a0/\Env.v11 a0=Env.v11 a0/\Env.v12 a0=Env.v12 a0/\Env.v13 a0=Env.v13 a0/\Env.v14 a0=Env.v14 a0/\Env.v15 a0=Env.v15 a0/\True)
abbrev qBK2:=(0:Int)
abbrev qBK7:=(0:Nat)
abbrev qBK3:=(qBK2=qBK2/\qBK2=qBK2/\qBK2=qBK2/\qBK2=qBK2/\Value.slice none qBK7 qBK7=Value.slice none qBK7 qBK7/\True)
abbrev qBK6:=(false=true->false=true)
abbrev qBK4 (a0:List Ins):=((a0=a0/\qBK6)/\qBK7=qBK7/\qBK7=qBK7/\qBK7=qBK7/\True)
abbrev qBK5 (a0:St):=(qBK2=St.pc a0/\qBK2=St.fuel a0/\qBK2=St.status a0/\qBK2=St.clause a0/\St.stack a0= []/\True)
theorem Zwt (c:List Ins) (v:Env) (f:Int) (z:St) (e:Int):Zw E F6 (vc E F6 400) 7 [.psl .ins c false,envV v,.int false .i64 f] hp0 0 (fun r=>ret E (patch hp0 0 r) r.v (.tup [stV z,.int false .i64 e]))=(
 True/\((Prod.snd (verF c) !=qBK2)=true->(qBK5 z)/\Prod.snd (verF c)=e/\True)/\((Prod.snd (verF c) !=qBK2)=false->∃(Q:Bool->Prop),((decide (f<qBK2)=true->Q true)/\(decide (f<qBK2)=false->(decide (f>(32768:Int))=true->Q true)/\(decide (f>(32768:Int))=false->Q false)))/\(Q true->(qBK5 z)/\(1:Int)=e/\True)/\(Q false->∃(R:SX->Prop),(∃(x:SX),R x/\true=true/\(qBK4 c)/\(qBK2=St.pc (SX.s x)/\f=St.fuel (SX.s x)/\qBK2=St.status (SX.s x)/\qBK2=St.clause (SX.s x)/\St.stack (SX.s x)= []/\True)/\(qBK1 v)/\qBK3/\True)/\∀(x:SX),R x->((St.status (SX.s x)==qBK2)=true->CanAdv c (SX.s x) qBK2/\∃(x':SX),R x'/\x'.2+(1:Nat)<=x.2/\true=true/\(qBK4 c)/\(St.pc (advF c v (SX.s x) qBK2)=St.pc (SX.s x')/\St.fuel (advF c v (SX.s x) qBK2)=St.fuel (SX.s x')/\St.status (advF c v (SX.s x) qBK2)=St.status (SX.s x')/\St.clause (advF c v (SX.s x) qBK2)=St.clause (SX.s x')/\(St.stack (advF c v (SX.s x) qBK2)=St.stack (SX.s x')/\qBK6)/\True)/\(qBK1 v)/\qBK3/\True)/\((St.status (SX.s x)==qBK2)=false->(St.pc (SX.s x)=St.pc z/\St.fuel (SX.s x)=St.fuel z/\St.status (SX.s x)=St.status z/\St.clause (SX.s x)=St.clause z/\(St.stack (SX.s x)=St.stack z/\qBK6)/\True)/\qBK2=e/\True)))):=by kernel_rfl
theorem Zp3 (f:Int) (z:St) (e:Int):Zw E F6 (vc E F6 400) 12 [.int false .i64 f] hp0 0 (fun r=>ret E (patch hp0 0 r) r.v (.tup [stV z,.int false .i64 e]))=(
∃(Q:Bool->Prop),((decide (f<(0:Int))=true->Q true)/\(decide (f<(0:Int))=false->(decide (f>(32768:Int))=true->Q true)/\(decide (f>(32768:Int))=false->Q false)))/\(Q true->((0:Int)=St.pc z/\(0:Int)=St.fuel z/\(0:Int)=St.status z/\(0:Int)=St.clause z/\St.stack z= []/\True)/\(1:Int)=e/\True)/\(Q false->((0:Int)=St.pc z/\f=St.fuel z/\(0:Int)=St.status z/\(0:Int)=St.clause z/\St.stack z= []/\True)/\(0:Int)=e/\True)):=by kernel_rfl
theorem Zl2 (s:St) (a b e:Int):Zw E F6 (vc E F6 400) 8 [stV s] hp0 0 (fun r=>ret E (patch hp0 0 r) r.v (.tup [.int false .i64 a,.int false .i64 b,.int false .i64 e]))=(
((St.status s==(1:Int))=true->(decide ((↑(List.length (St.stack s)):Int)>(0:Int))=true->(0:Int)<=wr IntKind.i64 ((↑(List.length (St.stack s)):Int)-(1:Int))/\wr IntKind.i64 ((↑(List.length (St.stack s)):Int)-(1:Int))+(1:Int)<=(↑(List.length (St.stack s)):Int)/\∀(x:Int),(St.stack s)[Int.toNat (wr IntKind.i64 ((↑(List.length (St.stack s)):Int)-(1:Int)))]? =some x->x=a/\St.clause s=b/\(0:Int)=e/\True)/\(decide ((↑(List.length (St.stack s)):Int)>(0:Int))=false->(decide (St.status s>(10:Int))=true->(0:Int)=a/\(0:Int)=b/\wr IntKind.i64 (St.status s-(10:Int))=e/\True)/\(decide (St.status s>(10:Int))=false->(0:Int)=a/\(0:Int)=b/\(1:Int)=e/\True)))/\((St.status s==(1:Int))=false->(decide (St.status s>(10:Int))=true->(0:Int)=a/\(0:Int)=b/\wr IntKind.i64 (St.status s-(10:Int))=e/\True)/\(decide (St.status s>(10:Int))=false->(0:Int)=a/\(0:Int)=b/\(1:Int)=e/\True))):=by kernel_rfl
end
section
open Go
theorem Zu2 {c:List Ins} {D:List Int} {s:St} (hc:Safe c D) (h:Good c D s) (hf:s.fuel<=32768):CanAdv c s 0:=
 ⟨hc.short,h.pc,h.lt,fun x hx=>hc.formed _ _ hx,h.fuel,by omega,Int.le_refl _,by omega,h.small hc⟩
theorem Zz7 (f:Int):PureC E 12 [.int false .i64 f] (.tup [stV (Wf f).1,.int false .i64 (Wf f).2]):=by
 refine Zc E_ok (Zn E_ok Zz1 400) ?_
 rw [Zp3]
 simp only [Z4,Zt,Xx,Xy,Xz,beq_iff_eq,bne_iff_ne,beq_eq_false_iff_ne,bne_eq_false_iff_eq,decide_eq_true_eq,decide_eq_false_iff_not,Bool.or_eq_true,Bool.or_eq_false_iff,Bool.not_eq_true',Bool.not_eq_false',Bool.and_eq_true,Bool.and_true,Bool.true_and,Bool.and_eq_false_iff,beq_self_eq_true,Z0,Yc,ne_eq,and_true,true_and,Bool.true_eq_false,Bool.false_eq_true,false_or,or_false,true_implies,Int.ofNat_eq_natCast,not_true_eq_false,not_false_eq_true,Decidable.not_not,gt_iff_lt,ge_iff_le]
 refine ⟨fun b=>(b=true↔(f<0\/32768<f)),⟨fun h=>by simp [h],fun h=>⟨fun h'=>by simp [h'],fun h'=>by simp;omega⟩⟩,fun hQ=> ?_,fun hQ=> ?_⟩
 · have hQ:=hQ.1 rfl
   unfold Wf;rw [if_pos hQ];simp [St.zero]
 · have hQ:¬(f<0\/32768<f):=fun h=>absurd (hQ.2 h) (by simp)
   unfold Wf;rw [if_neg hQ];simp [St.start]
theorem run_pure (c:List Ins) (v:Env) (f:Int):PureC E 7 [.psl .ins c false,envV v,.int false .i64 f] (.tup [stV (runF c v f).1,.int false .i64 (runF c v f).2]):=by
 refine Zc E_ok (Zn E_ok Zz1 400) ?_
 rw [Zwt]; delta qBK2 qBK5 qBK4 qBK1 qBK3 qBK6 qBK7
 simp only [Z4,Zt,Xx,Xy,Xz,beq_iff_eq,bne_iff_ne,beq_eq_false_iff_ne,bne_eq_false_iff_eq,decide_eq_true_eq,decide_eq_false_iff_not,Bool.or_eq_true,Bool.or_eq_false_iff,Bool.not_eq_true',Bool.not_eq_false',Bool.and_eq_true,Bool.and_true,Bool.true_and,Bool.and_eq_false_iff,beq_self_eq_true,Z0,Yc,ne_eq,and_true,true_and,Bool.true_eq_false,Bool.false_eq_true,false_or,or_false,true_implies,Int.ofNat_eq_natCast,not_true_eq_false,not_false_eq_true,Decidable.not_not,gt_iff_lt,ge_iff_le]
 refine ⟨fun hv=> ?_,fun hv=> ?_⟩
 · unfold runF;rw [if_pos hv];simp [St.zero]
 have hrun:runF c v f=if (Wf f).2≠0 then (.zero,(Wf f).2) else (itF c v (f.toNat+1) (St.start f),0):=by
  unfold runF;rw [if_neg (by simpa using hv)]
 refine ⟨fun b=>(b=true↔(f<0\/32768<f)),⟨fun h=>by simp [h],fun h=>⟨fun h'=>by simp [h'],fun h'=>by simp;omega⟩⟩,fun hQ=> ?_,fun hQ=> ?_⟩
 · have hQ:=hQ.1 rfl
   have e:Wf f=(.zero,1):=by unfold Wf;rw [if_pos hQ]
   rw [hrun,e];simp [St.zero]
 have hQ:¬(f<0\/32768<f):=fun h=>absurd (hQ.2 h) (by simp)
 have e:Wf f=(.start f,0):=by unfold Wf;rw [if_neg hQ]
 rw [hrun,e]
 simp only [ne_eq,not_true_eq_false,if_false]
 obtain ⟨D,hD⟩:=Zd6 hv
 refine ⟨fun x=>(x.s.status=0->Good c D x.s/\x.s.fuel<=32768/\x.s.fuel<x.r)/\itF c v (x.s.fuel.toNat+1) x.s=itF c v (f.toNat+1) (St.start f),⟨⟨St.start f,f.toNat+1⟩,⟨fun _=>⟨Zbq hD (by omega),by show f<=32768;omega,by show f<((f.toNat+1:Nat):Int);omega⟩,rfl⟩,by simp [St.start]⟩,fun x hR=>⟨fun hs=> ?_,fun hs=> ?_⟩⟩
 · obtain ⟨hg,hit⟩:=hR
   obtain ⟨hg,hf,hr⟩:=hg hs
   have hf0:=hg.fuel
   refine ⟨Zu2 hD hg hf,?_⟩
   have e1:itF c v (x.s.fuel.toNat+1) x.s=itF c v x.s.fuel.toNat (advF c v x.s 0):=by simp [itF,hs]
   rw [e1] at hit
   by_cases h0:x.s.fuel=0
   · have ea:advF c v x.s 0={x.s with status:=220}:=Znd h0
     have hst:(advF c v x.s 0).status≠0:=by rw [ea];show (220:Int)≠0;omega
     refine ⟨⟨advF c v x.s 0,0⟩,⟨fun h=>absurd h hst,?_⟩,by show 0+1<=x.r;omega,by simp⟩
     show itF c v _ (advF c v x.s 0)=_
     rw [Uk hst] at hit⊢
     exact hit
   · obtain ⟨p1,p2,p3,p4⟩:=Zg2 (v:=v) hD hg (by omega)
     refine ⟨⟨advF c v x.s 0,x.r-1⟩,⟨fun h=>⟨(p1 h).1,by show (advF c v x.s 0).fuel<=32768;omega,by show (advF c v x.s 0).fuel<((x.r-1:Nat):Int);omega⟩,?_⟩,by show x.r-1+1<=x.r;omega,by simp⟩
     show itF c v ((advF c v x.s 0).fuel.toNat+1) (advF c v x.s 0)=_
     rw [p2,show (x.s.fuel-1).toNat+1=x.s.fuel.toNat by omega]
     exact hit
 · have hit:=hR.2
   rw [Uk hs] at hit
   rw [<-hit];simp
theorem Zkc (s:St) (h:s.stack.length<=1000000):PureC E 8 [stV s] (.tup [.int false .i64 (Ww s).1,.int false .i64 (Ww s).2.1,.int false .i64 (Ww s).2.2]):=by
 refine Zc E_ok (Zn E_ok Zz1 400) ?_
 rw [Zl2]
 have e1:wr .i64 ((s.stack.length:Int)-1)=s.stack.length-1:=wr64 (by omega) (by omega)
 have e2:wr .i64 (s.status-10)=IntKind.i64.wrap (s.status-10):=rfl
 simp only [Z4,Zt,Xx,Xy,Xz,beq_iff_eq,bne_iff_ne,beq_eq_false_iff_ne,bne_eq_false_iff_eq,decide_eq_true_eq,decide_eq_false_iff_not,Bool.or_eq_true,Bool.or_eq_false_iff,Bool.not_eq_true',Bool.not_eq_false',Bool.and_eq_true,Bool.and_true,Bool.true_and,Bool.and_eq_false_iff,beq_self_eq_true,Z0,Yc,ne_eq,and_true,true_and,Bool.true_eq_false,Bool.false_eq_true,false_or,or_false,true_implies,Int.ofNat_eq_natCast,not_true_eq_false,not_false_eq_true,Decidable.not_not,gt_iff_lt,ge_iff_le,e1,e2]
 unfold Ww
 refine ⟨fun h1=>⟨fun h2=>⟨by omega,by omega,fun x hx=> ?_⟩,fun h2=>⟨fun h3=>by omega,fun h3=> ?_⟩⟩,fun h1=>⟨fun h3=> ?_,fun h3=> ?_⟩⟩
 · rw [show Int.toNat ((s.stack.length:Int)-1)=s.stack.length-1 by omega] at hx
   rw [if_pos ⟨h1,by omega⟩];simp [List.getD_eq_getElem?_getD,hx]
 · rw [if_neg (by omega),if_neg (by omega)];simp
 · rw [if_neg (by omega),if_pos h3];simp
 · rw [if_neg (by omega),if_neg (by omega)];simp
end
section
open Go.ChangeShapes Go.WideShapes Go.ChangeAt Go.RowKit
section
variable {H:Type} {enc:TypeId × Value->H} {w:World} {spare:Nat->Bool} {held:Bool}
theorem Zw4:Tryd.prog.cellsOf 3=1:=by kernel_rfl
theorem Zx3:Tryd.prog.cellsOf 25=16:=by kernel_rfl
theorem Zx4:Tryd.prog.cellsOf 27=17:=by kernel_rfl
set_option maxHeartbeats 1000000 in
theorem Zue {v:Value} {d:DataW H} {ps:List MemPlace} (h:DataW.Trod enc Tryd.prog w 0 spare held 27 v d ps):∃x:Env,Den E σ0 (gTop w) (envV x) v:=by
 obtain ⟨fuel,h⟩:=h
 obtain ⟨xs,n,rfl,_,hl,hxl,hf⟩:=DataW.trod_struct Tryd.underlying27 h
 rw [Zx4] at hl
 have hv:=Zcc hl (by decide)
 generalize v.cells.toList=cs at*
 have h0:=hf 0 _ rfl
 have h1:=hf 1 _ rfl
 have hx2:xs.length=2:=by simpa using hxl
 rw [gB9 (by omega)] at h0 h1
 simp only [List.getElem_toArray,List.getElem_cons_zero,List.getElem_cons_succ,Zw4,Zx3,List.drop_zero] at h0 h1
 obtain ⟨p,hp,ip⟩:=X4 Tryd.underlying3 h0
 obtain ⟨ys,m,rfl,_,_,hyl,hg⟩:=DataW.trod_array Tryd.underlying25 h1
 have hall:∀i,i<16->∃n:Int,cs[1+i]? =some (.int .i64 n):=by
  intro i hi
  have h2:=hg i hi
  rw [gB9 (by omega)] at h2
  simp only [List.getElem_toArray,List.getElem_cons_zero,List.getElem_cons_succ,Zw4,Nat.mul_one] at h2
  obtain ⟨n,hn,_⟩:=X4 Tryd.underlying3 h2
  refine ⟨n,?_⟩
  have h3:((((cs.drop 1).take 16).drop i).take 1)[0]? =some (.int .i64 n):=by rw [hn];rfl
  rw [List.getElem?_take,if_pos (by decide),List.getElem?_drop,List.getElem?_take,if_pos (by omega),List.getElem?_drop] at h3
  simpa using h3
 have hp0:cs[0]? =some (.int .i64 p):=by
  have h3:((cs.take 1))[0]? =some (.int .i64 p):=by rw [hp];rfl
  rw [List.getElem?_take,if_pos (by decide)] at h3
  exact h3
 obtain ⟨f,hfam⟩:=Go.Deep.choose_lt (α:=Int) hall
 rw [hv]
 refine ⟨⟨p,f 0,f 1,f 2,f 3,f 4,f 5,f 6,f 7,f 8,f 9,f 10,f 11,f 12,f 13,f 14,f 15⟩,.agg (fun j=>cs.getD j undef) (by simp [hl]) (fun j hj=> ?_) (fun j sv hj=> ?_)⟩
 · have hj:j<17:=hj
   rw [List.getElem?_toArray,List.getD_eq_getElem?_getD,gB9 (by omega)];rfl
 · match j,hj with
   |0,hj=>cases hj;show Den E σ0 (gTop w) (.int false .i64 p) _;rw [List.getD_eq_getElem?_getD,hp0];exact .int _ _ _
   |1,hj=>cases hj;show Den E σ0 (gTop w) (.int false .i64 (f 0)) _;rw [List.getD_eq_getElem?_getD,show cs[1]? =_ from hfam 0 (by omega)];exact .int _ _ _
   |2,hj=>cases hj;show Den E σ0 (gTop w) (.int false .i64 (f 1)) _;rw [List.getD_eq_getElem?_getD,show cs[2]? =_ from hfam 1 (by omega)];exact .int _ _ _
   |3,hj=>cases hj;show Den E σ0 (gTop w) (.int false .i64 (f 2)) _;rw [List.getD_eq_getElem?_getD,show cs[3]? =_ from hfam 2 (by omega)];exact .int _ _ _
   |4,hj=>cases hj;show Den E σ0 (gTop w) (.int false .i64 (f 3)) _;rw [List.getD_eq_getElem?_getD,show cs[4]? =_ from hfam 3 (by omega)];exact .int _ _ _
   |5,hj=>cases hj;show Den E σ0 (gTop w) (.int false .i64 (f 4)) _;rw [List.getD_eq_getElem?_getD,show cs[5]? =_ from hfam 4 (by omega)];exact .int _ _ _
   |6,hj=>cases hj;show Den E σ0 (gTop w) (.int false .i64 (f 5)) _;rw [List.getD_eq_getElem?_getD,show cs[6]? =_ from hfam 5 (by omega)];exact .int _ _ _
   |7,hj=>cases hj;show Den E σ0 (gTop w) (.int false .i64 (f 6)) _;rw [List.getD_eq_getElem?_getD,show cs[7]? =_ from hfam 6 (by omega)];exact .int _ _ _
   |8,hj=>cases hj;show Den E σ0 (gTop w) (.int false .i64 (f 7)) _;rw [List.getD_eq_getElem?_getD,show cs[8]? =_ from hfam 7 (by omega)];exact .int _ _ _
   |9,hj=>cases hj;show Den E σ0 (gTop w) (.int false .i64 (f 8)) _;rw [List.getD_eq_getElem?_getD,show cs[9]? =_ from hfam 8 (by omega)];exact .int _ _ _
   |10,hj=>cases hj;show Den E σ0 (gTop w) (.int false .i64 (f 9)) _;rw [List.getD_eq_getElem?_getD,show cs[10]? =_ from hfam 9 (by omega)];exact .int _ _ _
   |11,hj=>cases hj;show Den E σ0 (gTop w) (.int false .i64 (f 10)) _;rw [List.getD_eq_getElem?_getD,show cs[11]? =_ from hfam 10 (by omega)];exact .int _ _ _
   |12,hj=>cases hj;show Den E σ0 (gTop w) (.int false .i64 (f 11)) _;rw [List.getD_eq_getElem?_getD,show cs[12]? =_ from hfam 11 (by omega)];exact .int _ _ _
   |13,hj=>cases hj;show Den E σ0 (gTop w) (.int false .i64 (f 12)) _;rw [List.getD_eq_getElem?_getD,show cs[13]? =_ from hfam 12 (by omega)];exact .int _ _ _
   |14,hj=>cases hj;show Den E σ0 (gTop w) (.int false .i64 (f 13)) _;rw [List.getD_eq_getElem?_getD,show cs[14]? =_ from hfam 13 (by omega)];exact .int _ _ _
   |15,hj=>cases hj;show Den E σ0 (gTop w) (.int false .i64 (f 14)) _;rw [List.getD_eq_getElem?_getD,show cs[15]? =_ from hfam 14 (by omega)];exact .int _ _ _
   |16,hj=>cases hj;show Den E σ0 (gTop w) (.int false .i64 (f 15)) _;rw [List.getD_eq_getElem?_getD,show cs[16]? =_ from hfam 15 (by omega)];exact .int _ _ _
end
section
variable {H:Type} {enc:TypeId × Value->H} {w:World} {spare:Nat->Bool} {held:Bool}
end
end
section
open Go.ChangeShapes Go.WideShapes Go.ChangeAt Go.RowKit
theorem Zwq:Zpo 1=some (.pmap Zll):=rfl
theorem Zp2 {f:FuncId} {args:List (SV thy)} (hp:PureC E f args (.bool false true)) {W:World} (hL:laidMetH Tryd.prog laidM W) {vals:Array Value} (hd:DenL E σ0 (gTop W) args vals.toList):Calls Tryd.prog f vals W fun en W'=>en= .returned (.bool true)/\Ext W W':=by
 have hI:Inv E W.heap.size σ0 hp0 (gTop W) W:=Zzx fun n sv hn j s hj=>by
  match n,hn with
  |0,hn=>
   have hn:Zpo 0=some sv:=hn
   rw [Zuo] at hn
   cases hn
   match j,hj with
   |0,hj=>cases hj;exact Zj2 hL
  |1,hn=>
   have hn:Zpo 1=some sv:=hn
   rw [Zwq] at hn
   cases hn
   match j,hj with
   |0,hj=>cases hj;exact Zzh (laidMetH.filter (fun x=>x.1== "wagonpool/tvm.binaries") hL)
 refine (hp _ W vals hI hd).mono ?_
 rintro en w' ⟨u,rfl,g',hS,_,hv⟩
 cases hv
 exact ⟨rfl,Zol hS⟩
def Zz0 (os:Os):World:=World.doorLaid Tryd.prog 3000 os
def Zjj (os:Os):World:=(Zz0 os).layVars Tryd.prog [("unicode/utf8.first",Rows.laid_unicode_utf8_first)]
theorem Ztr (os:Os):(Zjj os).os=os:=World.layVars_os _ _ _
def Z1v (os:Os):List Nat:=(List.range (Zz0 os).heap.size).filter fun b=>b !=2
theorem Zts (os:Os):laidMet Tryd.prog (laidM.filter fun x=>x.2.handleName?.isNone) (Zjj os):=
 laidMet_layVars (w0:=Zz0 os) ["unicode/utf8.first"] (Z1v os) (by kernel_rfl) (by kernel_rfl) (by kernel_rfl) (LaidIn.of_run (Z1v os) 12 (by kernel_rfl) (by kernel_rfl) (by kernel_rfl) (by kernel_rfl))
theorem Zwr (os:Os) (args:Array Value):((Zjj os).forCall (fun _ _=>0) ⟨#[],args,[]⟩).Shaped Tryd.prog:=World.shaped_of_ZipB (by kernel_rfl) (by kernel_rfl)
theorem Zws (os:Os) (args:Array Value):laidMetH Tryd.prog laidM ((Zjj os).forCall (fun _ _=>0) ⟨#[],args,[]⟩).memory:=
 laidMetH_of_parts3 (fuel:=8) ((Zts os).of_heap (by simp [World.memory,World.forCall,Input.heap])) (by kernel_rfl) (by kernel_rfl)
end
section
open Go
theorem Ex.eta (x:Ex):Ex.mk x.op x.n x.d0 x.d1 x.d2 x.d3 x.l=x:=by cases x;rfl
theorem Tst.eta (x:Tst):Tst.mk x.attr x.low x.high=x:=rfl
theorem Cls.eta (x:Cls):Cls.mk x.name x.when_ x.pay=x:=rfl
def Ex.u (x:Ex):List Int:= [x.d0,x.d1,x.d2,x.d3]
mutual
def Ex.sz:Ex->Nat
 | .mk _ _ _ _ _ _ l=>Ex.szL l+1
def Ex.szL:List Ex->Nat
 | []=>0
 |x::r=>x.sz+Ex.szL r
end
theorem Ex.sz_eq (x:Ex):x.sz=Ex.szL x.l+1:=by cases x;simp only [Ex.sz,Ex.l]
theorem Ex.sz_pos (x:Ex):0<x.sz:=by rw [Ex.sz_eq];omega
theorem Ex.szL_mem:∀{l:List Ex} {x:Ex},x∈l->x.sz<=Ex.szL l
 |y::r,x,h=>by
  rw [Ex.szL]
  rcases List.mem_cons.1 h with rfl|h
  · omega
  · have:=Ex.szL_mem h;omega
theorem Ex.sz_mem {x y:Ex} (h:y∈x.l):y.sz<x.sz:=by
 have:=Ex.szL_mem h
 rw [Ex.sz_eq x];omega
theorem Ex.szL_len:∀(l:List Ex),l.length<=Ex.szL l
 | []=>Nat.le_refl _
 |x::r=>by
  have:=Ex.szL_len r
  have:=x.sz_pos
  rw [Ex.szL,List.length_cons];omega
mutual
def Y0:Ex->Nat
 | .mk _ _ _ _ _ _ l=>Zbl l+1
def Zbl:List Ex->Nat
 | []=>0
 |x::r=>max (Y0 x) (Zbl r)
end
theorem Uh (x:Ex):Y0 x=Zbl x.l+1:=by cases x;simp only [Y0,Ex.l]
mutual
theorem Zm4:∀(x:Ex),Y0 x<=x.sz
 | .mk _ _ _ _ _ _ l=>by have:=Zm5 l;simp only [Y0,Ex.sz];omega
theorem Zm5:∀(l:List Ex),Zbl l<=Ex.szL l
 | []=>Nat.le_refl _
 |x::r=>by have:=Zm4 x;have:=Zm5 r;simp only [Zbl,Ex.szL];omega
end
def cnt (u:List Int) (n:Int):Nat:=(u.filter fun d=>d==n).length
def Ziq (u:List Int):Bool:=decide (cnt u 0+cnt u 1+cnt u (-1)=4)&&decide (cnt u 1<=1)&&decide (cnt u (-1)<=1)
def Zy7 (op:Int):Nat:=if op=1\/op=2 then 0 else if op=11 then 4 else 2
def Zpa (op:Int):Int:=if op=1 then 1099511627776 else if op=2 then 15 else 0
def Zir (op n:Int) (u:List Int) (k:Nat):Bool:=
 decide (1<=op)&&decide (op<=11)&&decide (0<=n)&&decide (n<=Zpa op)&&decide (k=Zy7 op)&&Ziq u&&(decide (op=1)||decide (u= [0,0,0,0]))
mutual
def Zo:Ex->Bool
 | .mk op n d0 d1 d2 d3 l=>Zir op n [d0,d1,d2,d3] l.length&&Vz l
def Vz:List Ex->Bool
 | []=>true
 |x::r=>Zo x&&Vz r
end
theorem Zgx (x:Ex):Zo x=(Zir x.op x.n x.u x.l.length&&Vz x.l):=by cases x;simp only [Zo,Ex.op,Ex.n,Ex.u,Ex.d0,Ex.d1,Ex.d2,Ex.d3,Ex.l]
theorem formL_iff:∀{l:List Ex},Vz l=true↔∀x∈l,Zo x=true
 | []=>by simp [Vz]
 |x::r=>by simp [Vz,formL_iff (l:=r)]
theorem Zpb {l:List Ex} {k:Nat} {y:Ex} (h:l[k]? =some y):Vz (l.drop k)=(Zo y&&Vz (l.drop (k+1))):=by
 have hk:=(gA9.1 h).1
 have:l.drop k=y::l.drop (k+1):=by rw [List.drop_eq_getElem_cons hk];congr 1;exact (gA9.1 h).2
 rw [this,Vz]
end
section
def iOp (op:Int):Ins:=⟨op,0,0⟩
def iNN (op n:Int):Ins:=⟨op,n,0⟩
def cdN (op n:Int) (fs:List (Nat->List Ins)) (o:Nat):List Ins:=
 if op=1 then [iNN 1 n] else if op=2 then [iNN 2 n] else
 let a:=fs.getD 0 (fun _=> []) o
 let b:=fs.getD 1 (fun _=> []) (o+a.length)
 if op=11 then
  let p:=o+a.length+b.length+2
  let c:=fs.getD 2 (fun _=> []) p
  let q:=p+c.length+1
  let d:=fs.getD 3 (fun _=> []) q
  a++b++iOp 11::iNN 13 q::(c++iNN 14 (q+d.length:Nat)::d)
 else a++b++ [iOp op]
mutual
def cdX:Ex->Nat->List Ins
 | .mk op n _ _ _ _ l=>cdN op n (cdL l)
def cdL:List Ex->List (Nat->List Ins)
 | []=> []
 |x::r=>cdX x::cdL r
end
def cdTs:Nat->List Tst->List Ins
 |_,[]=> []
 |e,w::r=>iNN 2 w.attr::⟨12,w.low,w.high⟩::iNN 13 e::cdTs e r
def cdC (c:Cls) (k o:Nat):List Ins:=
 let p:=cdX c.pay (o+3*c.when_.length)
 cdTs (o+3*c.when_.length+p.length+1) c.when_++p++ [iNN 15 k]
def cdCs:List Cls->Nat->Nat->List Ins
 | [],_,_=> []
 |c::r,k,o=>cdC c k o++cdCs r (k+1) (o+(cdC c k o).length)
def cdT (t:Tar):List Ins:=cdCs t.clauses 0 0++ [iOp 16]
theorem Yu:∀(e:Nat) (l:List Tst),(cdTs e l).length=3*l.length
 |_,[]=>rfl
 |e,w::r=>by simp [cdTs,Yu e r];omega
theorem Xc {len:Int}:∀{a b:List Ins} {i:Nat} {D D':List Int} {m m':Int},fromF len a i D m=some (D',m')->fromF len (a++b) i D m=fromF len b (i+a.length) D' m'
 | [],b,i,D,D',m,m',h=>by cases h;rfl
 |x::r,b,i,D,D',m,m',h=>by
  unfold fromF at h
  rw [List.cons_append]
  conv=>lhs;unfold fromF
  cases hr:rndF len i x D m with
  |none=>rw [hr] at h;cases h
  |some p=>
   obtain ⟨D1,m1⟩:=p
   rw [hr] at h
   have:=Xc (b:=b) (i:=i+1) h
   rw [List.length_cons,show i+(r.length+1)=i+1+r.length by omega]
   exact this
theorem Zp {D:List Int} {i k:Nat} {v:Int}:(D.set i v).getD k 0=if i=k/\k<D.length then v else D.getD k 0:=by
 rw [List.getD_eq_getElem?_getD,List.getElem?_set,List.getD_eq_getElem?_getD]
 by_cases h:i=k
 · subst h
   by_cases h2:i<D.length
   · simp [h2]
   · simp [h2]
 · simp [h]
theorem Zat {len:Nat} {i:Nat} {x:Ins} {D:List Int} {m d a:Int} (hlen:D.length=len) (hi:i+1<len) (hd:D.getD i 0=d) (hd0:0<=d) (h1:(eff x.op).1<=d) (ha:a=d-(eff x.op).1+(eff x.op).2)
 (hop:x.op≠13/\x.op≠14/\x.op≠15/\x.op≠16) (hn:D.getD (i+1) 0<0\/D.getD (i+1) 0=a):rndF len i x D m=some (D.set (i+1) a,max (max m d) a):=by
 unfold rndF
 rw [hd,if_neg (by omega),if_neg (by omega)]
 have hx:nextF i x= [(i:Int)+1]:=by
  unfold nextF
  rw [if_neg (by omega),if_neg (by omega),if_neg (by omega)]
 rw [hx,<-ha]
 have e:((i:Int)+1).toNat=i+1:=by omega
 have hs:setF len i a [(i:Int)+1] D=some (D.set (i+1) a):=by
  unfold setF
  rw [e,if_neg (by omega)]
  rfl
 rw [hs]
theorem Zu0 {len:Nat} {i e:Nat} {D:List Int} {m d:Int} (hlen:D.length=len) (hi:i<e) (he:e<len) (hd:D.getD i 0=d) (hd0:0<=d) (hn:D.getD e 0<0\/D.getD e 0=d):rndF len i (iNN 14 e) D m=some (D.set e d,max m d):=by
 unfold rndF
 have ho:(iNN 14 (e:Int)).op=14:=rfl
 have hef:eff 14=(0,0):=rfl
 rw [hd,if_neg (by omega),ho,hef,if_neg (by simp only;omega)]
 have hx:nextF i (iNN 14 e)= [(e:Int)]:=rfl
 rw [hx]
 have e2:((e:Int)).toNat=e:=by omega
 have hs:setF len i (d-0+0) [(e:Int)] D=some (D.set e d):=by
  unfold setF
  rw [e2,if_neg (by omega),show d-0+0=d by omega]
  rfl
 rw [hs]
 simp only [show d-0+0=d by omega]
 congr 2
 omega
theorem Zmg {len:Nat} {i q:Nat} {D:List Int} {m d:Int} (hlen:D.length=len) (hi:i+1<q) (he:q<len) (hd:D.getD i 0=d+1) (hd0:0<=d) (hn:D.getD q 0<0\/D.getD q 0=d) (hn1:D.getD (i+1) 0<0\/D.getD (i+1) 0=d):
 rndF len i (iNN 13 q) D m=some ((D.set q d).set (i+1) d,max m (d+1)):=by
 unfold rndF
 have ho:(iNN 13 (q:Int)).op=13:=rfl
 have hef:eff 13=(1,0):=rfl
 rw [hd,if_neg (by omega),ho,hef,if_neg (by simp only;omega)]
 have hx:nextF i (iNN 13 q)= [(q:Int),(i:Int)+1]:=rfl
 rw [hx]
 have e2:((q:Int)).toNat=q:=by omega
 have e3:((i:Int)+1).toNat=i+1:=by omega
 have hs:setF len i (d+1-1+0) [(q:Int),(i:Int)+1] D=some ((D.set q d).set (i+1) d):=by
  unfold setF
  rw [e2,if_neg (by omega),show d+1-1+0=d by omega]
  unfold setF
  have:(D.set q d).getD (i+1) 0=D.getD (i+1) 0:=by rw [Zp,if_neg (by omega)]
  rw [e3,this,if_neg (by omega)]
  rfl
 rw [hs]
 simp only [show d+1-1+0=d by omega]
 congr 2
 omega
def dpN (op:Int) (ds:List Int):Int:=
 if op=1\/op=2 then 1 else if op=11 then max (max (ds.getD 0 0) (1+ds.getD 1 0)) (max (ds.getD 2 0) (ds.getD 3 0)) else max (ds.getD 0 0) (1+ds.getD 1 0)
mutual
def dpX:Ex->Int
 | .mk op _ _ _ _ _ l=>dpN op (dpL l)
def dpL:List Ex->List Int
 | []=> []
 |x::r=>dpX x::dpL r
end
def Arx (x:Ex):Prop:=1<=x.op/\x.op<=11/\x.l.length=if x.op=1\/x.op=2 then 0 else if x.op=11 then 4 else 2
theorem Zh0 {x:Ex} (h:Zo x=true):Arx x/\∀y∈x.l,Zo y=true:=by
 rw [Zgx,Bool.and_eq_true] at h
 obtain ⟨h1,h2⟩:=h
 unfold Zir at h1
 simp only [Bool.and_eq_true,Bool.or_eq_true,decide_eq_true_eq] at h1
 obtain ⟨⟨⟨⟨⟨⟨k1,k2⟩,k3⟩,k4⟩,k5⟩,k6⟩,k7⟩:=h1
 refine ⟨⟨k1,k2,?_⟩,formL_iff.1 h2⟩
 rw [k5]
 unfold Zy7
 rfl
def Ver (x:Ex):Prop:=∀⦃len o:Nat⦄ ⦃D:List Int⦄ ⦃m d:Int⦄,D.length=len->o+(cdX x o).length<len->D.getD o 0=d->0<=d->d<=m->(∀k,o<k->k<o+(cdX x o).length->D.getD k 0<0)->(D.getD (o+(cdX x o).length) 0<0\/D.getD (o+(cdX x o).length) 0=d+1)->
 ∃D':List Int,fromF len (cdX x o) o D m=some (D',max m (d+dpX x))/\D'.length=len/\D'.getD (o+(cdX x o).length) 0=d+1/\∀k,o+(cdX x o).length<k->D'.getD k 0=D.getD k 0
theorem Z19 {α:Type} {l:List α} (h:l.length=2):∃a b,l= [a,b]:=by
 match l,h with
 | [a,b],_=>exact ⟨a,b,rfl⟩
theorem Z2a {α:Type} {l:List α} (h:l.length=4):∃a b c d,l= [a,b,c,d]:=by
 match l,h with
 | [a,b,c,d],_=>exact ⟨a,b,c,d,rfl⟩
theorem Zj8 {op n a b c d:Int} {l:List Ex} {o:Nat} (h:op=1\/op=2):cdX (.mk op n a b c d l) o= [iNN op n]:=by
 rw [cdX];unfold cdN
 rcases h with rfl|rfl
 · rw [if_pos rfl]
 · rw [if_neg (by decide),if_pos rfl]
theorem Zj9 {op n a b c d:Int} {x y:Ex} {o:Nat} (h1:3<=op) (h2:op<=10):cdX (.mk op n a b c d [x,y]) o=cdX x o++cdX y (o+(cdX x o).length)++ [iOp op]:=by
 rw [cdX];unfold cdN
 rw [if_neg (by omega),if_neg (by omega)]
 simp only [cdL,List.getD_cons_zero,List.getD_cons_succ]
 rw [if_neg (by omega)]
theorem Zka {n a b c d:Int} {x y z w:Ex} {o:Nat} {p q:Nat} (hp:p=o+(cdX x o).length+(cdX y (o+(cdX x o).length)).length+2) (hq:q=p+(cdX z p).length+1):
 cdX (.mk 11 n a b c d [x,y,z,w]) o=cdX x o++cdX y (o+(cdX x o).length)++iOp 11::iNN 13 q::(cdX z p++iNN 14 (q+(cdX w q).length:Nat)::cdX w q):=by
 rw [cdX];unfold cdN
 rw [if_neg (by decide),if_neg (by decide)]
 simp only [cdL,List.getD_cons_zero,List.getD_cons_succ]
 rw [if_pos trivial,<-hp,<-hq]
theorem dp_1 {op n a b c d:Int} {l:List Ex} (h:op=1\/op=2):dpX (.mk op n a b c d l)=1:=by
 rw [dpX];unfold dpN;rw [if_pos h]
theorem dp_2 {op n a b c d:Int} {x y:Ex} (h1:3<=op) (h2:op<=10):dpX (.mk op n a b c d [x,y])=max (dpX x) (1+dpX y):=by
 rw [dpX];unfold dpN;rw [if_neg (by omega),if_neg (by omega)]
 simp only [dpL,List.getD_cons_zero,List.getD_cons_succ]
theorem dp_4 {n a b c d:Int} {x y z w:Ex}:dpX (.mk 11 n a b c d [x,y,z,w])=max (max (dpX x) (1+dpX y)) (max (dpX z) (dpX w)):=by
 rw [dpX];unfold dpN;rw [if_neg (by decide),if_pos rfl]
 simp only [dpL,List.getD_cons_zero,List.getD_cons_succ]
theorem Y8 {x:Ex} (h:Zo x=true):(∃op n a b c d,x= .mk op n a b c d []/\(op=1\/op=2))\/(∃op n a b c d y z,x= .mk op n a b c d [y,z]/\3<=op/\op<=10/\Zo y=true/\Zo z=true)\/
 (∃n a b c d y z u v,x= .mk 11 n a b c d [y,z,u,v]/\Zo y=true/\Zo z=true/\Zo u=true/\Zo v=true):=by
 obtain ⟨⟨h1,h2,h3⟩,h4⟩:=Zh0 h
 obtain ⟨op,n,a,b,c,d,l⟩:=x
 have h1:1<=op:=h1
 have h2:op<=11:=h2
 have h3:l.length=if op=1\/op=2 then 0 else if op=11 then 4 else 2:=h3
 have h4:∀y∈l,Zo y=true:=h4
 by_cases q:op=1\/op=2
 · rw [if_pos q] at h3
   obtain rfl:=List.eq_nil_of_length_eq_zero h3
   exact .inl ⟨op,n,a,b,c,d,rfl,q⟩
 · rw [if_neg q] at h3
   by_cases q2:op=11
   · rw [if_pos q2] at h3
     obtain ⟨y,z,u,v,rfl⟩:=Z2a h3
     subst q2
     exact .inr (.inr ⟨n,a,b,c,d,y,z,u,v,rfl,h4 y (.head _),h4 z (.tail _ (.head _)),h4 u (.tail _ (.tail _ (.head _))),h4 v (.tail _ (.tail _ (.tail _ (.head _))))⟩)
   · rw [if_neg q2] at h3
     obtain ⟨y,z,rfl⟩:=Z19 h3
     exact .inr (.inl ⟨op,n,a,b,c,d,y,z,rfl,by omega,by omega,h4 y (.head _),h4 z (.tail _ (.head _))⟩)
theorem sz_2 {op n a b c d:Int} {y z:Ex}:(Ex.mk op n a b c d [y,z]).sz=1+y.sz+z.sz:=by rw [Ex.sz_eq];simp [Ex.l,Ex.szL];omega
theorem sz_4 {op n a b c d:Int} {y z u v:Ex}:(Ex.mk op n a b c d [y,z,u,v]).sz=1+y.sz+z.sz+u.sz+v.sz:=by rw [Ex.sz_eq];simp [Ex.l,Ex.szL];omega
theorem Zau:∀(k:Nat) (x:Ex),x.sz<=k->Zo x=true->1<=dpX x
 |0,x,h,_=>by have:=x.sz_pos;omega
 |k+1,x,h,hf=>by
  rcases Y8 hf with ⟨op,n,a,b,c,d,rfl,q⟩|⟨op,n,a,b,c,d,y,z,rfl,q1,q2,f1,f2⟩|⟨n,a,b,c,d,y,z,u,v,rfl,f1,f2,f3,f4⟩
  · rw [dp_1 q];exact Int.le_refl _
  · rw [sz_2] at h
    have:=Zau k y (by omega) f1
    rw [dp_2 q1 q2];omega
  · rw [sz_4] at h
    have:=Zau k y (by omega) f1
    rw [dp_4];omega
theorem Zc6:∀(k:Nat) (x:Ex),x.sz<=k->Zo x=true->∀o,1<=(cdX x o).length
 |0,x,h,_=>by have:=x.sz_pos;omega
 |k+1,x,h,hf=>by
  intro o
  rcases Y8 hf with ⟨op,n,a,b,c,d,rfl,q⟩|⟨op,n,a,b,c,d,y,z,rfl,q1,q2,f1,f2⟩|⟨n,a,b,c,d,y,z,u,v,rfl,f1,f2,f3,f4⟩
  · rw [Zj8 q];simp
  · rw [Zj9 q1 q2];simp;omega
  · rw [Zka rfl rfl];simp;omega
theorem Yq {len:Int} {i:Nat} {x:Ins} {D D':List Int} {m m':Int} (h:rndF len i x D m=some (D',m')) (r:List Ins):fromF len (x::r) i D m=fromF len r (i+1) D' m':=by
 conv=>lhs;unfold fromF
 rw [h]
theorem max8 {m d a b c e K:Int} (ha:a<=K) (hb:1+b<=K) (hc:c<=K) (he:e<=K) (hK:K=a\/K=1+b\/K=c\/K=e) (pa:1<=a) (pb:1<=b):
 max (max (max (max (max (max (max (max m (d+a)) (d+1+b)) (d+1+1)) (d+1)) (d+1)) (d+c)) (d+1)) (d+e)=max m (d+K):=by
 apply Int.le_antisymm
 · refine Int.max_le.2 ⟨Int.max_le.2 ⟨Int.max_le.2 ⟨Int.max_le.2 ⟨Int.max_le.2 ⟨Int.max_le.2 ⟨Int.max_le.2 ⟨Int.max_le.2 ⟨?_,?_⟩,?_⟩,?_⟩,?_⟩,?_⟩,?_⟩,?_⟩,?_⟩
   · exact Int.le_max_left _ _
   all_goals exact Int.le_trans (by omega) (Int.le_max_right m (d+K))
 · have e1:=Int.le_max_left (max (max (max (max (max (max (max m (d+a)) (d+1+b)) (d+1+1)) (d+1)) (d+1)) (d+c)) (d+1)) (d+e)
   have e2:=Int.le_max_left (max (max (max (max (max (max m (d+a)) (d+1+b)) (d+1+1)) (d+1)) (d+1)) (d+c)) (d+1)
   have e3:=Int.le_max_left (max (max (max (max (max m (d+a)) (d+1+b)) (d+1+1)) (d+1)) (d+1)) (d+c)
   have e4:=Int.le_max_left (max (max (max (max m (d+a)) (d+1+b)) (d+1+1)) (d+1)) (d+1)
   have e5:=Int.le_max_left (max (max (max m (d+a)) (d+1+b)) (d+1+1)) (d+1)
   have e6:=Int.le_max_left (max (max m (d+a)) (d+1+b)) (d+1+1)
   have e7:=Int.le_max_left (max m (d+a)) (d+1+b)
   have e8:=Int.le_max_left m (d+a)
   have f1:=Int.le_max_right (max (max (max (max (max (max (max m (d+a)) (d+1+b)) (d+1+1)) (d+1)) (d+1)) (d+c)) (d+1)) (d+e)
   have f3:=Int.le_max_right (max (max (max (max (max m (d+a)) (d+1+b)) (d+1+1)) (d+1)) (d+1)) (d+c)
   have f7:=Int.le_max_right (max m (d+a)) (d+1+b)
   have f8:=Int.le_max_right m (d+a)
   refine Int.max_le.2 ⟨?_,?_⟩
   · exact (Int.le_trans e8 (Int.le_trans e7 (Int.le_trans e6 (Int.le_trans e5 (Int.le_trans e4 (Int.le_trans e3 (Int.le_trans e2 e1)))))))
   · rcases hK with rfl|rfl|rfl|rfl
     · exact (Int.le_trans f8 (Int.le_trans e7 (Int.le_trans e6 (Int.le_trans e5 (Int.le_trans e4 (Int.le_trans e3 (Int.le_trans e2 e1)))))))
     · exact Int.le_trans (show d+(1+b)<=d+1+b by omega) (Int.le_trans f7 (Int.le_trans e6 (Int.le_trans e5 (Int.le_trans e4 (Int.le_trans e3 (Int.le_trans e2 e1))))))
     · exact (Int.le_trans f3 (Int.le_trans e2 e1))
     · exact f1
theorem Zoq (a b c e:Int):∃K,max (max a (1+b)) (max c e)=K/\a<=K/\1+b<=K/\c<=K/\e<=K/\(K=a\/K=1+b\/K=c\/K=e):=⟨_,rfl,by omega,by omega,by omega,by omega,by omega⟩
theorem Uc (m a:Int):∃K,max m a=K/\m<=K/\a<=K:=⟨_,rfl,by omega,by omega⟩
set_option maxHeartbeats 4000000 in
theorem U1:∀(k:Nat) (x:Ex),x.sz<=k->Zo x=true->Ver x
 |0,x,h,_=>by have:=x.sz_pos;omega
 |k+1,x,h,hf=>by
  intro len o D m d hlen hl hd hd0 hdm hin hend
  rcases Y8 hf with ⟨op,n,a,b,c,e,rfl,q⟩|⟨op,n,a,b,c,e,y,z,rfl,q1,q2,f1,f2⟩|⟨n,a,b,c,e,y,z,u,v,rfl,f1,f2,f3,f4⟩
  · rw [Zj8 q] at hl hin hend⊢
    rw [dp_1 q]
    have hl:o+1<len:=hl
    have hend:D.getD (o+1) 0<0\/D.getD (o+1) 0=d+1:=hend
    have hef:eff op=(0,1):=by unfold eff;rw [if_pos q]
    have hr:=Zat (x:=iNN op n) (m:=m) hlen hl hd hd0 (by show (eff op).1<=d;rw [hef];exact hd0) (a:=d+1) (by show d+1=d-(eff op).1+(eff op).2;rw [hef];simp only;omega) (by show op≠13/\op≠14/\op≠15/\op≠16;omega) hend
    refine ⟨D.set (o+1) (d+1),?_,by rw [List.length_set];exact hlen,?_,fun j hj=> ?_⟩
    · rw [Yq hr]
      show some (_,_)=some (_,_)
      congr 2
      omega
    · show (D.set (o+1) (d+1)).getD (o+1) 0=_
      rw [Zp,if_pos ⟨rfl,by omega⟩]
    · have hj:o+1<j:=hj
      rw [Zp,if_neg (by omega)]
  · rw [sz_2] at h
    have i1:=U1 k y (by omega) f1
    have i2:=U1 k z (by omega) f2
    have p1:=Zau k y (by omega) f1
    have p2:=Zau k z (by omega) f2
    rw [Zj9 q1 q2] at hl hin hend⊢
    rw [dp_2 q1 q2]
    generalize hA:cdX y o=A at*
    generalize hB:cdX z (o+A.length)=B at*
    simp only [List.length_append,List.length_cons,List.length_nil] at hl hin hend⊢
    obtain ⟨D1,e1,l1,g1,k1⟩:=i1 (o:=o) (m:=m) hlen (by rw [hA];omega) hd hd0 hdm (fun j h1 h2=>hin j h1 (by rw [hA] at h2;omega)) (.inl (hin _ (by rw [hA];have:=Zc6 k y (by omega) f1 o;rw [hA] at this;omega) (by rw [hA];omega)))
    rw [hA] at e1 g1 k1
    have pB:=Zc6 k z (by omega) f2 (o+A.length)
    rw [hB] at pB
    obtain ⟨D2,e2,l2,g2,k2⟩:=i2 (o:=o+A.length) (m:=max m (d+dpX y)) l1 (by rw [hB];omega) g1 (by omega) (by omega) (fun j h1 h2=>by rw [k1 j h1];exact hin j (by omega) (by rw [hB] at h2;omega)) (.inl (by rw [hB,k1 _ (by omega)];exact hin _ (by omega) (by omega)))
    rw [hB] at e2 g2 k2
    have hef:eff op=(2,1):=by
     unfold eff
     rw [if_neg (by omega),if_neg (by omega),if_neg (by omega),if_neg (by omega)]
    have hr:=Zat (x:=iOp op) (m:=max (max m (d+dpX y)) (d+1+dpX z)) l2 (by omega) g2 (by omega) (by show (eff op).1<=_;rw [hef];simp only;omega) (a:=d+1) (by show d+1=d+1+1-(eff op).1+(eff op).2;rw [hef];simp only;omega) (by show op≠13/\op≠14/\op≠15/\op≠16;omega)
     (by rw [k2 _ (by omega),k1 _ (by omega),show o+A.length+B.length+1=o+(A.length+B.length+(0+1)) by omega];exact hend)
    refine ⟨D2.set (o+A.length+B.length+1) (d+1),?_,by rw [List.length_set];exact l2,?_,fun j hj=> ?_⟩
    · rw [List.append_assoc,Xc e1,Xc e2,Yq hr]
      show some (_,_)=some (_,_)
      congr 2
      omega
    · rw [Zp,if_pos ⟨by omega,by omega⟩]
    · rw [Zp,if_neg (by omega),k2 _ (by omega),k1 _ (by omega)]
  · rw [sz_4] at h
    have i1:=U1 k y (by omega) f1
    have i2:=U1 k z (by omega) f2
    have i3:=U1 k u (by omega) f3
    have i4:=U1 k v (by omega) f4
    have p1:=Zau k y (by omega) f1
    have p2:=Zau k z (by omega) f2
    have p3:=Zau k u (by omega) f3
    have p4:=Zau k v (by omega) f4
    have pA:=Zc6 k y (by omega) f1 o
    have pB:=Zc6 k z (by omega) f2 (o+(cdX y o).length)
    obtain ⟨p,hp⟩:∃p,p=o+(cdX y o).length+(cdX z (o+(cdX y o).length)).length+2:=⟨_,rfl⟩
    obtain ⟨q,hq⟩:∃q,q=p+(cdX u p).length+1:=⟨_,rfl⟩
    have pC:=Zc6 k u (by omega) f3 p
    have pE:=Zc6 k v (by omega) f4 q
    rw [Zka hp hq] at hl hin hend⊢
    rw [dp_4]
    generalize hA:cdX y o=A at*
    generalize hB:cdX z (o+A.length)=B at*
    generalize hC:cdX u p=C at*
    generalize hE:cdX v q=F at*
    simp only [List.length_append,List.length_cons,List.length_nil] at hl hin hend⊢
    obtain ⟨n0,hn⟩:∃n0,n0=A.length+B.length+(C.length+(F.length+1)+1+1):=⟨_,rfl⟩
    rw [<-hn] at hl hin hend⊢
    obtain ⟨D1,e1,l1,g1,k1⟩:=i1 (o:=o) (m:=m) hlen (by rw [hA];omega) hd hd0 hdm (fun j h1 h2=>hin j h1 (by rw [hA] at h2;omega)) (.inl (hin _ (by rw [hA];omega) (by rw [hA];omega)))
    rw [hA] at e1 g1 k1
    obtain ⟨m1,hm1,b1,b1'⟩:=Uc m (d+dpX y)
    replace hm1:=PLift.up hm1
    rw [hm1.down] at e1
    obtain ⟨D2,e2,l2,g2,k2⟩:=i2 (o:=o+A.length) (m:=m1) l1 (by rw [hB];omega) g1 (by omega) (by omega) (fun j h1 h2=>by rw [k1 j h1];exact hin j (by omega) (by rw [hB] at h2;omega)) (.inl (by rw [hB,k1 _ (by omega)];exact hin _ (by omega) (by omega)))
    rw [hB] at e2 g2 k2
    obtain ⟨m2,hm2,b2,b2'⟩:=Uc m1 (d+1+dpX z)
    replace hm2:=PLift.up hm2
    rw [hm2.down] at e2
    have old2:∀j,o+A.length+B.length<j->D2.getD j 0=D.getD j 0:=fun j hj=>by rw [k2 j hj,k1 j (by omega)]
    have hr1:=Zat (x:=iOp 11) (m:=m2) l2 (by omega) g2 (by omega) (by show (2:Int)<=_;omega) (a:=d+1) (by show d+1=d+1+1-2+1;omega) (by decide) (.inl (by rw [old2 _ (by omega)];exact hin _ (by omega) (by omega)))
    obtain ⟨D3,hD3⟩:∃D3,D3=D2.set (o+A.length+B.length+1) (d+1):=⟨_,rfl⟩
    rw [<-hD3] at hr1
    have l3:D3.length=len:=by rw [hD3,List.length_set];exact l2
    have g3:D3.getD (o+A.length+B.length+1) 0=d+1:=by rw [hD3,Zp,if_pos ⟨rfl,by omega⟩]
    have old3:∀j,o+A.length+B.length+1<j->D3.getD j 0=D.getD j 0:=fun j hj=>by rw [hD3,Zp,if_neg (by omega),old2 j (by omega)]
    have hr2:=Zmg (i:=o+A.length+B.length+1) (q:=q) (m:=max (max m2 (d+1+1)) (d+1)) l3 (by omega) (by omega) g3 hd0 (.inl (by rw [old3 _ (by omega)];exact hin _ (by omega) (by omega))) (.inl (by rw [old3 _ (by omega)];exact hin _ (by omega) (by omega)))
    obtain ⟨D4,hD4⟩:∃D4,D4=(D3.set q d).set (o+A.length+B.length+1+1) d:=⟨_,rfl⟩
    rw [<-hD4] at hr2
    have l4:D4.length=len:=by rw [hD4,List.length_set,List.length_set];exact l3
    have g4:D4.getD p 0=d:=by rw [hD4,Zp,if_pos ⟨by omega,by rw [List.length_set];omega⟩]
    have g4q:D4.getD q 0=d:=by rw [hD4,Zp,if_neg (by omega),Zp,if_pos ⟨rfl,by omega⟩]
    have old4:∀j,p<j->j≠q->D4.getD j 0=D.getD j 0:=fun j hj hne=>by rw [hD4,Zp,if_neg (by omega),Zp,if_neg (by omega),old3 j (by omega)]
    obtain ⟨m4,hm4,b4,b4'⟩:=Uc (max (max m2 (d+1+1)) (d+1)) (d+1)
    clear b4
    replace hm4:=PLift.up hm4
    rw [hm4.down] at hr2
    obtain ⟨D5,e5,l5,g5,k5⟩:=i3 (o:=p) (m:=m4) l4 (by rw [hC];omega) g4 hd0 (by omega) (fun j h1 h2=>by rw [old4 j h1 (by rw [hC] at h2;omega)];exact hin j (by omega) (by rw [hC] at h2;omega)) (.inl (by rw [hC,old4 _ (by omega) (by omega)];exact hin _ (by omega) (by omega)))
    rw [hC] at e5 g5 k5
    obtain ⟨m5,hm5,b5,b5'⟩:=Uc m4 (d+dpX u)
    replace hm5:=PLift.up hm5
    rw [hm5.down] at e5
    have hend':D5.getD (q+F.length) 0<0\/D5.getD (q+F.length) 0=d+1:=by
     rw [k5 _ (by omega),old4 _ (by omega) (by omega),show q+F.length=o+n0 by omega];exact hend
    have hr3:=Zu0 (i:=p+C.length) (e:=q+F.length) (m:=m5) l5 (by omega) (by omega) g5 (by omega) hend'
    obtain ⟨D6,hD6⟩:∃D6,D6=D5.set (q+F.length) (d+1):=⟨_,rfl⟩
    rw [<-hD6] at hr3
    have l6:D6.length=len:=by rw [hD6,List.length_set];exact l5
    have old6:∀j,q+F.length≠j->D6.getD j 0=D5.getD j 0:=fun j hj=>by rw [hD6,Zp,if_neg (by omega)]
    have g6e:D6.getD (q+F.length) 0=d+1:=by rw [hD6,Zp,if_pos ⟨rfl,by omega⟩]
    have g6q:D6.getD q 0=d:=by rw [old6 _ (by omega),k5 _ (by omega),g4q]
    obtain ⟨D7,e7,l7,g7,k7⟩:=i4 (o:=q) (m:=max m5 (d+1)) l6 (by rw [hE];omega) g6q hd0 (by omega) (fun j h1 h2=>by rw [old6 _ (by rw [hE] at h2;omega),k5 _ (by omega),old4 _ (by omega) (by omega)];exact hin j (by omega) (by rw [hE] at h2;omega)) (.inr (by rw [hE];exact g6e))
    rw [hE] at e7 g7 k7
    refine ⟨D7,?_,l7,by rw [show o+n0=q+F.length by omega];exact g7,fun j hj=> ?_⟩
    · rw [List.append_assoc,Xc e1,Xc e2,Yq hr1,Yq hr2,show o+A.length+B.length+1+1=p by omega,Xc e5,Yq hr3,show p+C.length+1=q by omega,e7]
      obtain ⟨K,hK,c1,c2,c3,c4,c5⟩:=Zoq (dpX y) (dpX z) (dpX u) (dpX v)
      rw [hK,<-hm5.down,<-hm4.down,<-hm2.down,<-hm1.down]
      rw [max8 c1 c2 c3 c4 c5 p1 p2]
    · rw [k7 _ (by omega),old6 _ (by omega),k5 _ (by omega),old4 _ (by omega) (by omega)]
end
section
open Go.RowKit
section
variable {Y:Thy} {E:Eng Y}
end
end
section
open Go
end
section
open Go
def exA (x:Ex):SV thy:= .agg (encF false .exprs x)
def dExp:DcL E (Ex×Unit):= .cons (dR .exprs) .nil
def Z1a:DcL E (Ex×Int×Unit):= .cons (dR .exprs) (.cons (dInt (E:=E) .i64) .nil)
theorem Za9 {α:Type} {l:List α} {k:Nat} {y:α} (h:l[k]? =some y):l.drop k=y::l.drop (k+1):=by
 have hk:=(gA9.1 h).1
 rw [List.drop_eq_getElem_cons hk];congr 1;exact (gA9.1 h).2
theorem Vc {α:Type} {l:List α} {k:Nat} (h:l.length<=k):l.drop k= []:=List.drop_eq_nil_of_le h
def Z2m (m:Nat):Sum thy:=sumP dExp (fun x=>x.1.sz<m) fun x=> .int false .i64 (Y0 x.1:Int)
def Z2n:Fr thy->Hp thy->Nat->Ann thy:=fun T h i=>{X:=DX,fr:=fun x=> [(3,.int false .i64 x.j),(7,T 7),(8,T 8),(9,.int false .i64 x.k)],bl:=fun x=> [],src:=fun _=> [],md:= [],ih:=i,M:=i+30,meas:=fun x=>x.r}
def Z1b (m:Nat):Fns thy:=addL (addS F0 25 (Z2m m)) 25 3 Z2n E
theorem Zsz (m:Nat) (x:Ex) (v:Int):Zw E F0 (vc E (Z1b m) 400) 25 [exA x] hp0 0 (fun r=>ret E (patch hp0 0 r) r.v (.int false .i64 v))=(
∃(R:DX->Prop),(∃(x_1:DX),R x_1/\true=true/\((0:Int)=DX.j x_1/\(Ex.l x=Ex.l x/\(false=true->false=true))/\(↑(List.length (Ex.l x)):Int)=(↑(List.length (Ex.l x)):Int)/\(0:Int)=(↑(DX.k x_1):Int)/\True)/\True)/\∀(x_1:DX),R x_1->(decide ((↑(DX.k x_1):Int)<(↑(List.length (Ex.l x)):Int))=true->(0:Int)<=(↑(DX.k x_1):Int)/\(↑(DX.k x_1):Int)+(1:Int)<=(↑(List.length (Ex.l x)):Int)/\∀(x_2:Ex),(Ex.l x)[Int.toNat (↑(DX.k x_1):Int)]? =some x_2->Ex.sz (Ex.mk (Ex.op x_2) (Ex.n x_2) (Ex.d0 x_2) (Ex.d1 x_2) (Ex.d2 x_2) (Ex.d3 x_2) (Ex.l x_2))+(1:Nat)<=m/\∃(x':DX),R x'/\x'.2+(1:Nat)<=x_1.2/\true=true/\(mm2 true (DX.j x_1) (↑(Y0 (Ex.mk (Ex.op x_2) (Ex.n x_2) (Ex.d0 x_2) (Ex.d1 x_2) (Ex.d2 x_2) (Ex.d3 x_2) (Ex.l x_2))):Int)=DX.j x'/\(Ex.l x=Ex.l x/\(false=true->false=true))/\(↑(List.length (Ex.l x)):Int)=(↑(List.length (Ex.l x)):Int)/\wr IntKind.i64 ((↑(DX.k x_1):Int)+(1:Int))=(↑(DX.k x'):Int)/\True)/\True)/\(decide ((↑(DX.k x_1):Int)<(↑(List.length (Ex.l x)):Int))=false->wr IntKind.i64 (DX.j x_1+(1:Int))=v)):=by kernel_rfl
theorem Zpw {l:List Ex} {k:Nat} {y:Ex} (h:l[k]? =some y):Zbl (l.drop k)=max (Y0 y) (Zbl (l.drop (k+1))):=by rw [Za9 h,Zbl]
theorem Zv6:∀(m:Nat) (x:Ex),x.sz<=m->m<=1000000000000->PureC E 25 [exA x] (.int false .i64 (Y0 x:Int)):=by
 intro m
 induction m with
 |zero=>intro x h;have:=x.sz_pos;omega
 |succ m ih=>
  intro x hm hb
  have hF:FnsOk E (Z1b (m+1)):=Yn E_ok (Zh F0_ok (Zs E_ok (Zk (f:=25) rfl) fun x h=>ih x.1 (by omega) (by omega))) _ _ _
  refine Zc E_ok (Xs E_ok F0_ok fun f N c=>(Zf2 E_ok hF 400 f N c).1) ?_
  rw [Zsz]
  simp only [Z4,Zt,Xx,Xy,Xz,beq_iff_eq,bne_iff_ne,beq_eq_false_iff_ne,bne_eq_false_iff_eq,decide_eq_true_eq,decide_eq_false_iff_not,Bool.or_eq_true,Bool.or_eq_false_iff,Bool.not_eq_true',Bool.not_eq_false',Bool.and_eq_true,Bool.and_true,Bool.true_and,Bool.and_eq_false_iff,beq_self_eq_true,Z0,Yc,ne_eq,and_true,true_and,Bool.true_eq_false,Bool.false_eq_true,false_or,or_false,true_implies,imp_self,Int.ofNat_eq_natCast,not_true_eq_false,not_false_eq_true,Decidable.not_not,Ex.eta]
  have hsz:=x.sz_eq
  have hlen:=Ex.szL_len x.l
  have hnx:=Uh x
  have hns:=Zm4 x
  refine ⟨fun y=>y.k<=x.l.length/\0<=y.j/\max y.j (Zbl (x.l.drop y.k):Int)=(Zbl x.l:Int)/\y.r=x.l.length-y.k,⟨⟨0,x.l.length,[],[],0,0,0,0⟩,⟨(by dsimp only;omega),(by dsimp only;omega),by dsimp only;rw [List.drop_zero];omega,rfl⟩,rfl,rfl⟩,?_⟩
  rintro y ⟨hk,hj1,hv,hr⟩
  refine And.intro (fun hq=> ?_) (fun hq=> ?_)
  · refine ⟨by omega,by omega,fun z hz=> ?_⟩
    have hz:x.l[y.k]? =some z:=hz
    have hzs:=Ex.sz_mem (List.mem_of_getElem? hz)
    rw [Zpw hz] at hv
    rw [wr64 (n:=(y.k:Int)+1) (by omega) (by omega)]
    exact ⟨by omega,⟨y.k+1,x.l.length-(y.k+1),[],[],0,0,0,max y.j (Y0 z:Int)⟩,⟨(by dsimp only;omega),(by dsimp only;omega),(by dsimp only;omega),rfl⟩,by show x.l.length-(y.k+1)+1<=y.r;omega,rfl,rfl⟩
  · rw [Vc (by omega)] at hv
    simp only [Zbl] at hv
    rw [wr64 (by omega) (by omega)]
    omega
def dimA (a b c d:Int):SV thy:= .agg [.int false .i64 a,.int false .i64 b,.int false .i64 c,.int false .i64 d]
structure WX where
 k:Nat
 r:Nat
 m:List (Int×Int)
def Z2o:Fr thy->Hp thy->Nat->Ann thy:=fun T h i=>{X:=WX,fr:=fun x=> [(3,T 3),(7,T 7),(8,.int false .i64 x.k)],bl:=fun x=> [(bOf (T 3),.map (Xe .i64 (X0 E Th.ints false) x.m))],src:=fun _=> [],md:= [bOf (T 3)],ih:=i,M:=i+30,meas:=fun x=>x.r}
def Zzk:Fns thy:=addL F0 40 3 Z2o E
abbrev qBS1:=(X0 E Th.ints (Zf (TypeDesc.int IntKind.i64)))
abbrev qBS4:=(0:Int)
abbrev qBS2 (a0:Int) (b0:Int) (c0:Int) (d0:Int):=(List.getD [a0,b0,c0,d0] (0:Nat) qBS4=List.getD [a0,b0,c0,d0] (0:Nat) qBS4/\List.getD [a0,b0,c0,d0] (1:Nat) qBS4=List.getD [a0,b0,c0,d0] (1:Nat) qBS4/\List.getD [a0,b0,c0,d0] (2:Nat) qBS4=List.getD [a0,b0,c0,d0] (2:Nat) qBS4/\List.getD [a0,b0,c0,d0] (3:Nat) qBS4=List.getD [a0,b0,c0,d0] (3:Nat) qBS4/\True)
abbrev qBS3:=(X0 E Th.ints false)
abbrev qBS5 (a0:WX):=(↑(WX.k a0):Int)
abbrev qBS6:=(1:Int)
theorem Zs0 (a b c d:Int) (v:Bool):Zw E Zzk (vc E Zzk 400) 40 [dimA a b c d] hp0 0 (fun r=>ret E (patch hp0 0 r) r.v (.bool false v))=(
 (4:Nat)=(4:Nat)/\∃(R:WX->Prop),(∃(x:WX),R x/\true=true/\(True/\(qBS2 a b c d)/\qBS4=(qBS5 x)/\True)/\([]=Xe IntKind.i64 qBS3 (WX.m x)/\true=true)/\True)/\∀(x:WX),R x->(decide ((qBS5 x)<(4:Int))=true->qBS4<=(qBS5 x)/\(qBS5 x)+qBS6<=(↑(4:Nat):Int)/\∀(y:Int),[List.getD [a,b,c,d] (0:Nat) qBS4,List.getD [a,b,c,d] (1:Nat) qBS4,List.getD [a,b,c,d] (2:Nat) qBS4,List.getD [a,b,c,d] (3:Nat) qBS4][Int.toNat (qBS5 x)]? =some y->∃(l:List (Int×Int)),Xe IntKind.i64 qBS3 (WX.m x)=Xe IntKind.i64 qBS1 l/\∀(y_1:Int),y_1=Option.getD (Yw l y) qBS4->∃(l:List (Int×Int)),Xe IntKind.i64 qBS3 (WX.m x)=Xe IntKind.i64 qBS1 l/\∃(x':WX),R x'/\x'.2+(1:Nat)<=x.2/\true=true/\(True/\(qBS2 a b c d)/\wr IntKind.i64 ((qBS5 x)+qBS6)=(qBS5 x')/\True)/\(Xe IntKind.i64 qBS1 (putS l y (wr IntKind.i64 (y_1+qBS6)))=Xe IntKind.i64 qBS3 (WX.m x')/\nidE (0:Nat) (Xe IntKind.i64 qBS1 (putS l y (wr IntKind.i64 (y_1+qBS6))))=true)/\True)/\(decide ((qBS5 x)<(4:Int))=false->∃(l:List (Int×Int)),Xe IntKind.i64 qBS3 (WX.m x)=Xe IntKind.i64 qBS1 l/\∀(y:Int),y=Option.getD (Yw l qBS4) qBS4->∃(l:List (Int×Int)),Xe IntKind.i64 qBS3 (WX.m x)=Xe IntKind.i64 qBS1 l/\∀(y_1:Int),y_1=Option.getD (Yw l qBS6) qBS4->∃(l:List (Int×Int)),Xe IntKind.i64 qBS3 (WX.m x)=Xe IntKind.i64 qBS1 l/\∀(y_2:Int),y_2=Option.getD (Yw l (-1:Int)) qBS4->((wr IntKind.i64 (wr IntKind.i64 (y+y_1)+y_2)==(4:Int))=true->∃(l:List (Int×Int)),Xe IntKind.i64 qBS3 (WX.m x)=Xe IntKind.i64 qBS1 l/\∀(y:Int),y=Option.getD (Yw l qBS6) qBS4->(decide (y<=qBS6)=true->∃(l:List (Int×Int)),Xe IntKind.i64 qBS3 (WX.m x)=Xe IntKind.i64 qBS1 l/\∀(y:Int),y=Option.getD (Yw l (-1:Int)) qBS4->(decide (y<=qBS6)=true->true=v)/\(decide (y<=qBS6)=false->false=v))/\(decide (y<=qBS6)=false->false=v))/\((wr IntKind.i64 (wr IntKind.i64 (y+y_1)+y_2)==(4:Int))=false->false=v))):=by kernel_rfl
theorem Zv7 {u:List Int} {k:Nat} {y n:Int} (h:u[k]? =some y):cnt (u.take (k+1)) n=cnt (u.take k) n+(if y=n then 1 else 0):=by
 have hk:=(gA9.1 h).1
 have:u.take (k+1)=u.take k++ [y]:=by rw [List.take_succ_eq_append_getElem hk];congr 2;exact (gA9.1 h).2
 unfold cnt
 rw [this,List.filter_append,List.length_append]
 by_cases e:y=n<;>simp [e]
theorem Zni (u:List Int) (n:Int):cnt u n<=u.length:=List.length_filter_le _ _
theorem Zv8:FnsOk E Zzk:=Yn E_ok F0_ok _ _ _
theorem Zs1 (a b c d:Int):PureC E 40 [dimA a b c d] (.bool false (Ziq [a,b,c,d])):=by
 refine Zc E_ok (Zn E_ok Zv8 400) ?_
 rw [Zs0];delta qBS1 qBS4 qBS2 qBS3 qBS5 qBS6
 simp only [Z4,Zt,Xx,Xy,Xz,beq_iff_eq,bne_iff_ne,beq_eq_false_iff_ne,bne_eq_false_iff_eq,decide_eq_true_eq,decide_eq_false_iff_not,Bool.or_eq_true,Bool.or_eq_false_iff,Bool.not_eq_true',Bool.not_eq_false',Bool.and_eq_true,Bool.and_true,Bool.true_and,Bool.and_eq_false_iff,beq_self_eq_true,Z0,Yc,ne_eq,and_true,true_and,Bool.true_eq_false,Bool.false_eq_true,false_or,or_false,true_implies,imp_self,Int.ofNat_eq_natCast,not_true_eq_false,not_false_eq_true,Decidable.not_not]
 have hc:∀k n,k<=4->cnt ([a,b,c,d].take k) n<=4:=fun k n hk=>Nat.le_trans (Zni _ _) (by simp;omega)
 refine ⟨fun x=>x.k<=4/\(∀n,(Yw x.m n).getD 0=(cnt ([a,b,c,d].take x.k) n:Int))/\x.r=4-x.k,⟨⟨0,4,[]⟩,⟨(by dsimp only;omega),fun n=>rfl,rfl⟩,rfl,rfl⟩,?_⟩
 rintro x ⟨hk,hm,hr⟩
 refine And.intro (fun hq=>⟨by omega,by omega,fun y hy=>⟨x.m,rfl,fun y1 h1=>⟨x.m,rfl,?_⟩⟩⟩) (fun hq=> ?_)
 · have hy: [a,b,c,d][x.k]? =some y:=hy
   have:=hc x.k y (by omega)
   rw [hm y] at h1
   rw [wr64 (n:=(x.k:Int)+1) (by omega) (by omega),wr64 (n:=y1+1) (by omega) (by omega)]
   refine ⟨⟨x.k+1,3-x.k,putS x.m y (y1+1)⟩,⟨by show x.k+1<=4;omega,fun n=> ?_,by show 3-x.k=4-(x.k+1);omega⟩,by show 3-x.k+1<=x.r;omega,rfl,rfl,Zff E_ok _⟩
   show (Yw (putS x.m y (y1+1)) n).getD 0=(cnt ([a,b,c,d].take (x.k+1)) n:Int)
   rw [Zdf,Zv7 hy]
   by_cases e:y=n
   · subst e;rw [if_pos rfl,if_pos rfl,h1];simp
   · rw [if_neg e,if_neg e,hm n];simp
 · have hk4:x.k=4:=by omega
   have hm:∀n,(Yw x.m n).getD 0=(cnt [a,b,c,d] n:Int):=fun n=>by rw [hm n,hk4];rfl
   have h0:=Zni [a,b,c,d] 0
   have h1:=Zni [a,b,c,d] 1
   have h2:=Zni [a,b,c,d] (-1)
   simp only [List.length_cons,List.length_nil] at h0 h1 h2
   refine ⟨x.m,rfl,fun y hy=>⟨x.m,rfl,fun y1 hy1=>⟨x.m,rfl,fun y2 hy2=> ?_⟩⟩⟩
   rw [hm] at hy hy1 hy2
   rw [wr64 (n:=y+y1) (by omega) (by omega),wr64 (n:=y+y1+y2) (by omega) (by omega)]
   unfold Ziq
   refine And.intro (fun h3=>⟨x.m,rfl,fun z hz=> ?_⟩) (fun h3=> ?_)
   · rw [hm] at hz
     refine And.intro (fun h4=>⟨x.m,rfl,fun z2 hz2=> ?_⟩) (fun h4=> ?_)
     · rw [hm] at hz2
       refine And.intro (fun h5=> ?_) (fun h5=> ?_)
       · simp;omega
       · symm;simp only [Bool.and_eq_false_iff,decide_eq_false_iff_not];omega
     · symm;simp only [Bool.and_eq_false_iff,decide_eq_false_iff_not];omega
   · symm;simp only [Bool.and_eq_false_iff,decide_eq_false_iff_not];omega
end
section
open Go
def dA1 {α:Type} (d:Dc E α):DcL E (α×Unit):= .cons d .nil
def dA2 {α β:Type} (d:Dc E α) (e:Dc E β):DcL E (α×β×Unit):= .cons d (dA1 e)
def dS:Dc E (List Nat):=dStr
def dFun (f:Nat):Dc E Unit where
 dec v:=match v with| .fn (.func g) [] []=>(match Nat.beq g f with|true=>some ()|false=>none)|_=>none
 enc _:= .fn (.func f) [] []
 ok v a h:=by
  split at h
  · split at h
    · rename_i e
      obtain rfl:=gC9 e
      exact ⟨rfl,rfl,fun _ _ _ h=>h⟩
    · cases h
  · cases h
def eqL:List Nat->List Nat->Bool
 | [],[]=>true
 |x::r,y::l=>Nat.beq x y&&eqL r l
 |_,_=>false
theorem Zw3:∀{a b:List Nat},eqL a b=true->a=b
 | [],[],_=>rfl
 |x::r,y::l,h=>by
  simp only [eqL,Bool.and_eq_true] at h
  rw [gC9 h.1,Zw3 h.2]
 | [],_::_,h=>by cases h
 |_::_,[],h=>by cases h
def dKs (c:List Nat):Dc E Unit where
 dec v:=match v with| .str true s=>(match eqL s c with|true=>some ()|false=>none)|_=>none
 enc _:= .str true c
 ok v a h:=by
  split at h
  · split at h
    · rename_i e
      rw [Zw3 e]
      exact ⟨rfl,rfl,fun _ _ _ h=>h⟩
    · cases h
  · cases h
theorem Zjv {σ:Pl} {g:GH} {l:Bool} {s:List Nat} {u:Value} (h:Den E σ g (.str l s) u):Byt s:=by
 cases h
 rename_i b hb
 subst hb
 exact Zlg b
theorem Zt5 {f:FuncId} {args:List (SV thy)} {v:SV thy} {j:Nat} {l:Bool} {s:List Nat} (hj:args[j]? =some (.str l s)) (h:Byt s->PureC E f args v):PureC E f args v:=by
 intro g w vals hI hd
 have hlt:j<vals.toList.length:=by rw [<-hd.1];exact (gA9.1 hj).1
 exact h (Zjv (hd.2 j _ _ hj (gB9 hlt))) g w vals hI hd
theorem Zxu {P:Prop} {f:FuncId} {args:List (SV thy)} {v:SV thy} {j:Nat} {a:SV thy} (hj:args[j]? =some a) (hP:∀g u,Den E σ0 g a u->P) (h:P->PureC E f args v):PureC E f args v:=by
 intro g w vals hI hd
 have hlt:j<vals.toList.length:=by rw [<-hd.1];exact (gA9.1 hj).1
 exact h (hP g _ (hd.2 j _ _ hj (gB9 hlt))) g w vals hI hd
theorem Zt6 {g:GH} {th:Th} {l:List (domT th)} {f:Bool} {u:Value} (h:Den E σ0 g (.psl th l f) u):∀x∈l,∀(j:Nat) sv,(encF false th x)[j]? =some sv->∃v,Den E σ0 g sv v:=by
 cases h
 rename_i hd _
 intro x hx j sv hj
 obtain ⟨i,hi⟩:=List.getElem?_of_mem hx
 exact ⟨_,hd i x hi j sv hj⟩
theorem Ze5 {v1:SV thy} {s:List Nat} {f:SV thy->Prop} {z:Prop}:∀{ks:List (List Nat)},(∀k∈ks,Byt k)->(s∈ks->f v1)->(s∉ks->z)->X5 false (.str false s) (ks.map fun k=>(Value.string (mkS k),v1)) f z
 | [],_,_,h2=>h2 (by simp)
 |k::ks,hb,h1,h2=>by
  rw [List.map_cons]
  unfold X5
  have hk:toL (mkS k)=k:=hb k (List.mem_cons_self ..)
  simp only [hk]
  refine ⟨fun e=> ?_,fun e=> ?_⟩
  · exact h1 (by rw [eq_of_beq e];exact List.mem_cons_self ..)
  · have e:=ne_of_beq_false e
    exact Ze5 (fun k hk=>hb k (List.mem_cons_of_mem _ hk)) (fun h=>h1 (List.mem_cons_of_mem _ h)) (fun h=>h2 fun h'=>by
     rcases List.mem_cons.1 h' with h'|h'
     · exact e h'
     · exact h h')
theorem Zz8 {g:GH} {a b:SV thy} {vals:Array Value} (h:DenL E σ0 g [a,b] vals.toList):∃u v,vals= #[u,v]/\Den E σ0 g a u/\Den E σ0 g b v:=by
 obtain ⟨l⟩:=vals
 obtain ⟨h1,h2⟩:=h
 match l,h1,h2 with
 | [u,v],_,h2=>exact ⟨u,v,rfl,h2 0 a u rfl rfl,h2 1 b v rfl rfl⟩
theorem Zt7 {g:GH} {l:List UInt8}:Den E σ0 g (.str false (l.map UInt8.toNat)) (.string ⟨l.toArray⟩):= .str _ (by simp [toL])
end
section
open Go
def dDim:DcL E (List Int×Unit):=dA1 (dR .dims)
def Z04:Sum thy:=sumP dDim (fun _=>True) fun x=> .bool false (Ziq [x.1.getD 0 0,x.1.getD 1 0,x.1.getD 2 0,x.1.getD 3 0])
theorem Zv0:SumOk E 40 Z04:=Zs E_ok (Zk (f:=40) rfl) fun x _=>Zs1 _ _ _ _
def Z2g (m:Nat):Sum thy:=sumP dExp (fun x=>x.1.sz<m) fun x=> .bool false (Zo x.1)
def Z2h:Dc E (List Ex):=(Zse (E:=E) Th.exprs:Dc E (List (thy.dom Th.exprs)))
def Z2i (m:Nat):Sum thy:=sumP (dA2 Z2h (dFun 42)) (fun x=>Ex.szL x.1<m) fun x=> .bool false (!Vz x.1)
def Aidx:Fr thy->Hp thy->Nat->Ann thy:=fun T h i=>{X:=DX,fr:=fun x=> [(0,T 0),(1,T 1),(7,T 7),(8,.int false .i64 x.k)],bl:=fun x=> [],src:=fun _=> [],md:= [],ih:=i,M:=i+30,meas:=fun x=>x.r}
def Zzd (m:Nat):Fns thy:=addL (addS F0 24 (Z2g m)) 72 2 Aidx E
theorem Zsr (m:Nat) (l:List Ex) (v:Bool):Zw E (Zzd m) (vc E (Zzd m) 400) 41 [.psl Th.exprs l false,.fn (.func 42) [] []] hp0 0 (fun r=>ret E (patch hp0 0 r) r.v (.bool false v))=(
∃(R:DX->Prop),(∃(x:DX),R x/\true=true/\((l=l/\(false=true->false=true))/\(Fn.func (42:FuncId)=Fn.func (42:FuncId)/\True/\True)/\(↑(List.length l):Int)=(↑(List.length l):Int)/\(0:Int)=(↑(DX.k x):Int)/\True)/\True)/\∀(x:DX),R x->(decide ((↑(DX.k x):Int)<(↑(List.length l):Int))=true->(0:Int)<=(↑(DX.k x):Int)/\(↑(DX.k x):Int)+(1:Int)<=(↑(List.length l):Int)/\∀(x_1:Ex),l[Int.toNat (↑(DX.k x):Int)]? =some x_1->Ex.sz (Ex.mk (Ex.op x_1) (Ex.n x_1) (Ex.d0 x_1) (Ex.d1 x_1) (Ex.d2 x_1) (Ex.d3 x_1) (Ex.l x_1))+(1:Nat)<=m/\((!Zo (Ex.mk (Ex.op x_1) (Ex.n x_1) (Ex.d0 x_1) (Ex.d1 x_1) (Ex.d2 x_1) (Ex.d3 x_1) (Ex.l x_1)))=true->(decide ((↑(DX.k x):Int)>=(0:Int))=true->true=v)/\(decide ((↑(DX.k x):Int)>=(0:Int))=false->false=v))/\((!Zo (Ex.mk (Ex.op x_1) (Ex.n x_1) (Ex.d0 x_1) (Ex.d1 x_1) (Ex.d2 x_1) (Ex.d3 x_1) (Ex.l x_1)))=false->∃(x':DX),R x'/\x'.2+(1:Nat)<=x.2/\true=true/\((l=l/\(false=true->false=true))/\(Fn.func (42:FuncId)=Fn.func (42:FuncId)/\True/\True)/\(↑(List.length l):Int)=(↑(List.length l):Int)/\wr IntKind.i64 ((↑(DX.k x):Int)+(1:Int))=(↑(DX.k x'):Int)/\True)/\True))/\(decide ((↑(DX.k x):Int)<(↑(List.length l):Int))=false->false=v)):=by kernel_rfl
theorem Zss (m:Nat) (hm:m<=1000000000000) (ih:∀x:Ex,x.sz<m->PureC E 24 [exA x] (.bool false (Zo x))) (l:List Ex) (hl:Ex.szL l<m):PureC E 41 [.psl Th.exprs l false,.fn (.func 42) [] []] (.bool false (!Vz l)):=by
 have hF:FnsOk E (Zzd m):=Yn E_ok (Zh F0_ok (Zs E_ok (Zk (f:=24) rfl) fun x h=>ih x.1 h)) _ _ _
 refine Zc E_ok (Zn E_ok hF 400) ?_
 rw [Zsr]
 simp only [Z4,Zt,Xx,Xy,Xz,beq_iff_eq,bne_iff_ne,beq_eq_false_iff_ne,bne_eq_false_iff_eq,decide_eq_true_eq,decide_eq_false_iff_not,Bool.or_eq_true,Bool.or_eq_false_iff,Bool.not_eq_true',Bool.not_eq_false',Bool.and_eq_true,Bool.and_true,Bool.true_and,Bool.and_eq_false_iff,beq_self_eq_true,Z0,Yc,ne_eq,and_true,true_and,Bool.true_eq_false,Bool.false_eq_true,false_or,or_false,true_implies,imp_self,Int.ofNat_eq_natCast,not_true_eq_false,not_false_eq_true,Decidable.not_not,Ex.eta]
 have hlen:=Ex.szL_len l
 refine ⟨fun x=>x.k<=l.length/\Vz (l.drop x.k)=Vz l/\x.r=l.length-x.k,⟨⟨0,l.length,[],[],0,0,0,0⟩,⟨(by dsimp only;omega),rfl,rfl⟩,rfl⟩,?_⟩
 rintro x ⟨hk,hv,hr⟩
 refine And.intro (fun hq=>⟨by omega,by omega,fun y hy=> ?_⟩) (fun hq=> ?_)
 · have hy:l[x.k]? =some y:=hy
   rw [Zpb hy] at hv
   have hys:=Ex.szL_mem (List.mem_of_getElem? hy)
   refine ⟨by omega,fun h1=> ?_,fun h1=> ?_⟩
   · rw [h1] at hv
     rw [<-hv]
     exact And.intro (fun _=>rfl) (fun h=>by omega)
   · rw [h1,Bool.true_and] at hv
     exact ⟨⟨x.k+1,l.length-(x.k+1),[],[],0,0,0,0⟩,⟨(by dsimp only;omega),hv,rfl⟩,by show l.length-(x.k+1)+1<=x.r;omega,wr64 (by omega) (by omega)⟩
 · rw [Vc (by omega)] at hv
   rw [<-hv];rfl
def Zze (m:Nat):Fns thy:=addS (addS F0 41 (Z2i m)) 40 Z04
abbrev qBU4:=(0:Int)
abbrev qBU7 (a0:Ex):=(!(Ex.d0 a0==qBU4&&(Ex.d1 a0==qBU4&&(Ex.d2 a0==qBU4&&(Ex.d3 a0==qBU4&&true)))))
abbrev qBU2 (a0:Ex):=(!Ziq [List.getD [Ex.d0 a0,Ex.d1 a0,Ex.d2 a0,Ex.d3 a0] (0:Nat) qBU4,List.getD [Ex.d0 a0,Ex.d1 a0,Ex.d2 a0,Ex.d3 a0] (1:Nat) qBU4,List.getD [Ex.d0 a0,Ex.d1 a0,Ex.d2 a0,Ex.d3 a0] (2:Nat) qBU4,List.getD [Ex.d0 a0,Ex.d1 a0,Ex.d2 a0,Ex.d3 a0] (3:Nat) qBU4])
abbrev qBU1 (a0:Ex) (b0:Bool) (c0:Nat):=((qBU2 a0)=false->((Ex.op a0 !=(1:Int))=true->((qBU7 a0)=true->false=b0)/\((qBU7 a0)=false->Ex.szL (Ex.l a0)+(1:Nat)<=c0/\(!!Vz (Ex.l a0))=b0))/\((Ex.op a0 !=(1:Int))=false->Ex.szL (Ex.l a0)+(1:Nat)<=c0/\(!!Vz (Ex.l a0))=b0))
abbrev qBU3 (a0:Ex):=(↑(List.length (Ex.l a0)):Int)
abbrev qBU5 (a0:Ex) (b0:Bool->Prop):=((decide (Ex.op a0<(1:Int))=true->b0 true)/\(decide (Ex.op a0<(1:Int))=false->(decide (Ex.op a0>(11:Int))=true->b0 true)/\(decide (Ex.op a0>(11:Int))=false->b0 false)))
abbrev qBU6 (a0:Ex) (b0:Bool):=(decide (Ex.n a0<qBU4)=true->false=b0)
theorem Zst (m:Nat) (x:Ex) (v:Bool):Zw E (Zze m) (vc E (Zze m) 400) 24 [exA x] hp0 0 (fun r=>ret E (patch hp0 0 r) r.v (.bool false v))=(
 ((Ex.op x==(1:Int))=true->(qBU6 x v)/\(decide (Ex.n x<qBU4)=false->(decide (Ex.n x>(1099511627776:Int))=true->false=v)/\(decide (Ex.n x>(1099511627776:Int))=false->(((qBU3 x) !=qBU4)=true->false=v)/\(((qBU3 x) !=qBU4)=false->True/\((qBU2 x)=true->false=v)/\(qBU1 x v m)))))/\((Ex.op x==(1:Int))=false->((Ex.op x==(2:Int))=true->(qBU6 x v)/\(decide (Ex.n x<qBU4)=false->(decide (Ex.n x>(15:Int))=true->false=v)/\(decide (Ex.n x>(15:Int))=false->(((qBU3 x) !=qBU4)=true->false=v)/\(((qBU3 x) !=qBU4)=false->True/\((qBU2 x)=true->false=v)/\(qBU1 x v m)))))/\((Ex.op x==(2:Int))=false->((Ex.op x==(11:Int))=true->∃(Q:Bool->Prop),(qBU5 x Q)/\(Q true->false=v)/\(Q false->(qBU6 x v)/\(decide (Ex.n x<qBU4)=false->(decide (Ex.n x>qBU4)=true->false=v)/\(decide (Ex.n x>qBU4)=false->(((qBU3 x) !=(4:Int))=true->false=v)/\(((qBU3 x) !=(4:Int))=false->True/\((qBU2 x)=true->false=v)/\(qBU1 x v m))))))/\((Ex.op x==(11:Int))=false->∃(Q:Bool->Prop),(qBU5 x Q)/\(Q true->false=v)/\(Q false->(qBU6 x v)/\(decide (Ex.n x<qBU4)=false->(decide (Ex.n x>qBU4)=true->false=v)/\(decide (Ex.n x>qBU4)=false->(((qBU3 x) !=(2:Int))=true->false=v)/\(((qBU3 x) !=(2:Int))=false->True/\((qBU2 x)=true->false=v)/\(qBU1 x v m))))))))):=by kernel_rfl
theorem Zi9 (x:Ex):Zo x=true↔(1<=x.op/\x.op<=11/\0<=x.n/\(x.op=1->x.n<=1099511627776)/\(x.op=2->x.n<=15)/\(x.op≠1->x.op≠2->x.n<=0)/\(x.op=1\/x.op=2->x.l.length=0)/\(x.op=11->x.l.length=4)/\(x.op≠1->x.op≠2->x.op≠11->x.l.length=2)/\
 (x.op=1\/(x.d0=0/\x.d1=0/\x.d2=0/\x.d3=0)))/\Ziq [x.d0,x.d1,x.d2,x.d3]=true/\Vz x.l=true:=by
 rw [Zgx]
 simp only [Zir,Bool.and_eq_true,Bool.or_eq_true,decide_eq_true_eq,Ex.u,List.cons.injEq,and_true]
 unfold Zpa Zy7
 constructor
 · rintro ⟨⟨⟨⟨⟨⟨⟨h1,h2⟩,h3⟩,h4⟩,h5⟩,h6⟩,h7⟩,h8⟩
   refine ⟨⟨h1,h2,h3,fun h=> ?_,fun h=> ?_,fun h h'=> ?_,fun h=> ?_,fun h=> ?_,fun h h' h''=> ?_,h7⟩,h6,h8⟩
   · rw [if_pos h] at h4;exact h4
   · rw [if_neg (by omega),if_pos h] at h4;exact h4
   · rw [if_neg h,if_neg h'] at h4;exact h4
   · rw [if_pos h] at h5;exact h5
   · rw [if_neg (by omega),if_pos h] at h5;exact h5
   · rw [if_neg (by omega),if_neg h''] at h5;exact h5
 · rintro ⟨⟨h1,h2,h3,h4,h5,h6,h7,h8,h9,h10⟩,h11,h12⟩
   refine ⟨⟨⟨⟨⟨⟨⟨h1,h2⟩,h3⟩,?_⟩,?_⟩,h11⟩,h10⟩,h12⟩
   · split
     · exact h4 ‹_›
     · split
       · exact h5 ‹_›
       · exact h6 ‹_› ‹_›
   · split
     · exact h7 ‹_›
     · split
       · exact h8 ‹_›
       · exact h9 (by omega) (by omega) ‹_›
theorem Zv1 {x:Ex} (h:((1<=x.op/\x.op<=11/\0<=x.n/\(x.op=1->x.n<=1099511627776)/\(x.op=2->x.n<=15)/\(x.op≠1->x.op≠2->x.n<=0)/\(x.op=1\/x.op=2->x.l.length=0)/\(x.op=11->x.l.length=4)/\(x.op≠1->x.op≠2->x.op≠11->x.l.length=2)/\
 (x.op=1\/(x.d0=0/\x.d1=0/\x.d2=0/\x.d3=0)))->Ziq [x.d0,x.d1,x.d2,x.d3]=true->False)):false=Zo x:=by
 symm;rw [Bool.eq_false_iff];intro h'
 have:=(Zi9 x).1 h'
 exact h this.1 this.2.1
theorem Zsu {x:Ex} {b:Bool} (hb:b=Vz x.l) (h:(1<=x.op/\x.op<=11/\0<=x.n/\(x.op=1->x.n<=1099511627776)/\(x.op=2->x.n<=15)/\(x.op≠1->x.op≠2->x.n<=0)/\(x.op=1\/x.op=2->x.l.length=0)/\(x.op=11->x.l.length=4)/\(x.op≠1->x.op≠2->x.op≠11->x.l.length=2)/\
 (x.op=1\/(x.d0=0/\x.d1=0/\x.d2=0/\x.d3=0)))) (hw:Ziq [x.d0,x.d1,x.d2,x.d3]=true):b=Zo x:=by
 rw [Bool.eq_iff_iff,Zi9,hb]
 exact ⟨fun h'=>⟨h,hw,h'⟩,fun h'=>h'.2.2⟩
theorem Zv2:∀(m:Nat),m<=1000000000000->∀(x:Ex),x.sz<m->PureC E 24 [exA x] (.bool false (Zo x)):=by
 intro m
 induction m with
 |zero=>intro _ x h;omega
 |succ m ih=>
  intro hb x hm
  have hF:FnsOk E (Zze m):=Zh (Zh F0_ok (Zs E_ok (Zk (f:=41) rfl) fun x h=>Zss m (by omega) (ih (by omega)) x.1 h)) Zv0
  refine Zc E_ok (Zn E_ok hF 400) ?_
  rw [Zst];delta qBU4 qBU7 qBU2 qBU1 qBU3 qBU5 qBU6
  have hsz:=x.sz_eq
  repeat' (first|exact Zk6 _|apply Zsf|apply JR_some|apply JR_and|apply Zsg|(refine And.intro ?_ ?_)|(intro h))
  all_goals (simp only [Z4,Zt,Xx,Xy,Xz,beq_iff_eq,bne_iff_ne,beq_eq_false_iff_ne,bne_eq_false_iff_eq,decide_eq_true_eq,decide_eq_false_iff_not,Bool.or_eq_true,Bool.or_eq_false_iff,Bool.not_eq_true',Bool.not_eq_false',Bool.and_eq_true,Bool.and_true,Bool.true_and,Bool.and_eq_false_iff,beq_self_eq_true,Z0,Yc,ne_eq,and_true,true_and,Bool.true_eq_false,Bool.false_eq_true,false_or,or_false,true_implies,imp_self,Int.ofNat_eq_natCast,not_true_eq_false,not_false_eq_true,Decidable.not_not,List.getD_cons_zero,List.getD_cons_succ] at*)
  all_goals first|trivial|omega|(exact Zv1 (fun h hw=>by first|omega|(simp_all;done)))|(exact Zsu (by simp) (by omega) (by simp_all))
end
end Go.Proofs.YtpepmaehafjfbaaDoor
/-
  DERIVED: THE SHELF's CONTRACTS AT THIS DUMP, IN PLAIN WORDS (tools/lay-plain.mjs out of 'YtpepmaehafjfbaaDoorTvLay0.lean', which tools/lay-shelf.mjs wrote): THE SAME DECLARATIONS UNDER THE SAME NAMES: 'import', 'namespace', 'open', 'def', 'theorem' AND NOTHING ELSE: no command of the shelf's: FOR A HAND-IN. Each laying: the table of numbers ('.._ren') and one theorem, a field a fact of the dump's own or the kernel's comparison; each contract: ONE APPLICATION.
-/
namespace Go.Proofs
open Go.Shelf
def Tryd.lays160_ren:Go.Shelf.Ren:=⟨fun|160=>39|232=>66|231=>65|227=>67|234=>69|233=>68|236=>71|235=>70|228=>84|271=>87|151=>86|197=>85|120=>94|152=>93|260=>92|137=>95|119=>96|224=>97|225=>98|217=>99|266=>100|n=>n,fun|9=>9|4=>4|3=>3|5=>5|117=>111|116=>110|0=>0|124=>114|21=>21|105=>134|46=>97|119=>142|139=>145|138=>144|n=>n,fun|3=>2|4=>3|n=>n⟩
theorem Tryd.lays160:Go.Proofs.Lays.n160 Tryd.prog Tryd.lays160_ren:={
  mixed:=by kernel_rfl
  f119:=Tryd.func96.trans (congrArg some (by kernel_rfl))
  f120:=Tryd.func94.trans (congrArg some (by kernel_rfl))
  f137:=Tryd.func95.trans (congrArg some (by kernel_rfl))
  f151:=Tryd.func86.trans (congrArg some (by kernel_rfl))
  f152:=Tryd.func93.trans (congrArg some (by kernel_rfl))
  f160:=Tryd.func39.trans (congrArg some (by kernel_rfl))
  f197:=Tryd.func85.trans (congrArg some (by kernel_rfl))
  f217:=Tryd.func99.trans (congrArg some (by kernel_rfl))
  f224:=Tryd.func97.trans (congrArg some (by kernel_rfl))
  f225:=Tryd.func98.trans (congrArg some (by kernel_rfl))
  f227:=Tryd.func67.trans (congrArg some (by kernel_rfl))
  f228:=Tryd.func84.trans (congrArg some (by kernel_rfl))
  f231:=Tryd.func65.trans (congrArg some (by kernel_rfl))
  f232:=Tryd.func66.trans (congrArg some (by kernel_rfl))
  f233:=Tryd.func68.trans (congrArg some (by kernel_rfl))
  f234:=Tryd.func69.trans (congrArg some (by kernel_rfl))
  f235:=Tryd.func70.trans (congrArg some (by kernel_rfl))
  f236:=Tryd.func71.trans (congrArg some (by kernel_rfl))
  f260:=Tryd.func92.trans (congrArg some (by kernel_rfl))
  f266:=Tryd.func100.trans (congrArg some (by kernel_rfl))
  f271:=Tryd.func87.trans (congrArg some (by kernel_rfl))
  t0:=Tryd.underlying0
  a0:=Tryd.isAgg0
  z0:=Tryd.sizeOf0
  v0:=Tryd.zeroValue0
  t3:=Tryd.underlying3
  a3:=Tryd.isAgg3
  z3:=Tryd.sizeOf3
  v3:=Tryd.zeroValue3
  t4:=Tryd.underlying4
  a4:=Tryd.isAgg4
  z4:=Tryd.sizeOf4
  v4:=Tryd.zeroValue4
  t5:=Tryd.underlying5
  a5:=Tryd.isAgg5
  z5:=Tryd.sizeOf5
  v5:=Tryd.zeroValue5
  t9:=Tryd.underlying9
  a9:=Tryd.isAgg9
  z9:=Tryd.sizeOf9
  v9:=Tryd.zeroValue9
  t21:=Tryd.underlying21
  a21:=Tryd.isAgg21
  z21:=Tryd.sizeOf21
  v21:=Tryd.zeroValue21
  t46:=Tryd.underlying97
  a46:=Tryd.isAgg97
  z46:=Tryd.sizeOf97
  v46:=Tryd.zeroValue97
  t105:=Tryd.underlying134
  a105:=Tryd.isAgg134
  z105:=Tryd.sizeOf134
  v105:=Tryd.zeroValue134
  t116:=Tryd.underlying110
  a116:=Tryd.isAgg110
  z116:=Tryd.sizeOf110
  t117:=Tryd.underlying111
  a117:=Tryd.isAgg111
  z117:=Tryd.sizeOf111
  v117:=Tryd.zeroValue111
  t119:=Tryd.underlying142
  a119:=Tryd.isAgg142
  z119:=Tryd.sizeOf142
  t124:=Tryd.underlying114
  a124:=Tryd.isAgg114
  z124:=Tryd.sizeOf114
  v124:=Tryd.zeroValue114
  t138:=Tryd.underlying144
  a138:=Tryd.isAgg144
  z138:=Tryd.sizeOf144
  v138:=Tryd.zeroValue144
  t139:=Tryd.underlying145
  a139:=Tryd.isAgg145
  z139:=Tryd.sizeOf145
  v139:=Tryd.zeroValue145
  g3:=by kernel_rfl
  g4:=by kernel_rfl}
end Go.Proofs

namespace Go.Proofs.YtpepmaehafjfbaaDoor
set_option linter.unusedVariables false
set_option linter.unusedSimpArgs false
set_option linter.unnecessarySimpa false
set_option maxRecDepth 100000
section
open Go
def wb (c:Nat):Bool:=(Nat.ble 97 c&&Nat.ble c 122)||(Nat.ble 48 c&&Nat.ble c 57)
def Zp4:List Nat:= [97,98,99,100,101,102,103,104,105,106,107,108,109,110,111,112,113,114,115,116,117,118,119,120,121,122,48,49,50,51,52,53,54,55,56,57]
def Zl5 (s:List Nat):List Nat:=(Lib.trimS (mkS s).data.toList (mkS Zp4).data.toList).map UInt8.toNat
theorem Ztt (s:List Nat) (hs:s.length<=9223372036854775807):PureC E 39 [.str false s,.str true Zp4] (.str false (Zl5 s)):=by
 refine Zag fun g w vals hd=> ?_
 obtain ⟨u,v,rfl,hu,hv⟩:=Zz8 hd
 cases hu;cases hv
 rename_i b hb c hc
 subst hb
 have hc':c=mkS Zp4:=by rw [<-hc,Zbw]
 subst hc'
 have hs':b.size<=9223372036854775807:=by rw [<-Zam];exact hs
 refine (Any.strings_Trim_laid Tryd.lays160 (by kernel_rfl) b (mkS Zp4) w hs' (by decide) (ascii_of_all (by decide))).mono ?_
 rintro e w' ⟨rfl,hw⟩
 refine ⟨_,rfl,?_,hw⟩
 unfold Zl5
 rw [Zbw]
 exact Zt7
theorem dw_nil {α:Type} {p:α->Bool}:∀{l:List α},l.dropWhile p= []↔∀x∈l,p x=true
 | []=>by simp
 |x::l=>by
  rw [List.dropWhile_cons]
  cases hp:p x with
  |true=>simp [hp,dw_nil (l:=l)]
  |false=>simp [hp]
theorem Ztu {α:Type} {p:α->Bool}:∀{l:List α} {b:α} {r:List α},l.dropWhile p=b::r->p b=false
 | [],b,r,h=>by simp at h
 |x::l,b,r,h=>by
  rw [List.dropWhile_cons] at h
  cases hp:p x with
  |true=>rw [hp] at h;exact Ztu h
  |false=>rw [hp] at h;simp at h;rw [<-h.1];exact hp
theorem Ztv (l cs:List UInt8):Lib.trimS l cs= []↔∀b∈l,cs.contains b=true:=by
 unfold Lib.trimS Lib.trimLeftS Lib.trimRightS
 rw [dw_nil]
 constructor
 · intro h
   cases hd:l.reverse.dropWhile (cs.contains ·) with
   |nil=>
    rw [dw_nil] at hd
    exact fun b hb=>hd b (List.mem_reverse.2 hb)
   |cons b r=>
    exfalso
    have h1:=h b (by rw [hd];simp)
    have h2:=Ztu hd
    rw [h1] at h2
    cases h2
 · intro h b hb
   rw [dw_nil.2 (fun b hb=>h b (List.mem_reverse.1 hb))] at hb
   simp at hb
theorem Zjm:∀n,n<256->(mkS Zp4).data.toList.contains (UInt8.ofNat n)=wb n:=by decide
theorem Ztw {s:List Nat} (hs:Byt s):Zl5 s= []↔s.all wb=true:=by
 unfold Zl5
 rw [List.map_eq_nil_iff,Ztv,List.all_eq_true]
 have e:s=(mkS s).data.toList.map UInt8.toNat:=(show toL (mkS s)=s from hs).symm
 constructor
 · intro h c hc
   rw [e] at hc
   obtain ⟨b,hb,rfl⟩:=List.mem_map.1 hc
   rw [<-Zjm _ b.toNat_lt]
   have:=h b hb
   rwa [show UInt8.ofNat b.toNat=b from UInt8.ofNat_toNat]
 · intro h b hb
   have:=h b.toNat (by rw [e];exact List.mem_map_of_mem hb)
   rw [<-Zjm _ b.toNat_lt] at this
   rwa [show UInt8.ofNat b.toNat=b from UInt8.ofNat_toNat] at this
def Z1w:Sum thy:=sumP (dA2 dS (dKs Zp4)) (fun x=>x.1.length<=9223372036854775807) fun x=> .str false (Zl5 x.1)
theorem Zwv:SumOk E 39 Z1w:=Zs E_ok (Zk (f:=39) rfl) fun x h=>Ztt _ h
def Zz2:Fns thy:=addS F0 39 Z1w
theorem Zww:FnsOk E Zz2:=Zh F0_ok Zwv
def lowF:List Nat->Bool
 | []=>false
 |c::_=>Nat.ble 97 c&&Nat.ble c 122
def Zer (s:List Nat):Bool:=decide (s.length<=32)&&lowF s&&s.all wb
theorem Ztx (s:List Nat) (v:Bool):Zw E Zz2 (vc E Zz2 400) 22 [.str false s] hp0 0 (fun r=>ret E (patch hp0 0 r) r.v (.bool false v))=(
(decide ((↑(List.length s):Int)<=(32:Int))=true->((!s==toL (ByteArray.mk #[]))=true->(0:Int)<=(0:Int)/\(0:Int)+(1:Int)<=(↑(List.length s):Int)/\∀(x:Nat),s[Int.toNat (0:Int)]? =some x->(decide ((↑x:Int)>=(97:Int))=true->(0:Int)<=(0:Int)/\(0:Int)+(1:Int)<=(↑(List.length s):Int)/\∀(x:Nat),s[Int.toNat (0:Int)]? =some x->(decide ((↑x:Int)<=(122:Int))=true->List.length s<=(9223372036854775807:Nat)/\((Zl5 s==toL (ByteArray.mk #[]))=true->true=v)/\((Zl5 s==toL (ByteArray.mk #[]))=false->false=v))/\(decide ((↑x:Int)<=(122:Int))=false->false=v))/\(decide ((↑x:Int)>=(97:Int))=false->false=v))/\((!s==toL (ByteArray.mk #[]))=false->false=v))/\(decide ((↑(List.length s):Int)<=(32:Int))=false->false=v)):=by kernel_rfl
theorem Zty (s:List Nat):PureC E 22 [.str false s] (.bool false (Zer s)):=by
 refine Zt5 (j:=0) rfl fun hs=>Zc E_ok (Zn E_ok Zww 400) ?_
 rw [Ztx]
 simp only [Z4,Zt,Xx,Xy,Xz,beq_iff_eq,bne_iff_ne,beq_eq_false_iff_ne,bne_eq_false_iff_eq,decide_eq_true_eq,decide_eq_false_iff_not,Bool.or_eq_true,Bool.or_eq_false_iff,Bool.not_eq_true',Bool.not_eq_false',Bool.and_eq_true,Bool.and_true,Bool.true_and,Bool.and_eq_false_iff,beq_self_eq_true,Z0,Yc,ne_eq,and_true,true_and,Bool.true_eq_false,Bool.false_eq_true,false_or,or_false,true_implies,imp_self,Int.ofNat_eq_natCast,not_true_eq_false,not_false_eq_true,Decidable.not_not]
 have he:toL (ByteArray.mk #[])= []:=rfl
 have hz:(0:Int).toNat=0:=rfl
 simp only [he,hz,Ztw hs]
 unfold Zer
 refine And.intro (fun h1=>And.intro (fun h2=>⟨by omega,?_,fun c hc=> ?_⟩) (fun h2=> ?_)) (fun h1=> ?_)
 · cases s with
   |nil=>exact absurd rfl h2
   |cons c r=>simp only [List.length_cons];omega
 · cases s with
   |nil=>simp at hc
   |cons c' r=>
    obtain rfl:c'=c:=by simpa using hc
    rw [decide_eq_true (show (c'::r).length<=32 by omega),show lowF (c'::r)=(Nat.ble 97 c'&&Nat.ble c' 122) from rfl]
    refine And.intro (fun h3=>⟨by omega,by simp only [List.length_cons];omega,fun c2 hc2=> ?_⟩) (fun h3=> ?_)
    · obtain rfl:c'=c2:=by simpa using hc2
      refine And.intro (fun h4=>⟨by omega,fun h5=> ?_,fun h5=> ?_⟩) (fun h4=> ?_)
      · rw [h5,Nat.ble_eq_true_of_le (by omega),Nat.ble_eq_true_of_le (by omega)];rfl
      · rw [Bool.eq_false_iff.2 h5];simp
      · have:Nat.ble c' 122=false:=by rw [<-Bool.not_eq_true,Nat.ble_eq];omega
        rw [this];simp
    · have:Nat.ble 97 c'=false:=by rw [<-Bool.not_eq_true,Nat.ble_eq];omega
      rw [this];simp
 · rw [h2];simp [lowF]
 · rw [decide_eq_false (show ¬s.length<=32 by omega)];simp
def resW:List (List Nat):= [[116,97,114,105,102,102],[102,111,114],[99,108,97,117,115,101],[119,104,101,110],[97,110,100],[105,110],[105,115],[112,97,121],[109,105,110],[109,97,120],[100,111,119,110],[117,112],[104,97,108,102],[105,102],[109,111,110,101,121],[109,105,110,117,116,101],[112,101,114],[107,103],[116,121,112,101],[111,119,110,101,114],[114,97,105,108,119,97,121],[115,104,105,112,112,101,114],[99,108,97,115,115],[119,101,105,103,104,116],[107,109],[109,105,110,117,116,101,115],[119,111,114,107,105,110,103],[99,111,100,101],[119,111,114,116,104],[99,111,115,116],[109,111,110,116,104],[98,101,103,105,110],[112,97,114,116,115],[112,97,114,116],[104,105,114,101],[100,101,109,117,114,114,97,103,101],[102,114,101,105,103,104,116],[114,101,112,97,105,114],[108,111,115,115],[99,108,101,97,110,105,110,103]]
theorem Zwx (s:List Nat) (K:SV thy->Prop):Zw E F0 (vc E F0 400) 23 [.str false s] hp0 0 (fun r=>K r.v)=X5 false (.str false s) (resW.map fun k=>(Value.string (mkS k),SV.bool true true)) K (K (.bool true false)):=by kernel_rfl
theorem Zwy (s:List Nat):PureC E 23 [.str false s] (.bool false (decide (s∈resW))):=by
 refine Zf8 E_ok (Z17 400) (K:=fun r=>r.v= .bool true (decide (s∈resW))) (fun r hr=>by rw [hr];rfl) ?_
 rw [Zwx s fun v=>v= .bool true (decide (s∈resW))]
 refine Ze5 ?_ (fun h=>by rw [decide_eq_true h]) (fun h=>by rw [decide_eq_false h])
 unfold Byt;decide
end
section
open Go
end
section
open Go
def Ya (w:Tst):Bool:=decide (0<=w.attr/\w.attr<16/\0<=w.low/\w.low<=1099511627776/\0<=w.high/\w.high<=1099511627776)
def Vn (c:Cls):Bool:=Zer c.name&&Zo c.pay&&c.when_.all Ya
def resF (s:List Nat):Bool:=decide (s∈resW)
def goC:Bool->Bool->List (List Nat×Bool)->List Cls->Int
 |a,b,_,[]=>if a=true then 161 else if b=true then 2 else 0
 |a,b,m,c::r=>if Vn c=true then goC (a||resF c.name||(Yw m c.name).getD false) (b||decide (8<c.when_.length)||decide (24<Y0 c.pay)) (putS m c.name true) r else 1
def Xh (t:Tar):Int:=if Zer t.name=true/\1<=t.for_/\t.for_<=6 then goC (resF t.name) (decide (64<t.clauses.length)) [] t.clauses else 1
def Z0h:Sum thy:=sumP (dA1 dS) (fun _=>True) fun x=> .bool false (Zer x.1)
theorem Zu3:SumOk E 22 Z0h:=Zs E_ok (Zk (f:=22) rfl) fun x h=>Zty _
def Sres:Sum thy:=sumP (dA1 dS) (fun _=>True) fun x=> .bool false (resF x.1)
theorem Zyo:SumOk E 23 Sres:=Zs E_ok (Zk (f:=23) rfl) fun x h=>Zwy _
def Zqz:Sum thy:=sumP dExp (fun x=>x.1.sz<1000000000000) fun x=> .bool false (Zo x.1)
theorem Zor:SumOk E 24 Zqz:=Zs E_ok (Zk (f:=24) rfl) fun x h=>Zv2 _ (Nat.le_refl _) _ h
def Zmi:Sum thy:=sumP dExp (fun x=>x.1.sz<1000000000000) fun x=> .int false .i64 (Y0 x.1:Int)
theorem Zkd:SumOk E 25 Zmi:=Zs E_ok (Zk (f:=25) rfl) fun x h=>Zv6 _ _ (Nat.le_refl _) (Nat.le_of_lt h)
structure CkX where
 k:Nat
 r:Nat
 a:Bool
 b:Bool
 m:List (List Nat×Bool)
def blkM {Y:Thy} (h:Hp Y) (v:SV Y):List (Nat×Blk Y):=match v with| .map b=>(match h b with|some x=> [(b,x)]|none=> [])|_=> []
def Ack:Fr thy->Hp thy->Nat->Ann thy:=fun T h i=>{X:=CkX,fr:=fun x=> [(3,.bool false x.a),(4,.bool false x.b),(5,T 5),(33,T 33),(34,T 34),(35,.int false .i64 x.k)],bl:=fun x=> [(bOf (T 5),.map (Ym (X0 E Th.bools false) x.m))],src:=fun _=> [],md:= [bOf (T 5)],ih:=i,M:=i+40,meas:=fun x=>x.r}
def Atst:Fr thy->Hp thy->Nat->Ann thy:=fun T h i=>{X:=DX,fr:=fun x=> [(3,T 3),(4,T 4),(5,T 5),(7,T 7),(33,T 33),(34,T 34),(35,T 35),(50,T 50),(51,T 51),(52,.int false .i64 x.k)],bl:=fun x=>blkP h (T 7)++blkM h (T 5),src:=fun _=> [],md:= [],ih:=i,M:=i+30,meas:=fun x=>x.r}
def Fck:Fns thy:=addL (addL (addS (addS (addS (addS F0 22 Z0h) 23 Sres) 24 Zqz) 25 Zmi) 14 6 Ack E) 14 11 Atst E
theorem Z0i:FnsOk E Fck:=Yn E_ok (Yn E_ok (Zh (Zh (Zh (Zh F0_ok Zu3) Zyo) Zor) Zkd) _ _ _) _ _ _
def tarA (t:Tar):SV thy:= .agg (encF false .tariffs t)
abbrev qBYp (a0:Cls):=(Cls.pay a0)
abbrev qBY4 (a0:Cls):=(Ex.mk (Ex.op (qBYp a0)) (Ex.n (qBYp a0)) (Ex.d0 (qBYp a0)) (Ex.d1 (qBYp a0)) (Ex.d2 (qBYp a0)) (Ex.d3 (qBYp a0)) (Ex.l (qBYp a0)))
abbrev qBYi (a0:Cls):=((↑(Y0 (qBY4 a0)):Int)>(24:Int))
abbrev qBYo:=(0:Int)
abbrev qBYg:=(false=true->false=true)
abbrev qBY8 (a0:Cls):=(Cls.name a0=Cls.name a0/\(Cls.when_ a0=Cls.when_ a0/\qBYg)/\Ex.op (qBYp a0)=Ex.op (qBYp a0)/\Ex.n (qBYp a0)=Ex.n (qBYp a0)/\Ex.d0 (qBYp a0)=Ex.d0 (qBYp a0)/\Ex.d1 (qBYp a0)=Ex.d1 (qBYp a0)/\Ex.d2 (qBYp a0)=Ex.d2 (qBYp a0)/\Ex.d3 (qBYp a0)=Ex.d3 (qBYp a0)/\(Ex.l (qBYp a0)=Ex.l (qBYp a0)/\qBYg)/\True)
abbrev qBYj:=(1:Int)
abbrev qBYm (a0:Cls):=(mkS (Cls.name a0))
abbrev qBYl:=(1:Nat)
abbrev qBYb:=(X0 E Th.bools false)
abbrev qBY9:=(X0 E Th.bools (Zf TypeDesc.bool))
abbrev qBY3 (a0:List (List Nat×Bool)) (b0:Cls) (c0:CkX):=(Ym qBY9 (putS a0 (Cls.name b0) true)=Ym qBYb (CkX.m c0)/\nidE (0:Nat) (Ym qBY9 (putS a0 (Cls.name b0) true))=true)
abbrev qBYe (a0:CkX):=(↑(CkX.k a0):Int)
abbrev qBY6 (a0:Tar):=(Tar.clauses a0=Tar.clauses a0/\qBYg)
abbrev qBY7 (a0:List (List Nat×Bool)):=(∀(p:List Nat×Bool),p∈a0->toL (mkS (Prod.fst p))=Prod.fst p)
abbrev qBY5 (a0:Tar):=(↑(List.length (Tar.clauses a0)):Int)
abbrev qBYa (a0:CkX) (b0:Tar) (c0:CkX):=(true=CkX.a a0/\true=CkX.b a0/\True/\(qBY6 b0)/\(qBY5 b0)=(qBY5 b0)/\wr IntKind.i64 ((qBYe c0)+qBYj)=(qBYe a0)/\True)
abbrev qBYc (a0:Cls):=(↑(List.length (Cls.when_ a0)):Int)
abbrev qBY2 (a0:CkX) (b0:Cls) (c0:CkX->Prop) (d0:Tar):=(CkX.b a0=false->(decide ((qBYc b0)>(8:Int))=true->∃(l:List (List Nat×Bool)),Ym qBYb (CkX.m a0)=Ym qBY9 l/\(qBY7 l)/\toL (qBYm b0)=Cls.name b0/\∃(x_3:CkX),c0 x_3/\x_3.2+qBYl<=a0.2/\true=true/\(qBYa x_3 d0 a0)/\(qBY3 l b0 x_3)/\True)/\(decide ((qBYc b0)>(8:Int))=false->Ex.sz (qBY4 b0)+qBYl<=(1000000000000:Nat)/\(decide (qBYi b0)=true->∃(l:List (List Nat×Bool)),Ym qBYb (CkX.m a0)=Ym qBY9 l/\(qBY7 l)/\toL (qBYm b0)=Cls.name b0/\∃(x_3:CkX),c0 x_3/\x_3.2+qBYl<=a0.2/\true=true/\(qBYa x_3 d0 a0)/\(qBY3 l b0 x_3)/\True)/\(decide (qBYi b0)=false->∃(l:List (List Nat×Bool)),Ym qBYb (CkX.m a0)=Ym qBY9 l/\(qBY7 l)/\toL (qBYm b0)=Cls.name b0/\∃(x_3:CkX),c0 x_3/\x_3.2+qBYl<=a0.2/\true=true/\(true=CkX.a x_3/\false=CkX.b x_3/\True/\(qBY6 d0)/\(qBY5 d0)=(qBY5 d0)/\wr IntKind.i64 ((qBYe a0)+qBYj)=(qBYe x_3)/\True)/\(qBY3 l b0 x_3)/\True)))
abbrev qBYd (a0:Bool) (b0:CkX) (c0:Tar) (d0:CkX):=(a0=CkX.a b0/\true=CkX.b b0/\True/\(qBY6 c0)/\(qBY5 c0)=(qBY5 c0)/\wr IntKind.i64 ((qBYe d0)+qBYj)=(qBYe b0)/\True)
abbrev qBYk (a0:CkX):=(Ym qBYb (CkX.m a0)=Ym qBYb (CkX.m a0)/\nidE (0:Nat) (Ym qBYb (CkX.m a0))=true)
abbrev qBYf (a0:CkX) (b0:Cls) (c0:CkX->Prop) (d0:Tar):=(CkX.b a0=true->∃(l:List (List Nat×Bool)),Ym qBYb (CkX.m a0)=Ym qBY9 l/\(qBY7 l)/\toL (qBYm b0)=Cls.name b0/\∃(x_3:CkX),c0 x_3/\x_3.2+qBYl<=a0.2/\true=true/\(qBYa x_3 d0 a0)/\(qBY3 l b0 x_3)/\True)
abbrev qBYn (a0:DX):=(↑(DX.k a0):Int)
abbrev qBY1 (a0:CkX) (b0:Tar) (c0:Int) (d0:CkX->Prop):=(decide ((qBYe a0)<(qBY5 b0))=true->qBYo<=(qBYe a0)/\(qBYe a0)+qBYj<=(qBY5 b0)/\∀(x_1:Cls),(Tar.clauses b0)[Int.toNat (qBYe a0)]? =some x_1->True/\((!Zer (Cls.name x_1))=true->qBYj=c0)/\((!Zer (Cls.name x_1))=false->Ex.sz (qBY4 x_1)+qBYl<=(1000000000000:Nat)/\((!Zo (qBY4 x_1))=true->qBYj=c0)/\((!Zo (qBY4 x_1))=false->∃(R_1:DX->Prop),(∃(x_2:DX),R_1 x_2/\true=true/\(CkX.a a0=CkX.a a0/\CkX.b a0=CkX.b a0/\True/\(0:Nat)=(0:Nat)/\(qBY6 b0)/\(qBY5 b0)=(qBY5 b0)/\(qBYe a0)=(qBYe a0)/\(Cls.when_ x_1=Cls.when_ x_1/\qBYg)/\(qBYc x_1)=(qBYc x_1)/\qBYo=(qBYn x_2)/\True)/\(qBY8 x_1)/\(qBYk a0)/\True)/\∀(x_2:DX),R_1 x_2->(decide ((qBYn x_2)<(qBYc x_1))=true->qBYo<=(qBYn x_2)/\(qBYn x_2)+qBYj<=(qBYc x_1)/\∀(x_3:Tst),(Cls.when_ x_1)[Int.toNat (qBYn x_2)]? =some x_3->∃(Q:Bool->Prop),((decide (Tst.attr x_3<qBYo)=true->Q true)/\(decide (Tst.attr x_3<qBYo)=false->(decide (Tst.attr x_3>=(16:Int))=true->Q true)/\(decide (Tst.attr x_3>=(16:Int))=false->(decide (mm2 false (Tst.low x_3) (Tst.high x_3)<qBYo)=true->Q true)/\(decide (mm2 false (Tst.low x_3) (Tst.high x_3)<qBYo)=false->(decide (mm2 true (Tst.low x_3) (Tst.high x_3)>(1099511627776:Int))=true->Q true)/\(decide (mm2 true (Tst.low x_3) (Tst.high x_3)>(1099511627776:Int))=false->Q false)))))/\(Q true->qBYj=c0)/\(Q false->∃(x_4:DX),R_1 x_4/\x_4.2+qBYl<=x_2.2/\true=true/\(CkX.a a0=CkX.a a0/\CkX.b a0=CkX.b a0/\True/\(0:Nat)=(0:Nat)/\(qBY6 b0)/\(qBY5 b0)=(qBY5 b0)/\(qBYe a0)=(qBYe a0)/\(Cls.when_ x_1=Cls.when_ x_1/\qBYg)/\(qBYc x_1)=(qBYc x_1)/\wr IntKind.i64 ((qBYn x_2)+qBYj)=(qBYn x_4)/\True)/\(qBY8 x_1)/\(qBYk a0)/\True))/\(decide ((qBYn x_2)<(qBYc x_1))=false->(CkX.a a0=true->(qBYf a0 x_1 d0 b0)/\(qBY2 a0 x_1 d0 b0))/\(CkX.a a0=false->True/\(resF (Cls.name x_1)=true->(qBYf a0 x_1 d0 b0)/\(qBY2 a0 x_1 d0 b0))/\(resF (Cls.name x_1)=false->∃(l:List (List Nat×Bool)),Ym qBYb (CkX.m a0)=Ym qBY9 l/\(qBY7 l)/\∀(y:Bool),y=Option.getD (Yw l (Cls.name x_1)) false->(CkX.b a0=true->∃(l:List (List Nat×Bool)),Ym qBYb (CkX.m a0)=Ym qBY9 l/\(qBY7 l)/\toL (qBYm x_1)=Cls.name x_1/\∃(x_3:CkX),d0 x_3/\x_3.2+qBYl<=a0.2/\true=true/\(qBYd y x_3 b0 a0)/\(qBY3 l x_1 x_3)/\True)/\(CkX.b a0=false->(decide ((qBYc x_1)>(8:Int))=true->∃(l:List (List Nat×Bool)),Ym qBYb (CkX.m a0)=Ym qBY9 l/\(qBY7 l)/\toL (qBYm x_1)=Cls.name x_1/\∃(x_3:CkX),d0 x_3/\x_3.2+qBYl<=a0.2/\true=true/\(qBYd y x_3 b0 a0)/\(qBY3 l x_1 x_3)/\True)/\(decide ((qBYc x_1)>(8:Int))=false->Ex.sz (qBY4 x_1)+qBYl<=(1000000000000:Nat)/\(decide (qBYi x_1)=true->∃(l:List (List Nat×Bool)),Ym qBYb (CkX.m a0)=Ym qBY9 l/\(qBY7 l)/\toL (qBYm x_1)=Cls.name x_1/\∃(x_3:CkX),d0 x_3/\x_3.2+qBYl<=a0.2/\true=true/\(qBYd y x_3 b0 a0)/\(qBY3 l x_1 x_3)/\True)/\(decide (qBYi x_1)=false->∃(l:List (List Nat×Bool)),Ym qBYb (CkX.m a0)=Ym qBY9 l/\(qBY7 l)/\toL (qBYm x_1)=Cls.name x_1/\∃(x_3:CkX),d0 x_3/\x_3.2+qBYl<=a0.2/\true=true/\(y=CkX.a x_3/\false=CkX.b x_3/\True/\(qBY6 b0)/\(qBY5 b0)=(qBY5 b0)/\wr IntKind.i64 ((qBYe a0)+qBYj)=(qBYe x_3)/\True)/\(qBY3 l x_1 x_3)/\True)))))))))
abbrev qBYh (a0:CkX) (b0:Tar) (c0:Int):=(decide ((qBYe a0)<(qBY5 b0))=false->(CkX.a a0=true->(161:Int)=c0)/\(CkX.a a0=false->(CkX.b a0=true->(2:Int)=c0)/\(CkX.b a0=false->qBYo=c0)))
theorem Zyp (t:Tar) (v:Int):Zw E Fck (vc E Fck 400) 14 [tarA t] hp0 0 (fun r=>ret E (patch hp0 0 r) r.v (.int false .i64 v))=(
 True/\((!Zer (Tar.name t))=true->qBYj=v)/\((!Zer (Tar.name t))=false->(decide (Tar.for_ t<qBYj)=true->qBYj=v)/\(decide (Tar.for_ t<qBYj)=false->(decide (Tar.for_ t>(6:Int))=true->qBYj=v)/\(decide (Tar.for_ t>(6:Int))=false->True/\(decide ((qBY5 t)>(64:Int))=true->∃(R:CkX->Prop),(∃(x:CkX),R x/\true=true/\(resF (Tar.name t)=CkX.a x/\true=CkX.b x/\True/\(qBY6 t)/\(qBY5 t)=(qBY5 t)/\qBYo=(qBYe x)/\True)/\([]=Ym qBYb (CkX.m x)/\true=true)/\True)/\∀(x:CkX),R x->(qBY1 x t v R)/\(qBYh x t v))/\(decide ((qBY5 t)>(64:Int))=false->∃(R:CkX->Prop),(∃(x:CkX),R x/\true=true/\(resF (Tar.name t)=CkX.a x/\false=CkX.b x/\True/\(qBY6 t)/\(qBY5 t)=(qBY5 t)/\qBYo=(qBYe x)/\True)/\([]=Ym qBYb (CkX.m x)/\true=true)/\True)/\∀(x:CkX),R x->(qBY1 x t v R)/\(qBYh x t v)))))):=by kernel_rfl
theorem Zyq {g:GH} {t:Tar} {u:Value} (h:Den E σ0 g (tarA t) u):Byt t.name/\∀c∈t.clauses,Byt c.name:=by
 obtain ⟨arr,c,rfl,hs,hc,hd⟩:=Zx h
 refine ⟨Zjv (hd 0 _ rfl),fun x hx=> ?_⟩
 have h2:=hd 2 (.psl Th.clauses t.clauses false) rfl
 obtain ⟨v,hv⟩:=Zt6 h2 x hx 0 (.str false x.name) rfl
 exact Zjv hv
theorem Zgc (a b:Bool) (m:List (List Nat×Bool)) (c:Cls) (r:List Cls):goC a b m (c::r)=if Vn c=true then goC (a||resF c.name||(Yw m c.name).getD false) (b||decide (8<c.when_.length)||decide (24<Y0 c.pay)) (putS m c.name true) r else 1:=rfl
theorem Zmj {l:List Tst} {k:Nat} {w:Tst} (h:l[k]? =some w):(l.drop k).all Ya=(Ya w&&(l.drop (k+1)).all Ya):=by rw [Za9 h,List.all_cons]
theorem Zgd {β:Type}:∀{m:List (List Nat×β)} {a:List Nat} {v:β},(∀p∈m,Byt p.1)->Byt a->∀p∈putS m a v,Byt p.1
 | [],a,v,_,ha,p,hp=>by
  rw [putS] at hp
  obtain rfl:=List.mem_singleton.1 hp
  exact ha
 |q::m,a,v,hm,ha,p,hp=>by
  rw [putS] at hp
  split at hp
  · rcases List.mem_cons.1 hp with rfl|hp
    · exact hm q (List.mem_cons_self ..)
    · exact hm p (List.mem_cons_of_mem _ hp)
  · rcases List.mem_cons.1 hp with rfl|hp
    · exact hm _ (List.mem_cons_self ..)
    · exact Zgd (fun q hq=>hm q (List.mem_cons_of_mem _ hq)) ha p hp
theorem Zos (t:Tar) (hsz:∀ c∈t.clauses,c.pay.sz<1000000000000/\c.when_.length<1000000000000) (hl:t.clauses.length<1000000000000):PureC E 14 [tarA t] (.int false .i64 (Xh t)):=by
  refine Zxu (j:=0) rfl (fun g u h=>Zyq h) fun hby=>Zc E_ok (Zn E_ok Z0i 400) ?_
  rw [Zyp]; delta qBYp qBY4 qBYi qBYo qBYg qBY8 qBYj qBYm qBYl qBYb qBY9 qBY3 qBYe qBY6 qBY7 qBY5 qBYa qBYc qBY2 qBYd qBYk qBYf qBYn qBY1 qBYh
  simp only [Z4,Zt,Xx,Xy,Xz,beq_iff_eq,bne_iff_ne,beq_eq_false_iff_ne,bne_eq_false_iff_eq,decide_eq_true_eq,decide_eq_false_iff_not,Bool.or_eq_true,Bool.or_eq_false_iff,Bool.not_eq_true',Bool.not_eq_false',Bool.and_eq_true,Bool.and_true,Bool.true_and,Bool.and_eq_false_iff,beq_self_eq_true,Z0,Yc,ne_eq,and_true,true_and,Bool.true_eq_false,Bool.false_eq_true,false_or,or_false,true_implies,imp_self,Int.ofNat_eq_natCast,not_true_eq_false,not_false_eq_true,Decidable.not_not,Ex.eta]
  unfold Xh
  refine And.intro (fun h1=>?_) (fun h1=>And.intro (fun h2=>?_) (fun h2=>And.intro (fun h3=>?_) (fun h3=>?_)))
  · rw [if_neg (by rw [h1]; simp)]
  · rw [if_neg (by omega)]
  · rw [if_neg (by omega)]
  · rw [if_pos ⟨h1,by omega,by omega⟩]
    refine And.intro (fun h4=>?_) (fun h4=>?_)
    · rw [decide_eq_true (show 64<t.clauses.length by omega)]
      refine ⟨fun x=>x.k<=t.clauses.length/\(∀ p∈x.m,Byt p.1)/\goC x.a x.b x.m (t.clauses.drop x.k)=goC (resF t.name) true [] t.clauses/\x.r=t.clauses.length - x.k,⟨⟨0,t.clauses.length,resF t.name,true,[]⟩,⟨(by dsimp only; omega),by simp,rfl,rfl⟩,⟨rfl,rfl,rfl⟩,rfl⟩,?_⟩
      rintro x ⟨hk,hm,hv,hr⟩
      refine And.intro (fun hq=>⟨by omega,by omega,fun c hc=>?_⟩) (fun hq=>?_)
      · have hc:t.clauses[x.k]?=some c:=hc
        rw [Za9 hc,Zgc] at hv
        have hcm:=List.mem_of_getElem? hc
        obtain ⟨hs1,hs2⟩:=hsz c hcm
        have hcb:=hby.2 c hcm
        refine And.intro (fun h5=>?_) (fun h5=>⟨by omega,fun h6=>?_,fun h6=>?_⟩)
        · rw [← hv,if_neg (by unfold Vn; rw [h5]; simp)]
        · rw [← hv,if_neg (by unfold Vn; rw [h6]; simp)]
        refine ⟨fun y=>y.k<=c.when_.length/\(c.when_.drop y.k).all Ya=c.when_.all Ya/\y.r=c.when_.length - y.k,⟨⟨0,c.when_.length,[],[],0,0,0,0⟩,⟨(by dsimp only; omega),rfl,rfl⟩,rfl,Xm E_ok _⟩,?_⟩
        rintro y ⟨hk2,hv2,hr2⟩
        refine And.intro (fun hq2=>⟨by omega,by omega,fun w hw=>?_⟩) (fun hq2=>?_)
        · have hw:c.when_[y.k]?=some w:=hw
          rw [Zmj hw] at hv2
          have hT:Ya w=decide (0<=w.attr/\w.attr<16/\0<=w.low/\w.low<=1099511627776/\0<=w.high/\w.high<=1099511627776):=rfl
          refine ⟨fun b=>b=true ↔ Ya w=false,?_,fun hQ=>?_,fun hQ=>?_⟩
          · have q1:(¬ (0<=w.attr/\w.attr<16/\0<=w.low/\w.low<=1099511627776/\0<=w.high/\w.high<=1099511627776))->((true=true) ↔ Ya w=false):=fun h=>by rw [hT,decide_eq_false h]; simp
            have q2:(0<=w.attr/\w.attr<16/\0<=w.low/\w.low<=1099511627776/\0<=w.high/\w.high<=1099511627776)->((false=true) ↔ Ya w=false):=fun h=>by rw [hT,decide_eq_true h]; simp
            refine And.intro (fun a1=>q1 (by omega)) (fun a1=>And.intro (fun a2=>q1 (by omega)) (fun a2=>And.intro (fun a3=>q1 (by omega)) (fun a3=>And.intro (fun a4=>q1 (by omega)) (fun a4=>q2 (by omega)))))
          · have hQ:=hQ.1 rfl
            rw [hQ,Bool.false_and] at hv2
            rw [← hv,if_neg (by unfold Vn; rw [← hv2]; simp)]
          · have hQ:Ya w=true:=by
              cases hh:Ya w with
              | true=>rfl
              | false=>have:=hQ.2 hh; simp at this
            rw [hQ,Bool.true_and] at hv2
            exact ⟨⟨y.k+1,c.when_.length - (y.k+1),[],[],0,0,0,0⟩,⟨(by dsimp only; omega),hv2,rfl⟩,by show c.when_.length - (y.k+1)+1<=y.r; omega,wr64 (by omega) (by omega),Xm E_ok _⟩
        · rw [Vc (by omega)] at hv2
          have hok:Vn c=true:=by unfold Vn; rw [h5,h6,← hv2]; rfl
          rw [if_pos hok] at hv
          clear hv2 hr2 hq2 hk2 hok
          repeat' (first | (refine And.intro ?_ ?_) | (refine ⟨x.m,rfl,hm,?_⟩) | (rintro _ rfl) | (intro h))
          all_goals first
            | omega
            | exact hcb
            | (refine ⟨⟨x.k+1,t.clauses.length - (x.k+1),_,_,putS x.m c.name true⟩,⟨(by dsimp only; omega),Zgd hm hcb,?_,rfl⟩,(by dsimp only; omega),⟨rfl,rfl,wr64 (by omega) (by omega)⟩,rfl,Xm E_ok _⟩
               rw [← hv]
               dsimp only
               congr 1
               · first | (simp only [*,Bool.or_true,Bool.true_or,Bool.false_or,Bool.or_false]; done) | (simp only [*,Bool.or_true,Bool.true_or,Bool.false_or,Bool.or_false]; rfl)
               · first | (simp only [*,Bool.or_true,Bool.true_or,Bool.false_or,Bool.or_false]; done) | (simp only [*,Bool.or_true,Bool.true_or,Bool.false_or,Bool.or_false]; symm; simp only [Bool.or_eq_true,Bool.or_eq_false_iff,decide_eq_true_eq,decide_eq_false_iff_not]; omega))
      · rw [Vc (by omega)] at hv
        rw [← hv]
        unfold goC
        refine And.intro (fun a1=>by rw [if_pos a1]) (fun a1=>And.intro (fun a2=>by rw [if_neg (by rw [a1]; simp),if_pos a2]) (fun a2=>by rw [if_neg (by rw [a1]; simp),if_neg (by rw [a2]; simp)]))
    · rw [decide_eq_false (show ¬ 64<t.clauses.length by omega)]
      refine ⟨fun x=>x.k<=t.clauses.length/\(∀ p∈x.m,Byt p.1)/\goC x.a x.b x.m (t.clauses.drop x.k)=goC (resF t.name) false [] t.clauses/\x.r=t.clauses.length - x.k,⟨⟨0,t.clauses.length,resF t.name,false,[]⟩,⟨(by dsimp only; omega),by simp,rfl,rfl⟩,⟨rfl,rfl,rfl⟩,rfl⟩,?_⟩
      rintro x ⟨hk,hm,hv,hr⟩
      refine And.intro (fun hq=>⟨by omega,by omega,fun c hc=>?_⟩) (fun hq=>?_)
      · have hc:t.clauses[x.k]?=some c:=hc
        rw [Za9 hc,Zgc] at hv
        have hcm:=List.mem_of_getElem? hc
        obtain ⟨hs1,hs2⟩:=hsz c hcm
        have hcb:=hby.2 c hcm
        refine And.intro (fun h5=>?_) (fun h5=>⟨by omega,fun h6=>?_,fun h6=>?_⟩)
        · rw [← hv,if_neg (by unfold Vn; rw [h5]; simp)]
        · rw [← hv,if_neg (by unfold Vn; rw [h6]; simp)]
        refine ⟨fun y=>y.k<=c.when_.length/\(c.when_.drop y.k).all Ya=c.when_.all Ya/\y.r=c.when_.length - y.k,⟨⟨0,c.when_.length,[],[],0,0,0,0⟩,⟨(by dsimp only; omega),rfl,rfl⟩,rfl,Xm E_ok _⟩,?_⟩
        rintro y ⟨hk2,hv2,hr2⟩
        refine And.intro (fun hq2=>⟨by omega,by omega,fun w hw=>?_⟩) (fun hq2=>?_)
        · have hw:c.when_[y.k]?=some w:=hw
          rw [Zmj hw] at hv2
          have hT:Ya w=decide (0<=w.attr/\w.attr<16/\0<=w.low/\w.low<=1099511627776/\0<=w.high/\w.high<=1099511627776):=rfl
          refine ⟨fun b=>b=true ↔ Ya w=false,?_,fun hQ=>?_,fun hQ=>?_⟩
          · have q1:(¬ (0<=w.attr/\w.attr<16/\0<=w.low/\w.low<=1099511627776/\0<=w.high/\w.high<=1099511627776))->((true=true) ↔ Ya w=false):=fun h=>by rw [hT,decide_eq_false h]; simp
            have q2:(0<=w.attr/\w.attr<16/\0<=w.low/\w.low<=1099511627776/\0<=w.high/\w.high<=1099511627776)->((false=true) ↔ Ya w=false):=fun h=>by rw [hT,decide_eq_true h]; simp
            refine And.intro (fun a1=>q1 (by omega)) (fun a1=>And.intro (fun a2=>q1 (by omega)) (fun a2=>And.intro (fun a3=>q1 (by omega)) (fun a3=>And.intro (fun a4=>q1 (by omega)) (fun a4=>q2 (by omega)))))
          · have hQ:=hQ.1 rfl
            rw [hQ,Bool.false_and] at hv2
            rw [← hv,if_neg (by unfold Vn; rw [← hv2]; simp)]
          · have hQ:Ya w=true:=by
              cases hh:Ya w with
              | true=>rfl
              | false=>have:=hQ.2 hh; simp at this
            rw [hQ,Bool.true_and] at hv2
            exact ⟨⟨y.k+1,c.when_.length - (y.k+1),[],[],0,0,0,0⟩,⟨(by dsimp only; omega),hv2,rfl⟩,by show c.when_.length - (y.k+1)+1<=y.r; omega,wr64 (by omega) (by omega),Xm E_ok _⟩
        · rw [Vc (by omega)] at hv2
          have hok:Vn c=true:=by unfold Vn; rw [h5,h6,← hv2]; rfl
          rw [if_pos hok] at hv
          clear hv2 hr2 hq2 hk2 hok
          repeat' (first | (refine And.intro ?_ ?_) | (refine ⟨x.m,rfl,hm,?_⟩) | (rintro _ rfl) | (intro h))
          all_goals first
            | omega
            | exact hcb
            | (refine ⟨⟨x.k+1,t.clauses.length - (x.k+1),_,_,putS x.m c.name true⟩,⟨(by dsimp only; omega),Zgd hm hcb,?_,rfl⟩,(by dsimp only; omega),⟨rfl,rfl,wr64 (by omega) (by omega)⟩,rfl,Xm E_ok _⟩
               rw [← hv]
               dsimp only
               congr 1
               · first | (simp only [*,Bool.or_true,Bool.true_or,Bool.false_or,Bool.or_false]; done) | (simp only [*,Bool.or_true,Bool.true_or,Bool.false_or,Bool.or_false]; rfl)
               · first | (simp only [*,Bool.or_true,Bool.true_or,Bool.false_or,Bool.or_false]; done) | (simp only [*,Bool.or_true,Bool.true_or,Bool.false_or,Bool.or_false]; symm; simp only [Bool.or_eq_true,Bool.or_eq_false_iff,decide_eq_true_eq,decide_eq_false_iff_not]; omega))
      · rw [Vc (by omega)] at hv
        rw [← hv]
        unfold goC
        refine And.intro (fun a1=>by rw [if_pos a1]) (fun a1=>And.intro (fun a2=>by rw [if_neg (by rw [a1]; simp),if_pos a2]) (fun a2=>by rw [if_neg (by rw [a1]; simp),if_neg (by rw [a2]; simp)]))
end
section
theorem Z2p {x:Ex} (h:Zo x=true):Ver x:=U1 x.sz x (Nat.le_refl _) h
theorem Zlr {x:Ex} (h:Zo x=true):1<=dpX x:=Zau x.sz x (Nat.le_refl _) h
theorem Zzn {x:Ex} (h:Zo x=true) (o:Nat):1<=(cdX x o).length:=Zc6 x.sz x (Nat.le_refl _) h o
theorem Zfv {len:Int}:∀{r:List Ins} {i:Nat} {D:List Int} {m:Int},(∀k,i<=k->k<i+r.length->D.getD k 0<0)->fromF len r i D m=some (D,m)
 | [],i,D,m,_=>rfl
 |x::r,i,D,m,h=>by
  have hr:rndF len i x D m=some (D,m):=by
   unfold rndF
   rw [if_pos (h i (Nat.le_refl _) (by rw [List.length_cons];omega))]
  rw [Yq hr]
  exact Zfv fun k h1 h2=>h k (by omega) (by rw [List.length_cons];omega)
theorem Zxq {len e:Nat}:∀{ws:List Tst} {o:Nat} {D:List Int} {m:Int},D.length=len->o+3*ws.length<e->e<len->0<=m->D.getD o 0=0->(∀k,o<k->k<e->D.getD k 0<0)->(D.getD e 0<0\/D.getD e 0=0)->
 ∃D':List Int,fromF len (cdTs e ws) o D m=some (D',if ws= [] then m else max m 1)/\D'.length=len/\D'.getD (o+3*ws.length) 0=0/\D'.getD e 0=(if ws= [] then D.getD e 0 else 0)/\∀k,o+3*ws.length<k->k≠e->D'.getD k 0=D.getD k 0
 | [],o,D,m,h1,h2,h3,hm,h4,h5,h6=>⟨D,rfl,h1,h4,rfl,fun _ _ _=>rfl⟩
 |w::ws,o,D,m,h1,h2,h3,hm,h4,h5,h6=>by
  rw [List.length_cons] at h2⊢
  have r1:=Zat (x:=iNN 2 w.attr) (m:=m) h1 (show o+1<len by omega) h4 (by decide) (by show (0:Int)<=0;decide) (a:=1) (by show (1:Int)=0-0+1;decide) (by show (2:Int)≠13/\(2:Int)≠14/\(2:Int)≠15/\(2:Int)≠16;decide) (.inl (h5 (o+1) (by omega) (by omega)))
  obtain ⟨D1,hD1⟩:∃D1,D1=D.set (o+1) 1:=⟨_,rfl⟩
  rw [<-hD1] at r1
  have l1:D1.length=len:=by rw [hD1,List.length_set];exact h1
  have g1:D1.getD (o+1) 0=1:=by rw [hD1,Zp,if_pos ⟨rfl,by omega⟩]
  have k1:∀k,o+1<k->D1.getD k 0=D.getD k 0:=fun k hk=>by rw [hD1,Zp,if_neg (by omega)]
  have r2:=Zat (x:=(⟨12,w.low,w.high⟩:Ins)) (m:=max (max m 0) 1) l1 (show o+1+1<len by omega) g1 (by decide) (by show (1:Int)<=1;decide) (a:=1) (by show (1:Int)=1-1+1;decide) (by show (12:Int)≠13/\(12:Int)≠14/\(12:Int)≠15/\(12:Int)≠16;decide) (.inl (by rw [k1 _ (by omega)];exact h5 _ (by omega) (by omega)))
  obtain ⟨D2,hD2⟩:∃D2,D2=D1.set (o+1+1) 1:=⟨_,rfl⟩
  rw [<-hD2] at r2
  have l2:D2.length=len:=by rw [hD2,List.length_set];exact l1
  have g2:D2.getD (o+1+1) 0=0+1:=by rw [hD2,Zp,if_pos ⟨rfl,by omega⟩];rfl
  have k2:∀k,o+1+1<k->D2.getD k 0=D.getD k 0:=fun k hk=>by rw [hD2,Zp,if_neg (by omega),k1 k (by omega)]
  have r3:=Zmg (i:=o+1+1) (q:=e) (m:=max (max (max (max m 0) 1) 1) 1) l2 (by omega) h3 g2 (by decide) (by rw [k2 _ (by omega)];exact h6) (.inl (by rw [k2 _ (by omega)];exact h5 _ (by omega) (by omega)))
  obtain ⟨D3,hD3⟩:∃D3,D3=(D2.set e 0).set (o+1+1+1) 0:=⟨_,rfl⟩
  rw [<-hD3] at r3
  have l3:D3.length=len:=by rw [hD3,List.length_set,List.length_set];exact l2
  have g3:D3.getD (o+1+1+1) 0=0:=by rw [hD3,Zp,if_pos ⟨rfl,by rw [List.length_set];omega⟩]
  have g3e:D3.getD e 0=0:=by rw [hD3,Zp,if_neg (by omega),Zp,if_pos ⟨rfl,by omega⟩]
  have k3:∀k,o+1+1+1<k->k≠e->D3.getD k 0=D.getD k 0:=fun k hk hne=>by rw [hD3,Zp,if_neg (by omega),Zp,if_neg (by omega),k2 k (by omega)]
  have em:max (max (max (max (max m 0) 1) 1) 1) (0+1)=max m 1:=by omega
  rw [em] at r3
  obtain ⟨D',f1,f2,f3,f4,f5⟩:=Zxq (ws:=ws) (o:=o+1+1+1) (m:=max m 1) l3 (by omega) h3 (by omega) g3 (fun k a b=>by rw [k3 k a (by omega)];exact h5 k (by omega) b) (.inr g3e)
  refine ⟨D',?_,f2,by rw [show o+3*(ws.length+1)=o+1+1+1+3*ws.length by omega];exact f3,?_,fun k a b=>by rw [f5 k (by omega) b,k3 k (by omega) b]⟩
  · show fromF len (iNN 2 w.attr::⟨12,w.low,w.high⟩::iNN 13 e::cdTs e ws) o D m=_
    rw [Yq r1,Yq r2,Yq r3,f1,if_neg (List.cons_ne_nil w ws)]
    congr 2
    split<;>omega
  · rw [f4,if_neg (List.cons_ne_nil w ws)]
    split
    · exact g3e
    · rfl
theorem Zls (c:Cls) (k o:Nat):(cdC c k o).length=3*c.when_.length+(cdX c.pay (o+3*c.when_.length)).length+1:=by
 unfold cdC
 simp only [List.length_append,Yu,List.length_cons,List.length_nil]
theorem Z2q {len:Nat} {c:Cls} {i o:Nat} {D:List Int} {m:Int} (hf:Zo c.pay=true) (h1:D.length=len) (h2:o+(cdC c i o).length<len) (hm:0<=m) (h4:D.getD o 0=0) (h5:∀k,o<k->k<=o+(cdC c i o).length->D.getD k 0<0):
 ∃D':List Int,fromF len (cdC c i o) o D m=some (D',max m (dpX c.pay))/\D'.length=len/\(if c.when_= [] then D'.getD (o+(cdC c i o).length) 0<0 else D'.getD (o+(cdC c i o).length) 0=0)/\∀k,o+(cdC c i o).length<k->D'.getD k 0=D.getD k 0:=by
 have hp:=Zlr hf
 rw [Zls] at h2 h5⊢
 obtain ⟨p,hpp⟩:∃p,p=o+3*c.when_.length:=⟨_,rfl⟩
 have hpx:=Zzn hf p
 unfold cdC
 rw [<-hpp] at h2 h5⊢
 simp only
 generalize hA:cdX c.pay p=A at*
 obtain ⟨e,he⟩:∃e,e=p+A.length+1:=⟨_,rfl⟩
 have hee:o+(3*c.when_.length+A.length+1)=e:=by omega
 rw [hee] at h2 h5⊢
 rw [<-he]
 obtain ⟨D1,f1,f2,f3,f4,f5⟩:=Zxq (e:=e) (ws:=c.when_) (o:=o) (m:=m) h1 (by omega) h2 hm h4 (fun k a b=>h5 k a (by omega)) (.inl (h5 e (by omega) (by omega)))
 have ge:D1.getD e 0<0\/D1.getD e 0=0:=by
  rw [f4]
  split
  · exact .inl (h5 e (by omega) (by omega))
  · exact .inr rfl
 rw [<-hpp] at f3 f5
 obtain ⟨m1,hm1,b1⟩:∃m1,(if c.when_= [] then m else max m 1)=m1/\(m<=m1/\m1<=max m 1):=⟨_,rfl,by split<;>omega⟩
 rw [hm1] at f1
 obtain ⟨D2,e2,l2,g2,k2⟩:=Z2p hf (o:=p) (m:=m1) (d:=0) f2 (by rw [hA];omega) f3 (by decide) (by omega) (fun k a b=>by rw [f5 k a (by rw [hA] at b;omega)];exact h5 k (by omega) (by rw [hA] at b;omega)) (.inl (by rw [hA,f5 _ (by omega) (by omega)];exact h5 _ (by omega) (by omega)))
 rw [hA] at e2 g2 k2
 have r3:rndF len (p+A.length) (iNN 15 i) D2 (max m1 (0+dpX c.pay))=some (D2,max (max (max m1 (0+dpX c.pay)) 1) 0):=by
  unfold rndF
  have ho:(iNN 15 (i:Int)).op=15:=rfl
  have hef:eff 15=(1,0):=rfl
  rw [g2,ho,hef,if_neg (by decide),if_neg (by decide)]
  have hx:nextF ((p+A.length:Nat):Int) (iNN 15 i)= []:=rfl
  rw [hx]
  rfl
 refine ⟨D2,?_,l2,?_,fun k hk=>by rw [k2 k (by omega),f5 k (by omega) (by omega)]⟩
 · rw [List.append_assoc,Xc f1,Yu,<-hpp,Xc e2,Yq r3]
   show some (_,_)=some (_,_)
   congr 2
   omega
 · rw [k2 e (by omega),f4]
   split
   · exact h5 e (by omega) (by omega)
   · rfl
def dCs:List Cls->Int
 | []=>0
 |c::r=>if c.when_= [] then dpX c.pay else max (dpX c.pay) (dCs r)
theorem Zs5:∀{l:List Cls},(∀c∈l,Zo c.pay=true)->0<=dCs l
 | [],_=>Int.le_refl _
 |c::r,h=>by
  have:=Zlr (h c (by simp))
  unfold dCs
  split<;>omega
theorem Zxr {len:Nat}:∀{l:List Cls} {i o:Nat} {D:List Int} {m:Int},(∀c∈l,Zo c.pay=true)->D.length=len->o+(cdCs l i o).length+1=len->0<=m->D.getD o 0=0->(∀k,o<k->k<len->D.getD k 0<0)->
 ∃D':List Int,fromF len (cdCs l i o++ [iOp 16]) o D m=some (D',max m (dCs l))
 | [],i,o,D,m,hf,h1,h2,hm,h4,h5=>by
  have r:rndF len o (iOp 16) D m=some (D,max (max m 0) 0):=by
   unfold rndF
   have ho:(iOp 16).op=16:=rfl
   have hef:eff 16=(0,0):=rfl
   rw [h4,ho,hef,if_neg (by decide),if_neg (by decide)]
   rfl
  refine ⟨D,?_⟩
  show fromF len [iOp 16] o D m=_
  rw [Yq r]
  show some (_,_)=some (_,_)
  congr 2
  show max (max m 0) 0=max m 0
  omega
 |c::l,i,o,D,m,hf,h1,h2,hm,h4,h5=>by
  have e0:cdCs (c::l) i o=cdC c i o++cdCs l (i+1) (o+(cdC c i o).length):=rfl
  rw [e0,List.length_append] at h2
  rw [e0,List.append_assoc]
  obtain ⟨D1,f1,f2,f3,f4⟩:=Z2q (i:=i) (o:=o) (m:=m) (hf c (by simp)) h1 (by omega) hm h4 (fun k a b=>h5 k a (by omega))
  have hd:=Zlr (hf c (by simp))
  have hds:=Zs5 (fun d hd=>hf d (List.mem_cons_of_mem _ hd))
  rw [Xc f1]
  unfold dCs
  by_cases hw:c.when_= []
  · rw [if_pos hw] at f3⊢
    refine ⟨D1,Zfv fun k a b=> ?_⟩
    rw [List.length_append,List.length_cons,List.length_nil] at b
    by_cases hk:k=o+(cdC c i o).length
    · rw [hk];exact f3
    · rw [f4 k (by omega)];exact h5 k (by omega) (by omega)
  · rw [if_neg hw] at f3⊢
    obtain ⟨D2,e2⟩:=Zxr (l:=l) (i:=i+1) (o:=o+(cdC c i o).length) (m:=max m (dpX c.pay)) (fun d hd=>hf d (List.mem_cons_of_mem _ hd)) f2 (by omega) (by omega) f3 (fun k a b=>by rw [f4 k a];exact h5 k (by omega) b)
    refine ⟨D2,?_⟩
    rw [e2]
    congr 2
    omega
theorem Zs6 {x:Ex} (h:Zo x=true):0<=x.n/\x.n<=Zpa x.op:=by
 rw [Zgx,Bool.and_eq_true] at h
 have h1:=h.1
 unfold Zir at h1
 simp only [Bool.and_eq_true,Bool.or_eq_true,decide_eq_true_eq] at h1
 exact ⟨h1.1.1.1.1.2,h1.1.1.1.2⟩
theorem Zzo {op:Int} (h1:3<=op) (h2:op<=11\/op=16):formedF (iOp op)=true:=by
 unfold formedF iOp
 simp only
 rw [if_neg (by omega),if_neg (by omega),if_neg (by omega)]
 exact decide_eq_true ⟨h1,by omega,trivial,trivial⟩
theorem fm_n {op n:Int} (h:op=1\/op=13\/op=14\/op=15) (h1:0<=n) (h2:n<=9007199254740992):formedF (iNN op n)=true:=by
 unfold formedF iNN
 simp only
 rw [if_pos h]
 exact decide_eq_true ⟨h1,h2,trivial⟩
theorem fm_2 {n:Int} (h1:0<=n) (h2:n<=15):formedF (iNN 2 n)=true:=by
 unfold formedF iNN
 simp only
 rw [if_neg (by decide),if_pos trivial]
 exact decide_eq_true ⟨h1,h2,trivial⟩
theorem Z2r {a b:Int} (h1:0<=a) (h2:a<=1099511627776) (h3:0<=b) (h4:b<=1099511627776):formedF ⟨12,a,b⟩=true:=by
 unfold formedF
 simp only
 rw [if_neg (by decide),if_neg (by decide),if_pos trivial]
 simp only [decide_eq_true_eq]
 omega
theorem Wg:∀(k:Nat) (x:Ex),x.sz<=k->Zo x=true->∀o,o+(cdX x o).length<=9007199254740992->∀y∈cdX x o,formedF y=true
 |0,x,h,_=>by have:=x.sz_pos;omega
 |k+1,x,h,hf=>by
  intro o ho
  have hn:=Zs6 hf
  rcases Y8 hf with ⟨op,n,a,b,c,e,rfl,q⟩|⟨op,n,a,b,c,e,y,z,rfl,q1,q2,f1,f2⟩|⟨n,a,b,c,e,y,z,u,v,rfl,f1,f2,f3,f4⟩
  · rw [Zj8 q]
    intro w hw
    rw [List.mem_singleton.1 hw]
    have hn:0<=n/\n<=Zpa op:=hn
    rcases q with rfl|rfl
    · have:n<=1099511627776:=hn.2
      exact fm_n (.inl rfl) hn.1 (by omega)
    · exact fm_2 hn.1 hn.2
  · rw [sz_2] at h
    rw [Zj9 q1 q2] at ho⊢
    simp only [List.length_append,List.length_cons,List.length_nil] at ho
    intro w hw
    rcases List.mem_append.1 hw with hw|hw
    · rcases List.mem_append.1 hw with hw|hw
      · exact Wg k y (by omega) f1 _ (by omega) w hw
      · exact Wg k z (by omega) f2 _ (by omega) w hw
    · rw [List.mem_singleton.1 hw]
      exact Zzo q1 (.inl (by omega))
  · rw [sz_4] at h
    obtain ⟨p,hp⟩:∃p,p=o+(cdX y o).length+(cdX z (o+(cdX y o).length)).length+2:=⟨_,rfl⟩
    obtain ⟨q,hq⟩:∃q,q=p+(cdX u p).length+1:=⟨_,rfl⟩
    rw [Zka hp hq] at ho⊢
    simp only [List.length_append,List.length_cons] at ho
    intro w hw
    rcases List.mem_append.1 hw with hw|hw
    · rcases List.mem_append.1 hw with hw|hw
      · exact Wg k y (by omega) f1 _ (by omega) w hw
      · exact Wg k z (by omega) f2 _ (by omega) w hw
    · rcases List.mem_cons.1 hw with rfl|hw
      · exact Zzo (by decide) (.inl (by decide))
      · rcases List.mem_cons.1 hw with rfl|hw
        · exact fm_n (.inr (.inl rfl)) (by omega) (by omega)
        · rcases List.mem_append.1 hw with hw|hw
          · exact Wg k u (by omega) f3 _ (by omega) w hw
          · rcases List.mem_cons.1 hw with rfl|hw
            · exact fm_n (.inr (.inr (.inl rfl))) (by omega) (by omega)
            · exact Wg k v (by omega) f4 _ (by omega) w hw
theorem Zei {e:Nat} (he:e<=9007199254740992):∀{ws:List Tst},(∀w∈ws,Ya w=true)->∀y∈cdTs e ws,formedF y=true
 | [],_,y,hy=>by cases hy
 |w::r,h,y,hy=>by
  have hw:=h w (.head _)
  unfold Ya at hw
  have hw:=of_decide_eq_true hw
  rcases List.mem_cons.1 hy with rfl|hy
  · exact fm_2 (by omega) (by omega)
  · rcases List.mem_cons.1 hy with rfl|hy
    · exact Z2r hw.2.2.1 hw.2.2.2.1 hw.2.2.2.2.1 hw.2.2.2.2.2
    · rcases List.mem_cons.1 hy with rfl|hy
      · exact fm_n (.inr (.inl rfl)) (by omega) (by omega)
      · exact Zei he (fun w hw=>h w (.tail _ hw)) y hy
def ClOk (l:List Cls):Prop:=∀c∈l,Zo c.pay=true/\∀w∈c.when_,Ya w=true
theorem Zej:∀{l:List Cls} {i o:Nat},ClOk l->o+(cdCs l i o).length<=9007199254740992->i+l.length<=9007199254740992->∀y∈cdCs l i o,formedF y=true
 | [],i,o,_,_,_,y,hy=>by cases hy
 |c::r,i,o,h,ho,hi,y,hy=>by
  have e0:cdCs (c::r) i o=cdC c i o++cdCs r (i+1) (o+(cdC c i o).length):=rfl
  rw [e0] at ho hy
  rw [List.length_append] at ho
  rw [List.length_cons] at hi
  have hl:=Zls c i o
  rcases List.mem_append.1 hy with hy|hy
  · unfold cdC at hy
    simp only at hy
    rcases List.mem_append.1 hy with hy|hy
    · rcases List.mem_append.1 hy with hy|hy
      · exact Zei (by omega) (h c (.head _)).2 y hy
      · exact Wg _ _ (Nat.le_refl _) (h c (.head _)).1 _ (by omega) y hy
    · rw [List.mem_singleton.1 hy]
      exact fm_n (.inr (.inr (.inr rfl))) (by omega) (by omega)
  · exact Zej (fun d hd=>h d (.tail _ hd)) (by omega) (by omega) y hy
theorem Znk {c:List Ins} {k:Nat} (hk:k<c.length):(deps c).getD k 0=if k=0 then 0 else-1:=by
 unfold deps
 rw [Zp,List.length_replicate]
 by_cases h:k=0
 · subst h;rw [if_pos ⟨rfl,hk⟩,if_pos rfl]
 · rw [if_neg (by omega),if_neg h,List.getD_eq_getElem?_getD,List.getElem?_replicate,if_pos hk];rfl
theorem Znl {t:Tar} (h:ClOk t.clauses) (hn:t.clauses.length<=64):verF (cdT t)=if 4096<(cdT t).length\/64<dCs t.clauses then (0,2) else (dCs t.clauses,0):=by
 have hl:(cdT t).length=(cdCs t.clauses 0 0).length+1:=by unfold cdT;simp
 unfold verF
 by_cases h1:4096<(cdT t).length
 · rw [if_pos h1,if_pos (.inl h1)]
 · rw [if_neg h1]
   have hf:(cdT t).all formedF=true:=by
    rw [List.all_eq_true]
    intro y hy
    unfold cdT at hy
    rcases List.mem_append.1 hy with hy|hy
    · exact Zej h (by omega) (by omega) y hy
    · rw [List.mem_singleton.1 hy]
      exact Zzo (by decide) (.inr rfl)
   rw [if_neg (by rw [hf];rintro (h|h)<;>first|omega|cases h)]
   have hd0:(deps (cdT t)).length=(cdT t).length:=by unfold deps;simp
   obtain ⟨D,e⟩:=Zxr (len:=(cdT t).length) (l:=t.clauses) (i:=0) (o:=0) (D:=deps (cdT t)) (m:=0) (fun c hc=>(h c hc).1) hd0 (by omega) (Int.le_refl _) (by rw [Znk (by omega),if_pos rfl]) (fun k a b=>by rw [Znk b,if_neg (by omega)];decide)
   have e:fromF ((cdT t).length:Nat) (cdT t) 0 (deps (cdT t)) 0=some (D,max 0 (dCs t.clauses)):=e
   rw [e]
   have hp:=Zs5 (l:=t.clauses) fun c hc=>(h c hc).1
   unfold endF
   simp only
   rw [show max 0 (dCs t.clauses)=dCs t.clauses by omega]
   by_cases h2:64<dCs t.clauses
   · rw [if_pos h2,if_pos (.inr h2)]
   · rw [if_neg h2,if_neg (by omega)]
end
section
theorem Znq {x:Cls}:∀{l:List Cls} {i o:Nat},cdCs (l++ [x]) i o=cdCs l i o++cdC x (i+l.length) (o+(cdCs l i o).length)
 | [],i,o=>by
  show cdC x i o++ []= []++cdC x (i+0) (o+0)
  simp
 |c::r,i,o=>by
  have e0:∀r,cdCs (c::r) i o=cdC c i o++cdCs r (i+1) (o+(cdC c i o).length):=fun _=>rfl
  rw [List.cons_append,e0,e0,Znq,List.append_assoc,List.length_append,List.length_cons]
  rw [show i+1+r.length=i+(r.length+1) by omega,show o+(cdC c i o).length+(cdCs r (i+1) (o+(cdC c i o).length)).length=o+((cdC c i o).length+(cdCs r (i+1) (o+(cdC c i o).length)).length) by omega]
end
section
open Go
def CsOk:List (List Nat)->List Cls->Prop
 |_,[]=>True
 |seen,c::r=>Vn c=true/\resF c.name=false/\c.name∉seen/\c.when_.length<=8/\Y0 c.pay<=24/\CsOk (c.name::seen) r
def Zzm (m:List (List Nat×Bool)) (seen:List (List Nat)):Prop:=∀a,(Yw m a).getD false=decide (a∈seen)
theorem Zs4 {m:List (List Nat×Bool)} {seen:List (List Nat)} (h:Zzm m seen) (a:List Nat):Zzm (putS m a true) (a::seen):=by
 intro b
 rw [Zdf]
 by_cases e:a=b
 · rw [if_pos e]
   subst e
   simp
 · rw [if_neg e,h b]
   simp [Ne.symm e]
theorem Znj:∀(cs:List Cls) (a b:Bool) (m:List (List Nat×Bool)) (seen:List (List Nat)),Zzm m seen->(goC a b m cs=0↔a=false/\b=false/\CsOk seen cs)
 | [],a,b,m,seen,hm=>by
  unfold goC CsOk
  cases a<;>cases b<;>decide
 |c::r,a,b,m,seen,hm=>by
  rw [Zgc]
  unfold CsOk
  by_cases hc:Vn c=true
  · rw [if_pos hc,Znj r _ _ _ _ (Zs4 hm c.name),hm c.name]
    simp only [Bool.or_eq_false_iff,decide_eq_false_iff_not]
    constructor
    · rintro ⟨⟨⟨h1,h2⟩,h3⟩,⟨⟨h4,h5⟩,h6⟩,h7⟩
      exact ⟨h1,h4,hc,h2,h3,by omega,by omega,h7⟩
    · rintro ⟨h1,h4,_,h2,h3,h5,h6,h7⟩
      exact ⟨⟨⟨h1,h2⟩,h3⟩,⟨⟨h4,by omega⟩,by omega⟩,h7⟩
  · rw [if_neg hc]
    constructor
    · intro h
      cases h
    · rintro ⟨_,_,h,_⟩
      exact absurd h hc
theorem Zeh (t:Tar):Xh t=0↔Zer t.name=true/\1<=t.for_/\t.for_<=6/\resF t.name=false/\t.clauses.length<=64/\CsOk [] t.clauses:=by
 unfold Xh
 split
 · rename_i h
   rw [Znj _ _ _ _ [] (fun a=>by simp [Yw])]
   rw [decide_eq_false_iff_not]
   constructor
   · rintro ⟨h1,h2,h3⟩
     exact ⟨h.1,h.2.1,h.2.2,h1,by omega,h3⟩
   · rintro ⟨_,_,_,h1,h2,h3⟩
     exact ⟨h1,by omega,h3⟩
 · rename_i h
   constructor
   · intro k
     cases k
   · rintro ⟨h1,h2,h3,_⟩
     exact absurd ⟨h1,h2,h3⟩ h
theorem Zlq {c:Cls} (h:Vn c=true):Zer c.name=true/\Zo c.pay=true/\∀w∈c.when_,Ya w=true:=by
 unfold Vn at h
 rw [Bool.and_eq_true,Bool.and_eq_true] at h
 exact ⟨h.1.1,h.1.2,List.all_eq_true.1 h.2⟩
end
section
open Go
theorem Zal:∀(k:Nat) (x:Ex),x.sz<=k->Zo x=true->∀o,(cdX x o).length<=3*x.sz
 |0,x,h,_=>by have:=x.sz_pos;omega
 |k+1,x,h,hf=>by
  intro o
  rcases Y8 hf with ⟨op,n,a,b,c,e,rfl,q⟩|⟨op,n,a,b,c,e,y,z,rfl,q1,q2,f1,f2⟩|⟨n,a,b,c,e,y,z,u,v,rfl,f1,f2,f3,f4⟩
  · rw [Zj8 q]
    have:=(Ex.mk op n a b c e []).sz_pos
    simp only [List.length_cons,List.length_nil]
    omega
  · rw [sz_2] at h⊢
    rw [Zj9 q1 q2]
    have a1:=Zal k y (by omega) f1 o
    have a2:=Zal k z (by omega) f2 (o+(cdX y o).length)
    simp only [List.length_append,List.length_cons,List.length_nil]
    omega
  · rw [sz_4] at h⊢
    rw [Zka rfl rfl]
    have a1:=Zal k y (by omega) f1 o
    have a2:=Zal k z (by omega) f2 (o+(cdX y o).length)
    generalize hp:o+(cdX y o).length+(cdX z (o+(cdX y o).length)).length+2=p
    have a3:=Zal k u (by omega) f3 p
    generalize hq:p+(cdX u p).length+1=q
    have a4:=Zal k v (by omega) f4 q
    simp only [List.length_append,List.length_cons,List.length_nil]
    omega
theorem Z1l {c:Cls} {m k o:Nat} (hf:Zo c.pay=true) (hs:c.pay.sz<=m) (hw:c.when_.length<=8):(cdC c k o).length<=3*m+25:=by
 unfold cdC
 have:=Zal c.pay.sz c.pay (Nat.le_refl _) hf (o+3*c.when_.length)
 simp only [List.length_append,Yu,List.length_cons,List.length_nil]
 omega
theorem Znr {m:Nat}:∀{l:List Cls} {k o:Nat},(∀c∈l,Zo c.pay=true/\c.pay.sz<=m/\c.when_.length<=8)->(cdCs l k o).length<=(3*m+25)*l.length
 | [],_,_,_=>Nat.zero_le _
 |c::r,k,o,h=>by
  have a:=Z1l (k:=k) (o:=o) (h c List.mem_cons_self).1 (h c List.mem_cons_self).2.1 (h c List.mem_cons_self).2.2
  have b:=Znr (l:=r) (k:=k+1) (o:=o+(cdC c k o).length) fun x hx=>h x (List.mem_cons_of_mem _ hx)
  have e:(cdCs (c::r) k o).length=(cdC c k o).length+(cdCs r (k+1) (o+(cdC c k o).length)).length:=by
   show (cdC c k o++cdCs r (k+1) (o+(cdC c k o).length)).length=_
   rw [List.length_append]
  have m1:(3*m+25)*(c::r).length=(3*m+25)*r.length+(3*m+25):=by rw [List.length_cons,Nat.mul_add,Nat.mul_one]
  omega
def Yh (t:Tar):List Ins×Int:=if Xh t=0 then (if 4096<(cdT t).length\/64<dCs t.clauses then ([],2) else (cdT t,0)) else ([],Xh t)
def SmK (t:Tar):Prop:=(∀c∈t.clauses,c.pay.sz<=10000/\c.when_.length<1000000000)/\t.clauses.length<1000000000
theorem Zns:∀{cs:List Cls} {s:List (List Nat)},CsOk s cs->∀c∈cs,Vn c=true/\c.when_.length<=8
 |c::r,s,h,x,hx=>by
  obtain ⟨h1,h2,h3,h4,h5,h6⟩:=h
  rcases List.mem_cons.1 hx with rfl|hx
  · exact ⟨h1,h4⟩
  · exact Zns h6 x hx
theorem Zek {t:Tar} (h:Xh t=0):ClOk t.clauses/\t.clauses.length<=64/\∀c∈t.clauses,c.when_.length<=8:=by
 obtain ⟨-,-,-,-,c5,c6⟩:=(Zeh t).1 h
 have a:=Zns c6
 exact ⟨fun c hc=>(Zlq (a c hc).1).2,c5,fun c hc=>(a c hc).2⟩
end
section
open Go.RowKit
section
variable {Y:Thy} {E:Eng Y}
end
end
section
open Go.RowKit
section
variable {Y:Thy} {E:Eng Y}
section
variable {X α β ε:Type}
end
end
end
section
open Go.RowKit
section
variable {Y:Thy} {E:Eng Y}
def celS (E:Eng Y) (th:Y.Th) (st:Option (List (Y.dom th)×Nat)) (c:Nat):SV Y:=
 match st with
 |some p=> .sl c 0 p.1.length (E.w th) none
 |none=> .val (.slice none 0 0)
def hpP (E:Eng Y) (th:Y.Th) (st:Option (List (Y.dom th)×Nat)):Hp Y:=fun b=>
 match Nat.beq b 0 with
 |true=>some (.raw [celS E th st 1] 0 none)
 |false=>(match Nat.beq b 1 with
  |true=>(match st with|some p=>some (.rows th p.1 p.2)|none=>none)
  |false=>none)
def fzO {α:Type} (st:Option (α×Nat)):Nat:=match st with|some p=>p.2|none=>0
def mdO {α:Type} (st:Option (α×Nat)) (b c:Nat):List Nat:=match st with|some _=> [b,c]|none=> [b]
def prnR (E:Eng Y) (th:Y.Th) (st:Option (List (Y.dom th)×Nat)) (b c i:Nat) (l':List (Y.dom th)):Res Y:=
 ⟨.tup [],1,mdO st b c,fun x=>match Nat.beq x b with|true=>some (.raw [.sl i 0 l'.length (E.w th) none] 0 none)|false=>at1 i (some (.rows th l' (fzO st))) x,none⟩
def PrnC (E:Eng Y) (f:Nat) (th:Y.Th) (args:List (SV Y)) (st:Option (List (Y.dom th)×Nat)) (l':List (Y.dom th)):Prop:=
 ∀(b c:Nat) (h:Hp Y) (i:Nat) (tg:Option Y.Th),h b=some (.raw [celS E th st c] 0 tg)->(∀p,st=some p->h c=some (.rows th p.1 p.2)/\b≠c)->Zen E f (.ptr b 0::args) h i (prnR E th st b c i l')
def prnK (E:Eng Y) (th:Y.Th) (st:Option (List (Y.dom th)×Nat)) (l':List (Y.dom th)) (r:Res Y):Prop:=
 match r.v,patch (hpP E th st) 2 r 0 with
 | .tup [],some (.raw [.sl c 0 n w none] 0 _)=>
  (match Nat.ble 1 c&&Nat.beq w (E.w th),patch (hpP E th st) 2 r c with
  |true,some (.rows th' L fz')=>U8 L fun L=>L=l'/\n=l'.length/\fz'=fzO st
  |_,_=>False)
 |_,_=>False
theorem Z2b (th:Y.Th) (st:Option (List (Y.dom th)×Nat)):hpP E th st 0=some (.raw [celS E th st 1] 0 none):=rfl
theorem Vk {th:Y.Th} {st:Option (List (Y.dom th)×Nat)} {x:Nat} {y:Blk Y} (h:hpP E th st x=some y):(x=0/\y= .raw [celS E th st 1] 0 none)\/(x=1/\∃p,st=some p/\y= .rows th p.1 p.2):=by
 match x,h with
 |0,h=>rw [Z2b] at h;cases h;exact .inl ⟨rfl,rfl⟩
 |1,h=>
  cases st with
  |none=>cases h
  |some p=>
   have h:some (Blk.rows th p.1 p.2:Blk Y)=some y:=h
   cases h
   exact .inr ⟨rfl,p,rfl,rfl⟩
 |x+2,h=>cases h
theorem Zym (th:Y.Th) (st:Option (List (Y.dom th)×Nat)):DomLt (hpP E th st) 2:=fun b hb=>by
 obtain ⟨y,hy⟩:=Option.ne_none_iff_exists'.1 hb
 rcases Vk hy with ⟨rfl,_⟩|⟨rfl,_⟩<;>omega
def σP {α:Type} (st:Option α) (σ:Pl) (b c:Nat):Pl:=fun x=>
 match Nat.beq x 0 with
 |true=>σ b
 |false=>(match Nat.beq x 1 with
  |true=>(match st with|some _=>σ c|none=>none)
  |false=>none)
theorem σP_cases {α:Type} {st:Option α} {σ:Pl} {b c x:Nat} {q:Nat×Nat} (h:σP st σ b c x=some q):(x=0/\σ b=some q)\/(x=1/\(∃p,st=some p)/\σ c=some q):=by
 match x,h with
 |0,h=>exact .inl ⟨rfl,h⟩
 |1,h=>
  cases st with
  |none=>cases h
  |some p=>exact .inr ⟨rfl,⟨p,rfl⟩,h⟩
 |x+2,h=>cases h
theorem mdO_mem {α:Type} {st:Option (α×Nat)} {b c x:Nat}:x∈mdO st b c↔x=b\/(x=c/\∃p,st=some p):=by
 cases st with
 |none=>simp [mdO]
 |some p=>simp [mdO]
open Classical in
theorem Wk (hE:EngOk E) {call:Nat->List (SV Y)->Hp Y->Nat->(Res Y->Prop)->Prop} (hcall:V7 E call) {f:Nat} {th:Y.Th} {args:List (SV Y)} {st:Option (List (Y.dom th)×Nat)} {l':List (Y.dom th)} (ha:nidL 0 args=true)
 (hk:call f (.ptr 0 0::args) (hpP E th st) 2 (prnK E th st l')):PrnC E f th args st l':=by
 intro b c h i tg hb hc
 obtain ⟨r,hr,hR,htri⟩:=hcall f _ _ _ _ (Zym th st) hk
 have hmods:∀x∈r.mods,x=0\/(x=1/\∃p,st=some p):=by
  intro x hx
  obtain ⟨y,hy⟩:=Option.ne_none_iff_exists'.1 (hR x hx)
  rcases Vk hy with ⟨h1,_⟩|⟨h1,p,h2,_⟩
  · exact .inl h1
  · exact .inr ⟨h1,p,h2⟩
 unfold prnK at hr
 split at hr
 case h_2=>exact hr.elim
 rename_i c' n' w' tg' hv hp0
 split at hr
 case h_2=>exact hr.elim
 rename_i th' L fz' hc1 hpc
 obtain ⟨e,hr⟩:=Xa hr
 subst e
 obtain ⟨rfl,rfl,rfl⟩:l'=L/\n'=l'.length/\fz'=fzO st:=⟨hr.1.symm,hr.2⟩
 rw [Bool.and_eq_true,Nat.ble_eq] at hc1
 obtain ⟨hc1,hw⟩:=hc1
 have hw:=gC9 hw
 subst hw
 replace htri:Zen E f (.ptr 0 0::args) (hpP E th' st) 2 r:=htri.resolve_right (by rintro ⟨p,hp,_⟩;rw [hv] at hp;cases hp)
 intro B σ g W vals hh hrd hI hB hfree hd
 obtain rfl:hh=h:=funext fun b=>hrd b trivial
 obtain ⟨rb,zb,hσb,hbo⟩:=hI.blk b _ hb
 have hbn:hh b≠none:=by rw [hb];simp
 have F0:σP st σ b c 0=σ b:=rfl
 have F1:∀p,st=some p->σP st σ b c 1=σ c:=by rintro p rfl;rfl
 have bc:∀p,st=some p->b≠c:=fun p hp=>(hc p hp).2
 have cn:∀p,st=some p->hh c≠none:=fun p hp=>by rw [(hc p hp).1];simp
 have reg:∀p q z z',st=some p->σ b=some (q,z)->σ c=some (q,z')->False:=fun p q z z' hp h1 h2=>bc p hp (hI.inj b c q z z' hbn (cn p hp) h1 h2)
 have hI1:Inv E B (σP st σ b c) (hpP E th' st) g W:=by
  refine ⟨hI.gc,hI.gm,fun x y hx=> ?_,fun x x' r z z' h1 h2 h3 h4=> ?_,fun x r' z' hs=> ?_,fun x y r' z' o v hx hs hv=> ?_,fun x y r' z' hx hs=> ?_,hI.glob⟩
  · rcases Vk hx with ⟨rfl,rfl⟩|⟨rfl,p,hp,rfl⟩
    · refine ⟨rb,zb,hσb,?_⟩
      obtain ⟨arr,e,k1,k2,k3,k4,k5⟩:=hbo
      refine ⟨arr,e,k1,k2,k3,fun j sv hj=> ?_,trivial⟩
      cases j with
      |succ j=>cases hj
      |zero=>
       have hj:some (celS E th' st 1)=some sv:=hj
       cases hj
       obtain ⟨v,m1,m2⟩:=k4 0 _ (show ([celS E th' st c]:List (SV Y))[0]? =some _ from rfl)
       refine ⟨v,m1,?_⟩
       cases st with
       |none=>exact Yz hE m2 (fun b p hb=>by omega) (show nid 0 (celS E th' none 1)=true from rfl)
       |some p=>
        obtain ⟨r1,z1,c1,rfl,k1,k2,k3,k4,k5⟩:=Wy (show Den E σ g (.sl c 0 p.1.length (E.w th') none) v from m2)
        exact .sl (E:=E) (b:=1) k1 k2 k3 k4 k5
    · obtain ⟨r1,z1,k1,arr,e,k2,k3,k4,k5,k6⟩:=hI.blk c _ (hc p hp).1
      refine ⟨r1,z1,(F1 p hp).trans k1,arr,e,k2,k3,k4,fun j sv hj=> ?_,k6⟩
      obtain ⟨v,m1,m2⟩:=k5 j sv hj
      have hn:nid 0 sv=true:=by
       obtain ⟨q,p,x,rfl,hp,hq,hs⟩:=Y4 hE th' _ hj
       exact Z3 (hE.encI _ _ _) hs
      exact ⟨v,m1,Yz hE m2 (fun b p hb=>by omega) hn⟩
  · rcases σP_cases h3 with ⟨rfl,h3⟩|⟨rfl,⟨p,hp⟩,h3⟩<;>rcases σP_cases h4 with ⟨rfl,h4⟩|⟨rfl,⟨p',hp'⟩,h4⟩
    · rfl
    · exact (reg p' _ _ _ hp' h3 h4).elim
    · exact (reg p _ _ _ hp h4 h3).elim
    · rfl
  · rcases σP_cases hs with ⟨rfl,hs⟩|⟨rfl,_,hs⟩
    · exact hI.base b _ _ hs
    · exact hI.base c _ _ hs
  · rcases Vk hx with ⟨rfl,rfl⟩|⟨rfl,p,hp,rfl⟩
    · have h2:o<0:=hI.fz b _ _ _ o v hb hs hv
      omega
    · rw [F1 p hp] at hs
      exact hI.fz c _ _ _ o v (hc p hp).1 hs hv
  · rcases Vk hx with ⟨rfl,rfl⟩|⟨rfl,p,hp,rfl⟩
    · exact hI.fm b _ _ _ hb hs
    · rw [F1 p hp] at hs
      exact hI.fm c _ _ _ (hc p hp).1 hs
 have hd1:DenL E (σP st σ b c) g (.ptr 0 0::args) vals.toList:=by
  refine ⟨by rw [<-hd.1];rfl,fun j sv u h1 h2=> ?_⟩
  cases j with
  |zero=>
   simp at h1;subst h1
   have:=hd.2 0 _ u rfl h2
   cases this
   rename_i hs
   exact .ptr (E:=E) (b:=0) hs
  |succ j=>
   have h1:args[j]? =some sv:=by simpa using h1
   exact Yz hE (hd.2 (j+1) sv u (by simpa using h1) h2) (fun b p hb=>by omega) (Z3 ha h1)
 refine (htri B _ g W vals _ (fun _ _=>rfl) hI1 hB (fun x h1 h2=>by match x,h1 with|x+2,_=>rfl) hd1).mono ?_
 rintro en w' ⟨u,he,σ',g',hS,hI',hv'⟩
 have hs0:σ' 0=some (rb,zb):=hS.sig 0 _ hσb
 obtain ⟨r1,z1,k1⟩:∃r1 z1,σ' c'=some (r1,z1):=by
  obtain ⟨r1,z1,m1,_⟩:=hI'.blk c' _ hpc
  exact ⟨r1,z1,m1⟩
 have hc0:c'≠0:=by omega
 have hne0:patch (hpP E th' st) 2 r 0≠none:=by rw [hp0];simp
 have hnec:patch (hpP E th' st) 2 r c'≠none:=by rw [hpc];simp
 have hrb:r1≠rb:=by
  rintro rfl
  exact hc0 (hI'.inj c' 0 _ _ _ hnec hne0 k1 hs0)
 have hr1:W.heap.size<=r1\/∃z' p,st=some p/\σ c=some (r1,z'):=by
  cases hs1:σP st σ b c c' with
  |some q=>
   have:=hS.sig c' _ hs1
   rw [k1] at this;cases this
   rcases σP_cases hs1 with ⟨h0,_⟩|⟨_,⟨p,hp⟩,h2⟩
   · exact absurd h0 hc0
   · exact .inr ⟨z1,p,hp,h2⟩
  |none=>
   rcases hS.blk c' r1 z1 hs1 k1 with h1|⟨b',h1,z',h2⟩
   · exact .inl h1
   · rcases σP_cases h2 with ⟨rfl,h3⟩|⟨_,⟨p,hp⟩,h3⟩
     · rw [hσb] at h3;cases h3;exact absurd rfl hrb
     · exact .inr ⟨z',p,hp,h3⟩
 have hheap:∀q,q<W.heap.size->q≠rb->(∀p z,st=some p->σ c≠some (q,z))->w'.heap[q]? =W.heap[q]? :=by
  intro q hq hne hne2
  refine hS.heap q hq fun b' hb' z' hz'=> ?_
  rcases σP_cases hz' with ⟨rfl,h2⟩|⟨_,⟨p,hp⟩,h2⟩
  · rw [hσb] at h2;cases h2;exact hne rfl
  · exact hne2 p z' hp h2
 have hi:σ i=none:=hfree i (Nat.le_refl _) (by show i<i+1;omega)
 have hbi:b≠i:=by rintro rfl;rw [hσb] at hi;cases hi
 have hci:∀p,st=some p->c≠i:=by
  rintro p hp rfl
  obtain ⟨r2,z2,m1,_⟩:=hI.blk c _ (hc p hp).1
  rw [hi] at m1;cases m1
 have hpatch:∀x,patch hh i (prnR E th' st b c i l') x=if x=b then some (.raw [.sl i 0 l'.length (E.w th') none] 0 none) else if x=i then some (.rows th' l' (fzO st)) else if x=c/\(∃p,st=some p) then none else hh x:=by
  intro x
  rw [Zj]
  by_cases e1:x=b
  · subst e1
    rw [if_pos (.inl (mdO_mem.2 (.inl rfl))),if_pos rfl]
    show (match Nat.beq x x with|true=>_|false=>_)=_
    rw [Nat.beq_refl]
  · rw [if_neg e1]
    have hb1:Nat.beq x b=false:=by
     cases e:Nat.beq x b with
     |true=>exact absurd (gC9 e) e1
     |false=>rfl
    have hh1:(prnR E th' st b c i l').h x=at1 i (some (.rows th' l' (fzO st))) x:=by
     show (match Nat.beq x b with|true=>_|false=>_)=_
     rw [hb1]
    by_cases e2:x=i
    · subst e2
      rw [if_pos (.inr ⟨Nat.le_refl _,(by show x<x+1;omega)⟩),if_pos rfl,hh1]
      unfold at1
      rw [Nat.beq_refl]
    · rw [if_neg e2]
      have hat:at1 i (some (.rows th' l' (fzO st):Blk Y)) x=none:=by
       unfold at1
       cases e:Nat.beq x i with
       |true=>exact absurd (gC9 e) e2
       |false=>rfl
      by_cases e3:x=c/\∃p,st=some p
      · rw [if_pos e3,if_pos (.inl (mdO_mem.2 (.inr e3))),hh1,hat]
      · rw [if_neg e3,if_neg]
        rintro (k|k)
        · rcases mdO_mem.1 k with k|k
          · exact e1 k
          · exact e3 k
        · have k:i<=x/\x<i+1:=k
          omega
 have src:∀x y,patch hh i (prnR E th' st b c i l') x=some y->(x=b/\y= .raw [.sl i 0 l'.length (E.w th') none] 0 none)\/(x=i/\y= .rows th' l' (fzO st))\/(x≠i/\x≠b/\(∀p,st=some p->x≠c)/\hh x=some y):=by
  intro x y hy
  rw [hpatch] at hy
  split at hy
  · rename_i e
    cases hy
    exact .inl ⟨e,rfl⟩
  · rename_i e
    split at hy
    · rename_i e2
      cases hy
      exact .inr (.inl ⟨e2,rfl⟩)
    · rename_i e2
      split at hy
      · cases hy
      · rename_i e3
        exact .inr (.inr ⟨e2,e,fun p hp hx=>e3 ⟨hx,p,hp⟩,hy⟩)
 have sgi:(match Nat.beq i i with|true=>σ' c'|false=>σ i)=some (r1,z1):=by rw [Nat.beq_refl];exact k1
 have sgx:∀x,x≠i->(match Nat.beq x i with|true=>σ' c'|false=>σ x)=σ x:=by
  intro x hx
  cases e:Nat.beq x i with
  |true=>exact absurd (gC9 e) hx
  |false=>rfl
 have far:∀x y q z',x≠b->(∀p,st=some p->x≠c)->hh x=some y->σ x=some (q,z')->q<W.heap.size/\q≠rb/\(∀p z,st=some p->σ c≠some (q,z)):=by
  intro x y q z' hx hx2 hy hs
  have hxn:hh x≠none:=by rw [hy];simp
  refine ⟨(hI.base x q z' hs).2,?_,fun p z hp hq=>hx2 p hp (hI.inj x c _ _ _ hxn (cn p hp) hs hq)⟩
  rintro rfl
  exact hx (hI.inj x b _ _ _ hxn hbn hs hσb)
 have far1:∀x y q z',x≠b->(∀p,st=some p->x≠c)->hh x=some y->σ x=some (q,z')->q≠r1:=by
  rintro x y q z' hx hx2 hy hs rfl
  obtain ⟨m1,m2,m3⟩:=far x y q z' hx hx2 hy hs
  rcases hr1 with h1|⟨z2,p,hp,h1⟩
  · omega
  · exact m3 p z2 hp h1
 have far0:rb<W.heap.size:=(hI.base b _ _ hσb).2
 refine ⟨_,he,fun x=>match Nat.beq x i with|true=>σ' c'|false=>σ x,g',⟨fun x p hx=> ?_,fun x p hx=> ?_,hS.gle,fun q o v hv=> ?_,hS.gmnew,fun q hq hne=> ?_,hS.size,hS.os,hS.tape,hS.output,fun x q z' hx hx'=> ?_⟩,?_,?_⟩
 · exact (sgx x (fun e=>by rw [e,hi] at hx;cases hx)).trans hx
 · by_cases e:x=i
   · exact .inr (by show i<=x/\x<i+1;omega)
   · have hx:(match Nat.beq x i with|true=>σ' c'|false=>σ x)=some p:=hx
     rw [sgx x e] at hx
     exact .inl hx
 · rcases hS.gcnew q o v hv with h1|h1|⟨b',h1,z',h2⟩
   · exact .inl h1
   · exact .inr (.inl h1)
   · rcases σP_cases h2 with ⟨rfl,h2⟩|⟨_,hp,h2⟩
     · exact .inr (.inr ⟨b,mdO_mem.2 (.inl rfl),_,h2⟩)
     · exact .inr (.inr ⟨c,mdO_mem.2 (.inr ⟨rfl,hp⟩),_,h2⟩)
 · exact hheap q hq (fun e=>hne b (mdO_mem.2 (.inl rfl)) zb (by rw [hσb,e])) fun p z hp=>hne c (mdO_mem.2 (.inr ⟨rfl,p,hp⟩)) z
 · have hx':(match Nat.beq x i with|true=>σ' c'|false=>σ x)=some (q,z'):=hx'
   by_cases e:x=i
   · subst e
     rw [sgi] at hx';cases hx'
     rcases hr1 with h1|⟨z2,p,hp,h1⟩
     · exact .inl h1
     · exact .inr ⟨c,mdO_mem.2 (.inr ⟨rfl,p,hp⟩),z2,h1⟩
   · rw [sgx x e,hx] at hx';cases hx'
 · refine ⟨hI'.gc,hI'.gm,fun x y hx=> ?_,fun x x' q z1' z2' h1 h2 h3 h4=> ?_,fun x q z' hs=> ?_,fun x y q z' o v hx hs hv=> ?_,fun x y q z' hx hs=> ?_,hI'.glob⟩
   · rcases src x y hx with ⟨rfl,rfl⟩|⟨rfl,rfl⟩|⟨e1,e2,e3,e4⟩
     · refine ⟨rb,zb,(sgx x hbi).trans hσb,?_⟩
       obtain ⟨r2,z2,m1,arr,e,n1,n2,n3,n4,n5⟩:=hI'.blk 0 _ hp0
       rw [hs0] at m1;cases m1
       refine ⟨arr,e,n1,n2,n3,fun j sv hj=> ?_,trivial⟩
       cases j with
       |succ j=>cases hj
       |zero=>
        have hj:some (SV.sl i 0 l'.length (E.w th') none:SV Y)=some sv:=hj
        cases hj
        obtain ⟨v,q1,q2⟩:=n4 0 _ (show ([.sl c' 0 l'.length (E.w th') none]:List (SV Y))[0]? =some _ from rfl)
        refine ⟨v,q1,?_⟩
        obtain ⟨r3,z3,c3,rfl,u1,u2,u3,u4,u5⟩:=Wy (show Den E σ' g' (.sl c' 0 l'.length (E.w th') none) v from q2)
        refine .sl (E:=E) (b:=i) (z:=z3) ?_ u2 u3 u4 u5
        show (match Nat.beq i i with|true=>σ' c'|false=>σ i)=_
        rw [Nat.beq_refl]
        exact u1
     · refine ⟨r1,z1,sgi,?_⟩
       obtain ⟨r2,z2,m1,m2⟩:=hI'.blk c' _ hpc
       rw [k1] at m1;cases m1
       obtain ⟨arr,e,m1,m3,m4,m5,m6⟩:=m2
       refine ⟨arr,e,m1,m3,m4,fun j sv hj=> ?_,m6⟩
       obtain ⟨v,n1,n2⟩:=m5 j sv hj
       have hn:nid 0 sv=true:=by
        obtain ⟨q,p,x,rfl,hp,hq,hs⟩:=Y4 hE th' _ hj
        exact Z3 (hE.encI _ _ _) hs
       exact ⟨v,n1,Yz hE n2 (fun b p hb=>by omega) hn⟩
     · obtain ⟨q,z',m1,m2⟩:=hI.blk x y e4
       obtain ⟨m3,m4,m5⟩:=far x y q z' e2 e3 e4 m1
       refine ⟨q,z',(sgx x e1).trans m1,?_⟩
       refine m2.mono (fun x p hx=> ?_) hS.gle (hheap q m3 m4 m5)
       show (match Nat.beq x i with|true=>σ' c'|false=>σ x)=some p
       rw [sgx x (fun e=>by rw [e,hi] at hx;cases hx)]
       exact hx
   · obtain ⟨y,hy⟩:=Option.ne_none_iff_exists'.1 h1
     obtain ⟨y',hy'⟩:=Option.ne_none_iff_exists'.1 h2
     rcases src x y hy with ⟨rfl,rfl⟩|⟨rfl,rfl⟩|⟨e1,e2,e3,e4⟩<;>rcases src x' y' hy' with ⟨rfl,rfl⟩|⟨rfl,rfl⟩|⟨d1,d2,d3,d4⟩
     · rfl
     · rw [sgx x hbi,hσb] at h3;cases h3
       rw [sgi] at h4;cases h4
       exact absurd rfl hrb
     · rw [sgx x hbi,hσb] at h3;cases h3
       rw [sgx x' d1] at h4
       exact absurd rfl (far x' y' _ _ d2 d3 d4 h4).2.1
     · rw [sgi] at h3;cases h3
       rw [sgx x' hbi,hσb] at h4;cases h4
       exact absurd rfl hrb
     · rfl
     · rw [sgi] at h3;cases h3
       rw [sgx x' d1] at h4
       exact absurd rfl (far1 x' y' _ _ d2 d3 d4 h4)
     · rw [sgx x' hbi,hσb] at h4;cases h4
       rw [sgx x e1] at h3
       exact absurd rfl (far x y _ _ e2 e3 e4 h3).2.1
     · rw [sgi] at h4;cases h4
       rw [sgx x e1] at h3
       exact absurd rfl (far1 x y _ _ e2 e3 e4 h3)
     · rw [sgx x e1] at h3
       rw [sgx x' d1] at h4
       exact hI.inj x x' q _ _ (by rw [e4];simp) (by rw [d4];simp) h3 h4
   · by_cases e:x=i
     · subst e
       rw [sgi] at hs;cases hs
       exact hI'.base c' _ _ k1
     · rw [sgx x e] at hs
       exact ⟨(hI.base x q z' hs).1,Nat.lt_of_lt_of_le (hI.base x q z' hs).2 hS.size⟩
   · rcases src x y hx with ⟨rfl,rfl⟩|⟨rfl,rfl⟩|⟨e1,e2,e3,e4⟩
     · rw [sgx x hbi,hσb] at hs;cases hs
       have h2:o<0:=hI'.fz 0 _ _ _ o v hp0 hs0 hv
       omega
     · rw [sgi] at hs;cases hs
       exact hI'.fz c' _ _ _ o v hpc k1 hv
     · rw [sgx x e1] at hs
       obtain ⟨m3,m4,m5⟩:=far x y q z' e2 e3 e4 hs
       rcases hS.gcnew q o v hv with h1|h1|⟨b',h1,z2,h2⟩
       · exact hI.fz x y q z' o v e4 hs h1
       · omega
       · rcases σP_cases h2 with ⟨rfl,h3⟩|⟨_,⟨p,hp⟩,h3⟩
         · rw [hσb] at h3;cases h3;exact absurd rfl m4
         · exact absurd h3 (m5 p z2 hp)
   · rcases src x y hx with ⟨rfl,rfl⟩|⟨rfl,rfl⟩|⟨e1,e2,e3,e4⟩
     · rw [sgx x hbi,hσb] at hs;cases hs
       exact hI'.fm 0 _ _ _ hp0 hs0
     · rw [sgi] at hs;cases hs
       exact hI'.fm c' _ _ _ hpc k1
     · rw [sgx x e1] at hs
       obtain ⟨m3,m4,m5⟩:=far x y q z' e2 e3 e4 hs
       cases hg':g'.obj q with
       |none=>rfl
       |some es=>
        rcases hS.gmnew q es hg' with k|k
        · rw [hI.fm x y q z' e4 hs] at k;cases k
        · omega
 · rw [hv] at hv'
   exact Yz hE hv' (fun b p hb=>by omega) (show nid 0 (SV.tup ([]:List (SV Y)))=true from rfl)
def sumB (E:Eng Y) (th:Y.Th) {α:Type} (d:DcL E α) (pre:List (Y.dom th)->α->Prop) (f:List (Y.dom th)->α->List (Y.dom th)):Sum Y:=fun args h i k=>
 match args with
 | .ptr b 0::rest=>
  (match h b,d.dec rest with
  |some (.raw [.sl c 0 len w none] 0 _),some x=>
   (match h c,Nat.beq w (E.w th)&& !(Nat.beq b c) with
   |some (.rows th' l fz),true=>U8 l fun l=>(len=l.length/\fz<=l.length/\pre l x)/\∀l',l'=f l x->k (prnR E th (some (l,fz)) b c i l')
   |_,_=>False)
  |some (.raw [.val (.slice none 0 0)] 0 _),some x=>pre [] x/\∀l',l'=f [] x->k (prnR E th none b 0 i l')
  |_,_=>False)
 |_=>False
def Zyn (E:Eng Y) (f:Nat) (th:Y.Th) (args:List (SV Y)) (F:List (Y.dom th)->List (Y.dom th)) (P:List (Y.dom th)->Prop):Prop:=
 (∀l fz,fz<=l.length->P l->PrnC E f th args (some (l,fz)) (F l))/\(P []->PrnC E f th args none (F []))
theorem PrnC.of_dec {α:Type} {d:DcL E α} {f:Nat} {th:Y.Th} {args:List (SV Y)} {x:α} {st:Option (List (Y.dom th)×Nat)} {l':List (Y.dom th)} (hd:d.dec args=some x) (h:PrnC E f th (d.enc x) st l'):PrnC E f th args st l':=by
 obtain ⟨k1,k2,k3⟩:=d.ok _ _ hd
 intro b c hp i tg h1 h2 B σ g w vals hh hrd hI hB hfree hden
 refine h b c hp i tg h1 h2 B σ g w vals hh hrd hI hB hfree ⟨?_,fun j sv' u h5 h6=> ?_⟩
 · rw [<-hden.1,List.length_cons,List.length_cons,k2]
 · cases j with
   |zero=>exact hden.2 0 sv' u h5 h6
   |succ j=>
    obtain ⟨sv,h7,h8⟩:=k3 σ g j sv' (by simpa using h5)
    exact h8 u (hden.2 (j+1) sv u (by simpa using h7) h6)
theorem Zqw (hE:EngOk E) {th:Y.Th} {α:Type} {f:Nat} (hg:FnGood E.P f) {d:DcL E α} {pre:List (Y.dom th)->α->Prop} {F:List (Y.dom th)->α->List (Y.dom th)} (hp:∀x,Zyn E f th (d.enc x) (fun l=>F l x) (fun l=>pre l x)):SumOk E f (sumB E th d pre F):=by
 refine ⟨hg,fun args h i k hD hk=> ?_⟩
 unfold sumB at hk
 split at hk
 case h_2=>exact hk.elim
 rename_i b rest
 split at hk
 case h_3=>exact hk.elim
 · rename_i c len w tg x hb hx
   split at hk
   case h_2=>exact hk.elim
   rename_i th' l fz hc hw
   rw [Bool.and_eq_true,Bool.not_eq_true'] at hw
   obtain ⟨hw,hbc⟩:=hw
   have hw:=gC9 hw
   have hbc:=nb hbc
   obtain ⟨e,hk2⟩:=Xa hk
   clear hk
   subst e
   subst hw
   obtain ⟨⟨rfl,hfz,hpr⟩,hk3⟩:=hk2
   refine ⟨_,hk3 _ rfl,fun b' hb'=> ?_,.inl (PrnC.of_dec hx ((hp x).1 l fz hfz hpr) b c h i tg hb fun p hp=> ?_)⟩
   · rcases mdO_mem.1 (show b'∈mdO (some (l,fz)) b c from hb') with rfl|⟨rfl,_⟩
     · rw [hb];simp
     · rw [hc];simp
   · cases hp
     exact ⟨hc,hbc⟩
 · rename_i tg x hb hx
   obtain ⟨hpr,hk3⟩:=hk
   refine ⟨_,hk3 _ rfl,fun b' hb'=> ?_,.inl (PrnC.of_dec hx ((hp x).2 hpr) b 0 h i tg hb fun p hp=>by cases hp)⟩
   rcases mdO_mem.1 (show b'∈mdO (none:Option (List (Y.dom th)×Nat)) b 0 from hb') with rfl|⟨_,_,h2⟩
   · rw [hb];simp
   · cases h2
end
end
section
open Go
def Zxp:Sum thy:=sumF E (fun _=>none) 10 (dA1 (dR .tariffs)) (fun x=>(∀c∈Tar.clauses x.1,c.pay.sz<1000000000000/\c.when_.length<1000000000000)/\(Tar.clauses x.1).length<1000000000000) fun x=> .int false .i64 (Xh x.1)
theorem Zsy:SumOk E 14 Zxp:=Zr9 E_ok (Zk (f:=14) rfl) fun x h=>Zos _ h.1 h.2
end
end Go.Proofs.YtpepmaehafjfbaaDoor
end
