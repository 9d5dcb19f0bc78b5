/- Merged texts: TtTop, TtDoor, TtTop2, TvX, EngZH, EngZI, EngZJ, TpA, TtA, TtS, TtD, TtE, TvLay, TtG, TpB, TpC, TpD, EngZK, TpE, TpF, TtF, TtH, TpG. -/
import Derived.Test.YtpmkapclhlmbbaaGreatDoorTie
import Derived.Test.YtpmkapclhlmbbaaGreatDoorCards
import Derived.Stop.Joined
import Derived.SevenTiedAt
import Derived.WideKeyElems2
import Derived.Lay
import Derived.MakeChecks
import Derived.SizedLaws
import Derived.ChangeMaps5
import Derived.Shelf.Strings.SlTrimAscii
import Derived.Shelf.Strings.Builder1
import Derived.Shelf.Strings.Count
import Derived.Shelf.Strconv.AtoiAll
import Derived.Shelf.Strconv.Itoa3
import Derived.Shelf.Strconv.Itoa0
import Derived.Shelf.Strconv.Itoa1
import Derived.Test.YtpmkapclhlmbbaaGreatDoorProg
import Derived.Test.YtpmkapclhlmbbaaGreatDoorMc
noncomputable section
namespace Go.Proofs.YtpmkapclhlmbbaaGreatDoor
set_option linter.unusedVariables false
set_option linter.unusedSimpArgs false
set_option linter.unnecessarySimpa false
set_option maxRecDepth 100000
section
open Go.ChangeShapes Go.WideShapes Go.ChangeAt Go.RowKit
theorem Z3a {H:Type} {enc:TypeId×Value->H} {P:Program} {w:World} {spare:Nat->Bool} {held:Bool} {fuel:Nat} {t:TypeId} {cs:List Value} {k k':IntKind} {n:Int} {p:List MemPlace} (ht:P.underlying t=some (.int k))
 (h:DataW.trod enc P w 0 spare held fuel t cs=some (.lit (.int k' n),p)):cs= [.int k' n]:=by
 cases fuel with
 |zero=>simp [DataW.trod] at h
 |succ m=>
  unfold DataW.trod at h
  rw [ht] at h
  split at h<;>simp_all
theorem Zl6 {P:Program} {W:World} {name:String} {d:DataW Unit} {nums:List Int} {kd:IntKind} {g n:Nat} {t el:TypeId} (hg0:P.globalNamed name=some g) (ht0:(P.globals[g]?).map (·.type)=some t) (hd0:d= .agg (nums.map fun n=> .lit (.int kd n)))
 (hu:P.underlying t=some (.array n el)) (hue:P.underlying el=some (.int kd)) (hc:P.cellsOf el=1) (hn:nums.length=n) (h:laidMet P [(name,d)] W) (j:Nat) (x:Int) (hj:nums[j]? =some x):W.cell? ⟨g,j,none⟩=some (.int kd x):=by
 obtain ⟨ps,⟨g',t',cs,fuel,p,q,hg,ht,hv,hd,_,_⟩,_⟩:=h
 obtain rfl:=Option.some.inj (hg0.symm.trans hg)
 obtain rfl:=Option.some.inj (ht0.symm.trans ht)
 rw [hd0] at hd
 obtain ⟨xs,m,rfl,hx,hl,hxl,hf⟩:=DataW.trod_array hu hd
 simp only [Prod.mk.injEq,DataW.agg.injEq] at hx
 have hjn:j<n:=by rw [<-hn];exact (gA9.1 hj).1
 have h1:=hf j hjn
 have h2:(xs.map (·.1))[j]? =some (.lit (.int kd x)):=by rw [<-hx.1,List.getElem?_map,hj];rfl
 rw [List.getElem?_map] at h2
 obtain ⟨y,hy1,hy2⟩:=Option.map_eq_some_iff.1 h2
 rw [hy1,hc,Nat.mul_one] at h1
 obtain ⟨d',p'⟩:=y
 obtain rfl:d'=_:=hy2
 have h3:=Z3a hue h1
 rw [World.var?_cell hg hv j]
 have h4:((cs.toList.drop j).take 1)[0]? =some (.int kd x):=by rw [h3];rfl
 rw [List.getElem?_take,if_pos (by decide),List.getElem?_drop] at h4
 simpa using h4
theorem Z3b {H:Type} {enc:TypeId×Value->H} {P:Program} {w:World} {spare:Nat->Bool} {held:Bool} {fuel:Nat} {t:TypeId} {cs:List Value} {s:List UInt8} {p:List MemPlace} (ht:P.underlying t=some .string)
 (h:DataW.trod enc P w 0 spare held fuel t cs=some (.lit (.string s),p)):cs= [.string ⟨s.toArray⟩]:=by
 cases fuel with
 |zero=>simp [DataW.trod] at h
 |succ m=>
  unfold DataW.trod at h
  rw [ht] at h
  split at h
  all_goals simp_all
  rw [<-h.2.1]
theorem Zy2 {P:Program} {W:World} {name:String} {d:DataW Unit} {nums:List (List Nat)} {g n:Nat} {t el:TypeId} (hg0:P.globalNamed name=some g) (ht0:(P.globals[g]?).map (·.type)=some t) (hd0:d= .agg (nums.map fun s=> .lit (.string (s.map UInt8.ofNat))))
 (hu:P.underlying t=some (.array n el)) (hue:P.underlying el=some .string) (hc:P.cellsOf el=1) (hn:nums.length=n) (h:laidMet P [(name,d)] W) (j:Nat) (x:List Nat) (hj:nums[j]? =some x):W.cell? ⟨g,j,none⟩=some (.string (mkS x)):=by
 obtain ⟨ps,⟨g',t',cs,fuel,p,q,hg,ht,hv,hd,_,_⟩,_⟩:=h
 obtain rfl:=Option.some.inj (hg0.symm.trans hg)
 obtain rfl:=Option.some.inj (ht0.symm.trans ht)
 rw [hd0] at hd
 obtain ⟨xs,m,rfl,hx,hl,hxl,hf⟩:=DataW.trod_array hu hd
 simp only [Prod.mk.injEq,DataW.agg.injEq] at hx
 have hjn:j<n:=by rw [<-hn];exact (gA9.1 hj).1
 have h1:=hf j hjn
 have h2:(xs.map (·.1))[j]? =some (.lit (.string (x.map UInt8.ofNat))):=by rw [<-hx.1,List.getElem?_map,hj];rfl
 rw [List.getElem?_map] at h2
 obtain ⟨y,hy1,hy2⟩:=Option.map_eq_some_iff.1 h2
 rw [hy1,hc,Nat.mul_one] at h1
 obtain ⟨d',p'⟩:=y
 obtain rfl:d'=_:=hy2
 have h3:=Z3b hue h1
 rw [World.var?_cell hg hv j]
 have h4:((cs.toList.drop j).take 1)[0]? =some (.string (mkS x)):=by rw [h3];rfl
 rw [List.getElem?_take,if_pos (by decide),List.getElem?_drop] at h4
 simpa using h4
abbrev Zf6:List (String×DataW Unit):= [("math/bits.deBruijn32tab",Rows.laid_math_bits_deBruijn32tab),("math/bits.deBruijn64tab",Rows.laid_math_bits_deBruijn64tab),("internal/strconv.uint64pow10",Rows.laid_internal_strconv_uint64pow10),("unicode/utf8.acceptRanges",Rows.laid_unicode_utf8_acceptRanges),("strconv.ErrRange",Rows.laid_strconv_ErrRange),("strconv.ErrSyntax",Rows.laid_strconv_ErrSyntax),("unicode.White_Space",Rows.laid_unicode_White_Space),("strings.asciiSpace",Rows.laid_strings_asciiSpace),("wagonpool/tlex.signs",Rows.laid_wagonpool_tlex_signs),("wagonpool/tlex.reserved",Rows.laid_wagonpool_tlex_reserved),("wagonpool/tcode.names",Rows.laid_wagonpool_tcode_names),("unicode/utf8.first",Rows.laid_unicode_utf8_first)]
def litV:Value->Lit
 | .int q n=> .int q n
 | .string s=> .string s.data.toList
 | .bool b=> .bool b
 |_=> .bool false
def cvl:SV thy->Value
 | .bool _ b=> .bool b
 | .str _ s=> .string (mkS s)
 |_=>undef
def okC:SV thy->Bool
 | .bool _ _=>true
 | .str _ s=>s.all fun n=>decide (n<256)
 |_=>false
def okK (q:Option IntKind):Value->Bool
 | .int k _=>decide (q=some k)
 | .string _=>decide (q=none)
 |_=>false
def Zy3:Value->List Nat
 | .int _ n=> [n.toNat]
 | .string s=>toL s
 |_=> []
def rowD (p:Value×SV thy):Lit×DataW Unit:=(litV p.1,.lit (litV (cvl p.2)))
theorem Z3c {P:Program} {t:TypeId} {q:IntKind} (ht:P.underlying t=some (.int q)) {v:Value} {n:Int} (h:keyOf P t v=some (.int q n)):v= .int q n:=by
 unfold keyOf at h
 rw [ht] at h
 simp only [] at h
 unfold mapKey at h
 rw [ht] at h
 cases v with
 |int q' m=>
  simp only [] at h
  split at h
  · rename_i hq
    cases h
    rw [hq.1]
  · cases h
 |_=>simp at h
theorem Zl7 {a b:ByteArray} (h:a.data.toList=b.data.toList):a=b:=Ziw (by unfold toL;rw [h])
theorem Z3d {P:Program} {t:TypeId} (ht:P.underlying t=some .string) {v:Value} {s:ByteArray} (h:keyOf P t v=some (.string s.data.toList)):v= .string s:=by
 unfold keyOf at h
 rw [ht] at h
 simp only [] at h
 unfold mapKey at h
 rw [ht] at h
 cases v with
 |string s'=>
  simp only [] at h
  split at h
  · injection h with h
    injection h with h
    rw [Zl7 h]
  · cases h
 |_=>simp at h
def keyT:Option IntKind->TypeDesc
 |some kd=> .int kd
 |none=> .string
theorem Z3e {P:Program} {t:TypeId} {q:Option IntKind} (ht:P.underlying t=some (keyT q)) {v c:Value} (hc:okK q c=true) (h:keyOf P t v=some (litV c)):v=c:=by
 cases c with
 |int k n=>
  have hq:q=some k:=by simpa [okK] using hc
  rw [hq] at ht
  exact Z3c ht h
 |string s=>
  have hq:q=none:=by simpa [okK] using hc
  rw [hq] at ht
  exact Z3d ht h
 |_=>simp [okK] at hc
theorem Z3f {P:Program} {e:TypeId} (hu:P.underlying e=some .bool\/P.underlying e=some .string) {v c:Value} (hf:v.formed P e=true) (h:v.cells.toList= [c]):v=c:=by
 cases v with
 |agg cs=>rcases hu with hu|hu<;>simp [Value.formed,hu] at hf
 |_=>simpa [Value.cells] using h
theorem Z3g {H:Type} {enc:TypeId×Value->H} {P:Program} {w:World} {sp:Nat->Bool} {held:Bool} {n:Nat} {e:TypeId} (hu:P.underlying e=some .bool\/P.underlying e=some .string) {v c:Value} {sv:SV thy} {y:DataW H×List MemPlace} (hsv:okC sv=true) (hc:c=cvl sv) (h:WideElems.elemAt enc P w 0 sp held n e v=some y) (hy:y.1= .lit (litV c)):v=c:=by
 unfold WideElems.elemAt at h
 split at h
 · rename_i hf
   refine Z3f hu hf ?_
   obtain ⟨d,p⟩:=y
   have hy:d= .lit (litV c):=hy
   subst hy
   cases n with
   |zero=>simp [DataW.trod] at h
   |succ m=>
    unfold DataW.trod at h
    cases sv with
    |bool l b=>
     have hc:c= .bool b:=hc
     subst hc
     rcases hu with hu|hu<;>rw [hu] at h<;>split at h<;>simp_all [litV]
    |str l s=>
     have hc:c= .string (mkS s):=hc
     subst hc
     rcases hu with hu|hu<;>rw [hu] at h<;>split at h<;>simp_all [litV]
     exact congrArg Value.string (Zl7 (by rw [h.2.1]))
    |_=>simp [okC] at hsv
 · cases h
theorem Z7k {σ:Nat->Option (Nat×Nat)} {g:GH} {sv:SV thy} (h:okC sv=true):Den E σ g sv (cvl sv):=by
 cases sv with
 |bool l b=>exact .bool _ _
 |str l s=>
  refine .str _ ?_
  have h:∀n∈s,n<256:=by simpa [okC] using h
  unfold toL mkS
  show (List.map UInt8.toNat (List.map UInt8.ofNat s))=s
  rw [List.map_map]
  refine (List.map_congr_left fun n hn=> ?_).trans (List.map_id s)
  show (UInt8.ofNat n).toNat=id n
  rw [UInt8.toNat_ofNat']
  exact Nat.mod_eq_of_lt (h n hn)
 |_=>simp [okC] at h
theorem Zhl {H:Type} {p:Lit×DataW H}:∀{l:List (Lit×DataW H)},p∈l.foldr DataW.insert []↔p∈l
 | []=>Iff.rfl
 |x::l=>by
  rw [List.foldr_cons,(insert_perm x _).mem_iff,List.mem_cons,List.mem_cons,Zhl]
theorem Zq6 {P:Program} {W:World} {name:String} {d:DataW Unit} {LS:List (Value×SV thy)} {D:List (Lit×DataW Unit)} {π π':List Nat} {q:Option IntKind} {g:Nat} {t k e:TypeId} (hg0:P.globalNamed name=some g) (ht0:(P.globals[g]?).map (·.type)=some t) (hd0:d= .map D) (hu:P.underlying t=some (.map k e))
 (hk:P.underlying k=some (keyT q)) (he:P.underlying e=some .bool\/P.underlying e=some .string) (hD:D=π.filterMap fun i=>(LS[i]?).map rowD) (hL:LS.map rowD=π'.filterMap fun i=>D[i]?)
 (hok:(LS.all fun p=>okK q p.1&&okC p.2)=true) (hn:(LS.map fun p=>Zy3 p.1).Nodup) (h:laidMet P [(name,d)] W):∃v,W.cell? ⟨g,0,none⟩=some v/\Den E σ0 (gTop W) (.pmap LS) v:=by
 obtain ⟨ps,⟨g',t',cs,fuel,p,q',hg,ht,hv,hd,_,_⟩,_⟩:=h
 obtain rfl:=Option.some.inj (hg0.symm.trans hg)
 obtain rfl:=Option.some.inj (ht0.symm.trans ht)
 rw [hd0] at hd
 rcases WideElems.open_map hu hd with ⟨_,hx⟩|⟨b,es,clk,n,rfl,hcs,hb,_,F,hx⟩
 · simp at hx
 simp only [Prod.mk.injEq,DataW.map.injEq] at hx
 have hall:∀(j:Nat) (kk:Value) (sv:SV thy),LS[j]? =some (kk,sv)->okK q kk=true/\okC sv=true:=fun j kk sv hj=>by
  have:=List.all_eq_true.1 hok _ (List.mem_of_getElem? hj)
  simpa using this
 have hmem:∀z:Lit×DataW Unit,z∈D↔z∈es.toList.map (WideElems.rg P k (WideElems.elemAt (fun _=>()) P W 0 (fun _=>true) false n e)):=fun z=>by rw [hx.1];exact Zhl
 have hcell:W.cell? ⟨g,0,none⟩=some (.map (some b)):=by
  have:=World.var?_cell hg hv 0
  rw [Array.eq_one_of_toList hcs] at this
  simpa using this
 refine ⟨_,hcell,?_⟩
 have entry:∀x∈es.toList,∀(kk:Value) (sv:SV thy),okK q kk=true->okC sv=true->WideElems.rg P k (WideElems.elemAt (fun _=>()) P W 0 (fun _=>true) false n e) x=rowD (kk,sv)->x.key=kk/\x.val=cvl sv:=by
  intro x hx kk sv h1 h2 hr
  obtain ⟨z,hz⟩:=F.reads x hx
  have hrg:WideElems.rg P k (WideElems.elemAt (fun _=>()) P W 0 (fun _=>true) false n e) x=z:=by unfold WideElems.rg;rw [hz];rfl
  rw [hrg] at hr
  unfold WideElems.rd at hz
  simp only [gD9,Option.map_eq_some_iff] at hz
  obtain ⟨key,e1,y,e2,rfl⟩:=hz
  simp only [rowD,Prod.mk.injEq] at hr
  rw [hr.1] at e1
  exact ⟨Z3e hk h1 e1,Z3g he h2 rfl e2 hr.2⟩
 refine Den.pmap (ents:=es) (fun j=>match LS[j]? with|some p=>cvl p.2|none=>undef) q ?_ ?_ ?_ ?_ ?_ ?_
 · show (match W.heap[b]? with|some (.map es _)=>some es|_=>none)=some es
   rw [hb]
 · intro j kk sv hj
   have:=(hall j kk sv hj).1
   cases kk with
   |int kd n=>
    have hq:q=some kd:=by simpa [okK] using this
    rw [hq];exact ⟨_,rfl⟩
   |string s=>
    have hq:q=none:=by simpa [okK] using this
    rw [hq];exact ⟨_,rfl⟩
   |_=>simp [okK] at this
 · intro j j' kk sv sv' hj hj'
   have e1:(LS.map fun p=>Zy3 p.1)[j]? =some (Zy3 kk):=by rw [List.getElem?_map,hj];rfl
   have e2:(LS.map fun p=>Zy3 p.1)[j']? =some (Zy3 kk):=by rw [List.getElem?_map,hj'];rfl
   obtain ⟨b1,c1⟩:=gA9.1 e1
   exact (List.getElem?_inj b1 hn).1 (e1.trans e2.symm)
 · intro x hx'
   have h1:=(hmem _).2 (List.mem_map_of_mem (f:=WideElems.rg P k (WideElems.elemAt (fun _=>()) P W 0 (fun _=>true) false n e)) hx')
   rw [hD] at h1
   obtain ⟨i,_,hi⟩:=List.mem_filterMap.1 h1
   obtain ⟨p,hp,hr⟩:=Option.map_eq_some_iff.1 hi
   have ho:=hall i p.1 p.2 hp
   have:=entry x hx' p.1 p.2 ho.1 ho.2 hr.symm
   refine ⟨i,p.2,by rw [this.1];exact hp,?_⟩
   rw [hp]
   exact this.2
 · intro j kk sv hj
   have h1:rowD (kk,sv)∈LS.map rowD:=List.mem_map_of_mem (List.mem_of_getElem? hj)
   rw [hL] at h1
   obtain ⟨i,_,hi⟩:=List.mem_filterMap.1 h1
   have h2:=(hmem _).1 (List.mem_of_getElem? hi)
   obtain ⟨x,hx1,hx2⟩:=List.mem_map.1 h2
   have ho:=hall j kk sv hj
   exact ⟨x,hx1,(entry x hx1 kk sv ho.1 ho.2 hx2).1⟩
 · intro j kk sv hj
   rw [hj]
   exact Z7k (hall j kk sv hj).2
abbrev Z9s:List (Value×SV thy):= [mkE 123 [123],mkE 125 [125],mkE 40 [40],mkE 41 [41],mkE 59 [59],mkE 44 [44],mkE 43 [43],mkE 45 [45],mkE 42 [42],mkE 60 [60],mkE 46 [46,46]]
abbrev Ya6:List (Lit×DataW Unit):= [(.int .u8 40,.lit (.string [40])),(.int .u8 41,.lit (.string [41])),(.int .u8 42,.lit (.string [42])),(.int .u8 43,.lit (.string [43])),(.int .u8 44,.lit (.string [44])),(.int .u8 45,.lit (.string [45])),(.int .u8 46,.lit (.string [46,46])),(.int .u8 59,.lit (.string [59])),(.int .u8 60,.lit (.string [60])),(.int .u8 123,.lit (.string [123])),(.int .u8 125,.lit (.string [125]))]
abbrev Ya7:List Nat:= [2,3,8,6,5,7,10,4,9,0,1]
abbrev Ya8:List Nat:= [9,10,0,1,7,4,3,5,2,8,6]
abbrev resL:List (Value×SV thy):= [mkR [116,97,114,105,102,102],mkR [102,111,114],mkR [99,108,97,117,115,101],mkR [119,104,101,110],mkR [97,110,100],mkR [105,110],mkR [105,115],mkR [112,97,121],mkR [109,105,110],mkR [109,97,120],mkR [100,111,119,110],mkR [117,112],mkR [104,97,108,102],mkR [105,102],mkR [109,111,110,101,121],mkR [109,105,110,117,116,101],mkR [112,101,114],mkR [107,103],mkR [116,121,112,101],mkR [111,119,110,101,114],mkR [114,97,105,108,119,97,121],mkR [115,104,105,112,112,101,114],mkR [99,108,97,115,115],mkR [119,101,105,103,104,116],mkR [107,109],mkR [109,105,110,117,116,101,115],mkR [119,111,114,107,105,110,103],mkR [99,111,100,101],mkR [119,111,114,116,104],mkR [99,111,115,116],mkR [109,111,110,116,104],mkR [98,101,103,105,110],mkR [112,97,114,116,115],mkR [112,97,114,116],mkR [104,105,114,101],mkR [100,101,109,117,114,114,97,103,101],mkR [102,114,101,105,103,104,116],mkR [114,101,112,97,105,114],mkR [108,111,115,115],mkR [99,108,101,97,110,105,110,103]]
abbrev resD:List (Lit×DataW Unit):= [(.string [97,110,100],.lit (.bool true)),(.string [98,101,103,105,110],.lit (.bool true)),(.string [99,108,97,115,115],.lit (.bool true)),(.string [99,108,97,117,115,101],.lit (.bool true)),(.string [99,108,101,97,110,105,110,103],.lit (.bool true)),(.string [99,111,100,101],.lit (.bool true)),(.string [99,111,115,116],.lit (.bool true)),(.string [100,101,109,117,114,114,97,103,101],.lit (.bool true)),(.string [100,111,119,110],.lit (.bool true)),(.string [102,111,114],.lit (.bool true)),(.string [102,114,101,105,103,104,116],.lit (.bool true)),(.string [104,97,108,102],.lit (.bool true)),(.string [104,105,114,101],.lit (.bool true)),(.string [105,102],.lit (.bool true)),(.string [105,110],.lit (.bool true)),(.string [105,115],.lit (.bool true)),(.string [107,103],.lit (.bool true)),(.string [107,109],.lit (.bool true)),(.string [108,111,115,115],.lit (.bool true)),(.string [109,97,120],.lit (.bool true)),(.string [109,105,110],.lit (.bool true)),(.string [109,105,110,117,116,101],.lit (.bool true)),(.string [109,105,110,117,116,101,115],.lit (.bool true)),(.string [109,111,110,101,121],.lit (.bool true)),(.string [109,111,110,116,104],.lit (.bool true)),(.string [111,119,110,101,114],.lit (.bool true)),(.string [112,97,114,116],.lit (.bool true)),(.string [112,97,114,116,115],.lit (.bool true)),(.string [112,97,121],.lit (.bool true)),(.string [112,101,114],.lit (.bool true)),(.string [114,97,105,108,119,97,121],.lit (.bool true)),(.string [114,101,112,97,105,114],.lit (.bool true)),(.string [115,104,105,112,112,101,114],.lit (.bool true)),(.string [116,97,114,105,102,102],.lit (.bool true)),(.string [116,121,112,101],.lit (.bool true)),(.string [117,112],.lit (.bool true)),(.string [119,101,105,103,104,116],.lit (.bool true)),(.string [119,104,101,110],.lit (.bool true)),(.string [119,111,114,107,105,110,103],.lit (.bool true)),(.string [119,111,114,116,104],.lit (.bool true))]
abbrev resP:List Nat:= [4,31,22,2,39,27,29,35,10,1,36,12,34,13,5,6,17,24,38,9,8,15,25,14,30,19,33,32,7,16,20,37,21,0,18,11,23,3,26,28]
abbrev resQ:List Nat:= [33,9,3,37,0,14,15,28,20,19,8,35,11,13,23,21,29,16,34,25,30,32,2,36,17,22,38,5,39,6,24,1,27,26,12,7,10,31,18,4]
theorem Z3h {W:World} (h:laidMetH Tryz.prog Zf6 W):∃v,W.cell? ⟨5,0,none⟩=some v/\Den E σ0 (gTop W) (.pmap Z9s) v:=by
 have h0:laidMetH Tryz.prog [("wagonpool/tlex.signs",Rows.laid_wagonpool_tlex_signs)] W:=laidMetH.filter (fun x=>x.1== "wagonpool/tlex.signs") h
 exact Zq6 (q:=some .u8) (D:=Ya6) (π:=Ya7) (π':=Ya8) (by kernel_rfl) (by kernel_rfl) rfl Tryz.underlying204 Tryz.underlying5 (.inr Tryz.underlying9) (by kernel_rfl) (by kernel_rfl) (by kernel_rfl) (by decide+kernel) h0
theorem Zop {W:World} (h:laidMetH Tryz.prog Zf6 W):∃v,W.cell? ⟨1,0,none⟩=some v/\Den E σ0 (gTop W) (.pmap resL) v:=by
 have h0:laidMetH Tryz.prog [("wagonpool/tlex.reserved",Rows.laid_wagonpool_tlex_reserved)] W:=laidMetH.filter (fun x=>x.1== "wagonpool/tlex.reserved") h
 exact Zq6 (q:=none) (D:=resD) (π:=resP) (π':=resQ) (by kernel_rfl) (by kernel_rfl) rfl Tryz.underlying69 Tryz.underlying9 (.inl Tryz.underlying4) (by kernel_rfl) (by kernel_rfl) (by kernel_rfl) (by decide+kernel) h0
def Ya9:SV thy->Int
 | .int _ _ n=>n
 |_=>0
def spaceN:List Int:=spaceT.map Ya9
theorem Z3i:spaceT=spaceN.map fun n=>(.int true .u8 n:SV thy):=by kernel_rfl
theorem Z3j {W:World} (h:laidMetH Tryz.prog Zf6 W) (j:Nat) (x:Int) (hj:spaceN[j]? =some x):W.cell? ⟨6,j,none⟩=some (.int .u8 x):=by
 have h0:laidMetH Tryz.prog [("strings.asciiSpace",Rows.laid_strings_asciiSpace)] W:=laidMetH.filter (fun x=>x.1== "strings.asciiSpace") h
 exact Zl6 (kd:= .u8) (nums:=spaceN) (n:=256) (by kernel_rfl) (by kernel_rfl) (by kernel_rfl) Tryz.underlying222 Tryz.underlying5 (by kernel_rfl) (by kernel_rfl) h0 j x hj
def powN:List Int:= [1,10,100,1000,10000,100000,1000000,10000000,100000000,1000000000,10000000000,100000000000,1000000000000,10000000000000,100000000000000,1000000000000000,10000000000000000,100000000000000000,1000000000000000000,10000000000000000000]
theorem Z9t {W:World} (h:laidMetH Tryz.prog Zf6 W) (j:Nat) (x:Int) (hj:powN[j]? =some x):W.cell? ⟨9,j,none⟩=some (.int .u64 x):=by
 have h0:laidMetH Tryz.prog [("internal/strconv.uint64pow10",Rows.laid_internal_strconv_uint64pow10)] W:=laidMetH.filter (fun x=>x.1== "internal/strconv.uint64pow10") h
 exact Zl6 (kd:= .u64) (nums:=powN) (n:=20) (by kernel_rfl) (by kernel_rfl) (by kernel_rfl) Tryz.underlying231 Tryz.underlying154 (by kernel_rfl) (by kernel_rfl) h0 j x hj
theorem Z3k:Zdk 9=some (.agg (powN.map fun n=>(.int true .u64 n:SV thy))):=rfl
def nmsT:List (List Nat):= [[],[112,117,115,104],[108,111,97,100],[97,100,100],[115,117,98],[109,117,108],[109,105,110],[109,97,120],[100,111,119,110],[117,112],[104,97,108,102],[108,101,115,115],[114,97,110,103,101],[122,101,114,111],[106,117,109,112],[112,97,121],[110,111,110,101]]
theorem Z3l {W:World} (h:laidMetH Tryz.prog Zf6 W) (j:Nat) (x:List Nat) (hj:nmsT[j]? =some x):W.cell? ⟨0,j,none⟩=some (.string (mkS x)):=by
 have h0:laidMetH Tryz.prog [("wagonpool/tcode.names",Rows.laid_wagonpool_tcode_names)] W:=laidMetH.filter (fun x=>x.1== "wagonpool/tcode.names") h
 exact Zy2 (nums:=nmsT) (n:=17) (by kernel_rfl) (by kernel_rfl) (by kernel_rfl) Tryz.underlying96 Tryz.underlying9 (by kernel_rfl) (by kernel_rfl) h0 j x hj
theorem Zua:Zdk 0=some (.agg (nmsT.map fun s=>(.str true s:SV thy))):=rfl
theorem Z9u:∀s∈nmsT,∀n∈s,n<256:=by decide
theorem Zub {g g':GH} {w w':World} (h:Stp 0 0 [] σ0 g w σ0 g' w'):Ext w w':=⟨h.os,h.tape,h.output,h.size,fun k hk=>h.heap k hk (by simp)⟩
theorem Zuc:Zdk 5=some (.pmap Z9s):=rfl
theorem Z3m:Zdk 1=some (.pmap resL):=rfl
theorem Zud:Zdk 6=some (.agg spaceT):=rfl
theorem Zy4 {f:FuncId} {args:List (SV thy)} (hp:PureC E f args (.bool false true)) {W:World} (hL:laidMetH Tryz.prog Zf6 W) {vals:Array Value} (hd:DenL E σ0 (gTop W) args vals.toList):Calls Tryz.prog f vals W fun en W'=>en= .returned (.bool true)/\Ext W W':=by
 have hI:Inv E W.heap.size σ0 hp0 (gTop W) W:=Z5m fun n sv hn j s hj=>by
  match n,hn with
  |5,hn=>
   have hn:Zdk 5=some sv:=hn
   rw [Zuc] at hn
   cases hn
   match j,hj with
   |0,hj=>cases hj;exact Z3h hL
  |1,hn=>
   have hn:Zdk 1=some sv:=hn
   rw [Z3m] at hn
   cases hn
   match j,hj with
   |0,hj=>cases hj;exact Zop hL
  |6,hn=>
   have hn:Zdk 6=some sv:=hn
   rw [Zud] at hn
   cases hn
   have hj:spaceT[j]? =some s:=hj
   rw [Z3i,List.getElem?_map] at hj
   obtain ⟨n,hn,rfl⟩:=Option.map_eq_some_iff.1 hj
   exact ⟨_,Z3j hL j n hn,.int _ _ _⟩
  |9,hn=>
   have hn:Zdk 9=some sv:=hn
   rw [Z3k] at hn
   cases hn
   have hj:(powN.map fun n=>(.int true .u64 n:SV thy))[j]? =some s:=hj
   rw [List.getElem?_map] at hj
   obtain ⟨n,hn,rfl⟩:=Option.map_eq_some_iff.1 hj
   exact ⟨_,Z9t hL j n hn,.int _ _ _⟩
  |0,hn=>
   have hn:Zdk 0=some sv:=hn
   rw [Zua] at hn
   cases hn
   have hj:(nmsT.map fun s=>(.str true s:SV thy))[j]? =some s:=hj
   rw [List.getElem?_map] at hj
   obtain ⟨n,hn,rfl⟩:=Option.map_eq_some_iff.1 hj
   exact ⟨_,Z3l hL j n hn,.str _ (Z63 (Z9u n (List.mem_of_getElem? hn)))⟩
 refine (hp _ W vals hI hd).mono ?_
 rintro en w' ⟨u,rfl,g',hS,_,hv⟩
 cases hv
 exact ⟨rfl,Zub hS⟩
theorem Yba {g:GH} {s0:SV thy} {v0:Value} (h0:Den E σ0 g s0 v0):DenL E σ0 g [s0] [v0]:=⟨rfl,fun j sv v h1 h2=>by
 match j,h1,h2 with
 |0,h1,h2=>cases h1;cases h2;exact h0⟩
theorem Zy5 {g:GH} {s0:SV thy} {v0:Value} {ss:List (SV thy)} {vs:List Value} (h0:Den E σ0 g s0 v0) (h:DenL E σ0 g ss vs):DenL E σ0 g (s0::ss) (v0::vs):=⟨by simp [h.1],fun j sv v h1 h2=>by
 cases j with
 |zero=>cases h1;cases h2;exact h0
 |succ j=>exact h.2 j sv v h1 h2⟩
section
variable {H:Type} {enc:TypeId × Value->H} {w:World} {spare:Nat->Bool} {held:Bool}
theorem Zai:Tryz.prog.cellsOf 3=1:=by kernel_rfl
theorem Z3n:Tryz.prog.cellsOf 44=4:=by kernel_rfl
theorem Zoq:Tryz.prog.cellsOf 47=7:=by kernel_rfl
theorem Z3o:Tryz.prog.cellsOf 45=1:=by kernel_rfl
theorem len7 {cs:List Value} (h:cs.length=7):∃a b c d e f g,cs= [a,b,c,d,e,f,g]:=by
 match cs,h with
 | [a,b,c,d,e,f,g],_=>exact ⟨a,b,c,d,e,f,g,rfl⟩
theorem Zhm (fuel:Nat) (cs:List Value) (x:DataW H×List MemPlace) (h:DataW.trod enc Tryz.prog w 0 spare held fuel 47 cs=some x):∃a:Ex,∀(j:Nat) sv,(E.enc Th.exprs a)[j]? =some sv->∃v,cs[j]? =some v/\Den E σ0 (gTop w) sv v:=by
 obtain ⟨xs,n,hfu,_,hl,hxl,hf⟩:=DataW.trod_struct Tryz.underlying47 h
 rw [Zoq] at hl
 obtain ⟨c0,c1,c2,c3,c4,c5,c6,rfl⟩:=len7 hl
 have hx4:xs.length=4:=by simpa using hxl
 have h0:=hf 0 _ rfl
 have h1:=hf 1 _ rfl
 have h2:=hf 2 _ rfl
 have h3:=hf 3 _ rfl
 rw [gB9 (by omega)] at h0 h1 h2 h3
 simp only [List.getElem_toArray,List.getElem_cons_zero,List.getElem_cons_succ,Zai,Z3n,Z3o,List.drop_zero,List.drop_succ_cons,List.take_succ_cons,List.take_zero] at h0 h1 h2 h3
 obtain ⟨p0,e0,_⟩:=X3 Tryz.underlying3 h0
 obtain ⟨p1,e1,_⟩:=X3 Tryz.underlying3 h1
 obtain ⟨ys,m,_,_,_,hyl,hg⟩:=DataW.trod_array Tryz.underlying44 h2
 have g0:=hg 0 (by decide)
 have g1:=hg 1 (by decide)
 have g2:=hg 2 (by decide)
 have g3:=hg 3 (by decide)
 rw [gB9 (by omega)] at g0 g1 g2 g3
 simp only [Zai,Nat.mul_one,List.drop_zero,List.drop_succ_cons,List.take_succ_cons,List.take_zero] at g0 g1 g2 g3
 obtain ⟨q0,k0,_⟩:=X3 Tryz.underlying3 g0
 obtain ⟨q1,k1,_⟩:=X3 Tryz.underlying3 g1
 obtain ⟨q2,k2,_⟩:=X3 Tryz.underlying3 g2
 obtain ⟨q3,k3,_⟩:=X3 Tryz.underlying3 g3
 obtain ⟨sv,l,e3,hd⟩:=Zc4 (E:=E) (th:=Th.exprs) (fun _=>rfl) (by decide) Tryz.underlying45 Zoq h3 (fun n' hn cs' y hy=>Zhm n' cs' y hy)
 simp only [List.cons.injEq,and_true] at e0 e1 e3 k0 k1 k2 k3
 subst e0 e1 e3 k0 k1 k2 k3
 refine ⟨Ex.mk p0 p1 q0 q1 q2 q3 l,fun j sv hj=> ?_⟩
 match j,hj with
 |0,hj=>cases hj;exact ⟨_,rfl,.int _ _ _⟩
 |1,hj=>cases hj;exact ⟨_,rfl,.int _ _ _⟩
 |2,hj=>cases hj;exact ⟨_,rfl,.int _ _ _⟩
 |3,hj=>cases hj;exact ⟨_,rfl,.int _ _ _⟩
 |4,hj=>cases hj;exact ⟨_,rfl,.int _ _ _⟩
 |5,hj=>cases hj;exact ⟨_,rfl,.int _ _ _⟩
 |6,hj=>cases hj;exact ⟨_,rfl,hd⟩
termination_by fuel
decreasing_by omega
end
end
section
open Go.ChangeShapes Go.WideShapes Go.ChangeAt Go.RowKit
def Z6m (os:Os):World:=World.doorLaid Tryz.prog 3000 os
def Zk6 (os:Os):World:=(Z6m os).layVars Tryz.prog [("unicode/utf8.first",Rows.laid_unicode_utf8_first)]
theorem Zxp (os:Os):(Zk6 os).os=os:=World.layVars_os _ _ _
def Z89 (os:Os):List Nat:=(List.range (Z6m os).heap.size).filter fun b=>b !=7
theorem Zxq (os:Os):laidMet Tryz.prog Zf6 (Zk6 os):=
 laidMet_layVars (w0:=Z6m os) ["unicode/utf8.first"] (Z89 os) (by kernel_rfl) (by kernel_rfl) (by kernel_rfl) (LaidIn.of_run (Z89 os) 12 (by kernel_rfl) (by kernel_rfl) (by kernel_rfl) (by kernel_rfl))
theorem Z2b (os:Os) (args:Array Value):((Zk6 os).forCall (fun _ _=>0) ⟨#[],args,[]⟩).Shaped Tryz.prog:=World.shaped_of_ZipB (by kernel_rfl) (by kernel_rfl)
theorem Z2c (os:Os) (args:Array Value):laidMetH Tryz.prog Zf6 ((Zk6 os).forCall (fun _ _=>0) ⟨#[],args,[]⟩).memory:=by
 rw [MakeChecks.laidMetH_plain _ _ _ (by kernel_rfl)]
 exact (Zxq os).of_heap (by simp [World.memory,World.forCall,Input.heap])
end
section
open Go.ChangeShapes Go.WideShapes Go.ChangeAt Go.RowKit
section
variable {H:Type} {enc:TypeId × Value->H} {w:World} {spare:Nat->Bool} {held:Bool}
theorem Zec {P:Program} {fuel:Nat} {t:TypeId} {cs:List Value} {x:DataW H×List MemPlace} (ht:P.underlying t=some .string) (h:DataW.trod enc P w 0 spare held fuel t cs=some x):∃s,cs= [.string s]/\s.size<=maxLen:=by
 cases fuel with
 |zero=>simp [DataW.trod] at h
 |succ m=>
  unfold DataW.trod at h
  rw [ht] at h
  split at h<;>simp_all
theorem Zpa:Tryz.prog.cellsOf 9=1:=by kernel_rfl
theorem Zpb:Tryz.prog.cellsOf 72=3:=by kernel_rfl
theorem Zu5:Tryz.prog.cellsOf 42=1:=by kernel_rfl
theorem Zpc:Tryz.prog.cellsOf 49=9:=by kernel_rfl
theorem Zu6:Tryz.prog.cellsOf 22=1:=by kernel_rfl
theorem Zpd:Tryz.prog.cellsOf 24=3:=by kernel_rfl
theorem len3 {cs:List Value} (h:cs.length=3):∃a b c,cs= [a,b,c]:=by
 match cs,h with
 | [a,b,c],_=>exact ⟨a,b,c,rfl⟩
theorem len9 {cs:List Value} (h:cs.length=9):∃a b c d e f g h i,cs= [a,b,c,d,e,f,g,h,i]:=by
 match cs,h with
 | [a,b,c,d,e,f,g,h,i],_=>exact ⟨a,b,c,d,e,f,g,h,i,rfl⟩
theorem Zmq (fuel:Nat) (cs:List Value) (x:DataW H×List MemPlace) (h:DataW.trod enc Tryz.prog w 0 spare held fuel 72 cs=some x):∃a:Tst,∀(j:Nat) sv,(E.enc Th.tests a)[j]? =some sv->∃v,cs[j]? =some v/\Den E σ0 (gTop w) sv v:=by
 obtain ⟨xs,n,rfl,_,hl,hxl,hf⟩:=DataW.trod_struct Tryz.underlying72 h
 rw [Zpb] at hl
 obtain ⟨a,b,c,rfl⟩:=len3 hl
 have hx3:xs.length=3:=by simpa using hxl
 have h0:=hf 0 _ rfl
 have h1:=hf 1 _ rfl
 have h2:=hf 2 _ rfl
 rw [gB9 (by omega)] at h0 h1 h2
 simp only [List.getElem_toArray,List.getElem_cons_zero,List.getElem_cons_succ,Zai,List.drop_zero,List.drop_succ_cons,List.take_succ_cons,List.take_zero] at h0 h1 h2
 obtain ⟨p,hp,_⟩:=X3 Tryz.underlying3 h0
 obtain ⟨q,hq,_⟩:=X3 Tryz.underlying3 h1
 obtain ⟨r,hr,_⟩:=X3 Tryz.underlying3 h2
 simp only [List.cons.injEq,and_true] at hp hq hr
 subst hp hq hr
 refine ⟨⟨p,q,r⟩,fun j sv hj=> ?_⟩
 match j,hj with
 |0,hj=>cases hj;exact ⟨_,rfl,.int _ _ _⟩
 |1,hj=>cases hj;exact ⟨_,rfl,.int _ _ _⟩
 |2,hj=>cases hj;exact ⟨_,rfl,.int _ _ _⟩
theorem Zmr (fuel:Nat) (cs:List Value) (x:DataW H×List MemPlace) (h:DataW.trod enc Tryz.prog w 0 spare held fuel 49 cs=some x):∃a:Cls,∀(j:Nat) sv,(E.enc Th.clauses a)[j]? =some sv->∃v,cs[j]? =some v/\Den E σ0 (gTop w) sv v:=by
 obtain ⟨xs,n,rfl,_,hl,hxl,hf⟩:=DataW.trod_struct Tryz.underlying49 h
 rw [Zpc] at hl
 obtain ⟨c0,c1,c2,c3,c4,c5,c6,c7,c8,rfl⟩:=len9 hl
 have hx3:xs.length=3:=by simpa using hxl
 have h0:=hf 0 _ rfl
 have h1:=hf 1 _ rfl
 have h2:=hf 2 _ rfl
 rw [gB9 (by omega)] at h0 h1 h2
 simp only [List.getElem_toArray,List.getElem_cons_zero,List.getElem_cons_succ,Zpa,Zu5,Zoq,List.drop_zero,List.drop_succ_cons,List.take_succ_cons,List.take_zero] at h0 h1 h2
 obtain ⟨s,hs,_⟩:=Zec Tryz.underlying9 h0
 obtain ⟨sv,l,e1,hd⟩:=Zew (E:=E) (th:=Th.tests) (fun _=>rfl) (by decide) Tryz.underlying42 Zpb h1 (fun n' cs' y hy=>Zmq n' cs' y hy)
 obtain ⟨a,ha⟩:=Zhm n _ _ h2
 simp only [List.cons.injEq,and_true] at hs e1
 subst hs e1
 refine ⟨⟨toL s,l,a⟩,fun j sv hj=> ?_⟩
 match j,hj with
 |0,hj=>cases hj;exact ⟨_,rfl,.str _ rfl⟩
 |1,hj=>cases hj;exact ⟨_,rfl,hd⟩
 |2,hj=>obtain ⟨v,e,d⟩:=ha 0 _ hj;exact ⟨v,e,d⟩
 |3,hj=>obtain ⟨v,e,d⟩:=ha 1 _ hj;exact ⟨v,e,d⟩
 |4,hj=>obtain ⟨v,e,d⟩:=ha 2 _ hj;exact ⟨v,e,d⟩
 |5,hj=>obtain ⟨v,e,d⟩:=ha 3 _ hj;exact ⟨v,e,d⟩
 |6,hj=>obtain ⟨v,e,d⟩:=ha 4 _ hj;exact ⟨v,e,d⟩
 |7,hj=>obtain ⟨v,e,d⟩:=ha 5 _ hj;exact ⟨v,e,d⟩
 |8,hj=>obtain ⟨v,e,d⟩:=ha 6 _ hj;exact ⟨v,e,d⟩
theorem Zms (fuel:Nat) (cs:List Value) (x:DataW H×List MemPlace) (h:DataW.trod enc Tryz.prog w 0 spare held fuel 24 cs=some x):∃a:Tar,∀(j:Nat) sv,(E.enc Th.tariffs a)[j]? =some sv->∃v,cs[j]? =some v/\Den E σ0 (gTop w) sv v:=by
 obtain ⟨xs,n,rfl,_,hl,hxl,hf⟩:=DataW.trod_struct Tryz.underlying24 h
 rw [Zpd] at hl
 obtain ⟨c0,c1,c2,rfl⟩:=len3 hl
 have hx3:xs.length=3:=by simpa using hxl
 have h0:=hf 0 _ rfl
 have h1:=hf 1 _ rfl
 have h2:=hf 2 _ rfl
 rw [gB9 (by omega)] at h0 h1 h2
 simp only [List.getElem_toArray,List.getElem_cons_zero,List.getElem_cons_succ,Zpa,Zai,Zu6,List.drop_zero,List.drop_succ_cons,List.take_succ_cons,List.take_zero] at h0 h1 h2
 obtain ⟨s,hs,_⟩:=Zec Tryz.underlying9 h0
 obtain ⟨p,hp,_⟩:=X3 Tryz.underlying3 h1
 obtain ⟨sv,l,e1,hd⟩:=Zew (E:=E) (th:=Th.clauses) (fun _=>rfl) (by decide) Tryz.underlying22 Zpc h2 (fun n' cs' y hy=>Zmr n' cs' y hy)
 simp only [List.cons.injEq,and_true] at hs hp e1
 subst hs hp e1
 refine ⟨⟨toL s,p,l⟩,fun j sv hj=> ?_⟩
 match j,hj with
 |0,hj=>cases hj;exact ⟨_,rfl,.str _ rfl⟩
 |1,hj=>cases hj;exact ⟨_,rfl,.int _ _ _⟩
 |2,hj=>cases hj;exact ⟨_,rfl,hd⟩
theorem Zmt {v:Value} {d:DataW H} {ps:List MemPlace} (h:DataW.Trod enc Tryz.prog w 0 spare held 24 v d ps):∃x:Tar,Den E σ0 (gTop w) (.agg (encF false .tariffs x)) v:=by
 obtain ⟨fuel,h⟩:=h
 obtain ⟨a,ha⟩:=Zms fuel _ _ h
 obtain ⟨xs,n,rfl,_,hl,hxl,hf⟩:=DataW.trod_struct Tryz.underlying24 h
 rw [Zpd] at hl
 have hv:=Zc5 hl (by decide)
 refine ⟨a,?_⟩
 rw [hv]
 refine .agg (fun j=>v.cells.toList.getD j undef) (show v.cells.toList.toArray.size=3 by rw [List.size_toArray];exact hl) (fun j hj=> ?_) (fun j sv hj=> ?_)
 · have hj:j<3:=hj
   rw [List.getElem?_toArray,List.getD_eq_getElem?_getD,gB9 (by omega)];rfl
 · obtain ⟨u,h1,h2⟩:=ha j sv hj
   rw [List.getD_eq_getElem?_getD,h1];exact h2
end
end
section
open Go
def dA1 {α:Type} (d:Dc E α):DcL E (α×Unit):= .cons d .nil
def dA2 {α β:Type} (d:Dc E α) (e:Dc E β):DcL E (α×β×Unit):= .cons d (dA1 e)
def dN:Dc E Int:=dInt .i64
def dB:Dc E Bool:=Z96
def dS:Dc E (List Nat):=dStr
def dFun (f:Nat):Dc E Unit where
 dec v:=match v with| .fn (.func g) [] []=>(match Nat.beq g f with|true=>some ()|false=>none)|_=>none
 enc _:= .fn (.func f) [] []
 ok v a h:=by
  split at h
  · split at h
    · rename_i e
      obtain rfl:=gC9 e
      exact ⟨rfl,rfl,fun _ _ _ h=>h⟩
    · cases h
  · cases h
def eqL:List Nat->List Nat->Bool
 | [],[]=>true
 |x::r,y::l=>Nat.beq x y&&eqL r l
 |_,_=>false
theorem Zre:∀{a b:List Nat},eqL a b=true->a=b
 | [],[],_=>rfl
 |x::r,y::l,h=>by
  simp only [eqL,Bool.and_eq_true] at h
  rw [gC9 h.1,Zre h.2]
 | [],_::_,h=>by cases h
 |_::_,[],h=>by cases h
def dKs (c:List Nat):Dc E Unit where
 dec v:=match v with| .str true s=>(match eqL s c with|true=>some ()|false=>none)|_=>none
 enc _:= .str true c
 ok v a h:=by
  split at h
  · split at h
    · rename_i e
      rw [Zre e]
      exact ⟨rfl,rfl,fun _ _ _ h=>h⟩
    · cases h
  · cases h
theorem Zo0 {σ:Pl} {g:GH} {l:Bool} {s:List Nat} {u:Value} (h:Den E σ g (.str l s) u):Byt s:=by
 cases h
 rename_i b hb
 subst hb
 exact Znf b
theorem Z3u {f:FuncId} {args:List (SV thy)} {v:SV thy} {j:Nat} {l:Bool} {s:List Nat} (hj:args[j]? =some (.str l s)) (h:Byt s->PureC E f args v):PureC E f args v:=by
 intro g w vals hI hd
 have hlt:j<vals.toList.length:=by rw [<-hd.1];exact (gA9.1 hj).1
 exact h (Zo0 (hd.2 j _ _ hj (gB9 hlt))) g w vals hI hd
theorem Z7r {P:Prop} {f:FuncId} {args:List (SV thy)} {v:SV thy} {j:Nat} {a:SV thy} (hj:args[j]? =some a) (hP:∀g u,Den E σ0 g a u->P) (h:P->PureC E f args v):PureC E f args v:=by
 intro g w vals hI hd
 have hlt:j<vals.toList.length:=by rw [<-hd.1];exact (gA9.1 hj).1
 exact h (hP g _ (hd.2 j _ _ hj (gB9 hlt))) g w vals hI hd
theorem Z3v {g:GH} {th:Th} {l:List (domT th)} {f:Bool} {u:Value} (h:Den E σ0 g (.psl th l f) u):∀x∈l,∀(j:Nat) sv,(encF false th x)[j]? =some sv->∃v,Den E σ0 g sv v:=by
 cases h
 rename_i hd _
 intro x hx j sv hj
 obtain ⟨i,hi⟩:=List.getElem?_of_mem hx
 exact ⟨_,hd i x hi j sv hj⟩
theorem Zho {v1:SV thy} {s:List Nat} {f:SV thy->Prop} {z:Prop}:∀{ks:List (List Nat)},(∀k∈ks,Byt k)->(s∈ks->f v1)->(s∉ks->z)->X7 false (.str false s) (ks.map fun k=>(Value.string (mkS k),v1)) f z
 | [],_,_,h2=>h2 (by simp)
 |k::ks,hb,h1,h2=>by
  rw [List.map_cons]
  unfold X7
  have hk:toL (mkS k)=k:=hb k (List.mem_cons_self ..)
  simp only [hk]
  refine ⟨fun e=> ?_,fun e=> ?_⟩
  · exact h1 (by rw [eq_of_beq e];exact List.mem_cons_self ..)
  · have e:=ne_of_beq_false e
    exact Zho (fun k hk=>hb k (List.mem_cons_of_mem _ hk)) (fun h=>h1 (List.mem_cons_of_mem _ h)) (fun h=>h2 fun h'=>by
     rcases List.mem_cons.1 h' with h'|h'
     · exact e h'
     · exact h h')
theorem Z7s {g:GH} {a:SV thy} {vals:Array Value} (h:DenL E σ0 g [a] vals.toList):∃u,vals= #[u]/\Den E σ0 g a u:=by
 obtain ⟨l⟩:=vals
 obtain ⟨h1,h2⟩:=h
 match l,h1,h2 with
 | [u],_,h2=>exact ⟨u,rfl,h2 0 a u rfl rfl⟩
theorem Z3w {g:GH} {a b:SV thy} {vals:Array Value} (h:DenL E σ0 g [a,b] vals.toList):∃u v,vals= #[u,v]/\Den E σ0 g a u/\Den E σ0 g b v:=by
 obtain ⟨l⟩:=vals
 obtain ⟨h1,h2⟩:=h
 match l,h1,h2 with
 | [u,v],_,h2=>exact ⟨u,v,rfl,h2 0 a u rfl rfl,h2 1 b v rfl rfl⟩
theorem Z3x {g:GH} {l:List UInt8}:Den E σ0 g (.str false (l.map UInt8.toNat)) (.string ⟨l.toArray⟩):= .str _ (by simp [toL])
end
section
open Go.RowKit
section
variable {Y:Thy} {E:Eng Y}
def sumO (pre:List (SV Y)->Option (SV Y)):Sum Y:=fun args _ _ k=>match pre args with|some v=>(match nidL 0 args with|true=>k (quiet [] v)|false=>False)|none=>False
theorem V9 (hE:EngOk E) {f:Nat} (hg:FnGood E.P f) {pre:List (SV Y)->Option (SV Y)} (hp:∀args v,pre args=some v->PureC E f args v):SumOk E f (sumO pre):=by
 refine ⟨hg,fun args h i k hD hk=> ?_⟩
 unfold sumO at hk
 split at hk
 · rename_i v hpre
   split at hk
   · rename_i hn
     exact ⟨_,hk,(hp args v hpre).tri2 hE hn h i⟩
   · exact hk.elim
 · exact hk.elim
end
end
section
open Go.RowKit
section
variable {Y:Thy} {E:Eng Y}
end
end
section
open Go.RowKit
section
variable {Y:Thy} {E:Eng Y}
def one (cs:List (SV Y)):Hp Y:=fun b=>match Nat.beq b 0 with|true=>some (.raw cs 0 none)|false=>none
theorem Zx3 (cs:List (SV Y)):one cs 0=some (.raw cs 0 none):=rfl
theorem Zb4 {cs:List (SV Y)} {b:Nat} (h:one cs b≠none):b=0:=by
 cases b with
 |zero=>rfl
 |succ b=>exact absurd rfl h
theorem Vt {cs:List (SV Y)} {b:Nat} {x:Blk Y} (h:one cs b=some x):b=0/\x= .raw cs 0 none:=by
 have:=Zb4 (cs:=cs) (b:=b) (by rw [h];simp)
 subst this
 rw [Zx3] at h
 cases h
 exact ⟨rfl,rfl⟩
theorem Z6v (cs:List (SV Y)):DomLt (one cs) 1:=fun b hb=>by have:=Zb4 hb;omega
def σ1 (p:Nat×Nat):Pl:=fun b=>match Nat.beq b 0 with|true=>some p|false=>none
theorem σ1_some {p q:Nat×Nat} {b:Nat} (h:σ1 p b=some q):b=0/\q=p:=by
 cases b with
 |zero=>cases h;exact ⟨rfl,rfl⟩
 |succ b=>cases h
def mutR (v:SV Y) (cs:List (SV Y)):Res Y:=⟨v,0,[0],at1 0 (some (.raw cs 0 none)),none⟩
def panR (p:Value):Res Y:=⟨.pan p,0,[0],fun _=>none,none⟩
theorem Zs9 (cs cs':List (SV Y)) (v:SV Y):patch (one cs) 1 (mutR v cs')=one cs':=by
 funext b
 rw [Zh]
 cases b with
 |zero=>simp [mutR,at1,one]
 |succ b=>
  rw [if_neg (by simp [mutR])]
  rfl
theorem Zta (cs:List (SV Y)) (p:Value):patch (one cs) 1 (panR p)=fun _=>none:=by
 funext b
 rw [Zh]
 cases b with
 |zero=>simp [panR]
 |succ b=>
  rw [if_neg (by simp [panR])]
  rfl
def MutC (E:Eng Y) (f:FuncId) (cs rest:List (SV Y)) (v:SV Y) (cs':List (SV Y)):Prop:=Uw E f (.ptr 0 0::rest) (one cs) 1 (mutR v cs')
def MutP (E:Eng Y) (f:FuncId) (cs rest:List (SV Y)) (p:Value):Prop:=Zom E f (.ptr 0 0::rest) (one cs) 1 (panR p)
theorem Zn2 (hE:EngOk E) {B:Nat} {σ:Pl} {h:Hp Y} {g:GH} {w:World} {b r z:Nat} {cs cs0:List (SV Y)} {tg:Option Y.Th} (hI:Inv E B σ h g w) (hb:h b=some (.raw cs 0 tg)) (hσ:σ b=some (r,z)) (hlen:cs.length=cs0.length) (hn:nidL 0 cs0=true)
 (hden:∀σ g (j:Nat) sv',cs0[j]? =some sv'->∃sv,cs[j]? =some sv/\∀u,Den E σ g sv u->Den E σ g sv' u):Inv E B (σ1 (r,z)) (one cs0) g w:=by
 refine ⟨hI.gc,hI.gm,fun x y hx=> ?_,fun x x' r z z' h1 h2 _ _=> ?_,fun x r' z' hs=> ?_,fun x y r' z' o v hx hs hv=> ?_,fun x y r' z' hx hs=> ?_,hI.glob⟩
 · obtain ⟨rfl,rfl⟩:=Vt hx
   refine ⟨r,z,rfl,?_⟩
   obtain ⟨r',z',hσ',arr,e,k1,k2,k3,k4,k5⟩:=hI.blk b _ hb
   rw [hσ] at hσ';cases hσ'
   refine ⟨arr,e,k1,k2,?_,fun j sv' hj=> ?_,trivial⟩
   · simp only [Blk.cells] at k3⊢;omega
   · obtain ⟨sv,h1,h2⟩:=hden σ g j sv' hj
     obtain ⟨v,m1,m2⟩:=k4 j sv h1
     exact ⟨v,m1,Zv hE (h2 v m2) (fun b p hb=>by omega) (Zr hn hj)⟩
 · rw [Zb4 h1,Zb4 h2]
 · obtain ⟨rfl,e⟩:=σ1_some hs
   cases e
   exact hI.base b _ _ hσ
 · obtain ⟨rfl,e⟩:=σ1_some hs
   obtain ⟨_,rfl⟩:=Vt hx
   cases e
   have h2:o<0:=hI.fz b (.raw cs 0 tg) _ _ o v hb hσ hv
   omega
 · obtain ⟨rfl,e⟩:=σ1_some hs
   cases e
   exact hI.fm b _ _ _ hb hσ
def rawO:Option (List (SV Y))->Option (Blk Y)
 |some c=>some (.raw c 0 none)
 |none=>none
theorem Wq (hE:EngOk E) {B:Nat} {σ σ':Pl} {h:Hp Y} {g g':GH} {w w':World} {b i r z:Nat} {cs:List (SV Y)} {fz:Nat} {tg:Option Y.Th} {x':Option (List (SV Y))} (hI:Inv E B σ h g w) (hb:h b=some (.raw cs fz tg)) (hσ:σ b=some (r,z)) {v v0:SV Y} {h0:Hp Y}
 {σc:Pl} {m0:Nat} (hc0:σc 0=some (r,z)) (hS:Stp m0 0 [0] σc g w σ' g' w') (hI':Inv E B σ' h0 g' w') (h00:∀c,x'=some c->h0 0=some (.raw c 0 none)) (hn:∀c,x'=some c->nidL 0 c=true):
 Stp i 0 [b] σ g w σ g' w'/\Inv E B σ (patch h i ⟨v,0,[b],at1 b (rawO x'),none⟩) g' w':=by
 have hs0:σ' 0=some (r,z):=hS.sig 0 _ hc0
 have one0:∀b'∈ [0],∀q z',σc b'=some (q,z')->b'=0/\(q,z')=(r,z):=by
  intro b' hb' q z' hz'
  rw [List.mem_singleton] at hb'
  subst hb'
  rw [hc0] at hz'
  exact ⟨rfl,(Option.some.inj hz').symm⟩
 have hheap:∀q,q<w.heap.size->q≠r->w'.heap[q]? =w.heap[q]? :=by
  intro q hq hne
  refine hS.heap q hq fun b' hb' z' hz'=> ?_
  obtain ⟨_,e⟩:=one0 b' hb' q z' hz'
  cases e
  exact hne rfl
 have hpatch:∀x,patch h i ⟨v,0,[b],at1 b (rawO x'),none⟩ x=if x=b then (rawO x') else h x:=by
  intro x
  rw [Zh]
  by_cases e:x=b
  · subst e
    rw [if_pos (.inl (by show x∈ [x];simp)),if_pos rfl]
    show at1 x _ x=_
    unfold at1
    rw [Nat.beq_refl]
  · rw [if_neg e,if_neg]
    rintro (c|c)
    · exact e (by simpa using c)
    · simp at c;omega
 have src:∀x y,patch h i ⟨v,0,[b],at1 b (rawO x'),none⟩ x=some y->(x=b/\∃c,x'=some c/\y= .raw c 0 none)\/(x≠b/\h x=some y):=by
  intro x y hy
  rw [hpatch] at hy
  split at hy
  · rename_i e
    cases hx':x' with
    |none=>rw [hx'] at hy;cases hy
    |some c=>rw [hx'] at hy;cases hy;exact .inl ⟨e,c,rfl,rfl⟩
  · rename_i e
    exact .inr ⟨e,hy⟩
 have far:∀x y q z',x≠b->h x=some y->σ x=some (q,z')->q<w.heap.size/\q≠r:=by
  intro x y q z' hx hy hs
  refine ⟨(hI.base x q z' hs).2,?_⟩
  rintro rfl
  exact hx (hI.inj x b _ _ _ (by rw [hy];simp) (by rw [hb];simp) hs hσ)
 have ne:∀x,patch h i ⟨v,0,[b],at1 b (rawO x'),none⟩ x≠none->h x≠none:=by
  intro x hx
  obtain ⟨y,hy⟩:=Option.ne_none_iff_exists'.1 hx
  rcases src x y hy with ⟨rfl,_⟩|⟨_,h2⟩
  · rw [hb];simp
  · rw [h2];simp
 refine ⟨⟨.refl _,fun x p hx=> .inl hx,hS.gle,fun q o v hv=> ?_,hS.gmnew,fun q hq hx=>hheap q hq fun e=>hx b (by simp) z (by rw [hσ,e]),hS.size,hS.os,hS.tape,hS.output,fun x q z' h1 h2=>by rw [h1] at h2;cases h2⟩,
  hI'.gc,hI'.gm,fun x y hx=> ?_,fun x x' q z1 z2 h1 h2 h3 h4=>hI.inj x x' q z1 z2 (ne x h1) (ne x' h2) h3 h4,fun x q z' hs=>⟨(hI.base x q z' hs).1,Nat.lt_of_lt_of_le (hI.base x q z' hs).2 hS.size⟩,fun x y q z' o v hx hs hv=> ?_,fun x y q z' hx hs=> ?_,hI'.glob⟩
 · rcases hS.gcnew q o v hv with h1|h1|⟨b',h1,z',h2⟩
   · exact .inl h1
   · exact .inr (.inl h1)
   · obtain ⟨_,e⟩:=one0 b' h1 _ _ h2
     cases e
     exact .inr (.inr ⟨b,by simp,z,hσ⟩)
 · rcases src x y hx with ⟨rfl,c,hc,rfl⟩|⟨e1,e2⟩
   · refine ⟨r,z,hσ,?_⟩
     obtain ⟨r2,z2,m1,arr,e,k1,k2,k3,k4,k5⟩:=hI'.blk 0 _ (h00 c hc)
     rw [hs0] at m1;cases m1
     refine ⟨arr,e,k1,k2,k3,fun j sv hj=> ?_,trivial⟩
     obtain ⟨v,m1,m2⟩:=k4 j sv hj
     exact ⟨v,m1,Zv hE m2 (fun b p hb=>by omega) (Zr (hn c hc) hj)⟩
   · obtain ⟨q,z',m1,m2⟩:=hI.blk x y e2
     obtain ⟨m3,m4⟩:=far x y q z' e1 e2 m1
     exact ⟨q,z',m1,m2.mono (.refl _) hS.gle (hheap q m3 m4)⟩
 · rcases src x y hx with ⟨rfl,c,hc,rfl⟩|⟨e1,e2⟩
   · rw [hσ] at hs;cases hs
     exact hI'.fz 0 _ _ _ o v (h00 c hc) hs0 hv
   · obtain ⟨m3,m4⟩:=far x y q z' e1 e2 hs
     rcases hS.gcnew q o v hv with h1|h1|⟨b',h1,z2,h2⟩
     · exact hI.fz x y q z' o v e2 hs h1
     · omega
     · obtain ⟨_,e⟩:=one0 b' h1 _ _ h2
       cases e
       exact absurd rfl m4
 · rcases src x y hx with ⟨rfl,c,hc,rfl⟩|⟨e1,e2⟩
   · rw [hσ] at hs;cases hs
     exact hI'.fm 0 _ _ _ (h00 c hc) hs0
   · obtain ⟨m3,m4⟩:=far x y q z' e1 e2 hs
     cases hg':g'.obj q with
     |none=>rfl
     |some es=>
      rcases hS.gmnew q es hg' with k|k
      · rw [hI.fm x y q z' e2 hs] at k;cases k
      · omega
section
variable {X α β ε:Type}
structure MutI (E:Eng Y) (X α β ε:Type) where
 dS:DcL E X
 dA:DcL E α
 v:β->SV Y
 hv:∀y,nid 0 (v y)=true
 hS:∀x,nidL 0 (dS.enc x)=true
 hA:∀a,nidL 0 (dA.enc a)=true
 pv:ε->Value
def Wm (M:MutI E X α β ε) (f:FuncId) (x:X) (a:α) (out:Except ε (β×X)):Prop:=
 match out with
 | .ok (y,x')=>MutC E f (M.dS.enc x) (M.dA.enc a) (M.v y) (M.dS.enc x')
 | .error e=>MutP E f (M.dS.enc x) (M.dA.enc a) (M.pv e)
def Zg9 (b:Nat) (v:SV Y) (cs:List (SV Y)):Res Y:=⟨v,0,[b],at1 b (some (.raw cs 0 none)),none⟩
def Zx4 (b:Nat) (p:Value):Res Y:=⟨.pan p,0,[b],at1 b none,none⟩
def sumM (M:MutI E X α β ε) (pre:X->α->Prop) (f:X->α->Except ε (β×X)):Sum Y:=fun args h _ k=>
 match args with
 | .ptr b 0::rest=>
  (match h b with
  |some (.raw cs 0 _)=>
   (match M.dS.dec cs,M.dA.dec rest with
   |some x,some a=>pre x a/\(∀y x',f x a= .ok (y,x')->k (Zg9 b (M.v y) (M.dS.enc x')))/\(∀e,f x a= .error e->k (Zx4 b (M.pv e)))
   |_,_=>False)
  |_=>False)
 |_=>False
theorem Zqg {M:DcL E α} {rest:List (SV Y)} {a:α} (hE:EngOk E) (hr:M.dec rest=some a) (hn:nidL 0 (M.enc a)=true) {b r z:Nat} {σ:Pl} {g:GH} {vals:List Value} (hσ:σ b=some (r,z)) (hd:DenL E σ g (.ptr b 0::rest) vals):DenL E (σ1 (r,z)) g (.ptr 0 0::M.enc a) vals:=by
 obtain ⟨k1,k2,k3⟩:=M.ok _ _ hr
 refine ⟨by rw [<-hd.1];simp [k2],fun j sv u h1 h2=> ?_⟩
 cases j with
 |zero=>
  simp at h1;subst h1
  have:=hd.2 0 _ u rfl h2
  cases this
  rename_i hs
  rw [hσ] at hs;cases hs
  exact .ptr (E:=E) (b:=0) rfl
 |succ j=>
  have h1:(M.enc a)[j]? =some sv:=by simpa using h1
  obtain ⟨s0,h3,h4⟩:=k3 σ g j sv h1
  exact Zv hE (h4 u (hd.2 (j+1) s0 u (by simpa using h3) h2)) (fun b p hb=>by omega) (Zr hn h1)
theorem Xg (hE:EngOk E) {f:Nat} (hg:FnGood E.P f) {M:MutI E X α β ε} {pre:X->α->Prop} {fn:X->α->Except ε (β×X)} (hp:∀x a,pre x a->Wm M f x a (fn x a)):SumOk E f (sumM M pre fn):=by
 refine ⟨hg,fun args h i k hD hk=> ?_⟩
 unfold sumM at hk
 split at hk
 case h_2=>exact hk.elim
 rename_i b rest
 split at hk
 case h_2=>exact hk.elim
 rename_i cs tg hb
 split at hk
 case h_2=>exact hk.elim
 rename_i x a hx ha
 obtain ⟨hpp,hk1,hk2⟩:=hk
 have hm:=hp x a hpp
 obtain ⟨c1,c2,c3⟩:=M.dS.ok _ _ hx
 have hbn:h b≠none:=by rw [hb];simp
 unfold Wm at hm
 split at hm
 · rename_i y x' ho
   refine ⟨_,hk1 y x' ho,fun b' hb'=>by
    have:b'∈ [b]:=hb'
    rw [List.mem_singleton] at this
    rw [this];exact hbn,.inl ?_⟩
   intro B σ g w vals hh hrd hI hB hfree hd
   obtain rfl:hh=h:=funext fun b=>hrd b trivial
   obtain ⟨r,z,hσ,_⟩:=hI.blk b _ hb
   refine (hm B (σ1 (r,z)) g w vals _ (fun _ _=>rfl) (Zn2 hE hI hb hσ c2 (M.hS x) c3) hB (fun c h1 h2=>by simp [mutR] at h2;omega) (Zqg hE ha (M.hA a) hσ hd)).mono ?_
   rintro en w' ⟨u,he,σ',g',hS,hI',hv⟩
   rw [Zs9] at hI'
   obtain ⟨q1,q2⟩:=Wq hE (i:=i) (v:=M.v y) (v0:=M.v y) (x':=some (M.dS.enc x')) hI hb hσ rfl hS hI' (fun c hc=>by cases hc;rfl) (fun c hc=>by cases hc;exact M.hS x')
   exact ⟨u,he,σ,g',q1,q2,Zv hE hv (fun b p hb=>by omega) (M.hv y)⟩
 · rename_i e ho
   refine ⟨_,hk2 e ho,fun b' hb'=>by
    have:b'∈ [b]:=hb'
    rw [List.mem_singleton] at this
    rw [this];exact hbn,.inr ?_⟩
   obtain ⟨p,hp',hm⟩:=hm
   have hp':(SV.pan (M.pv e):SV Y)= .pan p:=hp'
   cases hp'
   refine ⟨_,rfl,fun B σ g w vals hI hB hfree hd=> ?_⟩
   obtain ⟨r,z,hσ,_⟩:=hI.blk b _ hb
   refine (hm B (σ1 (r,z)) g w vals (Zn2 hE hI hb hσ c2 (M.hS x) c3) hB (fun c h1 h2=>by simp [panR] at h2;omega) (Zqg hE ha (M.hA a) hσ hd)).mono ?_
   rintro en w' ⟨he,σ',g',hS,hI'⟩
   obtain ⟨q1,q2⟩:=Wq hE (i:=i) (v:= .pan (M.pv e)) (v0:= .unk) (x':=none) hI hb hσ rfl hS hI' (fun c hc=>by cases hc) (fun c hc=>by cases hc)
   exact ⟨he,σ,g',q1,q2⟩
theorem Z6w {B:Nat} {p:Nat×Nat} {h:Hp Y} {g g':GH} {w w':World} {σ':Pl} {n:Nat} {mods:List Nat} (hp:p.1<w.heap.size) (hS:Stp 1 n mods (σ1 p) g w σ' g' w') (hI':Inv E B σ' h g' w') (h0:h 0≠none):∀b r z,b≠0->h b≠none->σ' b=some (r,z)->w.heap.size<=r:=by
 intro b r z hb hn hs
 have hs0:σ1 p b=none:=by
  cases b with
  |zero=>exact absurd rfl hb
  |succ b=>rfl
 rcases hS.blk b r z hs0 hs with h1|⟨b',h1,z',h2⟩
 · exact h1
 · obtain ⟨rfl,e⟩:=σ1_some h2
   subst e
   have h3:=hS.sig 0 _ h2
   exact absurd (hI'.inj b 0 r z z' hn h0 hs h3) hb
def mutK (M:MutI E X α β ε) (gth:List (SV Y)->Option Y.Th) (n:Nat) (dec:SV Y->Option β) (decP:Value->Option ε) (x:X) (out:Except ε (β×X)) (r:Res Y):Prop:=
 match Ut r.v with
 |some q=>(match decP q with|some e=>out= .error e|none=>False)
 |none=>frzK E gth (patch (one (M.dS.enc x)) 1 r) n r.v fun v' bs=>
  (match patch (one (M.dS.enc x)) 1 r 0 with
  |some (.raw c2 0 _)=>frzL (frzK E gth (patch (one (M.dS.enc x)) 1 r) n) c2 fun cs' bs'=>
   (match memB 0 (bs++bs'),dec v',M.dS.dec cs' with
   |false,some y,some x'=>out= .ok (y,x')
   |_,_,_=>False)
  |_=>False)
theorem CallTri2.panic {f:FuncId} {args:List (SV Y)} {h:Hp Y} {i:Nat} {r:Res Y} {p:Value} (ht:CallTri2 E f args h i r) (hp:Ut r.v=some p) {B:Nat} {σ:Pl} {g:GH} {w:World} {vals:Array Value} (hI:Inv E B σ h g w) (hB:B<=w.heap.size) (hfree:∀b,i<=b->b<i+r.n->σ b=none) (hd:DenL E σ g args vals.toList):
 Calls E.P f vals w fun en w'=>en= .panicked [{v:=p,recovered:=false}]/\∃σ' g',Stp i r.n r.mods σ g w σ' g' w'/\Inv E B σ' (patch h i r) g' w':=by
 have hv:=Zqq hp
 rcases ht with ht|⟨p',hp',ht⟩
 · refine (ht B σ g w vals h (fun _ _=>rfl) hI hB hfree hd).mono ?_
   rintro en w' ⟨u,_,σ',g',_,_,hd⟩
   rw [hv] at hd
   cases hd
 · rw [hv] at hp'
   cases hp'
   exact ht B σ g w vals hI hB hfree hd
theorem CallTri2.tri {f:FuncId} {args:List (SV Y)} {h:Hp Y} {i:Nat} {r:Res Y} (ht:CallTri2 E f args h i r) (hp:Ut r.v=none):Uw E f args h i r:=by
 rcases ht with ht|⟨p,hv,_⟩
 · exact ht
 · rw [hv] at hp;cases hp
theorem Z95 (hE:EngOk E) {σ σ':Pl} {g:GH} {l:List (SV Y)} {vals:List Value} (hn:nidL 0 l=true) (h:DenL E σ g l vals):DenL E σ' g l vals:=
 ⟨h.1,fun j sv u h1 h2=>Zv hE (h.2 j sv u h1 h2) (fun b p hb=>by omega) (Zr hn h1)⟩
theorem Z2l (hE:EngOk E) {l:List (SV Y)} (hn:nidL 0 l=true) {r z:Nat} {σ:Pl} {g:GH} {vals:List Value} (hσ:σ 0=some (r,z)) (hd:DenL E σ g (.ptr 0 0::l) vals):DenL E (σ1 (r,z)) g (.ptr 0 0::l) vals:=by
 refine ⟨hd.1,fun j sv u h1 h2=> ?_⟩
 cases j with
 |zero=>
  simp at h1;subst h1
  have:=hd.2 0 _ u rfl h2
  cases this
  rename_i hs
  rw [hσ] at hs;cases hs
  exact .ptr (E:=E) (b:=0) rfl
 |succ j=>
  have h1:l[j]? =some sv:=by simpa using h1
  exact Zv hE (hd.2 (j+1) sv u (by simpa using h1) h2) (fun b p hb=>by omega) (Zr hn h1)
theorem Zn3 (hE:EngOk E) {call:Nat->List (SV Y)->Hp Y->Nat->(Res Y->Prop)->Prop} (hcall:Vj E call) {M:MutI E X α β ε} {gth:List (SV Y)->Option Y.Th} {n:Nat} {dec:SV Y->Option β} {decP:Value->Option ε} (hdec:∀v y,dec v=some y->∀σ g u,Den E σ g v u->Den E σ g (M.v y) u) (hdecP:∀q e,decP q=some e->M.pv e=q)
 {f:Nat} {x:X} {a:α} {out:Except ε (β×X)} (hk:call f (.ptr 0 0::M.dA.enc a) (one (M.dS.enc x)) 1 (mutK M gth n dec decP x out)):Wm M f x a out:=by
 obtain ⟨r,hr,hR,htri⟩:=hcall f _ _ _ _ (Z6v _) hk
 have hmods:∀b∈r.mods,b=0:=fun b hb=>Zb4 (hR b hb)
 have free1:∀(p:Nat×Nat) (b:Nat),1<=b->b<1+r.n->σ1 p b=none:=by
  intro p b hb _
  cases b with
  |zero=>omega
  |succ b=>rfl
 have stp:∀(p:Nat×Nat) (g g' g'':GH) (w w':World) (σ':Pl),Stp 1 r.n r.mods (σ1 p) g w σ' g' w'->g'.le g''->(∀q o v,g''.cell q o=some v->g'.cell q o=some v\/w.heap.size<=q)->(∀q es,g''.obj q=some es->g'.obj q=some es\/w.heap.size<=q)->Stp 1 0 [0] (σ1 p) g w (σ1 p) g'' w':=by
  intro p g g' g'' w w' σ' hS hle hc hm
  refine ⟨.refl _,fun b q h=> .inl h,hS.gle.trans hle,fun q o v hv=> ?_,fun q es hv=> ?_,fun q hq hx=>hS.heap q hq fun b hb=>hx b (by rw [hmods b hb];simp),hS.size,hS.os,hS.tape,hS.output,fun b q z h1 h2=>by rw [h1] at h2;cases h2⟩
  · rcases hc q o v hv with h1|h1
    · rcases hS.gcnew q o v h1 with h2|h2|⟨b,h2,h3⟩
      · exact .inl h2
      · exact .inr (.inl h2)
      · exact .inr (.inr ⟨b,by rw [hmods b h2];simp,h3⟩)
    · exact .inr (.inl h1)
  · rcases hm q es hv with h1|h1
    · exact hS.gmnew q es h1
    · exact .inr h1
 have start:∀(B:Nat) (σ:Pl) (g:GH) (w:World) (vals:Array Value),Inv E B σ (one (M.dS.enc x)) g w->DenL E σ g (.ptr 0 0::M.dA.enc a) vals.toList->∃rr zz,σ 0=some (rr,zz)/\Inv E B (σ1 (rr,zz)) (one (M.dS.enc x)) g w/\DenL E (σ1 (rr,zz)) g (.ptr 0 0::M.dA.enc a) vals.toList:=by
  intro B σ g w vals hI hd
  obtain ⟨rr,zz,hσ,_⟩:=hI.blk 0 _ (Zx3 _)
  exact ⟨rr,zz,hσ,Zn2 hE hI (Zx3 _) hσ rfl (M.hS x) (fun σ g j sv' hj=>⟨sv',hj,fun u h=>h⟩),Z2l hE (M.hA a) hσ hd⟩
 unfold mutK at hr
 split at hr
 · rename_i q hq
   split at hr
   case h_2=>exact hr.elim
   rename_i e he
   subst hr
   show MutP E f _ _ (M.pv e)
   refine ⟨_,rfl,fun B σ g w vals hI hB hfree hd=> ?_⟩
   obtain ⟨rr,zz,hσ,hI1,hd1⟩:=start B σ g w vals hI hd
   refine (htri.panic hq hI1 hB (free1 _) hd1).mono ?_
   rintro en w' ⟨rfl,σ',g',hS,hI'⟩
   refine ⟨by rw [hdecP q e he],?_⟩
   have hS1:=stp _ g g' g' w w' σ' hS (.refl _) (fun _ _ _ h=> .inl h) (fun _ _ h=> .inl h)
   have hI2:Inv E B (σ1 (rr,zz)) (fun _=>none) g' w':=⟨hI'.gc,hI'.gm,(fun b x hx=>by cases hx),fun b b' r z z' h1=>absurd rfl h1,fun b r z hs=>⟨(hI1.base b r z hs).1,Nat.lt_of_lt_of_le (hI1.base b r z hs).2 hS.size⟩,(fun b x r z o v hx=>by cases hx),(fun b x r z hx=>by cases hx),hI'.glob⟩
   obtain ⟨q1,q2⟩:=Wq hE (i:=1) (v:= .pan (M.pv e)) (v0:= .unk) (x':=none) hI (Zx3 _) hσ rfl hS1 hI2 (fun c hc=>by cases hc) (fun c hc=>by cases hc)
   refine ⟨σ,g',q1,?_⟩
   have e2:patch (one (M.dS.enc x)) 1 ⟨.pan (M.pv e),0,[0],at1 0 (rawO none),none⟩=patch (one (M.dS.enc x)) 1 (panR (M.pv e)):=by
    rw [Zta]
    funext b
    rw [Zh]
    cases b with
    |zero=>simp [at1,rawO]
    |succ b=>
     rw [if_neg (by simp)]
     rfl
   rw [<-e2];exact q2
 · rename_i hq
   have htri:=htri.tri hq
   obtain ⟨v',bs,hr,o1⟩:=Ud hE n r.v _ hr
   split at hr
   case h_2=>exact hr.elim
   rename_i c2 tg h0
   obtain ⟨cs',bs',hr,o2⟩:=Wy (Ud hE n) hr
   split at hr
   case h_2=>exact hr.elim
   rename_i y x' hmem hy hx'
   subst hr
   show MutC E f _ _ (M.v y) _
   intro B σ g w vals hh hrd hI hB hfree hd
   obtain rfl:hh=one (M.dS.enc x):=funext fun b=>hrd b trivial
   obtain ⟨rr,zz,hσ,hI1,hd1⟩:=start B σ g w vals hI hd
   refine (htri B _ g w vals _ (fun _ _=>rfl) hI1 hB (free1 _) hd1).mono ?_
   rintro en w' ⟨u,rfl,σ',g',hS,hI',hv⟩
   refine ⟨u,rfl,?_⟩
   have hs0:σ' 0=some (rr,zz):=hS.sig 0 _ rfl
   have hrr:rr<w.heap.size:=(hI1.base 0 rr zz rfl).2
   have hfar:=Z6w hrr hS hI' (by rw [h0];simp)
   have hle:=Zea (n:=w.heap.size) hI'
   have hkept:Kept E (patch (one (M.dS.enc x)) 1 r) σ' (bs++bs') w' (allG g' w.heap.size w'):=by
    intro b hb q z y1 hs hy1 j v hj hv
    have hb0:b≠0:=by
     rintro rfl
     have:=memB_iff.2 hb
     rw [this] at hmem;cases hmem
    show (if w.heap.size<=q then w'.cell? ⟨q,j,none⟩ else g'.cell q j)=some v
    rw [if_pos (hfar b q z hb0 (by rw [hy1];simp) hs)]
    exact hv
   have hval:=o1.den _ σ' g' w' B u _ (fun _ _=>rfl) hI' hle (hkept.sub fun b hb=>List.mem_append_left _ hb) hv
   have hcell:∀q o v,(allG g' w.heap.size w').cell q o=some v->g'.cell q o=some v\/w.heap.size<=q:=by
    intro q o v hv
    have hv:(if w.heap.size<=q then w'.cell? ⟨q,o,none⟩ else g'.cell q o)=some v:=hv
    split at hv
    · exact .inr (by assumption)
    · exact .inl hv
   have hobj:∀q es,(allG g' w.heap.size w').obj q=some es->g'.obj q=some es\/w.heap.size<=q:=by
    intro q es hv
    have hv:(if w.heap.size<=q then (match w'.heap[q]? with|some (.map es _)=>some es|_=>none) else g'.obj q)=some es:=hv
    split at hv
    · exact .inr (by assumption)
    · exact .inl hv
   have hS1:=stp _ g g' _ w w' σ' hS hle hcell hobj
   have hG:=Zhw (n:=w.heap.size) (B':=B) hI'
   obtain ⟨c1,c2',c3⟩:=M.dS.ok _ _ hx'
   have hI2:Inv E B (σ1 (rr,zz)) (one (M.dS.enc x')) (allG g' w.heap.size w') w':=by
    refine ⟨hG.gc,hG.gm,fun b y1 hy1=> ?_,fun b b' q z z' h1 h2 _ _=>by rw [Zb4 h1,Zb4 h2],fun b q z hs=>⟨(hI1.base b q z hs).1,Nat.lt_of_lt_of_le (hI1.base b q z hs).2 hS.size⟩,fun b y1 q z o v hy1 hs hv=> ?_,fun b y1 q z hy1 hs=> ?_,hG.glob⟩
    · obtain ⟨rfl,rfl⟩:=Vt hy1
      refine ⟨rr,zz,rfl,?_⟩
      obtain ⟨r2,z2,m1,arr,e,k1,k2,k3,k4,k5⟩:=hI'.blk 0 _ h0
      rw [hs0] at m1;cases m1
      have hl:cs'.length=c2.length:=o2.len
      refine ⟨arr,e,k1,k2,?_,fun j sv hj=> ?_,trivial⟩
      · simp only [Blk.cells] at k3⊢;omega
      · obtain ⟨s1,h1,h2⟩:=c3 σ0 (allG g' w.heap.size w') j sv hj
        have hjl:j<c2.length:=by rw [<-hl];exact (gA9.1 h1).1
        obtain ⟨v,m1,m2⟩:=k4 j _ (gB9 hjl)
        have:=o2.den _ σ' g' w' B _ (fun _ _=>rfl) hI' hle (hkept.sub fun b hb=>List.mem_append_right _ hb) j _ s1 v (gB9 hjl) h1 m2
        exact ⟨v,m1,(h2 v this).mono (fun b p h=>by cases h) (.refl _)⟩
    · obtain ⟨_,e⟩:=σ1_some hs
      obtain ⟨rfl,rfl⟩:=Vt hy1
      cases e
      rcases hcell _ o v hv with h1|h1
      · have h2:o<0:=hI'.fz 0 (.raw c2 0 tg) _ _ o v h0 hs0 h1
        omega
      · omega
    · obtain ⟨_,e⟩:=σ1_some hs
      cases e
      cases hg':(allG g' w.heap.size w').obj rr with
      |none=>rfl
      |some es=>
       rcases hobj _ es hg' with h1|h1
       · rw [hI'.fm 0 _ _ _ h0 hs0] at h1;cases h1
       · omega
   obtain ⟨q1,q2⟩:=Wq hE (i:=1) (v:=M.v y) (v0:= .unk) (x':=some (M.dS.enc x')) hI (Zx3 _) hσ rfl hS1 hI2 (fun c hc=>by cases hc;rfl) (fun c hc=>by cases hc;exact M.hS x')
   exact ⟨σ,_,q1,q2,(hdec v' y hy _ _ u hval).mono (fun b p h=>by cases h) (.refl _)⟩
end
end
end
section
open Go
inductive WK where
 |at_
 |ki
 |un
 |ca
def WK.src:WK->List Nat
 | .at_=> [116,121,112,101,32,111,119,110,101,114,32,114,97,105,108,119,97,121,32,115,104,105,112,112,101,114,32,99,108,97,115,115,32,119,101,105,103,104,116,32,107,109,32,109,105,110,117,116,101,115,32,119,111,114,107,105,110,103,32,99,111,100,101,32,119,111,114,116,104,32,99,111,115,116,32,109,111,110,116,104,32,98,101,103,105,110,32,112,97,114,116,115,32,112,97,114,116]
 | .ki=> [104,105,114,101,32,100,101,109,117,114,114,97,103,101,32,102,114,101,105,103,104,116,32,114,101,112,97,105,114,32,108,111,115,115,32,99,108,101,97,110,105,110,103]
 | .un=> [109,111,110,101,121,32,109,105,110,117,116,101,32,107,109,32,107,103]
 | .ca=> [109,105,110,32,109,97,120,32,100,111,119,110,32,117,112,32,104,97,108,102]
def WK.words:WK->List (List Nat)
 | .at_=> [[116,121,112,101],[111,119,110,101,114],[114,97,105,108,119,97,121],[115,104,105,112,112,101,114],[99,108,97,115,115],[119,101,105,103,104,116],[107,109],[109,105,110,117,116,101,115],[119,111,114,107,105,110,103],[99,111,100,101],[119,111,114,116,104],[99,111,115,116],[109,111,110,116,104],[98,101,103,105,110],[112,97,114,116,115],[112,97,114,116]]
 | .ki=> [[104,105,114,101],[100,101,109,117,114,114,97,103,101],[102,114,101,105,103,104,116],[114,101,112,97,105,114],[108,111,115,115],[99,108,101,97,110,105,110,103]]
 | .un=> [[109,111,110,101,121],[109,105,110,117,116,101],[107,109],[107,103]]
 | .ca=> [[109,105,110],[109,97,120],[100,111,119,110],[117,112],[104,97,108,102]]
theorem Zst:Zk EL F0 (vc EL F0 2000) 165 [.str true (WK.src .at_)] hp0 0 (fun r=>ret EL (patch hp0 0 r) r.v (.psl .strs (WK.words .at_) false))=(WK.words .at_=WK.words .at_):=by kernel_rfl
theorem Zsu:Zk EL F0 (vc EL F0 2000) 165 [.str true (WK.src .ki)] hp0 0 (fun r=>ret EL (patch hp0 0 r) r.v (.psl .strs (WK.words .ki) false))=(WK.words .ki=WK.words .ki):=by kernel_rfl
theorem Zsv:Zk EL F0 (vc EL F0 2000) 165 [.str true (WK.src .un)] hp0 0 (fun r=>ret EL (patch hp0 0 r) r.v (.psl .strs (WK.words .un) false))=(WK.words .un=WK.words .un):=by kernel_rfl
theorem Zsw:Zk EL F0 (vc EL F0 2000) 165 [.str true (WK.src .ca)] hp0 0 (fun r=>ret EL (patch hp0 0 r) r.v (.psl .strs (WK.words .ca) false))=(WK.words .ca=WK.words .ca):=by kernel_rfl
def wkOf (s:List Nat):Option WK:=
 match eqL s (WK.src .at_) with
 |true=>some .at_
 |false=>(match eqL s (WK.src .ki) with
  |true=>some .ki
  |false=>(match eqL s (WK.src .un) with
   |true=>some .un
   |false=>(match eqL s (WK.src .ca) with|true=>some .ca|false=>none)))
theorem Zp7 {s:List Nat} {k:WK} (h:wkOf s=some k):s=k.src:=by
 unfold wkOf at h
 repeat' split at h
 all_goals first|(cases h;rename_i e;exact Zre e)|cases h
theorem Znw (k:WK):PureC E 165 [.str true k.src] (.psl .strs k.words false):=by
 cases k
 · exact Zdu (n:=2000) (by rw [Zst])
 · exact Zdu (n:=2000) (by rw [Zsu])
 · exact Zdu (n:=2000) (by rw [Zsv])
 · exact Zdu (n:=2000) (by rw [Zsw])
def Zk4:List (SV thy)->Option (SV thy)
 | [.str true s]=>(match wkOf s with|some k=>some (.psl .strs k.words false)|none=>none)
 |_=>none
def Zxe:Sum thy:=sumO Zk4
theorem Zsx:SumOk E 165 Zxe:=V9 E_ok (Zc rfl) fun args v h=>by
 unfold Zk4 at h
 split at h
 · split at h
   · rename_i k hk
     cases h
     rw [Zp7 hk]
     exact Znw k
   · cases h
 · cases h
def idxS (s:List Nat):Nat->List (List Nat)->Int
 |_,[]=> -1
 |k,x::r=>if s=x then (k:Int) else idxS s (k+1) r
theorem Zxf {s:List Nat} {l:List (List Nat)}:∀{k:Nat} {x:List Nat},l[k]? =some x->idxS s k (l.drop k)=if s=x then (k:Int) else idxS s (k+1) (l.drop (k+1)):=by
 intro k x h
 have hlt:=(gA9.1 h).1
 rw [List.drop_eq_getElem_cons hlt]
 have:l[k]=x:=(gA9.1 h).2
 rw [this];rfl
def Aixs:Fr thy->Hp thy->Nat->Ann thy:=fun T h i=>{X:=LX,fr:=fun x=> [(0,T 0),(1,T 1),(7,T 7),(8,.int false .i64 x.k)],bl:=fun x=> [],src:=fun _=> [],md:= [],ih:=i,M:=i+30,meas:=fun x=>x.r}
def Fixs:Fns thy:=addL F0 44 2 Aixs E
theorem Z10 (l:List (List Nat)) (s:List Nat) (v:Int):Zk E Fixs (vc E Fixs 400) 44 [.psl Th.strs l false,.str false s] hp0 0 (fun r=>ret E (patch hp0 0 r) r.v (.int false .i64 v))=(
∃(R:LX->Prop),(∃(x:LX),R x/\true=true/\((l=l/\(false=true->false=true))/\s=s/\(↑(List.length l):Int)=(↑(List.length l):Int)/\(0:Int)=(↑(LX.k x):Int)/\True)/\True)/\∀(x:LX),R x->(decide ((↑(LX.k x):Int)<(↑(List.length l):Int))=true->(0:Int)<=(↑(LX.k x):Int)/\(↑(LX.k x):Int)+(1:Int)<=(↑(List.length l):Int)/\∀(x_1:List Nat),l[Int.toNat (↑(LX.k x):Int)]? =some x_1->((s==x_1)=true->(↑(LX.k x):Int)=v)/\((s==x_1)=false->∃(x_2:LX),R x_2/\x_2.2+(1:Nat)<=x.2/\true=true/\((l=l/\(false=true->false=true))/\s=s/\(↑(List.length l):Int)=(↑(List.length l):Int)/\wr IntKind.i64 ((↑(LX.k x):Int)+(1:Int))=(↑(LX.k x_2):Int)/\True)/\True))/\(decide ((↑(LX.k x):Int)<(↑(List.length l):Int))=false->(-1:Int)=v)):=by kernel_rfl
theorem Z11 (l:List (List Nat)) (s:List Nat) (hl:l.length<=1000000000):PureC E 44 [.psl Th.strs l false,.str false s] (.int false .i64 (idxS s 0 l)):=by
 have hF:FnsOk E Fixs:=Z5 E_ok F0_ok _ _ _
 refine Za E_ok (Ze E_ok hF 400) ?_
 rw [Z10]
 simp only [and_true,true_and,decide_eq_true_eq,decide_eq_false_iff_not,beq_iff_eq,beq_eq_false_iff_ne,imp_self]
 refine ⟨fun x=>x.k<=l.length/\idxS s x.k (l.drop x.k)=idxS s 0 l/\x.r=l.length-x.k,⟨⟨0,l.length,[],0⟩,⟨(by dsimp only;omega),rfl,rfl⟩,rfl⟩,?_⟩
 rintro x ⟨hk,hv,hr⟩
 refine And.intro (fun hq=>⟨by omega,by omega,fun y hy=> ?_⟩) (fun hq=> ?_)
 · have hy:l[x.k]? =some y:=hy
   rw [Zxf hy] at hv
   refine ⟨fun e=> ?_,fun e=> ?_⟩
   · rw [if_pos e] at hv;exact hv
   · rw [if_neg e] at hv
     exact ⟨⟨x.k+1,l.length-(x.k+1),[],0⟩,⟨(by dsimp only;omega),hv,rfl⟩,by show l.length-(x.k+1)+1<=x.r;omega,wr64 (by omega) (by omega)⟩
 · rw [List.drop_eq_nil_of_le (by omega)] at hv
   exact hv
def Sixs:Sum thy:=Zgc (dA2 (Zrl (E:=E) Th.strs:Dc E (List (thy.dom Th.strs))) dS) (fun x=>x.1.length<=1000000000) (fun x=>idxS x.2.1 0 x.1) fun y=> .int false .i64 y
theorem Z59:SumOk E 44 Sixs:=Wb E_ok (Zc (f:=44) rfl) fun x h=>Z11 x.1 x.2.1 h
end
section
open Go
end
section
open Go
theorem Ex.eta (x:Ex):Ex.mk x.op x.n x.d0 x.d1 x.d2 x.d3 x.l=x:=by cases x;rfl
theorem Tst.eta (x:Tst):Tst.mk x.attr x.low x.high=x:=rfl
theorem Cls.eta (x:Cls):Cls.mk x.name x.when_ x.pay=x:=rfl
def Ex.u (x:Ex):List Int:= [x.d0,x.d1,x.d2,x.d3]
mutual
def Ex.sz:Ex->Nat
 | .mk _ _ _ _ _ _ l=>Ex.szL l+1
def Ex.szL:List Ex->Nat
 | []=>0
 |x::r=>x.sz+Ex.szL r
end
theorem Ex.sz_eq (x:Ex):x.sz=Ex.szL x.l+1:=by cases x;simp only [Ex.sz,Ex.l]
theorem Ex.sz_pos (x:Ex):0<x.sz:=by rw [Ex.sz_eq];omega
theorem Ex.szL_mem:∀{l:List Ex} {x:Ex},x∈l->x.sz<=Ex.szL l
 |y::r,x,h=>by
  rw [Ex.szL]
  rcases List.mem_cons.1 h with rfl|h
  · omega
  · have:=Ex.szL_mem h;omega
theorem Ex.sz_mem {x y:Ex} (h:y∈x.l):y.sz<x.sz:=by
 have:=Ex.szL_mem h
 rw [Ex.sz_eq x];omega
theorem Ex.szL_len:∀(l:List Ex),l.length<=Ex.szL l
 | []=>Nat.le_refl _
 |x::r=>by
  have:=Ex.szL_len r
  have:=x.sz_pos
  rw [Ex.szL,List.length_cons];omega
mutual
def Z6:Ex->Nat
 | .mk _ _ _ _ _ _ l=>Zcu l+1
def Zcu:List Ex->Nat
 | []=>0
 |x::r=>max (Z6 x) (Zcu r)
end
theorem Zac (x:Ex):Z6 x=Zcu x.l+1:=by cases x;simp only [Z6,Ex.l]
mutual
theorem Zql:∀(x:Ex),Z6 x<=x.sz
 | .mk _ _ _ _ _ _ l=>by have:=Zqm l;simp only [Z6,Ex.sz];omega
theorem Zqm:∀(l:List Ex),Zcu l<=Ex.szL l
 | []=>Nat.le_refl _
 |x::r=>by have:=Zql x;have:=Zqm r;simp only [Zcu,Ex.szL];omega
end
def cnt (u:List Int) (n:Int):Nat:=(u.filter fun d=>d==n).length
def Zlj (u:List Int):Bool:=decide (cnt u 0+cnt u 1+cnt u (-1)=4)&&decide (cnt u 1<=1)&&decide (cnt u (-1)<=1)
def Z64 (op:Int):Nat:=if op=1\/op=2 then 0 else if op=11 then 4 else 2
def Ztt (op:Int):Int:=if op=1 then 1099511627776 else if op=2 then 15 else 0
def Zlk (op n:Int) (u:List Int) (k:Nat):Bool:=
 decide (1<=op)&&decide (op<=11)&&decide (0<=n)&&decide (n<=Ztt op)&&decide (k=Z64 op)&&Zlj u&&(decide (op=1)||decide (u= [0,0,0,0]))
mutual
def Zq:Ex->Bool
 | .mk op n d0 d1 d2 d3 l=>Zlk op n [d0,d1,d2,d3] l.length&&Ul l
def Ul:List Ex->Bool
 | []=>true
 |x::r=>Zq x&&Ul r
end
theorem Ziz (x:Ex):Zq x=(Zlk x.op x.n x.u x.l.length&&Ul x.l):=by cases x;simp only [Zq,Ex.op,Ex.n,Ex.u,Ex.d0,Ex.d1,Ex.d2,Ex.d3,Ex.l]
theorem formL_iff:∀{l:List Ex},Ul l=true↔∀x∈l,Zq x=true
 | []=>by simp [Ul]
 |x::r=>by simp [Ul,formL_iff (l:=r)]
theorem Ztu {l:List Ex} {k:Nat} {y:Ex} (h:l[k]? =some y):Ul (l.drop k)=(Zq y&&Ul (l.drop (k+1))):=by
 have hk:=(gA9.1 h).1
 have:l.drop k=y::l.drop (k+1):=by rw [List.drop_eq_getElem_cons hk];congr 1;exact (gA9.1 h).2
 rw [this,Ul]
end
section
open Go
def exA (x:Ex):SV thy:= .agg (encF false .exprs x)
def dExp:DcL E (Ex×Unit):= .cons (dR .exprs) .nil
def Z84:DcL E (Ex×Int×Unit):= .cons (dR .exprs) (.cons (dInt (E:=E) .i64) .nil)
def Yas (m:Nat):Sum thy:=sumP Z84 (fun x=>x.1.sz<m/\1<=x.2.1/\x.2.1<=1000) fun x=> .int false .i64 (min (x.1.sz:Int) x.2.1)
def Yat:Fr thy->Hp thy->Nat->Ann thy:=fun T h i=>{X:=DX,fr:=fun x=> [(1,T 1),(2,T 2),(5,.int false .i64 x.j),(6,.int false .i64 x.k)],bl:=fun x=>blkP h (T 2),src:=fun _=> [],md:= [],ih:=i,M:=i+30,meas:=fun x=>x.r}
def Z85 (m:Nat):Fns thy:=addL (addS F0 22 (Yas m)) 22 3 Yat E
abbrev qBH1 (a0:Ex):=(Ex.op a0=Ex.op a0/\Ex.n a0=Ex.n a0/\Ex.d0 a0=Ex.d0 a0/\Ex.d1 a0=Ex.d1 a0/\Ex.d2 a0=Ex.d2 a0/\Ex.d3 a0=Ex.d3 a0/\(Ex.l a0=Ex.l a0/\(false=true->false=true))/\True)
abbrev qBH2 (a0:Ex):=(Ex.mk (Ex.op a0) (Ex.n a0) (Ex.d0 a0) (Ex.d1 a0) (Ex.d2 a0) (Ex.d3 a0) (Ex.l a0))
abbrev qBH3 (a0:DX):=(↑(DX.k a0):Int)
theorem Zxi (m:Nat) (x:Ex) (lim:Int) (v:Int):Zk E F0 (vc E (Z85 m) 400) 22 [exA x,.int false .i64 lim] hp0 0 (fun r=>ret E (patch hp0 0 r) r.v (.int false .i64 v))=(
 ∃(R:DX->Prop),(∃(x_1:DX),R x_1/\true=true/\(lim=lim/\(0:Nat)=(0:Nat)/\(1:Int)=DX.j x_1/\(0:Int)=(qBH3 x_1)/\True)/\(qBH1 x)/\True)/\∀(x_1:DX),R x_1->∃(Q:Bool->Prop),((decide ((qBH3 x_1)<(↑(List.length (Ex.l x)):Int))=true->(decide (DX.j x_1<lim)=true->Q true)/\(decide (DX.j x_1<lim)=false->Q false))/\(decide ((qBH3 x_1)<(↑(List.length (Ex.l x)):Int))=false->Q false))/\(Q true->(0:Int)<=(qBH3 x_1)/\(qBH3 x_1)+(1:Int)<=(↑(List.length (Ex.l x)):Int)/\∀(x_2:Ex),(Ex.l x)[Int.toNat (qBH3 x_1)]? =some x_2->(Ex.sz (qBH2 x_2)+(1:Nat)<=m/\(1:Int)<=wr IntKind.i64 (lim-DX.j x_1)/\wr IntKind.i64 (lim-DX.j x_1)<=(1000:Int))/\∃(x':DX),R x'/\x'.2+(1:Nat)<=x_1.2/\true=true/\(lim=lim/\(0:Nat)=(0:Nat)/\wr IntKind.i64 (DX.j x_1+min (↑(Ex.sz (qBH2 x_2)):Int) (wr IntKind.i64 (lim-DX.j x_1)))=DX.j x'/\wr IntKind.i64 ((qBH3 x_1)+(1:Int))=(qBH3 x')/\True)/\(qBH1 x)/\True)/\(Q false->DX.j x_1=v)):=by kernel_rfl
theorem Zb1 {α:Type} {l:List α} {k:Nat} {y:α} (h:l[k]? =some y):l.drop k=y::l.drop (k+1):=by
 have hk:=(gA9.1 h).1
 rw [List.drop_eq_getElem_cons hk];congr 1;exact (gA9.1 h).2
theorem Vs {α:Type} {l:List α} {k:Nat} (h:l.length<=k):l.drop k= []:=List.drop_eq_nil_of_le h
theorem Z13:∀(m:Nat) (x:Ex) (lim:Int),x.sz<=m->1<=lim->lim<=1000->PureC E 22 [exA x,.int false .i64 lim] (.int false .i64 (min (x.sz:Int) lim)):=by
 intro m
 induction m with
 |zero=>intro x lim h;have:=x.sz_pos;omega
 |succ m ih=>
  intro x lim hm h1 h2
  have hF:FnsOk E (Z85 (m+1)):=Z5 E_ok (Zb F0_ok (Zp E_ok (Zc (f:=22) rfl) fun x h=>ih x.1 x.2.1 (by have:=h.1;omega) h.2.1 h.2.2)) _ _ _
  refine Za E_ok (Xc E_ok F0_ok fun f N c=>(Zgg E_ok hF 400 f N c).1) ?_
  rw [Zxi];delta qBH1 qBH2 qBH3
  simp only [Xb,Yo,V6,V7,V8,beq_iff_eq,bne_iff_ne,beq_eq_false_iff_ne,bne_eq_false_iff_eq,decide_eq_true_eq,decide_eq_false_iff_not,Bool.or_eq_true,Bool.or_eq_false_iff,Bool.not_eq_true',Bool.not_eq_false',Bool.and_eq_true,Bool.and_true,Bool.true_and,Bool.and_eq_false_iff,beq_self_eq_true,Yl,Y4,ne_eq,and_true,true_and,Bool.true_eq_false,Bool.false_eq_true,false_or,or_false,true_implies,imp_self,Int.ofNat_eq_natCast,not_true_eq_false,not_false_eq_true,Decidable.not_not,Ex.eta]
  have hsz:=x.sz_eq
  have hlen:=Ex.szL_len x.l
  refine ⟨fun y=>y.k<=x.l.length/\(y.k:Int)+1<=y.j/\y.j<=lim/\min (y.j+(Ex.szL (x.l.drop y.k):Int)) lim=min (x.sz:Int) lim/\y.r=x.l.length-y.k,⟨⟨0,x.l.length,[],[],0,0,0,1⟩,⟨(by dsimp only;omega),(by dsimp only;omega),h1,by dsimp only;rw [List.drop_zero];omega,rfl⟩,rfl,rfl⟩,?_⟩
  rintro y ⟨hk,hj1,hj2,hv,hr⟩
  refine ⟨fun b=>b=true↔(y.k<x.l.length/\y.j<lim),⟨fun h3=>⟨fun h4=>by simp;omega,fun h4=>by simp;omega⟩,fun h3=>by simp;omega⟩,fun hq=> ?_,fun hq=> ?_⟩
  · have hq:=hq.1 rfl
    refine ⟨by omega,by omega,fun z hz=> ?_⟩
    have hz:x.l[y.k]? =some z:=hz
    have hzs:=Ex.sz_mem (List.mem_of_getElem? hz)
    rw [Zb1 hz,Ex.szL] at hv
    have hzp:=z.sz_pos
    rw [wr64 (n:=lim-y.j) (by omega) (by omega),wr64 (n:=(y.k:Int)+1) (by omega) (by omega),wr64 (n:=y.j+min (z.sz:Int) (lim-y.j)) (by omega) (by omega)]
    exact ⟨⟨by omega,by omega,by omega⟩,⟨y.k+1,x.l.length-(y.k+1),[],[],0,0,0,y.j+min (z.sz:Int) (lim-y.j)⟩,⟨(by dsimp only;omega),(by dsimp only;omega),(by dsimp only;omega),(by dsimp only;omega),rfl⟩,by show x.l.length-(y.k+1)+1<=y.r;omega,rfl,rfl⟩
  · have hq:¬(y.k<x.l.length/\y.j<lim):=fun h=>by have:=hq.2 h;simp at this
    by_cases h3:y.j<lim
    · rw [Vs (by omega)] at hv
      simp only [Ex.szL] at hv
      omega
    · have:=Int.le_antisymm hj2 (by omega)
      omega
def Yau (m:Nat):Sum thy:=sumP dExp (fun x=>x.1.sz<m) fun x=> .int false .i64 (Z6 x.1:Int)
def Yav:Fr thy->Hp thy->Nat->Ann thy:=fun T h i=>{X:=DX,fr:=fun x=> [(3,.int false .i64 x.j),(7,T 7),(8,T 8),(9,.int false .i64 x.k)],bl:=fun x=> [],src:=fun _=> [],md:= [],ih:=i,M:=i+30,meas:=fun x=>x.r}
def Z86 (m:Nat):Fns thy:=addL (addS F0 31 (Yau m)) 31 3 Yav E
theorem Zxj (m:Nat) (x:Ex) (v:Int):Zk E F0 (vc E (Z86 m) 400) 31 [exA x] hp0 0 (fun r=>ret E (patch hp0 0 r) r.v (.int false .i64 v))=(
∃(R:DX->Prop),(∃(x_1:DX),R x_1/\true=true/\((0:Int)=DX.j x_1/\(Ex.l x=Ex.l x/\(false=true->false=true))/\(↑(List.length (Ex.l x)):Int)=(↑(List.length (Ex.l x)):Int)/\(0:Int)=(↑(DX.k x_1):Int)/\True)/\True)/\∀(x_1:DX),R x_1->(decide ((↑(DX.k x_1):Int)<(↑(List.length (Ex.l x)):Int))=true->(0:Int)<=(↑(DX.k x_1):Int)/\(↑(DX.k x_1):Int)+(1:Int)<=(↑(List.length (Ex.l x)):Int)/\∀(x_2:Ex),(Ex.l x)[Int.toNat (↑(DX.k x_1):Int)]? =some x_2->Ex.sz (Ex.mk (Ex.op x_2) (Ex.n x_2) (Ex.d0 x_2) (Ex.d1 x_2) (Ex.d2 x_2) (Ex.d3 x_2) (Ex.l x_2))+(1:Nat)<=m/\∃(x':DX),R x'/\x'.2+(1:Nat)<=x_1.2/\true=true/\(mm2 true (DX.j x_1) (↑(Z6 (Ex.mk (Ex.op x_2) (Ex.n x_2) (Ex.d0 x_2) (Ex.d1 x_2) (Ex.d2 x_2) (Ex.d3 x_2) (Ex.l x_2))):Int)=DX.j x'/\(Ex.l x=Ex.l x/\(false=true->false=true))/\(↑(List.length (Ex.l x)):Int)=(↑(List.length (Ex.l x)):Int)/\wr IntKind.i64 ((↑(DX.k x_1):Int)+(1:Int))=(↑(DX.k x'):Int)/\True)/\True)/\(decide ((↑(DX.k x_1):Int)<(↑(List.length (Ex.l x)):Int))=false->wr IntKind.i64 (DX.j x_1+(1:Int))=v)):=by kernel_rfl
theorem Zsz {l:List Ex} {k:Nat} {y:Ex} (h:l[k]? =some y):Zcu (l.drop k)=max (Z6 y) (Zcu (l.drop (k+1))):=by rw [Zb1 h,Zcu]
theorem Z14:∀(m:Nat) (x:Ex),x.sz<=m->m<=1000000000000->PureC E 31 [exA x] (.int false .i64 (Z6 x:Int)):=by
 intro m
 induction m with
 |zero=>intro x h;have:=x.sz_pos;omega
 |succ m ih=>
  intro x hm hb
  have hF:FnsOk E (Z86 (m+1)):=Z5 E_ok (Zb F0_ok (Zp E_ok (Zc (f:=31) rfl) fun x h=>ih x.1 (by omega) (by omega))) _ _ _
  refine Za E_ok (Xc E_ok F0_ok fun f N c=>(Zgg E_ok hF 400 f N c).1) ?_
  rw [Zxj]
  simp only [Xb,Yo,V6,V7,V8,beq_iff_eq,bne_iff_ne,beq_eq_false_iff_ne,bne_eq_false_iff_eq,decide_eq_true_eq,decide_eq_false_iff_not,Bool.or_eq_true,Bool.or_eq_false_iff,Bool.not_eq_true',Bool.not_eq_false',Bool.and_eq_true,Bool.and_true,Bool.true_and,Bool.and_eq_false_iff,beq_self_eq_true,Yl,Y4,ne_eq,and_true,true_and,Bool.true_eq_false,Bool.false_eq_true,false_or,or_false,true_implies,imp_self,Int.ofNat_eq_natCast,not_true_eq_false,not_false_eq_true,Decidable.not_not,Ex.eta]
  have hsz:=x.sz_eq
  have hlen:=Ex.szL_len x.l
  have hnx:=Zac x
  have hns:=Zql x
  refine ⟨fun y=>y.k<=x.l.length/\0<=y.j/\max y.j (Zcu (x.l.drop y.k):Int)=(Zcu x.l:Int)/\y.r=x.l.length-y.k,⟨⟨0,x.l.length,[],[],0,0,0,0⟩,⟨(by dsimp only;omega),(by dsimp only;omega),by dsimp only;rw [List.drop_zero];omega,rfl⟩,rfl,rfl⟩,?_⟩
  rintro y ⟨hk,hj1,hv,hr⟩
  refine And.intro (fun hq=> ?_) (fun hq=> ?_)
  · refine ⟨by omega,by omega,fun z hz=> ?_⟩
    have hz:x.l[y.k]? =some z:=hz
    have hzs:=Ex.sz_mem (List.mem_of_getElem? hz)
    rw [Zsz hz] at hv
    rw [wr64 (n:=(y.k:Int)+1) (by omega) (by omega)]
    exact ⟨by omega,⟨y.k+1,x.l.length-(y.k+1),[],[],0,0,0,max y.j (Z6 z:Int)⟩,⟨(by dsimp only;omega),(by dsimp only;omega),(by dsimp only;omega),rfl⟩,by show x.l.length-(y.k+1)+1<=y.r;omega,rfl,rfl⟩
  · rw [Vs (by omega)] at hv
    simp only [Zcu] at hv
    rw [wr64 (by omega) (by omega)]
    omega
def dimA (a b c d:Int):SV thy:= .agg [.int false .i64 a,.int false .i64 b,.int false .i64 c,.int false .i64 d]
structure WX where
 k:Nat
 r:Nat
 m:List (Int×Int)
def Yaw:Fr thy->Hp thy->Nat->Ann thy:=fun T h i=>{X:=WX,fr:=fun x=> [(3,T 3),(7,T 7),(8,.int false .i64 x.k)],bl:=fun x=> [(bOf (T 3),.map (Xk .i64 (X4 E Th.ints false) x.m))],src:=fun _=> [],md:= [bOf (T 3)],ih:=i,M:=i+30,meas:=fun x=>x.r}
def Z6c:Fns thy:=addL F0 61 3 Yaw E
abbrev qBH4:=(X4 E Th.ints (Zj (TypeDesc.int IntKind.i64)))
abbrev qBH7:=(0:Int)
abbrev qBH5 (a0:Int) (b0:Int) (c0:Int) (d0:Int):=(List.getD [a0,b0,c0,d0] (0:Nat) qBH7=List.getD [a0,b0,c0,d0] (0:Nat) qBH7/\List.getD [a0,b0,c0,d0] (1:Nat) qBH7=List.getD [a0,b0,c0,d0] (1:Nat) qBH7/\List.getD [a0,b0,c0,d0] (2:Nat) qBH7=List.getD [a0,b0,c0,d0] (2:Nat) qBH7/\List.getD [a0,b0,c0,d0] (3:Nat) qBH7=List.getD [a0,b0,c0,d0] (3:Nat) qBH7/\True)
abbrev qBH6:=(X4 E Th.ints false)
abbrev qBH8 (a0:WX):=(↑(WX.k a0):Int)
abbrev qBH9:=(1:Int)
theorem Zxk (a b c d:Int) (v:Bool):Zk E Z6c (vc E Z6c 400) 61 [dimA a b c d] hp0 0 (fun r=>ret E (patch hp0 0 r) r.v (.bool false v))=(
 (4:Nat)=(4:Nat)/\∃(R:WX->Prop),(∃(x:WX),R x/\true=true/\(True/\(qBH5 a b c d)/\qBH7=(qBH8 x)/\True)/\([]=Xk IntKind.i64 qBH6 (WX.m x)/\true=true)/\True)/\∀(x:WX),R x->(decide ((qBH8 x)<(4:Int))=true->qBH7<=(qBH8 x)/\(qBH8 x)+qBH9<=(↑(4:Nat):Int)/\∀(y:Int),[List.getD [a,b,c,d] (0:Nat) qBH7,List.getD [a,b,c,d] (1:Nat) qBH7,List.getD [a,b,c,d] (2:Nat) qBH7,List.getD [a,b,c,d] (3:Nat) qBH7][Int.toNat (qBH8 x)]? =some y->∃(l:List (Int×Int)),Xk IntKind.i64 qBH6 (WX.m x)=Xk IntKind.i64 qBH4 l/\∀(y_1:Int),y_1=Option.getD (Yy l y) qBH7->∃(l:List (Int×Int)),Xk IntKind.i64 qBH6 (WX.m x)=Xk IntKind.i64 qBH4 l/\∃(x':WX),R x'/\x'.2+(1:Nat)<=x.2/\true=true/\(True/\(qBH5 a b c d)/\wr IntKind.i64 ((qBH8 x)+qBH9)=(qBH8 x')/\True)/\(Xk IntKind.i64 qBH4 (putS l y (wr IntKind.i64 (y_1+qBH9)))=Xk IntKind.i64 qBH6 (WX.m x')/\nidE (0:Nat) (Xk IntKind.i64 qBH4 (putS l y (wr IntKind.i64 (y_1+qBH9))))=true)/\True)/\(decide ((qBH8 x)<(4:Int))=false->∃(l:List (Int×Int)),Xk IntKind.i64 qBH6 (WX.m x)=Xk IntKind.i64 qBH4 l/\∀(y:Int),y=Option.getD (Yy l qBH7) qBH7->∃(l:List (Int×Int)),Xk IntKind.i64 qBH6 (WX.m x)=Xk IntKind.i64 qBH4 l/\∀(y_1:Int),y_1=Option.getD (Yy l qBH9) qBH7->∃(l:List (Int×Int)),Xk IntKind.i64 qBH6 (WX.m x)=Xk IntKind.i64 qBH4 l/\∀(y_2:Int),y_2=Option.getD (Yy l (-1:Int)) qBH7->((wr IntKind.i64 (wr IntKind.i64 (y+y_1)+y_2)==(4:Int))=true->∃(l:List (Int×Int)),Xk IntKind.i64 qBH6 (WX.m x)=Xk IntKind.i64 qBH4 l/\∀(y:Int),y=Option.getD (Yy l qBH9) qBH7->(decide (y<=qBH9)=true->∃(l:List (Int×Int)),Xk IntKind.i64 qBH6 (WX.m x)=Xk IntKind.i64 qBH4 l/\∀(y:Int),y=Option.getD (Yy l (-1:Int)) qBH7->(decide (y<=qBH9)=true->true=v)/\(decide (y<=qBH9)=false->false=v))/\(decide (y<=qBH9)=false->false=v))/\((wr IntKind.i64 (wr IntKind.i64 (y+y_1)+y_2)==(4:Int))=false->false=v))):=by kernel_rfl
theorem Z15 {u:List Int} {k:Nat} {y n:Int} (h:u[k]? =some y):cnt (u.take (k+1)) n=cnt (u.take k) n+(if y=n then 1 else 0):=by
 have hk:=(gA9.1 h).1
 have:u.take (k+1)=u.take k++ [y]:=by rw [List.take_succ_eq_append_getElem hk];congr 2;exact (gA9.1 h).2
 unfold cnt
 rw [this,List.filter_append,List.length_append]
 by_cases e:y=n<;>simp [e]
theorem Zp9 (u:List Int) (n:Int):cnt u n<=u.length:=List.length_filter_le _ _
theorem Z16:FnsOk E Z6c:=Z5 E_ok F0_ok _ _ _
theorem Zxl (a b c d:Int):PureC E 61 [dimA a b c d] (.bool false (Zlj [a,b,c,d])):=by
 refine Za E_ok (Ze E_ok Z16 400) ?_
 rw [Zxk];delta qBH4 qBH7 qBH5 qBH6 qBH8 qBH9
 simp only [Xb,Yo,V6,V7,V8,beq_iff_eq,bne_iff_ne,beq_eq_false_iff_ne,bne_eq_false_iff_eq,decide_eq_true_eq,decide_eq_false_iff_not,Bool.or_eq_true,Bool.or_eq_false_iff,Bool.not_eq_true',Bool.not_eq_false',Bool.and_eq_true,Bool.and_true,Bool.true_and,Bool.and_eq_false_iff,beq_self_eq_true,Yl,Y4,ne_eq,and_true,true_and,Bool.true_eq_false,Bool.false_eq_true,false_or,or_false,true_implies,imp_self,Int.ofNat_eq_natCast,not_true_eq_false,not_false_eq_true,Decidable.not_not]
 have hc:∀k n,k<=4->cnt ([a,b,c,d].take k) n<=4:=fun k n hk=>Nat.le_trans (Zp9 _ _) (by simp;omega)
 refine ⟨fun x=>x.k<=4/\(∀n,(Yy x.m n).getD 0=(cnt ([a,b,c,d].take x.k) n:Int))/\x.r=4-x.k,⟨⟨0,4,[]⟩,⟨(by dsimp only;omega),fun n=>rfl,rfl⟩,rfl,rfl⟩,?_⟩
 rintro x ⟨hk,hm,hr⟩
 refine And.intro (fun hq=>⟨by omega,by omega,fun y hy=>⟨x.m,rfl,fun y1 h1=>⟨x.m,rfl,?_⟩⟩⟩) (fun hq=> ?_)
 · have hy: [a,b,c,d][x.k]? =some y:=hy
   have:=hc x.k y (by omega)
   rw [hm y] at h1
   rw [wr64 (n:=(x.k:Int)+1) (by omega) (by omega),wr64 (n:=y1+1) (by omega) (by omega)]
   refine ⟨⟨x.k+1,3-x.k,putS x.m y (y1+1)⟩,⟨by show x.k+1<=4;omega,fun n=> ?_,by show 3-x.k=4-(x.k+1);omega⟩,by show 3-x.k+1<=x.r;omega,rfl,rfl,Zhq E_ok _⟩
   show (Yy (putS x.m y (y1+1)) n).getD 0=(cnt ([a,b,c,d].take (x.k+1)) n:Int)
   rw [Zgd,Z15 hy]
   by_cases e:y=n
   · subst e;rw [if_pos rfl,if_pos rfl,h1];simp
   · rw [if_neg e,if_neg e,hm n];simp
 · have hk4:x.k=4:=by omega
   have hm:∀n,(Yy x.m n).getD 0=(cnt [a,b,c,d] n:Int):=fun n=>by rw [hm n,hk4];rfl
   have h0:=Zp9 [a,b,c,d] 0
   have h1:=Zp9 [a,b,c,d] 1
   have h2:=Zp9 [a,b,c,d] (-1)
   simp only [List.length_cons,List.length_nil] at h0 h1 h2
   refine ⟨x.m,rfl,fun y hy=>⟨x.m,rfl,fun y1 hy1=>⟨x.m,rfl,fun y2 hy2=> ?_⟩⟩⟩
   rw [hm] at hy hy1 hy2
   rw [wr64 (n:=y+y1) (by omega) (by omega),wr64 (n:=y+y1+y2) (by omega) (by omega)]
   unfold Zlj
   refine And.intro (fun h3=>⟨x.m,rfl,fun z hz=> ?_⟩) (fun h3=> ?_)
   · rw [hm] at hz
     refine And.intro (fun h4=>⟨x.m,rfl,fun z2 hz2=> ?_⟩) (fun h4=> ?_)
     · rw [hm] at hz2
       refine And.intro (fun h5=> ?_) (fun h5=> ?_)
       · simp;omega
       · symm;simp only [Bool.and_eq_false_iff,decide_eq_false_iff_not];omega
     · symm;simp only [Bool.and_eq_false_iff,decide_eq_false_iff_not];omega
   · symm;simp only [Bool.and_eq_false_iff,decide_eq_false_iff_not];omega
end
section
open Go
def dDim:DcL E (List Int×Unit):=dA1 (dR .dims)
def Z9a:Sum thy:=sumP dDim (fun _=>True) fun x=> .bool false (Zlj [x.1.getD 0 0,x.1.getD 1 0,x.1.getD 2 0,x.1.getD 3 0])
theorem Z2d:SumOk E 61 Z9a:=Zp E_ok (Zc (f:=61) rfl) fun x _=>Zxl _ _ _ _
def Yax (m:Nat):Sum thy:=sumP dExp (fun x=>x.1.sz<m) fun x=> .bool false (Zq x.1)
def Yay:Dc E (List Ex):=(Zrl (E:=E) Th.exprs:Dc E (List (thy.dom Th.exprs)))
def Yaz (m:Nat):Sum thy:=sumP (dA2 Yay (dFun 63)) (fun x=>Ex.szL x.1<m) fun x=> .bool false (!Ul x.1)
def Aidx:Fr thy->Hp thy->Nat->Ann thy:=fun T h i=>{X:=DX,fr:=fun x=> [(0,T 0),(1,T 1),(7,T 7),(8,.int false .i64 x.k)],bl:=fun x=> [],src:=fun _=> [],md:= [],ih:=i,M:=i+30,meas:=fun x=>x.r}
def Z6n (m:Nat):Fns thy:=addL (addS F0 30 (Yax m)) 101 2 Aidx E
theorem Zxr (m:Nat) (l:List Ex) (v:Bool):Zk E (Z6n m) (vc E (Z6n m) 400) 62 [.psl Th.exprs l false,.fn (.func 63) [] []] hp0 0 (fun r=>ret E (patch hp0 0 r) r.v (.bool false v))=(
∃(R:DX->Prop),(∃(x:DX),R x/\true=true/\((l=l/\(false=true->false=true))/\(Fn.func (63:FuncId)=Fn.func (63:FuncId)/\True/\True)/\(↑(List.length l):Int)=(↑(List.length l):Int)/\(0:Int)=(↑(DX.k x):Int)/\True)/\True)/\∀(x:DX),R x->(decide ((↑(DX.k x):Int)<(↑(List.length l):Int))=true->(0:Int)<=(↑(DX.k x):Int)/\(↑(DX.k x):Int)+(1:Int)<=(↑(List.length l):Int)/\∀(x_1:Ex),l[Int.toNat (↑(DX.k x):Int)]? =some x_1->Ex.sz (Ex.mk (Ex.op x_1) (Ex.n x_1) (Ex.d0 x_1) (Ex.d1 x_1) (Ex.d2 x_1) (Ex.d3 x_1) (Ex.l x_1))+(1:Nat)<=m/\((!Zq (Ex.mk (Ex.op x_1) (Ex.n x_1) (Ex.d0 x_1) (Ex.d1 x_1) (Ex.d2 x_1) (Ex.d3 x_1) (Ex.l x_1)))=true->(decide ((↑(DX.k x):Int)>=(0:Int))=true->true=v)/\(decide ((↑(DX.k x):Int)>=(0:Int))=false->false=v))/\((!Zq (Ex.mk (Ex.op x_1) (Ex.n x_1) (Ex.d0 x_1) (Ex.d1 x_1) (Ex.d2 x_1) (Ex.d3 x_1) (Ex.l x_1)))=false->∃(x':DX),R x'/\x'.2+(1:Nat)<=x.2/\true=true/\((l=l/\(false=true->false=true))/\(Fn.func (63:FuncId)=Fn.func (63:FuncId)/\True/\True)/\(↑(List.length l):Int)=(↑(List.length l):Int)/\wr IntKind.i64 ((↑(DX.k x):Int)+(1:Int))=(↑(DX.k x'):Int)/\True)/\True))/\(decide ((↑(DX.k x):Int)<(↑(List.length l):Int))=false->false=v)):=by kernel_rfl
theorem Zxs (m:Nat) (hm:m<=1000000000000) (ih:∀x:Ex,x.sz<m->PureC E 30 [exA x] (.bool false (Zq x))) (l:List Ex) (hl:Ex.szL l<m):PureC E 62 [.psl Th.exprs l false,.fn (.func 63) [] []] (.bool false (!Ul l)):=by
 have hF:FnsOk E (Z6n m):=Z5 E_ok (Zb F0_ok (Zp E_ok (Zc (f:=30) rfl) fun x h=>ih x.1 h)) _ _ _
 refine Za E_ok (Ze E_ok hF 400) ?_
 rw [Zxr]
 simp only [Xb,Yo,V6,V7,V8,beq_iff_eq,bne_iff_ne,beq_eq_false_iff_ne,bne_eq_false_iff_eq,decide_eq_true_eq,decide_eq_false_iff_not,Bool.or_eq_true,Bool.or_eq_false_iff,Bool.not_eq_true',Bool.not_eq_false',Bool.and_eq_true,Bool.and_true,Bool.true_and,Bool.and_eq_false_iff,beq_self_eq_true,Yl,Y4,ne_eq,and_true,true_and,Bool.true_eq_false,Bool.false_eq_true,false_or,or_false,true_implies,imp_self,Int.ofNat_eq_natCast,not_true_eq_false,not_false_eq_true,Decidable.not_not,Ex.eta]
 have hlen:=Ex.szL_len l
 refine ⟨fun x=>x.k<=l.length/\Ul (l.drop x.k)=Ul l/\x.r=l.length-x.k,⟨⟨0,l.length,[],[],0,0,0,0⟩,⟨(by dsimp only;omega),rfl,rfl⟩,rfl⟩,?_⟩
 rintro x ⟨hk,hv,hr⟩
 refine And.intro (fun hq=>⟨by omega,by omega,fun y hy=> ?_⟩) (fun hq=> ?_)
 · have hy:l[x.k]? =some y:=hy
   rw [Ztu hy] at hv
   have hys:=Ex.szL_mem (List.mem_of_getElem? hy)
   refine ⟨by omega,fun h1=> ?_,fun h1=> ?_⟩
   · rw [h1] at hv
     rw [<-hv]
     exact And.intro (fun _=>rfl) (fun h=>by omega)
   · rw [h1,Bool.true_and] at hv
     exact ⟨⟨x.k+1,l.length-(x.k+1),[],[],0,0,0,0⟩,⟨(by dsimp only;omega),hv,rfl⟩,by show l.length-(x.k+1)+1<=x.r;omega,wr64 (by omega) (by omega)⟩
 · rw [Vs (by omega)] at hv
   rw [<-hv];rfl
def Z6o (m:Nat):Fns thy:=addS (addS F0 62 (Yaz m)) 61 Z9a
abbrev qBI4:=(0:Int)
abbrev qBI2 (a0:Ex):=(!Zlj [List.getD [Ex.d0 a0,Ex.d1 a0,Ex.d2 a0,Ex.d3 a0] (0:Nat) qBI4,List.getD [Ex.d0 a0,Ex.d1 a0,Ex.d2 a0,Ex.d3 a0] (1:Nat) qBI4,List.getD [Ex.d0 a0,Ex.d1 a0,Ex.d2 a0,Ex.d3 a0] (2:Nat) qBI4,List.getD [Ex.d0 a0,Ex.d1 a0,Ex.d2 a0,Ex.d3 a0] (3:Nat) qBI4])
abbrev qBI7 (a0:Ex):=(!(Ex.d0 a0==qBI4&&(Ex.d1 a0==qBI4&&(Ex.d2 a0==qBI4&&(Ex.d3 a0==qBI4&&true)))))
abbrev qBI1 (a0:Ex) (b0:Bool) (c0:Nat):=((qBI2 a0)=false->((Ex.op a0 !=(1:Int))=true->((qBI7 a0)=true->false=b0)/\((qBI7 a0)=false->Ex.szL (Ex.l a0)+(1:Nat)<=c0/\(!!Ul (Ex.l a0))=b0))/\((Ex.op a0 !=(1:Int))=false->Ex.szL (Ex.l a0)+(1:Nat)<=c0/\(!!Ul (Ex.l a0))=b0))
abbrev qBI3 (a0:Ex):=(↑(List.length (Ex.l a0)):Int)
abbrev qBI5 (a0:Ex) (b0:Bool->Prop):=((decide (Ex.op a0<(1:Int))=true->b0 true)/\(decide (Ex.op a0<(1:Int))=false->(decide (Ex.op a0>(11:Int))=true->b0 true)/\(decide (Ex.op a0>(11:Int))=false->b0 false)))
abbrev qBI6 (a0:Ex) (b0:Bool):=(decide (Ex.n a0<qBI4)=true->false=b0)
theorem Zxt (m:Nat) (x:Ex) (v:Bool):Zk E (Z6o m) (vc E (Z6o m) 400) 30 [exA x] hp0 0 (fun r=>ret E (patch hp0 0 r) r.v (.bool false v))=(
 ((Ex.op x==(1:Int))=true->(qBI6 x v)/\(decide (Ex.n x<qBI4)=false->(decide (Ex.n x>(1099511627776:Int))=true->false=v)/\(decide (Ex.n x>(1099511627776:Int))=false->(((qBI3 x) !=qBI4)=true->false=v)/\(((qBI3 x) !=qBI4)=false->True/\((qBI2 x)=true->false=v)/\(qBI1 x v m)))))/\((Ex.op x==(1:Int))=false->((Ex.op x==(2:Int))=true->(qBI6 x v)/\(decide (Ex.n x<qBI4)=false->(decide (Ex.n x>(15:Int))=true->false=v)/\(decide (Ex.n x>(15:Int))=false->(((qBI3 x) !=qBI4)=true->false=v)/\(((qBI3 x) !=qBI4)=false->True/\((qBI2 x)=true->false=v)/\(qBI1 x v m)))))/\((Ex.op x==(2:Int))=false->((Ex.op x==(11:Int))=true->∃(Q:Bool->Prop),(qBI5 x Q)/\(Q true->false=v)/\(Q false->(qBI6 x v)/\(decide (Ex.n x<qBI4)=false->(decide (Ex.n x>qBI4)=true->false=v)/\(decide (Ex.n x>qBI4)=false->(((qBI3 x) !=(4:Int))=true->false=v)/\(((qBI3 x) !=(4:Int))=false->True/\((qBI2 x)=true->false=v)/\(qBI1 x v m))))))/\((Ex.op x==(11:Int))=false->∃(Q:Bool->Prop),(qBI5 x Q)/\(Q true->false=v)/\(Q false->(qBI6 x v)/\(decide (Ex.n x<qBI4)=false->(decide (Ex.n x>qBI4)=true->false=v)/\(decide (Ex.n x>qBI4)=false->(((qBI3 x) !=(2:Int))=true->false=v)/\(((qBI3 x) !=(2:Int))=false->True/\((qBI2 x)=true->false=v)/\(qBI1 x v m))))))))):=by kernel_rfl
theorem Zk7 (x:Ex):Zq x=true↔(1<=x.op/\x.op<=11/\0<=x.n/\(x.op=1->x.n<=1099511627776)/\(x.op=2->x.n<=15)/\(x.op≠1->x.op≠2->x.n<=0)/\(x.op=1\/x.op=2->x.l.length=0)/\(x.op=11->x.l.length=4)/\(x.op≠1->x.op≠2->x.op≠11->x.l.length=2)/\
 (x.op=1\/(x.d0=0/\x.d1=0/\x.d2=0/\x.d3=0)))/\Zlj [x.d0,x.d1,x.d2,x.d3]=true/\Ul x.l=true:=by
 rw [Ziz]
 simp only [Zlk,Bool.and_eq_true,Bool.or_eq_true,decide_eq_true_eq,Ex.u,List.cons.injEq,and_true]
 unfold Ztt Z64
 constructor
 · rintro ⟨⟨⟨⟨⟨⟨⟨h1,h2⟩,h3⟩,h4⟩,h5⟩,h6⟩,h7⟩,h8⟩
   refine ⟨⟨h1,h2,h3,fun h=> ?_,fun h=> ?_,fun h h'=> ?_,fun h=> ?_,fun h=> ?_,fun h h' h''=> ?_,h7⟩,h6,h8⟩
   · rw [if_pos h] at h4;exact h4
   · rw [if_neg (by omega),if_pos h] at h4;exact h4
   · rw [if_neg h,if_neg h'] at h4;exact h4
   · rw [if_pos h] at h5;exact h5
   · rw [if_neg (by omega),if_pos h] at h5;exact h5
   · rw [if_neg (by omega),if_neg h''] at h5;exact h5
 · rintro ⟨⟨h1,h2,h3,h4,h5,h6,h7,h8,h9,h10⟩,h11,h12⟩
   refine ⟨⟨⟨⟨⟨⟨⟨h1,h2⟩,h3⟩,?_⟩,?_⟩,h11⟩,h10⟩,h12⟩
   · split
     · exact h4 ‹_›
     · split
       · exact h5 ‹_›
       · exact h6 ‹_› ‹_›
   · split
     · exact h7 ‹_›
     · split
       · exact h8 ‹_›
       · exact h9 (by omega) (by omega) ‹_›
theorem Z2e {x:Ex} (h:((1<=x.op/\x.op<=11/\0<=x.n/\(x.op=1->x.n<=1099511627776)/\(x.op=2->x.n<=15)/\(x.op≠1->x.op≠2->x.n<=0)/\(x.op=1\/x.op=2->x.l.length=0)/\(x.op=11->x.l.length=4)/\(x.op≠1->x.op≠2->x.op≠11->x.l.length=2)/\
 (x.op=1\/(x.d0=0/\x.d1=0/\x.d2=0/\x.d3=0)))->Zlj [x.d0,x.d1,x.d2,x.d3]=true->False)):false=Zq x:=by
 symm;rw [Bool.eq_false_iff];intro h'
 have:=(Zk7 x).1 h'
 exact h this.1 this.2.1
theorem Zxu {x:Ex} {b:Bool} (hb:b=Ul x.l) (h:(1<=x.op/\x.op<=11/\0<=x.n/\(x.op=1->x.n<=1099511627776)/\(x.op=2->x.n<=15)/\(x.op≠1->x.op≠2->x.n<=0)/\(x.op=1\/x.op=2->x.l.length=0)/\(x.op=11->x.l.length=4)/\(x.op≠1->x.op≠2->x.op≠11->x.l.length=2)/\
 (x.op=1\/(x.d0=0/\x.d1=0/\x.d2=0/\x.d3=0)))) (hw:Zlj [x.d0,x.d1,x.d2,x.d3]=true):b=Zq x:=by
 rw [Bool.eq_iff_iff,Zk7,hb]
 exact ⟨fun h'=>⟨h,hw,h'⟩,fun h'=>h'.2.2⟩
theorem Z2f:∀(m:Nat),m<=1000000000000->∀(x:Ex),x.sz<m->PureC E 30 [exA x] (.bool false (Zq x)):=by
 intro m
 induction m with
 |zero=>intro _ x h;omega
 |succ m ih=>
  intro hb x hm
  have hF:FnsOk E (Z6o m):=Zb (Zb F0_ok (Zp E_ok (Zc (f:=62) rfl) fun x h=>Zxs m (by omega) (ih (by omega)) x.1 h)) Z2d
  refine Za E_ok (Ze E_ok hF 400) ?_
  rw [Zxt];delta qBI4 qBI2 qBI7 qBI1 qBI3 qBI5 qBI6
  have hsz:=x.sz_eq
  repeat' (first|exact Zmp _|apply Zu0|apply JR_some|apply JR_and|apply Zu1|(refine And.intro ?_ ?_)|(intro h))
  all_goals (simp only [Xb,Yo,V6,V7,V8,beq_iff_eq,bne_iff_ne,beq_eq_false_iff_ne,bne_eq_false_iff_eq,decide_eq_true_eq,decide_eq_false_iff_not,Bool.or_eq_true,Bool.or_eq_false_iff,Bool.not_eq_true',Bool.not_eq_false',Bool.and_eq_true,Bool.and_true,Bool.true_and,Bool.and_eq_false_iff,beq_self_eq_true,Yl,Y4,ne_eq,and_true,true_and,Bool.true_eq_false,Bool.false_eq_true,false_or,or_false,true_implies,imp_self,Int.ofNat_eq_natCast,not_true_eq_false,not_false_eq_true,Decidable.not_not,List.getD_cons_zero,List.getD_cons_succ] at*)
  all_goals first|trivial|omega|(exact Z2e (fun h hw=>by first|omega|(simp_all;done)))|(exact Zxu (by simp) (by omega) (by simp_all))
end
end Go.Proofs.YtpmkapclhlmbbaaGreatDoor
/-
  DERIVED: THE SHELF's CONTRACTS AT THIS DUMP, IN PLAIN WORDS (tools/lay-plain.mjs out of 'YtpmkapclhlmbbaaGreatDoorTvLay0.lean', which tools/lay-shelf.mjs wrote): THE SAME DECLARATIONS UNDER THE SAME NAMES: 'import', 'namespace', 'open', 'def', 'theorem' AND NOTHING ELSE: no command of the shelf's: FOR A HAND-IN. Each laying: the table of numbers ('.._ren') and one theorem, a field a fact of the dump's own or the kernel's comparison; each contract: ONE APPLICATION.
-/
namespace Go.Proofs
open Go.Shelf
def Tryz.lays160_ren:Go.Shelf.Ren:=⟨fun|160=>60|232=>95|231=>94|227=>96|234=>98|233=>97|236=>100|235=>99|228=>137|271=>140|151=>139|197=>138|120=>175|152=>174|260=>173|137=>127|119=>193|224=>144|225=>143|217=>142|266=>180|n=>n,fun|9=>9|4=>4|3=>3|5=>5|117=>145|116=>144|0=>0|124=>148|21=>21|105=>186|46=>113|119=>222|139=>229|138=>228|n=>n,fun|3=>7|4=>8|n=>n⟩
theorem Tryz.lays160:Go.Proofs.Lays.n160 Tryz.prog Tryz.lays160_ren:={
  mixed:=by kernel_rfl
  f119:=Tryz.func193.trans (congrArg some (by kernel_rfl))
  f120:=Tryz.func175.trans (congrArg some (by kernel_rfl))
  f137:=Tryz.func127.trans (congrArg some (by kernel_rfl))
  f151:=Tryz.func139.trans (congrArg some (by kernel_rfl))
  f152:=Tryz.func174.trans (congrArg some (by kernel_rfl))
  f160:=Tryz.func60.trans (congrArg some (by kernel_rfl))
  f197:=Tryz.func138.trans (congrArg some (by kernel_rfl))
  f217:=Tryz.func142.trans (congrArg some (by kernel_rfl))
  f224:=Tryz.func144.trans (congrArg some (by kernel_rfl))
  f225:=Tryz.func143.trans (congrArg some (by kernel_rfl))
  f227:=Tryz.func96.trans (congrArg some (by kernel_rfl))
  f228:=Tryz.func137.trans (congrArg some (by kernel_rfl))
  f231:=Tryz.func94.trans (congrArg some (by kernel_rfl))
  f232:=Tryz.func95.trans (congrArg some (by kernel_rfl))
  f233:=Tryz.func97.trans (congrArg some (by kernel_rfl))
  f234:=Tryz.func98.trans (congrArg some (by kernel_rfl))
  f235:=Tryz.func99.trans (congrArg some (by kernel_rfl))
  f236:=Tryz.func100.trans (congrArg some (by kernel_rfl))
  f260:=Tryz.func173.trans (congrArg some (by kernel_rfl))
  f266:=Tryz.func180.trans (congrArg some (by kernel_rfl))
  f271:=Tryz.func140.trans (congrArg some (by kernel_rfl))
  t0:=Tryz.underlying0
  a0:=Tryz.isAgg0
  z0:=Tryz.sizeOf0
  v0:=Tryz.zeroValue0
  t3:=Tryz.underlying3
  a3:=Tryz.isAgg3
  z3:=Tryz.sizeOf3
  v3:=Tryz.zeroValue3
  t4:=Tryz.underlying4
  a4:=Tryz.isAgg4
  z4:=Tryz.sizeOf4
  v4:=Tryz.zeroValue4
  t5:=Tryz.underlying5
  a5:=Tryz.isAgg5
  z5:=Tryz.sizeOf5
  v5:=Tryz.zeroValue5
  t9:=Tryz.underlying9
  a9:=Tryz.isAgg9
  z9:=Tryz.sizeOf9
  v9:=Tryz.zeroValue9
  t21:=Tryz.underlying21
  a21:=Tryz.isAgg21
  z21:=Tryz.sizeOf21
  v21:=Tryz.zeroValue21
  t46:=Tryz.underlying113
  a46:=Tryz.isAgg113
  z46:=Tryz.sizeOf113
  v46:=Tryz.zeroValue113
  t105:=Tryz.underlying186
  a105:=Tryz.isAgg186
  z105:=Tryz.sizeOf186
  v105:=Tryz.zeroValue186
  t116:=Tryz.underlying144
  a116:=Tryz.isAgg144
  z116:=Tryz.sizeOf144
  t117:=Tryz.underlying145
  a117:=Tryz.isAgg145
  z117:=Tryz.sizeOf145
  v117:=Tryz.zeroValue145
  t119:=Tryz.underlying222
  a119:=Tryz.isAgg222
  z119:=Tryz.sizeOf222
  t124:=Tryz.underlying148
  a124:=Tryz.isAgg148
  z124:=Tryz.sizeOf148
  v124:=Tryz.zeroValue148
  t138:=Tryz.underlying228
  a138:=Tryz.isAgg228
  z138:=Tryz.sizeOf228
  v138:=Tryz.zeroValue228
  t139:=Tryz.underlying229
  a139:=Tryz.isAgg229
  z139:=Tryz.sizeOf229
  v139:=Tryz.zeroValue229
  g3:=by kernel_rfl
  g4:=by kernel_rfl}
def Tryz.lays169_ren:Go.Shelf.Ren:=⟨fun|169=>40|n=>n,fun|70=>79|9=>9|0=>0|72=>82|37=>80|127=>117|3=>3|5=>5|n=>n,fun|n=>n⟩
theorem Tryz.lays169:Go.Proofs.Lays.n169 Tryz.prog Tryz.lays169_ren:={
  mixed:=by kernel_rfl
  f169:=Tryz.func40.trans (congrArg some (by kernel_rfl))
  t0:=Tryz.underlying0
  a0:=Tryz.isAgg0
  z0:=Tryz.sizeOf0
  v0:=Tryz.zeroValue0
  t3:=Tryz.underlying3
  a3:=Tryz.isAgg3
  z3:=Tryz.sizeOf3
  v3:=Tryz.zeroValue3
  t9:=Tryz.underlying9
  a9:=Tryz.isAgg9
  z9:=Tryz.sizeOf9
  v9:=Tryz.zeroValue9
  t37:=Tryz.underlying80
  a37:=Tryz.isAgg80
  z37:=Tryz.sizeOf80
  v37:=Tryz.zeroValue80
  t70:=Tryz.underlying79
  a70:=Tryz.isAgg79
  z70:=Tryz.sizeOf79
  v70:=Tryz.zeroValue79
  t72:=Tryz.underlying82
  a72:=Tryz.isAgg82
  z72:=Tryz.sizeOf82
  v72:=Tryz.zeroValue82
  t127:=Tryz.underlying117
  a127:=Tryz.isAgg117
  z127:=Tryz.sizeOf117
  v127:=Tryz.zeroValue117}
def Tryz.lays138_ren:Go.Shelf.Ren:=⟨fun|138=>41|195=>69|218=>70|143=>71|219=>106|217=>142|225=>143|224=>144|267=>145|266=>180|314=>181|n=>n,fun|9=>9|3=>3|4=>4|5=>5|0=>0|46=>113|146=>152|51=>151|n=>n,fun|1=>2|n=>n⟩
theorem Tryz.lays138:Go.Proofs.Lays.n138 Tryz.prog Tryz.lays138_ren:={
  mixed:=by kernel_rfl
  f138:=Tryz.func41.trans (congrArg some (by kernel_rfl))
  f143:=Tryz.func71.trans (congrArg some (by kernel_rfl))
  f195:=Tryz.func69.trans (congrArg some (by kernel_rfl))
  f217:=Tryz.func142.trans (congrArg some (by kernel_rfl))
  f218:=Tryz.func70.trans (congrArg some (by kernel_rfl))
  f219:=Tryz.func106.trans (congrArg some (by kernel_rfl))
  f224:=Tryz.func144.trans (congrArg some (by kernel_rfl))
  f225:=Tryz.func143.trans (congrArg some (by kernel_rfl))
  f266:=Tryz.func180.trans (congrArg some (by kernel_rfl))
  f267:=Tryz.func145.trans (congrArg some (by kernel_rfl))
  f314:=Tryz.func181.trans (congrArg some (by kernel_rfl))
  t0:=Tryz.underlying0
  a0:=Tryz.isAgg0
  z0:=Tryz.sizeOf0
  v0:=Tryz.zeroValue0
  t3:=Tryz.underlying3
  a3:=Tryz.isAgg3
  z3:=Tryz.sizeOf3
  v3:=Tryz.zeroValue3
  t4:=Tryz.underlying4
  a4:=Tryz.isAgg4
  z4:=Tryz.sizeOf4
  v4:=Tryz.zeroValue4
  t5:=Tryz.underlying5
  a5:=Tryz.isAgg5
  z5:=Tryz.sizeOf5
  v5:=Tryz.zeroValue5
  t9:=Tryz.underlying9
  a9:=Tryz.isAgg9
  z9:=Tryz.sizeOf9
  v9:=Tryz.zeroValue9
  t46:=Tryz.underlying113
  a46:=Tryz.isAgg113
  z46:=Tryz.sizeOf113
  v46:=Tryz.zeroValue113
  t51:=Tryz.underlying151
  a51:=Tryz.isAgg151
  z51:=Tryz.sizeOf151
  v51:=Tryz.zeroValue151
  t146:=Tryz.underlying152
  a146:=Tryz.isAgg152
  z146:=Tryz.sizeOf152
  v146:=Tryz.zeroValue152
  g1:=by kernel_rfl}
def Tryz.lays172_ren:Go.Shelf.Ren:=⟨fun|172=>45|244=>74|245=>75|247=>108|279=>109|280=>110|281=>111|282=>112|287=>146|316=>147|171=>68|205=>148|321=>182|322=>183|243=>105|246=>141|283=>176|284=>177|285=>178|286=>179|129=>195|317=>194|318=>196|319=>197|320=>198|337=>200|338=>201|n=>n,fun|9=>9|3=>3|75=>84|76=>85|4=>4|5=>5|167=>160|37=>80|0=>0|85=>161|2=>2|168=>163|53=>154|175=>190|46=>113|210=>194|127=>117|145=>219|143=>217|21=>21|171=>210|173=>213|212=>231|51=>151|20=>20|213=>232|232=>251|233=>252|80=>89|n=>n,fun|15=>3|16=>4|17=>9|18=>11|19=>12|n=>n⟩
theorem Tryz.lays172:Go.Proofs.LaysC.n172 Tryz.prog Tryz.lays172_ren:={
  mixed:=by kernel_rfl
  f129:=Tryz.func195.trans (congrArg some (by kernel_rfl))
  f171:=Tryz.func68.trans (congrArg some (by kernel_rfl))
  f172:=Tryz.func45.trans (congrArg some (by kernel_rfl))
  f205:=Tryz.func148.trans (congrArg some (by kernel_rfl))
  f243:=Tryz.func105.trans (congrArg some (by kernel_rfl))
  f244:=Tryz.func74.trans (congrArg some (by kernel_rfl))
  f245:=Tryz.func75.trans (congrArg some (by kernel_rfl))
  f246:=Tryz.func141.trans (congrArg some (by kernel_rfl))
  f247:=Tryz.func108.trans (congrArg some (by kernel_rfl))
  f279:=Tryz.func109.trans (congrArg some (by kernel_rfl))
  f280:=Tryz.func110.trans (congrArg some (by kernel_rfl))
  f281:=Tryz.func111.trans (congrArg some (by kernel_rfl))
  f282:=Tryz.func112.trans (congrArg some (by kernel_rfl))
  f283:=Tryz.func176.trans (congrArg some (by kernel_rfl))
  f284:=Tryz.func177.trans (congrArg some (by kernel_rfl))
  f285:=Tryz.func178.trans (congrArg some (by kernel_rfl))
  f286:=Tryz.func179.trans (congrArg some (by kernel_rfl))
  f287:=Tryz.func146.trans (congrArg some (by kernel_rfl))
  f316:=Tryz.func147.trans (congrArg some (by kernel_rfl))
  f317:=Tryz.func194.trans (congrArg some (by kernel_rfl))
  f318:=Tryz.func196.trans (congrArg some (by kernel_rfl))
  f319:=Tryz.func197.trans (congrArg some (by kernel_rfl))
  f320:=Tryz.func198.trans (congrArg some (by kernel_rfl))
  f321:=Tryz.func182.trans (congrArg some (by kernel_rfl))
  f322:=Tryz.func183.trans (congrArg some (by kernel_rfl))
  f337:=Tryz.func200.trans (congrArg some (by kernel_rfl))
  f338:=Tryz.func201.trans (congrArg some (by kernel_rfl))
  t0:=Tryz.underlying0
  a0:=Tryz.isAgg0
  z0:=Tryz.sizeOf0
  v0:=Tryz.zeroValue0
  t2:=Tryz.underlying2
  a2:=Tryz.isAgg2
  z2:=Tryz.sizeOf2
  v2:=Tryz.zeroValue2
  t3:=Tryz.underlying3
  a3:=Tryz.isAgg3
  z3:=Tryz.sizeOf3
  v3:=Tryz.zeroValue3
  t4:=Tryz.underlying4
  a4:=Tryz.isAgg4
  z4:=Tryz.sizeOf4
  v4:=Tryz.zeroValue4
  t5:=Tryz.underlying5
  a5:=Tryz.isAgg5
  z5:=Tryz.sizeOf5
  v5:=Tryz.zeroValue5
  t9:=Tryz.underlying9
  a9:=Tryz.isAgg9
  z9:=Tryz.sizeOf9
  v9:=Tryz.zeroValue9
  t20:=Tryz.underlying20
  a20:=Tryz.isAgg20
  z20:=Tryz.sizeOf20
  v20:=Tryz.zeroValue20
  t21:=Tryz.underlying21
  a21:=Tryz.isAgg21
  z21:=Tryz.sizeOf21
  v21:=Tryz.zeroValue21
  t37:=Tryz.underlying80
  a37:=Tryz.isAgg80
  z37:=Tryz.sizeOf80
  v37:=Tryz.zeroValue80
  t46:=Tryz.underlying113
  a46:=Tryz.isAgg113
  z46:=Tryz.sizeOf113
  v46:=Tryz.zeroValue113
  t51:=Tryz.underlying151
  a51:=Tryz.isAgg151
  z51:=Tryz.sizeOf151
  v51:=Tryz.zeroValue151
  t53:=Tryz.underlying154
  a53:=Tryz.isAgg154
  z53:=Tryz.sizeOf154
  v53:=Tryz.zeroValue154
  t75:=Tryz.underlying84
  a75:=Tryz.isAgg84
  z75:=Tryz.sizeOf84
  v75:=Tryz.zeroValue84
  t76:=Tryz.underlying85
  a76:=Tryz.isAgg85
  z76:=Tryz.sizeOf85
  v76:=Tryz.zeroValue85
  t85:=Tryz.underlying161
  a85:=Tryz.isAgg161
  z85:=Tryz.sizeOf161
  v85:=Tryz.zeroValue161
  t127:=Tryz.underlying117
  a127:=Tryz.isAgg117
  z127:=Tryz.sizeOf117
  v127:=Tryz.zeroValue117
  t143:=Tryz.underlying217
  a143:=Tryz.isAgg217
  z143:=Tryz.sizeOf217
  v143:=Tryz.zeroValue217
  t145:=Tryz.underlying219
  a145:=Tryz.isAgg219
  z145:=Tryz.sizeOf219
  v145:=Tryz.zeroValue219
  t167:=Tryz.underlying160
  a167:=Tryz.isAgg160
  z167:=Tryz.sizeOf160
  v167:=Tryz.zeroValue160
  t168:=Tryz.underlying163
  a168:=Tryz.isAgg163
  z168:=Tryz.sizeOf163
  v168:=Tryz.zeroValue163
  t171:=Tryz.underlying210
  a171:=Tryz.isAgg210
  z171:=Tryz.sizeOf210
  v171:=Tryz.zeroValue210
  t173:=Tryz.underlying213
  a173:=Tryz.isAgg213
  z173:=Tryz.sizeOf213
  v173:=Tryz.zeroValue213
  t175:=Tryz.underlying190
  a175:=Tryz.isAgg190
  z175:=Tryz.sizeOf190
  v175:=Tryz.zeroValue190
  t210:=Tryz.underlying194
  a210:=Tryz.isAgg194
  z210:=Tryz.sizeOf194
  v210:=Tryz.zeroValue194
  t212:=Tryz.underlying231
  a212:=Tryz.isAgg231
  z212:=Tryz.sizeOf231
  v212:=Tryz.zeroValue231
  t213:=Tryz.underlying232
  a213:=Tryz.isAgg232
  z213:=Tryz.sizeOf232
  t232:=Tryz.underlying251
  a232:=Tryz.isAgg251
  z232:=Tryz.sizeOf251
  v232:=Tryz.zeroValue251
  t233:=Tryz.underlying252
  a233:=Tryz.isAgg252
  z233:=Tryz.sizeOf252
  v233:=Tryz.zeroValue252
  g15:=by kernel_rfl
  g16:=by kernel_rfl
  g17:=by kernel_rfl
  g18:=by kernel_rfl
  g19:=by kernel_rfl
  t80:=Tryz.underlying89
  a80:=Tryz.isAgg89
  z80:=Tryz.sizeOf89
  v80:=Tryz.zeroValue89
  i0:=by kernel_rfl
  i2:=by kernel_rfl
  i3:=by kernel_rfl
  i4:=by kernel_rfl
  i5:=by kernel_rfl
  i9:=by kernel_rfl
  i20:=by kernel_rfl
  i21:=by kernel_rfl
  i37:=by kernel_rfl
  i46:=by kernel_rfl
  i51:=by kernel_rfl
  i53:=by kernel_rfl
  i75:=by kernel_rfl
  i76:=by kernel_rfl
  i80:=by kernel_rfl
  i85:=by kernel_rfl
  i127:=by kernel_rfl
  i143:=by kernel_rfl
  i145:=by kernel_rfl
  i167:=by kernel_rfl
  i168:=by kernel_rfl
  i171:=by kernel_rfl
  i173:=by kernel_rfl
  i175:=by kernel_rfl
  i210:=by kernel_rfl
  i212:=by kernel_rfl
  i232:=by kernel_rfl
  i233:=by kernel_rfl
  m15:=by kernel_rfl
  m16:=by kernel_rfl
  m17:=by kernel_rfl
  m18:=by kernel_rfl
  m19:=by kernel_rfl
  c0:=by kernel_rfl
  c2:=by kernel_rfl
  c3:=by kernel_rfl
  c4:=by kernel_rfl
  c5:=by kernel_rfl
  c9:=by kernel_rfl
  c20:=by kernel_rfl
  c21:=by kernel_rfl
  c37:=by kernel_rfl
  c46:=by kernel_rfl
  c51:=by kernel_rfl
  c53:=by kernel_rfl
  c75:=by kernel_rfl
  c76:=by kernel_rfl
  c80:=by kernel_rfl
  c85:=by kernel_rfl
  c127:=by kernel_rfl
  c143:=by kernel_rfl
  c145:=by kernel_rfl
  c167:=by kernel_rfl
  c168:=by kernel_rfl
  c171:=by kernel_rfl
  c173:=by kernel_rfl
  c175:=by kernel_rfl
  c210:=by kernel_rfl
  c212:=by kernel_rfl
  c213:=by kernel_rfl
  c232:=by kernel_rfl
  c233:=by kernel_rfl}
def Tryz.lays171_ren:Go.Shelf.Ren:=⟨fun|171=>68|243=>105|246=>141|283=>176|284=>177|285=>178|286=>179|129=>195|317=>194|318=>196|319=>197|320=>198|337=>200|338=>201|n=>n,fun|3=>3|9=>9|2=>2|4=>4|171=>210|0=>0|53=>154|37=>80|5=>5|173=>213|212=>231|51=>151|20=>20|213=>232|46=>113|232=>251|233=>252|n=>n,fun|17=>9|18=>11|19=>12|n=>n⟩
theorem Tryz.lays171:Go.Proofs.Lays.n171 Tryz.prog Tryz.lays171_ren:={
  mixed:=by kernel_rfl
  f129:=Tryz.func195.trans (congrArg some (by kernel_rfl))
  f171:=Tryz.func68.trans (congrArg some (by kernel_rfl))
  f243:=Tryz.func105.trans (congrArg some (by kernel_rfl))
  f246:=Tryz.func141.trans (congrArg some (by kernel_rfl))
  f283:=Tryz.func176.trans (congrArg some (by kernel_rfl))
  f284:=Tryz.func177.trans (congrArg some (by kernel_rfl))
  f285:=Tryz.func178.trans (congrArg some (by kernel_rfl))
  f286:=Tryz.func179.trans (congrArg some (by kernel_rfl))
  f317:=Tryz.func194.trans (congrArg some (by kernel_rfl))
  f318:=Tryz.func196.trans (congrArg some (by kernel_rfl))
  f319:=Tryz.func197.trans (congrArg some (by kernel_rfl))
  f320:=Tryz.func198.trans (congrArg some (by kernel_rfl))
  f337:=Tryz.func200.trans (congrArg some (by kernel_rfl))
  f338:=Tryz.func201.trans (congrArg some (by kernel_rfl))
  t0:=Tryz.underlying0
  a0:=Tryz.isAgg0
  z0:=Tryz.sizeOf0
  v0:=Tryz.zeroValue0
  t2:=Tryz.underlying2
  a2:=Tryz.isAgg2
  z2:=Tryz.sizeOf2
  v2:=Tryz.zeroValue2
  t3:=Tryz.underlying3
  a3:=Tryz.isAgg3
  z3:=Tryz.sizeOf3
  v3:=Tryz.zeroValue3
  t4:=Tryz.underlying4
  a4:=Tryz.isAgg4
  z4:=Tryz.sizeOf4
  v4:=Tryz.zeroValue4
  t5:=Tryz.underlying5
  a5:=Tryz.isAgg5
  z5:=Tryz.sizeOf5
  v5:=Tryz.zeroValue5
  t9:=Tryz.underlying9
  a9:=Tryz.isAgg9
  z9:=Tryz.sizeOf9
  v9:=Tryz.zeroValue9
  t20:=Tryz.underlying20
  a20:=Tryz.isAgg20
  z20:=Tryz.sizeOf20
  v20:=Tryz.zeroValue20
  t37:=Tryz.underlying80
  a37:=Tryz.isAgg80
  z37:=Tryz.sizeOf80
  v37:=Tryz.zeroValue80
  t46:=Tryz.underlying113
  a46:=Tryz.isAgg113
  z46:=Tryz.sizeOf113
  v46:=Tryz.zeroValue113
  t51:=Tryz.underlying151
  a51:=Tryz.isAgg151
  z51:=Tryz.sizeOf151
  v51:=Tryz.zeroValue151
  t53:=Tryz.underlying154
  a53:=Tryz.isAgg154
  z53:=Tryz.sizeOf154
  v53:=Tryz.zeroValue154
  t171:=Tryz.underlying210
  a171:=Tryz.isAgg210
  z171:=Tryz.sizeOf210
  v171:=Tryz.zeroValue210
  t173:=Tryz.underlying213
  a173:=Tryz.isAgg213
  z173:=Tryz.sizeOf213
  v173:=Tryz.zeroValue213
  t212:=Tryz.underlying231
  a212:=Tryz.isAgg231
  z212:=Tryz.sizeOf231
  v212:=Tryz.zeroValue231
  t213:=Tryz.underlying232
  a213:=Tryz.isAgg232
  z213:=Tryz.sizeOf232
  t232:=Tryz.underlying251
  a232:=Tryz.isAgg251
  z232:=Tryz.sizeOf251
  v232:=Tryz.zeroValue251
  t233:=Tryz.underlying252
  a233:=Tryz.isAgg252
  z233:=Tryz.sizeOf252
  v233:=Tryz.zeroValue252
  g17:=by kernel_rfl
  g18:=by kernel_rfl
  g19:=by kernel_rfl}
def Tryz.lays129_ren:Go.Shelf.Ren:=⟨fun|129=>195|n=>n,fun|53=>154|3=>3|4=>4|46=>113|5=>5|9=>9|n=>n,fun|n=>n⟩
theorem Tryz.lays129:Go.Proofs.Lays.n129 Tryz.prog Tryz.lays129_ren:={
  mixed:=by kernel_rfl
  f129:=Tryz.func195.trans (congrArg some (by kernel_rfl))
  t3:=Tryz.underlying3
  a3:=Tryz.isAgg3
  z3:=Tryz.sizeOf3
  v3:=Tryz.zeroValue3
  t4:=Tryz.underlying4
  a4:=Tryz.isAgg4
  z4:=Tryz.sizeOf4
  v4:=Tryz.zeroValue4
  t5:=Tryz.underlying5
  a5:=Tryz.isAgg5
  z5:=Tryz.sizeOf5
  v5:=Tryz.zeroValue5
  t9:=Tryz.underlying9
  a9:=Tryz.isAgg9
  z9:=Tryz.sizeOf9
  v9:=Tryz.zeroValue9
  t46:=Tryz.underlying113
  a46:=Tryz.isAgg113
  z46:=Tryz.sizeOf113
  v46:=Tryz.zeroValue113
  t53:=Tryz.underlying154
  a53:=Tryz.isAgg154
  z53:=Tryz.sizeOf154
  v53:=Tryz.zeroValue154}
def Tryz.lays317_ren:Go.Shelf.Ren:=⟨fun|317=>194|n=>n,fun|3=>3|46=>113|n=>n,fun|n=>n⟩
theorem Tryz.lays317:Go.Proofs.Lays.n317 Tryz.prog Tryz.lays317_ren:={
  mixed:=by kernel_rfl
  f317:=Tryz.func194.trans (congrArg some (by kernel_rfl))
  t3:=Tryz.underlying3
  a3:=Tryz.isAgg3
  z3:=Tryz.sizeOf3
  v3:=Tryz.zeroValue3
  t46:=Tryz.underlying113
  a46:=Tryz.isAgg113
  z46:=Tryz.sizeOf113
  v46:=Tryz.zeroValue113}
def Tryz.lays283_ren:Go.Shelf.Ren:=⟨fun|283=>176|n=>n,fun|3=>3|9=>9|4=>4|n=>n,fun|n=>n⟩
theorem Tryz.lays283:Go.Proofs.Lays.n283 Tryz.prog Tryz.lays283_ren:={
  mixed:=by kernel_rfl
  f283:=Tryz.func176.trans (congrArg some (by kernel_rfl))
  t3:=Tryz.underlying3
  a3:=Tryz.isAgg3
  z3:=Tryz.sizeOf3
  v3:=Tryz.zeroValue3
  t4:=Tryz.underlying4
  a4:=Tryz.isAgg4
  z4:=Tryz.sizeOf4
  v4:=Tryz.zeroValue4
  t9:=Tryz.underlying9
  a9:=Tryz.isAgg9
  z9:=Tryz.sizeOf9
  v9:=Tryz.zeroValue9}
end Go.Proofs

namespace Go.Proofs.YtpmkapclhlmbbaaGreatDoor
set_option linter.unusedVariables false
set_option linter.unusedSimpArgs false
set_option linter.unnecessarySimpa false
set_option maxRecDepth 100000
section
open Go
def wb (c:Nat):Bool:=(Nat.ble 97 c&&Nat.ble c 122)||(Nat.ble 48 c&&Nat.ble c 57)
def Zrq:List Nat:= [97,98,99,100,101,102,103,104,105,106,107,108,109,110,111,112,113,114,115,116,117,118,119,120,121,122,48,49,50,51,52,53,54,55,56,57]
def Zmw (s:List Nat):List Nat:=(Lib.trimS (mkS s).data.toList (mkS Zrq).data.toList).map UInt8.toNat
theorem Zvi (s:List Nat) (hs:s.length<=9223372036854775807):PureC E 60 [.str false s,.str true Zrq] (.str false (Zmw s)):=by
 refine Zaw fun g w vals hd=> ?_
 obtain ⟨u,v,rfl,hu,hv⟩:=Z3w hd
 cases hu;cases hv
 rename_i b hb c hc
 subst hb
 have hc':c=mkS Zrq:=by rw [<-hc,Vw]
 subst hc'
 have hs':b.size<=9223372036854775807:=by rw [<-Vv];exact hs
 refine (Any.strings_Trim_laid Tryz.lays160 (by kernel_rfl) b (mkS Zrq) w hs' (by decide) (ascii_of_all (by decide))).mono ?_
 rintro e w' ⟨rfl,hw⟩
 refine ⟨_,rfl,?_,hw⟩
 unfold Zmw
 rw [Vw]
 exact Z3x
theorem dw_nil {α:Type} {p:α->Bool}:∀{l:List α},l.dropWhile p= []↔∀x∈l,p x=true
 | []=>by simp
 |x::l=>by
  rw [List.dropWhile_cons]
  cases hp:p x with
  |true=>simp [hp,dw_nil (l:=l)]
  |false=>simp [hp]
theorem Zvj {α:Type} {p:α->Bool}:∀{l:List α} {b:α} {r:List α},l.dropWhile p=b::r->p b=false
 | [],b,r,h=>by simp at h
 |x::l,b,r,h=>by
  rw [List.dropWhile_cons] at h
  cases hp:p x with
  |true=>rw [hp] at h;exact Zvj h
  |false=>rw [hp] at h;simp at h;rw [<-h.1];exact hp
theorem Zvk (l cs:List UInt8):Lib.trimS l cs= []↔∀b∈l,cs.contains b=true:=by
 unfold Lib.trimS Lib.trimLeftS Lib.trimRightS
 rw [dw_nil]
 constructor
 · intro h
   cases hd:l.reverse.dropWhile (cs.contains ·) with
   |nil=>
    rw [dw_nil] at hd
    exact fun b hb=>hd b (List.mem_reverse.2 hb)
   |cons b r=>
    exfalso
    have h1:=h b (by rw [hd];simp)
    have h2:=Zvj hd
    rw [h1] at h2
    cases h2
 · intro h b hb
   rw [dw_nil.2 (fun b hb=>h b (List.mem_reverse.1 hb))] at hb
   simp at hb
theorem Zj2:∀n,n<256->(mkS Zrq).data.toList.contains (UInt8.ofNat n)=wb n:=by decide
theorem Zvl {s:List Nat} (hs:Byt s):Zmw s= []↔s.all wb=true:=by
 unfold Zmw
 rw [List.map_eq_nil_iff,Zvk,List.all_eq_true]
 have e:s=(mkS s).data.toList.map UInt8.toNat:=(show toL (mkS s)=s from hs).symm
 constructor
 · intro h c hc
   rw [e] at hc
   obtain ⟨b,hb,rfl⟩:=List.mem_map.1 hc
   rw [<-Zj2 _ b.toNat_lt]
   have:=h b hb
   rwa [show UInt8.ofNat b.toNat=b from UInt8.ofNat_toNat]
 · intro h b hb
   have:=h b.toNat (by rw [e];exact List.mem_map_of_mem hb)
   rw [<-Zj2 _ b.toNat_lt] at this
   rwa [show UInt8.ofNat b.toNat=b from UInt8.ofNat_toNat] at this
def Z71:Sum thy:=sumP (dA2 dS (dKs Zrq)) (fun x=>x.1.length<=9223372036854775807) fun x=> .str false (Zmw x.1)
theorem Zz8:SumOk E 60 Z71:=Zp E_ok (Zc (f:=60) rfl) fun x h=>Zvi _ h
def Z49:Fns thy:=addS F0 60 Z71
theorem Zz9:FnsOk E Z49:=Zb F0_ok Zz8
def lowF:List Nat->Bool
 | []=>false
 |c::_=>Nat.ble 97 c&&Nat.ble c 122
def Zee (s:List Nat):Bool:=decide (s.length<=32)&&lowF s&&s.all wb
theorem Zvm (s:List Nat) (v:Bool):Zk E Z49 (vc E Z49 400) 28 [.str false s] hp0 0 (fun r=>ret E (patch hp0 0 r) r.v (.bool false v))=(
(decide ((↑(List.length s):Int)<=(32:Int))=true->((!s==toL (ByteArray.mk #[]))=true->(0:Int)<=(0:Int)/\(0:Int)+(1:Int)<=(↑(List.length s):Int)/\∀(x:Nat),s[Int.toNat (0:Int)]? =some x->(decide ((↑x:Int)>=(97:Int))=true->(0:Int)<=(0:Int)/\(0:Int)+(1:Int)<=(↑(List.length s):Int)/\∀(x:Nat),s[Int.toNat (0:Int)]? =some x->(decide ((↑x:Int)<=(122:Int))=true->List.length s<=(9223372036854775807:Nat)/\((Zmw s==toL (ByteArray.mk #[]))=true->true=v)/\((Zmw s==toL (ByteArray.mk #[]))=false->false=v))/\(decide ((↑x:Int)<=(122:Int))=false->false=v))/\(decide ((↑x:Int)>=(97:Int))=false->false=v))/\((!s==toL (ByteArray.mk #[]))=false->false=v))/\(decide ((↑(List.length s):Int)<=(32:Int))=false->false=v)):=by kernel_rfl
theorem Zvn (s:List Nat):PureC E 28 [.str false s] (.bool false (Zee s)):=by
 refine Z3u (j:=0) rfl fun hs=>Za E_ok (Ze E_ok Zz9 400) ?_
 rw [Zvm]
 simp only [Xb,Yo,V6,V7,V8,beq_iff_eq,bne_iff_ne,beq_eq_false_iff_ne,bne_eq_false_iff_eq,decide_eq_true_eq,decide_eq_false_iff_not,Bool.or_eq_true,Bool.or_eq_false_iff,Bool.not_eq_true',Bool.not_eq_false',Bool.and_eq_true,Bool.and_true,Bool.true_and,Bool.and_eq_false_iff,beq_self_eq_true,Yl,Y4,ne_eq,and_true,true_and,Bool.true_eq_false,Bool.false_eq_true,false_or,or_false,true_implies,imp_self,Int.ofNat_eq_natCast,not_true_eq_false,not_false_eq_true,Decidable.not_not]
 have he:toL (ByteArray.mk #[])= []:=rfl
 have hz:(0:Int).toNat=0:=rfl
 simp only [he,hz,Zvl hs]
 unfold Zee
 refine And.intro (fun h1=>And.intro (fun h2=>⟨by omega,?_,fun c hc=> ?_⟩) (fun h2=> ?_)) (fun h1=> ?_)
 · cases s with
   |nil=>exact absurd rfl h2
   |cons c r=>simp only [List.length_cons];omega
 · cases s with
   |nil=>simp at hc
   |cons c' r=>
    obtain rfl:c'=c:=by simpa using hc
    rw [decide_eq_true (show (c'::r).length<=32 by omega),show lowF (c'::r)=(Nat.ble 97 c'&&Nat.ble c' 122) from rfl]
    refine And.intro (fun h3=>⟨by omega,by simp only [List.length_cons];omega,fun c2 hc2=> ?_⟩) (fun h3=> ?_)
    · obtain rfl:c'=c2:=by simpa using hc2
      refine And.intro (fun h4=>⟨by omega,fun h5=> ?_,fun h5=> ?_⟩) (fun h4=> ?_)
      · rw [h5,Nat.ble_eq_true_of_le (by omega),Nat.ble_eq_true_of_le (by omega)];rfl
      · rw [Bool.eq_false_iff.2 h5];simp
      · have:Nat.ble c' 122=false:=by rw [<-Bool.not_eq_true,Nat.ble_eq];omega
        rw [this];simp
    · have:Nat.ble 97 c'=false:=by rw [<-Bool.not_eq_true,Nat.ble_eq];omega
      rw [this];simp
 · rw [h2];simp [lowF]
 · rw [decide_eq_false (show ¬s.length<=32 by omega)];simp
def resW:List (List Nat):= [[116,97,114,105,102,102],[102,111,114],[99,108,97,117,115,101],[119,104,101,110],[97,110,100],[105,110],[105,115],[112,97,121],[109,105,110],[109,97,120],[100,111,119,110],[117,112],[104,97,108,102],[105,102],[109,111,110,101,121],[109,105,110,117,116,101],[112,101,114],[107,103],[116,121,112,101],[111,119,110,101,114],[114,97,105,108,119,97,121],[115,104,105,112,112,101,114],[99,108,97,115,115],[119,101,105,103,104,116],[107,109],[109,105,110,117,116,101,115],[119,111,114,107,105,110,103],[99,111,100,101],[119,111,114,116,104],[99,111,115,116],[109,111,110,116,104],[98,101,103,105,110],[112,97,114,116,115],[112,97,114,116],[104,105,114,101],[100,101,109,117,114,114,97,103,101],[102,114,101,105,103,104,116],[114,101,112,97,105,114],[108,111,115,115],[99,108,101,97,110,105,110,103]]
theorem Z0a (s:List Nat) (K:SV thy->Prop):Zk E F0 (vc E F0 400) 29 [.str false s] hp0 0 (fun r=>K r.v)=X7 false (.str false s) (resW.map fun k=>(Value.string (mkS k),SV.bool true true)) K (K (.bool true false)):=by kernel_rfl
theorem Zpe (s:List Nat):PureC E 29 [.str false s] (.bool false (decide (s∈resW))):=by
 refine Zhx E_ok (Yaa 400) (K:=fun r=>r.v= .bool true (decide (s∈resW))) (fun r hr=>by rw [hr];rfl) ?_
 rw [Z0a s fun v=>v= .bool true (decide (s∈resW))]
 refine Zho ?_ (fun h=>by rw [decide_eq_true h]) (fun h=>by rw [decide_eq_false h])
 unfold Byt;decide
end
section
open Go
def Zv3:Dc E Unit where
 dec v:=match v with| .tup []=>some ()|_=>none
 enc _:= .tup []
 ok v a h:=by
  split at h
  · exact ⟨rfl,rfl,fun _ _ _ h=>h⟩
  · cases h
def dTup {α:Type} (r:DcL E α):Dc E α where
 dec v:=match v with| .tup cs=>r.dec cs|_=>none
 enc a:= .tup (r.enc a)
 ok v a h:=by
  split at h
  · obtain ⟨k1,k2,k3⟩:=r.ok _ _ h
    refine ⟨by simpa [nid] using k1,rfl,fun σ g u hd=> ?_⟩
    obtain ⟨arr,c,rfl,hs,hc,hd⟩:=Ziy hd
    refine .tup c (by omega) (fun j hj=>hc j (by omega)) fun j sv' hj=> ?_
    obtain ⟨sv,h1,h2⟩:=k3 σ g j sv' hj
    exact h2 _ (hd j sv h1)
  · cases h
def dBt:Dc E Bool where
 dec v:=match v with| .bool _ b=>some b|_=>none
 enc b:= .bool true b
 ok v a h:=by
  split at h
  · cases h
    exact ⟨rfl,rfl,fun σ g u hd=>by cases hd;exact .bool _ _⟩
  · cases h
abbrev PX:=List Tok×Int×Unit
def Yaf:Dc E (List Tok):=(Zrl (E:=E) Th.toks:Dc E (List (thy.dom Th.toks)))
def dPX:DcL E PX:=dA2 Yaf dN
def Z0w (e:Int×Int):Value:= .iface 134 (.agg #[.int .i64 e.1,.int .i64 e.2])
def Zpl:Value->Option (Int×Int)
 | .iface t (.agg a)=>(match Nat.beq t 134,a.toList with|true,[.int .i64 x,.int .i64 y]=>some (x,y)|_,_=>none)
 |_=>none
theorem Zke (q:Value) (e:Int×Int) (h:Zpl q=some e):Z0w e=q:=by
 unfold Zpl at h
 split at h
 · rename_i t a
   split at h
   · rename_i x y ht ha
     cases h
     unfold Z0w
     obtain rfl:=gC9 ht
     have:a= #[Value.int .i64 x,Value.int .i64 y]:=by rw [<-Array.toArray_toList (xs:=a),ha]
     rw [this]
   · cases h
 · cases h
def mI {α β:Type} (dA:DcL E α) (hA:∀a,nidL 0 (dA.enc a)=true) (d:Dc E β) (hv:∀y,nid 0 (d.enc y)=true):MutI E PX α β (Int×Int) where
 dS:=dPX
 dA:=dA
 v:=d.enc
 hv:=hv
 hS _:=rfl
 hA:=hA
 pv:=Z0w
abbrev PR (β:Type):=Except (Int×Int) (β×PX)
def mK {α β:Type} (dA:DcL E α) (hA:∀a,nidL 0 (dA.enc a)=true) (d:Dc E β) (hv:∀y,nid 0 (d.enc y)=true) (l:List Tok) (e:Int) (out:PR β):Res thy->Prop:=
 mutK (mI dA hA d hv) (fun _=>none) 3 d.dec Zpl (l,e,()) out
theorem V1 {F:Fns thy} (hF:FnsOk E F) {n:Nat} {α β:Type} {dA:DcL E α} {hA:∀a,nidL 0 (dA.enc a)=true} {d:Dc E β} {hv:∀y,nid 0 (d.enc y)=true} {f:Nat} {l:List Tok} {e:Int} {a:α} {out:PR β}
 (hk:Zk E F (vc E F n) f (.ptr 0 0::dA.enc a) (one [.psl Th.toks l false,.int false .i64 e]) 1 (mK dA hA d hv l e out)):Wm (mI dA hA d hv) f (l,e,()) a out:=
 Zn3 E_ok (Ze E_ok hF n) (fun v y h=>(d.ok v y h).2.2) Zke (x:=(l,e,())) hk
theorem n1 {α:Type} {d:Dc E α} (h:∀y,nid 0 (d.enc y)=true):∀a:α×Unit,nidL 0 ((dA1 d).enc a)=true:=fun a=>by
 show (nid 0 (d.enc a.1)&&true)=true
 rw [h];rfl
theorem n0:∀a:Unit,nidL 0 ((DcL.nil (E:=E)).enc a)=true:=fun _=>rfl
def dWK:DcL E WK where
 dec vs:=match vs with| [.str true s]=>wkOf s|_=>none
 enc k:= [.str true k.src]
 ok vs k h:=by
  split at h
  · rw [Zp7 h]
    exact ⟨rfl,rfl,fun σ g j sv' hj=>⟨sv',hj,fun _ h=>h⟩⟩
  · cases h
theorem Zh6:∀k,nidL 0 (dWK.enc k)=true:=fun _=>rfl
theorem Zw {A B:Prop}:(∃Q:Bool->Prop,Q true/\(Q true->A)/\(Q false->B))↔A:=
 ⟨fun ⟨_,h1,h2,_⟩=>h2 h1,fun h=>⟨fun b=>b=true,rfl,fun _=>h,fun h=>by cases h⟩⟩
theorem Yb {c:Bool} {A B:Prop}:(∃Q:Bool->Prop,((c=true->Q true)/\(c=false->Q false))/\(Q true->A)/\(Q false->B))↔((c=true->A)/\(c=false->B)):=by
 constructor
 · rintro ⟨Q,⟨h1,h2⟩,h3,h4⟩
   exact ⟨fun h=>h3 (h1 h),fun h=>h4 (h2 h)⟩
 · rintro ⟨h1,h2⟩
   exact ⟨fun b=>c=b,⟨fun h=>h,fun h=>h⟩,h1,h2⟩
theorem tz {t:Tok} {l:List Tok}:((((t::l).length:Nat):Int)==0)=false:=by
 rw [beq_eq_false_iff_ne,List.length_cons];omega
theorem tz0:(((([]:List Tok).length:Nat):Int)==0)=true:=rfl
theorem tp {t:Tok} {l:List Tok}:decide ((((t::l).length:Nat):Int)>0)=true:=by
 rw [decide_eq_true_eq,List.length_cons];omega
theorem tp0:decide (((([]:List Tok).length:Nat):Int)>0)=false:=rfl
theorem tl1 {t:Tok} {l:List Tok}:((0:Int)+1<=(((t::l).length:Nat):Int))=True:=eq_true (by rw [List.length_cons];omega)
theorem tl2 {t:Tok} {l:List Tok}:((1:Int)<=(((t::l).length:Nat):Int))=True:=eq_true (by rw [List.length_cons];omega)
theorem tg {t x:Tok} {l:List Tok}:((t::l)[Int.toNat 0]? =some x)=(t=x):=by
 rw [eq_iff_iff];simp
theorem td {t:Tok} {l:List Tok}:List.drop (Int.toNat 1) (t::l)=l:=rfl
theorem i01:((0:Int)<=1)=True:=by simp
def hdT (e:Int):List Tok->Int
 | []=>e
 |t::_=>t.at_
def isW (s:List Nat):List Tok->Bool
 | []=>false
 |t::_=> !(t.kind==2)&&t.text==s
def pAcc (s:List Nat) (l:List Tok) (e:Int):PR Bool:= .ok (isW s l,if isW s l then l.tail else l,e,())
def Zeo (s:List Nat) (l:List Tok) (e:Int):PR Unit:=if isW s l then .ok ((),l.tail,e,()) else .error (hdT e l,160)
def pInt:List Tok->Int->PR Int
 | [],e=> .error (e,160)
 |t::r,e=>if t.kind=2 then .ok (t.n,r,e,()) else .error (t.at_,160)
def chz (ws:List (List Nat)):List Tok->Int
 | []=> -1
 |t::_=>if t.kind=1 then idxS t.text 0 ws else-1
def Yp (ws:List (List Nat)) (l:List Tok) (e:Int):PR (Int×Bool×Unit):=if 0<=chz ws l then .ok ((chz ws l,true,()),l.tail,e,()) else .ok ((0,false,()),l,e,())
def X8 (ws:List (List Nat)) (l:List Tok) (e:Int):PR Int:=if 0<=chz ws l then .ok (chz ws l,l.tail,e,()) else .error (hdT e l,160)
def Zep:List Tok->Int->PR (List Nat)
 | [],e=> .error (e,160)
 |t::r,e=>if t.kind=1 then (if t.text∈resW then .error (t.at_,161) else .ok (t.text,r,e,())) else .error (t.at_,160)
theorem V4 {i:Int}:(decide (i<0)=true)=¬0<=i:=by rw [decide_eq_true_eq];exact propext (by omega)
theorem V5 {i:Int}:(decide (i<0)=false)=(0<=i):=by rw [decide_eq_false_iff_not];exact propext (by omega)
theorem Zm4 (l:List Tok) (e:Int) (s:List Nat) (out:PR Bool):Zk E F0 (vc E F0 400) 89 [.ptr 0 0,.str false s] (one [.psl Th.toks l false,.int false .i64 e]) 1 (mK (dA1 dS) (n1 fun _=>rfl) dBt (fun _=>rfl) l e out)=(
(((↑(List.length l):Int)==(0:Int))=true->out=Except.ok (false,l,e,()))/\(((↑(List.length l):Int)==(0:Int))=false->(0:Int)<=(0:Int)/\(0:Int)+(1:Int)<=(↑(List.length l):Int)/\∀(x:Tok),l[Int.toNat (0:Int)]? =some x->((Tok.kind x==(2:Int))=true->out=Except.ok (false,l,e,()))/\((Tok.kind x==(2:Int))=false->(0:Int)<=(0:Int)/\(0:Int)+(1:Int)<=(↑(List.length l):Int)/\∀(x:Tok),l[Int.toNat (0:Int)]? =some x->((!Tok.text x==s)=true->out=Except.ok (false,l,e,()))/\((!Tok.text x==s)=false->((0:Int)<=(1:Int)/\(1:Int)<=(↑(List.length l):Int))/\out=Except.ok (true,List.drop (Int.toNat (1:Int)) l,e,()))))):=by kernel_rfl
theorem Zkf (l:List Tok) (e:Int) (out:PR Int):Zk E F0 (vc E F0 400) 167 [.ptr 0 0] (one [.psl Th.toks l false,.int false .i64 e]) 1 (mK .nil n0 dN (fun _=>rfl) l e out)=(
(((↑(List.length l):Int)==(0:Int))=true->(decide ((↑(List.length l):Int)>(0:Int))=true->(0:Int)<=(0:Int)/\(0:Int)+(1:Int)<=(↑(List.length l):Int)/\∀(x:Tok),l[Int.toNat (0:Int)]? =some x->out=Except.error (Tok.at_ x,(160:Int)))/\(decide ((↑(List.length l):Int)>(0:Int))=false->out=Except.error (e,(160:Int))))/\(((↑(List.length l):Int)==(0:Int))=false->(0:Int)<=(0:Int)/\(0:Int)+(1:Int)<=(↑(List.length l):Int)/\∀(x:Tok),l[Int.toNat (0:Int)]? =some x->((Tok.kind x !=(2:Int))=true->(decide ((↑(List.length l):Int)>(0:Int))=true->(0:Int)<=(0:Int)/\(0:Int)+(1:Int)<=(↑(List.length l):Int)/\∀(x:Tok),l[Int.toNat (0:Int)]? =some x->out=Except.error (Tok.at_ x,(160:Int)))/\(decide ((↑(List.length l):Int)>(0:Int))=false->out=Except.error (e,(160:Int))))/\((Tok.kind x !=(2:Int))=false->(0:Int)<=(0:Int)/\(0:Int)+(1:Int)<=(↑(List.length l):Int)/\∀(x:Tok),l[Int.toNat (0:Int)]? =some x->((0:Int)<=(1:Int)/\(1:Int)<=(↑(List.length l):Int))/\out=Except.ok (Tok.n x,List.drop (Int.toNat (1:Int)) l,e,())))):=by kernel_rfl
def Fsm:Fns thy:=addS (addS (addS F0 165 Zxe) 44 Sixs) 29 (Zgc (dA1 dS) (fun _=>True) (fun x=>decide (x.1∈resW)) fun y=> .bool false y)
theorem Zv4:FnsOk E Fsm:=Zb (Zb (Zb F0_ok Zsx) Z59) (Wb E_ok (Zc (f:=29) rfl) fun x _=>Zpe x.1)
def dIB:Dc E (Int×Bool×Unit):=dTup (dA2 dN dB)
abbrev qBL3:=(0:Int)
abbrev qBL2 (a0:List Tok):=(↑(List.length a0):Int)
abbrev qBL1 (a0:List Tok) (b0:PR Unit):=(decide ((qBL2 a0)>qBL3)=true->qBL3<=qBL3/\qBL3+(1:Int)<=(qBL2 a0)/\∀(x:Tok),a0[Int.toNat qBL3]? =some x->b0=Except.error (Tok.at_ x,(160:Int)))
abbrev qBL4 (a0:List Tok) (b0:PR Unit) (c0:Int):=(decide ((qBL2 a0)>qBL3)=false->b0=Except.error (c0,(160:Int)))
theorem Zm5 (l:List Tok) (e:Int) (s:List Nat) (out:PR Unit):Zk E F0 (vc E F0 400) 85 [.ptr 0 0,.str false s] (one [.psl Th.toks l false,.int false .i64 e]) 1 (mK (dA1 dS) (n1 fun _=>rfl) Zv3 (fun _=>rfl) l e out)=(
 (((qBL2 l)==qBL3)=true->(qBL1 l out)/\(qBL4 l out e))/\(((qBL2 l)==qBL3)=false->qBL3<=qBL3/\qBL3+(1:Int)<=(qBL2 l)/\∀(x:Tok),l[Int.toNat qBL3]? =some x->((Tok.kind x==(2:Int))=true->(qBL1 l out)/\(qBL4 l out e))/\((Tok.kind x==(2:Int))=false->qBL3<=qBL3/\qBL3+(1:Int)<=(qBL2 l)/\∀(x:Tok),l[Int.toNat qBL3]? =some x->((!Tok.text x==s)=true->(qBL1 l out)/\(qBL4 l out e))/\((!Tok.text x==s)=false->(qBL3<=(1:Int)/\(1:Int)<=(qBL2 l))/\out=Except.ok ((),List.drop (Int.toNat (1:Int)) l,e,()))))):=by kernel_rfl
abbrev qBL6:=(0:Int)
abbrev qBL5 (a0:Bool->Prop) (b0:List Tok) (c0:PR (Int×Bool×Unit)) (d0:Int) (e0:Int):=(a0 false->(qBL6<=(1:Int)/\(1:Int)<=(↑(List.length b0):Int))/\c0=Except.ok ((d0,true,()),List.drop (Int.toNat (1:Int)) b0,e0,()))
abbrev qBL7:=(WK.words WK.un)
theorem Zry (l:List Tok) (e:Int) (out:PR (Int×Bool×Unit)):Zk E Fsm (vc E Fsm 400) 130 [.ptr 0 0,.str true (WK.src .un)] (one [.psl Th.toks l false,.int false .i64 e]) 1 (mK dWK Zh6 dIB (fun _=>rfl) l e out)=(
 (((↑(List.length l):Int)==qBL6)=true->List.length qBL7<=(1000000000:Nat)/\∀(y:Int),y=idxS [] (0:Nat) qBL7->∃(Q:Bool->Prop),Q true/\(Q true->out=Except.ok ((qBL6,false,()),l,e,()))/\(qBL5 Q l out y e))/\(((↑(List.length l):Int)==qBL6)=false->qBL6<=qBL6/\qBL6+(1:Int)<=(↑(List.length l):Int)/\∀(x:Tok),l[Int.toNat qBL6]? =some x->((Tok.kind x !=(1:Int))=true->List.length qBL7<=(1000000000:Nat)/\∀(y:Int),y=idxS [] (0:Nat) qBL7->∃(Q:Bool->Prop),Q true/\(Q true->out=Except.ok ((qBL6,false,()),l,e,()))/\(qBL5 Q l out y e))/\((Tok.kind x !=(1:Int))=false->qBL6<=qBL6/\qBL6+(1:Int)<=(↑(List.length l):Int)/\∀(x:Tok),l[Int.toNat qBL6]? =some x->List.length qBL7<=(1000000000:Nat)/\∀(y:Int),y=idxS (Tok.text x) (0:Nat) qBL7->∃(Q:Bool->Prop),((decide (y<qBL6)=true->Q true)/\(decide (y<qBL6)=false->Q false))/\(Q true->out=Except.ok ((qBL6,false,()),l,e,()))/\(qBL5 Q l out y e)))):=by kernel_rfl
abbrev qBL9:=(0:Int)
abbrev qBL8 (a0:Bool->Prop) (b0:List Tok) (c0:PR (Int×Bool×Unit)) (d0:Int) (e0:Int):=(a0 false->(qBL9<=(1:Int)/\(1:Int)<=(↑(List.length b0):Int))/\c0=Except.ok ((d0,true,()),List.drop (Int.toNat (1:Int)) b0,e0,()))
abbrev qBLa:=(WK.words WK.ca)
theorem Zrz (l:List Tok) (e:Int) (out:PR (Int×Bool×Unit)):Zk E Fsm (vc E Fsm 400) 130 [.ptr 0 0,.str true (WK.src .ca)] (one [.psl Th.toks l false,.int false .i64 e]) 1 (mK dWK Zh6 dIB (fun _=>rfl) l e out)=(
 (((↑(List.length l):Int)==qBL9)=true->List.length qBLa<=(1000000000:Nat)/\∀(y:Int),y=idxS [] (0:Nat) qBLa->∃(Q:Bool->Prop),Q true/\(Q true->out=Except.ok ((qBL9,false,()),l,e,()))/\(qBL8 Q l out y e))/\(((↑(List.length l):Int)==qBL9)=false->qBL9<=qBL9/\qBL9+(1:Int)<=(↑(List.length l):Int)/\∀(x:Tok),l[Int.toNat qBL9]? =some x->((Tok.kind x !=(1:Int))=true->List.length qBLa<=(1000000000:Nat)/\∀(y:Int),y=idxS [] (0:Nat) qBLa->∃(Q:Bool->Prop),Q true/\(Q true->out=Except.ok ((qBL9,false,()),l,e,()))/\(qBL8 Q l out y e))/\((Tok.kind x !=(1:Int))=false->qBL9<=qBL9/\qBL9+(1:Int)<=(↑(List.length l):Int)/\∀(x:Tok),l[Int.toNat qBL9]? =some x->List.length qBLa<=(1000000000:Nat)/\∀(y:Int),y=idxS (Tok.text x) (0:Nat) qBLa->∃(Q:Bool->Prop),((decide (y<qBL9)=true->Q true)/\(decide (y<qBL9)=false->Q false))/\(Q true->out=Except.ok ((qBL9,false,()),l,e,()))/\(qBL8 Q l out y e)))):=by kernel_rfl
abbrev qBLe:=(0:Int)
abbrev qBLd (a0:List Tok):=(↑(List.length a0):Int)
abbrev qBLb (a0:Bool->Prop) (b0:List Tok) (c0:PR Int) (d0:Int):=(a0 true->(decide ((qBLd b0)>qBLe)=true->qBLe<=qBLe/\qBLe+(1:Int)<=(qBLd b0)/\∀(x:Tok),b0[Int.toNat qBLe]? =some x->c0=Except.error (Tok.at_ x,(160:Int)))/\(decide ((qBLd b0)>qBLe)=false->c0=Except.error (d0,(160:Int))))
abbrev qBLc (a0:Bool->Prop) (b0:List Tok) (c0:PR Int) (d0:Int) (e0:Int):=(a0 false->(qBLe<=(1:Int)/\(1:Int)<=(qBLd b0))/\c0=Except.ok (d0,List.drop (Int.toNat (1:Int)) b0,e0,()))
abbrev qBLf:=(WK.words WK.at_)
theorem Zm6 (l:List Tok) (e:Int) (out:PR Int):Zk E Fsm (vc E Fsm 400) 87 [.ptr 0 0,.str true (WK.src .at_)] (one [.psl Th.toks l false,.int false .i64 e]) 1 (mK dWK Zh6 dN (fun _=>rfl) l e out)=(
 (((qBLd l)==qBLe)=true->List.length qBLf<=(1000000000:Nat)/\∀(y:Int),y=idxS [] (0:Nat) qBLf->∃(Q:Bool->Prop),Q true/\(qBLb Q l out e)/\(qBLc Q l out y e))/\(((qBLd l)==qBLe)=false->qBLe<=qBLe/\qBLe+(1:Int)<=(qBLd l)/\∀(x:Tok),l[Int.toNat qBLe]? =some x->((Tok.kind x !=(1:Int))=true->List.length qBLf<=(1000000000:Nat)/\∀(y:Int),y=idxS [] (0:Nat) qBLf->∃(Q:Bool->Prop),Q true/\(qBLb Q l out e)/\(qBLc Q l out y e))/\((Tok.kind x !=(1:Int))=false->qBLe<=qBLe/\qBLe+(1:Int)<=(qBLd l)/\∀(x:Tok),l[Int.toNat qBLe]? =some x->List.length qBLf<=(1000000000:Nat)/\∀(y:Int),y=idxS (Tok.text x) (0:Nat) qBLf->∃(Q:Bool->Prop),((decide (y<qBLe)=true->Q true)/\(decide (y<qBLe)=false->Q false))/\(qBLb Q l out e)/\(qBLc Q l out y e)))):=by kernel_rfl
abbrev qBLi (a0:List Tok):=(↑(List.length a0):Int)
abbrev qBLj:=(0:Int)
abbrev qBLg (a0:Bool->Prop) (b0:List Tok) (c0:PR Int) (d0:Int):=(a0 true->(decide ((qBLi b0)>qBLj)=true->qBLj<=qBLj/\qBLj+(1:Int)<=(qBLi b0)/\∀(x:Tok),b0[Int.toNat qBLj]? =some x->c0=Except.error (Tok.at_ x,(160:Int)))/\(decide ((qBLi b0)>qBLj)=false->c0=Except.error (d0,(160:Int))))
abbrev qBLh (a0:Bool->Prop) (b0:List Tok) (c0:PR Int) (d0:Int) (e0:Int):=(a0 false->(qBLj<=(1:Int)/\(1:Int)<=(qBLi b0))/\c0=Except.ok (d0,List.drop (Int.toNat (1:Int)) b0,e0,()))
abbrev qBLk:=(WK.words WK.ki)
theorem Zm7 (l:List Tok) (e:Int) (out:PR Int):Zk E Fsm (vc E Fsm 400) 87 [.ptr 0 0,.str true (WK.src .ki)] (one [.psl Th.toks l false,.int false .i64 e]) 1 (mK dWK Zh6 dN (fun _=>rfl) l e out)=(
 (((qBLi l)==qBLj)=true->List.length qBLk<=(1000000000:Nat)/\∀(y:Int),y=idxS [] (0:Nat) qBLk->∃(Q:Bool->Prop),Q true/\(qBLg Q l out e)/\(qBLh Q l out y e))/\(((qBLi l)==qBLj)=false->qBLj<=qBLj/\qBLj+(1:Int)<=(qBLi l)/\∀(x:Tok),l[Int.toNat qBLj]? =some x->((Tok.kind x !=(1:Int))=true->List.length qBLk<=(1000000000:Nat)/\∀(y:Int),y=idxS [] (0:Nat) qBLk->∃(Q:Bool->Prop),Q true/\(qBLg Q l out e)/\(qBLh Q l out y e))/\((Tok.kind x !=(1:Int))=false->qBLj<=qBLj/\qBLj+(1:Int)<=(qBLi l)/\∀(x:Tok),l[Int.toNat qBLj]? =some x->List.length qBLk<=(1000000000:Nat)/\∀(y:Int),y=idxS (Tok.text x) (0:Nat) qBLk->∃(Q:Bool->Prop),((decide (y<qBLj)=true->Q true)/\(decide (y<qBLj)=false->Q false))/\(qBLg Q l out e)/\(qBLh Q l out y e)))):=by kernel_rfl
abbrev qBLn (a0:List Tok):=(↑(List.length a0):Int)
abbrev qBLo:=(0:Int)
abbrev qBLl (a0:Bool->Prop) (b0:List Tok) (c0:PR Int) (d0:Int):=(a0 true->(decide ((qBLn b0)>qBLo)=true->qBLo<=qBLo/\qBLo+(1:Int)<=(qBLn b0)/\∀(x:Tok),b0[Int.toNat qBLo]? =some x->c0=Except.error (Tok.at_ x,(160:Int)))/\(decide ((qBLn b0)>qBLo)=false->c0=Except.error (d0,(160:Int))))
abbrev qBLm (a0:Bool->Prop) (b0:List Tok) (c0:PR Int) (d0:Int) (e0:Int):=(a0 false->(qBLo<=(1:Int)/\(1:Int)<=(qBLn b0))/\c0=Except.ok (d0,List.drop (Int.toNat (1:Int)) b0,e0,()))
abbrev qBLp:=(WK.words WK.un)
theorem Zm8 (l:List Tok) (e:Int) (out:PR Int):Zk E Fsm (vc E Fsm 400) 87 [.ptr 0 0,.str true (WK.src .un)] (one [.psl Th.toks l false,.int false .i64 e]) 1 (mK dWK Zh6 dN (fun _=>rfl) l e out)=(
 (((qBLn l)==qBLo)=true->List.length qBLp<=(1000000000:Nat)/\∀(y:Int),y=idxS [] (0:Nat) qBLp->∃(Q:Bool->Prop),Q true/\(qBLl Q l out e)/\(qBLm Q l out y e))/\(((qBLn l)==qBLo)=false->qBLo<=qBLo/\qBLo+(1:Int)<=(qBLn l)/\∀(x:Tok),l[Int.toNat qBLo]? =some x->((Tok.kind x !=(1:Int))=true->List.length qBLp<=(1000000000:Nat)/\∀(y:Int),y=idxS [] (0:Nat) qBLp->∃(Q:Bool->Prop),Q true/\(qBLl Q l out e)/\(qBLm Q l out y e))/\((Tok.kind x !=(1:Int))=false->qBLo<=qBLo/\qBLo+(1:Int)<=(qBLn l)/\∀(x:Tok),l[Int.toNat qBLo]? =some x->List.length qBLp<=(1000000000:Nat)/\∀(y:Int),y=idxS (Tok.text x) (0:Nat) qBLp->∃(Q:Bool->Prop),((decide (y<qBLo)=true->Q true)/\(decide (y<qBLo)=false->Q false))/\(qBLl Q l out e)/\(qBLm Q l out y e)))):=by kernel_rfl
theorem Zv5 (l:List Tok) (e:Int) (out:PR (List Nat)):Zk E Fsm (vc E Fsm 400) 86 [.ptr 0 0] (one [.psl Th.toks l false,.int false .i64 e]) 1 (mK .nil n0 dS (fun _=>rfl) l e out)=(
(((↑(List.length l):Int)==(0:Int))=true->(decide ((↑(List.length l):Int)>(0:Int))=true->(0:Int)<=(0:Int)/\(0:Int)+(1:Int)<=(↑(List.length l):Int)/\∀(x:Tok),l[Int.toNat (0:Int)]? =some x->out=Except.error (Tok.at_ x,(160:Int)))/\(decide ((↑(List.length l):Int)>(0:Int))=false->out=Except.error (e,(160:Int))))/\(((↑(List.length l):Int)==(0:Int))=false->(0:Int)<=(0:Int)/\(0:Int)+(1:Int)<=(↑(List.length l):Int)/\∀(x:Tok),l[Int.toNat (0:Int)]? =some x->((Tok.kind x !=(1:Int))=true->(decide ((↑(List.length l):Int)>(0:Int))=true->(0:Int)<=(0:Int)/\(0:Int)+(1:Int)<=(↑(List.length l):Int)/\∀(x:Tok),l[Int.toNat (0:Int)]? =some x->out=Except.error (Tok.at_ x,(160:Int)))/\(decide ((↑(List.length l):Int)>(0:Int))=false->out=Except.error (e,(160:Int))))/\((Tok.kind x !=(1:Int))=false->(0:Int)<=(0:Int)/\(0:Int)+(1:Int)<=(↑(List.length l):Int)/\∀(x:Tok),l[Int.toNat (0:Int)]? =some x->True/\∀(y:Bool),y=decide (Tok.text x∈resW)->(y=true->out=Except.error (Tok.at_ x,(161:Int)))/\(y=false->((0:Int)<=(1:Int)/\(1:Int)<=(↑(List.length l):Int))/\out=Except.ok (Tok.text x,List.drop (Int.toNat (1:Int)) l,e,()))))):=by kernel_rfl
theorem Zgx (l:List Tok) (e:Int) (s:List Nat):Wm (mI (dA1 dS) (n1 fun _=>rfl) dBt (fun _=>rfl)) 89 (l,e,()) (s,()) (pAcc s l e):=by
 refine V1 F0_ok (n:=400) (a:=(s,())) ?_
 rw [show (dA1 dS).enc (s,())= [.str false s] from rfl,Zm4]
 cases l with
 |nil=>simp only [Zw,Yb,tz,tz0,tp,tp0,tl1,tl2,tg,td,i01,true_and,and_true,forall_eq',forall_eq,Bool.true_eq_false,Bool.false_eq_true,reduceCtorEq,true_implies,false_implies,Int.le_refl,imp_self,bne_iff_ne,ne_eq,bne_eq_false_iff_eq,beq_iff_eq,beq_eq_false_iff_ne,V4,V5];rfl
 |cons t l=>
  simp only [Zw,Yb,tz,tz0,tp,tp0,tl1,tl2,tg,td,i01,true_and,and_true,forall_eq',forall_eq,Bool.true_eq_false,Bool.false_eq_true,reduceCtorEq,true_implies,false_implies,Int.le_refl,imp_self,bne_iff_ne,ne_eq,bne_eq_false_iff_eq,beq_iff_eq,beq_eq_false_iff_ne,V4,V5]
  unfold pAcc isW
  refine ⟨fun h=>by simp [h],fun h=>⟨fun h2=> ?_,fun h2=> ?_⟩⟩
  · simp at h2;simp [h2]
  · simp at h2;simp [h,h2]
theorem Zr0 (l:List Tok) (e:Int) (s:List Nat):Wm (mI (dA1 dS) (n1 fun _=>rfl) Zv3 (fun _=>rfl)) 85 (l,e,()) (s,()) (Zeo s l e):=by
 refine V1 F0_ok (n:=400) (a:=(s,())) ?_
 rw [show (dA1 dS).enc (s,())= [.str false s] from rfl,Zm5];delta qBL3 qBL2 qBL1 qBL4
 cases l with
 |nil=>simp only [Zw,Yb,tz,tz0,tp,tp0,tl1,tl2,tg,td,i01,true_and,and_true,forall_eq',forall_eq,Bool.true_eq_false,Bool.false_eq_true,reduceCtorEq,true_implies,false_implies,Int.le_refl,imp_self,bne_iff_ne,ne_eq,bne_eq_false_iff_eq,beq_iff_eq,beq_eq_false_iff_ne,V4,V5];rfl
 |cons t l=>
  simp only [Zw,Yb,tz,tz0,tp,tp0,tl1,tl2,tg,td,i01,true_and,and_true,forall_eq',forall_eq,Bool.true_eq_false,Bool.false_eq_true,reduceCtorEq,true_implies,false_implies,Int.le_refl,imp_self,bne_iff_ne,ne_eq,bne_eq_false_iff_eq,beq_iff_eq,beq_eq_false_iff_ne,V4,V5]
  unfold Zeo isW hdT
  refine ⟨fun h=>by simp [h],fun h=>⟨fun h2=> ?_,fun h2=> ?_⟩⟩
  · simp at h2;simp [h2]
  · simp at h2;simp [h,h2]
theorem Zm9 (l:List Tok) (e:Int):Wm (mI .nil n0 dN (fun _=>rfl)) 167 (l,e,()) () (pInt l e):=by
 refine V1 F0_ok (n:=400) (a:=()) ?_
 rw [show (DcL.nil (E:=E)).enc ()= [] from rfl,Zkf]
 cases l with
 |nil=>simp only [Zw,Yb,tz,tz0,tp,tp0,tl1,tl2,tg,td,i01,true_and,and_true,forall_eq',forall_eq,Bool.true_eq_false,Bool.false_eq_true,reduceCtorEq,true_implies,false_implies,Int.le_refl,imp_self,bne_iff_ne,ne_eq,bne_eq_false_iff_eq,beq_iff_eq,beq_eq_false_iff_ne,V4,V5];rfl
 |cons t l=>
  simp only [Zw,Yb,tz,tz0,tp,tp0,tl1,tl2,tg,td,i01,true_and,and_true,forall_eq',forall_eq,Bool.true_eq_false,Bool.false_eq_true,reduceCtorEq,true_implies,false_implies,Int.le_refl,imp_self,bne_iff_ne,ne_eq,bne_eq_false_iff_eq,beq_iff_eq,beq_eq_false_iff_ne,V4,V5]
  unfold pInt
  exact ⟨fun h=>by simp [h],fun h=>by simp [h]⟩
theorem Z0x (l:List Tok) (e:Int):Wm (mI .nil n0 dS (fun _=>rfl)) 86 (l,e,()) () (Zep l e):=by
 refine V1 Zv4 (n:=400) (a:=()) ?_
 rw [show (DcL.nil (E:=E)).enc ()= [] from rfl,Zv5]
 cases l with
 |nil=>simp only [Zw,Yb,tz,tz0,tp,tp0,tl1,tl2,tg,td,i01,true_and,and_true,forall_eq',forall_eq,Bool.true_eq_false,Bool.false_eq_true,reduceCtorEq,true_implies,false_implies,Int.le_refl,imp_self,bne_iff_ne,ne_eq,bne_eq_false_iff_eq,beq_iff_eq,beq_eq_false_iff_ne,V4,V5];rfl
 |cons t l=>
  simp only [Zw,Yb,tz,tz0,tp,tp0,tl1,tl2,tg,td,i01,true_and,and_true,forall_eq',forall_eq,Bool.true_eq_false,Bool.false_eq_true,reduceCtorEq,true_implies,false_implies,Int.le_refl,imp_self,bne_iff_ne,ne_eq,bne_eq_false_iff_eq,beq_iff_eq,beq_eq_false_iff_ne,V4,V5]
  unfold Zep
  refine ⟨fun h=>by simp [h],fun h=>⟨fun h2=> ?_,fun h2=> ?_⟩⟩
  · simp at h2;simp [h,h2]
  · simp at h2;simp [h,h2]
theorem Zr1 (k:WK) (hk:k= .un\/k= .ca) (l:List Tok) (e:Int):Wm (mI dWK Zh6 dIB (fun _=>rfl)) 130 (l,e,()) k (Yp k.words l e):=by
 refine V1 Zv4 (n:=400) (a:=k) ?_
 rcases hk with rfl|rfl
 · rw [show dWK.enc .un= [.str true (WK.src .un)] from rfl,Zry];delta qBL6 qBL5 qBL7
   cases l with
   |nil=>
    simp only [Zw,Yb,tz,tz0,tp,tp0,tl1,tl2,tg,td,i01,true_and,and_true,forall_eq',forall_eq,Bool.true_eq_false,Bool.false_eq_true,reduceCtorEq,true_implies,false_implies,Int.le_refl,imp_self,bne_iff_ne,ne_eq,bne_eq_false_iff_eq,beq_iff_eq,beq_eq_false_iff_ne]
    try simp only [V4,V5]
    exact ⟨by decide,rfl⟩
   |cons t l=>
    simp only [Zw,Yb,tz,tz0,tp,tp0,tl1,tl2,tg,td,i01,true_and,and_true,forall_eq',forall_eq,Bool.true_eq_false,Bool.false_eq_true,reduceCtorEq,true_implies,false_implies,Int.le_refl,imp_self,bne_iff_ne,ne_eq,bne_eq_false_iff_eq,beq_iff_eq,beq_eq_false_iff_ne]
    try simp only [V4,V5]
    unfold Yp chz
    refine ⟨fun h=>⟨by decide,by simp [h]⟩,fun h=>⟨by decide,fun h2=> ?_,fun h2=> ?_⟩⟩
    · simp [h,h2]
    · simp [h,h2]
 · rw [show dWK.enc .ca= [.str true (WK.src .ca)] from rfl,Zrz];delta qBL9 qBL8 qBLa
   cases l with
   |nil=>
    simp only [Zw,Yb,tz,tz0,tp,tp0,tl1,tl2,tg,td,i01,true_and,and_true,forall_eq',forall_eq,Bool.true_eq_false,Bool.false_eq_true,reduceCtorEq,true_implies,false_implies,Int.le_refl,imp_self,bne_iff_ne,ne_eq,bne_eq_false_iff_eq,beq_iff_eq,beq_eq_false_iff_ne]
    try simp only [V4,V5]
    exact ⟨by decide,rfl⟩
   |cons t l=>
    simp only [Zw,Yb,tz,tz0,tp,tp0,tl1,tl2,tg,td,i01,true_and,and_true,forall_eq',forall_eq,Bool.true_eq_false,Bool.false_eq_true,reduceCtorEq,true_implies,false_implies,Int.le_refl,imp_self,bne_iff_ne,ne_eq,bne_eq_false_iff_eq,beq_iff_eq,beq_eq_false_iff_ne]
    try simp only [V4,V5]
    unfold Yp chz
    refine ⟨fun h=>⟨by decide,by simp [h]⟩,fun h=>⟨by decide,fun h2=> ?_,fun h2=> ?_⟩⟩
    · simp [h,h2]
    · simp [h,h2]
theorem Z0y (k:WK) (hk:k= .at_\/k= .ki\/k= .un) (l:List Tok) (e:Int):Wm (mI dWK Zh6 dN (fun _=>rfl)) 87 (l,e,()) k (X8 k.words l e):=by
 refine V1 Zv4 (n:=400) (a:=k) ?_
 rcases hk with rfl|rfl|rfl
 · rw [show dWK.enc .at_= [.str true (WK.src .at_)] from rfl,Zm6];delta qBLe qBLd qBLb qBLc qBLf
   cases l with
   |nil=>
    simp only [Zw,Yb,tz,tz0,tp,tp0,tl1,tl2,tg,td,i01,true_and,and_true,forall_eq',forall_eq,Bool.true_eq_false,Bool.false_eq_true,reduceCtorEq,true_implies,false_implies,Int.le_refl,imp_self,bne_iff_ne,ne_eq,bne_eq_false_iff_eq,beq_iff_eq,beq_eq_false_iff_ne]
    try simp only [V4,V5]
    exact ⟨by decide,rfl⟩
   |cons t l=>
    simp only [Zw,Yb,tz,tz0,tp,tp0,tl1,tl2,tg,td,i01,true_and,and_true,forall_eq',forall_eq,Bool.true_eq_false,Bool.false_eq_true,reduceCtorEq,true_implies,false_implies,Int.le_refl,imp_self,bne_iff_ne,ne_eq,bne_eq_false_iff_eq,beq_iff_eq,beq_eq_false_iff_ne]
    try simp only [V4,V5]
    unfold X8 chz hdT
    refine ⟨fun h=>⟨by decide,by simp [h]⟩,fun h=>⟨by decide,fun h2=> ?_,fun h2=> ?_⟩⟩
    · simp [h,h2]
    · simp [h,h2]
 · rw [show dWK.enc .ki= [.str true (WK.src .ki)] from rfl,Zm7];delta qBLi qBLj qBLg qBLh qBLk
   cases l with
   |nil=>
    simp only [Zw,Yb,tz,tz0,tp,tp0,tl1,tl2,tg,td,i01,true_and,and_true,forall_eq',forall_eq,Bool.true_eq_false,Bool.false_eq_true,reduceCtorEq,true_implies,false_implies,Int.le_refl,imp_self,bne_iff_ne,ne_eq,bne_eq_false_iff_eq,beq_iff_eq,beq_eq_false_iff_ne]
    try simp only [V4,V5]
    exact ⟨by decide,rfl⟩
   |cons t l=>
    simp only [Zw,Yb,tz,tz0,tp,tp0,tl1,tl2,tg,td,i01,true_and,and_true,forall_eq',forall_eq,Bool.true_eq_false,Bool.false_eq_true,reduceCtorEq,true_implies,false_implies,Int.le_refl,imp_self,bne_iff_ne,ne_eq,bne_eq_false_iff_eq,beq_iff_eq,beq_eq_false_iff_ne]
    try simp only [V4,V5]
    unfold X8 chz hdT
    refine ⟨fun h=>⟨by decide,by simp [h]⟩,fun h=>⟨by decide,fun h2=> ?_,fun h2=> ?_⟩⟩
    · simp [h,h2]
    · simp [h,h2]
 · rw [show dWK.enc .un= [.str true (WK.src .un)] from rfl,Zm8];delta qBLn qBLo qBLl qBLm qBLp
   cases l with
   |nil=>
    simp only [Zw,Yb,tz,tz0,tp,tp0,tl1,tl2,tg,td,i01,true_and,and_true,forall_eq',forall_eq,Bool.true_eq_false,Bool.false_eq_true,reduceCtorEq,true_implies,false_implies,Int.le_refl,imp_self,bne_iff_ne,ne_eq,bne_eq_false_iff_eq,beq_iff_eq,beq_eq_false_iff_ne]
    try simp only [V4,V5]
    exact ⟨by decide,rfl⟩
   |cons t l=>
    simp only [Zw,Yb,tz,tz0,tp,tp0,tl1,tl2,tg,td,i01,true_and,and_true,forall_eq',forall_eq,Bool.true_eq_false,Bool.false_eq_true,reduceCtorEq,true_implies,false_implies,Int.le_refl,imp_self,bne_iff_ne,ne_eq,bne_eq_false_iff_eq,beq_iff_eq,beq_eq_false_iff_ne]
    try simp only [V4,V5]
    unfold X8 chz hdT
    refine ⟨fun h=>⟨by decide,by simp [h]⟩,fun h=>⟨by decide,fun h2=> ?_,fun h2=> ?_⟩⟩
    · simp [h,h2]
    · simp [h,h2]
end
section
open Go
def Z5r:Sum thy:=fun args h _ k=>
 match args with
 | [.ptr b 0,.str _ s]=>
  (match h b with
  |some (.raw cs 0 _)=>(match dPX.dec cs with
   |some x=>(isW s x.1=true->k (Zg9 b (.bool true true) (dPX.enc (x.1.tail,x.2))))/\(isW s x.1=false->k (Zg9 b (.bool true false) (dPX.enc x)))
   |none=>False)
  |_=>False)
 |_=>False
def Sexp:Sum thy:=fun args h _ k=>
 match args with
 | [.ptr b 0,.str _ s]=>
  (match h b with
  |some (.raw cs 0 _)=>(match dPX.dec cs with
   |some x=>(isW s x.1=true->k (Zg9 b (.tup []) (dPX.enc (x.1.tail,x.2))))/\(isW s x.1=false->k (Zx4 b (Z0w (hdT x.2.1 x.1,160))))
   |none=>False)
  |_=>False)
 |_=>False
theorem SaccB_ok:SumOk E 89 Z5r:=by
 refine ⟨Zc rfl,fun args h i k hD hk=> ?_⟩
 unfold Z5r at hk
 split at hk
 case h_2=>exact hk.elim
 rename_i b f s
 split at hk
 case h_2=>exact hk.elim
 rename_i cs tg hb
 split at hk
 case h_2=>exact hk.elim
 rename_i x hx
 obtain ⟨l,e,_⟩:=x
 refine (Xg E_ok (Zc rfl) (M:=mI (dA1 dS) (n1 fun _=>rfl) dBt (fun _=>rfl)) (pre:=fun _ _=>True) (fn:=fun x a=>pAcc a.1 x.1 x.2.1) fun x a _=>Zgx x.1 x.2.1 a.1).ok [.ptr b 0,.str f s] h i k hD ?_
 simp only [sumM,hb]
 rw [show (mI (dA1 dS) (n1 fun _=>rfl) dBt (fun _=>rfl)).dS.dec cs=some (l,e,()) from hx,show (mI (dA1 dS) (n1 fun _=>rfl) dBt (fun _=>rfl)).dA.dec [.str f s]=some (s,()) from rfl]
 refine ⟨trivial,fun y x' he=> ?_,fun e he=>by cases he⟩
 unfold pAcc at he
 injection he with he
 injection he with e1 e2
 subst e1;subst e2
 cases hw:isW s l with
 |true=>exact hk.1 hw
 |false=>exact hk.2 hw
theorem Z5s:SumOk E 85 Sexp:=by
 refine ⟨Zc rfl,fun args h i k hD hk=> ?_⟩
 unfold Sexp at hk
 split at hk
 case h_2=>exact hk.elim
 rename_i b f s
 split at hk
 case h_2=>exact hk.elim
 rename_i cs tg hb
 split at hk
 case h_2=>exact hk.elim
 rename_i x hx
 obtain ⟨l,e,_⟩:=x
 refine (Xg E_ok (Zc rfl) (M:=mI (dA1 dS) (n1 fun _=>rfl) Zv3 (fun _=>rfl)) (pre:=fun _ _=>True) (fn:=fun x a=>Zeo a.1 x.1 x.2.1) fun x a _=>Zr0 x.1 x.2.1 a.1).ok [.ptr b 0,.str f s] h i k hD ?_
 simp only [sumM,hb]
 rw [show (mI (dA1 dS) (n1 fun _=>rfl) Zv3 (fun _=>rfl)).dS.dec cs=some (l,e,()) from hx,show (mI (dA1 dS) (n1 fun _=>rfl) Zv3 (fun _=>rfl)).dA.dec [.str f s]=some (s,()) from rfl]
 refine ⟨trivial,fun y x' he=> ?_,fun e he=> ?_⟩
 · unfold Zeo at he
   split at he
   · rename_i hw
     injection he with he
     injection he with e1 e2
     subst e1;subst e2
     exact hk.1 hw
   · cases he
 · unfold Zeo at he
   split at he
   · cases he
   · rename_i hw
     injection he with he
     subst he
     exact hk.2 (by simpa using hw)
def Yal:List Nat:= [119,104,101,110]
def sAnd:List Nat:= [97,110,100]
theorem Zwn {f:FuncId} {cs rest cs':List (SV thy)} {v v':SV thy} (h:MutC E f cs rest v cs') (hv:∀σ g u,Den E σ g v u->Den E σ g v' u):MutC E f cs rest v' cs':=fun B σ g w vals hh a b c d e=>
 (h B σ g w vals hh a b c d e).mono fun en w' ⟨u,he,σ',g',s,i,dd⟩=>⟨u,he,σ',g',s,i,hv _ _ _ dd⟩
theorem Znn (l:List Tok) (e:Int) (s:List Nat):Wm (mI (dA1 dS) (n1 fun _=>rfl) dB (fun _=>rfl)) 89 (l,e,()) (s,()) (pAcc s l e):=
 Zwn (Zgx l e s) fun σ g u hd=>by cases hd;exact .bool _ _
def Sacc:Sum thy:=fun args h i k=>
 match args with
 | [.ptr b 0,.str f s]=>
  (match eqL s Yal||eqL s sAnd with
  |true=>sumM (mI (dA1 dS) (n1 fun _=>rfl) dB (fun _=>rfl)) (fun _ _=>True) (fun x a=>pAcc a.1 x.1 x.2.1) [.ptr b 0,.str f s] h i k
  |false=>Z5r [.ptr b 0,.str f s] h i k)
 |_=>False
theorem Z5t:SumOk E 89 Sacc:=by
 refine ⟨Zc rfl,fun args h i k hD hk=> ?_⟩
 unfold Sacc at hk
 split at hk
 · split at hk
   · exact (Xg E_ok (Zc rfl) fun x a _=>Znn x.1 x.2.1 a.1).ok _ h i k hD hk
   · exact SaccB_ok.ok _ h i k hD hk
 · exact hk.elim
def Z5u (l:List Tok) (e:Int):PR Int:= .ok (hdT e l,l,e,())
theorem Zwo (l:List Tok) (e:Int) (out:PR Int):Zk E F0 (vc E F0 400) 88 [.ptr 0 0] (one [.psl Th.toks l false,.int false .i64 e]) 1 (mK .nil n0 dN (fun _=>rfl) l e out)=(
(decide ((↑(List.length l):Int)>(0:Int))=true->(0:Int)<=(0:Int)/\(0:Int)+(1:Int)<=(↑(List.length l):Int)/\∀(x:Tok),l[Int.toNat (0:Int)]? =some x->out=Except.ok (Tok.at_ x,l,e,()))/\(decide ((↑(List.length l):Int)>(0:Int))=false->out=Except.ok (e,l,e,()))):=by kernel_rfl
theorem Z1h (l:List Tok) (e:Int):Wm (mI .nil n0 dN (fun _=>rfl)) 88 (l,e,()) () (Z5u l e):=by
 refine V1 F0_ok (n:=400) (a:=()) ?_
 rw [show (DcL.nil (E:=E)).enc ()= [] from rfl,Zwo]
 cases l with
 |nil=>exact ⟨fun h=>absurd h (by decide),fun _=>rfl⟩
 |cons t l=>exact ⟨fun _=>⟨Int.le_refl 0,by rw [List.length_cons];omega,fun x hx=>by rw [tg] at hx;subst hx;rfl⟩,fun h=>by rw [tp] at h;cases h⟩
def Z1i:Sum thy:=fun args h _ k=>
 match args with
 | [.ptr b 0]=>
  (match h b with
  |some (.raw cs 0 _)=>(match dPX.dec cs with
   |some x=>∀y,y=hdT x.2.1 x.1->k (Zg9 b (.int false .i64 y) (dPX.enc x))
   |none=>False)
  |_=>False)
 |_=>False
theorem Zpw:SumOk E 88 Z1i:=by
 refine ⟨Zc rfl,fun args h i k hD hk=> ?_⟩
 unfold Z1i at hk
 split at hk
 case h_2=>exact hk.elim
 rename_i b
 split at hk
 case h_2=>exact hk.elim
 rename_i cs tg hb
 split at hk
 case h_2=>exact hk.elim
 rename_i x hx
 obtain ⟨l,e,_⟩:=x
 refine (Xg E_ok (Zc rfl) (M:=mI .nil n0 dN (fun _=>rfl)) (pre:=fun _ _=>True) (fn:=fun x a=>Z5u x.1 x.2.1) fun x a _=>Z1h x.1 x.2.1).ok [.ptr b 0] h i k hD ?_
 simp only [sumM,hb]
 rw [show (mI .nil n0 dN (fun _=>rfl)).dS.dec cs=some (l,e,()) from hx,show (mI .nil n0 dN (fun _=>rfl)).dA.dec []=some () from rfl]
 refine ⟨trivial,fun y x' he=> ?_,fun e he=>by cases he⟩
 unfold Z5u at he
 injection he with he
 injection he with e1 e2
 subst e1;subst e2
 exact hk _ rfl
def Scho:Sum thy:=sumM (mI dWK Zh6 dIB (fun _=>rfl)) (fun _ k=>k= .un\/k= .ca) fun x k=>Yp k.words x.1 x.2.1
theorem Z5v:SumOk E 130 Scho:=Xg E_ok (Zc rfl) fun x k h=>Zr1 k h x.1 x.2.1
def Z8n:Sum thy:=sumM (mI dWK Zh6 dN (fun _=>rfl)) (fun _ k=>k= .at_\/k= .ki\/k= .un) fun x k=>X8 k.words x.1 x.2.1
theorem Z1j:SumOk E 87 Z8n:=Xg E_ok (Zc rfl) fun x k h=>Z0y k h x.1 x.2.1
def Sint:Sum thy:=sumM (mI .nil n0 dN (fun _=>rfl)) (fun _ _=>True) fun x _=>pInt x.1 x.2.1
theorem Z5w:SumOk E 167 Sint:=Xg E_ok (Zc rfl) fun x _ _=>Zm9 x.1 x.2.1
def Z8o:Sum thy:=sumM (mI .nil n0 dS (fun _=>rfl)) (fun _ _=>True) fun x _=>Zep x.1 x.2.1
theorem Z1k:SumOk E 86 Z8o:=Xg E_ok (Zc rfl) fun x _ _=>Z0x x.1 x.2.1
def Fme:Fns thy:=addS (addS (addS (addS (addS (addS F0 89 Sacc) 85 Sexp) 130 Scho) 87 Z8n) 167 Sint) 86 Z8o
theorem Ze1:FnsOk E Fme:=Zb (Zb (Zb (Zb (Zb (Zb F0_ok Z5t) Z5s) Z5v) Z1j) Z5w) Z1k
theorem Zwp {s:List Nat}:∀{l:List (List Nat)} {k:Nat},idxS s k l<k+l.length
 | [],k=>by unfold idxS;simp;omega
 |x::l,k=>by
  unfold idxS
  split
  · simp;omega
  · have:=Zwp (s:=s) (l:=l) (k:=k+1)
    simp at this⊢;omega
theorem Zpx {ws:List (List Nat)} {l:List Tok} (h:0<ws.length):chz ws l<ws.length:=by
 unfold chz
 split
 · omega
 · split
   · rename_i t r _
     have:=Zwp (s:=t.text) (l:=ws) (k:=0)
     simpa using this
   · omega
theorem Xo {ws:List (List Nat)} {l:List Tok} {e:Int} {y:Int×Bool×Unit} {x':PX} (h:Yp ws l e= .ok (y,x')):(0<=chz ws l/\y=(chz ws l,true,())/\x'=(l.tail,e,()))\/(¬0<=chz ws l/\y=(0,false,())/\x'=(l,e,())):=by
 unfold Yp at h
 split at h
 · injection h with h
   injection h with h1 h2
   exact .inl ⟨by assumption,h1.symm,h2.symm⟩
 · injection h with h
   injection h with h1 h2
   exact .inr ⟨by assumption,h1.symm,h2.symm⟩
theorem Zno {ws:List (List Nat)} {l:List Tok} {e:Int} {er:Int×Int} (h:Yp ws l e= .error er):False:=by
 unfold Yp at h
 split at h<;>cases h
theorem Zbv {ws:List (List Nat)} {l:List Tok} {e:Int} {y:Int} {x':PX} (h:X8 ws l e= .ok (y,x')):0<=chz ws l/\y=chz ws l/\x'=(l.tail,e,()):=by
 unfold X8 at h
 split at h
 · injection h with h
   injection h with h1 h2
   exact ⟨by assumption,h1.symm,h2.symm⟩
 · cases h
def incD (d:List Int) (i:Int):List Int:=d.set i.toNat (d.getD i.toNat 0+1)
def decD (d:List Int) (i:Int):List Int:=d.set i.toNat (d.getD i.toNat 0-1)
def sPer:List Nat:= [112,101,114]
def Zcq (l:List Tok) (e:Int):PR (List Int):=
 match Yp WK.un.words l e with
 | .error er=> .error er
 | .ok (y,x)=>
  if isW sPer x.1 then
   match X8 WK.un.words x.1.tail x.2.1 with
   | .error er=> .error er
   | .ok (j,x1)=> .ok (decD (if y.2.1 then incD [0,0,0,0] y.1 else [0,0,0,0]) j,x1)
  else .ok (if y.2.1 then incD [0,0,0,0] y.1 else [0,0,0,0],x)
def sIs:List Nat:= [105,115]
def sIn:List Nat:= [105,110]
def Z5x:List Nat:= [46,46]
def Za3 (n:Int) (l:List Tok) (e:Int):PR Tst:=
 match X8 WK.at_.words l e with
 | .error er=> .error er
 | .ok (a,x)=>
  if n=8 then .error (hdT e l,2)
  else if isW sIs x.1 then
   match pInt x.1.tail x.2.1 with
   | .error er=> .error er
   | .ok (m,x1)=> .ok (⟨a,m,m⟩,x1)
  else if isW sIn x.1 then
   match pInt x.1.tail x.2.1 with
   | .error er=> .error er
   | .ok (m,x1)=>
    if isW Z5x x1.1 then
     match pInt x1.1.tail x1.2.1 with
     | .error er=> .error er
     | .ok (k,x2)=> .ok (⟨a,m,k⟩,x2)
    else .error (hdT x1.2.1 x1.1,160)
  else .error (hdT x.2.1 x.1,160)
def dDm:Dc E (List Int):=dR .dims
def dTs:Dc E Tst:=dR .tests
abbrev qBM3:=(0:Int)
abbrev qBM1 (a0:Int×Bool×Unit) (b0:Int):=(List.set [qBM3,qBM3,qBM3,qBM3] (Int.toNat (Prod.fst a0)) (wr IntKind.i64 (b0+(1:Int))))
abbrev qBM2 (a0:Int) (b0:Int):=(List.set [qBM3,qBM3,qBM3,qBM3] (Int.toNat a0) (wr IntKind.i64 (b0-(1:Int))))
abbrev qBM4 (a0:Int×Bool×Unit) (b0:Int) (c0:Int) (d0:Int):=(List.set (qBM1 a0 b0) (Int.toNat c0) (wr IntKind.i64 (d0-(1:Int))))
abbrev qBM5:=(4:Nat)
abbrev qBM6 (a0:Int):=(qBM3<=a0/\a0+(1:Int)<=(↑qBM5:Int))
abbrev qBM7:=(WK.words WK.un)
abbrev qBM8:=(WK.un=WK.at_\/WK.un=WK.ki\/WK.un=WK.un)
theorem Zwq (l:List Tok) (e:Int) (out:PR (List Int)):Zk E Fme (vc E Fme 400) 191 [.ptr 0 0] (one [.psl Th.toks l false,.int false .i64 e]) 1 (mK .nil n0 dDm (fun _=>rfl) l e out)=(
 (WK.un=WK.un\/WK.un=WK.ca)/\(∀(y:Int×Bool×Unit) (x':PX),Yp qBM7 l e=Except.ok (y,x')->(Prod.fst (Prod.snd y)=true->(qBM3<=Prod.fst y/\Prod.fst y+(1:Int)<=(↑qBM5:Int))/\Int.toNat (Prod.fst y)+(1:Nat)<=qBM5/\∀(x:Int),[qBM3,qBM3,qBM3,qBM3][Int.toNat (Prod.fst y)]? =some x->(qBM3<=Prod.fst y/\Prod.fst y+(1:Int)<=(↑qBM5:Int))/\(0:Nat)<=Int.toNat (Prod.fst y)/\Int.toNat (Prod.fst y)+(1:Nat)<=qBM5/\∀(x_1:Int),[qBM3,qBM3,qBM3,qBM3][Int.toNat (Prod.fst y)]? =some x_1->(isW [(112:Nat),(101:Nat),(114:Nat)] (Prod.fst x')=true->qBM8/\(∀(y_1:Int) (x'_1:PX),X8 qBM7 (List.tail (Prod.fst x')) (Prod.fst (Prod.snd x'))=Except.ok (y_1,x'_1)->(qBM6 y_1)/\Int.toNat y_1+(1:Nat)<=List.length (qBM1 y x)/\∀(x_2:Int),(qBM1 y x)[Int.toNat y_1]? =some x_2->(qBM6 y_1)/\(0:Nat)<=Int.toNat y_1/\Int.toNat y_1+(1:Nat)<=List.length (qBM1 y x)/\∀(x_3:Int),(qBM1 y x)[Int.toNat y_1]? =some x_3->List.length (qBM4 y x y_1 x_2)=qBM5/\List.length (qBM4 y x y_1 x_2)=qBM5/\qBM5=qBM5/\out=Except.ok ([List.getD (qBM4 y x y_1 x_2) (0:Nat) qBM3,List.getD (qBM4 y x y_1 x_2) (1:Nat) qBM3,List.getD (qBM4 y x y_1 x_2) (2:Nat) qBM3,List.getD (qBM4 y x y_1 x_2) (3:Nat) qBM3],Prod.fst x'_1,Prod.fst (Prod.snd x'_1),()))/\∀(e:Int×Int),X8 qBM7 (List.tail (Prod.fst x')) (Prod.fst (Prod.snd x'))=Except.error e->out=Except.error e)/\(isW [(112:Nat),(101:Nat),(114:Nat)] (Prod.fst x')=false->List.length (qBM1 y x)=qBM5/\List.length (qBM1 y x)=qBM5/\qBM5=qBM5/\out=Except.ok ([List.getD (qBM1 y x) (0:Nat) qBM3,List.getD (qBM1 y x) (1:Nat) qBM3,List.getD (qBM1 y x) (2:Nat) qBM3,List.getD (qBM1 y x) (3:Nat) qBM3],Prod.fst x',Prod.fst (Prod.snd x'),())))/\(Prod.fst (Prod.snd y)=false->(isW [(112:Nat),(101:Nat),(114:Nat)] (Prod.fst x')=true->qBM8/\(∀(y:Int) (x'_1:PX),X8 qBM7 (List.tail (Prod.fst x')) (Prod.fst (Prod.snd x'))=Except.ok (y,x'_1)->(qBM6 y)/\Int.toNat y+(1:Nat)<=qBM5/\∀(x:Int),[qBM3,qBM3,qBM3,qBM3][Int.toNat y]? =some x->(qBM6 y)/\(0:Nat)<=Int.toNat y/\Int.toNat y+(1:Nat)<=qBM5/\∀(x_1:Int),[qBM3,qBM3,qBM3,qBM3][Int.toNat y]? =some x_1->List.length (qBM2 y x)=qBM5/\List.length (qBM2 y x)=qBM5/\qBM5=qBM5/\out=Except.ok ([List.getD (qBM2 y x) (0:Nat) qBM3,List.getD (qBM2 y x) (1:Nat) qBM3,List.getD (qBM2 y x) (2:Nat) qBM3,List.getD (qBM2 y x) (3:Nat) qBM3],Prod.fst x'_1,Prod.fst (Prod.snd x'_1),()))/\∀(e:Int×Int),X8 qBM7 (List.tail (Prod.fst x')) (Prod.fst (Prod.snd x'))=Except.error e->out=Except.error e)/\(isW [(112:Nat),(101:Nat),(114:Nat)] (Prod.fst x')=false->qBM5=qBM5/\qBM5=qBM5/\qBM5=qBM5/\out=Except.ok ([qBM3,qBM3,qBM3,qBM3],Prod.fst x',Prod.fst (Prod.snd x'),()))))/\∀(e_1:Int×Int),Yp qBM7 l e=Except.error e_1->out=Except.error e_1):=by kernel_rfl
abbrev qBMa (a0:PX):=(Prod.fst (Prod.snd a0))
abbrev qBMb (a0:PX):=(List.tail (Prod.fst a0))
abbrev qBM9 (a0:Int) (b0:PX) (c0:PR Tst) (d0:Int):=((a0==(8:Int))=false->(isW [(105:Nat),(115:Nat)] (Prod.fst b0)=true->True/\(∀(y_1:Int) (x'_1:PX),pInt (qBMb b0) (qBMa b0)=Except.ok (y_1,x'_1)->c0=Except.ok (Tst.mk d0 y_1 y_1,Prod.fst x'_1,Prod.fst (Prod.snd x'_1),()))/\∀(e:Int×Int),pInt (qBMb b0) (qBMa b0)=Except.error e->c0=Except.error e)/\(isW [(105:Nat),(115:Nat)] (Prod.fst b0)=false->(isW [(105:Nat),(110:Nat)] (Prod.fst b0)=true->True/\(∀(y_1:Int) (x'_1:PX),pInt (qBMb b0) (qBMa b0)=Except.ok (y_1,x'_1)->(isW [(46:Nat),(46:Nat)] (Prod.fst x'_1)=true->True/\(∀(y_2:Int) (b0:PX),pInt (qBMb x'_1) (qBMa x'_1)=Except.ok (y_2,b0)->c0=Except.ok (Tst.mk d0 y_1 y_2,Prod.fst b0,Prod.fst (Prod.snd b0),()))/\∀(e:Int×Int),pInt (qBMb x'_1) (qBMa x'_1)=Except.error e->c0=Except.error e)/\(isW [(46:Nat),(46:Nat)] (Prod.fst x'_1)=false->c0=Except.error (hdT (qBMa x'_1) (Prod.fst x'_1),(160:Int))))/\∀(e:Int×Int),pInt (qBMb b0) (qBMa b0)=Except.error e->c0=Except.error e)/\(isW [(105:Nat),(110:Nat)] (Prod.fst b0)=false->c0=Except.error (hdT (qBMa b0) (Prod.fst b0),(160:Int)))))
abbrev qBMc:=(WK.at_=WK.at_\/WK.at_=WK.ki\/WK.at_=WK.un)
theorem Zwr (l:List Tok) (e n:Int) (out:PR Tst):Zk E Fme (vc E Fme 400) 133 [.ptr 0 0,.int false .i64 n] (one [.psl Th.toks l false,.int false .i64 e]) 1 (mK (dA1 dN) (n1 fun _=>rfl) dTs (fun _=>rfl) l e out)=(
 (decide ((↑(List.length l):Int)>(0:Int))=true->(0:Int)<=(0:Int)/\(0:Int)+(1:Int)<=(↑(List.length l):Int)/\∀(x:Tok),l[Int.toNat (0:Int)]? =some x->qBMc/\(∀(y:Int) (x':PX),X8 (WK.words WK.at_) l e=Except.ok (y,x')->((n==(8:Int))=true->out=Except.error (Tok.at_ x,(2:Int)))/\(qBM9 n x' out y))/\∀(e_1:Int×Int),X8 (WK.words WK.at_) l e=Except.error e_1->out=Except.error e_1)/\(decide ((↑(List.length l):Int)>(0:Int))=false->qBMc/\(∀(y:Int) (x':PX),X8 (WK.words WK.at_) l e=Except.ok (y,x')->((n==(8:Int))=true->out=Except.error (e,(2:Int)))/\(qBM9 n x' out y))/\∀(e_1:Int×Int),X8 (WK.words WK.at_) l e=Except.error e_1->out=Except.error e_1)):=by kernel_rfl
theorem four {i:Int} (h0:0<=i) (h4:i < 4):i = 0\/i = 1\/i = 2\/i = 3:=by omega
theorem Z1l (l : List Tok) (e : Int) : Wm (mI .nil n0 dDm (fun _ => rfl)) 191 (l, e, ()) () (Zcq l e) := by
 refine V1 Ze1 (n := 400) (a := ()) ?_
 rw [show (DcL.nil (E := E)).enc () = [] from rfl, Zwq]; delta qBM3 qBM1 qBM2 qBM4 qBM5 qBM6 qBM7 qBM8
 have w1 : wr .i64 1 = 1 := by decide
 have w2 : wr .i64 (-1) = -1 := by decide
 have w3 : wr .i64 0 = 0 := by decide
 refine ⟨.inl rfl, fun y x' h => ⟨fun hb => ?_, fun hb => ?_⟩, fun er h => (Zno h).elim⟩
 · obtain ⟨i, b, _⟩ := y
   have hb : b = true := hb
   subst hb
   rcases Xo h with ⟨q1, q2, rfl⟩ | ⟨_, q2, _⟩
   case inr => cases q2
   cases q2
   have q3 : chz WK.un.words l < 4 := Zpx (by decide)
   generalize hq : chz WK.un.words l = q at *
   rcases four q1 q3 with rfl | rfl | rfl | rfl
   all_goals
    simp [w1]
    refine ⟨fun h1 => ⟨fun j x1 z1 z2 h2 => ?_, fun e1 e2 h2 => ?_⟩, fun h1 => ?_⟩
    · obtain ⟨r1, r2, _⟩ := Zbv h2
      have r3 : chz WK.un.words l.tail.tail < 4 := Zpx (by decide)
      rw [← r2] at r1 r3; clear r2
      rcases four r1 r3 with rfl | rfl | rfl | rfl
      all_goals simp [Zcq, sPer, incD, decD, w1, w2, w3, *]
    · simp [Zcq, sPer, incD, decD, *]
    · simp [Zcq, sPer, incD, decD, *]
 · obtain ⟨i, b, _⟩ := y
   have hb : b = false := hb
   subst hb
   rcases Xo h with ⟨_, q2, _⟩ | ⟨q1, q2, rfl⟩
   case inl => cases q2
   cases q2
   refine ⟨fun h1 => ⟨.inr (.inr rfl), fun j x1 h2 => ?_, fun er h2 => ?_⟩, fun h1 => ?_⟩
   · obtain ⟨r1, r2, _⟩ := Zbv h2
     have r3 : chz WK.un.words l.tail < 4 := Zpx (by decide)
     rw [← r2] at r1 r3; clear r2
     rcases four r1 r3 with rfl | rfl | rfl | rfl
     all_goals simp [Zcq, sPer, incD, decD, w1, w2, w3, *]
   · simp [Zcq, sPer, incD, decD, *]
   · simp [Zcq, sPer, incD, decD, *]
theorem Z1m (l : List Tok) (e n : Int) : Wm (mI (dA1 dN) (n1 fun _ => rfl) dTs (fun _ => rfl)) 133 (l, e, ()) (n, ()) (Za3 n l e) := by
 refine V1 Ze1 (n := 400) (a := (n, ())) ?_
 rw [show (dA1 dN).enc (n, ()) = [.int false .i64 n] from rfl, Zwr]; delta qBMa qBMb qBM9 qBMc
 cases l with
 | nil =>
  simp only [Zw, Yb, tz, tz0, tp, tp0, tl1, tl2, tg, td, i01, true_and, and_true, forall_eq', forall_eq, Bool.true_eq_false, Bool.false_eq_true, reduceCtorEq, true_implies, false_implies, Int.le_refl, imp_self, bne_iff_ne, ne_eq, bne_eq_false_iff_eq, beq_iff_eq, beq_eq_false_iff_ne]
  repeat' (first | apply And.intro | intro _)
  all_goals first | exact .inl rfl | exact trivial | simp [Za3, hdT, sIs, sIn, Z5x, *]
 | cons t l =>
  simp only [Zw, Yb, tz, tz0, tp, tp0, tl1, tl2, tg, td, i01, true_and, and_true, forall_eq', forall_eq, Bool.true_eq_false, Bool.false_eq_true, reduceCtorEq, true_implies, false_implies, Int.le_refl, imp_self, bne_iff_ne, ne_eq, bne_eq_false_iff_eq, beq_iff_eq, beq_eq_false_iff_ne]
  repeat' (first | apply And.intro | intro _)
  all_goals first | exact .inl rfl | exact trivial | simp [Za3, hdT, sIs, sIn, Z5x, *]
end
section
open Go
def dEx:Dc E Ex:=(dR .exprs:Dc E (thy.dom Th.exprs))
abbrev PE:=List Tok->Int->PR Ex
def Z0j:List Nat:= [40]
def Zj6:List Nat:= [41]
def sIf:List Nat:= [105,102]
def Zj7:List Nat:= [44]
def Z5f:List Nat:= [60]
def pOpL (pe:PE):List (List Nat)->List Ex->List Tok->Int->PR (List Ex)
 | [],acc,l,e=> .ok (acc,l,e,())
 |s::r,acc,l,e=>
  match pe l e with
  | .error er=> .error er
  | .ok (x,y)=>if isW s y.1 then pOpL pe r (acc++ [x]) y.1.tail y.2.1 else .error (hdT y.2.1 y.1,160)
def pOps (pe:PE) (op:Int) (ss:List (List Nat)) (l:List Tok) (e:Int):PR Ex:=
 if isW Z0j l then
  match pOpL pe ss [] l.tail e with
  | .error er=> .error er
  | .ok (xs,y)=> .ok (.mk op 0 0 0 0 0 xs,y)
 else .error (hdT e l,160)
def Zj8 (pe:PE) (l:List Tok) (e:Int):PR Ex:=
 if isW Z0j l then
  match pe l.tail e with
  | .error er=> .error er
  | .ok (x,y)=>if isW Zj6 y.1 then .ok (x,y.1.tail,y.2.1,()) else .error (hdT y.2.1 y.1,160)
 else if isW sIf l then pOps pe 11 [Z5f,Zj7,Zj7,Zj6] l.tail e
 else match Yp WK.ca.words l e with
  | .error er=> .error er
  | .ok (k,y)=>
   if k.2.1 then pOps pe (6+k.1) [Zj7,Zj6] y.1 y.2.1
   else match X8 WK.at_.words y.1 y.2.1 with
    | .error er=> .error er
    | .ok (a,z)=> .ok (.mk 2 a 0 0 0 0 [],z)
def pFac (pe:PE) (l:List Tok) (e:Int):PR Ex:=
 match l with
 | []=>Zj8 pe [] e
 |t::r=>
  if t.kind=2 then
   match Zcq r e with
   | .error er=> .error er
   | .ok (d,y)=> .ok (.mk 1 t.n (d.getD 0 0) (d.getD 1 0) (d.getD 2 0) (d.getD 3 0) [],y)
  else Zj8 pe (t::r) e
def Shr (pe:PE):Prop:=∀l e y x',pe l e= .ok (y,x')->x'.1.length<l.length
theorem Zz {s:List Nat} {l:List Tok} (h:isW s l=true):l.tail.length+1=l.length:=by
 cases l with
 |nil=>cases h
 |cons t l=>rfl
theorem Z72 {s:List Nat} {l:List Tok} {P:Prop} (h:isW s l=true->l.tail.length+1=l.length->P):isW s l=true->P:=fun q=>h q (Zz q)
theorem Z35 {pe:PE} (H:Shr pe) {l:List Tok} {e:Int} {P:Ex->PX->Prop} (h:∀y x',pe l e= .ok (y,x')->x'.1.length<l.length->P y x'):∀y x',pe l e= .ok (y,x')->P y x':=fun y x' q=>h y x' q (H _ _ _ _ q)
theorem Zaz {ws:List (List Nat)} {l:List Tok} (h:0<=chz ws l):l.tail.length+1=l.length:=by
 cases l with
 |nil=>cases h
 |cons t l=>rfl
theorem Z36 {l:List Tok} {e:Int} {A B:Int×Bool×Unit->PX->Prop} (hA:∀y x',Yp WK.ca.words l e= .ok (y,x')->y.2.1=true->x'.1.length<l.length->wr .i64 (6+y.1)=6+y.1->A y x') (hB:∀y x',Yp WK.ca.words l e= .ok (y,x')->y.2.1=false->B y x'):
 ∀y x',Yp WK.ca.words l e= .ok (y,x')->(y.2.1=true->A y x')/\(y.2.1=false->B y x'):=by
 intro y x' q
 refine ⟨fun hy=>hA y x' q hy ?_ ?_,fun hy=>hB y x' q hy⟩
 · rcases Xo q with ⟨h1,rfl,rfl⟩|⟨_,rfl,_⟩
   · have:=Zaz h1
     show l.tail.length<l.length
     omega
   · cases hy
 · rcases Xo q with ⟨h1,rfl,rfl⟩|⟨_,rfl,_⟩
   · have:=Zpx (ws:=WK.ca.words) (l:=l) (by decide)
     have h5:(WK.ca.words).length=5:=rfl
     rw [h5] at this
     exact wr64 (by show _<=6+chz _ _;omega) (by show 6+chz _ _<=_;omega)
   · rfl
theorem Z0k {pe:PE} {l:List Tok} {e:Int} (h:((l.length:Int)==0)=true):pFac pe l e=Zj8 pe l e:=by
 cases l with
 |nil=>rfl
 |cons t l=>rw [tz] at h;cases h
theorem Z0l {pe:PE} {l:List Tok} {e:Int} {x:Tok} (hx:l[Int.toNat 0]? =some x) (h:(x.kind !=2)=true):pFac pe l e=Zj8 pe l e:=by
 cases l with
 |nil=>cases hx
 |cons t l=>
  rw [tg] at hx
  subst hx
  simp at h
  simp [pFac,h]
theorem Z0m {l:List Tok} {e:Int} {x:Tok} (hx:l[Int.toNat 0]? =some x) (h:(x.kind !=2)=false):∃r,l=x::r/\x.kind=2/\pInt l e= .ok (x.n,r,e,()):=by
 cases l with
 |nil=>cases hx
 |cons t l=>
  rw [tg] at hx
  subst hx
  simp at h
  exact ⟨l,rfl,h,by simp [pInt,h]⟩
theorem Zh4 {l:List Tok} (h:((l.length:Int)==0)=false):(0:Int)<=0/\(0:Int)+1<=l.length:=by
 have:(l.length:Int)≠0:=by simpa using h
 omega
def Z73:Sum thy:=sumM (mI .nil n0 dDm (fun _=>rfl)) (fun _ _=>True) fun x _=>Zcq x.1 x.2.1
theorem Z0n:SumOk E 191 Z73:=Xg E_ok (Zc rfl) fun x _ _=>Z1l x.1 x.2.1
def Z99 (n:Nat) (pe:PE):Sum thy:=sumM (mI .nil n0 dEx (fun _=>rfl)) (fun x _=>x.1.length<n) fun x _=>pe x.1 x.2.1
def Ffa (n:Nat) (pe:PE):Fns thy:=addS (addS Fme 191 Z73) 134 (Z99 n pe)
abbrev qBN5:=(1:Nat)
abbrev qBN2 (a0:Ex) (b0:Ex):=(List.take qBN5 [Ex.mk (Ex.op a0) (Ex.n a0) (Ex.d0 a0) (Ex.d1 a0) (Ex.d2 a0) (Ex.d3 a0) (Ex.l a0)]++ [Ex.mk (Ex.op b0) (Ex.n b0) (Ex.d0 b0) (Ex.d1 b0) (Ex.d2 b0) (Ex.d3 b0) (Ex.l b0)])
abbrev qBN8 (a0:Ex) (b0:Ex) (c0:Ex):=(List.take (qBN5+qBN5) (qBN2 a0 b0)++ [Ex.mk (Ex.op c0) (Ex.n c0) (Ex.d0 c0) (Ex.d1 c0) (Ex.d2 c0) (Ex.d3 c0) (Ex.l c0)])
abbrev qBNe (a0:Ex) (b0:Ex) (c0:Ex) (d0:Ex):=(List.take (qBN5+qBN5+qBN5) (qBN8 a0 b0 c0)++ [Ex.mk (Ex.op d0) (Ex.n d0) (Ex.d0 d0) (Ex.d1 d0) (Ex.d2 d0) (Ex.d3 d0) (Ex.l d0)])
abbrev qBNd (a0:PX):=(Prod.fst a0)
abbrev qBN6 (a0:PX):=(List.tail (qBNd a0))
abbrev qBNf:=(qBN5+qBN5+qBN5+qBN5)
abbrev qBN7 (a0:PX):=(Prod.fst (Prod.snd a0))
abbrev qBN4 (a0:PX):=(hdT (qBN7 a0) (qBNd a0),(160:Int))
abbrev qBNa (a0:PX) (b0:PR Ex):=(isW [(44:Nat)] (qBNd a0)=false->b0=Except.error (qBN4 a0))
abbrev qBN9:=(0:Int)
abbrev qBNb (a0:PX) (b0:PR Ex):=(isW [(41:Nat)] (qBNd a0)=false->b0=Except.error (qBN4 a0))
abbrev qBNc:=(qBN5<=qBN5/\(0:Nat)<=qBN5/\(qBN5+qBN5)*(72:Nat)<=(140737488355328:Nat))
abbrev qBN1 (a0:List Tok) (b0:Nat) (c0:PE) (d0:Int) (e0:PR Ex):=(isW [(40:Nat)] a0=false->(isW [(105:Nat),(102:Nat)] a0=true->(isW [(40:Nat)] (List.tail a0)=true->List.length (List.tail (List.tail a0))+qBN5<=b0/\(∀(y:Ex) (x':PX),c0 (List.tail (List.tail a0)) d0=Except.ok (y,x')->(isW [(60:Nat)] (qBNd x')=true->List.length (qBN6 x')+qBN5<=b0/\(∀(y_1:Ex) (x'_1:PX),c0 (qBN6 x') (qBN7 x')=Except.ok (y_1,x'_1)->qBNc/\(isW [(44:Nat)] (qBNd x'_1)=true->List.length (qBN6 x'_1)+qBN5<=b0/\(∀(y_2:Ex) (x':PX),c0 (qBN6 x'_1) (qBN7 x'_1)=Except.ok (y_2,x')->(qBN5+qBN5<=List.length (qBN2 y y_1)/\(0:Nat)<=qBN5+qBN5/\(qBN5+qBN5+qBN5)*(72:Nat)<=(140737488355328:Nat))/\(isW [(44:Nat)] (qBNd x')=true->List.length (qBN6 x')+qBN5<=b0/\(∀(y_3:Ex) (x'_2:PX),c0 (qBN6 x') (qBN7 x')=Except.ok (y_3,x'_2)->(qBN5+qBN5+qBN5<=List.length (qBN8 y y_1 y_2)/\(0:Nat)<=qBN5+qBN5+qBN5/\qBNf*(72:Nat)<=(140737488355328:Nat))/\(isW [(41:Nat)] (qBNd x'_2)=true->(0:Nat)+qBNf<=List.length (qBNe y y_1 y_2 y_3)/\e0=Except.ok (Ex.mk (11:Int) qBN9 qBN9 qBN9 qBN9 qBN9 (List.take qBNf (List.drop (0:Nat) (qBNe y y_1 y_2 y_3))),List.tail (qBNd x'_2),Prod.fst (Prod.snd x'_2),()))/\(qBNb x'_2 e0))/\∀(d0:Int×Int),c0 (qBN6 x') (qBN7 x')=Except.error d0->e0=Except.error d0)/\(qBNa x' e0))/\∀(d0:Int×Int),c0 (qBN6 x'_1) (qBN7 x'_1)=Except.error d0->e0=Except.error d0)/\(qBNa x'_1 e0))/\∀(d0:Int×Int),c0 (qBN6 x') (qBN7 x')=Except.error d0->e0=Except.error d0)/\(isW [(60:Nat)] (qBNd x')=false->e0=Except.error (qBN4 x')))/\∀(e_1:Int×Int),c0 (List.tail (List.tail a0)) d0=Except.error e_1->e0=Except.error e_1)/\(isW [(40:Nat)] (List.tail a0)=false->e0=Except.error (hdT d0 (List.tail a0),(160:Int))))/\(isW [(105:Nat),(102:Nat)] a0=false->(WK.ca=WK.un\/WK.ca=WK.ca)/\(∀(y:Int×Bool×Unit) (x':PX),Yp (WK.words WK.ca) a0 d0=Except.ok (y,x')->(Prod.fst (Prod.snd y)=true->(isW [(40:Nat)] (qBNd x')=true->List.length (qBN6 x')+qBN5<=b0/\(∀(y_1:Ex) (x'_1:PX),c0 (qBN6 x') (qBN7 x')=Except.ok (y_1,x'_1)->(isW [(44:Nat)] (qBNd x'_1)=true->List.length (qBN6 x'_1)+qBN5<=b0/\(∀(y_2:Ex) (x':PX),c0 (qBN6 x'_1) (qBN7 x'_1)=Except.ok (y_2,x')->qBNc/\(isW [(41:Nat)] (qBNd x')=true->(0:Nat)+(qBN5+qBN5)<=List.length (qBN2 y_1 y_2)/\e0=Except.ok (Ex.mk (wr IntKind.i64 ((6:Int)+Prod.fst y)) qBN9 qBN9 qBN9 qBN9 qBN9 (List.take (qBN5+qBN5) (List.drop (0:Nat) (qBN2 y_1 y_2))),List.tail (qBNd x'),Prod.fst (Prod.snd x'),()))/\(qBNb x' e0))/\∀(d0:Int×Int),c0 (qBN6 x'_1) (qBN7 x'_1)=Except.error d0->e0=Except.error d0)/\(qBNa x'_1 e0))/\∀(d0:Int×Int),c0 (qBN6 x') (qBN7 x')=Except.error d0->e0=Except.error d0)/\(isW [(40:Nat)] (qBNd x')=false->e0=Except.error (qBN4 x')))/\(Prod.fst (Prod.snd y)=false->(WK.at_=WK.at_\/WK.at_=WK.ki\/WK.at_=WK.un)/\(∀(y:Int) (x'_1:PX),X8 (WK.words WK.at_) (qBNd x') (qBN7 x')=Except.ok (y,x'_1)->e0=Except.ok (Ex.mk (2:Int) y qBN9 qBN9 qBN9 qBN9 [],Prod.fst x'_1,Prod.fst (Prod.snd x'_1),()))/\∀(d0:Int×Int),X8 (WK.words WK.at_) (qBNd x') (qBN7 x')=Except.error d0->e0=Except.error d0))/\∀(e_1:Int×Int),Yp (WK.words WK.ca) a0 d0=Except.error e_1->e0=Except.error e_1))
abbrev qBN3 (a0:List Tok) (b0:Nat) (c0:PE) (d0:Int) (e0:PR Ex):=(isW [(40:Nat)] a0=true->List.length (List.tail a0)+qBN5<=b0/\(∀(y:Ex) (x':PX),c0 (List.tail a0) d0=Except.ok (y,x')->(isW [(41:Nat)] (qBNd x')=true->e0=Except.ok (Ex.mk (Ex.op y) (Ex.n y) (Ex.d0 y) (Ex.d1 y) (Ex.d2 y) (Ex.d3 y) (Ex.l y),List.tail (qBNd x'),Prod.fst (Prod.snd x'),()))/\(qBNb x' e0))/\∀(e_1:Int×Int),c0 (List.tail a0) d0=Except.error e_1->e0=Except.error e_1)
theorem Zm1 (n:Nat) (pe:PE) (l:List Tok) (e:Int) (out:PR Ex):Zk E (Ffa n pe) (vc E (Ffa n pe) 400) 170 [.ptr 0 0] (one [.psl Th.toks l false,.int false .i64 e]) 1 (mK .nil n0 dEx (fun _=>rfl) l e out)=(
 (((↑(List.length l):Int)==qBN9)=true->(qBN3 l n pe e out)/\(qBN1 l n pe e out))/\(((↑(List.length l):Int)==qBN9)=false->qBN9<=qBN9/\qBN9+(1:Int)<=(↑(List.length l):Int)/\∀(x:Tok),l[Int.toNat qBN9]? =some x->((Tok.kind x !=(2:Int))=true->(qBN3 l n pe e out)/\(qBN1 l n pe e out))/\((Tok.kind x !=(2:Int))=false->qBN9<=qBN9/\qBN9+(1:Int)<=(↑(List.length l):Int)/\∀(x:Tok),l[Int.toNat qBN9]? =some x->True/\(∀(y:Int) (x':PX),pInt l e=Except.ok (y,x')->True/\(∀(y_1:List Int) (x'_1:PX),Zcq (qBNd x') (qBN7 x')=Except.ok (y_1,x'_1)->out=Except.ok (Ex.mk (1:Int) y (List.getD y_1 (0:Nat) qBN9) (List.getD y_1 qBN5 qBN9) (List.getD y_1 (2:Nat) qBN9) (List.getD y_1 (3:Nat) qBN9) [],Prod.fst x'_1,Prod.fst (Prod.snd x'_1),()))/\∀(e:Int×Int),Zcq (qBNd x') (qBN7 x')=Except.error e->out=Except.error e)/\∀(e_1:Int×Int),pInt l e=Except.error e_1->out=Except.error e_1))):=by kernel_rfl
theorem Z74 {n:Nat} {pe:PE} (hpe:∀l e,l.length<n->Wm (mI .nil n0 dEx (fun _=>rfl)) 134 (l,e,()) () (pe l e)):FnsOk E (Ffa n pe):=Zb (Zb Ze1 Z0n) (Xg E_ok (Zc rfl) fun x _ h=>hpe x.1 x.2.1 h)
theorem Zrv {n : Nat} {pe : PE} (hpe : ∀ l e, l.length < n → Wm (mI .nil n0 dEx (fun _ => rfl)) 134 (l, e, ()) () (pe l e)) (H : Shr pe) (l : List Tok) (e : Int) (hl : l.length < n + 1) :
 Wm (mI .nil n0 dEx (fun _ => rfl)) 170 (l, e, ()) () (pFac pe l e) := by
 refine V1 (Z74 hpe) (n := 400) (a := ()) ?_
 rw [show (DcL.nil (E := E)).enc () = [] from rfl, Zm1]; delta qBN5 qBN2 qBN8 qBNe qBNd qBN6 qBNf qBN7 qBN4 qBNa qBN9 qBNb qBNc qBN1 qBN3
 refine ⟨fun h0 => ?_, fun h0 => ⟨(Zh4 h0).1, (Zh4 h0).2, fun x hx => ⟨fun h2 => ?_, fun h2 => ?_⟩⟩⟩
 · rw [Z0k h0]; clear h0
   repeat' (first | refine Z72 fun _ _ => ?_ | refine Z35 H fun _ _ _ _ => ?_ | refine Z36 (fun _ _ _ _ _ _ => ?_) (fun _ _ _ _ => ?_) | apply And.intro | intro _)
   all_goals first | exact .inr rfl | exact .inl rfl | exact trivial | omega | simp [Zj8, pOps, pOpL, Z0j, Zj6, sIf, Zj7, Z5f, Ex.eta, *]
 · rw [Z0l hx h2]; clear h0 hx h2
   repeat' (first | refine Z72 fun _ _ => ?_ | refine Z35 H fun _ _ _ _ => ?_ | refine Z36 (fun _ _ _ _ _ _ => ?_) (fun _ _ _ _ => ?_) | apply And.intro | intro _)
   all_goals first | exact .inr rfl | exact .inl rfl | exact trivial | omega | simp [Zj8, pOps, pOpL, Z0j, Zj6, sIf, Zj7, Z5f, Ex.eta, *]
 · obtain ⟨r, rfl, hk, hi⟩ := Z0m (e := e) hx h2
   refine ⟨(Zh4 h0).1, (Zh4 h0).2, fun _ _ => ⟨trivial, fun y x' h3 => ?_, fun er h3 => by rw [hi] at h3; cases h3⟩⟩
   rw [hi] at h3
   injection h3 with h3
   injection h3 with h3 h4
   subst h3; subst h4
   refine ⟨trivial, fun d x2 h5 => ?_, fun er h5 => ?_⟩
   · simp [pFac, hk, h5]
   · simp [pFac, hk, h5]
end
section
open Go.RowKit
section
variable {Y:Thy} {E:Eng Y}
def two (cs:List (SV Y)):Hp Y:=fun b=>match Nat.beq b 0 with|true=>some (.raw cs 0 none)|false=>(match Nat.beq b 1 with|true=>some (.raw [.ptr 0 0] 0 none)|false=>none)
theorem Z2q (cs:List (SV Y)):two cs 0=some (.raw cs 0 none):=rfl
theorem Z9b (cs:List (SV Y)):two cs 1=some (.raw [.ptr 0 0] 0 none):=rfl
theorem Ziu {cs:List (SV Y)} {b:Nat} {x:Blk Y} (h:two cs b=some x):(b=0/\x= .raw cs 0 none)\/(b=1/\x= .raw [.ptr 0 0] 0 none):=by
 match b,h with
 |0,h=>cases h;exact .inl ⟨rfl,rfl⟩
 |1,h=>cases h;exact .inr ⟨rfl,rfl⟩
 |b+2,h=>cases h
theorem Z60 (cs:List (SV Y)):DomLt (two cs) 2:=fun b hb=>by
 obtain ⟨x,hx⟩:=Option.ne_none_iff_exists'.1 hb
 rcases Ziu hx with ⟨rfl,_⟩|⟨rfl,_⟩<;>omega
def σ2 (p q:Nat×Nat):Pl:=fun b=>match Nat.beq b 0 with|true=>some p|false=>(match Nat.beq b 1 with|true=>some q|false=>none)
theorem σ2_some {p q x:Nat×Nat} {b:Nat} (h:σ2 p q b=some x):(b=0/\x=p)\/(b=1/\x=q):=by
 match b,h with
 |0,h=>cases h;exact .inl ⟨rfl,rfl⟩
 |1,h=>cases h;exact .inr ⟨rfl,rfl⟩
 |b+2,h=>cases h
theorem Zn7 (cs cs':List (SV Y)) (v:SV Y):patch (two cs) 2 (mutR v cs')=two cs':=by
 funext b
 rw [Zh]
 match b with
 |0=>simp [mutR,at1,two]
 |1=>rw [if_neg (by simp [mutR])];rfl
 |b+2=>rw [if_neg (by simp [mutR])];rfl
def Z9c (E:Eng Y) (f:FuncId) (cs rest:List (SV Y)) (v:SV Y) (cs':List (SV Y)):Prop:=Uw E f (.ptr 1 0::rest) (two cs) 2 (mutR v cs')
def Z9d (E:Eng Y) (f:FuncId) (cs rest:List (SV Y)) (p:Value):Prop:=Zom E f (.ptr 1 0::rest) (two cs) 2 (panR p)
theorem Zn8 (hE:EngOk E) {B:Nat} {σ:Pl} {h:Hp Y} {g:GH} {w:World} {b r z c r1 z1:Nat} {cs cs0:List (SV Y)} {fc:Nat} {tg tc:Option Y.Th} (hI:Inv E B σ h g w) (hb:h b=some (.raw cs 0 tg)) (hc:h c=some (.raw [.ptr b 0] fc tc)) (hσ:σ b=some (r,z)) (hσc:σ c=some (r1,z1)) (hbc:b≠c) (hfc:fc=0) (hlen:cs.length=cs0.length) (hn:nidL 0 cs0=true)
 (hden:∀σ g (j:Nat) sv',cs0[j]? =some sv'->∃sv,cs[j]? =some sv/\∀u,Den E σ g sv u->Den E σ g sv' u):Inv E B (σ2 (r,z) (r1,z1)) (two cs0) g w:=by
 have hne:r≠r1:=by
  rintro rfl
  exact hbc (hI.inj b c _ _ _ (by rw [hb];simp) (by rw [hc];simp) hσ hσc)
 refine ⟨hI.gc,hI.gm,fun x y hx=> ?_,fun x x' q z2 z3 h1 h2 h3 h4=> ?_,fun x q z' hs=> ?_,fun x y q z' o v hx hs hv=> ?_,fun x y q z' hx hs=> ?_,hI.glob⟩
 · rcases Ziu hx with ⟨rfl,rfl⟩|⟨rfl,rfl⟩
   · refine ⟨r,z,rfl,?_⟩
     obtain ⟨r',z',hσ',arr,e,k1,k2,k3,k4,k5⟩:=hI.blk b _ hb
     rw [hσ] at hσ';cases hσ'
     refine ⟨arr,e,k1,k2,?_,fun j sv' hj=> ?_,trivial⟩
     · simp only [Blk.cells] at k3⊢;omega
     · obtain ⟨sv,h1,h2⟩:=hden σ g j sv' hj
       obtain ⟨v,m1,m2⟩:=k4 j sv h1
       exact ⟨v,m1,Zv hE (h2 v m2) (fun b p hb=>by omega) (Zr hn hj)⟩
   · refine ⟨r1,z1,rfl,?_⟩
     obtain ⟨r',z',hσ',arr,e,k1,k2,k3,k4,k5⟩:=hI.blk c _ hc
     rw [hσc] at hσ';cases hσ'
     refine ⟨arr,e,k1,k2,k3,fun j sv' hj=> ?_,trivial⟩
     cases j with
     |zero=>
      cases hj
      obtain ⟨v,m1,m2⟩:=k4 0 _ rfl
      refine ⟨v,m1,?_⟩
      cases m2
      rename_i hs
      rw [hσ] at hs;cases hs
      exact .ptr (E:=E) (b:=0) rfl
     |succ j=>cases hj
 · rcases σ2_some h3 with ⟨rfl,e1⟩|⟨rfl,e1⟩<;>rcases σ2_some h4 with ⟨rfl,e2⟩|⟨rfl,e2⟩
   · rfl
   · cases e1;cases e2;exact absurd rfl hne
   · cases e1;cases e2;exact absurd rfl hne
   · rfl
 · rcases σ2_some hs with ⟨rfl,e⟩|⟨rfl,e⟩
   · cases e;exact hI.base b _ _ hσ
   · cases e;exact hI.base c _ _ hσc
 · rcases σ2_some hs with ⟨rfl,e⟩|⟨rfl,e⟩
   · cases e
     have h2:o<0:=hI.fz b (.raw cs 0 tg) _ _ o v hb hσ hv
     omega
   · cases e
     subst hfc
     have h2:o<0:=hI.fz c (.raw [.ptr b 0] 0 tc) _ _ o v hc hσc hv
     omega
 · rcases σ2_some hs with ⟨rfl,e⟩|⟨rfl,e⟩
   · cases e;exact hI.fm b _ _ _ hb hσ
   · cases e;exact hI.fm c _ _ _ hc hσc
section
variable {X α β ε:Type}
def Zb9 (M:MutI E X α β ε) (f:FuncId) (x:X) (a:α) (out:Except ε (β×X)):Prop:=
 match out with
 | .ok (y,x')=>Z9c E f (M.dS.enc x) (M.dA.enc a) (M.v y) (M.dS.enc x')
 | .error e=>Z9d E f (M.dS.enc x) (M.dA.enc a) (M.pv e)
def Zyd (M:MutI E X α β ε) (pre:X->α->Prop) (f:X->α->Except ε (β×X)):Sum Y:=fun args h _ k=>
 match args with
 | .ptr c 0::rest=>
  (match h c with
  |some (.raw [.ptr b 0] 0 _)=>
   (match Nat.beq b c,h b with
   |false,some (.raw cs 0 _)=>
    (match M.dS.dec cs,M.dA.dec rest with
    |some x,some a=>pre x a/\(∀y x',f x a= .ok (y,x')->k (Zg9 b (M.v y) (M.dS.enc x')))/\(∀e,f x a= .error e->k (Zx4 b (M.pv e)))
    |_,_=>False)
   |_,_=>False)
  |_=>False)
 |_=>False
theorem Zlg {M:DcL E α} {rest:List (SV Y)} {a:α} (hE:EngOk E) (hr:M.dec rest=some a) (hn:nidL 0 (M.enc a)=true) {c:Nat} {p q:Nat×Nat} {σ:Pl} {g:GH} {vals:List Value} (hσ:σ c=some q) (hd:DenL E σ g (.ptr c 0::rest) vals):DenL E (σ2 p q) g (.ptr 1 0::M.enc a) vals:=by
 obtain ⟨k1,k2,k3⟩:=M.ok _ _ hr
 refine ⟨by rw [<-hd.1];simp [k2],fun j sv u h1 h2=> ?_⟩
 cases j with
 |zero=>
  simp at h1;subst h1
  have:=hd.2 0 _ u rfl h2
  cases this
  rename_i hs
  rw [hσ] at hs;cases hs
  exact .ptr (E:=E) (b:=1) rfl
 |succ j=>
  have h1:(M.enc a)[j]? =some sv:=by simpa using h1
  obtain ⟨s0,h3,h4⟩:=k3 σ g j sv h1
  exact Zv hE (h4 u (hd.2 (j+1) s0 u (by simpa using h3) h2)) (fun b p hb=>by omega) (Zr hn h1)
theorem Ziv (hE:EngOk E) {f:Nat} (hg:FnGood E.P f) {M:MutI E X α β ε} {pre:X->α->Prop} {fn:X->α->Except ε (β×X)} (hp:∀x a,pre x a->Zb9 M f x a (fn x a)):SumOk E f (Zyd M pre fn):=by
 refine ⟨hg,fun args h i k hD hk=> ?_⟩
 unfold Zyd at hk
 split at hk
 case h_2=>exact hk.elim
 rename_i c rest
 split at hk
 case h_2=>exact hk.elim
 rename_i b tc hc
 split at hk
 case h_2=>exact hk.elim
 rename_i cs tg hbc hb
 have hbc:b≠c:=by intro e;subst e;rw [Nat.beq_refl] at hbc;cases hbc
 split at hk
 case h_2=>exact hk.elim
 rename_i x a hx ha
 obtain ⟨hpp,hk1,hk2⟩:=hk
 have hm:=hp x a hpp
 obtain ⟨c1,c2,c3⟩:=M.dS.ok _ _ hx
 have hbn:h b≠none:=by rw [hb];simp
 unfold Zb9 at hm
 split at hm
 · rename_i y x' ho
   refine ⟨_,hk1 y x' ho,fun b' hb'=>by
    have:b'∈ [b]:=hb'
    rw [List.mem_singleton] at this
    rw [this];exact hbn,.inl ?_⟩
   intro B σ g w vals hh hrd hI hB hfree hd
   obtain rfl:hh=h:=funext fun b=>hrd b trivial
   obtain ⟨r,z,hσ,_⟩:=hI.blk b _ hb
   obtain ⟨r1,z1,hσc,_⟩:=hI.blk c _ hc
   refine (hm B (σ2 (r,z) (r1,z1)) g w vals _ (fun _ _=>rfl) (Zn8 hE hI hb hc hσ hσc hbc rfl c2 (M.hS x) c3) hB (fun c h1 h2=>by simp [mutR] at h2;omega) (Zlg hE ha (M.hA a) hσc hd)).mono ?_
   rintro en w' ⟨u,he,σ',g',hS,hI',hv⟩
   rw [Zn7] at hI'
   obtain ⟨q1,q2⟩:=Wq hE (i:=i) (v:=M.v y) (v0:=M.v y) (x':=some (M.dS.enc x')) hI hb hσ rfl hS hI' (fun c hc=>by cases hc;rfl) (fun c hc=>by cases hc;exact M.hS x')
   exact ⟨u,he,σ,g',q1,q2,Zv hE hv (fun b p hb=>by omega) (M.hv y)⟩
 · rename_i e ho
   refine ⟨_,hk2 e ho,fun b' hb'=>by
    have:b'∈ [b]:=hb'
    rw [List.mem_singleton] at this
    rw [this];exact hbn,.inr ?_⟩
   obtain ⟨p,hp',hm⟩:=hm
   have hp':(SV.pan (M.pv e):SV Y)= .pan p:=hp'
   cases hp'
   refine ⟨_,rfl,fun B σ g w vals hI hB hfree hd=> ?_⟩
   obtain ⟨r,z,hσ,_⟩:=hI.blk b _ hb
   obtain ⟨r1,z1,hσc,_⟩:=hI.blk c _ hc
   refine (hm B (σ2 (r,z) (r1,z1)) g w vals (Zn8 hE hI hb hc hσ hσc hbc rfl c2 (M.hS x) c3) hB (fun c h1 h2=>by simp [panR] at h2;omega) (Zlg hE ha (M.hA a) hσc hd)).mono ?_
   rintro en w' ⟨he,σ',g',hS,hI'⟩
   obtain ⟨q1,q2⟩:=Wq hE (i:=i) (v:= .pan (M.pv e)) (v0:= .unk) (x':=none) hI hb hσ rfl hS hI' (fun c hc=>by cases hc) (fun c hc=>by cases hc)
   exact ⟨he,σ,g',q1,q2⟩
theorem Z2r {B:Nat} {p q:Nat×Nat} {h:Hp Y} {g g':GH} {w w':World} {σ':Pl} {n:Nat} {mods:List Nat} (hmods:∀b∈mods,b=0) (hS:Stp 2 n mods (σ2 p q) g w σ' g' w') (hI':Inv E B σ' h g' w') (h0:h 0≠none):∀b r z,b≠0->b≠1->h b≠none->σ' b=some (r,z)->w.heap.size<=r:=by
 intro b r z hb hb1 hn hs
 have hs0:σ2 p q b=none:=by
  match b with
  |0=>exact absurd rfl hb
  |1=>exact absurd rfl hb1
  |b+2=>rfl
 rcases hS.blk b r z hs0 hs with h1|⟨b',h1,z',h2⟩
 · exact h1
 · obtain rfl:=hmods b' h1
   have h3:=hS.sig 0 _ h2
   exact absurd (hI'.inj b 0 r z z' hn h0 hs h3) hb
def Z61 (M:MutI E X α β ε) (gth:List (SV Y)->Option Y.Th) (n:Nat) (dec:SV Y->Option β) (decP:Value->Option ε) (x:X) (out:Except ε (β×X)) (r:Res Y):Prop:=
 match memB 1 r.mods with
 |true=>False
 |false=>(match Ut r.v with
  |some q=>(match decP q with|some e=>out= .error e|none=>False)
  |none=>frzK E gth (patch (two (M.dS.enc x)) 2 r) n r.v fun v' bs=>
   (match patch (two (M.dS.enc x)) 2 r 0 with
   |some (.raw c2 0 _)=>frzL (frzK E gth (patch (two (M.dS.enc x)) 2 r) n) c2 fun cs' bs'=>
    (match memB 0 (bs++bs')||memB 1 (bs++bs'),dec v',M.dS.dec cs' with
    |false,some y,some x'=>out= .ok (y,x')
    |_,_,_=>False)
   |_=>False))
theorem Z2s (hE:EngOk E) {l:List (SV Y)} (hn:nidL 0 l=true) {p q:Nat×Nat} {σ:Pl} {g:GH} {vals:List Value} (hσ:σ 1=some q) (hd:DenL E σ g (.ptr 1 0::l) vals):DenL E (σ2 p q) g (.ptr 1 0::l) vals:=by
 refine ⟨hd.1,fun j sv u h1 h2=> ?_⟩
 cases j with
 |zero=>
  simp at h1;subst h1
  have:=hd.2 0 _ u rfl h2
  cases this
  rename_i hs
  rw [hσ] at hs;cases hs
  exact .ptr (E:=E) (b:=1) rfl
 |succ j=>
  have h1:l[j]? =some sv:=by simpa using h1
  exact Zv hE (hd.2 (j+1) sv u (by simpa using h1) h2) (fun b p hb=>by omega) (Zr hn h1)
theorem Zlh (hE:EngOk E) {call:Nat->List (SV Y)->Hp Y->Nat->(Res Y->Prop)->Prop} (hcall:Vj E call) {M:MutI E X α β ε} {gth:List (SV Y)->Option Y.Th} {n:Nat} {dec:SV Y->Option β} {decP:Value->Option ε} (hdec:∀v y,dec v=some y->∀σ g u,Den E σ g v u->Den E σ g (M.v y) u) (hdecP:∀q e,decP q=some e->M.pv e=q)
 {f:Nat} {x:X} {a:α} {out:Except ε (β×X)} (hk:call f (.ptr 1 0::M.dA.enc a) (two (M.dS.enc x)) 2 (Z61 M gth n dec decP x out)):Zb9 M f x a out:=by
 obtain ⟨r,hr,hR,htri⟩:=hcall f _ _ _ _ (Z60 _) hk
 unfold Z61 at hr
 split at hr
 · exact hr.elim
 rename_i hm1
 have hmods:∀b∈r.mods,b=0:=fun b hb=>by
  obtain ⟨y,hy⟩:=Option.ne_none_iff_exists'.1 (hR b hb)
  rcases Ziu hy with ⟨e,_⟩|⟨e,_⟩
  · exact e
  · subst e;rw [memB_iff.2 hb] at hm1;cases hm1
 have free1:∀(p q:Nat×Nat) (b:Nat),2<=b->b<2+r.n->σ2 p q b=none:=by
  intro p q b hb _
  match b,hb with
  |b+2,_=>rfl
 have stp:∀(p q:Nat×Nat) (g g' g'':GH) (w w':World) (σ':Pl),Stp 2 r.n r.mods (σ2 p q) g w σ' g' w'->g'.le g''->(∀q o v,g''.cell q o=some v->g'.cell q o=some v\/w.heap.size<=q)->(∀q es,g''.obj q=some es->g'.obj q=some es\/w.heap.size<=q)->Stp 2 0 [0] (σ2 p q) g w (σ2 p q) g'' w':=by
  intro p q g g' g'' w w' σ' hS hle hc hm
  refine ⟨.refl _,fun b q h=> .inl h,hS.gle.trans hle,fun q o v hv=> ?_,fun q es hv=> ?_,fun q hq hx=>hS.heap q hq fun b hb=>hx b (by rw [hmods b hb];simp),hS.size,hS.os,hS.tape,hS.output,fun b q z h1 h2=>by rw [h1] at h2;cases h2⟩
  · rcases hc q o v hv with h1|h1
    · rcases hS.gcnew q o v h1 with h2|h2|⟨b,h2,h3⟩
      · exact .inl h2
      · exact .inr (.inl h2)
      · exact .inr (.inr ⟨b,by rw [hmods b h2];simp,h3⟩)
    · exact .inr (.inl h1)
  · rcases hm q es hv with h1|h1
    · exact hS.gmnew q es h1
    · exact .inr h1
 have start:∀(B:Nat) (σ:Pl) (g:GH) (w:World) (vals:Array Value),Inv E B σ (two (M.dS.enc x)) g w->DenL E σ g (.ptr 1 0::M.dA.enc a) vals.toList->∃rr zz r1 z1,σ 0=some (rr,zz)/\σ 1=some (r1,z1)/\Inv E B (σ2 (rr,zz) (r1,z1)) (two (M.dS.enc x)) g w/\DenL E (σ2 (rr,zz) (r1,z1)) g (.ptr 1 0::M.dA.enc a) vals.toList:=by
  intro B σ g w vals hI hd
  obtain ⟨rr,zz,hσ,_⟩:=hI.blk 0 _ (Z2q _)
  obtain ⟨r1,z1,hσ1,_⟩:=hI.blk 1 _ (Z9b _)
  exact ⟨rr,zz,r1,z1,hσ,hσ1,Zn8 hE hI (Z2q _) (Z9b _) hσ hσ1 (by omega) rfl rfl (M.hS x) (fun σ g j sv' hj=>⟨sv',hj,fun u h=>h⟩),Z2s hE (M.hA a) hσ1 hd⟩
 split at hr
 · rename_i q hq
   split at hr
   case h_2=>exact hr.elim
   rename_i e he
   subst hr
   show Z9d E f _ _ (M.pv e)
   refine ⟨_,rfl,fun B σ g w vals hI hB hfree hd=> ?_⟩
   obtain ⟨rr,zz,r1,z1,hσ,hσ1,hI1,hd1⟩:=start B σ g w vals hI hd
   refine (htri.panic hq hI1 hB (free1 _ _) hd1).mono ?_
   rintro en w' ⟨rfl,σ',g',hS,hI'⟩
   refine ⟨by rw [hdecP q e he],?_⟩
   have hS1:=stp _ _ g g' g' w w' σ' hS (.refl _) (fun _ _ _ h=> .inl h) (fun _ _ h=> .inl h)
   have hI2:Inv E B (σ2 (rr,zz) (r1,z1)) (fun _=>none) g' w':=⟨hI'.gc,hI'.gm,(fun b x hx=>by cases hx),fun b b' r z z' h1=>absurd rfl h1,fun b r z hs=>⟨(hI1.base b r z hs).1,Nat.lt_of_lt_of_le (hI1.base b r z hs).2 hS.size⟩,(fun b x r z o v hx=>by cases hx),(fun b x r z hx=>by cases hx),hI'.glob⟩
   obtain ⟨q1,q2⟩:=Wq hE (i:=2) (v:= .pan (M.pv e)) (v0:= .unk) (x':=none) hI (Z2q _) hσ rfl hS1 hI2 (fun c hc=>by cases hc) (fun c hc=>by cases hc)
   refine ⟨σ,g',q1,?_⟩
   have e2:patch (two (M.dS.enc x)) 2 ⟨.pan (M.pv e),0,[0],at1 0 (rawO none),none⟩=patch (two (M.dS.enc x)) 2 (panR (M.pv e)):=by
    funext b
    rw [Zh,Zh]
    by_cases c:b=0
    · subst c
      rw [if_pos (by simp),if_pos (by simp [panR])]
      rfl
    · rw [if_neg (by simp [c]),if_neg (by simp [panR,c])]
   rw [<-e2];exact q2
 · rename_i hq
   have htri:=htri.tri hq
   obtain ⟨v',bs,hr,o1⟩:=Ud hE n r.v _ hr
   split at hr
   case h_2=>exact hr.elim
   rename_i c2 tg h0
   obtain ⟨cs',bs',hr,o2⟩:=Wy (Ud hE n) hr
   split at hr
   case h_2=>exact hr.elim
   rename_i y x' hmem hy hx'
   rw [Bool.or_eq_false_iff] at hmem
   subst hr
   show Z9c E f _ _ (M.v y) _
   intro B σ g w vals hh hrd hI hB hfree hd
   obtain rfl:hh=two (M.dS.enc x):=funext fun b=>hrd b trivial
   obtain ⟨rr,zz,r1,z1,hσ,hσ1,hI1,hd1⟩:=start B σ g w vals hI hd
   refine (htri B _ g w vals _ (fun _ _=>rfl) hI1 hB (free1 _ _) hd1).mono ?_
   rintro en w' ⟨u,rfl,σ',g',hS,hI',hv⟩
   refine ⟨u,rfl,?_⟩
   have hs0:σ' 0=some (rr,zz):=hS.sig 0 _ rfl
   have hrr:rr<w.heap.size:=(hI1.base 0 rr zz rfl).2
   have hfar:=Z2r hmods hS hI' (by rw [h0];simp)
   have hle:=Zea (n:=w.heap.size) hI'
   have hkept:Kept E (patch (two (M.dS.enc x)) 2 r) σ' (bs++bs') w' (allG g' w.heap.size w'):=by
    intro b hb q z y1 hs hy1 j v hj hv
    have hb0:b≠0:=by
     rintro rfl
     have:=memB_iff.2 hb
     rw [this] at hmem;cases hmem.1
    have hb1:b≠1:=by
     rintro rfl
     have:=memB_iff.2 hb
     rw [this] at hmem;cases hmem.2
    show (if w.heap.size<=q then w'.cell? ⟨q,j,none⟩ else g'.cell q j)=some v
    rw [if_pos (hfar b q z hb0 hb1 (by rw [hy1];simp) hs)]
    exact hv
   have hval:=o1.den _ σ' g' w' B u _ (fun _ _=>rfl) hI' hle (hkept.sub fun b hb=>List.mem_append_left _ hb) hv
   have hcell:∀q o v,(allG g' w.heap.size w').cell q o=some v->g'.cell q o=some v\/w.heap.size<=q:=by
    intro q o v hv
    have hv:(if w.heap.size<=q then w'.cell? ⟨q,o,none⟩ else g'.cell q o)=some v:=hv
    split at hv
    · exact .inr (by assumption)
    · exact .inl hv
   have hobj:∀q es,(allG g' w.heap.size w').obj q=some es->g'.obj q=some es\/w.heap.size<=q:=by
    intro q es hv
    have hv:(if w.heap.size<=q then (match w'.heap[q]? with|some (.map es _)=>some es|_=>none) else g'.obj q)=some es:=hv
    split at hv
    · exact .inr (by assumption)
    · exact .inl hv
   have hS1:=stp _ _ g g' _ w w' σ' hS hle hcell hobj
   have hG:=Zhw (n:=w.heap.size) (B':=B) hI'
   obtain ⟨c1,c2',c3⟩:=M.dS.ok _ _ hx'
   have hI2:Inv E B (σ2 (rr,zz) (r1,z1)) (one (M.dS.enc x')) (allG g' w.heap.size w') w':=by
    refine ⟨hG.gc,hG.gm,fun b y1 hy1=> ?_,fun b b' q z z' h1 h2 _ _=>by rw [Zb4 h1,Zb4 h2],fun b q z hs=>⟨(hI1.base b q z hs).1,Nat.lt_of_lt_of_le (hI1.base b q z hs).2 hS.size⟩,fun b y1 q z o v hy1 hs hv=> ?_,fun b y1 q z hy1 hs=> ?_,hG.glob⟩
    · obtain ⟨rfl,rfl⟩:=Vt hy1
      refine ⟨rr,zz,rfl,?_⟩
      obtain ⟨r2,z2,m1,arr,e,k1,k2,k3,k4,k5⟩:=hI'.blk 0 _ h0
      rw [hs0] at m1;cases m1
      have hl:cs'.length=c2.length:=o2.len
      refine ⟨arr,e,k1,k2,?_,fun j sv hj=> ?_,trivial⟩
      · simp only [Blk.cells] at k3⊢;omega
      · obtain ⟨s1,h1,h2⟩:=c3 σ0 (allG g' w.heap.size w') j sv hj
        have hjl:j<c2.length:=by rw [<-hl];exact (gA9.1 h1).1
        obtain ⟨v,m1,m2⟩:=k4 j _ (gB9 hjl)
        have:=o2.den _ σ' g' w' B _ (fun _ _=>rfl) hI' hle (hkept.sub fun b hb=>List.mem_append_right _ hb) j _ s1 v (gB9 hjl) h1 m2
        exact ⟨v,m1,(h2 v this).mono (fun b p h=>by cases h) (.refl _)⟩
    · obtain ⟨rfl,rfl⟩:=Vt hy1
      rcases σ2_some hs with ⟨_,e⟩|⟨e0,_⟩
      case inr=>omega
      cases e
      rcases hcell _ o v hv with h1|h1
      · have h2:o<0:=hI'.fz 0 (.raw c2 0 tg) _ _ o v h0 hs0 h1
        omega
      · omega
    · obtain ⟨rfl,rfl⟩:=Vt hy1
      rcases σ2_some hs with ⟨_,e⟩|⟨e0,_⟩
      case inr=>omega
      cases e
      cases hg':(allG g' w.heap.size w').obj rr with
      |none=>rfl
      |some es=>
       rcases hobj _ es hg' with h1|h1
       · rw [hI'.fm 0 _ _ _ h0 hs0] at h1;cases h1
       · omega
   obtain ⟨q1,q2⟩:=Wq hE (i:=2) (v:=M.v y) (v0:= .unk) (x':=some (M.dS.enc x')) hI (Z2q _) hσ rfl hS1 hI2 (fun c hc=>by cases hc;rfl) (fun c hc=>by cases hc;exact M.hS x')
   exact ⟨σ,_,q1,q2,(hdec v' y hy _ _ u hval).mono (fun b p h=>by cases h) (.refl _)⟩
end
end
end
section
open Go
def mK2 {α β:Type} (dA:DcL E α) (hA:∀a,nidL 0 (dA.enc a)=true) (d:Dc E β) (hv:∀y,nid 0 (d.enc y)=true) (l:List Tok) (e:Int) (out:PR β):Res thy->Prop:=
 Z61 (mI dA hA d hv) (fun _=>none) 3 d.dec Zpl (l,e,()) out
theorem Zmu {F:Fns thy} (hF:FnsOk E F) {n:Nat} {α β:Type} {dA:DcL E α} {hA:∀a,nidL 0 (dA.enc a)=true} {d:Dc E β} {hv:∀y,nid 0 (d.enc y)=true} {f:Nat} {l:List Tok} {e:Int} {a:α} {out:PR β}
 (hk:Zk E F (vc E F n) f (.ptr 1 0::dA.enc a) (two [.psl Th.toks l false,.int false .i64 e]) 2 (mK2 dA hA d hv l e out)):Zb9 (mI dA hA d hv) f (l,e,()) a out:=
 Zlh E_ok (Ze E_ok hF n) (fun v y h=>(d.ok v y h).2.2) Zke (x:=(l,e,())) hk
def sMul:List Nat:= [42]
def Zz3:List Nat:= [43]
def Zu7:List Nat:= [45]
def op1 (l:List Tok):Int×List Tok:=if isW sMul l then (5,l.tail) else (0,l)
def op2 (l:List Tok):Int×List Tok:=if isW Zz3 l then (3,l.tail) else if isW Zu7 l then (4,l.tail) else (0,l)
def pOp (o:List Tok->Int×List Tok) (l:List Tok) (e:Int):PR Int:= .ok ((o l).1,(o l).2,e,())
theorem Zz4 (l:List Tok) (e:Int) (out:PR Int):Zk E Fme (vc E Fme 400) 171 [.ptr 1 0] (two [.psl Th.toks l false,.int false .i64 e]) 2 (mK2 .nil n0 dN (fun _=>rfl) l e out)=(
(isW [(42:Nat)] l=true->out=Except.ok ((5:Int),List.tail l,e,()))/\(isW [(42:Nat)] l=false->out=Except.ok ((0:Int),l,e,()))):=by kernel_rfl
theorem Zz5 (l:List Tok) (e:Int) (out:PR Int):Zk E Fme (vc E Fme 400) 172 [.ptr 1 0] (two [.psl Th.toks l false,.int false .i64 e]) 2 (mK2 .nil n0 dN (fun _=>rfl) l e out)=(
(isW [(43:Nat)] l=true->out=Except.ok ((3:Int),List.tail l,e,()))/\(isW [(43:Nat)] l=false->(isW [(45:Nat)] l=true->out=Except.ok ((4:Int),List.tail l,e,()))/\(isW [(45:Nat)] l=false->out=Except.ok ((0:Int),l,e,())))):=by kernel_rfl
theorem Z43 (l:List Tok) (e:Int):Zb9 (mI .nil n0 dN (fun _=>rfl)) 171 (l,e,()) () (pOp op1 l e):=by
 refine Zmu Ze1 (n:=400) (a:=()) ?_
 rw [show (DcL.nil (E:=E)).enc ()= [] from rfl,Zz4]
 exact ⟨fun h=>by simp [pOp,op1,sMul,h],fun h=>by simp [pOp,op1,sMul,h]⟩
theorem Z44 (l:List Tok) (e:Int):Zb9 (mI .nil n0 dN (fun _=>rfl)) 172 (l,e,()) () (pOp op2 l e):=by
 refine Zmu Ze1 (n:=400) (a:=()) ?_
 rw [show (DcL.nil (E:=E)).enc ()= [] from rfl,Zz5]
 exact ⟨fun h=>by simp [pOp,op2,Zz3,h],fun h=>⟨fun h2=>by simp [pOp,op2,Zz3,Zu7,h,h2],fun h2=>by simp [pOp,op2,Zz3,Zu7,h,h2]⟩⟩
theorem Zu8 (l:List Tok):(op1 l).2.length<=l.length:=by
 unfold op1;split
 · have:=Zz (by assumption);show l.tail.length<=_;omega
 · exact Nat.le_refl _
theorem Zu9 (l:List Tok):(op2 l).2.length<=l.length:=by
 unfold op2;split
 · have:=Zz (by assumption);show l.tail.length<=_;omega
 · split
   · have:=Zz (by assumption);show l.tail.length<=_;omega
   · exact Nat.le_refl _
def Ua (o:List Tok->Int×List Tok) (pf:PE):Nat->Ex->Int->List Tok->Int->PR Ex
 |0,x,_,l,e=> .ok (x,l,e,())
 |k+1,x,op,l,e=>
  if op=0 then .ok (x,l,e,())
  else match pf l e with
   | .error er=> .error er
   | .ok (y,z)=>Ua o pf k (.mk op 0 0 0 0 0 [x,y]) (o z.1).1 (o z.1).2 z.2.1
def pCh (o:List Tok->Int×List Tok) (pf:PE) (l:List Tok) (e:Int):PR Ex:=
 match pf l e with
 | .error er=> .error er
 | .ok (y,z)=>Ua o pf ((o z.1).2.length+1) y (o z.1).1 (o z.1).2 z.2.1
def Sop1:Sum thy:=Zyd (mI .nil n0 dN (fun _=>rfl)) (fun _ _=>True) fun x _=>pOp op1 x.1 x.2.1
def Sop2:Sum thy:=Zyd (mI .nil n0 dN (fun _=>rfl)) (fun _ _=>True) fun x _=>pOp op2 x.1 x.2.1
theorem Z45:SumOk E 171 Sop1:=Ziv E_ok (Zc rfl) fun x _ _=>Z43 x.1 x.2.1
theorem Z46:SumOk E 172 Sop2:=Ziv E_ok (Zc rfl) fun x _ _=>Z44 x.1 x.2.1
structure CX where
 e:Ex
 op:Int
 l:List Tok
 ed:Int
 k:Nat
def celP (T:Fr thy):Nat:=match T 2 with| .fn _ _ [.ptr c _]=>c|_=>0
def parP (T:Fr thy) (h:Hp thy):Nat:=match h (celP T) with|some (.raw [.ptr p _] _ _)=>p|_=>0
def Ach:Fr thy->Hp thy->Nat->Ann thy:=fun T h i=>{X:=CX,fr:=fun x=> [(1,T 1),(2,T 2),(6,T 6),(7,T 7),(8,.int false .i64 x.op)],bl:=fun x=>(parP T h,.raw [.psl Th.toks x.l false,.int false .i64 x.ed] 0 none)::(celP T,.raw [.ptr (parP T h) 0] 0 none)::(bOf (T 7),.raw (E.enc Th.exprs x.e) 0 none)::blkP h (T 6),src:=fun _=> [],md:= [parP T h,bOf (T 7)],ih:=i,M:=i+60,meas:=fun x=>x.k,fz:= [7]}
def Sfac (n:Nat) (pf:PE):Sum thy:=sumM (mI .nil n0 dEx (fun _=>rfl)) (fun x _=>x.1.length<n) fun x _=>pf x.1 x.2.1
def Stm (n:Nat) (pf:PE):Sum thy:=Zyd (mI .nil n0 dEx (fun _=>rfl)) (fun x _=>x.1.length<n) fun x _=>pf x.1 x.2.1
def Ftm (n:Nat) (pf:PE):Fns thy:=addL (addS (addS F0 170 (Sfac n pf)) 171 Sop1) 169 3 Ach E
def Fxp (n:Nat) (pf:PE):Fns thy:=addL (addS (addS F0 168 (Stm n pf)) 172 Sop2) 169 3 Ach E
abbrev qBP5:=(0:Nat)
abbrev qBP3:=(0:Int)
abbrev qBP1:=(qBP3=qBP3/\qBP3=qBP3/\qBP3=qBP3/\qBP3=qBP3/\qBP3=qBP3/\qBP3=qBP3/\Value.slice none qBP5 qBP5=Value.slice none qBP5 qBP5/\True)
abbrev qBP2 (a0:Int) (b0:CX):=((Fn.func (170:Nat)=Fn.func (170:Nat)/\(qBP5=qBP5/\True)/\True)/\(Fn.func (171:Nat)=Fn.func (171:Nat)/\True/\qBP5=qBP5/\True)/\qBP5=qBP5/\qBP5=qBP5/\a0=CX.op b0/\True)
abbrev qBP4:=(false=true->false=true)
theorem Zva (n:Nat) (pf:PE) (l:List Tok) (e:Int) (out:PR Ex):Zk E (Ftm n pf) (vc E (Ftm n pf) 400) 168 [.ptr 1 0] (two [.psl Th.toks l false,.int false .i64 e]) 2 (mK2 .nil n0 dEx (fun _=>rfl) l e out)=(
 List.length l+(1:Nat)<=n/\(∀(y:Ex) (x':PX),pf l e=Except.ok (y,x')->True/\(∀(y_1:Int) (x'_1:PX),pOp op1 (Prod.fst x') (Prod.fst (Prod.snd x'))=Except.ok (y_1,x'_1)->∃(R:CX->Prop),(∃(x:CX),R x/\true=true/\(qBP2 y_1 x)/\((Prod.fst x'_1=CX.l x/\qBP4)/\Prod.fst (Prod.snd x'_1)=CX.ed x/\True)/\(qBP5=qBP5/\True)/\(Ex.op y=Ex.op (CX.e x)/\Ex.n y=Ex.n (CX.e x)/\Ex.d0 y=Ex.d0 (CX.e x)/\Ex.d1 y=Ex.d1 (CX.e x)/\Ex.d2 y=Ex.d2 (CX.e x)/\Ex.d3 y=Ex.d3 (CX.e x)/\(Ex.l y=Ex.l (CX.e x)/\qBP4)/\True)/\qBP1/\True)/\∀(x:CX),R x->((CX.op x !=qBP3)=true->List.length (CX.l x)+(1:Nat)<=n/\(∀(y:Ex) (x':PX),pf (CX.l x) (CX.ed x)=Except.ok (y,x')->True/\(∀(y_2:Int) (x'_2:PX),pOp op1 (Prod.fst x') (Prod.fst (Prod.snd x'))=Except.ok (y_2,x'_2)->∃(x_1:CX),R x_1/\x_1.5+(1:Nat)<=x.5/\true=true/\(qBP2 y_2 x_1)/\((Prod.fst x'_2=CX.l x_1/\qBP4)/\Prod.fst (Prod.snd x'_2)=CX.ed x_1/\True)/\(qBP5=qBP5/\True)/\(CX.op x=Ex.op (CX.e x_1)/\qBP3=Ex.n (CX.e x_1)/\qBP3=Ex.d0 (CX.e x_1)/\qBP3=Ex.d1 (CX.e x_1)/\qBP3=Ex.d2 (CX.e x_1)/\qBP3=Ex.d3 (CX.e x_1)/\([Ex.mk (Ex.op (CX.e x)) (Ex.n (CX.e x)) (Ex.d0 (CX.e x)) (Ex.d1 (CX.e x)) (Ex.d2 (CX.e x)) (Ex.d3 (CX.e x)) (Ex.l (CX.e x)),Ex.mk (Ex.op y) (Ex.n y) (Ex.d0 y) (Ex.d1 y) (Ex.d2 y) (Ex.d3 y) (Ex.l y)]=Ex.l (CX.e x_1)/\qBP4)/\True)/\qBP1/\True)/\∀(e:Int×Int),pOp op1 (Prod.fst x') (Prod.fst (Prod.snd x'))=Except.error e->out=Except.error e)/\∀(e:Int×Int),pf (CX.l x) (CX.ed x)=Except.error e->out=Except.error e)/\((CX.op x !=qBP3)=false->out=Except.ok (Ex.mk (Ex.op (CX.e x)) (Ex.n (CX.e x)) (Ex.d0 (CX.e x)) (Ex.d1 (CX.e x)) (Ex.d2 (CX.e x)) (Ex.d3 (CX.e x)) (Ex.l (CX.e x)),CX.l x,CX.ed x,())))/\∀(e:Int×Int),pOp op1 (Prod.fst x') (Prod.fst (Prod.snd x'))=Except.error e->out=Except.error e)/\∀(e_1:Int×Int),pf l e=Except.error e_1->out=Except.error e_1):=by kernel_rfl
abbrev qBPa:=(0:Nat)
abbrev qBP8:=(0:Int)
abbrev qBP6:=(qBP8=qBP8/\qBP8=qBP8/\qBP8=qBP8/\qBP8=qBP8/\qBP8=qBP8/\qBP8=qBP8/\Value.slice none qBPa qBPa=Value.slice none qBPa qBPa/\True)
abbrev qBP7 (a0:Int) (b0:CX):=((Fn.func (168:Nat)=Fn.func (168:Nat)/\True/\qBPa=qBPa/\True)/\(Fn.func (172:Nat)=Fn.func (172:Nat)/\True/\qBPa=qBPa/\True)/\qBPa=qBPa/\qBPa=qBPa/\a0=CX.op b0/\True)
abbrev qBP9:=(false=true->false=true)
theorem Zvb (n:Nat) (pf:PE) (l:List Tok) (e:Int) (out:PR Ex):Zk E (Fxp n pf) (vc E (Fxp n pf) 400) 134 [.ptr 0 0] (one [.psl Th.toks l false,.int false .i64 e]) 1 (mK .nil n0 dEx (fun _=>rfl) l e out)=(
 List.length l+(1:Nat)<=n/\(∀(y:Ex) (x':PX),pf l e=Except.ok (y,x')->True/\(∀(y_1:Int) (x'_1:PX),pOp op2 (Prod.fst x') (Prod.fst (Prod.snd x'))=Except.ok (y_1,x'_1)->∃(R:CX->Prop),(∃(x:CX),R x/\true=true/\(qBP7 y_1 x)/\((Prod.fst x'_1=CX.l x/\qBP9)/\Prod.fst (Prod.snd x'_1)=CX.ed x/\True)/\(qBPa=qBPa/\True)/\(Ex.op y=Ex.op (CX.e x)/\Ex.n y=Ex.n (CX.e x)/\Ex.d0 y=Ex.d0 (CX.e x)/\Ex.d1 y=Ex.d1 (CX.e x)/\Ex.d2 y=Ex.d2 (CX.e x)/\Ex.d3 y=Ex.d3 (CX.e x)/\(Ex.l y=Ex.l (CX.e x)/\qBP9)/\True)/\qBP6/\True)/\∀(x:CX),R x->((CX.op x !=qBP8)=true->List.length (CX.l x)+(1:Nat)<=n/\(∀(y:Ex) (x':PX),pf (CX.l x) (CX.ed x)=Except.ok (y,x')->True/\(∀(y_2:Int) (x'_2:PX),pOp op2 (Prod.fst x') (Prod.fst (Prod.snd x'))=Except.ok (y_2,x'_2)->∃(x_1:CX),R x_1/\x_1.5+(1:Nat)<=x.5/\true=true/\(qBP7 y_2 x_1)/\((Prod.fst x'_2=CX.l x_1/\qBP9)/\Prod.fst (Prod.snd x'_2)=CX.ed x_1/\True)/\(qBPa=qBPa/\True)/\(CX.op x=Ex.op (CX.e x_1)/\qBP8=Ex.n (CX.e x_1)/\qBP8=Ex.d0 (CX.e x_1)/\qBP8=Ex.d1 (CX.e x_1)/\qBP8=Ex.d2 (CX.e x_1)/\qBP8=Ex.d3 (CX.e x_1)/\([Ex.mk (Ex.op (CX.e x)) (Ex.n (CX.e x)) (Ex.d0 (CX.e x)) (Ex.d1 (CX.e x)) (Ex.d2 (CX.e x)) (Ex.d3 (CX.e x)) (Ex.l (CX.e x)),Ex.mk (Ex.op y) (Ex.n y) (Ex.d0 y) (Ex.d1 y) (Ex.d2 y) (Ex.d3 y) (Ex.l y)]=Ex.l (CX.e x_1)/\qBP9)/\True)/\qBP6/\True)/\∀(e:Int×Int),pOp op2 (Prod.fst x') (Prod.fst (Prod.snd x'))=Except.error e->out=Except.error e)/\∀(e:Int×Int),pf (CX.l x) (CX.ed x)=Except.error e->out=Except.error e)/\((CX.op x !=qBP8)=false->out=Except.ok (Ex.mk (Ex.op (CX.e x)) (Ex.n (CX.e x)) (Ex.d0 (CX.e x)) (Ex.d1 (CX.e x)) (Ex.d2 (CX.e x)) (Ex.d3 (CX.e x)) (Ex.l (CX.e x)),CX.l x,CX.ed x,())))/\∀(e:Int×Int),pOp op2 (Prod.fst x') (Prod.fst (Prod.snd x'))=Except.error e->out=Except.error e)/\∀(e_1:Int×Int),pf l e=Except.error e_1->out=Except.error e_1):=by kernel_rfl
theorem Z7x {n:Nat} {pf:PE} (hpf:∀l e,l.length<n->Wm (mI .nil n0 dEx (fun _=>rfl)) 170 (l,e,()) () (pf l e)):FnsOk E (Ftm n pf):=Z5 E_ok (Zb (Zb F0_ok (Xg E_ok (Zc rfl) fun x _ h=>hpf x.1 x.2.1 h)) Z45) _ _ _
theorem Z7y {n:Nat} {pf:PE} (hpf:∀l e,l.length<n->Zb9 (mI .nil n0 dEx (fun _=>rfl)) 168 (l,e,()) () (pf l e)):FnsOk E (Fxp n pf):=Z5 E_ok (Zb (Zb F0_ok (Ziv E_ok (Zc rfl) fun x _ h=>hpf x.1 x.2.1 h)) Z46) _ _ _
theorem Zz6 {n:Nat} {pf:PE} (hpf:∀l e,l.length<n->Wm (mI .nil n0 dEx (fun _=>rfl)) 170 (l,e,()) () (pf l e)) (H:Shr pf) (l:List Tok) (e:Int) (hl:l.length<n):
 Zb9 (mI .nil n0 dEx (fun _=>rfl)) 168 (l,e,()) () (pCh op1 pf l e):=by
 refine Zmu (Z7x hpf) (n:=400) (a:=()) ?_
 rw [show (DcL.nil (E:=E)).enc ()= [] from rfl,Zva];delta qBP5 qBP3 qBP1 qBP2 qBP4
 refine ⟨by omega,fun y x' h=>⟨trivial,fun y1 x1 ho=> ?_,fun er ho=>by cases ho⟩,fun er h=>by simp [pCh,h]⟩
 unfold pOp at ho
 injection ho with ho
 injection ho with ho1 ho2
 subst ho1;subst ho2
 have hs:=H _ _ _ _ h
 have hs2:=Zu8 x'.1
 refine ⟨fun x=>Ua op1 pf x.k x.e x.op x.l x.ed=pCh op1 pf l e/\x.l.length<x.k/\x.l.length<n,⟨⟨y,(op1 x'.1).1,(op1 x'.1).2,x'.2.1,(op1 x'.1).2.length+1⟩,⟨by simp [pCh,h],(by show (op1 x'.1).2.length<(op1 x'.1).2.length+1;omega),(by show (op1 x'.1).2.length<n;omega)⟩,by simp⟩,?_⟩
 rintro ⟨x,op,l1,ed,k⟩ ⟨hR,hk,hn⟩
 have hk:l1.length<k:=hk
 have hn:l1.length<n:=hn
 cases k with
 |zero=>omega
 |succ k=>
  have hR:Ua op1 pf (k+1) x op l1 ed=pCh op1 pf l e:=hR
  rw [<-hR]
  refine ⟨fun h0=>⟨by omega,fun y2 x2 h2=>⟨trivial,fun y3 x3 h3=> ?_,fun er h3=>by cases h3⟩,fun er h2=> ?_⟩,fun h0=> ?_⟩
  · unfold pOp at h3
    injection h3 with h3
    injection h3 with h31 h32
    subst h31;subst h32
    have h0:op≠0:=by simpa using h0
    have h2:pf l1 ed= .ok (y2,x2):=h2
    have hq:=H _ _ _ _ h2
    have hq2:=Zu8 x2.1
    refine ⟨⟨.mk op 0 0 0 0 0 [x,y2],(op1 x2.1).1,(op1 x2.1).2,x2.2.1,k⟩,⟨?_,(by show (op1 x2.1).2.length<k;omega),(by show (op1 x2.1).2.length<n;omega)⟩,Nat.le_refl _,?_⟩
    · show Ua op1 pf k _ _ _ _=_
      simp [Ua,h0,h2]
    · simp only [Ex.eta]
      repeat' (first|exact rfl|exact trivial|exact fun h=>h|apply And.intro)
  · have h0:op≠0:=by simpa using h0
    have h2:pf l1 ed= .error er:=h2
    simp [Ua,h0,h2]
  · have h0:op=0:=by simpa using h0
    simp [Ua,h0,Ex.eta]
theorem Zvc {n:Nat} {pf:PE} (hpf:∀l e,l.length<n->Zb9 (mI .nil n0 dEx (fun _=>rfl)) 168 (l,e,()) () (pf l e)) (H:Shr pf) (l:List Tok) (e:Int) (hl:l.length<n):
 Wm (mI .nil n0 dEx (fun _=>rfl)) 134 (l,e,()) () (pCh op2 pf l e):=by
 refine V1 (Z7y hpf) (n:=400) (a:=()) ?_
 rw [show (DcL.nil (E:=E)).enc ()= [] from rfl,Zvb];delta qBPa qBP8 qBP6 qBP7 qBP9
 refine ⟨by omega,fun y x' h=>⟨trivial,fun y1 x1 ho=> ?_,fun er ho=>by cases ho⟩,fun er h=>by simp [pCh,h]⟩
 unfold pOp at ho
 injection ho with ho
 injection ho with ho1 ho2
 subst ho1;subst ho2
 have hs:=H _ _ _ _ h
 have hs2:=Zu9 x'.1
 refine ⟨fun x=>Ua op2 pf x.k x.e x.op x.l x.ed=pCh op2 pf l e/\x.l.length<x.k/\x.l.length<n,⟨⟨y,(op2 x'.1).1,(op2 x'.1).2,x'.2.1,(op2 x'.1).2.length+1⟩,⟨by simp [pCh,h],(by show (op2 x'.1).2.length<(op2 x'.1).2.length+1;omega),(by show (op2 x'.1).2.length<n;omega)⟩,by simp⟩,?_⟩
 rintro ⟨x,op,l1,ed,k⟩ ⟨hR,hk,hn⟩
 have hk:l1.length<k:=hk
 have hn:l1.length<n:=hn
 cases k with
 |zero=>omega
 |succ k=>
  have hR:Ua op2 pf (k+1) x op l1 ed=pCh op2 pf l e:=hR
  rw [<-hR]
  refine ⟨fun h0=>⟨by omega,fun y2 x2 h2=>⟨trivial,fun y3 x3 h3=> ?_,fun er h3=>by cases h3⟩,fun er h2=> ?_⟩,fun h0=> ?_⟩
  · unfold pOp at h3
    injection h3 with h3
    injection h3 with h31 h32
    subst h31;subst h32
    have h0:op≠0:=by simpa using h0
    have h2:pf l1 ed= .ok (y2,x2):=h2
    have hq:=H _ _ _ _ h2
    have hq2:=Zu9 x2.1
    refine ⟨⟨.mk op 0 0 0 0 0 [x,y2],(op2 x2.1).1,(op2 x2.1).2,x2.2.1,k⟩,⟨?_,(by show (op2 x2.1).2.length<k;omega),(by show (op2 x2.1).2.length<n;omega)⟩,Nat.le_refl _,?_⟩
    · show Ua op2 pf k _ _ _ _=_
      simp [Ua,h0,h2]
    · simp only [Ex.eta]
      repeat' (first|exact rfl|exact trivial|exact fun h=>h|apply And.intro)
  · have h0:op≠0:=by simpa using h0
    have h2:pf l1 ed= .error er:=h2
    simp [Ua,h0,h2]
  · have h0:op=0:=by simpa using h0
    simp [Ua,h0,Ex.eta]
end
section
open Go
def Bnd (pe:PE):Prop:=∀l e x y,pe l e= .ok (x,y)->x.sz+2*y.1.length<=2*l.length
theorem Bnd.shr {pe:PE} (h:Bnd pe):Shr pe:=fun l e x y hq=>by
 have:=h l e x y hq
 have:=Ex.sz_pos x
 omega
theorem Zhn:∀(a b:List Ex),Ex.szL (a++b)=Ex.szL a+Ex.szL b
 | [],b=>by simp [Ex.szL]
 |x::a,b=>by simp [Ex.szL,Zhn a b];omega
theorem Zra {pe:PE} (h:Bnd pe):∀{ss:List (List Nat)} {acc:List Ex} {l:List Tok} {e:Int} {xs:List Ex} {y:PX},pOpL pe ss acc l e= .ok (xs,y)->Ex.szL xs+2*y.1.length<=Ex.szL acc+2*l.length
 | [],acc,l,e,xs,y,hq=>by
  unfold pOpL at hq
  injection hq with hq
  injection hq with h1 h2
  subst h1;subst h2
  exact Nat.le_refl _
 |s::r,acc,l,e,xs,y,hq=>by
  unfold pOpL at hq
  split at hq
  · cases hq
  · rename_i x z hx
    split at hq
    · rename_i hw
      have h1:=h _ _ _ _ hx
      have h2:=Zz hw
      have h3:=Zra h hq
      rw [Zhn] at h3
      have h4:Ex.szL [x]=x.sz:=by simp [Ex.szL]
      omega
    · cases hq
theorem Zrb {pe:PE} (h:Bnd pe) {op:Int} {ss:List (List Nat)} {l:List Tok} {e:Int} {x:Ex} {y:PX} (hq:pOps pe op ss l e= .ok (x,y)):x.sz+2*y.1.length<=2*l.length:=by
 unfold pOps at hq
 split at hq
 · rename_i hw
   split at hq
   · cases hq
   · rename_i xs z hx
     injection hq with hq
     injection hq with h1 h2
     subst h1;subst h2
     have h3:=Zra h hx
     have h2:=Zz hw
     rw [Ex.sz_eq]
     show Ex.szL xs+1+_<=_
     have:Ex.szL ([]:List Ex)=0:=rfl
     omega
 · cases hq
theorem Zzk {l:List Tok} {e:Int} {d:List Int} {y:PX} (hq:Zcq l e= .ok (d,y)):y.1.length<=l.length:=by
 unfold Zcq at hq
 split at hq
 · cases hq
 · rename_i k x hc
   have hx:x.1.length<=l.length:=by
    rcases Xo hc with ⟨h1,_,rfl⟩|⟨_,_,rfl⟩
    · have:=Zaz h1;show l.tail.length<=_;omega
    · exact Nat.le_refl _
   split at hq
   · rename_i hw
     have hw:=Zz hw
     split at hq
     · cases hq
     · rename_i j x1 hm
       obtain ⟨h1,_,rfl⟩:=Zbv hm
       have:=Zaz h1
       injection hq with hq
       injection hq with _ h2
       subst h2
       show x.1.tail.tail.length<=_
       omega
   · injection hq with hq
     injection hq with _ h2
     subst h2
     exact hx
theorem Zl9 {pe:PE} (h:Bnd pe):Bnd (Zj8 pe):=by
 intro l e x y hq
 unfold Zj8 at hq
 split at hq
 · rename_i hw
   have hw:=Zz hw
   split at hq
   · cases hq
   · rename_i x1 y1 hx
     have h1:=h _ _ _ _ hx
     split at hq
     · rename_i hw2
       have hw2:=Zz hw2
       injection hq with hq
       injection hq with h2 h3
       subst h2;subst h3
       show _+2*y1.1.tail.length<=_
       omega
     · cases hq
 · split at hq
   · rename_i hw
     have hw:=Zz hw
     have:=Zrb h hq
     omega
   · split at hq
     · cases hq
     · rename_i k y1 hc
       split at hq
       · have h1:=Zrb h hq
         rcases Xo hc with ⟨h2,_,rfl⟩|⟨_,_,rfl⟩
         · have:=Zaz h2
           have h1:x.sz+2*y.1.length<=2*l.tail.length:=h1
           omega
         · exact h1
       · split at hq
         · cases hq
         · rename_i a z hm
           obtain ⟨h1,_,rfl⟩:=Zbv hm
           have hp:=Zaz h1
           injection hq with hq
           injection hq with h2 h3
           subst h2;subst h3
           have hy:y1.1.length<=l.length:=by
            rcases Xo hc with ⟨h2,_,rfl⟩|⟨_,_,rfl⟩
            · have:=Zaz h2;show l.tail.length<=_;omega
            · exact Nat.le_refl _
           show 1+2*y1.1.tail.length<=_
           omega
theorem Zjm {pe:PE} (h:Bnd pe):Bnd (pFac pe):=by
 intro l e x y hq
 unfold pFac at hq
 split at hq
 · exact Zl9 h _ _ _ _ hq
 · split at hq
   · split at hq
     · cases hq
     · rename_i t r _ _ d z hu
       have h1:=Zzk hu
       injection hq with hq
       injection hq with h2 h3
       subst h2;subst h3
       show 1+2*z.1.length<=2*(r.length+1)
       omega
   · exact Zl9 h _ _ _ _ hq
def Cns (o:List Tok->Int×List Tok):Prop:=∀l,2*(o l).2.length+(if (o l).1=0 then 0 else 2)<=2*l.length
theorem Zzl:Cns op1:=by
 intro l
 unfold op1;split
 · have:=Zz (by assumption);show 2*l.tail.length+2<=_;omega
 · simp
theorem Z7q:Cns op2:=by
 intro l
 unfold op2;split
 · have:=Zz (by assumption);show 2*l.tail.length+2<=_;omega
 · split
   · have:=Zz (by assumption);show 2*l.tail.length+2<=_;omega
   · simp
theorem Zma {o:List Tok->Int×List Tok} {pf:PE} (ho:Cns o) (h:Bnd pf):∀{k:Nat} {x:Ex} {op:Int} {l:List Tok} {e:Int} {z:Ex} {y:PX},Ua o pf k x op l e= .ok (z,y)->z.sz+2*y.1.length<=x.sz+2*l.length+(if op=0 then 0 else 2)
 |0,x,op,l,e,z,y,hq=>by
  unfold Ua at hq
  injection hq with hq
  injection hq with h2 h3
  subst h2;subst h3
  exact Nat.le_add_right _ _
 |k+1,x,op,l,e,z,y,hq=>by
  unfold Ua at hq
  split at hq
  · injection hq with hq
    injection hq with h2 h3
    subst h2;subst h3
    exact Nat.le_add_right _ _
  · rename_i hop
    split at hq
    · cases hq
    · rename_i y1 z1 hx
      have h1:=h _ _ _ _ hx
      have h2:=Zma ho h hq
      have h3:=ho z1.1
      have h4:(Ex.mk op 0 0 0 0 0 [x,y1]).sz=x.sz+y1.sz+1:=by rw [Ex.sz_eq];simp [Ex.l,Ex.szL]
      rw [h4] at h2
      rw [if_neg hop]
      omega
theorem Zoz {o:List Tok->Int×List Tok} {pf:PE} (ho:Cns o) (h:Bnd pf):Bnd (pCh o pf):=by
 intro l e x y hq
 unfold pCh at hq
 split at hq
 · cases hq
 · rename_i y1 z1 hx
   have h1:=h _ _ _ _ hx
   have h2:=Zma ho h hq
   have h3:=ho z1.1
   omega
def pE:Nat->PE
 |0=>fun l e=> .error (hdT e l,160)
 |n+1=>pCh op2 (pCh op1 (pFac (pE n)))
theorem Zmb:∀n,Bnd (pE n)
 |0=>fun l e x y hq=>by cases hq
 |n+1=>Zoz Z7q (Zoz Zzl (Zjm (Zmb n)))
theorem Zrc:∀(n:Nat) (l:List Tok) (e:Int),l.length<n->Wm (mI .nil n0 dEx (fun _=>rfl)) 134 (l,e,()) () (pE n l e)
 |0,l,e,h=>by omega
 |n+1,l,e,h=>Zvc (n:=n+1) (fun l e h=>Zz6 (n:=n+1) (fun l e h=>Zrv (Zrc n) (Zmb n).shr l e h) (Zjm (Zmb n)).shr l e h) (Zoz Zzl (Zjm (Zmb n))).shr l e h
def pX (l:List Tok) (e:Int):PR Ex:=pE (l.length+1) l e
def Sx:Sum thy:=sumM (mI .nil n0 dEx (fun _=>rfl)) (fun _ _=>True) fun x _=>pX x.1 x.2.1
theorem Ybd:SumOk E 134 Sx:=Xg E_ok (Zc rfl) fun x _ _=>Zrc _ _ _ (Nat.lt_succ_self _)
theorem Zzm:Bnd pX:=fun l e x y hq=>Zmb _ l e x y hq
end
section
open Go
end
section
open Go
def Yc (w:Tst):Bool:=decide (0<=w.attr/\w.attr<16/\0<=w.low/\w.low<=1099511627776/\0<=w.high/\w.high<=1099511627776)
def Un (c:Cls):Bool:=Zee c.name&&Zq c.pay&&c.when_.all Yc
def resF (s:List Nat):Bool:=decide (s∈resW)
def goC:Bool->Bool->List (List Nat×Bool)->List Cls->Int
 |a,b,_,[]=>if a=true then 161 else if b=true then 2 else 0
 |a,b,m,c::r=>if Un c=true then goC (a||resF c.name||(Yy m c.name).getD false) (b||decide (8<c.when_.length)||decide (24<Z6 c.pay)) (putS m c.name true) r else 1
def Y2 (t:Tar):Int:=if Zee t.name=true/\1<=t.for_/\t.for_<=6 then goC (resF t.name) (decide (64<t.clauses.length)) [] t.clauses else 1
def Z9g:Sum thy:=sumP (dA1 dS) (fun _=>True) fun x=> .bool false (Zee x.1)
theorem Z2w:SumOk E 28 Z9g:=Zp E_ok (Zc (f:=28) rfl) fun x h=>Zvn _
def Sres:Sum thy:=sumP (dA1 dS) (fun _=>True) fun x=> .bool false (resF x.1)
theorem Z67:SumOk E 29 Sres:=Zp E_ok (Zc (f:=29) rfl) fun x h=>Zpe _
def Zyk:Sum thy:=sumP dExp (fun x=>x.1.sz<1000000000000) fun x=> .bool false (Zq x.1)
theorem Ztx:SumOk E 30 Zyk:=Zp E_ok (Zc (f:=30) rfl) fun x h=>Z2f _ (Nat.le_refl _) _ h
def Zi1:Sum thy:=sumP dExp (fun x=>x.1.sz<1000000000000) fun x=> .int false .i64 (Z6 x.1:Int)
theorem Zfp:SumOk E 31 Zi1:=Zp E_ok (Zc (f:=31) rfl) fun x h=>Z14 _ _ (Nat.le_refl _) (Nat.le_of_lt h)
structure CkX where
 k:Nat
 r:Nat
 a:Bool
 b:Bool
 m:List (List Nat×Bool)
def blkM {Y:Thy} (h:Hp Y) (v:SV Y):List (Nat×Blk Y):=match v with| .map b=>(match h b with|some x=> [(b,x)]|none=> [])|_=> []
def Ack:Fr thy->Hp thy->Nat->Ann thy:=fun T h i=>{X:=CkX,fr:=fun x=> [(3,.bool false x.a),(4,.bool false x.b),(5,T 5),(33,T 33),(34,T 34),(35,.int false .i64 x.k)],bl:=fun x=> [(bOf (T 5),.map (Ym (X4 E Th.bools false) x.m))],src:=fun _=> [],md:= [bOf (T 5)],ih:=i,M:=i+40,meas:=fun x=>x.r}
def Atst:Fr thy->Hp thy->Nat->Ann thy:=fun T h i=>{X:=DX,fr:=fun x=> [(3,T 3),(4,T 4),(5,T 5),(7,T 7),(33,T 33),(34,T 34),(35,T 35),(50,T 50),(51,T 51),(52,.int false .i64 x.k)],bl:=fun x=>blkP h (T 7)++blkM h (T 5),src:=fun _=> [],md:= [],ih:=i,M:=i+30,meas:=fun x=>x.r}
def Fck:Fns thy:=addL (addL (addS (addS (addS (addS F0 28 Z9g) 29 Sres) 30 Zyk) 31 Zi1) 13 6 Ack E) 13 11 Atst E
theorem Z9h:FnsOk E Fck:=Z5 E_ok (Z5 E_ok (Zb (Zb (Zb (Zb F0_ok Z2w) Z67) Ztx) Zfp) _ _ _) _ _ _
def tarA (t:Tar):SV thy:= .agg (encF false .tariffs t)
abbrev qBS7 (a0:List (List Nat×Bool)):=(∀(p:List Nat×Bool),p∈a0->toL (mkS (Prod.fst p))=Prod.fst p)
abbrev qBSm (a0:Cls):=(mkS (Cls.name a0))
abbrev qBSb:=(X4 E Th.bools false)
abbrev qBS9:=(X4 E Th.bools (Zj TypeDesc.bool))
abbrev qBS3 (a0:List (List Nat×Bool)) (b0:Cls) (c0:CkX):=(Ym qBS9 (putS a0 (Cls.name b0) true)=Ym qBSb (CkX.m c0)/\nidE (0:Nat) (Ym qBS9 (putS a0 (Cls.name b0) true))=true)
abbrev qBSp (a0:Cls):=(Cls.pay a0)
abbrev qBS4 (a0:Cls):=(Ex.mk (Ex.op (qBSp a0)) (Ex.n (qBSp a0)) (Ex.d0 (qBSp a0)) (Ex.d1 (qBSp a0)) (Ex.d2 (qBSp a0)) (Ex.d3 (qBSp a0)) (Ex.l (qBSp a0)))
abbrev qBSi (a0:Cls):=((↑(Z6 (qBS4 a0)):Int)>(24:Int))
abbrev qBSj:=(1:Int)
abbrev qBSe (a0:CkX):=(↑(CkX.k a0):Int)
abbrev qBS5 (a0:Tar):=(↑(List.length (Tar.clauses a0)):Int)
abbrev qBSl:=(1:Nat)
abbrev qBSg:=(false=true->false=true)
abbrev qBS6 (a0:Tar):=(Tar.clauses a0=Tar.clauses a0/\qBSg)
abbrev qBSa (a0:CkX) (b0:Tar) (c0:CkX):=(true=CkX.a a0/\true=CkX.b a0/\True/\(qBS6 b0)/\(qBS5 b0)=(qBS5 b0)/\wr IntKind.i64 ((qBSe c0)+qBSj)=(qBSe a0)/\True)
abbrev qBSc (a0:Cls):=(↑(List.length (Cls.when_ a0)):Int)
abbrev qBS2 (a0:CkX) (b0:Cls) (c0:CkX->Prop) (d0:Tar):=(CkX.b a0=false->(decide ((qBSc b0)>(8:Int))=true->∃(l:List (List Nat×Bool)),Ym qBSb (CkX.m a0)=Ym qBS9 l/\(qBS7 l)/\toL (qBSm b0)=Cls.name b0/\∃(x_3:CkX),c0 x_3/\x_3.2+qBSl<=a0.2/\true=true/\(qBSa x_3 d0 a0)/\(qBS3 l b0 x_3)/\True)/\(decide ((qBSc b0)>(8:Int))=false->Ex.sz (qBS4 b0)+qBSl<=(1000000000000:Nat)/\(decide (qBSi b0)=true->∃(l:List (List Nat×Bool)),Ym qBSb (CkX.m a0)=Ym qBS9 l/\(qBS7 l)/\toL (qBSm b0)=Cls.name b0/\∃(x_3:CkX),c0 x_3/\x_3.2+qBSl<=a0.2/\true=true/\(qBSa x_3 d0 a0)/\(qBS3 l b0 x_3)/\True)/\(decide (qBSi b0)=false->∃(l:List (List Nat×Bool)),Ym qBSb (CkX.m a0)=Ym qBS9 l/\(qBS7 l)/\toL (qBSm b0)=Cls.name b0/\∃(x_3:CkX),c0 x_3/\x_3.2+qBSl<=a0.2/\true=true/\(true=CkX.a x_3/\false=CkX.b x_3/\True/\(qBS6 d0)/\(qBS5 d0)=(qBS5 d0)/\wr IntKind.i64 ((qBSe a0)+qBSj)=(qBSe x_3)/\True)/\(qBS3 l b0 x_3)/\True)))
abbrev qBSd (a0:Bool) (b0:CkX) (c0:Tar) (d0:CkX):=(a0=CkX.a b0/\true=CkX.b b0/\True/\(qBS6 c0)/\(qBS5 c0)=(qBS5 c0)/\wr IntKind.i64 ((qBSe d0)+qBSj)=(qBSe b0)/\True)
abbrev qBS8 (a0:Cls):=(Cls.name a0=Cls.name a0/\(Cls.when_ a0=Cls.when_ a0/\qBSg)/\Ex.op (qBSp a0)=Ex.op (qBSp a0)/\Ex.n (qBSp a0)=Ex.n (qBSp a0)/\Ex.d0 (qBSp a0)=Ex.d0 (qBSp a0)/\Ex.d1 (qBSp a0)=Ex.d1 (qBSp a0)/\Ex.d2 (qBSp a0)=Ex.d2 (qBSp a0)/\Ex.d3 (qBSp a0)=Ex.d3 (qBSp a0)/\(Ex.l (qBSp a0)=Ex.l (qBSp a0)/\qBSg)/\True)
abbrev qBSf (a0:CkX) (b0:Cls) (c0:CkX->Prop) (d0:Tar):=(CkX.b a0=true->∃(l:List (List Nat×Bool)),Ym qBSb (CkX.m a0)=Ym qBS9 l/\(qBS7 l)/\toL (qBSm b0)=Cls.name b0/\∃(x_3:CkX),c0 x_3/\x_3.2+qBSl<=a0.2/\true=true/\(qBSa x_3 d0 a0)/\(qBS3 l b0 x_3)/\True)
abbrev qBSk (a0:CkX):=(Ym qBSb (CkX.m a0)=Ym qBSb (CkX.m a0)/\nidE (0:Nat) (Ym qBSb (CkX.m a0))=true)
abbrev qBSn (a0:DX):=(↑(DX.k a0):Int)
abbrev qBSo:=(0:Int)
abbrev qBS1 (a0:CkX) (b0:Tar) (c0:Int) (d0:CkX->Prop):=(decide ((qBSe a0)<(qBS5 b0))=true->qBSo<=(qBSe a0)/\(qBSe a0)+qBSj<=(qBS5 b0)/\∀(x_1:Cls),(Tar.clauses b0)[Int.toNat (qBSe a0)]? =some x_1->True/\((!Zee (Cls.name x_1))=true->qBSj=c0)/\((!Zee (Cls.name x_1))=false->Ex.sz (qBS4 x_1)+qBSl<=(1000000000000:Nat)/\((!Zq (qBS4 x_1))=true->qBSj=c0)/\((!Zq (qBS4 x_1))=false->∃(R_1:DX->Prop),(∃(x_2:DX),R_1 x_2/\true=true/\(CkX.a a0=CkX.a a0/\CkX.b a0=CkX.b a0/\True/\(0:Nat)=(0:Nat)/\(qBS6 b0)/\(qBS5 b0)=(qBS5 b0)/\(qBSe a0)=(qBSe a0)/\(Cls.when_ x_1=Cls.when_ x_1/\qBSg)/\(qBSc x_1)=(qBSc x_1)/\qBSo=(qBSn x_2)/\True)/\(qBS8 x_1)/\(qBSk a0)/\True)/\∀(x_2:DX),R_1 x_2->(decide ((qBSn x_2)<(qBSc x_1))=true->qBSo<=(qBSn x_2)/\(qBSn x_2)+qBSj<=(qBSc x_1)/\∀(x_3:Tst),(Cls.when_ x_1)[Int.toNat (qBSn x_2)]? =some x_3->∃(Q:Bool->Prop),((decide (Tst.attr x_3<qBSo)=true->Q true)/\(decide (Tst.attr x_3<qBSo)=false->(decide (Tst.attr x_3>=(16:Int))=true->Q true)/\(decide (Tst.attr x_3>=(16:Int))=false->(decide (mm2 false (Tst.low x_3) (Tst.high x_3)<qBSo)=true->Q true)/\(decide (mm2 false (Tst.low x_3) (Tst.high x_3)<qBSo)=false->(decide (mm2 true (Tst.low x_3) (Tst.high x_3)>(1099511627776:Int))=true->Q true)/\(decide (mm2 true (Tst.low x_3) (Tst.high x_3)>(1099511627776:Int))=false->Q false)))))/\(Q true->qBSj=c0)/\(Q false->∃(x_4:DX),R_1 x_4/\x_4.2+qBSl<=x_2.2/\true=true/\(CkX.a a0=CkX.a a0/\CkX.b a0=CkX.b a0/\True/\(0:Nat)=(0:Nat)/\(qBS6 b0)/\(qBS5 b0)=(qBS5 b0)/\(qBSe a0)=(qBSe a0)/\(Cls.when_ x_1=Cls.when_ x_1/\qBSg)/\(qBSc x_1)=(qBSc x_1)/\wr IntKind.i64 ((qBSn x_2)+qBSj)=(qBSn x_4)/\True)/\(qBS8 x_1)/\(qBSk a0)/\True))/\(decide ((qBSn x_2)<(qBSc x_1))=false->(CkX.a a0=true->(qBSf a0 x_1 d0 b0)/\(qBS2 a0 x_1 d0 b0))/\(CkX.a a0=false->True/\(resF (Cls.name x_1)=true->(qBSf a0 x_1 d0 b0)/\(qBS2 a0 x_1 d0 b0))/\(resF (Cls.name x_1)=false->∃(l:List (List Nat×Bool)),Ym qBSb (CkX.m a0)=Ym qBS9 l/\(qBS7 l)/\∀(y:Bool),y=Option.getD (Yy l (Cls.name x_1)) false->(CkX.b a0=true->∃(l:List (List Nat×Bool)),Ym qBSb (CkX.m a0)=Ym qBS9 l/\(qBS7 l)/\toL (qBSm x_1)=Cls.name x_1/\∃(x_3:CkX),d0 x_3/\x_3.2+qBSl<=a0.2/\true=true/\(qBSd y x_3 b0 a0)/\(qBS3 l x_1 x_3)/\True)/\(CkX.b a0=false->(decide ((qBSc x_1)>(8:Int))=true->∃(l:List (List Nat×Bool)),Ym qBSb (CkX.m a0)=Ym qBS9 l/\(qBS7 l)/\toL (qBSm x_1)=Cls.name x_1/\∃(x_3:CkX),d0 x_3/\x_3.2+qBSl<=a0.2/\true=true/\(qBSd y x_3 b0 a0)/\(qBS3 l x_1 x_3)/\True)/\(decide ((qBSc x_1)>(8:Int))=false->Ex.sz (qBS4 x_1)+qBSl<=(1000000000000:Nat)/\(decide (qBSi x_1)=true->∃(l:List (List Nat×Bool)),Ym qBSb (CkX.m a0)=Ym qBS9 l/\(qBS7 l)/\toL (qBSm x_1)=Cls.name x_1/\∃(x_3:CkX),d0 x_3/\x_3.2+qBSl<=a0.2/\true=true/\(qBSd y x_3 b0 a0)/\(qBS3 l x_1 x_3)/\True)/\(decide (qBSi x_1)=false->∃(l:List (List Nat×Bool)),Ym qBSb (CkX.m a0)=Ym qBS9 l/\(qBS7 l)/\toL (qBSm x_1)=Cls.name x_1/\∃(x_3:CkX),d0 x_3/\x_3.2+qBSl<=a0.2/\true=true/\(y=CkX.a x_3/\false=CkX.b x_3/\True/\(qBS6 b0)/\(qBS5 b0)=(qBS5 b0)/\wr IntKind.i64 ((qBSe a0)+qBSj)=(qBSe x_3)/\True)/\(qBS3 l x_1 x_3)/\True)))))))))
abbrev qBSh (a0:CkX) (b0:Tar) (c0:Int):=(decide ((qBSe a0)<(qBS5 b0))=false->(CkX.a a0=true->(161:Int)=c0)/\(CkX.a a0=false->(CkX.b a0=true->(2:Int)=c0)/\(CkX.b a0=false->qBSo=c0)))
theorem Z68 (t:Tar) (v:Int):Zk E Fck (vc E Fck 400) 13 [tarA t] hp0 0 (fun r=>ret E (patch hp0 0 r) r.v (.int false .i64 v))=(
 True/\((!Zee (Tar.name t))=true->qBSj=v)/\((!Zee (Tar.name t))=false->(decide (Tar.for_ t<qBSj)=true->qBSj=v)/\(decide (Tar.for_ t<qBSj)=false->(decide (Tar.for_ t>(6:Int))=true->qBSj=v)/\(decide (Tar.for_ t>(6:Int))=false->True/\(decide ((qBS5 t)>(64:Int))=true->∃(R:CkX->Prop),(∃(x:CkX),R x/\true=true/\(resF (Tar.name t)=CkX.a x/\true=CkX.b x/\True/\(qBS6 t)/\(qBS5 t)=(qBS5 t)/\qBSo=(qBSe x)/\True)/\([]=Ym qBSb (CkX.m x)/\true=true)/\True)/\∀(x:CkX),R x->(qBS1 x t v R)/\(qBSh x t v))/\(decide ((qBS5 t)>(64:Int))=false->∃(R:CkX->Prop),(∃(x:CkX),R x/\true=true/\(resF (Tar.name t)=CkX.a x/\false=CkX.b x/\True/\(qBS6 t)/\(qBS5 t)=(qBS5 t)/\qBSo=(qBSe x)/\True)/\([]=Ym qBSb (CkX.m x)/\true=true)/\True)/\∀(x:CkX),R x->(qBS1 x t v R)/\(qBSh x t v)))))):=by kernel_rfl
theorem Z69 {g:GH} {t:Tar} {u:Value} (h:Den E σ0 g (tarA t) u):Byt t.name/\∀c∈t.clauses,Byt c.name:=by
 obtain ⟨arr,c,rfl,hs,hc,hd⟩:=Z0 h
 refine ⟨Zo0 (hd 0 _ rfl),fun x hx=> ?_⟩
 have h2:=hd 2 (.psl Th.clauses t.clauses false) rfl
 obtain ⟨v,hv⟩:=Z3v h2 x hx 0 (.str false x.name) rfl
 exact Zo0 hv
theorem Zi2 (a b:Bool) (m:List (List Nat×Bool)) (c:Cls) (r:List Cls):goC a b m (c::r)=if Un c=true then goC (a||resF c.name||(Yy m c.name).getD false) (b||decide (8<c.when_.length)||decide (24<Z6 c.pay)) (putS m c.name true) r else 1:=rfl
theorem Zqs {l:List Tst} {k:Nat} {w:Tst} (h:l[k]? =some w):(l.drop k).all Yc=(Yc w&&(l.drop (k+1)).all Yc):=by rw [Zb1 h,List.all_cons]
theorem Zi3 {β:Type}:∀{m:List (List Nat×β)} {a:List Nat} {v:β},(∀p∈m,Byt p.1)->Byt a->∀p∈putS m a v,Byt p.1
 | [],a,v,_,ha,p,hp=>by
  rw [putS] at hp
  obtain rfl:=List.mem_singleton.1 hp
  exact ha
 |q::m,a,v,hm,ha,p,hp=>by
  rw [putS] at hp
  split at hp
  · rcases List.mem_cons.1 hp with rfl|hp
    · exact hm q (List.mem_cons_self ..)
    · exact hm p (List.mem_cons_of_mem _ hp)
  · rcases List.mem_cons.1 hp with rfl|hp
    · exact hm _ (List.mem_cons_self ..)
    · exact Zi3 (fun q hq=>hm q (List.mem_cons_of_mem _ hq)) ha p hp
theorem Zty (t:Tar) (hsz:∀ c∈t.clauses,c.pay.sz<1000000000000/\c.when_.length<1000000000000) (hl:t.clauses.length<1000000000000):PureC E 13 [tarA t] (.int false .i64 (Y2 t)):=by
  refine Z7r (j:=0) rfl (fun g u h=>Z69 h) fun hby=>Za E_ok (Ze E_ok Z9h 400) ?_
  rw [Z68]; delta qBS7 qBSm qBSb qBS9 qBS3 qBSp qBS4 qBSi qBSj qBSe qBS5 qBSl qBSg qBS6 qBSa qBSc qBS2 qBSd qBS8 qBSf qBSk qBSn qBSo qBS1 qBSh
  simp only [Xb,Yo,V6,V7,V8,beq_iff_eq,bne_iff_ne,beq_eq_false_iff_ne,bne_eq_false_iff_eq,decide_eq_true_eq,decide_eq_false_iff_not,Bool.or_eq_true,Bool.or_eq_false_iff,Bool.not_eq_true',Bool.not_eq_false',Bool.and_eq_true,Bool.and_true,Bool.true_and,Bool.and_eq_false_iff,beq_self_eq_true,Yl,Y4,ne_eq,and_true,true_and,Bool.true_eq_false,Bool.false_eq_true,false_or,or_false,true_implies,imp_self,Int.ofNat_eq_natCast,not_true_eq_false,not_false_eq_true,Decidable.not_not,Ex.eta]
  unfold Y2
  refine And.intro (fun h1=>?_) (fun h1=>And.intro (fun h2=>?_) (fun h2=>And.intro (fun h3=>?_) (fun h3=>?_)))
  · rw [if_neg (by rw [h1]; simp)]
  · rw [if_neg (by omega)]
  · rw [if_neg (by omega)]
  · rw [if_pos ⟨h1,by omega,by omega⟩]
    refine And.intro (fun h4=>?_) (fun h4=>?_)
    · rw [decide_eq_true (show 64<t.clauses.length by omega)]
      refine ⟨fun x=>x.k<=t.clauses.length/\(∀ p∈x.m,Byt p.1)/\goC x.a x.b x.m (t.clauses.drop x.k)=goC (resF t.name) true [] t.clauses/\x.r=t.clauses.length - x.k,⟨⟨0,t.clauses.length,resF t.name,true,[]⟩,⟨(by dsimp only; omega),by simp,rfl,rfl⟩,⟨rfl,rfl,rfl⟩,rfl⟩,?_⟩
      rintro x ⟨hk,hm,hv,hr⟩
      refine And.intro (fun hq=>⟨by omega,by omega,fun c hc=>?_⟩) (fun hq=>?_)
      · have hc:t.clauses[x.k]?=some c:=hc
        rw [Zb1 hc,Zi2] at hv
        have hcm:=List.mem_of_getElem? hc
        obtain ⟨hs1,hs2⟩:=hsz c hcm
        have hcb:=hby.2 c hcm
        refine And.intro (fun h5=>?_) (fun h5=>⟨by omega,fun h6=>?_,fun h6=>?_⟩)
        · rw [← hv,if_neg (by unfold Un; rw [h5]; simp)]
        · rw [← hv,if_neg (by unfold Un; rw [h6]; simp)]
        refine ⟨fun y=>y.k<=c.when_.length/\(c.when_.drop y.k).all Yc=c.when_.all Yc/\y.r=c.when_.length - y.k,⟨⟨0,c.when_.length,[],[],0,0,0,0⟩,⟨(by dsimp only; omega),rfl,rfl⟩,rfl,Xw E_ok _⟩,?_⟩
        rintro y ⟨hk2,hv2,hr2⟩
        refine And.intro (fun hq2=>⟨by omega,by omega,fun w hw=>?_⟩) (fun hq2=>?_)
        · have hw:c.when_[y.k]?=some w:=hw
          rw [Zqs hw] at hv2
          have hT:Yc w=decide (0<=w.attr/\w.attr<16/\0<=w.low/\w.low<=1099511627776/\0<=w.high/\w.high<=1099511627776):=rfl
          refine ⟨fun b=>b=true ↔ Yc w=false,?_,fun hQ=>?_,fun hQ=>?_⟩
          · have q1:(¬ (0<=w.attr/\w.attr<16/\0<=w.low/\w.low<=1099511627776/\0<=w.high/\w.high<=1099511627776))->((true=true) ↔ Yc w=false):=fun h=>by rw [hT,decide_eq_false h]; simp
            have q2:(0<=w.attr/\w.attr<16/\0<=w.low/\w.low<=1099511627776/\0<=w.high/\w.high<=1099511627776)->((false=true) ↔ Yc w=false):=fun h=>by rw [hT,decide_eq_true h]; simp
            refine And.intro (fun a1=>q1 (by omega)) (fun a1=>And.intro (fun a2=>q1 (by omega)) (fun a2=>And.intro (fun a3=>q1 (by omega)) (fun a3=>And.intro (fun a4=>q1 (by omega)) (fun a4=>q2 (by omega)))))
          · have hQ:=hQ.1 rfl
            rw [hQ,Bool.false_and] at hv2
            rw [← hv,if_neg (by unfold Un; rw [← hv2]; simp)]
          · have hQ:Yc w=true:=by
              cases hh:Yc w with
              | true=>rfl
              | false=>have:=hQ.2 hh; simp at this
            rw [hQ,Bool.true_and] at hv2
            exact ⟨⟨y.k+1,c.when_.length - (y.k+1),[],[],0,0,0,0⟩,⟨(by dsimp only; omega),hv2,rfl⟩,by show c.when_.length - (y.k+1)+1<=y.r; omega,wr64 (by omega) (by omega),Xw E_ok _⟩
        · rw [Vs (by omega)] at hv2
          have hok:Un c=true:=by unfold Un; rw [h5,h6,← hv2]; rfl
          rw [if_pos hok] at hv
          clear hv2 hr2 hq2 hk2 hok
          repeat' (first | (refine And.intro ?_ ?_) | (refine ⟨x.m,rfl,hm,?_⟩) | (rintro _ rfl) | (intro h))
          all_goals first
            | omega
            | exact hcb
            | (refine ⟨⟨x.k+1,t.clauses.length - (x.k+1),_,_,putS x.m c.name true⟩,⟨(by dsimp only; omega),Zi3 hm hcb,?_,rfl⟩,(by dsimp only; omega),⟨rfl,rfl,wr64 (by omega) (by omega)⟩,rfl,Xw E_ok _⟩
               rw [← hv]
               dsimp only
               congr 1
               · first | (simp only [*,Bool.or_true,Bool.true_or,Bool.false_or,Bool.or_false]; done) | (simp only [*,Bool.or_true,Bool.true_or,Bool.false_or,Bool.or_false]; rfl)
               · first | (simp only [*,Bool.or_true,Bool.true_or,Bool.false_or,Bool.or_false]; done) | (simp only [*,Bool.or_true,Bool.true_or,Bool.false_or,Bool.or_false]; symm; simp only [Bool.or_eq_true,Bool.or_eq_false_iff,decide_eq_true_eq,decide_eq_false_iff_not]; omega))
      · rw [Vs (by omega)] at hv
        rw [← hv]
        unfold goC
        refine And.intro (fun a1=>by rw [if_pos a1]) (fun a1=>And.intro (fun a2=>by rw [if_neg (by rw [a1]; simp),if_pos a2]) (fun a2=>by rw [if_neg (by rw [a1]; simp),if_neg (by rw [a2]; simp)]))
    · rw [decide_eq_false (show ¬ 64<t.clauses.length by omega)]
      refine ⟨fun x=>x.k<=t.clauses.length/\(∀ p∈x.m,Byt p.1)/\goC x.a x.b x.m (t.clauses.drop x.k)=goC (resF t.name) false [] t.clauses/\x.r=t.clauses.length - x.k,⟨⟨0,t.clauses.length,resF t.name,false,[]⟩,⟨(by dsimp only; omega),by simp,rfl,rfl⟩,⟨rfl,rfl,rfl⟩,rfl⟩,?_⟩
      rintro x ⟨hk,hm,hv,hr⟩
      refine And.intro (fun hq=>⟨by omega,by omega,fun c hc=>?_⟩) (fun hq=>?_)
      · have hc:t.clauses[x.k]?=some c:=hc
        rw [Zb1 hc,Zi2] at hv
        have hcm:=List.mem_of_getElem? hc
        obtain ⟨hs1,hs2⟩:=hsz c hcm
        have hcb:=hby.2 c hcm
        refine And.intro (fun h5=>?_) (fun h5=>⟨by omega,fun h6=>?_,fun h6=>?_⟩)
        · rw [← hv,if_neg (by unfold Un; rw [h5]; simp)]
        · rw [← hv,if_neg (by unfold Un; rw [h6]; simp)]
        refine ⟨fun y=>y.k<=c.when_.length/\(c.when_.drop y.k).all Yc=c.when_.all Yc/\y.r=c.when_.length - y.k,⟨⟨0,c.when_.length,[],[],0,0,0,0⟩,⟨(by dsimp only; omega),rfl,rfl⟩,rfl,Xw E_ok _⟩,?_⟩
        rintro y ⟨hk2,hv2,hr2⟩
        refine And.intro (fun hq2=>⟨by omega,by omega,fun w hw=>?_⟩) (fun hq2=>?_)
        · have hw:c.when_[y.k]?=some w:=hw
          rw [Zqs hw] at hv2
          have hT:Yc w=decide (0<=w.attr/\w.attr<16/\0<=w.low/\w.low<=1099511627776/\0<=w.high/\w.high<=1099511627776):=rfl
          refine ⟨fun b=>b=true ↔ Yc w=false,?_,fun hQ=>?_,fun hQ=>?_⟩
          · have q1:(¬ (0<=w.attr/\w.attr<16/\0<=w.low/\w.low<=1099511627776/\0<=w.high/\w.high<=1099511627776))->((true=true) ↔ Yc w=false):=fun h=>by rw [hT,decide_eq_false h]; simp
            have q2:(0<=w.attr/\w.attr<16/\0<=w.low/\w.low<=1099511627776/\0<=w.high/\w.high<=1099511627776)->((false=true) ↔ Yc w=false):=fun h=>by rw [hT,decide_eq_true h]; simp
            refine And.intro (fun a1=>q1 (by omega)) (fun a1=>And.intro (fun a2=>q1 (by omega)) (fun a2=>And.intro (fun a3=>q1 (by omega)) (fun a3=>And.intro (fun a4=>q1 (by omega)) (fun a4=>q2 (by omega)))))
          · have hQ:=hQ.1 rfl
            rw [hQ,Bool.false_and] at hv2
            rw [← hv,if_neg (by unfold Un; rw [← hv2]; simp)]
          · have hQ:Yc w=true:=by
              cases hh:Yc w with
              | true=>rfl
              | false=>have:=hQ.2 hh; simp at this
            rw [hQ,Bool.true_and] at hv2
            exact ⟨⟨y.k+1,c.when_.length - (y.k+1),[],[],0,0,0,0⟩,⟨(by dsimp only; omega),hv2,rfl⟩,by show c.when_.length - (y.k+1)+1<=y.r; omega,wr64 (by omega) (by omega),Xw E_ok _⟩
        · rw [Vs (by omega)] at hv2
          have hok:Un c=true:=by unfold Un; rw [h5,h6,← hv2]; rfl
          rw [if_pos hok] at hv
          clear hv2 hr2 hq2 hk2 hok
          repeat' (first | (refine And.intro ?_ ?_) | (refine ⟨x.m,rfl,hm,?_⟩) | (rintro _ rfl) | (intro h))
          all_goals first
            | omega
            | exact hcb
            | (refine ⟨⟨x.k+1,t.clauses.length - (x.k+1),_,_,putS x.m c.name true⟩,⟨(by dsimp only; omega),Zi3 hm hcb,?_,rfl⟩,(by dsimp only; omega),⟨rfl,rfl,wr64 (by omega) (by omega)⟩,rfl,Xw E_ok _⟩
               rw [← hv]
               dsimp only
               congr 1
               · first | (simp only [*,Bool.or_true,Bool.true_or,Bool.false_or,Bool.or_false]; done) | (simp only [*,Bool.or_true,Bool.true_or,Bool.false_or,Bool.or_false]; rfl)
               · first | (simp only [*,Bool.or_true,Bool.true_or,Bool.false_or,Bool.or_false]; done) | (simp only [*,Bool.or_true,Bool.true_or,Bool.false_or,Bool.or_false]; symm; simp only [Bool.or_eq_true,Bool.or_eq_false_iff,decide_eq_true_eq,decide_eq_false_iff_not]; omega))
      · rw [Vs (by omega)] at hv
        rw [← hv]
        unfold goC
        refine And.intro (fun a1=>by rw [if_pos a1]) (fun a1=>And.intro (fun a2=>by rw [if_neg (by rw [a1]; simp),if_pos a2]) (fun a2=>by rw [if_neg (by rw [a1]; simp),if_neg (by rw [a2]; simp)]))
end
section
open Go
def dCl:Dc E Cls:=(dR .clauses:Dc E (thy.dom Th.clauses))
def dCls:Dc E (List Cls):=(Zrl (E:=E) Th.clauses:Dc E (List (thy.dom Th.clauses)))
def Z8l:Sum thy:=sumM (mI (dA1 dN) (n1 fun _=>rfl) dTs (fun _=>rfl)) (fun _ _=>True) fun x a=>Za3 a.1 x.1 x.2.1
theorem Z08:SumOk E 133 Z8l:=Xg E_ok (Zc rfl) fun x a _=>Z1m x.1 x.2.1 a.1
def Aif:Fr thy->Hp thy->Nat->Ann thy:=fun T h i=>{X:=LX,fr:=fun x=> [(0,T 0),(1,T 1),(7,T 7),(8,.int false .i64 x.k)],bl:=fun x=>(match T 1 with| .fn _ _ [v]=>blkP h v|_=> []),src:=fun _=> [],md:= [],ih:=i,M:=i+30,meas:=fun x=>x.r}
structure TX where
 ts:List Tst
 l:List Tok
 ed:Int
 more:Bool
 k:Nat
def cellsOf (h:Hp thy) (v:SV thy):List (SV thy):=match h (bOf v) with|some (.raw cs _ _)=>cs|_=> []
def Atl:Fr thy->Hp thy->Nat->Ann thy:=fun T h i=>{X:=Bool×TX,fr:=fun x=> [(0,T 0),(4,T 4),(5,T 5),(6,T 6),(7,.bool false x.2.more)],bl:=fun x=>(bOf (T 0),.raw [.psl Th.toks x.2.l false,.int false .i64 x.2.ed] 0 none)::(bOf (T 6),.raw ((cellsOf h (T 6)).take 1++((match x.1 with|true=> .sl i 0 x.2.ts.length 3 none|false=> .val (.slice none 0 0))::(cellsOf h (T 6)).drop 2)) 0 none)::((match x.1 with|true=> [(i,.rows Th.tests x.2.ts 0)]|false=> [])++blkP h (T 4)),src:=fun x=>(match x.1 with|true=> [(i,2006)]|false=> []),md:= [bOf (T 0),bOf (T 6)],ih:=i+1,M:=i+60,meas:=fun x=>x.2.k,ex:=ex2,al:=al2,exOk:=Zp0,alOk:=Zp1}
def Fcl:Fns thy:=addL (addL (addS (addS (addS (addS Fme 88 Z1i) 133 Z8l) 134 Sx) 31 Zi1) 166 2 Aif E) 90 6 Atl E
theorem Z8m:FnsOk E Fcl:=Z5 E_ok (Z5 E_ok (Zb (Zb (Zb (Zb Ze1 Zpw) Z08) Ybd) Zfp) _ _ _) _ _ _
def pTs:Nat->Bool->List Tst->List Tok->Int->PR (List Tst)
 |0,_,ts,l,e=> .ok (ts,l,e,())
 |k+1,more,ts,l,e=>
  if more then
   match Za3 ts.length l e with
   | .error er=> .error er
   | .ok (t,x)=>pTs k (isW [97,110,100] x.1) (ts++ [t]) (if isW [97,110,100] x.1 then x.1.tail else x.1) x.2.1
  else .ok (ts,l,e,())
def pPay (nm:List Nat) (ts:List Tst) (l:List Tok) (e:Int):PR Cls:=
 if isW [112,97,121] l then
  match pX l.tail e with
  | .error er=> .error er
  | .ok (x,y)=>
   if 24<Z6 x then .error (hdT e l.tail,2)
   else if isW [59] y.1 then .ok (⟨nm,ts,x⟩,y.1.tail,y.2.1,()) else .error (hdT y.2.1 y.1,160)
 else .error (hdT e l,160)
def pAft (nm:List Nat) (r:PR (List Tst)):PR Cls:=
 match r with
 | .error er=> .error er
 | .ok (ts,y)=>pPay nm ts y.1 y.2.1
def Xm (bs:List Cls) (l:List Tok) (e:Int):PR Cls:=
 match Zep l e with
 | .error er=> .error er
 | .ok (nm,x)=>
  if bs.any (fun b=>b.name==nm) then .error (hdT e l,161)
  else pAft nm (pTs 10 (isW [119,104,101,110] x.1) [] (if isW [119,104,101,110] x.1 then x.1.tail else x.1) x.2.1)
theorem Zer {l:List Tok} {e:Int} {y:List Nat} {x:PX} (h:Zep l e= .ok (y,x)):x.1.length<l.length:=by
 unfold Zep at h
 split at h
 · cases h
 · split at h
   · split at h
     · cases h
     · injection h with h
       injection h with _ h
       subst h
       exact Nat.lt_succ_self _
   · cases h
theorem Zia {l:List Tok} {e:Int} {y:Int} {x:PX} (h:pInt l e= .ok (y,x)):x.1.length<l.length:=by
 unfold pInt at h
 split at h
 · cases h
 · split at h
   · injection h with h
     injection h with _ h
     subst h
     exact Nat.lt_succ_self _
   · cases h
theorem Zwd {s:List Nat} {l:List Tok}:(if isW s l=true then l.tail else l).length<=l.length:=by
 split
 · have:=Zz (by assumption);omega
 · exact Nat.le_refl _
theorem Zes {n:Int} {l:List Tok} {e:Int} {y:Tst} {x:PX} (h:Za3 n l e= .ok (y,x)):x.1.length<l.length/\n≠8:=by
 unfold Za3 at h
 split at h
 · cases h
 · rename_i a x0 hm
   obtain ⟨h1,_,rfl⟩:=Zbv hm
   have hp:=Zaz h1
   split at h
   · cases h
   · rename_i hn
     refine ⟨?_,hn⟩
     split at h
     · rename_i hw
       have hw:=Zz hw
       split at h
       · cases h
       · rename_i m x1 hi
         have hi:=Zia hi
         injection h with h
         injection h with _ h
         subst h
         have hw:l.tail.tail.length+1=l.tail.length:=hw
         have hi:x1.1.length<l.tail.tail.length:=hi
         omega
     · split at h
       · rename_i hw
         have hw:=Zz hw
         split at h
         · cases h
         · rename_i m x1 hi
           have hi:=Zia hi
           have hw:l.tail.tail.length+1=l.tail.length:=hw
           have hi:x1.1.length<l.tail.tail.length:=hi
           split at h
           · rename_i hw2
             have hw2:=Zz hw2
             split at h
             · cases h
             · rename_i k x2 hi2
               have hi2:=Zia hi2
               injection h with h
               injection h with _ h
               subst h
               omega
           · cases h
       · cases h
abbrev qBTc (a0:TX) (b0:PR Cls):=(isW [(112:Nat),(97:Nat),(121:Nat)] (TX.l a0)=false->b0=Except.error (hdT (TX.ed a0) (TX.l a0),(160:Int)))
abbrev qBT6:=(0:Nat)
abbrev qBTi (a0:TX):=(List.tail (TX.l a0))
abbrev qBT7:=(0:Int)
abbrev qBT3 (a0:List Nat):=(a0=a0/\Value.slice none qBT6 qBT6=Value.slice none qBT6 qBT6/\qBT7=qBT7/\qBT7=qBT7/\qBT7=qBT7/\qBT7=qBT7/\qBT7=qBT7/\qBT7=qBT7/\Value.slice none qBT6 qBT6=Value.slice none qBT6 qBT6/\True)
abbrev qBT2:=(([]:List Nat)= []/\Value.slice none qBT6 qBT6=Value.slice none qBT6 qBT6/\qBT7=qBT7/\qBT7=qBT7/\qBT7=qBT7/\qBT7=qBT7/\qBT7=qBT7/\qBT7=qBT7/\Value.slice none qBT6 qBT6=Value.slice none qBT6 qBT6/\True)
abbrev qBT9 (a0:Int) (b0:Bool) (c0:TX):=(qBT6=qBT6/\qBT6=qBT6/\a0=a0/\qBT6=qBT6/\b0=TX.more c0/\True)
abbrev qBTh:=(false=true->false=true)
abbrev qBT8 (a0:PX) (b0:TX):=((Prod.fst a0=TX.l b0/\qBTh)/\Prod.fst (Prod.snd a0)=TX.ed b0/\True)
abbrev qBT5 (a0:Bool×TX->Prop) (b0:TX) (c0:Int) (d0:Bool) (e0:PX) (f0:List Nat):=(∃(y_6:TX),a0 (false,y_6)/\y_6.5+(1:Nat)<=b0.5/\true=true/\(qBT9 c0 d0 y_6)/\(qBT8 e0 y_6)/\(f0=f0/\False/\qBT7=qBT7/\qBT7=qBT7/\qBT7=qBT7/\qBT7=qBT7/\qBT7=qBT7/\qBT7=qBT7/\Value.slice none qBT6 qBT6=Value.slice none qBT6 qBT6/\True)/\qBT2/\True)
abbrev qBTa (a0:PX):=(Prod.fst (Prod.snd a0))
abbrev qBT4 (a0:Ex):=(Ex.mk (Ex.op a0) (Ex.n a0) (Ex.d0 a0) (Ex.d1 a0) (Ex.d2 a0) (Ex.d3 a0) (Ex.l a0))
abbrev qBTg (a0:PX) (b0:PR Cls):=(isW [(59:Nat)] (Prod.fst a0)=false->b0=Except.error (hdT (qBTa a0) (Prod.fst a0),(160:Int)))
abbrev qBTb (a0:Ex):=((↑(Z6 (qBT4 a0)):Int)>(24:Int))
abbrev qBT1 (a0:PX) (b0:Int) (c0:List Nat) (d0:PR Cls):=(∀(y_2:Bool) (x'_1:PX),pAcc [(119:Nat),(104:Nat),(101:Nat),(110:Nat)] (Prod.fst a0) (qBTa a0)=Except.ok (y_2,x'_1)->∃(R:Bool×TX->Prop),((∃(y_3:TX),R (false,y_3)/\true=true/\(qBT9 b0 y_2 y_3)/\(qBT8 x'_1 y_3)/\(qBT3 c0)/\qBT2/\True)\/∃(b0:TX),R (true,b0)/\true=true/\False)/\(∀(y_3:TX),R (false,y_3)->(TX.more y_3=true->True/\(∀(y_4:Tst) (a0:PX),Za3 qBT7 (TX.l y_3) (TX.ed y_3)=Except.ok (y_4,a0)->True/\(∀(y_5:Bool) (x'_2:PX),pAcc [(97:Nat),(110:Nat),(100:Nat)] (Prod.fst a0) (qBTa a0)=Except.ok (y_5,x'_2)->(qBT5 R y_3 b0 y_5 x'_2 c0)\/∃(y_6:TX),R (true,y_6)/\y_6.5+(1:Nat)<=y_3.5/\true=true/\(qBT9 b0 y_5 y_6)/\(qBT8 x'_2 y_6)/\(c0=c0/\(qBT6=qBT6/\(1:Nat)=List.length (TX.ts y_6)/\True)/\qBT7=qBT7/\qBT7=qBT7/\qBT7=qBT7/\qBT7=qBT7/\qBT7=qBT7/\qBT7=qBT7/\Value.slice none qBT6 qBT6=Value.slice none qBT6 qBT6/\True)/\([y_4]=TX.ts y_6/\qBT6=qBT6)/\qBT2/\True)/\∀(e:Int×Int),pAcc [(97:Nat),(110:Nat),(100:Nat)] (Prod.fst a0) (qBTa a0)=Except.error e->d0=Except.error e)/\∀(e:Int×Int),Za3 qBT7 (TX.l y_3) (TX.ed y_3)=Except.error e->d0=Except.error e)/\(TX.more y_3=false->(isW [(112:Nat),(97:Nat),(121:Nat)] (TX.l y_3)=true->∀(b0:Int),b0=hdT (TX.ed y_3) (qBTi y_3)->True/\(∀(y_4:Ex) (a0:PX),pX (qBTi y_3) (TX.ed y_3)=Except.ok (y_4,a0)->Ex.sz (qBT4 y_4)+(1:Nat)<=(1000000000000:Nat)/\(decide (qBTb y_4)=true->d0=Except.error (b0,(2:Int)))/\(decide (qBTb y_4)=false->(isW [(59:Nat)] (Prod.fst a0)=true->d0=Except.ok (Cls.mk c0 [] (qBT4 y_4),List.tail (Prod.fst a0),Prod.fst (Prod.snd a0),()))/\(qBTg a0 d0)))/\∀(e:Int×Int),pX (qBTi y_3) (TX.ed y_3)=Except.error e->d0=Except.error e)/\(qBTc y_3 d0)))/\∀(y_3:TX),R (true,y_3)->(TX.more y_3=true->True/\(∀(y_4:Tst) (a0:PX),Za3 (↑(List.length (TX.ts y_3)):Int) (TX.l y_3) (TX.ed y_3)=Except.ok (y_4,a0)->(List.length (TX.ts y_3)<=List.length (TX.ts y_3)/\qBT6<=List.length (TX.ts y_3)/\(List.length (TX.ts y_3)+(1:Nat))*(24:Nat)<=(140737488355328:Nat))/\True/\(∀(y_5:Bool) (x'_2:PX),pAcc [(97:Nat),(110:Nat),(100:Nat)] (Prod.fst a0) (qBTa a0)=Except.ok (y_5,x'_2)->(qBT5 R y_3 b0 y_5 x'_2 c0)\/∃(y_6:TX),R (true,y_6)/\y_6.5+(1:Nat)<=y_3.5/\true=true/\(qBT9 b0 y_5 y_6)/\(qBT8 x'_2 y_6)/\(c0=c0/\(qBT6=qBT6/\List.length (TX.ts y_3)+(1:Nat)=List.length (TX.ts y_6)/\True)/\qBT7=qBT7/\qBT7=qBT7/\qBT7=qBT7/\qBT7=qBT7/\qBT7=qBT7/\qBT7=qBT7/\Value.slice none qBT6 qBT6=Value.slice none qBT6 qBT6/\True)/\(List.take (List.length (TX.ts y_3)) (TX.ts y_3)++ [y_4]=TX.ts y_6/\qBT6=qBT6)/\qBT2/\True)/\∀(e:Int×Int),pAcc [(97:Nat),(110:Nat),(100:Nat)] (Prod.fst a0) (qBTa a0)=Except.error e->d0=Except.error e)/\∀(e:Int×Int),Za3 (↑(List.length (TX.ts y_3)):Int) (TX.l y_3) (TX.ed y_3)=Except.error e->d0=Except.error e)/\(TX.more y_3=false->(isW [(112:Nat),(97:Nat),(121:Nat)] (TX.l y_3)=true->∀(b0:Int),b0=hdT (TX.ed y_3) (qBTi y_3)->True/\(∀(y_4:Ex) (a0:PX),pX (qBTi y_3) (TX.ed y_3)=Except.ok (y_4,a0)->Ex.sz (qBT4 y_4)+(1:Nat)<=(1000000000000:Nat)/\(decide (qBTb y_4)=true->d0=Except.error (b0,(2:Int)))/\(decide (qBTb y_4)=false->(isW [(59:Nat)] (Prod.fst a0)=true->qBT6+List.length (TX.ts y_3)<=List.length (TX.ts y_3)/\d0=Except.ok (Cls.mk c0 (List.take (List.length (TX.ts y_3)) (List.drop qBT6 (TX.ts y_3))) (qBT4 y_4),List.tail (Prod.fst a0),Prod.fst (Prod.snd a0),()))/\(qBTg a0 d0)))/\∀(e:Int×Int),pX (qBTi y_3) (TX.ed y_3)=Except.error e->d0=Except.error e)/\(qBTc y_3 d0)))
abbrev qBTd (a0:List Cls):=(↑(List.length a0):Int)
abbrev qBTe:=(Fn.func (132:Nat)=Fn.func (132:Nat)/\True/\qBT6=qBT6/\True)
abbrev qBTf (a0:LX):=(↑(LX.k a0):Int)
theorem Znd (l:List Tok) (e:Int) (bs:List Cls) (out:PR Cls):Zk E Fcl (vc E Fcl 400) 90 [.ptr 0 0,.psl Th.clauses bs false] (one [.psl Th.toks l false,.int false .i64 e]) 1 (mK (dA1 dCls) (n1 fun _=>rfl) dCl (fun _=>rfl) l e out)=(
 ∀(y:Int),y=hdT e l->True/\(∀(y_1:List Nat) (x':PX),Zep l e=Except.ok (y_1,x')->∃(R:LX->Prop),(∃(x:LX),R x/\true=true/\((bs=bs/\qBTh)/\qBTe/\(qBTd bs)=(qBTd bs)/\qBT7=(qBTf x)/\True)/\(qBT3 y_1)/\True)/\∀(x:LX),R x->(decide ((qBTf x)<(qBTd bs))=true->qBT7<=(qBTf x)/\(qBTf x)+(1:Int)<=(qBTd bs)/\∀(x_1:Cls),bs[Int.toNat (qBTf x)]? =some x_1->((Cls.name x_1==y_1)=true->(decide ((qBTf x)>=qBT7)=true->out=Except.error (y,(161:Int)))/\(decide ((qBTf x)>=qBT7)=false->True/\(qBT1 x' y y_1 out)/\∀(e:Int×Int),pAcc [(119:Nat),(104:Nat),(101:Nat),(110:Nat)] (Prod.fst x') (qBTa x')=Except.error e->out=Except.error e))/\((Cls.name x_1==y_1)=false->∃(x_2:LX),R x_2/\x_2.2+(1:Nat)<=x.2/\true=true/\((bs=bs/\qBTh)/\qBTe/\(qBTd bs)=(qBTd bs)/\wr IntKind.i64 ((qBTf x)+(1:Int))=(qBTf x_2)/\True)/\(qBT3 y_1)/\True))/\(decide ((qBTf x)<(qBTd bs))=false->True/\(qBT1 x' y y_1 out)/\∀(e:Int×Int),pAcc [(119:Nat),(104:Nat),(101:Nat),(110:Nat)] (Prod.fst x') (qBTa x')=Except.error e->out=Except.error e))/\∀(e_1:Int×Int),Zep l e=Except.error e_1->out=Except.error e_1):=by kernel_rfl
theorem Zr4 (bs:List Cls) (l:List Tok) (e:Int) (hl:l.length<1000000000) (hb:bs.length<=1000000000):Wm (mI (dA1 dCls) (n1 fun _=>rfl) dCl (fun _=>rfl)) 90 (l,e,()) (bs,()) (Xm bs l e):=by
 refine V1 Z8m (n:=400) (a:=(bs,())) ?_
 rw [show (dA1 dCls).enc (bs,())= [.psl Th.clauses bs false] from rfl,Znd];delta qBTc qBT6 qBTi qBT7 qBT3 qBT2 qBT9 qBTh qBT8 qBT5 qBTa qBT4 qBTg qBTb qBT1 qBTd qBTe qBTf
 intro y0 hy0
 subst hy0
 refine ⟨trivial,fun nm x h1=> ?_,fun er h1=>by simp [Xm,h1]⟩
 have hx:=Zer h1
 refine ⟨fun z=>z.k<=bs.length/\(bs.drop z.k).any (fun b=>b.name==nm)=bs.any (fun b=>b.name==nm)/\z.r=bs.length-z.k,⟨⟨0,bs.length,[],0⟩,⟨(by dsimp only;omega),rfl,rfl⟩,by simp⟩,?_⟩
 rintro z ⟨hk,hv,hr⟩
 refine ⟨fun hq=> ?_,fun hq=>⟨trivial,fun more x1 h2=> ?_,fun er h2=>by cases h2⟩⟩
 · have hq:(z.k:Int)<bs.length:=by simpa using hq
   refine ⟨by omega,by omega,fun c hc=> ?_⟩
   have hc:bs[z.k]? =some c:=hc
   have hlt:=(gA9.1 hc).1
   have hce:bs[z.k]=c:=(gA9.1 hc).2
   rw [List.drop_eq_getElem_cons hlt,hce,List.any_cons] at hv
   refine ⟨fun hn=>⟨fun _=> ?_,fun hneg=>absurd hneg (by rw [decide_eq_false_iff_not];omega)⟩,fun hn=> ?_⟩
   · rw [hn,Bool.true_or] at hv
     simp [Xm,h1,<-hv]
   · rw [hn,Bool.false_or] at hv
     exact ⟨⟨z.k+1,bs.length-(z.k+1),[],0⟩,⟨(by dsimp only;omega),hv,rfl⟩,(by show bs.length-(z.k+1)+1<=z.r;omega),rfl,⟨⟨rfl,fun h=>h⟩,⟨rfl,trivial,rfl,trivial⟩,rfl,wr64 (by omega) (by omega),trivial⟩,⟨rfl,rfl,rfl,rfl,rfl,rfl,rfl,rfl,rfl,trivial⟩,trivial⟩
 · have hq:¬(z.k:Int)<bs.length:=by simpa using hq
   rw [List.drop_eq_nil_of_le (by omega),List.any_nil] at hv
   unfold pAcc at h2
   injection h2 with h2
   injection h2 with e1 e2
   subst e1;subst e2
   have hout:Xm bs l e=pAft nm (pTs 10 (isW [119,104,101,110] x.1) [] (if isW [119,104,101,110] x.1 then x.1.tail else x.1) x.2.1):=by simp [Xm,h1,<-hv]
   rw [hout]
   clear hv hk hr hq
   have hif:=Zwd (s:= [119,104,101,110]) (l:=x.1)
   generalize hO:pAft nm (pTs 10 (isW [119,104,101,110] x.1) [] (if isW [119,104,101,110] x.1 then x.1.tail else x.1) x.2.1)=OUT at hout⊢
   refine ⟨fun p=>pAft nm (pTs p.2.k p.2.more p.2.ts p.2.l p.2.ed)=OUT/\p.2.ts.length+p.2.k=10/\p.2.ts.length<=8/\p.2.l.length<1000000000/\(p.1=false->p.2.ts= []),.inl ⟨⟨[],if isW [119,104,101,110] x.1 then x.1.tail else x.1,x.2.1,isW [119,104,101,110] x.1,10⟩,⟨hO,rfl,Nat.zero_le _,(by dsimp only;omega),fun _=>rfl⟩,by simp⟩,?_,?_⟩
   · rintro ⟨ts,l1,ed,more,k⟩ ⟨hR,hk,h8,hl1,hts⟩
     have hts:ts= []:=hts rfl
     subst hts
     have hk:k=10:=by simpa using hk
     subst hk
     have hR:pAft nm (pTs 10 more [] l1 ed)=OUT:=hR
     have hl1':l1.length<1000000000:=hl1
     clear hl1
     have hl1:=hl1'
     clear hl1'
     rw [<-hR]
     clear hR hout hO
     refine ⟨fun hm=>⟨trivial,fun t x2 h3=>⟨trivial,fun m2 x3 h4=> ?_,fun er h4=>by cases h4⟩,fun er h3=> ?_⟩,fun hm=> ?_⟩
     · have hm':more=true:=hm
       have h3':Za3 0 l1 ed= .ok (t,x2):=h3
       clear hm h3
       subst hm'
       unfold pAcc at h4
       injection h4 with h4
       injection h4 with e1 e2
       subst e1;subst e2
       have hq:=Zes h3'
       have hi2:=Zwd (s:= [97,110,100]) (l:=x2.1)
       refine .inr ⟨⟨[t],if isW [97,110,100] x2.1 then x2.1.tail else x2.1,x2.2.1,isW [97,110,100] x2.1,9⟩,⟨by simp [pTs,h3'],rfl,(by show 1<=8;omega),(by dsimp only;omega),fun h=>by cases h⟩,Nat.le_refl _,by simp⟩
     · have hm':more=true:=hm
       have h3':Za3 0 l1 ed= .error er:=h3
       clear hm h3
       subst hm'
       simp [pTs,pAft,h3']
     · have hm':more=false:=hm
       clear hm
       subst hm'
       revert hl1
       dsimp only
       intro hl1
       refine ⟨fun w y hy=>⟨trivial,fun ex x4 h5=> ?_,fun er h5=>by simp [pTs,pAft,pPay,w,h5]⟩,fun w=>by simp [pTs,pAft,pPay,w]⟩
       subst hy
       have hs:=Zzm _ _ _ _ h5
       have hw:=Zz w
       rw [Ex.eta]
       refine ⟨by omega,fun hn=> ?_,fun hn=>⟨fun w2=> ?_,fun w2=> ?_⟩⟩
       · have hn:(24:Int)<Z6 ex:=by simpa using hn
         have hn:24<Z6 ex:=by omega
         simp [pTs,pAft,pPay,w,h5,hn]
       · have hn:(Z6 ex:Int)<=24:=by simpa using hn
         have hn:¬24<Z6 ex:=by omega
         simp [pTs,pAft,pPay,w,h5,hn,w2]
       · have hn:(Z6 ex:Int)<=24:=by simpa using hn
         have hn:¬24<Z6 ex:=by omega
         simp [pTs,pAft,pPay,w,h5,hn,w2]
   · rintro ⟨ts,l1,ed,more,k⟩ ⟨hR,hk,h8,hl1,_⟩
     have hk:ts.length+k=10:=hk
     have h8:ts.length<=8:=h8
     have hR:pAft nm (pTs k more ts l1 ed)=OUT:=hR
     have hl1':l1.length<1000000000:=hl1
     clear hl1
     have hl1:=hl1'
     clear hl1'
     rw [<-hR]
     clear hR hout hO
     obtain ⟨k,rfl⟩:∃k',k=k'+1:=⟨k-1,by omega⟩
     refine ⟨fun hm=>⟨trivial,fun t x2 h3=>⟨⟨Nat.le_refl _,Nat.zero_le _,(by dsimp only;omega)⟩,trivial,fun m2 x3 h4=> ?_,fun er h4=>by cases h4⟩,fun er h3=> ?_⟩,fun hm=> ?_⟩
     · have hm':more=true:=hm
       have h3':Za3 ts.length l1 ed= .ok (t,x2):=h3
       clear hm h3
       subst hm'
       unfold pAcc at h4
       injection h4 with h4
       injection h4 with e1 e2
       subst e1;subst e2
       have hq:=Zes h3'
       have hi2:=Zwd (s:= [97,110,100]) (l:=x2.1)
       refine .inr ⟨⟨ts++ [t],if isW [97,110,100] x2.1 then x2.1.tail else x2.1,x2.2.1,isW [97,110,100] x2.1,k⟩,⟨by simp [pTs,h3'],(by simp;omega),(by simp;omega),(by dsimp only;omega),fun h=>by cases h⟩,Nat.le_refl _,by simp⟩
     · have hm':more=true:=hm
       have h3':Za3 ts.length l1 ed= .error er:=h3
       clear hm h3
       subst hm'
       simp [pTs,pAft,h3']
     · have hm':more=false:=hm
       clear hm
       subst hm'
       revert hl1
       dsimp only
       intro hl1
       refine ⟨fun w y hy=>⟨trivial,fun ex x4 h5=> ?_,fun er h5=>by simp [pTs,pAft,pPay,w,h5]⟩,fun w=>by simp [pTs,pAft,pPay,w]⟩
       subst hy
       have hs:=Zzm _ _ _ _ h5
       have hw:=Zz w
       rw [Ex.eta]
       refine ⟨by omega,fun hn=> ?_,fun hn=>⟨fun w2=> ?_,fun w2=> ?_⟩⟩
       · have hn:(24:Int)<Z6 ex:=by simpa using hn
         have hn:24<Z6 ex:=by omega
         simp [pTs,pAft,pPay,w,h5,hn]
       · have hn:(Z6 ex:Int)<=24:=by simpa using hn
         have hn:¬24<Z6 ex:=by omega
         exact ⟨by omega,by simp [pTs,pAft,pPay,w,h5,hn,w2]⟩
       · have hn:(Z6 ex:Int)<=24:=by simpa using hn
         have hn:¬24<Z6 ex:=by omega
         simp [pTs,pAft,pPay,w,h5,hn,w2]
end
end Go.Proofs.YtpmkapclhlmbbaaGreatDoor
end
