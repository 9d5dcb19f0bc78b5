import Derived.Test.YtbepgmadijomjaaGreatDoorMf
/- For every two tariffs, TparseTreesMatchReference returns true. -/
namespace Go.Proofs.YtbepgmadijomjaaGreatDoor
open Go.ChangeShapes Go.WideShapes Go.ChangeAt Go.RowKit
set_option linter.unusedVariables false
set_option linter.unusedSimpArgs false
set_option maxRecDepth 100000

theorem tparseTreesMatchReference_lifted (os:Os) (started:os.Started) (H:Type) (enc:TypeId×Value->H):
    ReturnsInHanded {} Tryz.checked os 4 .any (fun w args=>(Rows.tparseTreesMatchReferenceSpec.pre enc Tryz.prog Tryz.f4 [] false w args/\laidMetH Tryz.prog Zfk w)/\sizedMet enc Tryz.prog Tryz.f4 (OpenSpec.ofChange Rows.tparseTreesMatchReferenceSpec) false w args)
      (Rows.tparseTreesMatchReferenceSpec.post enc Tryz.prog Tryz.f4 false true false false):=by
  refine returnsInHanded_of_change_and (C:=Tryz.checked) (X:=fun w _=>laidMetH Tryz.prog Zfk w) (fun _ _ _ hh h=>h.of_heap hh) Tryz.own started (by kernel_rfl) Tryz.func4
    (ChangeSpec.witness_shaped (enc:=enc) (C:=Tryz.checked) (os:=os) (X:=fun w _=>laidMetH Tryz.prog Zfk w) false (Zjs os) #[.agg #[.string ⟨#[]⟩,.int .i64 0,.slice none 0 0],.agg #[.string ⟨#[]⟩,.int .i64 0,.slice none 0 0]] 8 (Zvl os) (Z0a os _) (by kernel_rfl) (by kernel_rfl) (by kernel_rfl) (Z0b os _)) ?_
  intro W base args ds gs before hval0 hW _ hz hL _
  have hval:∀(j:Nat) t v,Tryz.f4.params[j]? =some t->args[j]? =some v->Value.okWide Tryz.prog W .any base t v:=hval0
  have hW':=hW
  obtain ⟨p,q,hA0,hV,rfl,hfz,hnd⟩:=hW
  have hA:DataW.TrodAll enc Tryz.prog W 0 (fun _=>true) true Tryz.f4.params.toList args.toList ds p:=hA0
  rw [Tryz.params4] at hA hval hz
  obtain ⟨v0,v1,d0,d1,p0,p1,rfl,rfl,rfl,h0,h1⟩:=trodAll_two hA
  obtain ⟨rfl,rfl⟩:=trodVars_none hV
  obtain ⟨a,hda⟩:=Zem h0
  obtain ⟨b,hdb⟩:=Zem h1
  refine (Zwd (Z34 a b) hL (Zwe hda (Ya2 hdb))).mono fun en W' ⟨hen,hw⟩=> ?_
  exact ⟨_,hen,Zxw Tryz.laidOut rfl Tryz.underlying4 (by kernel_rfl) rfl hW' rfl rfl rfl hw⟩

theorem tparseTreesMatchReference_holds:Rows.TparseTreesMatchReferenceSaid:=
  OpenClaim.holds_of_wide 4 Tryz.f4 rfl rfl rfl rfl rfl rfl rfl ⟨rfl,rfl,rfl,rfl,rfl⟩ rfl rfl rfl rfl rfl (by kernel_rfl) Tryz.func4 (by kernel_rfl)
    (of_decide_eq_true (by kernel_rfl)) (by unfold Func.isWrapper;first|(rw [if_pos (by decide+kernel)];kernel_rfl)|(rw [if_neg (by decide+kernel)];exact ⟨rfl,rfl⟩))
    (fun os started H enc _=>tparseTreesMatchReference_lifted os started H enc)

theorem tparseTreesMatchReference_card:Rows.TparseTreesMatchReferenceCardSaid:=
  Claim7.holds_tied_plain_at .later [] [.data,.data,.data,.data,.listed,.data,.mapped,.mapped,.pinned] true (true,"8eb057c64c3985b9c61d9fef37ea96aa7e5f6c85259d6a0647e4b67041a0a548") true
    tparseTreesMatchReference_holds (fun _ h=>by cases h) (by kernel_rfl) (fun _ h=>by cases h) tparseTreesMatchReference_row_tie rfl ⟨rfl,rfl⟩ (by kernel_rfl) rfl
    (fun f fn hf hfn=>by
      obtain rfl:f=4:=Option.some.inj ((show Tryz.prog.funcNamed "wagonpool/wagonpoollaw16.TparseTreesMatchReference" =some 4 by kernel_rfl).symm.trans hf)|>.symm
      obtain rfl:fn=Tryz.f4:=(Option.some.inj (Tryz.func4.symm.trans hfn)).symm
      exact ⟨by kernel_rfl,fun j t ht=>by
        rw [Tryz.params4] at ht
        have hm:t∈ [25,25]:=by simpa using Array.mem_of_getElem? ht
        have hall:([25,25].all fun u=> !Tryz.prog.wantsStandIn u)=true:=by kernel_rfl
        exact (show Tryz.prog.wantsStandIn t=false by simpa using List.all_eq_true.1 hall t hm)⟩)
    (by kernel_rfl)
#print axioms tparseTreesMatchReference_card
end Go.Proofs.YtbepgmadijomjaaGreatDoor
