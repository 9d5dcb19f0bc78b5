import Derived.Test.YtbepgmadijomjaaGreatDoorMe
/- For every source, TparseReads returns true. -/
namespace Go.Proofs.YtbepgmadijomjaaGreatDoor
open Go.ChangeShapes Go.WideShapes Go.ChangeAt Go.RowKit
set_option linter.unusedVariables false
set_option linter.unusedSimpArgs false
set_option maxRecDepth 100000

theorem tparseReads_lifted (os:Os) (started:os.Started) (H:Type) (enc:TypeId×Value->H):
    ReturnsInHanded {} Tryz.checked os 8 .any (fun w args=>(Rows.tparseReadsSpec.pre enc Tryz.prog Tryz.f8 [] false w args/\laidMetH Tryz.prog Zf5 w)/\sizedMet enc Tryz.prog Tryz.f8 (OpenSpec.ofChange Rows.tparseReadsSpec) false w args)
      (Rows.tparseReadsSpec.post enc Tryz.prog Tryz.f8 false true false false):=by
  refine returnsInHanded_of_change_and (C:=Tryz.checked) (X:=fun w _=>laidMetH Tryz.prog Zf5 w) (fun _ _ _ hh h=>h.of_heap hh) Tryz.own started (by kernel_rfl) Tryz.func8
    (ChangeSpec.witness_shaped (enc:=enc) (C:=Tryz.checked) (os:=os) (X:=fun w _=>laidMetH Tryz.prog Zf5 w) false (Zj4 os) #[.string ⟨#[]⟩] 8 (Zvb os) (Zzq os _) (by kernel_rfl) (by kernel_rfl) (by kernel_rfl) (Zzr os _)) ?_
  intro W base args ds gs before hval0 hW _ hz hL _
  have hval:∀(j:Nat) t v,Tryz.f8.params[j]? =some t->args[j]? =some v->Value.okWide Tryz.prog W .any base t v:=hval0
  have hW':=hW
  obtain ⟨p,q,hA0,hV,rfl,hfz,hnd⟩:=hW
  have hA:DataW.TrodAll enc Tryz.prog W 0 (fun _=>true) true Tryz.f8.params.toList args.toList ds p:=hA0
  rw [Tryz.params8] at hA hval hz
  obtain ⟨v0,d0,rfl,rfl,h0⟩:=trodAll_one hA
  obtain ⟨rfl,rfl⟩:=trodVars_none hV
  obtain ⟨b,rfl,_,_,_⟩:=Go.ChangeMaps.open_string Tryz.underlying9 (hval 0 9 v0 rfl rfl) h0
  refine (Zwd (Z4m (toL b)) hL (Ybd (.str _ rfl))).mono fun en W' ⟨hen,hw⟩=> ?_
  exact ⟨_,hen,Zxi Tryz.laidOut rfl Tryz.underlying4 (by kernel_rfl) rfl hW' rfl rfl rfl hw⟩

theorem tparseReads_holds:Rows.TparseReadsSaid:=
  OpenClaim.holds_of_wide 8 Tryz.f8 rfl rfl rfl rfl rfl rfl rfl ⟨rfl,rfl,rfl,rfl,rfl⟩ rfl rfl rfl rfl rfl (by kernel_rfl) Tryz.func8 (by kernel_rfl)
    (of_decide_eq_true (by kernel_rfl)) (by unfold Func.isWrapper;first|(rw [if_pos (by decide+kernel)];kernel_rfl)|(rw [if_neg (by decide+kernel)];exact ⟨rfl,rfl⟩))
    (fun os started H enc _=>tparseReads_lifted os started H enc)

theorem tparseReads_card:Rows.TparseReadsCardSaid:=
  Claim7.holds_tied_plain_at .later [] [.data,.data,.data,.data,.listed,.data,.mapped,.mapped,.pinned] true (true,"8eb057c64c3985b9c61d9fef37ea96aa7e5f6c85259d6a0647e4b67041a0a548") true
    tparseReads_holds (fun _ h=>by cases h) (by kernel_rfl) (fun _ h=>by cases h) tparseReads_row_tie rfl ⟨rfl,rfl⟩ (by kernel_rfl) rfl
    (fun f fn hf hfn=>by
      obtain rfl:f=8:=Option.some.inj ((show Tryz.prog.funcNamed "wagonpool/wagonpoollaw16.TparseReads" =some 8 by kernel_rfl).symm.trans hf)|>.symm
      obtain rfl:fn=Tryz.f8:=(Option.some.inj (Tryz.func8.symm.trans hfn)).symm
      exact ⟨by kernel_rfl,fun j t ht=>by
        rw [Tryz.params8] at ht
        have hm:t∈ [9]:=by simpa using Array.mem_of_getElem? ht
        have hall:([9].all fun u=> !Tryz.prog.wantsStandIn u)=true:=by kernel_rfl
        exact (show Tryz.prog.wantsStandIn t=false by simpa using List.all_eq_true.1 hall t hm)⟩)
    (by kernel_rfl)
#print axioms tparseReads_card
end Go.Proofs.YtbepgmadijomjaaGreatDoor
