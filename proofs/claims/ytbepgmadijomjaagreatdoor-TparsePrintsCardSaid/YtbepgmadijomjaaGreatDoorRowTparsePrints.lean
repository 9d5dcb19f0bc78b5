import Derived.Test.YtbepgmadijomjaaGreatDoorMe
/- For every tariff and number, TparsePrints returns true. -/
namespace Go.Proofs.YtbepgmadijomjaaGreatDoor
open Go.ChangeShapes Go.WideShapes Go.ChangeAt Go.RowKit
set_option linter.unusedVariables false
set_option linter.unusedSimpArgs false
set_option maxRecDepth 100000

theorem tparsePrints_lifted (os:Os) (started:os.Started) (H:Type) (enc:TypeId×Value->H):
    ReturnsInHanded {} Tryz.checked os 9 .any (fun w args=>(Rows.tparsePrintsSpec.pre enc Tryz.prog Tryz.f9 [] false w args/\laidMetH Tryz.prog Zfz w)/\sizedMet enc Tryz.prog Tryz.f9 (OpenSpec.ofChange Rows.tparsePrintsSpec) false w args)
      (Rows.tparsePrintsSpec.post enc Tryz.prog Tryz.f9 false true false false):=by
  refine returnsInHanded_of_change_and (C:=Tryz.checked) (X:=fun w _=>laidMetH Tryz.prog Zfz w) (fun _ _ _ hh h=>h.of_heap hh) Tryz.own started (by kernel_rfl) Tryz.func9
    (ChangeSpec.witness_shaped (enc:=enc) (C:=Tryz.checked) (os:=os) (X:=fun w _=>laidMetH Tryz.prog Zfz w) false (Zjz os) #[.agg #[.string ⟨#[]⟩,.int .i64 0,.slice none 0 0],.int .i64 0] 8 (Zu1 os) (Zzk os _) (by kernel_rfl) (by kernel_rfl) (by kernel_rfl) (Zzl os _)) ?_
  intro W base args ds gs before hval0 hW _ hz hL _
  have hval:∀(j:Nat) t v,Tryz.f9.params[j]? =some t->args[j]? =some v->Value.okWide Tryz.prog W .any base t v:=hval0
  have hW':=hW
  obtain ⟨p,q,hA0,hV,rfl,hfz,hnd⟩:=hW
  have hA:DataW.TrodAll enc Tryz.prog W 0 (fun _=>true) true Tryz.f9.params.toList args.toList ds p:=hA0
  rw [Tryz.params9] at hA hval hz
  obtain ⟨v0,v1,d0,d1,p0,p1,rfl,rfl,rfl,h0,h1⟩:=trodAll_two hA
  obtain ⟨rfl,rfl⟩:=trodVars_none hV
  obtain ⟨t,hdt⟩:=Zmq h0
  obtain ⟨n,rfl,_,hrn,_⟩:=open_int Tryz.underlying3 (hval 1 3 v1 rfl rfl) h1
  refine (Zv4 (Z34 t n) hL (Zv5 hdt (Yav (.int _ _ _)))).mono fun en W' ⟨hen,hw⟩=> ?_
  exact ⟨_,hen,Zxd Tryz.laidOut rfl Tryz.underlying4 (by kernel_rfl) rfl hW' rfl rfl rfl hw⟩

theorem tparsePrints_holds:Rows.TparsePrintsSaid:=
  OpenClaim.holds_of_wide 9 Tryz.f9 rfl rfl rfl rfl rfl rfl rfl ⟨rfl,rfl,rfl,rfl,rfl⟩ rfl rfl rfl rfl rfl (by kernel_rfl) Tryz.func9 (by kernel_rfl)
    (of_decide_eq_true (by kernel_rfl)) (by unfold Func.isWrapper;first|(rw [if_pos (by decide+kernel)];kernel_rfl)|(rw [if_neg (by decide+kernel)];exact ⟨rfl,rfl⟩))
    (fun os started H enc _=>tparsePrints_lifted os started H enc)

theorem tparsePrints_card:Rows.TparsePrintsCardSaid:=
  Claim7.holds_tied_plain_at .later [] [.data,.data,.data,.data,.listed,.data,.mapped,.mapped,.pinned] true (true,"8eb057c64c3985b9c61d9fef37ea96aa7e5f6c85259d6a0647e4b67041a0a548") true
    tparsePrints_holds (fun _ h=>by cases h) (by kernel_rfl) (fun _ h=>by cases h) tparsePrints_row_tie rfl ⟨rfl,rfl⟩ (by kernel_rfl) rfl
    (fun f fn hf hfn=>by
      obtain rfl:f=9:=Option.some.inj ((show Tryz.prog.funcNamed "wagonpool/wagonpoollaw16.TparsePrints" =some 9 by kernel_rfl).symm.trans hf)|>.symm
      obtain rfl:fn=Tryz.f9:=(Option.some.inj (Tryz.func9.symm.trans hfn)).symm
      exact ⟨by kernel_rfl,fun j t ht=>by
        rw [Tryz.params9] at ht
        have hm:t∈ [25,3]:=by simpa using Array.mem_of_getElem? ht
        have hall:([25,3].all fun u=> !Tryz.prog.wantsStandIn u)=true:=by kernel_rfl
        exact (show Tryz.prog.wantsStandIn t=false by simpa using List.all_eq_true.1 hall t hm)⟩)
    (by kernel_rfl)
#print axioms tparsePrints_card
end Go.Proofs.YtbepgmadijomjaaGreatDoor
