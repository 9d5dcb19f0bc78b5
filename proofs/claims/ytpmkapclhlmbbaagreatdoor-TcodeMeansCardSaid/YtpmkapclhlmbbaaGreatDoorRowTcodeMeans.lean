import Derived.Test.YtpmkapclhlmbbaaGreatDoorMf
/- For every tariff and all attributes, TcodeMeans returns true. -/
namespace Go.Proofs.YtpmkapclhlmbbaaGreatDoor
open Go.ChangeShapes Go.WideShapes Go.ChangeAt Go.RowKit
set_option linter.unusedVariables false
set_option linter.unusedSimpArgs false
set_option maxRecDepth 100000

theorem tcodeMeans_lifted (os:Os) (started:os.Started) (H:Type) (enc:TypeId×Value->H):
    ReturnsInHanded {} Tryz.checked os 7 .any (fun w args=>(Rows.tcodeMeansSpec.pre enc Tryz.prog Tryz.f7 [] false w args/\laidMetH Tryz.prog Zf6 w)/\sizedMet enc Tryz.prog Tryz.f7 (OpenSpec.ofChange Rows.tcodeMeansSpec) false w args)
      (Rows.tcodeMeansSpec.post enc Tryz.prog Tryz.f7 false true false false):=by
  refine returnsInHanded_of_change_and (C:=Tryz.checked) (X:=fun w _=>laidMetH Tryz.prog Zf6 w) (fun _ _ _ hh h=>h.of_heap hh) Tryz.own started (by kernel_rfl) Tryz.func7
    (ChangeSpec.witness_shaped (enc:=enc) (C:=Tryz.checked) (os:=os) (X:=fun w _=>laidMetH Tryz.prog Zf6 w) false (Zk6 os) #[.agg #[.string ⟨#[]⟩,.int .i64 0,.slice none 0 0],.agg #[.int .i64 0,.int .i64 0,.int .i64 0,.int .i64 0,.int .i64 0,.int .i64 0,.int .i64 0,.int .i64 0,.int .i64 0,.int .i64 0,.int .i64 0,.int .i64 0,.int .i64 0,.int .i64 0,.int .i64 0,.int .i64 0,.int .i64 0]] 8 (Zxp os) (Z2b os _) (by kernel_rfl) (by kernel_rfl) (by kernel_rfl) (Z2c os _)) ?_
  intro W base args ds gs before hval0 hW _ hz hL _
  have hval:∀(j:Nat) t v,Tryz.f7.params[j]? =some t->args[j]? =some v->Value.okWide Tryz.prog W .any base t v:=hval0
  have hW':=hW
  obtain ⟨p,q,hA0,hV,rfl,hfz,hnd⟩:=hW
  have hA:DataW.TrodAll enc Tryz.prog W 0 (fun _=>true) true Tryz.f7.params.toList args.toList ds p:=hA0
  rw [Tryz.params7] at hA hval hz
  obtain ⟨v0,v1,d0,d1,p0,p1,rfl,rfl,rfl,h0,h1⟩:=trodAll_two hA
  obtain ⟨rfl,rfl⟩:=trodVars_none hV
  obtain ⟨t,hdt⟩:=Zmt h0
  obtain ⟨x,hdx⟩:=Z1y h1
  refine (Zy4 (Zrx Zwk t x.1 x.2) hL (Zy5 hdt (Yba hdx))).mono fun en W' ⟨hen,hw⟩=> ?_
  exact ⟨_,hen,Zy6 Tryz.laidOut rfl Tryz.underlying4 (by kernel_rfl) rfl hW' rfl rfl rfl hw⟩

theorem tcodeMeans_holds:Rows.TcodeMeansSaid:=
  OpenClaim.holds_of_wide 7 Tryz.f7 rfl rfl rfl rfl rfl rfl rfl ⟨rfl,rfl,rfl,rfl,rfl⟩ rfl rfl rfl rfl rfl (by kernel_rfl) Tryz.func7 (by kernel_rfl)
    (of_decide_eq_true (by kernel_rfl)) (by unfold Func.isWrapper;first|(rw [if_pos (by decide+kernel)];kernel_rfl)|(rw [if_neg (by decide+kernel)];exact ⟨rfl,rfl⟩))
    (fun os started H enc _=>tcodeMeans_lifted os started H enc)

theorem tcodeMeans_card:Rows.TcodeMeansCardSaid:=
  Claim7.holds_tied_plain_at .later [] [.data,.data,.data,.data,.sentinel,.sentinel,.listed,.data,.mapped,.mapped,.widerDeep,.pinned] true (true,"c4d36a2424befea3e83faa70a958eb95ad5874525f598decf170b65f3b236d54") true
    tcodeMeans_holds (fun _ h=>by cases h) (by kernel_rfl) (fun _ h=>by cases h) tcodeMeans_row_tie rfl ⟨rfl,rfl⟩ (by kernel_rfl) rfl
    (fun f fn hf hfn=>by
      obtain rfl:f=7:=Option.some.inj ((show Tryz.prog.funcNamed "wagonpool/wagonpoollaw20.TcodeMeans" =some 7 by kernel_rfl).symm.trans hf)|>.symm
      obtain rfl:fn=Tryz.f7:=(Option.some.inj (Tryz.func7.symm.trans hfn)).symm
      exact ⟨by kernel_rfl,fun j t ht=>by
        rw [Tryz.params7] at ht
        have hm:t∈ [24,53]:=by simpa using Array.mem_of_getElem? ht
        have hall:([24,53].all fun u=> !Tryz.prog.wantsStandIn u)=true:=by kernel_rfl
        exact (show Tryz.prog.wantsStandIn t=false by simpa using List.all_eq_true.1 hall t hm)⟩)
    (by kernel_rfl)
#print axioms tcodeMeans_card
end Go.Proofs.YtpmkapclhlmbbaaGreatDoor
