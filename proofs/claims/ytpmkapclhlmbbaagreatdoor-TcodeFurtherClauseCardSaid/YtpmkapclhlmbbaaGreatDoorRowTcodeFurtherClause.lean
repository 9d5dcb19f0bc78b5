import Derived.Test.YtpmkapclhlmbbaaGreatDoorMf
/- For every tariff and clause, TcodeFurtherClause returns true. -/
namespace Go.Proofs.YtpmkapclhlmbbaaGreatDoor
open Go.ChangeShapes Go.WideShapes Go.ChangeAt Go.RowKit
set_option linter.unusedVariables false
set_option linter.unusedSimpArgs false
set_option maxRecDepth 100000

theorem tcodeFurtherClause_lifted (os:Os) (started:os.Started) (H:Type) (enc:TypeId×Value->H):
    ReturnsInHanded {} Tryz.checked os 6 .any (fun w args=>(Rows.tcodeFurtherClauseSpec.pre enc Tryz.prog Tryz.f6 [] false w args/\laidMetH Tryz.prog Ze7 w)/\sizedMet enc Tryz.prog Tryz.f6 (OpenSpec.ofChange Rows.tcodeFurtherClauseSpec) false w args)
      (Rows.tcodeFurtherClauseSpec.post enc Tryz.prog Tryz.f6 false true false false):=by
  refine returnsInHanded_of_change_and (C:=Tryz.checked) (X:=fun w _=>laidMetH Tryz.prog Ze7 w) (fun _ _ _ hh h=>h.of_heap hh) Tryz.own started (by kernel_rfl) Tryz.func6
    (ChangeSpec.witness_shaped (enc:=enc) (C:=Tryz.checked) (os:=os) (X:=fun w _=>laidMetH Tryz.prog Ze7 w) false (Zjt os) #[.agg #[.string ⟨#[]⟩,.int .i64 0,.slice none 0 0],.agg #[.string ⟨#[]⟩,.slice none 0 0,.int .i64 0,.int .i64 0,.int .i64 0,.int .i64 0,.int .i64 0,.int .i64 0,.slice none 0 0]] 8 (Zvh os) (Zzh os _) (by kernel_rfl) (by kernel_rfl) (by kernel_rfl) (Zzi os _)) ?_
  intro W base args ds gs before hval0 hW _ hz hL _
  have hval:∀(j:Nat) t v,Tryz.f6.params[j]? =some t->args[j]? =some v->Value.okWide Tryz.prog W .any base t v:=hval0
  have hW':=hW
  obtain ⟨p,q,hA0,hV,rfl,hfz,hnd⟩:=hW
  have hA:DataW.TrodAll enc Tryz.prog W 0 (fun _=>true) true Tryz.f6.params.toList args.toList ds p:=hA0
  rw [Tryz.params6] at hA hval hz
  obtain ⟨v0,v1,d0,d1,p0,p1,rfl,rfl,rfl,h0,h1⟩:=trodAll_two hA
  obtain ⟨rfl,rfl⟩:=trodVars_none hV
  obtain ⟨t,hdt,hlt⟩:=Zks (j:=0) hz rfl rfl (hval 0 24 v0 rfl rfl) h0
  obtain ⟨x,hdx⟩:=Zns h1
  refine (Zwu (Zzb Zuo t x hlt) hL (Zwv hdt (Z7y hdx))).mono fun en W' ⟨hen,hw⟩=> ?_
  exact ⟨_,hen,Zww Tryz.laidOut rfl Tryz.underlying4 (by kernel_rfl) rfl hW' rfl rfl rfl hw⟩

theorem tcodeFurtherClause_holds:Rows.TcodeFurtherClauseSaid:=
  OpenClaim.holds_of_wide 6 Tryz.f6 rfl rfl rfl rfl rfl rfl rfl ⟨rfl,rfl,rfl,rfl,rfl⟩ rfl rfl rfl rfl rfl (by kernel_rfl) Tryz.func6 (by kernel_rfl)
    (of_decide_eq_true (by kernel_rfl)) (by unfold Func.isWrapper;first|(rw [if_pos (by decide+kernel)];kernel_rfl)|(rw [if_neg (by decide+kernel)];exact ⟨rfl,rfl⟩))
    (fun os started H enc _=>tcodeFurtherClause_lifted os started H enc)

theorem tcodeFurtherClause_card:Rows.TcodeFurtherClauseCardSaid:=
  Claim7.holds_tied_plain_at .later [] [.data,.data,.data,.data,.sentinel,.sentinel,.listed,.data,.mapped,.mapped,.widerDeep,.pinned] true (true,"c4d36a2424befea3e83faa70a958eb95ad5874525f598decf170b65f3b236d54") true
    tcodeFurtherClause_holds (fun _ h=>by cases h) (by kernel_rfl) (fun _ h=>by cases h) tcodeFurtherClause_row_tie rfl ⟨rfl,rfl⟩ (by kernel_rfl) rfl
    (fun f fn hf hfn=>by
      obtain rfl:f=6:=Option.some.inj ((show Tryz.prog.funcNamed "wagonpool/wagonpoollaw20.TcodeFurtherClause" =some 6 by kernel_rfl).symm.trans hf)|>.symm
      obtain rfl:fn=Tryz.f6:=(Option.some.inj (Tryz.func6.symm.trans hfn)).symm
      exact ⟨by kernel_rfl,fun j t ht=>by
        rw [Tryz.params6] at ht
        have hm:t∈ [24,49]:=by simpa using Array.mem_of_getElem? ht
        have hall:([24,49].all fun u=> !Tryz.prog.wantsStandIn u)=true:=by kernel_rfl
        exact (show Tryz.prog.wantsStandIn t=false by simpa using List.all_eq_true.1 hall t hm)⟩)
    (by kernel_rfl)
#print axioms tcodeFurtherClause_card
end Go.Proofs.YtpmkapclhlmbbaaGreatDoor
