import Derived.Test.YthonhikjbpplnaaGreatDoorMe
/- For all totals, lists of weights, strings and depreciations, MoneyPartsMatchReference returns true. -/
namespace Go.Proofs.YthonhikjbpplnaaGreatDoor
open Go.ChangeShapes Go.WideShapes Go.ChangeAt Go.RowKit
set_option linter.unusedVariables false
set_option linter.unusedSimpArgs false
set_option maxRecDepth 100000

theorem moneyPartsMatchReference_lifted (os:Os) (started:os.Started) (H:Type) (enc:TypeId×Value->H):
    ReturnsInHanded {} Tryz.checked os 3 .any (fun w args=>(Rows.moneyPartsMatchReferenceSpec.pre enc Tryz.prog Tryz.f3 [] false w args/\laidMetH Tryz.prog Zb7 w)/\sizedMet enc Tryz.prog Tryz.f3 (OpenSpec.ofChange Rows.moneyPartsMatchReferenceSpec) false w args)
      (Rows.moneyPartsMatchReferenceSpec.post enc Tryz.prog Tryz.f3 false true false false):=by
  refine returnsInHanded_of_change_and (C:=Tryz.checked) (X:=fun w _=>laidMetH Tryz.prog Zb7 w) (fun _ _ _ hh h=>h.of_heap hh) Tryz.own started (by kernel_rfl) Tryz.func3
    (ChangeSpec.witness_shaped (enc:=enc) (C:=Tryz.checked) (os:=os) (X:=fun w _=>laidMetH Tryz.prog Zb7 w) false (World.laidAll Tryz.prog os Zb7) #[.int .i64 0,.slice none 0 0,.string ⟨#[]⟩,.agg #[.int .i64 0,.int .i64 0,.int .i64 0,.int .i64 0,.int .i64 0]] 8 (World.laidAll_os _ _ _) (Zr3 os) (by kernel_rfl) (by kernel_rfl) (by kernel_rfl) (Zr4 os _)) ?_
  intro W base args ds gs before hval0 hW _ hz hL _
  have hval:∀(j:Nat) t v,Tryz.f3.params[j]? =some t->args[j]? =some v->Value.okWide Tryz.prog W .any base t v:=hval0
  have hW':=hW
  obtain ⟨p,q,hA0,hV,rfl,hfz,hnd⟩:=hW
  have hA:DataW.TrodAll enc Tryz.prog W 0 (fun _=>true) true Tryz.f3.params.toList args.toList ds p:=hA0
  rw [Tryz.params3] at hA hval hz
  obtain ⟨v0,v1,v2,v3,d0,d1,d2,d3,p0,p1,p2,p3,rfl,rfl,rfl,h0,h1,h2,h3⟩:=trodAll_four hA
  obtain ⟨rfl,rfl⟩:=trodVars_none hV
  obtain ⟨t,rfl,_,_,hrt⟩:=open_int Tryz.underlying3 (hval 0 3 v0 rfl rfl) h0
  obtain ⟨ws,hdws⟩:=Zo4 (hval 1 22 v1 rfl rfl) h1
  obtain ⟨s,hds,hls⟩:=Zo5 (j:=2) Tryz.underlying9 hz rfl rfl (hval 2 9 v2 rfl rfl) h2
  obtain ⟨p,hdp⟩:=Zqs h3
  refine (Zo3 (Zm0 t ws s p.1 p.2.1 p.2.2.1 p.2.2.2.1 p.2.2.2.2 (Zo6 hrt).1 (Zo6 hrt).2 hls) hL (Zb8 (.int _ _ _) (Zb8 hdws (Zb8 hds (Zyp hdp))))).mono fun en W' ⟨hen,hw⟩=> ?_
  exact ⟨_,hen,Zoe Tryz.laidOut rfl Tryz.underlying4 (by kernel_rfl) rfl hW' rfl rfl rfl hw⟩

theorem moneyPartsMatchReference_holds:Rows.MoneyPartsMatchReferenceSaid:=
  OpenClaim.holds_of_wide 3 Tryz.f3 rfl rfl rfl rfl rfl rfl rfl ⟨rfl,rfl,rfl,rfl,rfl⟩ rfl rfl rfl rfl rfl (by kernel_rfl) Tryz.func3 (by kernel_rfl)
    (of_decide_eq_true (by kernel_rfl)) (by unfold Func.isWrapper;first|(rw [if_pos (by decide+kernel)];kernel_rfl)|(rw [if_neg (by decide+kernel)];exact ⟨rfl,rfl⟩))
    (fun os started H enc _=>moneyPartsMatchReference_lifted os started H enc)

theorem moneyPartsMatchReference_card:Rows.MoneyPartsMatchReferenceCardSaid:=
  Claim7.holds_tied_plain_at .later [] [.data,.data,.data,.data,.sentinel,.sentinel,.pinned] true (true,"08bb5ad0c2a3f8da4a01e0934b0195fefa26022237015b082316db8e86beb4e2") true
    moneyPartsMatchReference_holds (fun _ h=>by cases h) (by kernel_rfl) (fun _ h=>by cases h) moneyPartsMatchReference_row_tie rfl ⟨rfl,rfl⟩ (by kernel_rfl) rfl
    (fun f fn hf hfn=>by
      obtain rfl:f=3:=Option.some.inj ((show Tryz.prog.funcNamed "wagonpool/wagonpoollaw07.MoneyPartsMatchReference" =some 3 by kernel_rfl).symm.trans hf)|>.symm
      obtain rfl:fn=Tryz.f3:=(Option.some.inj (Tryz.func3.symm.trans hfn)).symm
      exact ⟨by kernel_rfl,fun j t ht=>by
        rw [Tryz.params3] at ht
        have hm:t∈ [3,22,9,23]:=by simpa using Array.mem_of_getElem? ht
        have hall:([3,22,9,23].all fun u=> !Tryz.prog.wantsStandIn u)=true:=by kernel_rfl
        exact (show Tryz.prog.wantsStandIn t=false by simpa using List.all_eq_true.1 hall t hm)⟩)
    (by kernel_rfl)
#print axioms moneyPartsMatchReference_card
end Go.Proofs.YthonhikjbpplnaaGreatDoor
