import Derived.Test.YthonhikjbpplnaaGreatDoorMd
/- For all integers and strings, MoneyTextRoundTrip returns true. -/
namespace Go.Proofs.YthonhikjbpplnaaGreatDoor
open Go.ChangeShapes Go.WideShapes Go.ChangeAt Go.RowKit
set_option linter.unusedVariables false
set_option linter.unusedSimpArgs false
set_option maxRecDepth 100000

theorem moneyTextRoundTrip_lifted (os:Os) (started:os.Started) (H:Type) (enc:TypeId×Value->H):
    ReturnsInHanded {} Tryz.checked os 5 .any (fun w args=>(Rows.moneyTextRoundTripSpec.pre enc Tryz.prog Tryz.f5 [] false w args/\laidMetH Tryz.prog Zbd w)/\sizedMet enc Tryz.prog Tryz.f5 (OpenSpec.ofChange Rows.moneyTextRoundTripSpec) false w args)
      (Rows.moneyTextRoundTripSpec.post enc Tryz.prog Tryz.f5 false true false false):=by
  refine returnsInHanded_of_change_and (C:=Tryz.checked) (X:=fun w _=>laidMetH Tryz.prog Zbd w) (fun _ _ _ hh h=>h.of_heap hh) Tryz.own started (by kernel_rfl) Tryz.func5
    (ChangeSpec.witness_shaped (enc:=enc) (C:=Tryz.checked) (os:=os) (X:=fun w _=>laidMetH Tryz.prog Zbd w) false (World.laidAll Tryz.prog os Zbd) #[.int .i64 0,.string ⟨#[]⟩] 8 (World.laidAll_os _ _ _) (Zol os) (by kernel_rfl) (by kernel_rfl) (by kernel_rfl) (Zom os _)) ?_
  intro W base args ds gs before hval0 hW _ hz hL _
  have hval:∀(j:Nat) t v,Tryz.f5.params[j]? =some t->args[j]? =some v->Value.okWide Tryz.prog W .any base t v:=hval0
  have hW':=hW
  obtain ⟨p,q,hA0,hV,rfl,hfz,hnd⟩:=hW
  have hA:DataW.TrodAll enc Tryz.prog W 0 (fun _=>true) true Tryz.f5.params.toList args.toList ds p:=hA0
  rw [Tryz.params5] at hA hval hz
  obtain ⟨v0,v1,d0,d1,p0,p1,rfl,rfl,rfl,h0,h1⟩:=trodAll_two hA
  obtain ⟨rfl,rfl⟩:=trodVars_none hV
  obtain ⟨a,rfl,_,_,hra⟩:=open_int Tryz.underlying3 (hval 0 3 v0 rfl rfl) h0
  obtain ⟨s,hds,hls⟩:=Zl5 (j:=1) Tryz.underlying9 hz rfl rfl (hval 1 9 v1 rfl rfl) h1
  refine (Zl3 (Zns a s (Zl6 hra).1 (Zl6 hra).2 hls) hL (Zl4 (.int _ _ _) (Ztf hds))).mono fun en W' ⟨hen,hw⟩=> ?_
  exact ⟨_,hen,Zlj Tryz.laidOut rfl Tryz.underlying4 (by kernel_rfl) rfl hW' rfl rfl rfl hw⟩

theorem moneyTextRoundTrip_holds:Rows.MoneyTextRoundTripSaid:=
  OpenClaim.holds_of_wide 5 Tryz.f5 rfl rfl rfl rfl rfl rfl rfl ⟨rfl,rfl,rfl,rfl,rfl⟩ rfl rfl rfl rfl rfl (by kernel_rfl) Tryz.func5 (by kernel_rfl)
    (of_decide_eq_true (by kernel_rfl)) (by unfold Func.isWrapper;first|(rw [if_pos (by decide+kernel)];kernel_rfl)|(rw [if_neg (by decide+kernel)];exact ⟨rfl,rfl⟩))
    (fun os started H enc _=>moneyTextRoundTrip_lifted os started H enc)

theorem moneyTextRoundTrip_card:Rows.MoneyTextRoundTripCardSaid:=
  Claim7.holds_tied_plain_at .later [] [.data,.data,.data,.data,.sentinel,.sentinel,.pinned] true (true,"08bb5ad0c2a3f8da4a01e0934b0195fefa26022237015b082316db8e86beb4e2") true
    moneyTextRoundTrip_holds (fun _ h=>by cases h) (by kernel_rfl) (fun _ h=>by cases h) moneyTextRoundTrip_row_tie rfl ⟨rfl,rfl⟩ (by kernel_rfl) rfl
    (fun f fn hf hfn=>by
      obtain rfl:f=5:=Option.some.inj ((show Tryz.prog.funcNamed "wagonpool/wagonpoollaw07.MoneyTextRoundTrip" =some 5 by kernel_rfl).symm.trans hf)|>.symm
      obtain rfl:fn=Tryz.f5:=(Option.some.inj (Tryz.func5.symm.trans hfn)).symm
      exact ⟨by kernel_rfl,fun j t ht=>by
        rw [Tryz.params5] at ht
        have hm:t∈ [3,9]:=by simpa using Array.mem_of_getElem? ht
        have hall:([3,9].all fun u=> !Tryz.prog.wantsStandIn u)=true:=by kernel_rfl
        exact (show Tryz.prog.wantsStandIn t=false by simpa using List.all_eq_true.1 hall t hm)⟩)
    (by kernel_rfl)
#print axioms moneyTextRoundTrip_card
end Go.Proofs.YthonhikjbpplnaaGreatDoor
