import Derived.Test.YtpmkapclhlmbbaaGreatDoorMf
/- For every code and string, TcodeTextRoundTrip returns true. -/
namespace Go.Proofs.YtpmkapclhlmbbaaGreatDoor
open Go.ChangeShapes Go.WideShapes Go.ChangeAt Go.RowKit
set_option linter.unusedVariables false
set_option linter.unusedSimpArgs false
set_option maxRecDepth 100000

theorem tcodeTextRoundTrip_lifted (os:Os) (started:os.Started) (H:Type) (enc:TypeId×Value->H):
    ReturnsInHanded {} Tryz.checked os 5 .any (fun w args=>(Rows.tcodeTextRoundTripSpec.pre enc Tryz.prog Tryz.f5 [] false w args/\laidMetH Tryz.prog Zb4 w)/\sizedMet enc Tryz.prog Tryz.f5 (OpenSpec.ofChange Rows.tcodeTextRoundTripSpec) false w args)
      (Rows.tcodeTextRoundTripSpec.post enc Tryz.prog Tryz.f5 false true false false):=by
  refine returnsInHanded_of_change_and (C:=Tryz.checked) (X:=fun w _=>laidMetH Tryz.prog Zb4 w) (fun _ _ _ hh h=>h.of_heap hh) Tryz.own started (by kernel_rfl) Tryz.func5
    (ChangeSpec.witness_shaped (enc:=enc) (C:=Tryz.checked) (os:=os) (X:=fun w _=>laidMetH Tryz.prog Zb4 w) false (Zju os) #[.slice none 0 0,.string ⟨#[]⟩] 8 (Zve os) (Zzw os _) (by kernel_rfl) (by kernel_rfl) (by kernel_rfl) (Zzx os _)) ?_
  intro W base args ds gs before hval0 hW _ hz hL _
  have hval:∀(j:Nat) t v,Tryz.f5.params[j]? =some t->args[j]? =some v->Value.okWide Tryz.prog W .any base t v:=hval0
  have hW':=hW
  obtain ⟨p,q,hA0,hV,rfl,hfz,hnd⟩:=hW
  have hA:DataW.TrodAll enc Tryz.prog W 0 (fun _=>true) true Tryz.f5.params.toList args.toList ds p:=hA0
  rw [Tryz.params5] at hA hval hz
  obtain ⟨v0,v1,d0,d1,p0,p1,rfl,rfl,rfl,h0,h1⟩:=trodAll_two hA
  obtain ⟨rfl,rfl⟩:=trodVars_none hV
  obtain ⟨c,hdc⟩:=Zwq (hval 0 28 v0 rfl rfl) h0
  obtain ⟨b,rfl,_,_,_⟩:=Go.ChangeMaps.open_string Tryz.underlying9 (hval 1 9 v1 rfl rfl) h1
  refine (Zww (Z3w Zuk c (toL b) (fun n hn=>Z6v hn)) hL (Zwx hdc (Z8t (.str _ rfl)))).mono fun en W' ⟨hen,hw⟩=> ?_
  exact ⟨_,hen,Zwy Tryz.laidOut rfl Tryz.underlying4 (by kernel_rfl) rfl hW' rfl rfl rfl hw⟩

theorem tcodeTextRoundTrip_holds:Rows.TcodeTextRoundTripSaid:=
  OpenClaim.holds_of_wide 5 Tryz.f5 rfl rfl rfl rfl rfl rfl rfl ⟨rfl,rfl,rfl,rfl,rfl⟩ rfl rfl rfl rfl rfl (by kernel_rfl) Tryz.func5 (by kernel_rfl)
    (of_decide_eq_true (by kernel_rfl)) (by unfold Func.isWrapper;first|(rw [if_pos (by decide+kernel)];kernel_rfl)|(rw [if_neg (by decide+kernel)];exact ⟨rfl,rfl⟩))
    (fun os started H enc _=>tcodeTextRoundTrip_lifted os started H enc)

theorem tcodeTextRoundTrip_card:Rows.TcodeTextRoundTripCardSaid:=
  Claim7.holds_tied_plain_at .later [] [.data,.data,.data,.data,.sentinel,.sentinel,.listed,.data,.mapped,.mapped,.widerDeep,.pinned] true (true,"c4d36a2424befea3e83faa70a958eb95ad5874525f598decf170b65f3b236d54") true
    tcodeTextRoundTrip_holds (fun _ h=>by cases h) (by kernel_rfl) (fun _ h=>by cases h) tcodeTextRoundTrip_row_tie rfl ⟨rfl,rfl⟩ (by kernel_rfl) rfl
    (fun f fn hf hfn=>by
      obtain rfl:f=5:=Option.some.inj ((show Tryz.prog.funcNamed "wagonpool/wagonpoollaw20.TcodeTextRoundTrip" =some 5 by kernel_rfl).symm.trans hf)|>.symm
      obtain rfl:fn=Tryz.f5:=(Option.some.inj (Tryz.func5.symm.trans hfn)).symm
      exact ⟨by kernel_rfl,fun j t ht=>by
        rw [Tryz.params5] at ht
        have hm:t∈ [28,9]:=by simpa using Array.mem_of_getElem? ht
        have hall:([28,9].all fun u=> !Tryz.prog.wantsStandIn u)=true:=by kernel_rfl
        exact (show Tryz.prog.wantsStandIn t=false by simpa using List.all_eq_true.1 hall t hm)⟩)
    (by kernel_rfl)
#print axioms tcodeTextRoundTrip_card
end Go.Proofs.YtpmkapclhlmbbaaGreatDoor
