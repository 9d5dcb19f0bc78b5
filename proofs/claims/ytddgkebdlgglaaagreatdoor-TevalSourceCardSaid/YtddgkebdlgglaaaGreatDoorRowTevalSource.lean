import Derived.Test.YtddgkebdlgglaaaGreatDoorMf
/- For every tariff and attributes, TevalSource returns true. -/
namespace Go.Proofs.YtddgkebdlgglaaaGreatDoor
open Go.ChangeShapes Go.WideShapes Go.ChangeAt Go.RowKit
set_option linter.unusedVariables false
set_option linter.unusedSimpArgs false
set_option maxRecDepth 100000

theorem tevalSource_lifted (os:Os) (started:os.Started) (H:Type) (enc:TypeId×Value->H):
    ReturnsInHanded {} Tryz.checked os 4 .any (fun w args=>(Rows.tevalSourceSpec.pre enc Tryz.prog Tryz.f4 [] false w args/\laidMetH Tryz.prog Zg3 w)/\sizedMet enc Tryz.prog Tryz.f4 (OpenSpec.ofChange Rows.tevalSourceSpec) false w args)
      (Rows.tevalSourceSpec.post enc Tryz.prog Tryz.f4 false true false false):=by
  refine returnsInHanded_of_change_and (C:=Tryz.checked) (X:=fun w _=>laidMetH Tryz.prog Zg3 w) (fun _ _ _ hh h=>h.of_heap hh) Tryz.own started (by kernel_rfl) Tryz.func4
    (ChangeSpec.witness_shaped (enc:=enc) (C:=Tryz.checked) (os:=os) (X:=fun w _=>laidMetH Tryz.prog Zg3 w) false (Zl8 os) #[.agg #[.string ⟨#[]⟩,.int .i64 0,.slice none 0 0],.agg #[.int .i64 0,.int .i64 0,.int .i64 0,.int .i64 0,.int .i64 0,.int .i64 0,.int .i64 0,.int .i64 0,.int .i64 0,.int .i64 0,.int .i64 0,.int .i64 0,.int .i64 0,.int .i64 0,.int .i64 0,.int .i64 0,.int .i64 0]] 8 (Zzd os) (Z3i os _) (by kernel_rfl) (by kernel_rfl) (by kernel_rfl) (Z3j os _)) ?_
  intro W base args ds gs before hval0 hW _ hz hL _
  have hval:∀(j:Nat) t v,Tryz.f4.params[j]? =some t->args[j]? =some v->Value.okWide Tryz.prog W .any base t v:=hval0
  have hW':=hW
  obtain ⟨p,q,hA0,hV,rfl,hfz,hnd⟩:=hW
  have hA:DataW.TrodAll enc Tryz.prog W 0 (fun _=>true) true Tryz.f4.params.toList args.toList ds p:=hA0
  rw [Tryz.params4] at hA hval hz
  obtain ⟨v0,v1,d0,d1,p0,p1,rfl,rfl,rfl,h0,h1⟩:=trodAll_two hA
  obtain ⟨rfl,rfl⟩:=trodVars_none hV
  obtain ⟨t,hdt⟩:=Zpd h0
  obtain ⟨x,hdx⟩:=Z3g h1
  refine (Z0m (Z9a t x.1 x.2) hL (Z0n hdt (Yee hdx))).mono fun en W' ⟨hen,hw⟩=> ?_
  exact ⟨_,hen,Zym Tryz.laidOut rfl Tryz.underlying4 (by kernel_rfl) rfl hW' rfl rfl rfl hw⟩

theorem tevalSource_holds:Rows.TevalSourceSaid:=
  OpenClaim.holds_of_wide 4 Tryz.f4 rfl rfl rfl rfl rfl rfl rfl ⟨rfl,rfl,rfl,rfl,rfl⟩ rfl rfl rfl rfl rfl (by kernel_rfl) Tryz.func4 (by kernel_rfl)
    (of_decide_eq_true (by kernel_rfl)) (by unfold Func.isWrapper;first|(rw [if_pos (by decide+kernel)];kernel_rfl)|(rw [if_neg (by decide+kernel)];exact ⟨rfl,rfl⟩))
    (fun os started H enc _=>tevalSource_lifted os started H enc)

theorem tevalSource_card:Rows.TevalSourceCardSaid:=
  Claim7.holds_tied_plain_at .later [] [.data,.data,.data,.data,.listed,.data,.mapped,.mapped,.pinned] true (true,"b8b66563b5afd0b9e131394a0da3adafbacf6e1cd5f7fcf29604f96349539b70") true
    tevalSource_holds (fun _ h=>by cases h) (by kernel_rfl) (fun _ h=>by cases h) tevalSource_row_tie rfl ⟨rfl,rfl⟩ (by kernel_rfl) rfl
    (fun f fn hf hfn=>by
      obtain rfl:f=4:=Option.some.inj ((show Tryz.prog.funcNamed "wagonpool/wagonpoollaw18.TevalSource" =some 4 by kernel_rfl).symm.trans hf)|>.symm
      obtain rfl:fn=Tryz.f4:=(Option.some.inj (Tryz.func4.symm.trans hfn)).symm
      exact ⟨by kernel_rfl,fun j t ht=>by
        rw [Tryz.params4] at ht
        have hm:t∈ [24,36]:=by simpa using Array.mem_of_getElem? ht
        have hall:([24,36].all fun u=> !Tryz.prog.wantsStandIn u)=true:=by kernel_rfl
        exact (show Tryz.prog.wantsStandIn t=false by simpa using List.all_eq_true.1 hall t hm)⟩)
    (by kernel_rfl)
#print axioms tevalSource_card
end Go.Proofs.YtddgkebdlgglaaaGreatDoor
