import Derived.Test.YtpepmaehafjfbaaDoorMe
/- For every tariff and all attributes, TvmMeaning returns true. -/
namespace Go.Proofs.YtpepmaehafjfbaaDoor
open Go.ChangeShapes Go.WideShapes Go.ChangeAt Go.RowKit
set_option linter.unusedVariables false
set_option linter.unusedSimpArgs false
set_option maxRecDepth 100000

theorem tvmMeaning_lifted (os:Os) (started:os.Started) (H:Type) (enc:TypeId×Value->H):
    ReturnsInHanded {} Tryd.checked os 3 .any (fun w args=>(Rows.tvmMeaningSpec.pre enc Tryd.prog Tryd.f3 [] false w args/\laidMetH Tryd.prog laidM w)/\sizedMet enc Tryd.prog Tryd.f3 (OpenSpec.ofChange Rows.tvmMeaningSpec) false w args)
      (Rows.tvmMeaningSpec.post enc Tryd.prog Tryd.f3 false true false false):=by
  refine returnsInHanded_of_change_and (C:=Tryd.checked) (X:=fun w _=>laidMetH Tryd.prog laidM w) (fun _ _ _ hh h=>h.of_heap hh) Tryd.own started (by kernel_rfl) Tryd.func3
    (ChangeSpec.witness_shaped (enc:=enc) (C:=Tryd.checked) (os:=os) (X:=fun w _=>laidMetH Tryd.prog laidM w) false (Zjj os) #[.agg #[.string ⟨#[]⟩,.int .i64 0,.slice none 0 0],.agg #[.int .i64 0,.int .i64 0,.int .i64 0,.int .i64 0,.int .i64 0,.int .i64 0,.int .i64 0,.int .i64 0,.int .i64 0,.int .i64 0,.int .i64 0,.int .i64 0,.int .i64 0,.int .i64 0,.int .i64 0,.int .i64 0,.int .i64 0]] 8 (Ztr os) (Zwr os _) (by kernel_rfl) (by kernel_rfl) (by kernel_rfl) (Zws os _)) ?_
  intro W base args ds gs before hval0 hW _ hz hL _
  have hval:∀(j:Nat) t v,Tryd.f3.params[j]? =some t->args[j]? =some v->Value.okWide Tryd.prog W .any base t v:=hval0
  have hW':=hW
  obtain ⟨p,q,hA0,hV,rfl,hfz,hnd⟩:=hW
  have hA:DataW.TrodAll enc Tryd.prog W 0 (fun _=>true) true Tryd.f3.params.toList args.toList ds p:=hA0
  rw [Tryd.params3] at hA hval hz
  obtain ⟨v0,v1,d0,d1,p0,p1,rfl,rfl,rfl,h0,h1⟩:=trodAll_two hA
  obtain ⟨rfl,rfl⟩:=trodVars_none hV
  obtain ⟨t,hdt⟩:=Zkj h0
  obtain ⟨v,hdv⟩:=Zue h1
  refine (Zp2 (Zjb t v) hL (Zqq hdt (Z14 hdv))).mono fun en W' ⟨hen,hw⟩=> ?_
  exact ⟨_,hen,Zqo Tryd.laidOut rfl Tryd.underlying4 (by kernel_rfl) rfl hW' rfl rfl rfl hw⟩

theorem tvmMeaning_holds:Rows.TvmMeaningSaid:=
  OpenClaim.holds_of_wide 3 Tryd.f3 rfl rfl rfl rfl rfl rfl rfl ⟨rfl,rfl,rfl,rfl,rfl⟩ rfl rfl rfl rfl rfl (by kernel_rfl) Tryd.func3 (by kernel_rfl)
    (of_decide_eq_true (by kernel_rfl)) (by unfold Func.isWrapper;first|(rw [if_pos (by decide+kernel)];kernel_rfl)|(rw [if_neg (by decide+kernel)];exact ⟨rfl,rfl⟩))
    (fun os started H enc _=>tvmMeaning_lifted os started H enc)

theorem tvmMeaning_card:Rows.TvmMeaningCardSaid:=
  Claim7.holds_tied_plain_at .later [] [.data,.mapped,.funcs,.pinned] true (true,"e33631527e653db4dba928defb7d68c692c100a1d2e588e7d38a96f9c962741f") true
    tvmMeaning_holds (fun _ h=>by cases h) (by kernel_rfl) (fun _ h=>by cases h) tvmMeaning_row_tie rfl ⟨rfl,rfl⟩ (by kernel_rfl) rfl
    (fun f fn hf hfn=>by
      obtain rfl:f=3:=Option.some.inj ((show Tryd.prog.funcNamed "wagonpool/wagonpoollaw21.TvmMeaning" =some 3 by kernel_rfl).symm.trans hf)|>.symm
      obtain rfl:fn=Tryd.f3:=(Option.some.inj (Tryd.func3.symm.trans hfn)).symm
      exact ⟨by kernel_rfl,fun j t ht=>by
        rw [Tryd.params3] at ht
        have hm:t∈ [24,27]:=by simpa using Array.mem_of_getElem? ht
        have hall:([24,27].all fun u=> !Tryd.prog.wantsStandIn u)=true:=by kernel_rfl
        exact (show Tryd.prog.wantsStandIn t=false by simpa using List.all_eq_true.1 hall t hm)⟩)
    (by kernel_rfl)
#print axioms tvmMeaning_card
end Go.Proofs.YtpepmaehafjfbaaDoor
