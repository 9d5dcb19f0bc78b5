import Derived.Test.YtddgkebdlgglaaaGreatDoorMf
/- For every four integers, TevalDemurrage returns true. -/
namespace Go.Proofs.YtddgkebdlgglaaaGreatDoor
open Go.ChangeShapes Go.WideShapes Go.ChangeAt Go.RowKit
set_option linter.unusedVariables false
set_option linter.unusedSimpArgs false
set_option maxRecDepth 100000

theorem tevalDemurrage_lifted (os:Os) (started:os.Started) (H:Type) (enc:TypeId×Value->H):
    ReturnsInHanded {} Tryz.checked os 5 .any (fun w args=>(Rows.tevalDemurrageSpec.pre enc Tryz.prog Tryz.f5 [] false w args/\laidMetH Tryz.prog Zgf w)/\sizedMet enc Tryz.prog Tryz.f5 (OpenSpec.ofChange Rows.tevalDemurrageSpec) false w args)
      (Rows.tevalDemurrageSpec.post enc Tryz.prog Tryz.f5 false true false false):=by
  refine returnsInHanded_of_change_and (C:=Tryz.checked) (X:=fun w _=>laidMetH Tryz.prog Zgf w) (fun _ _ _ hh h=>h.of_heap hh) Tryz.own started (by kernel_rfl) Tryz.func5
    (ChangeSpec.witness_shaped (enc:=enc) (C:=Tryz.checked) (os:=os) (X:=fun w _=>laidMetH Tryz.prog Zgf w) false (Zk8 os) #[.int .i64 0,.int .i64 0,.int .i64 0,.int .i64 0] 8 (Zxm os) (Z1j os _) (by kernel_rfl) (by kernel_rfl) (by kernel_rfl) (Z1k os _)) ?_
  intro W base args ds gs before hval0 hW _ hz hL _
  have hval:∀(j:Nat) t v,Tryz.f5.params[j]? =some t->args[j]? =some v->Value.okWide Tryz.prog W .any base t v:=hval0
  have hW':=hW
  obtain ⟨p,q,hA0,hV,rfl,hfz,hnd⟩:=hW
  have hA:DataW.TrodAll enc Tryz.prog W 0 (fun _=>true) true Tryz.f5.params.toList args.toList ds p:=hA0
  rw [Tryz.params5] at hA hval hz
  obtain ⟨v0,v1,v2,v3,d0,d1,d2,d3,p0,p1,p2,p3,rfl,rfl,rfl,h0,h1,h2,h3⟩:=trodAll_four hA
  obtain ⟨rfl,rfl⟩:=trodVars_none hV
  obtain ⟨a,rfl,_,hra,_⟩:=open_int Tryz.underlying3 (hval 0 3 v0 rfl rfl) h0
  obtain ⟨b,rfl,_,hrb,_⟩:=open_int Tryz.underlying3 (hval 1 3 v1 rfl rfl) h1
  obtain ⟨c,rfl,_,hrc,_⟩:=open_int Tryz.underlying3 (hval 2 3 v2 rfl rfl) h2
  obtain ⟨d,rfl,_,hrd,_⟩:=open_int Tryz.underlying3 (hval 3 3 v3 rfl rfl) h3
  refine (Zyt (Z4u a b c d) hL (Zfz (.int _ _ _) (Zfz (.int _ _ _) (Zfz (.int _ _ _) (Ybh (.int _ _ _)))))).mono fun en W' ⟨hen,hw⟩=> ?_
  exact ⟨_,hen,Zw7 Tryz.laidOut rfl Tryz.underlying4 (by kernel_rfl) rfl hW' rfl rfl rfl hw⟩

theorem tevalDemurrage_holds:Rows.TevalDemurrageSaid:=
  OpenClaim.holds_of_wide 5 Tryz.f5 rfl rfl rfl rfl rfl rfl rfl ⟨rfl,rfl,rfl,rfl,rfl⟩ rfl rfl rfl rfl rfl (by kernel_rfl) Tryz.func5 (by kernel_rfl)
    (of_decide_eq_true (by kernel_rfl)) (by unfold Func.isWrapper;first|(rw [if_pos (by decide+kernel)];kernel_rfl)|(rw [if_neg (by decide+kernel)];exact ⟨rfl,rfl⟩))
    (fun os started H enc _=>tevalDemurrage_lifted os started H enc)

theorem tevalDemurrage_card:Rows.TevalDemurrageCardSaid:=
  Claim7.holds_tied_plain_at .later [] [.data,.data,.data,.data,.listed,.data,.mapped,.mapped,.pinned] true (true,"b8b66563b5afd0b9e131394a0da3adafbacf6e1cd5f7fcf29604f96349539b70") true
    tevalDemurrage_holds (fun _ h=>by cases h) (by kernel_rfl) (fun _ h=>by cases h) tevalDemurrage_row_tie rfl ⟨rfl,rfl⟩ (by kernel_rfl) rfl
    (fun f fn hf hfn=>by
      obtain rfl:f=5:=Option.some.inj ((show Tryz.prog.funcNamed "wagonpool/wagonpoollaw18.TevalDemurrage" =some 5 by kernel_rfl).symm.trans hf)|>.symm
      obtain rfl:fn=Tryz.f5:=(Option.some.inj (Tryz.func5.symm.trans hfn)).symm
      exact ⟨by kernel_rfl,fun j t ht=>by
        rw [Tryz.params5] at ht
        have hm:t∈ [3,3,3,3]:=by simpa using Array.mem_of_getElem? ht
        have hall:([3,3,3,3].all fun u=> !Tryz.prog.wantsStandIn u)=true:=by kernel_rfl
        exact (show Tryz.prog.wantsStandIn t=false by simpa using List.all_eq_true.1 hall t hm)⟩)
    (by kernel_rfl)
#print axioms tevalDemurrage_card
end Go.Proofs.YtddgkebdlgglaaaGreatDoor
