import Derived.Test.YthonhikjbpplnaaGreatDoorMd
/- For all sums and weights, MoneyShares returns true. -/
namespace Go.Proofs.YthonhikjbpplnaaGreatDoor
open Go.ChangeShapes Go.WideShapes Go.ChangeAt Go.RowKit
set_option linter.unusedVariables false
set_option linter.unusedSimpArgs false
set_option maxRecDepth 100000

theorem moneyShares_lifted (os:Os) (started:os.Started) (H:Type) (enc:TypeId×Value->H):
    ReturnsInHanded {} Tryz.checked os 4 .any (fun w args=>(Rows.moneySharesSpec.pre enc Tryz.prog Tryz.f4 [] false w args/\laidMetH Tryz.prog Zbn w)/\sizedMet enc Tryz.prog Tryz.f4 (OpenSpec.ofChange Rows.moneySharesSpec) false w args)
      (Rows.moneySharesSpec.post enc Tryz.prog Tryz.f4 false true false false):=by
  refine returnsInHanded_of_change_and (C:=Tryz.checked) (X:=fun w _=>laidMetH Tryz.prog Zbn w) (fun _ _ _ hh h=>h.of_heap hh) Tryz.own started (by kernel_rfl) Tryz.func4
    (ChangeSpec.witness_shaped (enc:=enc) (C:=Tryz.checked) (os:=os) (X:=fun w _=>laidMetH Tryz.prog Zbn w) false (World.laidAll Tryz.prog os Zbn) #[.int .i64 0,.slice none 0 0] 8 (World.laidAll_os _ _ _) (Zou os) (by kernel_rfl) (by kernel_rfl) (by kernel_rfl) (Zov os _)) ?_
  intro W base args ds gs before hval0 hW _ hz hL _
  have hval:∀(j:Nat) t v,Tryz.f4.params[j]? =some t->args[j]? =some v->Value.okWide Tryz.prog W .any base t v:=hval0
  have hW':=hW
  obtain ⟨p,q,hA0,hV,rfl,hfz,hnd⟩:=hW
  have hA:DataW.TrodAll enc Tryz.prog W 0 (fun _=>true) true Tryz.f4.params.toList args.toList ds p:=hA0
  rw [Tryz.params4] at hA hval hz
  obtain ⟨v0,v1,d0,d1,p0,p1,rfl,rfl,rfl,h0,h1⟩:=trodAll_two hA
  obtain ⟨rfl,rfl⟩:=trodVars_none hV
  obtain ⟨t,rfl,_,_,hrt⟩:=open_int Tryz.underlying3 (hval 0 3 v0 rfl rfl) h0
  obtain ⟨ws,hdws⟩:=Zmq (hval 1 22 v1 rfl rfl) h1
  refine (Zmo (Zgw t ws) hL (Zmp (.int _ _ _) (Zty hdws))).mono fun en W' ⟨hen,hw⟩=> ?_
  exact ⟨_,hen,Zl1 Tryz.laidOut rfl Tryz.underlying4 (by kernel_rfl) rfl hW' rfl rfl rfl hw⟩

theorem moneyShares_holds:Rows.MoneySharesSaid:=
  OpenClaim.holds_of_wide 4 Tryz.f4 rfl rfl rfl rfl rfl rfl rfl ⟨rfl,rfl,rfl,rfl,rfl⟩ rfl rfl rfl rfl rfl (by kernel_rfl) Tryz.func4 (by kernel_rfl)
    (of_decide_eq_true (by kernel_rfl)) (by unfold Func.isWrapper;first|(rw [if_pos (by decide+kernel)];kernel_rfl)|(rw [if_neg (by decide+kernel)];exact ⟨rfl,rfl⟩))
    (fun os started H enc _=>moneyShares_lifted os started H enc)

theorem moneyShares_card:Rows.MoneySharesCardSaid:=
  Claim7.holds_tied_plain_at .later [] [.data,.data,.data,.data,.sentinel,.sentinel,.pinned] true (true,"08bb5ad0c2a3f8da4a01e0934b0195fefa26022237015b082316db8e86beb4e2") true
    moneyShares_holds (fun _ h=>by cases h) (by kernel_rfl) (fun _ h=>by cases h) moneyShares_row_tie rfl ⟨rfl,rfl⟩ (by kernel_rfl) rfl
    (fun f fn hf hfn=>by
      obtain rfl:f=4:=Option.some.inj ((show Tryz.prog.funcNamed "wagonpool/wagonpoollaw07.MoneyShares" =some 4 by kernel_rfl).symm.trans hf)|>.symm
      obtain rfl:fn=Tryz.f4:=(Option.some.inj (Tryz.func4.symm.trans hfn)).symm
      exact ⟨by kernel_rfl,fun j t ht=>by
        rw [Tryz.params4] at ht
        have hm:t∈ [3,22]:=by simpa using Array.mem_of_getElem? ht
        have hall:([3,22].all fun u=> !Tryz.prog.wantsStandIn u)=true:=by kernel_rfl
        exact (show Tryz.prog.wantsStandIn t=false by simpa using List.all_eq_true.1 hall t hm)⟩)
    (by kernel_rfl)
#print axioms moneyShares_card
end Go.Proofs.YthonhikjbpplnaaGreatDoor
