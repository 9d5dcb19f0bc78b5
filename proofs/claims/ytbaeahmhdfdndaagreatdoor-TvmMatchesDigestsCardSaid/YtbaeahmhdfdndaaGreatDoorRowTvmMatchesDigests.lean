import Derived.Test.YtbaeahmhdfdndaaGreatDoorMe
/- For all programs, attributes, states, openings and numbers, TvmMatchesDigests returns true. -/
namespace Go.Proofs.YtbaeahmhdfdndaaGreatDoor
open Go.ChangeShapes Go.WideShapes Go.ChangeAt Go.RowKit
set_option linter.unusedVariables false
set_option linter.unusedSimpArgs false
set_option maxRecDepth 100000

theorem tvmMatchesDigests_lifted (os:Os) (started:os.Started) (H:Type) (enc:TypeId×Value->H):
    ReturnsInHanded {} Tryz.checked os 3 .any (fun w args=>(Rows.tvmMatchesDigestsSpec.pre enc Tryz.prog Tryz.f3 [] false w args/\laidMetH Tryz.prog Zb5 w)/\sizedMet enc Tryz.prog Tryz.f3 (OpenSpec.ofChange Rows.tvmMatchesDigestsSpec) false w args)
      (Rows.tvmMatchesDigestsSpec.post enc Tryz.prog Tryz.f3 false true false false):=by
  refine returnsInHanded_of_change_and (C:=Tryz.checked) (X:=fun w _=>laidMetH Tryz.prog Zb5 w) (fun _ _ _ hh h=>h.of_heap hh) Tryz.own started (by kernel_rfl) Tryz.func3
    (ChangeSpec.witness_shaped (enc:=enc) (C:=Tryz.checked) (os:=os) (X:=fun w _=>laidMetH Tryz.prog Zb5 w) false (World.doorLaid Tryz.prog 600 os) #[.slice none 0 0,.agg #[.int .i64 0,.int .i64 0,.int .i64 0,.int .i64 0,.int .i64 0,.int .i64 0,.int .i64 0,.int .i64 0,.int .i64 0,.int .i64 0,.int .i64 0,.int .i64 0,.int .i64 0,.int .i64 0,.int .i64 0,.int .i64 0,.int .i64 0],.agg #[.int .i64 0,.int .i64 0,.int .i64 0,.int .i64 0,.slice none 0 0],.agg #[.int .i64 0,.int .i64 0,.int .i64 0,.int .i64 0,.slice none 0 0,.int .i64 0,.int .u8 0,.int .u8 0,.int .u8 0,.int .u8 0,.int .u8 0,.int .u8 0,.int .u8 0,.int .u8 0,.int .u8 0,.int .u8 0,.int .u8 0,.int .u8 0,.int .u8 0,.int .u8 0,.int .u8 0,.int .u8 0,.int .u8 0,.int .u8 0,.int .u8 0,.int .u8 0,.int .u8 0,.int .u8 0,.int .u8 0,.int .u8 0,.int .u8 0,.int .u8 0,.int .u8 0,.int .u8 0,.int .u8 0,.int .u8 0,.int .u8 0,.int .u8 0],.int .i64 0] 8 rfl (World.shaped_of_RefB (by kernel_rfl) (by kernel_rfl)) (by kernel_rfl) (by kernel_rfl) (by kernel_rfl) (Zrl os _)) ?_
  intro W base args ds gs before hval0 hW _ hz hL _
  have hval:∀(j:Nat) t v,Tryz.f3.params[j]? =some t->args[j]? =some v->Value.okWide Tryz.prog W .any base t v:=hval0
  have hW':=hW
  obtain ⟨p,q,hA0,hV,rfl,hfz,hnd⟩:=hW
  have hA:DataW.TrodAll enc Tryz.prog W 0 (fun _=>true) true Tryz.f3.params.toList args.toList ds p:=hA0
  rw [Tryz.params3] at hA hval hz
  obtain ⟨v0,v1,v2,v3,v4,d0,d1,d2,d3,d4,p0,p1,p2,p3,p4,rfl,rfl,rfl,h0,h1,h2,h3,h4⟩:=Ziq hA
  obtain ⟨rfl,rfl⟩:=trodVars_none hV
  obtain ⟨c,hdc⟩:=Zut (hval 0 23 v0 rfl rfl) h0
  obtain ⟨x,hdx⟩:=Zxo h1
  obtain ⟨s,hds⟩:=Zqj h2
  obtain ⟨o,hdo⟩:=Zwg h3
  obtain ⟨n,rfl,_,hrn,_⟩:=open_int Tryz.underlying3 (hval 4 3 v4 rfl rfl) h4
  refine (Zoh (Zrq c x s o n) hL (Za4 hdc (Za4 hdx (Za4 hds (Za4 hdo (Z3r (.int _ _ _))))))).mono fun en W' ⟨hen,hw⟩=> ?_
  exact ⟨_,hen,Zrx Tryz.laidOut rfl Tryz.underlying4 (by kernel_rfl) rfl hW' rfl rfl rfl hw⟩

theorem tvmMatchesDigests_holds:Rows.TvmMatchesDigestsSaid:=
  OpenClaim.holds_of_wide 3 Tryz.f3 rfl rfl rfl rfl rfl rfl rfl ⟨rfl,rfl,rfl,rfl,rfl⟩ rfl rfl rfl rfl rfl (by kernel_rfl) Tryz.func3 (by kernel_rfl)
    (of_decide_eq_true (by kernel_rfl)) (by unfold Func.isWrapper;first|(rw [if_pos (by decide+kernel)];kernel_rfl)|(rw [if_neg (by decide+kernel)];exact ⟨rfl,rfl⟩))
    (fun os started H enc _=>tvmMatchesDigests_lifted os started H enc)

theorem tvmMatchesDigests_card:Rows.TvmMatchesDigestsCardSaid:=
  Claim7.holds_tied_plain_at .later [] [.data,.funcs] true (true,"a980d4a7b916369c1db714cb0599bafe7e1d7be7b29b44f52ce8188f9247d361") false
    tvmMatchesDigests_holds (fun _ h=>by cases h) (by kernel_rfl) (fun _ h=>by cases h) tvmMatchesDigests_row_tie rfl ⟨rfl,rfl⟩ (by kernel_rfl) rfl
    (fun f fn hf hfn=>by
      obtain rfl:f=3:=Option.some.inj ((show Tryz.prog.funcNamed "wagonpool/wagonpoollaw21.TvmMatchesDigests" =some 3 by kernel_rfl).symm.trans hf)|>.symm
      obtain rfl:fn=Tryz.f3:=(Option.some.inj (Tryz.func3.symm.trans hfn)).symm
      exact ⟨by kernel_rfl,fun j t ht=>by
        rw [Tryz.params3] at ht
        have hm:t∈ [23,26,29,33,3]:=by simpa using Array.mem_of_getElem? ht
        have hall:([23,26,29,33,3].all fun u=> !Tryz.prog.wantsStandIn u)=true:=by kernel_rfl
        exact (show Tryz.prog.wantsStandIn t=false by simpa using List.all_eq_true.1 hall t hm)⟩)
    (by kernel_rfl)
#print axioms tvmMatchesDigests_card
end Go.Proofs.YtbaeahmhdfdndaaGreatDoor
