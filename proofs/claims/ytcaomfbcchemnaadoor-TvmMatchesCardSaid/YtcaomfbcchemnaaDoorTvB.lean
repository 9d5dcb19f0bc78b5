/- Chapter 21: money's functions, and the small ones. -/
import Derived.Test.YtcaomfbcchemnaaDoorTvOk
import Derived.Test.YtcaomfbcchemnaaDoorMoney
namespace Go.Proofs.YtcaomfbcchemnaaDoor
open Go
set_option linter.unusedVariables false
set_option linter.unusedSimpArgs false

noncomputable def dI : Dc E Int := dInt .i64
noncomputable def dII : DcL E (Int × Int × Unit) := .cons dI (.cons dI .nil)
noncomputable def dIII : DcL E (Int × Int × Int × Unit) := .cons dI (.cons dI (.cons dI .nil))
def pairV (p : Int × Int) : SV thy := .tup [.int false .i64 p.1, .int false .i64 p.2]
theorem good_of {f : Nat} {fn : Func} (h : fnT.get f = some fn) : FnGood Tryd.prog f := (Tr.get_all fn_all h : FnOk Tryd.prog f fn).good
theorem pure_ext2 {f : Nat} {a b : Int} {p : Int × Int} (h : ∀ w, Calls Tryd.prog f #[.int .i64 a, .int .i64 b] w fun e w' => e = .returned (.tuple #[.int .i64 p.1, .int .i64 p.2]) ∧ Ext w w') : PureC E f (dII.enc (a, b, ())) (pairV p) := by
  refine pure_of_ext fun g w vals hd => ?_
  obtain rfl := denL_int2 (vals := vals) hd
  refine (h w).mono ?_
  rintro en w' ⟨rfl, hx⟩
  exact ⟨_, rfl, den_pair, hx⟩
theorem pure_ext3 {f : Nat} {a b c : Int} {p : Int × Int} (h : ∀ w, Calls Tryd.prog f #[.int .i64 a, .int .i64 b, .int .i64 c] w fun e w' => e = .returned (.tuple #[.int .i64 p.1, .int .i64 p.2]) ∧ Ext w w') : PureC E f (dIII.enc (a, b, c, ())) (pairV p) := by
  refine pure_of_ext fun g w vals hd => ?_
  obtain rfl := denL_int3 (vals := vals) hd
  refine (h w).mono ?_
  rintro en w' ⟨rfl, hx⟩
  exact ⟨_, rfl, den_pair, hx⟩
noncomputable def S2 (f : Int → Int → Int × Int) : Sum thy := sumP dII (fun _ => True) fun x => pairV (f x.1 x.2.1)
noncomputable def S3 (f : Int → Int → Int → Int × Int) : Sum thy := sumP dIII (fun _ => True) fun x => pairV (f x.1 x.2.1 x.2.2.1)
noncomputable def F1 : Fns thy := addS (addS (addS (addS (addS (addS (addS (addS F0 104 (S2 addF)) 105 (S2 subF)) 106 (S2 mulF)) 110 (S3 divF)) 77 (S2 addF)) 78 (S2 subF)) 79 (S2 mulF)) 80 (S3 divF)
theorem F1_ok : FnsOk E F1 := by
  refine addS_ok (addS_ok (addS_ok (addS_ok (addS_ok (addS_ok (addS_ok (addS_ok F0_ok ?_) ?_) ?_) ?_) ?_) ?_) ?_) ?_
  · exact sumP_ok E_ok (good_of (f := 104) rfl) fun x _ => pure_ext2 fun w => add_any _ _ w
  · exact sumP_ok E_ok (good_of (f := 105) rfl) fun x _ => pure_ext2 fun w => sub_any _ _ w
  · exact sumP_ok E_ok (good_of (f := 106) rfl) fun x _ => pure_ext2 fun w => mul_any _ _ w
  · exact sumP_ok E_ok (good_of (f := 110) rfl) fun x _ => pure_ext3 fun w => div_any _ _ _ w
  · exact sumP_ok E_ok (good_of (f := 77) rfl) fun x _ => pure_ext2 fun w => (radd_any _ _ w).mono fun e w' h => ⟨h.1, h.2 ▸ Ext.refl _⟩
  · exact sumP_ok E_ok (good_of (f := 78) rfl) fun x _ => pure_ext2 fun w => (rsub_any _ _ w).mono fun e w' h => ⟨h.1, h.2 ▸ Ext.refl _⟩
  · exact sumP_ok E_ok (good_of (f := 79) rfl) fun x _ => pure_ext2 fun w => (rmul_any _ _ w).mono fun e w' h => ⟨h.1, h.2 ▸ Ext.refl _⟩
  · exact sumP_ok E_ok (good_of (f := 80) rfl) fun x _ => pure_ext3 fun w => (rdiv_any _ _ _ w).mono fun e w' h => ⟨h.1, h.2 ▸ Ext.refl _⟩
end Go.Proofs.YtcaomfbcchemnaaDoor
