/- TevalMatchesAmount: the walk. -/
import Derived.Test.YtophdbbbojnobaaProg
import Derived.Test.YtophdbbbojnobaaFewCl
namespace Go.Proofs.Ytophdbbbojnobaa
open Go.RowKit
set_option linter.unusedVariables false

noncomputable def lbC0 : Code := ((Try.f4.body.bind (regionOf 0)).getD .skip)
def lb0D : List (Option Tmp) := [some 2, some 3, some 4]
def lb0P (x : Ev) (t : Tf)  : List (World → Value → Prop) := [(VarP 3 (TfP t)), (VarP 17 (Is (.agg x.cells.toArray))), (Is (.bool false))]
set_option maxHeartbeats 2000000 in
set_option maxRecDepth 100000 in
theorem lb0 (x : Ev) (hok : x.ok) (t : Tf)   (Q : Exit → Act → World → Prop) (a0 : Act) (W : World) (hsz : a0.tmps.size = 83) (g0 : (TfP t) W (a0.eval (.tmp 0))) (g1 : (Is (.agg x.cells.toArray)) W (a0.eval (.tmp 1)))
    (hQ : ∀ a1 W1, Ext W W1 → (∀ t, lb0D.contains (some t) = false → a1.eval (.tmp t) = a0.eval (.tmp t)) → a1.tmps.size = 83 → a1.defers = a0.defers → (VarP 3 (TfP t)) W1 (a1.eval (.tmp 2)) → (VarP 17 (Is (.agg x.cells.toArray))) W1 (a1.eval (.tmp 3)) → Q .normal a1 W1) : lbC0.wp Try.prog Q a0 W := by
  conv => arg 2; whnf
  refine wp_region_sq 3 lb0D (lb0P x t ) 83 (by kernel_rfl) hsz ?_ ?_ ?_
  · exact AllSt.cons (VarP.st TfP.st) (AllSt.cons (VarP.st (Is.st _)) (AllSt.cons (Is.st _) (AllSt.nil)))
  · simp only [List.take_succ_cons, List.take_zero]
    refine ObL.cons trivial (fun v ρ w hx hd S => op_box (n := 3) (p := TfP t) rfl TfP.st (by obtain ⟨cs, h1, sv, h2, _⟩ := (show (TfP t) w (ρ (.tmp 0)) from (S.out rfl (TfP.st _ _ _ hx g0))); exact ⟨cs, h1, by rw [h2]; rfl⟩) (S.out rfl (TfP.st _ _ _ hx g0))) ?_
    refine ObL.cons trivial (fun v ρ w hx hd S => op_box (n := 17) (p := Is (.agg x.cells.toArray)) rfl (Is.st _) ⟨_, (S.out rfl ((Is.st _) _ _ _ hx g1)), by simp [Ev.cells, hok.1]⟩ (S.out rfl ((Is.st _) _ _ _ hx g1))) ?_
    refine ObL.cons trivial (fun v ρ w hx hd S => op_move (p := Is (.bool false)) (.inr rfl) (S.c _)) ?_
    exact ObL.nil
  · intro v a1 w hx hPP S hs hdf
    refine wpList_nil ?_
    exact hQ a1 w hx S.o hs hdf (S.dep 0 rfl (hPP 0 (by decide))) (S.dep 1 rfl (hPP 1 (by decide)))

noncomputable def lbC1 : Code := ((Try.f4.body.bind (regionOf 1)).getD .skip)
def lb1D : List (Option Tmp) := [some 16, some 17]
def lb1P (x : Ev) (t : Tf)  : List (World → Value → Prop) := [(Is (.bool true)), (Is (.bool false))]
set_option maxHeartbeats 2000000 in
set_option maxRecDepth 100000 in
theorem lb1 (x : Ev) (hok : x.ok) (t : Tf)   (Q : Exit → Act → World → Prop) (a0 : Act) (W : World) (hsz : a0.tmps.size = 83) 
    (hQ : ∀ a1 W1, Ext W W1 → (∀ t, lb1D.contains (some t) = false → a1.eval (.tmp t) = a0.eval (.tmp t)) → a1.tmps.size = 83 → a1.defers = a0.defers → (Is (.bool false)) W1 (a1.eval (.tmp 17)) → Q .normal a1 W1) : lbC1.wp Try.prog Q a0 W := by
  conv => arg 2; whnf
  refine wp_region_sq 2 lb1D (lb1P x t ) 83 (by kernel_rfl) hsz ?_ ?_ ?_
  · exact AllSt.cons (Is.st _) (AllSt.cons (Is.st _) (AllSt.nil))
  · simp only [List.take_succ_cons, List.take_zero]
    refine ObL.cons trivial (fun v ρ w hx hd S => op_sane rfl S) ?_
    refine ObL.cons trivial (fun v ρ w hx hd S => op_not rfl (S.dep 0 rfl (hd 0 rfl))) ?_
    exact ObL.nil
  · intro v a1 w hx hPP S hs hdf
    refine wpList_nil ?_
    exact hQ a1 w hx S.o hs hdf (S.dep 1 rfl (hPP 1 (by decide)))

noncomputable def lbC3 : Code := ((Try.f4.body.bind (regionOf 3)).getD .skip)
def lb3aD : List (Option Tmp) := [some 18, some 19, some 20]
def lb3aP (x : Ev) (t : Tf)  : List (World → Value → Prop) := [(TfP t), (Is (.bool false)), (Is (.bool true))]
set_option maxHeartbeats 2000000 in
set_option maxRecDepth 100000 in
theorem lb3a (x : Ev) (hok : x.ok) (t : Tf)  (hfew : fewTF t = false) (Q : Exit → Act → World → Prop) (a0 : Act) (W : World) (hsz : a0.tmps.size = 83) (g2 : (VarP 3 (TfP t)) W (a0.eval (.tmp 2)))
    (hQ : ∀ a1 W1, Ext W W1 → (∀ t, lb3aD.contains (some t) = false → a1.eval (.tmp t) = a0.eval (.tmp t)) → a1.tmps.size = 83 → a1.defers = a0.defers → (Is (.bool true)) W1 (a1.eval (.tmp 20)) → Q .normal a1 W1) : lbC3.wp Try.prog Q a0 W := by
  conv => arg 2; whnf
  refine wp_region_sq 3 lb3aD (lb3aP x t ) 83 (by kernel_rfl) hsz ?_ ?_ ?_
  · exact AllSt.cons TfP.st (AllSt.cons (Is.st _) (AllSt.cons (Is.st _) (AllSt.nil)))
  · simp only [List.take_succ_cons, List.take_zero]
    refine ObL.cons trivial (fun v ρ w hx hd S => op_loadV _ _ rfl _ Try.underlying38 rfl info_tariff (S.out rfl ((VarP.st TfP.st) _ _ _ hx g2))) ?_
    refine ObL.cons trivial (fun v ρ w hx hd S => (op_fewClauses rfl S (S.dep 0 rfl (hd 0 rfl))).mono fun u w1 hu => ⟨hu.1, hu.2.trans (congrArg Value.bool hfew)⟩) ?_
    refine ObL.cons trivial (fun v ρ w hx hd S => op_not rfl (S.dep 1 rfl (hd 1 rfl))) ?_
    exact ObL.nil
  · intro v a1 w hx hPP S hs hdf
    refine wpList_nil ?_
    exact hQ a1 w hx S.o hs hdf (S.dep 2 rfl (hPP 2 (by decide)))

noncomputable def lbC4 : Code := ((Try.f4.body.bind (regionOf 4)).getD .skip)
def lb4D : List (Option Tmp) := [some 4]
def lb4P (x : Ev) (t : Tf)  : List (World → Value → Prop) := [(Is (.bool true))]
set_option maxHeartbeats 2000000 in
set_option maxRecDepth 100000 in
theorem lb4 (x : Ev) (hok : x.ok) (t : Tf)   (Q : Exit → Act → World → Prop) (a0 : Act) (W : World) (hsz : a0.tmps.size = 83) 
    (hQ : ∀ a1 W1, Ext W W1 → (∀ t, lb4D.contains (some t) = false → a1.eval (.tmp t) = a0.eval (.tmp t)) → a1.tmps.size = 83 → a1.defers = a0.defers → (Is (.bool true)) W1 (a1.eval (.tmp 4)) → Q .normal a1 W1) : lbC4.wp Try.prog Q a0 W := by
  conv => arg 2; whnf
  refine wp_region_sq 1 lb4D (lb4P x t ) 83 (by kernel_rfl) hsz ?_ ?_ ?_
  · exact AllSt.cons (Is.st _) (AllSt.nil)
  · simp only [List.take_succ_cons, List.take_zero]
    refine ObL.cons trivial (fun v ρ w hx hd S => op_move (p := Is (.bool true)) (.inr rfl) (S.c _)) ?_
    exact ObL.nil
  · intro v a1 w hx hPP S hs hdf
    refine wpList_nil ?_
    exact hQ a1 w hx S.o hs hdf (S.dep 0 rfl (hPP 0 (by decide)))

def lb3bD : List (Option Tmp) := [some 18, some 19, some 20]
def lb3bP (x : Ev) (t : Tf)  : List (World → Value → Prop) := [(TfP t), (Is (.bool true)), (Is (.bool false))]
set_option maxHeartbeats 2000000 in
set_option maxRecDepth 100000 in
theorem lb3b (x : Ev) (hok : x.ok) (t : Tf)  (hfew : fewTF t = true) (Q : Exit → Act → World → Prop) (a0 : Act) (W : World) (hsz : a0.tmps.size = 83) (g2 : (VarP 3 (TfP t)) W (a0.eval (.tmp 2)))
    (hQ : ∀ a1 W1, Ext W W1 → (∀ t, lb3bD.contains (some t) = false → a1.eval (.tmp t) = a0.eval (.tmp t)) → a1.tmps.size = 83 → a1.defers = a0.defers → (Is (.bool false)) W1 (a1.eval (.tmp 20)) → Q .normal a1 W1) : lbC3.wp Try.prog Q a0 W := by
  conv => arg 2; whnf
  refine wp_region_sq 3 lb3bD (lb3bP x t ) 83 (by kernel_rfl) hsz ?_ ?_ ?_
  · exact AllSt.cons TfP.st (AllSt.cons (Is.st _) (AllSt.cons (Is.st _) (AllSt.nil)))
  · simp only [List.take_succ_cons, List.take_zero]
    refine ObL.cons trivial (fun v ρ w hx hd S => op_loadV _ _ rfl _ Try.underlying38 rfl info_tariff (S.out rfl ((VarP.st TfP.st) _ _ _ hx g2))) ?_
    refine ObL.cons trivial (fun v ρ w hx hd S => (op_fewClauses rfl S (S.dep 0 rfl (hd 0 rfl))).mono fun u w1 hu => ⟨hu.1, hu.2.trans (congrArg Value.bool hfew)⟩) ?_
    refine ObL.cons trivial (fun v ρ w hx hd S => op_not rfl (S.dep 1 rfl (hd 1 rfl))) ?_
    exact ObL.nil
  · intro v a1 w hx hPP S hs hdf
    refine wpList_nil ?_
    exact hQ a1 w hx S.o hs hdf (S.dep 2 rfl (hPP 2 (by decide)))

noncomputable def lbC5 : Code := ((Try.f4.body.bind (regionOf 5)).getD .skip)
def lb5D : List (Option Tmp) := [some 22, some 23, some 24, some 21, some 25, some 26, some 27, some 5, some 6, some 7]
def lb5P (x : Ev) (t : Tf)  : List (World → Value → Prop) := [(TfP t), (Is (.agg x.cells.toArray)), (Is (.tuple #[.int .i64 ((amountF x t.cls 0).1), .int .i64 ((amountF x t.cls 0).2.1), .int .i64 ((amountF x t.cls 0).2.2)])), (Is (.tuple #[.int .i64 ((amountF x t.cls 0).1), .int .i64 ((amountF x t.cls 0).2.1), .int .i64 ((amountF x t.cls 0).2.2)])), (Is (.int .i64 ((amountF x t.cls 0).1))), (Is (.int .i64 ((amountF x t.cls 0).2.1))), (Is (.int .i64 ((amountF x t.cls 0).2.2))), (Is (.int .i64 ((amountF x t.cls 0).1))), (Is (.int .i64 ((amountF x t.cls 0).2.1))), (Is (.int .i64 ((amountF x t.cls 0).2.2)))]
set_option maxHeartbeats 2000000 in
set_option maxRecDepth 100000 in
theorem lb5 (x : Ev) (hok : x.ok) (t : Tf)   (Q : Exit → Act → World → Prop) (a0 : Act) (W : World) (hsz : a0.tmps.size = 83) (g2 : (VarP 3 (TfP t)) W (a0.eval (.tmp 2))) (g3 : (VarP 17 (Is (.agg x.cells.toArray))) W (a0.eval (.tmp 3)))
    (hQ : ∀ a1 W1, Ext W W1 → (∀ t, lb5D.contains (some t) = false → a1.eval (.tmp t) = a0.eval (.tmp t)) → a1.tmps.size = 83 → a1.defers = a0.defers → (Is (.int .i64 ((amountF x t.cls 0).1))) W1 (a1.eval (.tmp 5)) → (Is (.int .i64 ((amountF x t.cls 0).2.1))) W1 (a1.eval (.tmp 6)) → (Is (.int .i64 ((amountF x t.cls 0).2.2))) W1 (a1.eval (.tmp 7)) → Q .normal a1 W1) : lbC5.wp Try.prog Q a0 W := by
  conv => arg 2; whnf
  refine wp_region_sq 10 lb5D (lb5P x t ) 83 (by kernel_rfl) hsz ?_ ?_ ?_
  · exact AllSt.cons TfP.st (AllSt.cons (Is.st _) (AllSt.cons (Is.st _) (AllSt.cons (Is.st _) (AllSt.cons (Is.st _) (AllSt.cons (Is.st _) (AllSt.cons (Is.st _) (AllSt.cons (Is.st _) (AllSt.cons (Is.st _) (AllSt.cons (Is.st _) (AllSt.nil))))))))))
  · simp only [List.take_succ_cons, List.take_zero]
    refine ObL.cons trivial (fun v ρ w hx hd S => op_loadV _ _ rfl _ Try.underlying38 rfl info_tariff (S.out rfl ((VarP.st TfP.st) _ _ _ hx g2))) ?_
    refine ObL.cons trivial (fun v ρ w hx hd S => op_loadV _ _ rfl _ Try.underlying29 rfl info_env (S.out rfl ((VarP.st (Is.st _)) _ _ _ hx g3))) ?_
    refine ObL.cons trivial (fun v ρ w hx hd S => op_amountT x hok rfl S (S.dep 0 rfl (hd 0 rfl)) (S.dep 1 rfl (hd 1 rfl))) ?_
    refine ObL.cons trivial (fun v ρ w hx hd S => op_move (p := Is (.tuple #[.int .i64 ((amountF x t.cls 0).1), .int .i64 ((amountF x t.cls 0).2.1), .int .i64 ((amountF x t.cls 0).2.2)])) (.inl rfl) (S.dep 2 rfl (hd 2 rfl))) ?_
    refine ObL.cons trivial (fun v ρ w hx hd S => op_extract rfl (S.dep 3 rfl (hd 3 rfl)) rfl) ?_
    refine ObL.cons trivial (fun v ρ w hx hd S => op_extract rfl (S.dep 3 rfl (hd 3 rfl)) rfl) ?_
    refine ObL.cons trivial (fun v ρ w hx hd S => op_extract rfl (S.dep 3 rfl (hd 3 rfl)) rfl) ?_
    refine ObL.cons trivial (fun v ρ w hx hd S => op_move (p := Is (.int .i64 ((amountF x t.cls 0).1))) (.inr rfl) (S.dep 4 rfl (hd 4 rfl))) ?_
    refine ObL.cons trivial (fun v ρ w hx hd S => op_move (p := Is (.int .i64 ((amountF x t.cls 0).2.1))) (.inr rfl) (S.dep 5 rfl (hd 5 rfl))) ?_
    refine ObL.cons trivial (fun v ρ w hx hd S => op_move (p := Is (.int .i64 ((amountF x t.cls 0).2.2))) (.inr rfl) (S.dep 6 rfl (hd 6 rfl))) ?_
    exact ObL.nil
  · intro v a1 w hx hPP S hs hdf
    refine wpList_nil ?_
    exact hQ a1 w hx S.o hs hdf (S.dep 7 rfl (hPP 7 (by decide))) (S.dep 8 rfl (hPP 8 (by decide))) (S.dep 9 rfl (hPP 9 (by decide)))

noncomputable def lbC6 : Code := ((Try.f4.body.bind (regionOf 6)).getD .skip)
def lb6D : List (Option Tmp) := [some 29, some 30, some 31, some 28, some 32, some 33, some 34, some 8, some 9, some 10]
def lb6P (x : Ev) (t : Tf)  : List (World → Value → Prop) := [(TfP t), (Is (.agg x.cells.toArray)), (Is (.tuple #[.int .i64 ((amountF x t.cls 0).1), .int .i64 ((amountF x t.cls 0).2.1), .int .i64 ((amountF x t.cls 0).2.2)])), (Is (.tuple #[.int .i64 ((amountF x t.cls 0).1), .int .i64 ((amountF x t.cls 0).2.1), .int .i64 ((amountF x t.cls 0).2.2)])), (Is (.int .i64 ((amountF x t.cls 0).1))), (Is (.int .i64 ((amountF x t.cls 0).2.1))), (Is (.int .i64 ((amountF x t.cls 0).2.2))), (Is (.int .i64 ((amountF x t.cls 0).1))), (Is (.int .i64 ((amountF x t.cls 0).2.1))), (Is (.int .i64 ((amountF x t.cls 0).2.2)))]
set_option maxHeartbeats 2000000 in
set_option maxRecDepth 100000 in
theorem lb6 (x : Ev) (hok : x.ok) (t : Tf)   (Q : Exit → Act → World → Prop) (a0 : Act) (W : World) (hsz : a0.tmps.size = 83) (g2 : (VarP 3 (TfP t)) W (a0.eval (.tmp 2))) (g3 : (VarP 17 (Is (.agg x.cells.toArray))) W (a0.eval (.tmp 3)))
    (hQ : ∀ a1 W1, Ext W W1 → (∀ t, lb6D.contains (some t) = false → a1.eval (.tmp t) = a0.eval (.tmp t)) → a1.tmps.size = 83 → a1.defers = a0.defers → (Is (.int .i64 ((amountF x t.cls 0).1))) W1 (a1.eval (.tmp 8)) → (Is (.int .i64 ((amountF x t.cls 0).2.1))) W1 (a1.eval (.tmp 9)) → (Is (.int .i64 ((amountF x t.cls 0).2.2))) W1 (a1.eval (.tmp 10)) → Q .normal a1 W1) : lbC6.wp Try.prog Q a0 W := by
  conv => arg 2; whnf
  refine wp_region_sq 10 lb6D (lb6P x t ) 83 (by kernel_rfl) hsz ?_ ?_ ?_
  · exact AllSt.cons TfP.st (AllSt.cons (Is.st _) (AllSt.cons (Is.st _) (AllSt.cons (Is.st _) (AllSt.cons (Is.st _) (AllSt.cons (Is.st _) (AllSt.cons (Is.st _) (AllSt.cons (Is.st _) (AllSt.cons (Is.st _) (AllSt.cons (Is.st _) (AllSt.nil))))))))))
  · simp only [List.take_succ_cons, List.take_zero]
    refine ObL.cons trivial (fun v ρ w hx hd S => op_loadV _ _ rfl _ Try.underlying38 rfl info_tariff (S.out rfl ((VarP.st TfP.st) _ _ _ hx g2))) ?_
    refine ObL.cons trivial (fun v ρ w hx hd S => op_loadV _ _ rfl _ Try.underlying29 rfl info_env (S.out rfl ((VarP.st (Is.st _)) _ _ _ hx g3))) ?_
    refine ObL.cons trivial (fun v ρ w hx hd S => op_amountR x hok rfl S (S.dep 0 rfl (hd 0 rfl)) (S.dep 1 rfl (hd 1 rfl))) ?_
    refine ObL.cons trivial (fun v ρ w hx hd S => op_move (p := Is (.tuple #[.int .i64 ((amountF x t.cls 0).1), .int .i64 ((amountF x t.cls 0).2.1), .int .i64 ((amountF x t.cls 0).2.2)])) (.inl rfl) (S.dep 2 rfl (hd 2 rfl))) ?_
    refine ObL.cons trivial (fun v ρ w hx hd S => op_extract rfl (S.dep 3 rfl (hd 3 rfl)) rfl) ?_
    refine ObL.cons trivial (fun v ρ w hx hd S => op_extract rfl (S.dep 3 rfl (hd 3 rfl)) rfl) ?_
    refine ObL.cons trivial (fun v ρ w hx hd S => op_extract rfl (S.dep 3 rfl (hd 3 rfl)) rfl) ?_
    refine ObL.cons trivial (fun v ρ w hx hd S => op_move (p := Is (.int .i64 ((amountF x t.cls 0).1))) (.inr rfl) (S.dep 4 rfl (hd 4 rfl))) ?_
    refine ObL.cons trivial (fun v ρ w hx hd S => op_move (p := Is (.int .i64 ((amountF x t.cls 0).2.1))) (.inr rfl) (S.dep 5 rfl (hd 5 rfl))) ?_
    refine ObL.cons trivial (fun v ρ w hx hd S => op_move (p := Is (.int .i64 ((amountF x t.cls 0).2.2))) (.inr rfl) (S.dep 6 rfl (hd 6 rfl))) ?_
    exact ObL.nil
  · intro v a1 w hx hPP S hs hdf
    refine wpList_nil ?_
    exact hQ a1 w hx S.o hs hdf (S.dep 7 rfl (hPP 7 (by decide))) (S.dep 8 rfl (hPP 8 (by decide))) (S.dep 9 rfl (hPP 9 (by decide)))

noncomputable def lbC7 : Code := ((Try.f4.body.bind (regionOf 7)).getD .skip)
def lb7D : List (Option Tmp) := [some 11]
def lb7P (x : Ev) (t : Tf)  : List (World → Value → Prop) := [(Is (.int .i64 0))]
set_option maxHeartbeats 2000000 in
set_option maxRecDepth 100000 in
theorem lb7 (x : Ev) (hok : x.ok) (t : Tf)   (Q : Exit → Act → World → Prop) (a0 : Act) (W : World) (hsz : a0.tmps.size = 83) 
    (hQ : ∀ a1 W1, Ext W W1 → (∀ t, lb7D.contains (some t) = false → a1.eval (.tmp t) = a0.eval (.tmp t)) → a1.tmps.size = 83 → a1.defers = a0.defers → (Is (.int .i64 0)) W1 (a1.eval (.tmp 11)) → Q .normal a1 W1) : lbC7.wp Try.prog Q a0 W := by
  conv => arg 2; whnf
  refine wp_region_sq 1 lb7D (lb7P x t ) 83 (by kernel_rfl) hsz ?_ ?_ ?_
  · exact AllSt.cons (Is.st _) (AllSt.nil)
  · simp only [List.take_succ_cons, List.take_zero]
    refine ObL.cons trivial (fun v ρ w hx hd S => op_move (p := Is (.int .i64 0)) (.inr rfl) (S.c _)) ?_
    exact ObL.nil
  · intro v a1 w hx hPP S hs hdf
    refine wpList_nil ?_
    exact hQ a1 w hx S.o hs hdf (S.dep 0 rfl (hPP 0 (by decide)))

noncomputable def lbC8 : Code := ((Try.f4.body.bind (regionOf 8)).getD .skip)
def lb8aD : List (Option Tmp) := [some 35, some 36, some 37, some 38, some 39]
def lb8aP (x : Ev) (t : Tf) (k : Nat) : List (World → Value → Prop) := [(Is (.int .i64 (((k : Nat) : Int)))), (CellP (SlP 9 ClIn t.cls)), (SlP 9 ClIn t.cls), (Is (.int .i64 (((t.cls.length : Nat) : Int)))), (Is (.bool true))]
set_option maxHeartbeats 2000000 in
set_option maxRecDepth 100000 in
theorem lb8a (x : Ev) (hok : x.ok) (t : Tf) (k : Nat) (hkl : k < t.cls.length) (Q : Exit → Act → World → Prop) (a0 : Act) (W : World) (hsz : a0.tmps.size = 83) (g2 : (VarP 3 (TfP t)) W (a0.eval (.tmp 2))) (g11 : (Is (.int .i64 (((k : Nat) : Int)))) W (a0.eval (.tmp 11)))
    (hQ : ∀ a1 W1, Ext W W1 → (∀ t, lb8aD.contains (some t) = false → a1.eval (.tmp t) = a0.eval (.tmp t)) → a1.tmps.size = 83 → a1.defers = a0.defers → (Is (.bool true)) W1 (a1.eval (.tmp 39)) → Q .normal a1 W1) : lbC8.wp Try.prog Q a0 W := by
  conv => arg 2; whnf
  refine wp_region_sq 5 lb8aD (lb8aP x t k) 83 (by kernel_rfl) hsz ?_ ?_ ?_
  · exact AllSt.cons (Is.st _) (AllSt.cons (CellP.st (SlP.st ClIn.st)) (AllSt.cons (SlP.st ClIn.st) (AllSt.cons (Is.st _) (AllSt.cons (Is.st _) (AllSt.nil)))))
  · simp only [List.take_succ_cons, List.take_zero]
    refine ObL.cons trivial (fun v ρ w hx hd S => op_move (p := Is (.int .i64 (((k : Nat) : Int)))) (.inl rfl) (S.out rfl ((Is.st _) _ _ _ hx g11))) ?_
    refine ObL.cons trivial (fun v ρ w hx hd S => op_tfCls rfl (VarP.loc (S.out rfl ((VarP.st TfP.st) _ _ _ hx g2)))) ?_
    refine ObL.cons trivial (fun v ρ w hx hd S => op_loadCls rfl (S.dep 1 rfl (hd 1 rfl))) ?_
    refine ObL.cons trivial (fun v ρ w hx hd S => op_lenCls rfl (show (SlP 9 ClIn t.cls) w (ρ (.tmp 37)) from (S.dep 2 rfl (hd 2 rfl)))) ?_
    refine ObL.cons trivial (fun v ρ w hx hd S => (op_lss rfl (S.dep 0 rfl (hd 0 rfl)) (S.dep 3 rfl (hd 3 rfl))).mono fun u w1 hu => ⟨hu.1, hu.2.trans (congrArg Value.bool (decide_eq_true (by omega)))⟩) ?_
    exact ObL.nil
  · intro v a1 w hx hPP S hs hdf
    refine wpList_nil ?_
    exact hQ a1 w hx S.o hs hdf (S.dep 4 rfl (hPP 4 (by decide)))

noncomputable def lbC10 : Code := ((Try.f4.body.bind (regionOf 10)).getD .skip)
def lb10D : List (Option Tmp) := [some 43, some 44, some 45, some 46, some 47, some 48, some 49, some 42, some 50, some 51, some 12, some 13]
def lb10P (x : Ev) (t : Tf) (k : Nat) (c : Cl) : List (World → Value → Prop) := [(CellP (SlP 9 ClIn t.cls)), (SlP 9 ClIn t.cls), (Is (.int .i64 (((k : Nat) : Int)))), (LocP 9 (ClP c)), (ClP c), (Is (.agg x.cells.toArray)), (Is (.tuple #[.bool ((holdsF x c.tests).1), .int .i64 ((holdsF x c.tests).2)])), (Is (.tuple #[.bool ((holdsF x c.tests).1), .int .i64 ((holdsF x c.tests).2)])), (Is (.bool ((holdsF x c.tests).1))), (Is (.int .i64 ((holdsF x c.tests).2))), (Is (.bool ((holdsF x c.tests).1))), (Is (.int .i64 ((holdsF x c.tests).2)))]
set_option maxHeartbeats 2000000 in
set_option maxRecDepth 100000 in
theorem lb10 (x : Ev) (hok : x.ok) (t : Tf) (k : Nat) (c : Cl) (hi : t.cls[k]? = some c) (Q : Exit → Act → World → Prop) (a0 : Act) (W : World) (hsz : a0.tmps.size = 83) (g2 : (VarP 3 (TfP t)) W (a0.eval (.tmp 2))) (g3 : (VarP 17 (Is (.agg x.cells.toArray))) W (a0.eval (.tmp 3))) (g11 : (Is (.int .i64 (((k : Nat) : Int)))) W (a0.eval (.tmp 11)))
    (hQ : ∀ a1 W1, Ext W W1 → (∀ t, lb10D.contains (some t) = false → a1.eval (.tmp t) = a0.eval (.tmp t)) → a1.tmps.size = 83 → a1.defers = a0.defers → (Is (.bool ((holdsF x c.tests).1))) W1 (a1.eval (.tmp 12)) → (Is (.int .i64 ((holdsF x c.tests).2))) W1 (a1.eval (.tmp 13)) → Q .normal a1 W1) : lbC10.wp Try.prog Q a0 W := by
  conv => arg 2; whnf
  refine wp_region_st 12 lb10D (lb10P x t k c) 83 (by kernel_rfl) (by kernel_rfl) hsz ?_ ?_ ?_
  · exact AllSt.cons (CellP.st (SlP.st ClIn.st)) (AllSt.cons (SlP.st ClIn.st) (AllSt.cons (Is.st _) (AllSt.cons (LocP.st ClP.st) (AllSt.cons ClP.st (AllSt.cons (Is.st _) (AllSt.cons (Is.st _) (AllSt.cons (Is.st _) (AllSt.cons (Is.st _) (AllSt.cons (Is.st _) (AllSt.cons (Is.st _) (AllSt.cons (Is.st _) (AllSt.nil))))))))))))
  · simp only [List.take_succ_cons, List.take_zero]
    refine ObL.cons trivial (fun v ρ w hx hd S => op_tfCls rfl (VarP.loc (S.out rfl ((VarP.st TfP.st) _ _ _ hx g2)))) ?_
    refine ObL.cons trivial (fun v ρ w hx hd S => op_loadCls rfl (S.dep 0 rfl (hd 0 rfl))) ?_
    refine ObL.cons trivial (fun v ρ w hx hd S => op_move (p := Is (.int .i64 (((k : Nat) : Int)))) (.inl rfl) (S.out rfl ((Is.st _) _ _ _ hx g11))) ?_
    refine ObL.cons trivial (fun v ρ w hx hd S => op_clAt rfl (S.dep 1 rfl (hd 1 rfl)) (S.dep 2 rfl (hd 2 rfl)) hi) ?_
    refine ObL.cons trivial (fun v ρ w hx hd S => op_loadL _ _ rfl _ Try.underlying46 rfl info_clause (S.dep 3 rfl (hd 3 rfl))) ?_
    refine ObL.cons trivial (fun v ρ w hx hd S => op_loadV _ _ rfl _ Try.underlying29 rfl info_env (S.out rfl ((VarP.st (Is.st _)) _ _ _ hx g3))) ?_
    refine ObL.cons trivial (fun v ρ w hx hd S => op_holdsT x hok rfl S (S.dep 4 rfl (hd 4 rfl)) (S.dep 5 rfl (hd 5 rfl))) ?_
    refine ObL.cons trivial (fun v ρ w hx hd S => op_move (p := Is (.tuple #[.bool ((holdsF x c.tests).1), .int .i64 ((holdsF x c.tests).2)])) (.inl rfl) (S.dep 6 rfl (hd 6 rfl))) ?_
    refine ObL.cons trivial (fun v ρ w hx hd S => op_extract rfl (S.dep 7 rfl (hd 7 rfl)) rfl) ?_
    refine ObL.cons trivial (fun v ρ w hx hd S => op_extract rfl (S.dep 7 rfl (hd 7 rfl)) rfl) ?_
    refine ObL.cons trivial (fun v ρ w hx hd S => op_move (p := Is (.bool ((holdsF x c.tests).1))) (.inr rfl) (S.dep 8 rfl (hd 8 rfl))) ?_
    refine ObL.cons trivial (fun v ρ w hx hd S => op_move (p := Is (.int .i64 ((holdsF x c.tests).2))) (.inr rfl) (S.dep 9 rfl (hd 9 rfl))) ?_
    exact ObL.nil
  · intro v a1 w hx hPP S hs hdf
    refine stable_all (by kernel_rfl) ?_
    exact hQ a1 w hx S.o hs hdf (S.dep 10 rfl (hPP 10 (by decide))) (S.dep 11 rfl (hPP 11 (by decide)))

noncomputable def lbC11 : Code := ((Try.f4.body.bind (regionOf 11)).getD .skip)
def lb11D : List (Option Tmp) := [some 53, some 54, some 55, some 56, some 57, some 58, some 59, some 52, some 60, some 61, some 14, some 15]
def lb11P (x : Ev) (t : Tf) (k : Nat) (c : Cl) : List (World → Value → Prop) := [(CellP (SlP 9 ClIn t.cls)), (SlP 9 ClIn t.cls), (Is (.int .i64 (((k : Nat) : Int)))), (LocP 9 (ClP c)), (ClP c), (Is (.agg x.cells.toArray)), (Is (.tuple #[.bool ((holdsF x c.tests).1), .int .i64 ((holdsF x c.tests).2)])), (Is (.tuple #[.bool ((holdsF x c.tests).1), .int .i64 ((holdsF x c.tests).2)])), (Is (.bool ((holdsF x c.tests).1))), (Is (.int .i64 ((holdsF x c.tests).2))), (Is (.bool ((holdsF x c.tests).1))), (Is (.int .i64 ((holdsF x c.tests).2)))]
set_option maxHeartbeats 2000000 in
set_option maxRecDepth 100000 in
theorem lb11 (x : Ev) (hok : x.ok) (t : Tf) (k : Nat) (c : Cl) (hi : t.cls[k]? = some c) (Q : Exit → Act → World → Prop) (a0 : Act) (W : World) (hsz : a0.tmps.size = 83) (g2 : (VarP 3 (TfP t)) W (a0.eval (.tmp 2))) (g3 : (VarP 17 (Is (.agg x.cells.toArray))) W (a0.eval (.tmp 3))) (g11 : (Is (.int .i64 (((k : Nat) : Int)))) W (a0.eval (.tmp 11)))
    (hQ : ∀ a1 W1, Ext W W1 → (∀ t, lb11D.contains (some t) = false → a1.eval (.tmp t) = a0.eval (.tmp t)) → a1.tmps.size = 83 → a1.defers = a0.defers → (Is (.bool ((holdsF x c.tests).1))) W1 (a1.eval (.tmp 14)) → (Is (.int .i64 ((holdsF x c.tests).2))) W1 (a1.eval (.tmp 15)) → Q .normal a1 W1) : lbC11.wp Try.prog Q a0 W := by
  conv => arg 2; whnf
  refine wp_region_st 12 lb11D (lb11P x t k c) 83 (by kernel_rfl) (by kernel_rfl) hsz ?_ ?_ ?_
  · exact AllSt.cons (CellP.st (SlP.st ClIn.st)) (AllSt.cons (SlP.st ClIn.st) (AllSt.cons (Is.st _) (AllSt.cons (LocP.st ClP.st) (AllSt.cons ClP.st (AllSt.cons (Is.st _) (AllSt.cons (Is.st _) (AllSt.cons (Is.st _) (AllSt.cons (Is.st _) (AllSt.cons (Is.st _) (AllSt.cons (Is.st _) (AllSt.cons (Is.st _) (AllSt.nil))))))))))))
  · simp only [List.take_succ_cons, List.take_zero]
    refine ObL.cons trivial (fun v ρ w hx hd S => op_tfCls rfl (VarP.loc (S.out rfl ((VarP.st TfP.st) _ _ _ hx g2)))) ?_
    refine ObL.cons trivial (fun v ρ w hx hd S => op_loadCls rfl (S.dep 0 rfl (hd 0 rfl))) ?_
    refine ObL.cons trivial (fun v ρ w hx hd S => op_move (p := Is (.int .i64 (((k : Nat) : Int)))) (.inl rfl) (S.out rfl ((Is.st _) _ _ _ hx g11))) ?_
    refine ObL.cons trivial (fun v ρ w hx hd S => op_clAt rfl (S.dep 1 rfl (hd 1 rfl)) (S.dep 2 rfl (hd 2 rfl)) hi) ?_
    refine ObL.cons trivial (fun v ρ w hx hd S => op_loadL _ _ rfl _ Try.underlying46 rfl info_clause (S.dep 3 rfl (hd 3 rfl))) ?_
    refine ObL.cons trivial (fun v ρ w hx hd S => op_loadV _ _ rfl _ Try.underlying29 rfl info_env (S.out rfl ((VarP.st (Is.st _)) _ _ _ hx g3))) ?_
    refine ObL.cons trivial (fun v ρ w hx hd S => op_holdsR x hok rfl S (S.dep 4 rfl (hd 4 rfl)) (S.dep 5 rfl (hd 5 rfl))) ?_
    refine ObL.cons trivial (fun v ρ w hx hd S => op_move (p := Is (.tuple #[.bool ((holdsF x c.tests).1), .int .i64 ((holdsF x c.tests).2)])) (.inl rfl) (S.dep 6 rfl (hd 6 rfl))) ?_
    refine ObL.cons trivial (fun v ρ w hx hd S => op_extract rfl (S.dep 7 rfl (hd 7 rfl)) rfl) ?_
    refine ObL.cons trivial (fun v ρ w hx hd S => op_extract rfl (S.dep 7 rfl (hd 7 rfl)) rfl) ?_
    refine ObL.cons trivial (fun v ρ w hx hd S => op_move (p := Is (.bool ((holdsF x c.tests).1))) (.inr rfl) (S.dep 8 rfl (hd 8 rfl))) ?_
    refine ObL.cons trivial (fun v ρ w hx hd S => op_move (p := Is (.int .i64 ((holdsF x c.tests).2))) (.inr rfl) (S.dep 9 rfl (hd 9 rfl))) ?_
    exact ObL.nil
  · intro v a1 w hx hPP S hs hdf
    refine stable_all (by kernel_rfl) ?_
    exact hQ a1 w hx S.o hs hdf (S.dep 10 rfl (hPP 10 (by decide))) (S.dep 11 rfl (hPP 11 (by decide)))

noncomputable def lbC12 : Code := ((Try.f4.body.bind (regionOf 12)).getD .skip)
def lb12D : List (Option Tmp) := [some 62, some 63, some 64, some 65, some 66, some 67, some 68, some 69]
def lb12P (x : Ev) (t : Tf) (k : Nat) (c : Cl) : List (World → Value → Prop) := [(Is (.bool ((holdsF x c.tests).1))), (Is (.bool ((holdsF x c.tests).1))), (Is (.bool false)), (Is (.bool false)), (Is (.int .i64 ((holdsF x c.tests).2))), (Is (.int .i64 ((holdsF x c.tests).2))), (Is (.bool false)), (Is (.bool false))]
set_option maxHeartbeats 2000000 in
set_option maxRecDepth 100000 in
theorem lb12 (x : Ev) (hok : x.ok) (t : Tf) (k : Nat) (c : Cl)  (Q : Exit → Act → World → Prop) (a0 : Act) (W : World) (hsz : a0.tmps.size = 83) (g12 : (Is (.bool ((holdsF x c.tests).1))) W (a0.eval (.tmp 12))) (g13 : (Is (.int .i64 ((holdsF x c.tests).2))) W (a0.eval (.tmp 13))) (g14 : (Is (.bool ((holdsF x c.tests).1))) W (a0.eval (.tmp 14))) (g15 : (Is (.int .i64 ((holdsF x c.tests).2))) W (a0.eval (.tmp 15)))
    (hQ : ∀ a1 W1, Ext W W1 → (∀ t, lb12D.contains (some t) = false → a1.eval (.tmp t) = a0.eval (.tmp t)) → a1.tmps.size = 83 → a1.defers = a0.defers → (Is (.bool false)) W1 (a1.eval (.tmp 69)) → Q .normal a1 W1) : lbC12.wp Try.prog Q a0 W := by
  conv => arg 2; whnf
  refine wp_region_sq 8 lb12D (lb12P x t k c) 83 (by kernel_rfl) hsz ?_ ?_ ?_
  · exact AllSt.cons (Is.st _) (AllSt.cons (Is.st _) (AllSt.cons (Is.st _) (AllSt.cons (Is.st _) (AllSt.cons (Is.st _) (AllSt.cons (Is.st _) (AllSt.cons (Is.st _) (AllSt.cons (Is.st _) (AllSt.nil))))))))
  · simp only [List.take_succ_cons, List.take_zero]
    refine ObL.cons trivial (fun v ρ w hx hd S => op_move (p := Is (.bool ((holdsF x c.tests).1))) (.inl rfl) (S.out rfl ((Is.st _) _ _ _ hx g12))) ?_
    refine ObL.cons trivial (fun v ρ w hx hd S => op_move (p := Is (.bool ((holdsF x c.tests).1))) (.inl rfl) (S.out rfl ((Is.st _) _ _ _ hx g14))) ?_
    refine ObL.cons trivial (fun v ρ w hx hd S => (op_neqB rfl (S.dep 0 rfl (hd 0 rfl)) (S.dep 1 rfl (hd 1 rfl))).mono fun u w1 hu => ⟨hu.1, hu.2.trans (congrArg Value.bool (by simp))⟩) ?_
    refine ObL.cons trivial (fun v ρ w hx hd S => op_move (p := Is (.bool false)) (.inl rfl) (S.dep 2 rfl (hd 2 rfl))) ?_
    refine ObL.cons ⟨rfl, fun w u h => h⟩ (fun v ρ w hx hd S => op_move (p := Is (.int .i64 ((holdsF x c.tests).2))) (.inl rfl) (S.out rfl ((Is.st _) _ _ _ hx g13))) ?_
    refine ObL.cons ⟨rfl, fun w u h => h⟩ (fun v ρ w hx hd S => op_move (p := Is (.int .i64 ((holdsF x c.tests).2))) (.inl rfl) (S.out rfl ((Is.st _) _ _ _ hx g15))) ?_
    refine ObL.cons ⟨rfl, fun w u h => h⟩ (fun v ρ w hx hd S => (op_neq rfl (S.dep 4 rfl (hd 4 rfl)) (S.dep 5 rfl (hd 5 rfl))).mono fun u w1 hu => ⟨hu.1, hu.2.trans (congrArg Value.bool (by simp))⟩) ?_
    refine ObL.cons trivial (fun v ρ w hx hd S => op_pick (p := Is (.bool false)) false rfl (S.dep 3 rfl (hd 3 rfl)) (S.dep 6 rfl (hd 6 rfl))) ?_
    exact ObL.nil
  · intro v a1 w hx hPP S hs hdf
    refine wpList_nil ?_
    exact hQ a1 w hx S.o hs hdf (S.dep 7 rfl (hPP 7 (by decide)))

noncomputable def lbC9 : Code := ((Try.f4.body.bind (regionOf 9)).getD .skip)
def lb9E : List (Option Tmp) := [some 40, some 41]
def lb9D : List (Option Tmp) := lb9E ++ [some 11]
def lb9P (x : Ev) (t : Tf) (k : Nat) : List (World → Value → Prop) := [(Is (.int .i64 (((k : Nat) : Int)))), (Is (.int .i64 (((k + 1 : Nat) : Int))))]
set_option maxHeartbeats 2000000 in
set_option maxRecDepth 100000 in
theorem lb9 (x : Ev) (hok : x.ok) (t : Tf) (k : Nat) (hkl : k < t.cls.length) (h70 : t.cls.length ≤ 70) (Q : Exit → Act → World → Prop) (a0 : Act) (W : World) (hsz : a0.tmps.size = 83) (g11 : (Is (.int .i64 (((k : Nat) : Int)))) W (a0.eval (.tmp 11)))
    (hQ : ∀ a1 W1, Ext W W1 → (∀ t, lb9D.contains (some t) = false → a1.eval (.tmp t) = a0.eval (.tmp t)) → a1.tmps.size = 83 → a1.defers = a0.defers → (Is (.int .i64 (((k + 1 : Nat) : Int)))) W1 (a1.eval (.tmp 11)) → Q .normal a1 W1) : lbC9.wp Try.prog Q a0 W := by
  conv => arg 2; whnf
  refine wp_region_sq 2 lb9E (lb9P x t k) 83 (by kernel_rfl) hsz ?_ ?_ ?_
  · exact AllSt.cons (Is.st _) (AllSt.cons (Is.st _) (AllSt.nil))
  · simp only [List.take_succ_cons, List.take_zero]
    refine ObL.cons trivial (fun v ρ w hx hd S => op_move (p := Is (.int .i64 (((k : Nat) : Int)))) (.inl rfl) (S.out rfl ((Is.st _) _ _ _ hx g11))) ?_
    refine ObL.cons trivial (fun v ρ w hx hd S => (op_add rfl (S.dep 0 rfl (hd 0 rfl)) (S.c _) (by constructor <;> omega)).mono fun u w1 hu => ⟨hu.1, hu.2.trans (by simp)⟩) ?_
    exact ObL.nil
  · intro v a1 w hx hPP S hs hdf
    refine wpList_plain rfl fun K hK => ?_
    refine OpPost.wp (op_move (p := Is (.int .i64 (((k + 1 : Nat) : Int)))) (.inr rfl) (S.dep 1 rfl (hPP 1 (by decide)))) fun u w1 hu => ?_
    refine hK _ _ (wpList_nil ?_)
    exact hQ (a1.put (some 11) u) w1 (hx.trans hu.1) (put_others S) (put_size.trans hs) ((by rfl : _ = a1.defers).trans hdf) (by rw [put_same (by rw [hs]; decide)]; exact hu.2)

def lb8bD : List (Option Tmp) := [some 35, some 36, some 37, some 38, some 39]
def lb8bP (x : Ev) (t : Tf) (k : Nat) : List (World → Value → Prop) := [(Is (.int .i64 (((k : Nat) : Int)))), (CellP (SlP 9 ClIn t.cls)), (SlP 9 ClIn t.cls), (Is (.int .i64 (((t.cls.length : Nat) : Int)))), (Is (.bool false))]
set_option maxHeartbeats 2000000 in
set_option maxRecDepth 100000 in
theorem lb8b (x : Ev) (hok : x.ok) (t : Tf) (k : Nat) (hkl : ¬ k < t.cls.length) (Q : Exit → Act → World → Prop) (a0 : Act) (W : World) (hsz : a0.tmps.size = 83) (g2 : (VarP 3 (TfP t)) W (a0.eval (.tmp 2))) (g11 : (Is (.int .i64 (((k : Nat) : Int)))) W (a0.eval (.tmp 11)))
    (hQ : ∀ a1 W1, Ext W W1 → (∀ t, lb8bD.contains (some t) = false → a1.eval (.tmp t) = a0.eval (.tmp t)) → a1.tmps.size = 83 → a1.defers = a0.defers → (Is (.bool false)) W1 (a1.eval (.tmp 39)) → Q .normal a1 W1) : lbC8.wp Try.prog Q a0 W := by
  conv => arg 2; whnf
  refine wp_region_sq 5 lb8bD (lb8bP x t k) 83 (by kernel_rfl) hsz ?_ ?_ ?_
  · exact AllSt.cons (Is.st _) (AllSt.cons (CellP.st (SlP.st ClIn.st)) (AllSt.cons (SlP.st ClIn.st) (AllSt.cons (Is.st _) (AllSt.cons (Is.st _) (AllSt.nil)))))
  · simp only [List.take_succ_cons, List.take_zero]
    refine ObL.cons trivial (fun v ρ w hx hd S => op_move (p := Is (.int .i64 (((k : Nat) : Int)))) (.inl rfl) (S.out rfl ((Is.st _) _ _ _ hx g11))) ?_
    refine ObL.cons trivial (fun v ρ w hx hd S => op_tfCls rfl (VarP.loc (S.out rfl ((VarP.st TfP.st) _ _ _ hx g2)))) ?_
    refine ObL.cons trivial (fun v ρ w hx hd S => op_loadCls rfl (S.dep 1 rfl (hd 1 rfl))) ?_
    refine ObL.cons trivial (fun v ρ w hx hd S => op_lenCls rfl (show (SlP 9 ClIn t.cls) w (ρ (.tmp 37)) from (S.dep 2 rfl (hd 2 rfl)))) ?_
    refine ObL.cons trivial (fun v ρ w hx hd S => (op_lss rfl (S.dep 0 rfl (hd 0 rfl)) (S.dep 3 rfl (hd 3 rfl))).mono fun u w1 hu => ⟨hu.1, hu.2.trans (congrArg Value.bool (decide_eq_false (by omega)))⟩) ?_
    exact ObL.nil
  · intro v a1 w hx hPP S hs hdf
    refine wpList_nil ?_
    exact hQ a1 w hx S.o hs hdf (S.dep 4 rfl (hPP 4 (by decide)))

noncomputable def lbC14 : Code := ((Try.f4.body.bind (regionOf 14)).getD .skip)
def lb14D : List (Option Tmp) := [some 70, some 71, some 72, some 73, some 74, some 75, some 76, some 77, some 78, some 79, some 80, some 81, some 82, some 4]
def lb14P (x : Ev) (t : Tf)  : List (World → Value → Prop) := [(Is (.int .i64 ((amountF x t.cls 0).1))), (Is (.int .i64 ((amountF x t.cls 0).1))), (Is (.bool true)), (Is (.bool true)), (Is (.int .i64 ((amountF x t.cls 0).2.1))), (Is (.int .i64 ((amountF x t.cls 0).2.1))), (Is (.bool true)), (Is (.bool true)), (Is (.bool true)), (Is (.int .i64 ((amountF x t.cls 0).2.2))), (Is (.int .i64 ((amountF x t.cls 0).2.2))), (Is (.bool true)), (Is (.bool true)), (Is (.bool true))]
set_option maxHeartbeats 2000000 in
set_option maxRecDepth 100000 in
theorem lb14 (x : Ev) (hok : x.ok) (t : Tf)   (Q : Exit → Act → World → Prop) (a0 : Act) (W : World) (hsz : a0.tmps.size = 83) (g5 : (Is (.int .i64 ((amountF x t.cls 0).1))) W (a0.eval (.tmp 5))) (g6 : (Is (.int .i64 ((amountF x t.cls 0).2.1))) W (a0.eval (.tmp 6))) (g7 : (Is (.int .i64 ((amountF x t.cls 0).2.2))) W (a0.eval (.tmp 7))) (g8 : (Is (.int .i64 ((amountF x t.cls 0).1))) W (a0.eval (.tmp 8))) (g9 : (Is (.int .i64 ((amountF x t.cls 0).2.1))) W (a0.eval (.tmp 9))) (g10 : (Is (.int .i64 ((amountF x t.cls 0).2.2))) W (a0.eval (.tmp 10)))
    (hQ : ∀ a1 W1, Ext W W1 → (∀ t, lb14D.contains (some t) = false → a1.eval (.tmp t) = a0.eval (.tmp t)) → a1.tmps.size = 83 → a1.defers = a0.defers → (Is (.bool true)) W1 (a1.eval (.tmp 4)) → Q .normal a1 W1) : lbC14.wp Try.prog Q a0 W := by
  conv => arg 2; whnf
  refine wp_region_sq 14 lb14D (lb14P x t ) 83 (by kernel_rfl) hsz ?_ ?_ ?_
  · exact AllSt.cons (Is.st _) (AllSt.cons (Is.st _) (AllSt.cons (Is.st _) (AllSt.cons (Is.st _) (AllSt.cons (Is.st _) (AllSt.cons (Is.st _) (AllSt.cons (Is.st _) (AllSt.cons (Is.st _) (AllSt.cons (Is.st _) (AllSt.cons (Is.st _) (AllSt.cons (Is.st _) (AllSt.cons (Is.st _) (AllSt.cons (Is.st _) (AllSt.cons (Is.st _) (AllSt.nil))))))))))))))
  · simp only [List.take_succ_cons, List.take_zero]
    refine ObL.cons trivial (fun v ρ w hx hd S => op_move (p := Is (.int .i64 ((amountF x t.cls 0).1))) (.inl rfl) (S.out rfl ((Is.st _) _ _ _ hx g5))) ?_
    refine ObL.cons trivial (fun v ρ w hx hd S => op_move (p := Is (.int .i64 ((amountF x t.cls 0).1))) (.inl rfl) (S.out rfl ((Is.st _) _ _ _ hx g8))) ?_
    refine ObL.cons trivial (fun v ρ w hx hd S => (op_eql rfl (S.dep 0 rfl (hd 0 rfl)) (S.dep 1 rfl (hd 1 rfl))).mono fun u w1 hu => ⟨hu.1, hu.2.trans (congrArg Value.bool (by simp))⟩) ?_
    refine ObL.cons trivial (fun v ρ w hx hd S => op_move (p := Is (.bool true)) (.inl rfl) (S.dep 2 rfl (hd 2 rfl))) ?_
    refine ObL.cons ⟨rfl, fun w u h => h⟩ (fun v ρ w hx hd S => op_move (p := Is (.int .i64 ((amountF x t.cls 0).2.1))) (.inl rfl) (S.out rfl ((Is.st _) _ _ _ hx g6))) ?_
    refine ObL.cons ⟨rfl, fun w u h => h⟩ (fun v ρ w hx hd S => op_move (p := Is (.int .i64 ((amountF x t.cls 0).2.1))) (.inl rfl) (S.out rfl ((Is.st _) _ _ _ hx g9))) ?_
    refine ObL.cons ⟨rfl, fun w u h => h⟩ (fun v ρ w hx hd S => (op_eql rfl (S.dep 4 rfl (hd 4 rfl)) (S.dep 5 rfl (hd 5 rfl))).mono fun u w1 hu => ⟨hu.1, hu.2.trans (congrArg Value.bool (by simp))⟩) ?_
    refine ObL.cons trivial (fun v ρ w hx hd S => op_pick (p := Is (.bool true)) true rfl (S.dep 3 rfl (hd 3 rfl)) (S.dep 6 rfl (hd 6 rfl))) ?_
    refine ObL.cons trivial (fun v ρ w hx hd S => op_move (p := Is (.bool true)) (.inl rfl) (S.dep 7 rfl (hd 7 rfl))) ?_
    refine ObL.cons ⟨rfl, fun w u h => h⟩ (fun v ρ w hx hd S => op_move (p := Is (.int .i64 ((amountF x t.cls 0).2.2))) (.inl rfl) (S.out rfl ((Is.st _) _ _ _ hx g7))) ?_
    refine ObL.cons ⟨rfl, fun w u h => h⟩ (fun v ρ w hx hd S => op_move (p := Is (.int .i64 ((amountF x t.cls 0).2.2))) (.inl rfl) (S.out rfl ((Is.st _) _ _ _ hx g10))) ?_
    refine ObL.cons ⟨rfl, fun w u h => h⟩ (fun v ρ w hx hd S => (op_eql rfl (S.dep 9 rfl (hd 9 rfl)) (S.dep 10 rfl (hd 10 rfl))).mono fun u w1 hu => ⟨hu.1, hu.2.trans (congrArg Value.bool (by simp))⟩) ?_
    refine ObL.cons trivial (fun v ρ w hx hd S => op_pick (p := Is (.bool true)) true rfl (S.dep 8 rfl (hd 8 rfl)) (S.dep 11 rfl (hd 11 rfl))) ?_
    refine ObL.cons trivial (fun v ρ w hx hd S => op_move (p := Is (.bool true)) (.inr rfl) (S.dep 12 rfl (hd 12 rfl))) ?_
    exact ObL.nil
  · intro v a1 w hx hPP S hs hdf
    refine wpList_nil ?_
    exact hQ a1 w hx S.o hs hdf (S.dep 13 rfl (hPP 13 (by decide)))
set_option maxHeartbeats 2000000 in
theorem tevalMatchesAmount_any (x : Ev) (hok : x.ok) (cs : List Value) (t : Tf) (w : World) (ht : TfIn w cs t) : Calls Try.prog 4 #[.agg cs.toArray, .agg x.cells.toArray] w fun en w1 => en = .returned (.bool true) ∧ Ext w w1 := by
  go_enter Try.func4, Try.ntmps4
  have hW : Ext w w := .refl _
  have hs0 : True := trivial
  have hd0 : ([] : List Deferred) = [] := rfl
  have g0 : (TfP t) w (.agg cs.toArray) := ⟨cs, rfl, ht⟩
  have g1 : (Is (.agg x.cells.toArray)) w (.agg x.cells.toArray) := rfl
  refine wp_seq (lb0 x hok t   _ _ _ rfl g0 g1 fun a1 W1 hx1 ho1 hs1 hd1 g2 g3 => ?_)
  refine then_normal ?_
  replace hW : Ext w W1 := hW.trans hx1
  replace hd1 : a1.defers = [] := hd1.trans hd0
  clear hx1 ho1
  refine wp_seq ?_
  refine wp_seq (lb1 x hok t   _ _ _ hs1  fun a2 W2 hx2 ho2 hs2 hd2 g17 => ?_)
  refine then_normal ?_
  replace g2 : (VarP 3 (TfP t)) W2 (a2.eval (.tmp 2)) := by rw [ho2 2 rfl]; exact (VarP.st TfP.st) _ _ _ hx2 g2
  replace g3 : (VarP 17 (Is (.agg x.cells.toArray))) W2 (a2.eval (.tmp 3)) := by rw [ho2 3 rfl]; exact (VarP.st (Is.st _)) _ _ _ hx2 g3
  replace hW : Ext w W2 := hW.trans hx2
  replace hd2 : a2.defers = [] := hd2.trans hd1
  clear hx2 ho2
  refine cond_f g17 ?_
  refine wp_skip ?_
  refine then_normal ?_
  refine wp_seq ?_
  by_cases hfew : fewTF t = false
  · skip
    refine wp_seq (lb3a x hok t  hfew _ _ _ hs2 g2 fun a3 W3 hx3 ho3 hs3 hd3 g20 => ?_)
    refine then_normal ?_
    replace g2 : (VarP 3 (TfP t)) W3 (a3.eval (.tmp 2)) := by rw [ho3 2 rfl]; exact (VarP.st TfP.st) _ _ _ hx3 g2
    replace g3 : (VarP 17 (Is (.agg x.cells.toArray))) W3 (a3.eval (.tmp 3)) := by rw [ho3 3 rfl]; exact (VarP.st (Is.st _)) _ _ _ hx3 g3
    replace g17 : (Is (.bool false)) W3 (a3.eval (.tmp 17)) := by rw [ho3 17 rfl]; exact (Is.st _) _ _ _ hx3 g17
    replace hW : Ext w W3 := hW.trans hx3
    replace hd3 : a3.defers = [] := hd3.trans hd2
    clear hx3 ho3
    refine cond_t g20 ?_
    refine wp_seq (lb4 x hok t   _ _ _ hs3  fun a4 W4 hx4 ho4 hs4 hd4 g4 => ?_)
    refine then_normal ?_
    replace g2 : (VarP 3 (TfP t)) W4 (a4.eval (.tmp 2)) := by rw [ho4 2 rfl]; exact (VarP.st TfP.st) _ _ _ hx4 g2
    replace g3 : (VarP 17 (Is (.agg x.cells.toArray))) W4 (a4.eval (.tmp 3)) := by rw [ho4 3 rfl]; exact (VarP.st (Is.st _)) _ _ _ hx4 g3
    replace g17 : (Is (.bool false)) W4 (a4.eval (.tmp 17)) := by rw [ho4 17 rfl]; exact (Is.st _) _ _ _ hx4 g17
    replace g20 : (Is (.bool true)) W4 (a4.eval (.tmp 20)) := by rw [ho4 20 rfl]; exact (Is.st _) _ _ _ hx4 g20
    replace hW : Ext w W4 := hW.trans hx4
    replace hd4 : a4.defers = [] := hd4.trans hd3
    clear hx4 ho4
    refine wp_ret ?_
    show bodyPost Try.prog Try.f4 (fun en w1 => en = .returned (.bool true) ∧ Ext w w1) .ret _ _
    exact ret_is Try.results4 hd4 g4 ⟨rfl, hW⟩
  rw [Bool.not_eq_false] at hfew
  refine wp_seq (lb3b x hok t  hfew _ _ _ hs2 g2 fun a5 W5 hx5 ho5 hs5 hd5 g20 => ?_)
  refine then_normal ?_
  replace g2 : (VarP 3 (TfP t)) W5 (a5.eval (.tmp 2)) := by rw [ho5 2 rfl]; exact (VarP.st TfP.st) _ _ _ hx5 g2
  replace g3 : (VarP 17 (Is (.agg x.cells.toArray))) W5 (a5.eval (.tmp 3)) := by rw [ho5 3 rfl]; exact (VarP.st (Is.st _)) _ _ _ hx5 g3
  replace hW : Ext w W5 := hW.trans hx5
  replace hd5 : a5.defers = [] := hd5.trans hd2
  clear hx5 ho5
  refine cond_f g20 ?_
  refine wp_skip ?_
  refine then_normal ?_
  have h70 : t.cls.length ≤ 70 := by unfold fewTF at hfew; simp at hfew; exact hfew.1
  refine wp_seq (lb5 x hok t   _ _ _ hs5 g2 g3 fun a6 W6 hx6 ho6 hs6 hd6 g5 g6 g7 => ?_)
  refine then_normal ?_
  replace g2 : (VarP 3 (TfP t)) W6 (a6.eval (.tmp 2)) := by rw [ho6 2 rfl]; exact (VarP.st TfP.st) _ _ _ hx6 g2
  replace g3 : (VarP 17 (Is (.agg x.cells.toArray))) W6 (a6.eval (.tmp 3)) := by rw [ho6 3 rfl]; exact (VarP.st (Is.st _)) _ _ _ hx6 g3
  replace hW : Ext w W6 := hW.trans hx6
  replace hd6 : a6.defers = [] := hd6.trans hd5
  clear hx6 ho6
  refine wp_seq (lb6 x hok t   _ _ _ hs6 g2 g3 fun a7 W7 hx7 ho7 hs7 hd7 g8 g9 g10 => ?_)
  refine then_normal ?_
  replace g2 : (VarP 3 (TfP t)) W7 (a7.eval (.tmp 2)) := by rw [ho7 2 rfl]; exact (VarP.st TfP.st) _ _ _ hx7 g2
  replace g3 : (VarP 17 (Is (.agg x.cells.toArray))) W7 (a7.eval (.tmp 3)) := by rw [ho7 3 rfl]; exact (VarP.st (Is.st _)) _ _ _ hx7 g3
  replace g5 : (Is (.int .i64 ((amountF x t.cls 0).1))) W7 (a7.eval (.tmp 5)) := by rw [ho7 5 rfl]; exact (Is.st _) _ _ _ hx7 g5
  replace g6 : (Is (.int .i64 ((amountF x t.cls 0).2.1))) W7 (a7.eval (.tmp 6)) := by rw [ho7 6 rfl]; exact (Is.st _) _ _ _ hx7 g6
  replace g7 : (Is (.int .i64 ((amountF x t.cls 0).2.2))) W7 (a7.eval (.tmp 7)) := by rw [ho7 7 rfl]; exact (Is.st _) _ _ _ hx7 g7
  replace hW : Ext w W7 := hW.trans hx7
  replace hd7 : a7.defers = [] := hd7.trans hd6
  clear hx7 ho7
  refine wp_seq ?_
  refine wp_seq (lb7 x hok t   _ _ _ hs7  fun a8 W8 hx8 ho8 hs8 hd8 g11 => ?_)
  refine then_normal ?_
  replace g2 : (VarP 3 (TfP t)) W8 (a8.eval (.tmp 2)) := by rw [ho8 2 rfl]; exact (VarP.st TfP.st) _ _ _ hx8 g2
  replace g3 : (VarP 17 (Is (.agg x.cells.toArray))) W8 (a8.eval (.tmp 3)) := by rw [ho8 3 rfl]; exact (VarP.st (Is.st _)) _ _ _ hx8 g3
  replace g5 : (Is (.int .i64 ((amountF x t.cls 0).1))) W8 (a8.eval (.tmp 5)) := by rw [ho8 5 rfl]; exact (Is.st _) _ _ _ hx8 g5
  replace g6 : (Is (.int .i64 ((amountF x t.cls 0).2.1))) W8 (a8.eval (.tmp 6)) := by rw [ho8 6 rfl]; exact (Is.st _) _ _ _ hx8 g6
  replace g7 : (Is (.int .i64 ((amountF x t.cls 0).2.2))) W8 (a8.eval (.tmp 7)) := by rw [ho8 7 rfl]; exact (Is.st _) _ _ _ hx8 g7
  replace g8 : (Is (.int .i64 ((amountF x t.cls 0).1))) W8 (a8.eval (.tmp 8)) := by rw [ho8 8 rfl]; exact (Is.st _) _ _ _ hx8 g8
  replace g9 : (Is (.int .i64 ((amountF x t.cls 0).2.1))) W8 (a8.eval (.tmp 9)) := by rw [ho8 9 rfl]; exact (Is.st _) _ _ _ hx8 g9
  replace g10 : (Is (.int .i64 ((amountF x t.cls 0).2.2))) W8 (a8.eval (.tmp 10)) := by rw [ho8 10 rfl]; exact (Is.st _) _ _ _ hx8 g10
  replace hW : Ext w W8 := hW.trans hx8
  replace hd8 : a8.defers = [] := hd8.trans hd7
  clear hx8 ho8
  refine wp_block ?_
  refine wp_loop (fun a w1 => ∃ k : Nat, k ≤ t.cls.length ∧ Ext w w1 ∧ a.tmps.size = 83 ∧ a.defers = [] ∧ (VarP 3 (TfP t)) w1 (a.eval (.tmp 2)) ∧ (VarP 17 (Is (.agg x.cells.toArray))) w1 (a.eval (.tmp 3)) ∧ (Is (.int .i64 ((amountF x t.cls 0).1))) w1 (a.eval (.tmp 5)) ∧ (Is (.int .i64 ((amountF x t.cls 0).2.1))) w1 (a.eval (.tmp 6)) ∧ (Is (.int .i64 ((amountF x t.cls 0).2.2))) w1 (a.eval (.tmp 7)) ∧ (Is (.int .i64 ((amountF x t.cls 0).1))) w1 (a.eval (.tmp 8)) ∧ (Is (.int .i64 ((amountF x t.cls 0).2.1))) w1 (a.eval (.tmp 9)) ∧ (Is (.int .i64 ((amountF x t.cls 0).2.2))) w1 (a.eval (.tmp 10)) ∧ Is (.int .i64 ((k : Nat) : Int)) w1 (a.eval (.tmp 11))) (fun a _ => t.cls.length - (intOf (a.eval (.tmp 11))).toNat) ⟨0, Nat.zero_le _, hW, hs8, hd8, g2, g3, g5, g6, g7, g8, g9, g10, g11⟩ ?_
  clear hW g2 g3 g5 g6 g7 g8 g9 g10 g11
  rintro aL wL ⟨k, hk, hW, hsL, hdL, g2, g3, g5, g6, g7, g8, g9, g10, g11⟩
  have hmu : (t.cls.length - (intOf (aL.eval (.tmp 11))).toNat) = t.cls.length - k := by rw [show aL.eval (.tmp 11) = _ from g11]; simp [intOf]
  rw [hmu]
  refine wp_seq ?_
  by_cases hkl : k < t.cls.length
  · have hi : t.cls[k]? = some t.cls[k] := List.getElem?_eq_getElem hkl
    generalize t.cls[k] = c at hi
    refine wp_seq (lb8a x hok t k hkl _ _ _ hsL g2 g11 fun a9 W9 hx9 ho9 hs9 hd9 g39 => ?_)
    refine then_normal ?_
    replace g2 : (VarP 3 (TfP t)) W9 (a9.eval (.tmp 2)) := by rw [ho9 2 rfl]; exact (VarP.st TfP.st) _ _ _ hx9 g2
    replace g3 : (VarP 17 (Is (.agg x.cells.toArray))) W9 (a9.eval (.tmp 3)) := by rw [ho9 3 rfl]; exact (VarP.st (Is.st _)) _ _ _ hx9 g3
    replace g5 : (Is (.int .i64 ((amountF x t.cls 0).1))) W9 (a9.eval (.tmp 5)) := by rw [ho9 5 rfl]; exact (Is.st _) _ _ _ hx9 g5
    replace g6 : (Is (.int .i64 ((amountF x t.cls 0).2.1))) W9 (a9.eval (.tmp 6)) := by rw [ho9 6 rfl]; exact (Is.st _) _ _ _ hx9 g6
    replace g7 : (Is (.int .i64 ((amountF x t.cls 0).2.2))) W9 (a9.eval (.tmp 7)) := by rw [ho9 7 rfl]; exact (Is.st _) _ _ _ hx9 g7
    replace g8 : (Is (.int .i64 ((amountF x t.cls 0).1))) W9 (a9.eval (.tmp 8)) := by rw [ho9 8 rfl]; exact (Is.st _) _ _ _ hx9 g8
    replace g9 : (Is (.int .i64 ((amountF x t.cls 0).2.1))) W9 (a9.eval (.tmp 9)) := by rw [ho9 9 rfl]; exact (Is.st _) _ _ _ hx9 g9
    replace g10 : (Is (.int .i64 ((amountF x t.cls 0).2.2))) W9 (a9.eval (.tmp 10)) := by rw [ho9 10 rfl]; exact (Is.st _) _ _ _ hx9 g10
    replace g11 : (Is (.int .i64 (((k : Nat) : Int)))) W9 (a9.eval (.tmp 11)) := by rw [ho9 11 rfl]; exact (Is.st _) _ _ _ hx9 g11
    replace hW : Ext w W9 := hW.trans hx9
    replace hd9 : a9.defers = [] := hd9.trans hdL
    clear hx9 ho9
    refine cond_t g39 ?_
    refine wp_skip ?_
    refine then_normal ?_
    refine wp_seq ?_
    refine wp_block ?_
    refine wp_seq (lb10 x hok t k c hi _ _ _ hs9 g2 g3 g11 fun a10 W10 hx10 ho10 hs10 hd10 g12 g13 => ?_)
    refine then_normal ?_
    replace g2 : (VarP 3 (TfP t)) W10 (a10.eval (.tmp 2)) := by rw [ho10 2 rfl]; exact (VarP.st TfP.st) _ _ _ hx10 g2
    replace g3 : (VarP 17 (Is (.agg x.cells.toArray))) W10 (a10.eval (.tmp 3)) := by rw [ho10 3 rfl]; exact (VarP.st (Is.st _)) _ _ _ hx10 g3
    replace g5 : (Is (.int .i64 ((amountF x t.cls 0).1))) W10 (a10.eval (.tmp 5)) := by rw [ho10 5 rfl]; exact (Is.st _) _ _ _ hx10 g5
    replace g6 : (Is (.int .i64 ((amountF x t.cls 0).2.1))) W10 (a10.eval (.tmp 6)) := by rw [ho10 6 rfl]; exact (Is.st _) _ _ _ hx10 g6
    replace g7 : (Is (.int .i64 ((amountF x t.cls 0).2.2))) W10 (a10.eval (.tmp 7)) := by rw [ho10 7 rfl]; exact (Is.st _) _ _ _ hx10 g7
    replace g8 : (Is (.int .i64 ((amountF x t.cls 0).1))) W10 (a10.eval (.tmp 8)) := by rw [ho10 8 rfl]; exact (Is.st _) _ _ _ hx10 g8
    replace g9 : (Is (.int .i64 ((amountF x t.cls 0).2.1))) W10 (a10.eval (.tmp 9)) := by rw [ho10 9 rfl]; exact (Is.st _) _ _ _ hx10 g9
    replace g10 : (Is (.int .i64 ((amountF x t.cls 0).2.2))) W10 (a10.eval (.tmp 10)) := by rw [ho10 10 rfl]; exact (Is.st _) _ _ _ hx10 g10
    replace g11 : (Is (.int .i64 (((k : Nat) : Int)))) W10 (a10.eval (.tmp 11)) := by rw [ho10 11 rfl]; exact (Is.st _) _ _ _ hx10 g11
    replace hW : Ext w W10 := hW.trans hx10
    replace hd10 : a10.defers = [] := hd10.trans hd9
    clear hx10 ho10
    refine wp_seq (lb11 x hok t k c hi _ _ _ hs10 g2 g3 g11 fun a11 W11 hx11 ho11 hs11 hd11 g14 g15 => ?_)
    refine then_normal ?_
    replace g2 : (VarP 3 (TfP t)) W11 (a11.eval (.tmp 2)) := by rw [ho11 2 rfl]; exact (VarP.st TfP.st) _ _ _ hx11 g2
    replace g3 : (VarP 17 (Is (.agg x.cells.toArray))) W11 (a11.eval (.tmp 3)) := by rw [ho11 3 rfl]; exact (VarP.st (Is.st _)) _ _ _ hx11 g3
    replace g5 : (Is (.int .i64 ((amountF x t.cls 0).1))) W11 (a11.eval (.tmp 5)) := by rw [ho11 5 rfl]; exact (Is.st _) _ _ _ hx11 g5
    replace g6 : (Is (.int .i64 ((amountF x t.cls 0).2.1))) W11 (a11.eval (.tmp 6)) := by rw [ho11 6 rfl]; exact (Is.st _) _ _ _ hx11 g6
    replace g7 : (Is (.int .i64 ((amountF x t.cls 0).2.2))) W11 (a11.eval (.tmp 7)) := by rw [ho11 7 rfl]; exact (Is.st _) _ _ _ hx11 g7
    replace g8 : (Is (.int .i64 ((amountF x t.cls 0).1))) W11 (a11.eval (.tmp 8)) := by rw [ho11 8 rfl]; exact (Is.st _) _ _ _ hx11 g8
    replace g9 : (Is (.int .i64 ((amountF x t.cls 0).2.1))) W11 (a11.eval (.tmp 9)) := by rw [ho11 9 rfl]; exact (Is.st _) _ _ _ hx11 g9
    replace g10 : (Is (.int .i64 ((amountF x t.cls 0).2.2))) W11 (a11.eval (.tmp 10)) := by rw [ho11 10 rfl]; exact (Is.st _) _ _ _ hx11 g10
    replace g11 : (Is (.int .i64 (((k : Nat) : Int)))) W11 (a11.eval (.tmp 11)) := by rw [ho11 11 rfl]; exact (Is.st _) _ _ _ hx11 g11
    replace g12 : (Is (.bool ((holdsF x c.tests).1))) W11 (a11.eval (.tmp 12)) := by rw [ho11 12 rfl]; exact (Is.st _) _ _ _ hx11 g12
    replace g13 : (Is (.int .i64 ((holdsF x c.tests).2))) W11 (a11.eval (.tmp 13)) := by rw [ho11 13 rfl]; exact (Is.st _) _ _ _ hx11 g13
    replace hW : Ext w W11 := hW.trans hx11
    replace hd11 : a11.defers = [] := hd11.trans hd10
    clear hx11 ho11
    refine wp_seq (lb12 x hok t k c  _ _ _ hs11 g12 g13 g14 g15 fun a12 W12 hx12 ho12 hs12 hd12 g69 => ?_)
    refine then_normal ?_
    replace g2 : (VarP 3 (TfP t)) W12 (a12.eval (.tmp 2)) := by rw [ho12 2 rfl]; exact (VarP.st TfP.st) _ _ _ hx12 g2
    replace g3 : (VarP 17 (Is (.agg x.cells.toArray))) W12 (a12.eval (.tmp 3)) := by rw [ho12 3 rfl]; exact (VarP.st (Is.st _)) _ _ _ hx12 g3
    replace g5 : (Is (.int .i64 ((amountF x t.cls 0).1))) W12 (a12.eval (.tmp 5)) := by rw [ho12 5 rfl]; exact (Is.st _) _ _ _ hx12 g5
    replace g6 : (Is (.int .i64 ((amountF x t.cls 0).2.1))) W12 (a12.eval (.tmp 6)) := by rw [ho12 6 rfl]; exact (Is.st _) _ _ _ hx12 g6
    replace g7 : (Is (.int .i64 ((amountF x t.cls 0).2.2))) W12 (a12.eval (.tmp 7)) := by rw [ho12 7 rfl]; exact (Is.st _) _ _ _ hx12 g7
    replace g8 : (Is (.int .i64 ((amountF x t.cls 0).1))) W12 (a12.eval (.tmp 8)) := by rw [ho12 8 rfl]; exact (Is.st _) _ _ _ hx12 g8
    replace g9 : (Is (.int .i64 ((amountF x t.cls 0).2.1))) W12 (a12.eval (.tmp 9)) := by rw [ho12 9 rfl]; exact (Is.st _) _ _ _ hx12 g9
    replace g10 : (Is (.int .i64 ((amountF x t.cls 0).2.2))) W12 (a12.eval (.tmp 10)) := by rw [ho12 10 rfl]; exact (Is.st _) _ _ _ hx12 g10
    replace g11 : (Is (.int .i64 (((k : Nat) : Int)))) W12 (a12.eval (.tmp 11)) := by rw [ho12 11 rfl]; exact (Is.st _) _ _ _ hx12 g11
    replace hW : Ext w W12 := hW.trans hx12
    replace hd12 : a12.defers = [] := hd12.trans hd11
    clear hx12 ho12
    refine cond_f g69 ?_
    refine wp_skip ?_
    refine in_normal ?_
    refine then_normal ?_
    refine (lb9 x hok t k hkl h70 _ _ _ hs12 g11 fun a13 W13 hx13 ho13 hs13 hd13 g11 => ?_)
    replace g2 : (VarP 3 (TfP t)) W13 (a13.eval (.tmp 2)) := by rw [ho13 2 rfl]; exact (VarP.st TfP.st) _ _ _ hx13 g2
    replace g3 : (VarP 17 (Is (.agg x.cells.toArray))) W13 (a13.eval (.tmp 3)) := by rw [ho13 3 rfl]; exact (VarP.st (Is.st _)) _ _ _ hx13 g3
    replace g5 : (Is (.int .i64 ((amountF x t.cls 0).1))) W13 (a13.eval (.tmp 5)) := by rw [ho13 5 rfl]; exact (Is.st _) _ _ _ hx13 g5
    replace g6 : (Is (.int .i64 ((amountF x t.cls 0).2.1))) W13 (a13.eval (.tmp 6)) := by rw [ho13 6 rfl]; exact (Is.st _) _ _ _ hx13 g6
    replace g7 : (Is (.int .i64 ((amountF x t.cls 0).2.2))) W13 (a13.eval (.tmp 7)) := by rw [ho13 7 rfl]; exact (Is.st _) _ _ _ hx13 g7
    replace g8 : (Is (.int .i64 ((amountF x t.cls 0).1))) W13 (a13.eval (.tmp 8)) := by rw [ho13 8 rfl]; exact (Is.st _) _ _ _ hx13 g8
    replace g9 : (Is (.int .i64 ((amountF x t.cls 0).2.1))) W13 (a13.eval (.tmp 9)) := by rw [ho13 9 rfl]; exact (Is.st _) _ _ _ hx13 g9
    replace g10 : (Is (.int .i64 ((amountF x t.cls 0).2.2))) W13 (a13.eval (.tmp 10)) := by rw [ho13 10 rfl]; exact (Is.st _) _ _ _ hx13 g10
    replace hW : Ext w W13 := hW.trans hx13
    replace hd13 : a13.defers = [] := hd13.trans hd12
    clear hx13 ho13
    refine then_normal ⟨⟨k + 1, hkl, hW, hs13, hd13, g2, g3, g5, g6, g7, g8, g9, g10, g11⟩, ?_⟩
    rw [show a13.eval (.tmp 11) = _ from g11]; simp [intOf]; omega
  · skip
    refine wp_seq (lb8b x hok t k hkl _ _ _ hsL g2 g11 fun a14 W14 hx14 ho14 hs14 hd14 g39 => ?_)
    refine then_normal ?_
    replace g2 : (VarP 3 (TfP t)) W14 (a14.eval (.tmp 2)) := by rw [ho14 2 rfl]; exact (VarP.st TfP.st) _ _ _ hx14 g2
    replace g3 : (VarP 17 (Is (.agg x.cells.toArray))) W14 (a14.eval (.tmp 3)) := by rw [ho14 3 rfl]; exact (VarP.st (Is.st _)) _ _ _ hx14 g3
    replace g5 : (Is (.int .i64 ((amountF x t.cls 0).1))) W14 (a14.eval (.tmp 5)) := by rw [ho14 5 rfl]; exact (Is.st _) _ _ _ hx14 g5
    replace g6 : (Is (.int .i64 ((amountF x t.cls 0).2.1))) W14 (a14.eval (.tmp 6)) := by rw [ho14 6 rfl]; exact (Is.st _) _ _ _ hx14 g6
    replace g7 : (Is (.int .i64 ((amountF x t.cls 0).2.2))) W14 (a14.eval (.tmp 7)) := by rw [ho14 7 rfl]; exact (Is.st _) _ _ _ hx14 g7
    replace g8 : (Is (.int .i64 ((amountF x t.cls 0).1))) W14 (a14.eval (.tmp 8)) := by rw [ho14 8 rfl]; exact (Is.st _) _ _ _ hx14 g8
    replace g9 : (Is (.int .i64 ((amountF x t.cls 0).2.1))) W14 (a14.eval (.tmp 9)) := by rw [ho14 9 rfl]; exact (Is.st _) _ _ _ hx14 g9
    replace g10 : (Is (.int .i64 ((amountF x t.cls 0).2.2))) W14 (a14.eval (.tmp 10)) := by rw [ho14 10 rfl]; exact (Is.st _) _ _ _ hx14 g10
    replace hW : Ext w W14 := hW.trans hx14
    replace hd14 : a14.defers = [] := hd14.trans hdL
    clear hx14 ho14
    refine cond_f g39 ?_
    refine wp_exit ?_
    refine then_exit (then_exit (exit_block (then_normal ?_)))
    refine wp_seq (lb14 x hok t   _ _ _ hs14 g5 g6 g7 g8 g9 g10 fun a15 W15 hx15 ho15 hs15 hd15 g4 => ?_)
    refine then_normal ?_
    replace g2 : (VarP 3 (TfP t)) W15 (a15.eval (.tmp 2)) := by rw [ho15 2 rfl]; exact (VarP.st TfP.st) _ _ _ hx15 g2
    replace g3 : (VarP 17 (Is (.agg x.cells.toArray))) W15 (a15.eval (.tmp 3)) := by rw [ho15 3 rfl]; exact (VarP.st (Is.st _)) _ _ _ hx15 g3
    replace g5 : (Is (.int .i64 ((amountF x t.cls 0).1))) W15 (a15.eval (.tmp 5)) := by rw [ho15 5 rfl]; exact (Is.st _) _ _ _ hx15 g5
    replace g6 : (Is (.int .i64 ((amountF x t.cls 0).2.1))) W15 (a15.eval (.tmp 6)) := by rw [ho15 6 rfl]; exact (Is.st _) _ _ _ hx15 g6
    replace g7 : (Is (.int .i64 ((amountF x t.cls 0).2.2))) W15 (a15.eval (.tmp 7)) := by rw [ho15 7 rfl]; exact (Is.st _) _ _ _ hx15 g7
    replace g8 : (Is (.int .i64 ((amountF x t.cls 0).1))) W15 (a15.eval (.tmp 8)) := by rw [ho15 8 rfl]; exact (Is.st _) _ _ _ hx15 g8
    replace g9 : (Is (.int .i64 ((amountF x t.cls 0).2.1))) W15 (a15.eval (.tmp 9)) := by rw [ho15 9 rfl]; exact (Is.st _) _ _ _ hx15 g9
    replace g10 : (Is (.int .i64 ((amountF x t.cls 0).2.2))) W15 (a15.eval (.tmp 10)) := by rw [ho15 10 rfl]; exact (Is.st _) _ _ _ hx15 g10
    replace g39 : (Is (.bool false)) W15 (a15.eval (.tmp 39)) := by rw [ho15 39 rfl]; exact (Is.st _) _ _ _ hx15 g39
    replace hW : Ext w W15 := hW.trans hx15
    replace hd15 : a15.defers = [] := hd15.trans hd14
    clear hx15 ho15
    refine wp_ret ?_
    show bodyPost Try.prog Try.f4 (fun en w1 => en = .returned (.bool true) ∧ Ext w w1) .ret _ _
    exact ret_is Try.results4 hd15 g4 ⟨rfl, hW⟩

end Go.Proofs.Ytophdbbbojnobaa
