/- TevalFirst: the walk. -/
import Derived.Test.YtophdbbbojnobaaProg
import Derived.Test.YtophdbbbojnobaaOps3
namespace Go.Proofs.Ytophdbbbojnobaa
open Go.RowKit
set_option linter.unusedVariables false

theorem amount_err {x : Ev} {c : Cl} {l : List Cl} {k : Nat} (he : ¬ (holdsF x c.tests).2 = 0) : amountF x (c :: l) k = (0, 0, (holdsF x c.tests).2) := by simp only [amountF]; rw [if_pos he]
theorem amount_no {x : Ev} {c : Cl} {l : List Cl} {k : Nat} (he : (holdsF x c.tests).2 = 0) (hb : (holdsF x c.tests).1 = false) : amountF x (c :: l) k = amountF x l (k + 1) := by simp only [amountF]; rw [if_neg (by simpa using he), if_pos hb]
theorem amount_bad {x : Ev} {c : Cl} {l : List Cl} {k : Nat} (he : (holdsF x c.tests).2 = 0) (hb : (holdsF x c.tests).1 = true) (hv : ¬ (EvalF c.pay x).2 = 0) : amountF x (c :: l) k = (0, 0, (EvalF c.pay x).2) := by simp only [amountF]; rw [if_neg (by simpa using he), if_neg (by simpa using hb), if_pos hv]
theorem amount_yes {x : Ev} {c : Cl} {l : List Cl} {k : Nat} (he : (holdsF x c.tests).2 = 0) (hb : (holdsF x c.tests).1 = true) (hv : (EvalF c.pay x).2 = 0) : amountF x (c :: l) k = ((EvalF c.pay x).1, (k : Int), 0) := by simp only [amountF]; rw [if_neg (by simpa using he), if_neg (by simpa using hb), if_neg (by simpa using hv)]

noncomputable def lfC0 : Code := ((Try.f8.body.bind (regionOf 0)).getD .skip)
def lf0D : List (Option Tmp) := [some 2, some 3, some 4]
def lf0P (x : Ev) (t : Tf)  : List (World → Value → Prop) := [(VarP 3 (TfP t)), (VarP 17 (Is (.agg x.cells.toArray))), (Is (.bool false))]
set_option maxHeartbeats 2000000 in
set_option maxRecDepth 100000 in
theorem lf0 (x : Ev) (hok : x.ok) (t : Tf)   (Q : Exit → Act → World → Prop) (a0 : Act) (W : World) (hsz : a0.tmps.size = 159) (g0 : (TfP t) W (a0.eval (.tmp 0))) (g1 : (Is (.agg x.cells.toArray)) W (a0.eval (.tmp 1)))
    (hQ : ∀ a1 W1, Ext W W1 → (∀ t, lf0D.contains (some t) = false → a1.eval (.tmp t) = a0.eval (.tmp t)) → a1.tmps.size = 159 → a1.defers = a0.defers → (VarP 3 (TfP t)) W1 (a1.eval (.tmp 2)) → (VarP 17 (Is (.agg x.cells.toArray))) W1 (a1.eval (.tmp 3)) → Q .normal a1 W1) : lfC0.wp Try.prog Q a0 W := by
  conv => arg 2; whnf
  refine wp_region_sq 3 lf0D (lf0P x t ) 159 (by kernel_rfl) hsz ?_ ?_ ?_
  · exact AllSt.cons (VarP.st TfP.st) (AllSt.cons (VarP.st (Is.st _)) (AllSt.cons (Is.st _) (AllSt.nil)))
  · simp only [List.take_succ_cons, List.take_zero]
    refine ObL.cons trivial (fun v ρ w hx hd S => op_box (n := 3) (p := TfP t) rfl TfP.st (by obtain ⟨cs, h1, sv, h2, _⟩ := (show (TfP t) w (ρ (.tmp 0)) from (S.out rfl (TfP.st _ _ _ hx g0))); exact ⟨cs, h1, by rw [h2]; rfl⟩) (S.out rfl (TfP.st _ _ _ hx g0))) ?_
    refine ObL.cons trivial (fun v ρ w hx hd S => op_box (n := 17) (p := Is (.agg x.cells.toArray)) rfl (Is.st _) ⟨_, (S.out rfl ((Is.st _) _ _ _ hx g1)), by simp [Ev.cells, hok.1]⟩ (S.out rfl ((Is.st _) _ _ _ hx g1))) ?_
    refine ObL.cons trivial (fun v ρ w hx hd S => op_move (p := Is (.bool false)) (.inr rfl) (S.c _)) ?_
    exact ObL.nil
  · intro v a1 w hx hPP S hs hdf
    refine wpList_nil ?_
    exact hQ a1 w hx S.o hs hdf (S.dep 0 rfl (hPP 0 (by decide))) (S.dep 1 rfl (hPP 1 (by decide)))

noncomputable def lfC1 : Code := ((Try.f8.body.bind (regionOf 1)).getD .skip)
def lf1D : List (Option Tmp) := [some 19, some 20]
def lf1P (x : Ev) (t : Tf)  : List (World → Value → Prop) := [(Is (.bool true)), (Is (.bool false))]
set_option maxHeartbeats 2000000 in
set_option maxRecDepth 100000 in
theorem lf1 (x : Ev) (hok : x.ok) (t : Tf)   (Q : Exit → Act → World → Prop) (a0 : Act) (W : World) (hsz : a0.tmps.size = 159) 
    (hQ : ∀ a1 W1, Ext W W1 → (∀ t, lf1D.contains (some t) = false → a1.eval (.tmp t) = a0.eval (.tmp t)) → a1.tmps.size = 159 → a1.defers = a0.defers → (Is (.bool false)) W1 (a1.eval (.tmp 20)) → Q .normal a1 W1) : lfC1.wp Try.prog Q a0 W := by
  conv => arg 2; whnf
  refine wp_region_sq 2 lf1D (lf1P x t ) 159 (by kernel_rfl) hsz ?_ ?_ ?_
  · exact AllSt.cons (Is.st _) (AllSt.cons (Is.st _) (AllSt.nil))
  · simp only [List.take_succ_cons, List.take_zero]
    refine ObL.cons trivial (fun v ρ w hx hd S => op_sane rfl S) ?_
    refine ObL.cons trivial (fun v ρ w hx hd S => op_not rfl (S.dep 0 rfl (hd 0 rfl))) ?_
    exact ObL.nil
  · intro v a1 w hx hPP S hs hdf
    refine wpList_nil ?_
    exact hQ a1 w hx S.o hs hdf (S.dep 1 rfl (hPP 1 (by decide)))

noncomputable def lfC3 : Code := ((Try.f8.body.bind (regionOf 3)).getD .skip)
def lf3aD : List (Option Tmp) := [some 21, some 22, some 23]
def lf3aP (x : Ev) (t : Tf)  : List (World → Value → Prop) := [(TfP t), (Is (.bool false)), (Is (.bool true))]
set_option maxHeartbeats 2000000 in
set_option maxRecDepth 100000 in
theorem lf3a (x : Ev) (hok : x.ok) (t : Tf)  (hfew : fewTF t = false) (Q : Exit → Act → World → Prop) (a0 : Act) (W : World) (hsz : a0.tmps.size = 159) (g2 : (VarP 3 (TfP t)) W (a0.eval (.tmp 2)))
    (hQ : ∀ a1 W1, Ext W W1 → (∀ t, lf3aD.contains (some t) = false → a1.eval (.tmp t) = a0.eval (.tmp t)) → a1.tmps.size = 159 → a1.defers = a0.defers → (Is (.bool true)) W1 (a1.eval (.tmp 23)) → Q .normal a1 W1) : lfC3.wp Try.prog Q a0 W := by
  conv => arg 2; whnf
  refine wp_region_sq 3 lf3aD (lf3aP x t ) 159 (by kernel_rfl) hsz ?_ ?_ ?_
  · exact AllSt.cons TfP.st (AllSt.cons (Is.st _) (AllSt.cons (Is.st _) (AllSt.nil)))
  · simp only [List.take_succ_cons, List.take_zero]
    refine ObL.cons trivial (fun v ρ w hx hd S => op_loadV _ _ rfl _ Try.underlying38 rfl info_tariff (S.out rfl ((VarP.st TfP.st) _ _ _ hx g2))) ?_
    refine ObL.cons trivial (fun v ρ w hx hd S => (op_fewClauses rfl S (S.dep 0 rfl (hd 0 rfl))).mono fun u w1 hu => ⟨hu.1, hu.2.trans (congrArg Value.bool hfew)⟩) ?_
    refine ObL.cons trivial (fun v ρ w hx hd S => op_not rfl (S.dep 1 rfl (hd 1 rfl))) ?_
    exact ObL.nil
  · intro v a1 w hx hPP S hs hdf
    refine wpList_nil ?_
    exact hQ a1 w hx S.o hs hdf (S.dep 2 rfl (hPP 2 (by decide)))

noncomputable def lfC4 : Code := ((Try.f8.body.bind (regionOf 4)).getD .skip)
def lf4D : List (Option Tmp) := [some 4]
def lf4P (x : Ev) (t : Tf)  : List (World → Value → Prop) := [(Is (.bool true))]
set_option maxHeartbeats 2000000 in
set_option maxRecDepth 100000 in
theorem lf4 (x : Ev) (hok : x.ok) (t : Tf)   (Q : Exit → Act → World → Prop) (a0 : Act) (W : World) (hsz : a0.tmps.size = 159) 
    (hQ : ∀ a1 W1, Ext W W1 → (∀ t, lf4D.contains (some t) = false → a1.eval (.tmp t) = a0.eval (.tmp t)) → a1.tmps.size = 159 → a1.defers = a0.defers → (Is (.bool true)) W1 (a1.eval (.tmp 4)) → Q .normal a1 W1) : lfC4.wp Try.prog Q a0 W := by
  conv => arg 2; whnf
  refine wp_region_sq 1 lf4D (lf4P x t ) 159 (by kernel_rfl) hsz ?_ ?_ ?_
  · exact AllSt.cons (Is.st _) (AllSt.nil)
  · simp only [List.take_succ_cons, List.take_zero]
    refine ObL.cons trivial (fun v ρ w hx hd S => op_move (p := Is (.bool true)) (.inr rfl) (S.c _)) ?_
    exact ObL.nil
  · intro v a1 w hx hPP S hs hdf
    refine wpList_nil ?_
    exact hQ a1 w hx S.o hs hdf (S.dep 0 rfl (hPP 0 (by decide)))

def lf3bD : List (Option Tmp) := [some 21, some 22, some 23]
def lf3bP (x : Ev) (t : Tf)  : List (World → Value → Prop) := [(TfP t), (Is (.bool true)), (Is (.bool false))]
set_option maxHeartbeats 2000000 in
set_option maxRecDepth 100000 in
theorem lf3b (x : Ev) (hok : x.ok) (t : Tf)  (hfew : fewTF t = true) (Q : Exit → Act → World → Prop) (a0 : Act) (W : World) (hsz : a0.tmps.size = 159) (g2 : (VarP 3 (TfP t)) W (a0.eval (.tmp 2)))
    (hQ : ∀ a1 W1, Ext W W1 → (∀ t, lf3bD.contains (some t) = false → a1.eval (.tmp t) = a0.eval (.tmp t)) → a1.tmps.size = 159 → a1.defers = a0.defers → (Is (.bool false)) W1 (a1.eval (.tmp 23)) → Q .normal a1 W1) : lfC3.wp Try.prog Q a0 W := by
  conv => arg 2; whnf
  refine wp_region_sq 3 lf3bD (lf3bP x t ) 159 (by kernel_rfl) hsz ?_ ?_ ?_
  · exact AllSt.cons TfP.st (AllSt.cons (Is.st _) (AllSt.cons (Is.st _) (AllSt.nil)))
  · simp only [List.take_succ_cons, List.take_zero]
    refine ObL.cons trivial (fun v ρ w hx hd S => op_loadV _ _ rfl _ Try.underlying38 rfl info_tariff (S.out rfl ((VarP.st TfP.st) _ _ _ hx g2))) ?_
    refine ObL.cons trivial (fun v ρ w hx hd S => (op_fewClauses rfl S (S.dep 0 rfl (hd 0 rfl))).mono fun u w1 hu => ⟨hu.1, hu.2.trans (congrArg Value.bool hfew)⟩) ?_
    refine ObL.cons trivial (fun v ρ w hx hd S => op_not rfl (S.dep 1 rfl (hd 1 rfl))) ?_
    exact ObL.nil
  · intro v a1 w hx hPP S hs hdf
    refine wpList_nil ?_
    exact hQ a1 w hx S.o hs hdf (S.dep 2 rfl (hPP 2 (by decide)))

noncomputable def lfC5 : Code := ((Try.f8.body.bind (regionOf 5)).getD .skip)
def lf5D : List (Option Tmp) := [some 25, some 26, some 27, some 24, some 28, some 29, some 30, some 5, some 6, some 7]
def lf5P (x : Ev) (t : Tf)  : List (World → Value → Prop) := [(TfP t), (Is (.agg x.cells.toArray)), (Is (.tuple #[.int .i64 ((amountF x t.cls 0).1), .int .i64 ((amountF x t.cls 0).2.1), .int .i64 ((amountF x t.cls 0).2.2)])), (Is (.tuple #[.int .i64 ((amountF x t.cls 0).1), .int .i64 ((amountF x t.cls 0).2.1), .int .i64 ((amountF x t.cls 0).2.2)])), (Is (.int .i64 ((amountF x t.cls 0).1))), (Is (.int .i64 ((amountF x t.cls 0).2.1))), (Is (.int .i64 ((amountF x t.cls 0).2.2))), (Is (.int .i64 ((amountF x t.cls 0).1))), (Is (.int .i64 ((amountF x t.cls 0).2.1))), (Is (.int .i64 ((amountF x t.cls 0).2.2)))]
set_option maxHeartbeats 2000000 in
set_option maxRecDepth 100000 in
theorem lf5 (x : Ev) (hok : x.ok) (t : Tf)   (Q : Exit → Act → World → Prop) (a0 : Act) (W : World) (hsz : a0.tmps.size = 159) (g2 : (VarP 3 (TfP t)) W (a0.eval (.tmp 2))) (g3 : (VarP 17 (Is (.agg x.cells.toArray))) W (a0.eval (.tmp 3)))
    (hQ : ∀ a1 W1, Ext W W1 → (∀ t, lf5D.contains (some t) = false → a1.eval (.tmp t) = a0.eval (.tmp t)) → a1.tmps.size = 159 → a1.defers = a0.defers → (Is (.int .i64 ((amountF x t.cls 0).1))) W1 (a1.eval (.tmp 5)) → (Is (.int .i64 ((amountF x t.cls 0).2.1))) W1 (a1.eval (.tmp 6)) → (Is (.int .i64 ((amountF x t.cls 0).2.2))) W1 (a1.eval (.tmp 7)) → Q .normal a1 W1) : lfC5.wp Try.prog Q a0 W := by
  conv => arg 2; whnf
  refine wp_region_sq 10 lf5D (lf5P x t ) 159 (by kernel_rfl) hsz ?_ ?_ ?_
  · exact AllSt.cons TfP.st (AllSt.cons (Is.st _) (AllSt.cons (Is.st _) (AllSt.cons (Is.st _) (AllSt.cons (Is.st _) (AllSt.cons (Is.st _) (AllSt.cons (Is.st _) (AllSt.cons (Is.st _) (AllSt.cons (Is.st _) (AllSt.cons (Is.st _) (AllSt.nil))))))))))
  · simp only [List.take_succ_cons, List.take_zero]
    refine ObL.cons trivial (fun v ρ w hx hd S => op_loadV _ _ rfl _ Try.underlying38 rfl info_tariff (S.out rfl ((VarP.st TfP.st) _ _ _ hx g2))) ?_
    refine ObL.cons trivial (fun v ρ w hx hd S => op_loadV _ _ rfl _ Try.underlying29 rfl info_env (S.out rfl ((VarP.st (Is.st _)) _ _ _ hx g3))) ?_
    refine ObL.cons trivial (fun v ρ w hx hd S => op_amountT x hok rfl S (S.dep 0 rfl (hd 0 rfl)) (S.dep 1 rfl (hd 1 rfl))) ?_
    refine ObL.cons trivial (fun v ρ w hx hd S => op_move (p := Is (.tuple #[.int .i64 ((amountF x t.cls 0).1), .int .i64 ((amountF x t.cls 0).2.1), .int .i64 ((amountF x t.cls 0).2.2)])) (.inl rfl) (S.dep 2 rfl (hd 2 rfl))) ?_
    refine ObL.cons trivial (fun v ρ w hx hd S => op_extract rfl (S.dep 3 rfl (hd 3 rfl)) rfl) ?_
    refine ObL.cons trivial (fun v ρ w hx hd S => op_extract rfl (S.dep 3 rfl (hd 3 rfl)) rfl) ?_
    refine ObL.cons trivial (fun v ρ w hx hd S => op_extract rfl (S.dep 3 rfl (hd 3 rfl)) rfl) ?_
    refine ObL.cons trivial (fun v ρ w hx hd S => op_move (p := Is (.int .i64 ((amountF x t.cls 0).1))) (.inr rfl) (S.dep 4 rfl (hd 4 rfl))) ?_
    refine ObL.cons trivial (fun v ρ w hx hd S => op_move (p := Is (.int .i64 ((amountF x t.cls 0).2.1))) (.inr rfl) (S.dep 5 rfl (hd 5 rfl))) ?_
    refine ObL.cons trivial (fun v ρ w hx hd S => op_move (p := Is (.int .i64 ((amountF x t.cls 0).2.2))) (.inr rfl) (S.dep 6 rfl (hd 6 rfl))) ?_
    exact ObL.nil
  · intro v a1 w hx hPP S hs hdf
    refine wpList_nil ?_
    exact hQ a1 w hx S.o hs hdf (S.dep 7 rfl (hPP 7 (by decide))) (S.dep 8 rfl (hPP 8 (by decide))) (S.dep 9 rfl (hPP 9 (by decide)))

noncomputable def lfC6 : Code := ((Try.f8.body.bind (regionOf 6)).getD .skip)
def lf6D : List (Option Tmp) := [some 8]
def lf6P (x : Ev) (t : Tf)  : List (World → Value → Prop) := [(Is (.int .i64 0))]
set_option maxHeartbeats 2000000 in
set_option maxRecDepth 100000 in
theorem lf6 (x : Ev) (hok : x.ok) (t : Tf)   (Q : Exit → Act → World → Prop) (a0 : Act) (W : World) (hsz : a0.tmps.size = 159) 
    (hQ : ∀ a1 W1, Ext W W1 → (∀ t, lf6D.contains (some t) = false → a1.eval (.tmp t) = a0.eval (.tmp t)) → a1.tmps.size = 159 → a1.defers = a0.defers → (Is (.int .i64 0)) W1 (a1.eval (.tmp 8)) → Q .normal a1 W1) : lfC6.wp Try.prog Q a0 W := by
  conv => arg 2; whnf
  refine wp_region_sq 1 lf6D (lf6P x t ) 159 (by kernel_rfl) hsz ?_ ?_ ?_
  · exact AllSt.cons (Is.st _) (AllSt.nil)
  · simp only [List.take_succ_cons, List.take_zero]
    refine ObL.cons trivial (fun v ρ w hx hd S => op_move (p := Is (.int .i64 0)) (.inr rfl) (S.c _)) ?_
    exact ObL.nil
  · intro v a1 w hx hPP S hs hdf
    refine wpList_nil ?_
    exact hQ a1 w hx S.o hs hdf (S.dep 0 rfl (hPP 0 (by decide)))

noncomputable def lfC7 : Code := ((Try.f8.body.bind (regionOf 7)).getD .skip)
def lf7aD : List (Option Tmp) := [some 31, some 32, some 33, some 34, some 35]
def lf7aP (x : Ev) (t : Tf) (k : Nat) : List (World → Value → Prop) := [(Is (.int .i64 (((k : Nat) : Int)))), (CellP (SlP 9 ClIn t.cls)), (SlP 9 ClIn t.cls), (Is (.int .i64 (((t.cls.length : Nat) : Int)))), (Is (.bool true))]
set_option maxHeartbeats 2000000 in
set_option maxRecDepth 100000 in
theorem lf7a (x : Ev) (hok : x.ok) (t : Tf) (k : Nat) (hkl : k < t.cls.length) (Q : Exit → Act → World → Prop) (a0 : Act) (W : World) (hsz : a0.tmps.size = 159) (g2 : (VarP 3 (TfP t)) W (a0.eval (.tmp 2))) (g8 : (Is (.int .i64 (((k : Nat) : Int)))) W (a0.eval (.tmp 8)))
    (hQ : ∀ a1 W1, Ext W W1 → (∀ t, lf7aD.contains (some t) = false → a1.eval (.tmp t) = a0.eval (.tmp t)) → a1.tmps.size = 159 → a1.defers = a0.defers → (Is (.bool true)) W1 (a1.eval (.tmp 35)) → Q .normal a1 W1) : lfC7.wp Try.prog Q a0 W := by
  conv => arg 2; whnf
  refine wp_region_sq 5 lf7aD (lf7aP x t k) 159 (by kernel_rfl) hsz ?_ ?_ ?_
  · exact AllSt.cons (Is.st _) (AllSt.cons (CellP.st (SlP.st ClIn.st)) (AllSt.cons (SlP.st ClIn.st) (AllSt.cons (Is.st _) (AllSt.cons (Is.st _) (AllSt.nil)))))
  · simp only [List.take_succ_cons, List.take_zero]
    refine ObL.cons trivial (fun v ρ w hx hd S => op_move (p := Is (.int .i64 (((k : Nat) : Int)))) (.inl rfl) (S.out rfl ((Is.st _) _ _ _ hx g8))) ?_
    refine ObL.cons trivial (fun v ρ w hx hd S => op_tfCls rfl (VarP.loc (S.out rfl ((VarP.st TfP.st) _ _ _ hx g2)))) ?_
    refine ObL.cons trivial (fun v ρ w hx hd S => op_loadCls rfl (S.dep 1 rfl (hd 1 rfl))) ?_
    refine ObL.cons trivial (fun v ρ w hx hd S => op_lenCls rfl (show (SlP 9 ClIn t.cls) w (ρ (.tmp 33)) from (S.dep 2 rfl (hd 2 rfl)))) ?_
    refine ObL.cons trivial (fun v ρ w hx hd S => (op_lss rfl (S.dep 0 rfl (hd 0 rfl)) (S.dep 3 rfl (hd 3 rfl))).mono fun u w1 hu => ⟨hu.1, hu.2.trans (congrArg Value.bool (decide_eq_true (by omega)))⟩) ?_
    exact ObL.nil
  · intro v a1 w hx hPP S hs hdf
    refine wpList_nil ?_
    exact hQ a1 w hx S.o hs hdf (S.dep 4 rfl (hPP 4 (by decide)))

noncomputable def lfC9 : Code := ((Try.f8.body.bind (regionOf 9)).getD .skip)
def lf9D : List (Option Tmp) := [some 39, some 40, some 41, some 42, some 43, some 44, some 45, some 38, some 46, some 47, some 9, some 10]
def lf9P (x : Ev) (t : Tf) (k : Nat) (c : Cl) : List (World → Value → Prop) := [(CellP (SlP 9 ClIn t.cls)), (SlP 9 ClIn t.cls), (Is (.int .i64 (((k : Nat) : Int)))), (LocP 9 (ClP c)), (ClP c), (Is (.agg x.cells.toArray)), (Is (.tuple #[.bool ((holdsF x c.tests).1), .int .i64 ((holdsF x c.tests).2)])), (Is (.tuple #[.bool ((holdsF x c.tests).1), .int .i64 ((holdsF x c.tests).2)])), (Is (.bool ((holdsF x c.tests).1))), (Is (.int .i64 ((holdsF x c.tests).2))), (Is (.bool ((holdsF x c.tests).1))), (Is (.int .i64 ((holdsF x c.tests).2)))]
set_option maxHeartbeats 2000000 in
set_option maxRecDepth 100000 in
theorem lf9 (x : Ev) (hok : x.ok) (t : Tf) (k : Nat) (c : Cl) (hi : t.cls[k]? = some c) (Q : Exit → Act → World → Prop) (a0 : Act) (W : World) (hsz : a0.tmps.size = 159) (g2 : (VarP 3 (TfP t)) W (a0.eval (.tmp 2))) (g3 : (VarP 17 (Is (.agg x.cells.toArray))) W (a0.eval (.tmp 3))) (g8 : (Is (.int .i64 (((k : Nat) : Int)))) W (a0.eval (.tmp 8)))
    (hQ : ∀ a1 W1, Ext W W1 → (∀ t, lf9D.contains (some t) = false → a1.eval (.tmp t) = a0.eval (.tmp t)) → a1.tmps.size = 159 → a1.defers = a0.defers → (Is (.bool ((holdsF x c.tests).1))) W1 (a1.eval (.tmp 9)) → (Is (.int .i64 ((holdsF x c.tests).2))) W1 (a1.eval (.tmp 10)) → Q .normal a1 W1) : lfC9.wp Try.prog Q a0 W := by
  conv => arg 2; whnf
  refine wp_region_st 12 lf9D (lf9P x t k c) 159 (by kernel_rfl) (by kernel_rfl) hsz ?_ ?_ ?_
  · exact AllSt.cons (CellP.st (SlP.st ClIn.st)) (AllSt.cons (SlP.st ClIn.st) (AllSt.cons (Is.st _) (AllSt.cons (LocP.st ClP.st) (AllSt.cons ClP.st (AllSt.cons (Is.st _) (AllSt.cons (Is.st _) (AllSt.cons (Is.st _) (AllSt.cons (Is.st _) (AllSt.cons (Is.st _) (AllSt.cons (Is.st _) (AllSt.cons (Is.st _) (AllSt.nil))))))))))))
  · simp only [List.take_succ_cons, List.take_zero]
    refine ObL.cons trivial (fun v ρ w hx hd S => op_tfCls rfl (VarP.loc (S.out rfl ((VarP.st TfP.st) _ _ _ hx g2)))) ?_
    refine ObL.cons trivial (fun v ρ w hx hd S => op_loadCls rfl (S.dep 0 rfl (hd 0 rfl))) ?_
    refine ObL.cons trivial (fun v ρ w hx hd S => op_move (p := Is (.int .i64 (((k : Nat) : Int)))) (.inl rfl) (S.out rfl ((Is.st _) _ _ _ hx g8))) ?_
    refine ObL.cons trivial (fun v ρ w hx hd S => op_clAt rfl (S.dep 1 rfl (hd 1 rfl)) (S.dep 2 rfl (hd 2 rfl)) hi) ?_
    refine ObL.cons trivial (fun v ρ w hx hd S => op_loadL _ _ rfl _ Try.underlying46 rfl info_clause (S.dep 3 rfl (hd 3 rfl))) ?_
    refine ObL.cons trivial (fun v ρ w hx hd S => op_loadV _ _ rfl _ Try.underlying29 rfl info_env (S.out rfl ((VarP.st (Is.st _)) _ _ _ hx g3))) ?_
    refine ObL.cons trivial (fun v ρ w hx hd S => op_holdsT x hok rfl S (S.dep 4 rfl (hd 4 rfl)) (S.dep 5 rfl (hd 5 rfl))) ?_
    refine ObL.cons trivial (fun v ρ w hx hd S => op_move (p := Is (.tuple #[.bool ((holdsF x c.tests).1), .int .i64 ((holdsF x c.tests).2)])) (.inl rfl) (S.dep 6 rfl (hd 6 rfl))) ?_
    refine ObL.cons trivial (fun v ρ w hx hd S => op_extract rfl (S.dep 7 rfl (hd 7 rfl)) rfl) ?_
    refine ObL.cons trivial (fun v ρ w hx hd S => op_extract rfl (S.dep 7 rfl (hd 7 rfl)) rfl) ?_
    refine ObL.cons trivial (fun v ρ w hx hd S => op_move (p := Is (.bool ((holdsF x c.tests).1))) (.inr rfl) (S.dep 8 rfl (hd 8 rfl))) ?_
    refine ObL.cons trivial (fun v ρ w hx hd S => op_move (p := Is (.int .i64 ((holdsF x c.tests).2))) (.inr rfl) (S.dep 9 rfl (hd 9 rfl))) ?_
    exact ObL.nil
  · intro v a1 w hx hPP S hs hdf
    refine stable_all (by kernel_rfl) ?_
    exact hQ a1 w hx S.o hs hdf (S.dep 10 rfl (hPP 10 (by decide))) (S.dep 11 rfl (hPP 11 (by decide)))

noncomputable def lfC10 : Code := ((Try.f8.body.bind (regionOf 10)).getD .skip)
def lf10aD : List (Option Tmp) := [some 48, some 49]
def lf10aP (x : Ev) (t : Tf) (k : Nat) (c : Cl) : List (World → Value → Prop) := [(Is (.int .i64 ((holdsF x c.tests).2))), (Is (.bool true))]
set_option maxHeartbeats 2000000 in
set_option maxRecDepth 100000 in
theorem lf10a (x : Ev) (hok : x.ok) (t : Tf) (k : Nat) (c : Cl) (he : ¬ (holdsF x c.tests).2 = 0) (Q : Exit → Act → World → Prop) (a0 : Act) (W : World) (hsz : a0.tmps.size = 159) (g10 : (Is (.int .i64 ((holdsF x c.tests).2))) W (a0.eval (.tmp 10)))
    (hQ : ∀ a1 W1, Ext W W1 → (∀ t, lf10aD.contains (some t) = false → a1.eval (.tmp t) = a0.eval (.tmp t)) → a1.tmps.size = 159 → a1.defers = a0.defers → (Is (.bool true)) W1 (a1.eval (.tmp 49)) → Q .normal a1 W1) : lfC10.wp Try.prog Q a0 W := by
  conv => arg 2; whnf
  refine wp_region_sq 2 lf10aD (lf10aP x t k c) 159 (by kernel_rfl) hsz ?_ ?_ ?_
  · exact AllSt.cons (Is.st _) (AllSt.cons (Is.st _) (AllSt.nil))
  · simp only [List.take_succ_cons, List.take_zero]
    refine ObL.cons trivial (fun v ρ w hx hd S => op_move (p := Is (.int .i64 ((holdsF x c.tests).2))) (.inl rfl) (S.out rfl ((Is.st _) _ _ _ hx g10))) ?_
    refine ObL.cons trivial (fun v ρ w hx hd S => (op_neq rfl (S.dep 0 rfl (hd 0 rfl)) (S.c _)).mono fun u w1 hu => ⟨hu.1, hu.2.trans (congrArg Value.bool (by simpa using he))⟩) ?_
    exact ObL.nil
  · intro v a1 w hx hPP S hs hdf
    refine wpList_nil ?_
    exact hQ a1 w hx S.o hs hdf (S.dep 1 rfl (hPP 1 (by decide)))

noncomputable def lfC11 : Code := ((Try.f8.body.bind (regionOf 11)).getD .skip)
def lf11D : List (Option Tmp) := [some 50, some 51, some 52, some 53, some 54, some 55, some 56, some 57, some 58, some 59, some 60, some 4]
def lf11P (x : Ev) (t : Tf) (k : Nat) (c : Cl) : List (World → Value → Prop) := [(Is (.int .i64 ((amountF x t.cls 0).2.2))), (Is (.int .i64 ((holdsF x c.tests).2))), (Is (.bool true)), (Is (.bool true)), (Is (.int .i64 ((amountF x t.cls 0).1))), (Is (.bool true)), (Is (.bool true)), (Is (.bool true)), (Is (.int .i64 ((amountF x t.cls 0).2.1))), (Is (.bool true)), (Is (.bool true)), (Is (.bool true))]
set_option maxHeartbeats 2000000 in
set_option maxRecDepth 100000 in
theorem lf11 (x : Ev) (hok : x.ok) (t : Tf) (k : Nat) (c : Cl) (hA : amountF x t.cls 0 = (0, 0, (holdsF x c.tests).2)) (Q : Exit → Act → World → Prop) (a0 : Act) (W : World) (hsz : a0.tmps.size = 159) (g5 : (Is (.int .i64 ((amountF x t.cls 0).1))) W (a0.eval (.tmp 5))) (g6 : (Is (.int .i64 ((amountF x t.cls 0).2.1))) W (a0.eval (.tmp 6))) (g7 : (Is (.int .i64 ((amountF x t.cls 0).2.2))) W (a0.eval (.tmp 7))) (g10 : (Is (.int .i64 ((holdsF x c.tests).2))) W (a0.eval (.tmp 10)))
    (hQ : ∀ a1 W1, Ext W W1 → (∀ t, lf11D.contains (some t) = false → a1.eval (.tmp t) = a0.eval (.tmp t)) → a1.tmps.size = 159 → a1.defers = a0.defers → (Is (.bool true)) W1 (a1.eval (.tmp 4)) → Q .normal a1 W1) : lfC11.wp Try.prog Q a0 W := by
  conv => arg 2; whnf
  refine wp_region_sq 12 lf11D (lf11P x t k c) 159 (by kernel_rfl) hsz ?_ ?_ ?_
  · exact AllSt.cons (Is.st _) (AllSt.cons (Is.st _) (AllSt.cons (Is.st _) (AllSt.cons (Is.st _) (AllSt.cons (Is.st _) (AllSt.cons (Is.st _) (AllSt.cons (Is.st _) (AllSt.cons (Is.st _) (AllSt.cons (Is.st _) (AllSt.cons (Is.st _) (AllSt.cons (Is.st _) (AllSt.cons (Is.st _) (AllSt.nil))))))))))))
  · simp only [List.take_succ_cons, List.take_zero]
    refine ObL.cons trivial (fun v ρ w hx hd S => op_move (p := Is (.int .i64 ((amountF x t.cls 0).2.2))) (.inl rfl) (S.out rfl ((Is.st _) _ _ _ hx g7))) ?_
    refine ObL.cons trivial (fun v ρ w hx hd S => op_move (p := Is (.int .i64 ((holdsF x c.tests).2))) (.inl rfl) (S.out rfl ((Is.st _) _ _ _ hx g10))) ?_
    refine ObL.cons trivial (fun v ρ w hx hd S => (op_eql rfl (S.dep 0 rfl (hd 0 rfl)) (S.dep 1 rfl (hd 1 rfl))).mono fun u w1 hu => ⟨hu.1, hu.2.trans (congrArg Value.bool (by rw [hA]; simp))⟩) ?_
    refine ObL.cons trivial (fun v ρ w hx hd S => op_move (p := Is (.bool true)) (.inl rfl) (S.dep 2 rfl (hd 2 rfl))) ?_
    refine ObL.cons ⟨rfl, fun w u h => h⟩ (fun v ρ w hx hd S => op_move (p := Is (.int .i64 ((amountF x t.cls 0).1))) (.inl rfl) (S.out rfl ((Is.st _) _ _ _ hx g5))) ?_
    refine ObL.cons ⟨rfl, fun w u h => h⟩ (fun v ρ w hx hd S => (op_eql rfl (S.dep 4 rfl (hd 4 rfl)) (S.c _)).mono fun u w1 hu => ⟨hu.1, hu.2.trans (congrArg Value.bool (by rw [hA]; simp))⟩) ?_
    refine ObL.cons trivial (fun v ρ w hx hd S => op_pick (p := Is (.bool true)) true rfl (S.dep 3 rfl (hd 3 rfl)) (S.dep 5 rfl (hd 5 rfl))) ?_
    refine ObL.cons trivial (fun v ρ w hx hd S => op_move (p := Is (.bool true)) (.inl rfl) (S.dep 6 rfl (hd 6 rfl))) ?_
    refine ObL.cons ⟨rfl, fun w u h => h⟩ (fun v ρ w hx hd S => op_move (p := Is (.int .i64 ((amountF x t.cls 0).2.1))) (.inl rfl) (S.out rfl ((Is.st _) _ _ _ hx g6))) ?_
    refine ObL.cons ⟨rfl, fun w u h => h⟩ (fun v ρ w hx hd S => (op_eql rfl (S.dep 8 rfl (hd 8 rfl)) (S.c _)).mono fun u w1 hu => ⟨hu.1, hu.2.trans (congrArg Value.bool (by rw [hA]; simp))⟩) ?_
    refine ObL.cons trivial (fun v ρ w hx hd S => op_pick (p := Is (.bool true)) true rfl (S.dep 7 rfl (hd 7 rfl)) (S.dep 9 rfl (hd 9 rfl))) ?_
    refine ObL.cons trivial (fun v ρ w hx hd S => op_move (p := Is (.bool true)) (.inr rfl) (S.dep 10 rfl (hd 10 rfl))) ?_
    exact ObL.nil
  · intro v a1 w hx hPP S hs hdf
    refine wpList_nil ?_
    exact hQ a1 w hx S.o hs hdf (S.dep 11 rfl (hPP 11 (by decide)))

def lf10bD : List (Option Tmp) := [some 48, some 49]
def lf10bP (x : Ev) (t : Tf) (k : Nat) (c : Cl) : List (World → Value → Prop) := [(Is (.int .i64 ((holdsF x c.tests).2))), (Is (.bool false))]
set_option maxHeartbeats 2000000 in
set_option maxRecDepth 100000 in
theorem lf10b (x : Ev) (hok : x.ok) (t : Tf) (k : Nat) (c : Cl) (he : (holdsF x c.tests).2 = 0) (Q : Exit → Act → World → Prop) (a0 : Act) (W : World) (hsz : a0.tmps.size = 159) (g10 : (Is (.int .i64 ((holdsF x c.tests).2))) W (a0.eval (.tmp 10)))
    (hQ : ∀ a1 W1, Ext W W1 → (∀ t, lf10bD.contains (some t) = false → a1.eval (.tmp t) = a0.eval (.tmp t)) → a1.tmps.size = 159 → a1.defers = a0.defers → (Is (.bool false)) W1 (a1.eval (.tmp 49)) → Q .normal a1 W1) : lfC10.wp Try.prog Q a0 W := by
  conv => arg 2; whnf
  refine wp_region_sq 2 lf10bD (lf10bP x t k c) 159 (by kernel_rfl) hsz ?_ ?_ ?_
  · exact AllSt.cons (Is.st _) (AllSt.cons (Is.st _) (AllSt.nil))
  · simp only [List.take_succ_cons, List.take_zero]
    refine ObL.cons trivial (fun v ρ w hx hd S => op_move (p := Is (.int .i64 ((holdsF x c.tests).2))) (.inl rfl) (S.out rfl ((Is.st _) _ _ _ hx g10))) ?_
    refine ObL.cons trivial (fun v ρ w hx hd S => (op_neq rfl (S.dep 0 rfl (hd 0 rfl)) (S.c _)).mono fun u w1 hu => ⟨hu.1, hu.2.trans (congrArg Value.bool (by simpa using he))⟩) ?_
    exact ObL.nil
  · intro v a1 w hx hPP S hs hdf
    refine wpList_nil ?_
    exact hQ a1 w hx S.o hs hdf (S.dep 1 rfl (hPP 1 (by decide)))

noncomputable def lfC12 : Code := ((Try.f8.body.bind (regionOf 12)).getD .skip)
def lf12aD : List (Option Tmp) := [some 61, some 62]
def lf12aP (x : Ev) (t : Tf) (k : Nat) (c : Cl) : List (World → Value → Prop) := [(Is (.bool ((holdsF x c.tests).1))), (Is (.bool true))]
set_option maxHeartbeats 2000000 in
set_option maxRecDepth 100000 in
theorem lf12a (x : Ev) (hok : x.ok) (t : Tf) (k : Nat) (c : Cl) (hb : (holdsF x c.tests).1 = false) (Q : Exit → Act → World → Prop) (a0 : Act) (W : World) (hsz : a0.tmps.size = 159) (g9 : (Is (.bool ((holdsF x c.tests).1))) W (a0.eval (.tmp 9)))
    (hQ : ∀ a1 W1, Ext W W1 → (∀ t, lf12aD.contains (some t) = false → a1.eval (.tmp t) = a0.eval (.tmp t)) → a1.tmps.size = 159 → a1.defers = a0.defers → (Is (.bool true)) W1 (a1.eval (.tmp 62)) → Q .normal a1 W1) : lfC12.wp Try.prog Q a0 W := by
  conv => arg 2; whnf
  refine wp_region_sq 2 lf12aD (lf12aP x t k c) 159 (by kernel_rfl) hsz ?_ ?_ ?_
  · exact AllSt.cons (Is.st _) (AllSt.cons (Is.st _) (AllSt.nil))
  · simp only [List.take_succ_cons, List.take_zero]
    refine ObL.cons trivial (fun v ρ w hx hd S => op_move (p := Is (.bool ((holdsF x c.tests).1))) (.inl rfl) (S.out rfl ((Is.st _) _ _ _ hx g9))) ?_
    refine ObL.cons trivial (fun v ρ w hx hd S => (op_not rfl (S.dep 0 rfl (hd 0 rfl))).mono fun u w1 hu => ⟨hu.1, hu.2.trans (congrArg Value.bool (by simpa using hb))⟩) ?_
    exact ObL.nil
  · intro v a1 w hx hPP S hs hdf
    refine wpList_nil ?_
    exact hQ a1 w hx S.o hs hdf (S.dep 1 rfl (hPP 1 (by decide)))

noncomputable def lfC8 : Code := ((Try.f8.body.bind (regionOf 8)).getD .skip)
def lf8E : List (Option Tmp) := [some 36, some 37]
def lf8D : List (Option Tmp) := lf8E ++ [some 8]
def lf8P (x : Ev) (t : Tf) (k : Nat) : List (World → Value → Prop) := [(Is (.int .i64 (((k : Nat) : Int)))), (Is (.int .i64 (((k + 1 : Nat) : Int))))]
set_option maxHeartbeats 2000000 in
set_option maxRecDepth 100000 in
theorem lf8 (x : Ev) (hok : x.ok) (t : Tf) (k : Nat) (hkl : k < t.cls.length) (h70 : t.cls.length ≤ 70) (Q : Exit → Act → World → Prop) (a0 : Act) (W : World) (hsz : a0.tmps.size = 159) (g8 : (Is (.int .i64 (((k : Nat) : Int)))) W (a0.eval (.tmp 8)))
    (hQ : ∀ a1 W1, Ext W W1 → (∀ t, lf8D.contains (some t) = false → a1.eval (.tmp t) = a0.eval (.tmp t)) → a1.tmps.size = 159 → a1.defers = a0.defers → (Is (.int .i64 (((k + 1 : Nat) : Int)))) W1 (a1.eval (.tmp 8)) → Q .normal a1 W1) : lfC8.wp Try.prog Q a0 W := by
  conv => arg 2; whnf
  refine wp_region_sq 2 lf8E (lf8P x t k) 159 (by kernel_rfl) hsz ?_ ?_ ?_
  · exact AllSt.cons (Is.st _) (AllSt.cons (Is.st _) (AllSt.nil))
  · simp only [List.take_succ_cons, List.take_zero]
    refine ObL.cons trivial (fun v ρ w hx hd S => op_move (p := Is (.int .i64 (((k : Nat) : Int)))) (.inl rfl) (S.out rfl ((Is.st _) _ _ _ hx g8))) ?_
    refine ObL.cons trivial (fun v ρ w hx hd S => (op_add rfl (S.dep 0 rfl (hd 0 rfl)) (S.c _) (by constructor <;> omega)).mono fun u w1 hu => ⟨hu.1, hu.2.trans (by simp)⟩) ?_
    exact ObL.nil
  · intro v a1 w hx hPP S hs hdf
    refine wpList_plain rfl fun K hK => ?_
    refine OpPost.wp (op_move (p := Is (.int .i64 (((k + 1 : Nat) : Int)))) (.inr rfl) (S.dep 1 rfl (hPP 1 (by decide)))) fun u w1 hu => ?_
    refine hK _ _ (wpList_nil ?_)
    exact hQ (a1.put (some 8) u) w1 (hx.trans hu.1) (put_others S) (put_size.trans hs) ((by rfl : _ = a1.defers).trans hdf) (by rw [put_same (by rw [hs]; decide)]; exact hu.2)

def lf12bD : List (Option Tmp) := [some 61, some 62]
def lf12bP (x : Ev) (t : Tf) (k : Nat) (c : Cl) : List (World → Value → Prop) := [(Is (.bool ((holdsF x c.tests).1))), (Is (.bool false))]
set_option maxHeartbeats 2000000 in
set_option maxRecDepth 100000 in
theorem lf12b (x : Ev) (hok : x.ok) (t : Tf) (k : Nat) (c : Cl) (hb : (holdsF x c.tests).1 = true) (Q : Exit → Act → World → Prop) (a0 : Act) (W : World) (hsz : a0.tmps.size = 159) (g9 : (Is (.bool ((holdsF x c.tests).1))) W (a0.eval (.tmp 9)))
    (hQ : ∀ a1 W1, Ext W W1 → (∀ t, lf12bD.contains (some t) = false → a1.eval (.tmp t) = a0.eval (.tmp t)) → a1.tmps.size = 159 → a1.defers = a0.defers → (Is (.bool false)) W1 (a1.eval (.tmp 62)) → Q .normal a1 W1) : lfC12.wp Try.prog Q a0 W := by
  conv => arg 2; whnf
  refine wp_region_sq 2 lf12bD (lf12bP x t k c) 159 (by kernel_rfl) hsz ?_ ?_ ?_
  · exact AllSt.cons (Is.st _) (AllSt.cons (Is.st _) (AllSt.nil))
  · simp only [List.take_succ_cons, List.take_zero]
    refine ObL.cons trivial (fun v ρ w hx hd S => op_move (p := Is (.bool ((holdsF x c.tests).1))) (.inl rfl) (S.out rfl ((Is.st _) _ _ _ hx g9))) ?_
    refine ObL.cons trivial (fun v ρ w hx hd S => (op_not rfl (S.dep 0 rfl (hd 0 rfl))).mono fun u w1 hu => ⟨hu.1, hu.2.trans (congrArg Value.bool (by simpa using hb))⟩) ?_
    exact ObL.nil
  · intro v a1 w hx hPP S hs hdf
    refine wpList_nil ?_
    exact hQ a1 w hx S.o hs hdf (S.dep 1 rfl (hPP 1 (by decide)))

noncomputable def lfC13 : Code := ((Try.f8.body.bind (regionOf 13)).getD .skip)
def lf13D : List (Option Tmp) := [some 64, some 65, some 66, some 67, some 68, some 69, some 70, some 71, some 63, some 72, some 73, some 11, some 12]
def lf13P (x : Ev) (t : Tf) (k : Nat) (c : Cl) : List (World → Value → Prop) := [(CellP (SlP 9 ClIn t.cls)), (SlP 9 ClIn t.cls), (Is (.int .i64 (((k : Nat) : Int)))), (LocP 9 (ClP c)), (LocP 7 (ExA c.pay)), (ExA c.pay), (Is (.agg x.cells.toArray)), (Is (.tuple #[.int .i64 ((EvalF c.pay x).1), .int .i64 ((EvalF c.pay x).2)])), (Is (.tuple #[.int .i64 ((EvalF c.pay x).1), .int .i64 ((EvalF c.pay x).2)])), (Is (.int .i64 ((EvalF c.pay x).1))), (Is (.int .i64 ((EvalF c.pay x).2))), (Is (.int .i64 ((EvalF c.pay x).1))), (Is (.int .i64 ((EvalF c.pay x).2)))]
set_option maxHeartbeats 2000000 in
set_option maxRecDepth 100000 in
theorem lf13 (x : Ev) (hok : x.ok) (t : Tf) (k : Nat) (c : Cl) (hi : t.cls[k]? = some c) (Q : Exit → Act → World → Prop) (a0 : Act) (W : World) (hsz : a0.tmps.size = 159) (g2 : (VarP 3 (TfP t)) W (a0.eval (.tmp 2))) (g3 : (VarP 17 (Is (.agg x.cells.toArray))) W (a0.eval (.tmp 3))) (g8 : (Is (.int .i64 (((k : Nat) : Int)))) W (a0.eval (.tmp 8)))
    (hQ : ∀ a1 W1, Ext W W1 → (∀ t, lf13D.contains (some t) = false → a1.eval (.tmp t) = a0.eval (.tmp t)) → a1.tmps.size = 159 → a1.defers = a0.defers → (Is (.int .i64 ((EvalF c.pay x).1))) W1 (a1.eval (.tmp 11)) → (Is (.int .i64 ((EvalF c.pay x).2))) W1 (a1.eval (.tmp 12)) → Q .normal a1 W1) : lfC13.wp Try.prog Q a0 W := by
  conv => arg 2; whnf
  refine wp_region_st 13 lf13D (lf13P x t k c) 159 (by kernel_rfl) (by kernel_rfl) hsz ?_ ?_ ?_
  · exact AllSt.cons (CellP.st (SlP.st ClIn.st)) (AllSt.cons (SlP.st ClIn.st) (AllSt.cons (Is.st _) (AllSt.cons (LocP.st ClP.st) (AllSt.cons (LocP.st ExA.st) (AllSt.cons ExA.st (AllSt.cons (Is.st _) (AllSt.cons (Is.st _) (AllSt.cons (Is.st _) (AllSt.cons (Is.st _) (AllSt.cons (Is.st _) (AllSt.cons (Is.st _) (AllSt.cons (Is.st _) (AllSt.nil)))))))))))))
  · simp only [List.take_succ_cons, List.take_zero]
    refine ObL.cons trivial (fun v ρ w hx hd S => op_tfCls rfl (VarP.loc (S.out rfl ((VarP.st TfP.st) _ _ _ hx g2)))) ?_
    refine ObL.cons trivial (fun v ρ w hx hd S => op_loadCls rfl (S.dep 0 rfl (hd 0 rfl))) ?_
    refine ObL.cons trivial (fun v ρ w hx hd S => op_move (p := Is (.int .i64 (((k : Nat) : Int)))) (.inl rfl) (S.out rfl ((Is.st _) _ _ _ hx g8))) ?_
    refine ObL.cons trivial (fun v ρ w hx hd S => op_clAt rfl (S.dep 1 rfl (hd 1 rfl)) (S.dep 2 rfl (hd 2 rfl)) hi) ?_
    refine ObL.cons trivial (fun v ρ w hx hd S => op_clPay rfl (S.dep 3 rfl (hd 3 rfl))) ?_
    refine ObL.cons trivial (fun v ρ w hx hd S => op_loadL _ _ rfl _ Try.underlying26 rfl info_expr (S.dep 4 rfl (hd 4 rfl))) ?_
    refine ObL.cons trivial (fun v ρ w hx hd S => op_loadV _ _ rfl _ Try.underlying29 rfl info_env (S.out rfl ((VarP.st (Is.st _)) _ _ _ hx g3))) ?_
    refine ObL.cons trivial (fun v ρ w hx hd S => op_evalT x hok rfl S (S.dep 5 rfl (hd 5 rfl)) (S.dep 6 rfl (hd 6 rfl))) ?_
    refine ObL.cons trivial (fun v ρ w hx hd S => op_move (p := Is (.tuple #[.int .i64 ((EvalF c.pay x).1), .int .i64 ((EvalF c.pay x).2)])) (.inl rfl) (S.dep 7 rfl (hd 7 rfl))) ?_
    refine ObL.cons trivial (fun v ρ w hx hd S => op_extract rfl (S.dep 8 rfl (hd 8 rfl)) rfl) ?_
    refine ObL.cons trivial (fun v ρ w hx hd S => op_extract rfl (S.dep 8 rfl (hd 8 rfl)) rfl) ?_
    refine ObL.cons trivial (fun v ρ w hx hd S => op_move (p := Is (.int .i64 ((EvalF c.pay x).1))) (.inr rfl) (S.dep 9 rfl (hd 9 rfl))) ?_
    refine ObL.cons trivial (fun v ρ w hx hd S => op_move (p := Is (.int .i64 ((EvalF c.pay x).2))) (.inr rfl) (S.dep 10 rfl (hd 10 rfl))) ?_
    exact ObL.nil
  · intro v a1 w hx hPP S hs hdf
    refine stable_all (by kernel_rfl) ?_
    exact hQ a1 w hx S.o hs hdf (S.dep 11 rfl (hPP 11 (by decide))) (S.dep 12 rfl (hPP 12 (by decide)))

noncomputable def lfC14 : Code := ((Try.f8.body.bind (regionOf 14)).getD .skip)
def lf14aD : List (Option Tmp) := [some 74, some 75]
def lf14aP (x : Ev) (t : Tf) (k : Nat) (c : Cl) : List (World → Value → Prop) := [(Is (.int .i64 ((EvalF c.pay x).2))), (Is (.bool true))]
set_option maxHeartbeats 2000000 in
set_option maxRecDepth 100000 in
theorem lf14a (x : Ev) (hok : x.ok) (t : Tf) (k : Nat) (c : Cl) (hv : ¬ (EvalF c.pay x).2 = 0) (Q : Exit → Act → World → Prop) (a0 : Act) (W : World) (hsz : a0.tmps.size = 159) (g12 : (Is (.int .i64 ((EvalF c.pay x).2))) W (a0.eval (.tmp 12)))
    (hQ : ∀ a1 W1, Ext W W1 → (∀ t, lf14aD.contains (some t) = false → a1.eval (.tmp t) = a0.eval (.tmp t)) → a1.tmps.size = 159 → a1.defers = a0.defers → (Is (.bool true)) W1 (a1.eval (.tmp 75)) → Q .normal a1 W1) : lfC14.wp Try.prog Q a0 W := by
  conv => arg 2; whnf
  refine wp_region_sq 2 lf14aD (lf14aP x t k c) 159 (by kernel_rfl) hsz ?_ ?_ ?_
  · exact AllSt.cons (Is.st _) (AllSt.cons (Is.st _) (AllSt.nil))
  · simp only [List.take_succ_cons, List.take_zero]
    refine ObL.cons trivial (fun v ρ w hx hd S => op_move (p := Is (.int .i64 ((EvalF c.pay x).2))) (.inl rfl) (S.out rfl ((Is.st _) _ _ _ hx g12))) ?_
    refine ObL.cons trivial (fun v ρ w hx hd S => (op_neq rfl (S.dep 0 rfl (hd 0 rfl)) (S.c _)).mono fun u w1 hu => ⟨hu.1, hu.2.trans (congrArg Value.bool (by simpa using hv))⟩) ?_
    exact ObL.nil
  · intro v a1 w hx hPP S hs hdf
    refine wpList_nil ?_
    exact hQ a1 w hx S.o hs hdf (S.dep 1 rfl (hPP 1 (by decide)))

noncomputable def lfC15 : Code := ((Try.f8.body.bind (regionOf 15)).getD .skip)
def lf15D : List (Option Tmp) := [some 76, some 77, some 78, some 79, some 80, some 81, some 82, some 83, some 84, some 85, some 86, some 4]
def lf15P (x : Ev) (t : Tf) (k : Nat) (c : Cl) : List (World → Value → Prop) := [(Is (.int .i64 ((amountF x t.cls 0).2.2))), (Is (.int .i64 ((EvalF c.pay x).2))), (Is (.bool true)), (Is (.bool true)), (Is (.int .i64 ((amountF x t.cls 0).1))), (Is (.bool true)), (Is (.bool true)), (Is (.bool true)), (Is (.int .i64 ((amountF x t.cls 0).2.1))), (Is (.bool true)), (Is (.bool true)), (Is (.bool true))]
set_option maxHeartbeats 2000000 in
set_option maxRecDepth 100000 in
theorem lf15 (x : Ev) (hok : x.ok) (t : Tf) (k : Nat) (c : Cl) (hA : amountF x t.cls 0 = (0, 0, (EvalF c.pay x).2)) (Q : Exit → Act → World → Prop) (a0 : Act) (W : World) (hsz : a0.tmps.size = 159) (g5 : (Is (.int .i64 ((amountF x t.cls 0).1))) W (a0.eval (.tmp 5))) (g6 : (Is (.int .i64 ((amountF x t.cls 0).2.1))) W (a0.eval (.tmp 6))) (g7 : (Is (.int .i64 ((amountF x t.cls 0).2.2))) W (a0.eval (.tmp 7))) (g12 : (Is (.int .i64 ((EvalF c.pay x).2))) W (a0.eval (.tmp 12)))
    (hQ : ∀ a1 W1, Ext W W1 → (∀ t, lf15D.contains (some t) = false → a1.eval (.tmp t) = a0.eval (.tmp t)) → a1.tmps.size = 159 → a1.defers = a0.defers → (Is (.bool true)) W1 (a1.eval (.tmp 4)) → Q .normal a1 W1) : lfC15.wp Try.prog Q a0 W := by
  conv => arg 2; whnf
  refine wp_region_sq 12 lf15D (lf15P x t k c) 159 (by kernel_rfl) hsz ?_ ?_ ?_
  · exact AllSt.cons (Is.st _) (AllSt.cons (Is.st _) (AllSt.cons (Is.st _) (AllSt.cons (Is.st _) (AllSt.cons (Is.st _) (AllSt.cons (Is.st _) (AllSt.cons (Is.st _) (AllSt.cons (Is.st _) (AllSt.cons (Is.st _) (AllSt.cons (Is.st _) (AllSt.cons (Is.st _) (AllSt.cons (Is.st _) (AllSt.nil))))))))))))
  · simp only [List.take_succ_cons, List.take_zero]
    refine ObL.cons trivial (fun v ρ w hx hd S => op_move (p := Is (.int .i64 ((amountF x t.cls 0).2.2))) (.inl rfl) (S.out rfl ((Is.st _) _ _ _ hx g7))) ?_
    refine ObL.cons trivial (fun v ρ w hx hd S => op_move (p := Is (.int .i64 ((EvalF c.pay x).2))) (.inl rfl) (S.out rfl ((Is.st _) _ _ _ hx g12))) ?_
    refine ObL.cons trivial (fun v ρ w hx hd S => (op_eql rfl (S.dep 0 rfl (hd 0 rfl)) (S.dep 1 rfl (hd 1 rfl))).mono fun u w1 hu => ⟨hu.1, hu.2.trans (congrArg Value.bool (by rw [hA]; simp))⟩) ?_
    refine ObL.cons trivial (fun v ρ w hx hd S => op_move (p := Is (.bool true)) (.inl rfl) (S.dep 2 rfl (hd 2 rfl))) ?_
    refine ObL.cons ⟨rfl, fun w u h => h⟩ (fun v ρ w hx hd S => op_move (p := Is (.int .i64 ((amountF x t.cls 0).1))) (.inl rfl) (S.out rfl ((Is.st _) _ _ _ hx g5))) ?_
    refine ObL.cons ⟨rfl, fun w u h => h⟩ (fun v ρ w hx hd S => (op_eql rfl (S.dep 4 rfl (hd 4 rfl)) (S.c _)).mono fun u w1 hu => ⟨hu.1, hu.2.trans (congrArg Value.bool (by rw [hA]; simp))⟩) ?_
    refine ObL.cons trivial (fun v ρ w hx hd S => op_pick (p := Is (.bool true)) true rfl (S.dep 3 rfl (hd 3 rfl)) (S.dep 5 rfl (hd 5 rfl))) ?_
    refine ObL.cons trivial (fun v ρ w hx hd S => op_move (p := Is (.bool true)) (.inl rfl) (S.dep 6 rfl (hd 6 rfl))) ?_
    refine ObL.cons ⟨rfl, fun w u h => h⟩ (fun v ρ w hx hd S => op_move (p := Is (.int .i64 ((amountF x t.cls 0).2.1))) (.inl rfl) (S.out rfl ((Is.st _) _ _ _ hx g6))) ?_
    refine ObL.cons ⟨rfl, fun w u h => h⟩ (fun v ρ w hx hd S => (op_eql rfl (S.dep 8 rfl (hd 8 rfl)) (S.c _)).mono fun u w1 hu => ⟨hu.1, hu.2.trans (congrArg Value.bool (by rw [hA]; simp))⟩) ?_
    refine ObL.cons trivial (fun v ρ w hx hd S => op_pick (p := Is (.bool true)) true rfl (S.dep 7 rfl (hd 7 rfl)) (S.dep 9 rfl (hd 9 rfl))) ?_
    refine ObL.cons trivial (fun v ρ w hx hd S => op_move (p := Is (.bool true)) (.inr rfl) (S.dep 10 rfl (hd 10 rfl))) ?_
    exact ObL.nil
  · intro v a1 w hx hPP S hs hdf
    refine wpList_nil ?_
    exact hQ a1 w hx S.o hs hdf (S.dep 11 rfl (hPP 11 (by decide)))

def lf14bD : List (Option Tmp) := [some 74, some 75]
def lf14bP (x : Ev) (t : Tf) (k : Nat) (c : Cl) : List (World → Value → Prop) := [(Is (.int .i64 ((EvalF c.pay x).2))), (Is (.bool false))]
set_option maxHeartbeats 2000000 in
set_option maxRecDepth 100000 in
theorem lf14b (x : Ev) (hok : x.ok) (t : Tf) (k : Nat) (c : Cl) (hv : (EvalF c.pay x).2 = 0) (Q : Exit → Act → World → Prop) (a0 : Act) (W : World) (hsz : a0.tmps.size = 159) (g12 : (Is (.int .i64 ((EvalF c.pay x).2))) W (a0.eval (.tmp 12)))
    (hQ : ∀ a1 W1, Ext W W1 → (∀ t, lf14bD.contains (some t) = false → a1.eval (.tmp t) = a0.eval (.tmp t)) → a1.tmps.size = 159 → a1.defers = a0.defers → (Is (.bool false)) W1 (a1.eval (.tmp 75)) → Q .normal a1 W1) : lfC14.wp Try.prog Q a0 W := by
  conv => arg 2; whnf
  refine wp_region_sq 2 lf14bD (lf14bP x t k c) 159 (by kernel_rfl) hsz ?_ ?_ ?_
  · exact AllSt.cons (Is.st _) (AllSt.cons (Is.st _) (AllSt.nil))
  · simp only [List.take_succ_cons, List.take_zero]
    refine ObL.cons trivial (fun v ρ w hx hd S => op_move (p := Is (.int .i64 ((EvalF c.pay x).2))) (.inl rfl) (S.out rfl ((Is.st _) _ _ _ hx g12))) ?_
    refine ObL.cons trivial (fun v ρ w hx hd S => (op_neq rfl (S.dep 0 rfl (hd 0 rfl)) (S.c _)).mono fun u w1 hu => ⟨hu.1, hu.2.trans (congrArg Value.bool (by simpa using hv))⟩) ?_
    exact ObL.nil
  · intro v a1 w hx hPP S hs hdf
    refine wpList_nil ?_
    exact hQ a1 w hx S.o hs hdf (S.dep 1 rfl (hPP 1 (by decide)))

noncomputable def lfC16 : Code := ((Try.f8.body.bind (regionOf 16)).getD .skip)
def lf16D : List (Option Tmp) := [some 88, some 89, some 90, some 91, some 92, some 93, some 94, some 87, some 95, some 96, some 97, some 13, some 14, some 15]
def lf16P (x : Ev) (t : Tf) (k : Nat) (c : Cl) : List (World → Value → Prop) := [(CellP (SlP 9 ClIn t.cls)), (SlP 9 ClIn t.cls), (Is (.int .i64 (((k : Nat) : Int)))), (SlP 9 ClIn (t.cls.drop k)), (TfP (tfOf (t.cls.drop k))), (Is (.agg x.cells.toArray)), (Is (.tuple #[.int .i64 ((amountF x (tfOf (t.cls.drop k)).cls 0).1), .int .i64 ((amountF x (tfOf (t.cls.drop k)).cls 0).2.1), .int .i64 ((amountF x (tfOf (t.cls.drop k)).cls 0).2.2)])), (Is (.tuple #[.int .i64 ((amountF x (tfOf (t.cls.drop k)).cls 0).1), .int .i64 ((amountF x (tfOf (t.cls.drop k)).cls 0).2.1), .int .i64 ((amountF x (tfOf (t.cls.drop k)).cls 0).2.2)])), (Is (.int .i64 ((amountF x (tfOf (t.cls.drop k)).cls 0).1))), (Is (.int .i64 ((amountF x (tfOf (t.cls.drop k)).cls 0).2.1))), (Is (.int .i64 ((amountF x (tfOf (t.cls.drop k)).cls 0).2.2))), (Is (.int .i64 ((amountF x (tfOf (t.cls.drop k)).cls 0).1))), (Is (.int .i64 ((amountF x (tfOf (t.cls.drop k)).cls 0).2.1))), (Is (.int .i64 ((amountF x (tfOf (t.cls.drop k)).cls 0).2.2)))]
set_option maxHeartbeats 2000000 in
set_option maxRecDepth 100000 in
theorem lf16 (x : Ev) (hok : x.ok) (t : Tf) (k : Nat) (c : Cl) (hkl : k < t.cls.length) (h70 : t.cls.length ≤ 70) (Q : Exit → Act → World → Prop) (a0 : Act) (W : World) (hsz : a0.tmps.size = 159) (g2 : (VarP 3 (TfP t)) W (a0.eval (.tmp 2))) (g3 : (VarP 17 (Is (.agg x.cells.toArray))) W (a0.eval (.tmp 3))) (g8 : (Is (.int .i64 (((k : Nat) : Int)))) W (a0.eval (.tmp 8)))
    (hQ : ∀ a1 W1, Ext W W1 → (∀ t, lf16D.contains (some t) = false → a1.eval (.tmp t) = a0.eval (.tmp t)) → a1.tmps.size = 159 → a1.defers = a0.defers → (Is (.int .i64 ((amountF x (tfOf (t.cls.drop k)).cls 0).1))) W1 (a1.eval (.tmp 13)) → (Is (.int .i64 ((amountF x (tfOf (t.cls.drop k)).cls 0).2.1))) W1 (a1.eval (.tmp 14)) → (Is (.int .i64 ((amountF x (tfOf (t.cls.drop k)).cls 0).2.2))) W1 (a1.eval (.tmp 15)) → Q .normal a1 W1) : lfC16.wp Try.prog Q a0 W := by
  conv => arg 2; whnf
  refine wp_region_st 14 lf16D (lf16P x t k c) 159 (by kernel_rfl) (by kernel_rfl) hsz ?_ ?_ ?_
  · exact AllSt.cons (CellP.st (SlP.st ClIn.st)) (AllSt.cons (SlP.st ClIn.st) (AllSt.cons (Is.st _) (AllSt.cons (SlP.st ClIn.st) (AllSt.cons TfP.st (AllSt.cons (Is.st _) (AllSt.cons (Is.st _) (AllSt.cons (Is.st _) (AllSt.cons (Is.st _) (AllSt.cons (Is.st _) (AllSt.cons (Is.st _) (AllSt.cons (Is.st _) (AllSt.cons (Is.st _) (AllSt.cons (Is.st _) (AllSt.nil))))))))))))))
  · simp only [List.take_succ_cons, List.take_zero]
    refine ObL.cons trivial (fun v ρ w hx hd S => op_tfCls rfl (VarP.loc (S.out rfl ((VarP.st TfP.st) _ _ _ hx g2)))) ?_
    refine ObL.cons trivial (fun v ρ w hx hd S => op_loadCls rfl (S.dep 0 rfl (hd 0 rfl))) ?_
    refine ObL.cons trivial (fun v ρ w hx hd S => op_move (p := Is (.int .i64 (((k : Nat) : Int)))) (.inl rfl) (S.out rfl ((Is.st _) _ _ _ hx g8))) ?_
    refine ObL.cons trivial (fun v ρ w hx hd S => op_clFrom rfl (show (SlP 9 ClIn t.cls) w (ρ (.tmp 89)) from (S.dep 1 rfl (hd 1 rfl))) (S.dep 2 rfl (hd 2 rfl)) hkl) ?_
    refine ObL.cons trivial (fun v ρ w hx hd S => op_tfBuild rfl (show (SlP 9 ClIn (t.cls.drop k)) w (ρ (.tmp 91)) from (S.dep 3 rfl (hd 3 rfl)))) ?_
    refine ObL.cons trivial (fun v ρ w hx hd S => op_loadV _ _ rfl _ Try.underlying29 rfl info_env (S.out rfl ((VarP.st (Is.st _)) _ _ _ hx g3))) ?_
    refine ObL.cons trivial (fun v ρ w hx hd S => op_amountT x hok rfl S (S.dep 4 rfl (hd 4 rfl)) (S.dep 5 rfl (hd 5 rfl))) ?_
    refine ObL.cons trivial (fun v ρ w hx hd S => op_move (p := Is (.tuple #[.int .i64 ((amountF x (tfOf (t.cls.drop k)).cls 0).1), .int .i64 ((amountF x (tfOf (t.cls.drop k)).cls 0).2.1), .int .i64 ((amountF x (tfOf (t.cls.drop k)).cls 0).2.2)])) (.inl rfl) (S.dep 6 rfl (hd 6 rfl))) ?_
    refine ObL.cons trivial (fun v ρ w hx hd S => op_extract rfl (S.dep 7 rfl (hd 7 rfl)) rfl) ?_
    refine ObL.cons trivial (fun v ρ w hx hd S => op_extract rfl (S.dep 7 rfl (hd 7 rfl)) rfl) ?_
    refine ObL.cons trivial (fun v ρ w hx hd S => op_extract rfl (S.dep 7 rfl (hd 7 rfl)) rfl) ?_
    refine ObL.cons trivial (fun v ρ w hx hd S => op_move (p := Is (.int .i64 ((amountF x (tfOf (t.cls.drop k)).cls 0).1))) (.inr rfl) (S.dep 8 rfl (hd 8 rfl))) ?_
    refine ObL.cons trivial (fun v ρ w hx hd S => op_move (p := Is (.int .i64 ((amountF x (tfOf (t.cls.drop k)).cls 0).2.1))) (.inr rfl) (S.dep 9 rfl (hd 9 rfl))) ?_
    refine ObL.cons trivial (fun v ρ w hx hd S => op_move (p := Is (.int .i64 ((amountF x (tfOf (t.cls.drop k)).cls 0).2.2))) (.inr rfl) (S.dep 10 rfl (hd 10 rfl))) ?_
    exact ObL.nil
  · intro v a1 w hx hPP S hs hdf
    refine stable_all (by kernel_rfl) ?_
    exact hQ a1 w hx S.o hs hdf (S.dep 11 rfl (hPP 11 (by decide))) (S.dep 12 rfl (hPP 12 (by decide))) (S.dep 13 rfl (hPP 13 (by decide)))

noncomputable def lfC17 : Code := ((Try.f8.body.bind (regionOf 17)).getD .skip)
def lf17D : List (Option Tmp) := [some 99, some 100, some 101, some 102, some 103, some 104, some 105, some 106, some 98, some 107, some 108, some 109, some 16, some 17, some 18]
def lf17P (x : Ev) (t : Tf) (k : Nat) (c : Cl) : List (World → Value → Prop) := [(CellP (SlP 9 ClIn t.cls)), (SlP 9 ClIn t.cls), (Is (.int .i64 (((k : Nat) : Int)))), (Is (.int .i64 (((k + 1 : Nat) : Int)))), (SlP 9 ClIn (t.cls.take (k + 1))), (TfP (tfOf (t.cls.take (k + 1)))), (Is (.agg x.cells.toArray)), (Is (.tuple #[.int .i64 ((amountF x (tfOf (t.cls.take (k + 1))).cls 0).1), .int .i64 ((amountF x (tfOf (t.cls.take (k + 1))).cls 0).2.1), .int .i64 ((amountF x (tfOf (t.cls.take (k + 1))).cls 0).2.2)])), (Is (.tuple #[.int .i64 ((amountF x (tfOf (t.cls.take (k + 1))).cls 0).1), .int .i64 ((amountF x (tfOf (t.cls.take (k + 1))).cls 0).2.1), .int .i64 ((amountF x (tfOf (t.cls.take (k + 1))).cls 0).2.2)])), (Is (.int .i64 ((amountF x (tfOf (t.cls.take (k + 1))).cls 0).1))), (Is (.int .i64 ((amountF x (tfOf (t.cls.take (k + 1))).cls 0).2.1))), (Is (.int .i64 ((amountF x (tfOf (t.cls.take (k + 1))).cls 0).2.2))), (Is (.int .i64 ((amountF x (tfOf (t.cls.take (k + 1))).cls 0).1))), (Is (.int .i64 ((amountF x (tfOf (t.cls.take (k + 1))).cls 0).2.1))), (Is (.int .i64 ((amountF x (tfOf (t.cls.take (k + 1))).cls 0).2.2)))]
set_option maxHeartbeats 2000000 in
set_option maxRecDepth 100000 in
theorem lf17 (x : Ev) (hok : x.ok) (t : Tf) (k : Nat) (c : Cl) (hkl : k < t.cls.length) (h70 : t.cls.length ≤ 70) (Q : Exit → Act → World → Prop) (a0 : Act) (W : World) (hsz : a0.tmps.size = 159) (g2 : (VarP 3 (TfP t)) W (a0.eval (.tmp 2))) (g3 : (VarP 17 (Is (.agg x.cells.toArray))) W (a0.eval (.tmp 3))) (g8 : (Is (.int .i64 (((k : Nat) : Int)))) W (a0.eval (.tmp 8)))
    (hQ : ∀ a1 W1, Ext W W1 → (∀ t, lf17D.contains (some t) = false → a1.eval (.tmp t) = a0.eval (.tmp t)) → a1.tmps.size = 159 → a1.defers = a0.defers → (Is (.int .i64 ((amountF x (tfOf (t.cls.take (k + 1))).cls 0).1))) W1 (a1.eval (.tmp 16)) → (Is (.int .i64 ((amountF x (tfOf (t.cls.take (k + 1))).cls 0).2.1))) W1 (a1.eval (.tmp 17)) → (Is (.int .i64 ((amountF x (tfOf (t.cls.take (k + 1))).cls 0).2.2))) W1 (a1.eval (.tmp 18)) → Q .normal a1 W1) : lfC17.wp Try.prog Q a0 W := by
  conv => arg 2; whnf
  refine wp_region_st 15 lf17D (lf17P x t k c) 159 (by kernel_rfl) (by kernel_rfl) hsz ?_ ?_ ?_
  · exact AllSt.cons (CellP.st (SlP.st ClIn.st)) (AllSt.cons (SlP.st ClIn.st) (AllSt.cons (Is.st _) (AllSt.cons (Is.st _) (AllSt.cons (SlP.st ClIn.st) (AllSt.cons TfP.st (AllSt.cons (Is.st _) (AllSt.cons (Is.st _) (AllSt.cons (Is.st _) (AllSt.cons (Is.st _) (AllSt.cons (Is.st _) (AllSt.cons (Is.st _) (AllSt.cons (Is.st _) (AllSt.cons (Is.st _) (AllSt.cons (Is.st _) (AllSt.nil)))))))))))))))
  · simp only [List.take_succ_cons, List.take_zero]
    refine ObL.cons trivial (fun v ρ w hx hd S => op_tfCls rfl (VarP.loc (S.out rfl ((VarP.st TfP.st) _ _ _ hx g2)))) ?_
    refine ObL.cons trivial (fun v ρ w hx hd S => op_loadCls rfl (S.dep 0 rfl (hd 0 rfl))) ?_
    refine ObL.cons trivial (fun v ρ w hx hd S => op_move (p := Is (.int .i64 (((k : Nat) : Int)))) (.inl rfl) (S.out rfl ((Is.st _) _ _ _ hx g8))) ?_
    refine ObL.cons trivial (fun v ρ w hx hd S => (op_add rfl (S.dep 2 rfl (hd 2 rfl)) (S.c _) (by constructor <;> omega)).mono fun u w1 hu => ⟨hu.1, hu.2.trans (by simp)⟩) ?_
    refine ObL.cons trivial (fun v ρ w hx hd S => op_clTo rfl (show (SlP 9 ClIn t.cls) w (ρ (.tmp 100)) from (S.dep 1 rfl (hd 1 rfl))) (S.dep 3 rfl (hd 3 rfl)) hkl) ?_
    refine ObL.cons trivial (fun v ρ w hx hd S => op_tfBuild rfl (show (SlP 9 ClIn (t.cls.take (k + 1))) w (ρ (.tmp 103)) from (S.dep 4 rfl (hd 4 rfl)))) ?_
    refine ObL.cons trivial (fun v ρ w hx hd S => op_loadV _ _ rfl _ Try.underlying29 rfl info_env (S.out rfl ((VarP.st (Is.st _)) _ _ _ hx g3))) ?_
    refine ObL.cons trivial (fun v ρ w hx hd S => op_amountT x hok rfl S (S.dep 5 rfl (hd 5 rfl)) (S.dep 6 rfl (hd 6 rfl))) ?_
    refine ObL.cons trivial (fun v ρ w hx hd S => op_move (p := Is (.tuple #[.int .i64 ((amountF x (tfOf (t.cls.take (k + 1))).cls 0).1), .int .i64 ((amountF x (tfOf (t.cls.take (k + 1))).cls 0).2.1), .int .i64 ((amountF x (tfOf (t.cls.take (k + 1))).cls 0).2.2)])) (.inl rfl) (S.dep 7 rfl (hd 7 rfl))) ?_
    refine ObL.cons trivial (fun v ρ w hx hd S => op_extract rfl (S.dep 8 rfl (hd 8 rfl)) rfl) ?_
    refine ObL.cons trivial (fun v ρ w hx hd S => op_extract rfl (S.dep 8 rfl (hd 8 rfl)) rfl) ?_
    refine ObL.cons trivial (fun v ρ w hx hd S => op_extract rfl (S.dep 8 rfl (hd 8 rfl)) rfl) ?_
    refine ObL.cons trivial (fun v ρ w hx hd S => op_move (p := Is (.int .i64 ((amountF x (tfOf (t.cls.take (k + 1))).cls 0).1))) (.inr rfl) (S.dep 9 rfl (hd 9 rfl))) ?_
    refine ObL.cons trivial (fun v ρ w hx hd S => op_move (p := Is (.int .i64 ((amountF x (tfOf (t.cls.take (k + 1))).cls 0).2.1))) (.inr rfl) (S.dep 10 rfl (hd 10 rfl))) ?_
    refine ObL.cons trivial (fun v ρ w hx hd S => op_move (p := Is (.int .i64 ((amountF x (tfOf (t.cls.take (k + 1))).cls 0).2.2))) (.inr rfl) (S.dep 11 rfl (hd 11 rfl))) ?_
    exact ObL.nil
  · intro v a1 w hx hPP S hs hdf
    refine stable_all (by kernel_rfl) ?_
    exact hQ a1 w hx S.o hs hdf (S.dep 12 rfl (hPP 12 (by decide))) (S.dep 13 rfl (hPP 13 (by decide))) (S.dep 14 rfl (hPP 14 (by decide)))

noncomputable def lfC18 : Code := ((Try.f8.body.bind (regionOf 18)).getD .skip)
def lf18D : List (Option Tmp) := [some 110, some 111, some 112, some 113, some 114, some 115, some 116, some 117, some 118, some 119, some 120, some 121, some 122, some 123, some 124, some 125, some 126, some 127, some 128, some 129, some 130, some 131, some 132, some 133, some 134, some 135, some 136, some 137, some 138, some 139, some 140, some 141, some 142, some 143, some 144, some 145, some 146, some 147, some 148, some 4]
def lf18P (x : Ev) (t : Tf) (k : Nat) (c : Cl) : List (World → Value → Prop) := [(Is (.int .i64 ((amountF x t.cls 0).2.2))), (Is (.bool true)), (Is (.bool true)), (Is (.int .i64 ((amountF x t.cls 0).1))), (Is (.int .i64 ((EvalF c.pay x).1))), (Is (.bool true)), (Is (.bool true)), (Is (.bool true)), (Is (.int .i64 ((amountF x t.cls 0).2.1))), (Is (.int .i64 (((k : Nat) : Int)))), (Is (.bool true)), (Is (.bool true)), (Is (.bool true)), (Is (.int .i64 ((amountF x (tfOf (t.cls.drop k)).cls 0).2.2))), (Is (.bool true)), (Is (.bool true)), (Is (.bool true)), (Is (.int .i64 ((amountF x (tfOf (t.cls.drop k)).cls 0).1))), (Is (.int .i64 ((amountF x t.cls 0).1))), (Is (.bool true)), (Is (.bool true)), (Is (.bool true)), (Is (.int .i64 ((amountF x (tfOf (t.cls.drop k)).cls 0).2.1))), (Is (.bool true)), (Is (.bool true)), (Is (.bool true)), (Is (.int .i64 ((amountF x (tfOf (t.cls.take (k + 1))).cls 0).2.2))), (Is (.bool true)), (Is (.bool true)), (Is (.bool true)), (Is (.int .i64 ((amountF x (tfOf (t.cls.take (k + 1))).cls 0).1))), (Is (.int .i64 ((amountF x t.cls 0).1))), (Is (.bool true)), (Is (.bool true)), (Is (.bool true)), (Is (.int .i64 ((amountF x (tfOf (t.cls.take (k + 1))).cls 0).2.1))), (Is (.int .i64 (((k : Nat) : Int)))), (Is (.bool true)), (Is (.bool true)), (Is (.bool true))]
set_option maxHeartbeats 2000000 in
set_option maxRecDepth 100000 in
theorem lf18 (x : Ev) (hok : x.ok) (t : Tf) (k : Nat) (c : Cl) (hA : amountF x t.cls 0 = ((EvalF c.pay x).1, (k : Int), 0)) (hD : amountF x (tfOf (t.cls.drop k)).cls 0 = ((EvalF c.pay x).1, 0, 0)) (hT : amountF x (tfOf (t.cls.take (k + 1))).cls 0 = ((EvalF c.pay x).1, (k : Int), 0)) (Q : Exit → Act → World → Prop) (a0 : Act) (W : World) (hsz : a0.tmps.size = 159) (g5 : (Is (.int .i64 ((amountF x t.cls 0).1))) W (a0.eval (.tmp 5))) (g6 : (Is (.int .i64 ((amountF x t.cls 0).2.1))) W (a0.eval (.tmp 6))) (g7 : (Is (.int .i64 ((amountF x t.cls 0).2.2))) W (a0.eval (.tmp 7))) (g8 : (Is (.int .i64 (((k : Nat) : Int)))) W (a0.eval (.tmp 8))) (g11 : (Is (.int .i64 ((EvalF c.pay x).1))) W (a0.eval (.tmp 11))) (g13 : (Is (.int .i64 ((amountF x (tfOf (t.cls.drop k)).cls 0).1))) W (a0.eval (.tmp 13))) (g14 : (Is (.int .i64 ((amountF x (tfOf (t.cls.drop k)).cls 0).2.1))) W (a0.eval (.tmp 14))) (g15 : (Is (.int .i64 ((amountF x (tfOf (t.cls.drop k)).cls 0).2.2))) W (a0.eval (.tmp 15))) (g16 : (Is (.int .i64 ((amountF x (tfOf (t.cls.take (k + 1))).cls 0).1))) W (a0.eval (.tmp 16))) (g17 : (Is (.int .i64 ((amountF x (tfOf (t.cls.take (k + 1))).cls 0).2.1))) W (a0.eval (.tmp 17))) (g18 : (Is (.int .i64 ((amountF x (tfOf (t.cls.take (k + 1))).cls 0).2.2))) W (a0.eval (.tmp 18)))
    (hQ : ∀ a1 W1, Ext W W1 → (∀ t, lf18D.contains (some t) = false → a1.eval (.tmp t) = a0.eval (.tmp t)) → a1.tmps.size = 159 → a1.defers = a0.defers → (Is (.bool true)) W1 (a1.eval (.tmp 4)) → Q .normal a1 W1) : lfC18.wp Try.prog Q a0 W := by
  conv => arg 2; whnf
  refine wp_region_sq 40 lf18D (lf18P x t k c) 159 (by kernel_rfl) hsz ?_ ?_ ?_
  · exact AllSt.cons (Is.st _) (AllSt.cons (Is.st _) (AllSt.cons (Is.st _) (AllSt.cons (Is.st _) (AllSt.cons (Is.st _) (AllSt.cons (Is.st _) (AllSt.cons (Is.st _) (AllSt.cons (Is.st _) (AllSt.cons (Is.st _) (AllSt.cons (Is.st _) (AllSt.cons (Is.st _) (AllSt.cons (Is.st _) (AllSt.cons (Is.st _) (AllSt.cons (Is.st _) (AllSt.cons (Is.st _) (AllSt.cons (Is.st _) (AllSt.cons (Is.st _) (AllSt.cons (Is.st _) (AllSt.cons (Is.st _) (AllSt.cons (Is.st _) (AllSt.cons (Is.st _) (AllSt.cons (Is.st _) (AllSt.cons (Is.st _) (AllSt.cons (Is.st _) (AllSt.cons (Is.st _) (AllSt.cons (Is.st _) (AllSt.cons (Is.st _) (AllSt.cons (Is.st _) (AllSt.cons (Is.st _) (AllSt.cons (Is.st _) (AllSt.cons (Is.st _) (AllSt.cons (Is.st _) (AllSt.cons (Is.st _) (AllSt.cons (Is.st _) (AllSt.cons (Is.st _) (AllSt.cons (Is.st _) (AllSt.cons (Is.st _) (AllSt.cons (Is.st _) (AllSt.cons (Is.st _) (AllSt.cons (Is.st _) (AllSt.nil))))))))))))))))))))))))))))))))))))))))
  · simp only [List.take_succ_cons, List.take_zero]
    refine ObL.cons trivial (fun v ρ w hx hd S => op_move (p := Is (.int .i64 ((amountF x t.cls 0).2.2))) (.inl rfl) (S.out rfl ((Is.st _) _ _ _ hx g7))) ?_
    refine ObL.cons trivial (fun v ρ w hx hd S => (op_eql rfl (S.dep 0 rfl (hd 0 rfl)) (S.c _)).mono fun u w1 hu => ⟨hu.1, hu.2.trans (congrArg Value.bool (by rw [hA]; simp))⟩) ?_
    refine ObL.cons trivial (fun v ρ w hx hd S => op_move (p := Is (.bool true)) (.inl rfl) (S.dep 1 rfl (hd 1 rfl))) ?_
    refine ObL.cons ⟨rfl, fun w u h => h⟩ (fun v ρ w hx hd S => op_move (p := Is (.int .i64 ((amountF x t.cls 0).1))) (.inl rfl) (S.out rfl ((Is.st _) _ _ _ hx g5))) ?_
    refine ObL.cons ⟨rfl, fun w u h => h⟩ (fun v ρ w hx hd S => op_move (p := Is (.int .i64 ((EvalF c.pay x).1))) (.inl rfl) (S.out rfl ((Is.st _) _ _ _ hx g11))) ?_
    refine ObL.cons ⟨rfl, fun w u h => h⟩ (fun v ρ w hx hd S => (op_eql rfl (S.dep 3 rfl (hd 3 rfl)) (S.dep 4 rfl (hd 4 rfl))).mono fun u w1 hu => ⟨hu.1, hu.2.trans (congrArg Value.bool (by rw [hA]; simp))⟩) ?_
    refine ObL.cons trivial (fun v ρ w hx hd S => op_pick (p := Is (.bool true)) true rfl (S.dep 2 rfl (hd 2 rfl)) (S.dep 5 rfl (hd 5 rfl))) ?_
    refine ObL.cons trivial (fun v ρ w hx hd S => op_move (p := Is (.bool true)) (.inl rfl) (S.dep 6 rfl (hd 6 rfl))) ?_
    refine ObL.cons ⟨rfl, fun w u h => h⟩ (fun v ρ w hx hd S => op_move (p := Is (.int .i64 ((amountF x t.cls 0).2.1))) (.inl rfl) (S.out rfl ((Is.st _) _ _ _ hx g6))) ?_
    refine ObL.cons ⟨rfl, fun w u h => h⟩ (fun v ρ w hx hd S => op_move (p := Is (.int .i64 (((k : Nat) : Int)))) (.inl rfl) (S.out rfl ((Is.st _) _ _ _ hx g8))) ?_
    refine ObL.cons ⟨rfl, fun w u h => h⟩ (fun v ρ w hx hd S => (op_eql rfl (S.dep 8 rfl (hd 8 rfl)) (S.dep 9 rfl (hd 9 rfl))).mono fun u w1 hu => ⟨hu.1, hu.2.trans (congrArg Value.bool (by rw [hA]; simp))⟩) ?_
    refine ObL.cons trivial (fun v ρ w hx hd S => op_pick (p := Is (.bool true)) true rfl (S.dep 7 rfl (hd 7 rfl)) (S.dep 10 rfl (hd 10 rfl))) ?_
    refine ObL.cons trivial (fun v ρ w hx hd S => op_move (p := Is (.bool true)) (.inl rfl) (S.dep 11 rfl (hd 11 rfl))) ?_
    refine ObL.cons ⟨rfl, fun w u h => h⟩ (fun v ρ w hx hd S => op_move (p := Is (.int .i64 ((amountF x (tfOf (t.cls.drop k)).cls 0).2.2))) (.inl rfl) (S.out rfl ((Is.st _) _ _ _ hx g15))) ?_
    refine ObL.cons ⟨rfl, fun w u h => h⟩ (fun v ρ w hx hd S => (op_eql rfl (S.dep 13 rfl (hd 13 rfl)) (S.c _)).mono fun u w1 hu => ⟨hu.1, hu.2.trans (congrArg Value.bool (by rw [hD]; simp))⟩) ?_
    refine ObL.cons trivial (fun v ρ w hx hd S => op_pick (p := Is (.bool true)) true rfl (S.dep 12 rfl (hd 12 rfl)) (S.dep 14 rfl (hd 14 rfl))) ?_
    refine ObL.cons trivial (fun v ρ w hx hd S => op_move (p := Is (.bool true)) (.inl rfl) (S.dep 15 rfl (hd 15 rfl))) ?_
    refine ObL.cons ⟨rfl, fun w u h => h⟩ (fun v ρ w hx hd S => op_move (p := Is (.int .i64 ((amountF x (tfOf (t.cls.drop k)).cls 0).1))) (.inl rfl) (S.out rfl ((Is.st _) _ _ _ hx g13))) ?_
    refine ObL.cons ⟨rfl, fun w u h => h⟩ (fun v ρ w hx hd S => op_move (p := Is (.int .i64 ((amountF x t.cls 0).1))) (.inl rfl) (S.out rfl ((Is.st _) _ _ _ hx g5))) ?_
    refine ObL.cons ⟨rfl, fun w u h => h⟩ (fun v ρ w hx hd S => (op_eql rfl (S.dep 17 rfl (hd 17 rfl)) (S.dep 18 rfl (hd 18 rfl))).mono fun u w1 hu => ⟨hu.1, hu.2.trans (congrArg Value.bool (by rw [hD, hA]; simp))⟩) ?_
    refine ObL.cons trivial (fun v ρ w hx hd S => op_pick (p := Is (.bool true)) true rfl (S.dep 16 rfl (hd 16 rfl)) (S.dep 19 rfl (hd 19 rfl))) ?_
    refine ObL.cons trivial (fun v ρ w hx hd S => op_move (p := Is (.bool true)) (.inl rfl) (S.dep 20 rfl (hd 20 rfl))) ?_
    refine ObL.cons ⟨rfl, fun w u h => h⟩ (fun v ρ w hx hd S => op_move (p := Is (.int .i64 ((amountF x (tfOf (t.cls.drop k)).cls 0).2.1))) (.inl rfl) (S.out rfl ((Is.st _) _ _ _ hx g14))) ?_
    refine ObL.cons ⟨rfl, fun w u h => h⟩ (fun v ρ w hx hd S => (op_eql rfl (S.dep 22 rfl (hd 22 rfl)) (S.c _)).mono fun u w1 hu => ⟨hu.1, hu.2.trans (congrArg Value.bool (by rw [hD]; simp))⟩) ?_
    refine ObL.cons trivial (fun v ρ w hx hd S => op_pick (p := Is (.bool true)) true rfl (S.dep 21 rfl (hd 21 rfl)) (S.dep 23 rfl (hd 23 rfl))) ?_
    refine ObL.cons trivial (fun v ρ w hx hd S => op_move (p := Is (.bool true)) (.inl rfl) (S.dep 24 rfl (hd 24 rfl))) ?_
    refine ObL.cons ⟨rfl, fun w u h => h⟩ (fun v ρ w hx hd S => op_move (p := Is (.int .i64 ((amountF x (tfOf (t.cls.take (k + 1))).cls 0).2.2))) (.inl rfl) (S.out rfl ((Is.st _) _ _ _ hx g18))) ?_
    refine ObL.cons ⟨rfl, fun w u h => h⟩ (fun v ρ w hx hd S => (op_eql rfl (S.dep 26 rfl (hd 26 rfl)) (S.c _)).mono fun u w1 hu => ⟨hu.1, hu.2.trans (congrArg Value.bool (by rw [hT]; simp))⟩) ?_
    refine ObL.cons trivial (fun v ρ w hx hd S => op_pick (p := Is (.bool true)) true rfl (S.dep 25 rfl (hd 25 rfl)) (S.dep 27 rfl (hd 27 rfl))) ?_
    refine ObL.cons trivial (fun v ρ w hx hd S => op_move (p := Is (.bool true)) (.inl rfl) (S.dep 28 rfl (hd 28 rfl))) ?_
    refine ObL.cons ⟨rfl, fun w u h => h⟩ (fun v ρ w hx hd S => op_move (p := Is (.int .i64 ((amountF x (tfOf (t.cls.take (k + 1))).cls 0).1))) (.inl rfl) (S.out rfl ((Is.st _) _ _ _ hx g16))) ?_
    refine ObL.cons ⟨rfl, fun w u h => h⟩ (fun v ρ w hx hd S => op_move (p := Is (.int .i64 ((amountF x t.cls 0).1))) (.inl rfl) (S.out rfl ((Is.st _) _ _ _ hx g5))) ?_
    refine ObL.cons ⟨rfl, fun w u h => h⟩ (fun v ρ w hx hd S => (op_eql rfl (S.dep 30 rfl (hd 30 rfl)) (S.dep 31 rfl (hd 31 rfl))).mono fun u w1 hu => ⟨hu.1, hu.2.trans (congrArg Value.bool (by rw [hT, hA]; simp))⟩) ?_
    refine ObL.cons trivial (fun v ρ w hx hd S => op_pick (p := Is (.bool true)) true rfl (S.dep 29 rfl (hd 29 rfl)) (S.dep 32 rfl (hd 32 rfl))) ?_
    refine ObL.cons trivial (fun v ρ w hx hd S => op_move (p := Is (.bool true)) (.inl rfl) (S.dep 33 rfl (hd 33 rfl))) ?_
    refine ObL.cons ⟨rfl, fun w u h => h⟩ (fun v ρ w hx hd S => op_move (p := Is (.int .i64 ((amountF x (tfOf (t.cls.take (k + 1))).cls 0).2.1))) (.inl rfl) (S.out rfl ((Is.st _) _ _ _ hx g17))) ?_
    refine ObL.cons ⟨rfl, fun w u h => h⟩ (fun v ρ w hx hd S => op_move (p := Is (.int .i64 (((k : Nat) : Int)))) (.inl rfl) (S.out rfl ((Is.st _) _ _ _ hx g8))) ?_
    refine ObL.cons ⟨rfl, fun w u h => h⟩ (fun v ρ w hx hd S => (op_eql rfl (S.dep 35 rfl (hd 35 rfl)) (S.dep 36 rfl (hd 36 rfl))).mono fun u w1 hu => ⟨hu.1, hu.2.trans (congrArg Value.bool (by rw [hT]; simp))⟩) ?_
    refine ObL.cons trivial (fun v ρ w hx hd S => op_pick (p := Is (.bool true)) true rfl (S.dep 34 rfl (hd 34 rfl)) (S.dep 37 rfl (hd 37 rfl))) ?_
    refine ObL.cons trivial (fun v ρ w hx hd S => op_move (p := Is (.bool true)) (.inr rfl) (S.dep 38 rfl (hd 38 rfl))) ?_
    exact ObL.nil
  · intro v a1 w hx hPP S hs hdf
    refine wpList_nil ?_
    exact hQ a1 w hx S.o hs hdf (S.dep 39 rfl (hPP 39 (by decide)))

def lf7bD : List (Option Tmp) := [some 31, some 32, some 33, some 34, some 35]
def lf7bP (x : Ev) (t : Tf) (k : Nat) : List (World → Value → Prop) := [(Is (.int .i64 (((k : Nat) : Int)))), (CellP (SlP 9 ClIn t.cls)), (SlP 9 ClIn t.cls), (Is (.int .i64 (((t.cls.length : Nat) : Int)))), (Is (.bool false))]
set_option maxHeartbeats 2000000 in
set_option maxRecDepth 100000 in
theorem lf7b (x : Ev) (hok : x.ok) (t : Tf) (k : Nat) (hkl : ¬ k < t.cls.length) (Q : Exit → Act → World → Prop) (a0 : Act) (W : World) (hsz : a0.tmps.size = 159) (g2 : (VarP 3 (TfP t)) W (a0.eval (.tmp 2))) (g8 : (Is (.int .i64 (((k : Nat) : Int)))) W (a0.eval (.tmp 8)))
    (hQ : ∀ a1 W1, Ext W W1 → (∀ t, lf7bD.contains (some t) = false → a1.eval (.tmp t) = a0.eval (.tmp t)) → a1.tmps.size = 159 → a1.defers = a0.defers → (Is (.bool false)) W1 (a1.eval (.tmp 35)) → Q .normal a1 W1) : lfC7.wp Try.prog Q a0 W := by
  conv => arg 2; whnf
  refine wp_region_sq 5 lf7bD (lf7bP x t k) 159 (by kernel_rfl) hsz ?_ ?_ ?_
  · exact AllSt.cons (Is.st _) (AllSt.cons (CellP.st (SlP.st ClIn.st)) (AllSt.cons (SlP.st ClIn.st) (AllSt.cons (Is.st _) (AllSt.cons (Is.st _) (AllSt.nil)))))
  · simp only [List.take_succ_cons, List.take_zero]
    refine ObL.cons trivial (fun v ρ w hx hd S => op_move (p := Is (.int .i64 (((k : Nat) : Int)))) (.inl rfl) (S.out rfl ((Is.st _) _ _ _ hx g8))) ?_
    refine ObL.cons trivial (fun v ρ w hx hd S => op_tfCls rfl (VarP.loc (S.out rfl ((VarP.st TfP.st) _ _ _ hx g2)))) ?_
    refine ObL.cons trivial (fun v ρ w hx hd S => op_loadCls rfl (S.dep 1 rfl (hd 1 rfl))) ?_
    refine ObL.cons trivial (fun v ρ w hx hd S => op_lenCls rfl (show (SlP 9 ClIn t.cls) w (ρ (.tmp 33)) from (S.dep 2 rfl (hd 2 rfl)))) ?_
    refine ObL.cons trivial (fun v ρ w hx hd S => (op_lss rfl (S.dep 0 rfl (hd 0 rfl)) (S.dep 3 rfl (hd 3 rfl))).mono fun u w1 hu => ⟨hu.1, hu.2.trans (congrArg Value.bool (decide_eq_false (by omega)))⟩) ?_
    exact ObL.nil
  · intro v a1 w hx hPP S hs hdf
    refine wpList_nil ?_
    exact hQ a1 w hx S.o hs hdf (S.dep 4 rfl (hPP 4 (by decide)))

noncomputable def lfC19 : Code := ((Try.f8.body.bind (regionOf 19)).getD .skip)
def lf19D : List (Option Tmp) := [some 149, some 150, some 151, some 152, some 153, some 154, some 155, some 156, some 157, some 158, some 4]
def lf19P (x : Ev) (t : Tf)  : List (World → Value → Prop) := [(Is (.int .i64 ((amountF x t.cls 0).2.2))), (Is (.bool true)), (Is (.bool true)), (Is (.int .i64 ((amountF x t.cls 0).1))), (Is (.bool true)), (Is (.bool true)), (Is (.bool true)), (Is (.int .i64 ((amountF x t.cls 0).2.1))), (Is (.bool true)), (Is (.bool true)), (Is (.bool true))]
set_option maxHeartbeats 2000000 in
set_option maxRecDepth 100000 in
theorem lf19 (x : Ev) (hok : x.ok) (t : Tf)  (hA : amountF x t.cls 0 = (0, 0, 180)) (Q : Exit → Act → World → Prop) (a0 : Act) (W : World) (hsz : a0.tmps.size = 159) (g5 : (Is (.int .i64 ((amountF x t.cls 0).1))) W (a0.eval (.tmp 5))) (g6 : (Is (.int .i64 ((amountF x t.cls 0).2.1))) W (a0.eval (.tmp 6))) (g7 : (Is (.int .i64 ((amountF x t.cls 0).2.2))) W (a0.eval (.tmp 7)))
    (hQ : ∀ a1 W1, Ext W W1 → (∀ t, lf19D.contains (some t) = false → a1.eval (.tmp t) = a0.eval (.tmp t)) → a1.tmps.size = 159 → a1.defers = a0.defers → (Is (.bool true)) W1 (a1.eval (.tmp 4)) → Q .normal a1 W1) : lfC19.wp Try.prog Q a0 W := by
  conv => arg 2; whnf
  refine wp_region_sq 11 lf19D (lf19P x t ) 159 (by kernel_rfl) hsz ?_ ?_ ?_
  · exact AllSt.cons (Is.st _) (AllSt.cons (Is.st _) (AllSt.cons (Is.st _) (AllSt.cons (Is.st _) (AllSt.cons (Is.st _) (AllSt.cons (Is.st _) (AllSt.cons (Is.st _) (AllSt.cons (Is.st _) (AllSt.cons (Is.st _) (AllSt.cons (Is.st _) (AllSt.cons (Is.st _) (AllSt.nil)))))))))))
  · simp only [List.take_succ_cons, List.take_zero]
    refine ObL.cons trivial (fun v ρ w hx hd S => op_move (p := Is (.int .i64 ((amountF x t.cls 0).2.2))) (.inl rfl) (S.out rfl ((Is.st _) _ _ _ hx g7))) ?_
    refine ObL.cons trivial (fun v ρ w hx hd S => (op_eql rfl (S.dep 0 rfl (hd 0 rfl)) (S.c _)).mono fun u w1 hu => ⟨hu.1, hu.2.trans (congrArg Value.bool (by rw [hA]; simp))⟩) ?_
    refine ObL.cons trivial (fun v ρ w hx hd S => op_move (p := Is (.bool true)) (.inl rfl) (S.dep 1 rfl (hd 1 rfl))) ?_
    refine ObL.cons ⟨rfl, fun w u h => h⟩ (fun v ρ w hx hd S => op_move (p := Is (.int .i64 ((amountF x t.cls 0).1))) (.inl rfl) (S.out rfl ((Is.st _) _ _ _ hx g5))) ?_
    refine ObL.cons ⟨rfl, fun w u h => h⟩ (fun v ρ w hx hd S => (op_eql rfl (S.dep 3 rfl (hd 3 rfl)) (S.c _)).mono fun u w1 hu => ⟨hu.1, hu.2.trans (congrArg Value.bool (by rw [hA]; simp))⟩) ?_
    refine ObL.cons trivial (fun v ρ w hx hd S => op_pick (p := Is (.bool true)) true rfl (S.dep 2 rfl (hd 2 rfl)) (S.dep 4 rfl (hd 4 rfl))) ?_
    refine ObL.cons trivial (fun v ρ w hx hd S => op_move (p := Is (.bool true)) (.inl rfl) (S.dep 5 rfl (hd 5 rfl))) ?_
    refine ObL.cons ⟨rfl, fun w u h => h⟩ (fun v ρ w hx hd S => op_move (p := Is (.int .i64 ((amountF x t.cls 0).2.1))) (.inl rfl) (S.out rfl ((Is.st _) _ _ _ hx g6))) ?_
    refine ObL.cons ⟨rfl, fun w u h => h⟩ (fun v ρ w hx hd S => (op_eql rfl (S.dep 7 rfl (hd 7 rfl)) (S.c _)).mono fun u w1 hu => ⟨hu.1, hu.2.trans (congrArg Value.bool (by rw [hA]; simp))⟩) ?_
    refine ObL.cons trivial (fun v ρ w hx hd S => op_pick (p := Is (.bool true)) true rfl (S.dep 6 rfl (hd 6 rfl)) (S.dep 8 rfl (hd 8 rfl))) ?_
    refine ObL.cons trivial (fun v ρ w hx hd S => op_move (p := Is (.bool true)) (.inr rfl) (S.dep 9 rfl (hd 9 rfl))) ?_
    exact ObL.nil
  · intro v a1 w hx hPP S hs hdf
    refine wpList_nil ?_
    exact hQ a1 w hx S.o hs hdf (S.dep 10 rfl (hPP 10 (by decide)))
set_option maxRecDepth 100000 in
set_option maxHeartbeats 2000000 in
theorem tevalFirst_any (x : Ev) (hok : x.ok) (cs : List Value) (t : Tf) (w : World) (ht : TfIn w cs t) : Calls Try.prog 8 #[.agg cs.toArray, .agg x.cells.toArray] w fun en w1 => en = .returned (.bool true) ∧ Ext w w1 := by
  go_enter Try.func8, Try.ntmps8
  have hW : Ext w w := .refl _
  have hs0 : True := trivial
  have hd0 : ([] : List Deferred) = [] := rfl
  have g0 : (TfP t) w (.agg cs.toArray) := ⟨cs, rfl, ht⟩
  have g1 : (Is (.agg x.cells.toArray)) w (.agg x.cells.toArray) := rfl
  refine wp_seq (lf0 x hok t   _ _ _ rfl g0 g1 fun a1 W1 hx1 ho1 hs1 hd1 g2 g3 => ?_)
  refine then_normal ?_
  replace hW : Ext w W1 := hW.trans hx1
  replace hd1 : a1.defers = [] := hd1.trans hd0
  clear hx1 ho1
  refine wp_seq ?_
  refine wp_seq (lf1 x hok t   _ _ _ hs1  fun a2 W2 hx2 ho2 hs2 hd2 g20 => ?_)
  refine then_normal ?_
  replace g2 : (VarP 3 (TfP t)) W2 (a2.eval (.tmp 2)) := by rw [ho2 2 rfl]; exact (VarP.st TfP.st) _ _ _ hx2 g2
  replace g3 : (VarP 17 (Is (.agg x.cells.toArray))) W2 (a2.eval (.tmp 3)) := by rw [ho2 3 rfl]; exact (VarP.st (Is.st _)) _ _ _ hx2 g3
  replace hW : Ext w W2 := hW.trans hx2
  replace hd2 : a2.defers = [] := hd2.trans hd1
  clear hx2 ho2
  refine cond_f g20 ?_
  refine wp_skip ?_
  refine then_normal ?_
  refine wp_seq ?_
  by_cases hfew : fewTF t = false
  · skip
    refine wp_seq (lf3a x hok t  hfew _ _ _ hs2 g2 fun a3 W3 hx3 ho3 hs3 hd3 g23 => ?_)
    refine then_normal ?_
    replace g2 : (VarP 3 (TfP t)) W3 (a3.eval (.tmp 2)) := by rw [ho3 2 rfl]; exact (VarP.st TfP.st) _ _ _ hx3 g2
    replace g3 : (VarP 17 (Is (.agg x.cells.toArray))) W3 (a3.eval (.tmp 3)) := by rw [ho3 3 rfl]; exact (VarP.st (Is.st _)) _ _ _ hx3 g3
    replace g20 : (Is (.bool false)) W3 (a3.eval (.tmp 20)) := by rw [ho3 20 rfl]; exact (Is.st _) _ _ _ hx3 g20
    replace hW : Ext w W3 := hW.trans hx3
    replace hd3 : a3.defers = [] := hd3.trans hd2
    clear hx3 ho3
    refine cond_t g23 ?_
    refine wp_seq (lf4 x hok t   _ _ _ hs3  fun a4 W4 hx4 ho4 hs4 hd4 g4 => ?_)
    refine then_normal ?_
    replace g2 : (VarP 3 (TfP t)) W4 (a4.eval (.tmp 2)) := by rw [ho4 2 rfl]; exact (VarP.st TfP.st) _ _ _ hx4 g2
    replace g3 : (VarP 17 (Is (.agg x.cells.toArray))) W4 (a4.eval (.tmp 3)) := by rw [ho4 3 rfl]; exact (VarP.st (Is.st _)) _ _ _ hx4 g3
    replace g20 : (Is (.bool false)) W4 (a4.eval (.tmp 20)) := by rw [ho4 20 rfl]; exact (Is.st _) _ _ _ hx4 g20
    replace g23 : (Is (.bool true)) W4 (a4.eval (.tmp 23)) := by rw [ho4 23 rfl]; exact (Is.st _) _ _ _ hx4 g23
    replace hW : Ext w W4 := hW.trans hx4
    replace hd4 : a4.defers = [] := hd4.trans hd3
    clear hx4 ho4
    refine wp_ret ?_
    show bodyPost Try.prog Try.f8 (fun en w1 => en = .returned (.bool true) ∧ Ext w w1) .ret _ _
    exact ret_is Try.results8 hd4 g4 ⟨rfl, hW⟩
  rw [Bool.not_eq_false] at hfew
  refine wp_seq (lf3b x hok t  hfew _ _ _ hs2 g2 fun a5 W5 hx5 ho5 hs5 hd5 g23 => ?_)
  refine then_normal ?_
  replace g2 : (VarP 3 (TfP t)) W5 (a5.eval (.tmp 2)) := by rw [ho5 2 rfl]; exact (VarP.st TfP.st) _ _ _ hx5 g2
  replace g3 : (VarP 17 (Is (.agg x.cells.toArray))) W5 (a5.eval (.tmp 3)) := by rw [ho5 3 rfl]; exact (VarP.st (Is.st _)) _ _ _ hx5 g3
  replace hW : Ext w W5 := hW.trans hx5
  replace hd5 : a5.defers = [] := hd5.trans hd2
  clear hx5 ho5
  refine cond_f g23 ?_
  refine wp_skip ?_
  refine then_normal ?_
  have h70 : t.cls.length ≤ 70 := by unfold fewTF at hfew; simp at hfew; exact hfew.1
  refine wp_seq (lf5 x hok t   _ _ _ hs5 g2 g3 fun a6 W6 hx6 ho6 hs6 hd6 g5 g6 g7 => ?_)
  refine then_normal ?_
  replace g2 : (VarP 3 (TfP t)) W6 (a6.eval (.tmp 2)) := by rw [ho6 2 rfl]; exact (VarP.st TfP.st) _ _ _ hx6 g2
  replace g3 : (VarP 17 (Is (.agg x.cells.toArray))) W6 (a6.eval (.tmp 3)) := by rw [ho6 3 rfl]; exact (VarP.st (Is.st _)) _ _ _ hx6 g3
  replace hW : Ext w W6 := hW.trans hx6
  replace hd6 : a6.defers = [] := hd6.trans hd5
  clear hx6 ho6
  refine wp_seq ?_
  refine wp_seq (lf6 x hok t   _ _ _ hs6  fun a7 W7 hx7 ho7 hs7 hd7 g8 => ?_)
  refine then_normal ?_
  replace g2 : (VarP 3 (TfP t)) W7 (a7.eval (.tmp 2)) := by rw [ho7 2 rfl]; exact (VarP.st TfP.st) _ _ _ hx7 g2
  replace g3 : (VarP 17 (Is (.agg x.cells.toArray))) W7 (a7.eval (.tmp 3)) := by rw [ho7 3 rfl]; exact (VarP.st (Is.st _)) _ _ _ hx7 g3
  replace g5 : (Is (.int .i64 ((amountF x t.cls 0).1))) W7 (a7.eval (.tmp 5)) := by rw [ho7 5 rfl]; exact (Is.st _) _ _ _ hx7 g5
  replace g6 : (Is (.int .i64 ((amountF x t.cls 0).2.1))) W7 (a7.eval (.tmp 6)) := by rw [ho7 6 rfl]; exact (Is.st _) _ _ _ hx7 g6
  replace g7 : (Is (.int .i64 ((amountF x t.cls 0).2.2))) W7 (a7.eval (.tmp 7)) := by rw [ho7 7 rfl]; exact (Is.st _) _ _ _ hx7 g7
  replace hW : Ext w W7 := hW.trans hx7
  replace hd7 : a7.defers = [] := hd7.trans hd6
  clear hx7 ho7
  refine wp_block ?_
  refine wp_loop (fun a w1 => ∃ k : Nat, k ≤ t.cls.length ∧ (∀ l, amountF x (t.cls.take k ++ l) 0 = amountF x l k) ∧ Ext w w1 ∧ a.tmps.size = 159 ∧ a.defers = [] ∧ (VarP 3 (TfP t)) w1 (a.eval (.tmp 2)) ∧ (VarP 17 (Is (.agg x.cells.toArray))) w1 (a.eval (.tmp 3)) ∧ (Is (.int .i64 ((amountF x t.cls 0).1))) w1 (a.eval (.tmp 5)) ∧ (Is (.int .i64 ((amountF x t.cls 0).2.1))) w1 (a.eval (.tmp 6)) ∧ (Is (.int .i64 ((amountF x t.cls 0).2.2))) w1 (a.eval (.tmp 7)) ∧ Is (.int .i64 ((k : Nat) : Int)) w1 (a.eval (.tmp 8))) (fun a _ => t.cls.length - (intOf (a.eval (.tmp 8))).toNat) ⟨0, Nat.zero_le _, fun _ => rfl, hW, hs7, hd7, g2, g3, g5, g6, g7, g8⟩ ?_
  clear hW g2 g3 g5 g6 g7 g8
  rintro aL wL ⟨k, hk, hpre, hW, hsL, hdL, g2, g3, g5, g6, g7, g8⟩
  have hmu : (t.cls.length - (intOf (aL.eval (.tmp 8))).toNat) = t.cls.length - k := by rw [show aL.eval (.tmp 8) = _ from g8]; simp [intOf]
  rw [hmu]
  refine wp_seq ?_
  by_cases hkl : k < t.cls.length
  · have hi : t.cls[k]? = some t.cls[k] := List.getElem?_eq_getElem hkl
    generalize t.cls[k] = c at hi
    have hdrop : t.cls.drop k = c :: t.cls.drop (k + 1) := by rw [List.drop_eq_getElem_cons hkl]; congr 1; rw [List.getElem?_eq_getElem hkl] at hi; exact Option.some.inj hi
    have htake : t.cls.take (k + 1) = t.cls.take k ++ [c] := by rw [List.take_add_one, hi]; rfl
    have hall : amountF x t.cls 0 = amountF x (c :: t.cls.drop (k + 1)) k := by rw [← hpre, ← hdrop, List.take_append_drop]
    refine wp_seq (lf7a x hok t k hkl _ _ _ hsL g2 g8 fun a8 W8 hx8 ho8 hs8 hd8 g35 => ?_)
    refine then_normal ?_
    replace g2 : (VarP 3 (TfP t)) W8 (a8.eval (.tmp 2)) := by rw [ho8 2 rfl]; exact (VarP.st TfP.st) _ _ _ hx8 g2
    replace g3 : (VarP 17 (Is (.agg x.cells.toArray))) W8 (a8.eval (.tmp 3)) := by rw [ho8 3 rfl]; exact (VarP.st (Is.st _)) _ _ _ hx8 g3
    replace g5 : (Is (.int .i64 ((amountF x t.cls 0).1))) W8 (a8.eval (.tmp 5)) := by rw [ho8 5 rfl]; exact (Is.st _) _ _ _ hx8 g5
    replace g6 : (Is (.int .i64 ((amountF x t.cls 0).2.1))) W8 (a8.eval (.tmp 6)) := by rw [ho8 6 rfl]; exact (Is.st _) _ _ _ hx8 g6
    replace g7 : (Is (.int .i64 ((amountF x t.cls 0).2.2))) W8 (a8.eval (.tmp 7)) := by rw [ho8 7 rfl]; exact (Is.st _) _ _ _ hx8 g7
    replace g8 : (Is (.int .i64 (((k : Nat) : Int)))) W8 (a8.eval (.tmp 8)) := by rw [ho8 8 rfl]; exact (Is.st _) _ _ _ hx8 g8
    replace hW : Ext w W8 := hW.trans hx8
    replace hd8 : a8.defers = [] := hd8.trans hdL
    clear hx8 ho8
    refine cond_t g35 ?_
    refine wp_skip ?_
    refine then_normal ?_
    refine wp_seq ?_
    refine wp_block ?_
    refine wp_seq (lf9 x hok t k c hi _ _ _ hs8 g2 g3 g8 fun a9 W9 hx9 ho9 hs9 hd9 g9 g10 => ?_)
    refine then_normal ?_
    replace g2 : (VarP 3 (TfP t)) W9 (a9.eval (.tmp 2)) := by rw [ho9 2 rfl]; exact (VarP.st TfP.st) _ _ _ hx9 g2
    replace g3 : (VarP 17 (Is (.agg x.cells.toArray))) W9 (a9.eval (.tmp 3)) := by rw [ho9 3 rfl]; exact (VarP.st (Is.st _)) _ _ _ hx9 g3
    replace g5 : (Is (.int .i64 ((amountF x t.cls 0).1))) W9 (a9.eval (.tmp 5)) := by rw [ho9 5 rfl]; exact (Is.st _) _ _ _ hx9 g5
    replace g6 : (Is (.int .i64 ((amountF x t.cls 0).2.1))) W9 (a9.eval (.tmp 6)) := by rw [ho9 6 rfl]; exact (Is.st _) _ _ _ hx9 g6
    replace g7 : (Is (.int .i64 ((amountF x t.cls 0).2.2))) W9 (a9.eval (.tmp 7)) := by rw [ho9 7 rfl]; exact (Is.st _) _ _ _ hx9 g7
    replace g8 : (Is (.int .i64 (((k : Nat) : Int)))) W9 (a9.eval (.tmp 8)) := by rw [ho9 8 rfl]; exact (Is.st _) _ _ _ hx9 g8
    replace hW : Ext w W9 := hW.trans hx9
    replace hd9 : a9.defers = [] := hd9.trans hd8
    clear hx9 ho9
    refine wp_seq ?_
    by_cases he : (holdsF x c.tests).2 = 0
    case neg =>
      have hA : amountF x t.cls 0 = (0, 0, (holdsF x c.tests).2) := by rw [hall]; exact amount_err he
      refine wp_seq (lf10a x hok t k c he _ _ _ hs9 g10 fun a10 W10 hx10 ho10 hs10 hd10 g49 => ?_)
      refine then_normal ?_
      replace g2 : (VarP 3 (TfP t)) W10 (a10.eval (.tmp 2)) := by rw [ho10 2 rfl]; exact (VarP.st TfP.st) _ _ _ hx10 g2
      replace g3 : (VarP 17 (Is (.agg x.cells.toArray))) W10 (a10.eval (.tmp 3)) := by rw [ho10 3 rfl]; exact (VarP.st (Is.st _)) _ _ _ hx10 g3
      replace g5 : (Is (.int .i64 ((amountF x t.cls 0).1))) W10 (a10.eval (.tmp 5)) := by rw [ho10 5 rfl]; exact (Is.st _) _ _ _ hx10 g5
      replace g6 : (Is (.int .i64 ((amountF x t.cls 0).2.1))) W10 (a10.eval (.tmp 6)) := by rw [ho10 6 rfl]; exact (Is.st _) _ _ _ hx10 g6
      replace g7 : (Is (.int .i64 ((amountF x t.cls 0).2.2))) W10 (a10.eval (.tmp 7)) := by rw [ho10 7 rfl]; exact (Is.st _) _ _ _ hx10 g7
      replace g8 : (Is (.int .i64 (((k : Nat) : Int)))) W10 (a10.eval (.tmp 8)) := by rw [ho10 8 rfl]; exact (Is.st _) _ _ _ hx10 g8
      replace g9 : (Is (.bool ((holdsF x c.tests).1))) W10 (a10.eval (.tmp 9)) := by rw [ho10 9 rfl]; exact (Is.st _) _ _ _ hx10 g9
      replace g10 : (Is (.int .i64 ((holdsF x c.tests).2))) W10 (a10.eval (.tmp 10)) := by rw [ho10 10 rfl]; exact (Is.st _) _ _ _ hx10 g10
      replace hW : Ext w W10 := hW.trans hx10
      replace hd10 : a10.defers = [] := hd10.trans hd9
      clear hx10 ho10
      refine cond_t g49 ?_
      refine wp_seq (lf11 x hok t k c hA _ _ _ hs10 g5 g6 g7 g10 fun a11 W11 hx11 ho11 hs11 hd11 g4 => ?_)
      refine then_normal ?_
      replace g2 : (VarP 3 (TfP t)) W11 (a11.eval (.tmp 2)) := by rw [ho11 2 rfl]; exact (VarP.st TfP.st) _ _ _ hx11 g2
      replace g3 : (VarP 17 (Is (.agg x.cells.toArray))) W11 (a11.eval (.tmp 3)) := by rw [ho11 3 rfl]; exact (VarP.st (Is.st _)) _ _ _ hx11 g3
      replace g5 : (Is (.int .i64 ((amountF x t.cls 0).1))) W11 (a11.eval (.tmp 5)) := by rw [ho11 5 rfl]; exact (Is.st _) _ _ _ hx11 g5
      replace g6 : (Is (.int .i64 ((amountF x t.cls 0).2.1))) W11 (a11.eval (.tmp 6)) := by rw [ho11 6 rfl]; exact (Is.st _) _ _ _ hx11 g6
      replace g7 : (Is (.int .i64 ((amountF x t.cls 0).2.2))) W11 (a11.eval (.tmp 7)) := by rw [ho11 7 rfl]; exact (Is.st _) _ _ _ hx11 g7
      replace g8 : (Is (.int .i64 (((k : Nat) : Int)))) W11 (a11.eval (.tmp 8)) := by rw [ho11 8 rfl]; exact (Is.st _) _ _ _ hx11 g8
      replace g9 : (Is (.bool ((holdsF x c.tests).1))) W11 (a11.eval (.tmp 9)) := by rw [ho11 9 rfl]; exact (Is.st _) _ _ _ hx11 g9
      replace g10 : (Is (.int .i64 ((holdsF x c.tests).2))) W11 (a11.eval (.tmp 10)) := by rw [ho11 10 rfl]; exact (Is.st _) _ _ _ hx11 g10
      replace g49 : (Is (.bool true)) W11 (a11.eval (.tmp 49)) := by rw [ho11 49 rfl]; exact (Is.st _) _ _ _ hx11 g49
      replace hW : Ext w W11 := hW.trans hx11
      replace hd11 : a11.defers = [] := hd11.trans hd10
      clear hx11 ho11
      refine wp_ret ?_
      show bodyPost Try.prog Try.f8 (fun en w1 => en = .returned (.bool true) ∧ Ext w w1) .ret _ _
      exact ret_is Try.results8 hd11 g4 ⟨rfl, hW⟩
    refine wp_seq (lf10b x hok t k c he _ _ _ hs9 g10 fun a12 W12 hx12 ho12 hs12 hd12 g49 => ?_)
    refine then_normal ?_
    replace g2 : (VarP 3 (TfP t)) W12 (a12.eval (.tmp 2)) := by rw [ho12 2 rfl]; exact (VarP.st TfP.st) _ _ _ hx12 g2
    replace g3 : (VarP 17 (Is (.agg x.cells.toArray))) W12 (a12.eval (.tmp 3)) := by rw [ho12 3 rfl]; exact (VarP.st (Is.st _)) _ _ _ hx12 g3
    replace g5 : (Is (.int .i64 ((amountF x t.cls 0).1))) W12 (a12.eval (.tmp 5)) := by rw [ho12 5 rfl]; exact (Is.st _) _ _ _ hx12 g5
    replace g6 : (Is (.int .i64 ((amountF x t.cls 0).2.1))) W12 (a12.eval (.tmp 6)) := by rw [ho12 6 rfl]; exact (Is.st _) _ _ _ hx12 g6
    replace g7 : (Is (.int .i64 ((amountF x t.cls 0).2.2))) W12 (a12.eval (.tmp 7)) := by rw [ho12 7 rfl]; exact (Is.st _) _ _ _ hx12 g7
    replace g8 : (Is (.int .i64 (((k : Nat) : Int)))) W12 (a12.eval (.tmp 8)) := by rw [ho12 8 rfl]; exact (Is.st _) _ _ _ hx12 g8
    replace g9 : (Is (.bool ((holdsF x c.tests).1))) W12 (a12.eval (.tmp 9)) := by rw [ho12 9 rfl]; exact (Is.st _) _ _ _ hx12 g9
    replace g10 : (Is (.int .i64 ((holdsF x c.tests).2))) W12 (a12.eval (.tmp 10)) := by rw [ho12 10 rfl]; exact (Is.st _) _ _ _ hx12 g10
    replace hW : Ext w W12 := hW.trans hx12
    replace hd12 : a12.defers = [] := hd12.trans hd9
    clear hx12 ho12
    refine cond_f g49 ?_
    refine wp_skip ?_
    refine then_normal ?_
    refine wp_seq ?_
    by_cases hb : (holdsF x c.tests).1 = false
    case pos =>
      refine wp_seq (lf12a x hok t k c hb _ _ _ hs12 g9 fun a13 W13 hx13 ho13 hs13 hd13 g62 => ?_)
      refine then_normal ?_
      replace g2 : (VarP 3 (TfP t)) W13 (a13.eval (.tmp 2)) := by rw [ho13 2 rfl]; exact (VarP.st TfP.st) _ _ _ hx13 g2
      replace g3 : (VarP 17 (Is (.agg x.cells.toArray))) W13 (a13.eval (.tmp 3)) := by rw [ho13 3 rfl]; exact (VarP.st (Is.st _)) _ _ _ hx13 g3
      replace g5 : (Is (.int .i64 ((amountF x t.cls 0).1))) W13 (a13.eval (.tmp 5)) := by rw [ho13 5 rfl]; exact (Is.st _) _ _ _ hx13 g5
      replace g6 : (Is (.int .i64 ((amountF x t.cls 0).2.1))) W13 (a13.eval (.tmp 6)) := by rw [ho13 6 rfl]; exact (Is.st _) _ _ _ hx13 g6
      replace g7 : (Is (.int .i64 ((amountF x t.cls 0).2.2))) W13 (a13.eval (.tmp 7)) := by rw [ho13 7 rfl]; exact (Is.st _) _ _ _ hx13 g7
      replace g8 : (Is (.int .i64 (((k : Nat) : Int)))) W13 (a13.eval (.tmp 8)) := by rw [ho13 8 rfl]; exact (Is.st _) _ _ _ hx13 g8
      replace hW : Ext w W13 := hW.trans hx13
      replace hd13 : a13.defers = [] := hd13.trans hd12
      clear hx13 ho13
      refine cond_t g62 ?_
      refine wp_exit ?_
      refine then_exit (exit_block (then_normal ?_))
      refine (lf8 x hok t k hkl h70 _ _ _ hs13 g8 fun a14 W14 hx14 ho14 hs14 hd14 g8 => ?_)
      replace g2 : (VarP 3 (TfP t)) W14 (a14.eval (.tmp 2)) := by rw [ho14 2 rfl]; exact (VarP.st TfP.st) _ _ _ hx14 g2
      replace g3 : (VarP 17 (Is (.agg x.cells.toArray))) W14 (a14.eval (.tmp 3)) := by rw [ho14 3 rfl]; exact (VarP.st (Is.st _)) _ _ _ hx14 g3
      replace g5 : (Is (.int .i64 ((amountF x t.cls 0).1))) W14 (a14.eval (.tmp 5)) := by rw [ho14 5 rfl]; exact (Is.st _) _ _ _ hx14 g5
      replace g6 : (Is (.int .i64 ((amountF x t.cls 0).2.1))) W14 (a14.eval (.tmp 6)) := by rw [ho14 6 rfl]; exact (Is.st _) _ _ _ hx14 g6
      replace g7 : (Is (.int .i64 ((amountF x t.cls 0).2.2))) W14 (a14.eval (.tmp 7)) := by rw [ho14 7 rfl]; exact (Is.st _) _ _ _ hx14 g7
      replace hW : Ext w W14 := hW.trans hx14
      replace hd14 : a14.defers = [] := hd14.trans hd13
      clear hx14 ho14
      refine then_normal ⟨⟨k + 1, hkl, fun l => by rw [htake, List.append_assoc, hpre]; exact amount_no he hb, hW, hs14, hd14, g2, g3, g5, g6, g7, g8⟩, ?_⟩
      rw [show a14.eval (.tmp 8) = _ from g8]; simp [intOf]; omega
    rw [Bool.not_eq_false] at hb
    refine wp_seq (lf12b x hok t k c hb _ _ _ hs12 g9 fun a15 W15 hx15 ho15 hs15 hd15 g62 => ?_)
    refine then_normal ?_
    replace g2 : (VarP 3 (TfP t)) W15 (a15.eval (.tmp 2)) := by rw [ho15 2 rfl]; exact (VarP.st TfP.st) _ _ _ hx15 g2
    replace g3 : (VarP 17 (Is (.agg x.cells.toArray))) W15 (a15.eval (.tmp 3)) := by rw [ho15 3 rfl]; exact (VarP.st (Is.st _)) _ _ _ hx15 g3
    replace g5 : (Is (.int .i64 ((amountF x t.cls 0).1))) W15 (a15.eval (.tmp 5)) := by rw [ho15 5 rfl]; exact (Is.st _) _ _ _ hx15 g5
    replace g6 : (Is (.int .i64 ((amountF x t.cls 0).2.1))) W15 (a15.eval (.tmp 6)) := by rw [ho15 6 rfl]; exact (Is.st _) _ _ _ hx15 g6
    replace g7 : (Is (.int .i64 ((amountF x t.cls 0).2.2))) W15 (a15.eval (.tmp 7)) := by rw [ho15 7 rfl]; exact (Is.st _) _ _ _ hx15 g7
    replace g8 : (Is (.int .i64 (((k : Nat) : Int)))) W15 (a15.eval (.tmp 8)) := by rw [ho15 8 rfl]; exact (Is.st _) _ _ _ hx15 g8
    replace hW : Ext w W15 := hW.trans hx15
    replace hd15 : a15.defers = [] := hd15.trans hd12
    clear hx15 ho15
    refine cond_f g62 ?_
    refine wp_skip ?_
    refine then_normal ?_
    refine wp_seq (lf13 x hok t k c hi _ _ _ hs15 g2 g3 g8 fun a16 W16 hx16 ho16 hs16 hd16 g11 g12 => ?_)
    refine then_normal ?_
    replace g2 : (VarP 3 (TfP t)) W16 (a16.eval (.tmp 2)) := by rw [ho16 2 rfl]; exact (VarP.st TfP.st) _ _ _ hx16 g2
    replace g3 : (VarP 17 (Is (.agg x.cells.toArray))) W16 (a16.eval (.tmp 3)) := by rw [ho16 3 rfl]; exact (VarP.st (Is.st _)) _ _ _ hx16 g3
    replace g5 : (Is (.int .i64 ((amountF x t.cls 0).1))) W16 (a16.eval (.tmp 5)) := by rw [ho16 5 rfl]; exact (Is.st _) _ _ _ hx16 g5
    replace g6 : (Is (.int .i64 ((amountF x t.cls 0).2.1))) W16 (a16.eval (.tmp 6)) := by rw [ho16 6 rfl]; exact (Is.st _) _ _ _ hx16 g6
    replace g7 : (Is (.int .i64 ((amountF x t.cls 0).2.2))) W16 (a16.eval (.tmp 7)) := by rw [ho16 7 rfl]; exact (Is.st _) _ _ _ hx16 g7
    replace g8 : (Is (.int .i64 (((k : Nat) : Int)))) W16 (a16.eval (.tmp 8)) := by rw [ho16 8 rfl]; exact (Is.st _) _ _ _ hx16 g8
    replace hW : Ext w W16 := hW.trans hx16
    replace hd16 : a16.defers = [] := hd16.trans hd15
    clear hx16 ho16
    refine wp_seq ?_
    by_cases hv : (EvalF c.pay x).2 = 0
    case neg =>
      have hA : amountF x t.cls 0 = (0, 0, (EvalF c.pay x).2) := by rw [hall]; exact amount_bad he hb hv
      refine wp_seq (lf14a x hok t k c hv _ _ _ hs16 g12 fun a17 W17 hx17 ho17 hs17 hd17 g75 => ?_)
      refine then_normal ?_
      replace g2 : (VarP 3 (TfP t)) W17 (a17.eval (.tmp 2)) := by rw [ho17 2 rfl]; exact (VarP.st TfP.st) _ _ _ hx17 g2
      replace g3 : (VarP 17 (Is (.agg x.cells.toArray))) W17 (a17.eval (.tmp 3)) := by rw [ho17 3 rfl]; exact (VarP.st (Is.st _)) _ _ _ hx17 g3
      replace g5 : (Is (.int .i64 ((amountF x t.cls 0).1))) W17 (a17.eval (.tmp 5)) := by rw [ho17 5 rfl]; exact (Is.st _) _ _ _ hx17 g5
      replace g6 : (Is (.int .i64 ((amountF x t.cls 0).2.1))) W17 (a17.eval (.tmp 6)) := by rw [ho17 6 rfl]; exact (Is.st _) _ _ _ hx17 g6
      replace g7 : (Is (.int .i64 ((amountF x t.cls 0).2.2))) W17 (a17.eval (.tmp 7)) := by rw [ho17 7 rfl]; exact (Is.st _) _ _ _ hx17 g7
      replace g8 : (Is (.int .i64 (((k : Nat) : Int)))) W17 (a17.eval (.tmp 8)) := by rw [ho17 8 rfl]; exact (Is.st _) _ _ _ hx17 g8
      replace g11 : (Is (.int .i64 ((EvalF c.pay x).1))) W17 (a17.eval (.tmp 11)) := by rw [ho17 11 rfl]; exact (Is.st _) _ _ _ hx17 g11
      replace g12 : (Is (.int .i64 ((EvalF c.pay x).2))) W17 (a17.eval (.tmp 12)) := by rw [ho17 12 rfl]; exact (Is.st _) _ _ _ hx17 g12
      replace hW : Ext w W17 := hW.trans hx17
      replace hd17 : a17.defers = [] := hd17.trans hd16
      clear hx17 ho17
      refine cond_t g75 ?_
      refine wp_seq (lf15 x hok t k c hA _ _ _ hs17 g5 g6 g7 g12 fun a18 W18 hx18 ho18 hs18 hd18 g4 => ?_)
      refine then_normal ?_
      replace g2 : (VarP 3 (TfP t)) W18 (a18.eval (.tmp 2)) := by rw [ho18 2 rfl]; exact (VarP.st TfP.st) _ _ _ hx18 g2
      replace g3 : (VarP 17 (Is (.agg x.cells.toArray))) W18 (a18.eval (.tmp 3)) := by rw [ho18 3 rfl]; exact (VarP.st (Is.st _)) _ _ _ hx18 g3
      replace g5 : (Is (.int .i64 ((amountF x t.cls 0).1))) W18 (a18.eval (.tmp 5)) := by rw [ho18 5 rfl]; exact (Is.st _) _ _ _ hx18 g5
      replace g6 : (Is (.int .i64 ((amountF x t.cls 0).2.1))) W18 (a18.eval (.tmp 6)) := by rw [ho18 6 rfl]; exact (Is.st _) _ _ _ hx18 g6
      replace g7 : (Is (.int .i64 ((amountF x t.cls 0).2.2))) W18 (a18.eval (.tmp 7)) := by rw [ho18 7 rfl]; exact (Is.st _) _ _ _ hx18 g7
      replace g8 : (Is (.int .i64 (((k : Nat) : Int)))) W18 (a18.eval (.tmp 8)) := by rw [ho18 8 rfl]; exact (Is.st _) _ _ _ hx18 g8
      replace g11 : (Is (.int .i64 ((EvalF c.pay x).1))) W18 (a18.eval (.tmp 11)) := by rw [ho18 11 rfl]; exact (Is.st _) _ _ _ hx18 g11
      replace g12 : (Is (.int .i64 ((EvalF c.pay x).2))) W18 (a18.eval (.tmp 12)) := by rw [ho18 12 rfl]; exact (Is.st _) _ _ _ hx18 g12
      replace g75 : (Is (.bool true)) W18 (a18.eval (.tmp 75)) := by rw [ho18 75 rfl]; exact (Is.st _) _ _ _ hx18 g75
      replace hW : Ext w W18 := hW.trans hx18
      replace hd18 : a18.defers = [] := hd18.trans hd17
      clear hx18 ho18
      refine wp_ret ?_
      show bodyPost Try.prog Try.f8 (fun en w1 => en = .returned (.bool true) ∧ Ext w w1) .ret _ _
      exact ret_is Try.results8 hd18 g4 ⟨rfl, hW⟩
    refine wp_seq (lf14b x hok t k c hv _ _ _ hs16 g12 fun a19 W19 hx19 ho19 hs19 hd19 g75 => ?_)
    refine then_normal ?_
    replace g2 : (VarP 3 (TfP t)) W19 (a19.eval (.tmp 2)) := by rw [ho19 2 rfl]; exact (VarP.st TfP.st) _ _ _ hx19 g2
    replace g3 : (VarP 17 (Is (.agg x.cells.toArray))) W19 (a19.eval (.tmp 3)) := by rw [ho19 3 rfl]; exact (VarP.st (Is.st _)) _ _ _ hx19 g3
    replace g5 : (Is (.int .i64 ((amountF x t.cls 0).1))) W19 (a19.eval (.tmp 5)) := by rw [ho19 5 rfl]; exact (Is.st _) _ _ _ hx19 g5
    replace g6 : (Is (.int .i64 ((amountF x t.cls 0).2.1))) W19 (a19.eval (.tmp 6)) := by rw [ho19 6 rfl]; exact (Is.st _) _ _ _ hx19 g6
    replace g7 : (Is (.int .i64 ((amountF x t.cls 0).2.2))) W19 (a19.eval (.tmp 7)) := by rw [ho19 7 rfl]; exact (Is.st _) _ _ _ hx19 g7
    replace g8 : (Is (.int .i64 (((k : Nat) : Int)))) W19 (a19.eval (.tmp 8)) := by rw [ho19 8 rfl]; exact (Is.st _) _ _ _ hx19 g8
    replace g11 : (Is (.int .i64 ((EvalF c.pay x).1))) W19 (a19.eval (.tmp 11)) := by rw [ho19 11 rfl]; exact (Is.st _) _ _ _ hx19 g11
    replace hW : Ext w W19 := hW.trans hx19
    replace hd19 : a19.defers = [] := hd19.trans hd16
    clear hx19 ho19
    refine cond_f g75 ?_
    refine wp_skip ?_
    refine then_normal ?_
    refine wp_seq (lf16 x hok t k c hkl h70 _ _ _ hs19 g2 g3 g8 fun a20 W20 hx20 ho20 hs20 hd20 g13 g14 g15 => ?_)
    refine then_normal ?_
    replace g2 : (VarP 3 (TfP t)) W20 (a20.eval (.tmp 2)) := by rw [ho20 2 rfl]; exact (VarP.st TfP.st) _ _ _ hx20 g2
    replace g3 : (VarP 17 (Is (.agg x.cells.toArray))) W20 (a20.eval (.tmp 3)) := by rw [ho20 3 rfl]; exact (VarP.st (Is.st _)) _ _ _ hx20 g3
    replace g5 : (Is (.int .i64 ((amountF x t.cls 0).1))) W20 (a20.eval (.tmp 5)) := by rw [ho20 5 rfl]; exact (Is.st _) _ _ _ hx20 g5
    replace g6 : (Is (.int .i64 ((amountF x t.cls 0).2.1))) W20 (a20.eval (.tmp 6)) := by rw [ho20 6 rfl]; exact (Is.st _) _ _ _ hx20 g6
    replace g7 : (Is (.int .i64 ((amountF x t.cls 0).2.2))) W20 (a20.eval (.tmp 7)) := by rw [ho20 7 rfl]; exact (Is.st _) _ _ _ hx20 g7
    replace g8 : (Is (.int .i64 (((k : Nat) : Int)))) W20 (a20.eval (.tmp 8)) := by rw [ho20 8 rfl]; exact (Is.st _) _ _ _ hx20 g8
    replace g11 : (Is (.int .i64 ((EvalF c.pay x).1))) W20 (a20.eval (.tmp 11)) := by rw [ho20 11 rfl]; exact (Is.st _) _ _ _ hx20 g11
    replace hW : Ext w W20 := hW.trans hx20
    replace hd20 : a20.defers = [] := hd20.trans hd19
    clear hx20 ho20
    refine wp_seq (lf17 x hok t k c hkl h70 _ _ _ hs20 g2 g3 g8 fun a21 W21 hx21 ho21 hs21 hd21 g16 g17 g18 => ?_)
    refine then_normal ?_
    replace g2 : (VarP 3 (TfP t)) W21 (a21.eval (.tmp 2)) := by rw [ho21 2 rfl]; exact (VarP.st TfP.st) _ _ _ hx21 g2
    replace g3 : (VarP 17 (Is (.agg x.cells.toArray))) W21 (a21.eval (.tmp 3)) := by rw [ho21 3 rfl]; exact (VarP.st (Is.st _)) _ _ _ hx21 g3
    replace g5 : (Is (.int .i64 ((amountF x t.cls 0).1))) W21 (a21.eval (.tmp 5)) := by rw [ho21 5 rfl]; exact (Is.st _) _ _ _ hx21 g5
    replace g6 : (Is (.int .i64 ((amountF x t.cls 0).2.1))) W21 (a21.eval (.tmp 6)) := by rw [ho21 6 rfl]; exact (Is.st _) _ _ _ hx21 g6
    replace g7 : (Is (.int .i64 ((amountF x t.cls 0).2.2))) W21 (a21.eval (.tmp 7)) := by rw [ho21 7 rfl]; exact (Is.st _) _ _ _ hx21 g7
    replace g8 : (Is (.int .i64 (((k : Nat) : Int)))) W21 (a21.eval (.tmp 8)) := by rw [ho21 8 rfl]; exact (Is.st _) _ _ _ hx21 g8
    replace g11 : (Is (.int .i64 ((EvalF c.pay x).1))) W21 (a21.eval (.tmp 11)) := by rw [ho21 11 rfl]; exact (Is.st _) _ _ _ hx21 g11
    replace g13 : (Is (.int .i64 ((amountF x (tfOf (t.cls.drop k)).cls 0).1))) W21 (a21.eval (.tmp 13)) := by rw [ho21 13 rfl]; exact (Is.st _) _ _ _ hx21 g13
    replace g14 : (Is (.int .i64 ((amountF x (tfOf (t.cls.drop k)).cls 0).2.1))) W21 (a21.eval (.tmp 14)) := by rw [ho21 14 rfl]; exact (Is.st _) _ _ _ hx21 g14
    replace g15 : (Is (.int .i64 ((amountF x (tfOf (t.cls.drop k)).cls 0).2.2))) W21 (a21.eval (.tmp 15)) := by rw [ho21 15 rfl]; exact (Is.st _) _ _ _ hx21 g15
    replace hW : Ext w W21 := hW.trans hx21
    replace hd21 : a21.defers = [] := hd21.trans hd20
    clear hx21 ho21
    have hA : amountF x t.cls 0 = ((EvalF c.pay x).1, (k : Int), 0) := by rw [hall]; exact amount_yes he hb hv
    have hD : amountF x (tfOf (t.cls.drop k)).cls 0 = ((EvalF c.pay x).1, 0, 0) := by rw [hdrop]; exact amount_yes he hb hv
    have hT : amountF x (tfOf (t.cls.take (k + 1))).cls 0 = ((EvalF c.pay x).1, (k : Int), 0) := by rw [htake]; show amountF x (t.cls.take k ++ [c]) 0 = _; rw [hpre]; exact amount_yes he hb hv
    refine wp_seq (lf18 x hok t k c hA hD hT _ _ _ hs21 g5 g6 g7 g8 g11 g13 g14 g15 g16 g17 g18 fun a22 W22 hx22 ho22 hs22 hd22 g4 => ?_)
    refine then_normal ?_
    replace g2 : (VarP 3 (TfP t)) W22 (a22.eval (.tmp 2)) := by rw [ho22 2 rfl]; exact (VarP.st TfP.st) _ _ _ hx22 g2
    replace g3 : (VarP 17 (Is (.agg x.cells.toArray))) W22 (a22.eval (.tmp 3)) := by rw [ho22 3 rfl]; exact (VarP.st (Is.st _)) _ _ _ hx22 g3
    replace g5 : (Is (.int .i64 ((amountF x t.cls 0).1))) W22 (a22.eval (.tmp 5)) := by rw [ho22 5 rfl]; exact (Is.st _) _ _ _ hx22 g5
    replace g6 : (Is (.int .i64 ((amountF x t.cls 0).2.1))) W22 (a22.eval (.tmp 6)) := by rw [ho22 6 rfl]; exact (Is.st _) _ _ _ hx22 g6
    replace g7 : (Is (.int .i64 ((amountF x t.cls 0).2.2))) W22 (a22.eval (.tmp 7)) := by rw [ho22 7 rfl]; exact (Is.st _) _ _ _ hx22 g7
    replace g8 : (Is (.int .i64 (((k : Nat) : Int)))) W22 (a22.eval (.tmp 8)) := by rw [ho22 8 rfl]; exact (Is.st _) _ _ _ hx22 g8
    replace g11 : (Is (.int .i64 ((EvalF c.pay x).1))) W22 (a22.eval (.tmp 11)) := by rw [ho22 11 rfl]; exact (Is.st _) _ _ _ hx22 g11
    replace g13 : (Is (.int .i64 ((amountF x (tfOf (t.cls.drop k)).cls 0).1))) W22 (a22.eval (.tmp 13)) := by rw [ho22 13 rfl]; exact (Is.st _) _ _ _ hx22 g13
    replace g14 : (Is (.int .i64 ((amountF x (tfOf (t.cls.drop k)).cls 0).2.1))) W22 (a22.eval (.tmp 14)) := by rw [ho22 14 rfl]; exact (Is.st _) _ _ _ hx22 g14
    replace g15 : (Is (.int .i64 ((amountF x (tfOf (t.cls.drop k)).cls 0).2.2))) W22 (a22.eval (.tmp 15)) := by rw [ho22 15 rfl]; exact (Is.st _) _ _ _ hx22 g15
    replace g16 : (Is (.int .i64 ((amountF x (tfOf (t.cls.take (k + 1))).cls 0).1))) W22 (a22.eval (.tmp 16)) := by rw [ho22 16 rfl]; exact (Is.st _) _ _ _ hx22 g16
    replace g17 : (Is (.int .i64 ((amountF x (tfOf (t.cls.take (k + 1))).cls 0).2.1))) W22 (a22.eval (.tmp 17)) := by rw [ho22 17 rfl]; exact (Is.st _) _ _ _ hx22 g17
    replace g18 : (Is (.int .i64 ((amountF x (tfOf (t.cls.take (k + 1))).cls 0).2.2))) W22 (a22.eval (.tmp 18)) := by rw [ho22 18 rfl]; exact (Is.st _) _ _ _ hx22 g18
    replace hW : Ext w W22 := hW.trans hx22
    replace hd22 : a22.defers = [] := hd22.trans hd21
    clear hx22 ho22
    refine wp_ret ?_
    show bodyPost Try.prog Try.f8 (fun en w1 => en = .returned (.bool true) ∧ Ext w w1) .ret _ _
    exact ret_is Try.results8 hd22 g4 ⟨rfl, hW⟩
  · have hke : k = t.cls.length := by omega
    have hA : amountF x t.cls 0 = (0, 0, 180) := by have := hpre []; rw [hke, List.take_length, List.append_nil] at this; exact this
    refine wp_seq (lf7b x hok t k hkl _ _ _ hsL g2 g8 fun a23 W23 hx23 ho23 hs23 hd23 g35 => ?_)
    refine then_normal ?_
    replace g2 : (VarP 3 (TfP t)) W23 (a23.eval (.tmp 2)) := by rw [ho23 2 rfl]; exact (VarP.st TfP.st) _ _ _ hx23 g2
    replace g3 : (VarP 17 (Is (.agg x.cells.toArray))) W23 (a23.eval (.tmp 3)) := by rw [ho23 3 rfl]; exact (VarP.st (Is.st _)) _ _ _ hx23 g3
    replace g5 : (Is (.int .i64 ((amountF x t.cls 0).1))) W23 (a23.eval (.tmp 5)) := by rw [ho23 5 rfl]; exact (Is.st _) _ _ _ hx23 g5
    replace g6 : (Is (.int .i64 ((amountF x t.cls 0).2.1))) W23 (a23.eval (.tmp 6)) := by rw [ho23 6 rfl]; exact (Is.st _) _ _ _ hx23 g6
    replace g7 : (Is (.int .i64 ((amountF x t.cls 0).2.2))) W23 (a23.eval (.tmp 7)) := by rw [ho23 7 rfl]; exact (Is.st _) _ _ _ hx23 g7
    replace hW : Ext w W23 := hW.trans hx23
    replace hd23 : a23.defers = [] := hd23.trans hdL
    clear hx23 ho23
    refine cond_f g35 ?_
    refine wp_exit ?_
    refine then_exit (then_exit (exit_block (then_normal ?_)))
    refine wp_seq (lf19 x hok t  hA _ _ _ hs23 g5 g6 g7 fun a24 W24 hx24 ho24 hs24 hd24 g4 => ?_)
    refine then_normal ?_
    replace g2 : (VarP 3 (TfP t)) W24 (a24.eval (.tmp 2)) := by rw [ho24 2 rfl]; exact (VarP.st TfP.st) _ _ _ hx24 g2
    replace g3 : (VarP 17 (Is (.agg x.cells.toArray))) W24 (a24.eval (.tmp 3)) := by rw [ho24 3 rfl]; exact (VarP.st (Is.st _)) _ _ _ hx24 g3
    replace g5 : (Is (.int .i64 ((amountF x t.cls 0).1))) W24 (a24.eval (.tmp 5)) := by rw [ho24 5 rfl]; exact (Is.st _) _ _ _ hx24 g5
    replace g6 : (Is (.int .i64 ((amountF x t.cls 0).2.1))) W24 (a24.eval (.tmp 6)) := by rw [ho24 6 rfl]; exact (Is.st _) _ _ _ hx24 g6
    replace g7 : (Is (.int .i64 ((amountF x t.cls 0).2.2))) W24 (a24.eval (.tmp 7)) := by rw [ho24 7 rfl]; exact (Is.st _) _ _ _ hx24 g7
    replace g35 : (Is (.bool false)) W24 (a24.eval (.tmp 35)) := by rw [ho24 35 rfl]; exact (Is.st _) _ _ _ hx24 g35
    replace hW : Ext w W24 := hW.trans hx24
    replace hd24 : a24.defers = [] := hd24.trans hd23
    clear hx24 ho24
    refine wp_ret ?_
    show bodyPost Try.prog Try.f8 (fun en w1 => en = .returned (.bool true) ∧ Ext w w1) .ret _ _
    exact ret_is Try.results8 hd24 g4 ⟨rfl, hW⟩

end Go.Proofs.Ytophdbbbojnobaa
