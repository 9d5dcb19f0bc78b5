/- fewClauses: has a tariff few clauses, tests and nodes? -/
import Derived.Test.YtophdbbbojnobaaProg
import Derived.Test.YtophdbbbojnobaaCall18
namespace Go.Proofs.Ytophdbbbojnobaa
open Go.RowKit
set_option linter.unusedVariables false

/-- few tests and nodes -/
def fewClB (c : Cl) : Bool := decide (c.tests.length ≤ 20) && fewF c.pay
/-- few clauses, tests and nodes -/
def fewTF (t : Tf) : Bool := decide (t.cls.length ≤ 70) && t.cls.all fewClB
noncomputable def fcC0 : Code := ((Try.f13.body.bind (regionOf 0)).getD .skip)
def fc0D : List (Option Tmp) := [some 1, some 2]
def fc0P (t : Tf)  : List (World → Value → Prop) := [(VarP 3 (TfP t)), (Is (.bool false))]
set_option maxHeartbeats 2000000 in
set_option maxRecDepth 100000 in
theorem fc0 (t : Tf)   (Q : Exit → Act → World → Prop) (a0 : Act) (W : World) (hsz : a0.tmps.size = 33) (g0 : (TfP t) W (a0.eval (.tmp 0)))
    (hQ : ∀ a1 W1, Ext W W1 → (∀ t, fc0D.contains (some t) = false → a1.eval (.tmp t) = a0.eval (.tmp t)) → a1.tmps.size = 33 → a1.defers = a0.defers → (VarP 3 (TfP t)) W1 (a1.eval (.tmp 1)) → Q .normal a1 W1) : fcC0.wp Try.prog Q a0 W := by
  conv => arg 2; whnf
  refine wp_region_sq 2 fc0D (fc0P t ) 33 (by kernel_rfl) hsz ?_ ?_ ?_
  · exact AllSt.cons (VarP.st TfP.st) (AllSt.cons (Is.st _) (AllSt.nil))
  · simp only [List.take_succ_cons, List.take_zero]
    refine ObL.cons trivial (fun v ρ w hx hd S => op_box (n := 3) (p := TfP t) rfl TfP.st (by obtain ⟨cs, h1, sv, h2, _⟩ := (show (TfP t) w (ρ (.tmp 0)) from (S.out rfl (TfP.st _ _ _ hx g0))); exact ⟨cs, h1, by rw [h2]; rfl⟩) (S.out rfl (TfP.st _ _ _ hx g0))) ?_
    refine ObL.cons trivial (fun v ρ w hx hd S => op_move (p := Is (.bool false)) (.inr rfl) (S.c _)) ?_
    exact ObL.nil
  · intro v a1 w hx hPP S hs hdf
    refine wpList_nil ?_
    exact hQ a1 w hx S.o hs hdf (S.dep 0 rfl (hPP 0 (by decide)))

noncomputable def fcC1 : Code := ((Try.f13.body.bind (regionOf 1)).getD .skip)
def fc1aD : List (Option Tmp) := [some 4, some 5, some 6, some 7]
def fc1aP (t : Tf)  : List (World → Value → Prop) := [(CellP (SlP 9 ClIn t.cls)), (SlP 9 ClIn t.cls), (Is (.int .i64 (((t.cls.length : Nat) : Int)))), (Is (.bool true))]
set_option maxHeartbeats 2000000 in
set_option maxRecDepth 100000 in
theorem fc1a (t : Tf)  (h70 : 70 < t.cls.length) (Q : Exit → Act → World → Prop) (a0 : Act) (W : World) (hsz : a0.tmps.size = 33) (g1 : (VarP 3 (TfP t)) W (a0.eval (.tmp 1)))
    (hQ : ∀ a1 W1, Ext W W1 → (∀ t, fc1aD.contains (some t) = false → a1.eval (.tmp t) = a0.eval (.tmp t)) → a1.tmps.size = 33 → a1.defers = a0.defers → (Is (.bool true)) W1 (a1.eval (.tmp 7)) → Q .normal a1 W1) : fcC1.wp Try.prog Q a0 W := by
  conv => arg 2; whnf
  refine wp_region_sq 4 fc1aD (fc1aP t ) 33 (by kernel_rfl) hsz ?_ ?_ ?_
  · exact AllSt.cons (CellP.st (SlP.st ClIn.st)) (AllSt.cons (SlP.st ClIn.st) (AllSt.cons (Is.st _) (AllSt.cons (Is.st _) (AllSt.nil))))
  · simp only [List.take_succ_cons, List.take_zero]
    refine ObL.cons trivial (fun v ρ w hx hd S => op_tfCls rfl (VarP.loc (S.out rfl ((VarP.st TfP.st) _ _ _ hx g1)))) ?_
    refine ObL.cons trivial (fun v ρ w hx hd S => op_loadCls rfl (S.dep 0 rfl (hd 0 rfl))) ?_
    refine ObL.cons trivial (fun v ρ w hx hd S => op_lenCls rfl (show (SlP 9 ClIn t.cls) w (ρ (.tmp 5)) from (S.dep 1 rfl (hd 1 rfl)))) ?_
    refine ObL.cons trivial (fun v ρ w hx hd S => (op_gtr rfl (S.dep 2 rfl (hd 2 rfl)) (S.c _)).mono fun u w1 hu => ⟨hu.1, hu.2.trans (congrArg Value.bool (decide_eq_true (by omega)))⟩) ?_
    exact ObL.nil
  · intro v a1 w hx hPP S hs hdf
    refine wpList_nil ?_
    exact hQ a1 w hx S.o hs hdf (S.dep 3 rfl (hPP 3 (by decide)))

noncomputable def fcC2 : Code := ((Try.f13.body.bind (regionOf 2)).getD .skip)
def fc2D : List (Option Tmp) := [some 2]
def fc2P (t : Tf)  : List (World → Value → Prop) := [(Is (.bool false))]
set_option maxHeartbeats 2000000 in
set_option maxRecDepth 100000 in
theorem fc2 (t : Tf)   (Q : Exit → Act → World → Prop) (a0 : Act) (W : World) (hsz : a0.tmps.size = 33) 
    (hQ : ∀ a1 W1, Ext W W1 → (∀ t, fc2D.contains (some t) = false → a1.eval (.tmp t) = a0.eval (.tmp t)) → a1.tmps.size = 33 → a1.defers = a0.defers → (Is (.bool false)) W1 (a1.eval (.tmp 2)) → Q .normal a1 W1) : fcC2.wp Try.prog Q a0 W := by
  conv => arg 2; whnf
  refine wp_region_sq 1 fc2D (fc2P t ) 33 (by kernel_rfl) hsz ?_ ?_ ?_
  · exact AllSt.cons (Is.st _) (AllSt.nil)
  · simp only [List.take_succ_cons, List.take_zero]
    refine ObL.cons trivial (fun v ρ w hx hd S => op_move (p := Is (.bool false)) (.inr rfl) (S.c _)) ?_
    exact ObL.nil
  · intro v a1 w hx hPP S hs hdf
    refine wpList_nil ?_
    exact hQ a1 w hx S.o hs hdf (S.dep 0 rfl (hPP 0 (by decide)))

def fc1bD : List (Option Tmp) := [some 4, some 5, some 6, some 7]
def fc1bP (t : Tf)  : List (World → Value → Prop) := [(CellP (SlP 9 ClIn t.cls)), (SlP 9 ClIn t.cls), (Is (.int .i64 (((t.cls.length : Nat) : Int)))), (Is (.bool false))]
set_option maxHeartbeats 2000000 in
set_option maxRecDepth 100000 in
theorem fc1b (t : Tf)  (h70 : ¬ 70 < t.cls.length) (Q : Exit → Act → World → Prop) (a0 : Act) (W : World) (hsz : a0.tmps.size = 33) (g1 : (VarP 3 (TfP t)) W (a0.eval (.tmp 1)))
    (hQ : ∀ a1 W1, Ext W W1 → (∀ t, fc1bD.contains (some t) = false → a1.eval (.tmp t) = a0.eval (.tmp t)) → a1.tmps.size = 33 → a1.defers = a0.defers → (Is (.bool false)) W1 (a1.eval (.tmp 7)) → Q .normal a1 W1) : fcC1.wp Try.prog Q a0 W := by
  conv => arg 2; whnf
  refine wp_region_sq 4 fc1bD (fc1bP t ) 33 (by kernel_rfl) hsz ?_ ?_ ?_
  · exact AllSt.cons (CellP.st (SlP.st ClIn.st)) (AllSt.cons (SlP.st ClIn.st) (AllSt.cons (Is.st _) (AllSt.cons (Is.st _) (AllSt.nil))))
  · simp only [List.take_succ_cons, List.take_zero]
    refine ObL.cons trivial (fun v ρ w hx hd S => op_tfCls rfl (VarP.loc (S.out rfl ((VarP.st TfP.st) _ _ _ hx g1)))) ?_
    refine ObL.cons trivial (fun v ρ w hx hd S => op_loadCls rfl (S.dep 0 rfl (hd 0 rfl))) ?_
    refine ObL.cons trivial (fun v ρ w hx hd S => op_lenCls rfl (show (SlP 9 ClIn t.cls) w (ρ (.tmp 5)) from (S.dep 1 rfl (hd 1 rfl)))) ?_
    refine ObL.cons trivial (fun v ρ w hx hd S => (op_gtr rfl (S.dep 2 rfl (hd 2 rfl)) (S.c _)).mono fun u w1 hu => ⟨hu.1, hu.2.trans (congrArg Value.bool (decide_eq_false (by omega)))⟩) ?_
    exact ObL.nil
  · intro v a1 w hx hPP S hs hdf
    refine wpList_nil ?_
    exact hQ a1 w hx S.o hs hdf (S.dep 3 rfl (hPP 3 (by decide)))

noncomputable def fcC3 : Code := ((Try.f13.body.bind (regionOf 3)).getD .skip)
def fc3D : List (Option Tmp) := [some 3]
def fc3P (t : Tf)  : List (World → Value → Prop) := [(Is (.int .i64 0))]
set_option maxHeartbeats 2000000 in
set_option maxRecDepth 100000 in
theorem fc3 (t : Tf)   (Q : Exit → Act → World → Prop) (a0 : Act) (W : World) (hsz : a0.tmps.size = 33) 
    (hQ : ∀ a1 W1, Ext W W1 → (∀ t, fc3D.contains (some t) = false → a1.eval (.tmp t) = a0.eval (.tmp t)) → a1.tmps.size = 33 → a1.defers = a0.defers → (Is (.int .i64 0)) W1 (a1.eval (.tmp 3)) → Q .normal a1 W1) : fcC3.wp Try.prog Q a0 W := by
  conv => arg 2; whnf
  refine wp_region_sq 1 fc3D (fc3P t ) 33 (by kernel_rfl) hsz ?_ ?_ ?_
  · exact AllSt.cons (Is.st _) (AllSt.nil)
  · simp only [List.take_succ_cons, List.take_zero]
    refine ObL.cons trivial (fun v ρ w hx hd S => op_move (p := Is (.int .i64 0)) (.inr rfl) (S.c _)) ?_
    exact ObL.nil
  · intro v a1 w hx hPP S hs hdf
    refine wpList_nil ?_
    exact hQ a1 w hx S.o hs hdf (S.dep 0 rfl (hPP 0 (by decide)))

noncomputable def fcC4 : Code := ((Try.f13.body.bind (regionOf 4)).getD .skip)
def fc4aD : List (Option Tmp) := [some 8, some 9, some 10, some 11, some 12]
def fc4aP (t : Tf) (k : Nat) : List (World → Value → Prop) := [(Is (.int .i64 (((k : Nat) : Int)))), (CellP (SlP 9 ClIn t.cls)), (SlP 9 ClIn t.cls), (Is (.int .i64 (((t.cls.length : Nat) : Int)))), (Is (.bool true))]
set_option maxHeartbeats 2000000 in
set_option maxRecDepth 100000 in
theorem fc4a (t : Tf) (k : Nat) (hkl : k < t.cls.length) (Q : Exit → Act → World → Prop) (a0 : Act) (W : World) (hsz : a0.tmps.size = 33) (g1 : (VarP 3 (TfP t)) W (a0.eval (.tmp 1))) (g3 : (Is (.int .i64 (((k : Nat) : Int)))) W (a0.eval (.tmp 3)))
    (hQ : ∀ a1 W1, Ext W W1 → (∀ t, fc4aD.contains (some t) = false → a1.eval (.tmp t) = a0.eval (.tmp t)) → a1.tmps.size = 33 → a1.defers = a0.defers → (Is (.bool true)) W1 (a1.eval (.tmp 12)) → Q .normal a1 W1) : fcC4.wp Try.prog Q a0 W := by
  conv => arg 2; whnf
  refine wp_region_sq 5 fc4aD (fc4aP t k) 33 (by kernel_rfl) hsz ?_ ?_ ?_
  · exact AllSt.cons (Is.st _) (AllSt.cons (CellP.st (SlP.st ClIn.st)) (AllSt.cons (SlP.st ClIn.st) (AllSt.cons (Is.st _) (AllSt.cons (Is.st _) (AllSt.nil)))))
  · simp only [List.take_succ_cons, List.take_zero]
    refine ObL.cons trivial (fun v ρ w hx hd S => op_move (p := Is (.int .i64 (((k : Nat) : Int)))) (.inl rfl) (S.out rfl ((Is.st _) _ _ _ hx g3))) ?_
    refine ObL.cons trivial (fun v ρ w hx hd S => op_tfCls rfl (VarP.loc (S.out rfl ((VarP.st TfP.st) _ _ _ hx g1)))) ?_
    refine ObL.cons trivial (fun v ρ w hx hd S => op_loadCls rfl (S.dep 1 rfl (hd 1 rfl))) ?_
    refine ObL.cons trivial (fun v ρ w hx hd S => op_lenCls rfl (show (SlP 9 ClIn t.cls) w (ρ (.tmp 10)) from (S.dep 2 rfl (hd 2 rfl)))) ?_
    refine ObL.cons trivial (fun v ρ w hx hd S => (op_lss rfl (S.dep 0 rfl (hd 0 rfl)) (S.dep 3 rfl (hd 3 rfl))).mono fun u w1 hu => ⟨hu.1, hu.2.trans (congrArg Value.bool (decide_eq_true (by omega)))⟩) ?_
    exact ObL.nil
  · intro v a1 w hx hPP S hs hdf
    refine wpList_nil ?_
    exact hQ a1 w hx S.o hs hdf (S.dep 4 rfl (hPP 4 (by decide)))

noncomputable def fcC6 : Code := ((Try.f13.body.bind (regionOf 6)).getD .skip)
def fc6aD : List (Option Tmp) := [some 15, some 16, some 17, some 18, some 19, some 20, some 21, some 22, some 23, some 24, some 25, some 26, some 27, some 28, some 29, some 30, some 31, some 32]
def fc6aP (t : Tf) (k : Nat) (c : Cl) : List (World → Value → Prop) := [(CellP (SlP 9 ClIn t.cls)), (SlP 9 ClIn t.cls), (Is (.int .i64 (((k : Nat) : Int)))), (LocP 9 (ClP c)), (CellP (SlP 3 (fun _ => TstIn) c.tests)), (SlP 3 (fun _ => TstIn) c.tests), (Is (.int .i64 (((c.tests.length : Nat) : Int)))), (Is (.bool true)), (Is (.bool true)), Any, Any, Any, Any, Any, Any, Any, Any, (Is (.bool true))]
set_option maxHeartbeats 2000000 in
set_option maxRecDepth 100000 in
theorem fc6a (t : Tf) (k : Nat) (c : Cl) (hi : t.cls[k]? = some c) (h20 : 20 < c.tests.length) (Q : Exit → Act → World → Prop) (a0 : Act) (W : World) (hsz : a0.tmps.size = 33) (g1 : (VarP 3 (TfP t)) W (a0.eval (.tmp 1))) (g3 : (Is (.int .i64 (((k : Nat) : Int)))) W (a0.eval (.tmp 3)))
    (hQ : ∀ a1 W1, Ext W W1 → (∀ t, fc6aD.contains (some t) = false → a1.eval (.tmp t) = a0.eval (.tmp t)) → a1.tmps.size = 33 → a1.defers = a0.defers → (Is (.bool true)) W1 (a1.eval (.tmp 32)) → Q .normal a1 W1) : fcC6.wp Try.prog Q a0 W := by
  conv => arg 2; whnf
  refine wp_region_sq 18 fc6aD (fc6aP t k c) 33 (by kernel_rfl) hsz ?_ ?_ ?_
  · exact AllSt.cons (CellP.st (SlP.st ClIn.st)) (AllSt.cons (SlP.st ClIn.st) (AllSt.cons (Is.st _) (AllSt.cons (LocP.st ClP.st) (AllSt.cons (CellP.st (SlP.st TstIn.st)) (AllSt.cons (SlP.st TstIn.st) (AllSt.cons (Is.st _) (AllSt.cons (Is.st _) (AllSt.cons (Is.st _) (AllSt.cons Any.st (AllSt.cons Any.st (AllSt.cons Any.st (AllSt.cons Any.st (AllSt.cons Any.st (AllSt.cons Any.st (AllSt.cons Any.st (AllSt.cons Any.st (AllSt.cons (Is.st _) (AllSt.nil))))))))))))))))))
  · simp only [List.take_succ_cons, List.take_zero]
    refine ObL.cons trivial (fun v ρ w hx hd S => op_tfCls rfl (VarP.loc (S.out rfl ((VarP.st TfP.st) _ _ _ hx g1)))) ?_
    refine ObL.cons trivial (fun v ρ w hx hd S => op_loadCls rfl (S.dep 0 rfl (hd 0 rfl))) ?_
    refine ObL.cons trivial (fun v ρ w hx hd S => op_move (p := Is (.int .i64 (((k : Nat) : Int)))) (.inl rfl) (S.out rfl ((Is.st _) _ _ _ hx g3))) ?_
    refine ObL.cons trivial (fun v ρ w hx hd S => op_clAt rfl (S.dep 1 rfl (hd 1 rfl)) (S.dep 2 rfl (hd 2 rfl)) hi) ?_
    refine ObL.cons trivial (fun v ρ w hx hd S => op_clWhen rfl (S.dep 3 rfl (hd 3 rfl))) ?_
    refine ObL.cons trivial (fun v ρ w hx hd S => op_loadTsts rfl (S.dep 4 rfl (hd 4 rfl))) ?_
    refine ObL.cons trivial (fun v ρ w hx hd S => op_lenTsts rfl (show (SlP 3 (fun _ => TstIn) c.tests) w (ρ (.tmp 20)) from (S.dep 5 rfl (hd 5 rfl)))) ?_
    refine ObL.cons trivial (fun v ρ w hx hd S => (op_gtr rfl (S.dep 6 rfl (hd 6 rfl)) (S.c _)).mono fun u w1 hu => ⟨hu.1, hu.2.trans (congrArg Value.bool (decide_eq_true (by omega)))⟩) ?_
    refine ObL.cons trivial (fun v ρ w hx hd S => op_move (p := Is (.bool true)) (.inl rfl) (S.dep 7 rfl (hd 7 rfl))) ?_
    refine ObL.skip ⟨rfl, fun w u h => h, fun _ => trivial⟩ ?_
    refine ObL.skip ⟨rfl, fun w u h => h, fun _ => trivial⟩ ?_
    refine ObL.skip ⟨rfl, fun w u h => h, fun _ => trivial⟩ ?_
    refine ObL.skip ⟨rfl, fun w u h => h, fun _ => trivial⟩ ?_
    refine ObL.skip ⟨rfl, fun w u h => h, fun _ => trivial⟩ ?_
    refine ObL.skip ⟨rfl, fun w u h => h, fun _ => trivial⟩ ?_
    refine ObL.skip ⟨rfl, fun w u h => h, fun _ => trivial⟩ ?_
    refine ObL.skip ⟨rfl, fun w u h => h, fun _ => trivial⟩ ?_
    refine ObL.cons trivial (fun v ρ w hx hd S => op_pick (p := Is (.bool true)) true rfl (S.dep 8 rfl (hd 8 rfl)) (S.c _)) ?_
    exact ObL.nil
  · intro v a1 w hx hPP S hs hdf
    refine wpList_nil ?_
    exact hQ a1 w hx S.o hs hdf (S.dep 17 rfl (hPP 17 (by decide)))

noncomputable def fcC7 : Code := ((Try.f13.body.bind (regionOf 7)).getD .skip)
def fc7D : List (Option Tmp) := [some 2]
def fc7P (t : Tf)  : List (World → Value → Prop) := [(Is (.bool false))]
set_option maxHeartbeats 2000000 in
set_option maxRecDepth 100000 in
theorem fc7 (t : Tf)   (Q : Exit → Act → World → Prop) (a0 : Act) (W : World) (hsz : a0.tmps.size = 33) 
    (hQ : ∀ a1 W1, Ext W W1 → (∀ t, fc7D.contains (some t) = false → a1.eval (.tmp t) = a0.eval (.tmp t)) → a1.tmps.size = 33 → a1.defers = a0.defers → (Is (.bool false)) W1 (a1.eval (.tmp 2)) → Q .normal a1 W1) : fcC7.wp Try.prog Q a0 W := by
  conv => arg 2; whnf
  refine wp_region_sq 1 fc7D (fc7P t ) 33 (by kernel_rfl) hsz ?_ ?_ ?_
  · exact AllSt.cons (Is.st _) (AllSt.nil)
  · simp only [List.take_succ_cons, List.take_zero]
    refine ObL.cons trivial (fun v ρ w hx hd S => op_move (p := Is (.bool false)) (.inr rfl) (S.c _)) ?_
    exact ObL.nil
  · intro v a1 w hx hPP S hs hdf
    refine wpList_nil ?_
    exact hQ a1 w hx S.o hs hdf (S.dep 0 rfl (hPP 0 (by decide)))

def fc6bD : List (Option Tmp) := [some 15, some 16, some 17, some 18, some 19, some 20, some 21, some 22, some 23, some 24, some 25, some 26, some 27, some 28, some 29, some 30, some 31, some 32]
def fc6bP (t : Tf) (k : Nat) (c : Cl) : List (World → Value → Prop) := [(CellP (SlP 9 ClIn t.cls)), (SlP 9 ClIn t.cls), (Is (.int .i64 (((k : Nat) : Int)))), (LocP 9 (ClP c)), (CellP (SlP 3 (fun _ => TstIn) c.tests)), (SlP 3 (fun _ => TstIn) c.tests), (Is (.int .i64 (((c.tests.length : Nat) : Int)))), (Is (.bool false)), (Is (.bool false)), (CellP (SlP 9 ClIn t.cls)), (SlP 9 ClIn t.cls), (Is (.int .i64 (((k : Nat) : Int)))), (LocP 9 (ClP c)), (LocP 7 (ExA c.pay)), (ExA c.pay), (Is (.bool false)), (Is (.bool true)), (Is (.bool true))]
set_option maxHeartbeats 2000000 in
set_option maxRecDepth 100000 in
theorem fc6b (t : Tf) (k : Nat) (c : Cl) (hi : t.cls[k]? = some c) (h20 : ¬ 20 < c.tests.length) (hfew : fewF c.pay = false) (Q : Exit → Act → World → Prop) (a0 : Act) (W : World) (hsz : a0.tmps.size = 33) (g1 : (VarP 3 (TfP t)) W (a0.eval (.tmp 1))) (g3 : (Is (.int .i64 (((k : Nat) : Int)))) W (a0.eval (.tmp 3)))
    (hQ : ∀ a1 W1, Ext W W1 → (∀ t, fc6bD.contains (some t) = false → a1.eval (.tmp t) = a0.eval (.tmp t)) → a1.tmps.size = 33 → a1.defers = a0.defers → (Is (.bool true)) W1 (a1.eval (.tmp 32)) → Q .normal a1 W1) : fcC6.wp Try.prog Q a0 W := by
  conv => arg 2; whnf
  refine wp_region_sq 18 fc6bD (fc6bP t k c) 33 (by kernel_rfl) hsz ?_ ?_ ?_
  · exact AllSt.cons (CellP.st (SlP.st ClIn.st)) (AllSt.cons (SlP.st ClIn.st) (AllSt.cons (Is.st _) (AllSt.cons (LocP.st ClP.st) (AllSt.cons (CellP.st (SlP.st TstIn.st)) (AllSt.cons (SlP.st TstIn.st) (AllSt.cons (Is.st _) (AllSt.cons (Is.st _) (AllSt.cons (Is.st _) (AllSt.cons (CellP.st (SlP.st ClIn.st)) (AllSt.cons (SlP.st ClIn.st) (AllSt.cons (Is.st _) (AllSt.cons (LocP.st ClP.st) (AllSt.cons (LocP.st ExA.st) (AllSt.cons ExA.st (AllSt.cons (Is.st _) (AllSt.cons (Is.st _) (AllSt.cons (Is.st _) (AllSt.nil))))))))))))))))))
  · simp only [List.take_succ_cons, List.take_zero]
    refine ObL.cons trivial (fun v ρ w hx hd S => op_tfCls rfl (VarP.loc (S.out rfl ((VarP.st TfP.st) _ _ _ hx g1)))) ?_
    refine ObL.cons trivial (fun v ρ w hx hd S => op_loadCls rfl (S.dep 0 rfl (hd 0 rfl))) ?_
    refine ObL.cons trivial (fun v ρ w hx hd S => op_move (p := Is (.int .i64 (((k : Nat) : Int)))) (.inl rfl) (S.out rfl ((Is.st _) _ _ _ hx g3))) ?_
    refine ObL.cons trivial (fun v ρ w hx hd S => op_clAt rfl (S.dep 1 rfl (hd 1 rfl)) (S.dep 2 rfl (hd 2 rfl)) hi) ?_
    refine ObL.cons trivial (fun v ρ w hx hd S => op_clWhen rfl (S.dep 3 rfl (hd 3 rfl))) ?_
    refine ObL.cons trivial (fun v ρ w hx hd S => op_loadTsts rfl (S.dep 4 rfl (hd 4 rfl))) ?_
    refine ObL.cons trivial (fun v ρ w hx hd S => op_lenTsts rfl (show (SlP 3 (fun _ => TstIn) c.tests) w (ρ (.tmp 20)) from (S.dep 5 rfl (hd 5 rfl)))) ?_
    refine ObL.cons trivial (fun v ρ w hx hd S => (op_gtr rfl (S.dep 6 rfl (hd 6 rfl)) (S.c _)).mono fun u w1 hu => ⟨hu.1, hu.2.trans (congrArg Value.bool (decide_eq_false (by omega)))⟩) ?_
    refine ObL.cons trivial (fun v ρ w hx hd S => op_move (p := Is (.bool false)) (.inl rfl) (S.dep 7 rfl (hd 7 rfl))) ?_
    refine ObL.cons ⟨rfl, fun w u h => h⟩ (fun v ρ w hx hd S => op_tfCls rfl (VarP.loc (S.out rfl ((VarP.st TfP.st) _ _ _ hx g1)))) ?_
    refine ObL.cons ⟨rfl, fun w u h => h⟩ (fun v ρ w hx hd S => op_loadCls rfl (S.dep 9 rfl (hd 9 rfl))) ?_
    refine ObL.cons ⟨rfl, fun w u h => h⟩ (fun v ρ w hx hd S => op_move (p := Is (.int .i64 (((k : Nat) : Int)))) (.inl rfl) (S.out rfl ((Is.st _) _ _ _ hx g3))) ?_
    refine ObL.cons ⟨rfl, fun w u h => h⟩ (fun v ρ w hx hd S => op_clAt rfl (S.dep 10 rfl (hd 10 rfl)) (S.dep 11 rfl (hd 11 rfl)) hi) ?_
    refine ObL.cons ⟨rfl, fun w u h => h⟩ (fun v ρ w hx hd S => op_clPay rfl (S.dep 12 rfl (hd 12 rfl))) ?_
    refine ObL.cons ⟨rfl, fun w u h => h⟩ (fun v ρ w hx hd S => op_loadL _ _ rfl _ Try.underlying26 rfl info_expr (S.dep 13 rfl (hd 13 rfl))) ?_
    refine ObL.cons ⟨rfl, fun w u h => h⟩ (fun v ρ w hx hd S => (op_few rfl S (S.dep 14 rfl (hd 14 rfl))).mono fun u w1 hu => ⟨hu.1, hu.2.trans (congrArg Value.bool hfew)⟩) ?_
    refine ObL.cons ⟨rfl, fun w u h => h⟩ (fun v ρ w hx hd S => op_not rfl (S.dep 15 rfl (hd 15 rfl))) ?_
    refine ObL.cons trivial (fun v ρ w hx hd S => op_pick (p := Is (.bool true)) false rfl (S.dep 8 rfl (hd 8 rfl)) (S.dep 16 rfl (hd 16 rfl))) ?_
    exact ObL.nil
  · intro v a1 w hx hPP S hs hdf
    refine wpList_nil ?_
    exact hQ a1 w hx S.o hs hdf (S.dep 17 rfl (hPP 17 (by decide)))

def fc6cD : List (Option Tmp) := [some 15, some 16, some 17, some 18, some 19, some 20, some 21, some 22, some 23, some 24, some 25, some 26, some 27, some 28, some 29, some 30, some 31, some 32]
def fc6cP (t : Tf) (k : Nat) (c : Cl) : List (World → Value → Prop) := [(CellP (SlP 9 ClIn t.cls)), (SlP 9 ClIn t.cls), (Is (.int .i64 (((k : Nat) : Int)))), (LocP 9 (ClP c)), (CellP (SlP 3 (fun _ => TstIn) c.tests)), (SlP 3 (fun _ => TstIn) c.tests), (Is (.int .i64 (((c.tests.length : Nat) : Int)))), (Is (.bool false)), (Is (.bool false)), (CellP (SlP 9 ClIn t.cls)), (SlP 9 ClIn t.cls), (Is (.int .i64 (((k : Nat) : Int)))), (LocP 9 (ClP c)), (LocP 7 (ExA c.pay)), (ExA c.pay), (Is (.bool true)), (Is (.bool false)), (Is (.bool false))]
set_option maxHeartbeats 2000000 in
set_option maxRecDepth 100000 in
theorem fc6c (t : Tf) (k : Nat) (c : Cl) (hi : t.cls[k]? = some c) (h20 : ¬ 20 < c.tests.length) (hfew : fewF c.pay = true) (Q : Exit → Act → World → Prop) (a0 : Act) (W : World) (hsz : a0.tmps.size = 33) (g1 : (VarP 3 (TfP t)) W (a0.eval (.tmp 1))) (g3 : (Is (.int .i64 (((k : Nat) : Int)))) W (a0.eval (.tmp 3)))
    (hQ : ∀ a1 W1, Ext W W1 → (∀ t, fc6cD.contains (some t) = false → a1.eval (.tmp t) = a0.eval (.tmp t)) → a1.tmps.size = 33 → a1.defers = a0.defers → (Is (.bool false)) W1 (a1.eval (.tmp 32)) → Q .normal a1 W1) : fcC6.wp Try.prog Q a0 W := by
  conv => arg 2; whnf
  refine wp_region_sq 18 fc6cD (fc6cP t k c) 33 (by kernel_rfl) hsz ?_ ?_ ?_
  · exact AllSt.cons (CellP.st (SlP.st ClIn.st)) (AllSt.cons (SlP.st ClIn.st) (AllSt.cons (Is.st _) (AllSt.cons (LocP.st ClP.st) (AllSt.cons (CellP.st (SlP.st TstIn.st)) (AllSt.cons (SlP.st TstIn.st) (AllSt.cons (Is.st _) (AllSt.cons (Is.st _) (AllSt.cons (Is.st _) (AllSt.cons (CellP.st (SlP.st ClIn.st)) (AllSt.cons (SlP.st ClIn.st) (AllSt.cons (Is.st _) (AllSt.cons (LocP.st ClP.st) (AllSt.cons (LocP.st ExA.st) (AllSt.cons ExA.st (AllSt.cons (Is.st _) (AllSt.cons (Is.st _) (AllSt.cons (Is.st _) (AllSt.nil))))))))))))))))))
  · simp only [List.take_succ_cons, List.take_zero]
    refine ObL.cons trivial (fun v ρ w hx hd S => op_tfCls rfl (VarP.loc (S.out rfl ((VarP.st TfP.st) _ _ _ hx g1)))) ?_
    refine ObL.cons trivial (fun v ρ w hx hd S => op_loadCls rfl (S.dep 0 rfl (hd 0 rfl))) ?_
    refine ObL.cons trivial (fun v ρ w hx hd S => op_move (p := Is (.int .i64 (((k : Nat) : Int)))) (.inl rfl) (S.out rfl ((Is.st _) _ _ _ hx g3))) ?_
    refine ObL.cons trivial (fun v ρ w hx hd S => op_clAt rfl (S.dep 1 rfl (hd 1 rfl)) (S.dep 2 rfl (hd 2 rfl)) hi) ?_
    refine ObL.cons trivial (fun v ρ w hx hd S => op_clWhen rfl (S.dep 3 rfl (hd 3 rfl))) ?_
    refine ObL.cons trivial (fun v ρ w hx hd S => op_loadTsts rfl (S.dep 4 rfl (hd 4 rfl))) ?_
    refine ObL.cons trivial (fun v ρ w hx hd S => op_lenTsts rfl (show (SlP 3 (fun _ => TstIn) c.tests) w (ρ (.tmp 20)) from (S.dep 5 rfl (hd 5 rfl)))) ?_
    refine ObL.cons trivial (fun v ρ w hx hd S => (op_gtr rfl (S.dep 6 rfl (hd 6 rfl)) (S.c _)).mono fun u w1 hu => ⟨hu.1, hu.2.trans (congrArg Value.bool (decide_eq_false (by omega)))⟩) ?_
    refine ObL.cons trivial (fun v ρ w hx hd S => op_move (p := Is (.bool false)) (.inl rfl) (S.dep 7 rfl (hd 7 rfl))) ?_
    refine ObL.cons ⟨rfl, fun w u h => h⟩ (fun v ρ w hx hd S => op_tfCls rfl (VarP.loc (S.out rfl ((VarP.st TfP.st) _ _ _ hx g1)))) ?_
    refine ObL.cons ⟨rfl, fun w u h => h⟩ (fun v ρ w hx hd S => op_loadCls rfl (S.dep 9 rfl (hd 9 rfl))) ?_
    refine ObL.cons ⟨rfl, fun w u h => h⟩ (fun v ρ w hx hd S => op_move (p := Is (.int .i64 (((k : Nat) : Int)))) (.inl rfl) (S.out rfl ((Is.st _) _ _ _ hx g3))) ?_
    refine ObL.cons ⟨rfl, fun w u h => h⟩ (fun v ρ w hx hd S => op_clAt rfl (S.dep 10 rfl (hd 10 rfl)) (S.dep 11 rfl (hd 11 rfl)) hi) ?_
    refine ObL.cons ⟨rfl, fun w u h => h⟩ (fun v ρ w hx hd S => op_clPay rfl (S.dep 12 rfl (hd 12 rfl))) ?_
    refine ObL.cons ⟨rfl, fun w u h => h⟩ (fun v ρ w hx hd S => op_loadL _ _ rfl _ Try.underlying26 rfl info_expr (S.dep 13 rfl (hd 13 rfl))) ?_
    refine ObL.cons ⟨rfl, fun w u h => h⟩ (fun v ρ w hx hd S => (op_few rfl S (S.dep 14 rfl (hd 14 rfl))).mono fun u w1 hu => ⟨hu.1, hu.2.trans (congrArg Value.bool hfew)⟩) ?_
    refine ObL.cons ⟨rfl, fun w u h => h⟩ (fun v ρ w hx hd S => op_not rfl (S.dep 15 rfl (hd 15 rfl))) ?_
    refine ObL.cons trivial (fun v ρ w hx hd S => op_pick (p := Is (.bool false)) false rfl (S.dep 8 rfl (hd 8 rfl)) (S.dep 16 rfl (hd 16 rfl))) ?_
    exact ObL.nil
  · intro v a1 w hx hPP S hs hdf
    refine wpList_nil ?_
    exact hQ a1 w hx S.o hs hdf (S.dep 17 rfl (hPP 17 (by decide)))

noncomputable def fcC5 : Code := ((Try.f13.body.bind (regionOf 5)).getD .skip)
def fc5E : List (Option Tmp) := [some 13, some 14]
def fc5D : List (Option Tmp) := fc5E ++ [some 3]
def fc5P (t : Tf) (k : Nat) : List (World → Value → Prop) := [(Is (.int .i64 (((k : Nat) : Int)))), (Is (.int .i64 (((k + 1 : Nat) : Int))))]
set_option maxHeartbeats 2000000 in
set_option maxRecDepth 100000 in
theorem fc5 (t : Tf) (k : Nat) (hkl : k < t.cls.length) (h70 : ¬ 70 < t.cls.length) (Q : Exit → Act → World → Prop) (a0 : Act) (W : World) (hsz : a0.tmps.size = 33) (g3 : (Is (.int .i64 (((k : Nat) : Int)))) W (a0.eval (.tmp 3)))
    (hQ : ∀ a1 W1, Ext W W1 → (∀ t, fc5D.contains (some t) = false → a1.eval (.tmp t) = a0.eval (.tmp t)) → a1.tmps.size = 33 → a1.defers = a0.defers → (Is (.int .i64 (((k + 1 : Nat) : Int)))) W1 (a1.eval (.tmp 3)) → Q .normal a1 W1) : fcC5.wp Try.prog Q a0 W := by
  conv => arg 2; whnf
  refine wp_region_sq 2 fc5E (fc5P t k) 33 (by kernel_rfl) hsz ?_ ?_ ?_
  · exact AllSt.cons (Is.st _) (AllSt.cons (Is.st _) (AllSt.nil))
  · simp only [List.take_succ_cons, List.take_zero]
    refine ObL.cons trivial (fun v ρ w hx hd S => op_move (p := Is (.int .i64 (((k : Nat) : Int)))) (.inl rfl) (S.out rfl ((Is.st _) _ _ _ hx g3))) ?_
    refine ObL.cons trivial (fun v ρ w hx hd S => (op_add rfl (S.dep 0 rfl (hd 0 rfl)) (S.c _) (by constructor <;> omega)).mono fun u w1 hu => ⟨hu.1, hu.2.trans (by simp)⟩) ?_
    exact ObL.nil
  · intro v a1 w hx hPP S hs hdf
    refine wpList_plain rfl fun K hK => ?_
    refine OpPost.wp (op_move (p := Is (.int .i64 (((k + 1 : Nat) : Int)))) (.inr rfl) (S.dep 1 rfl (hPP 1 (by decide)))) fun u w1 hu => ?_
    refine hK _ _ (wpList_nil ?_)
    exact hQ (a1.put (some 3) u) w1 (hx.trans hu.1) (put_others S) (put_size.trans hs) ((by rfl : _ = a1.defers).trans hdf) (by rw [put_same (by rw [hs]; decide)]; exact hu.2)

def fc4bD : List (Option Tmp) := [some 8, some 9, some 10, some 11, some 12]
def fc4bP (t : Tf) (k : Nat) : List (World → Value → Prop) := [(Is (.int .i64 (((k : Nat) : Int)))), (CellP (SlP 9 ClIn t.cls)), (SlP 9 ClIn t.cls), (Is (.int .i64 (((t.cls.length : Nat) : Int)))), (Is (.bool false))]
set_option maxHeartbeats 2000000 in
set_option maxRecDepth 100000 in
theorem fc4b (t : Tf) (k : Nat) (hkl : ¬ k < t.cls.length) (Q : Exit → Act → World → Prop) (a0 : Act) (W : World) (hsz : a0.tmps.size = 33) (g1 : (VarP 3 (TfP t)) W (a0.eval (.tmp 1))) (g3 : (Is (.int .i64 (((k : Nat) : Int)))) W (a0.eval (.tmp 3)))
    (hQ : ∀ a1 W1, Ext W W1 → (∀ t, fc4bD.contains (some t) = false → a1.eval (.tmp t) = a0.eval (.tmp t)) → a1.tmps.size = 33 → a1.defers = a0.defers → (Is (.bool false)) W1 (a1.eval (.tmp 12)) → Q .normal a1 W1) : fcC4.wp Try.prog Q a0 W := by
  conv => arg 2; whnf
  refine wp_region_sq 5 fc4bD (fc4bP t k) 33 (by kernel_rfl) hsz ?_ ?_ ?_
  · exact AllSt.cons (Is.st _) (AllSt.cons (CellP.st (SlP.st ClIn.st)) (AllSt.cons (SlP.st ClIn.st) (AllSt.cons (Is.st _) (AllSt.cons (Is.st _) (AllSt.nil)))))
  · simp only [List.take_succ_cons, List.take_zero]
    refine ObL.cons trivial (fun v ρ w hx hd S => op_move (p := Is (.int .i64 (((k : Nat) : Int)))) (.inl rfl) (S.out rfl ((Is.st _) _ _ _ hx g3))) ?_
    refine ObL.cons trivial (fun v ρ w hx hd S => op_tfCls rfl (VarP.loc (S.out rfl ((VarP.st TfP.st) _ _ _ hx g1)))) ?_
    refine ObL.cons trivial (fun v ρ w hx hd S => op_loadCls rfl (S.dep 1 rfl (hd 1 rfl))) ?_
    refine ObL.cons trivial (fun v ρ w hx hd S => op_lenCls rfl (show (SlP 9 ClIn t.cls) w (ρ (.tmp 10)) from (S.dep 2 rfl (hd 2 rfl)))) ?_
    refine ObL.cons trivial (fun v ρ w hx hd S => (op_lss rfl (S.dep 0 rfl (hd 0 rfl)) (S.dep 3 rfl (hd 3 rfl))).mono fun u w1 hu => ⟨hu.1, hu.2.trans (congrArg Value.bool (decide_eq_false (by omega)))⟩) ?_
    exact ObL.nil
  · intro v a1 w hx hPP S hs hdf
    refine wpList_nil ?_
    exact hQ a1 w hx S.o hs hdf (S.dep 4 rfl (hPP 4 (by decide)))

noncomputable def fcC8 : Code := ((Try.f13.body.bind (regionOf 8)).getD .skip)
def fc8D : List (Option Tmp) := [some 2]
def fc8P (t : Tf)  : List (World → Value → Prop) := [(Is (.bool true))]
set_option maxHeartbeats 2000000 in
set_option maxRecDepth 100000 in
theorem fc8 (t : Tf)   (Q : Exit → Act → World → Prop) (a0 : Act) (W : World) (hsz : a0.tmps.size = 33) 
    (hQ : ∀ a1 W1, Ext W W1 → (∀ t, fc8D.contains (some t) = false → a1.eval (.tmp t) = a0.eval (.tmp t)) → a1.tmps.size = 33 → a1.defers = a0.defers → (Is (.bool true)) W1 (a1.eval (.tmp 2)) → Q .normal a1 W1) : fcC8.wp Try.prog Q a0 W := by
  conv => arg 2; whnf
  refine wp_region_sq 1 fc8D (fc8P t ) 33 (by kernel_rfl) hsz ?_ ?_ ?_
  · exact AllSt.cons (Is.st _) (AllSt.nil)
  · simp only [List.take_succ_cons, List.take_zero]
    refine ObL.cons trivial (fun v ρ w hx hd S => op_move (p := Is (.bool true)) (.inr rfl) (S.c _)) ?_
    exact ObL.nil
  · intro v a1 w hx hPP S hs hdf
    refine wpList_nil ?_
    exact hQ a1 w hx S.o hs hdf (S.dep 0 rfl (hPP 0 (by decide)))

set_option maxHeartbeats 2000000 in
theorem fewClauses_any (t : Tf) (cs : List Value) (w : World) (ht : TfIn w cs t) : Calls Try.prog 13 #[.agg cs.toArray] w fun en w' => en = .returned (.bool (fewTF t)) ∧ Ext w w' := by
  go_enter Try.func13, Try.ntmps13
  have hW : Ext w w := .refl _
  have hs0 : True := trivial
  have hd0 : ([] : List Deferred) = [] := rfl
  have g0 : TfP t w (.agg cs.toArray) := ⟨cs, rfl, ht⟩
  refine wp_seq (fc0 t   _ _ _ rfl g0 fun a1 W1 hx1 ho1 hs1 hd1 g1 => ?_)
  refine then_normal ?_
  replace g0 : (TfP t) W1 (a1.eval (.tmp 0)) := by rw [ho1 0 rfl]; exact TfP.st _ _ _ hx1 g0
  replace hW : Ext w W1 := hW.trans hx1
  replace hd1 : a1.defers = [] := hd1.trans hd0
  clear hx1 ho1
  refine wp_seq ?_
  by_cases h70 : 70 < t.cls.length
  · have hr : fewTF t = false := by unfold fewTF; simp [Nat.not_le.2 h70]
    refine wp_seq (fc1a t  h70 _ _ _ hs1 g1 fun a2 W2 hx2 ho2 hs2 hd2 g7 => ?_)
    refine then_normal ?_
    replace g0 : (TfP t) W2 (a2.eval (.tmp 0)) := by rw [ho2 0 rfl]; exact TfP.st _ _ _ hx2 g0
    replace g1 : (VarP 3 (TfP t)) W2 (a2.eval (.tmp 1)) := by rw [ho2 1 rfl]; exact (VarP.st TfP.st) _ _ _ hx2 g1
    replace hW : Ext w W2 := hW.trans hx2
    replace hd2 : a2.defers = [] := hd2.trans hd1
    clear hx2 ho2
    refine cond_t g7 ?_
    refine wp_seq (fc2 t   _ _ _ hs2  fun a3 W3 hx3 ho3 hs3 hd3 g2 => ?_)
    refine then_normal ?_
    replace g0 : (TfP t) W3 (a3.eval (.tmp 0)) := by rw [ho3 0 rfl]; exact TfP.st _ _ _ hx3 g0
    replace g1 : (VarP 3 (TfP t)) W3 (a3.eval (.tmp 1)) := by rw [ho3 1 rfl]; exact (VarP.st TfP.st) _ _ _ hx3 g1
    replace g7 : (Is (.bool true)) W3 (a3.eval (.tmp 7)) := by rw [ho3 7 rfl]; exact (Is.st _) _ _ _ hx3 g7
    replace hW : Ext w W3 := hW.trans hx3
    replace hd3 : a3.defers = [] := hd3.trans hd2
    clear hx3 ho3
    refine wp_ret ?_
    show bodyPost Try.prog Try.f13 (fun en w1 => en = .returned (.bool (fewTF t)) ∧ Ext w w1) .ret _ _
    exact ret_is Try.results13 hd3 g2 ⟨by rw [hr], hW⟩
  · have hr : fewTF t = t.cls.all fewClB := by unfold fewTF; simp [Nat.le_of_not_lt h70]
    refine wp_seq (fc1b t  h70 _ _ _ hs1 g1 fun a4 W4 hx4 ho4 hs4 hd4 g7 => ?_)
    refine then_normal ?_
    replace g0 : (TfP t) W4 (a4.eval (.tmp 0)) := by rw [ho4 0 rfl]; exact TfP.st _ _ _ hx4 g0
    replace g1 : (VarP 3 (TfP t)) W4 (a4.eval (.tmp 1)) := by rw [ho4 1 rfl]; exact (VarP.st TfP.st) _ _ _ hx4 g1
    replace hW : Ext w W4 := hW.trans hx4
    replace hd4 : a4.defers = [] := hd4.trans hd1
    clear hx4 ho4
    refine cond_f g7 ?_
    refine wp_skip ?_
    refine then_normal ?_
    refine wp_seq ?_
    refine wp_seq (fc3 t   _ _ _ hs4  fun a5 W5 hx5 ho5 hs5 hd5 g3 => ?_)
    refine then_normal ?_
    replace g1 : (VarP 3 (TfP t)) W5 (a5.eval (.tmp 1)) := by rw [ho5 1 rfl]; exact (VarP.st TfP.st) _ _ _ hx5 g1
    replace hW : Ext w W5 := hW.trans hx5
    replace hd5 : a5.defers = [] := hd5.trans hd4
    clear hx5 ho5
    refine wp_block ?_
    refine wp_loop (fun a w1 => ∃ k : Nat, k ≤ t.cls.length ∧ (t.cls.drop k).all fewClB = t.cls.all fewClB ∧ Ext w w1 ∧ a.tmps.size = 33 ∧ a.defers = [] ∧ VarP 3 (TfP t) w1 (a.eval (.tmp 1)) ∧ Is (.int .i64 ((k : Nat) : Int)) w1 (a.eval (.tmp 3))) (fun a _ => t.cls.length - (intOf (a.eval (.tmp 3))).toNat) ⟨0, Nat.zero_le _, rfl, hW, hs5, hd5, g1, g3⟩ ?_
    clear hW g1 g3
    rintro aL wL ⟨k, hk, hr2, hW, hsL, hdL, g1, g3⟩
    have hmu : (t.cls.length - (intOf (aL.eval (.tmp 3))).toNat) = t.cls.length - k := by rw [show aL.eval (.tmp 3) = _ from g3]; simp [intOf]
    rw [hmu]
    refine wp_seq ?_
    by_cases hkl : k < t.cls.length
    · have hi : t.cls[k]? = some t.cls[k] := List.getElem?_eq_getElem hkl
      generalize t.cls[k] = c at hi
      have hdrop : t.cls.drop k = c :: t.cls.drop (k + 1) := by rw [List.drop_eq_getElem_cons hkl]; congr 1; rw [List.getElem?_eq_getElem hkl] at hi; exact Option.some.inj hi
      rw [hdrop, List.all_cons] at hr2
      refine wp_seq (fc4a t k hkl _ _ _ hsL g1 g3 fun a6 W6 hx6 ho6 hs6 hd6 g12 => ?_)
      refine then_normal ?_
      replace g1 : (VarP 3 (TfP t)) W6 (a6.eval (.tmp 1)) := by rw [ho6 1 rfl]; exact (VarP.st TfP.st) _ _ _ hx6 g1
      replace g3 : (Is (.int .i64 (((k : Nat) : Int)))) W6 (a6.eval (.tmp 3)) := by rw [ho6 3 rfl]; exact (Is.st _) _ _ _ hx6 g3
      replace hW : Ext w W6 := hW.trans hx6
      replace hd6 : a6.defers = [] := hd6.trans hdL
      clear hx6 ho6
      refine cond_t g12 ?_
      refine wp_skip ?_
      refine then_normal ?_
      refine wp_seq ?_
      refine wp_block ?_
      by_cases h20 : 20 < c.tests.length
      · have hcl : fewClB c = false := by unfold fewClB; simp [Nat.not_le.2 h20]
        refine wp_seq (fc6a t k c hi h20 _ _ _ hs6 g1 g3 fun a7 W7 hx7 ho7 hs7 hd7 g32 => ?_)
        refine then_normal ?_
        replace g1 : (VarP 3 (TfP t)) W7 (a7.eval (.tmp 1)) := by rw [ho7 1 rfl]; exact (VarP.st TfP.st) _ _ _ hx7 g1
        replace g3 : (Is (.int .i64 (((k : Nat) : Int)))) W7 (a7.eval (.tmp 3)) := by rw [ho7 3 rfl]; exact (Is.st _) _ _ _ hx7 g3
        replace g12 : (Is (.bool true)) W7 (a7.eval (.tmp 12)) := by rw [ho7 12 rfl]; exact (Is.st _) _ _ _ hx7 g12
        replace hW : Ext w W7 := hW.trans hx7
        replace hd7 : a7.defers = [] := hd7.trans hd6
        clear hx7 ho7
        refine cond_t g32 ?_
        refine wp_seq (fc7 t   _ _ _ hs7  fun a8 W8 hx8 ho8 hs8 hd8 g2 => ?_)
        refine then_normal ?_
        replace g1 : (VarP 3 (TfP t)) W8 (a8.eval (.tmp 1)) := by rw [ho8 1 rfl]; exact (VarP.st TfP.st) _ _ _ hx8 g1
        replace g3 : (Is (.int .i64 (((k : Nat) : Int)))) W8 (a8.eval (.tmp 3)) := by rw [ho8 3 rfl]; exact (Is.st _) _ _ _ hx8 g3
        replace g12 : (Is (.bool true)) W8 (a8.eval (.tmp 12)) := by rw [ho8 12 rfl]; exact (Is.st _) _ _ _ hx8 g12
        replace g32 : (Is (.bool true)) W8 (a8.eval (.tmp 32)) := by rw [ho8 32 rfl]; exact (Is.st _) _ _ _ hx8 g32
        replace hW : Ext w W8 := hW.trans hx8
        replace hd8 : a8.defers = [] := hd8.trans hd7
        clear hx8 ho8
        refine wp_ret ?_
        show bodyPost Try.prog Try.f13 (fun en w1 => en = .returned (.bool (fewTF t)) ∧ Ext w w1) .ret _ _
        exact ret_is Try.results13 hd8 g2 ⟨by rw [hr, ← hr2, hcl]; rfl, hW⟩
      by_cases hfew : fewF c.pay = false
      · have hcl : fewClB c = false := by unfold fewClB; simp [hfew]
        refine wp_seq (fc6b t k c hi h20 hfew _ _ _ hs6 g1 g3 fun a9 W9 hx9 ho9 hs9 hd9 g32 => ?_)
        refine then_normal ?_
        replace g1 : (VarP 3 (TfP t)) W9 (a9.eval (.tmp 1)) := by rw [ho9 1 rfl]; exact (VarP.st TfP.st) _ _ _ hx9 g1
        replace g3 : (Is (.int .i64 (((k : Nat) : Int)))) W9 (a9.eval (.tmp 3)) := by rw [ho9 3 rfl]; exact (Is.st _) _ _ _ hx9 g3
        replace g12 : (Is (.bool true)) W9 (a9.eval (.tmp 12)) := by rw [ho9 12 rfl]; exact (Is.st _) _ _ _ hx9 g12
        replace hW : Ext w W9 := hW.trans hx9
        replace hd9 : a9.defers = [] := hd9.trans hd6
        clear hx9 ho9
        refine cond_t g32 ?_
        refine wp_seq (fc7 t   _ _ _ hs9  fun a10 W10 hx10 ho10 hs10 hd10 g2 => ?_)
        refine then_normal ?_
        replace g1 : (VarP 3 (TfP t)) W10 (a10.eval (.tmp 1)) := by rw [ho10 1 rfl]; exact (VarP.st TfP.st) _ _ _ hx10 g1
        replace g3 : (Is (.int .i64 (((k : Nat) : Int)))) W10 (a10.eval (.tmp 3)) := by rw [ho10 3 rfl]; exact (Is.st _) _ _ _ hx10 g3
        replace g12 : (Is (.bool true)) W10 (a10.eval (.tmp 12)) := by rw [ho10 12 rfl]; exact (Is.st _) _ _ _ hx10 g12
        replace g32 : (Is (.bool true)) W10 (a10.eval (.tmp 32)) := by rw [ho10 32 rfl]; exact (Is.st _) _ _ _ hx10 g32
        replace hW : Ext w W10 := hW.trans hx10
        replace hd10 : a10.defers = [] := hd10.trans hd9
        clear hx10 ho10
        refine wp_ret ?_
        show bodyPost Try.prog Try.f13 (fun en w1 => en = .returned (.bool (fewTF t)) ∧ Ext w w1) .ret _ _
        exact ret_is Try.results13 hd10 g2 ⟨by rw [hr, ← hr2, hcl]; rfl, hW⟩
      rw [Bool.not_eq_false] at hfew
      have hcl : fewClB c = true := by unfold fewClB; simp [hfew, Nat.le_of_not_lt h20]
      refine wp_seq (fc6c t k c hi h20 hfew _ _ _ hs6 g1 g3 fun a11 W11 hx11 ho11 hs11 hd11 g32 => ?_)
      refine then_normal ?_
      replace g1 : (VarP 3 (TfP t)) W11 (a11.eval (.tmp 1)) := by rw [ho11 1 rfl]; exact (VarP.st TfP.st) _ _ _ hx11 g1
      replace g3 : (Is (.int .i64 (((k : Nat) : Int)))) W11 (a11.eval (.tmp 3)) := by rw [ho11 3 rfl]; exact (Is.st _) _ _ _ hx11 g3
      replace hW : Ext w W11 := hW.trans hx11
      replace hd11 : a11.defers = [] := hd11.trans hd6
      clear hx11 ho11
      refine cond_f g32 ?_
      refine wp_skip ?_
      refine in_normal ?_
      refine then_normal ?_
      refine (fc5 t k hkl h70 _ _ _ hs11 g3 fun a12 W12 hx12 ho12 hs12 hd12 g3 => ?_)
      replace g1 : (VarP 3 (TfP t)) W12 (a12.eval (.tmp 1)) := by rw [ho12 1 rfl]; exact (VarP.st TfP.st) _ _ _ hx12 g1
      replace hW : Ext w W12 := hW.trans hx12
      replace hd12 : a12.defers = [] := hd12.trans hd11
      clear hx12 ho12
      refine then_normal ⟨⟨k + 1, hkl, by rw [← hr2, hcl]; rfl, hW, hs12, hd12, g1, g3⟩, ?_⟩
      rw [show a12.eval (.tmp 3) = _ from g3]; simp [intOf]; omega
    · have hke : k = t.cls.length := by omega
      have hr3 : fewTF t = true := by rw [hr, ← hr2, hke]; simp
      refine wp_seq (fc4b t k hkl _ _ _ hsL g1 g3 fun a13 W13 hx13 ho13 hs13 hd13 g12 => ?_)
      refine then_normal ?_
      replace g1 : (VarP 3 (TfP t)) W13 (a13.eval (.tmp 1)) := by rw [ho13 1 rfl]; exact (VarP.st TfP.st) _ _ _ hx13 g1
      replace hW : Ext w W13 := hW.trans hx13
      replace hd13 : a13.defers = [] := hd13.trans hdL
      clear hx13 ho13
      refine cond_f g12 ?_
      refine wp_exit ?_
      refine then_exit (then_exit (exit_block (then_normal ?_)))
      refine wp_seq (fc8 t   _ _ _ hs13  fun a14 W14 hx14 ho14 hs14 hd14 g2 => ?_)
      refine then_normal ?_
      replace g1 : (VarP 3 (TfP t)) W14 (a14.eval (.tmp 1)) := by rw [ho14 1 rfl]; exact (VarP.st TfP.st) _ _ _ hx14 g1
      replace g12 : (Is (.bool false)) W14 (a14.eval (.tmp 12)) := by rw [ho14 12 rfl]; exact (Is.st _) _ _ _ hx14 g12
      replace hW : Ext w W14 := hW.trans hx14
      replace hd14 : a14.defers = [] := hd14.trans hd13
      clear hx14 ho14
      refine wp_ret ?_
      show bodyPost Try.prog Try.f13 (fun en w1 => en = .returned (.bool (fewTF t)) ∧ Ext w w1) .ret _ _
      exact ret_is Try.results13 hd14 g2 ⟨by rw [hr3], hW⟩

theorem op_fewClauses {o : Oper} {ρ : Operand → Value} {w : World} {dsts : List (Option Tmp)} {a0 : Act} {v : Nat → Value} {x : Operand} {ts : Array TypeId} {t : Tf} (ho : o.op = .call { callee := .value (.func 13), args := #[x], argTypes := ts }) (S : Sees dsts a0 v ρ) (hx : TfP t w (ρ x)) : OpPost Try.prog o ρ w fun u w' => Ext w w' ∧ Is (.bool (fewTF t)) w' u := by
  obtain ⟨cs, h1, h2⟩ := hx
  exact call_fewClauses ho S h1 (fewClauses_any t cs w h2) (by rintro en w' ⟨rfl, h⟩; exact ⟨_, rfl, h, rfl⟩)

end Go.Proofs.Ytophdbbbojnobaa
