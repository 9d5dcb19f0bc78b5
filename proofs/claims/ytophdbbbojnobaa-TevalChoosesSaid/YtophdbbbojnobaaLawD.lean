/- TevalChooses: the walk. -/
import Derived.Test.YtophdbbbojnobaaProg
import Derived.Test.YtophdbbbojnobaaOps4
namespace Go.Proofs.Ytophdbbbojnobaa
open Go.RowKit
set_option linter.unusedVariables false

noncomputable def ldC0 : Code := ((Try.f7.body.bind (regionOf 0)).getD .skip)
def ld0D : List (Option Tmp) := [some 5, some 6, some 7, some 8, some 10]
def ld0P (x : Ev) (n : Int) (c1 c2 c3 : List Value) (e1 e2 e3 : Ex)  : List (World → Value → Prop) := [(VarP 7 (Is (.agg c1.toArray))), (VarP 7 (Is (.agg c2.toArray))), (VarP 7 (Is (.agg c3.toArray))), (VarP 17 (Is (.agg x.cells.toArray))), (Is (.bool false))]
set_option maxHeartbeats 2000000 in
set_option maxRecDepth 100000 in
theorem ld0 (x : Ev) (hok : x.ok) (n : Int) (c1 c2 c3 : List Value) (e1 e2 e3 : Ex) (hl1 : c1.length = 7) (hl2 : c2.length = 7) (hl3 : c3.length = 7)  (Q : Exit → Act → World → Prop) (a0 : Act) (W : World) (hsz : a0.tmps.size = 180)  (g0 : (Is (.agg c1.toArray)) W (a0.eval (.tmp 0))) (g1 : (Is (.agg c2.toArray)) W (a0.eval (.tmp 1))) (g2 : (Is (.agg c3.toArray)) W (a0.eval (.tmp 2))) (g3 : (Is (.agg x.cells.toArray)) W (a0.eval (.tmp 3)))
    (hQ : ∀ a1 W1, Ext W W1 → (∀ t, ld0D.contains (some t) = false → a1.eval (.tmp t) = a0.eval (.tmp t)) → a1.tmps.size = 180 → a1.defers = a0.defers → (VarP 7 (Is (.agg c1.toArray))) W1 (a1.eval (.tmp 5)) → (VarP 7 (Is (.agg c2.toArray))) W1 (a1.eval (.tmp 6)) → (VarP 7 (Is (.agg c3.toArray))) W1 (a1.eval (.tmp 7)) → (VarP 17 (Is (.agg x.cells.toArray))) W1 (a1.eval (.tmp 8)) → Q .normal a1 W1) : ldC0.wp Try.prog Q a0 W := by
  conv => arg 2; whnf
  refine wp_region_sq 5 ld0D (ld0P x n c1 c2 c3 e1 e2 e3 ) 180 (by kernel_rfl) hsz ?_ ?_ ?_
  · exact AllSt.cons (VarP.st (Is.st _)) (AllSt.cons (VarP.st (Is.st _)) (AllSt.cons (VarP.st (Is.st _)) (AllSt.cons (VarP.st (Is.st _)) (AllSt.cons (Is.st _) (AllSt.nil)))))
  · simp only [List.take_succ_cons, List.take_zero]
    refine ObL.cons trivial (fun v ρ w hx hd S => op_box (n := 7) (p := Is (.agg c1.toArray)) rfl (Is.st _) ⟨_, (S.out rfl ((Is.st _) _ _ _ hx g0)), hl1⟩ (S.out rfl ((Is.st _) _ _ _ hx g0))) ?_
    refine ObL.cons trivial (fun v ρ w hx hd S => op_box (n := 7) (p := Is (.agg c2.toArray)) rfl (Is.st _) ⟨_, (S.out rfl ((Is.st _) _ _ _ hx g1)), hl2⟩ (S.out rfl ((Is.st _) _ _ _ hx g1))) ?_
    refine ObL.cons trivial (fun v ρ w hx hd S => op_box (n := 7) (p := Is (.agg c3.toArray)) rfl (Is.st _) ⟨_, (S.out rfl ((Is.st _) _ _ _ hx g2)), hl3⟩ (S.out rfl ((Is.st _) _ _ _ hx g2))) ?_
    refine ObL.cons trivial (fun v ρ w hx hd S => op_box (n := 17) (p := Is (.agg x.cells.toArray)) rfl (Is.st _) ⟨_, (S.out rfl ((Is.st _) _ _ _ hx g3)), by simp [Ev.cells, hok.1]⟩ (S.out rfl ((Is.st _) _ _ _ hx g3))) ?_
    refine ObL.cons trivial (fun v ρ w hx hd S => op_move (p := Is (.bool false)) (.inr rfl) (S.c _)) ?_
    exact ObL.nil
  · intro v a1 w hx hPP S hs hdf
    refine wpList_nil ?_
    exact hQ a1 w hx S.o hs hdf (S.dep 0 rfl (hPP 0 (by decide))) (S.dep 1 rfl (hPP 1 (by decide))) (S.dep 2 rfl (hPP 2 (by decide))) (S.dep 3 rfl (hPP 3 (by decide)))

noncomputable def ldC1 : Code := ((Try.f7.body.bind (regionOf 1)).getD .skip)
def ld1D : List (Option Tmp) := [some 28, some 29]
def ld1P (x : Ev) (n : Int) (c1 c2 c3 : List Value) (e1 e2 e3 : Ex)  : List (World → Value → Prop) := [(Is (.bool true)), (Is (.bool false))]
set_option maxHeartbeats 2000000 in
set_option maxRecDepth 100000 in
theorem ld1 (x : Ev) (hok : x.ok) (n : Int) (c1 c2 c3 : List Value) (e1 e2 e3 : Ex) (hl1 : c1.length = 7) (hl2 : c2.length = 7) (hl3 : c3.length = 7)  (Q : Exit → Act → World → Prop) (a0 : Act) (W : World) (hsz : a0.tmps.size = 180)  
    (hQ : ∀ a1 W1, Ext W W1 → (∀ t, ld1D.contains (some t) = false → a1.eval (.tmp t) = a0.eval (.tmp t)) → a1.tmps.size = 180 → a1.defers = a0.defers → (Is (.bool false)) W1 (a1.eval (.tmp 29)) → Q .normal a1 W1) : ldC1.wp Try.prog Q a0 W := by
  conv => arg 2; whnf
  refine wp_region_sq 2 ld1D (ld1P x n c1 c2 c3 e1 e2 e3 ) 180 (by kernel_rfl) hsz ?_ ?_ ?_
  · exact AllSt.cons (Is.st _) (AllSt.cons (Is.st _) (AllSt.nil))
  · simp only [List.take_succ_cons, List.take_zero]
    refine ObL.cons trivial (fun v ρ w hx hd S => op_sane rfl S) ?_
    refine ObL.cons trivial (fun v ρ w hx hd S => op_not rfl (S.dep 0 rfl (hd 0 rfl))) ?_
    exact ObL.nil
  · intro v a1 w hx hPP S hs hdf
    refine wpList_nil ?_
    exact hQ a1 w hx S.o hs hdf (S.dep 1 rfl (hPP 1 (by decide)))

noncomputable def ldC3 : Code := ((Try.f7.body.bind (regionOf 3)).getD .skip)
def ld3aD : List (Option Tmp) := [some 30, some 31, some 32, some 33, some 34, some 35, some 36, some 37, some 38, some 39, some 40, some 41, some 42, some 43, some 44, some 45, some 46, some 47, some 48, some 49, some 50, some 51, some 52, some 53, some 54, some 55, some 56, some 57]
def ld3aP (x : Ev) (n : Int) (c1 c2 c3 : List Value) (e1 e2 e3 : Ex)  : List (World → Value → Prop) := [(Is (.agg c1.toArray)), (Is (.bool false)), (Is (.bool true)), (Is (.bool true)), Any, Any, Any, (Is (.bool true)), (Is (.bool true)), Any, Any, Any, (Is (.bool true)), (Is (.bool true)), Any, Any, Any, (Is (.bool true)), (Is (.bool true)), Any, Any, Any, (Is (.bool true)), (Is (.bool true)), Any, Any, Any, (Is (.bool true))]
set_option maxHeartbeats 2000000 in
set_option maxRecDepth 100000 in
theorem ld3a (x : Ev) (hok : x.ok) (n : Int) (c1 c2 c3 : List Value) (e1 e2 e3 : Ex) (hl1 : c1.length = 7) (hl2 : c2.length = 7) (hl3 : c3.length = 7)  (Q : Exit → Act → World → Prop) (a0 : Act) (W : World) (hsz : a0.tmps.size = 180) (he1 : ExR W c1 e1) (he2 : ExR W c2 e2) (he3 : ExR W c3 e3) (hc0 : (fewF e1) = false) (g5 : (VarP 7 (Is (.agg c1.toArray))) W (a0.eval (.tmp 5)))
    (hQ : ∀ a1 W1, Ext W W1 → (∀ t, ld3aD.contains (some t) = false → a1.eval (.tmp t) = a0.eval (.tmp t)) → a1.tmps.size = 180 → a1.defers = a0.defers → (Is (.bool true)) W1 (a1.eval (.tmp 57)) → Q .normal a1 W1) : ldC3.wp Try.prog Q a0 W := by
  conv => arg 2; whnf
  refine wp_region_sq 28 ld3aD (ld3aP x n c1 c2 c3 e1 e2 e3 ) 180 (by kernel_rfl) hsz ?_ ?_ ?_
  · exact AllSt.cons (Is.st _) (AllSt.cons (Is.st _) (AllSt.cons (Is.st _) (AllSt.cons (Is.st _) (AllSt.cons Any.st (AllSt.cons Any.st (AllSt.cons Any.st (AllSt.cons (Is.st _) (AllSt.cons (Is.st _) (AllSt.cons Any.st (AllSt.cons Any.st (AllSt.cons Any.st (AllSt.cons (Is.st _) (AllSt.cons (Is.st _) (AllSt.cons Any.st (AllSt.cons Any.st (AllSt.cons Any.st (AllSt.cons (Is.st _) (AllSt.cons (Is.st _) (AllSt.cons Any.st (AllSt.cons Any.st (AllSt.cons Any.st (AllSt.cons (Is.st _) (AllSt.cons (Is.st _) (AllSt.cons Any.st (AllSt.cons Any.st (AllSt.cons Any.st (AllSt.cons (Is.st _) (AllSt.nil))))))))))))))))))))))))))))
  · simp only [List.take_succ_cons, List.take_zero]
    refine ObL.cons trivial (fun v ρ w hx hd S => op_loadV _ _ rfl _ Try.underlying26 rfl info_expr (S.out rfl ((VarP.st (Is.st _)) _ _ _ hx g5))) ?_
    refine ObL.cons trivial (fun v ρ w hx hd S => (op_few rfl S (show ExA e1 w (ρ (.tmp 30)) from ⟨_, (S.dep 0 rfl (hd 0 rfl)), he1.ext hx⟩)).mono fun u w1 hu => ⟨hu.1, hu.2.trans (congrArg Value.bool hc0)⟩) ?_
    refine ObL.cons trivial (fun v ρ w hx hd S => op_not rfl (S.dep 1 rfl (hd 1 rfl))) ?_
    refine ObL.cons trivial (fun v ρ w hx hd S => op_move (p := Is (.bool true)) (.inl rfl) (S.dep 2 rfl (hd 2 rfl))) ?_
    refine ObL.skip ⟨rfl, fun w u h => h, fun _ => trivial⟩ ?_
    refine ObL.skip ⟨rfl, fun w u h => h, fun _ => trivial⟩ ?_
    refine ObL.skip ⟨rfl, fun w u h => h, fun _ => trivial⟩ ?_
    refine ObL.cons trivial (fun v ρ w hx hd S => op_pick (p := Is (.bool true)) true rfl (S.dep 3 rfl (hd 3 rfl)) (S.c _)) ?_
    refine ObL.cons trivial (fun v ρ w hx hd S => op_move (p := Is (.bool true)) (.inl rfl) (S.dep 7 rfl (hd 7 rfl))) ?_
    refine ObL.skip ⟨rfl, fun w u h => h, fun _ => trivial⟩ ?_
    refine ObL.skip ⟨rfl, fun w u h => h, fun _ => trivial⟩ ?_
    refine ObL.skip ⟨rfl, fun w u h => h, fun _ => trivial⟩ ?_
    refine ObL.cons trivial (fun v ρ w hx hd S => op_pick (p := Is (.bool true)) true rfl (S.dep 8 rfl (hd 8 rfl)) (S.c _)) ?_
    refine ObL.cons trivial (fun v ρ w hx hd S => op_move (p := Is (.bool true)) (.inl rfl) (S.dep 12 rfl (hd 12 rfl))) ?_
    refine ObL.skip ⟨rfl, fun w u h => h, fun _ => trivial⟩ ?_
    refine ObL.skip ⟨rfl, fun w u h => h, fun _ => trivial⟩ ?_
    refine ObL.skip ⟨rfl, fun w u h => h, fun _ => trivial⟩ ?_
    refine ObL.cons trivial (fun v ρ w hx hd S => op_pick (p := Is (.bool true)) true rfl (S.dep 13 rfl (hd 13 rfl)) (S.c _)) ?_
    refine ObL.cons trivial (fun v ρ w hx hd S => op_move (p := Is (.bool true)) (.inl rfl) (S.dep 17 rfl (hd 17 rfl))) ?_
    refine ObL.skip ⟨rfl, fun w u h => h, fun _ => trivial⟩ ?_
    refine ObL.skip ⟨rfl, fun w u h => h, fun _ => trivial⟩ ?_
    refine ObL.skip ⟨rfl, fun w u h => h, fun _ => trivial⟩ ?_
    refine ObL.cons trivial (fun v ρ w hx hd S => op_pick (p := Is (.bool true)) true rfl (S.dep 18 rfl (hd 18 rfl)) (S.c _)) ?_
    refine ObL.cons trivial (fun v ρ w hx hd S => op_move (p := Is (.bool true)) (.inl rfl) (S.dep 22 rfl (hd 22 rfl))) ?_
    refine ObL.skip ⟨rfl, fun w u h => h, fun _ => trivial⟩ ?_
    refine ObL.skip ⟨rfl, fun w u h => h, fun _ => trivial⟩ ?_
    refine ObL.skip ⟨rfl, fun w u h => h, fun _ => trivial⟩ ?_
    refine ObL.cons trivial (fun v ρ w hx hd S => op_pick (p := Is (.bool true)) true rfl (S.dep 23 rfl (hd 23 rfl)) (S.c _)) ?_
    exact ObL.nil
  · intro v a1 w hx hPP S hs hdf
    refine wpList_nil ?_
    exact hQ a1 w hx S.o hs hdf (S.dep 27 rfl (hPP 27 (by decide)))

noncomputable def ldC4 : Code := ((Try.f7.body.bind (regionOf 4)).getD .skip)
def ld4D : List (Option Tmp) := [some 10]
def ld4P (x : Ev) (n : Int) (c1 c2 c3 : List Value) (e1 e2 e3 : Ex)  : List (World → Value → Prop) := [(Is (.bool true))]
set_option maxHeartbeats 2000000 in
set_option maxRecDepth 100000 in
theorem ld4 (x : Ev) (hok : x.ok) (n : Int) (c1 c2 c3 : List Value) (e1 e2 e3 : Ex) (hl1 : c1.length = 7) (hl2 : c2.length = 7) (hl3 : c3.length = 7)  (Q : Exit → Act → World → Prop) (a0 : Act) (W : World) (hsz : a0.tmps.size = 180)  
    (hQ : ∀ a1 W1, Ext W W1 → (∀ t, ld4D.contains (some t) = false → a1.eval (.tmp t) = a0.eval (.tmp t)) → a1.tmps.size = 180 → a1.defers = a0.defers → (Is (.bool true)) W1 (a1.eval (.tmp 10)) → Q .normal a1 W1) : ldC4.wp Try.prog Q a0 W := by
  conv => arg 2; whnf
  refine wp_region_sq 1 ld4D (ld4P x n c1 c2 c3 e1 e2 e3 ) 180 (by kernel_rfl) hsz ?_ ?_ ?_
  · exact AllSt.cons (Is.st _) (AllSt.nil)
  · simp only [List.take_succ_cons, List.take_zero]
    refine ObL.cons trivial (fun v ρ w hx hd S => op_move (p := Is (.bool true)) (.inr rfl) (S.c _)) ?_
    exact ObL.nil
  · intro v a1 w hx hPP S hs hdf
    refine wpList_nil ?_
    exact hQ a1 w hx S.o hs hdf (S.dep 0 rfl (hPP 0 (by decide)))

def ld3bD : List (Option Tmp) := [some 30, some 31, some 32, some 33, some 34, some 35, some 36, some 37, some 38, some 39, some 40, some 41, some 42, some 43, some 44, some 45, some 46, some 47, some 48, some 49, some 50, some 51, some 52, some 53, some 54, some 55, some 56, some 57]
def ld3bP (x : Ev) (n : Int) (c1 c2 c3 : List Value) (e1 e2 e3 : Ex)  : List (World → Value → Prop) := [(Is (.agg c1.toArray)), (Is (.bool true)), (Is (.bool false)), (Is (.bool false)), (Is (.agg c2.toArray)), (Is (.bool false)), (Is (.bool true)), (Is (.bool true)), (Is (.bool true)), Any, Any, Any, (Is (.bool true)), (Is (.bool true)), Any, Any, Any, (Is (.bool true)), (Is (.bool true)), Any, Any, Any, (Is (.bool true)), (Is (.bool true)), Any, Any, Any, (Is (.bool true))]
set_option maxHeartbeats 2000000 in
set_option maxRecDepth 100000 in
theorem ld3b (x : Ev) (hok : x.ok) (n : Int) (c1 c2 c3 : List Value) (e1 e2 e3 : Ex) (hl1 : c1.length = 7) (hl2 : c2.length = 7) (hl3 : c3.length = 7)  (Q : Exit → Act → World → Prop) (a0 : Act) (W : World) (hsz : a0.tmps.size = 180) (he1 : ExR W c1 e1) (he2 : ExR W c2 e2) (he3 : ExR W c3 e3) (hc0 : (fewF e1) = true) (hc1 : (fewF e2) = false) (g5 : (VarP 7 (Is (.agg c1.toArray))) W (a0.eval (.tmp 5))) (g6 : (VarP 7 (Is (.agg c2.toArray))) W (a0.eval (.tmp 6)))
    (hQ : ∀ a1 W1, Ext W W1 → (∀ t, ld3bD.contains (some t) = false → a1.eval (.tmp t) = a0.eval (.tmp t)) → a1.tmps.size = 180 → a1.defers = a0.defers → (Is (.bool true)) W1 (a1.eval (.tmp 57)) → Q .normal a1 W1) : ldC3.wp Try.prog Q a0 W := by
  conv => arg 2; whnf
  refine wp_region_sq 28 ld3bD (ld3bP x n c1 c2 c3 e1 e2 e3 ) 180 (by kernel_rfl) hsz ?_ ?_ ?_
  · exact AllSt.cons (Is.st _) (AllSt.cons (Is.st _) (AllSt.cons (Is.st _) (AllSt.cons (Is.st _) (AllSt.cons (Is.st _) (AllSt.cons (Is.st _) (AllSt.cons (Is.st _) (AllSt.cons (Is.st _) (AllSt.cons (Is.st _) (AllSt.cons Any.st (AllSt.cons Any.st (AllSt.cons Any.st (AllSt.cons (Is.st _) (AllSt.cons (Is.st _) (AllSt.cons Any.st (AllSt.cons Any.st (AllSt.cons Any.st (AllSt.cons (Is.st _) (AllSt.cons (Is.st _) (AllSt.cons Any.st (AllSt.cons Any.st (AllSt.cons Any.st (AllSt.cons (Is.st _) (AllSt.cons (Is.st _) (AllSt.cons Any.st (AllSt.cons Any.st (AllSt.cons Any.st (AllSt.cons (Is.st _) (AllSt.nil))))))))))))))))))))))))))))
  · simp only [List.take_succ_cons, List.take_zero]
    refine ObL.cons trivial (fun v ρ w hx hd S => op_loadV _ _ rfl _ Try.underlying26 rfl info_expr (S.out rfl ((VarP.st (Is.st _)) _ _ _ hx g5))) ?_
    refine ObL.cons trivial (fun v ρ w hx hd S => (op_few rfl S (show ExA e1 w (ρ (.tmp 30)) from ⟨_, (S.dep 0 rfl (hd 0 rfl)), he1.ext hx⟩)).mono fun u w1 hu => ⟨hu.1, hu.2.trans (congrArg Value.bool hc0)⟩) ?_
    refine ObL.cons trivial (fun v ρ w hx hd S => op_not rfl (S.dep 1 rfl (hd 1 rfl))) ?_
    refine ObL.cons trivial (fun v ρ w hx hd S => op_move (p := Is (.bool false)) (.inl rfl) (S.dep 2 rfl (hd 2 rfl))) ?_
    refine ObL.cons ⟨rfl, fun w u h => h⟩ (fun v ρ w hx hd S => op_loadV _ _ rfl _ Try.underlying26 rfl info_expr (S.out rfl ((VarP.st (Is.st _)) _ _ _ hx g6))) ?_
    refine ObL.cons ⟨rfl, fun w u h => h⟩ (fun v ρ w hx hd S => (op_few rfl S (show ExA e2 w (ρ (.tmp 34)) from ⟨_, (S.dep 4 rfl (hd 4 rfl)), he2.ext hx⟩)).mono fun u w1 hu => ⟨hu.1, hu.2.trans (congrArg Value.bool hc1)⟩) ?_
    refine ObL.cons ⟨rfl, fun w u h => h⟩ (fun v ρ w hx hd S => op_not rfl (S.dep 5 rfl (hd 5 rfl))) ?_
    refine ObL.cons trivial (fun v ρ w hx hd S => op_pick (p := Is (.bool true)) false rfl (S.dep 3 rfl (hd 3 rfl)) (S.dep 6 rfl (hd 6 rfl))) ?_
    refine ObL.cons trivial (fun v ρ w hx hd S => op_move (p := Is (.bool true)) (.inl rfl) (S.dep 7 rfl (hd 7 rfl))) ?_
    refine ObL.skip ⟨rfl, fun w u h => h, fun _ => trivial⟩ ?_
    refine ObL.skip ⟨rfl, fun w u h => h, fun _ => trivial⟩ ?_
    refine ObL.skip ⟨rfl, fun w u h => h, fun _ => trivial⟩ ?_
    refine ObL.cons trivial (fun v ρ w hx hd S => op_pick (p := Is (.bool true)) true rfl (S.dep 8 rfl (hd 8 rfl)) (S.c _)) ?_
    refine ObL.cons trivial (fun v ρ w hx hd S => op_move (p := Is (.bool true)) (.inl rfl) (S.dep 12 rfl (hd 12 rfl))) ?_
    refine ObL.skip ⟨rfl, fun w u h => h, fun _ => trivial⟩ ?_
    refine ObL.skip ⟨rfl, fun w u h => h, fun _ => trivial⟩ ?_
    refine ObL.skip ⟨rfl, fun w u h => h, fun _ => trivial⟩ ?_
    refine ObL.cons trivial (fun v ρ w hx hd S => op_pick (p := Is (.bool true)) true rfl (S.dep 13 rfl (hd 13 rfl)) (S.c _)) ?_
    refine ObL.cons trivial (fun v ρ w hx hd S => op_move (p := Is (.bool true)) (.inl rfl) (S.dep 17 rfl (hd 17 rfl))) ?_
    refine ObL.skip ⟨rfl, fun w u h => h, fun _ => trivial⟩ ?_
    refine ObL.skip ⟨rfl, fun w u h => h, fun _ => trivial⟩ ?_
    refine ObL.skip ⟨rfl, fun w u h => h, fun _ => trivial⟩ ?_
    refine ObL.cons trivial (fun v ρ w hx hd S => op_pick (p := Is (.bool true)) true rfl (S.dep 18 rfl (hd 18 rfl)) (S.c _)) ?_
    refine ObL.cons trivial (fun v ρ w hx hd S => op_move (p := Is (.bool true)) (.inl rfl) (S.dep 22 rfl (hd 22 rfl))) ?_
    refine ObL.skip ⟨rfl, fun w u h => h, fun _ => trivial⟩ ?_
    refine ObL.skip ⟨rfl, fun w u h => h, fun _ => trivial⟩ ?_
    refine ObL.skip ⟨rfl, fun w u h => h, fun _ => trivial⟩ ?_
    refine ObL.cons trivial (fun v ρ w hx hd S => op_pick (p := Is (.bool true)) true rfl (S.dep 23 rfl (hd 23 rfl)) (S.c _)) ?_
    exact ObL.nil
  · intro v a1 w hx hPP S hs hdf
    refine wpList_nil ?_
    exact hQ a1 w hx S.o hs hdf (S.dep 27 rfl (hPP 27 (by decide)))

def ld3cD : List (Option Tmp) := [some 30, some 31, some 32, some 33, some 34, some 35, some 36, some 37, some 38, some 39, some 40, some 41, some 42, some 43, some 44, some 45, some 46, some 47, some 48, some 49, some 50, some 51, some 52, some 53, some 54, some 55, some 56, some 57]
def ld3cP (x : Ev) (n : Int) (c1 c2 c3 : List Value) (e1 e2 e3 : Ex)  : List (World → Value → Prop) := [(Is (.agg c1.toArray)), (Is (.bool true)), (Is (.bool false)), (Is (.bool false)), (Is (.agg c2.toArray)), (Is (.bool true)), (Is (.bool false)), (Is (.bool false)), (Is (.bool false)), (Is (.agg c3.toArray)), (Is (.bool false)), (Is (.bool true)), (Is (.bool true)), (Is (.bool true)), Any, Any, Any, (Is (.bool true)), (Is (.bool true)), Any, Any, Any, (Is (.bool true)), (Is (.bool true)), Any, Any, Any, (Is (.bool true))]
set_option maxHeartbeats 2000000 in
set_option maxRecDepth 100000 in
theorem ld3c (x : Ev) (hok : x.ok) (n : Int) (c1 c2 c3 : List Value) (e1 e2 e3 : Ex) (hl1 : c1.length = 7) (hl2 : c2.length = 7) (hl3 : c3.length = 7)  (Q : Exit → Act → World → Prop) (a0 : Act) (W : World) (hsz : a0.tmps.size = 180) (he1 : ExR W c1 e1) (he2 : ExR W c2 e2) (he3 : ExR W c3 e3) (hc0 : (fewF e1) = true) (hc1 : (fewF e2) = true) (hc2 : (fewF e3) = false) (g5 : (VarP 7 (Is (.agg c1.toArray))) W (a0.eval (.tmp 5))) (g6 : (VarP 7 (Is (.agg c2.toArray))) W (a0.eval (.tmp 6))) (g7 : (VarP 7 (Is (.agg c3.toArray))) W (a0.eval (.tmp 7)))
    (hQ : ∀ a1 W1, Ext W W1 → (∀ t, ld3cD.contains (some t) = false → a1.eval (.tmp t) = a0.eval (.tmp t)) → a1.tmps.size = 180 → a1.defers = a0.defers → (Is (.bool true)) W1 (a1.eval (.tmp 57)) → Q .normal a1 W1) : ldC3.wp Try.prog Q a0 W := by
  conv => arg 2; whnf
  refine wp_region_sq 28 ld3cD (ld3cP x n c1 c2 c3 e1 e2 e3 ) 180 (by kernel_rfl) hsz ?_ ?_ ?_
  · exact AllSt.cons (Is.st _) (AllSt.cons (Is.st _) (AllSt.cons (Is.st _) (AllSt.cons (Is.st _) (AllSt.cons (Is.st _) (AllSt.cons (Is.st _) (AllSt.cons (Is.st _) (AllSt.cons (Is.st _) (AllSt.cons (Is.st _) (AllSt.cons (Is.st _) (AllSt.cons (Is.st _) (AllSt.cons (Is.st _) (AllSt.cons (Is.st _) (AllSt.cons (Is.st _) (AllSt.cons Any.st (AllSt.cons Any.st (AllSt.cons Any.st (AllSt.cons (Is.st _) (AllSt.cons (Is.st _) (AllSt.cons Any.st (AllSt.cons Any.st (AllSt.cons Any.st (AllSt.cons (Is.st _) (AllSt.cons (Is.st _) (AllSt.cons Any.st (AllSt.cons Any.st (AllSt.cons Any.st (AllSt.cons (Is.st _) (AllSt.nil))))))))))))))))))))))))))))
  · simp only [List.take_succ_cons, List.take_zero]
    refine ObL.cons trivial (fun v ρ w hx hd S => op_loadV _ _ rfl _ Try.underlying26 rfl info_expr (S.out rfl ((VarP.st (Is.st _)) _ _ _ hx g5))) ?_
    refine ObL.cons trivial (fun v ρ w hx hd S => (op_few rfl S (show ExA e1 w (ρ (.tmp 30)) from ⟨_, (S.dep 0 rfl (hd 0 rfl)), he1.ext hx⟩)).mono fun u w1 hu => ⟨hu.1, hu.2.trans (congrArg Value.bool hc0)⟩) ?_
    refine ObL.cons trivial (fun v ρ w hx hd S => op_not rfl (S.dep 1 rfl (hd 1 rfl))) ?_
    refine ObL.cons trivial (fun v ρ w hx hd S => op_move (p := Is (.bool false)) (.inl rfl) (S.dep 2 rfl (hd 2 rfl))) ?_
    refine ObL.cons ⟨rfl, fun w u h => h⟩ (fun v ρ w hx hd S => op_loadV _ _ rfl _ Try.underlying26 rfl info_expr (S.out rfl ((VarP.st (Is.st _)) _ _ _ hx g6))) ?_
    refine ObL.cons ⟨rfl, fun w u h => h⟩ (fun v ρ w hx hd S => (op_few rfl S (show ExA e2 w (ρ (.tmp 34)) from ⟨_, (S.dep 4 rfl (hd 4 rfl)), he2.ext hx⟩)).mono fun u w1 hu => ⟨hu.1, hu.2.trans (congrArg Value.bool hc1)⟩) ?_
    refine ObL.cons ⟨rfl, fun w u h => h⟩ (fun v ρ w hx hd S => op_not rfl (S.dep 5 rfl (hd 5 rfl))) ?_
    refine ObL.cons trivial (fun v ρ w hx hd S => op_pick (p := Is (.bool false)) false rfl (S.dep 3 rfl (hd 3 rfl)) (S.dep 6 rfl (hd 6 rfl))) ?_
    refine ObL.cons trivial (fun v ρ w hx hd S => op_move (p := Is (.bool false)) (.inl rfl) (S.dep 7 rfl (hd 7 rfl))) ?_
    refine ObL.cons ⟨rfl, fun w u h => h⟩ (fun v ρ w hx hd S => op_loadV _ _ rfl _ Try.underlying26 rfl info_expr (S.out rfl ((VarP.st (Is.st _)) _ _ _ hx g7))) ?_
    refine ObL.cons ⟨rfl, fun w u h => h⟩ (fun v ρ w hx hd S => (op_few rfl S (show ExA e3 w (ρ (.tmp 39)) from ⟨_, (S.dep 9 rfl (hd 9 rfl)), he3.ext hx⟩)).mono fun u w1 hu => ⟨hu.1, hu.2.trans (congrArg Value.bool hc2)⟩) ?_
    refine ObL.cons ⟨rfl, fun w u h => h⟩ (fun v ρ w hx hd S => op_not rfl (S.dep 10 rfl (hd 10 rfl))) ?_
    refine ObL.cons trivial (fun v ρ w hx hd S => op_pick (p := Is (.bool true)) false rfl (S.dep 8 rfl (hd 8 rfl)) (S.dep 11 rfl (hd 11 rfl))) ?_
    refine ObL.cons trivial (fun v ρ w hx hd S => op_move (p := Is (.bool true)) (.inl rfl) (S.dep 12 rfl (hd 12 rfl))) ?_
    refine ObL.skip ⟨rfl, fun w u h => h, fun _ => trivial⟩ ?_
    refine ObL.skip ⟨rfl, fun w u h => h, fun _ => trivial⟩ ?_
    refine ObL.skip ⟨rfl, fun w u h => h, fun _ => trivial⟩ ?_
    refine ObL.cons trivial (fun v ρ w hx hd S => op_pick (p := Is (.bool true)) true rfl (S.dep 13 rfl (hd 13 rfl)) (S.c _)) ?_
    refine ObL.cons trivial (fun v ρ w hx hd S => op_move (p := Is (.bool true)) (.inl rfl) (S.dep 17 rfl (hd 17 rfl))) ?_
    refine ObL.skip ⟨rfl, fun w u h => h, fun _ => trivial⟩ ?_
    refine ObL.skip ⟨rfl, fun w u h => h, fun _ => trivial⟩ ?_
    refine ObL.skip ⟨rfl, fun w u h => h, fun _ => trivial⟩ ?_
    refine ObL.cons trivial (fun v ρ w hx hd S => op_pick (p := Is (.bool true)) true rfl (S.dep 18 rfl (hd 18 rfl)) (S.c _)) ?_
    refine ObL.cons trivial (fun v ρ w hx hd S => op_move (p := Is (.bool true)) (.inl rfl) (S.dep 22 rfl (hd 22 rfl))) ?_
    refine ObL.skip ⟨rfl, fun w u h => h, fun _ => trivial⟩ ?_
    refine ObL.skip ⟨rfl, fun w u h => h, fun _ => trivial⟩ ?_
    refine ObL.skip ⟨rfl, fun w u h => h, fun _ => trivial⟩ ?_
    refine ObL.cons trivial (fun v ρ w hx hd S => op_pick (p := Is (.bool true)) true rfl (S.dep 23 rfl (hd 23 rfl)) (S.c _)) ?_
    exact ObL.nil
  · intro v a1 w hx hPP S hs hdf
    refine wpList_nil ?_
    exact hQ a1 w hx S.o hs hdf (S.dep 27 rfl (hPP 27 (by decide)))

def ld3dD : List (Option Tmp) := [some 30, some 31, some 32, some 33, some 34, some 35, some 36, some 37, some 38, some 39, some 40, some 41, some 42, some 43, some 44, some 45, some 46, some 47, some 48, some 49, some 50, some 51, some 52, some 53, some 54, some 55, some 56, some 57]
def ld3dP (x : Ev) (n : Int) (c1 c2 c3 : List Value) (e1 e2 e3 : Ex)  : List (World → Value → Prop) := [(Is (.agg c1.toArray)), (Is (.bool true)), (Is (.bool false)), (Is (.bool false)), (Is (.agg c2.toArray)), (Is (.bool true)), (Is (.bool false)), (Is (.bool false)), (Is (.bool false)), (Is (.agg c3.toArray)), (Is (.bool true)), (Is (.bool false)), (Is (.bool false)), (Is (.bool false)), (Is (.agg c1.toArray)), (Is (.bool false)), (Is (.bool true)), (Is (.bool true)), (Is (.bool true)), Any, Any, Any, (Is (.bool true)), (Is (.bool true)), Any, Any, Any, (Is (.bool true))]
set_option maxHeartbeats 2000000 in
set_option maxRecDepth 100000 in
theorem ld3d (x : Ev) (hok : x.ok) (n : Int) (c1 c2 c3 : List Value) (e1 e2 e3 : Ex) (hl1 : c1.length = 7) (hl2 : c2.length = 7) (hl3 : c3.length = 7)  (Q : Exit → Act → World → Prop) (a0 : Act) (W : World) (hsz : a0.tmps.size = 180) (he1 : ExR W c1 e1) (he2 : ExR W c2 e2) (he3 : ExR W c3 e3) (hc0 : (fewF e1) = true) (hc1 : (fewF e2) = true) (hc2 : (fewF e3) = true) (hc3 : (formF 23 e1) = false) (g5 : (VarP 7 (Is (.agg c1.toArray))) W (a0.eval (.tmp 5))) (g6 : (VarP 7 (Is (.agg c2.toArray))) W (a0.eval (.tmp 6))) (g7 : (VarP 7 (Is (.agg c3.toArray))) W (a0.eval (.tmp 7)))
    (hQ : ∀ a1 W1, Ext W W1 → (∀ t, ld3dD.contains (some t) = false → a1.eval (.tmp t) = a0.eval (.tmp t)) → a1.tmps.size = 180 → a1.defers = a0.defers → (Is (.bool true)) W1 (a1.eval (.tmp 57)) → Q .normal a1 W1) : ldC3.wp Try.prog Q a0 W := by
  conv => arg 2; whnf
  refine wp_region_sq 28 ld3dD (ld3dP x n c1 c2 c3 e1 e2 e3 ) 180 (by kernel_rfl) hsz ?_ ?_ ?_
  · exact AllSt.cons (Is.st _) (AllSt.cons (Is.st _) (AllSt.cons (Is.st _) (AllSt.cons (Is.st _) (AllSt.cons (Is.st _) (AllSt.cons (Is.st _) (AllSt.cons (Is.st _) (AllSt.cons (Is.st _) (AllSt.cons (Is.st _) (AllSt.cons (Is.st _) (AllSt.cons (Is.st _) (AllSt.cons (Is.st _) (AllSt.cons (Is.st _) (AllSt.cons (Is.st _) (AllSt.cons (Is.st _) (AllSt.cons (Is.st _) (AllSt.cons (Is.st _) (AllSt.cons (Is.st _) (AllSt.cons (Is.st _) (AllSt.cons Any.st (AllSt.cons Any.st (AllSt.cons Any.st (AllSt.cons (Is.st _) (AllSt.cons (Is.st _) (AllSt.cons Any.st (AllSt.cons Any.st (AllSt.cons Any.st (AllSt.cons (Is.st _) (AllSt.nil))))))))))))))))))))))))))))
  · simp only [List.take_succ_cons, List.take_zero]
    refine ObL.cons trivial (fun v ρ w hx hd S => op_loadV _ _ rfl _ Try.underlying26 rfl info_expr (S.out rfl ((VarP.st (Is.st _)) _ _ _ hx g5))) ?_
    refine ObL.cons trivial (fun v ρ w hx hd S => (op_few rfl S (show ExA e1 w (ρ (.tmp 30)) from ⟨_, (S.dep 0 rfl (hd 0 rfl)), he1.ext hx⟩)).mono fun u w1 hu => ⟨hu.1, hu.2.trans (congrArg Value.bool hc0)⟩) ?_
    refine ObL.cons trivial (fun v ρ w hx hd S => op_not rfl (S.dep 1 rfl (hd 1 rfl))) ?_
    refine ObL.cons trivial (fun v ρ w hx hd S => op_move (p := Is (.bool false)) (.inl rfl) (S.dep 2 rfl (hd 2 rfl))) ?_
    refine ObL.cons ⟨rfl, fun w u h => h⟩ (fun v ρ w hx hd S => op_loadV _ _ rfl _ Try.underlying26 rfl info_expr (S.out rfl ((VarP.st (Is.st _)) _ _ _ hx g6))) ?_
    refine ObL.cons ⟨rfl, fun w u h => h⟩ (fun v ρ w hx hd S => (op_few rfl S (show ExA e2 w (ρ (.tmp 34)) from ⟨_, (S.dep 4 rfl (hd 4 rfl)), he2.ext hx⟩)).mono fun u w1 hu => ⟨hu.1, hu.2.trans (congrArg Value.bool hc1)⟩) ?_
    refine ObL.cons ⟨rfl, fun w u h => h⟩ (fun v ρ w hx hd S => op_not rfl (S.dep 5 rfl (hd 5 rfl))) ?_
    refine ObL.cons trivial (fun v ρ w hx hd S => op_pick (p := Is (.bool false)) false rfl (S.dep 3 rfl (hd 3 rfl)) (S.dep 6 rfl (hd 6 rfl))) ?_
    refine ObL.cons trivial (fun v ρ w hx hd S => op_move (p := Is (.bool false)) (.inl rfl) (S.dep 7 rfl (hd 7 rfl))) ?_
    refine ObL.cons ⟨rfl, fun w u h => h⟩ (fun v ρ w hx hd S => op_loadV _ _ rfl _ Try.underlying26 rfl info_expr (S.out rfl ((VarP.st (Is.st _)) _ _ _ hx g7))) ?_
    refine ObL.cons ⟨rfl, fun w u h => h⟩ (fun v ρ w hx hd S => (op_few rfl S (show ExA e3 w (ρ (.tmp 39)) from ⟨_, (S.dep 9 rfl (hd 9 rfl)), he3.ext hx⟩)).mono fun u w1 hu => ⟨hu.1, hu.2.trans (congrArg Value.bool hc2)⟩) ?_
    refine ObL.cons ⟨rfl, fun w u h => h⟩ (fun v ρ w hx hd S => op_not rfl (S.dep 10 rfl (hd 10 rfl))) ?_
    refine ObL.cons trivial (fun v ρ w hx hd S => op_pick (p := Is (.bool false)) false rfl (S.dep 8 rfl (hd 8 rfl)) (S.dep 11 rfl (hd 11 rfl))) ?_
    refine ObL.cons trivial (fun v ρ w hx hd S => op_move (p := Is (.bool false)) (.inl rfl) (S.dep 12 rfl (hd 12 rfl))) ?_
    refine ObL.cons ⟨rfl, fun w u h => h⟩ (fun v ρ w hx hd S => op_loadV _ _ rfl _ Try.underlying26 rfl info_expr (S.out rfl ((VarP.st (Is.st _)) _ _ _ hx g5))) ?_
    refine ObL.cons ⟨rfl, fun w u h => h⟩ (fun v ρ w hx hd S => (op_formed (dn := 23) rfl (by decide) rfl S (show ExA e1 w (ρ (.tmp 44)) from ⟨_, (S.dep 14 rfl (hd 14 rfl)), he1.ext hx⟩)).mono fun u w1 hu => ⟨hu.1, hu.2.trans (congrArg Value.bool hc3)⟩) ?_
    refine ObL.cons ⟨rfl, fun w u h => h⟩ (fun v ρ w hx hd S => op_not rfl (S.dep 15 rfl (hd 15 rfl))) ?_
    refine ObL.cons trivial (fun v ρ w hx hd S => op_pick (p := Is (.bool true)) false rfl (S.dep 13 rfl (hd 13 rfl)) (S.dep 16 rfl (hd 16 rfl))) ?_
    refine ObL.cons trivial (fun v ρ w hx hd S => op_move (p := Is (.bool true)) (.inl rfl) (S.dep 17 rfl (hd 17 rfl))) ?_
    refine ObL.skip ⟨rfl, fun w u h => h, fun _ => trivial⟩ ?_
    refine ObL.skip ⟨rfl, fun w u h => h, fun _ => trivial⟩ ?_
    refine ObL.skip ⟨rfl, fun w u h => h, fun _ => trivial⟩ ?_
    refine ObL.cons trivial (fun v ρ w hx hd S => op_pick (p := Is (.bool true)) true rfl (S.dep 18 rfl (hd 18 rfl)) (S.c _)) ?_
    refine ObL.cons trivial (fun v ρ w hx hd S => op_move (p := Is (.bool true)) (.inl rfl) (S.dep 22 rfl (hd 22 rfl))) ?_
    refine ObL.skip ⟨rfl, fun w u h => h, fun _ => trivial⟩ ?_
    refine ObL.skip ⟨rfl, fun w u h => h, fun _ => trivial⟩ ?_
    refine ObL.skip ⟨rfl, fun w u h => h, fun _ => trivial⟩ ?_
    refine ObL.cons trivial (fun v ρ w hx hd S => op_pick (p := Is (.bool true)) true rfl (S.dep 23 rfl (hd 23 rfl)) (S.c _)) ?_
    exact ObL.nil
  · intro v a1 w hx hPP S hs hdf
    refine wpList_nil ?_
    exact hQ a1 w hx S.o hs hdf (S.dep 27 rfl (hPP 27 (by decide)))

def ld3eD : List (Option Tmp) := [some 30, some 31, some 32, some 33, some 34, some 35, some 36, some 37, some 38, some 39, some 40, some 41, some 42, some 43, some 44, some 45, some 46, some 47, some 48, some 49, some 50, some 51, some 52, some 53, some 54, some 55, some 56, some 57]
def ld3eP (x : Ev) (n : Int) (c1 c2 c3 : List Value) (e1 e2 e3 : Ex)  : List (World → Value → Prop) := [(Is (.agg c1.toArray)), (Is (.bool true)), (Is (.bool false)), (Is (.bool false)), (Is (.agg c2.toArray)), (Is (.bool true)), (Is (.bool false)), (Is (.bool false)), (Is (.bool false)), (Is (.agg c3.toArray)), (Is (.bool true)), (Is (.bool false)), (Is (.bool false)), (Is (.bool false)), (Is (.agg c1.toArray)), (Is (.bool true)), (Is (.bool false)), (Is (.bool false)), (Is (.bool false)), (Is (.agg c2.toArray)), (Is (.bool false)), (Is (.bool true)), (Is (.bool true)), (Is (.bool true)), Any, Any, Any, (Is (.bool true))]
set_option maxHeartbeats 2000000 in
set_option maxRecDepth 100000 in
theorem ld3e (x : Ev) (hok : x.ok) (n : Int) (c1 c2 c3 : List Value) (e1 e2 e3 : Ex) (hl1 : c1.length = 7) (hl2 : c2.length = 7) (hl3 : c3.length = 7)  (Q : Exit → Act → World → Prop) (a0 : Act) (W : World) (hsz : a0.tmps.size = 180) (he1 : ExR W c1 e1) (he2 : ExR W c2 e2) (he3 : ExR W c3 e3) (hc0 : (fewF e1) = true) (hc1 : (fewF e2) = true) (hc2 : (fewF e3) = true) (hc3 : (formF 23 e1) = true) (hc4 : (formF 23 e2) = false) (g5 : (VarP 7 (Is (.agg c1.toArray))) W (a0.eval (.tmp 5))) (g6 : (VarP 7 (Is (.agg c2.toArray))) W (a0.eval (.tmp 6))) (g7 : (VarP 7 (Is (.agg c3.toArray))) W (a0.eval (.tmp 7)))
    (hQ : ∀ a1 W1, Ext W W1 → (∀ t, ld3eD.contains (some t) = false → a1.eval (.tmp t) = a0.eval (.tmp t)) → a1.tmps.size = 180 → a1.defers = a0.defers → (Is (.bool true)) W1 (a1.eval (.tmp 57)) → Q .normal a1 W1) : ldC3.wp Try.prog Q a0 W := by
  conv => arg 2; whnf
  refine wp_region_sq 28 ld3eD (ld3eP x n c1 c2 c3 e1 e2 e3 ) 180 (by kernel_rfl) hsz ?_ ?_ ?_
  · exact AllSt.cons (Is.st _) (AllSt.cons (Is.st _) (AllSt.cons (Is.st _) (AllSt.cons (Is.st _) (AllSt.cons (Is.st _) (AllSt.cons (Is.st _) (AllSt.cons (Is.st _) (AllSt.cons (Is.st _) (AllSt.cons (Is.st _) (AllSt.cons (Is.st _) (AllSt.cons (Is.st _) (AllSt.cons (Is.st _) (AllSt.cons (Is.st _) (AllSt.cons (Is.st _) (AllSt.cons (Is.st _) (AllSt.cons (Is.st _) (AllSt.cons (Is.st _) (AllSt.cons (Is.st _) (AllSt.cons (Is.st _) (AllSt.cons (Is.st _) (AllSt.cons (Is.st _) (AllSt.cons (Is.st _) (AllSt.cons (Is.st _) (AllSt.cons (Is.st _) (AllSt.cons Any.st (AllSt.cons Any.st (AllSt.cons Any.st (AllSt.cons (Is.st _) (AllSt.nil))))))))))))))))))))))))))))
  · simp only [List.take_succ_cons, List.take_zero]
    refine ObL.cons trivial (fun v ρ w hx hd S => op_loadV _ _ rfl _ Try.underlying26 rfl info_expr (S.out rfl ((VarP.st (Is.st _)) _ _ _ hx g5))) ?_
    refine ObL.cons trivial (fun v ρ w hx hd S => (op_few rfl S (show ExA e1 w (ρ (.tmp 30)) from ⟨_, (S.dep 0 rfl (hd 0 rfl)), he1.ext hx⟩)).mono fun u w1 hu => ⟨hu.1, hu.2.trans (congrArg Value.bool hc0)⟩) ?_
    refine ObL.cons trivial (fun v ρ w hx hd S => op_not rfl (S.dep 1 rfl (hd 1 rfl))) ?_
    refine ObL.cons trivial (fun v ρ w hx hd S => op_move (p := Is (.bool false)) (.inl rfl) (S.dep 2 rfl (hd 2 rfl))) ?_
    refine ObL.cons ⟨rfl, fun w u h => h⟩ (fun v ρ w hx hd S => op_loadV _ _ rfl _ Try.underlying26 rfl info_expr (S.out rfl ((VarP.st (Is.st _)) _ _ _ hx g6))) ?_
    refine ObL.cons ⟨rfl, fun w u h => h⟩ (fun v ρ w hx hd S => (op_few rfl S (show ExA e2 w (ρ (.tmp 34)) from ⟨_, (S.dep 4 rfl (hd 4 rfl)), he2.ext hx⟩)).mono fun u w1 hu => ⟨hu.1, hu.2.trans (congrArg Value.bool hc1)⟩) ?_
    refine ObL.cons ⟨rfl, fun w u h => h⟩ (fun v ρ w hx hd S => op_not rfl (S.dep 5 rfl (hd 5 rfl))) ?_
    refine ObL.cons trivial (fun v ρ w hx hd S => op_pick (p := Is (.bool false)) false rfl (S.dep 3 rfl (hd 3 rfl)) (S.dep 6 rfl (hd 6 rfl))) ?_
    refine ObL.cons trivial (fun v ρ w hx hd S => op_move (p := Is (.bool false)) (.inl rfl) (S.dep 7 rfl (hd 7 rfl))) ?_
    refine ObL.cons ⟨rfl, fun w u h => h⟩ (fun v ρ w hx hd S => op_loadV _ _ rfl _ Try.underlying26 rfl info_expr (S.out rfl ((VarP.st (Is.st _)) _ _ _ hx g7))) ?_
    refine ObL.cons ⟨rfl, fun w u h => h⟩ (fun v ρ w hx hd S => (op_few rfl S (show ExA e3 w (ρ (.tmp 39)) from ⟨_, (S.dep 9 rfl (hd 9 rfl)), he3.ext hx⟩)).mono fun u w1 hu => ⟨hu.1, hu.2.trans (congrArg Value.bool hc2)⟩) ?_
    refine ObL.cons ⟨rfl, fun w u h => h⟩ (fun v ρ w hx hd S => op_not rfl (S.dep 10 rfl (hd 10 rfl))) ?_
    refine ObL.cons trivial (fun v ρ w hx hd S => op_pick (p := Is (.bool false)) false rfl (S.dep 8 rfl (hd 8 rfl)) (S.dep 11 rfl (hd 11 rfl))) ?_
    refine ObL.cons trivial (fun v ρ w hx hd S => op_move (p := Is (.bool false)) (.inl rfl) (S.dep 12 rfl (hd 12 rfl))) ?_
    refine ObL.cons ⟨rfl, fun w u h => h⟩ (fun v ρ w hx hd S => op_loadV _ _ rfl _ Try.underlying26 rfl info_expr (S.out rfl ((VarP.st (Is.st _)) _ _ _ hx g5))) ?_
    refine ObL.cons ⟨rfl, fun w u h => h⟩ (fun v ρ w hx hd S => (op_formed (dn := 23) rfl (by decide) rfl S (show ExA e1 w (ρ (.tmp 44)) from ⟨_, (S.dep 14 rfl (hd 14 rfl)), he1.ext hx⟩)).mono fun u w1 hu => ⟨hu.1, hu.2.trans (congrArg Value.bool hc3)⟩) ?_
    refine ObL.cons ⟨rfl, fun w u h => h⟩ (fun v ρ w hx hd S => op_not rfl (S.dep 15 rfl (hd 15 rfl))) ?_
    refine ObL.cons trivial (fun v ρ w hx hd S => op_pick (p := Is (.bool false)) false rfl (S.dep 13 rfl (hd 13 rfl)) (S.dep 16 rfl (hd 16 rfl))) ?_
    refine ObL.cons trivial (fun v ρ w hx hd S => op_move (p := Is (.bool false)) (.inl rfl) (S.dep 17 rfl (hd 17 rfl))) ?_
    refine ObL.cons ⟨rfl, fun w u h => h⟩ (fun v ρ w hx hd S => op_loadV _ _ rfl _ Try.underlying26 rfl info_expr (S.out rfl ((VarP.st (Is.st _)) _ _ _ hx g6))) ?_
    refine ObL.cons ⟨rfl, fun w u h => h⟩ (fun v ρ w hx hd S => (op_formed (dn := 23) rfl (by decide) rfl S (show ExA e2 w (ρ (.tmp 49)) from ⟨_, (S.dep 19 rfl (hd 19 rfl)), he2.ext hx⟩)).mono fun u w1 hu => ⟨hu.1, hu.2.trans (congrArg Value.bool hc4)⟩) ?_
    refine ObL.cons ⟨rfl, fun w u h => h⟩ (fun v ρ w hx hd S => op_not rfl (S.dep 20 rfl (hd 20 rfl))) ?_
    refine ObL.cons trivial (fun v ρ w hx hd S => op_pick (p := Is (.bool true)) false rfl (S.dep 18 rfl (hd 18 rfl)) (S.dep 21 rfl (hd 21 rfl))) ?_
    refine ObL.cons trivial (fun v ρ w hx hd S => op_move (p := Is (.bool true)) (.inl rfl) (S.dep 22 rfl (hd 22 rfl))) ?_
    refine ObL.skip ⟨rfl, fun w u h => h, fun _ => trivial⟩ ?_
    refine ObL.skip ⟨rfl, fun w u h => h, fun _ => trivial⟩ ?_
    refine ObL.skip ⟨rfl, fun w u h => h, fun _ => trivial⟩ ?_
    refine ObL.cons trivial (fun v ρ w hx hd S => op_pick (p := Is (.bool true)) true rfl (S.dep 23 rfl (hd 23 rfl)) (S.c _)) ?_
    exact ObL.nil
  · intro v a1 w hx hPP S hs hdf
    refine wpList_nil ?_
    exact hQ a1 w hx S.o hs hdf (S.dep 27 rfl (hPP 27 (by decide)))

def ld3fD : List (Option Tmp) := [some 30, some 31, some 32, some 33, some 34, some 35, some 36, some 37, some 38, some 39, some 40, some 41, some 42, some 43, some 44, some 45, some 46, some 47, some 48, some 49, some 50, some 51, some 52, some 53, some 54, some 55, some 56, some 57]
def ld3fP (x : Ev) (n : Int) (c1 c2 c3 : List Value) (e1 e2 e3 : Ex)  : List (World → Value → Prop) := [(Is (.agg c1.toArray)), (Is (.bool true)), (Is (.bool false)), (Is (.bool false)), (Is (.agg c2.toArray)), (Is (.bool true)), (Is (.bool false)), (Is (.bool false)), (Is (.bool false)), (Is (.agg c3.toArray)), (Is (.bool true)), (Is (.bool false)), (Is (.bool false)), (Is (.bool false)), (Is (.agg c1.toArray)), (Is (.bool true)), (Is (.bool false)), (Is (.bool false)), (Is (.bool false)), (Is (.agg c2.toArray)), (Is (.bool true)), (Is (.bool false)), (Is (.bool false)), (Is (.bool false)), (Is (.agg c3.toArray)), (Is (.bool false)), (Is (.bool true)), (Is (.bool true))]
set_option maxHeartbeats 2000000 in
set_option maxRecDepth 100000 in
theorem ld3f (x : Ev) (hok : x.ok) (n : Int) (c1 c2 c3 : List Value) (e1 e2 e3 : Ex) (hl1 : c1.length = 7) (hl2 : c2.length = 7) (hl3 : c3.length = 7)  (Q : Exit → Act → World → Prop) (a0 : Act) (W : World) (hsz : a0.tmps.size = 180) (he1 : ExR W c1 e1) (he2 : ExR W c2 e2) (he3 : ExR W c3 e3) (hc0 : (fewF e1) = true) (hc1 : (fewF e2) = true) (hc2 : (fewF e3) = true) (hc3 : (formF 23 e1) = true) (hc4 : (formF 23 e2) = true) (hc5 : (formF 23 e3) = false) (g5 : (VarP 7 (Is (.agg c1.toArray))) W (a0.eval (.tmp 5))) (g6 : (VarP 7 (Is (.agg c2.toArray))) W (a0.eval (.tmp 6))) (g7 : (VarP 7 (Is (.agg c3.toArray))) W (a0.eval (.tmp 7)))
    (hQ : ∀ a1 W1, Ext W W1 → (∀ t, ld3fD.contains (some t) = false → a1.eval (.tmp t) = a0.eval (.tmp t)) → a1.tmps.size = 180 → a1.defers = a0.defers → (Is (.bool true)) W1 (a1.eval (.tmp 57)) → Q .normal a1 W1) : ldC3.wp Try.prog Q a0 W := by
  conv => arg 2; whnf
  refine wp_region_sq 28 ld3fD (ld3fP x n c1 c2 c3 e1 e2 e3 ) 180 (by kernel_rfl) hsz ?_ ?_ ?_
  · exact AllSt.cons (Is.st _) (AllSt.cons (Is.st _) (AllSt.cons (Is.st _) (AllSt.cons (Is.st _) (AllSt.cons (Is.st _) (AllSt.cons (Is.st _) (AllSt.cons (Is.st _) (AllSt.cons (Is.st _) (AllSt.cons (Is.st _) (AllSt.cons (Is.st _) (AllSt.cons (Is.st _) (AllSt.cons (Is.st _) (AllSt.cons (Is.st _) (AllSt.cons (Is.st _) (AllSt.cons (Is.st _) (AllSt.cons (Is.st _) (AllSt.cons (Is.st _) (AllSt.cons (Is.st _) (AllSt.cons (Is.st _) (AllSt.cons (Is.st _) (AllSt.cons (Is.st _) (AllSt.cons (Is.st _) (AllSt.cons (Is.st _) (AllSt.cons (Is.st _) (AllSt.cons (Is.st _) (AllSt.cons (Is.st _) (AllSt.cons (Is.st _) (AllSt.cons (Is.st _) (AllSt.nil))))))))))))))))))))))))))))
  · simp only [List.take_succ_cons, List.take_zero]
    refine ObL.cons trivial (fun v ρ w hx hd S => op_loadV _ _ rfl _ Try.underlying26 rfl info_expr (S.out rfl ((VarP.st (Is.st _)) _ _ _ hx g5))) ?_
    refine ObL.cons trivial (fun v ρ w hx hd S => (op_few rfl S (show ExA e1 w (ρ (.tmp 30)) from ⟨_, (S.dep 0 rfl (hd 0 rfl)), he1.ext hx⟩)).mono fun u w1 hu => ⟨hu.1, hu.2.trans (congrArg Value.bool hc0)⟩) ?_
    refine ObL.cons trivial (fun v ρ w hx hd S => op_not rfl (S.dep 1 rfl (hd 1 rfl))) ?_
    refine ObL.cons trivial (fun v ρ w hx hd S => op_move (p := Is (.bool false)) (.inl rfl) (S.dep 2 rfl (hd 2 rfl))) ?_
    refine ObL.cons ⟨rfl, fun w u h => h⟩ (fun v ρ w hx hd S => op_loadV _ _ rfl _ Try.underlying26 rfl info_expr (S.out rfl ((VarP.st (Is.st _)) _ _ _ hx g6))) ?_
    refine ObL.cons ⟨rfl, fun w u h => h⟩ (fun v ρ w hx hd S => (op_few rfl S (show ExA e2 w (ρ (.tmp 34)) from ⟨_, (S.dep 4 rfl (hd 4 rfl)), he2.ext hx⟩)).mono fun u w1 hu => ⟨hu.1, hu.2.trans (congrArg Value.bool hc1)⟩) ?_
    refine ObL.cons ⟨rfl, fun w u h => h⟩ (fun v ρ w hx hd S => op_not rfl (S.dep 5 rfl (hd 5 rfl))) ?_
    refine ObL.cons trivial (fun v ρ w hx hd S => op_pick (p := Is (.bool false)) false rfl (S.dep 3 rfl (hd 3 rfl)) (S.dep 6 rfl (hd 6 rfl))) ?_
    refine ObL.cons trivial (fun v ρ w hx hd S => op_move (p := Is (.bool false)) (.inl rfl) (S.dep 7 rfl (hd 7 rfl))) ?_
    refine ObL.cons ⟨rfl, fun w u h => h⟩ (fun v ρ w hx hd S => op_loadV _ _ rfl _ Try.underlying26 rfl info_expr (S.out rfl ((VarP.st (Is.st _)) _ _ _ hx g7))) ?_
    refine ObL.cons ⟨rfl, fun w u h => h⟩ (fun v ρ w hx hd S => (op_few rfl S (show ExA e3 w (ρ (.tmp 39)) from ⟨_, (S.dep 9 rfl (hd 9 rfl)), he3.ext hx⟩)).mono fun u w1 hu => ⟨hu.1, hu.2.trans (congrArg Value.bool hc2)⟩) ?_
    refine ObL.cons ⟨rfl, fun w u h => h⟩ (fun v ρ w hx hd S => op_not rfl (S.dep 10 rfl (hd 10 rfl))) ?_
    refine ObL.cons trivial (fun v ρ w hx hd S => op_pick (p := Is (.bool false)) false rfl (S.dep 8 rfl (hd 8 rfl)) (S.dep 11 rfl (hd 11 rfl))) ?_
    refine ObL.cons trivial (fun v ρ w hx hd S => op_move (p := Is (.bool false)) (.inl rfl) (S.dep 12 rfl (hd 12 rfl))) ?_
    refine ObL.cons ⟨rfl, fun w u h => h⟩ (fun v ρ w hx hd S => op_loadV _ _ rfl _ Try.underlying26 rfl info_expr (S.out rfl ((VarP.st (Is.st _)) _ _ _ hx g5))) ?_
    refine ObL.cons ⟨rfl, fun w u h => h⟩ (fun v ρ w hx hd S => (op_formed (dn := 23) rfl (by decide) rfl S (show ExA e1 w (ρ (.tmp 44)) from ⟨_, (S.dep 14 rfl (hd 14 rfl)), he1.ext hx⟩)).mono fun u w1 hu => ⟨hu.1, hu.2.trans (congrArg Value.bool hc3)⟩) ?_
    refine ObL.cons ⟨rfl, fun w u h => h⟩ (fun v ρ w hx hd S => op_not rfl (S.dep 15 rfl (hd 15 rfl))) ?_
    refine ObL.cons trivial (fun v ρ w hx hd S => op_pick (p := Is (.bool false)) false rfl (S.dep 13 rfl (hd 13 rfl)) (S.dep 16 rfl (hd 16 rfl))) ?_
    refine ObL.cons trivial (fun v ρ w hx hd S => op_move (p := Is (.bool false)) (.inl rfl) (S.dep 17 rfl (hd 17 rfl))) ?_
    refine ObL.cons ⟨rfl, fun w u h => h⟩ (fun v ρ w hx hd S => op_loadV _ _ rfl _ Try.underlying26 rfl info_expr (S.out rfl ((VarP.st (Is.st _)) _ _ _ hx g6))) ?_
    refine ObL.cons ⟨rfl, fun w u h => h⟩ (fun v ρ w hx hd S => (op_formed (dn := 23) rfl (by decide) rfl S (show ExA e2 w (ρ (.tmp 49)) from ⟨_, (S.dep 19 rfl (hd 19 rfl)), he2.ext hx⟩)).mono fun u w1 hu => ⟨hu.1, hu.2.trans (congrArg Value.bool hc4)⟩) ?_
    refine ObL.cons ⟨rfl, fun w u h => h⟩ (fun v ρ w hx hd S => op_not rfl (S.dep 20 rfl (hd 20 rfl))) ?_
    refine ObL.cons trivial (fun v ρ w hx hd S => op_pick (p := Is (.bool false)) false rfl (S.dep 18 rfl (hd 18 rfl)) (S.dep 21 rfl (hd 21 rfl))) ?_
    refine ObL.cons trivial (fun v ρ w hx hd S => op_move (p := Is (.bool false)) (.inl rfl) (S.dep 22 rfl (hd 22 rfl))) ?_
    refine ObL.cons ⟨rfl, fun w u h => h⟩ (fun v ρ w hx hd S => op_loadV _ _ rfl _ Try.underlying26 rfl info_expr (S.out rfl ((VarP.st (Is.st _)) _ _ _ hx g7))) ?_
    refine ObL.cons ⟨rfl, fun w u h => h⟩ (fun v ρ w hx hd S => (op_formed (dn := 23) rfl (by decide) rfl S (show ExA e3 w (ρ (.tmp 54)) from ⟨_, (S.dep 24 rfl (hd 24 rfl)), he3.ext hx⟩)).mono fun u w1 hu => ⟨hu.1, hu.2.trans (congrArg Value.bool hc5)⟩) ?_
    refine ObL.cons ⟨rfl, fun w u h => h⟩ (fun v ρ w hx hd S => op_not rfl (S.dep 25 rfl (hd 25 rfl))) ?_
    refine ObL.cons trivial (fun v ρ w hx hd S => op_pick (p := Is (.bool true)) false rfl (S.dep 23 rfl (hd 23 rfl)) (S.dep 26 rfl (hd 26 rfl))) ?_
    exact ObL.nil
  · intro v a1 w hx hPP S hs hdf
    refine wpList_nil ?_
    exact hQ a1 w hx S.o hs hdf (S.dep 27 rfl (hPP 27 (by decide)))

def ld3gD : List (Option Tmp) := [some 30, some 31, some 32, some 33, some 34, some 35, some 36, some 37, some 38, some 39, some 40, some 41, some 42, some 43, some 44, some 45, some 46, some 47, some 48, some 49, some 50, some 51, some 52, some 53, some 54, some 55, some 56, some 57]
def ld3gP (x : Ev) (n : Int) (c1 c2 c3 : List Value) (e1 e2 e3 : Ex)  : List (World → Value → Prop) := [(Is (.agg c1.toArray)), (Is (.bool true)), (Is (.bool false)), (Is (.bool false)), (Is (.agg c2.toArray)), (Is (.bool true)), (Is (.bool false)), (Is (.bool false)), (Is (.bool false)), (Is (.agg c3.toArray)), (Is (.bool true)), (Is (.bool false)), (Is (.bool false)), (Is (.bool false)), (Is (.agg c1.toArray)), (Is (.bool true)), (Is (.bool false)), (Is (.bool false)), (Is (.bool false)), (Is (.agg c2.toArray)), (Is (.bool true)), (Is (.bool false)), (Is (.bool false)), (Is (.bool false)), (Is (.agg c3.toArray)), (Is (.bool true)), (Is (.bool false)), (Is (.bool false))]
set_option maxHeartbeats 2000000 in
set_option maxRecDepth 100000 in
theorem ld3g (x : Ev) (hok : x.ok) (n : Int) (c1 c2 c3 : List Value) (e1 e2 e3 : Ex) (hl1 : c1.length = 7) (hl2 : c2.length = 7) (hl3 : c3.length = 7)  (Q : Exit → Act → World → Prop) (a0 : Act) (W : World) (hsz : a0.tmps.size = 180) (he1 : ExR W c1 e1) (he2 : ExR W c2 e2) (he3 : ExR W c3 e3) (hc0 : (fewF e1) = true) (hc1 : (fewF e2) = true) (hc2 : (fewF e3) = true) (hc3 : (formF 23 e1) = true) (hc4 : (formF 23 e2) = true) (hc5 : (formF 23 e3) = true) (g5 : (VarP 7 (Is (.agg c1.toArray))) W (a0.eval (.tmp 5))) (g6 : (VarP 7 (Is (.agg c2.toArray))) W (a0.eval (.tmp 6))) (g7 : (VarP 7 (Is (.agg c3.toArray))) W (a0.eval (.tmp 7)))
    (hQ : ∀ a1 W1, Ext W W1 → (∀ t, ld3gD.contains (some t) = false → a1.eval (.tmp t) = a0.eval (.tmp t)) → a1.tmps.size = 180 → a1.defers = a0.defers → (Is (.bool false)) W1 (a1.eval (.tmp 57)) → Q .normal a1 W1) : ldC3.wp Try.prog Q a0 W := by
  conv => arg 2; whnf
  refine wp_region_sq 28 ld3gD (ld3gP x n c1 c2 c3 e1 e2 e3 ) 180 (by kernel_rfl) hsz ?_ ?_ ?_
  · exact AllSt.cons (Is.st _) (AllSt.cons (Is.st _) (AllSt.cons (Is.st _) (AllSt.cons (Is.st _) (AllSt.cons (Is.st _) (AllSt.cons (Is.st _) (AllSt.cons (Is.st _) (AllSt.cons (Is.st _) (AllSt.cons (Is.st _) (AllSt.cons (Is.st _) (AllSt.cons (Is.st _) (AllSt.cons (Is.st _) (AllSt.cons (Is.st _) (AllSt.cons (Is.st _) (AllSt.cons (Is.st _) (AllSt.cons (Is.st _) (AllSt.cons (Is.st _) (AllSt.cons (Is.st _) (AllSt.cons (Is.st _) (AllSt.cons (Is.st _) (AllSt.cons (Is.st _) (AllSt.cons (Is.st _) (AllSt.cons (Is.st _) (AllSt.cons (Is.st _) (AllSt.cons (Is.st _) (AllSt.cons (Is.st _) (AllSt.cons (Is.st _) (AllSt.cons (Is.st _) (AllSt.nil))))))))))))))))))))))))))))
  · simp only [List.take_succ_cons, List.take_zero]
    refine ObL.cons trivial (fun v ρ w hx hd S => op_loadV _ _ rfl _ Try.underlying26 rfl info_expr (S.out rfl ((VarP.st (Is.st _)) _ _ _ hx g5))) ?_
    refine ObL.cons trivial (fun v ρ w hx hd S => (op_few rfl S (show ExA e1 w (ρ (.tmp 30)) from ⟨_, (S.dep 0 rfl (hd 0 rfl)), he1.ext hx⟩)).mono fun u w1 hu => ⟨hu.1, hu.2.trans (congrArg Value.bool hc0)⟩) ?_
    refine ObL.cons trivial (fun v ρ w hx hd S => op_not rfl (S.dep 1 rfl (hd 1 rfl))) ?_
    refine ObL.cons trivial (fun v ρ w hx hd S => op_move (p := Is (.bool false)) (.inl rfl) (S.dep 2 rfl (hd 2 rfl))) ?_
    refine ObL.cons ⟨rfl, fun w u h => h⟩ (fun v ρ w hx hd S => op_loadV _ _ rfl _ Try.underlying26 rfl info_expr (S.out rfl ((VarP.st (Is.st _)) _ _ _ hx g6))) ?_
    refine ObL.cons ⟨rfl, fun w u h => h⟩ (fun v ρ w hx hd S => (op_few rfl S (show ExA e2 w (ρ (.tmp 34)) from ⟨_, (S.dep 4 rfl (hd 4 rfl)), he2.ext hx⟩)).mono fun u w1 hu => ⟨hu.1, hu.2.trans (congrArg Value.bool hc1)⟩) ?_
    refine ObL.cons ⟨rfl, fun w u h => h⟩ (fun v ρ w hx hd S => op_not rfl (S.dep 5 rfl (hd 5 rfl))) ?_
    refine ObL.cons trivial (fun v ρ w hx hd S => op_pick (p := Is (.bool false)) false rfl (S.dep 3 rfl (hd 3 rfl)) (S.dep 6 rfl (hd 6 rfl))) ?_
    refine ObL.cons trivial (fun v ρ w hx hd S => op_move (p := Is (.bool false)) (.inl rfl) (S.dep 7 rfl (hd 7 rfl))) ?_
    refine ObL.cons ⟨rfl, fun w u h => h⟩ (fun v ρ w hx hd S => op_loadV _ _ rfl _ Try.underlying26 rfl info_expr (S.out rfl ((VarP.st (Is.st _)) _ _ _ hx g7))) ?_
    refine ObL.cons ⟨rfl, fun w u h => h⟩ (fun v ρ w hx hd S => (op_few rfl S (show ExA e3 w (ρ (.tmp 39)) from ⟨_, (S.dep 9 rfl (hd 9 rfl)), he3.ext hx⟩)).mono fun u w1 hu => ⟨hu.1, hu.2.trans (congrArg Value.bool hc2)⟩) ?_
    refine ObL.cons ⟨rfl, fun w u h => h⟩ (fun v ρ w hx hd S => op_not rfl (S.dep 10 rfl (hd 10 rfl))) ?_
    refine ObL.cons trivial (fun v ρ w hx hd S => op_pick (p := Is (.bool false)) false rfl (S.dep 8 rfl (hd 8 rfl)) (S.dep 11 rfl (hd 11 rfl))) ?_
    refine ObL.cons trivial (fun v ρ w hx hd S => op_move (p := Is (.bool false)) (.inl rfl) (S.dep 12 rfl (hd 12 rfl))) ?_
    refine ObL.cons ⟨rfl, fun w u h => h⟩ (fun v ρ w hx hd S => op_loadV _ _ rfl _ Try.underlying26 rfl info_expr (S.out rfl ((VarP.st (Is.st _)) _ _ _ hx g5))) ?_
    refine ObL.cons ⟨rfl, fun w u h => h⟩ (fun v ρ w hx hd S => (op_formed (dn := 23) rfl (by decide) rfl S (show ExA e1 w (ρ (.tmp 44)) from ⟨_, (S.dep 14 rfl (hd 14 rfl)), he1.ext hx⟩)).mono fun u w1 hu => ⟨hu.1, hu.2.trans (congrArg Value.bool hc3)⟩) ?_
    refine ObL.cons ⟨rfl, fun w u h => h⟩ (fun v ρ w hx hd S => op_not rfl (S.dep 15 rfl (hd 15 rfl))) ?_
    refine ObL.cons trivial (fun v ρ w hx hd S => op_pick (p := Is (.bool false)) false rfl (S.dep 13 rfl (hd 13 rfl)) (S.dep 16 rfl (hd 16 rfl))) ?_
    refine ObL.cons trivial (fun v ρ w hx hd S => op_move (p := Is (.bool false)) (.inl rfl) (S.dep 17 rfl (hd 17 rfl))) ?_
    refine ObL.cons ⟨rfl, fun w u h => h⟩ (fun v ρ w hx hd S => op_loadV _ _ rfl _ Try.underlying26 rfl info_expr (S.out rfl ((VarP.st (Is.st _)) _ _ _ hx g6))) ?_
    refine ObL.cons ⟨rfl, fun w u h => h⟩ (fun v ρ w hx hd S => (op_formed (dn := 23) rfl (by decide) rfl S (show ExA e2 w (ρ (.tmp 49)) from ⟨_, (S.dep 19 rfl (hd 19 rfl)), he2.ext hx⟩)).mono fun u w1 hu => ⟨hu.1, hu.2.trans (congrArg Value.bool hc4)⟩) ?_
    refine ObL.cons ⟨rfl, fun w u h => h⟩ (fun v ρ w hx hd S => op_not rfl (S.dep 20 rfl (hd 20 rfl))) ?_
    refine ObL.cons trivial (fun v ρ w hx hd S => op_pick (p := Is (.bool false)) false rfl (S.dep 18 rfl (hd 18 rfl)) (S.dep 21 rfl (hd 21 rfl))) ?_
    refine ObL.cons trivial (fun v ρ w hx hd S => op_move (p := Is (.bool false)) (.inl rfl) (S.dep 22 rfl (hd 22 rfl))) ?_
    refine ObL.cons ⟨rfl, fun w u h => h⟩ (fun v ρ w hx hd S => op_loadV _ _ rfl _ Try.underlying26 rfl info_expr (S.out rfl ((VarP.st (Is.st _)) _ _ _ hx g7))) ?_
    refine ObL.cons ⟨rfl, fun w u h => h⟩ (fun v ρ w hx hd S => (op_formed (dn := 23) rfl (by decide) rfl S (show ExA e3 w (ρ (.tmp 54)) from ⟨_, (S.dep 24 rfl (hd 24 rfl)), he3.ext hx⟩)).mono fun u w1 hu => ⟨hu.1, hu.2.trans (congrArg Value.bool hc5)⟩) ?_
    refine ObL.cons ⟨rfl, fun w u h => h⟩ (fun v ρ w hx hd S => op_not rfl (S.dep 25 rfl (hd 25 rfl))) ?_
    refine ObL.cons trivial (fun v ρ w hx hd S => op_pick (p := Is (.bool false)) false rfl (S.dep 23 rfl (hd 23 rfl)) (S.dep 26 rfl (hd 26 rfl))) ?_
    exact ObL.nil
  · intro v a1 w hx hPP S hs hdf
    refine wpList_nil ?_
    exact hQ a1 w hx S.o hs hdf (S.dep 27 rfl (hPP 27 (by decide)))

noncomputable def ldC5 : Code := ((Try.f7.body.bind (regionOf 5)).getD .skip)
def ld5E : List (Option Tmp) := [some 58, some 59, some 60, some 61]
def ld5D : List (Option Tmp) := ld5E ++ [some 11]
def ld5P (x : Ev) (n : Int) (c1 c2 c3 : List Value) (e1 e2 e3 : Ex)  : List (World → Value → Prop) := [(Is (.int .i64 n)), (Is (.int .u64 ((n % 18446744073709551616)))), (Is (.int .u64 (((n % 18446744073709551616) % 1073741824)))), (Is (.int .i64 ((kF n))))]
set_option maxHeartbeats 2000000 in
set_option maxRecDepth 100000 in
theorem ld5 (x : Ev) (hok : x.ok) (n : Int) (c1 c2 c3 : List Value) (e1 e2 e3 : Ex) (hl1 : c1.length = 7) (hl2 : c2.length = 7) (hl3 : c3.length = 7)  (Q : Exit → Act → World → Prop) (a0 : Act) (W : World) (hsz : a0.tmps.size = 180)  (g4 : (Is (.int .i64 n)) W (a0.eval (.tmp 4)))
    (hQ : ∀ a1 W1, Ext W W1 → (∀ t, ld5D.contains (some t) = false → a1.eval (.tmp t) = a0.eval (.tmp t)) → a1.tmps.size = 180 → a1.defers = a0.defers → (Is (.int .i64 ((kF n)))) W1 (a1.eval (.tmp 11)) → Q .normal a1 W1) : ldC5.wp Try.prog Q a0 W := by
  conv => arg 2; whnf
  refine wp_region_sq 4 ld5E (ld5P x n c1 c2 c3 e1 e2 e3 ) 180 (by kernel_rfl) hsz ?_ ?_ ?_
  · exact AllSt.cons (Is.st _) (AllSt.cons (Is.st _) (AllSt.cons (Is.st _) (AllSt.cons (Is.st _) (AllSt.nil))))
  · simp only [List.take_succ_cons, List.take_zero]
    refine ObL.cons trivial (fun v ρ w hx hd S => op_move (p := Is (.int .i64 n)) (.inl rfl) (S.out rfl ((Is.st _) _ _ _ hx g4))) ?_
    refine ObL.cons trivial (fun v ρ w hx hd S => op_u64 rfl (S.dep 0 rfl (hd 0 rfl))) ?_
    refine ObL.cons trivial (fun v ρ w hx hd S => op_rem (by omega) rfl S (S.dep 1 rfl (hd 1 rfl))) ?_
    refine ObL.cons trivial (fun v ρ w hx hd S => op_i64 (by have := kF_bd n; unfold kF at this; exact this) rfl (S.dep 2 rfl (hd 2 rfl))) ?_
    exact ObL.nil
  · intro v a1 w hx hPP S hs hdf
    refine wpList_plain rfl fun K hK => ?_
    refine OpPost.wp (op_move (p := Is (.int .i64 ((kF n)))) (.inr rfl) (S.dep 3 rfl (hPP 3 (by decide)))) fun u w1 hu => ?_
    refine hK _ _ (wpList_nil ?_)
    exact hQ (a1.put (some 11) u) w1 (hx.trans hu.1) (put_others S) (put_size.trans hs) ((by rfl : _ = a1.defers).trans hdf) (by rw [put_same (by rw [hs]; decide)]; exact hu.2)

noncomputable def ldC6 : Code := ((Try.f7.body.bind (regionOf 6)).getD .skip)
def ld6D : List (Option Tmp) := [some 62, some 63, some 64, some 12]
def ld6P (x : Ev) (n : Int) (c1 c2 c3 : List Value) (e1 e2 e3 : Ex)  (B : Nat) : List (World → Value → Prop) := [(Is (.agg (leafCells 1 1).toArray)), (Is (.agg (leafCells 1 0).toArray)), (WithRow (fun s => .agg #[.int .i64 8, .int .i64 0, .int .i64 0, .int .i64 0, .int .i64 0, .int .i64 0, s]) 2 ((leafCells 1 1) ++ (leafCells 1 0))), (FreshV B zero7 26)]
set_option maxHeartbeats 2000000 in
set_option maxRecDepth 100000 in
theorem ld6 (x : Ev) (hok : x.ok) (n : Int) (c1 c2 c3 : List Value) (e1 e2 e3 : Ex) (hl1 : c1.length = 7) (hl2 : c2.length = 7) (hl3 : c3.length = 7)  (Q : Exit → Act → World → Prop) (a0 : Act) (W : World) (hsz : a0.tmps.size = 180)  
    (hQ : ∀ a1 W1, Ext W W1 → (∀ t, ld6D.contains (some t) = false → a1.eval (.tmp t) = a0.eval (.tmp t)) → a1.tmps.size = 180 → a1.defers = a0.defers → ∀ cf : List Value, cf.length = 7 → ExR W1 cf failsE → VarP 7 (Is (.agg cf.toArray)) W1 (a1.eval (.tmp 12)) → Q .normal a1 W1) : ldC6.wp Try.prog Q a0 W := by
  conv => arg 2; whnf
  refine wp_region_sq 4 ld6D (ld6P x n c1 c2 c3 e1 e2 e3  W.heap.size) 180 (by kernel_rfl) hsz ?_ ?_ ?_
  · exact AllSt.cons (Is.st _) (AllSt.cons (Is.st _) (AllSt.cons WithRow.st (AllSt.cons FreshV.st (AllSt.nil))))
  · simp only [List.take_succ_cons, List.take_zero]
    refine ObL.cons trivial (fun v ρ w hx hd S => op_integerV rfl S (S.c _)) ?_
    refine ObL.cons trivial (fun v ρ w hx hd S => op_integerV rfl S (S.c _)) ?_
    refine ObL.cons trivial (fun v ρ w hx hd S => op_pairRow 8 (ca := (leafCells 1 1)) (cb := (leafCells 1 0)) rfl rfl rfl S (S.dep 0 rfl (hd 0 rfl)) (S.dep 1 rfl (hd 1 rfl))) ?_
    refine ObL.cons trivial (fun v ρ w hx hd S => op_allocEx rfl hx) ?_
    exact ObL.nil
  · intro v a1 w hx hPP S hs hdf
    refine wpList_plain rfl fun K hK => ?_
    obtain ⟨X, ex, hX, hX2, hX3⟩ : FreshV W.heap.size _ _ w _ := S.dep 3 rfl (hPP 3 (by decide))
    obtain ⟨R, er, hR, hR2⟩ : (WithRow (fun s => .agg #[.int .i64 8, .int .i64 0, .int .i64 0, .int .i64 0, .int .i64 0, .int .i64 0, s]) 2 ((leafCells 1 1) ++ (leafCells 1 0))) w _ := S.dep 2 rfl (hPP 2 (by decide))
    have hRX : R ≠ X := apart_of (k := 0) (hR2 0 _ rfl) (by simp [World.cell?, hX3, zero7, leafCells])
    refine wp_store_var (W := W) (w := w) (X := X) _ _ _ rfl ex er hX hX3 rfl info_expr rfl hx ?_
    intro w1 hxx hr3 hap hsz1
    exact hK _ _ <| wpList_nil <| hQ a1 w1 hxx S.o hs hdf _ rfl (fails_in (by omega) (hap _ _ _ hRX hR2)) ⟨X, _, ex, rfl, hr3, rfl⟩

noncomputable def ldC7 : Code := ((Try.f7.body.bind (regionOf 7)).getD .skip)
def ld7D : List (Option Tmp) := [some 65, some 66, some 67, some 68, some 69, some 70, some 71, some 72, some 73, some 13]
def ld7P (x : Ev) (n : Int) (c1 c2 c3 : List Value) (e1 e2 e3 : Ex) (cf : List Value) (hlf : cf.length = 7) (B : Nat) : List (World → Value → Prop) := [(Is (.int .i64 ((kF n)))), (Is (.agg (leafCells 1 ((kF n))).toArray)), (Is (.int .i64 ((kF n)))), (Is (.int .i64 (((kF n) + 1)))), (Is (.agg (leafCells 1 (((kF n) + 1))).toArray)), (Is (.agg c1.toArray)), (Is (.agg cf.toArray)), (WithRow (fun s => s) 4 ((leafCells 1 ((kF n))) ++ (leafCells 1 (((kF n) + 1))) ++ c1 ++ cf)), (WithRow (fun s => .agg #[.int .i64 11, .int .i64 0, .int .i64 0, .int .i64 0, .int .i64 0, .int .i64 0, s]) 4 ((leafCells 1 ((kF n))) ++ (leafCells 1 (((kF n) + 1))) ++ c1 ++ cf)), (FreshV B zero7 26)]
set_option maxHeartbeats 2000000 in
set_option maxRecDepth 100000 in
theorem ld7 (x : Ev) (hok : x.ok) (n : Int) (c1 c2 c3 : List Value) (e1 e2 e3 : Ex) (hl1 : c1.length = 7) (hl2 : c2.length = 7) (hl3 : c3.length = 7) (cf : List Value) (hlf : cf.length = 7) (Q : Exit → Act → World → Prop) (a0 : Act) (W : World) (hsz : a0.tmps.size = 180) (he1 : ExR W c1 e1) (he2 : ExR W c2 e2) (he3 : ExR W c3 e3) (hef : ExR W cf failsE) (g5 : (VarP 7 (Is (.agg c1.toArray))) W (a0.eval (.tmp 5))) (g11 : (Is (.int .i64 ((kF n)))) W (a0.eval (.tmp 11))) (g12 : (VarP 7 (Is (.agg cf.toArray))) W (a0.eval (.tmp 12)))
    (hQ : ∀ a1 W1, Ext W W1 → (∀ t, ld7D.contains (some t) = false → a1.eval (.tmp t) = a0.eval (.tmp t)) → a1.tmps.size = 180 → a1.defers = a0.defers → VarP 7 (ExA (quad (leaf 1 (kF n)) (leaf 1 (kF n + 1)) e1 failsE)) W1 (a1.eval (.tmp 13)) → Q .normal a1 W1) : ldC7.wp Try.prog Q a0 W := by
  conv => arg 2; whnf
  refine wp_region_st 10 ld7D (ld7P x n c1 c2 c3 e1 e2 e3 cf hlf W.heap.size) 180 (by kernel_rfl) (by kernel_rfl) hsz ?_ ?_ ?_
  · exact AllSt.cons (Is.st _) (AllSt.cons (Is.st _) (AllSt.cons (Is.st _) (AllSt.cons (Is.st _) (AllSt.cons (Is.st _) (AllSt.cons (Is.st _) (AllSt.cons (Is.st _) (AllSt.cons WithRow.st (AllSt.cons WithRow.st (AllSt.cons FreshV.st (AllSt.nil))))))))))
  · simp only [List.take_succ_cons, List.take_zero]
    refine ObL.cons trivial (fun v ρ w hx hd S => op_move (p := Is (.int .i64 ((kF n)))) (.inl rfl) (S.out rfl ((Is.st _) _ _ _ hx g11))) ?_
    refine ObL.cons trivial (fun v ρ w hx hd S => op_integerV rfl S (S.dep 0 rfl (hd 0 rfl))) ?_
    refine ObL.cons trivial (fun v ρ w hx hd S => op_move (p := Is (.int .i64 ((kF n)))) (.inl rfl) (S.out rfl ((Is.st _) _ _ _ hx g11))) ?_
    refine ObL.cons trivial (fun v ρ w hx hd S => op_add rfl (S.dep 2 rfl (hd 2 rfl)) (S.c _) (by have := kF_bd n; constructor <;> omega)) ?_
    refine ObL.cons trivial (fun v ρ w hx hd S => op_integerV rfl S (S.dep 3 rfl (hd 3 rfl))) ?_
    refine ObL.cons trivial (fun v ρ w hx hd S => op_loadV _ _ rfl _ Try.underlying26 rfl info_expr (S.out rfl ((VarP.st (Is.st _)) _ _ _ hx g5))) ?_
    refine ObL.cons trivial (fun v ρ w hx hd S => op_loadV _ _ rfl _ Try.underlying26 rfl info_expr (S.out rfl ((VarP.st (Is.st _)) _ _ _ hx g12))) ?_
    refine ObL.cons trivial (fun v ρ w hx hd S => op_row4 (c0 := (leafCells 1 ((kF n)))) (c1 := (leafCells 1 (((kF n) + 1)))) (c2 := c1) (c3 := cf) rfl rfl rfl hl1 hlf (S.dep 1 rfl (hd 1 rfl)) (S.dep 4 rfl (hd 4 rfl)) (S.dep 5 rfl (hd 5 rfl)) (S.dep 6 rfl (hd 6 rfl))) ?_
    refine ObL.cons trivial (fun v ρ w hx hd S => op_quad rfl S (show (WithRow (fun s => s) 4 ((leafCells 1 ((kF n))) ++ (leafCells 1 (((kF n) + 1))) ++ c1 ++ cf)) w (ρ (.tmp 72)) from (S.dep 7 rfl (hd 7 rfl)))) ?_
    refine ObL.cons trivial (fun v ρ w hx hd S => op_allocEx rfl hx) ?_
    exact ObL.nil
  · intro v a1 w hx hPP S hs hdf
    refine stable_last (o := _) rfl (by kernel_rfl) (by kernel_rfl) rfl rfl ?_
    obtain ⟨X, ex, hX, hX2, hX3⟩ : FreshV W.heap.size _ _ w _ := S.dep 9 rfl (hPP 9 (by decide))
    obtain ⟨R, er, hR, hR2⟩ : (WithRow (fun s => .agg #[.int .i64 11, .int .i64 0, .int .i64 0, .int .i64 0, .int .i64 0, .int .i64 0, s]) 4 ((leafCells 1 ((kF n))) ++ (leafCells 1 (((kF n) + 1))) ++ c1 ++ cf)) w _ := S.dep 8 rfl (hPP 8 (by decide))
    have hRX : R ≠ X := apart_of (k := 0) (by have := hR2 0 (.int .i64 1) rfl; rwa [Nat.zero_add] at this) (by simp [World.cell?, hX3, zero7, leafCells])
    refine wp_store_var (W := W) (w := w) (X := X) _ _ _ rfl ex er hX hX3 rfl info_expr rfl hx ?_
    intro w1 hxx hr3 hap hsz1
    exact hQ a1 w1 hxx S.o hs hdf ⟨X, _, ex, rfl, hr3, _, rfl, quad_in (leafR (by constructor <;> decide) (by have := kF_bd n; constructor <;> omega)) (leafR (by constructor <;> decide) (by have := kF_bd n; constructor <;> omega)) (he1.ext hxx) (hef.ext hxx) (by omega) (hap _ _ _ hRX hR2)⟩

noncomputable def ldC8 : Code := ((Try.f7.body.bind (regionOf 8)).getD .skip)
def ld8D : List (Option Tmp) := [some 74, some 75, some 76, some 77, some 78, some 79, some 80, some 81, some 14]
def ld8P (x : Ev) (n : Int) (c1 c2 c3 : List Value) (e1 e2 e3 : Ex) (cf : List Value) (hlf : cf.length = 7) (B : Nat) : List (World → Value → Prop) := [(Is (.int .i64 ((kF n)))), (Is (.agg (leafCells 1 ((kF n))).toArray)), (Is (.int .i64 ((kF n)))), (Is (.agg (leafCells 1 ((kF n))).toArray)), (Is (.agg cf.toArray)), (Is (.agg c1.toArray)), (WithRow (fun s => s) 4 ((leafCells 1 ((kF n))) ++ (leafCells 1 ((kF n))) ++ cf ++ c1)), (WithRow (fun s => .agg #[.int .i64 11, .int .i64 0, .int .i64 0, .int .i64 0, .int .i64 0, .int .i64 0, s]) 4 ((leafCells 1 ((kF n))) ++ (leafCells 1 ((kF n))) ++ cf ++ c1)), (FreshV B zero7 26)]
set_option maxHeartbeats 2000000 in
set_option maxRecDepth 100000 in
theorem ld8 (x : Ev) (hok : x.ok) (n : Int) (c1 c2 c3 : List Value) (e1 e2 e3 : Ex) (hl1 : c1.length = 7) (hl2 : c2.length = 7) (hl3 : c3.length = 7) (cf : List Value) (hlf : cf.length = 7) (Q : Exit → Act → World → Prop) (a0 : Act) (W : World) (hsz : a0.tmps.size = 180) (he1 : ExR W c1 e1) (he2 : ExR W c2 e2) (he3 : ExR W c3 e3) (hef : ExR W cf failsE) (g5 : (VarP 7 (Is (.agg c1.toArray))) W (a0.eval (.tmp 5))) (g11 : (Is (.int .i64 ((kF n)))) W (a0.eval (.tmp 11))) (g12 : (VarP 7 (Is (.agg cf.toArray))) W (a0.eval (.tmp 12)))
    (hQ : ∀ a1 W1, Ext W W1 → (∀ t, ld8D.contains (some t) = false → a1.eval (.tmp t) = a0.eval (.tmp t)) → a1.tmps.size = 180 → a1.defers = a0.defers → VarP 7 (ExA (quad (leaf 1 (kF n)) (leaf 1 (kF n)) failsE e1)) W1 (a1.eval (.tmp 14)) → Q .normal a1 W1) : ldC8.wp Try.prog Q a0 W := by
  conv => arg 2; whnf
  refine wp_region_st 9 ld8D (ld8P x n c1 c2 c3 e1 e2 e3 cf hlf W.heap.size) 180 (by kernel_rfl) (by kernel_rfl) hsz ?_ ?_ ?_
  · exact AllSt.cons (Is.st _) (AllSt.cons (Is.st _) (AllSt.cons (Is.st _) (AllSt.cons (Is.st _) (AllSt.cons (Is.st _) (AllSt.cons (Is.st _) (AllSt.cons WithRow.st (AllSt.cons WithRow.st (AllSt.cons FreshV.st (AllSt.nil)))))))))
  · simp only [List.take_succ_cons, List.take_zero]
    refine ObL.cons trivial (fun v ρ w hx hd S => op_move (p := Is (.int .i64 ((kF n)))) (.inl rfl) (S.out rfl ((Is.st _) _ _ _ hx g11))) ?_
    refine ObL.cons trivial (fun v ρ w hx hd S => op_integerV rfl S (S.dep 0 rfl (hd 0 rfl))) ?_
    refine ObL.cons trivial (fun v ρ w hx hd S => op_move (p := Is (.int .i64 ((kF n)))) (.inl rfl) (S.out rfl ((Is.st _) _ _ _ hx g11))) ?_
    refine ObL.cons trivial (fun v ρ w hx hd S => op_integerV rfl S (S.dep 2 rfl (hd 2 rfl))) ?_
    refine ObL.cons trivial (fun v ρ w hx hd S => op_loadV _ _ rfl _ Try.underlying26 rfl info_expr (S.out rfl ((VarP.st (Is.st _)) _ _ _ hx g12))) ?_
    refine ObL.cons trivial (fun v ρ w hx hd S => op_loadV _ _ rfl _ Try.underlying26 rfl info_expr (S.out rfl ((VarP.st (Is.st _)) _ _ _ hx g5))) ?_
    refine ObL.cons trivial (fun v ρ w hx hd S => op_row4 (c0 := (leafCells 1 ((kF n)))) (c1 := (leafCells 1 ((kF n)))) (c2 := cf) (c3 := c1) rfl rfl rfl hlf hl1 (S.dep 1 rfl (hd 1 rfl)) (S.dep 3 rfl (hd 3 rfl)) (S.dep 4 rfl (hd 4 rfl)) (S.dep 5 rfl (hd 5 rfl))) ?_
    refine ObL.cons trivial (fun v ρ w hx hd S => op_quad rfl S (show (WithRow (fun s => s) 4 ((leafCells 1 ((kF n))) ++ (leafCells 1 ((kF n))) ++ cf ++ c1)) w (ρ (.tmp 80)) from (S.dep 6 rfl (hd 6 rfl)))) ?_
    refine ObL.cons trivial (fun v ρ w hx hd S => op_allocEx rfl hx) ?_
    exact ObL.nil
  · intro v a1 w hx hPP S hs hdf
    refine stable_last (o := _) rfl (by kernel_rfl) (by kernel_rfl) rfl rfl ?_
    obtain ⟨X, ex, hX, hX2, hX3⟩ : FreshV W.heap.size _ _ w _ := S.dep 8 rfl (hPP 8 (by decide))
    obtain ⟨R, er, hR, hR2⟩ : (WithRow (fun s => .agg #[.int .i64 11, .int .i64 0, .int .i64 0, .int .i64 0, .int .i64 0, .int .i64 0, s]) 4 ((leafCells 1 ((kF n))) ++ (leafCells 1 ((kF n))) ++ cf ++ c1)) w _ := S.dep 7 rfl (hPP 7 (by decide))
    have hRX : R ≠ X := apart_of (k := 0) (by have := hR2 0 (.int .i64 1) rfl; rwa [Nat.zero_add] at this) (by simp [World.cell?, hX3, zero7, leafCells])
    refine wp_store_var (W := W) (w := w) (X := X) _ _ _ rfl ex er hX hX3 rfl info_expr rfl hx ?_
    intro w1 hxx hr3 hap hsz1
    exact hQ a1 w1 hxx S.o hs hdf ⟨X, _, ex, rfl, hr3, _, rfl, quad_in (leafR (by constructor <;> decide) (by have := kF_bd n; constructor <;> omega)) (leafR (by constructor <;> decide) (by have := kF_bd n; constructor <;> omega)) (hef.ext hxx) (he1.ext hxx) (by omega) (hap _ _ _ hRX hR2)⟩

noncomputable def ldC9 : Code := ((Try.f7.body.bind (regionOf 9)).getD .skip)
def ld9D : List (Option Tmp) := [some 83, some 84, some 85, some 82, some 86, some 87, some 15, some 16]
def ld9P (x : Ev) (n : Int) (c1 c2 c3 : List Value) (e1 e2 e3 : Ex)  : List (World → Value → Prop) := [(Is (.agg c1.toArray)), (Is (.agg x.cells.toArray)), (Is (.tuple #[.int .i64 ((EvalF e1 x).1), .int .i64 ((EvalF e1 x).2)])), (Is (.tuple #[.int .i64 ((EvalF e1 x).1), .int .i64 ((EvalF e1 x).2)])), (Is (.int .i64 ((EvalF e1 x).1))), (Is (.int .i64 ((EvalF e1 x).2))), (Is (.int .i64 ((EvalF e1 x).1))), (Is (.int .i64 ((EvalF e1 x).2)))]
set_option maxHeartbeats 2000000 in
set_option maxRecDepth 100000 in
theorem ld9 (x : Ev) (hok : x.ok) (n : Int) (c1 c2 c3 : List Value) (e1 e2 e3 : Ex) (hl1 : c1.length = 7) (hl2 : c2.length = 7) (hl3 : c3.length = 7)  (Q : Exit → Act → World → Prop) (a0 : Act) (W : World) (hsz : a0.tmps.size = 180) (he1 : ExR W c1 e1) (he2 : ExR W c2 e2) (he3 : ExR W c3 e3) (g5 : (VarP 7 (Is (.agg c1.toArray))) W (a0.eval (.tmp 5))) (g8 : (VarP 17 (Is (.agg x.cells.toArray))) W (a0.eval (.tmp 8)))
    (hQ : ∀ a1 W1, Ext W W1 → (∀ t, ld9D.contains (some t) = false → a1.eval (.tmp t) = a0.eval (.tmp t)) → a1.tmps.size = 180 → a1.defers = a0.defers → (Is (.int .i64 ((EvalF e1 x).1))) W1 (a1.eval (.tmp 15)) → (Is (.int .i64 ((EvalF e1 x).2))) W1 (a1.eval (.tmp 16)) → Q .normal a1 W1) : ldC9.wp Try.prog Q a0 W := by
  conv => arg 2; whnf
  refine wp_region_sq 8 ld9D (ld9P x n c1 c2 c3 e1 e2 e3 ) 180 (by kernel_rfl) hsz ?_ ?_ ?_
  · exact AllSt.cons (Is.st _) (AllSt.cons (Is.st _) (AllSt.cons (Is.st _) (AllSt.cons (Is.st _) (AllSt.cons (Is.st _) (AllSt.cons (Is.st _) (AllSt.cons (Is.st _) (AllSt.cons (Is.st _) (AllSt.nil))))))))
  · simp only [List.take_succ_cons, List.take_zero]
    refine ObL.cons trivial (fun v ρ w hx hd S => op_loadV _ _ rfl _ Try.underlying26 rfl info_expr (S.out rfl ((VarP.st (Is.st _)) _ _ _ hx g5))) ?_
    refine ObL.cons trivial (fun v ρ w hx hd S => op_loadV _ _ rfl _ Try.underlying29 rfl info_env (S.out rfl ((VarP.st (Is.st _)) _ _ _ hx g8))) ?_
    refine ObL.cons trivial (fun v ρ w hx hd S => op_evalT x hok rfl S (show ExA e1 w (ρ (.tmp 83)) from ⟨_, (S.dep 0 rfl (hd 0 rfl)), he1.ext hx⟩) (S.dep 1 rfl (hd 1 rfl))) ?_
    refine ObL.cons trivial (fun v ρ w hx hd S => op_move (p := Is (.tuple #[.int .i64 ((EvalF e1 x).1), .int .i64 ((EvalF e1 x).2)])) (.inl rfl) (S.dep 2 rfl (hd 2 rfl))) ?_
    refine ObL.cons trivial (fun v ρ w hx hd S => op_extract rfl (S.dep 3 rfl (hd 3 rfl)) rfl) ?_
    refine ObL.cons trivial (fun v ρ w hx hd S => op_extract rfl (S.dep 3 rfl (hd 3 rfl)) rfl) ?_
    refine ObL.cons trivial (fun v ρ w hx hd S => op_move (p := Is (.int .i64 ((EvalF e1 x).1))) (.inr rfl) (S.dep 4 rfl (hd 4 rfl))) ?_
    refine ObL.cons trivial (fun v ρ w hx hd S => op_move (p := Is (.int .i64 ((EvalF e1 x).2))) (.inr rfl) (S.dep 5 rfl (hd 5 rfl))) ?_
    exact ObL.nil
  · intro v a1 w hx hPP S hs hdf
    refine wpList_nil ?_
    exact hQ a1 w hx S.o hs hdf (S.dep 6 rfl (hPP 6 (by decide))) (S.dep 7 rfl (hPP 7 (by decide)))

noncomputable def ldC10 : Code := ((Try.f7.body.bind (regionOf 10)).getD .skip)
def ld10D : List (Option Tmp) := [some 89, some 90, some 91, some 88, some 92, some 93, some 17, some 18]
def ld10P (x : Ev) (n : Int) (c1 c2 c3 : List Value) (e1 e2 e3 : Ex)  : List (World → Value → Prop) := [(ExA (quad (leaf 1 (kF n)) (leaf 1 (kF n + 1)) e1 failsE)), (Is (.agg x.cells.toArray)), (Is (.tuple #[.int .i64 ((EvalF (quad (leaf 1 (kF n)) (leaf 1 (kF n + 1)) e1 failsE) x).1), .int .i64 ((EvalF (quad (leaf 1 (kF n)) (leaf 1 (kF n + 1)) e1 failsE) x).2)])), (Is (.tuple #[.int .i64 ((EvalF (quad (leaf 1 (kF n)) (leaf 1 (kF n + 1)) e1 failsE) x).1), .int .i64 ((EvalF (quad (leaf 1 (kF n)) (leaf 1 (kF n + 1)) e1 failsE) x).2)])), (Is (.int .i64 ((EvalF (quad (leaf 1 (kF n)) (leaf 1 (kF n + 1)) e1 failsE) x).1))), (Is (.int .i64 ((EvalF (quad (leaf 1 (kF n)) (leaf 1 (kF n + 1)) e1 failsE) x).2))), (Is (.int .i64 ((EvalF (quad (leaf 1 (kF n)) (leaf 1 (kF n + 1)) e1 failsE) x).1))), (Is (.int .i64 ((EvalF (quad (leaf 1 (kF n)) (leaf 1 (kF n + 1)) e1 failsE) x).2)))]
set_option maxHeartbeats 2000000 in
set_option maxRecDepth 100000 in
theorem ld10 (x : Ev) (hok : x.ok) (n : Int) (c1 c2 c3 : List Value) (e1 e2 e3 : Ex) (hl1 : c1.length = 7) (hl2 : c2.length = 7) (hl3 : c3.length = 7)  (Q : Exit → Act → World → Prop) (a0 : Act) (W : World) (hsz : a0.tmps.size = 180)  (g8 : (VarP 17 (Is (.agg x.cells.toArray))) W (a0.eval (.tmp 8))) (g13 : (VarP 7 (ExA (quad (leaf 1 (kF n)) (leaf 1 (kF n + 1)) e1 failsE))) W (a0.eval (.tmp 13)))
    (hQ : ∀ a1 W1, Ext W W1 → (∀ t, ld10D.contains (some t) = false → a1.eval (.tmp t) = a0.eval (.tmp t)) → a1.tmps.size = 180 → a1.defers = a0.defers → (Is (.int .i64 ((EvalF (quad (leaf 1 (kF n)) (leaf 1 (kF n + 1)) e1 failsE) x).1))) W1 (a1.eval (.tmp 17)) → (Is (.int .i64 ((EvalF (quad (leaf 1 (kF n)) (leaf 1 (kF n + 1)) e1 failsE) x).2))) W1 (a1.eval (.tmp 18)) → Q .normal a1 W1) : ldC10.wp Try.prog Q a0 W := by
  conv => arg 2; whnf
  refine wp_region_sq 8 ld10D (ld10P x n c1 c2 c3 e1 e2 e3 ) 180 (by kernel_rfl) hsz ?_ ?_ ?_
  · exact AllSt.cons ExA.st (AllSt.cons (Is.st _) (AllSt.cons (Is.st _) (AllSt.cons (Is.st _) (AllSt.cons (Is.st _) (AllSt.cons (Is.st _) (AllSt.cons (Is.st _) (AllSt.cons (Is.st _) (AllSt.nil))))))))
  · simp only [List.take_succ_cons, List.take_zero]
    refine ObL.cons trivial (fun v ρ w hx hd S => op_loadV _ _ rfl _ Try.underlying26 rfl info_expr (S.out rfl ((VarP.st ExA.st) _ _ _ hx g13))) ?_
    refine ObL.cons trivial (fun v ρ w hx hd S => op_loadV _ _ rfl _ Try.underlying29 rfl info_env (S.out rfl ((VarP.st (Is.st _)) _ _ _ hx g8))) ?_
    refine ObL.cons trivial (fun v ρ w hx hd S => op_evalT x hok rfl S (S.dep 0 rfl (hd 0 rfl)) (S.dep 1 rfl (hd 1 rfl))) ?_
    refine ObL.cons trivial (fun v ρ w hx hd S => op_move (p := Is (.tuple #[.int .i64 ((EvalF (quad (leaf 1 (kF n)) (leaf 1 (kF n + 1)) e1 failsE) x).1), .int .i64 ((EvalF (quad (leaf 1 (kF n)) (leaf 1 (kF n + 1)) e1 failsE) x).2)])) (.inl rfl) (S.dep 2 rfl (hd 2 rfl))) ?_
    refine ObL.cons trivial (fun v ρ w hx hd S => op_extract rfl (S.dep 3 rfl (hd 3 rfl)) rfl) ?_
    refine ObL.cons trivial (fun v ρ w hx hd S => op_extract rfl (S.dep 3 rfl (hd 3 rfl)) rfl) ?_
    refine ObL.cons trivial (fun v ρ w hx hd S => op_move (p := Is (.int .i64 ((EvalF (quad (leaf 1 (kF n)) (leaf 1 (kF n + 1)) e1 failsE) x).1))) (.inr rfl) (S.dep 4 rfl (hd 4 rfl))) ?_
    refine ObL.cons trivial (fun v ρ w hx hd S => op_move (p := Is (.int .i64 ((EvalF (quad (leaf 1 (kF n)) (leaf 1 (kF n + 1)) e1 failsE) x).2))) (.inr rfl) (S.dep 5 rfl (hd 5 rfl))) ?_
    exact ObL.nil
  · intro v a1 w hx hPP S hs hdf
    refine wpList_nil ?_
    exact hQ a1 w hx S.o hs hdf (S.dep 6 rfl (hPP 6 (by decide))) (S.dep 7 rfl (hPP 7 (by decide)))

noncomputable def ldC11 : Code := ((Try.f7.body.bind (regionOf 11)).getD .skip)
def ld11D : List (Option Tmp) := [some 95, some 96, some 97, some 94, some 98, some 99, some 19, some 20]
def ld11P (x : Ev) (n : Int) (c1 c2 c3 : List Value) (e1 e2 e3 : Ex)  : List (World → Value → Prop) := [(ExA (quad (leaf 1 (kF n)) (leaf 1 (kF n)) failsE e1)), (Is (.agg x.cells.toArray)), (Is (.tuple #[.int .i64 ((EvalF (quad (leaf 1 (kF n)) (leaf 1 (kF n)) failsE e1) x).1), .int .i64 ((EvalF (quad (leaf 1 (kF n)) (leaf 1 (kF n)) failsE e1) x).2)])), (Is (.tuple #[.int .i64 ((EvalF (quad (leaf 1 (kF n)) (leaf 1 (kF n)) failsE e1) x).1), .int .i64 ((EvalF (quad (leaf 1 (kF n)) (leaf 1 (kF n)) failsE e1) x).2)])), (Is (.int .i64 ((EvalF (quad (leaf 1 (kF n)) (leaf 1 (kF n)) failsE e1) x).1))), (Is (.int .i64 ((EvalF (quad (leaf 1 (kF n)) (leaf 1 (kF n)) failsE e1) x).2))), (Is (.int .i64 ((EvalF (quad (leaf 1 (kF n)) (leaf 1 (kF n)) failsE e1) x).1))), (Is (.int .i64 ((EvalF (quad (leaf 1 (kF n)) (leaf 1 (kF n)) failsE e1) x).2)))]
set_option maxHeartbeats 2000000 in
set_option maxRecDepth 100000 in
theorem ld11 (x : Ev) (hok : x.ok) (n : Int) (c1 c2 c3 : List Value) (e1 e2 e3 : Ex) (hl1 : c1.length = 7) (hl2 : c2.length = 7) (hl3 : c3.length = 7)  (Q : Exit → Act → World → Prop) (a0 : Act) (W : World) (hsz : a0.tmps.size = 180)  (g8 : (VarP 17 (Is (.agg x.cells.toArray))) W (a0.eval (.tmp 8))) (g14 : (VarP 7 (ExA (quad (leaf 1 (kF n)) (leaf 1 (kF n)) failsE e1))) W (a0.eval (.tmp 14)))
    (hQ : ∀ a1 W1, Ext W W1 → (∀ t, ld11D.contains (some t) = false → a1.eval (.tmp t) = a0.eval (.tmp t)) → a1.tmps.size = 180 → a1.defers = a0.defers → (Is (.int .i64 ((EvalF (quad (leaf 1 (kF n)) (leaf 1 (kF n)) failsE e1) x).1))) W1 (a1.eval (.tmp 19)) → (Is (.int .i64 ((EvalF (quad (leaf 1 (kF n)) (leaf 1 (kF n)) failsE e1) x).2))) W1 (a1.eval (.tmp 20)) → Q .normal a1 W1) : ldC11.wp Try.prog Q a0 W := by
  conv => arg 2; whnf
  refine wp_region_sq 8 ld11D (ld11P x n c1 c2 c3 e1 e2 e3 ) 180 (by kernel_rfl) hsz ?_ ?_ ?_
  · exact AllSt.cons ExA.st (AllSt.cons (Is.st _) (AllSt.cons (Is.st _) (AllSt.cons (Is.st _) (AllSt.cons (Is.st _) (AllSt.cons (Is.st _) (AllSt.cons (Is.st _) (AllSt.cons (Is.st _) (AllSt.nil))))))))
  · simp only [List.take_succ_cons, List.take_zero]
    refine ObL.cons trivial (fun v ρ w hx hd S => op_loadV _ _ rfl _ Try.underlying26 rfl info_expr (S.out rfl ((VarP.st ExA.st) _ _ _ hx g14))) ?_
    refine ObL.cons trivial (fun v ρ w hx hd S => op_loadV _ _ rfl _ Try.underlying29 rfl info_env (S.out rfl ((VarP.st (Is.st _)) _ _ _ hx g8))) ?_
    refine ObL.cons trivial (fun v ρ w hx hd S => op_evalT x hok rfl S (S.dep 0 rfl (hd 0 rfl)) (S.dep 1 rfl (hd 1 rfl))) ?_
    refine ObL.cons trivial (fun v ρ w hx hd S => op_move (p := Is (.tuple #[.int .i64 ((EvalF (quad (leaf 1 (kF n)) (leaf 1 (kF n)) failsE e1) x).1), .int .i64 ((EvalF (quad (leaf 1 (kF n)) (leaf 1 (kF n)) failsE e1) x).2)])) (.inl rfl) (S.dep 2 rfl (hd 2 rfl))) ?_
    refine ObL.cons trivial (fun v ρ w hx hd S => op_extract rfl (S.dep 3 rfl (hd 3 rfl)) rfl) ?_
    refine ObL.cons trivial (fun v ρ w hx hd S => op_extract rfl (S.dep 3 rfl (hd 3 rfl)) rfl) ?_
    refine ObL.cons trivial (fun v ρ w hx hd S => op_move (p := Is (.int .i64 ((EvalF (quad (leaf 1 (kF n)) (leaf 1 (kF n)) failsE e1) x).1))) (.inr rfl) (S.dep 4 rfl (hd 4 rfl))) ?_
    refine ObL.cons trivial (fun v ρ w hx hd S => op_move (p := Is (.int .i64 ((EvalF (quad (leaf 1 (kF n)) (leaf 1 (kF n)) failsE e1) x).2))) (.inr rfl) (S.dep 5 rfl (hd 5 rfl))) ?_
    exact ObL.nil
  · intro v a1 w hx hPP S hs hdf
    refine wpList_nil ?_
    exact hQ a1 w hx S.o hs hdf (S.dep 6 rfl (hPP 6 (by decide))) (S.dep 7 rfl (hPP 7 (by decide)))

noncomputable def ldC12 : Code := ((Try.f7.body.bind (regionOf 12)).getD .skip)
def ld12D : List (Option Tmp) := [some 100, some 101, some 102, some 103, some 104, some 105, some 106, some 107, some 108, some 109, some 110, some 111, some 112, some 113, some 114, some 115, some 116, some 117]
def ld12P (x : Ev) (n : Int) (c1 c2 c3 : List Value) (e1 e2 e3 : Ex)  : List (World → Value → Prop) := [(Is (.int .i64 ((EvalF e1 x).1))), (Is (.int .i64 ((EvalF (quad (leaf 1 (kF n)) (leaf 1 (kF n + 1)) e1 failsE) x).1))), (Is (.bool false)), (Is (.bool false)), (Is (.int .i64 ((EvalF e1 x).2))), (Is (.int .i64 ((EvalF (quad (leaf 1 (kF n)) (leaf 1 (kF n + 1)) e1 failsE) x).2))), (Is (.bool false)), (Is (.bool false)), (Is (.bool false)), (Is (.int .i64 ((EvalF e1 x).1))), (Is (.int .i64 ((EvalF (quad (leaf 1 (kF n)) (leaf 1 (kF n)) failsE e1) x).1))), (Is (.bool false)), (Is (.bool false)), (Is (.bool false)), (Is (.int .i64 ((EvalF e1 x).2))), (Is (.int .i64 ((EvalF (quad (leaf 1 (kF n)) (leaf 1 (kF n)) failsE e1) x).2))), (Is (.bool false)), (Is (.bool false))]
set_option maxHeartbeats 2000000 in
set_option maxRecDepth 100000 in
theorem ld12 (x : Ev) (hok : x.ok) (n : Int) (c1 c2 c3 : List Value) (e1 e2 e3 : Ex) (hl1 : c1.length = 7) (hl2 : c2.length = 7) (hl3 : c3.length = 7)  (Q : Exit → Act → World → Prop) (a0 : Act) (W : World) (hsz : a0.tmps.size = 180) (hL : EvalF (quad (leaf 1 (kF n)) (leaf 1 (kF n + 1)) e1 failsE) x = EvalF e1 x) (hR : EvalF (quad (leaf 1 (kF n)) (leaf 1 (kF n)) failsE e1) x = EvalF e1 x) (g15 : (Is (.int .i64 ((EvalF e1 x).1))) W (a0.eval (.tmp 15))) (g16 : (Is (.int .i64 ((EvalF e1 x).2))) W (a0.eval (.tmp 16))) (g17 : (Is (.int .i64 ((EvalF (quad (leaf 1 (kF n)) (leaf 1 (kF n + 1)) e1 failsE) x).1))) W (a0.eval (.tmp 17))) (g18 : (Is (.int .i64 ((EvalF (quad (leaf 1 (kF n)) (leaf 1 (kF n + 1)) e1 failsE) x).2))) W (a0.eval (.tmp 18))) (g19 : (Is (.int .i64 ((EvalF (quad (leaf 1 (kF n)) (leaf 1 (kF n)) failsE e1) x).1))) W (a0.eval (.tmp 19))) (g20 : (Is (.int .i64 ((EvalF (quad (leaf 1 (kF n)) (leaf 1 (kF n)) failsE e1) x).2))) W (a0.eval (.tmp 20)))
    (hQ : ∀ a1 W1, Ext W W1 → (∀ t, ld12D.contains (some t) = false → a1.eval (.tmp t) = a0.eval (.tmp t)) → a1.tmps.size = 180 → a1.defers = a0.defers → (Is (.bool false)) W1 (a1.eval (.tmp 117)) → Q .normal a1 W1) : ldC12.wp Try.prog Q a0 W := by
  conv => arg 2; whnf
  refine wp_region_sq 18 ld12D (ld12P x n c1 c2 c3 e1 e2 e3 ) 180 (by kernel_rfl) hsz ?_ ?_ ?_
  · exact AllSt.cons (Is.st _) (AllSt.cons (Is.st _) (AllSt.cons (Is.st _) (AllSt.cons (Is.st _) (AllSt.cons (Is.st _) (AllSt.cons (Is.st _) (AllSt.cons (Is.st _) (AllSt.cons (Is.st _) (AllSt.cons (Is.st _) (AllSt.cons (Is.st _) (AllSt.cons (Is.st _) (AllSt.cons (Is.st _) (AllSt.cons (Is.st _) (AllSt.cons (Is.st _) (AllSt.cons (Is.st _) (AllSt.cons (Is.st _) (AllSt.cons (Is.st _) (AllSt.cons (Is.st _) (AllSt.nil))))))))))))))))))
  · simp only [List.take_succ_cons, List.take_zero]
    refine ObL.cons trivial (fun v ρ w hx hd S => op_move (p := Is (.int .i64 ((EvalF e1 x).1))) (.inl rfl) (S.out rfl ((Is.st _) _ _ _ hx g15))) ?_
    refine ObL.cons trivial (fun v ρ w hx hd S => op_move (p := Is (.int .i64 ((EvalF (quad (leaf 1 (kF n)) (leaf 1 (kF n + 1)) e1 failsE) x).1))) (.inl rfl) (S.out rfl ((Is.st _) _ _ _ hx g17))) ?_
    refine ObL.cons trivial (fun v ρ w hx hd S => (op_neq rfl (S.dep 0 rfl (hd 0 rfl)) (S.dep 1 rfl (hd 1 rfl))).mono fun u w1 hu => ⟨hu.1, hu.2.trans (congrArg Value.bool (by rw [hL]; simp))⟩) ?_
    refine ObL.cons trivial (fun v ρ w hx hd S => op_move (p := Is (.bool false)) (.inl rfl) (S.dep 2 rfl (hd 2 rfl))) ?_
    refine ObL.cons ⟨rfl, fun w u h => h⟩ (fun v ρ w hx hd S => op_move (p := Is (.int .i64 ((EvalF e1 x).2))) (.inl rfl) (S.out rfl ((Is.st _) _ _ _ hx g16))) ?_
    refine ObL.cons ⟨rfl, fun w u h => h⟩ (fun v ρ w hx hd S => op_move (p := Is (.int .i64 ((EvalF (quad (leaf 1 (kF n)) (leaf 1 (kF n + 1)) e1 failsE) x).2))) (.inl rfl) (S.out rfl ((Is.st _) _ _ _ hx g18))) ?_
    refine ObL.cons ⟨rfl, fun w u h => h⟩ (fun v ρ w hx hd S => (op_neq rfl (S.dep 4 rfl (hd 4 rfl)) (S.dep 5 rfl (hd 5 rfl))).mono fun u w1 hu => ⟨hu.1, hu.2.trans (congrArg Value.bool (by rw [hL]; simp))⟩) ?_
    refine ObL.cons trivial (fun v ρ w hx hd S => op_pick (p := Is (.bool false)) false rfl (S.dep 3 rfl (hd 3 rfl)) (S.dep 6 rfl (hd 6 rfl))) ?_
    refine ObL.cons trivial (fun v ρ w hx hd S => op_move (p := Is (.bool false)) (.inl rfl) (S.dep 7 rfl (hd 7 rfl))) ?_
    refine ObL.cons ⟨rfl, fun w u h => h⟩ (fun v ρ w hx hd S => op_move (p := Is (.int .i64 ((EvalF e1 x).1))) (.inl rfl) (S.out rfl ((Is.st _) _ _ _ hx g15))) ?_
    refine ObL.cons ⟨rfl, fun w u h => h⟩ (fun v ρ w hx hd S => op_move (p := Is (.int .i64 ((EvalF (quad (leaf 1 (kF n)) (leaf 1 (kF n)) failsE e1) x).1))) (.inl rfl) (S.out rfl ((Is.st _) _ _ _ hx g19))) ?_
    refine ObL.cons ⟨rfl, fun w u h => h⟩ (fun v ρ w hx hd S => (op_neq rfl (S.dep 9 rfl (hd 9 rfl)) (S.dep 10 rfl (hd 10 rfl))).mono fun u w1 hu => ⟨hu.1, hu.2.trans (congrArg Value.bool (by rw [hR]; simp))⟩) ?_
    refine ObL.cons trivial (fun v ρ w hx hd S => op_pick (p := Is (.bool false)) false rfl (S.dep 8 rfl (hd 8 rfl)) (S.dep 11 rfl (hd 11 rfl))) ?_
    refine ObL.cons trivial (fun v ρ w hx hd S => op_move (p := Is (.bool false)) (.inl rfl) (S.dep 12 rfl (hd 12 rfl))) ?_
    refine ObL.cons ⟨rfl, fun w u h => h⟩ (fun v ρ w hx hd S => op_move (p := Is (.int .i64 ((EvalF e1 x).2))) (.inl rfl) (S.out rfl ((Is.st _) _ _ _ hx g16))) ?_
    refine ObL.cons ⟨rfl, fun w u h => h⟩ (fun v ρ w hx hd S => op_move (p := Is (.int .i64 ((EvalF (quad (leaf 1 (kF n)) (leaf 1 (kF n)) failsE e1) x).2))) (.inl rfl) (S.out rfl ((Is.st _) _ _ _ hx g20))) ?_
    refine ObL.cons ⟨rfl, fun w u h => h⟩ (fun v ρ w hx hd S => (op_neq rfl (S.dep 14 rfl (hd 14 rfl)) (S.dep 15 rfl (hd 15 rfl))).mono fun u w1 hu => ⟨hu.1, hu.2.trans (congrArg Value.bool (by rw [hR]; simp))⟩) ?_
    refine ObL.cons trivial (fun v ρ w hx hd S => op_pick (p := Is (.bool false)) false rfl (S.dep 13 rfl (hd 13 rfl)) (S.dep 16 rfl (hd 16 rfl))) ?_
    exact ObL.nil
  · intro v a1 w hx hPP S hs hdf
    refine wpList_nil ?_
    exact hQ a1 w hx S.o hs hdf (S.dep 17 rfl (hPP 17 (by decide)))

noncomputable def ldC14 : Code := ((Try.f7.body.bind (regionOf 14)).getD .skip)
def ld14D : List (Option Tmp) := [some 118, some 119, some 120, some 121, some 122, some 123, some 21]
def ld14P (x : Ev) (n : Int) (c1 c2 c3 : List Value) (e1 e2 e3 : Ex)  (B : Nat) : List (World → Value → Prop) := [(Is (.agg c1.toArray)), (Is (.agg c2.toArray)), (Is (.agg c3.toArray)), (Is (.agg (leafCells 1 7).toArray)), (WithRow (fun s => s) 4 (c1 ++ c2 ++ c3 ++ (leafCells 1 7))), (WithRow (fun s => .agg #[.int .i64 11, .int .i64 0, .int .i64 0, .int .i64 0, .int .i64 0, .int .i64 0, s]) 4 (c1 ++ c2 ++ c3 ++ (leafCells 1 7))), (FreshV B zero7 26)]
set_option maxHeartbeats 2000000 in
set_option maxRecDepth 100000 in
theorem ld14 (x : Ev) (hok : x.ok) (n : Int) (c1 c2 c3 : List Value) (e1 e2 e3 : Ex) (hl1 : c1.length = 7) (hl2 : c2.length = 7) (hl3 : c3.length = 7)  (Q : Exit → Act → World → Prop) (a0 : Act) (W : World) (hsz : a0.tmps.size = 180) (he1 : ExR W c1 e1) (he2 : ExR W c2 e2) (he3 : ExR W c3 e3) (g5 : (VarP 7 (Is (.agg c1.toArray))) W (a0.eval (.tmp 5))) (g6 : (VarP 7 (Is (.agg c2.toArray))) W (a0.eval (.tmp 6))) (g7 : (VarP 7 (Is (.agg c3.toArray))) W (a0.eval (.tmp 7)))
    (hQ : ∀ a1 W1, Ext W W1 → (∀ t, ld14D.contains (some t) = false → a1.eval (.tmp t) = a0.eval (.tmp t)) → a1.tmps.size = 180 → a1.defers = a0.defers → VarP 7 (ExA (quad e1 e2 e3 (leaf 1 7))) W1 (a1.eval (.tmp 21)) → Q .normal a1 W1) : ldC14.wp Try.prog Q a0 W := by
  conv => arg 2; whnf
  refine wp_region_st 7 ld14D (ld14P x n c1 c2 c3 e1 e2 e3  W.heap.size) 180 (by kernel_rfl) (by kernel_rfl) hsz ?_ ?_ ?_
  · exact AllSt.cons (Is.st _) (AllSt.cons (Is.st _) (AllSt.cons (Is.st _) (AllSt.cons (Is.st _) (AllSt.cons WithRow.st (AllSt.cons WithRow.st (AllSt.cons FreshV.st (AllSt.nil)))))))
  · simp only [List.take_succ_cons, List.take_zero]
    refine ObL.cons trivial (fun v ρ w hx hd S => op_loadV _ _ rfl _ Try.underlying26 rfl info_expr (S.out rfl ((VarP.st (Is.st _)) _ _ _ hx g5))) ?_
    refine ObL.cons trivial (fun v ρ w hx hd S => op_loadV _ _ rfl _ Try.underlying26 rfl info_expr (S.out rfl ((VarP.st (Is.st _)) _ _ _ hx g6))) ?_
    refine ObL.cons trivial (fun v ρ w hx hd S => op_loadV _ _ rfl _ Try.underlying26 rfl info_expr (S.out rfl ((VarP.st (Is.st _)) _ _ _ hx g7))) ?_
    refine ObL.cons trivial (fun v ρ w hx hd S => op_integerV rfl S (S.c _)) ?_
    refine ObL.cons trivial (fun v ρ w hx hd S => op_row4 (c0 := c1) (c1 := c2) (c2 := c3) (c3 := (leafCells 1 7)) rfl hl1 hl2 hl3 rfl (S.dep 0 rfl (hd 0 rfl)) (S.dep 1 rfl (hd 1 rfl)) (S.dep 2 rfl (hd 2 rfl)) (S.dep 3 rfl (hd 3 rfl))) ?_
    refine ObL.cons trivial (fun v ρ w hx hd S => op_quad rfl S (show (WithRow (fun s => s) 4 (c1 ++ c2 ++ c3 ++ (leafCells 1 7))) w (ρ (.tmp 122)) from (S.dep 4 rfl (hd 4 rfl)))) ?_
    refine ObL.cons trivial (fun v ρ w hx hd S => op_allocEx rfl hx) ?_
    exact ObL.nil
  · intro v a1 w hx hPP S hs hdf
    refine stable_last (o := _) rfl (by kernel_rfl) (by kernel_rfl) rfl rfl ?_
    obtain ⟨X, ex, hX, hX2, hX3⟩ : FreshV W.heap.size _ _ w _ := S.dep 6 rfl (hPP 6 (by decide))
    obtain ⟨R, er, hR, hR2⟩ : (WithRow (fun s => .agg #[.int .i64 11, .int .i64 0, .int .i64 0, .int .i64 0, .int .i64 0, .int .i64 0, s]) 4 (c1 ++ c2 ++ c3 ++ (leafCells 1 7))) w _ := S.dep 5 rfl (hPP 5 (by decide))
    have hRX : R ≠ X := apart_of (k := 21) (by have := hR2 21 (.int .i64 1) (by rw [List.getElem?_append_right (by simp [hl1, hl2, hl3])]; simp [hl1, hl2, hl3, leafCells]); rwa [Nat.zero_add] at this) (by simp [World.cell?, hX3, zero7, leafCells])
    refine wp_store_var (W := W) (w := w) (X := X) _ _ _ rfl ex er hX hX3 rfl info_expr rfl hx ?_
    intro w1 hxx hr3 hap hsz1
    exact hQ a1 w1 hxx S.o hs hdf ⟨X, _, ex, rfl, hr3, _, rfl, quad_in (he1.ext hxx) (he2.ext hxx) (he3.ext hxx) (leafR (by constructor <;> decide) (by constructor <;> decide)) (by omega) (hap _ _ _ hRX hR2)⟩

noncomputable def ldC15 : Code := ((Try.f7.body.bind (regionOf 15)).getD .skip)
def ld15D : List (Option Tmp) := [some 125, some 126, some 127, some 124, some 128, some 129, some 22, some 23]
def ld15P (x : Ev) (n : Int) (c1 c2 c3 : List Value) (e1 e2 e3 : Ex)  : List (World → Value → Prop) := [(ExA (quad e1 e2 e3 (leaf 1 7))), (Is (.agg x.cells.toArray)), (Is (.tuple #[.int .i64 ((EvalF (quad e1 e2 e3 (leaf 1 7)) x).1), .int .i64 ((EvalF (quad e1 e2 e3 (leaf 1 7)) x).2)])), (Is (.tuple #[.int .i64 ((EvalF (quad e1 e2 e3 (leaf 1 7)) x).1), .int .i64 ((EvalF (quad e1 e2 e3 (leaf 1 7)) x).2)])), (Is (.int .i64 ((EvalF (quad e1 e2 e3 (leaf 1 7)) x).1))), (Is (.int .i64 ((EvalF (quad e1 e2 e3 (leaf 1 7)) x).2))), (Is (.int .i64 ((EvalF (quad e1 e2 e3 (leaf 1 7)) x).1))), (Is (.int .i64 ((EvalF (quad e1 e2 e3 (leaf 1 7)) x).2)))]
set_option maxHeartbeats 2000000 in
set_option maxRecDepth 100000 in
theorem ld15 (x : Ev) (hok : x.ok) (n : Int) (c1 c2 c3 : List Value) (e1 e2 e3 : Ex) (hl1 : c1.length = 7) (hl2 : c2.length = 7) (hl3 : c3.length = 7)  (Q : Exit → Act → World → Prop) (a0 : Act) (W : World) (hsz : a0.tmps.size = 180)  (g8 : (VarP 17 (Is (.agg x.cells.toArray))) W (a0.eval (.tmp 8))) (g21 : (VarP 7 (ExA (quad e1 e2 e3 (leaf 1 7)))) W (a0.eval (.tmp 21)))
    (hQ : ∀ a1 W1, Ext W W1 → (∀ t, ld15D.contains (some t) = false → a1.eval (.tmp t) = a0.eval (.tmp t)) → a1.tmps.size = 180 → a1.defers = a0.defers → (Is (.int .i64 ((EvalF (quad e1 e2 e3 (leaf 1 7)) x).1))) W1 (a1.eval (.tmp 22)) → (Is (.int .i64 ((EvalF (quad e1 e2 e3 (leaf 1 7)) x).2))) W1 (a1.eval (.tmp 23)) → Q .normal a1 W1) : ldC15.wp Try.prog Q a0 W := by
  conv => arg 2; whnf
  refine wp_region_sq 8 ld15D (ld15P x n c1 c2 c3 e1 e2 e3 ) 180 (by kernel_rfl) hsz ?_ ?_ ?_
  · exact AllSt.cons ExA.st (AllSt.cons (Is.st _) (AllSt.cons (Is.st _) (AllSt.cons (Is.st _) (AllSt.cons (Is.st _) (AllSt.cons (Is.st _) (AllSt.cons (Is.st _) (AllSt.cons (Is.st _) (AllSt.nil))))))))
  · simp only [List.take_succ_cons, List.take_zero]
    refine ObL.cons trivial (fun v ρ w hx hd S => op_loadV _ _ rfl _ Try.underlying26 rfl info_expr (S.out rfl ((VarP.st ExA.st) _ _ _ hx g21))) ?_
    refine ObL.cons trivial (fun v ρ w hx hd S => op_loadV _ _ rfl _ Try.underlying29 rfl info_env (S.out rfl ((VarP.st (Is.st _)) _ _ _ hx g8))) ?_
    refine ObL.cons trivial (fun v ρ w hx hd S => op_evalT x hok rfl S (S.dep 0 rfl (hd 0 rfl)) (S.dep 1 rfl (hd 1 rfl))) ?_
    refine ObL.cons trivial (fun v ρ w hx hd S => op_move (p := Is (.tuple #[.int .i64 ((EvalF (quad e1 e2 e3 (leaf 1 7)) x).1), .int .i64 ((EvalF (quad e1 e2 e3 (leaf 1 7)) x).2)])) (.inl rfl) (S.dep 2 rfl (hd 2 rfl))) ?_
    refine ObL.cons trivial (fun v ρ w hx hd S => op_extract rfl (S.dep 3 rfl (hd 3 rfl)) rfl) ?_
    refine ObL.cons trivial (fun v ρ w hx hd S => op_extract rfl (S.dep 3 rfl (hd 3 rfl)) rfl) ?_
    refine ObL.cons trivial (fun v ρ w hx hd S => op_move (p := Is (.int .i64 ((EvalF (quad e1 e2 e3 (leaf 1 7)) x).1))) (.inr rfl) (S.dep 4 rfl (hd 4 rfl))) ?_
    refine ObL.cons trivial (fun v ρ w hx hd S => op_move (p := Is (.int .i64 ((EvalF (quad e1 e2 e3 (leaf 1 7)) x).2))) (.inr rfl) (S.dep 5 rfl (hd 5 rfl))) ?_
    exact ObL.nil
  · intro v a1 w hx hPP S hs hdf
    refine wpList_nil ?_
    exact hQ a1 w hx S.o hs hdf (S.dep 6 rfl (hPP 6 (by decide))) (S.dep 7 rfl (hPP 7 (by decide)))

noncomputable def ldC16 : Code := ((Try.f7.body.bind (regionOf 16)).getD .skip)
def ld16D : List (Option Tmp) := [some 131, some 132, some 133, some 130, some 134, some 135, some 24, some 25]
def ld16P (x : Ev) (n : Int) (c1 c2 c3 : List Value) (e1 e2 e3 : Ex)  : List (World → Value → Prop) := [(Is (.agg c2.toArray)), (Is (.agg x.cells.toArray)), (Is (.tuple #[.int .i64 ((EvalF e2 x).1), .int .i64 ((EvalF e2 x).2)])), (Is (.tuple #[.int .i64 ((EvalF e2 x).1), .int .i64 ((EvalF e2 x).2)])), (Is (.int .i64 ((EvalF e2 x).1))), (Is (.int .i64 ((EvalF e2 x).2))), (Is (.int .i64 ((EvalF e2 x).1))), (Is (.int .i64 ((EvalF e2 x).2)))]
set_option maxHeartbeats 2000000 in
set_option maxRecDepth 100000 in
theorem ld16 (x : Ev) (hok : x.ok) (n : Int) (c1 c2 c3 : List Value) (e1 e2 e3 : Ex) (hl1 : c1.length = 7) (hl2 : c2.length = 7) (hl3 : c3.length = 7)  (Q : Exit → Act → World → Prop) (a0 : Act) (W : World) (hsz : a0.tmps.size = 180) (he1 : ExR W c1 e1) (he2 : ExR W c2 e2) (he3 : ExR W c3 e3) (g6 : (VarP 7 (Is (.agg c2.toArray))) W (a0.eval (.tmp 6))) (g8 : (VarP 17 (Is (.agg x.cells.toArray))) W (a0.eval (.tmp 8)))
    (hQ : ∀ a1 W1, Ext W W1 → (∀ t, ld16D.contains (some t) = false → a1.eval (.tmp t) = a0.eval (.tmp t)) → a1.tmps.size = 180 → a1.defers = a0.defers → (Is (.int .i64 ((EvalF e2 x).1))) W1 (a1.eval (.tmp 24)) → (Is (.int .i64 ((EvalF e2 x).2))) W1 (a1.eval (.tmp 25)) → Q .normal a1 W1) : ldC16.wp Try.prog Q a0 W := by
  conv => arg 2; whnf
  refine wp_region_sq 8 ld16D (ld16P x n c1 c2 c3 e1 e2 e3 ) 180 (by kernel_rfl) hsz ?_ ?_ ?_
  · exact AllSt.cons (Is.st _) (AllSt.cons (Is.st _) (AllSt.cons (Is.st _) (AllSt.cons (Is.st _) (AllSt.cons (Is.st _) (AllSt.cons (Is.st _) (AllSt.cons (Is.st _) (AllSt.cons (Is.st _) (AllSt.nil))))))))
  · simp only [List.take_succ_cons, List.take_zero]
    refine ObL.cons trivial (fun v ρ w hx hd S => op_loadV _ _ rfl _ Try.underlying26 rfl info_expr (S.out rfl ((VarP.st (Is.st _)) _ _ _ hx g6))) ?_
    refine ObL.cons trivial (fun v ρ w hx hd S => op_loadV _ _ rfl _ Try.underlying29 rfl info_env (S.out rfl ((VarP.st (Is.st _)) _ _ _ hx g8))) ?_
    refine ObL.cons trivial (fun v ρ w hx hd S => op_evalT x hok rfl S (show ExA e2 w (ρ (.tmp 131)) from ⟨_, (S.dep 0 rfl (hd 0 rfl)), he2.ext hx⟩) (S.dep 1 rfl (hd 1 rfl))) ?_
    refine ObL.cons trivial (fun v ρ w hx hd S => op_move (p := Is (.tuple #[.int .i64 ((EvalF e2 x).1), .int .i64 ((EvalF e2 x).2)])) (.inl rfl) (S.dep 2 rfl (hd 2 rfl))) ?_
    refine ObL.cons trivial (fun v ρ w hx hd S => op_extract rfl (S.dep 3 rfl (hd 3 rfl)) rfl) ?_
    refine ObL.cons trivial (fun v ρ w hx hd S => op_extract rfl (S.dep 3 rfl (hd 3 rfl)) rfl) ?_
    refine ObL.cons trivial (fun v ρ w hx hd S => op_move (p := Is (.int .i64 ((EvalF e2 x).1))) (.inr rfl) (S.dep 4 rfl (hd 4 rfl))) ?_
    refine ObL.cons trivial (fun v ρ w hx hd S => op_move (p := Is (.int .i64 ((EvalF e2 x).2))) (.inr rfl) (S.dep 5 rfl (hd 5 rfl))) ?_
    exact ObL.nil
  · intro v a1 w hx hPP S hs hdf
    refine wpList_nil ?_
    exact hQ a1 w hx S.o hs hdf (S.dep 6 rfl (hPP 6 (by decide))) (S.dep 7 rfl (hPP 7 (by decide)))

noncomputable def ldC17 : Code := ((Try.f7.body.bind (regionOf 17)).getD .skip)
def ld17D : List (Option Tmp) := [some 137, some 138, some 139, some 136, some 140, some 141, some 26, some 27]
def ld17P (x : Ev) (n : Int) (c1 c2 c3 : List Value) (e1 e2 e3 : Ex)  : List (World → Value → Prop) := [(Is (.agg c3.toArray)), (Is (.agg x.cells.toArray)), (Is (.tuple #[.int .i64 ((EvalF e3 x).1), .int .i64 ((EvalF e3 x).2)])), (Is (.tuple #[.int .i64 ((EvalF e3 x).1), .int .i64 ((EvalF e3 x).2)])), (Is (.int .i64 ((EvalF e3 x).1))), (Is (.int .i64 ((EvalF e3 x).2))), (Is (.int .i64 ((EvalF e3 x).1))), (Is (.int .i64 ((EvalF e3 x).2)))]
set_option maxHeartbeats 2000000 in
set_option maxRecDepth 100000 in
theorem ld17 (x : Ev) (hok : x.ok) (n : Int) (c1 c2 c3 : List Value) (e1 e2 e3 : Ex) (hl1 : c1.length = 7) (hl2 : c2.length = 7) (hl3 : c3.length = 7)  (Q : Exit → Act → World → Prop) (a0 : Act) (W : World) (hsz : a0.tmps.size = 180) (he1 : ExR W c1 e1) (he2 : ExR W c2 e2) (he3 : ExR W c3 e3) (g7 : (VarP 7 (Is (.agg c3.toArray))) W (a0.eval (.tmp 7))) (g8 : (VarP 17 (Is (.agg x.cells.toArray))) W (a0.eval (.tmp 8)))
    (hQ : ∀ a1 W1, Ext W W1 → (∀ t, ld17D.contains (some t) = false → a1.eval (.tmp t) = a0.eval (.tmp t)) → a1.tmps.size = 180 → a1.defers = a0.defers → (Is (.int .i64 ((EvalF e3 x).1))) W1 (a1.eval (.tmp 26)) → (Is (.int .i64 ((EvalF e3 x).2))) W1 (a1.eval (.tmp 27)) → Q .normal a1 W1) : ldC17.wp Try.prog Q a0 W := by
  conv => arg 2; whnf
  refine wp_region_sq 8 ld17D (ld17P x n c1 c2 c3 e1 e2 e3 ) 180 (by kernel_rfl) hsz ?_ ?_ ?_
  · exact AllSt.cons (Is.st _) (AllSt.cons (Is.st _) (AllSt.cons (Is.st _) (AllSt.cons (Is.st _) (AllSt.cons (Is.st _) (AllSt.cons (Is.st _) (AllSt.cons (Is.st _) (AllSt.cons (Is.st _) (AllSt.nil))))))))
  · simp only [List.take_succ_cons, List.take_zero]
    refine ObL.cons trivial (fun v ρ w hx hd S => op_loadV _ _ rfl _ Try.underlying26 rfl info_expr (S.out rfl ((VarP.st (Is.st _)) _ _ _ hx g7))) ?_
    refine ObL.cons trivial (fun v ρ w hx hd S => op_loadV _ _ rfl _ Try.underlying29 rfl info_env (S.out rfl ((VarP.st (Is.st _)) _ _ _ hx g8))) ?_
    refine ObL.cons trivial (fun v ρ w hx hd S => op_evalT x hok rfl S (show ExA e3 w (ρ (.tmp 137)) from ⟨_, (S.dep 0 rfl (hd 0 rfl)), he3.ext hx⟩) (S.dep 1 rfl (hd 1 rfl))) ?_
    refine ObL.cons trivial (fun v ρ w hx hd S => op_move (p := Is (.tuple #[.int .i64 ((EvalF e3 x).1), .int .i64 ((EvalF e3 x).2)])) (.inl rfl) (S.dep 2 rfl (hd 2 rfl))) ?_
    refine ObL.cons trivial (fun v ρ w hx hd S => op_extract rfl (S.dep 3 rfl (hd 3 rfl)) rfl) ?_
    refine ObL.cons trivial (fun v ρ w hx hd S => op_extract rfl (S.dep 3 rfl (hd 3 rfl)) rfl) ?_
    refine ObL.cons trivial (fun v ρ w hx hd S => op_move (p := Is (.int .i64 ((EvalF e3 x).1))) (.inr rfl) (S.dep 4 rfl (hd 4 rfl))) ?_
    refine ObL.cons trivial (fun v ρ w hx hd S => op_move (p := Is (.int .i64 ((EvalF e3 x).2))) (.inr rfl) (S.dep 5 rfl (hd 5 rfl))) ?_
    exact ObL.nil
  · intro v a1 w hx hPP S hs hdf
    refine wpList_nil ?_
    exact hQ a1 w hx S.o hs hdf (S.dep 6 rfl (hPP 6 (by decide))) (S.dep 7 rfl (hPP 7 (by decide)))

noncomputable def ldC18 : Code := ((Try.f7.body.bind (regionOf 18)).getD .skip)
def ld18aD : List (Option Tmp) := [some 143, some 144, some 142]
def ld18aP (x : Ev) (n : Int) (c1 c2 c3 : List Value) (e1 e2 e3 : Ex)  : List (World → Value → Prop) := [(Is (.int .i64 ((EvalF e1 x).2))), (Is (.bool true)), (Is (.bool true))]
set_option maxHeartbeats 2000000 in
set_option maxRecDepth 100000 in
theorem ld18a (x : Ev) (hok : x.ok) (n : Int) (c1 c2 c3 : List Value) (e1 e2 e3 : Ex) (hl1 : c1.length = 7) (hl2 : c2.length = 7) (hl3 : c3.length = 7)  (Q : Exit → Act → World → Prop) (a0 : Act) (W : World) (hsz : a0.tmps.size = 180) (ha : ¬ (EvalF e1 x).2 = 0) (g16 : (Is (.int .i64 ((EvalF e1 x).2))) W (a0.eval (.tmp 16)))
    (hQ : ∀ a1 W1, Ext W W1 → (∀ t, ld18aD.contains (some t) = false → a1.eval (.tmp t) = a0.eval (.tmp t)) → a1.tmps.size = 180 → a1.defers = a0.defers → (Is (.bool true)) W1 (a1.eval (.tmp 142)) → Q .normal a1 W1) : ldC18.wp Try.prog Q a0 W := by
  conv => arg 2; whnf
  refine wp_region_sq 3 ld18aD (ld18aP x n c1 c2 c3 e1 e2 e3 ) 180 (by kernel_rfl) hsz ?_ ?_ ?_
  · exact AllSt.cons (Is.st _) (AllSt.cons (Is.st _) (AllSt.cons (Is.st _) (AllSt.nil)))
  · simp only [List.take_succ_cons, List.take_zero]
    refine ObL.cons trivial (fun v ρ w hx hd S => op_move (p := Is (.int .i64 ((EvalF e1 x).2))) (.inl rfl) (S.out rfl ((Is.st _) _ _ _ hx g16))) ?_
    refine ObL.cons trivial (fun v ρ w hx hd S => (op_neq rfl (S.dep 0 rfl (hd 0 rfl)) (S.c _)).mono fun u w1 hu => ⟨hu.1, hu.2.trans (congrArg Value.bool (by simpa using ha))⟩) ?_
    refine ObL.cons trivial (fun v ρ w hx hd S => op_move (p := Is (.bool true)) (.inr rfl) (S.dep 1 rfl (hd 1 rfl))) ?_
    exact ObL.nil
  · intro v a1 w hx hPP S hs hdf
    refine wpList_nil ?_
    exact hQ a1 w hx S.o hs hdf (S.dep 2 rfl (hPP 2 (by decide)))

noncomputable def ldC19 : Code := ((Try.f7.body.bind (regionOf 19)).getD .skip)
def ld19D : List (Option Tmp) := [some 145, some 146, some 147, some 148, some 149, some 150, some 151, some 10]
def ld19P (x : Ev) (n : Int) (c1 c2 c3 : List Value) (e1 e2 e3 : Ex)  : List (World → Value → Prop) := [(Is (.int .i64 ((EvalF (quad e1 e2 e3 (leaf 1 7)) x).2))), (Is (.int .i64 ((EvalF e1 x).2))), (Is (.bool true)), (Is (.bool true)), (Is (.int .i64 ((EvalF (quad e1 e2 e3 (leaf 1 7)) x).1))), (Is (.bool true)), (Is (.bool true)), (Is (.bool true))]
set_option maxHeartbeats 2000000 in
set_option maxRecDepth 100000 in
theorem ld19 (x : Ev) (hok : x.ok) (n : Int) (c1 c2 c3 : List Value) (e1 e2 e3 : Ex) (hl1 : c1.length = 7) (hl2 : c2.length = 7) (hl3 : c3.length = 7)  (Q : Exit → Act → World → Prop) (a0 : Act) (W : World) (hsz : a0.tmps.size = 180) (hqv : EvalF (quad e1 e2 e3 (leaf 1 7)) x = (0, (EvalF e1 x).2)) (g16 : (Is (.int .i64 ((EvalF e1 x).2))) W (a0.eval (.tmp 16))) (g22 : (Is (.int .i64 ((EvalF (quad e1 e2 e3 (leaf 1 7)) x).1))) W (a0.eval (.tmp 22))) (g23 : (Is (.int .i64 ((EvalF (quad e1 e2 e3 (leaf 1 7)) x).2))) W (a0.eval (.tmp 23)))
    (hQ : ∀ a1 W1, Ext W W1 → (∀ t, ld19D.contains (some t) = false → a1.eval (.tmp t) = a0.eval (.tmp t)) → a1.tmps.size = 180 → a1.defers = a0.defers → (Is (.bool true)) W1 (a1.eval (.tmp 10)) → Q .normal a1 W1) : ldC19.wp Try.prog Q a0 W := by
  conv => arg 2; whnf
  refine wp_region_sq 8 ld19D (ld19P x n c1 c2 c3 e1 e2 e3 ) 180 (by kernel_rfl) hsz ?_ ?_ ?_
  · exact AllSt.cons (Is.st _) (AllSt.cons (Is.st _) (AllSt.cons (Is.st _) (AllSt.cons (Is.st _) (AllSt.cons (Is.st _) (AllSt.cons (Is.st _) (AllSt.cons (Is.st _) (AllSt.cons (Is.st _) (AllSt.nil))))))))
  · simp only [List.take_succ_cons, List.take_zero]
    refine ObL.cons trivial (fun v ρ w hx hd S => op_move (p := Is (.int .i64 ((EvalF (quad e1 e2 e3 (leaf 1 7)) x).2))) (.inl rfl) (S.out rfl ((Is.st _) _ _ _ hx g23))) ?_
    refine ObL.cons trivial (fun v ρ w hx hd S => op_move (p := Is (.int .i64 ((EvalF e1 x).2))) (.inl rfl) (S.out rfl ((Is.st _) _ _ _ hx g16))) ?_
    refine ObL.cons trivial (fun v ρ w hx hd S => (op_eql rfl (S.dep 0 rfl (hd 0 rfl)) (S.dep 1 rfl (hd 1 rfl))).mono fun u w1 hu => ⟨hu.1, hu.2.trans (congrArg Value.bool (by rw [hqv]; simp))⟩) ?_
    refine ObL.cons trivial (fun v ρ w hx hd S => op_move (p := Is (.bool true)) (.inl rfl) (S.dep 2 rfl (hd 2 rfl))) ?_
    refine ObL.cons ⟨rfl, fun w u h => h⟩ (fun v ρ w hx hd S => op_move (p := Is (.int .i64 ((EvalF (quad e1 e2 e3 (leaf 1 7)) x).1))) (.inl rfl) (S.out rfl ((Is.st _) _ _ _ hx g22))) ?_
    refine ObL.cons ⟨rfl, fun w u h => h⟩ (fun v ρ w hx hd S => (op_eql rfl (S.dep 4 rfl (hd 4 rfl)) (S.c _)).mono fun u w1 hu => ⟨hu.1, hu.2.trans (congrArg Value.bool (by rw [hqv]; simp))⟩) ?_
    refine ObL.cons trivial (fun v ρ w hx hd S => op_pick (p := Is (.bool true)) true rfl (S.dep 3 rfl (hd 3 rfl)) (S.dep 5 rfl (hd 5 rfl))) ?_
    refine ObL.cons trivial (fun v ρ w hx hd S => op_move (p := Is (.bool true)) (.inr rfl) (S.dep 6 rfl (hd 6 rfl))) ?_
    exact ObL.nil
  · intro v a1 w hx hPP S hs hdf
    refine wpList_nil ?_
    exact hQ a1 w hx S.o hs hdf (S.dep 7 rfl (hPP 7 (by decide)))

def ld18bD : List (Option Tmp) := [some 143, some 144, some 142]
def ld18bP (x : Ev) (n : Int) (c1 c2 c3 : List Value) (e1 e2 e3 : Ex)  : List (World → Value → Prop) := [(Is (.int .i64 ((EvalF e1 x).2))), (Is (.bool false)), (Is (.bool false))]
set_option maxHeartbeats 2000000 in
set_option maxRecDepth 100000 in
theorem ld18b (x : Ev) (hok : x.ok) (n : Int) (c1 c2 c3 : List Value) (e1 e2 e3 : Ex) (hl1 : c1.length = 7) (hl2 : c2.length = 7) (hl3 : c3.length = 7)  (Q : Exit → Act → World → Prop) (a0 : Act) (W : World) (hsz : a0.tmps.size = 180) (ha : (EvalF e1 x).2 = 0) (g16 : (Is (.int .i64 ((EvalF e1 x).2))) W (a0.eval (.tmp 16)))
    (hQ : ∀ a1 W1, Ext W W1 → (∀ t, ld18bD.contains (some t) = false → a1.eval (.tmp t) = a0.eval (.tmp t)) → a1.tmps.size = 180 → a1.defers = a0.defers → (Is (.bool false)) W1 (a1.eval (.tmp 142)) → Q .normal a1 W1) : ldC18.wp Try.prog Q a0 W := by
  conv => arg 2; whnf
  refine wp_region_sq 3 ld18bD (ld18bP x n c1 c2 c3 e1 e2 e3 ) 180 (by kernel_rfl) hsz ?_ ?_ ?_
  · exact AllSt.cons (Is.st _) (AllSt.cons (Is.st _) (AllSt.cons (Is.st _) (AllSt.nil)))
  · simp only [List.take_succ_cons, List.take_zero]
    refine ObL.cons trivial (fun v ρ w hx hd S => op_move (p := Is (.int .i64 ((EvalF e1 x).2))) (.inl rfl) (S.out rfl ((Is.st _) _ _ _ hx g16))) ?_
    refine ObL.cons trivial (fun v ρ w hx hd S => (op_neq rfl (S.dep 0 rfl (hd 0 rfl)) (S.c _)).mono fun u w1 hu => ⟨hu.1, hu.2.trans (congrArg Value.bool (by simpa using ha))⟩) ?_
    refine ObL.cons trivial (fun v ρ w hx hd S => op_move (p := Is (.bool false)) (.inr rfl) (S.dep 1 rfl (hd 1 rfl))) ?_
    exact ObL.nil
  · intro v a1 w hx hPP S hs hdf
    refine wpList_nil ?_
    exact hQ a1 w hx S.o hs hdf (S.dep 2 rfl (hPP 2 (by decide)))

noncomputable def ldC20 : Code := ((Try.f7.body.bind (regionOf 20)).getD .skip)
def ld20aD : List (Option Tmp) := [some 153, some 154, some 152]
def ld20aP (x : Ev) (n : Int) (c1 c2 c3 : List Value) (e1 e2 e3 : Ex)  : List (World → Value → Prop) := [(Is (.int .i64 ((EvalF e2 x).2))), (Is (.bool true)), (Is (.bool true))]
set_option maxHeartbeats 2000000 in
set_option maxRecDepth 100000 in
theorem ld20a (x : Ev) (hok : x.ok) (n : Int) (c1 c2 c3 : List Value) (e1 e2 e3 : Ex) (hl1 : c1.length = 7) (hl2 : c2.length = 7) (hl3 : c3.length = 7)  (Q : Exit → Act → World → Prop) (a0 : Act) (W : World) (hsz : a0.tmps.size = 180) (hb : ¬ (EvalF e2 x).2 = 0) (g25 : (Is (.int .i64 ((EvalF e2 x).2))) W (a0.eval (.tmp 25)))
    (hQ : ∀ a1 W1, Ext W W1 → (∀ t, ld20aD.contains (some t) = false → a1.eval (.tmp t) = a0.eval (.tmp t)) → a1.tmps.size = 180 → a1.defers = a0.defers → (Is (.bool true)) W1 (a1.eval (.tmp 152)) → Q .normal a1 W1) : ldC20.wp Try.prog Q a0 W := by
  conv => arg 2; whnf
  refine wp_region_sq 3 ld20aD (ld20aP x n c1 c2 c3 e1 e2 e3 ) 180 (by kernel_rfl) hsz ?_ ?_ ?_
  · exact AllSt.cons (Is.st _) (AllSt.cons (Is.st _) (AllSt.cons (Is.st _) (AllSt.nil)))
  · simp only [List.take_succ_cons, List.take_zero]
    refine ObL.cons trivial (fun v ρ w hx hd S => op_move (p := Is (.int .i64 ((EvalF e2 x).2))) (.inl rfl) (S.out rfl ((Is.st _) _ _ _ hx g25))) ?_
    refine ObL.cons trivial (fun v ρ w hx hd S => (op_neq rfl (S.dep 0 rfl (hd 0 rfl)) (S.c _)).mono fun u w1 hu => ⟨hu.1, hu.2.trans (congrArg Value.bool (by simpa using hb))⟩) ?_
    refine ObL.cons trivial (fun v ρ w hx hd S => op_move (p := Is (.bool true)) (.inr rfl) (S.dep 1 rfl (hd 1 rfl))) ?_
    exact ObL.nil
  · intro v a1 w hx hPP S hs hdf
    refine wpList_nil ?_
    exact hQ a1 w hx S.o hs hdf (S.dep 2 rfl (hPP 2 (by decide)))

noncomputable def ldC21 : Code := ((Try.f7.body.bind (regionOf 21)).getD .skip)
def ld21D : List (Option Tmp) := [some 155, some 156, some 157, some 158, some 159, some 160, some 161, some 10]
def ld21P (x : Ev) (n : Int) (c1 c2 c3 : List Value) (e1 e2 e3 : Ex)  : List (World → Value → Prop) := [(Is (.int .i64 ((EvalF (quad e1 e2 e3 (leaf 1 7)) x).2))), (Is (.int .i64 ((EvalF e2 x).2))), (Is (.bool true)), (Is (.bool true)), (Is (.int .i64 ((EvalF (quad e1 e2 e3 (leaf 1 7)) x).1))), (Is (.bool true)), (Is (.bool true)), (Is (.bool true))]
set_option maxHeartbeats 2000000 in
set_option maxRecDepth 100000 in
theorem ld21 (x : Ev) (hok : x.ok) (n : Int) (c1 c2 c3 : List Value) (e1 e2 e3 : Ex) (hl1 : c1.length = 7) (hl2 : c2.length = 7) (hl3 : c3.length = 7)  (Q : Exit → Act → World → Prop) (a0 : Act) (W : World) (hsz : a0.tmps.size = 180) (hqv : EvalF (quad e1 e2 e3 (leaf 1 7)) x = (0, (EvalF e2 x).2)) (g22 : (Is (.int .i64 ((EvalF (quad e1 e2 e3 (leaf 1 7)) x).1))) W (a0.eval (.tmp 22))) (g23 : (Is (.int .i64 ((EvalF (quad e1 e2 e3 (leaf 1 7)) x).2))) W (a0.eval (.tmp 23))) (g25 : (Is (.int .i64 ((EvalF e2 x).2))) W (a0.eval (.tmp 25)))
    (hQ : ∀ a1 W1, Ext W W1 → (∀ t, ld21D.contains (some t) = false → a1.eval (.tmp t) = a0.eval (.tmp t)) → a1.tmps.size = 180 → a1.defers = a0.defers → (Is (.bool true)) W1 (a1.eval (.tmp 10)) → Q .normal a1 W1) : ldC21.wp Try.prog Q a0 W := by
  conv => arg 2; whnf
  refine wp_region_sq 8 ld21D (ld21P x n c1 c2 c3 e1 e2 e3 ) 180 (by kernel_rfl) hsz ?_ ?_ ?_
  · exact AllSt.cons (Is.st _) (AllSt.cons (Is.st _) (AllSt.cons (Is.st _) (AllSt.cons (Is.st _) (AllSt.cons (Is.st _) (AllSt.cons (Is.st _) (AllSt.cons (Is.st _) (AllSt.cons (Is.st _) (AllSt.nil))))))))
  · simp only [List.take_succ_cons, List.take_zero]
    refine ObL.cons trivial (fun v ρ w hx hd S => op_move (p := Is (.int .i64 ((EvalF (quad e1 e2 e3 (leaf 1 7)) x).2))) (.inl rfl) (S.out rfl ((Is.st _) _ _ _ hx g23))) ?_
    refine ObL.cons trivial (fun v ρ w hx hd S => op_move (p := Is (.int .i64 ((EvalF e2 x).2))) (.inl rfl) (S.out rfl ((Is.st _) _ _ _ hx g25))) ?_
    refine ObL.cons trivial (fun v ρ w hx hd S => (op_eql rfl (S.dep 0 rfl (hd 0 rfl)) (S.dep 1 rfl (hd 1 rfl))).mono fun u w1 hu => ⟨hu.1, hu.2.trans (congrArg Value.bool (by rw [hqv]; simp))⟩) ?_
    refine ObL.cons trivial (fun v ρ w hx hd S => op_move (p := Is (.bool true)) (.inl rfl) (S.dep 2 rfl (hd 2 rfl))) ?_
    refine ObL.cons ⟨rfl, fun w u h => h⟩ (fun v ρ w hx hd S => op_move (p := Is (.int .i64 ((EvalF (quad e1 e2 e3 (leaf 1 7)) x).1))) (.inl rfl) (S.out rfl ((Is.st _) _ _ _ hx g22))) ?_
    refine ObL.cons ⟨rfl, fun w u h => h⟩ (fun v ρ w hx hd S => (op_eql rfl (S.dep 4 rfl (hd 4 rfl)) (S.c _)).mono fun u w1 hu => ⟨hu.1, hu.2.trans (congrArg Value.bool (by rw [hqv]; simp))⟩) ?_
    refine ObL.cons trivial (fun v ρ w hx hd S => op_pick (p := Is (.bool true)) true rfl (S.dep 3 rfl (hd 3 rfl)) (S.dep 5 rfl (hd 5 rfl))) ?_
    refine ObL.cons trivial (fun v ρ w hx hd S => op_move (p := Is (.bool true)) (.inr rfl) (S.dep 6 rfl (hd 6 rfl))) ?_
    exact ObL.nil
  · intro v a1 w hx hPP S hs hdf
    refine wpList_nil ?_
    exact hQ a1 w hx S.o hs hdf (S.dep 7 rfl (hPP 7 (by decide)))

def ld20bD : List (Option Tmp) := [some 153, some 154, some 152]
def ld20bP (x : Ev) (n : Int) (c1 c2 c3 : List Value) (e1 e2 e3 : Ex)  : List (World → Value → Prop) := [(Is (.int .i64 ((EvalF e2 x).2))), (Is (.bool false)), (Is (.bool false))]
set_option maxHeartbeats 2000000 in
set_option maxRecDepth 100000 in
theorem ld20b (x : Ev) (hok : x.ok) (n : Int) (c1 c2 c3 : List Value) (e1 e2 e3 : Ex) (hl1 : c1.length = 7) (hl2 : c2.length = 7) (hl3 : c3.length = 7)  (Q : Exit → Act → World → Prop) (a0 : Act) (W : World) (hsz : a0.tmps.size = 180) (hb : (EvalF e2 x).2 = 0) (g25 : (Is (.int .i64 ((EvalF e2 x).2))) W (a0.eval (.tmp 25)))
    (hQ : ∀ a1 W1, Ext W W1 → (∀ t, ld20bD.contains (some t) = false → a1.eval (.tmp t) = a0.eval (.tmp t)) → a1.tmps.size = 180 → a1.defers = a0.defers → (Is (.bool false)) W1 (a1.eval (.tmp 152)) → Q .normal a1 W1) : ldC20.wp Try.prog Q a0 W := by
  conv => arg 2; whnf
  refine wp_region_sq 3 ld20bD (ld20bP x n c1 c2 c3 e1 e2 e3 ) 180 (by kernel_rfl) hsz ?_ ?_ ?_
  · exact AllSt.cons (Is.st _) (AllSt.cons (Is.st _) (AllSt.cons (Is.st _) (AllSt.nil)))
  · simp only [List.take_succ_cons, List.take_zero]
    refine ObL.cons trivial (fun v ρ w hx hd S => op_move (p := Is (.int .i64 ((EvalF e2 x).2))) (.inl rfl) (S.out rfl ((Is.st _) _ _ _ hx g25))) ?_
    refine ObL.cons trivial (fun v ρ w hx hd S => (op_neq rfl (S.dep 0 rfl (hd 0 rfl)) (S.c _)).mono fun u w1 hu => ⟨hu.1, hu.2.trans (congrArg Value.bool (by simpa using hb))⟩) ?_
    refine ObL.cons trivial (fun v ρ w hx hd S => op_move (p := Is (.bool false)) (.inr rfl) (S.dep 1 rfl (hd 1 rfl))) ?_
    exact ObL.nil
  · intro v a1 w hx hPP S hs hdf
    refine wpList_nil ?_
    exact hQ a1 w hx S.o hs hdf (S.dep 2 rfl (hPP 2 (by decide)))

noncomputable def ldC22 : Code := ((Try.f7.body.bind (regionOf 22)).getD .skip)
def ld22aD : List (Option Tmp) := [some 163, some 164, some 165, some 162]
def ld22aP (x : Ev) (n : Int) (c1 c2 c3 : List Value) (e1 e2 e3 : Ex)  : List (World → Value → Prop) := [(Is (.int .i64 ((EvalF e1 x).1))), (Is (.int .i64 ((EvalF e2 x).1))), (Is (.bool true)), (Is (.bool true))]
set_option maxHeartbeats 2000000 in
set_option maxRecDepth 100000 in
theorem ld22a (x : Ev) (hok : x.ok) (n : Int) (c1 c2 c3 : List Value) (e1 e2 e3 : Ex) (hl1 : c1.length = 7) (hl2 : c2.length = 7) (hl3 : c3.length = 7)  (Q : Exit → Act → World → Prop) (a0 : Act) (W : World) (hsz : a0.tmps.size = 180) (hlt : (EvalF e1 x).1 < (EvalF e2 x).1) (g15 : (Is (.int .i64 ((EvalF e1 x).1))) W (a0.eval (.tmp 15))) (g24 : (Is (.int .i64 ((EvalF e2 x).1))) W (a0.eval (.tmp 24)))
    (hQ : ∀ a1 W1, Ext W W1 → (∀ t, ld22aD.contains (some t) = false → a1.eval (.tmp t) = a0.eval (.tmp t)) → a1.tmps.size = 180 → a1.defers = a0.defers → (Is (.bool true)) W1 (a1.eval (.tmp 162)) → Q .normal a1 W1) : ldC22.wp Try.prog Q a0 W := by
  conv => arg 2; whnf
  refine wp_region_sq 4 ld22aD (ld22aP x n c1 c2 c3 e1 e2 e3 ) 180 (by kernel_rfl) hsz ?_ ?_ ?_
  · exact AllSt.cons (Is.st _) (AllSt.cons (Is.st _) (AllSt.cons (Is.st _) (AllSt.cons (Is.st _) (AllSt.nil))))
  · simp only [List.take_succ_cons, List.take_zero]
    refine ObL.cons trivial (fun v ρ w hx hd S => op_move (p := Is (.int .i64 ((EvalF e1 x).1))) (.inl rfl) (S.out rfl ((Is.st _) _ _ _ hx g15))) ?_
    refine ObL.cons trivial (fun v ρ w hx hd S => op_move (p := Is (.int .i64 ((EvalF e2 x).1))) (.inl rfl) (S.out rfl ((Is.st _) _ _ _ hx g24))) ?_
    refine ObL.cons trivial (fun v ρ w hx hd S => (op_lss rfl (S.dep 0 rfl (hd 0 rfl)) (S.dep 1 rfl (hd 1 rfl))).mono fun u w1 hu => ⟨hu.1, hu.2.trans (congrArg Value.bool (decide_eq_true hlt))⟩) ?_
    refine ObL.cons trivial (fun v ρ w hx hd S => op_move (p := Is (.bool true)) (.inr rfl) (S.dep 2 rfl (hd 2 rfl))) ?_
    exact ObL.nil
  · intro v a1 w hx hPP S hs hdf
    refine wpList_nil ?_
    exact hQ a1 w hx S.o hs hdf (S.dep 3 rfl (hPP 3 (by decide)))

noncomputable def ldC23 : Code := ((Try.f7.body.bind (regionOf 23)).getD .skip)
def ld23D : List (Option Tmp) := [some 166, some 167, some 168, some 169, some 170, some 171, some 172, some 173, some 10]
def ld23P (x : Ev) (n : Int) (c1 c2 c3 : List Value) (e1 e2 e3 : Ex)  : List (World → Value → Prop) := [(Is (.int .i64 ((EvalF (quad e1 e2 e3 (leaf 1 7)) x).2))), (Is (.int .i64 ((EvalF e3 x).2))), (Is (.bool true)), (Is (.bool true)), (Is (.int .i64 ((EvalF (quad e1 e2 e3 (leaf 1 7)) x).1))), (Is (.int .i64 ((EvalF e3 x).1))), (Is (.bool true)), (Is (.bool true)), (Is (.bool true))]
set_option maxHeartbeats 2000000 in
set_option maxRecDepth 100000 in
theorem ld23 (x : Ev) (hok : x.ok) (n : Int) (c1 c2 c3 : List Value) (e1 e2 e3 : Ex) (hl1 : c1.length = 7) (hl2 : c2.length = 7) (hl3 : c3.length = 7)  (Q : Exit → Act → World → Prop) (a0 : Act) (W : World) (hsz : a0.tmps.size = 180) (hqv : EvalF (quad e1 e2 e3 (leaf 1 7)) x = (EvalF e3 x)) (g22 : (Is (.int .i64 ((EvalF (quad e1 e2 e3 (leaf 1 7)) x).1))) W (a0.eval (.tmp 22))) (g23 : (Is (.int .i64 ((EvalF (quad e1 e2 e3 (leaf 1 7)) x).2))) W (a0.eval (.tmp 23))) (g26 : (Is (.int .i64 ((EvalF e3 x).1))) W (a0.eval (.tmp 26))) (g27 : (Is (.int .i64 ((EvalF e3 x).2))) W (a0.eval (.tmp 27)))
    (hQ : ∀ a1 W1, Ext W W1 → (∀ t, ld23D.contains (some t) = false → a1.eval (.tmp t) = a0.eval (.tmp t)) → a1.tmps.size = 180 → a1.defers = a0.defers → (Is (.bool true)) W1 (a1.eval (.tmp 10)) → Q .normal a1 W1) : ldC23.wp Try.prog Q a0 W := by
  conv => arg 2; whnf
  refine wp_region_sq 9 ld23D (ld23P x n c1 c2 c3 e1 e2 e3 ) 180 (by kernel_rfl) hsz ?_ ?_ ?_
  · exact AllSt.cons (Is.st _) (AllSt.cons (Is.st _) (AllSt.cons (Is.st _) (AllSt.cons (Is.st _) (AllSt.cons (Is.st _) (AllSt.cons (Is.st _) (AllSt.cons (Is.st _) (AllSt.cons (Is.st _) (AllSt.cons (Is.st _) (AllSt.nil)))))))))
  · simp only [List.take_succ_cons, List.take_zero]
    refine ObL.cons trivial (fun v ρ w hx hd S => op_move (p := Is (.int .i64 ((EvalF (quad e1 e2 e3 (leaf 1 7)) x).2))) (.inl rfl) (S.out rfl ((Is.st _) _ _ _ hx g23))) ?_
    refine ObL.cons trivial (fun v ρ w hx hd S => op_move (p := Is (.int .i64 ((EvalF e3 x).2))) (.inl rfl) (S.out rfl ((Is.st _) _ _ _ hx g27))) ?_
    refine ObL.cons trivial (fun v ρ w hx hd S => (op_eql rfl (S.dep 0 rfl (hd 0 rfl)) (S.dep 1 rfl (hd 1 rfl))).mono fun u w1 hu => ⟨hu.1, hu.2.trans (congrArg Value.bool (by rw [hqv]; simp))⟩) ?_
    refine ObL.cons trivial (fun v ρ w hx hd S => op_move (p := Is (.bool true)) (.inl rfl) (S.dep 2 rfl (hd 2 rfl))) ?_
    refine ObL.cons ⟨rfl, fun w u h => h⟩ (fun v ρ w hx hd S => op_move (p := Is (.int .i64 ((EvalF (quad e1 e2 e3 (leaf 1 7)) x).1))) (.inl rfl) (S.out rfl ((Is.st _) _ _ _ hx g22))) ?_
    refine ObL.cons ⟨rfl, fun w u h => h⟩ (fun v ρ w hx hd S => op_move (p := Is (.int .i64 ((EvalF e3 x).1))) (.inl rfl) (S.out rfl ((Is.st _) _ _ _ hx g26))) ?_
    refine ObL.cons ⟨rfl, fun w u h => h⟩ (fun v ρ w hx hd S => (op_eql rfl (S.dep 4 rfl (hd 4 rfl)) (S.dep 5 rfl (hd 5 rfl))).mono fun u w1 hu => ⟨hu.1, hu.2.trans (congrArg Value.bool (by rw [hqv]; simp))⟩) ?_
    refine ObL.cons trivial (fun v ρ w hx hd S => op_pick (p := Is (.bool true)) true rfl (S.dep 3 rfl (hd 3 rfl)) (S.dep 6 rfl (hd 6 rfl))) ?_
    refine ObL.cons trivial (fun v ρ w hx hd S => op_move (p := Is (.bool true)) (.inr rfl) (S.dep 7 rfl (hd 7 rfl))) ?_
    exact ObL.nil
  · intro v a1 w hx hPP S hs hdf
    refine wpList_nil ?_
    exact hQ a1 w hx S.o hs hdf (S.dep 8 rfl (hPP 8 (by decide)))

def ld22bD : List (Option Tmp) := [some 163, some 164, some 165, some 162]
def ld22bP (x : Ev) (n : Int) (c1 c2 c3 : List Value) (e1 e2 e3 : Ex)  : List (World → Value → Prop) := [(Is (.int .i64 ((EvalF e1 x).1))), (Is (.int .i64 ((EvalF e2 x).1))), (Is (.bool false)), (Is (.bool false))]
set_option maxHeartbeats 2000000 in
set_option maxRecDepth 100000 in
theorem ld22b (x : Ev) (hok : x.ok) (n : Int) (c1 c2 c3 : List Value) (e1 e2 e3 : Ex) (hl1 : c1.length = 7) (hl2 : c2.length = 7) (hl3 : c3.length = 7)  (Q : Exit → Act → World → Prop) (a0 : Act) (W : World) (hsz : a0.tmps.size = 180) (hlt : ¬ (EvalF e1 x).1 < (EvalF e2 x).1) (g15 : (Is (.int .i64 ((EvalF e1 x).1))) W (a0.eval (.tmp 15))) (g24 : (Is (.int .i64 ((EvalF e2 x).1))) W (a0.eval (.tmp 24)))
    (hQ : ∀ a1 W1, Ext W W1 → (∀ t, ld22bD.contains (some t) = false → a1.eval (.tmp t) = a0.eval (.tmp t)) → a1.tmps.size = 180 → a1.defers = a0.defers → (Is (.bool false)) W1 (a1.eval (.tmp 162)) → Q .normal a1 W1) : ldC22.wp Try.prog Q a0 W := by
  conv => arg 2; whnf
  refine wp_region_sq 4 ld22bD (ld22bP x n c1 c2 c3 e1 e2 e3 ) 180 (by kernel_rfl) hsz ?_ ?_ ?_
  · exact AllSt.cons (Is.st _) (AllSt.cons (Is.st _) (AllSt.cons (Is.st _) (AllSt.cons (Is.st _) (AllSt.nil))))
  · simp only [List.take_succ_cons, List.take_zero]
    refine ObL.cons trivial (fun v ρ w hx hd S => op_move (p := Is (.int .i64 ((EvalF e1 x).1))) (.inl rfl) (S.out rfl ((Is.st _) _ _ _ hx g15))) ?_
    refine ObL.cons trivial (fun v ρ w hx hd S => op_move (p := Is (.int .i64 ((EvalF e2 x).1))) (.inl rfl) (S.out rfl ((Is.st _) _ _ _ hx g24))) ?_
    refine ObL.cons trivial (fun v ρ w hx hd S => (op_lss rfl (S.dep 0 rfl (hd 0 rfl)) (S.dep 1 rfl (hd 1 rfl))).mono fun u w1 hu => ⟨hu.1, hu.2.trans (congrArg Value.bool (decide_eq_false hlt))⟩) ?_
    refine ObL.cons trivial (fun v ρ w hx hd S => op_move (p := Is (.bool false)) (.inr rfl) (S.dep 2 rfl (hd 2 rfl))) ?_
    exact ObL.nil
  · intro v a1 w hx hPP S hs hdf
    refine wpList_nil ?_
    exact hQ a1 w hx S.o hs hdf (S.dep 3 rfl (hPP 3 (by decide)))

noncomputable def ldC24 : Code := ((Try.f7.body.bind (regionOf 24)).getD .skip)
def ld24D : List (Option Tmp) := [some 174, some 175, some 176, some 177, some 178, some 179, some 10]
def ld24P (x : Ev) (n : Int) (c1 c2 c3 : List Value) (e1 e2 e3 : Ex)  : List (World → Value → Prop) := [(Is (.int .i64 ((EvalF (quad e1 e2 e3 (leaf 1 7)) x).2))), (Is (.bool true)), (Is (.bool true)), (Is (.int .i64 ((EvalF (quad e1 e2 e3 (leaf 1 7)) x).1))), (Is (.bool true)), (Is (.bool true)), (Is (.bool true))]
set_option maxHeartbeats 2000000 in
set_option maxRecDepth 100000 in
theorem ld24 (x : Ev) (hok : x.ok) (n : Int) (c1 c2 c3 : List Value) (e1 e2 e3 : Ex) (hl1 : c1.length = 7) (hl2 : c2.length = 7) (hl3 : c3.length = 7)  (Q : Exit → Act → World → Prop) (a0 : Act) (W : World) (hsz : a0.tmps.size = 180) (hqv : EvalF (quad e1 e2 e3 (leaf 1 7)) x = (7, 0)) (g22 : (Is (.int .i64 ((EvalF (quad e1 e2 e3 (leaf 1 7)) x).1))) W (a0.eval (.tmp 22))) (g23 : (Is (.int .i64 ((EvalF (quad e1 e2 e3 (leaf 1 7)) x).2))) W (a0.eval (.tmp 23)))
    (hQ : ∀ a1 W1, Ext W W1 → (∀ t, ld24D.contains (some t) = false → a1.eval (.tmp t) = a0.eval (.tmp t)) → a1.tmps.size = 180 → a1.defers = a0.defers → (Is (.bool true)) W1 (a1.eval (.tmp 10)) → Q .normal a1 W1) : ldC24.wp Try.prog Q a0 W := by
  conv => arg 2; whnf
  refine wp_region_sq 7 ld24D (ld24P x n c1 c2 c3 e1 e2 e3 ) 180 (by kernel_rfl) hsz ?_ ?_ ?_
  · exact AllSt.cons (Is.st _) (AllSt.cons (Is.st _) (AllSt.cons (Is.st _) (AllSt.cons (Is.st _) (AllSt.cons (Is.st _) (AllSt.cons (Is.st _) (AllSt.cons (Is.st _) (AllSt.nil)))))))
  · simp only [List.take_succ_cons, List.take_zero]
    refine ObL.cons trivial (fun v ρ w hx hd S => op_move (p := Is (.int .i64 ((EvalF (quad e1 e2 e3 (leaf 1 7)) x).2))) (.inl rfl) (S.out rfl ((Is.st _) _ _ _ hx g23))) ?_
    refine ObL.cons trivial (fun v ρ w hx hd S => (op_eql rfl (S.dep 0 rfl (hd 0 rfl)) (S.c _)).mono fun u w1 hu => ⟨hu.1, hu.2.trans (congrArg Value.bool (by rw [hqv]; simp))⟩) ?_
    refine ObL.cons trivial (fun v ρ w hx hd S => op_move (p := Is (.bool true)) (.inl rfl) (S.dep 1 rfl (hd 1 rfl))) ?_
    refine ObL.cons ⟨rfl, fun w u h => h⟩ (fun v ρ w hx hd S => op_move (p := Is (.int .i64 ((EvalF (quad e1 e2 e3 (leaf 1 7)) x).1))) (.inl rfl) (S.out rfl ((Is.st _) _ _ _ hx g22))) ?_
    refine ObL.cons ⟨rfl, fun w u h => h⟩ (fun v ρ w hx hd S => (op_eql rfl (S.dep 3 rfl (hd 3 rfl)) (S.c _)).mono fun u w1 hu => ⟨hu.1, hu.2.trans (congrArg Value.bool (by rw [hqv]; simp))⟩) ?_
    refine ObL.cons trivial (fun v ρ w hx hd S => op_pick (p := Is (.bool true)) true rfl (S.dep 2 rfl (hd 2 rfl)) (S.dep 4 rfl (hd 4 rfl))) ?_
    refine ObL.cons trivial (fun v ρ w hx hd S => op_move (p := Is (.bool true)) (.inr rfl) (S.dep 5 rfl (hd 5 rfl))) ?_
    exact ObL.nil
  · intro v a1 w hx hPP S hs hdf
    refine wpList_nil ?_
    exact hQ a1 w hx S.o hs hdf (S.dep 6 rfl (hPP 6 (by decide)))
set_option maxRecDepth 100000 in
set_option maxHeartbeats 2000000 in
theorem tevalChooses_any (x : Ev) (hok : x.ok) (n : Int) (c1 c2 c3 : List Value) (e1 e2 e3 : Ex) (w : World) (he1 : ExR w c1 e1) (he2 : ExR w c2 e2) (he3 : ExR w c3 e3) : Calls Try.prog 7 #[.agg c1.toArray, .agg c2.toArray, .agg c3.toArray, .agg x.cells.toArray, .int .i64 n] w fun en w1 => en = .returned (.bool true) ∧ Ext w w1 := by
  go_enter Try.func7, Try.ntmps7
  have hW : Ext w w := .refl _
  have hs0 : True := trivial
  have hd0 : ([] : List Deferred) = [] := rfl
  have g0 : (Is (.agg c1.toArray)) w (.agg c1.toArray) := rfl
  have g1 : (Is (.agg c2.toArray)) w (.agg c2.toArray) := rfl
  have g2 : (Is (.agg c3.toArray)) w (.agg c3.toArray) := rfl
  have g3 : (Is (.agg x.cells.toArray)) w (.agg x.cells.toArray) := rfl
  have g4 : (Is (.int .i64 n)) w (.int .i64 n) := rfl
  have hl1 : c1.length = 7 := he1.elim fun _ h => h.len
  have hl2 : c2.length = 7 := he2.elim fun _ h => h.len
  have hl3 : c3.length = 7 := he3.elim fun _ h => h.len
  refine wp_seq (ld0 x hok n c1 c2 c3 e1 e2 e3 hl1 hl2 hl3  _ _ _ rfl  g0 g1 g2 g3 fun a1 W1 hx1 ho1 hs1 hd1 g5 g6 g7 g8 => ?_)
  refine then_normal ?_
  replace g4 : (Is (.int .i64 n)) W1 (a1.eval (.tmp 4)) := by rw [ho1 4 rfl]; exact (Is.st _) _ _ _ hx1 g4
  replace hW : Ext w W1 := hW.trans hx1
  replace hd1 : a1.defers = [] := hd1.trans hd0
  replace he1 := he1.ext hx1
  replace he2 := he2.ext hx1
  replace he3 := he3.ext hx1
  clear hx1 ho1
  refine wp_seq ?_
  refine wp_seq (ld1 x hok n c1 c2 c3 e1 e2 e3 hl1 hl2 hl3  _ _ _ hs1   fun a2 W2 hx2 ho2 hs2 hd2 g29 => ?_)
  refine then_normal ?_
  replace g4 : (Is (.int .i64 n)) W2 (a2.eval (.tmp 4)) := by rw [ho2 4 rfl]; exact (Is.st _) _ _ _ hx2 g4
  replace g5 : (VarP 7 (Is (.agg c1.toArray))) W2 (a2.eval (.tmp 5)) := by rw [ho2 5 rfl]; exact (VarP.st (Is.st _)) _ _ _ hx2 g5
  replace g6 : (VarP 7 (Is (.agg c2.toArray))) W2 (a2.eval (.tmp 6)) := by rw [ho2 6 rfl]; exact (VarP.st (Is.st _)) _ _ _ hx2 g6
  replace g7 : (VarP 7 (Is (.agg c3.toArray))) W2 (a2.eval (.tmp 7)) := by rw [ho2 7 rfl]; exact (VarP.st (Is.st _)) _ _ _ hx2 g7
  replace g8 : (VarP 17 (Is (.agg x.cells.toArray))) W2 (a2.eval (.tmp 8)) := by rw [ho2 8 rfl]; exact (VarP.st (Is.st _)) _ _ _ hx2 g8
  replace hW : Ext w W2 := hW.trans hx2
  replace hd2 : a2.defers = [] := hd2.trans hd1
  replace he1 := he1.ext hx2
  replace he2 := he2.ext hx2
  replace he3 := he3.ext hx2
  clear hx2 ho2
  refine cond_f g29 ?_
  refine wp_skip ?_
  refine then_normal ?_
  refine wp_seq ?_
  by_cases hc0 : (fewF e1) = false
  case pos =>
    refine wp_seq (ld3a x hok n c1 c2 c3 e1 e2 e3 hl1 hl2 hl3  _ _ _ hs2 he1 he2 he3 hc0 g5 fun a3 W3 hx3 ho3 hs3 hd3 g57 => ?_)
    refine then_normal ?_
    replace g4 : (Is (.int .i64 n)) W3 (a3.eval (.tmp 4)) := by rw [ho3 4 rfl]; exact (Is.st _) _ _ _ hx3 g4
    replace g5 : (VarP 7 (Is (.agg c1.toArray))) W3 (a3.eval (.tmp 5)) := by rw [ho3 5 rfl]; exact (VarP.st (Is.st _)) _ _ _ hx3 g5
    replace g6 : (VarP 7 (Is (.agg c2.toArray))) W3 (a3.eval (.tmp 6)) := by rw [ho3 6 rfl]; exact (VarP.st (Is.st _)) _ _ _ hx3 g6
    replace g7 : (VarP 7 (Is (.agg c3.toArray))) W3 (a3.eval (.tmp 7)) := by rw [ho3 7 rfl]; exact (VarP.st (Is.st _)) _ _ _ hx3 g7
    replace g8 : (VarP 17 (Is (.agg x.cells.toArray))) W3 (a3.eval (.tmp 8)) := by rw [ho3 8 rfl]; exact (VarP.st (Is.st _)) _ _ _ hx3 g8
    replace g29 : (Is (.bool false)) W3 (a3.eval (.tmp 29)) := by rw [ho3 29 rfl]; exact (Is.st _) _ _ _ hx3 g29
    replace hW : Ext w W3 := hW.trans hx3
    replace hd3 : a3.defers = [] := hd3.trans hd2
    replace he1 := he1.ext hx3
    replace he2 := he2.ext hx3
    replace he3 := he3.ext hx3
    clear hx3 ho3
    refine cond_t g57 ?_
    refine wp_seq (ld4 x hok n c1 c2 c3 e1 e2 e3 hl1 hl2 hl3  _ _ _ hs3   fun a4 W4 hx4 ho4 hs4 hd4 g10 => ?_)
    refine then_normal ?_
    replace g4 : (Is (.int .i64 n)) W4 (a4.eval (.tmp 4)) := by rw [ho4 4 rfl]; exact (Is.st _) _ _ _ hx4 g4
    replace g5 : (VarP 7 (Is (.agg c1.toArray))) W4 (a4.eval (.tmp 5)) := by rw [ho4 5 rfl]; exact (VarP.st (Is.st _)) _ _ _ hx4 g5
    replace g6 : (VarP 7 (Is (.agg c2.toArray))) W4 (a4.eval (.tmp 6)) := by rw [ho4 6 rfl]; exact (VarP.st (Is.st _)) _ _ _ hx4 g6
    replace g7 : (VarP 7 (Is (.agg c3.toArray))) W4 (a4.eval (.tmp 7)) := by rw [ho4 7 rfl]; exact (VarP.st (Is.st _)) _ _ _ hx4 g7
    replace g8 : (VarP 17 (Is (.agg x.cells.toArray))) W4 (a4.eval (.tmp 8)) := by rw [ho4 8 rfl]; exact (VarP.st (Is.st _)) _ _ _ hx4 g8
    replace g29 : (Is (.bool false)) W4 (a4.eval (.tmp 29)) := by rw [ho4 29 rfl]; exact (Is.st _) _ _ _ hx4 g29
    replace g57 : (Is (.bool true)) W4 (a4.eval (.tmp 57)) := by rw [ho4 57 rfl]; exact (Is.st _) _ _ _ hx4 g57
    replace hW : Ext w W4 := hW.trans hx4
    replace hd4 : a4.defers = [] := hd4.trans hd3
    replace he1 := he1.ext hx4
    replace he2 := he2.ext hx4
    replace he3 := he3.ext hx4
    clear hx4 ho4
    refine wp_ret ?_
    show bodyPost Try.prog Try.f7 (fun en w1 => en = .returned (.bool true) ∧ Ext w w1) .ret _ _
    exact ret_is Try.results7 hd4 g10 ⟨rfl, hW⟩
  rw [Bool.not_eq_false] at hc0
  by_cases hc1 : (fewF e2) = false
  case pos =>
    refine wp_seq (ld3b x hok n c1 c2 c3 e1 e2 e3 hl1 hl2 hl3  _ _ _ hs2 he1 he2 he3 hc0 hc1 g5 g6 fun a5 W5 hx5 ho5 hs5 hd5 g57 => ?_)
    refine then_normal ?_
    replace g4 : (Is (.int .i64 n)) W5 (a5.eval (.tmp 4)) := by rw [ho5 4 rfl]; exact (Is.st _) _ _ _ hx5 g4
    replace g5 : (VarP 7 (Is (.agg c1.toArray))) W5 (a5.eval (.tmp 5)) := by rw [ho5 5 rfl]; exact (VarP.st (Is.st _)) _ _ _ hx5 g5
    replace g6 : (VarP 7 (Is (.agg c2.toArray))) W5 (a5.eval (.tmp 6)) := by rw [ho5 6 rfl]; exact (VarP.st (Is.st _)) _ _ _ hx5 g6
    replace g7 : (VarP 7 (Is (.agg c3.toArray))) W5 (a5.eval (.tmp 7)) := by rw [ho5 7 rfl]; exact (VarP.st (Is.st _)) _ _ _ hx5 g7
    replace g8 : (VarP 17 (Is (.agg x.cells.toArray))) W5 (a5.eval (.tmp 8)) := by rw [ho5 8 rfl]; exact (VarP.st (Is.st _)) _ _ _ hx5 g8
    replace g29 : (Is (.bool false)) W5 (a5.eval (.tmp 29)) := by rw [ho5 29 rfl]; exact (Is.st _) _ _ _ hx5 g29
    replace hW : Ext w W5 := hW.trans hx5
    replace hd5 : a5.defers = [] := hd5.trans hd2
    replace he1 := he1.ext hx5
    replace he2 := he2.ext hx5
    replace he3 := he3.ext hx5
    clear hx5 ho5
    refine cond_t g57 ?_
    refine wp_seq (ld4 x hok n c1 c2 c3 e1 e2 e3 hl1 hl2 hl3  _ _ _ hs5   fun a6 W6 hx6 ho6 hs6 hd6 g10 => ?_)
    refine then_normal ?_
    replace g4 : (Is (.int .i64 n)) W6 (a6.eval (.tmp 4)) := by rw [ho6 4 rfl]; exact (Is.st _) _ _ _ hx6 g4
    replace g5 : (VarP 7 (Is (.agg c1.toArray))) W6 (a6.eval (.tmp 5)) := by rw [ho6 5 rfl]; exact (VarP.st (Is.st _)) _ _ _ hx6 g5
    replace g6 : (VarP 7 (Is (.agg c2.toArray))) W6 (a6.eval (.tmp 6)) := by rw [ho6 6 rfl]; exact (VarP.st (Is.st _)) _ _ _ hx6 g6
    replace g7 : (VarP 7 (Is (.agg c3.toArray))) W6 (a6.eval (.tmp 7)) := by rw [ho6 7 rfl]; exact (VarP.st (Is.st _)) _ _ _ hx6 g7
    replace g8 : (VarP 17 (Is (.agg x.cells.toArray))) W6 (a6.eval (.tmp 8)) := by rw [ho6 8 rfl]; exact (VarP.st (Is.st _)) _ _ _ hx6 g8
    replace g29 : (Is (.bool false)) W6 (a6.eval (.tmp 29)) := by rw [ho6 29 rfl]; exact (Is.st _) _ _ _ hx6 g29
    replace g57 : (Is (.bool true)) W6 (a6.eval (.tmp 57)) := by rw [ho6 57 rfl]; exact (Is.st _) _ _ _ hx6 g57
    replace hW : Ext w W6 := hW.trans hx6
    replace hd6 : a6.defers = [] := hd6.trans hd5
    replace he1 := he1.ext hx6
    replace he2 := he2.ext hx6
    replace he3 := he3.ext hx6
    clear hx6 ho6
    refine wp_ret ?_
    show bodyPost Try.prog Try.f7 (fun en w1 => en = .returned (.bool true) ∧ Ext w w1) .ret _ _
    exact ret_is Try.results7 hd6 g10 ⟨rfl, hW⟩
  rw [Bool.not_eq_false] at hc1
  by_cases hc2 : (fewF e3) = false
  case pos =>
    refine wp_seq (ld3c x hok n c1 c2 c3 e1 e2 e3 hl1 hl2 hl3  _ _ _ hs2 he1 he2 he3 hc0 hc1 hc2 g5 g6 g7 fun a7 W7 hx7 ho7 hs7 hd7 g57 => ?_)
    refine then_normal ?_
    replace g4 : (Is (.int .i64 n)) W7 (a7.eval (.tmp 4)) := by rw [ho7 4 rfl]; exact (Is.st _) _ _ _ hx7 g4
    replace g5 : (VarP 7 (Is (.agg c1.toArray))) W7 (a7.eval (.tmp 5)) := by rw [ho7 5 rfl]; exact (VarP.st (Is.st _)) _ _ _ hx7 g5
    replace g6 : (VarP 7 (Is (.agg c2.toArray))) W7 (a7.eval (.tmp 6)) := by rw [ho7 6 rfl]; exact (VarP.st (Is.st _)) _ _ _ hx7 g6
    replace g7 : (VarP 7 (Is (.agg c3.toArray))) W7 (a7.eval (.tmp 7)) := by rw [ho7 7 rfl]; exact (VarP.st (Is.st _)) _ _ _ hx7 g7
    replace g8 : (VarP 17 (Is (.agg x.cells.toArray))) W7 (a7.eval (.tmp 8)) := by rw [ho7 8 rfl]; exact (VarP.st (Is.st _)) _ _ _ hx7 g8
    replace g29 : (Is (.bool false)) W7 (a7.eval (.tmp 29)) := by rw [ho7 29 rfl]; exact (Is.st _) _ _ _ hx7 g29
    replace hW : Ext w W7 := hW.trans hx7
    replace hd7 : a7.defers = [] := hd7.trans hd2
    replace he1 := he1.ext hx7
    replace he2 := he2.ext hx7
    replace he3 := he3.ext hx7
    clear hx7 ho7
    refine cond_t g57 ?_
    refine wp_seq (ld4 x hok n c1 c2 c3 e1 e2 e3 hl1 hl2 hl3  _ _ _ hs7   fun a8 W8 hx8 ho8 hs8 hd8 g10 => ?_)
    refine then_normal ?_
    replace g4 : (Is (.int .i64 n)) W8 (a8.eval (.tmp 4)) := by rw [ho8 4 rfl]; exact (Is.st _) _ _ _ hx8 g4
    replace g5 : (VarP 7 (Is (.agg c1.toArray))) W8 (a8.eval (.tmp 5)) := by rw [ho8 5 rfl]; exact (VarP.st (Is.st _)) _ _ _ hx8 g5
    replace g6 : (VarP 7 (Is (.agg c2.toArray))) W8 (a8.eval (.tmp 6)) := by rw [ho8 6 rfl]; exact (VarP.st (Is.st _)) _ _ _ hx8 g6
    replace g7 : (VarP 7 (Is (.agg c3.toArray))) W8 (a8.eval (.tmp 7)) := by rw [ho8 7 rfl]; exact (VarP.st (Is.st _)) _ _ _ hx8 g7
    replace g8 : (VarP 17 (Is (.agg x.cells.toArray))) W8 (a8.eval (.tmp 8)) := by rw [ho8 8 rfl]; exact (VarP.st (Is.st _)) _ _ _ hx8 g8
    replace g29 : (Is (.bool false)) W8 (a8.eval (.tmp 29)) := by rw [ho8 29 rfl]; exact (Is.st _) _ _ _ hx8 g29
    replace g57 : (Is (.bool true)) W8 (a8.eval (.tmp 57)) := by rw [ho8 57 rfl]; exact (Is.st _) _ _ _ hx8 g57
    replace hW : Ext w W8 := hW.trans hx8
    replace hd8 : a8.defers = [] := hd8.trans hd7
    replace he1 := he1.ext hx8
    replace he2 := he2.ext hx8
    replace he3 := he3.ext hx8
    clear hx8 ho8
    refine wp_ret ?_
    show bodyPost Try.prog Try.f7 (fun en w1 => en = .returned (.bool true) ∧ Ext w w1) .ret _ _
    exact ret_is Try.results7 hd8 g10 ⟨rfl, hW⟩
  rw [Bool.not_eq_false] at hc2
  by_cases hc3 : (formF 23 e1) = false
  case pos =>
    refine wp_seq (ld3d x hok n c1 c2 c3 e1 e2 e3 hl1 hl2 hl3  _ _ _ hs2 he1 he2 he3 hc0 hc1 hc2 hc3 g5 g6 g7 fun a9 W9 hx9 ho9 hs9 hd9 g57 => ?_)
    refine then_normal ?_
    replace g4 : (Is (.int .i64 n)) W9 (a9.eval (.tmp 4)) := by rw [ho9 4 rfl]; exact (Is.st _) _ _ _ hx9 g4
    replace g5 : (VarP 7 (Is (.agg c1.toArray))) W9 (a9.eval (.tmp 5)) := by rw [ho9 5 rfl]; exact (VarP.st (Is.st _)) _ _ _ hx9 g5
    replace g6 : (VarP 7 (Is (.agg c2.toArray))) W9 (a9.eval (.tmp 6)) := by rw [ho9 6 rfl]; exact (VarP.st (Is.st _)) _ _ _ hx9 g6
    replace g7 : (VarP 7 (Is (.agg c3.toArray))) W9 (a9.eval (.tmp 7)) := by rw [ho9 7 rfl]; exact (VarP.st (Is.st _)) _ _ _ hx9 g7
    replace g8 : (VarP 17 (Is (.agg x.cells.toArray))) W9 (a9.eval (.tmp 8)) := by rw [ho9 8 rfl]; exact (VarP.st (Is.st _)) _ _ _ hx9 g8
    replace g29 : (Is (.bool false)) W9 (a9.eval (.tmp 29)) := by rw [ho9 29 rfl]; exact (Is.st _) _ _ _ hx9 g29
    replace hW : Ext w W9 := hW.trans hx9
    replace hd9 : a9.defers = [] := hd9.trans hd2
    replace he1 := he1.ext hx9
    replace he2 := he2.ext hx9
    replace he3 := he3.ext hx9
    clear hx9 ho9
    refine cond_t g57 ?_
    refine wp_seq (ld4 x hok n c1 c2 c3 e1 e2 e3 hl1 hl2 hl3  _ _ _ hs9   fun a10 W10 hx10 ho10 hs10 hd10 g10 => ?_)
    refine then_normal ?_
    replace g4 : (Is (.int .i64 n)) W10 (a10.eval (.tmp 4)) := by rw [ho10 4 rfl]; exact (Is.st _) _ _ _ hx10 g4
    replace g5 : (VarP 7 (Is (.agg c1.toArray))) W10 (a10.eval (.tmp 5)) := by rw [ho10 5 rfl]; exact (VarP.st (Is.st _)) _ _ _ hx10 g5
    replace g6 : (VarP 7 (Is (.agg c2.toArray))) W10 (a10.eval (.tmp 6)) := by rw [ho10 6 rfl]; exact (VarP.st (Is.st _)) _ _ _ hx10 g6
    replace g7 : (VarP 7 (Is (.agg c3.toArray))) W10 (a10.eval (.tmp 7)) := by rw [ho10 7 rfl]; exact (VarP.st (Is.st _)) _ _ _ hx10 g7
    replace g8 : (VarP 17 (Is (.agg x.cells.toArray))) W10 (a10.eval (.tmp 8)) := by rw [ho10 8 rfl]; exact (VarP.st (Is.st _)) _ _ _ hx10 g8
    replace g29 : (Is (.bool false)) W10 (a10.eval (.tmp 29)) := by rw [ho10 29 rfl]; exact (Is.st _) _ _ _ hx10 g29
    replace g57 : (Is (.bool true)) W10 (a10.eval (.tmp 57)) := by rw [ho10 57 rfl]; exact (Is.st _) _ _ _ hx10 g57
    replace hW : Ext w W10 := hW.trans hx10
    replace hd10 : a10.defers = [] := hd10.trans hd9
    replace he1 := he1.ext hx10
    replace he2 := he2.ext hx10
    replace he3 := he3.ext hx10
    clear hx10 ho10
    refine wp_ret ?_
    show bodyPost Try.prog Try.f7 (fun en w1 => en = .returned (.bool true) ∧ Ext w w1) .ret _ _
    exact ret_is Try.results7 hd10 g10 ⟨rfl, hW⟩
  rw [Bool.not_eq_false] at hc3
  by_cases hc4 : (formF 23 e2) = false
  case pos =>
    refine wp_seq (ld3e x hok n c1 c2 c3 e1 e2 e3 hl1 hl2 hl3  _ _ _ hs2 he1 he2 he3 hc0 hc1 hc2 hc3 hc4 g5 g6 g7 fun a11 W11 hx11 ho11 hs11 hd11 g57 => ?_)
    refine then_normal ?_
    replace g4 : (Is (.int .i64 n)) W11 (a11.eval (.tmp 4)) := by rw [ho11 4 rfl]; exact (Is.st _) _ _ _ hx11 g4
    replace g5 : (VarP 7 (Is (.agg c1.toArray))) W11 (a11.eval (.tmp 5)) := by rw [ho11 5 rfl]; exact (VarP.st (Is.st _)) _ _ _ hx11 g5
    replace g6 : (VarP 7 (Is (.agg c2.toArray))) W11 (a11.eval (.tmp 6)) := by rw [ho11 6 rfl]; exact (VarP.st (Is.st _)) _ _ _ hx11 g6
    replace g7 : (VarP 7 (Is (.agg c3.toArray))) W11 (a11.eval (.tmp 7)) := by rw [ho11 7 rfl]; exact (VarP.st (Is.st _)) _ _ _ hx11 g7
    replace g8 : (VarP 17 (Is (.agg x.cells.toArray))) W11 (a11.eval (.tmp 8)) := by rw [ho11 8 rfl]; exact (VarP.st (Is.st _)) _ _ _ hx11 g8
    replace g29 : (Is (.bool false)) W11 (a11.eval (.tmp 29)) := by rw [ho11 29 rfl]; exact (Is.st _) _ _ _ hx11 g29
    replace hW : Ext w W11 := hW.trans hx11
    replace hd11 : a11.defers = [] := hd11.trans hd2
    replace he1 := he1.ext hx11
    replace he2 := he2.ext hx11
    replace he3 := he3.ext hx11
    clear hx11 ho11
    refine cond_t g57 ?_
    refine wp_seq (ld4 x hok n c1 c2 c3 e1 e2 e3 hl1 hl2 hl3  _ _ _ hs11   fun a12 W12 hx12 ho12 hs12 hd12 g10 => ?_)
    refine then_normal ?_
    replace g4 : (Is (.int .i64 n)) W12 (a12.eval (.tmp 4)) := by rw [ho12 4 rfl]; exact (Is.st _) _ _ _ hx12 g4
    replace g5 : (VarP 7 (Is (.agg c1.toArray))) W12 (a12.eval (.tmp 5)) := by rw [ho12 5 rfl]; exact (VarP.st (Is.st _)) _ _ _ hx12 g5
    replace g6 : (VarP 7 (Is (.agg c2.toArray))) W12 (a12.eval (.tmp 6)) := by rw [ho12 6 rfl]; exact (VarP.st (Is.st _)) _ _ _ hx12 g6
    replace g7 : (VarP 7 (Is (.agg c3.toArray))) W12 (a12.eval (.tmp 7)) := by rw [ho12 7 rfl]; exact (VarP.st (Is.st _)) _ _ _ hx12 g7
    replace g8 : (VarP 17 (Is (.agg x.cells.toArray))) W12 (a12.eval (.tmp 8)) := by rw [ho12 8 rfl]; exact (VarP.st (Is.st _)) _ _ _ hx12 g8
    replace g29 : (Is (.bool false)) W12 (a12.eval (.tmp 29)) := by rw [ho12 29 rfl]; exact (Is.st _) _ _ _ hx12 g29
    replace g57 : (Is (.bool true)) W12 (a12.eval (.tmp 57)) := by rw [ho12 57 rfl]; exact (Is.st _) _ _ _ hx12 g57
    replace hW : Ext w W12 := hW.trans hx12
    replace hd12 : a12.defers = [] := hd12.trans hd11
    replace he1 := he1.ext hx12
    replace he2 := he2.ext hx12
    replace he3 := he3.ext hx12
    clear hx12 ho12
    refine wp_ret ?_
    show bodyPost Try.prog Try.f7 (fun en w1 => en = .returned (.bool true) ∧ Ext w w1) .ret _ _
    exact ret_is Try.results7 hd12 g10 ⟨rfl, hW⟩
  rw [Bool.not_eq_false] at hc4
  by_cases hc5 : (formF 23 e3) = false
  case pos =>
    refine wp_seq (ld3f x hok n c1 c2 c3 e1 e2 e3 hl1 hl2 hl3  _ _ _ hs2 he1 he2 he3 hc0 hc1 hc2 hc3 hc4 hc5 g5 g6 g7 fun a13 W13 hx13 ho13 hs13 hd13 g57 => ?_)
    refine then_normal ?_
    replace g4 : (Is (.int .i64 n)) W13 (a13.eval (.tmp 4)) := by rw [ho13 4 rfl]; exact (Is.st _) _ _ _ hx13 g4
    replace g5 : (VarP 7 (Is (.agg c1.toArray))) W13 (a13.eval (.tmp 5)) := by rw [ho13 5 rfl]; exact (VarP.st (Is.st _)) _ _ _ hx13 g5
    replace g6 : (VarP 7 (Is (.agg c2.toArray))) W13 (a13.eval (.tmp 6)) := by rw [ho13 6 rfl]; exact (VarP.st (Is.st _)) _ _ _ hx13 g6
    replace g7 : (VarP 7 (Is (.agg c3.toArray))) W13 (a13.eval (.tmp 7)) := by rw [ho13 7 rfl]; exact (VarP.st (Is.st _)) _ _ _ hx13 g7
    replace g8 : (VarP 17 (Is (.agg x.cells.toArray))) W13 (a13.eval (.tmp 8)) := by rw [ho13 8 rfl]; exact (VarP.st (Is.st _)) _ _ _ hx13 g8
    replace g29 : (Is (.bool false)) W13 (a13.eval (.tmp 29)) := by rw [ho13 29 rfl]; exact (Is.st _) _ _ _ hx13 g29
    replace hW : Ext w W13 := hW.trans hx13
    replace hd13 : a13.defers = [] := hd13.trans hd2
    replace he1 := he1.ext hx13
    replace he2 := he2.ext hx13
    replace he3 := he3.ext hx13
    clear hx13 ho13
    refine cond_t g57 ?_
    refine wp_seq (ld4 x hok n c1 c2 c3 e1 e2 e3 hl1 hl2 hl3  _ _ _ hs13   fun a14 W14 hx14 ho14 hs14 hd14 g10 => ?_)
    refine then_normal ?_
    replace g4 : (Is (.int .i64 n)) W14 (a14.eval (.tmp 4)) := by rw [ho14 4 rfl]; exact (Is.st _) _ _ _ hx14 g4
    replace g5 : (VarP 7 (Is (.agg c1.toArray))) W14 (a14.eval (.tmp 5)) := by rw [ho14 5 rfl]; exact (VarP.st (Is.st _)) _ _ _ hx14 g5
    replace g6 : (VarP 7 (Is (.agg c2.toArray))) W14 (a14.eval (.tmp 6)) := by rw [ho14 6 rfl]; exact (VarP.st (Is.st _)) _ _ _ hx14 g6
    replace g7 : (VarP 7 (Is (.agg c3.toArray))) W14 (a14.eval (.tmp 7)) := by rw [ho14 7 rfl]; exact (VarP.st (Is.st _)) _ _ _ hx14 g7
    replace g8 : (VarP 17 (Is (.agg x.cells.toArray))) W14 (a14.eval (.tmp 8)) := by rw [ho14 8 rfl]; exact (VarP.st (Is.st _)) _ _ _ hx14 g8
    replace g29 : (Is (.bool false)) W14 (a14.eval (.tmp 29)) := by rw [ho14 29 rfl]; exact (Is.st _) _ _ _ hx14 g29
    replace g57 : (Is (.bool true)) W14 (a14.eval (.tmp 57)) := by rw [ho14 57 rfl]; exact (Is.st _) _ _ _ hx14 g57
    replace hW : Ext w W14 := hW.trans hx14
    replace hd14 : a14.defers = [] := hd14.trans hd13
    replace he1 := he1.ext hx14
    replace he2 := he2.ext hx14
    replace he3 := he3.ext hx14
    clear hx14 ho14
    refine wp_ret ?_
    show bodyPost Try.prog Try.f7 (fun en w1 => en = .returned (.bool true) ∧ Ext w w1) .ret _ _
    exact ret_is Try.results7 hd14 g10 ⟨rfl, hW⟩
  rw [Bool.not_eq_false] at hc5
  refine wp_seq (ld3g x hok n c1 c2 c3 e1 e2 e3 hl1 hl2 hl3  _ _ _ hs2 he1 he2 he3 hc0 hc1 hc2 hc3 hc4 hc5 g5 g6 g7 fun a15 W15 hx15 ho15 hs15 hd15 g57 => ?_)
  refine then_normal ?_
  replace g4 : (Is (.int .i64 n)) W15 (a15.eval (.tmp 4)) := by rw [ho15 4 rfl]; exact (Is.st _) _ _ _ hx15 g4
  replace g5 : (VarP 7 (Is (.agg c1.toArray))) W15 (a15.eval (.tmp 5)) := by rw [ho15 5 rfl]; exact (VarP.st (Is.st _)) _ _ _ hx15 g5
  replace g6 : (VarP 7 (Is (.agg c2.toArray))) W15 (a15.eval (.tmp 6)) := by rw [ho15 6 rfl]; exact (VarP.st (Is.st _)) _ _ _ hx15 g6
  replace g7 : (VarP 7 (Is (.agg c3.toArray))) W15 (a15.eval (.tmp 7)) := by rw [ho15 7 rfl]; exact (VarP.st (Is.st _)) _ _ _ hx15 g7
  replace g8 : (VarP 17 (Is (.agg x.cells.toArray))) W15 (a15.eval (.tmp 8)) := by rw [ho15 8 rfl]; exact (VarP.st (Is.st _)) _ _ _ hx15 g8
  replace hW : Ext w W15 := hW.trans hx15
  replace hd15 : a15.defers = [] := hd15.trans hd2
  replace he1 := he1.ext hx15
  replace he2 := he2.ext hx15
  replace he3 := he3.ext hx15
  clear hx15 ho15
  refine cond_f g57 ?_
  refine wp_skip ?_
  refine then_normal ?_
  refine wp_seq (ld5 x hok n c1 c2 c3 e1 e2 e3 hl1 hl2 hl3  _ _ _ hs15  g4 fun a16 W16 hx16 ho16 hs16 hd16 g11 => ?_)
  refine then_normal ?_
  replace g4 : (Is (.int .i64 n)) W16 (a16.eval (.tmp 4)) := by rw [ho16 4 rfl]; exact (Is.st _) _ _ _ hx16 g4
  replace g5 : (VarP 7 (Is (.agg c1.toArray))) W16 (a16.eval (.tmp 5)) := by rw [ho16 5 rfl]; exact (VarP.st (Is.st _)) _ _ _ hx16 g5
  replace g6 : (VarP 7 (Is (.agg c2.toArray))) W16 (a16.eval (.tmp 6)) := by rw [ho16 6 rfl]; exact (VarP.st (Is.st _)) _ _ _ hx16 g6
  replace g7 : (VarP 7 (Is (.agg c3.toArray))) W16 (a16.eval (.tmp 7)) := by rw [ho16 7 rfl]; exact (VarP.st (Is.st _)) _ _ _ hx16 g7
  replace g8 : (VarP 17 (Is (.agg x.cells.toArray))) W16 (a16.eval (.tmp 8)) := by rw [ho16 8 rfl]; exact (VarP.st (Is.st _)) _ _ _ hx16 g8
  replace hW : Ext w W16 := hW.trans hx16
  replace hd16 : a16.defers = [] := hd16.trans hd15
  replace he1 := he1.ext hx16
  replace he2 := he2.ext hx16
  replace he3 := he3.ext hx16
  clear hx16 ho16
  refine wp_seq (ld6 x hok n c1 c2 c3 e1 e2 e3 hl1 hl2 hl3  _ _ _ hs16   fun a17 W17 hx17 ho17 hs17 hd17  cf hlf hef g12 => ?_)
  refine then_normal ?_
  replace g5 : (VarP 7 (Is (.agg c1.toArray))) W17 (a17.eval (.tmp 5)) := by rw [ho17 5 rfl]; exact (VarP.st (Is.st _)) _ _ _ hx17 g5
  replace g6 : (VarP 7 (Is (.agg c2.toArray))) W17 (a17.eval (.tmp 6)) := by rw [ho17 6 rfl]; exact (VarP.st (Is.st _)) _ _ _ hx17 g6
  replace g7 : (VarP 7 (Is (.agg c3.toArray))) W17 (a17.eval (.tmp 7)) := by rw [ho17 7 rfl]; exact (VarP.st (Is.st _)) _ _ _ hx17 g7
  replace g8 : (VarP 17 (Is (.agg x.cells.toArray))) W17 (a17.eval (.tmp 8)) := by rw [ho17 8 rfl]; exact (VarP.st (Is.st _)) _ _ _ hx17 g8
  replace g11 : (Is (.int .i64 ((kF n)))) W17 (a17.eval (.tmp 11)) := by rw [ho17 11 rfl]; exact (Is.st _) _ _ _ hx17 g11
  replace hW : Ext w W17 := hW.trans hx17
  replace hd17 : a17.defers = [] := hd17.trans hd16
  replace he1 := he1.ext hx17
  replace he2 := he2.ext hx17
  replace he3 := he3.ext hx17
  clear hx17 ho17
  refine wp_seq (ld7 x hok n c1 c2 c3 e1 e2 e3 hl1 hl2 hl3 cf hlf _ _ _ hs17 he1 he2 he3 hef g5 g11 g12 fun a18 W18 hx18 ho18 hs18 hd18  g13 => ?_)
  refine then_normal ?_
  replace g5 : (VarP 7 (Is (.agg c1.toArray))) W18 (a18.eval (.tmp 5)) := by rw [ho18 5 rfl]; exact (VarP.st (Is.st _)) _ _ _ hx18 g5
  replace g6 : (VarP 7 (Is (.agg c2.toArray))) W18 (a18.eval (.tmp 6)) := by rw [ho18 6 rfl]; exact (VarP.st (Is.st _)) _ _ _ hx18 g6
  replace g7 : (VarP 7 (Is (.agg c3.toArray))) W18 (a18.eval (.tmp 7)) := by rw [ho18 7 rfl]; exact (VarP.st (Is.st _)) _ _ _ hx18 g7
  replace g8 : (VarP 17 (Is (.agg x.cells.toArray))) W18 (a18.eval (.tmp 8)) := by rw [ho18 8 rfl]; exact (VarP.st (Is.st _)) _ _ _ hx18 g8
  replace g11 : (Is (.int .i64 ((kF n)))) W18 (a18.eval (.tmp 11)) := by rw [ho18 11 rfl]; exact (Is.st _) _ _ _ hx18 g11
  replace g12 : (VarP 7 (Is (.agg cf.toArray))) W18 (a18.eval (.tmp 12)) := by rw [ho18 12 rfl]; exact (VarP.st (Is.st _)) _ _ _ hx18 g12
  replace hW : Ext w W18 := hW.trans hx18
  replace hd18 : a18.defers = [] := hd18.trans hd17
  replace he1 := he1.ext hx18
  replace he2 := he2.ext hx18
  replace he3 := he3.ext hx18
  replace hef := hef.ext hx18
  clear hx18 ho18
  refine wp_seq (ld8 x hok n c1 c2 c3 e1 e2 e3 hl1 hl2 hl3 cf hlf _ _ _ hs18 he1 he2 he3 hef g5 g11 g12 fun a19 W19 hx19 ho19 hs19 hd19  g14 => ?_)
  refine then_normal ?_
  replace g5 : (VarP 7 (Is (.agg c1.toArray))) W19 (a19.eval (.tmp 5)) := by rw [ho19 5 rfl]; exact (VarP.st (Is.st _)) _ _ _ hx19 g5
  replace g6 : (VarP 7 (Is (.agg c2.toArray))) W19 (a19.eval (.tmp 6)) := by rw [ho19 6 rfl]; exact (VarP.st (Is.st _)) _ _ _ hx19 g6
  replace g7 : (VarP 7 (Is (.agg c3.toArray))) W19 (a19.eval (.tmp 7)) := by rw [ho19 7 rfl]; exact (VarP.st (Is.st _)) _ _ _ hx19 g7
  replace g8 : (VarP 17 (Is (.agg x.cells.toArray))) W19 (a19.eval (.tmp 8)) := by rw [ho19 8 rfl]; exact (VarP.st (Is.st _)) _ _ _ hx19 g8
  replace g13 : (VarP 7 (ExA (quad (leaf 1 (kF n)) (leaf 1 (kF n + 1)) e1 failsE))) W19 (a19.eval (.tmp 13)) := by rw [ho19 13 rfl]; exact (VarP.st ExA.st) _ _ _ hx19 g13
  replace hW : Ext w W19 := hW.trans hx19
  replace hd19 : a19.defers = [] := hd19.trans hd18
  replace he1 := he1.ext hx19
  replace he2 := he2.ext hx19
  replace he3 := he3.ext hx19
  replace hef := hef.ext hx19
  clear hx19 ho19
  refine wp_seq (ld9 x hok n c1 c2 c3 e1 e2 e3 hl1 hl2 hl3  _ _ _ hs19 he1 he2 he3 g5 g8 fun a20 W20 hx20 ho20 hs20 hd20 g15 g16 => ?_)
  refine then_normal ?_
  replace g5 : (VarP 7 (Is (.agg c1.toArray))) W20 (a20.eval (.tmp 5)) := by rw [ho20 5 rfl]; exact (VarP.st (Is.st _)) _ _ _ hx20 g5
  replace g6 : (VarP 7 (Is (.agg c2.toArray))) W20 (a20.eval (.tmp 6)) := by rw [ho20 6 rfl]; exact (VarP.st (Is.st _)) _ _ _ hx20 g6
  replace g7 : (VarP 7 (Is (.agg c3.toArray))) W20 (a20.eval (.tmp 7)) := by rw [ho20 7 rfl]; exact (VarP.st (Is.st _)) _ _ _ hx20 g7
  replace g8 : (VarP 17 (Is (.agg x.cells.toArray))) W20 (a20.eval (.tmp 8)) := by rw [ho20 8 rfl]; exact (VarP.st (Is.st _)) _ _ _ hx20 g8
  replace g13 : (VarP 7 (ExA (quad (leaf 1 (kF n)) (leaf 1 (kF n + 1)) e1 failsE))) W20 (a20.eval (.tmp 13)) := by rw [ho20 13 rfl]; exact (VarP.st ExA.st) _ _ _ hx20 g13
  replace g14 : (VarP 7 (ExA (quad (leaf 1 (kF n)) (leaf 1 (kF n)) failsE e1))) W20 (a20.eval (.tmp 14)) := by rw [ho20 14 rfl]; exact (VarP.st ExA.st) _ _ _ hx20 g14
  replace hW : Ext w W20 := hW.trans hx20
  replace hd20 : a20.defers = [] := hd20.trans hd19
  replace he1 := he1.ext hx20
  replace he2 := he2.ext hx20
  replace he3 := he3.ext hx20
  clear hx20 ho20
  refine wp_seq (ld10 x hok n c1 c2 c3 e1 e2 e3 hl1 hl2 hl3  _ _ _ hs20  g8 g13 fun a21 W21 hx21 ho21 hs21 hd21 g17 g18 => ?_)
  refine then_normal ?_
  replace g5 : (VarP 7 (Is (.agg c1.toArray))) W21 (a21.eval (.tmp 5)) := by rw [ho21 5 rfl]; exact (VarP.st (Is.st _)) _ _ _ hx21 g5
  replace g6 : (VarP 7 (Is (.agg c2.toArray))) W21 (a21.eval (.tmp 6)) := by rw [ho21 6 rfl]; exact (VarP.st (Is.st _)) _ _ _ hx21 g6
  replace g7 : (VarP 7 (Is (.agg c3.toArray))) W21 (a21.eval (.tmp 7)) := by rw [ho21 7 rfl]; exact (VarP.st (Is.st _)) _ _ _ hx21 g7
  replace g8 : (VarP 17 (Is (.agg x.cells.toArray))) W21 (a21.eval (.tmp 8)) := by rw [ho21 8 rfl]; exact (VarP.st (Is.st _)) _ _ _ hx21 g8
  replace g14 : (VarP 7 (ExA (quad (leaf 1 (kF n)) (leaf 1 (kF n)) failsE e1))) W21 (a21.eval (.tmp 14)) := by rw [ho21 14 rfl]; exact (VarP.st ExA.st) _ _ _ hx21 g14
  replace g15 : (Is (.int .i64 ((EvalF e1 x).1))) W21 (a21.eval (.tmp 15)) := by rw [ho21 15 rfl]; exact (Is.st _) _ _ _ hx21 g15
  replace g16 : (Is (.int .i64 ((EvalF e1 x).2))) W21 (a21.eval (.tmp 16)) := by rw [ho21 16 rfl]; exact (Is.st _) _ _ _ hx21 g16
  replace hW : Ext w W21 := hW.trans hx21
  replace hd21 : a21.defers = [] := hd21.trans hd20
  replace he1 := he1.ext hx21
  replace he2 := he2.ext hx21
  replace he3 := he3.ext hx21
  clear hx21 ho21
  refine wp_seq (ld11 x hok n c1 c2 c3 e1 e2 e3 hl1 hl2 hl3  _ _ _ hs21  g8 g14 fun a22 W22 hx22 ho22 hs22 hd22 g19 g20 => ?_)
  refine then_normal ?_
  replace g5 : (VarP 7 (Is (.agg c1.toArray))) W22 (a22.eval (.tmp 5)) := by rw [ho22 5 rfl]; exact (VarP.st (Is.st _)) _ _ _ hx22 g5
  replace g6 : (VarP 7 (Is (.agg c2.toArray))) W22 (a22.eval (.tmp 6)) := by rw [ho22 6 rfl]; exact (VarP.st (Is.st _)) _ _ _ hx22 g6
  replace g7 : (VarP 7 (Is (.agg c3.toArray))) W22 (a22.eval (.tmp 7)) := by rw [ho22 7 rfl]; exact (VarP.st (Is.st _)) _ _ _ hx22 g7
  replace g8 : (VarP 17 (Is (.agg x.cells.toArray))) W22 (a22.eval (.tmp 8)) := by rw [ho22 8 rfl]; exact (VarP.st (Is.st _)) _ _ _ hx22 g8
  replace g15 : (Is (.int .i64 ((EvalF e1 x).1))) W22 (a22.eval (.tmp 15)) := by rw [ho22 15 rfl]; exact (Is.st _) _ _ _ hx22 g15
  replace g16 : (Is (.int .i64 ((EvalF e1 x).2))) W22 (a22.eval (.tmp 16)) := by rw [ho22 16 rfl]; exact (Is.st _) _ _ _ hx22 g16
  replace g17 : (Is (.int .i64 ((EvalF (quad (leaf 1 (kF n)) (leaf 1 (kF n + 1)) e1 failsE) x).1))) W22 (a22.eval (.tmp 17)) := by rw [ho22 17 rfl]; exact (Is.st _) _ _ _ hx22 g17
  replace g18 : (Is (.int .i64 ((EvalF (quad (leaf 1 (kF n)) (leaf 1 (kF n + 1)) e1 failsE) x).2))) W22 (a22.eval (.tmp 18)) := by rw [ho22 18 rfl]; exact (Is.st _) _ _ _ hx22 g18
  replace hW : Ext w W22 := hW.trans hx22
  replace hd22 : a22.defers = [] := hd22.trans hd21
  replace he1 := he1.ext hx22
  replace he2 := he2.ext hx22
  replace he3 := he3.ext hx22
  clear hx22 ho22
  have hL : EvalF (quad (leaf 1 (kF n)) (leaf 1 (kF n + 1)) e1 failsE) x = EvalF e1 x := left_eval (kF_bd n).1 (kF_bd n).2 hc3
  have hR : EvalF (quad (leaf 1 (kF n)) (leaf 1 (kF n)) failsE e1) x = EvalF e1 x := right_eval (kF_bd n).1 (kF_bd n).2 hc3
  refine wp_seq ?_
  refine wp_seq (ld12 x hok n c1 c2 c3 e1 e2 e3 hl1 hl2 hl3  _ _ _ hs22 hL hR g15 g16 g17 g18 g19 g20 fun a23 W23 hx23 ho23 hs23 hd23 g117 => ?_)
  refine then_normal ?_
  replace g5 : (VarP 7 (Is (.agg c1.toArray))) W23 (a23.eval (.tmp 5)) := by rw [ho23 5 rfl]; exact (VarP.st (Is.st _)) _ _ _ hx23 g5
  replace g6 : (VarP 7 (Is (.agg c2.toArray))) W23 (a23.eval (.tmp 6)) := by rw [ho23 6 rfl]; exact (VarP.st (Is.st _)) _ _ _ hx23 g6
  replace g7 : (VarP 7 (Is (.agg c3.toArray))) W23 (a23.eval (.tmp 7)) := by rw [ho23 7 rfl]; exact (VarP.st (Is.st _)) _ _ _ hx23 g7
  replace g8 : (VarP 17 (Is (.agg x.cells.toArray))) W23 (a23.eval (.tmp 8)) := by rw [ho23 8 rfl]; exact (VarP.st (Is.st _)) _ _ _ hx23 g8
  replace g15 : (Is (.int .i64 ((EvalF e1 x).1))) W23 (a23.eval (.tmp 15)) := by rw [ho23 15 rfl]; exact (Is.st _) _ _ _ hx23 g15
  replace g16 : (Is (.int .i64 ((EvalF e1 x).2))) W23 (a23.eval (.tmp 16)) := by rw [ho23 16 rfl]; exact (Is.st _) _ _ _ hx23 g16
  replace hW : Ext w W23 := hW.trans hx23
  replace hd23 : a23.defers = [] := hd23.trans hd22
  replace he1 := he1.ext hx23
  replace he2 := he2.ext hx23
  replace he3 := he3.ext hx23
  clear hx23 ho23
  refine cond_f g117 ?_
  refine wp_skip ?_
  refine then_normal ?_
  refine wp_seq (ld14 x hok n c1 c2 c3 e1 e2 e3 hl1 hl2 hl3  _ _ _ hs23 he1 he2 he3 g5 g6 g7 fun a24 W24 hx24 ho24 hs24 hd24  g21 => ?_)
  refine then_normal ?_
  replace g5 : (VarP 7 (Is (.agg c1.toArray))) W24 (a24.eval (.tmp 5)) := by rw [ho24 5 rfl]; exact (VarP.st (Is.st _)) _ _ _ hx24 g5
  replace g6 : (VarP 7 (Is (.agg c2.toArray))) W24 (a24.eval (.tmp 6)) := by rw [ho24 6 rfl]; exact (VarP.st (Is.st _)) _ _ _ hx24 g6
  replace g7 : (VarP 7 (Is (.agg c3.toArray))) W24 (a24.eval (.tmp 7)) := by rw [ho24 7 rfl]; exact (VarP.st (Is.st _)) _ _ _ hx24 g7
  replace g8 : (VarP 17 (Is (.agg x.cells.toArray))) W24 (a24.eval (.tmp 8)) := by rw [ho24 8 rfl]; exact (VarP.st (Is.st _)) _ _ _ hx24 g8
  replace g15 : (Is (.int .i64 ((EvalF e1 x).1))) W24 (a24.eval (.tmp 15)) := by rw [ho24 15 rfl]; exact (Is.st _) _ _ _ hx24 g15
  replace g16 : (Is (.int .i64 ((EvalF e1 x).2))) W24 (a24.eval (.tmp 16)) := by rw [ho24 16 rfl]; exact (Is.st _) _ _ _ hx24 g16
  replace hW : Ext w W24 := hW.trans hx24
  replace hd24 : a24.defers = [] := hd24.trans hd23
  replace he1 := he1.ext hx24
  replace he2 := he2.ext hx24
  replace he3 := he3.ext hx24
  clear hx24 ho24
  refine wp_seq (ld15 x hok n c1 c2 c3 e1 e2 e3 hl1 hl2 hl3  _ _ _ hs24  g8 g21 fun a25 W25 hx25 ho25 hs25 hd25 g22 g23 => ?_)
  refine then_normal ?_
  replace g5 : (VarP 7 (Is (.agg c1.toArray))) W25 (a25.eval (.tmp 5)) := by rw [ho25 5 rfl]; exact (VarP.st (Is.st _)) _ _ _ hx25 g5
  replace g6 : (VarP 7 (Is (.agg c2.toArray))) W25 (a25.eval (.tmp 6)) := by rw [ho25 6 rfl]; exact (VarP.st (Is.st _)) _ _ _ hx25 g6
  replace g7 : (VarP 7 (Is (.agg c3.toArray))) W25 (a25.eval (.tmp 7)) := by rw [ho25 7 rfl]; exact (VarP.st (Is.st _)) _ _ _ hx25 g7
  replace g8 : (VarP 17 (Is (.agg x.cells.toArray))) W25 (a25.eval (.tmp 8)) := by rw [ho25 8 rfl]; exact (VarP.st (Is.st _)) _ _ _ hx25 g8
  replace g15 : (Is (.int .i64 ((EvalF e1 x).1))) W25 (a25.eval (.tmp 15)) := by rw [ho25 15 rfl]; exact (Is.st _) _ _ _ hx25 g15
  replace g16 : (Is (.int .i64 ((EvalF e1 x).2))) W25 (a25.eval (.tmp 16)) := by rw [ho25 16 rfl]; exact (Is.st _) _ _ _ hx25 g16
  replace hW : Ext w W25 := hW.trans hx25
  replace hd25 : a25.defers = [] := hd25.trans hd24
  replace he1 := he1.ext hx25
  replace he2 := he2.ext hx25
  replace he3 := he3.ext hx25
  clear hx25 ho25
  refine wp_seq (ld16 x hok n c1 c2 c3 e1 e2 e3 hl1 hl2 hl3  _ _ _ hs25 he1 he2 he3 g6 g8 fun a26 W26 hx26 ho26 hs26 hd26 g24 g25 => ?_)
  refine then_normal ?_
  replace g7 : (VarP 7 (Is (.agg c3.toArray))) W26 (a26.eval (.tmp 7)) := by rw [ho26 7 rfl]; exact (VarP.st (Is.st _)) _ _ _ hx26 g7
  replace g8 : (VarP 17 (Is (.agg x.cells.toArray))) W26 (a26.eval (.tmp 8)) := by rw [ho26 8 rfl]; exact (VarP.st (Is.st _)) _ _ _ hx26 g8
  replace g15 : (Is (.int .i64 ((EvalF e1 x).1))) W26 (a26.eval (.tmp 15)) := by rw [ho26 15 rfl]; exact (Is.st _) _ _ _ hx26 g15
  replace g16 : (Is (.int .i64 ((EvalF e1 x).2))) W26 (a26.eval (.tmp 16)) := by rw [ho26 16 rfl]; exact (Is.st _) _ _ _ hx26 g16
  replace g22 : (Is (.int .i64 ((EvalF (quad e1 e2 e3 (leaf 1 7)) x).1))) W26 (a26.eval (.tmp 22)) := by rw [ho26 22 rfl]; exact (Is.st _) _ _ _ hx26 g22
  replace g23 : (Is (.int .i64 ((EvalF (quad e1 e2 e3 (leaf 1 7)) x).2))) W26 (a26.eval (.tmp 23)) := by rw [ho26 23 rfl]; exact (Is.st _) _ _ _ hx26 g23
  replace hW : Ext w W26 := hW.trans hx26
  replace hd26 : a26.defers = [] := hd26.trans hd25
  replace he1 := he1.ext hx26
  replace he2 := he2.ext hx26
  replace he3 := he3.ext hx26
  clear hx26 ho26
  refine wp_seq (ld17 x hok n c1 c2 c3 e1 e2 e3 hl1 hl2 hl3  _ _ _ hs26 he1 he2 he3 g7 g8 fun a27 W27 hx27 ho27 hs27 hd27 g26 g27 => ?_)
  refine then_normal ?_
  replace g15 : (Is (.int .i64 ((EvalF e1 x).1))) W27 (a27.eval (.tmp 15)) := by rw [ho27 15 rfl]; exact (Is.st _) _ _ _ hx27 g15
  replace g16 : (Is (.int .i64 ((EvalF e1 x).2))) W27 (a27.eval (.tmp 16)) := by rw [ho27 16 rfl]; exact (Is.st _) _ _ _ hx27 g16
  replace g22 : (Is (.int .i64 ((EvalF (quad e1 e2 e3 (leaf 1 7)) x).1))) W27 (a27.eval (.tmp 22)) := by rw [ho27 22 rfl]; exact (Is.st _) _ _ _ hx27 g22
  replace g23 : (Is (.int .i64 ((EvalF (quad e1 e2 e3 (leaf 1 7)) x).2))) W27 (a27.eval (.tmp 23)) := by rw [ho27 23 rfl]; exact (Is.st _) _ _ _ hx27 g23
  replace g24 : (Is (.int .i64 ((EvalF e2 x).1))) W27 (a27.eval (.tmp 24)) := by rw [ho27 24 rfl]; exact (Is.st _) _ _ _ hx27 g24
  replace g25 : (Is (.int .i64 ((EvalF e2 x).2))) W27 (a27.eval (.tmp 25)) := by rw [ho27 25 rfl]; exact (Is.st _) _ _ _ hx27 g25
  replace hW : Ext w W27 := hW.trans hx27
  replace hd27 : a27.defers = [] := hd27.trans hd26
  replace he1 := he1.ext hx27
  replace he2 := he2.ext hx27
  replace he3 := he3.ext hx27
  clear hx27 ho27
  have hq : EvalF (quad e1 e2 e3 (leaf 1 7)) x = _ := quad_eval hc3 hc4 hc5 (int_form (by decide) (by decide))
  refine wp_seq ?_
  refine wp_block ?_
  by_cases ha : (EvalF e1 x).2 = 0
  case neg =>
    have hqv : EvalF (quad e1 e2 e3 (leaf 1 7)) x = (0, (EvalF e1 x).2) := by rw [hq, if_pos ha]
    refine wp_seq (ld18a x hok n c1 c2 c3 e1 e2 e3 hl1 hl2 hl3  _ _ _ hs27 ha g16 fun a28 W28 hx28 ho28 hs28 hd28 g142 => ?_)
    refine then_normal ?_
    replace g15 : (Is (.int .i64 ((EvalF e1 x).1))) W28 (a28.eval (.tmp 15)) := by rw [ho28 15 rfl]; exact (Is.st _) _ _ _ hx28 g15
    replace g16 : (Is (.int .i64 ((EvalF e1 x).2))) W28 (a28.eval (.tmp 16)) := by rw [ho28 16 rfl]; exact (Is.st _) _ _ _ hx28 g16
    replace g22 : (Is (.int .i64 ((EvalF (quad e1 e2 e3 (leaf 1 7)) x).1))) W28 (a28.eval (.tmp 22)) := by rw [ho28 22 rfl]; exact (Is.st _) _ _ _ hx28 g22
    replace g23 : (Is (.int .i64 ((EvalF (quad e1 e2 e3 (leaf 1 7)) x).2))) W28 (a28.eval (.tmp 23)) := by rw [ho28 23 rfl]; exact (Is.st _) _ _ _ hx28 g23
    replace g24 : (Is (.int .i64 ((EvalF e2 x).1))) W28 (a28.eval (.tmp 24)) := by rw [ho28 24 rfl]; exact (Is.st _) _ _ _ hx28 g24
    replace g25 : (Is (.int .i64 ((EvalF e2 x).2))) W28 (a28.eval (.tmp 25)) := by rw [ho28 25 rfl]; exact (Is.st _) _ _ _ hx28 g25
    replace g26 : (Is (.int .i64 ((EvalF e3 x).1))) W28 (a28.eval (.tmp 26)) := by rw [ho28 26 rfl]; exact (Is.st _) _ _ _ hx28 g26
    replace g27 : (Is (.int .i64 ((EvalF e3 x).2))) W28 (a28.eval (.tmp 27)) := by rw [ho28 27 rfl]; exact (Is.st _) _ _ _ hx28 g27
    replace hW : Ext w W28 := hW.trans hx28
    replace hd28 : a28.defers = [] := hd28.trans hd27
    replace he1 := he1.ext hx28
    replace he2 := he2.ext hx28
    replace he3 := he3.ext hx28
    clear hx28 ho28
    refine cond_t g142 ?_
    refine wp_seq (ld19 x hok n c1 c2 c3 e1 e2 e3 hl1 hl2 hl3  _ _ _ hs28 hqv g16 g22 g23 fun a29 W29 hx29 ho29 hs29 hd29 g10 => ?_)
    refine then_normal ?_
    replace g15 : (Is (.int .i64 ((EvalF e1 x).1))) W29 (a29.eval (.tmp 15)) := by rw [ho29 15 rfl]; exact (Is.st _) _ _ _ hx29 g15
    replace g16 : (Is (.int .i64 ((EvalF e1 x).2))) W29 (a29.eval (.tmp 16)) := by rw [ho29 16 rfl]; exact (Is.st _) _ _ _ hx29 g16
    replace g22 : (Is (.int .i64 ((EvalF (quad e1 e2 e3 (leaf 1 7)) x).1))) W29 (a29.eval (.tmp 22)) := by rw [ho29 22 rfl]; exact (Is.st _) _ _ _ hx29 g22
    replace g23 : (Is (.int .i64 ((EvalF (quad e1 e2 e3 (leaf 1 7)) x).2))) W29 (a29.eval (.tmp 23)) := by rw [ho29 23 rfl]; exact (Is.st _) _ _ _ hx29 g23
    replace g24 : (Is (.int .i64 ((EvalF e2 x).1))) W29 (a29.eval (.tmp 24)) := by rw [ho29 24 rfl]; exact (Is.st _) _ _ _ hx29 g24
    replace g25 : (Is (.int .i64 ((EvalF e2 x).2))) W29 (a29.eval (.tmp 25)) := by rw [ho29 25 rfl]; exact (Is.st _) _ _ _ hx29 g25
    replace g26 : (Is (.int .i64 ((EvalF e3 x).1))) W29 (a29.eval (.tmp 26)) := by rw [ho29 26 rfl]; exact (Is.st _) _ _ _ hx29 g26
    replace g27 : (Is (.int .i64 ((EvalF e3 x).2))) W29 (a29.eval (.tmp 27)) := by rw [ho29 27 rfl]; exact (Is.st _) _ _ _ hx29 g27
    replace g142 : (Is (.bool true)) W29 (a29.eval (.tmp 142)) := by rw [ho29 142 rfl]; exact (Is.st _) _ _ _ hx29 g142
    replace hW : Ext w W29 := hW.trans hx29
    replace hd29 : a29.defers = [] := hd29.trans hd28
    replace he1 := he1.ext hx29
    replace he2 := he2.ext hx29
    replace he3 := he3.ext hx29
    clear hx29 ho29
    refine wp_ret ?_
    show bodyPost Try.prog Try.f7 (fun en w1 => en = .returned (.bool true) ∧ Ext w w1) .ret _ _
    exact ret_is Try.results7 hd29 g10 ⟨rfl, hW⟩
  refine wp_seq (ld18b x hok n c1 c2 c3 e1 e2 e3 hl1 hl2 hl3  _ _ _ hs27 ha g16 fun a30 W30 hx30 ho30 hs30 hd30 g142 => ?_)
  refine then_normal ?_
  replace g15 : (Is (.int .i64 ((EvalF e1 x).1))) W30 (a30.eval (.tmp 15)) := by rw [ho30 15 rfl]; exact (Is.st _) _ _ _ hx30 g15
  replace g16 : (Is (.int .i64 ((EvalF e1 x).2))) W30 (a30.eval (.tmp 16)) := by rw [ho30 16 rfl]; exact (Is.st _) _ _ _ hx30 g16
  replace g22 : (Is (.int .i64 ((EvalF (quad e1 e2 e3 (leaf 1 7)) x).1))) W30 (a30.eval (.tmp 22)) := by rw [ho30 22 rfl]; exact (Is.st _) _ _ _ hx30 g22
  replace g23 : (Is (.int .i64 ((EvalF (quad e1 e2 e3 (leaf 1 7)) x).2))) W30 (a30.eval (.tmp 23)) := by rw [ho30 23 rfl]; exact (Is.st _) _ _ _ hx30 g23
  replace g24 : (Is (.int .i64 ((EvalF e2 x).1))) W30 (a30.eval (.tmp 24)) := by rw [ho30 24 rfl]; exact (Is.st _) _ _ _ hx30 g24
  replace g25 : (Is (.int .i64 ((EvalF e2 x).2))) W30 (a30.eval (.tmp 25)) := by rw [ho30 25 rfl]; exact (Is.st _) _ _ _ hx30 g25
  replace g26 : (Is (.int .i64 ((EvalF e3 x).1))) W30 (a30.eval (.tmp 26)) := by rw [ho30 26 rfl]; exact (Is.st _) _ _ _ hx30 g26
  replace g27 : (Is (.int .i64 ((EvalF e3 x).2))) W30 (a30.eval (.tmp 27)) := by rw [ho30 27 rfl]; exact (Is.st _) _ _ _ hx30 g27
  replace hW : Ext w W30 := hW.trans hx30
  replace hd30 : a30.defers = [] := hd30.trans hd27
  replace he1 := he1.ext hx30
  replace he2 := he2.ext hx30
  replace he3 := he3.ext hx30
  clear hx30 ho30
  refine cond_f g142 ?_
  by_cases hb : (EvalF e2 x).2 = 0
  case neg =>
    have hqv : EvalF (quad e1 e2 e3 (leaf 1 7)) x = (0, (EvalF e2 x).2) := by rw [hq, if_neg (by simpa using ha), if_pos hb]
    refine wp_seq (ld20a x hok n c1 c2 c3 e1 e2 e3 hl1 hl2 hl3  _ _ _ hs30 hb g25 fun a31 W31 hx31 ho31 hs31 hd31 g152 => ?_)
    refine then_normal ?_
    replace g15 : (Is (.int .i64 ((EvalF e1 x).1))) W31 (a31.eval (.tmp 15)) := by rw [ho31 15 rfl]; exact (Is.st _) _ _ _ hx31 g15
    replace g16 : (Is (.int .i64 ((EvalF e1 x).2))) W31 (a31.eval (.tmp 16)) := by rw [ho31 16 rfl]; exact (Is.st _) _ _ _ hx31 g16
    replace g22 : (Is (.int .i64 ((EvalF (quad e1 e2 e3 (leaf 1 7)) x).1))) W31 (a31.eval (.tmp 22)) := by rw [ho31 22 rfl]; exact (Is.st _) _ _ _ hx31 g22
    replace g23 : (Is (.int .i64 ((EvalF (quad e1 e2 e3 (leaf 1 7)) x).2))) W31 (a31.eval (.tmp 23)) := by rw [ho31 23 rfl]; exact (Is.st _) _ _ _ hx31 g23
    replace g24 : (Is (.int .i64 ((EvalF e2 x).1))) W31 (a31.eval (.tmp 24)) := by rw [ho31 24 rfl]; exact (Is.st _) _ _ _ hx31 g24
    replace g25 : (Is (.int .i64 ((EvalF e2 x).2))) W31 (a31.eval (.tmp 25)) := by rw [ho31 25 rfl]; exact (Is.st _) _ _ _ hx31 g25
    replace g26 : (Is (.int .i64 ((EvalF e3 x).1))) W31 (a31.eval (.tmp 26)) := by rw [ho31 26 rfl]; exact (Is.st _) _ _ _ hx31 g26
    replace g27 : (Is (.int .i64 ((EvalF e3 x).2))) W31 (a31.eval (.tmp 27)) := by rw [ho31 27 rfl]; exact (Is.st _) _ _ _ hx31 g27
    replace g142 : (Is (.bool false)) W31 (a31.eval (.tmp 142)) := by rw [ho31 142 rfl]; exact (Is.st _) _ _ _ hx31 g142
    replace hW : Ext w W31 := hW.trans hx31
    replace hd31 : a31.defers = [] := hd31.trans hd30
    replace he1 := he1.ext hx31
    replace he2 := he2.ext hx31
    replace he3 := he3.ext hx31
    clear hx31 ho31
    refine cond_t g152 ?_
    refine wp_seq (ld21 x hok n c1 c2 c3 e1 e2 e3 hl1 hl2 hl3  _ _ _ hs31 hqv g22 g23 g25 fun a32 W32 hx32 ho32 hs32 hd32 g10 => ?_)
    refine then_normal ?_
    replace g15 : (Is (.int .i64 ((EvalF e1 x).1))) W32 (a32.eval (.tmp 15)) := by rw [ho32 15 rfl]; exact (Is.st _) _ _ _ hx32 g15
    replace g16 : (Is (.int .i64 ((EvalF e1 x).2))) W32 (a32.eval (.tmp 16)) := by rw [ho32 16 rfl]; exact (Is.st _) _ _ _ hx32 g16
    replace g22 : (Is (.int .i64 ((EvalF (quad e1 e2 e3 (leaf 1 7)) x).1))) W32 (a32.eval (.tmp 22)) := by rw [ho32 22 rfl]; exact (Is.st _) _ _ _ hx32 g22
    replace g23 : (Is (.int .i64 ((EvalF (quad e1 e2 e3 (leaf 1 7)) x).2))) W32 (a32.eval (.tmp 23)) := by rw [ho32 23 rfl]; exact (Is.st _) _ _ _ hx32 g23
    replace g24 : (Is (.int .i64 ((EvalF e2 x).1))) W32 (a32.eval (.tmp 24)) := by rw [ho32 24 rfl]; exact (Is.st _) _ _ _ hx32 g24
    replace g25 : (Is (.int .i64 ((EvalF e2 x).2))) W32 (a32.eval (.tmp 25)) := by rw [ho32 25 rfl]; exact (Is.st _) _ _ _ hx32 g25
    replace g26 : (Is (.int .i64 ((EvalF e3 x).1))) W32 (a32.eval (.tmp 26)) := by rw [ho32 26 rfl]; exact (Is.st _) _ _ _ hx32 g26
    replace g27 : (Is (.int .i64 ((EvalF e3 x).2))) W32 (a32.eval (.tmp 27)) := by rw [ho32 27 rfl]; exact (Is.st _) _ _ _ hx32 g27
    replace g142 : (Is (.bool false)) W32 (a32.eval (.tmp 142)) := by rw [ho32 142 rfl]; exact (Is.st _) _ _ _ hx32 g142
    replace g152 : (Is (.bool true)) W32 (a32.eval (.tmp 152)) := by rw [ho32 152 rfl]; exact (Is.st _) _ _ _ hx32 g152
    replace hW : Ext w W32 := hW.trans hx32
    replace hd32 : a32.defers = [] := hd32.trans hd31
    replace he1 := he1.ext hx32
    replace he2 := he2.ext hx32
    replace he3 := he3.ext hx32
    clear hx32 ho32
    refine wp_ret ?_
    show bodyPost Try.prog Try.f7 (fun en w1 => en = .returned (.bool true) ∧ Ext w w1) .ret _ _
    exact ret_is Try.results7 hd32 g10 ⟨rfl, hW⟩
  refine wp_seq (ld20b x hok n c1 c2 c3 e1 e2 e3 hl1 hl2 hl3  _ _ _ hs30 hb g25 fun a33 W33 hx33 ho33 hs33 hd33 g152 => ?_)
  refine then_normal ?_
  replace g15 : (Is (.int .i64 ((EvalF e1 x).1))) W33 (a33.eval (.tmp 15)) := by rw [ho33 15 rfl]; exact (Is.st _) _ _ _ hx33 g15
  replace g16 : (Is (.int .i64 ((EvalF e1 x).2))) W33 (a33.eval (.tmp 16)) := by rw [ho33 16 rfl]; exact (Is.st _) _ _ _ hx33 g16
  replace g22 : (Is (.int .i64 ((EvalF (quad e1 e2 e3 (leaf 1 7)) x).1))) W33 (a33.eval (.tmp 22)) := by rw [ho33 22 rfl]; exact (Is.st _) _ _ _ hx33 g22
  replace g23 : (Is (.int .i64 ((EvalF (quad e1 e2 e3 (leaf 1 7)) x).2))) W33 (a33.eval (.tmp 23)) := by rw [ho33 23 rfl]; exact (Is.st _) _ _ _ hx33 g23
  replace g24 : (Is (.int .i64 ((EvalF e2 x).1))) W33 (a33.eval (.tmp 24)) := by rw [ho33 24 rfl]; exact (Is.st _) _ _ _ hx33 g24
  replace g25 : (Is (.int .i64 ((EvalF e2 x).2))) W33 (a33.eval (.tmp 25)) := by rw [ho33 25 rfl]; exact (Is.st _) _ _ _ hx33 g25
  replace g26 : (Is (.int .i64 ((EvalF e3 x).1))) W33 (a33.eval (.tmp 26)) := by rw [ho33 26 rfl]; exact (Is.st _) _ _ _ hx33 g26
  replace g27 : (Is (.int .i64 ((EvalF e3 x).2))) W33 (a33.eval (.tmp 27)) := by rw [ho33 27 rfl]; exact (Is.st _) _ _ _ hx33 g27
  replace g142 : (Is (.bool false)) W33 (a33.eval (.tmp 142)) := by rw [ho33 142 rfl]; exact (Is.st _) _ _ _ hx33 g142
  replace hW : Ext w W33 := hW.trans hx33
  replace hd33 : a33.defers = [] := hd33.trans hd30
  replace he1 := he1.ext hx33
  replace he2 := he2.ext hx33
  replace he3 := he3.ext hx33
  clear hx33 ho33
  refine cond_f g152 ?_
  by_cases hlt : (EvalF e1 x).1 < (EvalF e2 x).1
  case pos =>
    have hqv : EvalF (quad e1 e2 e3 (leaf 1 7)) x = (EvalF e3 x) := by rw [hq, if_neg (by simpa using ha), if_neg (by simpa using hb), if_pos hlt]
    refine wp_seq (ld22a x hok n c1 c2 c3 e1 e2 e3 hl1 hl2 hl3  _ _ _ hs33 hlt g15 g24 fun a34 W34 hx34 ho34 hs34 hd34 g162 => ?_)
    refine then_normal ?_
    replace g15 : (Is (.int .i64 ((EvalF e1 x).1))) W34 (a34.eval (.tmp 15)) := by rw [ho34 15 rfl]; exact (Is.st _) _ _ _ hx34 g15
    replace g16 : (Is (.int .i64 ((EvalF e1 x).2))) W34 (a34.eval (.tmp 16)) := by rw [ho34 16 rfl]; exact (Is.st _) _ _ _ hx34 g16
    replace g22 : (Is (.int .i64 ((EvalF (quad e1 e2 e3 (leaf 1 7)) x).1))) W34 (a34.eval (.tmp 22)) := by rw [ho34 22 rfl]; exact (Is.st _) _ _ _ hx34 g22
    replace g23 : (Is (.int .i64 ((EvalF (quad e1 e2 e3 (leaf 1 7)) x).2))) W34 (a34.eval (.tmp 23)) := by rw [ho34 23 rfl]; exact (Is.st _) _ _ _ hx34 g23
    replace g24 : (Is (.int .i64 ((EvalF e2 x).1))) W34 (a34.eval (.tmp 24)) := by rw [ho34 24 rfl]; exact (Is.st _) _ _ _ hx34 g24
    replace g25 : (Is (.int .i64 ((EvalF e2 x).2))) W34 (a34.eval (.tmp 25)) := by rw [ho34 25 rfl]; exact (Is.st _) _ _ _ hx34 g25
    replace g26 : (Is (.int .i64 ((EvalF e3 x).1))) W34 (a34.eval (.tmp 26)) := by rw [ho34 26 rfl]; exact (Is.st _) _ _ _ hx34 g26
    replace g27 : (Is (.int .i64 ((EvalF e3 x).2))) W34 (a34.eval (.tmp 27)) := by rw [ho34 27 rfl]; exact (Is.st _) _ _ _ hx34 g27
    replace g142 : (Is (.bool false)) W34 (a34.eval (.tmp 142)) := by rw [ho34 142 rfl]; exact (Is.st _) _ _ _ hx34 g142
    replace g152 : (Is (.bool false)) W34 (a34.eval (.tmp 152)) := by rw [ho34 152 rfl]; exact (Is.st _) _ _ _ hx34 g152
    replace hW : Ext w W34 := hW.trans hx34
    replace hd34 : a34.defers = [] := hd34.trans hd33
    replace he1 := he1.ext hx34
    replace he2 := he2.ext hx34
    replace he3 := he3.ext hx34
    clear hx34 ho34
    refine cond_t g162 ?_
    refine wp_seq (ld23 x hok n c1 c2 c3 e1 e2 e3 hl1 hl2 hl3  _ _ _ hs34 hqv g22 g23 g26 g27 fun a35 W35 hx35 ho35 hs35 hd35 g10 => ?_)
    refine then_normal ?_
    replace g15 : (Is (.int .i64 ((EvalF e1 x).1))) W35 (a35.eval (.tmp 15)) := by rw [ho35 15 rfl]; exact (Is.st _) _ _ _ hx35 g15
    replace g16 : (Is (.int .i64 ((EvalF e1 x).2))) W35 (a35.eval (.tmp 16)) := by rw [ho35 16 rfl]; exact (Is.st _) _ _ _ hx35 g16
    replace g22 : (Is (.int .i64 ((EvalF (quad e1 e2 e3 (leaf 1 7)) x).1))) W35 (a35.eval (.tmp 22)) := by rw [ho35 22 rfl]; exact (Is.st _) _ _ _ hx35 g22
    replace g23 : (Is (.int .i64 ((EvalF (quad e1 e2 e3 (leaf 1 7)) x).2))) W35 (a35.eval (.tmp 23)) := by rw [ho35 23 rfl]; exact (Is.st _) _ _ _ hx35 g23
    replace g24 : (Is (.int .i64 ((EvalF e2 x).1))) W35 (a35.eval (.tmp 24)) := by rw [ho35 24 rfl]; exact (Is.st _) _ _ _ hx35 g24
    replace g25 : (Is (.int .i64 ((EvalF e2 x).2))) W35 (a35.eval (.tmp 25)) := by rw [ho35 25 rfl]; exact (Is.st _) _ _ _ hx35 g25
    replace g26 : (Is (.int .i64 ((EvalF e3 x).1))) W35 (a35.eval (.tmp 26)) := by rw [ho35 26 rfl]; exact (Is.st _) _ _ _ hx35 g26
    replace g27 : (Is (.int .i64 ((EvalF e3 x).2))) W35 (a35.eval (.tmp 27)) := by rw [ho35 27 rfl]; exact (Is.st _) _ _ _ hx35 g27
    replace g142 : (Is (.bool false)) W35 (a35.eval (.tmp 142)) := by rw [ho35 142 rfl]; exact (Is.st _) _ _ _ hx35 g142
    replace g152 : (Is (.bool false)) W35 (a35.eval (.tmp 152)) := by rw [ho35 152 rfl]; exact (Is.st _) _ _ _ hx35 g152
    replace g162 : (Is (.bool true)) W35 (a35.eval (.tmp 162)) := by rw [ho35 162 rfl]; exact (Is.st _) _ _ _ hx35 g162
    replace hW : Ext w W35 := hW.trans hx35
    replace hd35 : a35.defers = [] := hd35.trans hd34
    replace he1 := he1.ext hx35
    replace he2 := he2.ext hx35
    replace he3 := he3.ext hx35
    clear hx35 ho35
    refine wp_ret ?_
    show bodyPost Try.prog Try.f7 (fun en w1 => en = .returned (.bool true) ∧ Ext w w1) .ret _ _
    exact ret_is Try.results7 hd35 g10 ⟨rfl, hW⟩
  have hqv : EvalF (quad e1 e2 e3 (leaf 1 7)) x = (7, 0) := by rw [hq, if_neg (by simpa using ha), if_neg (by simpa using hb), if_neg hlt]; exact int_eval (by decide) (by decide)
  refine wp_seq (ld22b x hok n c1 c2 c3 e1 e2 e3 hl1 hl2 hl3  _ _ _ hs33 hlt g15 g24 fun a36 W36 hx36 ho36 hs36 hd36 g162 => ?_)
  refine then_normal ?_
  replace g15 : (Is (.int .i64 ((EvalF e1 x).1))) W36 (a36.eval (.tmp 15)) := by rw [ho36 15 rfl]; exact (Is.st _) _ _ _ hx36 g15
  replace g16 : (Is (.int .i64 ((EvalF e1 x).2))) W36 (a36.eval (.tmp 16)) := by rw [ho36 16 rfl]; exact (Is.st _) _ _ _ hx36 g16
  replace g22 : (Is (.int .i64 ((EvalF (quad e1 e2 e3 (leaf 1 7)) x).1))) W36 (a36.eval (.tmp 22)) := by rw [ho36 22 rfl]; exact (Is.st _) _ _ _ hx36 g22
  replace g23 : (Is (.int .i64 ((EvalF (quad e1 e2 e3 (leaf 1 7)) x).2))) W36 (a36.eval (.tmp 23)) := by rw [ho36 23 rfl]; exact (Is.st _) _ _ _ hx36 g23
  replace g24 : (Is (.int .i64 ((EvalF e2 x).1))) W36 (a36.eval (.tmp 24)) := by rw [ho36 24 rfl]; exact (Is.st _) _ _ _ hx36 g24
  replace g25 : (Is (.int .i64 ((EvalF e2 x).2))) W36 (a36.eval (.tmp 25)) := by rw [ho36 25 rfl]; exact (Is.st _) _ _ _ hx36 g25
  replace g26 : (Is (.int .i64 ((EvalF e3 x).1))) W36 (a36.eval (.tmp 26)) := by rw [ho36 26 rfl]; exact (Is.st _) _ _ _ hx36 g26
  replace g27 : (Is (.int .i64 ((EvalF e3 x).2))) W36 (a36.eval (.tmp 27)) := by rw [ho36 27 rfl]; exact (Is.st _) _ _ _ hx36 g27
  replace g142 : (Is (.bool false)) W36 (a36.eval (.tmp 142)) := by rw [ho36 142 rfl]; exact (Is.st _) _ _ _ hx36 g142
  replace g152 : (Is (.bool false)) W36 (a36.eval (.tmp 152)) := by rw [ho36 152 rfl]; exact (Is.st _) _ _ _ hx36 g152
  replace hW : Ext w W36 := hW.trans hx36
  replace hd36 : a36.defers = [] := hd36.trans hd33
  replace he1 := he1.ext hx36
  replace he2 := he2.ext hx36
  replace he3 := he3.ext hx36
  clear hx36 ho36
  refine cond_f g162 ?_
  refine wp_skip ?_
  refine in_normal (then_normal ?_)
  refine wp_seq (ld24 x hok n c1 c2 c3 e1 e2 e3 hl1 hl2 hl3  _ _ _ hs36 hqv g22 g23 fun a37 W37 hx37 ho37 hs37 hd37 g10 => ?_)
  refine then_normal ?_
  replace g15 : (Is (.int .i64 ((EvalF e1 x).1))) W37 (a37.eval (.tmp 15)) := by rw [ho37 15 rfl]; exact (Is.st _) _ _ _ hx37 g15
  replace g16 : (Is (.int .i64 ((EvalF e1 x).2))) W37 (a37.eval (.tmp 16)) := by rw [ho37 16 rfl]; exact (Is.st _) _ _ _ hx37 g16
  replace g22 : (Is (.int .i64 ((EvalF (quad e1 e2 e3 (leaf 1 7)) x).1))) W37 (a37.eval (.tmp 22)) := by rw [ho37 22 rfl]; exact (Is.st _) _ _ _ hx37 g22
  replace g23 : (Is (.int .i64 ((EvalF (quad e1 e2 e3 (leaf 1 7)) x).2))) W37 (a37.eval (.tmp 23)) := by rw [ho37 23 rfl]; exact (Is.st _) _ _ _ hx37 g23
  replace g24 : (Is (.int .i64 ((EvalF e2 x).1))) W37 (a37.eval (.tmp 24)) := by rw [ho37 24 rfl]; exact (Is.st _) _ _ _ hx37 g24
  replace g25 : (Is (.int .i64 ((EvalF e2 x).2))) W37 (a37.eval (.tmp 25)) := by rw [ho37 25 rfl]; exact (Is.st _) _ _ _ hx37 g25
  replace g26 : (Is (.int .i64 ((EvalF e3 x).1))) W37 (a37.eval (.tmp 26)) := by rw [ho37 26 rfl]; exact (Is.st _) _ _ _ hx37 g26
  replace g27 : (Is (.int .i64 ((EvalF e3 x).2))) W37 (a37.eval (.tmp 27)) := by rw [ho37 27 rfl]; exact (Is.st _) _ _ _ hx37 g27
  replace g142 : (Is (.bool false)) W37 (a37.eval (.tmp 142)) := by rw [ho37 142 rfl]; exact (Is.st _) _ _ _ hx37 g142
  replace g152 : (Is (.bool false)) W37 (a37.eval (.tmp 152)) := by rw [ho37 152 rfl]; exact (Is.st _) _ _ _ hx37 g152
  replace g162 : (Is (.bool false)) W37 (a37.eval (.tmp 162)) := by rw [ho37 162 rfl]; exact (Is.st _) _ _ _ hx37 g162
  replace hW : Ext w W37 := hW.trans hx37
  replace hd37 : a37.defers = [] := hd37.trans hd36
  replace he1 := he1.ext hx37
  replace he2 := he2.ext hx37
  replace he3 := he3.ext hx37
  clear hx37 ho37
  refine wp_ret ?_
  show bodyPost Try.prog Try.f7 (fun en w1 => en = .returned (.bool true) ∧ Ext w w1) .ret _ _
  exact ret_is Try.results7 hd37 g10 ⟨rfl, hW⟩

end Go.Proofs.Ytophdbbbojnobaa
